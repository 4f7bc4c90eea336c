/- Texts one behind the other. -/
import Derived.Test.YtigbmclkjknnjaaGreatZ6
import Derived.Test.YtigbmclkjknnjaaGreatZ4
import Derived.Test.YtigbmclkjknnjaaGreatZ5
import Derived.Test.YtigbmclkjknnjaaGreatZ3
set_option linter.all false
set_option maxRecDepth 100000
set_option maxHeartbeats 8000000
namespace Go.Proofs.YtigbmclkjknnjaaGreat
open Go.V
theorem c6r{s:k4}{g:Nat}{v:Nat}{m:X7}{mo:Mo}{ps:List (Pr×X2)}{st:U6}{x:gM}(hm:Z4 m mo ps)(ho:Z3 mo)(jB:a0P mo)(iQ:Fit mo st)(hg:GB s g)(hv:Vs s v g m mo st x){c:Nat}(hc:c<mo.ae.length)
 {R:Hs}{dS dG:D}{rS rG:List (List D)}{eS eG:Hs}{jA resG:Option (List Bool)}(hR:Y2 s R)(hS:Rp dS 2 rS eS)(Bz:Y2 s eS)(h2:∀r∈rS,r.length=2)(yI:a1F R rS jA)(hw:∀l,jA=some l->l.length=(U7 mo.ae c).width.toNat)(wB:rS.length<=90000)(hG:Rp dG 1 rG eG)(CF:Y2 s eG)(h1:∀r∈rG,r.length=1)(CM:a1F R rG resG)(BJ:rG.length<=90000) :
 Y4 U5 88 [.ptr v 0,.int .i64 (c:Int),.agg [dS,dG]] s λr s'=>∃dz dm R',r=.aT [dz,dm]/\(∀e∈R',s.next<=e.1)/\Y2 s' R'/\Rr R' dz (U3 (iG (U7 mo.ae c).room jA.isSome resG.isSome (U8 st.ae c).length))/\LL R' dm ((List.range (U7 mo.ae c).room.toNat).map (mo.mvM st jA.isSome resG.isSome (jA.getD (U1 (λ_=>false) (U7 mo.ae c).width.toNat)) c))/\Fr [] s s':=by
 obtain⟨bs,rfl,xD⟩:=CM.bits h1;have oS:=hS.one;have oG:=hG.one;have px:VB s dG bs:=(hG.rr (R:=eG) λe he=>he).vb CF;have jw:=hS.len;have hlG':=px.len;rw[a9E,a5p]at BJ;have gv:=hv.get;have lv:=t3 gv;have oo:=hv.aw;have om:=hm.aw;have nA:=FLC.idx hm.c hc (k:=.i64);rw[<- a2W hc]at nA;unfold Ch.row at nA;have mM:=jB.ch _ (a3S hc);have hlen:=(a15.2 iQ).cl c hc;obtain⟨W,hW⟩:∃W:Nat,(U7 mo.ae c).width=(W:Int):=⟨(U7 mo.ae c).width.toNat,oJ⟩
 have yk:(U7 mo.ae c).width.toNat=W:=by rw[hW];rfl
 rw[hW]at nA;rw[yk]at hw⊢;have f0:Fr [] s (s.push (.cells [dS,dG])):=Fr.push _;have Bh:(s.push (.cells [dS,dG])).get s.next=some (.cells [dS,dG]):=W8 rfl;obtain⟨q1,y1,i1,i2,rU,pE⟩:=hv.sz hc (k:=.i64);obtain⟨q2,y2,i3,i4,vu,mP⟩:=hv.ms hc (k:=.i64);have EW:=a7j i2 f0;have DH:=a7j i4 f0;have m1:=fu (w:=W) oJ;have m2:=eK (w:=W) oJ;have hz:=a2c W;have m3:=fu (w:=rS.length) oJ;have m4:=eK (w:=rS.length) oJ;have wW:=a2c rS.length;rw[a3Q (gh rS)]at wW;have nU:(jA.getD (U1 (λ_=>false) W)).length=W:=by
  cases hq:jA with
  |none=>simp
  |some l=>simpa using hw l hq
 obtain⟨wL,Ek⟩:∃wL,wL=jA.getD (U1 (λ_=>false) W):=⟨_,rfl⟩
 rw[<- Ek]at nU⊢;refine Y0 (vf:=vf88) rfl ?_;unfold vf88;refine zF ?_;refine zY (U0 gv om oo oS oG i1 EW (U0 i3 DH rU vu nA m1 m2 (W0 hz jw m3 m4 wW))) ?_;have BR:(((s.push (.cells [dS,dG])).push (.cells (U3 (U1 (λ_=>false) W)))).push (.cells (U3 (U1 (Y1 (gh rS) 0) rS.length)))).get (s.next+1)=some (.cells (U3 (U1 (λ_=>false) W))):=by rw[a0k sJ,W8 sJ]
 have lE:(((s.push (.cells [dS,dG])).push (.cells (U3 (U1 (λ_=>false) W)))).push (.cells (U3 (U1 (Y1 (gh rS) 0) rS.length)))).get s.next=some (.cells [dS,dG]):=by rw[a0k qJ,a0k sJ,W8 rfl]
 have CR:(((s.push (.cells [dS,dG])).push (.cells (U3 (U1 (λ_=>false) W)))).push (.cells (U3 (U1 (Y1 (gh rS) 0) rS.length)))).get (s.next+1+1)=some (.cells (U3 (U1 (Y1 (gh rS) 0) rS.length))):=W8 sJ;have f3:Fr [] s (((s.push (.cells [dS,dG])).push (.cells (U3 (U1 (λ_=>false) W)))).push (.cells (U3 (U1 (Y1 (gh rS) 0) rS.length)))):=((Fr.push _).ak _).ak _;generalize((s.push (.cells [dS,dG])).push (.cells (U3 (U1 (λ_=>false) W)))).push (.cells (U3 (U1 (Y1 (gh rS) 0) rS.length)))=s3 at *;clear Bh f0 EW DH hz wW m3 m4;refine a1d [0,1,2,5,6,7,8,9,10,11,12,15,16,17,18,19,20,21,22,23,24,25,26,27,61,62,86,87,88,89,98,115,116,117,169] (λf s'=>s'.get (s.next+1+1)=some (.cells (U3 (U1 (gh rS) rS.length)))/\s'.get (s.next+1)=some (.cells (U3 (U1 (λ_=>false) W)))/\s'.get s.next=some (.cells [dS,dG])/\Fr [] s s') ?_ ?_
 .refine W6 [0,1,2,5,6,7,8,9,10,11,12,15,16,17,18,19,20,21,22,23,24,25,26,27,61,62,86,87,88,89,98,115,116,117,169] 0 rS.length (λi f s'=>f 63=.int .i64 (i:Int)/\s'.get (s.next+1+1)=some (.cells (U3 (U1 (Y1 (gh rS) i) rS.length)))/\s'.get (s.next+1)=some (.cells (U3 (U1 (λ_=>false) W)))/\s'.get s.next=some (.cells [dS,dG])/\Fr [] s s') (.mk rfl) oJ ⟨rfl,CR,BR,lE,f3⟩ ?_
  clear CR BR lE f3;rintro i f s4 hi ⟨h,gn,gz,gb,fr⟩;by_cases ci:i<rS.length
  rotate_left
  .obtain rfl:i=rS.length:=oJ
   rw[a3w]at gn;refine zY (aN h ci) ?_;exact⟨gn,gz,gb,fr⟩
  obtain⟨id,j1,j2⟩:=hS.row2 (Bz.fr fr) h2 ci (k:=.i64);obtain⟨b,dd,e,od⟩:=yI.two h2 _ (Fp ci);rw[e]at j2;have qI:=c6X ci e;have lb:=t3 gn;have mj:=a5E (A:=gh rS) (b:=b) ci qI;have se:=a3d (A:=gh rS) ci;refine zY (U0 h ci j1 j2 od gn mj se) ?_;have fb:∀a b,Fr [] s4 ((s4.push a).set s4.next (some b)):=λa b=>a1Q
  exact⟨gz,gb,(fr.trans (fb _ _) sJ).st oJ _⟩
 clear CR BR lE f3;rintro f s4 ⟨gn,gz,gb,fr⟩;refine V9 ?_;refine iJ (a6u (hg.fr fr) (VB.bk gn) oJ) sJ λs5 E5 f5 hE5=>?_
 rw[c76 yI h2];have jO:=fr.trans f5 sJ;have uX:=f5.kp gb;have yx:a1K s.next E5:=a4V hE5 (t3 gb);refine zY (V4 uX yx oG) ?_;refine a28 (xb (a8K (hg.fr jO) (px.fr jO) oJ) λs6 f6=>?_);rw[xD];have jP:=jO.trans f6 sJ;have tA:=f6.kp uX;have Eg:=f6.kp (f5.kp gz);refine zY (aN tA oS) ?_;have DY:Y2 s6 [(s.next+1,U3 (U1 (λ_=>false) W))]:=λe he=>by rw[Fu.1 he];exact Eg
 refine a0M (b30 (bO:=U1 (λ_=>false) W) (hg.fr jP) DY (Rr.dU sJ) qJ (hR.fr jP) hS (Bz.fr jP) h2 yI (sU hw) wB) rfl ?_;rintro r s7 ⟨R7,n7,AJ,Aj,f7⟩;have mC:=jP.trans f7 sJ;have or7:=Aj.one;have tc:=Aj.vb (AJ.append (DY.fr f7));rw[<- Ek]at tc Aj;have tc:VB s7 r (U1 (aB wL) W):=tc.fh (by rw[<- nU];exact(a5r wL).symm);have gz7:=f7.kp Eg;have nV:0<(U7 mo.ae c).room.toNat:=oJ;have uK:=mP.len hv.hs;rw[show(mo.ey st c).length=(U7 mo.ae c).room.toNat by simp[Mo.ey]]at uK;have uf:(mo.ey st c).length=(U7 mo.ae c).room.toNat:=by simp[Mo.ey]
 have Dr:∀i(hi:i<(mo.ey st c).length),(mo.ey st c)[i]=mo.cH st c i:=λi hi=>by simp[Mo.ey]
 have pU:GH s7.next s7 [] []:=⟨⟨sJ,sJ,by simp[Y2],by simp[Y2]⟩,sJ⟩
 refine zY (V4 or7 vu uK) ?_;refine a1d [0,1,2,5,6,7,8,9,10,11,12,13,14,15,16,17,25,26,27,61,62,63,64,86,87,169] (λf s'=>V5 (f 18)=true/\∃ds E R8,GH s7.next s' E R8/\Rp (f 18) 1 (a0K ds) E/\GL R8 ds ((List.range (U7 mo.ae c).room.toNat).map (mo.mvM st jA.isSome resG.isSome wL c))/\(∀e∈R8,s7.next<=e.1)/\Fr [] s7 s') ?_ ?_
 .refine W6 [0,1,2,5,6,7,8,9,10,11,12,13,14,15,16,17,25,26,27,61,62,63,64,86,87,169] 0 (U7 mo.ae c).room.toNat (λi f s'=>f 88=.int .i64 (i:Int)/\∃ds E R8,GH s7.next s' E R8/\Rp (f 18) 1 (a0K ds) E/\GL R8 ds ((List.range i).map (mo.mvM st jA.isSome resG.isSome wL c))/\(∀e∈R8,s7.next<=e.1)/\Fr [] s7 s') (.mk rfl) oJ ⟨rfl,[],[],[],pU,.inl ⟨rfl,rfl,rfl⟩,⟨rfl,rfl,sJ⟩,sJ,Fr.refl _ _⟩ ?_
  clear pU;rintro i f s8 hi ⟨h,ds,E8,R8,kO,mH,nQ,ur,f8⟩;have o8:=mH.one;by_cases ci:i<(U7 mo.ae c).room.toNat
  rotate_left
  .obtain rfl:i=(U7 mo.ae c).room.toNat:=oJ
   refine zY (V4 h ci o8) ?_;exact⟨ds,E8,R8,kO,mH,nQ,ur,f8⟩
  have lW:=mC.trans f8 sJ;have nL:=nQ.n;rw[FT,GG]at nL;obtain⟨p1,z1,j1,j2,tN⟩:=mP.idx (hv.fr lW).hs (i:=i) oJ (k:=.i64);have Cq:=tN.one;have tN:=tN.vb (hv.fr lW).hs;rw[Dr]at tN;have Au:=tN.len;rw[show(mo.cH st c i).length=W by simp[Mo.cH,yk]]at Au;have tN:VB s8 z1 (U1 (aB (mo.cH st c i)) W):=tN.fh (by have:=a5r (mo.cH st c i);rw[show(mo.cH st c i).length=W by simp[Mo.cH,yk]]at this;exact this.symm);by_cases c1:i+1<(U7 mo.ae c).room.toNat
  obtain⟨p2,bd,k1,k2,vp⟩:=mP.idx (hv.fr lW).hs (i:=i+1) oJ (k:=.i64);have Dy:=vp.one;have vp:=vp.vb (hv.fr lW).hs;rw[Dr]at vp;have hN:mo.msN st c i=mo.cH st c (i+1):=by unfold Mo.msN;rw[Fk c1]
  have vp:VB s8 bd (U1 (aB (mo.msN st c i)) W):=vp.fh (by rw[hN];have:=a5r (mo.cH st c (i+1));rw[show(mo.cH st c (i+1)).length=W by simp[Mo.cH,yk]]at this;exact this.symm);refine zY (U0 h ci j1 j2 Cq uK vu (V1 c1 k1 k2 Dy)) ?_;rotate_left
  have hN:mo.msN st c i=U1 (λ_=>false) W:=by unfold Mo.msN;rw[so c1,yk]
  obtain⟨bd,tF⟩:∃bd,bd=D.arr (s.next+1) 0 W 1:=⟨_,rfl⟩
  have Dy:V5 bd=true:=by rw[tF];rfl
  have vp:VB s8 bd (U1 (aB (mo.msN st c i)) W):=by
   rw[tF,hN];exact(VB.bk (f8.kp gz7)).fh (by rw[show U1 (aB (U1 (λ_=>false) W)) W=U1 (λ_=>false) W from a4I λj hj=>a8z hj])
  have c1:(i+1<(U7 mo.ae c).room.toNat)=False:=sU c1;refine zY (U0 h ci j1 j2 Cq uK vu c1) ?_;rw[<- tF]
  all_goals
   refine xb (b2G (n:=(U8 st.ae c).length) (k:=i) (hg.fr lW) (pE.fr lW) oJ oJ oJ) λs9 f9=>?_
   have qC:=lW.trans f9 sJ;refine V9 ?_;refine xb (a1A (hg.fr qC) _ _) λoj f10=>?_
   have qY:=qC.trans f10 sJ;have mT:=f9.trans f10 sJ;have hz:=a2c W;generalize hA:(λj=>(if resG.isSome then aB (mo.msN st c i) j else aB (mo.cH st c i) j)||((jA.isSome&&decide ((U8 st.ae c).length=i))&&aB wL j))=A;rw[a3Q A]at hz;refine zY (W0 Cq Au m1 m2 hz) ?_;obtain⟨gl,fl⟩:=iE (s:=oj) (A:=A) (w:=W);generalize oj.push (.cells (U3 (U1 (Y1 A 0) W)))=wS at *;refine a1d [0,1,2,5,6,7,8,9,10,11,12,13,14,15,16,17,18,19,20,21,22,23,25,26,27,61,62,63,64,86,87,88,89,98,115,169] (λf s'=>s'.get oj.next=some (.cells (U3 (U1 A W)))/\Fr [] oj s') ?_ ?_
   .refine W6 [0,1,2,5,6,7,8,9,10,11,12,13,14,15,16,17,18,19,20,21,22,23,25,26,27,61,62,63,64,86,87,88,89,98,115,169] 0 W (λj f2 s'=>f2 116=.int .i64 (j:Int)/\s'.get oj.next=some (.cells (U3 (U1 (Y1 A j) W)))/\Fr [] oj s') (.mk rfl) oJ ⟨rfl,gl,fl⟩ ?_
    clear gl fl;rintro j f2 Eo hj ⟨h',gl,fl⟩;by_cases cj:j<W
    rotate_left
    .obtain rfl:j=W:=oJ
     rw[a3w]at gl;refine zY (aN h' cj) ?_;exact⟨gl,fl⟩
    have oB:=mT.trans fl sJ;have nZ:=lW.trans oB sJ;obtain⟨q1,l1,l2⟩:=(vp.fr oB).cQ cj (k:=.i64);obtain⟨q2,l3,l4⟩:=(tN.fr oB).cQ cj (k:=.i64);obtain⟨q3,l5,l6⟩:=(tc.fr (f8.trans oB sJ)).cQ cj (k:=.i64);have hq3:=(tc.fr (f8.trans oB sJ)).ptr l5;refine zY (V4 h' cj l1) ?_;refine b1y l2 ?_;refine zY l3 ?_;refine b1y l4 ?_;refine V9 ?_;refine iJ (b5Y (hg.fr nZ) resG.isSome (aB (mo.msN st c i) j) (aB (mo.cH st c i) j)) sJ λBT E13 f13 hE13=>?_
    have l6':=a7j l6 f13;refine zY l5 ?_;refine bd_w l6' (λid off e=>by simp[a2l,a1n];exact a4V hE13 (hq3 id off e)) ?_;refine V9 ?_;refine a28 (xb (a1A (hg.fr (nZ.trans f13 sJ)) _ _) λEb f14=>?_);have fr14:=(nZ.trans f13 sJ).trans f14 sJ;refine V9 ?_;refine xb (a6O (hg.fr fr14) _ _) λs15 f15=>?_
    have wK:=(f13.trans f14 sJ).trans f15 sJ;have Ar:=wK.kp gl;have ll15:=t3 Ar;have mj:=a5E (A:=A) (b:=(if resG.isSome then aB (mo.msN st c i) j else aB (mo.cH st c i) j)||((jA.isSome&&decide ((U8 st.ae c).length=i))&&aB wL j)) cj (by rw[<- hA]);have se:=a3d (A:=A) cj;refine zY (V4 Ar mj se) ?_;exact⟨cj,(fl.trans wK sJ).st (sm _) _⟩
   clear gl fl;rintro f2 Eo ⟨gl,fl⟩;have oB:=mT.trans fl sJ;have uY:=kO.add1 oB gl mT.1;refine zY o8 ?_;refine a9Q (A:=[]) (B:=[]) (sU uY) (by have:=f8.1;have:=oB.1;omega) mH oJ λid BT hrp13 hgh13 f13=>?_
   have f13:=GH.frW (A:=[]) (F:=E8) (B:=[]) (sU uY) (f8.trans oB sJ) f13;refine V9 ?_;refine⟨ci,_,_,_,sU hgh13,sU hrp13,?_,?_,f13⟩
   .simp only[FK,FJ,HZ]
    refine(nQ.mono λe he=>by simp[he]).snoc ?_;have e:mo.mvM st jA.isSome resG.isSome wL c i=U1 A W:=by unfold Mo.mvM;rw[yk,hA]
    rw[e];exact Rr.dU sJ
   .intro e he
    rcases Fi.1 he with rfl|he
    .have:=f8.1;have:=mT.1;simp only;omega
    .exact ur e he
 rintro f s8 ⟨o8,ds,E8,R8,kO,mH,nQ,ur,f8⟩;have lW:=mC.trans f8 sJ;have DG:=(hv.fr lW).get;have lv8:=t3 DG;have tk:VB s y1 (U1 (W1 ((U8 st.ae c).length:Int)) 2):=pE;obtain⟨p0,a0,b0⟩:=(tk.fr lW).cQ (i:=0) dJ (k:=.i64);obtain⟨p1,a1,_⟩:=(tk.fr lW).cQ (i:=1) dJ (k:=.i64);have a0:W7 1 y1 (.int .i64 0)=some p0:=a0;have a1:W7 1 y1 (.int .i64 1)=some p1:=a1;have jT:=(tk.fr lW).ptr a1;have jV:=(tk.fr lW).ptr a0;have xF:=a3a (W1 ((U8 st.ae c).length:Int) 0);have b1:=(tk.fr lW).ldF (i:=1) dJ a1;have fin:∀s' z,Fr [] s8 s'->z=iG (U7 mo.ae c).room jA.isSome resG.isSome (U8 st.ae c).length->∃R',(∀e∈R',s.next<=e.1)/\Y2 (s'.push (.cells (U3 z))) R'/\Rr R' (.arr s'.next 0 2 1) (U3 (iG (U7 mo.ae c).room jA.isSome resG.isSome (U8 st.ae c).length))/\LL R' (f 18) ((List.range (U7 mo.ae c).room.toNat).map (mo.mvM st jA.isSome resG.isSome wL c))/\Fr [] s (s'.push (.cells (U3 z))):=by
  rintro s' z f9 rfl;have f10:=f9.ak (.cells (U3 (iG (U7 mo.ae c).room jA.isSome resG.isSome (U8 st.ae c).length)));refine⟨(s'.next,U3 (iG (U7 mo.ae c).room jA.isSome resG.isSome (U8 st.ae c).length))::(E8++R8),?_,?_,Rr.dU rfl,?_,lW.trans f10 sJ⟩
  .have h1:=mC.1
   have h2:=lW.1;have h3:=f9.1;intro e he;rcases Fi.1 he with rfl|he
   .simp only;omega
   .rcases Fm.1 he with he|he
    .have:=kO.ge e he;omega
    .have:=ur e he;omega
  .intro e he
   rcases Fi.1 he with rfl|he
   .exact W8 rfl
   .rcases Fm.1 he with he|he
    .exact kO.hp.w.fr f10 e he
    .exact kO.hp.r.fr f10 e he
  .exact(nQ.mono λe he=>by simp[he]).ll mH λe he=>by simp[he]
 refine zY (V4 o8 rU a0) ?_;refine bd_o b0 (λid=>by simp[a2l]) ?_ λid jb=>?_
 all_goals
  refine V9 ?_;refine iJ (a6O (hg.fr lW) jA.isSome resG.isSome) (by
   intro e he _ jl hid';simp only[Fi,FW,Hg]at he<;>(subst he;simp only[Gn]at hid';omega)) λs9 E9 f9 uG=>?_
  have qC:=lW.trans f9 sJ;refine V9 ?_;refine iJ (a8d (hg.fr qC) (W1 ((U8 st.ae c).length:Int) 0) (jA.isSome||resG.isSome)) sJ λoj E10 f10 hE10=>?_
  have mT:=f9.trans f10 sJ;have qY:=qC.trans f10 sJ;have An:=mT.kp DG;have vX:=a7j b1 mT;refine zY (aN rU a1) ?_;refine bd_w vX (λid off e=>by simp[a2l,a1n];exact⟨a4V hE10 (by have:=jT id off e;have:=f9.1;omega),a4V uG (jT id off e)⟩) ?_;by_cases c2:1<(U7 mo.ae c).room
  .refine zY (X0 An om oo nA c2 a0 rU) ?_
   refine b1y (a7j b0 mT) ?_;refine V9 ?_;refine iJ (a1A (hg.fr qY) jA.isSome (W1 ((U8 st.ae c).length:Int) 0)) sJ λwS E11 f11 sE=>?_
   have zo:=mT.trans f11 sJ;have yT:=qY.trans f11 sJ;refine zY a0 ?_;refine bd_w (a7j b0 zo) (λid off e=>by simp[a2l,a1n];exact a4V sE (by have:=jV id off e;have:=mT.1;omega)) ?_;refine zY xF ?_;refine a28 (xb (a1A (hg.fr yT) resG.isSome (!W1 ((U8 st.ae c).length:Int) 0)) λEo f12=>?_);have nZ:=yT.trans f12 sJ;refine V9 ?_;refine xb (a6O (hg.fr nZ) _ _) λBT f13=>?_
   have fr13:=nZ.trans f13 sJ;refine V9 ?_;refine xb (a8d (hg.fr fr13) _ _) λEb f14=>?_
   have f814:=((zo.trans f12 sJ).trans f13 sJ).trans f14 sJ;obtain⟨R',h1,h2,h3,h4,h5⟩:=fin Eb [W1 ((U8 st.ae c).length:Int) 0 != (jA.isSome||resG.isSome),W1 ((U8 st.ae c).length:Int) 1 != ((jA.isSome&&W1 ((U8 st.ae c).length:Int) 0)||(resG.isSome&&!W1 ((U8 st.ae c).length:Int) 0))] f814 (by unfold iG;rw[Fk c2]);refine zY o8 ?_;exact⟨_,_,R',rfl,h1,h2,h3,h4,h5⟩
  .have km:(1<(U7 mo.ae c).room)=False:=by simpa using c2
   refine zY (X4 An om oo nA km o8) ?_;obtain⟨R',h1,h2,h3,h4,h5⟩:=fin oj [W1 ((U8 st.ae c).length:Int) 0 != (jA.isSome||resG.isSome),W1 ((U8 st.ae c).length:Int) 1] mT (by unfold iG;rw[so c2]);exact⟨_,_,R',rfl,h1,h2,h3,h4,h5⟩
end Go.Proofs.YtigbmclkjknnjaaGreat
namespace Go.V
variable{mo:Mo}{st:U6}{res:Rs}
theorem nx_st(ho:Z3 mo)(hf:a0P mo)(iQ:Fit mo st){ls:List Mv}{k0:Nat}(h0:ls.length<=k0->res=cC)(h1:k0<ls.length->mo.cF st (X3 ls k0) res) :
 a4g mo res/\∃ju,a6V mo ju/\fW ju/\(∀i,i<mo.procs.length->mo.iF st res i=mo.cM ju i)/\(∀i,i<mo.vars.length->mo.gQ st res i=mo.cE ju i)/\(∀c,c<mo.ae.length->mo.gf st res c=Mo.cN ju c)/\(k0<ls.length->X3 ls k0∈mo.aA st->ju=mo.ee st (X3 ls k0)/\∀c,c<mo.ae.length->∀i,i<(U7 mo.ae c).room.toNat->mo.nxM st res c i=mo.cH ju c i):=by
 have jD:a4g mo res:=by
  by_cases c:k0<ls.length
  .grind[c2E]
  .rw[h0 oJ];exact .no
 refine⟨jD,?_⟩;by_cases L:k0<ls.length/\X3 ls k0∈mo.aA st
 .have kh:=b5Z L.2
  obtain⟨a,b,c⟩:=nx_do ho hf iQ kh (h1 L.1);have wu:=b4E ho hf iQ kh;exact⟨mo.ee st (X3 ls k0),wu.e ho hf,a51 hf wu,a,b,λi hi=>(b8K hf iQ hi (c i hi)).1,λ_ _=>⟨rfl,λi hi=>(b8K hf iQ hi (c i hi)).2⟩⟩
 .obtain⟨a,b,c,d,e⟩:=nxS_ok (st:=st) hf jD
  grind
variable{c:Nat}
theorem nxZ_no(h1:res 2 (c*2)=none)(h2:res 2 (c*2+1)=none):mo.gf st res c=Mo.cN st c:=by
 grind[Mo.gf,Mo.cN,b7w]
theorem nxL_no(h1:res 2 (c*2)=none)(h2:res 2 (c*2+1)=none):mo.nxL st res c=mo.ey st c:=by
 unfold Mo.nxL Mo.ey;simp_all[Mo.nxM,Mo.mvM,Mo.cH,b0d]
variable{i:Nat}
theorem c8E:(mo.nxM st res c i).length=(U7 mo.ae c).width.toNat:=by simp[Mo.nxM,Mo.mvM]
variable{R:Hs}
theorem LL.congr{d:D}{n:Nat}{f g:Nat->List Bool}(h:LL R d ((List.range n).map f))(e:∀i,i<n->f i=g i):LL R d ((List.range n).map g):=by
 grind[List.map_congr_left]
variable{s:k4}
theorem GH.start{x:Hs}{cs:List D}(h:Y2 s x):GH s.next (s.push (.cells cs)) [(s.next,cs)] x :=
 ⟨⟨sJ,λw hw r hr=>by
   rw[Fu.1 hw];have:=t3 (h r hr);simp only;omega,λe he=>by rw[Fu.1 he];exact W8 rfl,h.fr (Fr.push _)⟩,λe he=>by grind⟩
def a1x(g:Nat)(m:X7)(a b c d e:D):List D:=[.ptr g 0,m.dt,.int .i64 m.g,m.dc,m.dv,m.dp,m.ds,.bool m.b,a,b,c,d,e]
variable{m:X7}
theorem GH.gO{n0 o g:Nat}{a b c d e:D}{E:Hs}(h:GH n0 s ((o,a1x g m a b c d e)::E) R):s.get o=some (.cells [.ptr g 0,m.dt,.int .i64 m.g,m.dc,m.dv,m.dp,m.ds,.bool m.b,a,b,c,d,e]):=h.get (A:=[])
theorem GH.sO{n0 o g:Nat}{a b c d e:D}{E:Hs}(h:GH n0 s ((o,a1x g m a b c d e)::E) R)(a' b' c' d' e':D):GH n0 (s.set o (some (.cells [.ptr g 0,m.dt,.int .i64 m.g,m.dc,m.dv,m.dp,m.ds,.bool m.b,a',b',c',d',e']))) ((o,a1x g m a' b' c' d' e')::E) R:=h.set (A:=[]) _
theorem b7i{A n:Nat}{c:Nat->D}(hg:s.get A=some (.cells ((List.range (2*n)).map c)))(hi:i<n):bF s.get (some 2) (.ptr A (i*2))=some (.agg [c (i*2),c (i*2+1)]):=by
 simp only[bF,hg,a2V];rw[Fk qJ];congr 2
 refine HB qJ λj h1 h2=>?_
 grind
theorem szB0:cN 2 (i*2)=2:=by simp[cN]
theorem szB1:cN 2 (i*2+1)=1:=by simp[cN]
def Nx(s:k4)(g:Nat)(m:X7)(mo:Mo)(st:U6)(ls:List Mv)(k0:Nat)(s':k4)(r:D):Prop :=
 ∃(v':Nat)(x':gM)(qO:U6)(jX:Nat->Nat->List Bool)(hb:Nat->Bool),r=.ptr v' 0/\Ve s' v' g m mo qO x'/\LM x'.r x'.m ((List.range mo.ae.length).map λc=>(List.range (U7 mo.ae c).room.toNat).map (jX c))/\(∀c i,(jX c i).length=(U7 mo.ae c).width.toNat)/\Rr x'.r x'.h (U3 (U1 hb 3))/\Fr [] s s'/\(k0<ls.length->X3 ls k0∈mo.aA st->qO=mo.ee st (X3 ls k0)/\(∀c,c<mo.ae.length->∀i,i<(U7 mo.ae c).room.toNat->jX c i=mo.cH qO c i)/\U1 hb 3=bL (qO.hold+1) 3)
end Go.V
namespace Go.Proofs.YtigbmclkjknnjaaGreat
open Go.V
theorem next_c{s:k4}{g:Nat}{v:Nat}{m:X7}{mo:Mo}{ps:List (Pr×X2)}{st:U6}{x:gM}(hm:Z4 m mo ps)(ho:Z3 mo)(jB:a0P mo)(h8:fW st)(iQ:Fit mo st)(hg:GB s g)(hv:Vs s v g m mo st x){d:D}{ls:List Mv}(hl:FL 4 d (a00 ls))(jD:∀v∈ls,a8a mo v)(nJ:ls.length<=20000){pb k0:Nat}(gp:s.get pb=some (.cells (U3 (U1 (λi=>decide (i=k0)) ls.length)))) :
 Y4 U5 45 [.ptr v 0,d,.arr pb 0 ls.length 1] s λr s'=>Nx s g m mo st ls k0 s' r:=by
 have gv:=hv.get;have lv:=t3 gv;have lp:=t3 gp;have oo:=hv.aw;have om:=hm.aw;have ow:=hm.eY;have ly:=hm.iC;have mY:=ho.np;have lD:=ho.nv;have nN:=ho.nc;have od:=hl.one;have fY:a0x false d=some (.int .i64 (ls.length:Int)):=by rw[hl.len];simp
 have lL:=hm.c;have xQ:=hm.p;have la:=hv.la.len hv.hs;have yy:=hv.lv.len hv.hs;simp only[FT,GG]at la yy;have z1:=b56 mo.procs.length;have z2:=b56 mo.vars.length;have z3:=c3P mo.ae.length;have m1:((24:Nat):Int)*(mo.procs.length:Int)<=2^47:=oJ;have m2:((24:Nat):Int)*(mo.vars.length:Int)<=2^47:=oJ;have m3:((48:Nat):Int)*(mo.ae.length:Int)<=2^47:=oJ;have n1:=eK (w:=mo.procs.length) oJ;have n2:=eK (w:=mo.vars.length) oJ;have n3:=eK (w:=mo.ae.length) oJ;have pU:=Bk.init (np:=mo.procs.length) (nv:=mo.vars.length) (nc:=mo.ae.length) hv.hs;refine Y0 (vf:=vf45) rfl ?_;unfold vf45;refine zF ?_;refine zY (U0 gv om oo od la yy ly (U0 fY z1 z2 z3 m1 m2 m3 (V4 n1 n2 n3))) ?_;have Ao:=pU;generalize((s.push (.cells ((List.range mo.procs.length).map λ_=>D.ag))).push (.cells ((List.range mo.vars.length).map λ_=>D.ag))).push (.cells ((List.range (2*mo.ae.length)).map λ_=>D.ag))=s1 at *;clear z1 z2 z3 m1 m2 m3 n1 n2 n3;refine a1d [0,1,2,6,7,8,9,10,20,21,22,23,24,25,26,27,51,52,301,302,303,304,328,329,330,331,353,354,355,376] (λf s'=>∃c rw E R res,Bk s s' (a5j s.next (s.next+1) (s.next+1+1)) (a8g mo.procs.length mo.vars.length mo.ae.length) c rw E R 80000/\(∀e∈x.r,e∈R)/\Sls R rw res/\(ls.length<=k0->res=cC)/\(k0<ls.length->mo.cF st (X3 ls k0) res)) ?_ ?_
 .refine W6 [0,1,2,6,7,8,9,10,20,21,22,23,24,25,26,27,51,52,301,302,303,304,328,329,330,331,353,354,355,376] 0 ls.length (λi f s'=>f 53=.int .i64 (i:Int)/\∃c rw E R res,Bk s s' (a5j s.next (s.next+1) (s.next+1+1)) (a8g mo.procs.length mo.vars.length mo.ae.length) c rw E R (4*i)/\(∀e∈x.r,e∈R)/\Sls R rw res/\(i<=k0->res=cC)/\(k0<i->mo.cF st (X3 ls k0) res)) (.mk rfl) oJ ⟨rfl,_,_,_,_,cC,pU,λe he=>he,λ_ _=>a1F.nil,λ_=>rfl,fJ⟩ ?_
  clear pU Ao;rintro i f s2 hi ⟨h,c,rw,E,R,res,hb,hR,mG,nV,ji⟩;by_cases ci:i<ls.length
  rotate_left
  .obtain rfl:i=ls.length:=oJ
   refine zY (aN h ci) ?_;exact⟨c,rw,E,R,res,hb.up oJ,hR,mG,nV,ji⟩
  have kh:=jD _ (a71 ci);have mA:=b0N hl ci (k:=.i64);have rV:=a2F (A:=λi=>decide (i=k0)) ci;have fr:=hb.fr;generalize uJ:X3 ls i=w at *;obtain⟨wk,wp,we,wc⟩:=w;unfold a8a at kh;simp only at kh mA;have lN:∀a b,Fr [] s2 ((s2.push a).set s2.next (some b)):=λa b=>a1Q
  rcases kh with⟨rfl,hp,he⟩|⟨hk,hc⟩
  .obtain⟨y,hy,iM⟩:=hm.proc hp
   have iM:=iM .i64;rw[<- a12 hp]at hy iM;unfold V0 at iM;have oy:=hy.aw;have jh:=ho.pr _ (a1S hp);have qw:=a6B (k:=.i64) hy.e he;have nt:=jh.inv.ed _ (a3U he);generalize mF:V3 (k7 mo.procs wp).ai we=e at *;have f2:Fr [] s2 ((((s2.push (.cells [.int .i64 0,.int .i64 0,.int .i64 0,.int .i64 0])).set s2.next (some (.cells [.int .i64 0,.int .i64 (wp:Int),.int .i64 (we:Int),.int .i64 (wc:Int)]))).push (.cells [.int .i64 0,.int .i64 0,.int .i64 0,.int .i64 0,.int .i64 0,.int .i64 0,.bool false,.int .i64 0])).set (s2.next+1) (some (.cells [.int .i64 (e.aq:Int),.int .i64 (e.to:Int),.int .i64 (e.act:Int),.int .i64 e.expr,.int .i64 e.var,.int .i64 e.chan,.bool e.aG,.int .i64 (e.node:Int)]))):=a1Q.trans b8s sJ;have pR:Bk s ((((s2.push (.cells [.int .i64 0,.int .i64 0,.int .i64 0,.int .i64 0])).set s2.next (some (.cells [.int .i64 0,.int .i64 (wp:Int),.int .i64 (we:Int),.int .i64 (wc:Int)]))).push (.cells [.int .i64 0,.int .i64 0,.int .i64 0,.int .i64 0,.int .i64 0,.int .i64 0,.bool false,.int .i64 0])).set (s2.next+1) (some (.cells [.int .i64 (e.aq:Int),.int .i64 (e.to:Int),.int .i64 (e.act:Int),.int .i64 e.expr,.int .i64 e.var,.int .i64 e.chan,.bool e.aG,.int .i64 (e.node:Int)]))) (a5j s.next (s.next+1) (s.next+1+1)) (a8g mo.procs.length mo.vars.length mo.ae.length) c rw E R (4*i):=hb.eN f2;have gE:(((((s2.push (.cells [.int .i64 0,.int .i64 0,.int .i64 0,.int .i64 0])).set s2.next (some (.cells [.int .i64 0,.int .i64 (wp:Int),.int .i64 (we:Int),.int .i64 (wc:Int)]))).push (.cells [.int .i64 0,.int .i64 0,.int .i64 0,.int .i64 0,.int .i64 0,.int .i64 0,.bool false,.int .i64 0])).set (s2.next+1) (some (.cells [.int .i64 (e.aq:Int),.int .i64 (e.to:Int),.int .i64 (e.act:Int),.int .i64 e.expr,.int .i64 e.var,.int .i64 e.chan,.bool e.aG,.int .i64 (e.node:Int)])))).get (s2.next+1)=some (.cells [.int .i64 (e.aq:Int),.int .i64 (e.to:Int),.int .i64 (e.act:Int),.int .i64 e.expr,.int .i64 e.var,.int .i64 e.chan,.bool e.aG,.int .i64 (e.node:Int)]):=a0b sJ;have gW:(((((s2.push (.cells [.int .i64 0,.int .i64 0,.int .i64 0,.int .i64 0])).set s2.next (some (.cells [.int .i64 0,.int .i64 (wp:Int),.int .i64 (we:Int),.int .i64 (wc:Int)]))).push (.cells [.int .i64 0,.int .i64 0,.int .i64 0,.int .i64 0,.int .i64 0,.int .i64 0,.bool false,.int .i64 0])).set (s2.next+1) (some (.cells [.int .i64 (e.aq:Int),.int .i64 (e.to:Int),.int .i64 (e.act:Int),.int .i64 e.expr,.int .i64 e.var,.int .i64 e.chan,.bool e.aG,.int .i64 (e.node:Int)])))).get s2.next=some (.cells [.int .i64 0,.int .i64 (wp:Int),.int .i64 (we:Int),.int .i64 (wc:Int)]):=by rw[Y8 oJ,a0k sJ,a0b sJ]
   have wD:=pR.fr.kp gp;have pY:=pR.fr.kp gv;have uA:(((((s2.push (.cells [.int .i64 0,.int .i64 0,.int .i64 0,.int .i64 0])).set s2.next (some (.cells [.int .i64 0,.int .i64 (wp:Int),.int .i64 (we:Int),.int .i64 (wc:Int)]))).push (.cells [.int .i64 0,.int .i64 0,.int .i64 0,.int .i64 0,.int .i64 0,.int .i64 0,.bool false,.int .i64 0])).set (s2.next+1) (some (.cells [.int .i64 (e.aq:Int),.int .i64 (e.to:Int),.int .i64 (e.act:Int),.int .i64 e.expr,.int .i64 e.var,.int .i64 e.chan,.bool e.aG,.int .i64 (e.node:Int)])))).get s.next=some (.cells ((List.range mo.procs.length).map (c 0))):=pR.ar 0 dJ;have qA:((List.range mo.procs.length).map (c 0))[wp]?=some (c 0 wp):=by simp[hp]
   have uW:=hb.one 0 wp;have gvA:=λa b=>(hb.eN (lN a b)).fr.kp gv
   obtain⟨q1,y1,j1,j2,rU,pE⟩:=(hv.fr pR.fr).e.aF hp (k:=.i64);have zk:=pE.len;rw[show(mo.cM st wp).length=wid ((k7 mo.procs wp).ah:Int) by unfold Mo.cM;rw[a1r]]at zk;have su:=a5P ((k7 mo.procs wp).ah:Int);obtain⟨dn,rY,hnz⟩:=c45 (e.to:Int) (w:=wid ((k7 mo.procs wp).ah:Int)) su.2;have rY:=a0l rY;have on:=(hnz.vb s).one;refine zY (U0 h ci mA wD pY om oo (U0 iM oy qw gvA uA qA uW (aN rV j1))) ?_;refine b1y j2 ?_;refine zY (V1 rU zk rY on) ?_;have Dt:Fre (a5j s.next (s.next+1) (s.next+1+1)) E s2.next:=hb.new (sm _);have hfE:Fre (a5j s.next (s.next+1) (s.next+1+1)) E (s2.next+1):=hb.new oJ;have hnW:=Dt.dh (k:=0) (j:=wp) (m:=s2.next+1+1+1) oJ;have mw:wp<((List.range mo.procs.length).map (c 0)).length:=sU hp;refine b0C (k:=0) (j:=wp) pR dJ hp rfl rfl dJ oJ (by simp[a2b,a1n];exact hnW) λs3 d' E3 nY oI iW kV hni=>?_
   have oI:s3.get s.next=some (.cells ((List.range mo.procs.length).map (c 0))):=oI;have Ds:=t3 oI;have hs:=a7H (f:=c) (k:=0) (j:=wp) (n:=mo.procs.length) (x:=d') hp;obtain⟨_,xB,fW3⟩:=iW _ _ gW Dt;obtain⟨_,pG,fE3⟩:=iW _ _ gE hfE;have xB:(s3.set s.next (some (.cells ((List.range mo.procs.length).map (X6 c 0 wp d' 0))))).get s2.next=some (.cells [.int .i64 0,.int .i64 (wp:Int),.int .i64 (we:Int),.int .i64 (wc:Int)]):=xB;have pG:(s3.set s.next (some (.cells ((List.range mo.procs.length).map (X6 c 0 wp d' 0))))).get (s2.next+1)=some (.cells [.int .i64 (e.aq:Int),.int .i64 (e.to:Int),.int .i64 (e.act:Int),.int .i64 e.expr,.int .i64 e.var,.int .i64 e.chan,.bool e.aG,.int .i64 (e.node:Int)]):=pG;have kV:Bk s (s3.set s.next (some (.cells ((List.range mo.procs.length).map (X6 c 0 wp d' 0))))) (a5j s.next (s.next+1) (s.next+1+1)) (a8g mo.procs.length mo.vars.length mo.ae.length) (X6 c 0 wp d') (X6 rw 0 wp (rw 0 wp++[[.int .i64 (V6 (decide (i=k0))),dn]])) E3 R (4*i+1):=kV;have nz:s.next≠s2.next:=by have:=hb.ltA (k:=0) dJ;simp only[a5j]at this;omega
   have rA:=mG.app (k:=0) (j:=wp) (b:=decide (i=k0)) (row:=[.int .i64 (V6 (decide (i=k0))),dn]) (l:=bL (e.to:Int) (wid ((k7 mo.procs wp).ah:Int))) rfl (a3k.two hnz.rr) (λe=>by rw[nV (by have:=Gp e;omega)];rfl);have ha:=nt.act;have h6:e.act=0\/e.act=1\/e.act=2\/e.act=3\/e.act=4\/e.act=5:=oJ;rcases h6 with ha|ha|ha|ha|ha|ha
   .refine zY (X0 nY oI mw hs nz pG ha) ?_
    have kn:=a7E (ls:=ls) (mS:=X6 res 0 wp (some (bL (e.to:Int) (wid ((k7 mo.procs wp).ah:Int))))) nV ji λe0=>by
     rw[uJ,e0];exact b5s mF oJ
    exact⟨ci,_,_,_,R,_,kV.up oJ,hR,rA,kn.1,kn.2⟩
   .obtain⟨k,ke,nR,oL⟩:=nt.eQ oJ
    obtain⟨u,xV,rN⟩:=nt.v1 oJ;have mV:=jh.var u xV;have nA:=FLV.idx hm.v mV (k:=.i64);rw[<- a3x mV]at nA;unfold Vr.row at nA;have sG:=jB.vr _ (Fp mV);rw[<- a3x mV]at sG;obtain⟨W,hW⟩:∃W:Nat,(bh mo.vars u).width=(W:Int):=⟨(bh mo.vars u).width.toNat,oJ⟩
    rw[hW]at nA;rw[ke,rN]at pG;have xp:=kV.fr.kp gv;have DX:=kV.fr.kp gp;refine zY (U0 nY oI mw hs nz pG xB ha) ?_;generalize s3.set s.next (some (.cells ((List.range mo.procs.length).map (X6 c 0 wp d' 0))))=s4 at *;have Bt:=t3 pG;have lW4:=t3 xB;refine xxm (a9b hm ho (hv.fr kV.fr).e hp) (λd s' h=>h.2) sJ λfo s5 E5 jy hE5=>?_
    obtain⟨jy,f5⟩:=jy;have oU:=jy.1;have uM:=kV.eN f5;have zQ:=f5.kp pG;have yx:a1K (s2.next+1) E5:=a4V hE5 Bt;refine zY (V4 zQ yx oU) ?_;refine a28 (a0M (a8S hm ho jB h8 (iQ.e ho jB) hp nR oL (hg.fr uM.fr) (hv.fr uM.fr).e jy) rfl ?_);rintro r s6 ⟨dz,z,rfl,oz,iz,hz,vz,f6⟩;have ru:=uM.eN f6;have ud:=f6.kp zQ;have lE6:=t3 ud;have yW:=ru.fr.kp gp;have zC:=ru.fr.kp gv;have lp6:=t3 yW;have lv6:=t3 zC;have tA:s6.get (s.next+1)=some (.cells ((List.range mo.vars.length).map (X6 c 0 wp d' 1))):=ru.ar 1 dJ;have lb6:=t3 tA;have Cp:((List.range mo.vars.length).map (X6 c 0 wp d' 1))[u]?=some (X6 c 0 wp d' 1 u):=by simp[mV]
    have BS:=ru.one 1 u;refine zY (U0 oz ud tA Cp BS yW rV (V1 zC om oo nA)) ?_;refine xxm (a9R (w:=W) hz (by rw[a1r];omega) (by rw[a1r];omega) oJ oJ) (λd s' h=>by obtain⟨b,_,_,_,f⟩:=h;exact f) qJ λdw s7 E7 zu Bn=>?_
    obtain⟨b7,rfl,nb7,g7,f7⟩:=zu;rw[c0V iz oJ]at g7;have tW:=(ru.eN f7).eV g7 (ru.new nb7);have wY:=f7.kp ud;have Eh:=t3 wY;have sC:=fE3.dh (k:=1) (j:=u) (m:=s7.next+1) oJ;have me:u<((List.range mo.vars.length).map (X6 c 0 wp d' 1)).length:=sU mV;refine V9 ?_;refine b0C (k:=1) (j:=u) tW dJ mV rfl rfl dJ oJ (by simp[a2b,a1n];exact sC) λs8 d8 E8 od8 pA hfr8 qV hni8=>?_
    have pA:s8.get (s.next+1)=some (.cells ((List.range mo.vars.length).map (X6 c 0 wp d' 1))):=pA;have Fb:=t3 pA;have Av:=a7H (f:=X6 c 0 wp d') (k:=1) (j:=u) (n:=mo.vars.length) (x:=d8) mV;refine zY (V1 od8 pA me Av) ?_;have yp:decide (i=k0)=true->res=cC:=λe=>nV (by have:=Gp e;omega)
    have ph:=(rA.mono (R':=(b7,U3 (bL z W))::R) λe he=>by simp[he]).app (k:=1) (j:=u) (b:=decide (i=k0)) (row:=[.int .i64 (V6 (decide (i=k0))),.arr b7 0 W 1]) (l:=bL z W) rfl (a3k.two (Rr.dU (a1r _ _))) λe=>b4Y yp e oJ
    rw[b2X]at ph;have kn:=a7E (ls:=ls) (mS:=X6 (X6 res 0 wp (some (bL (e.to:Int) (wid ((k7 mo.procs wp).ah:Int))))) 1 u (some (bL z W))) nV ji λe0=>by
     rw[uJ,e0];exact c6F mF ha ke rN iz vz (by rw[hW];rfl)
    exact⟨ci,_,_,_,_,_,qV.up oJ,λe he=>by simp[hR e he],ph,kn.1,kn.2⟩
   .obtain⟨k,ke,nR,oL⟩:=nt.eQ oJ
    obtain⟨u,rN,mV⟩:=nt.c1 oJ;have nA:=FLC.idx hm.c mV (k:=.i64);rw[<- a2W mV]at nA;unfold Ch.row at nA;have sG:=jB.ch _ (Fp mV);rw[<- a2W mV]at sG;obtain⟨W,hW⟩:∃W:Nat,(U7 mo.ae u).width=(W:Int):=⟨(U7 mo.ae u).width.toNat,oJ⟩
    rw[hW]at nA;rw[ke,rN]at pG;have xp:=kV.fr.kp gv;have DX:=kV.fr.kp gp;refine zY (U0 nY oI mw hs nz pG xB ha) ?_;generalize s3.set s.next (some (.cells ((List.range mo.procs.length).map (X6 c 0 wp d' 0))))=s4 at *;have Bt:=t3 pG;have lW4:=t3 xB;refine xxm (a9b hm ho (hv.fr kV.fr).e hp) (λd s' h=>h.2) sJ λfo s5 E5 jy hE5=>?_
    obtain⟨jy,f5⟩:=jy;have oU:=jy.1;have uM:=kV.eN f5;have zQ:=f5.kp pG;have yx:a1K (s2.next+1) E5:=a4V hE5 Bt;refine zY (V4 zQ yx oU) ?_;refine a28 (a0M (a8S hm ho jB h8 (iQ.e ho jB) hp nR oL (hg.fr uM.fr) (hv.fr uM.fr).e jy) rfl ?_);rintro r s6 ⟨dz,z,rfl,oz,iz,hz,vz,f6⟩;have ru:=uM.eN f6;have ud:=f6.kp zQ;have lE6:=t3 ud;have yW:=ru.fr.kp gp;have zC:=ru.fr.kp gv;have lp6:=t3 yW;have lv6:=t3 zC;have tA:s6.get (s.next+1+1)=some (.cells ((List.range (2*mo.ae.length)).map (X6 c 0 wp d' 2))):=ru.ar 2 dJ;have lb6:=t3 tA;have Cp:((List.range (2*mo.ae.length)).map (X6 c 0 wp d' 2))[u*2]?=some (X6 c 0 wp d' 2 (u*2)):=a8M oJ;have BS:=ru.one 2 (u*2);refine zY (U0 oz ud tA Cp BS yW rV (V1 zC om oo nA)) ?_;refine xxm (a9R (w:=W) hz (by rw[a1r];omega) (by rw[a1r];omega) oJ oJ) (λd s' h=>by obtain⟨b,_,_,_,f⟩:=h;exact f) qJ λdw s7 E7 zu Bn=>?_
    obtain⟨b7,rfl,nb7,g7,f7⟩:=zu;rw[c0V iz oJ]at g7;have tW:=(ru.eN f7).eV g7 (ru.new nb7);have wY:=f7.kp ud;have Eh:=t3 wY;have sC:=fE3.dh (k:=2) (j:=u*2) (m:=s7.next+1) oJ;have me:u*2<((List.range (2*mo.ae.length)).map (X6 c 0 wp d' 2)).length:=by simp;omega
    refine V9 ?_;refine b0C (k:=2) (j:=u*2) tW dJ (by show _<2*mo.ae.length;omega) (by simp[cN]) rfl dJ oJ (by simp[a2b,a1n];exact sC) λs8 d8 E8 od8 pA hfr8 qV hni8=>?_
    have pA:s8.get (s.next+1+1)=some (.cells ((List.range (2*mo.ae.length)).map (X6 c 0 wp d' 2))):=pA;have Fb:=t3 pA;have Av:=a7H (f:=X6 c 0 wp d') (k:=2) (j:=u*2) (n:=2*mo.ae.length) (x:=d8) oJ;refine zY (V1 od8 pA me Av) ?_;have yp:decide (i=k0)=true->res=cC:=λe=>nV (by have:=Gp e;omega)
    have ph:=(rA.mono (R':=(b7,U3 (bL z W))::R) λe he=>by simp[he]).app (k:=2) (j:=u*2) (b:=decide (i=k0)) (row:=[.int .i64 (V6 (decide (i=k0))),.arr b7 0 W 1]) (l:=bL z W) rfl (a3k.two (Rr.dU (a1r _ _))) λe=>b4Y yp e oJ
    rw[b2X]at ph;have kn:=a7E (ls:=ls) (mS:=X6 (X6 res 0 wp (some (bL (e.to:Int) (wid ((k7 mo.procs wp).ah:Int))))) 2 (u*2) (some (bL z W))) nV ji λe0=>by
     rw[uJ,e0];exact c4f mF ha ke rN iz vz (by rw[hW];rfl)
    exact⟨ci,_,_,_,_,_,qV.up oJ,λe he=>by simp[hR e he],ph,kn.1,kn.2⟩
   .obtain⟨q,oE,hq2⟩:=nt.c1 oJ
    obtain⟨u,xV,rN⟩:=nt.v1 oJ;have mV:=jh.var u xV;have nA:=FLV.idx hm.v mV (k:=.i64);rw[<- a3x mV]at nA;unfold Vr.row at nA;have sG:=jB.vr _ (Fp mV);rw[<- a3x mV]at sG;obtain⟨W,hW⟩:∃W:Nat,(bh mo.vars u).width=(W:Int):=⟨(bh mo.vars u).width.toNat,oJ⟩
    rw[hW]at nA;rw[oE,rN]at pG;have xp:=kV.fr.kp gv;have DX:=kV.fr.kp gp;have CT:=jB.ch _ (Fp hq2);rw[<- a2W hq2]at CT;obtain⟨q3,y3,j3,j4,CZ,zV⟩:=(hv.fr kV.fr).ms hq2 (k:=.i64);have uf:(mo.ey st q).length=(U7 mo.ae q).room.toNat:=by simp[Mo.ey]
    obtain⟨q4,y4,j5,j6,zI⟩:=zV.idx (hv.fr kV.fr).hs (i:=0) oJ (k:=.i64);have oy4:=zI.one;have zI:=zI.vb (hv.fr kV.fr).hs;rw[show(mo.ey st q)[0]'oJ=mo.cH st q 0 by simp[Mo.ey]]at zI;have j5:W7 1 y3 (.int .i64 0)=some q4:=j5;have mf:W3 (X9 (U8 st.ae q) 0) (U7 mo.ae q).width.toNat=X9 (U8 st.ae q) 0:=by
     by_cases c0:0<(U8 st.ae q).length
     .have qF:q<st.ae.length:=by rw[iQ.ae];exact hq2
      have h1:=iQ.cv q qF hq2;rw[<- a3X qF,<- a2W hq2]at h1;refine h1 _ ?_;rw[a26 c0];exact Fp c0
     .have e:X9 (U8 st.ae q) 0=0:=by
       unfold X9;rw[List.getD,List.getElem?_eq_none oJ];rfl
      rw[e];exact b9x oJ
    refine zY (U0 nY oI mw hs nz pG xB (U0 ha xp om oo j3 j4 CZ (V1 j5 j6 oy4 nA))) ?_;generalize s3.set s.next (some (.cells ((List.range mo.procs.length).map (X6 c 0 wp d' 0))))=s4 at *;have Bt:=t3 pG;refine xv (a9R (w:=W) (l:=mo.cH st q 0) zI (by unfold Mo.cH;rw[a1r];omega) (by unfold Mo.cH;rw[a1r];omega) oJ oJ) λb7 s7 nb7 g7 f7=>?_
    unfold Mo.cH at g7;rw[wideW oJ oJ mf]at g7;have tW:=(kV.eN f7).eV g7 (kV.new nb7);have wY:=f7.kp pG;have Eh:=t3 wY;have BZ:=tW.fr.kp gp;have lp7:=t3 BZ;have xx:s7.get (s.next+1)=some (.cells ((List.range mo.vars.length).map (X6 c 0 wp d' 1))):=tW.ar 1 dJ;have lb7:=t3 xx;have hg7:((List.range mo.vars.length).map (X6 c 0 wp d' 1))[u]?=some (X6 c 0 wp d' 1 u):=by simp[mV]
    have hc7:=tW.one 1 u;have sC:=fE3.dh (k:=1) (j:=u) (m:=s7.next+1) oJ;have me:u<((List.range mo.vars.length).map (X6 c 0 wp d' 1)).length:=sU mV;refine zY (X4 wY xx hg7 hc7 BZ rV) ?_;refine b0C (k:=1) (j:=u) tW dJ mV rfl rfl dJ oJ (by simp[a2b,a1n];exact sC) λs8 d8 E8 od8 pA hfr8 qV hni8=>?_
    have pA:s8.get (s.next+1)=some (.cells ((List.range mo.vars.length).map (X6 c 0 wp d' 1))):=pA;have Fb:=t3 pA;have Av:=a7H (f:=X6 c 0 wp d') (k:=1) (j:=u) (n:=mo.vars.length) (x:=d8) mV;obtain⟨DE,_,fE8⟩:=hfr8 _ _ wY fE3;obtain⟨Bd,_,_⟩:=hfr8 _ _ BZ (tW.bO lp);have zx:(s8.set (s.next+1) (some (.cells ((List.range mo.vars.length).map (X6 (X6 c 0 wp d') 1 u d8 1))))).get (s.next+1+1)=some (.cells ((List.range (2*mo.ae.length)).map (X6 (X6 c 0 wp d') 1 u d8 2))):=qV.ar 2 dJ;rw[Y8 oJ]at zx;have qV:Bk s (s8.set (s.next+1) (some (.cells ((List.range mo.vars.length).map (X6 (X6 c 0 wp d') 1 u d8 1))))) (a5j s.next (s.next+1) (s.next+1+1)) (a8g mo.procs.length mo.vars.length mo.ae.length) _ _ _ _ _:=qV;have hg8:((List.range (2*mo.ae.length)).map (X6 (X6 c 0 wp d') 1 u d8 2))[q*2+1]?=some (X6 (X6 c 0 wp d') 1 u d8 2 (q*2+1)):=a8M oJ;have hc8:=qV.one 2 (q*2+1);have lE8:=t3 DE;have hnE8:=fE8.dh (k:=2) (j:=q*2+1) (m:=s8.next+1) oJ;have wi:q*2+1<((List.range (2*mo.ae.length)).map (X6 (X6 c 0 wp d') 1 u d8 2)).length:=by simp;omega
    refine zY (U0 od8 pA me Av DE Bd zx (V4 rV hg8 hc8)) ?_;refine b0C (k:=2) (j:=q*2+1) qV dJ (by show _<2*mo.ae.length;omega) (by simp[cN]) rfl dJ oJ (by simp[a2b,a1n];exact hnE8) λs9 d9 E9 od9 AQ hfr9 hb9 hni9=>?_
    have AQ:s9.get (s.next+1+1)=some (.cells ((List.range (2*mo.ae.length)).map (X6 (X6 c 0 wp d') 1 u d8 2))):=AQ;have la9:=t3 AQ;have hs9:=a7H (f:=X6 (X6 c 0 wp d') 1 u d8) (k:=2) (j:=q*2+1) (n:=2*mo.ae.length) (x:=d9) oJ;refine zY (V1 od9 AQ wi hs9) ?_;have yp:decide (i=k0)=true->res=cC:=λe=>nV (by have:=Gp e;omega)
    have ph:=(rA.mono (R':=(b7,U3 (bL (X9 (U8 st.ae q) 0) W))::R) λe he=>by simp[he]).app (k:=1) (j:=u) (b:=decide (i=k0)) (row:=[.int .i64 (V6 (decide (i=k0))),.arr b7 0 W 1]) (l:=bL (X9 (U8 st.ae q) 0) W) rfl (a3k.two (Rr.dU (a1r _ _))) λe=>b4Y yp e oJ
    rw[b2X]at ph;have yU:=ph.app (k:=2) (j:=q*2+1) (b:=decide (i=k0)) (row:=[.int .i64 (V6 (decide (i=k0)))]) (l:=[]) rfl a3k.one λe=>by
     rw[Fk e,a3M oJ,a3M oJ,yp e];rfl
    rw[b2X]at yU;have kn:=a7E (ls:=ls) (mS:=X6 (X6 (X6 res 0 wp (some (bL (e.to:Int) (wid ((k7 mo.procs wp).ah:Int))))) 1 u (some (bL (X9 (U8 st.ae q) 0) W))) 2 (q*2+1) (some [])) nV ji λe0=>by
     rw[uJ,e0];exact c3F mF ha rN oE (by rw[hW];rfl)
    exact⟨ci,_,_,_,_,_,hb9.up oJ,λe he=>by simp[hR e he],yU,kn.1,kn.2⟩
   .refine zY (X0 nY oI mw hs nz pG ha) ?_
    have kn:=a7E (ls:=ls) (mS:=X6 res 0 wp (some (bL (e.to:Int) (wid ((k7 mo.procs wp).ah:Int))))) nV ji λe0=>by
     rw[uJ,e0];exact b5s mF oJ
    exact⟨ci,_,_,_,R,_,kV.up oJ,hR,rA,kn.1,kn.2⟩
   .refine zY (X0 nY oI mw hs nz pG ha) ?_
    have kn:=a7E (ls:=ls) (mS:=X6 res 0 wp (some (bL (e.to:Int) (wid ((k7 mo.procs wp).ah:Int))))) nV ji λe0=>by
     rw[uJ,e0];exact b5s mF oJ
    exact⟨ci,_,_,_,R,_,kV.up oJ,hR,rA,kn.1,kn.2⟩
  have gc:∀j,j<2*mo.ae.length->((List.range (2*mo.ae.length)).map (c 2))[j]?=some (c 2 j):=λj hj=>by simp[hj]
  have xe:=gc (wc*2+1) oJ;have qA:=gc (wc*2) oJ;have wJ:=hb.one 2 (wc*2+1);have uW:=hb.one 2 (wc*2);rcases hk with rfl|rfl
  .have pR:=hb.eN (lN (.cells [.int .i64 0,.int .i64 0,.int .i64 0,.int .i64 0]) (.cells [.int .i64 1,.int .i64 (wp:Int),.int .i64 (we:Int),.int .i64 (wc:Int)]))
   have wD:=pR.fr.kp gp;have Cf:((s2.push (.cells [.int .i64 0,.int .i64 0,.int .i64 0,.int .i64 0])).set s2.next (some (.cells [.int .i64 1,.int .i64 (wp:Int),.int .i64 (we:Int),.int .i64 (wc:Int)]))).get (s.next+1+1)=some (.cells ((List.range (2*mo.ae.length)).map (c 2))):=pR.ar 2 dJ;refine zY (U0 h ci mA wD rV Cf xe wJ) ?_;have yN:wc*2+1<((List.range (2*mo.ae.length)).map (c 2)).length:=by simp;omega
   refine b51 (k:=2) (j:=wc*2+1) pR dJ (by show _<2*mo.ae.length;omega) (by simp[cN]) rfl dJ oJ λs3 d' E' nY oI iW kV=>?_
   have oI:s3.get (s.next+1+1)=some (.cells ((List.range (2*mo.ae.length)).map (c 2))):=oI;have Ds:=t3 oI;have hs:=a7H (f:=c) (k:=2) (j:=wc*2+1) (n:=2*mo.ae.length) (x:=d') oJ;refine zY (V1 nY oI yN hs) ?_;have kn:=a7E (ls:=ls) (mS:=X6 res 2 (wc*2+1) (some [])) nV ji λe=>by
    rw[uJ,e];unfold Mo.cF;rw[Fk rfl]
   exact⟨ci,_,_,_,R,_,kV.up oJ,hR,mG.app (b:=decide (i=k0)) rfl a3k.one (λe=>by rw[nV (by have:=Gp e;omega)];rfl),kn.1,kn.2⟩
  .have pR:=hb.eN (lN (.cells [.int .i64 0,.int .i64 0,.int .i64 0,.int .i64 0]) (.cells [.int .i64 2,.int .i64 (wp:Int),.int .i64 (we:Int),.int .i64 (wc:Int)]))
   have wD:=pR.fr.kp gp;have pY:=pR.fr.kp gv;have Cf:((s2.push (.cells [.int .i64 0,.int .i64 0,.int .i64 0,.int .i64 0])).set s2.next (some (.cells [.int .i64 2,.int .i64 (wp:Int),.int .i64 (we:Int),.int .i64 (wc:Int)]))).get (s.next+1+1)=some (.cells ((List.range (2*mo.ae.length)).map (c 2))):=pR.ar 2 dJ;obtain⟨q1,y1,j1,j2,rU,pE⟩:=(hv.fr pR.fr).ms hc (k:=.i64);have Dw:=jB.ch _ (Fp hc);have uf:(mo.ey st wc).length=(U7 mo.ae wc).room.toNat:=by simp[Mo.ey]
   rw[a2W hc]at uf;obtain⟨q2,y2,j3,j4,mP⟩:=pE.idx (hv.fr pR.fr).hs (i:=0) oJ (k:=.i64);have vu:=mP.one;rw[show(mo.ey st wc)[0]'oJ=mo.cH st wc 0 by simp[Mo.ey]]at mP;have j3:W7 1 y1 (.int .i64 0)=some q2:=j3;refine zY (U0 h ci mA wD pY om oo (U0 rV Cf qA uW j1 j2 rU (V4 j3 j4 vu))) ?_;have yN:wc*2<((List.range (2*mo.ae.length)).map (c 2)).length:=by simp;omega
   refine b51 (k:=2) (j:=wc*2) pR dJ (by show _<2*mo.ae.length;omega) (by simp[cN]) rfl dJ oJ λs3 d' E' nY oI iW kV=>?_
   have oI:s3.get (s.next+1+1)=some (.cells ((List.range (2*mo.ae.length)).map (c 2))):=oI;have Ds:=t3 oI;have hs:=a7H (f:=c) (k:=2) (j:=wc*2) (n:=2*mo.ae.length) (x:=d') oJ;refine zY (V1 nY oI yN hs) ?_;have kn:=a7E (ls:=ls) (mS:=X6 res 2 (wc*2) (some (mo.cH st wc 0))) nV ji λe=>by
    rw[uJ,e];unfold Mo.cF;rw[so sJ,Fk rfl]
   exact⟨ci,_,_,_,R,_,kV.up oJ,hR,mG.app (b:=decide (i=k0)) rfl (a3k.two (mP.mono hR)) (λe=>by rw[nV (by have:=Gp e;omega)];rfl),kn.1,kn.2⟩
 clear Ao;rintro f s2 ⟨c,rw,E,R,res,hb,hR,mG,nV,ji⟩;obtain⟨iN,ju,hft,h8t,hA,hV,hZ,xI⟩:=nx_st ho jB iQ nV ji;have je:=hb.fr;have kG:=je.kp gv;have rQ:=t3 kG;have qU:Y2 s2 x.r:=hv.hs.fr je;have kO:GH s2.next (s2.push (.cells [.ptr g 0,m.dt,.int .i64 m.g,m.dc,m.dv,m.dp,m.ds,.bool m.b,.ag,.ag,.ag,.ag,.ag])) [(s2.next,a1x g m .ag .ag .ag .ag .ag)] x.r:=GH.start qU;have f0:Fr [] s2 (s2.push (.cells [.ptr g 0,m.dt,.int .i64 m.g,m.dc,m.dv,m.dp,m.ds,.bool m.b,.ag,.ag,.ag,.ag,.ag])):=Fr.push _;refine zY (V1 kG om oo la) ?_;generalize s2.push (.cells [.ptr g 0,m.dt,.int .i64 m.g,m.dc,m.dv,m.dp,m.ds,.bool m.b,.ag,.ag,.ag,.ag,.ag])=s3 at *;refine a1d [0,1,2,6,7,8,9,10,11,12,13,14,15,17,19,20,23,24,25,26,27,51,52,53,54,60,67,148,149,190,233,301,302,328,329,330,331,353,354,355,376] (λf' s'=>∃dA E1 R1,GH s2.next s' ((s2.next,a1x g m dA .ag .ag .ag .ag)::E1) R1/\(∀e∈x.r,e∈R1)/\LL (E1++R1) dA ((List.range mo.procs.length).map (mo.iF st res))/\Fr [] s2 s') ?_ ?_
 .refine W6 [0,1,2,6,7,8,9,10,11,12,13,14,15,17,19,20,23,24,25,26,27,51,52,53,54,60,67,148,149,190,233,301,302,328,329,330,331,353,354,355,376] 0 mo.procs.length (λi f' s'=>f' 303=.int .i64 (i:Int)/\∃dA ds E1 R1,GH s2.next s' ((s2.next,a1x g m dA .ag .ag .ag .ag)::E1) R1/\(∀e∈x.r,e∈R1)/\Rp dA 1 (a0K ds) E1/\GL R1 ds ((List.range i).map (mo.iF st res))/\Fr [] s2 s') (.mk rfl) oJ ⟨rfl,.ag,[],[],x.r,kO,λe he=>he,.inl ⟨rfl,rfl,rfl⟩,⟨rfl,rfl,sJ⟩,f0⟩ ?_
  clear kO f0;rintro i f' s4 hi ⟨h,dA,ds,E1,R1,kO,ny,mH,nQ,fr⟩;have oA:=mH.one;by_cases ci:i<mo.procs.length
  rotate_left
  .obtain rfl:i=mo.procs.length:=oJ
   refine zY (aN h ci) ?_;exact⟨dA,E1,R1,kO,ny,(nQ.mono λe he=>by simp[he]).ll mH λe he=>by simp[he],fr⟩
  have jG:=je.trans fr sJ;have kJ:=hb.eN fr;have uZ:=qU.fr fr;obtain⟨p1,y1,i1,i2,pE⟩:=hv.la.idx uZ (i:=i) (sU ci) (k:=.i64);rw[show((List.range mo.procs.length).map (mo.cM st))[i]'(sU ci)=mo.cM st i by simp]at pE;have rU:=pE.one;have uA:s4.get s.next=some (.cells ((List.range mo.procs.length).map (c 0))):=kJ.ar 0 dJ;have qA:((List.range mo.procs.length).map (c 0))[i]?=some (c 0 i):=a8M ci;have uW:=hb.one 0 i;have gO:=kO.gO;have lO:=t3 gO;have nL:=nQ.n;rw[FT,GG]at nL;have ym:(mo.cM st i).length=wid ((k7 mo.procs i).ah:Int):=by simp[Mo.cM]
  have su:=a5P ((k7 mo.procs i).ah:Int);refine zY (U0 h ci i1 i2 rU gO oA (V4 uA qA uW)) ?_;refine xxn (b30 (bO:=mo.cM st i) (hg.fr jG) uZ pE oJ kJ.rd (kJ.rp 0 i) (kJ.he 0 i) (kJ.rl 0 i) (mG 0 i) (λl hl=>by rw[ym];exact iN.a i l ci hl) (FE (kJ.ln 0 i) oJ)) (λd s' h=>by obtain⟨_,_,_,_,f⟩:=h;exact f) qJ λr s5 E5 lK hE5=>a28 (a3G ?_)
  obtain⟨R5,n5,yE,oR,f5⟩:=lK;have Da:=oR.one;have lI:=kO.eV f5 yE n5;have AY:=lI.gO;have jO:=fr.trans f5 sJ;refine zY Da ?_;refine a9Q (A:=[(s2.next,a1x g m dA .ag .ag .ag .ag)]) (F:=E1) (B:=[]) (sU lI) jO.1 mH oJ λid s6 xX ko f6=>?_
  have ko:GH s2.next s6 ((s2.next,a1x g m dA .ag .ag .ag .ag)::[(id,(a0K (ds++[r])).flatten)]) (R5++R1):=sU ko;have f26:=GH.frW (A:=[(s2.next,a1x g m dA .ag .ag .ag .ag)]) (F:=E1) (B:=[]) (sU lI) jO f6;have sA:=ko.gO;have CO:=t3 sA;refine zY sA ?_;have pI:=ko.sO (.arr id 0 (ds.length+1) 1) .ag .ag .ag .ag;refine⟨ci,_,ds++[r],_,_,pI,λe he=>by simp[ny e he],xX,?_,f26.st (sm _) _⟩;simp only[Gv,FK,FJ,HZ];exact(nQ.mono λe he=>by simp[he]).snoc (oR.mono λe he=>by
   rcases Fm.1 he with he|he
   .simp[he]
   .simp[ny e he])
 rintro f' s4 ⟨dA,E1,R1,kO,ny,uF,fr⟩;have oA:=uF.one;have rJ:=fr.kp kG;have zM:=t3 rJ;have kO:GH s2.next s4 [(s2.next,a1x g m dA .ag .ag .ag .ag)] (E1++R1):=GH.dI (E:=[(s2.next,a1x g m dA .ag .ag .ag .ag)]) (F:=E1) (sU kO);have ny:∀e∈x.r,e∈E1++R1:=λe he=>by simp[ny e he]
 generalize E1++R1=RA at *;refine zY (V1 rJ om oo yy) ?_;refine a1d [0,1,2,6,7,8,9,10,11,12,13,14,15,17,19,20,21,22,25,26,27,51,52,53,54,60,67,148,149,190,233,301,302,303,304,328,329,353,354,355,376] (λf' s'=>∃dV E2 R2,GH s2.next s' ((s2.next,a1x g m dA dV .ag .ag .ag)::E2) R2/\(∀e∈x.r,e∈R2)/\LL (E2++R2) dV ((List.range mo.vars.length).map (mo.gQ st res))/\(∀e∈RA,e∈R2)/\Fr [] s2 s') ?_ ?_
 .refine W6 [0,1,2,6,7,8,9,10,11,12,13,14,15,17,19,20,21,22,25,26,27,51,52,53,54,60,67,148,149,190,233,301,302,303,304,328,329,353,354,355,376] 0 mo.vars.length (λi f' s'=>f' 330=.int .i64 (i:Int)/\∃dV ds E2 R2,GH s2.next s' ((s2.next,a1x g m dA dV .ag .ag .ag)::E2) R2/\(∀e∈x.r,e∈R2)/\Rp dV 1 (a0K ds) E2/\GL R2 ds ((List.range i).map (mo.gQ st res))/\(∀e∈RA,e∈R2)/\Fr [] s2 s') (.mk rfl) oJ ⟨rfl,.ag,[],[],RA,kO,ny,.inl ⟨rfl,rfl,rfl⟩,⟨rfl,rfl,sJ⟩,λe he=>he,fr⟩ ?_
  clear kO fr rJ zM ny;rintro i f' s4 hi ⟨h,dV,ds,E2,R2,kO,ny,mH,nQ,rM,fr⟩;have oV:=mH.one;by_cases ci:i<mo.vars.length
  rotate_left
  .obtain rfl:i=mo.vars.length:=oJ
   refine zY (aN h ci) ?_;exact⟨dV,E2,R2,kO,ny,(nQ.mono λe he=>by simp[he]).ll mH λe he=>by simp[he],rM,fr⟩
  have jG:=je.trans fr sJ;have kJ:=hb.eN fr;have uZ:=qU.fr fr;obtain⟨p1,y1,i1,i2,pE⟩:=hv.lv.idx uZ (i:=i) (sU ci) (k:=.i64);rw[show((List.range mo.vars.length).map (mo.cE st))[i]'(sU ci)=mo.cE st i by simp]at pE;have rU:=pE.one;have uA:s4.get (s.next+1)=some (.cells ((List.range mo.vars.length).map (c 1))):=kJ.ar 1 dJ;have qA:((List.range mo.vars.length).map (c 1))[i]?=some (c 1 i):=a8M ci;have uW:=hb.one 1 i;have gO:=kO.gO;have lO:=t3 gO;have nL:=nQ.n;rw[FT,GG]at nL;have ym:(mo.cE st i).length=(bh mo.vars i).width.toNat:=by simp[Mo.cE]
  have su:=jB.vr _ (a4C ci);refine zY (U0 h ci i1 i2 rU gO oA (V1 oV uA qA uW)) ?_;refine xxn (b30 (bO:=mo.cE st i) (hg.fr jG) uZ pE oJ kJ.rd (kJ.rp 1 i) (kJ.he 1 i) (kJ.rl 1 i) (mG 1 i) (λl hl=>by rw[ym];exact iN.v i l ci hl) (FE (kJ.ln 1 i) oJ)) (λd s' h=>by obtain⟨_,_,_,_,f⟩:=h;exact f) qJ λr s5 E5 lK hE5=>a28 (a3G ?_)
  obtain⟨R5,n5,yE,oR,f5⟩:=lK;have Da:=oR.one;have lI:=kO.eV f5 yE n5;have AY:=lI.gO;have jO:=fr.trans f5 sJ;refine zY Da ?_;refine a9Q (A:=[(s2.next,a1x g m dA dV .ag .ag .ag)]) (F:=E2) (B:=[]) (sU lI) jO.1 mH oJ λid s6 xX ko f6=>?_
  have ko:GH s2.next s6 ((s2.next,a1x g m dA dV .ag .ag .ag)::[(id,(a0K (ds++[r])).flatten)]) (R5++R2):=sU ko;have f26:=GH.frW (A:=[(s2.next,a1x g m dA dV .ag .ag .ag)]) (F:=E2) (B:=[]) (sU lI) jO f6;have sA:=ko.gO;have CO:=t3 sA;refine zY sA ?_;have pI:=ko.sO dA (.arr id 0 (ds.length+1) 1) .ag .ag .ag;refine⟨ci,_,ds++[r],_,_,pI,λe he=>by simp[ny e he],xX,?_,λe he=>by simp[rM e he],f26.st (sm _) _⟩;simp only[Gv,FK,FJ,HZ];exact(nQ.mono λe he=>by simp[he]).snoc (oR.mono λe he=>by
   rcases Fm.1 he with he|he
   .simp[he]
   .simp[ny e he])
 rintro f' s4 ⟨dV,E2,R2,kO,ny,yd,rM,fr⟩;have oV:=yd.one;have kO:GH s2.next s4 [(s2.next,a1x g m dA dV .ag .ag .ag)] (E2++R2):=GH.dI (E:=[(s2.next,a1x g m dA dV .ag .ag .ag)]) (F:=E2) (sU kO);have ny:∀e∈x.r,e∈E2++R2:=λe he=>by simp[ny e he]
 have uF:LL (E2++R2) dA _:=uF.mono λe he=>by simp[rM e he]
 clear rM;generalize E2++R2=RV at *;have hlnc:a0x false (.arr (s.next+1+1) 0 mo.ae.length 2)=some (.int .i64 (mo.ae.length:Int)):=rfl;refine V9 ?_;refine a1d [0,1,2,6,7,8,9,10,11,12,13,14,15,17,19,20,21,22,23,24,51,52,53,54,60,67,148,149,190,233,301,302,303,304,328,329,330,331,353] (λf' s'=>∃dS dM R3,GH s2.next s' [(s2.next,a1x g m dA dV dS dM .ag)] R3/\LL R3 dS ((List.range mo.ae.length).map (mo.gf st res))/\LM R3 dM ((List.range mo.ae.length).map (mo.nxL st res))/\(∀e∈RV,e∈R3)/\Fr [] s2 s') ?_ ?_
 .refine W6 [0,1,2,6,7,8,9,10,11,12,13,14,15,17,19,20,21,22,23,24,51,52,53,54,60,67,148,149,190,233,301,302,303,304,328,329,330,331,353] 0 mo.ae.length (λi f' s'=>f' 354=.int .i64 (i:Int)/\∃dS dM ss ms E3 E4 R3,GH s2.next s' ((s2.next,a1x g m dA dV dS dM .ag)::(E3++E4)) R3/\(∀e∈x.r,e∈R3)/\Rp dS 1 (a0K ss) E3/\GL R3 ss ((List.range i).map (mo.gf st res))/\Rp dM 1 (a0K ms) E4/\GM R3 ms ((List.range i).map (mo.nxL st res))/\(∀e∈RV,e∈R3)/\Fr [] s2 s') (.mk rfl) oJ ⟨rfl,.ag,.ag,[],[],[],[],RV,kO,ny,.inl ⟨rfl,rfl,rfl⟩,⟨rfl,rfl,sJ⟩,.inl ⟨rfl,rfl,rfl⟩,⟨rfl,rfl,sJ⟩,λe he=>he,fr⟩ ?_
  clear kO fr ny;rintro i f' s4 hi ⟨h,dS,dM,ss,ms,E3,E4,R3,kO,ny,nH,wE,hrm,Cu,rM,fr⟩;have oS:=nH.one;have oM:=hrm.one;by_cases ci:i<mo.ae.length
  rotate_left
  .obtain rfl:i=mo.ae.length:=oJ
   refine zY (aN h ci) ?_;refine⟨dS,dM,(E3++E4)++R3,GH.dI (E:=[(s2.next,a1x g m dA dV dS dM .ag)]) (F:=E3++E4) (sU kO),(wE.mono λe he=>by simp[he]).ll nH λe he=>by simp[he],(Cu.mono λe he=>by simp[he]).lm hrm λe he=>by simp[he],λe he=>by simp[rM e he],fr⟩
  have jG:=je.trans fr sJ;have kJ:=hb.eN fr;have uZ:=qU.fr fr;obtain⟨p1,dz,i1,i2,pM⟩:=hv.ls.idx uZ (i:=i) (sU ci) (k:=.i64);rw[show((List.range mo.ae.length).map (Mo.cN st))[i]'(sU ci)=Mo.cN st i by simp]at pM;obtain⟨p2,dm,i3,i4,uE⟩:=hv.lm.idx uZ (i:=i) (sU ci) (k:=.i64);rw[show((List.range mo.ae.length).map (mo.ey st))[i]'(sU ci)=mo.ey st i by simp]at uE;have Bu:=pM.one;have AE:=uE.one;have rJ:=jG.kp gv;have zM:=t3 rJ;have uA:s4.get (s.next+1+1)=some (.cells ((List.range (2*mo.ae.length)).map (c 2))):=kJ.ar 2 dJ;have jE:=b7i uA ci;have Di:=hb.one 2 (i*2);have DV:=hb.one 2 (i*2+1);have gO:=kO.gO;have lO:=t3 gO;have nL:=wE.n;rw[FT,GG]at nL;have hdl2:=Cu.n;rw[FT,GG]at hdl2;have hS:=kJ.rp 2 (i*2);have CY:=kJ.rl 2 (i*2);have hG:=kJ.rp 2 (i*2+1);have Cl:=kJ.rl 2 (i*2+1);rw[szB0]at hS CY;rw[szB1]at hG Cl;have Eu:=FE (kJ.ln 2 (i*2)) (show 80000<=90000 by omega);have DD:=FE (kJ.ln 2 (i*2+1)) (show 80000<=90000 by omega);have hnone:=none_c (R:=R) hS (kJ.he 2 (i*2)) CY (mG 2 (i*2)) Eu hG (kJ.he 2 (i*2+1)) Cl (mG 2 (i*2+1)) DD;have hmov:=λs'(f':Fr [] s4 s')=>c6r hm ho jB iQ (hg.fr (jG.trans f' sJ)) (hv.fr (jG.trans f' sJ)) ci (kJ.rd.fr f') hS ((kJ.he 2 (i*2)).fr f') CY (mG 2 (i*2)) (λl hl=>iN.w i l ci hl) Eu hG ((kJ.he 2 (i*2+1)).fr f') Cl (mG 2 (i*2+1)) DD
  refine zY (U0 h ci rJ om oo i1 i2 (U0 i3 i4 Bu AE uA jE Di DV)) ?_;refine a0M hnone rfl ?_;rintro r s5 ⟨rfl,f5⟩;have lI:=kO.eN f5;have DT:=f5.kp uA;have lK:=b7i DT ci;have lu:∀(dz dm:D)(s6:k4)(R6:Hs),GH s2.next s6 ((s2.next,a1x g m dA dV dS dM .ag)::(E3++E4)) R6->(∀e∈R3,e∈R6)->Rr R6 dz (U3 (mo.gf st res i))->LL R6 dm (mo.nxL st res i)->GL R6 (ss++[dz]) ((List.range i++[i]).map (mo.gf st res))/\GM R6 (ms++[dm]) ((List.range i++[i]).map (mo.nxL st res)):=by
   intro dz dm s6 R6 _ hr hz hm;rw[FK,FK];exact⟨(wE.mono hr).snoc hz,(Cu.mono hr).snoc hm⟩
  cases iT:(!(res 2 (i*2)).isSome&&!(res 2 (i*2+1)).isSome);refine zY (V1 DT lK Di DV) ?_;refine a0M (hmov s5 f5) rfl ?_;rintro r s6 ⟨dz,dm,R6,rfl,n6,vi,pM,uE,f6⟩;have Bu:=pM.one;have AE:=uE.one;have ko:=lI.eV f6 vi n6;have jP:=(fr.trans f5 sJ).trans f6 sJ;have hq:=lu dz dm s6 _ ko (λe he=>by simp[he]) (pM.mono λe he=>by simp[he]) (uE.mono λe he=>by simp[he]);have xT:∀e∈x.r,e∈R6++R3:=λe he=>by simp[ny e he]
  have xG:∀e∈RV,e∈R6++R3:=λe he=>by simp[rM e he]
  generalize R6++R3=RR at *;have sA:=ko.gO;have CO:=t3 sA;refine zY (V1 Bu AE sA oS) ?_;rotate_left
  have n1:res 2 (i*2)=none:=by cases h:res 2 (i*2)<;>simp[h]at iT⊢
  have n2:res 2 (i*2+1)=none:=by cases h:res 2 (i*2+1)<;>simp[h]at iT⊢
  rw[<- nxZ_no n1 n2]at pM;rw[<- nxL_no n1 n2]at uE;have jP:=fr.trans f5 sJ;obtain⟨s6,e6⟩:∃s6,s6=s5:=⟨_,rfl⟩
  rw[<- e6]at lI jP⊢;have hq:=lu dz dm s6 R3 lI (λe he=>he) (pM.mono ny) (uE.mono ny);have ko:=lI;have xT:=ny;have xG:=rM;generalize R3=RR at ko xT xG hq;have sA:=ko.gO;have CO:=t3 sA;refine zY (V1 sA oS Bu AE) ?_
  all_goals
   refine a9Q (A:=[(s2.next,a1x g m dA dV dS dM .ag)]) (F:=E3) (B:=E4) (sU ko) jP.1 nH oJ λid s7 hrs7 pI f7=>?_
   have pI:GH s2.next s7 ((s2.next,a1x g m dA dV dS dM .ag)::([(id,(a0K (ss++[dz])).flatten)]++E4)) RR:=sU pI;have f27:=GH.frW (A:=[(s2.next,a1x g m dA dV dS dM .ag)]) (F:=E3) (B:=E4) (sU ko) jP f7;have EH:=pI.gO;have lO7:=t3 EH;have xL:=pI.sO dA dV (.arr id 0 (ss.length+1) 1) dM .ag;have f28:=f27.st (b:=s2.next) (sm _) (some (.cells [.ptr g 0,m.dt,.int .i64 m.g,m.dc,m.dv,m.dp,m.ds,.bool m.b,dA,dV,.arr id 0 (ss.length+1) 1,dM,.ag]));have gO8:=xL.gO;refine zY (V4 EH oM AE) ?_;have hn8:(s7.set s2.next (some (.cells [.ptr g 0,m.dt,.int .i64 m.g,m.dc,m.dv,m.dp,m.ds,.bool m.b,dA,dV,.arr id 0 (ss.length+1) 1,dM,.ag]))).next=s7.next:=sJ;generalize s7.set s2.next (some (.cells [.ptr g 0,m.dt,.int .i64 m.g,m.dc,m.dv,m.dp,m.ds,.bool m.b,dA,dV,.arr id 0 (ss.length+1) 1,dM,.ag]))=s8 at *;rw[<- hn8];have lO8:=t3 gO8;refine a9Q (A:=[(s2.next,a1x g m dA dV (.arr id 0 (ss.length+1) 1) dM .ag),(id,(a0K (ss++[dz])).flatten)]) (F:=E4) (B:=[]) (sU xL) f28.1 hrm oJ λmL s9 hrm9 uu f9=>?_
   have uu:GH s2.next s9 ((s2.next,a1x g m dA dV (.arr id 0 (ss.length+1) 1) dM .ag)::([(id,(a0K (ss++[dz])).flatten)]++[(mL,(a0K (ms++[dm])).flatten)])) RR:=sU uu;have f29:=GH.frW (A:=[(s2.next,a1x g m dA dV (.arr id 0 (ss.length+1) 1) dM .ag),(id,(a0K (ss++[dz])).flatten)]) (F:=E4) (B:=[]) (sU xL) f28 f9;have EJ:=uu.gO;have lO9:=t3 EJ;refine zY EJ ?_;exact⟨ci,_,_,_,_,_,_,_,uu.sO dA dV (.arr id 0 (ss.length+1) 1) (.arr mL 0 (ms.length+1) 1) .ag,xT,hrs7,by simpa only[Gv]using hq.1,hrm9,by simpa only[Gv]using hq.2,xG,f29.st (sm _) _⟩
 rintro f' s4 ⟨dS,dM,R3,kO,wB,EZ,rM,fr⟩;have jG:=je.trans fr sJ;have oS:=wB.one;have oM:=EZ.one;have uF:LL R3 dA _:=uF.mono rM;have yd:LL R3 dV _:=yd.mono rM;have uF:=uF.congr hA;have yd:=yd.congr hV;have wB:=wB.congr hZ;have CU:Ve s4 s2.next g m mo ju ⟨(s2.next,a1x g m dA dV dS dM .ag)::R3,dA,dV,dS,dM,.ag⟩:=by
  refine⟨λe he=>?_,by simp[a1x],uF.mono λe he=>by simp[he],yd.mono λe he=>by simp[he],wB.mono λe he=>by simp[he],oM,rfl⟩;rcases Fi.1 he with rfl|he
  .exact kO.gO
  .exact kO.rd e he
 have hk:=c87 hm ho jB h8t hft (hg.fr jG) CU hl jD nJ (jG.kp gp);have gO:=kO.gO;have lO:=t3 gO;refine V9 ?_;refine xv hk λb s5 uM g5 f5=>?_
 have lI:=kO.add1 f5 g5 uM;have AY:=lI.gO;have lO5:=t3 AY;have ko:=lI.sO dA dV dS dM (.arr b 0 3 1);have f6:=(fr.trans f5 sJ).st (b:=s2.next) (sm _) (some (.cells [.ptr g 0,m.dt,.int .i64 m.g,m.dc,m.dv,m.dp,m.ds,.bool m.b,dA,dV,dS,dM,.arr b 0 3 1]));refine zY AY ?_;refine⟨s2.next,⟨(s2.next,a1x g m dA dV dS dM (.arr b 0 3 1))::(b,U3 (U1 (mo.dP ju ls k0 mo.procs.length) 3))::R3,dA,dV,dS,dM,.arr b 0 3 1⟩,ju,mo.nxM st res,mo.dP ju ls k0 mo.procs.length,rfl,?_,EZ.mono λe he=>by simp[he],λc i=>c8E,?_,je.trans f6 sJ,λh1 h2=>?_⟩
 .refine⟨λe he=>?_,by simp[a1x],uF.mono λe he=>by simp[he],yd.mono λe he=>by simp[he],wB.mono λe he=>by simp[he],oM,rfl⟩
  rcases Fi.1 he with rfl|he
  .exact ko.gO
  .exact ko.rd e he
 .exact(Rr.dU (R:=R3) (b:=b) (a38 _ _)).mono λe he=>by
   rcases Fi.1 he with rfl|he
   .simp
   .simp[he]
 .obtain⟨rfl,h3⟩:=xI h1 h2
  refine⟨rfl,h3,?_⟩;rw[c05];exact a4I λj _=>hd_ok ho iQ h1 h2 j
end Go.Proofs.YtigbmclkjknnjaaGreat
namespace Go.V
theorem b4U{F:Nat->List Bool}{i:Nat}:(List.range (i+1)).flatMap F=(List.range i).flatMap F++F i:=by simp[Gv]
theorem b1I{F:Nat->List Bool}{n:Nat}(h:∀j,(F j).length<=n):∀i,((List.range i).flatMap F).length<=i*n
 |0=>by simp
 |i+1=>by
  have h1:=b1I h i;grind[b4U]
theorem a99{F:Nat->List Bool}{n:Nat}:∀{i:Nat},(∀j,j<i->(F j).length<=n)->((List.range i).flatMap F).length<=i*n
 |0,_=>by simp
 |i+1,h=>by
  have h1:=a99 (F:=F) (n:=n) (i:=i) λj hj=>h j oJ
  grind[b4U]
theorem b2y{α β:Type}{e:α->β->List Bool}:∀{a:List α}{b:List β}{F:Nat->List Bool},a.length=b.length->(∀i(h:i<a.length)(h':i<b.length),e a[i] b[i]=F i)->a0X e a b=(List.range a.length).flatMap F
 |[],[],_,_,_=>rfl
 |[],_::_,_,h,_=>by simp at h
 |_::_,[],_,h,_=>by simp at h
 |x::a,y::b,F,h,hF=>by
  have ih:=b2y (e:=e) (a:=a) (b:=b) (F:=λi=>F (i+1)) (sU h) λi h1 h2=>hF (i+1) (sU h1) (sU h2)
  have h0:=hF 0 sJ sJ;grind[a0X,List.range_succ_eq_map,List.flatMap_map]
def gR(mo:Mo)(st:U6)(jX:Nat->Nat->List Bool)(c:Nat):List Bool:=Mo.cN st c++(List.range (U7 mo.ae c).room.toNat).flatMap (jX c)
def Mo.dj(mo:Mo)(st:U6)(jX:Nat->Nat->List Bool)(hb:Nat->Bool):List Bool:=(List.range mo.procs.length).flatMap (mo.cM st)++(List.range mo.vars.length).flatMap (mo.cE st)++(List.range mo.ae.length).flatMap (gR mo st jX)++U1 hb 3
theorem c5B{mo:Mo}{st:U6}(iQ:Fit mo st){jX:Nat->Nat->List Bool}{hb:Nat->Bool}(hm:∀c,c<mo.ae.length->∀i,i<(U7 mo.ae c).room.toNat->jX c i=mo.cH st c i)(hh:U1 hb 3=bL (st.hold+1) 3):mo.dj st jX hb=mo.pack st:=by
 unfold Mo.dj Mo.pack;rw[b2y (F:=mo.cM st) iQ.aF.symm λi h h'=>b9A h h',b2y (F:=mo.cE st) iQ.vars.symm λi h h'=>c1v h h',b2y (F:=gR mo st jX) iQ.ae.symm λi h h'=>?_,hh];rw[c0G h h'];unfold gR Mo.msR;congr 1
 rw[JN,<- Kk,Kc,Kc];have:∀(l:List Nat)(acc:List Bool),(∀j∈l,j<(U7 mo.ae i).room.toNat)->l.foldl (λacc b=>acc++mo.cH st i b) acc=l.foldl (λacc b=>acc++jX i b) acc:=by
  intro l;induction l with
  |nil=>intro _ _;rfl
  |cons a r ih =>
   intro acc hl;rw[Hl,Hl,hm i h a (hl a sJ)];exact ih _ λj hj=>hl j (by simp[hj])
 grind
end Go.V
namespace Go.Proofs.YtigbmclkjknnjaaGreat
open Go.V
theorem join_c{s:k4}{g:Nat}{v:Nat}{m:X7}{mo:Mo}{st:U6}{x:gM}(tT:V5 m.dt=true/\V5 m.dc=true/\V5 m.dv=true/\V5 m.dp=true/\V5 m.ds=true)(ho:Z3 mo)(jB:a0P mo)(hv:Ve s v g m mo st x){jX:Nat->Nat->List Bool}{hb:Nat->Bool}(Cx:LM x.r x.m ((List.range mo.ae.length).map λc=>(List.range (U7 mo.ae c).room.toNat).map (jX c)))(tg:∀c i,(jX c i).length=(U7 mo.ae c).width.toNat)(hh:Rr x.r x.h (U3 (U1 hb 3))) :
 Y4 U5 46 [.ptr v 0] s λr s'=>∃b,r=.arr b 0 (mo.dj st jX hb).length 1/\s.next<=b/\s'.get b=some (.cells (U3 (mo.dj st jX hb)))/\Fr [] s s':=by
 have gv:=hv.get;have lv:=t3 gv;have oo:=hv.aw;have mY:=ho.np;have lD:=ho.nv;have nN:=ho.nc;have la:=hv.la.len hv.hs;have yy:=hv.lv.len hv.hs;have lss:=hv.ls.len hv.hs;simp only[FT,GG]at la yy lss;have bA:=b1I (F:=mo.cM st) (n:=16) λj=>by unfold Mo.cM;rw[a1r];exact(a5P _).2
 have wA:∀j,(mo.cM st j).length<=16:=λj=>by unfold Mo.cM;rw[a1r];exact(a5P _).2
 have wV:∀j,j<mo.vars.length->(mo.cE st j).length<=8:=λj hj=>by unfold Mo.cE;rw[a1r];have:=jB.vr _ (a4C hj);omega
 refine Y0 (vf:=vf46) rfl ?_;unfold vf46;refine zF ?_;refine zY (V1 gv tT oo la) ?_;refine a1d [0,2,7,8,9,11,15,16,28,29,30,31,41,42,43,44,57,58,59,60] (λf s'=>V5 (f 3)=true/\cK s s' (f 3) ((List.range mo.procs.length).flatMap (mo.cM st))) ?_ ?_
 .refine W6 [0,2,7,8,9,11,15,16,28,29,30,31,41,42,43,44,57,58,59,60] 0 mo.procs.length (λi f s'=>f 17=.int .i64 (i:Int)/\cK s s' (f 3) ((List.range i).flatMap (mo.cM st))) (.mk rfl) oJ ⟨rfl,cK.nil (Fr.refl _ _)⟩ ?_
  rintro i f s2 hi ⟨h,jr⟩;have ob:=jr.one;by_cases ci:i<mo.procs.length
  rotate_left
  .obtain rfl:i=mo.procs.length:=oJ
   refine zY (V4 h ci ob) ?_;exact jr
  obtain⟨p,y,i1,i2,oy,hy⟩:=(hv.fr jr.1).aF ci (k:=.i64);refine zY (X4 h ci ob i1 i2 oy) ?_;refine a91 jr hy (by have:=bA i;have:=wA i;omega) λd' s3 h3=>?_
  have yb:=h3.one;refine zY yb ?_;refine⟨ci,?_⟩;simp only[HU,HE,IM,Fl];exact h3
 rintro f s2 ⟨ob,jr⟩;have kG:=jr.1.kp gv;have rQ:=t3 kG;have hlenA:=bA mo.procs.length;generalize hLA:(List.range mo.procs.length).flatMap (mo.cM st)=LA at *;refine zY (W0 kG tT oo yy ob) ?_;refine a1d [0,2,5,8,9,11,15,16,17,18,28,29,41,42,43,44,57,58,59,60] (λf s'=>V5 (f 3)=true/\cK s s' (f 3) (LA++(List.range mo.vars.length).flatMap (mo.cE st))) ?_ ?_
 .refine W6 [0,2,5,8,9,11,15,16,17,18,28,29,41,42,43,44,57,58,59,60] 0 mo.vars.length (λi f s'=>f 30=.int .i64 (i:Int)/\cK s s' (f 3) (LA++(List.range i).flatMap (mo.cE st))) (.mk rfl) oJ ⟨rfl,(by show cK s s2 (f 3) (LA++[]);rw[Fl];exact jr)⟩ ?_
  clear jr;rintro i f s2 hi ⟨h,jr⟩;have ob:=jr.one;by_cases ci:i<mo.vars.length
  rotate_left
  .obtain rfl:i=mo.vars.length:=oJ
   refine zY (V4 h ci ob) ?_;exact jr
  obtain⟨p,y,i1,i2,oy,hy⟩:=(hv.fr jr.1).vr ci (k:=.i64);have Bq:=a99 (F:=mo.cE st) (n:=8) (i:=i) λj hj=>wV j oJ
  have yf:=wV i ci;refine zY (X4 h ci ob i1 i2 oy) ?_;refine a91 jr hy (by rw[Fq];omega) λd' s3 h3=>?_
  have yb:=h3.one;refine zY yb ?_;refine⟨ci,?_⟩;simp only[HU,HE,IM,Fl,<- Fj];exact h3
 clear jr kG rQ;rintro f s2 ⟨ob,jr⟩;have kG:=jr.1.kp gv;have rQ:=t3 kG;have hlenV:=a99 (F:=mo.cE st) (n:=8) (i:=mo.vars.length) wV;have hlenL:(LA++(List.range mo.vars.length).flatMap (mo.cE st)).length<=1000:=by rw[Fq];omega
 unfold Mo.dj;have hlenL:(LA++(List.range mo.vars.length).flatMap (mo.cE st)).length<=300:=by
  have:=GR 16 mY;have:=GR 8 lD;rw[Fq];omega
 generalize hLB:LA++(List.range mo.vars.length).flatMap (mo.cE st)=LB at *;have wC:∀j,j<mo.ae.length->(gR mo st jX j).length<=26:=λj hj=>by
  have hc:=jB.ch _ (a3S hj);unfold gR;rw[Fq,Mo.cN,a1r];have:=b1I (F:=jX j) (n:=8) (λi=>by rw[tg];omega) (U7 mo.ae j).room.toNat;have:(U7 mo.ae j).room.toNat*8<=3*8:=GI oJ (sm _);omega
 refine zY (W0 kG tT oo lss ob) ?_;refine a1d [0,2,5,7,15,16,17,18,28,29,30,31,41,42] (λf s'=>V5 (f 3)=true/\cK s s' (f 3) (LB++(List.range mo.ae.length).flatMap (gR mo st jX))) ?_ ?_
 .refine W6 [0,2,5,7,15,16,17,18,28,29,30,31,41,42] 0 mo.ae.length (λi f s'=>f 43=.int .i64 (i:Int)/\cK s s' (f 3) (LB++(List.range i).flatMap (gR mo st jX))) (.mk rfl) oJ ⟨rfl,(by show cK s s2 (f 3) (LB++[]);rw[Fl];exact jr)⟩ ?_
  clear jr kG rQ;rintro i f s2 hi ⟨h,jr⟩;have ob:=jr.one;by_cases ci:i<mo.ae.length
  rotate_left
  .obtain rfl:i=mo.ae.length:=oJ
   refine zY (V4 h ci ob) ?_;exact jr
  obtain⟨p,y,i1,i2,oy,hy⟩:=(hv.fr jr.1).sz ci (k:=.i64);have Bq:=a99 (F:=gR mo st jX) (n:=26) (i:=i) λj hj=>wC j oJ
  have hl3:i*26<=3*26:=GI oJ (sm _);refine zY (X4 h ci ob i1 i2 oy) ?_;refine a91 jr hy (by rw[Fq,Mo.cN,a1r];omega) λd' s3 h3=>?_
  have yb:=h3.one;have xp:=h3.1.kp gv;have lv3:=t3 xp;obtain⟨p2,y2,j1,j2,mP⟩:=Cx.idx (hv.hs.fr h3.1) (i:=i) (sU ci) (k:=.i64);rw[show((List.range mo.ae.length).map λc=>(List.range (U7 mo.ae c).room.toNat).map (jX c))[i]'(sU ci)=(List.range (U7 mo.ae i).room.toNat).map (jX i) by simp]at mP;have vu:=mP.one;have jw:=mP.len (hv.hs.fr h3.1);rw[FT,GG]at jw;have hlenX:(LB++(List.range i).flatMap (gR mo st jX)++Mo.cN st i).length<=400:=by rw[Fq,Fq,Mo.cN,a1r];omega
  have hX:LB++(List.range i).flatMap (gR mo st jX)++Mo.cN st i++(List.range (U7 mo.ae i).room.toNat).flatMap (jX i)=LB++((List.range i).flatMap (gR mo st jX)++gR mo st jX i):=by unfold gR;simp only[Fj]
  generalize hLX:LB++(List.range i).flatMap (gR mo st jX)++Mo.cN st i=LX at *;have jR:=(jB.ch _ (a3S ci)).2.1;have ER:∀j,(jX i j).length<=8:=λj=>by rw[tg];have:=jB.ch _ (a3S ci);omega
  refine zY (U0 yb xp tT oo j1 j2 vu jw) ?_;refine W6 [0,2,5,7,8,9,15,16,17,18,28,29,30,31,41,42,43,44,57,58] 0 (U7 mo.ae i).room.toNat (λj f' s'=>f' 59=.int .i64 (j:Int)/\cK s s' (f' 3) (LX++(List.range j).flatMap (jX i))) (.mk rfl) oJ ⟨rfl,(by show cK s s3 d' (LX++[]);rw[Fl];exact h3)⟩ ?_;clear h3 xp lv3 jr;rintro j f' s4 hj ⟨h',h4⟩;have sN:=h4.one;by_cases cj:j<(U7 mo.ae i).room.toNat
  .obtain⟨p3,y3,k1,k2,zV⟩:=mP.idx (hv.hs.fr h4.1) (i:=j) (sU cj) (k:=.i64)
   rw[show((List.range (U7 mo.ae i).room.toNat).map (jX i))[j]'(sU cj)=jX i j by simp]at zV;have CZ:=zV.one;have hl5:=b1I (F:=jX i) (n:=8) ER j;have yq:=ER j;refine zY (X4 h' cj sN k1 k2 CZ) ?_;refine a91 h4 (zV.vb (hv.hs.fr h4.1)) (by rw[Fq];omega) λd5 s5 h5=>?_
   have yi:=h5.one;refine zY yi ?_;refine⟨cj,?_⟩;simp only[HU,HE,IM,Fl,<- Fj];exact h5
  .obtain rfl:j=(U7 mo.ae i).room.toNat:=oJ
   refine zY (V1 h' cj h sN) ?_;refine⟨ci,?_⟩;simp only[HU,HE,IM,Fl];rw[<- hX];exact h4
 clear jr kG rQ;rintro f s2 ⟨ob,jr⟩;have kG:=jr.1.kp gv;have rQ:=t3 kG;have hlenC:=a99 (F:=gR mo st jX) (n:=26) (i:=mo.ae.length) wC;refine zY (V1 kG tT oo ob) ?_;refine a91 jr (hh.vb (hv.hs.fr jr.1)) (by rw[Fq,a38];omega) λd3 s3 h3=>?_
 have yb:=h3.one;have jt:=h3.2;refine zY yb ?_;rcases jt with⟨_,e⟩|⟨id,rfl,hi,hg⟩
 .have:=Ig List.length e
  simp at this
 .subst hLB
  subst hLA;exact⟨id,rfl,hi,hg,h3.1⟩
end Go.Proofs.YtigbmclkjknnjaaGreat
namespace Go.V
theorem c56{α:Type}{f:α->Nat}:∀{a:List α}{F:Nat->List Bool},(∀i(h:i<a.length),(F i).length=f a[i])->((List.range a.length).flatMap F).length=cY f a
 |[],_,_=>rfl
 |x::a,F,h=>by
  have ih:=c56 (f:=f) (a:=a) (F:=λi=>F (i+1)) λi h1=>h (i+1) (sU h1)
  simp_all[cY,List.range_succ_eq_map,List.flatMap_map]
theorem c8k{F:Nat->List Bool}{n:Nat}(h:∀j,(F j).length=n):∀i,((List.range i).flatMap F).length=i*n
 |0=>by simp
 |i+1=>by
  have h1:=c8k h i;grind[b4U]
theorem c2W{mo:Mo}{st:U6}{jX:Nat->Nat->List Bool}{hb:Nat->Bool}(hm:∀c i,(jX c i).length=(U7 mo.ae c).width.toNat):(mo.dj st jX hb).length=mo.cd:=by
 unfold Mo.dj Mo.cd;simp only[Fq,a38];rw[c56 (f:=λp:Pr=>wid (p.ah:Int)) (F:=mo.cM st) λi h=>by unfold Mo.cM;rw[a1r,a12 h],
  c56 (f:=λv:Vr=>v.width.toNat) (F:=mo.cE st) λi h=>by unfold Mo.cE;rw[a1r,a3x h],
  c56 (f:=λc:Ch=>2+c.room.toNat*c.width.toNat) (F:=gR mo st jX) λi h=>by
   unfold gR;rw[Fq,Mo.cN,a1r,c8k (hm i),a2W h]]
theorem c4M{A:Nat->Bool}{k n:Nat}:a0U (λi=>decide (i=k)&&A i) n=(decide (k<n)&&A k):=by
 rw[FV,a5B];grind
end Go.V
namespace Go.Proofs.YtigbmclkjknnjaaGreat
open Go.V
variable{s:k4}{m:X7}{mo:Mo}{ps:List (Pr×X2)}{st:U6}{d:D}
theorem step_c{g:Nat}(hm:Z4 m mo ps)(ho:Z3 mo)(jB:a0P mo)(h8:fW st)(iQ:Fit mo st)(hg:GB s g){dc:D}(hd:VB s d (mo.pack st)){k0:Nat}(kL:VB s dc (bL (k0:Int) (wid (mo.allM.length:Int))))(oQ:k0<2^wid (mo.allM.length:Int))(qu ba:Bool){Q B:Nat->Bool}
 (hQ:qu=true->∀v x p s',p<mo.procs.length->GB s' g->Vs s' v g m mo st x->CB U5 76 [.ptr v 0,.int .i64 (p:Int)] s' (Q p))
 (hB:ba=true->∀v x p s',p<mo.procs.length->GB s' g->Vs s' v g m mo st x->CB U5 77 [.ptr v 0,.int .i64 (p:Int)] s' (B p)) :
 Y4 U5 16 [.ptr g 0,.agg [m.dt,.int .i64 m.g,m.dc,m.dv,m.dp,m.ds,.bool m.b],d,dc,.bool qu,.bool ba] s λr s'=>∃dt,r=.aT [dt,.int .i64 (V6 (decide (k0<mo.allM.length)&&mo.fI st (df (decide (st.hold<0)) qu ba Q B (λp=>decide (st.hold=(p:Int))) mo.procs.length) (aQ (decide (st.hold<0)) qu Q mo.procs.length) (X3 mo.allM k0)))]/\V5 dt=true/\Fr [] s s'/\(k0<mo.allM.length->X3 mo.allM k0∈mo.aA st->VB s' dt (mo.pack (mo.ee st (X3 mo.allM k0)))):=by
 have om:=hm.aw;have fm:=a3R hm;have od:=hd.one;have yn:=kL.one;have ky:=b02 iQ;have nF:=b1P ho jB;have f0:Fr [] s (s.push (.cells [m.dt,.int .i64 m.g,m.dc,m.dv,m.dp,m.ds,.bool m.b])):=Fr.push _;have gb:(s.push (.cells [m.dt,.int .i64 m.g,m.dc,m.dv,m.dp,m.ds,.bool m.b])).get s.next=some (.cells [m.dt,.int .i64 m.g,m.dc,m.dv,m.dp,m.ds,.bool m.b]):=W8 rfl;have Dx:VB s d (U1 (aB (mo.pack st)) mo.cd):=hd.fh (by rw[<- ky];exact(a5r _).symm);have kU:=kL.len;rw[a1r]at kU;have mM:=b8l hm ho;obtain⟨dl,nL,hl⟩:=b4c hm ho;have pD:=a0l nL;have nJ:=c1r ho;have ol:=hl.one;have fY:a0x false dl=some (.int .i64 (mo.allM.length:Int)):=by rw[hl.len];simp
 have hw16:=(a5P (mo.allM.length:Int)).2;obtain⟨A1,EP⟩:∃A1:Nat->Bool,A1=λi=>mo.fI st (df (decide (st.hold<0)) qu ba Q B (λp=>decide (st.hold=(p:Int))) mo.procs.length) (aQ (decide (st.hold<0)) qu Q mo.procs.length) (X3 mo.allM i):=⟨_,rfl⟩
 rw[show mo.fI st (df (decide (st.hold<0)) qu ba Q B (λp=>decide (st.hold=(p:Int))) mo.procs.length) (aQ (decide (st.hold<0)) qu Q mo.procs.length) (X3 mo.allM k0)=A1 k0 by rw[EP]];refine Y0 (vf:=vf16) rfl ?_;unfold vf16;refine zF ?_;refine zY (V4 om od yn) ?_;refine a0M (c22 hm ho jB (hg.fr f0) (hd.fr f0) ky) rfl ?_;rintro r s1 ⟨rfl,f1⟩;have lP:=f0.trans f1 sJ;have lE:=f1.kp gb;have sR:=t3 lE;refine zY (X4 lE om yn kU fm mM) ?_;refine xv (b8B (hg.fr lP) (Dx.fr lP) oJ) λob s2 rC g2 f2=>?_
 have je:=lP.trans f2 sJ;have mQ:=f2.kp lE;have wH:=t3 mQ;have EI:=g2;rw[<- ky,a5r]at EI;refine zY (aN mQ om) ?_;refine a0M (view_c hm ho jB iQ EI) rfl ?_;rintro r s3 ⟨v,x,rfl,hv,f3⟩;have iY:=je.trans f3 sJ;have pf:=f3.kp mQ;have At:=t3 pf;have g3:=f3.kp g2;refine zY (V1 pf om fm pD) ?_;have wh:=c5q hm ho jB h8 iQ (hg.fr iY) hv hl (λv hv=>b8R hv) oJ qu ba (λh p hp s' f=>hQ h v x p s' hp (hg.fr (iY.trans f sJ)) (hv.fr f)) (λh p hp s' f=>hB h v x p s' hp (hg.fr (iY.trans f sJ)) (hv.fr f));rw[<- EP]at wh;refine xv wh λab s4 oY g4 f4=>?_
 have jG:=iY.trans f4 sJ;refine zY yn ?_;refine xv (b8B (A:=W1 (k0:Int)) (w:=wid (mo.allM.length:Int)) (hg.fr jG) (kL.fr jG) oJ) λnb s5 hnb5 g5 f5=>?_
 have jO:=jG.trans f5 sJ;have m1:=fu (w:=mo.allM.length) oJ;have m2:=eK (w:=mo.allM.length) oJ;have hz:=a2c mo.allM.length;rw[a3Q (λi=>decide (i=k0))]at hz;have wW:U3 (U1 (Y1 (λi=>decide (i=k0)) 0) mo.allM.length)=U3 (U1 (Y1 (λi=>decide (i=k0)&&A1 i) 0) mo.allM.length):=rfl;have Ct:((s5.push (.cells (U3 (U1 (Y1 (λi=>decide (i=k0)) 0) mo.allM.length)))).push (.cells (U3 (U1 (Y1 (λi=>decide (i=k0)) 0) mo.allM.length)))).get s5.next=some (.cells (U3 (U1 (Y1 (λi=>decide (i=k0)) 0) mo.allM.length))):=by rw[a0k sJ,W8 rfl]
 have CJ:((s5.push (.cells (U3 (U1 (Y1 (λi=>decide (i=k0)) 0) mo.allM.length)))).push (.cells (U3 (U1 (Y1 (λi=>decide (i=k0)) 0) mo.allM.length)))).get (s5.next+1)=some (.cells (U3 (U1 (Y1 (λi=>decide (i=k0)&&A1 i) 0) mo.allM.length))):=W8 sJ;have f56:Fr [] s5 ((s5.push (.cells (U3 (U1 (Y1 (λi=>decide (i=k0)) 0) mo.allM.length)))).push (.cells (U3 (U1 (Y1 (λi=>decide (i=k0)) 0) mo.allM.length)))):=(Fr.push _).ak _;refine zY (W0 ol fY m1 m2 hz) ?_;generalize(s5.push (.cells (U3 (U1 (Y1 (λi=>decide (i=k0)) 0) mo.allM.length)))).push (.cells (U3 (U1 (Y1 (λi=>decide (i=k0)) 0) mo.allM.length)))=s6 at *;refine a1d [0,1,2,3,4,5,7,12,13,14,15,16,17,18,19,20,22,23,24,36,61,91,92,93,94,110] (λf s'=>s'.get s5.next=some (.cells (U3 (U1 (λi=>decide (i=k0)) mo.allM.length)))/\s'.get (s5.next+1)=some (.cells (U3 (U1 (λi=>decide (i=k0)&&A1 i) mo.allM.length)))/\Fr [] s5 s') ?_ ?_
 .refine W6 [0,1,2,3,4,5,7,12,13,14,15,16,17,18,19,20,22,23,24,36,61,91,92,93,94,110] 0 mo.allM.length (λi f s'=>f 62=.int .i64 (i:Int)/\s'.get s5.next=some (.cells (U3 (U1 (Y1 (λi=>decide (i=k0)) i) mo.allM.length)))/\s'.get (s5.next+1)=some (.cells (U3 (U1 (Y1 (λi=>decide (i=k0)&&A1 i) i) mo.allM.length)))/\Fr [] s5 s') (.mk rfl) oJ ⟨rfl,Ct,CJ,f56⟩ ?_
  clear Ct CJ f56 hz m1 m2;rintro i f s7 hi ⟨h,gp,gc,fr⟩;by_cases ci:i<mo.allM.length
  rotate_left
  .obtain rfl:i=mo.allM.length:=oJ
   rw[a3w]at gp gc;refine zY (aN h ci) ?_;exact⟨gp,gc,fr⟩
  have mC:=jO.trans fr sJ;have g57:=fr.kp g5;refine zY (aN h ci) ?_;refine xb (b2G (n:=k0) (k:=i) (hg.fr mC) (VB.bk g57) oQ hw16 oJ) λs8 f8=>?_
  have Bd:=f8.kp gp;have zx:=f8.kp gc;have lW:=mC.trans f8 sJ;have lp8:=t3 Bd;have lc8:=t3 zx;have hs:=a5E (A:=λi=>decide (i=k0)) (b:=decide (k0=i)) ci (by simp[eq_comm]);have hw:=a3d (A:=λi=>decide (i=k0)) ci;have Fh:=a2F (A:=Y1 (λi=>decide (i=k0)) (i+1)) ci;rw[show Y1 (λi=>decide (i=k0)) (i+1) i=decide (k0=i) by simp[Y1,eq_comm]]at Fh;have g48:=f8.kp (fr.kp (f5.kp g4));have l48:=t3 g48;have hga:=a2F (A:=A1) ci;have jt:ab≠s5.next:=by have:=t3 (f5.kp g4);have:=t3 g4;have:=f5.1;omega
  refine zY (X4 Bd hs hw Fh g48 hga) ?_;have f9:Fr [] s5 (s8.set s5.next (some (.cells (U3 (U1 (Y1 (λi=>decide (i=k0)) (i+1)) mo.allM.length))))):=(fr.trans f8 sJ).st (sm _) _;have gp9:(s8.set s5.next (some (.cells (U3 (U1 (Y1 (λi=>decide (i=k0)) (i+1)) mo.allM.length))))).get s5.next=_:=a0b lp8;have yw:(s8.set s5.next (some (.cells (U3 (U1 (Y1 (λi=>decide (i=k0)) (i+1)) mo.allM.length))))).get (s5.next+1)=some (.cells (U3 (U1 (Y1 (λi=>decide (i=k0)&&A1 i) i) mo.allM.length))):=by rw[Y8 oJ];exact zx
  generalize s8.set s5.next (some (.cells (U3 (U1 (Y1 (λi=>decide (i=k0)) (i+1)) mo.allM.length))))=s9 at *;refine xb (a1A (hg.fr (jO.trans f9 sJ)) _ _) λoj f10=>?_
  have zt:=f10.kp yw;have lc10:=t3 zt;have mq:=a5E (A:=λi=>decide (i=k0)&&A1 i) (b:=decide (k0=i)&&A1 i) ci (by simp[eq_comm]);have wi:=a3d (A:=λi=>decide (i=k0)&&A1 i) ci;have gp10:=f10.kp gp9;refine zY (V4 zt mq wi) ?_;exact⟨ci,gp10,(f9.trans f10 sJ).st oJ _⟩
 clear Ct CJ f56 hz m1 m2 wh;rintro f s7 ⟨gp,gc,fr⟩;have mC:=jO.trans fr sJ;have hv7:=hv.fr ((f4.trans f5 sJ).trans fr sJ);refine zY ol ?_;refine a0M (next_c hm ho jB h8 iQ (hg.fr mC) hv7 hl (λv hv=>b8R hv) oJ gp) rfl ?_;rintro r s8 ⟨v',x',qO,jX,hb,rfl,CU,Cx,tg,hhb,f8,xI⟩;have lW:=mC.trans f8 sJ;refine V9 ?_;refine a0M (join_c om ho jB CU Cx tg hhb) rfl ?_;rintro r s9 ⟨b9,rfl,hb9,g9,f9⟩;have qC:=lW.trans f9 sJ;have hN:=c2W (st:=qO) (hb:=hb) tg;have CP:=a5r (mo.dj qO jX hb);rw[hN]at CP;rw[<- CP]at g9;rw[hN];refine V9 ?_;refine a1d [0,1,2,3,4,5,7,12,13,14,15,16,17,18,19,20,21,22,36,61,62,63,91,92] (λf' s'=>s'=s9) ?_ ?_
 .refine W6 [0,1,2,3,4,5,7,12,13,14,15,16,17,18,19,20,21,22,36,61,62,63,91,92] 0 mo.cd (λi f' s'=>f' 93=.int .i64 (i:Int)/\s'=s9) (.mk rfl) oJ ⟨rfl,rfl⟩ ?_
  rintro i f' oj hi ⟨h,rfl⟩;by_cases ci:i<mo.cd
  rotate_left
  .obtain rfl:i=mo.cd:=oJ
   exact zZ (aN h ci)
  have qR:=a2F (A:=aB (mo.dj qO jX hb)) ci;cases uN:aB (mo.dj qO jX hb) i
  .rw[uN,a4Q]at qR
   have go:=((((f3.trans f4 sJ).trans f5 sJ).trans fr sJ).trans f8 sJ).trans f9 sJ;have go:=go.kp g2;have zH:=a2F (A:=aB (mo.pack st)) ci;obtain⟨p,p1,p2⟩:=(Dx.fr qC).cQ ci (k:=.i64);have hx:(V6 (aB (mo.pack st) i) != V6 (aB (mo.pack st) i))=false:=sJ;exact zZ (U0 h ci g9 qR go zH od (V4 p1 p2 hx))
  .rw[uN,a3P]at qR
   exact zZ (V1 h ci g9 qR)
 rintro f' oj rfl;have yw:=f9.kp (f8.kp gc);refine V9 ?_;refine xb (a6u (hg.fr qC) (VB.bk yw) oJ) λwS f11=>?_
 rw[c4M];refine V9 ?_;refine⟨_,rfl,rfl,qC.trans f11 sJ,λh1 h2=>?_⟩;obtain⟨rfl,h3,h4⟩:=xI h1 h2;have e:=c5B (b4E ho jB iQ (b5Z h2)) h3 h4;rw[<- e];exact VB.arr (by rw[<- CP];exact f11.kp g9) hN
variable{x:bH}
theorem c6g{f:Nat}{args:List D}{P:U6->Prop}(h:Y4 U5 f args k4.empty λr s=>∃cs st,r=.agg cs/\a4t s cs st/\P st):∃x st,a46 U5 f args (.agg [x.da,x.dv,x.dc,.int .i64 st.hold])/\eR x st/\P st:=by
 obtain⟨d,s',h1,cs,st,rfl,h2,h3⟩:=h;obtain⟨x,h4,h5⟩:=h2.dI;exact⟨x,st,⟨_,_,h1,h4⟩,h5,h3⟩
theorem c4i(hm:Z4 m mo ps)(ho:Z3 mo)(hf:a0P mo){raw:List Int}(hd:FI d raw)(pt:∀n∈raw,a2C n):∃x st,bz U5 12 [.agg [m.dt,.int .i64 m.g,m.dc,m.dv,m.dp,m.ds,.bool m.b],d] (.agg [x.da,x.dv,x.dc,.int .i64 st.hold])/\a2Z mo x st/\st.hold=-1:=by
 obtain⟨x,st,h1,h2,h3,h4⟩:=c6g (c6U hm ho hf hd pt);exact⟨x,st,a0l h1,⟨h2,a51 hf h3,h3⟩,h4⟩
theorem c6m{t:List Nd}(hT:Z0 d t):∃d',bz U5 6 [d] d'/\b93 t d':=by
 have pT:PZ d:=hT.fl.pz;have jw:=hT.fl.len;obtain⟨b,hb,_⟩:=c5g hT;have hb:=a6t hb rfl;cases b
 .refine⟨.aT [.agg [.ag,.int .i64 0,.ag,.ag,.ag,.ag,.bool false],.bool false],a0l ?_,.inl rfl⟩
  refine a0A (vf:=vf6) rfl ?_;unfold vf6;refine zF ?_;refine zY (aN pT hb) ?_;rfl
 obtain⟨c,hc,hR⟩:=c4t hT;have hc:=a6t hc rfl;cases c
 .refine⟨.aT [.agg [.ag,.int .i64 0,.ag,.ag,.ag,.ag,.bool false],.bool false],a0l ?_,.inl rfl⟩
  refine a0A (vf:=vf6) rfl ?_;unfold vf6;refine zF ?_;refine zY (V4 pT hb hc) ?_;rfl
 by_cases cl:(150:Int)<((t.map Nd.row).length:Int)
 .refine⟨.aT [.agg [.ag,.int .i64 0,.ag,.ag,.ag,.ag,.bool false],.bool false],a0l ?_,.inl rfl⟩
  refine a0A (vf:=vf6) rfl ?_;unfold vf6;refine zF ?_;refine zY (W0 pT hb hc jw cl) ?_;rfl
 have cl:((150:Int)<((t.map Nd.row).length:Int))=False:=sU cl;obtain⟨r,s1,d',h1,h2,h3⟩:=makeI hT (hR rfl);have Db:bz U5 29 [d] d':=a0l ⟨_,_,h1,h2⟩;refine⟨d',a0l ?_,h3⟩;rcases h3 with rfl|⟨m,ps,rfl,hR,hS,hY,hm⟩
 .refine a0A (vf:=vf6) rfl ?_
  unfold vf6;refine zF ?_;refine zY (X4 pT hb hc jw cl Db) ?_;rfl
 .have om:=hm.aw
  have fm:=a3R hm;unfold Z6 at Db⊢;refine a0A (vf:=vf6) rfl ?_;unfold vf6;refine zF ?_;refine zY (X0 pT hb hc jw cl Db om) ?_;trivial
theorem newB_c:Y4 U5 13 [] s λr s'=>∃g,r=.ptr g 0/\GB s' g/\Fr [] s s':=by
 have m1:(16:Int)<=2^47:=dJ;have m2:(1:Int)<2^62:=dJ;refine Y0 (vf:=vf13) rfl ?_;unfold vf13;refine zF ?_;refine zY (aN m1 m2) ?_;exact⟨_,rfl,⟨_,_,W8 sJ⟩,((Fr.push _).ak _).ak _⟩
theorem c5r{k w:Nat}(hk:k<=100000)(hw:w<=16):a5u U5 17 [.int .i64 (k:Int),.int .i64 (w:Int)] λd=>VZ d (bL (k:Int) w):=by
 refine a5n (vf:=vf17) rfl ?_;unfold vf17;refine zF ?_;refine V9 ?_;refine W6 [1,4] 0 w (λi f s'=>f 6=.int .i64 (i:Int)/\f 0=.int .i64 ((k/2^i:Nat):Int)/\cK k4.empty s' (f 5) (bL (k:Int) i)) (.mk rfl) oJ ⟨rfl,(by rw[Nat.pow_zero,Nat.div_one];rfl),cK.nil (Fr.refl _ _)⟩ ?_;rintro i f s2 hi ⟨h,h0,hb⟩;have ob:=hb.one;by_cases ci:i<w
 rotate_left
 .obtain rfl:i=w:=oJ
  obtain⟨d',e1,e2⟩:=hb.vb.dI;refine zY (V4 h ci ob) ?_;exact⟨d',e1,e2⟩
 have htm:((k/2^i:Nat):Int).tmod 2=V6 (W1 (k:Int) i):=by
  rw[<- a9k];show(((k/2^i:Nat):Int)).tmod ((2:Nat):Int)=_
  rw[<- Int.ofNat_tmod];simp
 have tO:((k/2^i:Nat):Int).tdiv 2=((k/2^(i+1):Nat):Int):=by
  show(((k/2^i:Nat):Int)).tdiv ((2:Nat):Int)=_
  rw[<- Int.ofNat_tdiv,Nat.div_div_eq_div_mul,<- Kz]
 have hlt':k/2^(i+1)<=100000:=FE (JY _ _) hk;have Ag:IntKind.i64.wrap ((k/2^(i+1):Nat):Int)=((k/2^(i+1):Nat):Int):=by
  generalize k/2^(i+1)=q at hlt';exact Z9 oJ oJ
 have jq:k/2^(i+1)<=100000:=FE (JY _ _) hk;refine zY (W0 h ci h0 ob htm) ?_;refine b2Y hb (by rw[a1r];omega) λd3 s3 h3=>?_
 have o3:=h3.one;refine zY (V4 o3 tO Ag) ?_;refine⟨ci,?_⟩;rw[a9o];exact h3
end Go.Proofs.YtigbmclkjknnjaaGreat
namespace Go.V
def qtL(Q:Nat->Bool)(a j:Nat):List Bool:=((List.range j).filter Q).map λk=>decide (a=k)
variable{Q:Nat->Bool}
theorem c8K{a j:Nat}:qtL Q a (j+1)=qtL Q a j++if Q j then[decide (a=j)]else[]:=by
 grind[qtL,List.range_succ]
theorem c84{a j:Nat}:(qtL Q a j).length<=j:=by
 grind[qtL]
theorem c9q{a n:Nat}(h:a<n):(qtL Q a n).any id=Q a:=by
 unfold qtL;rw[FV,Ht];simp_all
theorem b9B{x y b:Nat}(hx:x<4294967296)(hy:y<4294967296)(h1:x.testBit b=true)(h2:y.testBit b=false):¬IntKind.u32.wrap (b0r .u32 (x:Int) (y:Int))=0:=by
 intro h;unfold b0r at h;have hb:b<32:=by
  apply Decidable.byContradiction;intro hn;have:=Gq (show x<2^32 from hx) (HQ (n:=2) dJ (by omega:32<=b));rw[Nat.testBit_lt_two_pow this]at h1;cases h1
 have jq:=(BitVec.ofInt IntKind.u32.bits (x:Int) &&& ~~~ BitVec.ofInt IntKind.u32.bits (y:Int)).isLt;rw[IJ]at h;have h0:(BitVec.ofInt IntKind.u32.bits (x:Int) &&& ~~~ BitVec.ofInt IntKind.u32.bits (y:Int)).toNat=0:=by
  have:(2:Nat)^IntKind.u32.bits=4294967296:=rfl;omega
 have h3:(BitVec.ofInt IntKind.u32.bits (x:Int) &&& ~~~ BitVec.ofInt IntKind.u32.bits (y:Int)).getLsbD b=false:=by
  rw[BitVec.getLsbD,h0,Nat.zero_testBit]
 grind[b1l]
def cG(p:Pr)(k j:Nat):List Ed:=(p.ai.take j).filter λe=>decide (e.aq=k)
theorem b34(p:Pr)(k:Nat):cG p k p.ai.length=fR p k:=by simp[cG,fR]
variable{p:Pr}{k:Nat}
theorem c0t{j:Nat}(h:j<p.ai.length):cG p k (j+1)=cG p k j++if(V3 p.ai j).aq=k then[V3 p.ai j]else[]:=by
 grind[cG,List.take_succ_eq_append_getElem,a5H]
theorem b4u(p:Pr)(k j:Nat):(cG p k j).length<=p.ai.length:=by
 grind[cG]
variable{mo:Mo}
theorem b5k(ho:Z3 mo)(hp:a7b mo p){e:Ed}(he:e∈p.ai):a9x p (Z8 mo p e)=true↔∀b,((Z8 mo p e).reads ||| (Z8 mo p e).writes).testBit b=true->b∈p.locals:=by
 unfold a9x;simp only[FZ,FU,Gg,Js,IH];have lF:=c2g ho hp he;have hv:=ho.nv;constructor
 .intro h b hb
  have hb32:b<32:=by
   have jr:=hb;rw[IA,Gg]at jr;have:=hp.var b (jr.elim (lF.reads b) (lF.writes b));omega
  rcases h b hb32 with h|h
  .rw[hb]at h;cases h
  .exact h
 grind
theorem c1l{i:Nat}{e:Ed}(he:e∈(k7 mo.procs i).ai)(hk:e.aq=k)(h:a2z mo (k7 mo.procs i) e=false):mo.quiet i k=false:=by
 have:(fR (k7 mo.procs i) k).all (a2z mo (k7 mo.procs i))=false:=by
  rw[HF];intro iR;have:=FZ.1 iR e (Gu.2 ⟨he,sU hk⟩);rw[h]at this;cases this
 unfold Mo.quiet;grind
theorem b7U{i k:Nat}(hi:i<mo.procs.length)(h:∀e∈(k7 mo.procs i).ai,e.aq=k->a2z mo (k7 mo.procs i) e=true):mo.quiet i k=(a6l (fR (k7 mo.procs i) k)||dO (fR (k7 mo.procs i) k)):=by
 have:(fR (k7 mo.procs i) k).all (a2z mo (k7 mo.procs i))=true:=by
  rw[FZ];intro e he;obtain⟨a,b⟩:=Gu.1 he;exact h e a (sU b)
 simp_all[Mo.quiet]
theorem c4m(ho:Z3 mo){i:Nat}(hi:i<mo.procs.length)(hk:(k7 mo.procs i).ah<=k):mo.quiet i k=false:=by
 have hl:fR (k7 mo.procs i) k=[]:=by
  unfold fR;rw[IF];intro e he;have:=((ho.pr _ (a1S hi)).inv.ed e he).f;simp only[Fy];omega
 grind[Mo.quiet,a6l,dO]
end Go.V
namespace Go.Proofs.YtigbmclkjknnjaaGreat
open Go.V
variable{m:X7}{mo:Mo}{ps:List (Pr×X2)}{i:Nat}
theorem c0B(hm:Z4 m mo ps)(ho:Z3 mo){p:Nat}(hp:p<mo.procs.length)(hi:i<(k7 mo.procs p).ai.length) :
 bz U5 152 [.agg [m.dt,.int .i64 m.g,m.dc,m.dv,m.dp,m.ds,.bool m.b],.int .i64 (p:Int),.int .i64 (i:Int)] (.aT [.agg (Z8 mo (k7 mo.procs p) (V3 (k7 mo.procs p).ai i)).row,.bool true])/\(Z8 mo (k7 mo.procs p) (V3 (k7 mo.procs p).ai i)).Ok:=by
 rw[a5H hi];have e:k7 mo.procs p=mo.procs[p]:=a12 hp;simp only[e]at hi⊢;obtain⟨⟨s,h⟩,jD⟩:=c68 hm ho hp hi;exact⟨a0l ⟨_,s,h,rfl⟩,jD⟩
variable{d:D}{l:List Ed}
theorem c3l(hd:FL 8 d (a0O l))(hl:l.length<=4000):bz U5 153 [d] (.bool (a6l l)):=by
 have jw:=ln_e hd;refine a0l ?_;refine a0A (vf:=b3J) rfl ?_;unfold b3J;refine zF ?_;refine zY jw ?_;refine W6 [0,5,6] 0 l.length (λi f s=>f 7=.int .i64 (i:Int)/\∀j,j<i->(V3 l j).act<=1) (.mk rfl) oJ ⟨rfl,λj h=>by omega⟩ ?_;rintro i f s hi ⟨hE,iR⟩;by_cases ci:i<l.length
 .have hx:=a6B hd ci (k:=.i64)
  have no:¬(V3 l i).act<=1->a6l l=false:=λh=>by
   unfold a6l;have:l.all (λe=>decide (e.act<=1))=false:=by
    rw[HF];intro ha;exact h (by simpa using FZ.1 ha _ (a3U ci))
   rw[this,FY]
  have yes:(V3 l i).act<=1->∀j,j<i+1->(V3 l j).act<=1:=λh j hj=>by
   by_cases ej:j=i
   .subst ej;exact h
   .exact iR j oJ
  by_cases a0:((V3 l i).act:Int)=0
  .refine zY (W0 hE jw ci hx a0) ?_
   exact yes oJ
  by_cases a1:((V3 l i).act:Int)=1
  .refine zY (X4 hE jw ci hx a0 a1) ?_
   exact yes oJ
  .refine zY (X4 hE jw ci hx a0 a1) ?_
   exact(no oJ).symm
 .obtain rfl:i=l.length:=oJ
  refine zY (V4 hE jw ci) ?_;unfold a6l;have:l.all (λe=>decide (e.act<=1))=true:=by
   rw[FZ];intro e he;obtain⟨j,hj,rfl⟩:=FQ he;have:=iR j hj;rw[a5H hj]at this;simpa using this
  rw[this,Gd]
theorem c4D(hd:FL 8 d (a0O l))(hl:l.length<=4000):bz U5 154 [d] (.bool (dO l)):=by
 have jw:=ln_e hd;refine a0l ?_;unfold dO;by_cases c2:l.length=2
 .have h0:=a6B hd (i:=0) oJ (k:=.i64)
  have h1:=a6B hd (i:=1) oJ (k:=.i64);have z0:((0:Nat):Int)=0:=rfl;have z1:((1:Nat):Int)=1:=rfl;rw[z0]at h0;rw[z1]at h1;refine a0A (vf:=a9Y) rfl ?_;unfold a9Y;refine zF ?_;refine zY (V1 jw c2 h0 h1) ?_;repeat' (first|(refine a4j (λc=>?_) (λc=>?_)<;>(try simp only[a4d,a4a,a4i,a37]at c)<;>simp(disch:=(first|exact Rf.mk rfl|with_reducible assumption|omega|((repeat(first|rw[nP]|rw[nS]|rw[Y3]))<;>omega)|decide)) only[go_sem,↓reduceIte,jw,c2,h0,h1,c])|(refine a4o (λc=>?_) (λc=>?_)<;>(try simp only[a4d,a4a,a4i,a37]at c)<;>simp(disch:=(first|exact Rf.mk rfl|with_reducible assumption|omega|((repeat(first|rw[nP]|rw[nS]|rw[Y3]))<;>omega)|decide)) only[go_sem,↓reduceIte,jw,c2,h0,h1,c]))
  all_goals first|(simp_all;done)|(simp_all;omega)
 .have c3:¬(l.length:Int)=2:=oJ
  refine a0A (vf:=a9Y) rfl ?_;unfold a9Y;refine zF ?_;refine zY (aN jw c3) ?_;simp[c2]
theorem c2O(hm:Z4 m mo ps)(ho:Z3 mo)(hq:MoQ mo){k:Nat}(hi:i<mo.procs.length):bz U5 121 [.agg [m.dt,.int .i64 m.g,m.dc,m.dv,m.dp,m.ds,.bool m.b],.int .i64 (i:Int),.int .i64 (k:Int)] (.bool (mo.quiet i k)):=by
 have om:=hm.aw;have fm:=a3R hm;have jh:=ho.pr _ (a1S hi);have mO:=jh.el;have lD:=ho.nv;have c1:¬mo.procs.length<=i:=oJ;refine a0l ?_;by_cases hk:(k7 mo.procs i).ah<=k
 .rw[c4m ho hi hk]
  refine a0A (vf:=a9H) rfl ?_;unfold a9H;refine zF ?_;exact zZ (V1 om hi c1 hk)
 have sZ:∀v∈(k7 mo.procs i).locals,v<32:=λv hv=>by have:=jh.var v (jh.loc v hv).1;omega
 have nJ:(k7 mo.procs i).locals.length<=1000000:=by have:=hq.ll i hi;omega
 refine a0A (vf:=a9H) rfl ?_;unfold a9H;refine zF ?_;refine zY (V1 om hi c1 hk) ?_;have jV:Hp (((k4.empty.push (.cells [m.dt,.int .i64 m.g,m.dc,m.dv,m.dp,m.ds,.bool m.b])).push (.cells [.str (bs []),.int .i64 0,.ag,.int .i64 0,.ag,.ag,.ag,.ag])).set 1 (some (.cells [.str (k7 mo.procs i).name,.int .i64 ((k7 mo.procs i).copy:Int),(V8 ps i).dl,.int .i64 ((k7 mo.procs i).ah:Int),(V8 ps i).dr,(V8 ps i).de,(V8 ps i).dn,(V8 ps i).dv]))) [] [(0,[m.dt,.int .i64 m.g,m.dc,m.dv,m.dp,m.ds,.bool m.b]),(1,[.str (k7 mo.procs i).name,.int .i64 ((k7 mo.procs i).copy:Int),(V8 ps i).dl,.int .i64 ((k7 mo.procs i).ah:Int),(V8 ps i).dr,(V8 ps i).de,(V8 ps i).dn,(V8 ps i).dv])]:=⟨Hk,sJ,by simp[Y2],by
  intro y hy;simp only[Fi,FW,Hg]at hy;rcases hy with rfl|rfl
  .exact bB
  .simp(disch:=(first|exact Rf.mk rfl|with_reducible assumption|omega|((repeat(first|rw[nP]|rw[nS]|rw[Y3]))<;>omega)|decide)) only[go_sem,↓reduceIte]⟩
 generalize((k4.empty.push (.cells [m.dt,.int .i64 m.g,m.dc,m.dv,m.dp,m.ds,.bool m.b])).push (.cells [.str (bs []),.int .i64 0,.ag,.int .i64 0,.ag,.ag,.ag,.ag])).set 1 (some (.cells [.str (k7 mo.procs i).name,.int .i64 ((k7 mo.procs i).copy:Int),(V8 ps i).dl,.int .i64 ((k7 mo.procs i).ah:Int),(V8 ps i).dr,(V8 ps i).de,(V8 ps i).dn,(V8 ps i).dv]))=s0 at *;have hg:∀{s E},Hp s E [(0,[m.dt,.int .i64 m.g,m.dc,m.dv,m.dp,m.ds,.bool m.b]),(1,[.str (k7 mo.procs i).name,.int .i64 ((k7 mo.procs i).copy:Int),(V8 ps i).dl,.int .i64 ((k7 mo.procs i).ah:Int),(V8 ps i).dr,(V8 ps i).de,(V8 ps i).dn,(V8 ps i).dv])]->s.get 0=some (.cells [m.dt,.int .i64 m.g,m.dc,m.dv,m.dp,m.ds,.bool m.b])/\s.get 1=some (.cells [.str (k7 mo.procs i).name,.int .i64 ((k7 mo.procs i).copy:Int),(V8 ps i).dl,.int .i64 ((k7 mo.procs i).ah:Int),(V8 ps i).dr,(V8 ps i).de,(V8 ps i).dn,(V8 ps i).dv]):=λh=>⟨h.r (0,_) sJ,h.r (1,_) sJ⟩
 refine a1d [0,1,2,3,6,7,11,12,13,14,15,38,45,46,58,59,60,61,68,92,119] (λf s'=>f 8=.int .u32 (bq (k7 mo.procs i).locals:Int)/\s'=s0) ?_ ?_
 .obtain⟨g0,g1⟩:=hg jV
  refine W6 [0,1,2,3,6,7,11,12,13,14,15,38,45,46,58,59,60,61,68,92,119] 0 (k7 mo.procs i).locals.length (λj f s'=>f 47=.int .i64 (j:Int)/\f 8=.int .u32 (bq ((k7 mo.procs i).locals.take j):Int)/\s'=s0) (.mk rfl) oJ ⟨rfl,rfl,rfl⟩ ?_;rintro j f s' hj ⟨hE,nM,rfl⟩;by_cases cj:j<(k7 mo.procs i).locals.length
  .have hb:W2 (k7 mo.procs i).locals j<32:=by rw[a4e cj];exact sZ _ (Fp cj)
   have hu:IntKind.u64.wrap (W2 (k7 mo.procs i).locals j:Int)=(W2 (k7 mo.procs i).locals j:Int):=by rw[IL];omega
   have lH:=b3Q hb;have jq:=b2k (l:=(k7 mo.procs i).locals.take j) λv hv=>sZ v (Gh hv)
   have sW:=a9A jq (a6P hb);have hsn:bq ((k7 mo.procs i).locals.take j) ||| 2^W2 (k7 mo.procs i).locals j=bq ((k7 mo.procs i).locals.take (j+1)):=by rw[FO cj,c8A,a4e cj]
   rw[hsn]at sW;exact zZ (U0 hE nM cj g0 g1 om hu (aN lH sW))
  .obtain rfl:j=(k7 mo.procs i).locals.length:=oJ
   rw[Gf]at nM;exact zZ (V4 hE nM cj)
 rintro f s ⟨nM,rfl⟩;obtain⟨g0,g1⟩:=hg jV;refine zY (V4 g0 g1 om) ?_;refine a1d [0,1,2,3,7,8,10,38,45,46,47,48,58,59] (λf s=>(∃E,Rp (f 11) 8 (a0O (fR (k7 mo.procs i) k)) E/\Hp s E [(0,[m.dt,.int .i64 m.g,m.dc,m.dv,m.dp,m.ds,.bool m.b]),(1,[.str (k7 mo.procs i).name,.int .i64 ((k7 mo.procs i).copy:Int),(V8 ps i).dl,.int .i64 ((k7 mo.procs i).ah:Int),(V8 ps i).dr,(V8 ps i).de,(V8 ps i).dn,(V8 ps i).dv])])/\mo.quiet i k=(a6l (fR (k7 mo.procs i) k)||dO (fR (k7 mo.procs i) k))) ?_ ?_
 .refine W6 [0,1,2,3,7,8,10,38,45,46,47,48,58,59] 0 (k7 mo.procs i).ai.length (λj f s=>f 60=.int .i64 (j:Int)/\(∃E,Rp (f 11) 8 (a0O (cG (k7 mo.procs i) k j)) E/\Hp s E [(0,[m.dt,.int .i64 m.g,m.dc,m.dv,m.dp,m.ds,.bool m.b]),(1,[.str (k7 mo.procs i).name,.int .i64 ((k7 mo.procs i).copy:Int),(V8 ps i).dl,.int .i64 ((k7 mo.procs i).ah:Int),(V8 ps i).dr,(V8 ps i).de,(V8 ps i).dn,(V8 ps i).dv])])/\∀q,q<j->(V3 (k7 mo.procs i).ai q).aq=k->a2z mo (k7 mo.procs i) (V3 (k7 mo.procs i).ai q)=true) (.mk rfl) oJ ⟨rfl,⟨[],.inl ⟨rfl,rfl,rfl⟩,jV⟩,λq h=>by omega⟩ ?_
  clear g0 g1;rintro j f s hj ⟨hE,⟨E,hr,hp⟩,iR⟩;obtain⟨g0,g1⟩:=hg hp;have l0:=t3 g0;have l1:=t3 g1;by_cases cj:j<(k7 mo.procs i).ai.length
  .have jE:=hp.fr (a1Q (z:=.cells [.int .i64 0,.int .i64 0,.int .i64 0,.int .i64 0,.int .i64 0,.int .i64 0,.bool false,.int .i64 0]) (o:=.cells [.int .i64 ((V3 (k7 mo.procs i).ai j).aq:Int),.int .i64 ((V3 (k7 mo.procs i).ai j).to:Int),.int .i64 ((V3 (k7 mo.procs i).ai j).act:Int),.int .i64 (V3 (k7 mo.procs i).ai j).expr,.int .i64 (V3 (k7 mo.procs i).ai j).var,.int .i64 (V3 (k7 mo.procs i).ai j).chan,.bool (V3 (k7 mo.procs i).ai j).aG,.int .i64 ((V3 (k7 mo.procs i).ai j).node:Int)]))
   have qX:=c0t (k:=k) cj;by_cases cf:(V3 (k7 mo.procs i).ai j).aq=k
   rotate_left
   .rw[so cf,Fl]at qX
    refine zY (X4 hE cj g0 g1 om cf) ?_;rw[qX];refine⟨⟨E,hr,jE⟩,λq hq hf=>?_⟩;by_cases eq:q=j
    .subst eq;exact absurd hf cf
    .exact iR q oJ hf
   rw[Fk cf]at qX;obtain⟨hb,jD⟩:=c0B hm ho hi cj;have kj:=a3U cj;by_cases tP:a2z mo (k7 mo.procs i) (V3 (k7 mo.procs i).ai j)=true
   .have q:=c5N ho jh kj tP
    have lF:=(b5k ho jh kj).1 (by
     unfold a2z at tP;simp only[Fo]at tP;exact tP.1.2)
    have sq:=c4U (a67 jD.r jD.w) (b2k sZ) λb hb=>b6e.2 (lF b hb)
    have sW:=a9A jD.r jD.w;unfold Ft.row at hb;rw[q.part,q.s0,q.r0,q.z0]at hb;have qk:=q.aG;have z0:((0:Nat):Int)=0:=rfl;rw[z0]at hb;have q1:¬((V3 (k7 mo.procs i).ai j).to:Int)=1->¬(V3 (k7 mo.procs i).ai j).to<=k:=λh=>by have:=q.to;omega
    have iS:a0O (cG (k7 mo.procs i) k (j+1))=a0O (cG (k7 mo.procs i) k j)++[[.int .i64 ((V3 (k7 mo.procs i).ai j).aq:Int),.int .i64 ((V3 (k7 mo.procs i).ai j).to:Int),.int .i64 ((V3 (k7 mo.procs i).ai j).act:Int),.int .i64 (V3 (k7 mo.procs i).ai j).expr,.int .i64 (V3 (k7 mo.procs i).ai j).var,.int .i64 (V3 (k7 mo.procs i).ai j).chan,.bool (V3 (k7 mo.procs i).ai j).aG,.int .i64 ((V3 (k7 mo.procs i).ai j).node:Int)]]:=by rw[qX];simp[a0O,Ed.row]
    rw[cf,qk]at iS;by_cases ct:((V3 (k7 mo.procs i).ai j).to:Int)=1
    rotate_left
    have q1:=q1 ct;have ji:=iS;rotate_left
    have ji:=iS;rw[ct]at ji
    all_goals
     refine zY (U0 hE cj g0 g1 om cf hb (X0 fm qk nM ct q1 sW sq)) ?_;refine a9y (A:=[]) (B:=[]) hr (by rw[Fv,Fl];exact(hp.fr a1Q).fr a1Q) rfl (a7v _) dJ (by have:=b4u (k7 mo.procs i) k j;simp;omega) ?_;intro s' h1 h2 h3 h4;refine zY (aN hE cj) ?_;rw[ji];refine⟨⟨_,h1,sU h2⟩,λq hq hf=>?_⟩;by_cases eq:q=j
     .subst eq;exact tP
     .exact iR q oJ hf
   .rw[c1l kj cf (sU tP)]
    have sW:=a9A jD.r jD.w;unfold Ft.row at hb;by_cases qk:(V3 (k7 mo.procs i).ai j).aG=true
    .exact zZ (U0 hE cj g0 g1 om cf hb (V4 fm qk nM))
    have qk:(V3 (k7 mo.procs i).ai j).aG=false:=sU qk;by_cases ct:((V3 (k7 mo.procs i).ai j).to:Int)=1
    .have q0:=ct
     by_cases qp:(Z8 mo (k7 mo.procs i) (V3 (k7 mo.procs i).ai j)).part=true
     .exact zZ (U0 hE cj g0 g1 om cf hb (W0 fm qk nM ct qp))
     have qp:(Z8 mo (k7 mo.procs i) (V3 (k7 mo.procs i).ai j)).part=false:=sU qp;by_cases qs:((Z8 mo (k7 mo.procs i) (V3 (k7 mo.procs i).ai j)).aW:Int)=0
     rotate_left
     .exact zZ (U0 hE cj g0 g1 om cf hb (X4 fm qk nM ct qp qs))
     by_cases qr:((Z8 mo (k7 mo.procs i) (V3 (k7 mo.procs i).ai j)).aY:Int)=0
     rotate_left
     .exact zZ (U0 hE cj g0 g1 om cf hb (X0 fm qk nM ct qp qs qr))
     by_cases qz:((Z8 mo (k7 mo.procs i) (V3 (k7 mo.procs i).ai j)).aX:Int)=0
     rotate_left
     .exact zZ (U0 hE cj g0 g1 om cf hb (U0 fm qk nM ct qp qs qr qz))
     have qo:¬ ∀b,((Z8 mo (k7 mo.procs i) (V3 (k7 mo.procs i).ai j)).reads ||| (Z8 mo (k7 mo.procs i) (V3 (k7 mo.procs i).ai j)).writes).testBit b=true->b∈(k7 mo.procs i).locals:=λtL=>tP (by
      have h1:=(b5k ho jh kj).2 tL;unfold a2z;simp only[qk,qp,h1,Hb,HR,Gd,Fo,Gg,Fy];omega)
     obtain⟨b,jr⟩:=Kl.1 qo;obtain⟨kV,kJ⟩:=Classical.not_imp.1 jr;have sq:=b9B (a67 jD.r jD.w) (b2k sZ) kV (by rw[HF];exact λh=>kJ (b6e.1 h));exact zZ (U0 hE cj g0 g1 om cf hb (U0 fm qk nM ct qp qs qr (V4 qz sW sq)))
    by_cases uQ:(V3 (k7 mo.procs i).ai j).to<=k
    .exact zZ (U0 hE cj g0 g1 om cf hb (W0 fm qk nM ct uQ))
    by_cases qp:(Z8 mo (k7 mo.procs i) (V3 (k7 mo.procs i).ai j)).part=true
    .exact zZ (U0 hE cj g0 g1 om cf hb (X4 fm qk nM ct uQ qp))
    have qp:(Z8 mo (k7 mo.procs i) (V3 (k7 mo.procs i).ai j)).part=false:=sU qp;by_cases qs:((Z8 mo (k7 mo.procs i) (V3 (k7 mo.procs i).ai j)).aW:Int)=0
    rotate_left
    .exact zZ (U0 hE cj g0 g1 om cf hb (X0 fm qk nM ct uQ qp qs))
    by_cases qr:((Z8 mo (k7 mo.procs i) (V3 (k7 mo.procs i).ai j)).aY:Int)=0
    rotate_left
    .exact zZ (U0 hE cj g0 g1 om cf hb (U0 fm qk nM ct uQ qp qs qr))
    by_cases qz:((Z8 mo (k7 mo.procs i) (V3 (k7 mo.procs i).ai j)).aX:Int)=0
    rotate_left
    .exact zZ (U0 hE cj g0 g1 om cf hb (U0 fm qk nM ct uQ qp qs (aN qr qz)))
    have qo:¬ ∀b,((Z8 mo (k7 mo.procs i) (V3 (k7 mo.procs i).ai j)).reads ||| (Z8 mo (k7 mo.procs i) (V3 (k7 mo.procs i).ai j)).writes).testBit b=true->b∈(k7 mo.procs i).locals:=λtL=>tP (by
     have h1:=(b5k ho jh kj).2 tL;unfold a2z;simp only[qk,qp,h1,Hb,HR,Gd,Fo,Gg,Fy];omega)
    obtain⟨b,jr⟩:=Kl.1 qo;obtain⟨kV,kJ⟩:=Classical.not_imp.1 jr;have sq:=b9B (a67 jD.r jD.w) (b2k sZ) kV (by rw[HF];exact λh=>kJ (b6e.1 h));exact zZ (U0 hE cj g0 g1 om cf hb (U0 fm qk nM ct uQ qp qs (V1 qr qz sW sq)))
  .obtain rfl:j=(k7 mo.procs i).ai.length:=oJ
   rw[b34]at hr;refine zY (aN hE cj) ?_;refine⟨⟨E,hr,hp⟩,b7U hi λe he hf=>?_⟩;obtain⟨q,ku,rfl⟩:=FQ he;have:=iR q ku;rw[a5H ku]at this;exact this hf
 .rintro f s ⟨⟨E,hr,hp⟩,yo⟩
  obtain⟨d',h1,h2⟩:=a7y hr hp (λe h=>h) (a7v _) (b8M _);have EO:∀l,X8 (V.aK s.get 20) (f 11::l)=(X8 (V.aK s.get 20) l).map (d'::·):=λl=>ic_ice h1
  have hlen:(fR (k7 mo.procs i) k).length<=4000:=by rw[<- b34];exact FE (b4u _ _ _) mO
  have ky:=c3l h2 hlen;have qQ:=c4D h2 hlen;rw[yo];generalize a6l (fR (k7 mo.procs i) k)=pl at *;generalize dO (fR (k7 mo.procs i) k)=fk at *;cases pl
  .rw[HC]
   simp(disch:=(first|exact Rf.mk rfl|with_reducible assumption|omega|((repeat(first|rw[nP]|rw[nS]|rw[Y3]))<;>omega)|decide)) only[go_sem,↓reduceIte,EO,Bool.true_or,ky,qQ]
  .simp(disch:=(first|exact Rf.mk rfl|with_reducible assumption|omega|((repeat(first|rw[nP]|rw[nS]|rw[Y3]))<;>omega)|decide)) only[go_sem,↓reduceIte,EO,Bool.true_or,ky,qQ]
def dT(i:Nat)(v:Mv):Bool:=decide (v.kind=0)&&decide (v.proc=i)
variable{l:List Mv}{P:Mv->Bool}{j:Nat}
theorem b6l(h:j<l.length):(l.take (j+1)).filter P=(l.take j).filter P++if P (X3 l j)=true then[X3 l j]else[]:=by
 rw[FO h,List.filter_append,a7l h];congr 1
 by_cases c:P l[j]=true<;>simp[c]
theorem a9O:((l.take j).filter P).length<=l.length:=by
 refine FE (Hj _ _) ?_;rw[GO];omega
variable{st:U6}
theorem c5w(hi:i<mo.procs.length)(h:mo.quiet i (W2 st.aF i)=true)(hn:∀q,q<i->mo.quiet q (W2 st.aF q)=false):mo.bP st=some i:=by
 unfold Mo.bP;rw[List.find?_eq_some_iff_getElem];refine⟨h,i,sU hi,sJ,λj hj=>?_⟩;rw[Ix,hn j hj];rfl
theorem c2X(hn:∀q,q<mo.procs.length->mo.quiet q (W2 st.aF q)=false):mo.bP st=none:=by
 unfold Mo.bP;rw[List.find?_eq_none];intro q hq;rw[hn q (FU.1 hq)];simp
theorem c8R(mo:Mo)(st:U6):mo.aJ st=mo.aA st\/∃i,st.hold<0/\mo.bP st=some i/\mo.quiet i (W2 st.aF i)=true/\mo.aJ st=(mo.aA st).filter (dT i):=by
 unfold Mo.aJ;split
 .rename_i hh
  cases hF:mo.bP st with
  |none=>exact .inl rfl
  |some i =>
   have As:mo.quiet i (W2 st.aF i)=true:=by
    have:=List.find?_some hF;exact this
   exact .inr ⟨i,hh,rfl,As,rfl⟩
 .exact .inl rfl
end Go.Proofs.YtigbmclkjknnjaaGreat
namespace Go.V
theorem ss_mv{v w:Mv}:a21 [.i,.i,.i,.i] [.int .i64 (v.kind:Int),.int .i64 (v.proc:Int),.int .i64 (v.bb:Int),.int .i64 (v.chan:Int)] [.int .i64 (w.kind:Int),.int .i64 (w.proc:Int),.int .i64 (w.bb:Int),.int .i64 (w.chan:Int)]=some (decide (v=w)):=by
 have e:∀a b:Nat,((a:Int)==(b:Int))=decide (a=b):=λa b=>by
  grind
 cases v;cases w;simp[a21,a7O,e,Bool.decide_and]
attribute [go_sem] ss_mv
end Go.V
namespace Go.Proofs.YtigbmclkjknnjaaGreat
open Go.V
variable{p:Pr}
theorem b6b:b1m p=true↔∀j,j<p.ai.length->(V3 p.ai j).to≠0:=by
 unfold b1m;rw[FZ];constructor
 .intro h j hj
  simpa using h _ (a3U hj)
 .intro h e he
  obtain⟨j,hj,rfl⟩:=FQ he;have:=h j hj;rw[a5H hj]at this;simpa using this
theorem b7m{j:Nat}(hj:j<p.ai.length)(h:(V3 p.ai j).to=0):b1m p=false:=by
 cases hb:b1m p
 .rfl
 .exact absurd h (b6b.1 hb j hj)
theorem c21{d d':D}{l r:List Mv}(hd:FL 4 d (a00 l))(uV:FL 4 d' (a00 r))(hl:l.length<=1000000):bz U5 8 [d,d'] (.bool (decide (l=r))):=by
 refine a0l ?_;by_cases c:l.length=r.length
 rotate_left
 .have c':¬(l.length:Int)=(r.length:Int):=oJ
  rw[FP λe=>c (by rw[e])];refine a0A (vf:=vf8) rfl ?_;unfold vf8;refine zF ?_;exact zZ (V4 hd uV c')
 have c':(l.length:Int)=(r.length:Int):=oJ;refine a0A (vf:=vf8) rfl ?_;unfold vf8;refine zF ?_;refine zY (V4 hd uV c') ?_;refine W6 [0,1,10] 0 l.length (λi f s=>f 5=.int .i64 (i:Int)/\s=k4.empty/\∀j,j<i->X3 l j=X3 r j) (.mk rfl) oJ ⟨rfl,rfl,λj h=>by omega⟩ ?_;rintro i f s hi ⟨hE,rfl,hj⟩;by_cases ci:i<l.length
 rotate_left
 .have:l=r:=HB c λj h1 h2=>by
   rw[<- a7l h1,<- a7l h2];exact hj j oJ
  rw[FN this];have tV:¬i<r.length:=oJ;exact zZ (X4 hE ci tV hd uV c')
 have jn:i<r.length:=oJ;by_cases ce:X3 l i=X3 r i
 .refine zY (X0 hE ci jn hd uV ce c') ?_
  intro j hj';by_cases e:j=i
  .subst e;exact ce
  .exact hj j oJ
 .have:l≠r:=λe=>ce (by rw[e])
  rw[FP this];exact zZ (X0 hE ci jn hd uV ce c')
variable{p:Nat}{m:X7}{mo:Mo}{ps:List (Pr×X2)}{st:U6}
theorem c69{x:bH}(hm:Z4 m mo ps)(ho:Z3 mo)(hC:MoC mo)(hx:a2Z mo x st)(hp:p<mo.procs.length):bz U5 38 [.agg [m.dt,.int .i64 m.g,m.dc,m.dv,m.dp,m.ds,.bool m.b],.agg [x.da,x.dv,x.dc,.int .i64 st.hold],.int .i64 (p:Int)] (.bool (mo.aP st p)):=by
 have om:=hm.aw;have ox:=hx.f.aw;have yM:=hx.f.a;have mY:=ho.np;have pD:=hx.fit.aF;have mO:=(ho.pr _ (a1S hp)).el;have jT:p<st.aF.length:=oJ;have jE:p-1<st.aF.length:=oJ;refine a0l ?_;refine a0A (vf:=vf38) rfl ?_;unfold vf38;refine zF ?_;refine zY (V4 om ox hp) ?_;have jV:Hp (((k4.empty.push (.cells [m.dt,.int .i64 m.g,m.dc,m.dv,m.dp,m.ds,.bool m.b])).push (.cells [x.da,x.dv,x.dc,.int .i64 st.hold])).push (.cells [.str (bs []),.int .i64 0,.ag,.int .i64 0,.ag,.ag,.ag,.ag])|>.set 2 (some (.cells [.str (k7 mo.procs p).name,.int .i64 ((k7 mo.procs p).copy:Int),(V8 ps p).dl,.int .i64 ((k7 mo.procs p).ah:Int),(V8 ps p).dr,(V8 ps p).de,(V8 ps p).dn,(V8 ps p).dv]))) [] [(0,[m.dt,.int .i64 m.g,m.dc,m.dv,m.dp,m.ds,.bool m.b]),(1,[x.da,x.dv,x.dc,.int .i64 st.hold]),(2,[.str (k7 mo.procs p).name,.int .i64 ((k7 mo.procs p).copy:Int),(V8 ps p).dl,.int .i64 ((k7 mo.procs p).ah:Int),(V8 ps p).dr,(V8 ps p).de,(V8 ps p).dn,(V8 ps p).dv])]:=⟨Hk,sJ,by simp[Y2],by
  intro y hy;simp only[Fi,FW,Hg]at hy;rcases hy with rfl|rfl|rfl
  .exact bB
  .exact bB
  .simp(disch:=(first|exact Rf.mk rfl|with_reducible assumption|omega|((repeat(first|rw[nP]|rw[nS]|rw[Y3]))<;>omega)|decide)) only[go_sem,↓reduceIte]⟩
 generalize(((k4.empty.push (.cells [m.dt,.int .i64 m.g,m.dc,m.dv,m.dp,m.ds,.bool m.b])).push (.cells [x.da,x.dv,x.dc,.int .i64 st.hold])).push (.cells [.str (bs []),.int .i64 0,.ag,.int .i64 0,.ag,.ag,.ag,.ag])).set 2 (some (.cells [.str (k7 mo.procs p).name,.int .i64 ((k7 mo.procs p).copy:Int),(V8 ps p).dl,.int .i64 ((k7 mo.procs p).ah:Int),(V8 ps p).dr,(V8 ps p).de,(V8 ps p).dn,(V8 ps p).dv]))=s0 at *;have g1:s0.get 1=some (.cells [x.da,x.dv,x.dc,.int .i64 st.hold]):=jV.r (1,_) sJ;have g2:s0.get 2=some (.cells [.str (k7 mo.procs p).name,.int .i64 ((k7 mo.procs p).copy:Int),(V8 ps p).dl,.int .i64 ((k7 mo.procs p).ah:Int),(V8 ps p).dr,(V8 ps p).de,(V8 ps p).dn,(V8 ps p).dv]):=jV.r (2,_) sJ;have l1:=t3 g1;have l2:=t3 g2;refine W6 [0,1,2,3,4,7] 0 (k7 mo.procs p).ai.length (λj f s=>f 8=.int .i64 (j:Int)/\s=s0/\∀i,i<j->(V3 (k7 mo.procs p).ai i).to≠0) (.mk rfl) oJ ⟨rfl,rfl,λi h=>by omega⟩ ?_;rintro j f s hj ⟨hE,rfl,iR⟩;by_cases cj:j<(k7 mo.procs p).ai.length
 .by_cases c5:(V3 (k7 mo.procs p).ai j).to=0
  .have e:mo.aP st p=false:=by unfold Mo.aP;rw[b7m cj c5];simp
   rw[e];exact zZ (V1 hE cj c5 g2)
  .have pC:¬((V3 (k7 mo.procs p).ai j).to:Int)=0:=oJ
   refine zY (V1 hE cj pC g2) ?_;intro i hi;by_cases eq:i=j
   .subst eq;exact c5
   .exact iR i oJ
 have nF:=b6b.2 λi hi=>iR i oJ
 by_cases c1:(k7 mo.procs p).copy=0
 .have e:mo.aP st p=false:=by unfold Mo.aP;rw[FP oJ];rfl
  rw[e];exact zZ (X4 hE cj g1 g2 ox c1)
 have iU:0<((k7 mo.procs p).copy:Int):=oJ;obtain⟨q,n,lo,Bj,_⟩:=hC.tw p hp oJ;have e2:IntKind.i64.wrap ((p:Int)-1)=((p-1:Nat):Int):=by rw[Z9 oJ oJ];omega
 by_cases c3:W2 st.aF p=0
 rotate_left
 .have jm:¬(W2 st.aF p:Int)=0:=oJ
  have e:mo.aP st p=false:=by unfold Mo.aP;rw[FP c3];simp
  rw[e];exact zZ (U0 hE cj g1 g2 ox iU jT jm)
 by_cases c4:W2 st.aF (p-1)=0
 rotate_left
 .have kD:¬(W2 st.aF (p-1):Int)=0:=oJ
  have e:mo.aP st p=false:=by unfold Mo.aP;rw[FP c4];simp
  rw[e];exact zZ (U0 hE cj g1 g2 ox iU jT (V1 jE c3 e2 kD))
 have e:mo.aP st p=true:=by
  unfold Mo.aP;rw[FN c3,FN c4,FN oJ,nF];rfl
 rw[e];exact zZ (U0 hE cj g1 g2 ox iU jT (V1 jE c3 e2 c4))
variable{x:gM}{s:k4}{g v:Nat}
theorem c8J(hm:Z4 m mo ps)(ho:Z3 mo)(jB:a0P mo)(hq:MoQ mo)(iQ:Fit mo st)(hg:GB s g)(hv:Vs s v g m mo st x)(hp:p<mo.procs.length):CB U5 76 [.ptr v 0,.int .i64 (p:Int)] s (mo.quiet p (W2 st.aF p)):=by
 have gv:=hv.get;have lv:=t3 gv;have oo:=hv.aw;have om:=hm.aw;have fm:=a3R hm;obtain⟨y,hy,iM⟩:=hm.proc hp;have iM:=iM .i64;rw[<- a12 hp]at hy iM;unfold V0 at iM;have oy:=hy.aw;have ky:=(ho.pr _ (a1S hp)).pl;unfold CB;refine Y0 (vf:=vf76) rfl ?_;unfold vf76;refine zF ?_;refine zY (W0 gv om oo iM oy) ?_;refine W6 [0,1,4,15] 0 (k7 mo.procs p).ah (λi f s'=>f 16=.int .i64 (i:Int)/\cK s s' (f 5) (qtL (mo.quiet p) (W2 st.aF p) i)) (.mk rfl) oJ ⟨rfl,cK.nil (Fr.refl _ _)⟩ ?_;rintro i f s2 hi ⟨h,hb⟩;have ob:=hb.one;have kG:=hb.1.kp gv;have rQ:=t3 kG;have Co:=c84 (Q:=mo.quiet p) (a:=W2 st.aF p) (j:=i);by_cases ci:i<(k7 mo.procs p).ah
 rotate_left
 .obtain rfl:i=(k7 mo.procs p).ah:=oJ
  have pS:=(a15.2 iQ).pl p hp;refine zY (X4 h ci ob kG om oo) ?_;refine xb (a8K (hg.fr hb.1) hb.vb oJ) λs3 f3=>?_
  rw[c9q pS];refine V9 ?_;exact⟨rfl,hb.1.trans f3 sJ⟩
 have tJ:=c2O hm ho hq (k:=i) hp;have Bs:=c8K (Q:=mo.quiet p) (a:=W2 st.aF p) (j:=i);cases hc:mo.quiet p i
 .rw[hc]at tJ
  rw[hc,so sJ,Fl]at Bs;refine zY (X0 h ci kG om oo fm tJ) ?_;rw[Bs];exact hb
 .rw[hc]at tJ
  rw[hc,Fk rfl]at Bs;refine zY (U0 h ci kG om oo fm tJ ob) ?_;refine xb (a65 (k:=i) hm ho (hg.fr hb.1) (hv.fr hb.1).e (iQ.e ho jB) hp oJ) λs3 f3=>?_
  refine V9 ?_;refine b2Y (hb.fr f3) oJ λd4 s4 h4=>?_
  have sN:=h4.one;refine zY sN ?_;refine⟨ci,?_⟩;rw[Bs];exact h4
theorem c78(hm:Z4 m mo ps)(ho:Z3 mo)(jB:a0P mo)(hC:MoC mo)(iQ:Fit mo st)(hg:GB s g)(hv:Vs s v g m mo st x)(hp:p<mo.procs.length):CB U5 77 [.ptr v 0,.int .i64 (p:Int)] s (mo.aP st p):=by
 have gv:=hv.get;have lv:=t3 gv;have oo:=hv.aw;have om:=hm.aw;obtain⟨y,hy,iM⟩:=hm.proc hp;have iM:=iM .i64;rw[<- a12 hp]at hy iM;unfold V0 at iM;have oy:=hy.aw;have jh:=ho.pr _ (a1S hp);have mO:=jh.el;have mY:=ho.np;have hle:a0x false y.de=some (.int .i64 ((k7 mo.procs p).ai.length:Int)):=by rw[hy.e.len];simp
 unfold CB;by_cases c1:(k7 mo.procs p).copy=0
 .have e:mo.aP st p=false:=by unfold Mo.aP;rw[FP oJ];rfl
  rw[e];by_cases c0:p=0
  .subst c0
   refine Y0 (vf:=a8o) rfl ?_;unfold a8o;refine zF ?_;refine V9 ?_;exact⟨rfl,Fr.refl _ _⟩
  .have rT:((p:Int)==0)=false:=by simp;omega
   rw[c1]at iM;refine Y0 (vf:=a8o) rfl ?_;unfold a8o;refine zF ?_;refine zY (X4 rT gv om oo iM oy) ?_;exact⟨rfl,Fr.refl _ _⟩
 obtain⟨q,n,lo,Bj,_⟩:=hC.tw p hp oJ;have rT:((p:Int)==0)=false:=by simp;omega
 have iU:¬((k7 mo.procs p).copy:Int)<=0:=oJ;refine Y0 (vf:=a8o) rfl ?_;unfold a8o;refine zF ?_;refine zY (U0 rT gv om oo iM oy iU hle) ?_;refine W6 [0,1,20,29,30] 0 (k7 mo.procs p).ai.length (λj f s'=>f 31=.int .i64 (j:Int)/\Fr [] s s'/\∀i,i<j->(V3 (k7 mo.procs p).ai i).to≠0) (.mk rfl) oJ ⟨rfl,Fr.refl _ _,λi h=>by omega⟩ ?_;rintro j f s2 hj ⟨h,fr,iR⟩;by_cases cj:j<(k7 mo.procs p).ai.length
 .have qw:=a6B (k:=.i64) hy.e cj
  have fb:∀a b,Fr [] s2 ((s2.push a).set s2.next (some b)):=λa b=>a1Q
  by_cases c5:(V3 (k7 mo.procs p).ai j).to=0
  .have e:mo.aP st p=false:=by unfold Mo.aP;rw[b7m cj c5];simp
   have pC:(((V3 (k7 mo.procs p).ai j).to:Int)==0)=true:=by simp[c5]
   rw[e];refine zY (V1 h cj qw pC) ?_;exact⟨rfl,fr.trans (fb _ _) sJ⟩
  .have pC:(((V3 (k7 mo.procs p).ai j).to:Int)==0)=false:=by simp;omega
   refine zY (V1 h cj qw pC) ?_;refine⟨fr.trans (fb _ _) sJ,λi hi=>?_⟩;by_cases eq:i=j
   .subst eq;exact c5
   .exact iR i oJ
 have nF:=b6b.2 λi hi=>iR i oJ
 have kG:=fr.kp gv;have rQ:=t3 kG;have e2:IntKind.i64.wrap ((p:Int)-1)=((p-1:Nat):Int):=by rw[Z9 oJ oJ];omega
 have Bb:=a65 (k:=0) hm ho (hg.fr fr) (hv.fr fr).e (iQ.e ho jB) hp oJ;refine zY (W0 h cj kG om oo) ?_;refine iJ Bb qJ λs3 E3 f3 pO=>?_
 have iY:=fr.trans f3 sJ;have n3:=f3.1;refine zY e2 ?_;refine iJ (a65 (p:=p-1) (k:=0) hm ho (hg.fr iY) (hv.fr iY).e (iQ.e ho jB) oJ oJ) qJ λs4 E4 f4 AW=>?_
 have jG:=iY.trans f4 sJ;refine V9 ?_;refine a28 (xb (a1A (hg.fr jG) _ _) λs5 f5=>?_);refine V9 ?_;refine⟨?_,jG.trans f5 sJ⟩;unfold Mo.aP;rw[FN (show 0<(k7 mo.procs p).copy by omega),nF];simp
end Go.Proofs.YtigbmclkjknnjaaGreat
namespace Go.V
variable{mo:Mo}{st:U6}
def b2l(mo:Mo)(am al:Bool)(st:U6):List Mv:=if al then mo.eh am st else if am then mo.aJ st else mo.aA st
variable{v:Mv}
theorem c25{am al:Bool}:v∈b2l mo am al st↔v∈(if am then mo.aJ st else mo.aA st)/\(al=true->mo.aZ st v=true):=by
 grind[b2l,Mo.eh]
theorem c9w{i:Nat}(h:mo.bP st=some i):i<mo.procs.length/\mo.quiet i (W2 st.aF i)=true/\∀j,j<i->mo.quiet j (W2 st.aF j)=false:=by
 grind[Mo.bP,List.find?_eq_some_iff_getElem]
theorem c9A(h:mo.bP st=none):∀j,j<mo.procs.length->mo.quiet j (W2 st.aF j)=false:=by
 grind[Mo.bP]
theorem b8W{Q:Nat->Bool}{n:Nat}(h:∀j,j<n->Q j=false):a0U Q n=false:=by
 rw[HF];grind[a5B]
theorem c3H{am al:Bool}(hv:v∈mo.allM):mo.fI st (df (decide (st.hold<0)) am al (λp=>mo.quiet p (W2 st.aF p)) (λp=>mo.aP st p) (λp=>decide (st.hold=(p:Int))) mo.procs.length) (aQ (decide (st.hold<0)) am (λp=>mo.quiet p (W2 st.aF p)) mo.procs.length) v=true↔v∈b2l mo am al st:=by
 have key:∀(tn:Nat->Bool)(vY:Bool),(v.kind=0->v.proc<mo.procs.length->tn v.proc=true->(st.hold<0\/st.hold=(v.proc:Int)))->(vY=true->st.hold<0)->(mo.fI st tn vY v=true↔v∈mo.aA st/\(v.kind=0->tn v.proc=true)/\(v.kind≠0->vY=true)):=by
  intro tn vY h1 h2;rw[<- c8I hv];rcases b3r.1 hv with⟨a,b,c,d⟩|⟨a,b⟩
  .unfold Mo.fI
   rw[Fk a,Fk a];simp only[Fo,Gg,Fy];constructor
   .rintro⟨h3,h4⟩
    exact⟨⟨h1 a c h3,h4⟩,λ_=>h3,λh=>absurd a h⟩
   .rintro⟨⟨_,h4⟩,h3,_⟩
    exact⟨h3 a,h4⟩
  .have hk:v.kind=1\/v.kind=2:=by
    rcases b3M b with⟨e,_⟩|⟨e,_⟩
    .left;rw[e]
    .right;rw[e]
   have oQ:¬v.kind=0:=oJ;unfold Mo.fI;simp only[so oQ];cases vY
   .simp only[FY,JD,Fw,false_iff]
    rintro⟨_,_,h⟩;exact absurd (h oQ) sJ
   .rw[FN (h2 rfl)]
    exact⟨λh=>⟨h,λe=>absurd e oQ,λ_=>rfl⟩,λh=>h.1⟩
 rw[key _ _ (λ_ _ h=>?_) (λh=>?_),c25];rotate_left
 .simp only[df,bX,aQ,Fo,Gg,Fy]at h
  omega
 .simp only[aQ,Fo,Fy]at h
  exact h.1
 have hfm:(al=true->mo.aZ st v=true)↔(v.kind=0->!(al&&mo.aP st v.proc)):=by
  unfold Mo.aZ;cases al<;>by_cases q:v.kind=0<;>cases mo.aP st v.proc<;>simp[q]
 rw[hfm];have oP:∀(t:Bool),((v.kind=0->(t&&!(al&&mo.aP st v.proc))=true)↔((v.kind=0->t=true)/\(v.kind=0->(!(al&&mo.aP st v.proc))=true))):=λt=>by
  simp only[Fo];constructor
  .exact λh=>⟨λe=>(h e).1,λe=>(h e).2⟩
  .exact λh e=>⟨h.1 e,h.2 e⟩
 unfold df;rw[oP];have core:(v∈mo.aA st/\(v.kind=0->(bX (decide (st.hold<0)) am (λp=>mo.quiet p (W2 st.aF p)) v.proc||aQ (decide (st.hold<0)) am (λp=>mo.quiet p (W2 st.aF p)) mo.procs.length||decide (st.hold=(v.proc:Int)))=true)/\(v.kind≠0->aQ (decide (st.hold<0)) am (λp=>mo.quiet p (W2 st.aF p)) mo.procs.length=true))↔v∈(if am then mo.aJ st else mo.aA st):=by
  have kh:v∈mo.aA st->(v.kind=0/\v.proc<mo.procs.length/\¬(0<=st.hold/\st.hold≠(v.proc:Int)))\/(v.kind≠0/\st.hold<0):=λh=>by
   rcases b0y.1 h with⟨a,_,b,_,_,c⟩|⟨a,_,b⟩
   .exact .inl ⟨a,b,c⟩
   .have:=b0k b
    exact .inr ⟨oJ,a⟩
  cases am
  .simp only[c04,b3V,HC,Gg,Fy,so (show¬(false=true) by simp)]
   constructor
   .exact λh=>h.1
   .intro h
    rcases kh h with⟨a,b,c⟩|⟨a,b⟩
    .exact⟨h,fJ,λe=>absurd a e⟩
    .exact⟨h,λe=>absurd e a,λ_=>b⟩
  .simp only[FG]
   by_cases hh:st.hold<0
   .unfold Mo.aJ
    rw[Fk hh];cases hF:mo.bP st with
    |none =>
     have iT:=c9A hF;have e:aQ (decide (st.hold<0)) true (λp=>mo.quiet p (W2 st.aF p)) mo.procs.length=true:=by
      unfold aQ;rw[b8W iT,FN hh];rfl
     rw[e];simp
    |some i =>
     obtain⟨h1,h2,h3⟩:=c9w hF;have e:aQ (decide (st.hold<0)) true (λp=>mo.quiet p (W2 st.aF p)) mo.procs.length=false:=by
      unfold aQ;rw[a5B.2 ⟨i,h1,h2⟩];simp
     have e2:∀p,bX (decide (st.hold<0)) true (λp=>mo.quiet p (W2 st.aF p)) p=true↔p=i:=λp=>by
      unfold bX aQ;simp only[Gd,Fo,Fy,Js];constructor
      .rintro⟨⟨_,h4⟩,h5⟩
       by_cases c:p<i
       .rw[h3 p c]at h5;cases h5
       .by_cases c2:i<p
        .rw[a5B.2 ⟨i,c2,h2⟩]at h4;cases h4
        .omega
      .rintro rfl
       exact⟨⟨hh,b8W h3⟩,h2⟩
     rw[e];simp only[HS,Gg,e2,Fy,Gu,Fo];constructor
     .rintro⟨a,b,c⟩
      by_cases q:v.kind=0
      .exact⟨a,q,(b q).elim id λh=>by omega⟩
      .exact absurd (c q) sJ
     .rintro⟨a,b,c⟩
      exact⟨a,λ_=>.inl c,λh=>absurd b h⟩
   .have ea:mo.aJ st=mo.aA st:=by unfold Mo.aJ;rw[so hh]
    rw[ea];constructor
    .exact λh=>h.1
    .intro h
     rcases kh h with⟨a,b,c⟩|⟨a,b⟩
     .refine⟨h,λ_=>?_,λe=>absurd a e⟩
      rw[FN (show st.hold=(v.proc:Int) by omega),Bool.or_true]
     .exact absurd b hh
 grind
end Go.V
namespace Go.Proofs.YtigbmclkjknnjaaGreat
open Go.V
theorem c62{d:D}{l:List Mv}(hd:FL 4 d (a00 l))(hl:l.length<=1000000)(v:Mv):bz U5 18 [.agg [.int .i64 (v.kind:Int),.int .i64 (v.proc:Int),.int .i64 (v.bb:Int),.int .i64 (v.chan:Int)],d] (.bool (decide (v∈l))):=by
 refine a0l ?_;refine a0A (vf:=vf18) rfl ?_;unfold vf18;refine zF ?_;refine V9 ?_;refine W6 [0,1,2] 0 l.length (λi f s=>f 5=.int .i64 (i:Int)/\s=k4.empty.push (.cells [.int .i64 (v.kind:Int),.int .i64 (v.proc:Int),.int .i64 (v.bb:Int),.int .i64 (v.chan:Int)])/\∀j,j<i->X3 l j≠v) (.mk rfl) oJ ⟨rfl,rfl,λj h=>by omega⟩ ?_;rintro i f s hi ⟨hE,rfl,hj⟩;by_cases ci:i<l.length
 rotate_left
 .have:¬v∈l:=λh=>by
   obtain⟨j,h1,h2⟩:=FQ h;exact hj j oJ (by rw[a7l h1,h2])
  rw[FP this];exact zZ (V4 hE ci hd)
 by_cases ce:X3 l i=v
 .have:v∈l:=ce▸a71 ci
  rw[FN this];exact zZ (V1 hE ci hd ce)
 .refine zY (V1 hE ci hd ce) ?_
  intro j hj';by_cases e:j=i
  .subst e;exact ce
  .exact hj j oJ
theorem c2G{s:k4}{dt dp:D}{bs:List Bool}(ht:VB s dt bs)(hp:FL 1 dp (a0o bs))(hl:bs.length<=1000):Y4 U5 19 [dt,dp] s λr s'=>r=.bool true/\s'=s:=by
 have ot:=ht.one;have op:=FL.one hp;have jq:=ht.len;have ow:a0x false dp=some (.int .i64 (bs.length:Int)):=by rw[hp.len];simp
 have htF:VB s dt (U1 (aB bs) bs.length):=ht.fh (a5r bs).symm;refine Y0 (vf:=vf19) rfl ?_;unfold vf19;refine zF ?_;refine zY (V1 ot op jq ow) ?_;refine W6 [0,1,10] 0 bs.length (λi f s'=>f 5=.int .i64 (i:Int)/\s'=s) (.mk rfl) oJ ⟨rfl,rfl⟩ ?_;rintro i f s' hi ⟨hE,rfl⟩;by_cases ci:i<bs.length
 rotate_left
 .refine zY (V1 hE ci ot jq) ?_
  exact⟨rfl,rfl⟩
 obtain⟨p,p1,p2⟩:=htF.cQ ci (k:=.i64);have pZ:=ix_b (k:=.i64) hp ci;have e:aB bs i=bAt bs i:=rfl;rw[e]at p2;cases hb:bAt bs i
 .rw[hb,a4Q]at p2
  rw[hb]at pZ;refine zY (U0 hE ci ot jq op p1 p2 pZ) ?_;trivial
 .rw[hb,a3P]at p2
  rw[hb]at pZ;refine zY (U0 hE ci ot jq op p1 p2 pZ) ?_;trivial
variable{m:X7}{mo:Mo}{ps:List (Pr×X2)}
theorem c7p(hm:Z4 m mo ps)(ho:Z3 mo):a5u U5 9 [.agg [m.dt,.int .i64 m.g,m.dc,m.dv,m.dp,m.ds,.bool m.b]] λd=>FL 4 d (a00 mo.allM):=by
 have om:=hm.aw;have ow:=hm.eY;have ly:=hm.iC;have mY:=ho.np;have nN:=ho.nc;have lL:=hm.c;have xQ:=hm.p;have jV:Hp (k4.empty.push (.cells [m.dt,.int .i64 m.g,m.dc,m.dv,m.dp,m.ds,.bool m.b])) [] [(0,[m.dt,.int .i64 m.g,m.dc,m.dv,m.dp,m.ds,.bool m.b])]:=⟨sJ,sJ,by simp[Y2],λy hy=>by
  simp only[Fu]at hy;subst hy;exact W8 rfl⟩
 generalize hR:[(0,[m.dt,.int .i64 m.g,m.dc,m.dv,m.dp,m.ds,.bool m.b])]=R at jV;have hg:∀{s E},Hp s E R->s.get 0=some (.cells [m.dt,.int .i64 m.g,m.dc,m.dv,m.dp,m.ds,.bool m.b]):=λh=>by
  subst hR;exact h.r (0,_) sJ
 refine a5n (vf:=vf9) rfl ?_;unfold vf9;refine zF ?_;refine zY (aN om ow) ?_;refine a1d [0,1,2,6,35,43,54] (λf s=>∃E,Rp (f 3) 4 (a00 (mo.gN mo.procs.length)) E/\Hp s E R) ?_ ?_
 .refine W6 [0,1,2,6,35,43,54] 0 mo.procs.length (λi f s=>f 4=.int .i64 (i:Int)/\∃E,Rp (f 3) 4 (a00 (mo.gN i)) E/\Hp s E R) (.mk rfl) oJ ⟨rfl,[],.inl ⟨rfl,rfl,rfl⟩,jV⟩ ?_
  rintro i f s hi ⟨h,E,hr,hp⟩;have g0:=hg hp;have ji:=hr.one;by_cases ci:i<mo.procs.length
  rotate_left
  .obtain rfl:i=mo.procs.length:=oJ
   refine zY (W0 h ci g0 om ow) ?_;exact⟨E,hr,hp⟩
  have mO:=(ho.pr _ (a1S ci)).el;have uc:=Mo.cZ ho hi;obtain⟨x,hx,iM⟩:=hm.proc ci;have iM:=iM .i64;rw[<- a12 ci]at hx iM;unfold V0 at iM;have ox:=hx.aw;have hle:a0x false x.de=some (.int .i64 ((k7 mo.procs i).ai.length:Int)):=by rw[hx.e.len];simp[a0O]
  refine zY (U0 h ci g0 om ow iM ox hle) ?_;refine W6 [0,1,2,4,6,11,35,43,54] 0 (k7 mo.procs i).ai.length (λj f s=>f 5=.int .i64 (j:Int)/\∃E,Rp (f 3) 4 (a00 (mo.gN i++alE i j)) E/\Hp s E R) (.mk rfl) oJ ⟨rfl,E,by rw[show alE i 0=[]from rfl,Fl];exact hr,hp⟩ ?_;clear hr hp g0 ji;rintro j f' s hj ⟨h',E,hr,hp⟩;have ji:=hr.one;have g0:=hg hp;by_cases cj:j<(k7 mo.procs i).ai.length
  .refine zY (U0 h' ci cj ji g0 om iM (V4 ox hle h)) ?_
   refine a3p ⟨0,i,j,0⟩ rfl hr hp dJ (by rw[Fq,b5R];omega) ?_;intro d' s' E' hr' nG;have ji:=hr'.one;refine zY ji ?_;refine⟨cj,E',?_,nG⟩;rw[b6P,<- Fj];exact hr'
  .obtain rfl:j=(k7 mo.procs i).ai.length:=oJ
   refine zY (U0 h' ci cj g0 om iM ox (aN hle h)) ?_;rw[Mo.eL];exact⟨E,hr,hp⟩
 rintro f s ⟨E,hr,hp⟩;have g0:=hg hp;have ji:=hr.one;have uc:=Mo.cZ ho (sm _);refine zY (V1 g0 om ly ji) ?_;refine a1d [0,1,2,4,5,11,22] (λf s=>∃E,Rp (f 3) 4 (a00 mo.allM) E/\Hp s E R) ?_ ?_
 .refine W6 [0,1,2,4,5,11,22] 0 mo.ae.length (λi f s=>f 6=.int .i64 (i:Int)/\∃E,Rp (f 3) 4 (a00 (mo.gN mo.procs.length++mo.gP i)) E/\Hp s E R) (.mk rfl) oJ ⟨rfl,E,by rw[show mo.gP 0=[]from rfl,Fl];exact hr,hp⟩ ?_
  clear hr hp g0 ji;rintro i f s hi ⟨h,E,hr,hp⟩;have g0:=hg hp;have ji:=hr.one;by_cases ci:i<mo.ae.length
  .have my:=FLC.idx lL ci (k:=.i64)
   rw[<- a2W ci]at my;unfold Ch.row at my;have hlen:=Mo.eB (mo:=mo) (i:=i);have e1:mo.gP (i+1)=mo.gP i++mo.alc i:=Mo.eM;unfold Mo.alc at e1;cases l1:(U7 mo.ae i).bC<;>cases l2:(U7 mo.ae i).aS<;>rw[l1,l2]at e1<;>simp only[Fw,FG,FF,Fl,Fv,Fx]at e1<;>simp(disch:=(first|exact Rf.mk rfl|with_reducible assumption|omega|((repeat(first|rw[nP]|rw[nS]|rw[Y3]))<;>omega)|decide)) only[go_sem,↓reduceIte,h,ci,g0,om,ly,my,l1,l2,ji]
   all_goals try(first|refine a3p ⟨1,0,0,i⟩ rfl hr hp dJ (by rw[Fq];omega) ?_|refine a3p ⟨2,0,0,i⟩ rfl hr hp dJ (by rw[Fq];omega) ?_)<;>rintro d1 s1 E1 hr hp<;>have k0:=hg hp<;>have ji:=hr.one<;>simp(disch:=(first|exact Rf.mk rfl|with_reducible assumption|omega|((repeat(first|rw[nP]|rw[nS]|rw[Y3]))<;>omega)|decide)) only[go_sem,↓reduceIte,h,ci,k0,om,ly,my,l1,l2,ji]
   all_goals try(refine a3p ⟨2,0,0,i⟩ rfl hr hp dJ (by rw[Fq,Fq];simp only[Gt,IS];omega) ?_)<;>rintro d1 s1 E1 hr hp<;>have ji:=hr.one<;>simp(disch:=(first|exact Rf.mk rfl|with_reducible assumption|omega|((repeat(first|rw[nP]|rw[nS]|rw[Y3]))<;>omega)|decide)) only[go_sem,↓reduceIte,h,ji]
   all_goals
    rw[e1];try simp only[Fj,Fx,Fv]at hr⊢
    first|exact⟨_,hr,hp⟩|exact⟨ci,_,hr,hp⟩
  .obtain rfl:i=mo.ae.length:=oJ
   refine zY (W0 h ci g0 om ly) ?_;exact⟨E,hr,hp⟩
 rintro f s ⟨E,hr,hp⟩;obtain⟨d',h1,h2⟩:=a7y hr hp (λe h=>h) (a9z _) (a8P _);have ji:=hr.one;refine zY (aN h1 ji) ?_;exact⟨_,rfl,h2⟩
theorem b2L{x w:Int}(h1:-4294967296<=x)(h2:x<=4294967296)(h3:1<=w)(h4:w<=8):bz U5 34 [.int .i64 x,.int .i64 w] (.int .i64 (W3 x w.toNat)):=a6t (b1z (x:=x) (n:=w) (w:=w.toNat) oJ ⟨oJ,oJ⟩) rfl
variable{x:bH}{st:U6}{v:Mv}
theorem do_ok(hm:Z4 m mo ps)(ho:Z3 mo)(hf:a0P mo)(hx:a2Z mo x st)(hv:mo.mvOk st v):Y4 U5 21 [.agg [m.dt,.int .i64 m.g,m.dc,m.dv,m.dp,m.ds,.bool m.b],.agg [x.da,x.dv,x.dc,.int .i64 st.hold],.agg [.int .i64 (v.kind:Int),.int .i64 (v.proc:Int),.int .i64 (v.bb:Int),.int .i64 (v.chan:Int)]] k4.empty λr s=>∃cs,r=.agg cs/\a4t s cs (mo.ee st v):=by
 have om:=hm.aw;have ox:=hx.f.aw;have fm:=a3R hm;have fx:=a6n hx.f;have kU:=hx.fit.ae;have mh:=hx.fit.vars;have pD:=hx.fit.aF;have nN:=ho.nc;have lD:=ho.nv;have mY:=ho.np;refine Y0 (vf:=vf21) rfl ?_;unfold vf21;refine zF ?_;refine zY (aN om ox) ?_;refine a0M (c2A hx.f oJ hx.e oJ oJ) bB ?_;rintro r s1 ⟨xK,fr⟩;obtain⟨a,vv,dC,ids,rfl,H⟩:=xK.open;have l1:=fr.1;simp only[k4.aj,Y3,Nat.reduceAdd]at H l1;have g0:s1.get 0=some (.cells [m.dt,.int .i64 m.g,m.dc,m.dv,m.dp,m.ds,.bool m.b]):=by rw[fr.2 0 (by simp[Y3]) sJ];exact bB
 have g1:s1.get 1=some (.cells [x.da,x.dv,x.dc,.int .i64 st.hold]):=by rw[fr.2 1 (by simp[Y3]) sJ];exact bB
 have g2:s1.get 2=some (.cells [.int .i64 (v.kind:Int),.int .i64 (v.proc:Int),.int .i64 (v.bb:Int),.int .i64 (v.chan:Int)]):=by rw[fr.2 2 (by simp[Y3]) sJ];exact bB
 have g3:s1.get 3=some (.cells [.ag,.ag,.ag,.int .i64 0]):=by rw[fr.2 3 (by simp[Y3]) sJ];exact bB
 clear fr xK;have H':=H;obtain⟨nD,ga,gv,gc,gq,inj,av,na,nv⟩:=H';have oc:V5 dC=true:=by rcases gc with⟨_,rfl⟩|⟨c,rfl,_⟩<;>rfl
 have la:=t3 ga;have lv:=t3 gv;rcases hv with⟨hk,hp,he,kg⟩|⟨hk,hc,hlen⟩|⟨hk,hc,hlen,jR⟩
 .have jh:=ho.pr _ (a1S hp)
  have jx:=jh.inv.ed _ (a3U he);have mO:=jh.el;have pS:v.proc<st.aF.length:=oJ;have iQ:=b9C ho hf (a15.2 hx.fit) hp (a3U he) kg;have e:mo.ee st v=mo.doE st v.proc (k7 mo.procs v.proc) (V3 (k7 mo.procs v.proc).ai v.bb):=by unfold Mo.ee;rw[so oJ,so oJ]
  rw[e];unfold Mo.doE;generalize hE:V3 (k7 mo.procs v.proc).ai v.bb=E at *;have h6:E.act=0\/E.act=1\/E.act=2\/E.act=3\/E.act=4\/E.act=5:=by have:=jx.act;omega
  have h6':E.act=0\/E.act=1\/E.act=2\/(E.act=3/\∃k:Nat,E.chan=(k:Int)/\1<(U8 st.ae k).length)\/(E.act=3/\∃k:Nat,E.chan=(k:Int)/\¬1<(U8 st.ae k).length)\/E.act=4\/E.act=5:=by
   by_cases h3:E.act=3
   .obtain⟨k,ke,_⟩:=jx.c1 oJ
    by_cases l2:1<(U8 st.ae k).length
    .exact .inr (.inr (.inr (.inl ⟨h3,k,ke,l2⟩)))
    .exact .inr (.inr (.inr (.inr (.inl ⟨h3,k,ke,l2⟩))))
   .omega
  clear h6;rcases h6' with h6|h6|h6|⟨h6,k',Bl,l2⟩|⟨h6,k',Bl,l2⟩|h6|h6
  .have hex:=jx.gZ oJ
   have e2:mo.bj st v.proc (k7 mo.procs v.proc) E=⟨(st.aF.set v.proc E.to),st.vars,st.ae,-1⟩:=by unfold Mo.bj Mo.eu;rw[so oJ,so oJ,so oJ];rfl
   refine zY (U0 g0 g1 g2 g3 ga gv hk (U0 hp he pS hE h6 om ox (aN oc hex))) ?_;refine a4o (λc=>?_) (λc=>?_)
   .refine zY (W0 g0 g2 hk om c) ?_
    refine a8t (H.same (A:=(st.aF.set v.proc E.to)) (V:=st.vars) (hd:=-1) sJ sJ (zZ ga) (zZ gv) (λj h1 h2 h3 h4=>bB)) a76 ?_;intro x' lM;rw[e2]at iQ;have nI:=a7Z hm ho (x:=x') ⟨lM,a51 hf (a15.1 iQ),a15.1 iQ⟩ hp;refine zY nI ?_;refine a4j (λc2=>?_) (λc2=>?_)
    .refine zY (V1 g2 g3 oc hk) ?_
     refine a1I ⟨_,rfl,?_⟩;simp only[e2,c2,GC,FG];exact H.same (A:=(st.aF.set v.proc E.to)) (V:=st.vars) (hd:=(v.proc:Int)) sJ sJ (zZ ga) (zZ gv) (λj h1 h2 h3 h4=>bB)
    .refine zY (V1 g2 g3 oc hk) ?_
     refine a1I ⟨_,rfl,?_⟩;simp only[e2,c2,Gs,Fw,FF];exact H.same (A:=(st.aF.set v.proc E.to)) (V:=st.vars) (hd:=-1) sJ sJ (zZ ga) (zZ gv) (λj h1 h2 h3 h4=>bB)
   .refine zY (X0 g0 g2 g3 hk om oc c) ?_
    refine a1I ⟨_,rfl,?_⟩;simp only[e2,FY,Fw,FF];exact H.same (A:=(st.aF.set v.proc E.to)) (V:=st.vars) (hd:=-1) sJ sJ (zZ ga) (zZ gv) (λj h1 h2 h3 h4=>bB)
  .obtain⟨n,pP,nz,qZ⟩:=jx.eQ oJ
   have kM:=a7s hm ho hx hp nz qZ;have zL:(mo.ex (k7 mo.procs v.proc) st E 0).1=(mo.val (a0s (k7 mo.procs v.proc)) st n).1:=by unfold Mo.ex;rw[pP];simp
   have Az:=b1k hx.e (t:=mo.tree) (ch:=mo.ch) (look:=a0s (k7 mo.procs v.proc)) (mo.tree.length+1) n;have hb:-128<=(mo.val (a0s (k7 mo.procs v.proc)) st n).1/\(mo.val (a0s (k7 mo.procs v.proc)) st n).1<=127:=Az;obtain⟨q,zO,oE⟩:=jx.v1 oJ;have hq:=jh.var q zO;have ku:q<st.vars.length:=oJ;have kh:=hm.v;have hw:=hf.vr _ (a4C hq);have th:=λz(h1:-4294967296<=z)h2=>b2L (x:=z) h1 h2 hw.1 hw.2.1
   have e2:mo.bj st v.proc (k7 mo.procs v.proc) E=⟨(st.aF.set v.proc E.to),(st.vars.set q (W3 (mo.val (a0s (k7 mo.procs v.proc)) st n).1 (bh mo.vars q).width.toNat)),st.ae,-1⟩:=by unfold Mo.bj Mo.eu;rw[Fk h6,oE,zL,an];rfl
   refine zY (U0 g0 g1 g2 g3 ga gv hk (U0 hp he pS hE h6 om ox (X0 oc pP kM oE hq ku th))) ?_;refine a4o (λc=>?_) (λc=>?_)
   .refine zY (W0 g0 g2 hk om c) ?_
    refine a8t (H.same (A:=(st.aF.set v.proc E.to)) (V:=(st.vars.set q (W3 (mo.val (a0s (k7 mo.procs v.proc)) st n).1 (bh mo.vars q).width.toNat))) (hd:=-1) sJ sJ (zZ ga) (zZ gv) (λj h1 h2 h3 h4=>bB)) a76 ?_;intro x' lM;rw[e2]at iQ;have nI:=a7Z hm ho (x:=x') ⟨lM,a51 hf (a15.1 iQ),a15.1 iQ⟩ hp;refine zY nI ?_;refine a4j (λc2=>?_) (λc2=>?_)
    .refine zY (V1 g2 g3 oc hk) ?_
     refine a1I ⟨_,rfl,?_⟩;simp only[e2,c2,GC,FG];exact H.same (A:=(st.aF.set v.proc E.to)) (V:=(st.vars.set q (W3 (mo.val (a0s (k7 mo.procs v.proc)) st n).1 (bh mo.vars q).width.toNat))) (hd:=(v.proc:Int)) sJ sJ (zZ ga) (zZ gv) (λj h1 h2 h3 h4=>bB)
    .refine zY (V1 g2 g3 oc hk) ?_
     refine a1I ⟨_,rfl,?_⟩;simp only[e2,c2,Gs,Fw,FF];exact H.same (A:=(st.aF.set v.proc E.to)) (V:=(st.vars.set q (W3 (mo.val (a0s (k7 mo.procs v.proc)) st n).1 (bh mo.vars q).width.toNat))) (hd:=-1) sJ sJ (zZ ga) (zZ gv) (λj h1 h2 h3 h4=>bB)
   .refine zY (X0 g0 g2 g3 hk om oc c) ?_
    refine a1I ⟨_,rfl,?_⟩;simp only[e2,FY,Fw,FF];exact H.same (A:=(st.aF.set v.proc E.to)) (V:=(st.vars.set q (W3 (mo.val (a0s (k7 mo.procs v.proc)) st n).1 (bh mo.vars q).width.toNat))) (hd:=-1) sJ sJ (zZ ga) (zZ gv) (λj h1 h2 h3 h4=>bB)
  .obtain⟨n,pP,nz,qZ⟩:=jx.eQ oJ
   have kM:=a7s hm ho hx hp nz qZ;have zL:(mo.ex (k7 mo.procs v.proc) st E 0).1=(mo.val (a0s (k7 mo.procs v.proc)) st n).1:=by unfold Mo.ex;rw[pP];simp
   have Az:=b1k hx.e (t:=mo.tree) (ch:=mo.ch) (look:=a0s (k7 mo.procs v.proc)) (mo.tree.length+1) n;have hb:-128<=(mo.val (a0s (k7 mo.procs v.proc)) st n).1/\(mo.val (a0s (k7 mo.procs v.proc)) st n).1<=127:=Az;obtain⟨k,ke,hkc⟩:=jx.c1 oJ;rcases gc with⟨h1,_⟩|⟨c,rfl,gc,nc,ca,cv,cq⟩
   .rw[h1]at kU;simp at kU;omega
   have lL:=hm.c;have js:k<st.ae.length:=oJ;obtain⟨gk,nk,ka,kv⟩:=gq k js;have kc:=cq k js;have lc:=t3 gc;have lk:=t3 gk;have zj:=hf.ch _ (a3S hkc);have jR:((U8 st.ae k).length:Int)<(U7 mo.ae k).room:=by unfold Mo.can at kg;simp only[h6,ke,an,Fo,Fy]at kg;simpa using kg.2
   have th:=λz(h1:-4294967296<=z)h2=>b2L (x:=z) h1 h2 zj.2.2.1 zj.2.2.2
   have e2:mo.bj st v.proc (k7 mo.procs v.proc) E=⟨(st.aF.set v.proc E.to),st.vars,(st.ae.set k (U8 st.ae k++[W3 (mo.val (a0s (k7 mo.procs v.proc)) st n).1 (U7 mo.ae k).width.toNat])),-1⟩:=by unfold Mo.bj Mo.eu;rw[so oJ,Fk h6,ke,zL,an];rfl
   refine zY (U0 g0 g1 g2 g3 ga gv hk (U0 hp he pS hE h6 om ox (U0 oc pP kM ke js hkc nD (V4 gc gk th)))) ?_;refine b7f (cs:=a0w (U8 st.ae k)) (x:=.int .i64 (W3 (mo.val (a0s (k7 mo.procs v.proc)) st n).1 (U7 mo.ae k).width.toNat)) (zZ gk) sJ bB dJ oJ bB ?_;refine zY (U0 g0 g1 g2 g3 ga gv hk (X0 ke om ox oc gc js nD)) ?_;refine a4o (λc=>?_) (λc=>?_)
   .refine zY (W0 g0 g2 hk om c) ?_
    refine a8t (H.chan (A:=(st.aF.set v.proc E.to)) (V:=st.vars) (hd:=-1) (d:=(.arr (s1.next+1+1+1) 0 ((U8 st.ae k).length+1) 1)) js sJ sJ (zZ ga) (zZ gv) (zZ gc) (by rw[show(U8 st.ae k).length+1=(U8 st.ae k++[W3 (mo.val (a0s (k7 mo.procs v.proc)) st n).1 (U7 mo.ae k).width.toNat]).length by simp];exact a7q (by simp(disch:=(first|exact Rf.mk rfl|with_reducible assumption|omega|((repeat(first|rw[nP]|rw[nS]|rw[Y3]))<;>omega)|decide)) only[go_sem,↓reduceIte];simp[a0w])) (λj hj kW=>by obtain⟨gj,nj,ja,jv⟩:=gq j hj;have jc:=cq j hj;have lj:=t3 gj;have jk:W2 ids j≠W2 ids k:=λe=>kW (inj _ _ hj js e);simp(disch:=(first|exact Rf.mk rfl|with_reducible assumption|omega|((repeat(first|rw[nP]|rw[nS]|rw[Y3]))<;>omega)|decide)) only[go_sem,↓reduceIte,gj])) a76 ?_;intro x' lM;rw[e2]at iQ;have nI:=a7Z hm ho (x:=x') ⟨lM,a51 hf (a15.1 iQ),a15.1 iQ⟩ hp;refine zY nI ?_;refine a4j (λc2=>?_) (λc2=>?_)
    .refine zY (V1 g2 g3 oc hk) ?_
     refine a1I ⟨_,rfl,?_⟩;simp only[e2,c2,GC,FG];exact H.chan (A:=(st.aF.set v.proc E.to)) (V:=st.vars) (hd:=(v.proc:Int)) (d:=(.arr (s1.next+1+1+1) 0 ((U8 st.ae k).length+1) 1)) js sJ sJ (zZ ga) (zZ gv) (zZ gc) (by rw[show(U8 st.ae k).length+1=(U8 st.ae k++[W3 (mo.val (a0s (k7 mo.procs v.proc)) st n).1 (U7 mo.ae k).width.toNat]).length by simp];exact a7q (by simp(disch:=(first|exact Rf.mk rfl|with_reducible assumption|omega|((repeat(first|rw[nP]|rw[nS]|rw[Y3]))<;>omega)|decide)) only[go_sem,↓reduceIte];simp[a0w])) (λj hj kW=>by obtain⟨gj,nj,ja,jv⟩:=gq j hj;have jc:=cq j hj;have lj:=t3 gj;have jk:W2 ids j≠W2 ids k:=λe=>kW (inj _ _ hj js e);simp(disch:=(first|exact Rf.mk rfl|with_reducible assumption|omega|((repeat(first|rw[nP]|rw[nS]|rw[Y3]))<;>omega)|decide)) only[go_sem,↓reduceIte,gj])
    .refine zY (V1 g2 g3 oc hk) ?_
     refine a1I ⟨_,rfl,?_⟩;simp only[e2,c2,Gs,Fw,FF];exact H.chan (A:=(st.aF.set v.proc E.to)) (V:=st.vars) (hd:=-1) (d:=(.arr (s1.next+1+1+1) 0 ((U8 st.ae k).length+1) 1)) js sJ sJ (zZ ga) (zZ gv) (zZ gc) (by rw[show(U8 st.ae k).length+1=(U8 st.ae k++[W3 (mo.val (a0s (k7 mo.procs v.proc)) st n).1 (U7 mo.ae k).width.toNat]).length by simp];exact a7q (by simp(disch:=(first|exact Rf.mk rfl|with_reducible assumption|omega|((repeat(first|rw[nP]|rw[nS]|rw[Y3]))<;>omega)|decide)) only[go_sem,↓reduceIte];simp[a0w])) (λj hj kW=>by obtain⟨gj,nj,ja,jv⟩:=gq j hj;have jc:=cq j hj;have lj:=t3 gj;have jk:W2 ids j≠W2 ids k:=λe=>kW (inj _ _ hj js e);simp(disch:=(first|exact Rf.mk rfl|with_reducible assumption|omega|((repeat(first|rw[nP]|rw[nS]|rw[Y3]))<;>omega)|decide)) only[go_sem,↓reduceIte,gj])
   .refine zY (X0 g0 g2 g3 hk om oc c) ?_
    refine a1I ⟨_,rfl,?_⟩;simp only[e2,FY,Fw,FF];exact H.chan (A:=(st.aF.set v.proc E.to)) (V:=st.vars) (hd:=-1) (d:=(.arr (s1.next+1+1+1) 0 ((U8 st.ae k).length+1) 1)) js sJ sJ (zZ ga) (zZ gv) (zZ gc) (by rw[show(U8 st.ae k).length+1=(U8 st.ae k++[W3 (mo.val (a0s (k7 mo.procs v.proc)) st n).1 (U7 mo.ae k).width.toNat]).length by simp];exact a7q (by simp(disch:=(first|exact Rf.mk rfl|with_reducible assumption|omega|((repeat(first|rw[nP]|rw[nS]|rw[Y3]))<;>omega)|decide)) only[go_sem,↓reduceIte];simp[a0w])) (λj hj kW=>by obtain⟨gj,nj,ja,jv⟩:=gq j hj;have jc:=cq j hj;have lj:=t3 gj;have jk:W2 ids j≠W2 ids k:=λe=>kW (inj _ _ hj js e);simp(disch:=(first|exact Rf.mk rfl|with_reducible assumption|omega|((repeat(first|rw[nP]|rw[nS]|rw[Y3]))<;>omega)|decide)) only[go_sem,↓reduceIte,gj])
  .have hex:=jx.gZ oJ
   obtain⟨q,zO,oE⟩:=jx.v1 oJ;have hq:=jh.var q zO;have ku:q<st.vars.length:=oJ;have kh:=hm.v;have hw:=hf.vr _ (a4C hq);have th:=λz(h1:-4294967296<=z)h2=>b2L (x:=z) h1 h2 hw.1 hw.2.1
   obtain⟨k,ke,hkc⟩:=jx.c1 oJ;rcases gc with⟨h1,_⟩|⟨c,rfl,gc,nc,ca,cv,cq⟩
   .rw[h1]at kU;simp at kU;omega
   have lL:=hm.c;have js:k<st.ae.length:=oJ;obtain⟨gk,nk,ka,kv⟩:=gq k js;have kc:=cq k js;have lc:=t3 gc;have lk:=t3 gk;have zj:=hf.ch _ (a3S hkc);have hlen:0<(U8 st.ae k).length:=by unfold Mo.can at kg;simp only[h6,ke,an,Fo,Fy]at kg;simpa using kg.2
   have xU:=(hx.e.c _ (a8O js)).2 _ (a7z hlen);have hcv':-128<=X9 (U8 st.ae k) 0/\X9 (U8 st.ae k) 0<=127:=xU;have l2:1<(U8 st.ae k).length:=(show k'=k by omega)▸l2;have e2:mo.bj st v.proc (k7 mo.procs v.proc) E=⟨(st.aF.set v.proc E.to),(st.vars.set q (W3 (X9 (U8 st.ae k) 0) (bh mo.vars q).width.toNat)),(st.ae.set k ((U8 st.ae k).drop 1)),-1⟩:=by unfold Mo.bj Mo.eu;rw[so oJ,so oJ,Fk h6,oE,ke,an,an];rfl
   refine zY (U0 g0 g1 g2 g3 ga gv hk (U0 hp he pS hE h6 om ox (U0 oc hex oE hq ku th ke (X0 js hkc nD gc gk hlen l2)))) ?_;refine a4o (λc=>?_) (λc=>?_)
   .refine zY (W0 g0 g2 hk om c) ?_
    refine a8t (H.chan (A:=(st.aF.set v.proc E.to)) (V:=(st.vars.set q (W3 (X9 (U8 st.ae k) 0) (bh mo.vars q).width.toNat))) (hd:=-1) (d:=(.arr (W2 ids k) 1 ((U8 st.ae k).length-1) 1)) js sJ sJ (zZ ga) (zZ gv) (zZ gc) (a9M (zZ gk) l2) (λj hj kW=>by obtain⟨gj,nj,ja,jv⟩:=gq j hj;have jc:=cq j hj;have lj:=t3 gj;have jk:W2 ids j≠W2 ids k:=λe=>kW (inj _ _ hj js e);simp(disch:=(first|exact Rf.mk rfl|with_reducible assumption|omega|((repeat(first|rw[nP]|rw[nS]|rw[Y3]))<;>omega)|decide)) only[go_sem,↓reduceIte,gj])) a76 ?_;intro x' lM;rw[e2]at iQ;have nI:=a7Z hm ho (x:=x') ⟨lM,a51 hf (a15.1 iQ),a15.1 iQ⟩ hp;refine zY nI ?_;refine a4j (λc2=>?_) (λc2=>?_)
    .refine zY (V1 g2 g3 oc hk) ?_
     refine a1I ⟨_,rfl,?_⟩;simp only[e2,c2,GC,FG];exact H.chan (A:=(st.aF.set v.proc E.to)) (V:=(st.vars.set q (W3 (X9 (U8 st.ae k) 0) (bh mo.vars q).width.toNat))) (hd:=(v.proc:Int)) (d:=(.arr (W2 ids k) 1 ((U8 st.ae k).length-1) 1)) js sJ sJ (zZ ga) (zZ gv) (zZ gc) (a9M (zZ gk) l2) (λj hj kW=>by obtain⟨gj,nj,ja,jv⟩:=gq j hj;have jc:=cq j hj;have lj:=t3 gj;have jk:W2 ids j≠W2 ids k:=λe=>kW (inj _ _ hj js e);simp(disch:=(first|exact Rf.mk rfl|with_reducible assumption|omega|((repeat(first|rw[nP]|rw[nS]|rw[Y3]))<;>omega)|decide)) only[go_sem,↓reduceIte,gj])
    .refine zY (V1 g2 g3 oc hk) ?_
     refine a1I ⟨_,rfl,?_⟩;simp only[e2,c2,Gs,Fw,FF];exact H.chan (A:=(st.aF.set v.proc E.to)) (V:=(st.vars.set q (W3 (X9 (U8 st.ae k) 0) (bh mo.vars q).width.toNat))) (hd:=-1) (d:=(.arr (W2 ids k) 1 ((U8 st.ae k).length-1) 1)) js sJ sJ (zZ ga) (zZ gv) (zZ gc) (a9M (zZ gk) l2) (λj hj kW=>by obtain⟨gj,nj,ja,jv⟩:=gq j hj;have jc:=cq j hj;have lj:=t3 gj;have jk:W2 ids j≠W2 ids k:=λe=>kW (inj _ _ hj js e);simp(disch:=(first|exact Rf.mk rfl|with_reducible assumption|omega|((repeat(first|rw[nP]|rw[nS]|rw[Y3]))<;>omega)|decide)) only[go_sem,↓reduceIte,gj])
   .refine zY (X0 g0 g2 g3 hk om oc c) ?_
    refine a1I ⟨_,rfl,?_⟩;simp only[e2,FY,Fw,FF];exact H.chan (A:=(st.aF.set v.proc E.to)) (V:=(st.vars.set q (W3 (X9 (U8 st.ae k) 0) (bh mo.vars q).width.toNat))) (hd:=-1) (d:=(.arr (W2 ids k) 1 ((U8 st.ae k).length-1) 1)) js sJ sJ (zZ ga) (zZ gv) (zZ gc) (a9M (zZ gk) l2) (λj hj kW=>by obtain⟨gj,nj,ja,jv⟩:=gq j hj;have jc:=cq j hj;have lj:=t3 gj;have jk:W2 ids j≠W2 ids k:=λe=>kW (inj _ _ hj js e);simp(disch:=(first|exact Rf.mk rfl|with_reducible assumption|omega|((repeat(first|rw[nP]|rw[nS]|rw[Y3]))<;>omega)|decide)) only[go_sem,↓reduceIte,gj])
  .have hex:=jx.gZ oJ
   obtain⟨q,zO,oE⟩:=jx.v1 oJ;have hq:=jh.var q zO;have ku:q<st.vars.length:=oJ;have kh:=hm.v;have hw:=hf.vr _ (a4C hq);have th:=λz(h1:-4294967296<=z)h2=>b2L (x:=z) h1 h2 hw.1 hw.2.1
   obtain⟨k,ke,hkc⟩:=jx.c1 oJ;rcases gc with⟨h1,_⟩|⟨c,rfl,gc,nc,ca,cv,cq⟩
   .rw[h1]at kU;simp at kU;omega
   have lL:=hm.c;have js:k<st.ae.length:=oJ;obtain⟨gk,nk,ka,kv⟩:=gq k js;have kc:=cq k js;have lc:=t3 gc;have lk:=t3 gk;have zj:=hf.ch _ (a3S hkc);have hlen:0<(U8 st.ae k).length:=by unfold Mo.can at kg;simp only[h6,ke,an,Fo,Fy]at kg;simpa using kg.2
   have xU:=(hx.e.c _ (a8O js)).2 _ (a7z hlen);have hcv':-128<=X9 (U8 st.ae k) 0/\X9 (U8 st.ae k) 0<=127:=xU;have l2:¬1<(U8 st.ae k).length:=(show k'=k by omega)▸l2;have l3:(U8 st.ae k).length=1:=oJ;have e2:mo.bj st v.proc (k7 mo.procs v.proc) E=⟨(st.aF.set v.proc E.to),(st.vars.set q (W3 (X9 (U8 st.ae k) 0) (bh mo.vars q).width.toNat)),(st.ae.set k ((U8 st.ae k).drop 1)),-1⟩:=by unfold Mo.bj Mo.eu;rw[so oJ,so oJ,Fk h6,oE,ke,an,an];rfl
   refine zY (U0 g0 g1 g2 g3 ga gv hk (U0 hp he pS hE h6 om ox (U0 oc hex oE hq ku th ke (X0 js hkc nD gc gk hlen l3)))) ?_;refine a4o (λc=>?_) (λc=>?_)
   .refine zY (W0 g0 g2 hk om c) ?_
    refine a8t (H.chan (A:=(st.aF.set v.proc E.to)) (V:=(st.vars.set q (W3 (X9 (U8 st.ae k) 0) (bh mo.vars q).width.toNat))) (hd:=-1) (d:=(.bu 1 [])) js sJ sJ (zZ ga) (zZ gv) (zZ gc) (b0S l2) (λj hj kW=>by obtain⟨gj,nj,ja,jv⟩:=gq j hj;have jc:=cq j hj;have lj:=t3 gj;have jk:W2 ids j≠W2 ids k:=λe=>kW (inj _ _ hj js e);simp(disch:=(first|exact Rf.mk rfl|with_reducible assumption|omega|((repeat(first|rw[nP]|rw[nS]|rw[Y3]))<;>omega)|decide)) only[go_sem,↓reduceIte,gj])) a76 ?_;intro x' lM;rw[e2]at iQ;have nI:=a7Z hm ho (x:=x') ⟨lM,a51 hf (a15.1 iQ),a15.1 iQ⟩ hp;refine zY nI ?_;refine a4j (λc2=>?_) (λc2=>?_)
    .refine zY (V1 g2 g3 oc hk) ?_
     refine a1I ⟨_,rfl,?_⟩;simp only[e2,c2,GC,FG];exact H.chan (A:=(st.aF.set v.proc E.to)) (V:=(st.vars.set q (W3 (X9 (U8 st.ae k) 0) (bh mo.vars q).width.toNat))) (hd:=(v.proc:Int)) (d:=(.bu 1 [])) js sJ sJ (zZ ga) (zZ gv) (zZ gc) (b0S l2) (λj hj kW=>by obtain⟨gj,nj,ja,jv⟩:=gq j hj;have jc:=cq j hj;have lj:=t3 gj;have jk:W2 ids j≠W2 ids k:=λe=>kW (inj _ _ hj js e);simp(disch:=(first|exact Rf.mk rfl|with_reducible assumption|omega|((repeat(first|rw[nP]|rw[nS]|rw[Y3]))<;>omega)|decide)) only[go_sem,↓reduceIte,gj])
    .refine zY (V1 g2 g3 oc hk) ?_
     refine a1I ⟨_,rfl,?_⟩;simp only[e2,c2,Gs,Fw,FF];exact H.chan (A:=(st.aF.set v.proc E.to)) (V:=(st.vars.set q (W3 (X9 (U8 st.ae k) 0) (bh mo.vars q).width.toNat))) (hd:=-1) (d:=(.bu 1 [])) js sJ sJ (zZ ga) (zZ gv) (zZ gc) (b0S l2) (λj hj kW=>by obtain⟨gj,nj,ja,jv⟩:=gq j hj;have jc:=cq j hj;have lj:=t3 gj;have jk:W2 ids j≠W2 ids k:=λe=>kW (inj _ _ hj js e);simp(disch:=(first|exact Rf.mk rfl|with_reducible assumption|omega|((repeat(first|rw[nP]|rw[nS]|rw[Y3]))<;>omega)|decide)) only[go_sem,↓reduceIte,gj])
   .refine zY (X0 g0 g2 g3 hk om oc c) ?_
    refine a1I ⟨_,rfl,?_⟩;simp only[e2,FY,Fw,FF];exact H.chan (A:=(st.aF.set v.proc E.to)) (V:=(st.vars.set q (W3 (X9 (U8 st.ae k) 0) (bh mo.vars q).width.toNat))) (hd:=-1) (d:=(.bu 1 [])) js sJ sJ (zZ ga) (zZ gv) (zZ gc) (b0S l2) (λj hj kW=>by obtain⟨gj,nj,ja,jv⟩:=gq j hj;have jc:=cq j hj;have lj:=t3 gj;have jk:W2 ids j≠W2 ids k:=λe=>kW (inj _ _ hj js e);simp(disch:=(first|exact Rf.mk rfl|with_reducible assumption|omega|((repeat(first|rw[nP]|rw[nS]|rw[Y3]))<;>omega)|decide)) only[go_sem,↓reduceIte,gj])
  .obtain⟨n,pP,nz,qZ⟩:=jx.eQ oJ
   have kM:=a7s hm ho hx hp nz qZ;have zL:(mo.ex (k7 mo.procs v.proc) st E 0).1=(mo.val (a0s (k7 mo.procs v.proc)) st n).1:=by unfold Mo.ex;rw[pP];simp
   have Az:=b1k hx.e (t:=mo.tree) (ch:=mo.ch) (look:=a0s (k7 mo.procs v.proc)) (mo.tree.length+1) n;have e2:mo.bj st v.proc (k7 mo.procs v.proc) E=⟨(st.aF.set v.proc E.to),st.vars,st.ae,-1⟩:=by unfold Mo.bj Mo.eu;rw[so oJ,so oJ,so oJ];rfl
   refine zY (U0 g0 g1 g2 g3 ga gv hk (U0 hp he pS hE h6 om ox (V4 oc pP kM))) ?_;refine a4o (λc=>?_) (λc=>?_)
   .refine zY (W0 g0 g2 hk om c) ?_
    refine a8t (H.same (A:=(st.aF.set v.proc E.to)) (V:=st.vars) (hd:=-1) sJ sJ (zZ ga) (zZ gv) (λj h1 h2 h3 h4=>bB)) a76 ?_;intro x' lM;rw[e2]at iQ;have nI:=a7Z hm ho (x:=x') ⟨lM,a51 hf (a15.1 iQ),a15.1 iQ⟩ hp;refine zY nI ?_;refine a4j (λc2=>?_) (λc2=>?_)
    .refine zY (V1 g2 g3 oc hk) ?_
     refine a1I ⟨_,rfl,?_⟩;simp only[e2,c2,GC,FG];exact H.same (A:=(st.aF.set v.proc E.to)) (V:=st.vars) (hd:=(v.proc:Int)) sJ sJ (zZ ga) (zZ gv) (λj h1 h2 h3 h4=>bB)
    .refine zY (V1 g2 g3 oc hk) ?_
     refine a1I ⟨_,rfl,?_⟩;simp only[e2,c2,Gs,Fw,FF];exact H.same (A:=(st.aF.set v.proc E.to)) (V:=st.vars) (hd:=-1) sJ sJ (zZ ga) (zZ gv) (λj h1 h2 h3 h4=>bB)
   .refine zY (X0 g0 g2 g3 hk om oc c) ?_
    refine a1I ⟨_,rfl,?_⟩;simp only[e2,FY,Fw,FF];exact H.same (A:=(st.aF.set v.proc E.to)) (V:=st.vars) (hd:=-1) sJ sJ (zZ ga) (zZ gv) (λj h1 h2 h3 h4=>bB)
  .obtain⟨n,pP,nz,qZ⟩:=jx.eQ oJ
   have kM:=a7s hm ho hx hp nz qZ;have zL:(mo.ex (k7 mo.procs v.proc) st E 0).1=(mo.val (a0s (k7 mo.procs v.proc)) st n).1:=by unfold Mo.ex;rw[pP];simp
   have Az:=b1k hx.e (t:=mo.tree) (ch:=mo.ch) (look:=a0s (k7 mo.procs v.proc)) (mo.tree.length+1) n;have e2:mo.bj st v.proc (k7 mo.procs v.proc) E=⟨(st.aF.set v.proc E.to),st.vars,st.ae,-1⟩:=by unfold Mo.bj Mo.eu;rw[so oJ,so oJ,so oJ];rfl
   refine zY (U0 g0 g1 g2 g3 ga gv hk (U0 hp he pS hE h6 om ox (V4 oc pP kM))) ?_;refine a4o (λc=>?_) (λc=>?_)
   .refine zY (W0 g0 g2 hk om c) ?_
    refine a8t (H.same (A:=(st.aF.set v.proc E.to)) (V:=st.vars) (hd:=-1) sJ sJ (zZ ga) (zZ gv) (λj h1 h2 h3 h4=>bB)) a76 ?_;intro x' lM;rw[e2]at iQ;have nI:=a7Z hm ho (x:=x') ⟨lM,a51 hf (a15.1 iQ),a15.1 iQ⟩ hp;refine zY nI ?_;refine a4j (λc2=>?_) (λc2=>?_)
    .refine zY (V1 g2 g3 oc hk) ?_
     refine a1I ⟨_,rfl,?_⟩;simp only[e2,c2,GC,FG];exact H.same (A:=(st.aF.set v.proc E.to)) (V:=st.vars) (hd:=(v.proc:Int)) sJ sJ (zZ ga) (zZ gv) (λj h1 h2 h3 h4=>bB)
    .refine zY (V1 g2 g3 oc hk) ?_
     refine a1I ⟨_,rfl,?_⟩;simp only[e2,c2,Gs,Fw,FF];exact H.same (A:=(st.aF.set v.proc E.to)) (V:=st.vars) (hd:=-1) sJ sJ (zZ ga) (zZ gv) (λj h1 h2 h3 h4=>bB)
   .refine zY (X0 g0 g2 g3 hk om oc c) ?_
    refine a1I ⟨_,rfl,?_⟩;simp only[e2,FY,Fw,FF];exact H.same (A:=(st.aF.set v.proc E.to)) (V:=st.vars) (hd:=-1) sJ sJ (zZ ga) (zZ gv) (λj h1 h2 h3 h4=>bB)
 .rcases gc with⟨h1,_⟩|⟨c,rfl,gc,nc,ca,cv,cq⟩
  .rw[h1]at kU;simp at kU;omega
  have js:v.chan<st.ae.length:=oJ;obtain⟨gk,nk,ka,kv⟩:=gq v.chan js;have kc:=cq v.chan js;have lc:=t3 gc;have lk:=t3 gk;have e:mo.ee st v=⟨st.aF,st.vars,st.ae.set v.chan ((U8 st.ae v.chan).drop 1),st.hold⟩:=by unfold Mo.ee;rw[Fk hk]
  rw[e];by_cases l2:1<(U8 st.ae v.chan).length
  .refine zY (U0 g0 g1 g2 g3 ga gv gc (U0 gk hk js nD om ox oc (V4 l2 hlen @a8H))) ?_
   refine a1I ⟨_,rfl,H.chan (d:=.arr (W2 ids v.chan) 1 ((U8 st.ae v.chan).length-1) 1) js rfl rfl ?_ ?_ ?_ (a9M ?_ l2) λj hj kW=>?_⟩
   .exact zZ ga
   .exact zZ gv
   .exact zZ gc
   .exact zZ gk
   .obtain⟨gj,nj,ja,jv⟩:=gq j hj
    have jc:=cq j hj;have lj:=t3 gj;have jk:W2 ids j≠W2 ids v.chan:=λe=>kW (inj _ _ hj js e)
    exact zZ gj
  .have l3:(U8 st.ae v.chan).length=1:=oJ
   refine zY (U0 g0 g1 g2 g3 ga gv gc (U0 gk hk js nD om ox oc l3)) ?_;refine a1I ⟨_,rfl,H.chan (d:=.bu 1 []) js rfl rfl ?_ ?_ ?_ (b0S l2) λj hj kW=>?_⟩
   .exact zZ ga
   .exact zZ gv
   .exact zZ gc
   .obtain⟨gj,nj,ja,jv⟩:=gq j hj
    have jc:=cq j hj;have lj:=t3 gj;exact zZ gj
 .rcases gc with⟨h1,_⟩|⟨c,rfl,gc,nc,ca,cv,cq⟩
  .rw[h1]at kU;simp at kU;omega
  have js:v.chan<st.ae.length:=oJ;obtain⟨gk,nk,ka,kv⟩:=gq v.chan js;have kc:=cq v.chan js;have lc:=t3 gc;have lk:=t3 gk;have e:mo.ee st v=⟨st.aF,st.vars,st.ae.set v.chan (U8 st.ae v.chan++[X9 (U8 st.ae v.chan) 0]),st.hold⟩:=by unfold Mo.ee;rw[so oJ,Fk hk]
  rw[e];refine zY (U0 g0 g1 g2 g3 ga gv gc (U0 gk hk js nD om ox oc hlen)) ?_;have yh:=hf.ch _ (a3S hc);refine b7f (cs:=a0w (U8 st.ae v.chan)) (x:=.int .i64 (X9 (U8 st.ae v.chan) 0)) (zZ gk) sJ bB dJ oJ bB ?_;refine zY (U0 g0 g1 g2 g3 ga gv gc (U0 gk hk js nD om ox oc hlen)) ?_;refine a1I ⟨_,rfl,H.chan (d:=.arr (s1.next+1+1) 0 ((U8 st.ae v.chan).length+1) 1) js rfl rfl ?_ ?_ ?_ ?_ λj hj kW=>?_⟩
  .exact zZ ga
  .exact zZ gv
  .exact zZ gc
  .rw[show(U8 st.ae v.chan).length+1=(U8 st.ae v.chan++[X9 (U8 st.ae v.chan) 0]).length by simp]
   refine a7q ?_;refine V9 ?_;simp[a0w]
  .obtain⟨gj,nj,ja,jv⟩:=gq j hj
   have jc:=cq j hj;have lj:=t3 gj;have jk:W2 ids j≠W2 ids v.chan:=λe=>kW (inj _ _ hj js e)
   exact zZ gj
theorem do_bc(hm:Z4 m mo ps)(ho:Z3 mo)(hf:a0P mo)(hx:a2Z mo x st)(hv:mo.mvOk st v):∃x',bz U5 21 [.agg [m.dt,.int .i64 m.g,m.dc,m.dv,m.dp,m.ds,.bool m.b],.agg [x.da,x.dv,x.dc,.int .i64 st.hold],.agg [.int .i64 (v.kind:Int),.int .i64 (v.proc:Int),.int .i64 (v.bb:Int),.int .i64 (v.chan:Int)]] (.agg [x'.da,x'.dv,x'.dc,.int .i64 (mo.ee st v).hold])/\a2Z mo x' (mo.ee st v):=by
 obtain⟨d,s',h1,cs,rfl,h2⟩:=do_ok hm ho hf hx hv;obtain⟨x',h4,h5⟩:=h2.dI;have iQ:=b4E ho hf hx.fit hv;exact⟨x',a0l ⟨_,_,h1,h4⟩,h5,a51 hf iQ,iQ⟩
end Go.Proofs.YtigbmclkjknnjaaGreat
namespace Go.V
theorem a1W.pw{t:List Nd}:∀{ks:List Int}{a n:Nat},a1W t ks a n->ks.Pairwise (·<·)
 |[],a,n,h=>List.Pairwise.nil
 |k::ks,a,n,h=>by
  obtain⟨rfl,b,h1,h2⟩:=h;refine Hc.2 ⟨λx hx=>?_,h2.pw⟩;have:=h2.mem x hx;have:=h1.lt;omega
variable{t:List Nd}
theorem c0U(h:Y9 t):(nd t 0).ks.Pairwise (·<·):=by
 unfold Nd.ks;rw[IE];refine JB ?_ h.cP.pw;intro a b ha hb oY;have:=h.cP.mem a ha;omega
theorem c1c(t:List Nd):∀(l:List Nat)(a:Ga),(l.foldl (bo t) a).ch=a.ch++(l.filter λk=>(nd t k).kind==1).map λk=>a7p (nd t k)
 |[],a=>by simp
 |k::l,a=>by
  rw[Hl,c1c t l];unfold bo;grind
theorem c0o(t:List Nd):∀(l:List Nat)(a:Ga),(l.foldl (bo t) a).vs=a.vs++(l.filter λk=>(nd t k).kind==2).map λk=>a4G (nd t k)
 |[],a=>by simp
 |k::l,a=>by
  rw[Hl,c0o t l];grind[bo]
theorem b8x(hS:a3g t){kind:Int}(hk:kind=1\/kind=2){l:List Nat}(hp:l.Pairwise (·<·))(hl:∀k∈l,k<t.length/\(nd t k).kind=kind)(hs:∀i∈l,∀j∈l,i<j->item t i=i\/item t i=item t j):(l.map λk=>(nd t k).word 0).Nodup:=by
 unfold List.Nodup;rw[IE];refine JB ?_ hp;intro i j hi hj Am e;obtain⟨h1,h2⟩:=hl j hj;have ho:=hS.once j h1 oJ;have:a3I t kind j ((nd t j).word 0):=⟨i,Am,(hl i hi).2,hs i hi j hj Am,e⟩
 grind
variable{k:Nat}
theorem b44(h:Y9 t)(hk:k∈(nd t 0).ks):k<t.length:=by
 obtain⟨z,hz,rfl⟩:=Fs.1 hk;have:=h.cP.mem z hz;omega
theorem b9b(h:Y9 t)(hk:k∈(nd t 0).ks):item t k=k:=a7L h (a9d h hk)
theorem c81(h:Y9 t)(hS:a3g t):(bx t).Nodup:=by
 have e:bx t=((nd t 0).ks.filter λk=>(nd t k).kind==1).map λk=>(nd t k).word 0:=by
  unfold bx W5 a1i;rw[c1c];simp[a7p]
 rw[e];refine b8x hS (.inl rfl) ((c0U h).filter _) (λk hk=>?_) λi hi j hj _=>.inl ?_
 .obtain⟨h1,h2⟩:=Gu.1 hk
  exact⟨b44 h h1,sU h2⟩
 grind[b9b]
def a81(t:List Nd):Nat->Nat->List Nat
 |0,_=>[]
 |n+1,k=>k::(nd t k).ks.flatMap (a81 t n)
theorem b89{α β γ:Type}{g:γ->β->γ}{e:α->List β}:∀{l:List α}{a:γ},(l.flatMap e).foldl g a=l.foldl (λa x=>(e x).foldl g a) a
 |[],a=>rfl
 |x::l,a=>by
  rw[HE,Jp,Hl,b89]
theorem b73{t:List Nd}{ch:List ByteArray}{vb:ByteArray->Nat}:∀(n k:Nat)(f:Ft),(a81 t n k).foldl (λf j=>a0S ch vb (nd t j) f) f=a2x t ch vb n k f
 |0,k,f=>rfl
 |n+1,k,f=>by
  unfold a81 a2x;rw[Hl,b89];congr 1
  funext f c
  exact b73 n c f
theorem c9f(h:Y9 t)(hS:a3g t){o:fC}(ho:o∈a0W t):(cW t o).names.Nodup:=by
 have jD:=a6D ho;obtain⟨i,hi,kK,qx⟩:=jD.aF;have mE:o.k∈(nd t 0).ks:=by rw[<- kK];exact Fp hi
 have jq:=b44 h mE;have pQ:=a9h ((h.ok.node o.k jq).proc jD.kind);have Dd:=c0U h
 -- the list of nodes
 have eg:((W5 t).vs.take o.seen).map Vr.name=(((nd t 0).ks.take i).filter λk=>(nd t k).kind==2).map λk=>(nd t k).word 0:=by
  obtain⟨r,hr⟩:=b38 t ((nd t 0).ks.take i) ((nd t 0).ks.drop i);rw[Hi]at hr;unfold W5;rw[hr,qx,List.take_left']
  .unfold a1i
   rw[c0o];simp[a4G]
  .rfl
 have el:(a1q t (nd t o.k)).map (λy=>y.word 0)=((List.range (Y5 t (nd t o.k))).map (o.k+1+·)).map λk=>(nd t k).word 0:=by
  refine HB sJ λj h1 h2=>?_
  have hj:j<Y5 t (nd t o.k):=sU h1;have sk:=b2w h mE hj;have hle:=a8N t (nd t o.k);simp only[a1q,IK,Ic,Ix];congr 2
  rw[<- sk];unfold Nd.aE Nd.ks;simp[List.getD,show j<(nd t o.k).kids.length by simpa[Nd.ks]using(Gq hj hle)]
 show(((W5 t).vs.take o.seen).map Vr.name++(a1q t (nd t o.k)).map (λy=>y.word 0)).Nodup
 rw[eg,el,<- FK];have hg:∀k∈((nd t 0).ks.take i).filter (λk=>(nd t k).kind==2),k∈(nd t 0).ks/\(nd t k).kind=2/\k<o.k:=λk hk=>by
  obtain⟨h1,h2⟩:=Gu.1 hk;obtain⟨j,hj,rfl⟩:=FQ h1;rw[GO]at hj;rw[Ic];refine⟨Fp _,by simpa[Ic]using h2,?_⟩;rw[<- kK];exact List.pairwise_iff_getElem.1 Dd j i oJ hi oJ
 obtain⟨b,b1,jo,k2,_,uI⟩:=b2E h hS ho;have xt:∀k∈(List.range (Y5 t (nd t o.k))).map (o.k+1+·),k<t.length/\(nd t k).kind=2/\item t k=o.k/\o.k<k:=λk hk=>by
  obtain⟨j,hj,rfl⟩:=Fs.1 hk;have hj:=FU.1 hj;have sk:=b2w h mE hj;have hle:=a8N t (nd t o.k);have kW:=Gq hj hle;have e1:(nd t o.k).ks[j]=o.k+1+j:=by
   rw[<- sk];unfold Nd.aE Nd.ks;simp[List.getD,show j<(nd t o.k).kids.length by simpa[Nd.ks]using kW];exact IK Int.toNat
  have mI:=b1d hj kW;rw[e1]at mI;have hm:=Fp kW;rw[e1]at hm;have hl:=h.ok.ks jq _ hm;refine⟨hl.2,mI,?_,oJ⟩;have hd:o.k+1+j<b:=by
   obtain⟨z,hz,hzk⟩:=Fs.1 hm;have:=jo.down o.k (sm _) jo.lt z hz;omega
  exact a72 h mE jo _ oJ hd
 refine b8x hS (.inr rfl) (HD.2 ⟨(Dd.sublist (List.take_sublist _ _)).filter _,?_,λx hx y hy=>?_⟩) (λk hk=>?_) λx hx y hy um=>?_
 .rw[IE]
  exact List.Pairwise.imp fJ JV
 .have:=(hg x hx).2.2
  have:=(xt y hy).2.2.2;omega
 .rcases Fm.1 hk with hk|hk
  .exact⟨b44 h (hg k hk).1,(hg k hk).2.1⟩
  .exact⟨(xt k hk).1,(xt k hk).2.1⟩
 grind[b9b]
structure MoN(mo:Mo):Prop where
 ch:mo.ch.Nodup
 nm:∀i,i<mo.procs.length->(k7 mo.procs i).names.Nodup
theorem c79(h:Y9 t)(hS:a3g t):MoN (a20 t):=by
 refine⟨c81 h hS,λi hi=>?_⟩;have e:(a20 t).procs=(a0W t).map (a2S t):=(a7T t).1;have jF:i<(a0W t).length:=by grind
 have ep:k7 (a20 t).procs i=a2S t (a0W t)[i]:=by grind[a12]
 have ho:=Fp jF;rw[ep,(a7a h hS ho).2.names];exact c9f h hS ho
theorem c0u{t:List Nd}:∀(g i b:Nat),a0z t g i=(b,true)->b<=t.length->∀j,i<=j->j<b->∃g' b',a0z t g' j=(b',true)/\b'<=b
 |0,i,b,h,_,_,_,_=>by simp[a0z]at h
 |g+1,i,b,h,hb,j,h1,h2=>by
  by_cases e:j=i
  .grind
  have key:∀(ks:List Int)(a n:Nat),KF t g ks a n->n<=t.length->∀j,a<=j->j<n->∃g' b',a0z t g' j=(b',true)/\b'<=n:=by
   intro ks;induction ks with
   |nil=>intro a n hk _ j h1 h2;have:=hk.nil;omega
   |cons z zs ih =>
    intro a n hk hn j h1 h2;obtain⟨_,_,c,c1,c2,c3,c4⟩:=hk.cons;have hle:=c4.le;by_cases hc:j<c
    .obtain⟨g',b',w1,w2⟩:=c0u g a c c1 c3 j h1 hc
     exact⟨g',b',w1,oJ⟩
    grind
  obtain⟨g',e',hk⟩:=a4P h;obtain rfl:g=g':=oJ;exact key _ _ _ hk hb j oJ h2
theorem c4y(h:Y9 t)(hk:k<t.length):∃g b,a0z t g k=(b,true)/\b<=t.length:=c0u 20 0 t.length h.walk (sm _) k (KB _) hk
theorem b1o{g b:Nat}(h:a0z t g k=(b,true)):k<b:=by
 obtain⟨g',_,hk⟩:=a4P h;have:=hk.le;omega
theorem c0c{t:List Nd}:∀(n g k b:Nat),a0z t g k=(b,true)->b-k<=n->a81 t n k=List.range' k (b-k)
 |0,g,k,b,h,hn=>by have:=b1o h;omega
 |n+1,g,k,b,h,hn=>by
  obtain⟨g',_,hk⟩:=a4P h;have jq:=b1o h;have key:∀(ks:List Int)(a m:Nat),KF t g' ks a m->m-a<=n->(ks.map Int.toNat).flatMap (a81 t n)=List.range' a (m-a):=by
   intro ks;induction ks with
   |nil=>intro a m hk _;have:=hk.nil;subst this;simp
   |cons z zs ih =>
    intro a m hk hm;obtain⟨c0,_,c,c1,c2,c3,c4⟩:=hk.cons;have hle:=c4.le;rw[FJ,HE,c0,an,c0c n g' a c c1 oJ,ih c m c4 oJ];have:=List.range'_append (s:=a) (m:=c-a) (n:=m-c) (step:=1);grind
  unfold a81;rw[show(nd t k).ks=(nd t k).kids.map Int.toNat from rfl,key _ _ _ hk oJ,show b-k=(b-(k+1))+1 by omega,II]
variable{n:Nat}
theorem b9e{ch:List ByteArray}{vb:ByteArray->Nat}{g b:Nat}(h:a0z t g k=(b,true))(hn:b-k<=n)(f:Ft):(List.range' k (b-k)).foldl (λf j=>a0S ch vb (nd t j) f) f=a2x t ch vb n k f:=by
 rw[<- c0c n g k b h hn,b73]
variable{x:Nat}
theorem c7L(hn:n<32)(hx:x<4294967296)(h:x.testBit n=false):x+2^n=x ||| 2^n:=by
 have h2:=a6P hn;have h0:x &&& 2^n=0:=Km λi=>by
  rw[Nat.testBit_and,Kq,Nat.zero_testBit];by_cases e:n=i
  .subst e;simp[h]
  .simp[e]
 have e:=Ig BitVec.toNat (BitVec.add_eq_or_of_and_eq_zero (w:=33) (BitVec.ofNat 33 x) (BitVec.ofNat 33 (2^n)) (by
  apply BitVec.eq_of_toNat_eq;rw[JG,BitVec.toNat_ofNat,BitVec.toNat_ofNat,HA oJ,HA oJ,h0];rfl))
 grind
theorem or_bit(h:x.testBit n=true):x ||| 2^n=x:=Km λi=>by
 grind
theorem c2o(h:n<32):a48 .shr .u32 (x:Int) (n:Int)=some (.int .u32 ((x/2^n:Nat):Int)):=by
 unfold a48;rw[so oJ];simp only[an];have e:min n IntKind.u32.bits=n:=by rw[show IntKind.u32.bits=32 from rfl];omega
 grind
theorem b6M(hx:x<4294967296):IntKind.u32.wrap (a8G .u32 ((x/2^n:Nat):Int) 1)=if x.testBit n then 1 else 0:=by
 have h0:x/2^n<=x:=JY _ _;have h:=c4z (x:=x/2^n) (y:=1) oJ dJ;grind
theorem add32(hn:n<32)(hx:x<4294967296)(h:x.testBit n=false):IntKind.u32.wrap ((x:Int)+((2^n:Nat):Int))=((x ||| 2^n:Nat):Int):=by
 grind[c7L,b1W,a67,a6P]
theorem c5d{fs:FuncId->Option U4}{t rest env K s bytes id mL n n2}{l r:List Nat}(hn:l.length=n)(nz:r.length=n2)(h:s.get id=some (.cells (a1f l)))(h2:s.get mL=some (.cells (a1f r)))(hb:bytes<=128)(hl:n+n2<=2^30)
 (k:∀jl s',s'.get jl=some (.cells (a1f (l++r)))->(jl=id\/s.next<=jl)->Fr [id] s s'->XQ fs [] rest ((t,.arr jl 0 (n+n2) 1)::env) s' K):BM (a0e 1 bytes (.arr id 0 n 1) (.arr mL 0 n2 1) s) fs t rest env K:=by
 subst hn nz;obtain⟨d',s',h3,jl,h4,h5,h6,h7⟩:=a9i (s:=s) (sz:=1) (bytes:=bytes) (id:=id) (d:=.arr mL 0 r.length 1) (bO:=a0i l) (rows:=a0i r) (by grind[a68]) (a4M _) (.inr (.inl ⟨mL,sJ,by grind[a68]⟩)) (a4M _) hb (sU hl);rw[a63]at h3;rw[h3];have e:a0i l++a0i r=a0i (l++r):=by simp[a0i]
 rw[e]at h4 h5;rw[a68]at h5;rw[h4,a63,Fq];exact k jl s' h5 h7 h6
variable{l:List ByteArray}{w:ByteArray}
theorem c3f(h:a2r l w<l.length):l[a2r l w]=w:=by
 have:=List.findIdx_getElem (p:=λx=>decide (x=w)) (xs:=l) (w:=h);exact Gp this
variable{q:Nat}
theorem c2z(hn:l.Nodup)(hq:q<l.length)(h:l[q]=w):a2r l w=q:=a7Y hq h λj hj hjq e=>by
 grind[List.pairwise_iff_getElem]
def iK(l:List ByteArray)(v:Nat->Nat)(w:ByteArray)(q:Nat):Nat:=if a2r l w<q then 2^v (a2r l w)else 0
variable{v:Nat->Nat}
theorem b96:iK l v w 0=0:=by simp[iK]
theorem b7K(hn:l.Nodup)(hq:q<l.length)(h:l[q]=w):iK l v w q=0/\iK l v w (q+1)=2^v q:=by
 have e:=c2z hn hq h;unfold iK;grind
theorem b80(hq:q<l.length)(h:l[q]≠w):iK l v w (q+1)=iK l v w q:=by
 unfold iK;by_cases c:a2r l w<q
 .rw[Fk c,Fk oJ]
 .rw[so c,so]
  grind[c3f]
theorem c4C{names:List ByteArray}{vars:List Nat}:iK names (W2 vars) w names.length=bD names vars w:=rfl
theorem c86{ch:List ByteArray}:iK ch (λi=>i) w ch.length=iH ch w:=rfl
def RF(t:List Nd)(ch:List ByteArray)(vb:ByteArray->Nat)(k i:Nat):Ft:=(List.range' k i).foldl (λf j=>a0S ch vb (nd t j) f) ⟨0,0,0,0,0,false⟩
theorem b4N{ch:List ByteArray}{vb:ByteArray->Nat}{i:Nat}:RF t ch vb k (i+1)=a0S ch vb (nd t (k+i)) (RF t ch vb k i):=by
 simp[RF,List.range'_concat]
end Go.V
namespace Go.Proofs.YtigbmclkjknnjaaGreat
open Go.V
variable{n:Nat}
theorem b5W{x:Nat}(hx:x<4294967296)(hn:n<32):bz U5 151 [.int .u32 (x:Int),.int .i64 (n:Int)] (.int .u32 ((x ||| 2^n:Nat):Int)):=by
 have h1:=c2o (x:=x) hn;have h2:=b6M (n:=n) hx;have h3:=b3Q hn;refine a0l ?_;cases hb:x.testBit n
 .rw[hb]at h2
  simp only[Fw,FF]at h2;have h4:=add32 hn hx hb;refine a0A (vf:=a9X) rfl ?_;unfold a9X;refine zF ?_;exact zZ (V1 h1 h2 h3 h4)
 .rw[hb]at h2
  simp only[FG]at h2;rw[or_bit hb];refine a0A (vf:=a9X) rfl ?_;unfold a9X;refine zF ?_;exact zZ (V4 h1 h2 h3)
variable{t:List Nd}
theorem c9m{d:D}(hT:Z0 d t)(hl:t.length<=100000):∀(n g k b:Nat),a0z t g k=(b,true)->b<=t.length->b-k<=n->∀s:k4,Y4 U5 173 [d,.int .i64 (k:Int)] s λr s'=>∃id,r=.arr id 0 (b-k) 1/\s'.get id=some (.cells (a1f (List.range' k (b-k))))/\s.next<=id/\Fr [] s s':=by
 intro n;induction n with
 |zero=>intro g k b h hb hn s;have:=b1o h;omega
 |succ n ih =>
  intro g k b h hb hn s;obtain⟨g',_,hk⟩:=a4P h;have jq:=b1o h;have jJ:k<t.length:=oJ;have oT:=FL.one hT.fl;have iM:=hT.at (z:=(k:Int)) oJ oJ (k:=.i64);rw[an]at iM;have kT:=hk.length;have hnk:nd t k=t[k]:=b36 jJ;have qQ:FI (nd t k).dk (nd t k).kids:=by rw[hnk];exact(hT.get jJ).k
  refine Y0 (vf:=b5J) rfl ?_;unfold b5J;refine zF ?_;refine zY (aN oT iM) ?_;refine W6 [0,1,4] 0 (nd t k).kids.length (λi f s'=>f 6=.int .i64 (i:Int)/\∃id e,f 5=.arr id 0 (e-k) 1/\s'.get id=some (.cells (a1f (List.range' k (e-k))))/\s.next<=id/\k<e/\KF t g' ((nd t k).kids.drop i) e b/\Fr [] s s') (.mk rfl) oJ ⟨rfl,s.next,k+1,by rw[JJ];rfl,?_,sm _,oJ,sU hk,Fr.push _⟩ ?_
  .rw[JJ,W8 rfl]
   rfl
  rintro i f s1 hi ⟨hE,id,e,hF,hg,jb,hke,jg,fr⟩;by_cases ci:i<(nd t k).kids.length
  rotate_left
  .obtain rfl:i=(nd t k).kids.length:=oJ
   rw[List.drop_length]at jg;have:=jg.nil;subst this;refine zY (X4 oT iM hE hF ci qQ) ?_;exact a1I ⟨id,rfl,hg,jb,fr⟩
  rw[GS ci]at jg;obtain⟨z0,z1,c,z2,z3,z4,z5⟩:=jg.cons;have hz:X9 (nd t k).kids i=(e:Int):=by rw[a26 ci,z0]
  have hle:=z5.le;refine zY (X0 oT iM hE hF ci qQ hz) ?_;refine a0M (ih g' e c z2 z4 oJ s1) rfl ?_;rintro r s2 ⟨mL,rfl,tf,qq,je⟩;have uk:=t3 hg;have xe:s2.get id=some (.cells (a1f (List.range' k (e-k)))):=by rw[je.2 _ uk sJ,hg]
  refine V9 ?_;refine c5d (l:=List.range' k (e-k)) (r:=List.range' e (c-e)) sJ sJ xe tf dJ oJ ?_;intro Bo s3 og mJ iY;have AZ:List.range' k (e-k)++List.range' e (c-e)=List.range' k (c-k):=by
   have:=List.range'_append (s:=k) (m:=e-k) (n:=c-e) (step:=1);rw[Kg,show k+(e-k)=e by omega]at this;rw[this];congr 1;omega
  rw[AZ]at og;refine zY (aN hE ci) ?_;refine⟨Bo,c,?_,og,?_,oJ,z5,?_⟩
  .rw[show e-k+(c-e)=c-k by omega]
  .have:=je.1
   have:=fr.1;rcases mJ with rfl|h
   .exact jb
   .omega
  .have f12:=fr.trans je sJ
   exact⟨by have:=iY.1;have:=f12.1;omega,λj hj _=>by
    have:=f12.1;rw[iY.2 j oJ qJ,f12.2 j hj sJ]⟩
variable{mo:Mo}
theorem c1T(ho:Z3 mo){p:Nat}(hp:p<mo.procs.length){k:Nat}:∀i,(RF mo.tree mo.ch (bD (k7 mo.procs p).names (k7 mo.procs p).vars) k i).Ok
 |0=>b4O
 |i+1=>by
  rw[b4N];refine c1Q (c1T ho hp i) (by have:=ho.nc;simpa[Mo.ch]using this) λw=>?_
  have jh:=ho.pr _ (a1S hp);unfold bD;split
  .rename_i h
   rw[jh.same]at h;refine a6P ?_;have:=jh.var ((k7 mo.procs p).vars.getD (a2r (k7 mo.procs p).names w) 0) (by simp only[List.getD,GY h,Ho];exact Fp h);have:=ho.nv;omega
  .decide
variable{m:X7}{ps:List (Pr×X2)}{p:Nat}
theorem c8v(hm:Z4 m mo ps)(ho:Z3 mo)(hN:MoN mo)(hp:p<mo.procs.length){k g b:Nat}(hw:a0z mo.tree g k=(b,true))(hb:b<=mo.tree.length){s:k4}:Y4 U5 150 [.agg [m.dt,.int .i64 m.g,m.dc,m.dv,m.dp,m.ds,.bool m.b],.fp [.str (k7 mo.procs p).name,.int .i64 ((k7 mo.procs p).copy:Int),(V8 ps p).dl,.int .i64 ((k7 mo.procs p).ah:Int),(V8 ps p).dr,(V8 ps p).de,(V8 ps p).dn,(V8 ps p).dv] 0,.int .i64 (k:Int)] s λr s'=>r=.agg (RF mo.tree mo.ch (bD (k7 mo.procs p).names (k7 mo.procs p).vars) k (b-k)).row/\Fr [] s s':=by
 have om:=hm.aw;have fm:=a3R hm;have jh:=ho.pr _ (a1S hp);have EN:=hN.nm p hp;have kP:=(a47 hm hp).n;have kQ:=(a47 hm hp).v;have qH:(k7 mo.procs p).names.length<=8:=by have:=jh.nl;have:=ho.nv;omega
 have hcn:=hN.ch;have nN:=ho.nc;have lD:=ho.nv;have jq:=b1o hw;have hle:=ho.tree.le;have lX:=hm.tr;have lL:=hm.c;have hchl:mo.ch.length=mo.ae.length:=by simp[Mo.ch]
 refine Y0 (vf:=b3q) rfl ?_;unfold b3q;refine zF ?_;refine zY (aN om fm) ?_;refine a0M (c9m hm.tr oJ (b-k) g k b hw hb (sm _) _) bB ?_;rintro r s1 ⟨id,rfl,hg,jb,fr⟩;have l1:=fr.1;have zy:∀j,j<s.next->s1.get j=s.get j:=λj hj=>by
  rw[fr.2 j (by simp only[k4.aj,k4.au];omega) sJ];exact bB
 have g0:s1.get s.next=some (.cells [m.dt,.int .i64 m.g,m.dc,m.dv,m.dp,m.ds,.bool m.b]):=by rw[fr.2 _ (by simp only[k4.aj,k4.au];omega) sJ];exact bB
 have g1:s1.get (s.next+1)=some (.cells [.int .u32 0,.int .u32 0,.int .u32 0,.int .u32 0,.int .u32 0,.bool false]):=by rw[fr.2 _ (by simp only[k4.aj,k4.au];omega) sJ];exact bB
 have g2:s1.get (s.next+1+1)=some (.cells [.int .u32 0,.int .u32 0,.int .u32 0,.int .u32 0,.int .u32 0,.bool false]):=by rw[fr.2 _ (by simp only[k4.aj,k4.au];omega) sJ];exact bB
 simp only[k4.aj,k4.au]at l1 jb;clear fr;refine V9 ?_;refine W6 [0,1,2,3,6,7,8] 0 (b-k) (λi f s'=>f 9=.int .i64 (i:Int)/\s'.get s.next=some (.cells [m.dt,.int .i64 m.g,m.dc,m.dv,m.dp,m.ds,.bool m.b])/\s'.get (s.next+1)=some (.cells [.int .u32 0,.int .u32 0,.int .u32 0,.int .u32 0,.int .u32 0,.bool false])/\s'.get (s.next+1+1)=some (.cells (RF mo.tree mo.ch (bD (k7 mo.procs p).names (k7 mo.procs p).vars) k i).row)/\s'.get id=some (.cells (a1f (List.range' k (b-k))))/\s.next+3<=s'.next/\(∀j,j<s.next->s'.get j=s.get j)) (.mk rfl) oJ ⟨rfl,g0,g1,g2,hg,oJ,zy⟩ ?_;clear g0 g1 g2 hg zy;rintro i f s2 hi ⟨hI,g0,g1,g2,hg,hn,zy⟩;have l0:=t3 g0;have l2:=t3 g2;have uk:=t3 hg;by_cases ci:i<b-k
 rotate_left
 .obtain rfl:i=b-k:=oJ
  unfold Ft.row at g2⊢;refine zY (W0 hI ci g0 g1 g2) ?_;refine a1I ⟨rfl,⟨by simp only[k4.au];omega,λj hj _=>?_⟩⟩;rw[Y8 oJ,zy j hj]
 have jy:=c1T ho hp (k:=k) i;have ue:=b4N (t:=mo.tree) (ch:=mo.ch) (vb:=bD (k7 mo.procs p).names (k7 mo.procs p).vars) (k:=k) (i:=i);have Bm:(a1f (List.range' k (b-k)))[i]?=some (.int .i64 ((k+i:Nat):Int)):=by simp[a1f,List.getElem?_range',ci]
 have rI:k+i<mo.tree.length:=oJ;generalize k+i=j at *;generalize RF mo.tree mo.ch (bD (k7 mo.procs p).names (k7 mo.procs p).vars) k i=F at *;have iT:=ho.tree.node j rI;have on:=a2Y lX rI;have mw:=a6m lX rI (i:=0);have n0:=a5U lX rI (i:=0);have z0:((0:Nat):Int)=0:=rfl;rw[iT.wl,z0]at mw;rw[iT.nl,z0]at n0;unfold Ft.row at g2;have AB:=a1Q (s:=s2) (z:=.cells [.int .i64 0,.ag,.ag,.ag,.int .i64 0]) (o:=.cells [.int .i64 (nd mo.tree j).kind,(nd mo.tree j).dw,(nd mo.tree j).dn,(nd mo.tree j).dk,.int .i64 (nd mo.tree j).pos]);have b0:((s2.push (.cells [.int .i64 0,.ag,.ag,.ag,.int .i64 0])).set s2.next (some (.cells [.int .i64 (nd mo.tree j).kind,(nd mo.tree j).dw,(nd mo.tree j).dn,(nd mo.tree j).dk,.int .i64 (nd mo.tree j).pos]))).get s.next=some (.cells [m.dt,.int .i64 m.g,m.dc,m.dv,m.dp,m.ds,.bool m.b]):=by rw[AB.2 _ l0 sJ,g0]
 have b1:((s2.push (.cells [.int .i64 0,.ag,.ag,.ag,.int .i64 0])).set s2.next (some (.cells [.int .i64 (nd mo.tree j).kind,(nd mo.tree j).dw,(nd mo.tree j).dn,(nd mo.tree j).dk,.int .i64 (nd mo.tree j).pos]))).get (s.next+1)=some (.cells [.int .u32 0,.int .u32 0,.int .u32 0,.int .u32 0,.int .u32 0,.bool false]):=by rw[AB.2 _ (t3 g1) sJ,g1]
 have b2:((s2.push (.cells [.int .i64 0,.ag,.ag,.ag,.int .i64 0])).set s2.next (some (.cells [.int .i64 (nd mo.tree j).kind,(nd mo.tree j).dw,(nd mo.tree j).dn,(nd mo.tree j).dk,.int .i64 (nd mo.tree j).pos]))).get (s.next+1+1)=some (.cells [.int .u32 (F.reads:Int),.int .u32 (F.writes:Int),.int .u32 (F.aW:Int),.int .u32 (F.aY:Int),.int .u32 (F.aX:Int),.bool F.part]):=by rw[AB.2 _ l2 sJ,g2]
 have bg:((s2.push (.cells [.int .i64 0,.ag,.ag,.ag,.int .i64 0])).set s2.next (some (.cells [.int .i64 (nd mo.tree j).kind,(nd mo.tree j).dw,(nd mo.tree j).dn,(nd mo.tree j).dk,.int .i64 (nd mo.tree j).pos]))).get id=some (.cells (a1f (List.range' k (b-k)))):=by rw[AB.2 _ uk sJ,hg]
 have bn:((s2.push (.cells [.int .i64 0,.ag,.ag,.ag,.int .i64 0])).set s2.next (some (.cells [.int .i64 (nd mo.tree j).kind,(nd mo.tree j).dw,(nd mo.tree j).dn,(nd mo.tree j).dk,.int .i64 (nd mo.tree j).pos]))).get s2.next=some (.cells [.int .i64 (nd mo.tree j).kind,(nd mo.tree j).dw,(nd mo.tree j).dn,(nd mo.tree j).dk,.int .i64 (nd mo.tree j).pos]):=a0b sJ;have bl:s2.next<((s2.push (.cells [.int .i64 0,.ag,.ag,.ag,.int .i64 0])).set s2.next (some (.cells [.int .i64 (nd mo.tree j).kind,(nd mo.tree j).dw,(nd mo.tree j).dn,(nd mo.tree j).dk,.int .i64 (nd mo.tree j).pos]))).next:=sJ;have bf:∀a,a<s.next->((s2.push (.cells [.int .i64 0,.ag,.ag,.ag,.int .i64 0])).set s2.next (some (.cells [.int .i64 (nd mo.tree j).kind,(nd mo.tree j).dw,(nd mo.tree j).dn,(nd mo.tree j).dk,.int .i64 (nd mo.tree j).pos]))).get a=s.get a:=λa ha=>by rw[AB.2 _ oJ sJ,zy a ha]
 by_cases kF:(nd mo.tree j).kind=18
 .rw[kF]at mw
  have mw:=mw dJ;refine zY (U0 hI ci g0 g1 g2 hg Bm (X4 rI lX on om kF mw)) ?_;rw[kF]at b0 b1 b2 bg bn bl bf;generalize(s2.push (.cells [.int .i64 0,.ag,.ag,.ag,.int .i64 0])).set s2.next (some (.cells [.int .i64 18,(nd mo.tree j).dw,(nd mo.tree j).dn,(nd mo.tree j).dk,.int .i64 (nd mo.tree j).pos]))=s3 at *;refine a1d [0,1,2,3,6,7,8,9,10,12,13,22,39,78,82,95,110,123,138] (λf s'=>s'.get s.next=some (.cells [m.dt,.int .i64 m.g,m.dc,m.dv,m.dp,m.ds,.bool m.b])/\s'.get (s.next+1)=some (.cells [.int .u32 0,.int .u32 0,.int .u32 0,.int .u32 0,.int .u32 0,.bool false])/\s'.get (s.next+1+1)=some (.cells [.int .u32 ((F.reads ||| bD (k7 mo.procs p).names (k7 mo.procs p).vars ((nd mo.tree j).word 0):Nat):Int),.int .u32 (F.writes:Int),.int .u32 (F.aW:Int),.int .u32 (F.aY:Int),.int .u32 (F.aX:Int),.bool F.part])/\s'.get id=some (.cells (a1f (List.range' k (b-k))))/\s'.get s2.next=some (.cells [.int .i64 18,(nd mo.tree j).dw,(nd mo.tree j).dn,(nd mo.tree j).dk,.int .i64 (nd mo.tree j).pos])/\s2.next<s'.next/\(∀a,a<s.next->s'.get a=s.get a)) ?_ ?_
  .refine W6 [0,1,2,3,6,7,8,9,10,12,13,22,39,78,82,95,110,123,138] 0 (k7 mo.procs p).names.length (λq f s'=>f 11=.int .i64 (q:Int)/\s'.get s.next=some (.cells [m.dt,.int .i64 m.g,m.dc,m.dv,m.dp,m.ds,.bool m.b])/\s'.get (s.next+1)=some (.cells [.int .u32 0,.int .u32 0,.int .u32 0,.int .u32 0,.int .u32 0,.bool false])/\s'.get (s.next+1+1)=some (.cells [.int .u32 ((F.reads ||| iK (k7 mo.procs p).names (W2 (k7 mo.procs p).vars) ((nd mo.tree j).word 0) q:Nat):Int),.int .u32 (F.writes:Int),.int .u32 (F.aW:Int),.int .u32 (F.aY:Int),.int .u32 (F.aX:Int),.bool F.part])/\s'.get id=some (.cells (a1f (List.range' k (b-k))))/\s'.get s2.next=some (.cells [.int .i64 18,(nd mo.tree j).dw,(nd mo.tree j).dn,(nd mo.tree j).dk,.int .i64 (nd mo.tree j).pos])/\s2.next<s'.next/\(∀a,a<s.next->s'.get a=s.get a)) (.mk rfl) oJ ⟨rfl,b0,b1,by rw[b96,Jo];exact b2,bg,bn,bl,bf⟩ ?_
   clear b0 b1 b2 bg bn bl bf g0 g1 g2 hg;rintro q f s4 hq ⟨hQ,b0,b1,b2,bg,bn,bl,bf⟩;have m2:=t3 b2;by_cases cq:q<(k7 mo.procs p).names.length
   rotate_left
   .obtain rfl:q=(k7 mo.procs p).names.length:=oJ
    rw[c4C]at b2;refine zY (V4 hQ cq hp) ?_;exact⟨b0,b1,b2,bg,bn,bl,bf⟩
   have AS:q<(k7 mo.procs p).vars.length:=by rw[<- jh.same];exact cq
   have hv8:W2 (k7 mo.procs p).vars q<32:=by
    have:=jh.var (W2 (k7 mo.procs p).vars q) (by rw[a4e AS];exact Fp AS);omega
   by_cases cw:sAt (k7 mo.procs p).names q=(nd mo.tree j).word 0
   .have uC:=b7K (v:=W2 (k7 mo.procs p).vars) (w:=(nd mo.tree j).word 0) EN cq (by rw[<- b4G cq];exact cw)
    rw[uC.1,Jo]at b2;have mW:=b5W (x:=F.reads) (n:=W2 (k7 mo.procs p).vars q) jy.r hv8;refine zY (U0 hQ cq AS hp kP kQ b2 (W0 bn mw cw on mW)) ?_;repeat' apply And.intro
    all_goals first|assumption|(rw[uC.2])|omega|(intro a ha;rw[Y8 oJ];exact bf a ha)
   .have uC:=b80 (v:=W2 (k7 mo.procs p).vars) (w:=(nd mo.tree j).word 0) cq (by rw[<- b4G cq];exact cw)
    rw[<- uC]at b2;refine zY (U0 hQ cq AS hp kP kQ b2 (V1 bn mw cw on)) ?_;repeat' apply And.intro
    all_goals first|assumption|omega
  rintro f s4 ⟨b0,b1,b2,bg,bn,bl,bf⟩;refine zY bn ?_;refine W6 [0,1,2,3,6,7,8,9,10,11,12,22,39,46,60,78,82,95,138] 0 mo.ae.length (λc f s'=>f 13=.int .i64 (c:Int)/\s'=s4) (.mk rfl) oJ ⟨rfl,rfl⟩ ?_;rintro c f s' hc ⟨hC,rfl⟩;by_cases cc:c<mo.ae.length
  .refine zY (X4 hC cc b0 bn om lL) ?_
   repeat' apply And.intro
   all_goals first|assumption|omega|(rw[ue];unfold a0S;rw[Fk kF];exact b2)
  .refine zY (X4 hC cc b0 bn om lL) ?_
   repeat' apply And.intro
   all_goals first|assumption|omega|(rw[ue];unfold a0S;rw[Fk kF];exact b2)
 by_cases kX:(nd mo.tree j).kind=19
 .rw[kX]at mw
  have mw:=mw dJ;refine zY (U0 hI ci g0 g1 g2 hg Bm (X4 rI lX on om kX mw)) ?_;rw[kX]at b0 b1 b2 bg bn bl bf;generalize(s2.push (.cells [.int .i64 0,.ag,.ag,.ag,.int .i64 0])).set s2.next (some (.cells [.int .i64 19,(nd mo.tree j).dw,(nd mo.tree j).dn,(nd mo.tree j).dk,.int .i64 (nd mo.tree j).pos]))=s3 at *;refine W6 [0,1,2,3,6,7,8,9,10,11,12,22,39,46,60,78,82,95,138] 0 mo.ae.length (λc f s'=>f 13=.int .i64 (c:Int)/\s'.get s.next=some (.cells [m.dt,.int .i64 m.g,m.dc,m.dv,m.dp,m.ds,.bool m.b])/\s'.get (s.next+1)=some (.cells [.int .u32 0,.int .u32 0,.int .u32 0,.int .u32 0,.int .u32 0,.bool false])/\s'.get (s.next+1+1)=some (.cells [.int .u32 (F.reads:Int),.int .u32 (F.writes:Int),.int .u32 (F.aW:Int),.int .u32 (F.aY:Int),.int .u32 ((F.aX ||| iK mo.ch (λi=>i) ((nd mo.tree j).word 0) c:Nat):Int),.bool F.part])/\s'.get id=some (.cells (a1f (List.range' k (b-k))))/\s'.get s2.next=some (.cells [.int .i64 19,(nd mo.tree j).dw,(nd mo.tree j).dn,(nd mo.tree j).dk,.int .i64 (nd mo.tree j).pos])/\s2.next<s'.next/\(∀a,a<s.next->s'.get a=s.get a)) (.mk rfl) oJ ⟨rfl,b0,b1,by rw[b96,Jo];exact b2,bg,bn,bl,bf⟩ ?_;clear b0 b1 b2 bg bn bl bf g0 g1 g2 hg;rintro c f s4 hc ⟨hC,b0,b1,b2,bg,bn,bl,bf⟩;have m2:=t3 b2;by_cases cc:c<mo.ae.length
  rotate_left
  .obtain rfl:c=mo.ae.length:=oJ
   rw[<- hchl,c86]at b2;refine zY (X4 hC cc b0 bn om lL) ?_;repeat' apply And.intro
   all_goals first|assumption|omega|(rw[ue];unfold a0S;rw[so kF,Fk kX];exact b2)
  have qK:c<mo.ch.length:=oJ;have rL:mo.ch[c]=(U7 mo.ae c).name:=by simp[Mo.ch,a2W cc]
  by_cases cw:(U7 mo.ae c).name=(nd mo.tree j).word 0
  .have uC:=b7K (v:=λi=>i) (w:=(nd mo.tree j).word 0) hcn qK (by rw[rL];exact cw)
   rw[uC.1,Jo]at b2;have mW:=b5W (x:=F.aX) (n:=c) jy.z oJ;refine zY (U0 hC cc b0 b2 bn mw cw (V1 on om lL mW)) ?_;repeat' apply And.intro
   all_goals first|assumption|(rw[uC.2])|omega|(intro a ha;rw[Y8 oJ];exact bf a ha)
  .have uC:=b80 (v:=λi=>i) (w:=(nd mo.tree j).word 0) qK (by rw[rL];exact cw)
   rw[<- uC]at b2;refine zY (U0 hC cc b0 b2 bn mw cw (V4 on om lL)) ?_;repeat' apply And.intro
   all_goals first|assumption|omega
 by_cases lT:(nd mo.tree j).kind=22
 .rw[lT]at n0
  have n0:=n0 dJ;have tW:=(iT.bin lT).2.2.2;refine zY (U0 hI ci g0 g1 g2 hg Bm (W0 rI lX on om lT)) ?_;rw[lT]at b0 b1 b2 bg bn bl bf;generalize(s2.push (.cells [.int .i64 0,.ag,.ag,.ag,.int .i64 0])).set s2.next (some (.cells [.int .i64 22,(nd mo.tree j).dw,(nd mo.tree j).dn,(nd mo.tree j).dk,.int .i64 (nd mo.tree j).pos]))=s3 at *;have l3:=t3 b2;by_cases c7:7<=(nd mo.tree j).num 0
  .refine W6 [0,1,2,3,6,7,8,9,10,11,12,22,39,46,60,78,82,95,138] 0 mo.ae.length (λc f s'=>f 13=.int .i64 (c:Int)/\s'=s3) (.mk rfl) oJ ⟨rfl,rfl⟩ ?_
   rintro c f s' hc ⟨hC,rfl⟩;by_cases cc:c<mo.ae.length
   .refine zY (U0 hC cc b0 b2 bn om lL (V4 n0 c7 on)) ?_
    repeat' apply And.intro
    all_goals first|assumption|omega|(rw[ue];unfold a0S;rw[so kF,so kX,Fk ⟨lT,oJ⟩];first|rfl|exact b2)|(intro a ha;rw[Y8 oJ];exact bf a ha)
   .refine zY (U0 hC cc b0 b2 bn om lL (V4 n0 c7 on)) ?_
    repeat' apply And.intro
    all_goals first|assumption|omega|(rw[ue];unfold a0S;rw[so kF,so kX,Fk ⟨lT,oJ⟩];first|rfl|exact b2)|(intro a ha;rw[Y8 oJ];exact bf a ha)
  .refine W6 [0,1,2,3,6,7,8,9,10,11,12,22,39,46,60,78,82,95,138] 0 mo.ae.length (λc f s'=>f 13=.int .i64 (c:Int)/\s'=s3) (.mk rfl) oJ ⟨rfl,rfl⟩ ?_
   rintro c f s' hc ⟨hC,rfl⟩;by_cases cc:c<mo.ae.length
   .refine zY (U0 hC cc b0 b2 bn om lL (V4 n0 c7 on)) ?_
    repeat' apply And.intro
    all_goals first|assumption|omega|(rw[ue];unfold a0S;rw[so kF,so kX,so oJ];first|rfl|exact b2)|(intro a ha;rw[Y8 oJ];exact bf a ha)
   .refine zY (U0 hC cc b0 b2 bn om lL (V4 n0 c7 on)) ?_
    repeat' apply And.intro
    all_goals first|assumption|omega|(rw[ue];unfold a0S;rw[so kF,so kX,so oJ];first|rfl|exact b2)|(intro a ha;rw[Y8 oJ];exact bf a ha)
 have k18:¬(nd mo.tree j).kind=18:=kF;refine zY (U0 hI ci g0 g1 g2 hg Bm (W0 rI lX on om kF)) ?_;generalize(s2.push (.cells [.int .i64 0,.ag,.ag,.ag,.int .i64 0])).set s2.next (some (.cells [.int .i64 (nd mo.tree j).kind,(nd mo.tree j).dw,(nd mo.tree j).dn,(nd mo.tree j).dk,.int .i64 (nd mo.tree j).pos]))=s3 at *;have l3:=t3 b2;refine W6 [0,1,2,3,6,7,8,9,10,11,12,22,39,46,60,78,82,95,138] 0 mo.ae.length (λc f s'=>f 13=.int .i64 (c:Int)/\s'=s3) (.mk rfl) oJ ⟨rfl,rfl⟩ ?_;rintro c f s' hc ⟨hC,rfl⟩;by_cases cc:c<mo.ae.length
 .refine zY (U0 hC cc b0 b2 bn om lL (aN kX lT)) ?_
  repeat' apply And.intro
  all_goals first|assumption|omega|(rw[ue];unfold a0S;rw[so kF,so kX,so (λh=>lT h.1)];first|rfl|exact b2)|(intro a ha;rw[Y8 oJ];exact bf a ha)
 .refine zY (U0 hC cc b0 b2 bn om lL (aN kX lT)) ?_
  repeat' apply And.intro
  all_goals first|assumption|omega|(rw[ue];unfold a0S;rw[so kF,so kX,so (λh=>lT h.1)];first|rfl|exact b2)|(intro a ha;rw[Y8 oJ];exact bf a ha)
structure MoW(mo:Mo):Prop where
 w:∀k,k<mo.tree.length->∃g b,a0z mo.tree g k=(b,true)/\b<=mo.tree.length
theorem c4Y(h:Y9 t):MoW (a20 t):=⟨λ_ hk=>c4y h hk⟩
theorem c7E(hm:Z4 m mo ps)(ho:Z3 mo)(hN:MoN mo)(hW:MoW mo)(hp:p<mo.procs.length){e:Ed}(he:e∈(k7 mo.procs p).ai):bz U5 119 [.agg [m.dt,.int .i64 m.g,m.dc,m.dv,m.dp,m.ds,.bool m.b],.int .i64 (p:Int),.agg [.int .i64 (e.aq:Int),.int .i64 (e.to:Int),.int .i64 (e.act:Int),.int .i64 e.expr,.int .i64 e.var,.int .i64 e.chan,.bool e.aG,.int .i64 (e.node:Int)]] (.agg (Z8 mo (k7 mo.procs p) e).row):=by
 have om:=hm.aw;have fm:=a3R hm;have jh:=ho.pr _ (a1S hp);have jx:=jh.inv.ed e he;have lD:=ho.nv;have nN:=ho.nc;refine a0l ?_;rw[b4P];have hex:(e.expr=-1/\a5C mo (k7 mo.procs p) e=⟨0,0,0,0,0,false⟩)\/∃k g b:Nat,e.expr=(k:Int)/\a0z mo.tree g k=(b,true)/\b<=mo.tree.length/\a5C mo (k7 mo.procs p) e=RF mo.tree mo.ch (bD (k7 mo.procs p).names (k7 mo.procs p).vars) k (b-k):=by
  by_cases c:e.act=0\/e.act=3
  .left
   have:=jx.gZ c;refine⟨this,?_⟩;unfold a5C;rw[so oJ]
  .right
   obtain⟨k,h1,h2,_⟩:=jx.eQ (by have:=jx.act;omega);obtain⟨g,b,h3,h4⟩:=hW.w k h2;refine⟨k,g,b,h1,h3,h4,?_⟩;unfold a5C;rw[Fk oJ,h1,an];exact(b9e h3 oJ _).symm
 have mW:∀n:Nat,n<32->bz U5 151 [.int .u32 0,.int .i64 (n:Int)] (.int .u32 ((2^n:Nat):Int)):=λn hn=>by
  have:=b5W (x:=0) (n:=n) dJ hn;rwa [Nat.zero_or]at this
 rcases hex with⟨x0,hF⟩|⟨k,g,b,hk,hw,hb,hF⟩
 .rw[hF]
  have ha:e.act=0\/e.act=3:=by
   by_cases c:e.act=0\/e.act=3
   .exact c
   .obtain⟨n,h1,_⟩:=jx.eQ (by have:=jx.act;omega)
    omega
  rcases ha with ha|ha
  .have e1:a4s e ⟨0,0,0,0,0,false⟩=⟨0,0,0,0,0,false⟩:=by unfold a4s;rw[so oJ,so oJ,so oJ]
   rw[e1];refine a0A (vf:=a75) rfl ?_;unfold a75;refine zF ?_;refine zY (V1 om fm x0 ha) ?_;first|rfl|trivial
  .obtain⟨v,hv,AD⟩:=jx.v1 (.inr ha)
   obtain⟨c,wJ,hc⟩:=jx.c1 (.inr ha);have AT:=jh.var v hv;have e1:a4s e ⟨0,0,0,0,0,false⟩=⟨0,2^v,0,2^c,0,false⟩:=by unfold a4s;rw[so oJ,so oJ,Fk ha,AD,wJ,a66,a66]
   rw[e1];have b1:=mW v oJ;have b2:=mW c oJ;refine a0A (vf:=a75) rfl ?_;unfold a75;refine zF ?_;refine zY (U0 om fm x0 ha AD wJ b1 b2) ?_;first|rfl|trivial
 .have ha:e.act=1\/e.act=2\/e.act=4\/e.act=5:=by
   by_cases c:e.act=0\/e.act=3
   .have:=jx.gZ c
    omega
   .have:=jx.act;omega
  have oQ:(0:Int)<=(k:Int):=oJ;rw[hF];refine a0A (vf:=a75) rfl ?_;unfold a75;refine zF ?_;refine zY (W0 om fm hk hp oQ) ?_;refine a0M (c8v hm ho hN hp hw hb) rfl ?_;rintro r s1 ⟨rfl,fr⟩;have l1:=fr.1;simp only[k4.aj,k4.au,Y3,Nat.reduceAdd]at l1;have g1:s1.get 1=some (.cells [.int .i64 (e.aq:Int),.int .i64 (e.to:Int),.int .i64 (e.act:Int),.int .i64 e.expr,.int .i64 e.var,.int .i64 e.chan,.bool e.aG,.int .i64 (e.node:Int)]):=by rw[fr.2 _ (by simp[Y3]) sJ];exact zZ hk
  have g2:s1.get 2=some (.cells [.int .u32 0,.int .u32 0,.int .u32 0,.int .u32 0,.int .u32 0,.bool false]):=by rw[fr.2 _ (by simp[Y3]) sJ];exact bB
  have g3:s1.get 3=some (.cells [.int .u32 0,.int .u32 0,.int .u32 0,.int .u32 0,.int .u32 0,.bool false]):=by rw[fr.2 _ (by simp[Y3]) sJ];exact bB
  generalize RF mo.tree mo.ch (bD (k7 mo.procs p).names (k7 mo.procs p).vars) k (b-k)=F at *;unfold Ft.row;rcases ha with ha|ha|ha|ha
  .obtain⟨v,hv,AD⟩:=jx.v1 (.inl ha)
   have AT:=jh.var v hv;have b1:=mW v oJ;have e1:a4s e F={ F with writes:=2^v }:=by unfold a4s;rw[Fk ha,AD,a66]
   rw[e1];refine zY (X4 g1 g2 g3 ha AD b1) ?_;first|rfl|trivial
  .obtain⟨c,wJ,hc⟩:=jx.c1 (.inl ha)
   have b1:=mW c oJ;have e1:a4s e F={ F with aW:=2^c }:=by unfold a4s;rw[so oJ,Fk ha,wJ,a66]
   rw[e1];refine zY (X4 g1 g2 g3 ha wJ b1) ?_;first|rfl|trivial
  .have e1:a4s e F=F:=by unfold a4s;rw[so oJ,so oJ,so oJ]
   rw[e1];refine zY (V1 g1 g2 g3 ha) ?_;first|rfl|trivial
  .have e1:a4s e F=F:=by unfold a4s;rw[so oJ,so oJ,so oJ]
   rw[e1];refine zY (V1 g1 g2 g3 ha) ?_;first|rfl|trivial
def a5h(p:Pr)(s:Nat):Bool:=(List.range 32).all λb=>!s.testBit b||decide (b∈p.locals)
theorem c60{p:Pr}{f:Ft}:a9x p f=(a5h p f.reads&&a5h p f.writes):=by
 unfold a9x a5h;rw[FV,Fo,FZ,FZ,FZ];constructor
 .intro h
  refine⟨λb hb=>?_,λb hb=>?_⟩
  .have:=h b hb
   rw[IA]at this;cases c:f.reads.testBit b
   .rfl
   .rw[c]at this
    simpa using this
  .have:=h b hb
   rw[IA]at this;cases c:f.writes.testBit b
   .rfl
   .rw[c]at this
    simpa using this
 .rintro⟨h1,h2⟩ b hb
  have a1:=h1 b hb;have a2:=h2 b hb;rw[IA];cases c:f.reads.testBit b
  .cases c2:f.writes.testBit b
   .rfl
   .rw[c2]at a2
    simpa using a2
  .rw[c]at a1
   simpa using a1
theorem b8P(hm:Z4 m mo ps)(ho:Z3 mo)(hq:MoQ mo)(hp:p<mo.procs.length)(hn:n<4294967296):bz U5 120 [.agg [.str (k7 mo.procs p).name,.int .i64 ((k7 mo.procs p).copy:Int),(V8 ps p).dl,.int .i64 ((k7 mo.procs p).ah:Int),(V8 ps p).dr,(V8 ps p).de,(V8 ps p).dn,(V8 ps p).dv],.int .u32 (n:Int)] (.bool (a5h (k7 mo.procs p) n)):=by
 have ky:=(a47 hm hp).l;have nJ:=hq.ll p hp;have lD:=ho.nv;refine a0l ?_;refine a0A (vf:=b4d) rfl ?_;unfold b4d;refine zF ?_;refine V9 ?_;have jV:Hp (k4.empty.push (.cells [.str (k7 mo.procs p).name,.int .i64 ((k7 mo.procs p).copy:Int),(V8 ps p).dl,.int .i64 ((k7 mo.procs p).ah:Int),(V8 ps p).dr,(V8 ps p).de,(V8 ps p).dn,(V8 ps p).dv])) [] [(0,[.str (k7 mo.procs p).name,.int .i64 ((k7 mo.procs p).copy:Int),(V8 ps p).dl,.int .i64 ((k7 mo.procs p).ah:Int),(V8 ps p).dr,(V8 ps p).de,(V8 ps p).dn,(V8 ps p).dv])]:=⟨Hk,sJ,by simp[Y2],by simp[Y2];simp(disch:=(first|exact Rf.mk rfl|with_reducible assumption|omega|((repeat(first|rw[nP]|rw[nS]|rw[Y3]))<;>omega)|decide)) only[go_sem,↓reduceIte]⟩
 generalize k4.empty.push (.cells [.str (k7 mo.procs p).name,.int .i64 ((k7 mo.procs p).copy:Int),(V8 ps p).dl,.int .i64 ((k7 mo.procs p).ah:Int),(V8 ps p).dr,(V8 ps p).de,(V8 ps p).dn,(V8 ps p).dv])=s0 at *;have g0:=jV.rh;refine W6 [0,1,2] 0 32 (λv f s=>f 5=.int .i64 (v:Int)/\s=s0/\∀b,b<v->n.testBit b=true->b∈(k7 mo.procs p).locals) (.mk rfl) oJ ⟨rfl,rfl,λb h=>by omega⟩ ?_;rintro v f s hv ⟨hV,rfl,iR⟩;by_cases cv:v<32
 rotate_left
 .have e:a5h (k7 mo.procs p) n=true:=by
   unfold a5h;rw[FZ];intro b hb;have hb:=FU.1 hb;cases c:n.testBit b
   .rfl
   .simp[iR b oJ c]
  rw[e];have AR:¬(v:Int)<32:=oJ;exact zZ (aN hV AR)
 have AR:(v:Int)<32:=oJ;have h1:=c2o (x:=n) cv;have h2:=b6M (n:=v) hn;cases hb:n.testBit v
 .rw[hb]at h2
  simp only[Fw,FF]at h2;refine zY (V1 hV AR h1 h2) ?_;refine⟨cv,λb qG pZ=>?_⟩;by_cases e:b=v
  .subst e;rw[hb]at pZ;cases pZ
  .exact iR b oJ pZ
 rw[hb]at h2;simp only[FG]at h2;refine zY (V1 hV AR h1 h2) ?_;refine a1d [0,1,2,4,5,9,16,35] (λf s'=>f 6=.bool (decide (v∈(k7 mo.procs p).locals))/\s'=s) ?_ ?_
 .refine W6 [0,1,2,4,5,9,16,35] 0 (k7 mo.procs p).locals.length (λi f s'=>f 7=.int .i64 (i:Int)/\f 6=.bool (decide (v∈(k7 mo.procs p).locals.take i))/\s'=s) (.mk rfl) oJ ⟨rfl,by rw[List.take_zero,FP FW];rfl,rfl⟩ ?_
  rintro i f s' hi ⟨hI,hK,rfl⟩;by_cases ci:i<(k7 mo.procs p).locals.length
  rotate_left
  .obtain rfl:i=(k7 mo.procs p).locals.length:=oJ
   rw[Gf]at hK;exact zZ (W0 hI hK ci g0 ky)
  have lY:(k7 mo.procs p).locals.take (i+1)=(k7 mo.procs p).locals.take i++[W2 (k7 mo.procs p).locals i]:=by rw[FO ci,a4e ci]
  by_cases ck:v∈(k7 mo.procs p).locals.take i
  .rw[FN ck]at hK
   refine zY (W0 hI hK ci g0 ky) ?_;rw[lY];simp[ck]
  .rw[FP ck]at hK
   by_cases ce:W2 (k7 mo.procs p).locals i=v
   .refine zY (X0 hV hI hK ci g0 ky ce) ?_
    rw[lY];simp[ce]
   .refine zY (X0 hV hI hK ci g0 ky ce) ?_
    rw[lY];simp[ck];exact λh=>ce h.symm
 rintro f s' ⟨hK,rfl⟩;by_cases cm:v∈(k7 mo.procs p).locals
 .rw[FN cm]at hK
  refine zY (aN hV hK) ?_;refine⟨cv,λb qG pZ=>?_⟩;by_cases e:b=v
  .subst e;exact cm
  .exact iR b oJ pZ
 .rw[FP cm]at hK
  have e:a5h (k7 mo.procs p) n=false:=by
   cases h:a5h (k7 mo.procs p) n
   .rfl
   .unfold a5h at h
    have:=FZ.1 h v (FU.2 cv);rw[hb]at this;simp[cm]at this
  rw[e];exact zZ (aN hV hK)
end Go.Proofs.YtigbmclkjknnjaaGreat
namespace Go.V
def a4B(L:List Ed):Nat:=(L.filter λe=>decide (e.act<=1)).length
def a29(L:List Ed):Int:=if 0<L.length/\(V3 L 0).act=4 then(V3 L 0).expr else -1
def a3T(L:List Ed):Int:=if 1<L.length/\(V3 L 1).act=5 then(V3 L 1).expr else -1
variable{l:List Ed}{i:Nat}
theorem b7s{r:List Ed}(h:i<l.length):V3 (l++r) i=V3 l i:=by
 rw[a5H h,a5H qJ,GZ h]
theorem c18{e:Ed}(h:i=l.length):V3 (l++[e]) i=e:=by
 grind[a5H]
variable{L:List Ed}
theorem c4g{e:Ed}:a4B (L++[e])=a4B L+if e.act<=1 then 1 else 0:=by
 grind[a4B]
theorem c6k{e:Ed}:a29 (L++[e])=if L.length=0 then(if e.act=4 then e.expr else -1)else a29 L:=by
 unfold a29;by_cases c:L.length=0
 .rw[Fk c,c18 c.symm]
  simp
 .rw[so c,b7s oJ]
  grind
theorem c5u{e:Ed}:a3T (L++[e])=if L.length=1 then(if e.act=5 then e.expr else -1)else a3T L:=by
 unfold a3T;by_cases c:L.length=1
 .simp_all[c18]
 .rw[so c]
  by_cases c2:L.length=0
  .grind
  .rw[b7s oJ]
   grind
theorem c3O:a4B L<=L.length:=Hj _ _
theorem c30:a6l L=(decide (0<L.length)&&decide (a4B L=L.length)):=by
 unfold a6l a4B;rw[Bool.and_comm];congr 1
 rw[FV,Fy,List.length_filter_eq_length_iff,FZ]
variable{p:Pr}
theorem c6n{mo:Mo}(hp:a7b mo p){L:List Ed}(hL:∀e∈L,e∈p.ai):dO L=(decide (L.length=2)&&decide (0<=a29 L)&&decide (a29 L=a3T L)):=by
 unfold dO a29 a3T;by_cases c:L.length=2
 .have h0:=hL _ (a3U (l:=L) (i:=0) oJ)
  have h1:=hL _ (a3U (l:=L) (i:=1) oJ);by_cases a0:(V3 L 0).act=4
  .obtain⟨n,hn,_⟩:=(hp.inv.ed _ h0).eQ oJ
   grind
  .simp[c,a0]
 .simp[c]
theorem c49{ch:List ByteArray}(h:ch.length<=3)(w:ByteArray):iH ch w<8:=by
 unfold iH;split
 .have:a2r ch w=0\/a2r ch w=1\/a2r ch w=2:=oJ
  grind
 .decide
theorem b8z{t:List Nd}{ch:List ByteArray}{vb:ByteArray->Nat}(h:ch.length<=3){k:Nat}:∀i,(RF t ch vb k i).aX<8/\(RF t ch vb k i).aW=0/\(RF t ch vb k i).aY=0
 |0=>⟨(by decide:(0:Nat)<8),rfl,rfl⟩
 |i+1=>by
  have ih:=b8z (t:=t) (vb:=vb) h (k:=k) i;rw[b4N];unfold a0S;split
  .exact ih
  split
  .exact⟨Nat.or_lt_two_pow (n:=3) ih.1 (c49 h _),ih.2.1,ih.2.2⟩
  grind
theorem c7r{k j:Nat}{e:Ed}(h:e∈cG p k j):e∈p.ai:=Gh (Gu.1 h).1
end Go.V
namespace Go.Proofs.YtigbmclkjknnjaaGreat
open Go.V
variable{mo:Mo}
theorem c82(ho:Z3 mo)(hW:MoW mo){p:Pr}(hp:a7b mo p){e:Ed}(he:e∈p.ai):(Z8 mo p e).aX<8/\(Z8 mo p e).aW<=4/\(Z8 mo p e).aY<=4:=by
 have jx:=hp.inv.ed e he;have nN:=ho.nc;have hx:(a5C mo p e).aX<8/\(a5C mo p e).aW=0/\(a5C mo p e).aY=0:=by
  unfold a5C;split
  .have hc:e.act=1\/e.act=2\/e.act=4\/e.act=5:=by
    by_cases c:e.act=0\/e.act=3
    .have:=jx.gZ c;omega
    .have:=jx.act;omega
   obtain⟨k,h1,h2,_⟩:=jx.eQ hc;obtain⟨g,b,h3,h4⟩:=hW.w k h2;rw[h1,an,<- b9e h3 oJ];exact b8z (sU nN) _
  .exact⟨(by decide:(0:Nat)<8),rfl,rfl⟩
 have h4:∀c:Nat,c<mo.ae.length->a14 (c:Int)<=4:=λc hc=>by
  rw[a66];have:c=0\/c=1\/c=2:=oJ;rcases this with h|h|h<;>rw[h]<;>decide
 rw[b4P];unfold a4s;split
 .exact⟨hx.1,by simp only;omega,by simp only;omega⟩
 split
 .rename_i a
  obtain⟨c,h1,h2⟩:=jx.c1 (.inl a);refine⟨hx.1,?_,by simp only;omega⟩;simp only;rw[h1];exact h4 c h2
 split
 .rename_i a
  obtain⟨c,h1,h2⟩:=jx.c1 (.inr a);refine⟨hx.1,by simp only;omega,?_⟩;simp only;rw[h1];exact h4 c h2
 .exact⟨hx.1,oJ,oJ⟩
variable{p:Nat}{m:X7}{ps:List (Pr×X2)}
theorem pz_pr(hm:Z4 m mo ps)(hp:p<mo.procs.length):PZ (.agg [.str (k7 mo.procs p).name,.int .i64 ((k7 mo.procs p).copy:Int),(V8 ps p).dl,.int .i64 ((k7 mo.procs p).ah:Int),(V8 ps p).dr,(V8 ps p).de,(V8 ps p).dn,(V8 ps p).dv]):=a7R λd hd=>by
 have h:=a47 hm hp;simp only[Fi,FW,Hg]at hd;rcases hd with rfl|rfl|rfl|rfl|rfl|rfl|rfl|rfl
 .exact⟨rfl,λ_ _=>rfl⟩
 .exact⟨rfl,λ_ _=>rfl⟩
 .exact⟨h.l.pure,FL.ic h.l⟩
 .exact⟨rfl,λ_ _=>rfl⟩
 .exact⟨h.r.pure,FL.ic h.r⟩
 .exact⟨h.e.pure,FL.ic h.e⟩
 .exact⟨h.n.pure,FL.ic h.n⟩
 .exact⟨h.v.pure,FL.ic h.v⟩
theorem c50(hm:Z4 m mo ps)(ho:Z3 mo)(hq:MoQ mo)(hN:MoN mo)(hW:MoW mo){k:Nat}(hp:p<mo.procs.length):bz U5 73 [.agg [m.dt,.int .i64 m.g,m.dc,m.dv,m.dp,m.ds,.bool m.b],.int .i64 (p:Int),.int .i64 (k:Int)] (.bool (mo.quiet p k)):=by
 have om:=hm.aw;have fm:=a3R hm;have jh:=ho.pr _ (a1S hp);have mO:=jh.el;have c1:¬mo.procs.length<=p:=oJ;have ou:PZ (.agg [.str (k7 mo.procs p).name,.int .i64 ((k7 mo.procs p).copy:Int),(V8 ps p).dl,.int .i64 ((k7 mo.procs p).ah:Int),(V8 ps p).dr,(V8 ps p).de,(V8 ps p).dn,(V8 ps p).dv]):=pz_pr hm hp;refine a0l ?_;refine a0A (vf:=vf73) rfl ?_;unfold vf73;refine zF ?_;refine zY (V4 om hp c1) ?_;have jV:Hp (((k4.empty.push (.cells [m.dt,.int .i64 m.g,m.dc,m.dv,m.dp,m.ds,.bool m.b])).push (.cells [.str (bs []),.int .i64 0,.ag,.int .i64 0,.ag,.ag,.ag,.ag])).set 1 (some (.cells [.str (k7 mo.procs p).name,.int .i64 ((k7 mo.procs p).copy:Int),(V8 ps p).dl,.int .i64 ((k7 mo.procs p).ah:Int),(V8 ps p).dr,(V8 ps p).de,(V8 ps p).dn,(V8 ps p).dv]))) [] [(0,[m.dt,.int .i64 m.g,m.dc,m.dv,m.dp,m.ds,.bool m.b]),(1,[.str (k7 mo.procs p).name,.int .i64 ((k7 mo.procs p).copy:Int),(V8 ps p).dl,.int .i64 ((k7 mo.procs p).ah:Int),(V8 ps p).dr,(V8 ps p).de,(V8 ps p).dn,(V8 ps p).dv])]:=⟨Hk,sJ,by simp[Y2],by
  intro y hy;simp only[Fi,FW,Hg]at hy;rcases hy with rfl|rfl
  .exact bB
  .simp(disch:=(first|exact Rf.mk rfl|with_reducible assumption|omega|((repeat(first|rw[nP]|rw[nS]|rw[Y3]))<;>omega)|decide)) only[go_sem,↓reduceIte]⟩
 generalize((k4.empty.push (.cells [m.dt,.int .i64 m.g,m.dc,m.dv,m.dp,m.ds,.bool m.b])).push (.cells [.str (bs []),.int .i64 0,.ag,.int .i64 0,.ag,.ag,.ag,.ag])).set 1 (some (.cells [.str (k7 mo.procs p).name,.int .i64 ((k7 mo.procs p).copy:Int),(V8 ps p).dl,.int .i64 ((k7 mo.procs p).ah:Int),(V8 ps p).dr,(V8 ps p).de,(V8 ps p).dn,(V8 ps p).dv]))=s0 at *;have g0:s0.get 0=some (.cells [m.dt,.int .i64 m.g,m.dc,m.dv,m.dp,m.ds,.bool m.b]):=jV.r (0,_) sJ;have g1:s0.get 1=some (.cells [.str (k7 mo.procs p).name,.int .i64 ((k7 mo.procs p).copy:Int),(V8 ps p).dl,.int .i64 ((k7 mo.procs p).ah:Int),(V8 ps p).dr,(V8 ps p).de,(V8 ps p).dn,(V8 ps p).dv]):=jV.r (1,_) sJ;refine W6 [0,1,2,3,7,23] 0 (k7 mo.procs p).ai.length (λj f s=>f 12=.int .i64 (j:Int)/\f 8=.int .i64 ((cG (k7 mo.procs p) k j).length:Int)/\f 9=.int .i64 (a4B (cG (k7 mo.procs p) k j):Int)/\f 10=.int .i64 (a29 (cG (k7 mo.procs p) k j))/\f 11=.int .i64 (a3T (cG (k7 mo.procs p) k j))/\(∀q,q<j->(V3 (k7 mo.procs p).ai q).aq=k->a2z mo (k7 mo.procs p) (V3 (k7 mo.procs p).ai q)=true)/\s.get 0=some (.cells [m.dt,.int .i64 m.g,m.dc,m.dv,m.dp,m.ds,.bool m.b])/\s.get 1=some (.cells [.str (k7 mo.procs p).name,.int .i64 ((k7 mo.procs p).copy:Int),(V8 ps p).dl,.int .i64 ((k7 mo.procs p).ah:Int),(V8 ps p).dr,(V8 ps p).de,(V8 ps p).dn,(V8 ps p).dv])) (.mk rfl) oJ ⟨rfl,rfl,rfl,rfl,rfl,λq h=>by omega,g0,g1⟩ ?_;clear g0 g1 jV;rintro j f s hj ⟨hE,h8,h9,nh,oW,iR,g0,g1⟩;have l0:=t3 g0;have l1:=t3 g1;have nJ:=b4u (k7 mo.procs p) k j;have mG:=c3O (L:=cG (k7 mo.procs p) k j);by_cases cj:j<(k7 mo.procs p).ai.length
 rotate_left
 .obtain rfl:j=(k7 mo.procs p).ai.length:=oJ
  have hyes:=b7U (mo:=mo) (k:=k) hp λe he hk=>by
   obtain⟨q,hq,rfl⟩:=FQ he;rw[<- a5H hq]at hk⊢;exact iR q hq hk
  rw[hyes,<- b34,c30,c6n jh λe he=>c7r he];generalize cG (k7 mo.procs p) k (k7 mo.procs p).ai.length=L at *;have hle:=c0m hm hp;by_cases c0:L.length=0
  .have c1:a4B L=0:=oJ
   rw[c0]at h8;rw[c1]at h9;have e0:decide (0<L.length)=false:=by rw[c0];rfl
   have e2:decide (L.length=2)=false:=by rw[c0];rfl
   rw[e0,e2,FY,FY,FY,HC];exact zZ (U0 hE h8 h9 nh oW om g0 (aN g1 hle))
  have rT:(0:Int)<(L.length:Int):=oJ;have e0:decide (0<L.length)=true:=FN oJ;rw[e0];by_cases cs:a4B L=L.length
  .rw[FN cs]
   rw[cs]at h9;exact zZ (U0 hE h8 h9 nh oW om g0 (V4 g1 hle rT))
  have qn:¬(a4B L:Int)=(L.length:Int):=oJ;rw[FP cs];by_cases c2:L.length=2
  rotate_left
  .have km:¬(L.length:Int)=2:=oJ
   rw[FP c2,FY,FY,Gs,HC];exact zZ (U0 hE h8 h9 nh oW om g0 (W0 g1 hle rT qn km))
  rw[c2]at h8;have qn:¬(a4B L:Int)=2:=oJ;rw[Gs,HC,FN c2];by_cases c3:0<=a29 L
  rotate_left
  .rw[FP c3,Gs,FY]
   exact zZ (U0 hE h8 h9 nh oW om g0 (V1 g1 hle qn c3))
  rw[FN c3];by_cases c4:a29 L=a3T L
  .rw[FN c4]
   rw[c4]at nh c3;rw[GC,GC];exact zZ (U0 hE h8 h9 nh oW om g0 (V1 g1 hle qn c3))
  .rw[FP c4,Gs]
   exact zZ (U0 hE h8 h9 nh oW om g0 (W0 g1 hle qn c3 c4))
 have qX:=c0t (k:=k) cj;have kj:=a3U cj;have hll':=jh.el;by_cases cf:(V3 (k7 mo.procs p).ai j).aq=k
 rotate_left
 .rw[so cf,Fl]at qX
  refine zY (U0 hE h8 h9 nh oW om g0 (V4 g1 cj cf)) ?_;rw[qX];refine⟨rfl,rfl,rfl,rfl,λq hq hf=>?_⟩;by_cases eq:q=j
  .subst eq;exact absurd hf cf
  .exact iR q oJ hf
 rw[Fk cf]at qX;have jx:=jh.inv.ed _ kj;have hb:=c7E hm ho hN hW hp kj;obtain⟨_,jD⟩:=c0B hm ho hp cj;obtain⟨k1,k2,k3⟩:=c82 ho hW jh kj;have kR:IntKind.u32.wrap (((Z8 mo (k7 mo.procs p) (V3 (k7 mo.procs p).ai j)).aW:Int)+((Z8 mo (k7 mo.procs p) (V3 (k7 mo.procs p).ai j)).aY:Int))=(((Z8 mo (k7 mo.procs p) (V3 (k7 mo.procs p).ai j)).aW+(Z8 mo (k7 mo.procs p) (V3 (k7 mo.procs p).ai j)).aY:Nat):Int):=by
  rw[IJ];omega
 have mq:IntKind.u32.wrap ((((Z8 mo (k7 mo.procs p) (V3 (k7 mo.procs p).ai j)).aW+(Z8 mo (k7 mo.procs p) (V3 (k7 mo.procs p).ai j)).aY:Nat):Int)+((Z8 mo (k7 mo.procs p) (V3 (k7 mo.procs p).ai j)).aX:Int))=(((Z8 mo (k7 mo.procs p) (V3 (k7 mo.procs p).ai j)).aW+(Z8 mo (k7 mo.procs p) (V3 (k7 mo.procs p).ai j)).aY+(Z8 mo (k7 mo.procs p) (V3 (k7 mo.procs p).ai j)).aX:Nat):Int):=by
  rw[IJ];omega
 have qW:=b8P hm ho hq hp jD.r;have ux:=b8P hm ho hq hp jD.w;have lF:=c60 (p:=k7 mo.procs p) (f:=Z8 mo (k7 mo.procs p) (V3 (k7 mo.procs p).ai j));have pe:=b6p (e:=V3 (k7 mo.procs p).ai j);unfold Ft.row at hb;have no:a2z mo (k7 mo.procs p) (V3 (k7 mo.procs p).ai j)=false->mo.quiet p k=false:=c1l kj cf;rw[cf]at hb pe;by_cases qk:(V3 (k7 mo.procs p).ai j).aG=true
 .rw[no (by unfold a2z;rw[qk];rfl)]
  rw[qk]at hb pe;exact zZ (U0 hE om fm g0 g1 cj cf (V4 pe hb qk))
 have qk:(V3 (k7 mo.procs p).ai j).aG=false:=sU qk;rw[qk]at hb pe;by_cases qp:(Z8 mo (k7 mo.procs p) (V3 (k7 mo.procs p).ai j)).part=true
 .rw[no (by unfold a2z;rw[qp];simp)]
  rw[qp]at hb;exact zZ (U0 hE om fm g0 g1 cj cf (V4 pe hb qk))
 have qp:(Z8 mo (k7 mo.procs p) (V3 (k7 mo.procs p).ai j)).part=false:=sU qp;rw[qp]at hb;by_cases qz:(Z8 mo (k7 mo.procs p) (V3 (k7 mo.procs p).ai j)).aW+(Z8 mo (k7 mo.procs p) (V3 (k7 mo.procs p).ai j)).aY+(Z8 mo (k7 mo.procs p) (V3 (k7 mo.procs p).ai j)).aX=0
 rotate_left
 .rw[no (by unfold a2z;by_cases a:(Z8 mo (k7 mo.procs p) (V3 (k7 mo.procs p).ai j)).aW=0<;>by_cases b:(Z8 mo (k7 mo.procs p) (V3 (k7 mo.procs p).ai j)).aY=0<;>by_cases c:(Z8 mo (k7 mo.procs p) (V3 (k7 mo.procs p).ai j)).aX=0<;>simp[a,b,c]<;>omega)]
  have qz':(0:Int)<(((Z8 mo (k7 mo.procs p) (V3 (k7 mo.procs p).ai j)).aW+(Z8 mo (k7 mo.procs p) (V3 (k7 mo.procs p).ai j)).aY+(Z8 mo (k7 mo.procs p) (V3 (k7 mo.procs p).ai j)).aX:Nat):Int):=oJ;exact zZ (U0 hE om fm g0 g1 cj cf (X4 pe hb qk kR mq qz'))
 rw[qz]at mq;by_cases ql:a5h (k7 mo.procs p) (Z8 mo (k7 mo.procs p) (V3 (k7 mo.procs p).ai j)).reads=true
 rotate_left
 .have ql:a5h (k7 mo.procs p) (Z8 mo (k7 mo.procs p) (V3 (k7 mo.procs p).ai j)).reads=false:=by simpa using ql
  rw[no (by unfold a2z;rw[lF,ql];simp)];rw[ql]at qW;exact zZ (U0 hE om fm g0 g1 cj cf (X0 pe hb qk kR mq ou qW))
 rw[ql]at qW;by_cases qm:a5h (k7 mo.procs p) (Z8 mo (k7 mo.procs p) (V3 (k7 mo.procs p).ai j)).writes=true
 rotate_left
 .have qm:a5h (k7 mo.procs p) (Z8 mo (k7 mo.procs p) (V3 (k7 mo.procs p).ai j)).writes=false:=by simpa using qm
  rw[no (by unfold a2z;rw[lF,qm];simp)];rw[qm]at ux;exact zZ (U0 hE om fm g0 g1 cj cf (U0 pe hb qk kR mq ou qW ux))
 rw[qm]at ux;by_cases qt:(V3 (k7 mo.procs p).ai j).to=1\/k<(V3 (k7 mo.procs p).ai j).to
 rotate_left
 .rw[no (by unfold a2z;rw[cf];simp;omega)]
  have t1:¬((V3 (k7 mo.procs p).ai j).to:Int)=1:=oJ;have t2:(V3 (k7 mo.procs p).ai j).to<=k:=oJ;exact zZ (U0 hE om fm g0 g1 cj cf (U0 pe hb qk kR mq ou qW (V4 ux t1 t2)))
 have tP:a2z mo (k7 mo.procs p) (V3 (k7 mo.procs p).ai j)=true:=by
  unfold a2z;rw[lF,ql,qm,qk,qp,cf];simp;omega
 have hL:(cG (k7 mo.procs p) k (j+1)).length=(cG (k7 mo.procs p) k j).length+1:=by rw[qX];simp
 have hS:a4B (cG (k7 mo.procs p) k (j+1))=a4B (cG (k7 mo.procs p) k j)+if(V3 (k7 mo.procs p).ai j).act<=1 then 1 else 0:=by rw[qX,c4g]
 have xA:a29 (cG (k7 mo.procs p) k (j+1))=if(cG (k7 mo.procs p) k j).length=0 then(if(V3 (k7 mo.procs p).ai j).act=4 then(V3 (k7 mo.procs p).ai j).expr else -1)else a29 (cG (k7 mo.procs p) k j):=by rw[qX,c6k]
 have hO:a3T (cG (k7 mo.procs p) k (j+1))=if(cG (k7 mo.procs p) k j).length=1 then(if(V3 (k7 mo.procs p).ai j).act=5 then(V3 (k7 mo.procs p).ai j).expr else -1)else a3T (cG (k7 mo.procs p) k j):=by rw[qX,c5u]
 have pH:∀q,q<j+1->(V3 (k7 mo.procs p).ai q).aq=k->a2z mo (k7 mo.procs p) (V3 (k7 mo.procs p).ai q)=true:=λq hq hf=>by
  by_cases eq:q=j
  .subst eq;exact tP
  .exact iR q oJ hf
 clear qX iR;have pV:=jx.act;have w0:(cG (k7 mo.procs p) k j).length=0->a29 (cG (k7 mo.procs p) k j)=-1:=λh=>by unfold a29;rw[so oJ]
 have w1:(cG (k7 mo.procs p) k j).length<=1->a3T (cG (k7 mo.procs p) k j)=-1:=λh=>by unfold a3T;rw[so oJ]
 generalize cG (k7 mo.procs p) k j=L at *;obtain⟨a,ha,hai⟩:∃a:Int,((V3 (k7 mo.procs p).ai j).act:Int)=a/\(a=0\/a=1\/a=2\/a=3\/a=4\/a=5):=⟨_,rfl,oJ⟩
 have hS:a4B (cG (k7 mo.procs p) k (j+1))=a4B L+if a<=1 then 1 else 0:=by
  rw[hS];congr 1;by_cases c:a<=1
  .rw[Fk c,Fk oJ]
  .rw[so c,so oJ]
 have e4:(V3 (k7 mo.procs p).ai j).act=4↔a=4:=oJ;have e5:(V3 (k7 mo.procs p).ai j).act=5↔a=5:=oJ;simp only[e4,e5]at xA hO;rw[ha]at hb pe;by_cases t1:((V3 (k7 mo.procs p).ai j).to:Int)=1
 rotate_left
 have t2:¬(V3 (k7 mo.procs p).ai j).to<=k:=oJ;rotate_left
 have t2:=t1;rw[t1]at hb pe
 all_goals
  rcases(show(a=0\/a=1\/a=2\/a=3)\/a=4\/a=5 by omega)with ha3|rfl|rfl
  .have vZ:a29 (cG (k7 mo.procs p) k (j+1))=a29 L:=by
    rw[xA];by_cases c:L.length=0
    .rw[Fk c,so oJ,w0 c]
    .rw[so c]
   have uP:a3T (cG (k7 mo.procs p) k (j+1))=a3T L:=by
    rw[hO];by_cases c:L.length=1
    .rw[Fk c,so oJ,w1 oJ]
    .rw[so c]
   rcases ha3 with rfl|rfl|rfl|rfl<;>(simp(disch:=(first|exact Rf.mk rfl|with_reducible assumption|omega|((repeat(first|rw[nP]|rw[nS]|rw[Y3]))<;>omega)|decide)) only[go_sem,↓reduceIte,hE,h8,h9,nh,oW,om,fm,g0,g1,cj,cf,pe,hb,qk,kR,mq,ou,qW,ux,t1,t2,ha])<;>(repeat' apply And.intro)<;>first|exact pH|(rw[hL];omega)|(rw[hL];done)|(rw[hS];simp;done)|(rw[vZ];done)|(rw[uP];done)
  .have uP:a3T (cG (k7 mo.procs p) k (j+1))=a3T L:=by
    rw[hO];by_cases c:L.length=1
    .rw[Fk c,so oJ,w1 oJ]
    .rw[so c]
   by_cases l0:L.length=0
   .have vZ:a29 (cG (k7 mo.procs p) k (j+1))=(V3 (k7 mo.procs p).ai j).expr:=by rw[xA,Fk l0,Fk rfl]
    rw[l0]at h8 hL
    (simp(disch:=(first|exact Rf.mk rfl|with_reducible assumption|omega|((repeat(first|rw[nP]|rw[nS]|rw[Y3]))<;>omega)|decide)) only[go_sem,↓reduceIte,hE,h8,h9,nh,oW,om,fm,g0,g1,cj,cf,pe,hb,qk,kR,mq,ou,qW,ux,t1,t2,ha])<;>(repeat' apply And.intro)<;>first|exact pH|(rw[hL];omega)|(rw[hL];done)|(rw[hS];simp;done)|(rw[vZ];done)|(rw[uP];done)
   have vZ:a29 (cG (k7 mo.procs p) k (j+1))=a29 L:=by rw[xA,so l0]
   have n1:¬L.length+1=1:=oJ;have n2:¬((L.length+1:Nat):Int)=1:=oJ;have n3:¬(L.length:Int)+1=1:=oJ
   (simp(disch:=(first|exact Rf.mk rfl|with_reducible assumption|omega|((repeat(first|rw[nP]|rw[nS]|rw[Y3]))<;>omega)|decide)) only[go_sem,↓reduceIte,hE,h8,h9,nh,oW,om,fm,g0,g1,cj,cf,pe,hb,qk,kR,mq,ou,qW,ux,t1,t2,ha,n1,n2,n3])<;>(repeat' apply And.intro)<;>first|exact pH|(rw[hL];omega)|(rw[hL];done)|(rw[hS];simp;done)|(rw[vZ];done)|(rw[uP];done)
  .have vZ:a29 (cG (k7 mo.procs p) k (j+1))=a29 L:=by
    rw[xA];by_cases c:L.length=0
    .rw[Fk c,so oJ,w0 c]
    .rw[so c]
   by_cases l1:L.length=1
   .have uP:a3T (cG (k7 mo.procs p) k (j+1))=(V3 (k7 mo.procs p).ai j).expr:=by rw[hO,Fk l1,Fk rfl]
    rw[l1]at h8 hL
    (simp(disch:=(first|exact Rf.mk rfl|with_reducible assumption|omega|((repeat(first|rw[nP]|rw[nS]|rw[Y3]))<;>omega)|decide)) only[go_sem,↓reduceIte,hE,h8,h9,nh,oW,om,fm,g0,g1,cj,cf,pe,hb,qk,kR,mq,ou,qW,ux,t1,t2,ha])<;>(repeat' apply And.intro)<;>first|exact pH|(rw[hL];omega)|(rw[hL];done)|(rw[hS];simp;done)|(rw[vZ];done)|(rw[uP];done)
   have uP:a3T (cG (k7 mo.procs p) k (j+1))=a3T L:=by rw[hO,so l1]
   have n1:¬L.length+1=2:=oJ;have n2:¬((L.length+1:Nat):Int)=2:=oJ;have n3:¬(L.length:Int)+1=2:=oJ
   (simp(disch:=(first|exact Rf.mk rfl|with_reducible assumption|omega|((repeat(first|rw[nP]|rw[nS]|rw[Y3]))<;>omega)|decide)) only[go_sem,↓reduceIte,hE,h8,h9,nh,oW,om,fm,g0,g1,cj,cf,pe,hb,qk,kR,mq,ou,qW,ux,t1,t2,ha,n1,n2,n3])<;>(repeat' apply And.intro)<;>first|exact pH|(rw[hL];omega)|(rw[hL];done)|(rw[hS];simp;done)|(rw[vZ];done)|(rw[uP];done)
variable{x:bH}{st:U6}
theorem c6G(hm:Z4 m mo ps)(ho:Z3 mo)(hf:a0P mo)(hq:MoQ mo)(hN:MoN mo)(hW:MoW mo)(hx:a2Z mo x st):a5u U5 37 [.agg [m.dt,.int .i64 m.g,m.dc,m.dv,m.dp,m.ds,.bool m.b],.agg [x.da,x.dv,x.dc,.int .i64 st.hold]] λd=>FL 4 d (a00 (mo.aJ st)):=by
 have fm:=a3R hm;have fx:=a6n hx.f;have om:=hm.aw;have ox:=hx.f.aw;have yM:=hx.f.a;have mY:=ho.np;have hh:=hx.fit.hold;have pD:=hx.fit.aF;have uf:=b2e ho (st:=st);obtain⟨dm,kh,mZ⟩:=b97 hm ho hx;have kh:=a0l kh;have oe:=FL.one mZ;have pe:=FL.pz mZ;refine a5n (vf:=vf37) rfl ?_;unfold vf37;refine zF ?_;refine zY (W0 om ox fm fx kh) ?_;have jV:Hp ((k4.empty.push (.cells [m.dt,.int .i64 m.g,m.dc,m.dv,m.dp,m.ds,.bool m.b])).push (.cells [x.da,x.dv,x.dc,.int .i64 st.hold])) [] [(0,[m.dt,.int .i64 m.g,m.dc,m.dv,m.dp,m.ds,.bool m.b]),(1,[x.da,x.dv,x.dc,.int .i64 st.hold])]:=⟨Hk,sJ,by simp[Y2],by
  intro y hy;simp only[Fi,FW,Hg]at hy;rcases hy with rfl|rfl
  .exact bB
  .simp(disch:=(first|exact Rf.mk rfl|with_reducible assumption|omega|((repeat(first|rw[nP]|rw[nS]|rw[Y3]))<;>omega)|decide)) only[go_sem,↓reduceIte]⟩
 generalize(k4.empty.push (.cells [m.dt,.int .i64 m.g,m.dc,m.dv,m.dp,m.ds,.bool m.b])).push (.cells [x.da,x.dv,x.dc,.int .i64 st.hold])=s0 at *;have hg:∀{s E},Hp s E [(0,[m.dt,.int .i64 m.g,m.dc,m.dv,m.dp,m.ds,.bool m.b]),(1,[x.da,x.dv,x.dc,.int .i64 st.hold])]->s.get 0=some (.cells [m.dt,.int .i64 m.g,m.dc,m.dv,m.dp,m.ds,.bool m.b])/\s.get 1=some (.cells [x.da,x.dv,x.dc,.int .i64 st.hold]):=λh=>⟨h.r (0,_) sJ,h.r (1,_) sJ⟩
 obtain⟨g0,g1⟩:=hg jV;have l0:=t3 g0;have l1:=t3 g1;refine W6 [0,1,2,3,5] 0 mo.procs.length (λi f s=>f 6=.int .i64 (i:Int)/\s=s0/\∀q,q<i->mo.quiet q (W2 st.aF q)=false) (.mk rfl) oJ ⟨rfl,rfl,λq h=>by omega⟩ ?_;rintro i f s hi ⟨hE,rfl,iR⟩;by_cases ci:i<mo.procs.length
 rotate_left
 .have hF:=c2X (mo:=mo) (st:=st) λq h=>iR q oJ
  have e:mo.aJ st=mo.aA st:=by
   unfold Mo.aJ;rw[hF];simp
  refine zY (W0 hE ci pD g0 om) ?_;rw[e];exact⟨_,rfl,mZ⟩
 by_cases c2:st.hold=-1
 rotate_left
 .have e:mo.aJ st=mo.aA st:=by
   unfold Mo.aJ;rw[so oJ]
  have c3:¬st.hold<0:=oJ;refine zY (U0 hE ci pD g0 g1 om ox c3) ?_;rw[e];exact⟨_,rfl,mZ⟩
 have c3:st.hold<0:=oJ;have jn:i<st.aF.length:=oJ;have tJ:=c50 hm ho hq hN hW (k:=W2 st.aF i) ci;cases yo:mo.quiet i (W2 st.aF i)
 .rw[yo]at tJ
  refine zY (U0 hE ci jn pD g0 g1 om (W0 ox fm yM tJ c3)) ?_;intro q ku;by_cases eq:q=i
  .subst eq;exact yo
  .exact iR q oJ
 rw[yo]at tJ;have hF:=c5w ci yo iR;have e:mo.aJ st=(mo.aA st).filter (dT i):=by
  unfold Mo.aJ dT;rw[hF,Fk oJ]
 refine zY (U0 hE ci jn pD g0 g1 om (X4 ox fm yM tJ mZ c3)) ?_;refine W6 [0,1,2,3,4,5,6,21,31] 0 (mo.aA st).length (λj f s=>f 8=.int .i64 (j:Int)/\∃E,Rp (f 7) 4 (a00 (((mo.aA st).take j).filter (dT i))) E/\Hp s E [(0,[m.dt,.int .i64 m.g,m.dc,m.dv,m.dp,m.ds,.bool m.b]),(1,[x.da,x.dv,x.dc,.int .i64 st.hold])]) (.mk rfl) oJ ⟨rfl,[],.inl ⟨rfl,rfl,rfl⟩,jV⟩ ?_;rintro j f s hj ⟨hE,E,hr,hp⟩;by_cases cj:j<(mo.aA st).length
 rotate_left
 .obtain rfl:j=(mo.aA st).length:=oJ
  rw[Gf]at hr;obtain⟨d',h1,h2⟩:=a7y hr hp (λe h=>h) (a9z _) (a8P _);refine zY (V4 hE cj h1) ?_;rw[e];exact⟨_,rfl,h2⟩
 have lY:=b6l (P:=dT i) cj;by_cases k0:((X3 (mo.aA st) j).kind:Int)=0
 rotate_left
 .have:dT i (X3 (mo.aA st) j)=false:=by
   unfold dT;rw[FP oJ,FY]
  rw[this,so sJ,Fl]at lY;refine zY (V1 hE cj mZ k0) ?_;rw[lY];exact⟨E,hr,hp⟩
 by_cases k1:(X3 (mo.aA st) j).proc=i
 rotate_left
 .have:dT i (X3 (mo.aA st) j)=false:=by
   unfold dT;rw[FP k1,Gs]
  rw[this,so sJ,Fl]at lY;refine zY (W0 hE cj mZ k0 k1) ?_;rw[lY];exact⟨E,hr,hp⟩
 have:dT i (X3 (mo.aA st) j)=true:=by
  unfold dT;rw[FN oJ,FN k1];rfl
 rw[this,Fk rfl]at lY;refine zY (W0 hE cj mZ k0 k1) ?_;refine a3p (X3 (mo.aA st) j) ?_ hr hp dJ (by have:=a9O (l:=mo.aA st) (P:=dT i) (j:=j);omega) ?_
 .unfold Mv.row
  rw[k0,k1]
 rintro d1 s1 E1 ji jT;refine zY (aN hE cj) ?_;rw[lY];exact⟨E1,ji,jT⟩
theorem c7K(hm:Z4 m mo ps)(ho:Z3 mo)(hf:a0P mo)(hq:MoQ mo)(hN:MoN mo)(hW:MoW mo)(hx:a2Z mo x st):∃d,bz U5 37 [.agg [m.dt,.int .i64 m.g,m.dc,m.dv,m.dp,m.ds,.bool m.b],.agg [x.da,x.dv,x.dc,.int .i64 st.hold]] d/\FL 4 d (a00 (mo.aJ st)):=by
 obtain⟨d,h1,h2⟩:=c6G hm ho hf hq hN hW hx;exact⟨d,a0l h1,h2⟩
def a5d(mo:Mo)(am al:Bool)(st:U6):List Mv:=if al then mo.eh am st else if am then mo.aJ st else mo.aA st
theorem c01(ho:Z3 mo):(mo.aJ st).length<=1000000:=by
 have:=b2e ho (st:=st);refine FE (m:=(mo.aA st).length) ?_ oJ;rcases c8R mo st with e|⟨i,_,_,_,e⟩
 .rw[e];exact sm _
 .rw[e];exact Hj _ _
variable{am al:Bool}
theorem c6N{v:Mv}(h:v∈a5d mo am al st):v∈mo.aA st:=by
 unfold a5d at h;cases al
 .cases am
  .exact h
  .exact b5n h
 .exact c42 h
theorem c5e(ho:Z3 mo):(a5d mo am al st).length<=1000000:=by
 have h1:=c01 ho (st:=st);have h2:=b2e ho (st:=st);unfold a5d Mo.eh;cases al<;>cases am
 .simp;omega
 .simp;omega
 .exact FE (Hj _ _) qJ
 .exact FE (Hj _ _) qJ
theorem c3i(hm:Z4 m mo ps)(ho:Z3 mo)(hf:a0P mo)(hq:MoQ mo)(hN:MoN mo)(hW:MoW mo)(hC:MoC mo)(hx:a2Z mo x st)(am al:Bool):a5u U5 15 [.agg [m.dt,.int .i64 m.g,m.dc,m.dv,m.dp,m.ds,.bool m.b],.agg [x.da,x.dv,x.dc,.int .i64 st.hold],.bool am,.bool al] λd=>FL 4 d (a00 (a5d mo am al st)):=by
 have om:=hm.aw;have ox:=hx.f.aw;have fm:=a3R hm;have fx:=a6n hx.f;have mY:=ho.np;obtain⟨dm,kh,qB⟩:=b97 hm ho hx;have xK:=a0l kh;obtain⟨da,ha1,ha2⟩:=c7K hm ho hf hq hN hW hx;have pa:=FL.pz ha2;have pm:=FL.pz qB;have la:=c01 ho (st:=st);have lm:=b2e ho (st:=st);have jV:Hp ((k4.empty.push (.cells [m.dt,.int .i64 m.g,m.dc,m.dv,m.dp,m.ds,.bool m.b])).push (.cells [x.da,x.dv,x.dc,.int .i64 st.hold])) [] [(0,[m.dt,.int .i64 m.g,m.dc,m.dv,m.dp,m.ds,.bool m.b]),(1,[x.da,x.dv,x.dc,.int .i64 st.hold])]:=⟨Hk,sJ,by simp[Y2],by
  intro y hy;simp only[Fi,FW,Hg]at hy;rcases hy with rfl|rfl
  .exact bB
  .simp(disch:=(first|exact Rf.mk rfl|with_reducible assumption|omega|((repeat(first|rw[nP]|rw[nS]|rw[Y3]))<;>omega)|decide)) only[go_sem,↓reduceIte]⟩
 have Ea:∀p,p<mo.procs.length->bz U5 38 [.agg [m.dt,.int .i64 m.g,m.dc,m.dv,m.dp,m.ds,.bool m.b],.agg [x.da,x.dv,x.dc,.int .i64 st.hold],.int .i64 (p:Int)] (.bool (mo.aP st p)):=λp hp=>c69 hm ho hC hx hp
 cases am
 .refine a5n (vf:=b07) rfl ?_
  unfold b07;refine zF ?_;refine zY (W0 om ox fm fx xK) ?_;generalize(k4.empty.push (.cells [m.dt,.int .i64 m.g,m.dc,m.dv,m.dp,m.ds,.bool m.b])).push (.cells [x.da,x.dv,x.dc,.int .i64 st.hold])=s0 at *;have lu:a5d mo false al st=if al then(mo.aA st).filter (mo.aZ st)else mo.aA st:=by unfold a5d Mo.eh;cases al<;>rfl
  have tC:∀v∈mo.aA st,v.kind=0->v.proc<mo.procs.length:=λv hv hk=>by
   rcases b0y.1 hv with⟨_,_,y,_⟩|⟨_,_,y⟩
   .omega
   .have:=b0k y;omega
  rw[lu];clear lu;refine W6 [0,1,2,3,4,5,8,9,15] 0 (mo.aA st).length (λj f s=>f 11=.int .i64 (j:Int)/\∃E,Rp (f 10) 4 (a00 (if al then((mo.aA st).take j).filter (mo.aZ st)else(mo.aA st).take j)) E/\Hp s E [(0,[m.dt,.int .i64 m.g,m.dc,m.dv,m.dp,m.ds,.bool m.b]),(1,[x.da,x.dv,x.dc,.int .i64 st.hold])]) (.mk rfl) oJ ⟨rfl,[],by cases al<;>exact .inl ⟨rfl,rfl,rfl⟩,jV⟩ ?_;rintro j f s hj ⟨hE,E,hr,hp⟩;by_cases cj:j<(mo.aA st).length
  rotate_left
  .obtain rfl:j=(mo.aA st).length:=oJ
   rw[Gf]at hr;obtain⟨d',h1,h2⟩:=a7y hr hp (λe h=>h) (a9z _) (a8P _);refine zY (V1 hE cj qB h1) ?_;exact⟨_,rfl,h2⟩
  have g0:s.get 0=some (.cells [m.dt,.int .i64 m.g,m.dc,m.dv,m.dp,m.ds,.bool m.b]):=hp.r (0,_) sJ;have g1:s.get 1=some (.cells [x.da,x.dv,x.dc,.int .i64 st.hold]):=hp.r (1,_) sJ;have l0:=t3 g0;have l1:=t3 g1;cases al
  .have lY:(mo.aA st).take (j+1)=(mo.aA st).take j++[X3 (mo.aA st) j]:=by rw[FO cj,a7l cj]
   simp only[Fw,FF]at hr⊢;refine zY (V4 hE cj qB) ?_;refine a3p (X3 (mo.aA st) j) rfl hr hp dJ qJ ?_;rintro d1 s1 E1 ji jT;refine zY (aN hE cj) ?_;rw[lY];exact⟨E1,ji,jT⟩
  have lY:=b6l (P:=mo.aZ st) cj;simp only[FG]at hr⊢;by_cases k0:(X3 (mo.aA st) j).kind=0
  rotate_left
  .have sV:¬((X3 (mo.aA st) j).kind:Int)=0:=oJ
   have:mo.aZ st (X3 (mo.aA st) j)=true:=by unfold Mo.aZ;rw[FP k0];rfl
   rw[Fk this]at lY;refine zY (V1 hE cj qB sV) ?_;refine a3p (X3 (mo.aA st) j) rfl hr hp dJ (by have:=a9O (l:=mo.aA st) (P:=mo.aZ st) (j:=j);simp;omega) ?_;rintro d1 s1 E1 ji jT;refine zY (aN hE cj) ?_;rw[lY];exact⟨E1,ji,jT⟩
  have sV:((X3 (mo.aA st) j).kind:Int)=0:=oJ;have hb:=Ea _ (tC _ (a71 cj) k0);cases uj:mo.aP st (X3 (mo.aA st) j).proc
  .have:mo.aZ st (X3 (mo.aA st) j)=true:=by unfold Mo.aZ;rw[uj,Gs];rfl
   rw[Fk this]at lY;rw[uj]at hb;refine zY (U0 hE cj qB sV g0 g1 om (V1 ox fm fx hb)) ?_;refine a3p (X3 (mo.aA st) j) (by unfold Mv.row;rw[sV]) hr hp dJ (by have:=a9O (l:=mo.aA st) (P:=mo.aZ st) (j:=j);simp;omega) ?_;rintro d1 s1 E1 ji jT;refine zY (aN hE cj) ?_;rw[lY];exact⟨E1,ji,jT⟩
  .have:mo.aZ st (X3 (mo.aA st) j)=false:=by unfold Mo.aZ;rw[uj,FN k0];rfl
   rw[so (by rw[this];simp),Fl]at lY;rw[uj]at hb;refine zY (U0 hE cj qB sV g0 g1 om (V1 ox fm fx hb)) ?_;rw[lY];exact⟨E,hr,hp⟩
 .refine a5n (vf:=b07) rfl ?_
  unfold b07;refine zF ?_;refine zY (X0 om ox fm fx xK pm ha1) ?_;generalize(k4.empty.push (.cells [m.dt,.int .i64 m.g,m.dc,m.dv,m.dp,m.ds,.bool m.b])).push (.cells [x.da,x.dv,x.dc,.int .i64 st.hold])=s0 at *;have lu:a5d mo true al st=if al then(mo.aJ st).filter (mo.aZ st)else mo.aJ st:=by unfold a5d Mo.eh;cases al<;>rfl
  have tC:∀v∈mo.aJ st,v.kind=0->v.proc<mo.procs.length:=λv hv hk=>by
   rcases b0y.1 (b5n hv)with⟨_,_,y,_⟩|⟨_,_,y⟩
   .omega
   .have:=b0k y;omega
  rw[lu];clear lu;refine W6 [0,1,2,3,4,5,8,9,15] 0 (mo.aJ st).length (λj f s=>f 11=.int .i64 (j:Int)/\∃E,Rp (f 10) 4 (a00 (if al then((mo.aJ st).take j).filter (mo.aZ st)else(mo.aJ st).take j)) E/\Hp s E [(0,[m.dt,.int .i64 m.g,m.dc,m.dv,m.dp,m.ds,.bool m.b]),(1,[x.da,x.dv,x.dc,.int .i64 st.hold])]) (.mk rfl) oJ ⟨rfl,[],by cases al<;>exact .inl ⟨rfl,rfl,rfl⟩,jV⟩ ?_;rintro j f s hj ⟨hE,E,hr,hp⟩;by_cases cj:j<(mo.aJ st).length
  rotate_left
  .obtain rfl:j=(mo.aJ st).length:=oJ
   rw[Gf]at hr;obtain⟨d',h1,h2⟩:=a7y hr hp (λe h=>h) (a9z _) (a8P _);refine zY (V1 hE cj ha2 h1) ?_;exact⟨_,rfl,h2⟩
  have g0:s.get 0=some (.cells [m.dt,.int .i64 m.g,m.dc,m.dv,m.dp,m.ds,.bool m.b]):=hp.r (0,_) sJ;have g1:s.get 1=some (.cells [x.da,x.dv,x.dc,.int .i64 st.hold]):=hp.r (1,_) sJ;have l0:=t3 g0;have l1:=t3 g1;cases al
  .have lY:(mo.aJ st).take (j+1)=(mo.aJ st).take j++[X3 (mo.aJ st) j]:=by rw[FO cj,a7l cj]
   simp only[Fw,FF]at hr⊢;refine zY (V4 hE cj ha2) ?_;refine a3p (X3 (mo.aJ st) j) rfl hr hp dJ qJ ?_;rintro d1 s1 E1 ji jT;refine zY (aN hE cj) ?_;rw[lY];exact⟨E1,ji,jT⟩
  have lY:=b6l (P:=mo.aZ st) cj;simp only[FG]at hr⊢;by_cases k0:(X3 (mo.aJ st) j).kind=0
  rotate_left
  .have sV:¬((X3 (mo.aJ st) j).kind:Int)=0:=oJ
   have:mo.aZ st (X3 (mo.aJ st) j)=true:=by unfold Mo.aZ;rw[FP k0];rfl
   rw[Fk this]at lY;refine zY (V1 hE cj ha2 sV) ?_;refine a3p (X3 (mo.aJ st) j) rfl hr hp dJ (by have:=a9O (l:=mo.aJ st) (P:=mo.aZ st) (j:=j);simp;omega) ?_;rintro d1 s1 E1 ji jT;refine zY (aN hE cj) ?_;rw[lY];exact⟨E1,ji,jT⟩
  have sV:((X3 (mo.aJ st) j).kind:Int)=0:=oJ;have hb:=Ea _ (tC _ (a71 cj) k0);cases uj:mo.aP st (X3 (mo.aJ st) j).proc
  .have:mo.aZ st (X3 (mo.aJ st) j)=true:=by unfold Mo.aZ;rw[uj,Gs];rfl
   rw[Fk this]at lY;rw[uj]at hb;refine zY (U0 hE cj ha2 sV g0 g1 om (V1 ox fm fx hb)) ?_;refine a3p (X3 (mo.aJ st) j) (by unfold Mv.row;rw[sV]) hr hp dJ (by have:=a9O (l:=mo.aJ st) (P:=mo.aZ st) (j:=j);simp;omega) ?_;rintro d1 s1 E1 ji jT;refine zY (aN hE cj) ?_;rw[lY];exact⟨E1,ji,jT⟩
  .have:mo.aZ st (X3 (mo.aJ st) j)=false:=by unfold Mo.aZ;rw[uj,FN k0];rfl
   rw[so (by rw[this];simp),Fl]at lY;rw[uj]at hb;refine zY (U0 hE cj ha2 sV g0 g1 om (V1 ox fm fx hb)) ?_;rw[lY];exact⟨E,hr,hp⟩
theorem c5h(hm:Z4 m mo ps)(ho:Z3 mo)(hf:a0P mo)(hq:MoQ mo)(hN:MoN mo)(hW:MoW mo)(hC:MoC mo)(hx:a2Z mo x st)(am al:Bool):∃d,bz U5 15 [.agg [m.dt,.int .i64 m.g,m.dc,m.dv,m.dp,m.ds,.bool m.b],.agg [x.da,x.dv,x.dc,.int .i64 st.hold],.bool am,.bool al] d/\FL 4 d (a00 (a5d mo am al st)):=by
 obtain⟨d,h1,h2⟩:=c3i hm ho hf hq hN hW hC hx am al;exact⟨d,a0l h1,h2⟩
theorem c7Q:b2l mo am al st=a5d mo am al st:=rfl
theorem c9c(hm:Z4 m mo ps)(ho:Z3 mo)(hf:a0P mo)(hx:a2Z mo x st):∃d,bz U5 20 [.agg [m.dt,.int .i64 m.g,m.dc,m.dv,m.dp,m.ds,.bool m.b],.agg [x.da,x.dv,x.dc,.int .i64 st.hold]] d/\FL 1 d (a0o (mo.pack st)):=by
 obtain⟨r,s,h1,E,R,hg⟩:=c3K (s0:=k4.empty) hm ho hf hx.f.u hx.e hx.fit;obtain⟨d',h2,h3⟩:=(hg.rp.sn λe he=>hg.hp.w e (by simp[he])).dK (n:=18) (a5b _) (a98 _);exact⟨d',a0l ⟨_,_,h1,h2⟩,h3⟩
theorem c9r{z:Int}(hx:a2Z mo x st)(h0:st.hold=-1)(h1:-1<=z)(h2:z<(mo.procs.length:Int)):a2Z mo x { st with hold:=z } :=
 ⟨⟨hx.f.a,hx.f.v,hx.f.c⟩,⟨hx.e.v,hx.e.c⟩,a15.1 ((a15.2 hx.fit).hd (z:=z) ⟨h1,h2⟩)⟩
theorem c9C{d0 d1:D}{t:List Nd}{raw:List Int}(hT:Z0 d0 t)(hd:FI d1 raw)(pt:∀n∈raw,a2C n):Y4 U5 3 [d0,d1] k4.empty λr _=>r=.bool true:=by
 have wh:bz U5 5 [] (.bool true):=a6t c5H rfl;have pT:PZ d0:=hT.fl.pz;have pd:=pz_i hd;have oT:=FL.one hT.fl;have od:=FL.one hd;obtain⟨d',h1,h2⟩:=c6m hT;by_cases hl:(60:Int)<(raw.length:Int)
 .refine Y0 (vf:=vf3) rfl ?_
  unfold vf3;refine zF ?_;refine zY (V4 wh hd hl) ?_;exact rfl
 rcases h2 with rfl|⟨m,ps,rfl,hR,hS,hY,hm⟩
 .refine Y0 (vf:=vf3) rfl ?_
  unfold vf3;refine zF ?_;refine zY (W0 wh hd hl h1 pT) ?_;exact rfl
 have ho:=c7z hR hS hY;have hf:=c2T hR hY;have hq:=c4E hR hS;have hN:=c79 hR hS;have hW:=c4Y hR;have hC:=c2Q hR hS;generalize a20 t=mo at *;have om:=hm.aw;have fm:=a3R hm;have mY:=ho.np;obtain⟨x,st,hh,hx,hold⟩:=c4i hm ho hf hd pt;have fx:=a6n hx.f;have ox:=hx.f.aw;obtain⟨dl,nL,hal2⟩:=b4c hm ho;have pD:=a0l nL;obtain⟨dr,Bx,qW⟩:=c7p hm ho;have Bx:=a0l Bx;have nJ:=c1r ho;have AK:=c21 hal2 qW oJ;rw[FN rfl]at AK;have mM:=b8l hm ho;have yN:=b6W (n:=(mo.allM.length:Int)) ⟨oJ,oJ⟩;have ol:=hal2.one;have pl:=hal2.pz;have pr:=qW.pz;have fY:a0x false dl=some (.int .i64 (mo.allM.length:Int)):=by rw[hal2.len];simp
 have ow:=hm.eY;unfold Z6 at h1;by_cases DJ:(20:Int)<(mo.allM.length:Int)
 .refine Y0 (vf:=vf3) rfl ?_
  unfold vf3;refine zF ?_;refine zY (U0 wh hd hl h1 pT pd om (U0 ox fm fx pD Bx AK mM (X4 yN ol pl pr fY DJ))) ?_;exact rfl
 have c20':((20:Int)<(mo.allM.length:Int))=False:=sU DJ;refine Y0 (vf:=vf3) rfl ?_;unfold vf3;refine zF ?_;refine zY (U0 wh hd hl h1 pT pd om (U0 ox fm fx pD Bx AK mM (X0 yN ol pl pr fY c20' hh))) ?_;refine W6 [0,1,5,6,7,8,23,31,51] 0 (min mo.procs.length 2+1) (λi f s=>f 9=.int .i64 ((i:Int)-1)/\s.get 0=some (.cells [m.dt,.int .i64 m.g,m.dc,m.dv,m.dp,m.ds,.bool m.b])/\∃z,s.get 1=some (.cells [x.da,x.dv,x.dc,.int .i64 z])) (.mk rfl) oJ ⟨rfl,?_,st.hold,?_⟩ ?_
 .exact bB
 .exact bB
 rintro i f s hi ⟨hE,g0,z,g1⟩;have l0:=t3 g0;have l1:=t3 g1;have e2:IntKind.i64.wrap ((i:Int)-1+1)=((i+1:Nat):Int)-1:=by rw[Z9 oJ oJ];omega
 by_cases ci:i<min mo.procs.length 2+1
 rotate_left
 .have e1:((i:Int)-1<min (mo.procs.length:Int) 2)=False:=FH oJ
  refine zY (W0 hE g0 om ow e1) ?_;exact rfl
 have e1:((i:Int)-1<min (mo.procs.length:Int) 2)=True:=FR oJ;obtain⟨oK,qU,pN⟩:∃oK,a2Z mo x oK/\oK.hold=(i:Int)-1:=⟨_,c9r (z:=(i:Int)-1) hx hold oJ oJ,rfl⟩
 have By:=a6n qU.f;have iQ:=qU.fit;have h8:=a51 hf iQ;obtain⟨dc,kL,hz⟩:=c3G hm ho hf qU;have kL:=a0l kL;have yn:=(hz.vb k4.empty).one;have hwe:=b5P (n:=(mo.allM.length:Int)) oJ;have rz:=a5P (mo.allM.length:Int);have ky:=b02 iQ;have nF:=b1P ho hf;rw[pN]at kL By;refine zY (X0 hE g0 g1 om ow e1 ox) ?_;have Dh:(s.set 1 (some (.cells [x.da,x.dv,x.dc,.int .i64 ((i:Int)-1)]))).get 1=some (.cells [x.da,x.dv,x.dc,.int .i64 ((i:Int)-1)]):=a0b l1;have g0':(s.set 1 (some (.cells [x.da,x.dv,x.dc,.int .i64 ((i:Int)-1)]))).get 0=some (.cells [m.dt,.int .i64 m.g,m.dc,m.dv,m.dp,m.ds,.bool m.b]):=by rw[Y8 dJ];exact g0
 generalize s.set 1 (some (.cells [x.da,x.dv,x.dc,.int .i64 ((i:Int)-1)]))=s1 at *;refine a0M newB_c rfl ?_;rintro r s2 ⟨g,rfl,hg,f2⟩;have yH:=f2.kp g0';have yL:=f2.kp Dh;have l02:=t3 yH;have l12:=t3 yL;refine zY (U0 yH yL om ox fm By kL yn) ?_;refine a1d [0,1,5,6,7,8,9,10,11,23,31,51,63,137] (λf' s'=>Fr [] s2 s') ?_ ?_
 .refine W6 [0,1,5,6,7,8,9,10,11,23,31,51,63,137] 0 4 (λk f' s'=>f' 12=.int .i64 (k:Int)/\Fr [] s2 s') (.mk rfl) oJ ⟨rfl,Fr.refl _ _⟩ ?_
  rintro k f' s3 hk ⟨hK,f3⟩;have Ay:=f3.kp yH;have AF:=f3.kp yL;have l03:=t3 Ay;have l13:=t3 AF;by_cases ck:k<4
  rotate_left
  .have xJ:((k:Int)<4)=False:=FH oJ
   refine zY (aN hK xJ) ?_;exact f3
  have xJ:((k:Int)<4)=True:=FR oJ;obtain⟨am,Dq⟩:∃am,am=decide ((k:Int).tmod 2=1):=⟨_,rfl⟩
  obtain⟨al,zS⟩:∃al,al=decide ((2:Int)<=(k:Int)):=⟨_,rfl⟩
  obtain⟨ds,kR,mq⟩:=c5h hm ho hf hq hN hW hC qU am al;rw[pN]at kR;have os:=FL.one mq;simp(disch:=(first|exact Rf.mk rfl|with_reducible assumption|omega|((repeat(first|rw[nP]|rw[nS]|rw[Y3]))<;>omega)|decide)) only[go_sem,↓reduceIte,hK,xJ,Ay,AF,om,ox,fm,By,<- Dq,<- zS,kR,os];have ui:∀j,j<mo.allM.length->mo.fI oK (df (decide (oK.hold<0)) am al (λp=>mo.quiet p (W2 oK.aF p)) (λp=>mo.aP oK p) (λp=>decide (oK.hold=(p:Int))) mo.procs.length) (aQ (decide (oK.hold<0)) am (λp=>mo.quiet p (W2 oK.aF p)) mo.procs.length) (X3 mo.allM j)=decide (X3 mo.allM j∈a5d mo am al oK):=λj hj=>by
   rw[FV,c3H (a71 hj),c7Q,decide_eq_true_iff]
  have mI:=λj=>c62 mq (c5e ho) (X3 mo.allM j)
  have jo:=λv=>c6N (mo:=mo) (st:=oK) (v:=v) (am:=am) (al:=al)
  refine W6 [0,1,5,6,7,8,9,10,11,12,13,23,31,51,63,73,137] 0 mo.allM.length (λj f2 s'=>f2 14=.int .i64 (j:Int)/\Fr [] s2 s') (.mk rfl) oJ ⟨rfl,f3⟩ ?_;clear Ay AF l03 l13 f3;rintro j f2 s4 hj ⟨hJ,f4⟩;have EE:=f4.kp yH;have g14:=f4.kp yL;have l04:=t3 EE;have l14:=t3 g14;by_cases cj:j<mo.allM.length
  rotate_left
  .obtain rfl:j=mo.allM.length:=oJ
   refine zY (W0 hJ cj ol fY hK) ?_;exact⟨ck,f4⟩
  have oQ:j<2^wid (mo.allM.length:Int):=by
   have e:((2^wid (mo.allM.length:Int):Nat):Int)=2^wid (mo.allM.length:Int):=sJ;rw[<- e]at hwe;omega
  obtain⟨dk,rO,hzk⟩:=c5r (k:=j) (w:=wid (mo.allM.length:Int)) oJ rz.2;have rO:=a0l rO;have odk:=(hzk.vb k4.empty).one;simp(disch:=(first|exact Rf.mk rfl|with_reducible assumption|omega|((repeat(first|rw[nP]|rw[nS]|rw[Y3]))<;>omega)|decide)) only[go_sem,↓reduceIte,hJ,cj,ol,fY,hK,EE,om,fm,mM,rO,yn,odk,<- Dq,<- zS];refine a28 (a0M (step_c hm ho hf h8 iQ (hg.fr f4) (hz.vb s4) (hzk.vb s4) oQ am al (Q:=λp=>mo.quiet p (W2 oK.aF p)) (B:=λp=>mo.aP oK p) (λ_ v x p s' hp hg hv=>c8J hm ho hf hq iQ hg hv hp) (λ_ v x p s' hp hg hv=>c78 hm ho hf hC iQ hg hv hp)) rfl ?_);rintro r s5 ⟨dt,rfl,odt,f5,iN⟩;have f25:=f4.trans f5 sJ;have Ee:=f25.kp yH;have DK:=f25.kp yL;have l05:=t3 Ee;have l15:=t3 DK;rw[FN cj,Gd,ui j cj];have uH:=mI j;have mA:=b0N hal2 cj (k:=.i64);have pv:PZ (.agg [.int .i64 ((X3 mo.allM j).kind:Int),.int .i64 ((X3 mo.allM j).proc:Int),.int .i64 ((X3 mo.allM j).bb:Int),.int .i64 ((X3 mo.allM j).chan:Int)]):=pz_mv;have Er:=mq.pz;cases hb:decide (X3 mo.allM j∈a5d mo am al oK)
  .rw[hb]at uH
   refine zY (U0 odt hJ mA os pv Er uH @a4Q) ?_;exact⟨cj,f25⟩
  .rw[hb]at uH
   have kh:=jo _ (Gp hb);obtain⟨x',Dk,lM⟩:=do_bc hm ho hf qU (b5Z kh);obtain⟨dp,jT,jE⟩:=c9c hm ho hf lM;rw[pN]at Dk;have fx':=a6n lM.f;have ox':=lM.f.aw;have op:=jE.one;have hpl':=b02 lM.fit;refine zY (U0 odt hJ mA os pv Er uH (U0 @a3P Ee DK om ox fm By (W0 Dk fx' ox' jT op))) ?_;refine a28 (a0M (c2G (iN cj kh) jE oJ) rfl ?_);rintro r s6 ⟨rfl,rfl⟩;refine zY hJ ?_;exact⟨cj,f25⟩
 rintro f' s3 f3;have Ay:=f3.kp yH;have AF:=f3.kp yL;refine V9 ?_;refine a0M (c0p (hg.fr f3)) rfl ?_;rintro r s4 ⟨rfl,rfl⟩;refine zY (aN hE e2) ?_;exact⟨ci,Ay,_,AF⟩
theorem c7H{d0 d1:D}(h0:a9u Ty.tree d0)(h1:a9u (.slice 1 (.int .i64)) d1):Y4 U5 3 [d0,d1] k4.empty λr _=>r=.bool true:=by
 obtain⟨t,hT⟩:=c9j h0;obtain⟨l,hl,hn,hi⟩:=c33 h1;exact c9C hT hl hi
end Go.Proofs.YtigbmclkjknnjaaGreat
