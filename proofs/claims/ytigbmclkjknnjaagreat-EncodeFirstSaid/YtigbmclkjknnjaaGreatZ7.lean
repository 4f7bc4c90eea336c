/- Texts one behind the other. -/
import Derived.Test.YtigbmclkjknnjaaGreatZ6
import Derived.Test.YtigbmclkjknnjaaGreatZ4
import Derived.Test.YtigbmclkjknnjaaGreatZ5
set_option linter.unusedSimpArgs false
set_option linter.unusedVariables false
set_option maxRecDepth 100000
set_option maxHeartbeats 8000000
namespace Go.Proofs.YtigbmclkjknnjaaGreat
open Go.V
section
variable {s:k4} {g v:Nat} {m:X6} {mo:Mo} {ps:List (Pr×X0)} {st:V0} {x:fB}
theorem next_c (hm:Z0 m mo ps) (ho:Z8 mo) (iF:a0J mo) (h8:eM st) (gT:Fit mo st) (hg:GB s g) (hv:Vs s v g m mo st x) {d:D} {ls:List Mv} (hl:FL 4 d (a15 ls)) (jL:∀v∈ls,a7m mo v) (kO:ls.length<=20000) {pb k0:Nat} (gp:s.get pb=some (.cells (U1 (U0 (fun i=>decide (i=k0)) ls.length)))) :
 X9 U8 45 [.ptr v 0,d,.arr pb 0 ls.length 1] s fun r s'=>Nx s g m mo st ls k0 s' r:=by
 have gv:=hv.get;have lv:=u7 gv;have lp:=u7 gp;have oo:=hv.az;have om:=hm.az;have ou:=hm.eo;have jM:=hm.lenC;have mj:=ho.np;have lH:=ho.nv;have qe:=ho.nc;have od:=hl.one;have eJ:a0C false d=some (.int .i64 (ls.length:Int)):=by rw [hl.len];simp
 have nU:=hm.c;have qO:=hm.p;have la:=hv.la.len hv.hs;have uV:=hv.lv.len hv.hs;simp only [List.length_map,List.length_range] at la uV;have z1:=b3K mo.procs.length;have z2:=b3K mo.vars.length;have z3:=c39 mo.af.length;have m1:((24:Nat):Int)*(mo.procs.length:Int)<=2 ^ 47:=by omega
 have m2:((24:Nat):Int)*(mo.vars.length:Int)<=2 ^ 47:=by omega
 have m3:((48:Nat):Int)*(mo.af.length:Int)<=2 ^ 47:=by omega
 have n1:=dy (w:=mo.procs.length) (by omega);have n2:=dy (w:=mo.vars.length) (by omega);have n3:=dy (w:=mo.af.length) (by omega);have mY:=Bk.init (np:=mo.procs.length) (nv:=mo.vars.length) (nc:=mo.af.length) hv.hs;refine X4 (vf:=vf45) rfl ?_;unfold vf45;refine zF ?_;refine zY (U5 gv om oo od la uV jM (U5 eJ z1 z2 z3 m1 m2 m3 (V5 n1 n2 n3))) ?_;have wh:=mY;generalize ((s.push (.cells ((List.range mo.procs.length).map fun _=>D.ag))).push (.cells ((List.range mo.vars.length).map fun _=>D.ag))).push (.cells ((List.range (2*mo.af.length)).map fun _=>D.ag))=s1 at *;clear z1 z2 z3 m1 m2 m3 n1 n2 n3;refine a1H [0,1,2,6,7,8,9,10,20,21,22,23,24,25,26,27,51,52,301,302,303,304,328,329,330,331,353,354,355,376] (fun f s'=>∃c rw E R res,Bk s s' (a4q s.next (s.next+1) (s.next+1+1)) (a7n mo.procs.length mo.vars.length mo.af.length) c rw E R 80000/\(∀e∈x.r,e∈R)/\Sls R rw res/\(ls.length<=k0->res=bS)/\(k0<ls.length->mo.bV st (Z9 ls k0) res)) ?_ ?_
 ·refine X5 [0,1,2,6,7,8,9,10,20,21,22,23,24,25,26,27,51,52,301,302,303,304,328,329,330,331,353,354,355,376] 0 ls.length (fun i f s'=>f 53=.int .i64 (i:Int)/\∃c rw E R res,Bk s s' (a4q s.next (s.next+1) (s.next+1+1)) (a7n mo.procs.length mo.vars.length mo.af.length) c rw E R (4*i)/\(∀e∈x.r,e∈R)/\Sls R rw res/\(i<=k0->res=bS)/\(k0<i->mo.bV st (Z9 ls k0) res)) (.mk rfl) (by omega) ⟨rfl,_,_,_,_,bS,mY,fun e he=>he,fun _ _=>a1o.nil,fun _=>rfl,fun h=>by omega⟩ ?_
  clear mY wh;rintro i f s2 hi ⟨h,c,rw,E,R,res,hb,hR,kE,lC,jo⟩;by_cases ci:i<ls.length
  rotate_left
  ·obtain rfl:i=ls.length:=by omega
   refine zY (aN h ci) ?_;exact ⟨c,rw,E,R,res,hb.up (by omega),hR,kE,lC,jo⟩
  have jX:=jL _ (b1l ci);have kP:=b1q hl ci (k:=.i64);have pZ:=a17 (A:=fun i=>decide (i=k0)) ci;have fr:=hb.fr;generalize qY:Z9 ls i=w at *;obtain ⟨wk,wp,we,wc⟩:=w;unfold a7m at jX;simp only at jX kP;have jT:∀a b,Fr [] s2 ((s2.push a).set s2.next (some b)):=fun a b=>a1x
  rcases jX with ⟨rfl,hp,he⟩ | ⟨hk,hc⟩
  ·obtain ⟨y,hy,gP⟩:=hm.proc hp
   have gP:=gP .i64;rw [<- a16 hp] at hy gP;unfold U6 at gP;have oy:=hy.az;have jc:=ho.pr _ (a3w hp);have qw:=a8c (k:=.i64) hy.e he;have mf:=jc.inv.ed _ (a6h he);generalize jV:bc (U4 mo.procs wp).ak we=e at *;have f2:Fr [] s2 ((((s2.push (.cells [.int .i64 0,.int .i64 0,.int .i64 0,.int .i64 0])).set s2.next (some (.cells [.int .i64 0,.int .i64 (wp:Int),.int .i64 (we:Int),.int .i64 (wc:Int)]))).push (.cells [.int .i64 0,.int .i64 0,.int .i64 0,.int .i64 0,.int .i64 0,.int .i64 0,.bool false,.int .i64 0])).set (s2.next+1) (some (.cells [.int .i64 (e.au:Int),.int .i64 (e.to:Int),.int .i64 (e.act:Int),.int .i64 e.expr,.int .i64 e.var,.int .i64 e.chan,.bool e.aF,.int .i64 (e.node:Int)]))):=a1x.trans b67 (by simp);have nh:Bk s ((((s2.push (.cells [.int .i64 0,.int .i64 0,.int .i64 0,.int .i64 0])).set s2.next (some (.cells [.int .i64 0,.int .i64 (wp:Int),.int .i64 (we:Int),.int .i64 (wc:Int)]))).push (.cells [.int .i64 0,.int .i64 0,.int .i64 0,.int .i64 0,.int .i64 0,.int .i64 0,.bool false,.int .i64 0])).set (s2.next+1) (some (.cells [.int .i64 (e.au:Int),.int .i64 (e.to:Int),.int .i64 (e.act:Int),.int .i64 e.expr,.int .i64 e.var,.int .i64 e.chan,.bool e.aF,.int .i64 (e.node:Int)]))) (a4q s.next (s.next+1) (s.next+1+1)) (a7n mo.procs.length mo.vars.length mo.af.length) c rw E R (4*i):=hb.dT f2;have gE:(((((s2.push (.cells [.int .i64 0,.int .i64 0,.int .i64 0,.int .i64 0])).set s2.next (some (.cells [.int .i64 0,.int .i64 (wp:Int),.int .i64 (we:Int),.int .i64 (wc:Int)]))).push (.cells [.int .i64 0,.int .i64 0,.int .i64 0,.int .i64 0,.int .i64 0,.int .i64 0,.bool false,.int .i64 0])).set (s2.next+1) (some (.cells [.int .i64 (e.au:Int),.int .i64 (e.to:Int),.int .i64 (e.act:Int),.int .i64 e.expr,.int .i64 e.var,.int .i64 e.chan,.bool e.aF,.int .i64 (e.node:Int)])))).get (s2.next+1)=some (.cells [.int .i64 (e.au:Int),.int .i64 (e.to:Int),.int .i64 (e.act:Int),.int .i64 e.expr,.int .i64 e.var,.int .i64 e.chan,.bool e.aF,.int .i64 (e.node:Int)]):=a0d (by simp);have gW:(((((s2.push (.cells [.int .i64 0,.int .i64 0,.int .i64 0,.int .i64 0])).set s2.next (some (.cells [.int .i64 0,.int .i64 (wp:Int),.int .i64 (we:Int),.int .i64 (wc:Int)]))).push (.cells [.int .i64 0,.int .i64 0,.int .i64 0,.int .i64 0,.int .i64 0,.int .i64 0,.bool false,.int .i64 0])).set (s2.next+1) (some (.cells [.int .i64 (e.au:Int),.int .i64 (e.to:Int),.int .i64 (e.act:Int),.int .i64 e.expr,.int .i64 e.var,.int .i64 e.chan,.bool e.aF,.int .i64 (e.node:Int)])))).get s2.next=some (.cells [.int .i64 0,.int .i64 (wp:Int),.int .i64 (we:Int),.int .i64 (wc:Int)]):=by rw [Z7 (by omega),a0l (by simp),a0d (by simp)]
   have sV:=nh.fr.kp gp;have nA:=nh.fr.kp gv;have rz:(((((s2.push (.cells [.int .i64 0,.int .i64 0,.int .i64 0,.int .i64 0])).set s2.next (some (.cells [.int .i64 0,.int .i64 (wp:Int),.int .i64 (we:Int),.int .i64 (wc:Int)]))).push (.cells [.int .i64 0,.int .i64 0,.int .i64 0,.int .i64 0,.int .i64 0,.int .i64 0,.bool false,.int .i64 0])).set (s2.next+1) (some (.cells [.int .i64 (e.au:Int),.int .i64 (e.to:Int),.int .i64 (e.act:Int),.int .i64 e.expr,.int .i64 e.var,.int .i64 e.chan,.bool e.aF,.int .i64 (e.node:Int)])))).get s.next=some (.cells ((List.range mo.procs.length).map (c 0))):=nh.ar 0 (by decide);have nL:((List.range mo.procs.length).map (c 0))[wp]?=some (c 0 wp):=by simp [hp]
   have sR:=hb.one 0 wp;have gvA:=fun a b=>(hb.dT (jT a b)).fr.kp gv
   obtain ⟨q1,y1,j1,j2,oX,mR⟩:=(hv.fr nh.fr).e.aI hp (k:=.i64);have xN:=mR.len;rw [show (mo.bP st wp).length=Z1 ((U4 mo.procs wp).ah:Int) by unfold Mo.bP;rw [a0Q]] at xN;have nK:=a4R ((U4 mo.procs wp).ah:Int);obtain ⟨dn,qo,hnz⟩:=c0l (e.to:Int) (w:=Z1 ((U4 mo.procs wp).ah:Int)) nK.2;have qo:=a0F qo;have on:=(hnz.vb s).one;refine zY (U5 h ci kP sV nA om oo (U5 gP oy qw gvA rz nL sR (aN pZ j1))) ?_;refine b0T j2 ?_;refine zY (V3 oX xN qo on) ?_;have BK:Fre (a4q s.next (s.next+1) (s.next+1+1)) E s2.next:=hb.new (Nat.le_refl _);have hfE:Fre (a4q s.next (s.next+1) (s.next+1+1)) E (s2.next+1):=hb.new (by omega);have hnW:=BK.dg (k:=0) (j:=wp) (m:=s2.next+1+1+1) (by omega);have nZ:wp<((List.range mo.procs.length).map (c 0)).length:=by simpa using hp
   refine a9c (k:=0) (j:=wp) nh (by decide) hp rfl rfl (by decide) (by omega) (by simp [a4E,a1r];exact hnW) fun s3 d' E3 lP lW gY jU hni=>?_
   have lW:s3.get s.next=some (.cells ((List.range mo.procs.length).map (c 0))):=lW;have Ba:=u7 lW;have hs:=a6H (f:=c) (k:=0) (j:=wp) (n:=mo.procs.length) (x:=d') hp;obtain ⟨_,uj,fW3⟩:=gY _ _ gW BK;obtain ⟨_,mG,fE3⟩:=gY _ _ gE hfE;have uj:(s3.set s.next (some (.cells ((List.range mo.procs.length).map (W5 c 0 wp d' 0))))).get s2.next=some (.cells [.int .i64 0,.int .i64 (wp:Int),.int .i64 (we:Int),.int .i64 (wc:Int)]):=uj;have mG:(s3.set s.next (some (.cells ((List.range mo.procs.length).map (W5 c 0 wp d' 0))))).get (s2.next+1)=some (.cells [.int .i64 (e.au:Int),.int .i64 (e.to:Int),.int .i64 (e.act:Int),.int .i64 e.expr,.int .i64 e.var,.int .i64 e.chan,.bool e.aF,.int .i64 (e.node:Int)]):=mG;have jU:Bk s (s3.set s.next (some (.cells ((List.range mo.procs.length).map (W5 c 0 wp d' 0))))) (a4q s.next (s.next+1) (s.next+1+1)) (a7n mo.procs.length mo.vars.length mo.af.length) (W5 c 0 wp d') (W5 rw 0 wp (rw 0 wp++[[.int .i64 (V4 (decide (i=k0))),dn]])) E3 R (4*i+1):=jU;have oU:s.next≠s2.next:=by have:=hb.ltA (k:=0) (by decide);simp only [a4q] at this;omega
   have oF:=kE.app (k:=0) (j:=wp) (b:=decide (i=k0)) (row:=[.int .i64 (V4 (decide (i=k0))),dn]) (l:=bL (e.to:Int) (Z1 ((U4 mo.procs wp).ah:Int))) rfl (a2X.two hnz.rr) (fun e=>by rw [lC (by have:=of_decide_eq_true e;omega)];rfl);have ha:=mf.act;have h6:e.act=0∨e.act=1∨e.act=2∨e.act=3∨e.act=4∨e.act=5:=by omega
   rcases h6 with ha | ha | ha | ha | ha | ha
   ·refine zY (Y3 lP lW nZ hs oU mG ha) ?_
    have iT:=a6P (ls:=ls) (kW:=W5 res 0 wp (some (bL (e.to:Int) (Z1 ((U4 mo.procs wp).ah:Int))))) lC jo fun e0=>by
     rw [qY,e0];exact b4B jV (by omega)
    exact ⟨ci,_,_,_,R,_,jU.up (by omega),hR,oF,iT.1,iT.2⟩
   ·obtain ⟨k,kv,lK,lY⟩:=mf.gD (by omega)
    obtain ⟨u,tI,nN⟩:=mf.v1 (by omega);have kx:=jc.var u tI;have lz:=FLV.idx hm.v kx (k:=.i64);rw [<- a3q kx] at lz;unfold Vr.row at lz;have pL:=iF.vr _ (List.getElem_mem kx);rw [<- a3q kx] at pL;obtain ⟨W,hW⟩:∃W:Nat,(cd mo.vars u).width=(W:Int):=⟨(cd mo.vars u).width.toNat,by omega⟩
    rw [hW] at lz;rw [kv,nN] at mG;have qJ:=jU.fr.kp gv;have BO:=jU.fr.kp gp;refine zY (U5 lP lW nZ hs oU mG uj ha) ?_;generalize s3.set s.next (some (.cells ((List.range mo.procs.length).map (W5 c 0 wp d' 0))))=s4 at *;have yF:=u7 mG;have lW4:=u7 uj;refine xxm (a8e hm ho (hv.fr jU.fr).e hp) (fun d s' h=>h.2) (by simp) fun fo s5 E5 jj hE5=>?_
    obtain ⟨jj,f5⟩:=jj;have lJ:=jj.1;have pI:=jU.dT f5;have wM:=f5.kp mG;have uH:a2b (s2.next+1) E5:=a4k hE5 yF;refine zY (V5 wM uH lJ) ?_;refine a2D (a0D (a8f hm ho iF h8 (gT.e ho iF) hp lK lY (hg.fr pI.fr) (hv.fr pI.fr).e jj) rfl ?_);rintro r s6 ⟨dz,z,rfl,oz,iz,hz,vz,f6⟩;have oE:=pI.dT f6;have rH:=f6.kp wM;have lE6:=u7 rH;have wQ:=oE.fr.kp gp;have vv:=oE.fr.kp gv;have lp6:=u7 wQ;have lv6:=u7 vv;have qx:s6.get (s.next+1)=some (.cells ((List.range mo.vars.length).map (W5 c 0 wp d' 1))):=oE.ar 1 (by decide);have lb6:=u7 qx;have zI:((List.range mo.vars.length).map (W5 c 0 wp d' 1))[u]?=some (W5 c 0 wp d' 1 u):=by simp [kx]
    have zB:=oE.one 1 u;refine zY (U5 oz rH qx zI zB wQ pZ (V3 vv om oo lz)) ?_;refine xxm (a9V (w:=W) hz (by rw [a0Q];omega) (by rw [a0Q];omega) (by omega) (by omega)) (fun d s' h=>by obtain ⟨b,_,_,_,f⟩:=h;exact f) (by simp;omega) fun dw s7 E7 wG hE7=>?_
    obtain ⟨b7,rfl,nb7,g7,f7⟩:=wG;rw [b6p iz (by omega)] at g7;have qU:=(oE.dT f7).ei g7 (oE.new nb7);have uh:=f7.kp rH;have AA:=u7 uh;have pX:=fE3.dg (k:=1) (j:=u) (m:=s7.next+1) (by omega);have lF:u<((List.range mo.vars.length).map (W5 c 0 wp d' 1)).length:=by simpa using kx
    refine V6 ?_;refine a9c (k:=1) (j:=u) qU (by decide) kx rfl rfl (by decide) (by omega) (by simp [a4E,a1r];exact pX) fun s8 d8 E8 od8 mI hfr8 og hni8=>?_
    have mI:s8.get (s.next+1)=some (.cells ((List.range mo.vars.length).map (W5 c 0 wp d' 1))):=mI;have Cc:=u7 mI;have wy:=a6H (f:=W5 c 0 wp d') (k:=1) (j:=u) (n:=mo.vars.length) (x:=d8) kx;refine zY (V3 od8 mI lF wy) ?_;have uN:decide (i=k0)=true->res=bS:=fun e=>lC (by have:=of_decide_eq_true e;omega)
    have mP:=(oF.mono (R':=(b7,U1 (bL z W))::R) fun e he=>by simp [he]).app (k:=1) (j:=u) (b:=decide (i=k0)) (row:=[.int .i64 (V4 (decide (i=k0))),.arr b7 0 W 1]) (l:=bL z W) rfl (a2X.two (Rr.dK (a0Q _ _))) fun e=>b2C uN e (by omega)
    rw [b0m] at mP;have iT:=a6P (ls:=ls) (kW:=W5 (W5 res 0 wp (some (bL (e.to:Int) (Z1 ((U4 mo.procs wp).ah:Int))))) 1 u (some (bL z W))) lC jo fun e0=>by
     rw [qY,e0];exact c3C jV ha kv nN iz vz (by rw [hW];rfl)
    exact ⟨ci,_,_,_,_,_,og.up (by omega),fun e he=>by simp [hR e he],mP,iT.1,iT.2⟩
   ·obtain ⟨k,kv,lK,lY⟩:=mf.gD (by omega)
    obtain ⟨u,nN,kx⟩:=mf.c1 (by omega);have lz:=FLC.idx hm.c kx (k:=.i64);rw [<- a2q kx] at lz;unfold Ch.row at lz;have pL:=iF.ch _ (List.getElem_mem kx);rw [<- a2q kx] at pL;obtain ⟨W,hW⟩:∃W:Nat,(U7 mo.af u).width=(W:Int):=⟨(U7 mo.af u).width.toNat,by omega⟩
    rw [hW] at lz;rw [kv,nN] at mG;have qJ:=jU.fr.kp gv;have BO:=jU.fr.kp gp;refine zY (U5 lP lW nZ hs oU mG uj ha) ?_;generalize s3.set s.next (some (.cells ((List.range mo.procs.length).map (W5 c 0 wp d' 0))))=s4 at *;have yF:=u7 mG;have lW4:=u7 uj;refine xxm (a8e hm ho (hv.fr jU.fr).e hp) (fun d s' h=>h.2) (by simp) fun fo s5 E5 jj hE5=>?_
    obtain ⟨jj,f5⟩:=jj;have lJ:=jj.1;have pI:=jU.dT f5;have wM:=f5.kp mG;have uH:a2b (s2.next+1) E5:=a4k hE5 yF;refine zY (V5 wM uH lJ) ?_;refine a2D (a0D (a8f hm ho iF h8 (gT.e ho iF) hp lK lY (hg.fr pI.fr) (hv.fr pI.fr).e jj) rfl ?_);rintro r s6 ⟨dz,z,rfl,oz,iz,hz,vz,f6⟩;have oE:=pI.dT f6;have rH:=f6.kp wM;have lE6:=u7 rH;have wQ:=oE.fr.kp gp;have vv:=oE.fr.kp gv;have lp6:=u7 wQ;have lv6:=u7 vv;have qx:s6.get (s.next+1+1)=some (.cells ((List.range (2*mo.af.length)).map (W5 c 0 wp d' 2))):=oE.ar 2 (by decide);have lb6:=u7 qx;have zI:((List.range (2*mo.af.length)).map (W5 c 0 wp d' 2))[u*2]?=some (W5 c 0 wp d' 2 (u*2)):=a7Y (by omega);have zB:=oE.one 2 (u*2);refine zY (U5 oz rH qx zI zB wQ pZ (V3 vv om oo lz)) ?_;refine xxm (a9V (w:=W) hz (by rw [a0Q];omega) (by rw [a0Q];omega) (by omega) (by omega)) (fun d s' h=>by obtain ⟨b,_,_,_,f⟩:=h;exact f) (by simp;omega) fun dw s7 E7 wG hE7=>?_
    obtain ⟨b7,rfl,nb7,g7,f7⟩:=wG;rw [b6p iz (by omega)] at g7;have qU:=(oE.dT f7).ei g7 (oE.new nb7);have uh:=f7.kp rH;have AA:=u7 uh;have pX:=fE3.dg (k:=2) (j:=u*2) (m:=s7.next+1) (by omega);have lF:u*2<((List.range (2*mo.af.length)).map (W5 c 0 wp d' 2)).length:=by simp;omega
    refine V6 ?_;refine a9c (k:=2) (j:=u*2) qU (by decide) (by show _<2*mo.af.length;omega) (by simp [bY]) rfl (by decide) (by omega) (by simp [a4E,a1r];exact pX) fun s8 d8 E8 od8 mI hfr8 og hni8=>?_
    have mI:s8.get (s.next+1+1)=some (.cells ((List.range (2*mo.af.length)).map (W5 c 0 wp d' 2))):=mI;have Cc:=u7 mI;have wy:=a6H (f:=W5 c 0 wp d') (k:=2) (j:=u*2) (n:=2*mo.af.length) (x:=d8) (by omega);refine zY (V3 od8 mI lF wy) ?_;have uN:decide (i=k0)=true->res=bS:=fun e=>lC (by have:=of_decide_eq_true e;omega)
    have mP:=(oF.mono (R':=(b7,U1 (bL z W))::R) fun e he=>by simp [he]).app (k:=2) (j:=u*2) (b:=decide (i=k0)) (row:=[.int .i64 (V4 (decide (i=k0))),.arr b7 0 W 1]) (l:=bL z W) rfl (a2X.two (Rr.dK (a0Q _ _))) fun e=>b2C uN e (by omega)
    rw [b0m] at mP;have iT:=a6P (ls:=ls) (kW:=W5 (W5 res 0 wp (some (bL (e.to:Int) (Z1 ((U4 mo.procs wp).ah:Int))))) 2 (u*2) (some (bL z W))) lC jo fun e0=>by
     rw [qY,e0];exact c3r jV ha kv nN iz vz (by rw [hW];rfl)
    exact ⟨ci,_,_,_,_,_,og.up (by omega),fun e he=>by simp [hR e he],mP,iT.1,iT.2⟩
   ·obtain ⟨q,qC,hq2⟩:=mf.c1 (by omega)
    obtain ⟨u,tI,nN⟩:=mf.v1 (by omega);have kx:=jc.var u tI;have lz:=FLV.idx hm.v kx (k:=.i64);rw [<- a3q kx] at lz;unfold Vr.row at lz;have pL:=iF.vr _ (List.getElem_mem kx);rw [<- a3q kx] at pL;obtain ⟨W,hW⟩:∃W:Nat,(cd mo.vars u).width=(W:Int):=⟨(cd mo.vars u).width.toNat,by omega⟩
    rw [hW] at lz;rw [qC,nN] at mG;have qJ:=jU.fr.kp gv;have BO:=jU.fr.kp gp;have Ai:=iF.ch _ (List.getElem_mem hq2);rw [<- a2q hq2] at Ai;obtain ⟨q3,y3,j3,j4,zo,xx⟩:=(hv.fr jU.fr).ms hq2 (k:=.i64);have qS:(mo.cR st q).length=(U7 mo.af q).room.toNat:=by simp [Mo.cR]
    obtain ⟨q4,y4,j5,j6,vu⟩:=xx.idx (hv.fr jU.fr).hs (i:=0) (by omega) (k:=.i64);have oy4:=vu.one;have vu:=vu.vb (hv.fr jU.fr).hs;rw [show (mo.cR st q)[0]'(by omega)=mo.bU st q 0 by simp [Mo.cR]] at vu;have j5:W1 1 y3 (.int .i64 0)=some q4:=j5;have kg:W9 (Y8 (V8 st.af q) 0) (U7 mo.af q).width.toNat=Y8 (V8 st.af q) 0:=by
     by_cases c0:0<(V8 st.af q).length
     ·have mw:q<st.af.length:=by rw [gT.af];exact hq2
      have h1:=gT.cv q mw hq2;rw [<- a3K mw,<- a2q hq2] at h1;refine h1 _ ?_;rw [a3D c0];exact List.getElem_mem c0
     ·have e:Y8 (V8 st.af q) 0=0:=by
       unfold Y8;rw [List.getD,List.getElem?_eq_none (by omega)];rfl
      rw [e];exact b4X (by omega)
    refine zY (U5 lP lW nZ hs oU mG uj (U5 ha qJ om oo j3 j4 zo (V3 j5 j6 oy4 lz))) ?_;generalize s3.set s.next (some (.cells ((List.range mo.procs.length).map (W5 c 0 wp d' 0))))=s4 at *;have yF:=u7 mG;refine xv (a9V (w:=W) (l:=mo.bU st q 0) vu (by unfold Mo.bU;rw [a0Q];omega) (by unfold Mo.bU;rw [a0Q];omega) (by omega) (by omega)) fun b7 s7 nb7 g7 f7=>?_
    unfold Mo.bU at g7;rw [wideW (by omega) (by omega) kg] at g7;have qU:=(jU.dT f7).ei g7 (jU.new nb7);have uh:=f7.kp mG;have AA:=u7 uh;have yL:=qU.fr.kp gp;have lp7:=u7 yL;have tO:s7.get (s.next+1)=some (.cells ((List.range mo.vars.length).map (W5 c 0 wp d' 1))):=qU.ar 1 (by decide);have lb7:=u7 tO;have hg7:((List.range mo.vars.length).map (W5 c 0 wp d' 1))[u]?=some (W5 c 0 wp d' 1 u):=by simp [kx]
    have hc7:=qU.one 1 u;have pX:=fE3.dg (k:=1) (j:=u) (m:=s7.next+1) (by omega);have lF:u<((List.range mo.vars.length).map (W5 c 0 wp d' 1)).length:=by simpa using kx
    refine zY (Y6 uh tO hg7 hc7 yL pZ) ?_;refine a9c (k:=1) (j:=u) qU (by decide) kx rfl rfl (by decide) (by omega) (by simp [a4E,a1r];exact pX) fun s8 d8 E8 od8 mI hfr8 og hni8=>?_
    have mI:s8.get (s.next+1)=some (.cells ((List.range mo.vars.length).map (W5 c 0 wp d' 1))):=mI;have Cc:=u7 mI;have wy:=a6H (f:=W5 c 0 wp d') (k:=1) (j:=u) (n:=mo.vars.length) (x:=d8) kx;obtain ⟨BS,_,fE8⟩:=hfr8 _ _ uh fE3;obtain ⟨yI,_,_⟩:=hfr8 _ _ yL (qU.bC lp);have xD:(s8.set (s.next+1) (some (.cells ((List.range mo.vars.length).map (W5 (W5 c 0 wp d') 1 u d8 1))))).get (s.next+1+1)=some (.cells ((List.range (2*mo.af.length)).map (W5 (W5 c 0 wp d') 1 u d8 2))):=og.ar 2 (by decide);rw [Z7 (by omega)] at xD;have og:Bk s (s8.set (s.next+1) (some (.cells ((List.range mo.vars.length).map (W5 (W5 c 0 wp d') 1 u d8 1))))) (a4q s.next (s.next+1) (s.next+1+1)) (a7n mo.procs.length mo.vars.length mo.af.length) _ _ _ _ _:=og;have hg8:((List.range (2*mo.af.length)).map (W5 (W5 c 0 wp d') 1 u d8 2))[q*2+1]?=some (W5 (W5 c 0 wp d') 1 u d8 2 (q*2+1)):=a7Y (by omega);have hc8:=og.one 2 (q*2+1);have lE8:=u7 BS;have hnE8:=fE8.dg (k:=2) (j:=q*2+1) (m:=s8.next+1) (by omega);have rY:q*2+1<((List.range (2*mo.af.length)).map (W5 (W5 c 0 wp d') 1 u d8 2)).length:=by simp;omega
    refine zY (U5 od8 mI lF wy BS yI xD (V5 pZ hg8 hc8)) ?_;refine a9c (k:=2) (j:=q*2+1) og (by decide) (by show _<2*mo.af.length;omega) (by simp [bY]) rfl (by decide) (by omega) (by simp [a4E,a1r];exact hnE8) fun s9 d9 E9 od9 yA hfr9 hb9 hni9=>?_
    have yA:s9.get (s.next+1+1)=some (.cells ((List.range (2*mo.af.length)).map (W5 (W5 c 0 wp d') 1 u d8 2))):=yA;have la9:=u7 yA;have hs9:=a6H (f:=W5 (W5 c 0 wp d') 1 u d8) (k:=2) (j:=q*2+1) (n:=2*mo.af.length) (x:=d9) (by omega);refine zY (V3 od9 yA rY hs9) ?_;have uN:decide (i=k0)=true->res=bS:=fun e=>lC (by have:=of_decide_eq_true e;omega)
    have mP:=(oF.mono (R':=(b7,U1 (bL (Y8 (V8 st.af q) 0) W))::R) fun e he=>by simp [he]).app (k:=1) (j:=u) (b:=decide (i=k0)) (row:=[.int .i64 (V4 (decide (i=k0))),.arr b7 0 W 1]) (l:=bL (Y8 (V8 st.af q) 0) W) rfl (a2X.two (Rr.dK (a0Q _ _))) fun e=>b2C uN e (by omega)
    rw [b0m] at mP;have xh:=mP.app (k:=2) (j:=q*2+1) (b:=decide (i=k0)) (row:=[.int .i64 (V4 (decide (i=k0)))]) (l:=[]) rfl a2X.one fun e=>by
     rw [if_pos e,a26 (by omega),a26 (by omega),uN e];rfl
    rw [b0m] at xh;have iT:=a6P (ls:=ls) (kW:=W5 (W5 (W5 res 0 wp (some (bL (e.to:Int) (Z1 ((U4 mo.procs wp).ah:Int))))) 1 u (some (bL (Y8 (V8 st.af q) 0) W))) 2 (q*2+1) (some [])) lC jo fun e0=>by
     rw [qY,e0];exact c4V jV ha nN qC (by rw [hW];rfl)
    exact ⟨ci,_,_,_,_,_,hb9.up (by omega),fun e he=>by simp [hR e he],xh,iT.1,iT.2⟩
   ·refine zY (Y3 lP lW nZ hs oU mG ha) ?_
    have iT:=a6P (ls:=ls) (kW:=W5 res 0 wp (some (bL (e.to:Int) (Z1 ((U4 mo.procs wp).ah:Int))))) lC jo fun e0=>by
     rw [qY,e0];exact b4B jV (by omega)
    exact ⟨ci,_,_,_,R,_,jU.up (by omega),hR,oF,iT.1,iT.2⟩
   ·refine zY (Y3 lP lW nZ hs oU mG ha) ?_
    have iT:=a6P (ls:=ls) (kW:=W5 res 0 wp (some (bL (e.to:Int) (Z1 ((U4 mo.procs wp).ah:Int))))) lC jo fun e0=>by
     rw [qY,e0];exact b4B jV (by omega)
    exact ⟨ci,_,_,_,R,_,jU.up (by omega),hR,oF,iT.1,iT.2⟩
  have gc:∀j,j<2*mo.af.length->((List.range (2*mo.af.length)).map (c 2))[j]?=some (c 2 j):=fun j hj=>by simp [hj]
  have xO:=gc (wc*2+1) (by omega);have nL:=gc (wc*2) (by omega);have yB:=hb.one 2 (wc*2+1);have sR:=hb.one 2 (wc*2);rcases hk with rfl | rfl
  ·have nh:=hb.dT (jT (.cells [.int .i64 0,.int .i64 0,.int .i64 0,.int .i64 0]) (.cells [.int .i64 1,.int .i64 (wp:Int),.int .i64 (we:Int),.int .i64 (wc:Int)]))
   have sV:=nh.fr.kp gp;have zM:((s2.push (.cells [.int .i64 0,.int .i64 0,.int .i64 0,.int .i64 0])).set s2.next (some (.cells [.int .i64 1,.int .i64 (wp:Int),.int .i64 (we:Int),.int .i64 (wc:Int)]))).get (s.next+1+1)=some (.cells ((List.range (2*mo.af.length)).map (c 2))):=nh.ar 2 (by decide);refine zY (U5 h ci kP sV pZ zM xO yB) ?_;have yV:wc*2+1<((List.range (2*mo.af.length)).map (c 2)).length:=by simp;omega
   refine b2x (k:=2) (j:=wc*2+1) nh (by decide) (by show _<2*mo.af.length;omega) (by simp [bY]) rfl (by decide) (by omega) fun s3 d' E' lP lW gY jU=>?_
   have lW:s3.get (s.next+1+1)=some (.cells ((List.range (2*mo.af.length)).map (c 2))):=lW;have Ba:=u7 lW;have hs:=a6H (f:=c) (k:=2) (j:=wc*2+1) (n:=2*mo.af.length) (x:=d') (by omega);refine zY (V3 lP lW yV hs) ?_;have iT:=a6P (ls:=ls) (kW:=W5 res 2 (wc*2+1) (some [])) lC jo fun e=>by
    rw [qY,e];unfold Mo.bV;rw [if_pos rfl]
   exact ⟨ci,_,_,_,R,_,jU.up (by omega),hR,kE.app (b:=decide (i=k0)) rfl a2X.one (fun e=>by rw [lC (by have:=of_decide_eq_true e;omega)];rfl),iT.1,iT.2⟩
  ·have nh:=hb.dT (jT (.cells [.int .i64 0,.int .i64 0,.int .i64 0,.int .i64 0]) (.cells [.int .i64 2,.int .i64 (wp:Int),.int .i64 (we:Int),.int .i64 (wc:Int)]))
   have sV:=nh.fr.kp gp;have nA:=nh.fr.kp gv;have zM:((s2.push (.cells [.int .i64 0,.int .i64 0,.int .i64 0,.int .i64 0])).set s2.next (some (.cells [.int .i64 2,.int .i64 (wp:Int),.int .i64 (we:Int),.int .i64 (wc:Int)]))).get (s.next+1+1)=some (.cells ((List.range (2*mo.af.length)).map (c 2))):=nh.ar 2 (by decide);obtain ⟨q1,y1,j1,j2,oX,mR⟩:=(hv.fr nh.fr).ms hc (k:=.i64);have yE:=iF.ch _ (List.getElem_mem hc);have qS:(mo.cR st wc).length=(U7 mo.af wc).room.toNat:=by simp [Mo.cR]
   rw [a2q hc] at qS;obtain ⟨q2,y2,j3,j4,ky⟩:=mR.idx (hv.fr nh.fr).hs (i:=0) (by omega) (k:=.i64);have sw:=ky.one;rw [show (mo.cR st wc)[0]'(by omega)=mo.bU st wc 0 by simp [Mo.cR]] at ky;have j3:W1 1 y1 (.int .i64 0)=some q2:=j3;refine zY (U5 h ci kP sV nA om oo (U5 pZ zM nL sR j1 j2 oX (V5 j3 j4 sw))) ?_;have yV:wc*2<((List.range (2*mo.af.length)).map (c 2)).length:=by simp;omega
   refine b2x (k:=2) (j:=wc*2) nh (by decide) (by show _<2*mo.af.length;omega) (by simp [bY]) rfl (by decide) (by omega) fun s3 d' E' lP lW gY jU=>?_
   have lW:s3.get (s.next+1+1)=some (.cells ((List.range (2*mo.af.length)).map (c 2))):=lW;have Ba:=u7 lW;have hs:=a6H (f:=c) (k:=2) (j:=wc*2) (n:=2*mo.af.length) (x:=d') (by omega);refine zY (V3 lP lW yV hs) ?_;have iT:=a6P (ls:=ls) (kW:=W5 res 2 (wc*2) (some (mo.bU st wc 0))) lC jo fun e=>by
    rw [qY,e];unfold Mo.bV;rw [if_neg (by simp),if_pos rfl]
   exact ⟨ci,_,_,_,R,_,jU.up (by omega),hR,kE.app (b:=decide (i=k0)) rfl (a2X.two (ky.mono hR)) (fun e=>by rw [lC (by have:=of_decide_eq_true e;omega)];rfl),iT.1,iT.2⟩
 clear wh;rintro f s2 ⟨c,rw,E,R,res,hb,hR,kE,lC,jo⟩;obtain ⟨gN,iE,hft,h8t,hA,hV,hZ,ux⟩:=nx_st ho iF gT lC jo;have ik:=hb.fr;have ji:=ik.kp gv;have nR:=u7 ji;have tF:Y2 s2 x.r:=hv.hs.fr ik;have jw:GH s2.next (s2.push (.cells [.ptr g 0,m.dt,.int .i64 m.g,m.dc,m.dv,m.dp,m.ds,.bool m.b,.ag,.ag,.ag,.ag,.ag])) [(s2.next,a1f g m .ag .ag .ag .ag .ag)] x.r:=GH.start tF;have f0:Fr [] s2 (s2.push (.cells [.ptr g 0,m.dt,.int .i64 m.g,m.dc,m.dv,m.dp,m.ds,.bool m.b,.ag,.ag,.ag,.ag,.ag])):=Fr.push _;refine zY (V3 ji om oo la) ?_;generalize s2.push (.cells [.ptr g 0,m.dt,.int .i64 m.g,m.dc,m.dv,m.dp,m.ds,.bool m.b,.ag,.ag,.ag,.ag,.ag])=s3 at *;refine a1H [0,1,2,6,7,8,9,10,11,12,13,14,15,17,19,20,23,24,25,26,27,51,52,53,54,60,67,148,149,190,233,301,302,328,329,330,331,353,354,355,376] (fun f' s'=>∃dA E1 R1,GH s2.next s' ((s2.next,a1f g m dA .ag .ag .ag .ag)::E1) R1/\(∀e∈x.r,e∈R1)/\LL (E1++R1) dA ((List.range mo.procs.length).map (mo.gH st res))/\Fr [] s2 s') ?_ ?_
 ·refine X5 [0,1,2,6,7,8,9,10,11,12,13,14,15,17,19,20,23,24,25,26,27,51,52,53,54,60,67,148,149,190,233,301,302,328,329,330,331,353,354,355,376] 0 mo.procs.length (fun i f' s'=>f' 303=.int .i64 (i:Int)/\∃dA ds E1 R1,GH s2.next s' ((s2.next,a1f g m dA .ag .ag .ag .ag)::E1) R1/\(∀e∈x.r,e∈R1)/\Rp dA 1 (a0y ds) E1/\GL R1 ds ((List.range i).map (mo.gH st res))/\Fr [] s2 s') (.mk rfl) (by omega) ⟨rfl,.ag,[],[],x.r,jw,fun e he=>he,.inl ⟨rfl,rfl,rfl⟩,⟨rfl,rfl,by simp⟩,f0⟩ ?_
  clear jw f0;rintro i f' s4 hi ⟨h,dA,ds,E1,R1,jw,kX,nu,lj,fr⟩;have oA:=nu.one;by_cases ci:i<mo.procs.length
  rotate_left
  ·obtain rfl:i=mo.procs.length:=by omega
   refine zY (aN h ci) ?_;exact ⟨dA,E1,R1,jw,kX,(lj.mono fun e he=>by simp [he]).ll nu fun e he=>by simp [he],fr⟩
  have iy:=ik.trans fr (by simp);have jB:=hb.dT fr;have sq:=tF.fr fr;obtain ⟨p1,y1,i1,i2,mR⟩:=hv.la.idx sq (i:=i) (by simpa using ci) (k:=.i64);rw [show ((List.range mo.procs.length).map (mo.bP st))[i]'(by simpa using ci)=mo.bP st i by simp] at mR;have oX:=mR.one;have rz:s4.get s.next=some (.cells ((List.range mo.procs.length).map (c 0))):=jB.ar 0 (by decide);have nL:((List.range mo.procs.length).map (c 0))[i]?=some (c 0 i):=a7Y ci;have sR:=hb.one 0 i;have gO:=jw.gO;have lO:=u7 gO;have kD:=lj.n;rw [List.length_map,List.length_range] at kD;have uC:(mo.bP st i).length=Z1 ((U4 mo.procs i).ah:Int):=by simp [Mo.bP]
  have nK:=a4R ((U4 mo.procs i).ah:Int);refine zY (U5 h ci i1 i2 oX gO oA (V5 rz nL sR)) ?_;refine xxn (b16 (bC:=mo.bP st i) (hg.fr iy) sq mR (by omega) jB.rd (jB.rp 0 i) (jB.he 0 i) (jB.rl 0 i) (kE 0 i) (fun l hl=>by rw [uC];exact gN.a i l ci hl) (Nat.le_trans (jB.ln 0 i) (by omega))) (fun d s' h=>by obtain ⟨_,_,_,_,f⟩:=h;exact f) (by simp;omega) fun r s5 E5 kh hE5=>a2D (a3b ?_)
  obtain ⟨R5,n5,uJ,mC,f5⟩:=kh;have Ae:=mC.one;have jP:=jw.ei f5 uJ n5;have yh:=jP.gO;have iK:=fr.trans f5 (by simp);refine zY Ae ?_;refine a8O (A:=[(s2.next,a1f g m dA .ag .ag .ag .ag)]) (F:=E1) (B:=[]) (by simpa using jP) iK.1 nu (by omega) fun id s6 tY jg f6=>?_
  have jg:GH s2.next s6 ((s2.next,a1f g m dA .ag .ag .ag .ag)::[(id,(a0y (ds++[r])).flatten)]) (R5++R1):=by simpa using jg
  have f26:=GH.frW (A:=[(s2.next,a1f g m dA .ag .ag .ag .ag)]) (F:=E1) (B:=[]) (by simpa using jP) iK f6;have ql:=jg.gO;have zU:=u7 ql;refine zY ql ?_;have mU:=jg.sO (.arr id 0 (ds.length+1) 1) .ag .ag .ag .ag;refine ⟨ci,_,ds++[r],_,_,mU,fun e he=>by simp [kX e he],tY,?_,f26.st (Nat.le_refl _) _⟩;simp only [List.range_succ,List.map_append,List.map_cons,List.map_nil];exact (lj.mono fun e he=>by simp [he]).snoc (mC.mono fun e he=>by
   rcases List.mem_append.1 he with he | he
   ·simp [he]
   ·simp [kX e he])
 rintro f' s4 ⟨dA,E1,R1,jw,kX,rN,fr⟩;have oA:=rN.one;have lB:=fr.kp ji;have tc:=u7 lB;have jw:GH s2.next s4 [(s2.next,a1f g m dA .ag .ag .ag .ag)] (E1++R1):=GH.du (E:=[(s2.next,a1f g m dA .ag .ag .ag .ag)]) (F:=E1) (by simpa using jw);have kX:∀e∈x.r,e∈E1++R1:=fun e he=>by simp [kX e he]
 generalize E1++R1=RA at *;refine zY (V3 lB om oo uV) ?_;refine a1H [0,1,2,6,7,8,9,10,11,12,13,14,15,17,19,20,21,22,25,26,27,51,52,53,54,60,67,148,149,190,233,301,302,303,304,328,329,353,354,355,376] (fun f' s'=>∃dV E2 R2,GH s2.next s' ((s2.next,a1f g m dA dV .ag .ag .ag)::E2) R2/\(∀e∈x.r,e∈R2)/\LL (E2++R2) dV ((List.range mo.vars.length).map (mo.fT st res))/\(∀e∈RA,e∈R2)/\Fr [] s2 s') ?_ ?_
 ·refine X5 [0,1,2,6,7,8,9,10,11,12,13,14,15,17,19,20,21,22,25,26,27,51,52,53,54,60,67,148,149,190,233,301,302,303,304,328,329,353,354,355,376] 0 mo.vars.length (fun i f' s'=>f' 330=.int .i64 (i:Int)/\∃dV ds E2 R2,GH s2.next s' ((s2.next,a1f g m dA dV .ag .ag .ag)::E2) R2/\(∀e∈x.r,e∈R2)/\Rp dV 1 (a0y ds) E2/\GL R2 ds ((List.range i).map (mo.fT st res))/\(∀e∈RA,e∈R2)/\Fr [] s2 s') (.mk rfl) (by omega) ⟨rfl,.ag,[],[],RA,jw,kX,.inl ⟨rfl,rfl,rfl⟩,⟨rfl,rfl,by simp⟩,fun e he=>he,fr⟩ ?_
  clear jw fr lB tc kX;rintro i f' s4 hi ⟨h,dV,ds,E2,R2,jw,kX,nu,lj,oZ,fr⟩;have oV:=nu.one;by_cases ci:i<mo.vars.length
  rotate_left
  ·obtain rfl:i=mo.vars.length:=by omega
   refine zY (aN h ci) ?_;exact ⟨dV,E2,R2,jw,kX,(lj.mono fun e he=>by simp [he]).ll nu fun e he=>by simp [he],oZ,fr⟩
  have iy:=ik.trans fr (by simp);have jB:=hb.dT fr;have sq:=tF.fr fr;obtain ⟨p1,y1,i1,i2,mR⟩:=hv.lv.idx sq (i:=i) (by simpa using ci) (k:=.i64);rw [show ((List.range mo.vars.length).map (mo.bQ st))[i]'(by simpa using ci)=mo.bQ st i by simp] at mR;have oX:=mR.one;have rz:s4.get (s.next+1)=some (.cells ((List.range mo.vars.length).map (c 1))):=jB.ar 1 (by decide);have nL:((List.range mo.vars.length).map (c 1))[i]?=some (c 1 i):=a7Y ci;have sR:=hb.one 1 i;have gO:=jw.gO;have lO:=u7 gO;have kD:=lj.n;rw [List.length_map,List.length_range] at kD;have uC:(mo.bQ st i).length=(cd mo.vars i).width.toNat:=by simp [Mo.bQ]
  have nK:=iF.vr _ (a5V ci);refine zY (U5 h ci i1 i2 oX gO oA (V3 oV rz nL sR)) ?_;refine xxn (b16 (bC:=mo.bQ st i) (hg.fr iy) sq mR (by omega) jB.rd (jB.rp 1 i) (jB.he 1 i) (jB.rl 1 i) (kE 1 i) (fun l hl=>by rw [uC];exact gN.v i l ci hl) (Nat.le_trans (jB.ln 1 i) (by omega))) (fun d s' h=>by obtain ⟨_,_,_,_,f⟩:=h;exact f) (by simp;omega) fun r s5 E5 kh hE5=>a2D (a3b ?_)
  obtain ⟨R5,n5,uJ,mC,f5⟩:=kh;have Ae:=mC.one;have jP:=jw.ei f5 uJ n5;have yh:=jP.gO;have iK:=fr.trans f5 (by simp);refine zY Ae ?_;refine a8O (A:=[(s2.next,a1f g m dA dV .ag .ag .ag)]) (F:=E2) (B:=[]) (by simpa using jP) iK.1 nu (by omega) fun id s6 tY jg f6=>?_
  have jg:GH s2.next s6 ((s2.next,a1f g m dA dV .ag .ag .ag)::[(id,(a0y (ds++[r])).flatten)]) (R5++R2):=by simpa using jg
  have f26:=GH.frW (A:=[(s2.next,a1f g m dA dV .ag .ag .ag)]) (F:=E2) (B:=[]) (by simpa using jP) iK f6;have ql:=jg.gO;have zU:=u7 ql;refine zY ql ?_;have mU:=jg.sO dA (.arr id 0 (ds.length+1) 1) .ag .ag .ag;refine ⟨ci,_,ds++[r],_,_,mU,fun e he=>by simp [kX e he],tY,?_,fun e he=>by simp [oZ e he],f26.st (Nat.le_refl _) _⟩;simp only [List.range_succ,List.map_append,List.map_cons,List.map_nil];exact (lj.mono fun e he=>by simp [he]).snoc (mC.mono fun e he=>by
   rcases List.mem_append.1 he with he | he
   ·simp [he]
   ·simp [kX e he])
 rintro f' s4 ⟨dV,E2,R2,jw,kX,tJ,oZ,fr⟩;have oV:=tJ.one;have jw:GH s2.next s4 [(s2.next,a1f g m dA dV .ag .ag .ag)] (E2++R2):=GH.du (E:=[(s2.next,a1f g m dA dV .ag .ag .ag)]) (F:=E2) (by simpa using jw);have kX:∀e∈x.r,e∈E2++R2:=fun e he=>by simp [kX e he]
 have rN:LL (E2++R2) dA _:=rN.mono fun e he=>by simp [oZ e he]
 clear oZ;generalize E2++R2=RV at *;have hlnc:a0C false (.arr (s.next+1+1) 0 mo.af.length 2)=some (.int .i64 (mo.af.length:Int)):=rfl;refine V6 ?_;refine a1H [0,1,2,6,7,8,9,10,11,12,13,14,15,17,19,20,21,22,23,24,51,52,53,54,60,67,148,149,190,233,301,302,303,304,328,329,330,331,353] (fun f' s'=>∃dS dM R3,GH s2.next s' [(s2.next,a1f g m dA dV dS dM .ag)] R3/\LL R3 dS ((List.range mo.af.length).map (mo.fD st res))/\LM R3 dM ((List.range mo.af.length).map (mo.nxL st res))/\(∀e∈RV,e∈R3)/\Fr [] s2 s') ?_ ?_
 ·refine X5 [0,1,2,6,7,8,9,10,11,12,13,14,15,17,19,20,21,22,23,24,51,52,53,54,60,67,148,149,190,233,301,302,303,304,328,329,330,331,353] 0 mo.af.length (fun i f' s'=>f' 354=.int .i64 (i:Int)/\∃dS dM ss ms E3 E4 R3,GH s2.next s' ((s2.next,a1f g m dA dV dS dM .ag)::(E3++E4)) R3/\(∀e∈x.r,e∈R3)/\Rp dS 1 (a0y ss) E3/\GL R3 ss ((List.range i).map (mo.fD st res))/\Rp dM 1 (a0y ms) E4/\GM R3 ms ((List.range i).map (mo.nxL st res))/\(∀e∈RV,e∈R3)/\Fr [] s2 s') (.mk rfl) (by omega) ⟨rfl,.ag,.ag,[],[],[],[],RV,jw,kX,.inl ⟨rfl,rfl,rfl⟩,⟨rfl,rfl,by simp⟩,.inl ⟨rfl,rfl,rfl⟩,⟨rfl,rfl,by simp⟩,fun e he=>he,fr⟩ ?_
  clear jw fr kX;rintro i f' s4 hi ⟨h,dS,dM,ss,ms,E3,E4,R3,jw,kX,ly,sh,hrm,zh,oZ,fr⟩;have oS:=ly.one;have oM:=hrm.one;by_cases ci:i<mo.af.length
  rotate_left
  ·obtain rfl:i=mo.af.length:=by omega
   refine zY (aN h ci) ?_;refine ⟨dS,dM,(E3++E4)++R3,GH.du (E:=[(s2.next,a1f g m dA dV dS dM .ag)]) (F:=E3++E4) (by simpa using jw),(sh.mono fun e he=>by simp [he]).ll ly fun e he=>by simp [he],(zh.mono fun e he=>by simp [he]).lm hrm fun e he=>by simp [he],fun e he=>by simp [oZ e he],fr⟩
  have iy:=ik.trans fr (by simp);have jB:=hb.dT fr;have sq:=tF.fr fr;obtain ⟨p1,dz,i1,i2,mO⟩:=hv.ls.idx sq (i:=i) (by simpa using ci) (k:=.i64);rw [show ((List.range mo.af.length).map (Mo.bY st))[i]'(by simpa using ci)=Mo.bY st i by simp] at mO;obtain ⟨p2,dm,i3,i4,rT⟩:=hv.lm.idx sq (i:=i) (by simpa using ci) (k:=.i64);rw [show ((List.range mo.af.length).map (mo.cR st))[i]'(by simpa using ci)=mo.cR st i by simp] at rT;have yf:=mO.one;have xJ:=rT.one;have lB:=iy.kp gv;have tc:=u7 lB;have rz:s4.get (s.next+1+1)=some (.cells ((List.range (2*mo.af.length)).map (c 2))):=jB.ar 2 (by decide);have js:=b6Q rz ci;have Aw:=hb.one 2 (i*2);have Ce:=hb.one 2 (i*2+1);have gO:=jw.gO;have lO:=u7 gO;have kD:=sh.n;rw [List.length_map,List.length_range] at kD;have hdl2:=zh.n;rw [List.length_map,List.length_range] at hdl2;have hS:=jB.rp 2 (i*2);have zr:=jB.rl 2 (i*2);have hG:=jB.rp 2 (i*2+1);have zc:=jB.rl 2 (i*2+1);rw [szB0] at hS zr;rw [szB1] at hG zc;have Bf:=Nat.le_trans (jB.ln 2 (i*2)) (show 80000<=90000 by omega);have Bc:=Nat.le_trans (jB.ln 2 (i*2+1)) (show 80000<=90000 by omega);have hnone:=none_c (R:=R) hS (jB.he 2 (i*2)) zr (kE 2 (i*2)) Bf hG (jB.he 2 (i*2+1)) zc (kE 2 (i*2+1)) Bc;have hmov:=fun s' (f':Fr [] s4 s')=>c0t hm ho iF gT (hg.fr (iy.trans f' (by simp))) (hv.fr (iy.trans f' (by simp))) ci (jB.rd.fr f') hS ((jB.he 2 (i*2)).fr f') zr (kE 2 (i*2)) (fun l hl=>gN.w i l ci hl) Bf hG ((jB.he 2 (i*2+1)).fr f') zc (kE 2 (i*2+1)) Bc
  refine zY (U5 h ci lB om oo i1 i2 (U5 i3 i4 yf xJ rz js Aw Ce)) ?_;refine a0D hnone rfl ?_;rintro r s5 ⟨rfl,f5⟩;have jP:=jw.dT f5;have Cg:=f5.kp rz;have kh:=b6Q Cg ci;have kC:∀ (dz dm:D) (s6:k4) (R6:Hs),GH s2.next s6 ((s2.next,a1f g m dA dV dS dM .ag)::(E3++E4)) R6->(∀e∈R3,e∈R6)->Rr R6 dz (U1 (mo.fD st res i))->LL R6 dm (mo.nxL st res i)->GL R6 (ss++[dz]) ((List.range i++[i]).map (mo.fD st res))/\GM R6 (ms++[dm]) ((List.range i++[i]).map (mo.nxL st res)):=by
   intro dz dm s6 R6 _ hr hz hm;rw [List.map_append,List.map_append];exact ⟨(sh.mono hr).snoc hz,(zh.mono hr).snoc hm⟩
  cases hD:(!(res 2 (i*2)).isSome&&!(res 2 (i*2+1)).isSome);refine zY (V3 Cg kh Aw Ce) ?_;refine a0D (hmov s5 f5) rfl ?_;rintro r s6 ⟨dz,dm,R6,rfl,n6,tg,mO,rT,f6⟩;have yf:=mO.one;have xJ:=rT.one;have jg:=jP.ei f6 tg n6;have iO:=(fr.trans f5 (by simp)).trans f6 (by simp);have hq:=kC dz dm s6 _ jg (fun e he=>by simp [he]) (mO.mono fun e he=>by simp [he]) (rT.mono fun e he=>by simp [he]);have tB:∀e∈x.r,e∈R6++R3:=fun e he=>by simp [kX e he]
  have tS:∀e∈RV,e∈R6++R3:=fun e he=>by simp [oZ e he]
  generalize R6++R3=RR at *;have ql:=jg.gO;have zU:=u7 ql;refine zY (V3 yf xJ ql oS) ?_;rotate_left
  have n1:res 2 (i*2)=none:=by cases h:res 2 (i*2)<;>simp [h] at hD ⊢
  have n2:res 2 (i*2+1)=none:=by cases h:res 2 (i*2+1)<;>simp [h] at hD ⊢
  rw [<- nxZ_no n1 n2] at mO;rw [<- nxL_no n1 n2] at rT;have iO:=fr.trans f5 (by simp);obtain ⟨s6,e6⟩:∃s6,s6=s5:=⟨_,rfl⟩
  rw [<- e6] at jP iO ⊢;have hq:=kC dz dm s6 R3 jP (fun e he=>he) (mO.mono kX) (rT.mono kX);have jg:=jP;have tB:=kX;have tS:=oZ;generalize R3=RR at jg tB tS hq;have ql:=jg.gO;have zU:=u7 ql;refine zY (V3 ql oS yf xJ) ?_
  all_goals
   refine a8O (A:=[(s2.next,a1f g m dA dV dS dM .ag)]) (F:=E3) (B:=E4) (by simpa using jg) iO.1 ly (by omega) fun id s7 hrs7 mU f7=>?_
   have mU:GH s2.next s7 ((s2.next,a1f g m dA dV dS dM .ag)::([(id,(a0y (ss++[dz])).flatten)]++E4)) RR:=by simpa using mU
   have f27:=GH.frW (A:=[(s2.next,a1f g m dA dV dS dM .ag)]) (F:=E3) (B:=E4) (by simpa using jg) iO f7;have BN:=mU.gO;have lO7:=u7 BN;have tR:=mU.sO dA dV (.arr id 0 (ss.length+1) 1) dM .ag;have f28:=f27.st (b:=s2.next) (Nat.le_refl _) (some (.cells [.ptr g 0,m.dt,.int .i64 m.g,m.dc,m.dv,m.dp,m.ds,.bool m.b,dA,dV,.arr id 0 (ss.length+1) 1,dM,.ag]));have gO8:=tR.gO;refine zY (V5 BN oM xJ) ?_;have hn8:(s7.set s2.next (some (.cells [.ptr g 0,m.dt,.int .i64 m.g,m.dc,m.dv,m.dp,m.ds,.bool m.b,dA,dV,.arr id 0 (ss.length+1) 1,dM,.ag]))).next=s7.next:=by simp
   generalize s7.set s2.next (some (.cells [.ptr g 0,m.dt,.int .i64 m.g,m.dc,m.dv,m.dp,m.ds,.bool m.b,dA,dV,.arr id 0 (ss.length+1) 1,dM,.ag]))=s8 at *;rw [<- hn8];have lO8:=u7 gO8;refine a8O (A:=[(s2.next,a1f g m dA dV (.arr id 0 (ss.length+1) 1) dM .ag),(id,(a0y (ss++[dz])).flatten)]) (F:=E4) (B:=[]) (by simpa using tR) f28.1 hrm (by omega) fun lX s9 hrm9 rD f9=>?_
   have rD:GH s2.next s9 ((s2.next,a1f g m dA dV (.arr id 0 (ss.length+1) 1) dM .ag)::([(id,(a0y (ss++[dz])).flatten)]++[(lX,(a0y (ms++[dm])).flatten)])) RR:=by simpa using rD
   have f29:=GH.frW (A:=[(s2.next,a1f g m dA dV (.arr id 0 (ss.length+1) 1) dM .ag),(id,(a0y (ss++[dz])).flatten)]) (F:=E4) (B:=[]) (by simpa using tR) f28 f9;have Cb:=rD.gO;have lO9:=u7 Cb;refine zY Cb ?_;exact ⟨ci,_,_,_,_,_,_,_,rD.sO dA dV (.arr id 0 (ss.length+1) 1) (.arr lX 0 (ms.length+1) 1) .ag,tB,hrs7,by simpa only [List.range_succ] using hq.1,hrm9,by simpa only [List.range_succ] using hq.2,tS,f29.st (Nat.le_refl _) _⟩
 rintro f' s4 ⟨dS,dM,R3,jw,tv,AM,oZ,fr⟩;have iy:=ik.trans fr (by simp);have oS:=tv.one;have oM:=AM.one;have rN:LL R3 dA _:=rN.mono oZ;have tJ:LL R3 dV _:=tJ.mono oZ;have rN:=rN.congr hA;have tJ:=tJ.congr hV;have tv:=tv.congr hZ;have zV:Ve s4 s2.next g m mo iE ⟨(s2.next,a1f g m dA dV dS dM .ag)::R3,dA,dV,dS,dM,.ag⟩:=by
  refine ⟨fun e he=>?_,by simp [a1f],rN.mono fun e he=>by simp [he],tJ.mono fun e he=>by simp [he],tv.mono fun e he=>by simp [he],oM,rfl⟩;rcases List.mem_cons.1 he with rfl | he
  ·exact jw.gO
  ·exact jw.rd e he
 have hk:=c0S hm ho iF h8t hft (hg.fr iy) zV hl jL kO (iy.kp gp);have gO:=jw.gO;have lO:=u7 gO;refine V6 ?_;refine xv hk fun b s5 pI g5 f5=>?_
 have jP:=jw.add1 f5 g5 pI;have yh:=jP.gO;have lO5:=u7 yh;have jg:=jP.sO dA dV dS dM (.arr b 0 3 1);have f6:=(fr.trans f5 (by simp)).st (b:=s2.next) (Nat.le_refl _) (some (.cells [.ptr g 0,m.dt,.int .i64 m.g,m.dc,m.dv,m.dp,m.ds,.bool m.b,dA,dV,dS,dM,.arr b 0 3 1]));refine zY yh ?_;refine ⟨s2.next,⟨(s2.next,a1f g m dA dV dS dM (.arr b 0 3 1))::(b,U1 (U0 (mo.cS iE ls k0 mo.procs.length) 3))::R3,dA,dV,dS,dM,.arr b 0 3 1⟩,iE,mo.nxM st res,mo.cS iE ls k0 mo.procs.length,rfl,?_,AM.mono fun e he=>by simp [he],fun c i=>c1q,?_,ik.trans f6 (by simp),fun h1 h2=>?_⟩
 ·refine ⟨fun e he=>?_,by simp [a1f],rN.mono fun e he=>by simp [he],tJ.mono fun e he=>by simp [he],tv.mono fun e he=>by simp [he],oM,rfl⟩
  rcases List.mem_cons.1 he with rfl | he
  ·exact jg.gO
  ·exact jg.rd e he
 ·exact (Rr.dK (R:=R3) (b:=b) (a3A _ _)).mono fun e he=>by
   rcases List.mem_cons.1 he with rfl | he
   ·simp
   ·simp [he]
 ·obtain ⟨rfl,h3⟩:=ux h1 h2
  refine ⟨rfl,h3,?_⟩;rw [b7X];exact a2s fun j _=>hd_ok ho gT h1 h2 j
end
end Go.Proofs.YtigbmclkjknnjaaGreat
namespace Go.V
section
theorem b2L {F:Nat->List Bool} {i:Nat}:(List.range (i+1)).flatMap F=(List.range i).flatMap F++F i:=by simp [List.range_succ]
theorem b0H {F:Nat->List Bool} {n:Nat} (h:∀j,(F j).length<=n):∀i,((List.range i).flatMap F).length<=i*n
 | 0=>by simp
 | i+1=>by
   have h1:=b0H h i;have h2:=h i;rw [b2L,List.length_append,Nat.add_mul];omega
theorem a85 {F:Nat->List Bool} {n:Nat}:∀ {i:Nat},(∀j,j<i->(F j).length<=n)->((List.range i).flatMap F).length<=i*n
 | 0,_=>by simp
 | i+1,h=>by
   have h1:=a85 (F:=F) (n:=n) (i:=i) fun j hj=>h j (by omega)
   have h2:=h i (by omega);rw [b2L,List.length_append,Nat.add_mul];omega
theorem b0l {α β:Type} {e:α->β->List Bool}:∀ {a:List α} {b:List β} {F:Nat->List Bool},a.length=b.length->(∀i (h:i<a.length) (h':i<b.length),e a[i] b[i]=F i)->a0L e a b=(List.range a.length).flatMap F
 | [],[],_,_,_=>rfl
 | [],_::_,_,h,_=>by simp at h
 | _::_,[],_,h,_=>by simp at h
 | x::a,y::b,F,h,hF=>by
   have ih:=b0l (e:=e) (a:=a) (b:=b) (F:=fun i=>F (i+1)) (by simpa using h) fun i h1 h2=>hF (i+1) (by simpa using h1) (by simpa using h2)
   have h0:=hF 0 (by simp) (by simp);simp only [a0L,List.length_cons,List.range_succ_eq_map,List.flatMap_cons,List.flatMap_map];rw [ih];simp only [List.getElem_cons_zero] at h0;rw [h0]
def fu (mo:Mo) (st:V0) (iW:Nat->Nat->List Bool) (c:Nat):List Bool:=Mo.bY st c++(List.range (U7 mo.af c).room.toNat).flatMap (iW c)
def Mo.cH (mo:Mo) (st:V0) (iW:Nat->Nat->List Bool) (hb:Nat->Bool):List Bool:=(List.range mo.procs.length).flatMap (mo.bP st)++(List.range mo.vars.length).flatMap (mo.bQ st)++(List.range mo.af.length).flatMap (fu mo st iW)++U0 hb 3
variable {mo:Mo} {st:V0}
theorem c4H (gT:Fit mo st) {iW:Nat->Nat->List Bool} {hb:Nat->Bool} (hm:∀c,c<mo.af.length->∀i,i<(U7 mo.af c).room.toNat->iW c i=mo.bU st c i) (hh:U0 hb 3=bL (st.hold+1) 3):mo.cH st iW hb=mo.pack st:=by
 unfold Mo.cH Mo.pack;rw [b0l (F:=mo.bP st) gT.aI.symm fun i h h'=>b5O h h',b0l (F:=mo.bQ st) gT.vars.symm fun i h h'=>b6w h h',b0l (F:=fu mo st iW) gT.af.symm fun i h h'=>?_,hh];rw [b8P h h'];unfold fu Mo.msR;congr 1
 rw [Nat.sub_zero,<- List.range_eq_range'];rw [List.flatMap_eq_foldl,List.flatMap_eq_foldl];have:∀ (l:List Nat) (acc:List Bool),(∀j∈l,j<(U7 mo.af i).room.toNat)->l.foldl (fun acc b=>acc++mo.bU st i b) acc=l.foldl (fun acc b=>acc++iW i b) acc:=by
  intro l;induction l with
  | nil=>intro _ _;rfl
  | cons a r ih =>
    intro acc hl;rw [List.foldl_cons,List.foldl_cons,hm i h a (hl a (by simp))];exact ih _ fun j hj=>hl j (by simp [hj])
 exact this _ _ fun j hj=>List.mem_range.1 hj
end
end Go.V
namespace Go.Proofs.YtigbmclkjknnjaaGreat
open Go.V
section
variable {s:k4} {g v:Nat} {m:X6} {mo:Mo} {st:V0} {x:fB}
theorem join_c (wB:V1 m.dt=true/\V1 m.dc=true/\V1 m.dv=true/\V1 m.dp=true/\V1 m.ds=true) (ho:Z8 mo) (iF:a0J mo) (hv:Ve s v g m mo st x) {iW:Nat->Nat->List Bool} {hb:Nat->Bool} (uO:LM x.r x.m ((List.range mo.af.length).map fun c=>(List.range (U7 mo.af c).room.toNat).map (iW c))) (pq:∀c i,(iW c i).length=(U7 mo.af c).width.toNat) (hh:Rr x.r x.h (U1 (U0 hb 3))) :
 X9 U8 46 [.ptr v 0] s fun r s'=>∃b,r=.arr b 0 (mo.cH st iW hb).length 1/\s.next<=b/\s'.get b=some (.cells (U1 (mo.cH st iW hb)))/\Fr [] s s':=by
 have gv:=hv.get;have lv:=u7 gv;have oo:=hv.az;have mj:=ho.np;have lH:=ho.nv;have qe:=ho.nc;have la:=hv.la.len hv.hs;have uV:=hv.lv.len hv.hs;have lss:=hv.ls.len hv.hs;simp only [List.length_map,List.length_range] at la uV lss;have bA:=b0H (F:=mo.bP st) (n:=16) fun j=>by unfold Mo.bP;rw [a0Q];exact (a4R _).2
 have wA:∀j,(mo.bP st j).length<=16:=fun j=>by unfold Mo.bP;rw [a0Q];exact (a4R _).2
 have wV:∀j,j<mo.vars.length->(mo.bQ st j).length<=8:=fun j hj=>by unfold Mo.bQ;rw [a0Q];have:=iF.vr _ (a5V hj);omega
 refine X4 (vf:=vf46) rfl ?_;unfold vf46;refine zF ?_;refine zY (V3 gv wB oo la) ?_;refine a1H [0,2,7,8,9,11,15,16,28,29,30,31,41,42,43,44,57,58,59,60] (fun f s'=>V1 (f 3)=true/\bD s s' (f 3) ((List.range mo.procs.length).flatMap (mo.bP st))) ?_ ?_
 ·refine X5 [0,2,7,8,9,11,15,16,28,29,30,31,41,42,43,44,57,58,59,60] 0 mo.procs.length (fun i f s'=>f 17=.int .i64 (i:Int)/\bD s s' (f 3) ((List.range i).flatMap (mo.bP st))) (.mk rfl) (by omega) ⟨rfl,bD.nil (Fr.refl _ _)⟩ ?_
  rintro i f s2 hi ⟨h,ja⟩;have ob:=ja.one;by_cases ci:i<mo.procs.length
  rotate_left
  ·obtain rfl:i=mo.procs.length:=by omega
   refine zY (V5 h ci ob) ?_;exact ja
  obtain ⟨p,y,i1,i2,oy,hy⟩:=(hv.fr ja.1).aI ci (k:=.i64);refine zY (Y6 h ci ob i1 i2 oy) ?_;refine a8U ja hy (by have:=bA i;have:=wA i;omega) fun d' s3 h3=>?_
  have ug:=h3.one;refine zY ug ?_;refine ⟨ci,?_⟩;simp only [List.flatMap_append,List.flatMap_cons,List.flatMap_nil,List.append_nil];exact h3
 rintro f s2 ⟨ob,ja⟩;have ji:=ja.1.kp gv;have nR:=u7 ji;have hlenA:=bA mo.procs.length;generalize hLA:(List.range mo.procs.length).flatMap (mo.bP st)=LA at *;refine zY (W6 ji wB oo uV ob) ?_;refine a1H [0,2,5,8,9,11,15,16,17,18,28,29,41,42,43,44,57,58,59,60] (fun f s'=>V1 (f 3)=true/\bD s s' (f 3) (LA++(List.range mo.vars.length).flatMap (mo.bQ st))) ?_ ?_
 ·refine X5 [0,2,5,8,9,11,15,16,17,18,28,29,41,42,43,44,57,58,59,60] 0 mo.vars.length (fun i f s'=>f 30=.int .i64 (i:Int)/\bD s s' (f 3) (LA++(List.range i).flatMap (mo.bQ st))) (.mk rfl) (by omega) ⟨rfl,(by show bD s s2 (f 3) (LA++[]);rw [List.append_nil];exact ja)⟩ ?_
  clear ja;rintro i f s2 hi ⟨h,ja⟩;have ob:=ja.one;by_cases ci:i<mo.vars.length
  rotate_left
  ·obtain rfl:i=mo.vars.length:=by omega
   refine zY (V5 h ci ob) ?_;exact ja
  obtain ⟨p,y,i1,i2,oy,hy⟩:=(hv.fr ja.1).vr ci (k:=.i64);have yo:=a85 (F:=mo.bQ st) (n:=8) (i:=i) fun j hj=>wV j (by omega)
  have uU:=wV i ci;refine zY (Y6 h ci ob i1 i2 oy) ?_;refine a8U ja hy (by rw [List.length_append];omega) fun d' s3 h3=>?_
  have ug:=h3.one;refine zY ug ?_;refine ⟨ci,?_⟩;simp only [List.flatMap_append,List.flatMap_cons,List.flatMap_nil,List.append_nil,<- List.append_assoc];exact h3
 clear ja ji nR;rintro f s2 ⟨ob,ja⟩;have ji:=ja.1.kp gv;have nR:=u7 ji;have hlenV:=a85 (F:=mo.bQ st) (n:=8) (i:=mo.vars.length) wV;have hlenL:(LA++(List.range mo.vars.length).flatMap (mo.bQ st)).length<=1000:=by rw [List.length_append];omega
 unfold Mo.cH;have hlenL:(LA++(List.range mo.vars.length).flatMap (mo.bQ st)).length<=300:=by
  have:=Nat.mul_le_mul_right 16 mj;have:=Nat.mul_le_mul_right 8 lH;rw [List.length_append];omega
 generalize hLB:LA++(List.range mo.vars.length).flatMap (mo.bQ st)=LB at *;have wC:∀j,j<mo.af.length->(fu mo st iW j).length<=26:=fun j hj=>by
  have hc:=iF.ch _ (a41 hj);unfold fu;rw [List.length_append,Mo.bY,a0Q];have:=b0H (F:=iW j) (n:=8) (fun i=>by rw [pq];omega) (U7 mo.af j).room.toNat;have:(U7 mo.af j).room.toNat*8<=3*8:=Nat.mul_le_mul (by omega) (Nat.le_refl _);omega
 refine zY (W6 ji wB oo lss ob) ?_;refine a1H [0,2,5,7,15,16,17,18,28,29,30,31,41,42] (fun f s'=>V1 (f 3)=true/\bD s s' (f 3) (LB++(List.range mo.af.length).flatMap (fu mo st iW))) ?_ ?_
 ·refine X5 [0,2,5,7,15,16,17,18,28,29,30,31,41,42] 0 mo.af.length (fun i f s'=>f 43=.int .i64 (i:Int)/\bD s s' (f 3) (LB++(List.range i).flatMap (fu mo st iW))) (.mk rfl) (by omega) ⟨rfl,(by show bD s s2 (f 3) (LB++[]);rw [List.append_nil];exact ja)⟩ ?_
  clear ja ji nR;rintro i f s2 hi ⟨h,ja⟩;have ob:=ja.one;by_cases ci:i<mo.af.length
  rotate_left
  ·obtain rfl:i=mo.af.length:=by omega
   refine zY (V5 h ci ob) ?_;exact ja
  obtain ⟨p,y,i1,i2,oy,hy⟩:=(hv.fr ja.1).sz ci (k:=.i64);have yo:=a85 (F:=fu mo st iW) (n:=26) (i:=i) fun j hj=>wC j (by omega)
  have hl3:i*26<=3*26:=Nat.mul_le_mul (by omega) (Nat.le_refl _);refine zY (Y6 h ci ob i1 i2 oy) ?_;refine a8U ja hy (by rw [List.length_append,Mo.bY,a0Q];omega) fun d' s3 h3=>?_
  have ug:=h3.one;have qJ:=h3.1.kp gv;have zJ:=u7 qJ;obtain ⟨p2,y2,j1,j2,ky⟩:=uO.idx (hv.hs.fr h3.1) (i:=i) (by simpa using ci) (k:=.i64);rw [show ((List.range mo.af.length).map fun c=>(List.range (U7 mo.af c).room.toNat).map (iW c))[i]'(by simpa using ci)=(List.range (U7 mo.af i).room.toNat).map (iW i) by simp] at ky;have sw:=ky.one;have iI:=ky.len (hv.hs.fr h3.1);rw [List.length_map,List.length_range] at iI;have hlenX:(LB++(List.range i).flatMap (fu mo st iW)++Mo.bY st i).length<=400:=by rw [List.length_append,List.length_append,Mo.bY,a0Q];omega
  have hX:LB++(List.range i).flatMap (fu mo st iW)++Mo.bY st i++(List.range (U7 mo.af i).room.toNat).flatMap (iW i)=LB++((List.range i).flatMap (fu mo st iW)++fu mo st iW i):=by unfold fu;simp only [List.append_assoc]
  generalize hLX:LB++(List.range i).flatMap (fu mo st iW)++Mo.bY st i=LX at *;have jh:=(iF.ch _ (a41 ci)).2.1;have AW:∀j,(iW i j).length<=8:=fun j=>by rw [pq];have:=iF.ch _ (a41 ci);omega
  refine zY (U5 ug qJ wB oo j1 j2 sw iI) ?_;refine X5 [0,2,5,7,8,9,15,16,17,18,28,29,30,31,41,42,43,44,57,58] 0 (U7 mo.af i).room.toNat (fun j f' s'=>f' 59=.int .i64 (j:Int)/\bD s s' (f' 3) (LX++(List.range j).flatMap (iW i))) (.mk rfl) (by omega) ⟨rfl,(by show bD s s3 d' (LX++[]);rw [List.append_nil];exact h3)⟩ ?_;clear h3 qJ zJ ja;rintro j f' s4 hj ⟨h',h4⟩;have rU:=h4.one;by_cases cj:j<(U7 mo.af i).room.toNat
  ·obtain ⟨p3,y3,k1,k2,xx⟩:=ky.idx (hv.hs.fr h4.1) (i:=j) (by simpa using cj) (k:=.i64)
   rw [show ((List.range (U7 mo.af i).room.toNat).map (iW i))[j]'(by simpa using cj)=iW i j by simp] at xx;have zo:=xx.one;have hl5:=b0H (F:=iW i) (n:=8) AW j;have uR:=AW j;refine zY (Y6 h' cj rU k1 k2 zo) ?_;refine a8U h4 (xx.vb (hv.hs.fr h4.1)) (by rw [List.length_append];omega) fun d5 s5 h5=>?_
   have vj:=h5.one;refine zY vj ?_;refine ⟨cj,?_⟩;simp only [List.flatMap_append,List.flatMap_cons,List.flatMap_nil,List.append_nil,<- List.append_assoc];exact h5
  ·obtain rfl:j=(U7 mo.af i).room.toNat:=by omega
   refine zY (V3 h' cj h rU) ?_;refine ⟨ci,?_⟩;simp only [List.flatMap_append,List.flatMap_cons,List.flatMap_nil,List.append_nil];rw [<- hX];exact h4
 clear ja ji nR;rintro f s2 ⟨ob,ja⟩;have ji:=ja.1.kp gv;have nR:=u7 ji;have hlenC:=a85 (F:=fu mo st iW) (n:=26) (i:=mo.af.length) wC;refine zY (V3 ji wB oo ob) ?_;refine a8U ja (hh.vb (hv.hs.fr ja.1)) (by rw [List.length_append,a3A];omega) fun d3 s3 h3=>?_
 have ug:=h3.one;have iw:=h3.2;refine zY ug ?_;rcases iw with ⟨_,e⟩ | ⟨id,rfl,hi,hg⟩
 ·have:=congrArg List.length e
  simp at this
 ·subst hLB
  subst hLA;exact ⟨id,rfl,hi,hg,h3.1⟩
end
end Go.Proofs.YtigbmclkjknnjaaGreat
namespace Go.V
section
theorem b0Z {α:Type} {f:α->Nat}:∀ {a:List α} {F:Nat->List Bool},(∀i (h:i<a.length),(F i).length=f a[i])->((List.range a.length).flatMap F).length=cy f a
 | [],_,_=>rfl
 | x::a,F,h=>by
   have ih:=b0Z (f:=f) (a:=a) (F:=fun i=>F (i+1)) fun i h1=>h (i+1) (by simpa using h1)
   have h0:=h 0 (by simp);simp only [cy,List.length_cons,List.range_succ_eq_map,List.flatMap_cons,List.flatMap_map,List.length_append];rw [h0];unfold cy at ih;rw [ih];simp
variable {mo:Mo} {st:V0}
theorem b5o {F:Nat->List Bool} {n:Nat} (h:∀j,(F j).length=n):∀i,((List.range i).flatMap F).length=i*n
 | 0=>by simp
 | i+1=>by
   have h1:=b5o h i;have h2:=h i;rw [b2L,List.length_append,Nat.add_mul];omega
theorem c41 {iW:Nat->Nat->List Bool} {hb:Nat->Bool} (hm:∀c i,(iW c i).length=(U7 mo.af c).width.toNat):(mo.cH st iW hb).length=mo.bu:=by
 unfold Mo.cH Mo.bu;simp only [List.length_append,a3A];rw [b0Z (f:=fun p:Pr=>Z1 (p.ah:Int)) (F:=mo.bP st) fun i h=>by unfold Mo.bP;rw [a0Q,a16 h],
  b0Z (f:=fun v:Vr=>v.width.toNat) (F:=mo.bQ st) fun i h=>by unfold Mo.bQ;rw [a0Q,a3q h],
  b0Z (f:=fun c:Ch=>2+c.room.toNat*c.width.toNat) (F:=fu mo st iW) fun i h=>by
   unfold fu;rw [List.length_append,Mo.bY,a0Q,b5o (hm i),a2q h]]
theorem c0r {A:Nat->Bool} {k n:Nat}:a0w (fun i=>decide (i=k)&&A i) n=(decide (k<n)&&A k):=by
 rw [Bool.eq_iff_iff,a5m];simp only [Bool.and_eq_true,decide_eq_true_eq];constructor
 ·rintro ⟨i,h1,rfl,h2⟩;exact ⟨h1,h2⟩
 ·rintro ⟨h1,h2⟩;exact ⟨k,h1,rfl,h2⟩
end
end Go.V
namespace Go.Proofs.YtigbmclkjknnjaaGreat
open Go.V
section
variable {s:k4} {g v:Nat} {m:X6} {mo:Mo} {ps:List (Pr×X0)} {st:V0}
theorem step_c (hm:Z0 m mo ps) (ho:Z8 mo) (iF:a0J mo) (h8:eM st) (gT:Fit mo st) (hg:GB s g) {d dc:D} (hd:VB s d (mo.pack st)) {k0:Nat} (jx:VB s dc (bL (k0:Int) (Z1 (mo.allM.length:Int)))) (qG:k0<2 ^ Z1 (mo.allM.length:Int)) (qu ba:Bool) {Q B:Nat->Bool}
 (hQ:qu=true->∀v x p s',p<mo.procs.length->GB s' g->Vs s' v g m mo st x->CB U8 76 [.ptr v 0,.int .i64 (p:Int)] s' (Q p))
 (hB:ba=true->∀v x p s',p<mo.procs.length->GB s' g->Vs s' v g m mo st x->CB U8 77 [.ptr v 0,.int .i64 (p:Int)] s' (B p)) :
 X9 U8 16 [.ptr g 0,.agg [m.dt,.int .i64 m.g,m.dc,m.dv,m.dp,m.ds,.bool m.b],d,dc,.bool qu,.bool ba] s fun r s'=>∃dt,r=.aR [dt,.int .i64 (V4 (decide (k0<mo.allM.length)&&mo.fi st (cE (decide (st.hold<0)) qu ba Q B (fun p=>decide (st.hold=(p:Int))) mo.procs.length) (aS (decide (st.hold<0)) qu Q mo.procs.length) (Z9 mo.allM k0)))]/\V1 dt=true/\Fr [] s s'/\(k0<mo.allM.length->Z9 mo.allM k0∈mo.aQ st->VB s' dt (mo.pack (mo.eY st (Z9 mo.allM k0)))):=by
 have om:=hm.az;have fm:=a3N hm;have od:=hd.one;have rZ:=jx.one;have jE:=a7F gT;have lN:=a72 ho iF;have f0:Fr [] s (s.push (.cells [m.dt,.int .i64 m.g,m.dc,m.dv,m.dp,m.ds,.bool m.b])):=Fr.push _;have gb:(s.push (.cells [m.dt,.int .i64 m.g,m.dc,m.dv,m.dp,m.ds,.bool m.b])).get s.next=some (.cells [m.dt,.int .i64 m.g,m.dc,m.dv,m.dp,m.ds,.bool m.b]):=W2 rfl;have qL:VB s d (U0 (aB (mo.pack st)) mo.bu):=hd.cY (by rw [<- jE];exact (a3l _).symm);have ku:=jx.len;rw [a0Q] at ku;have lu:=b8l hm ho;obtain ⟨dl,kD,hl⟩:=b0o hm ho;have pj:=a0F kD;have kO:=b13 ho;have ol:=hl.one;have eJ:a0C false dl=some (.int .i64 (mo.allM.length:Int)):=by rw [hl.len];simp
 have hw16:=(a4R (mo.allM.length:Int)).2;obtain ⟨A1,BB⟩:∃A1:Nat->Bool,A1=fun i=>mo.fi st (cE (decide (st.hold<0)) qu ba Q B (fun p=>decide (st.hold=(p:Int))) mo.procs.length) (aS (decide (st.hold<0)) qu Q mo.procs.length) (Z9 mo.allM i):=⟨_,rfl⟩
 rw [show mo.fi st (cE (decide (st.hold<0)) qu ba Q B (fun p=>decide (st.hold=(p:Int))) mo.procs.length) (aS (decide (st.hold<0)) qu Q mo.procs.length) (Z9 mo.allM k0)=A1 k0 by rw [BB]];refine X4 (vf:=vf16) rfl ?_;unfold vf16;refine zF ?_;refine zY (V5 om od rZ) ?_;refine a0D (b3C hm ho iF (hg.fr f0) (hd.fr f0) jE) rfl ?_;rintro r s1 ⟨rfl,f1⟩;have jl:=f0.trans f1 (by simp);have jk:=f1.kp gb;have nQ:=u7 jk;refine zY (Y6 jk om rZ ku fm lu) ?_;refine xv (a7U (hg.fr jl) (qL.fr jl) (by omega)) fun ob s2 nJ g2 f2=>?_
 have ik:=jl.trans f2 (by simp);have kI:=f2.kp jk;have sG:=u7 kI;have Cf:=g2;rw [<- jE,a3l] at Cf;refine zY (aN kI om) ?_;refine a0D (b2o hm ho iF gT Cf) rfl ?_;rintro r s3 ⟨v,x,rfl,hv,f3⟩;have hO:=ik.trans f3 (by simp);have kZ:=f3.kp kI;have uB:=u7 kZ;have g3:=f3.kp g2;refine zY (V3 kZ om fm pj) ?_;have qR:=b7S hm ho iF h8 gT (hg.fr hO) hv hl (fun v hv=>b1L hv) (by omega) qu ba (fun h p hp s' f=>hQ h v x p s' hp (hg.fr (hO.trans f (by simp))) (hv.fr f)) (fun h p hp s' f=>hB h v x p s' hp (hg.fr (hO.trans f (by simp))) (hv.fr f));rw [<- BB] at qR;refine xv qR fun ab s4 mT g4 f4=>?_
 have iy:=hO.trans f4 (by simp);refine zY rZ ?_;refine xv (a7U (A:=V7 (k0:Int)) (w:=Z1 (mo.allM.length:Int)) (hg.fr iy) (jx.fr iy) (by omega)) fun nb s5 hnb5 g5 f5=>?_
 have iK:=iy.trans f5 (by simp);have m1:=eh (w:=mo.allM.length) (by omega);have m2:=dy (w:=mo.allM.length) (by omega);have hz:=a1D mo.allM.length;rw [a2G (fun i=>decide (i=k0))] at hz;have qI:U1 (U0 (W8 (fun i=>decide (i=k0)) 0) mo.allM.length)=U1 (U0 (W8 (fun i=>decide (i=k0)&&A1 i) 0) mo.allM.length):=rfl;have zg:((s5.push (.cells (U1 (U0 (W8 (fun i=>decide (i=k0)) 0) mo.allM.length)))).push (.cells (U1 (U0 (W8 (fun i=>decide (i=k0)) 0) mo.allM.length)))).get s5.next=some (.cells (U1 (U0 (W8 (fun i=>decide (i=k0)) 0) mo.allM.length))):=by rw [a0l (by simp),W2 rfl]
 have zX:((s5.push (.cells (U1 (U0 (W8 (fun i=>decide (i=k0)) 0) mo.allM.length)))).push (.cells (U1 (U0 (W8 (fun i=>decide (i=k0)) 0) mo.allM.length)))).get (s5.next+1)=some (.cells (U1 (U0 (W8 (fun i=>decide (i=k0)&&A1 i) 0) mo.allM.length))):=W2 (by simp);have f56:Fr [] s5 ((s5.push (.cells (U1 (U0 (W8 (fun i=>decide (i=k0)) 0) mo.allM.length)))).push (.cells (U1 (U0 (W8 (fun i=>decide (i=k0)) 0) mo.allM.length)))):=(Fr.push _).aj _;refine zY (W6 ol eJ m1 m2 hz) ?_;generalize (s5.push (.cells (U1 (U0 (W8 (fun i=>decide (i=k0)) 0) mo.allM.length)))).push (.cells (U1 (U0 (W8 (fun i=>decide (i=k0)) 0) mo.allM.length)))=s6 at *;refine a1H [0,1,2,3,4,5,7,12,13,14,15,16,17,18,19,20,22,23,24,36,61,91,92,93,94,110] (fun f s'=>s'.get s5.next=some (.cells (U1 (U0 (fun i=>decide (i=k0)) mo.allM.length)))/\s'.get (s5.next+1)=some (.cells (U1 (U0 (fun i=>decide (i=k0)&&A1 i) mo.allM.length)))/\Fr [] s5 s') ?_ ?_
 ·refine X5 [0,1,2,3,4,5,7,12,13,14,15,16,17,18,19,20,22,23,24,36,61,91,92,93,94,110] 0 mo.allM.length (fun i f s'=>f 62=.int .i64 (i:Int)/\s'.get s5.next=some (.cells (U1 (U0 (W8 (fun i=>decide (i=k0)) i) mo.allM.length)))/\s'.get (s5.next+1)=some (.cells (U1 (U0 (W8 (fun i=>decide (i=k0)&&A1 i) i) mo.allM.length)))/\Fr [] s5 s') (.mk rfl) (by omega) ⟨rfl,zg,zX,f56⟩ ?_
  clear zg zX f56 hz m1 m2;rintro i f s7 hi ⟨h,gp,gc,fr⟩;by_cases ci:i<mo.allM.length
  rotate_left
  ·obtain rfl:i=mo.allM.length:=by omega
   rw [a2z] at gp gc;refine zY (aN h ci) ?_;exact ⟨gp,gc,fr⟩
  have ko:=iK.trans fr (by simp);have g57:=fr.kp g5;refine zY (aN h ci) ?_;refine xb (b0V (n:=k0) (k:=i) (hg.fr ko) (VB.aU g57) qG hw16 (by omega)) fun s8 f8=>?_
  have yI:=f8.kp gp;have xD:=f8.kp gc;have jv:=ko.trans f8 (by simp);have lp8:=u7 yI;have lc8:=u7 xD;have hs:=a39 (A:=fun i=>decide (i=k0)) (b:=decide (k0=i)) ci (by simp [eq_comm]);have hw:=a2p (A:=fun i=>decide (i=k0)) ci;have AN:=a17 (A:=W8 (fun i=>decide (i=k0)) (i+1)) ci;rw [show W8 (fun i=>decide (i=k0)) (i+1) i=decide (k0=i) by simp [W8,eq_comm]] at AN;have g48:=f8.kp (fr.kp (f5.kp g4));have l48:=u7 g48;have hga:=a17 (A:=A1) ci;have iw:ab≠s5.next:=by have:=u7 (f5.kp g4);have:=u7 g4;have:=f5.1;omega
  refine zY (Y6 yI hs hw AN g48 hga) ?_;have f9:Fr [] s5 (s8.set s5.next (some (.cells (U1 (U0 (W8 (fun i=>decide (i=k0)) (i+1)) mo.allM.length))))):=(fr.trans f8 (by simp)).st (Nat.le_refl _) _;have gp9:(s8.set s5.next (some (.cells (U1 (U0 (W8 (fun i=>decide (i=k0)) (i+1)) mo.allM.length))))).get s5.next=_:=a0d lp8;have uX:(s8.set s5.next (some (.cells (U1 (U0 (W8 (fun i=>decide (i=k0)) (i+1)) mo.allM.length))))).get (s5.next+1)=some (.cells (U1 (U0 (W8 (fun i=>decide (i=k0)&&A1 i) i) mo.allM.length))):=by rw [Z7 (by omega)];exact xD
  generalize s8.set s5.next (some (.cells (U1 (U0 (W8 (fun i=>decide (i=k0)) (i+1)) mo.allM.length))))=s9 at *;refine xb (a08 (hg.fr (iK.trans f9 (by simp))) _ _) fun lG f10=>?_
  have xG:=f10.kp uX;have lc10:=u7 xG;have ph:=a39 (A:=fun i=>decide (i=k0)&&A1 i) (b:=decide (k0=i)&&A1 i) ci (by simp [eq_comm]);have rY:=a2p (A:=fun i=>decide (i=k0)&&A1 i) ci;have gp10:=f10.kp gp9;refine zY (V5 xG ph rY) ?_;exact ⟨ci,gp10,(f9.trans f10 (by simp)).st (by omega) _⟩
 clear zg zX f56 hz m1 m2 qR;rintro f s7 ⟨gp,gc,fr⟩;have ko:=iK.trans fr (by simp);have hv7:=hv.fr ((f4.trans f5 (by simp)).trans fr (by simp));refine zY ol ?_;refine a0D (next_c hm ho iF h8 gT (hg.fr ko) hv7 hl (fun v hv=>b1L hv) (by omega) gp) rfl ?_;rintro r s8 ⟨v',x',oI,iW,hb,rfl,zV,uO,pq,hhb,f8,ux⟩;have jv:=ko.trans f8 (by simp);refine V6 ?_;refine a0D (join_c om ho iF zV uO pq hhb) rfl ?_;rintro r s9 ⟨b9,rfl,hb9,g9,f9⟩;have mH:=jv.trans f9 (by simp);have hN:=c41 (st:=oI) (hb:=hb) pq;have zi:=a3l (mo.cH oI iW hb);rw [hN] at zi;rw [<- zi] at g9;rw [hN];refine V6 ?_;refine a1H [0,1,2,3,4,5,7,12,13,14,15,16,17,18,19,20,21,22,36,61,62,63,91,92] (fun f' s'=>s'=s9) ?_ ?_
 ·refine X5 [0,1,2,3,4,5,7,12,13,14,15,16,17,18,19,20,21,22,36,61,62,63,91,92] 0 mo.bu (fun i f' s'=>f' 93=.int .i64 (i:Int)/\s'=s9) (.mk rfl) (by omega) ⟨rfl,rfl⟩ ?_
  rintro i f' lG hi ⟨h,rfl⟩;by_cases ci:i<mo.bu
  rotate_left
  ·obtain rfl:i=mo.bu:=by omega
   exact zZ (aN h ci)
  have ot:=a17 (A:=aB (mo.cH oI iW hb)) ci;cases oH:aB (mo.cH oI iW hb) i
  ·rw [oH,a4j] at ot
   have go:=((((f3.trans f4 (by simp)).trans f5 (by simp)).trans fr (by simp)).trans f8 (by simp)).trans f9 (by simp);have go:=go.kp g2;have rM:=a17 (A:=aB (mo.pack st)) ci;obtain ⟨p,p1,p2⟩:=(qL.fr mH).cC ci (k:=.i64);have hx:(V4 (aB (mo.pack st) i) != V4 (aB (mo.pack st) i))=false:=by simp
   exact zZ (U5 h ci g9 ot go rM od (V5 p1 p2 hx))
  ·rw [oH,a2u] at ot
   exact zZ (V3 h ci g9 ot)
 rintro f' lG rfl;have uX:=f9.kp (f8.kp gc);refine V6 ?_;refine xb (a4Z (hg.fr mH) (VB.aU uX) (by omega)) fun tp f11=>?_
 rw [c0r];refine V6 ?_;refine ⟨_,rfl,rfl,mH.trans f11 (by simp),fun h1 h2=>?_⟩;obtain ⟨rfl,h3,h4⟩:=ux h1 h2;have e:=c4H (b5P ho iF gT (b57 h2)) h3 h4;rw [<- e];exact VB.arr (by rw [<- zi];exact f11.kp g9) hN
end
section
variable {m:X6} {mo:Mo} {ps:List (Pr×X0)} {x:cG} {st:V0}
end
section
variable {m:X6} {mo:Mo} {ps:List (Pr×X0)} {x:cG} {st:V0}
theorem c5c {d:D} {t:List Nd} (hT:X8 d t):∃d',ca U8 6 [d] d'/\b8y t d':=by
 have pT:PZ d:=hT.fl.pz;have iI:=hT.fl.len;obtain ⟨b,hb,_⟩:=c2R hT;have hb:=a6o hb rfl;cases b
 ·refine ⟨.aR [.agg [.ag,.int .i64 0,.ag,.ag,.ag,.ag,.bool false],.bool false],a0F ?_,.inl rfl⟩
  refine a02 (vf:=vf6) rfl ?_;unfold vf6;refine zF ?_;refine zY (aN pT hb) ?_;rfl
 obtain ⟨c,hc,hR⟩:=c4h hT;have hc:=a6o hc rfl;cases c
 ·refine ⟨.aR [.agg [.ag,.int .i64 0,.ag,.ag,.ag,.ag,.bool false],.bool false],a0F ?_,.inl rfl⟩
  refine a02 (vf:=vf6) rfl ?_;unfold vf6;refine zF ?_;refine zY (V5 pT hb hc) ?_;rfl
 by_cases cl:(150:Int)<((t.map Nd.row).length:Int)
 ·refine ⟨.aR [.agg [.ag,.int .i64 0,.ag,.ag,.ag,.ag,.bool false],.bool false],a0F ?_,.inl rfl⟩
  refine a02 (vf:=vf6) rfl ?_;unfold vf6;refine zF ?_;refine zY (W6 pT hb hc iI cl) ?_;rfl
 have cl:((150:Int)<((t.map Nd.row).length:Int))=False:=by simpa using cl
 obtain ⟨r,s1,d',h1,h2,h3⟩:=makeI hT (hR rfl);have zK:ca U8 29 [d] d':=a0F ⟨_,_,h1,h2⟩;refine ⟨d',a0F ?_,h3⟩;rcases h3 with rfl | ⟨m,ps,rfl,hR,hS,hY,hm⟩
 ·refine a02 (vf:=vf6) rfl ?_
  unfold vf6;refine zF ?_;refine zY (Y6 pT hb hc iI cl zK) ?_;rfl
 ·have om:=hm.az
  have fm:=a3N hm;unfold Y5 at zK ⊢;refine a02 (vf:=vf6) rfl ?_;unfold vf6;refine zF ?_;refine zY (Y3 pT hb hc iI cl zK om) ?_;trivial
theorem newB_c {s:k4}:X9 U8 13 [] s fun r s'=>∃g,r=.ptr g 0/\GB s' g/\Fr [] s s':=by
 have m1:(16:Int)<=2 ^ 47:=by decide
 have m2:(1:Int)<2 ^ 62:=by decide
 refine X4 (vf:=vf13) rfl ?_;unfold vf13;refine zF ?_;refine zY (aN m1 m2) ?_;exact ⟨_,rfl,⟨_,_,W2 (by simp)⟩,((Fr.push _).aj _).aj _⟩
theorem c5w {k w:Nat} (hk:k<=100000) (hw:w<=16):a52 U8 17 [.int .i64 (k:Int),.int .i64 (w:Int)] fun d=>VZ d (bL (k:Int) w):=by
 refine a6x (vf:=vf17) rfl ?_;unfold vf17;refine zF ?_;refine V6 ?_;refine X5 [1,4] 0 w (fun i f s'=>f 6=.int .i64 (i:Int)/\f 0=.int .i64 ((k / 2 ^ i:Nat):Int)/\bD k4.empty s' (f 5) (bL (k:Int) i)) (.mk rfl) (by omega) ⟨rfl,(by rw [Nat.pow_zero,Nat.div_one];rfl),bD.nil (Fr.refl _ _)⟩ ?_;rintro i f s2 hi ⟨h,h0,hb⟩;have ob:=hb.one;by_cases ci:i<w
 rotate_left
 ·obtain rfl:i=w:=by omega
  obtain ⟨d',e1,e2⟩:=hb.vb.du;refine zY (V5 h ci ob) ?_;exact ⟨d',e1,e2⟩
 have htm:((k / 2 ^ i:Nat):Int).tmod 2=V4 (V7 (k:Int) i):=by
  rw [<- a73];show (((k / 2 ^ i:Nat):Int)).tmod ((2:Nat):Int)=_
  rw [<- Int.ofNat_tmod];simp
 have qM:((k / 2 ^ i:Nat):Int).tdiv 2=((k / 2 ^ (i+1):Nat):Int):=by
  show (((k / 2 ^ i:Nat):Int)).tdiv ((2:Nat):Int)=_
  rw [<- Int.ofNat_tdiv,Nat.div_div_eq_div_mul,<- Nat.pow_succ]
 have hlt':k / 2 ^ (i+1)<=100000:=Nat.le_trans (Nat.div_le_self _ _) hk;have wJ:IntKind.i64.wrap ((k / 2 ^ (i+1):Nat):Int)=((k / 2 ^ (i+1):Nat):Int):=by
  generalize k / 2 ^ (i+1)=q at hlt';exact Z5 (by omega) (by omega)
 have iC:k / 2 ^ (i+1)<=100000:=Nat.le_trans (Nat.div_le_self _ _) hk;refine zY (W6 h ci h0 ob htm) ?_;refine a54 hb (by rw [a0Q];omega) fun d3 s3 h3=>?_
 have o3:=h3.one;refine zY (V5 o3 qM wJ) ?_;refine ⟨ci,?_⟩;rw [b4I];exact h3
end
section
variable {s:k4} {g v:Nat} {m:X6} {mo:Mo} {ps:List (Pr×X0)} {st:V0}
theorem bad_c (hm:Z0 m mo ps) (ho:Z8 mo) (hf:a0J mo) (h8:eM st) (gT:Fit mo st) (hg:GB s g) {d:D} (hd:VB s d (mo.pack st)):CB U8 26 [.ptr g 0,.agg [m.dt,.int .i64 m.g,m.dc,m.dv,m.dp,m.ds,.bool m.b],d] s (mo.gG st):=by
 have om:=hm.az;have fm:=a3N hm;have od:=hd.one;have jE:=a7F gT;have lN:=a72 ho hf;have oH:=hm.b;have f0:Fr [] s (s.push (.cells [m.dt,.int .i64 m.g,m.dc,m.dv,m.dp,m.ds,.bool m.b])):=Fr.push _;have gb:(s.push (.cells [m.dt,.int .i64 m.g,m.dc,m.dv,m.dp,m.ds,.bool m.b])).get s.next=some (.cells [m.dt,.int .i64 m.g,m.dc,m.dv,m.dp,m.ds,.bool m.b]):=W2 rfl;have qL:VB s d (U0 (aB (mo.pack st)) mo.bu):=hd.cY (by rw [<- jE];exact (a3l _).symm);unfold CB;refine X4 (vf:=vf26) rfl ?_;unfold vf26;refine zF ?_;refine zY (aN om od) ?_;refine a0D (b3C hm ho hf (hg.fr f0) (hd.fr f0) jE) rfl ?_;rintro r s1 ⟨rfl,f1⟩;have jl:=f0.trans f1 (by simp);have jk:=f1.kp gb;have nQ:=u7 jk;refine zY (aN jk om) ?_;refine xxm (a7U (hg.fr jl) (qL.fr jl) (by omega)) (fun d s' h=>by obtain ⟨b,_,_,_,f⟩:=h;exact f) (by simp;omega) fun dk s2 E hk hE=>?_
 obtain ⟨b,rfl,hb,g2,f2⟩:=hk;have ik:=jl.trans f2 (by simp);rw [<- jE,a3l] at g2;refine V6 ?_;refine a2D (a0D (b2o hm ho hf gT g2) rfl ?_);rintro r s3 ⟨v,x,rfl,hv,f3⟩;have hO:=ik.trans f3 (by simp);refine V6 ?_;refine xb (safe_c hm ho hf h8 (gT.e ho hf) (hg.fr hO) hv.e) fun s4 f4=>?_
 have iy:=hO.trans f4 (by simp);have lL:=f4.kp (f3.kp (f2.kp jk));have sJ:=u7 lL;have hn:=a1W (mo.cP st);cases yg:mo.dead
 ·rw [yg] at oH
  refine zY (V5 hn lL oH) ?_;refine ⟨?_,iy⟩;rw [Mo.gG,yg];simp
 ·rw [yg] at oH
  refine zY (V5 hn lL oH) ?_;refine xb (dead_c hm ho hf h8 gT (hg.fr iy) (hv.fr f4)) fun s5 f5=>?_
  have iK:=iy.trans f5 (by simp);refine V6 ?_;refine xb (a5D (hg.fr iK) _ _) fun s6 f6=>?_
  refine V6 ?_;refine ⟨?_,iK.trans f6 (by simp)⟩;rw [Mo.gG,yg];simp
theorem same_c (hg:GB s g) {d:D} {bs:List Bool} (hd:VB s d bs) (hl:bs.length<=1000):CB U8 27 [.ptr g 0,d,d] s true:=by
 have od:=hd.one;have iI:=hd.len;have qL:VB s d (U0 (aB bs) bs.length):=hd.cY (a3l _).symm;unfold CB;refine X4 (vf:=vf27) rfl ?_;unfold vf27;refine zF ?_;refine zY (aN od iI) ?_;refine xv (a7U hg qL hl) fun b1 s1 lU g1 f1=>?_
 refine V6 ?_;refine xv (a7U (hg.fr f1) (qL.fr f1) hl) fun b2 s2 ja g2 f2=>?_
 have ik:=f1.trans f2 (by simp);have g1:=f2.kp g1;have l1:=u7 g1;have l2:=u7 g2;have m1:=eh (w:=bs.length) (by omega);have m2:=dy (w:=bs.length) (by omega);have hz:=a1D bs.length;rw [a2G (fun _=>true)] at hz;refine zY (V5 m1 m2 hz) ?_;obtain ⟨gb,f0⟩:=fR (s:=s2) (A:=fun _=>true) (w:=bs.length);generalize s2.push (.cells (U1 (U0 (W8 (fun _=>true) 0) bs.length)))=s3 at *;refine X5 [0,1,2,6,7,8,9,19,30] 0 bs.length (fun i f s'=>f 31=.int .i64 (i:Int)/\s'.get s2.next=some (.cells (U1 (U0 (W8 (fun _=>true) i) bs.length)))/\Fr [] s2 s') (.mk rfl) (by omega) ⟨rfl,gb,f0⟩ ?_;clear gb f0;rintro i f s3 hi ⟨h,gb,fr⟩;by_cases ci:i<bs.length
 rotate_left
 ·obtain rfl:i=bs.length:=by omega
  rw [a2z] at gb;refine zY (aN h ci) ?_;refine xb (a8z (hg.fr (ik.trans fr (by simp))) (VB.aU gb) (by omega)) fun s4 f4=>?_
  refine V6 ?_;refine ⟨?_,(ik.trans fr (by simp)).trans f4 (by simp)⟩;have:a3u (fun _=>true) bs.length=true:=a8G.2 fun _ _=>rfl
  rw [this]
 have g1:=fr.kp g1;have g2:=fr.kp g2;have l1:=u7 g1;have l2:=u7 g2;have e1:=a17 (A:=aB bs) ci;have hs:=a39 (A:=fun _=>true) (b:=true) ci rfl;rw [a2u] at hs;have hw:=a2p (A:=fun _=>true) ci;refine zY (W6 h ci g1 g2 e1) ?_;refine xb (a6O (hg.fr (ik.trans fr (by simp))) _ _) fun s4 f4=>?_
 have lL:=f4.kp gb;have sJ:=u7 lL;have hn:=a1W (aB bs i != aB bs i);rw [show (!(aB bs i != aB bs i))=true by simp,a2u] at hn;refine zY (V3 hn lL hw hs) ?_;exact ⟨ci,(fr.trans f4 (by simp)).st (Nat.le_refl _) _⟩
theorem b1o (n:Nat):List.replicate n true++[true]=List.replicate (n+1) true:=by rw [<- List.replicate_succ']
theorem b9Y (w:Nat):a0w (V7 0) w=false:=by
 rw [Bool.eq_false_iff];intro h;obtain ⟨i,_,h⟩:=a5m.1 h;simp [V7] at h
theorem fits_c (hm:Z0 m mo ps) (ho:Z8 mo) (hf:a0J mo) (gT:Fit mo st) (hg:GB s g) {d:D} (hd:VB s d (mo.pack st)):CB U8 25 [.ptr g 0,.agg [m.dt,.int .i64 m.g,m.dc,m.dv,m.dp,m.ds,.bool m.b],d] s true:=by
 have om:=hm.az;have fm:=a3N hm;have od:=hd.one;have jE:=a7F gT;have lN:=a72 ho hf;have ou:=hm.eo;have jM:=hm.lenC;have mj:=ho.np;have qe:=ho.nc;have qO:=hm.p;have nU:=hm.c;have f0:Fr [] s (s.push (.cells [m.dt,.int .i64 m.g,m.dc,m.dv,m.dp,m.ds,.bool m.b])):=Fr.push _;have gb:(s.push (.cells [m.dt,.int .i64 m.g,m.dc,m.dv,m.dp,m.ds,.bool m.b])).get s.next=some (.cells [m.dt,.int .i64 m.g,m.dc,m.dv,m.dp,m.ds,.bool m.b]):=W2 rfl;have qL:VB s d (U0 (aB (mo.pack st)) mo.bu):=hd.cY (by rw [<- jE];exact (a3l _).symm);unfold CB;refine X4 (vf:=vf25) rfl ?_;unfold vf25;refine zF ?_;refine zY (aN om od) ?_;refine a0D (b3C hm ho hf (hg.fr f0) (hd.fr f0) jE) rfl ?_;rintro r s1 ⟨rfl,f1⟩;have jl:=f0.trans f1 (by simp);have jk:=f1.kp gb;have nQ:=u7 jk;refine zY (aN jk om) ?_;refine xxm (a7U (hg.fr jl) (qL.fr jl) (by omega)) (fun d s' h=>by obtain ⟨b,_,_,_,f⟩:=h;exact f) (by simp;omega) fun dk s2 E hk hE=>?_
 obtain ⟨b,rfl,hb,g2,f2⟩:=hk;have ik:=jl.trans f2 (by simp);rw [<- jE,a3l] at g2;refine V6 ?_;refine a2D (a0D (b2o hm ho hf gT g2) rfl ?_);rintro r s3 ⟨v,x,rfl,hv,f3⟩;have hO:=ik.trans f3 (by simp);have kZ:=f3.kp (f2.kp jk);have uB:=u7 kZ;have oo:=hv.az;have gv:=hv.get;have lv:=u7 gv;refine zY (V5 kZ om ou) ?_;clear f0 gb f1 jl jk nQ f2 f3 ik hE hb g2 qL;refine a1H [0,1,2,4,6,7,11,12,13,14,15,20,28,29,52,53,54,55,79,80,81,82] (fun f s'=>bD s3 s' (f 8) (List.replicate mo.procs.length true)) ?_ ?_
 ·refine X5 [0,1,2,4,6,7,11,12,13,14,15,20,28,29,52,53,54,55,79,80,81,82] 0 mo.procs.length (fun i f s'=>f 30=.int .i64 (i:Int)/\bD s3 s' (f 8) (List.replicate i true)) (.mk rfl) (by omega) ⟨rfl,bD.nil (Fr.refl _ _)⟩ ?_
  rintro i f s4 hi ⟨h,hb⟩;have ob:=hb.one;have iy:=hb.1;by_cases ci:i<mo.procs.length
  rotate_left
  ·obtain rfl:i=mo.procs.length:=by omega
   refine zY (V5 h ci ob) ?_;exact hb
  obtain ⟨y,hy,gP⟩:=hm.proc ci;have gP:=gP .i64;rw [<- a16 ci] at hy gP;unfold U6 at gP;have oy:=hy.az;have jc:=ho.pr _ (a3w ci);have jE:=jc.pl;have xA:i<st.aI.length:=by rw [gT.aI];exact ci
  have iC:bq st.aI i<(U4 mo.procs i).ah:=by
   rw [a4U xA,a16 ci];exact gT.pl i xA ci
  have qD:IntKind.i64.wrap (((U4 mo.procs i).ah:Int)-1)=((U4 mo.procs i).ah:Int)-1:=Z5 (by omega) (by omega);have fb:∀a b,Fr [] s4 ((s4.push a).set s4.next (some b)):=fun a b=>a1x
  have lB:=iy.kp gv;have tc:=u7 lB;obtain ⟨q,z,i1,i2,oz,hz⟩:=(hv.fr iy).aI ci (k:=.i64);have i3:=fun a b=>a5Y i2 (fb a b)
  have nK:=a4R ((U4 mo.procs i).ah:Int);have hen:=b3F (n:=((U4 mo.procs i).ah:Int)) (by omega);have kY:bq st.aI i<2 ^ Z1 ((U4 mo.procs i).ah:Int):=by
   have e:((2 ^ Z1 ((U4 mo.procs i).ah:Int):Nat):Int)=2 ^ Z1 ((U4 mo.procs i).ah:Int):=by simp
   omega
  refine zY (U5 h ci gP oy lB om oo (W6 i1 i3 oz qD ob)) ?_;refine xb (a80 (k:=((U4 mo.procs i).ah:Int)-1) ((hg.fr hO).fr (iy.trans (fb _ _) (by simp))) (hz.fr (fb _ _)) kY nK.2 (by omega)) fun s5 f5=>?_
  rw [decide_eq_true (by omega)];refine V6 ?_;refine a54 ((hb.fr (fb _ _)).fr f5) (by simp;omega) fun d7 s7 h7=>?_
  have o7:=h7.one;rw [b1o] at h7;refine zY o7 ?_;exact ⟨ci,h7⟩
 rintro f s4 hb;have ob:=hb.one;have iy:=hb.1;have lL:=iy.kp kZ;have sJ:=u7 lL;refine zY (V5 lL om jM) ?_;refine a1H [0,1,2,4,6,7,9,10,20,28,29,30,31,52,53] (fun f s'=>∃n,n<=16/\bD s3 s' (f 8) (List.replicate n true)) ?_ ?_
 ·refine X5 [0,1,2,4,6,7,9,10,20,28,29,30,31,52,53] 0 mo.af.length (fun i f s'=>f 54=.int .i64 (i:Int)/\∃n,n<=4+4*i/\bD s3 s' (f 8) (List.replicate n true)) (.mk rfl) (by omega) ⟨rfl,_,by omega,hb⟩ ?_
  clear hb ob iy lL sJ;rintro i f s4 hi ⟨h,n,hn,hb⟩;have ob:=hb.one;have iy:=hb.1;by_cases ci:i<mo.af.length
  rotate_left
  ·obtain rfl:i=mo.af.length:=by omega
   refine zY (V5 h ci ob) ?_;exact ⟨n,by omega,hb⟩
  have lD:=FLC.idx nU ci (k:=.i64);have yE:=hf.ch _ (List.getElem_mem ci);have mw:i<st.af.length:=by rw [gT.af];exact ci
  have ku:=gT.cl i mw ci;rw [<- a3K mw] at ku;rw [<- a2q ci] at lD yE ku;unfold Ch.row at lD;have fb:∀a b,Fr [] s4 ((s4.push a).set s4.next (some b)):=fun a b=>a1x
  have lB:=iy.kp gv;have tc:=u7 lB;obtain ⟨q,z,i1,i2,oz,hz⟩:=(hv.fr iy).sz ci (k:=.i64);have i3:=fun a b=>a5Y i2 (fb a b)
  refine zY (U5 h ci lD lB om oo i1 (V5 i3 oz ob)) ?_;refine xb (a80 (k:=(U7 mo.af i).room) ((hg.fr hO).fr (iy.trans (fb _ _) (by simp))) (hz.fr (fb _ _)) (by omega) (by omega) (by omega)) fun s5 f5=>?_
  rw [decide_eq_true ku];refine V6 ?_;refine a54 ((hb.fr (fb _ _)).fr f5) (by simp;omega) fun d7 s7 h7=>?_
  have o7:=h7.one;rw [b1o] at h7;have BJ:=h7.1.kp gv;have lv7:=u7 BJ;obtain ⟨q2,z2,j1,j2,oz2,qI⟩:=(hv.fr h7.1).ms ci (k:=.i64);have uO:=qI.len (hv.fr h7.1).hs;have qS:(mo.cR st i).length=(U7 mo.af i).room.toNat:=by simp [Mo.cR]
  rw [qS] at uO;refine zY (U5 o7 BJ om oo j1 j2 oz2 uO) ?_;refine X5 [0,1,2,4,6,7,9,10,11,12,20,28,29,30,31,52,53,54,55,79,80] 0 (U7 mo.af i).room.toNat (fun j f' s'=>f' 81=.int .i64 (j:Int)/\∃n,n<=5+4*i+j/\bD s3 s' (f' 8) (List.replicate n true)) (.mk rfl) (by omega) ⟨rfl,_,by omega,h7⟩ ?_;rintro j f' s8 hj ⟨h',n',jH,mz⟩;have tE:=mz.one;by_cases cj:j<(U7 mo.af i).room.toNat
  rotate_left
  ·obtain rfl:j=(U7 mo.af i).room.toNat:=by omega
   refine zY (V3 h' cj h tE) ?_;exact ⟨ci,n',by omega,mz⟩
  have jv:=mz.1;have xB:=jv.kp gv;have lv8:=u7 xB;obtain ⟨q3,z3,k1,k2,wU⟩:=qI.idx (hv.fr jv).hs (i:=j) (by omega) (k:=.i64);have oz3:=wU.one;have wU:=wU.vb (hv.fr jv).hs;rw [show (mo.cR st i)[j]'(by omega)=mo.bU st i j by simp [Mo.cR]] at wU;obtain ⟨q4,z4,l1,l2,oz4,hz4⟩:=(hv.fr jv).sz ci (k:=.i64);refine zY (U5 h' cj k1 k2 oz3 xB om (W6 oo l1 l2 oz4 tE)) ?_;refine xb (a80 (k:=(j:Int)) ((hg.fr hO).fr jv) hz4 (by omega) (by omega) (by omega)) fun s9 f9=>?_
  have mH:=(hO.trans jv (by simp)).trans f9 (by simp);refine zY tE ?_;refine xb (a4Z (hg.fr mH) (A:=V7 (Y8 (V8 st.af i) j)) (w:=(U7 mo.af i).width.toNat) (wU.fr f9) (by omega)) fun lG f10=>?_
  have mW:=mH.trans f10 (by simp);refine V6 ?_;refine xb (a08 (hg.fr mW) _ _) fun tp f11=>?_
  have hD:=a1W (decide ((V8 st.af i).length<=j)&&a0w (V7 (Y8 (V8 st.af i) j)) (U7 mo.af i).width.toNat);have oj:(decide ((V8 st.af i).length<=j)&&a0w (V7 (Y8 (V8 st.af i) j)) (U7 mo.af i).width.toNat)=false:=by
   by_cases c:(V8 st.af i).length<=j
   ·have e:Y8 (V8 st.af i) j=0:=by
     unfold Y8;rw [List.getD,List.getElem?_eq_none c];rfl
    rw [e,b9Y,Bool.and_false]
   ·simp [c]
  rw [oj] at hD;rw [oj];refine zY hD ?_;refine a54 (((mz.fr f9).fr f10).fr f11) (by simp;omega) fun d12 yj qf=>?_
  have o12:=qf.one;have qf:bD s3 yj d12 (List.replicate n' true++[true]):=qf;rw [b1o] at qf;refine zY o12 ?_;exact ⟨cj,_,by omega,qf⟩
 rintro f s4 ⟨n,hn,hb⟩;have ob:=hb.one;have iy:=hb.1;have lL:=iy.kp kZ;have sJ:=u7 lL;have lB:=iy.kp gv;have tc:=u7 lB;have hh:=gT.hold;obtain ⟨H,hH⟩:∃H:Nat,st.hold+1=(H:Int):=⟨(st.hold+1).toNat,by omega⟩
 have eJ:=(hv.fr iy).eJ;rw [hH] at eJ;refine zY (Y6 lL lB om oo ou ob) ?_;refine xb (a80 (k:=(mo.procs.length:Int)) ((hg.fr hO).fr iy) eJ (by omega) (by omega) (by omega)) fun s5 f5=>?_
 rw [decide_eq_true (by omega)];refine V6 ?_;refine a54 (hb.fr f5) (by simp;omega) fun d6 s6 h6=>?_
 have o6:=h6.one;rw [b1o] at h6;have iO:=hO.trans h6.1 (by simp);refine zY o6 ?_;refine xb (all_l (hg.fr iO) h6.vb (by simp;omega)) fun s7 f7=>?_
 refine V6 ?_;refine ⟨?_,iO.trans f7 (by simp)⟩;simp
end
section
variable {m:X6} {mo:Mo} {ps:List (Pr×X0)} {x:cG} {st:V0}
end
end Go.Proofs.YtigbmclkjknnjaaGreat
namespace Go.V

end Go.V
namespace Go.Proofs.YtigbmclkjknnjaaGreat
open Go.V
section
variable {m:X6} {mo:Mo} {ps:List (Pr×X0)} {x:cG} {st:V0}
theorem c0x (hm:Z0 m mo ps) (ho:Z8 mo) (hf:a0J mo):∃x,ca U8 23 [.agg [m.dt,.int .i64 m.g,m.dc,m.dv,m.dp,m.ds,.bool m.b]] (.agg [x.da,x.dv,x.dc,.int .i64 mo.fst.hold])/\a4W mo x mo.fst:=by
 obtain ⟨d,s',h1,⟨dA,dV,dC,EA,EV,EC,rfl,hA,hV,hC,hp,hw⟩,fr⟩:=c2d (s:=k4.empty) hm ho;have hs:SttR s' [dA,dV,dC,.int .i64 (-1)] mo.fst:=by
  refine ⟨dA,dV,dC,List.replicate mo.af.length .ag,rfl,hA.sn fun e he=>hp.w e (by simp [he]),hV.sn fun e he=>hp.w e (by simp [he]),?_,?_,by simp [Mo.fst],fun j h h'=>.inl ⟨by simp,by simp [Mo.fst]⟩⟩
  ·have:=hC.sn fun e he=>hp.w e (by simp [he])
   unfold a5B at this;simpa using this
  ·rcases hC with ⟨_,e,_⟩ | ⟨id,e,_⟩
   ·left
    have:=congrArg List.length e;unfold a5B at this;simp at this;simp [this]
   ·right
    unfold a5B at e;exact ⟨id,by simpa using e⟩
 obtain ⟨x,h4,h5⟩:=hs.du;have gT:=c1g ho hf;exact ⟨x,a0F ⟨_,_,h1,h4⟩,h5,b2H hf gT,gT⟩
theorem b9R (hm:Z0 m mo ps) (ho:Z8 mo) (hx:a4W mo x st):ca U8 53 [.agg [m.dt,.int .i64 m.g,m.dc,m.dv,m.dp,m.ds,.bool m.b],.agg [x.da,x.dv,x.dc,.int .i64 st.hold]] (.bool (mo.dR st)):=by
 have fm:=a3N hm;have fx:=a6l hx.f;have om:=hm.az;have ox:=hx.f.az;have zQ:=hx.f.a;have mj:=ho.np;have pj:=hx.fit.aI;obtain ⟨dm,jX,pD⟩:=c2H hm ho hx;have jX:=a0F jX;refine a0F ?_;refine a02 (vf:=vf53) rfl ?_;unfold vf53;refine zF ?_;refine zY (aN om ox) ?_;have me:Hp ((k4.empty.push (.cells [m.dt,.int .i64 m.g,m.dc,m.dv,m.dp,m.ds,.bool m.b])).push (.cells [x.da,x.dv,x.dc,.int .i64 st.hold])) [] [(0,[m.dt,.int .i64 m.g,m.dc,m.dv,m.dp,m.ds,.bool m.b]),(1,[x.da,x.dv,x.dc,.int .i64 st.hold])]:=⟨List.nodup_nil,by simp,by simp [Y2],by
  intro y hy;simp only [List.mem_cons,List.not_mem_nil,or_false] at hy;rcases hy with rfl | rfl
  ·exact zZ0
  ·simp (disch:=(first|exact Rf.mk rfl|with_reducible assumption|omega|((repeat (first|rw [nP]|rw [nS]|rw [Z2]))<;>omega)|decide)) only [go_sem,↓reduceIte]⟩
 generalize (k4.empty.push (.cells [m.dt,.int .i64 m.g,m.dc,m.dv,m.dp,m.ds,.bool m.b])).push (.cells [x.da,x.dv,x.dc,.int .i64 st.hold])=s0 at *;have g0:s0.get 0=some (.cells [m.dt,.int .i64 m.g,m.dc,m.dv,m.dp,m.ds,.bool m.b]):=me.r (0,_) (by simp);have g1:s0.get 1=some (.cells [x.da,x.dv,x.dc,.int .i64 st.hold]):=me.r (1,_) (by simp);have l0:=u7 g0;have l1:=u7 g1;refine X5 [0,1,2,3,4] 0 mo.procs.length (fun i f s=>f 6=.int .i64 (i:Int)/\f 5=.bool ((List.range i).all fun i=>(U4 mo.procs i).rest.getD (bq st.aI i) false)/\s=s0) (.mk rfl) (by omega) ⟨rfl,rfl,rfl⟩ ?_;rintro i f s hi ⟨hE,hR,rfl⟩;by_cases ci:i<mo.procs.length
 rotate_left
 ·obtain rfl:i=mo.procs.length:=by omega
  by_cases c0:(mo.aQ st).length=0
  ·have e:mo.dR st=!((List.range mo.procs.length).all fun i=>(U4 mo.procs i).rest.getD (bq st.aI i) false):=by
    unfold Mo.dR;rw [decide_eq_true (List.length_eq_zero_iff.1 c0)];rfl
   rw [e];exact zZ (U5 hE hR ci g0 g1 om ox (W6 fm fx jX pD c0))
  ·have e:mo.dR st=false:=by
    unfold Mo.dR;rw [decide_eq_false fun h=>c0 (by rw [h];rfl)];rfl
   rw [e];exact zZ (U5 hE hR ci g0 g1 om ox (W6 fm fx jX pD c0))
 have jb:i<st.aI.length:=by omega
 have jE:=(a59.2 hx.fit).pl i ci;have nX:=(ho.pr _ (a3w ci)).inv.rest;have ly:bq st.aI i<(U4 mo.procs i).rest.length:=by omega
 cases hb:(List.range i).all fun i=>(U4 mo.procs i).rest.getD (bq st.aI i) false
 ·rw [hb] at hR
  refine zY (U5 hE hR ci jb g0 g1 om ox) ?_;rw [List.all_append,hb];rfl
 ·rw [hb] at hR
  refine zY (U5 hE hR ci jb g0 g1 om (aN ox ly)) ?_;rw [List.all_append,hb];simp [aB,bAt]
theorem bad_bc (hm:Z0 m mo ps) (ho:Z8 mo) (hx:a4W mo x st):ca U8 24 [.agg [m.dt,.int .i64 m.g,m.dc,m.dv,m.dp,m.ds,.bool m.b],.agg [x.da,x.dv,x.dc,.int .i64 st.hold]] (.bool (mo.gG st)):=by
 have fm:=a3N hm;have fx:=a6l hx.f;have om:=hm.az;have ox:=hx.f.az;have hb:=hm.b;have hs:=b9E hm ho hx;have hd:=b9R hm ho hx;refine a0F ?_;unfold Mo.gG;cases cs:mo.cP st
 ·rw [cs] at hs
  refine a02 (vf:=a63) rfl ?_;unfold a63;refine zF ?_;exact zZ (W6 om ox fm fx hs)
 rw [cs] at hs;cases cb:mo.dead
 ·rw [cb] at hb
  rw [hb] at fm hs hd ⊢;refine a02 (vf:=a63) rfl ?_;unfold a63;refine zF ?_;refine zY (Y6 om ox fm fx hs hb) ?_;rfl
 ·rw [cb] at hb
  rw [hb] at fm hs hd ⊢;refine a02 (vf:=a63) rfl ?_;unfold a63;refine zF ?_;refine zY (Y3 om ox fm fx hs hb hd) ?_;exact (Bool.false_or _).symm
end
section
variable {m:X6} {mo:Mo} {ps:List (Pr×X0)} {x:cG} {st:V0}
theorem c0f {d0:D} {t:List Nd} (hT:X8 d0 t):X9 U8 4 [d0] k4.empty fun r _=>r=.bool true:=by
 have qR:ca U8 5 [] (.bool true):=a6o c2m rfl;have pT:PZ d0:=hT.fl.pz;have oT:=FL.one hT.fl;obtain ⟨d',h1,h2⟩:=c5c hT;rcases h2 with rfl | ⟨m,ps,rfl,hR,hS,hY,hm⟩
 ·refine X4 (vf:=vf4) rfl ?_
  unfold vf4;refine zF ?_;refine zY (V5 qR h1 pT) ?_;exact rfl
 have ho:=c1t hR hS hY;have hf:=c4p hR hY;generalize a7X t=mo at *;have om:=hm.az;have fm:=a3N hm;have mj:=ho.np;obtain ⟨x,iT,hx⟩:=c0x hm ho hf;have fx:=a6l hx.f;have ox:=hx.f.az;have gT:=hx.fit;have h8:=b2H hf gT;have wj:=bad_bc hm ho hx;obtain ⟨dc,jx,hz⟩:=c1X hm ho hf hx;have jx:=a0F jx;have rZ:=(hz.vb k4.empty).one;have lu:=b8l hm ho;obtain ⟨dl,kD,hl⟩:=b0o hm ho;have pj:=a0F kD;have kO:=b13 ho;have ol:=hl.one;have eJ:a0C false dl=some (.int .i64 (mo.allM.length:Int)):=by rw [hl.len];simp
 have jE:=a7F gT;have lN:=a72 ho hf;unfold Y5 at h1;have pn:=a4R (mo.allM.length:Int);have rW:a44 .shl .i64 1 (Z1 (mo.allM.length:Int):Int)=some (.int .i64 ((2 ^ Z1 (mo.allM.length:Int):Nat):Int)):=by
  have hp:2 ^ Z1 (mo.allM.length:Int)<=65536:=Nat.le_trans (Nat.pow_le_pow_right (by omega) pn.2) (by decide);simp only [a44];rw [if_neg (by omega),Int.toNat_natCast,show IntKind.i64.bits=64 from rfl,Nat.min_eq_left (by omega),Int.one_mul];have e:(2:Int) ^ Z1 (mo.allM.length:Int)=((2 ^ Z1 (mo.allM.length:Int):Nat):Int):=by simp
  rw [e];generalize (2 ^ Z1 (mo.allM.length:Int):Nat)=P at hp ⊢;rw [Z5 (by omega) (by omega)]
 have xT:IntKind.i64.wrap ((mo.allM.length:Int)+20)=(mo.allM.length:Int)+20:=Z5 (by omega) (by omega);have g0:((k4.empty.push (.cells [.ag,.int .i64 0,.ag,.ag,.ag,.ag,.bool false])).set 0 (some (.cells [m.dt,.int .i64 m.g,m.dc,m.dv,m.dp,m.ds,.bool m.b]))).get 0=some (.cells [m.dt,.int .i64 m.g,m.dc,m.dv,m.dp,m.ds,.bool m.b]):=a0d (by simp);refine X4 (vf:=vf4) rfl ?_;unfold vf4;refine zF ?_;refine zY (V3 qR h1 pT om) ?_;refine a0D newB_c rfl ?_;rintro r s1 ⟨g,rfl,hg,f1⟩;have g1:=f1.kp g0;have l1:=u7 g1;have yK:=fun s' (f:Fr [] s1 s')=>bad_c hm ho hf h8 gT (hg.fr f) (hz.vb s')
 cases hb:mo.gG mo.fst
 all_goals
  rw [hb] at wj yK;refine zY (U5 g1 om fm fx ox iT jx (aN wj rZ)) ?_;refine xb (fits_c hm ho hf gT hg (hz.vb s1)) fun s2 f2=>?_
  have g2:=f2.kp g1;have l2:=u7 g2;simp (disch:=(first|exact Rf.mk rfl|with_reducible assumption|omega|((repeat (first|rw [nP]|rw [nS]|rw [Z2]))<;>omega)|decide)) only [go_sem,↓reduceIte,a2u,g2,om,rZ];refine xb (yK s2 f2) fun s3 f3=>?_
  have f13:=f2.trans f3 (by simp);simp (disch:=(first|exact Rf.mk rfl|with_reducible assumption|omega|((repeat (first|rw [nP]|rw [nS]|rw [Z2]))<;>omega)|decide)) only [go_sem,↓reduceIte,a2u,a4j,rZ];refine xb (same_c (hg.fr f13) (hz.vb s3) (by omega)) fun s4 f4=>?_
  have f14:=f13.trans f4 (by simp);have g4:=f14.kp g1;have l4:=u7 g4;simp (disch:=(first|exact Rf.mk rfl|with_reducible assumption|omega|((repeat (first|rw [nP]|rw [nS]|rw [Z2]))<;>omega)|decide)) only [go_sem,↓reduceIte,a2u,g4,om,fm,pj,lu,ol,eJ];refine X5 [0,3,4,5,6,7,8,9,14,21,30,50] 0 20 (fun i f s'=>f 10=.int .i64 ((mo.allM.length+i:Nat):Int)/\Fr [] s1 s') (.mk rfl) (by omega) ⟨rfl,f14⟩ ?_;rintro i f s5 hi ⟨h,f15⟩;have g5:=f15.kp g1;have l5:=u7 g5;by_cases ci:i<20
  rotate_left
  ·obtain rfl:i=20:=by omega
   have e2:(((mo.allM.length+20:Nat):Int)<(mo.allM.length:Int)+20)=False:=eq_false (by omega);by_cases ck:mo.allM.length+20<2 ^ Z1 (mo.allM.length:Int)
   ·refine zY (Y3 h rW ck ol eJ e2 xT) ?_
    exact rfl
   ·refine zY (V5 h rW ck) ?_
    exact rfl
  by_cases ck:mo.allM.length+i<2 ^ Z1 (mo.allM.length:Int)
  rotate_left
  ·refine zY (V5 h rW ck) ?_
   exact rfl
  have e2:(((mo.allM.length+i:Nat):Int)<(mo.allM.length:Int)+20)=True:=eq_true (by omega);obtain ⟨dk,oY,hzk⟩:=c5w (k:=mo.allM.length+i) (w:=Z1 (mo.allM.length:Int)) (by omega) pn.2;have oY:=a0F oY;have odk:=(hzk.vb k4.empty).one;refine zY (U5 h rW ck ol eJ e2 xT (Y6 g5 om fm oY rZ odk)) ?_;refine a2D (a0D (step_c hm ho hf h8 gT (hg.fr f15) (hz.vb s5) (hzk.vb s5) ck false false (Q:=fun _=>false) (B:=fun _=>false) (fun h=>by cases h) (fun h=>by cases h)) rfl ?_);rintro r s6 ⟨dt,rfl,odt,f6,_⟩;rw [decide_eq_false (show ¬ mo.allM.length+i<mo.allM.length by omega),Bool.false_and,a4j];refine zY (aN odt h) ?_;exact ⟨ci,by omega,f15.trans f6 (by simp)⟩
theorem c3D {d0:D} (h0:b0w Ty.tree d0):X9 U8 4 [d0] k4.empty fun r _=>r=.bool true:=by
 obtain ⟨t,hT⟩:=c0h h0;exact c0f hT
end
end Go.Proofs.YtigbmclkjknnjaaGreat
