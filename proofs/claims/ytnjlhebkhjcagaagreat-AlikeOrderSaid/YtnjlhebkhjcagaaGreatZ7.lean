/- Texts one behind the other. -/
import Derived.Test.YtnjlhebkhjcagaaGreatZ5
import Derived.Test.YtnjlhebkhjcagaaGreatZ6
set_option linter.unusedSimpArgs false
set_option linter.unusedVariables false
namespace Go.Proofs.YtnjlhebkhjcagaaGreat
open Go.V
set_option maxRecDepth 100000
set_option maxHeartbeats 4000000
variable {m:MdX} {mo:Mo} {ps:List (Pr×PrD)} {x:StD} {st:Stt}
theorem a8d {x w:Int} (h1:-4294967296<=x) (h2:x<=4294967296) (h3:1<=w) (h4:w<=8):Eqc vfs 38 [.int .i64 x,.int .i64 w] (.int .i64 (N4 x w.toNat)):=a2y (a7i (x:=x) (n:=w) (w:=w.toNat) (by omega) ⟨by omega,by omega⟩) rfl
theorem c23 (hm:MoF m mo ps) (ho:N2 mo) (hf:W4 mo) (hx:X4 mo x st) {v:Mv} (hv:mo.mvOk st v):EvP vfs 22 [.agg [m.dt,.int .i64 m.g,m.dc,m.dv,m.dp,m.ds,.bool m.b],.agg [x.da,x.dv,x.dc,.int .i64 st.hold],.agg [.int .i64 (v.kind:Int),.int .i64 (v.proc:Int),.int .i64 (v.edge:Int),.int .i64 (v.chan:Int)]] k4.empty fun r s=>∃cs,r=.agg cs/\a1C s cs (mo.doS st v):=by
 have om:=hm.ones
 have ox:=hx.f.ones
 have fm:=a07 hm
 have fx:=a0n hx.f
 have hcl:=hx.fit.chans
 have hvl:=hx.fit.vars
 have hal:=hx.fit.at'
 have hnc:=ho.nc
 have hnv:=ho.nv
 have hnp:=ho.np
 refine Y5 (vf:=b0W) rfl ?_
 unfold b0W;refine zF ?_
 refine zY (aN om ox) ?_
 refine a2m (c6A hx.f (by omega) hx.e (by omega) (by omega)) (by simp (disch:=(first|exact Rf.mk rfl|with_reducible assumption|omega|((repeat (first|rw [nP]|rw [nS]|rw [M3]))<;>omega)|decide)) only [go_sem,↓reduceIte]) ?_
 rintro r s1 ⟨hm1,fr⟩
 obtain ⟨a,vv,dC,ids,rfl,H⟩:=hm1.open
 have l1:=fr.1
 simp only [k4.next_push,M3,Nat.reduceAdd] at H l1
 have g0:s1.get 0=some (.cells [m.dt,.int .i64 m.g,m.dc,m.dv,m.dp,m.ds,.bool m.b]):=by rw [fr.2 0 (by simp [M3]) (by simp)];simp (disch:=(first|exact Rf.mk rfl|with_reducible assumption|omega|((repeat (first|rw [nP]|rw [nS]|rw [M3]))<;>omega)|decide)) only [go_sem,↓reduceIte]
 have g1:s1.get 1=some (.cells [x.da,x.dv,x.dc,.int .i64 st.hold]):=by rw [fr.2 1 (by simp [M3]) (by simp)];simp (disch:=(first|exact Rf.mk rfl|with_reducible assumption|omega|((repeat (first|rw [nP]|rw [nS]|rw [M3]))<;>omega)|decide)) only [go_sem,↓reduceIte]
 have g2:s1.get 2=some (.cells [.int .i64 (v.kind:Int),.int .i64 (v.proc:Int),.int .i64 (v.edge:Int),.int .i64 (v.chan:Int)]):=by rw [fr.2 2 (by simp [M3]) (by simp)];simp (disch:=(first|exact Rf.mk rfl|with_reducible assumption|omega|((repeat (first|rw [nP]|rw [nS]|rw [M3]))<;>omega)|decide)) only [go_sem,↓reduceIte]
 have g3:s1.get 3=some (.cells [.nils,.nils,.nils,.int .i64 0]):=by rw [fr.2 3 (by simp [M3]) (by simp)];simp (disch:=(first|exact Rf.mk rfl|with_reducible assumption|omega|((repeat (first|rw [nP]|rw [nS]|rw [M3]))<;>omega)|decide)) only [go_sem,↓reduceIte]
 clear fr hm1
 have H':=H
 obtain ⟨hil,ga,gv,gc,gq,inj,av,na,nv⟩:=H'
 have oc:M9 dC=true:=by rcases gc with ⟨_,rfl⟩ | ⟨c,rfl,_⟩<;>rfl
 have la:=M7 ga
 have lv:=M7 gv
 rcases hv with ⟨hk,hp,he,hcan⟩ | ⟨hk,hc,hlen⟩ | ⟨hk,hc,hlen,hroom⟩
 ·have hpo:=ho.pr _ (V1 hp)
  have heo:=hpo.inv.ed _ (a1E he)
  have hel:=hpo.el
  have hpa:v.proc<st.at'.length:=by omega
  have hfit:=b64 ho hf (a0D.2 hx.fit) hp (a1E he) hcan
  have e:mo.doS st v=mo.doE st v.proc (pAt mo.procs v.proc) (eAt (pAt mo.procs v.proc).edges v.edge):=by unfold Mo.doS;rw [if_neg (by omega),if_neg (by omega)]
  rw [e]
  unfold Mo.doE
  generalize hE:eAt (pAt mo.procs v.proc).edges v.edge=E at *
  have h6:E.act=0∨E.act=1∨E.act=2∨E.act=3∨E.act=4∨E.act=5:=by have:=heo.act;omega
  have h6':E.act=0∨E.act=1∨E.act=2∨(E.act=3/\∃k:Nat,E.chan=(k:Int)/\1<(cAt st.chans k).length)∨(E.act=3/\∃k:Nat,E.chan=(k:Int)/\¬ 1<(cAt st.chans k).length)∨E.act=4∨E.act=5:=by
   by_cases h3:E.act=3
   ·obtain ⟨k,hk1,_⟩:=heo.c1 (by omega)
    by_cases l2:1<(cAt st.chans k).length
    ·exact .inr (.inr (.inr (.inl ⟨h3,k,hk1,l2⟩)))
    ·exact .inr (.inr (.inr (.inr (.inl ⟨h3,k,hk1,l2⟩))))
   ·omega
  clear h6
  rcases h6' with h6 | h6 | h6 | ⟨h6,k',hk',l2⟩ | ⟨h6,k',hk',l2⟩ | h6 | h6
  ·have hex:=heo.ex0 (by omega)
   have e2:mo.edgeS st v.proc (pAt mo.procs v.proc) E=⟨(st.at'.set v.proc E.to),st.vars,st.chans,-1⟩:=by unfold Mo.edgeS Mo.actS;rw [if_neg (by omega),if_neg (by omega),if_neg (by omega)];rfl
   refine zY (aN g0 (aN g1 (aN g2 (aN g3 (aN ga (aN gv (aN hk (aN hp (aN he (aN hpa (aN hE (aN h6 (aN om (aN ox (aN oc hex))))))))))))))) ?_
   refine Z4 (fun c=>?_) (fun c=>?_)
   ·refine zY (aN g0 (aN g2 (aN hk (aN om c)))) ?_
    refine a4l (H.same (A:=(st.at'.set v.proc E.to)) (V:=st.vars) (hd:=-1) (by simp) (by simp) (by simp (disch:=(first|exact Rf.mk rfl|with_reducible assumption|omega|((repeat (first|rw [nP]|rw [nS]|rw [M3]))<;>omega)|decide)) only [go_sem,↓reduceIte,ga]) (by simp (disch:=(first|exact Rf.mk rfl|with_reducible assumption|omega|((repeat (first|rw [nP]|rw [nS]|rw [M3]))<;>omega)|decide)) only [go_sem,↓reduceIte,gv]) (fun j h1 h2 h3 h4=>by simp (disch:=(first|exact Rf.mk rfl|with_reducible assumption|omega|((repeat (first|rw [nP]|rw [nS]|rw [M3]))<;>omega)|decide)) only [go_sem,↓reduceIte])) a4d ?_
    intro x' hx'
    rw [e2] at hfit
    have hsb:=a4f hm ho (x:=x') ⟨hx',a2v hf (a0D.1 hfit),a0D.1 hfit⟩ hp
    refine zY hsb ?_
    refine Y4 (fun c2=>?_) (fun c2=>?_)
    ·refine zY (aN g2 (aN g3 (aN oc hk))) ?_
     refine a0a ⟨_,rfl,?_⟩
     simp only [e2,c2,Bool.and_self,if_true]
     exact H.same (A:=(st.at'.set v.proc E.to)) (V:=st.vars) (hd:=(v.proc:Int)) (by simp) (by simp) (by simp (disch:=(first|exact Rf.mk rfl|with_reducible assumption|omega|((repeat (first|rw [nP]|rw [nS]|rw [M3]))<;>omega)|decide)) only [go_sem,↓reduceIte,ga]) (by simp (disch:=(first|exact Rf.mk rfl|with_reducible assumption|omega|((repeat (first|rw [nP]|rw [nS]|rw [M3]))<;>omega)|decide)) only [go_sem,↓reduceIte,gv]) (fun j h1 h2 h3 h4=>by simp (disch:=(first|exact Rf.mk rfl|with_reducible assumption|omega|((repeat (first|rw [nP]|rw [nS]|rw [M3]))<;>omega)|decide)) only [go_sem,↓reduceIte])
    ·refine zY (aN g2 (aN g3 (aN oc hk))) ?_
     refine a0a ⟨_,rfl,?_⟩
     simp only [e2,c2,Bool.and_false,Bool.false_eq_true,if_false]
     exact H.same (A:=(st.at'.set v.proc E.to)) (V:=st.vars) (hd:=-1) (by simp) (by simp) (by simp (disch:=(first|exact Rf.mk rfl|with_reducible assumption|omega|((repeat (first|rw [nP]|rw [nS]|rw [M3]))<;>omega)|decide)) only [go_sem,↓reduceIte,ga]) (by simp (disch:=(first|exact Rf.mk rfl|with_reducible assumption|omega|((repeat (first|rw [nP]|rw [nS]|rw [M3]))<;>omega)|decide)) only [go_sem,↓reduceIte,gv]) (fun j h1 h2 h3 h4=>by simp (disch:=(first|exact Rf.mk rfl|with_reducible assumption|omega|((repeat (first|rw [nP]|rw [nS]|rw [M3]))<;>omega)|decide)) only [go_sem,↓reduceIte])
   ·refine zY (aN g0 (aN g2 (aN g3 (aN hk (aN om (aN oc c)))))) ?_
    refine a0a ⟨_,rfl,?_⟩
    simp only [e2,Bool.false_and,Bool.false_eq_true,if_false]
    exact H.same (A:=(st.at'.set v.proc E.to)) (V:=st.vars) (hd:=-1) (by simp) (by simp) (by simp (disch:=(first|exact Rf.mk rfl|with_reducible assumption|omega|((repeat (first|rw [nP]|rw [nS]|rw [M3]))<;>omega)|decide)) only [go_sem,↓reduceIte,ga]) (by simp (disch:=(first|exact Rf.mk rfl|with_reducible assumption|omega|((repeat (first|rw [nP]|rw [nS]|rw [M3]))<;>omega)|decide)) only [go_sem,↓reduceIte,gv]) (fun j h1 h2 h3 h4=>by simp (disch:=(first|exact Rf.mk rfl|with_reducible assumption|omega|((repeat (first|rw [nP]|rw [nS]|rw [M3]))<;>omega)|decide)) only [go_sem,↓reduceIte])
  ·obtain ⟨n,hn1,hn2,hn3⟩:=heo.ex1 (by omega)
   have hval:=a3F hm ho hx hp hn2 hn3
   have hxn:(mo.ex (pAt mo.procs v.proc) st E 0).1=(mo.val (O8 (pAt mo.procs v.proc)) st n).1:=by unfold Mo.ex;rw [hn1];simp
   have h8n:=a5d hx.e (t:=mo.tree) (ch:=mo.ch) (look:=O8 (pAt mo.procs v.proc)) (mo.tree.length+1) n
   have hb:-128<=(mo.val (O8 (pAt mo.procs v.proc)) st n).1/\(mo.val (O8 (pAt mo.procs v.proc)) st n).1<=127:=h8n
   obtain ⟨q,hq0,hq1⟩:=heo.v1 (by omega)
   have hq:=hpo.var q hq0
   have hq':q<st.vars.length:=by omega
   have hmv:=hm.v
   have hw:=hf.vr _ (a3p hq)
   have hwt:=fun z (h1:-4294967296<=z) h2=>a8d (x:=z) h1 h2 hw.1 hw.2.1
   have e2:mo.edgeS st v.proc (pAt mo.procs v.proc) E=⟨(st.at'.set v.proc E.to),(st.vars.set q (N4 (mo.val (O8 (pAt mo.procs v.proc)) st n).1 (vAt mo.vars q).width.toNat)),st.chans,-1⟩:=by unfold Mo.edgeS Mo.actS;rw [if_pos h6,hq1,hxn,Int.toNat_natCast];rfl
   refine zY (aN g0 (aN g1 (aN g2 (aN g3 (aN ga (aN gv (aN hk (aN hp (aN he (aN hpa (aN hE (aN h6 (aN om (aN ox (aN oc (aN hn1 (aN hval (aN hq1 (aN hq (aN hq' hwt)))))))))))))))))))) ?_
   refine Z4 (fun c=>?_) (fun c=>?_)
   ·refine zY (aN g0 (aN g2 (aN hk (aN om c)))) ?_
    refine a4l (H.same (A:=(st.at'.set v.proc E.to)) (V:=(st.vars.set q (N4 (mo.val (O8 (pAt mo.procs v.proc)) st n).1 (vAt mo.vars q).width.toNat))) (hd:=-1) (by simp) (by simp) (by simp (disch:=(first|exact Rf.mk rfl|with_reducible assumption|omega|((repeat (first|rw [nP]|rw [nS]|rw [M3]))<;>omega)|decide)) only [go_sem,↓reduceIte,ga]) (by simp (disch:=(first|exact Rf.mk rfl|with_reducible assumption|omega|((repeat (first|rw [nP]|rw [nS]|rw [M3]))<;>omega)|decide)) only [go_sem,↓reduceIte,gv]) (fun j h1 h2 h3 h4=>by simp (disch:=(first|exact Rf.mk rfl|with_reducible assumption|omega|((repeat (first|rw [nP]|rw [nS]|rw [M3]))<;>omega)|decide)) only [go_sem,↓reduceIte])) a4d ?_
    intro x' hx'
    rw [e2] at hfit
    have hsb:=a4f hm ho (x:=x') ⟨hx',a2v hf (a0D.1 hfit),a0D.1 hfit⟩ hp
    refine zY hsb ?_
    refine Y4 (fun c2=>?_) (fun c2=>?_)
    ·refine zY (aN g2 (aN g3 (aN oc hk))) ?_
     refine a0a ⟨_,rfl,?_⟩
     simp only [e2,c2,Bool.and_self,if_true]
     exact H.same (A:=(st.at'.set v.proc E.to)) (V:=(st.vars.set q (N4 (mo.val (O8 (pAt mo.procs v.proc)) st n).1 (vAt mo.vars q).width.toNat))) (hd:=(v.proc:Int)) (by simp) (by simp) (by simp (disch:=(first|exact Rf.mk rfl|with_reducible assumption|omega|((repeat (first|rw [nP]|rw [nS]|rw [M3]))<;>omega)|decide)) only [go_sem,↓reduceIte,ga]) (by simp (disch:=(first|exact Rf.mk rfl|with_reducible assumption|omega|((repeat (first|rw [nP]|rw [nS]|rw [M3]))<;>omega)|decide)) only [go_sem,↓reduceIte,gv]) (fun j h1 h2 h3 h4=>by simp (disch:=(first|exact Rf.mk rfl|with_reducible assumption|omega|((repeat (first|rw [nP]|rw [nS]|rw [M3]))<;>omega)|decide)) only [go_sem,↓reduceIte])
    ·refine zY (aN g2 (aN g3 (aN oc hk))) ?_
     refine a0a ⟨_,rfl,?_⟩
     simp only [e2,c2,Bool.and_false,Bool.false_eq_true,if_false]
     exact H.same (A:=(st.at'.set v.proc E.to)) (V:=(st.vars.set q (N4 (mo.val (O8 (pAt mo.procs v.proc)) st n).1 (vAt mo.vars q).width.toNat))) (hd:=-1) (by simp) (by simp) (by simp (disch:=(first|exact Rf.mk rfl|with_reducible assumption|omega|((repeat (first|rw [nP]|rw [nS]|rw [M3]))<;>omega)|decide)) only [go_sem,↓reduceIte,ga]) (by simp (disch:=(first|exact Rf.mk rfl|with_reducible assumption|omega|((repeat (first|rw [nP]|rw [nS]|rw [M3]))<;>omega)|decide)) only [go_sem,↓reduceIte,gv]) (fun j h1 h2 h3 h4=>by simp (disch:=(first|exact Rf.mk rfl|with_reducible assumption|omega|((repeat (first|rw [nP]|rw [nS]|rw [M3]))<;>omega)|decide)) only [go_sem,↓reduceIte])
   ·refine zY (aN g0 (aN g2 (aN g3 (aN hk (aN om (aN oc c)))))) ?_
    refine a0a ⟨_,rfl,?_⟩
    simp only [e2,Bool.false_and,Bool.false_eq_true,if_false]
    exact H.same (A:=(st.at'.set v.proc E.to)) (V:=(st.vars.set q (N4 (mo.val (O8 (pAt mo.procs v.proc)) st n).1 (vAt mo.vars q).width.toNat))) (hd:=-1) (by simp) (by simp) (by simp (disch:=(first|exact Rf.mk rfl|with_reducible assumption|omega|((repeat (first|rw [nP]|rw [nS]|rw [M3]))<;>omega)|decide)) only [go_sem,↓reduceIte,ga]) (by simp (disch:=(first|exact Rf.mk rfl|with_reducible assumption|omega|((repeat (first|rw [nP]|rw [nS]|rw [M3]))<;>omega)|decide)) only [go_sem,↓reduceIte,gv]) (fun j h1 h2 h3 h4=>by simp (disch:=(first|exact Rf.mk rfl|with_reducible assumption|omega|((repeat (first|rw [nP]|rw [nS]|rw [M3]))<;>omega)|decide)) only [go_sem,↓reduceIte])
  ·obtain ⟨n,hn1,hn2,hn3⟩:=heo.ex1 (by omega)
   have hval:=a3F hm ho hx hp hn2 hn3
   have hxn:(mo.ex (pAt mo.procs v.proc) st E 0).1=(mo.val (O8 (pAt mo.procs v.proc)) st n).1:=by unfold Mo.ex;rw [hn1];simp
   have h8n:=a5d hx.e (t:=mo.tree) (ch:=mo.ch) (look:=O8 (pAt mo.procs v.proc)) (mo.tree.length+1) n
   have hb:-128<=(mo.val (O8 (pAt mo.procs v.proc)) st n).1/\(mo.val (O8 (pAt mo.procs v.proc)) st n).1<=127:=h8n
   obtain ⟨k,hk1,hkc⟩:=heo.c1 (by omega)
   rcases gc with ⟨h1,_⟩ | ⟨c,rfl,gc,nc,ca,cv,cq⟩
   ·rw [h1] at hcl;simp at hcl;omega
   have hmc:=hm.c
   have hc':k<st.chans.length:=by omega
   obtain ⟨gk,nk,ka,kv⟩:=gq k hc'
   have kc:=cq k hc'
   have lc:=M7 gc
   have lk:=M7 gk
   have hwc:=hf.ch _ (a26 hkc)
   have hroom:((cAt st.chans k).length:Int)<(R7 mo.chans k).room:=by unfold Mo.can at hcan;simp only [h6,hk1,Int.toNat_natCast,Bool.and_eq_true,decide_eq_true_eq] at hcan;simpa using hcan.2
   have hwt:=fun z (h1:-4294967296<=z) h2=>a8d (x:=z) h1 h2 hwc.2.2.1 hwc.2.2.2
   have e2:mo.edgeS st v.proc (pAt mo.procs v.proc) E=⟨(st.at'.set v.proc E.to),st.vars,(st.chans.set k (cAt st.chans k++[N4 (mo.val (O8 (pAt mo.procs v.proc)) st n).1 (R7 mo.chans k).width.toNat])),-1⟩:=by unfold Mo.edgeS Mo.actS;rw [if_neg (by omega),if_pos h6,hk1,hxn,Int.toNat_natCast];rfl
   refine zY (aN g0 (aN g1 (aN g2 (aN g3 (aN ga (aN gv (aN hk (aN hp (aN he (aN hpa (aN hE (aN h6 (aN om (aN ox (aN oc (aN hn1 (aN hval (aN hk1 (aN hc' (aN hkc (aN hil (aN gc (aN gk hwt))))))))))))))))))))))) ?_
   refine b5E (cs:=O6 (cAt st.chans k)) (x:=.int .i64 (N4 (mo.val (O8 (pAt mo.procs v.proc)) st n).1 (R7 mo.chans k).width.toNat)) (by simp (disch:=(first|exact Rf.mk rfl|with_reducible assumption|omega|((repeat (first|rw [nP]|rw [nS]|rw [M3]))<;>omega)|decide)) only [go_sem,↓reduceIte,gk]) (by simp) (by simp (disch:=(first|exact Rf.mk rfl|with_reducible assumption|omega|((repeat (first|rw [nP]|rw [nS]|rw [M3]))<;>omega)|decide)) only [go_sem,↓reduceIte]) (by decide) (by omega) (by simp (disch:=(first|exact Rf.mk rfl|with_reducible assumption|omega|((repeat (first|rw [nP]|rw [nS]|rw [M3]))<;>omega)|decide)) only [go_sem,↓reduceIte]) ?_
   refine zY (aN g0 (aN g1 (aN g2 (aN g3 (aN ga (aN gv (aN hk (aN hk1 (aN om (aN ox (aN oc (aN gc (aN hc' hil))))))))))))) ?_
   refine Z4 (fun c=>?_) (fun c=>?_)
   ·refine zY (aN g0 (aN g2 (aN hk (aN om c)))) ?_
    refine a4l (H.chan (A:=(st.at'.set v.proc E.to)) (V:=st.vars) (hd:=-1) (d:=(.arr (s1.next+1+1+1) 0 ((cAt st.chans k).length+1) 1)) hc' (by simp) (by simp) (by simp (disch:=(first|exact Rf.mk rfl|with_reducible assumption|omega|((repeat (first|rw [nP]|rw [nS]|rw [M3]))<;>omega)|decide)) only [go_sem,↓reduceIte,ga]) (by simp (disch:=(first|exact Rf.mk rfl|with_reducible assumption|omega|((repeat (first|rw [nP]|rw [nS]|rw [M3]))<;>omega)|decide)) only [go_sem,↓reduceIte,gv]) (by simp (disch:=(first|exact Rf.mk rfl|with_reducible assumption|omega|((repeat (first|rw [nP]|rw [nS]|rw [M3]))<;>omega)|decide)) only [go_sem,↓reduceIte,gc]) (by rw [show (cAt st.chans k).length+1=(cAt st.chans k++[N4 (mo.val (O8 (pAt mo.procs v.proc)) st n).1 (R7 mo.chans k).width.toNat]).length by simp];exact a3J (by simp (disch:=(first|exact Rf.mk rfl|with_reducible assumption|omega|((repeat (first|rw [nP]|rw [nS]|rw [M3]))<;>omega)|decide)) only [go_sem,↓reduceIte];simp [O6])) (fun j hj hjk=>by obtain ⟨gj,nj,ja,jv⟩:=gq j hj;have jc:=cq j hj;have lj:=M7 gj;have jk:nAt ids j≠nAt ids k:=fun e=>hjk (inj _ _ hj hc' e);simp (disch:=(first|exact Rf.mk rfl|with_reducible assumption|omega|((repeat (first|rw [nP]|rw [nS]|rw [M3]))<;>omega)|decide)) only [go_sem,↓reduceIte,gj])) a4d ?_
    intro x' hx'
    rw [e2] at hfit
    have hsb:=a4f hm ho (x:=x') ⟨hx',a2v hf (a0D.1 hfit),a0D.1 hfit⟩ hp
    refine zY hsb ?_
    refine Y4 (fun c2=>?_) (fun c2=>?_)
    ·refine zY (aN g2 (aN g3 (aN oc hk))) ?_
     refine a0a ⟨_,rfl,?_⟩
     simp only [e2,c2,Bool.and_self,if_true]
     exact H.chan (A:=(st.at'.set v.proc E.to)) (V:=st.vars) (hd:=(v.proc:Int)) (d:=(.arr (s1.next+1+1+1) 0 ((cAt st.chans k).length+1) 1)) hc' (by simp) (by simp) (by simp (disch:=(first|exact Rf.mk rfl|with_reducible assumption|omega|((repeat (first|rw [nP]|rw [nS]|rw [M3]))<;>omega)|decide)) only [go_sem,↓reduceIte,ga]) (by simp (disch:=(first|exact Rf.mk rfl|with_reducible assumption|omega|((repeat (first|rw [nP]|rw [nS]|rw [M3]))<;>omega)|decide)) only [go_sem,↓reduceIte,gv]) (by simp (disch:=(first|exact Rf.mk rfl|with_reducible assumption|omega|((repeat (first|rw [nP]|rw [nS]|rw [M3]))<;>omega)|decide)) only [go_sem,↓reduceIte,gc]) (by rw [show (cAt st.chans k).length+1=(cAt st.chans k++[N4 (mo.val (O8 (pAt mo.procs v.proc)) st n).1 (R7 mo.chans k).width.toNat]).length by simp];exact a3J (by simp (disch:=(first|exact Rf.mk rfl|with_reducible assumption|omega|((repeat (first|rw [nP]|rw [nS]|rw [M3]))<;>omega)|decide)) only [go_sem,↓reduceIte];simp [O6])) (fun j hj hjk=>by obtain ⟨gj,nj,ja,jv⟩:=gq j hj;have jc:=cq j hj;have lj:=M7 gj;have jk:nAt ids j≠nAt ids k:=fun e=>hjk (inj _ _ hj hc' e);simp (disch:=(first|exact Rf.mk rfl|with_reducible assumption|omega|((repeat (first|rw [nP]|rw [nS]|rw [M3]))<;>omega)|decide)) only [go_sem,↓reduceIte,gj])
    ·refine zY (aN g2 (aN g3 (aN oc hk))) ?_
     refine a0a ⟨_,rfl,?_⟩
     simp only [e2,c2,Bool.and_false,Bool.false_eq_true,if_false]
     exact H.chan (A:=(st.at'.set v.proc E.to)) (V:=st.vars) (hd:=-1) (d:=(.arr (s1.next+1+1+1) 0 ((cAt st.chans k).length+1) 1)) hc' (by simp) (by simp) (by simp (disch:=(first|exact Rf.mk rfl|with_reducible assumption|omega|((repeat (first|rw [nP]|rw [nS]|rw [M3]))<;>omega)|decide)) only [go_sem,↓reduceIte,ga]) (by simp (disch:=(first|exact Rf.mk rfl|with_reducible assumption|omega|((repeat (first|rw [nP]|rw [nS]|rw [M3]))<;>omega)|decide)) only [go_sem,↓reduceIte,gv]) (by simp (disch:=(first|exact Rf.mk rfl|with_reducible assumption|omega|((repeat (first|rw [nP]|rw [nS]|rw [M3]))<;>omega)|decide)) only [go_sem,↓reduceIte,gc]) (by rw [show (cAt st.chans k).length+1=(cAt st.chans k++[N4 (mo.val (O8 (pAt mo.procs v.proc)) st n).1 (R7 mo.chans k).width.toNat]).length by simp];exact a3J (by simp (disch:=(first|exact Rf.mk rfl|with_reducible assumption|omega|((repeat (first|rw [nP]|rw [nS]|rw [M3]))<;>omega)|decide)) only [go_sem,↓reduceIte];simp [O6])) (fun j hj hjk=>by obtain ⟨gj,nj,ja,jv⟩:=gq j hj;have jc:=cq j hj;have lj:=M7 gj;have jk:nAt ids j≠nAt ids k:=fun e=>hjk (inj _ _ hj hc' e);simp (disch:=(first|exact Rf.mk rfl|with_reducible assumption|omega|((repeat (first|rw [nP]|rw [nS]|rw [M3]))<;>omega)|decide)) only [go_sem,↓reduceIte,gj])
   ·refine zY (aN g0 (aN g2 (aN g3 (aN hk (aN om (aN oc c)))))) ?_
    refine a0a ⟨_,rfl,?_⟩
    simp only [e2,Bool.false_and,Bool.false_eq_true,if_false]
    exact H.chan (A:=(st.at'.set v.proc E.to)) (V:=st.vars) (hd:=-1) (d:=(.arr (s1.next+1+1+1) 0 ((cAt st.chans k).length+1) 1)) hc' (by simp) (by simp) (by simp (disch:=(first|exact Rf.mk rfl|with_reducible assumption|omega|((repeat (first|rw [nP]|rw [nS]|rw [M3]))<;>omega)|decide)) only [go_sem,↓reduceIte,ga]) (by simp (disch:=(first|exact Rf.mk rfl|with_reducible assumption|omega|((repeat (first|rw [nP]|rw [nS]|rw [M3]))<;>omega)|decide)) only [go_sem,↓reduceIte,gv]) (by simp (disch:=(first|exact Rf.mk rfl|with_reducible assumption|omega|((repeat (first|rw [nP]|rw [nS]|rw [M3]))<;>omega)|decide)) only [go_sem,↓reduceIte,gc]) (by rw [show (cAt st.chans k).length+1=(cAt st.chans k++[N4 (mo.val (O8 (pAt mo.procs v.proc)) st n).1 (R7 mo.chans k).width.toNat]).length by simp];exact a3J (by simp (disch:=(first|exact Rf.mk rfl|with_reducible assumption|omega|((repeat (first|rw [nP]|rw [nS]|rw [M3]))<;>omega)|decide)) only [go_sem,↓reduceIte];simp [O6])) (fun j hj hjk=>by obtain ⟨gj,nj,ja,jv⟩:=gq j hj;have jc:=cq j hj;have lj:=M7 gj;have jk:nAt ids j≠nAt ids k:=fun e=>hjk (inj _ _ hj hc' e);simp (disch:=(first|exact Rf.mk rfl|with_reducible assumption|omega|((repeat (first|rw [nP]|rw [nS]|rw [M3]))<;>omega)|decide)) only [go_sem,↓reduceIte,gj])
  ·have hex:=heo.ex0 (by omega)
   obtain ⟨q,hq0,hq1⟩:=heo.v1 (by omega)
   have hq:=hpo.var q hq0
   have hq':q<st.vars.length:=by omega
   have hmv:=hm.v
   have hw:=hf.vr _ (a3p hq)
   have hwt:=fun z (h1:-4294967296<=z) h2=>a8d (x:=z) h1 h2 hw.1 hw.2.1
   obtain ⟨k,hk1,hkc⟩:=heo.c1 (by omega)
   rcases gc with ⟨h1,_⟩ | ⟨c,rfl,gc,nc,ca,cv,cq⟩
   ·rw [h1] at hcl;simp at hcl;omega
   have hmc:=hm.c
   have hc':k<st.chans.length:=by omega
   obtain ⟨gk,nk,ka,kv⟩:=gq k hc'
   have kc:=cq k hc'
   have lc:=M7 gc
   have lk:=M7 gk
   have hwc:=hf.ch _ (a26 hkc)
   have hlen:0<(cAt st.chans k).length:=by unfold Mo.can at hcan;simp only [h6,hk1,Int.toNat_natCast,Bool.and_eq_true,decide_eq_true_eq] at hcan;simpa using hcan.2
   have hcv:=(hx.e.c _ (a7a hc')).2 _ (a4k hlen)
   have hcv':-128<=zAt (cAt st.chans k) 0/\zAt (cAt st.chans k) 0<=127:=hcv
   have l2:1<(cAt st.chans k).length:=(show k'=k by omega)▸l2
   have e2:mo.edgeS st v.proc (pAt mo.procs v.proc) E=⟨(st.at'.set v.proc E.to),(st.vars.set q (N4 (zAt (cAt st.chans k) 0) (vAt mo.vars q).width.toNat)),(st.chans.set k ((cAt st.chans k).drop 1)),-1⟩:=by unfold Mo.edgeS Mo.actS;rw [if_neg (by omega),if_neg (by omega),if_pos h6,hq1,hk1,Int.toNat_natCast,Int.toNat_natCast];rfl
   refine zY (aN g0 (aN g1 (aN g2 (aN g3 (aN ga (aN gv (aN hk (aN hp (aN he (aN hpa (aN hE (aN h6 (aN om (aN ox (aN oc (aN hex (aN hq1 (aN hq (aN hq' (aN hwt (aN hk1 (aN hc' (aN hkc (aN hil (aN gc (aN gk (aN hlen l2))))))))))))))))))))))))))) ?_
   refine Z4 (fun c=>?_) (fun c=>?_)
   ·refine zY (aN g0 (aN g2 (aN hk (aN om c)))) ?_
    refine a4l (H.chan (A:=(st.at'.set v.proc E.to)) (V:=(st.vars.set q (N4 (zAt (cAt st.chans k) 0) (vAt mo.vars q).width.toNat))) (hd:=-1) (d:=(.arr (nAt ids k) 1 ((cAt st.chans k).length-1) 1)) hc' (by simp) (by simp) (by simp (disch:=(first|exact Rf.mk rfl|with_reducible assumption|omega|((repeat (first|rw [nP]|rw [nS]|rw [M3]))<;>omega)|decide)) only [go_sem,↓reduceIte,ga]) (by simp (disch:=(first|exact Rf.mk rfl|with_reducible assumption|omega|((repeat (first|rw [nP]|rw [nS]|rw [M3]))<;>omega)|decide)) only [go_sem,↓reduceIte,gv]) (by simp (disch:=(first|exact Rf.mk rfl|with_reducible assumption|omega|((repeat (first|rw [nP]|rw [nS]|rw [M3]))<;>omega)|decide)) only [go_sem,↓reduceIte,gc]) (a6T (by simp (disch:=(first|exact Rf.mk rfl|with_reducible assumption|omega|((repeat (first|rw [nP]|rw [nS]|rw [M3]))<;>omega)|decide)) only [go_sem,↓reduceIte,gk]) l2) (fun j hj hjk=>by obtain ⟨gj,nj,ja,jv⟩:=gq j hj;have jc:=cq j hj;have lj:=M7 gj;have jk:nAt ids j≠nAt ids k:=fun e=>hjk (inj _ _ hj hc' e);simp (disch:=(first|exact Rf.mk rfl|with_reducible assumption|omega|((repeat (first|rw [nP]|rw [nS]|rw [M3]))<;>omega)|decide)) only [go_sem,↓reduceIte,gj])) a4d ?_
    intro x' hx'
    rw [e2] at hfit
    have hsb:=a4f hm ho (x:=x') ⟨hx',a2v hf (a0D.1 hfit),a0D.1 hfit⟩ hp
    refine zY hsb ?_
    refine Y4 (fun c2=>?_) (fun c2=>?_)
    ·refine zY (aN g2 (aN g3 (aN oc hk))) ?_
     refine a0a ⟨_,rfl,?_⟩
     simp only [e2,c2,Bool.and_self,if_true]
     exact H.chan (A:=(st.at'.set v.proc E.to)) (V:=(st.vars.set q (N4 (zAt (cAt st.chans k) 0) (vAt mo.vars q).width.toNat))) (hd:=(v.proc:Int)) (d:=(.arr (nAt ids k) 1 ((cAt st.chans k).length-1) 1)) hc' (by simp) (by simp) (by simp (disch:=(first|exact Rf.mk rfl|with_reducible assumption|omega|((repeat (first|rw [nP]|rw [nS]|rw [M3]))<;>omega)|decide)) only [go_sem,↓reduceIte,ga]) (by simp (disch:=(first|exact Rf.mk rfl|with_reducible assumption|omega|((repeat (first|rw [nP]|rw [nS]|rw [M3]))<;>omega)|decide)) only [go_sem,↓reduceIte,gv]) (by simp (disch:=(first|exact Rf.mk rfl|with_reducible assumption|omega|((repeat (first|rw [nP]|rw [nS]|rw [M3]))<;>omega)|decide)) only [go_sem,↓reduceIte,gc]) (a6T (by simp (disch:=(first|exact Rf.mk rfl|with_reducible assumption|omega|((repeat (first|rw [nP]|rw [nS]|rw [M3]))<;>omega)|decide)) only [go_sem,↓reduceIte,gk]) l2) (fun j hj hjk=>by obtain ⟨gj,nj,ja,jv⟩:=gq j hj;have jc:=cq j hj;have lj:=M7 gj;have jk:nAt ids j≠nAt ids k:=fun e=>hjk (inj _ _ hj hc' e);simp (disch:=(first|exact Rf.mk rfl|with_reducible assumption|omega|((repeat (first|rw [nP]|rw [nS]|rw [M3]))<;>omega)|decide)) only [go_sem,↓reduceIte,gj])
    ·refine zY (aN g2 (aN g3 (aN oc hk))) ?_
     refine a0a ⟨_,rfl,?_⟩
     simp only [e2,c2,Bool.and_false,Bool.false_eq_true,if_false]
     exact H.chan (A:=(st.at'.set v.proc E.to)) (V:=(st.vars.set q (N4 (zAt (cAt st.chans k) 0) (vAt mo.vars q).width.toNat))) (hd:=-1) (d:=(.arr (nAt ids k) 1 ((cAt st.chans k).length-1) 1)) hc' (by simp) (by simp) (by simp (disch:=(first|exact Rf.mk rfl|with_reducible assumption|omega|((repeat (first|rw [nP]|rw [nS]|rw [M3]))<;>omega)|decide)) only [go_sem,↓reduceIte,ga]) (by simp (disch:=(first|exact Rf.mk rfl|with_reducible assumption|omega|((repeat (first|rw [nP]|rw [nS]|rw [M3]))<;>omega)|decide)) only [go_sem,↓reduceIte,gv]) (by simp (disch:=(first|exact Rf.mk rfl|with_reducible assumption|omega|((repeat (first|rw [nP]|rw [nS]|rw [M3]))<;>omega)|decide)) only [go_sem,↓reduceIte,gc]) (a6T (by simp (disch:=(first|exact Rf.mk rfl|with_reducible assumption|omega|((repeat (first|rw [nP]|rw [nS]|rw [M3]))<;>omega)|decide)) only [go_sem,↓reduceIte,gk]) l2) (fun j hj hjk=>by obtain ⟨gj,nj,ja,jv⟩:=gq j hj;have jc:=cq j hj;have lj:=M7 gj;have jk:nAt ids j≠nAt ids k:=fun e=>hjk (inj _ _ hj hc' e);simp (disch:=(first|exact Rf.mk rfl|with_reducible assumption|omega|((repeat (first|rw [nP]|rw [nS]|rw [M3]))<;>omega)|decide)) only [go_sem,↓reduceIte,gj])
   ·refine zY (aN g0 (aN g2 (aN g3 (aN hk (aN om (aN oc c)))))) ?_
    refine a0a ⟨_,rfl,?_⟩
    simp only [e2,Bool.false_and,Bool.false_eq_true,if_false]
    exact H.chan (A:=(st.at'.set v.proc E.to)) (V:=(st.vars.set q (N4 (zAt (cAt st.chans k) 0) (vAt mo.vars q).width.toNat))) (hd:=-1) (d:=(.arr (nAt ids k) 1 ((cAt st.chans k).length-1) 1)) hc' (by simp) (by simp) (by simp (disch:=(first|exact Rf.mk rfl|with_reducible assumption|omega|((repeat (first|rw [nP]|rw [nS]|rw [M3]))<;>omega)|decide)) only [go_sem,↓reduceIte,ga]) (by simp (disch:=(first|exact Rf.mk rfl|with_reducible assumption|omega|((repeat (first|rw [nP]|rw [nS]|rw [M3]))<;>omega)|decide)) only [go_sem,↓reduceIte,gv]) (by simp (disch:=(first|exact Rf.mk rfl|with_reducible assumption|omega|((repeat (first|rw [nP]|rw [nS]|rw [M3]))<;>omega)|decide)) only [go_sem,↓reduceIte,gc]) (a6T (by simp (disch:=(first|exact Rf.mk rfl|with_reducible assumption|omega|((repeat (first|rw [nP]|rw [nS]|rw [M3]))<;>omega)|decide)) only [go_sem,↓reduceIte,gk]) l2) (fun j hj hjk=>by obtain ⟨gj,nj,ja,jv⟩:=gq j hj;have jc:=cq j hj;have lj:=M7 gj;have jk:nAt ids j≠nAt ids k:=fun e=>hjk (inj _ _ hj hc' e);simp (disch:=(first|exact Rf.mk rfl|with_reducible assumption|omega|((repeat (first|rw [nP]|rw [nS]|rw [M3]))<;>omega)|decide)) only [go_sem,↓reduceIte,gj])
  ·have hex:=heo.ex0 (by omega)
   obtain ⟨q,hq0,hq1⟩:=heo.v1 (by omega)
   have hq:=hpo.var q hq0
   have hq':q<st.vars.length:=by omega
   have hmv:=hm.v
   have hw:=hf.vr _ (a3p hq)
   have hwt:=fun z (h1:-4294967296<=z) h2=>a8d (x:=z) h1 h2 hw.1 hw.2.1
   obtain ⟨k,hk1,hkc⟩:=heo.c1 (by omega)
   rcases gc with ⟨h1,_⟩ | ⟨c,rfl,gc,nc,ca,cv,cq⟩
   ·rw [h1] at hcl;simp at hcl;omega
   have hmc:=hm.c
   have hc':k<st.chans.length:=by omega
   obtain ⟨gk,nk,ka,kv⟩:=gq k hc'
   have kc:=cq k hc'
   have lc:=M7 gc
   have lk:=M7 gk
   have hwc:=hf.ch _ (a26 hkc)
   have hlen:0<(cAt st.chans k).length:=by unfold Mo.can at hcan;simp only [h6,hk1,Int.toNat_natCast,Bool.and_eq_true,decide_eq_true_eq] at hcan;simpa using hcan.2
   have hcv:=(hx.e.c _ (a7a hc')).2 _ (a4k hlen)
   have hcv':-128<=zAt (cAt st.chans k) 0/\zAt (cAt st.chans k) 0<=127:=hcv
   have l2:¬ 1<(cAt st.chans k).length:=(show k'=k by omega)▸l2
   have l3:(cAt st.chans k).length=1:=by omega
   have e2:mo.edgeS st v.proc (pAt mo.procs v.proc) E=⟨(st.at'.set v.proc E.to),(st.vars.set q (N4 (zAt (cAt st.chans k) 0) (vAt mo.vars q).width.toNat)),(st.chans.set k ((cAt st.chans k).drop 1)),-1⟩:=by unfold Mo.edgeS Mo.actS;rw [if_neg (by omega),if_neg (by omega),if_pos h6,hq1,hk1,Int.toNat_natCast,Int.toNat_natCast];rfl
   refine zY (aN g0 (aN g1 (aN g2 (aN g3 (aN ga (aN gv (aN hk (aN hp (aN he (aN hpa (aN hE (aN h6 (aN om (aN ox (aN oc (aN hex (aN hq1 (aN hq (aN hq' (aN hwt (aN hk1 (aN hc' (aN hkc (aN hil (aN gc (aN gk (aN hlen l3))))))))))))))))))))))))))) ?_
   refine Z4 (fun c=>?_) (fun c=>?_)
   ·refine zY (aN g0 (aN g2 (aN hk (aN om c)))) ?_
    refine a4l (H.chan (A:=(st.at'.set v.proc E.to)) (V:=(st.vars.set q (N4 (zAt (cAt st.chans k) 0) (vAt mo.vars q).width.toNat))) (hd:=-1) (d:=(.lst 1 [])) hc' (by simp) (by simp) (by simp (disch:=(first|exact Rf.mk rfl|with_reducible assumption|omega|((repeat (first|rw [nP]|rw [nS]|rw [M3]))<;>omega)|decide)) only [go_sem,↓reduceIte,ga]) (by simp (disch:=(first|exact Rf.mk rfl|with_reducible assumption|omega|((repeat (first|rw [nP]|rw [nS]|rw [M3]))<;>omega)|decide)) only [go_sem,↓reduceIte,gv]) (by simp (disch:=(first|exact Rf.mk rfl|with_reducible assumption|omega|((repeat (first|rw [nP]|rw [nS]|rw [M3]))<;>omega)|decide)) only [go_sem,↓reduceIte,gc]) (a6L l2) (fun j hj hjk=>by obtain ⟨gj,nj,ja,jv⟩:=gq j hj;have jc:=cq j hj;have lj:=M7 gj;have jk:nAt ids j≠nAt ids k:=fun e=>hjk (inj _ _ hj hc' e);simp (disch:=(first|exact Rf.mk rfl|with_reducible assumption|omega|((repeat (first|rw [nP]|rw [nS]|rw [M3]))<;>omega)|decide)) only [go_sem,↓reduceIte,gj])) a4d ?_
    intro x' hx'
    rw [e2] at hfit
    have hsb:=a4f hm ho (x:=x') ⟨hx',a2v hf (a0D.1 hfit),a0D.1 hfit⟩ hp
    refine zY hsb ?_
    refine Y4 (fun c2=>?_) (fun c2=>?_)
    ·refine zY (aN g2 (aN g3 (aN oc hk))) ?_
     refine a0a ⟨_,rfl,?_⟩
     simp only [e2,c2,Bool.and_self,if_true]
     exact H.chan (A:=(st.at'.set v.proc E.to)) (V:=(st.vars.set q (N4 (zAt (cAt st.chans k) 0) (vAt mo.vars q).width.toNat))) (hd:=(v.proc:Int)) (d:=(.lst 1 [])) hc' (by simp) (by simp) (by simp (disch:=(first|exact Rf.mk rfl|with_reducible assumption|omega|((repeat (first|rw [nP]|rw [nS]|rw [M3]))<;>omega)|decide)) only [go_sem,↓reduceIte,ga]) (by simp (disch:=(first|exact Rf.mk rfl|with_reducible assumption|omega|((repeat (first|rw [nP]|rw [nS]|rw [M3]))<;>omega)|decide)) only [go_sem,↓reduceIte,gv]) (by simp (disch:=(first|exact Rf.mk rfl|with_reducible assumption|omega|((repeat (first|rw [nP]|rw [nS]|rw [M3]))<;>omega)|decide)) only [go_sem,↓reduceIte,gc]) (a6L l2) (fun j hj hjk=>by obtain ⟨gj,nj,ja,jv⟩:=gq j hj;have jc:=cq j hj;have lj:=M7 gj;have jk:nAt ids j≠nAt ids k:=fun e=>hjk (inj _ _ hj hc' e);simp (disch:=(first|exact Rf.mk rfl|with_reducible assumption|omega|((repeat (first|rw [nP]|rw [nS]|rw [M3]))<;>omega)|decide)) only [go_sem,↓reduceIte,gj])
    ·refine zY (aN g2 (aN g3 (aN oc hk))) ?_
     refine a0a ⟨_,rfl,?_⟩
     simp only [e2,c2,Bool.and_false,Bool.false_eq_true,if_false]
     exact H.chan (A:=(st.at'.set v.proc E.to)) (V:=(st.vars.set q (N4 (zAt (cAt st.chans k) 0) (vAt mo.vars q).width.toNat))) (hd:=-1) (d:=(.lst 1 [])) hc' (by simp) (by simp) (by simp (disch:=(first|exact Rf.mk rfl|with_reducible assumption|omega|((repeat (first|rw [nP]|rw [nS]|rw [M3]))<;>omega)|decide)) only [go_sem,↓reduceIte,ga]) (by simp (disch:=(first|exact Rf.mk rfl|with_reducible assumption|omega|((repeat (first|rw [nP]|rw [nS]|rw [M3]))<;>omega)|decide)) only [go_sem,↓reduceIte,gv]) (by simp (disch:=(first|exact Rf.mk rfl|with_reducible assumption|omega|((repeat (first|rw [nP]|rw [nS]|rw [M3]))<;>omega)|decide)) only [go_sem,↓reduceIte,gc]) (a6L l2) (fun j hj hjk=>by obtain ⟨gj,nj,ja,jv⟩:=gq j hj;have jc:=cq j hj;have lj:=M7 gj;have jk:nAt ids j≠nAt ids k:=fun e=>hjk (inj _ _ hj hc' e);simp (disch:=(first|exact Rf.mk rfl|with_reducible assumption|omega|((repeat (first|rw [nP]|rw [nS]|rw [M3]))<;>omega)|decide)) only [go_sem,↓reduceIte,gj])
   ·refine zY (aN g0 (aN g2 (aN g3 (aN hk (aN om (aN oc c)))))) ?_
    refine a0a ⟨_,rfl,?_⟩
    simp only [e2,Bool.false_and,Bool.false_eq_true,if_false]
    exact H.chan (A:=(st.at'.set v.proc E.to)) (V:=(st.vars.set q (N4 (zAt (cAt st.chans k) 0) (vAt mo.vars q).width.toNat))) (hd:=-1) (d:=(.lst 1 [])) hc' (by simp) (by simp) (by simp (disch:=(first|exact Rf.mk rfl|with_reducible assumption|omega|((repeat (first|rw [nP]|rw [nS]|rw [M3]))<;>omega)|decide)) only [go_sem,↓reduceIte,ga]) (by simp (disch:=(first|exact Rf.mk rfl|with_reducible assumption|omega|((repeat (first|rw [nP]|rw [nS]|rw [M3]))<;>omega)|decide)) only [go_sem,↓reduceIte,gv]) (by simp (disch:=(first|exact Rf.mk rfl|with_reducible assumption|omega|((repeat (first|rw [nP]|rw [nS]|rw [M3]))<;>omega)|decide)) only [go_sem,↓reduceIte,gc]) (a6L l2) (fun j hj hjk=>by obtain ⟨gj,nj,ja,jv⟩:=gq j hj;have jc:=cq j hj;have lj:=M7 gj;have jk:nAt ids j≠nAt ids k:=fun e=>hjk (inj _ _ hj hc' e);simp (disch:=(first|exact Rf.mk rfl|with_reducible assumption|omega|((repeat (first|rw [nP]|rw [nS]|rw [M3]))<;>omega)|decide)) only [go_sem,↓reduceIte,gj])
  ·obtain ⟨n,hn1,hn2,hn3⟩:=heo.ex1 (by omega)
   have hval:=a3F hm ho hx hp hn2 hn3
   have hxn:(mo.ex (pAt mo.procs v.proc) st E 0).1=(mo.val (O8 (pAt mo.procs v.proc)) st n).1:=by unfold Mo.ex;rw [hn1];simp
   have h8n:=a5d hx.e (t:=mo.tree) (ch:=mo.ch) (look:=O8 (pAt mo.procs v.proc)) (mo.tree.length+1) n
   have e2:mo.edgeS st v.proc (pAt mo.procs v.proc) E=⟨(st.at'.set v.proc E.to),st.vars,st.chans,-1⟩:=by unfold Mo.edgeS Mo.actS;rw [if_neg (by omega),if_neg (by omega),if_neg (by omega)];rfl
   refine zY (aN g0 (aN g1 (aN g2 (aN g3 (aN ga (aN gv (aN hk (aN hp (aN he (aN hpa (aN hE (aN h6 (aN om (aN ox (aN oc (aN hn1 hval)))))))))))))))) ?_
   refine Z4 (fun c=>?_) (fun c=>?_)
   ·refine zY (aN g0 (aN g2 (aN hk (aN om c)))) ?_
    refine a4l (H.same (A:=(st.at'.set v.proc E.to)) (V:=st.vars) (hd:=-1) (by simp) (by simp) (by simp (disch:=(first|exact Rf.mk rfl|with_reducible assumption|omega|((repeat (first|rw [nP]|rw [nS]|rw [M3]))<;>omega)|decide)) only [go_sem,↓reduceIte,ga]) (by simp (disch:=(first|exact Rf.mk rfl|with_reducible assumption|omega|((repeat (first|rw [nP]|rw [nS]|rw [M3]))<;>omega)|decide)) only [go_sem,↓reduceIte,gv]) (fun j h1 h2 h3 h4=>by simp (disch:=(first|exact Rf.mk rfl|with_reducible assumption|omega|((repeat (first|rw [nP]|rw [nS]|rw [M3]))<;>omega)|decide)) only [go_sem,↓reduceIte])) a4d ?_
    intro x' hx'
    rw [e2] at hfit
    have hsb:=a4f hm ho (x:=x') ⟨hx',a2v hf (a0D.1 hfit),a0D.1 hfit⟩ hp
    refine zY hsb ?_
    refine Y4 (fun c2=>?_) (fun c2=>?_)
    ·refine zY (aN g2 (aN g3 (aN oc hk))) ?_
     refine a0a ⟨_,rfl,?_⟩
     simp only [e2,c2,Bool.and_self,if_true]
     exact H.same (A:=(st.at'.set v.proc E.to)) (V:=st.vars) (hd:=(v.proc:Int)) (by simp) (by simp) (by simp (disch:=(first|exact Rf.mk rfl|with_reducible assumption|omega|((repeat (first|rw [nP]|rw [nS]|rw [M3]))<;>omega)|decide)) only [go_sem,↓reduceIte,ga]) (by simp (disch:=(first|exact Rf.mk rfl|with_reducible assumption|omega|((repeat (first|rw [nP]|rw [nS]|rw [M3]))<;>omega)|decide)) only [go_sem,↓reduceIte,gv]) (fun j h1 h2 h3 h4=>by simp (disch:=(first|exact Rf.mk rfl|with_reducible assumption|omega|((repeat (first|rw [nP]|rw [nS]|rw [M3]))<;>omega)|decide)) only [go_sem,↓reduceIte])
    ·refine zY (aN g2 (aN g3 (aN oc hk))) ?_
     refine a0a ⟨_,rfl,?_⟩
     simp only [e2,c2,Bool.and_false,Bool.false_eq_true,if_false]
     exact H.same (A:=(st.at'.set v.proc E.to)) (V:=st.vars) (hd:=-1) (by simp) (by simp) (by simp (disch:=(first|exact Rf.mk rfl|with_reducible assumption|omega|((repeat (first|rw [nP]|rw [nS]|rw [M3]))<;>omega)|decide)) only [go_sem,↓reduceIte,ga]) (by simp (disch:=(first|exact Rf.mk rfl|with_reducible assumption|omega|((repeat (first|rw [nP]|rw [nS]|rw [M3]))<;>omega)|decide)) only [go_sem,↓reduceIte,gv]) (fun j h1 h2 h3 h4=>by simp (disch:=(first|exact Rf.mk rfl|with_reducible assumption|omega|((repeat (first|rw [nP]|rw [nS]|rw [M3]))<;>omega)|decide)) only [go_sem,↓reduceIte])
   ·refine zY (aN g0 (aN g2 (aN g3 (aN hk (aN om (aN oc c)))))) ?_
    refine a0a ⟨_,rfl,?_⟩
    simp only [e2,Bool.false_and,Bool.false_eq_true,if_false]
    exact H.same (A:=(st.at'.set v.proc E.to)) (V:=st.vars) (hd:=-1) (by simp) (by simp) (by simp (disch:=(first|exact Rf.mk rfl|with_reducible assumption|omega|((repeat (first|rw [nP]|rw [nS]|rw [M3]))<;>omega)|decide)) only [go_sem,↓reduceIte,ga]) (by simp (disch:=(first|exact Rf.mk rfl|with_reducible assumption|omega|((repeat (first|rw [nP]|rw [nS]|rw [M3]))<;>omega)|decide)) only [go_sem,↓reduceIte,gv]) (fun j h1 h2 h3 h4=>by simp (disch:=(first|exact Rf.mk rfl|with_reducible assumption|omega|((repeat (first|rw [nP]|rw [nS]|rw [M3]))<;>omega)|decide)) only [go_sem,↓reduceIte])
  ·obtain ⟨n,hn1,hn2,hn3⟩:=heo.ex1 (by omega)
   have hval:=a3F hm ho hx hp hn2 hn3
   have hxn:(mo.ex (pAt mo.procs v.proc) st E 0).1=(mo.val (O8 (pAt mo.procs v.proc)) st n).1:=by unfold Mo.ex;rw [hn1];simp
   have h8n:=a5d hx.e (t:=mo.tree) (ch:=mo.ch) (look:=O8 (pAt mo.procs v.proc)) (mo.tree.length+1) n
   have e2:mo.edgeS st v.proc (pAt mo.procs v.proc) E=⟨(st.at'.set v.proc E.to),st.vars,st.chans,-1⟩:=by unfold Mo.edgeS Mo.actS;rw [if_neg (by omega),if_neg (by omega),if_neg (by omega)];rfl
   refine zY (aN g0 (aN g1 (aN g2 (aN g3 (aN ga (aN gv (aN hk (aN hp (aN he (aN hpa (aN hE (aN h6 (aN om (aN ox (aN oc (aN hn1 hval)))))))))))))))) ?_
   refine Z4 (fun c=>?_) (fun c=>?_)
   ·refine zY (aN g0 (aN g2 (aN hk (aN om c)))) ?_
    refine a4l (H.same (A:=(st.at'.set v.proc E.to)) (V:=st.vars) (hd:=-1) (by simp) (by simp) (by simp (disch:=(first|exact Rf.mk rfl|with_reducible assumption|omega|((repeat (first|rw [nP]|rw [nS]|rw [M3]))<;>omega)|decide)) only [go_sem,↓reduceIte,ga]) (by simp (disch:=(first|exact Rf.mk rfl|with_reducible assumption|omega|((repeat (first|rw [nP]|rw [nS]|rw [M3]))<;>omega)|decide)) only [go_sem,↓reduceIte,gv]) (fun j h1 h2 h3 h4=>by simp (disch:=(first|exact Rf.mk rfl|with_reducible assumption|omega|((repeat (first|rw [nP]|rw [nS]|rw [M3]))<;>omega)|decide)) only [go_sem,↓reduceIte])) a4d ?_
    intro x' hx'
    rw [e2] at hfit
    have hsb:=a4f hm ho (x:=x') ⟨hx',a2v hf (a0D.1 hfit),a0D.1 hfit⟩ hp
    refine zY hsb ?_
    refine Y4 (fun c2=>?_) (fun c2=>?_)
    ·refine zY (aN g2 (aN g3 (aN oc hk))) ?_
     refine a0a ⟨_,rfl,?_⟩
     simp only [e2,c2,Bool.and_self,if_true]
     exact H.same (A:=(st.at'.set v.proc E.to)) (V:=st.vars) (hd:=(v.proc:Int)) (by simp) (by simp) (by simp (disch:=(first|exact Rf.mk rfl|with_reducible assumption|omega|((repeat (first|rw [nP]|rw [nS]|rw [M3]))<;>omega)|decide)) only [go_sem,↓reduceIte,ga]) (by simp (disch:=(first|exact Rf.mk rfl|with_reducible assumption|omega|((repeat (first|rw [nP]|rw [nS]|rw [M3]))<;>omega)|decide)) only [go_sem,↓reduceIte,gv]) (fun j h1 h2 h3 h4=>by simp (disch:=(first|exact Rf.mk rfl|with_reducible assumption|omega|((repeat (first|rw [nP]|rw [nS]|rw [M3]))<;>omega)|decide)) only [go_sem,↓reduceIte])
    ·refine zY (aN g2 (aN g3 (aN oc hk))) ?_
     refine a0a ⟨_,rfl,?_⟩
     simp only [e2,c2,Bool.and_false,Bool.false_eq_true,if_false]
     exact H.same (A:=(st.at'.set v.proc E.to)) (V:=st.vars) (hd:=-1) (by simp) (by simp) (by simp (disch:=(first|exact Rf.mk rfl|with_reducible assumption|omega|((repeat (first|rw [nP]|rw [nS]|rw [M3]))<;>omega)|decide)) only [go_sem,↓reduceIte,ga]) (by simp (disch:=(first|exact Rf.mk rfl|with_reducible assumption|omega|((repeat (first|rw [nP]|rw [nS]|rw [M3]))<;>omega)|decide)) only [go_sem,↓reduceIte,gv]) (fun j h1 h2 h3 h4=>by simp (disch:=(first|exact Rf.mk rfl|with_reducible assumption|omega|((repeat (first|rw [nP]|rw [nS]|rw [M3]))<;>omega)|decide)) only [go_sem,↓reduceIte])
   ·refine zY (aN g0 (aN g2 (aN g3 (aN hk (aN om (aN oc c)))))) ?_
    refine a0a ⟨_,rfl,?_⟩
    simp only [e2,Bool.false_and,Bool.false_eq_true,if_false]
    exact H.same (A:=(st.at'.set v.proc E.to)) (V:=st.vars) (hd:=-1) (by simp) (by simp) (by simp (disch:=(first|exact Rf.mk rfl|with_reducible assumption|omega|((repeat (first|rw [nP]|rw [nS]|rw [M3]))<;>omega)|decide)) only [go_sem,↓reduceIte,ga]) (by simp (disch:=(first|exact Rf.mk rfl|with_reducible assumption|omega|((repeat (first|rw [nP]|rw [nS]|rw [M3]))<;>omega)|decide)) only [go_sem,↓reduceIte,gv]) (fun j h1 h2 h3 h4=>by simp (disch:=(first|exact Rf.mk rfl|with_reducible assumption|omega|((repeat (first|rw [nP]|rw [nS]|rw [M3]))<;>omega)|decide)) only [go_sem,↓reduceIte])
 ·rcases gc with ⟨h1,_⟩ | ⟨c,rfl,gc,nc,ca,cv,cq⟩
  ·rw [h1] at hcl;simp at hcl;omega
  have hc':v.chan<st.chans.length:=by omega
  obtain ⟨gk,nk,ka,kv⟩:=gq v.chan hc'
  have kc:=cq v.chan hc'
  have lc:=M7 gc
  have lk:=M7 gk
  have e:mo.doS st v=⟨st.at',st.vars,st.chans.set v.chan ((cAt st.chans v.chan).drop 1),st.hold⟩:=by unfold Mo.doS;rw [if_pos hk]
  rw [e]
  by_cases l2:1<(cAt st.chans v.chan).length
  ·simp (disch:=(first|exact Rf.mk rfl|with_reducible assumption|omega|((repeat (first|rw [nP]|rw [nS]|rw [M3]))<;>omega)|decide)) only [go_sem,↓reduceIte,g0,g1,g2,g3,ga,gv,gc,gk,hk,hc',hil,om,ox,oc,l2,hlen,a51]
   refine a0a ⟨_,rfl,H.chan (d:=.arr (nAt ids v.chan) 1 ((cAt st.chans v.chan).length-1) 1) hc' rfl rfl ?_ ?_ ?_ (a6T ?_ l2) fun j hj hjk=>?_⟩
   ·exact zZ ga
   ·exact zZ gv
   ·exact zZ gc
   ·exact zZ gk
   ·obtain ⟨gj,nj,ja,jv⟩:=gq j hj
    have jc:=cq j hj
    have lj:=M7 gj
    have jk:nAt ids j≠nAt ids v.chan:=fun e=>hjk (inj _ _ hj hc' e)
    exact zZ gj
  ·have l3:(cAt st.chans v.chan).length=1:=by omega
   refine zY (aN g0 (aN g1 (aN g2 (aN g3 (aN ga (aN gv (aN gc (aN gk (aN hk (aN hc' (aN hil (aN om (aN ox (aN oc l3)))))))))))))) ?_
   refine a0a ⟨_,rfl,H.chan (d:=.lst 1 []) hc' rfl rfl ?_ ?_ ?_ (a6L l2) fun j hj hjk=>?_⟩
   ·exact zZ ga
   ·exact zZ gv
   ·exact zZ gc
   ·obtain ⟨gj,nj,ja,jv⟩:=gq j hj
    have jc:=cq j hj
    have lj:=M7 gj
    exact zZ gj
 ·rcases gc with ⟨h1,_⟩ | ⟨c,rfl,gc,nc,ca,cv,cq⟩
  ·rw [h1] at hcl;simp at hcl;omega
  have hc':v.chan<st.chans.length:=by omega
  obtain ⟨gk,nk,ka,kv⟩:=gq v.chan hc'
  have kc:=cq v.chan hc'
  have lc:=M7 gc
  have lk:=M7 gk
  have e:mo.doS st v=⟨st.at',st.vars,st.chans.set v.chan (cAt st.chans v.chan++[zAt (cAt st.chans v.chan) 0]),st.hold⟩:=by unfold Mo.doS;rw [if_neg (by omega),if_pos hk]
  rw [e]
  refine zY (aN g0 (aN g1 (aN g2 (aN g3 (aN ga (aN gv (aN gc (aN gk (aN hk (aN hc' (aN hil (aN om (aN ox (aN oc hlen)))))))))))))) ?_
  have hr3:=hf.ch _ (a26 hc)
  refine b5E (cs:=O6 (cAt st.chans v.chan)) (x:=.int .i64 (zAt (cAt st.chans v.chan) 0)) (by simp (disch:=(first|exact Rf.mk rfl|with_reducible assumption|omega|((repeat (first|rw [nP]|rw [nS]|rw [M3]))<;>omega)|decide)) only [go_sem,↓reduceIte,gk]) (by simp) (by simp (disch:=(first|exact Rf.mk rfl|with_reducible assumption|omega|((repeat (first|rw [nP]|rw [nS]|rw [M3]))<;>omega)|decide)) only [go_sem,↓reduceIte]) (by decide) (by omega) (by simp (disch:=(first|exact Rf.mk rfl|with_reducible assumption|omega|((repeat (first|rw [nP]|rw [nS]|rw [M3]))<;>omega)|decide)) only [go_sem,↓reduceIte]) ?_
  refine zY (aN g0 (aN g1 (aN g2 (aN g3 (aN ga (aN gv (aN gc (aN gk (aN hk (aN hc' (aN hil (aN om (aN ox (aN oc hlen)))))))))))))) ?_
  refine a0a ⟨_,rfl,H.chan (d:=.arr (s1.next+1+1) 0 ((cAt st.chans v.chan).length+1) 1) hc' rfl rfl ?_ ?_ ?_ ?_ fun j hj hjk=>?_⟩
  ·exact zZ ga
  ·exact zZ gv
  ·exact zZ gc
  ·rw [show (cAt st.chans v.chan).length+1=(cAt st.chans v.chan++[zAt (cAt st.chans v.chan) 0]).length by simp]
   refine a3J ?_
   refine zY0 ?_
   simp [O6]
  ·obtain ⟨gj,nj,ja,jv⟩:=gq j hj
   have jc:=cq j hj
   have lj:=M7 gj
   have jk:nAt ids j≠nAt ids v.chan:=fun e=>hjk (inj _ _ hj hc' e)
   exact zZ gj
end Go.Proofs.YtnjlhebkhjcagaaGreat
namespace Go.V
variable {mo:Mo} {M:Stt->List Mv}
def Mo.fst (mo:Mo):Stt:=⟨List.replicate mo.procs.length 0,mo.vals,List.replicate mo.chans.length [],-1⟩
theorem b7d {n i:Nat}:nAt (List.replicate n 0) i=0:=by
 unfold nAt
 by_cases h:i<n
 ·simp [List.getD,h]
 ·simp [List.getD,h]
theorem b3M (ho:N2 mo) (hf:W4 mo):Fit mo mo.fst:=by
 refine a0D.1 ⟨by simp [Mo.fst],by simp [Mo.fst,Mo.vals],by simp [Mo.fst],fun i hi=>?_,fun i hi=>?_,fun i hi=>?_,fun i hi n hn=>?_,by simp only [Mo.fst];omega⟩
 ·have:=(ho.pr _ (V1 hi)).inv.two
  show nAt (List.replicate _ 0) i<_
  rw [b7d];omega
 ·show N4 (zAt mo.vals i) _=zAt mo.vals i
  rw [a7f hi]
  exact (hf.vr _ (a3p hi)).2.2
 ·show ((cAt (List.replicate _ []) i).length:Int)<=_
  rw [a5Y]
  have:=(hf.ch _ (a26 hi)).1
  simp only [List.length_nil];omega
 ·have hn:n∈cAt (List.replicate _ []) i:=hn
  rw [a5Y] at hn;cases hn
theorem b1D (ho:N2 mo) (hf:W4 mo):a1g mo mo.fst:=⟨b3M ho hf,fun j hj=>by simp only [Mo.fst] at hj;omega⟩
def Rch (mo:Mo) (M:Stt->List Mv) (t:Stt):Prop:=∃n,Z2 mo M n mo.fst t
theorem Z2.snoc:∀ {n:Nat} {s t:Stt} {v:Mv},Z2 mo M n s t->v∈M t->Z2 mo M (n+1) s (mo.doS t v)
 | 0,s,t,v,h,hv=>by cases h;exact ⟨v,hv,rfl⟩
 | n+1,s,t,v,⟨w,hw,h⟩,hv=>⟨w,hw,h.snoc hv⟩
theorem Rch.step {t:Stt} {v:Mv} (h:Rch mo M t) (hv:v∈M t):Rch mo M (mo.doS t v):=by
 obtain ⟨n,h⟩:=h
 exact ⟨n+1,h.snoc hv⟩
theorem Z2.mono {M':Stt->List Mv} (hs:∀s v,v∈M s->v∈M' s):∀ {n:Nat} {s t:Stt},Z2 mo M n s t->Z2 mo M' n s t
 | 0,s,t,h=>h
 | n+1,s,t,⟨w,hw,h⟩=>⟨w,hs _ _ hw,h.mono hs⟩
theorem Rch.mono {M':Stt->List Mv} (hs:∀s v,v∈M s->v∈M' s) {t:Stt} (h:Rch mo M t):Rch mo M' t:=by
 obtain ⟨n,h⟩:=h
 exact ⟨n,h.mono hs⟩
theorem Rch.inv (ho:N2 mo) (hf:W4 mo) (hs:∀s v,v∈M s->v∈mo.moves s) {t:Stt} (h:Rch mo M t):a1g mo t:=by
 obtain ⟨n,h⟩:=h
 exact (h.mono hs).inv ho hf (b1D ho hf)
theorem c0V {L:List Stt} (h0:mo.fst∈L) (hc:∀s∈L,∀v∈M s,mo.doS s v∈L) {t:Stt} (h:Rch mo M t):t∈L:=by
 obtain ⟨n,h⟩:=h
 have key:∀ {n:Nat} {s t:Stt},s∈L->Z2 mo M n s t->t∈L:=by
  intro n
  induction n with
  | zero=>intro s t hs h;cases h;exact hs
  | succ n ih=>intro s t hs h;obtain ⟨v,hv,h⟩:=h;exact ih (hc s hs v hv) h
 exact key h0 h
def b0p (mo:Mo) (M:Stt->List Mv) (a b:Bool):Prop :=
 (a=true/\b=true/\∃t,Rch mo M t/\mo.badS t=true)∨(a=false/\b=true/\∃L:List Stt,L.length<=120/\∀t,Rch mo M t->t∈L/\mo.badS t=false)∨(a=false/\b=false)
abbrev QL:=List (StD×Stt)
def qAt (l:QL) (i:Nat):StD×Stt:=l.getD i ⟨⟨.nils,.nils,.nils⟩,⟨[],[],[],0⟩⟩
theorem a4Z {l:QL} {i:Nat} (h:i<l.length):qAt l i=l[i]:=by simp [qAt,List.getD,h]
theorem b3U {l:QL} {q:StD×Stt} (h:q∈l):∃i,i<l.length/\qAt l i=q:=by
 obtain ⟨i,hi,e⟩:=List.getElem_of_mem h
 exact ⟨i,hi,by rw [a4Z hi,e]⟩
theorem a8e {l r:QL} {i:Nat} (h:i<l.length):qAt (l++r) i=qAt l i:=by
 rw [a4Z h,a4Z (by simp;omega),List.getElem_append_left h]
structure a0A (mo:Mo) (M:Stt->List Mv) (L:QL) (i:Nat):Prop where
 fst:mo.fst∈L.map Prod.snd
 rch:∀q∈L,Rch mo M q.2
 f:∀q∈L,StF q.1 q.2
 ok:∀j,j<i->mo.badS (qAt L j).2=false
 cl:∀j,j<i->∀v∈M (qAt L j).2,mo.doS (qAt L j).2 v∈L.map Prod.snd
 nd:(L.map Prod.snd).Nodup
theorem a0A.app {L:QL} {i:Nat} (h:a0A mo M L i) (hi:i<=L.length) {q:StD×Stt} (hr:Rch mo M q.2) (hf:StF q.1 q.2) (hn:q.2∉L.map Prod.snd):a0A mo M (L++[q]) i:=by
 refine ⟨by rw [List.map_append];exact List.mem_append_left _ h.fst,fun p hp=>?_,fun p hp=>?_,fun j hj=>?_,fun j hj v hv=>?_,?_⟩
 ·rcases List.mem_append.1 hp with hp | hp
  ·exact h.rch p hp
  ·rw [List.mem_singleton.1 hp];exact hr
 ·rcases List.mem_append.1 hp with hp | hp
  ·exact h.f p hp
  ·rw [List.mem_singleton.1 hp];exact hf
 ·rw [a8e (by omega)];exact h.ok j hj
 ·rw [a8e (by omega)] at hv ⊢
  rw [List.map_append]
  exact List.mem_append_left _ (h.cl j hj v hv)
 ·rw [List.map_append]
  refine List.nodup_append.2 ⟨h.nd,by simp,fun a ha b hb=>?_⟩
  simp only [List.map_cons,List.map_nil,List.mem_singleton] at hb
  rw [hb]
  exact fun e=>hn (e▸ha)
theorem a0A.next {L:QL} {i:Nat} (h:a0A mo M L i) (hb:mo.badS (qAt L i).2=false) (hc:∀v∈M (qAt L i).2,mo.doS (qAt L i).2 v∈L.map Prod.snd):a0A mo M L (i+1):=by
 refine ⟨h.fst,h.rch,h.f,fun j hj=>?_,fun j hj=>?_,h.nd⟩
 ·by_cases e:j=i
  ·rw [e];exact hb
  ·exact h.ok j (by omega)
 ·by_cases e:j=i
  ·rw [e];exact hc
  ·exact h.cl j (by omega)
theorem a0A.all {L:QL} {i:Nat} (h:a0A mo M L i) (hi:¬ i<L.length):∀t,Rch mo M t->t∈L.map Prod.snd/\mo.badS t=false:=by
 intro t ht
 have hm:=c0V (L:=L.map Prod.snd) h.fst (fun s hs v hv=>by
  obtain ⟨q,hq,rfl⟩:=List.mem_map.1 hs
  obtain ⟨j,hj,rfl⟩:=b3U hq
  exact h.cl j (by omega) v hv) ht
 refine ⟨hm,?_⟩
 obtain ⟨q,hq,rfl⟩:=List.mem_map.1 hm
 obtain ⟨j,hj,rfl⟩:=b3U hq
 exact h.ok j (by omega)
theorem a0A.none {L:QL} {i:Nat} (h:a0A mo M L i) (hi:¬ i<L.length) (hl:L.length<=120):b0p mo M false true :=
 .inr (.inl ⟨rfl,rfl,L.map Prod.snd,by rw [List.length_map];exact hl,h.all hi⟩)
end Go.V
namespace Go.V
variable {mo:Mo} {π τ:Nat->Nat} {s s':Stt}
structure Sym (mo:Mo) (π τ:Nat->Nat):Prop where
 pi:∀v,π (π v)=v
 pg:∀v,v<mo.globals->π v=v
 pl:∀v,v<mo.vars.length->π v<mo.vars.length
 pw:∀v,v<mo.vars.length->(vAt mo.vars (π v)).width=(vAt mo.vars v).width
 tt:∀j,τ (τ j)=j
 tl:∀j,j<mo.procs.length->τ j<mo.procs.length
 nm:∀j,j<mo.procs.length->(pAt mo.procs (τ j)).names=(pAt mo.procs j).names
 vr:∀j,j<mo.procs.length->(pAt mo.procs (τ j)).vars=(pAt mo.procs j).vars.map π
 ed:∀j,j<mo.procs.length->(pAt mo.procs (τ j)).edges=(pAt mo.procs j).edges.map (V0 π)
 rs:∀j,j<mo.procs.length->(pAt mo.procs (τ j)).rest=(pAt mo.procs j).rest
structure SR (mo:Mo) (π τ:Nat->Nat) (s s':Stt):Prop where
 al:s.at'.length=mo.procs.length
 al':s'.at'.length=mo.procs.length
 at':∀j,j<mo.procs.length->nAt s'.at' (τ j)=nAt s.at' j
 vl:s.vars.length=mo.vars.length
 vl':s'.vars.length=mo.vars.length
 vr:∀v,v<mo.vars.length->zAt s'.vars (π v)=zAt s.vars v
 ch:s'.chans=s.chans
 hd:(s.hold<0/\s'.hold=s.hold)∨∃j,j<mo.procs.length/\s.hold=(j:Int)/\s'.hold=((τ j:Nat):Int)
theorem a6M:(-1:Int)<0:=by decide
theorem Sym.pe (h:Sym mo π τ) {a b:Nat}:π a=π b↔a=b:=⟨fun e=>by rw [<- h.pi a,e,h.pi],fun e=>by rw [e]⟩
theorem Sym.te (h:Sym mo π τ) {a b:Nat}:τ a=τ b↔a=b:=⟨fun e=>by rw [<- h.tt a,e,h.tt],fun e=>by rw [e]⟩
theorem SR.symm (h:Sym mo π τ) (r:SR mo π τ s s'):SR mo π τ s' s:=by
 refine ⟨r.al',r.al,fun j hj=>?_,r.vl',r.vl,fun v hv=>?_,r.ch.symm,?_⟩
 ·rw [<- r.at' (τ j) (h.tl j hj),h.tt]
 ·rw [<- r.vr (π v) (h.pl v hv),h.pi]
 ·rcases r.hd with ⟨a,b⟩ | ⟨j,hj,a,b⟩
  ·exact .inl ⟨by rw [b];exact a,b.symm⟩
  ·exact .inr ⟨τ j,h.tl j hj,b,by rw [h.tt];exact a⟩
theorem a8P {t:List Nd} {ch:List ByteArray} {look look':ByteArray->Option Nat} (hc:s'.chans=s.chans) (hl:∀w,(look' w).map (zAt s'.vars)=(look w).map (zAt s.vars)):∀n k,S9 t ch look' s' n k=S9 t ch look s n k
 | 0,k=>rfl
 | n+1,k=>by
   have:=hl ((nd t k).word 0)
   unfold S9
   simp only [a8P hc hl n,hc]
   cases h1:look' ((nd t k).word 0)<;>cases h2:look ((nd t k).word 0)<;>rw [h1,h2] at this<;>simp only [Option.map_some,Option.map_none,Option.some.injEq,reduceCtorEq] at this
   ·simp only [this]
theorem b8G (ho:N2 mo) (h:Sym mo π τ) (r:SR mo π τ s s') {j:Nat} (hj:j<mo.procs.length) (w:ByteArray):(O8 (pAt mo.procs (τ j)) w).map (zAt s'.vars)=(O8 (pAt mo.procs j) w).map (zAt s.vars):=by
 have hp:=ho.pr _ (V1 hj)
 unfold O8
 rw [h.nm j hj,h.vr j hj]
 split
 ·rename_i hi
  rw [hp.same] at hi
  rw [b07 hi]
  simp only [Option.map_some]
  rw [r.vr]
  refine hp.var _ ?_
  simp only [List.getD,List.getElem?_eq_getElem hi,Option.getD_some]
  exact List.getElem_mem hi
 ·rfl
theorem b6a (ho:N2 mo) (h:Sym mo π τ) (r:SR mo π τ s s') {j:Nat} (hj:j<mo.procs.length) (e:Ed) (z:Int):mo.ex (pAt mo.procs (τ j)) s' (V0 π e) z=mo.ex (pAt mo.procs j) s e z:=by
 unfold Mo.ex Mo.val
 show (if 0<=e.expr then _ else _)=_
 split
 ·exact a8P r.ch (b8G ho h r hj) _ _
 ·rfl
theorem b61 (ho:N2 mo) (h:Sym mo π τ) (r:SR mo π τ s s') {j:Nat} (hj:j<mo.procs.length) (e:Ed):mo.can s' (τ j) (pAt mo.procs (τ j)) (V0 π e)=mo.can s j (pAt mo.procs j) e:=by
 unfold Mo.can
 rw [b6a ho h r hj,r.at' j hj,r.ch]
 rfl
theorem b9g (ho:N2 mo) (h:Sym mo π τ) (r:SR mo π τ s s') {j:Nat} (hj:j<mo.procs.length):mo.someS s' (τ j) (pAt mo.procs (τ j))=mo.someS s j (pAt mo.procs j):=by
 unfold Mo.someS
 rw [h.ed j hj,List.any_map]
 congr 1
 funext e
 exact b61 ho h r hj e
theorem c3M (ho:N2 mo) (h:Sym mo π τ) (r:SR mo π τ s s') {j:Nat} (hj:j<mo.procs.length) {e:Ed} (he:e∈(pAt mo.procs j).edges):SR mo π τ (mo.edgeS s j (pAt mo.procs j) e) (mo.edgeS s' (τ j) (pAt mo.procs (τ j)) (V0 π e)):=by
 have hp:=ho.pr _ (V1 hj)
 have heo:=hp.inv.ed e he
 have hx:=b6a ho h r hj e 0
 have at1:∀i,i<mo.procs.length->nAt (s'.at'.set (τ j) e.to) (τ i)=nAt (s.at'.set j e.to) i:=fun i hi=>by
  have h1:j<s.at'.length:=by rw [r.al];exact hj
  have h2:τ j<s'.at'.length:=by rw [r.al'];exact h.tl j hj
  rw [a4t h1,a4t h2]
  by_cases c:i=j
  ·rw [if_pos c,if_pos (by rw [c])]
  ·rw [if_neg c,if_neg (by rw [h.te];exact c),r.at' i hi]
 have vr1:∀x,e.act=1∨e.act=3->∀v,v<mo.vars.length->zAt (s'.vars.set (a1Z π e.var).toNat (N4 x (vAt mo.vars (a1Z π e.var).toNat).width.toNat)) (π v)=zAt (s.vars.set e.var.toNat (N4 x (vAt mo.vars e.var.toNat).width.toNat)) v:=fun x ha v hv=>by
  obtain ⟨a,ha1,ha2⟩:=heo.v1 ha
  have hal:=hp.var a ha1
  rw [ha2,b28,Int.toNat_natCast,Int.toNat_natCast,h.pw a hal]
  have h1:a<s.vars.length:=by rw [r.vl];exact hal
  have h2:π a<s'.vars.length:=by rw [r.vl'];exact h.pl a hal
  rw [a5v h1,a5v h2]
  by_cases c:v=a
  ·rw [if_pos c,if_pos (by rw [c])]
  ·rw [if_neg c,if_neg (by rw [h.pe];exact c),r.vr v hv]
 unfold Mo.edgeS Mo.actS
 rw [hx]
 have ea:(V0 π e).act=e.act:=rfl
 have ec:(V0 π e).chan=e.chan:=rfl
 have et:(V0 π e).to=e.to:=rfl
 have ev:(V0 π e).var=a1Z π e.var:=rfl
 rw [ea,ec,et,ev]
 by_cases c1:e.act=1
 ·rw [if_pos c1,if_pos c1]
  exact ⟨by simp [Stt.free,Stt.go,r.al],by simp [Stt.free,Stt.go,r.al'],at1,by simp [Stt.free,Stt.go,r.vl],by simp [Stt.free,Stt.go,r.vl'],vr1 _ (.inl c1),r.ch,.inl ⟨a6M,rfl⟩⟩
 rw [if_neg c1,if_neg c1]
 by_cases c2:e.act=2
 ·rw [if_pos c2,if_pos c2]
  exact ⟨by simp [Stt.free,Stt.go,r.al],by simp [Stt.free,Stt.go,r.al'],at1,r.vl,r.vl',r.vr,by simp only [Stt.free,Stt.go,r.ch],.inl ⟨a6M,rfl⟩⟩
 rw [if_neg c2,if_neg c2]
 by_cases c3:e.act=3
 ·rw [if_pos c3,if_pos c3]
  refine ⟨by simp [Stt.free,Stt.go,r.al],by simp [Stt.free,Stt.go,r.al'],at1,by simp [Stt.free,Stt.go,r.vl],by simp [Stt.free,Stt.go,r.vl'],?_,by simp only [Stt.free,Stt.go,r.ch],.inl ⟨a6M,rfl⟩⟩
  simp only [Stt.free,Stt.go,r.ch]
  exact vr1 _ (.inr c3)
 rw [if_neg c3,if_neg c3]
 exact ⟨by simp [Stt.free,Stt.go,r.al],by simp [Stt.free,Stt.go,r.al'],at1,r.vl,r.vl',r.vr,r.ch,.inl ⟨a6M,rfl⟩⟩
theorem c6X (ho:N2 mo) (h:Sym mo π τ) (r:SR mo π τ s s') {j:Nat} (hj:j<mo.procs.length) {e:Ed} (he:e∈(pAt mo.procs j).edges):SR mo π τ (mo.doE s j (pAt mo.procs j) e) (mo.doE s' (τ j) (pAt mo.procs (τ j)) (V0 π e)):=by
 have r1:=c3M ho h r hj he
 unfold Mo.doE
 rw [b9g ho h r1 hj]
 have ek:(V0 π e).keep=e.keep:=rfl
 rw [ek]
 refine ⟨r1.al,r1.al',r1.at',r1.vl,r1.vl',r1.vr,r1.ch,?_⟩
 by_cases c:(e.keep&&mo.someS (mo.edgeS s j (pAt mo.procs j) e) j (pAt mo.procs j))=true
 ·simp only [if_pos c]
  exact .inr ⟨j,hj,rfl,rfl⟩
 ·simp only [if_neg c]
  exact .inl ⟨a6M,trivial⟩
def mapM (τ:Nat->Nat) (v:Mv):Mv:=if v.kind=0 then { v with proc:=τ v.proc } else v
theorem a8v {l:List Ed} {f:Ed->Ed} {i:Nat} (h:i<l.length):eAt (l.map f) i=f (eAt l i):=by
 rw [a2b h,a2b (by simpa using h)];simp
theorem a3S {c:Nat} {v:Mv} (h:v∈mo.movesC s c):v.kind=1∨v.kind=2:=by
 unfold Mo.movesC at h
 rw [List.mem_append] at h
 rcases h with h | h
 ·split at h
  ·have:=List.mem_singleton.1 h
   left;rw [this]
  ·cases h
 ·split at h
  ·have:=List.mem_singleton.1 h
   right;rw [this]
  ·cases h
theorem a9A (ho:N2 mo) (h:Sym mo π τ) (r:SR mo π τ s s') {v:Mv} (hv:v∈mo.moves s):mapM τ v∈mo.moves s':=by
 rw [a1I] at hv ⊢
 rcases hv with ⟨a,b,c,d,e,f⟩ | ⟨a,b,c⟩
 ·left
  unfold mapM
  rw [if_pos a]
  refine ⟨a,b,h.tl _ c,?_,?_,?_⟩
  ·simp only;rw [h.ed _ c,List.length_map];exact d
  ·simp only;rw [h.ed _ c,a8v d,b61 ho h r c];exact e
  ·simp only
   rcases r.hd with ⟨x,y⟩ | ⟨j,hj,x,y⟩
   ·omega
   ·have:j=v.proc:=by omega
    rw [y,this];omega
 ·right
  obtain ⟨_,_,k⟩:=a4K c
  have hk:v.kind≠0:=by have:=a3S c;omega
  unfold mapM
  rw [if_neg hk]
  refine ⟨?_,b,?_⟩
  ·rcases r.hd with ⟨x,y⟩ | ⟨j,hj,x,y⟩<;>omega
  ·unfold Mo.movesC at c ⊢
   rw [r.ch];exact c
theorem b2T (ho:N2 mo) (h:Sym mo π τ) (r:SR mo π τ s s') {v:Mv} (hv:v∈mo.moves s):SR mo π τ (mo.doS s v) (mo.doS s' (mapM τ v)):=by
 unfold mapM
 by_cases k0:v.kind=0
 ·rw [if_pos k0]
  unfold Mo.doS
  simp only
  rw [if_neg (by omega),if_neg (by omega),if_neg (by omega),if_neg (by omega)]
  rcases a1I.1 hv with ⟨a,b,c,d,e,f⟩ | ⟨a,b,c⟩
  ·rw [h.ed _ c,a8v d]
   exact c6X ho h r c (a1E d)
  ·have:=a3S c;omega
 ·rw [if_neg k0]
  unfold Mo.doS
  rcases a1I.1 hv with ⟨a,_⟩ | ⟨a,b,c⟩
  ·exact absurd a k0
  split
  ·exact ⟨r.al,r.al',r.at',r.vl,r.vl',r.vr,by simp only [r.ch],r.hd⟩
  ·split
   ·exact ⟨r.al,r.al',r.at',r.vl,r.vl',r.vr,by simp only [r.ch],r.hd⟩
   ·rename_i k1 k2
    have:=a3S c;omega
theorem c3X (ho:N2 mo) (h:Sym mo π τ) (r:SR mo π τ s s'):mo.safeS s'=mo.safeS s:=by
 have hl:∀w,(a0y mo w).map (zAt s'.vars)=(a0y mo w).map (zAt s.vars):=fun w=>by
  cases hw:a0y mo w with
  | none=>rfl
  | some v =>
    have h1:=b35 hw
    simp only [Option.map_some]
    have:=r.vr v (by have:=ho.gl;omega)
    rw [h.pg v h1] at this
    rw [this]
 unfold Mo.safeS Mo.val
 congr 1
 funext k
 rw [a8P r.ch hl]
theorem c3a (ho:N2 mo) (h:Sym mo π τ) (r:SR mo π τ s s'):mo.deadS s'=mo.deadS s:=by
 have key:∀ {s s':Stt},SR mo π τ s s'->mo.deadS s=true->mo.deadS s'=true:=by
  intro s s' r hd
  unfold Mo.deadS at hd ⊢
  simp only [Bool.and_eq_true,decide_eq_true_eq,Bool.not_eq_true'] at hd ⊢
  refine ⟨?_,?_⟩
  ·cases hm:mo.moves s' with
   | nil=>rfl
   | cons v l =>
     have:=a9A ho h (r.symm h) (v:=v) (by rw [hm];simp)
     rw [hd.1] at this;cases this
  ·rw [<- Bool.not_eq_true,List.all_eq_true]
   intro hall
   have:((List.range mo.procs.length).all fun i=>(pAt mo.procs i).rest.getD (nAt s.at' i) false)=true:=by
    rw [List.all_eq_true]
    intro j hj
    have hj:=List.mem_range.1 hj
    have:=hall (τ j) (List.mem_range.2 (h.tl j hj))
    rw [h.rs j hj,r.at' j hj] at this
    exact this
   rw [this] at hd
   exact Bool.noConfusion hd.2
 rw [Bool.eq_iff_iff]
 exact ⟨key (r.symm h),key r⟩
theorem c2F (ho:N2 mo) (h:Sym mo π τ) (r:SR mo π τ s s'):mo.badS s'=mo.badS s:=by
 unfold Mo.badS
 rw [c3X ho h r,c3a ho h r]
theorem b2i (ho:N2 mo) (h:Sym mo π τ):∀ {n:Nat} {s s' t:Stt},SR mo π τ s s'->Z2 mo mo.moves n s t->∃t',Z2 mo mo.moves n s' t'/\SR mo π τ t t'
 | 0,s,s',t,r,hp=>by cases hp;exact ⟨s',rfl,r⟩
 | n+1,s,s',t,r,⟨v,hv,hp⟩=>by
   obtain ⟨t',h1,h2⟩:=b2i ho h (b2T ho h r hv) hp
   exact ⟨t',⟨_,a9A ho h r hv,h1⟩,h2⟩
end Go.V
namespace Go.V
variable {mo:Mo}
theorem b6n {l r:List Vr} {i:Nat} (h:i<l.length):vAt (l++r) i=vAt l i:=by
 rw [a2O h,a2O (by simp;omega),List.getElem_append_left h]
theorem c2M {l r:List Vr} {i:Nat} (h:i<r.length):vAt (l++r) (l.length+i)=vAt r i:=by
 rw [a2O h,a2O (by simp;omega),List.getElem_append_right (by omega)]
 congr 1;omega
def a6p (t:List Nd) (k i:Nat):Vr:=a1V ((X6 t (nd t k)).getD i default)
theorem b1m {t:List Nd} {ch:List ByteArray} {k seen:Nat} {a:List Vr×List Pr}:∀c,(V6 t ch k seen c a).1.length=a.1.length+c*N7 t (nd t k)
 | 0=>by simp [V6]
 | c+1=>by
   simp only [V6,List.length_append,List.length_map,a2I,b1m c]
   rw [Nat.succ_mul];omega
theorem b2d {t:List Nd} {ch:List ByteArray} {k seen:Nat} {a:List Vr×List Pr}:∀c,∀j,j<c->∀i,i<N7 t (nd t k)->vAt (V6 t ch k seen c a).1 (a.1.length+j*N7 t (nd t k)+i)=a6p t k i
 | 0,j,h,_,_=>by omega
 | c+1,j,h,i,hi=>by
   have hl:=b1m (t:=t) (ch:=ch) (k:=k) (seen:=seen) (a:=a) c
   simp only [V6]
   by_cases e:j=c
   ·subst e
    rw [<- hl,c2M (by simpa using hi),a2O (by simpa using hi)]
    simp [a6p,List.getD,hi]
   ·have h2:(j+1)*N7 t (nd t k)<=c*N7 t (nd t k):=Nat.mul_le_mul_right _ (by omega)
    rw [Nat.succ_mul] at h2
    rw [b6n (by omega)]
    exact b2d c j (by omega) i hi
theorem b4a (t:List Nd):∀n,n<=(nd t 0).ks.length->∀o∈(a0p t ((nd t 0).ks.take n)).l,o.nv+N7 t (nd t o.k)<=(a0o t (chs t) (gat t).vs ((nd t 0).ks.take n)).vs.length/\∀i,i<N7 t (nd t o.k)->vAt (a0o t (chs t) (gat t).vs ((nd t 0).ks.take n)).vs (o.nv+i)=a6p t o.k i
 | 0,_,o,ho=>by simp [a0p] at ho
 | n+1,hn,o,ho=>by
   have ih:=b4a t n (by omega)
   have hg:=a7J t n (by omega)
   have e:(nd t 0).ks.take (n+1)=(nd t 0).ks.take n++[(nd t 0).ks[n]]:=List.take_succ_eq_append_getElem (by omega)
   rw [e,a90] at ho
   rw [e,a8K]
   generalize (nd t 0).ks[n]=k at *
   generalize a0o t (chs t) (gat t).vs ((nd t 0).ks.take n)=b at *
   generalize a0p t ((nd t 0).ks.take n)=a at *
   have hnv:=hg.nv
   obtain ⟨m,hm⟩:=b4j t (chs t) b k
   have old:o∈a.l->o.nv+N7 t (nd t o.k)<=(a1b t (chs t) b k).vs.length/\∀i,i<N7 t (nd t o.k)->vAt (a1b t (chs t) b k).vs (o.nv+i)=a6p t o.k i:=fun h=>by
    obtain ⟨h1,h2⟩:=ih o h
    rw [hm]
    refine ⟨by rw [List.length_append];omega,fun i hi=>?_⟩
    rw [b6n (by omega)]
    exact h2 i hi
   unfold a2t at ho
   by_cases c3:(nd t k).kind=3
   ·rw [if_pos c3] at ho
    rcases List.mem_append.1 ho with h | h
    ·exact old h
    ·unfold a2J at h
     obtain ⟨c,hc,rfl⟩:=List.mem_map.1 h
     rw [List.mem_range] at hc
     unfold a1b
     rw [if_pos c3]
     simp only
     have hl:=b1m (t:=t) (ch:=chs t) (k:=k) (seen:=b.seen) (a:=(b.vs,b.ps)) ((nd t k).num 0).toNat
     have h2:(c+1)*N7 t (nd t k)<=((nd t k).num 0).toNat*N7 t (nd t k):=Nat.mul_le_mul_right _ (by omega)
     rw [Nat.succ_mul] at h2
     simp only at hl
     rw [<- hnv]
     refine ⟨by omega,fun i hi=>?_⟩
     exact b2d (a:=(b.vs,b.ps)) _ c hc i hi
   ·rw [if_neg c3] at ho
    by_cases c2:(nd t k).kind=2
    ·rw [if_pos c2] at ho;exact old ho
    ·rw [if_neg c2] at ho;exact old ho
theorem b68 {t:List Nd} {o:Org} (ho:o∈U4 t):∀i,i<N7 t (nd t o.k)->vAt (gbt t).vs (o.nv+i)=a6p t o.k i:=by
 have h:=b4a t (nd t 0).ks.length (Nat.le_refl _) o
 rw [List.take_length] at h
 exact (h ho).2
structure Cop (mo:Mo) (q n lo:Nat):Prop where
 lt:q+1<mo.procs.length
 gl:mo.globals<=lo
 hi:lo+n+n<=mo.vars.length
 l0:(pAt mo.procs q).locals=(List.range n).map (lo+·)
 l1:(pAt mo.procs (q+1)).locals=(List.range n).map (lo+n+·)
 vr:∀v∈(pAt mo.procs q).vars,v<mo.globals∨v∈(pAt mo.procs q).locals
 re:pAt mo.procs (q+1)=ren (X2 mo.globals n) (pAt mo.procs (q+1)).locals (pAt mo.procs (q+1)).copy (pAt mo.procs q)
 w:∀i,i<n->vAt mo.vars (lo+n+i)=vAt mo.vars (lo+i)
theorem c5Z {t:List Nd} (h:O2 t) (hS:a1h t) {p:Nat} (hp:p<(U2 t).procs.length) (hc:0<(pAt (U2 t).procs p).copy):∃q n lo,p=q+1/\Cop (U2 t) q n lo:=by
 have e:(U2 t).procs=(U4 t).map (a0L t):=(a38 t).1
 have hpl:p<(U4 t).length:=by rw [e,List.length_map] at hp;exact hp
 have ep:∀i (hi:i<(U4 t).length),pAt (U2 t).procs i=a0L t (U4 t)[i]:=fun i hi=>by
  rw [a2E (by rw [e,List.length_map];exact hi)];simp [e]
 have hom:=List.getElem_mem hpl
 have ec:=c14 t _ h hS hom
 rw [ep p hpl,ec] at hc
 obtain ⟨q,hq,rfl,h1,h2,h3,h4⟩:=b8k t p hpl hc
 have hoq:=List.getElem_mem hq
 have g0:=(a3M h hS hoq).2
 have g1:=(a3M h hS hom).2
 have ok0:=a25 hoq
 have ok1:=a25 hom
 have l0:(a0L t (U4 t)[q]).locals=(List.range (N7 t (nd t (U4 t)[q].k))).map ((U4 t)[q].nv+·):=by rw [g0.locals];rfl
 have l1:(a0L t (U4 t)[q+1]).locals=(List.range (N7 t (nd t (U4 t)[q+1].k))).map ((U4 t)[q+1].nv+·):=by rw [g1.locals];rfl
 have v0:=b68 hoq
 have v1:=b68 hom
 have hr:=c4E h hS hoq (o':=(U4 t)[q+1]) h1.symm h2.symm (by omega)
 have hlo:=ok0.lo
 have hhi:=ok1.hi
 have hnv:(U4 t)[q+1].nv=(U4 t)[q].nv+N7 t (nd t (U4 t)[q].k):=by rw [h1];omega
 refine ⟨q,N7 t (nd t (U4 t)[q].k),(U4 t)[q].nv,rfl,by omega,hlo,?_,?_,?_,?_,?_,?_⟩
 ·rw [<- h1,hnv] at hhi;exact hhi
 ·rw [ep q hq];exact l0
 ·rw [ep _ hpl,l1,hnv,h1]
 ·rw [ep q hq]
  obtain ⟨vs,w1,w2,w3,w4⟩:=a6F hoq
  rw [g0.vars,g0.locals]
  intro v hv
  simp only [pr1,List.mem_append,List.mem_range,List.mem_map] at hv ⊢
  rcases hv with hv | hv
  ·exact .inl (by show v<(gat t).vs.length;omega)
  ·exact .inr hv
 ·rw [ep _ hpl,ep q hq]
  have hd:(U4 t)[q+1].nv-(U4 t)[q].nv=N7 t (nd t (U4 t)[q].k):=by omega
  rw [hd] at hr
  rw [g1.locals,g1.copy]
  exact hr
 ·intro i hi
  have a:=v0 i hi
  have b:=v1 i (by rw [<- h1];exact hi)
  rw [hnv,<- h1] at b
  show vAt (gbt t).vs _=vAt (gbt t).vs _
  rw [a,b]
def a1z (lo n v:Nat):Nat:=if lo<=v/\v<lo+n then v+n else if lo+n<=v/\v<lo+n+n then v-n else v
def a04 (q j:Nat):Nat:=if j=q then q+1 else if j=q+1 then q else j
theorem b5f (lo n v:Nat):a1z lo n (a1z lo n v)=v:=by
 unfold a1z
 repeat' split
 all_goals omega
theorem c4Y (q j:Nat):a04 q (a04 q j)=j:=by
 unfold a04
 repeat' split
 all_goals omega
theorem c4r {f:Nat->Nat} {e:Ed} (h:∀a:Nat,e.var=(a:Int)->f a=a):V0 f e=e:=by
 unfold V0 a1Z
 split
 ·rename_i hv
  obtain ⟨a,ha⟩:=Int.eq_ofNat_of_zero_le hv
  rw [ha,Int.toNat_natCast,h a ha,<- ha]
 ·rfl
theorem b7T {f g:Nat->Nat} {e:Ed} (h:∀a:Nat,e.var=(a:Int)->f (g a)=a):V0 f (V0 g e)=e:=by
 unfold V0 a1Z
 by_cases hv:0<=e.var
 ·obtain ⟨a,ha⟩:=Int.eq_ofNat_of_zero_le hv
  simp only [ha,Int.toNat_natCast]
  rw [if_pos (by omega),if_pos (by omega),Int.toNat_natCast,h a ha,<- ha]
 ·simp only [if_neg hv]
theorem b78 {f g:Nat->Nat} {e:Ed} (h:∀a:Nat,e.var=(a:Int)->f a=g a):V0 f e=V0 g e:=by
 unfold V0 a1Z
 by_cases hv:0<=e.var
 ·obtain ⟨a,ha⟩:=Int.eq_ofNat_of_zero_le hv
  simp only [ha,Int.toNat_natCast,h a ha]
 ·simp only [if_neg hv]
theorem b1M {p:Pr} (hp:a0m mo p) {e:Ed} (he:e∈p.edges) {a:Nat} (h:e.var=(a:Int)):a∈p.vars:=by
 have heo:=hp.inv.ed e he
 by_cases c:e.act=1∨e.act=3
 ·obtain ⟨b,hb,hv⟩:=heo.v1 c
  have:a=b:=by omega
  rw [this];exact hb
 ·have:=heo.v0 (by have:=heo.act;omega)
  omega
section
variable {q n lo:Nat} (ho:N2 mo) (hq:MoQ mo) (h:Cop mo q n lo)
include h
theorem c71 {v:Nat} (hv:v∈(pAt mo.procs q).vars):v<mo.globals∨(lo<=v/\v<lo+n):=by
 rcases h.vr v hv with h1 | h1
 ·exact .inl h1
 ·rw [h.l0] at h1
  obtain ⟨i,hi,rfl⟩:=List.mem_map.1 h1
  rw [List.mem_range] at hi
  exact .inr ⟨by omega,by omega⟩
theorem a9L {v:Nat} (hv:v∈(pAt mo.procs q).vars):a1z lo n v=X2 mo.globals n v:=by
 have:=h.gl
 unfold a1z X2
 rcases c71 h hv with h1 | h1
 ·rw [if_neg (by omega),if_neg (by omega),if_pos h1]
 ·rw [if_pos h1,if_neg (by omega)]
theorem b6g (hq:MoQ mo) {j:Nat} (hj:j<mo.procs.length) (h0:j≠q) (h1:j≠q+1) {v:Nat} (hv:v∈(pAt mo.procs j).vars):a1z lo n v=v:=by
 have hl:=h.lt
 have a0:¬ (lo<=v/\v<lo+n):=fun c=>hq.own q j (by omega) hj (Ne.symm h0) v (by rw [h.l0];exact List.mem_map.2 ⟨v-lo,List.mem_range.2 (by omega),by omega⟩) hv
 have a1:¬ (lo+n<=v/\v<lo+n+n):=fun c=>hq.own (q+1) j (by omega) hj (Ne.symm h1) v (by rw [h.l1];exact List.mem_map.2 ⟨v-(lo+n),List.mem_range.2 (by omega),by omega⟩) hv
 unfold a1z
 rw [if_neg a0,if_neg a1]
include ho hq
theorem b4h:Sym mo (a1z lo n) (a04 q):=by
 have hl:=h.lt
 have hlo:=h.gl
 have hhi:=h.hi
 have s0:a04 q q=q+1:=if_pos rfl
 have s1:a04 q (q+1)=q:=by unfold a04;rw [if_neg (by omega),if_pos rfl]
 have s2:∀j,j≠q->j≠q+1->a04 q j=j:=fun j a b=>by unfold a04;rw [if_neg a,if_neg b]
 have wv:∀v,v<mo.vars.length->vAt mo.vars (a1z lo n v)=vAt mo.vars v:=fun v hv=>by
  unfold a1z
  split
  ·rename_i c
   have:=h.w (v-lo) (by omega)
   rw [show lo+n+(v-lo)=v+n by omega,show lo+(v-lo)=v by omega] at this
   exact this
  ·split
   ·rename_i c
    have:=h.w (v-(lo+n)) (by omega)
    rw [show lo+n+(v-(lo+n))=v by omega,show lo+(v-(lo+n))=v-n by omega] at this
    exact this.symm
   ·rfl
 have p0:=ho.pr _ (V1 (l:=mo.procs) (i:=q) (by omega))
 have hre:=h.re
 have r1:(pAt mo.procs (q+1)).vars=(pAt mo.procs q).vars.map (X2 mo.globals n):=by rw [hre];rfl
 have r2:(pAt mo.procs (q+1)).edges=(pAt mo.procs q).edges.map (V0 (X2 mo.globals n)):=by rw [hre];rfl
 have r3:(pAt mo.procs (q+1)).names=(pAt mo.procs q).names:=by rw [hre];rfl
 have r4:(pAt mo.procs (q+1)).rest=(pAt mo.procs q).rest:=by rw [hre];rfl
 have back:∀v∈(pAt mo.procs q).vars,a1z lo n (X2 mo.globals n v)=v:=fun v hv=>by
  rw [<- a9L h hv,b5f]
 have idm:∀ {l:List Nat} {f:Nat->Nat},(∀v∈l,f v=v)->l.map f=l:=fun hf=>by
  rw [List.map_congr_left (g:=id) hf,List.map_id]
 have ide:∀ {l:List Ed} {f:Ed->Ed},(∀v∈l,f v=v)->l.map f=l:=fun hf=>by
  rw [List.map_congr_left (g:=id) hf,List.map_id]
 refine ⟨b5f lo n,fun v hv=>?_,fun v hv=>?_,fun v hv=>by rw [wv v hv],c4Y q,fun j hj=>?_,fun j hj=>?_,fun j hj=>?_,fun j hj=>?_,fun j hj=>?_⟩
 ·unfold a1z;rw [if_neg (by omega),if_neg (by omega)]
 ·unfold a1z;repeat' split
  all_goals omega
 ·unfold a04;repeat' split
  all_goals omega
 ·by_cases c0:j=q
  ·rw [c0,s0,r3]
  by_cases c1:j=q+1
  ·rw [c1,s1,r3]
  rw [s2 j c0 c1]
 ·by_cases c0:j=q
  ·rw [c0,s0,r1]
   exact List.map_congr_left fun v hv=>(a9L h hv).symm
  by_cases c1:j=q+1
  ·rw [c1,s1,r1,List.map_map]
   exact (idm fun v hv=>back v hv).symm
  rw [s2 j c0 c1]
  exact (idm fun v hv=>b6g h hq hj c0 c1 hv).symm
 ·by_cases c0:j=q
  ·rw [c0,s0,r2]
   exact List.map_congr_left fun e he=>b78 fun a ha=>(a9L h (b1M p0 he ha)).symm
  by_cases c1:j=q+1
  ·rw [c1,s1,r2,List.map_map]
   exact (ide fun e he=>b7T fun a ha=>back a (b1M p0 he ha)).symm
  rw [s2 j c0 c1]
  exact (ide fun e he=>c4r fun a ha=>b6g h hq hj c0 c1 (b1M (ho.pr _ (V1 hj)) he ha)).symm
 ·by_cases c0:j=q
  ·rw [c0,s0,r4]
  by_cases c1:j=q+1
  ·rw [c1,s1,r4]
  rw [s2 j c0 c1]
end
end Go.V
namespace Go.V
variable {mo:Mo} {s:Stt}
def a1B (p:Pr):Bool:=p.edges.all fun e=>decide (e.to≠0)
def Mo.barred (mo:Mo) (st:Stt) (i:Nat):Bool:=decide (0<(pAt mo.procs i).copy)&&a1B (pAt mo.procs i)&&decide (nAt st.at' i=0)&&decide (nAt st.at' (i-1)=0)
def Mo.freeM (mo:Mo) (st:Stt) (v:Mv):Bool:=!(decide (v.kind=0)&&mo.barred st v.proc)
def Mo.someM (mo:Mo) (am:Bool) (st:Stt):List Mv:=(if am then mo.ample st else mo.moves st).filter (mo.freeM st)
def a2a (mo:Mo) (s:Stt):Prop:=∀j,j<mo.procs.length->a1B (pAt mo.procs j)=true->nAt s.at' j=0->s.hold≠(j:Int)/\∀v∈(pAt mo.procs j).locals,zAt s.vars v=(vAt mo.vars v).value
structure MoC (mo:Mo):Prop where
 tw:∀p,p<mo.procs.length->0<(pAt mo.procs p).copy->∃q n lo,p=q+1/\Cop mo q n lo
theorem b1S {t:List Nd} (h:O2 t) (hS:a1h t):MoC (U2 t):=⟨fun _ hp hc=>c5Z h hS hp hc⟩
theorem b5q (ho:N2 mo):a2a mo mo.fst:=fun j hj _ _=>⟨by simp only [Mo.fst];omega,fun v hv=>by
 have hp:=ho.pr _ (V1 hj)
 exact a7f (hp.var v (hp.loc v hv).1)⟩
theorem c50 {l:List Int} {i j:Nat} {x:Int} (h:i≠j):zAt (l.set i x) j=zAt l j:=by
 unfold zAt
 simp [List.getD,List.getElem?_set,h]
theorem b2G {i:Nat} {p:Pr} {e:Ed}:(mo.edgeS s i p e).at'=s.at'.set i e.to:=by
 unfold Mo.edgeS Mo.actS
 repeat' split
 all_goals rfl
theorem b9p {i:Nat} {p:Pr} (hp:a0m mo p) {e:Ed} (he:e∈p.edges) {w:Nat} (hw:w∉p.vars):zAt (mo.edgeS s i p e).vars w=zAt s.vars w:=by
 have key:∀a,e.act=1∨e.act=3->zAt (s.vars.set e.var.toNat a) w=zAt s.vars w:=fun a ha=>by
  obtain ⟨b,hb,hv⟩:=(hp.inv.ed e he).v1 ha
  rw [hv,Int.toNat_natCast]
  exact c50 fun c=>hw (c▸hb)
 unfold Mo.edgeS Mo.actS
 split
 ·rename_i c;exact key _ (.inl c)
 split
 ·rfl
 split
 ·rename_i c;exact key _ (.inr c)
 ·rfl
theorem a2a.step (ho:N2 mo) (hq:MoQ mo) (hI:Fit mo s) (hF:a2a mo s) {v:Mv} (hv:v∈mo.moves s):a2a mo (mo.doS s v):=by
 rcases a1I.1 hv with ⟨k0,_,hp,he,_,_⟩ | ⟨_,_,c⟩
 ·have hd:mo.doS s v=mo.doE s v.proc (pAt mo.procs v.proc) (eAt (pAt mo.procs v.proc).edges v.edge):=by
   unfold Mo.doS;rw [if_neg (by omega),if_neg (by omega)]
  have hem:=a1E he
  rw [hd]
  generalize eAt (pAt mo.procs v.proc).edges v.edge=e at *
  have hpo:=ho.pr _ (V1 hp)
  intro j hj hb ha
  have ha:nAt (mo.edgeS s v.proc (pAt mo.procs v.proc) e).at' j=0:=ha
  rw [b2G] at ha
  by_cases c:j=v.proc
  ·exfalso
   subst c
   have hl:=hI.at'
   rw [a4t (by omega),if_pos rfl] at ha
   unfold a1B at hb
   have:=List.all_eq_true.1 hb e hem
   simp [ha] at this
  ·have hl:=hI.at'
   rw [a4t (by omega),if_neg c] at ha
   obtain ⟨h1,h2⟩:=hF j hj hb ha
   refine ⟨?_,fun w hw=>?_⟩
   ·unfold Mo.doE
    simp only
    split<;>omega
   ·have:zAt (mo.edgeS s v.proc (pAt mo.procs v.proc) e).vars w=zAt s.vars w:=b9p hpo hem (hq.own j v.proc hj hp c w hw)
    exact this.trans (h2 w hw)
 ·have hk:=a3S c
  intro j hj hb ha
  have e1:(mo.doS s v).at'=s.at'/\(mo.doS s v).vars=s.vars/\(mo.doS s v).hold=s.hold:=by
   unfold Mo.doS
   split
   ·exact ⟨rfl,rfl,rfl⟩
   ·rw [if_pos (by omega)];exact ⟨rfl,rfl,rfl⟩
  rw [e1.1] at ha
  rw [e1.2.1,e1.2.2]
  exact hF j hj hb ha
theorem b5c {q n lo:Nat} (h:Cop mo q n lo):a1B (pAt mo.procs (q+1))=a1B (pAt mo.procs q):=by
 rw [h.re]
 unfold a1B
 show ((pAt mo.procs q).edges.map _).all _=_
 rw [List.all_map]
 rfl
theorem c5x {q n lo:Nat} (h:Cop mo q n lo) (hI:Fit mo s) (hF:a2a mo s) (hb:mo.barred s (q+1)=true):SR mo (a1z lo n) (a04 q) s s:=by
 unfold Mo.barred at hb
 simp only [Bool.and_eq_true,decide_eq_true_eq,Nat.add_sub_cancel] at hb
 obtain ⟨⟨⟨_,b1⟩,a1⟩,a0⟩:=hb
 have b0:=b1
 rw [b5c h] at b0
 have hl:=h.lt
 obtain ⟨h1,v1⟩:=hF (q+1) hl b1 a1
 obtain ⟨h0,v0⟩:=hF q (by omega) b0 a0
 have eqv:∀i,i<n->zAt s.vars (lo+n+i)=zAt s.vars (lo+i):=fun i hi=>by
  rw [v1 _ (by rw [h.l1];exact List.mem_map.2 ⟨i,List.mem_range.2 hi,rfl⟩),v0 _ (by rw [h.l0];exact List.mem_map.2 ⟨i,List.mem_range.2 hi,rfl⟩),h.w i hi]
 refine ⟨hI.at',hI.at',fun j hj=>?_,hI.vars,hI.vars,fun v hv=>?_,rfl,?_⟩
 ·unfold a04
  split
  ·rename_i c;rw [c,a0,a1]
  ·split
   ·rename_i c;rw [c,a0,a1]
   ·rfl
 ·unfold a1z
  split
  ·have:=eqv (v-lo) (by omega)
   rw [show lo+n+(v-lo)=v+n by omega,show lo+(v-lo)=v by omega] at this
   exact this
  ·split
   ·have:=eqv (v-(lo+n)) (by omega)
    rw [show lo+n+(v-(lo+n))=v by omega,show lo+(v-(lo+n))=v-n by omega] at this
    exact this.symm
   ·rfl
 ·have:=hI.hold
  by_cases c:s.hold<0
  ·exact .inl ⟨c,rfl⟩
  ·refine .inr ⟨s.hold.toNat,by omega,by omega,?_⟩
   unfold a04
   rw [if_neg (by omega),if_neg (by omega)]
   omega
theorem c8c (ho:N2 mo) (hq:MoQ mo) {q n lo:Nat} (h:Cop mo q n lo) (hI:Fit mo s) (hF:a2a mo s) {v:Mv} (hv:v∈mo.moves s) (hk:v.kind=0) (hp:v.proc=q+1) (hb:mo.barred s v.proc=true):mapM (a04 q) v∈mo.moves s/\(mapM (a04 q) v).proc=q/\SR mo (a1z lo n) (a04 q) (mo.doS s v) (mo.doS s (mapM (a04 q) v)):=by
 rw [hp] at hb
 have r:=c5x h hI hF hb
 have y:=b4h ho hq h
 refine ⟨a9A ho y r hv,?_,b2T ho y r hv⟩
 unfold mapM
 rw [if_pos hk]
 show a04 q v.proc=q
 rw [hp]
 unfold a04
 rw [if_neg (by omega),if_pos rfl]
theorem c2p {v:Mv} (h:¬ mo.freeM s v=true):v.kind=0/\mo.barred s v.proc=true:=by
 unfold Mo.freeM at h
 simpa using h
theorem b2K {i:Nat} (h:mo.barred s i=true):0<(pAt mo.procs i).copy:=by
 unfold Mo.barred at h
 simp only [Bool.and_eq_true,decide_eq_true_eq] at h
 exact h.1.1.1
theorem a97 (ho:N2 mo) (hq:MoQ mo) (hC:MoC mo) (hI:Fit mo s) (hF:a2a mo s) {n:Nat}:∀N (v:Mv) (t:Stt),v.proc<N->v∈mo.moves s->Z2 mo mo.moves n (mo.doS s v) t->∃v' t',v'∈mo.moves s/\mo.freeM s v'=true/\Z2 mo mo.moves n (mo.doS s v') t'/\mo.badS t'=mo.badS t
 | 0,v,t,h,_,_=>by omega
 | N+1,v,t,h,hv,hp=>by
   by_cases c:mo.freeM s v=true
   ·exact ⟨v,t,hv,c,hp,rfl⟩
   obtain ⟨hk,hb⟩:=c2p c
   have hpr:v.proc<mo.procs.length:=by
    rcases a1I.1 hv with ⟨_,_,x,_⟩ | ⟨_,_,x⟩
    ·exact x
    ·have:=a3S x;omega
   obtain ⟨q,m,lo,e,hc⟩:=hC.tw v.proc hpr (b2K hb)
   obtain ⟨h1,h2,r⟩:=c8c ho hq hc hI hF hv hk e hb
   have y:=b4h ho hq hc
   obtain ⟨t1,p1,r1⟩:=b2i ho y r hp
   obtain ⟨v',t',a,b,c',d⟩:=a97 ho hq hC hI hF N _ t1 (by rw [h2];omega) h1 p1
   exact ⟨v',t',a,b,c',d.trans (c2F ho y r1)⟩
theorem c7S (ho:N2 mo) (hq:MoQ mo) (hC:MoC mo) (hI:Fit mo s) (hF:a2a mo s) (h:mo.moves s≠[]):∃v∈mo.moves s,mo.freeM s v=true:=by
 obtain ⟨v,l,e⟩:=List.exists_cons_of_ne_nil h
 obtain ⟨v',_,a,b,_⟩:=a97 ho hq hC hI hF (n:=0) (v.proc+1) v _ (by omega) (by rw [e];simp) rfl
 exact ⟨v',a,b⟩
theorem a3e {am:Bool} {v:Mv} (h:v∈mo.someM am s):v∈mo.moves s:=by
 unfold Mo.someM at h
 have:=(List.mem_filter.1 h).1
 cases am
 ·exact this
 ·exact a4B this
theorem c2l (ho:N2 mo) {q n lo:Nat} (h:Cop mo q n lo) {e:Ed} (he:e∈(pAt mo.procs q).edges) (hq:a1L mo (pAt mo.procs (q+1)) (V0 (X2 mo.globals n) e)=true):a1L mo (pAt mo.procs q) e=true:=by
 have hl:=h.lt
 have hgl:=h.gl
 have p0:=ho.pr _ (V1 (l:=mo.procs) (i:=q) (by omega))
 have hs:=b8g (mo:=mo) (q:=pAt mo.procs q) (d:=n) (c:=(pAt mo.procs (q+1)).copy) (l:=(pAt mo.procs (q+1)).locals) p0.same e
 rw [<- h.re] at hs
 have hown:=a7P ho p0 he
 have ek:(V0 (X2 mo.globals n) e).keep=e.keep:=rfl
 have ef:(V0 (X2 mo.globals n) e).frm=e.frm:=rfl
 have et:(V0 (X2 mo.globals n) e).to=e.to:=rfl
 unfold a1L at hq ⊢
 rw [hs.s,hs.v,hs.z,hs.p,ek,ef,et] at hq
 simp only [Bool.and_eq_true] at hq ⊢
 obtain ⟨⟨h1,h2⟩,h3⟩:=hq
 refine ⟨⟨h1,?_⟩,h3⟩
 unfold a5V at h2 ⊢
 rw [List.all_eq_true] at h2 ⊢
 intro b hb
 have h2:=h2 b hb
 have modb:∀ {x y:Nat},x % 2 ^ mo.globals=y % 2 ^ mo.globals->b<mo.globals->x.testBit b=y.testBit b:=fun {x y} e hb=>by
  have:=congrArg (fun z=>Nat.testBit z b) e
  simpa [Nat.testBit_mod_two_pow,hb] using this
 cases hbit:((O5 mo (pAt mo.procs q) e).reads ||| (O5 mo (pAt mo.procs q) e).writes).testBit b
 ·rfl
 ·have hv:b∈(pAt mo.procs q).vars:=by
   rw [Nat.testBit_or,Bool.or_eq_true] at hbit
   rcases hbit with hb' | hb'
   ·exact hown.reads b hb'
   ·exact hown.writes b hb'
  rcases h.vr b hv with hg | hg
  ·exfalso
   rw [Nat.testBit_or,modb hs.r hg,modb hs.w hg,<- Nat.testBit_or,hbit] at h2
   simp only [Bool.not_true,Bool.false_or,List.contains_iff_mem] at h2
   rw [h.l1] at h2
   obtain ⟨i,_,hi⟩:=List.mem_map.1 h2
   omega
  ·simpa using hg
theorem b7y (ho:N2 mo) {q n lo k:Nat} (h:Cop mo q n lo) (hk:mo.quiet (q+1) k=true):mo.quiet q k=true:=by
 have hl:=h.lt
 have r2:(pAt mo.procs (q+1)).edges=(pAt mo.procs q).edges.map (V0 (X2 mo.globals n)):=by rw [h.re];rfl
 have lv:lvE (pAt mo.procs (q+1)) k=(lvE (pAt mo.procs q) k).map (V0 (X2 mo.globals n)):=by
  unfold lvE
  rw [r2,List.filter_map]
  rfl
 unfold Mo.quiet at hk ⊢
 rw [Bool.and_eq_true,Bool.and_eq_true] at hk ⊢
 obtain ⟨_,h1,h2⟩:=hk
 rw [lv] at h1 h2
 refine ⟨decide_eq_true (by omega),?_,?_⟩
 ·rw [List.all_eq_true] at h1 ⊢
  intro e he
  exact c2l ho h (List.mem_filter.1 he).1 (h1 _ (List.mem_map.2 ⟨e,he,rfl⟩))
 ·have e1:a2d ((lvE (pAt mo.procs q) k).map (V0 (X2 mo.globals n)))=a2d (lvE (pAt mo.procs q) k):=by
   unfold a2d
   rw [List.all_map,List.length_map]
   rfl
  have e2:forkE ((lvE (pAt mo.procs q) k).map (V0 (X2 mo.globals n)))=forkE (lvE (pAt mo.procs q) k):=by
   unfold forkE
   rw [List.length_map]
   by_cases c:(lvE (pAt mo.procs q) k).length=2
   ·rw [a8v (by omega),a8v (by omega)]
    rfl
   ·simp [c]
  rw [e1,e2] at h2
  exact h2
theorem c25 (ho:N2 mo) (hC:MoC mo) {i:Nat} (h:mo.firstQ s=some i):mo.barred s i=false:=by
 cases hb:mo.barred s i
 ·rfl
 exfalso
 unfold Mo.firstQ at h
 have hqi:=List.find?_some h
 have hil:i<mo.procs.length:=List.mem_range.1 (List.mem_of_find?_eq_some h)
 obtain ⟨q,n,lo,e,hc⟩:=hC.tw i hil (b2K hb)
 subst e
 unfold Mo.barred at hb
 simp only [Bool.and_eq_true,decide_eq_true_eq,Nat.add_sub_cancel] at hb
 rw [hb.1.2] at hqi
 have hq0:=b7y ho hc hqi
 rw [List.find?_eq_some_iff_getElem] at h
 obtain ⟨_,j,hj,ej,hn⟩:=h
 rw [List.getElem_range] at ej
 have:=hn q (by omega)
 rw [List.getElem_range,hb.2,hq0] at this
 cases this
theorem b2U (ho:N2 mo) (hC:MoC mo) {i:Nat} (hh:s.hold<0) (h:mo.firstQ s=some i) {v:Mv} (hv:v∈mo.ample s):mo.freeM s v=true:=by
 unfold Mo.ample at hv
 rw [if_pos hh,h] at hv
 have:=(List.mem_filter.1 hv).2
 simp only [Bool.and_eq_true,decide_eq_true_eq] at this
 unfold Mo.freeM
 rw [this.2,c25 ho hC h]
 simp
theorem b2l (ho:N2 mo) (hq:MoQ mo) (hs:a7x mo) (hC:MoC mo) (am:Bool) (hI:a1g mo s) (hF:a2a mo s) (h:mo.moves s≠[]):mo.someM am s≠[]:=by
 have all:mo.moves s=(if am then mo.ample s else mo.moves s)->mo.someM am s≠[]:=fun e=>by
  obtain ⟨v,a,b⟩:=c7S ho hq hC hI.fit hF h
  exact List.ne_nil_of_mem (List.mem_filter.2 ⟨by rw [<- e];exact a,b⟩)
 cases am
 ·exact all rfl
 by_cases hh:s.hold<0
 rotate_left
 ·exact all (by unfold Mo.ample;rw [if_neg hh];rfl)
 cases hF':mo.firstQ s with
 | none=>exact all (by unfold Mo.ample;rw [if_pos hh,hF'];rfl)
 | some i =>
   have hqi:mo.quiet i (nAt s.at' i)=true:=by
    have:=List.find?_some hF'
    exact this
   have hQ:=b1j ho hqi
   obtain ⟨e,he,hk,hc⟩:=hs i s hqi
   obtain ⟨v,v1,v2,v3,_⟩:=a8x hQ.lt he hc (by omega)
   have hv:v∈mo.ample s:=by
    unfold Mo.ample
    rw [if_pos hh,hF']
    exact List.mem_filter.2 ⟨v1,by simp [v2,v3]⟩
   exact List.ne_nil_of_mem (List.mem_filter.2 ⟨hv,b2U ho hC hh hF' hv⟩)
end Go.V
namespace Go.V
end Go.V
namespace Go.Proofs.YtnjlhebkhjcagaaGreat
open Go.V
set_option maxRecDepth 100000
set_option maxHeartbeats 4000000
variable {m:MdX} {mo:Mo} {ps:List (Pr×PrD)} {x:StD} {st:Stt}
theorem b0O (hm:MoF m mo ps) (ho:N2 mo) (hf:W4 mo) (hx:X4 mo x st) {v:Mv} (hv:mo.mvOk st v):∃x',Eqc vfs 22 [.agg [m.dt,.int .i64 m.g,m.dc,m.dv,m.dp,m.ds,.bool m.b],.agg [x.da,x.dv,x.dc,.int .i64 st.hold],.agg [.int .i64 (v.kind:Int),.int .i64 (v.proc:Int),.int .i64 (v.edge:Int),.int .i64 (v.chan:Int)]] (.agg [x'.da,x'.dv,x'.dc,.int .i64 (mo.doS st v).hold])/\X4 mo x' (mo.doS st v):=by
 obtain ⟨d,s',h1,cs,rfl,h2⟩:=c23 hm ho hf hx hv
 obtain ⟨x',h4,h5⟩:=h2.frz
 have hfit:=b3O ho hf hx.fit hv
 exact ⟨x',S4 ⟨_,_,h1,h4⟩,h5,a2v hf hfit,hfit⟩
theorem b1L (hm:MoF m mo ps) (ho:N2 mo) (hf:W4 mo):∃x,Eqc vfs 31 [.agg [m.dt,.int .i64 m.g,m.dc,m.dv,m.dp,m.ds,.bool m.b]] (.agg [x.da,x.dv,x.dc,.int .i64 mo.fst.hold])/\X4 mo x mo.fst:=by
 obtain ⟨d,s',h1,⟨dA,dV,dC,EA,EV,EC,rfl,hA,hV,hC,hp,hw⟩,fr⟩:=b7l (s:=k4.empty) hm ho
 have hs:a1C s' [dA,dV,dC,.int .i64 (-1)] mo.fst:=by
  refine ⟨dA,dV,dC,List.replicate mo.chans.length .nils,rfl,hA.sn fun e he=>hp.w e (by simp [he]),hV.sn fun e he=>hp.w e (by simp [he]),?_,?_,by simp [Mo.fst],fun j h h'=>.inl ⟨by simp,by simp [Mo.fst]⟩⟩
  ·have:=hC.sn fun e he=>hp.w e (by simp [he])
   unfold a1q at this
   simpa using this
  ·rcases hC with ⟨_,e,_⟩ | ⟨id,e,_⟩
   ·left
    have:=congrArg List.length e
    unfold a1q at this
    simp at this
    simp [this]
   ·right
    unfold a1q at e
    exact ⟨id,by simpa using e⟩
 obtain ⟨x,h4,h5⟩:=hs.frz
 have hfit:=b3M ho hf
 exact ⟨x,S4 ⟨_,_,h1,h4⟩,h5,a2v hf hfit,hfit⟩
end Go.Proofs.YtnjlhebkhjcagaaGreat
namespace Go.V
variable {mo:Mo} {s:Stt}
def a6Q (mo:Mo) (s:Stt):Prop:=∀p,p<mo.procs.length->0<(pAt mo.procs p).copy->a1B (pAt mo.procs p)=true->nAt s.at' (p-1)=0->nAt s.at' p=0
theorem c5T:a6Q mo mo.fst:=fun p _ _ _ _=>by simp only [Mo.fst];exact b7d
theorem a6Q.step (hC:MoC mo) (hI:Fit mo s) (hO:a6Q mo s) {am:Bool} {v:Mv} (hv:v∈mo.someM am s):a6Q mo (mo.doS s v):=by
 have hm:=a3e hv
 have hfree:mo.freeM s v=true:=by unfold Mo.someM at hv;exact (List.mem_filter.1 hv).2
 rcases a1I.1 hm with ⟨k0,_,hp,he,_,_⟩ | ⟨_,_,c⟩
 ·have hd:mo.doS s v=mo.doE s v.proc (pAt mo.procs v.proc) (eAt (pAt mo.procs v.proc).edges v.edge):=by
   unfold Mo.doS;rw [if_neg (by omega),if_neg (by omega)]
  have hem:=a1E he
  have hl:=hI.at'
  have hat:(mo.doS s v).at'=s.at'.set v.proc (eAt (pAt mo.procs v.proc).edges v.edge).to:=by rw [hd];exact b2G
  intro p hpl hc hb h0
  obtain ⟨q,n,lo,rfl,hcop⟩:=hC.tw p hpl hc
  rw [hat,a4t (by omega)] at h0 ⊢
  simp only [Nat.add_sub_cancel] at h0
  have hb0:=hb
  rw [b5c hcop] at hb0
  by_cases c:q=v.proc
  ·exfalso
   rw [if_pos c] at h0
   rw [c] at hb0
   unfold a1B at hb0
   have:=List.all_eq_true.1 hb0 _ hem
   simp [h0] at this
  ·rw [if_neg c] at h0
   have h1:=hO (q+1) hpl hc hb (by simpa using h0)
   by_cases c1:q+1=v.proc
   ·exfalso
    unfold Mo.freeM at hfree
    have:mo.barred s v.proc=true:=by
     rw [<- c1]
     unfold Mo.barred
     simp [hc,hb,h1,h0]
    rw [this,k0] at hfree
    simp at hfree
   ·rw [if_neg c1];exact h1
 ·have hk:=a3S c
  have e1:(mo.doS s v).at'=s.at':=by
   unfold Mo.doS
   split
   ·rfl
   ·rw [if_pos (by omega)]
  intro p hpl hc hb h0
  rw [e1] at h0 ⊢
  exact hO p hpl hc hb h0
structure a31 (mo:Mo) (s:Stt):Prop where
 inv:a1g mo s
 un:a2a mo s
 ord:a6Q mo s
theorem b6h (ho:N2 mo) (hf:W4 mo):a31 mo mo.fst:=⟨b1D ho hf,b5q ho,c5T⟩
theorem a31.step (ho:N2 mo) (hf:W4 mo) (hq:MoQ mo) (hC:MoC mo) (h:a31 mo s) {am:Bool} {v:Mv} (hv:v∈mo.someM am s):a31 mo (mo.doS s v) :=
 ⟨h.inv.step ho hf (a3e hv),h.un.step ho hq h.inv.fit (a3e hv),h.ord.step hC h.inv.fit hv⟩
end Go.V
namespace Go.Proofs.YtnjlhebkhjcagaaGreat
open Go.V
set_option maxRecDepth 100000
set_option maxHeartbeats 4000000
variable {m:MdX} {mo:Mo} {ps:List (Pr×PrD)} {x:StD} {st:Stt}
theorem b4T {p:Pr}:a1B p=true↔∀j,j<p.edges.length->(eAt p.edges j).to≠0:=by
 unfold a1B
 rw [List.all_eq_true]
 constructor
 ·intro h j hj
  simpa using h _ (a1E hj)
 ·intro h e he
  obtain ⟨j,hj,rfl⟩:=List.getElem_of_mem he
  have:=h j hj
  rw [a2b hj] at this
  simpa using this
theorem c21 {p:Pr} {j:Nat} (hj:j<p.edges.length) (h:(eAt p.edges j).to=0):a1B p=false:=by
 cases hb:a1B p
 ·rfl
 ·exact absurd h (b4T.1 hb j hj)
theorem c3s (hm:MoF m mo ps) (ho:N2 mo) (hC:MoC mo) (hx:X4 mo x st) {p:Nat} (hp:p<mo.procs.length):Eqc vfs 52 [.agg [m.dt,.int .i64 m.g,m.dc,m.dv,m.dp,m.ds,.bool m.b],.agg [x.da,x.dv,x.dc,.int .i64 st.hold],.int .i64 (p:Int)] (.bool (mo.barred st p)):=by
 have om:=hm.ones
 have ox:=hx.f.ones
 have hxa:=hx.f.a
 have hnp:=ho.np
 have hal:=hx.fit.at'
 have hel:=(ho.pr _ (V1 hp)).el
 have hp1:p<st.at'.length:=by omega
 have hp2:p-1<st.at'.length:=by omega
 refine S4 ?_
 by_cases c1:(pAt mo.procs p).copy=0
 ·have e:mo.barred st p=false:=by unfold Mo.barred;rw [decide_eq_false (by omega)];rfl
  rw [e]
  refine O7 (vf:=a3x) rfl ?_
  unfold a3x;refine zF ?_
  exact zZ (aN om (aN ox (aN hp c1)))
 have c1':¬ ((pAt mo.procs p).copy:Int)<=0:=by omega
 obtain ⟨q,n,lo,hpq,_⟩:=hC.tw p hp (by omega)
 have c2:¬ (p:Int)=0:=by omega
 have e2:IntKind.i64.wrap ((p:Int)-1)=((p-1:Nat):Int):=by rw [P0 (by omega) (by omega)];omega
 by_cases c3:nAt st.at' p=0
 rotate_left
 ·have c3':¬ (nAt st.at' p:Int)=0:=by omega
  have e:mo.barred st p=false:=by unfold Mo.barred;rw [decide_eq_false c3];simp
  rw [e]
  refine O7 (vf:=a3x) rfl ?_
  unfold a3x;refine zF ?_
  exact zZ (aN om (aN ox (aN hp (aN c1' (aN c2 (aN hp1 c3'))))))
 by_cases c4:nAt st.at' (p-1)=0
 rotate_left
 ·have c4':¬ (nAt st.at' (p-1):Int)=0:=by omega
  have e:mo.barred st p=false:=by unfold Mo.barred;rw [decide_eq_false c4];simp
  rw [e]
  refine O7 (vf:=a3x) rfl ?_
  unfold a3x;refine zF ?_
  exact zZ (aN om (aN ox (aN hp (aN c1' (aN c2 (aN hp1 (aN hp2 (aN c3 (aN e2 c4')))))))))
 have e:mo.barred st p=a1B (pAt mo.procs p):=by
  unfold Mo.barred
  rw [decide_eq_true c3,decide_eq_true c4,decide_eq_true (by omega)]
  simp
 rw [e]
 refine O7 (vf:=a3x) rfl ?_
 unfold a3x;refine zF ?_
 refine zY (aN om (aN ox (aN hp (aN c1' (aN c2 (aN hp1 (aN hp2 (aN c3 (aN e2 c4))))))))) ?_
 refine S2 [0,1,2,3,4,7,38,40,41] 0 (pAt mo.procs p).edges.length (fun j f s=>f 42=.int .i64 (j:Int)/\∀i,i<j->(eAt (pAt mo.procs p).edges i).to≠0) (.mk rfl) (by omega) ⟨rfl,fun i h=>by omega⟩ ?_
 rintro j f s hj ⟨hE,hall⟩
 by_cases cj:j<(pAt mo.procs p).edges.length
 rotate_left
 ·have:=b4T.2 fun i hi=>hall i (by omega)
  rw [this]
  exact zZ (aN hE cj)
 by_cases c5:(eAt (pAt mo.procs p).edges j).to=0
 ·rw [c21 cj c5]
  exact zZ (aN hE (aN cj c5))
 ·have c5':¬ ((eAt (pAt mo.procs p).edges j).to:Int)=0:=by omega
  refine zY (aN hE (aN cj c5')) ?_
  intro i hi
  by_cases eq:i=j
  ·subst eq;exact c5
  ·exact hall i (by omega)
theorem c4A (hm:MoF m mo ps) (ho:N2 mo) (hf:W4 mo) (hx:X4 mo x st):Eqc vfs 51 [.agg [m.dt,.int .i64 m.g,m.dc,m.dv,m.dp,m.ds,.bool m.b],.agg [x.da,x.dv,x.dc,.int .i64 st.hold]] (.bool true):=by
 have h:=b09 hm ho hf (a8I ho hx)
 rw [decide_eq_true hx.fit.hold] at h
 exact h
end Go.Proofs.YtnjlhebkhjcagaaGreat
namespace Go.Proofs.YtnjlhebkhjcagaaGreat
open Go.V
set_option maxRecDepth 100000
set_option maxHeartbeats 4000000
variable {m:MdX} {mo:Mo} {ps:List (Pr×PrD)} {x:StD} {st:Stt}
theorem b6C (n:Nat):a1G [.int .i64 0] n=O6 (List.replicate n 0):=by
 induction n with
 | zero=>rfl
 | succ n ih=>simp only [a1G,ih,List.replicate_succ,O6,List.map_cons];rfl
def a3O (mo:Mo) (am al:Bool) (st:Stt):List Mv:=if al then mo.someM am st else if am then mo.ample st else mo.moves st
theorem b47 (ho:N2 mo):(mo.ample st).length<=1000000:=by
 have:=a3P ho (st:=st)
 refine Nat.le_trans (m:=(mo.moves st).length) ?_ (by omega)
 rcases b33 mo st with e | ⟨i,_,_,_,e⟩
 ·rw [e];exact Nat.le_refl _
 ·rw [e];exact List.length_filter_le _ _
theorem b8X (hm:MoF m mo ps) (ho:N2 mo) (hf:W4 mo) (hq:MoQ mo) (hC:MoC mo) (hx:X4 mo x st) (am al:Bool):a4R vfs 27 [.agg [m.dt,.int .i64 m.g,m.dc,m.dv,m.dp,m.ds,.bool m.b],.agg [x.da,x.dv,x.dc,.int .i64 st.hold],.bool am,.bool al] fun d=>FL 4 d (V2 (a3O mo am al st)):=by
 have om:=hm.ones
 have ox:=hx.f.ones
 have fm:=a07 hm
 have fx:=a0n hx.f
 have hnp:=ho.np
 have hfb:=c4A hm ho hf hx
 obtain ⟨da,ha1,ha2⟩:=b9K hm ho hf hq hx
 obtain ⟨dm,hm1,hm2⟩:=b6v hm ho hf hx
 have pa:=FL.pz ha2
 have pm:=FL.pz hm2
 have la:=b47 ho (st:=st)
 have lm:=a3P ho (st:=st)
 cases al
 ·cases am
  ·refine a2Z (vf:=a3A) rfl ?_
   unfold a3A;refine zF ?_
   refine zY (aN om (aN ox (aN fm (aN fx (aN hfb (aN hm1 pm)))))) ?_
   exact ⟨_,rfl,hm2⟩
  ·refine a2Z (vf:=a3A) rfl ?_
   unfold a3A;refine zF ?_
   refine zY (aN om (aN ox (aN fm (aN fx (aN hfb (aN ha1 pa)))))) ?_
   exact ⟨_,rfl,ha2⟩
 have hp0:Hp ((k4.empty.push (.cells [m.dt,.int .i64 m.g,m.dc,m.dv,m.dp,m.ds,.bool m.b])).push (.cells [x.da,x.dv,x.dc,.int .i64 st.hold])) [] [(0,[m.dt,.int .i64 m.g,m.dc,m.dv,m.dp,m.ds,.bool m.b]),(1,[x.da,x.dv,x.dc,.int .i64 st.hold])]:=⟨List.nodup_nil,by simp,by simp [Has],by
  intro y hy
  simp only [List.mem_cons,List.not_mem_nil,or_false] at hy
  rcases hy with rfl | rfl
  ·exact zZ0
  ·simp (disch:=(first|exact Rf.mk rfl|with_reducible assumption|omega|((repeat (first|rw [nP]|rw [nS]|rw [M3]))<;>omega)|decide)) only [go_sem,↓reduceIte]⟩
 have hbr:∀p,p<mo.procs.length->Eqc vfs 52 [.agg [m.dt,.int .i64 m.g,m.dc,m.dv,m.dp,m.ds,.bool m.b],.agg [x.da,x.dv,x.dc,.int .i64 st.hold],.int .i64 (p:Int)] (.bool (mo.barred st p)):=fun p hp=>c3s hm ho hC hx hp
 have hms:8*(mo.procs.length:Int)<=2 ^ 47/\(mo.procs.length:Int)<2 ^ 62:=⟨by omega,by omega⟩
 cases am
 ·refine a2Z (vf:=a3A) rfl ?_
  unfold a3A;refine zF ?_
  refine zY (aN om (aN ox (aN fm (aN fx (aN hfb (aN hm1 hms)))))) ?_
  have hp1:Hp (((k4.empty.push (.cells [m.dt,.int .i64 m.g,m.dc,m.dv,m.dp,m.ds,.bool m.b])).push (.cells [x.da,x.dv,x.dc,.int .i64 st.hold])).push (.cells (a1G [.int .i64 0] mo.procs.length))) [(2,O6 (List.replicate mo.procs.length 0))] [(0,[m.dt,.int .i64 m.g,m.dc,m.dv,m.dp,m.ds,.bool m.b]),(1,[x.da,x.dv,x.dc,.int .i64 st.hold])]:=by
   rw [b6C]
   exact hp0.pushW _
  generalize ((k4.empty.push (.cells [m.dt,.int .i64 m.g,m.dc,m.dv,m.dp,m.ds,.bool m.b])).push (.cells [x.da,x.dv,x.dc,.int .i64 st.hold])).push (.cells (a1G [.int .i64 0] mo.procs.length))=s0 at *
  clear hp0
  refine a1d [0,1,2,3,4,5,8,9,10,12,14,18,19,27,35,47,48,49,50,63] (fun f s=>∃h,h.length=mo.procs.length/\(∀j,j<mo.procs.length->zAt h j=if mo.barred st j=true then 1 else 0)/\Hp s [(2,O6 h)] [(0,[m.dt,.int .i64 m.g,m.dc,m.dv,m.dp,m.ds,.bool m.b]),(1,[x.da,x.dv,x.dc,.int .i64 st.hold])]) ?_ ?_
  ·refine S2 [0,1,2,3,4,5,8,9,10,12,14,18,19,27,35,47,48,49,50,63] 0 mo.procs.length (fun i f s=>f 36=.int .i64 (i:Int)/\∃h,h.length=mo.procs.length/\(∀j,j<mo.procs.length->zAt h j=if j<i/\mo.barred st j=true then 1 else 0)/\Hp s [(2,O6 h)] [(0,[m.dt,.int .i64 m.g,m.dc,m.dv,m.dp,m.ds,.bool m.b]),(1,[x.da,x.dv,x.dc,.int .i64 st.hold])]) (.mk rfl) (by omega) ⟨rfl,List.replicate mo.procs.length 0,by simp,fun j hj=>by rw [if_neg (by omega)];simp [zAt,hj],hp1⟩ ?_
   rintro i f s hi ⟨hE,h,hl,hz,hp⟩
   have g0:s.get 0=some (.cells [m.dt,.int .i64 m.g,m.dc,m.dv,m.dp,m.ds,.bool m.b]):=hp.r (0,_) (by simp)
   have g1:=hp.rt.rh
   have g2:=hp.hd
   by_cases ci:i<mo.procs.length
   rotate_left
   ·refine zY (aN hE ci) ?_
    exact ⟨h,hl,fun j hj=>by rw [hz j hj];simp [show j<i by omega],hp⟩
   have ci':i<h.length:=by omega
   have hb:=hbr i ci
   cases hbi:mo.barred st i
   ·rw [hbi] at hb
    refine zY (aN hE (aN ci (aN g0 (aN g1 (aN om (aN ox (aN fm (aN fx hb)))))))) ?_
    refine ⟨h,hl,fun j hj=>?_,hp⟩
    rw [hz j hj]
    by_cases e:j=i
    ·subst e;simp [hbi]
    ·simp [show (j<i+1)=(j<i) by apply propext;omega]
   ·rw [hbi] at hb
    refine zY (aN hE (aN ci (aN g0 (aN g1 (aN om (aN ox (aN fm (aN fx (aN hb (aN g2 ci')))))))))) ?_
    refine ⟨h.set i 1,by simp [hl],fun j hj=>?_,Hp.set (A:=[]) hp _⟩
    rw [a5v ci',hz j hj]
    by_cases e:j=i
    ·subst e;simp [hbi]
    ·rw [if_neg e];simp [show (j<i+1)=(j<i) by apply propext;omega]
  rintro f s ⟨h,hl,hz,hp⟩
  refine zY hm2 ?_
  refine S2 [0,1,2,3,4,5,8,9,10,11,18,19,27,35,36,37,42,47,48] 0 (mo.moves st).length (fun j f s=>f 49=.int .i64 (j:Int)/\∃E,Rp (f 12) 4 (V2 (((mo.moves st).take j).filter (mo.freeM st))) E/\Hp s (E++[(2,O6 h)]) [(0,[m.dt,.int .i64 m.g,m.dc,m.dv,m.dp,m.ds,.bool m.b]),(1,[x.da,x.dv,x.dc,.int .i64 st.hold])]) (.mk rfl) (by omega) ⟨rfl,[],.inl ⟨rfl,rfl,rfl⟩,hp⟩ ?_
  rintro j f s hj ⟨hE,E,hr,hp⟩
  by_cases cj:j<(mo.moves st).length
  rotate_left
  ·obtain rfl:j=(mo.moves st).length:=by omega
   rw [List.take_length] at hr
   obtain ⟨d',h1,h2⟩:=a3B hr hp (fun e h=>by simp [h]) (a20 _) (a4S _)
   refine zY (aN hE (aN cj h1)) ?_
   exact ⟨_,rfl,h2⟩
  have hp2:=hp.fr (a14 (z:=.cells [.int .i64 0,.int .i64 0,.int .i64 0,.int .i64 0]) (o:=.cells [.int .i64 ((O4 (mo.moves st) j).kind:Int),.int .i64 ((O4 (mo.moves st) j).proc:Int),.int .i64 ((O4 (mo.moves st) j).edge:Int),.int .i64 ((O4 (mo.moves st) j).chan:Int)]))
  have hsu:=b16 (P:=mo.freeM st) cj
  have gh:s.get 2=some (.cells (O6 h)):=hp.w (2,O6 h) (by simp)
  have lh:=M7 gh
  by_cases k0:(O4 (mo.moves st) j).kind=0
  rotate_left
  ·have k0':¬ ((O4 (mo.moves st) j).kind:Int)=0:=by omega
   have:mo.freeM st (O4 (mo.moves st) j)=true:=by unfold Mo.freeM;rw [decide_eq_false k0];rfl
   rw [if_pos this] at hsu
   refine zY (aN hE (aN cj (aN hm2 k0'))) ?_
   refine a5I (A:=[]) (B:=[(2,O6 h)]) hr (by simpa using hp2) rfl (a20 _) (by decide) (by have:=a5X (l:=(mo.moves st)) (P:=mo.freeM st) (j:=j);simp;omega) ?_
   rintro d1 s1 E1 hr1 hp1 hn1
   refine zY (aN hE cj) ?_
   rw [hsu]
   exact ⟨E1,by simpa [V2,Mv.row] using hr1,by simpa using hp1⟩
  have k0':((O4 (mo.moves st) j).kind:Int)=0:=by omega
  have hpr:(O4 (mo.moves st) j).proc<h.length:=by
   have hv:O4 (mo.moves st) j∈mo.moves st:=a45 cj
   rcases a1I.1 hv with ⟨_,_,y,_⟩ | ⟨_,_,y⟩
   ·omega
   ·have:=a3S y;omega
  have hzp:=hz _ (show (O4 (mo.moves st) j).proc<mo.procs.length by omega)
  cases hbp:mo.barred st (O4 (mo.moves st) j).proc
  ·have:mo.freeM st (O4 (mo.moves st) j)=true:=by unfold Mo.freeM;rw [hbp,Bool.and_false];rfl
   rw [if_pos this] at hsu
   rw [hbp,if_neg (by simp)] at hzp
   refine zY (aN hE (aN cj (aN hm2 (aN k0' (aN gh (aN hpr hzp)))))) ?_
   refine a5I (A:=[]) (B:=[(2,O6 h)]) hr (by simpa [k0'] using hp2) rfl (a20 _) (by decide) (by have:=a5X (l:=(mo.moves st)) (P:=mo.freeM st) (j:=j);simp;omega) ?_
   rintro d1 s1 E1 hr1 hp1 hn1
   refine zY (aN hE cj) ?_
   rw [hsu]
   exact ⟨E1,by simpa [V2,Mv.row,k0'] using hr1,by simpa using hp1⟩
  ·have:mo.freeM st (O4 (mo.moves st) j)=false:=by unfold Mo.freeM;rw [hbp,decide_eq_true k0];rfl
   rw [if_neg (by rw [this];simp),List.append_nil] at hsu
   rw [hbp,if_pos rfl] at hzp
   refine zY (aN hE (aN cj (aN hm2 (aN k0' (aN gh (aN hpr hzp)))))) ?_
   rw [hsu]
   exact ⟨E,hr,by simpa [k0'] using hp2⟩
 ·refine a2Z (vf:=a3A) rfl ?_
  unfold a3A;refine zF ?_
  refine zY (aN om (aN ox (aN fm (aN fx (aN hfb (aN ha1 hms)))))) ?_
  have hp1:Hp (((k4.empty.push (.cells [m.dt,.int .i64 m.g,m.dc,m.dv,m.dp,m.ds,.bool m.b])).push (.cells [x.da,x.dv,x.dc,.int .i64 st.hold])).push (.cells (a1G [.int .i64 0] mo.procs.length))) [(2,O6 (List.replicate mo.procs.length 0))] [(0,[m.dt,.int .i64 m.g,m.dc,m.dv,m.dp,m.ds,.bool m.b]),(1,[x.da,x.dv,x.dc,.int .i64 st.hold])]:=by
   rw [b6C]
   exact hp0.pushW _
  generalize ((k4.empty.push (.cells [m.dt,.int .i64 m.g,m.dc,m.dv,m.dp,m.ds,.bool m.b])).push (.cells [x.da,x.dv,x.dc,.int .i64 st.hold])).push (.cells (a1G [.int .i64 0] mo.procs.length))=s0 at *
  clear hp0
  refine a1d [0,1,2,3,4,5,8,9,10,12,14,18,19,27,35,47,48,49,50,63] (fun f s=>∃h,h.length=mo.procs.length/\(∀j,j<mo.procs.length->zAt h j=if mo.barred st j=true then 1 else 0)/\Hp s [(2,O6 h)] [(0,[m.dt,.int .i64 m.g,m.dc,m.dv,m.dp,m.ds,.bool m.b]),(1,[x.da,x.dv,x.dc,.int .i64 st.hold])]) ?_ ?_
  ·refine S2 [0,1,2,3,4,5,8,9,10,12,14,18,19,27,35,47,48,49,50,63] 0 mo.procs.length (fun i f s=>f 36=.int .i64 (i:Int)/\∃h,h.length=mo.procs.length/\(∀j,j<mo.procs.length->zAt h j=if j<i/\mo.barred st j=true then 1 else 0)/\Hp s [(2,O6 h)] [(0,[m.dt,.int .i64 m.g,m.dc,m.dv,m.dp,m.ds,.bool m.b]),(1,[x.da,x.dv,x.dc,.int .i64 st.hold])]) (.mk rfl) (by omega) ⟨rfl,List.replicate mo.procs.length 0,by simp,fun j hj=>by rw [if_neg (by omega)];simp [zAt,hj],hp1⟩ ?_
   rintro i f s hi ⟨hE,h,hl,hz,hp⟩
   have g0:s.get 0=some (.cells [m.dt,.int .i64 m.g,m.dc,m.dv,m.dp,m.ds,.bool m.b]):=hp.r (0,_) (by simp)
   have g1:=hp.rt.rh
   have g2:=hp.hd
   by_cases ci:i<mo.procs.length
   rotate_left
   ·refine zY (aN hE ci) ?_
    exact ⟨h,hl,fun j hj=>by rw [hz j hj];simp [show j<i by omega],hp⟩
   have ci':i<h.length:=by omega
   have hb:=hbr i ci
   cases hbi:mo.barred st i
   ·rw [hbi] at hb
    refine zY (aN hE (aN ci (aN g0 (aN g1 (aN om (aN ox (aN fm (aN fx hb)))))))) ?_
    refine ⟨h,hl,fun j hj=>?_,hp⟩
    rw [hz j hj]
    by_cases e:j=i
    ·subst e;simp [hbi]
    ·simp [show (j<i+1)=(j<i) by apply propext;omega]
   ·rw [hbi] at hb
    refine zY (aN hE (aN ci (aN g0 (aN g1 (aN om (aN ox (aN fm (aN fx (aN hb (aN g2 ci')))))))))) ?_
    refine ⟨h.set i 1,by simp [hl],fun j hj=>?_,Hp.set (A:=[]) hp _⟩
    rw [a5v ci',hz j hj]
    by_cases e:j=i
    ·subst e;simp [hbi]
    ·rw [if_neg e];simp [show (j<i+1)=(j<i) by apply propext;omega]
  rintro f s ⟨h,hl,hz,hp⟩
  refine zY ha2 ?_
  refine S2 [0,1,2,3,4,5,8,9,10,11,18,19,27,35,36,37,42,47,48] 0 (mo.ample st).length (fun j f s=>f 49=.int .i64 (j:Int)/\∃E,Rp (f 12) 4 (V2 (((mo.ample st).take j).filter (mo.freeM st))) E/\Hp s (E++[(2,O6 h)]) [(0,[m.dt,.int .i64 m.g,m.dc,m.dv,m.dp,m.ds,.bool m.b]),(1,[x.da,x.dv,x.dc,.int .i64 st.hold])]) (.mk rfl) (by omega) ⟨rfl,[],.inl ⟨rfl,rfl,rfl⟩,hp⟩ ?_
  rintro j f s hj ⟨hE,E,hr,hp⟩
  by_cases cj:j<(mo.ample st).length
  rotate_left
  ·obtain rfl:j=(mo.ample st).length:=by omega
   rw [List.take_length] at hr
   obtain ⟨d',h1,h2⟩:=a3B hr hp (fun e h=>by simp [h]) (a20 _) (a4S _)
   refine zY (aN hE (aN cj h1)) ?_
   exact ⟨_,rfl,h2⟩
  have hp2:=hp.fr (a14 (z:=.cells [.int .i64 0,.int .i64 0,.int .i64 0,.int .i64 0]) (o:=.cells [.int .i64 ((O4 (mo.ample st) j).kind:Int),.int .i64 ((O4 (mo.ample st) j).proc:Int),.int .i64 ((O4 (mo.ample st) j).edge:Int),.int .i64 ((O4 (mo.ample st) j).chan:Int)]))
  have hsu:=b16 (P:=mo.freeM st) cj
  have gh:s.get 2=some (.cells (O6 h)):=hp.w (2,O6 h) (by simp)
  have lh:=M7 gh
  by_cases k0:(O4 (mo.ample st) j).kind=0
  rotate_left
  ·have k0':¬ ((O4 (mo.ample st) j).kind:Int)=0:=by omega
   have:mo.freeM st (O4 (mo.ample st) j)=true:=by unfold Mo.freeM;rw [decide_eq_false k0];rfl
   rw [if_pos this] at hsu
   refine zY (aN hE (aN cj (aN ha2 k0'))) ?_
   refine a5I (A:=[]) (B:=[(2,O6 h)]) hr (by simpa using hp2) rfl (a20 _) (by decide) (by have:=a5X (l:=(mo.ample st)) (P:=mo.freeM st) (j:=j);simp;omega) ?_
   rintro d1 s1 E1 hr1 hp1 hn1
   refine zY (aN hE cj) ?_
   rw [hsu]
   exact ⟨E1,by simpa [V2,Mv.row] using hr1,by simpa using hp1⟩
  have k0':((O4 (mo.ample st) j).kind:Int)=0:=by omega
  have hpr:(O4 (mo.ample st) j).proc<h.length:=by
   have hv:O4 (mo.ample st) j∈mo.moves st:=a4B (a45 cj)
   rcases a1I.1 hv with ⟨_,_,y,_⟩ | ⟨_,_,y⟩
   ·omega
   ·have:=a3S y;omega
  have hzp:=hz _ (show (O4 (mo.ample st) j).proc<mo.procs.length by omega)
  cases hbp:mo.barred st (O4 (mo.ample st) j).proc
  ·have:mo.freeM st (O4 (mo.ample st) j)=true:=by unfold Mo.freeM;rw [hbp,Bool.and_false];rfl
   rw [if_pos this] at hsu
   rw [hbp,if_neg (by simp)] at hzp
   refine zY (aN hE (aN cj (aN ha2 (aN k0' (aN gh (aN hpr hzp)))))) ?_
   refine a5I (A:=[]) (B:=[(2,O6 h)]) hr (by simpa [k0'] using hp2) rfl (a20 _) (by decide) (by have:=a5X (l:=(mo.ample st)) (P:=mo.freeM st) (j:=j);simp;omega) ?_
   rintro d1 s1 E1 hr1 hp1 hn1
   refine zY (aN hE cj) ?_
   rw [hsu]
   exact ⟨E1,by simpa [V2,Mv.row,k0'] using hr1,by simpa using hp1⟩
  ·have:mo.freeM st (O4 (mo.ample st) j)=false:=by unfold Mo.freeM;rw [hbp,decide_eq_true k0];rfl
   rw [if_neg (by rw [this];simp),List.append_nil] at hsu
   rw [hbp,if_pos rfl] at hzp
   refine zY (aN hE (aN cj (aN ha2 (aN k0' (aN gh (aN hpr hzp)))))) ?_
   rw [hsu]
   exact ⟨E,hr,by simpa [k0'] using hp2⟩
end Go.Proofs.YtnjlhebkhjcagaaGreat
namespace Go.Proofs.YtnjlhebkhjcagaaGreat
open Go.V
set_option maxRecDepth 100000
set_option maxHeartbeats 4000000
variable {m:MdX} {mo:Mo} {ps:List (Pr×PrD)} {x:StD} {st:Stt}
theorem a8Z (hm:MoF m mo ps) (ho:N2 mo) (hf:W4 mo) (hq:MoQ mo) (hC:MoC mo) (hx:X4 mo x st) (am al:Bool):∃d,Eqc vfs 27 [.agg [m.dt,.int .i64 m.g,m.dc,m.dv,m.dp,m.ds,.bool m.b],.agg [x.da,x.dv,x.dc,.int .i64 st.hold],.bool am,.bool al] d/\FL 4 d (V2 (a3O mo am al st)):=by
 obtain ⟨d,h1,h2⟩:=b8X hm ho hf hq hC hx am al
 exact ⟨d,S4 h1,h2⟩
theorem b5N (ho:N2 mo) {am:Bool}:(mo.someM am st).length<=17000:=by
 have h2:=a3P ho (st:=st)
 have h3:(mo.ample st).length<=(mo.moves st).length:=by
  rcases b33 mo st with e | ⟨i,_,_,_,e⟩
  ·rw [e];exact Nat.le_refl _
  ·rw [e];exact List.length_filter_le _ _
 unfold Mo.someM
 cases am
 ·exact Nat.le_trans (List.length_filter_le _ _) (by simp;omega)
 ·exact Nat.le_trans (List.length_filter_le _ _) (by simp;omega)
end Go.Proofs.YtnjlhebkhjcagaaGreat
namespace Go.Proofs.YtnjlhebkhjcagaaGreat
open Go.V
set_option maxRecDepth 100000
set_option maxHeartbeats 4000000
variable {m:MdX} {mo:Mo} {ps:List (Pr×PrD)} {x:StD} {st:Stt}
theorem c3Y {d0 d1:D} {t:List Nd} {raw:List Int} (hT:O0 d0 t) (hd:FI d1 raw) (hraw:∀n∈raw,a0M n):EvP vfs 9 [d0,d1] k4.empty fun r _=>r=.bool true:=by
 have haw:Eqc vfs 25 [] (.bool true):=a2y a9h rfl
 have pT:PZ d0:=hT.fl.pz
 have pd:=a4p hd
 have oT:=FL.one hT.fl
 have od:=FL.one hd
 obtain ⟨d',h1,h2⟩:=b0Z hT
 by_cases hl:(30:Int)<(raw.length:Int)
 ·refine Y5 (vf:=vf9) rfl ?_
  unfold vf9;refine zF ?_
  refine zY (aN haw (aN hd hl)) ?_
  exact rfl
 rcases h2 with rfl | ⟨m,ps,rfl,hR,hS,hY,hm⟩
 ·refine Y5 (vf:=vf9) rfl ?_
  unfold vf9;refine zF ?_
  refine zY (aN haw (aN hd (aN hl (aN h1 pT)))) ?_
  exact rfl
 have ho:=b0g hR hS hY
 have hf:=b0j hR hY
 have hq:=a98 hR hS
 have hC:=b1S hR hS
 have hs:=b2F hR hS ho
 generalize U2 t=mo at *
 have om:=hm.ones
 have fm:=a07 hm
 have hnp:=ho.np
 obtain ⟨x0,hf0,hx0⟩:=b1L hm ho hf
 have ox0:=hx0.f.ones
 have fx0:=a0n hx0.f
 unfold N8 at h1
 refine Y5 (vf:=vf9) rfl ?_
 unfold vf9;refine zF ?_
 refine zY (aN haw (aN hd (aN hl (aN h1 (aN pT (aN om (aN fm (aN hf0 (aN ox0 fx0))))))))) ?_
 refine S2 [0,1,5,6,7,20,28] 0 raw.length (fun i f s=>f 8=.int .i64 (i:Int)/\s.get 0=some (.cells [m.dt,.int .i64 m.g,m.dc,m.dv,m.dp,m.ds,.bool m.b])/\∃x st,StF x st/\a31 mo st/\s.get 1=some (.cells [x.da,x.dv,x.dc,.int .i64 st.hold])) (.mk rfl) (by omega) ⟨rfl,?_,x0,mo.fst,hx0.f,b6h ho hf,?_⟩ ?_
 ·exact zZ0
 ·exact zZ0
 rintro i f s hi ⟨hE,g0,x,st,hxf,hal,g1⟩
 have l0:=M7 g0
 have l1:=M7 g1
 by_cases ci:i<raw.length
 rotate_left
 ·refine zY (aN hE (aN ci hd)) ?_
  exact rfl
 have hx:X4 mo x st:=⟨hxf,a2v hf hal.inv.fit,hal.inv.fit⟩
 have fx:=a0n hx.f
 have ox:=hx.f.ones
 obtain ⟨dm,hsm,hfl⟩:=a8Z hm ho hf hq hC hx false true
 have hfl:FL 4 dm (V2 (mo.someM false st)):=hfl
 obtain ⟨dn,hmv,hfn⟩:=a68 hm ho hx
 have hmv:=S4 hmv
 have hml:(mo.someM false st).length<=17000:=b5N ho
 by_cases c0:(mo.someM false st).length=0
 ·have c1:(mo.moves st).length=0:=by
   by_cases c:mo.moves st=[]
   ·rw [c];rfl
   ·exact absurd (List.length_eq_zero_iff.1 c0) (b2l ho hq hs hC false hal.inv hal.un c)
  refine zY (aN hE (aN ci (aN hd (aN g0 (aN g1 (aN om (aN ox (aN fm (aN fx (aN hsm (aN hfl (aN hmv (aN hfn (aN c0 c1)))))))))))))) ?_
  exact rfl
 have hin:a0M (zAt raw i):=hraw _ (a4k ci)
 obtain ⟨κ,hκ,hcs⟩:∃κ:Nat,κ<(mo.someM false st).length/\(((zAt raw i).tmod ((mo.someM false st).length:Int)<0/\IntKind.i64.wrap ((zAt raw i).tmod ((mo.someM false st).length:Int)+((mo.someM false st).length:Int))=(κ:Int))∨(¬ (zAt raw i).tmod ((mo.someM false st).length:Int)<0/\(zAt raw i).tmod ((mo.someM false st).length:Int)=(κ:Int))):=by
  have b1:=Int.tmod_lt_of_pos (zAt raw i) (b:=((mo.someM false st).length:Int)) (by omega)
  have b2:-((mo.someM false st).length:Int)<(zAt raw i).tmod ((mo.someM false st).length:Int):=by
   by_cases s0:0<=zAt raw i
   ·have:=Int.tmod_nonneg ((mo.someM false st).length:Int) s0;omega
   ·have:=Int.tmod_lt_of_pos (-(zAt raw i)) (b:=((mo.someM false st).length:Int)) (by omega)
    rw [Int.neg_tmod] at this;omega
  generalize (zAt raw i).tmod ((mo.someM false st).length:Int)=z at *
  by_cases c:z<0
  ·exact ⟨(z+((mo.someM false st).length:Int)).toNat,by omega,.inl ⟨c,by rw [P0 (by omega) (by omega)];omega⟩⟩
  ·exact ⟨z.toNat,by omega,.inr ⟨c,by omega⟩⟩
 have hvm:=a45 hκ
 have pv:PZ (.agg [.int .i64 ((O4 (mo.someM false st) κ).kind:Int),.int .i64 ((O4 (mo.someM false st) κ).proc:Int),.int .i64 ((O4 (mo.someM false st) κ).edge:Int),.int .i64 ((O4 (mo.someM false st) κ).chan:Int)]):=b0N
 obtain ⟨y,hdo,hy⟩:=b0O hm ho hf hx (a7U (a3e hvm))
 have halt:=hal.step ho hf hq hC hvm
 generalize ht:mo.doS st (O4 (mo.someM false st) κ)=t at *
 have oy:=hy.f.ones
 have fy:=a0n hy.f
 rcases hcs with ⟨z1,z2⟩ | ⟨z1,z2⟩
 refine zY (aN hE (aN ci (aN hd (aN g0 (aN g1 (aN om (aN ox (aN fm (aN fx (aN hsm (aN hfl (aN c0 (aN z1 (aN z2 (aN hκ (aN pv (aN hdo oy))))))))))))))))) ?_
 rotate_left
 refine zY (aN hE (aN ci (aN hd (aN g0 (aN g1 (aN om (aN ox (aN fm (aN fx (aN hsm (aN hfl (aN c0 (aN z1 (aN z2 (aN hκ (aN pv (aN hdo oy))))))))))))))))) ?_
 all_goals
  have hyf:=hy.f
  have hya:=hyf.a
  have hyl:=hy.fit.at'
  have k0:(s.set 1 (some (.cells [y.da,y.dv,y.dc,.int .i64 t.hold]))).get 0=some (.cells [m.dt,.int .i64 m.g,m.dc,m.dv,m.dp,m.ds,.bool m.b]):=by rw [P1 (by omega),g0]
  have k1:(s.set 1 (some (.cells [y.da,y.dv,y.dc,.int .i64 t.hold]))).get 1=some (.cells [y.da,y.dv,y.dc,.int .i64 t.hold]):=S1 l1
  generalize s.set 1 (some (.cells [y.da,y.dv,y.dc,.int .i64 t.hold]))=s1 at *
  refine S2 [0,1,5,6,7,8,9,10,20,28,34,42,56] 1 (mo.procs.length+1) (fun p f s=>f 11=.int .i64 (p:Int)/\1<=p/\s=s1) (.mk rfl) (by omega) ⟨rfl,by omega,rfl⟩ ?_
  rintro p f s hp ⟨hP,hp1,rfl⟩
  by_cases cp:p<mo.procs.length
  rotate_left
  ·refine zY (aN hP (aN cp (aN k0 om))) ?_
   exact ⟨ci,y,t,hyf,halt,k1⟩
  have hel:=(ho.pr _ (V1 cp)).el
  have cp':p<t.at'.length:=by omega
  have cq':p-1<t.at'.length:=by omega
  have e2:IntKind.i64.wrap ((p:Int)-1)=((p-1:Nat):Int):=by rw [P0 (by omega) (by omega)];omega
  refine zY (aN hP (aN cp (aN k0 om))) ?_
  refine a1d [0,1,4,5,6,7,8,9,10,11,20,28,34,42,56,72,127] (fun f s'=>f 12=.bool (!a1B (pAt mo.procs p))/\s'=s) ?_ ?_
  ·refine S2 [0,1,4,5,6,7,8,9,10,11,20,28,34,42,56,72,127] 0 (pAt mo.procs p).edges.length (fun e f s'=>f 13=.int .i64 (e:Int)/\f 12=.bool (((pAt mo.procs p).edges.take e).any fun e=>decide (e.to=0))/\s'=s) (.mk rfl) (by omega) ⟨rfl,rfl,rfl⟩ ?_
   rintro e f s' he ⟨hI,hK,rfl⟩
   by_cases ce:e<(pAt mo.procs p).edges.length
   rotate_left
   ·obtain rfl:e=(pAt mo.procs p).edges.length:=by omega
    rw [List.take_length] at hK
    refine zY (aN hI (aN hK (aN ce (aN k0 (aN om cp))))) ?_
    unfold a1B
    rw [List.not_all_eq_any_not]
    congr 1
    funext e
    simp
   have hsu:(pAt mo.procs p).edges.take (e+1)=(pAt mo.procs p).edges.take e++[eAt (pAt mo.procs p).edges e]:=by rw [List.take_succ_eq_append_getElem ce,a2b ce]
   cases ca:((pAt mo.procs p).edges.take e).any fun e=>decide (e.to=0)
   ·rw [ca] at hK
    refine zY (aN hI (aN hK (aN ce (aN k0 (aN om cp))))) ?_
    rw [hsu,List.any_append,ca]
    simp
   ·rw [ca] at hK
    refine zY (aN hI (aN hK (aN ce (aN k0 (aN om cp))))) ?_
    rw [hsu,List.any_append,ca]
    simp
  rintro f s' ⟨hK,rfl⟩
  by_cases c1:(pAt mo.procs p).copy=0
  ·refine zY (aN hP (aN hK (aN cp (aN k0 (aN om c1))))) ?_
   trivial
  have c1':(0:Int)<((pAt mo.procs p).copy:Int):=by omega
  cases cb:a1B (pAt mo.procs p)
  ·rw [cb] at hK
   refine zY (aN hP (aN hK (aN cp (aN k0 (aN om c1'))))) ?_
   trivial
  rw [cb] at hK
  by_cases c3:nAt t.at' p=0
  ·refine zY (aN hP (aN hK (aN cp (aN k0 (aN k1 (aN om (aN oy (aN c1' (aN cp' c3))))))))) ?_
   trivial
  have c3':¬ (nAt t.at' p:Int)=0:=by omega
  have c4:nAt t.at' (p-1)≠0:=fun h=>c3 (halt.ord p cp (by omega) cb h)
  have c4':¬ (nAt t.at' (p-1):Int)=0:=by omega
  refine zY (aN hP (aN hK (aN cp (aN k0 (aN k1 (aN om (aN oy (aN c1' (aN cp' (aN cq' (aN c3' (aN c4' e2)))))))))))) ?_
  trivial
theorem c8C {d0 d1:D} (h0:a2e Ty.tree d0) (h1:a2e (.slice 1 (.int .i64)) d1):EvP vfs 9 [d0,d1] k4.empty fun r _=>r=.bool true:=by
 obtain ⟨t,hT⟩:=a9W h0
 obtain ⟨l,hl,hn,hi⟩:=b25 h1
 exact c3Y hT hl hi
end Go.Proofs.YtnjlhebkhjcagaaGreat
