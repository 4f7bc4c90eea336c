/- Texts one behind the other. -/
import Derived.Test.YtnjlhebkhjcagaaGreatZ5
import Derived.Test.YtnjlhebkhjcagaaGreatZ6
set_option linter.unusedSimpArgs false
set_option linter.unusedVariables false
namespace Go.Proofs.YtnjlhebkhjcagaaGreat
open Go.V
set_option maxRecDepth 100000
set_option maxHeartbeats 4000000
variable {m:MdX} {mo:Mo} {ps:List (Pr×PrD)} {x:StD} {st:Stt}
theorem a7P {x w:Int} (h1:-4294967296<=x) (h2:x<=4294967296) (h3:1<=w) (h4:w<=8):Eqc vfs 38 [.int .i64 x,.int .i64 w] (.int .i64 (N4 x w.toNat)):=a2w (a7t (x:=x) (n:=w) (w:=w.toNat) (by omega) ⟨by omega,by omega⟩) rfl
theorem c4G (hm:MoF m mo ps) (ho:N2 mo) (hf:W9 mo) (hx:X2 mo x st) {v:Mv} (hv:mo.mvOk st v):EvP vfs 22 [.agg [m.dt,.int .i64 m.g,m.dc,m.dv,m.dp,m.ds,.bool m.b],.agg [x.da,x.dv,x.dc,.int .i64 st.hold],.agg [.int .i64 (v.kind:Int),.int .i64 (v.proc:Int),.int .i64 (v.edge:Int),.int .i64 (v.chan:Int)]] k4.empty fun r s=>∃cs,r=.agg cs/\a1x s cs (mo.doS st v):=by
 have om:=hm.ones
 have ox:=hx.f.ones
 have fm:=a1b hm
 have fx:=a0n hx.f
 have hcl:=hx.fit.chans
 have hvl:=hx.fit.vars
 have hal:=hx.fit.at'
 have hnc:=ho.nc
 have hnv:=ho.nv
 have hnp:=ho.np
 refine Y7 (vf:=a9l) rfl ?_
 unfold a9l;refine zF ?_
 refine zY (aN om ox) ?_
 refine a2l (b8t hx.f (by omega) hx.e (by omega) (by omega)) (by simp (disch:=(first|exact Rf.mk rfl|with_reducible assumption|omega|((repeat (first|rw [nP]|rw [nS]|rw [M3]))<;>omega)|decide)) only [go_sem,↓reduceIte]) ?_
 rintro r s1 ⟨hm1,fr⟩
 obtain ⟨a,vv,dC,ids,rfl,H⟩:=hm1.open
 have l1:=fr.1
 simp only [k4.next_push,M3,Nat.reduceAdd] at H l1
 have g0:s1.get 0=some (.cells [m.dt,.int .i64 m.g,m.dc,m.dv,m.dp,m.ds,.bool m.b]):=by rw [fr.2 0 (by simp [M3]) (by simp)];simp (disch:=(first|exact Rf.mk rfl|with_reducible assumption|omega|((repeat (first|rw [nP]|rw [nS]|rw [M3]))<;>omega)|decide)) only [go_sem,↓reduceIte]
 have g1:s1.get 1=some (.cells [x.da,x.dv,x.dc,.int .i64 st.hold]):=by rw [fr.2 1 (by simp [M3]) (by simp)];simp (disch:=(first|exact Rf.mk rfl|with_reducible assumption|omega|((repeat (first|rw [nP]|rw [nS]|rw [M3]))<;>omega)|decide)) only [go_sem,↓reduceIte]
 have g2:s1.get 2=some (.cells [.int .i64 (v.kind:Int),.int .i64 (v.proc:Int),.int .i64 (v.edge:Int),.int .i64 (v.chan:Int)]):=by rw [fr.2 2 (by simp [M3]) (by simp)];simp (disch:=(first|exact Rf.mk rfl|with_reducible assumption|omega|((repeat (first|rw [nP]|rw [nS]|rw [M3]))<;>omega)|decide)) only [go_sem,↓reduceIte]
 have g3:s1.get 3=some (.cells [.nils,.nils,.nils,.int .i64 0]):=by rw [fr.2 3 (by simp [M3]) (by simp)];simp (disch:=(first|exact Rf.mk rfl|with_reducible assumption|omega|((repeat (first|rw [nP]|rw [nS]|rw [M3]))<;>omega)|decide)) only [go_sem,↓reduceIte]
 clear fr hm1
 have H':=H
 obtain ⟨hil,ga,gv,gc,gq,inj,av,na,nv⟩:=H'
 have oc:M9 dC=true:=by rcases gc with ⟨_,rfl⟩ | ⟨c,rfl,_⟩<;>rfl
 have la:=M7 ga
 have lv:=M7 gv
 rcases hv with ⟨hk,hp,he,hcan⟩ | ⟨hk,hc,hlen⟩ | ⟨hk,hc,hlen,hroom⟩
 ·have hpo:=ho.pr _ (V1 hp)
  have heo:=hpo.inv.ed _ (a1v he)
  have hel:=hpo.el
  have hpa:v.proc<st.at'.length:=by omega
  have hfit:=b6t ho hf (a0F.2 hx.fit) hp (a1v he) hcan
  have e:mo.doS st v=mo.doE st v.proc (pAt mo.procs v.proc) (eAt (pAt mo.procs v.proc).edges v.edge):=by unfold Mo.doS;rw [if_neg (by omega),if_neg (by omega)]
  rw [e]
  unfold Mo.doE
  generalize hE:eAt (pAt mo.procs v.proc).edges v.edge=E at *
  have h6:E.act=0∨E.act=1∨E.act=2∨E.act=3∨E.act=4∨E.act=5:=by have:=heo.act;omega
  have h6':E.act=0∨E.act=1∨E.act=2∨(E.act=3/\∃k:Nat,E.chan=(k:Int)/\1<(cAt st.chans k).length)∨(E.act=3/\∃k:Nat,E.chan=(k:Int)/\¬ 1<(cAt st.chans k).length)∨E.act=4∨E.act=5:=by
   by_cases h3:E.act=3
   ·obtain ⟨k,hk1,_⟩:=heo.c1 (by omega)
    by_cases l2:1<(cAt st.chans k).length
    ·exact .inr (.inr (.inr (.inl ⟨h3,k,hk1,l2⟩)))
    ·exact .inr (.inr (.inr (.inr (.inl ⟨h3,k,hk1,l2⟩))))
   ·omega
  clear h6
  rcases h6' with h6 | h6 | h6 | ⟨h6,k',hk',l2⟩ | ⟨h6,k',hk',l2⟩ | h6 | h6
  ·have hex:=heo.ex0 (by omega)
   have e2:mo.edgeS st v.proc (pAt mo.procs v.proc) E=⟨(st.at'.set v.proc E.to),st.vars,st.chans,-1⟩:=by unfold Mo.edgeS Mo.actS;rw [if_neg (by omega),if_neg (by omega),if_neg (by omega)];rfl
   refine zY (aN g0 (aN g1 (aN g2 (aN g3 (aN ga (aN gv (aN hk (aN hp (aN he (aN hpa (aN hE (aN h6 (aN om (aN ox (aN oc hex))))))))))))))) ?_
   refine Z4 (fun c=>?_) (fun c=>?_)
   ·refine zY (aN g0 (aN g2 (aN hk (aN om c)))) ?_
    refine a4k (H.same (A:=(st.at'.set v.proc E.to)) (V:=st.vars) (hd:=-1) (by simp) (by simp) (by simp (disch:=(first|exact Rf.mk rfl|with_reducible assumption|omega|((repeat (first|rw [nP]|rw [nS]|rw [M3]))<;>omega)|decide)) only [go_sem,↓reduceIte,ga]) (by simp (disch:=(first|exact Rf.mk rfl|with_reducible assumption|omega|((repeat (first|rw [nP]|rw [nS]|rw [M3]))<;>omega)|decide)) only [go_sem,↓reduceIte,gv]) (fun j h1 h2 h3 h4=>by simp (disch:=(first|exact Rf.mk rfl|with_reducible assumption|omega|((repeat (first|rw [nP]|rw [nS]|rw [M3]))<;>omega)|decide)) only [go_sem,↓reduceIte])) a4m ?_
    intro x' hx'
    rw [e2] at hfit
    have hsb:=a4C hm ho (x:=x') ⟨hx',a2u hf (a0F.1 hfit),a0F.1 hfit⟩ hp
    refine zY hsb ?_
    refine Y3 (fun c2=>?_) (fun c2=>?_)
    ·refine zY (aN g2 (aN g3 (aN oc hk))) ?_
     refine Z7 ⟨_,rfl,?_⟩
     simp only [e2,c2,Bool.and_self,if_true]
     exact H.same (A:=(st.at'.set v.proc E.to)) (V:=st.vars) (hd:=(v.proc:Int)) (by simp) (by simp) (by simp (disch:=(first|exact Rf.mk rfl|with_reducible assumption|omega|((repeat (first|rw [nP]|rw [nS]|rw [M3]))<;>omega)|decide)) only [go_sem,↓reduceIte,ga]) (by simp (disch:=(first|exact Rf.mk rfl|with_reducible assumption|omega|((repeat (first|rw [nP]|rw [nS]|rw [M3]))<;>omega)|decide)) only [go_sem,↓reduceIte,gv]) (fun j h1 h2 h3 h4=>by simp (disch:=(first|exact Rf.mk rfl|with_reducible assumption|omega|((repeat (first|rw [nP]|rw [nS]|rw [M3]))<;>omega)|decide)) only [go_sem,↓reduceIte])
    ·refine zY (aN g2 (aN g3 (aN oc hk))) ?_
     refine Z7 ⟨_,rfl,?_⟩
     simp only [e2,c2,Bool.and_false,Bool.false_eq_true,if_false]
     exact H.same (A:=(st.at'.set v.proc E.to)) (V:=st.vars) (hd:=-1) (by simp) (by simp) (by simp (disch:=(first|exact Rf.mk rfl|with_reducible assumption|omega|((repeat (first|rw [nP]|rw [nS]|rw [M3]))<;>omega)|decide)) only [go_sem,↓reduceIte,ga]) (by simp (disch:=(first|exact Rf.mk rfl|with_reducible assumption|omega|((repeat (first|rw [nP]|rw [nS]|rw [M3]))<;>omega)|decide)) only [go_sem,↓reduceIte,gv]) (fun j h1 h2 h3 h4=>by simp (disch:=(first|exact Rf.mk rfl|with_reducible assumption|omega|((repeat (first|rw [nP]|rw [nS]|rw [M3]))<;>omega)|decide)) only [go_sem,↓reduceIte])
   ·refine zY (aN g0 (aN g2 (aN g3 (aN hk (aN om (aN oc c)))))) ?_
    refine Z7 ⟨_,rfl,?_⟩
    simp only [e2,Bool.false_and,Bool.false_eq_true,if_false]
    exact H.same (A:=(st.at'.set v.proc E.to)) (V:=st.vars) (hd:=-1) (by simp) (by simp) (by simp (disch:=(first|exact Rf.mk rfl|with_reducible assumption|omega|((repeat (first|rw [nP]|rw [nS]|rw [M3]))<;>omega)|decide)) only [go_sem,↓reduceIte,ga]) (by simp (disch:=(first|exact Rf.mk rfl|with_reducible assumption|omega|((repeat (first|rw [nP]|rw [nS]|rw [M3]))<;>omega)|decide)) only [go_sem,↓reduceIte,gv]) (fun j h1 h2 h3 h4=>by simp (disch:=(first|exact Rf.mk rfl|with_reducible assumption|omega|((repeat (first|rw [nP]|rw [nS]|rw [M3]))<;>omega)|decide)) only [go_sem,↓reduceIte])
  ·obtain ⟨n,hn1,hn2,hn3⟩:=heo.ex1 (by omega)
   have hval:=a3N hm ho hx hp hn2 hn3
   have hxn:(mo.ex (pAt mo.procs v.proc) st E 0).1=(mo.val (O8 (pAt mo.procs v.proc)) st n).1:=by unfold Mo.ex;rw [hn1];simp
   have h8n:=a5v hx.e (t:=mo.tree) (ch:=mo.ch) (look:=O8 (pAt mo.procs v.proc)) (mo.tree.length+1) n
   have hb:-128<=(mo.val (O8 (pAt mo.procs v.proc)) st n).1/\(mo.val (O8 (pAt mo.procs v.proc)) st n).1<=127:=h8n
   obtain ⟨q,hq0,hq1⟩:=heo.v1 (by omega)
   have hq:=hpo.var q hq0
   have hq':q<st.vars.length:=by omega
   have hmv:=hm.v
   have hw:=hf.vr _ (a3v hq)
   have hwt:=fun z (h1:-4294967296<=z) h2=>a7P (x:=z) h1 h2 hw.1 hw.2.1
   have e2:mo.edgeS st v.proc (pAt mo.procs v.proc) E=⟨(st.at'.set v.proc E.to),(st.vars.set q (N4 (mo.val (O8 (pAt mo.procs v.proc)) st n).1 (vAt mo.vars q).width.toNat)),st.chans,-1⟩:=by unfold Mo.edgeS Mo.actS;rw [if_pos h6,hq1,hxn,Int.toNat_natCast];rfl
   refine zY (aN g0 (aN g1 (aN g2 (aN g3 (aN ga (aN gv (aN hk (aN hp (aN he (aN hpa (aN hE (aN h6 (aN om (aN ox (aN oc (aN hn1 (aN hval (aN hq1 (aN hq (aN hq' hwt)))))))))))))))))))) ?_
   refine Z4 (fun c=>?_) (fun c=>?_)
   ·refine zY (aN g0 (aN g2 (aN hk (aN om c)))) ?_
    refine a4k (H.same (A:=(st.at'.set v.proc E.to)) (V:=(st.vars.set q (N4 (mo.val (O8 (pAt mo.procs v.proc)) st n).1 (vAt mo.vars q).width.toNat))) (hd:=-1) (by simp) (by simp) (by simp (disch:=(first|exact Rf.mk rfl|with_reducible assumption|omega|((repeat (first|rw [nP]|rw [nS]|rw [M3]))<;>omega)|decide)) only [go_sem,↓reduceIte,ga]) (by simp (disch:=(first|exact Rf.mk rfl|with_reducible assumption|omega|((repeat (first|rw [nP]|rw [nS]|rw [M3]))<;>omega)|decide)) only [go_sem,↓reduceIte,gv]) (fun j h1 h2 h3 h4=>by simp (disch:=(first|exact Rf.mk rfl|with_reducible assumption|omega|((repeat (first|rw [nP]|rw [nS]|rw [M3]))<;>omega)|decide)) only [go_sem,↓reduceIte])) a4m ?_
    intro x' hx'
    rw [e2] at hfit
    have hsb:=a4C hm ho (x:=x') ⟨hx',a2u hf (a0F.1 hfit),a0F.1 hfit⟩ hp
    refine zY hsb ?_
    refine Y3 (fun c2=>?_) (fun c2=>?_)
    ·refine zY (aN g2 (aN g3 (aN oc hk))) ?_
     refine Z7 ⟨_,rfl,?_⟩
     simp only [e2,c2,Bool.and_self,if_true]
     exact H.same (A:=(st.at'.set v.proc E.to)) (V:=(st.vars.set q (N4 (mo.val (O8 (pAt mo.procs v.proc)) st n).1 (vAt mo.vars q).width.toNat))) (hd:=(v.proc:Int)) (by simp) (by simp) (by simp (disch:=(first|exact Rf.mk rfl|with_reducible assumption|omega|((repeat (first|rw [nP]|rw [nS]|rw [M3]))<;>omega)|decide)) only [go_sem,↓reduceIte,ga]) (by simp (disch:=(first|exact Rf.mk rfl|with_reducible assumption|omega|((repeat (first|rw [nP]|rw [nS]|rw [M3]))<;>omega)|decide)) only [go_sem,↓reduceIte,gv]) (fun j h1 h2 h3 h4=>by simp (disch:=(first|exact Rf.mk rfl|with_reducible assumption|omega|((repeat (first|rw [nP]|rw [nS]|rw [M3]))<;>omega)|decide)) only [go_sem,↓reduceIte])
    ·refine zY (aN g2 (aN g3 (aN oc hk))) ?_
     refine Z7 ⟨_,rfl,?_⟩
     simp only [e2,c2,Bool.and_false,Bool.false_eq_true,if_false]
     exact H.same (A:=(st.at'.set v.proc E.to)) (V:=(st.vars.set q (N4 (mo.val (O8 (pAt mo.procs v.proc)) st n).1 (vAt mo.vars q).width.toNat))) (hd:=-1) (by simp) (by simp) (by simp (disch:=(first|exact Rf.mk rfl|with_reducible assumption|omega|((repeat (first|rw [nP]|rw [nS]|rw [M3]))<;>omega)|decide)) only [go_sem,↓reduceIte,ga]) (by simp (disch:=(first|exact Rf.mk rfl|with_reducible assumption|omega|((repeat (first|rw [nP]|rw [nS]|rw [M3]))<;>omega)|decide)) only [go_sem,↓reduceIte,gv]) (fun j h1 h2 h3 h4=>by simp (disch:=(first|exact Rf.mk rfl|with_reducible assumption|omega|((repeat (first|rw [nP]|rw [nS]|rw [M3]))<;>omega)|decide)) only [go_sem,↓reduceIte])
   ·refine zY (aN g0 (aN g2 (aN g3 (aN hk (aN om (aN oc c)))))) ?_
    refine Z7 ⟨_,rfl,?_⟩
    simp only [e2,Bool.false_and,Bool.false_eq_true,if_false]
    exact H.same (A:=(st.at'.set v.proc E.to)) (V:=(st.vars.set q (N4 (mo.val (O8 (pAt mo.procs v.proc)) st n).1 (vAt mo.vars q).width.toNat))) (hd:=-1) (by simp) (by simp) (by simp (disch:=(first|exact Rf.mk rfl|with_reducible assumption|omega|((repeat (first|rw [nP]|rw [nS]|rw [M3]))<;>omega)|decide)) only [go_sem,↓reduceIte,ga]) (by simp (disch:=(first|exact Rf.mk rfl|with_reducible assumption|omega|((repeat (first|rw [nP]|rw [nS]|rw [M3]))<;>omega)|decide)) only [go_sem,↓reduceIte,gv]) (fun j h1 h2 h3 h4=>by simp (disch:=(first|exact Rf.mk rfl|with_reducible assumption|omega|((repeat (first|rw [nP]|rw [nS]|rw [M3]))<;>omega)|decide)) only [go_sem,↓reduceIte])
  ·obtain ⟨n,hn1,hn2,hn3⟩:=heo.ex1 (by omega)
   have hval:=a3N hm ho hx hp hn2 hn3
   have hxn:(mo.ex (pAt mo.procs v.proc) st E 0).1=(mo.val (O8 (pAt mo.procs v.proc)) st n).1:=by unfold Mo.ex;rw [hn1];simp
   have h8n:=a5v hx.e (t:=mo.tree) (ch:=mo.ch) (look:=O8 (pAt mo.procs v.proc)) (mo.tree.length+1) n
   have hb:-128<=(mo.val (O8 (pAt mo.procs v.proc)) st n).1/\(mo.val (O8 (pAt mo.procs v.proc)) st n).1<=127:=h8n
   obtain ⟨k,hk1,hkc⟩:=heo.c1 (by omega)
   rcases gc with ⟨h1,_⟩ | ⟨c,rfl,gc,nc,ca,cv,cq⟩
   ·rw [h1] at hcl;simp at hcl;omega
   have hmc:=hm.c
   have hc':k<st.chans.length:=by omega
   obtain ⟨gk,nk,ka,kv⟩:=gq k hc'
   have kc:=cq k hc'
   have lc:=M7 gc
   have lk:=M7 gk
   have hwc:=hf.ch _ (a21 hkc)
   have hroom:((cAt st.chans k).length:Int)<(R7 mo.chans k).room:=by unfold Mo.can at hcan;simp only [h6,hk1,Int.toNat_natCast,Bool.and_eq_true,decide_eq_true_eq] at hcan;simpa using hcan.2
   have hwt:=fun z (h1:-4294967296<=z) h2=>a7P (x:=z) h1 h2 hwc.2.2.1 hwc.2.2.2
   have e2:mo.edgeS st v.proc (pAt mo.procs v.proc) E=⟨(st.at'.set v.proc E.to),st.vars,(st.chans.set k (cAt st.chans k++[N4 (mo.val (O8 (pAt mo.procs v.proc)) st n).1 (R7 mo.chans k).width.toNat])),-1⟩:=by unfold Mo.edgeS Mo.actS;rw [if_neg (by omega),if_pos h6,hk1,hxn,Int.toNat_natCast];rfl
   refine zY (aN g0 (aN g1 (aN g2 (aN g3 (aN ga (aN gv (aN hk (aN hp (aN he (aN hpa (aN hE (aN h6 (aN om (aN ox (aN oc (aN hn1 (aN hval (aN hk1 (aN hc' (aN hkc (aN hil (aN gc (aN gk hwt))))))))))))))))))))))) ?_
   refine b3q (cs:=O6 (cAt st.chans k)) (x:=.int .i64 (N4 (mo.val (O8 (pAt mo.procs v.proc)) st n).1 (R7 mo.chans k).width.toNat)) (by simp (disch:=(first|exact Rf.mk rfl|with_reducible assumption|omega|((repeat (first|rw [nP]|rw [nS]|rw [M3]))<;>omega)|decide)) only [go_sem,↓reduceIte,gk]) (by simp) (by simp (disch:=(first|exact Rf.mk rfl|with_reducible assumption|omega|((repeat (first|rw [nP]|rw [nS]|rw [M3]))<;>omega)|decide)) only [go_sem,↓reduceIte]) (by decide) (by omega) (by simp (disch:=(first|exact Rf.mk rfl|with_reducible assumption|omega|((repeat (first|rw [nP]|rw [nS]|rw [M3]))<;>omega)|decide)) only [go_sem,↓reduceIte]) ?_
   refine zY (aN g0 (aN g1 (aN g2 (aN g3 (aN ga (aN gv (aN hk (aN hk1 (aN om (aN ox (aN oc (aN gc (aN hc' hil))))))))))))) ?_
   refine Z4 (fun c=>?_) (fun c=>?_)
   ·refine zY (aN g0 (aN g2 (aN hk (aN om c)))) ?_
    refine a4k (H.chan (A:=(st.at'.set v.proc E.to)) (V:=st.vars) (hd:=-1) (d:=(.arr (s1.next+1+1+1) 0 ((cAt st.chans k).length+1) 1)) hc' (by simp) (by simp) (by simp (disch:=(first|exact Rf.mk rfl|with_reducible assumption|omega|((repeat (first|rw [nP]|rw [nS]|rw [M3]))<;>omega)|decide)) only [go_sem,↓reduceIte,ga]) (by simp (disch:=(first|exact Rf.mk rfl|with_reducible assumption|omega|((repeat (first|rw [nP]|rw [nS]|rw [M3]))<;>omega)|decide)) only [go_sem,↓reduceIte,gv]) (by simp (disch:=(first|exact Rf.mk rfl|with_reducible assumption|omega|((repeat (first|rw [nP]|rw [nS]|rw [M3]))<;>omega)|decide)) only [go_sem,↓reduceIte,gc]) (by rw [show (cAt st.chans k).length+1=(cAt st.chans k++[N4 (mo.val (O8 (pAt mo.procs v.proc)) st n).1 (R7 mo.chans k).width.toNat]).length by simp];exact a3U (by simp (disch:=(first|exact Rf.mk rfl|with_reducible assumption|omega|((repeat (first|rw [nP]|rw [nS]|rw [M3]))<;>omega)|decide)) only [go_sem,↓reduceIte];simp [O6])) (fun j hj hjk=>by obtain ⟨gj,nj,ja,jv⟩:=gq j hj;have jc:=cq j hj;have lj:=M7 gj;have jk:nAt ids j≠nAt ids k:=fun e=>hjk (inj _ _ hj hc' e);simp (disch:=(first|exact Rf.mk rfl|with_reducible assumption|omega|((repeat (first|rw [nP]|rw [nS]|rw [M3]))<;>omega)|decide)) only [go_sem,↓reduceIte,gj])) a4m ?_
    intro x' hx'
    rw [e2] at hfit
    have hsb:=a4C hm ho (x:=x') ⟨hx',a2u hf (a0F.1 hfit),a0F.1 hfit⟩ hp
    refine zY hsb ?_
    refine Y3 (fun c2=>?_) (fun c2=>?_)
    ·refine zY (aN g2 (aN g3 (aN oc hk))) ?_
     refine Z7 ⟨_,rfl,?_⟩
     simp only [e2,c2,Bool.and_self,if_true]
     exact H.chan (A:=(st.at'.set v.proc E.to)) (V:=st.vars) (hd:=(v.proc:Int)) (d:=(.arr (s1.next+1+1+1) 0 ((cAt st.chans k).length+1) 1)) hc' (by simp) (by simp) (by simp (disch:=(first|exact Rf.mk rfl|with_reducible assumption|omega|((repeat (first|rw [nP]|rw [nS]|rw [M3]))<;>omega)|decide)) only [go_sem,↓reduceIte,ga]) (by simp (disch:=(first|exact Rf.mk rfl|with_reducible assumption|omega|((repeat (first|rw [nP]|rw [nS]|rw [M3]))<;>omega)|decide)) only [go_sem,↓reduceIte,gv]) (by simp (disch:=(first|exact Rf.mk rfl|with_reducible assumption|omega|((repeat (first|rw [nP]|rw [nS]|rw [M3]))<;>omega)|decide)) only [go_sem,↓reduceIte,gc]) (by rw [show (cAt st.chans k).length+1=(cAt st.chans k++[N4 (mo.val (O8 (pAt mo.procs v.proc)) st n).1 (R7 mo.chans k).width.toNat]).length by simp];exact a3U (by simp (disch:=(first|exact Rf.mk rfl|with_reducible assumption|omega|((repeat (first|rw [nP]|rw [nS]|rw [M3]))<;>omega)|decide)) only [go_sem,↓reduceIte];simp [O6])) (fun j hj hjk=>by obtain ⟨gj,nj,ja,jv⟩:=gq j hj;have jc:=cq j hj;have lj:=M7 gj;have jk:nAt ids j≠nAt ids k:=fun e=>hjk (inj _ _ hj hc' e);simp (disch:=(first|exact Rf.mk rfl|with_reducible assumption|omega|((repeat (first|rw [nP]|rw [nS]|rw [M3]))<;>omega)|decide)) only [go_sem,↓reduceIte,gj])
    ·refine zY (aN g2 (aN g3 (aN oc hk))) ?_
     refine Z7 ⟨_,rfl,?_⟩
     simp only [e2,c2,Bool.and_false,Bool.false_eq_true,if_false]
     exact H.chan (A:=(st.at'.set v.proc E.to)) (V:=st.vars) (hd:=-1) (d:=(.arr (s1.next+1+1+1) 0 ((cAt st.chans k).length+1) 1)) hc' (by simp) (by simp) (by simp (disch:=(first|exact Rf.mk rfl|with_reducible assumption|omega|((repeat (first|rw [nP]|rw [nS]|rw [M3]))<;>omega)|decide)) only [go_sem,↓reduceIte,ga]) (by simp (disch:=(first|exact Rf.mk rfl|with_reducible assumption|omega|((repeat (first|rw [nP]|rw [nS]|rw [M3]))<;>omega)|decide)) only [go_sem,↓reduceIte,gv]) (by simp (disch:=(first|exact Rf.mk rfl|with_reducible assumption|omega|((repeat (first|rw [nP]|rw [nS]|rw [M3]))<;>omega)|decide)) only [go_sem,↓reduceIte,gc]) (by rw [show (cAt st.chans k).length+1=(cAt st.chans k++[N4 (mo.val (O8 (pAt mo.procs v.proc)) st n).1 (R7 mo.chans k).width.toNat]).length by simp];exact a3U (by simp (disch:=(first|exact Rf.mk rfl|with_reducible assumption|omega|((repeat (first|rw [nP]|rw [nS]|rw [M3]))<;>omega)|decide)) only [go_sem,↓reduceIte];simp [O6])) (fun j hj hjk=>by obtain ⟨gj,nj,ja,jv⟩:=gq j hj;have jc:=cq j hj;have lj:=M7 gj;have jk:nAt ids j≠nAt ids k:=fun e=>hjk (inj _ _ hj hc' e);simp (disch:=(first|exact Rf.mk rfl|with_reducible assumption|omega|((repeat (first|rw [nP]|rw [nS]|rw [M3]))<;>omega)|decide)) only [go_sem,↓reduceIte,gj])
   ·refine zY (aN g0 (aN g2 (aN g3 (aN hk (aN om (aN oc c)))))) ?_
    refine Z7 ⟨_,rfl,?_⟩
    simp only [e2,Bool.false_and,Bool.false_eq_true,if_false]
    exact H.chan (A:=(st.at'.set v.proc E.to)) (V:=st.vars) (hd:=-1) (d:=(.arr (s1.next+1+1+1) 0 ((cAt st.chans k).length+1) 1)) hc' (by simp) (by simp) (by simp (disch:=(first|exact Rf.mk rfl|with_reducible assumption|omega|((repeat (first|rw [nP]|rw [nS]|rw [M3]))<;>omega)|decide)) only [go_sem,↓reduceIte,ga]) (by simp (disch:=(first|exact Rf.mk rfl|with_reducible assumption|omega|((repeat (first|rw [nP]|rw [nS]|rw [M3]))<;>omega)|decide)) only [go_sem,↓reduceIte,gv]) (by simp (disch:=(first|exact Rf.mk rfl|with_reducible assumption|omega|((repeat (first|rw [nP]|rw [nS]|rw [M3]))<;>omega)|decide)) only [go_sem,↓reduceIte,gc]) (by rw [show (cAt st.chans k).length+1=(cAt st.chans k++[N4 (mo.val (O8 (pAt mo.procs v.proc)) st n).1 (R7 mo.chans k).width.toNat]).length by simp];exact a3U (by simp (disch:=(first|exact Rf.mk rfl|with_reducible assumption|omega|((repeat (first|rw [nP]|rw [nS]|rw [M3]))<;>omega)|decide)) only [go_sem,↓reduceIte];simp [O6])) (fun j hj hjk=>by obtain ⟨gj,nj,ja,jv⟩:=gq j hj;have jc:=cq j hj;have lj:=M7 gj;have jk:nAt ids j≠nAt ids k:=fun e=>hjk (inj _ _ hj hc' e);simp (disch:=(first|exact Rf.mk rfl|with_reducible assumption|omega|((repeat (first|rw [nP]|rw [nS]|rw [M3]))<;>omega)|decide)) only [go_sem,↓reduceIte,gj])
  ·have hex:=heo.ex0 (by omega)
   obtain ⟨q,hq0,hq1⟩:=heo.v1 (by omega)
   have hq:=hpo.var q hq0
   have hq':q<st.vars.length:=by omega
   have hmv:=hm.v
   have hw:=hf.vr _ (a3v hq)
   have hwt:=fun z (h1:-4294967296<=z) h2=>a7P (x:=z) h1 h2 hw.1 hw.2.1
   obtain ⟨k,hk1,hkc⟩:=heo.c1 (by omega)
   rcases gc with ⟨h1,_⟩ | ⟨c,rfl,gc,nc,ca,cv,cq⟩
   ·rw [h1] at hcl;simp at hcl;omega
   have hmc:=hm.c
   have hc':k<st.chans.length:=by omega
   obtain ⟨gk,nk,ka,kv⟩:=gq k hc'
   have kc:=cq k hc'
   have lc:=M7 gc
   have lk:=M7 gk
   have hwc:=hf.ch _ (a21 hkc)
   have hlen:0<(cAt st.chans k).length:=by unfold Mo.can at hcan;simp only [h6,hk1,Int.toNat_natCast,Bool.and_eq_true,decide_eq_true_eq] at hcan;simpa using hcan.2
   have hcv:=(hx.e.c _ (a6A hc')).2 _ (a4v hlen)
   have hcv':-128<=zAt (cAt st.chans k) 0/\zAt (cAt st.chans k) 0<=127:=hcv
   have l2:1<(cAt st.chans k).length:=(show k'=k by omega)▸l2
   have e2:mo.edgeS st v.proc (pAt mo.procs v.proc) E=⟨(st.at'.set v.proc E.to),(st.vars.set q (N4 (zAt (cAt st.chans k) 0) (vAt mo.vars q).width.toNat)),(st.chans.set k ((cAt st.chans k).drop 1)),-1⟩:=by unfold Mo.edgeS Mo.actS;rw [if_neg (by omega),if_neg (by omega),if_pos h6,hq1,hk1,Int.toNat_natCast,Int.toNat_natCast];rfl
   refine zY (aN g0 (aN g1 (aN g2 (aN g3 (aN ga (aN gv (aN hk (aN hp (aN he (aN hpa (aN hE (aN h6 (aN om (aN ox (aN oc (aN hex (aN hq1 (aN hq (aN hq' (aN hwt (aN hk1 (aN hc' (aN hkc (aN hil (aN gc (aN gk (aN hlen l2))))))))))))))))))))))))))) ?_
   refine Z4 (fun c=>?_) (fun c=>?_)
   ·refine zY (aN g0 (aN g2 (aN hk (aN om c)))) ?_
    refine a4k (H.chan (A:=(st.at'.set v.proc E.to)) (V:=(st.vars.set q (N4 (zAt (cAt st.chans k) 0) (vAt mo.vars q).width.toNat))) (hd:=-1) (d:=(.arr (nAt ids k) 1 ((cAt st.chans k).length-1) 1)) hc' (by simp) (by simp) (by simp (disch:=(first|exact Rf.mk rfl|with_reducible assumption|omega|((repeat (first|rw [nP]|rw [nS]|rw [M3]))<;>omega)|decide)) only [go_sem,↓reduceIte,ga]) (by simp (disch:=(first|exact Rf.mk rfl|with_reducible assumption|omega|((repeat (first|rw [nP]|rw [nS]|rw [M3]))<;>omega)|decide)) only [go_sem,↓reduceIte,gv]) (by simp (disch:=(first|exact Rf.mk rfl|with_reducible assumption|omega|((repeat (first|rw [nP]|rw [nS]|rw [M3]))<;>omega)|decide)) only [go_sem,↓reduceIte,gc]) (a6n (by simp (disch:=(first|exact Rf.mk rfl|with_reducible assumption|omega|((repeat (first|rw [nP]|rw [nS]|rw [M3]))<;>omega)|decide)) only [go_sem,↓reduceIte,gk]) l2) (fun j hj hjk=>by obtain ⟨gj,nj,ja,jv⟩:=gq j hj;have jc:=cq j hj;have lj:=M7 gj;have jk:nAt ids j≠nAt ids k:=fun e=>hjk (inj _ _ hj hc' e);simp (disch:=(first|exact Rf.mk rfl|with_reducible assumption|omega|((repeat (first|rw [nP]|rw [nS]|rw [M3]))<;>omega)|decide)) only [go_sem,↓reduceIte,gj])) a4m ?_
    intro x' hx'
    rw [e2] at hfit
    have hsb:=a4C hm ho (x:=x') ⟨hx',a2u hf (a0F.1 hfit),a0F.1 hfit⟩ hp
    refine zY hsb ?_
    refine Y3 (fun c2=>?_) (fun c2=>?_)
    ·refine zY (aN g2 (aN g3 (aN oc hk))) ?_
     refine Z7 ⟨_,rfl,?_⟩
     simp only [e2,c2,Bool.and_self,if_true]
     exact H.chan (A:=(st.at'.set v.proc E.to)) (V:=(st.vars.set q (N4 (zAt (cAt st.chans k) 0) (vAt mo.vars q).width.toNat))) (hd:=(v.proc:Int)) (d:=(.arr (nAt ids k) 1 ((cAt st.chans k).length-1) 1)) hc' (by simp) (by simp) (by simp (disch:=(first|exact Rf.mk rfl|with_reducible assumption|omega|((repeat (first|rw [nP]|rw [nS]|rw [M3]))<;>omega)|decide)) only [go_sem,↓reduceIte,ga]) (by simp (disch:=(first|exact Rf.mk rfl|with_reducible assumption|omega|((repeat (first|rw [nP]|rw [nS]|rw [M3]))<;>omega)|decide)) only [go_sem,↓reduceIte,gv]) (by simp (disch:=(first|exact Rf.mk rfl|with_reducible assumption|omega|((repeat (first|rw [nP]|rw [nS]|rw [M3]))<;>omega)|decide)) only [go_sem,↓reduceIte,gc]) (a6n (by simp (disch:=(first|exact Rf.mk rfl|with_reducible assumption|omega|((repeat (first|rw [nP]|rw [nS]|rw [M3]))<;>omega)|decide)) only [go_sem,↓reduceIte,gk]) l2) (fun j hj hjk=>by obtain ⟨gj,nj,ja,jv⟩:=gq j hj;have jc:=cq j hj;have lj:=M7 gj;have jk:nAt ids j≠nAt ids k:=fun e=>hjk (inj _ _ hj hc' e);simp (disch:=(first|exact Rf.mk rfl|with_reducible assumption|omega|((repeat (first|rw [nP]|rw [nS]|rw [M3]))<;>omega)|decide)) only [go_sem,↓reduceIte,gj])
    ·refine zY (aN g2 (aN g3 (aN oc hk))) ?_
     refine Z7 ⟨_,rfl,?_⟩
     simp only [e2,c2,Bool.and_false,Bool.false_eq_true,if_false]
     exact H.chan (A:=(st.at'.set v.proc E.to)) (V:=(st.vars.set q (N4 (zAt (cAt st.chans k) 0) (vAt mo.vars q).width.toNat))) (hd:=-1) (d:=(.arr (nAt ids k) 1 ((cAt st.chans k).length-1) 1)) hc' (by simp) (by simp) (by simp (disch:=(first|exact Rf.mk rfl|with_reducible assumption|omega|((repeat (first|rw [nP]|rw [nS]|rw [M3]))<;>omega)|decide)) only [go_sem,↓reduceIte,ga]) (by simp (disch:=(first|exact Rf.mk rfl|with_reducible assumption|omega|((repeat (first|rw [nP]|rw [nS]|rw [M3]))<;>omega)|decide)) only [go_sem,↓reduceIte,gv]) (by simp (disch:=(first|exact Rf.mk rfl|with_reducible assumption|omega|((repeat (first|rw [nP]|rw [nS]|rw [M3]))<;>omega)|decide)) only [go_sem,↓reduceIte,gc]) (a6n (by simp (disch:=(first|exact Rf.mk rfl|with_reducible assumption|omega|((repeat (first|rw [nP]|rw [nS]|rw [M3]))<;>omega)|decide)) only [go_sem,↓reduceIte,gk]) l2) (fun j hj hjk=>by obtain ⟨gj,nj,ja,jv⟩:=gq j hj;have jc:=cq j hj;have lj:=M7 gj;have jk:nAt ids j≠nAt ids k:=fun e=>hjk (inj _ _ hj hc' e);simp (disch:=(first|exact Rf.mk rfl|with_reducible assumption|omega|((repeat (first|rw [nP]|rw [nS]|rw [M3]))<;>omega)|decide)) only [go_sem,↓reduceIte,gj])
   ·refine zY (aN g0 (aN g2 (aN g3 (aN hk (aN om (aN oc c)))))) ?_
    refine Z7 ⟨_,rfl,?_⟩
    simp only [e2,Bool.false_and,Bool.false_eq_true,if_false]
    exact H.chan (A:=(st.at'.set v.proc E.to)) (V:=(st.vars.set q (N4 (zAt (cAt st.chans k) 0) (vAt mo.vars q).width.toNat))) (hd:=-1) (d:=(.arr (nAt ids k) 1 ((cAt st.chans k).length-1) 1)) hc' (by simp) (by simp) (by simp (disch:=(first|exact Rf.mk rfl|with_reducible assumption|omega|((repeat (first|rw [nP]|rw [nS]|rw [M3]))<;>omega)|decide)) only [go_sem,↓reduceIte,ga]) (by simp (disch:=(first|exact Rf.mk rfl|with_reducible assumption|omega|((repeat (first|rw [nP]|rw [nS]|rw [M3]))<;>omega)|decide)) only [go_sem,↓reduceIte,gv]) (by simp (disch:=(first|exact Rf.mk rfl|with_reducible assumption|omega|((repeat (first|rw [nP]|rw [nS]|rw [M3]))<;>omega)|decide)) only [go_sem,↓reduceIte,gc]) (a6n (by simp (disch:=(first|exact Rf.mk rfl|with_reducible assumption|omega|((repeat (first|rw [nP]|rw [nS]|rw [M3]))<;>omega)|decide)) only [go_sem,↓reduceIte,gk]) l2) (fun j hj hjk=>by obtain ⟨gj,nj,ja,jv⟩:=gq j hj;have jc:=cq j hj;have lj:=M7 gj;have jk:nAt ids j≠nAt ids k:=fun e=>hjk (inj _ _ hj hc' e);simp (disch:=(first|exact Rf.mk rfl|with_reducible assumption|omega|((repeat (first|rw [nP]|rw [nS]|rw [M3]))<;>omega)|decide)) only [go_sem,↓reduceIte,gj])
  ·have hex:=heo.ex0 (by omega)
   obtain ⟨q,hq0,hq1⟩:=heo.v1 (by omega)
   have hq:=hpo.var q hq0
   have hq':q<st.vars.length:=by omega
   have hmv:=hm.v
   have hw:=hf.vr _ (a3v hq)
   have hwt:=fun z (h1:-4294967296<=z) h2=>a7P (x:=z) h1 h2 hw.1 hw.2.1
   obtain ⟨k,hk1,hkc⟩:=heo.c1 (by omega)
   rcases gc with ⟨h1,_⟩ | ⟨c,rfl,gc,nc,ca,cv,cq⟩
   ·rw [h1] at hcl;simp at hcl;omega
   have hmc:=hm.c
   have hc':k<st.chans.length:=by omega
   obtain ⟨gk,nk,ka,kv⟩:=gq k hc'
   have kc:=cq k hc'
   have lc:=M7 gc
   have lk:=M7 gk
   have hwc:=hf.ch _ (a21 hkc)
   have hlen:0<(cAt st.chans k).length:=by unfold Mo.can at hcan;simp only [h6,hk1,Int.toNat_natCast,Bool.and_eq_true,decide_eq_true_eq] at hcan;simpa using hcan.2
   have hcv:=(hx.e.c _ (a6A hc')).2 _ (a4v hlen)
   have hcv':-128<=zAt (cAt st.chans k) 0/\zAt (cAt st.chans k) 0<=127:=hcv
   have l2:¬ 1<(cAt st.chans k).length:=(show k'=k by omega)▸l2
   have l3:(cAt st.chans k).length=1:=by omega
   have e2:mo.edgeS st v.proc (pAt mo.procs v.proc) E=⟨(st.at'.set v.proc E.to),(st.vars.set q (N4 (zAt (cAt st.chans k) 0) (vAt mo.vars q).width.toNat)),(st.chans.set k ((cAt st.chans k).drop 1)),-1⟩:=by unfold Mo.edgeS Mo.actS;rw [if_neg (by omega),if_neg (by omega),if_pos h6,hq1,hk1,Int.toNat_natCast,Int.toNat_natCast];rfl
   refine zY (aN g0 (aN g1 (aN g2 (aN g3 (aN ga (aN gv (aN hk (aN hp (aN he (aN hpa (aN hE (aN h6 (aN om (aN ox (aN oc (aN hex (aN hq1 (aN hq (aN hq' (aN hwt (aN hk1 (aN hc' (aN hkc (aN hil (aN gc (aN gk (aN hlen l3))))))))))))))))))))))))))) ?_
   refine Z4 (fun c=>?_) (fun c=>?_)
   ·refine zY (aN g0 (aN g2 (aN hk (aN om c)))) ?_
    refine a4k (H.chan (A:=(st.at'.set v.proc E.to)) (V:=(st.vars.set q (N4 (zAt (cAt st.chans k) 0) (vAt mo.vars q).width.toNat))) (hd:=-1) (d:=(.lst 1 [])) hc' (by simp) (by simp) (by simp (disch:=(first|exact Rf.mk rfl|with_reducible assumption|omega|((repeat (first|rw [nP]|rw [nS]|rw [M3]))<;>omega)|decide)) only [go_sem,↓reduceIte,ga]) (by simp (disch:=(first|exact Rf.mk rfl|with_reducible assumption|omega|((repeat (first|rw [nP]|rw [nS]|rw [M3]))<;>omega)|decide)) only [go_sem,↓reduceIte,gv]) (by simp (disch:=(first|exact Rf.mk rfl|with_reducible assumption|omega|((repeat (first|rw [nP]|rw [nS]|rw [M3]))<;>omega)|decide)) only [go_sem,↓reduceIte,gc]) (a5O l2) (fun j hj hjk=>by obtain ⟨gj,nj,ja,jv⟩:=gq j hj;have jc:=cq j hj;have lj:=M7 gj;have jk:nAt ids j≠nAt ids k:=fun e=>hjk (inj _ _ hj hc' e);simp (disch:=(first|exact Rf.mk rfl|with_reducible assumption|omega|((repeat (first|rw [nP]|rw [nS]|rw [M3]))<;>omega)|decide)) only [go_sem,↓reduceIte,gj])) a4m ?_
    intro x' hx'
    rw [e2] at hfit
    have hsb:=a4C hm ho (x:=x') ⟨hx',a2u hf (a0F.1 hfit),a0F.1 hfit⟩ hp
    refine zY hsb ?_
    refine Y3 (fun c2=>?_) (fun c2=>?_)
    ·refine zY (aN g2 (aN g3 (aN oc hk))) ?_
     refine Z7 ⟨_,rfl,?_⟩
     simp only [e2,c2,Bool.and_self,if_true]
     exact H.chan (A:=(st.at'.set v.proc E.to)) (V:=(st.vars.set q (N4 (zAt (cAt st.chans k) 0) (vAt mo.vars q).width.toNat))) (hd:=(v.proc:Int)) (d:=(.lst 1 [])) hc' (by simp) (by simp) (by simp (disch:=(first|exact Rf.mk rfl|with_reducible assumption|omega|((repeat (first|rw [nP]|rw [nS]|rw [M3]))<;>omega)|decide)) only [go_sem,↓reduceIte,ga]) (by simp (disch:=(first|exact Rf.mk rfl|with_reducible assumption|omega|((repeat (first|rw [nP]|rw [nS]|rw [M3]))<;>omega)|decide)) only [go_sem,↓reduceIte,gv]) (by simp (disch:=(first|exact Rf.mk rfl|with_reducible assumption|omega|((repeat (first|rw [nP]|rw [nS]|rw [M3]))<;>omega)|decide)) only [go_sem,↓reduceIte,gc]) (a5O l2) (fun j hj hjk=>by obtain ⟨gj,nj,ja,jv⟩:=gq j hj;have jc:=cq j hj;have lj:=M7 gj;have jk:nAt ids j≠nAt ids k:=fun e=>hjk (inj _ _ hj hc' e);simp (disch:=(first|exact Rf.mk rfl|with_reducible assumption|omega|((repeat (first|rw [nP]|rw [nS]|rw [M3]))<;>omega)|decide)) only [go_sem,↓reduceIte,gj])
    ·refine zY (aN g2 (aN g3 (aN oc hk))) ?_
     refine Z7 ⟨_,rfl,?_⟩
     simp only [e2,c2,Bool.and_false,Bool.false_eq_true,if_false]
     exact H.chan (A:=(st.at'.set v.proc E.to)) (V:=(st.vars.set q (N4 (zAt (cAt st.chans k) 0) (vAt mo.vars q).width.toNat))) (hd:=-1) (d:=(.lst 1 [])) hc' (by simp) (by simp) (by simp (disch:=(first|exact Rf.mk rfl|with_reducible assumption|omega|((repeat (first|rw [nP]|rw [nS]|rw [M3]))<;>omega)|decide)) only [go_sem,↓reduceIte,ga]) (by simp (disch:=(first|exact Rf.mk rfl|with_reducible assumption|omega|((repeat (first|rw [nP]|rw [nS]|rw [M3]))<;>omega)|decide)) only [go_sem,↓reduceIte,gv]) (by simp (disch:=(first|exact Rf.mk rfl|with_reducible assumption|omega|((repeat (first|rw [nP]|rw [nS]|rw [M3]))<;>omega)|decide)) only [go_sem,↓reduceIte,gc]) (a5O l2) (fun j hj hjk=>by obtain ⟨gj,nj,ja,jv⟩:=gq j hj;have jc:=cq j hj;have lj:=M7 gj;have jk:nAt ids j≠nAt ids k:=fun e=>hjk (inj _ _ hj hc' e);simp (disch:=(first|exact Rf.mk rfl|with_reducible assumption|omega|((repeat (first|rw [nP]|rw [nS]|rw [M3]))<;>omega)|decide)) only [go_sem,↓reduceIte,gj])
   ·refine zY (aN g0 (aN g2 (aN g3 (aN hk (aN om (aN oc c)))))) ?_
    refine Z7 ⟨_,rfl,?_⟩
    simp only [e2,Bool.false_and,Bool.false_eq_true,if_false]
    exact H.chan (A:=(st.at'.set v.proc E.to)) (V:=(st.vars.set q (N4 (zAt (cAt st.chans k) 0) (vAt mo.vars q).width.toNat))) (hd:=-1) (d:=(.lst 1 [])) hc' (by simp) (by simp) (by simp (disch:=(first|exact Rf.mk rfl|with_reducible assumption|omega|((repeat (first|rw [nP]|rw [nS]|rw [M3]))<;>omega)|decide)) only [go_sem,↓reduceIte,ga]) (by simp (disch:=(first|exact Rf.mk rfl|with_reducible assumption|omega|((repeat (first|rw [nP]|rw [nS]|rw [M3]))<;>omega)|decide)) only [go_sem,↓reduceIte,gv]) (by simp (disch:=(first|exact Rf.mk rfl|with_reducible assumption|omega|((repeat (first|rw [nP]|rw [nS]|rw [M3]))<;>omega)|decide)) only [go_sem,↓reduceIte,gc]) (a5O l2) (fun j hj hjk=>by obtain ⟨gj,nj,ja,jv⟩:=gq j hj;have jc:=cq j hj;have lj:=M7 gj;have jk:nAt ids j≠nAt ids k:=fun e=>hjk (inj _ _ hj hc' e);simp (disch:=(first|exact Rf.mk rfl|with_reducible assumption|omega|((repeat (first|rw [nP]|rw [nS]|rw [M3]))<;>omega)|decide)) only [go_sem,↓reduceIte,gj])
  ·obtain ⟨n,hn1,hn2,hn3⟩:=heo.ex1 (by omega)
   have hval:=a3N hm ho hx hp hn2 hn3
   have hxn:(mo.ex (pAt mo.procs v.proc) st E 0).1=(mo.val (O8 (pAt mo.procs v.proc)) st n).1:=by unfold Mo.ex;rw [hn1];simp
   have h8n:=a5v hx.e (t:=mo.tree) (ch:=mo.ch) (look:=O8 (pAt mo.procs v.proc)) (mo.tree.length+1) n
   have e2:mo.edgeS st v.proc (pAt mo.procs v.proc) E=⟨(st.at'.set v.proc E.to),st.vars,st.chans,-1⟩:=by unfold Mo.edgeS Mo.actS;rw [if_neg (by omega),if_neg (by omega),if_neg (by omega)];rfl
   refine zY (aN g0 (aN g1 (aN g2 (aN g3 (aN ga (aN gv (aN hk (aN hp (aN he (aN hpa (aN hE (aN h6 (aN om (aN ox (aN oc (aN hn1 hval)))))))))))))))) ?_
   refine Z4 (fun c=>?_) (fun c=>?_)
   ·refine zY (aN g0 (aN g2 (aN hk (aN om c)))) ?_
    refine a4k (H.same (A:=(st.at'.set v.proc E.to)) (V:=st.vars) (hd:=-1) (by simp) (by simp) (by simp (disch:=(first|exact Rf.mk rfl|with_reducible assumption|omega|((repeat (first|rw [nP]|rw [nS]|rw [M3]))<;>omega)|decide)) only [go_sem,↓reduceIte,ga]) (by simp (disch:=(first|exact Rf.mk rfl|with_reducible assumption|omega|((repeat (first|rw [nP]|rw [nS]|rw [M3]))<;>omega)|decide)) only [go_sem,↓reduceIte,gv]) (fun j h1 h2 h3 h4=>by simp (disch:=(first|exact Rf.mk rfl|with_reducible assumption|omega|((repeat (first|rw [nP]|rw [nS]|rw [M3]))<;>omega)|decide)) only [go_sem,↓reduceIte])) a4m ?_
    intro x' hx'
    rw [e2] at hfit
    have hsb:=a4C hm ho (x:=x') ⟨hx',a2u hf (a0F.1 hfit),a0F.1 hfit⟩ hp
    refine zY hsb ?_
    refine Y3 (fun c2=>?_) (fun c2=>?_)
    ·refine zY (aN g2 (aN g3 (aN oc hk))) ?_
     refine Z7 ⟨_,rfl,?_⟩
     simp only [e2,c2,Bool.and_self,if_true]
     exact H.same (A:=(st.at'.set v.proc E.to)) (V:=st.vars) (hd:=(v.proc:Int)) (by simp) (by simp) (by simp (disch:=(first|exact Rf.mk rfl|with_reducible assumption|omega|((repeat (first|rw [nP]|rw [nS]|rw [M3]))<;>omega)|decide)) only [go_sem,↓reduceIte,ga]) (by simp (disch:=(first|exact Rf.mk rfl|with_reducible assumption|omega|((repeat (first|rw [nP]|rw [nS]|rw [M3]))<;>omega)|decide)) only [go_sem,↓reduceIte,gv]) (fun j h1 h2 h3 h4=>by simp (disch:=(first|exact Rf.mk rfl|with_reducible assumption|omega|((repeat (first|rw [nP]|rw [nS]|rw [M3]))<;>omega)|decide)) only [go_sem,↓reduceIte])
    ·refine zY (aN g2 (aN g3 (aN oc hk))) ?_
     refine Z7 ⟨_,rfl,?_⟩
     simp only [e2,c2,Bool.and_false,Bool.false_eq_true,if_false]
     exact H.same (A:=(st.at'.set v.proc E.to)) (V:=st.vars) (hd:=-1) (by simp) (by simp) (by simp (disch:=(first|exact Rf.mk rfl|with_reducible assumption|omega|((repeat (first|rw [nP]|rw [nS]|rw [M3]))<;>omega)|decide)) only [go_sem,↓reduceIte,ga]) (by simp (disch:=(first|exact Rf.mk rfl|with_reducible assumption|omega|((repeat (first|rw [nP]|rw [nS]|rw [M3]))<;>omega)|decide)) only [go_sem,↓reduceIte,gv]) (fun j h1 h2 h3 h4=>by simp (disch:=(first|exact Rf.mk rfl|with_reducible assumption|omega|((repeat (first|rw [nP]|rw [nS]|rw [M3]))<;>omega)|decide)) only [go_sem,↓reduceIte])
   ·refine zY (aN g0 (aN g2 (aN g3 (aN hk (aN om (aN oc c)))))) ?_
    refine Z7 ⟨_,rfl,?_⟩
    simp only [e2,Bool.false_and,Bool.false_eq_true,if_false]
    exact H.same (A:=(st.at'.set v.proc E.to)) (V:=st.vars) (hd:=-1) (by simp) (by simp) (by simp (disch:=(first|exact Rf.mk rfl|with_reducible assumption|omega|((repeat (first|rw [nP]|rw [nS]|rw [M3]))<;>omega)|decide)) only [go_sem,↓reduceIte,ga]) (by simp (disch:=(first|exact Rf.mk rfl|with_reducible assumption|omega|((repeat (first|rw [nP]|rw [nS]|rw [M3]))<;>omega)|decide)) only [go_sem,↓reduceIte,gv]) (fun j h1 h2 h3 h4=>by simp (disch:=(first|exact Rf.mk rfl|with_reducible assumption|omega|((repeat (first|rw [nP]|rw [nS]|rw [M3]))<;>omega)|decide)) only [go_sem,↓reduceIte])
  ·obtain ⟨n,hn1,hn2,hn3⟩:=heo.ex1 (by omega)
   have hval:=a3N hm ho hx hp hn2 hn3
   have hxn:(mo.ex (pAt mo.procs v.proc) st E 0).1=(mo.val (O8 (pAt mo.procs v.proc)) st n).1:=by unfold Mo.ex;rw [hn1];simp
   have h8n:=a5v hx.e (t:=mo.tree) (ch:=mo.ch) (look:=O8 (pAt mo.procs v.proc)) (mo.tree.length+1) n
   have e2:mo.edgeS st v.proc (pAt mo.procs v.proc) E=⟨(st.at'.set v.proc E.to),st.vars,st.chans,-1⟩:=by unfold Mo.edgeS Mo.actS;rw [if_neg (by omega),if_neg (by omega),if_neg (by omega)];rfl
   refine zY (aN g0 (aN g1 (aN g2 (aN g3 (aN ga (aN gv (aN hk (aN hp (aN he (aN hpa (aN hE (aN h6 (aN om (aN ox (aN oc (aN hn1 hval)))))))))))))))) ?_
   refine Z4 (fun c=>?_) (fun c=>?_)
   ·refine zY (aN g0 (aN g2 (aN hk (aN om c)))) ?_
    refine a4k (H.same (A:=(st.at'.set v.proc E.to)) (V:=st.vars) (hd:=-1) (by simp) (by simp) (by simp (disch:=(first|exact Rf.mk rfl|with_reducible assumption|omega|((repeat (first|rw [nP]|rw [nS]|rw [M3]))<;>omega)|decide)) only [go_sem,↓reduceIte,ga]) (by simp (disch:=(first|exact Rf.mk rfl|with_reducible assumption|omega|((repeat (first|rw [nP]|rw [nS]|rw [M3]))<;>omega)|decide)) only [go_sem,↓reduceIte,gv]) (fun j h1 h2 h3 h4=>by simp (disch:=(first|exact Rf.mk rfl|with_reducible assumption|omega|((repeat (first|rw [nP]|rw [nS]|rw [M3]))<;>omega)|decide)) only [go_sem,↓reduceIte])) a4m ?_
    intro x' hx'
    rw [e2] at hfit
    have hsb:=a4C hm ho (x:=x') ⟨hx',a2u hf (a0F.1 hfit),a0F.1 hfit⟩ hp
    refine zY hsb ?_
    refine Y3 (fun c2=>?_) (fun c2=>?_)
    ·refine zY (aN g2 (aN g3 (aN oc hk))) ?_
     refine Z7 ⟨_,rfl,?_⟩
     simp only [e2,c2,Bool.and_self,if_true]
     exact H.same (A:=(st.at'.set v.proc E.to)) (V:=st.vars) (hd:=(v.proc:Int)) (by simp) (by simp) (by simp (disch:=(first|exact Rf.mk rfl|with_reducible assumption|omega|((repeat (first|rw [nP]|rw [nS]|rw [M3]))<;>omega)|decide)) only [go_sem,↓reduceIte,ga]) (by simp (disch:=(first|exact Rf.mk rfl|with_reducible assumption|omega|((repeat (first|rw [nP]|rw [nS]|rw [M3]))<;>omega)|decide)) only [go_sem,↓reduceIte,gv]) (fun j h1 h2 h3 h4=>by simp (disch:=(first|exact Rf.mk rfl|with_reducible assumption|omega|((repeat (first|rw [nP]|rw [nS]|rw [M3]))<;>omega)|decide)) only [go_sem,↓reduceIte])
    ·refine zY (aN g2 (aN g3 (aN oc hk))) ?_
     refine Z7 ⟨_,rfl,?_⟩
     simp only [e2,c2,Bool.and_false,Bool.false_eq_true,if_false]
     exact H.same (A:=(st.at'.set v.proc E.to)) (V:=st.vars) (hd:=-1) (by simp) (by simp) (by simp (disch:=(first|exact Rf.mk rfl|with_reducible assumption|omega|((repeat (first|rw [nP]|rw [nS]|rw [M3]))<;>omega)|decide)) only [go_sem,↓reduceIte,ga]) (by simp (disch:=(first|exact Rf.mk rfl|with_reducible assumption|omega|((repeat (first|rw [nP]|rw [nS]|rw [M3]))<;>omega)|decide)) only [go_sem,↓reduceIte,gv]) (fun j h1 h2 h3 h4=>by simp (disch:=(first|exact Rf.mk rfl|with_reducible assumption|omega|((repeat (first|rw [nP]|rw [nS]|rw [M3]))<;>omega)|decide)) only [go_sem,↓reduceIte])
   ·refine zY (aN g0 (aN g2 (aN g3 (aN hk (aN om (aN oc c)))))) ?_
    refine Z7 ⟨_,rfl,?_⟩
    simp only [e2,Bool.false_and,Bool.false_eq_true,if_false]
    exact H.same (A:=(st.at'.set v.proc E.to)) (V:=st.vars) (hd:=-1) (by simp) (by simp) (by simp (disch:=(first|exact Rf.mk rfl|with_reducible assumption|omega|((repeat (first|rw [nP]|rw [nS]|rw [M3]))<;>omega)|decide)) only [go_sem,↓reduceIte,ga]) (by simp (disch:=(first|exact Rf.mk rfl|with_reducible assumption|omega|((repeat (first|rw [nP]|rw [nS]|rw [M3]))<;>omega)|decide)) only [go_sem,↓reduceIte,gv]) (fun j h1 h2 h3 h4=>by simp (disch:=(first|exact Rf.mk rfl|with_reducible assumption|omega|((repeat (first|rw [nP]|rw [nS]|rw [M3]))<;>omega)|decide)) only [go_sem,↓reduceIte])
 ·rcases gc with ⟨h1,_⟩ | ⟨c,rfl,gc,nc,ca,cv,cq⟩
  ·rw [h1] at hcl;simp at hcl;omega
  have hc':v.chan<st.chans.length:=by omega
  obtain ⟨gk,nk,ka,kv⟩:=gq v.chan hc'
  have kc:=cq v.chan hc'
  have lc:=M7 gc
  have lk:=M7 gk
  have e:mo.doS st v=⟨st.at',st.vars,st.chans.set v.chan ((cAt st.chans v.chan).drop 1),st.hold⟩:=by unfold Mo.doS;rw [if_pos hk]
  rw [e]
  by_cases l2:1<(cAt st.chans v.chan).length
  ·simp (disch:=(first|exact Rf.mk rfl|with_reducible assumption|omega|((repeat (first|rw [nP]|rw [nS]|rw [M3]))<;>omega)|decide)) only [go_sem,↓reduceIte,g0,g1,g2,g3,ga,gv,gc,gk,hk,hc',hil,om,ox,oc,l2,hlen,a55]
   refine Z7 ⟨_,rfl,H.chan (d:=.arr (nAt ids v.chan) 1 ((cAt st.chans v.chan).length-1) 1) hc' rfl rfl ?_ ?_ ?_ (a6n ?_ l2) fun j hj hjk=>?_⟩
   ·exact zZ ga
   ·exact zZ gv
   ·exact zZ gc
   ·exact zZ gk
   ·obtain ⟨gj,nj,ja,jv⟩:=gq j hj
    have jc:=cq j hj
    have lj:=M7 gj
    have jk:nAt ids j≠nAt ids v.chan:=fun e=>hjk (inj _ _ hj hc' e)
    exact zZ gj
  ·have l3:(cAt st.chans v.chan).length=1:=by omega
   refine zY (aN g0 (aN g1 (aN g2 (aN g3 (aN ga (aN gv (aN gc (aN gk (aN hk (aN hc' (aN hil (aN om (aN ox (aN oc l3)))))))))))))) ?_
   refine Z7 ⟨_,rfl,H.chan (d:=.lst 1 []) hc' rfl rfl ?_ ?_ ?_ (a5O l2) fun j hj hjk=>?_⟩
   ·exact zZ ga
   ·exact zZ gv
   ·exact zZ gc
   ·obtain ⟨gj,nj,ja,jv⟩:=gq j hj
    have jc:=cq j hj
    have lj:=M7 gj
    exact zZ gj
 ·rcases gc with ⟨h1,_⟩ | ⟨c,rfl,gc,nc,ca,cv,cq⟩
  ·rw [h1] at hcl;simp at hcl;omega
  have hc':v.chan<st.chans.length:=by omega
  obtain ⟨gk,nk,ka,kv⟩:=gq v.chan hc'
  have kc:=cq v.chan hc'
  have lc:=M7 gc
  have lk:=M7 gk
  have e:mo.doS st v=⟨st.at',st.vars,st.chans.set v.chan (cAt st.chans v.chan++[zAt (cAt st.chans v.chan) 0]),st.hold⟩:=by unfold Mo.doS;rw [if_neg (by omega),if_pos hk]
  rw [e]
  refine zY (aN g0 (aN g1 (aN g2 (aN g3 (aN ga (aN gv (aN gc (aN gk (aN hk (aN hc' (aN hil (aN om (aN ox (aN oc hlen)))))))))))))) ?_
  have hr3:=hf.ch _ (a21 hc)
  refine b3q (cs:=O6 (cAt st.chans v.chan)) (x:=.int .i64 (zAt (cAt st.chans v.chan) 0)) (by simp (disch:=(first|exact Rf.mk rfl|with_reducible assumption|omega|((repeat (first|rw [nP]|rw [nS]|rw [M3]))<;>omega)|decide)) only [go_sem,↓reduceIte,gk]) (by simp) (by simp (disch:=(first|exact Rf.mk rfl|with_reducible assumption|omega|((repeat (first|rw [nP]|rw [nS]|rw [M3]))<;>omega)|decide)) only [go_sem,↓reduceIte]) (by decide) (by omega) (by simp (disch:=(first|exact Rf.mk rfl|with_reducible assumption|omega|((repeat (first|rw [nP]|rw [nS]|rw [M3]))<;>omega)|decide)) only [go_sem,↓reduceIte]) ?_
  refine zY (aN g0 (aN g1 (aN g2 (aN g3 (aN ga (aN gv (aN gc (aN gk (aN hk (aN hc' (aN hil (aN om (aN ox (aN oc hlen)))))))))))))) ?_
  refine Z7 ⟨_,rfl,H.chan (d:=.arr (s1.next+1+1) 0 ((cAt st.chans v.chan).length+1) 1) hc' rfl rfl ?_ ?_ ?_ ?_ fun j hj hjk=>?_⟩
  ·exact zZ ga
  ·exact zZ gv
  ·exact zZ gc
  ·rw [show (cAt st.chans v.chan).length+1=(cAt st.chans v.chan++[zAt (cAt st.chans v.chan) 0]).length by simp]
   refine a3U ?_
   refine zY0 ?_
   simp [O6]
  ·obtain ⟨gj,nj,ja,jv⟩:=gq j hj
   have jc:=cq j hj
   have lj:=M7 gj
   have jk:nAt ids j≠nAt ids v.chan:=fun e=>hjk (inj _ _ hj hc' e)
   exact zZ gj
end Go.Proofs.YtnjlhebkhjcagaaGreat
namespace Go.V
variable {mo:Mo} {M:Stt->List Mv}
def Mo.fst (mo:Mo):Stt:=⟨List.replicate mo.procs.length 0,mo.vals,List.replicate mo.chans.length [],-1⟩
theorem b21 {n i:Nat}:nAt (List.replicate n 0) i=0:=by
 unfold nAt
 by_cases h:i<n
 ·simp [List.getD,h]
 ·simp [List.getD,h]
theorem b5t (ho:N2 mo) (hf:W9 mo):Fit mo mo.fst:=by
 refine a0F.1 ⟨by simp [Mo.fst],by simp [Mo.fst,Mo.vals],by simp [Mo.fst],fun i hi=>?_,fun i hi=>?_,fun i hi=>?_,fun i hi n hn=>?_,by simp only [Mo.fst];omega⟩
 ·have:=(ho.pr _ (V1 hi)).inv.two
  show nAt (List.replicate _ 0) i<_
  rw [b21];omega
 ·show N4 (zAt mo.vals i) _=zAt mo.vals i
  rw [a70 hi]
  exact (hf.vr _ (a3v hi)).2.2
 ·show ((cAt (List.replicate _ []) i).length:Int)<=_
  rw [a6M]
  have:=(hf.ch _ (a21 hi)).1
  simp only [List.length_nil];omega
 ·have hn:n∈cAt (List.replicate _ []) i:=hn
  rw [a6M] at hn;cases hn
theorem b18 (ho:N2 mo) (hf:W9 mo):a1h mo mo.fst:=⟨b5t ho hf,fun j hj=>by simp only [Mo.fst] at hj;omega⟩
def Rch (mo:Mo) (M:Stt->List Mv) (t:Stt):Prop:=∃n,Z3 mo M n mo.fst t
theorem Z3.snoc:∀ {n:Nat} {s t:Stt} {v:Mv},Z3 mo M n s t->v∈M t->Z3 mo M (n+1) s (mo.doS t v)
 | 0,s,t,v,h,hv=>by cases h;exact ⟨v,hv,rfl⟩
 | n+1,s,t,v,⟨w,hw,h⟩,hv=>⟨w,hw,h.snoc hv⟩
theorem Rch.step {t:Stt} {v:Mv} (h:Rch mo M t) (hv:v∈M t):Rch mo M (mo.doS t v):=by
 obtain ⟨n,h⟩:=h
 exact ⟨n+1,h.snoc hv⟩
theorem Z3.mono {M':Stt->List Mv} (hs:∀s v,v∈M s->v∈M' s):∀ {n:Nat} {s t:Stt},Z3 mo M n s t->Z3 mo M' n s t
 | 0,s,t,h=>h
 | n+1,s,t,⟨w,hw,h⟩=>⟨w,hs _ _ hw,h.mono hs⟩
theorem Rch.mono {M':Stt->List Mv} (hs:∀s v,v∈M s->v∈M' s) {t:Stt} (h:Rch mo M t):Rch mo M' t:=by
 obtain ⟨n,h⟩:=h
 exact ⟨n,h.mono hs⟩
theorem Rch.inv (ho:N2 mo) (hf:W9 mo) (hs:∀s v,v∈M s->v∈mo.moves s) {t:Stt} (h:Rch mo M t):a1h mo t:=by
 obtain ⟨n,h⟩:=h
 exact (h.mono hs).inv ho hf (b18 ho hf)
theorem b9G {L:List Stt} (h0:mo.fst∈L) (hc:∀s∈L,∀v∈M s,mo.doS s v∈L) {t:Stt} (h:Rch mo M t):t∈L:=by
 obtain ⟨n,h⟩:=h
 have key:∀ {n:Nat} {s t:Stt},s∈L->Z3 mo M n s t->t∈L:=by
  intro n
  induction n with
  | zero=>intro s t hs h;cases h;exact hs
  | succ n ih=>intro s t hs h;obtain ⟨v,hv,h⟩:=h;exact ih (hc s hs v hv) h
 exact key h0 h
def a9Z (mo:Mo) (M:Stt->List Mv) (a b:Bool):Prop :=
 (a=true/\b=true/\∃t,Rch mo M t/\mo.badS t=true)∨(a=false/\b=true/\∃L:List Stt,L.length<=120/\∀t,Rch mo M t->t∈L/\mo.badS t=false)∨(a=false/\b=false)
abbrev QL:=List (StD×Stt)
def qAt (l:QL) (i:Nat):StD×Stt:=l.getD i ⟨⟨.nils,.nils,.nils⟩,⟨[],[],[],0⟩⟩
def a47 (q:StD×Stt):List D:=[q.1.da,q.1.dv,q.1.dc,.int .i64 q.2.hold]
def a1r (l:QL):List (List D):=l.map a47
theorem a5d {l:QL} {i:Nat} (h:i<l.length):qAt l i=l[i]:=by simp [qAt,List.getD,h]
theorem a8k {l:QL} {i:Nat} (h:i<l.length):qAt l i∈l:=by rw [a5d h];exact List.getElem_mem h
theorem b6z {l:QL} {q:StD×Stt} (h:q∈l):∃i,i<l.length/\qAt l i=q:=by
 obtain ⟨i,hi,e⟩:=List.getElem_of_mem h
 exact ⟨i,hi,by rw [a5d hi,e]⟩
theorem a8i {l r:QL} {i:Nat} (h:i<l.length):qAt (l++r) i=qAt l i:=by
 rw [a5d h,a5d (by simp;omega),List.getElem_append_left h]
@[simp] theorem a25 (l:QL):(a1r l).length=l.length:=by simp [a1r]
theorem a9G (l:QL):∀r∈a1r l,r.length=4:=by intro r h;obtain ⟨b,_,rfl⟩:=List.mem_map.1 h;rfl
structure a0E (mo:Mo) (M:Stt->List Mv) (L:QL) (i:Nat):Prop where
 fst:mo.fst∈L.map Prod.snd
 rch:∀q∈L,Rch mo M q.2
 f:∀q∈L,StF q.1 q.2
 ok:∀j,j<i->mo.badS (qAt L j).2=false
 cl:∀j,j<i->∀v∈M (qAt L j).2,mo.doS (qAt L j).2 v∈L.map Prod.snd
 nd:(L.map Prod.snd).Nodup
theorem a0E.start {q:StD×Stt} (h1:q.2=mo.fst) (h2:StF q.1 q.2):a0E mo M [q] 0:=by
 refine ⟨by simp [h1],fun p hp=>?_,fun p hp=>?_,fun j hj=>by omega,fun j hj=>by omega,by simp⟩
 ·rw [List.mem_singleton.1 hp,h1];exact ⟨0,rfl⟩
 ·rw [List.mem_singleton.1 hp];exact h2
theorem a0E.app {L:QL} {i:Nat} (h:a0E mo M L i) (hi:i<=L.length) {q:StD×Stt} (hr:Rch mo M q.2) (hf:StF q.1 q.2) (hn:q.2∉L.map Prod.snd):a0E mo M (L++[q]) i:=by
 refine ⟨by rw [List.map_append];exact List.mem_append_left _ h.fst,fun p hp=>?_,fun p hp=>?_,fun j hj=>?_,fun j hj v hv=>?_,?_⟩
 ·rcases List.mem_append.1 hp with hp | hp
  ·exact h.rch p hp
  ·rw [List.mem_singleton.1 hp];exact hr
 ·rcases List.mem_append.1 hp with hp | hp
  ·exact h.f p hp
  ·rw [List.mem_singleton.1 hp];exact hf
 ·rw [a8i (by omega)];exact h.ok j hj
 ·rw [a8i (by omega)] at hv ⊢
  rw [List.map_append]
  exact List.mem_append_left _ (h.cl j hj v hv)
 ·rw [List.map_append]
  refine List.nodup_append.2 ⟨h.nd,by simp,fun a ha b hb=>?_⟩
  simp only [List.map_cons,List.map_nil,List.mem_singleton] at hb
  rw [hb]
  exact fun e=>hn (e▸ha)
theorem a0E.next {L:QL} {i:Nat} (h:a0E mo M L i) (hb:mo.badS (qAt L i).2=false) (hc:∀v∈M (qAt L i).2,mo.doS (qAt L i).2 v∈L.map Prod.snd):a0E mo M L (i+1):=by
 refine ⟨h.fst,h.rch,h.f,fun j hj=>?_,fun j hj=>?_,h.nd⟩
 ·by_cases e:j=i
  ·rw [e];exact hb
  ·exact h.ok j (by omega)
 ·by_cases e:j=i
  ·rw [e];exact hc
  ·exact h.cl j (by omega)
theorem a0E.all {L:QL} {i:Nat} (h:a0E mo M L i) (hi:¬ i<L.length):∀t,Rch mo M t->t∈L.map Prod.snd/\mo.badS t=false:=by
 intro t ht
 have hm:=b9G (L:=L.map Prod.snd) h.fst (fun s hs v hv=>by
  obtain ⟨q,hq,rfl⟩:=List.mem_map.1 hs
  obtain ⟨j,hj,rfl⟩:=b6z hq
  exact h.cl j (by omega) v hv) ht
 refine ⟨hm,?_⟩
 obtain ⟨q,hq,rfl⟩:=List.mem_map.1 hm
 obtain ⟨j,hj,rfl⟩:=b6z hq
 exact h.ok j (by omega)
theorem a0E.none {L:QL} {i:Nat} (h:a0E mo M L i) (hi:¬ i<L.length) (hl:L.length<=120):a9Z mo M false true :=
 .inr (.inl ⟨rfl,rfl,L.map Prod.snd,by rw [List.length_map];exact hl,h.all hi⟩)
theorem b3e {α:Type} [DecidableEq α]:∀ {l r:List α},l.Nodup->(∀a∈l,a∈r)->l.length<=r.length
 | [],r,_,_=>Nat.zero_le _
 | a::l,r,hn,hs=>by
   rw [List.nodup_cons] at hn
   have ha:=hs a (by simp)
   have:=b3e (l:=l) (r:=r.erase a) hn.2 fun b hb=>(List.mem_erase_of_ne fun e=>hn.1 (by rw [<- e];exact hb)).2 (hs b (by simp [hb]))
   rw [List.length_erase_of_mem ha] at this
   have:=List.length_pos_of_mem ha
   simp only [List.length_cons];omega
theorem a0E.bad {L:QL} {i:Nat} (h:a0E mo M L i) (hi:i<L.length) (hb:mo.badS (qAt L i).2=true):a9Z mo M true true :=
 .inl ⟨rfl,rfl,_,h.rch _ (a8k hi),hb⟩
end Go.V
namespace Go.V
variable {mo:Mo} {π τ:Nat->Nat} {s s':Stt}
structure Sym (mo:Mo) (π τ:Nat->Nat):Prop where
 pi:∀v,π (π v)=v
 pg:∀v,v<mo.globals->π v=v
 pl:∀v,v<mo.vars.length->π v<mo.vars.length
 pw:∀v,v<mo.vars.length->(vAt mo.vars (π v)).width=(vAt mo.vars v).width
 tt:∀j,τ (τ j)=j
 tl:∀j,j<mo.procs.length->τ j<mo.procs.length
 nm:∀j,j<mo.procs.length->(pAt mo.procs (τ j)).names=(pAt mo.procs j).names
 vr:∀j,j<mo.procs.length->(pAt mo.procs (τ j)).vars=(pAt mo.procs j).vars.map π
 ed:∀j,j<mo.procs.length->(pAt mo.procs (τ j)).edges=(pAt mo.procs j).edges.map (V2 π)
 rs:∀j,j<mo.procs.length->(pAt mo.procs (τ j)).rest=(pAt mo.procs j).rest
structure SR (mo:Mo) (π τ:Nat->Nat) (s s':Stt):Prop where
 al:s.at'.length=mo.procs.length
 al':s'.at'.length=mo.procs.length
 at':∀j,j<mo.procs.length->nAt s'.at' (τ j)=nAt s.at' j
 vl:s.vars.length=mo.vars.length
 vl':s'.vars.length=mo.vars.length
 vr:∀v,v<mo.vars.length->zAt s'.vars (π v)=zAt s.vars v
 ch:s'.chans=s.chans
 hd:(s.hold<0/\s'.hold=s.hold)∨∃j,j<mo.procs.length/\s.hold=(j:Int)/\s'.hold=((τ j:Nat):Int)
theorem a6U:(-1:Int)<0:=by decide
theorem Sym.pe (h:Sym mo π τ) {a b:Nat}:π a=π b↔a=b:=⟨fun e=>by rw [<- h.pi a,e,h.pi],fun e=>by rw [e]⟩
theorem Sym.te (h:Sym mo π τ) {a b:Nat}:τ a=τ b↔a=b:=⟨fun e=>by rw [<- h.tt a,e,h.tt],fun e=>by rw [e]⟩
theorem SR.symm (h:Sym mo π τ) (r:SR mo π τ s s'):SR mo π τ s' s:=by
 refine ⟨r.al',r.al,fun j hj=>?_,r.vl',r.vl,fun v hv=>?_,r.ch.symm,?_⟩
 ·rw [<- r.at' (τ j) (h.tl j hj),h.tt]
 ·rw [<- r.vr (π v) (h.pl v hv),h.pi]
 ·rcases r.hd with ⟨a,b⟩ | ⟨j,hj,a,b⟩
  ·exact .inl ⟨by rw [b];exact a,b.symm⟩
  ·exact .inr ⟨τ j,h.tl j hj,b,by rw [h.tt];exact a⟩
theorem a8V {t:List Nd} {ch:List ByteArray} {look look':ByteArray->Option Nat} (hc:s'.chans=s.chans) (hl:∀w,(look' w).map (zAt s'.vars)=(look w).map (zAt s.vars)):∀n k,S7 t ch look' s' n k=S7 t ch look s n k
 | 0,k=>rfl
 | n+1,k=>by
   have:=hl ((nd t k).word 0)
   unfold S7
   simp only [a8V hc hl n,hc]
   cases h1:look' ((nd t k).word 0)<;>cases h2:look ((nd t k).word 0)<;>rw [h1,h2] at this<;>simp only [Option.map_some,Option.map_none,Option.some.injEq,reduceCtorEq] at this
   ·simp only [this]
theorem c0D (ho:N2 mo) (h:Sym mo π τ) (r:SR mo π τ s s') {j:Nat} (hj:j<mo.procs.length) (w:ByteArray):(O8 (pAt mo.procs (τ j)) w).map (zAt s'.vars)=(O8 (pAt mo.procs j) w).map (zAt s.vars):=by
 have hp:=ho.pr _ (V1 hj)
 unfold O8
 rw [h.nm j hj,h.vr j hj]
 split
 ·rename_i hi
  rw [hp.same] at hi
  rw [b0Q hi]
  simp only [Option.map_some]
  rw [r.vr]
  refine hp.var _ ?_
  simp only [List.getD,List.getElem?_eq_getElem hi,Option.getD_some]
  exact List.getElem_mem hi
 ·rfl
theorem b6X (ho:N2 mo) (h:Sym mo π τ) (r:SR mo π τ s s') {j:Nat} (hj:j<mo.procs.length) (e:Ed) (z:Int):mo.ex (pAt mo.procs (τ j)) s' (V2 π e) z=mo.ex (pAt mo.procs j) s e z:=by
 unfold Mo.ex Mo.val
 show (if 0<=e.expr then _ else _)=_
 split
 ·exact a8V r.ch (c0D ho h r hj) _ _
 ·rfl
theorem b5p (ho:N2 mo) (h:Sym mo π τ) (r:SR mo π τ s s') {j:Nat} (hj:j<mo.procs.length) (e:Ed):mo.can s' (τ j) (pAt mo.procs (τ j)) (V2 π e)=mo.can s j (pAt mo.procs j) e:=by
 unfold Mo.can
 rw [b6X ho h r hj,r.at' j hj,r.ch]
 rfl
theorem c0R (ho:N2 mo) (h:Sym mo π τ) (r:SR mo π τ s s') {j:Nat} (hj:j<mo.procs.length):mo.someS s' (τ j) (pAt mo.procs (τ j))=mo.someS s j (pAt mo.procs j):=by
 unfold Mo.someS
 rw [h.ed j hj,List.any_map]
 congr 1
 funext e
 exact b5p ho h r hj e
theorem c2J (ho:N2 mo) (h:Sym mo π τ) (r:SR mo π τ s s') {j:Nat} (hj:j<mo.procs.length) {e:Ed} (he:e∈(pAt mo.procs j).edges):SR mo π τ (mo.edgeS s j (pAt mo.procs j) e) (mo.edgeS s' (τ j) (pAt mo.procs (τ j)) (V2 π e)):=by
 have hp:=ho.pr _ (V1 hj)
 have heo:=hp.inv.ed e he
 have hx:=b6X ho h r hj e 0
 have at1:∀i,i<mo.procs.length->nAt (s'.at'.set (τ j) e.to) (τ i)=nAt (s.at'.set j e.to) i:=fun i hi=>by
  have h1:j<s.at'.length:=by rw [r.al];exact hj
  have h2:τ j<s'.at'.length:=by rw [r.al'];exact h.tl j hj
  rw [a4R h1,a4R h2]
  by_cases c:i=j
  ·rw [if_pos c,if_pos (by rw [c])]
  ·rw [if_neg c,if_neg (by rw [h.te];exact c),r.at' i hi]
 have vr1:∀x,e.act=1∨e.act=3->∀v,v<mo.vars.length->zAt (s'.vars.set (a1S π e.var).toNat (N4 x (vAt mo.vars (a1S π e.var).toNat).width.toNat)) (π v)=zAt (s.vars.set e.var.toNat (N4 x (vAt mo.vars e.var.toNat).width.toNat)) v:=fun x ha v hv=>by
  obtain ⟨a,ha1,ha2⟩:=heo.v1 ha
  have hal:=hp.var a ha1
  rw [ha2,b6x,Int.toNat_natCast,Int.toNat_natCast,h.pw a hal]
  have h1:a<s.vars.length:=by rw [r.vl];exact hal
  have h2:π a<s'.vars.length:=by rw [r.vl'];exact h.pl a hal
  rw [a5e h1,a5e h2]
  by_cases c:v=a
  ·rw [if_pos c,if_pos (by rw [c])]
  ·rw [if_neg c,if_neg (by rw [h.pe];exact c),r.vr v hv]
 unfold Mo.edgeS Mo.actS
 rw [hx]
 have ea:(V2 π e).act=e.act:=rfl
 have ec:(V2 π e).chan=e.chan:=rfl
 have et:(V2 π e).to=e.to:=rfl
 have ev:(V2 π e).var=a1S π e.var:=rfl
 rw [ea,ec,et,ev]
 by_cases c1:e.act=1
 ·rw [if_pos c1,if_pos c1]
  exact ⟨by simp [Stt.free,Stt.go,r.al],by simp [Stt.free,Stt.go,r.al'],at1,by simp [Stt.free,Stt.go,r.vl],by simp [Stt.free,Stt.go,r.vl'],vr1 _ (.inl c1),r.ch,.inl ⟨a6U,rfl⟩⟩
 rw [if_neg c1,if_neg c1]
 by_cases c2:e.act=2
 ·rw [if_pos c2,if_pos c2]
  exact ⟨by simp [Stt.free,Stt.go,r.al],by simp [Stt.free,Stt.go,r.al'],at1,r.vl,r.vl',r.vr,by simp only [Stt.free,Stt.go,r.ch],.inl ⟨a6U,rfl⟩⟩
 rw [if_neg c2,if_neg c2]
 by_cases c3:e.act=3
 ·rw [if_pos c3,if_pos c3]
  refine ⟨by simp [Stt.free,Stt.go,r.al],by simp [Stt.free,Stt.go,r.al'],at1,by simp [Stt.free,Stt.go,r.vl],by simp [Stt.free,Stt.go,r.vl'],?_,by simp only [Stt.free,Stt.go,r.ch],.inl ⟨a6U,rfl⟩⟩
  simp only [Stt.free,Stt.go,r.ch]
  exact vr1 _ (.inr c3)
 rw [if_neg c3,if_neg c3]
 exact ⟨by simp [Stt.free,Stt.go,r.al],by simp [Stt.free,Stt.go,r.al'],at1,r.vl,r.vl',r.vr,r.ch,.inl ⟨a6U,rfl⟩⟩
theorem c50 (ho:N2 mo) (h:Sym mo π τ) (r:SR mo π τ s s') {j:Nat} (hj:j<mo.procs.length) {e:Ed} (he:e∈(pAt mo.procs j).edges):SR mo π τ (mo.doE s j (pAt mo.procs j) e) (mo.doE s' (τ j) (pAt mo.procs (τ j)) (V2 π e)):=by
 have r1:=c2J ho h r hj he
 unfold Mo.doE
 rw [c0R ho h r1 hj]
 have ek:(V2 π e).keep=e.keep:=rfl
 rw [ek]
 refine ⟨r1.al,r1.al',r1.at',r1.vl,r1.vl',r1.vr,r1.ch,?_⟩
 by_cases c:(e.keep&&mo.someS (mo.edgeS s j (pAt mo.procs j) e) j (pAt mo.procs j))=true
 ·simp only [if_pos c]
  exact .inr ⟨j,hj,rfl,rfl⟩
 ·simp only [if_neg c]
  exact .inl ⟨a6U,trivial⟩
def mapM (τ:Nat->Nat) (v:Mv):Mv:=if v.kind=0 then { v with proc:=τ v.proc } else v
theorem a8F {l:List Ed} {f:Ed->Ed} {i:Nat} (h:i<l.length):eAt (l.map f) i=f (eAt l i):=by
 rw [a17 h,a17 (by simpa using h)];simp
theorem a3Q {c:Nat} {v:Mv} (h:v∈mo.movesC s c):v.kind=1∨v.kind=2:=by
 unfold Mo.movesC at h
 rw [List.mem_append] at h
 rcases h with h | h
 ·split at h
  ·have:=List.mem_singleton.1 h
   left;rw [this]
  ·cases h
 ·split at h
  ·have:=List.mem_singleton.1 h
   right;rw [this]
  ·cases h
theorem b13 (ho:N2 mo) (h:Sym mo π τ) (r:SR mo π τ s s') {v:Mv} (hv:v∈mo.moves s):mapM τ v∈mo.moves s':=by
 rw [a1G] at hv ⊢
 rcases hv with ⟨a,b,c,d,e,f⟩ | ⟨a,b,c⟩
 ·left
  unfold mapM
  rw [if_pos a]
  refine ⟨a,b,h.tl _ c,?_,?_,?_⟩
  ·simp only;rw [h.ed _ c,List.length_map];exact d
  ·simp only;rw [h.ed _ c,a8F d,b5p ho h r c];exact e
  ·simp only
   rcases r.hd with ⟨x,y⟩ | ⟨j,hj,x,y⟩
   ·omega
   ·have:j=v.proc:=by omega
    rw [y,this];omega
 ·right
  obtain ⟨_,_,k⟩:=a4z c
  have hk:v.kind≠0:=by have:=a3Q c;omega
  unfold mapM
  rw [if_neg hk]
  refine ⟨?_,b,?_⟩
  ·rcases r.hd with ⟨x,y⟩ | ⟨j,hj,x,y⟩<;>omega
  ·unfold Mo.movesC at c ⊢
   rw [r.ch];exact c
theorem b5f (ho:N2 mo) (h:Sym mo π τ) (r:SR mo π τ s s') {v:Mv} (hv:v∈mo.moves s):SR mo π τ (mo.doS s v) (mo.doS s' (mapM τ v)):=by
 unfold mapM
 by_cases k0:v.kind=0
 ·rw [if_pos k0]
  unfold Mo.doS
  simp only
  rw [if_neg (by omega),if_neg (by omega),if_neg (by omega),if_neg (by omega)]
  rcases a1G.1 hv with ⟨a,b,c,d,e,f⟩ | ⟨a,b,c⟩
  ·rw [h.ed _ c,a8F d]
   exact c50 ho h r c (a1v d)
  ·have:=a3Q c;omega
 ·rw [if_neg k0]
  unfold Mo.doS
  rcases a1G.1 hv with ⟨a,_⟩ | ⟨a,b,c⟩
  ·exact absurd a k0
  split
  ·exact ⟨r.al,r.al',r.at',r.vl,r.vl',r.vr,by simp only [r.ch],r.hd⟩
  ·split
   ·exact ⟨r.al,r.al',r.at',r.vl,r.vl',r.vr,by simp only [r.ch],r.hd⟩
   ·rename_i k1 k2
    have:=a3Q c;omega
theorem c6M (ho:N2 mo) (h:Sym mo π τ) (r:SR mo π τ s s'):mo.safeS s'=mo.safeS s:=by
 have hl:∀w,(a0u mo w).map (zAt s'.vars)=(a0u mo w).map (zAt s.vars):=fun w=>by
  cases hw:a0u mo w with
  | none=>rfl
  | some v =>
    have h1:=b6J hw
    simp only [Option.map_some]
    have:=r.vr v (by have:=ho.gl;omega)
    rw [h.pg v h1] at this
    rw [this]
 unfold Mo.safeS Mo.val
 congr 1
 funext k
 rw [a8V r.ch hl]
theorem c2g (ho:N2 mo) (h:Sym mo π τ) (r:SR mo π τ s s'):mo.deadS s'=mo.deadS s:=by
 have key:∀ {s s':Stt},SR mo π τ s s'->mo.deadS s=true->mo.deadS s'=true:=by
  intro s s' r hd
  unfold Mo.deadS at hd ⊢
  simp only [Bool.and_eq_true,decide_eq_true_eq,Bool.not_eq_true'] at hd ⊢
  refine ⟨?_,?_⟩
  ·cases hm:mo.moves s' with
   | nil=>rfl
   | cons v l =>
     have:=b13 ho h (r.symm h) (v:=v) (by rw [hm];simp)
     rw [hd.1] at this;cases this
  ·rw [<- Bool.not_eq_true,List.all_eq_true]
   intro hall
   have:((List.range mo.procs.length).all fun i=>(pAt mo.procs i).rest.getD (nAt s.at' i) false)=true:=by
    rw [List.all_eq_true]
    intro j hj
    have hj:=List.mem_range.1 hj
    have:=hall (τ j) (List.mem_range.2 (h.tl j hj))
    rw [h.rs j hj,r.at' j hj] at this
    exact this
   rw [this] at hd
   exact Bool.noConfusion hd.2
 rw [Bool.eq_iff_iff]
 exact ⟨key (r.symm h),key r⟩
theorem c33 (ho:N2 mo) (h:Sym mo π τ) (r:SR mo π τ s s'):mo.badS s'=mo.badS s:=by
 unfold Mo.badS
 rw [c6M ho h r,c2g ho h r]
theorem b24 (ho:N2 mo) (h:Sym mo π τ):∀ {n:Nat} {s s' t:Stt},SR mo π τ s s'->Z3 mo mo.moves n s t->∃t',Z3 mo mo.moves n s' t'/\SR mo π τ t t'
 | 0,s,s',t,r,hp=>by cases hp;exact ⟨s',rfl,r⟩
 | n+1,s,s',t,r,⟨v,hv,hp⟩=>by
   obtain ⟨t',h1,h2⟩:=b24 ho h (b5f ho h r hv) hp
   exact ⟨t',⟨_,b13 ho h r hv,h1⟩,h2⟩
end Go.V
namespace Go.V
variable {mo:Mo}
theorem b4X {l r:List Vr} {i:Nat} (h:i<l.length):vAt (l++r) i=vAt l i:=by
 rw [a2C h,a2C (by simp;omega),List.getElem_append_left h]
theorem c7e {l r:List Vr} {i:Nat} (h:i<r.length):vAt (l++r) (l.length+i)=vAt r i:=by
 rw [a2C h,a2C (by simp;omega),List.getElem_append_right (by omega)]
 congr 1;omega
def a6F (t:List Nd) (k i:Nat):Vr:=a1Q ((X8 t (nd t k)).getD i default)
theorem b17 {t:List Nd} {ch:List ByteArray} {k seen:Nat} {a:List Vr×List Pr}:∀c,(V6 t ch k seen c a).1.length=a.1.length+c*N7 t (nd t k)
 | 0=>by simp [V6]
 | c+1=>by
   simp only [V6,List.length_append,List.length_map,a2U,b17 c]
   rw [Nat.succ_mul];omega
theorem b4O {t:List Nd} {ch:List ByteArray} {k seen:Nat} {a:List Vr×List Pr}:∀c,∀j,j<c->∀i,i<N7 t (nd t k)->vAt (V6 t ch k seen c a).1 (a.1.length+j*N7 t (nd t k)+i)=a6F t k i
 | 0,j,h,_,_=>by omega
 | c+1,j,h,i,hi=>by
   have hl:=b17 (t:=t) (ch:=ch) (k:=k) (seen:=seen) (a:=a) c
   simp only [V6]
   by_cases e:j=c
   ·subst e
    rw [<- hl,c7e (by simpa using hi),a2C (by simpa using hi)]
    simp [a6F,List.getD,hi]
   ·have h2:(j+1)*N7 t (nd t k)<=c*N7 t (nd t k):=Nat.mul_le_mul_right _ (by omega)
    rw [Nat.succ_mul] at h2
    rw [b4X (by omega)]
    exact b4O c j (by omega) i hi
theorem b5A (t:List Nd):∀n,n<=(nd t 0).ks.length->∀o∈(a0q t ((nd t 0).ks.take n)).l,o.nv+N7 t (nd t o.k)<=(a0o t (chs t) (gat t).vs ((nd t 0).ks.take n)).vs.length/\∀i,i<N7 t (nd t o.k)->vAt (a0o t (chs t) (gat t).vs ((nd t 0).ks.take n)).vs (o.nv+i)=a6F t o.k i
 | 0,_,o,ho=>by simp [a0q] at ho
 | n+1,hn,o,ho=>by
   have ih:=b5A t n (by omega)
   have hg:=a8l t n (by omega)
   have e:(nd t 0).ks.take (n+1)=(nd t 0).ks.take n++[(nd t 0).ks[n]]:=List.take_succ_eq_append_getElem (by omega)
   rw [e,b11] at ho
   rw [e,b1L]
   generalize (nd t 0).ks[n]=k at *
   generalize a0o t (chs t) (gat t).vs ((nd t 0).ks.take n)=b at *
   generalize a0q t ((nd t 0).ks.take n)=a at *
   have hnv:=hg.nv
   obtain ⟨m,hm⟩:=b6a t (chs t) b k
   have old:o∈a.l->o.nv+N7 t (nd t o.k)<=(a08 t (chs t) b k).vs.length/\∀i,i<N7 t (nd t o.k)->vAt (a08 t (chs t) b k).vs (o.nv+i)=a6F t o.k i:=fun h=>by
    obtain ⟨h1,h2⟩:=ih o h
    rw [hm]
    refine ⟨by rw [List.length_append];omega,fun i hi=>?_⟩
    rw [b4X (by omega)]
    exact h2 i hi
   unfold a2t at ho
   by_cases c3:(nd t k).kind=3
   ·rw [if_pos c3] at ho
    rcases List.mem_append.1 ho with h | h
    ·exact old h
    ·unfold a2E at h
     obtain ⟨c,hc,rfl⟩:=List.mem_map.1 h
     rw [List.mem_range] at hc
     unfold a08
     rw [if_pos c3]
     simp only
     have hl:=b17 (t:=t) (ch:=chs t) (k:=k) (seen:=b.seen) (a:=(b.vs,b.ps)) ((nd t k).num 0).toNat
     have h2:(c+1)*N7 t (nd t k)<=((nd t k).num 0).toNat*N7 t (nd t k):=Nat.mul_le_mul_right _ (by omega)
     rw [Nat.succ_mul] at h2
     simp only at hl
     rw [<- hnv]
     refine ⟨by omega,fun i hi=>?_⟩
     exact b4O (a:=(b.vs,b.ps)) _ c hc i hi
   ·rw [if_neg c3] at ho
    by_cases c2:(nd t k).kind=2
    ·rw [if_pos c2] at ho;exact old ho
    ·rw [if_neg c2] at ho;exact old ho
theorem b19 {t:List Nd} {o:Org} (ho:o∈U6 t):∀i,i<N7 t (nd t o.k)->vAt (gbt t).vs (o.nv+i)=a6F t o.k i:=by
 have h:=b5A t (nd t 0).ks.length (Nat.le_refl _) o
 rw [List.take_length] at h
 exact (h ho).2
structure Cop (mo:Mo) (q n lo:Nat):Prop where
 lt:q+1<mo.procs.length
 gl:mo.globals<=lo
 hi:lo+n+n<=mo.vars.length
 l0:(pAt mo.procs q).locals=(List.range n).map (lo+·)
 l1:(pAt mo.procs (q+1)).locals=(List.range n).map (lo+n+·)
 vr:∀v∈(pAt mo.procs q).vars,v<mo.globals∨v∈(pAt mo.procs q).locals
 re:pAt mo.procs (q+1)=ren (X4 mo.globals n) (pAt mo.procs (q+1)).locals (pAt mo.procs (q+1)).copy (pAt mo.procs q)
 w:∀i,i<n->vAt mo.vars (lo+n+i)=vAt mo.vars (lo+i)
theorem c1Z {t:List Nd} (h:O2 t) (hS:a1d t) {p:Nat} (hp:p<(U2 t).procs.length) (hc:0<(pAt (U2 t).procs p).copy):∃q n lo,p=q+1/\Cop (U2 t) q n lo:=by
 have e:(U2 t).procs=(U6 t).map (a0J t):=(a4w t).1
 have hpl:p<(U6 t).length:=by rw [e,List.length_map] at hp;exact hp
 have ep:∀i (hi:i<(U6 t).length),pAt (U2 t).procs i=a0J t (U6 t)[i]:=fun i hi=>by
  rw [a2K (by rw [e,List.length_map];exact hi)];simp [e]
 have hom:=List.getElem_mem hpl
 have ec:=c7b t _ h hS hom
 rw [ep p hpl,ec] at hc
 obtain ⟨q,hq,rfl,h1,h2,h3,h4⟩:=c5G t p hpl hc
 have hoq:=List.getElem_mem hq
 have g0:=(a30 h hS hoq).2
 have g1:=(a30 h hS hom).2
 have ok0:=a3h hoq
 have ok1:=a3h hom
 have l0:(a0J t (U6 t)[q]).locals=(List.range (N7 t (nd t (U6 t)[q].k))).map ((U6 t)[q].nv+·):=by rw [g0.locals];rfl
 have l1:(a0J t (U6 t)[q+1]).locals=(List.range (N7 t (nd t (U6 t)[q+1].k))).map ((U6 t)[q+1].nv+·):=by rw [g1.locals];rfl
 have v0:=b19 hoq
 have v1:=b19 hom
 have hr:=c3c h hS hoq (o':=(U6 t)[q+1]) h1.symm h2.symm (by omega)
 have hlo:=ok0.lo
 have hhi:=ok1.hi
 have hnv:(U6 t)[q+1].nv=(U6 t)[q].nv+N7 t (nd t (U6 t)[q].k):=by rw [h1];omega
 refine ⟨q,N7 t (nd t (U6 t)[q].k),(U6 t)[q].nv,rfl,by omega,hlo,?_,?_,?_,?_,?_,?_⟩
 ·rw [<- h1,hnv] at hhi;exact hhi
 ·rw [ep q hq];exact l0
 ·rw [ep _ hpl,l1,hnv,h1]
 ·rw [ep q hq]
  obtain ⟨vs,w1,w2,w3,w4⟩:=a6N hoq
  rw [g0.vars,g0.locals]
  intro v hv
  simp only [pr1,List.mem_append,List.mem_range,List.mem_map] at hv ⊢
  rcases hv with hv | hv
  ·exact .inl (by show v<(gat t).vs.length;omega)
  ·exact .inr hv
 ·rw [ep _ hpl,ep q hq]
  have hd:(U6 t)[q+1].nv-(U6 t)[q].nv=N7 t (nd t (U6 t)[q].k):=by omega
  rw [hd] at hr
  rw [g1.locals,g1.copy]
  exact hr
 ·intro i hi
  have a:=v0 i hi
  have b:=v1 i (by rw [<- h1];exact hi)
  rw [hnv,<- h1] at b
  show vAt (gbt t).vs _=vAt (gbt t).vs _
  rw [a,b]
def a1z (lo n v:Nat):Nat:=if lo<=v/\v<lo+n then v+n else if lo+n<=v/\v<lo+n+n then v-n else v
def a07 (q j:Nat):Nat:=if j=q then q+1 else if j=q+1 then q else j
theorem b3I (lo n v:Nat):a1z lo n (a1z lo n v)=v:=by
 unfold a1z
 repeat' split
 all_goals omega
theorem c7m (q j:Nat):a07 q (a07 q j)=j:=by
 unfold a07
 repeat' split
 all_goals omega
theorem c3E {f:Nat->Nat} {e:Ed} (h:∀a:Nat,e.var=(a:Int)->f a=a):V2 f e=e:=by
 unfold V2 a1S
 split
 ·rename_i hv
  obtain ⟨a,ha⟩:=Int.eq_ofNat_of_zero_le hv
  rw [ha,Int.toNat_natCast,h a ha,<- ha]
 ·rfl
theorem c8t {f g:Nat->Nat} {e:Ed} (h:∀a:Nat,e.var=(a:Int)->f (g a)=a):V2 f (V2 g e)=e:=by
 unfold V2 a1S
 by_cases hv:0<=e.var
 ·obtain ⟨a,ha⟩:=Int.eq_ofNat_of_zero_le hv
  simp only [ha,Int.toNat_natCast]
  rw [if_pos (by omega),if_pos (by omega),Int.toNat_natCast,h a ha,<- ha]
 ·simp only [if_neg hv]
theorem c8h {f g:Nat->Nat} {e:Ed} (h:∀a:Nat,e.var=(a:Int)->f a=g a):V2 f e=V2 g e:=by
 unfold V2 a1S
 by_cases hv:0<=e.var
 ·obtain ⟨a,ha⟩:=Int.eq_ofNat_of_zero_le hv
  simp only [ha,Int.toNat_natCast,h a ha]
 ·simp only [if_neg hv]
theorem b0L {p:Pr} (hp:a0j mo p) {e:Ed} (he:e∈p.edges) {a:Nat} (h:e.var=(a:Int)):a∈p.vars:=by
 have heo:=hp.inv.ed e he
 by_cases c:e.act=1∨e.act=3
 ·obtain ⟨b,hb,hv⟩:=heo.v1 c
  have:a=b:=by omega
  rw [this];exact hb
 ·have:=heo.v0 (by have:=heo.act;omega)
  omega
section
variable {q n lo:Nat} (ho:N2 mo) (hq:MoQ mo) (h:Cop mo q n lo)
include h
theorem c6f {v:Nat} (hv:v∈(pAt mo.procs q).vars):v<mo.globals∨(lo<=v/\v<lo+n):=by
 rcases h.vr v hv with h1 | h1
 ·exact .inl h1
 ·rw [h.l0] at h1
  obtain ⟨i,hi,rfl⟩:=List.mem_map.1 h1
  rw [List.mem_range] at hi
  exact .inr ⟨by omega,by omega⟩
theorem a8S {v:Nat} (hv:v∈(pAt mo.procs q).vars):a1z lo n v=X4 mo.globals n v:=by
 have:=h.gl
 unfold a1z X4
 rcases c6f h hv with h1 | h1
 ·rw [if_neg (by omega),if_neg (by omega),if_pos h1]
 ·rw [if_pos h1,if_neg (by omega)]
theorem b6i (hq:MoQ mo) {j:Nat} (hj:j<mo.procs.length) (h0:j≠q) (h1:j≠q+1) {v:Nat} (hv:v∈(pAt mo.procs j).vars):a1z lo n v=v:=by
 have hl:=h.lt
 have a0:¬ (lo<=v/\v<lo+n):=fun c=>hq.own q j (by omega) hj (Ne.symm h0) v (by rw [h.l0];exact List.mem_map.2 ⟨v-lo,List.mem_range.2 (by omega),by omega⟩) hv
 have a1:¬ (lo+n<=v/\v<lo+n+n):=fun c=>hq.own (q+1) j (by omega) hj (Ne.symm h1) v (by rw [h.l1];exact List.mem_map.2 ⟨v-(lo+n),List.mem_range.2 (by omega),by omega⟩) hv
 unfold a1z
 rw [if_neg a0,if_neg a1]
include ho hq
theorem b2t:Sym mo (a1z lo n) (a07 q):=by
 have hl:=h.lt
 have hlo:=h.gl
 have hhi:=h.hi
 have s0:a07 q q=q+1:=if_pos rfl
 have s1:a07 q (q+1)=q:=by unfold a07;rw [if_neg (by omega),if_pos rfl]
 have s2:∀j,j≠q->j≠q+1->a07 q j=j:=fun j a b=>by unfold a07;rw [if_neg a,if_neg b]
 have wv:∀v,v<mo.vars.length->vAt mo.vars (a1z lo n v)=vAt mo.vars v:=fun v hv=>by
  unfold a1z
  split
  ·rename_i c
   have:=h.w (v-lo) (by omega)
   rw [show lo+n+(v-lo)=v+n by omega,show lo+(v-lo)=v by omega] at this
   exact this
  ·split
   ·rename_i c
    have:=h.w (v-(lo+n)) (by omega)
    rw [show lo+n+(v-(lo+n))=v by omega,show lo+(v-(lo+n))=v-n by omega] at this
    exact this.symm
   ·rfl
 have p0:=ho.pr _ (V1 (l:=mo.procs) (i:=q) (by omega))
 have hre:=h.re
 have r1:(pAt mo.procs (q+1)).vars=(pAt mo.procs q).vars.map (X4 mo.globals n):=by rw [hre];rfl
 have r2:(pAt mo.procs (q+1)).edges=(pAt mo.procs q).edges.map (V2 (X4 mo.globals n)):=by rw [hre];rfl
 have r3:(pAt mo.procs (q+1)).names=(pAt mo.procs q).names:=by rw [hre];rfl
 have r4:(pAt mo.procs (q+1)).rest=(pAt mo.procs q).rest:=by rw [hre];rfl
 have back:∀v∈(pAt mo.procs q).vars,a1z lo n (X4 mo.globals n v)=v:=fun v hv=>by
  rw [<- a8S h hv,b3I]
 have idm:∀ {l:List Nat} {f:Nat->Nat},(∀v∈l,f v=v)->l.map f=l:=fun hf=>by
  rw [List.map_congr_left (g:=id) hf,List.map_id]
 have ide:∀ {l:List Ed} {f:Ed->Ed},(∀v∈l,f v=v)->l.map f=l:=fun hf=>by
  rw [List.map_congr_left (g:=id) hf,List.map_id]
 refine ⟨b3I lo n,fun v hv=>?_,fun v hv=>?_,fun v hv=>by rw [wv v hv],c7m q,fun j hj=>?_,fun j hj=>?_,fun j hj=>?_,fun j hj=>?_,fun j hj=>?_⟩
 ·unfold a1z;rw [if_neg (by omega),if_neg (by omega)]
 ·unfold a1z;repeat' split
  all_goals omega
 ·unfold a07;repeat' split
  all_goals omega
 ·by_cases c0:j=q
  ·rw [c0,s0,r3]
  by_cases c1:j=q+1
  ·rw [c1,s1,r3]
  rw [s2 j c0 c1]
 ·by_cases c0:j=q
  ·rw [c0,s0,r1]
   exact List.map_congr_left fun v hv=>(a8S h hv).symm
  by_cases c1:j=q+1
  ·rw [c1,s1,r1,List.map_map]
   exact (idm fun v hv=>back v hv).symm
  rw [s2 j c0 c1]
  exact (idm fun v hv=>b6i h hq hj c0 c1 hv).symm
 ·by_cases c0:j=q
  ·rw [c0,s0,r2]
   exact List.map_congr_left fun e he=>c8h fun a ha=>(a8S h (b0L p0 he ha)).symm
  by_cases c1:j=q+1
  ·rw [c1,s1,r2,List.map_map]
   exact (ide fun e he=>c8t fun a ha=>back a (b0L p0 he ha)).symm
  rw [s2 j c0 c1]
  exact (ide fun e he=>c3E fun a ha=>b6i h hq hj c0 c1 (b0L (ho.pr _ (V1 hj)) he ha)).symm
 ·by_cases c0:j=q
  ·rw [c0,s0,r4]
  by_cases c1:j=q+1
  ·rw [c1,s1,r4]
  rw [s2 j c0 c1]
end
end Go.V
namespace Go.V
variable {mo:Mo} {s:Stt}
def a1D (p:Pr):Bool:=p.edges.all fun e=>decide (e.to≠0)
def Mo.barred (mo:Mo) (st:Stt) (i:Nat):Bool:=decide (0<(pAt mo.procs i).copy)&&a1D (pAt mo.procs i)&&decide (nAt st.at' i=0)&&decide (nAt st.at' (i-1)=0)
def Mo.freeM (mo:Mo) (st:Stt) (v:Mv):Bool:=!(decide (v.kind=0)&&mo.barred st v.proc)
def Mo.someM (mo:Mo) (am:Bool) (st:Stt):List Mv:=(if am then mo.ample st else mo.moves st).filter (mo.freeM st)
def a16 (mo:Mo) (s:Stt):Prop:=∀j,j<mo.procs.length->a1D (pAt mo.procs j)=true->nAt s.at' j=0->s.hold≠(j:Int)/\∀v∈(pAt mo.procs j).locals,zAt s.vars v=(vAt mo.vars v).value
structure MoC (mo:Mo):Prop where
 tw:∀p,p<mo.procs.length->0<(pAt mo.procs p).copy->∃q n lo,p=q+1/\Cop mo q n lo
theorem a9p {t:List Nd} (h:O2 t) (hS:a1d t):MoC (U2 t):=⟨fun _ hp hc=>c1Z h hS hp hc⟩
theorem b3w (ho:N2 mo):a16 mo mo.fst:=fun j hj _ _=>⟨by simp only [Mo.fst];omega,fun v hv=>by
 have hp:=ho.pr _ (V1 hj)
 exact a70 (hp.var v (hp.loc v hv).1)⟩
theorem c7i {l:List Int} {i j:Nat} {x:Int} (h:i≠j):zAt (l.set i x) j=zAt l j:=by
 unfold zAt
 simp [List.getD,List.getElem?_set,h]
theorem b20 {i:Nat} {p:Pr} {e:Ed}:(mo.edgeS s i p e).at'=s.at'.set i e.to:=by
 unfold Mo.edgeS Mo.actS
 repeat' split
 all_goals rfl
theorem c6z {i:Nat} {p:Pr} (hp:a0j mo p) {e:Ed} (he:e∈p.edges) {w:Nat} (hw:w∉p.vars):zAt (mo.edgeS s i p e).vars w=zAt s.vars w:=by
 have key:∀a,e.act=1∨e.act=3->zAt (s.vars.set e.var.toNat a) w=zAt s.vars w:=fun a ha=>by
  obtain ⟨b,hb,hv⟩:=(hp.inv.ed e he).v1 ha
  rw [hv,Int.toNat_natCast]
  exact c7i fun c=>hw (c▸hb)
 unfold Mo.edgeS Mo.actS
 split
 ·rename_i c;exact key _ (.inl c)
 split
 ·rfl
 split
 ·rename_i c;exact key _ (.inr c)
 ·rfl
theorem a16.step (ho:N2 mo) (hq:MoQ mo) (hI:Fit mo s) (hF:a16 mo s) {v:Mv} (hv:v∈mo.moves s):a16 mo (mo.doS s v):=by
 rcases a1G.1 hv with ⟨k0,_,hp,he,_,_⟩ | ⟨_,_,c⟩
 ·have hd:mo.doS s v=mo.doE s v.proc (pAt mo.procs v.proc) (eAt (pAt mo.procs v.proc).edges v.edge):=by
   unfold Mo.doS;rw [if_neg (by omega),if_neg (by omega)]
  have hem:=a1v he
  rw [hd]
  generalize eAt (pAt mo.procs v.proc).edges v.edge=e at *
  have hpo:=ho.pr _ (V1 hp)
  intro j hj hb ha
  have ha:nAt (mo.edgeS s v.proc (pAt mo.procs v.proc) e).at' j=0:=ha
  rw [b20] at ha
  by_cases c:j=v.proc
  ·exfalso
   subst c
   have hl:=hI.at'
   rw [a4R (by omega),if_pos rfl] at ha
   unfold a1D at hb
   have:=List.all_eq_true.1 hb e hem
   simp [ha] at this
  ·have hl:=hI.at'
   rw [a4R (by omega),if_neg c] at ha
   obtain ⟨h1,h2⟩:=hF j hj hb ha
   refine ⟨?_,fun w hw=>?_⟩
   ·unfold Mo.doE
    simp only
    split<;>omega
   ·have:zAt (mo.edgeS s v.proc (pAt mo.procs v.proc) e).vars w=zAt s.vars w:=c6z hpo hem (hq.own j v.proc hj hp c w hw)
    exact this.trans (h2 w hw)
 ·have hk:=a3Q c
  intro j hj hb ha
  have e1:(mo.doS s v).at'=s.at'/\(mo.doS s v).vars=s.vars/\(mo.doS s v).hold=s.hold:=by
   unfold Mo.doS
   split
   ·exact ⟨rfl,rfl,rfl⟩
   ·rw [if_pos (by omega)];exact ⟨rfl,rfl,rfl⟩
  rw [e1.1] at ha
  rw [e1.2.1,e1.2.2]
  exact hF j hj hb ha
theorem b3c {q n lo:Nat} (h:Cop mo q n lo):a1D (pAt mo.procs (q+1))=a1D (pAt mo.procs q):=by
 rw [h.re]
 unfold a1D
 show ((pAt mo.procs q).edges.map _).all _=_
 rw [List.all_map]
 rfl
theorem c4c {q n lo:Nat} (h:Cop mo q n lo) (hI:Fit mo s) (hF:a16 mo s) (hb:mo.barred s (q+1)=true):SR mo (a1z lo n) (a07 q) s s:=by
 unfold Mo.barred at hb
 simp only [Bool.and_eq_true,decide_eq_true_eq,Nat.add_sub_cancel] at hb
 obtain ⟨⟨⟨_,b1⟩,a1⟩,a0⟩:=hb
 have b0:=b1
 rw [b3c h] at b0
 have hl:=h.lt
 obtain ⟨h1,v1⟩:=hF (q+1) hl b1 a1
 obtain ⟨h0,v0⟩:=hF q (by omega) b0 a0
 have eqv:∀i,i<n->zAt s.vars (lo+n+i)=zAt s.vars (lo+i):=fun i hi=>by
  rw [v1 _ (by rw [h.l1];exact List.mem_map.2 ⟨i,List.mem_range.2 hi,rfl⟩),v0 _ (by rw [h.l0];exact List.mem_map.2 ⟨i,List.mem_range.2 hi,rfl⟩),h.w i hi]
 refine ⟨hI.at',hI.at',fun j hj=>?_,hI.vars,hI.vars,fun v hv=>?_,rfl,?_⟩
 ·unfold a07
  split
  ·rename_i c;rw [c,a0,a1]
  ·split
   ·rename_i c;rw [c,a0,a1]
   ·rfl
 ·unfold a1z
  split
  ·have:=eqv (v-lo) (by omega)
   rw [show lo+n+(v-lo)=v+n by omega,show lo+(v-lo)=v by omega] at this
   exact this
  ·split
   ·have:=eqv (v-(lo+n)) (by omega)
    rw [show lo+n+(v-(lo+n))=v by omega,show lo+(v-(lo+n))=v-n by omega] at this
    exact this.symm
   ·rfl
 ·have:=hI.hold
  by_cases c:s.hold<0
  ·exact .inl ⟨c,rfl⟩
  ·refine .inr ⟨s.hold.toNat,by omega,by omega,?_⟩
   unfold a07
   rw [if_neg (by omega),if_neg (by omega)]
   omega
theorem c5V (ho:N2 mo) (hq:MoQ mo) {q n lo:Nat} (h:Cop mo q n lo) (hI:Fit mo s) (hF:a16 mo s) {v:Mv} (hv:v∈mo.moves s) (hk:v.kind=0) (hp:v.proc=q+1) (hb:mo.barred s v.proc=true):mapM (a07 q) v∈mo.moves s/\(mapM (a07 q) v).proc=q/\SR mo (a1z lo n) (a07 q) (mo.doS s v) (mo.doS s (mapM (a07 q) v)):=by
 rw [hp] at hb
 have r:=c4c h hI hF hb
 have y:=b2t ho hq h
 refine ⟨b13 ho y r hv,?_,b5f ho y r hv⟩
 unfold mapM
 rw [if_pos hk]
 show a07 q v.proc=q
 rw [hp]
 unfold a07
 rw [if_neg (by omega),if_pos rfl]
theorem c4z {v:Mv} (h:¬ mo.freeM s v=true):v.kind=0/\mo.barred s v.proc=true:=by
 unfold Mo.freeM at h
 simpa using h
theorem b6F {i:Nat} (h:mo.barred s i=true):0<(pAt mo.procs i).copy:=by
 unfold Mo.barred at h
 simp only [Bool.and_eq_true,decide_eq_true_eq] at h
 exact h.1.1.1
theorem b1G (ho:N2 mo) (hq:MoQ mo) (hC:MoC mo) (hI:Fit mo s) (hF:a16 mo s) {n:Nat}:∀N (v:Mv) (t:Stt),v.proc<N->v∈mo.moves s->Z3 mo mo.moves n (mo.doS s v) t->∃v' t',v'∈mo.moves s/\mo.freeM s v'=true/\Z3 mo mo.moves n (mo.doS s v') t'/\mo.badS t'=mo.badS t
 | 0,v,t,h,_,_=>by omega
 | N+1,v,t,h,hv,hp=>by
   by_cases c:mo.freeM s v=true
   ·exact ⟨v,t,hv,c,hp,rfl⟩
   obtain ⟨hk,hb⟩:=c4z c
   have hpr:v.proc<mo.procs.length:=by
    rcases a1G.1 hv with ⟨_,_,x,_⟩ | ⟨_,_,x⟩
    ·exact x
    ·have:=a3Q x;omega
   obtain ⟨q,m,lo,e,hc⟩:=hC.tw v.proc hpr (b6F hb)
   obtain ⟨h1,h2,r⟩:=c5V ho hq hc hI hF hv hk e hb
   have y:=b2t ho hq hc
   obtain ⟨t1,p1,r1⟩:=b24 ho y r hp
   obtain ⟨v',t',a,b,c',d⟩:=b1G ho hq hC hI hF N _ t1 (by rw [h2];omega) h1 p1
   exact ⟨v',t',a,b,c',d.trans (c33 ho y r1)⟩
theorem b9g (ho:N2 mo) (hq:MoQ mo) (hC:MoC mo) (hI:Fit mo s) (hF:a16 mo s) (h:mo.moves s≠[]):∃v∈mo.moves s,mo.freeM s v=true:=by
 obtain ⟨v,l,e⟩:=List.exists_cons_of_ne_nil h
 obtain ⟨v',_,a,b,_⟩:=b1G ho hq hC hI hF (n:=0) (v.proc+1) v _ (by omega) (by rw [e];simp) rfl
 exact ⟨v',a,b⟩
theorem a28 {am:Bool} {v:Mv} (h:v∈mo.someM am s):v∈mo.moves s:=by
 unfold Mo.someM at h
 have:=(List.mem_filter.1 h).1
 cases am
 ·exact this
 ·exact a4h this
theorem c2A (ho:N2 mo) {q n lo:Nat} (h:Cop mo q n lo) {e:Ed} (he:e∈(pAt mo.procs q).edges) (hq:a1M mo (pAt mo.procs (q+1)) (V2 (X4 mo.globals n) e)=true):a1M mo (pAt mo.procs q) e=true:=by
 have hl:=h.lt
 have hgl:=h.gl
 have p0:=ho.pr _ (V1 (l:=mo.procs) (i:=q) (by omega))
 have hs:=c2B (mo:=mo) (q:=pAt mo.procs q) (d:=n) (c:=(pAt mo.procs (q+1)).copy) (l:=(pAt mo.procs (q+1)).locals) p0.same e
 rw [<- h.re] at hs
 have hown:=a7G ho p0 he
 have ek:(V2 (X4 mo.globals n) e).keep=e.keep:=rfl
 have ef:(V2 (X4 mo.globals n) e).frm=e.frm:=rfl
 have et:(V2 (X4 mo.globals n) e).to=e.to:=rfl
 unfold a1M at hq ⊢
 rw [hs.s,hs.v,hs.z,hs.p,ek,ef,et] at hq
 simp only [Bool.and_eq_true] at hq ⊢
 obtain ⟨⟨h1,h2⟩,h3⟩:=hq
 refine ⟨⟨h1,?_⟩,h3⟩
 unfold a6y at h2 ⊢
 rw [List.all_eq_true] at h2 ⊢
 intro b hb
 have h2:=h2 b hb
 have modb:∀ {x y:Nat},x % 2 ^ mo.globals=y % 2 ^ mo.globals->b<mo.globals->x.testBit b=y.testBit b:=fun {x y} e hb=>by
  have:=congrArg (fun z=>Nat.testBit z b) e
  simpa [Nat.testBit_mod_two_pow,hb] using this
 cases hbit:((O4 mo (pAt mo.procs q) e).reads ||| (O4 mo (pAt mo.procs q) e).writes).testBit b
 ·rfl
 ·have hv:b∈(pAt mo.procs q).vars:=by
   rw [Nat.testBit_or,Bool.or_eq_true] at hbit
   rcases hbit with hb' | hb'
   ·exact hown.reads b hb'
   ·exact hown.writes b hb'
  rcases h.vr b hv with hg | hg
  ·exfalso
   rw [Nat.testBit_or,modb hs.r hg,modb hs.w hg,<- Nat.testBit_or,hbit] at h2
   simp only [Bool.not_true,Bool.false_or,List.contains_iff_mem] at h2
   rw [h.l1] at h2
   obtain ⟨i,_,hi⟩:=List.mem_map.1 h2
   omega
  ·simpa using hg
theorem c5b (ho:N2 mo) {q n lo k:Nat} (h:Cop mo q n lo) (hk:mo.quiet (q+1) k=true):mo.quiet q k=true:=by
 have hl:=h.lt
 have r2:(pAt mo.procs (q+1)).edges=(pAt mo.procs q).edges.map (V2 (X4 mo.globals n)):=by rw [h.re];rfl
 have lv:lvE (pAt mo.procs (q+1)) k=(lvE (pAt mo.procs q) k).map (V2 (X4 mo.globals n)):=by
  unfold lvE
  rw [r2,List.filter_map]
  rfl
 unfold Mo.quiet at hk ⊢
 rw [Bool.and_eq_true,Bool.and_eq_true] at hk ⊢
 obtain ⟨_,h1,h2⟩:=hk
 rw [lv] at h1 h2
 refine ⟨decide_eq_true (by omega),?_,?_⟩
 ·rw [List.all_eq_true] at h1 ⊢
  intro e he
  exact c2A ho h (List.mem_filter.1 he).1 (h1 _ (List.mem_map.2 ⟨e,he,rfl⟩))
 ·have e1:a2c ((lvE (pAt mo.procs q) k).map (V2 (X4 mo.globals n)))=a2c (lvE (pAt mo.procs q) k):=by
   unfold a2c
   rw [List.all_map,List.length_map]
   rfl
  have e2:forkE ((lvE (pAt mo.procs q) k).map (V2 (X4 mo.globals n)))=forkE (lvE (pAt mo.procs q) k):=by
   unfold forkE
   rw [List.length_map]
   by_cases c:(lvE (pAt mo.procs q) k).length=2
   ·rw [a8F (by omega),a8F (by omega)]
    rfl
   ·simp [c]
  rw [e1,e2] at h2
  exact h2
theorem c4P (ho:N2 mo) (hC:MoC mo) {i:Nat} (h:mo.firstQ s=some i):mo.barred s i=false:=by
 cases hb:mo.barred s i
 ·rfl
 exfalso
 unfold Mo.firstQ at h
 have hqi:=List.find?_some h
 have hil:i<mo.procs.length:=List.mem_range.1 (List.mem_of_find?_eq_some h)
 obtain ⟨q,n,lo,e,hc⟩:=hC.tw i hil (b6F hb)
 subst e
 unfold Mo.barred at hb
 simp only [Bool.and_eq_true,decide_eq_true_eq,Nat.add_sub_cancel] at hb
 rw [hb.1.2] at hqi
 have hq0:=c5b ho hc hqi
 rw [List.find?_eq_some_iff_getElem] at h
 obtain ⟨_,j,hj,ej,hn⟩:=h
 rw [List.getElem_range] at ej
 have:=hn q (by omega)
 rw [List.getElem_range,hb.2,hq0] at this
 cases this
theorem b2m (ho:N2 mo) (hC:MoC mo) {i:Nat} (hh:s.hold<0) (h:mo.firstQ s=some i) {v:Mv} (hv:v∈mo.ample s):mo.freeM s v=true:=by
 unfold Mo.ample at hv
 rw [if_pos hh,h] at hv
 have:=(List.mem_filter.1 hv).2
 simp only [Bool.and_eq_true,decide_eq_true_eq] at this
 unfold Mo.freeM
 rw [this.2,c4P ho hC h]
 simp
theorem c1p (ho:N2 mo) (hf:W9 mo) (hq:MoQ mo) (hs:a8C mo) {M:Stt->List Mv} {J:Stt->Prop} (hJ:∀s v,a1h mo s->J s->v∈mo.moves s->J (mo.doS s v)) (hA:∀s i,J s->s.hold<0->mo.firstQ s=some i->∀v∈mo.ample s,v∈M s)
 (hB:∀s,a1h mo s->J s->mo.ample s=mo.moves s->∀v n t,v∈mo.moves s->Z3 mo mo.moves n (mo.doS s v) t->mo.badS t=true->∃v' t',v'∈M s/\v'∈mo.moves s/\Z3 mo mo.moves n (mo.doS s v') t'/\mo.badS t'=true):∀n r (s t:Stt),mo.rk s=r->mo.badS t=true->a1h mo s->J s->Z3 mo mo.moves n s t->∃m t',Z3 mo M m s t'/\mo.badS t'=true:=by
 intro n
 induction n with
 | zero =>
   intro r s t _ hb _ _ h
   cases h
   exact ⟨0,s,rfl,hb⟩
 | succ n ih =>
   intro r
   induction r using Nat.strongRecOn with
   | _ r ihr =>
     intro s t hr hb hI hj h
     have all:mo.ample s=mo.moves s->∃m t',Z3 mo M m s t'/\mo.badS t'=true:=fun e=>by
      obtain ⟨v,hv,hp⟩:=h
      obtain ⟨v',t1,a1,a2,a3,a4⟩:=hB s hI hj e v n t hv hp hb
      obtain ⟨m,t',p,b⟩:=ih _ _ t1 rfl a4 (hI.step ho hf a2) (hJ _ _ hI hj a2) a3
      exact ⟨m+1,t',⟨v',a1,p⟩,b⟩
     by_cases hh:s.hold<0
     rotate_left
     ·exact all (by unfold Mo.ample;rw [if_neg hh])
     cases hF:mo.firstQ s with
     | none=>exact all (by unfold Mo.ample;rw [if_pos hh,hF])
     | some i =>
       have hAs:=hA s i hj hh hF
       have hqi:mo.quiet i (nAt s.at' i)=true:=by
        have:=List.find?_some hF
        exact this
       have hQ:=a8K ho hqi
       have hl:=hQ.lt
       have h1:s.hold=-1:=by have:=hI.fit.hold;omega
       -- an ample move
       have mv:∀e∈(pAt mo.procs i).edges,e.frm=nAt s.at' i->mo.can s i (pAt mo.procs i) e=true->∃v∈mo.ample s,mo.doS s v=mo.eff i e s:=fun e he hk hc=>by
        obtain ⟨v,v1,v2,v3,v4⟩:=a7z hl he hc (by omega)
        refine ⟨v,?_,by rw [v4,b3m ho (hQ.ed e he hk).keep h1]⟩
        unfold Mo.ample
        rw [if_pos hh,hF]
        exact List.mem_filter.2 ⟨v1,by simp [v2,v3]⟩
       rcases b50 ho hf hq hQ h hI rfl (by omega) with ⟨a,b,c⟩ | ⟨e,he,hk,hc,m,hm,hp⟩
       ·obtain ⟨e,he,hk,hc⟩:=hs i s hqi
        obtain ⟨c1,c2⟩:=c e he hk hc
        have hIt:=h.inv ho hf hI
        have hbad:mo.badS (mo.eff i e t)=true:=by
         unfold Mo.badS at hb ⊢
         rw [c6G ho hl he (hQ.ed e he hk)]
         rw [Bool.or_eq_true] at hb ⊢
         rcases hb with hb | hb
         ·exact .inl hb
         ·exfalso
          unfold Mo.deadS at hb
          simp only [Bool.and_eq_true,decide_eq_true_eq] at hb
          have he0:=hb.2.1
          have hht:=hIt.fit.hold
          by_cases c0:t.hold<0
          ·obtain ⟨v,v1,_⟩:=a7z hl he c1 (by omega)
           rw [he0] at v1;cases v1
          ·have hk2:=hIt.keep t.hold.toNat (by omega)
           unfold Mo.someS at hk2
           obtain ⟨e2,he2,hc2⟩:=List.any_eq_true.1 hk2
           obtain ⟨v,v1,_⟩:=a7z (by omega) he2 hc2 (by omega)
           rw [he0] at v1;cases v1
        obtain ⟨v,v1,v2⟩:=mv e he hk hc
        have hI2:a1h mo (mo.eff i e s):=by rw [<- v2];exact hI.step ho hf (a4h v1)
        have hJ2:J (mo.eff i e s):=by rw [<- v2];exact hJ _ _ hI hj (a4h v1)
        obtain ⟨m,t',p,b'⟩:=ihr (mo.rk (mo.eff i e s)) (by rw [<- hr];exact c7p ho hq hQ hI he hk) _ _ rfl hbad hI2 hJ2 c2
        exact ⟨m+1,t',⟨v,hAs v v1,by rw [v2];exact p⟩,b'⟩
       ·obtain ⟨v,v1,v2⟩:=mv e he hk hc
        have hI2:a1h mo (mo.eff i e s):=by rw [<- v2];exact hI.step ho hf (a4h v1)
        have hJ2:J (mo.eff i e s):=by rw [<- v2];exact hJ _ _ hI hj (a4h v1)
        obtain rfl:m=n:=by omega
        obtain ⟨m',t',p,b'⟩:=ih _ _ t rfl hb hI2 hJ2 hp
        exact ⟨m'+1,t',⟨v,hAs v v1,by rw [v2];exact p⟩,b'⟩
theorem c3R (ho:N2 mo) (hf:W9 mo) (hq:MoQ mo) (hs:a8C mo) (hC:MoC mo) (am:Bool) {n:Nat} {s t:Stt} (hb:mo.badS t=true) (hI:a1h mo s) (hF:a16 mo s) (h:Z3 mo mo.moves n s t):∃m t',Z3 mo (mo.someM am) m s t'/\mo.badS t'=true:=by
 have un:∀s,a1h mo s->a16 mo s->∀v n t,v∈mo.moves s->Z3 mo mo.moves n (mo.doS s v) t->mo.badS t=true->∃v' t',v'∈mo.moves s/\mo.freeM s v'=true/\Z3 mo mo.moves n (mo.doS s v') t'/\mo.badS t'=true:=fun s hI hF v n t hv hp hb=>by
  obtain ⟨v',t',a,b,c,d⟩:=b1G ho hq hC hI.fit hF (v.proc+1) v t (by omega) hv hp
  exact ⟨v',t',a,b,c,d.trans hb⟩
 cases am
 ·induction n generalizing s t with
  | zero=>cases h;exact ⟨0,s,rfl,hb⟩
  | succ n ih =>
    obtain ⟨v,hv,hp⟩:=h
    obtain ⟨v',t',a,b,c,d⟩:=un s hI hF v n t hv hp hb
    obtain ⟨m,t2,p,b2⟩:=ih d (hI.step ho hf a) (hF.step ho hq hI.fit a) c
    exact ⟨m+1,t2,⟨v',List.mem_filter.2 ⟨a,b⟩,p⟩,b2⟩
 ·refine c1p ho hf hq hs (J:=a16 mo) (fun s v hI hF hv=>hF.step ho hq hI.fit hv) (fun s i hF hh hQ v hv=>List.mem_filter.2 ⟨hv,b2m ho hC hh hQ hv⟩) (fun s hI hF e v n t hv hp hb=>?_) n _ s t rfl hb hI hF h
  obtain ⟨v',t',a,b,c,d⟩:=un s hI hF v n t hv hp hb
  exact ⟨v',t',List.mem_filter.2 ⟨by rw [e];exact a,b⟩,a,c,d⟩
theorem b4f (ho:N2 mo) (hq:MoQ mo) (hs:a8C mo) (hC:MoC mo) (am:Bool) (hI:a1h mo s) (hF:a16 mo s) (h:mo.moves s≠[]):mo.someM am s≠[]:=by
 have all:mo.moves s=(if am then mo.ample s else mo.moves s)->mo.someM am s≠[]:=fun e=>by
  obtain ⟨v,a,b⟩:=b9g ho hq hC hI.fit hF h
  exact List.ne_nil_of_mem (List.mem_filter.2 ⟨by rw [<- e];exact a,b⟩)
 cases am
 ·exact all rfl
 by_cases hh:s.hold<0
 rotate_left
 ·exact all (by unfold Mo.ample;rw [if_neg hh];rfl)
 cases hF':mo.firstQ s with
 | none=>exact all (by unfold Mo.ample;rw [if_pos hh,hF'];rfl)
 | some i =>
   have hqi:mo.quiet i (nAt s.at' i)=true:=by
    have:=List.find?_some hF'
    exact this
   have hQ:=a8K ho hqi
   obtain ⟨e,he,hk,hc⟩:=hs i s hqi
   obtain ⟨v,v1,v2,v3,_⟩:=a7z hQ.lt he hc (by omega)
   have hv:v∈mo.ample s:=by
    unfold Mo.ample
    rw [if_pos hh,hF']
    exact List.mem_filter.2 ⟨v1,by simp [v2,v3]⟩
   exact List.ne_nil_of_mem (List.mem_filter.2 ⟨hv,b2m ho hC hh hF' hv⟩)
end Go.V
namespace Go.V
theorem c2T {l:QL} {i:Nat} (h:i<l.length):a0p (some 4) (i*4) (a1r l).flatten=some (.agg [(qAt l i).1.da,(qAt l i).1.dv,(qAt l i).1.dc,.int .i64 (qAt l i).2.hold]):=by
 have hl:=a3S (a9G l)
 rw [a25] at hl
 unfold a0p
 simp only
 rw [if_pos (by omega),a5d h]
 congr 2
 apply List.ext_getElem?
 intro f
 by_cases c:f<4
 ·rw [List.getElem?_take,if_pos c,List.getElem?_drop,a5q (a9G l) (by simpa using h) c]
  simp [a1r,a47]
 ·rw [List.getElem?_eq_none (by simp;omega),List.getElem?_eq_none (by simp;omega)]
theorem c25 {l:QL} {i:Nat} (h:i<l.length):List.take 4 (List.drop (i*4) (a1r l).flatten)=[(qAt l i).1.da,(qAt l i).1.dv,(qAt l i).1.dc,.int .i64 (qAt l i).2.hold]:=by
 have:=c2T h
 unfold a0p at this
 simp only at this
 split at this
 ·simpa using this
 ·cases this
theorem c3m {l:QL} {i:Nat} (h:i<l.length):(i*4+3<(a1r l).flatten.length)=True:=by
 have hl:=a3S (a9G l)
 rw [a25] at hl
 apply propext
 simp only [iff_true]
 omega
attribute [go_sem] c25 c3m
theorem b2L {fs:FuncId->Option M5} {t rest env K s d bytes row E R} {l:QL} (q:StD×Stt) (hv:a47 q=row) (h:Rp d 4 (a1r l) E) (hp:Hp s E R) (hb:bytes<=1000) (hl:l.length<=1000000000)
 (k:∀d' s' E',Rp d' 4 (a1r (l++[q])) E'->Hp s' E' R->XQ fs [] rest ((t,d')::env) s' K):BM (V5 4 bytes d (.arr s.next 0 1 4) (s.push (.cells row))) fs t rest env K:=b3u (f:=a47) q hv h hp (fun _=>rfl) hb hl k
end Go.V
namespace Go.Proofs.YtnjlhebkhjcagaaGreat
open Go.V
set_option maxRecDepth 100000
set_option maxHeartbeats 4000000
variable {m:MdX} {mo:Mo} {ps:List (Pr×PrD)} {x:StD} {st:Stt}
theorem b0p (hm:MoF m mo ps) (ho:N2 mo) (hf:W9 mo) (hx:X2 mo x st) {v:Mv} (hv:mo.mvOk st v):∃x',Eqc vfs 22 [.agg [m.dt,.int .i64 m.g,m.dc,m.dv,m.dp,m.ds,.bool m.b],.agg [x.da,x.dv,x.dc,.int .i64 st.hold],.agg [.int .i64 (v.kind:Int),.int .i64 (v.proc:Int),.int .i64 (v.edge:Int),.int .i64 (v.chan:Int)]] (.agg [x'.da,x'.dv,x'.dc,.int .i64 (mo.doS st v).hold])/\X2 mo x' (mo.doS st v):=by
 obtain ⟨d,s',h1,cs,rfl,h2⟩:=c4G hm ho hf hx hv
 obtain ⟨x',h4,h5⟩:=h2.frz
 have hfit:=b5L ho hf hx.fit hv
 exact ⟨x',S4 ⟨_,_,h1,h4⟩,h5,a2u hf hfit,hfit⟩
theorem b0N (hm:MoF m mo ps) (ho:N2 mo) (hf:W9 mo):∃x,Eqc vfs 31 [.agg [m.dt,.int .i64 m.g,m.dc,m.dv,m.dp,m.ds,.bool m.b]] (.agg [x.da,x.dv,x.dc,.int .i64 mo.fst.hold])/\X2 mo x mo.fst:=by
 obtain ⟨d,s',h1,⟨dA,dV,dC,EA,EV,EC,rfl,hA,hV,hC,hp,hw⟩,fr⟩:=b4a (s:=k4.empty) hm ho
 have hs:a1x s' [dA,dV,dC,.int .i64 (-1)] mo.fst:=by
  refine ⟨dA,dV,dC,List.replicate mo.chans.length .nils,rfl,hA.sn fun e he=>hp.w e (by simp [he]),hV.sn fun e he=>hp.w e (by simp [he]),?_,?_,by simp [Mo.fst],fun j h h'=>.inl ⟨by simp,by simp [Mo.fst]⟩⟩
  ·have:=hC.sn fun e he=>hp.w e (by simp [he])
   unfold a1q at this
   simpa using this
  ·rcases hC with ⟨_,e,_⟩ | ⟨id,e,_⟩
   ·left
    have:=congrArg List.length e
    unfold a1q at this
    simp at this
    simp [this]
   ·right
    unfold a1q at e
    exact ⟨id,by simpa using e⟩
 obtain ⟨x,h4,h5⟩:=hs.frz
 have hfit:=b5t ho hf
 exact ⟨x,S4 ⟨_,_,h1,h4⟩,h5,a2u hf hfit,hfit⟩
theorem c04 (hm:MoF m mo ps) (ho:N2 mo) (hx:X2 mo x st):Eqc vfs 53 [.agg [m.dt,.int .i64 m.g,m.dc,m.dv,m.dp,m.ds,.bool m.b],.agg [x.da,x.dv,x.dc,.int .i64 st.hold]] (.bool (mo.deadS st)):=by
 have fm:=a1b hm
 have fx:=a0n hx.f
 have om:=hm.ones
 have ox:=hx.f.ones
 have hxa:=hx.f.a
 have hnp:=ho.np
 have hal:=hx.fit.at'
 obtain ⟨dm,hmv,hfl⟩:=a6l hm ho hx
 have hmv:=S4 hmv
 refine S4 ?_
 refine O7 (vf:=b1t) rfl ?_
 unfold b1t;refine zF ?_
 refine zY (aN om ox) ?_
 have hp0:Hp ((k4.empty.push (.cells [m.dt,.int .i64 m.g,m.dc,m.dv,m.dp,m.ds,.bool m.b])).push (.cells [x.da,x.dv,x.dc,.int .i64 st.hold])) [] [(0,[m.dt,.int .i64 m.g,m.dc,m.dv,m.dp,m.ds,.bool m.b]),(1,[x.da,x.dv,x.dc,.int .i64 st.hold])]:=⟨List.nodup_nil,by simp,by simp [Has],by
  intro y hy
  simp only [List.mem_cons,List.not_mem_nil,or_false] at hy
  rcases hy with rfl | rfl
  ·exact zZ0
  ·simp (disch:=(first|exact Rf.mk rfl|with_reducible assumption|omega|((repeat (first|rw [nP]|rw [nS]|rw [M3]))<;>omega)|decide)) only [go_sem,↓reduceIte]⟩
 generalize (k4.empty.push (.cells [m.dt,.int .i64 m.g,m.dc,m.dv,m.dp,m.ds,.bool m.b])).push (.cells [x.da,x.dv,x.dc,.int .i64 st.hold])=s0 at *
 have g0:s0.get 0=some (.cells [m.dt,.int .i64 m.g,m.dc,m.dv,m.dp,m.ds,.bool m.b]):=hp0.r (0,_) (by simp)
 have g1:s0.get 1=some (.cells [x.da,x.dv,x.dc,.int .i64 st.hold]):=hp0.r (1,_) (by simp)
 have l0:=M7 g0
 have l1:=M7 g1
 refine S2 [0,1,2,3,4] 0 mo.procs.length (fun i f s=>f 6=.int .i64 (i:Int)/\f 5=.bool ((List.range i).all fun i=>(pAt mo.procs i).rest.getD (nAt st.at' i) false)/\s=s0) (.mk rfl) (by omega) ⟨rfl,rfl,rfl⟩ ?_
 rintro i f s hi ⟨hE,hR,rfl⟩
 by_cases ci:i<mo.procs.length
 rotate_left
 ·obtain rfl:i=mo.procs.length:=by omega
  by_cases c0:(mo.moves st).length=0
  ·have e:mo.deadS st=!((List.range mo.procs.length).all fun i=>(pAt mo.procs i).rest.getD (nAt st.at' i) false):=by
    unfold Mo.deadS
    rw [decide_eq_true (List.length_eq_zero_iff.1 c0)]
    rfl
   rw [e]
   exact zZ (aN hE (aN hR (aN ci (aN g0 (aN g1 (aN om (aN ox (aN fm (aN fx (aN hmv (aN hfl c0)))))))))))
  ·have e:mo.deadS st=false:=by
    unfold Mo.deadS
    rw [decide_eq_false fun h=>c0 (by rw [h];rfl)]
    rfl
   rw [e]
   exact zZ (aN hE (aN hR (aN ci (aN g0 (aN g1 (aN om (aN ox (aN fm (aN fx (aN hmv (aN hfl c0)))))))))))
 have ci':i<st.at'.length:=by omega
 have hpl:=(a0F.2 hx.fit).pl i ci
 have hrl:=(ho.pr _ (V1 ci)).inv.rest
 have hrs:nAt st.at' i<(pAt mo.procs i).rest.length:=by omega
 cases hb:(List.range i).all fun i=>(pAt mo.procs i).rest.getD (nAt st.at' i) false
 ·rw [hb] at hR
  refine zY (aN hE (aN hR (aN ci (aN ci' (aN g0 (aN g1 (aN om ox))))))) ?_
  rw [List.all_append,hb]
  rfl
 ·rw [hb] at hR
  refine zY (aN hE (aN hR (aN ci (aN ci' (aN g0 (aN g1 (aN om (aN ox hrs)))))))) ?_
  rw [List.all_append,hb]
  simp [aB]
theorem b6y (hm:MoF m mo ps) (ho:N2 mo) (hx:X2 mo x st):Eqc vfs 32 [.agg [m.dt,.int .i64 m.g,m.dc,m.dv,m.dp,m.ds,.bool m.b],.agg [x.da,x.dv,x.dc,.int .i64 st.hold]] (.bool (mo.badS st)):=by
 have fm:=a1b hm
 have fx:=a0n hx.f
 have om:=hm.ones
 have ox:=hx.f.ones
 have hb:=hm.b
 have hs:=c65 hm ho hx
 have hd:=c04 hm ho hx
 refine S4 ?_
 unfold Mo.badS
 cases cs:mo.safeS st
 ·rw [cs] at hs
  refine O7 (vf:=a4E) rfl ?_
  unfold a4E;refine zF ?_
  exact zZ (aN om (aN ox (aN fm (aN fx hs))))
 rw [cs] at hs
 cases cb:mo.dead
 ·rw [cb] at hb
  rw [hb] at fm hs hd ⊢
  refine O7 (vf:=a4E) rfl ?_
  unfold a4E;refine zF ?_
  refine zY (aN om (aN ox (aN fm (aN fx (aN hs hb))))) ?_
  rfl
 ·rw [cb] at hb
  rw [hb] at fm hs hd ⊢
  refine O7 (vf:=a4E) rfl ?_
  unfold a4E;refine zF ?_
  refine zY (aN om (aN ox (aN fm (aN fx (aN hs (aN hb hd)))))) ?_
  exact (Bool.false_or _).symm
end Go.Proofs.YtnjlhebkhjcagaaGreat
namespace Go.V
variable {mo:Mo} {s:Stt}
def a5W (mo:Mo) (s:Stt):Prop:=∀p,p<mo.procs.length->0<(pAt mo.procs p).copy->a1D (pAt mo.procs p)=true->nAt s.at' (p-1)=0->nAt s.at' p=0
theorem c3i:a5W mo mo.fst:=fun p _ _ _ _=>by simp only [Mo.fst];exact b21
theorem a5W.step (hC:MoC mo) (hI:Fit mo s) (hO:a5W mo s) {am:Bool} {v:Mv} (hv:v∈mo.someM am s):a5W mo (mo.doS s v):=by
 have hm:=a28 hv
 have hfree:mo.freeM s v=true:=by unfold Mo.someM at hv;exact (List.mem_filter.1 hv).2
 rcases a1G.1 hm with ⟨k0,_,hp,he,_,_⟩ | ⟨_,_,c⟩
 ·have hd:mo.doS s v=mo.doE s v.proc (pAt mo.procs v.proc) (eAt (pAt mo.procs v.proc).edges v.edge):=by
   unfold Mo.doS;rw [if_neg (by omega),if_neg (by omega)]
  have hem:=a1v he
  have hl:=hI.at'
  have hat:(mo.doS s v).at'=s.at'.set v.proc (eAt (pAt mo.procs v.proc).edges v.edge).to:=by rw [hd];exact b20
  intro p hpl hc hb h0
  obtain ⟨q,n,lo,rfl,hcop⟩:=hC.tw p hpl hc
  rw [hat,a4R (by omega)] at h0 ⊢
  simp only [Nat.add_sub_cancel] at h0
  have hb0:=hb
  rw [b3c hcop] at hb0
  by_cases c:q=v.proc
  ·exfalso
   rw [if_pos c] at h0
   rw [c] at hb0
   unfold a1D at hb0
   have:=List.all_eq_true.1 hb0 _ hem
   simp [h0] at this
  ·rw [if_neg c] at h0
   have h1:=hO (q+1) hpl hc hb (by simpa using h0)
   by_cases c1:q+1=v.proc
   ·exfalso
    unfold Mo.freeM at hfree
    have:mo.barred s v.proc=true:=by
     rw [<- c1]
     unfold Mo.barred
     simp [hc,hb,h1,h0]
    rw [this,k0] at hfree
    simp at hfree
   ·rw [if_neg c1];exact h1
 ·have hk:=a3Q c
  have e1:(mo.doS s v).at'=s.at':=by
   unfold Mo.doS
   split
   ·rfl
   ·rw [if_pos (by omega)]
  intro p hpl hc hb h0
  rw [e1] at h0 ⊢
  exact hO p hpl hc hb h0
structure a3O (mo:Mo) (s:Stt):Prop where
 inv:a1h mo s
 un:a16 mo s
 ord:a5W mo s
theorem b7g (ho:N2 mo) (hf:W9 mo):a3O mo mo.fst:=⟨b18 ho hf,b3w ho,c3i⟩
theorem a3O.step (ho:N2 mo) (hf:W9 mo) (hq:MoQ mo) (hC:MoC mo) (h:a3O mo s) {am:Bool} {v:Mv} (hv:v∈mo.someM am s):a3O mo (mo.doS s v) :=
 ⟨h.inv.step ho hf (a28 hv),h.un.step ho hq h.inv.fit (a28 hv),h.ord.step hC h.inv.fit hv⟩
end Go.V
namespace Go.Proofs.YtnjlhebkhjcagaaGreat
open Go.V
set_option maxRecDepth 100000
set_option maxHeartbeats 4000000
variable {m:MdX} {mo:Mo} {ps:List (Pr×PrD)} {x:StD} {st:Stt}
theorem b53 {p:Pr}:a1D p=true↔∀j,j<p.edges.length->(eAt p.edges j).to≠0:=by
 unfold a1D
 rw [List.all_eq_true]
 constructor
 ·intro h j hj
  simpa using h _ (a1v hj)
 ·intro h e he
  obtain ⟨j,hj,rfl⟩:=List.getElem_of_mem he
  have:=h j hj
  rw [a17 hj] at this
  simpa using this
theorem b8d {p:Pr} {j:Nat} (hj:j<p.edges.length) (h:(eAt p.edges j).to=0):a1D p=false:=by
 cases hb:a1D p
 ·rfl
 ·exact absurd h (b53.1 hb j hj)
theorem b7E (hm:MoF m mo ps) (ho:N2 mo) (hC:MoC mo) (hx:X2 mo x st) {p:Nat} (hp:p<mo.procs.length):Eqc vfs 52 [.agg [m.dt,.int .i64 m.g,m.dc,m.dv,m.dp,m.ds,.bool m.b],.agg [x.da,x.dv,x.dc,.int .i64 st.hold],.int .i64 (p:Int)] (.bool (mo.barred st p)):=by
 have om:=hm.ones
 have ox:=hx.f.ones
 have hxa:=hx.f.a
 have hnp:=ho.np
 have hal:=hx.fit.at'
 have hel:=(ho.pr _ (V1 hp)).el
 have hp1:p<st.at'.length:=by omega
 have hp2:p-1<st.at'.length:=by omega
 refine S4 ?_
 by_cases c1:(pAt mo.procs p).copy=0
 ·have e:mo.barred st p=false:=by unfold Mo.barred;rw [decide_eq_false (by omega)];rfl
  rw [e]
  refine O7 (vf:=a3t) rfl ?_
  unfold a3t;refine zF ?_
  exact zZ (aN om (aN ox (aN hp c1)))
 have c1':¬ ((pAt mo.procs p).copy:Int)<=0:=by omega
 obtain ⟨q,n,lo,hpq,_⟩:=hC.tw p hp (by omega)
 have c2:¬ (p:Int)=0:=by omega
 have e2:IntKind.i64.wrap ((p:Int)-1)=((p-1:Nat):Int):=by rw [P0 (by omega) (by omega)];omega
 by_cases c3:nAt st.at' p=0
 rotate_left
 ·have c3':¬ (nAt st.at' p:Int)=0:=by omega
  have e:mo.barred st p=false:=by unfold Mo.barred;rw [decide_eq_false c3];simp
  rw [e]
  refine O7 (vf:=a3t) rfl ?_
  unfold a3t;refine zF ?_
  exact zZ (aN om (aN ox (aN hp (aN c1' (aN c2 (aN hp1 c3'))))))
 by_cases c4:nAt st.at' (p-1)=0
 rotate_left
 ·have c4':¬ (nAt st.at' (p-1):Int)=0:=by omega
  have e:mo.barred st p=false:=by unfold Mo.barred;rw [decide_eq_false c4];simp
  rw [e]
  refine O7 (vf:=a3t) rfl ?_
  unfold a3t;refine zF ?_
  exact zZ (aN om (aN ox (aN hp (aN c1' (aN c2 (aN hp1 (aN hp2 (aN c3 (aN e2 c4')))))))))
 have e:mo.barred st p=a1D (pAt mo.procs p):=by
  unfold Mo.barred
  rw [decide_eq_true c3,decide_eq_true c4,decide_eq_true (by omega)]
  simp
 rw [e]
 refine O7 (vf:=a3t) rfl ?_
 unfold a3t;refine zF ?_
 refine zY (aN om (aN ox (aN hp (aN c1' (aN c2 (aN hp1 (aN hp2 (aN c3 (aN e2 c4))))))))) ?_
 refine S2 [0,1,2,3,4,7,38,40,41] 0 (pAt mo.procs p).edges.length (fun j f s=>f 42=.int .i64 (j:Int)/\∀i,i<j->(eAt (pAt mo.procs p).edges i).to≠0) (.mk rfl) (by omega) ⟨rfl,fun i h=>by omega⟩ ?_
 rintro j f s hj ⟨hE,hall⟩
 by_cases cj:j<(pAt mo.procs p).edges.length
 rotate_left
 ·have:=b53.2 fun i hi=>hall i (by omega)
  rw [this]
  exact zZ (aN hE cj)
 by_cases c5:(eAt (pAt mo.procs p).edges j).to=0
 ·rw [b8d cj c5]
  exact zZ (aN hE (aN cj c5))
 ·have c5':¬ ((eAt (pAt mo.procs p).edges j).to:Int)=0:=by omega
  refine zY (aN hE (aN cj c5')) ?_
  intro i hi
  by_cases eq:i=j
  ·subst eq;exact c5
  ·exact hall i (by omega)
theorem c7J (hm:MoF m mo ps) (ho:N2 mo) (hf:W9 mo) (hx:X2 mo x st):Eqc vfs 51 [.agg [m.dt,.int .i64 m.g,m.dc,m.dv,m.dp,m.ds,.bool m.b],.agg [x.da,x.dv,x.dc,.int .i64 st.hold]] (.bool true):=by
 have h:=b1y hm ho hf (a9C ho hx)
 rw [decide_eq_true hx.fit.hold] at h
 exact h
end Go.Proofs.YtnjlhebkhjcagaaGreat
namespace Go.Proofs.YtnjlhebkhjcagaaGreat
open Go.V
set_option maxRecDepth 100000
set_option maxHeartbeats 4000000
variable {m:MdX} {mo:Mo} {ps:List (Pr×PrD)} {x:StD} {st:Stt}
theorem c0a (hm:MoF m mo ps) (ho:N2 mo) (hx:X2 mo x st):a4G vfs 28 [.agg [m.dt,.int .i64 m.g,m.dc,m.dv,m.dp,m.ds,.bool m.b],.agg [x.da,x.dv,x.dc,.int .i64 st.hold],.bool false,.bool false] fun d=>FL 4 d (V0 (mo.moves st)):=by
 have om:=hm.ones
 have ox:=hx.f.ones
 have fm:=a1b hm
 have fx:=a0n hx.f
 have hml:=a3K ho (st:=st)
 obtain ⟨dm,hmv,hfl⟩:=a6l hm ho hx
 have hmv:=S4 hmv
 have oe:=FL.one hfl
 have pe:=FL.pz hfl
 refine a2P (vf:=a96) rfl ?_
 unfold a96;refine zF ?_
 refine zY (aN om (aN ox (aN fm (aN fx hmv)))) ?_
 have hp0:Hp ((k4.empty.push (.cells [m.dt,.int .i64 m.g,m.dc,m.dv,m.dp,m.ds,.bool m.b])).push (.cells [x.da,x.dv,x.dc,.int .i64 st.hold])) [] [(0,[m.dt,.int .i64 m.g,m.dc,m.dv,m.dp,m.ds,.bool m.b]),(1,[x.da,x.dv,x.dc,.int .i64 st.hold])]:=⟨List.nodup_nil,by simp,by simp [Has],by
  intro y hy
  simp only [List.mem_cons,List.not_mem_nil,or_false] at hy
  rcases hy with rfl | rfl
  ·exact zZ0
  ·simp (disch:=(first|exact Rf.mk rfl|with_reducible assumption|omega|((repeat (first|rw [nP]|rw [nS]|rw [M3]))<;>omega)|decide)) only [go_sem,↓reduceIte]⟩
 generalize (k4.empty.push (.cells [m.dt,.int .i64 m.g,m.dc,m.dv,m.dp,m.ds,.bool m.b])).push (.cells [x.da,x.dv,x.dc,.int .i64 st.hold])=s0 at *
 refine S2 [0,1,2,3,4,5,8,9,15] 0 (mo.moves st).length (fun j f s=>f 11=.int .i64 (j:Int)/\∃E,Rp (f 10) 4 (V0 ((mo.moves st).take j)) E/\Hp s E [(0,[m.dt,.int .i64 m.g,m.dc,m.dv,m.dp,m.ds,.bool m.b]),(1,[x.da,x.dv,x.dc,.int .i64 st.hold])]) (.mk rfl) (by omega) ⟨rfl,[],.inl ⟨rfl,rfl,rfl⟩,hp0⟩ ?_
 rintro j f s hj ⟨hE,E,hr,hp⟩
 by_cases cj:j<(mo.moves st).length
 rotate_left
 ·obtain rfl:j=(mo.moves st).length:=by omega
  rw [List.take_length] at hr
  obtain ⟨d',h1,h2⟩:=a3D hr hp (fun e h=>h) (a2F _) (a38 _)
  refine zY (aN hE (aN cj (aN hfl h1))) ?_
  exact ⟨_,rfl,h2⟩
 have hsu:(mo.moves st).take (j+1)=(mo.moves st).take j++[O5 (mo.moves st) j]:=by rw [List.take_succ_eq_append_getElem cj,a3p cj]
 refine zY (aN hE (aN cj hfl)) ?_
 refine a3i (O5 (mo.moves st) j) rfl hr hp (by decide) (by simp;omega) ?_
 rintro d1 s1 E1 hr1 hp1
 refine zY (aN hE cj) ?_
 rw [hsu]
 exact ⟨E1,hr1,hp1⟩
end Go.Proofs.YtnjlhebkhjcagaaGreat
namespace Go.Proofs.YtnjlhebkhjcagaaGreat
open Go.V
set_option maxRecDepth 100000
set_option maxHeartbeats 4000000
variable {m:MdX} {mo:Mo} {ps:List (Pr×PrD)} {x:StD} {st:Stt}
theorem b7O (hm:MoF m mo ps) (ho:N2 mo) (hx:X2 mo x st):∃d,Eqc vfs 28 [.agg [m.dt,.int .i64 m.g,m.dc,m.dv,m.dp,m.ds,.bool m.b],.agg [x.da,x.dv,x.dc,.int .i64 st.hold],.bool false,.bool false] d/\FL 4 d (V0 (mo.moves st)):=by
 obtain ⟨d,h1,h2⟩:=c0a hm ho hx
 exact ⟨d,S4 h1,h2⟩
theorem b52 {L:QL} {k:Nat} (h:k<L.length) (t:Stt):t∈(L.take (k+1)).map Prod.snd↔t∈(L.take k).map Prod.snd∨(qAt L k).2=t:=by
 rw [List.take_succ_eq_append_getElem h,List.map_append,List.mem_append,a5d h]
 simp [eq_comm]
theorem b2F (ho:N2 mo) {y:StD} {t:Stt} (hx:X2 mo x st) (hy:X2 mo y t):Eqc vfs 24 [.agg [x.da,x.dv,x.dc,.int .i64 st.hold],.agg [y.da,y.dv,y.dc,.int .i64 t.hold]] (.bool (decide (st=t))):=by
 have h1:=ho.np
 have h2:=ho.nv
 have h3:=ho.nc
 have:=hx.fit
 exact b7N hx.f hy.f (by rw [this.at'];omega) (by rw [this.vars];omega) (fun l hl=>by have:=(hx.e.c l hl).1;omega) (by rw [this.chans];omega)
theorem a7u {M:Stt->List Mv} {L:QL} {i:Nat} (h:a0E mo M L i):0<L.length:=by
 have:=h.fst
 cases L with
 | nil=>simp at this
 | cons a l=>simp
theorem a78 (ho:N2 mo) (hf:W9 mo) {M:Stt->List Mv} (hs:∀s v,v∈M s->v∈mo.moves s) {L:QL} {i j:Nat} (h:a0E mo M L i) (hj:j<L.length):X2 mo (qAt L j).1 (qAt L j).2:=by
 have hq:=a8k hj
 have hI:=(h.rch _ hq).inv ho hf hs
 exact ⟨h.f _ hq,a2u hf hI.fit,hI.fit⟩
theorem c8r (hm:MoF m mo ps) (ho:N2 mo) (hf:W9 mo):a4G vfs 20 [.agg [m.dt,.int .i64 m.g,m.dc,m.dv,m.dp,m.ds,.bool m.b],.bool false,.bool false,.int .i64 120] fun d=>∃a b,d=.tup [.bool a,.bool b]/\a9Z mo mo.moves a b:=by
 have om:=hm.ones
 have fm:=a1b hm
 obtain ⟨x0,hf0,hx0⟩:=b0N hm ho hf
 have ox0:=hx0.f.ones
 have fx0:=a0n hx0.f
 refine a2P (vf:=a8N) rfl ?_
 unfold a8N;refine zF ?_
 refine zY (aN om (aN fm (aN hf0 (aN ox0 fx0)))) ?_
 refine S2 [0,1,2,3,4] 0 120 (fun i f s=>f 11=.int .i64 (i:Int)/\∃L E,Rp (f 10) 4 (a1r L) E/\Hp s E [(0,[m.dt,.int .i64 m.g,m.dc,m.dv,m.dp,m.ds,.bool m.b])]/\a0E mo mo.moves L i/\i<=L.length/\L.length<=120) (.mk rfl) (by omega) ⟨rfl,[(x0,mo.fst)],[(1,a47 (x0,mo.fst))],?_,?_,a0E.start rfl hx0.f,by simp,by simp⟩ ?_
 ·exact .inr ⟨1,rfl,by simp [a1r],by simp [a1r]⟩
 ·exact Hp.pushW (s:=k4.empty.push (.cells [m.dt,.int .i64 m.g,m.dc,m.dv,m.dp,m.ds,.bool m.b])) (W:=[]) ⟨List.nodup_nil,by simp,by simp [Has],by simp [Has];simp (disch:=(first|exact Rf.mk rfl|with_reducible assumption|omega|((repeat (first|rw [nP]|rw [nS]|rw [M3]))<;>omega)|decide)) only [go_sem,↓reduceIte]⟩ _
 rintro i f s hi ⟨hE,L,E,hr,hp,hS,hiL,hL⟩
 have g0:=hp.rh
 obtain ⟨id,e1,rfl⟩:=hr.arr (by rw [a25];exact a7u hS)
 rw [a25] at e1
 have hr0:=hr
 rw [e1] at hr0
 have gi:=hp.hd
 by_cases ci:i<L.length
 rotate_left
 ·refine zY (aN hE (aN e1 ci)) ?_
  exact ⟨_,rfl,false,true,rfl,hS.none ci hL⟩
 have hx:=a78 ho hf (fun _ _ h=>h) hS ci
 have hrch:=hS.rch _ (a8k ci)
 generalize hqe:qAt L i=q at *
 obtain ⟨x,st⟩:=q
 simp only at hx hrch
 have fx:=a0n hx.f
 have ox:=hx.f.ones
 have hb:=b6y hm ho hx
 cases cb:mo.badS st
 rotate_left
 ·rw [cb] at hb
  refine zY (aN hE (aN e1 (aN ci (aN g0 (aN gi (aN om (aN fm (aN fx (aN ox (aN hqe hb)))))))))) ?_
  exact ⟨_,rfl,true,true,rfl,hS.bad ci (by rw [hqe];exact cb)⟩
 rw [cb] at hb
 obtain ⟨dm,hsm,hfl⟩:=b7O hm ho hx
 have hml:=a3K ho (st:=st)
 have pm:=FL.pz hfl
 refine zY (aN hE (aN e1 (aN ci (aN g0 (aN gi (aN om (aN fm (aN fx (aN ox (aN hqe (aN hb hsm))))))))))) ?_
 refine S2 [0,1,2,3,4,11,12,23,31] 0 (mo.moves st).length (fun j f s=>f 13=.int .i64 (j:Int)/\∃L' E',Rp (f 10) 4 (a1r L') E'/\Hp s E' [(0,[m.dt,.int .i64 m.g,m.dc,m.dv,m.dp,m.ds,.bool m.b])]/\a0E mo mo.moves L' i/\i<L'.length/\qAt L' i=(x,st)/\L'.length<=120/\∀j',j'<j->mo.doS st (O5 (mo.moves st) j')∈L'.map Prod.snd) (.mk rfl) (by omega) ⟨rfl,L,_,hr0,hp,hS,ci,hqe,hL,fun j' h=>by omega⟩ ?_
 clear hr0 hr hp g0 gi e1 hS hqe hL hiL
 rintro j f s hj ⟨hJ,L2,E2,hr,hp,hS,ci2,hqe,hL,hall⟩
 have g0:=hp.rh
 obtain ⟨id,e1,rfl⟩:=hr.arr (by rw [a25];exact a7u hS)
 rw [a25] at e1
 have hr0:=hr
 rw [e1] at hr0
 have gi:=hp.hd
 by_cases cj:j<(mo.moves st).length
 rotate_left
 ·refine zY (aN hJ (aN cj hfl)) ?_
  refine ⟨by omega,L2,_,hr,hp,hS.next (by rw [hqe];exact cb) (fun v hv=>?_),by omega,hL⟩
  rw [hqe] at hv ⊢
  simp only at hv ⊢
  obtain ⟨j',hj',rfl⟩:=List.getElem_of_mem hv
  rw [<- a3p hj']
  exact hall j' (by omega)
 have hvm:=a5x cj
 have pv:PZ (.agg [.int .i64 ((O5 (mo.moves st) j).kind:Int),.int .i64 ((O5 (mo.moves st) j).proc:Int),.int .i64 ((O5 (mo.moves st) j).edge:Int),.int .i64 ((O5 (mo.moves st) j).chan:Int)]):=a89
 obtain ⟨y,hdo,hy⟩:=b0p hm ho hf hx (a73 hvm)
 have hyr:=hrch.step hvm
 generalize ht:mo.doS st (O5 (mo.moves st) j)=t at *
 have oy:=hy.f.ones
 have fy:=a0n hy.f
 have hp2:=hp.fr (a2b (z:=.cells [.nils,.nils,.nils,.int .i64 0]) (o:=.cells [y.da,y.dv,y.dc,.int .i64 t.hold]))
 have l0:=M7 g0
 have li:=M7 gi
 refine zY (aN hJ (aN e1 (aN cj (aN hfl (aN g0 (aN gi (aN ci2 (aN hqe (aN om (aN fm (aN fx (aN ox (aN pv (aN oy hdo)))))))))))))) ?_
 generalize hs3:(s.push (.cells [.nils,.nils,.nils,.int .i64 0])).set s.next (some (.cells [y.da,y.dv,y.dc,.int .i64 t.hold]))=s3 at *
 have g14:s3.get s.next=some (.cells [y.da,y.dv,y.dc,.int .i64 t.hold]):=by rw [<- hs3];exact S1 (by simp)
 have gi3:=hp2.hd
 have g03:=hp2.rh
 refine a1f [0,1,2,3,4,8,9,10,11,12,13,14,23,31,43,72,76] (fun f s'=>f 15=.bool (decide (t∈L2.map Prod.snd))/\s'=s3) ?_ ?_
 ·refine S2 [0,1,2,3,4,8,9,10,11,12,13,14,23,31,43,72,76] 0 L2.length (fun k f s'=>f 16=.int .i64 (k:Int)/\f 15=.bool (decide (t∈(L2.take k).map Prod.snd))/\s'=s3) (.mk rfl) (by omega) ⟨rfl,by rw [List.take_zero,List.map_nil,decide_eq_false List.not_mem_nil];rfl,rfl⟩ ?_
  rintro k f s' hk ⟨hI,hK,rfl⟩
  by_cases ck:k<L2.length
  rotate_left
  ·obtain rfl:k=L2.length:=by omega
   rw [List.take_length] at hK
   exact zZ (aN hI (aN hK (aN ck e1)))
  by_cases cm:t∈(L2.take k).map Prod.snd
  ·rw [decide_eq_true cm] at hK
   refine zY (aN hI (aN hK (aN ck e1))) ?_
   have:t∈L2.map Prod.snd:=by
    obtain ⟨q,hq,rfl⟩:=List.mem_map.1 cm
    exact List.mem_map.2 ⟨q,List.mem_of_mem_take hq,rfl⟩
   rw [decide_eq_true this]
  ·rw [decide_eq_false cm] at hK
   have hxk:=a78 ho hf (fun _ _ h=>h) hS ck
   have hsq:=b2F ho hxk hy
   have hmt:=b52 ck t
   generalize hqk:qAt L2 k=qk at *
   obtain ⟨xk,tk⟩:=qk
   simp only at hsq hmt hxk
   have fk:=a0n hxk.f
   have ok:=hxk.f.ones
   refine zY (aN hI (aN hK (aN ck (aN e1 (aN gi3 (aN g14 (aN hqk (aN ok (aN oy (aN fk (aN fy hsq))))))))))) ?_
   congr 1
   apply propext
   rw [hmt]
   exact ⟨fun h=>.inr h,fun h=>h.resolve_left cm⟩
 rintro f s' ⟨hK,rfl⟩
 by_cases hin:t∈L2.map Prod.snd
 ·rw [decide_eq_true hin] at hK
  refine zY hK ?_
  refine ⟨by omega,L2,_,hr0,hp2,hS,ci2,hqe,hL,fun j' hj'=>?_⟩
  by_cases e:j'=j
  ·rw [e,ht];exact hin
  ·exact hall j' (by omega)
 rw [decide_eq_false hin] at hK
 by_cases c120:L2.length=120
 ·have c':(L2.length:Int)=120:=by omega
  refine zY (aN hK (aN e1 c')) ?_
  exact ⟨_,rfl,false,false,rfl,.inr (.inr ⟨rfl,rfl⟩)⟩
 have c':¬ (L2.length:Int)=120:=by omega
 refine zY (aN hK (aN e1 (aN c' (aN g14 (aN oy fy))))) ?_
 refine b2L (y,t) rfl hr0 hp2 (by decide) (by omega) ?_
 rintro d1 s1 E1 hr1 hp1
 refine zY hJ ?_
 refine ⟨cj,L2++[(y,t)],E1,hr1,hp1,hS.app (by omega) hyr hy.f hin,by simp;omega,by rw [a8i (by omega)];exact hqe,by simp;omega,fun j' hj'=>?_⟩
 rw [List.map_append]
 by_cases e:j'=j
 ·rw [e,ht];simp
 ·exact List.mem_append_left _ (hall j' (by omega))
end Go.Proofs.YtnjlhebkhjcagaaGreat
namespace Go.Proofs.YtnjlhebkhjcagaaGreat
open Go.V
set_option maxRecDepth 100000
set_option maxHeartbeats 4000000
variable {m:MdX} {mo:Mo} {ps:List (Pr×PrD)} {x:StD} {st:Stt}
theorem b2e (n:Nat):a1L [.int .i64 0] n=O6 (List.replicate n 0):=by
 induction n with
 | zero=>rfl
 | succ n ih=>simp only [a1L,ih,List.replicate_succ,O6,List.map_cons];rfl
def a3G (mo:Mo) (am al:Bool) (st:Stt):List Mv:=if al then mo.someM am st else if am then mo.ample st else mo.moves st
theorem b33 (ho:N2 mo):(mo.ample st).length<=1000000:=by
 have:=a3K ho (st:=st)
 refine Nat.le_trans (m:=(mo.moves st).length) ?_ (by omega)
 rcases b3A mo st with e | ⟨i,_,_,_,e⟩
 ·rw [e];exact Nat.le_refl _
 ·rw [e];exact List.length_filter_le _ _
theorem b7z (hm:MoF m mo ps) (ho:N2 mo) (hf:W9 mo) (hq:MoQ mo) (hC:MoC mo) (hx:X2 mo x st) (am al:Bool):a4G vfs 27 [.agg [m.dt,.int .i64 m.g,m.dc,m.dv,m.dp,m.ds,.bool m.b],.agg [x.da,x.dv,x.dc,.int .i64 st.hold],.bool am,.bool al] fun d=>FL 4 d (V0 (a3G mo am al st)):=by
 have om:=hm.ones
 have ox:=hx.f.ones
 have fm:=a1b hm
 have fx:=a0n hx.f
 have hnp:=ho.np
 have hfb:=c7J hm ho hf hx
 obtain ⟨da,ha1,ha2⟩:=c7j hm ho hf hq hx
 obtain ⟨dm,hm1,hm2⟩:=b2U hm ho hf hx
 have pa:=FL.pz ha2
 have pm:=FL.pz hm2
 have la:=b33 ho (st:=st)
 have lm:=a3K ho (st:=st)
 cases al
 ·cases am
  ·refine a2P (vf:=a3z) rfl ?_
   unfold a3z;refine zF ?_
   refine zY (aN om (aN ox (aN fm (aN fx (aN hfb (aN hm1 pm)))))) ?_
   exact ⟨_,rfl,hm2⟩
  ·refine a2P (vf:=a3z) rfl ?_
   unfold a3z;refine zF ?_
   refine zY (aN om (aN ox (aN fm (aN fx (aN hfb (aN ha1 pa)))))) ?_
   exact ⟨_,rfl,ha2⟩
 have hp0:Hp ((k4.empty.push (.cells [m.dt,.int .i64 m.g,m.dc,m.dv,m.dp,m.ds,.bool m.b])).push (.cells [x.da,x.dv,x.dc,.int .i64 st.hold])) [] [(0,[m.dt,.int .i64 m.g,m.dc,m.dv,m.dp,m.ds,.bool m.b]),(1,[x.da,x.dv,x.dc,.int .i64 st.hold])]:=⟨List.nodup_nil,by simp,by simp [Has],by
  intro y hy
  simp only [List.mem_cons,List.not_mem_nil,or_false] at hy
  rcases hy with rfl | rfl
  ·exact zZ0
  ·simp (disch:=(first|exact Rf.mk rfl|with_reducible assumption|omega|((repeat (first|rw [nP]|rw [nS]|rw [M3]))<;>omega)|decide)) only [go_sem,↓reduceIte]⟩
 have hbr:∀p,p<mo.procs.length->Eqc vfs 52 [.agg [m.dt,.int .i64 m.g,m.dc,m.dv,m.dp,m.ds,.bool m.b],.agg [x.da,x.dv,x.dc,.int .i64 st.hold],.int .i64 (p:Int)] (.bool (mo.barred st p)):=fun p hp=>b7E hm ho hC hx hp
 have hms:8*(mo.procs.length:Int)<=2 ^ 47/\(mo.procs.length:Int)<2 ^ 62:=⟨by omega,by omega⟩
 cases am
 ·refine a2P (vf:=a3z) rfl ?_
  unfold a3z;refine zF ?_
  refine zY (aN om (aN ox (aN fm (aN fx (aN hfb (aN hm1 hms)))))) ?_
  have hp1:Hp (((k4.empty.push (.cells [m.dt,.int .i64 m.g,m.dc,m.dv,m.dp,m.ds,.bool m.b])).push (.cells [x.da,x.dv,x.dc,.int .i64 st.hold])).push (.cells (a1L [.int .i64 0] mo.procs.length))) [(2,O6 (List.replicate mo.procs.length 0))] [(0,[m.dt,.int .i64 m.g,m.dc,m.dv,m.dp,m.ds,.bool m.b]),(1,[x.da,x.dv,x.dc,.int .i64 st.hold])]:=by
   rw [b2e]
   exact hp0.pushW _
  generalize ((k4.empty.push (.cells [m.dt,.int .i64 m.g,m.dc,m.dv,m.dp,m.ds,.bool m.b])).push (.cells [x.da,x.dv,x.dc,.int .i64 st.hold])).push (.cells (a1L [.int .i64 0] mo.procs.length))=s0 at *
  clear hp0
  refine a1f [0,1,2,3,4,5,8,9,10,12,14,18,19,27,35,47,48,49,50,63] (fun f s=>∃h,h.length=mo.procs.length/\(∀j,j<mo.procs.length->zAt h j=if mo.barred st j=true then 1 else 0)/\Hp s [(2,O6 h)] [(0,[m.dt,.int .i64 m.g,m.dc,m.dv,m.dp,m.ds,.bool m.b]),(1,[x.da,x.dv,x.dc,.int .i64 st.hold])]) ?_ ?_
  ·refine S2 [0,1,2,3,4,5,8,9,10,12,14,18,19,27,35,47,48,49,50,63] 0 mo.procs.length (fun i f s=>f 36=.int .i64 (i:Int)/\∃h,h.length=mo.procs.length/\(∀j,j<mo.procs.length->zAt h j=if j<i/\mo.barred st j=true then 1 else 0)/\Hp s [(2,O6 h)] [(0,[m.dt,.int .i64 m.g,m.dc,m.dv,m.dp,m.ds,.bool m.b]),(1,[x.da,x.dv,x.dc,.int .i64 st.hold])]) (.mk rfl) (by omega) ⟨rfl,List.replicate mo.procs.length 0,by simp,fun j hj=>by rw [if_neg (by omega)];simp [zAt,hj],hp1⟩ ?_
   rintro i f s hi ⟨hE,h,hl,hz,hp⟩
   have g0:s.get 0=some (.cells [m.dt,.int .i64 m.g,m.dc,m.dv,m.dp,m.ds,.bool m.b]):=hp.r (0,_) (by simp)
   have g1:=hp.rt.rh
   have g2:=hp.hd
   by_cases ci:i<mo.procs.length
   rotate_left
   ·refine zY (aN hE ci) ?_
    exact ⟨h,hl,fun j hj=>by rw [hz j hj];simp [show j<i by omega],hp⟩
   have ci':i<h.length:=by omega
   have hb:=hbr i ci
   cases hbi:mo.barred st i
   ·rw [hbi] at hb
    refine zY (aN hE (aN ci (aN g0 (aN g1 (aN om (aN ox (aN fm (aN fx hb)))))))) ?_
    refine ⟨h,hl,fun j hj=>?_,hp⟩
    rw [hz j hj]
    by_cases e:j=i
    ·subst e;simp [hbi]
    ·simp [show (j<i+1)=(j<i) by apply propext;omega]
   ·rw [hbi] at hb
    refine zY (aN hE (aN ci (aN g0 (aN g1 (aN om (aN ox (aN fm (aN fx (aN hb (aN g2 ci')))))))))) ?_
    refine ⟨h.set i 1,by simp [hl],fun j hj=>?_,Hp.set (A:=[]) hp _⟩
    rw [a5e ci',hz j hj]
    by_cases e:j=i
    ·subst e;simp [hbi]
    ·rw [if_neg e];simp [show (j<i+1)=(j<i) by apply propext;omega]
  rintro f s ⟨h,hl,hz,hp⟩
  refine zY hm2 ?_
  refine S2 [0,1,2,3,4,5,8,9,10,11,18,19,27,35,36,37,42,47,48] 0 (mo.moves st).length (fun j f s=>f 49=.int .i64 (j:Int)/\∃E,Rp (f 12) 4 (V0 (((mo.moves st).take j).filter (mo.freeM st))) E/\Hp s (E++[(2,O6 h)]) [(0,[m.dt,.int .i64 m.g,m.dc,m.dv,m.dp,m.ds,.bool m.b]),(1,[x.da,x.dv,x.dc,.int .i64 st.hold])]) (.mk rfl) (by omega) ⟨rfl,[],.inl ⟨rfl,rfl,rfl⟩,hp⟩ ?_
  rintro j f s hj ⟨hE,E,hr,hp⟩
  by_cases cj:j<(mo.moves st).length
  rotate_left
  ·obtain rfl:j=(mo.moves st).length:=by omega
   rw [List.take_length] at hr
   obtain ⟨d',h1,h2⟩:=a3D hr hp (fun e h=>by simp [h]) (a2F _) (a38 _)
   refine zY (aN hE (aN cj h1)) ?_
   exact ⟨_,rfl,h2⟩
  have hp2:=hp.fr (a2b (z:=.cells [.int .i64 0,.int .i64 0,.int .i64 0,.int .i64 0]) (o:=.cells [.int .i64 ((O5 (mo.moves st) j).kind:Int),.int .i64 ((O5 (mo.moves st) j).proc:Int),.int .i64 ((O5 (mo.moves st) j).edge:Int),.int .i64 ((O5 (mo.moves st) j).chan:Int)]))
  have hsu:=a9K (P:=mo.freeM st) cj
  have gh:s.get 2=some (.cells (O6 h)):=hp.w (2,O6 h) (by simp)
  have lh:=M7 gh
  by_cases k0:(O5 (mo.moves st) j).kind=0
  rotate_left
  ·have k0':¬ ((O5 (mo.moves st) j).kind:Int)=0:=by omega
   have:mo.freeM st (O5 (mo.moves st) j)=true:=by unfold Mo.freeM;rw [decide_eq_false k0];rfl
   rw [if_pos this] at hsu
   refine zY (aN hE (aN cj (aN hm2 k0'))) ?_
   refine a6Z (A:=[]) (B:=[(2,O6 h)]) hr (by simpa using hp2) rfl (a2F _) (by decide) (by have:=a5I (l:=(mo.moves st)) (P:=mo.freeM st) (j:=j);simp;omega) ?_
   rintro d1 s1 E1 hr1 hp1 hn1
   refine zY (aN hE cj) ?_
   rw [hsu]
   exact ⟨E1,by simpa [V0,Mv.row] using hr1,by simpa using hp1⟩
  have k0':((O5 (mo.moves st) j).kind:Int)=0:=by omega
  have hpr:(O5 (mo.moves st) j).proc<h.length:=by
   have hv:O5 (mo.moves st) j∈mo.moves st:=a5x cj
   rcases a1G.1 hv with ⟨_,_,y,_⟩ | ⟨_,_,y⟩
   ·omega
   ·have:=a3Q y;omega
  have hzp:=hz _ (show (O5 (mo.moves st) j).proc<mo.procs.length by omega)
  cases hbp:mo.barred st (O5 (mo.moves st) j).proc
  ·have:mo.freeM st (O5 (mo.moves st) j)=true:=by unfold Mo.freeM;rw [hbp,Bool.and_false];rfl
   rw [if_pos this] at hsu
   rw [hbp,if_neg (by simp)] at hzp
   refine zY (aN hE (aN cj (aN hm2 (aN k0' (aN gh (aN hpr hzp)))))) ?_
   refine a6Z (A:=[]) (B:=[(2,O6 h)]) hr (by simpa [k0'] using hp2) rfl (a2F _) (by decide) (by have:=a5I (l:=(mo.moves st)) (P:=mo.freeM st) (j:=j);simp;omega) ?_
   rintro d1 s1 E1 hr1 hp1 hn1
   refine zY (aN hE cj) ?_
   rw [hsu]
   exact ⟨E1,by simpa [V0,Mv.row,k0'] using hr1,by simpa using hp1⟩
  ·have:mo.freeM st (O5 (mo.moves st) j)=false:=by unfold Mo.freeM;rw [hbp,decide_eq_true k0];rfl
   rw [if_neg (by rw [this];simp),List.append_nil] at hsu
   rw [hbp,if_pos rfl] at hzp
   refine zY (aN hE (aN cj (aN hm2 (aN k0' (aN gh (aN hpr hzp)))))) ?_
   rw [hsu]
   exact ⟨E,hr,by simpa [k0'] using hp2⟩
 ·refine a2P (vf:=a3z) rfl ?_
  unfold a3z;refine zF ?_
  refine zY (aN om (aN ox (aN fm (aN fx (aN hfb (aN ha1 hms)))))) ?_
  have hp1:Hp (((k4.empty.push (.cells [m.dt,.int .i64 m.g,m.dc,m.dv,m.dp,m.ds,.bool m.b])).push (.cells [x.da,x.dv,x.dc,.int .i64 st.hold])).push (.cells (a1L [.int .i64 0] mo.procs.length))) [(2,O6 (List.replicate mo.procs.length 0))] [(0,[m.dt,.int .i64 m.g,m.dc,m.dv,m.dp,m.ds,.bool m.b]),(1,[x.da,x.dv,x.dc,.int .i64 st.hold])]:=by
   rw [b2e]
   exact hp0.pushW _
  generalize ((k4.empty.push (.cells [m.dt,.int .i64 m.g,m.dc,m.dv,m.dp,m.ds,.bool m.b])).push (.cells [x.da,x.dv,x.dc,.int .i64 st.hold])).push (.cells (a1L [.int .i64 0] mo.procs.length))=s0 at *
  clear hp0
  refine a1f [0,1,2,3,4,5,8,9,10,12,14,18,19,27,35,47,48,49,50,63] (fun f s=>∃h,h.length=mo.procs.length/\(∀j,j<mo.procs.length->zAt h j=if mo.barred st j=true then 1 else 0)/\Hp s [(2,O6 h)] [(0,[m.dt,.int .i64 m.g,m.dc,m.dv,m.dp,m.ds,.bool m.b]),(1,[x.da,x.dv,x.dc,.int .i64 st.hold])]) ?_ ?_
  ·refine S2 [0,1,2,3,4,5,8,9,10,12,14,18,19,27,35,47,48,49,50,63] 0 mo.procs.length (fun i f s=>f 36=.int .i64 (i:Int)/\∃h,h.length=mo.procs.length/\(∀j,j<mo.procs.length->zAt h j=if j<i/\mo.barred st j=true then 1 else 0)/\Hp s [(2,O6 h)] [(0,[m.dt,.int .i64 m.g,m.dc,m.dv,m.dp,m.ds,.bool m.b]),(1,[x.da,x.dv,x.dc,.int .i64 st.hold])]) (.mk rfl) (by omega) ⟨rfl,List.replicate mo.procs.length 0,by simp,fun j hj=>by rw [if_neg (by omega)];simp [zAt,hj],hp1⟩ ?_
   rintro i f s hi ⟨hE,h,hl,hz,hp⟩
   have g0:s.get 0=some (.cells [m.dt,.int .i64 m.g,m.dc,m.dv,m.dp,m.ds,.bool m.b]):=hp.r (0,_) (by simp)
   have g1:=hp.rt.rh
   have g2:=hp.hd
   by_cases ci:i<mo.procs.length
   rotate_left
   ·refine zY (aN hE ci) ?_
    exact ⟨h,hl,fun j hj=>by rw [hz j hj];simp [show j<i by omega],hp⟩
   have ci':i<h.length:=by omega
   have hb:=hbr i ci
   cases hbi:mo.barred st i
   ·rw [hbi] at hb
    refine zY (aN hE (aN ci (aN g0 (aN g1 (aN om (aN ox (aN fm (aN fx hb)))))))) ?_
    refine ⟨h,hl,fun j hj=>?_,hp⟩
    rw [hz j hj]
    by_cases e:j=i
    ·subst e;simp [hbi]
    ·simp [show (j<i+1)=(j<i) by apply propext;omega]
   ·rw [hbi] at hb
    refine zY (aN hE (aN ci (aN g0 (aN g1 (aN om (aN ox (aN fm (aN fx (aN hb (aN g2 ci')))))))))) ?_
    refine ⟨h.set i 1,by simp [hl],fun j hj=>?_,Hp.set (A:=[]) hp _⟩
    rw [a5e ci',hz j hj]
    by_cases e:j=i
    ·subst e;simp [hbi]
    ·rw [if_neg e];simp [show (j<i+1)=(j<i) by apply propext;omega]
  rintro f s ⟨h,hl,hz,hp⟩
  refine zY ha2 ?_
  refine S2 [0,1,2,3,4,5,8,9,10,11,18,19,27,35,36,37,42,47,48] 0 (mo.ample st).length (fun j f s=>f 49=.int .i64 (j:Int)/\∃E,Rp (f 12) 4 (V0 (((mo.ample st).take j).filter (mo.freeM st))) E/\Hp s (E++[(2,O6 h)]) [(0,[m.dt,.int .i64 m.g,m.dc,m.dv,m.dp,m.ds,.bool m.b]),(1,[x.da,x.dv,x.dc,.int .i64 st.hold])]) (.mk rfl) (by omega) ⟨rfl,[],.inl ⟨rfl,rfl,rfl⟩,hp⟩ ?_
  rintro j f s hj ⟨hE,E,hr,hp⟩
  by_cases cj:j<(mo.ample st).length
  rotate_left
  ·obtain rfl:j=(mo.ample st).length:=by omega
   rw [List.take_length] at hr
   obtain ⟨d',h1,h2⟩:=a3D hr hp (fun e h=>by simp [h]) (a2F _) (a38 _)
   refine zY (aN hE (aN cj h1)) ?_
   exact ⟨_,rfl,h2⟩
  have hp2:=hp.fr (a2b (z:=.cells [.int .i64 0,.int .i64 0,.int .i64 0,.int .i64 0]) (o:=.cells [.int .i64 ((O5 (mo.ample st) j).kind:Int),.int .i64 ((O5 (mo.ample st) j).proc:Int),.int .i64 ((O5 (mo.ample st) j).edge:Int),.int .i64 ((O5 (mo.ample st) j).chan:Int)]))
  have hsu:=a9K (P:=mo.freeM st) cj
  have gh:s.get 2=some (.cells (O6 h)):=hp.w (2,O6 h) (by simp)
  have lh:=M7 gh
  by_cases k0:(O5 (mo.ample st) j).kind=0
  rotate_left
  ·have k0':¬ ((O5 (mo.ample st) j).kind:Int)=0:=by omega
   have:mo.freeM st (O5 (mo.ample st) j)=true:=by unfold Mo.freeM;rw [decide_eq_false k0];rfl
   rw [if_pos this] at hsu
   refine zY (aN hE (aN cj (aN ha2 k0'))) ?_
   refine a6Z (A:=[]) (B:=[(2,O6 h)]) hr (by simpa using hp2) rfl (a2F _) (by decide) (by have:=a5I (l:=(mo.ample st)) (P:=mo.freeM st) (j:=j);simp;omega) ?_
   rintro d1 s1 E1 hr1 hp1 hn1
   refine zY (aN hE cj) ?_
   rw [hsu]
   exact ⟨E1,by simpa [V0,Mv.row] using hr1,by simpa using hp1⟩
  have k0':((O5 (mo.ample st) j).kind:Int)=0:=by omega
  have hpr:(O5 (mo.ample st) j).proc<h.length:=by
   have hv:O5 (mo.ample st) j∈mo.moves st:=a4h (a5x cj)
   rcases a1G.1 hv with ⟨_,_,y,_⟩ | ⟨_,_,y⟩
   ·omega
   ·have:=a3Q y;omega
  have hzp:=hz _ (show (O5 (mo.ample st) j).proc<mo.procs.length by omega)
  cases hbp:mo.barred st (O5 (mo.ample st) j).proc
  ·have:mo.freeM st (O5 (mo.ample st) j)=true:=by unfold Mo.freeM;rw [hbp,Bool.and_false];rfl
   rw [if_pos this] at hsu
   rw [hbp,if_neg (by simp)] at hzp
   refine zY (aN hE (aN cj (aN ha2 (aN k0' (aN gh (aN hpr hzp)))))) ?_
   refine a6Z (A:=[]) (B:=[(2,O6 h)]) hr (by simpa [k0'] using hp2) rfl (a2F _) (by decide) (by have:=a5I (l:=(mo.ample st)) (P:=mo.freeM st) (j:=j);simp;omega) ?_
   rintro d1 s1 E1 hr1 hp1 hn1
   refine zY (aN hE cj) ?_
   rw [hsu]
   exact ⟨E1,by simpa [V0,Mv.row,k0'] using hr1,by simpa using hp1⟩
  ·have:mo.freeM st (O5 (mo.ample st) j)=false:=by unfold Mo.freeM;rw [hbp,decide_eq_true k0];rfl
   rw [if_neg (by rw [this];simp),List.append_nil] at hsu
   rw [hbp,if_pos rfl] at hzp
   refine zY (aN hE (aN cj (aN ha2 (aN k0' (aN gh (aN hpr hzp)))))) ?_
   rw [hsu]
   exact ⟨E,hr,by simpa [k0'] using hp2⟩
end Go.Proofs.YtnjlhebkhjcagaaGreat
namespace Go.Proofs.YtnjlhebkhjcagaaGreat
open Go.V
set_option maxRecDepth 100000
set_option maxHeartbeats 4000000
variable {m:MdX} {mo:Mo} {ps:List (Pr×PrD)} {x:StD} {st:Stt}
theorem a8O (hm:MoF m mo ps) (ho:N2 mo) (hf:W9 mo) (hq:MoQ mo) (hC:MoC mo) (hx:X2 mo x st) (am al:Bool):∃d,Eqc vfs 27 [.agg [m.dt,.int .i64 m.g,m.dc,m.dv,m.dp,m.ds,.bool m.b],.agg [x.da,x.dv,x.dc,.int .i64 st.hold],.bool am,.bool al] d/\FL 4 d (V0 (a3G mo am al st)):=by
 obtain ⟨d,h1,h2⟩:=b7z hm ho hf hq hC hx am al
 exact ⟨d,S4 h1,h2⟩
theorem b6m (ho:N2 mo) {am:Bool}:(mo.someM am st).length<=17000:=by
 have h2:=a3K ho (st:=st)
 have h3:(mo.ample st).length<=(mo.moves st).length:=by
  rcases b3A mo st with e | ⟨i,_,_,_,e⟩
  ·rw [e];exact Nat.le_refl _
  ·rw [e];exact List.length_filter_le _ _
 unfold Mo.someM
 cases am
 ·exact Nat.le_trans (List.length_filter_le _ _) (by simp;omega)
 ·exact Nat.le_trans (List.length_filter_le _ _) (by simp;omega)
end Go.Proofs.YtnjlhebkhjcagaaGreat
namespace Go.Proofs.YtnjlhebkhjcagaaGreat
open Go.V
set_option maxRecDepth 100000
set_option maxHeartbeats 4000000
variable {m:MdX} {mo:Mo} {ps:List (Pr×PrD)} {x:StD} {st:Stt}
theorem b4w (ho:N2 mo) (hf:W9 mo) (hq:MoQ mo) (hC:MoC mo) {am:Bool}:∀ {n:Nat} {s t:Stt},a3O mo s->Z3 mo (mo.someM am) n s t->a3O mo t
 | 0,s,t,h,hp=>by cases hp;exact h
 | n+1,s,t,h,⟨v,hv,hp⟩=>b4w ho hf hq hC (h.step ho hf hq hC hv) hp
theorem c5q (ho:N2 mo) (hf:W9 mo) (hq:MoQ mo) (hC:MoC mo) {am:Bool} {t:Stt} (h:Rch mo (mo.someM am) t):a3O mo t:=by
 obtain ⟨n,h⟩:=h
 exact b4w ho hf hq hC (b7g ho hf) h
theorem c46 {d:D} (h:a2d .bool d):∃b,d=.bool b:=by
 have h:X0 .bool [d]:=h
 simp only [X0] at h
 obtain ⟨n,e⟩:=h
 simp at e
 exact ⟨n,e⟩
theorem c0k {d0:D} {t:List Nd} {am:Bool} (hT:O0 d0 t):EvP vfs 8 [d0,.bool am] k4.empty fun r _=>r=.bool true:=by
 have haw:Eqc vfs 25 [] (.bool true):=a2w a9B rfl
 have pT:PZ d0:=hT.fl.pz
 have oT:=FL.one hT.fl
 obtain ⟨d',h1,h2⟩:=a8I hT
 rcases h2 with rfl | ⟨m,ps,rfl,hR,hS,hY,hm⟩
 ·refine Y7 (vf:=vf8) rfl ?_
  unfold vf8;refine zF ?_
  refine zY (aN haw (aN h1 pT)) ?_
  exact rfl
 have ho:=b1q hR hS hY
 have hf:=a9q hR hY
 have hq:=a9Q hR hS
 have hC:=a9p hR hS
 have hs:=b2p hR hS ho
 generalize U2 t=mo at *
 have om:=hm.ones
 have fm:=a1b hm
 obtain ⟨dx,hx1,a,b,rfl,hab⟩:=c8r hm ho hf
 have hx1:=S4 hx1
 unfold N8 at h1
 cases b
 ·refine Y7 (vf:=vf8) rfl ?_
  unfold vf8;refine zF ?_
  refine zY (aN haw (aN h1 (aN pT (aN om (aN fm hx1))))) ?_
  exact rfl
 have bad_true:∀t,Rch mo (mo.someM am) t->mo.badS t=true->a=true:=fun t ht hb=>by
  rcases hab with ⟨e,_⟩ | ⟨_,_,_,_,h⟩ | ⟨_,e⟩
  ·exact e
  ·have:=(h t (ht.mono fun s v=>a28)).2
   rw [hb] at this;cases this
  ·cases e
 have long_true:∀ {L:QL} {i:Nat},a0E mo (mo.someM am) L i->130<L.length->a=true:=fun {L i} hS hl=>by
  rcases hab with ⟨e,_⟩ | ⟨_,_,R,hR,h⟩ | ⟨_,e⟩
  ·exact e
  ·have:=b3e hS.nd fun t ht=>by
    obtain ⟨q,hq,rfl⟩:=List.mem_map.1 ht
    exact (h q.2 ((hS.rch q hq).mono fun s v=>a28)).1
   rw [List.length_map] at this
   omega
  ·cases e
 have all_false:(∀t,Rch mo (mo.someM am) t->mo.badS t=false)->a=false:=fun hn=>by
  rcases hab with ⟨_,_,t,⟨n,hp⟩,hb⟩ | ⟨e,_⟩ | ⟨_,e⟩
  ·obtain ⟨k,t',hp',hb'⟩:=c3R ho hf hq hs hC am hb (b18 ho hf) (b3w ho) hp
   rw [hn t' ⟨k,hp'⟩] at hb';cases hb'
  ·exact e
  ·cases e
 obtain ⟨x0,hf0,hx0⟩:=b0N hm ho hf
 have ox0:=hx0.f.ones
 have fx0:=a0n hx0.f
 refine Y7 (vf:=vf8) rfl ?_
 unfold vf8;refine zF ?_
 refine zY (aN haw (aN h1 (aN pT (aN om (aN fm (aN hx1 (aN hf0 (aN ox0 fx0)))))))) ?_
 refine S2 [0,1,5,6,7,8,17,24,31] 0 20000 (fun i f s=>f 10=.int .i64 (i:Int)/\∃L E,Rp (f 9) 4 (a1r L) E/\Hp s E [(0,[m.dt,.int .i64 m.g,m.dc,m.dv,m.dp,m.ds,.bool m.b])]/\a0E mo (mo.someM am) L i/\i<=L.length/\L.length<=20000) (.mk rfl) (by omega) ⟨rfl,[(x0,mo.fst)],[(1,a47 (x0,mo.fst))],?_,?_,a0E.start rfl hx0.f,by simp,by simp⟩ ?_
 ·exact .inr ⟨1,rfl,by simp [a1r],by simp [a1r]⟩
 ·exact Hp.pushW (s:=(k4.empty.push (.cells [.nils,.int .i64 0,.nils,.nils,.nils,.nils,.bool false])).set 0 (some (.cells [m.dt,.int .i64 m.g,m.dc,m.dv,m.dp,m.ds,.bool m.b]))) (W:=[]) ⟨List.nodup_nil,by simp,by simp [Has],by simp [Has];simp (disch:=(first|exact Rf.mk rfl|with_reducible assumption|omega|((repeat (first|rw [nP]|rw [nS]|rw [M3]))<;>omega)|decide)) only [go_sem,↓reduceIte]⟩ _
 rintro i f s hi ⟨hE,L,E,hr,hp,hS,hiL,hL⟩
 have g0:=hp.rh
 obtain ⟨id,e1,rfl⟩:=hr.arr (by rw [a25];exact a7u hS)
 rw [a25] at e1
 have hr0:=hr
 rw [e1] at hr0
 have gi:=hp.hd
 by_cases ci:i<L.length
 rotate_left
 ·refine zY (aN hE (aN e1 ci)) ?_
  rw [all_false fun t ht=>(hS.all ci t ht).2]
  rfl
 have hx:=a78 ho hf (fun _ _=>a28) hS ci
 have hrch:=hS.rch _ (a8k ci)
 generalize hqe:qAt L i=q at *
 obtain ⟨x,st⟩:=q
 simp only at hx hrch
 have fx:=a0n hx.f
 have ox:=hx.f.ones
 have hb:=b6y hm ho hx
 cases cb:mo.badS st
 rotate_left
 ·rw [cb] at hb
  refine zY (aN hE (aN e1 (aN ci (aN g0 (aN gi (aN om (aN fm (aN fx (aN ox (aN hqe hb)))))))))) ?_
  exact congrArg D.bool (bad_true st hrch cb)
 rw [cb] at hb
 obtain ⟨dm,hsm,hfl⟩:=a8O hm ho hf hq hC hx am true
 have hfl:FL 4 dm (V0 (mo.someM am st)):=hfl
 obtain ⟨dn,hmv,hfn⟩:=a6l hm ho hx
 have hmv:=S4 hmv
 have hml:(mo.someM am st).length<=17000:=b6m ho
 have hal:=c5q ho hf hq hC hrch
 have hss:(mo.someM am st).length=0->(mo.moves st).length=0:=fun h=>by
  by_cases c:mo.moves st=[]
  ·rw [c];rfl
  ·exact absurd (List.length_eq_zero_iff.1 h) (b4f ho hq hs hC am hal.inv hal.un c)
 have pm:=FL.pz hfl
 by_cases c130:130<L.length
 ·have c':(130:Int)<(L.length:Int):=by omega
  by_cases c0:(mo.someM am st).length=0
  ·have c1:=hss c0
   refine zY (aN hE (aN e1 (aN ci (aN g0 (aN gi (aN om (aN fm (aN fx (aN ox (aN hqe (aN hb (aN hsm (aN hfl (aN hmv (aN hfn (aN c0 (aN c1 c'))))))))))))))))) ?_
   exact congrArg D.bool (long_true hS c130)
  ·refine zY (aN hE (aN e1 (aN ci (aN g0 (aN gi (aN om (aN fm (aN fx (aN ox (aN hqe (aN hb (aN hsm (aN hfl (aN hmv (aN hfn (aN c0 c')))))))))))))))) ?_
   exact congrArg D.bool (long_true hS c130)
 have c':¬ (130:Int)<(L.length:Int):=by omega
 have c1:(mo.someM am st).length=0->((mo.moves st).length:Int)=0:=fun h=>by rw [hss h];rfl
 by_cases c0:(mo.someM am st).length=0
 have c1:=hss c0
 refine zY (aN hE (aN e1 (aN ci (aN g0 (aN gi (aN om (aN fm (aN fx (aN ox (aN hqe (aN hb (aN hsm (aN hfl (aN hmv (aN hfn (aN c0 (aN c1 c'))))))))))))))))) ?_
 rotate_left
 refine zY (aN hE (aN e1 (aN ci (aN g0 (aN gi (aN om (aN fm (aN fx (aN ox (aN hqe (aN hb (aN hsm (aN hfl (aN hmv (aN hfn (aN c0 c')))))))))))))))) ?_
 all_goals
  refine S2 [0,1,4,5,6,7,8,10,11,17,24,31,38,46,67,70] 0 (mo.someM am st).length (fun j f s=>f 12=.int .i64 (j:Int)/\∃L' E',Rp (f 9) 4 (a1r L') E'/\Hp s E' [(0,[m.dt,.int .i64 m.g,m.dc,m.dv,m.dp,m.ds,.bool m.b])]/\a0E mo (mo.someM am) L' i/\i<L'.length/\qAt L' i=(x,st)/\L'.length<=130+j/\∀j',j'<j->mo.doS st (O5 (mo.someM am st) j')∈L'.map Prod.snd) (.mk rfl) (by omega) ⟨rfl,L,_,hr0,hp,hS,ci,hqe,by omega,fun j' h=>by omega⟩ ?_
  clear hr0 hr hp g0 gi e1 hS hqe hL hiL
  rintro j f s hj ⟨hJ,L2,E2,hr,hp,hS,ci2,hqe,hL,hall⟩
  have g0:=hp.rh
  obtain ⟨id,e1,rfl⟩:=hr.arr (by rw [a25];exact a7u hS)
  rw [a25] at e1
  have hr0:=hr
  rw [e1] at hr0
  have gi:=hp.hd
  by_cases cj:j<(mo.someM am st).length
  rotate_left
  ·refine zY (aN hJ (aN cj hfl)) ?_
   refine ⟨L2,_,hr,hp,hS.next (by rw [hqe];exact cb) (fun v hv=>?_),by omega,by omega⟩
   rw [hqe] at hv ⊢
   simp only at hv ⊢
   obtain ⟨j',hj',rfl⟩:=List.getElem_of_mem hv
   rw [<- a3p hj']
   exact hall j' (by omega)
 rotate_left
 ·exfalso;omega
 have hvm:=a5x cj
 have pv:PZ (.agg [.int .i64 ((O5 (mo.someM am st) j).kind:Int),.int .i64 ((O5 (mo.someM am st) j).proc:Int),.int .i64 ((O5 (mo.someM am st) j).edge:Int),.int .i64 ((O5 (mo.someM am st) j).chan:Int)]):=a89
 obtain ⟨y,hdo,hy⟩:=b0p hm ho hf hx (a73 (a28 hvm))
 have hyr:=hrch.step hvm
 generalize ht:mo.doS st (O5 (mo.someM am st) j)=t at *
 have oy:=hy.f.ones
 have fy:=a0n hy.f
 have hp2:=hp.fr (a2b (z:=.cells [.nils,.nils,.nils,.int .i64 0]) (o:=.cells [y.da,y.dv,y.dc,.int .i64 t.hold]))
 have l0:=M7 g0
 have li:=M7 gi
 refine zY (aN hJ (aN e1 (aN cj (aN hfl (aN g0 (aN gi (aN ci2 (aN hqe (aN om (aN fm (aN fx (aN ox (aN pv (aN oy hdo)))))))))))))) ?_
 generalize hs3:(s.push (.cells [.nils,.nils,.nils,.int .i64 0])).set s.next (some (.cells [y.da,y.dv,y.dc,.int .i64 t.hold]))=s3 at *
 have g14:s3.get s.next=some (.cells [y.da,y.dv,y.dc,.int .i64 t.hold]):=by rw [<- hs3];exact S1 (by simp)
 have gi3:=hp2.hd
 have g03:=hp2.rh
 refine a1f [0,1,4,5,6,7,8,9,10,11,12,13,17,24,31,38,46,67,70,75,105] (fun f s'=>f 14=.bool (decide (t∈L2.map Prod.snd))/\s'=s3) ?_ ?_
 ·refine S2 [0,1,4,5,6,7,8,9,10,11,12,13,17,24,31,38,46,67,70,75,105] 0 L2.length (fun k f s'=>f 15=.int .i64 (k:Int)/\f 14=.bool (decide (t∈(L2.take k).map Prod.snd))/\s'=s3) (.mk rfl) (by omega) ⟨rfl,by rw [List.take_zero,List.map_nil,decide_eq_false List.not_mem_nil];rfl,rfl⟩ ?_
  rintro k f s' hk ⟨hI,hK,rfl⟩
  by_cases ck:k<L2.length
  rotate_left
  ·obtain rfl:k=L2.length:=by omega
   rw [List.take_length] at hK
   exact zZ (aN hI (aN hK (aN ck e1)))
  by_cases cm:t∈(L2.take k).map Prod.snd
  ·rw [decide_eq_true cm] at hK
   refine zY (aN hI (aN hK (aN ck e1))) ?_
   have:t∈L2.map Prod.snd:=by
    obtain ⟨q,hq,rfl⟩:=List.mem_map.1 cm
    exact List.mem_map.2 ⟨q,List.mem_of_mem_take hq,rfl⟩
   rw [decide_eq_true this]
  ·rw [decide_eq_false cm] at hK
   have hxk:=a78 ho hf (fun _ _=>a28) hS ck
   have hsq:=b2F ho hxk hy
   have hmt:=b52 ck t
   generalize hqk:qAt L2 k=qk at *
   obtain ⟨xk,tk⟩:=qk
   simp only at hsq hmt hxk
   have fk:=a0n hxk.f
   have ok:=hxk.f.ones
   refine zY (aN hI (aN hK (aN ck (aN e1 (aN gi3 (aN g14 (aN hqk (aN ok (aN oy (aN fk (aN fy hsq))))))))))) ?_
   congr 1
   apply propext
   rw [hmt]
   exact ⟨fun h=>.inr h,fun h=>h.resolve_left cm⟩
 rintro f s' ⟨hK,rfl⟩
 by_cases hin:t∈L2.map Prod.snd
 ·rw [decide_eq_true hin] at hK
  refine zY hK ?_
  refine ⟨by omega,L2,_,hr0,hp2,hS,ci2,hqe,by omega,fun j' hj'=>?_⟩
  by_cases e:j'=j
  ·rw [e,ht];exact hin
  ·exact hall j' (by omega)
 rw [decide_eq_false hin] at hK
 refine zY (aN hK (aN e1 (aN g14 (aN oy fy)))) ?_
 refine b2L (y,t) rfl hr0 hp2 (by decide) (by omega) ?_
 rintro d1 s1 E1 hr1 hp1
 refine zY hJ ?_
 refine ⟨cj,L2++[(y,t)],E1,hr1,hp1,hS.app (by omega) hyr hy.f hin,by simp;omega,by rw [a8i (by omega)];exact hqe,by simp;omega,fun j' hj'=>?_⟩
 rw [List.map_append]
 by_cases e:j'=j
 ·rw [e,ht];simp
 ·exact List.mem_append_left _ (hall j' (by omega))
theorem c8C {d0 d1:D} (h0:a2d Ty.tree d0) (h1:a2d .bool d1):EvP vfs 8 [d0,d1] k4.empty fun r _=>r=.bool true:=by
 obtain ⟨t,hT⟩:=a9R h0
 obtain ⟨b,rfl⟩:=c46 h1
 exact c0k hT
end Go.Proofs.YtnjlhebkhjcagaaGreat
