/- Texts one behind the other. -/
import Derived.Test.YtnjlhebkhjcagaaGreatZ5
import Derived.Test.YtnjlhebkhjcagaaGreatZ6
set_option linter.unusedSimpArgs false
set_option linter.unusedVariables false
namespace Go.Proofs.YtnjlhebkhjcagaaGreat
open Go.V
set_option maxRecDepth 100000
set_option maxHeartbeats 4000000
variable {m:MdX} {mo:Mo} {ps:List (Pr×PrD)} {x:StD} {st:Stt}
theorem a5C {x w:Int} (h1:-4294967296<=x) (h2:x<=4294967296) (h3:1<=w) (h4:w<=8):Eqc vfs 38 [.int .i64 x,.int .i64 w] (.int .i64 (N4 x w.toNat)):=a2w (a7r (x:=x) (n:=w) (w:=w.toNat) (by omega) ⟨by omega,by omega⟩) rfl
theorem b7b (hm:MoF m mo ps) (ho:N6 mo) (hf:X5 mo) (hx:Y5 mo x st) {v:Mv} (hv:mo.mvOk st v):EvP vfs 22 [.agg [m.dt,.int .i64 m.g,m.dc,m.dv,m.dp,m.ds,.bool m.b],.agg [x.da,x.dv,x.dc,.int .i64 st.hold],.agg [.int .i64 (v.kind:Int),.int .i64 (v.proc:Int),.int .i64 (v.edge:Int),.int .i64 (v.chan:Int)]] k4.empty fun r s=>∃cs,r=.agg cs/\a0s s cs (mo.doS st v):=by
 have om:=hm.ones
 have ox:=hx.f.ones
 have fm:=a04 hm
 have fx:=a0D hx.f
 have hcl:=hx.fit.chans
 have hvl:=hx.fit.vars
 have hal:=hx.fit.at'
 have hnc:=ho.nc
 have hnv:=ho.nv
 have hnp:=ho.np
 refine X8 (vf:=a5R) rfl ?_
 unfold a5R;refine zF ?_
 refine zY (aN om ox) ?_
 refine a1Q (b2E hx.f (by omega) hx.e (by omega) (by omega)) (by simp (disch:=(first|exact Rf.mk rfl|with_reducible assumption|omega|((repeat (first|rw [nP]|rw [nS]|rw [M3]))<;>omega)|decide)) only [go_sem,↓reduceIte]) ?_
 rintro r s1 ⟨hm1,fr⟩
 obtain ⟨a,vv,dC,ids,rfl,H⟩:=hm1.open
 have l1:=fr.1
 simp only [k4.next_push,M3,Nat.reduceAdd] at H l1
 have g0:s1.get 0=some (.cells [m.dt,.int .i64 m.g,m.dc,m.dv,m.dp,m.ds,.bool m.b]):=by rw [fr.2 0 (by simp [M3]) (by simp)];simp (disch:=(first|exact Rf.mk rfl|with_reducible assumption|omega|((repeat (first|rw [nP]|rw [nS]|rw [M3]))<;>omega)|decide)) only [go_sem,↓reduceIte]
 have g1:s1.get 1=some (.cells [x.da,x.dv,x.dc,.int .i64 st.hold]):=by rw [fr.2 1 (by simp [M3]) (by simp)];simp (disch:=(first|exact Rf.mk rfl|with_reducible assumption|omega|((repeat (first|rw [nP]|rw [nS]|rw [M3]))<;>omega)|decide)) only [go_sem,↓reduceIte]
 have g2:s1.get 2=some (.cells [.int .i64 (v.kind:Int),.int .i64 (v.proc:Int),.int .i64 (v.edge:Int),.int .i64 (v.chan:Int)]):=by rw [fr.2 2 (by simp [M3]) (by simp)];simp (disch:=(first|exact Rf.mk rfl|with_reducible assumption|omega|((repeat (first|rw [nP]|rw [nS]|rw [M3]))<;>omega)|decide)) only [go_sem,↓reduceIte]
 have g3:s1.get 3=some (.cells [.nils,.nils,.nils,.int .i64 0]):=by rw [fr.2 3 (by simp [M3]) (by simp)];simp (disch:=(first|exact Rf.mk rfl|with_reducible assumption|omega|((repeat (first|rw [nP]|rw [nS]|rw [M3]))<;>omega)|decide)) only [go_sem,↓reduceIte]
 clear fr hm1
 have H':=H
 obtain ⟨hil,ga,gv,gc,gq,inj,av,na,nv⟩:=H'
 have oc:M9 dC=true:=by rcases gc with ⟨_,rfl⟩ | ⟨c,rfl,_⟩<;>rfl
 have la:=M7 ga
 have lv:=M7 gv
 rcases hv with ⟨hk,hp,he,hcan⟩ | ⟨hk,hc,hlen⟩ | ⟨hk,hc,hlen,hroom⟩
 ·have hpo:=ho.pr _ (V7 hp)
  have heo:=hpo.inv.ed _ (a05 he)
  have hel:=hpo.el
  have hpa:v.proc<st.at'.length:=by omega
  have hfit:=b1Y ho hf (a0t.2 hx.fit) hp (a05 he) hcan
  have e:mo.doS st v=mo.doE st v.proc (pAt mo.procs v.proc) (eAt (pAt mo.procs v.proc).edges v.edge):=by unfold Mo.doS;rw [if_neg (by omega),if_neg (by omega)]
  rw [e]
  unfold Mo.doE
  generalize hE:eAt (pAt mo.procs v.proc).edges v.edge=E at *
  have h6:E.act=0∨E.act=1∨E.act=2∨E.act=3∨E.act=4∨E.act=5:=by have:=heo.act;omega
  have h6':E.act=0∨E.act=1∨E.act=2∨(E.act=3/\∃k:Nat,E.chan=(k:Int)/\1<(cAt st.chans k).length)∨(E.act=3/\∃k:Nat,E.chan=(k:Int)/\¬ 1<(cAt st.chans k).length)∨E.act=4∨E.act=5:=by
   by_cases h3:E.act=3
   ·obtain ⟨k,hk1,_⟩:=heo.c1 (by omega)
    by_cases l2:1<(cAt st.chans k).length
    ·exact .inr (.inr (.inr (.inl ⟨h3,k,hk1,l2⟩)))
    ·exact .inr (.inr (.inr (.inr (.inl ⟨h3,k,hk1,l2⟩))))
   ·omega
  clear h6
  rcases h6' with h6 | h6 | h6 | ⟨h6,k',hk',l2⟩ | ⟨h6,k',hk',l2⟩ | h6 | h6
  ·have hex:=heo.ex0 (by omega)
   have e2:mo.edgeS st v.proc (pAt mo.procs v.proc) E=⟨(st.at'.set v.proc E.to),st.vars,st.chans,-1⟩:=by unfold Mo.edgeS Mo.actS;rw [if_neg (by omega),if_neg (by omega),if_neg (by omega)];rfl
   refine zY (aN g0 (aN g1 (aN g2 (aN g3 (aN ga (aN gv (aN hk (aN hp (aN he (aN hpa (aN hE (aN h6 (aN om (aN ox (aN oc hex))))))))))))))) ?_
   refine Y7 (fun c=>?_) (fun c=>?_)
   ·refine zY (aN g0 (aN g2 (aN hk (aN om c)))) ?_
    refine a3Q (H.same (A:=(st.at'.set v.proc E.to)) (V:=st.vars) (hd:=-1) (by simp) (by simp) (by simp (disch:=(first|exact Rf.mk rfl|with_reducible assumption|omega|((repeat (first|rw [nP]|rw [nS]|rw [M3]))<;>omega)|decide)) only [go_sem,↓reduceIte,ga]) (by simp (disch:=(first|exact Rf.mk rfl|with_reducible assumption|omega|((repeat (first|rw [nP]|rw [nS]|rw [M3]))<;>omega)|decide)) only [go_sem,↓reduceIte,gv]) (fun j h1 h2 h3 h4=>by simp (disch:=(first|exact Rf.mk rfl|with_reducible assumption|omega|((repeat (first|rw [nP]|rw [nS]|rw [M3]))<;>omega)|decide)) only [go_sem,↓reduceIte])) a38 ?_
    intro x' hx'
    rw [e2] at hfit
    have hsb:=a4t hm ho (x:=x') ⟨hx',a2k hf (a0t.1 hfit),a0t.1 hfit⟩ hp
    refine zY hsb ?_
    refine Y4 (fun c2=>?_) (fun c2=>?_)
    ·refine zY (aN g2 (aN g3 (aN oc hk))) ?_
     refine X1 ⟨_,rfl,?_⟩
     simp only [e2,c2,Bool.and_self,if_true]
     exact H.same (A:=(st.at'.set v.proc E.to)) (V:=st.vars) (hd:=(v.proc:Int)) (by simp) (by simp) (by simp (disch:=(first|exact Rf.mk rfl|with_reducible assumption|omega|((repeat (first|rw [nP]|rw [nS]|rw [M3]))<;>omega)|decide)) only [go_sem,↓reduceIte,ga]) (by simp (disch:=(first|exact Rf.mk rfl|with_reducible assumption|omega|((repeat (first|rw [nP]|rw [nS]|rw [M3]))<;>omega)|decide)) only [go_sem,↓reduceIte,gv]) (fun j h1 h2 h3 h4=>by simp (disch:=(first|exact Rf.mk rfl|with_reducible assumption|omega|((repeat (first|rw [nP]|rw [nS]|rw [M3]))<;>omega)|decide)) only [go_sem,↓reduceIte])
    ·refine zY (aN g2 (aN g3 (aN oc hk))) ?_
     refine X1 ⟨_,rfl,?_⟩
     simp only [e2,c2,Bool.and_false,Bool.false_eq_true,if_false]
     exact H.same (A:=(st.at'.set v.proc E.to)) (V:=st.vars) (hd:=-1) (by simp) (by simp) (by simp (disch:=(first|exact Rf.mk rfl|with_reducible assumption|omega|((repeat (first|rw [nP]|rw [nS]|rw [M3]))<;>omega)|decide)) only [go_sem,↓reduceIte,ga]) (by simp (disch:=(first|exact Rf.mk rfl|with_reducible assumption|omega|((repeat (first|rw [nP]|rw [nS]|rw [M3]))<;>omega)|decide)) only [go_sem,↓reduceIte,gv]) (fun j h1 h2 h3 h4=>by simp (disch:=(first|exact Rf.mk rfl|with_reducible assumption|omega|((repeat (first|rw [nP]|rw [nS]|rw [M3]))<;>omega)|decide)) only [go_sem,↓reduceIte])
   ·refine zY (aN g0 (aN g2 (aN g3 (aN hk (aN om (aN oc c)))))) ?_
    refine X1 ⟨_,rfl,?_⟩
    simp only [e2,Bool.false_and,Bool.false_eq_true,if_false]
    exact H.same (A:=(st.at'.set v.proc E.to)) (V:=st.vars) (hd:=-1) (by simp) (by simp) (by simp (disch:=(first|exact Rf.mk rfl|with_reducible assumption|omega|((repeat (first|rw [nP]|rw [nS]|rw [M3]))<;>omega)|decide)) only [go_sem,↓reduceIte,ga]) (by simp (disch:=(first|exact Rf.mk rfl|with_reducible assumption|omega|((repeat (first|rw [nP]|rw [nS]|rw [M3]))<;>omega)|decide)) only [go_sem,↓reduceIte,gv]) (fun j h1 h2 h3 h4=>by simp (disch:=(first|exact Rf.mk rfl|with_reducible assumption|omega|((repeat (first|rw [nP]|rw [nS]|rw [M3]))<;>omega)|decide)) only [go_sem,↓reduceIte])
  ·obtain ⟨n,hn1,hn2,hn3⟩:=heo.ex1 (by omega)
   have hval:=a2J hm ho hx hp hn2 hn3
   have hxn:(mo.ex (pAt mo.procs v.proc) st E 0).1=(mo.val (O2 (pAt mo.procs v.proc)) st n).1:=by unfold Mo.ex;rw [hn1];simp
   have h8n:=a3i hx.e (t:=mo.tree) (ch:=mo.ch) (look:=O2 (pAt mo.procs v.proc)) (mo.tree.length+1) n
   have hb:-128<=(mo.val (O2 (pAt mo.procs v.proc)) st n).1/\(mo.val (O2 (pAt mo.procs v.proc)) st n).1<=127:=h8n
   obtain ⟨q,hq0,hq1⟩:=heo.v1 (by omega)
   have hq:=hpo.var q hq0
   have hq':q<st.vars.length:=by omega
   have hmv:=hm.v
   have hw:=hf.vr _ (a2O hq)
   have hwt:=fun z (h1:-4294967296<=z) h2=>a5C (x:=z) h1 h2 hw.1 hw.2.1
   have e2:mo.edgeS st v.proc (pAt mo.procs v.proc) E=⟨(st.at'.set v.proc E.to),(st.vars.set q (N4 (mo.val (O2 (pAt mo.procs v.proc)) st n).1 (vAt mo.vars q).width.toNat)),st.chans,-1⟩:=by unfold Mo.edgeS Mo.actS;rw [if_pos h6,hq1,hxn,Int.toNat_natCast];rfl
   refine zY (aN g0 (aN g1 (aN g2 (aN g3 (aN ga (aN gv (aN hk (aN hp (aN he (aN hpa (aN hE (aN h6 (aN om (aN ox (aN oc (aN hn1 (aN hval (aN hq1 (aN hq (aN hq' hwt)))))))))))))))))))) ?_
   refine Y7 (fun c=>?_) (fun c=>?_)
   ·refine zY (aN g0 (aN g2 (aN hk (aN om c)))) ?_
    refine a3Q (H.same (A:=(st.at'.set v.proc E.to)) (V:=(st.vars.set q (N4 (mo.val (O2 (pAt mo.procs v.proc)) st n).1 (vAt mo.vars q).width.toNat))) (hd:=-1) (by simp) (by simp) (by simp (disch:=(first|exact Rf.mk rfl|with_reducible assumption|omega|((repeat (first|rw [nP]|rw [nS]|rw [M3]))<;>omega)|decide)) only [go_sem,↓reduceIte,ga]) (by simp (disch:=(first|exact Rf.mk rfl|with_reducible assumption|omega|((repeat (first|rw [nP]|rw [nS]|rw [M3]))<;>omega)|decide)) only [go_sem,↓reduceIte,gv]) (fun j h1 h2 h3 h4=>by simp (disch:=(first|exact Rf.mk rfl|with_reducible assumption|omega|((repeat (first|rw [nP]|rw [nS]|rw [M3]))<;>omega)|decide)) only [go_sem,↓reduceIte])) a38 ?_
    intro x' hx'
    rw [e2] at hfit
    have hsb:=a4t hm ho (x:=x') ⟨hx',a2k hf (a0t.1 hfit),a0t.1 hfit⟩ hp
    refine zY hsb ?_
    refine Y4 (fun c2=>?_) (fun c2=>?_)
    ·refine zY (aN g2 (aN g3 (aN oc hk))) ?_
     refine X1 ⟨_,rfl,?_⟩
     simp only [e2,c2,Bool.and_self,if_true]
     exact H.same (A:=(st.at'.set v.proc E.to)) (V:=(st.vars.set q (N4 (mo.val (O2 (pAt mo.procs v.proc)) st n).1 (vAt mo.vars q).width.toNat))) (hd:=(v.proc:Int)) (by simp) (by simp) (by simp (disch:=(first|exact Rf.mk rfl|with_reducible assumption|omega|((repeat (first|rw [nP]|rw [nS]|rw [M3]))<;>omega)|decide)) only [go_sem,↓reduceIte,ga]) (by simp (disch:=(first|exact Rf.mk rfl|with_reducible assumption|omega|((repeat (first|rw [nP]|rw [nS]|rw [M3]))<;>omega)|decide)) only [go_sem,↓reduceIte,gv]) (fun j h1 h2 h3 h4=>by simp (disch:=(first|exact Rf.mk rfl|with_reducible assumption|omega|((repeat (first|rw [nP]|rw [nS]|rw [M3]))<;>omega)|decide)) only [go_sem,↓reduceIte])
    ·refine zY (aN g2 (aN g3 (aN oc hk))) ?_
     refine X1 ⟨_,rfl,?_⟩
     simp only [e2,c2,Bool.and_false,Bool.false_eq_true,if_false]
     exact H.same (A:=(st.at'.set v.proc E.to)) (V:=(st.vars.set q (N4 (mo.val (O2 (pAt mo.procs v.proc)) st n).1 (vAt mo.vars q).width.toNat))) (hd:=-1) (by simp) (by simp) (by simp (disch:=(first|exact Rf.mk rfl|with_reducible assumption|omega|((repeat (first|rw [nP]|rw [nS]|rw [M3]))<;>omega)|decide)) only [go_sem,↓reduceIte,ga]) (by simp (disch:=(first|exact Rf.mk rfl|with_reducible assumption|omega|((repeat (first|rw [nP]|rw [nS]|rw [M3]))<;>omega)|decide)) only [go_sem,↓reduceIte,gv]) (fun j h1 h2 h3 h4=>by simp (disch:=(first|exact Rf.mk rfl|with_reducible assumption|omega|((repeat (first|rw [nP]|rw [nS]|rw [M3]))<;>omega)|decide)) only [go_sem,↓reduceIte])
   ·refine zY (aN g0 (aN g2 (aN g3 (aN hk (aN om (aN oc c)))))) ?_
    refine X1 ⟨_,rfl,?_⟩
    simp only [e2,Bool.false_and,Bool.false_eq_true,if_false]
    exact H.same (A:=(st.at'.set v.proc E.to)) (V:=(st.vars.set q (N4 (mo.val (O2 (pAt mo.procs v.proc)) st n).1 (vAt mo.vars q).width.toNat))) (hd:=-1) (by simp) (by simp) (by simp (disch:=(first|exact Rf.mk rfl|with_reducible assumption|omega|((repeat (first|rw [nP]|rw [nS]|rw [M3]))<;>omega)|decide)) only [go_sem,↓reduceIte,ga]) (by simp (disch:=(first|exact Rf.mk rfl|with_reducible assumption|omega|((repeat (first|rw [nP]|rw [nS]|rw [M3]))<;>omega)|decide)) only [go_sem,↓reduceIte,gv]) (fun j h1 h2 h3 h4=>by simp (disch:=(first|exact Rf.mk rfl|with_reducible assumption|omega|((repeat (first|rw [nP]|rw [nS]|rw [M3]))<;>omega)|decide)) only [go_sem,↓reduceIte])
  ·obtain ⟨n,hn1,hn2,hn3⟩:=heo.ex1 (by omega)
   have hval:=a2J hm ho hx hp hn2 hn3
   have hxn:(mo.ex (pAt mo.procs v.proc) st E 0).1=(mo.val (O2 (pAt mo.procs v.proc)) st n).1:=by unfold Mo.ex;rw [hn1];simp
   have h8n:=a3i hx.e (t:=mo.tree) (ch:=mo.ch) (look:=O2 (pAt mo.procs v.proc)) (mo.tree.length+1) n
   have hb:-128<=(mo.val (O2 (pAt mo.procs v.proc)) st n).1/\(mo.val (O2 (pAt mo.procs v.proc)) st n).1<=127:=h8n
   obtain ⟨k,hk1,hkc⟩:=heo.c1 (by omega)
   rcases gc with ⟨h1,_⟩ | ⟨c,rfl,gc,nc,ca,cv,cq⟩
   ·rw [h1] at hcl;simp at hcl;omega
   have hmc:=hm.c
   have hc':k<st.chans.length:=by omega
   obtain ⟨gk,nk,ka,kv⟩:=gq k hc'
   have kc:=cq k hc'
   have lc:=M7 gc
   have lk:=M7 gk
   have hwc:=hf.ch _ (a2S hkc)
   have hroom:((cAt st.chans k).length:Int)<(R7 mo.chans k).room:=by unfold Mo.can at hcan;simp only [h6,hk1,Int.toNat_natCast,Bool.and_eq_true,decide_eq_true_eq] at hcan;simpa using hcan.2
   have hwt:=fun z (h1:-4294967296<=z) h2=>a5C (x:=z) h1 h2 hwc.2.2.1 hwc.2.2.2
   have e2:mo.edgeS st v.proc (pAt mo.procs v.proc) E=⟨(st.at'.set v.proc E.to),st.vars,(st.chans.set k (cAt st.chans k++[N4 (mo.val (O2 (pAt mo.procs v.proc)) st n).1 (R7 mo.chans k).width.toNat])),-1⟩:=by unfold Mo.edgeS Mo.actS;rw [if_neg (by omega),if_pos h6,hk1,hxn,Int.toNat_natCast];rfl
   refine zY (aN g0 (aN g1 (aN g2 (aN g3 (aN ga (aN gv (aN hk (aN hp (aN he (aN hpa (aN hE (aN h6 (aN om (aN ox (aN oc (aN hn1 (aN hval (aN hk1 (aN hc' (aN hkc (aN hil (aN gc (aN gk hwt))))))))))))))))))))))) ?_
   refine b4W (cs:=P8 (cAt st.chans k)) (x:=.int .i64 (N4 (mo.val (O2 (pAt mo.procs v.proc)) st n).1 (R7 mo.chans k).width.toNat)) (by simp (disch:=(first|exact Rf.mk rfl|with_reducible assumption|omega|((repeat (first|rw [nP]|rw [nS]|rw [M3]))<;>omega)|decide)) only [go_sem,↓reduceIte,gk]) (by simp) (by simp (disch:=(first|exact Rf.mk rfl|with_reducible assumption|omega|((repeat (first|rw [nP]|rw [nS]|rw [M3]))<;>omega)|decide)) only [go_sem,↓reduceIte]) (by decide) (by omega) (by simp (disch:=(first|exact Rf.mk rfl|with_reducible assumption|omega|((repeat (first|rw [nP]|rw [nS]|rw [M3]))<;>omega)|decide)) only [go_sem,↓reduceIte]) ?_
   refine zY (aN g0 (aN g1 (aN g2 (aN g3 (aN ga (aN gv (aN hk (aN hk1 (aN om (aN ox (aN oc (aN gc (aN hc' hil))))))))))))) ?_
   refine Y7 (fun c=>?_) (fun c=>?_)
   ·refine zY (aN g0 (aN g2 (aN hk (aN om c)))) ?_
    refine a3Q (H.chan (A:=(st.at'.set v.proc E.to)) (V:=st.vars) (hd:=-1) (d:=(.arr (s1.next+1+1+1) 0 ((cAt st.chans k).length+1) 1)) hc' (by simp) (by simp) (by simp (disch:=(first|exact Rf.mk rfl|with_reducible assumption|omega|((repeat (first|rw [nP]|rw [nS]|rw [M3]))<;>omega)|decide)) only [go_sem,↓reduceIte,ga]) (by simp (disch:=(first|exact Rf.mk rfl|with_reducible assumption|omega|((repeat (first|rw [nP]|rw [nS]|rw [M3]))<;>omega)|decide)) only [go_sem,↓reduceIte,gv]) (by simp (disch:=(first|exact Rf.mk rfl|with_reducible assumption|omega|((repeat (first|rw [nP]|rw [nS]|rw [M3]))<;>omega)|decide)) only [go_sem,↓reduceIte,gc]) (by rw [show (cAt st.chans k).length+1=(cAt st.chans k++[N4 (mo.val (O2 (pAt mo.procs v.proc)) st n).1 (R7 mo.chans k).width.toNat]).length by simp];exact a3r (by simp (disch:=(first|exact Rf.mk rfl|with_reducible assumption|omega|((repeat (first|rw [nP]|rw [nS]|rw [M3]))<;>omega)|decide)) only [go_sem,↓reduceIte];simp [P8])) (fun j hj hjk=>by obtain ⟨gj,nj,ja,jv⟩:=gq j hj;have jc:=cq j hj;have lj:=M7 gj;have jk:nAt ids j≠nAt ids k:=fun e=>hjk (inj _ _ hj hc' e);simp (disch:=(first|exact Rf.mk rfl|with_reducible assumption|omega|((repeat (first|rw [nP]|rw [nS]|rw [M3]))<;>omega)|decide)) only [go_sem,↓reduceIte,gj])) a38 ?_
    intro x' hx'
    rw [e2] at hfit
    have hsb:=a4t hm ho (x:=x') ⟨hx',a2k hf (a0t.1 hfit),a0t.1 hfit⟩ hp
    refine zY hsb ?_
    refine Y4 (fun c2=>?_) (fun c2=>?_)
    ·refine zY (aN g2 (aN g3 (aN oc hk))) ?_
     refine X1 ⟨_,rfl,?_⟩
     simp only [e2,c2,Bool.and_self,if_true]
     exact H.chan (A:=(st.at'.set v.proc E.to)) (V:=st.vars) (hd:=(v.proc:Int)) (d:=(.arr (s1.next+1+1+1) 0 ((cAt st.chans k).length+1) 1)) hc' (by simp) (by simp) (by simp (disch:=(first|exact Rf.mk rfl|with_reducible assumption|omega|((repeat (first|rw [nP]|rw [nS]|rw [M3]))<;>omega)|decide)) only [go_sem,↓reduceIte,ga]) (by simp (disch:=(first|exact Rf.mk rfl|with_reducible assumption|omega|((repeat (first|rw [nP]|rw [nS]|rw [M3]))<;>omega)|decide)) only [go_sem,↓reduceIte,gv]) (by simp (disch:=(first|exact Rf.mk rfl|with_reducible assumption|omega|((repeat (first|rw [nP]|rw [nS]|rw [M3]))<;>omega)|decide)) only [go_sem,↓reduceIte,gc]) (by rw [show (cAt st.chans k).length+1=(cAt st.chans k++[N4 (mo.val (O2 (pAt mo.procs v.proc)) st n).1 (R7 mo.chans k).width.toNat]).length by simp];exact a3r (by simp (disch:=(first|exact Rf.mk rfl|with_reducible assumption|omega|((repeat (first|rw [nP]|rw [nS]|rw [M3]))<;>omega)|decide)) only [go_sem,↓reduceIte];simp [P8])) (fun j hj hjk=>by obtain ⟨gj,nj,ja,jv⟩:=gq j hj;have jc:=cq j hj;have lj:=M7 gj;have jk:nAt ids j≠nAt ids k:=fun e=>hjk (inj _ _ hj hc' e);simp (disch:=(first|exact Rf.mk rfl|with_reducible assumption|omega|((repeat (first|rw [nP]|rw [nS]|rw [M3]))<;>omega)|decide)) only [go_sem,↓reduceIte,gj])
    ·refine zY (aN g2 (aN g3 (aN oc hk))) ?_
     refine X1 ⟨_,rfl,?_⟩
     simp only [e2,c2,Bool.and_false,Bool.false_eq_true,if_false]
     exact H.chan (A:=(st.at'.set v.proc E.to)) (V:=st.vars) (hd:=-1) (d:=(.arr (s1.next+1+1+1) 0 ((cAt st.chans k).length+1) 1)) hc' (by simp) (by simp) (by simp (disch:=(first|exact Rf.mk rfl|with_reducible assumption|omega|((repeat (first|rw [nP]|rw [nS]|rw [M3]))<;>omega)|decide)) only [go_sem,↓reduceIte,ga]) (by simp (disch:=(first|exact Rf.mk rfl|with_reducible assumption|omega|((repeat (first|rw [nP]|rw [nS]|rw [M3]))<;>omega)|decide)) only [go_sem,↓reduceIte,gv]) (by simp (disch:=(first|exact Rf.mk rfl|with_reducible assumption|omega|((repeat (first|rw [nP]|rw [nS]|rw [M3]))<;>omega)|decide)) only [go_sem,↓reduceIte,gc]) (by rw [show (cAt st.chans k).length+1=(cAt st.chans k++[N4 (mo.val (O2 (pAt mo.procs v.proc)) st n).1 (R7 mo.chans k).width.toNat]).length by simp];exact a3r (by simp (disch:=(first|exact Rf.mk rfl|with_reducible assumption|omega|((repeat (first|rw [nP]|rw [nS]|rw [M3]))<;>omega)|decide)) only [go_sem,↓reduceIte];simp [P8])) (fun j hj hjk=>by obtain ⟨gj,nj,ja,jv⟩:=gq j hj;have jc:=cq j hj;have lj:=M7 gj;have jk:nAt ids j≠nAt ids k:=fun e=>hjk (inj _ _ hj hc' e);simp (disch:=(first|exact Rf.mk rfl|with_reducible assumption|omega|((repeat (first|rw [nP]|rw [nS]|rw [M3]))<;>omega)|decide)) only [go_sem,↓reduceIte,gj])
   ·refine zY (aN g0 (aN g2 (aN g3 (aN hk (aN om (aN oc c)))))) ?_
    refine X1 ⟨_,rfl,?_⟩
    simp only [e2,Bool.false_and,Bool.false_eq_true,if_false]
    exact H.chan (A:=(st.at'.set v.proc E.to)) (V:=st.vars) (hd:=-1) (d:=(.arr (s1.next+1+1+1) 0 ((cAt st.chans k).length+1) 1)) hc' (by simp) (by simp) (by simp (disch:=(first|exact Rf.mk rfl|with_reducible assumption|omega|((repeat (first|rw [nP]|rw [nS]|rw [M3]))<;>omega)|decide)) only [go_sem,↓reduceIte,ga]) (by simp (disch:=(first|exact Rf.mk rfl|with_reducible assumption|omega|((repeat (first|rw [nP]|rw [nS]|rw [M3]))<;>omega)|decide)) only [go_sem,↓reduceIte,gv]) (by simp (disch:=(first|exact Rf.mk rfl|with_reducible assumption|omega|((repeat (first|rw [nP]|rw [nS]|rw [M3]))<;>omega)|decide)) only [go_sem,↓reduceIte,gc]) (by rw [show (cAt st.chans k).length+1=(cAt st.chans k++[N4 (mo.val (O2 (pAt mo.procs v.proc)) st n).1 (R7 mo.chans k).width.toNat]).length by simp];exact a3r (by simp (disch:=(first|exact Rf.mk rfl|with_reducible assumption|omega|((repeat (first|rw [nP]|rw [nS]|rw [M3]))<;>omega)|decide)) only [go_sem,↓reduceIte];simp [P8])) (fun j hj hjk=>by obtain ⟨gj,nj,ja,jv⟩:=gq j hj;have jc:=cq j hj;have lj:=M7 gj;have jk:nAt ids j≠nAt ids k:=fun e=>hjk (inj _ _ hj hc' e);simp (disch:=(first|exact Rf.mk rfl|with_reducible assumption|omega|((repeat (first|rw [nP]|rw [nS]|rw [M3]))<;>omega)|decide)) only [go_sem,↓reduceIte,gj])
  ·have hex:=heo.ex0 (by omega)
   obtain ⟨q,hq0,hq1⟩:=heo.v1 (by omega)
   have hq:=hpo.var q hq0
   have hq':q<st.vars.length:=by omega
   have hmv:=hm.v
   have hw:=hf.vr _ (a2O hq)
   have hwt:=fun z (h1:-4294967296<=z) h2=>a5C (x:=z) h1 h2 hw.1 hw.2.1
   obtain ⟨k,hk1,hkc⟩:=heo.c1 (by omega)
   rcases gc with ⟨h1,_⟩ | ⟨c,rfl,gc,nc,ca,cv,cq⟩
   ·rw [h1] at hcl;simp at hcl;omega
   have hmc:=hm.c
   have hc':k<st.chans.length:=by omega
   obtain ⟨gk,nk,ka,kv⟩:=gq k hc'
   have kc:=cq k hc'
   have lc:=M7 gc
   have lk:=M7 gk
   have hwc:=hf.ch _ (a2S hkc)
   have hlen:0<(cAt st.chans k).length:=by unfold Mo.can at hcan;simp only [h6,hk1,Int.toNat_natCast,Bool.and_eq_true,decide_eq_true_eq] at hcan;simpa using hcan.2
   have hcv:=(hx.e.c _ (a55 hc')).2 _ (a4V hlen)
   have hcv':-128<=zAt (cAt st.chans k) 0/\zAt (cAt st.chans k) 0<=127:=hcv
   have l2:1<(cAt st.chans k).length:=(show k'=k by omega)▸l2
   have e2:mo.edgeS st v.proc (pAt mo.procs v.proc) E=⟨(st.at'.set v.proc E.to),(st.vars.set q (N4 (zAt (cAt st.chans k) 0) (vAt mo.vars q).width.toNat)),(st.chans.set k ((cAt st.chans k).drop 1)),-1⟩:=by unfold Mo.edgeS Mo.actS;rw [if_neg (by omega),if_neg (by omega),if_pos h6,hq1,hk1,Int.toNat_natCast,Int.toNat_natCast];rfl
   refine zY (aN g0 (aN g1 (aN g2 (aN g3 (aN ga (aN gv (aN hk (aN hp (aN he (aN hpa (aN hE (aN h6 (aN om (aN ox (aN oc (aN hex (aN hq1 (aN hq (aN hq' (aN hwt (aN hk1 (aN hc' (aN hkc (aN hil (aN gc (aN gk (aN hlen l2))))))))))))))))))))))))))) ?_
   refine Y7 (fun c=>?_) (fun c=>?_)
   ·refine zY (aN g0 (aN g2 (aN hk (aN om c)))) ?_
    refine a3Q (H.chan (A:=(st.at'.set v.proc E.to)) (V:=(st.vars.set q (N4 (zAt (cAt st.chans k) 0) (vAt mo.vars q).width.toNat))) (hd:=-1) (d:=(.arr (nAt ids k) 1 ((cAt st.chans k).length-1) 1)) hc' (by simp) (by simp) (by simp (disch:=(first|exact Rf.mk rfl|with_reducible assumption|omega|((repeat (first|rw [nP]|rw [nS]|rw [M3]))<;>omega)|decide)) only [go_sem,↓reduceIte,ga]) (by simp (disch:=(first|exact Rf.mk rfl|with_reducible assumption|omega|((repeat (first|rw [nP]|rw [nS]|rw [M3]))<;>omega)|decide)) only [go_sem,↓reduceIte,gv]) (by simp (disch:=(first|exact Rf.mk rfl|with_reducible assumption|omega|((repeat (first|rw [nP]|rw [nS]|rw [M3]))<;>omega)|decide)) only [go_sem,↓reduceIte,gc]) (a5X (by simp (disch:=(first|exact Rf.mk rfl|with_reducible assumption|omega|((repeat (first|rw [nP]|rw [nS]|rw [M3]))<;>omega)|decide)) only [go_sem,↓reduceIte,gk]) l2) (fun j hj hjk=>by obtain ⟨gj,nj,ja,jv⟩:=gq j hj;have jc:=cq j hj;have lj:=M7 gj;have jk:nAt ids j≠nAt ids k:=fun e=>hjk (inj _ _ hj hc' e);simp (disch:=(first|exact Rf.mk rfl|with_reducible assumption|omega|((repeat (first|rw [nP]|rw [nS]|rw [M3]))<;>omega)|decide)) only [go_sem,↓reduceIte,gj])) a38 ?_
    intro x' hx'
    rw [e2] at hfit
    have hsb:=a4t hm ho (x:=x') ⟨hx',a2k hf (a0t.1 hfit),a0t.1 hfit⟩ hp
    refine zY hsb ?_
    refine Y4 (fun c2=>?_) (fun c2=>?_)
    ·refine zY (aN g2 (aN g3 (aN oc hk))) ?_
     refine X1 ⟨_,rfl,?_⟩
     simp only [e2,c2,Bool.and_self,if_true]
     exact H.chan (A:=(st.at'.set v.proc E.to)) (V:=(st.vars.set q (N4 (zAt (cAt st.chans k) 0) (vAt mo.vars q).width.toNat))) (hd:=(v.proc:Int)) (d:=(.arr (nAt ids k) 1 ((cAt st.chans k).length-1) 1)) hc' (by simp) (by simp) (by simp (disch:=(first|exact Rf.mk rfl|with_reducible assumption|omega|((repeat (first|rw [nP]|rw [nS]|rw [M3]))<;>omega)|decide)) only [go_sem,↓reduceIte,ga]) (by simp (disch:=(first|exact Rf.mk rfl|with_reducible assumption|omega|((repeat (first|rw [nP]|rw [nS]|rw [M3]))<;>omega)|decide)) only [go_sem,↓reduceIte,gv]) (by simp (disch:=(first|exact Rf.mk rfl|with_reducible assumption|omega|((repeat (first|rw [nP]|rw [nS]|rw [M3]))<;>omega)|decide)) only [go_sem,↓reduceIte,gc]) (a5X (by simp (disch:=(first|exact Rf.mk rfl|with_reducible assumption|omega|((repeat (first|rw [nP]|rw [nS]|rw [M3]))<;>omega)|decide)) only [go_sem,↓reduceIte,gk]) l2) (fun j hj hjk=>by obtain ⟨gj,nj,ja,jv⟩:=gq j hj;have jc:=cq j hj;have lj:=M7 gj;have jk:nAt ids j≠nAt ids k:=fun e=>hjk (inj _ _ hj hc' e);simp (disch:=(first|exact Rf.mk rfl|with_reducible assumption|omega|((repeat (first|rw [nP]|rw [nS]|rw [M3]))<;>omega)|decide)) only [go_sem,↓reduceIte,gj])
    ·refine zY (aN g2 (aN g3 (aN oc hk))) ?_
     refine X1 ⟨_,rfl,?_⟩
     simp only [e2,c2,Bool.and_false,Bool.false_eq_true,if_false]
     exact H.chan (A:=(st.at'.set v.proc E.to)) (V:=(st.vars.set q (N4 (zAt (cAt st.chans k) 0) (vAt mo.vars q).width.toNat))) (hd:=-1) (d:=(.arr (nAt ids k) 1 ((cAt st.chans k).length-1) 1)) hc' (by simp) (by simp) (by simp (disch:=(first|exact Rf.mk rfl|with_reducible assumption|omega|((repeat (first|rw [nP]|rw [nS]|rw [M3]))<;>omega)|decide)) only [go_sem,↓reduceIte,ga]) (by simp (disch:=(first|exact Rf.mk rfl|with_reducible assumption|omega|((repeat (first|rw [nP]|rw [nS]|rw [M3]))<;>omega)|decide)) only [go_sem,↓reduceIte,gv]) (by simp (disch:=(first|exact Rf.mk rfl|with_reducible assumption|omega|((repeat (first|rw [nP]|rw [nS]|rw [M3]))<;>omega)|decide)) only [go_sem,↓reduceIte,gc]) (a5X (by simp (disch:=(first|exact Rf.mk rfl|with_reducible assumption|omega|((repeat (first|rw [nP]|rw [nS]|rw [M3]))<;>omega)|decide)) only [go_sem,↓reduceIte,gk]) l2) (fun j hj hjk=>by obtain ⟨gj,nj,ja,jv⟩:=gq j hj;have jc:=cq j hj;have lj:=M7 gj;have jk:nAt ids j≠nAt ids k:=fun e=>hjk (inj _ _ hj hc' e);simp (disch:=(first|exact Rf.mk rfl|with_reducible assumption|omega|((repeat (first|rw [nP]|rw [nS]|rw [M3]))<;>omega)|decide)) only [go_sem,↓reduceIte,gj])
   ·refine zY (aN g0 (aN g2 (aN g3 (aN hk (aN om (aN oc c)))))) ?_
    refine X1 ⟨_,rfl,?_⟩
    simp only [e2,Bool.false_and,Bool.false_eq_true,if_false]
    exact H.chan (A:=(st.at'.set v.proc E.to)) (V:=(st.vars.set q (N4 (zAt (cAt st.chans k) 0) (vAt mo.vars q).width.toNat))) (hd:=-1) (d:=(.arr (nAt ids k) 1 ((cAt st.chans k).length-1) 1)) hc' (by simp) (by simp) (by simp (disch:=(first|exact Rf.mk rfl|with_reducible assumption|omega|((repeat (first|rw [nP]|rw [nS]|rw [M3]))<;>omega)|decide)) only [go_sem,↓reduceIte,ga]) (by simp (disch:=(first|exact Rf.mk rfl|with_reducible assumption|omega|((repeat (first|rw [nP]|rw [nS]|rw [M3]))<;>omega)|decide)) only [go_sem,↓reduceIte,gv]) (by simp (disch:=(first|exact Rf.mk rfl|with_reducible assumption|omega|((repeat (first|rw [nP]|rw [nS]|rw [M3]))<;>omega)|decide)) only [go_sem,↓reduceIte,gc]) (a5X (by simp (disch:=(first|exact Rf.mk rfl|with_reducible assumption|omega|((repeat (first|rw [nP]|rw [nS]|rw [M3]))<;>omega)|decide)) only [go_sem,↓reduceIte,gk]) l2) (fun j hj hjk=>by obtain ⟨gj,nj,ja,jv⟩:=gq j hj;have jc:=cq j hj;have lj:=M7 gj;have jk:nAt ids j≠nAt ids k:=fun e=>hjk (inj _ _ hj hc' e);simp (disch:=(first|exact Rf.mk rfl|with_reducible assumption|omega|((repeat (first|rw [nP]|rw [nS]|rw [M3]))<;>omega)|decide)) only [go_sem,↓reduceIte,gj])
  ·have hex:=heo.ex0 (by omega)
   obtain ⟨q,hq0,hq1⟩:=heo.v1 (by omega)
   have hq:=hpo.var q hq0
   have hq':q<st.vars.length:=by omega
   have hmv:=hm.v
   have hw:=hf.vr _ (a2O hq)
   have hwt:=fun z (h1:-4294967296<=z) h2=>a5C (x:=z) h1 h2 hw.1 hw.2.1
   obtain ⟨k,hk1,hkc⟩:=heo.c1 (by omega)
   rcases gc with ⟨h1,_⟩ | ⟨c,rfl,gc,nc,ca,cv,cq⟩
   ·rw [h1] at hcl;simp at hcl;omega
   have hmc:=hm.c
   have hc':k<st.chans.length:=by omega
   obtain ⟨gk,nk,ka,kv⟩:=gq k hc'
   have kc:=cq k hc'
   have lc:=M7 gc
   have lk:=M7 gk
   have hwc:=hf.ch _ (a2S hkc)
   have hlen:0<(cAt st.chans k).length:=by unfold Mo.can at hcan;simp only [h6,hk1,Int.toNat_natCast,Bool.and_eq_true,decide_eq_true_eq] at hcan;simpa using hcan.2
   have hcv:=(hx.e.c _ (a55 hc')).2 _ (a4V hlen)
   have hcv':-128<=zAt (cAt st.chans k) 0/\zAt (cAt st.chans k) 0<=127:=hcv
   have l2:¬ 1<(cAt st.chans k).length:=(show k'=k by omega)▸l2
   have l3:(cAt st.chans k).length=1:=by omega
   have e2:mo.edgeS st v.proc (pAt mo.procs v.proc) E=⟨(st.at'.set v.proc E.to),(st.vars.set q (N4 (zAt (cAt st.chans k) 0) (vAt mo.vars q).width.toNat)),(st.chans.set k ((cAt st.chans k).drop 1)),-1⟩:=by unfold Mo.edgeS Mo.actS;rw [if_neg (by omega),if_neg (by omega),if_pos h6,hq1,hk1,Int.toNat_natCast,Int.toNat_natCast];rfl
   refine zY (aN g0 (aN g1 (aN g2 (aN g3 (aN ga (aN gv (aN hk (aN hp (aN he (aN hpa (aN hE (aN h6 (aN om (aN ox (aN oc (aN hex (aN hq1 (aN hq (aN hq' (aN hwt (aN hk1 (aN hc' (aN hkc (aN hil (aN gc (aN gk (aN hlen l3))))))))))))))))))))))))))) ?_
   refine Y7 (fun c=>?_) (fun c=>?_)
   ·refine zY (aN g0 (aN g2 (aN hk (aN om c)))) ?_
    refine a3Q (H.chan (A:=(st.at'.set v.proc E.to)) (V:=(st.vars.set q (N4 (zAt (cAt st.chans k) 0) (vAt mo.vars q).width.toNat))) (hd:=-1) (d:=(.lst 1 [])) hc' (by simp) (by simp) (by simp (disch:=(first|exact Rf.mk rfl|with_reducible assumption|omega|((repeat (first|rw [nP]|rw [nS]|rw [M3]))<;>omega)|decide)) only [go_sem,↓reduceIte,ga]) (by simp (disch:=(first|exact Rf.mk rfl|with_reducible assumption|omega|((repeat (first|rw [nP]|rw [nS]|rw [M3]))<;>omega)|decide)) only [go_sem,↓reduceIte,gv]) (by simp (disch:=(first|exact Rf.mk rfl|with_reducible assumption|omega|((repeat (first|rw [nP]|rw [nS]|rw [M3]))<;>omega)|decide)) only [go_sem,↓reduceIte,gc]) (a6i l2) (fun j hj hjk=>by obtain ⟨gj,nj,ja,jv⟩:=gq j hj;have jc:=cq j hj;have lj:=M7 gj;have jk:nAt ids j≠nAt ids k:=fun e=>hjk (inj _ _ hj hc' e);simp (disch:=(first|exact Rf.mk rfl|with_reducible assumption|omega|((repeat (first|rw [nP]|rw [nS]|rw [M3]))<;>omega)|decide)) only [go_sem,↓reduceIte,gj])) a38 ?_
    intro x' hx'
    rw [e2] at hfit
    have hsb:=a4t hm ho (x:=x') ⟨hx',a2k hf (a0t.1 hfit),a0t.1 hfit⟩ hp
    refine zY hsb ?_
    refine Y4 (fun c2=>?_) (fun c2=>?_)
    ·refine zY (aN g2 (aN g3 (aN oc hk))) ?_
     refine X1 ⟨_,rfl,?_⟩
     simp only [e2,c2,Bool.and_self,if_true]
     exact H.chan (A:=(st.at'.set v.proc E.to)) (V:=(st.vars.set q (N4 (zAt (cAt st.chans k) 0) (vAt mo.vars q).width.toNat))) (hd:=(v.proc:Int)) (d:=(.lst 1 [])) hc' (by simp) (by simp) (by simp (disch:=(first|exact Rf.mk rfl|with_reducible assumption|omega|((repeat (first|rw [nP]|rw [nS]|rw [M3]))<;>omega)|decide)) only [go_sem,↓reduceIte,ga]) (by simp (disch:=(first|exact Rf.mk rfl|with_reducible assumption|omega|((repeat (first|rw [nP]|rw [nS]|rw [M3]))<;>omega)|decide)) only [go_sem,↓reduceIte,gv]) (by simp (disch:=(first|exact Rf.mk rfl|with_reducible assumption|omega|((repeat (first|rw [nP]|rw [nS]|rw [M3]))<;>omega)|decide)) only [go_sem,↓reduceIte,gc]) (a6i l2) (fun j hj hjk=>by obtain ⟨gj,nj,ja,jv⟩:=gq j hj;have jc:=cq j hj;have lj:=M7 gj;have jk:nAt ids j≠nAt ids k:=fun e=>hjk (inj _ _ hj hc' e);simp (disch:=(first|exact Rf.mk rfl|with_reducible assumption|omega|((repeat (first|rw [nP]|rw [nS]|rw [M3]))<;>omega)|decide)) only [go_sem,↓reduceIte,gj])
    ·refine zY (aN g2 (aN g3 (aN oc hk))) ?_
     refine X1 ⟨_,rfl,?_⟩
     simp only [e2,c2,Bool.and_false,Bool.false_eq_true,if_false]
     exact H.chan (A:=(st.at'.set v.proc E.to)) (V:=(st.vars.set q (N4 (zAt (cAt st.chans k) 0) (vAt mo.vars q).width.toNat))) (hd:=-1) (d:=(.lst 1 [])) hc' (by simp) (by simp) (by simp (disch:=(first|exact Rf.mk rfl|with_reducible assumption|omega|((repeat (first|rw [nP]|rw [nS]|rw [M3]))<;>omega)|decide)) only [go_sem,↓reduceIte,ga]) (by simp (disch:=(first|exact Rf.mk rfl|with_reducible assumption|omega|((repeat (first|rw [nP]|rw [nS]|rw [M3]))<;>omega)|decide)) only [go_sem,↓reduceIte,gv]) (by simp (disch:=(first|exact Rf.mk rfl|with_reducible assumption|omega|((repeat (first|rw [nP]|rw [nS]|rw [M3]))<;>omega)|decide)) only [go_sem,↓reduceIte,gc]) (a6i l2) (fun j hj hjk=>by obtain ⟨gj,nj,ja,jv⟩:=gq j hj;have jc:=cq j hj;have lj:=M7 gj;have jk:nAt ids j≠nAt ids k:=fun e=>hjk (inj _ _ hj hc' e);simp (disch:=(first|exact Rf.mk rfl|with_reducible assumption|omega|((repeat (first|rw [nP]|rw [nS]|rw [M3]))<;>omega)|decide)) only [go_sem,↓reduceIte,gj])
   ·refine zY (aN g0 (aN g2 (aN g3 (aN hk (aN om (aN oc c)))))) ?_
    refine X1 ⟨_,rfl,?_⟩
    simp only [e2,Bool.false_and,Bool.false_eq_true,if_false]
    exact H.chan (A:=(st.at'.set v.proc E.to)) (V:=(st.vars.set q (N4 (zAt (cAt st.chans k) 0) (vAt mo.vars q).width.toNat))) (hd:=-1) (d:=(.lst 1 [])) hc' (by simp) (by simp) (by simp (disch:=(first|exact Rf.mk rfl|with_reducible assumption|omega|((repeat (first|rw [nP]|rw [nS]|rw [M3]))<;>omega)|decide)) only [go_sem,↓reduceIte,ga]) (by simp (disch:=(first|exact Rf.mk rfl|with_reducible assumption|omega|((repeat (first|rw [nP]|rw [nS]|rw [M3]))<;>omega)|decide)) only [go_sem,↓reduceIte,gv]) (by simp (disch:=(first|exact Rf.mk rfl|with_reducible assumption|omega|((repeat (first|rw [nP]|rw [nS]|rw [M3]))<;>omega)|decide)) only [go_sem,↓reduceIte,gc]) (a6i l2) (fun j hj hjk=>by obtain ⟨gj,nj,ja,jv⟩:=gq j hj;have jc:=cq j hj;have lj:=M7 gj;have jk:nAt ids j≠nAt ids k:=fun e=>hjk (inj _ _ hj hc' e);simp (disch:=(first|exact Rf.mk rfl|with_reducible assumption|omega|((repeat (first|rw [nP]|rw [nS]|rw [M3]))<;>omega)|decide)) only [go_sem,↓reduceIte,gj])
  ·obtain ⟨n,hn1,hn2,hn3⟩:=heo.ex1 (by omega)
   have hval:=a2J hm ho hx hp hn2 hn3
   have hxn:(mo.ex (pAt mo.procs v.proc) st E 0).1=(mo.val (O2 (pAt mo.procs v.proc)) st n).1:=by unfold Mo.ex;rw [hn1];simp
   have h8n:=a3i hx.e (t:=mo.tree) (ch:=mo.ch) (look:=O2 (pAt mo.procs v.proc)) (mo.tree.length+1) n
   have e2:mo.edgeS st v.proc (pAt mo.procs v.proc) E=⟨(st.at'.set v.proc E.to),st.vars,st.chans,-1⟩:=by unfold Mo.edgeS Mo.actS;rw [if_neg (by omega),if_neg (by omega),if_neg (by omega)];rfl
   refine zY (aN g0 (aN g1 (aN g2 (aN g3 (aN ga (aN gv (aN hk (aN hp (aN he (aN hpa (aN hE (aN h6 (aN om (aN ox (aN oc (aN hn1 hval)))))))))))))))) ?_
   refine Y7 (fun c=>?_) (fun c=>?_)
   ·refine zY (aN g0 (aN g2 (aN hk (aN om c)))) ?_
    refine a3Q (H.same (A:=(st.at'.set v.proc E.to)) (V:=st.vars) (hd:=-1) (by simp) (by simp) (by simp (disch:=(first|exact Rf.mk rfl|with_reducible assumption|omega|((repeat (first|rw [nP]|rw [nS]|rw [M3]))<;>omega)|decide)) only [go_sem,↓reduceIte,ga]) (by simp (disch:=(first|exact Rf.mk rfl|with_reducible assumption|omega|((repeat (first|rw [nP]|rw [nS]|rw [M3]))<;>omega)|decide)) only [go_sem,↓reduceIte,gv]) (fun j h1 h2 h3 h4=>by simp (disch:=(first|exact Rf.mk rfl|with_reducible assumption|omega|((repeat (first|rw [nP]|rw [nS]|rw [M3]))<;>omega)|decide)) only [go_sem,↓reduceIte])) a38 ?_
    intro x' hx'
    rw [e2] at hfit
    have hsb:=a4t hm ho (x:=x') ⟨hx',a2k hf (a0t.1 hfit),a0t.1 hfit⟩ hp
    refine zY hsb ?_
    refine Y4 (fun c2=>?_) (fun c2=>?_)
    ·refine zY (aN g2 (aN g3 (aN oc hk))) ?_
     refine X1 ⟨_,rfl,?_⟩
     simp only [e2,c2,Bool.and_self,if_true]
     exact H.same (A:=(st.at'.set v.proc E.to)) (V:=st.vars) (hd:=(v.proc:Int)) (by simp) (by simp) (by simp (disch:=(first|exact Rf.mk rfl|with_reducible assumption|omega|((repeat (first|rw [nP]|rw [nS]|rw [M3]))<;>omega)|decide)) only [go_sem,↓reduceIte,ga]) (by simp (disch:=(first|exact Rf.mk rfl|with_reducible assumption|omega|((repeat (first|rw [nP]|rw [nS]|rw [M3]))<;>omega)|decide)) only [go_sem,↓reduceIte,gv]) (fun j h1 h2 h3 h4=>by simp (disch:=(first|exact Rf.mk rfl|with_reducible assumption|omega|((repeat (first|rw [nP]|rw [nS]|rw [M3]))<;>omega)|decide)) only [go_sem,↓reduceIte])
    ·refine zY (aN g2 (aN g3 (aN oc hk))) ?_
     refine X1 ⟨_,rfl,?_⟩
     simp only [e2,c2,Bool.and_false,Bool.false_eq_true,if_false]
     exact H.same (A:=(st.at'.set v.proc E.to)) (V:=st.vars) (hd:=-1) (by simp) (by simp) (by simp (disch:=(first|exact Rf.mk rfl|with_reducible assumption|omega|((repeat (first|rw [nP]|rw [nS]|rw [M3]))<;>omega)|decide)) only [go_sem,↓reduceIte,ga]) (by simp (disch:=(first|exact Rf.mk rfl|with_reducible assumption|omega|((repeat (first|rw [nP]|rw [nS]|rw [M3]))<;>omega)|decide)) only [go_sem,↓reduceIte,gv]) (fun j h1 h2 h3 h4=>by simp (disch:=(first|exact Rf.mk rfl|with_reducible assumption|omega|((repeat (first|rw [nP]|rw [nS]|rw [M3]))<;>omega)|decide)) only [go_sem,↓reduceIte])
   ·refine zY (aN g0 (aN g2 (aN g3 (aN hk (aN om (aN oc c)))))) ?_
    refine X1 ⟨_,rfl,?_⟩
    simp only [e2,Bool.false_and,Bool.false_eq_true,if_false]
    exact H.same (A:=(st.at'.set v.proc E.to)) (V:=st.vars) (hd:=-1) (by simp) (by simp) (by simp (disch:=(first|exact Rf.mk rfl|with_reducible assumption|omega|((repeat (first|rw [nP]|rw [nS]|rw [M3]))<;>omega)|decide)) only [go_sem,↓reduceIte,ga]) (by simp (disch:=(first|exact Rf.mk rfl|with_reducible assumption|omega|((repeat (first|rw [nP]|rw [nS]|rw [M3]))<;>omega)|decide)) only [go_sem,↓reduceIte,gv]) (fun j h1 h2 h3 h4=>by simp (disch:=(first|exact Rf.mk rfl|with_reducible assumption|omega|((repeat (first|rw [nP]|rw [nS]|rw [M3]))<;>omega)|decide)) only [go_sem,↓reduceIte])
  ·obtain ⟨n,hn1,hn2,hn3⟩:=heo.ex1 (by omega)
   have hval:=a2J hm ho hx hp hn2 hn3
   have hxn:(mo.ex (pAt mo.procs v.proc) st E 0).1=(mo.val (O2 (pAt mo.procs v.proc)) st n).1:=by unfold Mo.ex;rw [hn1];simp
   have h8n:=a3i hx.e (t:=mo.tree) (ch:=mo.ch) (look:=O2 (pAt mo.procs v.proc)) (mo.tree.length+1) n
   have e2:mo.edgeS st v.proc (pAt mo.procs v.proc) E=⟨(st.at'.set v.proc E.to),st.vars,st.chans,-1⟩:=by unfold Mo.edgeS Mo.actS;rw [if_neg (by omega),if_neg (by omega),if_neg (by omega)];rfl
   refine zY (aN g0 (aN g1 (aN g2 (aN g3 (aN ga (aN gv (aN hk (aN hp (aN he (aN hpa (aN hE (aN h6 (aN om (aN ox (aN oc (aN hn1 hval)))))))))))))))) ?_
   refine Y7 (fun c=>?_) (fun c=>?_)
   ·refine zY (aN g0 (aN g2 (aN hk (aN om c)))) ?_
    refine a3Q (H.same (A:=(st.at'.set v.proc E.to)) (V:=st.vars) (hd:=-1) (by simp) (by simp) (by simp (disch:=(first|exact Rf.mk rfl|with_reducible assumption|omega|((repeat (first|rw [nP]|rw [nS]|rw [M3]))<;>omega)|decide)) only [go_sem,↓reduceIte,ga]) (by simp (disch:=(first|exact Rf.mk rfl|with_reducible assumption|omega|((repeat (first|rw [nP]|rw [nS]|rw [M3]))<;>omega)|decide)) only [go_sem,↓reduceIte,gv]) (fun j h1 h2 h3 h4=>by simp (disch:=(first|exact Rf.mk rfl|with_reducible assumption|omega|((repeat (first|rw [nP]|rw [nS]|rw [M3]))<;>omega)|decide)) only [go_sem,↓reduceIte])) a38 ?_
    intro x' hx'
    rw [e2] at hfit
    have hsb:=a4t hm ho (x:=x') ⟨hx',a2k hf (a0t.1 hfit),a0t.1 hfit⟩ hp
    refine zY hsb ?_
    refine Y4 (fun c2=>?_) (fun c2=>?_)
    ·refine zY (aN g2 (aN g3 (aN oc hk))) ?_
     refine X1 ⟨_,rfl,?_⟩
     simp only [e2,c2,Bool.and_self,if_true]
     exact H.same (A:=(st.at'.set v.proc E.to)) (V:=st.vars) (hd:=(v.proc:Int)) (by simp) (by simp) (by simp (disch:=(first|exact Rf.mk rfl|with_reducible assumption|omega|((repeat (first|rw [nP]|rw [nS]|rw [M3]))<;>omega)|decide)) only [go_sem,↓reduceIte,ga]) (by simp (disch:=(first|exact Rf.mk rfl|with_reducible assumption|omega|((repeat (first|rw [nP]|rw [nS]|rw [M3]))<;>omega)|decide)) only [go_sem,↓reduceIte,gv]) (fun j h1 h2 h3 h4=>by simp (disch:=(first|exact Rf.mk rfl|with_reducible assumption|omega|((repeat (first|rw [nP]|rw [nS]|rw [M3]))<;>omega)|decide)) only [go_sem,↓reduceIte])
    ·refine zY (aN g2 (aN g3 (aN oc hk))) ?_
     refine X1 ⟨_,rfl,?_⟩
     simp only [e2,c2,Bool.and_false,Bool.false_eq_true,if_false]
     exact H.same (A:=(st.at'.set v.proc E.to)) (V:=st.vars) (hd:=-1) (by simp) (by simp) (by simp (disch:=(first|exact Rf.mk rfl|with_reducible assumption|omega|((repeat (first|rw [nP]|rw [nS]|rw [M3]))<;>omega)|decide)) only [go_sem,↓reduceIte,ga]) (by simp (disch:=(first|exact Rf.mk rfl|with_reducible assumption|omega|((repeat (first|rw [nP]|rw [nS]|rw [M3]))<;>omega)|decide)) only [go_sem,↓reduceIte,gv]) (fun j h1 h2 h3 h4=>by simp (disch:=(first|exact Rf.mk rfl|with_reducible assumption|omega|((repeat (first|rw [nP]|rw [nS]|rw [M3]))<;>omega)|decide)) only [go_sem,↓reduceIte])
   ·refine zY (aN g0 (aN g2 (aN g3 (aN hk (aN om (aN oc c)))))) ?_
    refine X1 ⟨_,rfl,?_⟩
    simp only [e2,Bool.false_and,Bool.false_eq_true,if_false]
    exact H.same (A:=(st.at'.set v.proc E.to)) (V:=st.vars) (hd:=-1) (by simp) (by simp) (by simp (disch:=(first|exact Rf.mk rfl|with_reducible assumption|omega|((repeat (first|rw [nP]|rw [nS]|rw [M3]))<;>omega)|decide)) only [go_sem,↓reduceIte,ga]) (by simp (disch:=(first|exact Rf.mk rfl|with_reducible assumption|omega|((repeat (first|rw [nP]|rw [nS]|rw [M3]))<;>omega)|decide)) only [go_sem,↓reduceIte,gv]) (fun j h1 h2 h3 h4=>by simp (disch:=(first|exact Rf.mk rfl|with_reducible assumption|omega|((repeat (first|rw [nP]|rw [nS]|rw [M3]))<;>omega)|decide)) only [go_sem,↓reduceIte])
 ·rcases gc with ⟨h1,_⟩ | ⟨c,rfl,gc,nc,ca,cv,cq⟩
  ·rw [h1] at hcl;simp at hcl;omega
  have hc':v.chan<st.chans.length:=by omega
  obtain ⟨gk,nk,ka,kv⟩:=gq v.chan hc'
  have kc:=cq v.chan hc'
  have lc:=M7 gc
  have lk:=M7 gk
  have e:mo.doS st v=⟨st.at',st.vars,st.chans.set v.chan ((cAt st.chans v.chan).drop 1),st.hold⟩:=by unfold Mo.doS;rw [if_pos hk]
  rw [e]
  by_cases l2:1<(cAt st.chans v.chan).length
  ·simp (disch:=(first|exact Rf.mk rfl|with_reducible assumption|omega|((repeat (first|rw [nP]|rw [nS]|rw [M3]))<;>omega)|decide)) only [go_sem,↓reduceIte,g0,g1,g2,g3,ga,gv,gc,gk,hk,hc',hil,om,ox,oc,l2,hlen,a53]
   refine X1 ⟨_,rfl,H.chan (d:=.arr (nAt ids v.chan) 1 ((cAt st.chans v.chan).length-1) 1) hc' rfl rfl ?_ ?_ ?_ (a5X ?_ l2) fun j hj hjk=>?_⟩
   ·exact zZ ga
   ·exact zZ gv
   ·exact zZ gc
   ·exact zZ gk
   ·obtain ⟨gj,nj,ja,jv⟩:=gq j hj
    have jc:=cq j hj
    have lj:=M7 gj
    have jk:nAt ids j≠nAt ids v.chan:=fun e=>hjk (inj _ _ hj hc' e)
    exact zZ gj
  ·have l3:(cAt st.chans v.chan).length=1:=by omega
   refine zY (aN g0 (aN g1 (aN g2 (aN g3 (aN ga (aN gv (aN gc (aN gk (aN hk (aN hc' (aN hil (aN om (aN ox (aN oc l3)))))))))))))) ?_
   refine X1 ⟨_,rfl,H.chan (d:=.lst 1 []) hc' rfl rfl ?_ ?_ ?_ (a6i l2) fun j hj hjk=>?_⟩
   ·exact zZ ga
   ·exact zZ gv
   ·exact zZ gc
   ·obtain ⟨gj,nj,ja,jv⟩:=gq j hj
    have jc:=cq j hj
    have lj:=M7 gj
    exact zZ gj
 ·rcases gc with ⟨h1,_⟩ | ⟨c,rfl,gc,nc,ca,cv,cq⟩
  ·rw [h1] at hcl;simp at hcl;omega
  have hc':v.chan<st.chans.length:=by omega
  obtain ⟨gk,nk,ka,kv⟩:=gq v.chan hc'
  have kc:=cq v.chan hc'
  have lc:=M7 gc
  have lk:=M7 gk
  have e:mo.doS st v=⟨st.at',st.vars,st.chans.set v.chan (cAt st.chans v.chan++[zAt (cAt st.chans v.chan) 0]),st.hold⟩:=by unfold Mo.doS;rw [if_neg (by omega),if_pos hk]
  rw [e]
  refine zY (aN g0 (aN g1 (aN g2 (aN g3 (aN ga (aN gv (aN gc (aN gk (aN hk (aN hc' (aN hil (aN om (aN ox (aN oc hlen)))))))))))))) ?_
  have hr3:=hf.ch _ (a2S hc)
  refine b4W (cs:=P8 (cAt st.chans v.chan)) (x:=.int .i64 (zAt (cAt st.chans v.chan) 0)) (by simp (disch:=(first|exact Rf.mk rfl|with_reducible assumption|omega|((repeat (first|rw [nP]|rw [nS]|rw [M3]))<;>omega)|decide)) only [go_sem,↓reduceIte,gk]) (by simp) (by simp (disch:=(first|exact Rf.mk rfl|with_reducible assumption|omega|((repeat (first|rw [nP]|rw [nS]|rw [M3]))<;>omega)|decide)) only [go_sem,↓reduceIte]) (by decide) (by omega) (by simp (disch:=(first|exact Rf.mk rfl|with_reducible assumption|omega|((repeat (first|rw [nP]|rw [nS]|rw [M3]))<;>omega)|decide)) only [go_sem,↓reduceIte]) ?_
  refine zY (aN g0 (aN g1 (aN g2 (aN g3 (aN ga (aN gv (aN gc (aN gk (aN hk (aN hc' (aN hil (aN om (aN ox (aN oc hlen)))))))))))))) ?_
  refine X1 ⟨_,rfl,H.chan (d:=.arr (s1.next+1+1) 0 ((cAt st.chans v.chan).length+1) 1) hc' rfl rfl ?_ ?_ ?_ ?_ fun j hj hjk=>?_⟩
  ·exact zZ ga
  ·exact zZ gv
  ·exact zZ gc
  ·rw [show (cAt st.chans v.chan).length+1=(cAt st.chans v.chan++[zAt (cAt st.chans v.chan) 0]).length by simp]
   refine a3r ?_
   refine zY0 ?_
   simp [P8]
  ·obtain ⟨gj,nj,ja,jv⟩:=gq j hj
   have jc:=cq j hj
   have lj:=M7 gj
   have jk:nAt ids j≠nAt ids v.chan:=fun e=>hjk (inj _ _ hj hc' e)
   exact zZ gj
end Go.Proofs.YtnjlhebkhjcagaaGreat
namespace Go.V
variable {mo:Mo} {M:Stt->List Mv}
def Mo.fst (mo:Mo):Stt:=⟨List.replicate mo.procs.length 0,mo.vals,List.replicate mo.chans.length [],-1⟩
theorem b8p {n i:Nat}:nAt (List.replicate n 0) i=0:=by
 unfold nAt
 by_cases h:i<n
 ·simp [List.getD,h]
 ·simp [List.getD,h]
theorem b4H (ho:N6 mo) (hf:X5 mo):Fit mo mo.fst:=by
 refine a0t.1 ⟨by simp [Mo.fst],by simp [Mo.fst,Mo.vals],by simp [Mo.fst],fun i hi=>?_,fun i hi=>?_,fun i hi=>?_,fun i hi n hn=>?_,by simp only [Mo.fst];omega⟩
 ·have:=(ho.pr _ (V7 hi)).inv.two
  show nAt (List.replicate _ 0) i<_
  rw [b8p];omega
 ·show N4 (zAt mo.vals i) _=zAt mo.vals i
  rw [b0p hi]
  exact (hf.vr _ (a2O hi)).2.2
 ·show ((cAt (List.replicate _ []) i).length:Int)<=_
  rw [a54]
  have:=(hf.ch _ (a2S hi)).1
  simp only [List.length_nil];omega
 ·have hn:n∈cAt (List.replicate _ []) i:=hn
  rw [a54] at hn;cases hn
theorem b19 (ho:N6 mo) (hf:X5 mo):a1Z mo mo.fst:=⟨b4H ho hf,fun j hj=>by simp only [Mo.fst] at hj;omega⟩
def Rch (mo:Mo) (M:Stt->List Mv) (t:Stt):Prop:=∃n,a1m mo M n mo.fst t
theorem a1m.snoc:∀ {n:Nat} {s t:Stt} {v:Mv},a1m mo M n s t->v∈M t->a1m mo M (n+1) s (mo.doS t v)
 | 0,s,t,v,h,hv=>by cases h;exact ⟨v,hv,rfl⟩
 | n+1,s,t,v,⟨w,hw,h⟩,hv=>⟨w,hw,h.snoc hv⟩
theorem Rch.step {t:Stt} {v:Mv} (h:Rch mo M t) (hv:v∈M t):Rch mo M (mo.doS t v):=by
 obtain ⟨n,h⟩:=h
 exact ⟨n+1,h.snoc hv⟩
theorem a1m.mono {M':Stt->List Mv} (hs:∀s v,v∈M s->v∈M' s):∀ {n:Nat} {s t:Stt},a1m mo M n s t->a1m mo M' n s t
 | 0,s,t,h=>h
 | n+1,s,t,⟨w,hw,h⟩=>⟨w,hs _ _ hw,h.mono hs⟩
theorem Rch.mono {M':Stt->List Mv} (hs:∀s v,v∈M s->v∈M' s) {t:Stt} (h:Rch mo M t):Rch mo M' t:=by
 obtain ⟨n,h⟩:=h
 exact ⟨n,h.mono hs⟩
theorem Rch.inv (ho:N6 mo) (hf:X5 mo) (hs:∀s v,v∈M s->v∈mo.moves s) {t:Stt} (h:Rch mo M t):a1Z mo t:=by
 obtain ⟨n,h⟩:=h
 exact (h.mono hs).inv ho hf (b19 ho hf)
theorem b9h {L:List Stt} (h0:mo.fst∈L) (hc:∀s∈L,∀v∈M s,mo.doS s v∈L) {t:Stt} (h:Rch mo M t):t∈L:=by
 obtain ⟨n,h⟩:=h
 have key:∀ {n:Nat} {s t:Stt},s∈L->a1m mo M n s t->t∈L:=by
  intro n
  induction n with
  | zero=>intro s t hs h;cases h;exact hs
  | succ n ih=>intro s t hs h;obtain ⟨v,hv,h⟩:=h;exact ih (hc s hs v hv) h
 exact key h0 h
def a48 (mo:Mo) (M:Stt->List Mv) (a b:Bool):Prop :=
 (a=true/\b=true/\∃t,Rch mo M t/\mo.badS t=true)∨(a=false/\b=true/\∃L:List Stt,L.length<=120/\∀t,Rch mo M t->t∈L/\mo.badS t=false)∨(a=false/\b=false)
abbrev QL:=List (StD×Stt)
def qAt (l:QL) (i:Nat):StD×Stt:=l.getD i ⟨⟨.nils,.nils,.nils⟩,⟨[],[],[],0⟩⟩
def a40 (q:StD×Stt):List D:=[q.1.da,q.1.dv,q.1.dc,.int .i64 q.2.hold]
def a1n (l:QL):List (List D):=l.map a40
theorem a4w {l:QL} {i:Nat} (h:i<l.length):qAt l i=l[i]:=by simp [qAt,List.getD,h]
theorem a7v {l:QL} {i:Nat} (h:i<l.length):qAt l i∈l:=by rw [a4w h];exact List.getElem_mem h
theorem b4X {l:QL} {q:StD×Stt} (h:q∈l):∃i,i<l.length/\qAt l i=q:=by
 obtain ⟨i,hi,e⟩:=List.getElem_of_mem h
 exact ⟨i,hi,by rw [a4w hi,e]⟩
theorem a6K {l r:QL} {i:Nat} (h:i<l.length):qAt (l++r) i=qAt l i:=by
 rw [a4w h,a4w (by simp;omega),List.getElem_append_left h]
@[simp] theorem a26 (l:QL):(a1n l).length=l.length:=by simp [a1n]
theorem a9O (l:QL):∀r∈a1n l,r.length=4:=by intro r h;obtain ⟨b,_,rfl⟩:=List.mem_map.1 h;rfl
structure a0E (mo:Mo) (M:Stt->List Mv) (L:QL) (i:Nat):Prop where
 fst:mo.fst∈L.map Prod.snd
 rch:∀q∈L,Rch mo M q.2
 f:∀q∈L,StF q.1 q.2
 ok:∀j,j<i->mo.badS (qAt L j).2=false
 cl:∀j,j<i->∀v∈M (qAt L j).2,mo.doS (qAt L j).2 v∈L.map Prod.snd
 nd:(L.map Prod.snd).Nodup
theorem a0E.start {q:StD×Stt} (h1:q.2=mo.fst) (h2:StF q.1 q.2):a0E mo M [q] 0:=by
 refine ⟨by simp [h1],fun p hp=>?_,fun p hp=>?_,fun j hj=>by omega,fun j hj=>by omega,by simp⟩
 ·rw [List.mem_singleton.1 hp,h1];exact ⟨0,rfl⟩
 ·rw [List.mem_singleton.1 hp];exact h2
theorem a0E.app {L:QL} {i:Nat} (h:a0E mo M L i) (hi:i<=L.length) {q:StD×Stt} (hr:Rch mo M q.2) (hf:StF q.1 q.2) (hn:q.2∉L.map Prod.snd):a0E mo M (L++[q]) i:=by
 refine ⟨by rw [List.map_append];exact List.mem_append_left _ h.fst,fun p hp=>?_,fun p hp=>?_,fun j hj=>?_,fun j hj v hv=>?_,?_⟩
 ·rcases List.mem_append.1 hp with hp | hp
  ·exact h.rch p hp
  ·rw [List.mem_singleton.1 hp];exact hr
 ·rcases List.mem_append.1 hp with hp | hp
  ·exact h.f p hp
  ·rw [List.mem_singleton.1 hp];exact hf
 ·rw [a6K (by omega)];exact h.ok j hj
 ·rw [a6K (by omega)] at hv ⊢
  rw [List.map_append]
  exact List.mem_append_left _ (h.cl j hj v hv)
 ·rw [List.map_append]
  refine List.nodup_append.2 ⟨h.nd,by simp,fun a ha b hb=>?_⟩
  simp only [List.map_cons,List.map_nil,List.mem_singleton] at hb
  rw [hb]
  exact fun e=>hn (e▸ha)
theorem a0E.next {L:QL} {i:Nat} (h:a0E mo M L i) (hb:mo.badS (qAt L i).2=false) (hc:∀v∈M (qAt L i).2,mo.doS (qAt L i).2 v∈L.map Prod.snd):a0E mo M L (i+1):=by
 refine ⟨h.fst,h.rch,h.f,fun j hj=>?_,fun j hj=>?_,h.nd⟩
 ·by_cases e:j=i
  ·rw [e];exact hb
  ·exact h.ok j (by omega)
 ·by_cases e:j=i
  ·rw [e];exact hc
  ·exact h.cl j (by omega)
theorem a0E.all {L:QL} {i:Nat} (h:a0E mo M L i) (hi:¬ i<L.length):∀t,Rch mo M t->t∈L.map Prod.snd/\mo.badS t=false:=by
 intro t ht
 have hm:=b9h (L:=L.map Prod.snd) h.fst (fun s hs v hv=>by
  obtain ⟨q,hq,rfl⟩:=List.mem_map.1 hs
  obtain ⟨j,hj,rfl⟩:=b4X hq
  exact h.cl j (by omega) v hv) ht
 refine ⟨hm,?_⟩
 obtain ⟨q,hq,rfl⟩:=List.mem_map.1 hm
 obtain ⟨j,hj,rfl⟩:=b4X hq
 exact h.ok j (by omega)
theorem a0E.none {L:QL} {i:Nat} (h:a0E mo M L i) (hi:¬ i<L.length) (hl:L.length<=120):a48 mo M false true :=
 .inr (.inl ⟨rfl,rfl,L.map Prod.snd,by rw [List.length_map];exact hl,h.all hi⟩)
theorem a0E.bad {L:QL} {i:Nat} (h:a0E mo M L i) (hi:i<L.length) (hb:mo.badS (qAt L i).2=true):a48 mo M true true :=
 .inl ⟨rfl,rfl,_,h.rch _ (a7v hi),hb⟩
theorem c3D (ho:N6 mo) (hf:X5 mo) (hq:MoQ mo) (hs:a7k mo) {a b c d:Bool} (h1:a48 mo mo.moves a b) (h2:a48 mo mo.ample c d) (hb:b=true) (hd:d=true):a=c:=by
 have fwd:(∃t,Rch mo mo.moves t/\mo.badS t=true)->∃t,Rch mo mo.ample t/\mo.badS t=true:=by
  rintro ⟨t,⟨n,hp⟩,hb⟩
  obtain ⟨k,t',hp',hb'⟩:=c5m ho hf hq hs n _ _ t rfl hb (b19 ho hf) hp
  exact ⟨t',⟨k,hp'⟩,hb'⟩
 have bwd:(∃t,Rch mo mo.ample t/\mo.badS t=true)->∃t,Rch mo mo.moves t/\mo.badS t=true:=by
  rintro ⟨t,hp,hb⟩
  exact ⟨t,hp.mono fun s v=>a3w,hb⟩
 rcases h1 with ⟨rfl,_,e1⟩ | ⟨rfl,_,_,_,n1⟩ | ⟨_,rfl⟩
 ·rcases h2 with ⟨rfl,_,_⟩ | ⟨rfl,_,_,_,n2⟩ | ⟨_,rfl⟩
  ·rfl
  ·obtain ⟨t,a,b⟩:=fwd e1
   rw [(n2 t a).2] at b;cases b
  ·cases hd
 ·rcases h2 with ⟨rfl,_,e2⟩ | ⟨rfl,_,_⟩ | ⟨_,rfl⟩
  ·obtain ⟨t,a,b⟩:=bwd e2
   rw [(n1 t a).2] at b;cases b
  ·rfl
  ·cases hd
 ·cases hb
end Go.V
namespace Go.V
variable {mo:Mo} {π τ:Nat->Nat} {s s':Stt}
structure Sym (mo:Mo) (π τ:Nat->Nat):Prop where
 pi:∀v,π (π v)=v
 pg:∀v,v<mo.globals->π v=v
 pl:∀v,v<mo.vars.length->π v<mo.vars.length
 pw:∀v,v<mo.vars.length->(vAt mo.vars (π v)).width=(vAt mo.vars v).width
 tt:∀j,τ (τ j)=j
 tl:∀j,j<mo.procs.length->τ j<mo.procs.length
 nm:∀j,j<mo.procs.length->(pAt mo.procs (τ j)).names=(pAt mo.procs j).names
 vr:∀j,j<mo.procs.length->(pAt mo.procs (τ j)).vars=(pAt mo.procs j).vars.map π
 ed:∀j,j<mo.procs.length->(pAt mo.procs (τ j)).edges=(pAt mo.procs j).edges.map (b5u π)
 rs:∀j,j<mo.procs.length->(pAt mo.procs (τ j)).rest=(pAt mo.procs j).rest
structure SR (mo:Mo) (π τ:Nat->Nat) (s s':Stt):Prop where
 al:s.at'.length=mo.procs.length
 al':s'.at'.length=mo.procs.length
 at':∀j,j<mo.procs.length->nAt s'.at' (τ j)=nAt s.at' j
 vl:s.vars.length=mo.vars.length
 vl':s'.vars.length=mo.vars.length
 vr:∀v,v<mo.vars.length->zAt s'.vars (π v)=zAt s.vars v
 ch:s'.chans=s.chans
 hd:(s.hold<0/\s'.hold=s.hold)∨∃j,j<mo.procs.length/\s.hold=(j:Int)/\s'.hold=((τ j:Nat):Int)
theorem Sym.pe (h:Sym mo π τ) {a b:Nat}:π a=π b↔a=b:=⟨fun e=>by rw [<- h.pi a,e,h.pi],fun e=>by rw [e]⟩
theorem SR.symm (h:Sym mo π τ) (r:SR mo π τ s s'):SR mo π τ s' s:=by
 refine ⟨r.al',r.al,fun j hj=>?_,r.vl',r.vl,fun v hv=>?_,r.ch.symm,?_⟩
 ·rw [<- r.at' (τ j) (h.tl j hj),h.tt]
 ·rw [<- r.vr (π v) (h.pl v hv),h.pi]
 ·rcases r.hd with ⟨a,b⟩ | ⟨j,hj,a,b⟩
  ·exact .inl ⟨by rw [b];exact a,b.symm⟩
  ·exact .inr ⟨τ j,h.tl j hj,b,by rw [h.tt];exact a⟩
def mapM (τ:Nat->Nat) (v:Mv):Mv:=if v.kind=0 then { v with proc:=τ v.proc } else v
theorem a9N {c:Nat} {v:Mv} (h:v∈mo.movesC s c):v.kind=1∨v.kind=2:=by
 unfold Mo.movesC at h
 rw [List.mem_append] at h
 rcases h with h | h
 ·split at h
  ·have:=List.mem_singleton.1 h
   left;rw [this]
  ·cases h
 ·split at h
  ·have:=List.mem_singleton.1 h
   right;rw [this]
  ·cases h
end Go.V
namespace Go.V
variable {mo:Mo}
structure Cop (mo:Mo) (q n lo:Nat):Prop where
 lt:q+1<mo.procs.length
 gl:mo.globals<=lo
 hi:lo+n+n<=mo.vars.length
 l0:(pAt mo.procs q).locals=(List.range n).map (lo+·)
 l1:(pAt mo.procs (q+1)).locals=(List.range n).map (lo+n+·)
 vr:∀v∈(pAt mo.procs q).vars,v<mo.globals∨v∈(pAt mo.procs q).locals
 re:pAt mo.procs (q+1)=ren (c5X mo.globals n) (pAt mo.procs (q+1)).locals (pAt mo.procs (q+1)).copy (pAt mo.procs q)
 w:∀i,i<n->vAt mo.vars (lo+n+i)=vAt mo.vars (lo+i)
end Go.V
namespace Go.V
variable {mo:Mo} {s:Stt}
def a3F (p:Pr):Bool:=p.edges.all fun e=>decide (e.to≠0)
def Mo.barred (mo:Mo) (st:Stt) (i:Nat):Bool:=decide (0<(pAt mo.procs i).copy)&&a3F (pAt mo.procs i)&&decide (nAt st.at' i=0)&&decide (nAt st.at' (i-1)=0)
def Mo.freeM (mo:Mo) (st:Stt) (v:Mv):Bool:=!(decide (v.kind=0)&&mo.barred st v.proc)
def Mo.someM (mo:Mo) (am:Bool) (st:Stt):List Mv:=(if am then mo.ample st else mo.moves st).filter (mo.freeM st)
def a77 (mo:Mo) (s:Stt):Prop:=∀j,j<mo.procs.length->a3F (pAt mo.procs j)=true->nAt s.at' j=0->s.hold≠(j:Int)/\∀v∈(pAt mo.procs j).locals,zAt s.vars v=(vAt mo.vars v).value
structure MoC (mo:Mo):Prop where
 tw:∀p,p<mo.procs.length->0<(pAt mo.procs p).copy->∃q n lo,p=q+1/\Cop mo q n lo
theorem b5L {l:List Int} {i j:Nat} {x:Int} (h:i≠j):zAt (l.set i x) j=zAt l j:=by
 unfold zAt
 simp [List.getD,List.getElem?_set,h]
theorem b3k {i:Nat} {p:Pr} {e:Ed}:(mo.edgeS s i p e).at'=s.at'.set i e.to:=by
 unfold Mo.edgeS Mo.actS
 repeat' split
 all_goals rfl
theorem b9E {i:Nat} {p:Pr} (hp:a0k mo p) {e:Ed} (he:e∈p.edges) {w:Nat} (hw:w∉p.vars):zAt (mo.edgeS s i p e).vars w=zAt s.vars w:=by
 have key:∀a,e.act=1∨e.act=3->zAt (s.vars.set e.var.toNat a) w=zAt s.vars w:=fun a ha=>by
  obtain ⟨b,hb,hv⟩:=(hp.inv.ed e he).v1 ha
  rw [hv,Int.toNat_natCast]
  exact b5L fun c=>hw (c▸hb)
 unfold Mo.edgeS Mo.actS
 split
 ·rename_i c;exact key _ (.inl c)
 split
 ·rfl
 split
 ·rename_i c;exact key _ (.inr c)
 ·rfl
theorem a77.step (ho:N6 mo) (hq:MoQ mo) (hI:Fit mo s) (hF:a77 mo s) {v:Mv} (hv:v∈mo.moves s):a77 mo (mo.doS s v):=by
 rcases a2X.1 hv with ⟨k0,_,hp,he,_,_⟩ | ⟨_,_,c⟩
 ·have hd:mo.doS s v=mo.doE s v.proc (pAt mo.procs v.proc) (eAt (pAt mo.procs v.proc).edges v.edge):=by
   unfold Mo.doS;rw [if_neg (by omega),if_neg (by omega)]
  have hem:=a05 he
  rw [hd]
  generalize eAt (pAt mo.procs v.proc).edges v.edge=e at *
  have hpo:=ho.pr _ (V7 hp)
  intro j hj hb ha
  have ha:nAt (mo.edgeS s v.proc (pAt mo.procs v.proc) e).at' j=0:=ha
  rw [b3k] at ha
  by_cases c:j=v.proc
  ·exfalso
   subst c
   have hl:=hI.at'
   rw [a6H (by omega),if_pos rfl] at ha
   unfold a3F at hb
   have:=List.all_eq_true.1 hb e hem
   simp [ha] at this
  ·have hl:=hI.at'
   rw [a6H (by omega),if_neg c] at ha
   obtain ⟨h1,h2⟩:=hF j hj hb ha
   refine ⟨?_,fun w hw=>?_⟩
   ·unfold Mo.doE
    simp only
    split<;>omega
   ·have:zAt (mo.edgeS s v.proc (pAt mo.procs v.proc) e).vars w=zAt s.vars w:=b9E hpo hem (hq.own j v.proc hj hp c w hw)
    exact this.trans (h2 w hw)
 ·have hk:=a9N c
  intro j hj hb ha
  have e1:(mo.doS s v).at'=s.at'/\(mo.doS s v).vars=s.vars/\(mo.doS s v).hold=s.hold:=by
   unfold Mo.doS
   split
   ·exact ⟨rfl,rfl,rfl⟩
   ·rw [if_pos (by omega)];exact ⟨rfl,rfl,rfl⟩
  rw [e1.1] at ha
  rw [e1.2.1,e1.2.2]
  exact hF j hj hb ha
theorem c4W {q n lo:Nat} (h:Cop mo q n lo):a3F (pAt mo.procs (q+1))=a3F (pAt mo.procs q):=by
 rw [h.re]
 unfold a3F
 show ((pAt mo.procs q).edges.map _).all _=_
 rw [List.all_map]
 rfl
theorem b0B {am:Bool} {v:Mv} (h:v∈mo.someM am s):v∈mo.moves s:=by
 unfold Mo.someM at h
 have:=(List.mem_filter.1 h).1
 cases am
 ·exact this
 ·exact a3w this
end Go.V
namespace Go.V
theorem c3u {l:QL} {i:Nat} (h:i<l.length):Z8 (some 4) (i*4) (a1n l).flatten=some (.agg [(qAt l i).1.da,(qAt l i).1.dv,(qAt l i).1.dc,.int .i64 (qAt l i).2.hold]):=by
 have hl:=a3t (a9O l)
 rw [a26] at hl
 unfold Z8
 simp only
 rw [if_pos (by omega),a4w h]
 congr 2
 apply List.ext_getElem?
 intro f
 by_cases c:f<4
 ·rw [List.getElem?_take,if_pos c,List.getElem?_drop,a5a (a9O l) (by simpa using h) c]
  simp [a1n,a40]
 ·rw [List.getElem?_eq_none (by simp;omega),List.getElem?_eq_none (by simp;omega)]
theorem c3s {l:QL} {i:Nat} (h:i<l.length):List.take 4 (List.drop (i*4) (a1n l).flatten)=[(qAt l i).1.da,(qAt l i).1.dv,(qAt l i).1.dc,.int .i64 (qAt l i).2.hold]:=by
 have:=c3u h
 unfold Z8 at this
 simp only at this
 split at this
 ·simpa using this
 ·cases this
theorem c3V {l:QL} {i:Nat} (h:i<l.length):(i*4+3<(a1n l).flatten.length)=True:=by
 have hl:=a3t (a9O l)
 rw [a26] at hl
 apply propext
 simp only [iff_true]
 omega
theorem c1W {v w:Mv}:a0L [.i,.i,.i,.i] [.int .i64 (v.kind:Int),.int .i64 (v.proc:Int),.int .i64 (v.edge:Int),.int .i64 (v.chan:Int)] [.int .i64 (w.kind:Int),.int .i64 (w.proc:Int),.int .i64 (w.edge:Int),.int .i64 (w.chan:Int)]=some (decide (v=w)):=by
 have e:∀a b:Nat,((a:Int)==(b:Int))=decide (a=b):=fun a b=>by
  by_cases h:a=b
  ·subst h;simp
  ·rw [decide_eq_false h];simp;omega
 cases v;cases w
 simp [a0L,a4d,e,Bool.decide_and]
attribute [go_sem] c3s c3V c1W
theorem b2M {fs:FuncId->Option M5} {t rest env K s d bytes row E R} {l:QL} (q:StD×Stt) (hv:a40 q=row) (h:Rp d 4 (a1n l) E) (hp:Hp s E R) (hb:bytes<=1000) (hl:l.length<=1000000000)
 (k:∀d' s' E',Rp d' 4 (a1n (l++[q])) E'->Hp s' E' R->XQ fs [] rest ((t,d')::env) s' K):BM (U8 4 bytes d (.arr s.next 0 1 4) (s.push (.cells row))) fs t rest env K:=b2j (f:=a40) q hv h hp (fun _=>rfl) hb hl k
end Go.V
namespace Go.Proofs.YtnjlhebkhjcagaaGreat
open Go.V
set_option maxRecDepth 100000
set_option maxHeartbeats 4000000
variable {m:MdX} {mo:Mo} {ps:List (Pr×PrD)} {x:StD} {st:Stt}
theorem b4i (hm:MoF m mo ps) (ho:N6 mo) (hf:X5 mo) (hx:Y5 mo x st) {v:Mv} (hv:mo.mvOk st v):∃x',Eqc vfs 22 [.agg [m.dt,.int .i64 m.g,m.dc,m.dv,m.dp,m.ds,.bool m.b],.agg [x.da,x.dv,x.dc,.int .i64 st.hold],.agg [.int .i64 (v.kind:Int),.int .i64 (v.proc:Int),.int .i64 (v.edge:Int),.int .i64 (v.chan:Int)]] (.agg [x'.da,x'.dv,x'.dc,.int .i64 (mo.doS st v).hold])/\Y5 mo x' (mo.doS st v):=by
 obtain ⟨d,s',h1,cs,rfl,h2⟩:=b7b hm ho hf hx hv
 obtain ⟨x',h4,h5⟩:=h2.frz
 have hfit:=b0W ho hf hx.fit hv
 exact ⟨x',S5 ⟨_,_,h1,h4⟩,h5,a2k hf hfit,hfit⟩
theorem b6i (hm:MoF m mo ps) (ho:N6 mo) (hf:X5 mo):∃x,Eqc vfs 31 [.agg [m.dt,.int .i64 m.g,m.dc,m.dv,m.dp,m.ds,.bool m.b]] (.agg [x.da,x.dv,x.dc,.int .i64 mo.fst.hold])/\Y5 mo x mo.fst:=by
 obtain ⟨d,s',h1,⟨dA,dV,dC,EA,EV,EC,rfl,hA,hV,hC,hp,hw⟩,fr⟩:=b2S (s:=k4.empty) hm ho
 have hs:a0s s' [dA,dV,dC,.int .i64 (-1)] mo.fst:=by
  refine ⟨dA,dV,dC,List.replicate mo.chans.length .nils,rfl,hA.sn fun e he=>hp.w e (by simp [he]),hV.sn fun e he=>hp.w e (by simp [he]),?_,?_,by simp [Mo.fst],fun j h h'=>.inl ⟨by simp,by simp [Mo.fst]⟩⟩
  ·have:=hC.sn fun e he=>hp.w e (by simp [he])
   unfold a1o at this
   simpa using this
  ·rcases hC with ⟨_,e,_⟩ | ⟨id,e,_⟩
   ·left
    have:=congrArg List.length e
    unfold a1o at this
    simp at this
    simp [this]
   ·right
    unfold a1o at e
    exact ⟨id,by simpa using e⟩
 obtain ⟨x,h4,h5⟩:=hs.frz
 have hfit:=b4H ho hf
 exact ⟨x,S5 ⟨_,_,h1,h4⟩,h5,a2k hf hfit,hfit⟩
theorem c3q (hm:MoF m mo ps) (ho:N6 mo) (hx:Y5 mo x st):Eqc vfs 53 [.agg [m.dt,.int .i64 m.g,m.dc,m.dv,m.dp,m.ds,.bool m.b],.agg [x.da,x.dv,x.dc,.int .i64 st.hold]] (.bool (mo.deadS st)):=by
 have fm:=a04 hm
 have fx:=a0D hx.f
 have om:=hm.ones
 have ox:=hx.f.ones
 have hxa:=hx.f.a
 have hnp:=ho.np
 have hal:=hx.fit.at'
 obtain ⟨dm,hmv,hfl⟩:=a7N hm ho hx
 have hmv:=S5 hmv
 refine S5 ?_
 refine P0 (vf:=a8i) rfl ?_
 unfold a8i;refine zF ?_
 refine zY (aN om ox) ?_
 have hp0:Hp ((k4.empty.push (.cells [m.dt,.int .i64 m.g,m.dc,m.dv,m.dp,m.ds,.bool m.b])).push (.cells [x.da,x.dv,x.dc,.int .i64 st.hold])) [] [(0,[m.dt,.int .i64 m.g,m.dc,m.dv,m.dp,m.ds,.bool m.b]),(1,[x.da,x.dv,x.dc,.int .i64 st.hold])]:=⟨List.nodup_nil,by simp,by simp [Has],by
  intro y hy
  simp only [List.mem_cons,List.not_mem_nil,or_false] at hy
  rcases hy with rfl | rfl
  ·exact zZ0
  ·simp (disch:=(first|exact Rf.mk rfl|with_reducible assumption|omega|((repeat (first|rw [nP]|rw [nS]|rw [M3]))<;>omega)|decide)) only [go_sem,↓reduceIte]⟩
 generalize (k4.empty.push (.cells [m.dt,.int .i64 m.g,m.dc,m.dv,m.dp,m.ds,.bool m.b])).push (.cells [x.da,x.dv,x.dc,.int .i64 st.hold])=s0 at *
 have g0:s0.get 0=some (.cells [m.dt,.int .i64 m.g,m.dc,m.dv,m.dp,m.ds,.bool m.b]):=hp0.r (0,_) (by simp)
 have g1:s0.get 1=some (.cells [x.da,x.dv,x.dc,.int .i64 st.hold]):=hp0.r (1,_) (by simp)
 have l0:=M7 g0
 have l1:=M7 g1
 refine U2 [0,1,2,3,4] 0 mo.procs.length (fun i f s=>f 6=.int .i64 (i:Int)/\f 5=.bool ((List.range i).all fun i=>(pAt mo.procs i).rest.getD (nAt st.at' i) false)/\s=s0) (.mk rfl) (by omega) ⟨rfl,rfl,rfl⟩ ?_
 rintro i f s hi ⟨hE,hR,rfl⟩
 by_cases ci:i<mo.procs.length
 rotate_left
 ·obtain rfl:i=mo.procs.length:=by omega
  by_cases c0:(mo.moves st).length=0
  ·have e:mo.deadS st=!((List.range mo.procs.length).all fun i=>(pAt mo.procs i).rest.getD (nAt st.at' i) false):=by
    unfold Mo.deadS
    rw [decide_eq_true (List.length_eq_zero_iff.1 c0)]
    rfl
   rw [e]
   exact zZ (aN hE (aN hR (aN ci (aN g0 (aN g1 (aN om (aN ox (aN fm (aN fx (aN hmv (aN hfl c0)))))))))))
  ·have e:mo.deadS st=false:=by
    unfold Mo.deadS
    rw [decide_eq_false fun h=>c0 (by rw [h];rfl)]
    rfl
   rw [e]
   exact zZ (aN hE (aN hR (aN ci (aN g0 (aN g1 (aN om (aN ox (aN fm (aN fx (aN hmv (aN hfl c0)))))))))))
 have ci':i<st.at'.length:=by omega
 have hpl:=(a0t.2 hx.fit).pl i ci
 have hrl:=(ho.pr _ (V7 ci)).inv.rest
 have hrs:nAt st.at' i<(pAt mo.procs i).rest.length:=by omega
 cases hb:(List.range i).all fun i=>(pAt mo.procs i).rest.getD (nAt st.at' i) false
 ·rw [hb] at hR
  refine zY (aN hE (aN hR (aN ci (aN ci' (aN g0 (aN g1 (aN om ox))))))) ?_
  rw [List.all_append,hb]
  rfl
 ·rw [hb] at hR
  refine zY (aN hE (aN hR (aN ci (aN ci' (aN g0 (aN g1 (aN om (aN ox hrs)))))))) ?_
  rw [List.all_append,hb]
  simp [aB]
theorem b10 (hm:MoF m mo ps) (ho:N6 mo) (hx:Y5 mo x st):Eqc vfs 32 [.agg [m.dt,.int .i64 m.g,m.dc,m.dv,m.dp,m.ds,.bool m.b],.agg [x.da,x.dv,x.dc,.int .i64 st.hold]] (.bool (mo.badS st)):=by
 have fm:=a04 hm
 have fx:=a0D hx.f
 have om:=hm.ones
 have ox:=hx.f.ones
 have hb:=hm.b
 have hs:=a8n hm ho hx
 have hd:=c3q hm ho hx
 refine S5 ?_
 unfold Mo.badS
 cases cs:mo.safeS st
 ·rw [cs] at hs
  refine P0 (vf:=a3R) rfl ?_
  unfold a3R;refine zF ?_
  exact zZ (aN om (aN ox (aN fm (aN fx hs))))
 rw [cs] at hs
 cases cb:mo.dead
 ·rw [cb] at hb
  rw [hb] at fm hs hd ⊢
  refine P0 (vf:=a3R) rfl ?_
  unfold a3R;refine zF ?_
  refine zY (aN om (aN ox (aN fm (aN fx (aN hs hb))))) ?_
  rfl
 ·rw [cb] at hb
  rw [hb] at fm hs hd ⊢
  refine P0 (vf:=a3R) rfl ?_
  unfold a3R;refine zF ?_
  refine zY (aN om (aN ox (aN fm (aN fx (aN hs (aN hb hd)))))) ?_
  exact (Bool.false_or _).symm
end Go.Proofs.YtnjlhebkhjcagaaGreat
namespace Go.V
variable {mo:Mo} {s:Stt}
def a7K (mo:Mo) (s:Stt):Prop:=∀p,p<mo.procs.length->0<(pAt mo.procs p).copy->a3F (pAt mo.procs p)=true->nAt s.at' (p-1)=0->nAt s.at' p=0
theorem a7K.step (hC:MoC mo) (hI:Fit mo s) (hO:a7K mo s) {am:Bool} {v:Mv} (hv:v∈mo.someM am s):a7K mo (mo.doS s v):=by
 have hm:=b0B hv
 have hfree:mo.freeM s v=true:=by unfold Mo.someM at hv;exact (List.mem_filter.1 hv).2
 rcases a2X.1 hm with ⟨k0,_,hp,he,_,_⟩ | ⟨_,_,c⟩
 ·have hd:mo.doS s v=mo.doE s v.proc (pAt mo.procs v.proc) (eAt (pAt mo.procs v.proc).edges v.edge):=by
   unfold Mo.doS;rw [if_neg (by omega),if_neg (by omega)]
  have hem:=a05 he
  have hl:=hI.at'
  have hat:(mo.doS s v).at'=s.at'.set v.proc (eAt (pAt mo.procs v.proc).edges v.edge).to:=by rw [hd];exact b3k
  intro p hpl hc hb h0
  obtain ⟨q,n,lo,rfl,hcop⟩:=hC.tw p hpl hc
  rw [hat,a6H (by omega)] at h0 ⊢
  simp only [Nat.add_sub_cancel] at h0
  have hb0:=hb
  rw [c4W hcop] at hb0
  by_cases c:q=v.proc
  ·exfalso
   rw [if_pos c] at h0
   rw [c] at hb0
   unfold a3F at hb0
   have:=List.all_eq_true.1 hb0 _ hem
   simp [h0] at this
  ·rw [if_neg c] at h0
   have h1:=hO (q+1) hpl hc hb (by simpa using h0)
   by_cases c1:q+1=v.proc
   ·exfalso
    unfold Mo.freeM at hfree
    have:mo.barred s v.proc=true:=by
     rw [<- c1]
     unfold Mo.barred
     simp [hc,hb,h1,h0]
    rw [this,k0] at hfree
    simp at hfree
   ·rw [if_neg c1];exact h1
 ·have hk:=a9N c
  have e1:(mo.doS s v).at'=s.at':=by
   unfold Mo.doS
   split
   ·rfl
   ·rw [if_pos (by omega)]
  intro p hpl hc hb h0
  rw [e1] at h0 ⊢
  exact hO p hpl hc hb h0
structure a9S (mo:Mo) (s:Stt):Prop where
 inv:a1Z mo s
 un:a77 mo s
 ord:a7K mo s
theorem a9S.step (ho:N6 mo) (hf:X5 mo) (hq:MoQ mo) (hC:MoC mo) (h:a9S mo s) {am:Bool} {v:Mv} (hv:v∈mo.someM am s):a9S mo (mo.doS s v) :=
 ⟨h.inv.step ho hf (b0B hv),h.un.step ho hq h.inv.fit (b0B hv),h.ord.step hC h.inv.fit hv⟩
end Go.V
namespace Go.Proofs.YtnjlhebkhjcagaaGreat
open Go.V
set_option maxRecDepth 100000
set_option maxHeartbeats 4000000
variable {m:MdX} {mo:Mo} {ps:List (Pr×PrD)} {x:StD} {st:Stt}
end Go.Proofs.YtnjlhebkhjcagaaGreat
namespace Go.Proofs.YtnjlhebkhjcagaaGreat
open Go.V
set_option maxRecDepth 100000
set_option maxHeartbeats 4000000
variable {m:MdX} {mo:Mo} {ps:List (Pr×PrD)} {x:StD} {st:Stt}
theorem c6V (hm:MoF m mo ps) (ho:N6 mo) (hx:Y5 mo x st):a3O vfs 28 [.agg [m.dt,.int .i64 m.g,m.dc,m.dv,m.dp,m.ds,.bool m.b],.agg [x.da,x.dv,x.dc,.int .i64 st.hold],.bool false,.bool false] fun d=>FL 4 d (Y6 (mo.moves st)):=by
 have om:=hm.ones
 have ox:=hx.f.ones
 have fm:=a04 hm
 have fx:=a0D hx.f
 have hml:=a4H ho (st:=st)
 obtain ⟨dm,hmv,hfl⟩:=a7N hm ho hx
 have hmv:=S5 hmv
 have oe:=FL.one hfl
 have pe:=FL.pz hfl
 refine a3n (vf:=b1a) rfl ?_
 unfold b1a;refine zF ?_
 refine zY (aN om (aN ox (aN fm (aN fx hmv)))) ?_
 have hp0:Hp ((k4.empty.push (.cells [m.dt,.int .i64 m.g,m.dc,m.dv,m.dp,m.ds,.bool m.b])).push (.cells [x.da,x.dv,x.dc,.int .i64 st.hold])) [] [(0,[m.dt,.int .i64 m.g,m.dc,m.dv,m.dp,m.ds,.bool m.b]),(1,[x.da,x.dv,x.dc,.int .i64 st.hold])]:=⟨List.nodup_nil,by simp,by simp [Has],by
  intro y hy
  simp only [List.mem_cons,List.not_mem_nil,or_false] at hy
  rcases hy with rfl | rfl
  ·exact zZ0
  ·simp (disch:=(first|exact Rf.mk rfl|with_reducible assumption|omega|((repeat (first|rw [nP]|rw [nS]|rw [M3]))<;>omega)|decide)) only [go_sem,↓reduceIte]⟩
 generalize (k4.empty.push (.cells [m.dt,.int .i64 m.g,m.dc,m.dv,m.dp,m.ds,.bool m.b])).push (.cells [x.da,x.dv,x.dc,.int .i64 st.hold])=s0 at *
 refine U2 [0,1,2,3,4,5,8,9,15] 0 (mo.moves st).length (fun j f s=>f 11=.int .i64 (j:Int)/\∃E,Rp (f 10) 4 (Y6 ((mo.moves st).take j)) E/\Hp s E [(0,[m.dt,.int .i64 m.g,m.dc,m.dv,m.dp,m.ds,.bool m.b]),(1,[x.da,x.dv,x.dc,.int .i64 st.hold])]) (.mk rfl) (by omega) ⟨rfl,[],.inl ⟨rfl,rfl,rfl⟩,hp0⟩ ?_
 rintro j f s hj ⟨hE,E,hr,hp⟩
 by_cases cj:j<(mo.moves st).length
 rotate_left
 ·obtain rfl:j=(mo.moves st).length:=by omega
  rw [List.take_length] at hr
  obtain ⟨d',h1,h2⟩:=a4g hr hp (fun e h=>h) (a50 _) (a5u _)
  refine zY (aN hE (aN cj (aN hfl h1))) ?_
  exact ⟨_,rfl,h2⟩
 have hsu:(mo.moves st).take (j+1)=(mo.moves st).take j++[S9 (mo.moves st) j]:=by rw [List.take_succ_eq_append_getElem cj,a3K cj]
 refine zY (aN hE (aN cj hfl)) ?_
 refine a25 (S9 (mo.moves st) j) rfl hr hp (by decide) (by simp;omega) ?_
 rintro d1 s1 E1 hr1 hp1
 refine zY (aN hE cj) ?_
 rw [hsu]
 exact ⟨E1,hr1,hp1⟩
end Go.Proofs.YtnjlhebkhjcagaaGreat
namespace Go.Proofs.YtnjlhebkhjcagaaGreat
open Go.V
set_option maxRecDepth 100000
set_option maxHeartbeats 4000000
variable {m:MdX} {mo:Mo} {ps:List (Pr×PrD)} {x:StD} {st:Stt}
theorem c0X (hm:MoF m mo ps) (ho:N6 mo) (hx:Y5 mo x st):∃d,Eqc vfs 28 [.agg [m.dt,.int .i64 m.g,m.dc,m.dv,m.dp,m.ds,.bool m.b],.agg [x.da,x.dv,x.dc,.int .i64 st.hold],.bool false,.bool false] d/\FL 4 d (Y6 (mo.moves st)):=by
 obtain ⟨d,h1,h2⟩:=c6V hm ho hx
 exact ⟨d,S5 h1,h2⟩
theorem b1T {L:QL} {k:Nat} (h:k<L.length) (t:Stt):t∈(L.take (k+1)).map Prod.snd↔t∈(L.take k).map Prod.snd∨(qAt L k).2=t:=by
 rw [List.take_succ_eq_append_getElem h,List.map_append,List.mem_append,a4w h]
 simp [eq_comm]
theorem a9V (ho:N6 mo) {y:StD} {t:Stt} (hx:Y5 mo x st) (hy:Y5 mo y t):Eqc vfs 24 [.agg [x.da,x.dv,x.dc,.int .i64 st.hold],.agg [y.da,y.dv,y.dc,.int .i64 t.hold]] (.bool (decide (st=t))):=by
 have h1:=ho.np
 have h2:=ho.nv
 have h3:=ho.nc
 have:=hx.fit
 exact c38 hx.f hy.f (by rw [this.at'];omega) (by rw [this.vars];omega) (fun l hl=>by have:=(hx.e.c l hl).1;omega) (by rw [this.chans];omega)
theorem a7I {M:Stt->List Mv} {L:QL} {i:Nat} (h:a0E mo M L i):0<L.length:=by
 have:=h.fst
 cases L with
 | nil=>simp at this
 | cons a l=>simp
theorem a7t (ho:N6 mo) (hf:X5 mo) {M:Stt->List Mv} (hs:∀s v,v∈M s->v∈mo.moves s) {L:QL} {i j:Nat} (h:a0E mo M L i) (hj:j<L.length):Y5 mo (qAt L j).1 (qAt L j).2:=by
 have hq:=a7v hj
 have hI:=(h.rch _ hq).inv ho hf hs
 exact ⟨h.f _ hq,a2k hf hI.fit,hI.fit⟩
theorem c2n (hm:MoF m mo ps) (ho:N6 mo) (hf:X5 mo):a3O vfs 20 [.agg [m.dt,.int .i64 m.g,m.dc,m.dv,m.dp,m.ds,.bool m.b],.bool false,.bool false,.int .i64 120] fun d=>∃a b,d=.tup [.bool a,.bool b]/\a48 mo mo.moves a b:=by
 have om:=hm.ones
 have fm:=a04 hm
 obtain ⟨x0,hf0,hx0⟩:=b6i hm ho hf
 have ox0:=hx0.f.ones
 have fx0:=a0D hx0.f
 refine a3n (vf:=a9G) rfl ?_
 unfold a9G;refine zF ?_
 refine zY (aN om (aN fm (aN hf0 (aN ox0 fx0)))) ?_
 refine U2 [0,1,2,3,4] 0 120 (fun i f s=>f 11=.int .i64 (i:Int)/\∃L E,Rp (f 10) 4 (a1n L) E/\Hp s E [(0,[m.dt,.int .i64 m.g,m.dc,m.dv,m.dp,m.ds,.bool m.b])]/\a0E mo mo.moves L i/\i<=L.length/\L.length<=120) (.mk rfl) (by omega) ⟨rfl,[(x0,mo.fst)],[(1,a40 (x0,mo.fst))],?_,?_,a0E.start rfl hx0.f,by simp,by simp⟩ ?_
 ·exact .inr ⟨1,rfl,by simp [a1n],by simp [a1n]⟩
 ·exact Hp.pushW (s:=k4.empty.push (.cells [m.dt,.int .i64 m.g,m.dc,m.dv,m.dp,m.ds,.bool m.b])) (W:=[]) ⟨List.nodup_nil,by simp,by simp [Has],by simp [Has];simp (disch:=(first|exact Rf.mk rfl|with_reducible assumption|omega|((repeat (first|rw [nP]|rw [nS]|rw [M3]))<;>omega)|decide)) only [go_sem,↓reduceIte]⟩ _
 rintro i f s hi ⟨hE,L,E,hr,hp,hS,hiL,hL⟩
 have g0:=hp.rh
 obtain ⟨id,e1,rfl⟩:=hr.arr (by rw [a26];exact a7I hS)
 rw [a26] at e1
 have hr0:=hr
 rw [e1] at hr0
 have gi:=hp.hd
 by_cases ci:i<L.length
 rotate_left
 ·refine zY (aN hE (aN e1 ci)) ?_
  exact ⟨_,rfl,false,true,rfl,hS.none ci hL⟩
 have hx:=a7t ho hf (fun _ _ h=>h) hS ci
 have hrch:=hS.rch _ (a7v ci)
 generalize hqe:qAt L i=q at *
 obtain ⟨x,st⟩:=q
 simp only at hx hrch
 have fx:=a0D hx.f
 have ox:=hx.f.ones
 have hb:=b10 hm ho hx
 cases cb:mo.badS st
 rotate_left
 ·rw [cb] at hb
  refine zY (aN hE (aN e1 (aN ci (aN g0 (aN gi (aN om (aN fm (aN fx (aN ox (aN hqe hb)))))))))) ?_
  exact ⟨_,rfl,true,true,rfl,hS.bad ci (by rw [hqe];exact cb)⟩
 rw [cb] at hb
 obtain ⟨dm,hsm,hfl⟩:=c0X hm ho hx
 have hml:=a4H ho (st:=st)
 have pm:=FL.pz hfl
 refine zY (aN hE (aN e1 (aN ci (aN g0 (aN gi (aN om (aN fm (aN fx (aN ox (aN hqe (aN hb hsm))))))))))) ?_
 refine U2 [0,1,2,3,4,11,12,23,31] 0 (mo.moves st).length (fun j f s=>f 13=.int .i64 (j:Int)/\∃L' E',Rp (f 10) 4 (a1n L') E'/\Hp s E' [(0,[m.dt,.int .i64 m.g,m.dc,m.dv,m.dp,m.ds,.bool m.b])]/\a0E mo mo.moves L' i/\i<L'.length/\qAt L' i=(x,st)/\L'.length<=120/\∀j',j'<j->mo.doS st (S9 (mo.moves st) j')∈L'.map Prod.snd) (.mk rfl) (by omega) ⟨rfl,L,_,hr0,hp,hS,ci,hqe,hL,fun j' h=>by omega⟩ ?_
 clear hr0 hr hp g0 gi e1 hS hqe hL hiL
 rintro j f s hj ⟨hJ,L2,E2,hr,hp,hS,ci2,hqe,hL,hall⟩
 have g0:=hp.rh
 obtain ⟨id,e1,rfl⟩:=hr.arr (by rw [a26];exact a7I hS)
 rw [a26] at e1
 have hr0:=hr
 rw [e1] at hr0
 have gi:=hp.hd
 by_cases cj:j<(mo.moves st).length
 rotate_left
 ·refine zY (aN hJ (aN cj hfl)) ?_
  refine ⟨by omega,L2,_,hr,hp,hS.next (by rw [hqe];exact cb) (fun v hv=>?_),by omega,hL⟩
  rw [hqe] at hv ⊢
  simp only at hv ⊢
  obtain ⟨j',hj',rfl⟩:=List.getElem_of_mem hv
  rw [<- a3K hj']
  exact hall j' (by omega)
 have hvm:=a63 cj
 have pv:PZ (.agg [.int .i64 ((S9 (mo.moves st) j).kind:Int),.int .i64 ((S9 (mo.moves st) j).proc:Int),.int .i64 ((S9 (mo.moves st) j).edge:Int),.int .i64 ((S9 (mo.moves st) j).chan:Int)]):=b4I
 obtain ⟨y,hdo,hy⟩:=b4i hm ho hf hx (a79 hvm)
 have hyr:=hrch.step hvm
 generalize ht:mo.doS st (S9 (mo.moves st) j)=t at *
 have oy:=hy.f.ones
 have fy:=a0D hy.f
 have hp2:=hp.fr (a2m (z:=.cells [.nils,.nils,.nils,.int .i64 0]) (o:=.cells [y.da,y.dv,y.dc,.int .i64 t.hold]))
 have l0:=M7 g0
 have li:=M7 gi
 refine zY (aN hJ (aN e1 (aN cj (aN hfl (aN g0 (aN gi (aN ci2 (aN hqe (aN om (aN fm (aN fx (aN ox (aN pv (aN oy hdo)))))))))))))) ?_
 generalize hs3:(s.push (.cells [.nils,.nils,.nils,.int .i64 0])).set s.next (some (.cells [y.da,y.dv,y.dc,.int .i64 t.hold]))=s3 at *
 have g14:s3.get s.next=some (.cells [y.da,y.dv,y.dc,.int .i64 t.hold]):=by rw [<- hs3];exact S0 (by simp)
 have gi3:=hp2.hd
 have g03:=hp2.rh
 refine a1F [0,1,2,3,4,8,9,10,11,12,13,14,23,31,43,72,76] (fun f s'=>f 15=.bool (decide (t∈L2.map Prod.snd))/\s'=s3) ?_ ?_
 ·refine U2 [0,1,2,3,4,8,9,10,11,12,13,14,23,31,43,72,76] 0 L2.length (fun k f s'=>f 16=.int .i64 (k:Int)/\f 15=.bool (decide (t∈(L2.take k).map Prod.snd))/\s'=s3) (.mk rfl) (by omega) ⟨rfl,by rw [List.take_zero,List.map_nil,decide_eq_false List.not_mem_nil];rfl,rfl⟩ ?_
  rintro k f s' hk ⟨hI,hK,rfl⟩
  by_cases ck:k<L2.length
  rotate_left
  ·obtain rfl:k=L2.length:=by omega
   rw [List.take_length] at hK
   exact zZ (aN hI (aN hK (aN ck e1)))
  by_cases cm:t∈(L2.take k).map Prod.snd
  ·rw [decide_eq_true cm] at hK
   refine zY (aN hI (aN hK (aN ck e1))) ?_
   have:t∈L2.map Prod.snd:=by
    obtain ⟨q,hq,rfl⟩:=List.mem_map.1 cm
    exact List.mem_map.2 ⟨q,List.mem_of_mem_take hq,rfl⟩
   rw [decide_eq_true this]
  ·rw [decide_eq_false cm] at hK
   have hxk:=a7t ho hf (fun _ _ h=>h) hS ck
   have hsq:=a9V ho hxk hy
   have hmt:=b1T ck t
   generalize hqk:qAt L2 k=qk at *
   obtain ⟨xk,tk⟩:=qk
   simp only at hsq hmt hxk
   have fk:=a0D hxk.f
   have ok:=hxk.f.ones
   refine zY (aN hI (aN hK (aN ck (aN e1 (aN gi3 (aN g14 (aN hqk (aN ok (aN oy (aN fk (aN fy hsq))))))))))) ?_
   congr 1
   apply propext
   rw [hmt]
   exact ⟨fun h=>.inr h,fun h=>h.resolve_left cm⟩
 rintro f s' ⟨hK,rfl⟩
 by_cases hin:t∈L2.map Prod.snd
 ·rw [decide_eq_true hin] at hK
  refine zY hK ?_
  refine ⟨by omega,L2,_,hr0,hp2,hS,ci2,hqe,hL,fun j' hj'=>?_⟩
  by_cases e:j'=j
  ·rw [e,ht];exact hin
  ·exact hall j' (by omega)
 rw [decide_eq_false hin] at hK
 by_cases c120:L2.length=120
 ·have c':(L2.length:Int)=120:=by omega
  refine zY (aN hK (aN e1 c')) ?_
  exact ⟨_,rfl,false,false,rfl,.inr (.inr ⟨rfl,rfl⟩)⟩
 have c':¬ (L2.length:Int)=120:=by omega
 refine zY (aN hK (aN e1 (aN c' (aN g14 (aN oy fy))))) ?_
 refine b2M (y,t) rfl hr0 hp2 (by decide) (by omega) ?_
 rintro d1 s1 E1 hr1 hp1
 refine zY hJ ?_
 refine ⟨cj,L2++[(y,t)],E1,hr1,hp1,hS.app (by omega) hyr hy.f hin,by simp;omega,by rw [a6K (by omega)];exact hqe,by simp;omega,fun j' hj'=>?_⟩
 rw [List.map_append]
 by_cases e:j'=j
 ·rw [e,ht];simp
 ·exact List.mem_append_left _ (hall j' (by omega))
end Go.Proofs.YtnjlhebkhjcagaaGreat
namespace Go.Proofs.YtnjlhebkhjcagaaGreat
open Go.V
set_option maxRecDepth 100000
set_option maxHeartbeats 4000000
variable {m:MdX} {mo:Mo} {ps:List (Pr×PrD)} {x:StD} {st:Stt}
theorem c2L (ho:N6 mo):(mo.ample st).length<=1000000:=by
 have:=a4H ho (st:=st)
 refine Nat.le_trans (m:=(mo.moves st).length) ?_ (by omega)
 rcases b8P mo st with e | ⟨i,_,_,_,e⟩
 ·rw [e];exact Nat.le_refl _
 ·rw [e];exact List.length_filter_le _ _
end Go.Proofs.YtnjlhebkhjcagaaGreat
namespace Go.Proofs.YtnjlhebkhjcagaaGreat
open Go.V
set_option maxRecDepth 100000
set_option maxHeartbeats 4000000
variable {m:MdX} {mo:Mo} {ps:List (Pr×PrD)} {x:StD} {st:Stt}
theorem c0w {v:Mv} {d:D} {l:List Mv} (hd:FL 4 d (Y6 l)) (hl:l.length<=1000000):Eqc vfs 46 [.agg [.int .i64 (v.kind:Int),.int .i64 (v.proc:Int),.int .i64 (v.edge:Int),.int .i64 (v.chan:Int)],d] (.bool (decide (v∈l))):=by
 refine S5 ?_
 refine P0 (vf:=b0X) rfl ?_
 unfold b0X;refine zF ?_
 refine zY hd ?_
 have hp0:Hp (k4.empty.push (.cells [.int .i64 (v.kind:Int),.int .i64 (v.proc:Int),.int .i64 (v.edge:Int),.int .i64 (v.chan:Int)])) [] [(0,[.int .i64 (v.kind:Int),.int .i64 (v.proc:Int),.int .i64 (v.edge:Int),.int .i64 (v.chan:Int)])]:=⟨List.nodup_nil,by simp,by simp [Has],by simp [Has];simp (disch:=(first|exact Rf.mk rfl|with_reducible assumption|omega|((repeat (first|rw [nP]|rw [nS]|rw [M3]))<;>omega)|decide)) only [go_sem,↓reduceIte]⟩
 generalize k4.empty.push (.cells [.int .i64 (v.kind:Int),.int .i64 (v.proc:Int),.int .i64 (v.edge:Int),.int .i64 (v.chan:Int)])=s0 at *
 have g0:=hp0.rh
 refine U2 [0,1,2] 0 l.length (fun i f s=>f 5=.int .i64 (i:Int)/\s=s0/\v∉l.take i) (.mk rfl) (by omega) ⟨rfl,rfl,by simp⟩ ?_
 rintro i f s hi ⟨hE,rfl,hn⟩
 by_cases ci:i<l.length
 rotate_left
 ·obtain rfl:i=l.length:=by omega
  rw [List.take_length] at hn
  rw [decide_eq_false hn]
  exact zZ (aN hE (aN ci hd))
 by_cases ce:S9 l i=v
 ·have:v∈l:=by rw [<- ce];exact a63 ci
  rw [decide_eq_true this]
  exact zZ (aN hE (aN ci (aN hd (aN g0 ce))))
 ·refine zY (aN hE (aN ci (aN hd (aN g0 ce)))) ?_
  rw [List.take_succ_eq_append_getElem ci,<- a3K ci]
  intro h
  rcases List.mem_append.1 h with h | h
  ·exact hn h
  ·exact ce (List.mem_singleton.1 h).symm
theorem c1d (hm:MoF m mo ps) (ho:N6 mo) (hf:X5 mo) (hq:MoQ mo):a3O vfs 21 [.agg [m.dt,.int .i64 m.g,m.dc,m.dv,m.dp,m.ds,.bool m.b],.int .i64 120] fun d=>∃a b,d=.tup [.bool a,.bool b]/\a48 mo mo.ample a b:=by
 have om:=hm.ones
 have fm:=a04 hm
 obtain ⟨x0,hf0,hx0⟩:=b6i hm ho hf
 have ox0:=hx0.f.ones
 have fx0:=a0D hx0.f
 refine a3n (vf:=a8B) rfl ?_
 unfold a8B;refine zF ?_
 refine zY (aN om (aN fm (aN hf0 (aN ox0 fx0)))) ?_
 refine U2 [0,1,2] 0 120 (fun i f s=>f 7=.int .i64 (i:Int)/\∃L E,Rp (f 6) 4 (a1n L) E/\Hp s E [(0,[m.dt,.int .i64 m.g,m.dc,m.dv,m.dp,m.ds,.bool m.b])]/\a0E mo mo.ample L i/\i<=L.length/\L.length<=120) (.mk rfl) (by omega) ⟨rfl,[(x0,mo.fst)],[(1,a40 (x0,mo.fst))],?_,?_,a0E.start rfl hx0.f,by simp,by simp⟩ ?_
 ·exact .inr ⟨1,rfl,by simp [a1n],by simp [a1n]⟩
 ·exact Hp.pushW (s:=k4.empty.push (.cells [m.dt,.int .i64 m.g,m.dc,m.dv,m.dp,m.ds,.bool m.b])) (W:=[]) ⟨List.nodup_nil,by simp,by simp [Has],by simp [Has];simp (disch:=(first|exact Rf.mk rfl|with_reducible assumption|omega|((repeat (first|rw [nP]|rw [nS]|rw [M3]))<;>omega)|decide)) only [go_sem,↓reduceIte]⟩ _
 rintro i f s hi ⟨hE,L,E,hr,hp,hS,hiL,hL⟩
 have g0:=hp.rh
 obtain ⟨id,e1,rfl⟩:=hr.arr (by rw [a26];exact a7I hS)
 rw [a26] at e1
 have hr0:=hr
 rw [e1] at hr0
 have gi:=hp.hd
 by_cases ci:i<L.length
 rotate_left
 ·refine zY (aN hE (aN e1 ci)) ?_
  exact ⟨_,rfl,false,true,rfl,hS.none ci hL⟩
 have hx:=a7t ho hf (fun _ _=>a3w) hS ci
 have hrch:=hS.rch _ (a7v ci)
 generalize hqe:qAt L i=q at *
 obtain ⟨x,st⟩:=q
 simp only at hx hrch
 have fx:=a0D hx.f
 have ox:=hx.f.ones
 have hb:=b10 hm ho hx
 cases cb:mo.badS st
 rotate_left
 ·rw [cb] at hb
  refine zY (aN hE (aN e1 (aN ci (aN g0 (aN gi (aN om (aN fm (aN fx (aN ox (aN hqe hb)))))))))) ?_
  exact ⟨_,rfl,true,true,rfl,hS.bad ci (by rw [hqe];exact cb)⟩
 rw [cb] at hb
 obtain ⟨dm,hsm,hfl⟩:=b69 hm ho hf hq hx
 obtain ⟨dn,hmv,hfn⟩:=a7N hm ho hx
 have hmv:=S5 hmv
 have pn:=FL.pz hfn
 have hml:=c2L ho (st:=st)
 have hmn:=a4H ho (st:=st)
 have pm:=FL.pz hfl
 refine zY (aN hE (aN e1 (aN ci (aN g0 (aN gi (aN om (aN fm (aN fx (aN ox (aN hqe (aN hb hsm))))))))))) ?_
 refine U2 [0,1,2,7,8,19,27] 0 (mo.ample st).length (fun j f s=>f 9=.int .i64 (j:Int)/\∃L' E',Rp (f 6) 4 (a1n L') E'/\Hp s E' [(0,[m.dt,.int .i64 m.g,m.dc,m.dv,m.dp,m.ds,.bool m.b])]/\a0E mo mo.ample L' i/\i<L'.length/\qAt L' i=(x,st)/\L'.length<=120/\∀j',j'<j->mo.doS st (S9 (mo.ample st) j')∈L'.map Prod.snd) (.mk rfl) (by omega) ⟨rfl,L,_,hr0,hp,hS,ci,hqe,hL,fun j' h=>by omega⟩ ?_
 clear hr0 hr hp g0 gi e1 hS hqe hL hiL
 rintro j f s hj ⟨hJ,L2,E2,hr,hp,hS,ci2,hqe,hL,hall⟩
 have g0:=hp.rh
 obtain ⟨id,e1,rfl⟩:=hr.arr (by rw [a26];exact a7I hS)
 rw [a26] at e1
 have hr0:=hr
 rw [e1] at hr0
 have gi:=hp.hd
 by_cases cj:j<(mo.ample st).length
 rotate_left
 ·refine zY (aN hJ (aN cj hfl)) ?_
  refine ⟨by omega,L2,_,hr,hp,hS.next (by rw [hqe];exact cb) (fun v hv=>?_),by omega,hL⟩
  rw [hqe] at hv ⊢
  simp only at hv ⊢
  obtain ⟨j',hj',rfl⟩:=List.getElem_of_mem hv
  rw [<- a3K hj']
  exact hall j' (by omega)
 have hvm:=a63 cj
 have pv:PZ (.agg [.int .i64 ((S9 (mo.ample st) j).kind:Int),.int .i64 ((S9 (mo.ample st) j).proc:Int),.int .i64 ((S9 (mo.ample st) j).edge:Int),.int .i64 ((S9 (mo.ample st) j).chan:Int)]):=b4I
 have ham:=c0w (v:=S9 (mo.ample st) j) hfn (by omega)
 rw [decide_eq_true (a3w hvm)] at ham
 obtain ⟨y,hdo,hy⟩:=b4i hm ho hf hx (a79 (a3w hvm))
 have hyr:=hrch.step hvm
 generalize ht:mo.doS st (S9 (mo.ample st) j)=t at *
 have oy:=hy.f.ones
 have fy:=a0D hy.f
 have hp2:=hp.fr (a2m (z:=.cells [.nils,.nils,.nils,.int .i64 0]) (o:=.cells [y.da,y.dv,y.dc,.int .i64 t.hold]))
 have l0:=M7 g0
 have li:=M7 gi
 refine zY (aN hJ (aN e1 (aN cj (aN hfl (aN g0 (aN gi (aN ci2 (aN hqe (aN om (aN fm (aN fx (aN ox (aN pv (aN oy (aN hmv (aN pn (aN ham hdo))))))))))))))))) ?_
 generalize hs3:(s.push (.cells [.nils,.nils,.nils,.int .i64 0])).set s.next (some (.cells [y.da,y.dv,y.dc,.int .i64 t.hold]))=s3 at *
 have g14:s3.get s.next=some (.cells [y.da,y.dv,y.dc,.int .i64 t.hold]):=by rw [<- hs3];exact S0 (by simp)
 have gi3:=hp2.hd
 have g03:=hp2.rh
 refine a1F [0,1,2,4,5,6,7,8,9,10,19,27,37,51,78,82] (fun f s'=>f 11=.bool (decide (t∈L2.map Prod.snd))/\s'=s3) ?_ ?_
 ·refine U2 [0,1,2,4,5,6,7,8,9,10,19,27,37,51,78,82] 0 L2.length (fun k f s'=>f 12=.int .i64 (k:Int)/\f 11=.bool (decide (t∈(L2.take k).map Prod.snd))/\s'=s3) (.mk rfl) (by omega) ⟨rfl,by rw [List.take_zero,List.map_nil,decide_eq_false List.not_mem_nil];rfl,rfl⟩ ?_
  rintro k f s' hk ⟨hI,hK,rfl⟩
  by_cases ck:k<L2.length
  rotate_left
  ·obtain rfl:k=L2.length:=by omega
   rw [List.take_length] at hK
   exact zZ (aN hI (aN hK (aN ck e1)))
  by_cases cm:t∈(L2.take k).map Prod.snd
  ·rw [decide_eq_true cm] at hK
   refine zY (aN hI (aN hK (aN ck e1))) ?_
   have:t∈L2.map Prod.snd:=by
    obtain ⟨q,hq,rfl⟩:=List.mem_map.1 cm
    exact List.mem_map.2 ⟨q,List.mem_of_mem_take hq,rfl⟩
   rw [decide_eq_true this]
  ·rw [decide_eq_false cm] at hK
   have hxk:=a7t ho hf (fun _ _=>a3w) hS ck
   have hsq:=a9V ho hxk hy
   have hmt:=b1T ck t
   generalize hqk:qAt L2 k=qk at *
   obtain ⟨xk,tk⟩:=qk
   simp only at hsq hmt hxk
   have fk:=a0D hxk.f
   have ok:=hxk.f.ones
   refine zY (aN hI (aN hK (aN ck (aN e1 (aN gi3 (aN g14 (aN hqk (aN ok (aN oy (aN fk (aN fy hsq))))))))))) ?_
   congr 1
   apply propext
   rw [hmt]
   exact ⟨fun h=>.inr h,fun h=>h.resolve_left cm⟩
 rintro f s' ⟨hK,rfl⟩
 by_cases hin:t∈L2.map Prod.snd
 ·rw [decide_eq_true hin] at hK
  refine zY hK ?_
  refine ⟨by omega,L2,_,hr0,hp2,hS,ci2,hqe,hL,fun j' hj'=>?_⟩
  by_cases e:j'=j
  ·rw [e,ht];exact hin
  ·exact hall j' (by omega)
 rw [decide_eq_false hin] at hK
 by_cases c120:L2.length=120
 ·have c':(L2.length:Int)=120:=by omega
  refine zY (aN hK (aN e1 c')) ?_
  exact ⟨_,rfl,false,false,rfl,.inr (.inr ⟨rfl,rfl⟩)⟩
 have c':¬ (L2.length:Int)=120:=by omega
 refine zY (aN hK (aN e1 (aN c' (aN g14 (aN oy fy))))) ?_
 refine b2M (y,t) rfl hr0 hp2 (by decide) (by omega) ?_
 rintro d1 s1 E1 hr1 hp1
 refine zY hJ ?_
 refine ⟨cj,L2++[(y,t)],E1,hr1,hp1,hS.app (by omega) hyr hy.f hin,by simp;omega,by rw [a6K (by omega)];exact hqe,by simp;omega,fun j' hj'=>?_⟩
 rw [List.map_append]
 by_cases e:j'=j
 ·rw [e,ht];simp
 ·exact List.mem_append_left _ (hall j' (by omega))
theorem c4y {d0:D} {t:List Nd} (hT:N8 d0 t):EvP vfs 4 [d0] k4.empty fun r _=>r=.bool true:=by
 have haw:Eqc vfs 11 [] (.bool true):=a2w b3G rfl
 have pT:PZ d0:=hT.fl.pz
 have oT:=FL.one hT.fl
 obtain ⟨d',h1,h2⟩:=b6h hT
 rcases h2 with rfl | ⟨m,ps,rfl,hR,hS,hY,hm⟩
 ·refine X8 (vf:=vf4) rfl ?_
  unfold vf4;refine zF ?_
  refine zY (aN haw (aN h1 pT)) ?_
  exact rfl
 have ho:=b6m hR hS hY
 have hf:=b3o hR hY
 have hq:=b4v hR hS
 have hs:=b3V hR hS ho
 generalize V3 t=mo at *
 have om:=hm.ones
 have fm:=a04 hm
 obtain ⟨dx,hx1,a,b,rfl,hab⟩:=c2n hm ho hf
 obtain ⟨dy,hy1,c,e,rfl,hce⟩:=c1d hm ho hf hq
 have hx1:=S5 hx1
 have hy1:=S5 hy1
 unfold N7 at h1
 cases b
 ·refine X8 (vf:=vf4) rfl ?_
  unfold vf4;refine zF ?_
  refine zY (aN haw (aN h1 (aN pT (aN om (aN fm (aN hx1 hy1)))))) ?_
  exact rfl
 cases e
 ·refine X8 (vf:=vf4) rfl ?_
  unfold vf4;refine zF ?_
  refine zY (aN haw (aN h1 (aN pT (aN om (aN fm (aN hx1 hy1)))))) ?_
  exact rfl
 have:=c3D ho hf hq hs hab hce rfl rfl
 subst this
 cases a
 ·refine X8 (vf:=vf4) rfl ?_
  unfold vf4;refine zF ?_
  refine zY (aN haw (aN h1 (aN pT (aN om (aN fm (aN hx1 hy1)))))) ?_
  exact rfl
 ·refine X8 (vf:=vf4) rfl ?_
  unfold vf4;refine zF ?_
  refine zY (aN haw (aN h1 (aN pT (aN om (aN fm (aN hx1 hy1)))))) ?_
  exact rfl
theorem c7c {d0:D} (h0:a4p Ty.tree d0):EvP vfs 4 [d0] k4.empty fun r _=>r=.bool true:=by
 obtain ⟨t,hT⟩:=b3X h0
 exact c4y hT
end Go.Proofs.YtnjlhebkhjcagaaGreat
