/- Texts one behind the other. -/
import Derived.Test.YtnjlhebkhjcagaaGreatZ5
set_option linter.unusedSimpArgs false
set_option linter.unusedVariables false
namespace Go.Proofs.YtnjlhebkhjcagaaGreat
open Go.V
set_option maxRecDepth 100000
set_option maxHeartbeats 4000000
variable {m:MdX} {mo:Mo} {ps:List (Pr×PrD)} {x:StD} {st:Stt}
theorem b6u {x w:Int} (h1:-4294967296<=x) (h2:x<=4294967296) (h3:1<=w) (h4:w<=8):Eqc vfs 38 [.int .i64 x,.int .i64 w] (.int .i64 (N4 x w.toNat)):=a2q (a7D (x:=x) (n:=w) (w:=w.toNat) (by omega) ⟨by omega,by omega⟩) rfl
theorem c5y (hm:MoF m mo ps) (ho:N1 mo) (hf:W6 mo) {d:D} {raw:List Int} (hd:FI d raw) (hraw:∀n∈raw,a0K n):EvP vfs 13 [.agg [m.dt,.int .i64 m.g,m.dc,m.dv,m.dp,m.ds,.bool m.b],d] k4.empty fun r s=>∃cs st,r=.agg cs/\a1D s cs st/\Fit mo st/\st.hold=-1:=by
 have om:=hm.ones
 have hmv:=hm.v
 have hmc:=hm.c
 have hnp:=ho.np
 have hnv:=ho.nv
 have hnc:=ho.nc
 have pd:=a35 hd
 refine Y5 (vf:=b1V) rfl ?_
 unfold b1V;refine zF ?_
 refine zY om ?_
 refine a2z (b5N hm ho) (by simp (disch:=(first|exact Rf.mk rfl|with_reducible assumption|omega|((repeat (first|rw [nP]|rw [nS]|rw [M3]))<;>omega)|decide)) only [go_sem,↓reduceIte]) ?_
 rintro r s1 ⟨⟨dA,dV,dC,EA,EV,EC,rfl,hrA,hrV,hrC,hp,hw⟩,fr⟩
 have l1:=fr.1
 simp only [k4.next_push,M3,Nat.reduceAdd] at l1 hw
 have g0:s1.get 0=some (.cells [m.dt,.int .i64 m.g,m.dc,m.dv,m.dp,m.ds,.bool m.b]):=by rw [fr.2 0 (by simp [M3]) (by simp)];simp (disch:=(first|exact Rf.mk rfl|with_reducible assumption|omega|((repeat (first|rw [nP]|rw [nS]|rw [M3]))<;>omega)|decide)) only [go_sem,↓reduceIte]
 have g1:s1.get 1=some (.cells [.nils,.nils,.nils,.int .i64 0]):=by rw [fr.2 1 (by simp [M3]) (by simp)];simp (disch:=(first|exact Rf.mk rfl|with_reducible assumption|omega|((repeat (first|rw [nP]|rw [nS]|rw [M3]))<;>omega)|decide)) only [go_sem,↓reduceIte]
 have hp1:=((hp.addR1 g0 fun w h=>by have:=hw w h;omega).addW g1 (fun w h=>by have:=hw w h;omega) (by simp)).newW (.cells [.nils,.nils,.nils,.int .i64 0]) [dA,dV,dC,.int .i64 (-1)]
 have o1:=hrA.one
 have o2:=hrV.one
 have o3:=hrC.one
 refine zY (aN o1 (aN o2 o3)) ?_
 generalize hS:(s1.push (.cells [.nils,.nils,.nils,.int .i64 0])).set s1.next (some (.cells [dA,dV,dC,.int .i64 (-1)]))=s2 at *
 generalize s1.next=p at *
 clear hp hw g0 g1 hS fr
 refine a1c [0,1,2,4,5,8,9,10,11,40,63,80] (fun f s'=>f 6=.int .i64 (mo.procs.length:Int)/\∃A EA,A.length=mo.procs.length/\(∀j,j<mo.procs.length->nAt A j<(pAt mo.procs j).places)/\Rp dA 1 (P7 A) EA/\Hp s' ((p,[dA,dV,dC,.int .i64 (-1)])::(1,[.nils,.nils,.nils,.int .i64 0])::(EA++EV++EC)) [(0,[m.dt,.int .i64 m.g,m.dc,m.dv,m.dp,m.ds,.bool m.b])]) ?_ ?_
 ·refine S2 [0,1,2,4,5,8,9,10,11,40,63,80] 0 mo.procs.length (fun i f s'=>f 7=.int .i64 (i:Int)/\f 6=.int .i64 (i:Int)/\∃A EA,A.length=mo.procs.length/\(∀j,j<mo.procs.length->nAt A j<(pAt mo.procs j).places)/\Rp dA 1 (P7 A) EA/\Hp s' ((p,[dA,dV,dC,.int .i64 (-1)])::(1,[.nils,.nils,.nils,.int .i64 0])::(EA++EV++EC)) [(0,[m.dt,.int .i64 m.g,m.dc,m.dv,m.dp,m.ds,.bool m.b])]) (.mk rfl) (by omega) ⟨rfl,rfl,_,EA,by simp,fun j hj=>?_,hrA,hp1⟩ ?_
  ·have:=(ho.pr _ (V1 hj)).inv.two
   rw [a2O (by simpa using hj),List.getElem_replicate];omega
  rintro i f s3 hi ⟨hE7,hE6,A,EA,hA,hfit,hr,hp⟩
  have g0:=hp.rh
  have gp:=hp.hd
  have lA:=hr.len
  rw [a4M,hA] at lA
  by_cases ci:i<mo.procs.length
  ·obtain ⟨a,e1,e2⟩:=a9H hr (by rw [a4M];omega)
   rw [a4M,hA] at e1
   rw [a6X] at e2
   subst e2
   have ga:=hp.tl.tl.hd
   have pa:p≠a:=Hp.ne (A:=[]) (B:=[(1,[.nils,.nils,.nils,.int .i64 0])]) (b:=(a,a0d A)) hp
   have hpl:=(ho.pr _ (V1 ci)).inv.two
   have hpl2:=(ho.pr _ (V1 ci)).pl
   obtain ⟨z,hz,hzb⟩:=a7r hd hraw (k:=i) (n:=(pAt mo.procs i).places) (by omega) (by omega) (by omega)
   have iA:i<A.length:=by omega
   rw [e1] at gp hp hr o1 ⊢
   refine zY (aN hE7 (aN hE6 (aN ci (aN g0 (aN gp (aN om (aN o2 (aN o3 (aN ga (aN hzb iA)))))))))) ?_
   have hn0:0<(P7 (A.set i z)).length:=by simp;omega
   have hrp:=b4n (a:=a) hn0
   rw [a4M,List.length_set,hA,a6X] at hrp
   refine ⟨A.set i z,_,by simp [hA],fun j hj=>?_,hrp,Hp.set (A:=[(p,_),(1,[.nils,.nils,.nils,.int .i64 0])]) hp (a0d (A.set i z))⟩
   rw [a4j iA]
   split
   ·rename_i e;subst e;exact hz
   ·exact hfit j hj
  ·obtain rfl:i=mo.procs.length:=by omega
   refine zY (aN hE7 (aN hE6 (aN ci (aN g0 (aN gp (aN om (aN o1 (aN o2 (aN o3 lA))))))))) ?_
   exact ⟨A,EA,hA,hfit,hr,hp⟩
 ·rintro f s3 ⟨hE6,A,EA,hA,hfit,hrA,hp⟩
  refine zY hE6 ?_
  refine a1c [0,1,2,4,5,7,9,10,11,18,63,80] (fun f s'=>f 6=.int .i64 ((mo.procs.length+mo.vars.length:Nat):Int)/\∃V EV,V.length=mo.vars.length/\(∀j,j<mo.vars.length->N4 (zAt V j) (vAt mo.vars j).width.toNat=zAt V j)/\Rp dV 1 (Y1 V) EV/\Hp s' ((p,[dA,dV,dC,.int .i64 (-1)])::(1,[.nils,.nils,.nils,.int .i64 0])::(EA++EV++EC)) [(0,[m.dt,.int .i64 m.g,m.dc,m.dv,m.dp,m.ds,.bool m.b])]) ?_ ?_
  ·refine S2 [0,1,2,4,5,7,9,10,11,18,63,80] 0 mo.vars.length (fun i f s'=>f 8=.int .i64 (i:Int)/\f 6=.int .i64 ((mo.procs.length+i:Nat):Int)/\∃V EV,V.length=mo.vars.length/\(∀j,j<mo.vars.length->N4 (zAt V j) (vAt mo.vars j).width.toNat=zAt V j)/\Rp dV 1 (Y1 V) EV/\Hp s' ((p,[dA,dV,dC,.int .i64 (-1)])::(1,[.nils,.nils,.nils,.int .i64 0])::(EA++EV++EC)) [(0,[m.dt,.int .i64 m.g,m.dc,m.dv,m.dp,m.ds,.bool m.b])]) (.mk rfl) (by omega) ⟨rfl,rfl,mo.vals,EV,by simp [Mo.vals],fun j hj=>?_,hrV,hp⟩ ?_
   ·rw [a7K hj];exact (hf.vr _ (a3x hj)).2.2
   clear hrV hp
   rintro i f s4 hi ⟨hE8,hE6,V,EV,hV,hfitV,hr,hp⟩
   have g0:=hp.rh
   have gp:=hp.hd
   have lV:=hr.len
   rw [a5s,hV] at lV
   by_cases ci:i<mo.vars.length
   ·obtain ⟨a,e1,e2⟩:=a9H hr (by rw [a5s];omega)
    rw [a5s,hV] at e1
    rw [a4W] at e2
    subst e2
    have hp':Hp s4 ((p,[dA,dV,dC,.int .i64 (-1)])::((1,[.nils,.nils,.nils,.int .i64 0])::EA)++(a,O6 V)::EC) [(0,[m.dt,.int .i64 m.g,m.dc,m.dv,m.dp,m.ds,.bool m.b])]:=by simpa using hp
    have ga:=hp'.w (a,O6 V) (by simp)
    have pa:p≠a:=Hp.ne (A:=[]) (B:=(1,[.nils,.nils,.nils,.int .i64 0])::EA) (b:=(a,O6 V)) hp'
    obtain ⟨z,hz,hzb⟩:=a7r hd hraw (k:=mo.procs.length+i) (n:=256) (by omega) (by omega) (by omega)
    have hzb:Eqc vfs 37 [d,.int .i64 ((mo.procs.length+i:Nat):Int),.int .i64 256] (.int .i64 (z:Int)):=hzb
    have iV:i<V.length:=by omega
    have hw:=hf.vr _ (a3x ci)
    have hwt:=b6u (x:=(z:Int)) (w:=(vAt mo.vars i).width) (by omega) (by omega) hw.1 hw.2.1
    rw [e1] at gp hp hp' hr o2 ⊢
    refine zY (aN hE8 (aN hE6 (aN ci (aN g0 (aN gp (aN om (aN o1 (aN o3 (aN ga (aN hzb (aN iV hwt))))))))))) ?_
    have hn0:0<(Y1 (V.set i (N4 (z:Int) (vAt mo.vars i).width.toNat))).length:=by simp;omega
    have hrp:=b4n (a:=a) hn0
    rw [a5s,List.length_set,hV,a4W] at hrp
    refine ⟨by rw [Nat.add_assoc],V.set i (N4 (z:Int) (vAt mo.vars i).width.toNat),_,by simp [hV],fun j hj=>?_,hrp,?_⟩
    ·rw [a5k iV]
     split
     ·rename_i e;subst e;exact a8h (by omega)
     ·exact hfitV j hj
    ·have:=Hp.set (A:=(p,[dA,.arr a 0 mo.vars.length 1,dC,.int .i64 (-1)])::(1,[.nils,.nils,.nils,.int .i64 0])::EA) (B:=EC) hp' (O6 (V.set i (N4 (z:Int) (vAt mo.vars i).width.toNat)))
     simpa using this
   ·obtain rfl:i=mo.vars.length:=by omega
    refine zY (aN hE8 (aN hE6 (aN ci (aN g0 (aN gp (aN om (aN o1 (aN o2 (aN o3 lV))))))))) ?_
    exact ⟨V,EV,hV,hfitV,hr,hp⟩
  ·clear hrV hp
   rintro f s4 ⟨hE6,V,EV,hV,hfitV,hrV,hp⟩
   refine zY hE6 ?_
   refine a1c [0,1,2,4,5,7,8,18,40] (fun f s'=>∃W st,Hp s' ((p,[dA,dV,dC,.int .i64 (-1)])::(1,[.nils,.nils,.nils,.int .i64 0])::W) [(0,[m.dt,.int .i64 m.g,m.dc,m.dv,m.dp,m.ds,.bool m.b])]/\(∀s,Has s W->a1D s [dA,dV,dC,.int .i64 (-1)] st)/\Fit mo st/\st.hold=-1) ?_ ?_
   rotate_left
   ·rintro f s5 ⟨W,st,hp,hS,hF,hh⟩
    have gp:=hp.hd
    have g1:=hp.tl.hd
    have l1:=M7 g1
    refine zY (aN gp (aN g1 (aN o1 (aN o2 o3)))) ?_
    refine Z8 ⟨_,st,rfl,hS _ ?_,hF,hh⟩
    exact (Hp.set (A:=[]) hp.tl [dA,dV,dC,.int .i64 (-1)]).tl.w
   have hfit0:∀L:List (List Int),L.length=mo.chans.length->(∀j,j<mo.chans.length->((cAt L j).length:Int)<=(R7 mo.chans j).room/\∀n∈cAt L j,N4 n (R7 mo.chans j).width.toNat=n)->Fit mo ⟨A,V,L,-1⟩:=fun L hL h=>a0F.1 ⟨hA,hV,hL,hfit,hfitV,fun j hj=>(h j hj).1,fun j hj=>(h j hj).2,by simp only;omega⟩
   by_cases h0:mo.chans.length=0
   ·have g0:=hp.rh
    have gp:=hp.hd
    have e1:a1n mo.chans.length=[]:=by rw [h0];rfl
    rw [e1] at hrC
    have lC:=hrC.len
    refine S2 [0,1,2,4,5,7,8,18,40] 0 0 (fun i f s'=>f 9=.int .i64 (i:Int)/\s'=s4) (.mk rfl) (by omega) ⟨rfl,rfl⟩ ?_
    rintro i f s5 hi ⟨hE9,rfl⟩
    obtain rfl:i=0:=by omega
    refine zY (aN hE9 (aN g0 (aN gp (aN om (aN o1 (aN o2 (aN o3 lC))))))) ?_
    refine ⟨EA++EV++EC,⟨A,V,[],-1⟩,hp,fun s hs=>?_,hfit0 [] (by simp [h0]) fun j hj=>by omega,rfl⟩
    exact a1D.mk (st:=⟨A,V,[],-1⟩) [] (hrA.sn fun e he=>hs e (by simp [he])) (hrV.sn fun e he=>hs e (by simp [he])) (hrC.sn fun e he=>hs e (by simp [he])) (.inl rfl) rfl fun j hj=>by simp at hj
   ·have lC:=hrC.len
    obtain ⟨c,e1,e2⟩:=a9H hrC (by simp [a1n];omega)
    rw [c5M] at e2
    rw [show (a1n mo.chans.length).length=mo.chans.length by simp [a1n]] at e1 lC
    subst e2
    subst e1
    clear hrC lC
    refine S2 [0,1,2,4,5,7,8,18,40] 0 mo.chans.length (fun i f s'=>f 9=.int .i64 (i:Int)/\∃ (k:Nat) (L:List (List Int)) (qs:List D) (ED:Hs),f 6=.int .i64 (k:Int)/\k<=20+4*i/\L.length=mo.chans.length/\qs.length=mo.chans.length/\(∀j,j<mo.chans.length->i<=j->dAt qs j=.nils/\cAt L j=[])/\(∀j,j<mo.chans.length->∃E,Rp (dAt qs j) 1 (Y1 (cAt L j)) E/\∀e∈E,e∈ED)/\(∀j,j<mo.chans.length->((cAt L j).length:Int)<=(R7 mo.chans j).room/\∀n∈cAt L j,N4 n (R7 mo.chans j).width.toNat=n)/\Hp s' ((p,[dA,dV,.arr c 0 mo.chans.length 1,.int .i64 (-1)])::(1,[.nils,.nils,.nils,.int .i64 0])::(EA++EV++(c,qs)::ED)) [(0,[m.dt,.int .i64 m.g,m.dc,m.dv,m.dp,m.ds,.bool m.b])]) (.mk rfl) (by omega) ⟨rfl,_,List.replicate mo.chans.length [],List.replicate mo.chans.length .nils,[],rfl,by omega,by simp,by simp,fun j hj _=>⟨b3a hj,a6s⟩,fun j hj=>⟨[],by rw [b3a hj,a6s];exact .inl ⟨rfl,rfl,rfl⟩,by simp⟩,fun j hj=>by
     rw [a6s]
     have:=hf.ch _ (a25 hj)
     exact ⟨by simp;omega,by simp⟩,hp⟩ ?_
    clear hp
    rintro i f s5 hi ⟨hE9,k,L,qs,ED,hE6,hk,hL,hq,hnil,hrp,hfl,hp⟩
    have g0:=hp.rh
    have gp:=hp.hd
    have hp':Hp s5 ((p,[dA,dV,.arr c 0 mo.chans.length 1,.int .i64 (-1)])::((1,[.nils,.nils,.nils,.int .i64 0])::(EA++EV))++(c,qs)::ED) [(0,[m.dt,.int .i64 m.g,m.dc,m.dv,m.dp,m.ds,.bool m.b])]:=by simpa using hp
    have gc:=hp'.w (c,qs) (by simp)
    by_cases ci:i<mo.chans.length
    ·have hw:=hf.ch _ (a25 ci)
     have hro:∃r:Nat,(R7 mo.chans i).room=(r:Int):=⟨(R7 mo.chans i).room.toNat,by omega⟩
     obtain ⟨r,hr⟩:=hro
     obtain ⟨z,hz,hzb⟩:=a7r hd hraw (k:=k) (n:=r+1) (by omega) (by omega) (by omega)
     obtain ⟨hn1,hn2⟩:=hnil i ci (Nat.le_refl _)
     refine zY (aN hE9 (aN hE6 (aN ci (aN g0 (aN gp (aN om (aN o1 (aN o2 (aN hr hzb))))))))) ?_
     have iq:i<qs.length:=by omega
     have iL:i<L.length:=by omega
     refine S2 [0,1,2,4,5,7,8,9,10,18,40,63] 0 z (fun j f s'=>f 11=.int .i64 (j:Int)/\f 6=.int .i64 ((k+1+j:Nat):Int)/\∃ (l:List Int) (q:D) (E:Hs),l.length=j/\(∀n∈l,N4 n (R7 mo.chans i).width.toNat=n)/\Rp q 1 (Y1 l) E/\Hp s' ((p,[dA,dV,.arr c 0 mo.chans.length 1,.int .i64 (-1)])::(1,[.nils,.nils,.nils,.int .i64 0])::(EA++EV++(c,qs.set i q)::(E++ED))) [(0,[m.dt,.int .i64 m.g,m.dc,m.dv,m.dp,m.ds,.bool m.b])]) (.mk rfl) (by omega) ⟨rfl,rfl,[],.nils,[],rfl,by simp,.inl ⟨rfl,rfl,rfl⟩,?_⟩ ?_
     ·have e:qs.set i .nils=qs:=by
       rw [<- hn1,b0p iq];simp
      rw [e];exact hp
     rintro j f s6 hj ⟨hE11,hE6,l,q,E,hl,htr,hr1,hp⟩
     clear hp' gc
     have g0:=hp.rh
     have gp:=hp.hd
     have hp':Hp s6 ((p,[dA,dV,.arr c 0 mo.chans.length 1,.int .i64 (-1)])::((1,[.nils,.nils,.nils,.int .i64 0])::(EA++EV))++(c,qs.set i q)::(E++ED)) [(0,[m.dt,.int .i64 m.g,m.dc,m.dv,m.dp,m.ds,.bool m.b])]:=by simpa using hp
     have gc:=hp'.w (c,qs.set i q) (by simp)
     have pc:p≠c:=Hp.ne (A:=[]) (B:=(1,[.nils,.nils,.nils,.int .i64 0])::(EA++EV)) (b:=(c,qs.set i q)) hp'
     have lp:=M7 gp
     have lc:=M7 gc
     have oq:=hr1.one
     by_cases cj:j<z
     ·obtain ⟨y,hy,hyb⟩:=a7r hd hraw (k:=k+1+j) (n:=256) (by omega) (by omega) (by omega)
      have hyb:Eqc vfs 37 [d,.int .i64 ((k+1+j:Nat):Int),.int .i64 256] (.int .i64 (y:Int)):=hyb
      have hwt:=b6u (x:=(y:Int)) (w:=(R7 mo.chans i).width) (by omega) (by omega) hw.2.2.1 hw.2.2.2
      have iq2:i<(qs.set i q).length:=by simpa using iq
      have eq1:(qs.set i q)[i]?=some q:=by simp [iq]
      have eq2:i+1<=qs.length:=by omega
      have nE:∀w∈(1,[.nils,.nils,.nils,.int .i64 0])::(EA++EV)++(c,qs.set i q)::(E++ED),w.1≠p:=Hp.neAll hp'
      have nEp:a2c p (E.map Prod.fst):=Hp.notIn fun e he=>nE e (by simp [he])
      have nEc:a2c c (E.map Prod.fst):=Hp.notIn fun e he=>by
       have h1:Hp s6 ((c,qs.set i q)::(E++ED)) [(0,[m.dt,.int .i64 m.g,m.dc,m.dv,m.dp,m.ds,.bool m.b])]:=hp'.sub (List.sublist_append_right _ _) fun _ h=>h
       exact h1.neAll e (by simp [he])
      refine zY (aN hE9 (aN hE11 (aN hE6 (aN ci (aN cj (aN g0 (aN gp (aN gc (aN om (aN o1 (aN o2 (aN oq (aN hq (aN eq1 (aN hyb hwt))))))))))))))) ?_
      have hp2:Hp s6 (((p,[dA,dV,.arr c 0 mo.chans.length 1,.int .i64 (-1)])::(1,[.nils,.nils,.nils,.int .i64 0])::(EA++EV++[(c,qs.set i q)]))++E++ED) [(0,[m.dt,.int .i64 m.g,m.dc,m.dv,m.dp,m.ds,.bool m.b])]:=by simpa using hp
      refine b6I (E:=E) hr1 hp2 rfl (a6G _) (by decide) (by simp;omega) (by simp (disch:=(first|exact Rf.mk rfl|with_reducible assumption|omega|((repeat (first|rw [nP]|rw [nS]|rw [M3]))<;>omega)|decide)) only [go_sem,↓reduceIte,nEp,nEc]) ?_
      rintro s7 hr7 hp7 l7 u7
      have gp:=hp7.hd
      have gc:=hp7.w (c,qs.set i q) (by simp)
      simp (disch:=(first|exact Rf.mk rfl|with_reducible assumption|omega|((repeat (first|rw [nP]|rw [nS]|rw [M3]))<;>omega)|decide)) only [go_sem,↓reduceIte,hE9,hE11,hE6,ci,cj,gp,gc,hq,List.length_set,a5H,List.set_set]
      refine ⟨by rw [Nat.add_assoc],l++[N4 (y:Int) (R7 mo.chans i).width.toNat],_,_,by simp [hl],fun n hn=>?_,by simpa [Y1] using hr7,?_⟩
      ·rcases List.mem_append.1 hn with h | h
       ·exact htr n h
       ·simp only [List.mem_singleton] at h;subst h;exact a8h (by omega)
      ·have h7:Hp s7 (((p,[dA,dV,.arr c 0 mo.chans.length 1,.int .i64 (-1)])::(1,[.nils,.nils,.nils,.int .i64 0])::(EA++EV))++(c,qs.set i q)::((s6.next+1,(Y1 l++[[D.int IntKind.i64 (N4 (y:Int) (R7 mo.chans i).width.toNat)]]).flatten)::ED)) [(0,[m.dt,.int .i64 m.g,m.dc,m.dv,m.dp,m.ds,.bool m.b])]:=by simpa using hp7
       have:=h7.set (qs.set i (.arr (s6.next+1) 0 (l.length+1) 1))
       simpa [Y1] using this
     ·obtain rfl:j=z:=by omega
      refine zY (aN hE9 (aN hE11 (aN hE6 (aN ci cj)))) ?_
      refine ⟨_,L.set i l,qs.set i q,E++ED,rfl,by omega,by simp [hL],by simp [hq],fun b hb hib=>?_,fun b hb=>?_,fun b hb=>?_,hp⟩
      ·rw [a8U iq,a5n iL,if_neg (by omega),if_neg (by omega)]
       exact hnil b hb (by omega)
      ·rw [a8U iq,a5n iL]
       by_cases hbi:b=i
       ·rw [if_pos hbi,if_pos hbi]
        exact ⟨E,hr1,fun e he=>by simp [he]⟩
       ·rw [if_neg hbi,if_neg hbi]
        obtain ⟨E2,h1,h2⟩:=hrp b hb
        exact ⟨E2,h1,fun e he=>by simp [h2 e he]⟩
      ·rw [a5n iL]
       by_cases hbi:b=i
       ·rw [if_pos hbi]
        subst hbi
        exact ⟨by omega,htr⟩
       ·rw [if_neg hbi]
        exact hfl b hb
    ·obtain rfl:i=mo.chans.length:=by omega
     refine zY (aN hE9 (aN hE6 (aN ci (aN g0 (aN gp (aN om (aN o1 o2))))))) ?_
     refine ⟨EA++EV++(c,qs)::ED,⟨A,V,L,-1⟩,hp,fun s hs=>?_,hfit0 L hL hfl,rfl⟩
     refine a1D.mk (st:=⟨A,V,L,-1⟩) qs (hrA.sn fun e he=>hs e (by simp [he])) (hrV.sn fun e he=>hs e (by simp [he])) (.inr (.inl ⟨c,by simp [hq],?_⟩)) (.inr ⟨c,by simp [hq]⟩) (by simp [hq,hL]) fun j hj=>?_
     ·rw [a76];exact hs (c,qs) (by simp)
     ·obtain ⟨E,h1,h2⟩:=hrp j (by omega)
      exact h1.chr fun e he=>hs e (by simp [h2 e he])
end Go.Proofs.YtnjlhebkhjcagaaGreat
namespace Go.V
variable {fs:FuncId->Option M5}
end Go.V
namespace Go.V
def Mo.varG (mo:Mo) (w:ByteArray):Nat:=if idxB ((mo.vars.take mo.globals).map Vr.name) w<mo.globals then 2 ^ idxB ((mo.vars.take mo.globals).map Vr.name) w else 0
def Mo.askF (mo:Mo):Ft:=mo.safe.foldl (fun f k=>X7 mo.tree (mo.chans.map Ch.name) mo.varG (mo.tree.length+1) k f) ⟨0,0,0,0,0,false⟩
end Go.V
namespace Go.V
structure Inc (f g:Ft):Prop where
 r:∀b,f.reads.testBit b=true->g.reads.testBit b=true
 z:∀b,f.sizes.testBit b=true->g.sizes.testBit b=true
theorem Inc.refl (f:Ft):Inc f f:=⟨fun _ h=>h,fun _ h=>h⟩
theorem Inc.trans {f g h:Ft} (a:Inc f g) (b:Inc g h):Inc f h:=⟨fun x k=>b.r x (a.r x k),fun x k=>b.z x (a.z x k)⟩
theorem c2u {ch:List ByteArray} {vb:ByteArray->Nat} {x:Nd} {f:Ft}:Inc f (V5 ch vb x f):=by
 unfold V5
 split
 ·exact ⟨fun b h=>by simp only [Nat.testBit_or,h,Bool.true_or],fun _ h=>h⟩
 split
 ·exact ⟨fun _ h=>h,fun b h=>by simp only [Nat.testBit_or,h,Bool.true_or]⟩
 split
 ·exact ⟨fun _ h=>h,fun _ h=>h⟩
 ·exact .refl _
theorem a7C {g:Ft->Nat->Ft} (hg:∀f k,Inc f (g f k)):∀ {l:List Nat} {f:Ft},Inc f (l.foldl g f)
 | [],f=>.refl f
 | k::l,f=>(hg f k).trans (a7C hg (l:=l))
theorem a71 {t:List Nd} {ch:List ByteArray} {vb:ByteArray->Nat}:∀ (n k:Nat) (f:Ft),Inc f (X7 t ch vb n k f)
 | 0,k,f=>.refl f
 | n+1,k,f=>by
   unfold X7
   exact c2u.trans (a7C fun f k=>a71 n k f)
theorem a9J {g:Ft->Nat->Ft} (hg:∀f k,Inc f (g f k)):∀ {l:List Nat} {f:Ft} {k:Nat},k∈l->∃f',Inc (g f' k) (l.foldl g f)
 | x::l,f,k,h=>by
   rcases List.mem_cons.1 h with rfl | h
   ·exact ⟨f,a7C hg (l:=l)⟩
   ·exact a9J hg (l:=l) h
structure a1T (f:Ft) (st st':Stt):Prop where
 r:∀b,f.reads.testBit b=true->zAt st.vars b=zAt st'.vars b
 z:∀b,f.sizes.testBit b=true->(cAt st.chans b).length=(cAt st'.chans b).length
theorem a1T.inc {f g:Ft} {st st':Stt} (h:a1T g st st') (k:Inc f g):a1T f st st':=⟨fun b hb=>h.r b (k.r b hb),fun b hb=>h.z b (k.z b hb)⟩
theorem b1J {t:List Nd} (ht:a0f t) {ch:List ByteArray} {vb:ByteArray->Nat} {look:ByteArray->Option Nat} (hl:∀w v,look w=some v->vb w=2 ^ v) {st st':Stt}:∀ (n k:Nat) (f0:Ft),k<t.length->a0U (nd t k).kind->a1T (X7 t ch vb n k f0) st st'->S8 t ch look st n k=S8 t ch look st' n k
 | 0,k,f0,_,_,_=>rfl
 | n+1,k,f0,hk,hx,ha=>by
   have hno:=ht.node k hk
   obtain ⟨_,hkx⟩:=a57 hno hx
   have hkid:∀i,i<(nd t k).kids.length->S8 t ch look st n ((nd t k).kid i)=S8 t ch look st' n ((nd t k).kid i):=fun i hi=>by
    have hm:=W1 hi
    have hc:=ht.ks hk _ hm
    obtain ⟨f',hf'⟩:=a9J (g:=fun f c=>X7 t ch vb n c f) (fun f c=>a71 n c f) (f:=V5 ch vb (nd t k) f0) hm
    exact b1J ht hl n _ f' hc.2 (hkx i hi) (ha.inc hf')
   have h1:Inc (V5 ch vb (nd t k) f0) (X7 t ch vb (n+1) k f0):=a7C fun f k=>a71 n k f
   have hb:=ha.inc h1
   unfold S8
   simp only
   by_cases q17:(nd t k).kind=17
   ·simp only [q17,if_true]
   simp only [q17,if_false]
   by_cases q18:(nd t k).kind=18
   ·simp only [q18,if_true]
    cases hlk:look ((nd t k).word 0) with
    | none=>rfl
    | some v =>
      have e:zAt st.vars v=zAt st'.vars v:=hb.r v (by
       unfold V5
       rw [if_pos q18]
       simp only [Nat.testBit_or,hl _ _ hlk,Nat.testBit_two_pow_self,Bool.or_true])
      simp only [e]
   simp only [q18,if_false]
   by_cases q19:(nd t k).kind=19
   ·simp only [q19,if_true]
    split
    ·rename_i hi
     have e:=hb.z (idxB ch ((nd t k).word 0)) (by
      unfold V5 chB
      rw [if_neg q18,if_pos q19,if_pos hi]
      simp only [Nat.testBit_or,Nat.testBit_two_pow_self,Bool.or_true])
     rw [e]
    ·rfl
   simp only [q19,if_false]
   by_cases q20:(nd t k).kind=20
   ·have:=(hno.one (by omega)).1
    simp only [q20,if_true,hkid 0 (by omega)]
   simp only [q20,if_false]
   by_cases q21:(nd t k).kind=21
   ·have:=(hno.one (by omega)).1
    simp only [q21,if_true,hkid 0 (by omega)]
   simp only [q21,if_false]
   by_cases q22:(nd t k).kind=22
   ·have:=(hno.bin q22).1
    simp only [q22,if_true,hkid 0 (by omega),hkid 1 (by omega)]
   simp only [q22,if_false]
theorem b8n {p:Pr} {w:ByteArray} {v:Nat} (h:O8 p w=some v):a0B p.names p.vars w=2 ^ v:=by
 unfold O8 at h
 unfold a0B
 split at h
 ·rename_i hi
  simp only [Option.some.injEq] at h
  rw [if_pos hi,h]
 ·cases h
theorem b9e {mo:Mo} {w:ByteArray} {v:Nat} (h:a0t mo w=some v):mo.varG w=2 ^ v:=by
 unfold a0t at h
 unfold Mo.varG
 split at h
 ·rename_i hi
  simp only [Option.some.injEq] at h
  rw [if_pos hi,h]
 ·cases h
theorem c1J (mo:Mo) (p:Pr) (e:Ed):Inc (a3m mo p e) (O5 mo p e)/\Inc (O5 mo p e) (a3m mo p e):=by
 rw [a4Y]
 unfold a3R
 constructor<;>(split;exact ⟨fun _ h=>h,fun _ h=>h⟩;split;exact ⟨fun _ h=>h,fun _ h=>h⟩;split;exact ⟨fun _ h=>h,fun _ h=>h⟩;exact .refl _)
theorem a7B {mo:Mo} (ho:N1 mo) {p:Pr} (hp:a0l mo p) {e:Ed} (he:e∈p.edges) {st st':Stt} (h:a1T (O5 mo p e) st st') (z:Int):mo.ex p st e z=mo.ex p st' e z:=by
 have heo:=hp.inv.ed e he
 unfold Mo.ex
 split
 ·rename_i h0
  have hx:e.act=1∨e.act=2∨e.act=4∨e.act=5:=by
   have:=heo.ex0
   have:=heo.act
   omega
  obtain ⟨n,hn,hn2,hn3⟩:=heo.ex1 hx
  rw [hn,Int.toNat_natCast]
  refine b1J ho.tree (vb:=a0B p.names p.vars) (fun w v h=>b8n h) _ n ⟨0,0,0,0,0,false⟩ hn2 hn3 ?_
  have:=h.inc (c1J mo p e).1
  unfold a3m at this
  rw [if_pos h0,hn,Int.toNat_natCast] at this
  exact this
 ·rfl
def setO {α:Type} (l:List α):Option (Nat×α)->List α
 | none=>l
 | some (i,x)=>l.set i x
theorem b5L {α:Type} {l:List α} {a b:Option (Nat×α)} (h:∀i x j y,a=some (i,x)->b=some (j,y)->i≠j):setO (setO l a) b=setO (setO l b) a:=by
 cases a with
 | none=>rfl
 | some a =>
   cases b with
   | none=>rfl
   | some b=>exact List.set_comm _ _ (h a.1 a.2 b.1 b.2 rfl rfl)
theorem c4Y {l:List Int} {a:Option (Nat×Int)} {k:Nat} (h:∀i x,a=some (i,x)->i≠k):zAt (setO l a) k=zAt l k:=by
 cases a with
 | none=>rfl
 | some a =>
   have:=h a.1 a.2 rfl
   simp only [setO,zAt,List.getD,List.getElem?_set]
   rw [if_neg this]
theorem c7P {l:List (List Int)} {a:Option (Nat×List Int)} {k:Nat} (h:∀i x,a=some (i,x)->i≠k):cAt (setO l a) k=cAt l k:=by
 cases a with
 | none=>rfl
 | some a =>
   have:=h a.1 a.2 rfl
   simp only [setO,cAt,List.getD,List.getElem?_set]
   rw [if_neg this]
def Mo.wV (mo:Mo) (l:List Int) (e:Ed) (n:Int):Option (Nat×Int) :=
 if e.act=1 then some (e.var.toNat,N4 n (vAt mo.vars e.var.toNat).width.toNat)
 else if e.act=3 then some (e.var.toNat,N4 (zAt l 0) (vAt mo.vars e.var.toNat).width.toNat) else none
def Mo.wC (mo:Mo) (l:List Int) (e:Ed) (n:Int):Option (Nat×List Int) :=
 if e.act=2 then some (e.chan.toNat,l++[N4 n (R7 mo.chans e.chan.toNat).width.toNat])
 else if e.act=3 then some (e.chan.toNat,l.drop 1) else none
theorem b8T {mo:Mo} {st:Stt} {e:Ed} {n:Int}:mo.actS st e n=⟨st.at',setO st.vars (mo.wV (cAt st.chans e.chan.toNat) e n),setO st.chans (mo.wC (cAt st.chans e.chan.toNat) e n),st.hold⟩:=by
 unfold Mo.actS Mo.wV Mo.wC
 by_cases a1:e.act=1
 ·simp [a1,setO]
 by_cases a2:e.act=2
 ·simp [a2,setO]
 by_cases a3:e.act=3
 ·simp [a3,setO]
 ·simp [a1,a2,a3,setO]
theorem a2v {mo:Mo} {st:Stt} {i:Nat} {p:Pr} {e:Ed}:mo.edgeS st i p e=⟨st.at'.set i e.to,setO st.vars (mo.wV (cAt st.chans e.chan.toNat) e (mo.ex p st e 0).1),setO st.chans (mo.wC (cAt st.chans e.chan.toNat) e (mo.ex p st e 0).1),-1⟩:=by
 unfold Mo.edgeS
 rw [b8T]
 rfl
theorem a9E {mo:Mo} {p:Pr} (hp:a0l mo p) {e:Ed} (he:e∈p.edges) {l:List Int} {n:Int} {i:Nat} {x:Int} (h:mo.wV l e n=some (i,x)):(O5 mo p e).writes.testBit i=true:=by
 have heo:=hp.inv.ed e he
 rw [a4Y]
 unfold a3R
 unfold Mo.wV at h
 by_cases a1:e.act=1
 ·rw [if_pos a1] at h ⊢
  obtain ⟨v,hv,e1⟩:=heo.v1 (.inl a1)
  simp only [Option.some.injEq,Prod.mk.injEq] at h
  rw [<- h.1,e1,Int.toNat_natCast]
  simp only [a3i,Nat.testBit_two_pow_self]
 rw [if_neg a1] at h ⊢
 split at h
 ·rename_i a3
  rw [if_neg (by omega),if_pos a3]
  obtain ⟨v,hv,e1⟩:=heo.v1 (.inr a3)
  simp only [Option.some.injEq,Prod.mk.injEq] at h
  rw [<- h.1,e1,Int.toNat_natCast]
  simp only [a3i,Nat.testBit_two_pow_self]
 ·cases h
theorem a55 {mo:Mo} {p:Pr} (hp:a0l mo p) {e:Ed} (he:e∈p.edges) (h:e.act=2∨e.act=3):((O5 mo p e).sends ||| (O5 mo p e).recvs).testBit e.chan.toNat=true:=by
 have heo:=hp.inv.ed e he
 rw [a4Y]
 unfold a3R
 obtain ⟨v,e1,hv⟩:=heo.c1 h
 rw [if_neg (by omega)]
 by_cases a2:e.act=2
 ·rw [if_pos a2,e1,Int.toNat_natCast]
  simp only [a3i,Nat.testBit_or,Nat.testBit_two_pow_self,Bool.true_or]
 ·rw [if_neg a2,if_pos (by omega),e1,Int.toNat_natCast]
  simp only [a3i,Nat.testBit_or,Nat.testBit_two_pow_self,Bool.or_true]
theorem b0E {mo:Mo} {e:Ed} {l:List Int} {n:Int} {i:Nat} {x:List Int} (h:mo.wC l e n=some (i,x)):i=e.chan.toNat/\(e.act=2∨e.act=3):=by
 unfold Mo.wC at h
 split at h
 ·rename_i a
  simp only [Option.some.injEq,Prod.mk.injEq] at h
  exact ⟨h.1.symm,.inl a⟩
 split at h
 ·rename_i a
  simp only [Option.some.injEq,Prod.mk.injEq] at h
  exact ⟨h.1.symm,.inr a⟩
 ·cases h
theorem a6j {x y b:Nat} (h:x &&& y=0) (hx:x.testBit b=true):¬ y.testBit b=true:=fun hy=>by
 have:(x &&& y).testBit b=true:=by rw [Nat.testBit_and,hx,hy];rfl
 rw [h] at this
 simp at this
theorem b3l {a b:Ft}:a.apart b=true↔(a.writes &&& (b.reads ||| b.writes)=0/\(a.sends ||| a.recvs) &&& ((b.sends ||| b.recvs) ||| b.sizes)=0)/\(b.writes &&& (a.reads ||| a.writes)=0/\(b.sends ||| b.recvs) &&& ((a.sends ||| a.recvs) ||| a.sizes)=0):=by
 unfold Ft.apart Ft.dist
 simp only [Bool.and_eq_true,Bool.not_eq_true',Bool.or_eq_false_iff,decide_eq_false_iff_not,ne_eq,Decidable.not_not]
theorem c5P {mo:Mo} {st:Stt} {i:Nat} {p:Pr} (hp:a0l mo p) {e:Ed} (he:e∈p.edges) {b:Nat} (hb:¬ (O5 mo p e).writes.testBit b=true):zAt (mo.edgeS st i p e).vars b=zAt st.vars b:=by
 rw [a2v]
 refine c4Y fun j x h hj=>hb ?_
 rw [<- hj]
 exact a9E hp he h
theorem b5q {mo:Mo} {st:Stt} {i:Nat} {p:Pr} (hp:a0l mo p) {e:Ed} (he:e∈p.edges) {b:Nat} (hb:¬ ((O5 mo p e).sends ||| (O5 mo p e).recvs).testBit b=true):cAt (mo.edgeS st i p e).chans b=cAt st.chans b:=by
 rw [a2v]
 refine c7P fun j x h hj=>hb ?_
 obtain ⟨rfl,h2⟩:=b0E h
 rw [<- hj]
 exact a55 hp he h2
theorem b6g {mo:Mo} {st:Stt} {i:Nat} {p:Pr} (hp:a0l mo p) {e:Ed} (he:e∈p.edges) {f:Ft} (h1:(O5 mo p e).writes &&& f.reads=0) (h2:((O5 mo p e).sends ||| (O5 mo p e).recvs) &&& f.sizes=0):a1T f st (mo.edgeS st i p e) :=
 ⟨fun b hb=>(c5P hp he fun hw=>a6j h1 hw hb).symm,fun b hb=>by rw [b5q hp he fun hw=>a6j h2 hw hb]⟩
theorem b8q {mo:Mo} (ho:N1 mo) {st st':Stt} (h:a1T mo.askF st st'):mo.safeS st=mo.safeS st':=by
 unfold Mo.safeS
 rw [Bool.eq_iff_iff,List.all_eq_true,List.all_eq_true]
 have key:∀k∈mo.safe,mo.val (a0t mo) st k=mo.val (a0t mo) st' k:=fun k hk=>by
  obtain ⟨hk1,hk2⟩:=ho.sf k hk
  obtain ⟨f',hf'⟩:=a9J (g:=fun f k=>X7 mo.tree (mo.chans.map Ch.name) mo.varG (mo.tree.length+1) k f) (fun f c=>a71 _ c f) (f:=⟨0,0,0,0,0,false⟩) hk
  exact b1J ho.tree (vb:=mo.varG) (fun w v h=>b9e h) _ k f' hk1 hk2 (h.inc hf')
 constructor
 ·intro h k hk
  rw [<- key k hk];exact h k hk
 ·intro h k hk
  rw [key k hk];exact h k hk
theorem a1T.hold {f:Ft} {st st':Stt} (h:a1T f st st') (z:Int):a1T f st { st' with hold:=z }:=⟨h.r,h.z⟩
theorem a7c {l:List Nat} {i j x:Nat} (h:i≠j):nAt (l.set i x) j=nAt l j:=by
 simp only [nAt,List.getD,List.getElem?_set]
 rw [if_neg h]
structure Apt (f g:Ft):Prop where
 wr:f.writes &&& g.reads=0
 ww:f.writes &&& g.writes=0
 cc:(f.sends ||| f.recvs) &&& (g.sends ||| g.recvs)=0
 cz:(f.sends ||| f.recvs) &&& g.sizes=0
theorem c1B {f g:Ft} (h:f.apart g=true):Apt f g/\Apt g f:=by
 obtain ⟨⟨a,b⟩,c,d⟩:=b3l.1 h
 obtain ⟨a1,a2⟩:=a7n.1 a
 obtain ⟨b1,b2⟩:=a7n.1 b
 obtain ⟨c1,c2⟩:=a7n.1 c
 obtain ⟨d1,d2⟩:=a7n.1 d
 exact ⟨⟨a1,a2,b1,b2⟩,⟨c1,c2,d1,d2⟩⟩
theorem b6J {mo:Mo} (ho:N1 mo) {st:Stt} {i:Nat} {p q:Pr} (hp:a0l mo p) (hq:a0l mo q) {e g:Ed} (he:e∈p.edges) (hg:g∈q.edges) (h:Apt (O5 mo p e) (O5 mo q g)) (z:Int):mo.ex q (mo.edgeS st i p e) g z=mo.ex q st g z :=
 (a7B ho hq hg (b6g hp he h.wr h.cz) z).symm
theorem a73 {mo:Mo} {st:Stt} {i:Nat} {p q:Pr} (hp:a0l mo p) (hq:a0l mo q) {e g:Ed} (he:e∈p.edges) (hg:g∈q.edges) (h:Apt (O5 mo p e) (O5 mo q g)) (ha:g.act=2∨g.act=3):cAt (mo.edgeS st i p e).chans g.chan.toNat=cAt st.chans g.chan.toNat :=
 b5q hp he fun hw=>a6j h.cc hw (a55 hq hg ha)
theorem b5Z {mo:Mo} (ho:N1 mo) {st:Stt} {i j:Nat} {p q:Pr} (hij:i≠j) (hp:a0l mo p) (hq:a0l mo q) {e g:Ed} (he:e∈p.edges) (hg:g∈q.edges) (h:Apt (O5 mo p e) (O5 mo q g)):mo.can (mo.edgeS st i p e) j q g=mo.can st j q g:=by
 have h1:=b6J ho (st:=st) (i:=i) hp hq he hg h 0
 have h2:nAt (mo.edgeS st i p e).at' j=nAt st.at' j:=by rw [a2v];exact a7c hij
 unfold Mo.can
 rw [h1,h2]
 by_cases a2:g.act=2
 ·rw [if_pos a2,if_pos a2,a73 hp hq he hg h (.inl a2)]
 rw [if_neg a2,if_neg a2]
 by_cases a3:g.act=3
 ·rw [if_pos a3,if_pos a3,a73 hp hq he hg h (.inr a3)]
 rw [if_neg a3,if_neg a3]
theorem b6x {mo:Mo} {l l':List Int} {e:Ed} {n:Int} (h:e.act=2∨e.act=3->l=l'):mo.wV l e n=mo.wV l' e n:=by
 unfold Mo.wV
 split
 ·rfl
 split
 ·rename_i a;rw [h (.inr a)]
 ·rfl
theorem c1r {mo:Mo} {l l':List Int} {e:Ed} {n:Int} (h:e.act=2∨e.act=3->l=l'):mo.wC l e n=mo.wC l' e n:=by
 unfold Mo.wC
 split
 ·rename_i a;rw [h (.inl a)]
 split
 ·rename_i a;rw [h (.inr a)]
 ·rfl
theorem b5m {mo:Mo} (ho:N1 mo) {st:Stt} {i j:Nat} {p q:Pr} (hp:a0l mo p) (hq:a0l mo q) {e g:Ed} (he:e∈p.edges) (hg:g∈q.edges) (h:Apt (O5 mo p e) (O5 mo q g)):mo.edgeS (mo.edgeS st i p e) j q g=⟨(st.at'.set i e.to).set j g.to,setO (setO st.vars (mo.wV (cAt st.chans e.chan.toNat) e (mo.ex p st e 0).1)) (mo.wV (cAt st.chans g.chan.toNat) g (mo.ex q st g 0).1),setO (setO st.chans (mo.wC (cAt st.chans e.chan.toNat) e (mo.ex p st e 0).1)) (mo.wC (cAt st.chans g.chan.toNat) g (mo.ex q st g 0).1),-1⟩:=by
 have h1:=b6J ho (st:=st) (i:=i) hp hq he hg h 0
 rw [a2v,h1,b6x (a73 hp hq he hg h),c1r (a73 hp hq he hg h),a2v]
theorem b1U {mo:Mo} (ho:N1 mo) {st:Stt} {i j:Nat} (hij:i≠j) {p q:Pr} (hp:a0l mo p) (hq:a0l mo q) {e g:Ed} (he:e∈p.edges) (hg:g∈q.edges) (h:(O5 mo p e).apart (O5 mo q g)=true) :
 mo.can (mo.edgeS st i p e) j q g=mo.can st j q g/\mo.can (mo.edgeS st j q g) i p e=mo.can st i p e/\mo.edgeS (mo.edgeS st i p e) j q g=mo.edgeS (mo.edgeS st j q g) i p e:=by
 obtain ⟨a,b⟩:=c1B h
 refine ⟨b5Z ho hij hp hq he hg a,b5Z ho (Ne.symm hij) hq hp hg he b,?_⟩
 rw [b5m ho hp hq he hg a,b5m ho hq hp hg he b,List.set_comm _ _ hij]
 congr 1
 ·exact b5L fun k x l y h1 h2 e1=>a6j a.ww (a9E hp he h1) (e1▸a9E hq hg h2)
 ·refine b5L fun k x l y h1 h2 e1=>?_
  obtain ⟨rfl,c1⟩:=b0E h1
  obtain ⟨rfl,c2⟩:=b0E h2
  exact a6j a.cc (a55 hp he c1) (e1▸a55 hq hg c2)
end Go.V
namespace Go.V
theorem b10 {α β:Type} {P:β->Prop} {g:β->α->β}:∀ {l:List α} {a:β},P a->(∀a x,x∈l->P a->P (g a x))->P (l.foldl g a)
 | [],a,h,_=>h
 | x::l,a,h,hg=>b10 (l:=l) (hg a x (by simp) h) fun a y hy=>hg a y (by simp [hy])
def b0v (c:Ch):Prop:=1<=c.room/\c.room<=3/\1<=c.width/\c.width<=8
def a3H (v:Vr):Prop:=1<=v.width/\v.width<=8/\N4 v.value v.width.toNat=v.value
theorem b7Y {t:List Nd} (hY:a1E t) {k:Nat} (hk:k<t.length) (h:(nd t k).kind=1):b0v (a5a (nd t k)):=by
 have:=(hY.fine k hk).chan h
 exact ⟨this.1,this.2.1,this.2.2.1,this.2.2.2.1⟩
theorem b4l {t:List Nd} (hY:a1E t) {k:Nat} (hk:k<t.length) (h:(nd t k).kind=2):a3H (a1X (nd t k)):=by
 have:=(hY.fine k hk).var h
 exact ⟨this.1,this.2.1,this.2.2.1⟩
theorem c0S {t:List Nd} (ht:a0f t) (hY:a1E t):(∀c∈(gat t).ch,b0v c)/\∀v∈(gat t).vs,a3H v:=by
 unfold gat W7
 refine b10 (P:=fun (a:Ga)=>(∀c∈a.ch,b0v c)/\∀v∈a.vs,a3H v) (by simp) fun (a:Ga) k hk ha=>?_
 have hkl:=(ht.ks ht.pos k hk).2
 unfold one1
 split
 ·rename_i h1
  refine ⟨fun c hc=>?_,ha.2⟩
  rcases List.mem_append.1 hc with hc | hc
  ·exact ha.1 c hc
  ·simp only [List.mem_singleton] at hc
   subst hc;exact b7Y hY hkl h1
 split
 ·rename_i h1
  refine ⟨ha.1,fun c hc=>?_⟩
  rcases List.mem_append.1 hc with hc | hc
  ·exact ha.2 c hc
  ·simp only [List.mem_singleton] at hc
   subst hc;exact b4l hY hkl h1
 split
 ·exact ha
 split
 ·exact ha
 ·exact ha
theorem c2U {t:List Nd} (ht:a0f t) (hY:a1E t) {k:Nat} (hk:k<t.length):∀v∈(X6 t (nd t k)).map a1X,a3H v:=by
 intro v hv
 obtain ⟨x,hx,rfl⟩:=List.mem_map.1 hv
 obtain ⟨j,hj,rfl⟩:=List.mem_map.1 hx
 obtain ⟨i,hi,e⟩:=List.getElem_of_mem hj
 have hi2:i<N7 t (nd t k)/\i<(nd t k).ks.length:=by
  rw [List.length_take] at hi;omega
 rw [List.getElem_take] at e
 have h2:=a7h hi2.1 hi2.2
 rw [e] at h2
 have hm:=ht.ks hk j (by rw [<- e];exact List.getElem_mem _)
 exact b4l hY hm.2 h2
theorem b5E {t:List Nd} (ht:a0f t) (hY:a1E t) {ch:List ByteArray} {k seen:Nat} (hk:k<t.length):∀ (c:Nat) (a:List Vr×List Pr),(∀v∈a.1,a3H v)->∀v∈(V6 t ch k seen c a).1,a3H v
 | 0,a,h=>h
 | c+1,a,h=>by
   intro v hv
   unfold V6 at hv
   rcases List.mem_append.1 hv with hv | hv
   ·exact b5E ht hY hk c a h v hv
   ·exact c2U ht hY hk v hv
theorem b1q {t:List Nd} (hR:O2 t) (hY:a1E t):W6 (U2 t):=by
 have ht:=hR.ok
 obtain ⟨h1,h2⟩:=c0S ht hY
 refine ⟨h1,?_⟩
 show ∀v∈(gbt t).vs,a3H v
 unfold gbt a0r
 refine b10 (P:=fun (a:Gb)=>∀v∈a.vs,a3H v) h2 fun a k hk ha=>?_
 have hkl:=(ht.ks ht.pos k hk).2
 unfold a08
 split
 ·exact b5E ht hY hkl _ _ ha
 split
 ·exact ha
 ·exact ha
end Go.V
namespace Go.V
variable {mo:Mo} {st:Stt}
theorem b5g {i j:Nat} {v:Mv} (h:v∈mo.mvE st i j):v.kind=0/\v.proc=i/\v.edge<j/\mo.can st i (pAt mo.procs i) (eAt (pAt mo.procs i).edges v.edge)=true:=by
 unfold Mo.mvE at h
 obtain ⟨k,hk,rfl⟩:=List.mem_map.1 h
 obtain ⟨h1,h2⟩:=List.mem_filter.1 hk
 exact ⟨rfl,rfl,List.mem_range.1 h1,h2⟩
theorem b5R {i:Nat} {v:Mv} (h:v∈mo.movesP st i):v∈mo.mvE st i (pAt mo.procs i).edges.length/\¬ (0<=st.hold/\st.hold≠(i:Int)):=by
 rw [Mo.movesP_eq] at h
 split at h
 ·cases h
 ·rename_i c;exact ⟨h,c⟩
theorem a4z {c:Nat} {v:Mv} (h:v∈mo.movesC st c):(v.kind=1∨v.kind=2)/\v.chan=c/\0<(cAt st.chans c).length/\(v.kind=2->((cAt st.chans c).length:Int)<(R7 mo.chans c).room):=by
 unfold Mo.movesC at h
 rcases List.mem_append.1 h with h | h
 ·split at h
  ·rename_i hc
   simp only [Bool.and_eq_true,decide_eq_true_eq] at hc
   simp only [List.mem_singleton] at h
   subst h
   exact ⟨.inl rfl,rfl,hc.2,fun e=>by cases e⟩
  ·cases h
 ·split at h
  ·rename_i hc
   simp only [Bool.and_eq_true,decide_eq_true_eq] at hc
   simp only [List.mem_singleton] at h
   subst h
   exact ⟨.inr rfl,rfl,hc.1.2,fun _=>hc.2⟩
  ·cases h
theorem a8r {v:Mv} (h:v∈mo.moves st):mo.mvOk st v:=by
 unfold Mo.moves at h
 rcases List.mem_append.1 h with h | h
 ·obtain ⟨i,hi,hv⟩:=List.mem_flatMap.1 h
  obtain ⟨h1,_⟩:=b5R hv
  obtain ⟨a,b,c,d⟩:=b5g h1
  subst b
  exact .inl ⟨a,List.mem_range.1 hi,c,d⟩
 ·split at h
  ·obtain ⟨c,hc,hv⟩:=List.mem_flatMap.1 h
   obtain ⟨a,rfl,b,d⟩:=a4z hv
   rcases a with a | a
   ·exact .inr (.inl ⟨a,List.mem_range.1 hc,b⟩)
   ·exact .inr (.inr ⟨a,List.mem_range.1 hc,b,d a⟩)
  ·cases h
theorem a3w {v:Mv} (h0:v.kind=0):mo.doS st v=mo.doE st v.proc (pAt mo.procs v.proc) (eAt (pAt mo.procs v.proc).edges v.edge):=by
 unfold Mo.doS
 rw [if_neg (by omega),if_neg (by omega)]
theorem c3P {i:Nat} {p:Pr} {e:Ed} (h:e.keep=false):mo.doE st i p e=mo.edgeS st i p e:=by
 unfold Mo.doE
 rw [h]
 simp only [Bool.false_and,Bool.false_eq_true,if_false]
 rw [a2v]
theorem c1l {a:Nat}:((a:Int)=0)=(a=0):=by apply propext;omega
attribute [go_sem] c1l
theorem a3X (ho:N1 mo) {st:Stt}:(mo.moves st).length<=17000:=by
 have h1:=Mo.mvP_len ho (st:=st) (Nat.le_refl _)
 have h2:=Mo.mvC_len (mo:=mo) (st:=st) (i:=mo.chans.length)
 have:=ho.np
 have:=ho.nc
 rw [Mo.moves_eq,List.length_append]
 split
 ·omega
 ·simp only [List.length_nil];omega
end Go.V
namespace Go.V
def aB (l:List Bool) (i:Nat):Bool:=l.getD i false
structure Code {α β:Type} (A:α->Prop) (sz:α->Nat) (e:α->β->List Bool) (d:α->List Bool->Option (β×List Bool)) (V:α->β->Prop):Prop where
 enc:∀a b r,A a->V a b->d a (e a b++r)=some (b,r)
 dec:∀a l b r,A a->sz a<=l.length->d a l=some (b,r)->V a b/\l=e a b++r
 len:∀a b,V a b->(e a b).length=sz a
theorem c3D (w:Nat):((2 ^ w:Nat):Int)=2 ^ w:=by simp
theorem c8r {n:Int} {w:Nat} (h:w<=16):IntKind.i64.wrap (b2A .i64 n (2 ^ w-1))=n % 2 ^ w:=by
 show IntKind.i64.wrap ((BitVec.ofInt IntKind.i64.bits n &&& BitVec.ofInt IntKind.i64.bits (2 ^ w-1)).toNat:Int)=n % 2 ^ w
 have hp:2 ^ w<=2 ^ 16:=Nat.pow_le_pow_right (by omega) h
 have hp0:0<2 ^ w:=Nat.pos_of_ne_zero (by simp)
 have hc:((2 ^ w:Nat):Int)=2 ^ w:=by simp
 have a2:(BitVec.ofInt IntKind.i64.bits (2 ^ w-1)).toNat=2 ^ w-1:=by
  rw [BitVec.toNat_ofInt,show IntKind.i64.bits=64 from rfl,<- hc]
  rw [Int.emod_eq_of_lt (by omega) (by omega)]
  omega
 have e1:(BitVec.ofInt IntKind.i64.bits n &&& BitVec.ofInt IntKind.i64.bits (2 ^ w-1)).toNat=(n % 2 ^ 64).toNat % 2 ^ w:=by
  rw [BitVec.toNat_and,a2,Nat.and_two_pow_sub_one_eq_mod,BitVec.toNat_ofInt]
  rfl
 rw [e1]
 have h0:0<=n % 2 ^ 64:=Int.emod_nonneg _ (by decide)
 have hm:=Nat.mod_lt (n % 2 ^ 64).toNat hp0
 rw [P0 (by omega) (by omega),Int.natCast_emod,Int.toNat_of_nonneg h0,hc]
 exact Int.emod_emod_of_dvd _ (b39 (w:=w) (v:=64) (by omega))
end Go.V
namespace Go.Proofs.YtnjlhebkhjcagaaGreat
open Go.V
set_option maxRecDepth 100000
set_option maxHeartbeats 4000000
theorem a8I {w:Nat} (h:w<=16):(2:Int) ^ w<=65536/\(1:Int)<=2 ^ w:=by
 have h1:2 ^ w<=2 ^ 16:=Nat.pow_le_pow_right (by omega) h
 have h2:0<2 ^ w:=Nat.two_pow_pos w
 have:=c3D w
 omega
theorem b7l {w:Nat} {k:IntKind} (h:w<=16):a4l .shl .i64 1 (w:Int)=some (.int .i64 (2 ^ w)):=by
 have:=a8I h
 unfold a4l
 rw [if_neg (by omega)]
 simp only [Int.toNat_natCast]
 rw [show min w IntKind.i64.bits=w by rw [show IntKind.i64.bits=64 from rfl];omega,Int.one_mul,P0 (by omega) (by omega)]
theorem c3i {n:Int} (h1:1<=n) (h2:n<=16):Eqc vfs 119 [.int .i64 n] (.int .i64 n):=by
 have e1:max n 1=n:=by omega
 have e2:min n 16=n:=by omega
 refine S4 ?_
 refine O7 (vf:=a80) rfl ?_
 unfold a80;refine zF ?_
 exact zZ (aN e1 e2)
theorem b3N {x:Int} {w:Nat} (hx:a0K x) (h1:1<=w) (h2:w<=16):Eqc vfs 98 [.int .i64 x,.int .i64 (w:Int)] (.int .i64 (N4 x w)):=by
 have hb:=c3i (n:=(w:Int)) (by omega) (by omega)
 have s1:=b7l (w:=w) (k:=.i64) h2
 have s2:=b7l (w:=w-1) (k:=.i64) (by omega)
 have p1:=a8I h2
 have p2:=a8I (w:=w-1) (by omega)
 have ew:IntKind.i64.wrap ((w:Int)-1)=((w-1:Nat):Int):=by rw [P0 (by omega) (by omega)];omega
 have e1:IntKind.i64.wrap ((2:Int) ^ w-1)=2 ^ w-1:=P0 (by omega) (by omega)
 have hm:=c8r (n:=x) h2
 have h3:=Int.emod_nonneg x (b:=2 ^ w) (by omega)
 have h4:=Int.emod_lt_of_pos x (a6S w)
 have e2:IntKind.i64.wrap (x % 2 ^ w-2 ^ w)=x % 2 ^ w-2 ^ w:=P0 (by omega) (by omega)
 refine S4 ?_
 refine O7 (vf:=a9m) rfl ?_
 unfold a9m;refine zF ?_
 by_cases hc:2 ^ (w-1)<=x % 2 ^ w
 ·rw [b1R h1,if_pos hc]
  exact zZ (aN hb (aN s1 (aN s2 (aN ew (aN e1 (aN hm (aN hc e2)))))))
 ·rw [b1R h1,if_neg hc]
  exact zZ (aN hb (aN s1 (aN s2 (aN ew (aN e1 (aN hm hc))))))
theorem b6S {x:Int} {w:Nat} (hx:a0K x) (h1:1<=w) (h2:w<=16):Eqc vfs 73 [.int .i64 x,.int .i64 (w:Int)] (.bool (decide (N4 x w=x))):=by
 have ht:=b3N hx h1 h2
 refine S4 ?_
 refine O7 (vf:=a9n) rfl ?_
 unfold a9n;refine zF ?_
 exact zZ ht
end Go.Proofs.YtnjlhebkhjcagaaGreat
namespace Go.V
variable {fs:FuncId->Option M5}
theorem b31 (l:List Bool):(V8 l).flatten=a4r l:=by
 induction l with
 | nil=>rfl
 | cons b l ih=>show [.bool b]++(V8 l).flatten=_;rw [ih];rfl
structure GrB (s0 s:k4) (ids:List Nat) (A B R:Hs) (d:D) (l:List Bool) (E:Hs):Prop where
 rp:Rp d 1 (V8 l) E
 hp:Hp s (A++E++B) R
 fr:Fr ids s0 s
 nw:∀e∈E,e.1∈ids∨s0.next<=e.1
theorem GrB.frz {s0 s:k4} {ids:List Nat} {A B R E:Hs} {d:D} {l:List Bool} (h:GrB s0 s ids A B R d l E):∃d',ice s.get 20 d=some d'/\FL 1 d' (V8 l):=a3A h.rp h.hp (fun e he=>by simp [he]) (a4K _) (b4M _)
attribute [go_sem] b94
theorem a8w {i t fo args rest s K} {env:Env} {f:FuncId} {caps:List D} {l:List D} {P:D->k4->Prop} (hf:env.ev fo=.fn f caps) (hr:EvP fs f l s P) (ha:env.evL args++caps=l)
 (h:∀d s',P d s'->XQ fs [] rest ((t,d)::env) s' K):WQ fs [] ((i,⟨some t,.m (.call .raw fo args),none⟩)::rest) env s K:=by
 subst ha
 obtain ⟨d,s',⟨n,hn⟩,hp⟩:=hr
 exact a8Z ⟨n,by simp only [evM,a1p,hf];exact hn⟩ (a1Q (h d s' hp))
def GrL (s0 s:k4) (R:Hs) (d:D) (l:List Bool) (E:Hs):Prop:=GrB s0 s [] [] [] R d l E
theorem GrB.base {s0 s s':k4} {R R' E E':Hs} {d d':D} {l l':List Bool} (h:GrB s s' (E.map Prod.fst) [] [] R' d' l' E') (h0:GrL s0 s R d l E):GrL s0 s' R' d' l' E':=by
 have nE:∀i∈E.map Prod.fst,s0.next<=i:=fun i hi=>by
  obtain ⟨e,he,rfl⟩:=List.mem_map.1 hi
  rcases h0.nw e he with h | h
  ·simp at h
  ·exact h
 refine ⟨h.rp,h.hp,⟨Nat.le_trans h0.fr.1 h.fr.1,fun j hj _=>?_⟩,fun e he=>.inr ?_⟩
 ·rw [h.fr.2 j (Nat.lt_of_lt_of_le hj h0.fr.1) fun hc=>by have:=nE j hc;omega,h0.fr.2 j hj (by simp)]
 ·rcases h.nw e he with h | h
  ·exact nE _ h
  ·exact Nat.le_trans h0.fr.1 h
theorem GrL.mv {s0 s s':k4} {R E:Hs} {d:D} {l:List Bool} (h:GrL s0 s R d l E) (hf:Fr [] s s'):GrL s0 s' R d l E :=
 ⟨h.rp,h.hp.fr hf,h.fr.trans hf (by simp),h.nw⟩
theorem GrL.nil {s0 s:k4} {R:Hs} (h:Has s R) (hf:Fr [] s0 s):GrL s0 s R .nils [] []:=⟨.inl ⟨rfl,rfl,rfl⟩,⟨List.nodup_nil,by simp,by simp [Has],h⟩,hf,by simp⟩
theorem a2i {s:k4} {z o:O3}:Fr [] s ((s.push z).set s.next (some o)):=(Fr.push _).thenSet _ (.inr (Nat.le_refl _))
theorem GrL.apart {s0 s:k4} {R E:Hs} {d:D} {l:List Bool} (h:GrL s0 s R d l E) {r:Nat×List D} (hr:r∈R):r.1∉E.map Prod.fst:=fun hm=>by
 obtain ⟨e,he,h1⟩:=List.mem_map.1 hm
 exact h.hp.ap e (by simp [he]) r hr h1
theorem GrL.lt {s0 s:k4} {R E:Hs} {d:D} {l:List Bool} (h:GrL s0 s R d l E) {id:Nat} (hm:id∈E.map Prod.fst):id<s.next:=by
 obtain ⟨e,he,h1⟩:=List.mem_map.1 hm
 rw [<- h1]
 exact M7 (h.hp.w e (by simp [he]))
theorem GrL.sub {s0 s:k4} {R R' E:Hs} {d:D} {l:List Bool} (h:GrL s0 s R d l E) (hr:∀x∈R',x∈R):GrL s0 s R' d l E :=
 ⟨h.rp,h.hp.sub (List.Sublist.refl _) hr,h.fr,h.nw⟩
theorem GrL.box {s0 s:k4} {R E:Hs} {d:D} {l:List Bool} (h:GrL s0 s R d l E) {z:O3} {cs:List D}:GrL s0 ((s.push z).set s.next (some (.cells cs))) ((s.next,cs)::R) d l E:=by
 have h2:=h.mv (a2i (z:=z) (o:=.cells cs))
 refine ⟨h.rp,h2.hp.addR1 (S1 (by simp)) fun w hw heq=>?_,h.fr.trans a2i (by simp),h.nw⟩
 have hw':w∈E:=by simpa using hw
 have:=h.lt (List.mem_map_of_mem hw')
 omega
theorem c0M {l:List Bool} {i:Nat}:bAt l i=aB l i:=rfl
attribute [go_sem] c0M
def Rdr (s:k4) (r:Nat) (l:List Bool):Prop:=∃d,s.get r=some (.cells [d])/\FL 1 d (V8 l)
theorem Hp.frI {s s':k4} {W R:Hs} {ids:List Nat} (h:Hp s W R) (hf:Fr ids s s') (hn:∀w∈W++R,w.1∉ids):Hp s' W R :=
 ⟨h.nd,h.ap,fun w hw=>by rw [hf.2 _ (M7 (h.w w hw)) (hn w (by simp [hw])),h.w w hw],fun w hw=>by rw [hf.2 _ (M7 (h.r w hw)) (hn w (by simp [hw])),h.r w hw]⟩
structure GrZ (n0:Nat) (s:k4) (R:Hs) (d:D) (l:List Int) (E:Hs):Prop where
 rp:Rp d 1 (Y1 l) E
 hp:Hp s E R
 nw:∀e∈E,n0<=e.1
theorem GrZ.fr {n0:Nat} {s s':k4} {R E:Hs} {d:D} {l:List Int} {ids:List Nat} (h:GrZ n0 s R d l E) (hf:Fr ids s s') (h1:∀i∈ids,i<n0) (h2:∀x∈R,x.1∉ids):GrZ n0 s' R d l E :=
 ⟨h.rp,h.hp.frI hf fun w hw hi=>by
  rcases List.mem_append.1 hw with hw | hw
  ·have:=h.nw w hw
   have:=h1 _ hi
   omega
  ·exact h2 w hw hi,h.nw⟩
structure UnW (mcs:List D) (s:k4) (dA dV dC:D) (W:Hs):Prop where
 hp:Hp s ((3,[dA,dV,dC,.int .i64 0])::(1,[.nils,.nils,.nils,.int .i64 0])::W) [(0,mcs)]
 nw:∀e∈W,4<=e.1
theorem UnW.lt {mcs:List D} {s:k4} {dA dV dC:D} {W:Hs} (h:UnW mcs s dA dV dC W):3<s.next:=M7 (h.hp.w (3,[dA,dV,dC,.int .i64 0]) (by simp))
theorem UnW.fr {mcs:List D} {s s':k4} {dA dV dC:D} {W:Hs} {ids:List Nat} (h:UnW mcs s dA dV dC W) (hf:Fr ids s s') (hi:∀i∈ids,i=2):UnW mcs s' dA dV dC W :=
 ⟨h.hp.frI hf fun w hw hn=>by
  have:=hi _ hn
  simp only [List.cons_append,List.mem_cons,List.mem_append,List.not_mem_nil,or_false] at hw
  rcases hw with rfl | rfl | hw | rfl
  ·simp at this
  ·simp at this
  ·have:=h.nw w hw;omega
  ·simp at this,h.nw⟩
theorem Rdr.fr {s s':k4} {l:List Bool} {r:Nat} (h:Rdr s r l) (hf:Fr [] s s'):Rdr s' r l:=by
 obtain ⟨d,h1,h2⟩:=h
 exact ⟨d,by rw [hf.2 _ (M7 h1) (by simp),h1],h2⟩
end Go.V
namespace Go.Proofs.YtnjlhebkhjcagaaGreat
open Go.V
set_option maxRecDepth 100000
set_option maxHeartbeats 4000000
variable {m:MdX} {mo:Mo} {ps:List (Pr×PrD)} {x:StD} {st:Stt}
theorem c6q {s:k4} {id:Nat} {c:Ch} {n:Int} (hg:s.get id=some (.cells [.str c.name,.int .i64 c.room,.int .i64 c.width,.bool c.lossy,.bool c.copying])) (hn:a0K n) (h1:1<=c.width) (h2:c.width<=8) :
 EvP vfs 74 [.int .i64 n,.ptr id 0] s fun r s'=>r=.bool (!decide (N4 n c.width.toNat=n))/\s'=s:=by
 have hb:=b6S (x:=n) (w:=c.width.toNat) hn (by omega) (by omega)
 rw [Int.toNat_of_nonneg (by omega)] at hb
 refine Y5 (vf:=a96) rfl ?_
 unfold a96;refine zF ?_
 refine zY (aN hg hb) ?_
 exact ⟨rfl,rfl⟩
theorem c1F {s:k4} {id:Nat} {c:Ch} {d:D} {l:List Int} (hd:FI d l) (hll:l.length<=1000) (hg:s.get id=some (.cells [.str c.name,.int .i64 c.room,.int .i64 c.width,.bool c.lossy,.bool c.copying])) (hn:∀n∈l,a0K n/\N4 n c.width.toNat=n) (h1:1<=c.width) (h2:c.width<=8) :
 EvP vfs 99 [d,.fn 74 [.ptr id 0]] s fun r s'=>r=.int .i64 (-1)/\s'=s:=by
 refine Y5 (vf:=b1P) rfl ?_
 unfold b1P;refine zF ?_
 refine zY hd ?_
 refine S2 [0,1,7] 0 l.length (fun i f s'=>f 8=.int .i64 (i:Int)/\s'=s) (.mk rfl) (by omega) ⟨rfl,rfl⟩ ?_
 rintro i f s' hi ⟨hE,rfl⟩
 by_cases ci:i<l.length
 ·have hw:=hn _ (a4I ci)
  have hc:=c6q hg hw.1 h1 h2
  rw [hw.2] at hc
  refine zY (aN hE (aN hd ci)) ?_
  refine a8w rfl hc rfl ?_
  rintro r s2 ⟨rfl,rfl⟩
  refine zY (aN hE ci) ?_
  trivial
 ·refine zY (aN hE ci) ?_
  exact ⟨rfl,rfl⟩
theorem c1n {s:k4} {id:Nat} {c:Ch} {d:D} {l:List Int} (hd:FI d l) (hll:l.length<=1000) (hg:s.get id=some (.cells [.str c.name,.int .i64 c.room,.int .i64 c.width,.bool c.lossy,.bool c.copying])) (hn:∀n∈l,a0K n/\N4 n c.width.toNat=n) (h1:1<=c.width) (h2:c.width<=8) :
 EvP vfs 75 [d,.fn 74 [.ptr id 0]] s fun r s'=>r=.bool false/\s'=s:=by
 have hi:=c1F hd hll hg hn h1 h2
 refine Y5 (vf:=b0A) rfl ?_
 unfold b0A;refine zF ?_
 refine zY0 ?_
 refine a2z hi rfl ?_
 rintro r s2 ⟨rfl,rfl⟩
 refine zY0 ?_
 exact ⟨rfl,rfl⟩
structure b3H (mo:Mo) (x:StD) (st:Stt):Prop where
 f:StF x st
 e:St8 st
 fit:Fit mo { st with hold:=-1 }
 hd:a0K st.hold
theorem a90 (hm:MoF m mo ps) (ho:N1 mo) (hf:W6 mo) (hx:b3H mo x st):Eqc vfs 51 [.agg [m.dt,.int .i64 m.g,m.dc,m.dv,m.dp,m.ds,.bool m.b],.agg [x.da,x.dv,x.dc,.int .i64 st.hold]] (.bool (decide (-1<=st.hold/\st.hold<(mo.procs.length:Int)))):=by
 have om:=hm.ones
 have ox:=hx.f.ones
 have hxa:=hx.f.a
 have hxv:=hx.f.v
 have hxf:=hx.f
 have hmv:=hm.v
 have hmc:=hm.c
 have ea:st.at'.length=mo.procs.length:=hx.fit.at'
 have ev:st.vars.length=mo.vars.length:=hx.fit.vars
 have ec:st.chans.length=mo.chans.length:=hx.fit.chans
 have hnp:=ho.np
 have hnv:=ho.nv
 have hnc:=ho.nc
 refine S4 ?_
 refine O7 (vf:=a8K) rfl ?_
 unfold a8K;refine zF ?_
 refine zY (aN om (aN ox (aN ea (aN ev ec)))) ?_
 have g0:((k4.empty.push (.cells [m.dt,.int .i64 m.g,m.dc,m.dv,m.dp,m.ds,.bool m.b])).push (.cells [x.da,x.dv,x.dc,.int .i64 st.hold])).get 0=some (.cells [m.dt,.int .i64 m.g,m.dc,m.dv,m.dp,m.ds,.bool m.b]):=by simp (disch:=(first|exact Rf.mk rfl|with_reducible assumption|omega|((repeat (first|rw [nP]|rw [nS]|rw [M3]))<;>omega)|decide)) only [go_sem,↓reduceIte]
 have g1:((k4.empty.push (.cells [m.dt,.int .i64 m.g,m.dc,m.dv,m.dp,m.ds,.bool m.b])).push (.cells [x.da,x.dv,x.dc,.int .i64 st.hold])).get 1=some (.cells [x.da,x.dv,x.dc,.int .i64 st.hold]):=by simp (disch:=(first|exact Rf.mk rfl|with_reducible assumption|omega|((repeat (first|rw [nP]|rw [nS]|rw [M3]))<;>omega)|decide)) only [go_sem,↓reduceIte]
 generalize (k4.empty.push (.cells [m.dt,.int .i64 m.g,m.dc,m.dv,m.dp,m.ds,.bool m.b])).push (.cells [x.da,x.dv,x.dc,.int .i64 st.hold])=s0 at *
 refine S2 [0,1,2,3,7,8,9,10,11,12,37,39,40,60,61,62,63,75,78,79,80,81,100] 0 mo.procs.length (fun i f s=>f 41=.int .i64 (i:Int)/\s=s0) (.mk rfl) (by omega) ⟨rfl,rfl⟩ ?_
 rintro i f s hi ⟨hE,rfl⟩
 by_cases ci:i<mo.procs.length
 ·have ci':i<st.at'.length:=by omega
  have hpl:=hx.fit.pl i ci' ci
  have e1:¬ ((nAt st.at' i:Nat):Int)<0:=by omega
  have e2:nAt st.at' i<(pAt mo.procs i).places:=by rw [a2O ci',a2M ci];exact hpl
  have e3:¬ (pAt mo.procs i).places<=nAt st.at' i:=by omega
  exact zZ (aN hE (aN ci (aN ci' (aN g0 (aN g1 (aN om (aN ox (aN e1 (aN e2 e3)))))))))
 obtain rfl:i=mo.procs.length:=by omega
 refine zY (aN hE (aN ci (aN g0 (aN g1 (aN om (aN ox ev)))))) ?_
 refine S2 [0,1,2,3,5,6,9,10,11,12,37,39,40,41,42,57,60,61,78,79,80,81,100] 0 mo.vars.length (fun i f s'=>f 62=.int .i64 (i:Int)/\s'=s) (.mk rfl) (by omega) ⟨rfl,rfl⟩ ?_
 clear hi ci hE
 rintro i f s hi ⟨hE,rfl⟩
 by_cases ci:i<mo.vars.length
 ·have ci':i<st.vars.length:=by omega
  have hvr:N4 st.vars[i] mo.vars[i].width.toNat=st.vars[i]:=hx.fit.vr i ci' ci
  have h8:=hx.e.v _ (a4I ci')
  unfold I8 at h8
  have hw:=hf.vr _ (a3x ci)
  have hb:=b6S (x:=zAt st.vars i) (w:=(vAt mo.vars i).width.toNat) ⟨by omega,by omega⟩ (by omega) (by omega)
  rw [Int.toNat_of_nonneg (by omega),show N4 (zAt st.vars i) (vAt mo.vars i).width.toNat=zAt st.vars i by rw [a2A ci',a2H ci];exact hvr,decide_eq_true rfl] at hb
  exact zZ (aN hE (aN ci (aN ci' (aN g0 (aN g1 (aN om (aN ox hb)))))))
 obtain rfl:i=mo.vars.length:=by omega
 refine zY (aN hE (aN ci (aN g0 (aN g1 (aN om (aN ox ec)))))) ?_
 refine S2 [0,1,2,3,5,6,7,8,37,39,40,41,42,57,60,61,62,63,75,78,79] 0 mo.chans.length (fun i f s'=>f 80=.int .i64 (i:Int)/\s'.get 0=some (.cells [m.dt,.int .i64 m.g,m.dc,m.dv,m.dp,m.ds,.bool m.b])/\s'.get 1=some (.cells [x.da,x.dv,x.dc,.int .i64 st.hold])) (.mk rfl) (by omega) ⟨rfl,g0,g1⟩ ?_
 clear hi ci hE g0 g1
 rintro i f s hi ⟨hE,g0,g1⟩
 have l0:=M7 g0
 have l1:=M7 g1
 by_cases ci:i<mo.chans.length
 ·have ci':i<st.chans.length:=by omega
  have hcl:=hx.fit.cl i ci' ci
  have hcv:=hx.fit.cv i ci' ci
  have h8:=hx.e.c _ (a6z ci')
  have hw:=hf.ch _ (a25 ci)
  have e1:¬ (R7 mo.chans i).room<((cAt st.chans i).length:Int):=by
   have:((cAt st.chans i).length:Int)<=(R7 mo.chans i).room:=by rw [a12 ci',a2G ci];exact hcl
   omega
  have hn:∀n∈cAt st.chans i,a0K n/\N4 n (R7 mo.chans i).width.toNat=n:=fun n hn=>by
   have:=h8.2 n hn
   unfold I8 at this
   refine ⟨⟨by omega,by omega⟩,?_⟩
   rw [a12 ci'] at hn
   rw [a2G ci];exact hcv n hn
  have hco:=fun s2 id hg=>c1n (s:=s2) (id:=id) (c:=R7 mo.chans i) (a3W hxf ci') (by omega) hg hn hw.2.2.1 hw.2.2.2
  refine zY (aN hE (aN ci (aN ci' (aN g0 (aN g1 (aN om (aN ox e1))))))) ?_
  refine a2z (hco _ s.next (S1 (by simp))) rfl ?_
  rintro r s2 ⟨rfl,rfl⟩
  refine zY (aN hE (aN ci (aN g0 g1))) ?_
  trivial
 obtain rfl:i=mo.chans.length:=by omega
 have hh:=hx.hd
 by_cases c1:-1<=st.hold
 ·refine zY (aN hE (aN ci (aN g0 (aN g1 (aN om (aN ox c1)))))) ?_
  simp
 ·refine zY (aN hE (aN ci (aN g0 (aN g1 (aN om (aN ox c1)))))) ?_
  simp
end Go.Proofs.YtnjlhebkhjcagaaGreat
namespace Go.Proofs.YtnjlhebkhjcagaaGreat
open Go.V
set_option maxRecDepth 100000
set_option maxHeartbeats 4000000
variable {m:MdX} {mo:Mo} {ps:List (Pr×PrD)} {x:StD} {st:Stt}
theorem a4o {b:Bool}:Eqc vfs 136 [.bool b] (.int .i64 (a3j b)):=by
 refine S4 ?_
 cases b
 ·refine O7 (vf:=a6C) rfl ?_
  unfold a6C;refine zF ?_
  refine zY0 ?_
  rfl
 ·refine O7 (vf:=a6C) rfl ?_
  unfold a6C;refine zF ?_
  refine zY0 ?_
  rfl
theorem a4P {x:Int} (h1:-4294967296<=x) (h2:x<=4294967296):Eqc vfs 98 [.int .i64 x,.int .i64 8] (.int .i64 (N4 x 8)):=b3N (w:=8) ⟨by omega,by omega⟩ (by decide) (by decide)
theorem c28 {a b:Int} (ha:I8 a):-128<=a.tdiv b/\a.tdiv b<=128:=by
 unfold I8 at ha
 have h1:(a.tdiv b).natAbs<=a.natAbs:=by
  rw [Int.natAbs_tdiv];exact Nat.div_le_self _ _
 omega
theorem c41 {a b:Int} (ha:I8 a):-128<=a.tmod b/\a.tmod b<=128:=by
 unfold I8 at ha
 have h1:(a.tmod b).natAbs<=a.natAbs:=by
  rw [Int.natAbs_tmod];exact Nat.mod_le _ _
 omega
theorem b7B {op:Nat} (hop:op<=8) {a b:Int} (ha:I8 a) (hb:I8 b):Eqc vfs 137 [.int .i64 (op:Int),.int .i64 a,.int .i64 b] (.tup [.int .i64 (X5 (op:Int) a b).1,.bool (X5 (op:Int) a b).2]):=by
 have ha':=ha
 have hb':=hb
 unfold I8 at ha' hb'
 have hq:=c28 (b:=b) ha
 have hr:=c41 (b:=b) ha
 have hm:-16384<=a*b/\a*b<=16384:=by
  have h1:(a*b).natAbs<=128*128:=by
   rw [Int.natAbs_mul]
   exact Nat.mul_le_mul (by omega) (by omega)
  omega
 have e1:IntKind.i64.wrap (a+b)=a+b:=P0 (by omega) (by omega)
 have e2:IntKind.i64.wrap (a-b)=a-b:=P0 (by omega) (by omega)
 have e3:IntKind.i64.wrap (a*b)=a*b:=P0 (by omega) (by omega)
 have e4:IntKind.i64.wrap (a.tdiv b)=a.tdiv b:=P0 (by omega) (by omega)
 have e5:IntKind.i64.wrap (a.tmod b)=a.tmod b:=P0 (by omega) (by omega)
 have t1:=a4P (x:=a+b) (by omega) (by omega)
 have t2:=a4P (x:=a-b) (by omega) (by omega)
 have t3:=a4P (x:=a*b) (by omega) (by omega)
 have t4:=a4P (x:=a.tdiv b) (by omega) (by omega)
 have t5:=a4P (x:=a.tmod b) (by omega) (by omega)
 refine S4 ?_
 obtain rfl | rfl | rfl | rfl | rfl | rfl | rfl | rfl | rfl:op=0∨op=1∨op=2∨op=3∨op=4∨op=5∨op=6∨op=7∨op=8:=by omega
 ·by_cases a0:a=0
  ·refine O7 (vf:=a0c) rfl ?_
   unfold a0c;refine zF ?_
   simp (disch:=(first|exact Rf.mk rfl|with_reducible assumption|omega|((repeat (first|rw [nP]|rw [nS]|rw [M3]))<;>omega)|decide)) only [go_sem,↓reduceIte,a4o,a0]
   simp [X5,a0]
  ·refine O7 (vf:=a0c) rfl ?_
   unfold a0c;refine zF ?_
   simp (disch:=(first|exact Rf.mk rfl|with_reducible assumption|omega|((repeat (first|rw [nP]|rw [nS]|rw [M3]))<;>omega)|decide)) only [go_sem,↓reduceIte,a4o,a0]
   simp [X5,a0]
 ·by_cases a0:a=0
  ·refine O7 (vf:=a0c) rfl ?_
   unfold a0c;refine zF ?_
   simp (disch:=(first|exact Rf.mk rfl|with_reducible assumption|omega|((repeat (first|rw [nP]|rw [nS]|rw [M3]))<;>omega)|decide)) only [go_sem,↓reduceIte,a4o,a0]
   simp [X5,a0]
  ·refine O7 (vf:=a0c) rfl ?_
   unfold a0c;refine zF ?_
   simp (disch:=(first|exact Rf.mk rfl|with_reducible assumption|omega|((repeat (first|rw [nP]|rw [nS]|rw [M3]))<;>omega)|decide)) only [go_sem,↓reduceIte,a4o,a0]
   simp [X5,a0]
 ·refine O7 (vf:=a0c) rfl ?_
  unfold a0c;refine zF ?_
  simp (disch:=(first|exact Rf.mk rfl|with_reducible assumption|omega|((repeat (first|rw [nP]|rw [nS]|rw [M3]))<;>omega)|decide)) only [go_sem,↓reduceIte,a4o]
  simp [X5]
 ·refine O7 (vf:=a0c) rfl ?_
  unfold a0c;refine zF ?_
  simp (disch:=(first|exact Rf.mk rfl|with_reducible assumption|omega|((repeat (first|rw [nP]|rw [nS]|rw [M3]))<;>omega)|decide)) only [go_sem,↓reduceIte,a4o]
  simp [X5]
 ·refine O7 (vf:=a0c) rfl ?_
  unfold a0c;refine zF ?_
  refine zY (aN e1 t1) ?_
  simp [X5,doZ]
 ·refine O7 (vf:=a0c) rfl ?_
  unfold a0c;refine zF ?_
  refine zY (aN e2 t2) ?_
  simp [X5,doZ]
 ·refine O7 (vf:=a0c) rfl ?_
  unfold a0c;refine zF ?_
  refine zY (aN e3 t3) ?_
  simp [X5,doZ]
 ·by_cases b0:b=0
  ·refine O7 (vf:=a0c) rfl ?_
   unfold a0c;refine zF ?_
   refine zY b0 ?_
   simp [X5,b0]
  ·refine O7 (vf:=a0c) rfl ?_
   unfold a0c;refine zF ?_
   simp (disch:=(first|exact Rf.mk rfl|with_reducible assumption|omega|((repeat (first|rw [nP]|rw [nS]|rw [M3]))<;>omega)|decide)) only [go_sem,↓reduceIte,b0,e4,t4]
   simp [X5,doZ,b0]
 ·by_cases b0:b=0
  ·refine O7 (vf:=a0c) rfl ?_
   unfold a0c;refine zF ?_
   refine zY b0 ?_
   simp [X5,b0]
  ·refine O7 (vf:=a0c) rfl ?_
   unfold a0c;refine zF ?_
   refine zY (aN b0 (aN e5 t5)) ?_
   simp [X5,doZ,b0]
theorem c0D {s:k4} {d:D} {l:List ByteArray} {w:ByteArray} (hd:FL 1 d (Z2 l)) (hl:l.length<=1000):EvP vfs 132 [d,.str w] s fun r s'=>r=.int .i64 (if idxB l w<l.length then (idxB l w:Int) else -1)/\s'=s:=by
 have hln:W8 false d=some (.int .i64 (l.length:Int)):=by rw [hd.len,b1s]
 refine Y5 (vf:=b0H) rfl ?_
 unfold b0H;refine zF ?_
 refine zY hln ?_
 refine S2 [0,1,7] 0 l.length (fun i f s'=>f 8=.int .i64 (i:Int)/\s'=s/\∀j (hj:j<l.length),j<i->l[j]≠w) (.mk rfl) (by omega) ⟨rfl,rfl,fun j _ h=>by omega⟩ ?_
 rintro i f s' hi ⟨hE,rfl,hall⟩
 by_cases ci:i<l.length
 ·have hidx:=FLS.idx hd ci (k:=.i64)
  by_cases c4:l[i]=w
  ·have c5:w=l[i]:=c4.symm
   refine zY (aN hE (aN hln (aN ci (aN hidx c5)))) ?_
   rw [<- c5,a37 ci c4 hall,if_pos ci]
   exact ⟨rfl,rfl⟩
  ·have c5:¬ w=l[i]:=fun h=>c4 h.symm
   refine zY (aN hE (aN hln (aN ci (aN hidx c5)))) ?_
   intro j hj hji
   by_cases ej:j=i
   ·subst ej;exact c4
   ·exact hall j hj (by omega)
 ·refine zY (aN hE (aN hln ci)) ?_
  rw [if_neg (a4h fun j hj=>hall j hj (by omega))]
  trivial
theorem c51 (hm:MoF m mo ps) (ho:N1 mo) (hx:StF x st) (hvl:st.vars.length=mo.vars.length) {s:k4} {i pid mid sid:Nat} (hi:i<mo.procs.length) (g0:s.get pid=some (.cells [.int .i64 (i:Int)])) (g1:s.get mid=some (.cells [m.dt,.int .i64 m.g,m.dc,m.dv,m.dp,m.ds,.bool m.b])) (g2:s.get sid=some (.cells [x.da,x.dv,x.dc,.int .i64 st.hold])) {w:ByteArray} :
 EvP vfs 129 [.str w,.ptr pid 0,.ptr mid 0,.ptr sid 0] s fun r s'=>r=.tup [.int .i64 (match O8 (pAt mo.procs i) w with | none=>0 | some v=>zAt st.vars v),.bool (O8 (pAt mo.procs i) w).isSome]/\Fr [] s s':=by
 have om:=hm.ones
 have ox:=hx.ones
 have hxv:=hx.v
 have hp:=a2W hm hi
 have hpo:=ho.pr _ (V1 hi)
 have hnl:=hpo.nl
 have hnv:=ho.nv
 have hsm:=hpo.same
 have l0:=M7 g0
 have l1:=M7 g1
 have l2:=M7 g2
 have c1:¬ ((i:Int)<0):=by omega
 have c2:¬ mo.procs.length<=i:=by omega
 have hix:=fun s=>c0D (s:=s) (w:=w) hp.n (by omega)
 refine Y5 (vf:=b09) rfl ?_
 unfold b09;refine zF ?_
 refine zY (aN g0 (aN g1 (aN g2 (aN om (aN ox (aN hi (aN c1 c2))))))) ?_
 refine a2z (hix _) rfl ?_
 rintro r s1 ⟨rfl,rfl⟩
 by_cases c:idxB (pAt mo.procs i).names w<(pAt mo.procs i).names.length
 ·have hvi:idxB (pAt mo.procs i).names w<(pAt mo.procs i).vars.length:=by omega
  have hidv:=FLN.idx hp.v hvi (k:=.i64)
  have hvb:=hpo.var _ (List.getElem_mem hvi)
  have hlk:O8 (pAt mo.procs i) w=some ((pAt mo.procs i).vars[idxB (pAt mo.procs i).names w]):=by
   unfold O8
   rw [if_pos c]
   simp [List.getD,hvi]
  rw [hlk]
  have hvb':(pAt mo.procs i).vars[idxB (pAt mo.procs i).names w]<st.vars.length:=by omega
  generalize (pAt mo.procs i).vars[idxB (pAt mo.procs i).names w]=v at *
  rw [if_pos c]
  refine zY (aN g0 (aN g1 (aN g2 (aN om (aN ox (aN hidv hvb')))))) ?_
  exact ⟨rfl,((Fr.push (ids:=[]) _).trans (Fr.push (ids:=[]) _) (by simp)).thenSet _ (.inr (by simp))⟩
 ·have hlk:O8 (pAt mo.procs i) w=none:=by
   unfold O8
   rw [if_neg c]
  rw [hlk,if_neg c]
  refine zY (aN g0 (aN g1 g2)) ?_
  exact ⟨rfl,((Fr.push (ids:=[]) _).trans (Fr.push (ids:=[]) _) (by simp)).thenSet _ (.inr (by simp))⟩
end Go.Proofs.YtnjlhebkhjcagaaGreat
namespace Go.Proofs.YtnjlhebkhjcagaaGreat
open Go.V
set_option maxRecDepth 100000
set_option maxHeartbeats 4000000
variable {m:MdX} {mo:Mo} {ps:List (Pr×PrD)} {x:StD} {st:Stt}
theorem b8w {s:k4} {nid:Nat} {c:Ch} {w:ByteArray} (hg:s.get nid=some (.cells [.str w])) :
 EvP vfs 134 [.agg [.str c.name,.int .i64 c.room,.int .i64 c.width,.bool c.lossy,.bool c.copying],.ptr nid 0] s fun r s'=>r=.bool (decide (c.name=w))/\Fr [] s s':=by
 have l0:=M7 hg
 refine Y5 (vf:=a9i) rfl ?_
 unfold a9i;refine zF ?_
 refine zY hg ?_
 exact ⟨rfl,Fr.push _⟩
theorem c3T (hm:MoF m mo ps) (ho:N1 mo) {s:k4} {nid:Nat} {w:ByteArray} (hg:s.get nid=some (.cells [.str w])) :
 EvP vfs 135 [m.dc,.fn 134 [.ptr nid 0]] s fun r s'=>r=.int .i64 (if idxB mo.ch w<mo.ch.length then (idxB mo.ch w:Int) else -1)/\Fr [] s s':=by
 have hmc:=hm.c
 have hnc:=ho.nc
 have hlc:=hm.lenC
 have hch:mo.ch.length=mo.chans.length:=by simp [Mo.ch]
 have l0:=M7 hg
 refine Y5 (vf:=b05) rfl ?_
 unfold b05;refine zF ?_
 refine zY hlc ?_
 refine S2 [0,1,7] 0 mo.chans.length (fun i f s'=>f 8=.int .i64 (i:Int)/\Fr [] s s'/\∀j,j<mo.chans.length->j<i->(R7 mo.chans j).name≠w) (.mk rfl) (by omega) ⟨rfl,Fr.refl _ _,fun j _ h=>by omega⟩ ?_
 rintro i f s' hi ⟨hE,fr,hall⟩
 have hg':=fr.2 nid l0 (by simp)
 rw [hg] at hg'
 by_cases ci:i<mo.chans.length
 ·have hcn:=b8w (c:=R7 mo.chans i) hg'
  refine zY (aN hE (aN hlc ci)) ?_
  refine a8w rfl hcn rfl ?_
  rintro r s2 ⟨rfl,fr2⟩
  have fr3:=fr.trans fr2 (by simp)
  by_cases c4:(R7 mo.chans i).name=w
  ·rw [decide_eq_true c4]
   refine zY hE ?_
   have hil:i<mo.ch.length:=by omega
   have eb:=a37 (l:=mo.ch) (w:=w) hil (by rw [<- c4,a2G ci];simp [Mo.ch]) (fun j hj hji=>by have:=hall j (by omega) hji;rw [a2G (by omega)] at this;simpa [Mo.ch] using this)
   rw [eb,if_pos hil]
   exact ⟨rfl,fr3⟩
  ·rw [decide_eq_false c4]
   refine zY (aN hE ci) ?_
   refine ⟨fr3,fun j hj hji=>?_⟩
   by_cases ej:j=i
   ·subst ej;exact c4
   ·exact hall j hj (by omega)
 ·refine zY (aN hE (aN hlc ci)) ?_
  have eb:=a4h (l:=mo.ch) (w:=w) (fun j hj=>by have:=hall j (by omega) (by omega);rw [a2G (by omega)] at this;simpa [Mo.ch] using this)
  rw [if_neg eb]
  exact ⟨rfl,fr⟩
theorem c0T (hm:MoF m mo ps) (ho:N1 mo) (hx:StF x st) (hcl:st.chans.length=mo.chans.length) {s:k4} {mid sid:Nat} (g1:s.get mid=some (.cells [m.dt,.int .i64 m.g,m.dc,m.dv,m.dp,m.ds,.bool m.b])) (g2:s.get sid=some (.cells [x.da,x.dv,x.dc,.int .i64 st.hold])) {w:ByteArray} :
 EvP vfs 133 [.str w,.ptr mid 0,.ptr sid 0] s fun r s'=>r=(if idxB mo.ch w<mo.ch.length then .tup [.int .i64 ((cAt st.chans (idxB mo.ch w)).length:Int),.bool true] else .tup [.int .i64 0,.bool false])/\Fr [] s s':=by
 have om:=hm.ones
 have ox:=hx.ones
 have hxf:=hx
 have hch:mo.ch.length=mo.chans.length:=by simp [Mo.ch]
 have l1:=M7 g1
 have l2:=M7 g2
 refine Y5 (vf:=a9Z) rfl ?_
 unfold a9Z;refine zF ?_
 refine zY (aN g1 (aN g2 (aN om ox))) ?_
 refine a2z (c3T hm ho (nid:=s.next) (w:=w) (P3 rfl)) rfl ?_
 rintro r s1 ⟨rfl,fr⟩
 have fr0:Fr [] s s1:=(Fr.push _).trans fr (by simp)
 have g2':=fr0.2 sid l2 (by simp)
 rw [g2] at g2'
 by_cases c:idxB mo.ch w<mo.ch.length
 ·have c':idxB mo.ch w<st.chans.length:=by omega
  rw [if_pos c,if_pos c]
  generalize idxB mo.ch w=v at *
  refine zY (aN g2' (aN ox c')) ?_
  exact ⟨rfl,fr0⟩
 ·rw [if_neg c,if_neg c]
  refine zY0 ?_
  exact ⟨rfl,fr0⟩
theorem b60 (hm:MoF m mo ps) (ho:N1 mo) (hx:StF x st) (h8:St8 st) (hfit:Fit mo { st with hold:=-1 }) {i pid mid sid:Nat} (hi:i<mo.procs.length):∀ (n k:Nat),k<mo.tree.length->mo.tree.length-k<n->a0U (nd mo.tree k).kind->∀ (s:k4),s.get pid=some (.cells [.int .i64 (i:Int)])->s.get mid=some (.cells [m.dt,.int .i64 m.g,m.dc,m.dv,m.dp,m.ds,.bool m.b])->s.get sid=some (.cells [x.da,x.dv,x.dc,.int .i64 st.hold]) ->
 EvP vfs 118 [.agg [m.dt,.fn 129 [.ptr pid 0,.ptr mid 0,.ptr sid 0],.fn 133 [.ptr mid 0,.ptr sid 0]],.int .i64 (k:Int)] s fun r s'=>r=.tup [.int .i64 (S8 mo.tree mo.ch (O8 (pAt mo.procs i)) st n k).1,.bool (S8 mo.tree mo.ch (O8 (pAt mo.procs i)) st n k).2]/\Fr [] s s'
 | 0,k,_,h,_=>by omega
 | n+1,k,hk,hn,hex=>by
   intro s g0 g1 g2
   have om:=hm.ones
   have ox:=hx.ones
   have hno:=ho.tree.node k hk
   have hidx:=hm.tr.at (z:=(k:Int)) (by omega) (by omega) (k:=.i64)
   rw [Int.toNat_natCast] at hidx
   have on:=a0X hm.tr hk
   have hw:=a26 hm.tr hk (i:=0)
   have n0:=a23 hm.tr hk (i:=0)
   have z0:((0:Nat):Int)=0:=rfl
   have z1:((1:Nat):Int)=1:=rfl
   rw [hno.wl,z0] at hw
   rw [hno.nl,z0] at n0
   obtain ⟨hkl,hkx⟩:=a57 hno hex
   have ih:∀c,c<(nd mo.tree k).kids.length->∀ (s:k4),s.get pid=some (.cells [.int .i64 (i:Int)])->s.get mid=some (.cells [m.dt,.int .i64 m.g,m.dc,m.dv,m.dp,m.ds,.bool m.b])->s.get sid=some (.cells [x.da,x.dv,x.dc,.int .i64 st.hold])->EvP vfs 118 [.agg [m.dt,.fn 129 [.ptr pid 0,.ptr mid 0,.ptr sid 0],.fn 133 [.ptr mid 0,.ptr sid 0]],.int .i64 (((nd mo.tree k).kid c:Nat):Int)] s fun r s'=>r=.tup [.int .i64 (S8 mo.tree mo.ch (O8 (pAt mo.procs i)) st n ((nd mo.tree k).kid c)).1,.bool (S8 mo.tree mo.ch (O8 (pAt mo.procs i)) st n ((nd mo.tree k).kid c)).2]/\Fr [] s s':=fun c hc=>by
    have h1:=ho.tree.ks hk _ (W1 hc)
    exact b60 hm ho hx h8 hfit hi n _ h1.2 (by omega) (hkx c hc)
   have i8:∀c,I8 (S8 mo.tree mo.ch (O8 (pAt mo.procs i)) st n ((nd mo.tree k).kid c)).1:=fun c=>a5E h8 n _
   have k0:=a0R hm.tr ho.tree hk (i:=0)
   have k1:=a0R hm.tr ho.tree hk (i:=1)
   rw [z0] at k0
   rw [z1] at k1
   have l0:=M7 g0
   have l1:=M7 g1
   have l2:=M7 g2
   have keep:∀ {s':k4},Fr [] s s'->s'.get pid=some (.cells [.int .i64 (i:Int)])/\s'.get mid=some (.cells [m.dt,.int .i64 m.g,m.dc,m.dv,m.dp,m.ds,.bool m.b])/\s'.get sid=some (.cells [x.da,x.dv,x.dc,.int .i64 st.hold]):=fun fr=>⟨by rw [fr.2 _ l0 (by simp),g0],by rw [fr.2 _ l1 (by simp),g1],by rw [fr.2 _ l2 (by simp),g2]⟩
   unfold S8
   simp only
   by_cases q17:(nd mo.tree k).kind=17
   ·rw [if_pos q17]
    rw [q17] at n0
    have n0:=n0 (by decide)
    have hl:=hno.lit q17
    have ht:=a4P (x:=(nd mo.tree k).num 0) (by omega) (by omega)
    refine Y5 (vf:=a15) rfl ?_
    unfold a15;refine zF ?_
    refine zY (aN om (aN ox (aN hidx (aN on (aN q17 (aN n0 ht)))))) ?_
    exact ⟨rfl,(((Fr.push (ids:=[]) _).trans (Fr.push (ids:=[]) _) (by simp)).thenSet _ (.inr (by simp)))⟩
   rw [if_neg q17]
   by_cases q18:(nd mo.tree k).kind=18
   ·rw [if_pos q18]
    rw [q18] at hw
    have hw:=hw (by decide)
    refine Y5 (vf:=a15) rfl ?_
    unfold a15;refine zF ?_
    refine zY (aN om (aN ox (aN hidx (aN on (aN q18 hw))))) ?_
    refine a8w rfl (c51 hm ho hx hfit.vars hi (keep (((Fr.push (ids:=[]) _).trans (Fr.push (ids:=[]) _) (by simp)).thenSet _ (.inr (by simp)))).1 (keep (((Fr.push (ids:=[]) _).trans (Fr.push (ids:=[]) _) (by simp)).thenSet _ (.inr (by simp)))).2.1 (keep (((Fr.push (ids:=[]) _).trans (Fr.push (ids:=[]) _) (by simp)).thenSet _ (.inr (by simp)))).2.2) rfl ?_
    rintro r s2 ⟨rfl,fr⟩
    have fr0:=Fr.trans (((Fr.push (ids:=[]) _).trans (Fr.push (ids:=[]) _) (by simp)).thenSet _ (.inr (by simp))) fr (by simp)
    refine zY0 ?_
    refine ⟨?_,fr0⟩
    cases O8 (pAt mo.procs i) ((nd mo.tree k).word 0)<;>rfl
   rw [if_neg q18]
   by_cases q19:(nd mo.tree k).kind=19
   ·rw [if_pos q19]
    rw [q19] at hw
    have hw:=hw (by decide)
    refine Y5 (vf:=a15) rfl ?_
    unfold a15;refine zF ?_
    refine zY (aN om (aN ox (aN hidx (aN on (aN q19 hw))))) ?_
    refine a8w rfl (c0T hm ho hx hfit.chans (keep (((Fr.push (ids:=[]) _).trans (Fr.push (ids:=[]) _) (by simp)).thenSet _ (.inr (by simp)))).2.1 (keep (((Fr.push (ids:=[]) _).trans (Fr.push (ids:=[]) _) (by simp)).thenSet _ (.inr (by simp)))).2.2) rfl ?_
    rintro r s2 ⟨hr,fr⟩
    have fr0:=Fr.trans (((Fr.push (ids:=[]) _).trans (Fr.push (ids:=[]) _) (by simp)).thenSet _ (.inr (by simp))) fr (by simp)
    by_cases c:idxB mo.ch ((nd mo.tree k).word 0)<mo.ch.length
    ·rw [if_pos c] at hr
     subst hr
     rw [if_pos c]
     refine zY0 ?_
     exact ⟨rfl,fr0⟩
    ·rw [if_neg c] at hr
     subst hr
     rw [if_neg c]
     refine zY0 ?_
     exact ⟨rfl,fr0⟩
   rw [if_neg q19]
   by_cases q20:(nd mo.tree k).kind=20
   ·rw [if_pos q20]
    have h1:=hno.one (by omega)
    have k0:=k0 (by omega)
    obtain ⟨b1,b2⟩:=i8 0
    have e1:IntKind.i64.wrap (0-(S8 mo.tree mo.ch (O8 (pAt mo.procs i)) st n ((nd mo.tree k).kid 0)).1)=-(S8 mo.tree mo.ch (O8 (pAt mo.procs i)) st n ((nd mo.tree k).kid 0)).1:=by rw [P0 (by omega) (by omega)];omega
    have ht:=a4P (x:=-(S8 mo.tree mo.ch (O8 (pAt mo.procs i)) st n ((nd mo.tree k).kid 0)).1) (by omega) (by omega)
    refine Y5 (vf:=a15) rfl ?_
    unfold a15;refine zF ?_
    refine zY (aN om (aN ox (aN hidx (aN on (aN q20 k0))))) ?_
    refine a2z (ih 0 (by omega) _ (keep (((Fr.push (ids:=[]) _).trans (Fr.push (ids:=[]) _) (by simp)).thenSet _ (.inr (by simp)))).1 (keep (((Fr.push (ids:=[]) _).trans (Fr.push (ids:=[]) _) (by simp)).thenSet _ (.inr (by simp)))).2.1 (keep (((Fr.push (ids:=[]) _).trans (Fr.push (ids:=[]) _) (by simp)).thenSet _ (.inr (by simp)))).2.2) rfl ?_
    rintro r s2 ⟨rfl,fr⟩
    have fr0:=Fr.trans (((Fr.push (ids:=[]) _).trans (Fr.push (ids:=[]) _) (by simp)).thenSet _ (.inr (by simp))) fr (by simp)
    refine zY (aN e1 ht) ?_
    exact ⟨rfl,fr0⟩
   rw [if_neg q20]
   by_cases q21:(nd mo.tree k).kind=21
   ·rw [if_pos q21]
    have h1:=hno.one (by omega)
    have k0:=k0 (by omega)
    refine Y5 (vf:=a15) rfl ?_
    unfold a15;refine zF ?_
    refine zY (aN om (aN ox (aN hidx (aN on (aN q21 k0))))) ?_
    refine a2z (ih 0 (by omega) _ (keep (((Fr.push (ids:=[]) _).trans (Fr.push (ids:=[]) _) (by simp)).thenSet _ (.inr (by simp)))).1 (keep (((Fr.push (ids:=[]) _).trans (Fr.push (ids:=[]) _) (by simp)).thenSet _ (.inr (by simp)))).2.1 (keep (((Fr.push (ids:=[]) _).trans (Fr.push (ids:=[]) _) (by simp)).thenSet _ (.inr (by simp)))).2.2) rfl ?_
    rintro r s2 ⟨rfl,fr⟩
    have fr0:=Fr.trans (((Fr.push (ids:=[]) _).trans (Fr.push (ids:=[]) _) (by simp)).thenSet _ (.inr (by simp))) fr (by simp)
    generalize S8 mo.tree mo.ch (O8 (pAt mo.procs i)) st n ((nd mo.tree k).kid 0)=y0 at *
    obtain ⟨v0,b0⟩:=y0
    have eb:(v0==0)=decide (v0=0):=rfl
    cases b0
    ·refine zY0 ?_
     exact ⟨by rw [Bool.false_and];rfl,fr0⟩
    ·simp (disch:=(first|exact Rf.mk rfl|with_reducible assumption|omega|((repeat (first|rw [nP]|rw [nS]|rw [M3]))<;>omega)|decide)) only [go_sem,↓reduceIte,a4o,eb]
     exact ⟨rfl,fr0⟩
   rw [if_neg q21]
   have q22:(nd mo.tree k).kind=22:=by have:=hex.1;have:=hex.2;omega
   rw [if_pos q22]
   obtain ⟨l2,_,_,o0,o8⟩:=hno.bin q22
   have k0:=k0 (by omega)
   have k1:=k1 (by omega)
   rw [q22] at n0
   have n0:=n0 (by decide)
   obtain ⟨op,hop⟩:=Int.eq_ofNat_of_zero_le o0
   rw [hop] at n0
   have hap:=b7B (op:=op) (by omega) (i8 0) (i8 1)
   refine Y5 (vf:=a15) rfl ?_
   unfold a15;refine zF ?_
   refine zY (aN om (aN ox (aN hidx (aN on (aN q22 k0))))) ?_
   refine a2z (ih 0 (by omega) _ (keep (((Fr.push (ids:=[]) _).trans (Fr.push (ids:=[]) _) (by simp)).thenSet _ (.inr (by simp)))).1 (keep (((Fr.push (ids:=[]) _).trans (Fr.push (ids:=[]) _) (by simp)).thenSet _ (.inr (by simp)))).2.1 (keep (((Fr.push (ids:=[]) _).trans (Fr.push (ids:=[]) _) (by simp)).thenSet _ (.inr (by simp)))).2.2) rfl ?_
   rintro r s2 ⟨rfl,fr⟩
   have fr0:=Fr.trans (((Fr.push (ids:=[]) _).trans (Fr.push (ids:=[]) _) (by simp)).thenSet _ (.inr (by simp))) fr (by simp)
   have e2:=fr.2 s.next (by simp;omega) (by simp)
   simp (disch:=(first|exact Rf.mk rfl|with_reducible assumption|omega|((repeat (first|rw [nP]|rw [nS]|rw [M3]))<;>omega)|decide)) only [go_sem,↓reduceIte] at e2
   have e3:=fr.2 (s.next+1) (by simp) (by simp)
   simp (disch:=(first|exact Rf.mk rfl|with_reducible assumption|omega|((repeat (first|rw [nP]|rw [nS]|rw [M3]))<;>omega)|decide)) only [go_sem,↓reduceIte] at e3
   have f2:=M7 e2
   have f3:=M7 e3
   refine zY (aN e2 (aN e3 (aN on k1))) ?_
   refine a2z (ih 1 (by omega) _ (keep fr0).1 (keep fr0).2.1 (keep fr0).2.2) rfl ?_
   rintro r s3 ⟨rfl,fr3⟩
   have fr4:=fr0.trans fr3 (by simp)
   have e4:=fr3.2 (s.next+1) f3 (by simp)
   rw [e3] at e4
   rw [hop]
   generalize S8 mo.tree mo.ch (O8 (pAt mo.procs i)) st n ((nd mo.tree k).kid 0)=y0 at *
   generalize S8 mo.tree mo.ch (O8 (pAt mo.procs i)) st n ((nd mo.tree k).kid 1)=y1 at *
   obtain ⟨v0,b0⟩:=y0
   obtain ⟨v1,b1⟩:=y1
   simp only at hap ⊢
   cases b0
   ·refine zY0 ?_
    exact ⟨rfl,fr4⟩
   cases b1
   ·refine zY0 ?_
    exact ⟨rfl,fr4⟩
   simp (disch:=(first|exact Rf.mk rfl|with_reducible assumption|omega|((repeat (first|rw [nP]|rw [nS]|rw [M3]))<;>omega)|decide)) only [go_sem,↓reduceIte,e4,on,n0,hap]
   exact ⟨rfl,fr4⟩
end Go.Proofs.YtnjlhebkhjcagaaGreat
namespace Go.Proofs.YtnjlhebkhjcagaaGreat
open Go.V
set_option maxRecDepth 100000
set_option maxHeartbeats 4000000
variable {m:MdX} {mo:Mo} {ps:List (Pr×PrD)} {x:StD} {st:Stt}
theorem b1I (ho:N1 mo) (hx:X2 mo x st):b3H mo x st:=⟨hx.f,hx.e,a0F.1 ((a0F.2 hx.fit).hd (z:=-1) ⟨by omega,by omega⟩),by
 have h1:=hx.fit.hold
 have h2:=ho.np
 exact ⟨by omega,by omega⟩⟩
theorem c8g (hm:MoF m mo ps) (hx:StF x st) {s:k4} {i:Nat}:EvP vfs 117 [.agg [m.dt,.int .i64 m.g,m.dc,m.dv,m.dp,m.ds,.bool m.b],.int .i64 (i:Int),.agg [x.da,x.dv,x.dc,.int .i64 st.hold]] s fun r s'=>∃pid mid sid,r=.agg [m.dt,.fn 129 [.ptr pid 0,.ptr mid 0,.ptr sid 0],.fn 133 [.ptr mid 0,.ptr sid 0]]/\s'.get pid=some (.cells [.int .i64 (i:Int)])/\s'.get mid=some (.cells [m.dt,.int .i64 m.g,m.dc,m.dv,m.dp,m.ds,.bool m.b])/\s'.get sid=some (.cells [x.da,x.dv,x.dc,.int .i64 st.hold]):=by
 have om:=hm.ones
 have ox:=hx.ones
 have hc:cellsOf m.dt=[m.dt]:=hm.tr.fl.cells
 have hfn:∀f l,cellsOf (.fn f l)=[.fn f l]:=fun _ _=>rfl
 refine Y5 (vf:=b07) rfl ?_
 unfold b07;refine zF ?_
 refine zY (aN om (aN ox (aN hc hfn))) ?_
 refine ⟨_,_,_,rfl,?_,?_,?_⟩
 ·exact zZ0
 ·exact zZ0
 ·exact zZ0
theorem a7X (hm:MoF m mo ps) (ho:N1 mo) (hf:W6 mo) (hx:X2 mo x st) {i:Nat} (hi:i<mo.procs.length) {k:Nat} (hk:k<mo.tree.length) (he:a0U (nd mo.tree k).kind) :
 Eqc vfs 96 [.agg [m.dt,.int .i64 m.g,m.dc,m.dv,m.dp,m.ds,.bool m.b],.int .i64 (i:Int),.agg [x.da,x.dv,x.dc,.int .i64 st.hold],.int .i64 (k:Int)] (.tup [.int .i64 (mo.val (O8 (pAt mo.procs i)) st k).1,.bool (mo.val (O8 (pAt mo.procs i)) st k).2]):=by
 have om:=hm.ones
 have ox:=hx.f.ones
 have fm:=a1b hm
 have fx:=a0p hx.f
 have hnh:=b1I ho hx
 have hfb:=a90 hm ho hf hnh
 rw [decide_eq_true hx.fit.hold] at hfb
 have hlt:W8 false m.dt=some (.int .i64 (mo.tree.length:Int)):=hm.tr.len
 have c1:¬ mo.tree.length<=k:=by omega
 refine S4 ?_
 refine O7 (vf:=a9S) rfl ?_
 unfold a9S;refine zF ?_
 refine zY (aN om (aN ox (aN hlt (aN c1 (aN fm (aN fx hfb)))))) ?_
 refine a2z (c8g hm hx.f) rfl ?_
 rintro r s1 ⟨pid,mid,sid,rfl,g0,g1,g2⟩
 refine zY0 ?_
 refine a2z (b60 hm ho hx.f hx.e hnh.fit hi (mo.tree.length+1) k hk (by omega) he _ g0 g1 g2) rfl ?_
 rintro r s2 ⟨rfl,fr⟩
 refine zY0 ?_
 exact ⟨rfl,rfl⟩
theorem c5Y (hm:MoF m mo ps) (ho:N1 mo) (hf:W6 mo) (hx:X2 mo x st) {p:Nat} (hp:p<mo.procs.length) {e:Ed} (he:a21 mo.tree mo.chans.length (pAt mo.procs p).places (pAt mo.procs p).vars e) :
 Eqc vfs 62 [.agg [m.dt,.int .i64 m.g,m.dc,m.dv,m.dp,m.ds,.bool m.b],.agg [x.da,x.dv,x.dc,.int .i64 st.hold],.int .i64 (p:Int),.agg [.int .i64 (e.frm:Int),.int .i64 (e.to:Int),.int .i64 (e.act:Int),.int .i64 e.expr,.int .i64 e.var,.int .i64 e.chan,.bool e.keep,.int .i64 (e.node:Int)]] (.bool (mo.can st p (pAt mo.procs p) e)):=by
 refine S4 ?_
 have fm:=a1b hm
 have fx:=a0p hx.f
 have om:=hm.ones
 have ox:=hx.f.ones
 have hxf:=hx.f
 have hxa:=hxf.a
 have hmc:=hm.c
 have hpa:p<st.at'.length:=by rw [hx.fit.at'];exact hp
 have hcl:=hx.fit.chans
 unfold Mo.can Mo.ex
 have h6:e.act=0∨e.act=1∨e.act=2∨e.act=3∨e.act=4∨e.act=5:=by have:=he.act;omega
 rcases h6 with ha | ha | ha | ha | ha | ha
 ·have hex:=he.ex0 (by omega)
  rw [hex]
  refine O7 (vf:=a18) rfl ?_
  unfold a18;refine zF ?_
  refine zY (aN om (aN ox ha)) ?_
  repeat' (first|(refine Y7 (fun c=>?_) (fun c=>?_)<;>(try simp only [U5,U7,U6,U8] at c)<;>simp (disch:=(first|exact Rf.mk rfl|with_reducible assumption|omega|((repeat (first|rw [nP]|rw [nS]|rw [M3]))<;>omega)|decide)) only [go_sem,↓reduceIte,om,ox,ha,c])|(refine Z3 (fun c=>?_) (fun c=>?_)<;>(try simp only [U5,U7,U6,U8] at c)<;>simp (disch:=(first|exact Rf.mk rfl|with_reducible assumption|omega|((repeat (first|rw [nP]|rw [nS]|rw [M3]))<;>omega)|decide)) only [go_sem,↓reduceIte,om,ox,ha,c]))
  all_goals simp_all
 ·obtain ⟨k,hk1,hk2,hk3⟩:=he.ex1 (by omega)
  have hv:=a7X hm ho hf hx hp hk2 hk3
  rw [hk1]
  simp only [Int.natCast_nonneg,if_true,Int.toNat_natCast]
  generalize mo.val (O8 (pAt mo.procs p)) st k=v at *
  refine O7 (vf:=a18) rfl ?_
  unfold a18;refine zF ?_
  refine zY (aN om (aN ox (aN ha hv))) ?_
  repeat' (first|(refine Y7 (fun c=>?_) (fun c=>?_)<;>(try simp only [U5,U7,U6,U8] at c)<;>simp (disch:=(first|exact Rf.mk rfl|with_reducible assumption|omega|((repeat (first|rw [nP]|rw [nS]|rw [M3]))<;>omega)|decide)) only [go_sem,↓reduceIte,om,ox,ha,hv,c])|(refine Z3 (fun c=>?_) (fun c=>?_)<;>(try simp only [U5,U7,U6,U8] at c)<;>simp (disch:=(first|exact Rf.mk rfl|with_reducible assumption|omega|((repeat (first|rw [nP]|rw [nS]|rw [M3]))<;>omega)|decide)) only [go_sem,↓reduceIte,om,ox,ha,hv,c]))
  all_goals simp_all
 ·obtain ⟨k,hk1,hk2,hk3⟩:=he.ex1 (by omega)
  obtain ⟨q,hq1,hq2⟩:=he.c1 (by omega)
  have hv:=a7X hm ho hf hx hp hk2 hk3
  rw [hk1,hq1]
  simp only [Int.natCast_nonneg,if_true,Int.toNat_natCast]
  generalize mo.val (O8 (pAt mo.procs p)) st k=v at *
  refine O7 (vf:=a18) rfl ?_
  unfold a18;refine zF ?_
  refine zY (aN om (aN ox (aN ha hv))) ?_
  repeat' (first|(refine Y7 (fun c=>?_) (fun c=>?_)<;>(try simp only [U5,U7,U6,U8] at c)<;>simp (disch:=(first|exact Rf.mk rfl|with_reducible assumption|omega|((repeat (first|rw [nP]|rw [nS]|rw [M3]))<;>omega)|decide)) only [go_sem,↓reduceIte,om,ox,ha,hv,c])|(refine Z3 (fun c=>?_) (fun c=>?_)<;>(try simp only [U5,U7,U6,U8] at c)<;>simp (disch:=(first|exact Rf.mk rfl|with_reducible assumption|omega|((repeat (first|rw [nP]|rw [nS]|rw [M3]))<;>omega)|decide)) only [go_sem,↓reduceIte,om,ox,ha,hv,c]))
  all_goals simp_all
 ·have hex:=he.ex0 (by omega)
  obtain ⟨q,hq1,hq2⟩:=he.c1 (by omega)
  rw [hex,hq1]
  refine O7 (vf:=a18) rfl ?_
  unfold a18;refine zF ?_
  refine zY (aN om (aN ox ha)) ?_
  repeat' (first|(refine Y7 (fun c=>?_) (fun c=>?_)<;>(try simp only [U5,U7,U6,U8] at c)<;>simp (disch:=(first|exact Rf.mk rfl|with_reducible assumption|omega|((repeat (first|rw [nP]|rw [nS]|rw [M3]))<;>omega)|decide)) only [go_sem,↓reduceIte,om,ox,ha,c])|(refine Z3 (fun c=>?_) (fun c=>?_)<;>(try simp only [U5,U7,U6,U8] at c)<;>simp (disch:=(first|exact Rf.mk rfl|with_reducible assumption|omega|((repeat (first|rw [nP]|rw [nS]|rw [M3]))<;>omega)|decide)) only [go_sem,↓reduceIte,om,ox,ha,c]))
  all_goals simp_all
 ·obtain ⟨k,hk1,hk2,hk3⟩:=he.ex1 (by omega)
  have hv:=a7X hm ho hf hx hp hk2 hk3
  rw [hk1]
  simp only [Int.natCast_nonneg,if_true,Int.toNat_natCast]
  generalize mo.val (O8 (pAt mo.procs p)) st k=v at *
  refine O7 (vf:=a18) rfl ?_
  unfold a18;refine zF ?_
  refine zY (aN om (aN ox (aN ha hv))) ?_
  repeat' (first|(refine Y7 (fun c=>?_) (fun c=>?_)<;>(try simp only [U5,U7,U6,U8] at c)<;>simp (disch:=(first|exact Rf.mk rfl|with_reducible assumption|omega|((repeat (first|rw [nP]|rw [nS]|rw [M3]))<;>omega)|decide)) only [go_sem,↓reduceIte,om,ox,ha,hv,c])|(refine Z3 (fun c=>?_) (fun c=>?_)<;>(try simp only [U5,U7,U6,U8] at c)<;>simp (disch:=(first|exact Rf.mk rfl|with_reducible assumption|omega|((repeat (first|rw [nP]|rw [nS]|rw [M3]))<;>omega)|decide)) only [go_sem,↓reduceIte,om,ox,ha,hv,c]))
  all_goals simp_all
 ·obtain ⟨k,hk1,hk2,hk3⟩:=he.ex1 (by omega)
  have hv:=a7X hm ho hf hx hp hk2 hk3
  rw [hk1]
  simp only [Int.natCast_nonneg,if_true,Int.toNat_natCast]
  generalize mo.val (O8 (pAt mo.procs p)) st k=v at *
  refine O7 (vf:=a18) rfl ?_
  unfold a18;refine zF ?_
  refine zY (aN om (aN ox (aN ha hv))) ?_
  repeat' (first|(refine Y7 (fun c=>?_) (fun c=>?_)<;>(try simp only [U5,U7,U6,U8] at c)<;>simp (disch:=(first|exact Rf.mk rfl|with_reducible assumption|omega|((repeat (first|rw [nP]|rw [nS]|rw [M3]))<;>omega)|decide)) only [go_sem,↓reduceIte,om,ox,ha,hv,c])|(refine Z3 (fun c=>?_) (fun c=>?_)<;>(try simp only [U5,U7,U6,U8] at c)<;>simp (disch:=(first|exact Rf.mk rfl|with_reducible assumption|omega|((repeat (first|rw [nP]|rw [nS]|rw [M3]))<;>omega)|decide)) only [go_sem,↓reduceIte,om,ox,ha,hv,c]))
  all_goals simp_all
theorem c3z (hm:MoF m mo ps) (hx:X2 mo x st) {i:Nat} (hi:i<mo.chans.length):Eqc vfs 63 [.agg [m.dt,.int .i64 m.g,m.dc,m.dv,m.dp,m.ds,.bool m.b],.agg [x.da,x.dv,x.dc,.int .i64 st.hold],.int .i64 (i:Int)] (.bool ((R7 mo.chans i).lossy&&decide (0<(cAt st.chans i).length))):=by
 have om:=hm.ones
 have ox:=hx.f.ones
 have hxf:=hx.f
 have hmc:=hm.c
 have ci:i<st.chans.length:=by rw [hx.fit.chans];exact hi
 refine S4 ?_
 refine O7 (vf:=a84) rfl ?_
 unfold a84;refine zF ?_
 refine zY (aN om (aN ox (aN hi ci))) ?_
 repeat' (first|(refine Y7 (fun c=>?_) (fun c=>?_)<;>(try simp only [U5,U7,U6,U8] at c)<;>simp (disch:=(first|exact Rf.mk rfl|with_reducible assumption|omega|((repeat (first|rw [nP]|rw [nS]|rw [M3]))<;>omega)|decide)) only [go_sem,↓reduceIte,om,ox,hi,ci,c])|(refine Z3 (fun c=>?_) (fun c=>?_)<;>(try simp only [U5,U7,U6,U8] at c)<;>simp (disch:=(first|exact Rf.mk rfl|with_reducible assumption|omega|((repeat (first|rw [nP]|rw [nS]|rw [M3]))<;>omega)|decide)) only [go_sem,↓reduceIte,om,ox,hi,ci,c]))
 all_goals simp_all
theorem b9N (hm:MoF m mo ps) (hx:X2 mo x st) {i:Nat} (hi:i<mo.chans.length):Eqc vfs 64 [.agg [m.dt,.int .i64 m.g,m.dc,m.dv,m.dp,m.ds,.bool m.b],.agg [x.da,x.dv,x.dc,.int .i64 st.hold],.int .i64 (i:Int)] (.bool ((R7 mo.chans i).copying&&decide (0<(cAt st.chans i).length)&&decide (((cAt st.chans i).length:Int)<(R7 mo.chans i).room))):=by
 have om:=hm.ones
 have ox:=hx.f.ones
 have hxf:=hx.f
 have hmc:=hm.c
 have ci:i<st.chans.length:=by rw [hx.fit.chans];exact hi
 refine S4 ?_
 refine O7 (vf:=a9D) rfl ?_
 unfold a9D;refine zF ?_
 refine zY (aN om (aN ox (aN hi ci))) ?_
 repeat' (first|(refine Y7 (fun c=>?_) (fun c=>?_)<;>(try simp only [U5,U7,U6,U8] at c)<;>simp (disch:=(first|exact Rf.mk rfl|with_reducible assumption|omega|((repeat (first|rw [nP]|rw [nS]|rw [M3]))<;>omega)|decide)) only [go_sem,↓reduceIte,om,ox,hi,ci,c])|(refine Z3 (fun c=>?_) (fun c=>?_)<;>(try simp only [U5,U7,U6,U8] at c)<;>simp (disch:=(first|exact Rf.mk rfl|with_reducible assumption|omega|((repeat (first|rw [nP]|rw [nS]|rw [M3]))<;>omega)|decide)) only [go_sem,↓reduceIte,om,ox,hi,ci,c]))
 all_goals simp_all
end Go.Proofs.YtnjlhebkhjcagaaGreat
namespace Go.Proofs.YtnjlhebkhjcagaaGreat
open Go.V
set_option maxRecDepth 100000
set_option maxHeartbeats 4000000
variable {m:MdX} {mo:Mo} {ps:List (Pr×PrD)} {x:StD} {st:Stt}
theorem c0X (hm:MoF m mo ps) (ho:N1 mo) (hf:W6 mo) (hx:X2 mo x st):a4m vfs 39 [.agg [m.dt,.int .i64 m.g,m.dc,m.dv,m.dp,m.ds,.bool m.b],.agg [x.da,x.dv,x.dc,.int .i64 st.hold]] fun d=>FL 4 d (V0 (mo.moves st)):=by
 have fm:=a1b hm
 have fx:=a0p hx.f
 have om:=hm.ones
 have ox:=hx.f.ones
 have hxf:=hx.f
 have hmc:=hm.c
 have hcl:=hx.fit.chans
 have hnp:=ho.np
 have hnc:=ho.nc
 have hh:=hx.fit.hold
 have hnh:=b1I ho hx
 have hfb:=a90 hm ho hf hnh
 rw [decide_eq_true hx.fit.hold] at hfb
 refine a2U (vf:=a9Y) rfl ?_
 unfold a9Y;refine zF ?_
 refine zY (aN om (aN ox (aN fm (aN fx hfb)))) ?_
 have hp0:Hp ((k4.empty.push (.cells [m.dt,.int .i64 m.g,m.dc,m.dv,m.dp,m.ds,.bool m.b])).push (.cells [x.da,x.dv,x.dc,.int .i64 st.hold])) [] [(0,[m.dt,.int .i64 m.g,m.dc,m.dv,m.dp,m.ds,.bool m.b]),(1,[x.da,x.dv,x.dc,.int .i64 st.hold])]:=⟨List.nodup_nil,by simp,by simp [Has],by
  intro y hy
  simp only [List.mem_cons,List.not_mem_nil,or_false] at hy
  rcases hy with rfl | rfl
  ·exact zZ0
  ·simp (disch:=(first|exact Rf.mk rfl|with_reducible assumption|omega|((repeat (first|rw [nP]|rw [nS]|rw [M3]))<;>omega)|decide)) only [go_sem,↓reduceIte]⟩
 generalize (k4.empty.push (.cells [m.dt,.int .i64 m.g,m.dc,m.dv,m.dp,m.ds,.bool m.b])).push (.cells [x.da,x.dv,x.dc,.int .i64 st.hold])=s0 at *
 generalize hR:[(0,[m.dt,.int .i64 m.g,m.dc,m.dv,m.dp,m.ds,.bool m.b]),(1,[x.da,x.dv,x.dc,.int .i64 st.hold])]=R at hp0
 have hg:∀ {s E},Hp s E R->s.get 0=some (.cells [m.dt,.int .i64 m.g,m.dc,m.dv,m.dp,m.ds,.bool m.b])/\s.get 1=some (.cells [x.da,x.dv,x.dc,.int .i64 st.hold]):=fun h=>by
  subst hR
  exact ⟨h.r (0,_) (by simp),h.r (1,_) (by simp)⟩
 refine a1c [0,1,2,3,4,10,14,16,17,55,59,60,61,66,75] (fun f s=>∃E,Rp (f 5) 4 (V0 (mo.mvP st mo.procs.length)) E/\Hp s E R) ?_ ?_
 ·refine S2 [0,1,2,3,4,10,14,16,17,55,59,60,61,66,75] 0 mo.procs.length (fun i f s=>f 18=.int .i64 (i:Int)/\∃E,Rp (f 5) 4 (V0 (mo.mvP st i)) E/\Hp s E R) (.mk rfl) (by omega) ⟨rfl,[],.inl ⟨rfl,rfl,rfl⟩,hp0⟩ ?_
  rintro i f s hi ⟨hE,E,hr,hp⟩
  obtain ⟨g0,g1⟩:=hg hp
  have l0:=M7 g0
  have l1:=M7 g1
  by_cases ci:i<mo.procs.length
  ·have hp2:=hp.fr (a2i (z:=.cells [.str (bs []),.int .i64 0,.nils,.int .i64 0,.nils,.nils,.nils,.nils]) (o:=.cells [.str (pAt mo.procs i).name,.int .i64 ((pAt mo.procs i).copy:Int),(prX ps i).dl,.int .i64 ((pAt mo.procs i).places:Int),(prX ps i).dr,(prX ps i).de,(prX ps i).dn,(prX ps i).dv]))
   by_cases ch:0<=st.hold/\st.hold≠(i:Int)
   ·have e:mo.movesP st i=[]:=by rw [Mo.movesP_eq,if_pos ch]
    have h1:¬ st.hold=-1:=by omega
    have h2:=ch.2
    refine zY (aN hE (aN ci (aN g0 (aN g1 (aN om (aN ox (aN h1 h2))))))) ?_
    rw [Mo.mvP_succ,e,List.append_nil]
    exact ⟨E,hr,hp2⟩
   ·have e:mo.movesP st i=mo.mvE st i (pAt mo.procs i).edges.length:=by rw [Mo.movesP_eq,if_neg ch]
    have hel:=(ho.pr _ (V1 ci)).el
    have h2:¬ st.hold=-1->(st.hold=(i:Int))=True:=fun h=>eq_true (by omega)
    have hmi:(mo.mvP st i).length<=16000:=Nat.le_trans (Mo.mvP_len ho hi) (by omega)
    by_cases h1:st.hold=-1<;>simp (disch:=(first|exact Rf.mk rfl|with_reducible assumption|omega|((repeat (first|rw [nP]|rw [nS]|rw [M3]))<;>omega)|decide)) only [go_sem,↓reduceIte,hE,ci,g0,g1,om,ox,h1,h2]
    all_goals
     refine S2 [0,1,2,3,4,6,7,10,14,16,17,18,19,31,33,34,55,59,60,61,66,75] 0 (pAt mo.procs i).edges.length (fun j f s=>f 35=.int .i64 (j:Int)/\∃E,Rp (f 5) 4 (V0 (mo.mvP st i++mo.mvE st i j)) E/\Hp s E R) (.mk rfl) (by omega) ⟨rfl,E,by rw [show mo.mvE st i 0=[] from rfl,List.append_nil];exact hr,hp2⟩ ?_
     rintro j f s hj ⟨hE,E,hr,hp⟩
     obtain ⟨g0,g1⟩:=hg hp
     have l0:=M7 g0
     have l1:=M7 g1
     by_cases cj:j<(pAt mo.procs i).edges.length
     ·have hc:=c5Y hm ho hf hx ci ((ho.pr _ (V1 ci)).inv.ed _ (a1A cj))
      have fe:=a9C (e:=eAt (pAt mo.procs i).edges j)
      have hp3:=hp.fr (a2i (z:=.cells [.int .i64 0,.int .i64 0,.int .i64 0,.int .i64 0,.int .i64 0,.int .i64 0,.bool false,.int .i64 0]) (o:=.cells [.int .i64 ((eAt (pAt mo.procs i).edges j).frm:Int),.int .i64 ((eAt (pAt mo.procs i).edges j).to:Int),.int .i64 ((eAt (pAt mo.procs i).edges j).act:Int),.int .i64 (eAt (pAt mo.procs i).edges j).expr,.int .i64 (eAt (pAt mo.procs i).edges j).var,.int .i64 (eAt (pAt mo.procs i).edges j).chan,.bool (eAt (pAt mo.procs i).edges j).keep,.int .i64 ((eAt (pAt mo.procs i).edges j).node:Int)]))
      refine zY (aN hE (aN ci (aN cj (aN g0 (aN g1 (aN om (aN ox hc))))))) ?_
      refine Y7 (fun c=>?_) (fun c=>?_)
      ·refine zY (aN hE (aN ci cj)) ?_
       have:=Mo.mvE_len (mo:=mo) (st:=st) (i:=i) (j:=j)
       refine a3f ⟨0,i,j,0⟩ rfl hr hp3 (by decide) (by simp;omega) ?_
       intro d' s' E' hr' hp'
       refine zY hE ?_
       refine ⟨cj,E',?_,hp'⟩
       rw [Mo.mvE_succ,c,if_pos rfl,<- List.append_assoc]
       exact hr'
      ·refine zY hE ?_
       refine ⟨cj,E,?_,hp3⟩
       rw [Mo.mvE_succ,c,if_neg (by simp),List.append_nil]
       exact hr
     ·obtain rfl:j=(pAt mo.procs i).edges.length:=by omega
      refine zY (aN hE (aN ci (aN g0 (aN g1 (aN om ox))))) ?_
      rw [Mo.mvP_succ,e]
      exact ⟨E,hr,hp⟩
  ·obtain rfl:i=mo.procs.length:=by omega
   refine zY (aN hE (aN ci (aN g0 (aN g1 (aN om ox))))) ?_
   exact ⟨E,hr,hp⟩
 ·rintro f s ⟨E,hr,hp⟩
  obtain ⟨g0,g1⟩:=hg hp
  have hmi:(mo.mvP st mo.procs.length).length<=16000:=Nat.le_trans (Mo.mvP_len ho (Nat.le_refl _)) (by omega)
  by_cases ch:st.hold=-1
  rotate_left
  ·have hn:¬ st.hold<0:=by omega
   have e0:mo.moves st=mo.mvP st mo.procs.length:=by rw [Mo.moves_eq,if_neg hn,List.append_nil]
   rw [e0]
   obtain ⟨d',h1,h2⟩:=a3A hr hp (fun e h=>h) (a2X _) (a4e _)
   refine zY (aN g0 (aN g1 (aN om (aN ox (aN ch h1))))) ?_
   exact ⟨_,rfl,h2⟩
  have hn:st.hold<0:=by omega
  have e0:mo.moves st=mo.mvP st mo.procs.length++mo.mvC st mo.chans.length:=by rw [Mo.moves_eq,if_pos hn]
  rw [e0]
  refine zY (aN g0 (aN g1 (aN om (aN ox ch)))) ?_
  refine a1c [0,1,2,3,4,6,7,8,9,14,16,17,18,19,31,33,34,35,36,44,55,59] (fun f s=>∃E,Rp (f 5) 4 (V0 (mo.mvP st mo.procs.length++mo.mvC st mo.chans.length)) E/\Hp s E R) ?_ ?_
  ·refine S2 [0,1,2,3,4,6,7,8,9,14,16,17,18,19,31,33,34,35,36,44,55,59] 0 mo.chans.length (fun i f s=>f 60=.int .i64 (i:Int)/\∃E,Rp (f 5) 4 (V0 (mo.mvP st mo.procs.length++mo.mvC st i)) E/\Hp s E R) (.mk rfl) (by omega) ⟨rfl,E,?_,hp⟩ ?_
   ·rw [show mo.mvC st 0=[] from rfl,List.append_nil];exact hr
   clear hr hp g0 g1
   rintro i f s hi ⟨hE,E,hr,hp⟩
   obtain ⟨g0,g1⟩:=hg hp
   have l0:=M7 g0
   have l1:=M7 g1
   by_cases ci:i<mo.chans.length
   ·have hmc':=Mo.mvC_len (mo:=mo) (st:=st) (i:=i)
    have e1:mo.mvC st (i+1)=mo.mvC st i++mo.movesC st i:=Mo.mvC_succ
    unfold Mo.movesC at e1
    have hl:=c3z hm hx ci
    have hc:=b9N hm hx ci
    generalize ((R7 mo.chans i).lossy&&decide (0<(cAt st.chans i).length))=bl at *
    generalize ((R7 mo.chans i).copying&&decide (0<(cAt st.chans i).length)&&decide (((cAt st.chans i).length:Int)<(R7 mo.chans i).room))=bc at *
    cases bl
    ·cases bc
     ·refine zY (aN hE (aN ci (aN g0 (aN g1 (aN om (aN ox (aN hl hc))))))) ?_
      rw [e1]
      exact ⟨E,by simpa using hr,hp⟩
     ·refine zY (aN hE (aN ci (aN g0 (aN g1 (aN om (aN ox (aN hl hc))))))) ?_
      refine a3f ⟨2,0,0,i⟩ rfl hr hp (by decide) (by simp;omega) ?_
      rintro d1 s1 E1 hr1 hp1
      refine zY (aN hE ci) ?_
      rw [e1]
      exact ⟨E1,by simpa using hr1,hp1⟩
    ·refine zY (aN hE (aN ci (aN g0 (aN g1 (aN om (aN ox hl)))))) ?_
     refine a3f ⟨1,0,0,i⟩ rfl hr hp (by decide) (by simp;omega) ?_
     rintro d1 s1 E1 hr1 hp1
     obtain ⟨k0,k1⟩:=hg hp1
     have j0:=M7 k0
     have j1:=M7 k1
     cases bc
     ·refine zY (aN hE (aN ci (aN k0 (aN k1 (aN om (aN ox hc)))))) ?_
      rw [e1]
      exact ⟨E1,by simpa using hr1,hp1⟩
     ·refine zY (aN hE (aN ci (aN k0 (aN k1 (aN om (aN ox hc)))))) ?_
      refine a3f ⟨2,0,0,i⟩ rfl hr1 hp1 (by decide) (by simp;omega) ?_
      rintro d2 s2 E2 hr2 hp2
      refine zY (aN hE ci) ?_
      rw [e1]
      exact ⟨E2,by simpa using hr2,hp2⟩
   ·obtain rfl:i=mo.chans.length:=by omega
    refine zY (aN hE ci) ?_
    exact ⟨E,hr,hp⟩
  ·rintro f s ⟨E,hr,hp⟩
   obtain ⟨d',h1,h2⟩:=a3A hr hp (fun e h=>h) (a2X _) (a4e _)
   refine zY h1 ?_
   exact ⟨_,rfl,h2⟩
theorem b28 (hm:MoF m mo ps) (ho:N1 mo) (hf:W6 mo) (hx:X2 mo x st):∃d,Eqc vfs 39 [.agg [m.dt,.int .i64 m.g,m.dc,m.dv,m.dp,m.ds,.bool m.b],.agg [x.da,x.dv,x.dc,.int .i64 st.hold]] d/\FL 4 d (V0 (mo.moves st)):=by
 obtain ⟨d,h1,h2⟩:=c0X hm ho hf hx
 exact ⟨d,S4 h1,h2⟩
end Go.Proofs.YtnjlhebkhjcagaaGreat
namespace Go.V
structure a0L (p:Pr):Prop where
 two:2<=p.places
 ed:∀e∈p.edges,e.frm≠1
theorem a0L.put {p:Pr} (h:a0L p) {frm to act node:Nat} {x v c:Int} (hf:frm≠1):a0L (p.put frm to act node x v c) :=
 ⟨h.two,fun e he=>by
  simp only [Pr.put,List.mem_append,List.mem_singleton] at he
  rcases he with he | rfl
  ·exact h.ed e he
  ·exact hf⟩
theorem a0L.place {p:Pr} (h:a0L p):a0L p.place:=⟨Nat.le_succ_of_le h.two,h.ed⟩
theorem a0L.idle {p:Pr} (h:a0L p) (n:Nat) (i:Int):a0L (p.idle n i):=by
 unfold Pr.idle
 split
 ·exact ⟨h.two,h.ed⟩
 ·exact h
theorem a0L.mark {p:Pr} (h:a0L p) (n to:Nat):a0L { p with edges:=a0C n to p.edges } :=
 ⟨h.two,fun e he=>by
  simp only [a0C,List.mem_append,List.mem_map] at he
  rcases he with he | ⟨e',he,rfl⟩
  ·exact h.ed e (List.mem_of_mem_take he)
  ·exact h.ed e' (List.mem_of_mem_drop he)⟩
def StN (st:Pr->Nat->Nat->Nat->Pr):Prop:=∀p k frm to,a0L p->frm≠1->a0L (st p k frm to)
theorem a9F {st:Pr->Nat->Nat->Nat->Pr} (hs:StN st) {node:Nat}:∀ {ks:List Nat} {p:Pr} {frm to:Nat},a0L p->frm≠1->a0L (a01 st node p ks frm to)
 | [],p,frm,to,h,hf=>h.put hf
 | [k],p,frm,to,h,hf=>hs p k frm to h hf
 | k::k'::ks,p,frm,to,h,hf=>a9F hs (ks:=k'::ks) (hs _ k frm _ h.place hf) (by have:=h.two;omega)
theorem a5j {t:List Nd} {st:Pr->Nat->Nat->Nat->Pr} (hs:StN st) {p:Pr} {b frm to:Nat} (h:a0L p) (hf:frm≠1):a0L (W9 t st p b frm to):=a9F hs h hf
theorem b19 {t:List Nd} {st:Pr->Nat->Nat->Nat->Pr} (hs:StN st) {frm to:Nat} (hf:frm≠1):∀ {ks:List Nat} {p:Pr},a0L p->a0L (Z0 t st frm to p ks)
 | [],p,h=>h
 | k::ks,p,h=>by
   unfold Z0
   refine b19 hs hf ?_
   split
   ·exact a5j hs (h.place.put hf) (by have:=h.two;omega)
   ·exact a5j hs h hf
theorem b4v (t:List Nd) (ch:List ByteArray):∀f,StN (N2 t ch f)
 | 0=>fun p k frm to h _=>h
 | f+1=>by
   have hs:=b4v t ch f
   intro p k frm to h hf
   have h2:=h.two
   have hp1:∀ {act node:Nat} {x v c:Int},a0L (W9 t (N2 t ch f) (p.place.put frm p.places act node x v c) ((nd t k).kid 1) p.places to):=a5j hs (h.place.put hf) (by omega)
   unfold N2
   simp only
   repeat' split
   all_goals first
    | exact h.put hf
    | exact (h.idle _ _).put hf
    | exact b19 hs hf (h.idle _ _)
    | exact hp1.put hf
    | exact (a5j hs h hf).mark _ _
    | exact a5j hs ((h.place.put hf).put hf) (by omega)
    | exact a5j hs (hp1.place.put hf) (by have:=(hp1 (act:=4) (node:=k) (x:=((nd t k).kid 0:Nat)) (v:=-1) (c:=-1)).two;omega)
theorem b9A (t:List Nd) (o:Org):a0L (a0I t o):=a9F (b4v t _ _) ⟨Nat.le_refl _,fun e he=>by simp [pr1] at he⟩ (by decide)
structure a7Q (t:List Nd) (a:Gc):Prop where
 pw:a.l.Pairwise fun o o'=>o.nv+N7 t (nd t o.k)<=o'.nv
 le:∀o∈a.l,o.nv+N7 t (nd t o.k)<=a.nv
theorem c2P {t:List Nd} {a:Gc} {k:Nat} (h:a7Q t a):a7Q t (a2o t a k):=by
 unfold a2o
 split
 ·refine ⟨List.pairwise_append.2 ⟨h.pw,?_,fun o ho o' ho'=>?_⟩,fun o ho=>?_⟩
  ·unfold a2T
   rw [List.pairwise_map]
   refine List.Pairwise.imp ?_ List.pairwise_lt_range
   intro c c' hc
   have:(c+1)*N7 t (nd t k)<=c'*N7 t (nd t k):=Nat.mul_le_mul_right _ hc
   rw [Nat.succ_mul] at this
   simp only
   omega
  ·obtain ⟨c,hc,rfl⟩:=List.mem_map.1 ho'
   have:=h.le o ho
   simp only
   omega
  ·rcases List.mem_append.1 ho with ho | ho
   ·have:=h.le o ho
    simp only;omega
   ·obtain ⟨c,hc,rfl⟩:=List.mem_map.1 ho
    rw [List.mem_range] at hc
    have:(c+1)*N7 t (nd t k)<=((nd t k).num 0).toNat*N7 t (nd t k):=Nat.mul_le_mul_right _ hc
    rw [Nat.succ_mul] at this
    simp only
    omega
 ·split
  ·exact ⟨h.pw,h.le⟩
  ·exact h
theorem c8h (t:List Nd):(U4 t).Pairwise fun o o'=>o.nv+N7 t (nd t o.k)<=o'.nv:=by
 have:a7Q t (a0s t (nd t 0).ks):=by
  unfold a0s
  exact a4E (P:=a7Q t) ⟨List.Pairwise.nil,fun o ho=>by simp at ho⟩ fun a k _ ha=>c2P ha
 exact this.pw
theorem c6C {t:List Nd}:∀o∈U4 t,o.seen<=(gat t).vs.length/\(gat t).vs.length<=o.nv:=fun o ho=>by
 obtain ⟨_,_,_,h1,_⟩:=a5O ho
 exact ⟨h1,(a3b ho).lo⟩
structure MoQ (mo:Mo):Prop where
 one:∀i,i<mo.procs.length->∀e∈(pAt mo.procs i).edges,e.frm≠1
 own:∀i j,i<mo.procs.length->j<mo.procs.length->i≠j->∀v∈(pAt mo.procs i).locals,v∉(pAt mo.procs j).vars
 ll:∀i,i<mo.procs.length->(pAt mo.procs i).locals.length<=mo.vars.length
theorem b1K {t:List Nd} (h:O2 t) (hS:a1k t):MoQ (U2 t):=by
 have e:(U2 t).procs=(U4 t).map (a0I t):=(a4F t).1
 have el:(U2 t).procs.length=(U4 t).length:=by rw [e,List.length_map]
 have ep:∀i (hi:i<(U4 t).length),pAt (U2 t).procs i=a0I t (U4 t)[i]:=fun i hi=>by
  rw [a2M (by omega)];simp [e]
 refine ⟨fun i hi ed hed=>?_,fun i j hi hj hij v hv hv'=>?_,fun i hi=>?_⟩
 ·rw [ep i (by omega)] at hed
  exact (b9A t _).ed ed hed
 ·rw [el] at hi hj
  rw [ep i hi] at hv
  rw [ep j hj] at hv'
  have g1:=(a3V h hS (List.getElem_mem hi)).2
  have g2:=(a3V h hS (List.getElem_mem hj)).2
  rw [g1.locals] at hv
  rw [g2.vars] at hv'
  have lo:=c6C (t:=t)
  simp only [pr1,List.mem_map,List.mem_range,List.mem_append] at hv hv'
  obtain ⟨a,ha,rfl⟩:=hv
  obtain ⟨l1,l2⟩:=lo _ (List.getElem_mem hi)
  obtain ⟨l3,l4⟩:=lo _ (List.getElem_mem hj)
  have pw:=List.pairwise_iff_getElem.1 (c8h t)
  rcases hv' with hv' | ⟨b,hb,hv'⟩
  ·omega
  ·by_cases c:i<j
   ·have:=pw i j hi hj c
    omega
   ·have:=pw j i hj hi (by omega)
    omega
 ·rw [el] at hi
  rw [ep i hi,(a3V h hS (List.getElem_mem hi)).2.locals]
  have h1:=(a3b (List.getElem_mem hi)).hi
  have h2:(U2 t).vars.length=(gbt t).vs.length:=rfl
  simp only [pr1,List.length_map,List.length_range]
  omega
end Go.V
namespace Go.V
variable {mo:Mo} {st:Stt}
def a6A (p:Pr) (f:Ft):Bool:=(List.range 32).all fun b=>!((f.reads ||| f.writes).testBit b)||p.locals.contains b
def a1I (mo:Mo) (p:Pr) (e:Ed):Bool :=
 !e.keep&&!(O5 mo p e).part&&decide ((O5 mo p e).sends=0)&&decide ((O5 mo p e).recvs=0)&&decide ((O5 mo p e).sizes=0)&&a6A p (O5 mo p e)&&(decide (e.to=1)||decide (e.frm<e.to))
def lvE (p:Pr) (k:Nat):List Ed:=p.edges.filter fun e=>decide (e.frm=k)
def a13 (l:List Ed):Bool:=l.all (fun e=>decide (e.act<=1))&&decide (0<l.length)
def forkE (l:List Ed):Bool:=decide (l.length=2)&&decide ((eAt l 0).act=4)&&decide ((eAt l 1).act=5)&&decide ((eAt l 0).expr=(eAt l 1).expr)
def Mo.quiet (mo:Mo) (i k:Nat):Bool:=decide (i<mo.procs.length)&&((lvE (pAt mo.procs i) k).all (a1I mo (pAt mo.procs i))&&(a13 (lvE (pAt mo.procs i) k)||forkE (lvE (pAt mo.procs i) k)))
structure QE (mo:Mo) (p:Pr) (e:Ed):Prop where
 keep:e.keep=false
 part:(O5 mo p e).part=false
 s0:(O5 mo p e).sends=0
 r0:(O5 mo p e).recvs=0
 z0:(O5 mo p e).sizes=0
 rd:∀b,(O5 mo p e).reads.testBit b=true->b∈p.locals
 wr:∀b,(O5 mo p e).writes.testBit b=true->b∈p.locals
 to:e.to=1∨e.frm<e.to
theorem b2m (ho:N1 mo) {p:Pr} (hp:a0l mo p) {e:Ed} (he:e∈p.edges) (h:a1I mo p e=true):QE mo p e:=by
 unfold a1I a6A at h
 simp only [Bool.and_eq_true,Bool.not_eq_true',decide_eq_true_eq,List.all_eq_true,List.mem_range,Bool.or_eq_true,List.contains_iff_mem] at h
 obtain ⟨⟨⟨⟨⟨⟨h1,h2⟩,h3⟩,h4⟩,h5⟩,h6⟩,h7⟩:=h
 have hown:=a8F ho hp he
 have hv:=ho.nv
 refine ⟨h1,h2,h3,h4,h5,fun b hb=>?_,fun b hb=>?_,h7⟩
 ·have:=hp.var b (hown.reads b hb)
  rcases h6 b (by omega) with h | h
  ·rw [Nat.testBit_or,hb] at h;cases h
  ·exact h
 ·have:=hp.var b (hown.writes b hb)
  rcases h6 b (by omega) with h | h
  ·rw [Nat.testBit_or,hb,Bool.or_true] at h;cases h
  ·exact h
theorem a9q {x y:Nat} (h:∀b,x.testBit b=true->y.testBit b=true->False):x &&& y=0:=Nat.eq_of_testBit_eq fun b=>by
 rw [Nat.testBit_and,Nat.zero_testBit]
 cases hx:x.testBit b
 ·rfl
 ·cases hy:y.testBit b
  ·rfl
  ·exact (h b hx hy).elim
theorem QE.apart (ho:N1 mo) (hq:MoQ mo) {i j:Nat} (hi:i<mo.procs.length) (hj:j<mo.procs.length) (hij:i≠j) {e g:Ed} (hg:g∈(pAt mo.procs j).edges) (h:QE mo (pAt mo.procs i) e):(O5 mo (pAt mo.procs i) e).apart (O5 mo (pAt mo.procs j) g)=true:=by
 have hown:=a8F ho (ho.pr _ (V1 hj)) hg
 rw [b3l,h.s0,h.r0,h.z0]
 refine ⟨⟨a9q fun b h1 h2=>?_,by simp⟩,a9q fun b h1 h2=>?_,by simp⟩
 ·rw [Nat.testBit_or,Bool.or_eq_true] at h2
  exact hq.own i j hi hj hij b (h.wr b h1) (h2.elim (hown.reads b) (hown.writes b))
 ·rw [Nat.testBit_or,Bool.or_eq_true] at h2
  exact hq.own i j hi hj hij b (h2.elim (h.rd b) (h.wr b)) (hown.writes b h1)
theorem QE.act {p:Pr} (hp:a0l mo p) {e:Ed} (he:e∈p.edges) (h:QE mo p e):e.act≠2/\e.act≠3:=by
 have key:¬ (e.act=2∨e.act=3):=fun ha=>by
  have:=a55 hp he ha
  rw [h.s0,h.r0] at this
  simp at this
 omega
theorem a1T.refl (f:Ft) (st:Stt):a1T f st st:=⟨fun _ _=>rfl,fun _ _=>rfl⟩
theorem b16 (ho:N1 mo) {i:Nat} {p:Pr} (hp:a0l mo p) {e:Ed} (he:e∈p.edges) (z:Int):mo.can { st with hold:=z } i p e=mo.can st i p e:=by
 have h:=a7B ho hp he ((a1T.refl (O5 mo p e) st).hold z) 0
 unfold Mo.can
 rw [<- h]
theorem b3Q {st st':Stt} {i:Nat} {p:Pr} (h:∀e∈p.edges,mo.can st i p e=mo.can st' i p e):mo.someS st i p=mo.someS st' i p:=by
 unfold Mo.someS
 rw [Bool.eq_iff_iff,List.any_eq_true,List.any_eq_true]
 constructor
 ·rintro ⟨e,he,hc⟩;exact ⟨e,he,by rw [<- h e he];exact hc⟩
 ·rintro ⟨e,he,hc⟩;exact ⟨e,he,by rw [h e he];exact hc⟩
theorem b6T (ho:N1 mo) {i:Nat} {p:Pr} (hp:a0l mo p) {e:Ed} (he:e∈p.edges) (z:Int):mo.edgeS { st with hold:=z } i p e=mo.edgeS st i p e:=by
 have h:=a7B ho hp he ((a1T.refl (O5 mo p e) st).hold z) 0
 rw [a2v,a2v,<- h]
def Mo.eff (mo:Mo) (i:Nat) (e:Ed) (st:Stt):Stt:={ mo.edgeS st i (pAt mo.procs i) e with hold:=st.hold }
theorem b3c {i:Nat} (hp:a0l mo (pAt mo.procs i)) {e:Ed} (he:e∈(pAt mo.procs i).edges) (h:QE mo (pAt mo.procs i) e):mo.eff i e st=⟨st.at'.set i e.to,setO st.vars (mo.wV [] e (mo.ex (pAt mo.procs i) st e 0).1),st.chans,st.hold⟩:=by
 have ha:=h.act hp he
 unfold Mo.eff
 rw [a2v,b6x (l':=[]) (fun k=>by omega)]
 have:mo.wC (cAt st.chans e.chan.toNat) e (mo.ex (pAt mo.procs i) st e 0).1=none:=by
  unfold Mo.wC
  rw [if_neg ha.1,if_neg ha.2]
 rw [this]
 rfl
section
variable (ho:N1 mo) (hq:MoQ mo) {i j:Nat} (hi:i<mo.procs.length) (hj:j<mo.procs.length) (hij:i≠j) {e g:Ed} (he:e∈(pAt mo.procs i).edges) (hg:g∈(pAt mo.procs j).edges) (h:QE mo (pAt mo.procs i) e)
include ho hq hi hj hij he hg h
theorem b5v:mo.can (mo.edgeS st i (pAt mo.procs i) e) j (pAt mo.procs j) g=mo.can st j (pAt mo.procs j) g :=
 (b1U ho hij (ho.pr _ (V1 hi)) (ho.pr _ (V1 hj)) he hg (h.apart ho hq hi hj hij hg)).1
theorem c3R:mo.can (mo.eff i e st) j (pAt mo.procs j) g=mo.can st j (pAt mo.procs j) g:=by
 unfold Mo.eff
 rw [b16 ho (ho.pr _ (V1 hj)) hg,b5v ho hq hi hj hij he hg h]
theorem b91:mo.can (mo.doE st j (pAt mo.procs j) g) i (pAt mo.procs i) e=mo.can st i (pAt mo.procs i) e:=by
 unfold Mo.doE
 rw [b16 ho (ho.pr _ (V1 hi)) he]
 exact (b1U ho hij (ho.pr _ (V1 hi)) (ho.pr _ (V1 hj)) he hg (h.apart ho hq hi hj hij hg)).2.1
theorem c5m:mo.doE (mo.eff i e st) j (pAt mo.procs j) g=mo.eff i e (mo.doE st j (pAt mo.procs j) g):=by
 have pi:=ho.pr _ (V1 hi)
 have pj:=ho.pr _ (V1 hj)
 have e1:mo.edgeS (mo.eff i e st) j (pAt mo.procs j) g=mo.edgeS (mo.edgeS st j (pAt mo.procs j) g) i (pAt mo.procs i) e:=by
  unfold Mo.eff
  rw [b6T ho pj hg]
  exact (b1U ho hij pi pj he hg (h.apart ho hq hi hj hij hg)).2.2
 have e2:mo.edgeS (mo.doE st j (pAt mo.procs j) g) i (pAt mo.procs i) e=mo.edgeS (mo.edgeS st j (pAt mo.procs j) g) i (pAt mo.procs i) e:=by
  unfold Mo.doE
  exact b6T ho pi he _
 have e3:mo.someS (mo.edgeS (mo.edgeS st j (pAt mo.procs j) g) i (pAt mo.procs i) e) j (pAt mo.procs j)=mo.someS (mo.edgeS st j (pAt mo.procs j) g) j (pAt mo.procs j):=b3Q fun g' hg'=>b5v ho hq hi hj hij he hg' h
 have d1:∀s,mo.doE s j (pAt mo.procs j) g=⟨(mo.edgeS s j (pAt mo.procs j) g).at',(mo.edgeS s j (pAt mo.procs j) g).vars,(mo.edgeS s j (pAt mo.procs j) g).chans,if g.keep&&mo.someS (mo.edgeS s j (pAt mo.procs j) g) j (pAt mo.procs j) then (j:Int) else -1⟩:=fun _=>rfl
 have d2:∀s,mo.eff i e s=⟨(mo.edgeS s i (pAt mo.procs i) e).at',(mo.edgeS s i (pAt mo.procs i) e).vars,(mo.edgeS s i (pAt mo.procs i) e).chans,s.hold⟩:=fun _=>rfl
 rw [d1 (mo.eff i e st),e1,e3,d2 (mo.doE st j (pAt mo.procs j) g),e2]
 rfl
end
end Go.V
namespace Go.V
variable {mo:Mo} {st:Stt}
theorem a1L {v:Mv}:v∈mo.moves st↔(v.kind=0/\v.chan=0/\v.proc<mo.procs.length/\v.edge<(pAt mo.procs v.proc).edges.length/\mo.can st v.proc (pAt mo.procs v.proc) (eAt (pAt mo.procs v.proc).edges v.edge)=true/\¬ (0<=st.hold/\st.hold≠(v.proc:Int)))∨(st.hold<0/\v.chan<mo.chans.length/\v∈mo.movesC st v.chan):=by
 unfold Mo.moves
 rw [List.mem_append]
 constructor
 ·rintro (h | h)
  ·obtain ⟨i,hi,hv⟩:=List.mem_flatMap.1 h
   obtain ⟨h1,h2⟩:=b5R hv
   obtain ⟨a,b,c,d⟩:=b5g h1
   subst b
   have hc:v.chan=0:=by
    unfold Mo.mvE at h1
    obtain ⟨k,_,e⟩:=List.mem_map.1 h1
    rw [<- e]
   exact .inl ⟨a,hc,List.mem_range.1 hi,c,d,h2⟩
  ·split at h
   ·rename_i hh
    obtain ⟨c,hc,hv⟩:=List.mem_flatMap.1 h
    obtain ⟨_,rfl,_⟩:=a4z hv
    exact .inr ⟨hh,List.mem_range.1 hc,hv⟩
   ·cases h
 ·rintro (⟨a,b,c,d,e,f⟩ | ⟨a,b,c⟩)
  ·refine .inl (List.mem_flatMap.2 ⟨v.proc,List.mem_range.2 c,?_⟩)
   rw [Mo.movesP_eq,if_neg f]
   unfold Mo.mvE
   refine List.mem_map.2 ⟨v.edge,List.mem_filter.2 ⟨List.mem_range.2 d,e⟩,?_⟩
   cases v
   simp only at a b
   subst a b
   rfl
  ·rw [if_pos a]
   exact .inr (List.mem_flatMap.2 ⟨v.chan,List.mem_range.2 b,c⟩)
structure a1d (mo:Mo) (st:Stt):Prop where
 fit:Fit mo st
 keep:∀j:Nat,st.hold=(j:Int)->mo.someS st j (pAt mo.procs j)=true
theorem b7z (ho:N1 mo) {i:Nat} (hi:i<mo.procs.length) (z:Int):mo.someS { st with hold:=z } i (pAt mo.procs i)=mo.someS st i (pAt mo.procs i):=b3Q fun _ he=>b16 ho (ho.pr _ (V1 hi)) he z
theorem a1d.step (ho:N1 mo) (hf:W6 mo) (h:a1d mo st) {v:Mv} (hv:v∈mo.moves st):a1d mo (mo.doS st v):=by
 refine ⟨b5n ho hf h.fit (a8r hv),fun j hj=>?_⟩
 rcases a1L.1 hv with ⟨a,_,b,_,_,_⟩ | ⟨a,b,c⟩
 ·rw [a3w a] at hj ⊢
  unfold Mo.doE at hj ⊢
  simp only at hj
  split at hj
  ·rename_i hk
   obtain rfl:j=v.proc:=by omega
   rw [b7z ho b]
   rw [Bool.and_eq_true] at hk
   exact hk.2
  ·omega
 ·obtain ⟨k,_⟩:=a4z c
  have:(mo.doS st v).hold=st.hold:=by
   unfold Mo.doS
   rcases k with k | k
   ·rw [if_pos k]
   ·rw [if_neg (by omega),if_pos k]
  omega
def Z4 (mo:Mo) (M:Stt->List Mv):Nat->Stt->Stt->Prop
 | 0,s,t=>s=t
 | n+1,s,t=>∃v∈M s,Z4 mo M n (mo.doS s v) t
theorem Z4.inv (ho:N1 mo) (hf:W6 mo):∀ {n:Nat} {s t:Stt},Z4 mo mo.moves n s t->a1d mo s->a1d mo t
 | 0,s,t,h,hi=>by cases h;exact hi
 | n+1,s,t,⟨v,hv,h⟩,hi=>h.inv ho hf (hi.step ho hf hv)
structure QP (mo:Mo) (i k:Nat):Prop where
 lt:i<mo.procs.length
 ed:∀e∈(pAt mo.procs i).edges,e.frm=k->QE mo (pAt mo.procs i) e
section
variable (ho:N1 mo) (hq:MoQ mo) {i k:Nat} (h:QP mo i k) {e:Ed} (he:e∈(pAt mo.procs i).edges) (hk:e.frm=k)
include ho hq h he hk
theorem c3b {v:Mv} (hv:v∈mo.moves st) (hn:¬ (v.kind=0/\v.proc=i)):v∈mo.moves (mo.eff i e st)/\mo.doS (mo.eff i e st) v=mo.eff i e (mo.doS st v)/\mo.can (mo.doS st v) i (pAt mo.procs i) e=mo.can st i (pAt mo.procs i) e/\nAt (mo.doS st v).at' i=nAt st.at' i/\(mo.doS st v).hold≠(i:Int)∨st.hold=(i:Int):=by
 have hqe:=h.ed e he hk
 have hp:=ho.pr _ (V1 h.lt)
 by_cases hh:st.hold=(i:Int)
 ·exact .inr hh
 refine .inl ?_
 have ee:∀s,mo.eff i e s=_:=fun s=>b3c (st:=s) hp he hqe
 have hx:∀s s':Stt,s.vars=s'.vars->mo.ex (pAt mo.procs i) s e 0=mo.ex (pAt mo.procs i) s' e 0:=fun s s' e1=>a7B ho hp he ⟨fun b _=>by rw [e1],fun b hb=>by rw [hqe.z0] at hb;simp at hb⟩ 0
 rcases a1L.1 hv with ⟨a,b,c,d,f,g⟩ | ⟨a,b,c⟩
 ·have hij:i≠v.proc:=fun e1=>hn ⟨a,e1.symm⟩
  have hg:=a1A d
  refine ⟨a1L.2 (.inl ⟨a,b,c,d,?_,?_⟩),?_,?_,?_,?_⟩
  ·rw [c3R ho hq h.lt c hij he hg hqe];exact f
  ·exact g
  ·rw [a3w a,a3w a,c5m ho hq h.lt c hij he hg hqe]
  ·rw [a3w a,b91 ho hq h.lt c hij he hg hqe]
  ·rw [a3w a]
   show nAt (mo.edgeS st v.proc _ _).at' i=_
   rw [a2v]
   exact a7c (Ne.symm hij)
  ·rw [a3w a]
   unfold Mo.doE
   simp only
   split<;>omega
 ·obtain ⟨k1,_⟩:=a4z c
  have hd:∃C,∀s,s.chans=st.chans->mo.doS s v={ s with chans:=C }:=by
   unfold Mo.doS
   rcases k1 with k1 | k1
   ·exact ⟨_,fun s hs=>by rw [if_pos k1,hs]⟩
   ·exact ⟨_,fun s hs=>by rw [if_neg (by omega),if_pos k1,hs]⟩
  obtain ⟨C,hC⟩:=hd
  have e1:=hC st rfl
  have e2:=hC (mo.eff i e st) (by rw [ee])
  refine ⟨a1L.2 (.inr ⟨a,b,?_⟩),?_,?_,?_,?_⟩
  ·have:mo.movesC (mo.eff i e st) v.chan=mo.movesC st v.chan:=by
    unfold Mo.movesC
    rw [ee]
   rw [this];exact c
  ·rw [e1,e2,ee,ee,hx { st with chans:=C } st rfl]
  ·rw [e1]
   have h3:=hx { st with chans:=C } st rfl
   have ha:=hqe.act hp he
   unfold Mo.can
   rw [h3,if_neg ha.1,if_neg ha.2,if_neg ha.1,if_neg ha.2]
  ·rw [e1]
  ·rw [e1];exact hh
end
end Go.V
namespace Go.V
variable {mo:Mo} {st:Stt}
theorem b9i {i:Nat} {p:Pr} {e:Ed} (h:mo.can st i p e=true):nAt st.at' i=e.frm:=by
 unfold Mo.can at h
 simp only [Bool.and_eq_true,decide_eq_true_eq] at h
 exact h.1.1
theorem a9e (ho:N1 mo) {i k:Nat} (h:mo.quiet i k=true):QP mo i k:=by
 unfold Mo.quiet at h
 simp only [Bool.and_eq_true,decide_eq_true_eq] at h
 refine ⟨h.1,fun e he hk=>b2m ho (ho.pr _ (V1 h.1)) he ?_⟩
 exact List.all_eq_true.1 h.2.1 e (List.mem_filter.2 ⟨he,by simpa using hk⟩)
theorem a8q {i:Nat} (hi:i<mo.procs.length) {e:Ed} (he:e∈(pAt mo.procs i).edges) (hc:mo.can st i (pAt mo.procs i) e=true) (hh:¬ (0<=st.hold/\st.hold≠(i:Int))):∃v,v∈mo.moves st/\v.kind=0/\v.proc=i/\mo.doS st v=mo.doE st i (pAt mo.procs i) e:=by
 obtain ⟨j,hj,rfl⟩:=List.getElem_of_mem he
 refine ⟨⟨0,i,j,0⟩,a1L.2 (.inl ⟨rfl,rfl,hi,hj,by simp only;rw [a16 hj];exact hc,hh⟩),rfl,rfl,?_⟩
 rw [a3w rfl]
 simp only
 rw [a16 hj]
theorem b3S (ho:N1 mo) {i:Nat} {e:Ed} (hk:e.keep=false) (hh:st.hold=-1):mo.doE st i (pAt mo.procs i) e=mo.eff i e st:=by
 rw [c3P hk]
 unfold Mo.eff
 rw [a2v,hh]
theorem b42 (ho:N1 mo) (hf:W6 mo) (hq:MoQ mo) {i k:Nat} (h:QP mo i k):∀ {n:Nat} {s t:Stt},Z4 mo mo.moves n s t->a1d mo s->nAt s.at' i=k->s.hold≠(i:Int) ->
 (nAt t.at' i=k/\t.hold≠(i:Int)/\∀e∈(pAt mo.procs i).edges,e.frm=k->mo.can s i (pAt mo.procs i) e=true->mo.can t i (pAt mo.procs i) e=true/\Z4 mo mo.moves n (mo.eff i e s) (mo.eff i e t)) ∨
 (∃e∈(pAt mo.procs i).edges,e.frm=k/\mo.can s i (pAt mo.procs i) e=true/\∃m,n=m+1/\Z4 mo mo.moves m (mo.eff i e s) t)
 | 0,s,t,hp,hI,ha,hh=>by
   cases hp
   exact .inl ⟨ha,hh,fun e _ _ hc=>⟨hc,rfl⟩⟩
 | n+1,s,t,⟨v,hv,hp⟩,hI,ha,hh=>by
   by_cases hn:v.kind=0/\v.proc=i
   ·obtain ⟨a,b⟩:=hn
    subst b
    rcases a1L.1 hv with ⟨_,_,c,d,f,g⟩ | ⟨_,_,c⟩
    ·have he:=a1A d
     have hk:(eAt (pAt mo.procs v.proc).edges v.edge).frm=k:=by rw [<- b9i f,ha]
     have hqe:=h.ed _ he hk
     refine .inr ⟨_,he,hk,f,n,rfl,?_⟩
     have:=hI.fit.hold
     rw [a3w a,b3S ho hqe.keep (by omega)] at hp
     exact hp
    ·obtain ⟨k1,_⟩:=a4z c
     omega
   ·have hl:=h.lt
    have base:∀e∈(pAt mo.procs i).edges,e.frm=k->v∈mo.moves (mo.eff i e s)/\mo.doS (mo.eff i e s) v=mo.eff i e (mo.doS s v)/\mo.can (mo.doS s v) i (pAt mo.procs i) e=mo.can s i (pAt mo.procs i) e:=fun e he hk=>by
     rcases c3b ho hq h he hk hv hn with ⟨a,b,c,_,_⟩ | c
     ·exact ⟨a,b,c⟩
     ·exact absurd c hh
    have stay:nAt (mo.doS s v).at' i=nAt s.at' i/\(mo.doS s v).hold≠(i:Int):=by
     rcases a1L.1 hv with ⟨a,b,c,d,f,g⟩ | ⟨a,b,c⟩
     ·rw [a3w a]
      refine ⟨?_,?_⟩
      ·show nAt (mo.edgeS s v.proc _ _).at' i=_
       rw [a2v]
       exact a7c fun e=>hn ⟨a,e⟩
      ·unfold Mo.doE
       simp only
       split
       ·intro e;exact hn ⟨a,by omega⟩
       ·omega
     ·obtain ⟨k1,_⟩:=a4z c
      unfold Mo.doS
      rcases k1 with k1 | k1
      ·rw [if_pos k1];exact ⟨rfl,hh⟩
      ·rw [if_neg (by omega),if_pos k1];exact ⟨rfl,hh⟩
    rcases b42 ho hf hq h hp (hI.step ho hf hv) (stay.1.trans ha) stay.2 with ⟨a,b,c⟩ | ⟨e,he,hk,hc,m,rfl,hm⟩
    ·refine .inl ⟨a,b,fun e he hk hc=>?_⟩
     obtain ⟨b1,b2,b3⟩:=base e he hk
     obtain ⟨c1,c2⟩:=c e he hk (by rw [b3];exact hc)
     exact ⟨c1,v,b1,by rw [b2];exact c2⟩
    ·obtain ⟨b1,b2,b3⟩:=base e he hk
     exact .inr ⟨e,he,hk,by rw [<- b3];exact hc,m+1,rfl,v,b1,by rw [b2];exact hm⟩
def Mo.rk (mo:Mo) (st:Stt):Nat:=((List.range mo.procs.length).map fun i=>if nAt st.at' i=1 then 0 else (pAt mo.procs i).places-nAt st.at' i).sum
theorem c0z {f g:Nat->Nat}:∀ {n:Nat},(∀j,j<n->f j=g j)->((List.range n).map f).sum=((List.range n).map g).sum:=fun {n} h=>by
 rw [List.map_congr_left fun j hj=>h j (List.mem_range.1 hj)]
theorem b40 {f g:Nat->Nat} {i:Nat}:∀ {n:Nat},i<n->(∀j,j<n->j≠i->f j=g j)->f i<g i->((List.range n).map f).sum<((List.range n).map g).sum
 | 0,h,_,_=>absurd h (by omega)
 | n+1,h,k,hl=>by
   rw [List.range_succ,List.map_append,List.map_append,List.sum_append,List.sum_append]
   simp only [List.map_cons,List.map_nil,List.sum_cons,List.sum_nil]
   by_cases c:i=n
   ·subst c
    rw [c0z fun j hj=>k j (by omega) (by omega)]
    omega
   ·have:=b40 (n:=n) (by omega) (fun j hj=>k j (by omega)) hl
    have:=k n (by omega) (Ne.symm c)
    omega
theorem b9I (ho:N1 mo) (hq:MoQ mo) {i:Nat} (h:QP mo i (nAt st.at' i)) (hI:a1d mo st) {e:Ed} (he:e∈(pAt mo.procs i).edges) (hk:e.frm=nAt st.at' i):mo.rk (mo.eff i e st)<mo.rk st:=by
 have hqe:=h.ed e he hk
 have hl:=h.lt
 have hp:=ho.pr _ (V1 hl)
 have hlen:=hI.fit.at'
 have hat:(mo.eff i e st).at'=st.at'.set i e.to:=by rw [b3c hp he hqe]
 unfold Mo.rk
 rw [hat]
 refine b40 hl (fun j hj hn=>by rw [a7c (Ne.symm hn)]) ?_
 have e1:nAt (st.at'.set i e.to) i=e.to:=by simp [nAt,List.getD,hlen,hl]
 have h1:=hq.one i hl e he
 have h2:=(hp.inv.ed e he).f
 have h3:=(hp.inv.ed e he).to
 rw [e1,if_neg (by omega:¬ nAt st.at' i=1)]
 rcases hqe.to with q | q
 ·rw [if_pos q];omega
 ·split<;>omega
theorem b8O {b:Nat} (h:mo.askF.reads.testBit b=true):b<mo.globals:=by
 apply Decidable.byContradiction
 intro hb
 have:mo.askF.reads.testBit b=false:=by
  unfold Mo.askF
  refine a4E (P:=fun f:Ft=>f.reads.testBit b=false) (by simp) fun f k _ hf=>a93 (fun w=>?_) _ k f hf
  unfold Mo.varG
  split
  ·rw [Nat.testBit_two_pow]
   exact decide_eq_false (by omega)
  ·simp
 rw [this] at h
 cases h
theorem c49 (ho:N1 mo) {i:Nat} (hi:i<mo.procs.length) {e:Ed} (he:e∈(pAt mo.procs i).edges) (h:QE mo (pAt mo.procs i) e):mo.safeS (mo.eff i e st)=mo.safeS st:=by
 have hp:=ho.pr _ (V1 hi)
 refine (b8q ho ((b6g hp he ?_ ?_).hold _)).symm
 ·refine a9q fun b h1 h2=>?_
  have:=(hp.loc b (h.wr b h1)).2
  have:=b8O h2
  omega
 ·rw [h.s0,h.r0];simp
def Mo.deadS (mo:Mo) (st:Stt):Bool:=decide (mo.moves st=[])&&!((List.range mo.procs.length).all fun i=>(pAt mo.procs i).rest.getD (nAt st.at' i) false)
def Mo.badS (mo:Mo) (st:Stt):Bool:=!mo.safeS st||mo.dead&&mo.deadS st
def Mo.firstQ (mo:Mo) (st:Stt):Option Nat:=(List.range mo.procs.length).find? fun i=>mo.quiet i (nAt st.at' i)
def Mo.ample (mo:Mo) (st:Stt):List Mv:=if st.hold<0 then match mo.firstQ st with
    | some i=>(mo.moves st).filter fun v=>decide (v.kind=0)&&decide (v.proc=i)
    | none=>mo.moves st
 else mo.moves st
theorem a36 {v:Mv} (h:v∈mo.ample st):v∈mo.moves st:=by
 unfold Mo.ample at h
 split at h
 ·split at h
  ·exact (List.mem_filter.1 h).1
  ·exact h
 ·exact h
def a8E (mo:Mo):Prop:=∀i st,mo.quiet i (nAt st.at' i)=true->∃e∈(pAt mo.procs i).edges,e.frm=nAt st.at' i/\mo.can st i (pAt mo.procs i) e=true
end Go.V
namespace Go.V
def ExP (P:Nat->Prop) (p:Pr):Prop:=∀e∈p.edges,∀n:Nat,e.expr=(n:Int)->P n
variable {P:Nat->Prop}
theorem ExP.put {p:Pr} (h:ExP P p) {frm to act node:Nat} {x v c:Int} (hx:∀n:Nat,x=(n:Int)->P n):ExP P (p.put frm to act node x v c):=fun e he=>by
 simp only [Pr.put,List.mem_append,List.mem_singleton] at he
 rcases he with he | rfl
 ·exact h e he
 ·exact hx
theorem a8t:∀n:Nat,(-1:Int)=(n:Int)->P n:=fun n h=>by omega
theorem ExP.idle {p:Pr} (h:ExP P p) (n:Nat) (i:Int):ExP P (p.idle n i):=by
 unfold Pr.idle
 split
 ·exact h
 ·exact h
theorem ExP.mark {p:Pr} (h:ExP P p) (n to:Nat):ExP P { p with edges:=a0C n to p.edges }:=fun e he=>by
 simp only [a0C,List.mem_append,List.mem_map] at he
 rcases he with he | ⟨e',he,rfl⟩
 ·exact h e (List.mem_of_mem_take he)
 ·exact h e' (List.mem_of_mem_drop he)
def StX (P:Nat->Prop) (st:Pr->Nat->Nat->Nat->Pr) (k:Nat):Prop:=∀p frm to,ExP P p->ExP P (st p k frm to)
theorem a3Z {st:Pr->Nat->Nat->Nat->Pr} {node:Nat}:∀ {ks:List Nat} {p:Pr} {frm to:Nat},(∀k∈ks,StX P st k)->ExP P p->ExP P (a01 st node p ks frm to)
 | [],p,frm,to,_,h=>h.put a8t
 | [k],p,frm,to,hs,h=>hs k (by simp) p frm to h
 | k::k'::ks,p,frm,to,hs,h=>a3Z (ks:=k'::ks) (fun x hx=>hs x (by simp only [List.mem_cons] at hx ⊢;exact .inr hx)) (hs k (by simp) p.place frm _ h)
theorem b6w {t:List Nd} {st:Pr->Nat->Nat->Nat->Pr} {frm to:Nat}:∀ {ks:List Nat} {p:Pr},(∀b∈ks,∀k∈(nd t b).ks,StX P st k)->ExP P p->ExP P (Z0 t st frm to p ks)
 | [],p,_,h=>h
 | k::ks,p,hs,h=>by
   unfold Z0
   refine b6w (fun b hb=>hs b (by simp [hb])) ?_
   split
   ·exact a3Z (hs k (by simp)) (ExP.put (p:=p.place) h a8t)
   ·exact a3Z (hs k (by simp)) h
theorem b33 {t:List Nd} (ht:a0f t) (ch:List ByteArray) (hc:∀j,j<t.length->P j->∀k∈(nd t j).ks,P k):∀f k,k<t.length->P k->a17 (nd t k).kind->StX P (N2 t ch f) k
 | 0,k,_,_,_=>fun p frm to h=>h
 | f+1,k,hk,hP,hst=>by
   intro p frm to h
   have hno:=ht.node k hk
   have hks:=ht.ks hk
   have bl:∀b∈(nd t k).ks,(nd t b).kind=16->∀x∈(nd t b).ks,StX P (N2 t ch f) x:=fun b hb hb16 x hx=>by
    have h1:=hks b hb
    have h2:=ht.ks h1.2 x hx
    exact b33 ht ch hc f x h2.2 (hc b h1.2 (hc k hk hP b hb) x hx) ((ht.node b h1.2).block hb16 x hx)
   have k0:1<=(nd t k).kids.length->∀n:Nat,(((nd t k).kid 0:Nat):Int)=(n:Int)->P n:=fun h1 n e=>by
    obtain rfl:(nd t k).kid 0=n:=by omega
    exact hc k hk hP _ (W1 (by omega))
   unfold N2
   simp only
   by_cases c6:(nd t k).kind=6
   ·rw [if_pos c6];exact h.put (k0 (by have:=hno.one (by omega);omega))
   rw [if_neg c6]
   by_cases c7:(nd t k).kind=7
   ·rw [if_pos c7];exact h.put (k0 (by have:=hno.one (by omega);omega))
   rw [if_neg c7]
   by_cases c8:(nd t k).kind=8
   ·rw [if_pos c8];exact (h.idle _ _).put a8t
   rw [if_neg c8]
   by_cases c9:(nd t k).kind=9
   ·rw [if_pos c9];exact (h.idle _ _).put (k0 (by have:=hno.one (by omega);omega))
   rw [if_neg c9]
   by_cases c10:(nd t k).kind=10
   ·rw [if_pos c10];exact b6w (fun b hb=>bl b hb ((hno.choose c10).2 b hb)) (h.idle _ _)
   rw [if_neg c10]
   by_cases c11:(nd t k).kind=11
   ·rw [if_pos c11]
    obtain ⟨l1,l2,l3,l4⟩:=hno.cond c11
    have k0:=k0 (by omega)
    have m1:=W1 (x:=nd t k) (i:=1) (by omega)
    have i1:ExP P (p.place.put frm p.places 4 k ((nd t k).kid 0:Nat) (-1) (-1)):=ExP.put (p:=p.place) h k0
    have s1:=a3Z (node:=(nd t k).kid 1) (frm:=p.places) (to:=to) (bl _ m1 l3) i1
    split
    ·exact ExP.put s1 k0
    ·have m2:=W1 (x:=nd t k) (i:=2) (by omega)
     exact a3Z (bl _ m2 (l4 (by omega))) (ExP.put (p:=Pr.place _) s1 k0)
   rw [if_neg c11]
   by_cases c12:(nd t k).kind=12
   ·rw [if_pos c12]
    obtain ⟨l1,l2,l3⟩:=hno.loop c12
    have k0:=k0 (by omega)
    exact a3Z (bl _ (W1 (x:=nd t k) (i:=1) (by omega)) l3) (ExP.put (ExP.put (p:=p.place) h k0) k0)
   rw [if_neg c12]
   by_cases c13:(nd t k).kind=13
   ·rw [if_pos c13]
    obtain ⟨l1,l2⟩:=hno.atom c13
    exact ExP.mark (a3Z (bl _ (W1 (x:=nd t k) (i:=0) (by omega)) l2) h) _ _
   rw [if_neg c13]
   split<;>exact h.put a8t
theorem b5k {ch:List ByteArray} {vb:ByteArray->Nat} {x:Nd} {f:Ft} (h:(V5 ch vb x f).part=false):f.part=false/\¬ (x.kind=22/\(x.num 0=7∨x.num 0=8)):=by
 unfold V5 at h
 split at h
 ·exact ⟨h,fun e=>by omega⟩
 split at h
 ·exact ⟨h,fun e=>by omega⟩
 split at h
 ·cases h
 ·rename_i c;exact ⟨h,c⟩
theorem b1D {g:Ft->Nat->Ft} (hg:∀f k,(g f k).part=false->f.part=false):∀ {l:List Nat} {f:Ft},(l.foldl g f).part=false->f.part=false/\∀k∈l,∃f',(g f' k).part=false
 | [],f,h=>⟨h,fun k hk=>by simp at hk⟩
 | x::l,f,h=>by
   obtain ⟨h1,h2⟩:=b1D hg (l:=l) (f:=g f x) h
   refine ⟨hg f x h1,fun k hk=>?_⟩
   rcases List.mem_cons.1 hk with rfl | hk
   ·exact ⟨f,h1⟩
   ·exact h2 k hk
theorem b7d {t:List Nd} {ch:List ByteArray} {vb:ByteArray->Nat}:∀n k f,(X7 t ch vb n k f).part=false->f.part=false
 | 0,k,f,h=>h
 | n+1,k,f,h=>by
   unfold X7 at h
   exact (b5k (b1D (fun f k=>b7d n k f) h).1).1
theorem b3A {t:List Nd} (ht:a0f t) {ch ch':List ByteArray} {vb:ByteArray->Nat} {look:ByteArray->Option Nat} {st:Stt} (hc:∀j,j<t.length->P j->∀k∈(nd t j).ks,P k) (hv:∀k,P k->(nd t k).kind=18->look ((nd t k).word 0)≠none) (hl:∀k,P k->(nd t k).kind=19->idxB ch ((nd t k).word 0)<ch.length):∀ (n k:Nat) (f:Ft),k<t.length->a0U (nd t k).kind->P k->t.length<=k+n->(X7 t ch' vb n k f).part=false->(S8 t ch look st n k).2=true
 | 0,k,f,hk,_,_,hn,_=>by omega
 | n+1,k,f,hk,hx,hP,hn,hp=>by
   have hno:=ht.node k hk
   obtain ⟨_,hkx⟩:=a57 hno hx
   unfold X7 at hp
   obtain ⟨p1,p2⟩:=b1D (fun f k=>b7d n k f) hp
   have p1:=(b5k p1).2
   have hkid:∀i,i<(nd t k).kids.length->(S8 t ch look st n ((nd t k).kid i)).2=true:=fun i hi=>by
    have hm:=W1 hi
    have h2:=ht.ks hk _ hm
    obtain ⟨f',hf'⟩:=p2 _ hm
    exact b3A ht hc hv hl n _ f' h2.2 (hkx i hi) (hc k hk hP _ hm) (by omega) hf'
   unfold S8
   simp only
   by_cases q17:(nd t k).kind=17
   ·simp only [q17,if_true]
   simp only [q17,if_false]
   by_cases q18:(nd t k).kind=18
   ·simp only [q18,if_true]
    cases hlk:look ((nd t k).word 0) with
    | none=>exact absurd hlk (hv k hP q18)
    | some v=>rfl
   simp only [q18,if_false]
   by_cases q19:(nd t k).kind=19
   ·simp only [q19,if_true,hl k hP q19]
   simp only [q19,if_false]
   by_cases q20:(nd t k).kind=20
   ·have:=(hno.one (by omega)).1
    simp only [q20,if_true,hkid 0 (by omega)]
   simp only [q20,if_false]
   by_cases q21:(nd t k).kind=21
   ·have:=(hno.one (by omega)).1
    simp only [q21,if_true,hkid 0 (by omega)]
   simp only [q21,if_false]
   by_cases q22:(nd t k).kind=22
   ·obtain ⟨b1,_,_,b4,b5⟩:=hno.bin q22
    simp only [q22,if_true,hkid 0 (by omega),hkid 1 (by omega),Bool.and_self]
    unfold X5
    rw [if_neg (by omega)]
    repeat' split
    all_goals rfl
   unfold a0U at hx
   omega
end Go.V
namespace Go.V
theorem b85 {t:List Nd} (h:O2 t) (hS:a1k t) {o:Org} (ho:o∈U4 t):∃P:Nat->Prop,(∀j,j<t.length->P j->∀k∈(nd t j).ks,P k)/\ExP P (a0I t o)/\(∀k,P k->(nd t k).kind=18->(nd t k).word 0∈(pr1 t o).names)/\(∀k,P k->(nd t k).kind=19->(nd t k).word 0∈chs t):=by
 obtain ⟨b,b1,hsub,k2,_,_⟩:=a7G h hS ho
 have hok:=a3b ho
 have hpc:=a5e ((h.ok.node o.k k2).proc hok.kind)
 have hclo:∀j,j<t.length->(o.k<=j/\j<b)->∀k∈(nd t j).ks,o.k<=k/\k<b:=fun j _ hj k hk=>by
  obtain ⟨z,hz,rfl⟩:=List.mem_map.1 hk
  have:=hsub.down j hj.1 hj.2 z hz
  omega
 obtain ⟨i,hi,e,hseen⟩:=hok.at'
 have hkm:o.k∈(nd t 0).ks:=e▸List.getElem_mem hi
 have hle:=hsub.le
 obtain ⟨r,hr⟩:=b0w t ((nd t 0).ks.take i) ((nd t 0).ks.drop i)
 rw [List.take_append_drop] at hr
 have hg:(gat t).vs=(W7 t ((nd t 0).ks.take i)).vs++r:=hr
 have hv:(gat t).vs.take o.seen=(W7 t ((nd t 0).ks.take i)).vs:=by rw [hg,hseen,List.take_left]
 refine ⟨fun j=>o.k<=j/\j<b,hclo,a3Z (fun k hk=>?_) fun ed he=>by simp [pr1] at he,fun k hP h18=>?_,fun k hP h19=>?_⟩
 ·have hkk:=h.ok.ks k2 k (List.mem_of_mem_drop hk)
  exact b33 h.ok _ hclo _ k hkk.2 (hclo o.k k2 ⟨Nat.le_refl _,hsub.lt⟩ k (List.mem_of_mem_drop hk)) (hpc.1 k hk)
 ·have:=b3L h hi (by rw [e];exact hok.kind) (by rw [e];exact hsub) (by rw [e];exact a4a h hkm hsub) (j:=k) (by rw [e];exact hP.1) hP.2 (hS.use k (by omega) (.inr h18))
  rw [e,<- hv] at this
  exact List.mem_append.2 this
 ·exact b2H h (by omega) (hS.chan k (by omega) (.inr (.inl h19)))
theorem b5i {l:List ByteArray} {w:ByteArray} (h:w∈l):idxB l w<l.length:=List.findIdx_lt_length_of_exists ⟨w,h,by simp⟩
theorem b9u {mo:Mo} {p:Pr} {e:Ed}:(O5 mo p e).part=(a3m mo p e).part:=by
 rw [a4Y]
 unfold a3R
 repeat' split
 all_goals rfl
theorem c4i {t:List Nd} (h:O2 t) (hS:a1k t) (hoM:N1 (U2 t)) {i:Nat} (hi:i<(U2 t).procs.length) {e:Ed} (he:e∈(pAt (U2 t).procs i).edges) (hp:(O5 (U2 t) (pAt (U2 t).procs i) e).part=false) (st:Stt):((U2 t).ex (pAt (U2 t).procs i) st e 0).2=true:=by
 have e0:(U2 t).procs=(U4 t).map (a0I t):=(a4F t).1
 have hi':i<(U4 t).length:=by rw [e0,List.length_map] at hi;exact hi
 have ep:pAt (U2 t).procs i=a0I t (U4 t)[i]:=by rw [a2M hi];simp [e0]
 have hpo:=hoM.pr _ (V1 hi)
 have heo:=hpo.inv.ed e he
 unfold Mo.ex
 split
 ·rename_i h0
  have hx:e.act=1∨e.act=2∨e.act=4∨e.act=5:=by
   have:=heo.ex0
   have:=heo.act
   omega
  obtain ⟨n,hn,hn2,hn3⟩:=heo.ex1 hx
  obtain ⟨P,hc,hex,hv,hl⟩:=b85 h hS (List.getElem_mem hi')
  rw [b9u] at hp
  unfold a3m at hp
  rw [if_pos h0,hn,Int.toNat_natCast] at hp
  rw [hn,Int.toNat_natCast]
  have hnm:=(a3V h hS (List.getElem_mem hi')).2.names
  refine b3A h.ok hc (fun k hk h18=>?_) (fun k hk h19=>?_) _ n ⟨0,0,0,0,0,false⟩ hn2 hn3 ?_ (by show t.length<=_+(t.length+1);omega) hp
  ·have:=b5i (hv k hk h18)
   rw [<- hnm,<- ep] at this
   unfold O8
   rw [if_pos this]
   simp
  ·exact b5i (hl k hk h19)
  ·rw [ep] at he
   exact hex e he n hn
 ·rfl
theorem b6Z {t:List Nd} (h:O2 t) (hS:a1k t) (hoM:N1 (U2 t)):a8E (U2 t):=by
 intro i st hq
 have hqq:=hq
 unfold Mo.quiet at hq
 simp only [Bool.and_eq_true,decide_eq_true_eq] at hq
 obtain ⟨hi,hall,hor⟩:=hq
 have hQ:=a9e hoM hqq
 have mem:∀e∈lvE (pAt (U2 t).procs i) (nAt st.at' i),e∈(pAt (U2 t).procs i).edges/\e.frm=nAt st.at' i:=fun e he=>by
  obtain ⟨a,b⟩:=List.mem_filter.1 he
  exact ⟨a,by simpa using b⟩
 have dx:∀e∈lvE (pAt (U2 t).procs i) (nAt st.at' i),((U2 t).ex (pAt (U2 t).procs i) st e 0).2=true:=fun e he=>c4i h hS hoM hi (mem e he).1 (hQ.ed e (mem e he).1 (mem e he).2).part st
 rw [Bool.or_eq_true] at hor
 rcases hor with hor | hor
 ·unfold a13 at hor
  simp only [Bool.and_eq_true,decide_eq_true_eq,List.all_eq_true] at hor
  have hm:=List.getElem_mem hor.2
  refine ⟨_,(mem _ hm).1,(mem _ hm).2,?_⟩
  have ha:=hor.1 _ hm
  unfold Mo.can
  rw [dx _ hm,(mem _ hm).2,if_neg (by omega),if_neg (by omega),if_neg (by omega),if_neg (by omega)]
  simp
 ·unfold forkE at hor
  simp only [Bool.and_eq_true,decide_eq_true_eq] at hor
  obtain ⟨⟨⟨f1,f2⟩,f3⟩,f4⟩:=hor
  have m0:=a1A (l:=lvE (pAt (U2 t).procs i) (nAt st.at' i)) (i:=0) (by omega)
  have m1:=a1A (l:=lvE (pAt (U2 t).procs i) (nAt st.at' i)) (i:=1) (by omega)
  generalize eAt (lvE (pAt (U2 t).procs i) (nAt st.at' i)) 0=a at *
  generalize eAt (lvE (pAt (U2 t).procs i) (nAt st.at' i)) 1=b at *
  have hab:(U2 t).ex (pAt (U2 t).procs i) st b 0=(U2 t).ex (pAt (U2 t).procs i) st a 0:=by
   unfold Mo.ex
   rw [f4]
  by_cases c:((U2 t).ex (pAt (U2 t).procs i) st a 0).1=0
  ·refine ⟨b,(mem _ m1).1,(mem _ m1).2,?_⟩
   unfold Mo.can
   rw [dx _ m1,(mem _ m1).2,hab,c,f3]
   simp
  ·refine ⟨a,(mem _ m0).1,(mem _ m0).2,?_⟩
   unfold Mo.can
   rw [dx _ m0,(mem _ m0).2,f2]
   simp [c]
end Go.V
namespace Go.V
variable {mo:Mo}
theorem b5J {x y b:Nat} (hx:x<4294967296) (hy:y<4294967296) (h1:x.testBit b=true) (h2:y.testBit b=false):¬ IntKind.u32.wrap (a6o .u32 (x:Int) (y:Int))=0:=by
 intro h
 unfold a6o at h
 have hb:b<32:=by
  apply Decidable.byContradiction
  intro hn
  have:x<2 ^ b:=Nat.lt_of_lt_of_le (show x<2 ^ 32 from hx) (Nat.pow_le_pow_right (n:=2) (by decide) (by omega:32<=b))
  rw [Nat.testBit_lt_two_pow this] at h1
  cases h1
 have hlt:=(BitVec.ofInt IntKind.u32.bits (x:Int) &&& ~~~ BitVec.ofInt IntKind.u32.bits (y:Int)).isLt
 rw [IntKind.wrap_u32] at h
 have h0:(BitVec.ofInt IntKind.u32.bits (x:Int) &&& ~~~ BitVec.ofInt IntKind.u32.bits (y:Int)).toNat=0:=by
  have:(2:Nat) ^ IntKind.u32.bits=4294967296:=rfl
  omega
 have h3:(BitVec.ofInt IntKind.u32.bits (x:Int) &&& ~~~ BitVec.ofInt IntKind.u32.bits (y:Int)).getLsbD b=false:=by
  rw [BitVec.getLsbD,h0,Nat.zero_testBit]
 rw [BitVec.getLsbD_and,BitVec.getLsbD_not] at h3
 have e1:(BitVec.ofInt IntKind.u32.bits (x:Int)).getLsbD b=x.testBit b:=by rw [BitVec.getLsbD,a5F hx]
 have e2:(BitVec.ofInt IntKind.u32.bits (y:Int)).getLsbD b=y.testBit b:=by rw [BitVec.getLsbD,a5F hy]
 rw [e1,e2,h1,h2] at h3
 have:decide (b<IntKind.u32.bits)=true:=decide_eq_true hb
 rw [this] at h3
 cases h3
def lvT (p:Pr) (k j:Nat):List Ed:=(p.edges.take j).filter fun e=>decide (e.frm=k)
theorem b58 (p:Pr) (k:Nat):lvT p k p.edges.length=lvE p k:=by unfold lvT lvE;rw [List.take_length]
theorem c6J {p:Pr} {k j:Nat} (h:j<p.edges.length):lvT p k (j+1)=lvT p k j++if (eAt p.edges j).frm=k then [eAt p.edges j] else []:=by
 unfold lvT
 rw [List.take_succ_eq_append_getElem h,List.filter_append,a16 h]
 congr 1
 by_cases c:p.edges[j].frm=k<;>simp [c]
theorem b4Z (p:Pr) (k j:Nat):(lvT p k j).length<=p.edges.length:=by
 unfold lvT
 refine Nat.le_trans (List.length_filter_le _ _) ?_
 rw [List.length_take];omega
theorem a85 (ho:N1 mo) {p:Pr} (hp:a0l mo p) {e:Ed} (he:e∈p.edges):a6A p (O5 mo p e)=true↔∀b,((O5 mo p e).reads ||| (O5 mo p e).writes).testBit b=true->b∈p.locals:=by
 unfold a6A
 simp only [List.all_eq_true,List.mem_range,Bool.or_eq_true,Bool.not_eq_true',List.contains_iff_mem]
 have hown:=a8F ho hp he
 have hv:=ho.nv
 constructor
 ·intro h b hb
  have hb32:b<32:=by
   have hb2:=hb
   rw [Nat.testBit_or,Bool.or_eq_true] at hb2
   have:=hp.var b (hb2.elim (hown.reads b) (hown.writes b))
   omega
  rcases h b hb32 with h | h
  ·rw [hb] at h;cases h
  ·exact h
 ·intro h b _
  cases hb:((O5 mo p e).reads ||| (O5 mo p e).writes).testBit b
  ·exact .inl rfl
  ·exact .inr (h b hb)
theorem b8N {i k:Nat} {e:Ed} (he:e∈(pAt mo.procs i).edges) (hk:e.frm=k) (h:a1I mo (pAt mo.procs i) e=false):mo.quiet i k=false:=by
 have:(lvE (pAt mo.procs i) k).all (a1I mo (pAt mo.procs i))=false:=by
  rw [Bool.eq_false_iff]
  intro hall
  have:=List.all_eq_true.1 hall e (List.mem_filter.2 ⟨he,by simpa using hk⟩)
  rw [h] at this;cases this
 unfold Mo.quiet
 rw [this,Bool.false_and,Bool.and_false]
theorem c1C {i k:Nat} (hi:i<mo.procs.length) (h:∀e∈(pAt mo.procs i).edges,e.frm=k->a1I mo (pAt mo.procs i) e=true):mo.quiet i k=(a13 (lvE (pAt mo.procs i) k)||forkE (lvE (pAt mo.procs i) k)):=by
 have:(lvE (pAt mo.procs i) k).all (a1I mo (pAt mo.procs i))=true:=by
  rw [List.all_eq_true]
  intro e he
  obtain ⟨a,b⟩:=List.mem_filter.1 he
  exact h e a (by simpa using b)
 unfold Mo.quiet
 rw [this,Bool.true_and,decide_eq_true hi,Bool.true_and]
theorem c8q (ho:N1 mo) {i k:Nat} (hi:i<mo.procs.length) (hk:(pAt mo.procs i).places<=k):mo.quiet i k=false:=by
 have hl:lvE (pAt mo.procs i) k=[]:=by
  unfold lvE
  rw [List.filter_eq_nil_iff]
  intro e he
  have:=((ho.pr _ (V1 hi)).inv.ed e he).f
  simp only [decide_eq_true_eq]
  omega
 unfold Mo.quiet
 rw [hl]
 simp [a13,forkE]
end Go.V
namespace Go.Proofs.YtnjlhebkhjcagaaGreat
open Go.V
set_option maxRecDepth 100000
set_option maxHeartbeats 4000000
variable {m:MdX} {mo:Mo} {ps:List (Pr×PrD)} {x:StD} {st:Stt}
theorem b7s (hm:MoF m mo ps) (ho:N1 mo) {p i:Nat} (hp:p<mo.procs.length) (hi:i<(pAt mo.procs p).edges.length) :
 Eqc vfs 41 [.agg [m.dt,.int .i64 m.g,m.dc,m.dv,m.dp,m.ds,.bool m.b],.int .i64 (p:Int),.int .i64 (i:Int)] (.tup [.agg (O5 mo (pAt mo.procs p) (eAt (pAt mo.procs p).edges i)).row,.bool true])/\(O5 mo (pAt mo.procs p) (eAt (pAt mo.procs p).edges i)).Ok:=by
 rw [a16 hi]
 have e:pAt mo.procs p=mo.procs[p]:=a2M hp
 simp only [e] at hi ⊢
 obtain ⟨⟨s,h⟩,hok⟩:=c4G hm ho hp hi
 exact ⟨S4 ⟨_,s,h,rfl⟩,hok⟩
theorem c3m {d:D} {l:List Ed} (hd:FL 8 d (U3 l)) (hl:l.length<=4000):Eqc vfs 42 [d] (.bool (a13 l)):=by
 have hln:=b0r hd
 refine S4 ?_
 refine O7 (vf:=a99) rfl ?_
 unfold a99;refine zF ?_
 refine zY hln ?_
 refine S2 [0,5,6] 0 l.length (fun i f s=>f 7=.int .i64 (i:Int)/\∀j,j<i->(eAt l j).act<=1) (.mk rfl) (by omega) ⟨rfl,fun j h=>by omega⟩ ?_
 rintro i f s hi ⟨hE,hall⟩
 by_cases ci:i<l.length
 ·have hx:=a6i hd ci (k:=.i64)
  have no:¬ (eAt l i).act<=1->a13 l=false:=fun h=>by
   unfold a13
   have:l.all (fun e=>decide (e.act<=1))=false:=by
    rw [Bool.eq_false_iff]
    intro ha
    exact h (by simpa using List.all_eq_true.1 ha _ (a1A ci))
   rw [this,Bool.false_and]
  have yes:(eAt l i).act<=1->∀j,j<i+1->(eAt l j).act<=1:=fun h j hj=>by
   by_cases ej:j=i
   ·subst ej;exact h
   ·exact hall j (by omega)
  by_cases a0:((eAt l i).act:Int)=0
  ·refine zY (aN hE (aN hln (aN ci (aN hx a0)))) ?_
   exact yes (by omega)
  by_cases a1:((eAt l i).act:Int)=1
  ·refine zY (aN hE (aN hln (aN ci (aN hx (aN a0 a1))))) ?_
   exact yes (by omega)
  ·refine zY (aN hE (aN hln (aN ci (aN hx (aN a0 a1))))) ?_
   exact (no (by omega)).symm
 ·obtain rfl:i=l.length:=by omega
  refine zY (aN hE (aN hln ci)) ?_
  unfold a13
  have:l.all (fun e=>decide (e.act<=1))=true:=by
   rw [List.all_eq_true]
   intro e he
   obtain ⟨j,hj,rfl⟩:=List.getElem_of_mem he
   have:=hall j hj
   rw [a16 hj] at this
   simpa using this
  rw [this,Bool.true_and]
theorem c3t {d:D} {l:List Ed} (hd:FL 8 d (U3 l)) (hl:l.length<=4000):Eqc vfs 43 [d] (.bool (forkE l)):=by
 have hln:=b0r hd
 refine S4 ?_
 unfold forkE
 by_cases c2:l.length=2
 ·have h0:=a6i hd (i:=0) (by omega) (k:=.i64)
  have h1:=a6i hd (i:=1) (by omega) (k:=.i64)
  have z0:((0:Nat):Int)=0:=rfl
  have z1:((1:Nat):Int)=1:=rfl
  rw [z0] at h0
  rw [z1] at h1
  refine O7 (vf:=a6l) rfl ?_
  unfold a6l;refine zF ?_
  refine zY (aN hln (aN c2 (aN h0 h1))) ?_
  repeat' (first|(refine Y7 (fun c=>?_) (fun c=>?_)<;>(try simp only [U5,U7,U6,U8] at c)<;>simp (disch:=(first|exact Rf.mk rfl|with_reducible assumption|omega|((repeat (first|rw [nP]|rw [nS]|rw [M3]))<;>omega)|decide)) only [go_sem,↓reduceIte,hln,c2,h0,h1,c])|(refine Z3 (fun c=>?_) (fun c=>?_)<;>(try simp only [U5,U7,U6,U8] at c)<;>simp (disch:=(first|exact Rf.mk rfl|with_reducible assumption|omega|((repeat (first|rw [nP]|rw [nS]|rw [M3]))<;>omega)|decide)) only [go_sem,↓reduceIte,hln,c2,h0,h1,c]))
  all_goals first | (simp_all;done) | (simp_all;omega)
 ·have c3:¬ (l.length:Int)=2:=by omega
  refine O7 (vf:=a6l) rfl ?_
  unfold a6l;refine zF ?_
  refine zY (aN hln c3) ?_
  simp [c2]
end Go.Proofs.YtnjlhebkhjcagaaGreat
namespace Go.Proofs.YtnjlhebkhjcagaaGreat
open Go.V
set_option maxRecDepth 100000
set_option maxHeartbeats 4000000
variable {m:MdX} {mo:Mo} {ps:List (Pr×PrD)} {x:StD} {st:Stt}
theorem c0j (hm:MoF m mo ps) (ho:N1 mo) (hq:MoQ mo) {i k:Nat} (hi:i<mo.procs.length):Eqc vfs 18 [.agg [m.dt,.int .i64 m.g,m.dc,m.dv,m.dp,m.ds,.bool m.b],.int .i64 (i:Int),.int .i64 (k:Int)] (.bool (mo.quiet i k)):=by
 have om:=hm.ones
 have fm:=a1b hm
 have hpo:=ho.pr _ (V1 hi)
 have hel:=hpo.el
 have hnv:=ho.nv
 have c1:¬ mo.procs.length<=i:=by omega
 refine S4 ?_
 by_cases hk:(pAt mo.procs i).places<=k
 ·rw [c8q ho hi hk]
  refine O7 (vf:=a6y) rfl ?_
  unfold a6y;refine zF ?_
  exact zZ (aN om (aN hi (aN c1 hk)))
 have hv32:∀v∈(pAt mo.procs i).locals,v<32:=fun v hv=>by have:=hpo.var v (hpo.loc v hv).1;omega
 have hll:(pAt mo.procs i).locals.length<=1000000:=by have:=hq.ll i hi;omega
 refine O7 (vf:=a6y) rfl ?_
 unfold a6y;refine zF ?_
 refine zY (aN om (aN hi (aN c1 hk))) ?_
 have hp0:Hp (((k4.empty.push (.cells [m.dt,.int .i64 m.g,m.dc,m.dv,m.dp,m.ds,.bool m.b])).push (.cells [.str (bs []),.int .i64 0,.nils,.int .i64 0,.nils,.nils,.nils,.nils])).set 1 (some (.cells [.str (pAt mo.procs i).name,.int .i64 ((pAt mo.procs i).copy:Int),(prX ps i).dl,.int .i64 ((pAt mo.procs i).places:Int),(prX ps i).dr,(prX ps i).de,(prX ps i).dn,(prX ps i).dv]))) [] [(0,[m.dt,.int .i64 m.g,m.dc,m.dv,m.dp,m.ds,.bool m.b]),(1,[.str (pAt mo.procs i).name,.int .i64 ((pAt mo.procs i).copy:Int),(prX ps i).dl,.int .i64 ((pAt mo.procs i).places:Int),(prX ps i).dr,(prX ps i).de,(prX ps i).dn,(prX ps i).dv])]:=⟨List.nodup_nil,by simp,by simp [Has],by
  intro y hy
  simp only [List.mem_cons,List.not_mem_nil,or_false] at hy
  rcases hy with rfl | rfl
  ·exact zZ0
  ·simp (disch:=(first|exact Rf.mk rfl|with_reducible assumption|omega|((repeat (first|rw [nP]|rw [nS]|rw [M3]))<;>omega)|decide)) only [go_sem,↓reduceIte]⟩
 generalize ((k4.empty.push (.cells [m.dt,.int .i64 m.g,m.dc,m.dv,m.dp,m.ds,.bool m.b])).push (.cells [.str (bs []),.int .i64 0,.nils,.int .i64 0,.nils,.nils,.nils,.nils])).set 1 (some (.cells [.str (pAt mo.procs i).name,.int .i64 ((pAt mo.procs i).copy:Int),(prX ps i).dl,.int .i64 ((pAt mo.procs i).places:Int),(prX ps i).dr,(prX ps i).de,(prX ps i).dn,(prX ps i).dv]))=s0 at *
 have hg:∀ {s E},Hp s E [(0,[m.dt,.int .i64 m.g,m.dc,m.dv,m.dp,m.ds,.bool m.b]),(1,[.str (pAt mo.procs i).name,.int .i64 ((pAt mo.procs i).copy:Int),(prX ps i).dl,.int .i64 ((pAt mo.procs i).places:Int),(prX ps i).dr,(prX ps i).de,(prX ps i).dn,(prX ps i).dv])]->s.get 0=some (.cells [m.dt,.int .i64 m.g,m.dc,m.dv,m.dp,m.ds,.bool m.b])/\s.get 1=some (.cells [.str (pAt mo.procs i).name,.int .i64 ((pAt mo.procs i).copy:Int),(prX ps i).dl,.int .i64 ((pAt mo.procs i).places:Int),(prX ps i).dr,(prX ps i).de,(prX ps i).dn,(prX ps i).dv]):=fun h=>⟨h.r (0,_) (by simp),h.r (1,_) (by simp)⟩
 refine a1c [0,1,2,3,6,7,11,12,13,14,15,38,45,46,58,59,60,61,68,92,119] (fun f s'=>f 8=.int .u32 (setF (pAt mo.procs i).locals:Int)/\s'=s0) ?_ ?_
 ·obtain ⟨g0,g1⟩:=hg hp0
  refine S2 [0,1,2,3,6,7,11,12,13,14,15,38,45,46,58,59,60,61,68,92,119] 0 (pAt mo.procs i).locals.length (fun j f s'=>f 47=.int .i64 (j:Int)/\f 8=.int .u32 (setF ((pAt mo.procs i).locals.take j):Int)/\s'=s0) (.mk rfl) (by omega) ⟨rfl,rfl,rfl⟩ ?_
  rintro j f s' hj ⟨hE,hE8,rfl⟩
  by_cases cj:j<(pAt mo.procs i).locals.length
  ·have hb:nAt (pAt mo.procs i).locals j<32:=by rw [a2O cj];exact hv32 _ (List.getElem_mem cj)
   have hu:IntKind.u64.wrap (nAt (pAt mo.procs i).locals j:Int)=(nAt (pAt mo.procs i).locals j:Int):=by rw [IntKind.wrap_u64];omega
   have hsh:=b3g hb
   have hlt:=a78 (l:=(pAt mo.procs i).locals.take j) fun v hv=>hv32 v (List.mem_of_mem_take hv)
   have hor:=a6q hlt (a5r hb)
   have hsn:setF ((pAt mo.procs i).locals.take j) ||| 2 ^ nAt (pAt mo.procs i).locals j=setF ((pAt mo.procs i).locals.take (j+1)):=by rw [List.take_succ_eq_append_getElem cj,b7V,a2O cj]
   rw [hsn] at hor
   exact zZ (aN hE (aN hE8 (aN cj (aN g0 (aN g1 (aN om (aN hu (aN hsh hor))))))))
  ·obtain rfl:j=(pAt mo.procs i).locals.length:=by omega
   rw [List.take_length] at hE8
   exact zZ (aN hE (aN hE8 cj))
 rintro f s ⟨hE8,rfl⟩
 obtain ⟨g0,g1⟩:=hg hp0
 refine zY (aN g0 (aN g1 om)) ?_
 refine a1c [0,1,2,3,7,8,10,38,45,46,47,48,58,59] (fun f s=>(∃E,Rp (f 11) 8 (U3 (lvE (pAt mo.procs i) k)) E/\Hp s E [(0,[m.dt,.int .i64 m.g,m.dc,m.dv,m.dp,m.ds,.bool m.b]),(1,[.str (pAt mo.procs i).name,.int .i64 ((pAt mo.procs i).copy:Int),(prX ps i).dl,.int .i64 ((pAt mo.procs i).places:Int),(prX ps i).dr,(prX ps i).de,(prX ps i).dn,(prX ps i).dv])])/\mo.quiet i k=(a13 (lvE (pAt mo.procs i) k)||forkE (lvE (pAt mo.procs i) k))) ?_ ?_
 ·refine S2 [0,1,2,3,7,8,10,38,45,46,47,48,58,59] 0 (pAt mo.procs i).edges.length (fun j f s=>f 60=.int .i64 (j:Int)/\(∃E,Rp (f 11) 8 (U3 (lvT (pAt mo.procs i) k j)) E/\Hp s E [(0,[m.dt,.int .i64 m.g,m.dc,m.dv,m.dp,m.ds,.bool m.b]),(1,[.str (pAt mo.procs i).name,.int .i64 ((pAt mo.procs i).copy:Int),(prX ps i).dl,.int .i64 ((pAt mo.procs i).places:Int),(prX ps i).dr,(prX ps i).de,(prX ps i).dn,(prX ps i).dv])])/\∀q,q<j->(eAt (pAt mo.procs i).edges q).frm=k->a1I mo (pAt mo.procs i) (eAt (pAt mo.procs i).edges q)=true) (.mk rfl) (by omega) ⟨rfl,⟨[],.inl ⟨rfl,rfl,rfl⟩,hp0⟩,fun q h=>by omega⟩ ?_
  clear g0 g1
  rintro j f s hj ⟨hE,⟨E,hr,hp⟩,hall⟩
  obtain ⟨g0,g1⟩:=hg hp
  have l0:=M7 g0
  have l1:=M7 g1
  by_cases cj:j<(pAt mo.procs i).edges.length
  ·have hp2:=hp.fr (a2i (z:=.cells [.int .i64 0,.int .i64 0,.int .i64 0,.int .i64 0,.int .i64 0,.int .i64 0,.bool false,.int .i64 0]) (o:=.cells [.int .i64 ((eAt (pAt mo.procs i).edges j).frm:Int),.int .i64 ((eAt (pAt mo.procs i).edges j).to:Int),.int .i64 ((eAt (pAt mo.procs i).edges j).act:Int),.int .i64 (eAt (pAt mo.procs i).edges j).expr,.int .i64 (eAt (pAt mo.procs i).edges j).var,.int .i64 (eAt (pAt mo.procs i).edges j).chan,.bool (eAt (pAt mo.procs i).edges j).keep,.int .i64 ((eAt (pAt mo.procs i).edges j).node:Int)]))
   have hls:=c6J (k:=k) cj
   by_cases cf:(eAt (pAt mo.procs i).edges j).frm=k
   rotate_left
   ·rw [if_neg cf,List.append_nil] at hls
    refine zY (aN hE (aN cj (aN g0 (aN g1 (aN om cf))))) ?_
    rw [hls]
    refine ⟨⟨E,hr,hp2⟩,fun q hq hf=>?_⟩
    by_cases eq:q=j
    ·subst eq;exact absurd hf cf
    ·exact hall q (by omega) hf
   rw [if_pos cf] at hls
   obtain ⟨hb,hok⟩:=b7s hm ho hi cj
   have hmem:=a1A cj
   by_cases hqe:a1I mo (pAt mo.procs i) (eAt (pAt mo.procs i).edges j)=true
   ·have q:=b2m ho hpo hmem hqe
    have hown:=(a85 ho hpo hmem).1 (by
     unfold a1I at hqe
     simp only [Bool.and_eq_true] at hqe
     exact hqe.1.2)
    have hclr:=c04 (a4g hok.r hok.w) (a78 hv32) fun b hb=>b0G.2 (hown b hb)
    have hor:=a6q hok.r hok.w
    unfold Ft.row at hb
    rw [q.part,q.s0,q.r0,q.z0] at hb
    have qk:=q.keep
    have z0:((0:Nat):Int)=0:=rfl
    rw [z0] at hb
    have q1:¬ ((eAt (pAt mo.procs i).edges j).to:Int)=1->¬ (eAt (pAt mo.procs i).edges j).to<=k:=fun h=>by have:=q.to;omega
    have hrow:U3 (lvT (pAt mo.procs i) k (j+1))=U3 (lvT (pAt mo.procs i) k j)++[[.int .i64 ((eAt (pAt mo.procs i).edges j).frm:Int),.int .i64 ((eAt (pAt mo.procs i).edges j).to:Int),.int .i64 ((eAt (pAt mo.procs i).edges j).act:Int),.int .i64 (eAt (pAt mo.procs i).edges j).expr,.int .i64 (eAt (pAt mo.procs i).edges j).var,.int .i64 (eAt (pAt mo.procs i).edges j).chan,.bool (eAt (pAt mo.procs i).edges j).keep,.int .i64 ((eAt (pAt mo.procs i).edges j).node:Int)]]:=by rw [hls];simp [U3,Ed.row]
    rw [cf,qk] at hrow
    by_cases ct:((eAt (pAt mo.procs i).edges j).to:Int)=1
    rotate_left
    have q1:=q1 ct
    have hr1:=hrow
    rotate_left
    have hr1:=hrow
    rw [ct] at hr1
    all_goals
     refine zY (aN hE (aN cj (aN g0 (aN g1 (aN om (aN cf (aN hb (aN fm (aN qk (aN hE8 (aN ct (aN q1 (aN hor hclr))))))))))))) ?_
     refine a7O (A:=[]) (B:=[]) hr (by rw [List.nil_append,List.append_nil];exact (hp.fr a2i).fr a2i) rfl (a3U _) (by decide) (by have:=b4Z (pAt mo.procs i) k j;simp;omega) ?_
     intro s' h1 h2 h3 h4
     refine zY (aN hE cj) ?_
     rw [hr1]
     refine ⟨⟨_,h1,by simpa using h2⟩,fun q hq hf=>?_⟩
     by_cases eq:q=j
     ·subst eq;exact hqe
     ·exact hall q (by omega) hf
   ·rw [b8N hmem cf (by simpa using hqe)]
    have hor:=a6q hok.r hok.w
    unfold Ft.row at hb
    by_cases qk:(eAt (pAt mo.procs i).edges j).keep=true
    ·exact zZ (aN hE (aN cj (aN g0 (aN g1 (aN om (aN cf (aN hb (aN fm (aN qk hE8)))))))))
    have qk:(eAt (pAt mo.procs i).edges j).keep=false:=by simpa using qk
    by_cases ct:((eAt (pAt mo.procs i).edges j).to:Int)=1
    ·have q0:=ct
     by_cases qp:(O5 mo (pAt mo.procs i) (eAt (pAt mo.procs i).edges j)).part=true
     ·exact zZ (aN hE (aN cj (aN g0 (aN g1 (aN om (aN cf (aN hb (aN fm (aN qk (aN hE8 (aN ct qp)))))))))))
     have qp:(O5 mo (pAt mo.procs i) (eAt (pAt mo.procs i).edges j)).part=false:=by simpa using qp
     by_cases qs:((O5 mo (pAt mo.procs i) (eAt (pAt mo.procs i).edges j)).sends:Int)=0
     rotate_left
     ·exact zZ (aN hE (aN cj (aN g0 (aN g1 (aN om (aN cf (aN hb (aN fm (aN qk (aN hE8 (aN ct (aN qp qs))))))))))))
     by_cases qr:((O5 mo (pAt mo.procs i) (eAt (pAt mo.procs i).edges j)).recvs:Int)=0
     rotate_left
     ·exact zZ (aN hE (aN cj (aN g0 (aN g1 (aN om (aN cf (aN hb (aN fm (aN qk (aN hE8 (aN ct (aN qp (aN qs qr)))))))))))))
     by_cases qz:((O5 mo (pAt mo.procs i) (eAt (pAt mo.procs i).edges j)).sizes:Int)=0
     rotate_left
     ·exact zZ (aN hE (aN cj (aN g0 (aN g1 (aN om (aN cf (aN hb (aN fm (aN qk (aN hE8 (aN ct (aN qp (aN qs (aN qr qz))))))))))))))
     have qo:¬ ∀b,((O5 mo (pAt mo.procs i) (eAt (pAt mo.procs i).edges j)).reads ||| (O5 mo (pAt mo.procs i) (eAt (pAt mo.procs i).edges j)).writes).testBit b=true->b∈(pAt mo.procs i).locals:=fun ho2=>hqe (by
      have h1:=(a85 ho hpo hmem).2 ho2
      unfold a1I
      simp only [qk,qp,h1,Bool.not_false,Bool.and_true,Bool.true_and,Bool.and_eq_true,Bool.or_eq_true,decide_eq_true_eq]
      omega)
     obtain ⟨b,hb2⟩:=Classical.not_forall.1 qo
     obtain ⟨hb3,hb4⟩:=Classical.not_imp.1 hb2
     have hclr:=b5J (a4g hok.r hok.w) (a78 hv32) hb3 (by rw [Bool.eq_false_iff];exact fun h=>hb4 (b0G.1 h))
     exact zZ (aN hE (aN cj (aN g0 (aN g1 (aN om (aN cf (aN hb (aN fm (aN qk (aN hE8 (aN ct (aN qp (aN qs (aN qr (aN qz (aN hor hclr))))))))))))))))
    by_cases ct2:(eAt (pAt mo.procs i).edges j).to<=k
    ·exact zZ (aN hE (aN cj (aN g0 (aN g1 (aN om (aN cf (aN hb (aN fm (aN qk (aN hE8 (aN ct ct2)))))))))))
    by_cases qp:(O5 mo (pAt mo.procs i) (eAt (pAt mo.procs i).edges j)).part=true
    ·exact zZ (aN hE (aN cj (aN g0 (aN g1 (aN om (aN cf (aN hb (aN fm (aN qk (aN hE8 (aN ct (aN ct2 qp))))))))))))
    have qp:(O5 mo (pAt mo.procs i) (eAt (pAt mo.procs i).edges j)).part=false:=by simpa using qp
    by_cases qs:((O5 mo (pAt mo.procs i) (eAt (pAt mo.procs i).edges j)).sends:Int)=0
    rotate_left
    ·exact zZ (aN hE (aN cj (aN g0 (aN g1 (aN om (aN cf (aN hb (aN fm (aN qk (aN hE8 (aN ct (aN ct2 (aN qp qs)))))))))))))
    by_cases qr:((O5 mo (pAt mo.procs i) (eAt (pAt mo.procs i).edges j)).recvs:Int)=0
    rotate_left
    ·exact zZ (aN hE (aN cj (aN g0 (aN g1 (aN om (aN cf (aN hb (aN fm (aN qk (aN hE8 (aN ct (aN ct2 (aN qp (aN qs qr))))))))))))))
    by_cases qz:((O5 mo (pAt mo.procs i) (eAt (pAt mo.procs i).edges j)).sizes:Int)=0
    rotate_left
    ·exact zZ (aN hE (aN cj (aN g0 (aN g1 (aN om (aN cf (aN hb (aN fm (aN qk (aN hE8 (aN ct (aN ct2 (aN qp (aN qs (aN qr qz)))))))))))))))
    have qo:¬ ∀b,((O5 mo (pAt mo.procs i) (eAt (pAt mo.procs i).edges j)).reads ||| (O5 mo (pAt mo.procs i) (eAt (pAt mo.procs i).edges j)).writes).testBit b=true->b∈(pAt mo.procs i).locals:=fun ho2=>hqe (by
     have h1:=(a85 ho hpo hmem).2 ho2
     unfold a1I
     simp only [qk,qp,h1,Bool.not_false,Bool.and_true,Bool.true_and,Bool.and_eq_true,Bool.or_eq_true,decide_eq_true_eq]
     omega)
    obtain ⟨b,hb2⟩:=Classical.not_forall.1 qo
    obtain ⟨hb3,hb4⟩:=Classical.not_imp.1 hb2
    have hclr:=b5J (a4g hok.r hok.w) (a78 hv32) hb3 (by rw [Bool.eq_false_iff];exact fun h=>hb4 (b0G.1 h))
    exact zZ (aN hE (aN cj (aN g0 (aN g1 (aN om (aN cf (aN hb (aN fm (aN qk (aN hE8 (aN ct (aN ct2 (aN qp (aN qs (aN qr (aN qz (aN hor hclr)))))))))))))))))
  ·obtain rfl:j=(pAt mo.procs i).edges.length:=by omega
   rw [b58] at hr
   refine zY (aN hE cj) ?_
   refine ⟨⟨E,hr,hp⟩,c1C hi fun e he hf=>?_⟩
   obtain ⟨q,hq',rfl⟩:=List.getElem_of_mem he
   have:=hall q hq'
   rw [a16 hq'] at this
   exact this hf
 ·rintro f s ⟨⟨E,hr,hp⟩,hqv⟩
  obtain ⟨d',h1,h2⟩:=a3A hr hp (fun e h=>h) (a3U _) (b3d _)
  have hic:∀l,N3 (V.ice s.get 20) (f 11::l)=(N3 (V.ice s.get 20) l).map (d'::·):=fun l=>c1N h1
  have hlen:(lvE (pAt mo.procs i) k).length<=4000:=by rw [<- b58];exact Nat.le_trans (b4Z _ _ _) hel
  have hpl:=c3m h2 hlen
  have hfk:=c3t h2 hlen
  rw [hqv]
  generalize a13 (lvE (pAt mo.procs i) k)=pl at *
  generalize forkE (lvE (pAt mo.procs i) k)=fk at *
  cases pl
  ·rw [Bool.false_or]
   simp (disch:=(first|exact Rf.mk rfl|with_reducible assumption|omega|((repeat (first|rw [nP]|rw [nS]|rw [M3]))<;>omega)|decide)) only [go_sem,↓reduceIte,hic,Bool.true_or,hpl,hfk]
  ·simp (disch:=(first|exact Rf.mk rfl|with_reducible assumption|omega|((repeat (first|rw [nP]|rw [nS]|rw [M3]))<;>omega)|decide)) only [go_sem,↓reduceIte,hic,Bool.true_or,hpl,hfk]
end Go.Proofs.YtnjlhebkhjcagaaGreat
namespace Go.Proofs.YtnjlhebkhjcagaaGreat
open Go.V
set_option maxRecDepth 100000
set_option maxHeartbeats 4000000
variable {m:MdX} {mo:Mo} {ps:List (Pr×PrD)} {x:StD} {st:Stt}
def isP (i:Nat) (v:Mv):Bool:=decide (v.kind=0)&&decide (v.proc=i)
theorem b1x {l:List Mv} {P:Mv->Bool} {j:Nat} (h:j<l.length):(l.take (j+1)).filter P=(l.take j).filter P++if P (O4 l j)=true then [O4 l j] else []:=by
 rw [List.take_succ_eq_append_getElem h,List.filter_append,a3z h]
 congr 1
 by_cases c:P l[j]=true<;>simp [c]
theorem a51 {l:List Mv} {P:Mv->Bool} {j:Nat}:((l.take j).filter P).length<=l.length:=by
 refine Nat.le_trans (List.length_filter_le _ _) ?_
 rw [List.length_take];omega
theorem c42 {i:Nat} (hi:i<mo.procs.length) (h:mo.quiet i (nAt st.at' i)=true) (hn:∀q,q<i->mo.quiet q (nAt st.at' q)=false):mo.firstQ st=some i:=by
 unfold Mo.firstQ
 rw [List.find?_eq_some_iff_getElem]
 refine ⟨h,i,by simpa using hi,by simp,fun j hj=>?_⟩
 rw [List.getElem_range,hn j hj]
 rfl
theorem c0E (hn:∀q,q<mo.procs.length->mo.quiet q (nAt st.at' q)=false):mo.firstQ st=none:=by
 unfold Mo.firstQ
 rw [List.find?_eq_none]
 intro q hq
 rw [hn q (List.mem_range.1 hq)]
 simp
theorem c2k (hm:MoF m mo ps) (ho:N1 mo) (hf:W6 mo) (hq:MoQ mo) (hx:X2 mo x st):a4m vfs 14 [.agg [m.dt,.int .i64 m.g,m.dc,m.dv,m.dp,m.ds,.bool m.b],.agg [x.da,x.dv,x.dc,.int .i64 st.hold]] fun d=>FL 4 d (V0 (mo.ample st)):=by
 have fm:=a1b hm
 have fx:=a0p hx.f
 have om:=hm.ones
 have ox:=hx.f.ones
 have hxa:=hx.f.a
 have hnp:=ho.np
 have hh:=hx.fit.hold
 have hal:=hx.fit.at'
 have hml:=a3X ho (st:=st)
 obtain ⟨dm,hmv,hfl⟩:=b28 hm ho hf hx
 have oe:=FL.one hfl
 have pe:=FL.pz hfl
 by_cases c1:(mo.moves st).length=0
 ·have e:mo.ample st=[]:=by
   have:mo.moves st=[]:=List.length_eq_zero_iff.1 c1
   unfold Mo.ample
   rw [this]
   repeat' split
   all_goals rfl
  refine a2U (vf:=a4k) rfl ?_
  unfold a4k;refine zF ?_
  refine zY (aN om (aN ox (aN fm (aN fx (aN hmv (aN hfl c1)))))) ?_
  rw [e]
  refine ⟨_,rfl,?_⟩
  rw [List.length_eq_zero_iff.1 c1] at hfl
  exact hfl
 by_cases c2:st.hold=-1
 rotate_left
 ·have e:mo.ample st=mo.moves st:=by
   unfold Mo.ample
   rw [if_neg (by omega)]
  refine a2U (vf:=a4k) rfl ?_
  unfold a4k;refine zF ?_
  refine zY (aN om (aN ox (aN fm (aN fx (aN hmv (aN hfl (aN c1 c2))))))) ?_
  rw [e]
  exact ⟨_,rfl,hfl⟩
 have c3:=eq_true c2
 refine a2U (vf:=a4k) rfl ?_
 unfold a4k;refine zF ?_
 refine zY (aN om (aN ox (aN fm (aN fx (aN hmv (aN hfl (aN c1 c3))))))) ?_
 have hp0:Hp ((k4.empty.push (.cells [m.dt,.int .i64 m.g,m.dc,m.dv,m.dp,m.ds,.bool m.b])).push (.cells [x.da,x.dv,x.dc,.int .i64 st.hold])) [] [(0,[m.dt,.int .i64 m.g,m.dc,m.dv,m.dp,m.ds,.bool m.b]),(1,[x.da,x.dv,x.dc,.int .i64 st.hold])]:=⟨List.nodup_nil,by simp,by simp [Has],by
  intro y hy
  simp only [List.mem_cons,List.not_mem_nil,or_false] at hy
  rcases hy with rfl | rfl
  ·exact zZ0
  ·simp (disch:=(first|exact Rf.mk rfl|with_reducible assumption|omega|((repeat (first|rw [nP]|rw [nS]|rw [M3]))<;>omega)|decide)) only [go_sem,↓reduceIte]⟩
 generalize (k4.empty.push (.cells [m.dt,.int .i64 m.g,m.dc,m.dv,m.dp,m.ds,.bool m.b])).push (.cells [x.da,x.dv,x.dc,.int .i64 st.hold])=s0 at *
 have hg:∀ {s E},Hp s E [(0,[m.dt,.int .i64 m.g,m.dc,m.dv,m.dp,m.ds,.bool m.b]),(1,[x.da,x.dv,x.dc,.int .i64 st.hold])]->s.get 0=some (.cells [m.dt,.int .i64 m.g,m.dc,m.dv,m.dp,m.ds,.bool m.b])/\s.get 1=some (.cells [x.da,x.dv,x.dc,.int .i64 st.hold]):=fun h=>⟨h.r (0,_) (by simp),h.r (1,_) (by simp)⟩
 obtain ⟨g0,g1⟩:=hg hp0
 have l0:=M7 g0
 have l1:=M7 g1
 refine S2 [0,1,2,3,5,21,24,25] 0 mo.procs.length (fun i f s=>f 26=.int .i64 (i:Int)/\s=s0/\∀q,q<i->mo.quiet q (nAt st.at' q)=false) (.mk rfl) (by omega) ⟨rfl,rfl,fun q h=>by omega⟩ ?_
 rintro i f s hi ⟨hE,rfl,hall⟩
 by_cases ci:i<mo.procs.length
 rotate_left
 ·have hF:=c0E (mo:=mo) (st:=st) fun q h=>hall q (by omega)
  have e:mo.ample st=mo.moves st:=by
   unfold Mo.ample
   rw [hF]
   simp
  refine zY (aN hE (aN ci hal)) ?_
  rw [e]
  exact ⟨_,rfl,hfl⟩
 have ci':i<st.at'.length:=by omega
 have hqb:=c0j hm ho hq (k:=nAt st.at' i) ci
 cases hqv:mo.quiet i (nAt st.at' i)
 ·rw [hqv] at hqb
  refine zY (aN hE (aN ci (aN ci' (aN hal (aN g0 (aN g1 (aN om (aN ox (aN fm hqb))))))))) ?_
  intro q hq'
  by_cases eq:q=i
  ·subst eq;exact hqv
  ·exact hall q (by omega)
 rw [hqv] at hqb
 have hF:=c42 ci hqv hall
 have e:mo.ample st=(mo.moves st).filter (isP i):=by
  unfold Mo.ample isP
  rw [hF,if_pos (by omega)]
 refine zY (aN hE (aN ci (aN ci' (aN hal (aN g0 (aN g1 (aN om (aN ox (aN fm (aN hqb hfl)))))))))) ?_
 refine S2 [0,1,2,3,4,5,6,7,21,24,25,26,27,35,36,37] 0 (mo.moves st).length (fun j f s=>f 38=.int .i64 (j:Int)/\∃E,Rp (f 8) 4 (V0 (((mo.moves st).take j).filter (isP i))) E/\Hp s E [(0,[m.dt,.int .i64 m.g,m.dc,m.dv,m.dp,m.ds,.bool m.b]),(1,[x.da,x.dv,x.dc,.int .i64 st.hold])]) (.mk rfl) (by omega) ⟨rfl,[],.inl ⟨rfl,rfl,rfl⟩,hp0⟩ ?_
 rintro j f s hj ⟨hE,E,hr,hp⟩
 by_cases cj:j<(mo.moves st).length
 rotate_left
 ·obtain rfl:j=(mo.moves st).length:=by omega
  rw [List.take_length] at hr
  obtain ⟨d',h1,h2⟩:=a3A hr hp (fun e h=>h) (a2X _) (a4e _)
  refine zY (aN hE (aN cj h1)) ?_
  rw [e]
  exact ⟨_,rfl,h2⟩
 have hp2:=hp.fr (a2i (z:=.cells [.int .i64 0,.int .i64 0,.int .i64 0,.int .i64 0]) (o:=.cells [.int .i64 ((O4 (mo.moves st) j).kind:Int),.int .i64 ((O4 (mo.moves st) j).proc:Int),.int .i64 ((O4 (mo.moves st) j).edge:Int),.int .i64 ((O4 (mo.moves st) j).chan:Int)]))
 have hsu:=b1x (P:=isP i) cj
 by_cases k0:((O4 (mo.moves st) j).kind:Int)=0
 rotate_left
 ·have:isP i (O4 (mo.moves st) j)=false:=by
   unfold isP
   rw [decide_eq_false (by omega),Bool.false_and]
  rw [this,if_neg (by simp),List.append_nil] at hsu
  refine zY (aN hE (aN cj (aN hfl k0))) ?_
  rw [hsu]
  exact ⟨E,hr,hp2⟩
 by_cases k1:(O4 (mo.moves st) j).proc=i
 rotate_left
 ·have:isP i (O4 (mo.moves st) j)=false:=by
   unfold isP
   rw [decide_eq_false k1,Bool.and_false]
  rw [this,if_neg (by simp),List.append_nil] at hsu
  refine zY (aN hE (aN cj (aN hfl (aN k0 k1)))) ?_
  rw [hsu]
  rw [k0] at hp2
  exact ⟨E,hr,hp2⟩
 have:isP i (O4 (mo.moves st) j)=true:=by
  unfold isP
  rw [decide_eq_true (by omega),decide_eq_true k1]
  rfl
 rw [this,if_pos rfl] at hsu
 refine zY (aN hE (aN cj (aN hfl (aN k0 k1)))) ?_
 refine a3f (O4 (mo.moves st) j) ?_ hr (hp.fr a2i) (by decide) (by have:=a51 (l:=mo.moves st) (P:=isP i) (j:=j);omega) ?_
 ·unfold Mv.row
  rw [k0,k1]
 rintro d1 s1 E1 hr1 hp1
 refine zY (aN hE cj) ?_
 rw [hsu]
 exact ⟨E1,hr1,hp1⟩
theorem b8K (hm:MoF m mo ps) (ho:N1 mo) (hf:W6 mo) (hq:MoQ mo) (hx:X2 mo x st):∃d,Eqc vfs 14 [.agg [m.dt,.int .i64 m.g,m.dc,m.dv,m.dp,m.ds,.bool m.b],.agg [x.da,x.dv,x.dc,.int .i64 st.hold]] d/\FL 4 d (V0 (mo.ample st)):=by
 obtain ⟨d,h1,h2⟩:=c2k hm ho hf hq hx
 exact ⟨d,S4 h1,h2⟩
end Go.Proofs.YtnjlhebkhjcagaaGreat
namespace Go.Proofs.YtnjlhebkhjcagaaGreat
open Go.V
set_option maxRecDepth 100000
set_option maxHeartbeats 4000000
variable {m:MdX} {mo:Mo} {ps:List (Pr×PrD)} {x:StD} {st:Stt}
theorem b7p {f:Nat} {args:List D} {P:Stt->Prop} (h:EvP vfs f args k4.empty fun r s=>∃cs st,r=.agg cs/\a1D s cs st/\P st):∃x st,a1Z vfs f args (.agg [x.da,x.dv,x.dc,.int .i64 st.hold])/\StF x st/\P st:=by
 obtain ⟨d,s',h1,cs,st,rfl,h2,h3⟩:=h
 obtain ⟨x,h4,h5⟩:=h2.frz
 exact ⟨x,st,⟨_,_,h1,h4⟩,h5,h3⟩
theorem c4z (hm:MoF m mo ps) (ho:N1 mo) (hf:W6 mo) {d:D} {raw:List Int} (hd:FI d raw) (hraw:∀n∈raw,a0K n):∃x st,Eqc vfs 13 [.agg [m.dt,.int .i64 m.g,m.dc,m.dv,m.dp,m.ds,.bool m.b],d] (.agg [x.da,x.dv,x.dc,.int .i64 st.hold])/\X2 mo x st/\st.hold=-1:=by
 obtain ⟨x,st,h1,h2,h3,h4⟩:=b7p (c5y hm ho hf hd hraw)
 exact ⟨x,st,S4 h1,⟨h2,a2s hf h3,h3⟩,h4⟩
theorem c4R {da db:D} {a b:List Nat} (ha:FL 1 da (P7 a)) (hb:FL 1 db (P7 b)) (hl:a.length<=1000000):Eqc vfs 50 [da,db] (.bool (decide (a=b))):=by
 have e:∀l:List Nat,P7 l=(l.map fun (n:Nat)=>(n:Int)).map fun n=>[.int .i64 n]:=fun l=>by simp [P7]
 rw [e] at ha hb
 have h:=a94 (a:=a.map fun (n:Nat)=>(n:Int)) (b:=b.map fun (n:Nat)=>(n:Int)) ha hb (by simpa using hl)
 have e2:decide ((a.map fun (n:Nat)=>(n:Int))=b.map fun (n:Nat)=>(n:Int))=decide (a=b):=by
  congr 1
  apply propext
  constructor
  ·intro h
   exact List.map_inj_right (f:=fun (n:Nat)=>(n:Int)) (fun x y h=>by omega) |>.1 h
  ·intro h;rw [h]
 rwa [e2] at h
theorem b9F {x':StD} {st':Stt} (hx:StF x st) (hx':StF x' st') (h1:st.at'.length<=1000) (h2:st.vars.length<=1000) (h3:∀l∈st.chans,l.length<=1000) (h4:st.chans.length<=1000):Eqc vfs 24 [.agg [x.da,x.dv,x.dc,.int .i64 st.hold],.agg [x'.da,x'.dv,x'.dc,.int .i64 st'.hold]] (.bool (decide (st=st'))):=by
 refine S4 ?_
 have ox:=hx.ones
 have ox':=hx'.ones
 have p1:=hx.a.pz
 have p2:=hx'.a.pz
 have p3:=a35 hx.v
 have p4:=a35 hx'.v
 have i1:=c4R hx.a hx'.a (by omega)
 have i2:=a94 hx.v hx'.v (by omega)
 refine O7 (vf:=a8J) rfl ?_
 unfold a8J;refine zF ?_
 refine zY (aN ox (aN ox' (aN i1 i2))) ?_
 repeat' (first|(refine Y7 (fun c=>?_) (fun c=>?_)<;>(try simp only [U5,U7,U6,U8] at c)<;>simp (disch:=(first|exact Rf.mk rfl|with_reducible assumption|omega|((repeat (first|rw [nP]|rw [nS]|rw [M3]))<;>omega)|decide)) only [go_sem,↓reduceIte,ox,ox',i1,i2,c])|(refine Z3 (fun c=>?_) (fun c=>?_)<;>(try simp only [U5,U7,U6,U8] at c)<;>simp (disch:=(first|exact Rf.mk rfl|with_reducible assumption|omega|((repeat (first|rw [nP]|rw [nS]|rw [M3]))<;>omega)|decide)) only [go_sem,↓reduceIte,ox,ox',i1,i2,c]))
 ·exact (decide_eq_false fun h=>c (by rw [h])).symm
 ·exact (decide_eq_false fun h=>c (by rw [h])).symm
 ·exact (decide_eq_false fun h=>c (by rw [h])).symm
 ·exact (decide_eq_false fun h=>c (by rw [h])).symm
 rename_i ca cv cl
 refine S2 [0,1,2,3,35] 0 st.chans.length (fun i f s=>f 5=.int .i64 (i:Int)/\s=((k4.empty.push (.cells [x.da,x.dv,x.dc,.int .i64 st'.hold])).push (.cells [x'.da,x'.dv,x'.dc,.int .i64 st'.hold]))/\∀j,j<i->cAt st.chans j=cAt st'.chans j) (.mk rfl) (by omega) ⟨rfl,rfl,fun j h=>by omega⟩ ?_
 rintro i f s hi ⟨hE,rfl,hj⟩
 by_cases ci:i<st.chans.length
 ·have ci':i<st'.chans.length:=by omega
  have q1:=a35 (a3W hx ci)
  have q2:=a35 (a3W hx' ci')
  have i3:=a94 (a3W hx ci) (a3W hx' ci') (by have:=h3 _ (a6z ci);omega)
  refine zY (aN ox (aN ox' (aN hE (aN ci (aN ci' (aN i3 (aN q1 q2))))))) ?_
  repeat' (first|(refine Y7 (fun c=>?_) (fun c=>?_)<;>(try simp only [U5,U7,U6,U8] at c)<;>simp (disch:=(first|exact Rf.mk rfl|with_reducible assumption|omega|((repeat (first|rw [nP]|rw [nS]|rw [M3]))<;>omega)|decide)) only [go_sem,↓reduceIte,ox,ox',hE,ci,ci',i3,q1,q2,c])|(refine Z3 (fun c=>?_) (fun c=>?_)<;>(try simp only [U5,U7,U6,U8] at c)<;>simp (disch:=(first|exact Rf.mk rfl|with_reducible assumption|omega|((repeat (first|rw [nP]|rw [nS]|rw [M3]))<;>omega)|decide)) only [go_sem,↓reduceIte,ox,ox',hE,ci,ci',i3,q1,q2,c]))
  ·exact (decide_eq_false fun h=>c (by rw [h])).symm
  ·intro j hj'
   by_cases e:j=i
   ·subst e;exact c
   ·exact hj j (by omega)
 ·have e:i=st.chans.length:=by omega
  have hl:¬ i<st.chans.length:=by omega
  refine zY (aN ox (aN ox' (aN hE hl))) ?_
  symm
  rw [decide_eq_true_eq]
  have e1:st.chans=st'.chans:=List.ext_getElem cl fun j h1 h2=>by
   rw [<- a12 h1,<- a12 h2];exact hj j (by omega)
  cases st;cases st';simp_all
end Go.Proofs.YtnjlhebkhjcagaaGreat
namespace Go.Proofs.YtnjlhebkhjcagaaGreat
open Go.V
set_option maxRecDepth 100000
set_option maxHeartbeats 4000000
variable {m:MdX} {mo:Mo} {ps:List (Pr×PrD)} {x:StD} {st:Stt}
theorem b0q {d:D} {t:List Nd} (hT:O0 d t):∃d',Eqc vfs 26 [d] d'/\b46 t d':=by
 have pT:PZ d:=hT.fl.pz
 obtain ⟨b,hb,_⟩:=b9V hT
 have hb:=a2q hb rfl
 cases b
 ·refine ⟨.tup [.agg [.nils,.int .i64 0,.nils,.nils,.nils,.nils,.bool false],.bool false],S4 ?_,.inl rfl⟩
  refine O7 (vf:=a3q) rfl ?_
  unfold a3q;refine zF ?_
  refine zY (aN pT hb) ?_
  rfl
 obtain ⟨c,hc,hR⟩:=b9h hT
 have hc:=a2q hc rfl
 cases c
 ·refine ⟨.tup [.agg [.nils,.int .i64 0,.nils,.nils,.nils,.nils,.bool false],.bool false],S4 ?_,.inl rfl⟩
  refine O7 (vf:=a3q) rfl ?_
  unfold a3q;refine zF ?_
  refine zY (aN pT (aN hb hc)) ?_
  rfl
 obtain ⟨r,s1,d',h1,h2,h3⟩:=c8w hT (hR rfl)
 have hmk:Eqc vfs 34 [d] d':=S4 ⟨_,_,h1,h2⟩
 refine ⟨d',S4 ?_,h3⟩
 rcases h3 with rfl | ⟨m,ps,rfl,hR,hS,hY,hm⟩
 ·refine O7 (vf:=a3q) rfl ?_
  unfold a3q;refine zF ?_
  refine zY (aN pT (aN hb (aN hc hmk))) ?_
  rfl
 ·have om:=hm.ones
  have fm:=a1b hm
  unfold N8 at hmk ⊢
  refine O7 (vf:=a3q) rfl ?_
  unfold a3q;refine zF ?_
  refine zY (aN pT (aN hb (aN hc (aN hmk om)))) ?_
  trivial
theorem b44 (mo:Mo) (st:Stt):mo.ample st=mo.moves st∨∃i,st.hold<0/\mo.firstQ st=some i/\mo.quiet i (nAt st.at' i)=true/\mo.ample st=(mo.moves st).filter (isP i):=by
 unfold Mo.ample
 split
 ·rename_i hh
  cases hF:mo.firstQ st with
  | none=>exact .inl rfl
  | some i =>
    have hqi:mo.quiet i (nAt st.at' i)=true:=by
     have:=List.find?_some hF
     exact this
    exact .inr ⟨i,hh,rfl,hqi,rfl⟩
 ·exact .inl rfl
end Go.Proofs.YtnjlhebkhjcagaaGreat
