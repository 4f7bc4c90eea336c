/- Texts one behind the other. -/
import Derived.Test.YtnjlhebkhjcagaaGreatZ0
import Derived.LoopN
import Derived.ProofKit
import Derived.OpenShut
import Derived.ShutString
import Derived.ChangeOld
import Derived.Below
import Derived.Carry
import Derived.Handed
set_option linter.unusedSimpArgs false
set_option linter.unusedVariables false
namespace Go.V
theorem Evo.trans_same {μ μ1 μ2:Mu} {Φ Φ1 Φ2:Phi} {g g1 g2:P8} {w w1 w2:World} {n0 n1:Nat}
 (h:Evo μ Φ g w μ1 Φ1 g1 w1 n0 n1) (k:Evo μ1 Φ1 g1 w1 μ2 Φ2 g2 w2 n0 n1):Evo μ Φ g w μ2 Φ2 g2 w2 n0 n1 where
 mu:=Mu.le_trans h.mu k.mu
 muOut id hid:=by rw [k.muOut id hid,h.muOut id hid]
 phi:=Phi.le_trans h.phi k.phi
 os:=k.os.trans h.os
 tape:=k.tape.trans h.tape
 output:=k.output.trans h.output
 size:=Nat.le_trans h.size k.size
 keep b hb hn:=by
  rw [k.keep b (Nat.lt_of_lt_of_le hb h.size) (fun ho=>by rcases h.ownNew b ho with h1 | h1;exact hn h1;omega),h.keep b hb hn]
 phiNew b ob hb:=by
  rcases k.phiNew b ob hb with h1 | h1
  ·exact h.phiNew b ob h1
  ·exact .inr (Nat.le_trans h.size h1)
 ownNew b hb:=by
  rcases k.ownNew b hb with h1 | h1
  ·exact h.ownNew b h1
  ·exact .inr (Nat.le_trans h.size h1)
theorem Sim.join {μ μ':Mu} {Φ Φ':Phi} {g g1 g2 G:P8} {w w':World} {n0 n1:Nat} (h1:Sim μ Φ g w) (h2:Sim μ' Φ' g2 w') (hsub:∀id ob,g1 id=some ob->g id=some ob) (he:Evo μ Φ g1 w μ' Φ' g2 w' n0 n1)
 (hG:∀id ob,G id=some ob->g2 id=some ob∨(g id=some ob/\g1 id=none)):Sim μ' Φ' G w'/\Evo μ Φ g w μ' Φ' G w' n0 n1:=by
 have hne:∀id,g1 id≠none->g id≠none:=by
  intro id h3 h4
  cases hx:g1 id with
  | none=>exact h3 hx
  | some ob=>rw [hsub id ob hx] at h4;cases h4
 have ext:∀id ob,g id=some ob->g1 id=none->∃b o z,μ id=some (b,o,z)/\a0E μ Φ w b o z ob/\Φ b=none/\¬ a18 μ g1 b/\b<w.heap.size:=by
  intro id ob hg hg1
  obtain ⟨b,o,z,e1,e2,e3⟩:=h1.obj id ob hg
  refine ⟨b,o,z,e1,e2,e3,?_,e2.lt⟩
  rintro ⟨id1,o1,z1,q1,q2⟩
  have:=h1.inj id1 id _ _ _ _ _ (hne id1 q1) (by rw [hg];simp) q2 e1
  subst this
  exact q1 hg1
 have cls:∀id,G id≠none->(g2 id≠none)∨(∃ob,g id=some ob/\g1 id=none):=by
  intro id hid
  cases hx:G id with
  | none=>exact absurd hx hid
  | some ob =>
    rcases hG id ob hx with h | h
    ·exact .inl (by rw [h];simp)
    ·exact .inr ⟨ob,h⟩
 refine ⟨⟨h2.phi,?_,?_⟩,⟨he.mu,he.muOut,he.phi,he.os,he.tape,he.output,he.size,?_,he.phiNew,?_⟩⟩
 ·intro id ob hx
  rcases hG id ob hx with h | ⟨h,hn⟩
  ·exact h2.obj id ob h
  ·obtain ⟨b,o,z,e1,e2,e3,e4,e5⟩:=ext id ob h hn
   refine ⟨b,o,z,he.mu _ _ e1,a6F (he.keep b e5 e4) (a5F he.mu he.phi e2),?_⟩
   cases hp:Φ' b with
   | none=>rfl
   | some ob' =>
     rcases he.phiNew b ob' hp with q | q
     ·rw [e3] at q;cases q
     ·omega
 ·have mixed:∀i i' b o z o' z',g2 i≠none->(∃ob,g i'=some ob/\g1 i'=none)->μ' i=some (b,o,z)->μ' i'=some (b,o',z')->False:=by
   rintro i i' b o z o' z' q1 ⟨ob,q2,q3⟩ q4 q5
   obtain ⟨b2,o2,z2,e1,_,_,e4,e5⟩:=ext i' ob q2 q3
   have:=he.mu _ _ e1
   rw [q5] at this
   cases this
   rcases he.ownNew b ⟨i,o,z,q1,q4⟩ with q | q
   ·exact e4 q
   ·omega
  intro i i' b o z o' z' q1 q2 q3 q4
  rcases cls i q1 with a1 | a1
  ·rcases cls i' q2 with a2 | a2
   ·exact h2.inj i i' _ _ _ _ _ a1 a2 q3 q4
   ·exact (mixed i i' _ _ _ _ _ a1 a2 q3 q4).elim
  ·rcases cls i' q2 with a2 | a2
   ·exact (mixed i' i _ _ _ _ _ a2 a1 q4 q3).elim
   ·obtain ⟨ob,a3,a4⟩:=a1
    obtain ⟨ob',a5,a6⟩:=a2
    obtain ⟨b1,o1,z1,e1,_⟩:=ext i ob a3 a4
    obtain ⟨b2,o2,z2,e2,_⟩:=ext i' ob' a5 a6
    have f1:=he.mu _ _ e1
    have f2:=he.mu _ _ e2
    rw [q3] at f1;rw [q4] at f2
    cases f1;cases f2
    exact h1.inj i i' _ _ _ _ _ (by rw [a3];simp) (by rw [a5];simp) e1 e2
 ·intro b hb hn
  refine he.keep b hb ?_
  rintro ⟨id,o,z,q1,q2⟩
  exact hn ⟨id,o,z,hne id q1,q2⟩
 ·rintro b ⟨id,o,z,q1,q2⟩
  rcases cls id q1 with a1 | ⟨ob,a1,a2⟩
  ·rcases he.ownNew b ⟨id,o,z,a1,q2⟩ with ⟨i1,o1,z1,c1,c2⟩ | q
   ·exact .inl ⟨i1,o1,z1,hne i1 c1,c2⟩
   ·exact .inr q
  ·obtain ⟨b1,o1,z1,e1,_⟩:=ext id ob a1 a2
   have f1:=he.mu _ _ e1
   rw [q2] at f1
   cases f1
   exact .inl ⟨id,o,z,by rw [a1];simp,e1⟩
def a6i (t:Nat) (r:Rec):D:=r.env.get t
def a43 (t:Nat) (r:Rec):D:=(r.env.put r.o.dst r.d).get t
def Z1 (id:Nat) (r:Rec):Option O3:=r.s.get id
def Z4 (id:Nat) (r:Rec):Option O3:=r.s'.get id
theorem a7y {C:W6} (t:Nat):∀ {rs:List Rec} {env env':Env} {s s':f6},a08 C env s rs env' s'->a1k (a6i t) (a43 t) (env.get t) rs (env'.get t)
 | [],env,env',s,s',h=>by simp only [a08] at h;simp only [a1k,h.1]
 | r::rs,env,env',s,s',h=>by
   simp only [a08] at h
   simp only [a1k]
   refine ⟨by simp only [a6i,h.1],a7y t h.2.2.2⟩
theorem a3h {C:W6} (id:Nat):∀ {rs:List Rec} {env env':Env} {s s':f6},a08 C env s rs env' s'->a1k (Z1 id) (Z4 id) (s.get id) rs (s'.get id)
 | [],env,env',s,s',h=>by simp only [a08] at h;simp only [a1k,h.2]
 | r::rs,env,env',s,s',h=>by
   simp only [a08] at h
   simp only [a1k]
   refine ⟨by simp only [Z1,h.2.1],a3h id h.2.2.2⟩
theorem a5U {t:Nat} {r:Rec} (h:r.o.dst≠some t):a6i t r=a43 t r:=by
 unfold a6i a43
 cases hd:r.o.dst with
 | none=>rfl
 | some u =>
   have:¬ u=t:=fun e=>h (by rw [hd,e])
   simp [Env.put,Env.get,this]
theorem c0S {t:Nat} {r:Rec} (h:r.o.dst=some t):a43 t r=r.d:=by
 unfold a43
 rw [h]
 simp [Env.put,Env.get]
section
variable {P:Program} {md:FuncId->a0a} {N:Nat} {C:W6}
theorem b8h (hC:a1G P C) {env:Env} {s s':f6} {d:D} {vo:VOp} (h1:Q0 C env s vo=some (d,s')):s.next<=s'.next:=by
 cases vo with
 | p po=>simp only [Q0] at h1;obtain ⟨_,_,e⟩:=map_some h1;cases e;exact Nat.le_refl _
 | r po=>simp only [Q0] at h1;obtain ⟨_,_,e⟩:=map_some h1;cases e;exact Nat.le_refl _
 | a ao=>simp only [Q0] at h1;split at h1<;>simp at h1;rw [<- h1.2];exact Nat.le_succ _
 | w n ad x=>simp only [Q0] at h1;split at h1<;>simp at h1;rw [<- h1.2];exact Nat.le_refl _
 | m mo =>
   simp only [Q0] at h1
   cases mo with
   | call md' f args =>
     simp only [evM] at h1
     generalize env.ev f=fd at h1
     cases fd<;>try (simp [a1d] at h1;done)
     exact (a9X hC h1).1
   | append sz bytes sx x =>
     simp only [evM,V3] at h1
     split at h1
     ·split at h1
      ·split at h1
       ·split at h1
        ·cases h1;exact Nat.le_refl _
        ·split at h1
         ·cases h1;exact Nat.le_succ _
         ·simp at h1
       ·split at h1
        ·split at h1
         ·split at h1
          ·cases h1;exact Nat.le_refl _
          ·split at h1
           ·cases h1;exact Nat.le_succ _
           ·simp at h1
         ·simp at h1
        ·simp at h1
       ·split at h1
        ·cases h1;exact Nat.le_refl _
        ·simp at h1
       ·simp at h1
      ·simp at h1
     ·simp at h1
   | mapset ks m k v =>
     simp only [evM] at h1
     split at h1
     ·split at h1
      ·split at h1
       ·split at h1
        ·obtain ⟨_,_,e⟩:=map_some h1;cases e;exact Nat.le_refl _
        ·simp at h1
       ·simp at h1
      ·simp at h1
     ·simp at h1
theorem a92 (hC:a1G P C) {r:Rec} (h:r.ok C):r.s.next<=r.s'.next:=by
 rcases h with ⟨_,_,h,_⟩ | ⟨_,h,_⟩
 ·rw [h];exact Nat.le_refl _
 ·exact b8h hC h
theorem a5Q (hC:a1G P C):∀ {rs:List Rec} {env env':Env} {s s':f6},a08 C env s rs env' s'->s.next<=s'.next/\∀q∈rs,s.next<=q.s.next/\q.s'.next<=s'.next/\q.ok C
 | [],env,env',s,s',h=>by simp only [a08] at h;simp [h.2]
 | r::rs,env,env',s,s',h=>by
   simp only [a08] at h
   obtain ⟨h1,h2,h3,h4⟩:=h
   obtain ⟨g1,g2⟩:=a5Q hC h4
   have g3:=a92 hC h3
   rw [h2] at g3
   refine ⟨by omega,fun q hq=>?_⟩
   rcases List.mem_cons.1 hq with rfl | hq
   ·exact ⟨by rw [h2];exact Nat.le_refl _,g1,h3⟩
   ·obtain ⟨q1,q2,q3⟩:=g2 q hq
    exact ⟨by omega,q2,q3⟩
theorem b1s (hC:a1G P C) {B:List Rec} {r:Rec}:∀ {A:List Rec} {env env':Env} {s s':f6},a08 C env s (A++r::B) env' s' ->
 r.ok C/\(∀q∈A,q.s'.next<=r.s.next)/\(∀q∈B,r.s'.next<=q.s.next)
 | [],env,env',s,s',h=>by
   simp only [List.nil_append,a08] at h
   exact ⟨h.2.2.1,by simp,fun q hq=>((a5Q hC h.2.2.2).2 q hq).1⟩
 | p::A,env,env',s,s',h=>by
   simp only [List.cons_append,a08] at h
   obtain ⟨g1,g2,g3⟩:=b1s hC h.2.2.2
   refine ⟨g1,fun q hq=>?_,g3⟩
   rcases List.mem_cons.1 hq with rfl | hq
   ·exact ((a5Q hC h.2.2.2).2 r (by simp)).1
   ·exact g2 q hq
theorem a11 {r:Rec} (h:r.ok C) (hk:isP r.o.op=true∨isR r.o.op=true):r.s'=r.s:=by
 rcases h with ⟨_,_,h,_⟩ | ⟨_,h,_⟩
 ·exact h
 ·cases hop:r.o.op<;>rw [hop] at h hk<;>simp [isP,isR] at hk<;>simp only [Q0] at h
  ·obtain ⟨_,_,e⟩:=map_some h;simp at e;exact e.2.symm
  ·obtain ⟨_,_,e⟩:=map_some h;simp at e;exact e.2.symm
theorem a6C {r:Rec} (h:r.ok C) (hk:isA r.o.op=true) (id:Nat) (hid:id≠r.s.next):r.s'.get id=r.s.get id:=by
 rcases h with ⟨_,_,h,_⟩ | ⟨_,h,_⟩
 ·rw [h]
 ·cases hop:r.o.op<;>rw [hop] at h hk<;>simp [isA] at hk
  simp only [Q0] at h
  split at h
  ·simp at h
   rw [<- h.2,f6.get_push,if_neg hid]
  ·simp at h
theorem c27 {r:Rec} (h:r.ok C) (hk:isW r.o.op=true) (id:Nat) (hid:r.rd≠some id):r.s'.get id=r.s.get id:=by
 rcases h with ⟨_,_,h,_⟩ | ⟨_,h,hrd⟩
 ·rw [h]
 ·cases hop:r.o.op<;>rw [hop] at h hk hrd<;>simp [isW] at hk
  rename_i n ad x
  simp only [Q0] at h
  split at h
  ·rename_i id' ob hw
   simp at h
   rw [<- h.2,f6.get_set]
   have:rdW r.env ad=some id':=by
    unfold evW at hw
    unfold rdW
    split at hw
    ·rename_i i2 off hx
     split at hw
     ·simp only at hw
      split at hw
      ·simp at hw;rw [hw.1]
      ·simp at hw
     ·simp at hw
    ·simp at hw
   have hne:id≠id':=by
    intro e
    subst e
    exact hid (by rw [hrd];simp only [W9];exact this)
   simp [hne]
  ·simp at h
noncomputable def a4o (env0:Env) (rs:List Rec) (L:Array Bool) (t:Nat):D:=cur (a6i t) (a43 t) L (env0.get t) rs
noncomputable def a00 (s0:f6) (rs:List Rec) (L:Array Bool):P8:=fun id=>cur (Z1 id) (Z4 id) L (s0.get id) rs
structure Inv (N:Nat) (μ0:Mu) (Φ0:Phi) (w0:World) (env0:Env) (s0 sF:f6) (rs:List Rec) (L:Array Bool) (a:Act) (w:World) (μ:Mu) (Φ:Phi):Prop where
 env:∀t,R μ Φ (a4o env0 rs L t) (a.tmps.getD t undef)
 size:N<=a.tmps.size
 defers:a.defers=[]
 sim:Sim μ Φ (a00 s0 rs L) w
 evo:Evo μ0 Φ0 s0.get w0 μ Φ (a00 s0 rs L) w s0.next sF.next
 fresh:∀r∈rs,¬ On L r.i->a2M μ r.s.next r.s'.next
theorem b0s (env:Env):∀ (l:List Nat) (t:Nat),t∈l->(env.keep l).get t=env.get t
 | [],t,h=>by simp at h
 | x::l,t,h=>by
   simp only [Env.keep,List.map_cons,Env.get]
   by_cases e:x=t
   ·subst e;simp
   ·rcases List.mem_cons.1 h with h | h
    ·exact absurd h.symm e
    ·simp only [e,if_false];exact b0s env l t h
theorem b5B (env:Env):∀ (l:List Nat) (t:Nat),t∉l->(env.keep l).get t=.undef
 | [],t,_=>rfl
 | x::l,t,h=>by
   simp only [List.mem_cons,not_or] at h
   simp only [Env.keep,List.map_cons,Env.get]
   have:¬ x=t:=fun e=>h.1 e.symm
   simp only [this,if_false]
   exact b5B env l t h.2
theorem a4T {L:Array Bool} {i j:Nat} (h:i<L.size):On (L.setIfInBounds i true) j↔(j=i∨On L j):=by
 unfold On
 simp only [Array.getD_eq_getD_getElem?]
 by_cases e:j=i
 ·subst e;simp [h]
 ·simp [e,Array.getElem?_setIfInBounds_ne (fun x=>e x.symm)]
theorem b5O {f:Nat×P1->Nat×P1->Bool}:∀ {l:List (Nat×P1)},a7g f l=true->l.Pairwise (fun x y=>f x y=true)
 | [],_=>.nil
 | x::l,h=>by
   simp only [a7g,Bool.and_eq_true,List.all_eq_true] at h
   exact List.pairwise_cons.2 ⟨h.1,b5O h.2⟩
theorem b5K {d:Option Nat} {l:List Nat} (h:a75 d l=true) {t:Nat} (ht:t∈l):d≠some t:=by
 intro e
 subst e
 simp [a75] at h
 exact h ht
theorem c6k {env:Env} {g:P8} {ro:ROp} {d:D} (h:evR env g ro=some d) {id:Nat} (hr:rdR env ro=some id):g id≠none:=by
 intro hn
 cases ro with
 | load n x =>
   simp only [evR,rdR] at h hr
   split at hr
   ·rename_i i2 off hx
    cases hr
    rw [hx] at h
    simp only [hn] at h
    cases h
   ·simp at hr
 | lookup ks z ok m k =>
   simp only [evR,rdR] at h hr
   split at hr
   ·rename_i i2 hx
    cases hr
    rw [hx] at h
    simp only [hn] at h
    cases h
   ·simp at hr
 | b2s x =>
   simp only [evR,rdR] at h hr
   split at hr
   ·rename_i i2 o l z hx
    simp at hr;subst hr
    simp [hx,Z8,hn] at h
   ·simp at hr
theorem b1X {s:f6} {id:Nat} (h:s.get id≠none):id<s.next:=by
 unfold f6.get at h
 split at h
 ·assumption
 ·simp at h
theorem a5G {s s':f6} {id:Nat} (h:Z7 s s' (some id)=true):s.get id=s'.get id:=c1v _ _ h
theorem b8v {Q:Exit->Act->World->Prop} (hC:a1G P C) {ops:Array Oper} {pairs:List (Nat×Nat)} {env0 envF:Env} {s0 sF:f6} {rs:List Rec} (htr:a08 C env0 s0 rs envF sF)
 (hst:rs.Pairwise (a21 pairs)) (hpo:rs.Pairwise fun x y=>a3E (a2w ops.toList []) pairs (x.i,x.o) (y.i,y.o)=true) (hnd:(rs.map (·.i)).Nodup) (hback:a3O ops.toList 0=true)
 (hcomp:∀r∈rs,∃o,ops[r.i]?=some o/\a09 P md N ops o=some r.o)
 {μ0:Mu} {Φ0:Phi} {w0:World} {L:Array Bool} {a:Act} {w:World} {μ:Mu} {Φ:Phi} (hI:Inv N μ0 Φ0 w0 env0 s0 sF rs L a w μ Φ) (hsh:a9I ops L) (hsz:L.size=ops.size)
 {r:Rec} (hr:r∈rs) (hoff:¬ On L r.i) (hready:∀o,ops[r.i]?=some o->∀e∈o.after.toList,Region.binds .any e=true->On L e.on) :
 wpOp P ops Q r.i (fun a' w'=>∃μ' Φ',Inv N μ0 Φ0 w0 env0 s0 sF rs (L.setIfInBounds r.i true) a' w' μ' Φ') a w:=by
 obtain ⟨o,ho,hco⟩:=hcomp r hr
 obtain ⟨hres,hdst,hdok⟩:=b3x hco
 have hi:r.i<L.size:=by rw [hsz];exact (Array.getElem?_eq_some_iff.1 ho).1
 obtain ⟨A,B,hAB⟩:=List.append_of_mem hr
 subst hAB
 obtain ⟨hrok,hnA,hnB⟩:=b1s hC htr
 have hrn:=a92 hC hrok
 -- others than r
 have hneA:∀q∈A,q.i≠r.i:=by
  intro q hq e
  rw [List.map_append,List.map_cons] at hnd
  have:=(List.nodup_append.1 hnd).2.2
  exact this q.i (List.mem_map_of_mem hq) r.i (by simp) e
 have hneB:∀q∈B,q.i≠r.i:=by
  intro q hq e
  rw [List.map_append,List.map_cons] at hnd
  have:=(List.nodup_append.1 hnd).2.1
  rw [List.nodup_cons] at this
  exact this.1 (by rw [<- e];exact List.mem_map_of_mem hq)
 have hpA:∀q∈A,a3E (a2w ops.toList []) pairs (q.i,q.o) (r.i,r.o)=true/\a21 pairs q r:=fun q hq =>
  ⟨(List.pairwise_append.1 hpo).2.2 q hq r (by simp),(List.pairwise_append.1 hst).2.2 q hq r (by simp)⟩
 have hpB:∀q∈B,a3E (a2w ops.toList []) pairs (r.i,r.o) (q.i,q.o)=true/\a21 pairs r q:=fun q hq =>
  ⟨(List.pairwise_cons.1 (List.pairwise_append.1 hpo).2.1).1 q hq,(List.pairwise_cons.1 (List.pairwise_append.1 hst).2.1).1 q hq⟩
 have hall:=(a5Q hC htr).2
 have indA:∀q∈A,¬ On L q.i->a39 q.o r.o=true/\a1X pairs q.i r.i q.o.op r.o.op=true/\a21 pairs q r:=by
  intro q hq hq'
  obtain ⟨h1,h2⟩:=hpA q hq
  simp only [a3E,Bool.and_eq_true,Bool.or_eq_true] at h1
  rcases h1.2 with h3 | h3
  ·exact absurd (b4w hback hsh r.i o ho (hready o ho) q.i h3) hq'
  ·exact ⟨h3.1,h3.2,h2⟩
 have indB:∀q∈B,On L q.i->a39 r.o q.o=true/\a1X pairs r.i q.i r.o.op q.o.op=true/\a21 pairs r q:=by
  intro q hq hq'
  obtain ⟨h1,h2⟩:=hpB q hq
  simp only [a3E,Bool.and_eq_true,Bool.or_eq_true] at h1
  rcases h1.2 with h3 | h3
  ·obtain ⟨o2,ho2,_⟩:=hcomp q (by simp [hq])
   exact absurd (b4w hback hsh q.i o2 ho2 (hsh q.i o2 ho2 hq') r.i h3) hoff
  ·exact ⟨h3.1,h3.2,h2⟩
 -- what r looks at is as it was written down
 have agreeE:∀t∈r.o.looks,a4o env0 (A++r::B) L t=r.env.get t:=by
  intro t ht
  refine a4M (a7y t htr) ?_ (.inl hoff) ?_
  ·intro q hq hq'
   have:=(indA q hq hq').1
   simp only [a39,Bool.and_eq_true] at this
   exact a5U (b5K this.1.1 ht)
  ·intro q hq hq'
   have:=(indB q hq hq').1
   simp only [a39,Bool.and_eq_true] at this
   exact a5U (b5K this.1.2 ht)
 have henv:a0d μ Φ (r.env.keep r.o.looks) a:=by
  intro t
  by_cases ht:t∈r.o.looks
  ·rw [b0s _ _ _ ht,<- agreeE t ht]
   exact hI.env t
  ·rw [b5B _ _ _ ht]
   simp only [R]
 have hsame:a0V (r.env.keep r.o.looks) r.env r.o.looks:=fun t ht=>b0s _ _ _ ht
 have hsameG:a0V (r.env.keep r.o.looks) r.env (a7H r.o.guard):=hsame.left
 have hsameO:a0V (r.env.keep r.o.looks) r.env r.o.op.slots:=hsame.right
 -- the end of a step
 have hmem:∀q∈A++r::B,q.i=r.i->q=r:=by
  intro q hq e
  rcases List.mem_append.1 hq with h | h
  ·exact absurd e (hneA q h)
  ·rcases List.mem_cons.1 h with h | h
   ·exact h
   ·exact absurd e (hneB q h)
 have honA:∀q∈A,(On (L.setIfInBounds r.i true) q.i↔On L q.i):=fun q hq=>by rw [a4T hi];simp [hneA q hq]
 have honB:∀q∈B,(On (L.setIfInBounds r.i true) q.i↔On L q.i):=fun q hq=>by rw [a4T hi];simp [hneB q hq]
 have honr:On (L.setIfInBounds r.i true) r.i:=by rw [a4T hi];exact .inl rfl
 have sameCur:∀ {V:Type} (pre post:Rec->V) (v:V),pre r=post r->cur pre post (L.setIfInBounds r.i true) v (A++r::B)=cur pre post L v (A++r::B):=by
  intro V pre post v h
  refine b4U v ?_
  intro q hq
  rcases List.mem_append.1 hq with h' | h'
  ·exact .inl (honA q h')
  ·rcases List.mem_cons.1 h' with rfl | h'
   ·exact .inr h
   ·exact .inl (honB q h')
 have hfin:∀v w' μ' Φ',R μ' Φ' r.d v->Sim μ' Φ' (a00 s0 (A++r::B) (L.setIfInBounds r.i true)) w'->Evo μ Φ (a00 s0 (A++r::B) L) w μ' Φ' (a00 s0 (A++r::B) (L.setIfInBounds r.i true)) w' r.s.next r.s'.next ->
  Inv N μ0 Φ0 w0 env0 s0 sF (A++r::B) (L.setIfInBounds r.i true) (a.put o.dst v) w' μ' Φ':=by
  intro v w' μ' Φ' hrv hs' he
  refine ⟨?_,?_,?_,hs',?_,?_⟩
  ·intro t
   by_cases htd:r.o.dst=some t
   ·have h1:a4o env0 (A++r::B) (L.setIfInBounds r.i true) t=r.d:=by
     rw [<- c0S htd]
     refine a5z (a7y t htr) ?_ honr ?_
     ·intro q hq hq'
      rw [honA q hq] at hq'
      have:=(indA q hq hq').1
      simp only [a39,Bool.and_eq_true] at this
      refine a5U fun e=>?_
      have h3:=this.2
      rw [e,htd] at h3
      simp at h3
     ·intro q hq hq'
      rw [honB q hq] at hq'
      have:=(indB q hq hq').1
      simp only [a39,Bool.and_eq_true] at this
      refine a5U fun e=>?_
      have h3:=this.2
      rw [e,htd] at h3
      simp at h3
    rw [h1]
    rw [hdst] at htd
    rw [htd] at hdok ⊢
    have hlt:t<a.tmps.size:=Nat.lt_of_lt_of_le (by simpa [a4B] using hdok) hI.size
    rw [b0u t hlt]
    simpa using hrv
   ·have h1:a4o env0 (A++r::B) (L.setIfInBounds r.i true) t=a4o env0 (A++r::B) L t:=sameCur _ _ _ (a5U htd)
    rw [h1]
    have h2:(a.put o.dst v).tmps.getD t undef=a.tmps.getD t undef:=by
     rw [hdst] at htd
     cases hd:o.dst with
     | none=>rfl
     | some u =>
       rw [hd] at hdok
       have hlt:u<a.tmps.size:=Nat.lt_of_lt_of_le (by simpa [a4B] using hdok) hI.size
       rw [b0u t hlt,if_neg (fun e=>htd (by rw [hd,e]))]
    rw [h2]
    exact a5C he.mu he.phi _ _ (hI.env t)
  ·cases o.dst<;>simpa [Act.put] using hI.size
  ·cases o.dst<;>simpa [Act.put] using hI.defers
  ·have h1:=(hall r (by simp)).1
   have h2:=(hall r (by simp)).2.1
   exact hI.evo.trans_same (he.widen h1 h2)
  ·intro q hq hq'
   have hqr:q.i≠r.i:=fun e=>hq' (by rw [e];exact honr)
   have hqL:¬ On L q.i:=fun h=>hq' (by rw [a4T hi];exact .inr h)
   intro id h1 h2
   rw [he.muOut id]
   ·exact hI.fresh q hq hqL id h1 h2
   ·rcases List.mem_append.1 hq with h | h
    ·have:=hnA q h;omega
    ·rcases List.mem_cons.1 h with h | h
     ·exact absurd (by rw [h]) hqr
     ·have:=hnB q h;omega
 have hstillS:r.s'=r.s->a00 s0 (A++r::B) (L.setIfInBounds r.i true)=a00 s0 (A++r::B) L:=by
  intro h
  funext id
  exact sameCur _ _ _ (by simp only [Z1,Z4,h])
 unfold Go.wpOp
 simp only [ho]
 rcases hrok with ⟨hw,hd,hs',_⟩ | ⟨hw,hrun,hrd⟩
 ·-- passed over
  have hwant:=a7M hco henv (by rw [b54 hsameG];exact hw)
  rw [hwant]
  simp only [Bool.false_eq_true,if_false]
  refine ⟨μ,Φ,hfin undef w μ Φ (by rw [hd];exact a6x) ?_ ?_⟩
  ·rw [hstillS hs'];exact hI.sim
  ·rw [hstillS hs',hs'];exact Evo.refl _ _ _ _ _
 ·have hwant:=a7M hco henv (by rw [b54 hsameG];exact hw)
  rw [hwant]
  simp only [if_true]
  left
  cases hop:r.o.op with
  | p po =>
    rw [hop] at hrun hres hsameO
    simp only [Q0] at hrun
    obtain ⟨d',h1,e⟩:=map_some hrun
    simp at e
    refine b12 hres henv (d:=r.d) (by rw [b7p hsameO,h1,e.1]) fun v hv=>⟨μ,Φ,hfin v w μ Φ hv ?_ ?_⟩
    ·rw [hstillS e.2.symm];exact hI.sim
    ·rw [hstillS e.2.symm,<- e.2];exact Evo.refl _ _ _ _ _
  | r ro =>
    rw [hop] at hrun hres hsameO hrd
    simp only [Q0] at hrun
    obtain ⟨d',h1,e⟩:=map_some hrun
    simp at e
    simp only [W9] at hrd
    have hlook:evR r.env (a00 s0 (A++r::B) L) ro=evR r.env r.s.get ro:=by
     refine b9N fun id hid=>?_
     have hne:=c6k h1 hid
     have hlt:=b1X hne
     refine a4M (a3h id htr) ?_ (.inl hoff) ?_
     ·intro q hq hq'
      obtain ⟨_,hm,hstl⟩:=indA q hq hq'
      have hqok:=(hall q (by simp [hq])).2.2
      simp only [Z1,Z4]
      simp only [a1X,hop,isP,isR,isA,isM,isW,Bool.or_eq_true,Bool.and_eq_true,Bool.or_false,Bool.and_true,Bool.and_false,Bool.not_false,Bool.or_false] at hm
      rcases hm with (hm | hm) | hm
      ·rw [a11 hqok (.inl hm)]
      ·rw [a11 hqok (.inr hm)]
      ·exact a5G (by have:=(hstl hm.2).2;rwa [hrd,hid] at this)
     ·intro q hq hq'
      obtain ⟨_,hm,hstl⟩:=indB q hq hq'
      have hqok:=(hall q (by simp [hq])).2.2
      simp only [Z1,Z4]
      simp only [a1X,hop,isP,isR,isM,isW,Bool.or_eq_true,Bool.and_eq_true,Bool.true_and,Bool.false_and,Bool.not_false,Bool.false_or] at hm
      rcases hm with ((hm | hm) | hm) | hm
      ·rw [a11 hqok (.inl hm)]
      ·rw [a11 hqok (.inr hm)]
      ·exact (a6C hqok hm id (by have:=hnB q hq;omega)).symm
      ·exact a5G (by have:=(hstl hm.2).1;rwa [hrd,hid] at this)
    refine b4P hres henv hI.sim (d:=r.d) (by rw [c3c hsameO,hlook,h1,e.1]) fun v hv=>⟨μ,Φ,hfin v w μ Φ hv ?_ ?_⟩
    ·rw [hstillS e.2.symm];exact hI.sim
    ·rw [hstillS e.2.symm,<- e.2];exact Evo.refl _ _ _ _ _
  | a ao =>
    rw [hop] at hrun hres hsameO
    simp only [Q0] at hrun
    split at hrun
    ·rename_i ob m h1
     simp at hrun
     obtain ⟨hd,hs'⟩:=hrun
     have hnx:r.s'.next=r.s.next+1:=by rw [<- hs'];rfl
     have hp1:r.s.get r.s.next=none:=f6.get_none _ _ (Nat.le_refl _)
     have hp2:r.s'.get r.s.next=some ob:=by rw [<- hs',f6.get_push];simp
     have cA:∀q∈A,¬ On L q.i->Z1 r.s.next q=Z4 r.s.next q:=by
      intro q hq _
      have h2:=hnA q hq
      have h3:=a92 hC (hall q (by simp [hq])).2.2
      simp only [Z1,Z4]
      rw [f6.get_none _ _ (by omega),f6.get_none _ _ (by omega)]
     have cB:∀q∈B,On L q.i->Z1 r.s.next q=Z4 r.s.next q:=by
      intro q hq hq'
      obtain ⟨_,hm,hstl⟩:=indB q hq hq'
      have hqok:=(hall q (by simp [hq])).2.2
      have h2:=hnB q hq
      simp only [Z1,Z4]
      simp only [a1X,hop,isP,isR,isA,isM,isW,Bool.or_eq_true,Bool.and_eq_true,Bool.true_and,Bool.false_and,Bool.not_false,Bool.false_or,Bool.or_false] at hm
      rcases hm with (hm | hm) | hm
      ·rw [a11 hqok (.inl hm)]
      ·exact (a6C hqok hm _ (by omega)).symm
      ·have hst2:=(hstl hm.2).2
       have hrq:q.rd≠some r.s.next:=by
        intro e
        rw [e] at hst2
        have:=a5G hst2
        rw [hp1,hp2] at this
        cases this
       cases hqo:q.o.op with
       | p po=>rw [a11 hqok (.inl (by rw [hqo];rfl))]
       | r po=>rw [a11 hqok (.inr (by rw [hqo];rfl))]
       | a ao=>exact (a6C hqok (by rw [hqo];rfl) _ (by omega)).symm
       | w n ad x=>exact (c27 hqok (by rw [hqo];rfl) _ hrq).symm
       | m mo=>rw [hqo] at hm;simp at hm
     have hcur:a00 s0 (A++r::B) L r.s.next=none:=by
      have:=a4M (pre:=Z1 r.s.next) (post:=Z4 r.s.next) (L:=L) (a3h r.s.next htr) cA (.inl hoff) cB
      exact this.trans hp1
     have hcur':a00 s0 (A++r::B) (L.setIfInBounds r.i true)=upd (a00 s0 (A++r::B) L) r.s.next (some ob):=by
      funext j
      by_cases hj:j=r.s.next
      ·subst hj
       have:=a5z (pre:=Z1 r.s.next) (post:=Z4 r.s.next) (L:=L.setIfInBounds r.i true) (a3h r.s.next htr) (fun q hq h=>cA q hq (by rwa [honA q hq] at h)) honr (fun q hq h=>cB q hq (by rwa [honB q hq] at h))
       simp only [upd,if_true]
       exact this.trans hp2
      ·simp only [upd,hj,if_false]
       exact sameCur _ _ _ (by simp only [Z1,Z4];rw [<- hs',f6.get_push,if_neg hj])
     refine b3W hres henv hI.sim (by rw [c4G hsameO,h1]) (hI.fresh r (by simp) hoff r.s.next (Nat.le_refl _) (by omega)) hcur fun v w' μ' g1 g2 g3=>⟨μ',Φ,hfin v w' μ' Φ (by rw [<- hd];exact g2) ?_ ?_⟩
     ·rw [hcur'];exact g1
     ·rw [hcur',hnx];exact g3
    ·simp at hrun
  | w n ad x =>
    rw [hop] at hrun hres hsameO hrd
    simp only [Q0] at hrun
    split at hrun
    ·rename_i id ob h1
     simp at hrun
     obtain ⟨hd,hs'⟩:=hrun
     have hx:rdW r.env ad=some id/\r.s.get id≠none:=by
      unfold evW at h1
      unfold rdW
      split at h1
      ·rename_i i2 off hx
       split at h1
       ·rename_i hg
        simp only at h1
        split at h1
        ·simp at h1
         rw [<- h1.1]
         exact ⟨rfl,by rw [hg];simp⟩
        ·simp at h1
       ·simp at h1
      ·simp at h1
     simp only [W9,hx.1] at hrd
     have hlt:=b1X hx.2
     have hp2:r.s'.get id=some ob:=by rw [<- hs',f6.get_set];simp [hlt]
     have cA:∀q∈A,¬ On L q.i->Z1 id q=Z4 id q:=by
      intro q hq hq'
      obtain ⟨_,hm,hstl⟩:=indA q hq hq'
      have hqok:=(hall q (by simp [hq])).2.2
      simp only [Z1,Z4]
      simp only [a1X,hop,isP,isR,isA,isM,isW,Bool.or_eq_true,Bool.and_eq_true,Bool.and_false,Bool.and_true,Bool.not_false,Bool.or_false] at hm
      rcases hm with hm | hm
      ·rw [a11 hqok (.inl hm)]
      ·exact a5G (by have:=(hstl hm.2).2;rwa [hrd] at this)
     have cB:∀q∈B,On L q.i->Z1 id q=Z4 id q:=by
      intro q hq hq'
      obtain ⟨_,hm,hstl⟩:=indB q hq hq'
      have hqok:=(hall q (by simp [hq])).2.2
      have h2:=hnB q hq
      simp only [Z1,Z4]
      simp only [a1X,hop,isP,isR,isA,isM,isW,Bool.or_eq_true,Bool.and_eq_true,Bool.true_and,Bool.false_and,Bool.not_false,Bool.false_or,Bool.or_false] at hm
      rcases hm with (hm | hm) | hm
      ·rw [a11 hqok (.inl hm)]
      ·exact (a6C hqok hm _ (by omega)).symm
      ·exact a5G (by have:=(hstl hm.2).1;rwa [hrd] at this)
     have hagree:a00 s0 (A++r::B) L id=r.s.get id:=a4M (pre:=Z1 id) (post:=Z4 id) (L:=L) (a3h id htr) cA (.inl hoff) cB
     have hcur':a00 s0 (A++r::B) (L.setIfInBounds r.i true)=upd (a00 s0 (A++r::B) L) id (some ob):=by
      funext j
      by_cases hj:j=id
      ·subst hj
       have:=a5z (pre:=Z1 j) (post:=Z4 j) (L:=L.setIfInBounds r.i true) (a3h j htr) (fun q hq h=>cA q hq (by rwa [honA q hq] at h)) honr (fun q hq h=>cB q hq (by rwa [honB q hq] at h))
       simp only [upd,if_true]
       exact this.trans hp2
      ·simp only [upd,hj,if_false]
       exact sameCur _ _ _ (by simp only [Z1,Z4];rw [<- hs',f6.get_set];simp [hj])
     have hnx:r.s'.next=r.s.next:=by rw [<- hs'];rfl
     refine b2v hres henv hI.sim (id:=id) (vo:=ob) ?_ r.s.next fun w' g1 g2=>⟨μ,Φ,hfin undef w' μ Φ (by rw [<- hd];exact a6x) ?_ ?_⟩
     ·rw [b9o hsameO,c2E (g':=r.s.get) (fun i2 h2=>by rw [hx.1] at h2;cases h2;exact hagree),h1]
     ·rw [hcur'];exact g1
     ·rw [hcur',hnx];exact g2
    ·simp at hrun
  | m mo =>
    rw [hop] at hrun hres hsameO
    simp only [Q0] at hrun
    have kA:∀q∈A,¬ On L q.i->q.s'=q.s:=by
     intro q hq hq'
     obtain ⟨_,hm,_⟩:=indA q hq hq'
     have hqok:=(hall q (by simp [hq])).2.2
     cases hqo:q.o.op with
     | p po=>exact a11 hqok (.inl (by rw [hqo];rfl))
     | r po=>exact a11 hqok (.inr (by rw [hqo];rfl))
     | a ao=>rw [hqo,hop] at hm;simp [a1X,isP,isR,isA,isM,isW] at hm
     | w n ad x=>rw [hqo,hop] at hm;simp [a1X,isP,isR,isA,isM,isW] at hm
     | m mo=>rw [hqo,hop] at hm;simp [a1X,isP,isR,isA,isM,isW] at hm
    have kB:∀q∈B,On L q.i->∀id,id≠q.s.next->q.s'.get id=q.s.get id:=by
     intro q hq hq' id hid
     obtain ⟨_,hm,_⟩:=indB q hq hq'
     have hqok:=(hall q (by simp [hq])).2.2
     cases hqo:q.o.op with
     | p po=>rw [a11 hqok (.inl (by rw [hqo];rfl))]
     | r po=>rw [a11 hqok (.inr (by rw [hqo];rfl))]
     | a ao=>exact a6C hqok (by rw [hqo];rfl) id hid
     | w n ad x=>rw [hqo,hop] at hm;simp [a1X,isP,isR,isA,isM,isW] at hm
     | m mo=>rw [hqo,hop] at hm;simp [a1X,isP,isR,isA,isM,isW] at hm
    have hsub:∀id ob,r.s.get id=some ob->a00 s0 (A++r::B) L id=some ob:=by
     intro id ob hg
     have hlt:=a6N hg
     have:=a4M (pre:=Z1 id) (post:=Z4 id) (L:=L) (a3h id htr) (fun q hq h=>by simp only [Z1,Z4];rw [kA q hq h]) (.inl hoff)
      (fun q hq h=>by simp only [Z1,Z4];exact (kB q hq h id (by have:=hnB q hq;omega)).symm)
     exact this.trans hg
    have hs1:Sim μ Φ r.s.get w:=hI.sim.fewer hsub
    obtain ⟨_,hwp⟩:=b3I (K:=fun a' w'=>∃μ' Φ',Inv N μ0 Φ0 w0 env0 s0 sF (A++r::B) (L.setIfInBounds r.i true) a' w' μ' Φ') (Q:=Q) hC hres henv hs1 (by rw [c1Y hsameO];exact hrun)
    refine hwp (hI.fresh r (by simp) hoff) ?_
    intro v w' μ' Φ' g1 g2 g3
    have hj:=Sim.join (G:=a00 s0 (A++r::B) (L.setIfInBounds r.i true)) hI.sim g1 hsub g3 (by
     intro id ob hG
     by_cases hex:∃q∈B,On L q.i/\id=q.s.next
     ·obtain ⟨q,hq,hq',hid⟩:=hex
      have h2:=hnB q hq
      right
      have e1:r.s.get id=none:=f6.get_none _ _ (by omega)
      have e2:r.s'.get id=none:=f6.get_none _ _ (by omega)
      refine ⟨?_,e1⟩
      rw [<- hG]
      exact (sameCur _ _ _ (by simp only [Z1,Z4,e1,e2])).symm
     ·left
      have:=a5z (pre:=Z1 id) (post:=Z4 id) (L:=L.setIfInBounds r.i true) (a3h id htr) (fun q hq h=>by simp only [Z1,Z4];rw [kA q hq (by rwa [honA q hq] at h)]) honr
       (fun q hq h=>by
        rw [honB q hq] at h
        simp only [Z1,Z4]
        exact (kB q hq h id (fun e=>hex ⟨q,hq,h,e⟩)).symm)
      have hG':a00 s0 (A++r::B) (L.setIfInBounds r.i true) id=r.s'.get id:=this
      rw [<- hG',hG])
    exact ⟨μ',Φ',hfin v w' μ' Φ' g2 hj.1 hj.2⟩
end
end Go.V
namespace Go.V
section
variable {P:Program} {md:FuncId->a0a} {N:Nat} {C:W6}
def a5a (n:Nat) (L:Array Bool):Nat:=(List.range n).countP (fun i=>!L.getD i false)
theorem c4m {n:Nat} {L:Array Bool} {i:Nat} (hi:i<n) (hL:i<L.size) (hoff:¬ On L i):a5a n (L.setIfInBounds i true)+1=a5a n L:=by
 have h0:L.getD i false=false:=by unfold On at hoff;simpa using hoff
 have key:∀l:List Nat,l.Nodup->(l.countP (fun j=>!(L.setIfInBounds i true).getD j false))+(if i∈l then 1 else 0)=l.countP (fun j=>!L.getD j false):=by
  intro l
  induction l with
  | nil=>intro _;simp
  | cons x l ih =>
    intro hn
    rw [List.nodup_cons] at hn
    have:=ih hn.2
    rw [List.countP_cons,List.countP_cons]
    by_cases e:x=i
    ·subst e
     have hx:(L.setIfInBounds x true).getD x false=true:=(a4T hL).2 (.inl rfl)
     rw [hx,h0]
     simp [hn.1] at this ⊢
     omega
    ·have hx:(L.setIfInBounds i true).getD x false=L.getD x false:=by
      simp only [Array.getD_eq_getD_getElem?]
      rw [Array.getElem?_setIfInBounds_ne (fun h=>e h.symm)]
     rw [hx]
     have hm:(i∈x::l)↔i∈l:=by
      simp only [List.mem_cons]
      exact ⟨fun h=>h.resolve_left (fun q=>e q.symm),.inr⟩
     simp only [hm]
     omega
 have:=key (List.range n) List.nodup_range
 simp only [List.mem_range,hi,if_true] at this
 exact this
theorem c1q {n:Nat} {L:Array Bool} (h:a5a n L=0):∀i,i<n->On L i:=by
 intro i hi
 unfold a5a at h
 rw [List.countP_eq_zero] at h
 have:=h i (List.mem_range.2 hi)
 simpa [On] using this
theorem b8R {ops:Array Oper} {L:Array Bool} (hsz:L.size=ops.size) (hback:a3O ops.toList 0=true) (h:Region.ready .any ops L=[]):∀i,i<ops.size->On L i:=by
 intro i
 induction i using Nat.strongRecOn with
 | _ i ih =>
   intro hi
   apply Classical.byContradiction
   intro hoff
   have hmem:i∈Region.ready .any ops L:=by
    unfold Region.ready
    rw [List.mem_filter]
    refine ⟨List.mem_range.2 hi,?_⟩
    have h0:L.getD i true=false:=by
     unfold On at hoff
     simp only [Array.getD_eq_getD_getElem?] at hoff ⊢
     have:i<L.size:=by omega
     simp [this] at hoff ⊢
     exact hoff
    rw [h0]
    have ho:ops[i]?=some ops[i]:=by simp [hi]
    simp only [Bool.not_false,Bool.true_and,ho,Option.map_some,Option.getD_some]
    rw [<- Array.all_toList,List.all_eq_true]
    intro e he
    by_cases hb:Region.binds .any e=true
    ·have hlt:=a8q hback i ops[i] (by simp [hi]) e he hb
     have:=ih e.on (by omega) (by omega)
     unfold On at this
     simp [this]
    ·simp at hb
     simp [hb]
   rw [h] at hmem
   simp at hmem
theorem c2K {Q:Exit->Act->World->Prop} (hC:a1G P C) {ops:Array Oper} {pairs:List (Nat×Nat)} {env0 envF:Env} {s0 sF:f6} {rs:List Rec} (htr:a08 C env0 s0 rs envF sF)
 (hst:rs.Pairwise (a21 pairs)) (hpo:rs.Pairwise fun x y=>a3E (a2w ops.toList []) pairs (x.i,x.o) (y.i,y.o)=true) (hnd:(rs.map (·.i)).Nodup) (hback:a3O ops.toList 0=true)
 (hcomp:∀r∈rs,∃o,ops[r.i]?=some o/\a09 P md N ops o=some r.o) (hcov:∀i,i<ops.size->∃r∈rs,r.i=i) {μ0:Mu} {Φ0:Phi} {w0:World}
 (hQ:a4c N μ0 Φ0 s0 w0 envF sF (fun a w=>Q .normal a w)):∀ (fuel:Nat) (L:Array Bool) (a:Act) (w:World) (μ:Mu) (Φ:Phi),L.size=ops.size->a9I ops L->a5a ops.size L=fuel ->
 Inv N μ0 Φ0 w0 env0 s0 sF rs L a w μ Φ->wpAny P .any ops Q fuel L a w:=by
 have hend:∀ (L:Array Bool) (a:Act) (w:World) (μ:Mu) (Φ:Phi),(∀i,i<ops.size->On L i)->Inv N μ0 Φ0 w0 env0 s0 sF rs L a w μ Φ->Q .normal a w:=by
  intro L a w μ Φ hon hI
  have hon':∀q∈rs,On L q.i:=fun q hq=>by
   obtain ⟨o,ho,_⟩:=hcomp q hq
   exact hon q.i (Array.getElem?_eq_some_iff.1 ho).1
  have hS:a00 s0 rs L=sF.get:=funext fun id=>a94 (a3h id htr) hon'
  have hE:∀t,a4o env0 rs L t=envF.get t:=fun t=>a94 (a7y t htr) hon'
  have h1:=hI.sim
  have h2:=hI.evo
  rw [hS] at h1 h2
  exact hQ a w μ Φ ⟨fun t=>by rw [<- hE t];exact hI.env t,hI.size,hI.defers⟩ h1 h2
 intro fuel
 induction fuel with
 | zero =>
   intro L a w μ Φ hsz hsh hcnt hI
   have hon:=c1q hcnt
   refine ⟨?_,hend L a w μ Φ hon hI⟩
   unfold Region.ready
   rw [List.filter_eq_nil_iff]
   intro i hi
   have:=hon i (List.mem_range.1 hi)
   have hlt:i<L.size:=by rw [hsz];exact List.mem_range.1 hi
   unfold On at this
   simp only [Array.getD_eq_getD_getElem?] at this ⊢
   simp [hlt] at this ⊢
   simp [this]
 | succ fuel ih =>
   intro L a w μ Φ hsz hsh hcnt hI
   refine ⟨fun hr=>hend L a w μ Φ (b8R hsz hback hr) hI,?_⟩
   intro i hi
   unfold Region.ready at hi
   rw [List.mem_filter] at hi
   obtain ⟨hi1,hi2⟩:=hi
   have hlt:=List.mem_range.1 hi1
   simp only [Bool.and_eq_true] at hi2
   have hoff:¬ On L i:=by
    unfold On
    have h3:=hi2.1
    have:i<L.size:=by omega
    simp only [Array.getD_eq_getD_getElem?] at h3 ⊢
    simp [this] at h3 ⊢
    exact h3
   have hready:∀o,ops[i]?=some o->∀e∈o.after.toList,Region.binds .any e=true->On L e.on:=by
    intro o ho e he hb
    have h3:=hi2.2
    rw [ho] at h3
    simp only [Option.map_some,Option.getD_some] at h3
    rw [<- Array.all_toList,List.all_eq_true] at h3
    have:=h3 e he
    simp [hb] at this
    unfold On
    simpa using this
   obtain ⟨r,hr,rfl⟩:=hcov i hlt
   refine wpOp_mono ?_ (b8v (Q:=Q) hC htr hst hpo hnd hback hcomp hI hsh hsz hr hoff hready)
   rintro a' w' ⟨μ',Φ',hI'⟩
   refine ih _ _ _ μ' Φ' (by simpa using hsz) ?_ ?_ hI'
   ·intro j o ho hj e he hb
    rw [a4T (by omega)] at hj ⊢
    right
    rcases hj with rfl | hj
    ·exact hready o ho e he hb
    ·exact hsh j o ho hj e he hb
   ·have:=c4m (n:=ops.size) hlt (by omega) hoff
    omega
theorem b1w {Q:Exit->Act->World->Prop} (hC:a1G P C) (hmix:P.follows .mixedOrders=true) {ops:Array Oper} {l:List (Nat×P1)} {pairs:List (Nat×Nat)} (hok:a7I ops l pairs=true)
 (hcomp:∀x∈l,∃o,ops[x.1]?=some o/\a09 P md N ops o=some x.2) {env env':Env} {s s':f6} (hrun:X0 C pairs l [] env s=some (env',s'))
 {μ:Mu} {Φ:Phi} {a:Act} {w:World} (hf:FrR N μ Φ env a) (hs:Sim μ Φ s.get w) (hfr:a2M μ s.next s'.next) (hQ:a4c N μ Φ s w env' s' (fun a w=>Q .normal a w)) (id:Nat) :
 (Code.region id ops true).wp P Q a w:=by
 simp only [a7I,Bool.and_eq_true,decide_eq_true_eq,List.all_eq_true] at hok
 obtain ⟨⟨⟨⟨⟨h1,h2⟩,h3⟩,h4⟩,h5⟩,h6⟩:=hok
 have htrace:∃rs:List Rec,rs.map (fun r=>(r.i,r.o))=l/\a08 C env s rs env' s'/\rs.Pairwise (a21 pairs):=by
  cases hp:pairs.isEmpty with
  | true=>exact a8L hp hrun
  | false =>
    obtain ⟨rs,g1,g2,g3,_⟩:=b0i hp hrun
    exact ⟨rs,g1,g2,g3⟩
 obtain ⟨rs,g1,g2,g3⟩:=htrace
 have hpo:rs.Pairwise fun x y=>a3E (a2w ops.toList []) pairs (x.i,x.o) (y.i,y.o)=true:=by
  have:=b5O h6
  rw [<- g1,List.pairwise_map] at this
  exact this
 have hmap:l.map (·.1)=rs.map (·.i):=by rw [<- g1];simp
 have hnd:(rs.map (·.i)).Nodup:=by rw [<- hmap];exact h1
 have hcomp':∀r∈rs,∃o,ops[r.i]?=some o/\a09 P md N ops o=some r.o:=by
  intro r hr
  exact hcomp (r.i,r.o) (by rw [<- g1];exact List.mem_map_of_mem hr)
 have hcov:∀i,i<ops.size->∃r∈rs,r.i=i:=by
  intro i hi
  have:=h5 i (List.mem_range.2 hi)
  rw [hmap] at this
  simp only [List.contains_iff_mem,List.mem_map] at this
  exact this
 refine wp_region_any hmix ?_
 have hoffAll:∀i,¬ On (Array.replicate ops.size false) i:=by
  intro i h
  unfold On at h
  simp only [Array.getD_eq_getD_getElem?] at h
  by_cases hi:i<ops.size
  ·simp [hi] at h
  ·have:(Array.replicate ops.size false)[i]?=none:=by simp;omega
   simp [this] at h
 have hQ':a4c N μ Φ s { w with drawn:=w.drawn+1 } env' s' (fun a w=>Q .normal a w):=by
  intro a' w' μ' Φ' q1 q2 q3
  refine hQ a' w' μ' Φ' q1 q2 ?_
  exact ⟨q3.mu,q3.muOut,q3.phi,q3.os,q3.tape,q3.output,q3.size,q3.keep,q3.phiNew,q3.ownNew⟩
 refine c2K hC g2 g3 hpo hnd h4 hcomp' hcov hQ' ops.size _ a _ μ Φ (by simp) ?_ ?_ ?_
 ·intro j o _ hj
  exact absurd hj (hoffAll j)
 ·unfold a5a
  rw [List.countP_eq_length.2]
  ·simp
  ·intro i _
   have:=hoffAll i
   unfold On at this
   simpa using this
 ·have hE:∀t,a4o env rs (Array.replicate ops.size false) t=env.get t:=fun t=>b6e _ fun q _=>hoffAll q.i
  have hS:a00 s rs (Array.replicate ops.size false)=s.get:=funext fun id=>b6e _ fun q _=>hoffAll q.i
  have hn:=a5Q hC g2
  refine ⟨fun t=>by rw [hE];exact hf.env t,hf.size,hf.defers,by rw [hS];exact hs.drew _,?_,?_⟩
  ·rw [hS]
   exact (Evo.refl μ Φ s.get { w with drawn:=w.drawn+1 } s.next).widen (Nat.le_refl _) hn.1
  ·intro r hr _ id q1 q2
   have:=hn.2 r hr
   exact hfr id (by omega) (by omega)
end
end Go.V
namespace Go.V
def a5Y (P:Program) (md:FuncId->a0a) (N:Nat) (ops:Array Oper):List Oper->Option (List P1)
 | []=>some []
 | o::r=>match a09 P md N ops o,a5Y P md N ops r with
   | some v,some l=>some (v::l)
   | _,_=>none
def a2j:List P1->Nat->List (Nat×P1)
 | [],_=>[]
 | v::r,i=>(i,v)::a2j r (i+1)
def a4I (vs:List P1):List Nat->Option (List (Nat×P1))
 | []=>some []
 | i::r=>match vs[i]?,a4I vs r with
   | some v,some l=>some ((i,v)::l)
   | _,_=>none
abbrev Ann:=List (Nat×List Nat×List (Nat×Nat))
def Ann.find:Ann->Nat->Option (List Nat×List (Nat×Nat))
 | [],_=>none
 | (i,x)::r,id=>if i=id then some x else Ann.find r id
def a9Z (P:Program) (md:FuncId->a0a) (N:Nat) (ann:Ann) (id:Nat) (ops:Array Oper) (draw:Bool):Option a9e :=
 match a5Y P md N ops ops.toList with
 | none=>none
 | some vs =>
   if draw then
    match ann.find id with
    | some (order,pairs)=>match a4I vs order with
      | some l=>if a7I ops l pairs then some ⟨l,pairs,true⟩ else none
      | none=>none
    | none=>if a7I ops (a2j vs 0) [] then some ⟨a2j vs 0,[],true⟩ else none
   else some ⟨a2j vs 0,[],false⟩
def a2Y (P:Program) (md:FuncId->a0a) (N:Nat) (ann:Ann):Code->Option a0x
 | .skip=>some .skip
 | .region id ops draw=>(a9Z P md N ann id ops draw).map .region
 | .seq a b=>match a2Y P md N ann a,a2Y P md N ann b with
   | some x,some y=>some (.seq x y)
   | _,_=>none
 | .cond c x y=>match T0 c,a2Y P md N ann x,a2Y P md N ann y with
   | some c,some x,some y=>some (.cond c x y)
   | _,_,_=>none
 | .block id b=>(a2Y P md N ann b).map (.block id)
 | .loop b=>(a2Y P md N ann b).map .loop
 | .exit id=>some (.exit id)
 | .ret=>some .ret
 | _=>none
def b0L (P:Program):ResultVar->Option (Nat×Option (Option Nat))
 | .tmp t=>some (t,none)
 | .cell t ty=>(a3R P ty).map fun n=>(t,some n)
def a4Y (P:Program):List ResultVar->Option (List (Nat×Option (Option Nat)))
 | []=>some []
 | x::r=>match b0L P x,a4Y P r with
   | some y,some l=>some (y::l)
   | _,_=>none
def a3o (P:Program) (md:FuncId->a0a) (ann:Ann) (vars:List Nat) (fn:Func):Option M3 :=
 match fn.body with
 | none=>none
 | some c=>match a2Y P md fn.ntmps ann c,a4Y P fn.results.toList with
   | some vc,some rs=>if fn.name=="runtime.NumGoroutine" then none else some ⟨vars,vc,rs⟩
   | _,_=>none
def a5B (l:List Nat):FuncId->a0a:=fun g=>if l.contains g then .iso else .raw
def a5N (P:Program) (fs:FuncId->Option M3):Prop:=∀f vf,fs f=some vf->∃fn md ann,P.funcs[f]?=some fn/\a3o P md ann vf.vars fn=some vf
def a64:X7->Exit
 | .normal=>.normal
 | .exit id=>.exit id
 | .ret=>.ret
def b5Q (P:Program) (ex:List Nat->a0x->Env->f6->Option Out):Prop:=∀ (md:FuncId->a0a) (N:Nat) (ann:Ann) (vars:List Nat) (code:Code) (vc:a0x) (env:Env) (s:f6) (e:X7) (env':Env) (s':f6),
 a2Y P md N ann code=some vc->ex vars vc env s=some (e,env',s')->s.next<=s'.next /\
 ∀ (μ:Mu) (Φ:Phi) (a:Act) (w:World) (Q:Exit->Act->World->Prop),FrR N μ Φ env a->Sim μ Φ s.get w->a2M μ s.next s'.next->a4c N μ Φ s w env' s' (Q (a64 e))->code.wp P Q a w
section
variable {P:Program} {fs:FuncId->Option M3}
theorem b3S {md:FuncId->a0a} {N:Nat} {ops:Array Oper}:∀ {l:List Oper} {vs:List P1},a5Y P md N ops l=some vs->vs.length=l.length/\∀ (j:Nat) (o:Oper) (v:P1),l[j]?=some o->vs[j]?=some v->a09 P md N ops o=some v
 | [],vs,h=>by simp [a5Y] at h;subst h;simp
 | o::l,vs,h=>by
   simp only [a5Y] at h
   split at h
   ·rename_i v l' h1 h2
    simp at h;subst h
    obtain ⟨g1,g2⟩:=b3S h2
    refine ⟨by simp [g1],?_⟩
    intro j o' v' hj hv
    cases j with
    | zero=>simp at hj hv;subst hj;subst hv;exact h1
    | succ j=>exact g2 j o' v' (by simpa using hj) (by simpa using hv)
   ·simp at h
theorem a7b:∀ {vs:List P1} {i:Nat},(a2j vs i).length=vs.length/\∀ (j:Nat) (x:Nat×P1),(a2j vs i)[j]?=some x->x.1=i+j/\vs[j]?=some x.2
 | [],i=>by simp [a2j]
 | v::vs,i=>by
   obtain ⟨g1,g2⟩:=@a7b vs (i+1)
   refine ⟨by simp [a2j,g1],?_⟩
   intro j x hx
   cases j with
   | zero=>simp [a2j] at hx;subst hx;simp
   | succ j =>
     simp [a2j] at hx
     have:=g2 j x hx
     exact ⟨by omega,by simpa using this.2⟩
theorem b4n {vs:List P1}:∀ {l:List Nat} {r:List (Nat×P1)},a4I vs l=some r->∀x∈r,vs[x.1]?=some x.2
 | [],r,h,x,hx=>by simp [a4I] at h;subst h;simp at hx
 | i::l,r,h,x,hx=>by
   simp only [a4I] at h
   split at h
   ·rename_i v l' h1 h2
    simp at h;subst h
    rcases List.mem_cons.1 hx with rfl | hx
    ·exact h1
    ·exact b4n h2 x hx
   ·simp at h
theorem c4e {C:W6} (hC:a1G P C) (hmix:P.follows .mixedOrders=true) {md:FuncId->a0a} {N:Nat} {ann:Ann} {id:Nat} {ops:Array Oper} {draw:Bool} {r:a9e} (hc:a9Z P md N ann id ops draw=some r)
 {env env':Env} {s s':f6} (hrun:X0 C r.pairs r.ops [] env s=some (env',s')):s.next<=s'.next /\
 ∀ (μ:Mu) (Φ:Phi) (a:Act) (w:World) (Q:Exit->Act->World->Prop),FrR N μ Φ env a->Sim μ Φ s.get w->a2M μ s.next s'.next->a4c N μ Φ s w env' s' (Q .normal)->(Code.region id ops draw).wp P Q a w:=by
 unfold a9Z at hc
 split at hc
 ·simp at hc
 ·rename_i vs hvs
  obtain ⟨g1,g2⟩:=b3S hvs
  have hnum:∀x∈a2j vs 0,∃o,ops[x.1]?=some o/\a09 P md N ops o=some x.2:=by
   intro x hx
   obtain ⟨j,hj⟩:=List.getElem?_of_mem hx
   obtain ⟨e1,e2⟩:=a7b.2 j x hj
   have hlt:j<ops.toList.length:=by rw [<- g1];exact (List.getElem?_eq_some_iff.1 e2).1
   have ho:ops.toList[j]?=some ops.toList[j]:=List.getElem?_eq_getElem hlt
   refine ⟨ops.toList[j],?_,g2 j _ _ ho e2⟩
   have:x.1=j:=by omega
   rw [this,<- Array.getElem?_toList]
   exact ho
  have hpick:∀ {l:List Nat} {r:List (Nat×P1)},a4I vs l=some r->∀x∈r,∃o,ops[x.1]?=some o/\a09 P md N ops o=some x.2:=by
   intro l r h x hx
   have e2:=b4n h x hx
   have hlt:x.1<ops.toList.length:=by rw [<- g1];exact (List.getElem?_eq_some_iff.1 e2).1
   have ho:ops.toList[x.1]?=some ops.toList[x.1]:=List.getElem?_eq_getElem hlt
   exact ⟨_,by rw [<- Array.getElem?_toList];exact ho,g2 _ _ _ ho e2⟩
  have hall:∀ {l:List (Nat×P1)},(∀x∈l,∃o,ops[x.1]?=some o/\a09 P md N ops o=some x.2)->∀x∈l,∃o,a09 P md N ops o=some x.2:=fun h x hx=>by
   obtain ⟨o,_,h2⟩:=h x hx
   exact ⟨o,h2⟩
  split at hc
  ·rename_i hd
   subst hd
   split at hc
   ·split at hc
    ·rename_i l hl
     split at hc
     ·rename_i hok
      simp at hc;subst hc
      exact ⟨a5h hC (hall (hpick hl)) hrun,fun μ Φ a w Q hf hs hfr hQ=>b1w hC hmix hok (hpick hl) hrun hf hs hfr hQ id⟩
     ·simp at hc
    ·simp at hc
   ·split at hc
    ·rename_i hok
     simp at hc;subst hc
     exact ⟨a5h hC (hall hnum) hrun,fun μ Φ a w Q hf hs hfr hQ=>b1w hC hmix hok hnum hrun hf hs hfr hQ id⟩
    ·simp at hc
  ·rename_i hd
   simp at hd
   subst hd
   simp at hc;subst hc
   refine ⟨a5h hC (hall hnum) hrun,fun μ Φ a w Q hf hs hfr hQ=>wp_region_list (b0N hC (md:=md) (vl:=a2j vs 0) ?_ ?_ hrun hf hs hfr hQ)⟩
   ·rw [a7b.1,g1]
   ·intro j o x h1 h2
    exact g2 j o x.2 h1 (a7b.2 j x h2).2
theorem b1t {env:Env} {s:f6} {μ:Mu} {Φ:Phi} {a:Act} {w:World} (he:a0d μ Φ env a) (hs:Sim μ Φ s.get w):∀ {l:List ResultVar} {rs:List (Nat×Option (Option Nat))} {ds:List D},a4Y P l=some rs->V4 env s rs=some ds ->
 ∃vs:List Value,(l.mapM (fun | .tmp t=>pure (a.tmps.getD t undef) | .cell t ty=>do loadVar ty (<- asAddr (a.tmps.getD t undef))):Sem (List Value)).run P w=.ok vs w/\RL μ Φ ds vs
 | [],rs,ds,h1,h2=>by
   simp [a4Y] at h1;subst h1
   simp [V4] at h2;subst h2
   exact ⟨[],by simp,by simp [RL]⟩
 | x::l,rs,ds,h1,h2=>by
   simp only [a4Y] at h1
   split at h1
   ·rename_i y l' hy hl
    simp at h1;subst h1
    simp only [V4] at h2
    split at h2
    ·rename_i d ds' hd hds
     simp at h2;subst h2
     obtain ⟨vs,g1,g2⟩:=b1t he hs hl hds
     cases x with
     | tmp t =>
       simp [b0L] at hy;subst hy
       simp only [W4] at hd
       cases hd
       refine ⟨a.tmps.getD t undef::vs,?_,?_⟩
       ·rw [List.mapM_cons]
        simp only [Sem.run_bind,Sem.run_pure,Result.andThen_ok,g1]
       ·simp only [RL]
        exact ⟨_,_,rfl,he t,g2⟩
     | cell t ty =>
       simp only [b0L] at hy
       obtain ⟨n,hn,e⟩:=map_some hy
       subst e
       simp only [W4] at hd
       have ht:=he t
       split at hd
       ·rename_i id off hx
        rw [hx] at ht
        simp only [R] at ht
        obtain ⟨b,o,z,hm,e⟩:=ht
        split at hd
        ·rename_i cs hg
         obtain ⟨b',o',z',m1,m2,_⟩:=hs.obj id _ hg
         rw [hm] at m1
         cases m1
         obtain ⟨us,u1,u2⟩:=m2.values
         obtain ⟨v,q1,q2⟩:=b0P (P:=P) hn hd u1 u2
         refine ⟨v::vs,?_,?_⟩
         ·rw [List.mapM_cons]
          have:(loadVar ty ⟨b,o+off,none⟩).run P w=.ok v w:=by
           simpa [Instr.loadAt,Instr.sureAddr] using q1
          have ha:(asAddr (a.tmps.getD t undef)).run P w=.ok ⟨b,o+off,none⟩ w:=by rw [e];rfl
          simp only [Sem.run_bind,ha,Sem.run_pure,Result.andThen_ok,this,g1]
         ·simp only [RL]
          exact ⟨_,_,rfl,q2,g2⟩
        ·simp at hd
       ·simp at hd
    ·simp at h2
   ·simp at h1
theorem c33 {env:Env} {s:f6} {μ:Mu} {Φ:Phi} {a:Act} {w:World} (he:a0d μ Φ env a) (hs:Sim μ Φ s.get w) {fn:Func} {rs:List (Nat×Option (Option Nat))} {d:D} (h1:a4Y P fn.results.toList=some rs) (h2:V0 env s rs=some d) :
 ∃v,(results fn a.tmps).run P w=.ok v w/\R μ Φ d v:=by
 unfold V0 at h2
 have key:∀ds,V4 env s rs=some ds->∃vs:List Value,RL μ Φ ds vs/\(results fn a.tmps).run P w=.ok (if h:vs.toArray.size=1 then vs.toArray[0] else .tuple vs.toArray) w:=by
  intro ds hds
  obtain ⟨vs,g1,g2⟩:=b1t he hs h1 hds
  refine ⟨vs,g2,?_⟩
  unfold results
  rw [Array.mapM_eq_mapM_toList]
  rw [Sem.run_bind,Sem.run_map]
  erw [g1]
  rfl
 split at h2
 ·rename_i d0 hds
  cases h2
  obtain ⟨vs,g1,g2⟩:=key _ hds
  simp only [RL] at g1
  obtain ⟨u,us,rfl,r1,rfl⟩:=g1
  exact ⟨u,by simpa using g2,r1⟩
 ·rename_i l hne hds
  cases h2
  obtain ⟨vs,g1,g2⟩:=key _ hds
  have hl:=a1b g1
  have hlen:¬ vs.toArray.size=1:=by
   simp
   intro e
   rw [e] at hl
   match l,hl with
   | [x],_=>exact hne x rfl
  rw [dif_neg hlen] at g2
  exact ⟨.tuple vs.toArray,g2,by simp only [R];exact ⟨vs,rfl,g1⟩⟩
 ·simp at h2
theorem c6m {μ:Mu} {Φ:Phi} {args:List D} {vs:List Value} (h:RL μ Φ args vs) (n:Nat) (vars:List Nat):a0d μ Φ (vars.map fun t=>(t,args.getD t .undef)) { tmps:=vs.toArray++Array.replicate n undef,defers:=[] }:=by
 intro t
 induction vars with
 | nil=>simp [Env.get,R]
 | cons x l ih =>
   simp only [List.map_cons,Env.get]
   by_cases e:x=t
   ·subst e
    simp only [if_true]
    cases hx:args[x]? with
    | none=>simp [List.getD_eq_getElem?_getD,hx,R]
    | some d =>
      obtain ⟨u,h1,h2⟩:=a40 h hx
      have hlt:x<vs.length:=(List.getElem?_eq_some_iff.1 h1).1
      simp only [List.getD_eq_getElem?_getD,hx,Option.getD_some,Array.getD_eq_getD_getElem?]
      rw [Array.getElem?_append_left (by simpa using hlt)]
      simp [h1]
      exact h2
   ·simp only [e,if_false]
    exact ih
theorem b3J (hfs:a5N P fs) {ex:List Nat->a0x->Env->f6->Option Out} (hex:b5Q P ex):a1G P (a0G fs ex):=by
 intro f args s d s' h
 unfold a0G at h
 split at h
 ·simp at h
 ·rename_i vf hvf
  obtain ⟨fn,md,ann,hfn,hcf⟩:=hfs f vf hvf
  unfold a3o at hcf
  split at hcf
  ·simp at hcf
  ·rename_i c hbody
   split at hcf
   ·rename_i vc rs hvc hrs
    split at hcf
    ·simp at hcf
    ·rename_i hname
     simp at hcf
     have hvc2:vf.code=vc:=by rw [<- hcf]
     have hrs2:vf.res=rs:=by rw [<- hcf]
     have done:∀e env' s1,ex vf.vars vf.code (vf.vars.map fun t=>(t,args.getD t .undef)) s=some (e,env',s1)->(e=.normal∨e=.ret)->(V0 env' s1 vf.res).map (fun d=>(d,s1))=some (d,s') ->
      s.next<=s'.next/\(∃fn,P.funcs[f]?=some fn/\fn.body.isSome=true/\(fn.name=="runtime.NumGoroutine")=false) /\
      ∀μ Φ w vs,Sim μ Φ s.get w->RL μ Φ args vs->a2M μ s.next s'.next ->
       Calls P f vs.toArray w fun e w'=>∃v μ' Φ',e=.returned v/\Sim μ' Φ' s'.get w'/\R μ' Φ' d v/\Evo μ Φ s.get w μ' Φ' s'.get w' s.next s'.next:=by
      intro e env' s1 hx hcase hres
      obtain ⟨d',hd',e1⟩:=map_some hres
      cases e1
      rw [hvc2] at hx
      rw [hrs2] at hd'
      obtain ⟨g1,g2⟩:=hex md fn.ntmps ann vf.vars c vc _ s e env' s' hvc hx
      refine ⟨g1,⟨fn,hfn,by rw [hbody];rfl,by simpa using hname⟩,?_⟩
      intro μ Φ w vs hs hr hfr
      refine calls_of_wp hfn hbody ?_
      refine g2 μ Φ _ w _ ⟨c6m hr _ vf.vars,by simp;omega,rfl⟩ hs hfr ?_
      intro a' w' μ' Φ' q1 q2 q3
      obtain ⟨v,r1,r2⟩:=c33 q1.env q2 hrs hd'
      rcases hcase with rfl | rfl
      ·exact ⟨q1.defers,v,r1,v,μ',Φ',rfl,q2,r2,q3⟩
      ·exact ⟨q1.defers,v,r1,v,μ',Φ',rfl,q2,r2,q3⟩
     split at h
     ·rename_i env' s1 hx
      exact done .normal env' s1 hx (.inl rfl) h
     ·rename_i env' s1 hx
      exact done .ret env' s1 hx (.inr rfl) h
     ·simp at h
   ·simp at hcf
def b5a (P:Program) (fs:FuncId->Option M3) (n:Nat):Prop:=∀ (md:FuncId->a0a) (N:Nat) (ann:Ann) (vars:List Nat) (code:Code) (vc:a0x) (env:Env) (s:f6) (e:X7) (env':Env) (s':f6),
 a2Y P md N ann code=some vc->P2 fs n vars (.loop vc) env s=some (e,env',s')->s.next<=s'.next /\
 ∃k,∀ (μ:Mu) (Φ:Phi) (a:Act) (w:World) (Q:Exit->Act->World->Prop),FrR N μ Φ env a->Sim μ Φ s.get w->a2M μ s.next s'.next->a4c N μ Φ s w env' s' (Q (a64 e))->Code.rounds P code Q k a w
theorem b9q (hfs:a5N P fs) (hmix:P.follows .mixedOrders=true):∀n,b5Q P (P2 fs n)/\b5a P fs n:=by
 intro n
 induction n with
 | zero=>exact ⟨fun _ _ _ _ _ _ _ _ _ _ _ _ h=>by simp [P2] at h,fun _ _ _ _ _ _ _ _ _ _ _ _ h=>by simp [P2] at h⟩
 | succ n ih =>
   obtain ⟨ih1,ih2⟩:=ih
   have hloop:b5a P fs (n+1):=by
    intro md N ann vars code vc env s e env' s' hc h
    simp only [P2] at h
    split at h
    ·rename_i env1 s1 h1
     obtain ⟨g1,g2⟩:=ih1 md N ann vars code vc env s .normal env1 s1 hc h1
     obtain ⟨g3,k,g4⟩:=ih2 md N ann vars code vc env1 s1 e env' s' hc h
     refine ⟨by omega,k+1,?_⟩
     intro μ Φ a w Q hf hs hfr hQ
     rw [rounds_succ]
     refine g2 μ Φ a w _ hf hs (fun id q1 q2=>hfr id q1 (by omega)) ?_
     intro a1 w1 μ1 Φ1 q1 q2 q3
     refine g4 μ1 Φ1 a1 w1 Q q1 q2 (fun id r1 r2=>by rw [q3.muOut id (.inr r1)];exact hfr id (by omega) r2) ?_
     intro a2 w2 μ2 Φ2 r1 r2 r3
     exact hQ a2 w2 μ2 Φ2 r1 r2 (q3.trans g1 g3 r3)
    ·rename_i hne
     obtain ⟨g1,g2⟩:=ih1 md N ann vars code vc env s e env' s' hc h
     refine ⟨g1,1,?_⟩
     intro μ Φ a w Q hf hs hfr hQ
     rw [rounds_succ]
     refine g2 μ Φ a w _ hf hs hfr ?_
     intro a1 w1 μ1 Φ1 q1 q2 q3
     have:=hQ a1 w1 μ1 Φ1 q1 q2 q3
     cases e with
     | normal=>exact absurd h (hne env' s')
     | exit id=>exact this
     | ret=>exact this
   refine ⟨?_,hloop⟩
   intro md N ann vars code vc env s e env' s' hc h
   cases code<;>simp only [a2Y] at hc
   case skip =>
    cases hc
    simp only [P2] at h
    cases h
    exact ⟨Nat.le_refl _,fun μ Φ a w Q hf hs _ hQ=>wp_skip (hQ a w μ Φ hf hs (Evo.refl _ _ _ _ _))⟩
   case region id ops draw =>
    obtain ⟨r,hr,e1⟩:=map_some hc
    cases e1
    simp only [P2] at h
    split at h
    ·rename_i env1 s1 h1
     cases h
     obtain ⟨g1,g2⟩:=c4e (b3J hfs ih1) hmix hr h1
     refine ⟨g1,fun μ Φ a w Q hf hs hfr hQ=>g2 μ Φ a w Q hf hs hfr ?_⟩
     intro a1 w1 μ1 Φ1 q1 q2 q3
     exact hQ a1 w1 μ1 Φ1 (q1.keep vars) q2 q3
    ·simp at h
   case seq x y =>
    split at hc
    ·rename_i vx vy hx hy
     cases hc
     simp only [P2] at h
     split at h
     ·rename_i env1 s1 h1
      obtain ⟨g1,g2⟩:=ih1 md N ann vars x vx env s .normal env1 s1 hx h1
      obtain ⟨g3,g4⟩:=ih1 md N ann vars y vy env1 s1 e env' s' hy h
      refine ⟨by omega,?_⟩
      intro μ Φ a w Q hf hs hfr hQ
      refine wp_seq (g2 μ Φ a w _ hf hs (fun id q1 q2=>hfr id q1 (by omega)) ?_)
      intro a1 w1 μ1 Φ1 q1 q2 q3
      refine g4 μ1 Φ1 a1 w1 Q q1 q2 (fun id r1 r2=>by rw [q3.muOut id (.inr r1)];exact hfr id (by omega) r2) ?_
      intro a2 w2 μ2 Φ2 r1 r2 r3
      exact hQ a2 w2 μ2 Φ2 r1 r2 (q3.trans g1 g3 r3)
     ·rename_i hne
      obtain ⟨g1,g2⟩:=ih1 md N ann vars x vx env s e env' s' hx h
      refine ⟨g1,?_⟩
      intro μ Φ a w Q hf hs hfr hQ
      refine wp_seq (g2 μ Φ a w _ hf hs hfr ?_)
      intro a1 w1 μ1 Φ1 q1 q2 q3
      have:=hQ a1 w1 μ1 Φ1 q1 q2 q3
      cases e with
      | normal=>exact absurd h (hne env' s')
      | exit id=>exact this
      | ret=>exact this
    ·simp at hc
   case cond c x y =>
    split at hc
    ·rename_i vc' vx vy hcc hx hy
     cases hc
     simp only [P2] at h
     split at h
     ·rename_i ht
      obtain ⟨g1,g2⟩:=ih1 md N ann vars x vx env s e env' s' hx h
      refine ⟨g1,fun μ Φ a w Q hf hs hfr hQ=>?_⟩
      have hr:=S7 hf.env hcc
      rw [ht] at hr
      simp only [R] at hr
      exact wp_cond_true hr (g2 μ Φ a w Q hf hs hfr hQ)
     ·rename_i ht
      obtain ⟨g1,g2⟩:=ih1 md N ann vars y vy env s e env' s' hy h
      refine ⟨g1,fun μ Φ a w Q hf hs hfr hQ=>?_⟩
      have hr:=S7 hf.env hcc
      rw [ht] at hr
      simp only [R] at hr
      exact wp_cond_false hr (g2 μ Φ a w Q hf hs hfr hQ)
     ·simp at h
    ·simp at hc
   case block id b =>
    obtain ⟨vb,hb,e1⟩:=map_some hc
    cases e1
    simp only [P2] at h
    split at h
    ·rename_i id' env1 s1 h1
     obtain ⟨g1,g2⟩:=ih1 md N ann vars b vb env s (.exit id') env1 s1 hb h1
     split at h
     ·rename_i hid
      cases h
      refine ⟨g1,fun μ Φ a w Q hf hs hfr hQ=>wp_block (g2 μ Φ a w _ hf hs hfr ?_)⟩
      intro a1 w1 μ1 Φ1 q1 q2 q3
      have:=hQ a1 w1 μ1 Φ1 q1 q2 q3
      simp only [a64,Exit.inBlock,hid,if_true]
      exact this
     ·rename_i hid
      cases h
      refine ⟨g1,fun μ Φ a w Q hf hs hfr hQ=>wp_block (g2 μ Φ a w _ hf hs hfr ?_)⟩
      intro a1 w1 μ1 Φ1 q1 q2 q3
      have:=hQ a1 w1 μ1 Φ1 q1 q2 q3
      simp only [a64,Exit.inBlock,hid,if_false]
      exact this
    ·rename_i hne
     obtain ⟨g1,g2⟩:=ih1 md N ann vars b vb env s e env' s' hb h
     refine ⟨g1,fun μ Φ a w Q hf hs hfr hQ=>wp_block (g2 μ Φ a w _ hf hs hfr ?_)⟩
     intro a1 w1 μ1 Φ1 q1 q2 q3
     have:=hQ a1 w1 μ1 Φ1 q1 q2 q3
     cases e with
     | normal=>exact this
     | exit id'=>exact absurd h (hne id' env' s')
     | ret=>exact this
   case loop b =>
    obtain ⟨vb,hb,e1⟩:=map_some hc
    cases e1
    obtain ⟨g1,k,g2⟩:=hloop md N ann vars b vb env s e env' s' hb h
    exact ⟨g1,fun μ Φ a w Q hf hs hfr hQ=>wp_loop_rounds k (g2 μ Φ a w Q hf hs hfr hQ)⟩
   case exit id =>
    cases hc
    simp only [P2] at h
    cases h
    exact ⟨Nat.le_refl _,fun μ Φ a w Q hf hs _ hQ=>wp_exit (hQ a w μ Φ hf hs (Evo.refl _ _ _ _ _))⟩
   case ret =>
    cases hc
    simp only [P2] at h
    cases h
    exact ⟨Nat.le_refl _,fun μ Φ a w Q hf hs _ hQ=>wp_ret (hQ a w μ Φ hf hs (Evo.refl _ _ _ _ _))⟩
   all_goals (cases hc;done)
theorem c3e (hfs:a5N P fs) (hmix:P.follows .mixedOrders=true) {n f:Nat} {args:List D} {d:D} {s':f6} (h:a4Q fs n f args f6.empty=some (d,s')) {w:World} {vs:List Value} (hr:RPL (fun b=>w.heap[b]?) args vs) :
 Calls P f vs.toArray w fun e w'=>∃v μ' Φ',e=.returned v/\R μ' Φ' d v/\RowKit.Below w.heap.size w w':=by
 obtain ⟨_,_,h2⟩:=b3J hfs (b9q hfs hmix n).1 f args f6.empty d s' h
 refine (h2 (fun _=>none) (fun b=>w.heap[b]?) w vs (b0w fun _ _ e=>e) (RL_of_RPL _ _ hr) (fun _ _ _=>rfl)).mono ?_
 rintro e w' ⟨v,μ',Φ',rfl,q1,q2,q3⟩
 exact ⟨v,μ',Φ',rfl,q2,q3.os,q3.tape,q3.output,q3.size,fun k hk=>q3.keep k hk (b1d k)⟩
end
end Go.V
namespace Go.V
inductive Ty where
 | bool
 | int (k:IntKind)
 | str
 | slice (sz:Nat) (e:Ty)
 | struct (fs:List Ty)
 | arr (n:Nat) (e:Ty)
mutual
def X1:Ty->List D->Prop
 | .bool,cs=>∃b,cs=[.bool b]
 | .int k,cs=>∃n,cs=[.int k n]/\(Lit.int k n).wf=true
 | .str,cs=>∃s:ByteArray,cs=[.str s]/\s.size<=maxLen
 | .slice sz e,cs=>cs=[.nils]∨∃xs,cs=[.lst sz xs]/\xs.length<=maxLen/\∀x∈xs,X1 e x
 | .struct fs,cs=>HasTs fs cs
 | .arr n e,cs=>∃gs:List (List D),gs.length=n/\cs=gs.flatten/\∀g∈gs,X1 e g
def HasTs:List Ty->List D->Prop
 | [],cs=>cs=[]
 | t::ts,cs=>∃a b,cs=a++b/\X1 t a/\HasTs ts b
end
mutual
def a07 (P:Program):Ty->TypeId->Bool
 | .bool,t=>match P.underlying t with | some .bool=>true | _=>false
 | .int k,t=>match P.underlying t with | some (.int k')=>decide (k=k') | _=>false
 | .str,t=>match P.underlying t with | some .string=>true | _=>false
 | .slice sz e,t=>match P.underlying t with | some (.slice u)=>decide (P.cellsOf u=sz)&&decide (0<sz)&&a07 P e u | _=>false
 | .struct fs,t=>match P.underlying t with | some (.struct gs)=>fieldsOk P fs 0 gs.toList (P.cellsOf t) | _=>false
 | .arr n e,t=>match P.underlying t with | some (.array m u)=>decide (m=n)&&decide (P.cellsOf t=n*P.cellsOf u)&&a07 P e u | _=>false
def fieldsOk (P:Program):List Ty->Nat->List Field->Nat->Bool
 | [],off,[],n=>decide (off=n)
 | y::ys,off,f::fs,n=>decide (f.offset=off)&&a07 P y f.type&&fieldsOk P ys (off+P.cellsOf f.type) fs n
 | _,_,_,_=>false
end
section
variable {H:Type} {enc:TypeId×Value->H} {P:Program} {W:World} {sp:Nat->Bool} {held:Bool}
theorem a6Q {α β:Type} {f:α->Option β}:∀ {l:List α} {r:List β},l.mapM f=some r->r.length=l.length/\∀ (i:Nat) x,l[i]?=some x->∃y,r[i]?=some y/\f x=some y
 | [],r,h=>by simp at h;subst h;simp
 | a::l,r,h=>by
   rw [List.mapM_cons] at h
   cases ha:f a with
   | none=>simp [ha] at h
   | some y =>
     cases hl:l.mapM f with
     | none=>simp [ha,hl] at h
     | some ys =>
       simp [ha,hl] at h
       subst h
       obtain ⟨h1,h2⟩:=a6Q hl
       refine ⟨by simp [h1],fun i x hi=>?_⟩
       cases i with
       | zero=>simp at hi;subst hi;exact ⟨y,by simp,ha⟩
       | succ i=>simpa using h2 i x (by simpa using hi)
theorem b57:∀ {ds:List D} {cs:List Value} {b o:Nat},RPL (fun b=>W.heap[b]?) ds cs->ds.all M8=true->(∀i u,cs[i]?=some u->W.cell? ⟨b,o+i,none⟩=some u)->RC (fun b=>W.heap[b]?) ds b o
 | [],_,_,_,_,_,_=>by simp only [RC]
 | d::ds,cs,b,o,h,ho,hc=>by
   simp only [RPL] at h
   obtain ⟨u,us,rfl,h1,h2⟩:=h
   simp only [RC]
   simp only [List.all_cons,Bool.and_eq_true] at ho
   refine ⟨⟨ho.1,u,?_,h1⟩,b57 h2 ho.2 fun i x hi=>?_⟩
   ·have:=hc 0 u (by simp)
    simp only [World.cell?,Nat.add_zero] at this
    simp only [Phi.cell]
    revert this
    cases W.heap[b]? with
    | none=>simp
    | some ob=>cases ob<;>simp
   ·have:=hc (i+1) x (by simpa using hi)
    rw [Nat.add_assoc,Nat.add_comm 1 i]
    exact this
theorem b4u:∀ (sz:Nat) (xs:List (List D)) (b o:Nat),(∀i x,xs[i]?=some x->x.length=sz/\RC (fun b=>W.heap[b]?) x b (o+i*sz))->RG (fun b=>W.heap[b]?) sz xs b o
 | _,[],_,_,_=>by simp only [RG]
 | sz,x::xs,b,o,h=>by
   simp only [RG]
   obtain ⟨h1,h2⟩:=h 0 x (by simp)
   refine ⟨h1,by simpa using h2,b4u sz xs b (o+sz) fun i y hi=>?_⟩
   obtain ⟨h3,h4⟩:=h (i+1) y (by simpa using hi)
   refine ⟨h3,?_⟩
   have:o+(i+1)*sz=o+sz+i*sz:=by rw [Nat.add_mul];omega
   rwa [this] at h4
theorem b1F {Φ:Phi}:∀ {ds:List D} {vs:List Value},RPL Φ ds vs->vs.length=ds.length
 | [],vs,h=>by simp only [RPL] at h;subst h;rfl
 | d::ds,vs,h=>by
   simp only [RPL] at h
   obtain ⟨u,us,rfl,_,h2⟩:=h
   simp [b1F h2]
theorem b1h {Φ:Phi}:∀ {ds es:List D} {vs us:List Value},RPL Φ ds vs->RPL Φ es us->RPL Φ (ds++es) (vs++us)
 | [],es,vs,us,h,k=>by simp only [RPL] at h;subst h;simpa using k
 | d::ds,es,vs,us,h,k=>by
   simp only [RPL] at h
   obtain ⟨u,vs',rfl,h1,h2⟩:=h
   simp only [List.cons_append,RPL]
   exact ⟨u,vs'++us,rfl,h1,b1h h2 k⟩
theorem c4Y {a:Addr} {n:Nat} {cs:List Value} (h:W.cells? 0 a n=some cs):cs.length=n/\∀i u,cs[i]?=some u->W.cell? (a.add i)=some u:=by
 simp only [World.cells?,Nat.zero_le,if_true] at h
 obtain ⟨h1,h2⟩:=a6Q h
 refine ⟨by simpa using h1,fun i u hi=>?_⟩
 have hlt:i<n:=by
  have:=(List.getElem?_eq_some_iff.1 hi).1
  simp at h1;omega
 obtain ⟨y,h3,h4⟩:=h2 i i (by simp [hlt])
 rw [hi] at h3;cases h3;exact h4
theorem b1z {α β:Type} {Q:α->β->Prop}:∀ (l:List α),(∀ (i:Nat) x,l[i]?=some x->∃y,Q x y)->∃r:List β,r.length=l.length/\∀ (i:Nat) x y,l[i]?=some x->r[i]?=some y->Q x y
 | [],_=>⟨[],rfl,by simp⟩
 | a::l,h=>by
   obtain ⟨y,hy⟩:=h 0 a (by simp)
   obtain ⟨r,h1,h2⟩:=b1z l fun i x hi=>h (i+1) x (by simpa using hi)
   refine ⟨y::r,by simp [h1],fun i x z hx hz=>?_⟩
   cases i with
   | zero=>simp at hx hz;subst hx;subst hz;exact hy
   | succ i=>exact h2 i x z (by simpa using hx) (by simpa using hz)
theorem a49 {Φ:Phi} {d:D} {v:Value} (h:RP Φ d v):RPL Φ [d] [v]:=by
 simp only [RPL];exact ⟨v,[],rfl,h,rfl⟩
mutual
theorem a7D:∀ (ty:Ty) (fuel:Nat) (t:TypeId) (cs:List Value) (x:DataW H×List MemPlace),a07 P ty t=true->DataW.trod enc P W 0 (fun _=>true) held fuel t cs=some x ->
 ∃ds,RPL (fun b=>W.heap[b]?) ds cs/\ds.all M8=true/\X1 ty ds
 | _,0,t,cs,x,_,h=>by simp [DataW.trod] at h
 | .bool,fuel+1,t,cs,x,hk,h=>by
   simp only [a07] at hk
   split at hk
   case h_2=>cases hk
   rename_i hu
   unfold DataW.trod at h
   rw [hu] at h
   split at h<;>simp_all
   rename_i b
   exact ⟨[.bool b],a49 (by simp only [RP]),by simp [M8],by simp [X1]⟩
 | .int k,fuel+1,t,cs,x,hk,h=>by
   simp only [a07] at hk
   split at hk
   case h_2=>cases hk
   rename_i k' hu
   have hkk:k=k':=by simpa using hk
   subst hkk
   unfold DataW.trod at h
   rw [hu] at h
   split at h<;>simp_all
   rename_i kk nn hh
   obtain ⟨⟨h1,h2⟩,_⟩:=h
   subst h1
   exact ⟨[.int kk nn],a49 (by simp only [RP]),by simp [M8],by simp only [X1];exact ⟨nn,rfl,h2⟩⟩
 | .str,fuel+1,t,cs,x,hk,h=>by
   simp only [a07] at hk
   split at hk
   case h_2=>cases hk
   rename_i hu
   unfold DataW.trod at h
   rw [hu] at h
   split at h<;>simp_all
   rename_i s
   exact ⟨[.str s],a49 (by simp only [RP]),by simp [M8],by simp only [X1];exact ⟨s,rfl,h.1⟩⟩
 | .slice sz e,fuel+1,t,cs,x,hk,h=>by
   simp only [a07] at hk
   split at hk
   case h_2=>cases hk
   rename_i u hu
   simp only [Bool.and_eq_true,decide_eq_true_eq] at hk
   obtain ⟨⟨hsz,hpos⟩,hk⟩:=hk
   unfold DataW.trod at h
   rw [hu] at h
   split at h<;>(try (simp_all;done))
   ·exact ⟨[.nils],a49 (by simp only [RP]),by simp [M8],by simp [X1]⟩
   ·rename_i e' a len cap hue
    cases hue
    dsimp only at h
    split at h
    case isFalse=>cases h
    rename_i hc
    obtain ⟨_,hlc,hcap⟩:=hc
    cases hm:(List.range len).mapM (fun i=>(W.cells? 0 (a.add (i*P.cellsOf u)) (P.cellsOf u)).bind (DataW.trod enc P W 0 (fun _=>true) held fuel u)) with
    | none=>rw [hm] at h;cases h
    | some els =>
      obtain ⟨hl1,hl2⟩:=a6Q hm
      have key:∀ (i:Nat) k,(List.range len)[i]?=some k->∃ds:List D,ds.length=sz/\(∀ (j:Nat),j<sz->∃v,W.cell? ((a.add (k*sz)).add j)=some v)/\ds.all M8=true/\X1 e ds /\
       ∃cc,RPL (fun b=>W.heap[b]?) ds cc/\∀ (j:Nat) v,cc[j]?=some v->W.cell? ((a.add (k*sz)).add j)=some v:=by
       intro i k hi
       obtain ⟨y,_,hy⟩:=hl2 i k hi
       cases hcc:W.cells? 0 (a.add (k*P.cellsOf u)) (P.cellsOf u) with
       | none=>simp [hcc] at hy
       | some cc =>
         simp only [hcc,Option.bind_some] at hy
         obtain ⟨ds,h1,h2,h3⟩:=a7D e fuel u cc y hk hy
         obtain ⟨h4,h5⟩:=c4Y hcc
         rw [hsz] at h4 h5
         refine ⟨ds,by rw [<- b1F h1];exact h4,fun j hj=>⟨cc[j],h5 j _ (List.getElem?_eq_getElem (by omega))⟩,h2,h3,cc,h1,h5⟩
      obtain ⟨r,hr1,hr2⟩:=b1z (List.range len) key
      have hrl:r.length=len:=by simpa using hr1
      have hat:∀ (i:Nat) ds,r[i]?=some ds->_:=fun i ds hi=>hr2 i i ds (List.getElem?_range (by have:=(List.getElem?_eq_some_iff.1 hi).1;omega)) hi
      obtain ⟨b,o,spot⟩:=a
      by_cases hz:len=0
      ·subst hz
       have:r=[]:=List.eq_nil_of_length_eq_zero hrl
       subst this
       refine ⟨[.lst sz []],a49 ?_,by simp [M8],?_⟩
       ·simp only [RP]
        exact ⟨b,o,cap,spot,by simp,by simp,.inr trivial,by simp only [RG]⟩
       ·simp only [X1]
        exact .inr ⟨[],rfl,by simp,by simp⟩
      ·have hspot:spot=none:=by
        obtain ⟨ds,hd⟩:∃ds,r[0]?=some ds:=⟨r[0],List.getElem?_eq_getElem (by omega)⟩
        obtain ⟨_,h2,_⟩:=hat 0 ds hd
        obtain ⟨v,hv⟩:=h2 0 (by omega)
        simpa [Addr.add] using World.cell?_spot hv
       subst hspot
       refine ⟨[.lst sz r],a49 ?_,by simp [M8],?_⟩
       ·simp only [RP]
        refine ⟨b,o,cap,none,by rw [hrl],by omega,.inl rfl,b4u sz r b o fun i ds hi=>?_⟩
        obtain ⟨h1,_,h3,_,cc,h4,h5⟩:=hat i ds hi
        refine ⟨h1,b57 h4 h3 fun j v hj=>?_⟩
        have:=h5 j v hj
        simpa [a2k] using this
       ·simp only [X1]
        refine .inr ⟨r,rfl,by omega,fun ds hd=>?_⟩
        obtain ⟨i,hi⟩:=List.getElem?_of_mem hd
        exact (hat i ds hi).2.2.2.1
 | .struct fs,fuel+1,t,cs,x,hk,h=>by
   simp only [a07] at hk
   split at hk
   case h_2=>cases hk
   rename_i gs hu
   unfold DataW.trod at h
   rw [hu] at h
   split at h<;>(try (simp_all;done))
   rename_i cs _ _ gs' hue
   have hgs:gs'=gs:=by simpa using hue.symm
   rw [hgs] at h
   split at h
   case isFalse=>cases h
   rename_i hl
   cases hm:gs.toList.mapM (fun f=>DataW.trod enc P W 0 (fun _=>true) held fuel f.type ((cs.drop f.offset).take (P.cellsOf f.type))) with
   | none=>rw [hm] at h;cases h
   | some xs =>
     simp only [X1]
     have:=openedFs fs fuel 0 gs.toList (P.cellsOf t) cs xs hk hl hm
     simpa using this
 | .arr n e,fuel+1,t,cs,x,hk,h=>by
   simp only [a07] at hk
   split at hk
   case h_2=>cases hk
   rename_i m u hu
   simp only [Bool.and_eq_true,decide_eq_true_eq] at hk
   obtain ⟨⟨rfl,hsz⟩,hk⟩:=hk
   unfold DataW.trod at h
   rw [hu] at h
   split at h<;>(try (simp_all;done))
   rename_i cs _ _ n' e' hue
   have hgs:n'=m/\e'=u:=by simp at hue;exact ⟨hue.1.symm,hue.2.symm⟩
   rw [hgs.1,hgs.2] at h
   split at h
   case isFalse=>cases h
   rename_i hl
   cases hm:(List.range m).mapM (fun i=>DataW.trod enc P W 0 (fun _=>true) held fuel u ((cs.drop (i*P.cellsOf u)).take (P.cellsOf u))) with
   | none=>rw [hm] at h;cases h
   | some xs =>
     obtain ⟨hl1,hl2⟩:=a6Q hm
     have key:∀k,k<=m->∃gs:List (List D),gs.length=k/\RPL (fun b=>W.heap[b]?) gs.flatten (cs.drop ((m-k)*P.cellsOf u))/\gs.flatten.all M8=true/\∀g∈gs,X1 e g:=by
      intro k
      induction k with
      | zero =>
        intro _
        refine ⟨[],rfl,?_,by simp,by simp⟩
        have:cs.drop (m*P.cellsOf u)=[]:=List.drop_eq_nil_of_le (by omega)
        simp [this,RPL]
      | succ k ih =>
        intro hk'
        obtain ⟨gs,h1,h2,h3,h4⟩:=ih (by omega)
        obtain ⟨y,_,hy⟩:=hl2 (m-(k+1)) (m-(k+1)) (List.getElem?_range (by omega))
        obtain ⟨ds,d1,d2,d3⟩:=a7D e fuel u _ y hk hy
        refine ⟨ds::gs,by simp [h1],?_,?_,?_⟩
        ·have e1:cs.drop ((m-(k+1))*P.cellsOf u)=(cs.drop ((m-(k+1))*P.cellsOf u)).take (P.cellsOf u)++cs.drop ((m-k)*P.cellsOf u):=by
          have:(m-k)*P.cellsOf u=(m-(k+1))*P.cellsOf u+P.cellsOf u:=by
           have:m-k=(m-(k+1))+1:=by omega
           rw [this,Nat.add_mul];omega
          rw [this,<- List.drop_drop,List.take_append_drop]
         rw [e1,List.flatten_cons]
         exact b1h d1 h2
        ·rw [List.flatten_cons,List.all_append,d2,h3];rfl
        ·intro g hg
         rcases List.mem_cons.1 hg with rfl | hg
         ·exact d3
         ·exact h4 g hg
     obtain ⟨gs,h1,h2,h3,h4⟩:=key m (Nat.le_refl _)
     simp only [X1]
     exact ⟨gs.flatten,by simpa using h2,h3,gs,h1,rfl,h4⟩
theorem openedFs:∀ (ys:List Ty) (fuel off:Nat) (fs:List Field) (n:Nat) (cs:List Value) (xs:List (DataW H×List MemPlace)),fieldsOk P ys off fs n=true->cs.length=n ->
 fs.mapM (fun f=>DataW.trod enc P W 0 (fun _=>true) held fuel f.type ((cs.drop f.offset).take (P.cellsOf f.type)))=some xs ->
 ∃ds,RPL (fun b=>W.heap[b]?) ds (cs.drop off)/\ds.all M8=true/\HasTs ys ds
 | [],fuel,off,fs,n,cs,xs,hk,hl,h=>by
   cases fs with
   | cons f fs=>simp [fieldsOk] at hk
   | nil =>
     simp only [fieldsOk,decide_eq_true_eq] at hk
     refine ⟨[],?_,by simp,by simp [HasTs]⟩
     have:cs.drop off=[]:=List.drop_eq_nil_of_le (by omega)
     simp [this,RPL]
 | y::ys,fuel,off,fs,n,cs,xs,hk,hl,h=>by
   cases fs with
   | nil=>simp [fieldsOk] at hk
   | cons f fs =>
     simp only [fieldsOk,Bool.and_eq_true,decide_eq_true_eq] at hk
     obtain ⟨⟨h1,h2⟩,h3⟩:=hk
     rw [List.mapM_cons] at h
     cases ha:DataW.trod enc P W 0 (fun _=>true) held fuel f.type ((cs.drop f.offset).take (P.cellsOf f.type)) with
     | none=>simp [ha] at h
     | some z =>
       cases hr:fs.mapM (fun f=>DataW.trod enc P W 0 (fun _=>true) held fuel f.type ((cs.drop f.offset).take (P.cellsOf f.type))) with
       | none=>simp [ha,hr] at h
       | some zs =>
         obtain ⟨ds,d1,d2,d3⟩:=a7D y fuel f.type _ z h2 ha
         obtain ⟨es,e1,e2,e3⟩:=openedFs ys fuel _ fs n cs zs h3 hl hr
         refine ⟨ds++es,?_,by rw [List.all_append,d2,e2];rfl,by simp only [HasTs];exact ⟨ds,es,rfl,d3,e3⟩⟩
         have:=b1h d1 e1
         rw [h1,<- List.drop_drop,List.take_append_drop] at this
         exact this
end
def a3A:Ty->D->Prop
 | .struct fs,d=>∃ds,d=.agg ds/\X1 (.struct fs) ds
 | .arr n e,d=>∃ds,d=.agg ds/\X1 (.arr n e) ds
 | ty,d=>X1 ty [d]
def a5A:List Ty->List D->Prop
 | [],xs=>xs=[]
 | y::ys,xs=>∃d ds,xs=d::ds/\a3A y d/\a5A ys ds
theorem b8C {Φ:Phi} {ds:List D} {v:Value} (h:RPL Φ ds [v]):∃d,ds=[d]/\RP Φ d v:=by
 cases ds with
 | nil=>simp [RPL] at h
 | cons d ds =>
   simp only [RPL] at h
   obtain ⟨u,us,e,h1,h2⟩:=h
   cases e
   cases ds with
   | nil=>exact ⟨d,rfl,h1⟩
   | cons d' ds=>simp [RPL] at h2
open Go.WideShapes in
theorem c1x {ty:Ty} {t:TypeId} {v:Value} {d:DataW H} {ps:List MemPlace} {base:Nat} (hk:a07 P ty t=true) (hval:Value.okWide P W .any base t v)
 (h:DataW.Trod enc P W 0 (fun _=>true) held t v d ps):∃x,RP (fun b=>W.heap[b]?) x v/\a3A ty x:=by
 have hT:=h
 obtain ⟨fuel,hf⟩:=h
 obtain ⟨ds,h1,h2,h3⟩:=a7D ty fuel t _ _ hk hf
 have one:v.cells=#[v]->∃x,RP (fun b=>W.heap[b]?) x v/\X1 ty [x]:=by
  intro e
  rw [e] at h1
  obtain ⟨x,e2,h4⟩:=b8C h1
  subst e2
  exact ⟨x,h4,h3⟩
 have many:∀cs,v=.agg cs->∃x,RP (fun b=>W.heap[b]?) x v/\∃ds,x=.agg ds/\X1 ty ds:=by
  intro cs e
  subst e
  simp only [Value.cells] at h1
  refine ⟨.agg ds,?_,ds,rfl,h3⟩
  simp only [RP]
  exact ⟨cs.toList,rfl,h1⟩
 cases ty with
 | bool =>
   simp only [a07] at hk
   split at hk
   case h_2=>cases hk
   rename_i hu
   refine one ?_
   obtain ⟨b,rfl,_⟩:=RowKit.open_bool hu hval hT
   rfl
 | int k =>
   simp only [a07] at hk
   split at hk
   case h_2=>cases hk
   rename_i hu
   refine one ?_
   obtain ⟨b,rfl⟩:=okWide_int hu hval
   rfl
 | str =>
   simp only [a07] at hk
   split at hk
   case h_2=>cases hk
   rename_i hu
   refine one ?_
   obtain ⟨b,rfl⟩:=okWide_string hu hval
   rfl
 | slice sz e =>
   simp only [a07] at hk
   split at hk
   case h_2=>cases hk
   rename_i hu
   refine one ?_
   obtain ⟨a,l,c,rfl⟩:=okWide_slice hu hval
   rfl
 | struct fs =>
   simp only [a07] at hk
   split at hk
   case h_2=>cases hk
   rename_i hu
   simp only [Value.okWide,hu] at hval
   obtain ⟨cs,e,_⟩:=hval
   exact many cs e
 | arr n e =>
   simp only [a07] at hk
   split at hk
   case h_2=>cases hk
   rename_i hu
   simp only [Value.okWide,hu] at hval
   obtain ⟨cs,e,_⟩:=hval
   exact many cs e
def a48 (P:Program):List Ty->List TypeId->Bool
 | [],[]=>true
 | y::ys,t::ts=>a07 P y t&&a48 P ys ts
 | _,_=>false
theorem b30 {base:Nat}:∀ {tys:List Ty} {ts:List TypeId} {vs:List Value} {ds:List (DataW H)} {ps:List MemPlace},a48 P tys ts=true ->
 (∀ (j:Nat) t v,ts[j]?=some t->vs[j]?=some v->Value.okWide P W .any base t v)->DataW.TrodAll enc P W 0 (fun _=>true) held ts vs ds ps ->
 ds.length=tys.length/\∃xs,RPL (fun b=>W.heap[b]?) xs vs/\a5A tys xs
 | [],[],vs,ds,ps,_,_,h=>by
   obtain ⟨rfl,rfl,rfl⟩:=ChangeShapes.trodAll_nil h
   exact ⟨rfl,[],by simp only [RPL],by simp only [a5A]⟩
 | [],_::_,_,_,_,hk,_,_=>by simp [a48] at hk
 | _::_,[],_,_,_,hk,_,_=>by simp [a48] at hk
 | y::ys,t::ts,vs,ds,ps,hk,hv,h=>by
   simp only [a48,Bool.and_eq_true] at hk
   obtain ⟨v,vs',d,ds',p,q,rfl,rfl,rfl,h1,h2⟩:=ChangeShapes.trodAll_cons h
   obtain ⟨x,x1,x2⟩:=c1x hk.1 (hv 0 t v rfl rfl) h1
   obtain ⟨hl,xs,x3,x4⟩:=b30 hk.2 (fun j u w hj hw=>hv (j+1) u w (by simpa using hj) (by simpa using hw)) h2
   refine ⟨by simp [hl],x::xs,?_,?_⟩
   ·simp only [RPL];exact ⟨v,vs',rfl,x1,x3⟩
   ·simp only [a5A];exact ⟨x,xs,rfl,x2,x4⟩
theorem b1T (hl:laidOutB P=true) {W':World} (hb:RowKit.Below W.heap.size W W'):∀ {ts:List TypeId} {vs:List Value} {ds:List (DataW H)} {ps:List MemPlace},
 ts.all (fun t=>P.readableRec t&&decide (t<P.types.size))=true->DataW.TrodAll enc P W 0 (fun _=>true) true ts vs ds ps ->
 DataW.TrodAll enc P W' 0 (fun b=>decide (b<W.heap.size)) true ts vs ds ps
 | [],vs,ds,ps,_,h=>by
   obtain ⟨rfl,rfl,rfl⟩:=ChangeShapes.trodAll_nil h
   exact ChangeShapes.trodAll_mk0
 | t::ts,vs,ds,ps,hr,h=>by
   simp only [List.all_cons,Bool.and_eq_true,decide_eq_true_eq] at hr
   obtain ⟨v,vs',d,ds',p,q,rfl,rfl,rfl,h1,h2⟩:=ChangeShapes.trodAll_cons h
   refine ⟨p,q,?_,b1T hl hb hr.2 h2,rfl⟩
   have lt:∀x∈p,x.block<W.heap.size:=by obtain ⟨m,hm⟩:=h1;exact DataW.trod_lt m _ _ _ hm
   exact RowKit.Below.trod hl hr.1.1 hr.1.2 h1 hb lt
theorem c66 {C:Checked} {os:Os} {f:FuncId} {fn:Func} {s:ChangeSpec} {conds:List PathCond} {fs:Nat->Option M3} {tb:TypeId}
 (own:ownKnob C.prog.godebug=none) (started:os.Started) (noInit:C.prog.inits.idxOf? f=none) (hfn:C.prog.funcs[f]?=some fn)
 (witness:∃ (w:World) (tape:Tape) (i:Input),w.os=os/\(w.forCall tape i).Shaped C.prog/\i.vars=[]/\Input.okWide C.prog (w.forCall tape i) .any w.heap.size f i /\
  s.pre6 enc C.prog fn conds false (w.forCall tape i).memory i.args/\({}:Assume).holds C.prog (lone (Frame.enter C.prog f i.args .normal) [] (w.forCall tape i)))
 (laid:laidOutB C.prog=true) (hvars:s.vars=[]) (tys:List Ty) (htys:a48 C.prog tys fn.params.toList=true)
 (hread:fn.params.toList.all (fun t=>C.prog.readableRec t&&decide (t<C.prog.types.size))=true)
 (hres:fn.resultTypes=#[tb]) (htb:C.prog.underlying tb=some .bool)
 (hspec:∀ds:List (DataW H),ds.length=tys.length->s.fn H ds={ results:=[.lit (.bool true)],args:=ds })
 (hfs:a5N C.prog fs) (law:∀xs,a5A tys xs->∃n s',a4Q fs n f xs f6.empty=some (.bool true,s')) :
 ReturnsInHanded {} C os f .any (s.pre6 enc C.prog fn conds false) (s.post enc C.prog fn false true false false):=by
 refine returnsInHanded_of_change own started noInit hfn witness ?_
 intro W base args ds gs before hval hW hcnd _
 have hW':=hW
 obtain ⟨p,q,hA,hV,rfl,hfz,hnd⟩:=hW
 rw [hvars] at hV
 obtain ⟨rfl,rfl⟩:=ChangeShapes.trodVars_none hV
 obtain ⟨hlen,xs,x1,x2⟩:=b30 htys (fun j t v hj hv=>hval j t v (by simpa using hj) (by simpa using hv)) hA
 obtain ⟨n,s',hn⟩:=law xs x2
 have:=c3e hfs C.mixed hn x1
 refine this.mono ?_
 rintro e W' ⟨v,μ',Φ',rfl,hv,bel⟩
 simp only [R] at hv
 subst hv
 refine ⟨_,rfl,ds,[],_,[],p,[],hW',?_,?_,?_,bel.frame _,fun h=>by cases h⟩
 ·rw [List.append_nil,hspec ds hlen,hres]
  exact ChangeShapes.trodAll_mk1 (RowKit.shut_bool htb _)
 ·rw [List.append_nil,hspec ds hlen]
  exact b1T laid bel hread hA
 ·rw [hvars,List.append_nil,hspec ds hlen]
  rfl
end
end Go.V
namespace Go.V
def W6.le (C C':W6):Prop:=∀f a s r,C f a s=some r->C' f a s=some r
theorem c1J {C C':W6} (h:C.le C') {md f args s r} (e:a1d C md f args s=some r):a1d C' md f args s=some r:=by
 unfold a1d at *
 split at e
 ·split at e
  ·exact h _ _ _ _ e
  ·split at e
   ·cases e
   ·rename_i args' ha
    split at e
    ·cases e
    ·rename_i r' s1 hc
     simp only [ha,h _ _ _ _ hc]
     exact e
 ·cases e
theorem b7u {C C':W6} (h:C.le C') {env s o r} (e:evM C env s o=some r):evM C' env s o=some r:=by
 cases o<;>simp only [evM] at*<;>first | exact c1J h e | exact e
theorem b3X {C C':W6} (h:C.le C') {env s o r} (e:Q0 C env s o=some r):Q0 C' env s o=some r:=by
 cases o<;>simp only [Q0] at*<;>first | exact b7u h e | exact e
theorem a7P {C C':W6} (h:C.le C') {pairs}:∀ {ops tr env s r},X0 C pairs ops tr env s=some r->X0 C' pairs ops tr env s=some r
 | [],tr,env,s,r,e=>by simpa only [X0] using e
 | (i,o)::rest,tr,env,s,r,e=>by
   simp only [X0] at e ⊢
   split at e
   ·cases e
   ·rename_i hw
    try simp only [hw]
    exact a7P h e
   ·rename_i hw
    try simp only [hw]
    split at e
    ·cases e
    ·rename_i d s' hr
     simp only [b3X h hr]
     split at e
     ·rename_i hp
      rw [if_pos hp]
      exact a7P h e
     ·cases e
theorem a6E {fs} {ex ex':List Nat->a0x->Env->f6->Option Out} (h:∀v c e s r,ex v c e s=some r->ex' v c e s=some r):W6.le (a0G fs ex) (a0G fs ex'):=by
 intro f a s r e
 unfold a0G at *
 split at e
 ·cases e
 ·rename_i vf hf
  try simp only [hf]
  split at e
  ·rename_i env' s' hx
   rw [h _ _ _ _ _ hx]
   exact e
  ·rename_i env' s' hx
   rw [h _ _ _ _ _ hx]
   exact e
  ·cases e
theorem c0d {fs}:∀n v c e s r,P2 fs n v c e s=some r->P2 fs (n+1) v c e s=some r:=by
 intro n
 induction n with
 | zero=>intro v c e s r h;simp [P2] at h
 | succ n ih =>
   intro v c e s r h
   cases c with
   | skip=>simpa only [P2] using h
   | region rg =>
     rw [P2] at h ⊢
     split at h
     ·rename_i e' s' hr
      rw [a7P (a6E ih) hr]
      exact h
     ·cases h
   | seq a b =>
     rw [P2] at h ⊢
     split at h
     ·rename_i e' s' ha
      rw [ih _ _ _ _ _ ha]
      exact ih _ _ _ _ _ h
     ·rename_i hne
      rw [ih _ _ _ _ _ h]
      split
      ·rename_i e' s' hr
       cases hr
       exact absurd h (hne _ _)
      ·rfl
   | cond c x y =>
     rw [P2] at h ⊢
     split at h
     ·rename_i hc;exact ih _ _ _ _ _ h
     ·rename_i hc;exact ih _ _ _ _ _ h
     ·cases h
   | block id b =>
     rw [P2] at h ⊢
     split at h
     ·rename_i id' e' s' hb
      rw [ih _ _ _ _ _ hb]
      exact h
     ·rename_i hne
      rw [ih _ _ _ _ _ h]
      split
      ·rename_i id' e' s' hr
       cases hr
       exact absurd h (hne _ _ _)
      ·rfl
   | loop b =>
     rw [P2] at h ⊢
     split at h
     ·rename_i e' s' ha
      rw [ih _ _ _ _ _ ha]
      exact ih _ _ _ _ _ h
     ·rename_i hne
      rw [ih _ _ _ _ _ h]
      split
      ·rename_i e' s' hr
       cases hr
       exact absurd h (hne _ _)
      ·rfl
   | exit id=>simpa only [P2] using h
   | ret=>simpa only [P2] using h
theorem a3w {fs} {n m:Nat} (hnm:n<=m) {v c e s r} (h:P2 fs n v c e s=some r):P2 fs m v c e s=some r:=by
 induction hnm with
 | refl=>exact h
 | step _ ih=>exact c0d _ _ _ _ _ _ ih
variable {fs:FuncId->Option M3}
def Ev (fs:FuncId->Option M3) (f:FuncId) (args:List D) (s:f6) (d:D) (s':f6):Prop:=∃n,a4Q fs n f args s=some (d,s')
def WP (fs:FuncId->Option M3) (vars:List Nat) (c:a0x) (env:Env) (s:f6) (Q:X7->Env->f6->Prop):Prop:=∃n e env' s',P2 fs n vars c env s=some (e,env',s')/\Q e env' s'
def WO (fs:FuncId->Option M3) (pairs:List (Nat×Nat)) (ops:List (Nat×P1)) (tr:List Tr) (env:Env) (s:f6) (Q:Env->f6->Prop):Prop :=
 ∃n env' s',X0 (a0G fs (P2 fs n)) pairs ops tr env s=some (env',s')/\Q env' s'
theorem b3m {vars env s Q} (h:Q .normal env s):WP fs vars .skip env s Q:=⟨1,_,_,_,rfl,h⟩
theorem b1n {vars env s id} {Q:X7->Env->f6->Prop} (h:Q (.exit id) env s):WP fs vars (.exit id) env s Q:=⟨1,_,_,_,rfl,h⟩
theorem b6i {vars env s} {Q:X7->Env->f6->Prop} (h:Q .ret env s):WP fs vars .ret env s Q:=⟨1,_,_,_,rfl,h⟩
theorem a78 {vars r env s Q} (h:WO fs r.pairs r.ops [] env s fun env' s'=>Q .normal (env'.keep vars) s'):WP fs vars (.region r) env s Q:=by
 obtain ⟨n,env',s',h1,h2⟩:=h
 exact ⟨n+1,_,_,_,by rw [P2,h1],h2⟩
def P7 (fs:FuncId->Option M3) (vars:List Nat) (b:a0x) (Q:X7->Env->f6->Prop):X7->Env->f6->Prop
 | .normal,env,s=>WP fs vars b env s Q
 | e,env,s=>Q e env s
theorem b34 {vars a b env s Q} (h:WP fs vars a env s (P7 fs vars b Q)):WP fs vars (.seq a b) env s Q:=by
 obtain ⟨n,e,env',s',h1,h2⟩:=h
 cases e with
 | normal =>
   obtain ⟨m,e2,env2,s2,h3,h4⟩:=h2
   exact ⟨max n m+1,e2,env2,s2,by rw [P2,a3w (Nat.le_max_left n m) h1];exact a3w (Nat.le_max_right n m) h3,h4⟩
 | exit id=>exact ⟨n+1,_,_,_,by rw [P2,h1],h2⟩
 | ret=>exact ⟨n+1,_,_,_,by rw [P2,h1],h2⟩
theorem c3L {vars c x y env s Q} (b:Bool) (hc:env.ev c=.bool b) (h:WP fs vars (if b then x else y) env s Q):WP fs vars (.cond c x y) env s Q:=by
 obtain ⟨n,e,env',s',h1,h2⟩:=h
 refine ⟨n+1,e,env',s',?_,h2⟩
 rw [P2,hc]
 cases b<;>simpa using h1
def N5 (id:Nat) (Q:X7->Env->f6->Prop):X7->Env->f6->Prop
 | .exit id',env,s=>if id'=id then Q .normal env s else Q (.exit id') env s
 | e,env,s=>Q e env s
theorem b2O {vars id b env s Q} (h:WP fs vars b env s (N5 id Q)):WP fs vars (.block id b) env s Q:=by
 obtain ⟨n,e,env',s',h1,h2⟩:=h
 cases e with
 | normal=>exact ⟨n+1,_,_,_,by rw [P2,h1],h2⟩
 | ret=>exact ⟨n+1,_,_,_,by rw [P2,h1],h2⟩
 | exit i =>
   simp only [N5] at h2
   by_cases hi:i=id
   ·rw [if_pos hi] at h2
    exact ⟨n+1,_,_,_,by rw [P2,h1];simp only [hi,if_true],h2⟩
   ·rw [if_neg hi] at h2
    exact ⟨n+1,_,_,_,by rw [P2,h1];simp only [hi,if_false],h2⟩
theorem b0p {vars b env s Q} (h:WP fs vars b env s (P7 fs vars (.loop b) Q)):WP fs vars (.loop b) env s Q:=by
 obtain ⟨n,e,env',s',h1,h2⟩:=h
 cases e with
 | normal =>
   obtain ⟨m,e2,env2,s2,h3,h4⟩:=h2
   exact ⟨max n m+1,e2,env2,s2,by rw [P2,a3w (Nat.le_max_left n m) h1];exact a3w (Nat.le_max_right n m) h3,h4⟩
 | exit id=>exact ⟨n+1,_,_,_,by rw [P2,h1],h2⟩
 | ret=>exact ⟨n+1,_,_,_,by rw [P2,h1],h2⟩
theorem WP.mono {vars c env s} {Q Q':X7->Env->f6->Prop} (h:WP fs vars c env s Q) (hq:∀e env' s',Q e env' s'->Q' e env' s'):WP fs vars c env s Q':=by
 obtain ⟨n,e,env',s',h1,h2⟩:=h
 exact ⟨n,e,env',s',h1,hq _ _ _ h2⟩
theorem W2 {vars b Q} (I:Nat->Env->f6->Prop) (step:∀n env s,I n env s->WP fs vars b env s fun e env' s'=>match e with
 | .normal=>∃m,m<n/\I m env' s'
 | e=>Q e env' s'):∀n env s,I n env s->WP fs vars (.loop b) env s Q:=by
 intro n
 induction n using Nat.strongRecOn with
 | _ n ih =>
   intro env s h
   refine b0p ((step n env s h).mono fun e env' s' hq=>?_)
   cases e with
   | normal=>obtain ⟨m,hm,hi⟩:=hq;exact ih m hm env' s' hi
   | exit id=>exact hq
   | ret=>exact hq
theorem b43 {pairs tr env s Q} (h:Q env s):WO fs pairs [] tr env s Q:=⟨0,_,_,rfl,h⟩
theorem b2Q {pairs i o rest tr env s Q} (hw:a0t env o.guard=some false) (h:WO fs pairs rest tr (env.put o.dst (.tup [])) s Q):WO fs pairs ((i,o)::rest) tr env s Q:=by
 obtain ⟨n,env',s',h1,h2⟩:=h
 exact ⟨n,env',s',by simp only [X0,hw];exact h1,h2⟩
def a1Z (tr:List Tr):Prop:=∀t∈tr,t.pre=t.post
theorem b6c (s:f6) (r:Option Nat):Z7 s s r=true:=by
 cases r with
 | none=>rfl
 | some id=>simp only [Z7];exact a6H _
theorem a32 {pairs:List (Nat×Nat)} {j:Tr} (hj:j.pre=j.post):∀ {tr:List Tr},a1Z tr->a0p pairs j tr=true
 | [],_=>rfl
 | i::r,h=>by
   have hi:=h i (by simp)
   simp only [a0p,hj,hi,b6c,Bool.and_true,ite_self,Bool.true_and]
   exact a32 hj fun t ht=>h t (by simp [ht])
theorem a7e {j:Tr}:∀ {tr:List Tr},a0p [] j tr=true
 | []=>rfl
 | i::r=>by simp only [a0p,List.contains_nil,Bool.false_eq_true,if_false,Bool.true_and];exact a7e
theorem a7w:a1Z []:=by simp [a1Z]
theorem b6o {pairs:List (Nat×Nat)} {tr:List Tr} {t:Tr} (h:a1Z tr) (ht:t.pre=t.post):a1Z (if pairs.isEmpty then tr else t::tr):=by
 split
 ·exact h
 ·intro x hx
  rcases List.mem_cons.1 hx with rfl | hx
  ·exact ht
  ·exact h x hx
def WQ (fs:FuncId->Option M3) (pairs:List (Nat×Nat)) (ops:List (Nat×P1)) (env:Env) (s:f6) (Q:Env->f6->Prop):Prop:=∀tr,a1Z tr->WO fs pairs ops tr env s Q
theorem c0X {vars r env s Q} (h:WQ fs r.pairs r.ops env s fun env' s'=>Q .normal (env'.keep vars) s'):WP fs vars (.region r) env s Q:=a78 (h [] a7w)
theorem b2S {pairs env s Q} (h:Q env s):WQ fs pairs [] env s Q:=fun _ _=>b43 h
theorem b59 {pairs i o rest env s Q} (hw:a0t env o.guard=some false) (h:WQ fs pairs rest (env.put o.dst (.tup [])) s Q):WQ fs pairs ((i,o)::rest) env s Q :=
 fun tr ht=>b2Q hw (h tr ht)
theorem a1I {pairs i o rest tr env s Q} (hw:a0t env o.guard=some true) {d s'} (m:Nat) (hr:Q0 (a0G fs (P2 fs m)) env s o.op=some (d,s')) (hp:a0p pairs ⟨i,W9 env o.op,s,s'⟩ tr=true)
 (h:WO fs pairs rest (if pairs.isEmpty then tr else ⟨i,W9 env o.op,s,s'⟩::tr) (env.put o.dst d) s' Q):WO fs pairs ((i,o)::rest) tr env s Q:=by
 obtain ⟨n,env',s2,h1,h2⟩:=h
 have m1:W6.le (a0G fs (P2 fs m)) (a0G fs (P2 fs (max m n))):=a6E fun v c e s r h=>a3w (Nat.le_max_left m n) h
 have m2:W6.le (a0G fs (P2 fs n)) (a0G fs (P2 fs (max m n))):=a6E fun v c e s r h=>a3w (Nat.le_max_right m n) h
 refine ⟨max m n,env',s2,?_,h2⟩
 simp only [X0,hw,b3X m1 hr,hp,if_true]
 exact a7P m2 h1
theorem a55 {pairs i o rest env s Q} (hw:a0t env o.guard=some true) {d} (m:Nat) (hr:Q0 (a0G fs (P2 fs m)) env s o.op=some (d,s))
 (h:WQ fs pairs rest (env.put o.dst d) s Q):WQ fs pairs ((i,o)::rest) env s Q :=
 fun tr ht=>a1I hw m hr (a32 rfl ht) (h _ (b6o ht rfl))
theorem b3N {vars ops pairs dr env s Q} (h:WQ fs pairs ops env s fun env' s'=>Q .normal (env'.keep vars) s'):WP fs vars (.region ⟨ops,pairs,dr⟩) env s Q:=c0X h
theorem a7F {pairs i t o rest s Q} {env:Env} {d:D} (hr:evP env o=some d) (h:WQ fs pairs rest ((t,d)::env) s Q):WQ fs pairs ((i,⟨some t,.p o,none⟩)::rest) env s Q :=
 a55 rfl 0 (by simp only [Q0,hr,Option.map_some]) h
theorem b2d {pairs i t o rest s Q} {env:Env} {d:D} (hr:evR env s.get o=some d) (h:WQ fs pairs rest ((t,d)::env) s Q):WQ fs pairs ((i,⟨some t,.r o,none⟩)::rest) env s Q :=
 a55 rfl 0 (by simp only [Q0,hr,Option.map_some]) h
theorem c0G {pairs i t o r b rest s Q} {env:Env} (hw:env.get r=.bool b) (h:WQ fs pairs ((i,⟨t,o,none⟩)::rest) env s Q):WQ fs pairs ((i,⟨t,o,some (r,b)⟩)::rest) env s Q:=by
 intro tr ht
 obtain ⟨n,env',s',h1,h2⟩:=h tr ht
 refine ⟨n,env',s',?_,h2⟩
 simp only [X0,a0t,hw,beq_self_eq_true] at h1 ⊢
 exact h1
theorem c1t {pairs i t o r b rest s Q} {env:Env} (hw:env.get r=.bool (!b)) (h:WQ fs pairs rest (env.put t (.tup [])) s Q):WQ fs pairs ((i,⟨t,o,some (r,b)⟩)::rest) env s Q :=
 b59 (by simp only [a0t,hw];cases b<;>rfl) h
theorem c1j {pairs i t o r b rest s Q} {env:Env} (hw:env.get r=.tup []) (h:WQ fs pairs rest (env.put t (.tup [])) s Q):WQ fs pairs ((i,⟨t,o,some (r,b)⟩)::rest) env s Q :=
 b59 (by simp only [a0t,hw]) h
theorem b6R {pairs i t f args rest s Q} {env:Env} {d:D} (hr:Ev fs f (env.evL args) s d s)
 (h:WQ fs pairs rest ((t,d)::env) s Q):WQ fs pairs ((i,⟨some t,.m (.call .raw (.cst (.fn f [])) args),none⟩)::rest) env s Q:=by
 obtain ⟨n,hn⟩:=hr
 exact a55 rfl n (by simp only [Q0,evM,a1d,Env.ev,List.append_nil];exact hn) h
theorem c2b {pairs i t fo args rest s Q} {env:Env} {f:FuncId} {caps:List D} {d:D} (hf:env.ev fo=.fn f caps) (hr:Ev fs f (env.evL args++caps) s d s)
 (h:WQ fs pairs rest ((t,d)::env) s Q):WQ fs pairs ((i,⟨some t,.m (.call .raw fo args),none⟩)::rest) env s Q:=by
 obtain ⟨n,hn⟩:=hr
 exact a55 rfl n (by simp only [Q0,evM,a1d,hf];exact hn) h
theorem b1p {pairs i t f args rest s Q} {env:Env} {args':List D} {d r:D} {s1:f6} (ha:N1 (ice s.get 20) (env.evL args)=some args')
 (hr:Ev fs f args' f6.empty r s1) (hi:ice s1.get 20 r=some d) (hs:(a0q d||pureL (env.evL args))=true)
 (h:WQ fs pairs rest ((t,d)::env) s Q):WQ fs pairs ((i,⟨some t,.m (.call .iso (.cst (.fn f [])) args),none⟩)::rest) env s Q:=by
 obtain ⟨n,hn⟩:=hr
 refine a55 rfl n ?_ h
 have hn':a0G fs (P2 fs n) f args' f6.empty=some (r,s1):=hn
 simp only [Q0,evM,a1d,Env.ev,List.append_nil,ha,hn',hi,hs,if_true]
theorem a91 {i t o rest s Q} {env:Env} {ob:O3} {m:P3} (hr:evA env o=some (ob,m)) (h:WQ fs [] rest ((t,m.at s.next)::env) (s.push ob) Q):WQ fs [] ((i,⟨some t,.a o,none⟩)::rest) env s Q:=by
 intro tr ht
 refine a1I rfl 0 (d:=m.at s.next) (s':=s.push ob) (by simp only [Q0,hr]) ?_ (h tr ht)
 exact a7e
theorem a7O {i n a v rest s Q} {env:Env} {id:Nat} {ob:O3} (hr:evW env s.get n a v=some (id,ob)) (h:WQ fs [] rest env (s.set id (some ob)) Q):WQ fs [] ((i,⟨none,.w n a v,none⟩)::rest) env s Q:=by
 intro tr ht
 refine a1I rfl 0 (d:=.tup []) (s':=s.set id (some ob)) (by simp only [Q0,hr]) ?_ (h tr ht)
 exact a7e
theorem b1b {i t o rest s Q} {env:Env} {d:D} {s':f6} (hr:∃n,evM (a0G fs (P2 fs n)) env s o=some (d,s')) (h:WQ fs [] rest ((t,d)::env) s' Q):WQ fs [] ((i,⟨some t,.m o,none⟩)::rest) env s Q:=by
 intro tr ht
 obtain ⟨n,hn⟩:=hr
 refine a1I rfl n (d:=d) (s':=s') (by simp only [Q0,hn]) ?_ (h tr ht)
 exact a7e
theorem c6C {i t f args rest s Q} {env:Env} {d:D} {s':f6} (hr:Ev fs f (env.evL args) s d s')
 (h:WQ fs [] rest ((t,d)::env) s' Q):WQ fs [] ((i,⟨some t,.m (.call .raw (.cst (.fn f [])) args),none⟩)::rest) env s Q:=by
 obtain ⟨n,hn⟩:=hr
 exact b1b ⟨n,by simp only [evM,a1d,Env.ev,List.append_nil];exact hn⟩ h
theorem b0o {i t sz bytes a x rest s Q} {env:Env} {d:D} {s':f6} (hr:V3 sz bytes (env.ev a) (env.ev x) s=some (d,s'))
 (h:WQ fs [] rest ((t,d)::env) s' Q):WQ fs [] ((i,⟨some t,.m (.append sz bytes a x),none⟩)::rest) env s Q :=
 b1b ⟨0,by simp only [evM];exact hr⟩ h
theorem b0U {i t sz bytes a x rest s Q} {env:Env} {da dx d:D} {s':f6} (ha:env.ev a=da) (hx:env.ev x=dx) (hr:V3 sz bytes da dx s=some (d,s'))
 (h:WQ fs [] rest ((t,d)::env) s' Q):WQ fs [] ((i,⟨some t,.m (.append sz bytes a x),none⟩)::rest) env s Q :=
 b0o (by rw [ha,hx];exact hr) h
theorem c3F {pairs i t f args rest s Q} {env:Env} {l:List D} {d:D} (ha:env.evL args=l) (hr:Ev fs f l s d s)
 (h:WQ fs pairs rest ((t,d)::env) s Q):WQ fs pairs ((i,⟨some t,.m (.call .raw (.cst (.fn f [])) args),none⟩)::rest) env s Q:=b6R (ha▸hr) h
theorem a2N {pairs i t f args rest s Q} {env:Env} {l l':List D} {d r:D} {s1:f6} (hl:env.evL args=l) (ha:N1 (ice s.get 20) l=some l')
 (hr:Ev fs f l' f6.empty r s1) (hi:ice s1.get 20 r=some d) (hs:(a0q d||pureL l)=true)
 (h:WQ fs pairs rest ((t,d)::env) s Q):WQ fs pairs ((i,⟨some t,.m (.call .iso (.cst (.fn f [])) args),none⟩)::rest) env s Q :=
 b1p (hl▸ha) hr hi (hl▸hs) h
def Way (d:D) (b:Bool) (A B:Prop):Prop:=match d with
 | .bool c=>if c=b then A else B
 | .tup []=>B
 | _=>False
theorem b1N {pairs i t o r b rest s Q} {env:Env} {d:D} (hw:env.get r=d)
 (h:Way d b (WQ fs pairs ((i,⟨t,o,none⟩)::rest) env s Q) (WQ fs pairs rest (env.put t (.tup [])) s Q)):WQ fs pairs ((i,⟨t,o,some (r,b)⟩)::rest) env s Q:=by
 unfold Way at h
 split at h
 ·rename_i c
  by_cases hc:c=b
  ·rw [if_pos hc] at h;subst hc;exact c0G hw h
  ·rw [if_neg hc] at h
   exact c1t (by rw [hw];congr 1;cases c<;>cases b<;>simp_all) h
 ·exact c1j hw h
 ·exact h.elim
def a1l (d:D) (A B:Prop):Prop:=match d with
 | .bool c=>if c then A else B
 | _=>False
theorem b60 {A B:Prop} (h:B):a1l (.bool false) A B:=by
 show if false=true then A else B
 rw [if_neg (by simp)];exact h
theorem b1H {vars c x y env s Q} {d:D} (hc:env.ev c=d) (h:a1l d (WP fs vars x env s Q) (WP fs vars y env s Q)):WP fs vars (.cond c x y) env s Q:=by
 unfold a1l at h
 split at h
 ·rename_i b
  refine c3L b hc ?_
  cases b<;>exact h
 ·exact h.elim
theorem b27 {pairs:List (Nat×Nat)} {j:Tr} (hp:(pairs.all fun p=>p.2 != j.idx)=true):∀ {tr:List Tr},a0p pairs j tr=true
 | []=>rfl
 | i::r=>by
   have hc:pairs.contains (i.idx,j.idx)=false:=by
    rw [Bool.eq_false_iff]
    intro h
    rw [List.contains_iff_mem] at h
    rw [List.all_eq_true] at hp
    have:=hp _ h
    simp at this
   simp only [a0p,hc,Bool.false_eq_true,if_false,Bool.true_and]
   exact b27 hp
theorem a5l {C:W6} {pairs:List (Nat×Nat)}:∀ {ops:List (Nat×P1)} {tr tr':List Tr} {env:Env} {s:f6} {r:Env×f6},(ops.all fun o=>pairs.all fun p=>p.2 != o.1)=true ->
 X0 C [] ops tr' env s=some r->X0 C pairs ops tr env s=some r
 | [],_,_,_,_,_,_,e=>by simpa only [X0] using e
 | (i,o)::rest,tr,tr',env,s,r,hp,e=>by
   simp only [List.all_cons,Bool.and_eq_true] at hp
   simp only [X0] at e ⊢
   split at e
   ·cases e
   ·rename_i hw
    try simp only [hw]
    exact a5l hp.2 e
   ·rename_i hw
    try simp only [hw]
    split at e
    ·cases e
    ·rename_i d s' hr
     try simp only [hr]
     split at e
     ·rw [if_pos (b27 hp.1)]
      exact a5l hp.2 e
     ·cases e
theorem c1i {pairs ops env s Q} (hp:(ops.all fun o=>pairs.all fun p=>p.2 != o.1)=true) (h:WQ fs [] ops env s Q):WQ fs pairs ops env s Q:=by
 intro tr _
 obtain ⟨n,env',s',h1,h2⟩:=h [] a7w
 exact ⟨n,env',s',a5l hp h1,h2⟩
theorem a73 {p pairs ops env s Q} (hp:(ops.all fun o=>(p::pairs).all fun p=>p.2 != o.1)=true) (h:WQ fs [] ops env s Q):WQ fs (p::pairs) ops env s Q:=c1i hp h
theorem a6A {f:FuncId} {vf:M3} {args:List D} {s s':f6} {d:D} (hf:fs f=some vf) (h:WP fs vf.vars vf.code (vf.vars.map fun t=>(t,args.getD t .undef)) s fun e env s2=>(e=.normal∨e=.ret)/\s2=s'/\V0 env s2 vf.res=some d):Ev fs f args s d s':=by
 obtain ⟨n,e,env,s2,h1,he,rfl,h2⟩:=h
 refine ⟨n,?_⟩
 unfold a4Q a0G
 rw [hf]
 simp only [h1]
 rcases he with rfl | rfl<;>simp only [h2,Option.map_some]
def EvP (fs:FuncId->Option M3) (f:FuncId) (args:List D) (s:f6) (P:D->f6->Prop):Prop:=∃d s',Ev fs f args s d s'/\P d s'
theorem M6 {f:FuncId} {vf:M3} {args:List D} {s:f6} {P:D->f6->Prop} (hf:fs f=some vf) (h:WP fs vf.vars vf.code (vf.vars.map fun t=>(t,args.getD t .undef)) s fun e env s2=>(e=.normal∨e=.ret)/\∃d,V0 env s2 vf.res=some d/\P d s2):EvP fs f args s P:=by
 obtain ⟨n,e,env,s2,h1,he,d,h2,h3⟩:=h
 exact ⟨d,s2,a6A hf ⟨n,e,env,s2,h1,he,rfl,h2⟩,h3⟩
theorem V5 {i t f args rest s Q} {env:Env} {l:List D} {P:D->f6->Prop} (hr:EvP fs f l s P) (ha:env.evL args=l)
 (h:∀d s',P d s'->WQ fs [] rest ((t,d)::env) s' Q):WQ fs [] ((i,⟨some t,.m (.call .raw (.cst (.fn f [])) args),none⟩)::rest) env s Q:=by
 subst ha
 obtain ⟨d,s',h1,h2⟩:=hr
 exact c6C h1 (h d s' h2)
theorem EvP.mono {f args s} {P P':D->f6->Prop} (h:EvP fs f args s P) (hp:∀d s',P d s'->P' d s'):EvP fs f args s P':=by
 obtain ⟨d,s',h1,h2⟩:=h
 exact ⟨d,s',h1,hp _ _ h2⟩
theorem Ev.det {f args s d s' d2 s2} (h:Ev fs f args s d s') (k:Ev fs f args s d2 s2):d=d2/\s'=s2:=by
 obtain ⟨n,hn⟩:=h
 obtain ⟨m,hm⟩:=k
 have a1:=a6E (fs:=fs) (fun v c e s r h=>a3w (Nat.le_max_left n m) h) _ _ _ _ hn
 have a2:=a6E (fs:=fs) (fun v c e s r h=>a3w (Nat.le_max_right n m) h) _ _ _ _ hm
 rw [a1] at a2
 cases a2
 exact ⟨rfl,rfl⟩
end Go.V
namespace Go.V
def ldV (g:P8) (n:Option Nat):D->Option D
 | .ptr id off=>match g id with
   | some (.cells cs)=>a0z n off cs
   | _=>none
 | .fp cs off=>a0z n off cs
 | _=>none
theorem a5v {env:Env} {g:P8} {n:Option Nat} {x:Opd}:evR env g (.load n x)=ldV g n (env.ev x):=by
 simp only [evR]
 cases env.ev x<;>rfl
theorem c3R {g:P8} {n:Option Nat} {id off:Nat}:ldV g n (.ptr id off)=(match g id with | some (.cells cs)=>a0z n off cs | _=>none):=rfl
theorem c1p {g:P8} {n:Option Nat} {off:Nat} {cs:List D}:ldV g n (.fp cs off)=a0z n off cs:=rfl
theorem c6n {k:IntKind} {n:Int}:M8 (.int k n)=true:=rfl
theorem b90 {k:IntKind} {n:Int}:cellsOf (.int k n)=[.int k n]:=rfl
theorem c2U {b:Bool}:M8 (.bool b)=true:=rfl
theorem b7O {b:Bool}:cellsOf (.bool b)=[.bool b]:=rfl
theorem c0W {t:ByteArray}:M8 (.str t)=true:=rfl
theorem c6t {t:ByteArray}:cellsOf (.str t)=[.str t]:=rfl
theorem b9I:M8 .nilp=true:=rfl
theorem b66:cellsOf .nilp=[.nilp]:=rfl
theorem b7l {i:Nat} {o:Nat}:M8 (.ptr i o)=true:=rfl
theorem c3w {i:Nat} {o:Nat}:cellsOf (.ptr i o)=[.ptr i o]:=rfl
theorem b7U {l:List D} {o:Nat}:M8 (.fp l o)=true:=rfl
theorem c5q {l:List D} {o:Nat}:cellsOf (.fp l o)=[.fp l o]:=rfl
theorem b8I:M8 .nils=true:=rfl
theorem c2W:cellsOf .nils=[.nils]:=rfl
theorem c4o {ll:List (List D)} {o:Nat}:M8 (.lst o ll)=true:=rfl
theorem c49 {ll:List (List D)} {o:Nat}:cellsOf (.lst o ll)=[.lst o ll]:=rfl
theorem c3g {i:Nat} {o:Nat} {p:Nat} {q:Nat}:M8 (.arr i o p q)=true:=rfl
theorem c2O {i:Nat} {o:Nat} {p:Nat} {q:Nat}:cellsOf (.arr i o p q)=[.arr i o p q]:=rfl
theorem c4y {f:FuncId} {l:List D}:M8 (.fn f l)=true:=rfl
theorem b69 {f:FuncId} {l:List D}:cellsOf (.fn f l)=[.fn f l]:=rfl
theorem b6t:M8 .nilf=true:=rfl
theorem c3H:cellsOf .nilf=[.nilf]:=rfl
theorem c2l:M8 .nilm=true:=rfl
theorem c5u:cellsOf .nilm=[.nilm]:=rfl
theorem c5V {i:Nat}:M8 (.map i)=true:=rfl
theorem c5d {i:Nat}:cellsOf (.map i)=[.map i]:=rfl
theorem c4F {l:List D}:M8 (.agg l)=false:=rfl
theorem b9X {l:List D}:cellsOf (.agg l)=l:=rfl
theorem b2E {d:D} (h:M8 d=true):cellsOf d=[d]:=by cases d<;>first | rfl | (simp [M8] at h)
theorem c5h:V2 false .nils=some (.int .i64 0):=rfl
theorem c51 {o:Nat} {ll:List (List D)}:V2 false (.lst o ll)=some (.int .i64 (ll.length:Int)):=rfl
theorem b7k {i o p q:Nat}:V2 false (.arr i o p q)=some (.int .i64 (p:Int)):=rfl
theorem c16 {t:ByteArray}:V2 true (.str t)=some (.int .i64 (t.size:Int)):=rfl
theorem c3h:a1w .p .nilp=some true:=rfl
theorem c38 {i o:Nat}:a1w .p (.ptr i o)=some false:=rfl
theorem c4w {l:List D} {o:Nat}:a1w .p (.fp l o)=some false:=rfl
theorem b6Z:a1w .s .nils=some true:=rfl
theorem b8B {o:Nat} {ll:List (List D)}:a1w .s (.lst o ll)=some false:=rfl
theorem c01 {i o p q:Nat}:a1w .s (.arr i o p q)=some false:=rfl
theorem c18:a1w .m .nilm=some true:=rfl
theorem b6S {i:Nat}:a1w .m (.map i)=some false:=rfl
theorem c52:a1w .f .nilf=some true:=rfl
theorem c2s {f:FuncId} {l:List D}:a1w .f (.fn f l)=some false:=rfl
theorem c56 {k k':IntKind} {a b:Int}:a3d false (.int k a) [.int k' b]=some (.int k (min a b)):=by
 simp only [a3d];congr 2;simp only [Bool.false_eq_true,if_false];split<;>omega
theorem c6i {k k':IntKind} {a b:Int}:a3d true (.int k a) [.int k' b]=some (.int k (max a b)):=by
 simp only [a3d];congr 2;simp only [if_true];split<;>omega
theorem c2N {a b:Nat}:((a:Int)==(b:Int))=decide (a=b):=by rw [Bool.eq_iff_iff];simp only [beq_iff_eq,decide_eq_true_eq];omega
theorem c2L {a:Nat}:((a:Int)==0)=decide (a=0):=by rw [Bool.eq_iff_iff];simp only [beq_iff_eq,decide_eq_true_eq];omega
theorem c3V {a:Nat}:((a:Int)==1)=decide (a=1):=by rw [Bool.eq_iff_iff];simp only [beq_iff_eq,decide_eq_true_eq];omega
theorem b52 {i o p q z:Nat} {k:IntKind} {n:Int} (h0:q=z) (h1:0<=n) (h2:n<p):N2 z (.arr i o p q) (.int k n)=some (.ptr i (o+n.toNat*z)):=by
 simp only [N2];rw [if_pos ⟨h0,h1,h2⟩]
def a6v (k:IntKind) (x y:Int):Int:=(BitVec.ofInt k.bits x &&& BitVec.ofInt k.bits y).toNat
def orI (k:IntKind) (x y:Int):Int:=(BitVec.ofInt k.bits x ||| BitVec.ofInt k.bits y).toNat
def c42 (k:IntKind) (x y:Int):Int:=(BitVec.ofInt k.bits x ^^^ BitVec.ofInt k.bits y).toNat
def a6m (k:IntKind) (x y:Int):Int:=(BitVec.ofInt k.bits x &&& ~~~ BitVec.ofInt k.bits y).toNat
theorem b7W {k:IntKind} {x y:Int}:a1a .add k x y=some (.int k (k.wrap (x+y))):=rfl
theorem c2w {k:IntKind} {x y:Int}:a1a .sub k x y=some (.int k (k.wrap (x-y))):=rfl
theorem b98 {k:IntKind} {x y:Int}:a1a .mul k x y=some (.int k (k.wrap (x*y))):=rfl
theorem c5z {k:IntKind} {x y:Int}:a1a .quo k x y=if y=0 then none else some (.int k (k.wrap (x.tdiv y))):=rfl
theorem b9u {k:IntKind} {x y:Int}:a1a .rem k x y=if y=0 then none else some (.int k (x.tmod y)):=rfl
theorem c39 {k:IntKind} {x y:Int}:a1a .and k x y=some (.int k (k.wrap (a6v k x y))):=rfl
theorem c0N {k:IntKind} {x y:Int}:a1a .or k x y=some (.int k (k.wrap (orI k x y))):=rfl
theorem c3n {k:IntKind} {x y:Int}:a1a .xor k x y=some (.int k (k.wrap (c42 k x y))):=rfl
theorem b9w {k:IntKind} {x y:Int}:a1a .andNot k x y=some (.int k (k.wrap (a6m k x y))):=rfl
theorem c0T {k:IntKind} {x y:Int}:a1a .eql k x y=some (.bool (x==y)):=rfl
theorem c4U {k:IntKind} {x y:Int}:a1a .neq k x y=some (.bool (x != y)):=rfl
theorem c1D {k:IntKind} {x y:Int}:a1a .lss k x y=some (.bool (x<y)):=rfl
theorem b7F {k:IntKind} {x y:Int}:a1a .leq k x y=some (.bool (x<=y)):=rfl
theorem c53 {k:IntKind} {x y:Int}:a1a .gtr k x y=some (.bool (x>y)):=rfl
theorem c22 {k:IntKind} {x y:Int}:a1a .geq k x y=some (.bool (x >= y)):=rfl
attribute [go_sem] evP a5v evR.eq_2 evR.eq_3 c3R a5I c1p c6n b90 c2U b7O c0W c6t b9I b66 b7l c3w b7U c5q b8I c2W c4o c49 c3g c2O c4y b69 b6t c3H c2l c5u c5V c5d c4F b9X b2E c5h c51 b7k c16 c3h c38 c4w b6Z b8B c01 c18 b6S c52 c2s evA evW Env.evL Env.evO a7v b7W c2w b98 c5z b9u c39 c0N c3n b9w c0T c4U c1D b7F c53 c22 unV a0z b52 a2f a02 c56 c6i c2N c2L c3V a0t a1V a20 a1y P3.at Option.map_some Option.map List.getElem?_cons_zero List.getElem?_cons_succ List.getElem?_nil List.all_cons List.all_nil List.length_cons List.length_nil List.take List.drop List.map List.append List.cons_append List.nil_append List.append_nil Nat.zero_add Nat.add_zero Nat.zero_mul Nat.mul_one Int.toNat_natCast decide_true decide_false Bool.not_true Bool.not_false Bool.and_true Bool.true_and Bool.and_self and_self and_true true_and Bool.false_eq_true ge_iff_le gt_iff_lt beq_self_eq_true Nat.zero_le Nat.le_refl Nat.lt_irrefl f6.next_push f6.next_set
attribute [go_sem] Nat.reduceEqDiff Nat.reduceAdd Nat.reduceMul Nat.reduceLeDiff reduceCtorEq Int.reduceEq Int.reduceLT Int.reduceLE Int.reduceAdd Int.reduceSub Int.reduceMul Int.reduceNeg Int.reduceToNat Int.reduceBEq Int.reduceBNe
variable {fs:FuncId->Option M3}
theorem vA {vars a b env s Q} (h:WP fs vars a env s (P7 fs vars b Q)):WP fs vars (.seq a b) env s Q:=b34 h
theorem vB {vars id b env s Q} (h:WP fs vars b env s (N5 id Q)):WP fs vars (.block id b) env s Q:=b2O h
theorem vC {vars ops pairs dr env s Q} (h:WQ fs pairs ops env s fun env' s'=>Q .normal (env'.keep vars) s'):WP fs vars (.region ⟨ops,pairs,dr⟩) env s Q:=b3N h
theorem vD {p pairs ops env s Q} (hp:(ops.all fun o=>(p::pairs).all fun p=>p.2 != o.1)=true) (h:WQ fs [] ops env s Q):WQ fs (p::pairs) ops env s Q:=a73 hp h
theorem vE {pairs env s Q} (h:Q env s):WQ fs pairs [] env s Q:=b2S h
theorem vF {vars env s Q} (h:Q .normal env s):WP fs vars .skip env s Q:=b3m h
theorem vG {vars env s id} {Q:X7->Env->f6->Prop} (h:Q (.exit id) env s):WP fs vars (.exit id) env s Q:=b1n h
theorem vH {vars env s} {Q:X7->Env->f6->Prop} (h:Q .ret env s):WP fs vars .ret env s Q:=b6i h
theorem vI {pairs i t o rest s Q} {env:Env} {d:D} (hr:evP env o=some d) (h:WQ fs pairs rest ((t,d)::env) s Q):WQ fs pairs ((i,⟨some t,.p o,none⟩)::rest) env s Q:=a7F hr h
theorem vJ {pairs i t o rest s Q} {env:Env} {d:D} (hr:evR env s.get o=some d) (h:WQ fs pairs rest ((t,d)::env) s Q):WQ fs pairs ((i,⟨some t,.r o,none⟩)::rest) env s Q:=b2d hr h
theorem vK {i t o rest s Q} {env:Env} {ob:O3} {m:P3} (hr:evA env o=some (ob,m)) (h:WQ fs [] rest ((t,m.at s.next)::env) (s.push ob) Q):WQ fs [] ((i,⟨some t,.a o,none⟩)::rest) env s Q:=a91 hr h
theorem vL {i n a v rest s Q} {env:Env} {id:Nat} {ob:O3} (hr:evW env s.get n a v=some (id,ob)) (h:WQ fs [] rest env (s.set id (some ob)) Q):WQ fs [] ((i,⟨none,.w n a v,none⟩)::rest) env s Q:=a7O hr h
theorem vM {pairs i t o r b rest s Q} {env:Env} {d:D} (hw:env.get r=d)
 (h:Way d b (WQ fs pairs ((i,⟨t,o,none⟩)::rest) env s Q) (WQ fs pairs rest (env.put t (.tup [])) s Q)):WQ fs pairs ((i,⟨t,o,some (r,b)⟩)::rest) env s Q:=b1N hw h
theorem vN {vars c x y env s Q} {d:D} (hc:env.ev c=d) (h:a1l d (WP fs vars x env s Q) (WP fs vars y env s Q)):WP fs vars (.cond c x y) env s Q:=b1H hc h
theorem vO {A B:Prop} (h:A):Way (.bool true) true A B:=h
theorem vP {A B:Prop} (h:A):Way (.bool false) false A B:=h
theorem vQ {A B:Prop} (h:A):a1l (.bool true) A B:=h
theorem vR {A B:Prop} (h:B):a1l (.bool false) A B:=b60 h
theorem vS {A B:Prop} (h:B):Way (.bool true) false A B:=h
theorem vT {A B:Prop} (h:B):Way (.bool false) true A B:=h
theorem vU {b:Bool} {A B:Prop} (h:B):Way (.tup []) b A B:=h
theorem aN {a b:Prop} (x:a) (y:b):a/\b:=⟨x,y⟩
theorem zW0 {P Q:Prop} (k:Q) (h:Q->P:=by
 intro k
 (first|(with_reducible first|apply vA|apply vB|apply vC)|((with_reducible apply vD);(focus rfl))|((with_reducible first|apply vE|apply vF|apply vG|apply vH);simp only [Env.keep,Env.get,Env.ev,List.map,Nat.reduceEqDiff,↓reduceIte,P7,N5])|((with_reducible first|apply vI|apply vJ|apply vK|apply vL|apply vM|apply vN);(focus (simp (disch:=(first|with_reducible assumption|omega|((repeat (first|rw [nP]|rw [nS]))<;>omega)|fail)) only [go_sem,Env.ev,Env.get,↓reduceIte]<;>rfl));(first|(with_reducible (first|apply vO|apply vP|apply vQ|apply vR|apply vS|apply vT|apply vU);try simp only [Env.put])|with_reducible refine (?_:WQ _ _ _ _ _ _))))
 repeat (first|(with_reducible first|apply vA|apply vB|apply vC)|((with_reducible apply vD);(focus rfl))|((with_reducible first|apply vE|apply vF|apply vG|apply vH);simp only [Env.keep,Env.get,Env.ev,List.map,Nat.reduceEqDiff,↓reduceIte,P7,N5])|((with_reducible first|apply vI|apply vJ|apply vK|apply vL|apply vM|apply vN);(focus (simp (disch:=(first|with_reducible assumption|omega|((repeat (first|rw [nP]|rw [nS]))<;>omega)|fail)) only [go_sem,Env.ev,Env.get,↓reduceIte]<;>rfl));(first|(with_reducible (first|apply vO|apply vP|apply vQ|apply vR|apply vS|apply vT|apply vU);try simp only [Env.put])|with_reducible refine (?_:WQ _ _ _ _ _ _))))
 exact k):P:=h k
theorem zW {F P Q:Prop} (f:F) (k:Q) (h:F->Q->P:=by
 intro f k
 (first|(with_reducible first|apply vA|apply vB|apply vC)|((with_reducible apply vD);(focus rfl))|((with_reducible first|apply vE|apply vF|apply vG|apply vH);simp only [Env.keep,Env.get,Env.ev,List.map,Nat.reduceEqDiff,↓reduceIte,P7,N5])|((with_reducible first|apply vI|apply vJ|apply vK|apply vL|apply vM|apply vN);(focus (simp (disch:=(first|with_reducible assumption|omega|((repeat (first|rw [nP]|rw [nS]))<;>omega)|fail)) only [go_sem,Env.ev,Env.get,↓reduceIte,f]<;>rfl));(first|(with_reducible (first|apply vO|apply vP|apply vQ|apply vR|apply vS|apply vT|apply vU);try simp only [Env.put])|with_reducible refine (?_:WQ _ _ _ _ _ _))))
 repeat (first|(with_reducible first|apply vA|apply vB|apply vC)|((with_reducible apply vD);(focus rfl))|((with_reducible first|apply vE|apply vF|apply vG|apply vH);simp only [Env.keep,Env.get,Env.ev,List.map,Nat.reduceEqDiff,↓reduceIte,P7,N5])|((with_reducible first|apply vI|apply vJ|apply vK|apply vL|apply vM|apply vN);(focus (simp (disch:=(first|with_reducible assumption|omega|((repeat (first|rw [nP]|rw [nS]))<;>omega)|fail)) only [go_sem,Env.ev,Env.get,↓reduceIte,f]<;>rfl));(first|(with_reducible (first|apply vO|apply vP|apply vQ|apply vR|apply vS|apply vT|apply vU);try simp only [Env.put])|with_reducible refine (?_:WQ _ _ _ _ _ _))))
 exact k):P:=h f k
theorem rR {P:Prop} (h:P:=by simp only [V0,V4,W4,Env.get,Nat.reduceEqDiff,↓reduceIte]<;>rfl):P:=h
theorem rG {F P:Prop} (f:F) (h:F->P:=by intro f;simp only [Env.get,Nat.reduceEqDiff,↓reduceIte,f,and_self]):P:=h f
theorem nP (s:f6) (o:O3):(s.push o).next=s.next+1:=rfl
theorem nS (s:f6) (i:Nat) (o:Option O3):(s.set i o).next=s.next:=rfl
end Go.V
namespace Go.V
def xq (i t:Nat) (o:POp):Nat×P1:=(i,⟨some t,.p o,none⟩)
def xg (i t:Nat) (o:POp) (g:Nat) (b:Bool):Nat×P1:=(i,⟨some t,.p o,some (g,b)⟩)
def xm (i t x:Nat):Nat×P1:=(i,⟨some t,.p (.mov (.tmp x)),none⟩)
def xmg (i t x g:Nat) (b:Bool):Nat×P1:=(i,⟨some t,.p (.mov (.tmp x)),some (g,b)⟩)
def xc (i t:Nat) (d:D):Nat×P1:=(i,⟨some t,.p (.mov (.cst d)),none⟩)
def xl (i t:Nat) (n:Option Nat) (x:Nat):Nat×P1:=(i,⟨some t,.r (.load n (.tmp x)),none⟩)
def xlg (i t:Nat) (n:Option Nat) (x g:Nat) (b:Bool):Nat×P1:=(i,⟨some t,.r (.load n (.tmp x)),some (g,b)⟩)
def xf (i t off x:Nat):Nat×P1:=(i,⟨some t,.p (.fieldA off (.tmp x)),none⟩)
def xfg (i t off x g:Nat) (b:Bool):Nat×P1:=(i,⟨some t,.p (.fieldA off (.tmp x)),some (g,b)⟩)
def xw (i n a:Nat) (v:Opd):Nat×P1:=(i,⟨none,.w n (.tmp a) v,none⟩)
def xa (i t:Nat) (o:AOp):Nat×P1:=(i,⟨some t,.a o,none⟩)
def xk (i t f:Nat) (l:List Opd):Nat×P1:=(i,⟨some t,.m (.call .raw (.cst (.fn f [])) l),none⟩)
def xi (i t f:Nat) (l:List Opd):Nat×P1:=(i,⟨some t,.m (.call .iso (.cst (.fn f [])) l),none⟩)
def xig (i t f:Nat) (l:List Opd) (g:Nat) (b:Bool):Nat×P1:=(i,⟨some t,.m (.call .iso (.cst (.fn f [])) l),some (g,b)⟩)
def xo (i:Nat) (t:Option Nat) (o:VOp) (g:Option (Nat×Bool)):Nat×P1:=(i,⟨t,o,g⟩)
def xr (l:List (Nat×P1)):a0x:=.region ⟨l,[],false⟩
def xrp (l:List (Nat×P1)) (p:List (Nat×Nat)) (b:Bool):a0x:=.region ⟨l,p,b⟩
def bs (l:List Nat):ByteArray:=⟨(l.map UInt8.ofNat).toArray⟩
def xn (n:Int):Opd:=.cst (.int .i64 n)
def T9 (x:Nat):Opd:=.tmp x
def Q9 (o:BinOp) (x y:Nat):POp:=.bin o (.tmp x) (.tmp y)
def Q8 (o:BinOp) (x:Nat) (n:Int):POp:=.bin o (.tmp x) (.cst (.int .i64 n))
def Q7 (s x y:Nat):POp:=.idxA s (.tmp x) (.tmp y)
def Q6 (x:Nat):POp:=.len false (.tmp x)
def P9 (x y:Nat):POp:=.pick (.tmp x) (.tmp y) (.cst (.bool false))
def O9 (x y:Nat):POp:=.pick (.tmp x) (.cst (.bool true)) (.tmp y)
def Q5 (x n:Nat):POp:=.extract (.tmp x) n
def N9 (x:Nat):POp:=.un .not (.tmp x)
def X9 (x:Nat):AOp:=.box (.tmp x)
def Z9:List D:=[.nils,.int .i64 0,.nils,.nils,.nils,.nils,.bool false]
def Y9:List D:=[.nils,.nils,.nils,.int .i64 0]
def V9:List D:=[.int .i64 0,.int .i64 0,.int .i64 0,.int .i64 0]
def U9:List D:=[.int .i64 0,.int .i64 0,.int .i64 0,.int .i64 0,.int .i64 0,.int .i64 0,.bool false,.int .i64 0]
def R9:List D:=[.str (bs []),.int .i64 0,.nils,.int .i64 0,.nils,.nils,.nils,.nils]
def Q4:List D:=[.int .i64 0,.nils,.nils,.nils,.int .i64 0]
def Q3:D:=.bool false
def Q2:D:=.bool true
def Q1:D:=.int .i64 0
theorem zE {P Q:Prop} (k:Q) (h:P=Q:=by
 simp only [xq,xg,xm,xmg,xc,xl,xlg,xf,xfg,xw,xa,xk,xi,xig,xo,xr,xrp,xn,T9,Q9,Q8,Q7,Q6,P9,O9,Q5,N9,X9,Z9,Y9,V9,U9,R9,Q4,Q3,Q2,Q1,List.map,List.getD,List.getElem?_cons_zero,List.getElem?_cons_succ,List.getElem?_nil,Option.getD]
 exact rfl):P:=h.mpr k
end Go.V
namespace Go.V
noncomputable def a0T (P:Program) (l:List Nat) (ann:Ann) (vars:List Nat) (fn:Func):M3:=match a3o P (a5B l) ann vars fn with
 | some v=>v
 | none=>⟨[],.skip,[]⟩
theorem c05 {P:Program} {md:FuncId->a0a} {ann:Ann} {vars:List Nat} {fn:Func} {v:M3} (h:a3o P md ann vars fn=some v):v.vars=vars:=by
 unfold a3o at h
 split at h
 ·cases h
 ·split at h
  ·split at h
   ·cases h
   ·cases h;rfl
  ·cases h
theorem okG {P:Program} {f:Nat} {l:List Nat} {ann:Ann} {vars:List Nat} {fn:Func} (hf:P.funcs[f]?=some fn) (h:(a3o P (a5B l) ann vars fn).isSome=true):∃fn' md ann',P.funcs[f]?=some fn'/\a3o P md ann' (a0T P l ann vars fn).vars fn'=some (a0T P l ann vars fn):=by
 obtain ⟨v,hv⟩:=Option.isSome_iff_exists.1 h
 have e:a0T P l ann vars fn=v:=by unfold a0T;rw [hv]
 rw [e,c05 hv]
 exact ⟨fn,a5B l,ann,hf,hv⟩
theorem okF {P:Program} {f:Nat} {fn:Func} {vf:M3} (l:List Nat) (ann:Ann) (hf:P.funcs[f]?=some fn) (h:a3o P (a5B l) ann vf.vars fn=some vf):∃fn' md ann',P.funcs[f]?=some fn'/\a3o P md ann' vf.vars fn'=some vf:=⟨fn,a5B l,ann,hf,h⟩
end Go.V
