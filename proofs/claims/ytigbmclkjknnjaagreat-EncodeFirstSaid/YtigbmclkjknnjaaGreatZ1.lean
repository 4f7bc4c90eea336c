/- Texts one behind the other. -/
import Derived.Test.YtigbmclkjknnjaaGreatZ0
import Derived.LoopN
import Derived.ProofKit
import Derived.OpenShut
import Derived.ShutString
import Derived.ChangeOld
import Derived.Below
import Derived.Carry
import Derived.Handed
set_option linter.unusedSimpArgs false
set_option linter.unusedVariables false
set_option maxRecDepth 100000
set_option maxHeartbeats 8000000
namespace Go.V
theorem br.fJ {μ μ1 μ2:Mu} {Φ Φ1 Φ2:W0} {g g1 g2:a0k} {w w1 w2:World} {n0 n1:Nat}
 (h:br μ Φ g w μ1 Φ1 g1 w1 n0 n1) (k:br μ1 Φ1 g1 w1 μ2 Φ2 g2 w2 n0 n1):br μ Φ g w μ2 Φ2 g2 w2 n0 n1 where
 mu:=Mu.le_trans h.mu k.mu
 bI id gX:=by rw [k.bI id gX,h.bI id gX]
 df:=W0.le_trans h.df k.df
 os:=k.os.trans h.os
 tape:=k.tape.trans h.tape
 output:=k.output.trans h.output
 size:=Nat.le_trans h.size k.size
 aF b hb hn:=by
  rw [k.aF b (Nat.lt_of_lt_of_le hb h.size) (fun ho=>by rcases h.bp b ho with h1 | h1;exact hn h1;omega),h.aF b hb hn]
 bM b ob hb:=by
  rcases k.bM b ob hb with h1 | h1
  ·exact h.bM b ob h1
  ·exact .inr (Nat.le_trans h.size h1)
 bp b hb:=by
  rcases k.bp b hb with h1 | h1
  ·exact h.bp b h1
  ·exact .inr (Nat.le_trans h.size h1)
theorem Y4.join {μ μ':Mu} {Φ Φ':W0} {g g1 g2 G:a0k} {w w':World} {n0 n1:Nat} (h1:Y4 μ Φ g w) (h2:Y4 μ' Φ' g2 w') (iM:∀id ob,g1 id=some ob->g id=some ob) (he:br μ Φ g1 w μ' Φ' g2 w' n0 n1)
 (hG:∀id ob,G id=some ob->g2 id=some ob∨(g id=some ob/\g1 id=none)):Y4 μ' Φ' G w'/\br μ Φ g w μ' Φ' G w' n0 n1:=by
 have iw:∀id,g1 id≠none->g id≠none:=by
  intro id h3 h4;cases hx:g1 id with
  | none=>exact h3 hx
  | some ob=>rw [iM id ob hx] at h4;cases h4
 have ext:∀id ob,g id=some ob->g1 id=none->∃b o z,μ id=some (b,o,z)/\a2F μ Φ w b o z ob/\Φ b=none/\¬ a4S μ g1 b/\b<w.heap.size:=by
  intro id ob hg xO;obtain ⟨b,o,z,e1,e2,e3⟩:=h1.obj id ob hg;refine ⟨b,o,z,e1,e2,e3,?_,e2.lt⟩;rintro ⟨mq,o1,z1,q1,q2⟩;have:=h1.inj mq id _ _ _ _ _ (iw mq q1) (by rw [hg];simp) q2 e1;subst this;exact q1 xO
 have cls:∀id,G id≠none->(g2 id≠none)∨(∃ob,g id=some ob/\g1 id=none):=by
  intro id gX;cases hx:G id with
  | none=>exact absurd hx gX
  | some ob =>
    rcases hG id ob hx with h | h
    ·exact .inl (by rw [h];simp)
    ·exact .inr ⟨ob,h⟩
 refine ⟨⟨h2.df,?_,?_⟩,⟨he.mu,he.bI,he.df,he.os,he.tape,he.output,he.size,?_,he.bM,?_⟩⟩
 ·intro id ob hx
  rcases hG id ob hx with h | ⟨h,hn⟩
  ·exact h2.obj id ob h
  ·obtain ⟨b,o,z,e1,e2,e3,e4,e5⟩:=ext id ob h hn
   refine ⟨b,o,z,he.mu _ _ e1,a8p (he.aF b e5 e4) (b0b he.mu he.df e2),?_⟩;cases hp:Φ' b with
   | none=>rfl
   | some tE =>
     rcases he.bM b tE hp with q | q
     ·rw [e3] at q;cases q
     ·omega
 ·have mixed:∀i i' b o z o' z',g2 i≠none->(∃ob,g i'=some ob/\g1 i'=none)->μ' i=some (b,o,z)->μ' i'=some (b,o',z')->False:=by
   rintro i i' b o z o' z' q1 ⟨ob,q2,q3⟩ q4 q5;obtain ⟨b2,o2,z2,e1,_,_,e4,e5⟩:=ext i' ob q2 q3;have:=he.mu _ _ e1;rw [q5] at this;cases this;rcases he.bp b ⟨i,o,z,q1,q4⟩ with q | q
   ·exact e4 q
   ·omega
  intro i i' b o z o' z' q1 q2 q3 q4;rcases cls i q1 with a1 | a1
  ·rcases cls i' q2 with a2 | a2
   ·exact h2.inj i i' _ _ _ _ _ a1 a2 q3 q4
   ·exact (mixed i i' _ _ _ _ _ a1 a2 q3 q4).elim
  ·rcases cls i' q2 with a2 | a2
   ·exact (mixed i' i _ _ _ _ _ a2 a1 q4 q3).elim
   ·obtain ⟨ob,a3,a4⟩:=a1
    obtain ⟨tE,a5,a6⟩:=a2;obtain ⟨b1,o1,z1,e1,_⟩:=ext i ob a3 a4;obtain ⟨b2,o2,z2,e2,_⟩:=ext i' tE a5 a6;have f1:=he.mu _ _ e1;have f2:=he.mu _ _ e2;rw [q3] at f1;rw [q4] at f2;cases f1;cases f2;exact h1.inj i i' _ _ _ _ _ (by rw [a3];simp) (by rw [a5];simp) e1 e2
 ·intro b hb hn
  refine he.aF b hb ?_;rintro ⟨id,o,z,q1,q2⟩;exact hn ⟨id,o,z,iw id q1,q2⟩
 ·rintro b ⟨id,o,z,q1,q2⟩
  rcases cls id q1 with a1 | ⟨ob,a1,a2⟩
  ·rcases he.bp b ⟨id,o,z,a1,q2⟩ with ⟨i1,o1,z1,c1,c2⟩ | q
   ·exact .inl ⟨i1,o1,z1,iw i1 c1,c2⟩
   ·exact .inr q
  ·obtain ⟨b1,o1,z1,e1,_⟩:=ext id ob a1 a2
   have f1:=he.mu _ _ e1;rw [q2] at f1;cases f1;exact .inl ⟨id,o,z,by rw [a1];simp,e1⟩
def a9W (t:Nat) (r:Rec):D:=r.env.get t
def a7D (t:Nat) (r:Rec):D:=(r.env.put r.o.dst r.d).get t
def a1F (id:Nat) (r:Rec):Option Y1:=r.s.get id
def a1M (id:Nat) (r:Rec):Option Y1:=r.s'.get id
theorem b1n {C:a09} (t:Nat):∀ {rs:List Rec} {env gQ:q8} {s s':k4},a3e C env s rs gQ s'->a3I (a9W t) (a7D t) (env.get t) rs (gQ.get t)
 | [],env,gQ,s,s',h=>by simp only [a3e] at h;simp only [a3I,h.1]
 | r::rs,env,gQ,s,s',h=>by
   simp only [a3e] at h;simp only [a3I];refine ⟨by simp only [a9W,h.1],b1n t h.2.2.2⟩
theorem a50 {C:a09} (id:Nat):∀ {rs:List Rec} {env gQ:q8} {s s':k4},a3e C env s rs gQ s'->a3I (a1F id) (a1M id) (s.get id) rs (s'.get id)
 | [],env,gQ,s,s',h=>by simp only [a3e] at h;simp only [a3I,h.2]
 | r::rs,env,gQ,s,s',h=>by
   simp only [a3e] at h;simp only [a3I];refine ⟨by simp only [a1F,h.2.1],a50 id h.2.2.2⟩
theorem a8y {t:Nat} {r:Rec} (h:r.o.dst≠some t):a9W t r=a7D t r:=by
 unfold a9W a7D;cases hd:r.o.dst with
 | none=>rfl
 | some u =>
   have:¬ u=t:=fun e=>h (by rw [hd,e])
   simp [q8.put,q8.get,this]
theorem c38 {t:Nat} {r:Rec} (h:r.o.dst=some t):a7D t r=r.d:=by
 unfold a7D;rw [h];simp [q8.put,q8.get]
section
variable {P:Program} {md:FuncId->a1Q} {N:Nat} {C:a09}
theorem c0L (hC:a4m P C) {env:q8} {s s':k4} {d:D} {vo:fy} (h1:a0i C env s vo=some (d,s')):s.next<=s'.next:=by
 cases vo with
 | p po=>simp only [a0i] at h1;obtain ⟨_,_,e⟩:=map_some h1;cases e;exact Nat.le_refl _
 | r po=>simp only [a0i] at h1;obtain ⟨_,_,e⟩:=map_some h1;cases e;exact Nat.le_refl _
 | a ao=>simp only [a0i] at h1;split at h1<;>simp at h1;rw [<- h1.2];exact Nat.le_succ _
 | w n ad x=>simp only [a0i] at h1;split at h1<;>simp at h1;rw [<- h1.2];exact Nat.le_refl _
 | m mo =>
   simp only [a0i] at h1;cases mo with
   | call md' f args =>
     simp only [bZ] at h1;generalize env.ev f=fd at h1;cases fd<;>try (simp [a2U] at h1;done)
     exact (b4y hC h1).1
   | append sz bytes sx x =>
     simp only [bZ,Z6] at h1;split at h1
     ·split at h1
      ·split at h1
       ·split at h1
        ·cases h1;exact Nat.le_refl _
        ·split at h1
         ·cases h1;exact Nat.le_succ _
         ·simp at h1
       ·split at h1
        ·split at h1
         ·split at h1
          ·cases h1;exact Nat.le_refl _
          ·split at h1
           ·cases h1;exact Nat.le_succ _
           ·simp at h1
         ·simp at h1
        ·simp at h1
       ·split at h1
        ·cases h1;exact Nat.le_refl _
        ·simp at h1
       ·simp at h1
      ·simp at h1
     ·simp at h1
   | copy sx x =>
     simp only [bZ,a6b] at h1;split at h1
     ·split at h1
      ·split at h1
       ·cases h1;exact Nat.le_refl _
       ·simp at h1
      ·simp at h1
     ·simp at h1
   | cI ks m k v =>
     simp only [bZ] at h1;split at h1
     ·split at h1
      ·split at h1
       ·split at h1
        ·obtain ⟨_,_,e⟩:=map_some h1;cases e;exact Nat.le_refl _
        ·simp at h1
       ·simp at h1
      ·simp at h1
     ·simp at h1
theorem b1T (hC:a4m P C) {r:Rec} (h:r.ok C):r.s.next<=r.s'.next:=by
 rcases h with ⟨_,_,h,_⟩ | ⟨_,h,_⟩
 ·rw [h];exact Nat.le_refl _
 ·exact c0L hC h
theorem a9y (hC:a4m P C):∀ {rs:List Rec} {env gQ:q8} {s s':k4},a3e C env s rs gQ s'->s.next<=s'.next/\∀q∈rs,s.next<=q.s.next/\q.s'.next<=s'.next/\q.ok C
 | [],env,gQ,s,s',h=>by simp only [a3e] at h;simp [h.2]
 | r::rs,env,gQ,s,s',h=>by
   simp only [a3e] at h;obtain ⟨h1,h2,h3,h4⟩:=h;obtain ⟨g1,g2⟩:=a9y hC h4;have g3:=b1T hC h3;rw [h2] at g3;refine ⟨by omega,fun q hq=>?_⟩;rcases List.mem_cons.1 hq with rfl | hq
   ·exact ⟨by rw [h2];exact Nat.le_refl _,g1,h3⟩
   ·obtain ⟨q1,q2,q3⟩:=g2 q hq
    exact ⟨by omega,q2,q3⟩
theorem b9j (hC:a4m P C) {B:List Rec} {r:Rec}:∀ {A:List Rec} {env gQ:q8} {s s':k4},a3e C env s (A++r::B) gQ s' ->
 r.ok C/\(∀q∈A,q.s'.next<=r.s.next)/\(∀q∈B,r.s'.next<=q.s.next)
 | [],env,gQ,s,s',h=>by
   simp only [List.nil_append,a3e] at h;exact ⟨h.2.2.1,by simp,fun q hq=>((a9y hC h.2.2.2).2 q hq).1⟩
 | p::A,env,gQ,s,s',h=>by
   simp only [List.cons_append,a3e] at h;obtain ⟨g1,g2,g3⟩:=b9j hC h.2.2.2;refine ⟨g1,fun q hq=>?_,g3⟩;rcases List.mem_cons.1 hq with rfl | hq
   ·exact ((a9y hC h.2.2.2).2 r (by simp)).1
   ·exact g2 q hq
theorem a4t {r:Rec} (h:r.ok C) (hk:fY r.o.op=true∨fZ r.o.op=true):r.s'=r.s:=by
 rcases h with ⟨_,_,h,_⟩ | ⟨_,h,_⟩
 ·exact h
 ·cases iX:r.o.op<;>rw [iX] at h hk<;>simp [fY,fZ] at hk<;>simp only [a0i] at h
  ·obtain ⟨_,_,e⟩:=map_some h;simp at e;exact e.2.symm
  ·obtain ⟨_,_,e⟩:=map_some h;simp at e;exact e.2.symm
theorem a9t {r:Rec} (h:r.ok C) (hk:gB r.o.op=true) (id:Nat) (gX:id≠r.s.next):r.s'.get id=r.s.get id:=by
 rcases h with ⟨_,_,h,_⟩ | ⟨_,h,_⟩
 ·rw [h]
 ·cases iX:r.o.op<;>rw [iX] at h hk<;>simp [gB] at hk
  simp only [a0i] at h;split at h
  ·simp at h
   rw [<- h.2,k4.aM,if_neg gX]
  ·simp at h
theorem c06 {r:Rec} (h:r.ok C) (hk:gf r.o.op=true) (id:Nat) (gX:r.rd≠some id):r.s'.get id=r.s.get id:=by
 rcases h with ⟨_,_,h,_⟩ | ⟨_,h,kJ⟩
 ·rw [h]
 ·cases iX:r.o.op<;>rw [iX] at h hk kJ<;>simp [gf] at hk
  rename_i n ad x;simp only [a0i] at h;split at h
  ·rename_i iA ob hw
   simp at h;rw [<- h.2,k4.aX];have:rdW r.env ad=some iA:=by
    unfold dh at hw;unfold rdW;split at hw
    ·rename_i i2 off hx
     split at hw
     ·simp only at hw
      split at hw
      ·simp at hw;rw [hw.1]
      ·simp at hw
     ·simp at hw
    ·simp at hw
   have iw:id≠iA:=by
    intro e;subst e;exact gX (by rw [kJ];simp only [a1p];exact this)
   simp [iw]
  ·simp at h
noncomputable def a6Y (iJ:q8) (rs:List Rec) (L:Array Bool) (t:Nat):D:=cur (a9W t) (a7D t) L (iJ.get t) rs
noncomputable def a2S (s0:k4) (rs:List Rec) (L:Array Bool):a0k:=fun id=>cur (a1F id) (a1M id) L (s0.get id) rs
structure Inv (N:Nat) (μ0:Mu) (Φ0:W0) (w0:World) (iJ:q8) (s0 sF:k4) (rs:List Rec) (L:Array Bool) (a:Act) (w:World) (μ:Mu) (Φ:W0):Prop where
 env:∀t,R μ Φ (a6Y iJ rs L t) (a.tmps.getD t undef)
 size:N<=a.tmps.size
 defers:a.defers=[]
 sim:Y4 μ Φ (a2S s0 rs L) w
 evo:br μ0 Φ0 s0.get w0 μ Φ (a2S s0 rs L) w s0.next sF.next
 fresh:∀r∈rs,¬ On L r.i->a5a μ r.s.next r.s'.next
theorem b2D (env:q8):∀ (l:List Nat) (t:Nat),t∈l->(env.aF l).get t=env.get t
 | [],t,h=>by simp at h
 | x::l,t,h=>by
   simp only [q8.aF,List.map_cons,q8.get];by_cases e:x=t
   ·subst e;simp
   ·rcases List.mem_cons.1 h with h | h
    ·exact absurd h.symm e
    ·simp only [e,if_false];exact b2D env l t h
theorem b4U (env:q8):∀ (l:List Nat) (t:Nat),t∉l->(env.aF l).get t=.undef
 | [],t,_=>rfl
 | x::l,t,h=>by
   simp only [List.mem_cons,not_or] at h;simp only [q8.aF,List.map_cons,q8.get];have:¬ x=t:=fun e=>h.1 e.symm
   simp only [this,if_false];exact b4U env l t h.2
theorem a7H {L:Array Bool} {i j:Nat} (h:i<L.size):On (L.setIfInBounds i true) j↔(j=i∨On L j):=by
 unfold On;simp only [Array.getD_eq_getD_getElem?];by_cases e:j=i
 ·subst e;simp [h]
 ·simp [e,Array.getElem?_setIfInBounds_ne (fun x=>e x.symm)]
theorem b4Q {f:Nat×Z3->Nat×Z3->Bool}:∀ {l:List (Nat×Z3)},b0C f l=true->l.Pairwise (fun x y=>f x y=true)
 | [],_=>.nil
 | x::l,h=>by
   simp only [b0C,Bool.and_eq_true,List.all_eq_true] at h;exact List.pairwise_cons.2 ⟨h.1,b4Q h.2⟩
theorem b43 {d:Option Nat} {l:List Nat} (h:b1r d l=true) {t:Nat} (ht:t∈l):d≠some t:=by
 intro e;subst e;simp [b1r] at h;exact h ht
theorem c5b {env:q8} {g:a0k} {ro:ROp} {d:D} (h:cO env g ro=some d) {id:Nat} (hr:fV env ro=some id):g id≠none:=by
 intro hn;cases ro with
 | load n x =>
   simp only [cO,fV] at h hr;split at hr
   ·rename_i i2 off hx
    cases hr;rw [hx] at h;simp only [hn] at h;cases h
   ·simp at hr
 | lookup ks z ok m k =>
   simp only [cO,fV] at h hr;split at hr
   ·rename_i i2 hx
    cases hr;rw [hx] at h;simp only [hn] at h;cases h
   ·simp at hr
 | b2s x =>
   simp only [cO,fV] at h hr;split at hr
   ·rename_i i2 o l z hx
    simp at hr;subst hr;simp [hx,a1h,hn] at h
   ·simp at hr
theorem b9y {s:k4} {id:Nat} (h:s.get id≠none):id<s.next:=by
 unfold k4.get at h;split at h
 ·assumption
 ·simp at h
theorem a9p {s s':k4} {id:Nat} (h:a1N s s' (some id)=true):s.get id=s'.get id:=c00 _ _ h
theorem c5l {Q:Exit->Act->World->Prop} (hC:a4m P C) {ops:Array Oper} {ae:List (Nat×Nat)} {iJ envF:q8} {s0 sF:k4} {rs:List Rec} (my:a3e C iJ s0 rs envF sF)
 (jm:rs.Pairwise (a5H ae)) (jc:rs.Pairwise fun x y=>a6A (a5c ops.toList []) ae (x.i,x.o) (y.i,y.o)=true) (nj:(rs.map (·.i)).Nodup) (kL:a6R ops.toList 0=true)
 (kV:∀r∈rs,∃o,ops[r.i]?=some o/\a3h P md N ops o=some r.o)
 {μ0:Mu} {Φ0:W0} {w0:World} {L:Array Bool} {a:Act} {w:World} {μ:Mu} {Φ:W0} (hI:Inv N μ0 Φ0 w0 iJ s0 sF rs L a w μ Φ) (jS:Shut ops L) (jt:L.size=ops.size)
 {r:Rec} (hr:r∈rs) (jq:¬ On L r.i) (ml:∀o,ops[r.i]?=some o->∀e∈o.after.toList,Region.binds .any e=true->On L e.on) :
 wpOp P ops Q r.i (fun a' w'=>∃μ' Φ',Inv N μ0 Φ0 w0 iJ s0 sF rs (L.setIfInBounds r.i true) a' w' μ' Φ') a w:=by
 obtain ⟨o,ho,vW⟩:=kV r hr;obtain ⟨gN,nD,hdok⟩:=b7C vW;have hi:r.i<L.size:=by rw [jt];exact (Array.getElem?_eq_some_iff.1 ho).1
 obtain ⟨A,B,hAB⟩:=List.append_of_mem hr;subst hAB;obtain ⟨xC,Bu,hnB⟩:=b9j hC my;have hrn:=b1T hC xC
 -- others than r
 have wP:∀q∈A,q.i≠r.i:=by
  intro q hq e;rw [List.map_append,List.map_cons] at nj;have:=(List.nodup_append.1 nj).2.2;exact this q.i (List.mem_map_of_mem hq) r.i (by simp) e
 have vp:∀q∈B,q.i≠r.i:=by
  intro q hq e;rw [List.map_append,List.map_cons] at nj;have:=(List.nodup_append.1 nj).2.1;rw [List.nodup_cons] at this;exact this.1 (by rw [<- e];exact List.mem_map_of_mem hq)
 have ze:∀q∈A,a6A (a5c ops.toList []) ae (q.i,q.o) (r.i,r.o)=true/\a5H ae q r:=fun q hq =>
  ⟨(List.pairwise_append.1 jc).2.2 q hq r (by simp),(List.pairwise_append.1 jm).2.2 q hq r (by simp)⟩
 have zx:∀q∈B,a6A (a5c ops.toList []) ae (r.i,r.o) (q.i,q.o)=true/\a5H ae r q:=fun q hq =>
  ⟨(List.pairwise_cons.1 (List.pairwise_append.1 jc).2.1).1 q hq,(List.pairwise_cons.1 (List.pairwise_append.1 jm).2.1).1 q hq⟩
 have gU:=(a9y hC my).2;have qi:∀q∈A,¬ On L q.i->a65 q.o r.o=true/\a4H ae q.i r.i q.o.op r.o.op=true/\a5H ae q r:=by
  intro q hq hq';obtain ⟨h1,h2⟩:=ze q hq;simp only [a6A,Bool.and_eq_true,Bool.or_eq_true] at h1;rcases h1.2 with h3 | h3
  ·exact absurd (b8C kL jS r.i o ho (ml o ho) q.i h3) hq'
  ·exact ⟨h3.1,h3.2,h2⟩
 have oR:∀q∈B,On L q.i->a65 r.o q.o=true/\a4H ae r.i q.i r.o.op q.o.op=true/\a5H ae r q:=by
  intro q hq hq';obtain ⟨h1,h2⟩:=zx q hq;simp only [a6A,Bool.and_eq_true,Bool.or_eq_true] at h1;rcases h1.2 with h3 | h3
  ·obtain ⟨o2,Bt,_⟩:=kV q (by simp [hq])
   exact absurd (b8C kL jS q.i o2 Bt (jS q.i o2 Bt hq') r.i h3) jq
  ·exact ⟨h3.1,h3.2,h2⟩
 -- what r looks at is as it was written down
 have agreeE:∀t∈r.o.looks,a6Y iJ (A++r::B) L t=r.env.get t:=by
  intro t ht;refine a8i (b1n t my) ?_ (.inl jq) ?_
  ·intro q hq hq'
   have:=(qi q hq hq').1;simp only [a65,Bool.and_eq_true] at this;exact a8y (b43 this.1.1 ht)
  ·intro q hq hq'
   have:=(oR q hq hq').1;simp only [a65,Bool.and_eq_true] at this;exact a8y (b43 this.1.2 ht)
 have nz:a1S μ Φ (r.env.aF r.o.looks) a:=by
  intro t;by_cases ht:t∈r.o.looks
  ·rw [b2D _ _ _ ht,<- agreeE t ht]
   exact hI.env t
  ·rw [b4U _ _ _ ht]
   simp only [R]
 have iV:a2E (r.env.aF r.o.looks) r.env r.o.looks:=fun t ht=>b2D _ _ _ ht
 have pN:a2E (r.env.aF r.o.looks) r.env (b1d r.o.guard):=iV.left;have iY:a2E (r.env.aF r.o.looks) r.env r.o.op.aW:=iV.right
 -- the end of a step
 have kS:∀q∈A++r::B,q.i=r.i->q=r:=by
  intro q hq e;rcases List.mem_append.1 hq with h | h
  ·exact absurd e (wP q h)
  ·rcases List.mem_cons.1 h with h | h
   ·exact h
   ·exact absurd e (vp q h)
 have qq:∀q∈A,(On (L.setIfInBounds r.i true) q.i↔On L q.i):=fun q hq=>by rw [a7H hi];simp [wP q hq]
 have pV:∀q∈B,(On (L.setIfInBounds r.i true) q.i↔On L q.i):=fun q hq=>by rw [a7H hi];simp [vp q hq]
 have pv:On (L.setIfInBounds r.i true) r.i:=by rw [a7H hi];exact .inl rfl
 have jW:∀ {V:Type} (pre post:Rec->V) (v:V),pre r=post r->cur pre post (L.setIfInBounds r.i true) v (A++r::B)=cur pre post L v (A++r::B):=by
  intro V pre post v h;refine b7s v ?_;intro q hq;rcases List.mem_append.1 hq with h' | h'
  ·exact .inl (qq q h')
  ·rcases List.mem_cons.1 h' with rfl | h'
   ·exact .inr h
   ·exact .inl (pV q h')
 have kC:∀v w' μ' Φ',R μ' Φ' r.d v->Y4 μ' Φ' (a2S s0 (A++r::B) (L.setIfInBounds r.i true)) w'->br μ Φ (a2S s0 (A++r::B) L) w μ' Φ' (a2S s0 (A++r::B) (L.setIfInBounds r.i true)) w' r.s.next r.s'.next ->
  Inv N μ0 Φ0 w0 iJ s0 sF (A++r::B) (L.setIfInBounds r.i true) (a.put o.dst v) w' μ' Φ':=by
  intro v w' μ' Φ' hrv kc he;refine ⟨?_,?_,?_,kc,?_,?_⟩
  ·intro t
   by_cases qM:r.o.dst=some t
   ·have h1:a6Y iJ (A++r::B) (L.setIfInBounds r.i true) t=r.d:=by
     rw [<- c38 qM];refine a9j (b1n t my) ?_ pv ?_
     ·intro q hq hq'
      rw [qq q hq] at hq';have:=(qi q hq hq').1;simp only [a65,Bool.and_eq_true] at this;refine a8y fun e=>?_
      have h3:=this.2;rw [e,qM] at h3;simp at h3
     ·intro q hq hq'
      rw [pV q hq] at hq';have:=(oR q hq hq').1;simp only [a65,Bool.and_eq_true] at this;refine a8y fun e=>?_
      have h3:=this.2;rw [e,qM] at h3;simp at h3
    rw [h1];rw [nD] at qM;rw [qM] at hdok ⊢;have iC:t<a.tmps.size:=Nat.lt_of_lt_of_le (by simpa [a7J] using hdok) hI.size;rw [b25 t iC];simpa using hrv
   ·have h1:a6Y iJ (A++r::B) (L.setIfInBounds r.i true) t=a6Y iJ (A++r::B) L t:=jW _ _ _ (a8y qM)
    rw [h1];have h2:(a.put o.dst v).tmps.getD t undef=a.tmps.getD t undef:=by
     rw [nD] at qM;cases hd:o.dst with
     | none=>rfl
     | some u =>
       rw [hd] at hdok;have iC:u<a.tmps.size:=Nat.lt_of_lt_of_le (by simpa [a7J] using hdok) hI.size;rw [b25 t iC,if_neg (fun e=>qM (by rw [hd,e]))]
    rw [h2];exact a9Y he.mu he.df _ _ (hI.env t)
  ·cases o.dst<;>simpa [Act.put] using hI.size
  ·cases o.dst<;>simpa [Act.put] using hI.defers
  ·have h1:=(gU r (by simp)).1
   have h2:=(gU r (by simp)).2.1;exact hI.evo.fJ (he.widen h1 h2)
  ·intro q hq hq'
   have hqr:q.i≠r.i:=fun e=>hq' (by rw [e];exact pv)
   have hqL:¬ On L q.i:=fun h=>hq' (by rw [a7H hi];exact .inr h)
   intro id h1 h2;rw [he.bI id]
   ·exact hI.fresh q hq hqL id h1 h2
   ·rcases List.mem_append.1 hq with h | h
    ·have:=Bu q h;omega
    ·rcases List.mem_cons.1 h with h | h
     ·exact absurd (by rw [h]) hqr
     ·have:=hnB q h;omega
 have jD:r.s'=r.s->a2S s0 (A++r::B) (L.setIfInBounds r.i true)=a2S s0 (A++r::B) L:=by
  intro h;funext id
  exact jW _ _ _ (by simp only [a1F,a1M,h])
 unfold Go.wpOp;simp only [ho];rcases xC with ⟨hw,hd,kc,_⟩ | ⟨hw,im,kJ⟩
 ·-- passed over
  have kK:=b0A vW nz (by rw [b8h pN];exact hw);rw [kK];simp only [Bool.false_eq_true,if_false];refine ⟨μ,Φ,kC undef w μ Φ (by rw [hd];exact a8Y) ?_ ?_⟩
  ·rw [jD kc];exact hI.sim
  ·rw [jD kc,kc];exact br.refl _ _ _ _ _
 ·have kK:=b0A vW nz (by rw [b8h pN];exact hw)
  rw [kK];simp only [if_true];left;cases iX:r.o.op with
  | p po =>
    rw [iX] at im gN iY;simp only [a0i] at im;obtain ⟨d',h1,e⟩:=map_some im;simp at e;refine P_wp gN nz (d:=r.d) (by rw [evP_c iY,h1,e.1]) fun v hv=>⟨μ,Φ,kC v w μ Φ hv ?_ ?_⟩
    ·rw [jD e.2.symm];exact hI.sim
    ·rw [jD e.2.symm,<- e.2];exact br.refl _ _ _ _ _
  | r ro =>
    rw [iX] at im gN iY kJ;simp only [a0i] at im;obtain ⟨d',h1,e⟩:=map_some im;simp at e;simp only [a1p] at kJ;have hlook:cO r.env (a2S s0 (A++r::B) L) ro=cO r.env r.s.get ro:=by
     refine c49 fun id gX=>?_
     have iw:=c5b h1 gX;have iC:=b9y iw;refine a8i (a50 id my) ?_ (.inl jq) ?_
     ·intro q hq hq'
      obtain ⟨_,hm,lZ⟩:=qi q hq hq';have iN:=(gU q (by simp [hq])).2.2;simp only [a1F,a1M];simp only [a4H,iX,fY,fZ,gB,fI,gf,Bool.or_eq_true,Bool.and_eq_true,Bool.or_false,Bool.and_true,Bool.and_false,Bool.not_false,Bool.or_false] at hm;rcases hm with (hm | hm) | hm
      ·rw [a4t iN (.inl hm)]
      ·rw [a4t iN (.inr hm)]
      ·exact a9p (by have:=(lZ hm.2).2;rwa [kJ,gX] at this)
     ·intro q hq hq'
      obtain ⟨_,hm,lZ⟩:=oR q hq hq';have iN:=(gU q (by simp [hq])).2.2;simp only [a1F,a1M];simp only [a4H,iX,fY,fZ,fI,gf,Bool.or_eq_true,Bool.and_eq_true,Bool.true_and,Bool.false_and,Bool.not_false,Bool.false_or] at hm;rcases hm with ((hm | hm) | hm) | hm
      ·rw [a4t iN (.inl hm)]
      ·rw [a4t iN (.inr hm)]
      ·exact (a9t iN hm id (by have:=hnB q hq;omega)).symm
      ·exact a9p (by have:=(lZ hm.2).1;rwa [kJ,gX] at this)
    refine R_wp gN nz hI.sim (d:=r.d) (by rw [evR_c iY,hlook,h1,e.1]) fun v hv=>⟨μ,Φ,kC v w μ Φ hv ?_ ?_⟩
    ·rw [jD e.2.symm];exact hI.sim
    ·rw [jD e.2.symm,<- e.2];exact br.refl _ _ _ _ _
  | a ao =>
    rw [iX] at im gN iY;simp only [a0i] at im;split at im
    ·rename_i ob m h1
     simp at im;obtain ⟨hd,kc⟩:=im;have iL:r.s'.next=r.s.next+1:=by rw [<- kc];rfl
     have oC:r.s.get r.s.next=none:=k4.get_none _ _ (Nat.le_refl _);have js:r.s'.get r.s.next=some ob:=by rw [<- kc,k4.aM];simp
     have cA:∀q∈A,¬ On L q.i->a1F r.s.next q=a1M r.s.next q:=by
      intro q hq _;have h2:=Bu q hq;have h3:=b1T hC (gU q (by simp [hq])).2.2;simp only [a1F,a1M];rw [k4.get_none _ _ (by omega),k4.get_none _ _ (by omega)]
     have cB:∀q∈B,On L q.i->a1F r.s.next q=a1M r.s.next q:=by
      intro q hq hq';obtain ⟨_,hm,lZ⟩:=oR q hq hq';have iN:=(gU q (by simp [hq])).2.2;have h2:=hnB q hq;simp only [a1F,a1M];simp only [a4H,iX,fY,fZ,gB,fI,gf,Bool.or_eq_true,Bool.and_eq_true,Bool.true_and,Bool.false_and,Bool.not_false,Bool.false_or,Bool.or_false] at hm;rcases hm with (hm | hm) | hm
      ·rw [a4t iN (.inl hm)]
      ·exact (a9t iN hm _ (by omega)).symm
      ·have xu:=(lZ hm.2).2
       have hrq:q.rd≠some r.s.next:=by
        intro e;rw [e] at xu;have:=a9p xu;rw [oC,js] at this;cases this
       cases mJ:q.o.op with
       | p po=>rw [a4t iN (.inl (by rw [mJ];rfl))]
       | r po=>rw [a4t iN (.inr (by rw [mJ];rfl))]
       | a ao=>exact (a9t iN (by rw [mJ];rfl) _ (by omega)).symm
       | w n ad x=>exact (c06 iN (by rw [mJ];rfl) _ hrq).symm
       | m mo=>rw [mJ] at hm;simp at hm
     have hcur:a2S s0 (A++r::B) L r.s.next=none:=by
      have:=a8i (pre:=a1F r.s.next) (post:=a1M r.s.next) (L:=L) (a50 r.s.next my) cA (.inl jq) cB;exact this.trans oC
     have mS:a2S s0 (A++r::B) (L.setIfInBounds r.i true)=bo (a2S s0 (A++r::B) L) r.s.next (some ob):=by
      funext j
      by_cases hj:j=r.s.next
      ·subst hj
       have:=a9j (pre:=a1F r.s.next) (post:=a1M r.s.next) (L:=L.setIfInBounds r.i true) (a50 r.s.next my) (fun q hq h=>cA q hq (by rwa [qq q hq] at h)) pv (fun q hq h=>cB q hq (by rwa [pV q hq] at h));simp only [bo,if_true];exact this.trans js
      ·simp only [bo,hj,if_false]
       exact jW _ _ _ (by simp only [a1F,a1M];rw [<- kc,k4.aM,if_neg hj])
     refine A_wp gN nz hI.sim (by rw [evA_c iY,h1]) (hI.fresh r (by simp) jq r.s.next (Nat.le_refl _) (by omega)) hcur fun v w' μ' g1 g2 g3=>⟨μ',Φ,kC v w' μ' Φ (by rw [<- hd];exact g2) ?_ ?_⟩
     ·rw [mS];exact g1
     ·rw [mS,iL];exact g3
    ·simp at im
  | w n ad x =>
    rw [iX] at im gN iY kJ;simp only [a0i] at im;split at im
    ·rename_i id ob h1
     simp at im;obtain ⟨hd,kc⟩:=im;have hx:rdW r.env ad=some id/\r.s.get id≠none:=by
      unfold dh at h1;unfold rdW;split at h1
      ·rename_i i2 off hx
       split at h1
       ·rename_i hg
        simp only at h1;split at h1
        ·simp at h1
         rw [<- h1.1];exact ⟨rfl,by rw [hg];simp⟩
        ·simp at h1
       ·simp at h1
      ·simp at h1
     simp only [a1p,hx.1] at kJ;have iC:=b9y hx.2;have js:r.s'.get id=some ob:=by rw [<- kc,k4.aX];simp [iC]
     have cA:∀q∈A,¬ On L q.i->a1F id q=a1M id q:=by
      intro q hq hq';obtain ⟨_,hm,lZ⟩:=qi q hq hq';have iN:=(gU q (by simp [hq])).2.2;simp only [a1F,a1M];simp only [a4H,iX,fY,fZ,gB,fI,gf,Bool.or_eq_true,Bool.and_eq_true,Bool.and_false,Bool.and_true,Bool.not_false,Bool.or_false] at hm;rcases hm with hm | hm
      ·rw [a4t iN (.inl hm)]
      ·exact a9p (by have:=(lZ hm.2).2;rwa [kJ] at this)
     have cB:∀q∈B,On L q.i->a1F id q=a1M id q:=by
      intro q hq hq';obtain ⟨_,hm,lZ⟩:=oR q hq hq';have iN:=(gU q (by simp [hq])).2.2;have h2:=hnB q hq;simp only [a1F,a1M];simp only [a4H,iX,fY,fZ,gB,fI,gf,Bool.or_eq_true,Bool.and_eq_true,Bool.true_and,Bool.false_and,Bool.not_false,Bool.false_or,Bool.or_false] at hm;rcases hm with (hm | hm) | hm
      ·rw [a4t iN (.inl hm)]
      ·exact (a9t iN hm _ (by omega)).symm
      ·exact a9p (by have:=(lZ hm.2).1;rwa [kJ] at this)
     have hagree:a2S s0 (A++r::B) L id=r.s.get id:=a8i (pre:=a1F id) (post:=a1M id) (L:=L) (a50 id my) cA (.inl jq) cB;have mS:a2S s0 (A++r::B) (L.setIfInBounds r.i true)=bo (a2S s0 (A++r::B) L) id (some ob):=by
      funext j
      by_cases hj:j=id
      ·subst hj
       have:=a9j (pre:=a1F j) (post:=a1M j) (L:=L.setIfInBounds r.i true) (a50 j my) (fun q hq h=>cA q hq (by rwa [qq q hq] at h)) pv (fun q hq h=>cB q hq (by rwa [pV q hq] at h));simp only [bo,if_true];exact this.trans js
      ·simp only [bo,hj,if_false]
       exact jW _ _ _ (by simp only [a1F,a1M];rw [<- kc,k4.aX];simp [hj])
     have iL:r.s'.next=r.s.next:=by rw [<- kc];rfl
     refine W_wp gN nz hI.sim (id:=id) (vo:=ob) ?_ r.s.next fun w' g1 g2=>⟨μ,Φ,kC undef w' μ Φ (by rw [<- hd];exact a8Y) ?_ ?_⟩
     ·rw [evW_c iY,c1D (g':=r.s.get) (fun i2 h2=>by rw [hx.1] at h2;cases h2;exact hagree),h1]
     ·rw [mS];exact g1
     ·rw [mS,iL];exact g2
    ·simp at im
  | m mo =>
    rw [iX] at im gN iY;simp only [a0i] at im;have kA:∀q∈A,¬ On L q.i->q.s'=q.s:=by
     intro q hq hq';obtain ⟨_,hm,_⟩:=qi q hq hq';have iN:=(gU q (by simp [hq])).2.2;cases mJ:q.o.op with
     | p po=>exact a4t iN (.inl (by rw [mJ];rfl))
     | r po=>exact a4t iN (.inr (by rw [mJ];rfl))
     | a ao=>rw [mJ,iX] at hm;simp [a4H,fY,fZ,gB,fI,gf] at hm
     | w n ad x=>rw [mJ,iX] at hm;simp [a4H,fY,fZ,gB,fI,gf] at hm
     | m mo=>rw [mJ,iX] at hm;simp [a4H,fY,fZ,gB,fI,gf] at hm
    have kB:∀q∈B,On L q.i->∀id,id≠q.s.next->q.s'.get id=q.s.get id:=by
     intro q hq hq' id gX;obtain ⟨_,hm,_⟩:=oR q hq hq';have iN:=(gU q (by simp [hq])).2.2;cases mJ:q.o.op with
     | p po=>rw [a4t iN (.inl (by rw [mJ];rfl))]
     | r po=>rw [a4t iN (.inr (by rw [mJ];rfl))]
     | a ao=>exact a9t iN (by rw [mJ];rfl) id gX
     | w n ad x=>rw [mJ,iX] at hm;simp [a4H,fY,fZ,gB,fI,gf] at hm
     | m mo=>rw [mJ,iX] at hm;simp [a4H,fY,fZ,gB,fI,gf] at hm
    have iM:∀id ob,r.s.get id=some ob->a2S s0 (A++r::B) L id=some ob:=by
     intro id ob hg;have iC:=a8F hg;have:=a8i (pre:=a1F id) (post:=a1M id) (L:=L) (a50 id my) (fun q hq h=>by simp only [a1F,a1M];rw [kA q hq h]) (.inl jq)
      (fun q hq h=>by simp only [a1F,a1M];exact (kB q hq h id (by have:=hnB q hq;omega)).symm)
     exact this.trans hg
    have mD:Y4 μ Φ r.s.get w:=hI.sim.fX iM;obtain ⟨_,wJ⟩:=M_wp (K:=fun a' w'=>∃μ' Φ',Inv N μ0 Φ0 w0 iJ s0 sF (A++r::B) (L.setIfInBounds r.i true) a' w' μ' Φ') (Q:=Q) hC gN nz mD (by rw [evM_c iY];exact im);refine wJ (hI.fresh r (by simp) jq) ?_;intro v w' μ' Φ' g1 g2 g3;have hj:=Y4.join (G:=a2S s0 (A++r::B) (L.setIfInBounds r.i true)) hI.sim g1 iM g3 (by
     intro id ob hG;by_cases hex:∃q∈B,On L q.i/\id=q.s.next
     ·obtain ⟨q,hq,hq',gX⟩:=hex
      have h2:=hnB q hq;right;have e1:r.s.get id=none:=k4.get_none _ _ (by omega);have e2:r.s'.get id=none:=k4.get_none _ _ (by omega);refine ⟨?_,e1⟩;rw [<- hG];exact (jW _ _ _ (by simp only [a1F,a1M,e1,e2])).symm
     ·left
      have:=a9j (pre:=a1F id) (post:=a1M id) (L:=L.setIfInBounds r.i true) (a50 id my) (fun q hq h=>by simp only [a1F,a1M];rw [kA q hq (by rwa [qq q hq] at h)]) pv
       (fun q hq h=>by
        rw [pV q hq] at h;simp only [a1F,a1M];exact (kB q hq h id (fun e=>hex ⟨q,hq,h,e⟩)).symm)
      have hG':a2S s0 (A++r::B) (L.setIfInBounds r.i true) id=r.s'.get id:=this;rw [<- hG',hG])
    exact ⟨μ',Φ',kC v w' μ' Φ' g2 hj.1 hj.2⟩
end
end Go.V
namespace Go.V
section
variable {P:Program} {md:FuncId->a1Q} {N:Nat} {C:a09}
def a71 (n:Nat) (L:Array Bool):Nat:=(List.range n).countP (fun i=>!L.getD i false)
theorem c3f {n:Nat} {L:Array Bool} {i:Nat} (hi:i<n) (hL:i<L.size) (jq:¬ On L i):a71 n (L.setIfInBounds i true)+1=a71 n L:=by
 have h0:L.getD i false=false:=by unfold On at jq;simpa using jq
 have key:∀l:List Nat,l.Nodup->(l.countP (fun j=>!(L.setIfInBounds i true).getD j false))+(if i∈l then 1 else 0)=l.countP (fun j=>!L.getD j false):=by
  intro l;induction l with
  | nil=>intro _;simp
  | cons x l ih =>
    intro hn;rw [List.nodup_cons] at hn;have:=ih hn.2;rw [List.countP_cons,List.countP_cons];by_cases e:x=i
    ·subst e
     have hx:(L.setIfInBounds x true).getD x false=true:=(a7H hL).2 (.inl rfl);rw [hx,h0];simp [hn.1] at this ⊢;omega
    ·have hx:(L.setIfInBounds i true).getD x false=L.getD x false:=by
      simp only [Array.getD_eq_getD_getElem?];rw [Array.getElem?_setIfInBounds_ne (fun h=>e h.symm)]
     rw [hx];have hm:(i∈x::l)↔i∈l:=by
      simp only [List.mem_cons];exact ⟨fun h=>h.resolve_left (fun q=>e q.symm),.inr⟩
     simp only [hm];omega
 have:=key (List.range n) List.nodup_range;simp only [List.mem_range,hi,if_true] at this;exact this
theorem c0a {n:Nat} {L:Array Bool} (h:a71 n L=0):∀i,i<n->On L i:=by
 intro i hi;unfold a71 at h;rw [List.countP_eq_zero] at h;have:=h i (List.mem_range.2 hi);simpa [On] using this
theorem c3j {ops:Array Oper} {L:Array Bool} (jt:L.size=ops.size) (kL:a6R ops.toList 0=true) (h:Region.ready .any ops L=[]):∀i,i<ops.size->On L i:=by
 intro i;induction i using Nat.strongRecOn with
 | _ i ih =>
   intro hi;apply Classical.byContradiction;intro jq;have kS:i∈Region.ready .any ops L:=by
    unfold Region.ready;rw [List.mem_filter];refine ⟨List.mem_range.2 hi,?_⟩;have h0:L.getD i true=false:=by
     unfold On at jq;simp only [Array.getD_eq_getD_getElem?] at jq ⊢;have:i<L.size:=by omega
     simp [this] at jq ⊢;exact jq
    rw [h0];have ho:ops[i]?=some ops[i]:=by simp [hi]
    simp only [Bool.not_false,Bool.true_and,ho,Option.map_some,Option.getD_some];rw [<- Array.all_toList,List.all_eq_true];intro e he;by_cases hb:Region.binds .any e=true
    ·have iC:=b3g kL i ops[i] (by simp [hi]) e he hb
     have:=ih e.on (by omega) (by omega);unfold On at this;simp [this]
    ·simp at hb
     simp [hb]
   rw [h] at kS;simp at kS
theorem c3a {Q:Exit->Act->World->Prop} (hC:a4m P C) {ops:Array Oper} {ae:List (Nat×Nat)} {iJ envF:q8} {s0 sF:k4} {rs:List Rec} (my:a3e C iJ s0 rs envF sF)
 (jm:rs.Pairwise (a5H ae)) (jc:rs.Pairwise fun x y=>a6A (a5c ops.toList []) ae (x.i,x.o) (y.i,y.o)=true) (nj:(rs.map (·.i)).Nodup) (kL:a6R ops.toList 0=true)
 (kV:∀r∈rs,∃o,ops[r.i]?=some o/\a3h P md N ops o=some r.o) (ua:∀i,i<ops.size->∃r∈rs,r.i=i) {μ0:Mu} {Φ0:W0} {w0:World}
 (hQ:a7i N μ0 Φ0 s0 w0 envF sF (fun a w=>Q .normal a w)):∀ (fuel:Nat) (L:Array Bool) (a:Act) (w:World) (μ:Mu) (Φ:W0),L.size=ops.size->Shut ops L->a71 ops.size L=fuel ->
 Inv N μ0 Φ0 w0 iJ s0 sF rs L a w μ Φ->wpAny P .any ops Q fuel L a w:=by
 have tG:∀ (L:Array Bool) (a:Act) (w:World) (μ:Mu) (Φ:W0),(∀i,i<ops.size->On L i)->Inv N μ0 Φ0 w0 iJ s0 sF rs L a w μ Φ->Q .normal a w:=by
  intro L a w μ Φ tX hI;have xe:∀q∈rs,On L q.i:=fun q hq=>by
   obtain ⟨o,ho,_⟩:=kV q hq;exact tX q.i (Array.getElem?_eq_some_iff.1 ho).1
  have hS:a2S s0 rs L=sF.get:=funext fun id=>b2t (a50 id my) xe
  have hE:∀t,a6Y iJ rs L t=envF.get t:=fun t=>b2t (b1n t my) xe
  have h1:=hI.sim;have h2:=hI.evo;rw [hS] at h1 h2;exact hQ a w μ Φ ⟨fun t=>by rw [<- hE t];exact hI.env t,hI.size,hI.defers⟩ h1 h2
 intro fuel;induction fuel with
 | zero =>
   intro L a w μ Φ jt jS hcnt hI;have tX:=c0a hcnt;refine ⟨?_,tG L a w μ Φ tX hI⟩;unfold Region.ready;rw [List.filter_eq_nil_iff];intro i hi;have:=tX i (List.mem_range.1 hi);have iC:i<L.size:=by rw [jt];exact List.mem_range.1 hi
   unfold On at this;simp only [Array.getD_eq_getD_getElem?] at this ⊢;simp [iC] at this ⊢;simp [this]
 | succ fuel ih =>
   intro L a w μ Φ jt jS hcnt hI;refine ⟨fun hr=>tG L a w μ Φ (c3j jt kL hr) hI,?_⟩;intro i hi;unfold Region.ready at hi;rw [List.mem_filter] at hi;obtain ⟨tj,oK⟩:=hi;have iC:=List.mem_range.1 tj;simp only [Bool.and_eq_true] at oK;have jq:¬ On L i:=by
    unfold On;have h3:=oK.1;have:i<L.size:=by omega
    simp only [Array.getD_eq_getD_getElem?] at h3 ⊢;simp [this] at h3 ⊢;exact h3
   have ml:∀o,ops[i]?=some o->∀e∈o.after.toList,Region.binds .any e=true->On L e.on:=by
    intro o ho e he hb;have h3:=oK.2;rw [ho] at h3;simp only [Option.map_some,Option.getD_some] at h3;rw [<- Array.all_toList,List.all_eq_true] at h3;have:=h3 e he;simp [hb] at this;unfold On;simpa using this
   obtain ⟨r,hr,rfl⟩:=ua i iC;refine wpOp_mono ?_ (c5l (Q:=Q) hC my jm jc nj kL kV hI jS jt hr jq ml);rintro a' w' ⟨μ',Φ',hI'⟩;refine ih _ _ _ μ' Φ' (by simpa using jt) ?_ ?_ hI'
   ·intro j o ho hj e he hb
    rw [a7H (by omega)] at hj ⊢;right;rcases hj with rfl | hj
    ·exact ml o ho e he hb
    ·exact jS j o ho hj e he hb
   ·have:=c3f (n:=ops.size) iC (by omega) jq
    omega
theorem b5L {Q:Exit->Act->World->Prop} (hC:a4m P C) (mN:P.follows .mixedOrders=true) {ops:Array Oper} {l:List (Nat×Z3)} {ae:List (Nat×Nat)} (jL:b0P ops l ae=true)
 (kV:∀x∈l,∃o,ops[x.1]?=some o/\a3h P md N ops o=some x.2) {env gQ:q8} {s s':k4} (im:a01 C ae l [] env s=some (gQ,s'))
 {μ:Mu} {Φ:W0} {a:Act} {w:World} (hf:fH N μ Φ env a) (hs:Y4 μ Φ s.get w) (gY:a5a μ s.next s'.next) (hQ:a7i N μ Φ s w gQ s' (fun a w=>Q .normal a w)) (id:Nat) :
 (Code.region id ops true).wp P Q a w:=by
 simp only [b0P,Bool.and_eq_true,decide_eq_true_eq,List.all_eq_true] at jL;obtain ⟨⟨⟨⟨⟨h1,h2⟩,h3⟩,h4⟩,h5⟩,h6⟩:=jL;have htrace:∃rs:List Rec,rs.map (fun r=>(r.i,r.o))=l/\a3e C env s rs gQ s'/\rs.Pairwise (a5H ae):=by
  cases hp:ae.isEmpty with
  | true=>exact b2c hp im
  | false =>
    obtain ⟨rs,g1,g2,g3,_⟩:=b2z hp im;exact ⟨rs,g1,g2,g3⟩
 obtain ⟨rs,g1,g2,g3⟩:=htrace;have jc:rs.Pairwise fun x y=>a6A (a5c ops.toList []) ae (x.i,x.o) (y.i,y.o)=true:=by
  have:=b4Q h6;rw [<- g1,List.pairwise_map] at this;exact this
 have vm:l.map (·.1)=rs.map (·.i):=by rw [<- g1];simp
 have nj:(rs.map (·.i)).Nodup:=by rw [<- vm];exact h1
 have hcomp':∀r∈rs,∃o,ops[r.i]?=some o/\a3h P md N ops o=some r.o:=by
  intro r hr;exact kV (r.i,r.o) (by rw [<- g1];exact List.mem_map_of_mem hr)
 have ua:∀i,i<ops.size->∃r∈rs,r.i=i:=by
  intro i hi;have:=h5 i (List.mem_range.2 hi);rw [vm] at this;simp only [List.contains_iff_mem,List.mem_map] at this;exact this
 refine wp_region_any mN ?_;have kG:∀i,¬ On (Array.replicate ops.size false) i:=by
  intro i h;unfold On at h;simp only [Array.getD_eq_getD_getElem?] at h;by_cases hi:i<ops.size
  ·simp [hi] at h
  ·have:(Array.replicate ops.size false)[i]?=none:=by simp;omega
   simp [this] at h
 have hQ':a7i N μ Φ s { w with drawn:=w.drawn+1 } gQ s' (fun a w=>Q .normal a w):=by
  intro a' w' μ' Φ' q1 q2 q3;refine hQ a' w' μ' Φ' q1 q2 ?_;exact ⟨q3.mu,q3.bI,q3.df,q3.os,q3.tape,q3.output,q3.size,q3.aF,q3.bM,q3.bp⟩
 refine c3a hC g2 g3 jc nj h4 hcomp' ua hQ' ops.size _ a _ μ Φ (by simp) ?_ ?_ ?_
 ·intro j o _ hj
  exact absurd hj (kG j)
 ·unfold a71
  rw [List.countP_eq_length.2]
  ·simp
  ·intro i _
   have:=kG i;unfold On at this;simpa using this
 ·have hE:∀t,a6Y env rs (Array.replicate ops.size false) t=env.get t:=fun t=>b5a _ fun q _=>kG q.i
  have hS:a2S s rs (Array.replicate ops.size false)=s.get:=funext fun id=>b5a _ fun q _=>kG q.i
  have hn:=a9y hC g2;refine ⟨fun t=>by rw [hE];exact hf.env t,hf.size,hf.defers,by rw [hS];exact hs.drew _,?_,?_⟩
  ·rw [hS]
   exact (br.refl μ Φ s.get { w with drawn:=w.drawn+1 } s.next).widen (Nat.le_refl _) hn.1
  ·intro r hr _ id q1 q2
   have:=hn.2 r hr;exact gY id (by omega) (by omega)
end
end Go.V
namespace Go.V
def a9d (P:Program) (md:FuncId->a1Q) (N:Nat) (ops:Array Oper):List Oper->Option (List Z3)
 | []=>some []
 | o::r=>match a3h P md N ops o,a9d P md N ops r with
   | some v,some l=>some (v::l)
   | _,_=>none
def a4z:List Z3->Nat->List (Nat×Z3)
 | [],_=>[]
 | v::r,i=>(i,v)::a4z r (i+1)
def a7I (vs:List Z3):List Nat->Option (List (Nat×Z3))
 | []=>some []
 | i::r=>match vs[i]?,a7I vs r with
   | some v,some l=>some ((i,v)::l)
   | _,_=>none
abbrev gC:=List (Nat×List Nat×List (Nat×Nat))
def gC.find:gC->Nat->Option (List Nat×List (Nat×Nat))
 | [],_=>none
 | (i,x)::r,id=>if i=id then some x else gC.find r id
def b1C (P:Program) (md:FuncId->a1Q) (N:Nat) (iR:gC) (id:Nat) (ops:Array Oper) (draw:Bool):Option b2m :=
 match a9d P md N ops ops.toList with
 | none=>none
 | some vs =>
   if draw then
    match iR.find id with
    | some (order,ae)=>match a7I vs order with
      | some l=>if b0P ops l ae then some ⟨l,ae,true⟩ else none
      | none=>none
    | none=>if b0P ops (a4z vs 0) [] then some ⟨a4z vs 0,[],true⟩ else none
   else some ⟨a4z vs 0,[],false⟩
def a5W (P:Program) (md:FuncId->a1Q) (N:Nat) (iR:gC):Code->Option a1a
 | .skip=>some .skip
 | .region id ops draw=>(b1C P md N iR id ops draw).map .region
 | .seq a b=>match a5W P md N iR a,a5W P md N iR b with
   | some x,some y=>some (.seq x y)
   | _,_=>none
 | .cond c x y=>match a0r c,a5W P md N iR x,a5W P md N iR y with
   | some c,some x,some y=>some (.cond c x y)
   | _,_,_=>none
 | .block id b=>(a5W P md N iR b).map (.block id)
 | .loop b=>(a5W P md N iR b).map .loop
 | .exit id=>some (.exit id)
 | .ret=>some .ret
 | _=>none
def b2p (P:Program):ResultVar->Option (Nat×Option (Option Nat))
 | .tmp t=>some (t,none)
 | .cell t ty=>(a6N P ty).map fun n=>(t,some n)
def a7P (P:Program):List ResultVar->Option (List (Nat×Option (Option Nat)))
 | []=>some []
 | x::r=>match b2p P x,a7P P r with
   | some y,some l=>some (y::l)
   | _,_=>none
def a6e (P:Program) (md:FuncId->a1Q) (iR:gC) (vars:List Nat) (fn:Func):Option U3 :=
 match fn.body with
 | none=>none
 | some c=>match a5W P md fn.ntmps iR c,a7P P fn.results.toList with
   | some vc,some rs=>if fn.name=="runtime.NumGoroutine" then none else some ⟨vars,vc,rs⟩
   | _,_=>none
def a9D (l:List Nat):FuncId->a1Q:=fun g=>if l.contains g then .fF else .raw
def a9u (P:Program) (fs:FuncId->Option U3):Prop:=∀f vf,fs f=some vf->∃fn md iR,P.funcs[f]?=some fn/\a6e P md iR vf.vars fn=some vf
def b0p:a1n->Exit
 | .normal=>.normal
 | .exit id=>.exit id
 | .ret=>.ret
def b5T (P:Program) (ex:List Nat->a1a->q8->k4->Option Out):Prop:=∀ (md:FuncId->a1Q) (N:Nat) (iR:gC) (vars:List Nat) (code:Code) (vc:a1a) (env:q8) (s:k4) (e:a1n) (gQ:q8) (s':k4),
 a5W P md N iR code=some vc->ex vars vc env s=some (e,gQ,s')->s.next<=s'.next /\
 ∀ (μ:Mu) (Φ:W0) (a:Act) (w:World) (Q:Exit->Act->World->Prop),fH N μ Φ env a->Y4 μ Φ s.get w->a5a μ s.next s'.next->a7i N μ Φ s w gQ s' (Q (b0p e))->code.wp P Q a w
section
variable {P:Program} {fs:FuncId->Option U3}
theorem b7k {md:FuncId->a1Q} {N:Nat} {ops:Array Oper}:∀ {l:List Oper} {vs:List Z3},a9d P md N ops l=some vs->vs.length=l.length/\∀ (j:Nat) (o:Oper) (v:Z3),l[j]?=some o->vs[j]?=some v->a3h P md N ops o=some v
 | [],vs,h=>by simp [a9d] at h;subst h;simp
 | o::l,vs,h=>by
   simp only [a9d] at h;split at h
   ·rename_i v l' h1 h2
    simp at h;subst h;obtain ⟨g1,g2⟩:=b7k h2;refine ⟨by simp [g1],?_⟩;intro j o' v' hj hv;cases j with
    | zero=>simp at hj hv;subst hj;subst hv;exact h1
    | succ j=>exact g2 j o' v' (by simpa using hj) (by simpa using hv)
   ·simp at h
theorem b03:∀ {vs:List Z3} {i:Nat},(a4z vs i).length=vs.length/\∀ (j:Nat) (x:Nat×Z3),(a4z vs i)[j]?=some x->x.1=i+j/\vs[j]?=some x.2
 | [],i=>by simp [a4z]
 | v::vs,i=>by
   obtain ⟨g1,g2⟩:=@b03 vs (i+1);refine ⟨by simp [a4z,g1],?_⟩;intro j x hx;cases j with
   | zero=>simp [a4z] at hx;subst hx;simp
   | succ j =>
     simp [a4z] at hx;have:=g2 j x hx;exact ⟨by omega,by simpa using this.2⟩
theorem b7p {vs:List Z3}:∀ {l:List Nat} {r:List (Nat×Z3)},a7I vs l=some r->∀x∈r,vs[x.1]?=some x.2
 | [],r,h,x,hx=>by simp [a7I] at h;subst h;simp at hx
 | i::l,r,h,x,hx=>by
   simp only [a7I] at h;split at h
   ·rename_i v l' h1 h2
    simp at h;subst h;rcases List.mem_cons.1 hx with rfl | hx
    ·exact h1
    ·exact b7p h2 x hx
   ·simp at h
theorem c2t {C:a09} (hC:a4m P C) (mN:P.follows .mixedOrders=true) {md:FuncId->a1Q} {N:Nat} {iR:gC} {id:Nat} {ops:Array Oper} {draw:Bool} {r:b2m} (hc:b1C P md N iR id ops draw=some r)
 {env gQ:q8} {s s':k4} (im:a01 C r.ae r.ops [] env s=some (gQ,s')):s.next<=s'.next /\
 ∀ (μ:Mu) (Φ:W0) (a:Act) (w:World) (Q:Exit->Act->World->Prop),fH N μ Φ env a->Y4 μ Φ s.get w->a5a μ s.next s'.next->a7i N μ Φ s w gQ s' (Q .normal)->(Code.region id ops draw).wp P Q a w:=by
 unfold b1C at hc;split at hc
 ·simp at hc
 ·rename_i vs hvs
  obtain ⟨g1,g2⟩:=b7k hvs;have tK:∀x∈a4z vs 0,∃o,ops[x.1]?=some o/\a3h P md N ops o=some x.2:=by
   intro x hx;obtain ⟨j,hj⟩:=List.getElem?_of_mem hx;obtain ⟨e1,e2⟩:=b03.2 j x hj;have iC:j<ops.toList.length:=by rw [<- g1];exact (List.getElem?_eq_some_iff.1 e2).1
   have ho:ops.toList[j]?=some ops.toList[j]:=List.getElem?_eq_getElem iC;refine ⟨ops.toList[j],?_,g2 j _ _ ho e2⟩;have:x.1=j:=by omega
   rw [this,<- Array.getElem?_toList];exact ho
  have ti:∀ {l:List Nat} {r:List (Nat×Z3)},a7I vs l=some r->∀x∈r,∃o,ops[x.1]?=some o/\a3h P md N ops o=some x.2:=by
   intro l r h x hx;have e2:=b7p h x hx;have iC:x.1<ops.toList.length:=by rw [<- g1];exact (List.getElem?_eq_some_iff.1 e2).1
   have ho:ops.toList[x.1]?=some ops.toList[x.1]:=List.getElem?_eq_getElem iC;exact ⟨_,by rw [<- Array.getElem?_toList];exact ho,g2 _ _ _ ho e2⟩
  have gU:∀ {l:List (Nat×Z3)},(∀x∈l,∃o,ops[x.1]?=some o/\a3h P md N ops o=some x.2)->∀x∈l,∃o,a3h P md N ops o=some x.2:=fun h x hx=>by
   obtain ⟨o,_,h2⟩:=h x hx;exact ⟨o,h2⟩
  split at hc
  ·rename_i hd
   subst hd;split at hc
   ·split at hc
    ·rename_i l hl
     split at hc
     ·rename_i jL
      simp at hc;subst hc;exact ⟨a8l hC (gU (ti hl)) im,fun μ Φ a w Q hf hs gY hQ=>b5L hC mN jL (ti hl) im hf hs gY hQ id⟩
     ·simp at hc
    ·simp at hc
   ·split at hc
    ·rename_i jL
     simp at hc;subst hc;exact ⟨a8l hC (gU tK) im,fun μ Φ a w Q hf hs gY hQ=>b5L hC mN jL tK im hf hs gY hQ id⟩
    ·simp at hc
  ·rename_i hd
   simp at hd;subst hd;simp at hc;subst hc;refine ⟨a8l hC (gU tK) im,fun μ Φ a w Q hf hs gY hQ=>wp_region_list (b4E hC (md:=md) (vl:=a4z vs 0) ?_ ?_ im hf hs gY hQ)⟩
   ·rw [b03.1,g1]
   ·intro j o x h1 h2
    exact g2 j o x.2 h1 (b03.2 j x h2).2
theorem b8j {env:q8} {s:k4} {μ:Mu} {Φ:W0} {a:Act} {w:World} (he:a1S μ Φ env a) (hs:Y4 μ Φ s.get w):∀ {l:List ResultVar} {rs:List (Nat×Option (Option Nat))} {ds:List D},a7P P l=some rs->a1g env s rs=some ds ->
 ∃vs:List Value,(l.mapM (fun | .tmp t=>pure (a.tmps.getD t undef) | .cell t ty=>do loadVar ty (<- asAddr (a.tmps.getD t undef))):Sem (List Value)).run P w=.ok vs w/\RL μ Φ ds vs
 | [],rs,ds,h1,h2=>by
   simp [a7P] at h1;subst h1;simp [a1g] at h2;subst h2;exact ⟨[],by simp,by simp [RL]⟩
 | x::l,rs,ds,h1,h2=>by
   simp only [a7P] at h1;split at h1
   ·rename_i y l' hy hl
    simp at h1;subst h1;simp only [a1g] at h2;split at h2
    ·rename_i d AH hd mK
     simp at h2;subst h2;obtain ⟨vs,g1,g2⟩:=b8j he hs hl mK;cases x with
     | tmp t =>
       simp [b2p] at hy;subst hy;simp only [a1t] at hd;cases hd;refine ⟨a.tmps.getD t undef::vs,?_,?_⟩
       ·rw [List.mapM_cons]
        simp only [Sem.run_bind,Sem.run_pure,Result.andThen_ok,g1]
       ·simp only [RL]
        exact ⟨_,_,rfl,he t,g2⟩
     | cell t ty =>
       simp only [b2p] at hy;obtain ⟨n,hn,e⟩:=map_some hy;subst e;simp only [a1t] at hd;have ht:=he t;split at hd
       ·rename_i id off hx
        rw [hx] at ht;simp only [R] at ht;obtain ⟨b,o,z,hm,e⟩:=ht;split at hd
        ·rename_i cs hg
         obtain ⟨b',o',z',m1,m2,_⟩:=hs.obj id _ hg;rw [hm] at m1;cases m1;obtain ⟨us,u1,u2⟩:=m2.values;obtain ⟨v,q1,q2⟩:=b2e (P:=P) hn hd u1 u2;refine ⟨v::vs,?_,?_⟩
         ·rw [List.mapM_cons]
          have:(loadVar ty ⟨b,o+off,none⟩).run P w=.ok v w:=by
           simpa [Instr.loadAt,Instr.sureAddr] using q1
          have ha:(asAddr (a.tmps.getD t undef)).run P w=.ok ⟨b,o+off,none⟩ w:=by rw [e];rfl
          simp only [Sem.run_bind,ha,Sem.run_pure,Result.andThen_ok,this,g1]
         ·simp only [RL]
          exact ⟨_,_,rfl,q2,g2⟩
        ·simp at hd
       ·simp at hd
    ·simp at h2
   ·simp at h1
theorem c3y {env:q8} {s:k4} {μ:Mu} {Φ:W0} {a:Act} {w:World} (he:a1S μ Φ env a) (hs:Y4 μ Φ s.get w) {fn:Func} {rs:List (Nat×Option (Option Nat))} {d:D} (h1:a7P P fn.results.toList=some rs) (h2:a04 env s rs=some d) :
 ∃v,(results fn a.tmps).run P w=.ok v w/\R μ Φ d v:=by
 unfold a04 at h2;have key:∀ds,a1g env s rs=some ds->∃vs:List Value,RL μ Φ ds vs/\(results fn a.tmps).run P w=.ok (if h:vs.toArray.size=1 then vs.toArray[0] else .tuple vs.toArray) w:=by
  intro ds mK;obtain ⟨vs,g1,g2⟩:=b8j he hs h1 mK;refine ⟨vs,g2,?_⟩;unfold results;rw [Array.mapM_eq_mapM_toList];rw [Sem.run_bind,Sem.run_map];erw [g1]
  rfl
 split at h2
 ·rename_i d0 mK
  cases h2;obtain ⟨vs,g1,g2⟩:=key _ mK;simp only [RL] at g1;obtain ⟨u,us,rfl,r1,rfl⟩:=g1;exact ⟨u,by simpa using g2,r1⟩
 ·rename_i l iw mK
  cases h2;obtain ⟨vs,g1,g2⟩:=key _ mK;have hl:=a2P g1;have hlen:¬ vs.toArray.size=1:=by
   simp;intro e;rw [e] at hl;match l,hl with
   | [x],_=>exact iw x rfl
  rw [dif_neg hlen] at g2;exact ⟨.tuple vs.toArray,g2,by simp only [R];exact ⟨vs,rfl,g1⟩⟩
 ·simp at h2
theorem c4u {μ:Mu} {Φ:W0} {args:List D} {vs:List Value} (h:RL μ Φ args vs) (n:Nat) (vars:List Nat):a1S μ Φ (vars.map fun t=>(t,args.getD t .undef)) { tmps:=vs.toArray++Array.replicate n undef,defers:=[] }:=by
 intro t;induction vars with
 | nil=>simp [q8.get,R]
 | cons x l ih =>
   simp only [List.map_cons,q8.get];by_cases e:x=t
   ·subst e
    simp only [if_true];cases hx:args[x]? with
    | none=>simp [List.getD_eq_getElem?_getD,hx,R]
    | some d =>
      obtain ⟨u,h1,h2⟩:=a81 h hx;have iC:x<vs.length:=(List.getElem?_eq_some_iff.1 h1).1;simp only [List.getD_eq_getElem?_getD,hx,Option.getD_some,Array.getD_eq_getD_getElem?];rw [Array.getElem?_append_left (by simpa using iC)];simp [h1];exact h2
   ·simp only [e,if_false]
    exact ih
theorem b4N (iT:a9u P fs) {ex:List Nat->a1a->q8->k4->Option Out} (hex:b5T P ex):a4m P (a2j fs ex):=by
 intro f args s d s' h;unfold a2j at h;split at h
 ·simp at h
 ·rename_i vf hvf
  obtain ⟨fn,md,iR,kF,hcf⟩:=iT f vf hvf;unfold a6e at hcf;split at hcf
  ·simp at hcf
  ·rename_i c hbody
   split at hcf
   ·rename_i vc rs Ai ly
    split at hcf
    ·simp at hcf
    ·rename_i jK
     simp at hcf;have hvc2:vf.code=vc:=by rw [<- hcf]
     have hrs2:vf.res=rs:=by rw [<- hcf]
     have done:∀e gQ s1,ex vf.vars vf.code (vf.vars.map fun t=>(t,args.getD t .undef)) s=some (e,gQ,s1)->(e=.normal∨e=.ret)->(a04 gQ s1 vf.res).map (fun d=>(d,s1))=some (d,s') ->
      s.next<=s'.next/\(∃fn,P.funcs[f]?=some fn/\fn.body.isSome=true/\(fn.name=="runtime.NumGoroutine")=false) /\
      ∀μ Φ w vs,Y4 μ Φ s.get w->RL μ Φ args vs->a5a μ s.next s'.next ->
       Calls P f vs.toArray w fun e w'=>∃v μ' Φ',e=.returned v/\Y4 μ' Φ' s'.get w'/\R μ' Φ' d v/\br μ Φ s.get w μ' Φ' s'.get w' s.next s'.next:=by
      intro e gQ s1 hx pA gN;obtain ⟨d',AU,e1⟩:=map_some gN;cases e1;rw [hvc2] at hx;rw [hrs2] at AU;obtain ⟨g1,g2⟩:=hex md fn.ntmps iR vf.vars c vc _ s e gQ s' Ai hx;refine ⟨g1,⟨fn,kF,by rw [hbody];rfl,by simpa using jK⟩,?_⟩;intro μ Φ w vs hs hr gY;refine calls_of_wp kF hbody ?_;refine g2 μ Φ _ w _ ⟨c4u hr _ vf.vars,by simp;omega,rfl⟩ hs gY ?_;intro a' w' μ' Φ' q1 q2 q3;obtain ⟨v,r1,r2⟩:=c3y q1.env q2 ly AU;rcases pA with rfl | rfl
      ·exact ⟨q1.defers,v,r1,v,μ',Φ',rfl,q2,r2,q3⟩
      ·exact ⟨q1.defers,v,r1,v,μ',Φ',rfl,q2,r2,q3⟩
     split at h
     ·rename_i gQ s1 hx
      exact done .normal gQ s1 hx (.inl rfl) h
     ·rename_i gQ s1 hx
      exact done .ret gQ s1 hx (.inr rfl) h
     ·simp at h
   ·simp at hcf
def b8a (P:Program) (fs:FuncId->Option U3) (n:Nat):Prop:=∀ (md:FuncId->a1Q) (N:Nat) (iR:gC) (vars:List Nat) (code:Code) (vc:a1a) (env:q8) (s:k4) (e:a1n) (gQ:q8) (s':k4),
 a5W P md N iR code=some vc->a0a fs n vars (.loop vc) env s=some (e,gQ,s')->s.next<=s'.next /\
 ∃k,∀ (μ:Mu) (Φ:W0) (a:Act) (w:World) (Q:Exit->Act->World->Prop),fH N μ Φ env a->Y4 μ Φ s.get w->a5a μ s.next s'.next->a7i N μ Φ s w gQ s' (Q (b0p e))->Code.rounds P code Q k a w
theorem c0I (iT:a9u P fs) (mN:P.follows .mixedOrders=true):∀n,b5T P (a0a fs n)/\b8a P fs n:=by
 intro n;induction n with
 | zero=>exact ⟨fun _ _ _ _ _ _ _ _ _ _ _ _ h=>by simp [a0a] at h,fun _ _ _ _ _ _ _ _ _ _ _ _ h=>by simp [a0a] at h⟩
 | succ n ih =>
   obtain ⟨qQ,ih2⟩:=ih;have tu:b8a P fs (n+1):=by
    intro md N iR vars code vc env s e gQ s' hc h;simp only [a0a] at h;split at h
    ·rename_i env1 s1 h1
     obtain ⟨g1,g2⟩:=qQ md N iR vars code vc env s .normal env1 s1 hc h1;obtain ⟨g3,k,g4⟩:=ih2 md N iR vars code vc env1 s1 e gQ s' hc h;refine ⟨by omega,k+1,?_⟩;intro μ Φ a w Q hf hs gY hQ;rw [rounds_succ];refine g2 μ Φ a w _ hf hs (fun id q1 q2=>gY id q1 (by omega)) ?_;intro a1 w1 μ1 Φ1 q1 q2 q3;refine g4 μ1 Φ1 a1 w1 Q q1 q2 (fun id r1 r2=>by rw [q3.bI id (.inr r1)];exact gY id (by omega) r2) ?_;intro a2 w2 μ2 Φ2 r1 r2 r3;exact hQ a2 w2 μ2 Φ2 r1 r2 (q3.trans g1 g3 r3)
    ·rename_i iw
     obtain ⟨g1,g2⟩:=qQ md N iR vars code vc env s e gQ s' hc h;refine ⟨g1,1,?_⟩;intro μ Φ a w Q hf hs gY hQ;rw [rounds_succ];refine g2 μ Φ a w _ hf hs gY ?_;intro a1 w1 μ1 Φ1 q1 q2 q3;have:=hQ a1 w1 μ1 Φ1 q1 q2 q3;cases e with
     | normal=>exact absurd h (iw gQ s')
     | exit id=>exact this
     | ret=>exact this
   refine ⟨?_,tu⟩;intro md N iR vars code vc env s e gQ s' hc h;cases code<;>simp only [a5W] at hc
   case skip =>
    cases hc;simp only [a0a] at h;cases h;exact ⟨Nat.le_refl _,fun μ Φ a w Q hf hs _ hQ=>wp_skip (hQ a w μ Φ hf hs (br.refl _ _ _ _ _))⟩
   case region id ops draw =>
    obtain ⟨r,hr,e1⟩:=map_some hc;cases e1;simp only [a0a] at h;split at h
    ·rename_i env1 s1 h1
     cases h;obtain ⟨g1,g2⟩:=c2t (b4N iT qQ) mN hr h1;refine ⟨g1,fun μ Φ a w Q hf hs gY hQ=>g2 μ Φ a w Q hf hs gY ?_⟩;intro a1 w1 μ1 Φ1 q1 q2 q3;exact hQ a1 w1 μ1 Φ1 (q1.aF vars) q2 q3
    ·simp at h
   case seq x y =>
    split at hc
    ·rename_i vx vy hx hy
     cases hc;simp only [a0a] at h;split at h
     ·rename_i env1 s1 h1
      obtain ⟨g1,g2⟩:=qQ md N iR vars x vx env s .normal env1 s1 hx h1;obtain ⟨g3,g4⟩:=qQ md N iR vars y vy env1 s1 e gQ s' hy h;refine ⟨by omega,?_⟩;intro μ Φ a w Q hf hs gY hQ;refine wp_seq (g2 μ Φ a w _ hf hs (fun id q1 q2=>gY id q1 (by omega)) ?_);intro a1 w1 μ1 Φ1 q1 q2 q3;refine g4 μ1 Φ1 a1 w1 Q q1 q2 (fun id r1 r2=>by rw [q3.bI id (.inr r1)];exact gY id (by omega) r2) ?_;intro a2 w2 μ2 Φ2 r1 r2 r3;exact hQ a2 w2 μ2 Φ2 r1 r2 (q3.trans g1 g3 r3)
     ·rename_i iw
      obtain ⟨g1,g2⟩:=qQ md N iR vars x vx env s e gQ s' hx h;refine ⟨g1,?_⟩;intro μ Φ a w Q hf hs gY hQ;refine wp_seq (g2 μ Φ a w _ hf hs gY ?_);intro a1 w1 μ1 Φ1 q1 q2 q3;have:=hQ a1 w1 μ1 Φ1 q1 q2 q3;cases e with
      | normal=>exact absurd h (iw gQ s')
      | exit id=>exact this
      | ret=>exact this
    ·simp at hc
   case cond c x y =>
    split at hc
    ·rename_i vc' vx vy sE hx hy
     cases hc;simp only [a0a] at h;split at h
     ·rename_i ht
      obtain ⟨g1,g2⟩:=qQ md N iR vars x vx env s e gQ s' hx h;refine ⟨g1,fun μ Φ a w Q hf hs gY hQ=>?_⟩;have hr:=a0q hf.env sE;rw [ht] at hr;simp only [R] at hr;exact wp_cond_true hr (g2 μ Φ a w Q hf hs gY hQ)
     ·rename_i ht
      obtain ⟨g1,g2⟩:=qQ md N iR vars y vy env s e gQ s' hy h;refine ⟨g1,fun μ Φ a w Q hf hs gY hQ=>?_⟩;have hr:=a0q hf.env sE;rw [ht] at hr;simp only [R] at hr;exact wp_cond_false hr (g2 μ Φ a w Q hf hs gY hQ)
     ·simp at h
    ·simp at hc
   case block id b =>
    obtain ⟨vb,hb,e1⟩:=map_some hc;cases e1;simp only [a0a] at h;split at h
    ·rename_i iA env1 s1 h1
     obtain ⟨g1,g2⟩:=qQ md N iR vars b vb env s (.exit iA) env1 s1 hb h1;split at h
     ·rename_i gX
      cases h;refine ⟨g1,fun μ Φ a w Q hf hs gY hQ=>wp_block (g2 μ Φ a w _ hf hs gY ?_)⟩;intro a1 w1 μ1 Φ1 q1 q2 q3;have:=hQ a1 w1 μ1 Φ1 q1 q2 q3;simp only [b0p,Exit.inBlock,gX,if_true];exact this
     ·rename_i gX
      cases h;refine ⟨g1,fun μ Φ a w Q hf hs gY hQ=>wp_block (g2 μ Φ a w _ hf hs gY ?_)⟩;intro a1 w1 μ1 Φ1 q1 q2 q3;have:=hQ a1 w1 μ1 Φ1 q1 q2 q3;simp only [b0p,Exit.inBlock,gX,if_false];exact this
    ·rename_i iw
     obtain ⟨g1,g2⟩:=qQ md N iR vars b vb env s e gQ s' hb h;refine ⟨g1,fun μ Φ a w Q hf hs gY hQ=>wp_block (g2 μ Φ a w _ hf hs gY ?_)⟩;intro a1 w1 μ1 Φ1 q1 q2 q3;have:=hQ a1 w1 μ1 Φ1 q1 q2 q3;cases e with
     | normal=>exact this
     | exit iA=>exact absurd h (iw iA gQ s')
     | ret=>exact this
   case loop b =>
    obtain ⟨vb,hb,e1⟩:=map_some hc;cases e1;obtain ⟨g1,k,g2⟩:=tu md N iR vars b vb env s e gQ s' hb h;exact ⟨g1,fun μ Φ a w Q hf hs gY hQ=>wp_loop_rounds k (g2 μ Φ a w Q hf hs gY hQ)⟩
   case exit id =>
    cases hc;simp only [a0a] at h;cases h;exact ⟨Nat.le_refl _,fun μ Φ a w Q hf hs _ hQ=>wp_exit (hQ a w μ Φ hf hs (br.refl _ _ _ _ _))⟩
   case ret =>
    cases hc;simp only [a0a] at h;cases h;exact ⟨Nat.le_refl _,fun μ Φ a w Q hf hs _ hQ=>wp_ret (hQ a w μ Φ hf hs (br.refl _ _ _ _ _))⟩
   all_goals (cases hc;done)
theorem c44 (iT:a9u P fs) (mN:P.follows .mixedOrders=true) {n f:Nat} {args:List D} {d:D} {s':k4} (h:a7W fs n f args k4.empty=some (d,s')) {w:World} {vs:List Value} (hr:aV (fun b=>w.heap[b]?) args vs) :
 Calls P f vs.toArray w fun e w'=>∃v μ' Φ',e=.returned v/\R μ' Φ' d v/\RowKit.Below w.heap.size w w':=by
 obtain ⟨_,_,h2⟩:=b4N iT (c0I iT mN n).1 f args k4.empty d s' h;refine (h2 (fun _=>none) (fun b=>w.heap[b]?) w vs (b2r fun _ _ e=>e) (aO _ _ hr) (fun _ _ _=>rfl)).mono ?_;rintro e w' ⟨v,μ',Φ',rfl,q1,q2,q3⟩;exact ⟨v,μ',Φ',rfl,q2,q3.os,q3.tape,q3.output,q3.size,fun k hk=>q3.aF k hk (b3A k)⟩
end
end Go.V
namespace Go.V
inductive Ty where
 | bool
 | int (k:IntKind)
 | str
 | slice (sz:Nat) (e:Ty)
 | struct (fs:List Ty)
 | arr (n:Nat) (e:Ty)
mutual
def a1s:Ty->List D->Prop
 | .bool,cs=>∃b,cs=[.bool b]
 | .int k,cs=>∃n,cs=[.int k n]/\(Lit.int k n).wf=true
 | .str,cs=>∃s:ByteArray,cs=[.str s]/\s.size<=maxLen
 | .slice sz e,cs=>cs=[.ag]∨∃xs,cs=[.bg sz xs]/\xs.length<=maxLen/\∀x∈xs,a1s e x
 | .struct fs,cs=>eA fs cs
 | .arr n e,cs=>∃gs:List (List D),gs.length=n/\cs=gs.flatten/\∀g∈gs,a1s e g
def eA:List Ty->List D->Prop
 | [],cs=>cs=[]
 | t::ts,cs=>∃a b,cs=a++b/\a1s t a/\eA ts b
end
mutual
def a3a (P:Program):Ty->TypeId->Bool
 | .bool,t=>match P.underlying t with | some .bool=>true | _=>false
 | .int k,t=>match P.underlying t with | some (.int k')=>decide (k=k') | _=>false
 | .str,t=>match P.underlying t with | some .string=>true | _=>false
 | .slice sz e,t=>match P.underlying t with | some (.slice u)=>decide (P.cellsOf u=sz)&&decide (0<sz)&&a3a P e u | _=>false
 | .struct fs,t=>match P.underlying t with | some (.struct gs)=>bF P fs 0 gs.toList (P.cellsOf t) | _=>false
 | .arr n e,t=>match P.underlying t with | some (.array m u)=>decide (m=n)&&decide (P.cellsOf t=n*P.cellsOf u)&&a3a P e u | _=>false
def bF (P:Program):List Ty->Nat->List Field->Nat->Bool
 | [],off,[],n=>decide (off=n)
 | y::ys,off,f::fs,n=>decide (f.offset=off)&&a3a P y f.type&&bF P ys (off+P.cellsOf f.type) fs n
 | _,_,_,_=>false
end
section
variable {H:Type} {enc:TypeId×Value->H} {P:Program} {W:World} {sp:Nat->Bool} {held:Bool}
theorem b1s {α β:Type} {f:α->Option β}:∀ {l:List α} {r:List β},l.mapM f=some r->r.length=l.length/\∀ (i:Nat) x,l[i]?=some x->∃y,r[i]?=some y/\f x=some y
 | [],r,h=>by simp at h;subst h;simp
 | a::l,r,h=>by
   rw [List.mapM_cons] at h;cases ha:f a with
   | none=>simp [ha] at h
   | some y =>
     cases hl:l.mapM f with
     | none=>simp [ha,hl] at h
     | some ys =>
       simp [ha,hl] at h;subst h;obtain ⟨h1,h2⟩:=b1s hl;refine ⟨by simp [h1],fun i x hi=>?_⟩;cases i with
       | zero=>simp at hi;subst hi;exact ⟨y,by simp,ha⟩
       | succ i=>simpa using h2 i x (by simpa using hi)
theorem b8g:∀ {ds:List D} {cs:List Value} {b o:Nat},aV (fun b=>W.heap[b]?) ds cs->ds.all V1=true->(∀i u,cs[i]?=some u->W.cell? ⟨b,o+i,none⟩=some u)->RC (fun b=>W.heap[b]?) ds b o
 | [],_,_,_,_,_,_=>by simp only [RC]
 | d::ds,cs,b,o,h,ho,hc=>by
   simp only [aV] at h;obtain ⟨u,us,rfl,h1,h2⟩:=h;simp only [RC];simp only [List.all_cons,Bool.and_eq_true] at ho;refine ⟨⟨ho.1,u,?_,h1⟩,b8g h2 ho.2 fun i x hi=>?_⟩
   ·have:=hc 0 u (by simp)
    simp only [World.cell?,Nat.add_zero] at this;simp only [W0.cell];revert this;cases W.heap[b]? with
    | none=>simp
    | some ob=>cases ob<;>simp
   ·have:=hc (i+1) x (by simpa using hi)
    rw [Nat.add_assoc,Nat.add_comm 1 i];exact this
theorem b9m:∀ (sz:Nat) (xs:List (List D)) (b o:Nat),(∀i x,xs[i]?=some x->x.length=sz/\RC (fun b=>W.heap[b]?) x b (o+i*sz))->RG (fun b=>W.heap[b]?) sz xs b o
 | _,[],_,_,_=>by simp only [RG]
 | sz,x::xs,b,o,h=>by
   simp only [RG];obtain ⟨h1,h2⟩:=h 0 x (by simp);refine ⟨h1,by simpa using h2,b9m sz xs b (o+sz) fun i y hi=>?_⟩;obtain ⟨h3,h4⟩:=h (i+1) y (by simpa using hi);refine ⟨h3,?_⟩;have:o+(i+1)*sz=o+sz+i*sz:=by rw [Nat.add_mul];omega
   rwa [this] at h4
theorem b63 {Φ:W0}:∀ {ds:List D} {vs:List Value},aV Φ ds vs->vs.length=ds.length
 | [],vs,h=>by simp only [aV] at h;subst h;rfl
 | d::ds,vs,h=>by
   simp only [aV] at h;obtain ⟨u,us,rfl,_,h2⟩:=h;simp [b63 h2]
theorem b2F {Φ:W0}:∀ {ds es:List D} {vs us:List Value},aV Φ ds vs->aV Φ es us->aV Φ (ds++es) (vs++us)
 | [],es,vs,us,h,k=>by simp only [aV] at h;subst h;simpa using k
 | d::ds,es,vs,us,h,k=>by
   simp only [aV] at h;obtain ⟨u,tW,rfl,h1,h2⟩:=h;simp only [List.cons_append,aV];exact ⟨u,tW++us,rfl,h1,b2F h2 k⟩
theorem c5A {a:Addr} {n:Nat} {cs:List Value} (h:W.cells? 0 a n=some cs):cs.length=n/\∀i u,cs[i]?=some u->W.cell? (a.add i)=some u:=by
 simp only [World.cells?,Nat.zero_le,if_true] at h;obtain ⟨h1,h2⟩:=b1s h;refine ⟨by simpa using h1,fun i u hi=>?_⟩;have iC:i<n:=by
  have:=(List.getElem?_eq_some_iff.1 hi).1;simp at h1;omega
 obtain ⟨y,h3,h4⟩:=h2 i i (by simp [iC]);rw [hi] at h3;cases h3;exact h4
theorem b8H {α β:Type} {Q:α->β->Prop}:∀ (l:List α),(∀ (i:Nat) x,l[i]?=some x->∃y,Q x y)->∃r:List β,r.length=l.length/\∀ (i:Nat) x y,l[i]?=some x->r[i]?=some y->Q x y
 | [],_=>⟨[],rfl,by simp⟩
 | a::l,h=>by
   obtain ⟨y,hy⟩:=h 0 a (by simp);obtain ⟨r,h1,h2⟩:=b8H l fun i x hi=>h (i+1) x (by simpa using hi)
   refine ⟨y::r,by simp [h1],fun i x z hx hz=>?_⟩;cases i with
   | zero=>simp at hx hz;subst hx;subst hz;exact hy
   | succ i=>exact h2 i x z (by simpa using hx) (by simpa using hz)
theorem a8g {Φ:W0} {d:D} {v:Value} (h:RP Φ d v):aV Φ [d] [v]:=by
 simp only [aV];exact ⟨v,[],rfl,h,rfl⟩
mutual
theorem a97:∀ (ty:Ty) (fuel:Nat) (t:TypeId) (cs:List Value) (x:DataW H×List MemPlace),a3a P ty t=true->DataW.trod enc P W 0 (fun _=>true) held fuel t cs=some x ->
 ∃ds,aV (fun b=>W.heap[b]?) ds cs/\ds.all V1=true/\a1s ty ds
 | _,0,t,cs,x,_,h=>by simp [DataW.trod] at h
 | .bool,fuel+1,t,cs,x,hk,h=>by
   simp only [a3a] at hk;split at hk
   case h_2=>cases hk
   rename_i hu;unfold DataW.trod at h;rw [hu] at h;split at h<;>simp_all
   rename_i b;exact ⟨[.bool b],a8g (by simp only [RP]),by simp [V1],by simp [a1s]⟩
 | .int k,fuel+1,t,cs,x,hk,h=>by
   simp only [a3a] at hk;split at hk
   case h_2=>cases hk
   rename_i k' hu;have ju:k=k':=by simpa using hk
   subst ju;unfold DataW.trod at h;rw [hu] at h;split at h<;>simp_all
   rename_i kk nn hh;obtain ⟨⟨h1,h2⟩,_⟩:=h;subst h1;exact ⟨[.int kk nn],a8g (by simp only [RP]),by simp [V1],by simp only [a1s];exact ⟨nn,rfl,h2⟩⟩
 | .str,fuel+1,t,cs,x,hk,h=>by
   simp only [a3a] at hk;split at hk
   case h_2=>cases hk
   rename_i hu;unfold DataW.trod at h;rw [hu] at h;split at h<;>simp_all
   rename_i s;exact ⟨[.str s],a8g (by simp only [RP]),by simp [V1],by simp only [a1s];exact ⟨s,rfl,h.1⟩⟩
 | .slice sz e,fuel+1,t,cs,x,hk,h=>by
   simp only [a3a] at hk;split at hk
   case h_2=>cases hk
   rename_i u hu;simp only [Bool.and_eq_true,decide_eq_true_eq] at hk;obtain ⟨⟨jt,ru⟩,hk⟩:=hk;unfold DataW.trod at h;rw [hu] at h;split at h<;>(try (simp_all;done))
   ·exact ⟨[.ag],a8g (by simp only [RP]),by simp [V1],by simp [a1s]⟩
   ·rename_i e' a len cap hue
    cases hue;dsimp only at h
    split at h
    case isFalse=>cases h
    rename_i hc;obtain ⟨_,jM,hcap⟩:=hc;cases hm:(List.range len).mapM (fun i=>(W.cells? 0 (a.add (i*P.cellsOf u)) (P.cellsOf u)).bind (DataW.trod enc P W 0 (fun _=>true) held fuel u)) with
    | none=>rw [hm] at h;cases h
    | some els =>
      obtain ⟨yo,uU⟩:=b1s hm;have key:∀ (i:Nat) k,(List.range len)[i]?=some k->∃ds:List D,ds.length=sz/\(∀ (j:Nat),j<sz->∃v,W.cell? ((a.add (k*sz)).add j)=some v)/\ds.all V1=true/\a1s e ds /\
       ∃cc,aV (fun b=>W.heap[b]?) ds cc/\∀ (j:Nat) v,cc[j]?=some v->W.cell? ((a.add (k*sz)).add j)=some v:=by
       intro i k hi;obtain ⟨y,_,hy⟩:=uU i k hi;cases sE:W.cells? 0 (a.add (k*P.cellsOf u)) (P.cellsOf u) with
       | none=>simp [sE] at hy
       | some cc =>
         simp only [sE,Option.bind_some] at hy;obtain ⟨ds,h1,h2,h3⟩:=a97 e fuel u cc y hk hy;obtain ⟨h4,h5⟩:=c5A sE;rw [jt] at h4 h5;refine ⟨ds,by rw [<- b63 h1];exact h4,fun j hj=>⟨cc[j],h5 j _ (List.getElem?_eq_getElem (by omega))⟩,h2,h3,cc,h1,h5⟩
      obtain ⟨r,jo,hr2⟩:=b8H (List.range len) key;have nX:r.length=len:=by simpa using jo
      have xR:∀ (i:Nat) ds,r[i]?=some ds->_:=fun i ds hi=>hr2 i i ds (List.getElem?_range (by have:=(List.getElem?_eq_some_iff.1 hi).1;omega)) hi
      obtain ⟨b,o,spot⟩:=a;by_cases hz:len=0
      ·subst hz
       have:r=[]:=List.eq_nil_of_length_eq_zero nX;subst this;refine ⟨[.bg sz []],a8g ?_,by simp [V1],?_⟩
       ·simp only [RP]
        exact ⟨b,o,cap,spot,by simp,by simp,.inr trivial,by simp only [RG]⟩
       ·simp only [a1s]
        exact .inr ⟨[],rfl,by simp,by simp⟩
      ·have hspot:spot=none:=by
        obtain ⟨ds,hd⟩:∃ds,r[0]?=some ds:=⟨r[0],List.getElem?_eq_getElem (by omega)⟩
        obtain ⟨_,h2,_⟩:=xR 0 ds hd;obtain ⟨v,hv⟩:=h2 0 (by omega);simpa [Addr.add] using World.cell?_spot hv
       subst hspot;refine ⟨[.bg sz r],a8g ?_,by simp [V1],?_⟩
       ·simp only [RP]
        refine ⟨b,o,cap,none,by rw [nX],by omega,.inl rfl,b9m sz r b o fun i ds hi=>?_⟩;obtain ⟨h1,_,h3,_,cc,h4,h5⟩:=xR i ds hi;refine ⟨h1,b8g h4 h3 fun j v hj=>?_⟩;have:=h5 j v hj;simpa [a42] using this
       ·simp only [a1s]
        refine .inr ⟨r,rfl,by omega,fun ds hd=>?_⟩;obtain ⟨i,hi⟩:=List.getElem?_of_mem hd;exact (xR i ds hi).2.2.2.1
 | .struct fs,fuel+1,t,cs,x,hk,h=>by
   simp only [a3a] at hk;split at hk
   case h_2=>cases hk
   rename_i gs hu;unfold DataW.trod at h;rw [hu] at h;split at h<;>(try (simp_all;done))
   rename_i cs _ _ gs' hue;have sh:gs'=gs:=by simpa using hue.symm
   rw [sh] at h;split at h
   case isFalse=>cases h
   rename_i hl;cases hm:gs.toList.mapM (fun f=>DataW.trod enc P W 0 (fun _=>true) held fuel f.type ((cs.drop f.offset).take (P.cellsOf f.type))) with
   | none=>rw [hm] at h;cases h
   | some xs =>
     simp only [a1s];have:=eT fs fuel 0 gs.toList (P.cellsOf t) cs xs hk hl hm;simpa using this
 | .arr n e,fuel+1,t,cs,x,hk,h=>by
   simp only [a3a] at hk;split at hk
   case h_2=>cases hk
   rename_i m u hu;simp only [Bool.and_eq_true,decide_eq_true_eq] at hk;obtain ⟨⟨rfl,jt⟩,hk⟩:=hk;unfold DataW.trod at h;rw [hu] at h;split at h<;>(try (simp_all;done))
   rename_i cs _ _ n' e' hue;have sh:n'=m/\e'=u:=by simp at hue;exact ⟨hue.1.symm,hue.2.symm⟩
   rw [sh.1,sh.2] at h;split at h
   case isFalse=>cases h
   rename_i hl;cases hm:(List.range m).mapM (fun i=>DataW.trod enc P W 0 (fun _=>true) held fuel u ((cs.drop (i*P.cellsOf u)).take (P.cellsOf u))) with
   | none=>rw [hm] at h;cases h
   | some xs =>
     obtain ⟨yo,uU⟩:=b1s hm;have key:∀k,k<=m->∃gs:List (List D),gs.length=k/\aV (fun b=>W.heap[b]?) gs.flatten (cs.drop ((m-k)*P.cellsOf u))/\gs.flatten.all V1=true/\∀g∈gs,a1s e g:=by
      intro k;induction k with
      | zero =>
        intro _;refine ⟨[],rfl,?_,by simp,by simp⟩;have:cs.drop (m*P.cellsOf u)=[]:=List.drop_eq_nil_of_le (by omega);simp [this,aV]
      | succ k ih =>
        intro As;obtain ⟨gs,h1,h2,h3,h4⟩:=ih (by omega);obtain ⟨y,_,hy⟩:=uU (m-(k+1)) (m-(k+1)) (List.getElem?_range (by omega));obtain ⟨ds,d1,d2,d3⟩:=a97 e fuel u _ y hk hy;refine ⟨ds::gs,by simp [h1],?_,?_,?_⟩
        ·have e1:cs.drop ((m-(k+1))*P.cellsOf u)=(cs.drop ((m-(k+1))*P.cellsOf u)).take (P.cellsOf u)++cs.drop ((m-k)*P.cellsOf u):=by
          have:(m-k)*P.cellsOf u=(m-(k+1))*P.cellsOf u+P.cellsOf u:=by
           have:m-k=(m-(k+1))+1:=by omega
           rw [this,Nat.add_mul];omega
          rw [this,<- List.drop_drop,List.take_append_drop]
         rw [e1,List.flatten_cons];exact b2F d1 h2
        ·rw [List.flatten_cons,List.all_append,d2,h3];rfl
        ·intro g hg
         rcases List.mem_cons.1 hg with rfl | hg
         ·exact d3
         ·exact h4 g hg
     obtain ⟨gs,h1,h2,h3,h4⟩:=key m (Nat.le_refl _);simp only [a1s];exact ⟨gs.flatten,by simpa using h2,h3,gs,h1,rfl,h4⟩
theorem eT:∀ (ys:List Ty) (fuel off:Nat) (fs:List Field) (n:Nat) (cs:List Value) (xs:List (DataW H×List MemPlace)),bF P ys off fs n=true->cs.length=n ->
 fs.mapM (fun f=>DataW.trod enc P W 0 (fun _=>true) held fuel f.type ((cs.drop f.offset).take (P.cellsOf f.type)))=some xs ->
 ∃ds,aV (fun b=>W.heap[b]?) ds (cs.drop off)/\ds.all V1=true/\eA ys ds
 | [],fuel,off,fs,n,cs,xs,hk,hl,h=>by
   cases fs with
   | cons f fs=>simp [bF] at hk
   | nil =>
     simp only [bF,decide_eq_true_eq] at hk;refine ⟨[],?_,by simp,by simp [eA]⟩;have:cs.drop off=[]:=List.drop_eq_nil_of_le (by omega);simp [this,aV]
 | y::ys,fuel,off,fs,n,cs,xs,hk,hl,h=>by
   cases fs with
   | nil=>simp [bF] at hk
   | cons f fs =>
     simp only [bF,Bool.and_eq_true,decide_eq_true_eq] at hk;obtain ⟨⟨h1,h2⟩,h3⟩:=hk;rw [List.mapM_cons] at h;cases ha:DataW.trod enc P W 0 (fun _=>true) held fuel f.type ((cs.drop f.offset).take (P.cellsOf f.type)) with
     | none=>simp [ha] at h
     | some z =>
       cases hr:fs.mapM (fun f=>DataW.trod enc P W 0 (fun _=>true) held fuel f.type ((cs.drop f.offset).take (P.cellsOf f.type))) with
       | none=>simp [ha,hr] at h
       | some zs =>
         obtain ⟨ds,d1,d2,d3⟩:=a97 y fuel f.type _ z h2 ha;obtain ⟨es,e1,e2,e3⟩:=eT ys fuel _ fs n cs zs h3 hl hr;refine ⟨ds++es,?_,by rw [List.all_append,d2,e2];rfl,by simp only [eA];exact ⟨ds,es,rfl,d3,e3⟩⟩;have:=b2F d1 e1;rw [h1,<- List.drop_drop,List.take_append_drop] at this;exact this
end
def b0w:Ty->D->Prop
 | .struct fs,d=>∃ds,d=.agg ds/\a1s (.struct fs) ds
 | .arr n e,d=>∃ds,d=.agg ds/\a1s (.arr n e) ds
 | ty,d=>a1s ty [d]
def a74:List Ty->List D->Prop
 | [],xs=>xs=[]
 | y::ys,xs=>∃d ds,xs=d::ds/\b0w y d/\a74 ys ds
theorem c08 {Φ:W0} {ds:List D} {v:Value} (h:aV Φ ds [v]):∃d,ds=[d]/\RP Φ d v:=by
 cases ds with
 | nil=>simp [aV] at h
 | cons d ds =>
   simp only [aV] at h;obtain ⟨u,us,e,h1,h2⟩:=h;cases e;cases ds with
   | nil=>exact ⟨d,rfl,h1⟩
   | cons d' ds=>simp [aV] at h2
open Go.WideShapes in
theorem c45 {ty:Ty} {t:TypeId} {v:Value} {d:DataW H} {ps:List MemPlace} {base:Nat} (hk:a3a P ty t=true) (lE:Value.okWide P W .any base t v)
 (h:DataW.Trod enc P W 0 (fun _=>true) held t v d ps):∃x,RP (fun b=>W.heap[b]?) x v/\b0w ty x:=by
 have hT:=h;obtain ⟨fuel,hf⟩:=h;obtain ⟨ds,h1,h2,h3⟩:=a97 ty fuel t _ _ hk hf;have one:v.cells=#[v]->∃x,RP (fun b=>W.heap[b]?) x v/\a1s ty [x]:=by
  intro e;rw [e] at h1;obtain ⟨x,e2,h4⟩:=c08 h1;subst e2;exact ⟨x,h4,h3⟩
 have many:∀cs,v=.agg cs->∃x,RP (fun b=>W.heap[b]?) x v/\∃ds,x=.agg ds/\a1s ty ds:=by
  intro cs e;subst e;simp only [Value.cells] at h1;refine ⟨.agg ds,?_,ds,rfl,h3⟩;simp only [RP];exact ⟨cs.toList,rfl,h1⟩
 cases ty with
 | bool =>
   simp only [a3a] at hk;split at hk
   case h_2=>cases hk
   rename_i hu;refine one ?_;obtain ⟨b,rfl,_⟩:=RowKit.open_bool hu lE hT;rfl
 | int k =>
   simp only [a3a] at hk;split at hk
   case h_2=>cases hk
   rename_i hu;refine one ?_;obtain ⟨b,rfl⟩:=okWide_int hu lE;rfl
 | str =>
   simp only [a3a] at hk;split at hk
   case h_2=>cases hk
   rename_i hu;refine one ?_;obtain ⟨b,rfl⟩:=okWide_string hu lE;rfl
 | slice sz e =>
   simp only [a3a] at hk;split at hk
   case h_2=>cases hk
   rename_i hu;refine one ?_;obtain ⟨a,l,c,rfl⟩:=okWide_slice hu lE;rfl
 | struct fs =>
   simp only [a3a] at hk;split at hk
   case h_2=>cases hk
   rename_i hu;simp only [Value.okWide,hu] at lE;obtain ⟨cs,e,_⟩:=lE;exact many cs e
 | arr n e =>
   simp only [a3a] at hk;split at hk
   case h_2=>cases hk
   rename_i hu;simp only [Value.okWide,hu] at lE;obtain ⟨cs,e,_⟩:=lE;exact many cs e
def a8m (P:Program):List Ty->List TypeId->Bool
 | [],[]=>true
 | y::ys,t::ts=>a3a P y t&&a8m P ys ts
 | _,_=>false
theorem b6r {base:Nat}:∀ {ud:List Ty} {ts:List TypeId} {vs:List Value} {ds:List (DataW H)} {ps:List MemPlace},a8m P ud ts=true ->
 (∀ (j:Nat) t v,ts[j]?=some t->vs[j]?=some v->Value.okWide P W .any base t v)->DataW.TrodAll enc P W 0 (fun _=>true) held ts vs ds ps ->
 ds.length=ud.length/\∃xs,aV (fun b=>W.heap[b]?) xs vs/\a74 ud xs
 | [],[],vs,ds,ps,_,_,h=>by
   obtain ⟨rfl,rfl,rfl⟩:=ChangeShapes.trodAll_nil h;exact ⟨rfl,[],by simp only [aV],by simp only [a74]⟩
 | [],_::_,_,_,_,hk,_,_=>by simp [a8m] at hk
 | _::_,[],_,_,_,hk,_,_=>by simp [a8m] at hk
 | y::ys,t::ts,vs,ds,ps,hk,hv,h=>by
   simp only [a8m,Bool.and_eq_true] at hk;obtain ⟨v,tW,d,AH,p,q,rfl,rfl,rfl,h1,h2⟩:=ChangeShapes.trodAll_cons h;obtain ⟨x,x1,x2⟩:=c45 hk.1 (hv 0 t v rfl rfl) h1;obtain ⟨hl,xs,x3,x4⟩:=b6r hk.2 (fun j u w hj hw=>hv (j+1) u w (by simpa using hj) (by simpa using hw)) h2;refine ⟨by simp [hl],x::xs,?_,?_⟩
   ·simp only [aV];exact ⟨v,tW,rfl,x1,x3⟩
   ·simp only [a74];exact ⟨x,xs,rfl,x2,x4⟩
theorem b6H (hl:laidOutB P=true) {W':World} (hb:RowKit.Below W.heap.size W W'):∀ {ts:List TypeId} {vs:List Value} {ds:List (DataW H)} {ps:List MemPlace},
 ts.all (fun t=>P.readableRec t&&decide (t<P.types.size))=true->DataW.TrodAll enc P W 0 (fun _=>true) true ts vs ds ps ->
 DataW.TrodAll enc P W' 0 (fun b=>decide (b<W.heap.size)) true ts vs ds ps
 | [],vs,ds,ps,_,h=>by
   obtain ⟨rfl,rfl,rfl⟩:=ChangeShapes.trodAll_nil h;exact ChangeShapes.trodAll_mk0
 | t::ts,vs,ds,ps,hr,h=>by
   simp only [List.all_cons,Bool.and_eq_true,decide_eq_true_eq] at hr;obtain ⟨v,tW,d,AH,p,q,rfl,rfl,rfl,h1,h2⟩:=ChangeShapes.trodAll_cons h;refine ⟨p,q,?_,b6H hl hb hr.2 h2,rfl⟩;have lt:∀x∈p,x.block<W.heap.size:=by obtain ⟨m,hm⟩:=h1;exact DataW.trod_lt m _ _ _ hm
   exact RowKit.Below.trod hl hr.1.1 hr.1.2 h1 hb lt
theorem lifted {C:Checked} {os:Os} {f:FuncId} {fn:Func} {s:ChangeSpec} {conds:List PathCond} {fs:Nat->Option U3} {tb:TypeId}
 (own:ownKnob C.prog.godebug=none) (started:os.Started) (noInit:C.prog.inits.idxOf? f=none) (kF:C.prog.funcs[f]?=some fn)
 (witness:∃ (w:World) (tape:Tape) (i:Input),w.os=os/\(w.forCall tape i).Shaped C.prog/\i.vars=[]/\Input.okWide C.prog (w.forCall tape i) .any w.heap.size f i /\
  s.pre6 enc C.prog fn conds false (w.forCall tape i).memory i.args/\({}:Assume).holds C.prog (lone (Frame.enter C.prog f i.args .normal) [] (w.forCall tape i)))
 (laid:laidOutB C.prog=true) (sY:s.vars=[]) (ud:List Ty) (htys:a8m C.prog ud fn.params.toList=true)
 (hread:fn.params.toList.all (fun t=>C.prog.readableRec t&&decide (t<C.prog.types.size))=true)
 (gN:fn.resultTypes=#[tb]) (AF:C.prog.underlying tb=some .bool)
 (pW:∀ds:List (DataW H),ds.length=ud.length->s.fn H ds={ results:=[.lit (.bool true)],args:=ds })
 (iT:a9u C.prog fs) (law:∀xs,a74 ud xs->∃n s',a7W fs n f xs k4.empty=some (.bool true,s')) :
 ReturnsInHanded {} C os f .any (s.pre6 enc C.prog fn conds false) (s.post enc C.prog fn false true false false):=by
 refine returnsInHanded_of_change own started noInit kF witness ?_;intro W base args ds gs before lE hW nH _;have hW':=hW;obtain ⟨p,q,hA,hV,rfl,hfz,nj⟩:=hW;rw [sY] at hV;obtain ⟨rfl,rfl⟩:=ChangeShapes.trodVars_none hV;obtain ⟨hlen,xs,x1,x2⟩:=b6r htys (fun j t v hj hv=>lE j t v (by simpa using hj) (by simpa using hv)) hA;obtain ⟨n,s',hn⟩:=law xs x2;have:=c44 iT C.mixed hn x1;refine this.mono ?_;rintro e W' ⟨v,μ',Φ',rfl,hv,BT⟩;simp only [R] at hv;subst hv;refine ⟨_,rfl,ds,[],_,[],p,[],hW',?_,?_,?_,BT.frame _,fun h=>by cases h⟩
 ·rw [List.append_nil,pW ds hlen,gN]
  exact ChangeShapes.trodAll_mk1 (RowKit.shut_bool AF _)
 ·rw [List.append_nil,pW ds hlen]
  exact b6H laid BT hread hA
 ·rw [sY,List.append_nil,pW ds hlen]
  rfl
end
end Go.V
namespace Go.V
section
def a09.le (C C':a09):Prop:=∀f a s r,C f a s=some r->C' f a s=some r
theorem c2K {C C':a09} (h:C.le C') {md f args s r} (e:a2U C md f args s=some r):a2U C' md f args s=some r:=by
 unfold a2U at *;split at e
 ·split at e
  ·exact h _ _ _ _ e
  ·split at e
   ·cases e
   ·rename_i kn ha
    split at e
    ·cases e
    ·rename_i r' s1 hc
     simp only [ha,h _ _ _ _ hc];exact e
 ·cases e
theorem c3A {C C':a09} (h:C.le C') {env s o r} (e:bZ C env s o=some r):bZ C' env s o=some r:=by
 cases o<;>simp only [bZ] at*<;>first | exact c2K h e | exact e
theorem b9A {C C':a09} (h:C.le C') {env s o r} (e:a0i C env s o=some r):a0i C' env s o=some r:=by
 cases o<;>simp only [a0i] at*<;>first | exact c3A h e | exact e
theorem a94 {C C':a09} (h:C.le C') {ae}:∀ {ops tr env s r},a01 C ae ops tr env s=some r->a01 C' ae ops tr env s=some r
 | [],tr,env,s,r,e=>by simpa only [a01] using e
 | (i,o)::rest,tr,env,s,r,e=>by
   simp only [a01] at e ⊢;split at e
   ·cases e
   ·rename_i hw
    try simp only [hw]
    exact a94 h e
   ·rename_i hw
    try simp only [hw]
    split at e
    ·cases e
    ·rename_i d s' hr
     simp only [b9A h hr];split at e
     ·rename_i hp
      rw [if_pos hp];exact a94 h e
     ·cases e
theorem a9q {fs} {ex ex':List Nat->a1a->q8->k4->Option Out} (h:∀v c e s r,ex v c e s=some r->ex' v c e s=some r):a09.le (a2j fs ex) (a2j fs ex'):=by
 intro f a s r e;unfold a2j at *;split at e
 ·cases e
 ·rename_i vf hf
  try simp only [hf]
  split at e
  ·rename_i gQ s' hx
   rw [h _ _ _ _ _ hx];exact e
  ·rename_i gQ s' hx
   rw [h _ _ _ _ _ hx];exact e
  ·cases e
theorem c4o {fs}:∀n v c e s r,a0a fs n v c e s=some r->a0a fs (n+1) v c e s=some r:=by
 intro n;induction n with
 | zero=>intro v c e s r h;simp [a0a] at h
 | succ n ih =>
   intro v c e s r h;cases c with
   | skip=>simpa only [a0a] using h
   | region rg =>
     rw [a0a] at h ⊢;split at h
     ·rename_i e' s' hr
      rw [a94 (a9q ih) hr];exact h
     ·cases h
   | seq a b =>
     rw [a0a] at h ⊢;split at h
     ·rename_i e' s' ha
      rw [ih _ _ _ _ _ ha];exact ih _ _ _ _ _ h
     ·rename_i iw
      rw [ih _ _ _ _ _ h];split
      ·rename_i e' s' hr
       cases hr;exact absurd h (iw _ _)
      ·rfl
   | cond c x y =>
     rw [a0a] at h ⊢;split at h
     ·rename_i hc;exact ih _ _ _ _ _ h
     ·rename_i hc;exact ih _ _ _ _ _ h
     ·cases h
   | block id b =>
     rw [a0a] at h ⊢;split at h
     ·rename_i iA e' s' hb
      rw [ih _ _ _ _ _ hb];exact h
     ·rename_i iw
      rw [ih _ _ _ _ _ h];split
      ·rename_i iA e' s' hr
       cases hr;exact absurd h (iw _ _ _)
      ·rfl
   | loop b =>
     rw [a0a] at h ⊢;split at h
     ·rename_i e' s' ha
      rw [ih _ _ _ _ _ ha];exact ih _ _ _ _ _ h
     ·rename_i iw
      rw [ih _ _ _ _ _ h];split
      ·rename_i e' s' hr
       cases hr;exact absurd h (iw _ _)
      ·rfl
   | exit id=>simpa only [a0a] using h
   | ret=>simpa only [a0a] using h
theorem a6K {fs} {n m:Nat} (qZ:n<=m) {v c e s r} (h:a0a fs n v c e s=some r):a0a fs m v c e s=some r:=by
 induction qZ with
 | refl=>exact h
 | step _ ih=>exact c4o _ _ _ _ _ _ ih
variable {fs:FuncId->Option U3}
def Ev (fs:FuncId->Option U3) (f:FuncId) (args:List D) (s:k4) (d:D) (s':k4):Prop:=∃n,a7W fs n f args s=some (d,s')
def WP (fs:FuncId->Option U3) (vars:List Nat) (c:a1a) (env:q8) (s:k4) (Q:a1n->q8->k4->Prop):Prop:=∃n e gQ s',a0a fs n vars c env s=some (e,gQ,s')/\Q e gQ s'
def WO (fs:FuncId->Option U3) (ae:List (Nat×Nat)) (ops:List (Nat×Z3)) (tr:List Tr) (env:q8) (s:k4) (Q:q8->k4->Prop):Prop :=
 ∃n gQ s',a01 (a2j fs (a0a fs n)) ae ops tr env s=some (gQ,s')/\Q gQ s'
theorem b5R {vars env s Q} (h:Q .normal env s):WP fs vars .skip env s Q:=⟨1,_,_,_,rfl,h⟩
theorem b6s {vars env s id} {Q:a1n->q8->k4->Prop} (h:Q (.exit id) env s):WP fs vars (.exit id) env s Q:=⟨1,_,_,_,rfl,h⟩
theorem b6L {vars env s} {Q:a1n->q8->k4->Prop} (h:Q .ret env s):WP fs vars .ret env s Q:=⟨1,_,_,_,rfl,h⟩
theorem b3H {vars r env s Q} (h:WO fs r.ae r.ops [] env s fun gQ s'=>Q .normal (gQ.aF vars) s'):WP fs vars (.region r) env s Q:=by
 obtain ⟨n,gQ,s',h1,h2⟩:=h;exact ⟨n+1,_,_,_,by rw [a0a,h1],h2⟩
def a2x (fs:FuncId->Option U3) (vars:List Nat) (b:a1a) (Q:a1n->q8->k4->Prop):a1n->q8->k4->Prop
 | .normal,env,s=>WP fs vars b env s Q
 | e,env,s=>Q e env s
theorem b8u {vars a b env s Q} (h:WP fs vars a env s (a2x fs vars b Q)):WP fs vars (.seq a b) env s Q:=by
 obtain ⟨n,e,gQ,s',h1,h2⟩:=h;cases e with
 | normal =>
   obtain ⟨m,e2,env2,s2,h3,h4⟩:=h2;exact ⟨max n m+1,e2,env2,s2,by rw [a0a,a6K (Nat.le_max_left n m) h1];exact a6K (Nat.le_max_right n m) h3,h4⟩
 | exit id=>exact ⟨n+1,_,_,_,by rw [a0a,h1],h2⟩
 | ret=>exact ⟨n+1,_,_,_,by rw [a0a,h1],h2⟩
theorem c3R {vars c x y env s Q} (b:Bool) (hc:env.ev c=.bool b) (h:WP fs vars (if b then x else y) env s Q):WP fs vars (.cond c x y) env s Q:=by
 obtain ⟨n,e,gQ,s',h1,h2⟩:=h;refine ⟨n+1,e,gQ,s',?_,h2⟩;rw [a0a,hc];cases b<;>simpa using h1
def a0j (id:Nat) (Q:a1n->q8->k4->Prop):a1n->q8->k4->Prop
 | .exit iA,env,s=>if iA=id then Q .normal env s else Q (.exit iA) env s
 | e,env,s=>Q e env s
theorem b54 {vars id b env s Q} (h:WP fs vars b env s (a0j id Q)):WP fs vars (.block id b) env s Q:=by
 obtain ⟨n,e,gQ,s',h1,h2⟩:=h;cases e with
 | normal=>exact ⟨n+1,_,_,_,by rw [a0a,h1],h2⟩
 | ret=>exact ⟨n+1,_,_,_,by rw [a0a,h1],h2⟩
 | exit i =>
   simp only [a0j] at h2;by_cases hi:i=id
   ·rw [if_pos hi] at h2
    exact ⟨n+1,_,_,_,by rw [a0a,h1];simp only [hi,if_true],h2⟩
   ·rw [if_neg hi] at h2
    exact ⟨n+1,_,_,_,by rw [a0a,h1];simp only [hi,if_false],h2⟩
theorem b23 {vars b env s Q} (h:WP fs vars b env s (a2x fs vars (.loop b) Q)):WP fs vars (.loop b) env s Q:=by
 obtain ⟨n,e,gQ,s',h1,h2⟩:=h;cases e with
 | normal =>
   obtain ⟨m,e2,env2,s2,h3,h4⟩:=h2;exact ⟨max n m+1,e2,env2,s2,by rw [a0a,a6K (Nat.le_max_left n m) h1];exact a6K (Nat.le_max_right n m) h3,h4⟩
 | exit id=>exact ⟨n+1,_,_,_,by rw [a0a,h1],h2⟩
 | ret=>exact ⟨n+1,_,_,_,by rw [a0a,h1],h2⟩
theorem WP.mono {vars c env s} {Q Q':a1n->q8->k4->Prop} (h:WP fs vars c env s Q) (hq:∀e gQ s',Q e gQ s'->Q' e gQ s'):WP fs vars c env s Q':=by
 obtain ⟨n,e,gQ,s',h1,h2⟩:=h;exact ⟨n,e,gQ,s',h1,hq _ _ _ h2⟩
theorem a1c {vars b Q} (I:Nat->q8->k4->Prop) (step:∀n env s,I n env s->WP fs vars b env s fun e gQ s'=>match e with
 | .normal=>∃m,m<n/\I m gQ s'
 | e=>Q e gQ s'):∀n env s,I n env s->WP fs vars (.loop b) env s Q:=by
 intro n;induction n using Nat.strongRecOn with
 | _ n ih =>
   intro env s h;refine b23 ((step n env s h).mono fun e gQ s' hq=>?_);cases e with
   | normal=>obtain ⟨m,hm,hi⟩:=hq;exact ih m hm gQ s' hi
   | exit id=>exact hq
   | ret=>exact hq
theorem b9v {ae tr env s Q} (h:Q env s):WO fs ae [] tr env s Q:=⟨0,_,_,rfl,h⟩
theorem b9z {ae i o rest tr env s Q} (hw:a2c env o.guard=some false) (h:WO fs ae rest tr (env.put o.dst (.aR [])) s Q):WO fs ae ((i,o)::rest) tr env s Q:=by
 obtain ⟨n,gQ,s',h1,h2⟩:=h;exact ⟨n,gQ,s',by simp only [a01,hw];exact h1,h2⟩
def a6a (tr:List Tr):Prop:=∀t∈tr,t.pre=t.post
theorem b7q (s:k4) (r:Option Nat):a1N s s r=true:=by
 cases r with
 | none=>rfl
 | some id=>simp only [a1N];exact a9S _
theorem a7o {ae:List (Nat×Nat)} {j:Tr} (hj:j.pre=j.post):∀ {tr:List Tr},a6a tr->a1q ae j tr=true
 | [],_=>rfl
 | i::r,h=>by
   have hi:=h i (by simp);simp only [a1q,hj,hi,b7q,Bool.and_true,ite_self,Bool.true_and];exact a7o hj fun t ht=>h t (by simp [ht])
theorem b0v {j:Tr}:∀ {tr:List Tr},a1q [] j tr=true
 | []=>rfl
 | i::r=>by simp only [a1q,List.contains_nil,Bool.false_eq_true,if_false,Bool.true_and];exact b0v
theorem a7L:a6a []:=by simp [a6a]
theorem c04 {ae:List (Nat×Nat)} {tr:List Tr} {t:Tr} (h:a6a tr) (ht:t.pre=t.post):a6a (if ae.isEmpty then tr else t::tr):=by
 split
 ·exact h
 ·intro x hx
  rcases List.mem_cons.1 hx with rfl | hx
  ·exact ht
  ·exact h x hx
def WQ (fs:FuncId->Option U3) (ae:List (Nat×Nat)) (ops:List (Nat×Z3)) (env:q8) (s:k4) (Q:q8->k4->Prop):Prop:=∀tr,a6a tr->WO fs ae ops tr env s Q
theorem b9G {vars r env s Q} (h:WQ fs r.ae r.ops env s fun gQ s'=>Q .normal (gQ.aF vars) s'):WP fs vars (.region r) env s Q:=b3H (h [] a7L)
theorem b5Y {ae env s Q} (h:Q env s):WQ fs ae [] env s Q:=fun _ _=>b9v h
theorem b5E {ae i o rest env s Q} (hw:a2c env o.guard=some false) (h:WQ fs ae rest (env.put o.dst (.aR [])) s Q):WQ fs ae ((i,o)::rest) env s Q :=
 fun tr ht=>b9z hw (h tr ht)
theorem a4i {ae i o rest tr env s Q} (hw:a2c env o.guard=some true) {d s'} (m:Nat) (hr:a0i (a2j fs (a0a fs m)) env s o.op=some (d,s')) (hp:a1q ae ⟨i,a1p env o.op,s,s'⟩ tr=true)
 (h:WO fs ae rest (if ae.isEmpty then tr else ⟨i,a1p env o.op,s,s'⟩::tr) (env.put o.dst d) s' Q):WO fs ae ((i,o)::rest) tr env s Q:=by
 obtain ⟨n,gQ,s2,h1,h2⟩:=h;have m1:a09.le (a2j fs (a0a fs m)) (a2j fs (a0a fs (max m n))):=a9q fun v c e s r h=>a6K (Nat.le_max_left m n) h
 have m2:a09.le (a2j fs (a0a fs n)) (a2j fs (a0a fs (max m n))):=a9q fun v c e s r h=>a6K (Nat.le_max_right m n) h
 refine ⟨max m n,gQ,s2,?_,h2⟩;simp only [a01,hw,b9A m1 hr,hp,if_true];exact a94 m2 h1
theorem b0U {ae i o rest env s Q} (hw:a2c env o.guard=some true) {d} (m:Nat) (hr:a0i (a2j fs (a0a fs m)) env s o.op=some (d,s))
 (h:WQ fs ae rest (env.put o.dst d) s Q):WQ fs ae ((i,o)::rest) env s Q :=
 fun tr ht=>a4i hw m hr (a7o rfl ht) (h _ (c04 ht rfl))
theorem b5k {vars ops ae dr env s Q} (h:WQ fs ae ops env s fun gQ s'=>Q .normal (gQ.aF vars) s'):WP fs vars (.region ⟨ops,ae,dr⟩) env s Q:=b9G h
theorem b0h {ae i t o rest s Q} {env:q8} {d:D} (hr:bH env o=some d) (h:WQ fs ae rest ((t,d)::env) s Q):WQ fs ae ((i,⟨some t,.p o,none⟩)::rest) env s Q :=
 b0U rfl 0 (by simp only [a0i,hr,Option.map_some]) h
theorem vq_r {ae i t o rest s Q} {env:q8} {d:D} (hr:cO env s.get o=some d) (h:WQ fs ae rest ((t,d)::env) s Q):WQ fs ae ((i,⟨some t,.r o,none⟩)::rest) env s Q :=
 b0U rfl 0 (by simp only [a0i,hr,Option.map_some]) h
theorem vq_yes {ae i t o r b rest s Q} {env:q8} (hw:env.get r=.bool b) (h:WQ fs ae ((i,⟨t,o,none⟩)::rest) env s Q):WQ fs ae ((i,⟨t,o,some (r,b)⟩)::rest) env s Q:=by
 intro tr ht;obtain ⟨n,gQ,s',h1,h2⟩:=h tr ht;refine ⟨n,gQ,s',?_,h2⟩;simp only [a01,a2c,hw,beq_self_eq_true] at h1 ⊢;exact h1
theorem vq_not {ae i t o r b rest s Q} {env:q8} (hw:env.get r=.bool (!b)) (h:WQ fs ae rest (env.put t (.aR [])) s Q):WQ fs ae ((i,⟨t,o,some (r,b)⟩)::rest) env s Q :=
 b5E (by simp only [a2c,hw];cases b<;>rfl) h
theorem vq_tup {ae i t o r b rest s Q} {env:q8} (hw:env.get r=.aR []) (h:WQ fs ae rest (env.put t (.aR [])) s Q):WQ fs ae ((i,⟨t,o,some (r,b)⟩)::rest) env s Q :=
 b5E (by simp only [a2c,hw]) h
theorem c1O {ae i t f args rest s Q} {env:q8} {d:D} (hr:Ev fs f (env.aP args) s d s)
 (h:WQ fs ae rest ((t,d)::env) s Q):WQ fs ae ((i,⟨some t,.m (.call .raw (.aG (.fn f [])) args),none⟩)::rest) env s Q:=by
 obtain ⟨n,hn⟩:=hr;exact b0U rfl n (by simp only [a0i,bZ,a2U,q8.ev,List.append_nil];exact hn) h
theorem b7W {ae i t f args rest s Q} {env:q8} {kn:List D} {d r:D} {s1:k4} (ha:X2 (aL s.get 20) (env.aP args)=some kn)
 (hr:Ev fs f kn k4.empty r s1) (hi:aL s1.get 20 r=some d) (hs:(a2d d||aJ (env.aP args))=true)
 (h:WQ fs ae rest ((t,d)::env) s Q):WQ fs ae ((i,⟨some t,.m (.call .fF (.aG (.fn f [])) args),none⟩)::rest) env s Q:=by
 obtain ⟨n,hn⟩:=hr;refine b0U rfl n ?_ h;have jH:a2j fs (a0a fs n) f kn k4.empty=some (r,s1):=hn;simp only [a0i,bZ,a2U,q8.ev,List.append_nil,ha,jH,hi,hs,if_true]
theorem vq_a {i t o rest s Q} {env:q8} {ob:Y1} {m:a0f} (hr:dW env o=some (ob,m)) (h:WQ fs [] rest ((t,m.at s.next)::env) (s.push ob) Q):WQ fs [] ((i,⟨some t,.a o,none⟩)::rest) env s Q:=by
 intro tr ht;refine a4i rfl 0 (d:=m.at s.next) (s':=s.push ob) (by simp only [a0i,hr]) ?_ (h tr ht);exact b0v
theorem a91 {i n a v rest s Q} {env:q8} {id:Nat} {ob:Y1} (hr:dh env s.get n a v=some (id,ob)) (h:WQ fs [] rest env (s.set id (some ob)) Q):WQ fs [] ((i,⟨none,.w n a v,none⟩)::rest) env s Q:=by
 intro tr ht;refine a4i rfl 0 (d:=.aR []) (s':=s.set id (some ob)) (by simp only [a0i,hr]) ?_ (h tr ht);exact b0v
theorem b0d {i t o rest s Q} {env:q8} {d:D} {s':k4} (hr:∃n,bZ (a2j fs (a0a fs n)) env s o=some (d,s')) (h:WQ fs [] rest ((t,d)::env) s' Q):WQ fs [] ((i,⟨some t,.m o,none⟩)::rest) env s Q:=by
 intro tr ht;obtain ⟨n,hn⟩:=hr;refine a4i rfl n (d:=d) (s':=s') (by simp only [a0i,hn]) ?_ (h tr ht);exact b0v
theorem b9L {i t f args rest s Q} {env:q8} {d:D} {s':k4} (hr:Ev fs f (env.aP args) s d s')
 (h:WQ fs [] rest ((t,d)::env) s' Q):WQ fs [] ((i,⟨some t,.m (.call .raw (.aG (.fn f [])) args),none⟩)::rest) env s Q:=by
 obtain ⟨n,hn⟩:=hr;exact b0d ⟨n,by simp only [bZ,a2U,q8.ev,List.append_nil];exact hn⟩ h
theorem b3d {i t sz bytes a x rest s Q} {env:q8} {d:D} {s':k4} (hr:Z6 sz bytes (env.ev a) (env.ev x) s=some (d,s'))
 (h:WQ fs [] rest ((t,d)::env) s' Q):WQ fs [] ((i,⟨some t,.m (.append sz bytes a x),none⟩)::rest) env s Q :=
 b0d ⟨0,by simp only [bZ];exact hr⟩ h
theorem b2v {i t sz bytes a x rest s Q} {env:q8} {da dx d:D} {s':k4} (ha:env.ev a=da) (hx:env.ev x=dx) (hr:Z6 sz bytes da dx s=some (d,s'))
 (h:WQ fs [] rest ((t,d)::env) s' Q):WQ fs [] ((i,⟨some t,.m (.append sz bytes a x),none⟩)::rest) env s Q :=
 b3d (by rw [ha,hx];exact hr) h
theorem c2l {ae i t f args rest s Q} {env:q8} {l:List D} {d:D} (ha:env.aP args=l) (hr:Ev fs f l s d s)
 (h:WQ fs ae rest ((t,d)::env) s Q):WQ fs ae ((i,⟨some t,.m (.call .raw (.aG (.fn f [])) args),none⟩)::rest) env s Q:=c1O (ha▸hr) h
theorem a5z {ae i t f args rest s Q} {env:q8} {l l':List D} {d r:D} {s1:k4} (hl:env.aP args=l) (ha:X2 (aL s.get 20) l=some l')
 (hr:Ev fs f l' k4.empty r s1) (hi:aL s1.get 20 r=some d) (hs:(a2d d||aJ l)=true)
 (h:WQ fs ae rest ((t,d)::env) s Q):WQ fs ae ((i,⟨some t,.m (.call .fF (.aG (.fn f [])) args),none⟩)::rest) env s Q :=
 b7W (hl▸ha) hr hi (hl▸hs) h
def Way (d:D) (b:Bool) (A B:Prop):Prop:=match d with
 | .bool c=>if c=b then A else B
 | .aR []=>B
 | _=>False
theorem vq_g {ae i t o r b rest s Q} {env:q8} {d:D} (hw:env.get r=d)
 (h:Way d b (WQ fs ae ((i,⟨t,o,none⟩)::rest) env s Q) (WQ fs ae rest (env.put t (.aR [])) s Q)):WQ fs ae ((i,⟨t,o,some (r,b)⟩)::rest) env s Q:=by
 unfold Way at h;split at h
 ·rename_i c
  by_cases hc:c=b
  ·rw [if_pos hc] at h;subst hc;exact vq_yes hw h
  ·rw [if_neg hc] at h
   exact vq_not (by rw [hw];congr 1;cases c<;>cases b<;>simp_all) h
 ·exact vq_tup hw h
 ·exact h.elim
def a4O (d:D) (A B:Prop):Prop:=match d with
 | .bool c=>if c then A else B
 | _=>False
theorem wayc_f {A B:Prop} (h:B):a4O (.bool false) A B:=by
 show if false=true then A else B
 rw [if_neg (by simp)];exact h
theorem b5K {vars c x y env s Q} {d:D} (hc:env.ev c=d) (h:a4O d (WP fs vars x env s Q) (WP fs vars y env s Q)):WP fs vars (.cond c x y) env s Q:=by
 unfold a4O at h;split at h
 ·rename_i b
  refine c3R b hc ?_;cases b<;>exact h
 ·exact h.elim
theorem b6d {ae:List (Nat×Nat)} {j:Tr} (hp:(ae.all fun p=>p.2 != j.idx)=true):∀ {tr:List Tr},a1q ae j tr=true
 | []=>rfl
 | i::r=>by
   have hc:ae.contains (i.idx,j.idx)=false:=by
    rw [Bool.eq_false_iff];intro h;rw [List.contains_iff_mem] at h;rw [List.all_eq_true] at hp;have:=hp _ h;simp at this
   simp only [a1q,hc,Bool.false_eq_true,if_false,Bool.true_and];exact b6d hp
theorem a67 {C:a09} {ae:List (Nat×Nat)}:∀ {ops:List (Nat×Z3)} {tr tr':List Tr} {env:q8} {s:k4} {r:q8×k4},(ops.all fun o=>ae.all fun p=>p.2 != o.1)=true ->
 a01 C [] ops tr' env s=some r->a01 C ae ops tr env s=some r
 | [],_,_,_,_,_,_,e=>by simpa only [a01] using e
 | (i,o)::rest,tr,tr',env,s,r,hp,e=>by
   simp only [List.all_cons,Bool.and_eq_true] at hp;simp only [a01] at e ⊢;split at e
   ·cases e
   ·rename_i hw
    try simp only [hw]
    exact a67 hp.2 e
   ·rename_i hw
    try simp only [hw]
    split at e
    ·cases e
    ·rename_i d s' hr
     try simp only [hr]
     split at e
     ·rw [if_pos (b6d hp.1)]
      exact a67 hp.2 e
     ·cases e
theorem c0N {ae ops env s Q} (hp:(ops.all fun o=>ae.all fun p=>p.2 != o.1)=true) (h:WQ fs [] ops env s Q):WQ fs ae ops env s Q:=by
 intro tr _;obtain ⟨n,gQ,s',h1,h2⟩:=h [] a7L;exact ⟨n,gQ,s',a67 hp h1,h2⟩
theorem b1v {p ae ops env s Q} (hp:(ops.all fun o=>(p::ae).all fun p=>p.2 != o.1)=true) (h:WQ fs [] ops env s Q):WQ fs (p::ae) ops env s Q:=c0N hp h
theorem b0B {f:FuncId} {vf:U3} {args:List D} {s s':k4} {d:D} (hf:fs f=some vf) (h:WP fs vf.vars vf.code (vf.vars.map fun t=>(t,args.getD t .undef)) s fun e env s2=>(e=.normal∨e=.ret)/\s2=s'/\a04 env s2 vf.res=some d):Ev fs f args s d s':=by
 obtain ⟨n,e,env,s2,h1,he,rfl,h2⟩:=h;refine ⟨n,?_⟩;unfold a7W a2j;rw [hf];simp only [h1];rcases he with rfl | rfl<;>simp only [h2,Option.map_some]
def X9 (fs:FuncId->Option U3) (f:FuncId) (args:List D) (s:k4) (P:D->k4->Prop):Prop:=∃d s',Ev fs f args s d s'/\P d s'
theorem V9 {f:FuncId} {vf:U3} {args:List D} {s:k4} {P:D->k4->Prop} (hf:fs f=some vf) (h:WP fs vf.vars vf.code (vf.vars.map fun t=>(t,args.getD t .undef)) s fun e env s2=>(e=.normal∨e=.ret)/\∃d,a04 env s2 vf.res=some d/\P d s2):X9 fs f args s P:=by
 obtain ⟨n,e,env,s2,h1,he,d,h2,h3⟩:=h;exact ⟨d,s2,b0B hf ⟨n,e,env,s2,h1,he,rfl,h2⟩,h3⟩
theorem a03 {i t f args rest s Q} {env:q8} {l:List D} {P:D->k4->Prop} (hr:X9 fs f l s P) (ha:env.aP args=l)
 (h:∀d s',P d s'->WQ fs [] rest ((t,d)::env) s' Q):WQ fs [] ((i,⟨some t,.m (.call .raw (.aG (.fn f [])) args),none⟩)::rest) env s Q:=by
 subst ha;obtain ⟨d,s',h1,h2⟩:=hr;exact b9L h1 (h d s' h2)
theorem X9.mono {f args s} {P P':D->k4->Prop} (h:X9 fs f args s P) (hp:∀d s',P d s'->P' d s'):X9 fs f args s P':=by
 obtain ⟨d,s',h1,h2⟩:=h;exact ⟨d,s',h1,hp _ _ h2⟩
theorem Ev.det {f args s d s' d2 s2} (h:Ev fs f args s d s') (k:Ev fs f args s d2 s2):d=d2/\s'=s2:=by
 obtain ⟨n,hn⟩:=h;obtain ⟨m,hm⟩:=k;have a1:=a9q (fs:=fs) (fun v c e s r h=>a6K (Nat.le_max_left n m) h) _ _ _ _ hn;have a2:=a9q (fs:=fs) (fun v c e s r h=>a6K (Nat.le_max_right n m) h) _ _ _ _ hm;rw [a1] at a2;cases a2;exact ⟨rfl,rfl⟩
end
section
def bk (g:a0k) (n:Option Nat):D->Option D
 | .ptr id off=>match g id with
   | some (.cells cs)=>a2J n off cs
   | _=>none
 | .fp cs off=>a2J n off cs
 | _=>none
theorem a8C {env:q8} {g:a0k} {n:Option Nat} {x:X7}:cO env g (.load n x)=bk g n (env.ev x):=by
 simp only [cO];cases env.ev x<;>rfl
theorem ld_ptr {g:a0k} {n:Option Nat} {id off:Nat}:bk g n (.ptr id off)=(match g id with | some (.cells cs)=>a2J n off cs | _=>none):=rfl
theorem ld_fp {g:a0k} {n:Option Nat} {off:Nat} {cs:List D}:bk g n (.fp cs off)=a2J n off cs:=rfl
theorem c0z {k:IntKind} {n:Int}:V1 (.int k n)=true:=rfl
theorem c4P {k:IntKind} {n:Int}:cellsOf (.int k n)=[.int k n]:=rfl
theorem c3x {b:Bool}:V1 (.bool b)=true:=rfl
theorem c4J {b:Bool}:cellsOf (.bool b)=[.bool b]:=rfl
theorem b99 {t:ByteArray}:V1 (.str t)=true:=rfl
theorem b90 {t:ByteArray}:cellsOf (.str t)=[.str t]:=rfl
theorem c4f:V1 .bf=true:=rfl
theorem c1m:cellsOf .bf=[.bf]:=rfl
theorem c3P {i:Nat} {o:Nat}:V1 (.ptr i o)=true:=rfl
theorem c46 {i:Nat} {o:Nat}:cellsOf (.ptr i o)=[.ptr i o]:=rfl
theorem one_fp {l:List D} {o:Nat}:V1 (.fp l o)=true:=rfl
theorem c2U {l:List D} {o:Nat}:cellsOf (.fp l o)=[.fp l o]:=rfl
theorem c14:V1 .ag=true:=rfl
theorem c4Y:cellsOf .ag=[.ag]:=rfl
theorem c4F {ll:List (List D)} {o:Nat}:V1 (.bg o ll)=true:=rfl
theorem c4m {ll:List (List D)} {o:Nat}:cellsOf (.bg o ll)=[.bg o ll]:=rfl
theorem b9F {i:Nat} {o:Nat} {p:Nat} {q:Nat}:V1 (.arr i o p q)=true:=rfl
theorem c2D {i:Nat} {o:Nat} {p:Nat} {q:Nat}:cellsOf (.arr i o p q)=[.arr i o p q]:=rfl
theorem one_fn {f:FuncId} {l:List D}:V1 (.fn f l)=true:=rfl
theorem b9H {f:FuncId} {l:List D}:cellsOf (.fn f l)=[.fn f l]:=rfl
theorem c4Q:V1 .bx=true:=rfl
theorem c1s:cellsOf .bx=[.bx]:=rfl
theorem c3Q:V1 .bz=true:=rfl
theorem c0C:cellsOf .bz=[.bz]:=rfl
theorem c3o {i:Nat}:V1 (.map i)=true:=rfl
theorem c1h {i:Nat}:cellsOf (.map i)=[.map i]:=rfl
theorem c1N {l:List D}:V1 (.agg l)=false:=rfl
theorem c3v {l:List D}:cellsOf (.agg l)=l:=rfl
theorem b7J {d:D} (h:V1 d=true):cellsOf d=[d]:=by cases d<;>first | rfl | (simp [V1] at h)
theorem c4y:a0C false .ag=some (.int .i64 0):=rfl
theorem b9D {o:Nat} {ll:List (List D)}:a0C false (.bg o ll)=some (.int .i64 (ll.length:Int)):=rfl
theorem c0q {i o p q:Nat}:a0C false (.arr i o p q)=some (.int .i64 (p:Int)):=rfl
theorem b9P {t:ByteArray}:a0C true (.str t)=some (.int .i64 (t.size:Int)):=rfl
theorem nil_0:a31 .p .bf=some true:=rfl
theorem nil_1 {i o:Nat}:a31 .p (.ptr i o)=some false:=rfl
theorem nil_2 {l:List D} {o:Nat}:a31 .p (.fp l o)=some false:=rfl
theorem nil_3:a31 .s .ag=some true:=rfl
theorem nil_4 {o:Nat} {ll:List (List D)}:a31 .s (.bg o ll)=some false:=rfl
theorem nil_5 {i o p q:Nat}:a31 .s (.arr i o p q)=some false:=rfl
theorem nil_6:a31 .m .bz=some true:=rfl
theorem nil_7 {i:Nat}:a31 .m (.map i)=some false:=rfl
theorem nil_8:a31 .f .bx=some true:=rfl
theorem nil_9 {f:FuncId} {l:List D}:a31 .f (.fn f l)=some false:=rfl
theorem mm_min {k k':IntKind} {a b:Int}:a6j false (.int k a) [.int k' b]=some (.int k (min a b)):=by
 simp only [a6j];congr 2;simp only [Bool.false_eq_true,if_false];split<;>omega
theorem mm_max {k k':IntKind} {a b:Int}:a6j true (.int k a) [.int k' b]=some (.int k (max a b)):=by
 simp only [a6j];congr 2;simp only [if_true];split<;>omega
theorem c0B {a b:Nat}:((a:Int)==(b:Int))=decide (a=b):=by rw [Bool.eq_iff_iff];simp only [beq_iff_eq,decide_eq_true_eq];omega
theorem c5s {a:Nat}:((a:Int)==0)=decide (a=0):=by rw [Bool.eq_iff_iff];simp only [beq_iff_eq,decide_eq_true_eq];omega
theorem c0Z {a:Nat}:((a:Int)==1)=decide (a=1):=by rw [Bool.eq_iff_iff];simp only [beq_iff_eq,decide_eq_true_eq];omega
theorem c2Y {i o p q z:Nat} {k:IntKind} {n:Int} (h0:q=z) (h1:0<=n) (h2:n<p):W1 z (.arr i o p q) (.int k n)=some (.ptr i (o+n.toNat*z)):=by
 simp only [W1];rw [if_pos ⟨h0,h1,h2⟩]
def andI (k:IntKind) (x y:Int):Int:=(BitVec.ofInt k.bits x &&& BitVec.ofInt k.bits y).toNat
def orI (k:IntKind) (x y:Int):Int:=(BitVec.ofInt k.bits x ||| BitVec.ofInt k.bits y).toNat
def xorI (k:IntKind) (x y:Int):Int:=(BitVec.ofInt k.bits x ^^^ BitVec.ofInt k.bits y).toNat
def clrI (k:IntKind) (x y:Int):Int:=(BitVec.ofInt k.bits x &&& ~~~ BitVec.ofInt k.bits y).toNat
theorem bi_add {k:IntKind} {x y:Int}:a3f .add k x y=some (.int k (k.wrap (x+y))):=rfl
theorem bi_sub {k:IntKind} {x y:Int}:a3f .sub k x y=some (.int k (k.wrap (x-y))):=rfl
theorem bi_mul {k:IntKind} {x y:Int}:a3f .mul k x y=some (.int k (k.wrap (x*y))):=rfl
theorem bi_quo {k:IntKind} {x y:Int}:a3f .quo k x y=if y=0 then none else some (.int k (k.wrap (x.tdiv y))):=rfl
theorem bi_rem {k:IntKind} {x y:Int}:a3f .rem k x y=if y=0 then none else some (.int k (x.tmod y)):=rfl
theorem bi_and {k:IntKind} {x y:Int}:a3f .and k x y=some (.int k (k.wrap (andI k x y))):=rfl
theorem bi_or {k:IntKind} {x y:Int}:a3f .or k x y=some (.int k (k.wrap (orI k x y))):=rfl
theorem bi_xor {k:IntKind} {x y:Int}:a3f .xor k x y=some (.int k (k.wrap (xorI k x y))):=rfl
theorem bi_clr {k:IntKind} {x y:Int}:a3f .andNot k x y=some (.int k (k.wrap (clrI k x y))):=rfl
theorem bi_eql {k:IntKind} {x y:Int}:a3f .eql k x y=some (.bool (x==y)):=rfl
theorem bi_neq {k:IntKind} {x y:Int}:a3f .neq k x y=some (.bool (x != y)):=rfl
theorem bi_lss {k:IntKind} {x y:Int}:a3f .lss k x y=some (.bool (x<y)):=rfl
theorem bi_leq {k:IntKind} {x y:Int}:a3f .leq k x y=some (.bool (x<=y)):=rfl
theorem bi_gtr {k:IntKind} {x y:Int}:a3f .gtr k x y=some (.bool (x>y)):=rfl
theorem bi_geq {k:IntKind} {x y:Int}:a3f .geq k x y=some (.bool (x >= y)):=rfl
attribute [go_sem] bH a8C cO.eq_2 cO.eq_3 ld_ptr a9M ld_fp c0z c4P c3x c4J b99 b90 c4f c1m c3P c46 one_fp c2U c14 c4Y c4F c4m b9F c2D one_fn b9H c4Q c1s c3Q c0C c3o c1h c1N c3v b7J c4y b9D c0q b9P nil_0 nil_1 nil_2 nil_3 nil_4 nil_5 nil_6 nil_7 nil_8 nil_9 dW dh q8.aP q8.evO b1h bi_add bi_sub bi_mul bi_quo bi_rem bi_and bi_or bi_xor bi_clr bi_eql bi_neq bi_lss bi_leq bi_gtr bi_geq unV a2J c2Y a25 a13 mm_min mm_max c0B c5s c0Z a2c a4r a43 a2Q a0f.at Option.map_some Option.map List.getElem?_cons_zero List.getElem?_cons_succ List.getElem?_nil List.all_cons List.all_nil List.length_cons List.length_nil List.take List.drop List.map List.append List.cons_append List.nil_append List.append_nil Nat.zero_add Nat.add_zero Nat.zero_mul Nat.mul_one Int.toNat_natCast decide_true decide_false Bool.not_true Bool.not_false Bool.and_true Bool.true_and Bool.and_self and_self and_true true_and Bool.false_eq_true ge_iff_le gt_iff_lt beq_self_eq_true Nat.zero_le Nat.le_refl Nat.lt_irrefl k4.ai k4.aq
attribute [go_sem] Nat.reduceEqDiff Nat.reduceAdd Nat.reduceMul Nat.reduceLeDiff reduceCtorEq Int.reduceEq Int.reduceLT Int.reduceLE Int.reduceAdd Int.reduceSub Int.reduceMul Int.reduceNeg Int.reduceToNat Int.reduceBEq Int.reduceBNe
variable {fs:FuncId->Option U3}
theorem vA {vars a b env s Q} (h:WP fs vars a env s (a2x fs vars b Q)):WP fs vars (.seq a b) env s Q:=b8u h
theorem vB {vars id b env s Q} (h:WP fs vars b env s (a0j id Q)):WP fs vars (.block id b) env s Q:=b54 h
theorem vC {vars ops ae dr env s Q} (h:WQ fs ae ops env s fun gQ s'=>Q .normal (gQ.aF vars) s'):WP fs vars (.region ⟨ops,ae,dr⟩) env s Q:=b5k h
theorem vD {p ae ops env s Q} (hp:(ops.all fun o=>(p::ae).all fun p=>p.2 != o.1)=true) (h:WQ fs [] ops env s Q):WQ fs (p::ae) ops env s Q:=b1v hp h
theorem vE {ae env s Q} (h:Q env s):WQ fs ae [] env s Q:=b5Y h
theorem vF {vars env s Q} (h:Q .normal env s):WP fs vars .skip env s Q:=b5R h
theorem vG {vars env s id} {Q:a1n->q8->k4->Prop} (h:Q (.exit id) env s):WP fs vars (.exit id) env s Q:=b6s h
theorem vH {vars env s} {Q:a1n->q8->k4->Prop} (h:Q .ret env s):WP fs vars .ret env s Q:=b6L h
theorem vI {ae i t o rest s Q} {env:q8} {d:D} (hr:bH env o=some d) (h:WQ fs ae rest ((t,d)::env) s Q):WQ fs ae ((i,⟨some t,.p o,none⟩)::rest) env s Q:=b0h hr h
theorem vJ {ae i t o rest s Q} {env:q8} {d:D} (hr:cO env s.get o=some d) (h:WQ fs ae rest ((t,d)::env) s Q):WQ fs ae ((i,⟨some t,.r o,none⟩)::rest) env s Q:=vq_r hr h
theorem vK {i t o rest s Q} {env:q8} {ob:Y1} {m:a0f} (hr:dW env o=some (ob,m)) (h:WQ fs [] rest ((t,m.at s.next)::env) (s.push ob) Q):WQ fs [] ((i,⟨some t,.a o,none⟩)::rest) env s Q:=vq_a hr h
theorem vL {i n a v rest s Q} {env:q8} {id:Nat} {ob:Y1} (hr:dh env s.get n a v=some (id,ob)) (h:WQ fs [] rest env (s.set id (some ob)) Q):WQ fs [] ((i,⟨none,.w n a v,none⟩)::rest) env s Q:=a91 hr h
theorem vM {ae i t o r b rest s Q} {env:q8} {d:D} (hw:env.get r=d)
 (h:Way d b (WQ fs ae ((i,⟨t,o,none⟩)::rest) env s Q) (WQ fs ae rest (env.put t (.aR [])) s Q)):WQ fs ae ((i,⟨t,o,some (r,b)⟩)::rest) env s Q:=vq_g hw h
theorem vN {vars c x y env s Q} {d:D} (hc:env.ev c=d) (h:a4O d (WP fs vars x env s Q) (WP fs vars y env s Q)):WP fs vars (.cond c x y) env s Q:=b5K hc h
theorem vO {A B:Prop} (h:A):Way (.bool true) true A B:=h
theorem vP {A B:Prop} (h:A):Way (.bool false) false A B:=h
theorem vQ {A B:Prop} (h:A):a4O (.bool true) A B:=h
theorem vR {A B:Prop} (h:B):a4O (.bool false) A B:=wayc_f h
theorem vS {A B:Prop} (h:B):Way (.bool true) false A B:=h
theorem vT {A B:Prop} (h:B):Way (.bool false) true A B:=h
theorem vU {b:Bool} {A B:Prop} (h:B):Way (.aR []) b A B:=h
theorem aN {a b:Prop} (x:a) (y:b):a/\b:=⟨x,y⟩
theorem V5 {a0 a1 a2:Prop} (x0:a0) (x1:a1) (x2:a2):a0/\a1/\a2:=⟨x0,x1,x2⟩
theorem V3 {a0 a1 a2 a3:Prop} (x0:a0) (x1:a1) (x2:a2) (x3:a3):a0/\a1/\a2/\a3:=⟨x0,x1,x2,x3⟩
theorem W6 {a0 a1 a2 a3 a4:Prop} (x0:a0) (x1:a1) (x2:a2) (x3:a3) (x4:a4):a0/\a1/\a2/\a3/\a4:=⟨x0,x1,x2,x3,x4⟩
theorem Y6 {a0 a1 a2 a3 a4 a5:Prop} (x0:a0) (x1:a1) (x2:a2) (x3:a3) (x4:a4) (x5:a5):a0/\a1/\a2/\a3/\a4/\a5:=⟨x0,x1,x2,x3,x4,x5⟩
theorem Y3 {a0 a1 a2 a3 a4 a5 a6:Prop} (x0:a0) (x1:a1) (x2:a2) (x3:a3) (x4:a4) (x5:a5) (x6:a6):a0/\a1/\a2/\a3/\a4/\a5/\a6:=⟨x0,x1,x2,x3,x4,x5,x6⟩
theorem U5 {a0 a1 a2 a3 a4 a5 a6 a7:Prop} (x0:a0) (x1:a1) (x2:a2) (x3:a3) (x4:a4) (x5:a5) (x6:a6) (x7:a7):a0/\a1/\a2/\a3/\a4/\a5/\a6/\a7:=⟨x0,x1,x2,x3,x4,x5,x6,x7⟩
theorem ct {P Q:Prop} (k:Q) (h:Q->P:=by
 intro k
 (first|(with_reducible first|apply vA|apply vB|apply vC)|((with_reducible apply vD);(focus rfl))|((with_reducible first|apply vE|apply vF|apply vG|apply vH);simp only [q8.aF,q8.get,q8.ev,List.map,Nat.reduceEqDiff,↓reduceIte,a2x,a0j])|((with_reducible first|apply vI|apply vJ|apply vK|apply vL|apply vM|apply vN);(focus (simp (disch:=(first|with_reducible assumption|omega|((repeat (first|rw [nP]|rw [nS]))<;>omega)|fail)) only [go_sem,q8.ev,q8.get,↓reduceIte]<;>rfl));(first|(with_reducible (first|apply vO|apply vP|apply vQ|apply vR|apply vS|apply vT|apply vU);try simp only [q8.put])|with_reducible refine (?_:WQ _ _ _ _ _ _))))
 repeat (first|(with_reducible first|apply vA|apply vB|apply vC)|((with_reducible apply vD);(focus rfl))|((with_reducible first|apply vE|apply vF|apply vG|apply vH);simp only [q8.aF,q8.get,q8.ev,List.map,Nat.reduceEqDiff,↓reduceIte,a2x,a0j])|((with_reducible first|apply vI|apply vJ|apply vK|apply vL|apply vM|apply vN);(focus (simp (disch:=(first|with_reducible assumption|omega|((repeat (first|rw [nP]|rw [nS]))<;>omega)|fail)) only [go_sem,q8.ev,q8.get,↓reduceIte]<;>rfl));(first|(with_reducible (first|apply vO|apply vP|apply vQ|apply vR|apply vS|apply vT|apply vU);try simp only [q8.put])|with_reducible refine (?_:WQ _ _ _ _ _ _))))
 exact k):P:=h k
theorem zW {F P Q:Prop} (f:F) (k:Q) (h:F->Q->P:=by
 intro f k
 (first|(with_reducible first|apply vA|apply vB|apply vC)|((with_reducible apply vD);(focus rfl))|((with_reducible first|apply vE|apply vF|apply vG|apply vH);simp only [q8.aF,q8.get,q8.ev,List.map,Nat.reduceEqDiff,↓reduceIte,a2x,a0j])|((with_reducible first|apply vI|apply vJ|apply vK|apply vL|apply vM|apply vN);(focus (simp (disch:=(first|with_reducible assumption|omega|((repeat (first|rw [nP]|rw [nS]))<;>omega)|fail)) only [go_sem,q8.ev,q8.get,↓reduceIte,f]<;>rfl));(first|(with_reducible (first|apply vO|apply vP|apply vQ|apply vR|apply vS|apply vT|apply vU);try simp only [q8.put])|with_reducible refine (?_:WQ _ _ _ _ _ _))))
 repeat (first|(with_reducible first|apply vA|apply vB|apply vC)|((with_reducible apply vD);(focus rfl))|((with_reducible first|apply vE|apply vF|apply vG|apply vH);simp only [q8.aF,q8.get,q8.ev,List.map,Nat.reduceEqDiff,↓reduceIte,a2x,a0j])|((with_reducible first|apply vI|apply vJ|apply vK|apply vL|apply vM|apply vN);(focus (simp (disch:=(first|with_reducible assumption|omega|((repeat (first|rw [nP]|rw [nS]))<;>omega)|fail)) only [go_sem,q8.ev,q8.get,↓reduceIte,f]<;>rfl));(first|(with_reducible (first|apply vO|apply vP|apply vQ|apply vR|apply vS|apply vT|apply vU);try simp only [q8.put])|with_reducible refine (?_:WQ _ _ _ _ _ _))))
 exact k):P:=h f k
theorem rR {P:Prop} (h:P:=by simp only [a04,a1g,a1t,q8.get,Nat.reduceEqDiff,↓reduceIte]<;>rfl):P:=h
theorem rG {F P:Prop} (f:F) (h:F->P:=by intro f;simp only [q8.get,Nat.reduceEqDiff,↓reduceIte,f,and_self]):P:=h f
theorem nP (s:k4) (o:Y1):(s.push o).next=s.next+1:=rfl
theorem nS (s:k4) (i:Nat) (o:Option Y1):(s.set i o).next=s.next:=rfl
end
def xq (i t:Nat) (o:fG):Nat×Z3:=(i,⟨some t,.p o,none⟩)
def xg (i t:Nat) (o:fG) (g:Nat) (b:Bool):Nat×Z3:=(i,⟨some t,.p o,some (g,b)⟩)
def xm (i t x:Nat):Nat×Z3:=(i,⟨some t,.p (.mov (.tmp x)),none⟩)
def xmg (i t x g:Nat) (b:Bool):Nat×Z3:=(i,⟨some t,.p (.mov (.tmp x)),some (g,b)⟩)
def xc (i t:Nat) (d:D):Nat×Z3:=(i,⟨some t,.p (.mov (.aG d)),none⟩)
def xl (i t:Nat) (n:Option Nat) (x:Nat):Nat×Z3:=(i,⟨some t,.r (.load n (.tmp x)),none⟩)
def xlg (i t:Nat) (n:Option Nat) (x g:Nat) (b:Bool):Nat×Z3:=(i,⟨some t,.r (.load n (.tmp x)),some (g,b)⟩)
def xf (i t off x:Nat):Nat×Z3:=(i,⟨some t,.p (.cm off (.tmp x)),none⟩)
def xfg (i t off x g:Nat) (b:Bool):Nat×Z3:=(i,⟨some t,.p (.cm off (.tmp x)),some (g,b)⟩)
def xw (i n a:Nat) (v:X7):Nat×Z3:=(i,⟨none,.w n (.tmp a) v,none⟩)
def xa (i t:Nat) (o:AOp):Nat×Z3:=(i,⟨some t,.a o,none⟩)
def xk (i t f:Nat) (l:List X7):Nat×Z3:=(i,⟨some t,.m (.call .raw (.aG (.fn f [])) l),none⟩)
def xi (i t f:Nat) (l:List X7):Nat×Z3:=(i,⟨some t,.m (.call .fF (.aG (.fn f [])) l),none⟩)
def aZ (i t f:Nat) (l:List X7) (g:Nat) (b:Bool):Nat×Z3:=(i,⟨some t,.m (.call .fF (.aG (.fn f [])) l),some (g,b)⟩)
def xo (i:Nat) (t:Option Nat) (o:fy) (g:Option (Nat×Bool)):Nat×Z3:=(i,⟨t,o,g⟩)
def xr (l:List (Nat×Z3)):a1a:=.region ⟨l,[],false⟩
def xrp (l:List (Nat×Z3)) (p:List (Nat×Nat)) (b:Bool):a1a:=.region ⟨l,p,b⟩
def bs (l:List Nat):ByteArray:=⟨(l.map UInt8.ofNat).toArray⟩
def xn (n:Int):X7:=.aG (.int .i64 n)
abbrev T0:=Nat->Nat->List (Nat×Z3)×Nat×Nat
def N9:List Nat->List Nat
 | a::b::l=>List.range' a b++N9 l
 | _=>[]
def N8:Nat->Nat->List T0->List (Nat×Z3)
 | _,_,[]=>[]
 | i,p,f::l=>(f i p).1++N8 (f i p).2.1 (f i p).2.2 l
def j0 (x:Nat):X7:=.tmp x
def t5 (a b:a1a):a1a:=.seq a b
def t4 (x:Nat) (a b:a1a):a1a:=.cond (.tmp x) a b
def t3:List D:=[.ag,.int .i64 0,.ag,.ag,.ag,.ag,.bool false]
def M9:List D:=[.ag,.ag,.ag,.int .i64 0]
def M8:List D:=[.int .i64 0,.int .i64 0,.int .i64 0,.int .i64 0]
def M7:List D:=[.int .i64 0,.int .i64 0,.int .i64 0,.int .i64 0,.int .i64 0,.int .i64 0,.bool false,.int .i64 0]
def M6:List D:=[.str (bs []),.int .i64 0,.ag,.int .i64 0,.ag,.ag,.ag,.ag]
def M5:List D:=[.int .i64 0,.ag,.ag,.ag,.int .i64 0]
def M4:D:=.bool false
def M3:D:=.bool true
def M1:D:=.int .i64 0
def N7 (p:Nat) (l:List T0):a1a:=xr (N8 0 p l)
def N6 (p:Nat) (l:List T0) (c:a1a):a1a:=.seq (xr (N8 0 p l)) c
def N5 (p:Nat) (l:List T0) (q:List (Nat×Nat)) (b:Bool):a1a:=xrp (N8 0 p l) q b
def N4 (k v n t u:Nat) (b:a1a):a1a:=.block k (.loop (.seq (xr [xq 0 t (.bin .lss (.tmp v) (.tmp n))]) (.seq (.cond (.tmp t) .skip (.exit k)) (.seq (.block (k+1) b) (xr [xq 0 u (.bin .add (.tmp v) (xn 1)),xm 1 v u])))))
def N3 (x:Nat):T0:=fun i p=>([xm i (p+1) x],i+1,p+1)
def N2 (d:Nat):T0:=fun i p=>([xm i d p],i+1,p)
def N1 (d x:Nat):T0:=fun i p=>([xm i d x],i+1,p)
def O9:T0:=fun i p=>([xq i (p+1) (.aK (.tmp p))],i+1,p+1)
def O8 (k:Nat):T0:=fun i p=>([xf i (p+1) k p],i+1,p+1)
def O7 (k x:Nat):T0:=fun i p=>([xf i (p+1) k x],i+1,p+1)
def O6:T0:=fun i p=>([xl i (p+1) none p],i+1,p+1)
def O5 (k:Nat):T0:=fun i p=>([xl i (p+1) (some k) p],i+1,p+1)
def O4 (x:Nat):T0:=fun i p=>([xl i (p+1) none x],i+1,p+1)
def O3 (k x:Nat):T0:=fun i p=>([xl i (p+1) (some k) x],i+1,p+1)
def O2:T0:=fun i p=>([xq i (p+1) (.len false (.tmp p))],i+1,p+1)
def O1 (o:fG):T0:=fun i p=>([xq i (p+1) o],i+1,p+1)
def O0 (k:Nat):T0:=fun i p=>([xq i (p+1) (.aA k (.tmp (p-1)) (.tmp p))],i+1,p+1)
def P9 (k x y:Nat):T0:=fun i p=>([xq i (p+1) (.aA k (.tmp x) (.tmp y))],i+1,p+1)
def P8 (o:BinOp):T0:=fun i p=>([xq i (p+1) (.bin o (.tmp (p-1)) (.tmp p))],i+1,p+1)
def P7 (o:BinOp) (x y:Nat):T0:=fun i p=>([xq i (p+1) (.bin o (.tmp x) (.tmp y))],i+1,p+1)
def P6 (o:BinOp) (k:Int):T0:=fun i p=>([xq i (p+1) (.bin o (.tmp p) (xn k))],i+1,p+1)
def P5 (o:BinOp) (x:Nat) (k:Int):T0:=fun i p=>([xq i (p+1) (.bin o (.tmp x) (xn k))],i+1,p+1)
def P4:T0:=fun i p=>([xq i (p+1) (.un .not (.tmp p))],i+1,p+1)
def P3 (x y:Nat):T0:=fun i p=>([xq i (p+1) (.pick (.tmp x) (.tmp y) (.aG (.bool false)))],i+1,p+1)
def P2 (x y:Nat):T0:=fun i p=>([xq i (p+1) (.pick (.tmp x) (.aG (.bool true)) (.tmp y))],i+1,p+1)
def P1 (x k:Nat):T0:=fun i p=>([xq i (p+1) (.extract (.tmp x) k)],i+1,p+1)
def P0 (d:D):T0:=fun i p=>([xc i (p+1) d],i+1,p+1)
def Q9 (t:Nat) (d:D):T0:=fun i p=>([xc i t d],i+1,p)
def Q8 (o:AOp):T0:=fun i p=>([xa i (p+1) o],i+1,p+1)
def Q7 (t:Nat) (o:AOp):T0:=fun i p=>([xa i t o],i+1,p)
def Q6 (x:Nat):T0:=fun i p=>([xa i (p+1) (.aw 1 1 [.int .i64 0] [(0,.tmp x)])],i+1,p+1)
def Q5 (x:Nat):T0:=fun i p=>([xw i 1 p (.tmp x)],i+1,p)
def Q4 (k x:Nat) (o:X7):T0:=fun i p=>([xw i k x o],i+1,p)
def Q3 (f:Nat) (l:List X7):T0:=fun i p=>([xk i (p+1) f l],i+1,p+1)
def Q2 (f:Nat) (l:List Nat):T0:=fun i p=>([xk i (p+1) f (l.map .tmp)],i+1,p+1)
def Q1 (f:Nat) (l:List X7):T0:=fun i p=>([xi i (p+1) f l],i+1,p+1)
def Q0 (f:Nat) (l:List Nat):T0:=fun i p=>([xi i (p+1) f (l.map .tmp)],i+1,p+1)
def S9 (a b x y:Nat):T0:=fun i p=>([xo i (.some (p+1)) (.m (.append a b (.tmp x) (.tmp y))) none],i+1,p+1)
def S8 (x g:Nat) (b:Bool):T0:=fun i p=>([xmg i (p+1) x g b],i+1,p+1)
def S7 (k x g:Nat) (b:Bool):T0:=fun i p=>([xfg i (p+1) k x g b],i+1,p+1)
def S6 (k:Option Nat) (x g:Nat) (b:Bool):T0:=fun i p=>([xlg i (p+1) k x g b],i+1,p+1)
def S5 (o:fG) (g:Nat) (b:Bool):T0:=fun i p=>([xg i (p+1) o g b],i+1,p+1)
def S4 (F:Nat->Nat->Nat×Z3):T0:=fun i p=>([F i (p+1)],i+1,p+1)
def S2 (F:Nat->Nat×Z3):T0:=fun i p=>([F i],i+1,p)
def S1 (x k:Nat):T0:=fun i p=>([xm i (p+1) x,xq (i+1) (p+2) (.aK (.tmp (p+1))),xf (i+2) (p+3) k (p+2),xl (i+3) (p+4) none (p+3)],i+4,p+4)
def S0 (x j k:Nat):T0:=fun i p=>([xm i (p+1) x,xq (i+1) (p+2) (.aK (.tmp (p+1))),xf (i+2) (p+3) j (p+2),xf (i+3) (p+4) k (p+3),xl (i+4) (p+5) none (p+4)],i+5,p+5)
def T9 (k x y:Nat):T0:=fun i p=>([xm i (p+1) x,xm (i+1) (p+2) y,xq (i+2) (p+3) (.aA k (.tmp (p+1)) (.tmp (p+2))),xl (i+3) (p+4) none (p+3)],i+4,p+4)
def T8 (x k:Nat):T0:=fun i p=>([xf i (p+1) k x,xl (i+1) (p+2) none (p+1)],i+2,p+2)
theorem zE {P Q:Prop} (k:Q) (h:P=Q:=by
 simp only [xq,xg,xm,xmg,xc,xl,xlg,xf,xfg,xw,xa,xk,xi,aZ,xo,xr,xrp,xn,j0,t5,t4,t3,M9,M8,M7,M6,M5,M4,M3,M1,N9,N8,N7,N6,N5,N4,N3,N2,N1,O9,O8,O7,O6,O5,O4,O3,O2,O1,O0,P9,P8,P7,P6,P5,P4,P3,P2,P1,P0,Q9,Q8,Q7,Q6,Q5,Q4,Q3,Q2,Q1,Q0,S9,S8,S7,S6,S5,S4,S2,S1,S0,T9,T8,List.cons_append,List.nil_append,List.append_nil,List.map_cons,List.map_nil,List.range'_succ,List.range'_zero,Nat.reduceAdd,Nat.reduceSub,List.map,List.getD,List.getElem?_cons_zero,List.getElem?_cons_succ,List.getElem?_nil,Option.getD];exact rfl):P:=h.mpr k
end Go.V
namespace Go.V
noncomputable def a3B (P:Program) (l:List Nat) (iR:gC) (vars:List Nat) (fn:Func):U3:=match a6e P (a9D l) iR vars fn with
 | some v=>v
 | none=>⟨[],.skip,[]⟩
theorem c4q {P:Program} {md:FuncId->a1Q} {iR:gC} {vars:List Nat} {fn:Func} {v:U3} (h:a6e P md iR vars fn=some v):v.vars=vars:=by
 unfold a6e at h;split at h
 ·cases h
 ·split at h
  ·split at h
   ·cases h
   ·cases h;rfl
  ·cases h
theorem okG {P:Program} {f:Nat} {l:List Nat} {iR:gC} {vars:List Nat} {fn:Func} (hf:P.funcs[f]?=some fn) (h:(a6e P (a9D l) iR vars fn).isSome=true):∃fn' md ann',P.funcs[f]?=some fn'/\a6e P md ann' (a3B P l iR vars fn).vars fn'=some (a3B P l iR vars fn):=by
 obtain ⟨v,hv⟩:=Option.isSome_iff_exists.1 h;have e:a3B P l iR vars fn=v:=by unfold a3B;rw [hv]
 rw [e,c4q hv];exact ⟨fn,a9D l,iR,hf,hv⟩
theorem V2 {P:Program} {f:Nat} {fn:Func} {vf:U3} (l:List Nat) (iR:gC) (hf:P.funcs[f]?=some fn) (h:a6e P (a9D l) iR vf.vars fn=some vf):∃fn' md ann',P.funcs[f]?=some fn'/\a6e P md ann' vf.vars fn'=some vf:=⟨fn,a9D l,iR,hf,h⟩
end Go.V
