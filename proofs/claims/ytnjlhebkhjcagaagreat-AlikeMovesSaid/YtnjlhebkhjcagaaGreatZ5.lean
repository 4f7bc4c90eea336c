/- Texts one behind the other. -/
import Derived.Test.YtnjlhebkhjcagaaGreatZ4
import Derived.Test.YtnjlhebkhjcagaaGreatZ3
import Derived.Test.YtnjlhebkhjcagaaGreatVt
import Derived.Test.YtnjlhebkhjcagaaGreatZ1
set_option linter.unusedSimpArgs false
set_option linter.unusedVariables false
namespace Go.Proofs.YtnjlhebkhjcagaaGreat
open Go.V
set_option maxRecDepth 100000
set_option maxHeartbeats 4000000
theorem c0l {i:Nat} (h:i<1000000000):IntKind.i64.wrap ((i:Int)+1)=((i+1:Nat):Int):=by rw [O7 (by omega) (by omega)];omega
theorem doR {s:f6} {a b:Int} {op w:Nat} (hop:op<5) (hw1:1<=w) (hw2:w<=16) (ha:-65536<=a) (ha':a<=65536) (hb:-65536<=b) (hb':b<=65536) :
 Ev vfs 72 [.int .i64 (op:Int),.int .i64 a,.int .i64 b,.int .i64 (w:Int)] s (.int .i64 (doZ op a b w)) s:=by
 have hwn:(w:Int)=min (max (w:Int) 1) 16:=by omega
 have hT:∀x:Int,-9223372036854775808<=x->x<9223372036854775808->Ev vfs 38 [.int .i64 x,.int .i64 (w:Int)] f6.empty (.int .i64 (O6 x w)) f6.empty:=fun x h1 h2=>b1x hwn ⟨h1,h2⟩
 refine a6A (vf:=a9c) rfl ?_
 unfold a9c;refine zE ?_
 have h3:op=0∨op=1∨op=2∨(3<=op):=by omega
 rcases h3 with h3 | h3 | h3 | h3
 ·have n0:((op:Int)==0)=true:=by rw [h3];rfl
  have n1:((op:Int)==1)=false:=by rw [h3];rfl
  have n2:((op:Int)==2)=false:=by rw [h3];rfl
  have hd:doZ op a b w=O6 (a+b) w:=by rw [h3];rfl
  rw [hd]
  have e:=O7 (n:=a+b) (by omega) (by omega)
  have hT:=hT (a+b) (by omega) (by omega)
  repeat first
  |(apply a2b hT rfl;(focus (simp only [Env.evL,Env.ev,Env.get,Nat.reduceEqDiff,↓reduceIte];rfl));(focus rfl))
  |refine zW (aN e (aN n0 (aN n1 n2))) ?_
  exact ⟨.inr trivial,trivial,rR⟩
 ·have n0:((op:Int)==0)=false:=by rw [h3];rfl
  have n1:((op:Int)==1)=true:=by rw [h3];rfl
  have n2:((op:Int)==2)=false:=by rw [h3];rfl
  have hd:doZ op a b w=O6 (a-b) w:=by rw [h3];rfl
  rw [hd]
  have e:=O7 (n:=a-b) (by omega) (by omega)
  have hT:=hT (a-b) (by omega) (by omega)
  repeat first
  |(apply a2b hT rfl;(focus (simp only [Env.evL,Env.ev,Env.get,Nat.reduceEqDiff,↓reduceIte];rfl));(focus rfl))
  |refine zW (aN e (aN n0 (aN n1 n2))) ?_
  exact ⟨.inr trivial,trivial,rR⟩
 ·have n0:((op:Int)==0)=false:=by rw [h3];rfl
  have n1:((op:Int)==1)=false:=by rw [h3];rfl
  have n2:((op:Int)==2)=true:=by rw [h3];rfl
  have hd:doZ op a b w=O6 (a*b) w:=by rw [h3];rfl
  rw [hd]
  have hm:-4294967296<=a*b/\a*b<=4294967296:=by
   have h1:(a*b).natAbs<=65536*65536:=by
    rw [Int.natAbs_mul]
    exact Nat.mul_le_mul (by omega) (by omega)
   omega
  have e:=O7 (n:=a*b) (by omega) (by omega)
  have hT:=hT (a*b) (by omega) (by omega)
  repeat first
  |(apply a2b hT rfl;(focus (simp only [Env.evL,Env.ev,Env.get,Nat.reduceEqDiff,↓reduceIte];rfl));(focus rfl))
  |refine zW (aN e (aN n0 (aN n1 n2))) ?_
  exact ⟨.inr trivial,trivial,rR⟩
 ·have n0:((op:Int)==0)=false:=by simp;omega
  have n1:((op:Int)==1)=false:=by simp;omega
  have n2:((op:Int)==2)=false:=by simp;omega
  by_cases hb0:b=0
  ·subst hb0
   have hd:doZ op a 0 w=0:=by
    match op,h3 with
    | 3,_=>rfl
    | n+4,_=>rfl
   rw [hd]
   try refine zW (aN n0 (aN n1 n2)) ?_
   exact ⟨.inr trivial,trivial,rR⟩
  ·have c0:(b==0)=false:=by simpa using hb0
   have hpb:0<b.natAbs:=by omega
   try refine zW (aN n0 (aN n1 (aN n2 c0))) ?_
   refine WP.mono (Q:=fun e env s1=>e=.normal/\s1=s/\(env.get 0=.int .i64 (op:Int)/\env.get 1=.int .i64 a/\env.get 2=.int .i64 b/\env.get 3=.int .i64 (w:Int)/\env.get 9=.int .i64 (a.natAbs:Int)/\env.get 10=.int .i64 b)) ?_ ?_
   ·by_cases h:a<0
    ·have b1:(a<0)=True:=eq_true h
     have e1:IntKind.i64.wrap (0-a)=(a.natAbs:Int):=by rw [O7 (by omega) (by omega)];omega
     try refine zW (aN b1 e1) ?_
     exact ⟨trivial,trivial,by simp [Env.get]⟩
    ·have b1:(a<0)=False:=eq_false h
     have e1:a=(a.natAbs:Int):=by omega
     try refine zW b1 ?_
     exact ⟨trivial,trivial,by simp [Env.get,<- e1]⟩
   rintro e env s1 ⟨rfl,rfl,hE⟩
   simp only [P7]
   try refine zW hE ?_
   refine WP.mono (Q:=fun e env s2=>e=.normal/\s2=s1/\(env.get 0=.int .i64 (op:Int)/\env.get 1=.int .i64 a/\env.get 2=.int .i64 b/\env.get 3=.int .i64 (w:Int)/\env.get 9=.int .i64 (a.natAbs:Int)/\env.get 10=.int .i64 (b.natAbs:Int))) ?_ ?_
   ·by_cases h:b<0
    ·have b1:(b<0)=True:=eq_true h
     have e1:IntKind.i64.wrap (0-b)=(b.natAbs:Int):=by rw [O7 (by omega) (by omega)];omega
     try refine zW (aN hE (aN b1 e1)) ?_
     exact ⟨trivial,trivial,by simp [Env.get,hE]⟩
    ·have b1:(b<0)=False:=eq_false h
     have e1:b=(b.natAbs:Int):=by omega
     try refine zW (aN hE b1) ?_
     exact ⟨trivial,trivial,by simp [Env.get,hE,<- e1]⟩
   clear hE
   rintro e env s2 ⟨rfl,rfl,hE⟩
   simp only [P7]
   try refine zW hE ?_
   have hab:a.natAbs<=65536:=by omega
   have hbb:b.natAbs<=65536:=by omega
   have ta:a.tdiv b=if (decide (a<0) != decide (b<0))=true then -((a.natAbs / b.natAbs:Nat):Int) else ((a.natAbs / b.natAbs:Nat):Int):=by
    have key:((a.natAbs / b.natAbs:Nat):Int)=((a.natAbs:Nat):Int).tdiv (b.natAbs:Nat):=rfl
    rw [key]
    by_cases h1:a<0<;>by_cases h2:b<0
    ·rw [decide_eq_true h1,decide_eq_true h2,if_neg (by decide),Int.ofNat_natAbs_of_nonpos (by omega),Int.ofNat_natAbs_of_nonpos (by omega),Int.neg_tdiv,Int.tdiv_neg];omega
    ·rw [decide_eq_true h1,decide_eq_false h2,if_pos (by decide),Int.ofNat_natAbs_of_nonpos (by omega),Int.natAbs_of_nonneg (by omega),Int.neg_tdiv];omega
    ·rw [decide_eq_false h1,decide_eq_true h2,if_pos (by decide),Int.natAbs_of_nonneg (by omega),Int.ofNat_natAbs_of_nonpos (by omega),Int.tdiv_neg];omega
    ·rw [decide_eq_false h1,decide_eq_false h2,if_neg (by decide),Int.natAbs_of_nonneg (by omega),Int.natAbs_of_nonneg (by omega)]
   have tm:a.tmod b=if a<0 then -((a.natAbs % b.natAbs:Nat):Int) else ((a.natAbs % b.natAbs:Nat):Int):=by
    have key:((a.natAbs % b.natAbs:Nat):Int)=((a.natAbs:Nat):Int).tmod (b.natAbs:Nat):=rfl
    have kb:∀x:Int,x.tmod (b.natAbs:Int)=x.tmod b:=fun x=>by
     rcases Int.natAbs_eq b with hb | hb
     ·rw [<- hb]
     ·have:x.tmod b=x.tmod (-b):=by rw [Int.tmod_neg]
      rw [this];congr 1;omega
    rw [key,kb]
    by_cases h1:a<0
    ·rw [if_pos h1,Int.ofNat_natAbs_of_nonpos (by omega),Int.neg_tmod];omega
    ·rw [if_neg h1,Int.natAbs_of_nonneg (by omega)]
   generalize a.natAbs=p at *
   generalize b.natAbs=r at *
   refine W2 (fun k env s3=>∃ (q t:Nat),p=q*r+t/\k=t/\s3=s2/\(env.get 0=.int .i64 (op:Int)/\env.get 1=.int .i64 a/\env.get 2=.int .i64 b/\env.get 3=.int .i64 (w:Int)/\env.get 10=.int .i64 (r:Int)/\env.get 11=.int .i64 (q:Int)/\env.get 12=.int .i64 (t:Int))) ?_ p _ _
    ⟨0,p,by omega,rfl,rfl,by simp [Env.get,hE]⟩
   clear hE
   rintro k env s3 ⟨q,t,hp,rfl,rfl,hE⟩
   have hql:q<=p:=by
    have:q*1<=q*r:=Nat.mul_le_mul_left q hpb
    omega
   by_cases hc:r<=k
   ·have c1:((r:Int)<=(k:Int))=True:=eq_true (by omega)
    have e1:IntKind.i64.wrap ((k:Int)-(r:Int))=((k-r:Nat):Int):=by rw [O7 (by omega) (by omega)];omega
    have e2:=c0l (i:=q) (by omega)
    try refine zW (aN hE (aN c1 (aN e1 e2))) ?_
    exact ⟨k-r,by omega,q+1,k-r,by rw [Nat.succ_mul];omega,rfl,trivial,(rG hE)⟩
   ·have c1:((r:Int)<=(k:Int))=False:=eq_false (by omega)
    have dq:p / r=q:=by
     rw [hp,Nat.mul_comm,Nat.mul_add_div hpb,Nat.div_eq_of_lt (by omega),Nat.add_zero]
    have dm:p % r=k:=by
     rw [hp,Nat.mul_comm,Nat.mul_add_mod,Nat.mod_eq_of_lt (by omega)]
    rw [dq] at ta
    rw [dm] at tm
    have hop':op=3∨op=4:=by omega
    rcases hop' with rfl | rfl
    ·have hd:doZ 3 a b w=O6 (a.tdiv b) w:=by simp only [doZ];rw [if_neg hb0]
     have n3:((3:Nat):Int)=3:=rfl
     rw [hd]
     by_cases hx:(decide (a<0) != decide (b<0))=true
     ·rw [if_pos hx] at ta
      rw [ta]
      have e1:IntKind.i64.wrap (0-(q:Int))=-(q:Int):=by rw [O7 (by omega) (by omega)];omega
      have hx':(!(decide (a<0)==decide (b<0)))=true:=hx
      have hT:=hT (-(q:Int)) (by omega) (by omega)
      repeat first
      |(apply a2b hT rfl;(focus (simp only [Env.evL,Env.ev,Env.get,Nat.reduceEqDiff,↓reduceIte,hE];rfl));(focus rfl))
      |refine zW (aN hE (aN c1 (aN n3 (aN hx' e1)))) ?_
      exact ⟨.inr trivial,trivial,rR⟩
     ·rw [if_neg hx] at ta
      rw [ta]
      have hx':(!(decide (a<0)==decide (b<0)))=false:=by simpa using hx
      have hT:=hT (q:Int) (by omega) (by omega)
      repeat first
      |(apply a2b hT rfl;(focus (simp only [Env.evL,Env.ev,Env.get,Nat.reduceEqDiff,↓reduceIte,hE];rfl));(focus rfl))
      |refine zW (aN hE (aN c1 (aN n3 hx'))) ?_
      exact ⟨.inr trivial,trivial,rR⟩
    ·have hd:doZ 4 a b w=O6 (a.tmod b) w:=by simp only [doZ];rw [if_neg hb0]
     have n3:(((4:Nat):Int)==3)=false:=rfl
     rw [hd]
     by_cases hx:a<0
     ·rw [if_pos hx] at tm
      rw [tm]
      have e1:IntKind.i64.wrap (0-(k:Int))=-(k:Int):=by rw [O7 (by omega) (by omega)];omega
      have hx':(a<0)=True:=eq_true hx
      have hT:=hT (-(k:Int)) (by omega) (by omega)
      repeat first
      |(apply a2b hT rfl;(focus (simp only [Env.evL,Env.ev,Env.get,Nat.reduceEqDiff,↓reduceIte,hE];rfl));(focus rfl))
      |refine zW (aN hE (aN c1 (aN n3 (aN hx' e1)))) ?_
      exact ⟨.inr trivial,trivial,rR⟩
     ·rw [if_neg hx] at tm
      rw [tm]
      have hx':(a<0)=False:=eq_false hx
      have hT:=hT (k:Int) (by omega) (by omega)
      repeat first
      |(apply a2b hT rfl;(focus (simp only [Env.evL,Env.ev,Env.get,Nat.reduceEqDiff,↓reduceIte,hE];rfl));(focus rfl))
      |refine zW (aN hE (aN c1 (aN n3 hx'))) ?_
      exact ⟨.inr trivial,trivial,rR⟩
theorem do8 {op:Nat} (hop:op<5) {a b:Int} (ha:I8 a) (hb:I8 b):Iso 72 [.int .i64 (op:Int),.int .i64 a,.int .i64 b,.int .i64 8] (.int .i64 (doZ op a b 8)):=by
 obtain ⟨a1,a2⟩:=ha
 obtain ⟨b1,b2⟩:=hb
 exact ⟨_,doR (w:=8) hop (by decide) (by decide) (by omega) (by omega) (by omega) (by omega)⟩
theorem c1U {b:Bool}:Iso 71 [.bool b] (.int .i64 (a26 b)):=by
 refine a2r ?_
 cases b
 ·refine M6 (vf:=a59) rfl ?_
  unfold a59;refine zE ?_
  try refine zW0 ?_
  exact ⟨.inr trivial,_,rR,rfl⟩
 ·refine M6 (vf:=a59) rfl ?_
  unfold a59;refine zE ?_
  try refine zW0 ?_
  exact ⟨.inr trivial,_,rR,rfl⟩
theorem b8k {m:MdX} {mo:Mo} {ps:List (Pr×PrD)} (hm:MoF m mo ps) (ho:O4 mo) {p:Nat} (hp:p<mo.procs.length) {w:ByteArray}:Iso 70 [.agg (N8 m),.int .i64 (p:Int),.str w] (.int .i64 (a4i (U4 mo.procs[p] w))):=by
 refine a2r ?_
 have om:=hm.ones
 have hpo:=ho.pr _ (List.getElem_mem hp)
 obtain ⟨x,hx,hxi⟩:=hm.proc hp
 have hxi:=hxi .i64
 have hlp:=hm.lenP
 have ox:=hx.ones
 have hln:=hx.lenN
 have hnl:=hpo.nl
 have hnv:=ho.nv
 have hsm:=hpo.same
 have p1:((0:Int)<=(p:Int))=True:=eq_true (by omega)
 have p2:((p:Int)<(mo.procs.length:Int))=True:=eq_true (by omega)
 generalize mo.procs[p]=P at *
 unfold M1 at hxi
 unfold N8
 refine M6 (vf:=b0t) rfl ?_
 unfold b0t;refine zE ?_
 try refine zW (aN om (aN hlp (aN hxi (aN ox (aN p1 p2))))) ?_
 refine W2 (Q:=N5 0 _) (fun n env s=>∃i:Nat,i<=P.names.length/\n=P.names.length-i/\s.get 1=some (.cells [.str P.name,.int .i64 (P.copy:Int),x.dl,.int .i64 (P.places:Int),x.dr,x.de,x.dn,x.dv])/\(∀j (hj:j<P.names.length),j<i->P.names[j]≠w)/\(env.get 2=.str w/\env.get 7=.ptr 1 0/\env.get 8=.int .i64 (i:Int))) ?_ P.names.length _ _ ⟨0,by omega,rfl,rfl,fun j _ h=>by omega,by simp [Env.get,P3.at];rfl⟩
 rintro n env s ⟨i,hi,rfl,hg,hall,hE⟩
 by_cases c3:i<P.names.length
 ·have c3':((i:Int)<(P.names.length:Int))=True:=eq_true (by omega)
  have hs1:IntKind.i64.wrap ((i:Int)+1)=((i+1:Nat):Int):=by rw [O7 (by omega) (by omega)];omega
  have hidx:=FLS.idx hx.n c3 (k:=.i64)
  by_cases c4:P.names[i]=w
  ·have c4':decide (P.names[i]=w)=true:=by simp [c4]
   have hvi:i<P.vars.length:=by omega
   have hidv:=FLN.idx hx.v hvi (k:=.i64)
   have e:a4i (U4 P w)=(P.vars[i]:Int):=by
    unfold U4
    rw [a4v c3 c4 hall,if_pos c3]
    simp [a4i,List.getD,hvi]
   rw [e]
   try refine zW (aN hE (aN hg (aN ox (aN hln (aN c3' (aN hidx (aN c4' hidv))))))) ?_
   exact ⟨.inr trivial,_,rR,rfl⟩
  ·have c4':decide (P.names[i]=w)=false:=by simp [c4]
   try refine zW (aN hE (aN hg (aN ox (aN hln (aN c3' (aN hidx (aN c4' hs1))))))) ?_
   refine ⟨P.names.length-(i+1),by omega,i+1,by omega,rfl,hg,fun j hj hji=>?_,(rG hE)⟩
   by_cases ej:j=i
   ·subst ej;exact c4
   ·exact hall j hj (by omega)
 ·have c3':((i:Int)<(P.names.length:Int))=False:=eq_false (by omega)
  have e:a4i (U4 P w)=-1:=by
   unfold U4
   rw [if_neg (a4L fun j hj=>hall j hj (by omega))]
   rfl
  rw [e]
  try refine zW (aN hE (aN hg (aN ox (aN hln c3')))) ?_
  exact ⟨.inr trivial,_,rR,rfl⟩
end Go.Proofs.YtnjlhebkhjcagaaGreat
namespace Go.V
variable {fs:FuncId->Option M3}
structure Ent where
 i:Nat
 rd:Option Nat
 eff:List Nat
structure TrE (n:Nat) (e:Ent) (t:Tr):Prop where
 i:t.idx=e.i
 rd:t.rd=e.rd
 ef:∀id,id∉e.eff->t.pre.get id=t.post.get id
 lt:∀id,e.rd=some id->id<n
def TrM (n:Nat) (T:List Ent) (tr:List Tr):Prop:=∀t∈tr,(t.rd=none/\∀id,t.pre.get id=t.post.get id)∨∃e∈T,TrE n e t
def WX (fs:FuncId->Option M3) (pairs:List (Nat×Nat)) (T:List Ent) (ops:List (Nat×P1)) (env:Env) (s:f6) (Q:Env->f6->Prop):Prop:=∀tr,TrM s.next T tr->WO fs pairs ops tr env s Q
theorem c4Z {vars ops p pairs dr env s Q} (h:WX fs (p::pairs) [] ops env s fun env' s'=>Q .normal (env'.keep vars) s'):WP fs vars (.region ⟨ops,p::pairs,dr⟩) env s Q:=a78 (h [] (by simp [TrM]))
theorem a6K {a b:f6} {r:Option Nat} (h:∀id,r=some id->a.get id=b.get id):Z7 a b r=true:=by
 cases r with
 | none=>rfl
 | some id=>simp only [Z7];rw [h id rfl];exact a6H _
def a8U (pairs:List (Nat×Nat)) (T:List Ent) (i:Nat) (r:Option Nat) (E:List Nat):Prop:=∀e∈T,(e.i,i)∈pairs->(∀id,e.rd=some id->id∉E)/\∀id,r=some id->id∉e.eff
theorem b1f {pairs:List (Nat×Nat)} {T:List Ent} {n:Nat} {j:Tr} {E:List Nat} (hE:∀id,id∉E->j.pre.get id=j.post.get id) (hf:a8U pairs T j.idx j.rd E):∀ {tr:List Tr},TrM n T tr->a0p pairs j tr=true
 | [],_=>rfl
 | t::r,h=>by
   have ih:=b1f hE hf (tr:=r) fun x hx=>h x (by simp [hx])
   rcases h t (by simp) with ⟨k1,k2⟩ | ⟨e,he,k⟩
   ·have s1:Z7 j.pre j.post t.rd=true:=by rw [k1];rfl
    have s2:Z7 t.pre t.post j.rd=true:=a6K fun id _=>k2 id
    simp only [a0p,s1,s2,Bool.and_self,ite_self,Bool.true_and,ih]
   by_cases hc:(t.idx,j.idx)∈pairs
   ·rw [k.i] at hc
    obtain ⟨f1,f2⟩:=hf e he hc
    have s1:Z7 j.pre j.post t.rd=true:=a6K fun id hid=>hE id (f1 id (by rw [<- k.rd];exact hid))
    have s2:Z7 t.pre t.post j.rd=true:=a6K fun id hid=>k.ef id (f2 id hid)
    simp only [a0p,s1,s2,Bool.and_self,ite_self,Bool.true_and,ih]
   ·have hc':pairs.contains (t.idx,j.idx)=false:=by rw [Bool.eq_false_iff];intro h';rw [List.contains_iff_mem] at h';exact hc h'
    simp only [a0p,hc',Bool.false_eq_true,if_false,Bool.true_and,ih]
theorem TrM.grow {n m:Nat} {T:List Ent} {tr:List Tr} (h:TrM n T tr) (hm:n<=m) (e:Ent):TrM m (e::T) tr:=fun t ht=>by
 rcases h t ht with k | ⟨e',h1,h2⟩
 ·exact .inl k
 ·exact .inr ⟨e',by simp [h1],h2.i,h2.rd,h2.ef,fun id hid=>Nat.lt_of_lt_of_le (h2.lt id hid) hm⟩
theorem b0e {pairs T i o rest env s Q} (hw:a0t env o.guard=some true) {d s'} {E:List Nat} (m:Nat) (hr:Q0 (a0G fs (P2 fs m)) env s o.op=some (d,s')) (hE:∀id,id∉E->s.get id=s'.get id) (hn:s.next<=s'.next) (hl:∀id,W9 env o.op=some id->id<s.next) (hf:a8U pairs T i (W9 env o.op) E)
 (h:WX fs pairs (⟨i,W9 env o.op,E⟩::T) rest (env.put o.dst d) s' Q):WX fs pairs T ((i,o)::rest) env s Q:=by
 intro tr ht
 refine a1I hw m hr (b1f (j:=⟨i,W9 env o.op,s,s'⟩) hE hf ht) (h _ ?_)
 split
 ·exact ht.grow hn _
 ·intro t hm
  rcases List.mem_cons.1 hm with rfl | hm
  ·exact .inr ⟨⟨i,W9 env o.op,E⟩,by simp,rfl,rfl,hE,fun id hid=>Nat.lt_of_lt_of_le (hl id hid) hn⟩
  ·exact ht.grow hn _ t hm
theorem c0i {pairs:List (Nat×Nat)} {T:List Ent} {i:Nat}:a8U pairs T i none []:=fun e _ _=>⟨by simp,by simp⟩
theorem a8Q {pairs T i o rest env s Q} (hw:a0t env o.guard=some true) {d} (m:Nat) (hr:Q0 (a0G fs (P2 fs m)) env s o.op=some (d,s)) (hn:W9 env o.op=none) (h:WX fs pairs T rest (env.put o.dst d) s Q):WX fs pairs T ((i,o)::rest) env s Q:=by
 intro tr ht
 refine a1I hw m hr (b1f (E:=[]) (fun _ _=>rfl) (by rw [hn];exact c0i) ht) (h _ ?_)
 split
 ·exact ht
 ·intro t hm
  rcases List.mem_cons.1 hm with rfl | hm
  ·exact .inl ⟨hn,fun _=>rfl⟩
  ·exact ht t hm
theorem c3o {pairs T env s Q} (h:Q env s):WX fs pairs T [] env s Q:=fun _ _=>b43 h
theorem b3B {pairs T i o rest env s Q} (hw:a0t env o.guard=some false) (h:WX fs pairs T rest (env.put o.dst (.tup [])) s Q):WX fs pairs T ((i,o)::rest) env s Q:=fun tr ht=>b2Q hw (h tr ht)
theorem b95 {pairs T i t o rest s Q} {env:Env} {d:D} (hr:evP env o=some d) (h:WX fs pairs T rest ((t,d)::env) s Q):WX fs pairs T ((i,⟨some t,.p o,none⟩)::rest) env s Q :=
 a8Q rfl 0 (by simp only [Q0,hr,Option.map_some]) rfl h
theorem c0t {pairs T i t n x rest s Q} {env:Env} {d:D} {cs:List D} {off:Nat} (hx:env.ev x=.fp cs off) (hr:ldV s.get n (.fp cs off)=some d) (h:WX fs pairs T rest ((t,d)::env) s Q):WX fs pairs T ((i,⟨some t,.r (.load n x),none⟩)::rest) env s Q :=
 a8Q rfl 0 (by simp only [Q0,a5v,hx,hr,Option.map_some]) (by simp only [W9,rdR,hx]) h
theorem b8j {pairs T i t n x rest s Q} {env:Env} {d:D} {id off:Nat} (hx:env.ev x=.ptr id off) (hr:ldV s.get n (.ptr id off)=some d) (hf:∀e∈T,(e.i,i)∈pairs->id∉e.eff) (h:WX fs pairs (⟨i,some id,[]⟩::T) rest ((t,d)::env) s Q):WX fs pairs T ((i,⟨some t,.r (.load n x),none⟩)::rest) env s Q:=by
 have hrd:W9 env (.r (.load n x))=some id:=by simp only [W9,rdR,hx]
 have hlt:id<s.next:=by
  simp only [ldV] at hr
  cases hg:s.get id with
  | none=>rw [hg] at hr;cases hr
  | some o=>exact M5 hg
 refine b0e (E:=[]) rfl 0 (d:=d) (s':=s) (by simp only [Q0,a5v,hx,hr,Option.map_some]) (fun _ _=>rfl) (Nat.le_refl _) ?_ ?_ ?_
 ·intro j hj
  simp only [hrd,Option.some.injEq] at hj
  subst hj;exact hlt
 ·simp only [hrd]
  intro e he hp
  refine ⟨by simp,fun j hj=>?_⟩
  simp only [Option.some.injEq] at hj
  subst hj
  exact hf e he hp
 ·simp only [hrd];exact h
theorem b75 {pairs T i t o rest s Q} {env:Env} {ob:O3} {m:P3} (hr:evA env o=some (ob,m)) (h:WX fs pairs (⟨i,none,[s.next]⟩::T) rest ((t,m.at s.next)::env) (s.push ob) Q):WX fs pairs T ((i,⟨some t,.a o,none⟩)::rest) env s Q:=by
 intro tr ht
 have hE:∀id,id∉[s.next]->s.get id=(s.push ob).get id:=fun id hid=>by
  rw [f6.get_push,if_neg (by simpa using hid)]
 refine a1I rfl 0 (d:=m.at s.next) (s':=s.push ob) (by simp only [Q0,hr]) ?_ (h _ ?_)
 ·have key:∀ {tr:List Tr},TrM s.next T tr->a0p pairs ⟨i,none,s,s.push ob⟩ tr=true:=by
   intro tr
   induction tr with
   | nil=>intro _;rfl
   | cons x r ih =>
     intro hx
     have ih:=ih fun y hy=>hx y (by simp [hy])
     have s1:Z7 s (s.push ob) x.rd=true:=by
      rcases hx x (by simp) with ⟨k1,_⟩ | ⟨e,_,k⟩
      ·rw [k1];rfl
      ·refine a6K fun id hid=>hE id ?_
       have:=k.lt id (by rw [<- k.rd];exact hid)
       simp only [List.mem_singleton];omega
     have s2:Z7 x.pre x.post none=true:=rfl
     simp only [a0p,s1,s2,Bool.and_self,ite_self,Bool.true_and,ih]
  exact key ht
 ·have hn:s.next<=(s.push ob).next:=by simp
  split
  ·exact ht.grow hn _
  ·intro x hm
   rcases List.mem_cons.1 hm with rfl | hm
   ·exact .inr ⟨⟨i,none,[s.next]⟩,by simp,rfl,rfl,hE,by simp⟩
   ·exact ht.grow hn _ x hm
theorem c2B {pairs T i n a v rest s Q} {env:Env} {id off:Nat} {ob:O3} (hx:env.ev a=.ptr id off) (hr:evW env s.get n a v=some (id,ob)) (hf:∀e∈T,(e.i,i)∈pairs->e.rd≠some id/\id∉e.eff) (h:WX fs pairs (⟨i,some id,[id]⟩::T) rest env (s.set id (some ob)) Q):WX fs pairs T ((i,⟨none,.w n a v,none⟩)::rest) env s Q:=by
 have hrd:W9 env (.w n a v)=some id:=by simp only [W9,rdW,hx]
 have hlt:id<s.next:=by
  simp only [evW,hx] at hr
  cases hg:s.get id with
  | none=>rw [hg] at hr;cases hr
  | some o=>exact M5 hg
 refine b0e (E:=[id]) rfl 0 (d:=.tup []) (s':=s.set id (some ob)) (by simp only [Q0,hr]) (fun j hj=>by rw [O5 (by simpa using hj)]) (by simp) ?_ ?_ ?_
 ·intro j hj
  simp only [hrd,Option.some.injEq] at hj
  subst hj;exact hlt
 ·simp only [hrd]
  intro e he hp
  obtain ⟨f1,f2⟩:=hf e he hp
  refine ⟨fun j hj hm=>?_,fun j hj=>?_⟩
  ·simp only [List.mem_singleton] at hm
   subst hm
   exact f1 hj
  ·simp only [Option.some.injEq] at hj
   subst hj
   exact f2
 ·simp only [hrd];exact h
theorem c2C {pairs T i t o rest s Q} {env:Env} {d:D} {s':f6} {E:List Nat} (hr:∃n,evM (a0G fs (P2 fs n)) env s o=some (d,s')) (hE:∀id,id∉E->s.get id=s'.get id) (hn:s.next<=s'.next) (hf:∀e∈T,(e.i,i)∈pairs->∀id,e.rd=some id->id∉E)
 (h:WX fs pairs (⟨i,none,E⟩::T) rest ((t,d)::env) s' Q):WX fs pairs T ((i,⟨some t,.m o,none⟩)::rest) env s Q:=by
 obtain ⟨n,hn'⟩:=hr
 refine b0e (E:=E) rfl n (d:=d) (s':=s') (by simp only [Q0];exact hn') hE hn (by intro id hid;simp [W9] at hid) (fun e he hp=>⟨hf e he hp,by intro id hid;simp [W9] at hid⟩) h
theorem c3S {pairs T i t f args rest s Q} {env:Env} {l l':List D} {d r:D} {s1:f6} (hl:env.evL args=l) (ha:N1 (ice s.get 20) l=some l')
 (hr:Ev fs f l' f6.empty r s1) (hi:ice s1.get 20 r=some d) (hs:(a0q d||pureL l)=true)
 (h:WX fs pairs T rest ((t,d)::env) s Q):WX fs pairs T ((i,⟨some t,.m (.call .iso (.cst (.fn f [])) args),none⟩)::rest) env s Q:=by
 subst hl
 obtain ⟨n,hn⟩:=hr
 have hn':a0G fs (P2 fs n) f l' f6.empty=some (r,s1):=hn
 exact a8Q rfl n (by simp only [Q0,evM,a1d,Env.ev,List.append_nil,ha,hn',hi,hs,if_true]) rfl h
end Go.V
namespace Go.V
def a5S (σ:Nat->Nat) (v:Int):Int:=if 0<=v then ((σ v.toNat:Nat):Int) else v
def a4D (σ:Nat->Nat) (e:Ed):Ed:={ e with var:=a5S σ e.var }
def ren (σ:Nat->Nat) (l:List Nat) (c:Nat) (p:Pr):Pr:={ p with copy:=c,locals:=l,vars:=p.vars.map σ,edges:=p.edges.map (a4D σ) }
variable {σ:Nat->Nat} {l:List Nat} {c:Nat}
theorem c1m (v:Nat):a5S σ (v:Int)=((σ v:Nat):Int):=by unfold a5S;rw [if_pos (by omega),Int.toNat_natCast]
theorem a8d (p:Pr) (frm to act node:Nat) (expr v ch:Int):(ren σ l c p).put frm to act node expr (a5S σ v) ch=ren σ l c (p.put frm to act node expr v ch):=by
 simp [ren,Pr.put,a4D]
theorem a2u (p:Pr) (frm to act node:Nat) (expr ch:Int):(ren σ l c p).put frm to act node expr (-1) ch=ren σ l c (p.put frm to act node expr (-1) ch):=a8d p frm to act node expr (-1) ch
theorem a5R (p:Pr):(ren σ l c p).place=ren σ l c p.place:=rfl
theorem a5M (p:Pr):(ren σ l c p).places=p.places:=rfl
theorem b0D (p:Pr) (n:Nat) (is:Int):(ren σ l c p).idle n is=ren σ l c (p.idle n is):=by
 unfold Pr.idle
 split<;>rfl
theorem c1b (n to:Nat) (es:List Ed):a0o n to (es.map (a4D σ))=(a0o n to es).map (a4D σ):=by
 unfold a0o
 simp only [List.map_append,List.map_take,List.map_drop,List.map_map]
 rfl
def StC (σ:Nat->Nat) (l:List Nat) (c:Nat) (names:List ByteArray) (vars:List Nat) (st:Pr->Nat->Nat->Nat->Pr) (k:Nat):Prop :=
 ∀p frm to,p.names=names->p.vars=vars->st (ren σ l c p) k frm to=ren σ l c (st p k frm to)/\(st p k frm to).names=names/\(st p k frm to).vars=vars
theorem a3H {names:List ByteArray} {vars:List Nat} {st:Pr->Nat->Nat->Nat->Pr} {node:Nat}:∀ {ks:List Nat} {p:Pr} {frm to:Nat},(∀k∈ks,StC σ l c names vars st k)->p.names=names->p.vars=vars ->
 a0Q st node (ren σ l c p) ks frm to=ren σ l c (a0Q st node p ks frm to)/\(a0Q st node p ks frm to).names=names/\(a0Q st node p ks frm to).vars=vars
 | [],p,frm,to,_,hn,hv=>⟨a2u _ _ _ _ _ _ _,hn,hv⟩
 | [k],p,frm,to,hs,hn,hv=>hs k (by simp) p frm to hn hv
 | k::k'::ks,p,frm,to,hs,hn,hv=>by
   obtain ⟨a1,a2,a3⟩:=hs k (by simp) p.place frm p.places hn hv
   obtain ⟨b1,b2,b3⟩:=a3H (node:=node) (ks:=k'::ks) (p:=st p.place k frm p.places) (frm:=p.places) (to:=to) (fun x hx=>hs x (by simp only [List.mem_cons] at hx ⊢;right;exact hx)) a2 a3
   refine ⟨?_,b2,b3⟩
   show a0Q st node (st (ren σ l c p).place k frm (ren σ l c p).places) (k'::ks) (ren σ l c p).places to=_
   rw [a5R,a5M,a1,b1]
   rfl
theorem a9C {t:List Nd} {names:List ByteArray} {vars:List Nat} {st:Pr->Nat->Nat->Nat->Pr} {frm to:Nat}:∀ {ks:List Nat} {p:Pr},(∀b∈ks,∀k∈(nd t b).ks,StC σ l c names vars st k)->p.names=names->p.vars=vars ->
 Y0 t st frm to (ren σ l c p) ks=ren σ l c (Y0 t st frm to p ks)/\(Y0 t st frm to p ks).names=names/\(Y0 t st frm to p ks).vars=vars
 | [],p,_,hn,hv=>⟨rfl,hn,hv⟩
 | b::ks,p,hs,hn,hv=>by
   unfold Y0
   split
   ·obtain ⟨a1,a2,a3⟩:=a3H (node:=b) (ks:=(nd t b).ks) (p:=p.place.put frm p.places 0 b (-1) (-1) (-1)) (frm:=p.places) (to:=to) (hs b (by simp)) hn hv
    obtain ⟨b1,b2,b3⟩:=a9C (ks:=ks) (fun x hx=>hs x (by simp [hx])) a2 a3
    refine ⟨?_,b2,b3⟩
    rw [a5R,a5M,a2u]
    unfold V7
    rw [a1]
    exact b1
   ·obtain ⟨a1,a2,a3⟩:=a3H (node:=b) (ks:=(nd t b).ks) (p:=p) (frm:=frm) (to:=to) (hs b (by simp)) hn hv
    obtain ⟨b1,b2,b3⟩:=a9C (ks:=ks) (fun x hx=>hs x (by simp [hx])) a2 a3
    refine ⟨?_,b2,b3⟩
    unfold V7
    rw [a1]
    exact b1
theorem c3q {vs:List Nat} {i:Nat} (h:i<vs.length):(vs.map σ).getD i 0=σ (vs.getD i 0):=by simp [List.getD,h]
theorem b58 {t:List Nd} (ht:Z0 t) {nch:Nat} {ch names:List ByteArray} {vars:List Nat} {P:Nat->Prop} (hc:∀j,j<t.length->P j->∀k∈(nd t j).ks,P k) (hs:∀k,P k->a6l t nch ch names vars k):∀ (f k:Nat),k<t.length->P k->a14 (nd t k).kind->t.length-k<f->StC σ l c names vars (M9 t ch f) k
 | 0,k,_,_,_,hf=>by omega
 | f+1,k,hk,hP,hst,hf=>by
   intro p frm to hn hv
   have hno:=ht.node k hk
   have hks:=ht.ks hk
   have hS:=hs k hP
   have bl:∀b∈(nd t k).ks,(nd t b).kind=16->∀x∈(nd t b).ks,StC σ l c names vars (M9 t ch f) x:=fun b hb hb16 x hx=>by
    have h1:=hks b hb
    have h2:=ht.ks h1.2 x hx
    exact b58 ht hc hs f x h2.2 (hc b h1.2 (hc k hk hP b hb) x hx) ((ht.node b h1.2).block hb16 x hx) (by omega)
   have hvar:∀s,0<names.length->((((ren σ l c p).vars.getD (a0i (ren σ l c p).names s) 0:Nat):Int))=a5S σ ((p.vars.getD (a0i p.names s) 0:Nat):Int):=fun s h0=>by
    rw [c1m]
    show (((p.vars.map σ).getD (a0i p.names s) 0:Nat):Int)=_
    rw [c3q (by rw [hv,hn,<- hS.same];exact a6B h0)]
   have ip:=a51 p frm ((nd t k).num 0)
   unfold M9
   simp only
   by_cases c6:(nd t k).kind=6
   ·rw [if_pos c6,if_pos c6,hvar _ (hS.v (.inl c6)),a8d]
    exact ⟨rfl,hn,hv⟩
   rw [if_neg c6,if_neg c6]
   by_cases c7:(nd t k).kind=7
   ·rw [if_pos c7,if_pos c7,a2u]
    exact ⟨rfl,hn,hv⟩
   rw [if_neg c7,if_neg c7]
   by_cases c8:(nd t k).kind=8
   ·rw [if_pos c8,if_pos c8,hvar _ (hS.v (.inr c8)),b0D,a8d]
    exact ⟨rfl,ip.2.2.2.trans hn,ip.2.2.1.trans hv⟩
   rw [if_neg c8,if_neg c8]
   by_cases c9:(nd t k).kind=9
   ·rw [if_pos c9,if_pos c9,b0D,a2u]
    exact ⟨rfl,ip.2.2.2.trans hn,ip.2.2.1.trans hv⟩
   rw [if_neg c9,if_neg c9]
   by_cases c10:(nd t k).kind=10
   ·rw [if_pos c10,if_pos c10,b0D]
    have h1:=hno.choose c10
    exact a9C (fun b hb=>bl b hb (h1.2 b hb)) (ip.2.2.2.trans hn) (ip.2.2.1.trans hv)
   rw [if_neg c10,if_neg c10]
   by_cases c11:(nd t k).kind=11
   ·rw [if_pos c11,if_pos c11]
    obtain ⟨l1,l2,l3,l4⟩:=hno.cond c11
    have m1:=V6 (x:=nd t k) (i:=1) (by omega)
    obtain ⟨a1,a2,a3⟩:=a3H (node:=(nd t k).kid 1) (ks:=(nd t ((nd t k).kid 1)).ks) (p:=p.place.put frm p.places 4 k ((nd t k).kid 0:Nat) (-1) (-1)) (frm:=p.places) (to:=to) (bl _ m1 l3) hn hv
    rw [a5R,a5M,a2u]
    unfold V7
    rw [a1]
    generalize a0Q (M9 t ch f) ((nd t k).kid 1) (p.place.put frm p.places 4 k ((nd t k).kid 0:Nat) (-1) (-1)) (nd t ((nd t k).kid 1)).ks p.places to=q at *
    split
    ·rw [a2u]
     exact ⟨rfl,a2,a3⟩
    ·have m2:=V6 (x:=nd t k) (i:=2) (by omega)
     obtain ⟨b1,b2,b3⟩:=a3H (node:=(nd t k).kid 2) (ks:=(nd t ((nd t k).kid 2)).ks) (p:=q.place.put frm q.places 5 k ((nd t k).kid 0:Nat) (-1) (-1)) (frm:=q.places) (to:=to) (bl _ m2 (l4 (by omega))) a2 a3
     rw [a5R,a5M,a2u,b1]
     exact ⟨rfl,b2,b3⟩
   rw [if_neg c11,if_neg c11]
   by_cases c12:(nd t k).kind=12
   ·rw [if_pos c12,if_pos c12]
    obtain ⟨l1,l2,l3⟩:=hno.loop c12
    have m1:=V6 (x:=nd t k) (i:=1) (by omega)
    obtain ⟨a1,a2,a3⟩:=a3H (node:=(nd t k).kid 1) (ks:=(nd t ((nd t k).kid 1)).ks) (p:=(p.place.put frm p.places 4 k ((nd t k).kid 0:Nat) (-1) (-1)).put frm to 5 k ((nd t k).kid 0:Nat) (-1) (-1)) (frm:=p.places) (to:=frm) (bl _ m1 l3) hn hv
    rw [a5R,a5M,a2u,a2u]
    unfold V7
    rw [a1]
    exact ⟨rfl,a2,a3⟩
   rw [if_neg c12,if_neg c12]
   by_cases c13:(nd t k).kind=13
   ·rw [if_pos c13,if_pos c13]
    obtain ⟨l1,l2⟩:=hno.atom c13
    have m0:=V6 (x:=nd t k) (i:=0) (by omega)
    obtain ⟨a1,a2,a3⟩:=a3H (node:=(nd t k).kid 0) (ks:=(nd t ((nd t k).kid 0)).ks) (p:=p) (frm:=frm) (to:=to) (bl _ m0 l2) hn hv
    unfold V7
    rw [a1]
    refine ⟨?_,a2,a3⟩
    have e:(ren σ l c p).edges.length=p.edges.length:=by simp [ren]
    rw [e]
    generalize a0Q (M9 t ch f) ((nd t k).kid 0) p (nd t ((nd t k).kid 0)).ks frm to=q
    show ({ ren σ l c q with edges:=a0o p.edges.length to (q.edges.map (a4D σ)) }:Pr)=_
    rw [c1b]
    rfl
   rw [if_neg c13,if_neg c13]
   by_cases c15:(nd t k).kind=15
   ·rw [if_pos c15,if_pos c15,a2u]
    exact ⟨rfl,hn,hv⟩
   rw [if_neg c15,if_neg c15,a2u]
   exact ⟨rfl,hn,hv⟩
def a4Z (g d:Nat) (v:Nat):Nat:=if v<g then v else v+d
theorem c58 {t:List Nd} (h:N6 t) (hS:a0s t) {o o':Org} (ho:o∈T8 t) (hk:o'.k=o.k) (hs:o'.seen=o.seen) (hnv:o.nv<=o'.nv):a0j t o'=ren (a4Z (gat t).vs.length (o'.nv-o.nv)) (pr1 t o').locals o'.c (a0j t o):=by
 obtain ⟨vs,v1,v2,v3,v4⟩:=a6I ho
 have hok:=a2G ho
 have hlo:=hok.lo
 obtain ⟨b,b1,hsub,k2,_,hsg⟩:=a5y h hS ho
 have hpc:=a4u ((h.ok.node o.k k2).proc hok.kind)
 have hclo:∀j,j<t.length->(o.k<=j/\j<b)->∀k∈(nd t j).ks,o.k<=k/\k<b:=fun j _ hj k hk=>by
  obtain ⟨z,hz,rfl⟩:=List.mem_map.1 hk
  have:=hsub.down j hj.1 hj.2 z hz
  omega
 have e0:pr1 t o'=ren (a4Z (gat t).vs.length (o'.nv-o.nv)) (pr1 t o').locals o'.c (pr1 t o):=by
  unfold ren
  simp only [pr1,hk,hs,List.map_nil,List.map_append,List.map_map]
  congr 1
  congr 1
  ·symm
   rw [List.map_congr_left (g:=id)]
   ·simp
   ·intro v hv
    rw [List.mem_range] at hv
    unfold a4Z
    rw [if_pos (by omega)]
    rfl
  ·refine List.map_congr_left fun v _=>?_
   simp only [Function.comp_apply,a4Z]
   rw [if_neg (by omega)]
   omega
 have e1:∀k∈(nd t o.k).ks.drop (N4 t (nd t o.k)),StC (a4Z (gat t).vs.length (o'.nv-o.nv)) (pr1 t o').locals o'.c (pr1 t o).names (pr1 t o).vars (M9 t (chs t) (t.length+1)) k:=fun k hk=>by
  have hst:=hpc.1 k hk
  have hkm:=List.mem_of_mem_drop hk
  have hkk:=h.ok.ks k2 k hkm
  exact b58 h.ok hclo hsg (t.length+1) k hkk.2 (hclo o.k k2 ⟨Nat.le_refl _,hsub.lt⟩ k hkm) hst (by omega)
 unfold a0j
 rw [hk]
 conv=>lhs;rw [e0]
 exact (a3H e1 rfl rfl).1
def a7s (t:List Nd) (l:List Org):Prop:=∀j (hj:j<l.length),0<l[j].c->∃i,∃hi:i<l.length,j=i+1/\l[i].k=l[j].k/\l[i].seen=l[j].seen/\l[i].c+1=l[j].c/\l[i].nv+N4 t (nd t l[j].k)=l[j].nv
theorem c5J {t:List Nd} {l:List Org} {k seen nv n:Nat} (h:a7s t l):a7s t (l++a2o t k seen nv n):=by
 intro j hj hc
 by_cases hl:j<l.length
 ·rw [List.getElem_append_left hl] at hc
  obtain ⟨i,hi,rfl,h1,h2,h3,h4⟩:=h j hl hc
  refine ⟨i,by rw [List.length_append];omega,rfl,?_⟩
  rw [List.getElem_append_left hi,List.getElem_append_left hl]
  exact ⟨h1,h2,h3,h4⟩
 ·rw [List.getElem_append_right (by omega)] at hc
  have hl2:j-l.length<n:=by rw [List.length_append] at hj;simp [a2o] at hj;omega
  simp only [a2o,List.getElem_map,List.getElem_range] at hc
  refine ⟨j-1,by omega,by omega,?_⟩
  rw [List.getElem_append_right (by omega),List.getElem_append_right (by omega)]
  simp only [a2o,List.getElem_map,List.getElem_range]
  refine ⟨trivial,trivial,by omega,?_⟩
  have:j-l.length=(j-1-l.length)+1:=by omega
  rw [this,Nat.succ_mul]
  omega
theorem c5b (t:List Nd):a7s t (T8 t):=by
 unfold T8 a0e
 refine a4E (P:=fun a:Gc=>a7s t a.l) (fun j hj=>by simp at hj) fun a k _ ha=>?_
 unfold a17
 split
 ·exact c5J ha
 ·split<;>exact ha
theorem c3N (t:List Nd) (o:Org) (h:N6 t) (hS:a0s t) (ho:o∈T8 t):(a0j t o).copy=o.c:=(a3g h hS ho).2.copy
end Go.V
namespace Go.V
def a1E (mo:Mo) (p:Pr) (e:Ed):Ft:=if 0<=e.expr then Y8 mo.tree (mo.chans.map Ch.name) (varB p.names p.vars) (mo.tree.length+1) e.expr.toNat ⟨0,0,0,0,0,false⟩ else ⟨0,0,0,0,0,false⟩
def a1g (e:Ed) (f:Ft):Ft :=
 if e.act=1 then { f with writes:=Z5 e.var }
 else if e.act=2 then { f with sends:=Z5 e.chan }
 else if e.act=3 then { f with writes:=Z5 e.var,recvs:=Z5 e.chan } else f
theorem a5w (mo:Mo) (p:Pr) (e:Ed):O1 mo p e=a1g e (a1E mo p e):=rfl
end Go.V
namespace Go.V
theorem b5J {α:Type} {P:List α->Prop} (h0:P []) (h1:∀l a,P l->P (l++[a])):∀l,P l:=by
 intro l
 have:∀r:List α,P r.reverse:=by
  intro r
  induction r with
  | nil=>exact h0
  | cons a r ih=>rw [List.reverse_cons];exact h1 _ _ ih
 have h:=this l.reverse
 rwa [List.reverse_reverse] at h
def a8R:Nat->List (Nat×Nat)->List Nat
 | _,[]=>[]
 | k,p::r=>if p=(0,0)/\0<k then k::a8R (k+1) r else a8R (k+1) r
structure Gr.WF (G:Gr):Prop where
 pos:G.nodes[0]?=some (0,0)
 nodes:∀ (n:Nat) (p:Nat×Nat),G.nodes[n]?=some p->p=(0,0)∨(2<=p.1/\p.1<p.2/\p.2<2*n)
 ins:G.ins=a8R 0 G.nodes
 known:∀ (p:Nat×Nat) (n:Nat),find p G.known=some n↔p≠(0,0)/\G.nodes[n]?=some p
theorem Gr.WF.len {G:Gr} (h:G.WF):0<G.nodes.length:=by
 have:=h.pos
 rcases Nat.eq_zero_or_pos G.nodes.length with h0 | h0
 ·rw [List.getElem?_eq_none (by omega)] at this;cases this
 ·exact h0
theorem Gr.WF.lt {G:Gr} (h:G.WF):∀p n,find p G.known=some n->n<G.nodes.length:=by
 intro p n hf
 have:=(h.known p n).1 hf
 rcases Nat.lt_or_ge n G.nodes.length with h1 | h1
 ·exact h1
 ·rw [List.getElem?_eq_none h1] at this;cases this.2
def evL (vs:List Bool) (e:Nat):Bool:=vs.getD (e / 2) false != (e % 2==1)
def a9w (m:List Bool) (st:List Bool×Nat) (p:Nat×Nat):List Bool×Nat :=
 if p=(0,0) then (if st.1.length=0 then (st.1++[false],st.2) else (st.1++[m.getD st.2 false],st.2+1))
 else (st.1++[evL st.1 p.1&&evL st.1 p.2],st.2)
def a7Z (m:List Bool) (nodes:List (Nat×Nat)):List Bool×Nat:=nodes.foldl (a9w m) ([],0)
def vals (m:List Bool) (nodes:List (Nat×Nat)):List Bool:=(a7Z m nodes).1
def Gr.ev (G:Gr) (m:List Bool) (e:Nat):Bool:=evL (vals m G.nodes) e
theorem c3f (m:List Bool) (l:List (Nat×Nat)) (p:Nat×Nat):a7Z m (l++[p])=a9w m (a7Z m l) p:=by simp [a7Z,List.foldl_append]
theorem b19 (m:List Bool) (l:List (Nat×Nat)) (p:Nat×Nat):∃v,vals m (l++[p])=vals m l++[v]:=by
 simp only [vals,c3f,a9w]
 split
 ·split<;>exact ⟨_,rfl⟩
 ·exact ⟨_,rfl⟩
theorem c5U (m:List Bool) (l k:List (Nat×Nat)):∃t,vals m (l++k)=vals m l++t:=by
 induction k using b5J with
 | h0=>exact ⟨[],by simp⟩
 | h1 k p ih =>
   obtain ⟨t,ht⟩:=ih
   obtain ⟨v,hv⟩:=b19 m (l++k) p
   exact ⟨t++[v],by rw [<- List.append_assoc,hv,ht,List.append_assoc]⟩
theorem c3B (m:List Bool) (l:List (Nat×Nat)):(vals m l).length=l.length:=by
 induction l using b5J with
 | h0=>rfl
 | h1 l p ih =>
   obtain ⟨v,hv⟩:=b19 m l p
   rw [hv];simp [ih]
theorem b9L {l t:List Bool} {e:Nat} (h:e / 2<l.length):evL (l++t) e=evL l e:=by
 simp only [evL]
 congr 1
 simp [List.getD,List.getElem?_append_left h]
def Gr.Ext (G G':Gr):Prop:=∃l,G'.nodes=G.nodes++l
theorem Gr.Ext.refl (G:Gr):Gr.Ext G G:=⟨[],by simp⟩
theorem Gr.Ext.trans {A B C:Gr} (h:Gr.Ext A B) (k:Gr.Ext B C):Gr.Ext A C:=by
 obtain ⟨l,hl⟩:=h
 obtain ⟨r,hr⟩:=k
 exact ⟨l++r,by rw [hr,hl,List.append_assoc]⟩
theorem Gr.Ext.le {G G':Gr} (h:Gr.Ext G G'):G.nodes.length<=G'.nodes.length:=by
 obtain ⟨l,hl⟩:=h
 rw [hl];simp
theorem Gr.Ext.ev {G G':Gr} (h:Gr.Ext G G') {m:List Bool} {e:Nat} (he:e<2*G.nodes.length):G'.ev m e=G.ev m e:=by
 obtain ⟨l,hl⟩:=h
 obtain ⟨t,ht⟩:=c5U m G.nodes l
 simp only [Gr.ev,hl,ht]
 exact b9L (by rw [c3B];omega)
theorem Gr.Ext.get {G G':Gr} (h:Gr.Ext G G') {n:Nat} {p:Nat×Nat} (hp:G.nodes[n]?=some p):G'.nodes[n]?=some p:=by
 obtain ⟨l,hl⟩:=h
 rw [hl,List.getElem?_append_left,hp]
 rcases Nat.lt_or_ge n G.nodes.length with h1 | h1
 ·exact h1
 ·rw [List.getElem?_eq_none h1] at hp;cases hp
structure Gr.Ok (G G':Gr) (k:Nat):Prop where
 wf:G'.WF
 ext:Gr.Ext G G'
 len:G'.nodes.length<=G.nodes.length+k
 one:G.nodes.length=1->G'.nodes.length=1
 ins:G'.ins=G.ins
theorem Gr.Ok.refl {G:Gr} (h:G.WF):Gr.Ok G G 0:=⟨h,Gr.Ext.refl G,by omega,fun h=>h,rfl⟩
theorem Gr.Ok.trans {A B C:Gr} {j k:Nat} (h:Gr.Ok A B j) (l:Gr.Ok B C k):Gr.Ok A C (j+k):=⟨l.wf,h.ext.trans l.ext,by have:=h.len;have:=l.len;omega,fun e=>l.one (h.one e),l.ins.trans h.ins⟩
theorem Gr.Ok.weaken {A B:Gr} {j k:Nat} (h:Gr.Ok A B j) (l:j<=k):Gr.Ok A B k:=⟨h.wf,h.ext,by have:=h.len;omega,h.one,h.ins⟩
theorem Gr.and_again {G G':Gr} (h:G.WF) {a b:Nat} (hx:Gr.Ext (G.and a b).2 G') (hw:G'.WF):G'.and b a=((G.and a b).1,G'):=by
 unfold Gr.and at *
 rw [Nat.min_comm b a,Nat.max_comm b a]
 by_cases h1:min a b=0∨min a b=b5S (max a b)
 ·simp only [if_pos h1]
 ·by_cases h2:min a b=1∨min a b=max a b
  ·simp only [if_neg h1,if_pos h2]
  ·have hp:(min a b,max a b)≠(0,0):=by
    intro he
    simp only [Prod.mk.injEq] at he
    exact h1 (.inl he.1)
   simp only [if_neg h1,if_neg h2] at hx ⊢
   cases hf:find (min a b,max a b) G.known with
   | some n =>
     simp only [hf] at hx ⊢
     have hk:=(h.known _ _).1 hf
     rw [(hw.known _ _).2 ⟨hp,hx.get hk.2⟩]
   | none =>
     simp only [hf] at hx ⊢
     rw [(hw.known (min a b,max a b) G.nodes.length).2 ⟨hp,hx.get (by simp)⟩]
def Gr.new:Gr:=⟨[(0,0)],[],[]⟩
def Gr.Laid (G:Gr) (a b e:Nat):Prop:=∀G',Gr.Ext G G'->G'.WF->G'.and b a=(e,G')
theorem Gr.laid {G:Gr} (h:G.WF) (a b:Nat):Gr.Laid (G.and a b).2 a b (G.and a b).1:=fun _ hx hw=>Gr.and_again h hx hw
theorem Gr.Laid.mono {G G':Gr} {a b e:Nat} (h:Gr.Laid G a b e) (hx:Gr.Ext G G'):Gr.Laid G' a b e:=fun G'' hx' hw=>h G'' (hx.trans hx') hw
def RdF (s:f6) (ids:List Nat) (d:D) (l:List D):Prop:=Rd s d l/\∀id off n,d=.arr id off n 1->id∉ids
theorem RdF.fr {s s':f6} {ids ids':List Nat} {d:D} {l:List D} (h:RdF s ids d l) (hf:Fr ids s s') (hm:∀i∈ids',i∈ids∨s.next<=i):RdF s' ids' d l:=by
 obtain ⟨h1,h2⟩:=h
 have lt:∀id off n,d=.arr id off n 1->id<s.next:=by
  rintro id off n rfl
  rcases h1 with ⟨h,_⟩ | h | ⟨id',off',cs,h,hg,_⟩
  ·cases h
  ·cases h
  ·cases h;exact M5 hg
 refine ⟨h1.stay fun id off n hd=>hf.2 id (lt id off n hd) (h2 id off n hd),fun id off n hd hc=>?_⟩
 rcases hm id hc with h | h
 ·exact h2 id off n hd h
 ·have:=lt id off n hd;omega
theorem RdF.step {s s':f6} {g:Nat} {ids ids':List Nat} {G':Gr} {d:D} {l:List D} (h:RdF s ids d l) (hs:a1u s g ids s' G' ids'):RdF s' ids' d l:=h.fr hs.2.1 hs.2.2
theorem RdF.newer {s s':f6} {ids:List Nat} {d:D} {l:List D} (h:RdF s ids d l) (hf:Fr [] s s'):RdF s' ids d l:=h.fr (hf.weaken (by simp)) fun _ h=>.inl h
theorem RdF.of {s:f6} {d:D} {l:List D} {ids:List Nat} (h:∀s,Rd s d l):RdF s ids d l:=by
 refine ⟨h s,fun id off n he=>?_⟩
 subst he
 rcases h f6.empty with ⟨h,_⟩ | h | ⟨id',off',cs,h,hg,_⟩
 ·cases h
 ·cases h
 ·simp at hg
end Go.V
namespace Go.V
structure InW (V:List Bool) (ins:List Nat) (top i:Nat) (W:List Bool):Prop where
 len:W.length=top+1
 yes:∀n j,n<=top->j<i->ins[j]?=some n->W[n]?=V[n]?
 no:∀n,n<=top->(∀j,j<i->ins[j]?≠some n)->W[n]?=some false
theorem InW.zero {V:List Bool} {ins:List Nat} {top:Nat}:InW V ins top 0 (List.replicate (top+1) false) :=
 ⟨by simp,fun n j _ h=>by omega,fun n h _=>by rw [List.getElem?_replicate,if_pos (by omega)]⟩
theorem InW.set {V W:List Bool} {ins:List Nat} {top i n:Nat} {b:Bool} (h:InW V ins top i W) (hn:ins[i]?=some n) (ht:n<=top) (hv:V[n]?=some b):InW V ins top (i+1) (W.set n b):=by
 refine ⟨by simp [h.len],fun k j hk hj he=>?_,fun k hk hj=>?_⟩
 ·by_cases e:n=k
  ·subst e
   rw [List.getElem?_set_self (by have:=h.len;omega),hv]
  ·rw [List.getElem?_set_ne e]
   by_cases e2:j=i
   ·subst e2;rw [hn] at he;cases he;exact absurd rfl e
   ·exact h.yes k j hk (by omega) he
 ·have e:n≠k:=fun e=>hj i (by omega) (by rw [hn,e])
  rw [List.getElem?_set_ne e]
  exact h.no k hk fun j hj'=>hj j (by omega)
theorem InW.same {V W:List Bool} {ins:List Nat} {top i n:Nat} (h:InW V ins top i W) (hn:ins[i]?=some n) (ht:n<=top) (hv:V[n]?=some false) (hnew:∀j,j<i->ins[j]?≠some n):InW V ins top (i+1) W:=by
 refine ⟨h.len,fun k j hk hj he=>?_,fun k hk hj=>h.no k hk fun j hj'=>hj j (by omega)⟩
 by_cases e2:j=i
 ·subst e2;rw [hn] at he;cases he
  rw [hv];exact h.no _ ht hnew
 ·exact h.yes k j hk (by omega) he
theorem InW.all {V W:List Bool} {ins:List Nat} {top:Nat} (h:InW V ins top ins.length W) {n:Nat} (hn:n∈ins) (ht:n<=top):W[n]?=V[n]?:=by
 obtain ⟨j,hj,rfl⟩:=List.getElem_of_mem hn
 exact h.yes _ j ht hj (List.getElem?_eq_getElem hj)
end Go.V
namespace Go.V
theorem Sl.newer {s s':f6} {d:D} {l:List D} {ids:List Nat} (h:Sl s d l ids) (hf:Fr [] s s'):Sl s' d l ids:=h.stay hf (by simp)
end Go.V
namespace Go.V
def a0R:List (Nat×Nat)->List D
 | []=>[]
 | p::r=>.bool (decide (p=(0,0)))::.int .i64 (p.1:Int)::.int .i64 (p.2:Int)::a0R r
@[simp] theorem a6T:∀ (l:List (Nat×Nat)),(a0R l).length=l.length*3
 | []=>rfl
 | p::r=>by simp only [a0R,List.length_cons,a6T r];omega
theorem b2B:∀ (l m:List (Nat×Nat)),a0R (l++m)=a0R l++a0R m
 | [],m=>rfl
 | p::r,m=>by simp [a0R,b2B r m]
theorem b1u:∀ {l:List (Nat×Nat)} {i:Nat} (h:i<l.length),(a0R l)[i*3]?=some (.bool (decide (l[i]=(0,0))))/\(a0R l)[i*3+1]?=some (.int .i64 (l[i].1:Int))/\(a0R l)[i*3+2]?=some (.int .i64 (l[i].2:Int))
 | p::r,0,h=>by simp [a0R]
 | p::r,i+1,h=>by
   have ih:=b1u (l:=r) (i:=i) (by simpa using h)
   rw [show (i+1)*3=i*3+1+1+1 by omega]
   simpa [a0R,Nat.add_right_comm] using ih
structure a13 (s:f6) (r:Nat) (N:List (Nat×Nat)) (dl:D) (ids:List Nat):Prop where
 obj:s.get r=some (.cells [dl])
 row:(dl=.nils/\N=[]/\ids=[r])∨∃id,dl=.arr id 0 N.length 3/\s.get id=some (.cells (a0R N))/\id≠r/\ids=[r,id]
theorem a13.one {s:f6} {r:Nat} {N:List (Nat×Nat)} {dl:D} {ids:List Nat} (h:a13 s r N dl ids):M8 dl=true:=by
 rcases h.row with ⟨rfl,_⟩ | ⟨id,rfl,_⟩<;>rfl
theorem a13.len {s:f6} {r:Nat} {N:List (Nat×Nat)} {dl:D} {ids:List Nat} (h:a13 s r N dl ids):V2 false dl=some (.int .i64 (N.length:Int)):=by
 rcases h.row with ⟨rfl,rfl,_⟩ | ⟨id,rfl,_⟩<;>rfl
theorem a13.idx {s:f6} {r:Nat} {N:List (Nat×Nat)} {dl:D} {ids:List Nat} (h:a13 s r N dl ids) {i:Nat} (hi:i<N.length) :
 ∃id,N2 3 dl (.int .i64 (i:Int))=some (.ptr id (i*3))/\ldV s.get none (.ptr id (i*3))=some (.bool (decide (N[i]=(0,0))))/\ldV s.get none (.ptr id (i*3+1))=some (.int .i64 (N[i].1:Int))/\ldV s.get none (.ptr id (i*3+2))=some (.int .i64 (N[i].2:Int)) /\
  ldV s.get (some 3) (.ptr id (i*3))=some (.agg [.bool (decide (N[i]=(0,0))),.int .i64 (N[i].1:Int),.int .i64 (N[i].2:Int)]):=by
 rcases h.row with ⟨_,rfl,_⟩ | ⟨id,rfl,hg,_,_⟩
 ·simp at hi
 ·obtain ⟨h1,h2,h3⟩:=b1u hi
  refine ⟨id,?_,?_,?_,?_,?_⟩
  ·rw [b52 rfl (by omega) (by omega)];simp
  ·simp only [ldV,hg,a0z,h1];rfl
  ·simp only [ldV,hg,a0z,h2];rfl
  ·simp only [ldV,hg,a0z,h3];rfl
  ·simp only [ldV,hg,a0z,a6T]
   rw [if_pos (by omega)]
   congr 2
   have hl:i*3+3<=(a0R N).length:=by rw [a6T];omega
   have e1:=List.getElem?_eq_some_iff.1 h1
   have e2:=List.getElem?_eq_some_iff.1 h2
   have e3:=List.getElem?_eq_some_iff.1 h3
   obtain ⟨q1,e1⟩:=e1
   obtain ⟨q2,e2⟩:=e2
   obtain ⟨q3,e3⟩:=e3
   rw [List.drop_eq_getElem_cons q1,List.drop_eq_getElem_cons q2,List.drop_eq_getElem_cons q3,e1,e2,e3]
   rfl
theorem a13.lt {s:f6} {r:Nat} {N:List (Nat×Nat)} {dl:D} {ids:List Nat} (h:a13 s r N dl ids):∀i∈ids,i<s.next:=by
 rcases h.row with ⟨_,_,rfl⟩ | ⟨id,_,hg,_,rfl⟩
 ·intro i hi;simp at hi;subst hi;exact M5 h.obj
 ·intro i hi;simp at hi
  rcases hi with rfl | rfl
  ·exact M5 h.obj
  ·exact M5 hg
theorem a13.stay {s s':f6} {r:Nat} {N:List (Nat×Nat)} {dl:D} {ids ids2:List Nat} (h:a13 s r N dl ids) (hf:Fr ids2 s s') (hd:∀i∈ids,i∉ids2):a13 s' r N dl ids:=by
 have hl:=h.lt
 rcases h.row with ⟨rfl,rfl,rfl⟩ | ⟨id,rfl,hg,hne,rfl⟩
 ·exact ⟨by rw [hf.2 r (hl r (by simp)) (hd r (by simp)),h.obj],.inl ⟨rfl,rfl,rfl⟩⟩
 ·exact ⟨by rw [hf.2 r (hl r (by simp)) (hd r (by simp)),h.obj],.inr ⟨id,rfl,by rw [hf.2 id (hl id (by simp)) (hd id (by simp)),hg],hne,rfl⟩⟩
theorem a13.app {s:f6} {r:Nat} {N:List (Nat×Nat)} {dl:D} {ids:List Nat} (h:a13 s r N dl ids) (p:Nat×Nat) (hN:N.length<1000000) :
 ∃s' id',V3 3 24 dl (.arr s.next 0 1 3) (s.push (.cells [.bool (decide (p=(0,0))),.int .i64 (p.1:Int),.int .i64 (p.2:Int)]))=some (.arr id' 0 (N.length+1) 3,s')/\s'.get id'=some (.cells (a0R (N++[p])))/\s.next<=id'/\Fr ids s s'/\s'.get r=some (.cells [dl])/\r<s'.next:=by
 have hr:=M5 h.obj
 have hg2:(s.push (.cells [.bool (decide (p=(0,0))),.int .i64 (p.1:Int),.int .i64 (p.2:Int)])).get s.next=some (.cells [.bool (decide (p=(0,0))),.int .i64 (p.1:Int),.int .i64 (p.2:Int)]):=P0 rfl
 have b1:∀n,n<=1000000->n*24<=2 ^ 45/\n<=2 ^ 45:=fun n hn=>⟨Nat.le_trans (Nat.mul_le_mul_right _ hn) (by decide),Nat.le_trans hn (by decide)⟩
 rcases h.row with ⟨rfl,rfl,rfl⟩ | ⟨id,rfl,hg,hne,rfl⟩
 ·refine ⟨(s.push (.cells [.bool (decide (p=(0,0))),.int .i64 (p.1:Int),.int .i64 (p.2:Int)])).push (.cells (a0R [p])),s.next+1,?_,P0 (by simp),by omega,(Fr.push _).thenPush _,?_,by simp;omega⟩
  ·unfold V3
   simp only [Z8,hg2,a1U,a0J,beq_self_eq_true]
   simp [a0R]
  ·rw [U5 (by simp;omega),U5 hr];exact h.obj
 ·have hl:=M5 hg
  refine ⟨((s.push (.cells [.bool (decide (p=(0,0))),.int .i64 (p.1:Int),.int .i64 (p.2:Int)])).set id none).push (.cells (a0R (N++[p]))),s.next+1,?_,P0 (by simp),by omega,((Fr.push _).thenSet _ (.inl (by simp))).thenPush _,?_,by simp;omega⟩
  ·have hg':(s.push (.cells [.bool (decide (p=(0,0))),.int .i64 (p.1:Int),.int .i64 (p.2:Int)])).get id=some (.cells (a0R N)):=by rw [U5 hl];exact hg
   have hb:=b1 (N.length+1) (by omega)
   unfold V3
   simp only [Z8,hg2,a1U,a0J,beq_self_eq_true,hg',a6T,Nat.zero_add]
   simp [b2B,a0R,hb.1,hb.2]
  ·rw [U5 (by simp;omega),O5 (fun e=>hne e.symm),U5 hr];exact h.obj
end Go.V
namespace Go.V
end Go.V
namespace Go.V
structure VI (s:f6) (ids:List Nat) (G:Gr) (d:D) (es:List Nat):Prop where
 rd:RdF s ids d (W1 es)
 lt:∀e∈es,e<2*G.nodes.length
theorem VI.step {s s':f6} {g:Nat} {ids ids':List Nat} {G G':Gr} {d:D} {es:List Nat} (h:VI s ids G d es) (hs:a1u s g ids s' G' ids') (hx:Gr.Ext G G'):VI s' ids' G' d es :=
 ⟨h.rd.step hs,fun e he=>by have:=h.lt e he;have:=hx.le;omega⟩
theorem VI.newer {s s':f6} {ids:List Nat} {G:Gr} {d:D} {es:List Nat} (h:VI s ids G d es) (hf:Fr [] s s'):VI s' ids G d es:=⟨h.rd.newer hf,h.lt⟩
theorem VI.of {s:f6} {ids:List Nat} {G:Gr} {id:Nat} {es:List Nat} {w:Nat} (h:s.get id=some (.cells (W1 es))) (hw:es.length=w) (hid:id∉ids) (hl:∀e∈es,e<2*G.nodes.length):VI s ids G (.arr id 0 w 1) es:=by
 subst hw
 refine ⟨⟨c0b h,fun id' off n he=>?_⟩,hl⟩
 cases he;exact hid
theorem a1u.wr {s s':f6} {g:Nat} {ids ids':List Nat} {G':Gr} (h:a1u s g ids s' G' ids') {id:Nat} (o:Option O3) (hid:id∉ids') (hl:s.next<=id):a1u s g ids (s'.set id o) G' ids' :=
 ⟨h.1.stay (ids2:=[id]) (Fr.set _ (by simp)) (by intro i hi hc;simp at hc;subst hc;exact hid hi),h.2.1.thenSet _ (.inr hl),h.2.2⟩
theorem a1u.nw {s s' s'':f6} {g:Nat} {ids ids':List Nat} {G':Gr} (h:a1u s g ids s' G' ids') (hf:Fr [] s' s''):a1u s g ids s'' G' ids' :=
 ⟨(h.1.newer hf).1,h.2.1.trans hf (by simp),h.2.2⟩
theorem Gr.Ok.get {G G':Gr} {k:Nat} (h:Gr.Ok G G' k) {m:List Bool} {e:Nat} (he:e<2*G.nodes.length):G'.ev m e=G.ev m e:=h.ext.ev he
end Go.V
namespace Go.V
theorem b1i {v w:Nat} (h:w<=v):(2:Int) ^ w ∣ 2 ^ v:=by
 obtain ⟨k,rfl⟩:∃k,v=w+k:=⟨v-w,by omega⟩
 rw [Int.pow_add];exact Int.dvd_mul_right _ _
theorem b3D {v w:Nat} (h:w<=v):(2:Int) ^ w<=2 ^ v:=by
 have:(2:Nat) ^ w<=2 ^ v:=Nat.pow_le_pow_right (by omega) h
 exact_mod_cast this
end Go.V
namespace Go.Proofs.YtnjlhebkhjcagaaGreat
open Go.V
set_option maxRecDepth 100000
set_option maxHeartbeats 4000000
theorem b47 {m:MdX} {mo:Mo} {ps:List (Pr×PrD)} (hm:MoF m mo ps) (ho:O4 mo) {vb:ByteArray->Nat} (hvb:∀w,vb w<4294967296) {fid idf:Nat} {caps:List D}:∀ (n k:Nat),k<mo.tree.length->mo.tree.length-k<n->a0M (nd mo.tree k).kind ->
 ∀ (s:f6) (f:Ft),s.get idf=some (.cells f.row)->f.Ok->(∀s',Fr [idf] s s'->∀w,Ev vfs fid (.str w::caps) s' (.int .u32 (vb w:Int)) s') ->
 EvP vfs 65 [.agg (N8 m),.int .i64 (k:Int),.ptr idf 0,.fn fid caps] s fun r s'=>r=.tup []/\s'.get idf=some (.cells (Y8 mo.tree (mo.chans.map Ch.name) vb n k f).row)/\Fr [idf] s s'/\(Y8 mo.tree (mo.chans.map Ch.name) vb n k f).Ok
 | 0,k,_,h,_=>by omega
 | n+1,k,hk,hn,hex=>by
   intro s f hf hfo hv
   have om:=hm.ones
   have hle:=ho.tree.le
   have hno:=ho.tree.node k hk
   have hidx:=hm.tr.at (z:=(k:Int)) (by omega) (by omega) (k:=.i64)
   rw [Int.toNat_natCast] at hidx
   have on:=a0B hm.tr hk
   have hfl:=M5 hf
   have hw:=a2J hm.tr hk (i:=0)
   have n0:=a2s hm.tr hk (i:=0)
   have z0:((0:Nat):Int)=0:=rfl
   rw [hno.wl,z0] at hw
   rw [hno.nl,z0] at n0
   have hkk:=FI.len (hm.tr.nd hk).k
   show EvP _ _ _ _ fun r s'=>r=.tup []/\s'.get idf=some (.cells ((nd mo.tree k).ks.foldl (fun f c=>Y8 mo.tree (mo.chans.map Ch.name) vb n c f) (S8 (mo.chans.map Ch.name) vb (nd mo.tree k) f)).row)/\Fr [idf] s s'/\((nd mo.tree k).ks.foldl (fun f c=>Y8 mo.tree (mo.chans.map Ch.name) vb n c f) (S8 (mo.chans.map Ch.name) vb (nd mo.tree k) f)).Ok
   have hr1:=b1U (x:=nd mo.tree k) hfo (ch:=mo.chans.map Ch.name) (by simpa using ho.nc) hvb
   unfold N8
   refine M6 (vf:=a9D) rfl ?_
   unfold a9D;refine zE ?_
   try refine zW (aN om (aN hidx on)) ?_
   have fr2:Fr [] s (((s.push (.cells [m.dt,.int .i64 m.g,m.dc,m.dv,m.dp,m.ds,.bool m.b])).push (.cells [.int .i64 0,.nils,.nils,.nils,.int .i64 0])).set (s.next+1) (some (.cells [.int .i64 (nd mo.tree k).kind,(nd mo.tree k).dw,(nd mo.tree k).dn,(nd mo.tree k).dk,.int .i64 (nd mo.tree k).pos]))):=((Fr.push _).thenPush _).thenSet _ (.inr (by omega))
   have b2:(((s.push (.cells [m.dt,.int .i64 m.g,m.dc,m.dv,m.dp,m.ds,.bool m.b])).push (.cells [.int .i64 0,.nils,.nils,.nils,.int .i64 0])).set (s.next+1) (some (.cells [.int .i64 (nd mo.tree k).kind,(nd mo.tree k).dw,(nd mo.tree k).dn,(nd mo.tree k).dk,.int .i64 (nd mo.tree k).pos]))).get s.next=some (.cells [m.dt,.int .i64 m.g,m.dc,m.dv,m.dp,m.ds,.bool m.b]):=by (simp (disch:=(first|with_reducible assumption|omega|((repeat (first|rw [nP]|rw [nS]))<;>omega)|fail)) only [U5,P0,O5,S0,f6.next_push,f6.next_set])
   have c2:(((s.push (.cells [m.dt,.int .i64 m.g,m.dc,m.dv,m.dp,m.ds,.bool m.b])).push (.cells [.int .i64 0,.nils,.nils,.nils,.int .i64 0])).set (s.next+1) (some (.cells [.int .i64 (nd mo.tree k).kind,(nd mo.tree k).dw,(nd mo.tree k).dn,(nd mo.tree k).dk,.int .i64 (nd mo.tree k).pos]))).get (s.next+1)=some (.cells [.int .i64 (nd mo.tree k).kind,(nd mo.tree k).dw,(nd mo.tree k).dn,(nd mo.tree k).dk,.int .i64 (nd mo.tree k).pos]):=by (simp (disch:=(first|with_reducible assumption|omega|((repeat (first|rw [nP]|rw [nS]))<;>omega)|fail)) only [U5,P0,O5,S0,f6.next_push,f6.next_set])
   have f2:=(fr2.2 idf hfl (by simp)).trans hf
   unfold Ft.row at f2
   generalize (((s.push (.cells [m.dt,.int .i64 m.g,m.dc,m.dv,m.dp,m.ds,.bool m.b])).push (.cells [.int .i64 0,.nils,.nils,.nils,.int .i64 0])).set (s.next+1) (some (.cells [.int .i64 (nd mo.tree k).kind,(nd mo.tree k).dw,(nd mo.tree k).dn,(nd mo.tree k).dk,.int .i64 (nd mo.tree k).pos])))=s2 at *
   have l2:=M5 c2
   have l2':=M5 f2
   have hv2:=hv s2 (fr2.weaken (by simp))
   refine a4p (P:=fun env s'=>s'.get idf=some (.cells (S8 (mo.chans.map Ch.name) vb (nd mo.tree k) f).row)/\Fr [idf] s s'/\s'.get s.next=some (.cells [m.dt,.int .i64 m.g,m.dc,m.dv,m.dp,m.ds,.bool m.b])/\s'.get (s.next+1)=some (.cells [.int .i64 (nd mo.tree k).kind,(nd mo.tree k).dw,(nd mo.tree k).dn,(nd mo.tree k).dk,.int .i64 (nd mo.tree k).pos])/\(env.get 2=.ptr idf 0/\env.get 3=.fn fid caps/\env.get 4=.ptr s.next 0/\env.get 8=.ptr (s.next+1) 0)) ?_ ?_
   ·by_cases q18:(nd mo.tree k).kind=18
    ·have q18':((nd mo.tree k).kind==18)=true:=by rw [q18];rfl
     rw [q18] at hw
     have hw:=hw (by decide)
     have hcl:=hv2 ((nd mo.tree k).word 0)
     have hor:=a5k hfo.r (hvb ((nd mo.tree k).word 0))
     have e:S8 (mo.chans.map Ch.name) vb (nd mo.tree k) f={ f with reads:=f.reads ||| vb ((nd mo.tree k).word 0) }:=by unfold S8;rw [if_pos q18]
     rw [e]
     repeat first
     |((with_reducible apply c2b);(focus rfl);(focus exact hcl))
     |refine zW (aN f2 (aN c2 (aN on (aN q18' (aN hw hor))))) ?_
     refine ⟨trivial,?_,?_,?_,?_,by simp [Env.get,P3.at]⟩
     ·rw [S0 l2'];rfl
     ·exact (fr2.weaken (by simp)).thenSet _ (.inl (by simp))
     ·rw [O5 (by omega),b2]
     ·rw [O5 (by omega),c2]
    have q18':((nd mo.tree k).kind==18)=false:=by rw [beq_eq_false_iff_ne];exact q18
    by_cases q19:(nd mo.tree k).kind=19
    ·have q19':((nd mo.tree k).kind==19)=true:=by rw [q19];rfl
     rw [q19] at hw
     have hw:=hw (by decide)
     have e:S8 (mo.chans.map Ch.name) vb (nd mo.tree k) f={ f with sizes:=f.sizes ||| chB (mo.chans.map Ch.name) ((nd mo.tree k).word 0) }:=by unfold S8;rw [if_neg q18,if_pos q19]
     have hlc:=hm.lenC
     have hnc:=ho.nc
     try refine zW (aN f2 (aN b2 (aN c2 (aN on (aN om (aN q18' (aN q19' hlc))))))) ?_
     refine a4p (P:=fun env s'=>s'.get idf=some (.cells (S8 (mo.chans.map Ch.name) vb (nd mo.tree k) f).row)/\Fr [idf] s s'/\s'.get s.next=some (.cells [m.dt,.int .i64 m.g,m.dc,m.dv,m.dp,m.ds,.bool m.b])/\s'.get (s.next+1)=some (.cells [.int .i64 (nd mo.tree k).kind,(nd mo.tree k).dw,(nd mo.tree k).dn,(nd mo.tree k).dk,.int .i64 (nd mo.tree k).pos])/\(env.get 2=.ptr idf 0/\env.get 3=.fn fid caps/\env.get 4=.ptr s.next 0/\env.get 8=.ptr (s.next+1) 0)) ?_ ?_
     rotate_left
     ·rintro env s' ⟨a1,a2,a3,a4,a5⟩
      exact ⟨rfl,a1,a2,a3,a4,a5⟩
     refine W2 (Q:=N5 1 _) (fun n env s'=>∃i:Nat,i<=mo.chans.length/\n=mo.chans.length-i/\Fr [] s2 s'/\(∀j (hj:j<mo.chans.length),j<i->mo.chans[j].name≠(nd mo.tree k).word 0)/\(env.get 2=.ptr idf 0/\env.get 3=.fn fid caps/\env.get 4=.ptr s.next 0/\env.get 8=.ptr (s.next+1) 0/\env.get 38=m.dc/\env.get 39=.int .i64 (mo.chans.length:Int)/\env.get 40=.int .i64 (i:Int))) ?_ mo.chans.length _ _ ⟨0,by omega,rfl,Fr.refl _ _,fun j _ h=>by omega,by simp [Env.get,P3.at]⟩
     rintro n env s' ⟨i,hi,rfl,fr3,hall,hE⟩
     have f3:=(fr3.2 idf l2' (by simp)).trans f2
     have b3:=(fr3.2 s.next (by omega) (by simp)).trans b2
     have c3:=(fr3.2 (s.next+1) l2 (by simp)).trans c2
     have l3:=M5 c3
     have l3':=M5 f3
     by_cases ci:i<mo.chans.length
     ·have ci':((i:Int)<(mo.chans.length:Int))=True:=eq_true (by omega)
      have hs1:IntKind.i64.wrap ((i:Int)+1)=((i+1:Nat):Int):=by rw [O7 (by omega) (by omega)];omega
      have hci:=FLC.idx hm.c ci (k:=.i64)
      unfold Ch.row at hci
      have fr4:∀z o,Fr [] s' ((s'.push z).set s'.next (some o)):=fun z o=>(Fr.push _).thenSet _ (.inr (Nat.le_refl _))
      by_cases ce:mo.chans[i].name=(nd mo.tree k).word 0
      ·have ce':decide (mo.chans[i].name=(nd mo.tree k).word 0)=true:=by simp [ce]
       have hb:=a4N (n:=(i:Int)) (by omega)
       have eb:chB (mo.chans.map Ch.name) ((nd mo.tree k).word 0)=Z5 (i:Int):=by
        unfold chB
        have hil:i<(mo.chans.map Ch.name).length:=by simpa using ci
        rw [a4v hil (by simpa using ce) (fun j hj hji=>by simpa using hall j (by simpa using hj) hji),if_pos hil,a2L]
       have hor:=a5k hfo.z (a5H (n:=(i:Int)) (by omega))
       rw [e,eb]
       repeat first
       |(apply M4 hb rfl;(focus (simp only [Env.evL,Env.ev,Env.get,Nat.reduceEqDiff,↓reduceIte,hE]));(focus rfl))
       |refine zW (aN hE (aN f3 (aN c3 (aN on (aN ci' (aN hci (aN ce' (aN hw hor)))))))) ?_
       have fr5:=(fr4 (.cells [.str (bs []),.int .i64 0,.int .i64 0,.bool false,.bool false]) (.cells [.str mo.chans[i].name,.int .i64 mo.chans[i].room,.int .i64 mo.chans[i].width,.bool mo.chans[i].lossy,.bool mo.chans[i].copying]))
       refine ⟨trivial,?_,?_,?_,?_,by simp [Env.get,hE]⟩
       ·rw [S0 (Nat.lt_of_lt_of_le l3' fr5.1)];rfl
       ·exact (((fr2.trans fr3 (by simp)).trans fr5 (by simp)).weaken (by simp)).thenSet _ (.inl (by simp))
       ·rw [O5 (by omega),fr5.2 _ (by omega) (by simp),b3]
       ·rw [O5 (by omega),fr5.2 _ (by omega) (by simp),c3]
      ·have ce':decide (mo.chans[i].name=(nd mo.tree k).word 0)=false:=by simp [ce]
       try refine zW (aN hE (aN f3 (aN c3 (aN on (aN ci' (aN hci (aN ce' (aN hw hs1)))))))) ?_
       refine ⟨mo.chans.length-(i+1),by omega,i+1,by omega,rfl,fr3.trans (fr4 _ _) (by simp),fun j hj hji=>?_,(rG hE)⟩
       by_cases ej:j=i
       ·subst ej;exact ce
       ·exact hall j hj (by omega)
     ·have ci':((i:Int)<(mo.chans.length:Int))=False:=eq_false (by omega)
      have eb:chB (mo.chans.map Ch.name) ((nd mo.tree k).word 0)=0:=by
       unfold chB
       rw [if_neg (a4L fun j hj=>by simpa using hall j (by simpa using hj) (by simp at hj;omega))]
      rw [e,eb,Nat.or_zero]
      try refine zW (aN hE ci') ?_
      exact ⟨trivial,f3,(fr2.trans fr3 (by simp)).weaken (by simp),b3,c3,(rG hE)⟩
    have q19':((nd mo.tree k).kind==19)=false:=by rw [beq_eq_false_iff_ne];exact q19
    by_cases q22:(nd mo.tree k).kind=22
    ·have q22':((nd mo.tree k).kind==22)=true:=by rw [q22];rfl
     rw [q22] at n0
     have n0:=n0 (by decide)
     by_cases q7:(nd mo.tree k).num 0=7
     ·have q7':((nd mo.tree k).num 0==7)=true:=by rw [q7];rfl
      have e:S8 (mo.chans.map Ch.name) vb (nd mo.tree k) f={ f with part:=true }:=by unfold S8;rw [if_neg q18,if_neg q19,if_pos ⟨q22,.inl q7⟩]
      rw [e]
      try refine zW (aN f2 (aN c2 (aN on (aN q18' (aN q19' (aN q22' (aN n0 q7'))))))) ?_
      refine ⟨trivial,?_,?_,?_,?_,by simp [Env.get,P3.at]⟩
      ·rw [S0 l2'];rfl
      ·exact (fr2.weaken (by simp)).thenSet _ (.inl (by simp))
      ·rw [O5 (by omega),b2]
      ·rw [O5 (by omega),c2]
     have q7':((nd mo.tree k).num 0==7)=false:=by rw [beq_eq_false_iff_ne];exact q7
     by_cases q8:(nd mo.tree k).num 0=8
     ·have q8':((nd mo.tree k).num 0==8)=true:=by rw [q8];rfl
      have e:S8 (mo.chans.map Ch.name) vb (nd mo.tree k) f={ f with part:=true }:=by unfold S8;rw [if_neg q18,if_neg q19,if_pos ⟨q22,.inr q8⟩]
      rw [e]
      try refine zW (aN f2 (aN c2 (aN on (aN q18' (aN q19' (aN q22' (aN n0 (aN q7' q8')))))))) ?_
      refine ⟨trivial,?_,?_,?_,?_,by simp [Env.get,P3.at]⟩
      ·rw [S0 l2'];rfl
      ·exact (fr2.weaken (by simp)).thenSet _ (.inl (by simp))
      ·rw [O5 (by omega),b2]
      ·rw [O5 (by omega),c2]
     have q8':((nd mo.tree k).num 0==8)=false:=by rw [beq_eq_false_iff_ne];exact q8
     have e:S8 (mo.chans.map Ch.name) vb (nd mo.tree k) f=f:=by unfold S8;rw [if_neg q18,if_neg q19,if_neg (by omega)]
     rw [e]
     try refine zW (aN f2 (aN c2 (aN on (aN q18' (aN q19' (aN q22' (aN n0 (aN q7' q8')))))))) ?_
     exact ⟨trivial,f2,fr2.weaken (by simp),b2,c2,by simp [Env.get,P3.at]⟩
    have q22':((nd mo.tree k).kind==22)=false:=by rw [beq_eq_false_iff_ne];exact q22
    have e:S8 (mo.chans.map Ch.name) vb (nd mo.tree k) f=f:=by unfold S8;rw [if_neg q18,if_neg q19,if_neg (by omega)]
    rw [e]
    try refine zW (aN f2 (aN c2 (aN on (aN q18' (aN q19' q22'))))) ?_
    exact ⟨trivial,f2,fr2.weaken (by simp),b2,c2,by simp [Env.get,P3.at]⟩
   clear f2 c2 b2 l2 l2' fr2 hv2
   clear s2
   rintro env s2 ⟨f2,fr2,b2,c2,hE⟩
   obtain ⟨hkl,hkx⟩:=a5s hno hex
   simp only [P7]
   try refine zW (aN hE (aN c2 (aN on hkk))) ?_
   generalize S8 (mo.chans.map Ch.name) vb (nd mo.tree k) f=f1 at *
   refine W2 (Q:=N5 3 _) (fun j env s'=>∃i:Nat,i<=(nd mo.tree k).kids.length/\j=(nd mo.tree k).kids.length-i/\s'.get idf=some (.cells (((nd mo.tree k).ks.take i).foldl (fun f c=>Y8 mo.tree (mo.chans.map Ch.name) vb n c f) f1).row)/\Fr [idf] s s'/\(((nd mo.tree k).ks.take i).foldl (fun f c=>Y8 mo.tree (mo.chans.map Ch.name) vb n c f) f1).Ok/\s'.get s.next=some (.cells [m.dt,.int .i64 m.g,m.dc,m.dv,m.dp,m.ds,.bool m.b])/\s.next≠idf/\(env.get 2=.ptr idf 0/\env.get 3=.fn fid caps/\env.get 4=.ptr s.next 0/\env.get 80=(nd mo.tree k).dk/\env.get 81=.int .i64 ((nd mo.tree k).kids.length:Int)/\env.get 82=.int .i64 (i:Int))) ?_ (nd mo.tree k).kids.length _ _ ⟨0,by omega,rfl,f2,fr2,hr1,b2,by omega,by simp [Env.get,hE]⟩
   clear hE b2 c2 f2 fr2
   rintro j env s' ⟨i,hi,rfl,f2,fr2,ho2,b2,hne,hE⟩
   have lb:=M5 b2
   by_cases c1:i<(nd mo.tree k).kids.length
   ·have c1':((i:Int)<((nd mo.tree k).kids.length:Int))=True:=eq_true (by omega)
    have hs1:IntKind.i64.wrap ((i:Int)+1)=((i+1:Nat):Int):=by rw [O7 (by omega) (by omega)];omega
    have hki:=a0D hm.tr ho.tree hk c1
    have hkm:=V6 c1
    have hkt:=a89 c1
    have hck:=ho.tree.ks hk _ hkm
    have hcx:=hkx i c1
    generalize (nd mo.tree k).kid i=K at *
    have hcal:=b47 hm ho hvb n K hck.2 (by omega) hcx s' _ f2 ho2 (fun s3 h3=>hv s3 (fr2.trans h3 (by simp)))
    unfold N8 at hcal
    try refine zW (aN hE (aN c1' (aN hki (aN b2 om)))) ?_
    apply V5 hcal
    ·simp only [Env.evL,Env.ev,Env.get,Nat.reduceEqDiff,↓reduceIte,hE]
    rintro r s3 ⟨rfl,f3,fr3,o3⟩
    have b3:=(fr3.2 s.next lb (by simpa using hne)).trans b2
    try refine zW (aN hE hs1) ?_
    refine ⟨(nd mo.tree k).kids.length-(i+1),by omega,i+1,by omega,rfl,?_,fr2.trans fr3 (by simp),?_,b3,hne,(rG hE)⟩
    ·rw [hkt,List.foldl_append];exact f3
    ·rw [hkt,List.foldl_append];exact o3
   ·have c1':((i:Int)<((nd mo.tree k).kids.length:Int))=False:=eq_false (by omega)
    obtain rfl:i=(nd mo.tree k).kids.length:=by omega
    have hall:(nd mo.tree k).ks.take (nd mo.tree k).kids.length=(nd mo.tree k).ks:=by rw [<- a0K,List.take_length]
    rw [hall] at f2 ho2
    try refine zW (aN hE c1') ?_
    exact ⟨.inl trivial,_,rfl,rfl,f2,fr2,ho2⟩
end Go.Proofs.YtnjlhebkhjcagaaGreat
namespace Go.Proofs.YtnjlhebkhjcagaaGreat
open Go.V
set_option maxRecDepth 100000
set_option maxHeartbeats 4000000
theorem b9b {m:MdX} {mo:Mo} {ps:List (Pr×PrD)} (hm:MoF m mo ps) (ho:O4 mo) {p i:Nat} (hp:p<mo.procs.length) (hi:i<mo.procs[p].edges.length) :
 Iso 41 [.agg (N8 m),.int .i64 (p:Int),.int .i64 (i:Int)] (.tup [.agg (O1 mo mo.procs[p] mo.procs[p].edges[i]).row,.bool true])/\(O1 mo mo.procs[p] mo.procs[p].edges[i]).Ok:=by
 suffices h:EvP vfs 41 [.agg (N8 m),.int .i64 (p:Int),.int .i64 (i:Int)] f6.empty fun r _=>r=.tup [.agg (O1 mo mo.procs[p] mo.procs[p].edges[i]).row,.bool true]/\(O1 mo mo.procs[p] mo.procs[p].edges[i]).Ok by
  obtain ⟨r,s,h1,rfl,h2⟩:=h
  exact ⟨⟨s,h1⟩,h2⟩
 have om:=hm.ones
 have hnv:=ho.nv
 have hpo:=ho.pr _ (List.getElem_mem hp)
 obtain ⟨x,hx,hxi⟩:=hm.proc hp
 have hxi:=hxi .i64
 have hlp:=hm.lenP
 have ox:=hx.ones
 have hle:=hx.lenE
 have hei:=FLE.idx hx.e hi (k:=.i64)
 have heo:=hpo.inv.ed _ (List.getElem_mem hi)
 generalize mo.procs[p].edges[i]=e at *
 have p1:((p:Int)<0)=False:=eq_false (by omega)
 have p2:((mo.procs.length:Int)<=(p:Int))=False:=eq_false (by omega)
 have i1:((i:Int)<0)=False:=eq_false (by omega)
 have i2:((mo.procs[p].edges.length:Int)<=(i:Int))=False:=eq_false (by omega)
 generalize mo.procs[p]=P at *
 have hvb:∀w,varB P.names P.vars w<4294967296:=fun w=>by
  unfold varB
  split
  ·rename_i hw
   rw [hpo.same] at hw
   refine a3t ?_
   have:=hpo.var _ (List.getElem_mem hw)
   simp only [List.getD,List.getElem?_eq_getElem hw,Option.getD_some]
   omega
  ·decide
 have hx':=hx
 unfold M1 at hxi
 unfold Ed.row at hei
 unfold N8
 generalize hf1:(if 0<=e.expr then Y8 mo.tree (mo.chans.map Ch.name) (varB P.names P.vars) (mo.tree.length+1) e.expr.toNat ⟨0,0,0,0,0,false⟩ else ⟨0,0,0,0,0,false⟩)=f1
 have hE:O1 mo P e=(if e.act=1 then { f1 with writes:=Z5 e.var } else if e.act=2 then { f1 with sends:=Z5 e.chan } else if e.act=3 then { f1 with writes:=Z5 e.var,recvs:=Z5 e.chan } else f1):=by unfold O1;rw [hf1]
 rw [hE]
 refine M6 (vf:=a8t) rfl ?_
 unfold a8t;refine zE ?_
 try refine zW (aN om (aN hlp (aN hxi (aN ox (aN hle (aN p1 (aN p2 (aN i1 (aN i2 hei))))))))) ?_
 simp only [P3.at,f6.next_push,f6.next_set,b4G,Nat.reduceAdd]
 refine c4K (Φ:=fun s=>s.get 0=some (.cells [m.dt,.int .i64 m.g,m.dc,m.dv,m.dp,m.ds,.bool m.b])/\s.get 1=some (.cells [.int .u32 0,.int .u32 0,.int .u32 0,.int .u32 0,.int .u32 0,.bool false])/\s.get 2=some (.cells [.str P.name,.int .i64 (P.copy:Int),x.dl,.int .i64 (P.places:Int),x.dr,x.de,x.dn,x.dv])/\s.get 3=some (.cells [.int .i64 (e.frm:Int),.int .i64 (e.to:Int),.int .i64 (e.act:Int),.int .i64 e.expr,.int .i64 e.var,.int .i64 e.chan,.bool e.keep,.int .i64 (e.node:Int)])/\s.get 4=some (.cells [.int .u32 0,.int .u32 0,.int .u32 0,.int .u32 0,.int .u32 0,.bool false])) ?_ ?_
 ·have ne:=b4G
  refine ⟨?_,?_,?_,?_,?_⟩<;>(simp (disch:=(first|with_reducible assumption|omega|((repeat (first|rw [nP]|rw [nS]))<;>omega)|fail)) only [U5,P0,O5,S0,f6.next_push,f6.next_set])
 rintro s ⟨g0,g1,g2,g3,g4⟩
 have l0:=M5 g0
 have l1:=M5 g1
 have l2:=M5 g2
 have l3:=M5 g3
 have l4:=M5 g4
 refine WP.mono (Q:=fun e' env s=>e'=.normal/\s.get 4=some (.cells f1.row)/\f1.Ok/\s.get 1=some (.cells [.int .u32 0,.int .u32 0,.int .u32 0,.int .u32 0,.int .u32 0,.bool false])/\s.get 3=some (.cells [.int .i64 (e.frm:Int),.int .i64 (e.to:Int),.int .i64 (e.act:Int),.int .i64 e.expr,.int .i64 e.var,.int .i64 e.chan,.bool e.keep,.int .i64 (e.node:Int)])/\(env.get 6=.ptr 1 0/\env.get 9=.ptr 3 0/\env.get 10=.ptr 4 0)) ?_ ?_
 ·by_cases ce:0<=e.expr
  ·have ce':((0:Int)<=e.expr)=True:=eq_true ce
   have ha:=heo.act
   have hac:e.act=1∨e.act=2∨e.act=4∨e.act=5:=by
    have h0:=heo.ex0
    omega
   obtain ⟨k,hk,hkl,hkx⟩:=heo.ex1 hac
   rw [if_pos ce,hk,Int.toNat_natCast] at hf1
   subst hf1
   have hcl:∀s',Fr [4] s s'->∀w,Ev vfs 66 (.str w::[.ptr 2 0]) s' (.int .u32 (varB P.names P.vars w:Int)) s':=fun s' hf w =>
    b8s hx (by rw [hf.2 2 l2 (by simp),g2];rfl) hpo.same (fun v hv=>by have:=hpo.var v hv;omega) (by
     have:=hpo.nl
     omega)
   have hcal:=b47 hm ho hvb (mo.tree.length+1) k hkl (by omega) hkx s ⟨0,0,0,0,0,false⟩ g4 a9d hcl
   rw [<- hk] at hcal
   unfold N8 at hcal
   try refine zW (aN ce' (aN g0 (aN g3 om))) ?_
   apply V5 hcal
   ·rfl
   rintro r s' ⟨rfl,f3,fr3,o3⟩
   try refine zW0 ?_
   exact ⟨trivial,f3,o3,by rw [fr3.2 1 l1 (by simp),g1],by rw [fr3.2 3 l3 (by simp),g3,hk],by simp [Env.get]⟩
  ·have ce':((0:Int)<=e.expr)=False:=eq_false ce
   rw [if_neg ce] at hf1
   subst hf1
   try refine zW ce' ?_
   exact ⟨trivial,g4,a9d,g1,g3,by simp [Env.get]⟩
 clear g0 g1 g2 g3 g4 l0 l1 l2 l3 l4
 rintro e' env s ⟨rfl,g4,hfo,g1,g3,hEn⟩
 have l1:=M5 g1
 have l4:=M5 g4
 unfold Ft.row at g4
 simp only [P7]
 have hvar:e.act=1∨e.act=3->e.var<32:=fun h=>by
  obtain ⟨n,hn,e1⟩:=heo.v1 h
  have:=hpo.var n hn
  omega
 have hcha:e.act=2∨e.act=3->e.chan<32:=fun h=>by
  obtain ⟨n,e1,hn⟩:=heo.c1 h
  have:=ho.nc
  omega
 by_cases a1:e.act=1
 ·have a1':((e.act:Int)==1)=true:=by rw [a1];rfl
  have hb:=a4N (hvar (.inl a1))
  have hbl:=a5H (hvar (.inl a1))
  rw [if_pos a1]
  repeat first
  |(apply M4 hb rfl;(focus (simp only [Env.evL,Env.ev,Env.get,Nat.reduceEqDiff,↓reduceIte,hEn]));(focus rfl))
  |refine zW (aN hEn (aN g3 (aN g4 (aN g1 a1')))) ?_
  refine ⟨.inr trivial,_,?_,rfl,⟨hfo.r,hbl,hfo.s,hfo.v,hfo.z⟩⟩
  ·simp only [V0,V4,W4,Env.get,Nat.reduceEqDiff,↓reduceIte,hEn,S0 (i:=1) (s:=s.set 4 _) (by simp only [f6.next_set];exact l1)]
   rfl
 have a1':((e.act:Int)==1)=false:=by rw [beq_eq_false_iff_ne];omega
 rw [if_neg a1]
 by_cases a2:e.act=2
 ·have a2':((e.act:Int)==2)=true:=by rw [a2];rfl
  have hb:=a4N (hcha (.inl a2))
  have hbl:=a5H (hcha (.inl a2))
  rw [if_pos a2]
  repeat first
  |(apply M4 hb rfl;(focus (simp only [Env.evL,Env.ev,Env.get,Nat.reduceEqDiff,↓reduceIte,hEn]));(focus rfl))
  |refine zW (aN hEn (aN g3 (aN g4 (aN g1 (aN a1' a2'))))) ?_
  refine ⟨.inr trivial,_,?_,rfl,⟨hfo.r,hfo.w,hbl,hfo.v,hfo.z⟩⟩
  ·simp only [V0,V4,W4,Env.get,Nat.reduceEqDiff,↓reduceIte,hEn,S0 (i:=1) (s:=s.set 4 _) (by simp only [f6.next_set];exact l1)]
   rfl
 have a2':((e.act:Int)==2)=false:=by rw [beq_eq_false_iff_ne];omega
 rw [if_neg a2]
 by_cases a3:e.act=3
 ·have a3':((e.act:Int)==3)=true:=by rw [a3];rfl
  have hb:=a4N (hvar (.inr a3))
  have hbl:=a5H (hvar (.inr a3))
  have hb2:=a4N (hcha (.inr a3))
  have hbl2:=a5H (hcha (.inr a3))
  rw [if_pos a3]
  repeat first
  |(apply M4 hb rfl;(focus (simp only [Env.evL,Env.ev,Env.get,Nat.reduceEqDiff,↓reduceIte,hEn]));(focus rfl))
  |(apply M4 hb2 rfl;(focus (simp only [Env.evL,Env.ev,Env.get,Nat.reduceEqDiff,↓reduceIte,hEn]));(focus rfl))
  |refine zW (aN hEn (aN g3 (aN g4 (aN g1 (aN a1' (aN a2' a3')))))) ?_
  refine ⟨.inr trivial,_,?_,rfl,⟨hfo.r,hbl,hfo.s,hbl2,hfo.z⟩⟩
  ·simp only [V0,V4,W4,Env.get,Nat.reduceEqDiff,↓reduceIte,hEn,S0 (i:=1) (s:=(s.set 4 _).set 4 _) (by simp only [f6.next_set];exact l1)]
   rfl
 have a3':((e.act:Int)==3)=false:=by rw [beq_eq_false_iff_ne];omega
 rw [if_neg a3]
 try refine zW (aN hEn (aN g3 (aN g4 (aN g1 (aN a1' (aN a2' a3')))))) ?_
 refine ⟨.inr trivial,_,?_,rfl,hfo⟩
 simp only [V0,V4,W4,Env.get,Nat.reduceEqDiff,↓reduceIte,hEn,S0 (i:=1) (s:=s) l1]
 rfl
end Go.Proofs.YtnjlhebkhjcagaaGreat
namespace Go.Proofs.YtnjlhebkhjcagaaGreat
open Go.V
set_option maxRecDepth 100000
theorem c6G:∃s',Ev vfs 11 [] f6.empty (.bool true) s':=b3y (n:=400) (by kernel_rfl)
theorem c31:∃s',Ev vfs 25 [] f6.empty (.bool true) s':=b3y (n:=400) (by kernel_rfl)
end Go.Proofs.YtnjlhebkhjcagaaGreat
namespace Go.V
variable {fs:FuncId->Option M3}
def a1B (fs:FuncId->Option M3) (f:FuncId) (args:List D) (d:D):Prop:=∃r s1,Ev fs f args f6.empty r s1/\ice s1.get 20 r=some d
theorem a1B.det {f:FuncId} {args:List D} {d d':D} (h:a1B fs f args d) (k:a1B fs f args d'):d=d':=by
 obtain ⟨r,s1,h1,h2⟩:=h
 obtain ⟨r',s1',k1,k2⟩:=k
 obtain ⟨rfl,rfl⟩:=h1.det k1
 rw [h2] at k2
 exact Option.some.inj k2
def PZ (d:D):Prop:=W3 d=true/\Fz d
theorem FL.pz {sz:Nat} {d:D} {rows:List (List D)} (h:FL sz d rows):PZ d:=⟨h.pure,h.fz⟩
theorem a4l {l:List D} (h:∀d∈l,W3 d=true/\∀g n,ice g (n+2) d=some d):PZ (.agg l):=⟨by
 show pureL l=true
 induction l with
 | nil=>rfl
 | cons a r ih=>simp only [pureL,(h a (by simp)).1,Bool.true_and];exact ih fun d hd=>h d (by simp [hd]),a5x fun d hd=>(h d hd).2⟩
def End (Q:X7->Env->f6->Prop) (e:X7) (env:Env) (s:f6):Prop:=Q e env s
def RgK (vars:List Nat) (Q:X7->Env->f6->Prop) (env:Env) (s:f6):Prop:=End Q .normal (env.keep vars) s
abbrev Kt:=Env->f6->Prop
abbrev Ops:=List (Nat×P1)
abbrev Prs:=List (Nat×Nat)
def a8h (pairs:Prs) (ops:Ops):Bool:=ops.all fun o=>pairs.all fun p=>p.2 != o.1
def XQ (fs:FuncId->Option M3):Prs->Ops->Env->f6->Kt->Prop
 | _,[],env,s,K=>K env s
 | pairs,(i,⟨dst,op,g⟩)::rest,env,s,K =>
   let run:Prop:=match dst,op with
    | some t,.p o=>match evP env o with
      | some d=>XQ fs pairs rest ((t,d)::env) s K
      | none=>False
    | some t,.r o=>match evR env s.get o with
      | some d=>XQ fs pairs rest ((t,d)::env) s K
      | none=>False
    | some t,.a o=>match pairs with
      | []=>match evA env o with
        | some (ob,m)=>XQ fs [] rest ((t,m.at s.next)::env) (s.push ob) K
        | none=>False
      | p::ps=>if a8h (p::ps) ((i,⟨some t,.a o,none⟩)::rest)=true then (match evA env o with
        | some (ob,m)=>XQ fs [] rest ((t,m.at s.next)::env) (s.push ob) K
        | none=>False) else WQ fs (p::ps) ((i,⟨some t,.a o,none⟩)::rest) env s K
    | none,.w n a v=>match pairs with
      | []=>match evW env s.get n a v with
        | some (id,ob)=>XQ fs [] rest env (s.set id (some ob)) K
        | none=>False
      | p::ps=>if a8h (p::ps) ((i,⟨none,.w n a v,none⟩)::rest)=true then (match evW env s.get n a v with
        | some (id,ob)=>XQ fs [] rest env (s.set id (some ob)) K
        | none=>False) else WQ fs (p::ps) ((i,⟨none,.w n a v,none⟩)::rest) env s K
    | some t,.m o=>match o,pairs with
      | .call .iso (.cst (.fn f [])) args,pairs=>match N1 (ice s.get 20) (env.evL args) with
        | some l=>∃d,a1B fs f l d/\(a0q d||pureL (env.evL args))=true/\XQ fs pairs rest ((t,d)::env) s K
        | none=>False
      | .append sz bytes a x,[]=>match V3 sz bytes (env.ev a) (env.ev x) s with
        | some (d,s')=>XQ fs [] rest ((t,d)::env) s' K
        | none=>False
      | .append sz bytes a x,p::ps=>if a8h (p::ps) ((i,⟨some t,.m (.append sz bytes a x),none⟩)::rest)=true then (match V3 sz bytes (env.ev a) (env.ev x) s with
        | some (d,s')=>XQ fs [] rest ((t,d)::env) s' K
        | none=>False) else WQ fs (p::ps) ((i,⟨some t,.m (.append sz bytes a x),none⟩)::rest) env s K
      | o,pairs=>WQ fs pairs ((i,⟨some t,.m o,none⟩)::rest) env s K
    | dst,op=>WQ fs pairs ((i,⟨dst,op,none⟩)::rest) env s K
   match g with
   | none=>run
   | some (r,b)=>Way (env.get r) b run (XQ fs pairs rest (env.put dst (.tup [])) s K)
def BP (r:Option D) (fs:FuncId->Option M3) (pairs:Prs) (t:Nat) (rest:Ops) (env:Env) (s:f6) (K:Kt):Prop:=match r with
 | some d=>XQ fs pairs rest ((t,d)::env) s K
 | none=>False
def BA (r:Option (O3×P3)) (fs:FuncId->Option M3) (t:Nat) (rest:Ops) (env:Env) (s:f6) (K:Kt):Prop:=match r with
 | some (ob,m)=>XQ fs [] rest ((t,m.at s.next)::env) (s.push ob) K
 | none=>False
def BW (r:Option (Nat×O3)) (fs:FuncId->Option M3) (rest:Ops) (env:Env) (s:f6) (K:Kt):Prop:=match r with
 | some (id,ob)=>XQ fs [] rest env (s.set id (some ob)) K
 | none=>False
def BM (r:Option (D×f6)) (fs:FuncId->Option M3) (t:Nat) (rest:Ops) (env:Env) (K:Kt):Prop:=match r with
 | some (d,s)=>XQ fs [] rest ((t,d)::env) s K
 | none=>False
def BC (fs:FuncId->Option M3) (f:FuncId) (l:List D) (p:Bool) (pairs:Prs) (t:Nat) (rest:Ops) (env:Env) (s:f6) (K:Kt):Prop:=∃d,a1B fs f l d/\(a0q d||p)=true/\XQ fs pairs rest ((t,d)::env) s K
def BL (r:Option (List D)) (p:Bool) (fs:FuncId->Option M3) (f:FuncId) (pairs:Prs) (t:Nat) (rest:Ops) (env:Env) (s:f6) (K:Kt):Prop:=match r with
 | some l=>BC fs f l p pairs t rest env s K
 | none=>False
def BF (b:Bool) (d:D) (fs:FuncId->Option M3) (pairs:Prs) (t:Nat) (rest:Ops) (env:Env) (s:f6) (K:Kt):Prop:=match b with
 | true=>XQ fs pairs rest ((t,d)::env) s K
 | false=>False
def GW (d:D) (b:Bool) (fs:FuncId->Option M3) (pairs:Prs) (x:Nat×P1) (t:Option Nat) (rest:Ops) (env:Env) (s:f6) (K:Kt):Prop:=Way d b (XQ fs pairs (x::rest) env s K) (XQ fs pairs rest (env.put t (.tup [])) s K)
def a7f (a b:Nat):Prop:=a≠b
def a2D (id:Nat):List Nat->Prop
 | []=>True
 | x::r=>a7f id x/\a2D id r
theorem a7l {id:Nat}:∀ {l:List Nat},a2D id l->id∉l
 | [],_=>by simp
 | x::r,h=>by
   have:=a7l h.2
   have h1:id≠x:=h.1
   simp [h1,this]
def a2F:Prs->Nat->Nat->Bool
 | [],_,_=>false
 | (a,b)::r,i,j=>match Nat.beq a i with
   | true=>match Nat.beq b j with
     | true=>true
     | false=>a2F r i j
   | false=>a2F r i j
theorem a7x:∀ {l:Prs} {i j:Nat},(i,j)∈l->a2F l i j=true
 | (a,b)::r,i,j,h=>by
   simp only [a2F]
   rcases List.mem_cons.1 h with h | h
   ·cases h
    have e:∀n:Nat,Nat.beq n n=true:=fun n=>Nat.beq_refl n
    rw [e,e]
   ·have ih:=a7x h
    split
    ·split
     ·rfl
     ·exact ih
    ·exact ih
def a3p (pairs:Prs) (i id:Nat):List Ent->Prop
 | []=>True
 | e::T=>(a2F pairs e.i i=true->a2D id e.eff)/\a3p pairs i id T
theorem b32 {pairs:Prs} {i id:Nat}:∀ {T:List Ent},a3p pairs i id T->∀e∈T,(e.i,i)∈pairs->id∉e.eff
 | e::T,h,x,hx,hp=>by
   rcases List.mem_cons.1 hx with rfl | hx
   ·exact a7l (h.1 (a7x hp))
   ·exact b32 h.2 x hx hp
def NeO (r:Option Nat) (id:Nat):Prop:=match r with
 | some x=>a7f x id
 | none=>True
def a3b (pairs:Prs) (i id:Nat):List Ent->Prop
 | []=>True
 | e::T=>(a2F pairs e.i i=true->NeO e.rd id/\a2D id e.eff)/\a3b pairs i id T
theorem b5q {pairs:Prs} {i id:Nat}:∀ {T:List Ent},a3b pairs i id T->∀e∈T,(e.i,i)∈pairs->e.rd≠some id/\id∉e.eff
 | e::T,h,x,hx,hp=>by
   rcases List.mem_cons.1 hx with rfl | hx
   ·obtain ⟨h1,h2⟩:=h.1 (a7x hp)
    refine ⟨fun he=>?_,a7l h2⟩
    rw [he] at h1;exact h1 rfl
   ·exact b5q h.2 x hx hp
def a2a (pairs:Prs) (i:Nat) (E:List Nat):List Ent->Prop
 | []=>True
 | e::T=>(a2F pairs e.i i=true->match e.rd with | some x=>a2D x E | none=>True)/\a2a pairs i E T
theorem b44 {pairs:Prs} {i:Nat} {E:List Nat}:∀ {T:List Ent},a2a pairs i E T->∀e∈T,(e.i,i)∈pairs->∀id,e.rd=some id->id∉E
 | e::T,h,x,hx,hp,id,hr=>by
   rcases List.mem_cons.1 hx with rfl | hx
   ·have h1:=h.1 (a7x hp)
    rw [hr] at h1
    exact a7l h1
   ·exact b44 h.2 x hx hp id hr
def XX (fs:FuncId->Option M3) (pairs:Prs):List Ent->Ops->Env->f6->Kt->Prop
 | _,[],env,s,K=>K env s
 | T,(i,⟨dst,op,g⟩)::rest,env,s,K =>
   let run:Prop:=match dst,op with
    | some t,.p o=>match evP env o with
      | some d=>XX fs pairs T rest ((t,d)::env) s K
      | none=>False
    | some t,.r (.load n x)=>match env.ev x with
      | .fp cs off=>match ldV s.get n (.fp cs off) with
        | some d=>XX fs pairs T rest ((t,d)::env) s K
        | none=>False
      | .ptr id off=>match ldV s.get n (.ptr id off) with
        | some d=>a3p pairs i id T/\XX fs pairs (⟨i,some id,[]⟩::T) rest ((t,d)::env) s K
        | none=>False
      | _=>False
    | some t,.a o=>match evA env o with
      | some (ob,m)=>XX fs pairs (⟨i,none,[s.next]⟩::T) rest ((t,m.at s.next)::env) (s.push ob) K
      | none=>False
    | none,.w n a v=>match env.ev a with
      | .ptr id _=>match evW env s.get n a v with
        | some (id',ob)=>id'=id/\a3b pairs i id T/\XX fs pairs (⟨i,some id,[id]⟩::T) rest env (s.set id (some ob)) K
        | none=>False
      | _=>False
    | some t,.m (.call .iso (.cst (.fn f [])) args)=>match N1 (ice s.get 20) (env.evL args) with
      | some l=>∃d,a1B fs f l d/\(a0q d||pureL (env.evL args))=true/\XX fs pairs T rest ((t,d)::env) s K
      | none=>False
    | some t,.m (.append sz bytes a x)=>∃d s' E,V3 sz bytes (env.ev a) (env.ev x) s=some (d,s')/\s.next<=s'.next/\(∀id,id∉E->s.get id=s'.get id)/\a2a pairs i E T/\XX fs pairs (⟨i,none,E⟩::T) rest ((t,d)::env) s' K
    | dst,op=>WX fs pairs T ((i,⟨dst,op,none⟩)::rest) env s K
   match g with
   | none=>run
   | some (r,b)=>Way (env.get r) b run (XX fs pairs T rest (env.put dst (.tup [])) s K)
theorem c07 {pairs T i t o r b rest s Q} {env:Env} {d:D} (hw:env.get r=d)
 (h:Way d b (WX fs pairs T ((i,⟨t,o,none⟩)::rest) env s Q) (WX fs pairs T rest (env.put t (.tup [])) s Q)):WX fs pairs T ((i,⟨t,o,some (r,b)⟩)::rest) env s Q:=by
 unfold Way at h
 split at h
 ·rename_i c
  by_cases hc:c=b
  ·rw [if_pos hc] at h;subst hc
   intro tr ht
   obtain ⟨n,env',s',h1,h2⟩:=h tr ht
   refine ⟨n,env',s',?_,h2⟩
   simp only [X0,a0t,hw,beq_self_eq_true] at h1 ⊢
   exact h1
  ·rw [if_neg hc] at h
   exact b3B (by simp only [a0t,hw];cases c<;>cases b<;>simp_all) h
 ·exact b3B (by simp only [a0t,hw]) h
 ·exact h.elim
theorem a2X {pairs:Prs}:∀ {T:List Ent} {ops:Ops} {env:Env} {s:f6} {K:Kt},XX fs pairs T ops env s K->WX fs pairs T ops env s K
 | T,[],env,s,K,h=>c3o h
 | T,(i,⟨dst,op,g⟩)::rest,env,s,K,h=>by
   have key:∀ (h:XX fs pairs T ((i,⟨dst,op,none⟩)::rest) env s K),WX fs pairs T ((i,⟨dst,op,none⟩)::rest) env s K:=by
    intro h
    unfold XX at h
    simp only at h
    split at h
    ·split at h
     ·rename_i d e;exact b95 e (a2X h)
     ·exact h.elim
    ·split at h
     ·rename_i e
      split at h
      ·rename_i d e2;exact c0t e e2 (a2X h)
      ·exact h.elim
     ·rename_i e
      split at h
      ·rename_i d e2;exact b8j e e2 (b32 h.1) (a2X h.2)
      ·exact h.elim
     ·exact h.elim
    ·split at h
     ·rename_i ob m e;exact b75 e (a2X h)
     ·exact h.elim
    ·split at h
     ·rename_i e
      split at h
      ·rename_i id' ob e2
       obtain ⟨rfl,h2,h3⟩:=h
       exact c2B e e2 (b5q h2) (a2X h3)
      ·exact h.elim
     ·exact h.elim
    ·split at h
     ·rename_i l hl
      obtain ⟨d,⟨r,s1,h1,h2⟩,h3,h4⟩:=h
      exact c3S rfl hl h1 h2 h3 (a2X h4)
     ·exact h.elim
    ·obtain ⟨d,s',E,h1,h2,h3,h4,h5⟩:=h
     exact c2C ⟨0,by simp only [evM];exact h1⟩ h3 h2 (b44 h4) (a2X h5)
    ·exact h
   cases g with
   | none=>exact key h
   | some rb =>
     obtain ⟨r,b⟩:=rb
     refine c07 (d:=env.get r) rfl ?_
     have h':Way (env.get r) b (XX fs pairs T ((i,⟨dst,op,none⟩)::rest) env s K) (XX fs pairs T rest (env.put dst (.tup [])) s K):=h
     unfold Way at h' ⊢
     split at h'
     ·rename_i c _
      split at h'
      ·rename_i hc;simp only [hc,if_true];exact key h'
      ·rename_i hc;simp only [hc,if_false];exact a2X h'
     ·exact a2X h'
     ·exact h'
def RX (fs:FuncId->Option M3) (pairs:Prs) (ops:Ops) (env:Env) (s:f6) (K:Kt):Prop:=match pairs with
 | []=>XQ fs [] ops env s K
 | p::ps=>XX fs (p::ps) [] ops env s K
def b3M (k:Env->f6->Prop) (Q:X7->Env->f6->Prop):X7->Env->f6->Prop
 | .normal,env,s=>k env s
 | e,env,s=>Q e env s
def YW (fs:FuncId->Option M3) (vars:List Nat):a0x->(X7->Env->f6->Prop)->Env->f6->Prop
 | .skip,Q,env,s=>End Q .normal env s
 | .region r,Q,env,s=>RX fs r.pairs r.ops env s (RgK vars Q)
 | .seq a b,Q,env,s=>YW fs vars a (b3M (YW fs vars b Q) Q) env s
 | .cond c x y,Q,env,s=>a1l (env.ev c) (YW fs vars x Q env s) (YW fs vars y Q env s)
 | .block id b,Q,env,s=>YW fs vars b (N5 id Q) env s
 | .loop b,Q,env,s=>WP fs vars (.loop b) env s Q
 | .exit id,Q,env,s=>End Q (.exit id) env s
 | .ret,Q,env,s=>End Q .ret env s
def a6w (fs:FuncId->Option M3) (vars:List Nat) (b:a0x) (Q:X7->Env->f6->Prop):X7->Env->f6->Prop
 | .normal,env,s=>YW fs vars b Q env s
 | e,env,s=>Q e env s
theorem a1D:∀ {pairs:Prs} {ops:Ops} {env:Env} {s:f6} {K:Kt},XQ fs pairs ops env s K->WQ fs pairs ops env s K
 | pairs,[],env,s,K,h=>b2S h
 | pairs,(i,⟨dst,op,g⟩)::rest,env,s,K,h=>by
   have key:∀ (h:XQ fs pairs ((i,⟨dst,op,none⟩)::rest) env s K),WQ fs pairs ((i,⟨dst,op,none⟩)::rest) env s K:=by
    intro h
    unfold XQ at h
    simp only at h
    split at h
    ·split at h
     ·rename_i d e;exact a7F e (a1D h)
     ·exact h.elim
    ·split at h
     ·rename_i d e;exact b2d e (a1D h)
     ·exact h.elim
    ·split at h
     ·split at h
      ·rename_i ob m e;exact a91 e (a1D h)
      ·exact h.elim
     ·split at h
      ·rename_i hf
       refine a73 hf ?_
       split at h
       ·rename_i ob m e;exact a91 e (a1D h)
       ·exact h.elim
      ·exact h
    ·split at h
     ·split at h
      ·rename_i ob m e;exact a7O e (a1D h)
      ·exact h.elim
     ·split at h
      ·rename_i hf
       refine a73 hf ?_
       split at h
       ·rename_i ob m e;exact a7O e (a1D h)
       ·exact h.elim
      ·exact h
    ·split at h
     ·split at h
      ·rename_i l hl
       obtain ⟨d,⟨r,s1,h1,h2⟩,h3,h4⟩:=h
       exact b1p hl h1 h2 h3 (a1D h4)
      ·exact h.elim
     ·split at h
      ·rename_i d s' e;exact b0o e (a1D h)
      ·exact h.elim
     ·split at h
      ·rename_i hf
       refine a73 hf ?_
       split at h
       ·rename_i d s' e;exact b0o e (a1D h)
       ·exact h.elim
      ·exact h
     ·exact h
    ·exact h
   cases g with
   | none=>exact key h
   | some rb =>
     obtain ⟨r,b⟩:=rb
     refine b1N (d:=env.get r) rfl ?_
     have h':Way (env.get r) b (XQ fs pairs ((i,⟨dst,op,none⟩)::rest) env s K) (XQ fs pairs rest (env.put dst (.tup [])) s K):=h
     unfold Way at h' ⊢
     split at h'
     ·rename_i c _
      split at h'
      ·rename_i hc;simp only [hc,if_true];exact key h'
      ·rename_i hc;simp only [hc,if_false];exact a1D h'
     ·exact a1D h'
     ·exact h'
theorem a4z {vars:List Nat}:∀ {c:a0x} {Q:X7->Env->f6->Prop} {env:Env} {s:f6},YW fs vars c Q env s->WP fs vars c env s Q
 | .skip,_,_,_,h=>b3m h
 | .region ⟨ops,[],dr⟩,Q,_,_,h=>b3N (a1D h)
 | .region ⟨ops,p::ps,dr⟩,Q,_,_,h=>c4Z (a2X h)
 | .seq a b,Q,env,s,h=>by
   refine b34 ((a4z (c:=a) h).mono fun e env s h=>?_)
   cases e with
   | normal=>exact a4z (c:=b) h
   | exit id=>exact h
   | ret=>exact h
 | .cond c x y,Q,env,s,h=>by
   refine b1H (d:=env.ev c) rfl ?_
   have h':a1l (env.ev c) (YW fs vars x Q env s) (YW fs vars y Q env s):=h
   unfold a1l at h' ⊢
   split at h'
   ·split at h'
    ·rename_i hc;simp only [hc,if_true];exact a4z h'
    ·rename_i hc;simp only [hc];exact a4z h'
   ·exact h'
 | .block id b,Q,env,s,h=>b2O (a4z (c:=b) h)
 | .loop b,Q,env,s,h=>h
 | .exit id,_,_,_,h=>b1n h
 | .ret,_,_,_,h=>b6i h
theorem b72 {vars b Q}:b3M (YW fs vars b Q) Q=a6w fs vars b Q:=by
 funext e env s
 cases e<;>rfl
theorem b88 {vars Q env s}:YW fs vars .skip Q env s=End Q .normal env s:=Eq.trans rfl rfl
theorem c6r {vars a b Q env s}:YW fs vars (.seq a b) Q env s=YW fs vars a (a6w fs vars b Q) env s:=by rw [<- b72];rfl
def CW (d:D) (fs:FuncId->Option M3) (vars:List Nat) (x y:a0x) (Q:X7->Env->f6->Prop) (env:Env) (s:f6):Prop:=a1l d (YW fs vars x Q env s) (YW fs vars y Q env s)
theorem b63 {vars c x y Q env s}:YW fs vars (.cond c x y) Q env s=CW (env.ev c) fs vars x y Q env s:=Eq.trans rfl rfl
theorem c5H {vars id b Q env s}:YW fs vars (.block id b) Q env s=YW fs vars b (N5 id Q) env s:=Eq.trans rfl rfl
theorem b6L {vars id Q env s}:YW fs vars (.exit id) Q env s=End Q (.exit id) env s:=Eq.trans rfl rfl
theorem b9M {vars b Q env s}:YW fs vars (.loop b) Q env s=WP fs vars (.loop b) env s Q:=Eq.trans rfl rfl
theorem b6U {vars Q env s}:YW fs vars .ret Q env s=End Q .ret env s:=Eq.trans rfl rfl
theorem c2T {pairs vars Q env s}:XQ fs pairs [] env s (RgK vars Q)=End Q .normal (env.keep vars) s:=Eq.trans rfl rfl
theorem c3K {pairs i t o r b rest env s K}:XQ fs pairs ((i,⟨t,o,some (r,b)⟩)::rest) env s K=GW (env.get r) b fs pairs (i,⟨t,o,none⟩) t rest env s K:=Eq.trans rfl rfl
theorem b5V {pairs i t f args rest env s K}:XQ fs pairs ((i,⟨some t,.m (.call .iso (.cst (.fn f [])) args),none⟩)::rest) env s K=BL (N1 (ice s.get 20) (env.evL args)) (pureL (env.evL args)) fs f pairs t rest env s K:=by
 unfold XQ BL BC;cases pairs<;>rfl
theorem b51 {pairs i t f args rest env s K}:XQ fs pairs ((i,⟨some t,.m (.call .raw f args),none⟩)::rest) env s K=WQ fs pairs ((i,⟨some t,.m (.call .raw f args),none⟩)::rest) env s K:=by cases pairs<;>rfl
theorem c2Z {i t sz bytes a x rest env s K}:XQ fs [] ((i,⟨some t,.m (.append sz bytes a x),none⟩)::rest) env s K=BM (V3 sz bytes (env.ev a) (env.ev x) s) fs t rest env K:=Eq.trans rfl rfl
theorem b9c {d pairs t rest env s K}:BP (some d) fs pairs t rest env s K=XQ fs pairs rest ((t,d)::env) s K:=Eq.trans rfl rfl
theorem c4z {ob t rest env s K}:BA (some (ob,.ptr)) fs t rest env s K=XQ fs [] rest ((t,.ptr s.next 0)::env) (s.push ob) K:=Eq.trans rfl rfl
theorem b9t {ob t rest env s K l sz}:BA (some (ob,.arr l sz)) fs t rest env s K=XQ fs [] rest ((t,.arr s.next 0 l sz)::env) (s.push ob) K:=Eq.trans rfl rfl
theorem c4B {id ob rest env s K}:BW (some (id,ob)) fs rest env s K=XQ fs [] rest env (s.set id (some ob)) K:=Eq.trans rfl rfl
theorem c6Y {l p f pairs t rest env s K}:BL (some l) p fs f pairs t rest env s K=BC fs f l p pairs t rest env s K:=Eq.trans rfl rfl
theorem c2y {d pairs t rest env s K}:BF true d fs pairs t rest env s K=XQ fs pairs rest ((t,d)::env) s K:=Eq.trans rfl rfl
theorem b53 {vars x y Q env s}:CW (.bool true) fs vars x y Q env s=YW fs vars x Q env s:=by simp [CW,a1l]
theorem b3F {vars x y Q env s}:CW (.bool false) fs vars x y Q env s=YW fs vars y Q env s:=by simp [CW,a1l]
theorem c0z {pairs x t rest env s K}:GW (.bool true) true fs pairs x t rest env s K=XQ fs pairs (x::rest) env s K:=by simp [GW,Way]
theorem c6s {pairs x t rest env s K}:GW (.bool false) false fs pairs x t rest env s K=XQ fs pairs (x::rest) env s K:=by simp [GW,Way]
theorem c1Q {pairs x t rest env s K}:GW (.bool true) false fs pairs x t rest env s K=XQ fs pairs rest (env.put t (.tup [])) s K:=by simp [GW,Way]
theorem c5X {pairs x t rest env s K}:GW (.bool false) true fs pairs x t rest env s K=XQ fs pairs rest (env.put t (.tup [])) s K:=by simp [GW,Way]
theorem b67 {b pairs x t rest env s K}:GW (.tup []) b fs pairs x t rest env s K=XQ fs pairs rest (env.put t (.tup [])) s K:=Eq.trans rfl rfl
theorem b7h {env:Env} {t d}:env.put (some t) d=(t,d)::env:=Eq.trans rfl rfl
theorem c0s {vars b Q env s}:End (a6w fs vars b Q) .normal env s=YW fs vars b Q env s:=Eq.trans rfl rfl
theorem c1d {vars b Q id env s}:End (a6w fs vars b Q) (.exit id) env s=End Q (.exit id) env s:=Eq.trans rfl rfl
theorem c4c {vars b Q env s}:End (a6w fs vars b Q) .ret env s=End Q .ret env s:=Eq.trans rfl rfl
theorem c6K {id Q env s}:End (N5 id Q) .normal env s=End Q .normal env s:=Eq.trans rfl rfl
theorem b83 {id Q env s}:End (N5 id Q) .ret env s=End Q .ret env s:=Eq.trans rfl rfl
theorem b6q {id id' Q env s}:End (N5 id Q) (.exit id') env s=if id'=id then End Q .normal env s else End Q (.exit id') env s:=Eq.trans rfl rfl
theorem a1c {b:Bool} {vars x y Q env s} (h1:b=true->YW fs vars x Q env s) (h2:b=false->YW fs vars y Q env s):CW (.bool b) fs vars x y Q env s:=by
 cases b
 ·rw [b3F];exact h2 rfl
 ·rw [b53];exact h1 rfl
theorem a1t {c b:Bool} {pairs x t rest env s K} (h1:c=true->GW (.bool true) b fs pairs x t rest env s K) (h2:c=false->GW (.bool false) b fs pairs x t rest env s K):GW (.bool c) b fs pairs x t rest env s K:=by
 cases c
 ·exact h2 rfl
 ·exact h1 rfl
theorem c1L {g:P8} {n:Nat}:N1 (ice g (n+1)) []=some []:=Eq.trans rfl rfl
theorem c0U {g:P8} {n:Nat} {k:IntKind} {x:Int} {l:List D}:N1 (ice g (n+1)) (.int k x::l)=(N1 (ice g (n+1)) l).map (.int k x::·):=by
 simp only [N1,ice];cases N1 (ice g (n+1)) l<;>rfl
theorem c6z {g:P8} {n:Nat} {x:Bool} {l:List D}:N1 (ice g (n+1)) (.bool x::l)=(N1 (ice g (n+1)) l).map (.bool x::·):=by
 simp only [N1,ice];cases N1 (ice g (n+1)) l<;>rfl
theorem b8F {g:P8} {n:Nat} {x:ByteArray} {l:List D}:N1 (ice g (n+1)) (.str x::l)=(N1 (ice g (n+1)) l).map (.str x::·):=by
 simp only [N1,ice];cases N1 (ice g (n+1)) l<;>rfl
theorem c4u {g:P8} {n:Nat} {d:D} {l:List D} (h:PZ d):N1 (ice g (n+3)) (d::l)=(N1 (ice g (n+3)) l).map (d::·):=by
 simp only [N1,h.2 g n];cases N1 (ice g (n+3)) l<;>rfl
theorem c40 {g:P8} {n:Nat} {d d':D} {l:List D} (h:ice g n d=some d'):N1 (ice g n) (d::l)=(N1 (ice g n) l).map (d'::·):=by
 simp only [N1,h];cases N1 (ice g n) l<;>rfl
theorem c0k {d:D} (h:PZ d):W3 d=true:=h.1
theorem c5p:pureL []=true:=Eq.trans rfl rfl
theorem b7R {d:D} {l:List D}:pureL (d::l)=(W3 d&&pureL l):=Eq.trans rfl rfl
theorem b7n {k:IntKind} {n:Int}:W3 (.int k n)=true:=Eq.trans rfl rfl
theorem b9H {b:Bool}:W3 (.bool b)=true:=Eq.trans rfl rfl
theorem c4I {b:ByteArray}:W3 (.str b)=true:=Eq.trans rfl rfl
theorem c3I {k:IntKind} {n:Int}:a0q (.int k n)=true:=Eq.trans rfl rfl
theorem c2p {b:Bool}:a0q (.bool b)=true:=Eq.trans rfl rfl
theorem c1W {l:List D}:a0q (.agg l)=scalarL l:=Eq.trans rfl rfl
theorem b8M {l:List D}:a0q (.tup l)=scalarL l:=Eq.trans rfl rfl
theorem c3D:scalarL []=true:=Eq.trans rfl rfl
theorem c0F {d:D} {l:List D}:scalarL (d::l)=(a0q d&&scalarL l):=Eq.trans rfl rfl
theorem b8a {g:P8} {n:Nat} {k:IntKind} {x:Int}:ice g (n+1) (.int k x)=some (.int k x):=Eq.trans rfl rfl
theorem c4N {g:P8} {n:Nat} {x:Bool}:ice g (n+1) (.bool x)=some (.bool x):=Eq.trans rfl rfl
theorem c5a {g:P8} {n:Nat}:ice g (n+1) .nils=some .nils:=Eq.trans rfl rfl
theorem b9k {g:P8} {n:Nat} {l:List D}:ice g (n+1) (.agg l)=(N1 (ice g n) l).map .agg:=Eq.trans rfl rfl
theorem b7N {g:P8} {n:Nat} {l:List D}:ice g (n+1) (.tup l)=(N1 (ice g n) l).map .tup:=Eq.trans rfl rfl
theorem c2I {g:P8} {n:Nat} {d:D} (h:PZ d):ice g (n+3) d=some d:=h.2 g n
theorem c3k {env:Env} {s:f6} {x}:V0 env s [x]=W4 env s x:=by
 unfold V0 V4
 cases W4 env s x<;>rfl
theorem c5O {env:Env} {s:f6} {x y l}:V0 env s (x::y::l)=(V4 env s (x::y::l)).map .tup:=by
 unfold V0
 simp only [V4]
 cases W4 env s x<;>cases W4 env s y<;>cases V4 env s l<;>rfl
theorem c0u {env:Env} {s:f6}:V4 env s []=some []:=Eq.trans rfl rfl
theorem b9W {env:Env} {s:f6} {x l}:V4 env s (x::l)=(W4 env s x).bind fun d=>(V4 env s l).map (d::·):=by
 simp only [V4]
 cases W4 env s x<;>cases V4 env s l<;>rfl
theorem c02 {env:Env} {s:f6} {t}:W4 env s (t,none)=some (env.get t):=Eq.trans rfl rfl
def a79 (s:f6) (n:Option Nat):D->Option D
 | .ptr id off=>ldV s.get n (.ptr id off)
 | _=>none
theorem c3Q {env:Env} {s:f6} {t n}:W4 env s (t,some n)=a79 s n (env.get t):=by
 simp only [W4,a79]
 cases h:env.get t<;>rfl
theorem c04 {s:f6} {n id off}:a79 s n (.ptr id off)=ldV s.get n (.ptr id off):=Eq.trans rfl rfl
def a50 (res:List (Nat×Option (Option Nat))) (P:D->f6->Prop):X7->Env->f6->Prop:=fun e env s=>(e=.normal∨e=.ret)/\∃d,V0 env s res=some d/\P d s
def RB (r:Option D) (s:f6) (P:D->f6->Prop):Prop:=match r with
 | some d=>P d s
 | none=>False
theorem c1P {res P env s}:End (a50 res P) .ret env s=RB (V0 env s res) s P:=by
 unfold End a50 RB
 apply propext
 cases V0 env s res<;>simp
theorem a6R {d s} {P:D->f6->Prop} (h:P d s):RB (some d) s P:=h
def b4R (x:D):D->f6->Prop:=fun r s=>ice s.get 20 r=some x
theorem c0K {d s x}:RB (some d) s (b4R x)=(ice s.get 20 d=some x):=Eq.trans rfl rfl
def b5h (P:D->Prop):D->f6->Prop:=fun r s=>∃d,ice s.get 20 r=some d/\P d
theorem c6M {d s P}:RB (some d) s (b5h P)=∃x,ice s.get 20 d=some x/\P x:=Eq.trans rfl rfl
theorem Y5 {f:FuncId} {vf:M3} {args:List D} {s:f6} {P:D->f6->Prop} (hf:fs f=some vf) (h:YW fs vf.vars vf.code (a50 vf.res P) (vf.vars.map fun t=>(t,args.getD t .undef)) s):EvP fs f args s P:=M6 hf (a4z h)
theorem N3 {f:FuncId} {vf:M3} {args:List D} {d:D} (hf:fs f=some vf) (h:YW fs vf.vars vf.code (a50 vf.res (b4R d)) (vf.vars.map fun t=>(t,args.getD t .undef)) f6.empty):a1B fs f args d:=by
 obtain ⟨r,s1,h1,h2⟩:=Y5 hf h
 exact ⟨r,s1,h1,h2⟩
def a31 (fs:FuncId->Option M3) (f:FuncId) (args:List D) (P:D->Prop):Prop:=∃d,a1B fs f args d/\P d
theorem a16 {f:FuncId} {vf:M3} {args:List D} {P:D->Prop} (hf:fs f=some vf) (h:YW fs vf.vars vf.code (a50 vf.res (b5h P)) (vf.vars.map fun t=>(t,args.getD t .undef)) f6.empty):a31 fs f args P:=by
 obtain ⟨r,s1,h1,d,h2,h3⟩:=Y5 hf h
 exact ⟨d,⟨r,s1,h1,h2⟩,h3⟩
theorem a1J {i t f args rest s K} {env:Env} {l:List D} {P:D->f6->Prop} (hr:EvP fs f l s P) (ha:env.evL args=l)
 (h:∀d s',P d s'->XQ fs [] rest ((t,d)::env) s' K):WQ fs [] ((i,⟨some t,.m (.call .raw (.cst (.fn f [])) args),none⟩)::rest) env s K:=V5 hr ha fun d s' hp=>a1D (h d s' hp)
inductive Rf {α:Type} (a b:α):Prop where
 | mk (h:a=b)
def a4f:Env->Nat->Option D
 | [],_=>none
 | (s,d)::r,t=>match Nat.beq s t with
   | true=>some d
   | false=>a4f r t
theorem a7A:∀ {env:Env} {t:Nat} {d:D},a4f env t=some d->env.get t=d
 | [],_,_,h=>by simp [a4f] at h
 | (s,d)::r,t,d',h=>by
   simp only [a4f] at h
   split at h
   ·rename_i e
    have:=Nat.eq_of_beq_eq_true e
    cases h
    simp only [Env.get,this,if_true]
   ·rename_i e
    have:s≠t:=fun he=>by subst he;simp at e
    simp only [Env.get,this,if_false]
    exact a7A h
theorem c5A {env:Env} {t:Nat} {d:D} (h:Rf (a4f env t) (some d)):Env.get env t=d:=a7A h.1
def a2Z:List Nat->Env->Option Env
 | [],_=>some []
 | t::r,env=>match a4f env t with
   | some d=>match a2Z r env with
     | some l=>some ((t,d)::l)
     | none=>none
   | none=>none
theorem a41:∀ {vars:List Nat} {env e:Env},a2Z vars env=some e->env.keep vars=e
 | [],_,_,h=>by simp [a2Z] at h;exact h.symm
 | t::r,env,e,h=>by
   simp only [a2Z] at h
   split at h
   ·rename_i d hd
    split at h
    ·rename_i l hl
     cases h
     show (t,env.get t)::env.keep r=_
     rw [a7A hd,a41 hl]
    ·cases h
   ·cases h
theorem c5w {vars:List Nat} {env e:Env} (h:Rf (a2Z vars env) (some e)):env.keep vars=e:=a41 h.1
def a4m (vars l:List Nat) (e0:Env) (f:Nat->D):Env:=vars.map fun t=>(t,if l.contains t then e0.get t else f t)
def a6M:List Nat->Nat->Bool
 | [],_=>false
 | s::r,t=>match Nat.beq s t with
   | true=>true
   | false=>a6M r t
theorem b2c:∀ {l:List Nat} {t:Nat},a6M l t=l.contains t
 | [],_=>rfl
 | s::r,t=>by
   simp only [a6M,List.contains_cons]
   split
   ·rename_i e
    have:=Nat.eq_of_beq_eq_true e
    simp [this]
   ·rename_i e
    have:(t==s)=false:=by
     rw [beq_eq_false_iff_ne];intro he;subst he;simp at e
    rw [this,Bool.false_or];exact b2c
def a4S:List Nat->List Nat->Env->(Nat->D)->Option Env
 | [],_,_,_=>some []
 | t::r,l,e0,f=>match a6M l t with
   | true=>match a4f e0 t with
     | some d=>match a4S r l e0 f with
       | some e=>some ((t,d)::e)
       | none=>none
     | none=>none
   | false=>match a4S r l e0 f with
     | some e=>some ((t,f t)::e)
     | none=>none
theorem b0d:∀ {vars l:List Nat} {e0 e:Env} {f:Nat->D},a4S vars l e0 f=some e->a4m vars l e0 f=e
 | [],_,_,_,_,h=>by simp [a4S] at h;exact h.symm
 | t::r,l,e0,e,f,h=>by
   simp only [a4S] at h
   show (t,if l.contains t then e0.get t else f t)::a4m r l e0 f=e
   rw [<- b2c]
   split at h
   ·rename_i hb
    split at h
    ·rename_i d hd
     split at h
     ·rename_i e' he
      cases h
      rw [hb,if_pos rfl,a7A hd,b0d he]
     ·cases h
    ·cases h
   ·rename_i hb
    split at h
    ·rename_i e' he
     cases h
     rw [hb,if_neg (by simp),b0d he]
    ·cases h
theorem c03 {vars l:List Nat} {e0 e:Env} {f:Nat->D} (h:Rf (a4S vars l e0 f) (some e)):a4m vars l e0 f=e:=b0d h.1
def a3B (vars l:List Nat) (e0 e:Env):Prop:=e.keep vars=e/\e.keep l=e0.keep l
theorem b7X {vars l:List Nat} {e0 e x:Env} (h1:Rf (a2Z vars e) (some e)) (h2:Rf (a2Z l e0) (some x)) (h3:Rf (a2Z l e) (some x)):a3B vars l e0 e=True:=eq_true ⟨a41 h1.1,by rw [a41 h2.1,a41 h3.1]⟩
theorem b6C {l:List Nat} {e e0:Env} (h:e.keep l=e0.keep l) {t:Nat} (ht:t∈l):e.get t=e0.get t:=by
 unfold Env.keep at h
 have:=List.map_inj_left.1 h t ht
 simpa using this
theorem b2J {vars l:List Nat} {e0 e:Env} (h:a3B vars l e0 e):e=a4m vars l e0 fun t=>e.get t:=by
 conv=>lhs;rw [<- h.1]
 unfold Env.keep a4m
 refine List.map_congr_left fun t _=>?_
 by_cases ht:t∈l
 ·rw [if_pos (List.contains_iff_mem.2 ht),b6C h.2 ht]
 ·rw [if_neg (by simpa using ht)]
abbrev It:=Nat->(Nat->D)->f6->Prop
def UpQ (vars l:List Nat) (e0:Env) (n i:Nat) (I:It) (Q:X7->Env->f6->Prop):X7->Env->f6->Prop
 | .normal,env,s=>a3B vars l e0 env/\i<n/\I (i+1) (fun t=>env.get t) s
 | e,env,s=>Q e env s
theorem b7r {vars l e0 n i I Q env s}:End (UpQ vars l e0 n i I Q) .normal env s=(a3B vars l e0 env/\i<n/\I (i+1) (fun t=>env.get t) s):=Eq.trans rfl rfl
theorem b7q {vars l e0 n i I Q id env s}:End (UpQ vars l e0 n i I Q) (.exit id) env s=End Q (.exit id) env s:=Eq.trans rfl rfl
theorem c6B {vars l e0 n i I Q env s}:End (UpQ vars l e0 n i I Q) .ret env s=End Q .ret env s:=Eq.trans rfl rfl
theorem c30 {vars l:List Nat} {e:Env} (h:Rf (a2Z vars e) (some e)):a3B vars l e e:=⟨a41 h.1,rfl⟩
theorem P6 {vars b Q env0 s0} (l:List Nat) (a n:Nat) (I:It) (h1:Rf (a2Z vars env0) (some env0)) (ha:a<=n) (h0:I a (fun t=>env0.get t) s0) (hs:∀i f s,i<=n->I i f s->YW fs vars b (UpQ vars l env0 n i I Q) (a4m vars l env0 f) s):WP fs vars (.loop b) env0 s0 Q:=by
 refine W2 (fun k env s=>∃i,i<=n/\k=n-i/\a3B vars l env0 env/\I i (fun t=>env.get t) s) ?_ (n-a) _ _ ⟨a,ha,rfl,c30 h1,h0⟩
 rintro k env s ⟨i,hi,rfl,hk,hI⟩
 have:=hs i _ s hi hI
 rw [<- b2J hk] at this
 refine (a4z this).mono fun e env' s' h=>?_
 cases e with
 | normal =>
   obtain ⟨h1,h2,h3⟩:=h
   exact ⟨n-(i+1),by omega,i+1,by omega,rfl,h1,h3⟩
 | exit id=>exact h
 | ret=>exact h
def a7S (vars l:List Nat) (e0:Env) (P:(Nat->D)->f6->Prop) (Q:X7->Env->f6->Prop):X7->Env->f6->Prop
 | .normal,env,s=>a3B vars l e0 env/\P (fun t=>env.get t) s
 | e,env,s=>Q e env s
theorem b6P {vars l e0 P Q env s}:End (a7S vars l e0 P Q) .normal env s=(a3B vars l e0 env/\P (fun t=>env.get t) s):=Eq.trans rfl rfl
theorem c0I {vars l e0 P Q env s}:End (a7S vars l e0 P Q) .ret env s=End Q .ret env s:=Eq.trans rfl rfl
theorem WQ.mono {pairs ops env s} {K K':Env->f6->Prop} (h:WQ fs pairs ops env s K) (hk:∀env s,K env s->K' env s):WQ fs pairs ops env s K':=fun tr ht=>by
 obtain ⟨n,env',s',h1,h2⟩:=h tr ht
 exact ⟨n,env',s',h1,hk _ _ h2⟩
theorem Way.mono {d:D} {b:Bool} {A B A' B':Prop} (h:Way d b A B) (h1:A->A') (h2:B->B'):Way d b A' B':=by
 unfold Way at *;split at h
 ·split at h
  ·rename_i hc;rw [if_pos hc];exact h1 h
  ·rename_i hc;rw [if_neg hc];exact h2 h
 ·exact h2 h
 ·exact h
theorem a1l.mono {d:D} {A B A' B':Prop} (h:a1l d A B) (h1:A->A') (h2:B->B'):a1l d A' B':=by
 unfold a1l at *;split at h
 ·split at h
  ·rename_i hc;rw [if_pos hc];exact h1 h
  ·rename_i hc;rw [if_neg hc];exact h2 h
 ·exact h
theorem WX.mono {pairs T ops env s} {K K':Kt} (h:WX fs pairs T ops env s K) (hk:∀env s,K env s->K' env s):WX fs pairs T ops env s K':=fun tr ht=>by
 obtain ⟨n,env',s',h1,h2⟩:=h tr ht
 exact ⟨n,env',s',h1,hk _ _ h2⟩
theorem a0O {vars c Q env s id} (l:List Nat) (P:(Nat->D)->f6->Prop) (h:WP fs vars c env s (N5 id (a7S vars l env P Q))) (k:∀f s,P f s->End Q .normal (a4m vars l env f) s):WP fs vars c env s (N5 id Q):=by
 have key:∀env' s,a7S vars l env P Q .normal env' s->Q .normal env' s:=fun env' s h=>by
  have:=k _ s h.2
  rw [<- b2J h.1] at this
  exact this
 refine WP.mono h fun e env' s h=>?_
 cases e with
 | normal=>exact key _ _ h
 | exit id' =>
   simp only [N5] at h ⊢
   by_cases hc:id'=id
   ·rw [if_pos hc] at h ⊢;exact key _ _ h
   ·rw [if_neg hc] at h ⊢;exact h
 | ret=>exact h
theorem c6w {env:Env} {t:Nat}:env.ev (.tmp t)=env.get t:=Eq.trans rfl rfl
theorem b8w {env:Env} {d:D}:env.ev (.cst d)=d:=Eq.trans rfl rfl
theorem b8E {pairs i t o rest env s K}:XQ fs pairs (xq i t o::rest) env s K=BP (evP env o) fs pairs t rest env s K:=Eq.trans rfl rfl
theorem c5m {pairs i t o g b rest env s K}:XQ fs pairs (xg i t o g b::rest) env s K=GW (env.get g) b fs pairs (xq i t o) (some t) rest env s K:=Eq.trans rfl rfl
theorem c0V {pairs i t x rest env s K}:XQ fs pairs (xm i t x::rest) env s K=BP (some (env.get x)) fs pairs t rest env s K:=Eq.trans rfl rfl
theorem c4S {pairs i t x g b rest env s K}:XQ fs pairs (xmg i t x g b::rest) env s K=GW (env.get g) b fs pairs (xm i t x) (some t) rest env s K:=Eq.trans rfl rfl
theorem c2u {pairs i t d rest env s K}:XQ fs pairs (xc i t d::rest) env s K=XQ fs pairs rest ((t,d)::env) s K:=Eq.trans rfl rfl
theorem b7V {pairs i t n x rest env s K}:XQ fs pairs (xl i t n x::rest) env s K=BP (ldV s.get n (env.get x)) fs pairs t rest env s K:=by
 rw [<- show env.ev (.tmp x)=env.get x from rfl,<- a5v];rfl
theorem c0A {pairs i t n x g b rest env s K}:XQ fs pairs (xlg i t n x g b::rest) env s K=GW (env.get g) b fs pairs (xl i t n x) (some t) rest env s K:=Eq.trans rfl rfl
theorem b81 {pairs i t off x rest env s K}:XQ fs pairs (xf i t off x::rest) env s K=BP (evP env (.fieldA off (.tmp x))) fs pairs t rest env s K:=Eq.trans rfl rfl
theorem b6V {pairs i t off x g b rest env s K}:XQ fs pairs (xfg i t off x g b::rest) env s K=GW (env.get g) b fs pairs (xf i t off x) (some t) rest env s K:=Eq.trans rfl rfl
theorem c6A {i t o rest env s K}:XQ fs [] (xa i t o::rest) env s K=BA (evA env o) fs t rest env s K:=Eq.trans rfl rfl
theorem c50 {i n a v rest env s K}:XQ fs [] (xw i n a v::rest) env s K=BW (evW env s.get n (.tmp a) v) fs rest env s K:=Eq.trans rfl rfl
theorem c1g {pairs i t f args rest env s K}:XQ fs pairs (xi i t f args::rest) env s K=BL (N1 (ice s.get 20) (env.evL args)) (pureL (env.evL args)) fs f pairs t rest env s K:=b5V
theorem c2A {pairs i t f args g b rest env s K}:XQ fs pairs (xig i t f args g b::rest) env s K=GW (env.get g) b fs pairs (xi i t f args) (some t) rest env s K:=Eq.trans rfl rfl
theorem c1R {pairs i t f args rest env s K}:XQ fs pairs (xk i t f args::rest) env s K=WQ fs pairs (xk i t f args::rest) env s K:=b51
theorem c2D {pairs i t o g rest env s K}:XQ fs pairs (xo i t o g::rest) env s K=XQ fs pairs ((i,⟨t,o,g⟩)::rest) env s K:=Eq.trans rfl rfl
theorem c1k {vars l Q env s}:YW fs vars (xr l) Q env s=XQ fs [] l env s (RgK vars Q):=Eq.trans rfl rfl
theorem b8b {vars l b Q env s}:YW fs vars (xrp l [] b) Q env s=XQ fs [] l env s (RgK vars Q):=Eq.trans rfl rfl
theorem b9A {vars l p ps b Q env s}:YW fs vars (xrp l (p::ps) b) Q env s=XX fs (p::ps) [] l env s (RgK vars Q):=Eq.trans rfl rfl
theorem M7:f6.empty.next=0:=Eq.trans rfl rfl
def BX (r:Option D) (fs:FuncId->Option M3) (pairs:Prs) (T:List Ent) (t:Nat) (rest:Ops) (env:Env) (s:f6) (K:Kt):Prop:=match r with
 | some d=>XX fs pairs T rest ((t,d)::env) s K
 | none=>False
def BD (d:D) (n:Option Nat) (i:Nat) (fs:FuncId->Option M3) (pairs:Prs) (T:List Ent) (t:Nat) (rest:Ops) (env:Env) (s:f6) (K:Kt):Prop:=match d with
 | .fp cs off=>match ldV s.get n (.fp cs off) with
   | some d=>XX fs pairs T rest ((t,d)::env) s K
   | none=>False
 | .ptr id off=>match ldV s.get n (.ptr id off) with
   | some d=>a3p pairs i id T/\XX fs pairs (⟨i,some id,[]⟩::T) rest ((t,d)::env) s K
   | none=>False
 | _=>False
def BE (C:Prop) (r:Option D) (fs:FuncId->Option M3) (pairs:Prs) (T:List Ent) (t:Nat) (rest:Ops) (env:Env) (s:f6) (K:Kt):Prop:=C/\BX r fs pairs T t rest env s K
def AX (r:Option (O3×P3)) (i:Nat) (fs:FuncId->Option M3) (pairs:Prs) (T:List Ent) (t:Nat) (rest:Ops) (env:Env) (s:f6) (K:Kt):Prop:=match r with
 | some (ob,m)=>XX fs pairs (⟨i,none,[s.next]⟩::T) rest ((t,m.at s.next)::env) (s.push ob) K
 | none=>False
def UX (d:D) (r:Option (Nat×O3)) (i:Nat) (fs:FuncId->Option M3) (pairs:Prs) (T:List Ent) (rest:Ops) (env:Env) (s:f6) (K:Kt):Prop:=match d with
 | .ptr id _=>match r with
   | some (id',ob)=>id'=id/\a3b pairs i id T/\XX fs pairs (⟨i,some id,[id]⟩::T) rest env (s.set id (some ob)) K
   | none=>False
 | _=>False
def VX (C:Prop) (fs:FuncId->Option M3) (pairs:Prs) (T:List Ent) (rest:Ops) (env:Env) (s:f6) (K:Kt):Prop:=C/\XX fs pairs T rest env s K
def MX (d x:D) (sz bytes i:Nat) (fs:FuncId->Option M3) (pairs:Prs) (T:List Ent) (t:Nat) (rest:Ops) (env:Env) (s:f6) (K:Kt):Prop:=∃d' s' E,V3 sz bytes d x s=some (d',s')/\s.next<=s'.next/\(∀id,id∉E->s.get id=s'.get id)/\a2a pairs i E T/\XX fs pairs (⟨i,none,E⟩::T) rest ((t,d')::env) s' K
def CX (fs:FuncId->Option M3) (f:FuncId) (l:List D) (p:Bool) (pairs:Prs) (T:List Ent) (t:Nat) (rest:Ops) (env:Env) (s:f6) (K:Kt):Prop:=∃d,a1B fs f l d/\(a0q d||p)=true/\XX fs pairs T rest ((t,d)::env) s K
def LX (r:Option (List D)) (p:Bool) (fs:FuncId->Option M3) (f:FuncId) (pairs:Prs) (T:List Ent) (t:Nat) (rest:Ops) (env:Env) (s:f6) (K:Kt):Prop:=match r with
 | some l=>CX fs f l p pairs T t rest env s K
 | none=>False
def FX (b:Bool) (d:D) (fs:FuncId->Option M3) (pairs:Prs) (T:List Ent) (t:Nat) (rest:Ops) (env:Env) (s:f6) (K:Kt):Prop:=match b with
 | true=>XX fs pairs T rest ((t,d)::env) s K
 | false=>False
abbrev Eqc (fs:FuncId->Option M3) (f:FuncId) (l:List D) (d:D):Prop:=(∀p pairs t rest env s K,BC fs f l p pairs t rest env s K=BF (a0q d||p) d fs pairs t rest env s K)/\∀p pairs T t rest env s K,CX fs f l p pairs T t rest env s K=FX (a0q d||p) d fs pairs T t rest env s K
theorem P4 {f:FuncId} {args:List D} {d:D} (h:a1B fs f args d):Eqc fs f args d:=by
 refine ⟨fun p pairs t rest env s K=>propext ⟨?_,fun hk=>?_⟩,fun p pairs T t rest env s K=>propext ⟨?_,fun hk=>?_⟩⟩
 ·rintro ⟨d',h1,h2,h3⟩
  obtain rfl:=h.det h1
  unfold BF;rw [h2];exact h3
 ·unfold BF at hk
  split at hk
  ·rename_i hs;exact ⟨d,h,hs,hk⟩
  ·exact hk.elim
 ·rintro ⟨d',h1,h2,h3⟩
  obtain rfl:=h.det h1
  unfold FX;rw [h2];exact h3
 ·unfold FX at hk
  split at hk
  ·rename_i hs;exact ⟨d,h,hs,hk⟩
  ·exact hk.elim
theorem b8d {d pairs T t rest env s K}:FX true d fs pairs T t rest env s K=XX fs pairs T rest ((t,d)::env) s K:=Eq.trans rfl rfl
theorem b87 {pairs T vars Q env s}:XX fs pairs T [] env s (RgK vars Q)=End Q .normal (env.keep vars) s:=Eq.trans rfl rfl
theorem b5Y {pairs T i t f args rest env s K}:XX fs pairs T ((i,⟨some t,.m (.call .iso (.cst (.fn f [])) args),none⟩)::rest) env s K=LX (N1 (ice s.get 20) (env.evL args)) (pureL (env.evL args)) fs f pairs T t rest env s K:=by
 unfold XX LX CX;rfl
theorem b9m {pairs T i t sz bytes a x rest env s K}:XX fs pairs T ((i,⟨some t,.m (.append sz bytes a x),none⟩)::rest) env s K=MX (env.ev a) (env.ev x) sz bytes i fs pairs T t rest env s K:=Eq.trans rfl rfl
theorem b9J {d pairs T t rest env s K}:BX (some d) fs pairs T t rest env s K=XX fs pairs T rest ((t,d)::env) s K:=Eq.trans rfl rfl
theorem b7y {cs off n i pairs T t rest env s K}:BD (.fp cs off) n i fs pairs T t rest env s K=BX (ldV s.get n (.fp cs off)) fs pairs T t rest env s K:=by
 unfold BD BX;rfl
theorem c1z {id off n i pairs T t rest env s K}:BD (.ptr id off) n i fs pairs T t rest env s K=BE (a3p pairs i id T) (ldV s.get n (.ptr id off)) fs pairs (⟨i,some id,[]⟩::T) t rest env s K:=by
 unfold BD BE BX
 simp only
 cases ldV s.get n (.ptr id off) with
 | some d=>rfl
 | none=>simp
theorem c4X {r pairs T t rest env s K}:BE True r fs pairs T t rest env s K=BX r fs pairs T t rest env s K:=by simp [BE]
theorem b6m {ob l sz i pairs T t rest env s K}:AX (some (ob,.arr l sz)) i fs pairs T t rest env s K=XX fs pairs (⟨i,none,[s.next]⟩::T) rest ((t,.arr s.next 0 l sz)::env) (s.push ob) K:=Eq.trans rfl rfl
theorem c4M {id off ob i pairs T rest env s K}:UX (.ptr id off) (some (id,ob)) i fs pairs T rest env s K=VX (a3b pairs i id T) fs pairs (⟨i,some id,[id]⟩::T) rest env (s.set id (some ob)) K:=by
 unfold UX VX;simp
theorem b8g {pairs T rest env s K}:VX True fs pairs T rest env s K=XX fs pairs T rest env s K:=by simp [VX]
theorem b8H {l p f pairs T t rest env s K}:LX (some l) p fs f pairs T t rest env s K=CX fs f l p pairs T t rest env s K:=Eq.trans rfl rfl
theorem c6I {pairs T i t o rest env s K}:XX fs pairs T (xq i t o::rest) env s K=BX (evP env o) fs pairs T t rest env s K:=Eq.trans rfl rfl
theorem b8U {pairs T i t x rest env s K}:XX fs pairs T (xm i t x::rest) env s K=BX (some (env.get x)) fs pairs T t rest env s K:=Eq.trans rfl rfl
theorem c0Q {pairs T i t n x rest env s K}:XX fs pairs T (xl i t n x::rest) env s K=BD (env.get x) n i fs pairs T t rest env s K:=Eq.trans rfl rfl
theorem c1A {pairs T i t off x rest env s K}:XX fs pairs T (xf i t off x::rest) env s K=BX (evP env (.fieldA off (.tmp x))) fs pairs T t rest env s K:=Eq.trans rfl rfl
theorem c1H {pairs T i t o rest env s K}:XX fs pairs T (xa i t o::rest) env s K=AX (evA env o) i fs pairs T t rest env s K:=Eq.trans rfl rfl
theorem b94 {pairs T i n a v rest env s K}:XX fs pairs T (xw i n a v::rest) env s K=UX (env.get a) (evW env s.get n (.tmp a) v) i fs pairs T rest env s K:=Eq.trans rfl rfl
theorem c0c {pairs T i t f args rest env s K}:XX fs pairs T (xi i t f args::rest) env s K=LX (N1 (ice s.get 20) (env.evL args)) (pureL (env.evL args)) fs f pairs T t rest env s K:=b5Y
theorem c45 {pairs T i t o g rest env s K}:XX fs pairs T (xo i t o g::rest) env s K=XX fs pairs T ((i,⟨t,o,g⟩)::rest) env s K:=Eq.trans rfl rfl
theorem c4h {id x r}:a2D id (x::r)=(a7f id x/\a2D id r):=Eq.trans rfl rfl
theorem b6W {a b:Nat} (h:a≠b):a7f a b=True:=eq_true h
theorem c2v {pairs i id}:a3p pairs i id []=True:=Eq.trans rfl rfl
theorem c6v {pairs i id a r E T} (h:Rf (a2F pairs a i) false):a3p pairs i id (⟨a,r,E⟩::T)=a3p pairs i id T:=by simp [a3p,h.1]
theorem c5Z {pairs i id}:a3b pairs i id []=True:=Eq.trans rfl rfl
theorem c3u {pairs i id a r E T} (h:Rf (a2F pairs a i) false):a3b pairs i id (⟨a,r,E⟩::T)=a3b pairs i id T:=by simp [a3b,h.1]
theorem c1r {pairs i E}:a2a pairs i E []=True:=Eq.trans rfl rfl
theorem b9V {pairs i E a r F T} (h:Rf (a2F pairs a i) false):a2a pairs i E (⟨a,r,F⟩::T)=a2a pairs i E T:=by simp [a2a,h.1]
theorem c4P {pairs i E a F x T} (h:Rf (a2F pairs a i) true):a2a pairs i E (⟨a,some x,F⟩::T)=(a2D x E/\a2a pairs i E T):=by simp [a2a,h.1]
attribute [go_sem] b8d b9A b87 b5Y b9m b9J b7y c1z c4X b6m c4M b8g b8H c6I b8U c0Q c1A c1H b94 c0c c45 c4h b6W c2v c6v c5Z c3u c1r b9V c4P
attribute [go_sem] Nat.reduceLT M7 b8E c5m c0V c4S c2u b7V c0A b81 b6V c6A c50 c1g c2A c1R c2D c1k b8b
attribute [go_sem] b88 c6r b63 c5H b9M b6L b6U c2T c3K b5V b51 c2Z b9c c6Y c4z b9t c4B c2y b53 b3F c0z c6s c1Q c5X b67 c0s c1d c4c c6K b83 b6q c5w c5A c03 b7X c6w b8w b7h
attribute [go_sem] c1L c0U c6z b8F c4u c0k c5p b7R b7n b9H c4I c3I c2p c1W b8M c3D c0F b8a c4N c5a b9k b7N c2I c3k c5O c0u b9W c02 c3Q c04 c1P c0K c6M Option.some.injEq D.tup.injEq D.int.injEq D.bool.injEq D.agg.injEq D.str.injEq List.cons.injEq b7r b7q c6B b6P c0I Option.bind Bool.or_true Bool.true_or
theorem b9D {vars c Q env env' s s'} (h:env=env') (h':s=s'):YW fs vars c Q env s=YW fs vars c Q env' s':=by rw [h,h']
theorem c21 {pairs ops K env env' s s'} (h:env=env') (h':s=s'):XQ fs pairs ops env s K=XQ fs pairs ops env' s' K:=by rw [h,h']
theorem b8p {Q e env env' s s'} (h:env=env') (h':s=s'):End Q e env s=End Q e env' s':=by rw [h,h']
theorem b8W {r r' pairs t rest env s K} (h:r=r'):BP r fs pairs t rest env s K=BP r' fs pairs t rest env s K:=by rw [h]
theorem b62 {r r' p p' f pairs t rest env s K} (h:r=r') (h':p=p'):BL r p fs f pairs t rest env s K=BL r' p' fs f pairs t rest env s K:=by rw [h,h']
theorem b6K {r r' t rest env K} (h:r=r'):BM r fs t rest env K=BM r' fs t rest env K:=by rw [h]
theorem c4f {r r' d pairs t rest env s K} (h:r=r'):BF r d fs pairs t rest env s K=BF r' d fs pairs t rest env s K:=by rw [h]
theorem b8S {d d' vars x y Q env s} (h:d=d'):CW d fs vars x y Q env s=CW d' fs vars x y Q env s:=by rw [h]
theorem c35 {d d' b pairs x t rest env s K} (h:d=d'):GW d b fs pairs x t rest env s K=GW d' b fs pairs x t rest env s K:=by rw [h]
theorem b7Y {b b' d pairs T t rest env s K} (h:b=b'):FX b d fs pairs T t rest env s K=FX b' d fs pairs T t rest env s K:=by rw [h]
theorem b6M {r r' pairs T t rest env s K} (h:r=r'):BX r fs pairs T t rest env s K=BX r' fs pairs T t rest env s K:=by rw [h]
theorem c6E {r r' n i pairs T t rest env s K} (h:r=r'):BD r n i fs pairs T t rest env s K=BD r' n i fs pairs T t rest env s K:=by rw [h]
theorem c4t {C C' pairs T rest env s K} (hc:C=C'):VX C fs pairs T rest env s K=VX C' fs pairs T rest env s K:=by rw [hc]
theorem b8y {d d' x x' sz bytes i pairs T t rest env s s' K} (h:d=d') (h2:x=x') (h3:s=s'):MX d x sz bytes i fs pairs T t rest env s K=MX d' x' sz bytes i fs pairs T t rest env s' K:=by rw [h,h2,h3]
theorem c6J {f l l' p p' pairs T t rest env s K} (h:l=l') (h2:p=p'):LX l p fs f pairs T t rest env s K=LX l' p' fs f pairs T t rest env s K:=by rw [h,h2]
attribute [congr] b7Y b6M c6E c4t b8y c6J
attribute [congr] b9D c21 b8p b8W b62 b6K c4f b8S c35
theorem zF {P Q:Prop} (k:Q) (h:P=Q:=by
 simp only [xn,T9,Q9,Q8,Q7,Q6,P9,O9,Q5,N9,X9,Z9,Y9,V9,U9,R9,Q4,Q3,Q2,Q1,List.map,List.getD,List.getElem?_cons_zero,List.getElem?_cons_succ,List.getElem?_nil,Option.getD]
 exact rfl):P:=h.mpr k
theorem zY0 {P Q:Prop} (k:Q) (h:P=Q:=by
 simp (maxSteps:=1000000) (disch:=(first|exact Rf.mk rfl|with_reducible assumption|omega|((repeat (first|rw [nP]|rw [nS]|rw [M7]))<;>omega)|decide)) only [go_sem,↓reduceIte]
 exact rfl):P:=h.mpr k
theorem zY {F P Q:Prop} (f:F) (k:Q) (h:F->P=Q:=by
 intro f
 simp (maxSteps:=1000000) (disch:=(first|exact Rf.mk rfl|with_reducible assumption|omega|((repeat (first|rw [nP]|rw [nS]|rw [M7]))<;>omega)|decide)) only [go_sem,↓reduceIte,f]
 exact rfl):P:=(h f).mpr k
theorem zZ0 {P:Prop} (h:P:=by simp (maxSteps:=1000000) (disch:=(first|exact Rf.mk rfl|with_reducible assumption|omega|((repeat (first|rw [nP]|rw [nS]|rw [M7]))<;>omega)|decide)) only [go_sem,↓reduceIte]):P:=h
theorem zZ {F P:Prop} (f:F) (h:F->P:=by
 intro f
 simp (maxSteps:=1000000) (disch:=(first|exact Rf.mk rfl|with_reducible assumption|omega|((repeat (first|rw [nP]|rw [nS]|rw [M7]))<;>omega)|decide)) only [go_sem,↓reduceIte,f]):P:=h f
end Go.V
namespace Go.Proofs.YtnjlhebkhjcagaaGreat
open Go.V
set_option maxRecDepth 100000
theorem b7j {f:Nat} {l:List D} {r:D} (h:Iso f l r) (hs:a0m r=true):a1B vfs f l r:=by
 obtain ⟨s1,h⟩:=h
 exact ⟨r,s1,h,a8I hs 19⟩
theorem a2c {f:Nat} {l:List D} {r:D} (h:Iso f l r) (hs:a0m r=true):Eqc vfs f l r:=P4 (b7j h hs)
theorem b23 {x:Int} (h1:-4294967296<=x) (h2:x<=4294967296):Eqc vfs 38 [.int .i64 x,.int .i64 8] (.int .i64 (O6 x 8)):=a2c (a8T (x:=x) (n:=8) (w:=8) (by decide) ⟨by omega,by omega⟩) rfl
theorem a3F {b:Bool}:Eqc vfs 71 [.bool b] (.int .i64 (a26 b)):=a2c c1U rfl
theorem pzm {m:MdX} {mo:Mo} {ps:List (Pr×PrD)} (h:MoF m mo ps):PZ (.agg (N8 m)):=a4l fun d hd=>by
 simp only [N8,List.mem_cons,List.not_mem_nil,or_false] at hd
 rcases hd with rfl | rfl | rfl | rfl | rfl | rfl | rfl
 ·exact ⟨FL.pure h.tr.fl,FL.ic h.tr.fl⟩
 ·exact ⟨rfl,fun _ _=>rfl⟩
 ·exact ⟨h.c.pure,FL.ic h.c⟩
 ·exact ⟨h.v.pure,FL.ic h.v⟩
 ·exact ⟨h.p.pure,FL.ic h.p⟩
 ·exact ⟨h.sf.pure,FL.ic h.sf⟩
 ·exact ⟨rfl,fun _ _=>rfl⟩
theorem pzs {x:StD} {st:Stt} (h:StF x st):PZ (.agg (a34 x st)):=a4l fun d hd=>by
 obtain ⟨ds,h1,_⟩:=h.c
 simp only [a34,List.mem_cons,List.not_mem_nil,or_false] at hd
 rcases hd with rfl | rfl | rfl | rfl
 ·exact ⟨h.a.pure,FL.ic h.a⟩
 ·exact ⟨FL.pure h.v,FL.ic h.v⟩
 ·exact ⟨h1.pure,FL.ic h1⟩
 ·exact ⟨rfl,fun _ _=>rfl⟩
theorem a6k {op:Nat} (hop:op<5) {a b:Int} (ha:I8 a) (hb:I8 b):Eqc vfs 72 [.int .i64 (op:Int),.int .i64 a,.int .i64 b,.int .i64 8] (.int .i64 (doZ op a b 8)):=a2c (do8 hop ha hb) rfl
end Go.Proofs.YtnjlhebkhjcagaaGreat
namespace Go.Proofs.YtnjlhebkhjcagaaGreat
open Go.V
set_option maxRecDepth 100000
set_option maxHeartbeats 4000000
theorem b3U {m:MdX} {mo:Mo} {ps:List (Pr×PrD)} (hm:MoF m mo ps) (ho:O4 mo) {x:StD} {st:Stt} (hx:StF x st) (h8:St8 st) (hcl:st.chans.length=mo.chans.length) {pr:Int} {look:ByteArray->Option Nat}
 (hlk:∀w,Iso 70 [.agg (N8 m),.int .i64 pr,.str w] (.int .i64 (a4i (look w)))) (hin:∀w v,look w=some v->v<st.vars.length):∀ (n k:Nat),k<mo.tree.length->mo.tree.length-k<n->a0M (nd mo.tree k).kind ->
 a1B vfs 48 [.agg (N8 m),.int .i64 pr,.agg (a34 x st),.int .i64 (k:Int)] (.tup [.int .i64 (U1 mo.tree mo.ch look st n k).1,.bool (U1 mo.tree mo.ch look st n k).2])
 | 0,k,_,h,_=>by omega
 | n+1,k,hk,hn,hex=>by
   have om:=hm.ones
   have ox:=hx.ones
   have fm:=pzm hm
   have fx:=pzs hx
   have hno:=ho.tree.node k hk
   have hidx:=hm.tr.at (z:=(k:Int)) (by omega) (by omega) (k:=.i64)
   rw [Int.toNat_natCast] at hidx
   have on:=a0B hm.tr hk
   have hw:=a2J hm.tr hk (i:=0)
   have n0:=a2s hm.tr hk (i:=0)
   have z0:((0:Nat):Int)=0:=rfl
   have z1:((1:Nat):Int)=1:=rfl
   rw [hno.wl,z0] at hw
   rw [hno.nl,z0] at n0
   obtain ⟨hkl,hkx⟩:=a5s hno hex
   have ih:∀i,i<(nd mo.tree k).kids.length->a1B vfs 48 [.agg (N8 m),.int .i64 pr,.agg (a34 x st),.int .i64 (((nd mo.tree k).kid i:Nat):Int)] (.tup [.int .i64 (U1 mo.tree mo.ch look st n ((nd mo.tree k).kid i)).1,.bool (U1 mo.tree mo.ch look st n ((nd mo.tree k).kid i)).2]):=fun i hi=>by
    have h1:=ho.tree.ks hk _ (V6 hi)
    exact b3U hm ho hx h8 hcl hlk hin n _ h1.2 (by omega) (hkx i hi)
   have i8:∀i,I8 (U1 mo.tree mo.ch look st n ((nd mo.tree k).kid i)).1:=fun i=>b46 h8 n _
   have k0:=a0D hm.tr ho.tree hk (i:=0)
   have k1:=a0D hm.tr ho.tree hk (i:=1)
   rw [z0] at k0
   rw [z1] at k1
   unfold U1
   simp only
   unfold N8 at ih fm hlk ⊢
   unfold a34 at ih fx ⊢
   by_cases q17:(nd mo.tree k).kind=17
   ·rw [if_pos q17]
    rw [q17] at n0
    have n0:=n0 (by decide)
    have hl:=hno.lit q17
    refine N3 (vf:=a1e) rfl ?_
    unfold a1e;refine zF ?_
    simp (disch:=(first|exact Rf.mk rfl|with_reducible assumption|omega|((repeat (first|rw [nP]|rw [nS]|rw [M7]))<;>omega)|decide)) only [go_sem,↓reduceIte,om,ox,hidx,on,q17,n0,b23]
   rw [if_neg q17]
   by_cases q18:(nd mo.tree k).kind=18
   ·rw [if_pos q18]
    rw [q18] at hw
    have hw:=hw (by decide)
    have hv:=hlk ((nd mo.tree k).word 0)
    cases hlo:look ((nd mo.tree k).word 0) with
    | none =>
      rw [hlo] at hv
      refine N3 (vf:=a1e) rfl ?_
      unfold a1e;refine zF ?_
      simp (disch:=(first|exact Rf.mk rfl|with_reducible assumption|omega|((repeat (first|rw [nP]|rw [nS]|rw [M7]))<;>omega)|decide)) only [go_sem,↓reduceIte,om,ox,hidx,on,q18,hw,a4i,a2c hv rfl]
    | some v =>
      rw [hlo] at hv
      have hvl:=hin _ _ hlo
      have hvi:=FI.idx hx.v hvl (k:=.i64)
      have c0:((v:Int)<0)=False:=eq_false (by omega)
      have e:=a2v hvl
      simp only [e]
      refine N3 (vf:=a1e) rfl ?_
      unfold a1e;refine zF ?_
      simp (disch:=(first|exact Rf.mk rfl|with_reducible assumption|omega|((repeat (first|rw [nP]|rw [nS]|rw [M7]))<;>omega)|decide)) only [go_sem,↓reduceIte,om,ox,hidx,on,q18,hw,a4i,c0,hvi,a2c hv rfl]
   rw [if_neg q18]
   by_cases q19:(nd mo.tree k).kind=19
   ·rw [if_pos q19]
    rw [q19] at hw
    have hw:=hw (by decide)
    have hlc:=hm.lenC
    have hnc:=ho.nc
    have hch:mo.ch.length=mo.chans.length:=by simp [Mo.ch]
    refine N3 (vf:=a1e) rfl ?_
    unfold a1e;refine zF ?_
    refine zY (aN om (aN ox (aN hidx (aN on q19)))) ?_
    refine P6 [0,1,2,3,4,6,10,11,13,14,15,16,17,18,19,20,27,28,35,45,51,77,94,114,154,158,159,168,177,183] 0 mo.chans.length (fun i f s=>s.get 0=some (.cells [m.dt,.int .i64 m.g,m.dc,m.dv,m.dp,m.ds,.bool m.b])/\s.get 1=some (.cells [x.da,x.dv,x.dc,.int .i64 st.hold])/\s.get 2=some (.cells [.int .i64 19,(nd mo.tree k).dw,(nd mo.tree k).dn,(nd mo.tree k).dk,.int .i64 (nd mo.tree k).pos])/\(∀j (hj:j<mo.chans.length),j<i->mo.chans[j].name≠(nd mo.tree k).word 0)/\f 12=.int .i64 (i:Int)) (.mk rfl) (by omega) ⟨?_,?_,?_,fun j _ h=>by omega,rfl⟩ ?_
    ·exact zZ0
    ·exact zZ0
    ·exact zZ0
    rintro i f s hi ⟨g0,g1,g2,hall,hE⟩
    by_cases ci:i<mo.chans.length
    ·have hs1:IntKind.i64.wrap ((i:Int)+1)=((i+1:Nat):Int):=by rw [O7 (by omega) (by omega)];omega
     have ci':((i:Int)<(mo.chans.length:Int))=True:=eq_true (by omega)
     have hci:=FLC.idx hm.c ci (k:=.i64)
     unfold Ch.row at hci
     by_cases ce:mo.chans[i].name=(nd mo.tree k).word 0
     ·have hil:i<mo.ch.length:=by omega
      have eb:=a4v (l:=mo.ch) (w:=(nd mo.tree k).word 0) hil (by simpa [Mo.ch] using ce) (fun j hj hji=>by simpa [Mo.ch] using hall j (by omega) hji)
      have hsc:i<st.chans.length:=by omega
      obtain ⟨dq,hq,hqi⟩:=hx.chan hsc
      have hqi:=hqi .i64
      have oq:=FL.one hq
      have hql:=FI.len hq
      have e:=a2n hsc
      simp only [eb,if_pos hil,e]
      exact zZ (aN hE (aN g0 (aN g1 (aN g2 (aN om (aN ox (aN on (aN hlc (aN ci' (aN hci (aN ce (aN hw (aN hqi (aN oq hql))))))))))))))
     ·have ce':decide (mo.chans[i].name=(nd mo.tree k).word 0)=false:=by simp [ce]
      refine zY (aN hE (aN g0 (aN g1 (aN g2 (aN om (aN on (aN hlc (aN ci' (aN hci (aN ce' (aN hw hs1))))))))))) ?_
      refine ⟨by omega,fun j hj hji=>?_⟩
      by_cases ej:j=i
      ·subst ej;exact ce
      ·exact hall j hj (by omega)
    ·have ci':((i:Int)<(mo.chans.length:Int))=False:=eq_false (by omega)
     have eb:=a4L (l:=mo.ch) (w:=(nd mo.tree k).word 0) (fun j hj=>by simpa [Mo.ch] using hall j (by omega) (by omega))
     simp only [if_neg eb]
     exact zZ (aN hE (aN g0 (aN om (aN hlc ci'))))
   rw [if_neg q19]
   by_cases q20:(nd mo.tree k).kind=20
   ·rw [if_pos q20]
    have h1:=hno.one (by omega)
    have k0:=k0 (by omega)
    have h0:=P4 (ih 0 (by omega))
    obtain ⟨b1,b2⟩:=i8 0
    have e1:IntKind.i64.wrap (0-(U1 mo.tree mo.ch look st n ((nd mo.tree k).kid 0)).1)=-(U1 mo.tree mo.ch look st n ((nd mo.tree k).kid 0)).1:=by rw [O7 (by omega) (by omega)];omega
    refine N3 (vf:=a1e) rfl ?_
    unfold a1e;refine zF ?_
    simp (disch:=(first|exact Rf.mk rfl|with_reducible assumption|omega|((repeat (first|rw [nP]|rw [nS]|rw [M7]))<;>omega)|decide)) only [go_sem,↓reduceIte,om,ox,hidx,on,q20,k0,e1,h0,b23]
   rw [if_neg q20]
   by_cases q21:(nd mo.tree k).kind=21
   ·rw [if_pos q21]
    have h1:=hno.one (by omega)
    have k0:=k0 (by omega)
    have h0:=P4 (ih 0 (by omega))
    generalize U1 mo.tree mo.ch look st n ((nd mo.tree k).kid 0)=y0 at *
    obtain ⟨v0,b0⟩:=y0
    simp only at h0 ⊢
    have eb:(v0==0)=decide (v0=0):=rfl
    cases b0
    ·refine N3 (vf:=a1e) rfl ?_
     unfold a1e;refine zF ?_
     simp (disch:=(first|exact Rf.mk rfl|with_reducible assumption|omega|((repeat (first|rw [nP]|rw [nS]|rw [M7]))<;>omega)|decide)) only [go_sem,↓reduceIte,om,ox,hidx,on,q21,k0,h0,a3F,Bool.false_and]
    ·refine N3 (vf:=a1e) rfl ?_
     unfold a1e;refine zF ?_
     simp (disch:=(first|exact Rf.mk rfl|with_reducible assumption|omega|((repeat (first|rw [nP]|rw [nS]|rw [M7]))<;>omega)|decide)) only [go_sem,↓reduceIte,om,ox,hidx,on,q21,k0,h0,a3F,eb]
   rw [if_neg q21]
   have q22:(nd mo.tree k).kind=22:=by have:=hex.1;have:=hex.2;omega
   rw [if_pos q22]
   obtain ⟨l2,_,_,o0,o8⟩:=hno.bin q22
   have k0:=k0 (by omega)
   have k1:=k1 (by omega)
   rw [q22] at n0
   have n0:=n0 (by decide)
   have g0:=P4 (ih 0 (by omega))
   have g1:=P4 (ih 1 (by omega))
   have i0:=i8 0
   have i1:=i8 1
   generalize U1 mo.tree mo.ch look st n ((nd mo.tree k).kid 0)=y0 at *
   generalize U1 mo.tree mo.ch look st n ((nd mo.tree k).kid 1)=y1 at *
   obtain ⟨v0,b0⟩:=y0
   obtain ⟨v1,b1⟩:=y1
   simp only at g0 g1 i0 i1 ⊢
   have e0:(v0 != 0)=decide (v0≠0):=by by_cases c:v0=0<;>simp [c]
   have e1:(v1 != 0)=decide (v1≠0):=by by_cases c:v1=0<;>simp [c]
   have e2:(v0==v1)=decide (v0=v1):=rfl
   have hcs:(nd mo.tree k).num 0=0∨(nd mo.tree k).num 0=1∨(nd mo.tree k).num 0=2∨(nd mo.tree k).num 0=3∨(nd mo.tree k).num 0=4∨(nd mo.tree k).num 0=5∨(nd mo.tree k).num 0=6∨(nd mo.tree k).num 0=7∨(nd mo.tree k).num 0=8:=by omega
   generalize (nd mo.tree k).num 0=op at *
   refine N3 (vf:=a1e) rfl ?_
   unfold a1e;refine zF ?_
   refine zY (aN om (aN ox (aN hidx (aN on (aN q22 (aN k0 (aN k1 (aN n0 (aN g0 g1))))))))) ?_
   cases b0
   ·simp (disch:=(first|exact Rf.mk rfl|with_reducible assumption|omega|((repeat (first|rw [nP]|rw [nS]|rw [M7]))<;>omega)|decide)) only [go_sem,↓reduceIte,Bool.false_and,if_false]
   cases b1
   ·simp (disch:=(first|exact Rf.mk rfl|with_reducible assumption|omega|((repeat (first|rw [nP]|rw [nS]|rw [M7]))<;>omega)|decide)) only [go_sem,↓reduceIte,Bool.and_false,if_false]
   simp only [Bool.and_self,if_true]
   have d0:Eqc vfs 72 [.int .i64 0,.int .i64 v0,.int .i64 v1,.int .i64 8] _:=a6k (op:=0) (by decide) i0 i1
   have d1:Eqc vfs 72 [.int .i64 1,.int .i64 v0,.int .i64 v1,.int .i64 8] _:=a6k (op:=1) (by decide) i0 i1
   have d2:Eqc vfs 72 [.int .i64 2,.int .i64 v0,.int .i64 v1,.int .i64 8] _:=a6k (op:=2) (by decide) i0 i1
   have d3:Eqc vfs 72 [.int .i64 3,.int .i64 v0,.int .i64 v1,.int .i64 8] _:=a6k (op:=3) (by decide) i0 i1
   have d4:Eqc vfs 72 [.int .i64 4,.int .i64 v0,.int .i64 v1,.int .i64 8] _:=a6k (op:=4) (by decide) i0 i1
   rcases hcs with rfl | rfl | rfl | rfl | rfl | rfl | rfl | rfl | rfl
   ·by_cases a0:v0=0
    ·have c0:(v0 != 0)=false:=by simp [a0]
     simp (disch:=(first|exact Rf.mk rfl|with_reducible assumption|omega|((repeat (first|rw [nP]|rw [nS]|rw [M7]))<;>omega)|decide)) only [go_sem,↓reduceIte,om,ox,on,n0,c0,e1,a3F]
     simp [W5,a0]
    ·have c0:(v0 != 0)=true:=by simp [a0]
     simp (disch:=(first|exact Rf.mk rfl|with_reducible assumption|omega|((repeat (first|rw [nP]|rw [nS]|rw [M7]))<;>omega)|decide)) only [go_sem,↓reduceIte,om,ox,on,n0,c0,a3F]
     simp [W5,a0]
   ·by_cases a0:v0=0
    ·have c0:(v0 != 0)=false:=by simp [a0]
     simp (disch:=(first|exact Rf.mk rfl|with_reducible assumption|omega|((repeat (first|rw [nP]|rw [nS]|rw [M7]))<;>omega)|decide)) only [go_sem,↓reduceIte,om,ox,on,n0,c0,e1,a3F]
     simp [W5,a0]
    ·have c0:(v0 != 0)=true:=by simp [a0]
     simp (disch:=(first|exact Rf.mk rfl|with_reducible assumption|omega|((repeat (first|rw [nP]|rw [nS]|rw [M7]))<;>omega)|decide)) only [go_sem,↓reduceIte,om,ox,on,n0,c0,e1,a3F]
     simp [W5,a0]
   ·simp (disch:=(first|exact Rf.mk rfl|with_reducible assumption|omega|((repeat (first|rw [nP]|rw [nS]|rw [M7]))<;>omega)|decide)) only [go_sem,↓reduceIte,om,ox,on,n0,e2,a3F]
    simp [W5]
   ·simp (disch:=(first|exact Rf.mk rfl|with_reducible assumption|omega|((repeat (first|rw [nP]|rw [nS]|rw [M7]))<;>omega)|decide)) only [go_sem,↓reduceIte,om,ox,on,n0,a3F]
    simp [W5]
   ·simp (disch:=(first|exact Rf.mk rfl|with_reducible assumption|omega|((repeat (first|rw [nP]|rw [nS]|rw [M7]))<;>omega)|decide)) only [go_sem,↓reduceIte,om,ox,on,n0,O7,d0]
    simp [W5]
   ·simp (disch:=(first|exact Rf.mk rfl|with_reducible assumption|omega|((repeat (first|rw [nP]|rw [nS]|rw [M7]))<;>omega)|decide)) only [go_sem,↓reduceIte,om,ox,on,n0,O7,d1]
    simp [W5]
   ·simp (disch:=(first|exact Rf.mk rfl|with_reducible assumption|omega|((repeat (first|rw [nP]|rw [nS]|rw [M7]))<;>omega)|decide)) only [go_sem,↓reduceIte,om,ox,on,n0,O7,d2]
    simp [W5]
   ·by_cases a1:v1=0
    ·refine zY (aN om (aN ox (aN on (aN n0 a1)))) ?_
     simp [W5,a1]
    ·have c1:(v1==0)=false:=by simp [a1]
     simp (disch:=(first|exact Rf.mk rfl|with_reducible assumption|omega|((repeat (first|rw [nP]|rw [nS]|rw [M7]))<;>omega)|decide)) only [go_sem,↓reduceIte,om,ox,on,n0,c1,O7,d3]
     simp [W5,a1]
   ·by_cases a1:v1=0
    ·refine zY (aN om (aN ox (aN on (aN n0 a1)))) ?_
     simp [W5,a1]
    ·have c1:(v1==0)=false:=by simp [a1]
     simp (disch:=(first|exact Rf.mk rfl|with_reducible assumption|omega|((repeat (first|rw [nP]|rw [nS]|rw [M7]))<;>omega)|decide)) only [go_sem,↓reduceIte,om,ox,on,n0,c1,O7,d4]
     simp [W5,a1]
end Go.Proofs.YtnjlhebkhjcagaaGreat
namespace Go.V
def eAt (l:List Ed) (i:Nat):Ed:=l.getD i default
def vAt (l:List Vr) (i:Nat):Vr:=l.getD i default
def bAt (l:List Bool) (i:Nat):Bool:=l.getD i false
def sAt (l:List ByteArray) (i:Nat):ByteArray:=l.getD i default
def pAt (l:List Pr) (i:Nat):Pr:=l.getD i default
def prX (l:List (Pr×PrD)) (i:Nat):PrD:=(l.getD i ⟨default,⟨.nils,.nils,.nils,.nils,.nils⟩⟩).2
theorem a15 {l:List Ed} {i:Nat} (h:i<l.length):eAt l i=l[i]:=by simp [eAt,List.getD,h]
theorem a2p {l:List Vr} {i:Nat} (h:i<l.length):vAt l i=l[i]:=by simp [vAt,List.getD,h]
theorem b0q {l:List ByteArray} {i:Nat} (h:i<l.length):sAt l i=l[i]:=by simp [sAt,List.getD,h]
theorem a19 {l:List Pr} {i:Nat} (h:i<l.length):pAt l i=l[i]:=by simp [pAt,List.getD,h]
theorem a0l {l:List Pr} {i:Nat} (h:i<l.length):pAt l i∈l:=by rw [a19 h];exact List.getElem_mem h
theorem a1P {l:List Ed} {i:Nat} (h:i<l.length):eAt l i∈l:=by rw [a15 h];exact List.getElem_mem h
theorem a47 {l:List Ch} {i:Nat} (h:i<l.length):S4 l i∈l:=by rw [a2d h];exact List.getElem_mem h
theorem a4P {l:List Vr} {i:Nat} (h:i<l.length):vAt l i∈l:=by rw [a2p h];exact List.getElem_mem h
theorem a7n {l:List Int} {i:Nat} (h:i<l.length):zAt l i∈l:=by rw [a2v h];exact List.getElem_mem h
theorem b6O {l:List (List Int)} {i:Nat} (h:i<l.length):cAt l i∈l:=by rw [a2n h];exact List.getElem_mem h
variable {k:IntKind} {i j:Nat} {d:D}
theorem c2c {l:List Int} (h:FI d l) (hi:i<l.length):N2 1 d (.int k (i:Int))=some (.fp [.int .i64 (zAt l i)] 0):=by rw [FI.idx h hi,a2v hi]
theorem b5s {l:List Nat} (h:FL 1 d (P5 l)) (hi:i<l.length):N2 1 d (.int k (i:Int))=some (.fp [.int .i64 (nAt l i:Int)] 0):=by rw [FLN.idx h hi,a3e hi]
theorem c2h {l:List ByteArray} (h:FL 1 d (X5 l)) (hi:i<l.length):N2 1 d (.int k (i:Int))=some (.fp [.str (sAt l i)] 0):=by rw [FLS.idx h hi,b0q hi]
theorem a5L {l:List Ed} (h:FL 8 d (U2 l)) (hi:i<l.length):N2 8 d (.int k (i:Int))=some (.fp [.int .i64 ((eAt l i).frm:Int),.int .i64 ((eAt l i).to:Int),.int .i64 ((eAt l i).act:Int),.int .i64 (eAt l i).expr,.int .i64 (eAt l i).var,.int .i64 (eAt l i).chan,.bool (eAt l i).keep,.int .i64 ((eAt l i).node:Int)] 0):=by rw [FLE.idx h hi,a15 hi];rfl
theorem c5M {l:List Ch} (h:FL 5 d (a0C l)) (hi:i<l.length):N2 5 d (.int k (i:Int))=some (.fp [.str (S4 l i).name,.int .i64 (S4 l i).room,.int .i64 (S4 l i).width,.bool (S4 l i).lossy,.bool (S4 l i).copying] 0):=by rw [FLC.idx h hi,a2d hi];rfl
theorem b7i {l:List Vr} (h:FL 3 d (Z6 l)) (hi:i<l.length):N2 3 d (.int k (i:Int))=some (.fp [.str (vAt l i).name,.int .i64 (vAt l i).width,.int .i64 (vAt l i).value] 0):=by rw [FLV.idx h hi,a2p hi];rfl
theorem c2X {t:List Nd} (h:N7 d t) (hi:i<t.length):N2 5 d (.int k (i:Int))=some (.fp [.int .i64 (nd t i).kind,(nd t i).dw,(nd t i).dn,(nd t i).dk,.int .i64 (nd t i).pos] 0):=by
 have:=h.at (z:=(i:Int)) (by omega) (by omega) (k:=k)
 rwa [Int.toNat_natCast] at this
theorem c3E {l:List Int} (h:FI d l):V2 false d=some (.int .i64 (l.length:Int)):=FI.len h
theorem b9r {l:List Nat} (h:FL 1 d (P5 l)):V2 false d=some (.int .i64 (l.length:Int)):=by rw [h.len,a3P]
theorem c2g {l:List ByteArray} (h:FL 1 d (X5 l)):V2 false d=some (.int .i64 (l.length:Int)):=by rw [h.len,a6Z]
theorem a76 {l:List Ed} (h:FL 8 d (U2 l)):V2 false d=some (.int .i64 (l.length:Int)):=by rw [h.len,a3c]
theorem c4s {l:List Ch} (h:FL 5 d (a0C l)):V2 false d=some (.int .i64 (l.length:Int)):=by rw [h.len,a5J]
theorem c61 {l:List Vr} (h:FL 3 d (Z6 l)):V2 false d=some (.int .i64 (l.length:Int)):=by rw [h.len,a9z]
theorem c6a {rows:List (List D)} (h:FL 1 d rows):M8 d=true:=h.one
theorem c5B {l:List Int} (h:FI d l):M8 d=true:=FL.one h
theorem a9t {l:List Int} (h:FI d l):PZ d:=FL.pz h
variable {m:MdX} {mo:Mo} {ps:List (Pr×PrD)}
theorem a1z (h:MoF m mo ps) (hi:i<mo.procs.length):PrF (pAt mo.procs i) (prX ps i):=by
 have hi':i<ps.length:=by rw [h.plen];exact hi
 have e:pAt mo.procs i=ps[i].1:=by rw [a19 hi];simp [<- h.eq]
 have e2:prX ps i=ps[i].2:=by simp [prX,List.getD,hi']
 rw [e,e2]
 exact h.at' _ (List.getElem_mem hi')
theorem b9F (h:MoF m mo ps) (hi:i<mo.procs.length):N2 8 m.dp (.int k (i:Int))=some (.fp [.str (pAt mo.procs i).name,.int .i64 ((pAt mo.procs i).copy:Int),(prX ps i).dl,.int .i64 ((pAt mo.procs i).places:Int),(prX ps i).dr,(prX ps i).de,(prX ps i).dn,(prX ps i).dv] 0):=by
 have hi':i<ps.length:=by rw [h.plen];exact hi
 have e:pAt mo.procs i=ps[i].1:=by rw [a19 hi];simp [<- h.eq]
 have e2:prX ps i=ps[i].2:=by simp [prX,List.getD,hi']
 rw [h.p.idx (by simpa using hi'),e,e2]
 simp [a04,M1]
theorem c0w (h:MoF m mo ps):V2 false m.dp=some (.int .i64 (mo.procs.length:Int)):=h.lenP
theorem c6L (h:MoF m mo ps) (hi:i<mo.procs.length):M8 (prX ps i).dl=true:=(a1z h hi).l.one
theorem c0q (h:MoF m mo ps) (hi:i<mo.procs.length):M8 (prX ps i).dr=true:=(a1z h hi).r.one
theorem b84 (h:MoF m mo ps) (hi:i<mo.procs.length):M8 (prX ps i).de=true:=(a1z h hi).e.one
theorem b7e (h:MoF m mo ps) (hi:i<mo.procs.length):M8 (prX ps i).dn=true:=(a1z h hi).n.one
theorem c1O (h:MoF m mo ps) (hi:i<mo.procs.length):M8 (prX ps i).dv=true:=(a1z h hi).v.one
theorem b7L (h:MoF m mo ps) (hi:i<mo.procs.length):V2 false (prX ps i).dl=some (.int .i64 ((pAt mo.procs i).locals.length:Int)):=(a1z h hi).lenL
theorem a9i (h:MoF m mo ps) (hi:i<mo.procs.length):V2 false (prX ps i).de=some (.int .i64 ((pAt mo.procs i).edges.length:Int)):=(a1z h hi).lenE
theorem c3l (h:MoF m mo ps) (hi:i<mo.procs.length) (hj:j<(pAt mo.procs i).edges.length):N2 8 (prX ps i).de (.int k (j:Int))=some (.fp [.int .i64 ((eAt (pAt mo.procs i).edges j).frm:Int),.int .i64 ((eAt (pAt mo.procs i).edges j).to:Int),.int .i64 ((eAt (pAt mo.procs i).edges j).act:Int),.int .i64 (eAt (pAt mo.procs i).edges j).expr,.int .i64 (eAt (pAt mo.procs i).edges j).var,.int .i64 (eAt (pAt mo.procs i).edges j).chan,.bool (eAt (pAt mo.procs i).edges j).keep,.int .i64 ((eAt (pAt mo.procs i).edges j).node:Int)] 0):=a5L (a1z h hi).e hj
theorem c06 (h:MoF m mo ps) (hi:i<mo.procs.length) (hj:j<(pAt mo.procs i).locals.length):N2 1 (prX ps i).dl (.int k (j:Int))=some (.fp [.int .i64 (nAt (pAt mo.procs i).locals j:Int)] 0):=b5s (a1z h hi).l hj
theorem a0N (h:MoF m mo ps):PZ (.agg [m.dt,.int .i64 m.g,m.dc,m.dv,m.dp,m.ds,.bool m.b]):=a4l fun d hd=>by
 simp only [List.mem_cons,List.not_mem_nil,or_false] at hd
 rcases hd with rfl | rfl | rfl | rfl | rfl | rfl | rfl
 ·exact ⟨FL.pure h.tr.fl,FL.ic h.tr.fl⟩
 ·exact ⟨rfl,fun _ _=>rfl⟩
 ·exact ⟨h.c.pure,FL.ic h.c⟩
 ·exact ⟨h.v.pure,FL.ic h.v⟩
 ·exact ⟨h.p.pure,FL.ic h.p⟩
 ·exact ⟨h.sf.pure,FL.ic h.sf⟩
 ·exact ⟨rfl,fun _ _=>rfl⟩
theorem b0E {e:Ed}:PZ (.agg [.int .i64 (e.frm:Int),.int .i64 (e.to:Int),.int .i64 (e.act:Int),.int .i64 e.expr,.int .i64 e.var,.int .i64 e.chan,.bool e.keep,.int .i64 (e.node:Int)]):=a4l fun d hd=>by
 simp only [List.mem_cons,List.not_mem_nil,or_false] at hd
 rcases hd with rfl | rfl | rfl | rfl | rfl | rfl | rfl | rfl<;>exact ⟨rfl,fun _ _=>rfl⟩
theorem a1A {x:StD} {st:Stt} (h:StF x st):PZ (.agg [x.da,x.dv,x.dc,.int .i64 st.hold]):=a4l fun d hd=>by
 obtain ⟨ds,h1,_⟩:=h.c
 simp only [List.mem_cons,List.not_mem_nil,or_false] at hd
 rcases hd with rfl | rfl | rfl | rfl
 ·exact ⟨h.a.pure,FL.ic h.a⟩
 ·exact ⟨FL.pure h.v,FL.ic h.v⟩
 ·exact ⟨h1.pure,FL.ic h1⟩
 ·exact ⟨rfl,fun _ _=>rfl⟩
def chX:D->Nat->D
 | .lst _ xs,i=>(xs.getD i []).getD 0 .nils
 | _,_=>.nils
theorem b5N {x:StD} {st:Stt} (h:StF x st) (hi:i<st.chans.length):FI (chX x.dc i) (cAt st.chans i)/\N2 1 x.dc (.int k (i:Int))=some (.fp [chX x.dc i] 0):=by
 obtain ⟨ds,h1,h2,h3⟩:=h.c
 have hi':i<ds.length:=by omega
 have e:chX x.dc i=ds[i]:=by
  rcases h1 with ⟨_,e⟩ | e
  ·simp at e;subst e;simp at hi'
  ·rw [e];simp [chX,List.getD,hi']
 rw [e,a2n hi]
 refine ⟨h3 i hi' hi,?_⟩
 rw [h1.idx (by simpa using hi')]
 simp
theorem b05 {x:StD} {st:Stt} (h:StF x st) (hi:i<st.chans.length):FI (chX x.dc i) (cAt st.chans i):=(b5N (k:=.i64) h hi).1
theorem b9U {x:StD} {st:Stt} (h:StF x st) (hi:i<st.chans.length):N2 1 x.dc (.int k (i:Int))=some (.fp [chX x.dc i] 0):=(b5N h hi).2
theorem b9a {x:StD} {st:Stt} (h:StF x st) (hi:i<st.chans.length):M8 (chX x.dc i)=true:=FL.one (b05 h hi)
theorem c5o {x:StD} {st:Stt} (h:StF x st) (hi:i<st.chans.length):V2 false (chX x.dc i)=some (.int .i64 ((cAt st.chans i).length:Int)):=FI.len (b05 h hi)
theorem c5n {x:StD} {st:Stt} (h:StF x st):V2 false x.dc=some (.int .i64 (st.chans.length:Int)):=by
 obtain ⟨ds,h1,h2,_⟩:=h.c
 rw [h1.len,List.length_map,h2]
theorem b9s {n:Nat}:(n:Int)+1=((n+1:Nat):Int):=by omega
theorem c0g {a b:Nat}:((a:Int)<(b:Int))=(a<b):=by apply propext;omega
theorem c0a {a b:Nat}:((a:Int)<=(b:Int))=(a<=b):=by apply propext;omega
theorem b9G:((0:Nat):Int)=0:=rfl
theorem c62:((1:Nat):Int)=1:=rfl
theorem c4O:((2:Nat):Int)=2:=rfl
theorem c3P:((3:Nat):Int)=3:=rfl
theorem c1e:((4:Nat):Int)=4:=rfl
theorem b7D:((5:Nat):Int)=5:=rfl
theorem c3x:((6:Nat):Int)=6:=rfl
theorem b6B:((7:Nat):Int)=7:=rfl
theorem c5R:((8:Nat):Int)=8:=rfl
theorem c2F:((9:Nat):Int)=9:=rfl
theorem b6X:((10:Nat):Int)=10:=rfl
theorem b9P:((11:Nat):Int)=11:=rfl
theorem c3T:((12:Nat):Int)=12:=rfl
theorem c1K:((13:Nat):Int)=13:=rfl
theorem b9x:((14:Nat):Int)=14:=rfl
theorem c5s:((15:Nat):Int)=15:=rfl
theorem c6c:((16:Nat):Int)=16:=rfl
theorem b1K {a b:Int}:(a==b)=decide (a=b):=by rw [Bool.eq_iff_iff];simp
theorem b9l {a b:Int}:(a != b)=!decide (a=b):=by rw [bne,b1K]
theorem b9z {a b:Nat}:((a:Int)=(b:Int))=(a=b):=by apply propext;omega
theorem b7f {a:Nat}:((0:Int)<(a:Int))=(0<a):=by apply propext;omega
theorem c48 {a:Nat}:((0:Int)<=(a:Int))=True:=eq_true (by omega)
theorem b8L {a:Nat}:((a:Int)<0)=False:=eq_false (by omega)
attribute [go_sem] b9G c62 c4O c3P c1e b7D c3x b6B c5R c2F b6X b9P c3T c1K b9x c5s c6c b1K b9l b9z b7f c48 b8L c2c b5s c2h a5L c5M b7i c2X c3E b9r c2g a76 c4s c61 c6a c5B b9F c0w c6L c0q b84 b7e c1O b7L a9i c3l c06 b9U b9a c5o c5n b9s c0g c0a
theorem X4 {p:Prop} [Decidable p]:(decide p=true)=p:=by simp
theorem X6 {p:Prop} [Decidable p]:(decide p=false)=¬ p:=by simp
theorem X2 {b:Bool}:((!b)=true)=(b=false):=by simp
theorem X3 {b:Bool}:((!b)=false)=(b=true):=by simp
end Go.V
namespace Go.Proofs.YtnjlhebkhjcagaaGreat
open Go.V
set_option maxRecDepth 100000
set_option maxHeartbeats 4000000
structure Y6 (mo:Mo) (x:StD) (st:Stt):Prop where
 f:StF x st
 e:St8 st
 fit:Fit mo st
variable {m:MdX} {mo:Mo} {ps:List (Pr×PrD)} {x:StD} {st:Stt}
theorem a7R (hm:MoF m mo ps) (ho:O4 mo) (hx:Y6 mo x st) {p:Nat} (hp:p<mo.procs.length) {k:Nat} (hk:k<mo.tree.length) (he:a0M (nd mo.tree k).kind) :
 Eqc vfs 48 [.agg [m.dt,.int .i64 m.g,m.dc,m.dv,m.dp,m.ds,.bool m.b],.int .i64 (p:Int),.agg [x.da,x.dv,x.dc,.int .i64 st.hold],.int .i64 (k:Int)] (.tup [.int .i64 (mo.val (U4 (pAt mo.procs p)) st k).1,.bool (mo.val (U4 (pAt mo.procs p)) st k).2]):=by
 rw [a19 hp]
 exact P4 (b3U hm ho hx.f hx.e hx.fit.chans (fun w=>b8k hm ho hp) (fun w v hv=>by
  have hpo:=ho.pr _ (List.getElem_mem hp)
  have:=hpo.var v (c47 hpo.same hv)
  rw [hx.fit.vars];exact this) _ k hk (by omega) he)
theorem b9d (hm:MoF m mo ps) (ho:O4 mo) (hx:Y6 mo x st) {p:Nat} (hp:p<mo.procs.length) {e:Ed} (he:a22 mo.tree mo.chans.length (pAt mo.procs p).places (pAt mo.procs p).vars e) :
 Eqc vfs 40 [.agg [m.dt,.int .i64 m.g,m.dc,m.dv,m.dp,m.ds,.bool m.b],.agg [x.da,x.dv,x.dc,.int .i64 st.hold],.int .i64 (p:Int),.agg [.int .i64 (e.frm:Int),.int .i64 (e.to:Int),.int .i64 (e.act:Int),.int .i64 e.expr,.int .i64 e.var,.int .i64 e.chan,.bool e.keep,.int .i64 (e.node:Int)]] (.bool (mo.can st p (pAt mo.procs p) e)):=by
 refine P4 ?_
 have fm:=a0N hm
 have fx:=a1A hx.f
 have om:=hm.ones
 have ox:=hx.f.ones
 have hxf:=hx.f
 have hxa:=hxf.a
 have hmc:=hm.c
 have hpa:p<st.at'.length:=by rw [hx.fit.at'];exact hp
 have hcl:=hx.fit.chans
 unfold Mo.can Mo.ex
 have h6:e.act=0∨e.act=1∨e.act=2∨e.act=3∨e.act=4∨e.act=5:=by have:=he.act;omega
 rcases h6 with ha | ha | ha | ha | ha | ha
 ·have hex:=he.ex0 (by omega)
  rw [hex]
  refine N3 (vf:=a10) rfl ?_
  unfold a10;refine zF ?_
  refine zY (aN om (aN ox ha)) ?_
  repeat' (first|(refine a1c (fun c=>?_) (fun c=>?_)<;>(try simp only [X4,X6,X2,X3] at c)<;>simp (disch:=(first|exact Rf.mk rfl|with_reducible assumption|omega|((repeat (first|rw [nP]|rw [nS]|rw [M7]))<;>omega)|decide)) only [go_sem,↓reduceIte,om,ox,ha,c])|(refine a1t (fun c=>?_) (fun c=>?_)<;>(try simp only [X4,X6,X2,X3] at c)<;>simp (disch:=(first|exact Rf.mk rfl|with_reducible assumption|omega|((repeat (first|rw [nP]|rw [nS]|rw [M7]))<;>omega)|decide)) only [go_sem,↓reduceIte,om,ox,ha,c]))
  all_goals simp_all
 ·obtain ⟨k,hk1,hk2,hk3⟩:=he.ex1 (by omega)
  have hv:=a7R hm ho hx hp hk2 hk3
  rw [hk1]
  simp only [Int.natCast_nonneg,if_true,Int.toNat_natCast]
  generalize mo.val (U4 (pAt mo.procs p)) st k=v at *
  refine N3 (vf:=a10) rfl ?_
  unfold a10;refine zF ?_
  refine zY (aN om (aN ox (aN ha hv))) ?_
  repeat' (first|(refine a1c (fun c=>?_) (fun c=>?_)<;>(try simp only [X4,X6,X2,X3] at c)<;>simp (disch:=(first|exact Rf.mk rfl|with_reducible assumption|omega|((repeat (first|rw [nP]|rw [nS]|rw [M7]))<;>omega)|decide)) only [go_sem,↓reduceIte,om,ox,ha,hv,c])|(refine a1t (fun c=>?_) (fun c=>?_)<;>(try simp only [X4,X6,X2,X3] at c)<;>simp (disch:=(first|exact Rf.mk rfl|with_reducible assumption|omega|((repeat (first|rw [nP]|rw [nS]|rw [M7]))<;>omega)|decide)) only [go_sem,↓reduceIte,om,ox,ha,hv,c]))
  all_goals simp_all
 ·obtain ⟨k,hk1,hk2,hk3⟩:=he.ex1 (by omega)
  obtain ⟨q,hq1,hq2⟩:=he.c1 (by omega)
  have hv:=a7R hm ho hx hp hk2 hk3
  rw [hk1,hq1]
  simp only [Int.natCast_nonneg,if_true,Int.toNat_natCast]
  generalize mo.val (U4 (pAt mo.procs p)) st k=v at *
  refine N3 (vf:=a10) rfl ?_
  unfold a10;refine zF ?_
  refine zY (aN om (aN ox (aN ha hv))) ?_
  repeat' (first|(refine a1c (fun c=>?_) (fun c=>?_)<;>(try simp only [X4,X6,X2,X3] at c)<;>simp (disch:=(first|exact Rf.mk rfl|with_reducible assumption|omega|((repeat (first|rw [nP]|rw [nS]|rw [M7]))<;>omega)|decide)) only [go_sem,↓reduceIte,om,ox,ha,hv,c])|(refine a1t (fun c=>?_) (fun c=>?_)<;>(try simp only [X4,X6,X2,X3] at c)<;>simp (disch:=(first|exact Rf.mk rfl|with_reducible assumption|omega|((repeat (first|rw [nP]|rw [nS]|rw [M7]))<;>omega)|decide)) only [go_sem,↓reduceIte,om,ox,ha,hv,c]))
  all_goals simp_all
 ·have hex:=he.ex0 (by omega)
  obtain ⟨q,hq1,hq2⟩:=he.c1 (by omega)
  rw [hex,hq1]
  refine N3 (vf:=a10) rfl ?_
  unfold a10;refine zF ?_
  refine zY (aN om (aN ox ha)) ?_
  repeat' (first|(refine a1c (fun c=>?_) (fun c=>?_)<;>(try simp only [X4,X6,X2,X3] at c)<;>simp (disch:=(first|exact Rf.mk rfl|with_reducible assumption|omega|((repeat (first|rw [nP]|rw [nS]|rw [M7]))<;>omega)|decide)) only [go_sem,↓reduceIte,om,ox,ha,c])|(refine a1t (fun c=>?_) (fun c=>?_)<;>(try simp only [X4,X6,X2,X3] at c)<;>simp (disch:=(first|exact Rf.mk rfl|with_reducible assumption|omega|((repeat (first|rw [nP]|rw [nS]|rw [M7]))<;>omega)|decide)) only [go_sem,↓reduceIte,om,ox,ha,c]))
  all_goals simp_all
 ·obtain ⟨k,hk1,hk2,hk3⟩:=he.ex1 (by omega)
  have hv:=a7R hm ho hx hp hk2 hk3
  rw [hk1]
  simp only [Int.natCast_nonneg,if_true,Int.toNat_natCast]
  generalize mo.val (U4 (pAt mo.procs p)) st k=v at *
  refine N3 (vf:=a10) rfl ?_
  unfold a10;refine zF ?_
  refine zY (aN om (aN ox (aN ha hv))) ?_
  repeat' (first|(refine a1c (fun c=>?_) (fun c=>?_)<;>(try simp only [X4,X6,X2,X3] at c)<;>simp (disch:=(first|exact Rf.mk rfl|with_reducible assumption|omega|((repeat (first|rw [nP]|rw [nS]|rw [M7]))<;>omega)|decide)) only [go_sem,↓reduceIte,om,ox,ha,hv,c])|(refine a1t (fun c=>?_) (fun c=>?_)<;>(try simp only [X4,X6,X2,X3] at c)<;>simp (disch:=(first|exact Rf.mk rfl|with_reducible assumption|omega|((repeat (first|rw [nP]|rw [nS]|rw [M7]))<;>omega)|decide)) only [go_sem,↓reduceIte,om,ox,ha,hv,c]))
  all_goals simp_all
 ·obtain ⟨k,hk1,hk2,hk3⟩:=he.ex1 (by omega)
  have hv:=a7R hm ho hx hp hk2 hk3
  rw [hk1]
  simp only [Int.natCast_nonneg,if_true,Int.toNat_natCast]
  generalize mo.val (U4 (pAt mo.procs p)) st k=v at *
  refine N3 (vf:=a10) rfl ?_
  unfold a10;refine zF ?_
  refine zY (aN om (aN ox (aN ha hv))) ?_
  repeat' (first|(refine a1c (fun c=>?_) (fun c=>?_)<;>(try simp only [X4,X6,X2,X3] at c)<;>simp (disch:=(first|exact Rf.mk rfl|with_reducible assumption|omega|((repeat (first|rw [nP]|rw [nS]|rw [M7]))<;>omega)|decide)) only [go_sem,↓reduceIte,om,ox,ha,hv,c])|(refine a1t (fun c=>?_) (fun c=>?_)<;>(try simp only [X4,X6,X2,X3] at c)<;>simp (disch:=(first|exact Rf.mk rfl|with_reducible assumption|omega|((repeat (first|rw [nP]|rw [nS]|rw [M7]))<;>omega)|decide)) only [go_sem,↓reduceIte,om,ox,ha,hv,c]))
  all_goals simp_all
theorem b6l (hm:MoF m mo ps) (ho:O4 mo) (hx:Y6 mo x st) {p:Nat} (hp:p<mo.procs.length) {j:Nat} (hj:j<(pAt mo.procs p).edges.length) :
 Eqc vfs 40 [.agg [m.dt,.int .i64 m.g,m.dc,m.dv,m.dp,m.ds,.bool m.b],.agg [x.da,x.dv,x.dc,.int .i64 st.hold],.int .i64 (p:Int),.agg [.int .i64 ((eAt (pAt mo.procs p).edges j).frm:Int),.int .i64 ((eAt (pAt mo.procs p).edges j).to:Int),.int .i64 ((eAt (pAt mo.procs p).edges j).act:Int),.int .i64 (eAt (pAt mo.procs p).edges j).expr,.int .i64 (eAt (pAt mo.procs p).edges j).var,.int .i64 (eAt (pAt mo.procs p).edges j).chan,.bool (eAt (pAt mo.procs p).edges j).keep,.int .i64 ((eAt (pAt mo.procs p).edges j).node:Int)]] (.bool (mo.can st p (pAt mo.procs p) (eAt (pAt mo.procs p).edges j))) :=
 b9d hm ho hx hp ((ho.pr _ (a0l hp)).inv.ed _ (a1P hj))
end Go.Proofs.YtnjlhebkhjcagaaGreat
namespace Go.V
variable {fs:FuncId->Option M3}
theorem a56 {t rest env K s d sz bytes rows row A B E R} (h:Rp d sz rows E) (hp:Hp s (A++E++B) R) (hr:row.length=sz) (hrs:∀r∈rows,r.length=sz) (hb:bytes<=1000) (hl:rows.length<=1000000000)
 (k:∀d' s' E',Rp d' sz (rows++[row]) E'->Hp s' (A++E'++B) R->s.next<=s'.next->XQ fs [] rest ((t,d')::env) s' K):BM (V3 sz bytes d (.arr s.next 0 1 sz) (s.push (.cells row))) fs t rest env K:=by
 obtain ⟨d',s',h1,E',h2,h3,h4⟩:=h.app (hp.push (.cells row)) (P0 rfl) hr hrs hb hl
 rw [h1]
 exact k d' s' E' h2 h3 (by rw [f6.next_push] at h4;omega)
theorem a2S {s:f6} {d:D} {sz:Nat} {rows:List (List D)} {E W R:Hs} (h:Rp d sz rows E) (hp:Hp s W R) (he:∀e∈E,e∈W) (hr:∀r∈rows,r.length=sz) (hs:∀r∈rows,r.all a0m=true):∃d',ice s.get 20 d=some d'/\FL sz d' rows :=
 (h.sn fun e hm=>hp.w e (he e hm)).frz1 (n:=18) hr hs
theorem a1O (l:List Mv):∀r∈U3 l,r.length=4:=by intro r h;obtain ⟨b,_,rfl⟩:=List.mem_map.1 h;rfl
theorem a3k (l:List Mv):∀r∈U3 l,r.all a0m=true:=by intro r h;obtain ⟨b,_,rfl⟩:=List.mem_map.1 h;rfl
@[simp] theorem b8i (l:List Mv):(U3 l).length=l.length:=by simp [U3]
theorem c0p {α:Type} {f:α->List D} {t rest env K s d sz bytes row E R} {l:List α} (v:α) (hv:f v=row) (h:Rp d sz (l.map f) E) (hp:Hp s E R) (hf:∀v,(f v).length=sz) (hb:bytes<=1000) (hl:l.length<=1000000000)
 (k:∀d' s' E',Rp d' sz ((l++[v]).map f) E'->Hp s' E' R->XQ fs [] rest ((t,d')::env) s' K):BM (V3 sz bytes d (.arr s.next 0 1 sz) (s.push (.cells row))) fs t rest env K:=by
 subst hv
 refine a56 (A:=[]) (B:=[]) h (by simpa using hp) (hf v) (fun r hr=>?_) hb (by simpa using hl) fun d' s' E' h1 h2 _=>k d' s' E' (by simpa using h1) (by simpa using h2)
 obtain ⟨x,_,rfl⟩:=List.mem_map.1 hr
 exact hf x
theorem a1n {t rest env K s d bytes row E R} {l:List Mv} (v:Mv) (hv:v.row=row) (h:Rp d 4 (U3 l) E) (hp:Hp s E R) (hb:bytes<=1000) (hl:l.length<=1000000000)
 (k:∀d' s' E',Rp d' 4 (U3 (l++[v])) E'->Hp s' E' R->XQ fs [] rest ((t,d')::env) s' K):BM (V3 4 bytes d (.arr s.next 0 1 4) (s.push (.cells row))) fs t rest env K:=c0p (f:=Mv.row) v hv h hp (fun _=>rfl) hb hl k
def O0 (l:List Mv) (i:Nat):Mv:=l.getD i default
theorem a37 {l:List Mv} {i:Nat} (h:i<l.length):O0 l i=l[i]:=by simp [O0,List.getD,h]
theorem a65 {l:List Mv} {i:Nat} (h:i<l.length):O0 l i∈l:=by rw [a37 h];exact List.getElem_mem h
theorem c4A {l:List Mv} {d:D} {i:Nat} {k:IntKind} (h:FL 4 d (U3 l)) (hi:i<l.length):N2 4 d (.int k (i:Int))=some (.fp [.int .i64 ((O0 l i).kind:Int),.int .i64 ((O0 l i).proc:Int),.int .i64 ((O0 l i).edge:Int),.int .i64 ((O0 l i).chan:Int)] 0):=by
 rw [h.idx (by simpa using hi),a37 hi];simp [U3,Mv.row]
theorem c1G {l:List Mv} {d:D} (h:FL 4 d (U3 l)):V2 false d=some (.int .i64 (l.length:Int)):=by rw [h.len,b8i]
theorem b9g {d:D} {sz:Nat} {rows:List (List D)} {E:Hs} (h:Rp d sz rows E):M8 d=true:=h.one
attribute [go_sem] c4A c1G b9g
def Mo.mvE (mo:Mo) (st:Stt) (i j:Nat):List Mv:=((List.range j).filter fun j=>mo.can st i (pAt mo.procs i) (eAt (pAt mo.procs i).edges j)).map fun j=>⟨0,i,j,0⟩
theorem Mo.mvE_succ {mo:Mo} {st:Stt} {i j:Nat}:mo.mvE st i (j+1)=mo.mvE st i j++if mo.can st i (pAt mo.procs i) (eAt (pAt mo.procs i).edges j) then [⟨0,i,j,0⟩] else []:=by
 unfold Mo.mvE
 rw [List.range_succ,List.filter_append,List.map_append]
 congr 1
 simp only [List.filter_cons,List.filter_nil]
 split<;>rfl
theorem Mo.movesP_eq {mo:Mo} {st:Stt} {i:Nat}:mo.movesP st i=if 0<=st.hold/\st.hold≠(i:Int) then [] else mo.mvE st i (pAt mo.procs i).edges.length:=rfl
def Mo.mvP (mo:Mo) (st:Stt) (i:Nat):List Mv:=(List.range i).flatMap (mo.movesP st)
def Mo.mvC (mo:Mo) (st:Stt) (i:Nat):List Mv:=(List.range i).flatMap (mo.movesC st)
theorem Mo.mvP_succ {mo:Mo} {st:Stt} {i:Nat}:mo.mvP st (i+1)=mo.mvP st i++mo.movesP st i:=by simp [Mo.mvP,List.range_succ]
theorem Mo.mvC_succ {mo:Mo} {st:Stt} {i:Nat}:mo.mvC st (i+1)=mo.mvC st i++mo.movesC st i:=by simp [Mo.mvC,List.range_succ]
theorem Mo.moves_eq {mo:Mo} {st:Stt}:mo.moves st=mo.mvP st mo.procs.length++if st.hold<0 then mo.mvC st mo.chans.length else []:=rfl
theorem Mo.mvE_len {mo:Mo} {st:Stt} {i j:Nat}:(mo.mvE st i j).length<=j:=by
 unfold Mo.mvE
 rw [List.length_map]
 exact Nat.le_trans (List.length_filter_le _ _) (by simp)
theorem Mo.movesP_len {mo:Mo} (ho:O4 mo) {st:Stt} {i:Nat} (hi:i<mo.procs.length):(mo.movesP st i).length<=4000:=by
 rw [Mo.movesP_eq]
 split
 ·simp
 ·exact Nat.le_trans Mo.mvE_len (ho.pr _ (a0l hi)).el
theorem Mo.mvP_len {mo:Mo} (ho:O4 mo) {st:Stt}:∀ {i:Nat},i<=mo.procs.length->(mo.mvP st i).length<=4000*i
 | 0,_=>by simp [Mo.mvP]
 | i+1,hi=>by
   rw [Mo.mvP_succ,List.length_append]
   have h1:=Mo.mvP_len ho (st:=st) (i:=i) (by omega)
   have h2:=Mo.movesP_len ho (st:=st) (i:=i) (by omega)
   omega
theorem Mo.movesC_len {mo:Mo} {st:Stt} {i:Nat}:(mo.movesC st i).length<=2:=by
 unfold Mo.movesC
 rw [List.length_append]
 split<;>split<;>simp
theorem Mo.mvC_len {mo:Mo} {st:Stt}:∀ {i:Nat},(mo.mvC st i).length<=2*i
 | 0=>by simp [Mo.mvC]
 | i+1=>by
   rw [Mo.mvC_succ,List.length_append]
   have h1:=Mo.mvC_len (mo:=mo) (st:=st) (i:=i)
   have h2:=Mo.movesC_len (mo:=mo) (st:=st) (i:=i)
   omega
theorem Hp.hd {s:f6} {id:Nat} {cs:List D} {W R:Hs} (h:Hp s ((id,cs)::W) R):s.get id=some (.cells cs):=h.w (id,cs) (by simp)
theorem Hp.tl {s:f6} {w:Nat×List D} {W R:Hs} (h:Hp s (w::W) R):Hp s W R:=h.sub (List.sublist_cons_self _ _) fun _ h=>h
theorem Hp.rh {s:f6} {id:Nat} {cs:List D} {W R:Hs} (h:Hp s W ((id,cs)::R)):s.get id=some (.cells cs):=h.r (id,cs) (by simp)
theorem Hp.rt {s:f6} {w:Nat×List D} {W R:Hs} (h:Hp s W (w::R)):Hp s W R:=h.sub (List.Sublist.refl _) fun _ h=>by simp [h]
def S2 (l:List Int):List D:=l.map fun n=>.int .i64 n
def Y1 (l:List Int):List (List D):=l.map fun n=>[.int .i64 n]
@[simp] theorem a8V (l:List Int):(S2 l).length=l.length:=by simp [S2]
@[simp] theorem a58 (l:List Int):(Y1 l).length=l.length:=by simp [Y1]
theorem a6r (l:List Int):(Y1 l).flatten=S2 l:=by induction l with
 | nil=>rfl
 | cons a l ih=>simp only [Y1,S2,List.map_cons,List.flatten_cons,List.singleton_append] at *;rw [ih]
theorem a4n (l:List Nat):(P5 l).flatten=W1 l:=by induction l with
 | nil=>rfl
 | cons a l ih=>simp only [P5,W1,List.map_cons,List.flatten_cons,List.singleton_append] at *;rw [ih]
theorem a8H (l:List Int):∀r∈Y1 l,r.length=1:=by intro r h;obtain ⟨b,_,rfl⟩:=List.mem_map.1 h;rfl
theorem c2Q (l:List Int):∀r∈Y1 l,r.all a0m=true:=by intro r h;obtain ⟨b,_,rfl⟩:=List.mem_map.1 h;rfl
theorem Hp.notIn {x:Nat} {E:Hs} (h:∀e∈E,e.1≠x):a2D x (E.map Prod.fst):=by
 induction E with
 | nil=>trivial
 | cons a E ih=>exact ⟨fun e=>h a (by simp) e.symm,ih fun e he=>h e (by simp [he])⟩
theorem Hp.ltW {s:f6} {W R:Hs} (h:Hp s W R) {w:Nat×List D} (hw:w∈W):w.1<s.next:=M5 (h.w w hw)
theorem Hp.ltR {s:f6} {W R:Hs} (h:Hp s W R) {w:Nat×List D} (hw:w∈R):w.1<s.next:=M5 (h.r w hw)
theorem Rp.exp {s:f6} {d:D} {sz bytes idt:Nat} {rows:List (List D)} {row:List D} {E:Hs} (h:Rp d sz rows E) (he:Has s E) (ht:s.get idt=some (.cells row)) (hr:row.length=sz) (hrs:∀r∈rows,r.length=sz) (hb:bytes<=1000) (hl:rows.length<=1000000000) :
 ∃s',V3 sz bytes d (.arr idt 0 1 sz) s=some (.arr s.next 0 (rows.length+1) sz,s')/\s'.next=s.next+1/\s'.get s.next=some (.cells (rows.flatten++row))/\∀id,id≠s.next->(∀e∈E,e.1≠id)->s'.get id=s.get id:=by
 have b3:bytes<=2 ^ 20:=Nat.le_trans hb (by decide)
 have r1:Z8 s.get (.arr idt 0 1 sz)=some row:=by
  simp only [Z8,ht,Nat.zero_add,Nat.one_mul,List.drop_zero]
  rw [if_pos (by omega),List.take_of_length_le (by omega)]
 have r2:a1U (.arr idt 0 1 sz)=some 1:=rfl
 have r3:a0J sz (.arr idt 0 1 sz)=true:=by simp [a0J]
 rcases h with ⟨rfl,rfl,rfl⟩ | ⟨id,rfl,rfl,hne⟩
 ·refine ⟨s.push (.cells row),?_,by simp,by rw [P0 rfl];simp,fun j hj _=>by rw [f6.get_push,if_neg hj]⟩
  unfold V3
  simp only [r1,r2,r3,b3,decide_true,Bool.and_self,if_true]
  rw [if_neg (by omega),if_pos ⟨by omega,by omega⟩]
  rfl
 ·have hf:=a6p hrs
  have hg:s.get id=some (.cells rows.flatten):=he (id,rows.flatten) (by simp)
  have b1:(rows.length+1)*bytes<=2 ^ 45:=Nat.le_trans (Nat.mul_le_mul (show rows.length+1<=1000000001 by omega) hb) (by decide)
  have b2:rows.length+1<=2 ^ 45:=by omega
  refine ⟨(s.set id none).push (.cells (rows.flatten++row)),?_,by simp,P0 (by simp),fun j hj hn=>?_⟩
  ·unfold V3
   simp only [r1,r2,r3,b3,decide_true,Bool.and_self,if_true,hg,Nat.zero_add,hf,and_self,List.drop_zero]
   rw [if_neg (by omega),if_pos ⟨b1,b2⟩]
  ·have:id≠j:=hn (id,rows.flatten) (by simp)
   rw [f6.get_push,if_neg (by simpa using hj),O5 this.symm]
theorem Rp.app2 {s:f6} {d:D} {sz bytes:Nat} {rows:List (List D)} {row:List D} {A B E R:Hs} (h:Rp d sz rows E) (hp:Hp s (A++E++B) R) (hr:row.length=sz) (hrs:∀r∈rows,r.length=sz) (hb:bytes<=1000) (hl:rows.length<=1000000000) :
 ∃s',V3 sz bytes d (.arr s.next 0 1 sz) (s.push (.cells row))=some (.arr (s.next+1) 0 (rows.length+1) sz,s')/\Rp (.arr (s.next+1) 0 (rows.length+1) sz) sz (rows++[row]) [(s.next+1,(rows++[row]).flatten)]/\Hp s' (A++(s.next+1,(rows++[row]).flatten)::B) R/\s'.next=s.next+2/\(∀j,j<s.next->(∀e∈E,e.1≠j)->s'.get j=s.get j)/\∀j,j∉(s.next+1)::E.map Prod.fst->(s.push (.cells row)).get j=s'.get j:=by
 have hp1:=hp.push (.cells row)
 have heE:Has (s.push (.cells row)) E:=fun x hx=>hp1.w x (by simp [hx])
 obtain ⟨s',h1,h2,h3,h4⟩:=h.exp heE (P0 rfl) hr hrs hb hl
 rw [f6.next_push] at h1 h2 h3 h4
 refine ⟨s',h1,.inr ⟨s.next+1,by simp,by simp,by simp⟩,?_,h2,fun j hj hn=>?_,fun j hj=>?_⟩
 ·have hn:=hp1.nd
  have hE:∀w∈A++B,∀e∈E,e.1≠w.1:=by
   intro w hw e hee hc
   rw [List.append_assoc,List.map_append,List.map_append,List.nodup_append,List.nodup_append] at hn
   obtain ⟨_,⟨_,_,n2⟩,n3⟩:=hn
   rcases List.mem_append.1 hw with hw | hw
   ·exact n3 w.1 (List.mem_map_of_mem hw) e.1 (List.mem_append_left _ (List.mem_map_of_mem hee)) hc.symm
   ·exact n2 e.1 (List.mem_map_of_mem hee) w.1 (List.mem_map_of_mem hw) hc
  have hsub:Hp (s.push (.cells row)) (A++B) R:=hp1.sub (by
   rw [List.append_assoc]
   exact List.Sublist.append (List.Sublist.refl _) (List.sublist_append_right _ _)) fun x h=>h
  have key:∀w∈A++B,s'.get w.1=some (.cells w.2):=fun w hw=>by
   have hl:=hp.ltW (w:=w) (by rcases List.mem_append.1 hw with h | h<;>simp [h])
   rw [h4 w.1 (by omega) (hE w hw)]
   exact hsub.w w hw
  refine Hp.perm (W:=(s.next+1,(rows++[row]).flatten)::(A++B)) ⟨?_,?_,?_,?_⟩ List.perm_middle
  ·rw [List.map_cons,List.nodup_cons]
   refine ⟨fun hm=>?_,hsub.nd⟩
   obtain ⟨w,hw,e⟩:=List.mem_map.1 hm
   have:=hp.ltW (w:=w) (by rcases List.mem_append.1 hw with h | h<;>simp [h])
   simp only at e;omega
  ·intro w hw r hrr
   rcases List.mem_cons.1 hw with rfl | hw
   ·have:=hp.ltR hrr
    simp only;omega
   ·exact hsub.ap w hw r hrr
  ·intro w hw
   rcases List.mem_cons.1 hw with rfl | hw
   ·rw [h3];simp
   ·exact key w hw
  ·intro r hrr
   have hl:=hp.ltR hrr
   rw [h4 r.1 (by omega) fun e hee=>hp.ap e (by simp [hee]) r hrr]
   exact hsub.r r hrr
 ·rw [h4 j (by omega) hn,U5 hj]
 ·simp only [List.mem_cons,not_or,List.mem_map,not_exists,not_and] at hj
  exact (h4 j hj.1 fun e he hc=>hj.2 e he hc).symm
theorem c3G {pairs T i t rest env K s d sz bytes rows row A B E R} (h:Rp d sz rows E) (hp:Hp s (A++E++B) R) (hr:row.length=sz) (hrs:∀r∈rows,r.length=sz) (hb:bytes<=1000) (hl:rows.length<=1000000000) (he:a2a pairs i ((s.next+1)::E.map Prod.fst) T)
 (k:∀s',Rp (.arr (s.next+1) 0 (rows.length+1) sz) sz (rows++[row]) [(s.next+1,(rows++[row]).flatten)]->Hp s' (A++(s.next+1,(rows++[row]).flatten)::B) R->s'.next=s.next+2->(∀j,j<s.next->(∀e∈E,e.1≠j)->s'.get j=s.get j)->XX fs pairs (⟨i,none,(s.next+1)::E.map Prod.fst⟩::T) rest ((t,.arr (s.next+1) 0 (rows.length+1) sz)::env) s' K):MX d (.arr s.next 0 1 sz) sz bytes i fs pairs T t rest env (s.push (.cells row)) K:=by
 obtain ⟨s',h1,h2,h3,h4,h5,h6⟩:=h.app2 hp hr hrs hb hl
 exact ⟨_,s',(s.next+1)::E.map Prod.fst,h1,by rw [h4,f6.next_push];omega,h6,he,k s' h2 h3 h4 h5⟩
theorem a7i {t rest env K s d sz bytes rows row A B E R} (h:Rp d sz rows E) (hp:Hp s (A++E++B) R) (hr:row.length=sz) (hrs:∀r∈rows,r.length=sz) (hb:bytes<=1000) (hl:rows.length<=1000000000)
 (k:∀s',Rp (.arr (s.next+1) 0 (rows.length+1) sz) sz (rows++[row]) [(s.next+1,(rows++[row]).flatten)]->Hp s' (A++(s.next+1,(rows++[row]).flatten)::B) R->s'.next=s.next+2->(∀j,j<s.next->(∀e∈E,e.1≠j)->s'.get j=s.get j)->XQ fs [] rest ((t,.arr (s.next+1) 0 (rows.length+1) sz)::env) s' K):BM (V3 sz bytes d (.arr s.next 0 1 sz) (s.push (.cells row))) fs t rest env K:=by
 obtain ⟨s',h1,h2,h3,h4,h5,_⟩:=h.app2 hp hr hrs hb hl
 rw [h1]
 exact k s' h2 h3 h4 h5
end Go.V
namespace Go.Proofs.YtnjlhebkhjcagaaGreat
open Go.V
set_option maxRecDepth 100000
set_option maxHeartbeats 4000000
variable {m:MdX} {mo:Mo} {ps:List (Pr×PrD)} {x:StD} {st:Stt}
theorem a86 (hm:MoF m mo ps) (ho:O4 mo) (hx:Y6 mo x st):a31 vfs 17 [.agg [m.dt,.int .i64 m.g,m.dc,m.dv,m.dp,m.ds,.bool m.b],.agg [x.da,x.dv,x.dc,.int .i64 st.hold]] fun d=>FL 4 d (U3 (mo.moves st)):=by
 have fm:=a0N hm
 have fx:=a1A hx.f
 have om:=hm.ones
 have ox:=hx.f.ones
 have hxf:=hx.f
 have hmc:=hm.c
 have hcl:=hx.fit.chans
 have hnp:=ho.np
 have hnc:=ho.nc
 refine a16 (vf:=b0X) rfl ?_
 unfold b0X;refine zF ?_
 refine zY (aN om ox) ?_
 have hp0:Hp ((f6.empty.push (.cells [m.dt,.int .i64 m.g,m.dc,m.dv,m.dp,m.ds,.bool m.b])).push (.cells [x.da,x.dv,x.dc,.int .i64 st.hold])) [] [(0,[m.dt,.int .i64 m.g,m.dc,m.dv,m.dp,m.ds,.bool m.b]),(1,[x.da,x.dv,x.dc,.int .i64 st.hold])]:=⟨List.nodup_nil,by simp,by simp [Has],by
  intro y hy
  simp only [List.mem_cons,List.not_mem_nil,or_false] at hy
  rcases hy with rfl | rfl
  ·exact zZ0
  ·simp (disch:=(first|exact Rf.mk rfl|with_reducible assumption|omega|((repeat (first|rw [nP]|rw [nS]|rw [M7]))<;>omega)|decide)) only [go_sem,↓reduceIte]⟩
 generalize hR:[(0,[m.dt,.int .i64 m.g,m.dc,m.dv,m.dp,m.ds,.bool m.b]),(1,[x.da,x.dv,x.dc,.int .i64 st.hold])]=R at hp0
 have hg:∀ {s E},Hp s E R->s.get 0=some (.cells [m.dt,.int .i64 m.g,m.dc,m.dv,m.dp,m.ds,.bool m.b])/\s.get 1=some (.cells [x.da,x.dv,x.dc,.int .i64 st.hold]):=fun h=>by
  subst hR
  exact ⟨h.r (0,_) (by simp),h.r (1,_) (by simp)⟩
 refine a0O [0,1,2,3,4,8,9,65,83,108] (fun f s=>∃E,Rp (f 5) 4 (U3 (mo.mvP st mo.procs.length)) E/\Hp s E R) ?_ ?_
 ·refine P6 [0,1,2,3,4,8,9,65,83,108] 0 mo.procs.length (fun i f s=>f 6=.int .i64 (i:Int)/\∃E,Rp (f 5) 4 (U3 (mo.mvP st i)) E/\Hp s E R) (.mk rfl) (by omega) ⟨rfl,[],.inl ⟨rfl,rfl,rfl⟩,hp0⟩ ?_
  rintro i f s hi ⟨hE,E,hr,hp⟩
  obtain ⟨g0,g1⟩:=hg hp
  by_cases ci:i<mo.procs.length
  ·by_cases ch:0<=st.hold/\st.hold≠(i:Int)
   ·have e:mo.movesP st i=[]:=by rw [Mo.movesP_eq,if_pos ch]
    have h1:=ch.1
    have h2:=ch.2
    refine zY (aN hE (aN ci (aN g0 (aN g1 (aN om (aN ox (aN h1 h2))))))) ?_
    rw [Mo.mvP_succ,e,List.append_nil]
    exact ⟨E,hr,hp⟩
   ·have e:mo.movesP st i=mo.mvE st i (pAt mo.procs i).edges.length:=by rw [Mo.movesP_eq,if_neg ch]
    have hel:=(ho.pr _ (a0l ci)).el
    have h2:0<=st.hold->(st.hold=(i:Int))=True:=fun h=>eq_true (by omega)
    have hmi:(mo.mvP st i).length<=16000:=Nat.le_trans (Mo.mvP_len ho hi) (by omega)
    by_cases h1:0<=st.hold<;>simp (disch:=(first|exact Rf.mk rfl|with_reducible assumption|omega|((repeat (first|rw [nP]|rw [nS]|rw [M7]))<;>omega)|decide)) only [go_sem,↓reduceIte,hE,ci,g0,g1,om,ox,h1,h2]
    all_goals
     refine P6 [0,1,2,3,4,6,8,9,14,25,65,83,108] 0 (pAt mo.procs i).edges.length (fun j f s=>f 7=.int .i64 (j:Int)/\∃E,Rp (f 5) 4 (U3 (mo.mvP st i++mo.mvE st i j)) E/\Hp s E R) (.mk rfl) (by omega) ⟨rfl,E,by rw [show mo.mvE st i 0=[] from rfl,List.append_nil];exact hr,hp⟩ ?_
     rintro j f s hj ⟨hE,E,hr,hp⟩
     obtain ⟨g0,g1⟩:=hg hp
     by_cases cj:j<(pAt mo.procs i).edges.length
     ·have hc:=b6l hm ho hx ci cj
      have fe:=b0E (e:=eAt (pAt mo.procs i).edges j)
      refine zY (aN hE (aN ci (aN cj (aN g0 (aN g1 (aN om (aN ox hc))))))) ?_
      refine a1c (fun c=>?_) (fun c=>?_)
      ·refine zY (aN hE (aN ci (aN cj (aN g0 (aN g1 (aN om ox)))))) ?_
       have:=Mo.mvE_len (mo:=mo) (st:=st) (i:=i) (j:=j)
       refine a1n ⟨0,i,j,0⟩ rfl hr hp (by decide) (by simp;omega) ?_
       intro d' s' E' hr' hp'
       refine zY hE ?_
       refine ⟨cj,E',?_,hp'⟩
       rw [Mo.mvE_succ,c,if_pos rfl,<- List.append_assoc]
       exact hr'
      ·refine zY hE ?_
       refine ⟨cj,E,?_,hp⟩
       rw [Mo.mvE_succ,c,if_neg (by simp),List.append_nil]
       exact hr
     ·obtain rfl:j=(pAt mo.procs i).edges.length:=by omega
      refine zY (aN hE (aN ci (aN g0 (aN g1 (aN om ox))))) ?_
      rw [Mo.mvP_succ,e]
      exact ⟨E,hr,hp⟩
  ·obtain rfl:i=mo.procs.length:=by omega
   refine zY (aN hE (aN ci (aN g0 (aN g1 (aN om ox))))) ?_
   exact ⟨E,hr,hp⟩
 ·rintro f s ⟨E,hr,hp⟩
  obtain ⟨g0,g1⟩:=hg hp
  refine zY0 ?_
  refine a0O [0,1,2,3,4,6,7,14,25,34,49] (fun f s=>∃E,Rp (f 5) 4 (U3 (mo.moves st)) E/\Hp s E R) ?_ ?_
  ·have hmi:(mo.mvP st mo.procs.length).length<=16000:=Nat.le_trans (Mo.mvP_len ho (Nat.le_refl _)) (by omega)
   refine P6 [0,1,2,3,4,6,7,14,25,34,49] 0 mo.chans.length (fun i f s=>f 8=.int .i64 (i:Int)/\∃E,Rp (f 5) 4 (U3 (mo.mvP st mo.procs.length++if st.hold<0 then mo.mvC st i else [])) E/\Hp s E R) (.mk rfl) (by omega) ⟨rfl,E,?_,hp⟩ ?_
   ·rw [show mo.mvC st 0=[] from rfl,ite_self,List.append_nil];exact hr
   clear hr hp
   rintro i f s hi ⟨hE,E,hr,hp⟩
   obtain ⟨g0,g1⟩:=hg hp
   by_cases ch:st.hold<0
   ·by_cases ci:i<mo.chans.length
    ·have ci':i<st.chans.length:=by omega
     rw [if_pos ch] at hr
     have hmc':=Mo.mvC_len (mo:=mo) (st:=st) (i:=i)
     have e1:mo.mvC st (i+1)=mo.mvC st i++mo.movesC st i:=Mo.mvC_succ
     unfold Mo.movesC at e1
     by_cases l1:(S4 mo.chans i).lossy=true<;>by_cases l0:0<(cAt st.chans i).length<;>by_cases l2:(S4 mo.chans i).copying=true<;>by_cases l3:((cAt st.chans i).length:Int)<(S4 mo.chans i).room<;>simp only [l1,l0,l2,l3,decide_true,decide_false,Bool.and_true,Bool.and_false,Bool.false_and,Bool.true_and,Bool.false_eq_true,if_true,if_false,List.append_nil,List.nil_append,List.cons_append] at e1<;>simp (disch:=(first|exact Rf.mk rfl|with_reducible assumption|omega|((repeat (first|rw [nP]|rw [nS]|rw [M7]))<;>omega)|decide)) only [go_sem,↓reduceIte,hE,ch,ci,g0,g1,om,ox,l1,l0,l2,l3]
     all_goals try (first|refine a1n ⟨1,0,0,i⟩ rfl hr hp (by decide) (by simp;omega) ?_|refine a1n ⟨2,0,0,i⟩ rfl hr hp (by decide) (by simp;omega) ?_)<;>rintro d1 s1 E1 hr hp<;>obtain ⟨k0,k1⟩:=hg hp<;>simp (disch:=(first|exact Rf.mk rfl|with_reducible assumption|omega|((repeat (first|rw [nP]|rw [nS]|rw [M7]))<;>omega)|decide)) only [go_sem,↓reduceIte,hE,ch,ci,k0,k1,om,ox,l1,l0,l2,l3]
     all_goals try (refine a1n ⟨2,0,0,i⟩ rfl hr hp (by decide) (by simp;omega) ?_)<;>rintro d1 s1 E1 hr hp<;>simp (disch:=(first|exact Rf.mk rfl|with_reducible assumption|omega|((repeat (first|rw [nP]|rw [nS]|rw [M7]))<;>omega)|decide)) only [go_sem,↓reduceIte,hE]
     all_goals
      rw [e1]
      try simp only [List.append_assoc,List.cons_append,List.nil_append] at hr ⊢
      first|exact ⟨_,hr,hp⟩|exact ⟨ci,_,hr,hp⟩
    ·obtain rfl:i=mo.chans.length:=by omega
     refine zY (aN hE (aN ch (aN ci (aN g0 (aN g1 (aN om ox)))))) ?_
     rw [Mo.moves_eq]
     exact ⟨E,hr,hp⟩
   ·rw [if_neg ch] at hr
    by_cases ci:i<mo.chans.length
    ·refine zY (aN hE (aN ch (aN ci (aN g0 (aN g1 (aN om ox)))))) ?_
     rw [Mo.moves_eq,if_neg ch]
     exact ⟨E,hr,hp⟩
    ·refine zY (aN hE (aN ch (aN ci (aN g0 (aN g1 (aN om ox)))))) ?_
     rw [Mo.moves_eq,if_neg ch]
     exact ⟨E,hr,hp⟩
  ·rintro f s ⟨E,hr,hp⟩
   obtain ⟨d',h1,h2⟩:=a2S hr hp (fun e h=>h) (a1O _) (a3k _)
   refine zY h1 ?_
   exact ⟨_,rfl,h2⟩
end Go.Proofs.YtnjlhebkhjcagaaGreat
namespace Go.V
def Mo.actS (mo:Mo) (st:Stt) (e:Ed) (n:Int):Stt :=
 if e.act=1 then { st with vars:=st.vars.set e.var.toNat (O6 n (vAt mo.vars e.var.toNat).width.toNat) }
 else if e.act=2 then { st with chans:=st.chans.set e.chan.toNat (cAt st.chans e.chan.toNat++[O6 n (S4 mo.chans e.chan.toNat).width.toNat]) }
 else if e.act=3 then { st with vars:=st.vars.set e.var.toNat (O6 (zAt (cAt st.chans e.chan.toNat) 0) (vAt mo.vars e.var.toNat).width.toNat),chans:=st.chans.set e.chan.toNat ((cAt st.chans e.chan.toNat).drop 1) }
 else st
def Stt.go (st:Stt) (i to:Nat):Stt:={ st with at':=st.at'.set i to }
def Stt.free (st:Stt):Stt:={ st with hold:=-1 }
def Mo.edgeS (mo:Mo) (st:Stt) (i:Nat) (p:Pr) (e:Ed):Stt:=(mo.actS (st.go i e.to) e (mo.ex p st e 0).1).free
def Mo.doE (mo:Mo) (st:Stt) (i:Nat) (p:Pr) (e:Ed):Stt:={ mo.edgeS st i p e with hold:=if e.keep&&mo.someS (mo.edgeS st i p e) i p then (i:Int) else -1 }
def Mo.doS (mo:Mo) (st:Stt) (v:Mv):Stt :=
 if v.kind=1 then { st with chans:=st.chans.set v.chan ((cAt st.chans v.chan).drop 1) }
 else if v.kind=2 then { st with chans:=st.chans.set v.chan (cAt st.chans v.chan++[zAt (cAt st.chans v.chan) 0]) }
 else mo.doE st v.proc (pAt mo.procs v.proc) (eAt (pAt mo.procs v.proc).edges v.edge)
def Mo.mvOk (mo:Mo) (st:Stt) (v:Mv):Prop :=
 (v.kind=0/\v.proc<mo.procs.length/\v.edge<(pAt mo.procs v.proc).edges.length/\mo.can st v.proc (pAt mo.procs v.proc) (eAt (pAt mo.procs v.proc).edges v.edge)=true) ∨
 (v.kind=1/\v.chan<mo.chans.length/\0<(cAt st.chans v.chan).length) ∨
 (v.kind=2/\v.chan<mo.chans.length/\0<(cAt st.chans v.chan).length/\((cAt st.chans v.chan).length:Int)<(S4 mo.chans v.chan).room)
def ChR (s:f6) (q:D) (l:List Int):Prop:=(q=.nils/\l=[])∨q=.lst 1 (Y1 l)∨∃id off cs,q=.arr id off l.length 1/\s.get id=some (.cells cs)/\off+l.length<=cs.length/\(cs.drop off).take l.length=S2 l
theorem c6S (l:List Int):(S2 l).all a0m=true:=by simp [S2,a0m]
theorem ChR.one {s:f6} {q:D} {l:List Int} (h:ChR s q l):M8 q=true:=by
 rcases h with ⟨rfl,_⟩ | rfl | ⟨id,off,cs,rfl,_⟩<;>rfl
theorem ChR.frz {s:f6} {q:D} {l:List Int} (h:ChR s q l) (n:Nat):∃q',ice s.get (n+2) q=some q'/\FI q' l:=by
 rcases h with ⟨rfl,rfl⟩ | rfl | ⟨id,off,cs,rfl,h1,h2,h3⟩
 ·exact ⟨_,rfl,.inl ⟨rfl,rfl⟩⟩
 ·exact ⟨_,rfl,.inr rfl⟩
 ·refine ⟨.lst 1 (Y1 l),?_,.inr rfl⟩
  have e1:Z8 s.get (.arr id off l.length 1)=some (S2 l):=by
   simp only [Z8,h1,Nat.mul_one,h3]
   rw [if_pos h2]
  have e2:N1 (ice s.get (n+1)) (S2 l)=some (S2 l):=a7U (c6S l)
  simp only [ice,e1,e2,Option.map_some]
  have e3:=a8s (S2 l)
  rw [a8V] at e3
  rw [e3]
  simp [S2,Y1]
def dAt (l:List D) (i:Nat):D:=l.getD i .undef
theorem a85 {l:List D} {i:Nat} (h:i<l.length):dAt l i=l[i]:=by simp [dAt,List.getD,h]
def a1N (s:f6) (cs:List D) (st:Stt):Prop:=∃dA dV dC qs,cs=[dA,dV,dC,.int .i64 st.hold]/\SN s 1 dA (P5 st.at')/\SN s 1 dV (Y1 st.vars)/\SN s 1 dC (qs.map fun q=>[q])/\(qs=[]∨∃id,dC=.arr id 0 qs.length 1)/\qs.length=st.chans.length/\∀j (h:j<qs.length) (h':j<st.chans.length),ChR s qs[j] st.chans[j]
theorem a1N.mk {s:f6} {dA dV dC:D} {st:Stt} (qs:List D) (hA:SN s 1 dA (P5 st.at')) (hV:SN s 1 dV (Y1 st.vars)) (hC:SN s 1 dC (qs.map fun q=>[q])) (hn:qs=[]∨∃id,dC=.arr id 0 qs.length 1) (hl:qs.length=st.chans.length) (hq:∀j,j<qs.length->ChR s (dAt qs j) (cAt st.chans j)):a1N s [dA,dV,dC,.int .i64 st.hold] st :=
 ⟨dA,dV,dC,qs,rfl,hA,hV,hC,hn,hl,fun j h h'=>by
  have:=hq j h
  rwa [a85 h,a2n h'] at this⟩
theorem b37 {s:f6} (n:Nat):∀ {qs:List D} {l:List (List Int)},qs.length=l.length->(∀j (h:j<qs.length) (h':j<l.length),ChR s qs[j] l[j])->∃ds:List D,a1p (ice s.get (n+2)) (qs.map fun q=>[q])=some (ds.map fun d=>[d])/\ds.length=l.length/\∀i (h:i<ds.length) (h':i<l.length),FI ds[i] l[i]
 | [],[],_,_=>⟨[],rfl,rfl,fun i h=>by simp at h⟩
 | [],_::_,h,_=>by simp at h
 | _::_,[],h,_=>by simp at h
 | q::qs,a::l,h,hr=>by
   obtain ⟨ds,h1,h2,h3⟩:=b37 n (qs:=qs) (l:=l) (by simpa using h) fun j hj hj'=>hr (j+1) (by simp;omega) (by simp;omega)
   obtain ⟨d,h4,h5⟩:=(hr 0 (by simp) (by simp)).frz n
   refine ⟨d::ds,?_,by simp [h2],fun i hi hi'=>?_⟩
   ·have h4:ice s.get (n+2) q=some d:=h4
    simp only [List.map_cons,a1p,N1,h4,h1]
   ·cases i with
    | zero=>exact h5
    | succ i=>exact h3 i (by simpa using hi) (by simpa using hi')
theorem a1N.frz {s:f6} {cs:List D} {st:Stt} (h:a1N s cs st):∃x,ice s.get 20 (.agg cs)=some (.agg [x.da,x.dv,x.dc,.int .i64 st.hold])/\StF x st:=by
 obtain ⟨dA,dV,dC,qs,rfl,hA,hV,hC,hn,hl,hq⟩:=h
 obtain ⟨da,a1,b1⟩:=hA.frz1 (n:=17) (a2h _) (a7q _)
 obtain ⟨dv,a2,b2⟩:=hV.frz1 (n:=17) (a8H _) (c2Q _)
 obtain ⟨ds,h1,h2,h3⟩:=b37 16 hl hq
 obtain ⟨dc,a3,b3⟩:=hC.frz (n:=18) (fun r hr=>by obtain ⟨x,_,rfl⟩:=List.mem_map.1 hr;rfl) h1 (fun e=>by
  rcases hn with rfl | ⟨id,hid⟩
  ·have:ds=[]:=List.length_eq_zero_iff.1 (by rw [h2,<- hl];rfl)
   rw [this]
  ·rw [hid] at e;cases e)
 refine ⟨⟨da,dv,dc⟩,?_,⟨b1,b2,ds,b3,h2,h3⟩⟩
 have e1:ice s.get 19 (.int .i64 st.hold)=some (.int .i64 st.hold):=rfl
 simp only [ice,N1,a1,a2,a3,e1,Option.map_some]
def qcs (ids:List Nat) (l:List (List Int)):List D:=List.zipWith (fun id q=>.arr id 0 q.length 1) ids l
theorem a9u {l:List D}:(l.map fun q=>[q]).flatten=l:=by induction l with
 | nil=>rfl
 | cons a l ih=>simp [ih]
theorem a28 {ids:List Nat} {l:List (List Int)} (h:ids.length=l.length):(qcs ids l).length=l.length:=by simp [qcs,h]
theorem b0F:∀ {ids:List Nat} {l:List (List Int)} {j:Nat},ids.length=l.length->j<l.length->(qcs ids l)[j]?=some (.arr (nAt ids j) 0 (cAt l j).length 1)
 | [],[],j,_,h=>by simp at h
 | [],_::_,j,h,_=>by simp at h
 | _::_,[],j,h,_=>by simp at h
 | i::ids,a::l,0,h,_=>by simp [qcs,nAt,cAt]
 | i::ids,a::l,j+1,h,hj=>by
   have:=b0F (ids:=ids) (l:=l) (j:=j) (by simpa using h) (by simpa using hj)
   simpa [qcs,nAt,cAt] using this
theorem b3p {ids:List Nat} {l:List (List Int)} {j:Nat} (h:ids.length=l.length) (hj:j<l.length):dAt (qcs ids l) j=.arr (nAt ids j) 0 (cAt l j).length 1:=by
 have:=b0F h hj
 simp [dAt,List.getD,this]
structure a4b (s:f6) (n:Nat) (a v:Nat) (dC:D) (ids:List Nat) (st:Stt):Prop where
 len:ids.length=st.chans.length
 ga:s.get a=some (.cells (W1 st.at'))
 gv:s.get v=some (.cells (S2 st.vars))
 gc:(st.chans=[]/\dC=.nils)∨∃c,dC=.arr c 0 st.chans.length 1/\s.get c=some (.cells (qcs ids st.chans))/\n<=c/\c≠a/\c≠v/\∀j,j<st.chans.length->nAt ids j≠c
 gq:∀j,j<st.chans.length->s.get (nAt ids j)=some (.cells (S2 (cAt st.chans j)))/\n<=nAt ids j/\nAt ids j≠a/\nAt ids j≠v
 inj:∀i j,i<st.chans.length->j<st.chans.length->nAt ids i=nAt ids j->i=j
 av:a≠v
 na:n<=a
 nv:n<=v
theorem b0r {l:List D} {n:Nat} {x:D} (h:n<l.length):List.take n l++[x]++List.drop (n+1) l=l.set n x:=by
 have:=b4a (x:=x) h
 rw [<- this]
 simp [a20]
theorem b3h (l:List Int) (n:Nat) (k:Int):(S2 l).set n (.int .i64 k)=S2 (l.set n k):=by simp [S2,List.map_set]
theorem c3A {l:List Nat} {n x:Nat} (h:n<l.length):List.take n (W1 l)++[.int .i64 (x:Int)]++List.drop (n+1) (W1 l)=W1 (l.set n x):=by rw [b0r (by simpa using h),b1r]
theorem c3Z {l:List Int} {n:Nat} {x:Int} (h:n<l.length):List.take n (S2 l)++[.int .i64 x]++List.drop (n+1) (S2 l)=S2 (l.set n x):=by rw [b0r (by simpa using h),b3h]
theorem c6U {l:List Int} {i:Nat} (h:i<l.length):(S2 l)[i]?=some (.int .i64 (zAt l i)):=by rw [a2v h];simp [S2,h]
theorem le_succ {a b:Nat}:(a+1<=b)=(a<b):=by apply propext;omega
attribute [go_sem] c3A c3Z a28 b0F c6U b3h b1r b4g a8V le_succ
structure X8 (mo:Mo):Prop where
 ch:∀c∈mo.chans,1<=c.room/\c.room<=3/\1<=c.width/\c.width<=8
 vr:∀v∈mo.vars,1<=v.width/\v.width<=8/\O6 v.value v.width.toNat=v.value
theorem b0k {l:List D} {k j:Nat} {d:D} (hk:k<l.length):dAt (l.set k d) j=if j=k then d else dAt l j:=by
 unfold dAt
 simp only [List.getD,List.getElem?_set]
 split
 ·rename_i h;subst h;simp [hk]
 ·rename_i h;rw [if_neg (Ne.symm h)]
theorem a4J {l:List (List Int)} {k j:Nat} {d:List Int} (hk:k<l.length):cAt (l.set k d) j=if j=k then d else cAt l j:=by
 unfold cAt
 simp only [List.getD,List.getElem?_set]
 split
 ·rename_i h;subst h;simp [hk]
 ·rename_i h;rw [if_neg (Ne.symm h)]
theorem a9l {s:f6} {id:Nat} {l:List Int} (h:s.get id=some (.cells (S2 l))):ChR s (.arr id 0 l.length 1) l :=
 .inr (.inr ⟨id,0,_,rfl,h,by simp,by rw [List.drop_zero,<- a8V l,List.take_length]⟩)
theorem a4b.chan {s S:f6} {n a v c:Nat} {ids:List Nat} {st:Stt} (h:a4b s n a v (.arr c 0 st.chans.length 1) ids st) {k:Nat} (hk:k<st.chans.length) {A:List Nat} {V:List Int} {l:List Int} {d:D} {hd:Int} (hA:A.length=st.at'.length) (hV:V.length=st.vars.length)
 (ga:S.get a=some (.cells (W1 A))) (gv:S.get v=some (.cells (S2 V))) (gc:S.get c=some (.cells ((qcs ids st.chans).set k d))) (hr:ChR S d l) (hq:∀j,j<st.chans.length->j≠k->S.get (nAt ids j)=s.get (nAt ids j)) :
 a1N S [.arr a 0 st.at'.length 1,.arr v 0 st.vars.length 1,.arr c 0 st.chans.length 1,.int .i64 hd] ⟨A,V,st.chans.set k l,hd⟩:=by
 refine a1N.mk (st:=⟨A,V,st.chans.set k l,hd⟩) ((qcs ids st.chans).set k d) (.inr (.inl ⟨a,by simp [hA],by rw [a4n];exact ga⟩)) (.inr (.inl ⟨v,by simp [hV],by rw [a6r];exact gv⟩)) (.inr (.inl ⟨c,by simp [a28 h.len],by rw [a9u];exact gc⟩)) (.inr ⟨c,by simp [a28 h.len]⟩) (by simp [a28 h.len]) fun j hj=>?_
 rw [List.length_set,a28 h.len] at hj
 rw [b0k (by rw [a28 h.len];exact hk),a4J hk]
 split
 ·exact hr
 ·rename_i hjk
  rw [b3p h.len hj]
  exact a9l (by rw [hq j hj hjk];exact (h.gq j hj).1)
theorem a4b.same {s S:f6} {n a v:Nat} {dC:D} {ids:List Nat} {st:Stt} (h:a4b s n a v dC ids st) {A:List Nat} {V:List Int} {hd:Int} (hA:A.length=st.at'.length) (hV:V.length=st.vars.length)
 (ga:S.get a=some (.cells (W1 A))) (gv:S.get v=some (.cells (S2 V))) (hq:∀j,n<=j->j<s.next->j≠a->j≠v->S.get j=s.get j) :
 a1N S [.arr a 0 st.at'.length 1,.arr v 0 st.vars.length 1,dC,.int .i64 hd] ⟨A,V,st.chans,hd⟩:=by
 refine a1N.mk (st:=⟨A,V,st.chans,hd⟩) (qcs ids st.chans) (.inr (.inl ⟨a,by simp [hA],by rw [a4n];exact ga⟩)) (.inr (.inl ⟨v,by simp [hV],by rw [a6r];exact gv⟩)) ?_ ?_ (a28 h.len) fun j hj=>?_
 ·rcases h.gc with ⟨e,rfl⟩ | ⟨c,rfl,g,nc,ca,cv,_⟩
  ·refine .inl ⟨rfl,?_⟩
   rw [e];simp [qcs]
  ·refine .inr (.inl ⟨c,by simp [a28 h.len],?_⟩)
   rw [a9u,hq c nc (M5 g) ca cv];exact g
 ·rcases h.gc with ⟨e,rfl⟩ | ⟨c,rfl,g,nc,ca,cv,_⟩
  ·left;rw [e];simp [qcs]
  ·exact .inr ⟨c,by simp [a28 h.len]⟩
 ·rw [a28 h.len] at hj
  obtain ⟨g,n1,n2,n3⟩:=h.gq j hj
  rw [b3p h.len hj]
  exact a9l (by rw [hq _ n1 (M5 g) n2 n3];exact g)
variable {fs:FuncId->Option M3}
end Go.V
namespace Go.Proofs.YtnjlhebkhjcagaaGreat
open Go.V
set_option maxRecDepth 100000
set_option maxHeartbeats 4000000
variable {m:MdX} {mo:Mo} {ps:List (Pr×PrD)} {x:StD} {st:Stt}
end Go.Proofs.YtnjlhebkhjcagaaGreat
namespace Go.V
theorem a7u {n:Int} {w:Nat} (h1:1<=w):O6 (O6 n w) w=O6 n w:=by
 have:=b01 (n:=n) (w:=w) (by omega)
 exact b0S (by omega) this.1 this.2
theorem b4E {n:Int} {w:Nat} (h1:1<=w) (h2:w<=8):I8 (O6 n w):=by
 have h:=b01 (n:=n) (w:=w) (by omega)
 have hc:w=1∨w=2∨w=3∨w=4∨w=5∨w=6∨w=7∨w=8:=by omega
 unfold I8
 rcases hc with rfl | rfl | rfl | rfl | rfl | rfl | rfl | rfl<;>simp at h<;>omega
theorem a54 {l:List Nat} {k j:Nat} {d:Nat} (hk:k<l.length):nAt (l.set k d) j=if j=k then d else nAt l j:=by
 unfold nAt
 simp only [List.getD,List.getElem?_set]
 split
 ·rename_i h;subst h;simp [hk]
 ·rename_i h;rw [if_neg (Ne.symm h)]
theorem a68 {l:List Int} {k j:Nat} {d:Int} (hk:k<l.length):zAt (l.set k d) j=if j=k then d else zAt l j:=by
 unfold zAt
 simp only [List.getD,List.getElem?_set]
 split
 ·rename_i h;subst h;simp [hk]
 ·rename_i h;rw [if_neg (Ne.symm h)]
structure a0W (mo:Mo) (st:Stt):Prop where
 at':st.at'.length=mo.procs.length
 vars:st.vars.length=mo.vars.length
 chans:st.chans.length=mo.chans.length
 pl:∀i,i<mo.procs.length->nAt st.at' i<(pAt mo.procs i).places
 vr:∀i,i<mo.vars.length->O6 (zAt st.vars i) (vAt mo.vars i).width.toNat=zAt st.vars i
 cl:∀i,i<mo.chans.length->((cAt st.chans i).length:Int)<=(S4 mo.chans i).room
 cv:∀i,i<mo.chans.length->∀n∈cAt st.chans i,O6 n (S4 mo.chans i).width.toNat=n
 hold:-1<=st.hold/\st.hold<(mo.procs.length:Int)
theorem a3n {mo:Mo} {st:Stt}:a0W mo st↔Fit mo st:=by
 constructor
 ·rintro ⟨h1,h2,h3,h4,h5,h6,h7,h8⟩
  refine ⟨h1,h2,h3,fun i h h'=>?_,fun i h h'=>?_,fun i h h'=>?_,fun i h h'=>?_,h8⟩
  ·have:=h4 i h';rwa [a3e h,a19 h'] at this
  ·have:=h5 i h';rwa [a2v h,a2p h'] at this
  ·have:=h6 i h';rwa [a2n h,a2d h'] at this
  ·have:=h7 i h';rwa [a2n h,a2d h'] at this
 ·rintro ⟨h1,h2,h3,h4,h5,h6,h7,h8⟩
  refine ⟨h1,h2,h3,fun i h'=>?_,fun i h'=>?_,fun i h'=>?_,fun i h'=>?_,h8⟩
  ·have h:i<st.at'.length:=by omega
   rw [a3e h,a19 h'];exact h4 i h h'
  ·have h:i<st.vars.length:=by omega
   rw [a2v h,a2p h'];exact h5 i h h'
  ·have h:i<st.chans.length:=by omega
   rw [a2n h,a2d h'];exact h6 i h h'
  ·have h:i<st.chans.length:=by omega
   rw [a2n h,a2d h'];exact h7 i h h'
theorem c2o {mo:Mo} (hf:X8 mo) {st:Stt} (h:Fit mo st):St8 st:=by
 have h:=a3n.2 h
 refine ⟨fun n hn=>?_,fun l hl=>?_⟩
 ·obtain ⟨i,hi,rfl⟩:=List.getElem_of_mem hn
  have hi':i<mo.vars.length:=by rw [<- h.vars];exact hi
  have:=h.vr i hi'
  rw [a2v hi] at this
  rw [<- this]
  have:=hf.vr _ (a4P hi')
  exact b4E (by omega) (by omega)
 ·obtain ⟨i,hi,rfl⟩:=List.getElem_of_mem hl
  have hi':i<mo.chans.length:=by rw [<- h.chans];exact hi
  have h1:=h.cl i hi'
  have h2:=h.cv i hi'
  rw [a2n hi] at h1 h2
  have h3:=hf.ch _ (a47 hi')
  refine ⟨by omega,fun n hn=>?_⟩
  rw [<- h2 n hn]
  exact b4E (by omega) (by omega)
theorem a0W.var {mo:Mo} (hf:X8 mo) {st:Stt} (h:a0W mo st) {k:Nat} (hk:k<mo.vars.length) (n:Int):a0W mo { st with vars:=st.vars.set k (O6 n (vAt mo.vars k).width.toNat) }:=by
 refine ⟨h.at',by simp [h.vars],h.chans,h.pl,fun i hi=>?_,h.cl,h.cv,h.hold⟩
 rw [a68 (by rw [h.vars];exact hk)]
 split
 ·rename_i e;subst e
  have:=hf.vr _ (a4P hk)
  exact a7u (by omega)
 ·exact h.vr i hi
theorem a0W.chan {mo:Mo} {st:Stt} (h:a0W mo st) {k:Nat} (hk:k<mo.chans.length) {l:List Int} (hl:(l.length:Int)<=(S4 mo.chans k).room) (hv:∀n∈l,O6 n (S4 mo.chans k).width.toNat=n):a0W mo { st with chans:=st.chans.set k l }:=by
 refine ⟨h.at',h.vars,by simp [h.chans],h.pl,h.vr,fun i hi=>?_,fun i hi=>?_,h.hold⟩
 ·simp only [a4J (by rw [h.chans];exact hk)]
  split
  ·rename_i e;subst e;exact hl
  ·exact h.cl i hi
 ·simp only [a4J (by rw [h.chans];exact hk)]
  split
  ·rename_i e;subst e;exact hv
  ·exact h.cv i hi
theorem a0W.go {mo:Mo} {st:Stt} (h:a0W mo st) {p to:Nat} (hp:p<mo.procs.length) (ht:to<(pAt mo.procs p).places):a0W mo (st.go p to):=by
 refine ⟨by simp [Stt.go,h.at'],h.vars,h.chans,fun i hi=>?_,h.vr,h.cl,h.cv,h.hold⟩
 simp only [Stt.go,a54 (by rw [h.at'];exact hp)]
 split
 ·rename_i e;subst e;exact ht
 ·exact h.pl i hi
theorem a0W.hd {mo:Mo} {st:Stt} (h:a0W mo st) {z:Int} (hz:-1<=z/\z<(mo.procs.length:Int)):a0W mo { st with hold:=z }:=⟨h.at',h.vars,h.chans,h.pl,h.vr,h.cl,h.cv,hz⟩
theorem a0W.act {mo:Mo} (hf:X8 mo) {st:Stt} (h:a0W mo st) {pl:Nat} {vs:List Nat} {e:Ed} (he:a22 mo.tree mo.chans.length pl vs e) (hv:∀v∈vs,v<mo.vars.length) (h2:e.act=2->((cAt st.chans e.chan.toNat).length:Int)<(S4 mo.chans e.chan.toNat).room) (n:Int):a0W mo (mo.actS st e n):=by
 unfold Mo.actS
 split
 ·rename_i h1
  obtain ⟨k,hk,e1⟩:=he.v1 (.inl h1)
  rw [e1,Int.toNat_natCast]
  exact h.var hf (hv k hk) n
 split
 ·rename_i _ h1
  obtain ⟨k,e1,hk⟩:=he.c1 (.inl h1)
  have h2:=h2 h1
  rw [e1,Int.toNat_natCast] at *
  refine h.chan hk (by simp;omega) fun z hz=>?_
  rcases List.mem_append.1 hz with hz | hz
  ·exact h.cv k hk z hz
  ·simp only [List.mem_singleton] at hz
   subst hz
   have:=hf.ch _ (a47 hk)
   exact a7u (by omega)
 split
 ·rename_i _ _ h1
  obtain ⟨k,hk,e1⟩:=he.v1 (.inr h1)
  obtain ⟨q,e2,hq⟩:=he.c1 (.inr h1)
  rw [e1,e2,Int.toNat_natCast,Int.toNat_natCast]
  have h3:=h.var hf (hv k hk) (zAt (cAt st.chans q) 0)
  refine h3.chan hq ?_ fun z hz=>?_
  ·have:=h.cl q hq
   rw [List.length_drop];omega
  ·exact h.cv q hq z (List.mem_of_mem_drop hz)
 ·exact h
theorem c6l {mo:Mo} (ho:O4 mo) (hf:X8 mo) {st:Stt} (h:a0W mo st) {p:Nat} (hp:p<mo.procs.length) {e:Ed} (he:e∈(pAt mo.procs p).edges) (hcan:mo.can st p (pAt mo.procs p) e=true):a0W mo (mo.edgeS st p (pAt mo.procs p) e):=by
 have hpo:=ho.pr _ (a0l hp)
 have heo:=hpo.inv.ed e he
 unfold Mo.edgeS Stt.free
 refine a0W.hd ?_ ⟨by omega,by omega⟩
 refine (h.go hp heo.to).act hf heo hpo.var (fun h2=>?_) _
 unfold Mo.can at hcan
 simp only [h2,if_true,Bool.and_eq_true,decide_eq_true_eq] at hcan
 exact hcan.2
theorem c4T {mo:Mo} (ho:O4 mo) (hf:X8 mo) {st:Stt} (h:Fit mo st) {v:Mv} (hv:mo.mvOk st v):Fit mo (mo.doS st v):=by
 have h:=a3n.2 h
 refine a3n.1 ?_
 unfold Mo.doS
 rcases hv with ⟨hk,hp,he,hcan⟩ | ⟨hk,hc,hlen⟩ | ⟨hk,hc,hlen,hroom⟩
 ·rw [if_neg (by omega),if_neg (by omega)]
  unfold Mo.doE
  refine (c6l ho hf h hp (a1P he) hcan).hd ?_
  split<;>constructor<;>omega
 ·rw [if_pos hk]
  refine h.chan hc ?_ fun z hz=>h.cv _ hc z (List.mem_of_mem_drop hz)
  have:=h.cl _ hc
  rw [List.length_drop];omega
 ·rw [if_neg (by omega),if_pos hk]
  refine h.chan hc (by simp;omega) fun z hz=>?_
  rcases List.mem_append.1 hz with hz | hz
  ·exact h.cv _ hc z hz
  ·simp only [List.mem_singleton] at hz
   subst hz
   exact h.cv _ hc _ (a7n hlen)
theorem b4r {α:Type} (n:Nat) (a:α):List.replicate (n+1) a=List.replicate n a++[a]:=List.replicate_succ'
theorem c5x (n:Nat):P5 (List.replicate n 0)++[[.int .i64 0]]=P5 (List.replicate (n+1) 0):=by
 rw [b4r];simp [P5]
theorem b9j {l:List Int} {i:Nat} (h:i<l.length):Y1 (l.take i)++[[.int .i64 (zAt l i)]]=Y1 (l.take (i+1)):=by
 rw [a2v h,List.take_add_one,List.getElem?_eq_getElem h]
 unfold Y1
 rw [List.map_append];rfl
def Mo.vals (mo:Mo):List Int:=mo.vars.map Vr.value
theorem b00 {mo:Mo} {i:Nat} (h:i<mo.vars.length):zAt mo.vals i=(vAt mo.vars i).value:=by
 rw [a2v (by simpa [Mo.vals] using h),a2p h];simp [Mo.vals]
def a1L (n:Nat):List (List D):=List.replicate n [.nils]
theorem c5k (n:Nat):∀r∈a1L n,r.length=1:=fun r h=>by rw [List.eq_of_mem_replicate h];rfl
theorem c5D (n:Nat):a1L n++[[.nils]]=a1L (n+1):=(b4r n _).symm
theorem Hp.addW {s:f6} {W R:Hs} (h:Hp s W R) {id:Nat} {cs:List D} (hg:s.get id=some (.cells cs)) (h1:∀w∈W,w.1≠id) (h2:∀r∈R,r.1≠id):Hp s ((id,cs)::W) R:=by
 refine ⟨?_,?_,?_,h.r⟩
 ·rw [List.map_cons,List.nodup_cons]
  refine ⟨fun hm=>?_,h.nd⟩
  obtain ⟨w,hw,e⟩:=List.mem_map.1 hm
  exact h1 w hw e
 ·intro w hw r hr
  rcases List.mem_cons.1 hw with rfl | hw
  ·exact (h2 r hr).symm
  ·exact h.ap w hw r hr
 ·intro w hw
  rcases List.mem_cons.1 hw with rfl | hw
  ·exact hg
  ·exact h.w w hw
theorem Hp.addR1 {s:f6} {W R:Hs} (h:Hp s W R) {id:Nat} {cs:List D} (hg:s.get id=some (.cells cs)) (h1:∀w∈W,w.1≠id):Hp s W ((id,cs)::R):=by
 refine ⟨h.nd,?_,h.w,?_⟩
 ·intro w hw r hr
  rcases List.mem_cons.1 hr with rfl | hr
  ·exact h1 w hw
  ·exact h.ap w hw r hr
 ·intro r hr
  rcases List.mem_cons.1 hr with rfl | hr
  ·exact hg
  ·exact h.r r hr
theorem Hp.ne {s:f6} {A B C R:Hs} {a b:Nat×List D} (h:Hp s (A++a::(B++b::C)) R):a.1≠b.1:=by
 have:=h.nd
 rw [List.map_append,List.map_cons,List.map_append,List.map_cons,List.nodup_append,List.nodup_cons] at this
 exact fun e=>this.2.1.1 (by simp [e])
theorem Hp.neAll {s:f6} {a:Nat×List D} {W R:Hs} (h:Hp s (a::W) R):∀w∈W,w.1≠a.1:=by
 have:=h.nd
 rw [List.map_cons,List.nodup_cons] at this
 exact fun w hw e=>this.1 (by rw [<- e];exact List.mem_map_of_mem hw)
theorem b0m {d:D} {rows:List (List D)} {E:Hs} (h:Rp d 1 rows E) (hn:0<rows.length):∃a,d=.arr a 0 rows.length 1/\E=[(a,rows.flatten)]:=by
 rcases h with ⟨_,rfl,_⟩ | ⟨a,h1,h2,_⟩
 ·simp at hn
 ·exact ⟨a,h1,h2⟩
theorem b1D {a:Nat} {rows:List (List D)} (hn:0<rows.length):Rp (.arr a 0 rows.length 1) 1 rows [(a,rows.flatten)]:=.inr ⟨a,rfl,rfl,fun e=>by subst e;simp at hn⟩
theorem c5N (n:Nat):(a1L n).flatten=List.replicate n .nils:=by
 induction n with
 | zero=>rfl
 | succ n ih=>rw [show a1L (n+1)=[.nils]::a1L n from rfl,List.flatten_cons,ih];rfl
theorem Rp.chr {s:f6} {q:D} {l:List Int} {E:Hs} (h:Rp q 1 (Y1 l) E) (he:Has s E):ChR s q l:=by
 rcases h with ⟨rfl,h2,_⟩ | ⟨id,h1,rfl,_⟩
 ·refine .inl ⟨rfl,?_⟩
  cases l with
  | nil=>rfl
  | cons a l=>simp [Y1] at h2
 ·rw [a58] at h1
  subst h1
  have:=he (id,(Y1 l).flatten) (by simp)
  rw [a6r] at this
  exact a9l this
theorem b4N {n:Nat} {d:D} {j:Nat} (h:j<n):dAt (List.replicate n d) j=d:=by rw [a85 (by simpa using h),List.getElem_replicate]
theorem a6G {n:Nat} {j:Nat}:cAt (List.replicate n []) j=[]:=by
 unfold cAt
 simp only [List.getD,List.getElem?_replicate]
 split<;>rfl
end Go.V
namespace Go.Proofs.YtnjlhebkhjcagaaGreat
open Go.V
set_option maxRecDepth 100000
set_option maxHeartbeats 4000000
variable {m:MdX} {mo:Mo} {ps:List (Pr×PrD)} {x:StD} {st:Stt}
theorem a69 {d:D} {raw:List Int} (hd:FI d raw) (hr:∀n∈raw,a0w n) {k n:Nat} (hn:0<n) (hn2:n<=1000000) (hk:k<=1000000):∃z:Nat,z<n/\Eqc vfs 37 [d,.int .i64 (k:Int),.int .i64 (n:Int)] (.int .i64 (z:Int)):=by
 by_cases h0:raw.length=0
 ·refine ⟨0,hn,P4 ?_⟩
  refine N3 (vf:=a4g) rfl ?_
  unfold a4g;refine zF ?_
  exact zZ h0
 ·have hkm:(k:Int).tmod (raw.length:Int)=((k % raw.length:Nat):Int):=rfl
  have hkl:k % raw.length<raw.length:=Nat.mod_lt _ (by omega)
  have hz:=hr _ (a7n hkl)
  have n0:¬ n=0:=by omega
  have n1:¬ (n:Int)=0:=by omega
  have n2:¬ (raw.length:Int)=0:=by omega
  by_cases c:(zAt raw (k % raw.length)).tmod (n:Int)<0
  ·have h1:-(n:Int)<(zAt raw (k % raw.length)).tmod (n:Int):=Int.lt_tmod_of_pos _ (by omega)
   have e:(zAt raw (k % raw.length)).tmod (n:Int)+(n:Int)=(((zAt raw (k % raw.length)).tmod (n:Int)+(n:Int)).toNat:Int):=by omega
   refine ⟨((zAt raw (k % raw.length)).tmod (n:Int)+(n:Int)).toNat,by omega,P4 ?_⟩
   refine N3 (vf:=a4g) rfl ?_
   unfold a4g;refine zF ?_
   refine zY (aN h0 (aN n0 (aN n1 (aN n2 (aN hkm c))))) ?_
   exact e
  ·have h1:(zAt raw (k % raw.length)).tmod (n:Int)<(n:Int):=Int.tmod_lt_of_pos _ (by omega)
   refine ⟨((zAt raw (k % raw.length)).tmod (n:Int)).toNat,by omega,P4 ?_⟩
   refine N3 (vf:=a4g) rfl ?_
   unfold a4g;refine zF ?_
   refine zY (aN h0 (aN n0 (aN n1 (aN n2 (aN hkm c))))) ?_
   omega
def b65 (mo:Mo) (s:f6) (n:Nat) (r:D):Prop:=∃dA dV dC EA EV EC,r=.agg [dA,dV,dC,.int .i64 (-1)]/\Rp dA 1 (P5 (List.replicate mo.procs.length 0)) EA/\Rp dV 1 (Y1 mo.vals) EV/\Rp dC 1 (a1L mo.chans.length) EC/\Hp s (EA++EV++EC) []/\∀w∈EA++EV++EC,n<=w.1
theorem c6V (hm:MoF m mo ps) (ho:O4 mo) {s:f6}:EvP vfs 31 [.agg [m.dt,.int .i64 m.g,m.dc,m.dv,m.dp,m.ds,.bool m.b]] s fun r s'=>b65 mo s' s.next r/\Fr [] s s':=by
 have om:=hm.ones
 have hmv:=hm.v
 have hmc:=hm.c
 have hnp:=ho.np
 have hnv:=ho.nv
 have hnc:=ho.nc
 have hvl:mo.vals.length=mo.vars.length:=by simp [Mo.vals]
 refine Y5 (vf:=a9J) rfl ?_
 unfold a9J;refine zF ?_
 refine zY om ?_
 have hp0:Hp ((s.push (.cells [m.dt,.int .i64 m.g,m.dc,m.dv,m.dp,m.ds,.bool m.b])).push (.cells [.nils,.nils,.nils,.int .i64 0])) [(s.next+1,[.nils,.nils,.nils,.int .i64 0])] [(s.next,[m.dt,.int .i64 m.g,m.dc,m.dv,m.dp,m.ds,.bool m.b])]:=by
  have:=Hp.pushW (s:=s.push (.cells [m.dt,.int .i64 m.g,m.dc,m.dv,m.dp,m.ds,.bool m.b])) (W:=[]) (R:=[(s.next,[m.dt,.int .i64 m.g,m.dc,m.dv,m.dp,m.ds,.bool m.b])]) ⟨List.nodup_nil,by simp,by simp [Has],by simp [Has,P0]⟩ [.nils,.nils,.nils,.int .i64 0]
  simpa using this
 have hp1:=hp0.newW (.cells [.nils,.nils,.nils,.int .i64 0]) [.nils,.nils,.nils,.int .i64 (-1)]
 simp only [f6.next_push] at hp1
 have fr1:Fr [] s ((((s.push (.cells [m.dt,.int .i64 m.g,m.dc,m.dv,m.dp,m.ds,.bool m.b])).push (.cells [.nils,.nils,.nils,.int .i64 0])).push (.cells [.nils,.nils,.nils,.int .i64 0])).set (s.next+1+1) (some (.cells [.nils,.nils,.nils,.int .i64 (-1)]))):=(((Fr.push _).thenPush _).thenPush _).thenSet _ (.inr (by omega))
 generalize (((s.push (.cells [m.dt,.int .i64 m.g,m.dc,m.dv,m.dp,m.ds,.bool m.b])).push (.cells [.nils,.nils,.nils,.int .i64 0])).push (.cells [.nils,.nils,.nils,.int .i64 0])).set (s.next+1+1) (some (.cells [.nils,.nils,.nils,.int .i64 (-1)]))=s1 at *
 generalize hp:s.next+1+1=p at *
 generalize hq:s.next+1=q at *
 refine a0O [0,1,2,3,5,6,24,42] (fun f s'=>∃dA EA,Rp dA 1 (P5 (List.replicate mo.procs.length 0)) EA/\Hp s' ((p,[dA,.nils,.nils,.int .i64 (-1)])::(q,[.nils,.nils,.nils,.int .i64 0])::EA) [(s.next,[m.dt,.int .i64 m.g,m.dc,m.dv,m.dp,m.ds,.bool m.b])]/\(∀w∈EA,s.next<=w.1)/\Fr [] s s') ?_ ?_
 ·refine P6 [0,1,2,3,5,6,24,42] 0 mo.procs.length (fun i f s'=>f 4=.int .i64 (i:Int)/\∃dA EA,Rp dA 1 (P5 (List.replicate i 0)) EA/\Hp s' ((p,[dA,.nils,.nils,.int .i64 (-1)])::(q,[.nils,.nils,.nils,.int .i64 0])::EA) [(s.next,[m.dt,.int .i64 m.g,m.dc,m.dv,m.dp,m.ds,.bool m.b])]/\(∀w∈EA,s.next<=w.1)/\Fr [] s s') (.mk rfl) (by omega) ⟨rfl,.nils,[],.inl ⟨rfl,rfl,rfl⟩,hp1,by simp,fr1⟩ ?_
  rintro i f s2 hi ⟨hE,dA,EA,hr,hp2,hw,fr⟩
  have g0:=hp2.rh
  have gp:=hp2.hd
  have o1:=hr.one
  have lp:=M5 gp
  by_cases ci:i<mo.procs.length
  ·refine zY (aN hE (aN ci (aN g0 (aN gp (aN om o1))))) ?_
   refine a7i (A:=[(p,[dA,.nils,.nils,.int .i64 (-1)]),(q,[.nils,.nils,.nils,.int .i64 0])]) (B:=[]) hr (by simpa using hp2) rfl (a2h _) (by decide) (by simp;omega) ?_
   rintro s3 hr3 hp3 l3 u3
   have gp:=hp3.hd
   refine zY (aN hE gp) ?_
   refine ⟨ci,_,_,by rw [<- c5x];exact hr3,Hp.set (A:=[]) hp3 _,by simp;omega,?_⟩
   have f3:Fr [] s s3:=⟨by have:=fr.1;omega,fun j hj hn=>by
    have:=fr.1
    rw [u3 j (by omega) fun e he hc=>by have:=hw e he;omega,fr.2 j hj hn]⟩
   exact f3.thenSet _ (.inr (by omega))
  ·obtain rfl:i=mo.procs.length:=by omega
   refine zY (aN hE (aN ci (aN g0 (aN gp (aN om o1))))) ?_
   exact ⟨_,_,hr,hp2,hw,fr⟩
 ·rintro f s2 ⟨dA,EA,hrA,hp2,hwA,fr2⟩
  refine zY0 ?_
  refine a0O [0,1,2,3,4,6,12,42] (fun f s'=>∃dV EV,Rp dV 1 (Y1 mo.vals) EV/\Hp s' ((p,[dA,dV,.nils,.int .i64 (-1)])::(q,[.nils,.nils,.nils,.int .i64 0])::(EA++EV)) [(s.next,[m.dt,.int .i64 m.g,m.dc,m.dv,m.dp,m.ds,.bool m.b])]/\(∀w∈EA++EV,s.next<=w.1)/\Fr [] s s') ?_ ?_
  ·refine P6 [0,1,2,3,4,6,12,42] 0 mo.vars.length (fun i f s'=>f 5=.int .i64 (i:Int)/\∃dV EV,Rp dV 1 (Y1 (mo.vals.take i)) EV/\Hp s' ((p,[dA,dV,.nils,.int .i64 (-1)])::(q,[.nils,.nils,.nils,.int .i64 0])::(EA++EV)) [(s.next,[m.dt,.int .i64 m.g,m.dc,m.dv,m.dp,m.ds,.bool m.b])]/\(∀w∈EA++EV,s.next<=w.1)/\Fr [] s s') (.mk rfl) (by omega) ⟨rfl,.nils,[],.inl ⟨rfl,rfl,rfl⟩,by simpa using hp2,by simpa using hwA,fr2⟩ ?_
   rintro i f s2 hi ⟨hE,dV,EV,hr,hp2,hw,fr⟩
   have g0:=hp2.rh
   have gp:=hp2.hd
   have o1:=hr.one
   have o2:=hrA.one
   have lp:=M5 gp
   by_cases ci:i<mo.vars.length
   ·refine zY (aN hE (aN ci (aN g0 (aN gp (aN om (aN o1 o2)))))) ?_
    refine a7i (A:=(p,[dA,dV,.nils,.int .i64 (-1)])::(q,[.nils,.nils,.nils,.int .i64 0])::EA) (B:=[]) hr (by simpa using hp2) rfl (a8H _) (by decide) (by simp;omega) ?_
    rintro s3 hr3 hp3 l3 u3
    have gp:=hp3.hd
    refine zY (aN hE (aN gp o2)) ?_
    have f3:Fr [] s s3:=⟨by have:=fr.1;omega,fun j hj hn=>by
     have:=fr.1
     rw [u3 j (by omega) fun e he hc=>by have:=hw e (by simp [he]);omega,fr.2 j hj hn]⟩
    refine ⟨ci,_,_,by rw [<- b9j (by omega),b00 ci];exact hr3,by simpa using Hp.set (A:=[]) hp3 _,?_,f3.thenSet _ (.inr (by omega))⟩
    intro w hw1
    rcases List.mem_append.1 hw1 with h | h
    ·exact hw w (by simp [h])
    ·simp only [List.mem_singleton] at h;subst h;have:=fr.1;simp only;omega
   ·obtain rfl:i=mo.vars.length:=by omega
    refine zY (aN hE (aN ci (aN g0 (aN gp (aN om (aN o1 o2)))))) ?_
    rw [<- hvl,List.take_length] at hr
    exact ⟨_,_,hr,hp2,hw,fr⟩
  ·rintro f s2 ⟨dV,EV,hrV,hp2,hwV,fr2⟩
   refine zY0 ?_
   refine a0O [0,1,2,3,4,5,12,24] (fun f s'=>∃dC EC,Rp dC 1 (a1L mo.chans.length) EC/\Hp s' ((p,[dA,dV,dC,.int .i64 (-1)])::(q,[.nils,.nils,.nils,.int .i64 0])::(EA++EV++EC)) [(s.next,[m.dt,.int .i64 m.g,m.dc,m.dv,m.dp,m.ds,.bool m.b])]/\(∀w∈EA++EV++EC,s.next<=w.1)/\Fr [] s s') ?_ ?_
   ·refine P6 [0,1,2,3,4,5,12,24] 0 mo.chans.length (fun i f s'=>f 6=.int .i64 (i:Int)/\∃dC EC,Rp dC 1 (a1L i) EC/\Hp s' ((p,[dA,dV,dC,.int .i64 (-1)])::(q,[.nils,.nils,.nils,.int .i64 0])::(EA++EV++EC)) [(s.next,[m.dt,.int .i64 m.g,m.dc,m.dv,m.dp,m.ds,.bool m.b])]/\(∀w∈EA++EV++EC,s.next<=w.1)/\Fr [] s s') (.mk rfl) (by omega) ⟨rfl,.nils,[],.inl ⟨rfl,rfl,rfl⟩,by simpa using hp2,by simpa using hwV,fr2⟩ ?_
    rintro i f s2 hi ⟨hE,dC,EC,hr,hp2,hw,fr⟩
    have g0:=hp2.rh
    have gp:=hp2.hd
    have o1:=hr.one
    have o2:=hrA.one
    have o3:=hrV.one
    have lp:=M5 gp
    by_cases ci:i<mo.chans.length
    ·refine zY (aN hE (aN ci (aN g0 (aN gp (aN om (aN o1 (aN o2 o3))))))) ?_
     refine a7i (A:=(p,[dA,dV,dC,.int .i64 (-1)])::(q,[.nils,.nils,.nils,.int .i64 0])::(EA++EV)) (B:=[]) hr (by simpa using hp2) rfl (c5k _) (by decide) (by simp [a1L];omega) ?_
     rintro s3 hr3 hp3 l3 u3
     have gp:=hp3.hd
     refine zY (aN hE (aN gp (aN o2 o3))) ?_
     have f3:Fr [] s s3:=⟨by have:=fr.1;omega,fun j hj hn=>by
      have:=fr.1
      rw [u3 j (by omega) fun e he hc=>by have:=hw e (by simp [he]);omega,fr.2 j hj hn]⟩
     refine ⟨ci,_,_,by rw [<- c5D];exact hr3,by simpa using Hp.set (A:=[]) hp3 _,?_,f3.thenSet _ (.inr (by omega))⟩
     intro w hw1
     rcases List.mem_append.1 hw1 with h | h
     ·exact hw w (List.mem_append_left _ h)
     ·simp only [List.mem_singleton] at h;subst h;have:=fr.1;simp only;omega
    ·obtain rfl:i=mo.chans.length:=by omega
     refine zY (aN hE (aN ci (aN g0 (aN gp (aN om (aN o1 (aN o2 o3))))))) ?_
     exact ⟨_,_,hr,hp2,hw,fr⟩
   ·rintro f s2 ⟨dC,EC,hrC,hp2,hwC,fr2⟩
    have gp:=hp2.hd
    have gq:=hp2.tl.hd
    have o1:=hrC.one
    have o2:=hrA.one
    have o3:=hrV.one
    have lq:=M5 gq
    have lp:=M5 gp
    refine zY (aN gp (aN gq (aN o1 (aN o2 o3)))) ?_
    refine a6R ⟨⟨dA,dV,dC,EA,EV,EC,rfl,hrA,hrV,hrC,?_,hwC⟩,fr2.thenSet _ (.inr (by omega))⟩
    exact (Hp.set (A:=[]) hp2.tl.rt _).tl
end Go.Proofs.YtnjlhebkhjcagaaGreat
namespace Go.Proofs.YtnjlhebkhjcagaaGreat
open Go.V
set_option maxRecDepth 100000
set_option maxHeartbeats 4000000
variable {m:MdX} {mo:Mo} {ps:List (Pr×PrD)} {x:StD} {st:Stt}
theorem b3O {x w:Int} (h1:-4294967296<=x) (h2:x<=4294967296) (h3:1<=w) (h4:w<=8):Eqc vfs 38 [.int .i64 x,.int .i64 w] (.int .i64 (O6 x w.toNat)):=a2c (a8T (x:=x) (n:=w) (w:=w.toNat) (by omega) ⟨by omega,by omega⟩) rfl
theorem c6N (hm:MoF m mo ps) (ho:O4 mo) (hf:X8 mo) {d:D} {raw:List Int} (hd:FI d raw) (hraw:∀n∈raw,a0w n):EvP vfs 13 [.agg [m.dt,.int .i64 m.g,m.dc,m.dv,m.dp,m.ds,.bool m.b],d] f6.empty fun r s=>∃cs st,r=.agg cs/\a1N s cs st/\Fit mo st/\st.hold=-1:=by
 have om:=hm.ones
 have hmv:=hm.v
 have hmc:=hm.c
 have hnp:=ho.np
 have hnv:=ho.nv
 have hnc:=ho.nc
 have pd:=a9t hd
 refine Y5 (vf:=b0f) rfl ?_
 unfold b0f;refine zF ?_
 refine zY om ?_
 refine a1J (c6V hm ho) (by simp (disch:=(first|exact Rf.mk rfl|with_reducible assumption|omega|((repeat (first|rw [nP]|rw [nS]|rw [M7]))<;>omega)|decide)) only [go_sem,↓reduceIte]) ?_
 rintro r s1 ⟨⟨dA,dV,dC,EA,EV,EC,rfl,hrA,hrV,hrC,hp,hw⟩,fr⟩
 have l1:=fr.1
 simp only [f6.next_push,M7,Nat.reduceAdd] at l1 hw
 have g0:s1.get 0=some (.cells [m.dt,.int .i64 m.g,m.dc,m.dv,m.dp,m.ds,.bool m.b]):=by rw [fr.2 0 (by simp [M7]) (by simp)];simp (disch:=(first|exact Rf.mk rfl|with_reducible assumption|omega|((repeat (first|rw [nP]|rw [nS]|rw [M7]))<;>omega)|decide)) only [go_sem,↓reduceIte]
 have g1:s1.get 1=some (.cells [.nils,.nils,.nils,.int .i64 0]):=by rw [fr.2 1 (by simp [M7]) (by simp)];simp (disch:=(first|exact Rf.mk rfl|with_reducible assumption|omega|((repeat (first|rw [nP]|rw [nS]|rw [M7]))<;>omega)|decide)) only [go_sem,↓reduceIte]
 have hp1:=((hp.addR1 g0 fun w h=>by have:=hw w h;omega).addW g1 (fun w h=>by have:=hw w h;omega) (by simp)).newW (.cells [.nils,.nils,.nils,.int .i64 0]) [dA,dV,dC,.int .i64 (-1)]
 have o1:=hrA.one
 have o2:=hrV.one
 have o3:=hrC.one
 refine zY (aN o1 (aN o2 o3)) ?_
 generalize hS:(s1.push (.cells [.nils,.nils,.nils,.int .i64 0])).set s1.next (some (.cells [dA,dV,dC,.int .i64 (-1)]))=s2 at *
 generalize s1.next=p at *
 clear hp hw g0 g1 hS fr
 refine a0O [0,1,2,4,5,8,9,10,11,40,63,80] (fun f s'=>f 6=.int .i64 (mo.procs.length:Int)/\∃A EA,A.length=mo.procs.length/\(∀j,j<mo.procs.length->nAt A j<(pAt mo.procs j).places)/\Rp dA 1 (P5 A) EA/\Hp s' ((p,[dA,dV,dC,.int .i64 (-1)])::(1,[.nils,.nils,.nils,.int .i64 0])::(EA++EV++EC)) [(0,[m.dt,.int .i64 m.g,m.dc,m.dv,m.dp,m.ds,.bool m.b])]) ?_ ?_
 ·refine P6 [0,1,2,4,5,8,9,10,11,40,63,80] 0 mo.procs.length (fun i f s'=>f 7=.int .i64 (i:Int)/\f 6=.int .i64 (i:Int)/\∃A EA,A.length=mo.procs.length/\(∀j,j<mo.procs.length->nAt A j<(pAt mo.procs j).places)/\Rp dA 1 (P5 A) EA/\Hp s' ((p,[dA,dV,dC,.int .i64 (-1)])::(1,[.nils,.nils,.nils,.int .i64 0])::(EA++EV++EC)) [(0,[m.dt,.int .i64 m.g,m.dc,m.dv,m.dp,m.ds,.bool m.b])]) (.mk rfl) (by omega) ⟨rfl,rfl,_,EA,by simp,fun j hj=>?_,hrA,hp1⟩ ?_
  ·have:=(ho.pr _ (a0l hj)).inv.two
   rw [a3e (by simpa using hj),List.getElem_replicate];omega
  rintro i f s3 hi ⟨hE7,hE6,A,EA,hA,hfit,hr,hp⟩
  have g0:=hp.rh
  have gp:=hp.hd
  have lA:=hr.len
  rw [a3P,hA] at lA
  by_cases ci:i<mo.procs.length
  ·obtain ⟨a,e1,e2⟩:=b0m hr (by rw [a3P];omega)
   rw [a3P,hA] at e1
   rw [a4n] at e2
   subst e2
   have ga:=hp.tl.tl.hd
   have pa:p≠a:=Hp.ne (A:=[]) (B:=[(1,[.nils,.nils,.nils,.int .i64 0])]) (b:=(a,W1 A)) hp
   have hpl:=(ho.pr _ (a0l ci)).inv.two
   have hpl2:=(ho.pr _ (a0l ci)).pl
   obtain ⟨z,hz,hzb⟩:=a69 hd hraw (k:=i) (n:=(pAt mo.procs i).places) (by omega) (by omega) (by omega)
   have iA:i<A.length:=by omega
   rw [e1] at gp hp hr o1 ⊢
   refine zY (aN hE7 (aN hE6 (aN ci (aN g0 (aN gp (aN om (aN o2 (aN o3 (aN ga (aN hzb iA)))))))))) ?_
   have hn0:0<(P5 (A.set i z)).length:=by simp;omega
   have hrp:=b1D (a:=a) hn0
   rw [a3P,List.length_set,hA,a4n] at hrp
   refine ⟨A.set i z,_,by simp [hA],fun j hj=>?_,hrp,Hp.set (A:=[(p,_),(1,[.nils,.nils,.nils,.int .i64 0])]) hp (W1 (A.set i z))⟩
   rw [a54 iA]
   split
   ·rename_i e;subst e;exact hz
   ·exact hfit j hj
  ·obtain rfl:i=mo.procs.length:=by omega
   refine zY (aN hE7 (aN hE6 (aN ci (aN g0 (aN gp (aN om (aN o1 (aN o2 (aN o3 lA))))))))) ?_
   exact ⟨A,EA,hA,hfit,hr,hp⟩
 ·rintro f s3 ⟨hE6,A,EA,hA,hfit,hrA,hp⟩
  refine zY hE6 ?_
  refine a0O [0,1,2,4,5,7,9,10,11,18,63,80] (fun f s'=>f 6=.int .i64 ((mo.procs.length+mo.vars.length:Nat):Int)/\∃V EV,V.length=mo.vars.length/\(∀j,j<mo.vars.length->O6 (zAt V j) (vAt mo.vars j).width.toNat=zAt V j)/\Rp dV 1 (Y1 V) EV/\Hp s' ((p,[dA,dV,dC,.int .i64 (-1)])::(1,[.nils,.nils,.nils,.int .i64 0])::(EA++EV++EC)) [(0,[m.dt,.int .i64 m.g,m.dc,m.dv,m.dp,m.ds,.bool m.b])]) ?_ ?_
  ·refine P6 [0,1,2,4,5,7,9,10,11,18,63,80] 0 mo.vars.length (fun i f s'=>f 8=.int .i64 (i:Int)/\f 6=.int .i64 ((mo.procs.length+i:Nat):Int)/\∃V EV,V.length=mo.vars.length/\(∀j,j<mo.vars.length->O6 (zAt V j) (vAt mo.vars j).width.toNat=zAt V j)/\Rp dV 1 (Y1 V) EV/\Hp s' ((p,[dA,dV,dC,.int .i64 (-1)])::(1,[.nils,.nils,.nils,.int .i64 0])::(EA++EV++EC)) [(0,[m.dt,.int .i64 m.g,m.dc,m.dv,m.dp,m.ds,.bool m.b])]) (.mk rfl) (by omega) ⟨rfl,rfl,mo.vals,EV,by simp [Mo.vals],fun j hj=>?_,hrV,hp⟩ ?_
   ·rw [b00 hj];exact (hf.vr _ (a4P hj)).2.2
   clear hrV hp
   rintro i f s4 hi ⟨hE8,hE6,V,EV,hV,hfitV,hr,hp⟩
   have g0:=hp.rh
   have gp:=hp.hd
   have lV:=hr.len
   rw [a58,hV] at lV
   by_cases ci:i<mo.vars.length
   ·obtain ⟨a,e1,e2⟩:=b0m hr (by rw [a58];omega)
    rw [a58,hV] at e1
    rw [a6r] at e2
    subst e2
    have hp':Hp s4 ((p,[dA,dV,dC,.int .i64 (-1)])::((1,[.nils,.nils,.nils,.int .i64 0])::EA)++(a,S2 V)::EC) [(0,[m.dt,.int .i64 m.g,m.dc,m.dv,m.dp,m.ds,.bool m.b])]:=by simpa using hp
    have ga:=hp'.w (a,S2 V) (by simp)
    have pa:p≠a:=Hp.ne (A:=[]) (B:=(1,[.nils,.nils,.nils,.int .i64 0])::EA) (b:=(a,S2 V)) hp'
    obtain ⟨z,hz,hzb⟩:=a69 hd hraw (k:=mo.procs.length+i) (n:=256) (by omega) (by omega) (by omega)
    have hzb:Eqc vfs 37 [d,.int .i64 ((mo.procs.length+i:Nat):Int),.int .i64 256] (.int .i64 (z:Int)):=hzb
    have iV:i<V.length:=by omega
    have hw:=hf.vr _ (a4P ci)
    have hwt:=b3O (x:=(z:Int)) (w:=(vAt mo.vars i).width) (by omega) (by omega) hw.1 hw.2.1
    rw [e1] at gp hp hp' hr o2 ⊢
    refine zY (aN hE8 (aN hE6 (aN ci (aN g0 (aN gp (aN om (aN o1 (aN o3 (aN ga (aN hzb (aN iV hwt))))))))))) ?_
    have hn0:0<(Y1 (V.set i (O6 (z:Int) (vAt mo.vars i).width.toNat))).length:=by simp;omega
    have hrp:=b1D (a:=a) hn0
    rw [a58,List.length_set,hV,a6r] at hrp
    refine ⟨by rw [Nat.add_assoc],V.set i (O6 (z:Int) (vAt mo.vars i).width.toNat),_,by simp [hV],fun j hj=>?_,hrp,?_⟩
    ·rw [a68 iV]
     split
     ·rename_i e;subst e;exact a7u (by omega)
     ·exact hfitV j hj
    ·have:=Hp.set (A:=(p,[dA,.arr a 0 mo.vars.length 1,dC,.int .i64 (-1)])::(1,[.nils,.nils,.nils,.int .i64 0])::EA) (B:=EC) hp' (S2 (V.set i (O6 (z:Int) (vAt mo.vars i).width.toNat)))
     simpa using this
   ·obtain rfl:i=mo.vars.length:=by omega
    refine zY (aN hE8 (aN hE6 (aN ci (aN g0 (aN gp (aN om (aN o1 (aN o2 (aN o3 lV))))))))) ?_
    exact ⟨V,EV,hV,hfitV,hr,hp⟩
  ·clear hrV hp
   rintro f s4 ⟨hE6,V,EV,hV,hfitV,hrV,hp⟩
   refine zY hE6 ?_
   refine a0O [0,1,2,4,5,7,8,18,40] (fun f s'=>∃W st,Hp s' ((p,[dA,dV,dC,.int .i64 (-1)])::(1,[.nils,.nils,.nils,.int .i64 0])::W) [(0,[m.dt,.int .i64 m.g,m.dc,m.dv,m.dp,m.ds,.bool m.b])]/\(∀s,Has s W->a1N s [dA,dV,dC,.int .i64 (-1)] st)/\Fit mo st/\st.hold=-1) ?_ ?_
   rotate_left
   ·rintro f s5 ⟨W,st,hp,hS,hF,hh⟩
    have gp:=hp.hd
    have g1:=hp.tl.hd
    have l1:=M5 g1
    refine zY (aN gp (aN g1 (aN o1 (aN o2 o3)))) ?_
    refine a6R ⟨_,st,rfl,hS _ ?_,hF,hh⟩
    exact (Hp.set (A:=[]) hp.tl [dA,dV,dC,.int .i64 (-1)]).tl.w
   have hfit0:∀L:List (List Int),L.length=mo.chans.length->(∀j,j<mo.chans.length->((cAt L j).length:Int)<=(S4 mo.chans j).room/\∀n∈cAt L j,O6 n (S4 mo.chans j).width.toNat=n)->Fit mo ⟨A,V,L,-1⟩:=fun L hL h=>a3n.1 ⟨hA,hV,hL,hfit,hfitV,fun j hj=>(h j hj).1,fun j hj=>(h j hj).2,by simp only;omega⟩
   by_cases h0:mo.chans.length=0
   ·have g0:=hp.rh
    have gp:=hp.hd
    have e1:a1L mo.chans.length=[]:=by rw [h0];rfl
    rw [e1] at hrC
    have lC:=hrC.len
    refine P6 [0,1,2,4,5,7,8,18,40] 0 0 (fun i f s'=>f 9=.int .i64 (i:Int)/\s'=s4) (.mk rfl) (by omega) ⟨rfl,rfl⟩ ?_
    rintro i f s5 hi ⟨hE9,rfl⟩
    obtain rfl:i=0:=by omega
    refine zY (aN hE9 (aN g0 (aN gp (aN om (aN o1 (aN o2 (aN o3 lC))))))) ?_
    refine ⟨EA++EV++EC,⟨A,V,[],-1⟩,hp,fun s hs=>?_,hfit0 [] (by simp [h0]) fun j hj=>by omega,rfl⟩
    exact a1N.mk (st:=⟨A,V,[],-1⟩) [] (hrA.sn fun e he=>hs e (by simp [he])) (hrV.sn fun e he=>hs e (by simp [he])) (hrC.sn fun e he=>hs e (by simp [he])) (.inl rfl) rfl fun j hj=>by simp at hj
   ·have lC:=hrC.len
    obtain ⟨c,e1,e2⟩:=b0m hrC (by simp [a1L];omega)
    rw [c5N] at e2
    rw [show (a1L mo.chans.length).length=mo.chans.length by simp [a1L]] at e1 lC
    subst e2
    subst e1
    clear hrC lC
    refine P6 [0,1,2,4,5,7,8,18,40] 0 mo.chans.length (fun i f s'=>f 9=.int .i64 (i:Int)/\∃ (k:Nat) (L:List (List Int)) (qs:List D) (ED:Hs),f 6=.int .i64 (k:Int)/\k<=20+4*i/\L.length=mo.chans.length/\qs.length=mo.chans.length/\(∀j,j<mo.chans.length->i<=j->dAt qs j=.nils/\cAt L j=[])/\(∀j,j<mo.chans.length->∃E,Rp (dAt qs j) 1 (Y1 (cAt L j)) E/\∀e∈E,e∈ED)/\(∀j,j<mo.chans.length->((cAt L j).length:Int)<=(S4 mo.chans j).room/\∀n∈cAt L j,O6 n (S4 mo.chans j).width.toNat=n)/\Hp s' ((p,[dA,dV,.arr c 0 mo.chans.length 1,.int .i64 (-1)])::(1,[.nils,.nils,.nils,.int .i64 0])::(EA++EV++(c,qs)::ED)) [(0,[m.dt,.int .i64 m.g,m.dc,m.dv,m.dp,m.ds,.bool m.b])]) (.mk rfl) (by omega) ⟨rfl,_,List.replicate mo.chans.length [],List.replicate mo.chans.length .nils,[],rfl,by omega,by simp,by simp,fun j hj _=>⟨b4N hj,a6G⟩,fun j hj=>⟨[],by rw [b4N hj,a6G];exact .inl ⟨rfl,rfl,rfl⟩,by simp⟩,fun j hj=>by
     rw [a6G]
     have:=hf.ch _ (a47 hj)
     exact ⟨by simp;omega,by simp⟩,hp⟩ ?_
    clear hp
    rintro i f s5 hi ⟨hE9,k,L,qs,ED,hE6,hk,hL,hq,hnil,hrp,hfl,hp⟩
    have g0:=hp.rh
    have gp:=hp.hd
    have hp':Hp s5 ((p,[dA,dV,.arr c 0 mo.chans.length 1,.int .i64 (-1)])::((1,[.nils,.nils,.nils,.int .i64 0])::(EA++EV))++(c,qs)::ED) [(0,[m.dt,.int .i64 m.g,m.dc,m.dv,m.dp,m.ds,.bool m.b])]:=by simpa using hp
    have gc:=hp'.w (c,qs) (by simp)
    by_cases ci:i<mo.chans.length
    ·have hw:=hf.ch _ (a47 ci)
     have hro:∃r:Nat,(S4 mo.chans i).room=(r:Int):=⟨(S4 mo.chans i).room.toNat,by omega⟩
     obtain ⟨r,hr⟩:=hro
     obtain ⟨z,hz,hzb⟩:=a69 hd hraw (k:=k) (n:=r+1) (by omega) (by omega) (by omega)
     obtain ⟨hn1,hn2⟩:=hnil i ci (Nat.le_refl _)
     refine zY (aN hE9 (aN hE6 (aN ci (aN g0 (aN gp (aN om (aN o1 (aN o2 (aN hr hzb))))))))) ?_
     have iq:i<qs.length:=by omega
     have iL:i<L.length:=by omega
     refine P6 [0,1,2,4,5,7,8,9,10,18,40,63] 0 z (fun j f s'=>f 11=.int .i64 (j:Int)/\f 6=.int .i64 ((k+1+j:Nat):Int)/\∃ (l:List Int) (q:D) (E:Hs),l.length=j/\(∀n∈l,O6 n (S4 mo.chans i).width.toNat=n)/\Rp q 1 (Y1 l) E/\Hp s' ((p,[dA,dV,.arr c 0 mo.chans.length 1,.int .i64 (-1)])::(1,[.nils,.nils,.nils,.int .i64 0])::(EA++EV++(c,qs.set i q)::(E++ED))) [(0,[m.dt,.int .i64 m.g,m.dc,m.dv,m.dp,m.ds,.bool m.b])]) (.mk rfl) (by omega) ⟨rfl,rfl,[],.nils,[],rfl,by simp,.inl ⟨rfl,rfl,rfl⟩,?_⟩ ?_
     ·have e:qs.set i .nils=qs:=by
       rw [<- hn1,a85 iq];simp
      rw [e];exact hp
     rintro j f s6 hj ⟨hE11,hE6,l,q,E,hl,htr,hr1,hp⟩
     clear hp' gc
     have g0:=hp.rh
     have gp:=hp.hd
     have hp':Hp s6 ((p,[dA,dV,.arr c 0 mo.chans.length 1,.int .i64 (-1)])::((1,[.nils,.nils,.nils,.int .i64 0])::(EA++EV))++(c,qs.set i q)::(E++ED)) [(0,[m.dt,.int .i64 m.g,m.dc,m.dv,m.dp,m.ds,.bool m.b])]:=by simpa using hp
     have gc:=hp'.w (c,qs.set i q) (by simp)
     have pc:p≠c:=Hp.ne (A:=[]) (B:=(1,[.nils,.nils,.nils,.int .i64 0])::(EA++EV)) (b:=(c,qs.set i q)) hp'
     have lp:=M5 gp
     have lc:=M5 gc
     have oq:=hr1.one
     by_cases cj:j<z
     ·obtain ⟨y,hy,hyb⟩:=a69 hd hraw (k:=k+1+j) (n:=256) (by omega) (by omega) (by omega)
      have hyb:Eqc vfs 37 [d,.int .i64 ((k+1+j:Nat):Int),.int .i64 256] (.int .i64 (y:Int)):=hyb
      have hwt:=b3O (x:=(y:Int)) (w:=(S4 mo.chans i).width) (by omega) (by omega) hw.2.2.1 hw.2.2.2
      have iq2:i<(qs.set i q).length:=by simpa using iq
      have eq1:(qs.set i q)[i]?=some q:=by simp [iq]
      have eq2:i+1<=qs.length:=by omega
      have nE:∀w∈(1,[.nils,.nils,.nils,.int .i64 0])::(EA++EV)++(c,qs.set i q)::(E++ED),w.1≠p:=Hp.neAll hp'
      have nEp:a2D p (E.map Prod.fst):=Hp.notIn fun e he=>nE e (by simp [he])
      have nEc:a2D c (E.map Prod.fst):=Hp.notIn fun e he=>by
       have h1:Hp s6 ((c,qs.set i q)::(E++ED)) [(0,[m.dt,.int .i64 m.g,m.dc,m.dv,m.dp,m.ds,.bool m.b])]:=hp'.sub (List.sublist_append_right _ _) fun _ h=>h
       exact h1.neAll e (by simp [he])
      refine zY (aN hE9 (aN hE11 (aN hE6 (aN ci (aN cj (aN g0 (aN gp (aN gc (aN om (aN o1 (aN o2 (aN oq (aN hq (aN eq1 (aN hyb hwt))))))))))))))) ?_
      have hp2:Hp s6 (((p,[dA,dV,.arr c 0 mo.chans.length 1,.int .i64 (-1)])::(1,[.nils,.nils,.nils,.int .i64 0])::(EA++EV++[(c,qs.set i q)]))++E++ED) [(0,[m.dt,.int .i64 m.g,m.dc,m.dv,m.dp,m.ds,.bool m.b])]:=by simpa using hp
      refine c3G (E:=E) hr1 hp2 rfl (a8H _) (by decide) (by simp;omega) (by simp (disch:=(first|exact Rf.mk rfl|with_reducible assumption|omega|((repeat (first|rw [nP]|rw [nS]|rw [M7]))<;>omega)|decide)) only [go_sem,↓reduceIte,nEp,nEc]) ?_
      rintro s7 hr7 hp7 l7 u7
      have gp:=hp7.hd
      have gc:=hp7.w (c,qs.set i q) (by simp)
      simp (disch:=(first|exact Rf.mk rfl|with_reducible assumption|omega|((repeat (first|rw [nP]|rw [nS]|rw [M7]))<;>omega)|decide)) only [go_sem,↓reduceIte,hE9,hE11,hE6,ci,cj,gp,gc,hq,List.length_set,b0r,List.set_set]
      refine ⟨by rw [Nat.add_assoc],l++[O6 (y:Int) (S4 mo.chans i).width.toNat],_,_,by simp [hl],fun n hn=>?_,by simpa [Y1] using hr7,?_⟩
      ·rcases List.mem_append.1 hn with h | h
       ·exact htr n h
       ·simp only [List.mem_singleton] at h;subst h;exact a7u (by omega)
      ·have h7:Hp s7 (((p,[dA,dV,.arr c 0 mo.chans.length 1,.int .i64 (-1)])::(1,[.nils,.nils,.nils,.int .i64 0])::(EA++EV))++(c,qs.set i q)::((s6.next+1,(Y1 l++[[D.int IntKind.i64 (O6 (y:Int) (S4 mo.chans i).width.toNat)]]).flatten)::ED)) [(0,[m.dt,.int .i64 m.g,m.dc,m.dv,m.dp,m.ds,.bool m.b])]:=by simpa using hp7
       have:=h7.set (qs.set i (.arr (s6.next+1) 0 (l.length+1) 1))
       simpa [Y1] using this
     ·obtain rfl:j=z:=by omega
      refine zY (aN hE9 (aN hE11 (aN hE6 (aN ci cj)))) ?_
      refine ⟨_,L.set i l,qs.set i q,E++ED,rfl,by omega,by simp [hL],by simp [hq],fun b hb hib=>?_,fun b hb=>?_,fun b hb=>?_,hp⟩
      ·rw [b0k iq,a4J iL,if_neg (by omega),if_neg (by omega)]
       exact hnil b hb (by omega)
      ·rw [b0k iq,a4J iL]
       by_cases hbi:b=i
       ·rw [if_pos hbi,if_pos hbi]
        exact ⟨E,hr1,fun e he=>by simp [he]⟩
       ·rw [if_neg hbi,if_neg hbi]
        obtain ⟨E2,h1,h2⟩:=hrp b hb
        exact ⟨E2,h1,fun e he=>by simp [h2 e he]⟩
      ·rw [a4J iL]
       by_cases hbi:b=i
       ·rw [if_pos hbi]
        subst hbi
        exact ⟨by omega,htr⟩
       ·rw [if_neg hbi]
        exact hfl b hb
    ·obtain rfl:i=mo.chans.length:=by omega
     refine zY (aN hE9 (aN hE6 (aN ci (aN g0 (aN gp (aN om (aN o1 o2))))))) ?_
     refine ⟨EA++EV++(c,qs)::ED,⟨A,V,L,-1⟩,hp,fun s hs=>?_,hfit0 L hL hfl,rfl⟩
     refine a1N.mk (st:=⟨A,V,L,-1⟩) qs (hrA.sn fun e he=>hs e (by simp [he])) (hrV.sn fun e he=>hs e (by simp [he])) (.inr (.inl ⟨c,by simp [hq],?_⟩)) (.inr ⟨c,by simp [hq]⟩) (by simp [hq,hL]) fun j hj=>?_
     ·rw [a9u];exact hs (c,qs) (by simp)
     ·obtain ⟨E,h1,h2⟩:=hrp j (by omega)
      exact h1.chr fun e he=>hs e (by simp [h2 e he])
end Go.Proofs.YtnjlhebkhjcagaaGreat
namespace Go.V
variable {fs:FuncId->Option M3}
end Go.V
namespace Go.V
end Go.V
namespace Go.V
structure Inc (f g:Ft):Prop where
 r:∀b,f.reads.testBit b=true->g.reads.testBit b=true
 z:∀b,f.sizes.testBit b=true->g.sizes.testBit b=true
theorem Inc.refl (f:Ft):Inc f f:=⟨fun _ h=>h,fun _ h=>h⟩
theorem Inc.trans {f g h:Ft} (a:Inc f g) (b:Inc g h):Inc f h:=⟨fun x k=>b.r x (a.r x k),fun x k=>b.z x (a.z x k)⟩
theorem c2d {ch:List ByteArray} {vb:ByteArray->Nat} {x:Nd} {f:Ft}:Inc f (S8 ch vb x f):=by
 unfold S8
 split
 ·exact ⟨fun b h=>by simp only [Nat.testBit_or,h,Bool.true_or],fun _ h=>h⟩
 split
 ·exact ⟨fun _ h=>h,fun b h=>by simp only [Nat.testBit_or,h,Bool.true_or]⟩
 split
 ·exact ⟨fun _ h=>h,fun _ h=>h⟩
 ·exact .refl _
theorem a72 {g:Ft->Nat->Ft} (hg:∀f k,Inc f (g f k)):∀ {l:List Nat} {f:Ft},Inc f (l.foldl g f)
 | [],f=>.refl f
 | k::l,f=>(hg f k).trans (a72 hg (l:=l))
theorem a9M {t:List Nd} {ch:List ByteArray} {vb:ByteArray->Nat}:∀ (n k:Nat) (f:Ft),Inc f (Y8 t ch vb n k f)
 | 0,k,f=>.refl f
 | n+1,k,f=>by
   unfold Y8
   exact c2d.trans (a72 fun f k=>a9M n k f)
theorem b5f {g:Ft->Nat->Ft} (hg:∀f k,Inc f (g f k)):∀ {l:List Nat} {f:Ft} {k:Nat},k∈l->∃f',Inc (g f' k) (l.foldl g f)
 | x::l,f,k,h=>by
   rcases List.mem_cons.1 h with rfl | h
   ·exact ⟨f,a72 hg (l:=l)⟩
   ·exact b5f hg (l:=l) h
structure a2R (f:Ft) (st st':Stt):Prop where
 r:∀b,f.reads.testBit b=true->zAt st.vars b=zAt st'.vars b
 z:∀b,f.sizes.testBit b=true->(cAt st.chans b).length=(cAt st'.chans b).length
theorem a2R.inc {f g:Ft} {st st':Stt} (h:a2R g st st') (k:Inc f g):a2R f st st':=⟨fun b hb=>h.r b (k.r b hb),fun b hb=>h.z b (k.z b hb)⟩
theorem b5z {t:List Nd} (ht:Z0 t) {ch:List ByteArray} {vb:ByteArray->Nat} {look:ByteArray->Option Nat} (hl:∀w v,look w=some v->vb w=2 ^ v) {st st':Stt}:∀ (n k:Nat) (f0:Ft),k<t.length->a0M (nd t k).kind->a2R (Y8 t ch vb n k f0) st st'->U1 t ch look st n k=U1 t ch look st' n k
 | 0,k,f0,_,_,_=>rfl
 | n+1,k,f0,hk,hx,ha=>by
   have hno:=ht.node k hk
   obtain ⟨_,hkx⟩:=a5s hno hx
   have hkid:∀i,i<(nd t k).kids.length->U1 t ch look st n ((nd t k).kid i)=U1 t ch look st' n ((nd t k).kid i):=fun i hi=>by
    have hm:=V6 hi
    have hc:=ht.ks hk _ hm
    obtain ⟨f',hf'⟩:=b5f (g:=fun f c=>Y8 t ch vb n c f) (fun f c=>a9M n c f) (f:=S8 ch vb (nd t k) f0) hm
    exact b5z ht hl n _ f' hc.2 (hkx i hi) (ha.inc hf')
   have h1:Inc (S8 ch vb (nd t k) f0) (Y8 t ch vb (n+1) k f0):=a72 fun f k=>a9M n k f
   have hb:=ha.inc h1
   unfold U1
   simp only
   by_cases q17:(nd t k).kind=17
   ·simp only [q17,if_true]
   simp only [q17,if_false]
   by_cases q18:(nd t k).kind=18
   ·simp only [q18,if_true]
    cases hlk:look ((nd t k).word 0) with
    | none=>rfl
    | some v =>
      have e:zAt st.vars v=zAt st'.vars v:=hb.r v (by
       unfold S8
       rw [if_pos q18]
       simp only [Nat.testBit_or,hl _ _ hlk,Nat.testBit_two_pow_self,Bool.or_true])
      simp only [e]
   simp only [q18,if_false]
   by_cases q19:(nd t k).kind=19
   ·simp only [q19,if_true]
    split
    ·rename_i hi
     have e:=hb.z (idxB ch ((nd t k).word 0)) (by
      unfold S8 chB
      rw [if_neg q18,if_pos q19,if_pos hi]
      simp only [Nat.testBit_or,Nat.testBit_two_pow_self,Bool.or_true])
     rw [e]
    ·rfl
   simp only [q19,if_false]
   by_cases q20:(nd t k).kind=20
   ·have:=(hno.one (by omega)).1
    simp only [q20,if_true,hkid 0 (by omega)]
   simp only [q20,if_false]
   by_cases q21:(nd t k).kind=21
   ·have:=(hno.one (by omega)).1
    simp only [q21,if_true,hkid 0 (by omega)]
   simp only [q21,if_false]
   by_cases q22:(nd t k).kind=22
   ·have:=(hno.bin q22).1
    simp only [q22,if_true,hkid 0 (by omega),hkid 1 (by omega)]
   simp only [q22,if_false]
theorem c5j {p:Pr} {w:ByteArray} {v:Nat} (h:U4 p w=some v):varB p.names p.vars w=2 ^ v:=by
 unfold U4 at h
 unfold varB
 split at h
 ·rename_i hi
  simp only [Option.some.injEq] at h
  rw [if_pos hi,h]
 ·cases h
theorem b73 (mo:Mo) (p:Pr) (e:Ed):Inc (a1E mo p e) (O1 mo p e)/\Inc (O1 mo p e) (a1E mo p e):=by
 rw [a5w]
 unfold a1g
 constructor<;>(split;exact ⟨fun _ h=>h,fun _ h=>h⟩;split;exact ⟨fun _ h=>h,fun _ h=>h⟩;split;exact ⟨fun _ h=>h,fun _ h=>h⟩;exact .refl _)
theorem c2j {mo:Mo} (ho:O4 mo) {p:Pr} (hp:a2Q mo p) {e:Ed} (he:e∈p.edges) {st st':Stt} (h:a2R (O1 mo p e) st st') (z:Int):mo.ex p st e z=mo.ex p st' e z:=by
 have heo:=hp.inv.ed e he
 unfold Mo.ex
 split
 ·rename_i h0
  have hx:e.act=1∨e.act=2∨e.act=4∨e.act=5:=by
   have:=heo.ex0
   have:=heo.act
   omega
  obtain ⟨n,hn,hn2,hn3⟩:=heo.ex1 hx
  rw [hn,Int.toNat_natCast]
  refine b5z ho.tree (vb:=varB p.names p.vars) (fun w v h=>c5j h) _ n ⟨0,0,0,0,0,false⟩ hn2 hn3 ?_
  have:=h.inc (b73 mo p e).1
  unfold a1E at this
  rw [if_pos h0,hn,Int.toNat_natCast] at this
  exact this
 ·rfl
def setO {α:Type} (l:List α):Option (Nat×α)->List α
 | none=>l
 | some (i,x)=>l.set i x
theorem b8X {mo:Mo} {p:Pr} (hp:a2Q mo p) {e:Ed} (he:e∈p.edges) (h:e.act=2∨e.act=3):((O1 mo p e).sends ||| (O1 mo p e).recvs).testBit e.chan.toNat=true:=by
 have heo:=hp.inv.ed e he
 rw [a5w]
 unfold a1g
 obtain ⟨v,e1,hv⟩:=heo.c1 h
 rw [if_neg (by omega)]
 by_cases a2:e.act=2
 ·rw [if_pos a2,e1,Int.toNat_natCast]
  simp only [a2L,Nat.testBit_or,Nat.testBit_two_pow_self,Bool.true_or]
 ·rw [if_neg a2,if_pos (by omega),e1,Int.toNat_natCast]
  simp only [a2L,Nat.testBit_or,Nat.testBit_two_pow_self,Bool.or_true]
theorem a2R.hold {f:Ft} {st st':Stt} (h:a2R f st st') (z:Int):a2R f st { st' with hold:=z }:=⟨h.r,h.z⟩
end Go.V
namespace Go.V
theorem b08 {α β:Type} {P:β->Prop} {g:β->α->β}:∀ {l:List α} {a:β},P a->(∀a x,x∈l->P a->P (g a x))->P (l.foldl g a)
 | [],a,h,_=>h
 | x::l,a,h,hg=>b08 (l:=l) (hg a x (by simp) h) fun a y hy=>hg a y (by simp [hy])
def a82 (c:Ch):Prop:=1<=c.room/\c.room<=3/\1<=c.width/\c.width<=8
def a3N (v:Vr):Prop:=1<=v.width/\v.width<=8/\O6 v.value v.width.toNat=v.value
theorem b9Y {t:List Nd} (hY:a1h t) {k:Nat} (hk:k<t.length) (h:(nd t k).kind=1):a82 (a3x (nd t k)):=by
 have:=(hY.fine k hk).chan h
 exact ⟨this.1,this.2.1,this.2.2.1,this.2.2.2.1⟩
theorem b2Y {t:List Nd} (hY:a1h t) {k:Nat} (hk:k<t.length) (h:(nd t k).kind=2):a3N (a1o (nd t k)):=by
 have:=(hY.fine k hk).var h
 exact ⟨this.1,this.2.1,this.2.2.1⟩
theorem b6v {t:List Nd} (ht:Z0 t) (hY:a1h t):(∀c∈(gat t).ch,a82 c)/\∀v∈(gat t).vs,a3N v:=by
 unfold gat U8
 refine b08 (P:=fun (a:Ga)=>(∀c∈a.ch,a82 c)/\∀v∈a.vs,a3N v) (by simp) fun (a:Ga) k hk ha=>?_
 have hkl:=(ht.ks ht.pos k hk).2
 unfold one1
 split
 ·rename_i h1
  refine ⟨fun c hc=>?_,ha.2⟩
  rcases List.mem_append.1 hc with hc | hc
  ·exact ha.1 c hc
  ·simp only [List.mem_singleton] at hc
   subst hc;exact b9Y hY hkl h1
 split
 ·rename_i h1
  refine ⟨ha.1,fun c hc=>?_⟩
  rcases List.mem_append.1 hc with hc | hc
  ·exact ha.2 c hc
  ·simp only [List.mem_singleton] at hc
   subst hc;exact b2Y hY hkl h1
 split
 ·exact ha
 split
 ·exact ha
 ·exact ha
theorem c08 {t:List Nd} (ht:Z0 t) (hY:a1h t) {k:Nat} (hk:k<t.length):∀v∈(W0 t (nd t k)).map a1o,a3N v:=by
 intro v hv
 obtain ⟨x,hx,rfl⟩:=List.mem_map.1 hv
 obtain ⟨j,hj,rfl⟩:=List.mem_map.1 hx
 obtain ⟨i,hi,e⟩:=List.getElem_of_mem hj
 have hi2:i<N4 t (nd t k)/\i<(nd t k).ks.length:=by
  rw [List.length_take] at hi;omega
 rw [List.getElem_take] at e
 have h2:=a5j hi2.1 hi2.2
 rw [e] at h2
 have hm:=ht.ks hk j (by rw [<- e];exact List.getElem_mem _)
 exact b2Y hY hm.2 h2
theorem b35 {t:List Nd} (ht:Z0 t) (hY:a1h t) {ch:List ByteArray} {k seen:Nat} (hk:k<t.length):∀ (c:Nat) (a:List Vr×List Pr),(∀v∈a.1,a3N v)->∀v∈(U6 t ch k seen c a).1,a3N v
 | 0,a,h=>h
 | c+1,a,h=>by
   intro v hv
   unfold U6 at hv
   rcases List.mem_append.1 hv with hv | hv
   ·exact b35 ht hY hk c a h v hv
   ·exact c08 ht hY hk v hv
theorem b3L {t:List Nd} (hR:N6 t) (hY:a1h t):X8 (S5 t):=by
 have ht:=hR.ok
 obtain ⟨h1,h2⟩:=b6v ht hY
 refine ⟨h1,?_⟩
 show ∀v∈(gbt t).vs,a3N v
 unfold gbt a0f
 refine b08 (P:=fun (a:Gb)=>∀v∈a.vs,a3N v) h2 fun a k hk ha=>?_
 have hkl:=(ht.ks ht.pos k hk).2
 unfold a0X
 split
 ·exact b35 ht hY hkl _ _ ha
 split
 ·exact ha
 ·exact ha
end Go.V
namespace Go.V
variable {mo:Mo} {st:Stt}
theorem b3b {i j:Nat} {v:Mv} (h:v∈mo.mvE st i j):v.kind=0/\v.proc=i/\v.edge<j/\mo.can st i (pAt mo.procs i) (eAt (pAt mo.procs i).edges v.edge)=true:=by
 unfold Mo.mvE at h
 obtain ⟨k,hk,rfl⟩:=List.mem_map.1 h
 obtain ⟨h1,h2⟩:=List.mem_filter.1 hk
 exact ⟨rfl,rfl,List.mem_range.1 h1,h2⟩
theorem b22 {i:Nat} {v:Mv} (h:v∈mo.movesP st i):v∈mo.mvE st i (pAt mo.procs i).edges.length/\¬ (0<=st.hold/\st.hold≠(i:Int)):=by
 rw [Mo.movesP_eq] at h
 split at h
 ·cases h
 ·rename_i c;exact ⟨h,c⟩
theorem a9o {c:Nat} {v:Mv} (h:v∈mo.movesC st c):(v.kind=1∨v.kind=2)/\v.chan=c/\0<(cAt st.chans c).length/\(v.kind=2->((cAt st.chans c).length:Int)<(S4 mo.chans c).room):=by
 unfold Mo.movesC at h
 rcases List.mem_append.1 h with h | h
 ·split at h
  ·rename_i hc
   simp only [Bool.and_eq_true,decide_eq_true_eq] at hc
   simp only [List.mem_singleton] at h
   subst h
   exact ⟨.inl rfl,rfl,hc.2,fun e=>by cases e⟩
  ·cases h
 ·split at h
  ·rename_i hc
   simp only [Bool.and_eq_true,decide_eq_true_eq] at hc
   simp only [List.mem_singleton] at h
   subst h
   exact ⟨.inr rfl,rfl,hc.1.2,fun _=>hc.2⟩
  ·cases h
theorem c6g {v:Mv} (h:v∈mo.moves st):mo.mvOk st v:=by
 unfold Mo.moves at h
 rcases List.mem_append.1 h with h | h
 ·obtain ⟨i,hi,hv⟩:=List.mem_flatMap.1 h
  obtain ⟨h1,_⟩:=b22 hv
  obtain ⟨a,b,c,d⟩:=b3b h1
  subst b
  exact .inl ⟨a,List.mem_range.1 hi,c,d⟩
 ·split at h
  ·obtain ⟨c,hc,hv⟩:=List.mem_flatMap.1 h
   obtain ⟨a,rfl,b,d⟩:=a9o hv
   rcases a with a | a
   ·exact .inr (.inl ⟨a,List.mem_range.1 hc,b⟩)
   ·exact .inr (.inr ⟨a,List.mem_range.1 hc,b,d a⟩)
  ·cases h
theorem b4f {v:Mv} (h0:v.kind=0):mo.doS st v=mo.doE st v.proc (pAt mo.procs v.proc) (eAt (pAt mo.procs v.proc).edges v.edge):=by
 unfold Mo.doS
 rw [if_neg (by omega),if_neg (by omega)]
theorem c4J {a:Nat}:((a:Int)=0)=(a=0):=by apply propext;omega
attribute [go_sem] c4J
theorem a4q (ho:O4 mo) {st:Stt}:(mo.moves st).length<=17000:=by
 have h1:=Mo.mvP_len ho (st:=st) (Nat.le_refl _)
 have h2:=Mo.mvC_len (mo:=mo) (st:=st) (i:=mo.chans.length)
 have:=ho.np
 have:=ho.nc
 rw [Mo.moves_eq,List.length_append]
 split
 ·omega
 ·simp only [List.length_nil];omega
end Go.V
namespace Go.V
def aB (l:List Bool) (i:Nat):Bool:=l.getD i false
structure Code {α β:Type} (A:α->Prop) (sz:α->Nat) (e:α->β->List Bool) (d:α->List Bool->Option (β×List Bool)) (V:α->β->Prop):Prop where
 enc:∀a b r,A a->V a b->d a (e a b++r)=some (b,r)
 dec:∀a l b r,A a->sz a<=l.length->d a l=some (b,r)->V a b/\l=e a b++r
 len:∀a b,V a b->(e a b).length=sz a
theorem b8Q (w:Nat):((2 ^ w:Nat):Int)=2 ^ w:=by simp
theorem c5Y {n:Int} {w:Nat} (h:w<=16):IntKind.i64.wrap (a6v .i64 n (2 ^ w-1))=n % 2 ^ w:=by
 show IntKind.i64.wrap ((BitVec.ofInt IntKind.i64.bits n &&& BitVec.ofInt IntKind.i64.bits (2 ^ w-1)).toNat:Int)=n % 2 ^ w
 have hp:2 ^ w<=2 ^ 16:=Nat.pow_le_pow_right (by omega) h
 have hp0:0<2 ^ w:=Nat.pos_of_ne_zero (by simp)
 have hc:((2 ^ w:Nat):Int)=2 ^ w:=by simp
 have a2:(BitVec.ofInt IntKind.i64.bits (2 ^ w-1)).toNat=2 ^ w-1:=by
  rw [BitVec.toNat_ofInt,show IntKind.i64.bits=64 from rfl,<- hc]
  rw [Int.emod_eq_of_lt (by omega) (by omega)]
  omega
 have e1:(BitVec.ofInt IntKind.i64.bits n &&& BitVec.ofInt IntKind.i64.bits (2 ^ w-1)).toNat=(n % 2 ^ 64).toNat % 2 ^ w:=by
  rw [BitVec.toNat_and,a2,Nat.and_two_pow_sub_one_eq_mod,BitVec.toNat_ofInt]
  rfl
 rw [e1]
 have h0:0<=n % 2 ^ 64:=Int.emod_nonneg _ (by decide)
 have hm:=Nat.mod_lt (n % 2 ^ 64).toNat hp0
 rw [O7 (by omega) (by omega),Int.natCast_emod,Int.toNat_of_nonneg h0,hc]
 exact Int.emod_emod_of_dvd _ (b1i (w:=w) (v:=64) (by omega))
end Go.V
namespace Go.Proofs.YtnjlhebkhjcagaaGreat
open Go.V
set_option maxRecDepth 100000
set_option maxHeartbeats 4000000
theorem b0G {w:Nat} (h:w<=16):(2:Int) ^ w<=65536/\(1:Int)<=2 ^ w:=by
 have h1:2 ^ w<=2 ^ 16:=Nat.pow_le_pow_right (by omega) h
 have h2:0<2 ^ w:=Nat.two_pow_pos w
 have:=b8Q w
 omega
theorem b4O {w:Nat} {k:IntKind} (h:w<=16):a3r .shl .i64 1 (w:Int)=some (.int .i64 (2 ^ w)):=by
 have:=b0G h
 unfold a3r
 rw [if_neg (by omega)]
 simp only [Int.toNat_natCast]
 rw [show min w IntKind.i64.bits=w by rw [show IntKind.i64.bits=64 from rfl];omega,Int.one_mul,O7 (by omega) (by omega)]
theorem c1F {n:Int} (h1:1<=n) (h2:n<=16):Eqc vfs 119 [.int .i64 n] (.int .i64 n):=by
 have e1:max n 1=n:=by omega
 have e2:min n 16=n:=by omega
 refine P4 ?_
 refine N3 (vf:=a8S) rfl ?_
 unfold a8S;refine zF ?_
 exact zZ (aN e1 e2)
theorem b39 {x:Int} {w:Nat} (hx:a0w x) (h1:1<=w) (h2:w<=16):Eqc vfs 98 [.int .i64 x,.int .i64 (w:Int)] (.int .i64 (O6 x w)):=by
 have hb:=c1F (n:=(w:Int)) (by omega) (by omega)
 have s1:=b4O (w:=w) (k:=.i64) h2
 have s2:=b4O (w:=w-1) (k:=.i64) (by omega)
 have p1:=b0G h2
 have p2:=b0G (w:=w-1) (by omega)
 have ew:IntKind.i64.wrap ((w:Int)-1)=((w-1:Nat):Int):=by rw [O7 (by omega) (by omega)];omega
 have e1:IntKind.i64.wrap ((2:Int) ^ w-1)=2 ^ w-1:=O7 (by omega) (by omega)
 have hm:=c5Y (n:=x) h2
 have h3:=Int.emod_nonneg x (b:=2 ^ w) (by omega)
 have h4:=Int.emod_lt_of_pos x (a6J w)
 have e2:IntKind.i64.wrap (x % 2 ^ w-2 ^ w)=x % 2 ^ w-2 ^ w:=O7 (by omega) (by omega)
 refine P4 ?_
 refine N3 (vf:=b0Y) rfl ?_
 unfold b0Y;refine zF ?_
 by_cases hc:2 ^ (w-1)<=x % 2 ^ w
 ·rw [b0x h1,if_pos hc]
  exact zZ (aN hb (aN s1 (aN s2 (aN ew (aN e1 (aN hm (aN hc e2)))))))
 ·rw [b0x h1,if_neg hc]
  exact zZ (aN hb (aN s1 (aN s2 (aN ew (aN e1 (aN hm hc))))))
theorem b3l {x:Int} {w:Nat} (hx:a0w x) (h1:1<=w) (h2:w<=16):Eqc vfs 73 [.int .i64 x,.int .i64 (w:Int)] (.bool (decide (O6 x w=x))):=by
 have ht:=b39 hx h1 h2
 refine P4 ?_
 refine N3 (vf:=a8v) rfl ?_
 unfold a8v;refine zF ?_
 exact zZ ht
end Go.Proofs.YtnjlhebkhjcagaaGreat
namespace Go.V
variable {fs:FuncId->Option M3}
theorem b4m (l:List Bool):(V1 l).flatten=a3Y l:=by
 induction l with
 | nil=>rfl
 | cons b l ih=>show [.bool b]++(V1 l).flatten=_;rw [ih];rfl
structure GrB (s0 s:f6) (ids:List Nat) (A B R:Hs) (d:D) (l:List Bool) (E:Hs):Prop where
 rp:Rp d 1 (V1 l) E
 hp:Hp s (A++E++B) R
 fr:Fr ids s0 s
 nw:∀e∈E,e.1∈ids∨s0.next<=e.1
theorem GrB.frz {s0 s:f6} {ids:List Nat} {A B R E:Hs} {d:D} {l:List Bool} (h:GrB s0 s ids A B R d l E):∃d',ice s.get 20 d=some d'/\FL 1 d' (V1 l):=a2S h.rp h.hp (fun e he=>by simp [he]) (a33 _) (b36 _)
attribute [go_sem] b97
theorem a67 {i t fo args rest s K} {env:Env} {f:FuncId} {caps:List D} {l:List D} {P:D->f6->Prop} (hf:env.ev fo=.fn f caps) (hr:EvP fs f l s P) (ha:env.evL args++caps=l)
 (h:∀d s',P d s'->XQ fs [] rest ((t,d)::env) s' K):WQ fs [] ((i,⟨some t,.m (.call .raw fo args),none⟩)::rest) env s K:=by
 subst ha
 obtain ⟨d,s',⟨n,hn⟩,hp⟩:=hr
 exact b1b ⟨n,by simp only [evM,a1d,hf];exact hn⟩ (a1D (h d s' hp))
def GrL (s0 s:f6) (R:Hs) (d:D) (l:List Bool) (E:Hs):Prop:=GrB s0 s [] [] [] R d l E
theorem GrB.base {s0 s s':f6} {R R' E E':Hs} {d d':D} {l l':List Bool} (h:GrB s s' (E.map Prod.fst) [] [] R' d' l' E') (h0:GrL s0 s R d l E):GrL s0 s' R' d' l' E':=by
 have nE:∀i∈E.map Prod.fst,s0.next<=i:=fun i hi=>by
  obtain ⟨e,he,rfl⟩:=List.mem_map.1 hi
  rcases h0.nw e he with h | h
  ·simp at h
  ·exact h
 refine ⟨h.rp,h.hp,⟨Nat.le_trans h0.fr.1 h.fr.1,fun j hj _=>?_⟩,fun e he=>.inr ?_⟩
 ·rw [h.fr.2 j (Nat.lt_of_lt_of_le hj h0.fr.1) fun hc=>by have:=nE j hc;omega,h0.fr.2 j hj (by simp)]
 ·rcases h.nw e he with h | h
  ·exact nE _ h
  ·exact Nat.le_trans h0.fr.1 h
theorem GrL.mv {s0 s s':f6} {R E:Hs} {d:D} {l:List Bool} (h:GrL s0 s R d l E) (hf:Fr [] s s'):GrL s0 s' R d l E :=
 ⟨h.rp,h.hp.fr hf,h.fr.trans hf (by simp),h.nw⟩
theorem GrL.nil {s0 s:f6} {R:Hs} (h:Has s R) (hf:Fr [] s0 s):GrL s0 s R .nils [] []:=⟨.inl ⟨rfl,rfl,rfl⟩,⟨List.nodup_nil,by simp,by simp [Has],h⟩,hf,by simp⟩
theorem a2l {s:f6} {z o:O3}:Fr [] s ((s.push z).set s.next (some o)):=(Fr.push _).thenSet _ (.inr (Nat.le_refl _))
theorem GrL.lt {s0 s:f6} {R E:Hs} {d:D} {l:List Bool} (h:GrL s0 s R d l E) {id:Nat} (hm:id∈E.map Prod.fst):id<s.next:=by
 obtain ⟨e,he,h1⟩:=List.mem_map.1 hm
 rw [<- h1]
 exact M5 (h.hp.w e (by simp [he]))
theorem GrL.sub {s0 s:f6} {R R' E:Hs} {d:D} {l:List Bool} (h:GrL s0 s R d l E) (hr:∀x∈R',x∈R):GrL s0 s R' d l E :=
 ⟨h.rp,h.hp.sub (List.Sublist.refl _) hr,h.fr,h.nw⟩
theorem GrL.box {s0 s:f6} {R E:Hs} {d:D} {l:List Bool} (h:GrL s0 s R d l E) {z:O3} {cs:List D}:GrL s0 ((s.push z).set s.next (some (.cells cs))) ((s.next,cs)::R) d l E:=by
 have h2:=h.mv (a2l (z:=z) (o:=.cells cs))
 refine ⟨h.rp,h2.hp.addR1 (S0 (by simp)) fun w hw heq=>?_,h.fr.trans a2l (by simp),h.nw⟩
 have hw':w∈E:=by simpa using hw
 have:=h.lt (List.mem_map_of_mem hw')
 omega
theorem c28 {l:List Bool} {i:Nat}:bAt l i=aB l i:=rfl
attribute [go_sem] c28
def Rdr (s:f6) (r:Nat) (l:List Bool):Prop:=∃d,s.get r=some (.cells [d])/\FL 1 d (V1 l)
theorem Hp.frI {s s':f6} {W R:Hs} {ids:List Nat} (h:Hp s W R) (hf:Fr ids s s') (hn:∀w∈W++R,w.1∉ids):Hp s' W R :=
 ⟨h.nd,h.ap,fun w hw=>by rw [hf.2 _ (M5 (h.w w hw)) (hn w (by simp [hw])),h.w w hw],fun w hw=>by rw [hf.2 _ (M5 (h.r w hw)) (hn w (by simp [hw])),h.r w hw]⟩
structure GrZ (n0:Nat) (s:f6) (R:Hs) (d:D) (l:List Int) (E:Hs):Prop where
 rp:Rp d 1 (Y1 l) E
 hp:Hp s E R
 nw:∀e∈E,n0<=e.1
theorem GrZ.fr {n0:Nat} {s s':f6} {R E:Hs} {d:D} {l:List Int} {ids:List Nat} (h:GrZ n0 s R d l E) (hf:Fr ids s s') (h1:∀i∈ids,i<n0) (h2:∀x∈R,x.1∉ids):GrZ n0 s' R d l E :=
 ⟨h.rp,h.hp.frI hf fun w hw hi=>by
  rcases List.mem_append.1 hw with hw | hw
  ·have:=h.nw w hw
   have:=h1 _ hi
   omega
  ·exact h2 w hw hi,h.nw⟩
structure UnW (mcs:List D) (s:f6) (dA dV dC:D) (W:Hs):Prop where
 hp:Hp s ((3,[dA,dV,dC,.int .i64 0])::(1,[.nils,.nils,.nils,.int .i64 0])::W) [(0,mcs)]
 nw:∀e∈W,4<=e.1
theorem UnW.lt {mcs:List D} {s:f6} {dA dV dC:D} {W:Hs} (h:UnW mcs s dA dV dC W):3<s.next:=M5 (h.hp.w (3,[dA,dV,dC,.int .i64 0]) (by simp))
theorem UnW.fr {mcs:List D} {s s':f6} {dA dV dC:D} {W:Hs} {ids:List Nat} (h:UnW mcs s dA dV dC W) (hf:Fr ids s s') (hi:∀i∈ids,i=2):UnW mcs s' dA dV dC W :=
 ⟨h.hp.frI hf fun w hw hn=>by
  have:=hi _ hn
  simp only [List.cons_append,List.mem_cons,List.mem_append,List.not_mem_nil,or_false] at hw
  rcases hw with rfl | rfl | hw | rfl
  ·simp at this
  ·simp at this
  ·have:=h.nw w hw;omega
  ·simp at this,h.nw⟩
theorem Rdr.fr {s s':f6} {l:List Bool} {r:Nat} (h:Rdr s r l) (hf:Fr [] s s'):Rdr s' r l:=by
 obtain ⟨d,h1,h2⟩:=h
 exact ⟨d,by rw [hf.2 _ (M5 h1) (by simp),h1],h2⟩
end Go.V
namespace Go.Proofs.YtnjlhebkhjcagaaGreat
open Go.V
set_option maxRecDepth 100000
set_option maxHeartbeats 4000000
variable {m:MdX} {mo:Mo} {ps:List (Pr×PrD)} {x:StD} {st:Stt}
theorem c0x {s:f6} {id:Nat} {c:Ch} {n:Int} (hg:s.get id=some (.cells [.str c.name,.int .i64 c.room,.int .i64 c.width,.bool c.lossy,.bool c.copying])) (hn:a0w n) (h1:1<=c.width) (h2:c.width<=8) :
 EvP vfs 74 [.int .i64 n,.ptr id 0] s fun r s'=>r=.bool (!decide (O6 n c.width.toNat=n))/\s'=s:=by
 have hb:=b3l (x:=n) (w:=c.width.toNat) hn (by omega) (by omega)
 rw [Int.toNat_of_nonneg (by omega)] at hb
 refine Y5 (vf:=b07) rfl ?_
 unfold b07;refine zF ?_
 refine zY (aN hg hb) ?_
 exact ⟨rfl,rfl⟩
theorem c5v {s:f6} {id:Nat} {c:Ch} {d:D} {l:List Int} (hd:FI d l) (hll:l.length<=1000) (hg:s.get id=some (.cells [.str c.name,.int .i64 c.room,.int .i64 c.width,.bool c.lossy,.bool c.copying])) (hn:∀n∈l,a0w n/\O6 n c.width.toNat=n) (h1:1<=c.width) (h2:c.width<=8) :
 EvP vfs 99 [d,.fn 74 [.ptr id 0]] s fun r s'=>r=.int .i64 (-1)/\s'=s:=by
 refine Y5 (vf:=a8E) rfl ?_
 unfold a8E;refine zF ?_
 refine zY hd ?_
 refine P6 [0,1,7] 0 l.length (fun i f s'=>f 8=.int .i64 (i:Int)/\s'=s) (.mk rfl) (by omega) ⟨rfl,rfl⟩ ?_
 rintro i f s' hi ⟨hE,rfl⟩
 by_cases ci:i<l.length
 ·have hw:=hn _ (a7n ci)
  have hc:=c0x hg hw.1 h1 h2
  rw [hw.2] at hc
  refine zY (aN hE (aN hd ci)) ?_
  refine a67 rfl hc rfl ?_
  rintro r s2 ⟨rfl,rfl⟩
  refine zY (aN hE ci) ?_
  trivial
 ·refine zY (aN hE ci) ?_
  exact ⟨rfl,rfl⟩
theorem c2k {s:f6} {id:Nat} {c:Ch} {d:D} {l:List Int} (hd:FI d l) (hll:l.length<=1000) (hg:s.get id=some (.cells [.str c.name,.int .i64 c.room,.int .i64 c.width,.bool c.lossy,.bool c.copying])) (hn:∀n∈l,a0w n/\O6 n c.width.toNat=n) (h1:1<=c.width) (h2:c.width<=8) :
 EvP vfs 75 [d,.fn 74 [.ptr id 0]] s fun r s'=>r=.bool false/\s'=s:=by
 have hi:=c5v hd hll hg hn h1 h2
 refine Y5 (vf:=a87) rfl ?_
 unfold a87;refine zF ?_
 refine zY0 ?_
 refine a1J hi rfl ?_
 rintro r s2 ⟨rfl,rfl⟩
 refine zY0 ?_
 exact ⟨rfl,rfl⟩
structure a63 (mo:Mo) (x:StD) (st:Stt):Prop where
 f:StF x st
 e:St8 st
 fit:Fit mo { st with hold:=-1 }
 hd:a0w st.hold
theorem a74 (hm:MoF m mo ps) (ho:O4 mo) (hf:X8 mo) (hx:a63 mo x st):Eqc vfs 51 [.agg [m.dt,.int .i64 m.g,m.dc,m.dv,m.dp,m.ds,.bool m.b],.agg [x.da,x.dv,x.dc,.int .i64 st.hold]] (.bool (decide (-1<=st.hold/\st.hold<(mo.procs.length:Int)))):=by
 have om:=hm.ones
 have ox:=hx.f.ones
 have hxa:=hx.f.a
 have hxv:=hx.f.v
 have hxf:=hx.f
 have hmv:=hm.v
 have hmc:=hm.c
 have ea:st.at'.length=mo.procs.length:=hx.fit.at'
 have ev:st.vars.length=mo.vars.length:=hx.fit.vars
 have ec:st.chans.length=mo.chans.length:=hx.fit.chans
 have hnp:=ho.np
 have hnv:=ho.nv
 have hnc:=ho.nc
 refine P4 ?_
 refine N3 (vf:=a2A) rfl ?_
 unfold a2A;refine zF ?_
 refine zY (aN om (aN ox (aN ea (aN ev ec)))) ?_
 have g0:((f6.empty.push (.cells [m.dt,.int .i64 m.g,m.dc,m.dv,m.dp,m.ds,.bool m.b])).push (.cells [x.da,x.dv,x.dc,.int .i64 st.hold])).get 0=some (.cells [m.dt,.int .i64 m.g,m.dc,m.dv,m.dp,m.ds,.bool m.b]):=by simp (disch:=(first|exact Rf.mk rfl|with_reducible assumption|omega|((repeat (first|rw [nP]|rw [nS]|rw [M7]))<;>omega)|decide)) only [go_sem,↓reduceIte]
 have g1:((f6.empty.push (.cells [m.dt,.int .i64 m.g,m.dc,m.dv,m.dp,m.ds,.bool m.b])).push (.cells [x.da,x.dv,x.dc,.int .i64 st.hold])).get 1=some (.cells [x.da,x.dv,x.dc,.int .i64 st.hold]):=by simp (disch:=(first|exact Rf.mk rfl|with_reducible assumption|omega|((repeat (first|rw [nP]|rw [nS]|rw [M7]))<;>omega)|decide)) only [go_sem,↓reduceIte]
 generalize (f6.empty.push (.cells [m.dt,.int .i64 m.g,m.dc,m.dv,m.dp,m.ds,.bool m.b])).push (.cells [x.da,x.dv,x.dc,.int .i64 st.hold])=s0 at *
 refine P6 [0,1,2,3,7,8,9,10,11,12,37,39,40,60,61,62,63,75,78,79,80,81,100] 0 mo.procs.length (fun i f s=>f 41=.int .i64 (i:Int)/\s=s0) (.mk rfl) (by omega) ⟨rfl,rfl⟩ ?_
 rintro i f s hi ⟨hE,rfl⟩
 by_cases ci:i<mo.procs.length
 ·have ci':i<st.at'.length:=by omega
  have hpl:=hx.fit.pl i ci' ci
  have e1:¬ ((nAt st.at' i:Nat):Int)<0:=by omega
  have e2:nAt st.at' i<(pAt mo.procs i).places:=by rw [a3e ci',a19 ci];exact hpl
  have e3:¬ (pAt mo.procs i).places<=nAt st.at' i:=by omega
  exact zZ (aN hE (aN ci (aN ci' (aN g0 (aN g1 (aN om (aN ox (aN e1 (aN e2 e3)))))))))
 obtain rfl:i=mo.procs.length:=by omega
 refine zY (aN hE (aN ci (aN g0 (aN g1 (aN om (aN ox ev)))))) ?_
 refine P6 [0,1,2,3,5,6,9,10,11,12,37,39,40,41,42,57,60,61,78,79,80,81,100] 0 mo.vars.length (fun i f s'=>f 62=.int .i64 (i:Int)/\s'=s) (.mk rfl) (by omega) ⟨rfl,rfl⟩ ?_
 clear hi ci hE
 rintro i f s hi ⟨hE,rfl⟩
 by_cases ci:i<mo.vars.length
 ·have ci':i<st.vars.length:=by omega
  have hvr:O6 st.vars[i] mo.vars[i].width.toNat=st.vars[i]:=hx.fit.vr i ci' ci
  have h8:=hx.e.v _ (a7n ci')
  unfold I8 at h8
  have hw:=hf.vr _ (a4P ci)
  have hb:=b3l (x:=zAt st.vars i) (w:=(vAt mo.vars i).width.toNat) ⟨by omega,by omega⟩ (by omega) (by omega)
  rw [Int.toNat_of_nonneg (by omega),show O6 (zAt st.vars i) (vAt mo.vars i).width.toNat=zAt st.vars i by rw [a2v ci',a2p ci];exact hvr,decide_eq_true rfl] at hb
  exact zZ (aN hE (aN ci (aN ci' (aN g0 (aN g1 (aN om (aN ox hb)))))))
 obtain rfl:i=mo.vars.length:=by omega
 refine zY (aN hE (aN ci (aN g0 (aN g1 (aN om (aN ox ec)))))) ?_
 refine P6 [0,1,2,3,5,6,7,8,37,39,40,41,42,57,60,61,62,63,75,78,79] 0 mo.chans.length (fun i f s'=>f 80=.int .i64 (i:Int)/\s'.get 0=some (.cells [m.dt,.int .i64 m.g,m.dc,m.dv,m.dp,m.ds,.bool m.b])/\s'.get 1=some (.cells [x.da,x.dv,x.dc,.int .i64 st.hold])) (.mk rfl) (by omega) ⟨rfl,g0,g1⟩ ?_
 clear hi ci hE g0 g1
 rintro i f s hi ⟨hE,g0,g1⟩
 have l0:=M5 g0
 have l1:=M5 g1
 by_cases ci:i<mo.chans.length
 ·have ci':i<st.chans.length:=by omega
  have hcl:=hx.fit.cl i ci' ci
  have hcv:=hx.fit.cv i ci' ci
  have h8:=hx.e.c _ (b6O ci')
  have hw:=hf.ch _ (a47 ci)
  have e1:¬ (S4 mo.chans i).room<((cAt st.chans i).length:Int):=by
   have:((cAt st.chans i).length:Int)<=(S4 mo.chans i).room:=by rw [a2n ci',a2d ci];exact hcl
   omega
  have hn:∀n∈cAt st.chans i,a0w n/\O6 n (S4 mo.chans i).width.toNat=n:=fun n hn=>by
   have:=h8.2 n hn
   unfold I8 at this
   refine ⟨⟨by omega,by omega⟩,?_⟩
   rw [a2n ci'] at hn
   rw [a2d ci];exact hcv n hn
  have hco:=fun s2 id hg=>c2k (s:=s2) (id:=id) (c:=S4 mo.chans i) (b05 hxf ci') (by omega) hg hn hw.2.2.1 hw.2.2.2
  refine zY (aN hE (aN ci (aN ci' (aN g0 (aN g1 (aN om (aN ox e1))))))) ?_
  refine a1J (hco _ s.next (S0 (by simp))) rfl ?_
  rintro r s2 ⟨rfl,rfl⟩
  refine zY (aN hE (aN ci (aN g0 g1))) ?_
  trivial
 obtain rfl:i=mo.chans.length:=by omega
 have hh:=hx.hd
 by_cases c1:-1<=st.hold
 ·refine zY (aN hE (aN ci (aN g0 (aN g1 (aN om (aN ox c1)))))) ?_
  simp
 ·refine zY (aN hE (aN ci (aN g0 (aN g1 (aN om (aN ox c1)))))) ?_
  simp
end Go.Proofs.YtnjlhebkhjcagaaGreat
