/- Texts one behind the other. -/
import Derived.Test.YtnjlhebkhjcagaaGreatZ4
import Derived.Test.YtnjlhebkhjcagaaGreatZ3
import Derived.Test.YtnjlhebkhjcagaaGreatVt
import Derived.Test.YtnjlhebkhjcagaaGreatZ1
set_option linter.unusedSimpArgs false
set_option linter.unusedVariables false
namespace Go.Proofs.YtnjlhebkhjcagaaGreat
open Go.V
set_option maxRecDepth 100000
set_option maxHeartbeats 4000000
theorem b8I {i:Nat} (h:i<1000000000):IntKind.i64.wrap ((i:Int)+1)=((i+1:Nat):Int):=by rw [P1 (by omega) (by omega)];omega
theorem doR {s:k4} {a b:Int} {op w:Nat} (hop:op<5) (hw1:1<=w) (hw2:w<=16) (ha:-65536<=a) (ha':a<=65536) (hb:-65536<=b) (hb':b<=65536) :
 Ev vfs 72 [.int .i64 (op:Int),.int .i64 a,.int .i64 b,.int .i64 (w:Int)] s (.int .i64 (doZ op a b w)) s:=by
 have hwn:(w:Int)=min (max (w:Int) 1) 16:=by omega
 have hT:∀x:Int,-9223372036854775808<=x->x<9223372036854775808->Ev vfs 38 [.int .i64 x,.int .i64 (w:Int)] k4.empty (.int .i64 (N8 x w)) k4.empty:=fun x h1 h2=>b1z hwn ⟨h1,h2⟩
 refine a4D (vf:=a83) rfl ?_
 unfold a83;refine zE ?_
 have h3:op=0∨op=1∨op=2∨(3<=op):=by omega
 rcases h3 with h3 | h3 | h3 | h3
 ·have n0:((op:Int)==0)=true:=by rw [h3];rfl
  have n1:((op:Int)==1)=false:=by rw [h3];rfl
  have n2:((op:Int)==2)=false:=by rw [h3];rfl
  have hd:doZ op a b w=N8 (a+b) w:=by rw [h3];rfl
  rw [hd]
  have e:=P1 (n:=a+b) (by omega) (by omega)
  have hT:=hT (a+b) (by omega) (by omega)
  repeat first
  |(apply a1T hT rfl;(focus (simp only [Env.evL,Env.ev,Env.get,Nat.reduceEqDiff,↓reduceIte];rfl));(focus rfl))
  |refine zW (aN e (aN n0 (aN n1 n2))) ?_
  exact ⟨.inr trivial,trivial,rR⟩
 ·have n0:((op:Int)==0)=false:=by rw [h3];rfl
  have n1:((op:Int)==1)=true:=by rw [h3];rfl
  have n2:((op:Int)==2)=false:=by rw [h3];rfl
  have hd:doZ op a b w=N8 (a-b) w:=by rw [h3];rfl
  rw [hd]
  have e:=P1 (n:=a-b) (by omega) (by omega)
  have hT:=hT (a-b) (by omega) (by omega)
  repeat first
  |(apply a1T hT rfl;(focus (simp only [Env.evL,Env.ev,Env.get,Nat.reduceEqDiff,↓reduceIte];rfl));(focus rfl))
  |refine zW (aN e (aN n0 (aN n1 n2))) ?_
  exact ⟨.inr trivial,trivial,rR⟩
 ·have n0:((op:Int)==0)=false:=by rw [h3];rfl
  have n1:((op:Int)==1)=false:=by rw [h3];rfl
  have n2:((op:Int)==2)=true:=by rw [h3];rfl
  have hd:doZ op a b w=N8 (a*b) w:=by rw [h3];rfl
  rw [hd]
  have hm:-4294967296<=a*b/\a*b<=4294967296:=by
   have h1:(a*b).natAbs<=65536*65536:=by
    rw [Int.natAbs_mul]
    exact Nat.mul_le_mul (by omega) (by omega)
   omega
  have e:=P1 (n:=a*b) (by omega) (by omega)
  have hT:=hT (a*b) (by omega) (by omega)
  repeat first
  |(apply a1T hT rfl;(focus (simp only [Env.evL,Env.ev,Env.get,Nat.reduceEqDiff,↓reduceIte];rfl));(focus rfl))
  |refine zW (aN e (aN n0 (aN n1 n2))) ?_
  exact ⟨.inr trivial,trivial,rR⟩
 ·have n0:((op:Int)==0)=false:=by simp;omega
  have n1:((op:Int)==1)=false:=by simp;omega
  have n2:((op:Int)==2)=false:=by simp;omega
  by_cases hb0:b=0
  ·subst hb0
   have hd:doZ op a 0 w=0:=by
    match op,h3 with
    | 3,_=>rfl
    | n+4,_=>rfl
   rw [hd]
   try refine zW (aN n0 (aN n1 n2)) ?_
   exact ⟨.inr trivial,trivial,rR⟩
  ·have c0:(b==0)=false:=by simpa using hb0
   have hpb:0<b.natAbs:=by omega
   try refine zW (aN n0 (aN n1 (aN n2 c0))) ?_
   refine WP.mono (Q:=fun e env s1=>e=.normal/\s1=s/\(env.get 0=.int .i64 (op:Int)/\env.get 1=.int .i64 a/\env.get 2=.int .i64 b/\env.get 3=.int .i64 (w:Int)/\env.get 9=.int .i64 (a.natAbs:Int)/\env.get 10=.int .i64 b)) ?_ ?_
   ·by_cases h:a<0
    ·have b1:(a<0)=True:=eq_true h
     have e1:IntKind.i64.wrap (0-a)=(a.natAbs:Int):=by rw [P1 (by omega) (by omega)];omega
     try refine zW (aN b1 e1) ?_
     exact ⟨trivial,trivial,by simp [Env.get]⟩
    ·have b1:(a<0)=False:=eq_false h
     have e1:a=(a.natAbs:Int):=by omega
     try refine zW b1 ?_
     exact ⟨trivial,trivial,by simp [Env.get,<- e1]⟩
   rintro e env s1 ⟨rfl,rfl,hE⟩
   simp only [O7]
   try refine zW hE ?_
   refine WP.mono (Q:=fun e env s2=>e=.normal/\s2=s1/\(env.get 0=.int .i64 (op:Int)/\env.get 1=.int .i64 a/\env.get 2=.int .i64 b/\env.get 3=.int .i64 (w:Int)/\env.get 9=.int .i64 (a.natAbs:Int)/\env.get 10=.int .i64 (b.natAbs:Int))) ?_ ?_
   ·by_cases h:b<0
    ·have b1:(b<0)=True:=eq_true h
     have e1:IntKind.i64.wrap (0-b)=(b.natAbs:Int):=by rw [P1 (by omega) (by omega)];omega
     try refine zW (aN hE (aN b1 e1)) ?_
     exact ⟨trivial,trivial,by simp [Env.get,hE]⟩
    ·have b1:(b<0)=False:=eq_false h
     have e1:b=(b.natAbs:Int):=by omega
     try refine zW (aN hE b1) ?_
     exact ⟨trivial,trivial,by simp [Env.get,hE,<- e1]⟩
   clear hE
   rintro e env s2 ⟨rfl,rfl,hE⟩
   simp only [O7]
   try refine zW hE ?_
   have hab:a.natAbs<=65536:=by omega
   have hbb:b.natAbs<=65536:=by omega
   have ta:a.tdiv b=if (decide (a<0) != decide (b<0))=true then -((a.natAbs / b.natAbs:Nat):Int) else ((a.natAbs / b.natAbs:Nat):Int):=by
    have key:((a.natAbs / b.natAbs:Nat):Int)=((a.natAbs:Nat):Int).tdiv (b.natAbs:Nat):=rfl
    rw [key]
    by_cases h1:a<0<;>by_cases h2:b<0
    ·rw [decide_eq_true h1,decide_eq_true h2,if_neg (by decide),Int.ofNat_natAbs_of_nonpos (by omega),Int.ofNat_natAbs_of_nonpos (by omega),Int.neg_tdiv,Int.tdiv_neg];omega
    ·rw [decide_eq_true h1,decide_eq_false h2,if_pos (by decide),Int.ofNat_natAbs_of_nonpos (by omega),Int.natAbs_of_nonneg (by omega),Int.neg_tdiv];omega
    ·rw [decide_eq_false h1,decide_eq_true h2,if_pos (by decide),Int.natAbs_of_nonneg (by omega),Int.ofNat_natAbs_of_nonpos (by omega),Int.tdiv_neg];omega
    ·rw [decide_eq_false h1,decide_eq_false h2,if_neg (by decide),Int.natAbs_of_nonneg (by omega),Int.natAbs_of_nonneg (by omega)]
   have tm:a.tmod b=if a<0 then -((a.natAbs % b.natAbs:Nat):Int) else ((a.natAbs % b.natAbs:Nat):Int):=by
    have key:((a.natAbs % b.natAbs:Nat):Int)=((a.natAbs:Nat):Int).tmod (b.natAbs:Nat):=rfl
    have kb:∀x:Int,x.tmod (b.natAbs:Int)=x.tmod b:=fun x=>by
     rcases Int.natAbs_eq b with hb | hb
     ·rw [<- hb]
     ·have:x.tmod b=x.tmod (-b):=by rw [Int.tmod_neg]
      rw [this];congr 1;omega
    rw [key,kb]
    by_cases h1:a<0
    ·rw [if_pos h1,Int.ofNat_natAbs_of_nonpos (by omega),Int.neg_tmod];omega
    ·rw [if_neg h1,Int.natAbs_of_nonneg (by omega)]
   generalize a.natAbs=p at *
   generalize b.natAbs=r at *
   refine U2 (fun k env s3=>∃ (q t:Nat),p=q*r+t/\k=t/\s3=s2/\(env.get 0=.int .i64 (op:Int)/\env.get 1=.int .i64 a/\env.get 2=.int .i64 b/\env.get 3=.int .i64 (w:Int)/\env.get 10=.int .i64 (r:Int)/\env.get 11=.int .i64 (q:Int)/\env.get 12=.int .i64 (t:Int))) ?_ p _ _
    ⟨0,p,by omega,rfl,rfl,by simp [Env.get,hE]⟩
   clear hE
   rintro k env s3 ⟨q,t,hp,rfl,rfl,hE⟩
   have hql:q<=p:=by
    have:q*1<=q*r:=Nat.mul_le_mul_left q hpb
    omega
   by_cases hc:r<=k
   ·have c1:((r:Int)<=(k:Int))=True:=eq_true (by omega)
    have e1:IntKind.i64.wrap ((k:Int)-(r:Int))=((k-r:Nat):Int):=by rw [P1 (by omega) (by omega)];omega
    have e2:=b8I (i:=q) (by omega)
    try refine zW (aN hE (aN c1 (aN e1 e2))) ?_
    exact ⟨k-r,by omega,q+1,k-r,by rw [Nat.succ_mul];omega,rfl,trivial,(rG hE)⟩
   ·have c1:((r:Int)<=(k:Int))=False:=eq_false (by omega)
    have dq:p / r=q:=by
     rw [hp,Nat.mul_comm,Nat.mul_add_div hpb,Nat.div_eq_of_lt (by omega),Nat.add_zero]
    have dm:p % r=k:=by
     rw [hp,Nat.mul_comm,Nat.mul_add_mod,Nat.mod_eq_of_lt (by omega)]
    rw [dq] at ta
    rw [dm] at tm
    have hop':op=3∨op=4:=by omega
    rcases hop' with rfl | rfl
    ·have hd:doZ 3 a b w=N8 (a.tdiv b) w:=by simp only [doZ];rw [if_neg hb0]
     have n3:((3:Nat):Int)=3:=rfl
     rw [hd]
     by_cases hx:(decide (a<0) != decide (b<0))=true
     ·rw [if_pos hx] at ta
      rw [ta]
      have e1:IntKind.i64.wrap (0-(q:Int))=-(q:Int):=by rw [P1 (by omega) (by omega)];omega
      have hx':(!(decide (a<0)==decide (b<0)))=true:=hx
      have hT:=hT (-(q:Int)) (by omega) (by omega)
      repeat first
      |(apply a1T hT rfl;(focus (simp only [Env.evL,Env.ev,Env.get,Nat.reduceEqDiff,↓reduceIte,hE];rfl));(focus rfl))
      |refine zW (aN hE (aN c1 (aN n3 (aN hx' e1)))) ?_
      exact ⟨.inr trivial,trivial,rR⟩
     ·rw [if_neg hx] at ta
      rw [ta]
      have hx':(!(decide (a<0)==decide (b<0)))=false:=by simpa using hx
      have hT:=hT (q:Int) (by omega) (by omega)
      repeat first
      |(apply a1T hT rfl;(focus (simp only [Env.evL,Env.ev,Env.get,Nat.reduceEqDiff,↓reduceIte,hE];rfl));(focus rfl))
      |refine zW (aN hE (aN c1 (aN n3 hx'))) ?_
      exact ⟨.inr trivial,trivial,rR⟩
    ·have hd:doZ 4 a b w=N8 (a.tmod b) w:=by simp only [doZ];rw [if_neg hb0]
     have n3:(((4:Nat):Int)==3)=false:=rfl
     rw [hd]
     by_cases hx:a<0
     ·rw [if_pos hx] at tm
      rw [tm]
      have e1:IntKind.i64.wrap (0-(k:Int))=-(k:Int):=by rw [P1 (by omega) (by omega)];omega
      have hx':(a<0)=True:=eq_true hx
      have hT:=hT (-(k:Int)) (by omega) (by omega)
      repeat first
      |(apply a1T hT rfl;(focus (simp only [Env.evL,Env.ev,Env.get,Nat.reduceEqDiff,↓reduceIte,hE];rfl));(focus rfl))
      |refine zW (aN hE (aN c1 (aN n3 (aN hx' e1)))) ?_
      exact ⟨.inr trivial,trivial,rR⟩
     ·rw [if_neg hx] at tm
      rw [tm]
      have hx':(a<0)=False:=eq_false hx
      have hT:=hT (k:Int) (by omega) (by omega)
      repeat first
      |(apply a1T hT rfl;(focus (simp only [Env.evL,Env.ev,Env.get,Nat.reduceEqDiff,↓reduceIte,hE];rfl));(focus rfl))
      |refine zW (aN hE (aN c1 (aN n3 hx'))) ?_
      exact ⟨.inr trivial,trivial,rR⟩
theorem do8 {op:Nat} (hop:op<5) {a b:Int} (ha:I8 a) (hb:I8 b):Iso 72 [.int .i64 (op:Int),.int .i64 a,.int .i64 b,.int .i64 8] (.int .i64 (doZ op a b 8)):=by
 obtain ⟨a1,a2⟩:=ha
 obtain ⟨b1,b2⟩:=hb
 exact ⟨_,doR (w:=8) hop (by decide) (by decide) (by omega) (by omega) (by omega) (by omega)⟩
theorem c0x {b:Bool}:Iso 71 [.bool b] (.int .i64 (a2J b)):=by
 refine a1W ?_
 cases b
 ·refine M3 (vf:=a5f) rfl ?_
  unfold a5f;refine zE ?_
  try refine zW0 ?_
  exact ⟨.inr trivial,_,rR,rfl⟩
 ·refine M3 (vf:=a5f) rfl ?_
  unfold a5f;refine zE ?_
  try refine zW0 ?_
  exact ⟨.inr trivial,_,rR,rfl⟩
theorem c1x {m:MdX} {mo:Mo} {ps:List (Pr×PrD)} (hm:MoF m mo ps) (ho:P7 mo) {p:Nat} (hp:p<mo.procs.length) {w:ByteArray}:Iso 70 [.agg (N1 m),.int .i64 (p:Int),.str w] (.int .i64 (a2y (W7 mo.procs[p] w))):=by
 refine a1W ?_
 have om:=hm.ones
 have hpo:=ho.pr _ (List.getElem_mem hp)
 obtain ⟨x,hx,hxi⟩:=hm.proc hp
 have hxi:=hxi .i64
 have hlp:=hm.lenP
 have ox:=hx.ones
 have hln:=hx.lenN
 have hnl:=hpo.nl
 have hnv:=ho.nv
 have hsm:=hpo.same
 have p1:((0:Int)<=(p:Int))=True:=eq_true (by omega)
 have p2:((p:Int)<(mo.procs.length:Int))=True:=eq_true (by omega)
 generalize mo.procs[p]=P at *
 unfold t3 at hxi
 unfold N1
 refine M3 (vf:=a4R) rfl ?_
 unfold a4R;refine zE ?_
 try refine zW (aN om (aN hlp (aN hxi (aN ox (aN p1 p2))))) ?_
 refine U2 (Q:=M9 0 _) (fun n env s=>∃i:Nat,i<=P.names.length/\n=P.names.length-i/\s.get 1=some (.cells [.str P.name,.int .i64 (P.copy:Int),x.dl,.int .i64 (P.places:Int),x.dr,x.de,x.dn,x.dv])/\(∀j (hj:j<P.names.length),j<i->P.names[j]≠w)/\(env.get 2=.str w/\env.get 7=.ptr 1 0/\env.get 8=.int .i64 (i:Int))) ?_ P.names.length _ _ ⟨0,by omega,rfl,rfl,fun j _ h=>by omega,by simp [Env.get,O2.at];rfl⟩
 rintro n env s ⟨i,hi,rfl,hg,hall,hE⟩
 by_cases c3:i<P.names.length
 ·have c3':((i:Int)<(P.names.length:Int))=True:=eq_true (by omega)
  have hs1:IntKind.i64.wrap ((i:Int)+1)=((i+1:Nat):Int):=by rw [P1 (by omega) (by omega)];omega
  have hidx:=FLS.idx hx.n c3 (k:=.i64)
  by_cases c4:P.names[i]=w
  ·have c4':decide (P.names[i]=w)=true:=by simp [c4]
   have hvi:i<P.vars.length:=by omega
   have hidv:=FLN.idx hx.v hvi (k:=.i64)
   have e:a2y (W7 P w)=(P.vars[i]:Int):=by
    unfold W7
    rw [a5s c3 c4 hall,if_pos c3]
    simp [a2y,List.getD,hvi]
   rw [e]
   try refine zW (aN hE (aN hg (aN ox (aN hln (aN c3' (aN hidx (aN c4' hidv))))))) ?_
   exact ⟨.inr trivial,_,rR,rfl⟩
  ·have c4':decide (P.names[i]=w)=false:=by simp [c4]
   try refine zW (aN hE (aN hg (aN ox (aN hln (aN c3' (aN hidx (aN c4' hs1))))))) ?_
   refine ⟨P.names.length-(i+1),by omega,i+1,by omega,rfl,hg,fun j hj hji=>?_,(rG hE)⟩
   by_cases ej:j=i
   ·subst ej;exact c4
   ·exact hall j hj (by omega)
 ·have c3':((i:Int)<(P.names.length:Int))=False:=eq_false (by omega)
  have e:a2y (W7 P w)=-1:=by
   unfold W7
   rw [if_neg (a5r fun j hj=>hall j hj (by omega))]
   rfl
  rw [e]
  try refine zW (aN hE (aN hg (aN ox (aN hln c3')))) ?_
  exact ⟨.inr trivial,_,rR,rfl⟩
theorem b8P {m:MdX} {mo:Mo} {ps:List (Pr×PrD)} (hm:MoF m mo ps) (ho:P7 mo) {w:ByteArray}:Iso 70 [.agg (N1 m),.int .i64 (-1),.str w] (.int .i64 (a2y (a0s mo w))):=by
 refine a1W ?_
 have om:=hm.ones
 have hnv:=ho.nv
 have hgl:=ho.gl
 have hmg:=hm.g
 unfold N1
 rw [hmg]
 have hll:((mo.vars.take mo.globals).map Vr.name).length=mo.globals:=by simp;omega
 refine M3 (vf:=a4R) rfl ?_
 unfold a4R;refine zE ?_
 try refine zW om ?_
 refine U2 (Q:=M9 2 _) (fun n env s=>∃i:Nat,i<=mo.globals/\n=mo.globals-i/\s.get 0=some (.cells [m.dt,.int .i64 (mo.globals:Int),m.dc,m.dv,m.dp,m.ds,.bool m.b])/\(∀j (hj:j<mo.vars.length),j<i->mo.vars[j].name≠w)/\(env.get 2=.str w/\env.get 3=.ptr 0 0/\env.get 9=.int .i64 (i:Int))) ?_ mo.globals _ _ ⟨0,by omega,rfl,rfl,fun j _ h=>by omega,by simp [Env.get,O2.at];rfl⟩
 rintro n env s ⟨i,hi,rfl,hg,hall,hE⟩
 by_cases c3:i<mo.globals
 ·have c3':((i:Int)<(mo.globals:Int))=True:=eq_true (by omega)
  have hs1:IntKind.i64.wrap ((i:Int)+1)=((i+1:Nat):Int):=by rw [P1 (by omega) (by omega)];omega
  have hiv:i<mo.vars.length:=by omega
  have hidx:=FLV.idx hm.v hiv (k:=.i64)
  unfold Vr.row at hidx
  by_cases c4:mo.vars[i].name=w
  ·have c4':decide (mo.vars[i].name=w)=true:=by simp [c4]
   have e:a2y (a0s mo w)=(i:Int):=by
    unfold a0s
    have hil:i<((mo.vars.take mo.globals).map Vr.name).length:=by omega
    rw [a5s hil (by simpa using c4) (fun j hj hji=>by simpa using hall j (by simp at hj;omega) hji),if_pos c3]
    rfl
   rw [e]
   try refine zW (aN hE (aN hg (aN om (aN c3' (aN hidx c4'))))) ?_
   exact ⟨.inr trivial,_,rR,rfl⟩
  ·have c4':decide (mo.vars[i].name=w)=false:=by simp [c4]
   try refine zW (aN hE (aN hg (aN om (aN c3' (aN hidx (aN c4' hs1)))))) ?_
   refine ⟨mo.globals-(i+1),by omega,i+1,by omega,rfl,hg,fun j hj hji=>?_,(rG hE)⟩
   by_cases ej:j=i
   ·subst ej;exact c4
   ·exact hall j hj (by omega)
 ·have c3':((i:Int)<(mo.globals:Int))=False:=eq_false (by omega)
  have e:a2y (a0s mo w)=-1:=by
   unfold a0s
   have:=a5r (l:=(mo.vars.take mo.globals).map Vr.name) (w:=w) (fun j hj=>by simpa using hall j (by simp at hj;omega) (by simp at hj;omega))
   rw [hll] at this
   rw [if_neg this]
   rfl
  rw [e]
  try refine zW (aN hE (aN hg (aN om c3'))) ?_
  exact ⟨.inr trivial,_,rR,rfl⟩
end Go.Proofs.YtnjlhebkhjcagaaGreat
namespace Go.V
variable {fs:FuncId->Option t5}
structure Ent where
 i:Nat
 rd:Option Nat
 eff:List Nat
structure TrE (n:Nat) (e:Ent) (t:Tr):Prop where
 i:t.idx=e.i
 rd:t.rd=e.rd
 ef:∀id,id∉e.eff->t.pre.get id=t.post.get id
 lt:∀id,e.rd=some id->id<n
def TrM (n:Nat) (T:List Ent) (tr:List Tr):Prop:=∀t∈tr,(t.rd=none/\∀id,t.pre.get id=t.post.get id)∨∃e∈T,TrE n e t
def WX (fs:FuncId->Option t5) (pairs:List (Nat×Nat)) (T:List Ent) (ops:List (Nat×O3)) (env:Env) (s:k4) (Q:Env->k4->Prop):Prop:=∀tr,TrM s.next T tr->WO fs pairs ops tr env s Q
theorem b6U {vars ops p pairs dr env s Q} (h:WX fs (p::pairs) [] ops env s fun env' s'=>Q .normal (env'.keep vars) s'):WP fs vars (.region ⟨ops,p::pairs,dr⟩) env s Q:=a9n (h [] (by simp [TrM]))
theorem a6B {a b:k4} {r:Option Nat} (h:∀id,r=some id->a.get id=b.get id):X3 a b r=true:=by
 cases r with
 | none=>rfl
 | some id=>simp only [X3];rw [h id rfl];exact a4V _
def a9W (pairs:List (Nat×Nat)) (T:List Ent) (i:Nat) (r:Option Nat) (E:List Nat):Prop:=∀e∈T,(e.i,i)∈pairs->(∀id,e.rd=some id->id∉E)/\∀id,r=some id->id∉e.eff
theorem a9i {pairs:List (Nat×Nat)} {T:List Ent} {n:Nat} {j:Tr} {E:List Nat} (hE:∀id,id∉E->j.pre.get id=j.post.get id) (hf:a9W pairs T j.idx j.rd E):∀ {tr:List Tr},TrM n T tr->a0b pairs j tr=true
 | [],_=>rfl
 | t::r,h=>by
   have ih:=a9i hE hf (tr:=r) fun x hx=>h x (by simp [hx])
   rcases h t (by simp) with ⟨k1,k2⟩ | ⟨e,he,k⟩
   ·have s1:X3 j.pre j.post t.rd=true:=by rw [k1];rfl
    have s2:X3 t.pre t.post j.rd=true:=a6B fun id _=>k2 id
    simp only [a0b,s1,s2,Bool.and_self,ite_self,Bool.true_and,ih]
   by_cases hc:(t.idx,j.idx)∈pairs
   ·rw [k.i] at hc
    obtain ⟨f1,f2⟩:=hf e he hc
    have s1:X3 j.pre j.post t.rd=true:=a6B fun id hid=>hE id (f1 id (by rw [<- k.rd];exact hid))
    have s2:X3 t.pre t.post j.rd=true:=a6B fun id hid=>k.ef id (f2 id hid)
    simp only [a0b,s1,s2,Bool.and_self,ite_self,Bool.true_and,ih]
   ·have hc':pairs.contains (t.idx,j.idx)=false:=by rw [Bool.eq_false_iff];intro h';rw [List.contains_iff_mem] at h';exact hc h'
    simp only [a0b,hc',Bool.false_eq_true,if_false,Bool.true_and,ih]
theorem TrM.grow {n m:Nat} {T:List Ent} {tr:List Tr} (h:TrM n T tr) (hm:n<=m) (e:Ent):TrM m (e::T) tr:=fun t ht=>by
 rcases h t ht with k | ⟨e',h1,h2⟩
 ·exact .inl k
 ·exact .inr ⟨e',by simp [h1],h2.i,h2.rd,h2.ef,fun id hid=>Nat.lt_of_lt_of_le (h2.lt id hid) hm⟩
theorem a7w {pairs T i o rest env s Q} (hw:Z7 env o.guard=some true) {d s'} {E:List Nat} (m:Nat) (hr:O8 (a0k fs (O4 fs m)) env s o.op=some (d,s')) (hE:∀id,id∉E->s.get id=s'.get id) (hn:s.next<=s'.next) (hl:∀id,V7 env o.op=some id->id<s.next) (hf:a9W pairs T i (V7 env o.op) E)
 (h:WX fs pairs (⟨i,V7 env o.op,E⟩::T) rest (env.put o.dst d) s' Q):WX fs pairs T ((i,o)::rest) env s Q:=by
 intro tr ht
 refine a1p hw m hr (a9i (j:=⟨i,V7 env o.op,s,s'⟩) hE hf ht) (h _ ?_)
 split
 ·exact ht.grow hn _
 ·intro t hm
  rcases List.mem_cons.1 hm with rfl | hm
  ·exact .inr ⟨⟨i,V7 env o.op,E⟩,by simp,rfl,rfl,hE,fun id hid=>Nat.lt_of_lt_of_le (hl id hid) hn⟩
  ·exact ht.grow hn _ t hm
theorem b5V {pairs:List (Nat×Nat)} {T:List Ent} {i:Nat}:a9W pairs T i none []:=fun e _ _=>⟨by simp,by simp⟩
theorem a8k {pairs T i o rest env s Q} (hw:Z7 env o.guard=some true) {d} (m:Nat) (hr:O8 (a0k fs (O4 fs m)) env s o.op=some (d,s)) (hn:V7 env o.op=none) (h:WX fs pairs T rest (env.put o.dst d) s Q):WX fs pairs T ((i,o)::rest) env s Q:=by
 intro tr ht
 refine a1p hw m hr (a9i (E:=[]) (fun _ _=>rfl) (by rw [hn];exact b5V) ht) (h _ ?_)
 split
 ·exact ht
 ·intro t hm
  rcases List.mem_cons.1 hm with rfl | hm
  ·exact .inl ⟨hn,fun _=>rfl⟩
  ·exact ht t hm
theorem c3y {pairs T env s Q} (h:Q env s):WX fs pairs T [] env s Q:=fun _ _=>b04 h
theorem b3Q {pairs T i o rest env s Q} (hw:Z7 env o.guard=some false) (h:WX fs pairs T rest (env.put o.dst (.tup [])) s Q):WX fs pairs T ((i,o)::rest) env s Q:=fun tr ht=>b0z hw (h tr ht)
theorem b86 {pairs T i t o rest s Q} {env:Env} {d:D} (hr:evP env o=some d) (h:WX fs pairs T rest ((t,d)::env) s Q):WX fs pairs T ((i,⟨some t,.p o,none⟩)::rest) env s Q :=
 a8k rfl 0 (by simp only [O8,hr,Option.map_some]) rfl h
theorem b7E {pairs T i t n x rest s Q} {env:Env} {d:D} {cs:List D} {off:Nat} (hx:env.ev x=.fp cs off) (hr:ldV s.get n (.fp cs off)=some d) (h:WX fs pairs T rest ((t,d)::env) s Q):WX fs pairs T ((i,⟨some t,.r (.load n x),none⟩)::rest) env s Q :=
 a8k rfl 0 (by simp only [O8,a4F,hx,hr,Option.map_some]) (by simp only [V7,rdR,hx]) h
theorem c28 {pairs T i t n x rest s Q} {env:Env} {d:D} {id off:Nat} (hx:env.ev x=.ptr id off) (hr:ldV s.get n (.ptr id off)=some d) (hf:∀e∈T,(e.i,i)∈pairs->id∉e.eff) (h:WX fs pairs (⟨i,some id,[]⟩::T) rest ((t,d)::env) s Q):WX fs pairs T ((i,⟨some t,.r (.load n x),none⟩)::rest) env s Q:=by
 have hrd:V7 env (.r (.load n x))=some id:=by simp only [V7,rdR,hx]
 have hlt:id<s.next:=by
  simp only [ldV] at hr
  cases hg:s.get id with
  | none=>rw [hg] at hr;cases hr
  | some o=>exact M1 hg
 refine a7w (E:=[]) rfl 0 (d:=d) (s':=s) (by simp only [O8,a4F,hx,hr,Option.map_some]) (fun _ _=>rfl) (Nat.le_refl _) ?_ ?_ ?_
 ·intro j hj
  simp only [hrd,Option.some.injEq] at hj
  subst hj;exact hlt
 ·simp only [hrd]
  intro e he hp
  refine ⟨by simp,fun j hj=>?_⟩
  simp only [Option.some.injEq] at hj
  subst hj
  exact hf e he hp
 ·simp only [hrd];exact h
theorem b5n {pairs T i t o rest s Q} {env:Env} {ob:N4} {m:O2} (hr:evA env o=some (ob,m)) (h:WX fs pairs (⟨i,none,[s.next]⟩::T) rest ((t,m.at s.next)::env) (s.push ob) Q):WX fs pairs T ((i,⟨some t,.a o,none⟩)::rest) env s Q:=by
 intro tr ht
 have hE:∀id,id∉[s.next]->s.get id=(s.push ob).get id:=fun id hid=>by
  rw [k4.get_push,if_neg (by simpa using hid)]
 refine a1p rfl 0 (d:=m.at s.next) (s':=s.push ob) (by simp only [O8,hr]) ?_ (h _ ?_)
 ·have key:∀ {tr:List Tr},TrM s.next T tr->a0b pairs ⟨i,none,s,s.push ob⟩ tr=true:=by
   intro tr
   induction tr with
   | nil=>intro _;rfl
   | cons x r ih =>
     intro hx
     have ih:=ih fun y hy=>hx y (by simp [hy])
     have s1:X3 s (s.push ob) x.rd=true:=by
      rcases hx x (by simp) with ⟨k1,_⟩ | ⟨e,_,k⟩
      ·rw [k1];rfl
      ·refine a6B fun id hid=>hE id ?_
       have:=k.lt id (by rw [<- k.rd];exact hid)
       simp only [List.mem_singleton];omega
     have s2:X3 x.pre x.post none=true:=rfl
     simp only [a0b,s1,s2,Bool.and_self,ite_self,Bool.true_and,ih]
  exact key ht
 ·have hn:s.next<=(s.push ob).next:=by simp
  split
  ·exact ht.grow hn _
  ·intro x hm
   rcases List.mem_cons.1 hm with rfl | hm
   ·exact .inr ⟨⟨i,none,[s.next]⟩,by simp,rfl,rfl,hE,by simp⟩
   ·exact ht.grow hn _ x hm
theorem b6R {pairs T i n a v rest s Q} {env:Env} {id off:Nat} {ob:N4} (hx:env.ev a=.ptr id off) (hr:evW env s.get n a v=some (id,ob)) (hf:∀e∈T,(e.i,i)∈pairs->e.rd≠some id/\id∉e.eff) (h:WX fs pairs (⟨i,some id,[id]⟩::T) rest env (s.set id (some ob)) Q):WX fs pairs T ((i,⟨none,.w n a v,none⟩)::rest) env s Q:=by
 have hrd:V7 env (.w n a v)=some id:=by simp only [V7,rdW,hx]
 have hlt:id<s.next:=by
  simp only [evW,hx] at hr
  cases hg:s.get id with
  | none=>rw [hg] at hr;cases hr
  | some o=>exact M1 hg
 refine a7w (E:=[id]) rfl 0 (d:=.tup []) (s':=s.set id (some ob)) (by simp only [O8,hr]) (fun j hj=>by rw [O0 (by simpa using hj)]) (by simp) ?_ ?_ ?_
 ·intro j hj
  simp only [hrd,Option.some.injEq] at hj
  subst hj;exact hlt
 ·simp only [hrd]
  intro e he hp
  obtain ⟨f1,f2⟩:=hf e he hp
  refine ⟨fun j hj hm=>?_,fun j hj=>?_⟩
  ·simp only [List.mem_singleton] at hm
   subst hm
   exact f1 hj
  ·simp only [Option.some.injEq] at hj
   subst hj
   exact f2
 ·simp only [hrd];exact h
theorem c2x {pairs T i t o rest s Q} {env:Env} {d:D} {s':k4} {E:List Nat} (hr:∃n,evM (a0k fs (O4 fs n)) env s o=some (d,s')) (hE:∀id,id∉E->s.get id=s'.get id) (hn:s.next<=s'.next) (hf:∀e∈T,(e.i,i)∈pairs->∀id,e.rd=some id->id∉E)
 (h:WX fs pairs (⟨i,none,E⟩::T) rest ((t,d)::env) s' Q):WX fs pairs T ((i,⟨some t,.m o,none⟩)::rest) env s Q:=by
 obtain ⟨n,hn'⟩:=hr
 refine a7w (E:=E) rfl n (d:=d) (s':=s') (by simp only [O8];exact hn') hE hn (by intro id hid;simp [V7] at hid) (fun e he hp=>⟨hf e he hp,by intro id hid;simp [V7] at hid⟩) h
theorem c3a {pairs T i t f args rest s Q} {env:Env} {l l':List D} {d r:D} {s1:k4} (hl:env.evL args=l) (ha:M6 (ice s.get 20) l=some l')
 (hr:Ev fs f l' k4.empty r s1) (hi:ice s1.get 20 r=some d) (hs:(Z6 d||pureL l)=true)
 (h:WX fs pairs T rest ((t,d)::env) s Q):WX fs pairs T ((i,⟨some t,.m (.call .iso (.cst (.fn f [])) args),none⟩)::rest) env s Q:=by
 subst hl
 obtain ⟨n,hn⟩:=hr
 have hn':a0k fs (O4 fs n) f l' k4.empty=some (r,s1):=hn
 exact a8k rfl n (by simp only [O8,evM,a06,Env.ev,List.append_nil,ha,hn',hi,hs,if_true]) rfl h
end Go.V
namespace Go.V
def b9L (σ:Nat->Nat) (v:Int):Int:=if 0<=v then ((σ v.toNat:Nat):Int) else v
def b2J (σ:Nat->Nat) (e:Ed):Ed:={ e with var:=b9L σ e.var }
def ren (σ:Nat->Nat) (l:List Nat) (c:Nat) (p:Pr):Pr:={ p with copy:=c,locals:=l,vars:=p.vars.map σ,edges:=p.edges.map (b2J σ) }
variable {σ:Nat->Nat} {l:List Nat} {c:Nat}
def c17 (g d:Nat) (v:Nat):Nat:=if v<g then v else v+d
end Go.V
namespace Go.V
def a3V (mo:Mo) (p:Pr) (e:Ed):Ft:=if 0<=e.expr then Y0 mo.tree (mo.chans.map Ch.name) (a0w p.names p.vars) (mo.tree.length+1) e.expr.toNat ⟨0,0,0,0,0,false⟩ else ⟨0,0,0,0,0,false⟩
def a5a (e:Ed) (f:Ft):Ft :=
 if e.act=1 then { f with writes:=Y3 e.var }
 else if e.act=2 then { f with sends:=Y3 e.chan }
 else if e.act=3 then { f with writes:=Y3 e.var,recvs:=Y3 e.chan } else f
theorem a6u (mo:Mo) (p:Pr) (e:Ed):O6 mo p e=a5a e (a3V mo p e):=rfl
end Go.V
namespace Go.V
theorem b2y {α:Type} {P:List α->Prop} (h0:P []) (h1:∀l a,P l->P (l++[a])):∀l,P l:=by
 intro l
 have:∀r:List α,P r.reverse:=by
  intro r
  induction r with
  | nil=>exact h0
  | cons a r ih=>rw [List.reverse_cons];exact h1 _ _ ih
 have h:=this l.reverse
 rwa [List.reverse_reverse] at h
def a9t:Nat->List (Nat×Nat)->List Nat
 | _,[]=>[]
 | k,p::r=>if p=(0,0)/\0<k then k::a9t (k+1) r else a9t (k+1) r
structure Gr.WF (G:Gr):Prop where
 pos:G.nodes[0]?=some (0,0)
 nodes:∀ (n:Nat) (p:Nat×Nat),G.nodes[n]?=some p->p=(0,0)∨(2<=p.1/\p.1<p.2/\p.2<2*n)
 ins:G.ins=a9t 0 G.nodes
 known:∀ (p:Nat×Nat) (n:Nat),find p G.known=some n↔p≠(0,0)/\G.nodes[n]?=some p
theorem Gr.WF.len {G:Gr} (h:G.WF):0<G.nodes.length:=by
 have:=h.pos
 rcases Nat.eq_zero_or_pos G.nodes.length with h0 | h0
 ·rw [List.getElem?_eq_none (by omega)] at this;cases this
 ·exact h0
theorem Gr.WF.lt {G:Gr} (h:G.WF):∀p n,find p G.known=some n->n<G.nodes.length:=by
 intro p n hf
 have:=(h.known p n).1 hf
 rcases Nat.lt_or_ge n G.nodes.length with h1 | h1
 ·exact h1
 ·rw [List.getElem?_eq_none h1] at this;cases this.2
def evL (vs:List Bool) (e:Nat):Bool:=vs.getD (e / 2) false != (e % 2==1)
def a7R (m:List Bool) (st:List Bool×Nat) (p:Nat×Nat):List Bool×Nat :=
 if p=(0,0) then (if st.1.length=0 then (st.1++[false],st.2) else (st.1++[m.getD st.2 false],st.2+1))
 else (st.1++[evL st.1 p.1&&evL st.1 p.2],st.2)
def a6W (m:List Bool) (nodes:List (Nat×Nat)):List Bool×Nat:=nodes.foldl (a7R m) ([],0)
def vals (m:List Bool) (nodes:List (Nat×Nat)):List Bool:=(a6W m nodes).1
def Gr.ev (G:Gr) (m:List Bool) (e:Nat):Bool:=evL (vals m G.nodes) e
theorem c3s (m:List Bool) (l:List (Nat×Nat)) (p:Nat×Nat):a6W m (l++[p])=a7R m (a6W m l) p:=by simp [a6W,List.foldl_append]
theorem b0K (m:List Bool) (l:List (Nat×Nat)) (p:Nat×Nat):∃v,vals m (l++[p])=vals m l++[v]:=by
 simp only [vals,c3s,a7R]
 split
 ·split<;>exact ⟨_,rfl⟩
 ·exact ⟨_,rfl⟩
theorem b7U (m:List Bool) (l k:List (Nat×Nat)):∃t,vals m (l++k)=vals m l++t:=by
 induction k using b2y with
 | h0=>exact ⟨[],by simp⟩
 | h1 k p ih =>
   obtain ⟨t,ht⟩:=ih
   obtain ⟨v,hv⟩:=b0K m (l++k) p
   exact ⟨t++[v],by rw [<- List.append_assoc,hv,ht,List.append_assoc]⟩
theorem b5B (m:List Bool) (l:List (Nat×Nat)):(vals m l).length=l.length:=by
 induction l using b2y with
 | h0=>rfl
 | h1 l p ih =>
   obtain ⟨v,hv⟩:=b0K m l p
   rw [hv];simp [ih]
theorem b7t {l t:List Bool} {e:Nat} (h:e / 2<l.length):evL (l++t) e=evL l e:=by
 simp only [evL]
 congr 1
 simp [List.getD,List.getElem?_append_left h]
def Gr.Ext (G G':Gr):Prop:=∃l,G'.nodes=G.nodes++l
theorem Gr.Ext.refl (G:Gr):Gr.Ext G G:=⟨[],by simp⟩
theorem Gr.Ext.trans {A B C:Gr} (h:Gr.Ext A B) (k:Gr.Ext B C):Gr.Ext A C:=by
 obtain ⟨l,hl⟩:=h
 obtain ⟨r,hr⟩:=k
 exact ⟨l++r,by rw [hr,hl,List.append_assoc]⟩
theorem Gr.Ext.le {G G':Gr} (h:Gr.Ext G G'):G.nodes.length<=G'.nodes.length:=by
 obtain ⟨l,hl⟩:=h
 rw [hl];simp
theorem Gr.Ext.ev {G G':Gr} (h:Gr.Ext G G') {m:List Bool} {e:Nat} (he:e<2*G.nodes.length):G'.ev m e=G.ev m e:=by
 obtain ⟨l,hl⟩:=h
 obtain ⟨t,ht⟩:=b7U m G.nodes l
 simp only [Gr.ev,hl,ht]
 exact b7t (by rw [b5B];omega)
theorem Gr.Ext.get {G G':Gr} (h:Gr.Ext G G') {n:Nat} {p:Nat×Nat} (hp:G.nodes[n]?=some p):G'.nodes[n]?=some p:=by
 obtain ⟨l,hl⟩:=h
 rw [hl,List.getElem?_append_left,hp]
 rcases Nat.lt_or_ge n G.nodes.length with h1 | h1
 ·exact h1
 ·rw [List.getElem?_eq_none h1] at hp;cases hp
structure Gr.Ok (G G':Gr) (k:Nat):Prop where
 wf:G'.WF
 ext:Gr.Ext G G'
 len:G'.nodes.length<=G.nodes.length+k
 one:G.nodes.length=1->G'.nodes.length=1
 ins:G'.ins=G.ins
theorem Gr.Ok.refl {G:Gr} (h:G.WF):Gr.Ok G G 0:=⟨h,Gr.Ext.refl G,by omega,fun h=>h,rfl⟩
theorem Gr.Ok.trans {A B C:Gr} {j k:Nat} (h:Gr.Ok A B j) (l:Gr.Ok B C k):Gr.Ok A C (j+k):=⟨l.wf,h.ext.trans l.ext,by have:=h.len;have:=l.len;omega,fun e=>l.one (h.one e),l.ins.trans h.ins⟩
theorem Gr.Ok.weaken {A B:Gr} {j k:Nat} (h:Gr.Ok A B j) (l:j<=k):Gr.Ok A B k:=⟨h.wf,h.ext,by have:=h.len;omega,h.one,h.ins⟩
theorem Gr.and_again {G G':Gr} (h:G.WF) {a b:Nat} (hx:Gr.Ext (G.and a b).2 G') (hw:G'.WF):G'.and b a=((G.and a b).1,G'):=by
 unfold Gr.and at *
 rw [Nat.min_comm b a,Nat.max_comm b a]
 by_cases h1:min a b=0∨min a b=b2F (max a b)
 ·simp only [if_pos h1]
 ·by_cases h2:min a b=1∨min a b=max a b
  ·simp only [if_neg h1,if_pos h2]
  ·have hp:(min a b,max a b)≠(0,0):=by
    intro he
    simp only [Prod.mk.injEq] at he
    exact h1 (.inl he.1)
   simp only [if_neg h1,if_neg h2] at hx ⊢
   cases hf:find (min a b,max a b) G.known with
   | some n =>
     simp only [hf] at hx ⊢
     have hk:=(h.known _ _).1 hf
     rw [(hw.known _ _).2 ⟨hp,hx.get hk.2⟩]
   | none =>
     simp only [hf] at hx ⊢
     rw [(hw.known (min a b,max a b) G.nodes.length).2 ⟨hp,hx.get (by simp)⟩]
def Gr.new:Gr:=⟨[(0,0)],[],[]⟩
def Gr.Laid (G:Gr) (a b e:Nat):Prop:=∀G',Gr.Ext G G'->G'.WF->G'.and b a=(e,G')
theorem Gr.laid {G:Gr} (h:G.WF) (a b:Nat):Gr.Laid (G.and a b).2 a b (G.and a b).1:=fun _ hx hw=>Gr.and_again h hx hw
theorem Gr.Laid.mono {G G':Gr} {a b e:Nat} (h:Gr.Laid G a b e) (hx:Gr.Ext G G'):Gr.Laid G' a b e:=fun G'' hx' hw=>h G'' (hx.trans hx') hw
def RdF (s:k4) (ids:List Nat) (d:D) (l:List D):Prop:=Rd s d l/\∀id off n,d=.arr id off n 1->id∉ids
theorem RdF.fr {s s':k4} {ids ids':List Nat} {d:D} {l:List D} (h:RdF s ids d l) (hf:Fr ids s s') (hm:∀i∈ids',i∈ids∨s.next<=i):RdF s' ids' d l:=by
 obtain ⟨h1,h2⟩:=h
 have lt:∀id off n,d=.arr id off n 1->id<s.next:=by
  rintro id off n rfl
  rcases h1 with ⟨h,_⟩ | h | ⟨id',off',cs,h,hg,_⟩
  ·cases h
  ·cases h
  ·cases h;exact M1 hg
 refine ⟨h1.stay fun id off n hd=>hf.2 id (lt id off n hd) (h2 id off n hd),fun id off n hd hc=>?_⟩
 rcases hm id hc with h | h
 ·exact h2 id off n hd h
 ·have:=lt id off n hd;omega
theorem RdF.step {s s':k4} {g:Nat} {ids ids':List Nat} {G':Gr} {d:D} {l:List D} (h:RdF s ids d l) (hs:a1h s g ids s' G' ids'):RdF s' ids' d l:=h.fr hs.2.1 hs.2.2
theorem RdF.newer {s s':k4} {ids:List Nat} {d:D} {l:List D} (h:RdF s ids d l) (hf:Fr [] s s'):RdF s' ids d l:=h.fr (hf.weaken (by simp)) fun _ h=>.inl h
theorem RdF.of {s:k4} {d:D} {l:List D} {ids:List Nat} (h:∀s,Rd s d l):RdF s ids d l:=by
 refine ⟨h s,fun id off n he=>?_⟩
 subst he
 rcases h k4.empty with ⟨h,_⟩ | h | ⟨id',off',cs,h,hg,_⟩
 ·cases h
 ·cases h
 ·simp at hg
end Go.V
namespace Go.V
structure InW (V:List Bool) (ins:List Nat) (top i:Nat) (W:List Bool):Prop where
 len:W.length=top+1
 yes:∀n j,n<=top->j<i->ins[j]?=some n->W[n]?=V[n]?
 no:∀n,n<=top->(∀j,j<i->ins[j]?≠some n)->W[n]?=some false
theorem InW.zero {V:List Bool} {ins:List Nat} {top:Nat}:InW V ins top 0 (List.replicate (top+1) false) :=
 ⟨by simp,fun n j _ h=>by omega,fun n h _=>by rw [List.getElem?_replicate,if_pos (by omega)]⟩
theorem InW.set {V W:List Bool} {ins:List Nat} {top i n:Nat} {b:Bool} (h:InW V ins top i W) (hn:ins[i]?=some n) (ht:n<=top) (hv:V[n]?=some b):InW V ins top (i+1) (W.set n b):=by
 refine ⟨by simp [h.len],fun k j hk hj he=>?_,fun k hk hj=>?_⟩
 ·by_cases e:n=k
  ·subst e
   rw [List.getElem?_set_self (by have:=h.len;omega),hv]
  ·rw [List.getElem?_set_ne e]
   by_cases e2:j=i
   ·subst e2;rw [hn] at he;cases he;exact absurd rfl e
   ·exact h.yes k j hk (by omega) he
 ·have e:n≠k:=fun e=>hj i (by omega) (by rw [hn,e])
  rw [List.getElem?_set_ne e]
  exact h.no k hk fun j hj'=>hj j (by omega)
theorem InW.same {V W:List Bool} {ins:List Nat} {top i n:Nat} (h:InW V ins top i W) (hn:ins[i]?=some n) (ht:n<=top) (hv:V[n]?=some false) (hnew:∀j,j<i->ins[j]?≠some n):InW V ins top (i+1) W:=by
 refine ⟨h.len,fun k j hk hj he=>?_,fun k hk hj=>h.no k hk fun j hj'=>hj j (by omega)⟩
 by_cases e2:j=i
 ·subst e2;rw [hn] at he;cases he
  rw [hv];exact h.no _ ht hnew
 ·exact h.yes k j hk (by omega) he
theorem InW.all {V W:List Bool} {ins:List Nat} {top:Nat} (h:InW V ins top ins.length W) {n:Nat} (hn:n∈ins) (ht:n<=top):W[n]?=V[n]?:=by
 obtain ⟨j,hj,rfl⟩:=List.getElem_of_mem hn
 exact h.yes _ j ht hj (List.getElem?_eq_getElem hj)
end Go.V
namespace Go.V
theorem Sl.newer {s s':k4} {d:D} {l:List D} {ids:List Nat} (h:Sl s d l ids) (hf:Fr [] s s'):Sl s' d l ids:=h.stay hf (by simp)
end Go.V
namespace Go.V
def a0x:List (Nat×Nat)->List D
 | []=>[]
 | p::r=>.bool (decide (p=(0,0)))::.int .i64 (p.1:Int)::.int .i64 (p.2:Int)::a0x r
@[simp] theorem a6q:∀ (l:List (Nat×Nat)),(a0x l).length=l.length*3
 | []=>rfl
 | p::r=>by simp only [a0x,List.length_cons,a6q r];omega
theorem b1g:∀ (l m:List (Nat×Nat)),a0x (l++m)=a0x l++a0x m
 | [],m=>rfl
 | p::r,m=>by simp [a0x,b1g r m]
theorem b0x:∀ {l:List (Nat×Nat)} {i:Nat} (h:i<l.length),(a0x l)[i*3]?=some (.bool (decide (l[i]=(0,0))))/\(a0x l)[i*3+1]?=some (.int .i64 (l[i].1:Int))/\(a0x l)[i*3+2]?=some (.int .i64 (l[i].2:Int))
 | p::r,0,h=>by simp [a0x]
 | p::r,i+1,h=>by
   have ih:=b0x (l:=r) (i:=i) (by simpa using h)
   rw [show (i+1)*3=i*3+1+1+1 by omega]
   simpa [a0x,Nat.add_right_comm] using ih
structure a1B (s:k4) (r:Nat) (N:List (Nat×Nat)) (dl:D) (ids:List Nat):Prop where
 obj:s.get r=some (.cells [dl])
 row:(dl=.nils/\N=[]/\ids=[r])∨∃id,dl=.arr id 0 N.length 3/\s.get id=some (.cells (a0x N))/\id≠r/\ids=[r,id]
theorem a1B.one {s:k4} {r:Nat} {N:List (Nat×Nat)} {dl:D} {ids:List Nat} (h:a1B s r N dl ids):M4 dl=true:=by
 rcases h.row with ⟨rfl,_⟩ | ⟨id,rfl,_⟩<;>rfl
theorem a1B.len {s:k4} {r:Nat} {N:List (Nat×Nat)} {dl:D} {ids:List Nat} (h:a1B s r N dl ids):T8 false dl=some (.int .i64 (N.length:Int)):=by
 rcases h.row with ⟨rfl,rfl,_⟩ | ⟨id,rfl,_⟩<;>rfl
theorem a1B.idx {s:k4} {r:Nat} {N:List (Nat×Nat)} {dl:D} {ids:List Nat} (h:a1B s r N dl ids) {i:Nat} (hi:i<N.length) :
 ∃id,M8 3 dl (.int .i64 (i:Int))=some (.ptr id (i*3))/\ldV s.get none (.ptr id (i*3))=some (.bool (decide (N[i]=(0,0))))/\ldV s.get none (.ptr id (i*3+1))=some (.int .i64 (N[i].1:Int))/\ldV s.get none (.ptr id (i*3+2))=some (.int .i64 (N[i].2:Int)) /\
  ldV s.get (some 3) (.ptr id (i*3))=some (.agg [.bool (decide (N[i]=(0,0))),.int .i64 (N[i].1:Int),.int .i64 (N[i].2:Int)]):=by
 rcases h.row with ⟨_,rfl,_⟩ | ⟨id,rfl,hg,_,_⟩
 ·simp at hi
 ·obtain ⟨h1,h2,h3⟩:=b0x hi
  refine ⟨id,?_,?_,?_,?_,?_⟩
  ·rw [b0P rfl (by omega) (by omega)];simp
  ·simp only [ldV,hg,a0a,h1];rfl
  ·simp only [ldV,hg,a0a,h2];rfl
  ·simp only [ldV,hg,a0a,h3];rfl
  ·simp only [ldV,hg,a0a,a6q]
   rw [if_pos (by omega)]
   congr 2
   have hl:i*3+3<=(a0x N).length:=by rw [a6q];omega
   have e1:=List.getElem?_eq_some_iff.1 h1
   have e2:=List.getElem?_eq_some_iff.1 h2
   have e3:=List.getElem?_eq_some_iff.1 h3
   obtain ⟨q1,e1⟩:=e1
   obtain ⟨q2,e2⟩:=e2
   obtain ⟨q3,e3⟩:=e3
   rw [List.drop_eq_getElem_cons q1,List.drop_eq_getElem_cons q2,List.drop_eq_getElem_cons q3,e1,e2,e3]
   rfl
theorem a1B.lt {s:k4} {r:Nat} {N:List (Nat×Nat)} {dl:D} {ids:List Nat} (h:a1B s r N dl ids):∀i∈ids,i<s.next:=by
 rcases h.row with ⟨_,_,rfl⟩ | ⟨id,_,hg,_,rfl⟩
 ·intro i hi;simp at hi;subst hi;exact M1 h.obj
 ·intro i hi;simp at hi
  rcases hi with rfl | rfl
  ·exact M1 h.obj
  ·exact M1 hg
theorem a1B.stay {s s':k4} {r:Nat} {N:List (Nat×Nat)} {dl:D} {ids ids2:List Nat} (h:a1B s r N dl ids) (hf:Fr ids2 s s') (hd:∀i∈ids,i∉ids2):a1B s' r N dl ids:=by
 have hl:=h.lt
 rcases h.row with ⟨rfl,rfl,rfl⟩ | ⟨id,rfl,hg,hne,rfl⟩
 ·exact ⟨by rw [hf.2 r (hl r (by simp)) (hd r (by simp)),h.obj],.inl ⟨rfl,rfl,rfl⟩⟩
 ·exact ⟨by rw [hf.2 r (hl r (by simp)) (hd r (by simp)),h.obj],.inr ⟨id,rfl,by rw [hf.2 id (hl id (by simp)) (hd id (by simp)),hg],hne,rfl⟩⟩
theorem a1B.app {s:k4} {r:Nat} {N:List (Nat×Nat)} {dl:D} {ids:List Nat} (h:a1B s r N dl ids) (p:Nat×Nat) (hN:N.length<1000000) :
 ∃s' id',S8 3 24 dl (.arr s.next 0 1 3) (s.push (.cells [.bool (decide (p=(0,0))),.int .i64 (p.1:Int),.int .i64 (p.2:Int)]))=some (.arr id' 0 (N.length+1) 3,s')/\s'.get id'=some (.cells (a0x (N++[p])))/\s.next<=id'/\Fr ids s s'/\s'.get r=some (.cells [dl])/\r<s'.next:=by
 have hr:=M1 h.obj
 have hg2:(s.push (.cells [.bool (decide (p=(0,0))),.int .i64 (p.1:Int),.int .i64 (p.2:Int)])).get s.next=some (.cells [.bool (decide (p=(0,0))),.int .i64 (p.1:Int),.int .i64 (p.2:Int)]):=O1 rfl
 have b1:∀n,n<=1000000->n*24<=2 ^ 45/\n<=2 ^ 45:=fun n hn=>⟨Nat.le_trans (Nat.mul_le_mul_right _ hn) (by decide),Nat.le_trans hn (by decide)⟩
 rcases h.row with ⟨rfl,rfl,rfl⟩ | ⟨id,rfl,hg,hne,rfl⟩
 ·refine ⟨(s.push (.cells [.bool (decide (p=(0,0))),.int .i64 (p.1:Int),.int .i64 (p.2:Int)])).push (.cells (a0x [p])),s.next+1,?_,O1 (by simp),by omega,(Fr.push _).thenPush _,?_,by simp;omega⟩
  ·unfold S8
   simp only [W4,hg2,a1s,a0n,beq_self_eq_true]
   simp [a0x]
  ·rw [S0 (by simp;omega),S0 hr];exact h.obj
 ·have hl:=M1 hg
  refine ⟨((s.push (.cells [.bool (decide (p=(0,0))),.int .i64 (p.1:Int),.int .i64 (p.2:Int)])).set id none).push (.cells (a0x (N++[p]))),s.next+1,?_,O1 (by simp),by omega,((Fr.push _).thenSet _ (.inl (by simp))).thenPush _,?_,by simp;omega⟩
  ·have hg':(s.push (.cells [.bool (decide (p=(0,0))),.int .i64 (p.1:Int),.int .i64 (p.2:Int)])).get id=some (.cells (a0x N)):=by rw [S0 hl];exact hg
   have hb:=b1 (N.length+1) (by omega)
   unfold S8
   simp only [W4,hg2,a1s,a0n,beq_self_eq_true,hg',a6q,Nat.zero_add]
   simp [b1g,a0x,hb.1,hb.2]
  ·rw [S0 (by simp;omega),O0 (fun e=>hne e.symm),S0 hr];exact h.obj
end Go.V
namespace Go.V
end Go.V
namespace Go.V
structure VI (s:k4) (ids:List Nat) (G:Gr) (d:D) (es:List Nat):Prop where
 rd:RdF s ids d (U5 es)
 lt:∀e∈es,e<2*G.nodes.length
theorem VI.step {s s':k4} {g:Nat} {ids ids':List Nat} {G G':Gr} {d:D} {es:List Nat} (h:VI s ids G d es) (hs:a1h s g ids s' G' ids') (hx:Gr.Ext G G'):VI s' ids' G' d es :=
 ⟨h.rd.step hs,fun e he=>by have:=h.lt e he;have:=hx.le;omega⟩
theorem VI.newer {s s':k4} {ids:List Nat} {G:Gr} {d:D} {es:List Nat} (h:VI s ids G d es) (hf:Fr [] s s'):VI s' ids G d es:=⟨h.rd.newer hf,h.lt⟩
theorem VI.of {s:k4} {ids:List Nat} {G:Gr} {id:Nat} {es:List Nat} {w:Nat} (h:s.get id=some (.cells (U5 es))) (hw:es.length=w) (hid:id∉ids) (hl:∀e∈es,e<2*G.nodes.length):VI s ids G (.arr id 0 w 1) es:=by
 subst hw
 refine ⟨⟨c3D h,fun id' off n he=>?_⟩,hl⟩
 cases he;exact hid
theorem a1h.wr {s s':k4} {g:Nat} {ids ids':List Nat} {G':Gr} (h:a1h s g ids s' G' ids') {id:Nat} (o:Option N4) (hid:id∉ids') (hl:s.next<=id):a1h s g ids (s'.set id o) G' ids' :=
 ⟨h.1.stay (ids2:=[id]) (Fr.set _ (by simp)) (by intro i hi hc;simp at hc;subst hc;exact hid hi),h.2.1.thenSet _ (.inr hl),h.2.2⟩
theorem a1h.nw {s s' s'':k4} {g:Nat} {ids ids':List Nat} {G':Gr} (h:a1h s g ids s' G' ids') (hf:Fr [] s' s''):a1h s g ids s'' G' ids' :=
 ⟨(h.1.newer hf).1,h.2.1.trans hf (by simp),h.2.2⟩
theorem Gr.Ok.get {G G':Gr} {k:Nat} (h:Gr.Ok G G' k) {m:List Bool} {e:Nat} (he:e<2*G.nodes.length):G'.ev m e=G.ev m e:=h.ext.ev he
end Go.V
namespace Go.V
theorem b1E {v w:Nat} (h:w<=v):(2:Int) ^ w<=2 ^ v:=by
 have:(2:Nat) ^ w<=2 ^ v:=Nat.pow_le_pow_right (by omega) h
 exact_mod_cast this
end Go.V
namespace Go.Proofs.YtnjlhebkhjcagaaGreat
open Go.V
set_option maxRecDepth 100000
set_option maxHeartbeats 4000000
theorem b0r {m:MdX} {mo:Mo} {ps:List (Pr×PrD)} (hm:MoF m mo ps) (ho:P7 mo) {vb:ByteArray->Nat} (hvb:∀w,vb w<4294967296) {fid idf:Nat} {caps:List D}:∀ (n k:Nat),k<mo.tree.length->mo.tree.length-k<n->a0J (nd mo.tree k).kind ->
 ∀ (s:k4) (f:Ft),s.get idf=some (.cells f.row)->f.Ok->(∀s',Fr [idf] s s'->∀w,Ev vfs fid (.str w::caps) s' (.int .u32 (vb w:Int)) s') ->
 EvP vfs 65 [.agg (N1 m),.int .i64 (k:Int),.ptr idf 0,.fn fid caps] s fun r s'=>r=.tup []/\s'.get idf=some (.cells (Y0 mo.tree (mo.chans.map Ch.name) vb n k f).row)/\Fr [idf] s s'/\(Y0 mo.tree (mo.chans.map Ch.name) vb n k f).Ok
 | 0,k,_,h,_=>by omega
 | n+1,k,hk,hn,hex=>by
   intro s f hf hfo hv
   have om:=hm.ones
   have hle:=ho.tree.le
   have hno:=ho.tree.node k hk
   have hidx:=hm.tr.at (z:=(k:Int)) (by omega) (by omega) (k:=.i64)
   rw [Int.toNat_natCast] at hidx
   have on:=a0I hm.tr hk
   have hfl:=M1 hf
   have hw:=a2S hm.tr hk (i:=0)
   have n0:=a2G hm.tr hk (i:=0)
   have z0:((0:Nat):Int)=0:=rfl
   rw [hno.wl,z0] at hw
   rw [hno.nl,z0] at n0
   have hkk:=FI.len (hm.tr.nd hk).k
   show EvP _ _ _ _ fun r s'=>r=.tup []/\s'.get idf=some (.cells ((nd mo.tree k).ks.foldl (fun f c=>Y0 mo.tree (mo.chans.map Ch.name) vb n c f) (U7 (mo.chans.map Ch.name) vb (nd mo.tree k) f)).row)/\Fr [idf] s s'/\((nd mo.tree k).ks.foldl (fun f c=>Y0 mo.tree (mo.chans.map Ch.name) vb n c f) (U7 (mo.chans.map Ch.name) vb (nd mo.tree k) f)).Ok
   have hr1:=b9V (x:=nd mo.tree k) hfo (ch:=mo.chans.map Ch.name) (by simpa using ho.nc) hvb
   unfold N1
   refine M3 (vf:=a9P) rfl ?_
   unfold a9P;refine zE ?_
   try refine zW (aN om (aN hidx on)) ?_
   have fr2:Fr [] s (((s.push (.cells [m.dt,.int .i64 m.g,m.dc,m.dv,m.dp,m.ds,.bool m.b])).push (.cells [.int .i64 0,.nils,.nils,.nils,.int .i64 0])).set (s.next+1) (some (.cells [.int .i64 (nd mo.tree k).kind,(nd mo.tree k).dw,(nd mo.tree k).dn,(nd mo.tree k).dk,.int .i64 (nd mo.tree k).pos]))):=((Fr.push _).thenPush _).thenSet _ (.inr (by omega))
   have b2:(((s.push (.cells [m.dt,.int .i64 m.g,m.dc,m.dv,m.dp,m.ds,.bool m.b])).push (.cells [.int .i64 0,.nils,.nils,.nils,.int .i64 0])).set (s.next+1) (some (.cells [.int .i64 (nd mo.tree k).kind,(nd mo.tree k).dw,(nd mo.tree k).dn,(nd mo.tree k).dk,.int .i64 (nd mo.tree k).pos]))).get s.next=some (.cells [m.dt,.int .i64 m.g,m.dc,m.dv,m.dp,m.ds,.bool m.b]):=by (simp (disch:=(first|with_reducible assumption|omega|((repeat (first|rw [nP]|rw [nS]))<;>omega)|fail)) only [S0,O1,O0,P5,k4.next_push,k4.next_set])
   have c2:(((s.push (.cells [m.dt,.int .i64 m.g,m.dc,m.dv,m.dp,m.ds,.bool m.b])).push (.cells [.int .i64 0,.nils,.nils,.nils,.int .i64 0])).set (s.next+1) (some (.cells [.int .i64 (nd mo.tree k).kind,(nd mo.tree k).dw,(nd mo.tree k).dn,(nd mo.tree k).dk,.int .i64 (nd mo.tree k).pos]))).get (s.next+1)=some (.cells [.int .i64 (nd mo.tree k).kind,(nd mo.tree k).dw,(nd mo.tree k).dn,(nd mo.tree k).dk,.int .i64 (nd mo.tree k).pos]):=by (simp (disch:=(first|with_reducible assumption|omega|((repeat (first|rw [nP]|rw [nS]))<;>omega)|fail)) only [S0,O1,O0,P5,k4.next_push,k4.next_set])
   have f2:=(fr2.2 idf hfl (by simp)).trans hf
   unfold Ft.row at f2
   generalize (((s.push (.cells [m.dt,.int .i64 m.g,m.dc,m.dv,m.dp,m.ds,.bool m.b])).push (.cells [.int .i64 0,.nils,.nils,.nils,.int .i64 0])).set (s.next+1) (some (.cells [.int .i64 (nd mo.tree k).kind,(nd mo.tree k).dw,(nd mo.tree k).dn,(nd mo.tree k).dk,.int .i64 (nd mo.tree k).pos])))=s2 at *
   have l2:=M1 c2
   have l2':=M1 f2
   have hv2:=hv s2 (fr2.weaken (by simp))
   refine a3l (P:=fun env s'=>s'.get idf=some (.cells (U7 (mo.chans.map Ch.name) vb (nd mo.tree k) f).row)/\Fr [idf] s s'/\s'.get s.next=some (.cells [m.dt,.int .i64 m.g,m.dc,m.dv,m.dp,m.ds,.bool m.b])/\s'.get (s.next+1)=some (.cells [.int .i64 (nd mo.tree k).kind,(nd mo.tree k).dw,(nd mo.tree k).dn,(nd mo.tree k).dk,.int .i64 (nd mo.tree k).pos])/\(env.get 2=.ptr idf 0/\env.get 3=.fn fid caps/\env.get 4=.ptr s.next 0/\env.get 8=.ptr (s.next+1) 0)) ?_ ?_
   ·by_cases q18:(nd mo.tree k).kind=18
    ·have q18':((nd mo.tree k).kind==18)=true:=by rw [q18];rfl
     rw [q18] at hw
     have hw:=hw (by decide)
     have hcl:=hv2 ((nd mo.tree k).word 0)
     have hor:=a4L hfo.r (hvb ((nd mo.tree k).word 0))
     have e:U7 (mo.chans.map Ch.name) vb (nd mo.tree k) f={ f with reads:=f.reads ||| vb ((nd mo.tree k).word 0) }:=by unfold U7;rw [if_pos q18]
     rw [e]
     repeat first
     |((with_reducible apply c4R);(focus rfl);(focus exact hcl))
     |refine zW (aN f2 (aN c2 (aN on (aN q18' (aN hw hor))))) ?_
     refine ⟨trivial,?_,?_,?_,?_,by simp [Env.get,O2.at]⟩
     ·rw [P5 l2'];rfl
     ·exact (fr2.weaken (by simp)).thenSet _ (.inl (by simp))
     ·rw [O0 (by omega),b2]
     ·rw [O0 (by omega),c2]
    have q18':((nd mo.tree k).kind==18)=false:=by rw [beq_eq_false_iff_ne];exact q18
    by_cases q19:(nd mo.tree k).kind=19
    ·have q19':((nd mo.tree k).kind==19)=true:=by rw [q19];rfl
     rw [q19] at hw
     have hw:=hw (by decide)
     have e:U7 (mo.chans.map Ch.name) vb (nd mo.tree k) f={ f with sizes:=f.sizes ||| chB (mo.chans.map Ch.name) ((nd mo.tree k).word 0) }:=by unfold U7;rw [if_neg q18,if_pos q19]
     have hlc:=hm.lenC
     have hnc:=ho.nc
     try refine zW (aN f2 (aN b2 (aN c2 (aN on (aN om (aN q18' (aN q19' hlc))))))) ?_
     refine a3l (P:=fun env s'=>s'.get idf=some (.cells (U7 (mo.chans.map Ch.name) vb (nd mo.tree k) f).row)/\Fr [idf] s s'/\s'.get s.next=some (.cells [m.dt,.int .i64 m.g,m.dc,m.dv,m.dp,m.ds,.bool m.b])/\s'.get (s.next+1)=some (.cells [.int .i64 (nd mo.tree k).kind,(nd mo.tree k).dw,(nd mo.tree k).dn,(nd mo.tree k).dk,.int .i64 (nd mo.tree k).pos])/\(env.get 2=.ptr idf 0/\env.get 3=.fn fid caps/\env.get 4=.ptr s.next 0/\env.get 8=.ptr (s.next+1) 0)) ?_ ?_
     rotate_left
     ·rintro env s' ⟨a1,a2,a3,a4,a5⟩
      exact ⟨rfl,a1,a2,a3,a4,a5⟩
     refine U2 (Q:=M9 1 _) (fun n env s'=>∃i:Nat,i<=mo.chans.length/\n=mo.chans.length-i/\Fr [] s2 s'/\(∀j (hj:j<mo.chans.length),j<i->mo.chans[j].name≠(nd mo.tree k).word 0)/\(env.get 2=.ptr idf 0/\env.get 3=.fn fid caps/\env.get 4=.ptr s.next 0/\env.get 8=.ptr (s.next+1) 0/\env.get 38=m.dc/\env.get 39=.int .i64 (mo.chans.length:Int)/\env.get 40=.int .i64 (i:Int))) ?_ mo.chans.length _ _ ⟨0,by omega,rfl,Fr.refl _ _,fun j _ h=>by omega,by simp [Env.get,O2.at]⟩
     rintro n env s' ⟨i,hi,rfl,fr3,hall,hE⟩
     have f3:=(fr3.2 idf l2' (by simp)).trans f2
     have b3:=(fr3.2 s.next (by omega) (by simp)).trans b2
     have c3:=(fr3.2 (s.next+1) l2 (by simp)).trans c2
     have l3:=M1 c3
     have l3':=M1 f3
     by_cases ci:i<mo.chans.length
     ·have ci':((i:Int)<(mo.chans.length:Int))=True:=eq_true (by omega)
      have hs1:IntKind.i64.wrap ((i:Int)+1)=((i+1:Nat):Int):=by rw [P1 (by omega) (by omega)];omega
      have hci:=FLC.idx hm.c ci (k:=.i64)
      unfold Ch.row at hci
      have fr4:∀z o,Fr [] s' ((s'.push z).set s'.next (some o)):=fun z o=>(Fr.push _).thenSet _ (.inr (Nat.le_refl _))
      by_cases ce:mo.chans[i].name=(nd mo.tree k).word 0
      ·have ce':decide (mo.chans[i].name=(nd mo.tree k).word 0)=true:=by simp [ce]
       have hb:=a4x (n:=(i:Int)) (by omega)
       have eb:chB (mo.chans.map Ch.name) ((nd mo.tree k).word 0)=Y3 (i:Int):=by
        unfold chB
        have hil:i<(mo.chans.map Ch.name).length:=by simpa using ci
        rw [a5s hil (by simpa using ce) (fun j hj hji=>by simpa using hall j (by simpa using hj) hji),if_pos hil,a25]
       have hor:=a4L hfo.z (a4S (n:=(i:Int)) (by omega))
       rw [e,eb]
       repeat first
       |(apply t4 hb rfl;(focus (simp only [Env.evL,Env.ev,Env.get,Nat.reduceEqDiff,↓reduceIte,hE]));(focus rfl))
       |refine zW (aN hE (aN f3 (aN c3 (aN on (aN ci' (aN hci (aN ce' (aN hw hor)))))))) ?_
       have fr5:=(fr4 (.cells [.str (bs []),.int .i64 0,.int .i64 0,.bool false,.bool false]) (.cells [.str mo.chans[i].name,.int .i64 mo.chans[i].room,.int .i64 mo.chans[i].width,.bool mo.chans[i].lossy,.bool mo.chans[i].copying]))
       refine ⟨trivial,?_,?_,?_,?_,by simp [Env.get,hE]⟩
       ·rw [P5 (Nat.lt_of_lt_of_le l3' fr5.1)];rfl
       ·exact (((fr2.trans fr3 (by simp)).trans fr5 (by simp)).weaken (by simp)).thenSet _ (.inl (by simp))
       ·rw [O0 (by omega),fr5.2 _ (by omega) (by simp),b3]
       ·rw [O0 (by omega),fr5.2 _ (by omega) (by simp),c3]
      ·have ce':decide (mo.chans[i].name=(nd mo.tree k).word 0)=false:=by simp [ce]
       try refine zW (aN hE (aN f3 (aN c3 (aN on (aN ci' (aN hci (aN ce' (aN hw hs1)))))))) ?_
       refine ⟨mo.chans.length-(i+1),by omega,i+1,by omega,rfl,fr3.trans (fr4 _ _) (by simp),fun j hj hji=>?_,(rG hE)⟩
       by_cases ej:j=i
       ·subst ej;exact ce
       ·exact hall j hj (by omega)
     ·have ci':((i:Int)<(mo.chans.length:Int))=False:=eq_false (by omega)
      have eb:chB (mo.chans.map Ch.name) ((nd mo.tree k).word 0)=0:=by
       unfold chB
       rw [if_neg (a5r fun j hj=>by simpa using hall j (by simpa using hj) (by simp at hj;omega))]
      rw [e,eb,Nat.or_zero]
      try refine zW (aN hE ci') ?_
      exact ⟨trivial,f3,(fr2.trans fr3 (by simp)).weaken (by simp),b3,c3,(rG hE)⟩
    have q19':((nd mo.tree k).kind==19)=false:=by rw [beq_eq_false_iff_ne];exact q19
    by_cases q22:(nd mo.tree k).kind=22
    ·have q22':((nd mo.tree k).kind==22)=true:=by rw [q22];rfl
     rw [q22] at n0
     have n0:=n0 (by decide)
     by_cases q7:(nd mo.tree k).num 0=7
     ·have q7':((nd mo.tree k).num 0==7)=true:=by rw [q7];rfl
      have e:U7 (mo.chans.map Ch.name) vb (nd mo.tree k) f={ f with part:=true }:=by unfold U7;rw [if_neg q18,if_neg q19,if_pos ⟨q22,.inl q7⟩]
      rw [e]
      try refine zW (aN f2 (aN c2 (aN on (aN q18' (aN q19' (aN q22' (aN n0 q7'))))))) ?_
      refine ⟨trivial,?_,?_,?_,?_,by simp [Env.get,O2.at]⟩
      ·rw [P5 l2'];rfl
      ·exact (fr2.weaken (by simp)).thenSet _ (.inl (by simp))
      ·rw [O0 (by omega),b2]
      ·rw [O0 (by omega),c2]
     have q7':((nd mo.tree k).num 0==7)=false:=by rw [beq_eq_false_iff_ne];exact q7
     by_cases q8:(nd mo.tree k).num 0=8
     ·have q8':((nd mo.tree k).num 0==8)=true:=by rw [q8];rfl
      have e:U7 (mo.chans.map Ch.name) vb (nd mo.tree k) f={ f with part:=true }:=by unfold U7;rw [if_neg q18,if_neg q19,if_pos ⟨q22,.inr q8⟩]
      rw [e]
      try refine zW (aN f2 (aN c2 (aN on (aN q18' (aN q19' (aN q22' (aN n0 (aN q7' q8')))))))) ?_
      refine ⟨trivial,?_,?_,?_,?_,by simp [Env.get,O2.at]⟩
      ·rw [P5 l2'];rfl
      ·exact (fr2.weaken (by simp)).thenSet _ (.inl (by simp))
      ·rw [O0 (by omega),b2]
      ·rw [O0 (by omega),c2]
     have q8':((nd mo.tree k).num 0==8)=false:=by rw [beq_eq_false_iff_ne];exact q8
     have e:U7 (mo.chans.map Ch.name) vb (nd mo.tree k) f=f:=by unfold U7;rw [if_neg q18,if_neg q19,if_neg (by omega)]
     rw [e]
     try refine zW (aN f2 (aN c2 (aN on (aN q18' (aN q19' (aN q22' (aN n0 (aN q7' q8')))))))) ?_
     exact ⟨trivial,f2,fr2.weaken (by simp),b2,c2,by simp [Env.get,O2.at]⟩
    have q22':((nd mo.tree k).kind==22)=false:=by rw [beq_eq_false_iff_ne];exact q22
    have e:U7 (mo.chans.map Ch.name) vb (nd mo.tree k) f=f:=by unfold U7;rw [if_neg q18,if_neg q19,if_neg (by omega)]
    rw [e]
    try refine zW (aN f2 (aN c2 (aN on (aN q18' (aN q19' q22'))))) ?_
    exact ⟨trivial,f2,fr2.weaken (by simp),b2,c2,by simp [Env.get,O2.at]⟩
   clear f2 c2 b2 l2 l2' fr2 hv2
   clear s2
   rintro env s2 ⟨f2,fr2,b2,c2,hE⟩
   obtain ⟨hkl,hkx⟩:=a57 hno hex
   simp only [O7]
   try refine zW (aN hE (aN c2 (aN on hkk))) ?_
   generalize U7 (mo.chans.map Ch.name) vb (nd mo.tree k) f=f1 at *
   refine U2 (Q:=M9 3 _) (fun j env s'=>∃i:Nat,i<=(nd mo.tree k).kids.length/\j=(nd mo.tree k).kids.length-i/\s'.get idf=some (.cells (((nd mo.tree k).ks.take i).foldl (fun f c=>Y0 mo.tree (mo.chans.map Ch.name) vb n c f) f1).row)/\Fr [idf] s s'/\(((nd mo.tree k).ks.take i).foldl (fun f c=>Y0 mo.tree (mo.chans.map Ch.name) vb n c f) f1).Ok/\s'.get s.next=some (.cells [m.dt,.int .i64 m.g,m.dc,m.dv,m.dp,m.ds,.bool m.b])/\s.next≠idf/\(env.get 2=.ptr idf 0/\env.get 3=.fn fid caps/\env.get 4=.ptr s.next 0/\env.get 80=(nd mo.tree k).dk/\env.get 81=.int .i64 ((nd mo.tree k).kids.length:Int)/\env.get 82=.int .i64 (i:Int))) ?_ (nd mo.tree k).kids.length _ _ ⟨0,by omega,rfl,f2,fr2,hr1,b2,by omega,by simp [Env.get,hE]⟩
   clear hE b2 c2 f2 fr2
   rintro j env s' ⟨i,hi,rfl,f2,fr2,ho2,b2,hne,hE⟩
   have lb:=M1 b2
   by_cases c1:i<(nd mo.tree k).kids.length
   ·have c1':((i:Int)<((nd mo.tree k).kids.length:Int))=True:=eq_true (by omega)
    have hs1:IntKind.i64.wrap ((i:Int)+1)=((i+1:Nat):Int):=by rw [P1 (by omega) (by omega)];omega
    have hki:=a0F hm.tr ho.tree hk c1
    have hkm:=V4 c1
    have hkt:=a7K c1
    have hck:=ho.tree.ks hk _ hkm
    have hcx:=hkx i c1
    generalize (nd mo.tree k).kid i=K at *
    have hcal:=b0r hm ho hvb n K hck.2 (by omega) hcx s' _ f2 ho2 (fun s3 h3=>hv s3 (fr2.trans h3 (by simp)))
    unfold N1 at hcal
    try refine zW (aN hE (aN c1' (aN hki (aN b2 om)))) ?_
    apply S9 hcal
    ·simp only [Env.evL,Env.ev,Env.get,Nat.reduceEqDiff,↓reduceIte,hE]
    rintro r s3 ⟨rfl,f3,fr3,o3⟩
    have b3:=(fr3.2 s.next lb (by simpa using hne)).trans b2
    try refine zW (aN hE hs1) ?_
    refine ⟨(nd mo.tree k).kids.length-(i+1),by omega,i+1,by omega,rfl,?_,fr2.trans fr3 (by simp),?_,b3,hne,(rG hE)⟩
    ·rw [hkt,List.foldl_append];exact f3
    ·rw [hkt,List.foldl_append];exact o3
   ·have c1':((i:Int)<((nd mo.tree k).kids.length:Int))=False:=eq_false (by omega)
    obtain rfl:i=(nd mo.tree k).kids.length:=by omega
    have hall:(nd mo.tree k).ks.take (nd mo.tree k).kids.length=(nd mo.tree k).ks:=by rw [<- a0u,List.take_length]
    rw [hall] at f2 ho2
    try refine zW (aN hE c1') ?_
    exact ⟨.inl trivial,_,rfl,rfl,f2,fr2,ho2⟩
end Go.Proofs.YtnjlhebkhjcagaaGreat
namespace Go.Proofs.YtnjlhebkhjcagaaGreat
open Go.V
set_option maxRecDepth 100000
set_option maxHeartbeats 4000000
theorem b6a {m:MdX} {mo:Mo} {ps:List (Pr×PrD)} (hm:MoF m mo ps) (ho:P7 mo) {p i:Nat} (hp:p<mo.procs.length) (hi:i<mo.procs[p].edges.length) :
 Iso 41 [.agg (N1 m),.int .i64 (p:Int),.int .i64 (i:Int)] (.tup [.agg (O6 mo mo.procs[p] mo.procs[p].edges[i]).row,.bool true])/\(O6 mo mo.procs[p] mo.procs[p].edges[i]).Ok:=by
 suffices h:EvP vfs 41 [.agg (N1 m),.int .i64 (p:Int),.int .i64 (i:Int)] k4.empty fun r _=>r=.tup [.agg (O6 mo mo.procs[p] mo.procs[p].edges[i]).row,.bool true]/\(O6 mo mo.procs[p] mo.procs[p].edges[i]).Ok by
  obtain ⟨r,s,h1,rfl,h2⟩:=h
  exact ⟨⟨s,h1⟩,h2⟩
 have om:=hm.ones
 have hnv:=ho.nv
 have hpo:=ho.pr _ (List.getElem_mem hp)
 obtain ⟨x,hx,hxi⟩:=hm.proc hp
 have hxi:=hxi .i64
 have hlp:=hm.lenP
 have ox:=hx.ones
 have hle:=hx.lenE
 have hei:=FLE.idx hx.e hi (k:=.i64)
 have heo:=hpo.inv.ed _ (List.getElem_mem hi)
 generalize mo.procs[p].edges[i]=e at *
 have p1:((p:Int)<0)=False:=eq_false (by omega)
 have p2:((mo.procs.length:Int)<=(p:Int))=False:=eq_false (by omega)
 have i1:((i:Int)<0)=False:=eq_false (by omega)
 have i2:((mo.procs[p].edges.length:Int)<=(i:Int))=False:=eq_false (by omega)
 generalize mo.procs[p]=P at *
 have hvb:∀w,a0w P.names P.vars w<4294967296:=fun w=>by
  unfold a0w
  split
  ·rename_i hw
   rw [hpo.same] at hw
   refine a4q ?_
   have:=hpo.var _ (List.getElem_mem hw)
   simp only [List.getD,List.getElem?_eq_getElem hw,Option.getD_some]
   omega
  ·decide
 have hx':=hx
 unfold t3 at hxi
 unfold Ed.row at hei
 unfold N1
 generalize hf1:(if 0<=e.expr then Y0 mo.tree (mo.chans.map Ch.name) (a0w P.names P.vars) (mo.tree.length+1) e.expr.toNat ⟨0,0,0,0,0,false⟩ else ⟨0,0,0,0,0,false⟩)=f1
 have hE:O6 mo P e=(if e.act=1 then { f1 with writes:=Y3 e.var } else if e.act=2 then { f1 with sends:=Y3 e.chan } else if e.act=3 then { f1 with writes:=Y3 e.var,recvs:=Y3 e.chan } else f1):=by unfold O6;rw [hf1]
 rw [hE]
 refine M3 (vf:=a9R) rfl ?_
 unfold a9R;refine zE ?_
 try refine zW (aN om (aN hlp (aN hxi (aN ox (aN hle (aN p1 (aN p2 (aN i1 (aN i2 hei))))))))) ?_
 simp only [O2.at,k4.next_push,k4.next_set,b03,Nat.reduceAdd]
 refine b6G (Φ:=fun s=>s.get 0=some (.cells [m.dt,.int .i64 m.g,m.dc,m.dv,m.dp,m.ds,.bool m.b])/\s.get 1=some (.cells [.int .u32 0,.int .u32 0,.int .u32 0,.int .u32 0,.int .u32 0,.bool false])/\s.get 2=some (.cells [.str P.name,.int .i64 (P.copy:Int),x.dl,.int .i64 (P.places:Int),x.dr,x.de,x.dn,x.dv])/\s.get 3=some (.cells [.int .i64 (e.frm:Int),.int .i64 (e.to:Int),.int .i64 (e.act:Int),.int .i64 e.expr,.int .i64 e.var,.int .i64 e.chan,.bool e.keep,.int .i64 (e.node:Int)])/\s.get 4=some (.cells [.int .u32 0,.int .u32 0,.int .u32 0,.int .u32 0,.int .u32 0,.bool false])) ?_ ?_
 ·have ne:=b03
  refine ⟨?_,?_,?_,?_,?_⟩<;>(simp (disch:=(first|with_reducible assumption|omega|((repeat (first|rw [nP]|rw [nS]))<;>omega)|fail)) only [S0,O1,O0,P5,k4.next_push,k4.next_set])
 rintro s ⟨g0,g1,g2,g3,g4⟩
 have l0:=M1 g0
 have l1:=M1 g1
 have l2:=M1 g2
 have l3:=M1 g3
 have l4:=M1 g4
 refine WP.mono (Q:=fun e' env s=>e'=.normal/\s.get 4=some (.cells f1.row)/\f1.Ok/\s.get 1=some (.cells [.int .u32 0,.int .u32 0,.int .u32 0,.int .u32 0,.int .u32 0,.bool false])/\s.get 3=some (.cells [.int .i64 (e.frm:Int),.int .i64 (e.to:Int),.int .i64 (e.act:Int),.int .i64 e.expr,.int .i64 e.var,.int .i64 e.chan,.bool e.keep,.int .i64 (e.node:Int)])/\(env.get 6=.ptr 1 0/\env.get 9=.ptr 3 0/\env.get 10=.ptr 4 0)) ?_ ?_
 ·by_cases ce:0<=e.expr
  ·have ce':((0:Int)<=e.expr)=True:=eq_true ce
   have ha:=heo.act
   have hac:e.act=1∨e.act=2∨e.act=4∨e.act=5:=by
    have h0:=heo.ex0
    omega
   obtain ⟨k,hk,hkl,hkx⟩:=heo.ex1 hac
   rw [if_pos ce,hk,Int.toNat_natCast] at hf1
   subst hf1
   have hcl:∀s',Fr [4] s s'->∀w,Ev vfs 66 (.str w::[.ptr 2 0]) s' (.int .u32 (a0w P.names P.vars w:Int)) s':=fun s' hf w =>
    b7S hx (by rw [hf.2 2 l2 (by simp),g2];rfl) hpo.same (fun v hv=>by have:=hpo.var v hv;omega) (by
     have:=hpo.nl
     omega)
   have hcal:=b0r hm ho hvb (mo.tree.length+1) k hkl (by omega) hkx s ⟨0,0,0,0,0,false⟩ g4 b1G hcl
   rw [<- hk] at hcal
   unfold N1 at hcal
   try refine zW (aN ce' (aN g0 (aN g3 om))) ?_
   apply S9 hcal
   ·rfl
   rintro r s' ⟨rfl,f3,fr3,o3⟩
   try refine zW0 ?_
   exact ⟨trivial,f3,o3,by rw [fr3.2 1 l1 (by simp),g1],by rw [fr3.2 3 l3 (by simp),g3,hk],by simp [Env.get]⟩
  ·have ce':((0:Int)<=e.expr)=False:=eq_false ce
   rw [if_neg ce] at hf1
   subst hf1
   try refine zW ce' ?_
   exact ⟨trivial,g4,b1G,g1,g3,by simp [Env.get]⟩
 clear g0 g1 g2 g3 g4 l0 l1 l2 l3 l4
 rintro e' env s ⟨rfl,g4,hfo,g1,g3,hEn⟩
 have l1:=M1 g1
 have l4:=M1 g4
 unfold Ft.row at g4
 simp only [O7]
 have hvar:e.act=1∨e.act=3->e.var<32:=fun h=>by
  obtain ⟨n,hn,e1⟩:=heo.v1 h
  have:=hpo.var n hn
  omega
 have hcha:e.act=2∨e.act=3->e.chan<32:=fun h=>by
  obtain ⟨n,e1,hn⟩:=heo.c1 h
  have:=ho.nc
  omega
 by_cases a1:e.act=1
 ·have a1':((e.act:Int)==1)=true:=by rw [a1];rfl
  have hb:=a4x (hvar (.inl a1))
  have hbl:=a4S (hvar (.inl a1))
  rw [if_pos a1]
  repeat first
  |(apply t4 hb rfl;(focus (simp only [Env.evL,Env.ev,Env.get,Nat.reduceEqDiff,↓reduceIte,hEn]));(focus rfl))
  |refine zW (aN hEn (aN g3 (aN g4 (aN g1 a1')))) ?_
  refine ⟨.inr trivial,_,?_,rfl,⟨hfo.r,hbl,hfo.s,hfo.v,hfo.z⟩⟩
  ·simp only [S6,T0,V0,Env.get,Nat.reduceEqDiff,↓reduceIte,hEn,P5 (i:=1) (s:=s.set 4 _) (by simp only [k4.next_set];exact l1)]
   rfl
 have a1':((e.act:Int)==1)=false:=by rw [beq_eq_false_iff_ne];omega
 rw [if_neg a1]
 by_cases a2:e.act=2
 ·have a2':((e.act:Int)==2)=true:=by rw [a2];rfl
  have hb:=a4x (hcha (.inl a2))
  have hbl:=a4S (hcha (.inl a2))
  rw [if_pos a2]
  repeat first
  |(apply t4 hb rfl;(focus (simp only [Env.evL,Env.ev,Env.get,Nat.reduceEqDiff,↓reduceIte,hEn]));(focus rfl))
  |refine zW (aN hEn (aN g3 (aN g4 (aN g1 (aN a1' a2'))))) ?_
  refine ⟨.inr trivial,_,?_,rfl,⟨hfo.r,hfo.w,hbl,hfo.v,hfo.z⟩⟩
  ·simp only [S6,T0,V0,Env.get,Nat.reduceEqDiff,↓reduceIte,hEn,P5 (i:=1) (s:=s.set 4 _) (by simp only [k4.next_set];exact l1)]
   rfl
 have a2':((e.act:Int)==2)=false:=by rw [beq_eq_false_iff_ne];omega
 rw [if_neg a2]
 by_cases a3:e.act=3
 ·have a3':((e.act:Int)==3)=true:=by rw [a3];rfl
  have hb:=a4x (hvar (.inr a3))
  have hbl:=a4S (hvar (.inr a3))
  have hb2:=a4x (hcha (.inr a3))
  have hbl2:=a4S (hcha (.inr a3))
  rw [if_pos a3]
  repeat first
  |(apply t4 hb rfl;(focus (simp only [Env.evL,Env.ev,Env.get,Nat.reduceEqDiff,↓reduceIte,hEn]));(focus rfl))
  |(apply t4 hb2 rfl;(focus (simp only [Env.evL,Env.ev,Env.get,Nat.reduceEqDiff,↓reduceIte,hEn]));(focus rfl))
  |refine zW (aN hEn (aN g3 (aN g4 (aN g1 (aN a1' (aN a2' a3')))))) ?_
  refine ⟨.inr trivial,_,?_,rfl,⟨hfo.r,hbl,hfo.s,hbl2,hfo.z⟩⟩
  ·simp only [S6,T0,V0,Env.get,Nat.reduceEqDiff,↓reduceIte,hEn,P5 (i:=1) (s:=(s.set 4 _).set 4 _) (by simp only [k4.next_set];exact l1)]
   rfl
 have a3':((e.act:Int)==3)=false:=by rw [beq_eq_false_iff_ne];omega
 rw [if_neg a3]
 try refine zW (aN hEn (aN g3 (aN g4 (aN g1 (aN a1' (aN a2' a3')))))) ?_
 refine ⟨.inr trivial,_,?_,rfl,hfo⟩
 simp only [S6,T0,V0,Env.get,Nat.reduceEqDiff,↓reduceIte,hEn,P5 (i:=1) (s:=s) l1]
 rfl
end Go.Proofs.YtnjlhebkhjcagaaGreat
namespace Go.Proofs.YtnjlhebkhjcagaaGreat
open Go.V
set_option maxRecDepth 100000
theorem c4j:∃s',Ev vfs 11 [] k4.empty (.bool true) s':=c1d (n:=400) (by kernel_rfl)
end Go.Proofs.YtnjlhebkhjcagaaGreat
namespace Go.V
variable {fs:FuncId->Option t5}
def a1t (fs:FuncId->Option t5) (f:FuncId) (args:List D) (d:D):Prop:=∃r s1,Ev fs f args k4.empty r s1/\ice s1.get 20 r=some d
theorem a1t.det {f:FuncId} {args:List D} {d d':D} (h:a1t fs f args d) (k:a1t fs f args d'):d=d':=by
 obtain ⟨r,s1,h1,h2⟩:=h
 obtain ⟨r',s1',k1,k2⟩:=k
 obtain ⟨rfl,rfl⟩:=h1.det k1
 rw [h2] at k2
 exact Option.some.inj k2
def PZ (d:D):Prop:=U4 d=true/\Fz d
theorem FL.pz {sz:Nat} {d:D} {rows:List (List D)} (h:FL sz d rows):PZ d:=⟨h.pure,h.fz⟩
theorem a4W {l:List D} (h:∀d∈l,U4 d=true/\∀g n,ice g (n+2) d=some d):PZ (.agg l):=⟨by
 show pureL l=true
 induction l with
 | nil=>rfl
 | cons a r ih=>simp only [pureL,(h a (by simp)).1,Bool.true_and];exact ih fun d hd=>h d (by simp [hd]),a5x fun d hd=>(h d hd).2⟩
def End (Q:W0->Env->k4->Prop) (e:W0) (env:Env) (s:k4):Prop:=Q e env s
def RgK (vars:List Nat) (Q:W0->Env->k4->Prop) (env:Env) (s:k4):Prop:=End Q .normal (env.keep vars) s
abbrev Kt:=Env->k4->Prop
abbrev Ops:=List (Nat×O3)
abbrev Prs:=List (Nat×Nat)
def a7H (pairs:Prs) (ops:Ops):Bool:=ops.all fun o=>pairs.all fun p=>p.2 != o.1
def XQ (fs:FuncId->Option t5):Prs->Ops->Env->k4->Kt->Prop
 | _,[],env,s,K=>K env s
 | pairs,(i,⟨dst,op,g⟩)::rest,env,s,K =>
   let run:Prop:=match dst,op with
    | some t,.p o=>match evP env o with
      | some d=>XQ fs pairs rest ((t,d)::env) s K
      | none=>False
    | some t,.r o=>match evR env s.get o with
      | some d=>XQ fs pairs rest ((t,d)::env) s K
      | none=>False
    | some t,.a o=>match pairs with
      | []=>match evA env o with
        | some (ob,m)=>XQ fs [] rest ((t,m.at s.next)::env) (s.push ob) K
        | none=>False
      | p::ps=>if a7H (p::ps) ((i,⟨some t,.a o,none⟩)::rest)=true then (match evA env o with
        | some (ob,m)=>XQ fs [] rest ((t,m.at s.next)::env) (s.push ob) K
        | none=>False) else WQ fs (p::ps) ((i,⟨some t,.a o,none⟩)::rest) env s K
    | none,.w n a v=>match pairs with
      | []=>match evW env s.get n a v with
        | some (id,ob)=>XQ fs [] rest env (s.set id (some ob)) K
        | none=>False
      | p::ps=>if a7H (p::ps) ((i,⟨none,.w n a v,none⟩)::rest)=true then (match evW env s.get n a v with
        | some (id,ob)=>XQ fs [] rest env (s.set id (some ob)) K
        | none=>False) else WQ fs (p::ps) ((i,⟨none,.w n a v,none⟩)::rest) env s K
    | some t,.m o=>match o,pairs with
      | .call .iso (.cst (.fn f [])) args,pairs=>match M6 (ice s.get 20) (env.evL args) with
        | some l=>∃d,a1t fs f l d/\(Z6 d||pureL (env.evL args))=true/\XQ fs pairs rest ((t,d)::env) s K
        | none=>False
      | .append sz bytes a x,[]=>match S8 sz bytes (env.ev a) (env.ev x) s with
        | some (d,s')=>XQ fs [] rest ((t,d)::env) s' K
        | none=>False
      | .append sz bytes a x,p::ps=>if a7H (p::ps) ((i,⟨some t,.m (.append sz bytes a x),none⟩)::rest)=true then (match S8 sz bytes (env.ev a) (env.ev x) s with
        | some (d,s')=>XQ fs [] rest ((t,d)::env) s' K
        | none=>False) else WQ fs (p::ps) ((i,⟨some t,.m (.append sz bytes a x),none⟩)::rest) env s K
      | o,pairs=>WQ fs pairs ((i,⟨some t,.m o,none⟩)::rest) env s K
    | dst,op=>WQ fs pairs ((i,⟨dst,op,none⟩)::rest) env s K
   match g with
   | none=>run
   | some (r,b)=>Way (env.get r) b run (XQ fs pairs rest (env.put dst (.tup [])) s K)
def BP (r:Option D) (fs:FuncId->Option t5) (pairs:Prs) (t:Nat) (rest:Ops) (env:Env) (s:k4) (K:Kt):Prop:=match r with
 | some d=>XQ fs pairs rest ((t,d)::env) s K
 | none=>False
def BA (r:Option (N4×O2)) (fs:FuncId->Option t5) (t:Nat) (rest:Ops) (env:Env) (s:k4) (K:Kt):Prop:=match r with
 | some (ob,m)=>XQ fs [] rest ((t,m.at s.next)::env) (s.push ob) K
 | none=>False
def BW (r:Option (Nat×N4)) (fs:FuncId->Option t5) (rest:Ops) (env:Env) (s:k4) (K:Kt):Prop:=match r with
 | some (id,ob)=>XQ fs [] rest env (s.set id (some ob)) K
 | none=>False
def BM (r:Option (D×k4)) (fs:FuncId->Option t5) (t:Nat) (rest:Ops) (env:Env) (K:Kt):Prop:=match r with
 | some (d,s)=>XQ fs [] rest ((t,d)::env) s K
 | none=>False
def BC (fs:FuncId->Option t5) (f:FuncId) (l:List D) (p:Bool) (pairs:Prs) (t:Nat) (rest:Ops) (env:Env) (s:k4) (K:Kt):Prop:=∃d,a1t fs f l d/\(Z6 d||p)=true/\XQ fs pairs rest ((t,d)::env) s K
def BL (r:Option (List D)) (p:Bool) (fs:FuncId->Option t5) (f:FuncId) (pairs:Prs) (t:Nat) (rest:Ops) (env:Env) (s:k4) (K:Kt):Prop:=match r with
 | some l=>BC fs f l p pairs t rest env s K
 | none=>False
def BF (b:Bool) (d:D) (fs:FuncId->Option t5) (pairs:Prs) (t:Nat) (rest:Ops) (env:Env) (s:k4) (K:Kt):Prop:=match b with
 | true=>XQ fs pairs rest ((t,d)::env) s K
 | false=>False
def GW (d:D) (b:Bool) (fs:FuncId->Option t5) (pairs:Prs) (x:Nat×O3) (t:Option Nat) (rest:Ops) (env:Env) (s:k4) (K:Kt):Prop:=Way d b (XQ fs pairs (x::rest) env s K) (XQ fs pairs rest (env.put t (.tup [])) s K)
def a65 (a b:Nat):Prop:=a≠b
def a1E (id:Nat):List Nat->Prop
 | []=>True
 | x::r=>a65 id x/\a1E id r
theorem a51 {id:Nat}:∀ {l:List Nat},a1E id l->id∉l
 | [],_=>by simp
 | x::r,h=>by
   have:=a51 h.2
   have h1:id≠x:=h.1
   simp [h1,this]
def a14:Prs->Nat->Nat->Bool
 | [],_,_=>false
 | (a,b)::r,i,j=>match Nat.beq a i with
   | true=>match Nat.beq b j with
     | true=>true
     | false=>a14 r i j
   | false=>a14 r i j
theorem a6o:∀ {l:Prs} {i j:Nat},(i,j)∈l->a14 l i j=true
 | (a,b)::r,i,j,h=>by
   simp only [a14]
   rcases List.mem_cons.1 h with h | h
   ·cases h
    have e:∀n:Nat,Nat.beq n n=true:=fun n=>Nat.beq_refl n
    rw [e,e]
   ·have ih:=a6o h
    split
    ·split
     ·rfl
     ·exact ih
    ·exact ih
def a1Z (pairs:Prs) (i id:Nat):List Ent->Prop
 | []=>True
 | e::T=>(a14 pairs e.i i=true->a1E id e.eff)/\a1Z pairs i id T
theorem b0G {pairs:Prs} {i id:Nat}:∀ {T:List Ent},a1Z pairs i id T->∀e∈T,(e.i,i)∈pairs->id∉e.eff
 | e::T,h,x,hx,hp=>by
   rcases List.mem_cons.1 hx with rfl | hx
   ·exact a51 (h.1 (a6o hp))
   ·exact b0G h.2 x hx hp
def NeO (r:Option Nat) (id:Nat):Prop:=match r with
 | some x=>a65 x id
 | none=>True
def a2P (pairs:Prs) (i id:Nat):List Ent->Prop
 | []=>True
 | e::T=>(a14 pairs e.i i=true->NeO e.rd id/\a1E id e.eff)/\a2P pairs i id T
theorem b1i {pairs:Prs} {i id:Nat}:∀ {T:List Ent},a2P pairs i id T->∀e∈T,(e.i,i)∈pairs->e.rd≠some id/\id∉e.eff
 | e::T,h,x,hx,hp=>by
   rcases List.mem_cons.1 hx with rfl | hx
   ·obtain ⟨h1,h2⟩:=h.1 (a6o hp)
    refine ⟨fun he=>?_,a51 h2⟩
    rw [he] at h1;exact h1 rfl
   ·exact b1i h.2 x hx hp
def a1H (pairs:Prs) (i:Nat) (E:List Nat):List Ent->Prop
 | []=>True
 | e::T=>(a14 pairs e.i i=true->match e.rd with | some x=>a1E x E | none=>True)/\a1H pairs i E T
theorem b1N {pairs:Prs} {i:Nat} {E:List Nat}:∀ {T:List Ent},a1H pairs i E T->∀e∈T,(e.i,i)∈pairs->∀id,e.rd=some id->id∉E
 | e::T,h,x,hx,hp,id,hr=>by
   rcases List.mem_cons.1 hx with rfl | hx
   ·have h1:=h.1 (a6o hp)
    rw [hr] at h1
    exact a51 h1
   ·exact b1N h.2 x hx hp id hr
def XX (fs:FuncId->Option t5) (pairs:Prs):List Ent->Ops->Env->k4->Kt->Prop
 | _,[],env,s,K=>K env s
 | T,(i,⟨dst,op,g⟩)::rest,env,s,K =>
   let run:Prop:=match dst,op with
    | some t,.p o=>match evP env o with
      | some d=>XX fs pairs T rest ((t,d)::env) s K
      | none=>False
    | some t,.r (.load n x)=>match env.ev x with
      | .fp cs off=>match ldV s.get n (.fp cs off) with
        | some d=>XX fs pairs T rest ((t,d)::env) s K
        | none=>False
      | .ptr id off=>match ldV s.get n (.ptr id off) with
        | some d=>a1Z pairs i id T/\XX fs pairs (⟨i,some id,[]⟩::T) rest ((t,d)::env) s K
        | none=>False
      | _=>False
    | some t,.a o=>match evA env o with
      | some (ob,m)=>XX fs pairs (⟨i,none,[s.next]⟩::T) rest ((t,m.at s.next)::env) (s.push ob) K
      | none=>False
    | none,.w n a v=>match env.ev a with
      | .ptr id _=>match evW env s.get n a v with
        | some (id',ob)=>id'=id/\a2P pairs i id T/\XX fs pairs (⟨i,some id,[id]⟩::T) rest env (s.set id (some ob)) K
        | none=>False
      | _=>False
    | some t,.m (.call .iso (.cst (.fn f [])) args)=>match M6 (ice s.get 20) (env.evL args) with
      | some l=>∃d,a1t fs f l d/\(Z6 d||pureL (env.evL args))=true/\XX fs pairs T rest ((t,d)::env) s K
      | none=>False
    | some t,.m (.append sz bytes a x)=>∃d s' E,S8 sz bytes (env.ev a) (env.ev x) s=some (d,s')/\s.next<=s'.next/\(∀id,id∉E->s.get id=s'.get id)/\a1H pairs i E T/\XX fs pairs (⟨i,none,E⟩::T) rest ((t,d)::env) s' K
    | dst,op=>WX fs pairs T ((i,⟨dst,op,none⟩)::rest) env s K
   match g with
   | none=>run
   | some (r,b)=>Way (env.get r) b run (XX fs pairs T rest (env.put dst (.tup [])) s K)
theorem c00 {pairs T i t o r b rest s Q} {env:Env} {d:D} (hw:env.get r=d)
 (h:Way d b (WX fs pairs T ((i,⟨t,o,none⟩)::rest) env s Q) (WX fs pairs T rest (env.put t (.tup [])) s Q)):WX fs pairs T ((i,⟨t,o,some (r,b)⟩)::rest) env s Q:=by
 unfold Way at h
 split at h
 ·rename_i c
  by_cases hc:c=b
  ·rw [if_pos hc] at h;subst hc
   intro tr ht
   obtain ⟨n,env',s',h1,h2⟩:=h tr ht
   refine ⟨n,env',s',?_,h2⟩
   simp only [V8,Z7,hw,beq_self_eq_true] at h1 ⊢
   exact h1
  ·rw [if_neg hc] at h
   exact b3Q (by simp only [Z7,hw];cases c<;>cases b<;>simp_all) h
 ·exact b3Q (by simp only [Z7,hw]) h
 ·exact h.elim
theorem a2l {pairs:Prs}:∀ {T:List Ent} {ops:Ops} {env:Env} {s:k4} {K:Kt},XX fs pairs T ops env s K->WX fs pairs T ops env s K
 | T,[],env,s,K,h=>c3y h
 | T,(i,⟨dst,op,g⟩)::rest,env,s,K,h=>by
   have key:∀ (h:XX fs pairs T ((i,⟨dst,op,none⟩)::rest) env s K),WX fs pairs T ((i,⟨dst,op,none⟩)::rest) env s K:=by
    intro h
    unfold XX at h
    simp only at h
    split at h
    ·split at h
     ·rename_i d e;exact b86 e (a2l h)
     ·exact h.elim
    ·split at h
     ·rename_i e
      split at h
      ·rename_i d e2;exact b7E e e2 (a2l h)
      ·exact h.elim
     ·rename_i e
      split at h
      ·rename_i d e2;exact c28 e e2 (b0G h.1) (a2l h.2)
      ·exact h.elim
     ·exact h.elim
    ·split at h
     ·rename_i ob m e;exact b5n e (a2l h)
     ·exact h.elim
    ·split at h
     ·rename_i e
      split at h
      ·rename_i id' ob e2
       obtain ⟨rfl,h2,h3⟩:=h
       exact b6R e e2 (b1i h2) (a2l h3)
      ·exact h.elim
     ·exact h.elim
    ·split at h
     ·rename_i l hl
      obtain ⟨d,⟨r,s1,h1,h2⟩,h3,h4⟩:=h
      exact c3a rfl hl h1 h2 h3 (a2l h4)
     ·exact h.elim
    ·obtain ⟨d,s',E,h1,h2,h3,h4,h5⟩:=h
     exact c2x ⟨0,by simp only [evM];exact h1⟩ h3 h2 (b1N h4) (a2l h5)
    ·exact h
   cases g with
   | none=>exact key h
   | some rb =>
     obtain ⟨r,b⟩:=rb
     refine c00 (d:=env.get r) rfl ?_
     have h':Way (env.get r) b (XX fs pairs T ((i,⟨dst,op,none⟩)::rest) env s K) (XX fs pairs T rest (env.put dst (.tup [])) s K):=h
     unfold Way at h' ⊢
     split at h'
     ·rename_i c _
      split at h'
      ·rename_i hc;simp only [hc,if_true];exact key h'
      ·rename_i hc;simp only [hc,if_false];exact a2l h'
     ·exact a2l h'
     ·exact h'
def RX (fs:FuncId->Option t5) (pairs:Prs) (ops:Ops) (env:Env) (s:k4) (K:Kt):Prop:=match pairs with
 | []=>XQ fs [] ops env s K
 | p::ps=>XX fs (p::ps) [] ops env s K
def b0O (k:Env->k4->Prop) (Q:W0->Env->k4->Prop):W0->Env->k4->Prop
 | .normal,env,s=>k env s
 | e,env,s=>Q e env s
def YW (fs:FuncId->Option t5) (vars:List Nat):a0h->(W0->Env->k4->Prop)->Env->k4->Prop
 | .skip,Q,env,s=>End Q .normal env s
 | .region r,Q,env,s=>RX fs r.pairs r.ops env s (RgK vars Q)
 | .seq a b,Q,env,s=>YW fs vars a (b0O (YW fs vars b Q) Q) env s
 | .cond c x y,Q,env,s=>a1a (env.ev c) (YW fs vars x Q env s) (YW fs vars y Q env s)
 | .block id b,Q,env,s=>YW fs vars b (M9 id Q) env s
 | .loop b,Q,env,s=>WP fs vars (.loop b) env s Q
 | .exit id,Q,env,s=>End Q (.exit id) env s
 | .ret,Q,env,s=>End Q .ret env s
def a44 (fs:FuncId->Option t5) (vars:List Nat) (b:a0h) (Q:W0->Env->k4->Prop):W0->Env->k4->Prop
 | .normal,env,s=>YW fs vars b Q env s
 | e,env,s=>Q e env s
theorem a1u:∀ {pairs:Prs} {ops:Ops} {env:Env} {s:k4} {K:Kt},XQ fs pairs ops env s K->WQ fs pairs ops env s K
 | pairs,[],env,s,K,h=>b0c h
 | pairs,(i,⟨dst,op,g⟩)::rest,env,s,K,h=>by
   have key:∀ (h:XQ fs pairs ((i,⟨dst,op,none⟩)::rest) env s K),WQ fs pairs ((i,⟨dst,op,none⟩)::rest) env s K:=by
    intro h
    unfold XQ at h
    simp only at h
    split at h
    ·split at h
     ·rename_i d e;exact a6X e (a1u h)
     ·exact h.elim
    ·split at h
     ·rename_i d e;exact a91 e (a1u h)
     ·exact h.elim
    ·split at h
     ·split at h
      ·rename_i ob m e;exact a8j e (a1u h)
      ·exact h.elim
     ·split at h
      ·rename_i hf
       refine a6x hf ?_
       split at h
       ·rename_i ob m e;exact a8j e (a1u h)
       ·exact h.elim
      ·exact h
    ·split at h
     ·split at h
      ·rename_i ob m e;exact a6S e (a1u h)
      ·exact h.elim
     ·split at h
      ·rename_i hf
       refine a6x hf ?_
       split at h
       ·rename_i ob m e;exact a6S e (a1u h)
       ·exact h.elim
      ·exact h
    ·split at h
     ·split at h
      ·rename_i l hl
       obtain ⟨d,⟨r,s1,h1,h2⟩,h3,h4⟩:=h
       exact b0L hl h1 h2 h3 (a1u h4)
      ·exact h.elim
     ·split at h
      ·rename_i d s' e;exact a9I e (a1u h)
      ·exact h.elim
     ·split at h
      ·rename_i hf
       refine a6x hf ?_
       split at h
       ·rename_i d s' e;exact a9I e (a1u h)
       ·exact h.elim
      ·exact h
     ·exact h
    ·exact h
   cases g with
   | none=>exact key h
   | some rb =>
     obtain ⟨r,b⟩:=rb
     refine b1D (d:=env.get r) rfl ?_
     have h':Way (env.get r) b (XQ fs pairs ((i,⟨dst,op,none⟩)::rest) env s K) (XQ fs pairs rest (env.put dst (.tup [])) s K):=h
     unfold Way at h' ⊢
     split at h'
     ·rename_i c _
      split at h'
      ·rename_i hc;simp only [hc,if_true];exact key h'
      ·rename_i hc;simp only [hc,if_false];exact a1u h'
     ·exact a1u h'
     ·exact h'
theorem a3t {vars:List Nat}:∀ {c:a0h} {Q:W0->Env->k4->Prop} {env:Env} {s:k4},YW fs vars c Q env s->WP fs vars c env s Q
 | .skip,_,_,_,h=>b1b h
 | .region ⟨ops,[],dr⟩,Q,_,_,h=>a94 (a1u h)
 | .region ⟨ops,p::ps,dr⟩,Q,_,_,h=>b6U (a2l h)
 | .seq a b,Q,env,s,h=>by
   refine b2t ((a3t (c:=a) h).mono fun e env s h=>?_)
   cases e with
   | normal=>exact a3t (c:=b) h
   | exit id=>exact h
   | ret=>exact h
 | .cond c x y,Q,env,s,h=>by
   refine b3k (d:=env.ev c) rfl ?_
   have h':a1a (env.ev c) (YW fs vars x Q env s) (YW fs vars y Q env s):=h
   unfold a1a at h' ⊢
   split at h'
   ·split at h'
    ·rename_i hc;simp only [hc,if_true];exact a3t h'
    ·rename_i hc;simp only [hc];exact a3t h'
   ·exact h'
 | .block id b,Q,env,s,h=>b1U (a3t (c:=b) h)
 | .loop b,Q,env,s,h=>h
 | .exit id,_,_,_,h=>b0y h
 | .ret,_,_,_,h=>b3f h
theorem b75 {vars b Q}:b0O (YW fs vars b Q) Q=a44 fs vars b Q:=by
 funext e env s
 cases e<;>rfl
theorem b8Y {vars Q env s}:YW fs vars .skip Q env s=End Q .normal env s:=Eq.trans rfl rfl
theorem b9n {vars a b Q env s}:YW fs vars (.seq a b) Q env s=YW fs vars a (a44 fs vars b Q) env s:=by rw [<- b75];rfl
def CW (d:D) (fs:FuncId->Option t5) (vars:List Nat) (x y:a0h) (Q:W0->Env->k4->Prop) (env:Env) (s:k4):Prop:=a1a d (YW fs vars x Q env s) (YW fs vars y Q env s)
theorem b7k {vars c x y Q env s}:YW fs vars (.cond c x y) Q env s=CW (env.ev c) fs vars x y Q env s:=Eq.trans rfl rfl
theorem b9O {vars id b Q env s}:YW fs vars (.block id b) Q env s=YW fs vars b (M9 id Q) env s:=Eq.trans rfl rfl
theorem c0h {vars id Q env s}:YW fs vars (.exit id) Q env s=End Q (.exit id) env s:=Eq.trans rfl rfl
theorem b5b {vars b Q env s}:YW fs vars (.loop b) Q env s=WP fs vars (.loop b) env s Q:=Eq.trans rfl rfl
theorem c3e {vars Q env s}:YW fs vars .ret Q env s=End Q .ret env s:=Eq.trans rfl rfl
theorem b5Z {pairs vars Q env s}:XQ fs pairs [] env s (RgK vars Q)=End Q .normal (env.keep vars) s:=Eq.trans rfl rfl
theorem b2C {pairs i t f args rest env s K}:XQ fs pairs ((i,⟨some t,.m (.call .iso (.cst (.fn f [])) args),none⟩)::rest) env s K=BL (M6 (ice s.get 20) (env.evL args)) (pureL (env.evL args)) fs f pairs t rest env s K:=by
 unfold XQ BL BC;cases pairs<;>rfl
theorem b3b {pairs i t f args rest env s K}:XQ fs pairs ((i,⟨some t,.m (.call .raw f args),none⟩)::rest) env s K=WQ fs pairs ((i,⟨some t,.m (.call .raw f args),none⟩)::rest) env s K:=by cases pairs<;>rfl
theorem c38 {i t sz bytes a x rest env s K}:XQ fs [] ((i,⟨some t,.m (.append sz bytes a x),none⟩)::rest) env s K=BM (S8 sz bytes (env.ev a) (env.ev x) s) fs t rest env K:=Eq.trans rfl rfl
theorem c1o {d pairs t rest env s K}:BP (some d) fs pairs t rest env s K=XQ fs pairs rest ((t,d)::env) s K:=Eq.trans rfl rfl
theorem c23 {ob t rest env s K}:BA (some (ob,.ptr)) fs t rest env s K=XQ fs [] rest ((t,.ptr s.next 0)::env) (s.push ob) K:=Eq.trans rfl rfl
theorem b9k {ob t rest env s K l sz}:BA (some (ob,.arr l sz)) fs t rest env s K=XQ fs [] rest ((t,.arr s.next 0 l sz)::env) (s.push ob) K:=Eq.trans rfl rfl
theorem b8q {id ob rest env s K}:BW (some (id,ob)) fs rest env s K=XQ fs [] rest env (s.set id (some ob)) K:=Eq.trans rfl rfl
theorem c2y {l p f pairs t rest env s K}:BL (some l) p fs f pairs t rest env s K=BC fs f l p pairs t rest env s K:=Eq.trans rfl rfl
theorem c4B {d pairs t rest env s K}:BF true d fs pairs t rest env s K=XQ fs pairs rest ((t,d)::env) s K:=Eq.trans rfl rfl
theorem b3r {vars x y Q env s}:CW (.bool true) fs vars x y Q env s=YW fs vars x Q env s:=by simp [CW,a1a]
theorem b4i {vars x y Q env s}:CW (.bool false) fs vars x y Q env s=YW fs vars y Q env s:=by simp [CW,a1a]
theorem c0R {pairs x t rest env s K}:GW (.bool true) true fs pairs x t rest env s K=XQ fs pairs (x::rest) env s K:=by simp [GW,Way]
theorem b8n {pairs x t rest env s K}:GW (.bool false) false fs pairs x t rest env s K=XQ fs pairs (x::rest) env s K:=by simp [GW,Way]
theorem b6c {pairs x t rest env s K}:GW (.bool true) false fs pairs x t rest env s K=XQ fs pairs rest (env.put t (.tup [])) s K:=by simp [GW,Way]
theorem c04 {pairs x t rest env s K}:GW (.bool false) true fs pairs x t rest env s K=XQ fs pairs rest (env.put t (.tup [])) s K:=by simp [GW,Way]
theorem c3I {b pairs x t rest env s K}:GW (.tup []) b fs pairs x t rest env s K=XQ fs pairs rest (env.put t (.tup [])) s K:=Eq.trans rfl rfl
theorem c4h {env:Env} {t d}:env.put (some t) d=(t,d)::env:=Eq.trans rfl rfl
theorem c3T {vars b Q env s}:End (a44 fs vars b Q) .normal env s=YW fs vars b Q env s:=Eq.trans rfl rfl
theorem c0C {vars b Q id env s}:End (a44 fs vars b Q) (.exit id) env s=End Q (.exit id) env s:=Eq.trans rfl rfl
theorem c3C {vars b Q env s}:End (a44 fs vars b Q) .ret env s=End Q .ret env s:=Eq.trans rfl rfl
theorem b6P {id Q env s}:End (M9 id Q) .normal env s=End Q .normal env s:=Eq.trans rfl rfl
theorem b6L {id Q env s}:End (M9 id Q) .ret env s=End Q .ret env s:=Eq.trans rfl rfl
theorem c25 {id id' Q env s}:End (M9 id Q) (.exit id') env s=if id'=id then End Q .normal env s else End Q (.exit id') env s:=Eq.trans rfl rfl
theorem a1F {b:Bool} {vars x y Q env s} (h1:b=true->YW fs vars x Q env s) (h2:b=false->YW fs vars y Q env s):CW (.bool b) fs vars x y Q env s:=by
 cases b
 ·rw [b4i];exact h2 rfl
 ·rw [b3r];exact h1 rfl
theorem a1U {c b:Bool} {pairs x t rest env s K} (h1:c=true->GW (.bool true) b fs pairs x t rest env s K) (h2:c=false->GW (.bool false) b fs pairs x t rest env s K):GW (.bool c) b fs pairs x t rest env s K:=by
 cases c
 ·exact h2 rfl
 ·exact h1 rfl
theorem b5K {g:P0} {n:Nat}:M6 (ice g (n+1)) []=some []:=Eq.trans rfl rfl
theorem c2j {g:P0} {n:Nat} {k:IntKind} {x:Int} {l:List D}:M6 (ice g (n+1)) (.int k x::l)=(M6 (ice g (n+1)) l).map (.int k x::·):=by
 simp only [M6,ice];cases M6 (ice g (n+1)) l<;>rfl
theorem b6q {g:P0} {n:Nat} {x:Bool} {l:List D}:M6 (ice g (n+1)) (.bool x::l)=(M6 (ice g (n+1)) l).map (.bool x::·):=by
 simp only [M6,ice];cases M6 (ice g (n+1)) l<;>rfl
theorem c01 {g:P0} {n:Nat} {x:ByteArray} {l:List D}:M6 (ice g (n+1)) (.str x::l)=(M6 (ice g (n+1)) l).map (.str x::·):=by
 simp only [M6,ice];cases M6 (ice g (n+1)) l<;>rfl
theorem c2e {g:P0} {n:Nat} {d:D} {l:List D} (h:PZ d):M6 (ice g (n+3)) (d::l)=(M6 (ice g (n+3)) l).map (d::·):=by
 simp only [M6,h.2 g n];cases M6 (ice g (n+3)) l<;>rfl
theorem a9a {g:P0} {n:Nat} {d d':D} {l:List D} (h:ice g n d=some d'):M6 (ice g n) (d::l)=(M6 (ice g n) l).map (d'::·):=by
 simp only [M6,h];cases M6 (ice g n) l<;>rfl
theorem b9A {d:D} (h:PZ d):U4 d=true:=h.1
theorem b4T:pureL []=true:=Eq.trans rfl rfl
theorem b5x {d:D} {l:List D}:pureL (d::l)=(U4 d&&pureL l):=Eq.trans rfl rfl
theorem b8w {k:IntKind} {n:Int}:U4 (.int k n)=true:=Eq.trans rfl rfl
theorem c4c {b:Bool}:U4 (.bool b)=true:=Eq.trans rfl rfl
theorem c1Y {b:ByteArray}:U4 (.str b)=true:=Eq.trans rfl rfl
theorem c4o {k:IntKind} {n:Int}:Z6 (.int k n)=true:=Eq.trans rfl rfl
theorem b6r {b:Bool}:Z6 (.bool b)=true:=Eq.trans rfl rfl
theorem b9Y {l:List D}:Z6 (.agg l)=scalarL l:=Eq.trans rfl rfl
theorem c1w {l:List D}:Z6 (.tup l)=scalarL l:=Eq.trans rfl rfl
theorem b4L:scalarL []=true:=Eq.trans rfl rfl
theorem b54 {d:D} {l:List D}:scalarL (d::l)=(Z6 d&&scalarL l):=Eq.trans rfl rfl
theorem c2b {g:P0} {n:Nat} {k:IntKind} {x:Int}:ice g (n+1) (.int k x)=some (.int k x):=Eq.trans rfl rfl
theorem c0S {g:P0} {n:Nat} {x:Bool}:ice g (n+1) (.bool x)=some (.bool x):=Eq.trans rfl rfl
theorem c0s {g:P0} {n:Nat} {l:List D}:ice g (n+1) (.tup l)=(M6 (ice g n) l).map .tup:=Eq.trans rfl rfl
theorem b5P {env:Env} {s:k4} {x}:S6 env s [x]=V0 env s x:=by
 unfold S6 T0
 cases V0 env s x<;>rfl
theorem b7u {env:Env} {s:k4} {x y l}:S6 env s (x::y::l)=(T0 env s (x::y::l)).map .tup:=by
 unfold S6
 simp only [T0]
 cases V0 env s x<;>cases V0 env s y<;>cases T0 env s l<;>rfl
theorem b4Y {env:Env} {s:k4}:T0 env s []=some []:=Eq.trans rfl rfl
theorem b8r {env:Env} {s:k4} {x l}:T0 env s (x::l)=(V0 env s x).bind fun d=>(T0 env s l).map (d::·):=by
 simp only [T0]
 cases V0 env s x<;>cases T0 env s l<;>rfl
theorem c4n {env:Env} {s:k4} {t}:V0 env s (t,none)=some (env.get t):=Eq.trans rfl rfl
def a9V (s:k4) (n:Option Nat):D->Option D
 | .ptr id off=>ldV s.get n (.ptr id off)
 | _=>none
theorem b9F {env:Env} {s:k4} {t n}:V0 env s (t,some n)=a9V s n (env.get t):=by
 simp only [V0,a9V]
 cases h:env.get t<;>rfl
theorem c2t {s:k4} {n id off}:a9V s n (.ptr id off)=ldV s.get n (.ptr id off):=Eq.trans rfl rfl
def a4J (res:List (Nat×Option (Option Nat))) (P:D->k4->Prop):W0->Env->k4->Prop:=fun e env s=>(e=.normal∨e=.ret)/\∃d,S6 env s res=some d/\P d s
def RB (r:Option D) (s:k4) (P:D->k4->Prop):Prop:=match r with
 | some d=>P d s
 | none=>False
theorem c2v {res P env s}:End (a4J res P) .ret env s=RB (S6 env s res) s P:=by
 unfold End a4J RB
 apply propext
 cases S6 env s res<;>simp
theorem a3w {d s} {P:D->k4->Prop} (h:P d s):RB (some d) s P:=h
def b0f (x:D):D->k4->Prop:=fun r s=>ice s.get 20 r=some x
theorem c1s {d s x}:RB (some d) s (b0f x)=(ice s.get 20 d=some x):=Eq.trans rfl rfl
def b3i (P:D->Prop):D->k4->Prop:=fun r s=>∃d,ice s.get 20 r=some d/\P d
theorem b71 {d s P}:RB (some d) s (b3i P)=∃x,ice s.get 20 d=some x/\P x:=Eq.trans rfl rfl
theorem a2H {f:FuncId} {vf:t5} {args:List D} {s:k4} {P:D->k4->Prop} (hf:fs f=some vf) (h:YW fs vf.vars vf.code (a4J vf.res P) (vf.vars.map fun t=>(t,args.getD t .undef)) s):EvP fs f args s P:=M3 hf (a3t h)
theorem W3 {f:FuncId} {vf:t5} {args:List D} {d:D} (hf:fs f=some vf) (h:YW fs vf.vars vf.code (a4J vf.res (b0f d)) (vf.vars.map fun t=>(t,args.getD t .undef)) k4.empty):a1t fs f args d:=by
 obtain ⟨r,s1,h1,h2⟩:=a2H hf h
 exact ⟨r,s1,h1,h2⟩
def b2m (fs:FuncId->Option t5) (f:FuncId) (args:List D) (P:D->Prop):Prop:=∃d,a1t fs f args d/\P d
theorem b6V {f:FuncId} {vf:t5} {args:List D} {P:D->Prop} (hf:fs f=some vf) (h:YW fs vf.vars vf.code (a4J vf.res (b3i P)) (vf.vars.map fun t=>(t,args.getD t .undef)) k4.empty):b2m fs f args P:=by
 obtain ⟨r,s1,h1,d,h2,h3⟩:=a2H hf h
 exact ⟨d,⟨r,s1,h1,h2⟩,h3⟩
theorem a9C {i t f args rest s K} {env:Env} {l:List D} {P:D->k4->Prop} (hr:EvP fs f l s P) (ha:env.evL args=l)
 (h:∀d s',P d s'->XQ fs [] rest ((t,d)::env) s' K):WQ fs [] ((i,⟨some t,.m (.call .raw (.cst (.fn f [])) args),none⟩)::rest) env s K:=S9 hr ha fun d s' hp=>a1u (h d s' hp)
inductive Rf {α:Type} (a b:α):Prop where
 | mk (h:a=b)
def a3r:Env->Nat->Option D
 | [],_=>none
 | (s,d)::r,t=>match Nat.beq s t with
   | true=>some d
   | false=>a3r r t
theorem a62:∀ {env:Env} {t:Nat} {d:D},a3r env t=some d->env.get t=d
 | [],_,_,h=>by simp [a3r] at h
 | (s,d)::r,t,d',h=>by
   simp only [a3r] at h
   split at h
   ·rename_i e
    have:=Nat.eq_of_beq_eq_true e
    cases h
    simp only [Env.get,this,if_true]
   ·rename_i e
    have:s≠t:=fun he=>by subst he;simp at e
    simp only [Env.get,this,if_false]
    exact a62 h
theorem c4f {env:Env} {t:Nat} {d:D} (h:Rf (a3r env t) (some d)):Env.get env t=d:=a62 h.1
def a2m:List Nat->Env->Option Env
 | [],_=>some []
 | t::r,env=>match a3r env t with
   | some d=>match a2m r env with
     | some l=>some ((t,d)::l)
     | none=>none
   | none=>none
theorem a4h:∀ {vars:List Nat} {env e:Env},a2m vars env=some e->env.keep vars=e
 | [],_,_,h=>by simp [a2m] at h;exact h.symm
 | t::r,env,e,h=>by
   simp only [a2m] at h
   split at h
   ·rename_i d hd
    split at h
    ·rename_i l hl
     cases h
     show (t,env.get t)::env.keep r=_
     rw [a62 hd,a4h hl]
    ·cases h
   ·cases h
theorem b8A {vars:List Nat} {env e:Env} (h:Rf (a2m vars env) (some e)):env.keep vars=e:=a4h h.1
def a3K (vars l:List Nat) (e0:Env) (f:Nat->D):Env:=vars.map fun t=>(t,if l.contains t then e0.get t else f t)
def a53:List Nat->Nat->Bool
 | [],_=>false
 | s::r,t=>match Nat.beq s t with
   | true=>true
   | false=>a53 r t
theorem b2L:∀ {l:List Nat} {t:Nat},a53 l t=l.contains t
 | [],_=>rfl
 | s::r,t=>by
   simp only [a53,List.contains_cons]
   split
   ·rename_i e
    have:=Nat.eq_of_beq_eq_true e
    simp [this]
   ·rename_i e
    have:(t==s)=false:=by
     rw [beq_eq_false_iff_ne];intro he;subst he;simp at e
    rw [this,Bool.false_or];exact b2L
def a3Z:List Nat->List Nat->Env->(Nat->D)->Option Env
 | [],_,_,_=>some []
 | t::r,l,e0,f=>match a53 l t with
   | true=>match a3r e0 t with
     | some d=>match a3Z r l e0 f with
       | some e=>some ((t,d)::e)
       | none=>none
     | none=>none
   | false=>match a3Z r l e0 f with
     | some e=>some ((t,f t)::e)
     | none=>none
theorem a7s:∀ {vars l:List Nat} {e0 e:Env} {f:Nat->D},a3Z vars l e0 f=some e->a3K vars l e0 f=e
 | [],_,_,_,_,h=>by simp [a3Z] at h;exact h.symm
 | t::r,l,e0,e,f,h=>by
   simp only [a3Z] at h
   show (t,if l.contains t then e0.get t else f t)::a3K r l e0 f=e
   rw [<- b2L]
   split at h
   ·rename_i hb
    split at h
    ·rename_i d hd
     split at h
     ·rename_i e' he
      cases h
      rw [hb,if_pos rfl,a62 hd,a7s he]
     ·cases h
    ·cases h
   ·rename_i hb
    split at h
    ·rename_i e' he
     cases h
     rw [hb,if_neg (by simp),a7s he]
    ·cases h
theorem b42 {vars l:List Nat} {e0 e:Env} {f:Nat->D} (h:Rf (a3Z vars l e0 f) (some e)):a3K vars l e0 f=e:=a7s h.1
def a28 (vars l:List Nat) (e0 e:Env):Prop:=e.keep vars=e/\e.keep l=e0.keep l
theorem b8p {vars l:List Nat} {e0 e x:Env} (h1:Rf (a2m vars e) (some e)) (h2:Rf (a2m l e0) (some x)) (h3:Rf (a2m l e) (some x)):a28 vars l e0 e=True:=eq_true ⟨a4h h1.1,by rw [a4h h2.1,a4h h3.1]⟩
theorem c2o {l:List Nat} {e e0:Env} (h:e.keep l=e0.keep l) {t:Nat} (ht:t∈l):e.get t=e0.get t:=by
 unfold Env.keep at h
 have:=List.map_inj_left.1 h t ht
 simpa using this
theorem b0Q {vars l:List Nat} {e0 e:Env} (h:a28 vars l e0 e):e=a3K vars l e0 fun t=>e.get t:=by
 conv=>lhs;rw [<- h.1]
 unfold Env.keep a3K
 refine List.map_congr_left fun t _=>?_
 by_cases ht:t∈l
 ·rw [if_pos (List.contains_iff_mem.2 ht),c2o h.2 ht]
 ·rw [if_neg (by simpa using ht)]
abbrev It:=Nat->(Nat->D)->k4->Prop
def UpQ (vars l:List Nat) (e0:Env) (n i:Nat) (I:It) (Q:W0->Env->k4->Prop):W0->Env->k4->Prop
 | .normal,env,s=>a28 vars l e0 env/\i<n/\I (i+1) (fun t=>env.get t) s
 | e,env,s=>Q e env s
theorem b9f {vars l e0 n i I Q env s}:End (UpQ vars l e0 n i I Q) .normal env s=(a28 vars l e0 env/\i<n/\I (i+1) (fun t=>env.get t) s):=Eq.trans rfl rfl
theorem b7W {vars l e0 n i I Q id env s}:End (UpQ vars l e0 n i I Q) (.exit id) env s=End Q (.exit id) env s:=Eq.trans rfl rfl
theorem c1a {vars l e0 n i I Q env s}:End (UpQ vars l e0 n i I Q) .ret env s=End Q .ret env s:=Eq.trans rfl rfl
theorem c35 {vars l:List Nat} {e:Env} (h:Rf (a2m vars e) (some e)):a28 vars l e e:=⟨a4h h.1,rfl⟩
theorem a0d {vars b Q env0 s0} (l:List Nat) (a n:Nat) (I:It) (h1:Rf (a2m vars env0) (some env0)) (ha:a<=n) (h0:I a (fun t=>env0.get t) s0) (hs:∀i f s,i<=n->I i f s->YW fs vars b (UpQ vars l env0 n i I Q) (a3K vars l env0 f) s):WP fs vars (.loop b) env0 s0 Q:=by
 refine U2 (fun k env s=>∃i,i<=n/\k=n-i/\a28 vars l env0 env/\I i (fun t=>env.get t) s) ?_ (n-a) _ _ ⟨a,ha,rfl,c35 h1,h0⟩
 rintro k env s ⟨i,hi,rfl,hk,hI⟩
 have:=hs i _ s hi hI
 rw [<- b0Q hk] at this
 refine (a3t this).mono fun e env' s' h=>?_
 cases e with
 | normal =>
   obtain ⟨h1,h2,h3⟩:=h
   exact ⟨n-(i+1),by omega,i+1,by omega,rfl,h1,h3⟩
 | exit id=>exact h
 | ret=>exact h
def a7f (vars l:List Nat) (e0:Env) (P:(Nat->D)->k4->Prop) (Q:W0->Env->k4->Prop):W0->Env->k4->Prop
 | .normal,env,s=>a28 vars l e0 env/\P (fun t=>env.get t) s
 | e,env,s=>Q e env s
theorem b7r {vars l e0 P Q env s}:End (a7f vars l e0 P Q) .normal env s=(a28 vars l e0 env/\P (fun t=>env.get t) s):=Eq.trans rfl rfl
theorem c3G {vars l e0 P Q env s}:End (a7f vars l e0 P Q) .ret env s=End Q .ret env s:=Eq.trans rfl rfl
theorem WQ.mono {pairs ops env s} {K K':Env->k4->Prop} (h:WQ fs pairs ops env s K) (hk:∀env s,K env s->K' env s):WQ fs pairs ops env s K':=fun tr ht=>by
 obtain ⟨n,env',s',h1,h2⟩:=h tr ht
 exact ⟨n,env',s',h1,hk _ _ h2⟩
theorem Way.mono {d:D} {b:Bool} {A B A' B':Prop} (h:Way d b A B) (h1:A->A') (h2:B->B'):Way d b A' B':=by
 unfold Way at *;split at h
 ·split at h
  ·rename_i hc;rw [if_pos hc];exact h1 h
  ·rename_i hc;rw [if_neg hc];exact h2 h
 ·exact h2 h
 ·exact h
theorem a1a.mono {d:D} {A B A' B':Prop} (h:a1a d A B) (h1:A->A') (h2:B->B'):a1a d A' B':=by
 unfold a1a at *;split at h
 ·split at h
  ·rename_i hc;rw [if_pos hc];exact h1 h
  ·rename_i hc;rw [if_neg hc];exact h2 h
 ·exact h
theorem WX.mono {pairs T ops env s} {K K':Kt} (h:WX fs pairs T ops env s K) (hk:∀env s,K env s->K' env s):WX fs pairs T ops env s K':=fun tr ht=>by
 obtain ⟨n,env',s',h1,h2⟩:=h tr ht
 exact ⟨n,env',s',h1,hk _ _ h2⟩
theorem a2f {vars c Q env s id} (l:List Nat) (P:(Nat->D)->k4->Prop) (h:WP fs vars c env s (M9 id (a7f vars l env P Q))) (k:∀f s,P f s->End Q .normal (a3K vars l env f) s):WP fs vars c env s (M9 id Q):=by
 have key:∀env' s,a7f vars l env P Q .normal env' s->Q .normal env' s:=fun env' s h=>by
  have:=k _ s h.2
  rw [<- b0Q h.1] at this
  exact this
 refine WP.mono h fun e env' s h=>?_
 cases e with
 | normal=>exact key _ _ h
 | exit id' =>
   simp only [M9] at h ⊢
   by_cases hc:id'=id
   ·rw [if_pos hc] at h ⊢;exact key _ _ h
   ·rw [if_neg hc] at h ⊢;exact h
 | ret=>exact h
theorem b8u {env:Env} {t:Nat}:env.ev (.tmp t)=env.get t:=Eq.trans rfl rfl
theorem c2i {env:Env} {d:D}:env.ev (.cst d)=d:=Eq.trans rfl rfl
theorem c3k {pairs i t o rest env s K}:XQ fs pairs (xq i t o::rest) env s K=BP (evP env o) fs pairs t rest env s K:=Eq.trans rfl rfl
theorem c1V {pairs i t o g b rest env s K}:XQ fs pairs (xg i t o g b::rest) env s K=GW (env.get g) b fs pairs (xq i t o) (some t) rest env s K:=Eq.trans rfl rfl
theorem b80 {pairs i t x rest env s K}:XQ fs pairs (xm i t x::rest) env s K=BP (some (env.get x)) fs pairs t rest env s K:=Eq.trans rfl rfl
theorem c3P {pairs i t x g b rest env s K}:XQ fs pairs (xmg i t x g b::rest) env s K=GW (env.get g) b fs pairs (xm i t x) (some t) rest env s K:=Eq.trans rfl rfl
theorem c1p {pairs i t d rest env s K}:XQ fs pairs (xc i t d::rest) env s K=XQ fs pairs rest ((t,d)::env) s K:=Eq.trans rfl rfl
theorem c4I {pairs i t n x rest env s K}:XQ fs pairs (xl i t n x::rest) env s K=BP (ldV s.get n (env.get x)) fs pairs t rest env s K:=by
 rw [<- show env.ev (.tmp x)=env.get x from rfl,<- a4F];rfl
theorem c44 {pairs i t n x g b rest env s K}:XQ fs pairs (xlg i t n x g b::rest) env s K=GW (env.get g) b fs pairs (xl i t n x) (some t) rest env s K:=Eq.trans rfl rfl
theorem c4X {pairs i t off x rest env s K}:XQ fs pairs (xf i t off x::rest) env s K=BP (evP env (.fieldA off (.tmp x))) fs pairs t rest env s K:=Eq.trans rfl rfl
theorem c1h {pairs i t off x g b rest env s K}:XQ fs pairs (xfg i t off x g b::rest) env s K=GW (env.get g) b fs pairs (xf i t off x) (some t) rest env s K:=Eq.trans rfl rfl
theorem b9e {i t o rest env s K}:XQ fs [] (xa i t o::rest) env s K=BA (evA env o) fs t rest env s K:=Eq.trans rfl rfl
theorem c1H {i n a v rest env s K}:XQ fs [] (xw i n a v::rest) env s K=BW (evW env s.get n (.tmp a) v) fs rest env s K:=Eq.trans rfl rfl
theorem c2g {pairs i t f args rest env s K}:XQ fs pairs (xi i t f args::rest) env s K=BL (M6 (ice s.get 20) (env.evL args)) (pureL (env.evL args)) fs f pairs t rest env s K:=b2C
theorem c3N {pairs i t f args g b rest env s K}:XQ fs pairs (xig i t f args g b::rest) env s K=GW (env.get g) b fs pairs (xi i t f args) (some t) rest env s K:=Eq.trans rfl rfl
theorem b9N {pairs i t f args rest env s K}:XQ fs pairs (xk i t f args::rest) env s K=WQ fs pairs (xk i t f args::rest) env s K:=b3b
theorem b94 {pairs i t o g rest env s K}:XQ fs pairs (xo i t o g::rest) env s K=XQ fs pairs ((i,⟨t,o,g⟩)::rest) env s K:=Eq.trans rfl rfl
theorem c03 {vars l Q env s}:YW fs vars (xr l) Q env s=XQ fs [] l env s (RgK vars Q):=Eq.trans rfl rfl
theorem c1M {vars l b Q env s}:YW fs vars (xrp l [] b) Q env s=XQ fs [] l env s (RgK vars Q):=Eq.trans rfl rfl
theorem c0A {vars l p ps b Q env s}:YW fs vars (xrp l (p::ps) b) Q env s=XX fs (p::ps) [] l env s (RgK vars Q):=Eq.trans rfl rfl
theorem M7:k4.empty.next=0:=Eq.trans rfl rfl
def BX (r:Option D) (fs:FuncId->Option t5) (pairs:Prs) (T:List Ent) (t:Nat) (rest:Ops) (env:Env) (s:k4) (K:Kt):Prop:=match r with
 | some d=>XX fs pairs T rest ((t,d)::env) s K
 | none=>False
def BD (d:D) (n:Option Nat) (i:Nat) (fs:FuncId->Option t5) (pairs:Prs) (T:List Ent) (t:Nat) (rest:Ops) (env:Env) (s:k4) (K:Kt):Prop:=match d with
 | .fp cs off=>match ldV s.get n (.fp cs off) with
   | some d=>XX fs pairs T rest ((t,d)::env) s K
   | none=>False
 | .ptr id off=>match ldV s.get n (.ptr id off) with
   | some d=>a1Z pairs i id T/\XX fs pairs (⟨i,some id,[]⟩::T) rest ((t,d)::env) s K
   | none=>False
 | _=>False
def BE (C:Prop) (r:Option D) (fs:FuncId->Option t5) (pairs:Prs) (T:List Ent) (t:Nat) (rest:Ops) (env:Env) (s:k4) (K:Kt):Prop:=C/\BX r fs pairs T t rest env s K
def AX (r:Option (N4×O2)) (i:Nat) (fs:FuncId->Option t5) (pairs:Prs) (T:List Ent) (t:Nat) (rest:Ops) (env:Env) (s:k4) (K:Kt):Prop:=match r with
 | some (ob,m)=>XX fs pairs (⟨i,none,[s.next]⟩::T) rest ((t,m.at s.next)::env) (s.push ob) K
 | none=>False
def UX (d:D) (r:Option (Nat×N4)) (i:Nat) (fs:FuncId->Option t5) (pairs:Prs) (T:List Ent) (rest:Ops) (env:Env) (s:k4) (K:Kt):Prop:=match d with
 | .ptr id _=>match r with
   | some (id',ob)=>id'=id/\a2P pairs i id T/\XX fs pairs (⟨i,some id,[id]⟩::T) rest env (s.set id (some ob)) K
   | none=>False
 | _=>False
def VX (C:Prop) (fs:FuncId->Option t5) (pairs:Prs) (T:List Ent) (rest:Ops) (env:Env) (s:k4) (K:Kt):Prop:=C/\XX fs pairs T rest env s K
def MX (d x:D) (sz bytes i:Nat) (fs:FuncId->Option t5) (pairs:Prs) (T:List Ent) (t:Nat) (rest:Ops) (env:Env) (s:k4) (K:Kt):Prop:=∃d' s' E,S8 sz bytes d x s=some (d',s')/\s.next<=s'.next/\(∀id,id∉E->s.get id=s'.get id)/\a1H pairs i E T/\XX fs pairs (⟨i,none,E⟩::T) rest ((t,d')::env) s' K
def CX (fs:FuncId->Option t5) (f:FuncId) (l:List D) (p:Bool) (pairs:Prs) (T:List Ent) (t:Nat) (rest:Ops) (env:Env) (s:k4) (K:Kt):Prop:=∃d,a1t fs f l d/\(Z6 d||p)=true/\XX fs pairs T rest ((t,d)::env) s K
def LX (r:Option (List D)) (p:Bool) (fs:FuncId->Option t5) (f:FuncId) (pairs:Prs) (T:List Ent) (t:Nat) (rest:Ops) (env:Env) (s:k4) (K:Kt):Prop:=match r with
 | some l=>CX fs f l p pairs T t rest env s K
 | none=>False
def FX (b:Bool) (d:D) (fs:FuncId->Option t5) (pairs:Prs) (T:List Ent) (t:Nat) (rest:Ops) (env:Env) (s:k4) (K:Kt):Prop:=match b with
 | true=>XX fs pairs T rest ((t,d)::env) s K
 | false=>False
abbrev Eqc (fs:FuncId->Option t5) (f:FuncId) (l:List D) (d:D):Prop:=(∀p pairs t rest env s K,BC fs f l p pairs t rest env s K=BF (Z6 d||p) d fs pairs t rest env s K)/\∀p pairs T t rest env s K,CX fs f l p pairs T t rest env s K=FX (Z6 d||p) d fs pairs T t rest env s K
theorem Z5 {f:FuncId} {args:List D} {d:D} (h:a1t fs f args d):Eqc fs f args d:=by
 refine ⟨fun p pairs t rest env s K=>propext ⟨?_,fun hk=>?_⟩,fun p pairs T t rest env s K=>propext ⟨?_,fun hk=>?_⟩⟩
 ·rintro ⟨d',h1,h2,h3⟩
  obtain rfl:=h.det h1
  unfold BF;rw [h2];exact h3
 ·unfold BF at hk
  split at hk
  ·rename_i hs;exact ⟨d,h,hs,hk⟩
  ·exact hk.elim
 ·rintro ⟨d',h1,h2,h3⟩
  obtain rfl:=h.det h1
  unfold FX;rw [h2];exact h3
 ·unfold FX at hk
  split at hk
  ·rename_i hs;exact ⟨d,h,hs,hk⟩
  ·exact hk.elim
theorem c4l {d pairs T t rest env s K}:FX true d fs pairs T t rest env s K=XX fs pairs T rest ((t,d)::env) s K:=Eq.trans rfl rfl
theorem b7w {pairs T vars Q env s}:XX fs pairs T [] env s (RgK vars Q)=End Q .normal (env.keep vars) s:=Eq.trans rfl rfl
theorem b2e {pairs T i t f args rest env s K}:XX fs pairs T ((i,⟨some t,.m (.call .iso (.cst (.fn f [])) args),none⟩)::rest) env s K=LX (M6 (ice s.get 20) (env.evL args)) (pureL (env.evL args)) fs f pairs T t rest env s K:=by
 unfold XX LX CX;rfl
theorem b4C {pairs T i t sz bytes a x rest env s K}:XX fs pairs T ((i,⟨some t,.m (.append sz bytes a x),none⟩)::rest) env s K=MX (env.ev a) (env.ev x) sz bytes i fs pairs T t rest env s K:=Eq.trans rfl rfl
theorem b5D {d pairs T t rest env s K}:BX (some d) fs pairs T t rest env s K=XX fs pairs T rest ((t,d)::env) s K:=Eq.trans rfl rfl
theorem c0e {cs off n i pairs T t rest env s K}:BD (.fp cs off) n i fs pairs T t rest env s K=BX (ldV s.get n (.fp cs off)) fs pairs T t rest env s K:=by
 unfold BD BX;rfl
theorem b67 {id off n i pairs T t rest env s K}:BD (.ptr id off) n i fs pairs T t rest env s K=BE (a1Z pairs i id T) (ldV s.get n (.ptr id off)) fs pairs (⟨i,some id,[]⟩::T) t rest env s K:=by
 unfold BD BE BX
 simp only
 cases ldV s.get n (.ptr id off) with
 | some d=>rfl
 | none=>simp
theorem c4W {r pairs T t rest env s K}:BE True r fs pairs T t rest env s K=BX r fs pairs T t rest env s K:=by simp [BE]
theorem c0b {ob i pairs T t rest env s K}:AX (some (ob,.ptr)) i fs pairs T t rest env s K=XX fs pairs (⟨i,none,[s.next]⟩::T) rest ((t,.ptr s.next 0)::env) (s.push ob) K:=Eq.trans rfl rfl
theorem b8g {ob l sz i pairs T t rest env s K}:AX (some (ob,.arr l sz)) i fs pairs T t rest env s K=XX fs pairs (⟨i,none,[s.next]⟩::T) rest ((t,.arr s.next 0 l sz)::env) (s.push ob) K:=Eq.trans rfl rfl
theorem c1U {id off ob i pairs T rest env s K}:UX (.ptr id off) (some (id,ob)) i fs pairs T rest env s K=VX (a2P pairs i id T) fs pairs (⟨i,some id,[id]⟩::T) rest env (s.set id (some ob)) K:=by
 unfold UX VX;simp
theorem c2G {pairs T rest env s K}:VX True fs pairs T rest env s K=XX fs pairs T rest env s K:=by simp [VX]
theorem b8o {l p f pairs T t rest env s K}:LX (some l) p fs f pairs T t rest env s K=CX fs f l p pairs T t rest env s K:=Eq.trans rfl rfl
theorem c1e {pairs T i t o rest env s K}:XX fs pairs T (xq i t o::rest) env s K=BX (evP env o) fs pairs T t rest env s K:=Eq.trans rfl rfl
theorem c0K {pairs T i t x rest env s K}:XX fs pairs T (xm i t x::rest) env s K=BX (some (env.get x)) fs pairs T t rest env s K:=Eq.trans rfl rfl
theorem b6k {pairs T i t n x rest env s K}:XX fs pairs T (xl i t n x::rest) env s K=BD (env.get x) n i fs pairs T t rest env s K:=Eq.trans rfl rfl
theorem b9a {pairs T i t off x rest env s K}:XX fs pairs T (xf i t off x::rest) env s K=BX (evP env (.fieldA off (.tmp x))) fs pairs T t rest env s K:=Eq.trans rfl rfl
theorem c47 {pairs T i t o rest env s K}:XX fs pairs T (xa i t o::rest) env s K=AX (evA env o) i fs pairs T t rest env s K:=Eq.trans rfl rfl
theorem b9b {pairs T i n a v rest env s K}:XX fs pairs T (xw i n a v::rest) env s K=UX (env.get a) (evW env s.get n (.tmp a) v) i fs pairs T rest env s K:=Eq.trans rfl rfl
theorem c3X {pairs T i t f args rest env s K}:XX fs pairs T (xi i t f args::rest) env s K=LX (M6 (ice s.get 20) (env.evL args)) (pureL (env.evL args)) fs f pairs T t rest env s K:=b2e
theorem c1y {pairs T i t o g rest env s K}:XX fs pairs T (xo i t o g::rest) env s K=XX fs pairs T ((i,⟨t,o,g⟩)::rest) env s K:=Eq.trans rfl rfl
theorem c1F {id}:a1E id []=True:=Eq.trans rfl rfl
theorem b73 {id x r}:a1E id (x::r)=(a65 id x/\a1E id r):=Eq.trans rfl rfl
theorem b6Q {a b:Nat} (h:a≠b):a65 a b=True:=eq_true h
theorem c1z {pairs i id}:a1Z pairs i id []=True:=Eq.trans rfl rfl
theorem b88 {pairs i id a r E T} (h:Rf (a14 pairs a i) false):a1Z pairs i id (⟨a,r,E⟩::T)=a1Z pairs i id T:=by simp [a1Z,h.1]
theorem b5c {pairs i id a r E T} (h:Rf (a14 pairs a i) true):a1Z pairs i id (⟨a,r,E⟩::T)=(a1E id E/\a1Z pairs i id T):=by simp [a1Z,h.1]
theorem b6I {pairs i id}:a2P pairs i id []=True:=Eq.trans rfl rfl
theorem b6u {pairs i id a r E T} (h:Rf (a14 pairs a i) false):a2P pairs i id (⟨a,r,E⟩::T)=a2P pairs i id T:=by simp [a2P,h.1]
theorem b7M {pairs i E}:a1H pairs i E []=True:=Eq.trans rfl rfl
theorem c2Y {pairs i E a r F T} (h:Rf (a14 pairs a i) false):a1H pairs i E (⟨a,r,F⟩::T)=a1H pairs i E T:=by simp [a1H,h.1]
theorem c3R {pairs i E a F x T} (h:Rf (a14 pairs a i) true):a1H pairs i E (⟨a,some x,F⟩::T)=(a1E x E/\a1H pairs i E T):=by simp [a1H,h.1]
attribute [go_sem] c4l c0A b7w b2e b4C b5D c0e b67 c4W c0b b8g c1U c2G b8o c1e c0K b6k b9a c47 b9b c3X c1y c1F b73 b6Q c1z b88 b5c b6I b6u b7M c2Y c3R
attribute [go_sem] Nat.reduceLT M7 c3k c1V b80 c3P c1p c4I c44 c4X c1h b9e c1H c2g c3N b9N b94 c03 c1M
attribute [go_sem] b8Y b9n b7k b9O b5b c0h c3e b5Z b2C b3b c38 c1o c2y c23 b9k b8q c4B b3r b4i c0R b8n b6c c04 c3I c3T c0C c3C b6P b6L c25 b8A c4f b42 b8p b8u c2i c4h
attribute [go_sem] b5K c2j b6q c01 c2e b9A b4T b5x b8w c4c c1Y c4o b6r b9Y c1w b4L b54 c2b c0S c0s b5P b7u b4Y b8r c4n b9F c2t c2v c1s b71 Option.some.injEq D.tup.injEq D.int.injEq D.bool.injEq D.agg.injEq D.str.injEq List.cons.injEq b9f b7W c1a b7r c3G Option.bind Bool.or_true Bool.true_or
theorem b4X {vars c Q env env' s s'} (h:env=env') (h':s=s'):YW fs vars c Q env s=YW fs vars c Q env' s':=by rw [h,h']
theorem b5j {pairs ops K env env' s s'} (h:env=env') (h':s=s'):XQ fs pairs ops env s K=XQ fs pairs ops env' s' K:=by rw [h,h']
theorem b91 {Q e env env' s s'} (h:env=env') (h':s=s'):End Q e env s=End Q e env' s':=by rw [h,h']
theorem c3n {r r' pairs t rest env s K} (h:r=r'):BP r fs pairs t rest env s K=BP r' fs pairs t rest env s K:=by rw [h]
theorem b77 {r r' p p' f pairs t rest env s K} (h:r=r') (h':p=p'):BL r p fs f pairs t rest env s K=BL r' p' fs f pairs t rest env s K:=by rw [h,h']
theorem b9H {r r' t rest env K} (h:r=r'):BM r fs t rest env K=BM r' fs t rest env K:=by rw [h]
theorem c3o {r r' d pairs t rest env s K} (h:r=r'):BF r d fs pairs t rest env s K=BF r' d fs pairs t rest env s K:=by rw [h]
theorem b7q {d d' vars x y Q env s} (h:d=d'):CW d fs vars x y Q env s=CW d' fs vars x y Q env s:=by rw [h]
theorem c3H {d d' b pairs x t rest env s K} (h:d=d'):GW d b fs pairs x t rest env s K=GW d' b fs pairs x t rest env s K:=by rw [h]
theorem b8V {b b' d pairs T t rest env s K} (h:b=b'):FX b d fs pairs T t rest env s K=FX b' d fs pairs T t rest env s K:=by rw [h]
theorem b5e {pairs T ops K env env' s s'} (h:env=env') (h':s=s'):XX fs pairs T ops env s K=XX fs pairs T ops env' s' K:=by rw [h,h']
theorem c1Q {r r' pairs T t rest env s K} (h:r=r'):BX r fs pairs T t rest env s K=BX r' fs pairs T t rest env s K:=by rw [h]
theorem c4V {r r' n i pairs T t rest env s K} (h:r=r'):BD r n i fs pairs T t rest env s K=BD r' n i fs pairs T t rest env s K:=by rw [h]
theorem b8t {C C' pairs T rest env s K} (hc:C=C'):VX C fs pairs T rest env s K=VX C' fs pairs T rest env s K:=by rw [hc]
theorem b7H {d d' x x' sz bytes i pairs T t rest env s s' K} (h:d=d') (h2:x=x') (h3:s=s'):MX d x sz bytes i fs pairs T t rest env s K=MX d' x' sz bytes i fs pairs T t rest env s' K:=by rw [h,h2,h3]
theorem b69 {f l l' p p' pairs T t rest env s K} (h:l=l') (h2:p=p'):LX l p fs f pairs T t rest env s K=LX l' p' fs f pairs T t rest env s K:=by rw [h,h2]
attribute [congr] b8V b5e c1Q c4V b8t b7H b69
attribute [congr] b4X b5j b91 c3n b77 b9H c3o b7q c3H
theorem zF {P Q:Prop} (k:Q) (h:P=Q:=by
 simp only [xn,T9,Q9,Q8,Q7,Q6,P9,O9,Q5,N9,X9,Z9,Y9,V9,U9,R9,Q4,Q3,Q2,Q1,List.map,List.getD,List.getElem?_cons_zero,List.getElem?_cons_succ,List.getElem?_nil,Option.getD]
 exact rfl):P:=h.mpr k
theorem zY0 {P Q:Prop} (k:Q) (h:P=Q:=by
 simp (maxSteps:=1000000) (disch:=(first|exact Rf.mk rfl|with_reducible assumption|omega|((repeat (first|rw [nP]|rw [nS]|rw [M7]))<;>omega)|decide)) only [go_sem,↓reduceIte]
 exact rfl):P:=h.mpr k
theorem zY {F P Q:Prop} (f:F) (k:Q) (h:F->P=Q:=by
 intro f
 simp (maxSteps:=1000000) (disch:=(first|exact Rf.mk rfl|with_reducible assumption|omega|((repeat (first|rw [nP]|rw [nS]|rw [M7]))<;>omega)|decide)) only [go_sem,↓reduceIte,f]
 exact rfl):P:=(h f).mpr k
theorem zZ0 {P:Prop} (h:P:=by simp (maxSteps:=1000000) (disch:=(first|exact Rf.mk rfl|with_reducible assumption|omega|((repeat (first|rw [nP]|rw [nS]|rw [M7]))<;>omega)|decide)) only [go_sem,↓reduceIte]):P:=h
theorem zZ {F P:Prop} (f:F) (h:F->P:=by
 intro f
 simp (maxSteps:=1000000) (disch:=(first|exact Rf.mk rfl|with_reducible assumption|omega|((repeat (first|rw [nP]|rw [nS]|rw [M7]))<;>omega)|decide)) only [go_sem,↓reduceIte,f]):P:=h f
end Go.V
namespace Go.Proofs.YtnjlhebkhjcagaaGreat
open Go.V
set_option maxRecDepth 100000
theorem b90 {f:Nat} {l:List D} {r:D} (h:Iso f l r) (hs:Y2 r=true):a1t vfs f l r:=by
 obtain ⟨s1,h⟩:=h
 exact ⟨r,s1,h,a8Y hs 19⟩
theorem a2s {f:Nat} {l:List D} {r:D} (h:Iso f l r) (hs:Y2 r=true):Eqc vfs f l r:=Z5 (b90 h hs)
theorem b0Z {x:Int} (h1:-4294967296<=x) (h2:x<=4294967296):Eqc vfs 38 [.int .i64 x,.int .i64 8] (.int .i64 (N8 x 8)):=a2s (a6I (x:=x) (n:=8) (w:=8) (by decide) ⟨by omega,by omega⟩) rfl
theorem a24 {b:Bool}:Eqc vfs 71 [.bool b] (.int .i64 (a2J b)):=a2s c0x rfl
theorem pzm {m:MdX} {mo:Mo} {ps:List (Pr×PrD)} (h:MoF m mo ps):PZ (.agg (N1 m)):=a4W fun d hd=>by
 simp only [N1,List.mem_cons,List.not_mem_nil,or_false] at hd
 rcases hd with rfl | rfl | rfl | rfl | rfl | rfl | rfl
 ·exact ⟨FL.pure h.tr.fl,FL.ic h.tr.fl⟩
 ·exact ⟨rfl,fun _ _=>rfl⟩
 ·exact ⟨h.c.pure,FL.ic h.c⟩
 ·exact ⟨h.v.pure,FL.ic h.v⟩
 ·exact ⟨h.p.pure,FL.ic h.p⟩
 ·exact ⟨h.sf.pure,FL.ic h.sf⟩
 ·exact ⟨rfl,fun _ _=>rfl⟩
theorem pzs {x:StD} {st:Stt} (h:StF x st):PZ (.agg (a3m x st)):=a4W fun d hd=>by
 obtain ⟨ds,h1,_⟩:=h.c
 simp only [a3m,List.mem_cons,List.not_mem_nil,or_false] at hd
 rcases hd with rfl | rfl | rfl | rfl
 ·exact ⟨h.a.pure,FL.ic h.a⟩
 ·exact ⟨FL.pure h.v,FL.ic h.v⟩
 ·exact ⟨h1.pure,FL.ic h1⟩
 ·exact ⟨rfl,fun _ _=>rfl⟩
theorem a5H {op:Nat} (hop:op<5) {a b:Int} (ha:I8 a) (hb:I8 b):Eqc vfs 72 [.int .i64 (op:Int),.int .i64 a,.int .i64 b,.int .i64 8] (.int .i64 (doZ op a b 8)):=a2s (do8 hop ha hb) rfl
end Go.Proofs.YtnjlhebkhjcagaaGreat
namespace Go.Proofs.YtnjlhebkhjcagaaGreat
open Go.V
set_option maxRecDepth 100000
set_option maxHeartbeats 4000000
theorem a9x {m:MdX} {mo:Mo} {ps:List (Pr×PrD)} (hm:MoF m mo ps) (ho:P7 mo) {x:StD} {st:Stt} (hx:StF x st) (h8:St8 st) (hcl:st.chans.length=mo.chans.length) {pr:Int} {look:ByteArray->Option Nat}
 (hlk:∀w,Iso 70 [.agg (N1 m),.int .i64 pr,.str w] (.int .i64 (a2y (look w)))) (hin:∀w v,look w=some v->v<st.vars.length):∀ (n k:Nat),k<mo.tree.length->mo.tree.length-k<n->a0J (nd mo.tree k).kind ->
 a1t vfs 48 [.agg (N1 m),.int .i64 pr,.agg (a3m x st),.int .i64 (k:Int)] (.tup [.int .i64 (V2 mo.tree mo.ch look st n k).1,.bool (V2 mo.tree mo.ch look st n k).2])
 | 0,k,_,h,_=>by omega
 | n+1,k,hk,hn,hex=>by
   have om:=hm.ones
   have ox:=hx.ones
   have fm:=pzm hm
   have fx:=pzs hx
   have hno:=ho.tree.node k hk
   have hidx:=hm.tr.at (z:=(k:Int)) (by omega) (by omega) (k:=.i64)
   rw [Int.toNat_natCast] at hidx
   have on:=a0I hm.tr hk
   have hw:=a2S hm.tr hk (i:=0)
   have n0:=a2G hm.tr hk (i:=0)
   have z0:((0:Nat):Int)=0:=rfl
   have z1:((1:Nat):Int)=1:=rfl
   rw [hno.wl,z0] at hw
   rw [hno.nl,z0] at n0
   obtain ⟨hkl,hkx⟩:=a57 hno hex
   have ih:∀i,i<(nd mo.tree k).kids.length->a1t vfs 48 [.agg (N1 m),.int .i64 pr,.agg (a3m x st),.int .i64 (((nd mo.tree k).kid i:Nat):Int)] (.tup [.int .i64 (V2 mo.tree mo.ch look st n ((nd mo.tree k).kid i)).1,.bool (V2 mo.tree mo.ch look st n ((nd mo.tree k).kid i)).2]):=fun i hi=>by
    have h1:=ho.tree.ks hk _ (V4 hi)
    exact a9x hm ho hx h8 hcl hlk hin n _ h1.2 (by omega) (hkx i hi)
   have i8:∀i,I8 (V2 mo.tree mo.ch look st n ((nd mo.tree k).kid i)).1:=fun i=>a6O h8 n _
   have k0:=a0F hm.tr ho.tree hk (i:=0)
   have k1:=a0F hm.tr ho.tree hk (i:=1)
   rw [z0] at k0
   rw [z1] at k1
   unfold V2
   simp only
   unfold N1 at ih fm hlk ⊢
   unfold a3m at ih fx ⊢
   by_cases q17:(nd mo.tree k).kind=17
   ·rw [if_pos q17]
    rw [q17] at n0
    have n0:=n0 (by decide)
    have hl:=hno.lit q17
    refine W3 (vf:=a01) rfl ?_
    unfold a01;refine zF ?_
    simp (disch:=(first|exact Rf.mk rfl|with_reducible assumption|omega|((repeat (first|rw [nP]|rw [nS]|rw [M7]))<;>omega)|decide)) only [go_sem,↓reduceIte,om,ox,hidx,on,q17,n0,b0Z]
   rw [if_neg q17]
   by_cases q18:(nd mo.tree k).kind=18
   ·rw [if_pos q18]
    rw [q18] at hw
    have hw:=hw (by decide)
    have hv:=hlk ((nd mo.tree k).word 0)
    cases hlo:look ((nd mo.tree k).word 0) with
    | none =>
      rw [hlo] at hv
      refine W3 (vf:=a01) rfl ?_
      unfold a01;refine zF ?_
      simp (disch:=(first|exact Rf.mk rfl|with_reducible assumption|omega|((repeat (first|rw [nP]|rw [nS]|rw [M7]))<;>omega)|decide)) only [go_sem,↓reduceIte,om,ox,hidx,on,q18,hw,a2y,a2s hv rfl]
    | some v =>
      rw [hlo] at hv
      have hvl:=hin _ _ hlo
      have hvi:=FI.idx hx.v hvl (k:=.i64)
      have c0:((v:Int)<0)=False:=eq_false (by omega)
      have e:=a12 hvl
      simp only [e]
      refine W3 (vf:=a01) rfl ?_
      unfold a01;refine zF ?_
      simp (disch:=(first|exact Rf.mk rfl|with_reducible assumption|omega|((repeat (first|rw [nP]|rw [nS]|rw [M7]))<;>omega)|decide)) only [go_sem,↓reduceIte,om,ox,hidx,on,q18,hw,a2y,c0,hvi,a2s hv rfl]
   rw [if_neg q18]
   by_cases q19:(nd mo.tree k).kind=19
   ·rw [if_pos q19]
    rw [q19] at hw
    have hw:=hw (by decide)
    have hlc:=hm.lenC
    have hnc:=ho.nc
    have hch:mo.ch.length=mo.chans.length:=by simp [Mo.ch]
    refine W3 (vf:=a01) rfl ?_
    unfold a01;refine zF ?_
    refine zY (aN om (aN ox (aN hidx (aN on q19)))) ?_
    refine a0d [0,1,2,3,4,6,10,11,13,14,15,16,17,18,19,20,27,28,35,45,51,77,94,114,154,158,159,168,177,183] 0 mo.chans.length (fun i f s=>s.get 0=some (.cells [m.dt,.int .i64 m.g,m.dc,m.dv,m.dp,m.ds,.bool m.b])/\s.get 1=some (.cells [x.da,x.dv,x.dc,.int .i64 st.hold])/\s.get 2=some (.cells [.int .i64 19,(nd mo.tree k).dw,(nd mo.tree k).dn,(nd mo.tree k).dk,.int .i64 (nd mo.tree k).pos])/\(∀j (hj:j<mo.chans.length),j<i->mo.chans[j].name≠(nd mo.tree k).word 0)/\f 12=.int .i64 (i:Int)) (.mk rfl) (by omega) ⟨?_,?_,?_,fun j _ h=>by omega,rfl⟩ ?_
    ·exact zZ0
    ·exact zZ0
    ·exact zZ0
    rintro i f s hi ⟨g0,g1,g2,hall,hE⟩
    by_cases ci:i<mo.chans.length
    ·have hs1:IntKind.i64.wrap ((i:Int)+1)=((i+1:Nat):Int):=by rw [P1 (by omega) (by omega)];omega
     have ci':((i:Int)<(mo.chans.length:Int))=True:=eq_true (by omega)
     have hci:=FLC.idx hm.c ci (k:=.i64)
     unfold Ch.row at hci
     by_cases ce:mo.chans[i].name=(nd mo.tree k).word 0
     ·have hil:i<mo.ch.length:=by omega
      have eb:=a5s (l:=mo.ch) (w:=(nd mo.tree k).word 0) hil (by simpa [Mo.ch] using ce) (fun j hj hji=>by simpa [Mo.ch] using hall j (by omega) hji)
      have hsc:i<st.chans.length:=by omega
      obtain ⟨dq,hq,hqi⟩:=hx.chan hsc
      have hqi:=hqi .i64
      have oq:=FL.one hq
      have hql:=FI.len hq
      have e:=a1O hsc
      simp only [eb,if_pos hil,e]
      exact zZ (aN hE (aN g0 (aN g1 (aN g2 (aN om (aN ox (aN on (aN hlc (aN ci' (aN hci (aN ce (aN hw (aN hqi (aN oq hql))))))))))))))
     ·have ce':decide (mo.chans[i].name=(nd mo.tree k).word 0)=false:=by simp [ce]
      refine zY (aN hE (aN g0 (aN g1 (aN g2 (aN om (aN on (aN hlc (aN ci' (aN hci (aN ce' (aN hw hs1))))))))))) ?_
      refine ⟨by omega,fun j hj hji=>?_⟩
      by_cases ej:j=i
      ·subst ej;exact ce
      ·exact hall j hj (by omega)
    ·have ci':((i:Int)<(mo.chans.length:Int))=False:=eq_false (by omega)
     have eb:=a5r (l:=mo.ch) (w:=(nd mo.tree k).word 0) (fun j hj=>by simpa [Mo.ch] using hall j (by omega) (by omega))
     simp only [if_neg eb]
     exact zZ (aN hE (aN g0 (aN om (aN hlc ci'))))
   rw [if_neg q19]
   by_cases q20:(nd mo.tree k).kind=20
   ·rw [if_pos q20]
    have h1:=hno.one (by omega)
    have k0:=k0 (by omega)
    have h0:=Z5 (ih 0 (by omega))
    obtain ⟨b1,b2⟩:=i8 0
    have e1:IntKind.i64.wrap (0-(V2 mo.tree mo.ch look st n ((nd mo.tree k).kid 0)).1)=-(V2 mo.tree mo.ch look st n ((nd mo.tree k).kid 0)).1:=by rw [P1 (by omega) (by omega)];omega
    refine W3 (vf:=a01) rfl ?_
    unfold a01;refine zF ?_
    simp (disch:=(first|exact Rf.mk rfl|with_reducible assumption|omega|((repeat (first|rw [nP]|rw [nS]|rw [M7]))<;>omega)|decide)) only [go_sem,↓reduceIte,om,ox,hidx,on,q20,k0,e1,h0,b0Z]
   rw [if_neg q20]
   by_cases q21:(nd mo.tree k).kind=21
   ·rw [if_pos q21]
    have h1:=hno.one (by omega)
    have k0:=k0 (by omega)
    have h0:=Z5 (ih 0 (by omega))
    generalize V2 mo.tree mo.ch look st n ((nd mo.tree k).kid 0)=y0 at *
    obtain ⟨v0,b0⟩:=y0
    simp only at h0 ⊢
    have eb:(v0==0)=decide (v0=0):=rfl
    cases b0
    ·refine W3 (vf:=a01) rfl ?_
     unfold a01;refine zF ?_
     simp (disch:=(first|exact Rf.mk rfl|with_reducible assumption|omega|((repeat (first|rw [nP]|rw [nS]|rw [M7]))<;>omega)|decide)) only [go_sem,↓reduceIte,om,ox,hidx,on,q21,k0,h0,a24,Bool.false_and]
    ·refine W3 (vf:=a01) rfl ?_
     unfold a01;refine zF ?_
     simp (disch:=(first|exact Rf.mk rfl|with_reducible assumption|omega|((repeat (first|rw [nP]|rw [nS]|rw [M7]))<;>omega)|decide)) only [go_sem,↓reduceIte,om,ox,hidx,on,q21,k0,h0,a24,eb]
   rw [if_neg q21]
   have q22:(nd mo.tree k).kind=22:=by have:=hex.1;have:=hex.2;omega
   rw [if_pos q22]
   obtain ⟨l2,_,_,o0,o8⟩:=hno.bin q22
   have k0:=k0 (by omega)
   have k1:=k1 (by omega)
   rw [q22] at n0
   have n0:=n0 (by decide)
   have g0:=Z5 (ih 0 (by omega))
   have g1:=Z5 (ih 1 (by omega))
   have i0:=i8 0
   have i1:=i8 1
   generalize V2 mo.tree mo.ch look st n ((nd mo.tree k).kid 0)=y0 at *
   generalize V2 mo.tree mo.ch look st n ((nd mo.tree k).kid 1)=y1 at *
   obtain ⟨v0,b0⟩:=y0
   obtain ⟨v1,b1⟩:=y1
   simp only at g0 g1 i0 i1 ⊢
   have e0:(v0 != 0)=decide (v0≠0):=by by_cases c:v0=0<;>simp [c]
   have e1:(v1 != 0)=decide (v1≠0):=by by_cases c:v1=0<;>simp [c]
   have e2:(v0==v1)=decide (v0=v1):=rfl
   have hcs:(nd mo.tree k).num 0=0∨(nd mo.tree k).num 0=1∨(nd mo.tree k).num 0=2∨(nd mo.tree k).num 0=3∨(nd mo.tree k).num 0=4∨(nd mo.tree k).num 0=5∨(nd mo.tree k).num 0=6∨(nd mo.tree k).num 0=7∨(nd mo.tree k).num 0=8:=by omega
   generalize (nd mo.tree k).num 0=op at *
   refine W3 (vf:=a01) rfl ?_
   unfold a01;refine zF ?_
   refine zY (aN om (aN ox (aN hidx (aN on (aN q22 (aN k0 (aN k1 (aN n0 (aN g0 g1))))))))) ?_
   cases b0
   ·simp (disch:=(first|exact Rf.mk rfl|with_reducible assumption|omega|((repeat (first|rw [nP]|rw [nS]|rw [M7]))<;>omega)|decide)) only [go_sem,↓reduceIte,Bool.false_and,if_false]
   cases b1
   ·simp (disch:=(first|exact Rf.mk rfl|with_reducible assumption|omega|((repeat (first|rw [nP]|rw [nS]|rw [M7]))<;>omega)|decide)) only [go_sem,↓reduceIte,Bool.and_false,if_false]
   simp only [Bool.and_self,if_true]
   have d0:Eqc vfs 72 [.int .i64 0,.int .i64 v0,.int .i64 v1,.int .i64 8] _:=a5H (op:=0) (by decide) i0 i1
   have d1:Eqc vfs 72 [.int .i64 1,.int .i64 v0,.int .i64 v1,.int .i64 8] _:=a5H (op:=1) (by decide) i0 i1
   have d2:Eqc vfs 72 [.int .i64 2,.int .i64 v0,.int .i64 v1,.int .i64 8] _:=a5H (op:=2) (by decide) i0 i1
   have d3:Eqc vfs 72 [.int .i64 3,.int .i64 v0,.int .i64 v1,.int .i64 8] _:=a5H (op:=3) (by decide) i0 i1
   have d4:Eqc vfs 72 [.int .i64 4,.int .i64 v0,.int .i64 v1,.int .i64 8] _:=a5H (op:=4) (by decide) i0 i1
   rcases hcs with rfl | rfl | rfl | rfl | rfl | rfl | rfl | rfl | rfl
   ·by_cases a0:v0=0
    ·have c0:(v0 != 0)=false:=by simp [a0]
     simp (disch:=(first|exact Rf.mk rfl|with_reducible assumption|omega|((repeat (first|rw [nP]|rw [nS]|rw [M7]))<;>omega)|decide)) only [go_sem,↓reduceIte,om,ox,on,n0,c0,e1,a24]
     simp [a0X,a0]
    ·have c0:(v0 != 0)=true:=by simp [a0]
     simp (disch:=(first|exact Rf.mk rfl|with_reducible assumption|omega|((repeat (first|rw [nP]|rw [nS]|rw [M7]))<;>omega)|decide)) only [go_sem,↓reduceIte,om,ox,on,n0,c0,a24]
     simp [a0X,a0]
   ·by_cases a0:v0=0
    ·have c0:(v0 != 0)=false:=by simp [a0]
     simp (disch:=(first|exact Rf.mk rfl|with_reducible assumption|omega|((repeat (first|rw [nP]|rw [nS]|rw [M7]))<;>omega)|decide)) only [go_sem,↓reduceIte,om,ox,on,n0,c0,e1,a24]
     simp [a0X,a0]
    ·have c0:(v0 != 0)=true:=by simp [a0]
     simp (disch:=(first|exact Rf.mk rfl|with_reducible assumption|omega|((repeat (first|rw [nP]|rw [nS]|rw [M7]))<;>omega)|decide)) only [go_sem,↓reduceIte,om,ox,on,n0,c0,e1,a24]
     simp [a0X,a0]
   ·simp (disch:=(first|exact Rf.mk rfl|with_reducible assumption|omega|((repeat (first|rw [nP]|rw [nS]|rw [M7]))<;>omega)|decide)) only [go_sem,↓reduceIte,om,ox,on,n0,e2,a24]
    simp [a0X]
   ·simp (disch:=(first|exact Rf.mk rfl|with_reducible assumption|omega|((repeat (first|rw [nP]|rw [nS]|rw [M7]))<;>omega)|decide)) only [go_sem,↓reduceIte,om,ox,on,n0,a24]
    simp [a0X]
   ·simp (disch:=(first|exact Rf.mk rfl|with_reducible assumption|omega|((repeat (first|rw [nP]|rw [nS]|rw [M7]))<;>omega)|decide)) only [go_sem,↓reduceIte,om,ox,on,n0,P1,d0]
    simp [a0X]
   ·simp (disch:=(first|exact Rf.mk rfl|with_reducible assumption|omega|((repeat (first|rw [nP]|rw [nS]|rw [M7]))<;>omega)|decide)) only [go_sem,↓reduceIte,om,ox,on,n0,P1,d1]
    simp [a0X]
   ·simp (disch:=(first|exact Rf.mk rfl|with_reducible assumption|omega|((repeat (first|rw [nP]|rw [nS]|rw [M7]))<;>omega)|decide)) only [go_sem,↓reduceIte,om,ox,on,n0,P1,d2]
    simp [a0X]
   ·by_cases a1:v1=0
    ·refine zY (aN om (aN ox (aN on (aN n0 a1)))) ?_
     simp [a0X,a1]
    ·have c1:(v1==0)=false:=by simp [a1]
     simp (disch:=(first|exact Rf.mk rfl|with_reducible assumption|omega|((repeat (first|rw [nP]|rw [nS]|rw [M7]))<;>omega)|decide)) only [go_sem,↓reduceIte,om,ox,on,n0,c1,P1,d3]
     simp [a0X,a1]
   ·by_cases a1:v1=0
    ·refine zY (aN om (aN ox (aN on (aN n0 a1)))) ?_
     simp [a0X,a1]
    ·have c1:(v1==0)=false:=by simp [a1]
     simp (disch:=(first|exact Rf.mk rfl|with_reducible assumption|omega|((repeat (first|rw [nP]|rw [nS]|rw [M7]))<;>omega)|decide)) only [go_sem,↓reduceIte,om,ox,on,n0,c1,P1,d4]
     simp [a0X,a1]
end Go.Proofs.YtnjlhebkhjcagaaGreat
namespace Go.V
def eAt (l:List Ed) (i:Nat):Ed:=l.getD i default
def vAt (l:List Vr) (i:Nat):Vr:=l.getD i default
def bAt (l:List Bool) (i:Nat):Bool:=l.getD i false
def pAt (l:List Pr) (i:Nat):Pr:=l.getD i default
def prX (l:List (Pr×PrD)) (i:Nat):PrD:=(l.getD i ⟨default,⟨.nils,.nils,.nils,.nils,.nils⟩⟩).2
theorem a2U {l:List Ed} {i:Nat} (h:i<l.length):eAt l i=l[i]:=by simp [eAt,List.getD,h]
theorem a5e {l:List Vr} {i:Nat} (h:i<l.length):vAt l i=l[i]:=by simp [vAt,List.getD,h]
theorem b5W {l:List Bool} {i:Nat} (h:i<l.length):bAt l i=l[i]:=by simp [bAt,List.getD,h]
theorem a2N {l:List Pr} {i:Nat} (h:i<l.length):pAt l i=l[i]:=by simp [pAt,List.getD,h]
theorem a0P {l:List Pr} {i:Nat} (h:i<l.length):pAt l i∈l:=by rw [a2N h];exact List.getElem_mem h
theorem a1N {l:List Ed} {i:Nat} (h:i<l.length):eAt l i∈l:=by rw [a2U h];exact List.getElem_mem h
theorem a5M {l:List Ch} {i:Nat} (h:i<l.length):U3 l i∈l:=by rw [a4m h];exact List.getElem_mem h
theorem a3T {l:List Vr} {i:Nat} (h:i<l.length):vAt l i∈l:=by rw [a5e h];exact List.getElem_mem h
theorem b0l {l:List Int} {i:Nat} (h:i<l.length):zAt l i∈l:=by rw [a12 h];exact List.getElem_mem h
theorem a9v {l:List Nat} {i:Nat} (h:i<l.length):nAt l i∈l:=by rw [a1w h];exact List.getElem_mem h
theorem b2Z {l:List (List Int)} {i:Nat} (h:i<l.length):cAt l i∈l:=by rw [a1O h];exact List.getElem_mem h
variable {k:IntKind} {i j:Nat} {d:D}
theorem c2l {l:List Int} (h:FI d l) (hi:i<l.length):M8 1 d (.int k (i:Int))=some (.fp [.int .i64 (zAt l i)] 0):=by rw [FI.idx h hi,a12 hi]
theorem b0n {l:List Nat} (h:FL 1 d (O5 l)) (hi:i<l.length):M8 1 d (.int k (i:Int))=some (.fp [.int .i64 (nAt l i:Int)] 0):=by rw [FLN.idx h hi,a1w hi]
theorem b3j {l:List Bool} (h:FL 1 d (P2 l)) (hi:i<l.length):M8 1 d (.int k (i:Int))=some (.fp [.bool (bAt l i)] 0):=by rw [FLB.idx h hi,b5W hi]
theorem a4H {l:List Ed} (h:FL 8 d (S2 l)) (hi:i<l.length):M8 8 d (.int k (i:Int))=some (.fp [.int .i64 ((eAt l i).frm:Int),.int .i64 ((eAt l i).to:Int),.int .i64 ((eAt l i).act:Int),.int .i64 (eAt l i).expr,.int .i64 (eAt l i).var,.int .i64 (eAt l i).chan,.bool (eAt l i).keep,.int .i64 ((eAt l i).node:Int)] 0):=by rw [FLE.idx h hi,a2U hi];rfl
theorem b7X {l:List Ch} (h:FL 5 d (a0q l)) (hi:i<l.length):M8 5 d (.int k (i:Int))=some (.fp [.str (U3 l i).name,.int .i64 (U3 l i).room,.int .i64 (U3 l i).width,.bool (U3 l i).lossy,.bool (U3 l i).copying] 0):=by rw [FLC.idx h hi,a4m hi];rfl
theorem b7I {l:List Vr} (h:FL 3 d (X8 l)) (hi:i<l.length):M8 3 d (.int k (i:Int))=some (.fp [.str (vAt l i).name,.int .i64 (vAt l i).width,.int .i64 (vAt l i).value] 0):=by rw [FLV.idx h hi,a5e hi];rfl
theorem b4m {l:List Int} (h:FI d l):T8 false d=some (.int .i64 (l.length:Int)):=FI.len h
theorem b4v {l:List Nat} (h:FL 1 d (O5 l)):T8 false d=some (.int .i64 (l.length:Int)):=by rw [h.len,a3F]
theorem b2P {l:List Bool} (h:FL 1 d (P2 l)):T8 false d=some (.int .i64 (l.length:Int)):=by rw [h.len,a30]
theorem a8I {l:List Ed} (h:FL 8 d (S2 l)):T8 false d=some (.int .i64 (l.length:Int)):=by rw [h.len,a2F]
theorem b7Q {l:List Ch} (h:FL 5 d (a0q l)):T8 false d=some (.int .i64 (l.length:Int)):=by rw [h.len,a5t]
theorem c0p {l:List Vr} (h:FL 3 d (X8 l)):T8 false d=some (.int .i64 (l.length:Int)):=by rw [h.len,a9r]
theorem b6M {l:List Int} (h:FI d l):M4 d=true:=FL.one h
theorem a4o {l:List Int} (h:FI d l):PZ d:=FL.pz h
variable {m:MdX} {mo:Mo} {ps:List (Pr×PrD)}
theorem a2E (h:MoF m mo ps) (hi:i<mo.procs.length):PrF (pAt mo.procs i) (prX ps i):=by
 have hi':i<ps.length:=by rw [h.plen];exact hi
 have e:pAt mo.procs i=ps[i].1:=by rw [a2N hi];simp [<- h.eq]
 have e2:prX ps i=ps[i].2:=by simp [prX,List.getD,hi']
 rw [e,e2]
 exact h.at' _ (List.getElem_mem hi')
theorem c2M (h:MoF m mo ps) (hi:i<mo.procs.length):M8 8 m.dp (.int k (i:Int))=some (.fp [.str (pAt mo.procs i).name,.int .i64 ((pAt mo.procs i).copy:Int),(prX ps i).dl,.int .i64 ((pAt mo.procs i).places:Int),(prX ps i).dr,(prX ps i).de,(prX ps i).dn,(prX ps i).dv] 0):=by
 have hi':i<ps.length:=by rw [h.plen];exact hi
 have e:pAt mo.procs i=ps[i].1:=by rw [a2N hi];simp [<- h.eq]
 have e2:prX ps i=ps[i].2:=by simp [prX,List.getD,hi']
 rw [h.p.idx (by simpa using hi'),e,e2]
 simp [a0Q,t3]
theorem c14 (h:MoF m mo ps):T8 false m.dp=some (.int .i64 (mo.procs.length:Int)):=h.lenP
theorem c2r (h:MoF m mo ps) (hi:i<mo.procs.length):M4 (prX ps i).dl=true:=(a2E h hi).l.one
theorem b9t (h:MoF m mo ps) (hi:i<mo.procs.length):M4 (prX ps i).dr=true:=(a2E h hi).r.one
theorem b4Z (h:MoF m mo ps) (hi:i<mo.procs.length):M4 (prX ps i).de=true:=(a2E h hi).e.one
theorem c2w (h:MoF m mo ps) (hi:i<mo.procs.length):M4 (prX ps i).dn=true:=(a2E h hi).n.one
theorem b8C (h:MoF m mo ps) (hi:i<mo.procs.length):M4 (prX ps i).dv=true:=(a2E h hi).v.one
theorem b7J (h:MoF m mo ps) (hi:i<mo.procs.length):T8 false (prX ps i).dl=some (.int .i64 ((pAt mo.procs i).locals.length:Int)):=(a2E h hi).lenL
theorem b4S (h:MoF m mo ps) (hi:i<mo.procs.length):T8 false (prX ps i).de=some (.int .i64 ((pAt mo.procs i).edges.length:Int)):=(a2E h hi).lenE
theorem c2a (h:MoF m mo ps) (hi:i<mo.procs.length) (hj:j<(pAt mo.procs i).edges.length):M8 8 (prX ps i).de (.int k (j:Int))=some (.fp [.int .i64 ((eAt (pAt mo.procs i).edges j).frm:Int),.int .i64 ((eAt (pAt mo.procs i).edges j).to:Int),.int .i64 ((eAt (pAt mo.procs i).edges j).act:Int),.int .i64 (eAt (pAt mo.procs i).edges j).expr,.int .i64 (eAt (pAt mo.procs i).edges j).var,.int .i64 (eAt (pAt mo.procs i).edges j).chan,.bool (eAt (pAt mo.procs i).edges j).keep,.int .i64 ((eAt (pAt mo.procs i).edges j).node:Int)] 0):=a4H (a2E h hi).e hj
theorem c2O (h:MoF m mo ps) (hi:i<mo.procs.length) (hj:j<(pAt mo.procs i).locals.length):M8 1 (prX ps i).dl (.int k (j:Int))=some (.fp [.int .i64 (nAt (pAt mo.procs i).locals j:Int)] 0):=b0n (a2E h hi).l hj
theorem a3e (h:MoF m mo ps):PZ (.agg [m.dt,.int .i64 m.g,m.dc,m.dv,m.dp,m.ds,.bool m.b]):=a4W fun d hd=>by
 simp only [List.mem_cons,List.not_mem_nil,or_false] at hd
 rcases hd with rfl | rfl | rfl | rfl | rfl | rfl | rfl
 ·exact ⟨FL.pure h.tr.fl,FL.ic h.tr.fl⟩
 ·exact ⟨rfl,fun _ _=>rfl⟩
 ·exact ⟨h.c.pure,FL.ic h.c⟩
 ·exact ⟨h.v.pure,FL.ic h.v⟩
 ·exact ⟨h.p.pure,FL.ic h.p⟩
 ·exact ⟨h.sf.pure,FL.ic h.sf⟩
 ·exact ⟨rfl,fun _ _=>rfl⟩
theorem b8S {e:Ed}:PZ (.agg [.int .i64 (e.frm:Int),.int .i64 (e.to:Int),.int .i64 (e.act:Int),.int .i64 e.expr,.int .i64 e.var,.int .i64 e.chan,.bool e.keep,.int .i64 (e.node:Int)]):=a4W fun d hd=>by
 simp only [List.mem_cons,List.not_mem_nil,or_false] at hd
 rcases hd with rfl | rfl | rfl | rfl | rfl | rfl | rfl | rfl<;>exact ⟨rfl,fun _ _=>rfl⟩
theorem a5g {x:StD} {st:Stt} (h:StF x st):PZ (.agg [x.da,x.dv,x.dc,.int .i64 st.hold]):=a4W fun d hd=>by
 obtain ⟨ds,h1,_⟩:=h.c
 simp only [List.mem_cons,List.not_mem_nil,or_false] at hd
 rcases hd with rfl | rfl | rfl | rfl
 ·exact ⟨h.a.pure,FL.ic h.a⟩
 ·exact ⟨FL.pure h.v,FL.ic h.v⟩
 ·exact ⟨h1.pure,FL.ic h1⟩
 ·exact ⟨rfl,fun _ _=>rfl⟩
def chX:D->Nat->D
 | .lst _ xs,i=>(xs.getD i []).getD 0 .nils
 | _,_=>.nils
theorem b3c {x:StD} {st:Stt} (h:StF x st) (hi:i<st.chans.length):FI (chX x.dc i) (cAt st.chans i)/\M8 1 x.dc (.int k (i:Int))=some (.fp [chX x.dc i] 0):=by
 obtain ⟨ds,h1,h2,h3⟩:=h.c
 have hi':i<ds.length:=by omega
 have e:chX x.dc i=ds[i]:=by
  rcases h1 with ⟨_,e⟩ | e
  ·simp at e;subst e;simp at hi'
  ·rw [e];simp [chX,List.getD,hi']
 rw [e,a1O hi]
 refine ⟨h3 i hi' hi,?_⟩
 rw [h1.idx (by simpa using hi')]
 simp
theorem a3v {x:StD} {st:Stt} (h:StF x st) (hi:i<st.chans.length):FI (chX x.dc i) (cAt st.chans i):=(b3c (k:=.i64) h hi).1
theorem b7y {x:StD} {st:Stt} (h:StF x st) (hi:i<st.chans.length):M8 1 x.dc (.int k (i:Int))=some (.fp [chX x.dc i] 0):=(b3c h hi).2
theorem b5T {x:StD} {st:Stt} (h:StF x st) (hi:i<st.chans.length):M4 (chX x.dc i)=true:=FL.one (a3v h hi)
theorem c05 {x:StD} {st:Stt} (h:StF x st) (hi:i<st.chans.length):T8 false (chX x.dc i)=some (.int .i64 ((cAt st.chans i).length:Int)):=FI.len (a3v h hi)
theorem b2x {x:StD} {st:Stt} (h:StF x st):T8 false x.dc=some (.int .i64 (st.chans.length:Int)):=by
 obtain ⟨ds,h1,h2,_⟩:=h.c
 rw [h1.len,List.length_map,h2]
theorem b4K {n:Nat}:(n:Int)+1=((n+1:Nat):Int):=by omega
theorem c1Z {a b:Nat}:((a:Int)<(b:Int))=(a<b):=by apply propext;omega
theorem c3j {a b:Nat}:((a:Int)<=(b:Int))=(a<=b):=by apply propext;omega
theorem c2s:((0:Nat):Int)=0:=rfl
theorem c1K:((1:Nat):Int)=1:=rfl
theorem c4H:((2:Nat):Int)=2:=rfl
theorem b4V:((3:Nat):Int)=3:=rfl
theorem b6K:((4:Nat):Int)=4:=rfl
theorem b6J:((5:Nat):Int)=5:=rfl
theorem b6D:((6:Nat):Int)=6:=rfl
theorem c4K:((7:Nat):Int)=7:=rfl
theorem b6d:((8:Nat):Int)=8:=rfl
theorem b4R:((9:Nat):Int)=9:=rfl
theorem b43:((10:Nat):Int)=10:=rfl
theorem b8G:((11:Nat):Int)=11:=rfl
theorem c2A:((12:Nat):Int)=12:=rfl
theorem b5h:((13:Nat):Int)=13:=rfl
theorem b7f:((14:Nat):Int)=14:=rfl
theorem c2L:((15:Nat):Int)=15:=rfl
theorem c4e:((16:Nat):Int)=16:=rfl
theorem b1F {a b:Int}:(a==b)=decide (a=b):=by rw [Bool.eq_iff_iff];simp
theorem b57 {a b:Int}:(a != b)=!decide (a=b):=by rw [bne,b1F]
theorem c0g {a b:Nat}:((a:Int)=(b:Int))=(a=b):=by apply propext;omega
theorem c2J {a:Nat}:((0:Int)<(a:Int))=(0<a):=by apply propext;omega
theorem c3g {a:Nat}:((0:Int)<=(a:Int))=True:=eq_true (by omega)
theorem b4P {a:Nat}:((a:Int)<0)=False:=eq_false (by omega)
attribute [go_sem] c2s c1K c4H b4V b6K b6J b6D c4K b6d b4R b43 b8G c2A b5h b7f c2L c4e b1F b57 c0g c2J c3g b4P c2l b0n b3j a4H b7X b7I b4m b4v b2P a8I b7Q c0p b6M c2M c14 c2r b9t b4Z c2w b8C b7J b4S c2a c2O b7y b5T c05 b2x b4K c1Z c3j
theorem c3O {a b:List Int} (h:a.length=b.length) (hz:∀j,j<a.length->zAt a j=zAt b j):a=b:=List.ext_getElem h fun j h1 h2=>by
 have:=hz j h1
 rwa [a12 h1,a12 h2] at this
theorem b3S {st:Stt}:mo.safeS st=true↔∀j,j<mo.safe.length->(mo.val (a0s mo) st (nAt mo.safe j)).2=true/\(mo.val (a0s mo) st (nAt mo.safe j)).1≠0:=by
 unfold Mo.safeS
 rw [List.all_eq_true]
 constructor
 ·intro h j hj
  have:=h _ (a9v hj)
  simpa using this
 ·intro h k hk
  obtain ⟨j,hj,rfl⟩:=List.getElem_of_mem hk
  have:=h j hj
  rw [a1w hj] at this
  simpa using this
theorem b1P {st:Stt} {j:Nat} (hj:j<mo.safe.length) (h:(mo.val (a0s mo) st (nAt mo.safe j)).2=false∨(mo.val (a0s mo) st (nAt mo.safe j)).1=0):mo.safeS st=false:=by
 rw [Bool.eq_false_iff]
 intro hs
 have:=b3S.1 hs j hj
 rcases h with h | h
 ·rw [h] at this;simp at this
 ·exact this.2 h
theorem Y6 {p:Prop} [Decidable p]:(decide p=true)=p:=by simp
theorem Z1 {p:Prop} [Decidable p]:(decide p=false)=¬ p:=by simp
theorem Y8 {b:Bool}:((!b)=true)=(b=false):=by simp
theorem Z2 {b:Bool}:((!b)=false)=(b=true):=by simp
end Go.V
namespace Go.Proofs.YtnjlhebkhjcagaaGreat
open Go.V
set_option maxRecDepth 100000
set_option maxHeartbeats 4000000
theorem a7J {da db:D} {a b:List Int} (ha:FI da a) (hb:FI db b) (hl:a.length<=1000000):Eqc vfs 50 [da,db] (.bool (decide (a=b))):=by
 refine Z5 ?_
 refine W3 (vf:=a9L) rfl ?_
 unfold a9L;refine zF ?_
 refine zY0 ?_
 repeat' (first|(refine a1F (fun c=>?_) (fun c=>?_)<;>(try simp only [Y6,Z1,Y8,Z2] at c)<;>simp (disch:=(first|exact Rf.mk rfl|with_reducible assumption|omega|((repeat (first|rw [nP]|rw [nS]|rw [M7]))<;>omega)|decide)) only [go_sem,↓reduceIte,c])|(refine a1U (fun c=>?_) (fun c=>?_)<;>(try simp only [Y6,Z1,Y8,Z2] at c)<;>simp (disch:=(first|exact Rf.mk rfl|with_reducible assumption|omega|((repeat (first|rw [nP]|rw [nS]|rw [M7]))<;>omega)|decide)) only [go_sem,↓reduceIte,c]))
 ·simp;intro h;exact c (by rw [h])
 ·refine a0d [0,1,10] 0 a.length (fun i f s=>f 5=.int .i64 (i:Int)/\∀j,j<i->zAt a j=zAt b j) (.mk rfl) (by omega) ⟨rfl,fun j h=>by omega⟩ ?_
  rintro i f s hi ⟨hE,hall⟩
  by_cases ci:i<a.length
  ·have ci':i<b.length:=by omega
   refine zY (aN hE ci) ?_
   repeat' (first|(refine a1F (fun c=>?_) (fun c=>?_)<;>(try simp only [Y6,Z1,Y8,Z2] at c)<;>simp (disch:=(first|exact Rf.mk rfl|with_reducible assumption|omega|((repeat (first|rw [nP]|rw [nS]|rw [M7]))<;>omega)|decide)) only [go_sem,↓reduceIte,hE,ci,c])|(refine a1U (fun c=>?_) (fun c=>?_)<;>(try simp only [Y6,Z1,Y8,Z2] at c)<;>simp (disch:=(first|exact Rf.mk rfl|with_reducible assumption|omega|((repeat (first|rw [nP]|rw [nS]|rw [M7]))<;>omega)|decide)) only [go_sem,↓reduceIte,hE,ci,c]))
   ·simp;intro h;exact c (by rw [h])
   ·intro j hj
    by_cases ej:j=i
    ·subst ej;exact c
    ·exact hall j (by omega)
  ·refine zY (aN hE ci) ?_
   exact (decide_eq_true (c3O c fun j hj=>hall j (by omega))).symm
structure a2z (mo:Mo) (x:StD) (st:Stt):Prop where
 f:StF x st
 e:St8 st
 fit:Fit mo st
variable {m:MdX} {mo:Mo} {ps:List (Pr×PrD)} {x:StD} {st:Stt}
theorem a3u (hm:MoF m mo ps) (ho:P7 mo) (hx:a2z mo x st) {p:Nat} (hp:p<mo.procs.length) {k:Nat} (hk:k<mo.tree.length) (he:a0J (nd mo.tree k).kind) :
 Eqc vfs 48 [.agg [m.dt,.int .i64 m.g,m.dc,m.dv,m.dp,m.ds,.bool m.b],.int .i64 (p:Int),.agg [x.da,x.dv,x.dc,.int .i64 st.hold],.int .i64 (k:Int)] (.tup [.int .i64 (mo.val (W7 (pAt mo.procs p)) st k).1,.bool (mo.val (W7 (pAt mo.procs p)) st k).2]):=by
 rw [a2N hp]
 exact Z5 (a9x hm ho hx.f hx.e hx.fit.chans (fun w=>c1x hm ho hp) (fun w v hv=>by
  have hpo:=ho.pr _ (List.getElem_mem hp)
  have:=hpo.var v (c4Z hpo.same hv)
  rw [hx.fit.vars];exact this) _ k hk (by omega) he)
theorem b98 (hm:MoF m mo ps) (ho:P7 mo) (hx:a2z mo x st) {k:Nat} (hk:k<mo.tree.length) (he:a0J (nd mo.tree k).kind) :
 Eqc vfs 48 [.agg [m.dt,.int .i64 m.g,m.dc,m.dv,m.dp,m.ds,.bool m.b],.int .i64 (-1),.agg [x.da,x.dv,x.dc,.int .i64 st.hold],.int .i64 (k:Int)] (.tup [.int .i64 (mo.val (a0s mo) st k).1,.bool (mo.val (a0s mo) st k).2]) :=
 Z5 (a9x hm ho hx.f hx.e hx.fit.chans (fun w=>b8P hm ho) (fun w v hv=>by
  have:=c16 hv
  have:=ho.gl
  rw [hx.fit.vars];omega) _ k hk (by omega) he)
theorem b33 (hm:MoF m mo ps) (ho:P7 mo) (hx:a2z mo x st):Eqc vfs 23 [.agg [m.dt,.int .i64 m.g,m.dc,m.dv,m.dp,m.ds,.bool m.b],.agg [x.da,x.dv,x.dc,.int .i64 st.hold]] (.bool (mo.safeS st)):=by
 refine Z5 ?_
 have hs:=hm.sf
 have sl:=ho.sl
 have fm:=a3e hm
 have fx:=a5g hx.f
 have om:=hm.ones
 have ox:=hx.f.ones
 refine W3 (vf:=a79) rfl ?_
 unfold a79;refine zF ?_
 refine zY (aN om ox) ?_
 refine a0d [0,1,2,3] 0 mo.safe.length (fun i f s=>f 5=.int .i64 (i:Int)/\s.get 0=some (.cells [m.dt,.int .i64 m.g,m.dc,m.dv,m.dp,m.ds,.bool m.b])/\s.get 1=some (.cells [x.da,x.dv,x.dc,.int .i64 st.hold])/\∀j,j<i->(mo.val (a0s mo) st (nAt mo.safe j)).2=true/\(mo.val (a0s mo) st (nAt mo.safe j)).1≠0) (.mk rfl) (by omega) ⟨rfl,?_,?_,fun j h=>by omega⟩ ?_
 ·exact zZ0
 ·exact zZ0
 rintro i f s hi ⟨hE,g0,g1,hall⟩
 by_cases ci:i<mo.safe.length
 ·have hk:=ho.sf _ (a9v ci)
  have hv:=b98 hm ho hx hk.1 hk.2
  refine zY (aN hE (aN ci (aN g0 (aN g1 (aN om (aN ox hv)))))) ?_
  repeat' (first|(refine a1F (fun c=>?_) (fun c=>?_)<;>(try simp only [Y6,Z1,Y8,Z2] at c)<;>simp (disch:=(first|exact Rf.mk rfl|with_reducible assumption|omega|((repeat (first|rw [nP]|rw [nS]|rw [M7]))<;>omega)|decide)) only [go_sem,↓reduceIte,hE,ci,g0,g1,om,ox,hv,c])|(refine a1U (fun c=>?_) (fun c=>?_)<;>(try simp only [Y6,Z1,Y8,Z2] at c)<;>simp (disch:=(first|exact Rf.mk rfl|with_reducible assumption|omega|((repeat (first|rw [nP]|rw [nS]|rw [M7]))<;>omega)|decide)) only [go_sem,↓reduceIte,hE,ci,g0,g1,om,ox,hv,c]))
  ·exact (b1P ci (.inl c)).symm
  ·exact (b1P ci (.inr c)).symm
  ·intro j hj
   by_cases ej:j=i
   ·subst ej;exact ⟨by simpa using ‹_=true›,c⟩
   ·exact hall j (by omega)
 ·refine zY (aN hE (aN ci (aN g0 om))) ?_
  exact (b3S.2 fun j hj=>hall j (by omega)).symm
theorem c3v (hm:MoF m mo ps) (ho:P7 mo) (hx:a2z mo x st) {p:Nat} (hp:p<mo.procs.length) {e:Ed} (he:a2Q mo.tree mo.chans.length (pAt mo.procs p).places (pAt mo.procs p).vars e) :
 Eqc vfs 40 [.agg [m.dt,.int .i64 m.g,m.dc,m.dv,m.dp,m.ds,.bool m.b],.agg [x.da,x.dv,x.dc,.int .i64 st.hold],.int .i64 (p:Int),.agg [.int .i64 (e.frm:Int),.int .i64 (e.to:Int),.int .i64 (e.act:Int),.int .i64 e.expr,.int .i64 e.var,.int .i64 e.chan,.bool e.keep,.int .i64 (e.node:Int)]] (.bool (mo.can st p (pAt mo.procs p) e)):=by
 refine Z5 ?_
 have fm:=a3e hm
 have fx:=a5g hx.f
 have om:=hm.ones
 have ox:=hx.f.ones
 have hxf:=hx.f
 have hxa:=hxf.a
 have hmc:=hm.c
 have hpa:p<st.at'.length:=by rw [hx.fit.at'];exact hp
 have hcl:=hx.fit.chans
 unfold Mo.can Mo.ex
 have h6:e.act=0∨e.act=1∨e.act=2∨e.act=3∨e.act=4∨e.act=5:=by have:=he.act;omega
 rcases h6 with ha | ha | ha | ha | ha | ha
 ·have hex:=he.ex0 (by omega)
  rw [hex]
  refine W3 (vf:=a1G) rfl ?_
  unfold a1G;refine zF ?_
  refine zY (aN om (aN ox ha)) ?_
  repeat' (first|(refine a1F (fun c=>?_) (fun c=>?_)<;>(try simp only [Y6,Z1,Y8,Z2] at c)<;>simp (disch:=(first|exact Rf.mk rfl|with_reducible assumption|omega|((repeat (first|rw [nP]|rw [nS]|rw [M7]))<;>omega)|decide)) only [go_sem,↓reduceIte,om,ox,ha,c])|(refine a1U (fun c=>?_) (fun c=>?_)<;>(try simp only [Y6,Z1,Y8,Z2] at c)<;>simp (disch:=(first|exact Rf.mk rfl|with_reducible assumption|omega|((repeat (first|rw [nP]|rw [nS]|rw [M7]))<;>omega)|decide)) only [go_sem,↓reduceIte,om,ox,ha,c]))
  all_goals simp_all
 ·obtain ⟨k,hk1,hk2,hk3⟩:=he.ex1 (by omega)
  have hv:=a3u hm ho hx hp hk2 hk3
  rw [hk1]
  simp only [Int.natCast_nonneg,if_true,Int.toNat_natCast]
  generalize mo.val (W7 (pAt mo.procs p)) st k=v at *
  refine W3 (vf:=a1G) rfl ?_
  unfold a1G;refine zF ?_
  refine zY (aN om (aN ox (aN ha hv))) ?_
  repeat' (first|(refine a1F (fun c=>?_) (fun c=>?_)<;>(try simp only [Y6,Z1,Y8,Z2] at c)<;>simp (disch:=(first|exact Rf.mk rfl|with_reducible assumption|omega|((repeat (first|rw [nP]|rw [nS]|rw [M7]))<;>omega)|decide)) only [go_sem,↓reduceIte,om,ox,ha,hv,c])|(refine a1U (fun c=>?_) (fun c=>?_)<;>(try simp only [Y6,Z1,Y8,Z2] at c)<;>simp (disch:=(first|exact Rf.mk rfl|with_reducible assumption|omega|((repeat (first|rw [nP]|rw [nS]|rw [M7]))<;>omega)|decide)) only [go_sem,↓reduceIte,om,ox,ha,hv,c]))
  all_goals simp_all
 ·obtain ⟨k,hk1,hk2,hk3⟩:=he.ex1 (by omega)
  obtain ⟨q,hq1,hq2⟩:=he.c1 (by omega)
  have hv:=a3u hm ho hx hp hk2 hk3
  rw [hk1,hq1]
  simp only [Int.natCast_nonneg,if_true,Int.toNat_natCast]
  generalize mo.val (W7 (pAt mo.procs p)) st k=v at *
  refine W3 (vf:=a1G) rfl ?_
  unfold a1G;refine zF ?_
  refine zY (aN om (aN ox (aN ha hv))) ?_
  repeat' (first|(refine a1F (fun c=>?_) (fun c=>?_)<;>(try simp only [Y6,Z1,Y8,Z2] at c)<;>simp (disch:=(first|exact Rf.mk rfl|with_reducible assumption|omega|((repeat (first|rw [nP]|rw [nS]|rw [M7]))<;>omega)|decide)) only [go_sem,↓reduceIte,om,ox,ha,hv,c])|(refine a1U (fun c=>?_) (fun c=>?_)<;>(try simp only [Y6,Z1,Y8,Z2] at c)<;>simp (disch:=(first|exact Rf.mk rfl|with_reducible assumption|omega|((repeat (first|rw [nP]|rw [nS]|rw [M7]))<;>omega)|decide)) only [go_sem,↓reduceIte,om,ox,ha,hv,c]))
  all_goals simp_all
 ·have hex:=he.ex0 (by omega)
  obtain ⟨q,hq1,hq2⟩:=he.c1 (by omega)
  rw [hex,hq1]
  refine W3 (vf:=a1G) rfl ?_
  unfold a1G;refine zF ?_
  refine zY (aN om (aN ox ha)) ?_
  repeat' (first|(refine a1F (fun c=>?_) (fun c=>?_)<;>(try simp only [Y6,Z1,Y8,Z2] at c)<;>simp (disch:=(first|exact Rf.mk rfl|with_reducible assumption|omega|((repeat (first|rw [nP]|rw [nS]|rw [M7]))<;>omega)|decide)) only [go_sem,↓reduceIte,om,ox,ha,c])|(refine a1U (fun c=>?_) (fun c=>?_)<;>(try simp only [Y6,Z1,Y8,Z2] at c)<;>simp (disch:=(first|exact Rf.mk rfl|with_reducible assumption|omega|((repeat (first|rw [nP]|rw [nS]|rw [M7]))<;>omega)|decide)) only [go_sem,↓reduceIte,om,ox,ha,c]))
  all_goals simp_all
 ·obtain ⟨k,hk1,hk2,hk3⟩:=he.ex1 (by omega)
  have hv:=a3u hm ho hx hp hk2 hk3
  rw [hk1]
  simp only [Int.natCast_nonneg,if_true,Int.toNat_natCast]
  generalize mo.val (W7 (pAt mo.procs p)) st k=v at *
  refine W3 (vf:=a1G) rfl ?_
  unfold a1G;refine zF ?_
  refine zY (aN om (aN ox (aN ha hv))) ?_
  repeat' (first|(refine a1F (fun c=>?_) (fun c=>?_)<;>(try simp only [Y6,Z1,Y8,Z2] at c)<;>simp (disch:=(first|exact Rf.mk rfl|with_reducible assumption|omega|((repeat (first|rw [nP]|rw [nS]|rw [M7]))<;>omega)|decide)) only [go_sem,↓reduceIte,om,ox,ha,hv,c])|(refine a1U (fun c=>?_) (fun c=>?_)<;>(try simp only [Y6,Z1,Y8,Z2] at c)<;>simp (disch:=(first|exact Rf.mk rfl|with_reducible assumption|omega|((repeat (first|rw [nP]|rw [nS]|rw [M7]))<;>omega)|decide)) only [go_sem,↓reduceIte,om,ox,ha,hv,c]))
  all_goals simp_all
 ·obtain ⟨k,hk1,hk2,hk3⟩:=he.ex1 (by omega)
  have hv:=a3u hm ho hx hp hk2 hk3
  rw [hk1]
  simp only [Int.natCast_nonneg,if_true,Int.toNat_natCast]
  generalize mo.val (W7 (pAt mo.procs p)) st k=v at *
  refine W3 (vf:=a1G) rfl ?_
  unfold a1G;refine zF ?_
  refine zY (aN om (aN ox (aN ha hv))) ?_
  repeat' (first|(refine a1F (fun c=>?_) (fun c=>?_)<;>(try simp only [Y6,Z1,Y8,Z2] at c)<;>simp (disch:=(first|exact Rf.mk rfl|with_reducible assumption|omega|((repeat (first|rw [nP]|rw [nS]|rw [M7]))<;>omega)|decide)) only [go_sem,↓reduceIte,om,ox,ha,hv,c])|(refine a1U (fun c=>?_) (fun c=>?_)<;>(try simp only [Y6,Z1,Y8,Z2] at c)<;>simp (disch:=(first|exact Rf.mk rfl|with_reducible assumption|omega|((repeat (first|rw [nP]|rw [nS]|rw [M7]))<;>omega)|decide)) only [go_sem,↓reduceIte,om,ox,ha,hv,c]))
  all_goals simp_all
theorem b7N (hm:MoF m mo ps) (ho:P7 mo) (hx:a2z mo x st) {p:Nat} (hp:p<mo.procs.length) {j:Nat} (hj:j<(pAt mo.procs p).edges.length) :
 Eqc vfs 40 [.agg [m.dt,.int .i64 m.g,m.dc,m.dv,m.dp,m.ds,.bool m.b],.agg [x.da,x.dv,x.dc,.int .i64 st.hold],.int .i64 (p:Int),.agg [.int .i64 ((eAt (pAt mo.procs p).edges j).frm:Int),.int .i64 ((eAt (pAt mo.procs p).edges j).to:Int),.int .i64 ((eAt (pAt mo.procs p).edges j).act:Int),.int .i64 (eAt (pAt mo.procs p).edges j).expr,.int .i64 (eAt (pAt mo.procs p).edges j).var,.int .i64 (eAt (pAt mo.procs p).edges j).chan,.bool (eAt (pAt mo.procs p).edges j).keep,.int .i64 ((eAt (pAt mo.procs p).edges j).node:Int)]] (.bool (mo.can st p (pAt mo.procs p) (eAt (pAt mo.procs p).edges j))) :=
 c3v hm ho hx hp ((ho.pr _ (a0P hp)).inv.ed _ (a1N hj))
end Go.Proofs.YtnjlhebkhjcagaaGreat
namespace Go.V
variable {fs:FuncId->Option t5}
theorem b7Y {t rest env K s d sz bytes rows row A B E R} (h:Rp d sz rows E) (hp:Hp s (A++E++B) R) (hr:row.length=sz) (hrs:∀r∈rows,r.length=sz) (hb:bytes<=1000) (hl:rows.length<=1000000000)
 (k:∀d' s' E',Rp d' sz (rows++[row]) E'->Hp s' (A++E'++B) R->s.next<=s'.next->XQ fs [] rest ((t,d')::env) s' K):BM (S8 sz bytes d (.arr s.next 0 1 sz) (s.push (.cells row))) fs t rest env K:=by
 obtain ⟨d',s',h1,E',h2,h3,h4⟩:=h.app (hp.push (.cells row)) (O1 rfl) hr hrs hb hl
 rw [h1]
 exact k d' s' E' h2 h3 (by rw [k4.next_push] at h4;omega)
theorem a7k {s:k4} {d:D} {sz:Nat} {rows:List (List D)} {E W R:Hs} (h:Rp d sz rows E) (hp:Hp s W R) (he:∀e∈E,e∈W) (hr:∀r∈rows,r.length=sz) (hs:∀r∈rows,r.all Y2=true):∃d',ice s.get 20 d=some d'/\FL sz d' rows :=
 (h.sn fun e hm=>hp.w e (he e hm)).frz1 (n:=18) hr hs
theorem b6O (l:List Mv):∀r∈a1e l,r.length=4:=by intro r h;obtain ⟨b,_,rfl⟩:=List.mem_map.1 h;rfl
theorem b6t (l:List Mv):∀r∈a1e l,r.all Y2=true:=by intro r h;obtain ⟨b,_,rfl⟩:=List.mem_map.1 h;rfl
@[simp] theorem b8v (l:List Mv):(a1e l).length=l.length:=by simp [a1e]
theorem b8D {α:Type} {f:α->List D} {t rest env K s d sz bytes row E R} {l:List α} (v:α) (hv:f v=row) (h:Rp d sz (l.map f) E) (hp:Hp s E R) (hf:∀v,(f v).length=sz) (hb:bytes<=1000) (hl:l.length<=1000000000)
 (k:∀d' s' E',Rp d' sz ((l++[v]).map f) E'->Hp s' E' R->XQ fs [] rest ((t,d')::env) s' K):BM (S8 sz bytes d (.arr s.next 0 1 sz) (s.push (.cells row))) fs t rest env K:=by
 subst hv
 refine b7Y (A:=[]) (B:=[]) h (by simpa using hp) (hf v) (fun r hr=>?_) hb (by simpa using hl) fun d' s' E' h1 h2 _=>k d' s' E' (by simpa using h1) (by simpa using h2)
 obtain ⟨x,_,rfl⟩:=List.mem_map.1 hr
 exact hf x
theorem a6R {t rest env K s d bytes row E R} {l:List Mv} (v:Mv) (hv:v.row=row) (h:Rp d 4 (a1e l) E) (hp:Hp s E R) (hb:bytes<=1000) (hl:l.length<=1000000000)
 (k:∀d' s' E',Rp d' 4 (a1e (l++[v])) E'->Hp s' E' R->XQ fs [] rest ((t,d')::env) s' K):BM (S8 4 bytes d (.arr s.next 0 1 4) (s.push (.cells row))) fs t rest env K:=b8D (f:=Mv.row) v hv h hp (fun _=>rfl) hb hl k
def a0v (l:List Mv) (i:Nat):Mv:=l.getD i default
theorem a74 {l:List Mv} {i:Nat} (h:i<l.length):a0v l i=l[i]:=by simp [a0v,List.getD,h]
theorem b7e {l:List Mv} {i:Nat} (h:i<l.length):a0v l i∈l:=by rw [a74 h];exact List.getElem_mem h
theorem b5p {l:List Mv} {d:D} {i:Nat} {k:IntKind} (h:FL 4 d (a1e l)) (hi:i<l.length):M8 4 d (.int k (i:Int))=some (.fp [.int .i64 ((a0v l i).kind:Int),.int .i64 ((a0v l i).proc:Int),.int .i64 ((a0v l i).edge:Int),.int .i64 ((a0v l i).chan:Int)] 0):=by
 rw [h.idx (by simpa using hi),a74 hi];simp [a1e,Mv.row]
theorem c3r {l:List Mv} {d:D} (h:FL 4 d (a1e l)):T8 false d=some (.int .i64 (l.length:Int)):=by rw [h.len,b8v]
theorem b53 {d:D} {sz:Nat} {rows:List (List D)} {E:Hs} (h:Rp d sz rows E):M4 d=true:=h.one
attribute [go_sem] b5p c3r b53
def Mo.mvE (mo:Mo) (st:Stt) (i j:Nat):List Mv:=((List.range j).filter fun j=>mo.can st i (pAt mo.procs i) (eAt (pAt mo.procs i).edges j)).map fun j=>⟨0,i,j,0⟩
theorem Mo.mvE_succ {mo:Mo} {st:Stt} {i j:Nat}:mo.mvE st i (j+1)=mo.mvE st i j++if mo.can st i (pAt mo.procs i) (eAt (pAt mo.procs i).edges j) then [⟨0,i,j,0⟩] else []:=by
 unfold Mo.mvE
 rw [List.range_succ,List.filter_append,List.map_append]
 congr 1
 simp only [List.filter_cons,List.filter_nil]
 split<;>rfl
theorem Mo.movesP_eq {mo:Mo} {st:Stt} {i:Nat}:mo.movesP st i=if 0<=st.hold/\st.hold≠(i:Int) then [] else mo.mvE st i (pAt mo.procs i).edges.length:=rfl
def Mo.mvP (mo:Mo) (st:Stt) (i:Nat):List Mv:=(List.range i).flatMap (mo.movesP st)
def Mo.mvC (mo:Mo) (st:Stt) (i:Nat):List Mv:=(List.range i).flatMap (mo.movesC st)
theorem Mo.mvP_succ {mo:Mo} {st:Stt} {i:Nat}:mo.mvP st (i+1)=mo.mvP st i++mo.movesP st i:=by simp [Mo.mvP,List.range_succ]
theorem Mo.mvC_succ {mo:Mo} {st:Stt} {i:Nat}:mo.mvC st (i+1)=mo.mvC st i++mo.movesC st i:=by simp [Mo.mvC,List.range_succ]
theorem Mo.moves_eq {mo:Mo} {st:Stt}:mo.moves st=mo.mvP st mo.procs.length++if st.hold<0 then mo.mvC st mo.chans.length else []:=rfl
theorem Mo.mvE_len {mo:Mo} {st:Stt} {i j:Nat}:(mo.mvE st i j).length<=j:=by
 unfold Mo.mvE
 rw [List.length_map]
 exact Nat.le_trans (List.length_filter_le _ _) (by simp)
theorem Mo.movesP_len {mo:Mo} (ho:P7 mo) {st:Stt} {i:Nat} (hi:i<mo.procs.length):(mo.movesP st i).length<=4000:=by
 rw [Mo.movesP_eq]
 split
 ·simp
 ·exact Nat.le_trans Mo.mvE_len (ho.pr _ (a0P hi)).el
theorem Mo.mvP_len {mo:Mo} (ho:P7 mo) {st:Stt}:∀ {i:Nat},i<=mo.procs.length->(mo.mvP st i).length<=4000*i
 | 0,_=>by simp [Mo.mvP]
 | i+1,hi=>by
   rw [Mo.mvP_succ,List.length_append]
   have h1:=Mo.mvP_len ho (st:=st) (i:=i) (by omega)
   have h2:=Mo.movesP_len ho (st:=st) (i:=i) (by omega)
   omega
theorem Mo.movesC_len {mo:Mo} {st:Stt} {i:Nat}:(mo.movesC st i).length<=2:=by
 unfold Mo.movesC
 rw [List.length_append]
 split<;>split<;>simp
theorem Mo.mvC_len {mo:Mo} {st:Stt}:∀ {i:Nat},(mo.mvC st i).length<=2*i
 | 0=>by simp [Mo.mvC]
 | i+1=>by
   rw [Mo.mvC_succ,List.length_append]
   have h1:=Mo.mvC_len (mo:=mo) (st:=st) (i:=i)
   have h2:=Mo.movesC_len (mo:=mo) (st:=st) (i:=i)
   omega
theorem Fr.thenS {a b c:k4} (h:Fr [] a b) (hl:b.next<=c.next) (u:∀j,j<b.next->c.get j=b.get j):Fr [] a c :=
 ⟨Nat.le_trans h.1 hl,fun j hj hn=>by rw [u j (Nat.lt_of_lt_of_le hj h.1),h.2 j hj hn]⟩
theorem Hp.hd {s:k4} {id:Nat} {cs:List D} {W R:Hs} (h:Hp s ((id,cs)::W) R):s.get id=some (.cells cs):=h.w (id,cs) (by simp)
theorem Hp.tl {s:k4} {w:Nat×List D} {W R:Hs} (h:Hp s (w::W) R):Hp s W R:=h.sub (List.sublist_cons_self _ _) fun _ h=>h
theorem Hp.rh {s:k4} {id:Nat} {cs:List D} {W R:Hs} (h:Hp s W ((id,cs)::R)):s.get id=some (.cells cs):=h.r (id,cs) (by simp)
theorem Hp.rt {s:k4} {w:Nat×List D} {W R:Hs} (h:Hp s W (w::R)):Hp s W R:=h.sub (List.Sublist.refl _) fun _ h=>by simp [h]
def S1 (l:List Int):List D:=l.map fun n=>.int .i64 n
def U8 (l:List Int):List (List D):=l.map fun n=>[.int .i64 n]
@[simp] theorem a9s (l:List Int):(S1 l).length=l.length:=by simp [S1]
@[simp] theorem a4s (l:List Int):(U8 l).length=l.length:=by simp [U8]
theorem a3G (l:List Int):(U8 l).flatten=S1 l:=by induction l with
 | nil=>rfl
 | cons a l ih=>simp only [U8,S1,List.map_cons,List.flatten_cons,List.singleton_append] at *;rw [ih]
theorem a47 (l:List Nat):(O5 l).flatten=U5 l:=by induction l with
 | nil=>rfl
 | cons a l ih=>simp only [O5,U5,List.map_cons,List.flatten_cons,List.singleton_append] at *;rw [ih]
theorem a5o (l:List Int):∀r∈U8 l,r.length=1:=by intro r h;obtain ⟨b,_,rfl⟩:=List.mem_map.1 h;rfl
theorem b8d (l:List Int):∀r∈U8 l,r.all Y2=true:=by intro r h;obtain ⟨b,_,rfl⟩:=List.mem_map.1 h;rfl
theorem c20 {d:D} {rows:List (List D)} (h:FL 1 d rows) {g:P0}:W4 g d=some rows.flatten/\a1s d=some rows.length/\a0n 1 d=true:=by
 rcases h with ⟨rfl,rfl⟩ | rfl<;>exact ⟨rfl,rfl,rfl⟩
theorem Hp.notIn {x:Nat} {E:Hs} (h:∀e∈E,e.1≠x):a1E x (E.map Prod.fst):=by
 induction E with
 | nil=>trivial
 | cons a E ih=>exact ⟨fun e=>h a (by simp) e.symm,ih fun e he=>h e (by simp [he])⟩
theorem Hp.ltW {s:k4} {W R:Hs} (h:Hp s W R) {w:Nat×List D} (hw:w∈W):w.1<s.next:=M1 (h.w w hw)
theorem Hp.ltR {s:k4} {W R:Hs} (h:Hp s W R) {w:Nat×List D} (hw:w∈R):w.1<s.next:=M1 (h.r w hw)
theorem a8B {pairs T i t rest env K s d bytes rows W R} (hd:FL 1 d rows) (hr:∀r∈rows,r.length=1) (hp:Hp s W R) (hb:bytes<=1000) (hl:rows.length<=1000000000) (he:a1H pairs i [s.next,s.next+1] T)
 (k:∀id s',Hp s' ((id,rows.flatten)::W) R->s.next<s'.next->s.next<=id->(∀j,j<s.next->s'.get j=s.get j)->XX fs pairs (⟨i,none,[s.next,s.next+1]⟩::T) rest ((t,.arr id 0 rows.length 1)::env) s' K):MX (.arr s.next 0 0 1) d 1 bytes i fs pairs T t rest env (s.push (.cells [])) K:=by
 obtain ⟨r1,r2,r3⟩:=c20 hd (g:=(s.push (.cells [])).get)
 have b3:bytes<=2 ^ 20:=Nat.le_trans hb (by decide)
 have hg:(s.push (.cells [])).get s.next=some (.cells []):=O1 rfl
 by_cases h0:rows.length=0
 ·have e:rows=[]:=List.length_eq_zero_iff.1 h0
  subst e
  refine ⟨.arr s.next 0 0 1,s.push (.cells []),[s.next,s.next+1],?_,Nat.le_refl _,fun _ _=>rfl,he,?_⟩
  ·unfold S8
   simp only [r1,r2,r3,b3,decide_true,Bool.and_self,if_true,hg,List.length_nil,Nat.zero_mul,Nat.add_zero,and_self]
  ·exact k s.next _ (hp.pushW []) (by simp) (Nat.le_refl _) fun j hj=>by rw [S0 hj]
 ·have hf:=a38 hr
  have b1:(0+rows.length)*bytes<=2 ^ 45:=Nat.le_trans (Nat.mul_le_mul (show 0+rows.length<=1000000000 by omega) hb) (by decide)
  have b2:0+rows.length<=2 ^ 45:=by omega
  refine ⟨.arr (s.next+1) 0 rows.length 1,((s.push (.cells [])).set s.next none).push (.cells rows.flatten),[s.next,s.next+1],?_,by simp,fun j hj=>?_,he,?_⟩
  ·unfold S8
   simp only [r1,r2,r3,b3,decide_true,Bool.and_self,if_true,hg,List.length_nil,Nat.zero_mul,Nat.add_zero,and_self]
   rw [if_neg h0,if_pos ⟨b1,b2⟩]
   simp
  ·simp only [List.mem_cons,List.not_mem_nil,or_false,not_or] at hj
   have e1:(s.push (.cells [])).get j=s.get j:=by rw [k4.get_push,if_neg hj.1]
   have e2:(((s.push (.cells [])).set s.next none).push (.cells rows.flatten)).get j=(s.push (.cells [])).get j:=by rw [k4.get_push,if_neg (by simpa using hj.2),O0 hj.1]
   rw [e2]
  ·refine k (s.next+1) _ ?_ (by simp;omega) (by omega) fun j hj=>?_
   ·have h1:=(hp.pushW []).kill (A:=[]) (B:=W) (cs:=[]) (id:=s.next)
    have h2:=h1.pushW rows.flatten
    simpa using h2
   ·rw [S0 (by simp;omega),O0 (by omega),S0 hj]
theorem Rp.exp {s:k4} {d:D} {sz bytes idt:Nat} {rows:List (List D)} {row:List D} {E:Hs} (h:Rp d sz rows E) (he:Has s E) (ht:s.get idt=some (.cells row)) (hr:row.length=sz) (hrs:∀r∈rows,r.length=sz) (hb:bytes<=1000) (hl:rows.length<=1000000000) :
 ∃s',S8 sz bytes d (.arr idt 0 1 sz) s=some (.arr s.next 0 (rows.length+1) sz,s')/\s'.next=s.next+1/\s'.get s.next=some (.cells (rows.flatten++row))/\∀id,id≠s.next->(∀e∈E,e.1≠id)->s'.get id=s.get id:=by
 have b3:bytes<=2 ^ 20:=Nat.le_trans hb (by decide)
 have r1:W4 s.get (.arr idt 0 1 sz)=some row:=by
  simp only [W4,ht,Nat.zero_add,Nat.one_mul,List.drop_zero]
  rw [if_pos (by omega),List.take_of_length_le (by omega)]
 have r2:a1s (.arr idt 0 1 sz)=some 1:=rfl
 have r3:a0n sz (.arr idt 0 1 sz)=true:=by simp [a0n]
 rcases h with ⟨rfl,rfl,rfl⟩ | ⟨id,rfl,rfl,hne⟩
 ·refine ⟨s.push (.cells row),?_,by simp,by rw [O1 rfl];simp,fun j hj _=>by rw [k4.get_push,if_neg hj]⟩
  unfold S8
  simp only [r1,r2,r3,b3,decide_true,Bool.and_self,if_true]
  rw [if_neg (by omega),if_pos ⟨by omega,by omega⟩]
  rfl
 ·have hf:=a38 hrs
  have hg:s.get id=some (.cells rows.flatten):=he (id,rows.flatten) (by simp)
  have b1:(rows.length+1)*bytes<=2 ^ 45:=Nat.le_trans (Nat.mul_le_mul (show rows.length+1<=1000000001 by omega) hb) (by decide)
  have b2:rows.length+1<=2 ^ 45:=by omega
  refine ⟨(s.set id none).push (.cells (rows.flatten++row)),?_,by simp,O1 (by simp),fun j hj hn=>?_⟩
  ·unfold S8
   simp only [r1,r2,r3,b3,decide_true,Bool.and_self,if_true,hg,Nat.zero_add,hf,and_self,List.drop_zero]
   rw [if_neg (by omega),if_pos ⟨b1,b2⟩]
  ·have:id≠j:=hn (id,rows.flatten) (by simp)
   rw [k4.get_push,if_neg (by simpa using hj),O0 this.symm]
theorem Rp.app2 {s:k4} {d:D} {sz bytes:Nat} {rows:List (List D)} {row:List D} {A B E R:Hs} (h:Rp d sz rows E) (hp:Hp s (A++E++B) R) (hr:row.length=sz) (hrs:∀r∈rows,r.length=sz) (hb:bytes<=1000) (hl:rows.length<=1000000000) :
 ∃s',S8 sz bytes d (.arr s.next 0 1 sz) (s.push (.cells row))=some (.arr (s.next+1) 0 (rows.length+1) sz,s')/\Rp (.arr (s.next+1) 0 (rows.length+1) sz) sz (rows++[row]) [(s.next+1,(rows++[row]).flatten)]/\Hp s' (A++(s.next+1,(rows++[row]).flatten)::B) R/\s'.next=s.next+2/\(∀j,j<s.next->(∀e∈E,e.1≠j)->s'.get j=s.get j)/\∀j,j∉(s.next+1)::E.map Prod.fst->(s.push (.cells row)).get j=s'.get j:=by
 have hp1:=hp.push (.cells row)
 have heE:Has (s.push (.cells row)) E:=fun x hx=>hp1.w x (by simp [hx])
 obtain ⟨s',h1,h2,h3,h4⟩:=h.exp heE (O1 rfl) hr hrs hb hl
 rw [k4.next_push] at h1 h2 h3 h4
 refine ⟨s',h1,.inr ⟨s.next+1,by simp,by simp,by simp⟩,?_,h2,fun j hj hn=>?_,fun j hj=>?_⟩
 ·have hn:=hp1.nd
  have hE:∀w∈A++B,∀e∈E,e.1≠w.1:=by
   intro w hw e hee hc
   rw [List.append_assoc,List.map_append,List.map_append,List.nodup_append,List.nodup_append] at hn
   obtain ⟨_,⟨_,_,n2⟩,n3⟩:=hn
   rcases List.mem_append.1 hw with hw | hw
   ·exact n3 w.1 (List.mem_map_of_mem hw) e.1 (List.mem_append_left _ (List.mem_map_of_mem hee)) hc.symm
   ·exact n2 e.1 (List.mem_map_of_mem hee) w.1 (List.mem_map_of_mem hw) hc
  have hsub:Hp (s.push (.cells row)) (A++B) R:=hp1.sub (by
   rw [List.append_assoc]
   exact List.Sublist.append (List.Sublist.refl _) (List.sublist_append_right _ _)) fun x h=>h
  have key:∀w∈A++B,s'.get w.1=some (.cells w.2):=fun w hw=>by
   have hl:=hp.ltW (w:=w) (by rcases List.mem_append.1 hw with h | h<;>simp [h])
   rw [h4 w.1 (by omega) (hE w hw)]
   exact hsub.w w hw
  refine Hp.perm (W:=(s.next+1,(rows++[row]).flatten)::(A++B)) ⟨?_,?_,?_,?_⟩ List.perm_middle
  ·rw [List.map_cons,List.nodup_cons]
   refine ⟨fun hm=>?_,hsub.nd⟩
   obtain ⟨w,hw,e⟩:=List.mem_map.1 hm
   have:=hp.ltW (w:=w) (by rcases List.mem_append.1 hw with h | h<;>simp [h])
   simp only at e;omega
  ·intro w hw r hrr
   rcases List.mem_cons.1 hw with rfl | hw
   ·have:=hp.ltR hrr
    simp only;omega
   ·exact hsub.ap w hw r hrr
  ·intro w hw
   rcases List.mem_cons.1 hw with rfl | hw
   ·rw [h3];simp
   ·exact key w hw
  ·intro r hrr
   have hl:=hp.ltR hrr
   rw [h4 r.1 (by omega) fun e hee=>hp.ap e (by simp [hee]) r hrr]
   exact hsub.r r hrr
 ·rw [h4 j (by omega) hn,S0 hj]
 ·simp only [List.mem_cons,not_or,List.mem_map,not_exists,not_and] at hj
  exact (h4 j hj.1 fun e he hc=>hj.2 e he hc).symm
theorem b3u {pairs T i t rest env K s d sz bytes rows row A B E R} (h:Rp d sz rows E) (hp:Hp s (A++E++B) R) (hr:row.length=sz) (hrs:∀r∈rows,r.length=sz) (hb:bytes<=1000) (hl:rows.length<=1000000000) (he:a1H pairs i ((s.next+1)::E.map Prod.fst) T)
 (k:∀s',Rp (.arr (s.next+1) 0 (rows.length+1) sz) sz (rows++[row]) [(s.next+1,(rows++[row]).flatten)]->Hp s' (A++(s.next+1,(rows++[row]).flatten)::B) R->s'.next=s.next+2->(∀j,j<s.next->(∀e∈E,e.1≠j)->s'.get j=s.get j)->XX fs pairs (⟨i,none,(s.next+1)::E.map Prod.fst⟩::T) rest ((t,.arr (s.next+1) 0 (rows.length+1) sz)::env) s' K):MX d (.arr s.next 0 1 sz) sz bytes i fs pairs T t rest env (s.push (.cells row)) K:=by
 obtain ⟨s',h1,h2,h3,h4,h5,h6⟩:=h.app2 hp hr hrs hb hl
 exact ⟨_,s',(s.next+1)::E.map Prod.fst,h1,by rw [h4,k4.next_push];omega,h6,he,k s' h2 h3 h4 h5⟩
theorem a6m {t rest env K s d sz bytes rows row A B E R} (h:Rp d sz rows E) (hp:Hp s (A++E++B) R) (hr:row.length=sz) (hrs:∀r∈rows,r.length=sz) (hb:bytes<=1000) (hl:rows.length<=1000000000)
 (k:∀s',Rp (.arr (s.next+1) 0 (rows.length+1) sz) sz (rows++[row]) [(s.next+1,(rows++[row]).flatten)]->Hp s' (A++(s.next+1,(rows++[row]).flatten)::B) R->s'.next=s.next+2->(∀j,j<s.next->(∀e∈E,e.1≠j)->s'.get j=s.get j)->XQ fs [] rest ((t,.arr (s.next+1) 0 (rows.length+1) sz)::env) s' K):BM (S8 sz bytes d (.arr s.next 0 1 sz) (s.push (.cells row))) fs t rest env K:=by
 obtain ⟨s',h1,h2,h3,h4,h5,_⟩:=h.app2 hp hr hrs hb hl
 rw [h1]
 exact k s' h2 h3 h4 h5
theorem a7Z {β:Type} {f:Nat->List Int->β} {q:Nat}:∀ {ids:List Nat} {l:List (List Int)},ids.length<l.length->List.zipWith f (ids++[q]) l=List.zipWith f ids l++[f q (cAt l ids.length)]
 | [],[],h=>by simp at h
 | [],a::l,_=>by simp [cAt]
 | i::ids,[],h=>by simp at h
 | i::ids,a::l,h=>by
   have ih:=a7Z (f:=f) (q:=q) (ids:=ids) (l:=l) (by simpa using h)
   simp only [List.cons_append,List.zipWith_cons_cons,ih,List.length_cons]
   rfl
def a0m (ids:List Nat) (l:List (List Int)):List (List D):=List.zipWith (fun id q=>[.arr id 0 q.length 1]) ids l
def a05 (ids:List Nat) (l:List (List Int)):Hs:=List.zipWith (fun id q=>(id,S1 q)) ids l
theorem b28:∀ {ids:List Nat} {l:List (List Int)},∀r∈a0m ids l,r.length=1
 | [],_,r,h=>by simp [a0m] at h
 | _::_,[],r,h=>by simp [a0m] at h
 | i::ids,a::l,r,h=>by
   simp only [a0m,List.zipWith_cons_cons,List.mem_cons] at h
   rcases h with rfl | h
   ·rfl
   ·exact b28 (ids:=ids) (l:=l) r h
theorem a6G {ids:List Nat} {l:List (List Int)} (h:ids.length<=l.length):(a0m ids l).length=ids.length:=by simp [a0m];omega
theorem b9i {ids:List Nat} {l:List (List Int)} {q:Nat} (h:ids.length<l.length):a0m (ids++[q]) l=a0m ids l++[[.arr q 0 (cAt l ids.length).length 1]]:=a7Z h
theorem c0P {ids:List Nat} {l:List (List Int)} {q:Nat} (h:ids.length<l.length):a05 (ids++[q]) l=a05 ids l++[(q,S1 (cAt l ids.length))]:=a7Z h
end Go.V
namespace Go.Proofs.YtnjlhebkhjcagaaGreat
open Go.V
set_option maxRecDepth 100000
set_option maxHeartbeats 4000000
variable {m:MdX} {mo:Mo} {ps:List (Pr×PrD)} {x:StD} {st:Stt}
theorem b8U (hm:MoF m mo ps) (ho:P7 mo) (hx:a2z mo x st):b2m vfs 17 [.agg [m.dt,.int .i64 m.g,m.dc,m.dv,m.dp,m.ds,.bool m.b],.agg [x.da,x.dv,x.dc,.int .i64 st.hold]] fun d=>FL 4 d (a1e (mo.moves st)):=by
 have fm:=a3e hm
 have fx:=a5g hx.f
 have om:=hm.ones
 have ox:=hx.f.ones
 have hxf:=hx.f
 have hmc:=hm.c
 have hcl:=hx.fit.chans
 have hnp:=ho.np
 have hnc:=ho.nc
 refine b6V (vf:=a8l) rfl ?_
 unfold a8l;refine zF ?_
 refine zY (aN om ox) ?_
 have hp0:Hp ((k4.empty.push (.cells [m.dt,.int .i64 m.g,m.dc,m.dv,m.dp,m.ds,.bool m.b])).push (.cells [x.da,x.dv,x.dc,.int .i64 st.hold])) [] [(0,[m.dt,.int .i64 m.g,m.dc,m.dv,m.dp,m.ds,.bool m.b]),(1,[x.da,x.dv,x.dc,.int .i64 st.hold])]:=⟨List.nodup_nil,by simp,by simp [Has],by
  intro y hy
  simp only [List.mem_cons,List.not_mem_nil,or_false] at hy
  rcases hy with rfl | rfl
  ·exact zZ0
  ·simp (disch:=(first|exact Rf.mk rfl|with_reducible assumption|omega|((repeat (first|rw [nP]|rw [nS]|rw [M7]))<;>omega)|decide)) only [go_sem,↓reduceIte]⟩
 generalize hR:[(0,[m.dt,.int .i64 m.g,m.dc,m.dv,m.dp,m.ds,.bool m.b]),(1,[x.da,x.dv,x.dc,.int .i64 st.hold])]=R at hp0
 have hg:∀ {s E},Hp s E R->s.get 0=some (.cells [m.dt,.int .i64 m.g,m.dc,m.dv,m.dp,m.ds,.bool m.b])/\s.get 1=some (.cells [x.da,x.dv,x.dc,.int .i64 st.hold]):=fun h=>by
  subst hR
  exact ⟨h.r (0,_) (by simp),h.r (1,_) (by simp)⟩
 refine a2f [0,1,2,3,4,8,9,65,83,108] (fun f s=>∃E,Rp (f 5) 4 (a1e (mo.mvP st mo.procs.length)) E/\Hp s E R) ?_ ?_
 ·refine a0d [0,1,2,3,4,8,9,65,83,108] 0 mo.procs.length (fun i f s=>f 6=.int .i64 (i:Int)/\∃E,Rp (f 5) 4 (a1e (mo.mvP st i)) E/\Hp s E R) (.mk rfl) (by omega) ⟨rfl,[],.inl ⟨rfl,rfl,rfl⟩,hp0⟩ ?_
  rintro i f s hi ⟨hE,E,hr,hp⟩
  obtain ⟨g0,g1⟩:=hg hp
  by_cases ci:i<mo.procs.length
  ·by_cases ch:0<=st.hold/\st.hold≠(i:Int)
   ·have e:mo.movesP st i=[]:=by rw [Mo.movesP_eq,if_pos ch]
    have h1:=ch.1
    have h2:=ch.2
    refine zY (aN hE (aN ci (aN g0 (aN g1 (aN om (aN ox (aN h1 h2))))))) ?_
    rw [Mo.mvP_succ,e,List.append_nil]
    exact ⟨E,hr,hp⟩
   ·have e:mo.movesP st i=mo.mvE st i (pAt mo.procs i).edges.length:=by rw [Mo.movesP_eq,if_neg ch]
    have hel:=(ho.pr _ (a0P ci)).el
    have h2:0<=st.hold->(st.hold=(i:Int))=True:=fun h=>eq_true (by omega)
    have hmi:(mo.mvP st i).length<=16000:=Nat.le_trans (Mo.mvP_len ho hi) (by omega)
    by_cases h1:0<=st.hold<;>simp (disch:=(first|exact Rf.mk rfl|with_reducible assumption|omega|((repeat (first|rw [nP]|rw [nS]|rw [M7]))<;>omega)|decide)) only [go_sem,↓reduceIte,hE,ci,g0,g1,om,ox,h1,h2]
    all_goals
     refine a0d [0,1,2,3,4,6,8,9,14,25,65,83,108] 0 (pAt mo.procs i).edges.length (fun j f s=>f 7=.int .i64 (j:Int)/\∃E,Rp (f 5) 4 (a1e (mo.mvP st i++mo.mvE st i j)) E/\Hp s E R) (.mk rfl) (by omega) ⟨rfl,E,by rw [show mo.mvE st i 0=[] from rfl,List.append_nil];exact hr,hp⟩ ?_
     rintro j f s hj ⟨hE,E,hr,hp⟩
     obtain ⟨g0,g1⟩:=hg hp
     by_cases cj:j<(pAt mo.procs i).edges.length
     ·have hc:=b7N hm ho hx ci cj
      have fe:=b8S (e:=eAt (pAt mo.procs i).edges j)
      refine zY (aN hE (aN ci (aN cj (aN g0 (aN g1 (aN om (aN ox hc))))))) ?_
      refine a1F (fun c=>?_) (fun c=>?_)
      ·refine zY (aN hE (aN ci (aN cj (aN g0 (aN g1 (aN om ox)))))) ?_
       have:=Mo.mvE_len (mo:=mo) (st:=st) (i:=i) (j:=j)
       refine a6R ⟨0,i,j,0⟩ rfl hr hp (by decide) (by simp;omega) ?_
       intro d' s' E' hr' hp'
       refine zY hE ?_
       refine ⟨cj,E',?_,hp'⟩
       rw [Mo.mvE_succ,c,if_pos rfl,<- List.append_assoc]
       exact hr'
      ·refine zY hE ?_
       refine ⟨cj,E,?_,hp⟩
       rw [Mo.mvE_succ,c,if_neg (by simp),List.append_nil]
       exact hr
     ·obtain rfl:j=(pAt mo.procs i).edges.length:=by omega
      refine zY (aN hE (aN ci (aN g0 (aN g1 (aN om ox))))) ?_
      rw [Mo.mvP_succ,e]
      exact ⟨E,hr,hp⟩
  ·obtain rfl:i=mo.procs.length:=by omega
   refine zY (aN hE (aN ci (aN g0 (aN g1 (aN om ox))))) ?_
   exact ⟨E,hr,hp⟩
 ·rintro f s ⟨E,hr,hp⟩
  obtain ⟨g0,g1⟩:=hg hp
  refine zY0 ?_
  refine a2f [0,1,2,3,4,6,7,14,25,34,49] (fun f s=>∃E,Rp (f 5) 4 (a1e (mo.moves st)) E/\Hp s E R) ?_ ?_
  ·have hmi:(mo.mvP st mo.procs.length).length<=16000:=Nat.le_trans (Mo.mvP_len ho (Nat.le_refl _)) (by omega)
   refine a0d [0,1,2,3,4,6,7,14,25,34,49] 0 mo.chans.length (fun i f s=>f 8=.int .i64 (i:Int)/\∃E,Rp (f 5) 4 (a1e (mo.mvP st mo.procs.length++if st.hold<0 then mo.mvC st i else [])) E/\Hp s E R) (.mk rfl) (by omega) ⟨rfl,E,?_,hp⟩ ?_
   ·rw [show mo.mvC st 0=[] from rfl,ite_self,List.append_nil];exact hr
   clear hr hp
   rintro i f s hi ⟨hE,E,hr,hp⟩
   obtain ⟨g0,g1⟩:=hg hp
   by_cases ch:st.hold<0
   ·by_cases ci:i<mo.chans.length
    ·have ci':i<st.chans.length:=by omega
     rw [if_pos ch] at hr
     have hmc':=Mo.mvC_len (mo:=mo) (st:=st) (i:=i)
     have e1:mo.mvC st (i+1)=mo.mvC st i++mo.movesC st i:=Mo.mvC_succ
     unfold Mo.movesC at e1
     by_cases l1:(U3 mo.chans i).lossy=true<;>by_cases l0:0<(cAt st.chans i).length<;>by_cases l2:(U3 mo.chans i).copying=true<;>by_cases l3:((cAt st.chans i).length:Int)<(U3 mo.chans i).room<;>simp only [l1,l0,l2,l3,decide_true,decide_false,Bool.and_true,Bool.and_false,Bool.false_and,Bool.true_and,Bool.false_eq_true,if_true,if_false,List.append_nil,List.nil_append,List.cons_append] at e1<;>simp (disch:=(first|exact Rf.mk rfl|with_reducible assumption|omega|((repeat (first|rw [nP]|rw [nS]|rw [M7]))<;>omega)|decide)) only [go_sem,↓reduceIte,hE,ch,ci,g0,g1,om,ox,l1,l0,l2,l3]
     all_goals try (first|refine a6R ⟨1,0,0,i⟩ rfl hr hp (by decide) (by simp;omega) ?_|refine a6R ⟨2,0,0,i⟩ rfl hr hp (by decide) (by simp;omega) ?_)<;>rintro d1 s1 E1 hr hp<;>obtain ⟨k0,k1⟩:=hg hp<;>simp (disch:=(first|exact Rf.mk rfl|with_reducible assumption|omega|((repeat (first|rw [nP]|rw [nS]|rw [M7]))<;>omega)|decide)) only [go_sem,↓reduceIte,hE,ch,ci,k0,k1,om,ox,l1,l0,l2,l3]
     all_goals try (refine a6R ⟨2,0,0,i⟩ rfl hr hp (by decide) (by simp;omega) ?_)<;>rintro d1 s1 E1 hr hp<;>simp (disch:=(first|exact Rf.mk rfl|with_reducible assumption|omega|((repeat (first|rw [nP]|rw [nS]|rw [M7]))<;>omega)|decide)) only [go_sem,↓reduceIte,hE]
     all_goals
      rw [e1]
      try simp only [List.append_assoc,List.cons_append,List.nil_append] at hr ⊢
      first|exact ⟨_,hr,hp⟩|exact ⟨ci,_,hr,hp⟩
    ·obtain rfl:i=mo.chans.length:=by omega
     refine zY (aN hE (aN ch (aN ci (aN g0 (aN g1 (aN om ox)))))) ?_
     rw [Mo.moves_eq]
     exact ⟨E,hr,hp⟩
   ·rw [if_neg ch] at hr
    by_cases ci:i<mo.chans.length
    ·refine zY (aN hE (aN ch (aN ci (aN g0 (aN g1 (aN om ox)))))) ?_
     rw [Mo.moves_eq,if_neg ch]
     exact ⟨E,hr,hp⟩
    ·refine zY (aN hE (aN ch (aN ci (aN g0 (aN g1 (aN om ox)))))) ?_
     rw [Mo.moves_eq,if_neg ch]
     exact ⟨E,hr,hp⟩
  ·rintro f s ⟨E,hr,hp⟩
   obtain ⟨d',h1,h2⟩:=a7k hr hp (fun e h=>h) (b6O _) (b6t _)
   refine zY h1 ?_
   exact ⟨_,rfl,h2⟩
end Go.Proofs.YtnjlhebkhjcagaaGreat
namespace Go.V
def Mo.actS (mo:Mo) (st:Stt) (e:Ed) (n:Int):Stt :=
 if e.act=1 then { st with vars:=st.vars.set e.var.toNat (N8 n (vAt mo.vars e.var.toNat).width.toNat) }
 else if e.act=2 then { st with chans:=st.chans.set e.chan.toNat (cAt st.chans e.chan.toNat++[N8 n (U3 mo.chans e.chan.toNat).width.toNat]) }
 else if e.act=3 then { st with vars:=st.vars.set e.var.toNat (N8 (zAt (cAt st.chans e.chan.toNat) 0) (vAt mo.vars e.var.toNat).width.toNat),chans:=st.chans.set e.chan.toNat ((cAt st.chans e.chan.toNat).drop 1) }
 else st
def Stt.go (st:Stt) (i to:Nat):Stt:={ st with at':=st.at'.set i to }
def Stt.free (st:Stt):Stt:={ st with hold:=-1 }
def Mo.edgeS (mo:Mo) (st:Stt) (i:Nat) (p:Pr) (e:Ed):Stt:=(mo.actS (st.go i e.to) e (mo.ex p st e 0).1).free
def Mo.doE (mo:Mo) (st:Stt) (i:Nat) (p:Pr) (e:Ed):Stt:={ mo.edgeS st i p e with hold:=if e.keep&&mo.someS (mo.edgeS st i p e) i p then (i:Int) else -1 }
def Mo.doS (mo:Mo) (st:Stt) (v:Mv):Stt :=
 if v.kind=1 then { st with chans:=st.chans.set v.chan ((cAt st.chans v.chan).drop 1) }
 else if v.kind=2 then { st with chans:=st.chans.set v.chan (cAt st.chans v.chan++[zAt (cAt st.chans v.chan) 0]) }
 else mo.doE st v.proc (pAt mo.procs v.proc) (eAt (pAt mo.procs v.proc).edges v.edge)
def Mo.mvOk (mo:Mo) (st:Stt) (v:Mv):Prop :=
 (v.kind=0/\v.proc<mo.procs.length/\v.edge<(pAt mo.procs v.proc).edges.length/\mo.can st v.proc (pAt mo.procs v.proc) (eAt (pAt mo.procs v.proc).edges v.edge)=true) ∨
 (v.kind=1/\v.chan<mo.chans.length/\0<(cAt st.chans v.chan).length) ∨
 (v.kind=2/\v.chan<mo.chans.length/\0<(cAt st.chans v.chan).length/\((cAt st.chans v.chan).length:Int)<(U3 mo.chans v.chan).room)
def ChR (s:k4) (q:D) (l:List Int):Prop:=(q=.nils/\l=[])∨q=.lst 1 (U8 l)∨∃id off cs,q=.arr id off l.length 1/\s.get id=some (.cells cs)/\off+l.length<=cs.length/\(cs.drop off).take l.length=S1 l
theorem b7s (l:List Int):(S1 l).all Y2=true:=by simp [S1,Y2]
theorem ChR.one {s:k4} {q:D} {l:List Int} (h:ChR s q l):M4 q=true:=by
 rcases h with ⟨rfl,_⟩ | rfl | ⟨id,off,cs,rfl,_⟩<;>rfl
theorem ChR.frz {s:k4} {q:D} {l:List Int} (h:ChR s q l) (n:Nat):∃q',ice s.get (n+2) q=some q'/\FI q' l:=by
 rcases h with ⟨rfl,rfl⟩ | rfl | ⟨id,off,cs,rfl,h1,h2,h3⟩
 ·exact ⟨_,rfl,.inl ⟨rfl,rfl⟩⟩
 ·exact ⟨_,rfl,.inr rfl⟩
 ·refine ⟨.lst 1 (U8 l),?_,.inr rfl⟩
  have e1:W4 s.get (.arr id off l.length 1)=some (S1 l):=by
   simp only [W4,h1,Nat.mul_one,h3]
   rw [if_pos h2]
  have e2:M6 (ice s.get (n+1)) (S1 l)=some (S1 l):=a5n (b7s l)
  simp only [ice,e1,e2,Option.map_some]
  have e3:=a6b (S1 l)
  rw [a9s] at e3
  rw [e3]
  simp [S1,U8]
def dAt (l:List D) (i:Nat):D:=l.getD i .undef
theorem a5S {l:List D} {i:Nat} (h:i<l.length):dAt l i=l[i]:=by simp [dAt,List.getD,h]
def a0t (s:k4) (cs:List D) (st:Stt):Prop:=∃dA dV dC qs,cs=[dA,dV,dC,.int .i64 st.hold]/\SN s 1 dA (O5 st.at')/\SN s 1 dV (U8 st.vars)/\SN s 1 dC (qs.map fun q=>[q])/\(qs=[]∨∃id,dC=.arr id 0 qs.length 1)/\qs.length=st.chans.length/\∀j (h:j<qs.length) (h':j<st.chans.length),ChR s qs[j] st.chans[j]
theorem a0t.mk {s:k4} {dA dV dC:D} {st:Stt} (qs:List D) (hA:SN s 1 dA (O5 st.at')) (hV:SN s 1 dV (U8 st.vars)) (hC:SN s 1 dC (qs.map fun q=>[q])) (hn:qs=[]∨∃id,dC=.arr id 0 qs.length 1) (hl:qs.length=st.chans.length) (hq:∀j,j<qs.length->ChR s (dAt qs j) (cAt st.chans j)):a0t s [dA,dV,dC,.int .i64 st.hold] st :=
 ⟨dA,dV,dC,qs,rfl,hA,hV,hC,hn,hl,fun j h h'=>by
  have:=hq j h
  rwa [a5S h,a1O h'] at this⟩
theorem a93 {s:k4} (n:Nat):∀ {qs:List D} {l:List (List Int)},qs.length=l.length->(∀j (h:j<qs.length) (h':j<l.length),ChR s qs[j] l[j])->∃ds:List D,a1k (ice s.get (n+2)) (qs.map fun q=>[q])=some (ds.map fun d=>[d])/\ds.length=l.length/\∀i (h:i<ds.length) (h':i<l.length),FI ds[i] l[i]
 | [],[],_,_=>⟨[],rfl,rfl,fun i h=>by simp at h⟩
 | [],_::_,h,_=>by simp at h
 | _::_,[],h,_=>by simp at h
 | q::qs,a::l,h,hr=>by
   obtain ⟨ds,h1,h2,h3⟩:=a93 n (qs:=qs) (l:=l) (by simpa using h) fun j hj hj'=>hr (j+1) (by simp;omega) (by simp;omega)
   obtain ⟨d,h4,h5⟩:=(hr 0 (by simp) (by simp)).frz n
   refine ⟨d::ds,?_,by simp [h2],fun i hi hi'=>?_⟩
   ·have h4:ice s.get (n+2) q=some d:=h4
    simp only [List.map_cons,a1k,M6,h4,h1]
   ·cases i with
    | zero=>exact h5
    | succ i=>exact h3 i (by simpa using hi) (by simpa using hi')
theorem a0t.frz {s:k4} {cs:List D} {st:Stt} (h:a0t s cs st):∃x,ice s.get 20 (.agg cs)=some (.agg [x.da,x.dv,x.dc,.int .i64 st.hold])/\StF x st:=by
 obtain ⟨dA,dV,dC,qs,rfl,hA,hV,hC,hn,hl,hq⟩:=h
 obtain ⟨da,a1,b1⟩:=hA.frz1 (n:=17) (a2g _) (a6e _)
 obtain ⟨dv,a2,b2⟩:=hV.frz1 (n:=17) (a5o _) (b8d _)
 obtain ⟨ds,h1,h2,h3⟩:=a93 16 hl hq
 obtain ⟨dc,a3,b3⟩:=hC.frz (n:=18) (fun r hr=>by obtain ⟨x,_,rfl⟩:=List.mem_map.1 hr;rfl) h1 (fun e=>by
  rcases hn with rfl | ⟨id,hid⟩
  ·have:ds=[]:=List.length_eq_zero_iff.1 (by rw [h2,<- hl];rfl)
   rw [this]
  ·rw [hid] at e;cases e)
 refine ⟨⟨da,dv,dc⟩,?_,⟨b1,b2,ds,b3,h2,h3⟩⟩
 have e1:ice s.get 19 (.int .i64 st.hold)=some (.int .i64 st.hold):=rfl
 simp only [ice,M6,a1,a2,a3,e1,Option.map_some]
def a9O (s:k4) (n:Nat) (r:D) (st:Stt):Prop:=∃a v dC ids EC,r=.agg [.arr a 0 st.at'.length 1,.arr v 0 st.vars.length 1,dC,.int .i64 st.hold]/\ids.length=st.chans.length/\Rp dC 1 (a0m ids st.chans) EC/\Hp s ((a,U5 st.at')::(v,S1 st.vars)::(EC++a05 ids st.chans)) []/\∀w∈(a,U5 st.at')::(v,S1 st.vars)::(EC++a05 ids st.chans),n<=w.1
def qcs (ids:List Nat) (l:List (List Int)):List D:=List.zipWith (fun id q=>.arr id 0 q.length 1) ids l
theorem a95:∀ {ids:List Nat} {l:List (List Int)},a0m ids l=(qcs ids l).map fun q=>[q]
 | [],_=>by simp [a0m,qcs]
 | _::_,[]=>by simp [a0m,qcs]
 | i::ids,a::l=>by
   have:=a95 (ids:=ids) (l:=l)
   simp only [a0m,qcs,List.zipWith_cons_cons,List.map_cons] at *
   rw [this]
theorem a7d {l:List D}:(l.map fun q=>[q]).flatten=l:=by induction l with
 | nil=>rfl
 | cons a l ih=>simp [ih]
theorem a2t {ids:List Nat} {l:List (List Int)} (h:ids.length=l.length):(qcs ids l).length=l.length:=by simp [qcs,h]
theorem a8M:∀ {ids:List Nat} {l:List (List Int)} {j:Nat},ids.length=l.length->j<l.length->(qcs ids l)[j]?=some (.arr (nAt ids j) 0 (cAt l j).length 1)
 | [],[],j,_,h=>by simp at h
 | [],_::_,j,h,_=>by simp at h
 | _::_,[],j,h,_=>by simp at h
 | i::ids,a::l,0,h,_=>by simp [qcs,nAt,cAt]
 | i::ids,a::l,j+1,h,hj=>by
   have:=a8M (ids:=ids) (l:=l) (j:=j) (by simpa using h) (by simpa using hj)
   simpa [qcs,nAt,cAt] using this
theorem b1x {ids:List Nat} {l:List (List Int)} {j:Nat} (h:ids.length=l.length) (hj:j<l.length):dAt (qcs ids l) j=.arr (nAt ids j) 0 (cAt l j).length 1:=by
 have:=a8M h hj
 simp [dAt,List.getD,this]
theorem a9o:∀ {ids:List Nat} {l:List (List Int)} {j:Nat},ids.length=l.length->j<l.length->(nAt ids j,S1 (cAt l j))∈a05 ids l
 | [],[],j,_,h=>by simp at h
 | [],_::_,j,h,_=>by simp at h
 | _::_,[],j,h,_=>by simp at h
 | i::ids,a::l,0,h,_=>by simp [a05,nAt,cAt]
 | i::ids,a::l,j+1,h,hj=>by
   have:=a9o (ids:=ids) (l:=l) (j:=j) (by simpa using h) (by simpa using hj)
   simp only [a05,List.zipWith_cons_cons,List.mem_cons]
   exact .inr this
theorem b4e:∀ {ids:List Nat} {l:List (List Int)},ids.length=l.length->(a05 ids l).map Prod.fst=ids
 | [],[],_=>rfl
 | [],_::_,h=>by simp at h
 | _::_,[],h=>by simp at h
 | i::ids,a::l,h=>by
   have:=b4e (ids:=ids) (l:=l) (by simpa using h)
   simp only [a05,List.zipWith_cons_cons,List.map_cons,List.cons.injEq,true_and] at *
   exact this
structure a11 (s:k4) (n:Nat) (a v:Nat) (dC:D) (ids:List Nat) (st:Stt):Prop where
 len:ids.length=st.chans.length
 ga:s.get a=some (.cells (U5 st.at'))
 gv:s.get v=some (.cells (S1 st.vars))
 gc:(st.chans=[]/\dC=.nils)∨∃c,dC=.arr c 0 st.chans.length 1/\s.get c=some (.cells (qcs ids st.chans))/\n<=c/\c≠a/\c≠v/\∀j,j<st.chans.length->nAt ids j≠c
 gq:∀j,j<st.chans.length->s.get (nAt ids j)=some (.cells (S1 (cAt st.chans j)))/\n<=nAt ids j/\nAt ids j≠a/\nAt ids j≠v
 inj:∀i j,i<st.chans.length->j<st.chans.length->nAt ids i=nAt ids j->i=j
 av:a≠v
 na:n<=a
 nv:n<=v
theorem a9O.open {s:k4} {n:Nat} {r:D} {st:Stt} (h:a9O s n r st):∃a v dC ids,r=.agg [.arr a 0 st.at'.length 1,.arr v 0 st.vars.length 1,dC,.int .i64 st.hold]/\a11 s n a v dC ids st:=by
 obtain ⟨a,v,dC,ids,EC,rfl,hl,hr,hp,hn⟩:=h
 have nd:=hp.nd
 simp only [List.map_cons,List.map_append,b4e hl,List.nodup_cons,List.mem_cons,List.mem_append,not_or,List.nodup_append] at nd
 obtain ⟨⟨n1,n2,n3⟩,⟨n4,n5⟩,n6,n7,n8⟩:=nd
 have hm:∀j,j<st.chans.length->nAt ids j∈ids:=fun j hj=>a9v (by omega)
 refine ⟨a,v,dC,ids,rfl,hl,hp.hd,hp.tl.hd,?_,fun j hj=>?_,fun i j hi hj e=>?_,n1,hn (a,U5 st.at') (by simp),hn (v,S1 st.vars) (by simp)⟩
 ·rcases hr with ⟨rfl,h2,_⟩ | ⟨c,rfl,rfl,h3⟩
  ·refine .inl ⟨?_,rfl⟩
   have:=congrArg List.length h2
   rw [a6G (by omega)] at this
   exact List.length_eq_zero_iff.1 (by rw [<- hl];exact this)
  ·refine .inr ⟨c,by rw [a6G (by omega),hl],?_,hn (c,(a0m ids st.chans).flatten) (by simp),?_,?_,?_⟩
   ·have:=hp.tl.tl.w (c,(a0m ids st.chans).flatten) (by simp)
    rw [a95,a7d] at this
    exact this
   ·intro e;subst e;simp at n2
   ·intro e;subst e;simp at n4
   ·intro j hj e
    exact n8 c (by simp) (nAt ids j) (hm j hj) e.symm
 ·refine ⟨hp.tl.tl.w (nAt ids j,S1 (cAt st.chans j)) (by simp [a9o hl hj]),hn (nAt ids j,S1 (cAt st.chans j)) (by simp [a9o hl hj]),?_,?_⟩
  ·intro e;rw [<- e] at n3;exact n3 (hm j hj)
  ·intro e;rw [<- e] at n5;exact n5 (hm j hj)
 ·rw [a1w (by omega),a1w (by omega)] at e
  have hpw:=List.pairwise_iff_getElem.1 n7
  rcases Nat.lt_trichotomy i j with h | h | h
  ·exact absurd e (hpw i j (by omega) (by omega) h)
  ·exact h
  ·exact absurd e.symm (hpw j i (by omega) (by omega) h)
theorem a8p {l:List D} {n:Nat} {x:D} (h:n<l.length):List.take n l++[x]++List.drop (n+1) l=l.set n x:=by
 have:=b3V (x:=x) h
 rw [<- this]
 simp [a2o]
theorem b4t (l:List Int) (n:Nat) (k:Int):(S1 l).set n (.int .i64 k)=S1 (l.set n k):=by simp [S1,List.map_set]
theorem c2Z {l:List Nat} {n x:Nat} (h:n<l.length):List.take n (U5 l)++[.int .i64 (x:Int)]++List.drop (n+1) (U5 l)=U5 (l.set n x):=by rw [a8p (by simpa using h),b1W]
theorem c3m {l:List Int} {n:Nat} {x:Int} (h:n<l.length):List.take n (S1 l)++[.int .i64 x]++List.drop (n+1) (S1 l)=S1 (l.set n x):=by rw [a8p (by simpa using h),b4t]
theorem le_succ {a b:Nat}:(a+1<=b)=(a<b):=by apply propext;omega
attribute [go_sem] c2Z c3m a2t a8M b4t b1W b2w a9s le_succ
structure a1d (mo:Mo):Prop where
 ch:∀c∈mo.chans,1<=c.room/\c.room<=3/\1<=c.width/\c.width<=8
 vr:∀v∈mo.vars,1<=v.width/\v.width<=8/\N8 v.value v.width.toNat=v.value
theorem a84 {l:List D} {k j:Nat} {d:D} (hk:k<l.length):dAt (l.set k d) j=if j=k then d else dAt l j:=by
 unfold dAt
 simp only [List.getD,List.getElem?_set]
 split
 ·rename_i h;subst h;simp [hk]
 ·rename_i h;rw [if_neg (Ne.symm h)]
theorem a4n {l:List (List Int)} {k j:Nat} {d:List Int} (hk:k<l.length):cAt (l.set k d) j=if j=k then d else cAt l j:=by
 unfold cAt
 simp only [List.getD,List.getElem?_set]
 split
 ·rename_i h;subst h;simp [hk]
 ·rename_i h;rw [if_neg (Ne.symm h)]
theorem a86 {s:k4} {id:Nat} {l:List Int} (h:s.get id=some (.cells (S1 l))):ChR s (.arr id 0 l.length 1) l :=
 .inr (.inr ⟨id,0,_,rfl,h,by simp,by rw [List.drop_zero,<- a9s l,List.take_length]⟩)
theorem a11.chan {s S:k4} {n a v c:Nat} {ids:List Nat} {st:Stt} (h:a11 s n a v (.arr c 0 st.chans.length 1) ids st) {k:Nat} (hk:k<st.chans.length) {A:List Nat} {V:List Int} {l:List Int} {d:D} {hd:Int} (hA:A.length=st.at'.length) (hV:V.length=st.vars.length)
 (ga:S.get a=some (.cells (U5 A))) (gv:S.get v=some (.cells (S1 V))) (gc:S.get c=some (.cells ((qcs ids st.chans).set k d))) (hr:ChR S d l) (hq:∀j,j<st.chans.length->j≠k->S.get (nAt ids j)=s.get (nAt ids j)) :
 a0t S [.arr a 0 st.at'.length 1,.arr v 0 st.vars.length 1,.arr c 0 st.chans.length 1,.int .i64 hd] ⟨A,V,st.chans.set k l,hd⟩:=by
 refine a0t.mk (st:=⟨A,V,st.chans.set k l,hd⟩) ((qcs ids st.chans).set k d) (.inr (.inl ⟨a,by simp [hA],by rw [a47];exact ga⟩)) (.inr (.inl ⟨v,by simp [hV],by rw [a3G];exact gv⟩)) (.inr (.inl ⟨c,by simp [a2t h.len],by rw [a7d];exact gc⟩)) (.inr ⟨c,by simp [a2t h.len]⟩) (by simp [a2t h.len]) fun j hj=>?_
 rw [List.length_set,a2t h.len] at hj
 rw [a84 (by rw [a2t h.len];exact hk),a4n hk]
 split
 ·exact hr
 ·rename_i hjk
  rw [b1x h.len hj]
  exact a86 (by rw [hq j hj hjk];exact (h.gq j hj).1)
theorem a11.same {s S:k4} {n a v:Nat} {dC:D} {ids:List Nat} {st:Stt} (h:a11 s n a v dC ids st) {A:List Nat} {V:List Int} {hd:Int} (hA:A.length=st.at'.length) (hV:V.length=st.vars.length)
 (ga:S.get a=some (.cells (U5 A))) (gv:S.get v=some (.cells (S1 V))) (hq:∀j,n<=j->j<s.next->j≠a->j≠v->S.get j=s.get j) :
 a0t S [.arr a 0 st.at'.length 1,.arr v 0 st.vars.length 1,dC,.int .i64 hd] ⟨A,V,st.chans,hd⟩:=by
 refine a0t.mk (st:=⟨A,V,st.chans,hd⟩) (qcs ids st.chans) (.inr (.inl ⟨a,by simp [hA],by rw [a47];exact ga⟩)) (.inr (.inl ⟨v,by simp [hV],by rw [a3G];exact gv⟩)) ?_ ?_ (a2t h.len) fun j hj=>?_
 ·rcases h.gc with ⟨e,rfl⟩ | ⟨c,rfl,g,nc,ca,cv,_⟩
  ·refine .inl ⟨rfl,?_⟩
   rw [e];simp [qcs]
  ·refine .inr (.inl ⟨c,by simp [a2t h.len],?_⟩)
   rw [a7d,hq c nc (M1 g) ca cv];exact g
 ·rcases h.gc with ⟨e,rfl⟩ | ⟨c,rfl,g,nc,ca,cv,_⟩
  ·left;rw [e];simp [qcs]
  ·exact .inr ⟨c,by simp [a2t h.len]⟩
 ·rw [a2t h.len] at hj
  obtain ⟨g,n1,n2,n3⟩:=h.gq j hj
  rw [b1x h.len hj]
  exact a86 (by rw [hq _ n1 (M1 g) n2 n3];exact g)
variable {fs:FuncId->Option t5}
end Go.V
namespace Go.Proofs.YtnjlhebkhjcagaaGreat
open Go.V
set_option maxRecDepth 100000
set_option maxHeartbeats 4000000
variable {m:MdX} {mo:Mo} {ps:List (Pr×PrD)} {x:StD} {st:Stt}
theorem b4M (hx:StF x st) (hcl:st.chans.length<=3) (h8:St8 st) (ha:st.at'.length<=1000) (hv:st.vars.length<=1000) {s:k4}:EvP vfs 47 [.agg [x.da,x.dv,x.dc,.int .i64 st.hold]] s fun r s'=>a9O s' s.next r st/\Fr [] s s':=by
 have ox:=hx.ones
 have hlc:=b2x hx
 refine a2H (vf:=a9J) rfl ?_
 unfold a9J;refine zF ?_
 refine zY ox ?_
 have hp0:Hp ((s.push (.cells [x.da,x.dv,x.dc,.int .i64 st.hold])).push (.cells [.nils,.nils,.nils,.int .i64 0])) [(s.next+1,[.nils,.nils,.nils,.int .i64 0])] [(s.next,[x.da,x.dv,x.dc,.int .i64 st.hold])] :=
  Hp.pushW (W:=[]) ⟨List.nodup_nil,by simp,by simp [Has],by simp [Has,O1]⟩ _
 refine a8B (s:=(s.push (.cells [x.da,x.dv,x.dc,.int .i64 st.hold])).push (.cells [.nils,.nils,.nils,.int .i64 0])) hx.a (a2g _) hp0 (by decide) (by simp;omega) (by simp (disch:=(first|exact Rf.mk rfl|with_reducible assumption|omega|((repeat (first|rw [nP]|rw [nS]|rw [M7]))<;>omega)|decide)) only [go_sem,↓reduceIte]) ?_
 rintro a s1 hp1 l1 a1 u1
 have g0:=hp1.r (s.next,[x.da,x.dv,x.dc,.int .i64 st.hold]) (by simp)
 simp only [k4.next_push] at l1 a1 u1 g0
 rw [a47] at hp1
 have f1:Fr [] s s1:=⟨by omega,fun j hj _=>by rw [u1 j (by omega),S0 (by simp;omega),S0 hj]⟩
 simp (disch:=(first|exact Rf.mk rfl|with_reducible assumption|omega|((repeat (first|rw [nP]|rw [nS]|rw [M7]))<;>omega)|decide)) only [go_sem,↓reduceIte,g0,ox,a3F]
 refine a8B (s:=s1) hx.v (a5o _) hp1 (by decide) (by simp;omega) (by simp (disch:=(first|exact Rf.mk rfl|with_reducible assumption|omega|((repeat (first|rw [nP]|rw [nS]|rw [M7]))<;>omega)|decide)) only [go_sem,↓reduceIte]) ?_
 rintro v s2 hp2 l2 a2 u2
 have g0:=hp2.r (s.next,[x.da,x.dv,x.dc,.int .i64 st.hold]) (by simp)
 rw [show (List.map (fun n=>[D.int IntKind.i64 n]) st.vars)=U8 st.vars from rfl,a3G] at hp2
 have f2:Fr [] s s2:=f1.thenS (by omega) u2
 simp (disch:=(first|exact Rf.mk rfl|with_reducible assumption|omega|((repeat (first|rw [nP]|rw [nS]|rw [M7]))<;>omega)|decide)) only [go_sem,↓reduceIte,g0,ox,List.length_map]
 have hp3:=hp2.newW (.cells [.nils,.nils,.nils,.int .i64 0]) [.arr a 0 st.at'.length 1,.arr v 0 st.vars.length 1,.nils,.int .i64 st.hold]
 have f3:Fr [] s ((s2.push (.cells [.nils,.nils,.nils,.int .i64 0])).set s2.next (some (.cells [.arr a 0 st.at'.length 1,.arr v 0 st.vars.length 1,.nils,.int .i64 st.hold]))):=f2.thenS (by simp) fun j hj=>by rw [O0 (by omega),S0 hj]
 have hq:s2.next<((s2.push (.cells [.nils,.nils,.nils,.int .i64 0])).set s2.next (some (.cells [.arr a 0 st.at'.length 1,.arr v 0 st.vars.length 1,.nils,.int .i64 st.hold]))).next:=by simp
 generalize ((s2.push (.cells [.nils,.nils,.nils,.int .i64 0])).set s2.next (some (.cells [.arr a 0 st.at'.length 1,.arr v 0 st.vars.length 1,.nils,.int .i64 st.hold])))=s3 at *
 generalize s2.next=p at *
 clear hp0 hp1 hp2 u1 u2 g0
 refine a0d [0,1,2,3] 0 st.chans.length (fun i f s'=>f 4=.int .i64 (i:Int)/\∃dC ids EC,ids.length=i/\Rp dC 1 (a0m ids st.chans) EC/\Hp s' ((p,[.arr a 0 st.at'.length 1,.arr v 0 st.vars.length 1,dC,.int .i64 st.hold])::(v,S1 st.vars)::(a,U5 st.at')::(s.next+1,[.nils,.nils,.nils,.int .i64 0])::(EC++a05 ids st.chans)) [(s.next,[x.da,x.dv,x.dc,.int .i64 st.hold])]/\(∀w∈EC++a05 ids st.chans,s.next+2<=w.1)/\Fr [] s s') (.mk rfl) (by omega) ⟨rfl,.nils,[],[],rfl,.inl ⟨rfl,rfl,rfl⟩,?_,by simp [a05],f3⟩ ?_
 ·simpa only [a05,List.zipWith_nil_left,List.append_nil] using hp3
 rintro i f s4 hi ⟨hE,dC,ids,EC,hil,hr,hp,hw,fr⟩
 have gp:=hp.hd
 have g0:=hp.rh
 have g1:=hp.tl.tl.tl.hd
 have oc:=hr.one
 by_cases ci:i<st.chans.length
 ·have hch:=a3v hx ci
  refine zY (aN hE (aN ci (aN gp (aN g0 (aN g1 (aN ox oc)))))) ?_
  have lp:=M1 gp
  refine a8B (s:=s4) (rows:=U8 (cAt st.chans i)) hch (a5o _) hp (by decide) (by have:=(h8.c _ (b2Z ci)).1;simp;omega) (by simp (disch:=(first|exact Rf.mk rfl|with_reducible assumption|omega|((repeat (first|rw [nP]|rw [nS]|rw [M7]))<;>omega)|decide)) only [go_sem,↓reduceIte]) ?_
  rintro q s5 hp5 l5 a5 u5
  rw [a3G] at hp5
  have gp:=hp5.tl.hd
  simp (disch:=(first|exact Rf.mk rfl|with_reducible assumption|omega|((repeat (first|rw [nP]|rw [nS]|rw [M7]))<;>omega)|decide)) only [go_sem,↓reduceIte,gp,a4s]
  refine b3u (A:=[(q,S1 (cAt st.chans i)),(p,[.arr a 0 st.at'.length 1,.arr v 0 st.vars.length 1,dC,.int .i64 st.hold]),(v,S1 st.vars),(a,U5 st.at'),(s.next+1,[.nils,.nils,.nils,.int .i64 0])]) (B:=a05 ids st.chans) (E:=EC) (sz:=1) hr (by simpa using hp5) rfl ?_ (by decide) ?_ (by simp (disch:=(first|exact Rf.mk rfl|with_reducible assumption|omega|((repeat (first|rw [nP]|rw [nS]|rw [M7]))<;>omega)|decide)) only [go_sem,↓reduceIte]) ?_
  ·exact b28
  ·have:=a6G (ids:=ids) (l:=st.chans) (by omega)
   omega
  rintro s6 hr6 hp6 l6 u6
  have gp:=hp6.tl.hd
  refine zY (aN hE (aN ci gp)) ?_
  have e1:=b9i (q:=q) (ids:=ids) (l:=st.chans) (by omega)
  have e2:=c0P (q:=q) (ids:=ids) (l:=st.chans) (by omega)
  have e3:=a6G (ids:=ids) (l:=st.chans) (by omega)
  rw [hil] at e1 e2
  have g1':=M1 g1
  refine ⟨.arr (s5.next+1) 0 ((a0m ids st.chans).length+1) 1,ids++[q],[(s5.next+1,(a0m ids st.chans++[[D.arr q 0 (cAt st.chans i).length 1]]).flatten)],by simp [hil],?_,?_,?_,?_⟩
  ·rw [e1];exact hr6
  ·rw [e2]
   have h1:=Hp.set (A:=[(q,S1 (cAt st.chans i))]) (id:=p) hp6 [.arr a 0 st.at'.length 1,.arr v 0 st.vars.length 1,.arr (s5.next+1) 0 ((a0m ids st.chans).length+1) 1,.int .i64 st.hold]
   refine h1.perm ?_
   exact (List.perm_append_singleton (q,S1 (cAt st.chans i)) ((p,[.arr a 0 st.at'.length 1,.arr v 0 st.vars.length 1,.arr (s5.next+1) 0 ((a0m ids st.chans).length+1) 1,.int .i64 st.hold])::(v,S1 st.vars)::(a,U5 st.at')::(s.next+1,[.nils,.nils,.nils,.int .i64 0])::(s5.next+1,(a0m ids st.chans++[[D.arr q 0 (cAt st.chans i).length 1]]).flatten)::a05 ids st.chans))
  ·rw [e2]
   intro w hw1
   simp only [List.cons_append,List.nil_append,List.mem_cons,List.mem_append,List.not_mem_nil,or_false] at hw1
   rcases hw1 with rfl | hw1 | rfl
   ·simp only;omega
   ·exact hw w (by simp [hw1])
   ·simp only;omega
  ·have f5:=fr.thenS (by omega) u5
   have f6:Fr [] s s6:=⟨by have:=f5.1;omega,fun j hj hn=>by
    have h1:=f5.1
    rw [u6 j (by omega) fun e he hc=>by have:=hw e (by simp [he]);omega,f5.2 j hj hn]⟩
   exact f6.thenSet _ (.inr (by omega))
 ·have l1:=M1 g1
  refine zY (aN hE (aN ci (aN gp (aN g0 (aN g1 (aN ox oc)))))) ?_
  obtain rfl:i=st.chans.length:=by omega
  refine a3w ?_
  refine ⟨⟨a,v,dC,ids,EC,rfl,hil,hr,?_,?_⟩,?_⟩
  ·have h1:Hp s4 ((s.next+1,[.nils,.nils,.nils,.int .i64 0])::(a,U5 st.at')::(v,S1 st.vars)::(EC++a05 ids st.chans)) []:=(hp.tl.rt).perm (by
    refine (List.Perm.swap _ _ _).trans ?_
    refine (List.Perm.cons _ (List.Perm.swap _ _ _)).trans ?_
    exact List.Perm.swap _ _ _)
   exact (Hp.set (A:=[]) h1 [.arr a 0 st.at'.length 1,.arr v 0 st.vars.length 1,dC,.int .i64 st.hold]).tl
  ·intro w hw1
   simp only [List.mem_cons] at hw1
   rcases hw1 with rfl | rfl | hw1
   ·simp only;omega
   ·simp only;omega
   ·have:=hw w hw1;omega
  ·exact fr.thenSet _ (.inr (by omega))
end Go.Proofs.YtnjlhebkhjcagaaGreat
namespace Go.V
theorem a64 {n:Int} {w:Nat} (h1:1<=w):N8 (N8 n w) w=N8 n w:=by
 have:=a87 (n:=n) (w:=w) (by omega)
 exact a9q (by omega) this.1 this.2
theorem b30 {n:Int} {w:Nat} (h1:1<=w) (h2:w<=8):I8 (N8 n w):=by
 have h:=a87 (n:=n) (w:=w) (by omega)
 have hc:w=1∨w=2∨w=3∨w=4∨w=5∨w=6∨w=7∨w=8:=by omega
 unfold I8
 rcases hc with rfl | rfl | rfl | rfl | rfl | rfl | rfl | rfl<;>simp at h<;>omega
theorem a4G {l:List Nat} {k j:Nat} {d:Nat} (hk:k<l.length):nAt (l.set k d) j=if j=k then d else nAt l j:=by
 unfold nAt
 simp only [List.getD,List.getElem?_set]
 split
 ·rename_i h;subst h;simp [hk]
 ·rename_i h;rw [if_neg (Ne.symm h)]
theorem a9l {l:List Int} {k j:Nat} {d:Int} (hk:k<l.length):zAt (l.set k d) j=if j=k then d else zAt l j:=by
 unfold zAt
 simp only [List.getD,List.getElem?_set]
 split
 ·rename_i h;subst h;simp [hk]
 ·rename_i h;rw [if_neg (Ne.symm h)]
structure a0G (mo:Mo) (st:Stt):Prop where
 at':st.at'.length=mo.procs.length
 vars:st.vars.length=mo.vars.length
 chans:st.chans.length=mo.chans.length
 pl:∀i,i<mo.procs.length->nAt st.at' i<(pAt mo.procs i).places
 vr:∀i,i<mo.vars.length->N8 (zAt st.vars i) (vAt mo.vars i).width.toNat=zAt st.vars i
 cl:∀i,i<mo.chans.length->((cAt st.chans i).length:Int)<=(U3 mo.chans i).room
 cv:∀i,i<mo.chans.length->∀n∈cAt st.chans i,N8 n (U3 mo.chans i).width.toNat=n
 hold:-1<=st.hold/\st.hold<(mo.procs.length:Int)
theorem a4N {mo:Mo} {st:Stt}:a0G mo st↔Fit mo st:=by
 constructor
 ·rintro ⟨h1,h2,h3,h4,h5,h6,h7,h8⟩
  refine ⟨h1,h2,h3,fun i h h'=>?_,fun i h h'=>?_,fun i h h'=>?_,fun i h h'=>?_,h8⟩
  ·have:=h4 i h';rwa [a1w h,a2N h'] at this
  ·have:=h5 i h';rwa [a12 h,a5e h'] at this
  ·have:=h6 i h';rwa [a1O h,a4m h'] at this
  ·have:=h7 i h';rwa [a1O h,a4m h'] at this
 ·rintro ⟨h1,h2,h3,h4,h5,h6,h7,h8⟩
  refine ⟨h1,h2,h3,fun i h'=>?_,fun i h'=>?_,fun i h'=>?_,fun i h'=>?_,h8⟩
  ·have h:i<st.at'.length:=by omega
   rw [a1w h,a2N h'];exact h4 i h h'
  ·have h:i<st.vars.length:=by omega
   rw [a12 h,a5e h'];exact h5 i h h'
  ·have h:i<st.chans.length:=by omega
   rw [a1O h,a4m h'];exact h6 i h h'
  ·have h:i<st.chans.length:=by omega
   rw [a1O h,a4m h'];exact h7 i h h'
theorem b05 {mo:Mo} (hf:a1d mo) {st:Stt} (h:Fit mo st):St8 st:=by
 have h:=a4N.2 h
 refine ⟨fun n hn=>?_,fun l hl=>?_⟩
 ·obtain ⟨i,hi,rfl⟩:=List.getElem_of_mem hn
  have hi':i<mo.vars.length:=by rw [<- h.vars];exact hi
  have:=h.vr i hi'
  rw [a12 hi] at this
  rw [<- this]
  have:=hf.vr _ (a3T hi')
  exact b30 (by omega) (by omega)
 ·obtain ⟨i,hi,rfl⟩:=List.getElem_of_mem hl
  have hi':i<mo.chans.length:=by rw [<- h.chans];exact hi
  have h1:=h.cl i hi'
  have h2:=h.cv i hi'
  rw [a1O hi] at h1 h2
  have h3:=hf.ch _ (a5M hi')
  refine ⟨by omega,fun n hn=>?_⟩
  rw [<- h2 n hn]
  exact b30 (by omega) (by omega)
theorem a0G.var {mo:Mo} (hf:a1d mo) {st:Stt} (h:a0G mo st) {k:Nat} (hk:k<mo.vars.length) (n:Int):a0G mo { st with vars:=st.vars.set k (N8 n (vAt mo.vars k).width.toNat) }:=by
 refine ⟨h.at',by simp [h.vars],h.chans,h.pl,fun i hi=>?_,h.cl,h.cv,h.hold⟩
 rw [a9l (by rw [h.vars];exact hk)]
 split
 ·rename_i e;subst e
  have:=hf.vr _ (a3T hk)
  exact a64 (by omega)
 ·exact h.vr i hi
theorem a0G.chan {mo:Mo} {st:Stt} (h:a0G mo st) {k:Nat} (hk:k<mo.chans.length) {l:List Int} (hl:(l.length:Int)<=(U3 mo.chans k).room) (hv:∀n∈l,N8 n (U3 mo.chans k).width.toNat=n):a0G mo { st with chans:=st.chans.set k l }:=by
 refine ⟨h.at',h.vars,by simp [h.chans],h.pl,h.vr,fun i hi=>?_,fun i hi=>?_,h.hold⟩
 ·simp only [a4n (by rw [h.chans];exact hk)]
  split
  ·rename_i e;subst e;exact hl
  ·exact h.cl i hi
 ·simp only [a4n (by rw [h.chans];exact hk)]
  split
  ·rename_i e;subst e;exact hv
  ·exact h.cv i hi
theorem a0G.go {mo:Mo} {st:Stt} (h:a0G mo st) {p to:Nat} (hp:p<mo.procs.length) (ht:to<(pAt mo.procs p).places):a0G mo (st.go p to):=by
 refine ⟨by simp [Stt.go,h.at'],h.vars,h.chans,fun i hi=>?_,h.vr,h.cl,h.cv,h.hold⟩
 simp only [Stt.go,a4G (by rw [h.at'];exact hp)]
 split
 ·rename_i e;subst e;exact ht
 ·exact h.pl i hi
theorem a0G.hd {mo:Mo} {st:Stt} (h:a0G mo st) {z:Int} (hz:-1<=z/\z<(mo.procs.length:Int)):a0G mo { st with hold:=z }:=⟨h.at',h.vars,h.chans,h.pl,h.vr,h.cl,h.cv,hz⟩
theorem a0G.act {mo:Mo} (hf:a1d mo) {st:Stt} (h:a0G mo st) {pl:Nat} {vs:List Nat} {e:Ed} (he:a2Q mo.tree mo.chans.length pl vs e) (hv:∀v∈vs,v<mo.vars.length) (h2:e.act=2->((cAt st.chans e.chan.toNat).length:Int)<(U3 mo.chans e.chan.toNat).room) (n:Int):a0G mo (mo.actS st e n):=by
 unfold Mo.actS
 split
 ·rename_i h1
  obtain ⟨k,hk,e1⟩:=he.v1 (.inl h1)
  rw [e1,Int.toNat_natCast]
  exact h.var hf (hv k hk) n
 split
 ·rename_i _ h1
  obtain ⟨k,e1,hk⟩:=he.c1 (.inl h1)
  have h2:=h2 h1
  rw [e1,Int.toNat_natCast] at *
  refine h.chan hk (by simp;omega) fun z hz=>?_
  rcases List.mem_append.1 hz with hz | hz
  ·exact h.cv k hk z hz
  ·simp only [List.mem_singleton] at hz
   subst hz
   have:=hf.ch _ (a5M hk)
   exact a64 (by omega)
 split
 ·rename_i _ _ h1
  obtain ⟨k,hk,e1⟩:=he.v1 (.inr h1)
  obtain ⟨q,e2,hq⟩:=he.c1 (.inr h1)
  rw [e1,e2,Int.toNat_natCast,Int.toNat_natCast]
  have h3:=h.var hf (hv k hk) (zAt (cAt st.chans q) 0)
  refine h3.chan hq ?_ fun z hz=>?_
  ·have:=h.cl q hq
   rw [List.length_drop];omega
  ·exact h.cv q hq z (List.mem_of_mem_drop hz)
 ·exact h
theorem c4T {mo:Mo} (ho:P7 mo) (hf:a1d mo) {st:Stt} (h:a0G mo st) {p:Nat} (hp:p<mo.procs.length) {e:Ed} (he:e∈(pAt mo.procs p).edges) (hcan:mo.can st p (pAt mo.procs p) e=true):a0G mo (mo.edgeS st p (pAt mo.procs p) e):=by
 have hpo:=ho.pr _ (a0P hp)
 have heo:=hpo.inv.ed e he
 unfold Mo.edgeS Stt.free
 refine a0G.hd ?_ ⟨by omega,by omega⟩
 refine (h.go hp heo.to).act hf heo hpo.var (fun h2=>?_) _
 unfold Mo.can at hcan
 simp only [h2,if_true,Bool.and_eq_true,decide_eq_true_eq] at hcan
 exact hcan.2
theorem b0j {mo:Mo} (ho:P7 mo) (hf:a1d mo) {st:Stt} (h:Fit mo st) {v:Mv} (hv:mo.mvOk st v):Fit mo (mo.doS st v):=by
 have h:=a4N.2 h
 refine a4N.1 ?_
 unfold Mo.doS
 rcases hv with ⟨hk,hp,he,hcan⟩ | ⟨hk,hc,hlen⟩ | ⟨hk,hc,hlen,hroom⟩
 ·rw [if_neg (by omega),if_neg (by omega)]
  unfold Mo.doE
  refine (c4T ho hf h hp (a1N he) hcan).hd ?_
  split<;>constructor<;>omega
 ·rw [if_pos hk]
  refine h.chan hc ?_ fun z hz=>h.cv _ hc z (List.mem_of_mem_drop hz)
  have:=h.cl _ hc
  rw [List.length_drop];omega
 ·rw [if_neg (by omega),if_pos hk]
  refine h.chan hc (by simp;omega) fun z hz=>?_
  rcases List.mem_append.1 hz with hz | hz
  ·exact h.cv _ hc z hz
  ·simp only [List.mem_singleton] at hz
   subst hz
   exact h.cv _ hc _ (b0l hlen)
theorem b2I {α:Type} (n:Nat) (a:α):List.replicate (n+1) a=List.replicate n a++[a]:=List.replicate_succ'
theorem c1E (n:Nat):O5 (List.replicate n 0)++[[.int .i64 0]]=O5 (List.replicate (n+1) 0):=by
 rw [b2I];simp [O5]
theorem c3Z {l:List Int} {i:Nat} (h:i<l.length):U8 (l.take i)++[[.int .i64 (zAt l i)]]=U8 (l.take (i+1)):=by
 rw [a12 h,List.take_add_one,List.getElem?_eq_getElem h]
 unfold U8
 rw [List.map_append];rfl
def Mo.vals (mo:Mo):List Int:=mo.vars.map Vr.value
theorem a7t {mo:Mo} {i:Nat} (h:i<mo.vars.length):zAt mo.vals i=(vAt mo.vars i).value:=by
 rw [a12 (by simpa [Mo.vals] using h),a5e h];simp [Mo.vals]
def a1r (n:Nat):List (List D):=List.replicate n [.nils]
theorem c3U (n:Nat):∀r∈a1r n,r.length=1:=fun r h=>by rw [List.eq_of_mem_replicate h];rfl
theorem c0W (n:Nat):a1r n++[[.nils]]=a1r (n+1):=(b2I n _).symm
theorem Hp.addW {s:k4} {W R:Hs} (h:Hp s W R) {id:Nat} {cs:List D} (hg:s.get id=some (.cells cs)) (h1:∀w∈W,w.1≠id) (h2:∀r∈R,r.1≠id):Hp s ((id,cs)::W) R:=by
 refine ⟨?_,?_,?_,h.r⟩
 ·rw [List.map_cons,List.nodup_cons]
  refine ⟨fun hm=>?_,h.nd⟩
  obtain ⟨w,hw,e⟩:=List.mem_map.1 hm
  exact h1 w hw e
 ·intro w hw r hr
  rcases List.mem_cons.1 hw with rfl | hw
  ·exact (h2 r hr).symm
  ·exact h.ap w hw r hr
 ·intro w hw
  rcases List.mem_cons.1 hw with rfl | hw
  ·exact hg
  ·exact h.w w hw
theorem Hp.addR1 {s:k4} {W R:Hs} (h:Hp s W R) {id:Nat} {cs:List D} (hg:s.get id=some (.cells cs)) (h1:∀w∈W,w.1≠id):Hp s W ((id,cs)::R):=by
 refine ⟨h.nd,?_,h.w,?_⟩
 ·intro w hw r hr
  rcases List.mem_cons.1 hr with rfl | hr
  ·exact h1 w hw
  ·exact h.ap w hw r hr
 ·intro r hr
  rcases List.mem_cons.1 hr with rfl | hr
  ·exact hg
  ·exact h.r r hr
theorem Hp.ne {s:k4} {A B C R:Hs} {a b:Nat×List D} (h:Hp s (A++a::(B++b::C)) R):a.1≠b.1:=by
 have:=h.nd
 rw [List.map_append,List.map_cons,List.map_append,List.map_cons,List.nodup_append,List.nodup_cons] at this
 exact fun e=>this.2.1.1 (by simp [e])
theorem Hp.neAll {s:k4} {a:Nat×List D} {W R:Hs} (h:Hp s (a::W) R):∀w∈W,w.1≠a.1:=by
 have:=h.nd
 rw [List.map_cons,List.nodup_cons] at this
 exact fun w hw e=>this.1 (by rw [<- e];exact List.mem_map_of_mem hw)
theorem a9h {d:D} {rows:List (List D)} {E:Hs} (h:Rp d 1 rows E) (hn:0<rows.length):∃a,d=.arr a 0 rows.length 1/\E=[(a,rows.flatten)]:=by
 rcases h with ⟨_,rfl,_⟩ | ⟨a,h1,h2,_⟩
 ·simp at hn
 ·exact ⟨a,h1,h2⟩
theorem a90 {a:Nat} {rows:List (List D)} (hn:0<rows.length):Rp (.arr a 0 rows.length 1) 1 rows [(a,rows.flatten)]:=.inr ⟨a,rfl,rfl,fun e=>by subst e;simp at hn⟩
theorem c3Q (n:Nat):(a1r n).flatten=List.replicate n .nils:=by
 induction n with
 | zero=>rfl
 | succ n ih=>rw [show a1r (n+1)=[.nils]::a1r n from rfl,List.flatten_cons,ih];rfl
theorem Rp.chr {s:k4} {q:D} {l:List Int} {E:Hs} (h:Rp q 1 (U8 l) E) (he:Has s E):ChR s q l:=by
 rcases h with ⟨rfl,h2,_⟩ | ⟨id,h1,rfl,_⟩
 ·refine .inl ⟨rfl,?_⟩
  cases l with
  | nil=>rfl
  | cons a l=>simp [U8] at h2
 ·rw [a4s] at h1
  subst h1
  have:=he (id,(U8 l).flatten) (by simp)
  rw [a3G] at this
  exact a86 this
theorem b1L {n:Nat} {d:D} {j:Nat} (h:j<n):dAt (List.replicate n d) j=d:=by rw [a5S (by simpa using h),List.getElem_replicate]
theorem a5d {n:Nat} {j:Nat}:cAt (List.replicate n []) j=[]:=by
 unfold cAt
 simp only [List.getD,List.getElem?_replicate]
 split<;>rfl
end Go.V
namespace Go.Proofs.YtnjlhebkhjcagaaGreat
open Go.V
set_option maxRecDepth 100000
set_option maxHeartbeats 4000000
variable {m:MdX} {mo:Mo} {ps:List (Pr×PrD)} {x:StD} {st:Stt}
theorem a7g {d:D} {raw:List Int} (hd:FI d raw) (hr:∀n∈raw,a1C n) {k n:Nat} (hn:0<n) (hn2:n<=1000000) (hk:k<=1000000):∃z:Nat,z<n/\Eqc vfs 37 [d,.int .i64 (k:Int),.int .i64 (n:Int)] (.int .i64 (z:Int)):=by
 by_cases h0:raw.length=0
 ·refine ⟨0,hn,Z5 ?_⟩
  refine W3 (vf:=a3H) rfl ?_
  unfold a3H;refine zF ?_
  exact zZ h0
 ·have hkm:(k:Int).tmod (raw.length:Int)=((k % raw.length:Nat):Int):=rfl
  have hkl:k % raw.length<raw.length:=Nat.mod_lt _ (by omega)
  have hz:=hr _ (b0l hkl)
  have n0:¬ n=0:=by omega
  have n1:¬ (n:Int)=0:=by omega
  have n2:¬ (raw.length:Int)=0:=by omega
  by_cases c:(zAt raw (k % raw.length)).tmod (n:Int)<0
  ·have h1:-(n:Int)<(zAt raw (k % raw.length)).tmod (n:Int):=Int.lt_tmod_of_pos _ (by omega)
   have e:(zAt raw (k % raw.length)).tmod (n:Int)+(n:Int)=(((zAt raw (k % raw.length)).tmod (n:Int)+(n:Int)).toNat:Int):=by omega
   refine ⟨((zAt raw (k % raw.length)).tmod (n:Int)+(n:Int)).toNat,by omega,Z5 ?_⟩
   refine W3 (vf:=a3H) rfl ?_
   unfold a3H;refine zF ?_
   refine zY (aN h0 (aN n0 (aN n1 (aN n2 (aN hkm c))))) ?_
   exact e
  ·have h1:(zAt raw (k % raw.length)).tmod (n:Int)<(n:Int):=Int.tmod_lt_of_pos _ (by omega)
   refine ⟨((zAt raw (k % raw.length)).tmod (n:Int)).toNat,by omega,Z5 ?_⟩
   refine W3 (vf:=a3H) rfl ?_
   unfold a3H;refine zF ?_
   refine zY (aN h0 (aN n0 (aN n1 (aN n2 (aN hkm c))))) ?_
   omega
def b6b (mo:Mo) (s:k4) (n:Nat) (r:D):Prop:=∃dA dV dC EA EV EC,r=.agg [dA,dV,dC,.int .i64 (-1)]/\Rp dA 1 (O5 (List.replicate mo.procs.length 0)) EA/\Rp dV 1 (U8 mo.vals) EV/\Rp dC 1 (a1r mo.chans.length) EC/\Hp s (EA++EV++EC) []/\∀w∈EA++EV++EC,n<=w.1
theorem c2c (hm:MoF m mo ps) (ho:P7 mo) {s:k4}:EvP vfs 31 [.agg [m.dt,.int .i64 m.g,m.dc,m.dv,m.dp,m.ds,.bool m.b]] s fun r s'=>b6b mo s' s.next r/\Fr [] s s':=by
 have om:=hm.ones
 have hmv:=hm.v
 have hmc:=hm.c
 have hnp:=ho.np
 have hnv:=ho.nv
 have hnc:=ho.nc
 have hvl:mo.vals.length=mo.vars.length:=by simp [Mo.vals]
 refine a2H (vf:=a8r) rfl ?_
 unfold a8r;refine zF ?_
 refine zY om ?_
 have hp0:Hp ((s.push (.cells [m.dt,.int .i64 m.g,m.dc,m.dv,m.dp,m.ds,.bool m.b])).push (.cells [.nils,.nils,.nils,.int .i64 0])) [(s.next+1,[.nils,.nils,.nils,.int .i64 0])] [(s.next,[m.dt,.int .i64 m.g,m.dc,m.dv,m.dp,m.ds,.bool m.b])]:=by
  have:=Hp.pushW (s:=s.push (.cells [m.dt,.int .i64 m.g,m.dc,m.dv,m.dp,m.ds,.bool m.b])) (W:=[]) (R:=[(s.next,[m.dt,.int .i64 m.g,m.dc,m.dv,m.dp,m.ds,.bool m.b])]) ⟨List.nodup_nil,by simp,by simp [Has],by simp [Has,O1]⟩ [.nils,.nils,.nils,.int .i64 0]
  simpa using this
 have hp1:=hp0.newW (.cells [.nils,.nils,.nils,.int .i64 0]) [.nils,.nils,.nils,.int .i64 (-1)]
 simp only [k4.next_push] at hp1
 have fr1:Fr [] s ((((s.push (.cells [m.dt,.int .i64 m.g,m.dc,m.dv,m.dp,m.ds,.bool m.b])).push (.cells [.nils,.nils,.nils,.int .i64 0])).push (.cells [.nils,.nils,.nils,.int .i64 0])).set (s.next+1+1) (some (.cells [.nils,.nils,.nils,.int .i64 (-1)]))):=(((Fr.push _).thenPush _).thenPush _).thenSet _ (.inr (by omega))
 generalize (((s.push (.cells [m.dt,.int .i64 m.g,m.dc,m.dv,m.dp,m.ds,.bool m.b])).push (.cells [.nils,.nils,.nils,.int .i64 0])).push (.cells [.nils,.nils,.nils,.int .i64 0])).set (s.next+1+1) (some (.cells [.nils,.nils,.nils,.int .i64 (-1)]))=s1 at *
 generalize hp:s.next+1+1=p at *
 generalize hq:s.next+1=q at *
 refine a2f [0,1,2,3,5,6,24,42] (fun f s'=>∃dA EA,Rp dA 1 (O5 (List.replicate mo.procs.length 0)) EA/\Hp s' ((p,[dA,.nils,.nils,.int .i64 (-1)])::(q,[.nils,.nils,.nils,.int .i64 0])::EA) [(s.next,[m.dt,.int .i64 m.g,m.dc,m.dv,m.dp,m.ds,.bool m.b])]/\(∀w∈EA,s.next<=w.1)/\Fr [] s s') ?_ ?_
 ·refine a0d [0,1,2,3,5,6,24,42] 0 mo.procs.length (fun i f s'=>f 4=.int .i64 (i:Int)/\∃dA EA,Rp dA 1 (O5 (List.replicate i 0)) EA/\Hp s' ((p,[dA,.nils,.nils,.int .i64 (-1)])::(q,[.nils,.nils,.nils,.int .i64 0])::EA) [(s.next,[m.dt,.int .i64 m.g,m.dc,m.dv,m.dp,m.ds,.bool m.b])]/\(∀w∈EA,s.next<=w.1)/\Fr [] s s') (.mk rfl) (by omega) ⟨rfl,.nils,[],.inl ⟨rfl,rfl,rfl⟩,hp1,by simp,fr1⟩ ?_
  rintro i f s2 hi ⟨hE,dA,EA,hr,hp2,hw,fr⟩
  have g0:=hp2.rh
  have gp:=hp2.hd
  have o1:=hr.one
  have lp:=M1 gp
  by_cases ci:i<mo.procs.length
  ·refine zY (aN hE (aN ci (aN g0 (aN gp (aN om o1))))) ?_
   refine a6m (A:=[(p,[dA,.nils,.nils,.int .i64 (-1)]),(q,[.nils,.nils,.nils,.int .i64 0])]) (B:=[]) hr (by simpa using hp2) rfl (a2g _) (by decide) (by simp;omega) ?_
   rintro s3 hr3 hp3 l3 u3
   have gp:=hp3.hd
   refine zY (aN hE gp) ?_
   refine ⟨ci,_,_,by rw [<- c1E];exact hr3,Hp.set (A:=[]) hp3 _,by simp;omega,?_⟩
   have f3:Fr [] s s3:=⟨by have:=fr.1;omega,fun j hj hn=>by
    have:=fr.1
    rw [u3 j (by omega) fun e he hc=>by have:=hw e he;omega,fr.2 j hj hn]⟩
   exact f3.thenSet _ (.inr (by omega))
  ·obtain rfl:i=mo.procs.length:=by omega
   refine zY (aN hE (aN ci (aN g0 (aN gp (aN om o1))))) ?_
   exact ⟨_,_,hr,hp2,hw,fr⟩
 ·rintro f s2 ⟨dA,EA,hrA,hp2,hwA,fr2⟩
  refine zY0 ?_
  refine a2f [0,1,2,3,4,6,12,42] (fun f s'=>∃dV EV,Rp dV 1 (U8 mo.vals) EV/\Hp s' ((p,[dA,dV,.nils,.int .i64 (-1)])::(q,[.nils,.nils,.nils,.int .i64 0])::(EA++EV)) [(s.next,[m.dt,.int .i64 m.g,m.dc,m.dv,m.dp,m.ds,.bool m.b])]/\(∀w∈EA++EV,s.next<=w.1)/\Fr [] s s') ?_ ?_
  ·refine a0d [0,1,2,3,4,6,12,42] 0 mo.vars.length (fun i f s'=>f 5=.int .i64 (i:Int)/\∃dV EV,Rp dV 1 (U8 (mo.vals.take i)) EV/\Hp s' ((p,[dA,dV,.nils,.int .i64 (-1)])::(q,[.nils,.nils,.nils,.int .i64 0])::(EA++EV)) [(s.next,[m.dt,.int .i64 m.g,m.dc,m.dv,m.dp,m.ds,.bool m.b])]/\(∀w∈EA++EV,s.next<=w.1)/\Fr [] s s') (.mk rfl) (by omega) ⟨rfl,.nils,[],.inl ⟨rfl,rfl,rfl⟩,by simpa using hp2,by simpa using hwA,fr2⟩ ?_
   rintro i f s2 hi ⟨hE,dV,EV,hr,hp2,hw,fr⟩
   have g0:=hp2.rh
   have gp:=hp2.hd
   have o1:=hr.one
   have o2:=hrA.one
   have lp:=M1 gp
   by_cases ci:i<mo.vars.length
   ·refine zY (aN hE (aN ci (aN g0 (aN gp (aN om (aN o1 o2)))))) ?_
    refine a6m (A:=(p,[dA,dV,.nils,.int .i64 (-1)])::(q,[.nils,.nils,.nils,.int .i64 0])::EA) (B:=[]) hr (by simpa using hp2) rfl (a5o _) (by decide) (by simp;omega) ?_
    rintro s3 hr3 hp3 l3 u3
    have gp:=hp3.hd
    refine zY (aN hE (aN gp o2)) ?_
    have f3:Fr [] s s3:=⟨by have:=fr.1;omega,fun j hj hn=>by
     have:=fr.1
     rw [u3 j (by omega) fun e he hc=>by have:=hw e (by simp [he]);omega,fr.2 j hj hn]⟩
    refine ⟨ci,_,_,by rw [<- c3Z (by omega),a7t ci];exact hr3,by simpa using Hp.set (A:=[]) hp3 _,?_,f3.thenSet _ (.inr (by omega))⟩
    intro w hw1
    rcases List.mem_append.1 hw1 with h | h
    ·exact hw w (by simp [h])
    ·simp only [List.mem_singleton] at h;subst h;have:=fr.1;simp only;omega
   ·obtain rfl:i=mo.vars.length:=by omega
    refine zY (aN hE (aN ci (aN g0 (aN gp (aN om (aN o1 o2)))))) ?_
    rw [<- hvl,List.take_length] at hr
    exact ⟨_,_,hr,hp2,hw,fr⟩
  ·rintro f s2 ⟨dV,EV,hrV,hp2,hwV,fr2⟩
   refine zY0 ?_
   refine a2f [0,1,2,3,4,5,12,24] (fun f s'=>∃dC EC,Rp dC 1 (a1r mo.chans.length) EC/\Hp s' ((p,[dA,dV,dC,.int .i64 (-1)])::(q,[.nils,.nils,.nils,.int .i64 0])::(EA++EV++EC)) [(s.next,[m.dt,.int .i64 m.g,m.dc,m.dv,m.dp,m.ds,.bool m.b])]/\(∀w∈EA++EV++EC,s.next<=w.1)/\Fr [] s s') ?_ ?_
   ·refine a0d [0,1,2,3,4,5,12,24] 0 mo.chans.length (fun i f s'=>f 6=.int .i64 (i:Int)/\∃dC EC,Rp dC 1 (a1r i) EC/\Hp s' ((p,[dA,dV,dC,.int .i64 (-1)])::(q,[.nils,.nils,.nils,.int .i64 0])::(EA++EV++EC)) [(s.next,[m.dt,.int .i64 m.g,m.dc,m.dv,m.dp,m.ds,.bool m.b])]/\(∀w∈EA++EV++EC,s.next<=w.1)/\Fr [] s s') (.mk rfl) (by omega) ⟨rfl,.nils,[],.inl ⟨rfl,rfl,rfl⟩,by simpa using hp2,by simpa using hwV,fr2⟩ ?_
    rintro i f s2 hi ⟨hE,dC,EC,hr,hp2,hw,fr⟩
    have g0:=hp2.rh
    have gp:=hp2.hd
    have o1:=hr.one
    have o2:=hrA.one
    have o3:=hrV.one
    have lp:=M1 gp
    by_cases ci:i<mo.chans.length
    ·refine zY (aN hE (aN ci (aN g0 (aN gp (aN om (aN o1 (aN o2 o3))))))) ?_
     refine a6m (A:=(p,[dA,dV,dC,.int .i64 (-1)])::(q,[.nils,.nils,.nils,.int .i64 0])::(EA++EV)) (B:=[]) hr (by simpa using hp2) rfl (c3U _) (by decide) (by simp [a1r];omega) ?_
     rintro s3 hr3 hp3 l3 u3
     have gp:=hp3.hd
     refine zY (aN hE (aN gp (aN o2 o3))) ?_
     have f3:Fr [] s s3:=⟨by have:=fr.1;omega,fun j hj hn=>by
      have:=fr.1
      rw [u3 j (by omega) fun e he hc=>by have:=hw e (by simp [he]);omega,fr.2 j hj hn]⟩
     refine ⟨ci,_,_,by rw [<- c0W];exact hr3,by simpa using Hp.set (A:=[]) hp3 _,?_,f3.thenSet _ (.inr (by omega))⟩
     intro w hw1
     rcases List.mem_append.1 hw1 with h | h
     ·exact hw w (List.mem_append_left _ h)
     ·simp only [List.mem_singleton] at h;subst h;have:=fr.1;simp only;omega
    ·obtain rfl:i=mo.chans.length:=by omega
     refine zY (aN hE (aN ci (aN g0 (aN gp (aN om (aN o1 (aN o2 o3))))))) ?_
     exact ⟨_,_,hr,hp2,hw,fr⟩
   ·rintro f s2 ⟨dC,EC,hrC,hp2,hwC,fr2⟩
    have gp:=hp2.hd
    have gq:=hp2.tl.hd
    have o1:=hrC.one
    have o2:=hrA.one
    have o3:=hrV.one
    have lq:=M1 gq
    have lp:=M1 gp
    refine zY (aN gp (aN gq (aN o1 (aN o2 o3)))) ?_
    refine a3w ⟨⟨dA,dV,dC,EA,EV,EC,rfl,hrA,hrV,hrC,?_,hwC⟩,fr2.thenSet _ (.inr (by omega))⟩
    exact (Hp.set (A:=[]) hp2.tl.rt _).tl
end Go.Proofs.YtnjlhebkhjcagaaGreat
namespace Go.Proofs.YtnjlhebkhjcagaaGreat
open Go.V
set_option maxRecDepth 100000
set_option maxHeartbeats 4000000
variable {m:MdX} {mo:Mo} {ps:List (Pr×PrD)} {x:StD} {st:Stt}
theorem b2N {x w:Int} (h1:-4294967296<=x) (h2:x<=4294967296) (h3:1<=w) (h4:w<=8):Eqc vfs 38 [.int .i64 x,.int .i64 w] (.int .i64 (N8 x w.toNat)):=a2s (a6I (x:=x) (n:=w) (w:=w.toNat) (by omega) ⟨by omega,by omega⟩) rfl
theorem c1i (hm:MoF m mo ps) (ho:P7 mo) (hf:a1d mo) {d:D} {raw:List Int} (hd:FI d raw) (hraw:∀n∈raw,a1C n):EvP vfs 13 [.agg [m.dt,.int .i64 m.g,m.dc,m.dv,m.dp,m.ds,.bool m.b],d] k4.empty fun r s=>∃cs st,r=.agg cs/\a0t s cs st/\Fit mo st/\st.hold=-1:=by
 have om:=hm.ones
 have hmv:=hm.v
 have hmc:=hm.c
 have hnp:=ho.np
 have hnv:=ho.nv
 have hnc:=ho.nc
 have pd:=a4o hd
 refine a2H (vf:=a9j) rfl ?_
 unfold a9j;refine zF ?_
 refine zY om ?_
 refine a9C (c2c hm ho) (by simp (disch:=(first|exact Rf.mk rfl|with_reducible assumption|omega|((repeat (first|rw [nP]|rw [nS]|rw [M7]))<;>omega)|decide)) only [go_sem,↓reduceIte]) ?_
 rintro r s1 ⟨⟨dA,dV,dC,EA,EV,EC,rfl,hrA,hrV,hrC,hp,hw⟩,fr⟩
 have l1:=fr.1
 simp only [k4.next_push,M7,Nat.reduceAdd] at l1 hw
 have g0:s1.get 0=some (.cells [m.dt,.int .i64 m.g,m.dc,m.dv,m.dp,m.ds,.bool m.b]):=by rw [fr.2 0 (by simp [M7]) (by simp)];simp (disch:=(first|exact Rf.mk rfl|with_reducible assumption|omega|((repeat (first|rw [nP]|rw [nS]|rw [M7]))<;>omega)|decide)) only [go_sem,↓reduceIte]
 have g1:s1.get 1=some (.cells [.nils,.nils,.nils,.int .i64 0]):=by rw [fr.2 1 (by simp [M7]) (by simp)];simp (disch:=(first|exact Rf.mk rfl|with_reducible assumption|omega|((repeat (first|rw [nP]|rw [nS]|rw [M7]))<;>omega)|decide)) only [go_sem,↓reduceIte]
 have hp1:=((hp.addR1 g0 fun w h=>by have:=hw w h;omega).addW g1 (fun w h=>by have:=hw w h;omega) (by simp)).newW (.cells [.nils,.nils,.nils,.int .i64 0]) [dA,dV,dC,.int .i64 (-1)]
 have o1:=hrA.one
 have o2:=hrV.one
 have o3:=hrC.one
 refine zY (aN o1 (aN o2 o3)) ?_
 generalize hS:(s1.push (.cells [.nils,.nils,.nils,.int .i64 0])).set s1.next (some (.cells [dA,dV,dC,.int .i64 (-1)]))=s2 at *
 generalize s1.next=p at *
 clear hp hw g0 g1 hS fr
 refine a2f [0,1,2,4,5,8,9,10,11,40,63,80] (fun f s'=>f 6=.int .i64 (mo.procs.length:Int)/\∃A EA,A.length=mo.procs.length/\(∀j,j<mo.procs.length->nAt A j<(pAt mo.procs j).places)/\Rp dA 1 (O5 A) EA/\Hp s' ((p,[dA,dV,dC,.int .i64 (-1)])::(1,[.nils,.nils,.nils,.int .i64 0])::(EA++EV++EC)) [(0,[m.dt,.int .i64 m.g,m.dc,m.dv,m.dp,m.ds,.bool m.b])]) ?_ ?_
 ·refine a0d [0,1,2,4,5,8,9,10,11,40,63,80] 0 mo.procs.length (fun i f s'=>f 7=.int .i64 (i:Int)/\f 6=.int .i64 (i:Int)/\∃A EA,A.length=mo.procs.length/\(∀j,j<mo.procs.length->nAt A j<(pAt mo.procs j).places)/\Rp dA 1 (O5 A) EA/\Hp s' ((p,[dA,dV,dC,.int .i64 (-1)])::(1,[.nils,.nils,.nils,.int .i64 0])::(EA++EV++EC)) [(0,[m.dt,.int .i64 m.g,m.dc,m.dv,m.dp,m.ds,.bool m.b])]) (.mk rfl) (by omega) ⟨rfl,rfl,_,EA,by simp,fun j hj=>?_,hrA,hp1⟩ ?_
  ·have:=(ho.pr _ (a0P hj)).inv.two
   rw [a1w (by simpa using hj),List.getElem_replicate];omega
  rintro i f s3 hi ⟨hE7,hE6,A,EA,hA,hfit,hr,hp⟩
  have g0:=hp.rh
  have gp:=hp.hd
  have lA:=hr.len
  rw [a3F,hA] at lA
  by_cases ci:i<mo.procs.length
  ·obtain ⟨a,e1,e2⟩:=a9h hr (by rw [a3F];omega)
   rw [a3F,hA] at e1
   rw [a47] at e2
   subst e2
   have ga:=hp.tl.tl.hd
   have pa:p≠a:=Hp.ne (A:=[]) (B:=[(1,[.nils,.nils,.nils,.int .i64 0])]) (b:=(a,U5 A)) hp
   have hpl:=(ho.pr _ (a0P ci)).inv.two
   have hpl2:=(ho.pr _ (a0P ci)).pl
   obtain ⟨z,hz,hzb⟩:=a7g hd hraw (k:=i) (n:=(pAt mo.procs i).places) (by omega) (by omega) (by omega)
   have iA:i<A.length:=by omega
   rw [e1] at gp hp hr o1 ⊢
   refine zY (aN hE7 (aN hE6 (aN ci (aN g0 (aN gp (aN om (aN o2 (aN o3 (aN ga (aN hzb iA)))))))))) ?_
   have hn0:0<(O5 (A.set i z)).length:=by simp;omega
   have hrp:=a90 (a:=a) hn0
   rw [a3F,List.length_set,hA,a47] at hrp
   refine ⟨A.set i z,_,by simp [hA],fun j hj=>?_,hrp,Hp.set (A:=[(p,_),(1,[.nils,.nils,.nils,.int .i64 0])]) hp (U5 (A.set i z))⟩
   rw [a4G iA]
   split
   ·rename_i e;subst e;exact hz
   ·exact hfit j hj
  ·obtain rfl:i=mo.procs.length:=by omega
   refine zY (aN hE7 (aN hE6 (aN ci (aN g0 (aN gp (aN om (aN o1 (aN o2 (aN o3 lA))))))))) ?_
   exact ⟨A,EA,hA,hfit,hr,hp⟩
 ·rintro f s3 ⟨hE6,A,EA,hA,hfit,hrA,hp⟩
  refine zY hE6 ?_
  refine a2f [0,1,2,4,5,7,9,10,11,18,63,80] (fun f s'=>f 6=.int .i64 ((mo.procs.length+mo.vars.length:Nat):Int)/\∃V EV,V.length=mo.vars.length/\(∀j,j<mo.vars.length->N8 (zAt V j) (vAt mo.vars j).width.toNat=zAt V j)/\Rp dV 1 (U8 V) EV/\Hp s' ((p,[dA,dV,dC,.int .i64 (-1)])::(1,[.nils,.nils,.nils,.int .i64 0])::(EA++EV++EC)) [(0,[m.dt,.int .i64 m.g,m.dc,m.dv,m.dp,m.ds,.bool m.b])]) ?_ ?_
  ·refine a0d [0,1,2,4,5,7,9,10,11,18,63,80] 0 mo.vars.length (fun i f s'=>f 8=.int .i64 (i:Int)/\f 6=.int .i64 ((mo.procs.length+i:Nat):Int)/\∃V EV,V.length=mo.vars.length/\(∀j,j<mo.vars.length->N8 (zAt V j) (vAt mo.vars j).width.toNat=zAt V j)/\Rp dV 1 (U8 V) EV/\Hp s' ((p,[dA,dV,dC,.int .i64 (-1)])::(1,[.nils,.nils,.nils,.int .i64 0])::(EA++EV++EC)) [(0,[m.dt,.int .i64 m.g,m.dc,m.dv,m.dp,m.ds,.bool m.b])]) (.mk rfl) (by omega) ⟨rfl,rfl,mo.vals,EV,by simp [Mo.vals],fun j hj=>?_,hrV,hp⟩ ?_
   ·rw [a7t hj];exact (hf.vr _ (a3T hj)).2.2
   clear hrV hp
   rintro i f s4 hi ⟨hE8,hE6,V,EV,hV,hfitV,hr,hp⟩
   have g0:=hp.rh
   have gp:=hp.hd
   have lV:=hr.len
   rw [a4s,hV] at lV
   by_cases ci:i<mo.vars.length
   ·obtain ⟨a,e1,e2⟩:=a9h hr (by rw [a4s];omega)
    rw [a4s,hV] at e1
    rw [a3G] at e2
    subst e2
    have hp':Hp s4 ((p,[dA,dV,dC,.int .i64 (-1)])::((1,[.nils,.nils,.nils,.int .i64 0])::EA)++(a,S1 V)::EC) [(0,[m.dt,.int .i64 m.g,m.dc,m.dv,m.dp,m.ds,.bool m.b])]:=by simpa using hp
    have ga:=hp'.w (a,S1 V) (by simp)
    have pa:p≠a:=Hp.ne (A:=[]) (B:=(1,[.nils,.nils,.nils,.int .i64 0])::EA) (b:=(a,S1 V)) hp'
    obtain ⟨z,hz,hzb⟩:=a7g hd hraw (k:=mo.procs.length+i) (n:=256) (by omega) (by omega) (by omega)
    have hzb:Eqc vfs 37 [d,.int .i64 ((mo.procs.length+i:Nat):Int),.int .i64 256] (.int .i64 (z:Int)):=hzb
    have iV:i<V.length:=by omega
    have hw:=hf.vr _ (a3T ci)
    have hwt:=b2N (x:=(z:Int)) (w:=(vAt mo.vars i).width) (by omega) (by omega) hw.1 hw.2.1
    rw [e1] at gp hp hp' hr o2 ⊢
    refine zY (aN hE8 (aN hE6 (aN ci (aN g0 (aN gp (aN om (aN o1 (aN o3 (aN ga (aN hzb (aN iV hwt))))))))))) ?_
    have hn0:0<(U8 (V.set i (N8 (z:Int) (vAt mo.vars i).width.toNat))).length:=by simp;omega
    have hrp:=a90 (a:=a) hn0
    rw [a4s,List.length_set,hV,a3G] at hrp
    refine ⟨by rw [Nat.add_assoc],V.set i (N8 (z:Int) (vAt mo.vars i).width.toNat),_,by simp [hV],fun j hj=>?_,hrp,?_⟩
    ·rw [a9l iV]
     split
     ·rename_i e;subst e;exact a64 (by omega)
     ·exact hfitV j hj
    ·have:=Hp.set (A:=(p,[dA,.arr a 0 mo.vars.length 1,dC,.int .i64 (-1)])::(1,[.nils,.nils,.nils,.int .i64 0])::EA) (B:=EC) hp' (S1 (V.set i (N8 (z:Int) (vAt mo.vars i).width.toNat)))
     simpa using this
   ·obtain rfl:i=mo.vars.length:=by omega
    refine zY (aN hE8 (aN hE6 (aN ci (aN g0 (aN gp (aN om (aN o1 (aN o2 (aN o3 lV))))))))) ?_
    exact ⟨V,EV,hV,hfitV,hr,hp⟩
  ·clear hrV hp
   rintro f s4 ⟨hE6,V,EV,hV,hfitV,hrV,hp⟩
   refine zY hE6 ?_
   refine a2f [0,1,2,4,5,7,8,18,40] (fun f s'=>∃W st,Hp s' ((p,[dA,dV,dC,.int .i64 (-1)])::(1,[.nils,.nils,.nils,.int .i64 0])::W) [(0,[m.dt,.int .i64 m.g,m.dc,m.dv,m.dp,m.ds,.bool m.b])]/\(∀s,Has s W->a0t s [dA,dV,dC,.int .i64 (-1)] st)/\Fit mo st/\st.hold=-1) ?_ ?_
   rotate_left
   ·rintro f s5 ⟨W,st,hp,hS,hF,hh⟩
    have gp:=hp.hd
    have g1:=hp.tl.hd
    have l1:=M1 g1
    refine zY (aN gp (aN g1 (aN o1 (aN o2 o3)))) ?_
    refine a3w ⟨_,st,rfl,hS _ ?_,hF,hh⟩
    exact (Hp.set (A:=[]) hp.tl [dA,dV,dC,.int .i64 (-1)]).tl.w
   have hfit0:∀L:List (List Int),L.length=mo.chans.length->(∀j,j<mo.chans.length->((cAt L j).length:Int)<=(U3 mo.chans j).room/\∀n∈cAt L j,N8 n (U3 mo.chans j).width.toNat=n)->Fit mo ⟨A,V,L,-1⟩:=fun L hL h=>a4N.1 ⟨hA,hV,hL,hfit,hfitV,fun j hj=>(h j hj).1,fun j hj=>(h j hj).2,by simp only;omega⟩
   by_cases h0:mo.chans.length=0
   ·have g0:=hp.rh
    have gp:=hp.hd
    have e1:a1r mo.chans.length=[]:=by rw [h0];rfl
    rw [e1] at hrC
    have lC:=hrC.len
    refine a0d [0,1,2,4,5,7,8,18,40] 0 0 (fun i f s'=>f 9=.int .i64 (i:Int)/\s'=s4) (.mk rfl) (by omega) ⟨rfl,rfl⟩ ?_
    rintro i f s5 hi ⟨hE9,rfl⟩
    obtain rfl:i=0:=by omega
    refine zY (aN hE9 (aN g0 (aN gp (aN om (aN o1 (aN o2 (aN o3 lC))))))) ?_
    refine ⟨EA++EV++EC,⟨A,V,[],-1⟩,hp,fun s hs=>?_,hfit0 [] (by simp [h0]) fun j hj=>by omega,rfl⟩
    exact a0t.mk (st:=⟨A,V,[],-1⟩) [] (hrA.sn fun e he=>hs e (by simp [he])) (hrV.sn fun e he=>hs e (by simp [he])) (hrC.sn fun e he=>hs e (by simp [he])) (.inl rfl) rfl fun j hj=>by simp at hj
   ·have lC:=hrC.len
    obtain ⟨c,e1,e2⟩:=a9h hrC (by simp [a1r];omega)
    rw [c3Q] at e2
    rw [show (a1r mo.chans.length).length=mo.chans.length by simp [a1r]] at e1 lC
    subst e2
    subst e1
    clear hrC lC
    refine a0d [0,1,2,4,5,7,8,18,40] 0 mo.chans.length (fun i f s'=>f 9=.int .i64 (i:Int)/\∃ (k:Nat) (L:List (List Int)) (qs:List D) (ED:Hs),f 6=.int .i64 (k:Int)/\k<=20+4*i/\L.length=mo.chans.length/\qs.length=mo.chans.length/\(∀j,j<mo.chans.length->i<=j->dAt qs j=.nils/\cAt L j=[])/\(∀j,j<mo.chans.length->∃E,Rp (dAt qs j) 1 (U8 (cAt L j)) E/\∀e∈E,e∈ED)/\(∀j,j<mo.chans.length->((cAt L j).length:Int)<=(U3 mo.chans j).room/\∀n∈cAt L j,N8 n (U3 mo.chans j).width.toNat=n)/\Hp s' ((p,[dA,dV,.arr c 0 mo.chans.length 1,.int .i64 (-1)])::(1,[.nils,.nils,.nils,.int .i64 0])::(EA++EV++(c,qs)::ED)) [(0,[m.dt,.int .i64 m.g,m.dc,m.dv,m.dp,m.ds,.bool m.b])]) (.mk rfl) (by omega) ⟨rfl,_,List.replicate mo.chans.length [],List.replicate mo.chans.length .nils,[],rfl,by omega,by simp,by simp,fun j hj _=>⟨b1L hj,a5d⟩,fun j hj=>⟨[],by rw [b1L hj,a5d];exact .inl ⟨rfl,rfl,rfl⟩,by simp⟩,fun j hj=>by
     rw [a5d]
     have:=hf.ch _ (a5M hj)
     exact ⟨by simp;omega,by simp⟩,hp⟩ ?_
    clear hp
    rintro i f s5 hi ⟨hE9,k,L,qs,ED,hE6,hk,hL,hq,hnil,hrp,hfl,hp⟩
    have g0:=hp.rh
    have gp:=hp.hd
    have hp':Hp s5 ((p,[dA,dV,.arr c 0 mo.chans.length 1,.int .i64 (-1)])::((1,[.nils,.nils,.nils,.int .i64 0])::(EA++EV))++(c,qs)::ED) [(0,[m.dt,.int .i64 m.g,m.dc,m.dv,m.dp,m.ds,.bool m.b])]:=by simpa using hp
    have gc:=hp'.w (c,qs) (by simp)
    by_cases ci:i<mo.chans.length
    ·have hw:=hf.ch _ (a5M ci)
     have hro:∃r:Nat,(U3 mo.chans i).room=(r:Int):=⟨(U3 mo.chans i).room.toNat,by omega⟩
     obtain ⟨r,hr⟩:=hro
     obtain ⟨z,hz,hzb⟩:=a7g hd hraw (k:=k) (n:=r+1) (by omega) (by omega) (by omega)
     obtain ⟨hn1,hn2⟩:=hnil i ci (Nat.le_refl _)
     refine zY (aN hE9 (aN hE6 (aN ci (aN g0 (aN gp (aN om (aN o1 (aN o2 (aN hr hzb))))))))) ?_
     have iq:i<qs.length:=by omega
     have iL:i<L.length:=by omega
     refine a0d [0,1,2,4,5,7,8,9,10,18,40,63] 0 z (fun j f s'=>f 11=.int .i64 (j:Int)/\f 6=.int .i64 ((k+1+j:Nat):Int)/\∃ (l:List Int) (q:D) (E:Hs),l.length=j/\(∀n∈l,N8 n (U3 mo.chans i).width.toNat=n)/\Rp q 1 (U8 l) E/\Hp s' ((p,[dA,dV,.arr c 0 mo.chans.length 1,.int .i64 (-1)])::(1,[.nils,.nils,.nils,.int .i64 0])::(EA++EV++(c,qs.set i q)::(E++ED))) [(0,[m.dt,.int .i64 m.g,m.dc,m.dv,m.dp,m.ds,.bool m.b])]) (.mk rfl) (by omega) ⟨rfl,rfl,[],.nils,[],rfl,by simp,.inl ⟨rfl,rfl,rfl⟩,?_⟩ ?_
     ·have e:qs.set i .nils=qs:=by
       rw [<- hn1,a5S iq];simp
      rw [e];exact hp
     rintro j f s6 hj ⟨hE11,hE6,l,q,E,hl,htr,hr1,hp⟩
     clear hp' gc
     have g0:=hp.rh
     have gp:=hp.hd
     have hp':Hp s6 ((p,[dA,dV,.arr c 0 mo.chans.length 1,.int .i64 (-1)])::((1,[.nils,.nils,.nils,.int .i64 0])::(EA++EV))++(c,qs.set i q)::(E++ED)) [(0,[m.dt,.int .i64 m.g,m.dc,m.dv,m.dp,m.ds,.bool m.b])]:=by simpa using hp
     have gc:=hp'.w (c,qs.set i q) (by simp)
     have pc:p≠c:=Hp.ne (A:=[]) (B:=(1,[.nils,.nils,.nils,.int .i64 0])::(EA++EV)) (b:=(c,qs.set i q)) hp'
     have lp:=M1 gp
     have lc:=M1 gc
     have oq:=hr1.one
     by_cases cj:j<z
     ·obtain ⟨y,hy,hyb⟩:=a7g hd hraw (k:=k+1+j) (n:=256) (by omega) (by omega) (by omega)
      have hyb:Eqc vfs 37 [d,.int .i64 ((k+1+j:Nat):Int),.int .i64 256] (.int .i64 (y:Int)):=hyb
      have hwt:=b2N (x:=(y:Int)) (w:=(U3 mo.chans i).width) (by omega) (by omega) hw.2.2.1 hw.2.2.2
      have iq2:i<(qs.set i q).length:=by simpa using iq
      have eq1:(qs.set i q)[i]?=some q:=by simp [iq]
      have eq2:i+1<=qs.length:=by omega
      have nE:∀w∈(1,[.nils,.nils,.nils,.int .i64 0])::(EA++EV)++(c,qs.set i q)::(E++ED),w.1≠p:=Hp.neAll hp'
      have nEp:a1E p (E.map Prod.fst):=Hp.notIn fun e he=>nE e (by simp [he])
      have nEc:a1E c (E.map Prod.fst):=Hp.notIn fun e he=>by
       have h1:Hp s6 ((c,qs.set i q)::(E++ED)) [(0,[m.dt,.int .i64 m.g,m.dc,m.dv,m.dp,m.ds,.bool m.b])]:=hp'.sub (List.sublist_append_right _ _) fun _ h=>h
       exact h1.neAll e (by simp [he])
      refine zY (aN hE9 (aN hE11 (aN hE6 (aN ci (aN cj (aN g0 (aN gp (aN gc (aN om (aN o1 (aN o2 (aN oq (aN hq (aN eq1 (aN hyb hwt))))))))))))))) ?_
      have hp2:Hp s6 (((p,[dA,dV,.arr c 0 mo.chans.length 1,.int .i64 (-1)])::(1,[.nils,.nils,.nils,.int .i64 0])::(EA++EV++[(c,qs.set i q)]))++E++ED) [(0,[m.dt,.int .i64 m.g,m.dc,m.dv,m.dp,m.ds,.bool m.b])]:=by simpa using hp
      refine b3u (E:=E) hr1 hp2 rfl (a5o _) (by decide) (by simp;omega) (by simp (disch:=(first|exact Rf.mk rfl|with_reducible assumption|omega|((repeat (first|rw [nP]|rw [nS]|rw [M7]))<;>omega)|decide)) only [go_sem,↓reduceIte,nEp,nEc]) ?_
      rintro s7 hr7 hp7 l7 u7
      have gp:=hp7.hd
      have gc:=hp7.w (c,qs.set i q) (by simp)
      simp (disch:=(first|exact Rf.mk rfl|with_reducible assumption|omega|((repeat (first|rw [nP]|rw [nS]|rw [M7]))<;>omega)|decide)) only [go_sem,↓reduceIte,hE9,hE11,hE6,ci,cj,gp,gc,hq,List.length_set,a8p,List.set_set]
      refine ⟨by rw [Nat.add_assoc],l++[N8 (y:Int) (U3 mo.chans i).width.toNat],_,_,by simp [hl],fun n hn=>?_,by simpa [U8] using hr7,?_⟩
      ·rcases List.mem_append.1 hn with h | h
       ·exact htr n h
       ·simp only [List.mem_singleton] at h;subst h;exact a64 (by omega)
      ·have h7:Hp s7 (((p,[dA,dV,.arr c 0 mo.chans.length 1,.int .i64 (-1)])::(1,[.nils,.nils,.nils,.int .i64 0])::(EA++EV))++(c,qs.set i q)::((s6.next+1,(U8 l++[[D.int IntKind.i64 (N8 (y:Int) (U3 mo.chans i).width.toNat)]]).flatten)::ED)) [(0,[m.dt,.int .i64 m.g,m.dc,m.dv,m.dp,m.ds,.bool m.b])]:=by simpa using hp7
       have:=h7.set (qs.set i (.arr (s6.next+1) 0 (l.length+1) 1))
       simpa [U8] using this
     ·obtain rfl:j=z:=by omega
      refine zY (aN hE9 (aN hE11 (aN hE6 (aN ci cj)))) ?_
      refine ⟨_,L.set i l,qs.set i q,E++ED,rfl,by omega,by simp [hL],by simp [hq],fun b hb hib=>?_,fun b hb=>?_,fun b hb=>?_,hp⟩
      ·rw [a84 iq,a4n iL,if_neg (by omega),if_neg (by omega)]
       exact hnil b hb (by omega)
      ·rw [a84 iq,a4n iL]
       by_cases hbi:b=i
       ·rw [if_pos hbi,if_pos hbi]
        exact ⟨E,hr1,fun e he=>by simp [he]⟩
       ·rw [if_neg hbi,if_neg hbi]
        obtain ⟨E2,h1,h2⟩:=hrp b hb
        exact ⟨E2,h1,fun e he=>by simp [h2 e he]⟩
      ·rw [a4n iL]
       by_cases hbi:b=i
       ·rw [if_pos hbi]
        subst hbi
        exact ⟨by omega,htr⟩
       ·rw [if_neg hbi]
        exact hfl b hb
    ·obtain rfl:i=mo.chans.length:=by omega
     refine zY (aN hE9 (aN hE6 (aN ci (aN g0 (aN gp (aN om (aN o1 o2))))))) ?_
     refine ⟨EA++EV++(c,qs)::ED,⟨A,V,L,-1⟩,hp,fun s hs=>?_,hfit0 L hL hfl,rfl⟩
     refine a0t.mk (st:=⟨A,V,L,-1⟩) qs (hrA.sn fun e he=>hs e (by simp [he])) (hrV.sn fun e he=>hs e (by simp [he])) (.inr (.inl ⟨c,by simp [hq],?_⟩)) (.inr ⟨c,by simp [hq]⟩) (by simp [hq,hL]) fun j hj=>?_
     ·rw [a7d];exact hs (c,qs) (by simp)
     ·obtain ⟨E,h1,h2⟩:=hrp j (by omega)
      exact h1.chr fun e he=>hs e (by simp [h2 e he])
end Go.Proofs.YtnjlhebkhjcagaaGreat
namespace Go.V
variable {fs:FuncId->Option t5}
end Go.V
namespace Go.V
def Mo.varG (mo:Mo) (w:ByteArray):Nat:=if idxB ((mo.vars.take mo.globals).map Vr.name) w<mo.globals then 2 ^ idxB ((mo.vars.take mo.globals).map Vr.name) w else 0
def Mo.askF (mo:Mo):Ft:=mo.safe.foldl (fun f k=>Y0 mo.tree (mo.chans.map Ch.name) mo.varG (mo.tree.length+1) k f) ⟨0,0,0,0,0,false⟩
end Go.V
namespace Go.V
structure Inc (f g:Ft):Prop where
 r:∀b,f.reads.testBit b=true->g.reads.testBit b=true
 z:∀b,f.sizes.testBit b=true->g.sizes.testBit b=true
theorem Inc.refl (f:Ft):Inc f f:=⟨fun _ h=>h,fun _ h=>h⟩
theorem Inc.trans {f g h:Ft} (a:Inc f g) (b:Inc g h):Inc f h:=⟨fun x k=>b.r x (a.r x k),fun x k=>b.z x (a.z x k)⟩
theorem c1W {ch:List ByteArray} {vb:ByteArray->Nat} {x:Nd} {f:Ft}:Inc f (U7 ch vb x f):=by
 unfold U7
 split
 ·exact ⟨fun b h=>by simp only [Nat.testBit_or,h,Bool.true_or],fun _ h=>h⟩
 split
 ·exact ⟨fun _ h=>h,fun b h=>by simp only [Nat.testBit_or,h,Bool.true_or]⟩
 split
 ·exact ⟨fun _ h=>h,fun _ h=>h⟩
 ·exact .refl _
theorem a6t {g:Ft->Nat->Ft} (hg:∀f k,Inc f (g f k)):∀ {l:List Nat} {f:Ft},Inc f (l.foldl g f)
 | [],f=>.refl f
 | k::l,f=>(hg f k).trans (a6t hg (l:=l))
theorem a69 {t:List Nd} {ch:List ByteArray} {vb:ByteArray->Nat}:∀ (n k:Nat) (f:Ft),Inc f (Y0 t ch vb n k f)
 | 0,k,f=>.refl f
 | n+1,k,f=>by
   unfold Y0
   exact c1W.trans (a6t fun f k=>a69 n k f)
theorem a8g {g:Ft->Nat->Ft} (hg:∀f k,Inc f (g f k)):∀ {l:List Nat} {f:Ft} {k:Nat},k∈l->∃f',Inc (g f' k) (l.foldl g f)
 | x::l,f,k,h=>by
   rcases List.mem_cons.1 h with rfl | h
   ·exact ⟨f,a6t hg (l:=l)⟩
   ·exact a8g hg (l:=l) h
structure a1D (f:Ft) (st st':Stt):Prop where
 r:∀b,f.reads.testBit b=true->zAt st.vars b=zAt st'.vars b
 z:∀b,f.sizes.testBit b=true->(cAt st.chans b).length=(cAt st'.chans b).length
theorem a1D.inc {f g:Ft} {st st':Stt} (h:a1D g st st') (k:Inc f g):a1D f st st':=⟨fun b hb=>h.r b (k.r b hb),fun b hb=>h.z b (k.z b hb)⟩
theorem a8d {t:List Nd} (ht:X7 t) {ch:List ByteArray} {vb:ByteArray->Nat} {look:ByteArray->Option Nat} (hl:∀w v,look w=some v->vb w=2 ^ v) {st st':Stt}:∀ (n k:Nat) (f0:Ft),k<t.length->a0J (nd t k).kind->a1D (Y0 t ch vb n k f0) st st'->V2 t ch look st n k=V2 t ch look st' n k
 | 0,k,f0,_,_,_=>rfl
 | n+1,k,f0,hk,hx,ha=>by
   have hno:=ht.node k hk
   obtain ⟨_,hkx⟩:=a57 hno hx
   have hkid:∀i,i<(nd t k).kids.length->V2 t ch look st n ((nd t k).kid i)=V2 t ch look st' n ((nd t k).kid i):=fun i hi=>by
    have hm:=V4 hi
    have hc:=ht.ks hk _ hm
    obtain ⟨f',hf'⟩:=a8g (g:=fun f c=>Y0 t ch vb n c f) (fun f c=>a69 n c f) (f:=U7 ch vb (nd t k) f0) hm
    exact a8d ht hl n _ f' hc.2 (hkx i hi) (ha.inc hf')
   have h1:Inc (U7 ch vb (nd t k) f0) (Y0 t ch vb (n+1) k f0):=a6t fun f k=>a69 n k f
   have hb:=ha.inc h1
   unfold V2
   simp only
   by_cases q17:(nd t k).kind=17
   ·simp only [q17,if_true]
   simp only [q17,if_false]
   by_cases q18:(nd t k).kind=18
   ·simp only [q18,if_true]
    cases hlk:look ((nd t k).word 0) with
    | none=>rfl
    | some v =>
      have e:zAt st.vars v=zAt st'.vars v:=hb.r v (by
       unfold U7
       rw [if_pos q18]
       simp only [Nat.testBit_or,hl _ _ hlk,Nat.testBit_two_pow_self,Bool.or_true])
      simp only [e]
   simp only [q18,if_false]
   by_cases q19:(nd t k).kind=19
   ·simp only [q19,if_true]
    split
    ·rename_i hi
     have e:=hb.z (idxB ch ((nd t k).word 0)) (by
      unfold U7 chB
      rw [if_neg q18,if_pos q19,if_pos hi]
      simp only [Nat.testBit_or,Nat.testBit_two_pow_self,Bool.or_true])
     rw [e]
    ·rfl
   simp only [q19,if_false]
   by_cases q20:(nd t k).kind=20
   ·have:=(hno.one (by omega)).1
    simp only [q20,if_true,hkid 0 (by omega)]
   simp only [q20,if_false]
   by_cases q21:(nd t k).kind=21
   ·have:=(hno.one (by omega)).1
    simp only [q21,if_true,hkid 0 (by omega)]
   simp only [q21,if_false]
   by_cases q22:(nd t k).kind=22
   ·have:=(hno.bin q22).1
    simp only [q22,if_true,hkid 0 (by omega),hkid 1 (by omega)]
   simp only [q22,if_false]
theorem b8R {p:Pr} {w:ByteArray} {v:Nat} (h:W7 p w=some v):a0w p.names p.vars w=2 ^ v:=by
 unfold W7 at h
 unfold a0w
 split at h
 ·rename_i hi
  simp only [Option.some.injEq] at h
  rw [if_pos hi,h]
 ·cases h
theorem b95 {mo:Mo} {w:ByteArray} {v:Nat} (h:a0s mo w=some v):mo.varG w=2 ^ v:=by
 unfold a0s at h
 unfold Mo.varG
 split at h
 ·rename_i hi
  simp only [Option.some.injEq] at h
  rw [if_pos hi,h]
 ·cases h
theorem b5A (mo:Mo) (p:Pr) (e:Ed):Inc (a3V mo p e) (O6 mo p e)/\Inc (O6 mo p e) (a3V mo p e):=by
 rw [a6u]
 unfold a5a
 constructor<;>(split;exact ⟨fun _ h=>h,fun _ h=>h⟩;split;exact ⟨fun _ h=>h,fun _ h=>h⟩;split;exact ⟨fun _ h=>h,fun _ h=>h⟩;exact .refl _)
theorem b5f {mo:Mo} (ho:P7 mo) {p:Pr} (hp:a1I mo p) {e:Ed} (he:e∈p.edges) {st st':Stt} (h:a1D (O6 mo p e) st st') (z:Int):mo.ex p st e z=mo.ex p st' e z:=by
 have heo:=hp.inv.ed e he
 unfold Mo.ex
 split
 ·rename_i h0
  have hx:e.act=1∨e.act=2∨e.act=4∨e.act=5:=by
   have:=heo.ex0
   have:=heo.act
   omega
  obtain ⟨n,hn,hn2,hn3⟩:=heo.ex1 hx
  rw [hn,Int.toNat_natCast]
  refine a8d ho.tree (vb:=a0w p.names p.vars) (fun w v h=>b8R h) _ n ⟨0,0,0,0,0,false⟩ hn2 hn3 ?_
  have:=h.inc (b5A mo p e).1
  unfold a3V at this
  rw [if_pos h0,hn,Int.toNat_natCast] at this
  exact this
 ·rfl
def setO {α:Type} (l:List α):Option (Nat×α)->List α
 | none=>l
 | some (i,x)=>l.set i x
theorem b8M {l:List Int} {a:Option (Nat×Int)} {k:Nat} (h:∀i x,a=some (i,x)->i≠k):zAt (setO l a) k=zAt l k:=by
 cases a with
 | none=>rfl
 | some a =>
   have:=h a.1 a.2 rfl
   simp only [setO,zAt,List.getD,List.getElem?_set]
   rw [if_neg this]
theorem c1b {l:List (List Int)} {a:Option (Nat×List Int)} {k:Nat} (h:∀i x,a=some (i,x)->i≠k):cAt (setO l a) k=cAt l k:=by
 cases a with
 | none=>rfl
 | some a =>
   have:=h a.1 a.2 rfl
   simp only [setO,cAt,List.getD,List.getElem?_set]
   rw [if_neg this]
def Mo.wV (mo:Mo) (l:List Int) (e:Ed) (n:Int):Option (Nat×Int) :=
 if e.act=1 then some (e.var.toNat,N8 n (vAt mo.vars e.var.toNat).width.toNat)
 else if e.act=3 then some (e.var.toNat,N8 (zAt l 0) (vAt mo.vars e.var.toNat).width.toNat) else none
def Mo.wC (mo:Mo) (l:List Int) (e:Ed) (n:Int):Option (Nat×List Int) :=
 if e.act=2 then some (e.chan.toNat,l++[N8 n (U3 mo.chans e.chan.toNat).width.toNat])
 else if e.act=3 then some (e.chan.toNat,l.drop 1) else none
theorem b9r {mo:Mo} {st:Stt} {e:Ed} {n:Int}:mo.actS st e n=⟨st.at',setO st.vars (mo.wV (cAt st.chans e.chan.toNat) e n),setO st.chans (mo.wC (cAt st.chans e.chan.toNat) e n),st.hold⟩:=by
 unfold Mo.actS Mo.wV Mo.wC
 by_cases a1:e.act=1
 ·simp [a1,setO]
 by_cases a2:e.act=2
 ·simp [a2,setO]
 by_cases a3:e.act=3
 ·simp [a3,setO]
 ·simp [a1,a2,a3,setO]
theorem a4C {mo:Mo} {st:Stt} {i:Nat} {p:Pr} {e:Ed}:mo.edgeS st i p e=⟨st.at'.set i e.to,setO st.vars (mo.wV (cAt st.chans e.chan.toNat) e (mo.ex p st e 0).1),setO st.chans (mo.wC (cAt st.chans e.chan.toNat) e (mo.ex p st e 0).1),-1⟩:=by
 unfold Mo.edgeS
 rw [b9r]
 rfl
theorem b0J {mo:Mo} {p:Pr} (hp:a1I mo p) {e:Ed} (he:e∈p.edges) {l:List Int} {n:Int} {i:Nat} {x:Int} (h:mo.wV l e n=some (i,x)):(O6 mo p e).writes.testBit i=true:=by
 have heo:=hp.inv.ed e he
 rw [a6u]
 unfold a5a
 unfold Mo.wV at h
 by_cases a1:e.act=1
 ·rw [if_pos a1] at h ⊢
  obtain ⟨v,hv,e1⟩:=heo.v1 (.inl a1)
  simp only [Option.some.injEq,Prod.mk.injEq] at h
  rw [<- h.1,e1,Int.toNat_natCast]
  simp only [a25,Nat.testBit_two_pow_self]
 rw [if_neg a1] at h ⊢
 split at h
 ·rename_i a3
  rw [if_neg (by omega),if_pos a3]
  obtain ⟨v,hv,e1⟩:=heo.v1 (.inr a3)
  simp only [Option.some.injEq,Prod.mk.injEq] at h
  rw [<- h.1,e1,Int.toNat_natCast]
  simp only [a25,Nat.testBit_two_pow_self]
 ·cases h
theorem b2d {mo:Mo} {p:Pr} (hp:a1I mo p) {e:Ed} (he:e∈p.edges) (h:e.act=2∨e.act=3):((O6 mo p e).sends ||| (O6 mo p e).recvs).testBit e.chan.toNat=true:=by
 have heo:=hp.inv.ed e he
 rw [a6u]
 unfold a5a
 obtain ⟨v,e1,hv⟩:=heo.c1 h
 rw [if_neg (by omega)]
 by_cases a2:e.act=2
 ·rw [if_pos a2,e1,Int.toNat_natCast]
  simp only [a25,Nat.testBit_or,Nat.testBit_two_pow_self,Bool.true_or]
 ·rw [if_neg a2,if_pos (by omega),e1,Int.toNat_natCast]
  simp only [a25,Nat.testBit_or,Nat.testBit_two_pow_self,Bool.or_true]
theorem b8m {mo:Mo} {e:Ed} {l:List Int} {n:Int} {i:Nat} {x:List Int} (h:mo.wC l e n=some (i,x)):i=e.chan.toNat/\(e.act=2∨e.act=3):=by
 unfold Mo.wC at h
 split at h
 ·rename_i a
  simp only [Option.some.injEq,Prod.mk.injEq] at h
  exact ⟨h.1.symm,.inl a⟩
 split at h
 ·rename_i a
  simp only [Option.some.injEq,Prod.mk.injEq] at h
  exact ⟨h.1.symm,.inr a⟩
 ·cases h
theorem b27 {x y b:Nat} (h:x &&& y=0) (hx:x.testBit b=true):¬ y.testBit b=true:=fun hy=>by
 have:(x &&& y).testBit b=true:=by rw [Nat.testBit_and,hx,hy];rfl
 rw [h] at this
 simp at this
theorem b7h {mo:Mo} {st:Stt} {i:Nat} {p:Pr} (hp:a1I mo p) {e:Ed} (he:e∈p.edges) {b:Nat} (hb:¬ (O6 mo p e).writes.testBit b=true):zAt (mo.edgeS st i p e).vars b=zAt st.vars b:=by
 rw [a4C]
 refine b8M fun j x h hj=>hb ?_
 rw [<- hj]
 exact b0J hp he h
theorem b59 {mo:Mo} {st:Stt} {i:Nat} {p:Pr} (hp:a1I mo p) {e:Ed} (he:e∈p.edges) {b:Nat} (hb:¬ ((O6 mo p e).sends ||| (O6 mo p e).recvs).testBit b=true):cAt (mo.edgeS st i p e).chans b=cAt st.chans b:=by
 rw [a4C]
 refine c1b fun j x h hj=>hb ?_
 obtain ⟨rfl,h2⟩:=b8m h
 rw [<- hj]
 exact b2d hp he h2
theorem b83 {mo:Mo} {st:Stt} {i:Nat} {p:Pr} (hp:a1I mo p) {e:Ed} (he:e∈p.edges) {f:Ft} (h1:(O6 mo p e).writes &&& f.reads=0) (h2:((O6 mo p e).sends ||| (O6 mo p e).recvs) &&& f.sizes=0):a1D f st (mo.edgeS st i p e) :=
 ⟨fun b hb=>(b7h hp he fun hw=>b27 h1 hw hb).symm,fun b hb=>by rw [b59 hp he fun hw=>b27 h2 hw hb]⟩
theorem b4G {mo:Mo} (ho:P7 mo) {st st':Stt} (h:a1D mo.askF st st'):mo.safeS st=mo.safeS st':=by
 unfold Mo.safeS
 rw [Bool.eq_iff_iff,List.all_eq_true,List.all_eq_true]
 have key:∀k∈mo.safe,mo.val (a0s mo) st k=mo.val (a0s mo) st' k:=fun k hk=>by
  obtain ⟨hk1,hk2⟩:=ho.sf k hk
  obtain ⟨f',hf'⟩:=a8g (g:=fun f k=>Y0 mo.tree (mo.chans.map Ch.name) mo.varG (mo.tree.length+1) k f) (fun f c=>a69 _ c f) (f:=⟨0,0,0,0,0,false⟩) hk
  exact a8d ho.tree (vb:=mo.varG) (fun w v h=>b95 h) _ k f' hk1 hk2 (h.inc hf')
 constructor
 ·intro h k hk
  rw [<- key k hk];exact h k hk
 ·intro h k hk
  rw [key k hk];exact h k hk
theorem a1D.hold {f:Ft} {st st':Stt} (h:a1D f st st') (z:Int):a1D f st { st' with hold:=z }:=⟨h.r,h.z⟩
end Go.V
namespace Go.V
theorem a8q {α β:Type} {P:β->Prop} {g:β->α->β}:∀ {l:List α} {a:β},P a->(∀a x,x∈l->P a->P (g a x))->P (l.foldl g a)
 | [],a,h,_=>h
 | x::l,a,h,hg=>a8q (l:=l) (hg a x (by simp) h) fun a y hy=>hg a y (by simp [hy])
def a7W (c:Ch):Prop:=1<=c.room/\c.room<=3/\1<=c.width/\c.width<=8
def a27 (v:Vr):Prop:=1<=v.width/\v.width<=8/\N8 v.value v.width.toNat=v.value
theorem b48 {t:List Nd} (hY:a02 t) {k:Nat} (hk:k<t.length) (h:(nd t k).kind=1):a7W (a35 (nd t k)):=by
 have:=(hY.fine k hk).chan h
 exact ⟨this.1,this.2.1,this.2.2.1,this.2.2.2.1⟩
theorem b2K {t:List Nd} (hY:a02 t) {k:Nat} (hk:k<t.length) (h:(nd t k).kind=2):a27 (a1P (nd t k)):=by
 have:=(hY.fine k hk).var h
 exact ⟨this.1,this.2.1,this.2.2.1⟩
theorem c4N {t:List Nd} (ht:X7 t) (hY:a02 t):(∀c∈(gat t).ch,a7W c)/\∀v∈(gat t).vs,a27 v:=by
 unfold gat U0
 refine a8q (P:=fun (a:Ga)=>(∀c∈a.ch,a7W c)/\∀v∈a.vs,a27 v) (by simp) fun (a:Ga) k hk ha=>?_
 have hkl:=(ht.ks ht.pos k hk).2
 unfold one1
 split
 ·rename_i h1
  refine ⟨fun c hc=>?_,ha.2⟩
  rcases List.mem_append.1 hc with hc | hc
  ·exact ha.1 c hc
  ·simp only [List.mem_singleton] at hc
   subst hc;exact b48 hY hkl h1
 split
 ·rename_i h1
  refine ⟨ha.1,fun c hc=>?_⟩
  rcases List.mem_append.1 hc with hc | hc
  ·exact ha.2 c hc
  ·simp only [List.mem_singleton] at hc
   subst hc;exact b2K hY hkl h1
 split
 ·exact ha
 split
 ·exact ha
 ·exact ha
theorem c19 {t:List Nd} (ht:X7 t) (hY:a02 t) {k:Nat} (hk:k<t.length):∀v∈(V5 t (nd t k)).map a1P,a27 v:=by
 intro v hv
 obtain ⟨x,hx,rfl⟩:=List.mem_map.1 hv
 obtain ⟨j,hj,rfl⟩:=List.mem_map.1 hx
 obtain ⟨i,hi,e⟩:=List.getElem_of_mem hj
 have hi2:i<N6 t (nd t k)/\i<(nd t k).ks.length:=by
  rw [List.length_take] at hi;omega
 rw [List.getElem_take] at e
 have h2:=a6r hi2.1 hi2.2
 rw [e] at h2
 have hm:=ht.ks hk j (by rw [<- e];exact List.getElem_mem _)
 exact b2K hY hm.2 h2
theorem b34 {t:List Nd} (ht:X7 t) (hY:a02 t) {ch:List ByteArray} {k seen:Nat} (hk:k<t.length):∀ (c:Nat) (a:List Vr×List Pr),(∀v∈a.1,a27 v)->∀v∈(U6 t ch k seen c a).1,a27 v
 | 0,a,h=>h
 | c+1,a,h=>by
   intro v hv
   unfold U6 at hv
   rcases List.mem_append.1 hv with hv | hv
   ·exact b34 ht hY hk c a h v hv
   ·exact c19 ht hY hk v hv
theorem b52 {t:List Nd} (hR:N5 t) (hY:a02 t):a1d (S5 t):=by
 have ht:=hR.ok
 obtain ⟨h1,h2⟩:=c4N ht hY
 refine ⟨h1,?_⟩
 show ∀v∈(gbt t).vs,a27 v
 unfold gbt a0c
 refine a8q (P:=fun (a:Gb)=>∀v∈a.vs,a27 v) h2 fun a k hk ha=>?_
 have hkl:=(ht.ks ht.pos k hk).2
 unfold a03
 split
 ·exact b34 ht hY hkl _ _ ha
 split
 ·exact ha
 ·exact ha
end Go.V
namespace Go.V
variable {mo:Mo} {st:Stt}
theorem b0H {i j:Nat} {v:Mv} (h:v∈mo.mvE st i j):v.kind=0/\v.proc=i/\v.edge<j/\mo.can st i (pAt mo.procs i) (eAt (pAt mo.procs i).edges v.edge)=true:=by
 unfold Mo.mvE at h
 obtain ⟨k,hk,rfl⟩:=List.mem_map.1 h
 obtain ⟨h1,h2⟩:=List.mem_filter.1 hk
 exact ⟨rfl,rfl,List.mem_range.1 h1,h2⟩
theorem b0R {i:Nat} {v:Mv} (h:v∈mo.movesP st i):v∈mo.mvE st i (pAt mo.procs i).edges.length/\¬ (0<=st.hold/\st.hold≠(i:Int)):=by
 rw [Mo.movesP_eq] at h
 split at h
 ·cases h
 ·rename_i c;exact ⟨h,c⟩
theorem a8s {c:Nat} {v:Mv} (h:v∈mo.movesC st c):(v.kind=1∨v.kind=2)/\v.chan=c/\0<(cAt st.chans c).length/\(v.kind=2->((cAt st.chans c).length:Int)<(U3 mo.chans c).room):=by
 unfold Mo.movesC at h
 rcases List.mem_append.1 h with h | h
 ·split at h
  ·rename_i hc
   simp only [Bool.and_eq_true,decide_eq_true_eq] at hc
   simp only [List.mem_singleton] at h
   subst h
   exact ⟨.inl rfl,rfl,hc.2,fun e=>by cases e⟩
  ·cases h
 ·split at h
  ·rename_i hc
   simp only [Bool.and_eq_true,decide_eq_true_eq] at hc
   simp only [List.mem_singleton] at h
   subst h
   exact ⟨.inr rfl,rfl,hc.1.2,fun _=>hc.2⟩
  ·cases h
theorem b1s {v:Mv} (h:v∈mo.moves st):mo.mvOk st v:=by
 unfold Mo.moves at h
 rcases List.mem_append.1 h with h | h
 ·obtain ⟨i,hi,hv⟩:=List.mem_flatMap.1 h
  obtain ⟨h1,_⟩:=b0R hv
  obtain ⟨a,b,c,d⟩:=b0H h1
  subst b
  exact .inl ⟨a,List.mem_range.1 hi,c,d⟩
 ·split at h
  ·obtain ⟨c,hc,hv⟩:=List.mem_flatMap.1 h
   obtain ⟨a,rfl,b,d⟩:=a8s hv
   rcases a with a | a
   ·exact .inr (.inl ⟨a,List.mem_range.1 hc,b⟩)
   ·exact .inr (.inr ⟨a,List.mem_range.1 hc,b,d a⟩)
  ·cases h
theorem b2o {v:Mv} (h0:v.kind=0):mo.doS st v=mo.doE st v.proc (pAt mo.procs v.proc) (eAt (pAt mo.procs v.proc).edges v.edge):=by
 unfold Mo.doS
 rw [if_neg (by omega),if_neg (by omega)]
theorem b7g {i:Nat} {p:Pr} {e:Ed} (h:e.keep=false):mo.doE st i p e=mo.edgeS st i p e:=by
 unfold Mo.doE
 rw [h]
 simp only [Bool.false_and,Bool.false_eq_true,if_false]
 rw [a4C]
theorem b9P (ho:P7 mo) {st:Stt}:(mo.moves st).length<=17000:=by
 have h1:=Mo.mvP_len ho (st:=st) (Nat.le_refl _)
 have h2:=Mo.mvC_len (mo:=mo) (st:=st) (i:=mo.chans.length)
 have:=ho.np
 have:=ho.nc
 rw [Mo.moves_eq,List.length_append]
 split
 ·omega
 ·simp only [List.length_nil];omega
end Go.V
namespace Go.V
def aB (l:List Bool) (i:Nat):Bool:=l.getD i false
theorem b99 {l:List Bool} {i:Nat} (h:i<l.length):aB l i=l[i]:=by simp [aB,List.getD,h]
structure Code {α β:Type} (A:α->Prop) (sz:α->Nat) (e:α->β->List Bool) (d:α->List Bool->Option (β×List Bool)) (V:α->β->Prop):Prop where
 enc:∀a b r,A a->V a b->d a (e a b++r)=some (b,r)
 dec:∀a l b r,A a->sz a<=l.length->d a l=some (b,r)->V a b/\l=e a b++r
 len:∀a b,V a b->(e a b).length=sz a
end Go.V
