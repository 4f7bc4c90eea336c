/- Texts one behind the other. -/
import Derived.Test.YtnjlhebkhjcagaaGreatZ4
import Derived.Test.YtnjlhebkhjcagaaGreatZ3
import Derived.Test.YtnjlhebkhjcagaaGreatVt
import Derived.Test.YtnjlhebkhjcagaaGreatZ1
set_option linter.unusedSimpArgs false
set_option linter.unusedVariables false
namespace Go.Proofs.YtnjlhebkhjcagaaGreat
open Go.V
set_option maxRecDepth 100000
set_option maxHeartbeats 4000000
theorem c2D {i:Nat} (h:i<1000000000):IntKind.i64.wrap ((i:Int)+1)=((i+1:Nat):Int):=by rw [O8 (by omega) (by omega)];omega
theorem doR {s:k4} {a b:Int} {op w:Nat} (hop:op<5) (hw1:1<=w) (hw2:w<=16) (ha:-65536<=a) (ha':a<=65536) (hb:-65536<=b) (hb':b<=65536) :
 Ev vfs 72 [.int .i64 (op:Int),.int .i64 a,.int .i64 b,.int .i64 (w:Int)] s (.int .i64 (doZ op a b w)) s:=by
 have hwn:(w:Int)=min (max (w:Int) 1) 16:=by omega
 have hT:∀x:Int,-9223372036854775808<=x->x<9223372036854775808->Ev vfs 38 [.int .i64 x,.int .i64 (w:Int)] k4.empty (.int .i64 (N4 x w)) k4.empty:=fun x h1 h2=>b2R hwn ⟨h1,h2⟩
 refine a5o (vf:=a8x) rfl ?_
 unfold a8x;refine zE ?_
 have h3:op=0∨op=1∨op=2∨(3<=op):=by omega
 rcases h3 with h3 | h3 | h3 | h3
 ·have n0:((op:Int)==0)=true:=by rw [h3];rfl
  have n1:((op:Int)==1)=false:=by rw [h3];rfl
  have n2:((op:Int)==2)=false:=by rw [h3];rfl
  have hd:doZ op a b w=N4 (a+b) w:=by rw [h3];rfl
  rw [hd]
  have e:=O8 (n:=a+b) (by omega) (by omega)
  have hT:=hT (a+b) (by omega) (by omega)
  repeat first
  |(apply a2f hT rfl;(focus (simp only [Env.evL,Env.ev,Env.get,Nat.reduceEqDiff,↓reduceIte];rfl));(focus rfl))
  |refine zW (aN e (aN n0 (aN n1 n2))) ?_
  exact ⟨.inr trivial,trivial,rR⟩
 ·have n0:((op:Int)==0)=false:=by rw [h3];rfl
  have n1:((op:Int)==1)=true:=by rw [h3];rfl
  have n2:((op:Int)==2)=false:=by rw [h3];rfl
  have hd:doZ op a b w=N4 (a-b) w:=by rw [h3];rfl
  rw [hd]
  have e:=O8 (n:=a-b) (by omega) (by omega)
  have hT:=hT (a-b) (by omega) (by omega)
  repeat first
  |(apply a2f hT rfl;(focus (simp only [Env.evL,Env.ev,Env.get,Nat.reduceEqDiff,↓reduceIte];rfl));(focus rfl))
  |refine zW (aN e (aN n0 (aN n1 n2))) ?_
  exact ⟨.inr trivial,trivial,rR⟩
 ·have n0:((op:Int)==0)=false:=by rw [h3];rfl
  have n1:((op:Int)==1)=false:=by rw [h3];rfl
  have n2:((op:Int)==2)=true:=by rw [h3];rfl
  have hd:doZ op a b w=N4 (a*b) w:=by rw [h3];rfl
  rw [hd]
  have hm:-4294967296<=a*b/\a*b<=4294967296:=by
   have h1:(a*b).natAbs<=65536*65536:=by
    rw [Int.natAbs_mul]
    exact Nat.mul_le_mul (by omega) (by omega)
   omega
  have e:=O8 (n:=a*b) (by omega) (by omega)
  have hT:=hT (a*b) (by omega) (by omega)
  repeat first
  |(apply a2f hT rfl;(focus (simp only [Env.evL,Env.ev,Env.get,Nat.reduceEqDiff,↓reduceIte];rfl));(focus rfl))
  |refine zW (aN e (aN n0 (aN n1 n2))) ?_
  exact ⟨.inr trivial,trivial,rR⟩
 ·have n0:((op:Int)==0)=false:=by simp;omega
  have n1:((op:Int)==1)=false:=by simp;omega
  have n2:((op:Int)==2)=false:=by simp;omega
  by_cases hb0:b=0
  ·subst hb0
   have hd:doZ op a 0 w=0:=by
    match op,h3 with
    | 3,_=>rfl
    | n+4,_=>rfl
   rw [hd]
   try refine zW (aN n0 (aN n1 n2)) ?_
   exact ⟨.inr trivial,trivial,rR⟩
  ·have c0:(b==0)=false:=by simpa using hb0
   have hpb:0<b.natAbs:=by omega
   try refine zW (aN n0 (aN n1 (aN n2 c0))) ?_
   refine WP.mono (Q:=fun e env s1=>e=.normal/\s1=s/\(env.get 0=.int .i64 (op:Int)/\env.get 1=.int .i64 a/\env.get 2=.int .i64 b/\env.get 3=.int .i64 (w:Int)/\env.get 9=.int .i64 (a.natAbs:Int)/\env.get 10=.int .i64 b)) ?_ ?_
   ·by_cases h:a<0
    ·have b1:(a<0)=True:=eq_true h
     have e1:IntKind.i64.wrap (0-a)=(a.natAbs:Int):=by rw [O8 (by omega) (by omega)];omega
     try refine zW (aN b1 e1) ?_
     exact ⟨trivial,trivial,by simp [Env.get]⟩
    ·have b1:(a<0)=False:=eq_false h
     have e1:a=(a.natAbs:Int):=by omega
     try refine zW b1 ?_
     exact ⟨trivial,trivial,by simp [Env.get,<- e1]⟩
   rintro e env s1 ⟨rfl,rfl,hE⟩
   simp only [P6]
   try refine zW hE ?_
   refine WP.mono (Q:=fun e env s2=>e=.normal/\s2=s1/\(env.get 0=.int .i64 (op:Int)/\env.get 1=.int .i64 a/\env.get 2=.int .i64 b/\env.get 3=.int .i64 (w:Int)/\env.get 9=.int .i64 (a.natAbs:Int)/\env.get 10=.int .i64 (b.natAbs:Int))) ?_ ?_
   ·by_cases h:b<0
    ·have b1:(b<0)=True:=eq_true h
     have e1:IntKind.i64.wrap (0-b)=(b.natAbs:Int):=by rw [O8 (by omega) (by omega)];omega
     try refine zW (aN hE (aN b1 e1)) ?_
     exact ⟨trivial,trivial,by simp [Env.get,hE]⟩
    ·have b1:(b<0)=False:=eq_false h
     have e1:b=(b.natAbs:Int):=by omega
     try refine zW (aN hE b1) ?_
     exact ⟨trivial,trivial,by simp [Env.get,hE,<- e1]⟩
   clear hE
   rintro e env s2 ⟨rfl,rfl,hE⟩
   simp only [P6]
   try refine zW hE ?_
   have hab:a.natAbs<=65536:=by omega
   have hbb:b.natAbs<=65536:=by omega
   have ta:a.tdiv b=if (decide (a<0) != decide (b<0))=true then -((a.natAbs / b.natAbs:Nat):Int) else ((a.natAbs / b.natAbs:Nat):Int):=by
    have key:((a.natAbs / b.natAbs:Nat):Int)=((a.natAbs:Nat):Int).tdiv (b.natAbs:Nat):=rfl
    rw [key]
    by_cases h1:a<0<;>by_cases h2:b<0
    ·rw [decide_eq_true h1,decide_eq_true h2,if_neg (by decide),Int.ofNat_natAbs_of_nonpos (by omega),Int.ofNat_natAbs_of_nonpos (by omega),Int.neg_tdiv,Int.tdiv_neg];omega
    ·rw [decide_eq_true h1,decide_eq_false h2,if_pos (by decide),Int.ofNat_natAbs_of_nonpos (by omega),Int.natAbs_of_nonneg (by omega),Int.neg_tdiv];omega
    ·rw [decide_eq_false h1,decide_eq_true h2,if_pos (by decide),Int.natAbs_of_nonneg (by omega),Int.ofNat_natAbs_of_nonpos (by omega),Int.tdiv_neg];omega
    ·rw [decide_eq_false h1,decide_eq_false h2,if_neg (by decide),Int.natAbs_of_nonneg (by omega),Int.natAbs_of_nonneg (by omega)]
   have tm:a.tmod b=if a<0 then -((a.natAbs % b.natAbs:Nat):Int) else ((a.natAbs % b.natAbs:Nat):Int):=by
    have key:((a.natAbs % b.natAbs:Nat):Int)=((a.natAbs:Nat):Int).tmod (b.natAbs:Nat):=rfl
    have kb:∀x:Int,x.tmod (b.natAbs:Int)=x.tmod b:=fun x=>by
     rcases Int.natAbs_eq b with hb | hb
     ·rw [<- hb]
     ·have:x.tmod b=x.tmod (-b):=by rw [Int.tmod_neg]
      rw [this];congr 1;omega
    rw [key,kb]
    by_cases h1:a<0
    ·rw [if_pos h1,Int.ofNat_natAbs_of_nonpos (by omega),Int.neg_tmod];omega
    ·rw [if_neg h1,Int.natAbs_of_nonneg (by omega)]
   generalize a.natAbs=p at *
   generalize b.natAbs=r at *
   refine W0 (fun k env s3=>∃ (q t:Nat),p=q*r+t/\k=t/\s3=s2/\(env.get 0=.int .i64 (op:Int)/\env.get 1=.int .i64 a/\env.get 2=.int .i64 b/\env.get 3=.int .i64 (w:Int)/\env.get 10=.int .i64 (r:Int)/\env.get 11=.int .i64 (q:Int)/\env.get 12=.int .i64 (t:Int))) ?_ p _ _
    ⟨0,p,by omega,rfl,rfl,by simp [Env.get,hE]⟩
   clear hE
   rintro k env s3 ⟨q,t,hp,rfl,rfl,hE⟩
   have hql:q<=p:=by
    have:q*1<=q*r:=Nat.mul_le_mul_left q hpb
    omega
   by_cases hc:r<=k
   ·have c1:((r:Int)<=(k:Int))=True:=eq_true (by omega)
    have e1:IntKind.i64.wrap ((k:Int)-(r:Int))=((k-r:Nat):Int):=by rw [O8 (by omega) (by omega)];omega
    have e2:=c2D (i:=q) (by omega)
    try refine zW (aN hE (aN c1 (aN e1 e2))) ?_
    exact ⟨k-r,by omega,q+1,k-r,by rw [Nat.succ_mul];omega,rfl,trivial,(rG hE)⟩
   ·have c1:((r:Int)<=(k:Int))=False:=eq_false (by omega)
    have dq:p / r=q:=by
     rw [hp,Nat.mul_comm,Nat.mul_add_div hpb,Nat.div_eq_of_lt (by omega),Nat.add_zero]
    have dm:p % r=k:=by
     rw [hp,Nat.mul_comm,Nat.mul_add_mod,Nat.mod_eq_of_lt (by omega)]
    rw [dq] at ta
    rw [dm] at tm
    have hop':op=3∨op=4:=by omega
    rcases hop' with rfl | rfl
    ·have hd:doZ 3 a b w=N4 (a.tdiv b) w:=by simp only [doZ];rw [if_neg hb0]
     have n3:((3:Nat):Int)=3:=rfl
     rw [hd]
     by_cases hx:(decide (a<0) != decide (b<0))=true
     ·rw [if_pos hx] at ta
      rw [ta]
      have e1:IntKind.i64.wrap (0-(q:Int))=-(q:Int):=by rw [O8 (by omega) (by omega)];omega
      have hx':(!(decide (a<0)==decide (b<0)))=true:=hx
      have hT:=hT (-(q:Int)) (by omega) (by omega)
      repeat first
      |(apply a2f hT rfl;(focus (simp only [Env.evL,Env.ev,Env.get,Nat.reduceEqDiff,↓reduceIte,hE];rfl));(focus rfl))
      |refine zW (aN hE (aN c1 (aN n3 (aN hx' e1)))) ?_
      exact ⟨.inr trivial,trivial,rR⟩
     ·rw [if_neg hx] at ta
      rw [ta]
      have hx':(!(decide (a<0)==decide (b<0)))=false:=by simpa using hx
      have hT:=hT (q:Int) (by omega) (by omega)
      repeat first
      |(apply a2f hT rfl;(focus (simp only [Env.evL,Env.ev,Env.get,Nat.reduceEqDiff,↓reduceIte,hE];rfl));(focus rfl))
      |refine zW (aN hE (aN c1 (aN n3 hx'))) ?_
      exact ⟨.inr trivial,trivial,rR⟩
    ·have hd:doZ 4 a b w=N4 (a.tmod b) w:=by simp only [doZ];rw [if_neg hb0]
     have n3:(((4:Nat):Int)==3)=false:=rfl
     rw [hd]
     by_cases hx:a<0
     ·rw [if_pos hx] at tm
      rw [tm]
      have e1:IntKind.i64.wrap (0-(k:Int))=-(k:Int):=by rw [O8 (by omega) (by omega)];omega
      have hx':(a<0)=True:=eq_true hx
      have hT:=hT (-(k:Int)) (by omega) (by omega)
      repeat first
      |(apply a2f hT rfl;(focus (simp only [Env.evL,Env.ev,Env.get,Nat.reduceEqDiff,↓reduceIte,hE];rfl));(focus rfl))
      |refine zW (aN hE (aN c1 (aN n3 (aN hx' e1)))) ?_
      exact ⟨.inr trivial,trivial,rR⟩
     ·rw [if_neg hx] at tm
      rw [tm]
      have hx':(a<0)=False:=eq_false hx
      have hT:=hT (k:Int) (by omega) (by omega)
      repeat first
      |(apply a2f hT rfl;(focus (simp only [Env.evL,Env.ev,Env.get,Nat.reduceEqDiff,↓reduceIte,hE];rfl));(focus rfl))
      |refine zW (aN hE (aN c1 (aN n3 hx'))) ?_
      exact ⟨.inr trivial,trivial,rR⟩
theorem do8 {op:Nat} (hop:op<5) {a b:Int} (ha:I8 a) (hb:I8 b):Iso 72 [.int .i64 (op:Int),.int .i64 a,.int .i64 b,.int .i64 8] (.int .i64 (doZ op a b 8)):=by
 obtain ⟨a1,a2⟩:=ha
 obtain ⟨b1,b2⟩:=hb
 exact ⟨_,doR (w:=8) hop (by decide) (by decide) (by omega) (by omega) (by omega) (by omega)⟩
theorem c6B {b:Bool}:Iso 71 [.bool b] (.int .i64 (a2Z b)):=by
 refine a2n ?_
 cases b
 ·refine M8 (vf:=a6D) rfl ?_
  unfold a6D;refine zE ?_
  try refine zW0 ?_
  exact ⟨.inr trivial,_,rR,rfl⟩
 ·refine M8 (vf:=a6D) rfl ?_
  unfold a6D;refine zE ?_
  try refine zW0 ?_
  exact ⟨.inr trivial,_,rR,rfl⟩
theorem b71 {m:MdX} {mo:Mo} {ps:List (Pr×PrD)} (hm:MoF m mo ps) (ho:N6 mo) {p:Nat} (hp:p<mo.procs.length) {w:ByteArray}:Iso 70 [.agg (N7 m),.int .i64 (p:Int),.str w] (.int .i64 (a2M (O2 mo.procs[p] w))):=by
 refine a2n ?_
 have om:=hm.ones
 have hpo:=ho.pr _ (List.getElem_mem hp)
 obtain ⟨x,hx,hxi⟩:=hm.proc hp
 have hxi:=hxi .i64
 have hlp:=hm.lenP
 have ox:=hx.ones
 have hln:=hx.lenN
 have hnl:=hpo.nl
 have hnv:=ho.nv
 have hsm:=hpo.same
 have p1:((0:Int)<=(p:Int))=True:=eq_true (by omega)
 have p2:((p:Int)<(mo.procs.length:Int))=True:=eq_true (by omega)
 generalize mo.procs[p]=P at *
 unfold M4 at hxi
 unfold N7
 refine M8 (vf:=a6w) rfl ?_
 unfold a6w;refine zE ?_
 try refine zW (aN om (aN hlp (aN hxi (aN ox (aN p1 p2))))) ?_
 refine W0 (Q:=N5 0 _) (fun n env s=>∃i:Nat,i<=P.names.length/\n=P.names.length-i/\s.get 1=some (.cells [.str P.name,.int .i64 (P.copy:Int),x.dl,.int .i64 (P.places:Int),x.dr,x.de,x.dn,x.dv])/\(∀j (hj:j<P.names.length),j<i->P.names[j]≠w)/\(env.get 2=.str w/\env.get 7=.ptr 1 0/\env.get 8=.int .i64 (i:Int))) ?_ P.names.length _ _ ⟨0,by omega,rfl,rfl,fun j _ h=>by omega,by simp [Env.get,P2.at];rfl⟩
 rintro n env s ⟨i,hi,rfl,hg,hall,hE⟩
 by_cases c3:i<P.names.length
 ·have c3':((i:Int)<(P.names.length:Int))=True:=eq_true (by omega)
  have hs1:IntKind.i64.wrap ((i:Int)+1)=((i+1:Nat):Int):=by rw [O8 (by omega) (by omega)];omega
  have hidx:=FLS.idx hx.n c3 (k:=.i64)
  by_cases c4:P.names[i]=w
  ·have c4':decide (P.names[i]=w)=true:=by simp [c4]
   have hvi:i<P.vars.length:=by omega
   have hidv:=FLN.idx hx.v hvi (k:=.i64)
   have e:a2M (O2 P w)=(P.vars[i]:Int):=by
    unfold O2
    rw [a4k c3 c4 hall,if_pos c3]
    simp [a2M,List.getD,hvi]
   rw [e]
   try refine zW (aN hE (aN hg (aN ox (aN hln (aN c3' (aN hidx (aN c4' hidv))))))) ?_
   exact ⟨.inr trivial,_,rR,rfl⟩
  ·have c4':decide (P.names[i]=w)=false:=by simp [c4]
   try refine zW (aN hE (aN hg (aN ox (aN hln (aN c3' (aN hidx (aN c4' hs1))))))) ?_
   refine ⟨P.names.length-(i+1),by omega,i+1,by omega,rfl,hg,fun j hj hji=>?_,(rG hE)⟩
   by_cases ej:j=i
   ·subst ej;exact c4
   ·exact hall j hj (by omega)
 ·have c3':((i:Int)<(P.names.length:Int))=False:=eq_false (by omega)
  have e:a2M (O2 P w)=-1:=by
   unfold O2
   rw [if_neg (a34 fun j hj=>hall j hj (by omega))]
   rfl
  rw [e]
  try refine zW (aN hE (aN hg (aN ox (aN hln c3')))) ?_
  exact ⟨.inr trivial,_,rR,rfl⟩
theorem c03 {m:MdX} {mo:Mo} {ps:List (Pr×PrD)} (hm:MoF m mo ps) (ho:N6 mo) {w:ByteArray}:Iso 70 [.agg (N7 m),.int .i64 (-1),.str w] (.int .i64 (a2M (a0P mo w))):=by
 refine a2n ?_
 have om:=hm.ones
 have hnv:=ho.nv
 have hgl:=ho.gl
 have hmg:=hm.g
 unfold N7
 rw [hmg]
 have hll:((mo.vars.take mo.globals).map Vr.name).length=mo.globals:=by simp;omega
 refine M8 (vf:=a6w) rfl ?_
 unfold a6w;refine zE ?_
 try refine zW om ?_
 refine W0 (Q:=N5 2 _) (fun n env s=>∃i:Nat,i<=mo.globals/\n=mo.globals-i/\s.get 0=some (.cells [m.dt,.int .i64 (mo.globals:Int),m.dc,m.dv,m.dp,m.ds,.bool m.b])/\(∀j (hj:j<mo.vars.length),j<i->mo.vars[j].name≠w)/\(env.get 2=.str w/\env.get 3=.ptr 0 0/\env.get 9=.int .i64 (i:Int))) ?_ mo.globals _ _ ⟨0,by omega,rfl,rfl,fun j _ h=>by omega,by simp [Env.get,P2.at];rfl⟩
 rintro n env s ⟨i,hi,rfl,hg,hall,hE⟩
 by_cases c3:i<mo.globals
 ·have c3':((i:Int)<(mo.globals:Int))=True:=eq_true (by omega)
  have hs1:IntKind.i64.wrap ((i:Int)+1)=((i+1:Nat):Int):=by rw [O8 (by omega) (by omega)];omega
  have hiv:i<mo.vars.length:=by omega
  have hidx:=FLV.idx hm.v hiv (k:=.i64)
  unfold Vr.row at hidx
  by_cases c4:mo.vars[i].name=w
  ·have c4':decide (mo.vars[i].name=w)=true:=by simp [c4]
   have e:a2M (a0P mo w)=(i:Int):=by
    unfold a0P
    have hil:i<((mo.vars.take mo.globals).map Vr.name).length:=by omega
    rw [a4k hil (by simpa using c4) (fun j hj hji=>by simpa using hall j (by simp at hj;omega) hji),if_pos c3]
    rfl
   rw [e]
   try refine zW (aN hE (aN hg (aN om (aN c3' (aN hidx c4'))))) ?_
   exact ⟨.inr trivial,_,rR,rfl⟩
  ·have c4':decide (mo.vars[i].name=w)=false:=by simp [c4]
   try refine zW (aN hE (aN hg (aN om (aN c3' (aN hidx (aN c4' hs1)))))) ?_
   refine ⟨mo.globals-(i+1),by omega,i+1,by omega,rfl,hg,fun j hj hji=>?_,(rG hE)⟩
   by_cases ej:j=i
   ·subst ej;exact c4
   ·exact hall j hj (by omega)
 ·have c3':((i:Int)<(mo.globals:Int))=False:=eq_false (by omega)
  have e:a2M (a0P mo w)=-1:=by
   unfold a0P
   have:=a34 (l:=(mo.vars.take mo.globals).map Vr.name) (w:=w) (fun j hj=>by simpa using hall j (by simp at hj;omega) (by simp at hj;omega))
   rw [hll] at this
   rw [if_neg this]
   rfl
  rw [e]
  try refine zW (aN hE (aN hg (aN om c3'))) ?_
  exact ⟨.inr trivial,_,rR,rfl⟩
end Go.Proofs.YtnjlhebkhjcagaaGreat
namespace Go.V
variable {fs:FuncId->Option M5}
structure Ent where
 i:Nat
 rd:Option Nat
 eff:List Nat
structure TrE (n:Nat) (e:Ent) (t:Tr):Prop where
 i:t.idx=e.i
 rd:t.rd=e.rd
 ef:∀id,id∉e.eff->t.pre.get id=t.post.get id
 lt:∀id,e.rd=some id->id<n
def TrM (n:Nat) (T:List Ent) (tr:List Tr):Prop:=∀t∈tr,(t.rd=none/\∀id,t.pre.get id=t.post.get id)∨∃e∈T,TrE n e t
def WX (fs:FuncId->Option M5) (pairs:List (Nat×Nat)) (T:List Ent) (ops:List (Nat×P3)) (env:Env) (s:k4) (Q:Env->k4->Prop):Prop:=∀tr,TrM s.next T tr->WO fs pairs ops tr env s Q
theorem c4F {vars ops p pairs dr env s Q} (h:WX fs (p::pairs) [] ops env s fun env' s'=>Q .normal (env'.keep vars) s'):WP fs vars (.region ⟨ops,p::pairs,dr⟩) env s Q:=a8l (h [] (by simp [TrM]))
theorem a7J {a b:k4} {r:Option Nat} (h:∀id,r=some id->a.get id=b.get id):a0g a b r=true:=by
 cases r with
 | none=>rfl
 | some id=>simp only [a0g];rw [h id rfl];exact a5z _
def b0k (pairs:List (Nat×Nat)) (T:List Ent) (i:Nat) (r:Option Nat) (E:List Nat):Prop:=∀e∈T,(e.i,i)∈pairs->(∀id,e.rd=some id->id∉E)/\∀id,r=some id->id∉e.eff
theorem b1o {pairs:List (Nat×Nat)} {T:List Ent} {n:Nat} {j:Tr} {E:List Nat} (hE:∀id,id∉E->j.pre.get id=j.post.get id) (hf:b0k pairs T j.idx j.rd E):∀ {tr:List Tr},TrM n T tr->a0r pairs j tr=true
 | [],_=>rfl
 | t::r,h=>by
   have ih:=b1o hE hf (tr:=r) fun x hx=>h x (by simp [hx])
   rcases h t (by simp) with ⟨k1,k2⟩ | ⟨e,he,k⟩
   ·have s1:a0g j.pre j.post t.rd=true:=by rw [k1];rfl
    have s2:a0g t.pre t.post j.rd=true:=a7J fun id _=>k2 id
    simp only [a0r,s1,s2,Bool.and_self,ite_self,Bool.true_and,ih]
   by_cases hc:(t.idx,j.idx)∈pairs
   ·rw [k.i] at hc
    obtain ⟨f1,f2⟩:=hf e he hc
    have s1:a0g j.pre j.post t.rd=true:=a7J fun id hid=>hE id (f1 id (by rw [<- k.rd];exact hid))
    have s2:a0g t.pre t.post j.rd=true:=a7J fun id hid=>k.ef id (f2 id hid)
    simp only [a0r,s1,s2,Bool.and_self,ite_self,Bool.true_and,ih]
   ·have hc':pairs.contains (t.idx,j.idx)=false:=by rw [Bool.eq_false_iff];intro h';rw [List.contains_iff_mem] at h';exact hc h'
    simp only [a0r,hc',Bool.false_eq_true,if_false,Bool.true_and,ih]
theorem TrM.grow {n m:Nat} {T:List Ent} {tr:List Tr} (h:TrM n T tr) (hm:n<=m) (e:Ent):TrM m (e::T) tr:=fun t ht=>by
 rcases h t ht with k | ⟨e',h1,h2⟩
 ·exact .inl k
 ·exact .inr ⟨e',by simp [h1],h2.i,h2.rd,h2.ef,fun id hid=>Nat.lt_of_lt_of_le (h2.lt id hid) hm⟩
theorem a94 {pairs T i o rest env s Q} (hw:a0v env o.guard=some true) {d s'} {E:List Nat} (m:Nat) (hr:P7 (a0M fs (P4 fs m)) env s o.op=some (d,s')) (hE:∀id,id∉E->s.get id=s'.get id) (hn:s.next<=s'.next) (hl:∀id,Y3 env o.op=some id->id<s.next) (hf:b0k pairs T i (Y3 env o.op) E)
 (h:WX fs pairs (⟨i,Y3 env o.op,E⟩::T) rest (env.put o.dst d) s' Q):WX fs pairs T ((i,o)::rest) env s Q:=by
 intro tr ht
 refine a1L hw m hr (b1o (j:=⟨i,Y3 env o.op,s,s'⟩) hE hf ht) (h _ ?_)
 split
 ·exact ht.grow hn _
 ·intro t hm
  rcases List.mem_cons.1 hm with rfl | hm
  ·exact .inr ⟨⟨i,Y3 env o.op,E⟩,by simp,rfl,rfl,hE,fun id hid=>Nat.lt_of_lt_of_le (hl id hid) hn⟩
  ·exact ht.grow hn _ t hm
theorem c3t {pairs:List (Nat×Nat)} {T:List Ent} {i:Nat}:b0k pairs T i none []:=fun e _ _=>⟨by simp,by simp⟩
theorem b0u {pairs T i o rest env s Q} (hw:a0v env o.guard=some true) {d} (m:Nat) (hr:P7 (a0M fs (P4 fs m)) env s o.op=some (d,s)) (hn:Y3 env o.op=none) (h:WX fs pairs T rest (env.put o.dst d) s Q):WX fs pairs T ((i,o)::rest) env s Q:=by
 intro tr ht
 refine a1L hw m hr (b1o (E:=[]) (fun _ _=>rfl) (by rw [hn];exact c3t) ht) (h _ ?_)
 split
 ·exact ht
 ·intro t hm
  rcases List.mem_cons.1 hm with rfl | hm
  ·exact .inl ⟨hn,fun _=>rfl⟩
  ·exact ht t hm
theorem b6Y {pairs T env s Q} (h:Q env s):WX fs pairs T [] env s Q:=fun _ _=>b1V h
theorem b2r {pairs T i o rest env s Q} (hw:a0v env o.guard=some false) (h:WX fs pairs T rest (env.put o.dst (.tup [])) s Q):WX fs pairs T ((i,o)::rest) env s Q:=fun tr ht=>b2P hw (h tr ht)
theorem c0J {pairs T i t o rest s Q} {env:Env} {d:D} (hr:evP env o=some d) (h:WX fs pairs T rest ((t,d)::env) s Q):WX fs pairs T ((i,⟨some t,.p o,none⟩)::rest) env s Q :=
 b0u rfl 0 (by simp only [P7,hr,Option.map_some]) rfl h
theorem c2r {pairs T i t n x rest s Q} {env:Env} {d:D} {cs:List D} {off:Nat} (hx:env.ev x=.fp cs off) (hr:ldV s.get n (.fp cs off)=some d) (h:WX fs pairs T rest ((t,d)::env) s Q):WX fs pairs T ((i,⟨some t,.r (.load n x),none⟩)::rest) env s Q :=
 b0u rfl 0 (by simp only [P7,a5H,hx,hr,Option.map_some]) (by simp only [Y3,rdR,hx]) h
theorem b6v {pairs T i t n x rest s Q} {env:Env} {d:D} {id off:Nat} (hx:env.ev x=.ptr id off) (hr:ldV s.get n (.ptr id off)=some d) (hf:∀e∈T,(e.i,i)∈pairs->id∉e.eff) (h:WX fs pairs (⟨i,some id,[]⟩::T) rest ((t,d)::env) s Q):WX fs pairs T ((i,⟨some t,.r (.load n x),none⟩)::rest) env s Q:=by
 have hrd:Y3 env (.r (.load n x))=some id:=by simp only [Y3,rdR,hx]
 have hlt:id<s.next:=by
  simp only [ldV] at hr
  cases hg:s.get id with
  | none=>rw [hg] at hr;cases hr
  | some o=>exact M7 hg
 refine a94 (E:=[]) rfl 0 (d:=d) (s':=s) (by simp only [P7,a5H,hx,hr,Option.map_some]) (fun _ _=>rfl) (Nat.le_refl _) ?_ ?_ ?_
 ·intro j hj
  simp only [hrd,Option.some.injEq] at hj
  subst hj;exact hlt
 ·simp only [hrd]
  intro e he hp
  refine ⟨by simp,fun j hj=>?_⟩
  simp only [Option.some.injEq] at hj
  subst hj
  exact hf e he hp
 ·simp only [hrd];exact h
theorem c6O {pairs T i t o rest s Q} {env:Env} {ob:O1} {m:P2} (hr:evA env o=some (ob,m)) (h:WX fs pairs (⟨i,none,[s.next]⟩::T) rest ((t,m.at s.next)::env) (s.push ob) Q):WX fs pairs T ((i,⟨some t,.a o,none⟩)::rest) env s Q:=by
 intro tr ht
 have hE:∀id,id∉[s.next]->s.get id=(s.push ob).get id:=fun id hid=>by
  rw [k4.get_push,if_neg (by simpa using hid)]
 refine a1L rfl 0 (d:=m.at s.next) (s':=s.push ob) (by simp only [P7,hr]) ?_ (h _ ?_)
 ·have key:∀ {tr:List Tr},TrM s.next T tr->a0r pairs ⟨i,none,s,s.push ob⟩ tr=true:=by
   intro tr
   induction tr with
   | nil=>intro _;rfl
   | cons x r ih =>
     intro hx
     have ih:=ih fun y hy=>hx y (by simp [hy])
     have s1:a0g s (s.push ob) x.rd=true:=by
      rcases hx x (by simp) with ⟨k1,_⟩ | ⟨e,_,k⟩
      ·rw [k1];rfl
      ·refine a7J fun id hid=>hE id ?_
       have:=k.lt id (by rw [<- k.rd];exact hid)
       simp only [List.mem_singleton];omega
     have s2:a0g x.pre x.post none=true:=rfl
     simp only [a0r,s1,s2,Bool.and_self,ite_self,Bool.true_and,ih]
  exact key ht
 ·have hn:s.next<=(s.push ob).next:=by simp
  split
  ·exact ht.grow hn _
  ·intro x hm
   rcases List.mem_cons.1 hm with rfl | hm
   ·exact .inr ⟨⟨i,none,[s.next]⟩,by simp,rfl,rfl,hE,by simp⟩
   ·exact ht.grow hn _ x hm
theorem b9n {pairs T i n a v rest s Q} {env:Env} {id off:Nat} {ob:O1} (hx:env.ev a=.ptr id off) (hr:evW env s.get n a v=some (id,ob)) (hf:∀e∈T,(e.i,i)∈pairs->e.rd≠some id/\id∉e.eff) (h:WX fs pairs (⟨i,some id,[id]⟩::T) rest env (s.set id (some ob)) Q):WX fs pairs T ((i,⟨none,.w n a v,none⟩)::rest) env s Q:=by
 have hrd:Y3 env (.w n a v)=some id:=by simp only [Y3,rdW,hx]
 have hlt:id<s.next:=by
  simp only [evW,hx] at hr
  cases hg:s.get id with
  | none=>rw [hg] at hr;cases hr
  | some o=>exact M7 hg
 refine a94 (E:=[id]) rfl 0 (d:=.tup []) (s':=s.set id (some ob)) (by simp only [P7,hr]) (fun j hj=>by rw [O7 (by simpa using hj)]) (by simp) ?_ ?_ ?_
 ·intro j hj
  simp only [hrd,Option.some.injEq] at hj
  subst hj;exact hlt
 ·simp only [hrd]
  intro e he hp
  obtain ⟨f1,f2⟩:=hf e he hp
  refine ⟨fun j hj hm=>?_,fun j hj=>?_⟩
  ·simp only [List.mem_singleton] at hm
   subst hm
   exact f1 hj
  ·simp only [Option.some.injEq] at hj
   subst hj
   exact f2
 ·simp only [hrd];exact h
theorem c5Q {pairs T i t o rest s Q} {env:Env} {d:D} {s':k4} {E:List Nat} (hr:∃n,evM (a0M fs (P4 fs n)) env s o=some (d,s')) (hE:∀id,id∉E->s.get id=s'.get id) (hn:s.next<=s'.next) (hf:∀e∈T,(e.i,i)∈pairs->∀id,e.rd=some id->id∉E)
 (h:WX fs pairs (⟨i,none,E⟩::T) rest ((t,d)::env) s' Q):WX fs pairs T ((i,⟨some t,.m o,none⟩)::rest) env s Q:=by
 obtain ⟨n,hn'⟩:=hr
 refine a94 (E:=E) rfl n (d:=d) (s':=s') (by simp only [P7];exact hn') hE hn (by intro id hid;simp [Y3] at hid) (fun e he hp=>⟨hf e he hp,by intro id hid;simp [Y3] at hid⟩) h
theorem c3f {pairs T i t f args rest s Q} {env:Env} {l l':List D} {d r:D} {s1:k4} (hl:env.evL args=l) (ha:N2 (ice s.get 20) l=some l')
 (hr:Ev fs f l' k4.empty r s1) (hi:ice s1.get 20 r=some d) (hs:(a0q d||pureL l)=true)
 (h:WX fs pairs T rest ((t,d)::env) s Q):WX fs pairs T ((i,⟨some t,.m (.call .iso (.cst (.fn f [])) args),none⟩)::rest) env s Q:=by
 subst hl
 obtain ⟨n,hn⟩:=hr
 have hn':a0M fs (P4 fs n) f l' k4.empty=some (r,s1):=hn
 exact b0u rfl n (by simp only [P7,evM,a1h,Env.ev,List.append_nil,ha,hn',hi,hs,if_true]) rfl h
end Go.V
namespace Go.V
def c4P (σ:Nat->Nat) (v:Int):Int:=if 0<=v then ((σ v.toNat:Nat):Int) else v
def b5u (σ:Nat->Nat) (e:Ed):Ed:={ e with var:=c4P σ e.var }
def ren (σ:Nat->Nat) (l:List Nat) (c:Nat) (p:Pr):Pr:={ p with copy:=c,locals:=l,vars:=p.vars.map σ,edges:=p.edges.map (b5u σ) }
variable {σ:Nat->Nat} {l:List Nat} {c:Nat}
def c5X (g d:Nat) (v:Nat):Nat:=if v<g then v else v+d
end Go.V
namespace Go.V
def a41 (mo:Mo) (p:Pr) (e:Ed):Ft:=if 0<=e.expr then Z7 mo.tree (mo.chans.map Ch.name) (a0W p.names p.vars) (mo.tree.length+1) e.expr.toNat ⟨0,0,0,0,0,false⟩ else ⟨0,0,0,0,0,false⟩
def a6v (e:Ed) (f:Ft):Ft :=
 if e.act=1 then { f with writes:=a0j e.var }
 else if e.act=2 then { f with sends:=a0j e.chan }
 else if e.act=3 then { f with writes:=a0j e.var,recvs:=a0j e.chan } else f
theorem a7L (mo:Mo) (p:Pr) (e:Ed):O4 mo p e=a6v e (a41 mo p e):=rfl
end Go.V
namespace Go.V
theorem b6c {α:Type} {P:List α->Prop} (h0:P []) (h1:∀l a,P l->P (l++[a])):∀l,P l:=by
 intro l
 have:∀r:List α,P r.reverse:=by
  intro r
  induction r with
  | nil=>exact h0
  | cons a r ih=>rw [List.reverse_cons];exact h1 _ _ ih
 have h:=this l.reverse
 rwa [List.reverse_reverse] at h
def b0O:Nat->List (Nat×Nat)->List Nat
 | _,[]=>[]
 | k,p::r=>if p=(0,0)/\0<k then k::b0O (k+1) r else b0O (k+1) r
structure Gr.WF (G:Gr):Prop where
 pos:G.nodes[0]?=some (0,0)
 nodes:∀ (n:Nat) (p:Nat×Nat),G.nodes[n]?=some p->p=(0,0)∨(2<=p.1/\p.1<p.2/\p.2<2*n)
 ins:G.ins=b0O 0 G.nodes
 known:∀ (p:Nat×Nat) (n:Nat),find p G.known=some n↔p≠(0,0)/\G.nodes[n]?=some p
theorem Gr.WF.len {G:Gr} (h:G.WF):0<G.nodes.length:=by
 have:=h.pos
 rcases Nat.eq_zero_or_pos G.nodes.length with h0 | h0
 ·rw [List.getElem?_eq_none (by omega)] at this;cases this
 ·exact h0
theorem Gr.WF.lt {G:Gr} (h:G.WF):∀p n,find p G.known=some n->n<G.nodes.length:=by
 intro p n hf
 have:=(h.known p n).1 hf
 rcases Nat.lt_or_ge n G.nodes.length with h1 | h1
 ·exact h1
 ·rw [List.getElem?_eq_none h1] at this;cases this.2
def evL (vs:List Bool) (e:Nat):Bool:=vs.getD (e / 2) false != (e % 2==1)
def a9Y (m:List Bool) (st:List Bool×Nat) (p:Nat×Nat):List Bool×Nat :=
 if p=(0,0) then (if st.1.length=0 then (st.1++[false],st.2) else (st.1++[m.getD st.2 false],st.2+1))
 else (st.1++[evL st.1 p.1&&evL st.1 p.2],st.2)
def a7g (m:List Bool) (nodes:List (Nat×Nat)):List Bool×Nat:=nodes.foldl (a9Y m) ([],0)
def vals (m:List Bool) (nodes:List (Nat×Nat)):List Bool:=(a7g m nodes).1
def Gr.ev (G:Gr) (m:List Bool) (e:Nat):Bool:=evL (vals m G.nodes) e
theorem c26 (m:List Bool) (l:List (Nat×Nat)) (p:Nat×Nat):a7g m (l++[p])=a9Y m (a7g m l) p:=by simp [a7g,List.foldl_append]
theorem b3T (m:List Bool) (l:List (Nat×Nat)) (p:Nat×Nat):∃v,vals m (l++[p])=vals m l++[v]:=by
 simp only [vals,c26,a9Y]
 split
 ·split<;>exact ⟨_,rfl⟩
 ·exact ⟨_,rfl⟩
theorem c2Z (m:List Bool) (l k:List (Nat×Nat)):∃t,vals m (l++k)=vals m l++t:=by
 induction k using b6c with
 | h0=>exact ⟨[],by simp⟩
 | h1 k p ih =>
   obtain ⟨t,ht⟩:=ih
   obtain ⟨v,hv⟩:=b3T m (l++k) p
   exact ⟨t++[v],by rw [<- List.append_assoc,hv,ht,List.append_assoc]⟩
theorem c64 (m:List Bool) (l:List (Nat×Nat)):(vals m l).length=l.length:=by
 induction l using b6c with
 | h0=>rfl
 | h1 l p ih =>
   obtain ⟨v,hv⟩:=b3T m l p
   rw [hv];simp [ih]
theorem b9G {l t:List Bool} {e:Nat} (h:e / 2<l.length):evL (l++t) e=evL l e:=by
 simp only [evL]
 congr 1
 simp [List.getD,List.getElem?_append_left h]
def Gr.Ext (G G':Gr):Prop:=∃l,G'.nodes=G.nodes++l
theorem Gr.Ext.refl (G:Gr):Gr.Ext G G:=⟨[],by simp⟩
theorem Gr.Ext.trans {A B C:Gr} (h:Gr.Ext A B) (k:Gr.Ext B C):Gr.Ext A C:=by
 obtain ⟨l,hl⟩:=h
 obtain ⟨r,hr⟩:=k
 exact ⟨l++r,by rw [hr,hl,List.append_assoc]⟩
theorem Gr.Ext.le {G G':Gr} (h:Gr.Ext G G'):G.nodes.length<=G'.nodes.length:=by
 obtain ⟨l,hl⟩:=h
 rw [hl];simp
theorem Gr.Ext.ev {G G':Gr} (h:Gr.Ext G G') {m:List Bool} {e:Nat} (he:e<2*G.nodes.length):G'.ev m e=G.ev m e:=by
 obtain ⟨l,hl⟩:=h
 obtain ⟨t,ht⟩:=c2Z m G.nodes l
 simp only [Gr.ev,hl,ht]
 exact b9G (by rw [c64];omega)
theorem Gr.Ext.get {G G':Gr} (h:Gr.Ext G G') {n:Nat} {p:Nat×Nat} (hp:G.nodes[n]?=some p):G'.nodes[n]?=some p:=by
 obtain ⟨l,hl⟩:=h
 rw [hl,List.getElem?_append_left,hp]
 rcases Nat.lt_or_ge n G.nodes.length with h1 | h1
 ·exact h1
 ·rw [List.getElem?_eq_none h1] at hp;cases hp
structure Gr.Ok (G G':Gr) (k:Nat):Prop where
 wf:G'.WF
 ext:Gr.Ext G G'
 len:G'.nodes.length<=G.nodes.length+k
 one:G.nodes.length=1->G'.nodes.length=1
 ins:G'.ins=G.ins
theorem Gr.Ok.refl {G:Gr} (h:G.WF):Gr.Ok G G 0:=⟨h,Gr.Ext.refl G,by omega,fun h=>h,rfl⟩
theorem Gr.Ok.trans {A B C:Gr} {j k:Nat} (h:Gr.Ok A B j) (l:Gr.Ok B C k):Gr.Ok A C (j+k):=⟨l.wf,h.ext.trans l.ext,by have:=h.len;have:=l.len;omega,fun e=>l.one (h.one e),l.ins.trans h.ins⟩
theorem Gr.Ok.weaken {A B:Gr} {j k:Nat} (h:Gr.Ok A B j) (l:j<=k):Gr.Ok A B k:=⟨h.wf,h.ext,by have:=h.len;omega,h.one,h.ins⟩
theorem Gr.and_again {G G':Gr} (h:G.WF) {a b:Nat} (hx:Gr.Ext (G.and a b).2 G') (hw:G'.WF):G'.and b a=((G.and a b).1,G'):=by
 unfold Gr.and at *
 rw [Nat.min_comm b a,Nat.max_comm b a]
 by_cases h1:min a b=0∨min a b=b2z (max a b)
 ·simp only [if_pos h1]
 ·by_cases h2:min a b=1∨min a b=max a b
  ·simp only [if_neg h1,if_pos h2]
  ·have hp:(min a b,max a b)≠(0,0):=by
    intro he
    simp only [Prod.mk.injEq] at he
    exact h1 (.inl he.1)
   simp only [if_neg h1,if_neg h2] at hx ⊢
   cases hf:find (min a b,max a b) G.known with
   | some n =>
     simp only [hf] at hx ⊢
     have hk:=(h.known _ _).1 hf
     rw [(hw.known _ _).2 ⟨hp,hx.get hk.2⟩]
   | none =>
     simp only [hf] at hx ⊢
     rw [(hw.known (min a b,max a b) G.nodes.length).2 ⟨hp,hx.get (by simp)⟩]
def Gr.new:Gr:=⟨[(0,0)],[],[]⟩
def Gr.Laid (G:Gr) (a b e:Nat):Prop:=∀G',Gr.Ext G G'->G'.WF->G'.and b a=(e,G')
theorem Gr.laid {G:Gr} (h:G.WF) (a b:Nat):Gr.Laid (G.and a b).2 a b (G.and a b).1:=fun _ hx hw=>Gr.and_again h hx hw
theorem Gr.Laid.mono {G G':Gr} {a b e:Nat} (h:Gr.Laid G a b e) (hx:Gr.Ext G G'):Gr.Laid G' a b e:=fun G'' hx' hw=>h G'' (hx.trans hx') hw
def RdF (s:k4) (ids:List Nat) (d:D) (l:List D):Prop:=Rd s d l/\∀id off n,d=.arr id off n 1->id∉ids
theorem RdF.fr {s s':k4} {ids ids':List Nat} {d:D} {l:List D} (h:RdF s ids d l) (hf:Fr ids s s') (hm:∀i∈ids',i∈ids∨s.next<=i):RdF s' ids' d l:=by
 obtain ⟨h1,h2⟩:=h
 have lt:∀id off n,d=.arr id off n 1->id<s.next:=by
  rintro id off n rfl
  rcases h1 with ⟨h,_⟩ | h | ⟨id',off',cs,h,hg,_⟩
  ·cases h
  ·cases h
  ·cases h;exact M7 hg
 refine ⟨h1.stay fun id off n hd=>hf.2 id (lt id off n hd) (h2 id off n hd),fun id off n hd hc=>?_⟩
 rcases hm id hc with h | h
 ·exact h2 id off n hd h
 ·have:=lt id off n hd;omega
theorem RdF.step {s s':k4} {g:Nat} {ids ids':List Nat} {G':Gr} {d:D} {l:List D} (h:RdF s ids d l) (hs:a1D s g ids s' G' ids'):RdF s' ids' d l:=h.fr hs.2.1 hs.2.2
theorem RdF.newer {s s':k4} {ids:List Nat} {d:D} {l:List D} (h:RdF s ids d l) (hf:Fr [] s s'):RdF s' ids d l:=h.fr (hf.weaken (by simp)) fun _ h=>.inl h
theorem RdF.of {s:k4} {d:D} {l:List D} {ids:List Nat} (h:∀s,Rd s d l):RdF s ids d l:=by
 refine ⟨h s,fun id off n he=>?_⟩
 subst he
 rcases h k4.empty with ⟨h,_⟩ | h | ⟨id',off',cs,h,hg,_⟩
 ·cases h
 ·cases h
 ·simp at hg
end Go.V
namespace Go.V
structure InW (V:List Bool) (ins:List Nat) (top i:Nat) (W:List Bool):Prop where
 len:W.length=top+1
 yes:∀n j,n<=top->j<i->ins[j]?=some n->W[n]?=V[n]?
 no:∀n,n<=top->(∀j,j<i->ins[j]?≠some n)->W[n]?=some false
theorem InW.zero {V:List Bool} {ins:List Nat} {top:Nat}:InW V ins top 0 (List.replicate (top+1) false) :=
 ⟨by simp,fun n j _ h=>by omega,fun n h _=>by rw [List.getElem?_replicate,if_pos (by omega)]⟩
theorem InW.set {V W:List Bool} {ins:List Nat} {top i n:Nat} {b:Bool} (h:InW V ins top i W) (hn:ins[i]?=some n) (ht:n<=top) (hv:V[n]?=some b):InW V ins top (i+1) (W.set n b):=by
 refine ⟨by simp [h.len],fun k j hk hj he=>?_,fun k hk hj=>?_⟩
 ·by_cases e:n=k
  ·subst e
   rw [List.getElem?_set_self (by have:=h.len;omega),hv]
  ·rw [List.getElem?_set_ne e]
   by_cases e2:j=i
   ·subst e2;rw [hn] at he;cases he;exact absurd rfl e
   ·exact h.yes k j hk (by omega) he
 ·have e:n≠k:=fun e=>hj i (by omega) (by rw [hn,e])
  rw [List.getElem?_set_ne e]
  exact h.no k hk fun j hj'=>hj j (by omega)
theorem InW.same {V W:List Bool} {ins:List Nat} {top i n:Nat} (h:InW V ins top i W) (hn:ins[i]?=some n) (ht:n<=top) (hv:V[n]?=some false) (hnew:∀j,j<i->ins[j]?≠some n):InW V ins top (i+1) W:=by
 refine ⟨h.len,fun k j hk hj he=>?_,fun k hk hj=>h.no k hk fun j hj'=>hj j (by omega)⟩
 by_cases e2:j=i
 ·subst e2;rw [hn] at he;cases he
  rw [hv];exact h.no _ ht hnew
 ·exact h.yes k j hk (by omega) he
theorem InW.all {V W:List Bool} {ins:List Nat} {top:Nat} (h:InW V ins top ins.length W) {n:Nat} (hn:n∈ins) (ht:n<=top):W[n]?=V[n]?:=by
 obtain ⟨j,hj,rfl⟩:=List.getElem_of_mem hn
 exact h.yes _ j ht hj (List.getElem?_eq_getElem hj)
end Go.V
namespace Go.V
theorem Sl.newer {s s':k4} {d:D} {l:List D} {ids:List Nat} (h:Sl s d l ids) (hf:Fr [] s s'):Sl s' d l ids:=h.stay hf (by simp)
end Go.V
namespace Go.V
def a0R:List (Nat×Nat)->List D
 | []=>[]
 | p::r=>.bool (decide (p=(0,0)))::.int .i64 (p.1:Int)::.int .i64 (p.2:Int)::a0R r
@[simp] theorem a7z:∀ (l:List (Nat×Nat)),(a0R l).length=l.length*3
 | []=>rfl
 | p::r=>by simp only [a0R,List.length_cons,a7z r];omega
theorem b3f:∀ (l m:List (Nat×Nat)),a0R (l++m)=a0R l++a0R m
 | [],m=>rfl
 | p::r,m=>by simp [a0R,b3f r m]
theorem b1H:∀ {l:List (Nat×Nat)} {i:Nat} (h:i<l.length),(a0R l)[i*3]?=some (.bool (decide (l[i]=(0,0))))/\(a0R l)[i*3+1]?=some (.int .i64 (l[i].1:Int))/\(a0R l)[i*3+2]?=some (.int .i64 (l[i].2:Int))
 | p::r,0,h=>by simp [a0R]
 | p::r,i+1,h=>by
   have ih:=b1H (l:=r) (i:=i) (by simpa using h)
   rw [show (i+1)*3=i*3+1+1+1 by omega]
   simpa [a0R,Nat.add_right_comm] using ih
structure a1V (s:k4) (r:Nat) (N:List (Nat×Nat)) (dl:D) (ids:List Nat):Prop where
 obj:s.get r=some (.cells [dl])
 row:(dl=.nils/\N=[]/\ids=[r])∨∃id,dl=.arr id 0 N.length 3/\s.get id=some (.cells (a0R N))/\id≠r/\ids=[r,id]
theorem a1V.one {s:k4} {r:Nat} {N:List (Nat×Nat)} {dl:D} {ids:List Nat} (h:a1V s r N dl ids):M9 dl=true:=by
 rcases h.row with ⟨rfl,_⟩ | ⟨id,rfl,_⟩<;>rfl
theorem a1V.len {s:k4} {r:Nat} {N:List (Nat×Nat)} {dl:D} {ids:List Nat} (h:a1V s r N dl ids):V1 false dl=some (.int .i64 (N.length:Int)):=by
 rcases h.row with ⟨rfl,rfl,_⟩ | ⟨id,rfl,_⟩<;>rfl
theorem a1V.idx {s:k4} {r:Nat} {N:List (Nat×Nat)} {dl:D} {ids:List Nat} (h:a1V s r N dl ids) {i:Nat} (hi:i<N.length) :
 ∃id,N3 3 dl (.int .i64 (i:Int))=some (.ptr id (i*3))/\ldV s.get none (.ptr id (i*3))=some (.bool (decide (N[i]=(0,0))))/\ldV s.get none (.ptr id (i*3+1))=some (.int .i64 (N[i].1:Int))/\ldV s.get none (.ptr id (i*3+2))=some (.int .i64 (N[i].2:Int)) /\
  ldV s.get (some 3) (.ptr id (i*3))=some (.agg [.bool (decide (N[i]=(0,0))),.int .i64 (N[i].1:Int),.int .i64 (N[i].2:Int)]):=by
 rcases h.row with ⟨_,rfl,_⟩ | ⟨id,rfl,hg,_,_⟩
 ·simp at hi
 ·obtain ⟨h1,h2,h3⟩:=b1H hi
  refine ⟨id,?_,?_,?_,?_,?_⟩
  ·rw [b31 rfl (by omega) (by omega)];simp
  ·simp only [ldV,hg,Z8,h1];rfl
  ·simp only [ldV,hg,Z8,h2];rfl
  ·simp only [ldV,hg,Z8,h3];rfl
  ·simp only [ldV,hg,Z8,a7z]
   rw [if_pos (by omega)]
   congr 2
   have hl:i*3+3<=(a0R N).length:=by rw [a7z];omega
   have e1:=List.getElem?_eq_some_iff.1 h1
   have e2:=List.getElem?_eq_some_iff.1 h2
   have e3:=List.getElem?_eq_some_iff.1 h3
   obtain ⟨q1,e1⟩:=e1
   obtain ⟨q2,e2⟩:=e2
   obtain ⟨q3,e3⟩:=e3
   rw [List.drop_eq_getElem_cons q1,List.drop_eq_getElem_cons q2,List.drop_eq_getElem_cons q3,e1,e2,e3]
   rfl
theorem a1V.lt {s:k4} {r:Nat} {N:List (Nat×Nat)} {dl:D} {ids:List Nat} (h:a1V s r N dl ids):∀i∈ids,i<s.next:=by
 rcases h.row with ⟨_,_,rfl⟩ | ⟨id,_,hg,_,rfl⟩
 ·intro i hi;simp at hi;subst hi;exact M7 h.obj
 ·intro i hi;simp at hi
  rcases hi with rfl | rfl
  ·exact M7 h.obj
  ·exact M7 hg
theorem a1V.stay {s s':k4} {r:Nat} {N:List (Nat×Nat)} {dl:D} {ids ids2:List Nat} (h:a1V s r N dl ids) (hf:Fr ids2 s s') (hd:∀i∈ids,i∉ids2):a1V s' r N dl ids:=by
 have hl:=h.lt
 rcases h.row with ⟨rfl,rfl,rfl⟩ | ⟨id,rfl,hg,hne,rfl⟩
 ·exact ⟨by rw [hf.2 r (hl r (by simp)) (hd r (by simp)),h.obj],.inl ⟨rfl,rfl,rfl⟩⟩
 ·exact ⟨by rw [hf.2 r (hl r (by simp)) (hd r (by simp)),h.obj],.inr ⟨id,rfl,by rw [hf.2 id (hl id (by simp)) (hd id (by simp)),hg],hne,rfl⟩⟩
theorem a1V.app {s:k4} {r:Nat} {N:List (Nat×Nat)} {dl:D} {ids:List Nat} (h:a1V s r N dl ids) (p:Nat×Nat) (hN:N.length<1000000) :
 ∃s' id',U8 3 24 dl (.arr s.next 0 1 3) (s.push (.cells [.bool (decide (p=(0,0))),.int .i64 (p.1:Int),.int .i64 (p.2:Int)]))=some (.arr id' 0 (N.length+1) 3,s')/\s'.get id'=some (.cells (a0R (N++[p])))/\s.next<=id'/\Fr ids s s'/\s'.get r=some (.cells [dl])/\r<s'.next:=by
 have hr:=M7 h.obj
 have hg2:(s.push (.cells [.bool (decide (p=(0,0))),.int .i64 (p.1:Int),.int .i64 (p.2:Int)])).get s.next=some (.cells [.bool (decide (p=(0,0))),.int .i64 (p.1:Int),.int .i64 (p.2:Int)]):=P1 rfl
 have b1:∀n,n<=1000000->n*24<=2 ^ 45/\n<=2 ^ 45:=fun n hn=>⟨Nat.le_trans (Nat.mul_le_mul_right _ hn) (by decide),Nat.le_trans hn (by decide)⟩
 rcases h.row with ⟨rfl,rfl,rfl⟩ | ⟨id,rfl,hg,hne,rfl⟩
 ·refine ⟨(s.push (.cells [.bool (decide (p=(0,0))),.int .i64 (p.1:Int),.int .i64 (p.2:Int)])).push (.cells (a0R [p])),s.next+1,?_,P1 (by simp),by omega,(Fr.push _).thenPush _,?_,by simp;omega⟩
  ·unfold U8
   simp only [X3,hg2,a1E,a0z,beq_self_eq_true]
   simp [a0R]
  ·rw [T0 (by simp;omega),T0 hr];exact h.obj
 ·have hl:=M7 hg
  refine ⟨((s.push (.cells [.bool (decide (p=(0,0))),.int .i64 (p.1:Int),.int .i64 (p.2:Int)])).set id none).push (.cells (a0R (N++[p]))),s.next+1,?_,P1 (by simp),by omega,((Fr.push _).thenSet _ (.inl (by simp))).thenPush _,?_,by simp;omega⟩
  ·have hg':(s.push (.cells [.bool (decide (p=(0,0))),.int .i64 (p.1:Int),.int .i64 (p.2:Int)])).get id=some (.cells (a0R N)):=by rw [T0 hl];exact hg
   have hb:=b1 (N.length+1) (by omega)
   unfold U8
   simp only [X3,hg2,a1E,a0z,beq_self_eq_true,hg',a7z,Nat.zero_add]
   simp [b3f,a0R,hb.1,hb.2]
  ·rw [T0 (by simp;omega),O7 (fun e=>hne e.symm),T0 hr];exact h.obj
end Go.V
namespace Go.V
end Go.V
namespace Go.V
structure VI (s:k4) (ids:List Nat) (G:Gr) (d:D) (es:List Nat):Prop where
 rd:RdF s ids d (W5 es)
 lt:∀e∈es,e<2*G.nodes.length
theorem VI.step {s s':k4} {g:Nat} {ids ids':List Nat} {G G':Gr} {d:D} {es:List Nat} (h:VI s ids G d es) (hs:a1D s g ids s' G' ids') (hx:Gr.Ext G G'):VI s' ids' G' d es :=
 ⟨h.rd.step hs,fun e he=>by have:=h.lt e he;have:=hx.le;omega⟩
theorem VI.newer {s s':k4} {ids:List Nat} {G:Gr} {d:D} {es:List Nat} (h:VI s ids G d es) (hf:Fr [] s s'):VI s' ids G d es:=⟨h.rd.newer hf,h.lt⟩
theorem VI.of {s:k4} {ids:List Nat} {G:Gr} {id:Nat} {es:List Nat} {w:Nat} (h:s.get id=some (.cells (W5 es))) (hw:es.length=w) (hid:id∉ids) (hl:∀e∈es,e<2*G.nodes.length):VI s ids G (.arr id 0 w 1) es:=by
 subst hw
 refine ⟨⟨c2X h,fun id' off n he=>?_⟩,hl⟩
 cases he;exact hid
theorem a1D.wr {s s':k4} {g:Nat} {ids ids':List Nat} {G':Gr} (h:a1D s g ids s' G' ids') {id:Nat} (o:Option O1) (hid:id∉ids') (hl:s.next<=id):a1D s g ids (s'.set id o) G' ids' :=
 ⟨h.1.stay (ids2:=[id]) (Fr.set _ (by simp)) (by intro i hi hc;simp at hc;subst hc;exact hid hi),h.2.1.thenSet _ (.inr hl),h.2.2⟩
theorem a1D.nw {s s' s'':k4} {g:Nat} {ids ids':List Nat} {G':Gr} (h:a1D s g ids s' G' ids') (hf:Fr [] s' s''):a1D s g ids s'' G' ids' :=
 ⟨(h.1.newer hf).1,h.2.1.trans hf (by simp),h.2.2⟩
theorem Gr.Ok.get {G G':Gr} {k:Nat} (h:Gr.Ok G G' k) {m:List Bool} {e:Nat} (he:e<2*G.nodes.length):G'.ev m e=G.ev m e:=h.ext.ev he
end Go.V
namespace Go.V
theorem b3e {v w:Nat} (h:w<=v):(2:Int) ^ w ∣ 2 ^ v:=by
 obtain ⟨k,rfl⟩:∃k,v=w+k:=⟨v-w,by omega⟩
 rw [Int.pow_add];exact Int.dvd_mul_right _ _
theorem b3O {v w:Nat} (h:w<=v):(2:Int) ^ w<=2 ^ v:=by
 have:(2:Nat) ^ w<=2 ^ v:=Nat.pow_le_pow_right (by omega) h
 exact_mod_cast this
end Go.V
namespace Go.Proofs.YtnjlhebkhjcagaaGreat
open Go.V
set_option maxRecDepth 100000
set_option maxHeartbeats 4000000
theorem b2V {m:MdX} {mo:Mo} {ps:List (Pr×PrD)} (hm:MoF m mo ps) (ho:N6 mo) {vb:ByteArray->Nat} (hvb:∀w,vb w<4294967296) {fid idf:Nat} {caps:List D}:∀ (n k:Nat),k<mo.tree.length->mo.tree.length-k<n->a0F (nd mo.tree k).kind ->
 ∀ (s:k4) (f:Ft),s.get idf=some (.cells f.row)->f.Ok->(∀s',Fr [idf] s s'->∀w,Ev vfs fid (.str w::caps) s' (.int .u32 (vb w:Int)) s') ->
 EvP vfs 65 [.agg (N7 m),.int .i64 (k:Int),.ptr idf 0,.fn fid caps] s fun r s'=>r=.tup []/\s'.get idf=some (.cells (Z7 mo.tree (mo.chans.map Ch.name) vb n k f).row)/\Fr [idf] s s'/\(Z7 mo.tree (mo.chans.map Ch.name) vb n k f).Ok
 | 0,k,_,h,_=>by omega
 | n+1,k,hk,hn,hex=>by
   intro s f hf hfo hv
   have om:=hm.ones
   have hle:=ho.tree.le
   have hno:=ho.tree.node k hk
   have hidx:=hm.tr.at (z:=(k:Int)) (by omega) (by omega) (k:=.i64)
   rw [Int.toNat_natCast] at hidx
   have on:=a0U hm.tr hk
   have hfl:=M7 hf
   have hw:=a23 hm.tr hk (i:=0)
   have n0:=a22 hm.tr hk (i:=0)
   have z0:((0:Nat):Int)=0:=rfl
   rw [hno.wl,z0] at hw
   rw [hno.nl,z0] at n0
   have hkk:=FI.len (hm.tr.nd hk).k
   show EvP _ _ _ _ fun r s'=>r=.tup []/\s'.get idf=some (.cells ((nd mo.tree k).ks.foldl (fun f c=>Z7 mo.tree (mo.chans.map Ch.name) vb n c f) (W4 (mo.chans.map Ch.name) vb (nd mo.tree k) f)).row)/\Fr [idf] s s'/\((nd mo.tree k).ks.foldl (fun f c=>Z7 mo.tree (mo.chans.map Ch.name) vb n c f) (W4 (mo.chans.map Ch.name) vb (nd mo.tree k) f)).Ok
   have hr1:=c5D (x:=nd mo.tree k) hfo (ch:=mo.chans.map Ch.name) (by simpa using ho.nc) hvb
   unfold N7
   refine M8 (vf:=a9j) rfl ?_
   unfold a9j;refine zE ?_
   try refine zW (aN om (aN hidx on)) ?_
   have fr2:Fr [] s (((s.push (.cells [m.dt,.int .i64 m.g,m.dc,m.dv,m.dp,m.ds,.bool m.b])).push (.cells [.int .i64 0,.nils,.nils,.nils,.int .i64 0])).set (s.next+1) (some (.cells [.int .i64 (nd mo.tree k).kind,(nd mo.tree k).dw,(nd mo.tree k).dn,(nd mo.tree k).dk,.int .i64 (nd mo.tree k).pos]))):=((Fr.push _).thenPush _).thenSet _ (.inr (by omega))
   have b2:(((s.push (.cells [m.dt,.int .i64 m.g,m.dc,m.dv,m.dp,m.ds,.bool m.b])).push (.cells [.int .i64 0,.nils,.nils,.nils,.int .i64 0])).set (s.next+1) (some (.cells [.int .i64 (nd mo.tree k).kind,(nd mo.tree k).dw,(nd mo.tree k).dn,(nd mo.tree k).dk,.int .i64 (nd mo.tree k).pos]))).get s.next=some (.cells [m.dt,.int .i64 m.g,m.dc,m.dv,m.dp,m.ds,.bool m.b]):=by (simp (disch:=(first|with_reducible assumption|omega|((repeat (first|rw [nP]|rw [nS]))<;>omega)|fail)) only [T0,P1,O7,S0,k4.next_push,k4.next_set])
   have c2:(((s.push (.cells [m.dt,.int .i64 m.g,m.dc,m.dv,m.dp,m.ds,.bool m.b])).push (.cells [.int .i64 0,.nils,.nils,.nils,.int .i64 0])).set (s.next+1) (some (.cells [.int .i64 (nd mo.tree k).kind,(nd mo.tree k).dw,(nd mo.tree k).dn,(nd mo.tree k).dk,.int .i64 (nd mo.tree k).pos]))).get (s.next+1)=some (.cells [.int .i64 (nd mo.tree k).kind,(nd mo.tree k).dw,(nd mo.tree k).dn,(nd mo.tree k).dk,.int .i64 (nd mo.tree k).pos]):=by (simp (disch:=(first|with_reducible assumption|omega|((repeat (first|rw [nP]|rw [nS]))<;>omega)|fail)) only [T0,P1,O7,S0,k4.next_push,k4.next_set])
   have f2:=(fr2.2 idf hfl (by simp)).trans hf
   unfold Ft.row at f2
   generalize (((s.push (.cells [m.dt,.int .i64 m.g,m.dc,m.dv,m.dp,m.ds,.bool m.b])).push (.cells [.int .i64 0,.nils,.nils,.nils,.int .i64 0])).set (s.next+1) (some (.cells [.int .i64 (nd mo.tree k).kind,(nd mo.tree k).dw,(nd mo.tree k).dn,(nd mo.tree k).dk,.int .i64 (nd mo.tree k).pos])))=s2 at *
   have l2:=M7 c2
   have l2':=M7 f2
   have hv2:=hv s2 (fr2.weaken (by simp))
   refine a3N (P:=fun env s'=>s'.get idf=some (.cells (W4 (mo.chans.map Ch.name) vb (nd mo.tree k) f).row)/\Fr [idf] s s'/\s'.get s.next=some (.cells [m.dt,.int .i64 m.g,m.dc,m.dv,m.dp,m.ds,.bool m.b])/\s'.get (s.next+1)=some (.cells [.int .i64 (nd mo.tree k).kind,(nd mo.tree k).dw,(nd mo.tree k).dn,(nd mo.tree k).dk,.int .i64 (nd mo.tree k).pos])/\(env.get 2=.ptr idf 0/\env.get 3=.fn fid caps/\env.get 4=.ptr s.next 0/\env.get 8=.ptr (s.next+1) 0)) ?_ ?_
   ·by_cases q18:(nd mo.tree k).kind=18
    ·have q18':((nd mo.tree k).kind==18)=true:=by rw [q18];rfl
     rw [q18] at hw
     have hw:=hw (by decide)
     have hcl:=hv2 ((nd mo.tree k).word 0)
     have hor:=a5E hfo.r (hvb ((nd mo.tree k).word 0))
     have e:W4 (mo.chans.map Ch.name) vb (nd mo.tree k) f={ f with reads:=f.reads ||| vb ((nd mo.tree k).word 0) }:=by unfold W4;rw [if_pos q18]
     rw [e]
     repeat first
     |((with_reducible apply c4c);(focus rfl);(focus exact hcl))
     |refine zW (aN f2 (aN c2 (aN on (aN q18' (aN hw hor))))) ?_
     refine ⟨trivial,?_,?_,?_,?_,by simp [Env.get,P2.at]⟩
     ·rw [S0 l2'];rfl
     ·exact (fr2.weaken (by simp)).thenSet _ (.inl (by simp))
     ·rw [O7 (by omega),b2]
     ·rw [O7 (by omega),c2]
    have q18':((nd mo.tree k).kind==18)=false:=by rw [beq_eq_false_iff_ne];exact q18
    by_cases q19:(nd mo.tree k).kind=19
    ·have q19':((nd mo.tree k).kind==19)=true:=by rw [q19];rfl
     rw [q19] at hw
     have hw:=hw (by decide)
     have e:W4 (mo.chans.map Ch.name) vb (nd mo.tree k) f={ f with sizes:=f.sizes ||| chB (mo.chans.map Ch.name) ((nd mo.tree k).word 0) }:=by unfold W4;rw [if_neg q18,if_pos q19]
     have hlc:=hm.lenC
     have hnc:=ho.nc
     try refine zW (aN f2 (aN b2 (aN c2 (aN on (aN om (aN q18' (aN q19' hlc))))))) ?_
     refine a3N (P:=fun env s'=>s'.get idf=some (.cells (W4 (mo.chans.map Ch.name) vb (nd mo.tree k) f).row)/\Fr [idf] s s'/\s'.get s.next=some (.cells [m.dt,.int .i64 m.g,m.dc,m.dv,m.dp,m.ds,.bool m.b])/\s'.get (s.next+1)=some (.cells [.int .i64 (nd mo.tree k).kind,(nd mo.tree k).dw,(nd mo.tree k).dn,(nd mo.tree k).dk,.int .i64 (nd mo.tree k).pos])/\(env.get 2=.ptr idf 0/\env.get 3=.fn fid caps/\env.get 4=.ptr s.next 0/\env.get 8=.ptr (s.next+1) 0)) ?_ ?_
     rotate_left
     ·rintro env s' ⟨a1,a2,a3,a4,a5⟩
      exact ⟨rfl,a1,a2,a3,a4,a5⟩
     refine W0 (Q:=N5 1 _) (fun n env s'=>∃i:Nat,i<=mo.chans.length/\n=mo.chans.length-i/\Fr [] s2 s'/\(∀j (hj:j<mo.chans.length),j<i->mo.chans[j].name≠(nd mo.tree k).word 0)/\(env.get 2=.ptr idf 0/\env.get 3=.fn fid caps/\env.get 4=.ptr s.next 0/\env.get 8=.ptr (s.next+1) 0/\env.get 38=m.dc/\env.get 39=.int .i64 (mo.chans.length:Int)/\env.get 40=.int .i64 (i:Int))) ?_ mo.chans.length _ _ ⟨0,by omega,rfl,Fr.refl _ _,fun j _ h=>by omega,by simp [Env.get,P2.at]⟩
     rintro n env s' ⟨i,hi,rfl,fr3,hall,hE⟩
     have f3:=(fr3.2 idf l2' (by simp)).trans f2
     have b3:=(fr3.2 s.next (by omega) (by simp)).trans b2
     have c3:=(fr3.2 (s.next+1) l2 (by simp)).trans c2
     have l3:=M7 c3
     have l3':=M7 f3
     by_cases ci:i<mo.chans.length
     ·have ci':((i:Int)<(mo.chans.length:Int))=True:=eq_true (by omega)
      have hs1:IntKind.i64.wrap ((i:Int)+1)=((i+1:Nat):Int):=by rw [O8 (by omega) (by omega)];omega
      have hci:=FLC.idx hm.c ci (k:=.i64)
      unfold Ch.row at hci
      have fr4:∀z o,Fr [] s' ((s'.push z).set s'.next (some o)):=fun z o=>(Fr.push _).thenSet _ (.inr (Nat.le_refl _))
      by_cases ce:mo.chans[i].name=(nd mo.tree k).word 0
      ·have ce':decide (mo.chans[i].name=(nd mo.tree k).word 0)=true:=by simp [ce]
       have hb:=a4X (n:=(i:Int)) (by omega)
       have eb:chB (mo.chans.map Ch.name) ((nd mo.tree k).word 0)=a0j (i:Int):=by
        unfold chB
        have hil:i<(mo.chans.map Ch.name).length:=by simpa using ci
        rw [a4k hil (by simpa using ce) (fun j hj hji=>by simpa using hall j (by simpa using hj) hji),if_pos hil,a3z]
       have hor:=a5E hfo.z (a6A (n:=(i:Int)) (by omega))
       rw [e,eb]
       repeat first
       |(apply M6 hb rfl;(focus (simp only [Env.evL,Env.ev,Env.get,Nat.reduceEqDiff,↓reduceIte,hE]));(focus rfl))
       |refine zW (aN hE (aN f3 (aN c3 (aN on (aN ci' (aN hci (aN ce' (aN hw hor)))))))) ?_
       have fr5:=(fr4 (.cells [.str (bs []),.int .i64 0,.int .i64 0,.bool false,.bool false]) (.cells [.str mo.chans[i].name,.int .i64 mo.chans[i].room,.int .i64 mo.chans[i].width,.bool mo.chans[i].lossy,.bool mo.chans[i].copying]))
       refine ⟨trivial,?_,?_,?_,?_,by simp [Env.get,hE]⟩
       ·rw [S0 (Nat.lt_of_lt_of_le l3' fr5.1)];rfl
       ·exact (((fr2.trans fr3 (by simp)).trans fr5 (by simp)).weaken (by simp)).thenSet _ (.inl (by simp))
       ·rw [O7 (by omega),fr5.2 _ (by omega) (by simp),b3]
       ·rw [O7 (by omega),fr5.2 _ (by omega) (by simp),c3]
      ·have ce':decide (mo.chans[i].name=(nd mo.tree k).word 0)=false:=by simp [ce]
       try refine zW (aN hE (aN f3 (aN c3 (aN on (aN ci' (aN hci (aN ce' (aN hw hs1)))))))) ?_
       refine ⟨mo.chans.length-(i+1),by omega,i+1,by omega,rfl,fr3.trans (fr4 _ _) (by simp),fun j hj hji=>?_,(rG hE)⟩
       by_cases ej:j=i
       ·subst ej;exact ce
       ·exact hall j hj (by omega)
     ·have ci':((i:Int)<(mo.chans.length:Int))=False:=eq_false (by omega)
      have eb:chB (mo.chans.map Ch.name) ((nd mo.tree k).word 0)=0:=by
       unfold chB
       rw [if_neg (a34 fun j hj=>by simpa using hall j (by simpa using hj) (by simp at hj;omega))]
      rw [e,eb,Nat.or_zero]
      try refine zW (aN hE ci') ?_
      exact ⟨trivial,f3,(fr2.trans fr3 (by simp)).weaken (by simp),b3,c3,(rG hE)⟩
    have q19':((nd mo.tree k).kind==19)=false:=by rw [beq_eq_false_iff_ne];exact q19
    by_cases q22:(nd mo.tree k).kind=22
    ·have q22':((nd mo.tree k).kind==22)=true:=by rw [q22];rfl
     rw [q22] at n0
     have n0:=n0 (by decide)
     by_cases q7:(nd mo.tree k).num 0=7
     ·have q7':((nd mo.tree k).num 0==7)=true:=by rw [q7];rfl
      have e:W4 (mo.chans.map Ch.name) vb (nd mo.tree k) f={ f with part:=true }:=by unfold W4;rw [if_neg q18,if_neg q19,if_pos ⟨q22,.inl q7⟩]
      rw [e]
      try refine zW (aN f2 (aN c2 (aN on (aN q18' (aN q19' (aN q22' (aN n0 q7'))))))) ?_
      refine ⟨trivial,?_,?_,?_,?_,by simp [Env.get,P2.at]⟩
      ·rw [S0 l2'];rfl
      ·exact (fr2.weaken (by simp)).thenSet _ (.inl (by simp))
      ·rw [O7 (by omega),b2]
      ·rw [O7 (by omega),c2]
     have q7':((nd mo.tree k).num 0==7)=false:=by rw [beq_eq_false_iff_ne];exact q7
     by_cases q8:(nd mo.tree k).num 0=8
     ·have q8':((nd mo.tree k).num 0==8)=true:=by rw [q8];rfl
      have e:W4 (mo.chans.map Ch.name) vb (nd mo.tree k) f={ f with part:=true }:=by unfold W4;rw [if_neg q18,if_neg q19,if_pos ⟨q22,.inr q8⟩]
      rw [e]
      try refine zW (aN f2 (aN c2 (aN on (aN q18' (aN q19' (aN q22' (aN n0 (aN q7' q8')))))))) ?_
      refine ⟨trivial,?_,?_,?_,?_,by simp [Env.get,P2.at]⟩
      ·rw [S0 l2'];rfl
      ·exact (fr2.weaken (by simp)).thenSet _ (.inl (by simp))
      ·rw [O7 (by omega),b2]
      ·rw [O7 (by omega),c2]
     have q8':((nd mo.tree k).num 0==8)=false:=by rw [beq_eq_false_iff_ne];exact q8
     have e:W4 (mo.chans.map Ch.name) vb (nd mo.tree k) f=f:=by unfold W4;rw [if_neg q18,if_neg q19,if_neg (by omega)]
     rw [e]
     try refine zW (aN f2 (aN c2 (aN on (aN q18' (aN q19' (aN q22' (aN n0 (aN q7' q8')))))))) ?_
     exact ⟨trivial,f2,fr2.weaken (by simp),b2,c2,by simp [Env.get,P2.at]⟩
    have q22':((nd mo.tree k).kind==22)=false:=by rw [beq_eq_false_iff_ne];exact q22
    have e:W4 (mo.chans.map Ch.name) vb (nd mo.tree k) f=f:=by unfold W4;rw [if_neg q18,if_neg q19,if_neg (by omega)]
    rw [e]
    try refine zW (aN f2 (aN c2 (aN on (aN q18' (aN q19' q22'))))) ?_
    exact ⟨trivial,f2,fr2.weaken (by simp),b2,c2,by simp [Env.get,P2.at]⟩
   clear f2 c2 b2 l2 l2' fr2 hv2
   clear s2
   rintro env s2 ⟨f2,fr2,b2,c2,hE⟩
   obtain ⟨hkl,hkx⟩:=a5L hno hex
   simp only [P6]
   try refine zW (aN hE (aN c2 (aN on hkk))) ?_
   generalize W4 (mo.chans.map Ch.name) vb (nd mo.tree k) f=f1 at *
   refine W0 (Q:=N5 3 _) (fun j env s'=>∃i:Nat,i<=(nd mo.tree k).kids.length/\j=(nd mo.tree k).kids.length-i/\s'.get idf=some (.cells (((nd mo.tree k).ks.take i).foldl (fun f c=>Z7 mo.tree (mo.chans.map Ch.name) vb n c f) f1).row)/\Fr [idf] s s'/\(((nd mo.tree k).ks.take i).foldl (fun f c=>Z7 mo.tree (mo.chans.map Ch.name) vb n c f) f1).Ok/\s'.get s.next=some (.cells [m.dt,.int .i64 m.g,m.dc,m.dv,m.dp,m.ds,.bool m.b])/\s.next≠idf/\(env.get 2=.ptr idf 0/\env.get 3=.fn fid caps/\env.get 4=.ptr s.next 0/\env.get 80=(nd mo.tree k).dk/\env.get 81=.int .i64 ((nd mo.tree k).kids.length:Int)/\env.get 82=.int .i64 (i:Int))) ?_ (nd mo.tree k).kids.length _ _ ⟨0,by omega,rfl,f2,fr2,hr1,b2,by omega,by simp [Env.get,hE]⟩
   clear hE b2 c2 f2 fr2
   rintro j env s' ⟨i,hi,rfl,f2,fr2,ho2,b2,hne,hE⟩
   have lb:=M7 b2
   by_cases c1:i<(nd mo.tree k).kids.length
   ·have c1':((i:Int)<((nd mo.tree k).kids.length:Int))=True:=eq_true (by omega)
    have hs1:IntKind.i64.wrap ((i:Int)+1)=((i+1:Nat):Int):=by rw [O8 (by omega) (by omega)];omega
    have hki:=a0K hm.tr ho.tree hk c1
    have hkm:=X0 c1
    have hkt:=b1d c1
    have hck:=ho.tree.ks hk _ hkm
    have hcx:=hkx i c1
    generalize (nd mo.tree k).kid i=K at *
    have hcal:=b2V hm ho hvb n K hck.2 (by omega) hcx s' _ f2 ho2 (fun s3 h3=>hv s3 (fr2.trans h3 (by simp)))
    unfold N7 at hcal
    try refine zW (aN hE (aN c1' (aN hki (aN b2 om)))) ?_
    apply V6 hcal
    ·simp only [Env.evL,Env.ev,Env.get,Nat.reduceEqDiff,↓reduceIte,hE]
    rintro r s3 ⟨rfl,f3,fr3,o3⟩
    have b3:=(fr3.2 s.next lb (by simpa using hne)).trans b2
    try refine zW (aN hE hs1) ?_
    refine ⟨(nd mo.tree k).kids.length-(i+1),by omega,i+1,by omega,rfl,?_,fr2.trans fr3 (by simp),?_,b3,hne,(rG hE)⟩
    ·rw [hkt,List.foldl_append];exact f3
    ·rw [hkt,List.foldl_append];exact o3
   ·have c1':((i:Int)<((nd mo.tree k).kids.length:Int))=False:=eq_false (by omega)
    obtain rfl:i=(nd mo.tree k).kids.length:=by omega
    have hall:(nd mo.tree k).ks.take (nd mo.tree k).kids.length=(nd mo.tree k).ks:=by rw [<- a0T,List.take_length]
    rw [hall] at f2 ho2
    try refine zW (aN hE c1') ?_
    exact ⟨.inl trivial,_,rfl,rfl,f2,fr2,ho2⟩
end Go.Proofs.YtnjlhebkhjcagaaGreat
namespace Go.Proofs.YtnjlhebkhjcagaaGreat
open Go.V
set_option maxRecDepth 100000
set_option maxHeartbeats 4000000
theorem b7L {m:MdX} {mo:Mo} {ps:List (Pr×PrD)} (hm:MoF m mo ps) (ho:N6 mo) {p i:Nat} (hp:p<mo.procs.length) (hi:i<mo.procs[p].edges.length) :
 Iso 41 [.agg (N7 m),.int .i64 (p:Int),.int .i64 (i:Int)] (.tup [.agg (O4 mo mo.procs[p] mo.procs[p].edges[i]).row,.bool true])/\(O4 mo mo.procs[p] mo.procs[p].edges[i]).Ok:=by
 suffices h:EvP vfs 41 [.agg (N7 m),.int .i64 (p:Int),.int .i64 (i:Int)] k4.empty fun r _=>r=.tup [.agg (O4 mo mo.procs[p] mo.procs[p].edges[i]).row,.bool true]/\(O4 mo mo.procs[p] mo.procs[p].edges[i]).Ok by
  obtain ⟨r,s,h1,rfl,h2⟩:=h
  exact ⟨⟨s,h1⟩,h2⟩
 have om:=hm.ones
 have hnv:=ho.nv
 have hpo:=ho.pr _ (List.getElem_mem hp)
 obtain ⟨x,hx,hxi⟩:=hm.proc hp
 have hxi:=hxi .i64
 have hlp:=hm.lenP
 have ox:=hx.ones
 have hle:=hx.lenE
 have hei:=FLE.idx hx.e hi (k:=.i64)
 have heo:=hpo.inv.ed _ (List.getElem_mem hi)
 generalize mo.procs[p].edges[i]=e at *
 have p1:((p:Int)<0)=False:=eq_false (by omega)
 have p2:((mo.procs.length:Int)<=(p:Int))=False:=eq_false (by omega)
 have i1:((i:Int)<0)=False:=eq_false (by omega)
 have i2:((mo.procs[p].edges.length:Int)<=(i:Int))=False:=eq_false (by omega)
 generalize mo.procs[p]=P at *
 have hvb:∀w,a0W P.names P.vars w<4294967296:=fun w=>by
  unfold a0W
  split
  ·rename_i hw
   rw [hpo.same] at hw
   refine a5e ?_
   have:=hpo.var _ (List.getElem_mem hw)
   simp only [List.getD,List.getElem?_eq_getElem hw,Option.getD_some]
   omega
  ·decide
 have hx':=hx
 unfold M4 at hxi
 unfold Ed.row at hei
 unfold N7
 generalize hf1:(if 0<=e.expr then Z7 mo.tree (mo.chans.map Ch.name) (a0W P.names P.vars) (mo.tree.length+1) e.expr.toNat ⟨0,0,0,0,0,false⟩ else ⟨0,0,0,0,0,false⟩)=f1
 have hE:O4 mo P e=(if e.act=1 then { f1 with writes:=a0j e.var } else if e.act=2 then { f1 with sends:=a0j e.chan } else if e.act=3 then { f1 with writes:=a0j e.var,recvs:=a0j e.chan } else f1):=by unfold O4;rw [hf1]
 rw [hE]
 refine M8 (vf:=a8p) rfl ?_
 unfold a8p;refine zE ?_
 try refine zW (aN om (aN hlp (aN hxi (aN ox (aN hle (aN p1 (aN p2 (aN i1 (aN i2 hei))))))))) ?_
 simp only [P2.at,k4.next_push,k4.next_set,b2T,Nat.reduceAdd]
 refine c0C (Φ:=fun s=>s.get 0=some (.cells [m.dt,.int .i64 m.g,m.dc,m.dv,m.dp,m.ds,.bool m.b])/\s.get 1=some (.cells [.int .u32 0,.int .u32 0,.int .u32 0,.int .u32 0,.int .u32 0,.bool false])/\s.get 2=some (.cells [.str P.name,.int .i64 (P.copy:Int),x.dl,.int .i64 (P.places:Int),x.dr,x.de,x.dn,x.dv])/\s.get 3=some (.cells [.int .i64 (e.frm:Int),.int .i64 (e.to:Int),.int .i64 (e.act:Int),.int .i64 e.expr,.int .i64 e.var,.int .i64 e.chan,.bool e.keep,.int .i64 (e.node:Int)])/\s.get 4=some (.cells [.int .u32 0,.int .u32 0,.int .u32 0,.int .u32 0,.int .u32 0,.bool false])) ?_ ?_
 ·have ne:=b2T
  refine ⟨?_,?_,?_,?_,?_⟩<;>(simp (disch:=(first|with_reducible assumption|omega|((repeat (first|rw [nP]|rw [nS]))<;>omega)|fail)) only [T0,P1,O7,S0,k4.next_push,k4.next_set])
 rintro s ⟨g0,g1,g2,g3,g4⟩
 have l0:=M7 g0
 have l1:=M7 g1
 have l2:=M7 g2
 have l3:=M7 g3
 have l4:=M7 g4
 refine WP.mono (Q:=fun e' env s=>e'=.normal/\s.get 4=some (.cells f1.row)/\f1.Ok/\s.get 1=some (.cells [.int .u32 0,.int .u32 0,.int .u32 0,.int .u32 0,.int .u32 0,.bool false])/\s.get 3=some (.cells [.int .i64 (e.frm:Int),.int .i64 (e.to:Int),.int .i64 (e.act:Int),.int .i64 e.expr,.int .i64 e.var,.int .i64 e.chan,.bool e.keep,.int .i64 (e.node:Int)])/\(env.get 6=.ptr 1 0/\env.get 9=.ptr 3 0/\env.get 10=.ptr 4 0)) ?_ ?_
 ·by_cases ce:0<=e.expr
  ·have ce':((0:Int)<=e.expr)=True:=eq_true ce
   have ha:=heo.act
   have hac:e.act=1∨e.act=2∨e.act=4∨e.act=5:=by
    have h0:=heo.ex0
    omega
   obtain ⟨k,hk,hkl,hkx⟩:=heo.ex1 hac
   rw [if_pos ce,hk,Int.toNat_natCast] at hf1
   subst hf1
   have hcl:∀s',Fr [4] s s'->∀w,Ev vfs 66 (.str w::[.ptr 2 0]) s' (.int .u32 (a0W P.names P.vars w:Int)) s':=fun s' hf w =>
    c0r hx (by rw [hf.2 2 l2 (by simp),g2];rfl) hpo.same (fun v hv=>by have:=hpo.var v hv;omega) (by
     have:=hpo.nl
     omega)
   have hcal:=b2V hm ho hvb (mo.tree.length+1) k hkl (by omega) hkx s ⟨0,0,0,0,0,false⟩ g4 b5o hcl
   rw [<- hk] at hcal
   unfold N7 at hcal
   try refine zW (aN ce' (aN g0 (aN g3 om))) ?_
   apply V6 hcal
   ·rfl
   rintro r s' ⟨rfl,f3,fr3,o3⟩
   try refine zW0 ?_
   exact ⟨trivial,f3,o3,by rw [fr3.2 1 l1 (by simp),g1],by rw [fr3.2 3 l3 (by simp),g3,hk],by simp [Env.get]⟩
  ·have ce':((0:Int)<=e.expr)=False:=eq_false ce
   rw [if_neg ce] at hf1
   subst hf1
   try refine zW ce' ?_
   exact ⟨trivial,g4,b5o,g1,g3,by simp [Env.get]⟩
 clear g0 g1 g2 g3 g4 l0 l1 l2 l3 l4
 rintro e' env s ⟨rfl,g4,hfo,g1,g3,hEn⟩
 have l1:=M7 g1
 have l4:=M7 g4
 unfold Ft.row at g4
 simp only [P6]
 have hvar:e.act=1∨e.act=3->e.var<32:=fun h=>by
  obtain ⟨n,hn,e1⟩:=heo.v1 h
  have:=hpo.var n hn
  omega
 have hcha:e.act=2∨e.act=3->e.chan<32:=fun h=>by
  obtain ⟨n,e1,hn⟩:=heo.c1 h
  have:=ho.nc
  omega
 by_cases a1:e.act=1
 ·have a1':((e.act:Int)==1)=true:=by rw [a1];rfl
  have hb:=a4X (hvar (.inl a1))
  have hbl:=a6A (hvar (.inl a1))
  rw [if_pos a1]
  repeat first
  |(apply M6 hb rfl;(focus (simp only [Env.evL,Env.ev,Env.get,Nat.reduceEqDiff,↓reduceIte,hEn]));(focus rfl))
  |refine zW (aN hEn (aN g3 (aN g4 (aN g1 a1')))) ?_
  refine ⟨.inr trivial,_,?_,rfl,⟨hfo.r,hbl,hfo.s,hfo.v,hfo.z⟩⟩
  ·simp only [V2,V5,W7,Env.get,Nat.reduceEqDiff,↓reduceIte,hEn,S0 (i:=1) (s:=s.set 4 _) (by simp only [k4.next_set];exact l1)]
   rfl
 have a1':((e.act:Int)==1)=false:=by rw [beq_eq_false_iff_ne];omega
 rw [if_neg a1]
 by_cases a2:e.act=2
 ·have a2':((e.act:Int)==2)=true:=by rw [a2];rfl
  have hb:=a4X (hcha (.inl a2))
  have hbl:=a6A (hcha (.inl a2))
  rw [if_pos a2]
  repeat first
  |(apply M6 hb rfl;(focus (simp only [Env.evL,Env.ev,Env.get,Nat.reduceEqDiff,↓reduceIte,hEn]));(focus rfl))
  |refine zW (aN hEn (aN g3 (aN g4 (aN g1 (aN a1' a2'))))) ?_
  refine ⟨.inr trivial,_,?_,rfl,⟨hfo.r,hfo.w,hbl,hfo.v,hfo.z⟩⟩
  ·simp only [V2,V5,W7,Env.get,Nat.reduceEqDiff,↓reduceIte,hEn,S0 (i:=1) (s:=s.set 4 _) (by simp only [k4.next_set];exact l1)]
   rfl
 have a2':((e.act:Int)==2)=false:=by rw [beq_eq_false_iff_ne];omega
 rw [if_neg a2]
 by_cases a3:e.act=3
 ·have a3':((e.act:Int)==3)=true:=by rw [a3];rfl
  have hb:=a4X (hvar (.inr a3))
  have hbl:=a6A (hvar (.inr a3))
  have hb2:=a4X (hcha (.inr a3))
  have hbl2:=a6A (hcha (.inr a3))
  rw [if_pos a3]
  repeat first
  |(apply M6 hb rfl;(focus (simp only [Env.evL,Env.ev,Env.get,Nat.reduceEqDiff,↓reduceIte,hEn]));(focus rfl))
  |(apply M6 hb2 rfl;(focus (simp only [Env.evL,Env.ev,Env.get,Nat.reduceEqDiff,↓reduceIte,hEn]));(focus rfl))
  |refine zW (aN hEn (aN g3 (aN g4 (aN g1 (aN a1' (aN a2' a3')))))) ?_
  refine ⟨.inr trivial,_,?_,rfl,⟨hfo.r,hbl,hfo.s,hbl2,hfo.z⟩⟩
  ·simp only [V2,V5,W7,Env.get,Nat.reduceEqDiff,↓reduceIte,hEn,S0 (i:=1) (s:=(s.set 4 _).set 4 _) (by simp only [k4.next_set];exact l1)]
   rfl
 have a3':((e.act:Int)==3)=false:=by rw [beq_eq_false_iff_ne];omega
 rw [if_neg a3]
 try refine zW (aN hEn (aN g3 (aN g4 (aN g1 (aN a1' (aN a2' a3')))))) ?_
 refine ⟨.inr trivial,_,?_,rfl,hfo⟩
 simp only [V2,V5,W7,Env.get,Nat.reduceEqDiff,↓reduceIte,hEn,S0 (i:=1) (s:=s) l1]
 rfl
end Go.Proofs.YtnjlhebkhjcagaaGreat
namespace Go.Proofs.YtnjlhebkhjcagaaGreat
open Go.V
set_option maxRecDepth 100000
theorem b3G:∃s',Ev vfs 11 [] k4.empty (.bool true) s':=b8s (n:=400) (by kernel_rfl)
end Go.Proofs.YtnjlhebkhjcagaaGreat
namespace Go.V
variable {fs:FuncId->Option M5}
def a1U (fs:FuncId->Option M5) (f:FuncId) (args:List D) (d:D):Prop:=∃r s1,Ev fs f args k4.empty r s1/\ice s1.get 20 r=some d
theorem a1U.det {f:FuncId} {args:List D} {d d':D} (h:a1U fs f args d) (k:a1U fs f args d'):d=d':=by
 obtain ⟨r,s1,h1,h2⟩:=h
 obtain ⟨r',s1',k1,k2⟩:=k
 obtain ⟨rfl,rfl⟩:=h1.det k1
 rw [h2] at k2
 exact Option.some.inj k2
def PZ (d:D):Prop:=W2 d=true/\Fz d
theorem a38 {k:IntKind} {n:Int}:PZ (.int k n):=⟨rfl,M1⟩
theorem FL.pz {sz:Nat} {d:D} {rows:List (List D)} (h:FL sz d rows):PZ d:=⟨h.pure,h.fz⟩
theorem a4x {l:List D} (h:∀d∈l,W2 d=true/\∀g n,ice g (n+2) d=some d):PZ (.agg l):=⟨by
 show pureL l=true
 induction l with
 | nil=>rfl
 | cons a r ih=>simp only [pureL,(h a (by simp)).1,Bool.true_and];exact ih fun d hd=>h d (by simp [hd]),a5M fun d hd=>(h d hd).2⟩
def End (Q:Y1->Env->k4->Prop) (e:Y1) (env:Env) (s:k4):Prop:=Q e env s
def RgK (vars:List Nat) (Q:Y1->Env->k4->Prop) (env:Env) (s:k4):Prop:=End Q .normal (env.keep vars) s
abbrev Kt:=Env->k4->Prop
abbrev Ops:=List (Nat×P3)
abbrev Prs:=List (Nat×Nat)
def b0H (pairs:Prs) (ops:Ops):Bool:=ops.all fun o=>pairs.all fun p=>p.2 != o.1
def XQ (fs:FuncId->Option M5):Prs->Ops->Env->k4->Kt->Prop
 | _,[],env,s,K=>K env s
 | pairs,(i,⟨dst,op,g⟩)::rest,env,s,K =>
   let run:Prop:=match dst,op with
    | some t,.p o=>match evP env o with
      | some d=>XQ fs pairs rest ((t,d)::env) s K
      | none=>False
    | some t,.r o=>match evR env s.get o with
      | some d=>XQ fs pairs rest ((t,d)::env) s K
      | none=>False
    | some t,.a o=>match pairs with
      | []=>match evA env o with
        | some (ob,m)=>XQ fs [] rest ((t,m.at s.next)::env) (s.push ob) K
        | none=>False
      | p::ps=>if b0H (p::ps) ((i,⟨some t,.a o,none⟩)::rest)=true then (match evA env o with
        | some (ob,m)=>XQ fs [] rest ((t,m.at s.next)::env) (s.push ob) K
        | none=>False) else WQ fs (p::ps) ((i,⟨some t,.a o,none⟩)::rest) env s K
    | none,.w n a v=>match pairs with
      | []=>match evW env s.get n a v with
        | some (id,ob)=>XQ fs [] rest env (s.set id (some ob)) K
        | none=>False
      | p::ps=>if b0H (p::ps) ((i,⟨none,.w n a v,none⟩)::rest)=true then (match evW env s.get n a v with
        | some (id,ob)=>XQ fs [] rest env (s.set id (some ob)) K
        | none=>False) else WQ fs (p::ps) ((i,⟨none,.w n a v,none⟩)::rest) env s K
    | some t,.m o=>match o,pairs with
      | .call .iso (.cst (.fn f [])) args,pairs=>match N2 (ice s.get 20) (env.evL args) with
        | some l=>∃d,a1U fs f l d/\(a0q d||pureL (env.evL args))=true/\XQ fs pairs rest ((t,d)::env) s K
        | none=>False
      | .append sz bytes a x,[]=>match U8 sz bytes (env.ev a) (env.ev x) s with
        | some (d,s')=>XQ fs [] rest ((t,d)::env) s' K
        | none=>False
      | .append sz bytes a x,p::ps=>if b0H (p::ps) ((i,⟨some t,.m (.append sz bytes a x),none⟩)::rest)=true then (match U8 sz bytes (env.ev a) (env.ev x) s with
        | some (d,s')=>XQ fs [] rest ((t,d)::env) s' K
        | none=>False) else WQ fs (p::ps) ((i,⟨some t,.m (.append sz bytes a x),none⟩)::rest) env s K
      | o,pairs=>WQ fs pairs ((i,⟨some t,.m o,none⟩)::rest) env s K
    | dst,op=>WQ fs pairs ((i,⟨dst,op,none⟩)::rest) env s K
   match g with
   | none=>run
   | some (r,b)=>Way (env.get r) b run (XQ fs pairs rest (env.put dst (.tup [])) s K)
def BP (r:Option D) (fs:FuncId->Option M5) (pairs:Prs) (t:Nat) (rest:Ops) (env:Env) (s:k4) (K:Kt):Prop:=match r with
 | some d=>XQ fs pairs rest ((t,d)::env) s K
 | none=>False
def BA (r:Option (O1×P2)) (fs:FuncId->Option M5) (t:Nat) (rest:Ops) (env:Env) (s:k4) (K:Kt):Prop:=match r with
 | some (ob,m)=>XQ fs [] rest ((t,m.at s.next)::env) (s.push ob) K
 | none=>False
def BW (r:Option (Nat×O1)) (fs:FuncId->Option M5) (rest:Ops) (env:Env) (s:k4) (K:Kt):Prop:=match r with
 | some (id,ob)=>XQ fs [] rest env (s.set id (some ob)) K
 | none=>False
def BM (r:Option (D×k4)) (fs:FuncId->Option M5) (t:Nat) (rest:Ops) (env:Env) (K:Kt):Prop:=match r with
 | some (d,s)=>XQ fs [] rest ((t,d)::env) s K
 | none=>False
def BC (fs:FuncId->Option M5) (f:FuncId) (l:List D) (p:Bool) (pairs:Prs) (t:Nat) (rest:Ops) (env:Env) (s:k4) (K:Kt):Prop:=∃d,a1U fs f l d/\(a0q d||p)=true/\XQ fs pairs rest ((t,d)::env) s K
def BL (r:Option (List D)) (p:Bool) (fs:FuncId->Option M5) (f:FuncId) (pairs:Prs) (t:Nat) (rest:Ops) (env:Env) (s:k4) (K:Kt):Prop:=match r with
 | some l=>BC fs f l p pairs t rest env s K
 | none=>False
def BF (b:Bool) (d:D) (fs:FuncId->Option M5) (pairs:Prs) (t:Nat) (rest:Ops) (env:Env) (s:k4) (K:Kt):Prop:=match b with
 | true=>XQ fs pairs rest ((t,d)::env) s K
 | false=>False
def GW (d:D) (b:Bool) (fs:FuncId->Option M5) (pairs:Prs) (x:Nat×P3) (t:Option Nat) (rest:Ops) (env:Env) (s:k4) (K:Kt):Prop:=Way d b (XQ fs pairs (x::rest) env s K) (XQ fs pairs rest (env.put t (.tup [])) s K)
def a70 (a b:Nat):Prop:=a≠b
def a1W (id:Nat):List Nat->Prop
 | []=>True
 | x::r=>a70 id x/\a1W id r
theorem a7i {id:Nat}:∀ {l:List Nat},a1W id l->id∉l
 | [],_=>by simp
 | x::r,h=>by
   have:=a7i h.2
   have h1:id≠x:=h.1
   simp [h1,this]
def a2d:Prs->Nat->Nat->Bool
 | [],_,_=>false
 | (a,b)::r,i,j=>match Nat.beq a i with
   | true=>match Nat.beq b j with
     | true=>true
     | false=>a2d r i j
   | false=>a2d r i j
theorem a7e:∀ {l:Prs} {i j:Nat},(i,j)∈l->a2d l i j=true
 | (a,b)::r,i,j,h=>by
   simp only [a2d]
   rcases List.mem_cons.1 h with h | h
   ·cases h
    have e:∀n:Nat,Nat.beq n n=true:=fun n=>Nat.beq_refl n
    rw [e,e]
   ·have ih:=a7e h
    split
    ·split
     ·rfl
     ·exact ih
    ·exact ih
def a2i (pairs:Prs) (i id:Nat):List Ent->Prop
 | []=>True
 | e::T=>(a2d pairs e.i i=true->a1W id e.eff)/\a2i pairs i id T
theorem b2g {pairs:Prs} {i id:Nat}:∀ {T:List Ent},a2i pairs i id T->∀e∈T,(e.i,i)∈pairs->id∉e.eff
 | e::T,h,x,hx,hp=>by
   rcases List.mem_cons.1 hx with rfl | hx
   ·exact a7i (h.1 (a7e hp))
   ·exact b2g h.2 x hx hp
def NeO (r:Option Nat) (id:Nat):Prop:=match r with
 | some x=>a70 x id
 | none=>True
def a3c (pairs:Prs) (i id:Nat):List Ent->Prop
 | []=>True
 | e::T=>(a2d pairs e.i i=true->NeO e.rd id/\a1W id e.eff)/\a3c pairs i id T
theorem b5E {pairs:Prs} {i id:Nat}:∀ {T:List Ent},a3c pairs i id T->∀e∈T,(e.i,i)∈pairs->e.rd≠some id/\id∉e.eff
 | e::T,h,x,hx,hp=>by
   rcases List.mem_cons.1 hx with rfl | hx
   ·obtain ⟨h1,h2⟩:=h.1 (a7e hp)
    refine ⟨fun he=>?_,a7i h2⟩
    rw [he] at h1;exact h1 rfl
   ·exact b5E h.2 x hx hp
def a1T (pairs:Prs) (i:Nat) (E:List Nat):List Ent->Prop
 | []=>True
 | e::T=>(a2d pairs e.i i=true->match e.rd with | some x=>a1W x E | none=>True)/\a1T pairs i E T
theorem b3N {pairs:Prs} {i:Nat} {E:List Nat}:∀ {T:List Ent},a1T pairs i E T->∀e∈T,(e.i,i)∈pairs->∀id,e.rd=some id->id∉E
 | e::T,h,x,hx,hp,id,hr=>by
   rcases List.mem_cons.1 hx with rfl | hx
   ·have h1:=h.1 (a7e hp)
    rw [hr] at h1
    exact a7i h1
   ·exact b3N h.2 x hx hp id hr
def XX (fs:FuncId->Option M5) (pairs:Prs):List Ent->Ops->Env->k4->Kt->Prop
 | _,[],env,s,K=>K env s
 | T,(i,⟨dst,op,g⟩)::rest,env,s,K =>
   let run:Prop:=match dst,op with
    | some t,.p o=>match evP env o with
      | some d=>XX fs pairs T rest ((t,d)::env) s K
      | none=>False
    | some t,.r (.load n x)=>match env.ev x with
      | .fp cs off=>match ldV s.get n (.fp cs off) with
        | some d=>XX fs pairs T rest ((t,d)::env) s K
        | none=>False
      | .ptr id off=>match ldV s.get n (.ptr id off) with
        | some d=>a2i pairs i id T/\XX fs pairs (⟨i,some id,[]⟩::T) rest ((t,d)::env) s K
        | none=>False
      | _=>False
    | some t,.a o=>match evA env o with
      | some (ob,m)=>XX fs pairs (⟨i,none,[s.next]⟩::T) rest ((t,m.at s.next)::env) (s.push ob) K
      | none=>False
    | none,.w n a v=>match env.ev a with
      | .ptr id _=>match evW env s.get n a v with
        | some (id',ob)=>id'=id/\a3c pairs i id T/\XX fs pairs (⟨i,some id,[id]⟩::T) rest env (s.set id (some ob)) K
        | none=>False
      | _=>False
    | some t,.m (.call .iso (.cst (.fn f [])) args)=>match N2 (ice s.get 20) (env.evL args) with
      | some l=>∃d,a1U fs f l d/\(a0q d||pureL (env.evL args))=true/\XX fs pairs T rest ((t,d)::env) s K
      | none=>False
    | some t,.m (.append sz bytes a x)=>∃d s' E,U8 sz bytes (env.ev a) (env.ev x) s=some (d,s')/\s.next<=s'.next/\(∀id,id∉E->s.get id=s'.get id)/\a1T pairs i E T/\XX fs pairs (⟨i,none,E⟩::T) rest ((t,d)::env) s' K
    | dst,op=>WX fs pairs T ((i,⟨dst,op,none⟩)::rest) env s K
   match g with
   | none=>run
   | some (r,b)=>Way (env.get r) b run (XX fs pairs T rest (env.put dst (.tup [])) s K)
theorem b8X {pairs T i t o r b rest s Q} {env:Env} {d:D} (hw:env.get r=d)
 (h:Way d b (WX fs pairs T ((i,⟨t,o,none⟩)::rest) env s Q) (WX fs pairs T rest (env.put t (.tup [])) s Q)):WX fs pairs T ((i,⟨t,o,some (r,b)⟩)::rest) env s Q:=by
 unfold Way at h
 split at h
 ·rename_i c
  by_cases hc:c=b
  ·rw [if_pos hc] at h;subst hc
   intro tr ht
   obtain ⟨n,env',s',h1,h2⟩:=h tr ht
   refine ⟨n,env',s',?_,h2⟩
   simp only [X7,a0v,hw,beq_self_eq_true] at h1 ⊢
   exact h1
  ·rw [if_neg hc] at h
   exact b2r (by simp only [a0v,hw];cases c<;>cases b<;>simp_all) h
 ·exact b2r (by simp only [a0v,hw]) h
 ·exact h.elim
theorem a21 {pairs:Prs}:∀ {T:List Ent} {ops:Ops} {env:Env} {s:k4} {K:Kt},XX fs pairs T ops env s K->WX fs pairs T ops env s K
 | T,[],env,s,K,h=>b6Y h
 | T,(i,⟨dst,op,g⟩)::rest,env,s,K,h=>by
   have key:∀ (h:XX fs pairs T ((i,⟨dst,op,none⟩)::rest) env s K),WX fs pairs T ((i,⟨dst,op,none⟩)::rest) env s K:=by
    intro h
    unfold XX at h
    simp only at h
    split at h
    ·split at h
     ·rename_i d e;exact c0J e (a21 h)
     ·exact h.elim
    ·split at h
     ·rename_i e
      split at h
      ·rename_i d e2;exact c2r e e2 (a21 h)
      ·exact h.elim
     ·rename_i e
      split at h
      ·rename_i d e2;exact b6v e e2 (b2g h.1) (a21 h.2)
      ·exact h.elim
     ·exact h.elim
    ·split at h
     ·rename_i ob m e;exact c6O e (a21 h)
     ·exact h.elim
    ·split at h
     ·rename_i e
      split at h
      ·rename_i id' ob e2
       obtain ⟨rfl,h2,h3⟩:=h
       exact b9n e e2 (b5E h2) (a21 h3)
      ·exact h.elim
     ·exact h.elim
    ·split at h
     ·rename_i l hl
      obtain ⟨d,⟨r,s1,h1,h2⟩,h3,h4⟩:=h
      exact c3f rfl hl h1 h2 h3 (a21 h4)
     ·exact h.elim
    ·obtain ⟨d,s',E,h1,h2,h3,h4,h5⟩:=h
     exact c5Q ⟨0,by simp only [evM];exact h1⟩ h3 h2 (b3N h4) (a21 h5)
    ·exact h
   cases g with
   | none=>exact key h
   | some rb =>
     obtain ⟨r,b⟩:=rb
     refine b8X (d:=env.get r) rfl ?_
     have h':Way (env.get r) b (XX fs pairs T ((i,⟨dst,op,none⟩)::rest) env s K) (XX fs pairs T rest (env.put dst (.tup [])) s K):=h
     unfold Way at h' ⊢
     split at h'
     ·rename_i c _
      split at h'
      ·rename_i hc;simp only [hc,if_true];exact key h'
      ·rename_i hc;simp only [hc,if_false];exact a21 h'
     ·exact a21 h'
     ·exact h'
def RX (fs:FuncId->Option M5) (pairs:Prs) (ops:Ops) (env:Env) (s:k4) (K:Kt):Prop:=match pairs with
 | []=>XQ fs [] ops env s K
 | p::ps=>XX fs (p::ps) [] ops env s K
def b38 (k:Env->k4->Prop) (Q:Y1->Env->k4->Prop):Y1->Env->k4->Prop
 | .normal,env,s=>k env s
 | e,env,s=>Q e env s
def YW (fs:FuncId->Option M5) (vars:List Nat):a0A->(Y1->Env->k4->Prop)->Env->k4->Prop
 | .skip,Q,env,s=>End Q .normal env s
 | .region r,Q,env,s=>RX fs r.pairs r.ops env s (RgK vars Q)
 | .seq a b,Q,env,s=>YW fs vars a (b38 (YW fs vars b Q) Q) env s
 | .cond c x y,Q,env,s=>a1t (env.ev c) (YW fs vars x Q env s) (YW fs vars y Q env s)
 | .block id b,Q,env,s=>YW fs vars b (N5 id Q) env s
 | .loop b,Q,env,s=>WP fs vars (.loop b) env s Q
 | .exit id,Q,env,s=>End Q (.exit id) env s
 | .ret,Q,env,s=>End Q .ret env s
def a6a (fs:FuncId->Option M5) (vars:List Nat) (b:a0A) (Q:Y1->Env->k4->Prop):Y1->Env->k4->Prop
 | .normal,env,s=>YW fs vars b Q env s
 | e,env,s=>Q e env s
theorem a1O:∀ {pairs:Prs} {ops:Ops} {env:Env} {s:k4} {K:Kt},XQ fs pairs ops env s K->WQ fs pairs ops env s K
 | pairs,[],env,s,K,h=>b4c h
 | pairs,(i,⟨dst,op,g⟩)::rest,env,s,K,h=>by
   have key:∀ (h:XQ fs pairs ((i,⟨dst,op,none⟩)::rest) env s K),WQ fs pairs ((i,⟨dst,op,none⟩)::rest) env s K:=by
    intro h
    unfold XQ at h
    simp only at h
    split at h
    ·split at h
     ·rename_i d e;exact a60 e (a1O h)
     ·exact h.elim
    ·split at h
     ·rename_i d e;exact b2e e (a1O h)
     ·exact h.elim
    ·split at h
     ·split at h
      ·rename_i ob m e;exact b0r e (a1O h)
      ·exact h.elim
     ·split at h
      ·rename_i hf
       refine a76 hf ?_
       split at h
       ·rename_i ob m e;exact b0r e (a1O h)
       ·exact h.elim
      ·exact h
    ·split at h
     ·split at h
      ·rename_i ob m e;exact a7D e (a1O h)
      ·exact h.elim
     ·split at h
      ·rename_i hf
       refine a76 hf ?_
       split at h
       ·rename_i ob m e;exact a7D e (a1O h)
       ·exact h.elim
      ·exact h
    ·split at h
     ·split at h
      ·rename_i l hl
       obtain ⟨d,⟨r,s1,h1,h2⟩,h3,h4⟩:=h
       exact b5A hl h1 h2 h3 (a1O h4)
      ·exact h.elim
     ·split at h
      ·rename_i d s' e;exact a9a e (a1O h)
      ·exact h.elim
     ·split at h
      ·rename_i hf
       refine a76 hf ?_
       split at h
       ·rename_i d s' e;exact a9a e (a1O h)
       ·exact h.elim
      ·exact h
     ·exact h
    ·exact h
   cases g with
   | none=>exact key h
   | some rb =>
     obtain ⟨r,b⟩:=rb
     refine b4Y (d:=env.get r) rfl ?_
     have h':Way (env.get r) b (XQ fs pairs ((i,⟨dst,op,none⟩)::rest) env s K) (XQ fs pairs rest (env.put dst (.tup [])) s K):=h
     unfold Way at h' ⊢
     split at h'
     ·rename_i c _
      split at h'
      ·rename_i hc;simp only [hc,if_true];exact key h'
      ·rename_i hc;simp only [hc,if_false];exact a1O h'
     ·exact a1O h'
     ·exact h'
theorem a3P {vars:List Nat}:∀ {c:a0A} {Q:Y1->Env->k4->Prop} {env:Env} {s:k4},YW fs vars c Q env s->WP fs vars c env s Q
 | .skip,_,_,_,h=>b4a h
 | .region ⟨ops,[],dr⟩,Q,_,_,h=>b48 (a1O h)
 | .region ⟨ops,p::ps,dr⟩,Q,_,_,h=>c4F (a21 h)
 | .seq a b,Q,env,s,h=>by
   refine b2W ((a3P (c:=a) h).mono fun e env s h=>?_)
   cases e with
   | normal=>exact a3P (c:=b) h
   | exit id=>exact h
   | ret=>exact h
 | .cond c x y,Q,env,s,h=>by
   refine b51 (d:=env.ev c) rfl ?_
   have h':a1t (env.ev c) (YW fs vars x Q env s) (YW fs vars y Q env s):=h
   unfold a1t at h' ⊢
   split at h'
   ·split at h'
    ·rename_i hc;simp only [hc,if_true];exact a3P h'
    ·rename_i hc;simp only [hc];exact a3P h'
   ·exact h'
 | .block id b,Q,env,s,h=>b5i (a3P (c:=b) h)
 | .loop b,Q,env,s,h=>h
 | .exit id,_,_,_,h=>b28 h
 | .ret,_,_,_,h=>b2v h
theorem c6d {vars b Q}:b38 (YW fs vars b Q) Q=a6a fs vars b Q:=by
 funext e env s
 cases e<;>rfl
theorem c5h {vars Q env s}:YW fs vars .skip Q env s=End Q .normal env s:=Eq.trans rfl rfl
theorem c2z {vars a b Q env s}:YW fs vars (.seq a b) Q env s=YW fs vars a (a6a fs vars b Q) env s:=by rw [<- c6d];rfl
def CW (d:D) (fs:FuncId->Option M5) (vars:List Nat) (x y:a0A) (Q:Y1->Env->k4->Prop) (env:Env) (s:k4):Prop:=a1t d (YW fs vars x Q env s) (YW fs vars y Q env s)
theorem c0k {vars c x y Q env s}:YW fs vars (.cond c x y) Q env s=CW (env.ev c) fs vars x y Q env s:=Eq.trans rfl rfl
theorem c52 {vars id b Q env s}:YW fs vars (.block id b) Q env s=YW fs vars b (N5 id Q) env s:=Eq.trans rfl rfl
theorem c6c {vars id Q env s}:YW fs vars (.exit id) Q env s=End Q (.exit id) env s:=Eq.trans rfl rfl
theorem c0O {vars b Q env s}:YW fs vars (.loop b) Q env s=WP fs vars (.loop b) env s Q:=Eq.trans rfl rfl
theorem c0T {vars Q env s}:YW fs vars .ret Q env s=End Q .ret env s:=Eq.trans rfl rfl
theorem b96 {pairs vars Q env s}:XQ fs pairs [] env s (RgK vars Q)=End Q .normal (env.keep vars) s:=Eq.trans rfl rfl
theorem c5J {pairs i t o r b rest env s K}:XQ fs pairs ((i,⟨t,o,some (r,b)⟩)::rest) env s K=GW (env.get r) b fs pairs (i,⟨t,o,none⟩) t rest env s K:=Eq.trans rfl rfl
theorem b5B {pairs i t f args rest env s K}:XQ fs pairs ((i,⟨some t,.m (.call .iso (.cst (.fn f [])) args),none⟩)::rest) env s K=BL (N2 (ice s.get 20) (env.evL args)) (pureL (env.evL args)) fs f pairs t rest env s K:=by
 unfold XQ BL BC;cases pairs<;>rfl
theorem b4l {pairs i t f args rest env s K}:XQ fs pairs ((i,⟨some t,.m (.call .raw f args),none⟩)::rest) env s K=WQ fs pairs ((i,⟨some t,.m (.call .raw f args),none⟩)::rest) env s K:=by cases pairs<;>rfl
theorem b6L {i t sz bytes a x rest env s K}:XQ fs [] ((i,⟨some t,.m (.append sz bytes a x),none⟩)::rest) env s K=BM (U8 sz bytes (env.ev a) (env.ev x) s) fs t rest env K:=Eq.trans rfl rfl
theorem c0A {d pairs t rest env s K}:BP (some d) fs pairs t rest env s K=XQ fs pairs rest ((t,d)::env) s K:=Eq.trans rfl rfl
theorem c4p {ob t rest env s K}:BA (some (ob,.ptr)) fs t rest env s K=XQ fs [] rest ((t,.ptr s.next 0)::env) (s.push ob) K:=Eq.trans rfl rfl
theorem b90 {ob t rest env s K l sz}:BA (some (ob,.arr l sz)) fs t rest env s K=XQ fs [] rest ((t,.arr s.next 0 l sz)::env) (s.push ob) K:=Eq.trans rfl rfl
theorem b9j {id ob rest env s K}:BW (some (id,ob)) fs rest env s K=XQ fs [] rest env (s.set id (some ob)) K:=Eq.trans rfl rfl
theorem c5C {l p f pairs t rest env s K}:BL (some l) p fs f pairs t rest env s K=BC fs f l p pairs t rest env s K:=Eq.trans rfl rfl
theorem c3b {d pairs t rest env s K}:BF true d fs pairs t rest env s K=XQ fs pairs rest ((t,d)::env) s K:=Eq.trans rfl rfl
theorem b5v {vars x y Q env s}:CW (.bool true) fs vars x y Q env s=YW fs vars x Q env s:=by simp [CW,a1t]
theorem b3q {vars x y Q env s}:CW (.bool false) fs vars x y Q env s=YW fs vars y Q env s:=by simp [CW,a1t]
theorem c2P {pairs x t rest env s K}:GW (.bool true) true fs pairs x t rest env s K=XQ fs pairs (x::rest) env s K:=by simp [GW,Way]
theorem b8o {pairs x t rest env s K}:GW (.bool false) false fs pairs x t rest env s K=XQ fs pairs (x::rest) env s K:=by simp [GW,Way]
theorem c0R {pairs x t rest env s K}:GW (.bool true) false fs pairs x t rest env s K=XQ fs pairs rest (env.put t (.tup [])) s K:=by simp [GW,Way]
theorem c0z {pairs x t rest env s K}:GW (.bool false) true fs pairs x t rest env s K=XQ fs pairs rest (env.put t (.tup [])) s K:=by simp [GW,Way]
theorem c42 {b pairs x t rest env s K}:GW (.tup []) b fs pairs x t rest env s K=XQ fs pairs rest (env.put t (.tup [])) s K:=Eq.trans rfl rfl
theorem c4V {env:Env} {t d}:env.put (some t) d=(t,d)::env:=Eq.trans rfl rfl
theorem b7q {vars b Q env s}:End (a6a fs vars b Q) .normal env s=YW fs vars b Q env s:=Eq.trans rfl rfl
theorem c4Q {vars b Q id env s}:End (a6a fs vars b Q) (.exit id) env s=End Q (.exit id) env s:=Eq.trans rfl rfl
theorem b8k {vars b Q env s}:End (a6a fs vars b Q) .ret env s=End Q .ret env s:=Eq.trans rfl rfl
theorem c2C {id Q env s}:End (N5 id Q) .normal env s=End Q .normal env s:=Eq.trans rfl rfl
theorem c3G {id Q env s}:End (N5 id Q) .ret env s=End Q .ret env s:=Eq.trans rfl rfl
theorem c3U {id id' Q env s}:End (N5 id Q) (.exit id') env s=if id'=id then End Q .normal env s else End Q (.exit id') env s:=Eq.trans rfl rfl
theorem Y4 {b:Bool} {vars x y Q env s} (h1:b=true->YW fs vars x Q env s) (h2:b=false->YW fs vars y Q env s):CW (.bool b) fs vars x y Q env s:=by
 cases b
 ·rw [b3q];exact h2 rfl
 ·rw [b5v];exact h1 rfl
theorem Y7 {c b:Bool} {pairs x t rest env s K} (h1:c=true->GW (.bool true) b fs pairs x t rest env s K) (h2:c=false->GW (.bool false) b fs pairs x t rest env s K):GW (.bool c) b fs pairs x t rest env s K:=by
 cases c
 ·exact h2 rfl
 ·exact h1 rfl
theorem b8Q {g:Q0} {n:Nat}:N2 (ice g (n+1)) []=some []:=Eq.trans rfl rfl
theorem c6Z {g:Q0} {n:Nat} {k:IntKind} {x:Int} {l:List D}:N2 (ice g (n+1)) (.int k x::l)=(N2 (ice g (n+1)) l).map (.int k x::·):=by
 simp only [N2,ice];cases N2 (ice g (n+1)) l<;>rfl
theorem b8j {g:Q0} {n:Nat} {x:Bool} {l:List D}:N2 (ice g (n+1)) (.bool x::l)=(N2 (ice g (n+1)) l).map (.bool x::·):=by
 simp only [N2,ice];cases N2 (ice g (n+1)) l<;>rfl
theorem c5c {g:Q0} {n:Nat} {x:ByteArray} {l:List D}:N2 (ice g (n+1)) (.str x::l)=(N2 (ice g (n+1)) l).map (.str x::·):=by
 simp only [N2,ice];cases N2 (ice g (n+1)) l<;>rfl
theorem b8L {g:Q0} {n:Nat} {d:D} {l:List D} (h:PZ d):N2 (ice g (n+3)) (d::l)=(N2 (ice g (n+3)) l).map (d::·):=by
 simp only [N2,h.2 g n];cases N2 (ice g (n+3)) l<;>rfl
theorem a9u {g:Q0} {n:Nat} {d d':D} {l:List D} (h:ice g n d=some d'):N2 (ice g n) (d::l)=(N2 (ice g n) l).map (d'::·):=by
 simp only [N2,h];cases N2 (ice g n) l<;>rfl
theorem b8q {d:D} (h:PZ d):W2 d=true:=h.1
theorem c4t:pureL []=true:=Eq.trans rfl rfl
theorem c6E {d:D} {l:List D}:pureL (d::l)=(W2 d&&pureL l):=Eq.trans rfl rfl
theorem b7N {k:IntKind} {n:Int}:W2 (.int k n)=true:=Eq.trans rfl rfl
theorem b75 {b:Bool}:W2 (.bool b)=true:=Eq.trans rfl rfl
theorem b7r {b:ByteArray}:W2 (.str b)=true:=Eq.trans rfl rfl
theorem c3I {k:IntKind} {n:Int}:a0q (.int k n)=true:=Eq.trans rfl rfl
theorem c6v {b:Bool}:a0q (.bool b)=true:=Eq.trans rfl rfl
theorem c0V {l:List D}:a0q (.agg l)=scalarL l:=Eq.trans rfl rfl
theorem b61 {l:List D}:a0q (.tup l)=scalarL l:=Eq.trans rfl rfl
theorem c56:scalarL []=true:=Eq.trans rfl rfl
theorem c4U {d:D} {l:List D}:scalarL (d::l)=(a0q d&&scalarL l):=Eq.trans rfl rfl
theorem c21 {g:Q0} {n:Nat} {k:IntKind} {x:Int}:ice g (n+1) (.int k x)=some (.int k x):=Eq.trans rfl rfl
theorem c1S {g:Q0} {n:Nat} {x:Bool}:ice g (n+1) (.bool x)=some (.bool x):=Eq.trans rfl rfl
theorem c1A {g:Q0} {n:Nat} {l:List D}:ice g (n+1) (.tup l)=(N2 (ice g n) l).map .tup:=Eq.trans rfl rfl
theorem c0P {g:Q0} {n:Nat} {d:D} (h:PZ d):ice g (n+3) d=some d:=h.2 g n
theorem c0h {env:Env} {s:k4} {x}:V2 env s [x]=W7 env s x:=by
 unfold V2 V5
 cases W7 env s x<;>rfl
theorem c1w {env:Env} {s:k4} {x y l}:V2 env s (x::y::l)=(V5 env s (x::y::l)).map .tup:=by
 unfold V2
 simp only [V5]
 cases W7 env s x<;>cases W7 env s y<;>cases V5 env s l<;>rfl
theorem c1G {env:Env} {s:k4}:V5 env s []=some []:=Eq.trans rfl rfl
theorem b60 {env:Env} {s:k4} {x l}:V5 env s (x::l)=(W7 env s x).bind fun d=>(V5 env s l).map (d::·):=by
 simp only [V5]
 cases W7 env s x<;>cases V5 env s l<;>rfl
theorem c60 {env:Env} {s:k4} {t}:W7 env s (t,none)=some (env.get t):=Eq.trans rfl rfl
def a9E (s:k4) (n:Option Nat):D->Option D
 | .ptr id off=>ldV s.get n (.ptr id off)
 | _=>none
theorem c3K {env:Env} {s:k4} {t n}:W7 env s (t,some n)=a9E s n (env.get t):=by
 simp only [W7,a9E]
 cases h:env.get t<;>rfl
theorem b9t {s:k4} {n id off}:a9E s n (.ptr id off)=ldV s.get n (.ptr id off):=Eq.trans rfl rfl
def a58 (res:List (Nat×Option (Option Nat))) (P:D->k4->Prop):Y1->Env->k4->Prop:=fun e env s=>(e=.normal∨e=.ret)/\∃d,V2 env s res=some d/\P d s
def RB (r:Option D) (s:k4) (P:D->k4->Prop):Prop:=match r with
 | some d=>P d s
 | none=>False
theorem c25 {res P env s}:End (a58 res P) .ret env s=RB (V2 env s res) s P:=by
 unfold End a58 RB
 apply propext
 cases V2 env s res<;>simp
theorem X1 {d s} {P:D->k4->Prop} (h:P d s):RB (some d) s P:=h
def b4J (x:D):D->k4->Prop:=fun r s=>ice s.get 20 r=some x
theorem b7p {d s x}:RB (some d) s (b4J x)=(ice s.get 20 d=some x):=Eq.trans rfl rfl
def b3m (P:D->Prop):D->k4->Prop:=fun r s=>∃d,ice s.get 20 r=some d/\P d
theorem b6x {d s P}:RB (some d) s (b3m P)=∃x,ice s.get 20 d=some x/\P x:=Eq.trans rfl rfl
theorem X8 {f:FuncId} {vf:M5} {args:List D} {s:k4} {P:D->k4->Prop} (hf:fs f=some vf) (h:YW fs vf.vars vf.code (a58 vf.res P) (vf.vars.map fun t=>(t,args.getD t .undef)) s):EvP fs f args s P:=M8 hf (a3P h)
theorem P0 {f:FuncId} {vf:M5} {args:List D} {d:D} (hf:fs f=some vf) (h:YW fs vf.vars vf.code (a58 vf.res (b4J d)) (vf.vars.map fun t=>(t,args.getD t .undef)) k4.empty):a1U fs f args d:=by
 obtain ⟨r,s1,h1,h2⟩:=X8 hf h
 exact ⟨r,s1,h1,h2⟩
def a3O (fs:FuncId->Option M5) (f:FuncId) (args:List D) (P:D->Prop):Prop:=∃d,a1U fs f args d/\P d
theorem a3n {f:FuncId} {vf:M5} {args:List D} {P:D->Prop} (hf:fs f=some vf) (h:YW fs vf.vars vf.code (a58 vf.res (b3m P)) (vf.vars.map fun t=>(t,args.getD t .undef)) k4.empty):a3O fs f args P:=by
 obtain ⟨r,s1,h1,d,h2,h3⟩:=X8 hf h
 exact ⟨d,⟨r,s1,h1,h2⟩,h3⟩
theorem a1Q {i t f args rest s K} {env:Env} {l:List D} {P:D->k4->Prop} (hr:EvP fs f l s P) (ha:env.evL args=l)
 (h:∀d s',P d s'->XQ fs [] rest ((t,d)::env) s' K):WQ fs [] ((i,⟨some t,.m (.call .raw (.cst (.fn f [])) args),none⟩)::rest) env s K:=V6 hr ha fun d s' hp=>a1O (h d s' hp)
inductive Rf {α:Type} (a b:α):Prop where
 | mk (h:a=b)
def a4f:Env->Nat->Option D
 | [],_=>none
 | (s,d)::r,t=>match Nat.beq s t with
   | true=>some d
   | false=>a4f r t
theorem a6Q:∀ {env:Env} {t:Nat} {d:D},a4f env t=some d->env.get t=d
 | [],_,_,h=>by simp [a4f] at h
 | (s,d)::r,t,d',h=>by
   simp only [a4f] at h
   split at h
   ·rename_i e
    have:=Nat.eq_of_beq_eq_true e
    cases h
    simp only [Env.get,this,if_true]
   ·rename_i e
    have:s≠t:=fun he=>by subst he;simp at e
    simp only [Env.get,this,if_false]
    exact a6Q h
theorem c3k {env:Env} {t:Nat} {d:D} (h:Rf (a4f env t) (some d)):Env.get env t=d:=a6Q h.1
def a2W:List Nat->Env->Option Env
 | [],_=>some []
 | t::r,env=>match a4f env t with
   | some d=>match a2W r env with
     | some l=>some ((t,d)::l)
     | none=>none
   | none=>none
theorem a4J:∀ {vars:List Nat} {env e:Env},a2W vars env=some e->env.keep vars=e
 | [],_,_,h=>by simp [a2W] at h;exact h.symm
 | t::r,env,e,h=>by
   simp only [a2W] at h
   split at h
   ·rename_i d hd
    split at h
    ·rename_i l hl
     cases h
     show (t,env.get t)::env.keep r=_
     rw [a6Q hd,a4J hl]
    ·cases h
   ·cases h
theorem c0s {vars:List Nat} {env e:Env} (h:Rf (a2W vars env) (some e)):env.keep vars=e:=a4J h.1
def a3S (vars l:List Nat) (e0:Env) (f:Nat->D):Env:=vars.map fun t=>(t,if l.contains t then e0.get t else f t)
def a6Z:List Nat->Nat->Bool
 | [],_=>false
 | s::r,t=>match Nat.beq s t with
   | true=>true
   | false=>a6Z r t
theorem b17:∀ {l:List Nat} {t:Nat},a6Z l t=l.contains t
 | [],_=>rfl
 | s::r,t=>by
   simp only [a6Z,List.contains_cons]
   split
   ·rename_i e
    have:=Nat.eq_of_beq_eq_true e
    simp [this]
   ·rename_i e
    have:(t==s)=false:=by
     rw [beq_eq_false_iff_ne];intro he;subst he;simp at e
    rw [this,Bool.false_or];exact b17
def a43:List Nat->List Nat->Env->(Nat->D)->Option Env
 | [],_,_,_=>some []
 | t::r,l,e0,f=>match a6Z l t with
   | true=>match a4f e0 t with
     | some d=>match a43 r l e0 f with
       | some e=>some ((t,d)::e)
       | none=>none
     | none=>none
   | false=>match a43 r l e0 f with
     | some e=>some ((t,f t)::e)
     | none=>none
theorem b1b:∀ {vars l:List Nat} {e0 e:Env} {f:Nat->D},a43 vars l e0 f=some e->a3S vars l e0 f=e
 | [],_,_,_,_,h=>by simp [a43] at h;exact h.symm
 | t::r,l,e0,e,f,h=>by
   simp only [a43] at h
   show (t,if l.contains t then e0.get t else f t)::a3S r l e0 f=e
   rw [<- b17]
   split at h
   ·rename_i hb
    split at h
    ·rename_i d hd
     split at h
     ·rename_i e' he
      cases h
      rw [hb,if_pos rfl,a6Q hd,b1b he]
     ·cases h
    ·cases h
   ·rename_i hb
    split at h
    ·rename_i e' he
     cases h
     rw [hb,if_neg (by simp),b1b he]
    ·cases h
theorem c4J {vars l:List Nat} {e0 e:Env} {f:Nat->D} (h:Rf (a43 vars l e0 f) (some e)):a3S vars l e0 f=e:=b1b h.1
def a3v (vars l:List Nat) (e0 e:Env):Prop:=e.keep vars=e/\e.keep l=e0.keep l
theorem c58 {vars l:List Nat} {e0 e x:Env} (h1:Rf (a2W vars e) (some e)) (h2:Rf (a2W l e0) (some x)) (h3:Rf (a2W l e) (some x)):a3v vars l e0 e=True:=eq_true ⟨a4J h1.1,by rw [a4J h2.1,a4J h3.1]⟩
theorem c1a {l:List Nat} {e e0:Env} (h:e.keep l=e0.keep l) {t:Nat} (ht:t∈l):e.get t=e0.get t:=by
 unfold Env.keep at h
 have:=List.map_inj_left.1 h t ht
 simpa using this
theorem b1D {vars l:List Nat} {e0 e:Env} (h:a3v vars l e0 e):e=a3S vars l e0 fun t=>e.get t:=by
 conv=>lhs;rw [<- h.1]
 unfold Env.keep a3S
 refine List.map_congr_left fun t _=>?_
 by_cases ht:t∈l
 ·rw [if_pos (List.contains_iff_mem.2 ht),c1a h.2 ht]
 ·rw [if_neg (by simpa using ht)]
abbrev It:=Nat->(Nat->D)->k4->Prop
def UpQ (vars l:List Nat) (e0:Env) (n i:Nat) (I:It) (Q:Y1->Env->k4->Prop):Y1->Env->k4->Prop
 | .normal,env,s=>a3v vars l e0 env/\i<n/\I (i+1) (fun t=>env.get t) s
 | e,env,s=>Q e env s
theorem c6q {vars l e0 n i I Q env s}:End (UpQ vars l e0 n i I Q) .normal env s=(a3v vars l e0 env/\i<n/\I (i+1) (fun t=>env.get t) s):=Eq.trans rfl rfl
theorem c3N {vars l e0 n i I Q id env s}:End (UpQ vars l e0 n i I Q) (.exit id) env s=End Q (.exit id) env s:=Eq.trans rfl rfl
theorem c5v {vars l e0 n i I Q env s}:End (UpQ vars l e0 n i I Q) .ret env s=End Q .ret env s:=Eq.trans rfl rfl
theorem c6X {vars l:List Nat} {e:Env} (h:Rf (a2W vars e) (some e)):a3v vars l e e:=⟨a4J h.1,rfl⟩
theorem U2 {vars b Q env0 s0} (l:List Nat) (a n:Nat) (I:It) (h1:Rf (a2W vars env0) (some env0)) (ha:a<=n) (h0:I a (fun t=>env0.get t) s0) (hs:∀i f s,i<=n->I i f s->YW fs vars b (UpQ vars l env0 n i I Q) (a3S vars l env0 f) s):WP fs vars (.loop b) env0 s0 Q:=by
 refine W0 (fun k env s=>∃i,i<=n/\k=n-i/\a3v vars l env0 env/\I i (fun t=>env.get t) s) ?_ (n-a) _ _ ⟨a,ha,rfl,c6X h1,h0⟩
 rintro k env s ⟨i,hi,rfl,hk,hI⟩
 have:=hs i _ s hi hI
 rw [<- b1D hk] at this
 refine (a3P this).mono fun e env' s' h=>?_
 cases e with
 | normal =>
   obtain ⟨h1,h2,h3⟩:=h
   exact ⟨n-(i+1),by omega,i+1,by omega,rfl,h1,h3⟩
 | exit id=>exact h
 | ret=>exact h
def a73 (vars l:List Nat) (e0:Env) (P:(Nat->D)->k4->Prop) (Q:Y1->Env->k4->Prop):Y1->Env->k4->Prop
 | .normal,env,s=>a3v vars l e0 env/\P (fun t=>env.get t) s
 | e,env,s=>Q e env s
theorem b7D {vars l e0 P Q env s}:End (a73 vars l e0 P Q) .normal env s=(a3v vars l e0 env/\P (fun t=>env.get t) s):=Eq.trans rfl rfl
theorem b9F {vars l e0 P Q env s}:End (a73 vars l e0 P Q) .ret env s=End Q .ret env s:=Eq.trans rfl rfl
theorem WQ.mono {pairs ops env s} {K K':Env->k4->Prop} (h:WQ fs pairs ops env s K) (hk:∀env s,K env s->K' env s):WQ fs pairs ops env s K':=fun tr ht=>by
 obtain ⟨n,env',s',h1,h2⟩:=h tr ht
 exact ⟨n,env',s',h1,hk _ _ h2⟩
theorem Way.mono {d:D} {b:Bool} {A B A' B':Prop} (h:Way d b A B) (h1:A->A') (h2:B->B'):Way d b A' B':=by
 unfold Way at *;split at h
 ·split at h
  ·rename_i hc;rw [if_pos hc];exact h1 h
  ·rename_i hc;rw [if_neg hc];exact h2 h
 ·exact h2 h
 ·exact h
theorem a1t.mono {d:D} {A B A' B':Prop} (h:a1t d A B) (h1:A->A') (h2:B->B'):a1t d A' B':=by
 unfold a1t at *;split at h
 ·split at h
  ·rename_i hc;rw [if_pos hc];exact h1 h
  ·rename_i hc;rw [if_neg hc];exact h2 h
 ·exact h
theorem WX.mono {pairs T ops env s} {K K':Kt} (h:WX fs pairs T ops env s K) (hk:∀env s,K env s->K' env s):WX fs pairs T ops env s K':=fun tr ht=>by
 obtain ⟨n,env',s',h1,h2⟩:=h tr ht
 exact ⟨n,env',s',h1,hk _ _ h2⟩
theorem a1F {vars c Q env s id} (l:List Nat) (P:(Nat->D)->k4->Prop) (h:WP fs vars c env s (N5 id (a73 vars l env P Q))) (k:∀f s,P f s->End Q .normal (a3S vars l env f) s):WP fs vars c env s (N5 id Q):=by
 have key:∀env' s,a73 vars l env P Q .normal env' s->Q .normal env' s:=fun env' s h=>by
  have:=k _ s h.2
  rw [<- b1D h.1] at this
  exact this
 refine WP.mono h fun e env' s h=>?_
 cases e with
 | normal=>exact key _ _ h
 | exit id' =>
   simp only [N5] at h ⊢
   by_cases hc:id'=id
   ·rw [if_pos hc] at h ⊢;exact key _ _ h
   ·rw [if_neg hc] at h ⊢;exact h
 | ret=>exact h
theorem b7S {env:Env} {t:Nat}:env.ev (.tmp t)=env.get t:=Eq.trans rfl rfl
theorem b9f {env:Env} {d:D}:env.ev (.cst d)=d:=Eq.trans rfl rfl
theorem c4S {pairs i t o rest env s K}:XQ fs pairs (xq i t o::rest) env s K=BP (evP env o) fs pairs t rest env s K:=Eq.trans rfl rfl
theorem b7x {pairs i t o g b rest env s K}:XQ fs pairs (xg i t o g b::rest) env s K=GW (env.get g) b fs pairs (xq i t o) (some t) rest env s K:=Eq.trans rfl rfl
theorem c1j {pairs i t x rest env s K}:XQ fs pairs (xm i t x::rest) env s K=BP (some (env.get x)) fs pairs t rest env s K:=Eq.trans rfl rfl
theorem c3P {pairs i t x g b rest env s K}:XQ fs pairs (xmg i t x g b::rest) env s K=GW (env.get g) b fs pairs (xm i t x) (some t) rest env s K:=Eq.trans rfl rfl
theorem b9a {pairs i t d rest env s K}:XQ fs pairs (xc i t d::rest) env s K=XQ fs pairs rest ((t,d)::env) s K:=Eq.trans rfl rfl
theorem c2U {pairs i t n x rest env s K}:XQ fs pairs (xl i t n x::rest) env s K=BP (ldV s.get n (env.get x)) fs pairs t rest env s K:=by
 rw [<- show env.ev (.tmp x)=env.get x from rfl,<- a5H];rfl
theorem b9Q {pairs i t n x g b rest env s K}:XQ fs pairs (xlg i t n x g b::rest) env s K=GW (env.get g) b fs pairs (xl i t n x) (some t) rest env s K:=Eq.trans rfl rfl
theorem c2F {pairs i t off x rest env s K}:XQ fs pairs (xf i t off x::rest) env s K=BP (evP env (.fieldA off (.tmp x))) fs pairs t rest env s K:=Eq.trans rfl rfl
theorem b9g {pairs i t off x g b rest env s K}:XQ fs pairs (xfg i t off x g b::rest) env s K=GW (env.get g) b fs pairs (xf i t off x) (some t) rest env s K:=Eq.trans rfl rfl
theorem c2W {i t o rest env s K}:XQ fs [] (xa i t o::rest) env s K=BA (evA env o) fs t rest env s K:=Eq.trans rfl rfl
theorem c3l {i n a v rest env s K}:XQ fs [] (xw i n a v::rest) env s K=BW (evW env s.get n (.tmp a) v) fs rest env s K:=Eq.trans rfl rfl
theorem b8g {pairs i t f args rest env s K}:XQ fs pairs (xi i t f args::rest) env s K=BL (N2 (ice s.get 20) (env.evL args)) (pureL (env.evL args)) fs f pairs t rest env s K:=b5B
theorem c4l {pairs i t f args g b rest env s K}:XQ fs pairs (xig i t f args g b::rest) env s K=GW (env.get g) b fs pairs (xi i t f args) (some t) rest env s K:=Eq.trans rfl rfl
theorem c0f {pairs i t f args rest env s K}:XQ fs pairs (xk i t f args::rest) env s K=WQ fs pairs (xk i t f args::rest) env s K:=b4l
theorem b7j {pairs i t o g rest env s K}:XQ fs pairs (xo i t o g::rest) env s K=XQ fs pairs ((i,⟨t,o,g⟩)::rest) env s K:=Eq.trans rfl rfl
theorem b8S {vars l Q env s}:YW fs vars (xr l) Q env s=XQ fs [] l env s (RgK vars Q):=Eq.trans rfl rfl
theorem b8M {vars l b Q env s}:YW fs vars (xrp l [] b) Q env s=XQ fs [] l env s (RgK vars Q):=Eq.trans rfl rfl
theorem b79 {vars l p ps b Q env s}:YW fs vars (xrp l (p::ps) b) Q env s=XX fs (p::ps) [] l env s (RgK vars Q):=Eq.trans rfl rfl
theorem M3:k4.empty.next=0:=Eq.trans rfl rfl
def BX (r:Option D) (fs:FuncId->Option M5) (pairs:Prs) (T:List Ent) (t:Nat) (rest:Ops) (env:Env) (s:k4) (K:Kt):Prop:=match r with
 | some d=>XX fs pairs T rest ((t,d)::env) s K
 | none=>False
def BD (d:D) (n:Option Nat) (i:Nat) (fs:FuncId->Option M5) (pairs:Prs) (T:List Ent) (t:Nat) (rest:Ops) (env:Env) (s:k4) (K:Kt):Prop:=match d with
 | .fp cs off=>match ldV s.get n (.fp cs off) with
   | some d=>XX fs pairs T rest ((t,d)::env) s K
   | none=>False
 | .ptr id off=>match ldV s.get n (.ptr id off) with
   | some d=>a2i pairs i id T/\XX fs pairs (⟨i,some id,[]⟩::T) rest ((t,d)::env) s K
   | none=>False
 | _=>False
def BE (C:Prop) (r:Option D) (fs:FuncId->Option M5) (pairs:Prs) (T:List Ent) (t:Nat) (rest:Ops) (env:Env) (s:k4) (K:Kt):Prop:=C/\BX r fs pairs T t rest env s K
def AX (r:Option (O1×P2)) (i:Nat) (fs:FuncId->Option M5) (pairs:Prs) (T:List Ent) (t:Nat) (rest:Ops) (env:Env) (s:k4) (K:Kt):Prop:=match r with
 | some (ob,m)=>XX fs pairs (⟨i,none,[s.next]⟩::T) rest ((t,m.at s.next)::env) (s.push ob) K
 | none=>False
def UX (d:D) (r:Option (Nat×O1)) (i:Nat) (fs:FuncId->Option M5) (pairs:Prs) (T:List Ent) (rest:Ops) (env:Env) (s:k4) (K:Kt):Prop:=match d with
 | .ptr id _=>match r with
   | some (id',ob)=>id'=id/\a3c pairs i id T/\XX fs pairs (⟨i,some id,[id]⟩::T) rest env (s.set id (some ob)) K
   | none=>False
 | _=>False
def VX (C:Prop) (fs:FuncId->Option M5) (pairs:Prs) (T:List Ent) (rest:Ops) (env:Env) (s:k4) (K:Kt):Prop:=C/\XX fs pairs T rest env s K
def MX (d x:D) (sz bytes i:Nat) (fs:FuncId->Option M5) (pairs:Prs) (T:List Ent) (t:Nat) (rest:Ops) (env:Env) (s:k4) (K:Kt):Prop:=∃d' s' E,U8 sz bytes d x s=some (d',s')/\s.next<=s'.next/\(∀id,id∉E->s.get id=s'.get id)/\a1T pairs i E T/\XX fs pairs (⟨i,none,E⟩::T) rest ((t,d')::env) s' K
def CX (fs:FuncId->Option M5) (f:FuncId) (l:List D) (p:Bool) (pairs:Prs) (T:List Ent) (t:Nat) (rest:Ops) (env:Env) (s:k4) (K:Kt):Prop:=∃d,a1U fs f l d/\(a0q d||p)=true/\XX fs pairs T rest ((t,d)::env) s K
def LX (r:Option (List D)) (p:Bool) (fs:FuncId->Option M5) (f:FuncId) (pairs:Prs) (T:List Ent) (t:Nat) (rest:Ops) (env:Env) (s:k4) (K:Kt):Prop:=match r with
 | some l=>CX fs f l p pairs T t rest env s K
 | none=>False
def FX (b:Bool) (d:D) (fs:FuncId->Option M5) (pairs:Prs) (T:List Ent) (t:Nat) (rest:Ops) (env:Env) (s:k4) (K:Kt):Prop:=match b with
 | true=>XX fs pairs T rest ((t,d)::env) s K
 | false=>False
abbrev Eqc (fs:FuncId->Option M5) (f:FuncId) (l:List D) (d:D):Prop:=(∀p pairs t rest env s K,BC fs f l p pairs t rest env s K=BF (a0q d||p) d fs pairs t rest env s K)/\∀p pairs T t rest env s K,CX fs f l p pairs T t rest env s K=FX (a0q d||p) d fs pairs T t rest env s K
theorem S5 {f:FuncId} {args:List D} {d:D} (h:a1U fs f args d):Eqc fs f args d:=by
 refine ⟨fun p pairs t rest env s K=>propext ⟨?_,fun hk=>?_⟩,fun p pairs T t rest env s K=>propext ⟨?_,fun hk=>?_⟩⟩
 ·rintro ⟨d',h1,h2,h3⟩
  obtain rfl:=h.det h1
  unfold BF;rw [h2];exact h3
 ·unfold BF at hk
  split at hk
  ·rename_i hs;exact ⟨d,h,hs,hk⟩
  ·exact hk.elim
 ·rintro ⟨d',h1,h2,h3⟩
  obtain rfl:=h.det h1
  unfold FX;rw [h2];exact h3
 ·unfold FX at hk
  split at hk
  ·rename_i hs;exact ⟨d,h,hs,hk⟩
  ·exact hk.elim
theorem c0b {d pairs T t rest env s K}:FX true d fs pairs T t rest env s K=XX fs pairs T rest ((t,d)::env) s K:=Eq.trans rfl rfl
theorem c44 {pairs T vars Q env s}:XX fs pairs T [] env s (RgK vars Q)=End Q .normal (env.keep vars) s:=Eq.trans rfl rfl
theorem b1w {pairs T i t f args rest env s K}:XX fs pairs T ((i,⟨some t,.m (.call .iso (.cst (.fn f [])) args),none⟩)::rest) env s K=LX (N2 (ice s.get 20) (env.evL args)) (pureL (env.evL args)) fs f pairs T t rest env s K:=by
 unfold XX LX CX;rfl
theorem c4X {pairs T i t sz bytes a x rest env s K}:XX fs pairs T ((i,⟨some t,.m (.append sz bytes a x),none⟩)::rest) env s K=MX (env.ev a) (env.ev x) sz bytes i fs pairs T t rest env s K:=Eq.trans rfl rfl
theorem b98 {d pairs T t rest env s K}:BX (some d) fs pairs T t rest env s K=XX fs pairs T rest ((t,d)::env) s K:=Eq.trans rfl rfl
theorem c6I {cs off n i pairs T t rest env s K}:BD (.fp cs off) n i fs pairs T t rest env s K=BX (ldV s.get n (.fp cs off)) fs pairs T t rest env s K:=by
 unfold BD BX;rfl
theorem b7C {id off n i pairs T t rest env s K}:BD (.ptr id off) n i fs pairs T t rest env s K=BE (a2i pairs i id T) (ldV s.get n (.ptr id off)) fs pairs (⟨i,some id,[]⟩::T) t rest env s K:=by
 unfold BD BE BX
 simp only
 cases ldV s.get n (.ptr id off) with
 | some d=>rfl
 | none=>simp
theorem c5u {r pairs T t rest env s K}:BE True r fs pairs T t rest env s K=BX r fs pairs T t rest env s K:=by simp [BE]
theorem c2H {ob i pairs T t rest env s K}:AX (some (ob,.ptr)) i fs pairs T t rest env s K=XX fs pairs (⟨i,none,[s.next]⟩::T) rest ((t,.ptr s.next 0)::env) (s.push ob) K:=Eq.trans rfl rfl
theorem c0Y {ob l sz i pairs T t rest env s K}:AX (some (ob,.arr l sz)) i fs pairs T t rest env s K=XX fs pairs (⟨i,none,[s.next]⟩::T) rest ((t,.arr s.next 0 l sz)::env) (s.push ob) K:=Eq.trans rfl rfl
theorem c4G {id off ob i pairs T rest env s K}:UX (.ptr id off) (some (id,ob)) i fs pairs T rest env s K=VX (a3c pairs i id T) fs pairs (⟨i,some id,[id]⟩::T) rest env (s.set id (some ob)) K:=by
 unfold UX VX;simp
theorem b8G {pairs T rest env s K}:VX True fs pairs T rest env s K=XX fs pairs T rest env s K:=by simp [VX]
theorem b8C {l p f pairs T t rest env s K}:LX (some l) p fs f pairs T t rest env s K=CX fs f l p pairs T t rest env s K:=Eq.trans rfl rfl
theorem b7R {pairs T i t o rest env s K}:XX fs pairs T (xq i t o::rest) env s K=BX (evP env o) fs pairs T t rest env s K:=Eq.trans rfl rfl
theorem c3W {pairs T i t x rest env s K}:XX fs pairs T (xm i t x::rest) env s K=BX (some (env.get x)) fs pairs T t rest env s K:=Eq.trans rfl rfl
theorem b6P {pairs T i t n x rest env s K}:XX fs pairs T (xl i t n x::rest) env s K=BD (env.get x) n i fs pairs T t rest env s K:=Eq.trans rfl rfl
theorem b8e {pairs T i t off x rest env s K}:XX fs pairs T (xf i t off x::rest) env s K=BX (evP env (.fieldA off (.tmp x))) fs pairs T t rest env s K:=Eq.trans rfl rfl
theorem c0v {pairs T i t o rest env s K}:XX fs pairs T (xa i t o::rest) env s K=AX (evA env o) i fs pairs T t rest env s K:=Eq.trans rfl rfl
theorem c2V {pairs T i n a v rest env s K}:XX fs pairs T (xw i n a v::rest) env s K=UX (env.get a) (evW env s.get n (.tmp a) v) i fs pairs T rest env s K:=Eq.trans rfl rfl
theorem b9p {pairs T i t f args rest env s K}:XX fs pairs T (xi i t f args::rest) env s K=LX (N2 (ice s.get 20) (env.evL args)) (pureL (env.evL args)) fs f pairs T t rest env s K:=b1w
theorem b6C {pairs T i t o g rest env s K}:XX fs pairs T (xo i t o g::rest) env s K=XX fs pairs T ((i,⟨t,o,g⟩)::rest) env s K:=Eq.trans rfl rfl
theorem c4i {id}:a1W id []=True:=Eq.trans rfl rfl
theorem c5g {id x r}:a1W id (x::r)=(a70 id x/\a1W id r):=Eq.trans rfl rfl
theorem c6k {a b:Nat} (h:a≠b):a70 a b=True:=eq_true h
theorem c48 {pairs i id}:a2i pairs i id []=True:=Eq.trans rfl rfl
theorem b7Y {pairs i id a r E T} (h:Rf (a2d pairs a i) false):a2i pairs i id (⟨a,r,E⟩::T)=a2i pairs i id T:=by simp [a2i,h.1]
theorem b9M {pairs i id a r E T} (h:Rf (a2d pairs a i) true):a2i pairs i id (⟨a,r,E⟩::T)=(a1W id E/\a2i pairs i id T):=by simp [a2i,h.1]
theorem c1B {pairs i id}:a3c pairs i id []=True:=Eq.trans rfl rfl
theorem c6m {pairs i id a r E T} (h:Rf (a2d pairs a i) false):a3c pairs i id (⟨a,r,E⟩::T)=a3c pairs i id T:=by simp [a3c,h.1]
theorem b6J {pairs i E}:a1T pairs i E []=True:=Eq.trans rfl rfl
theorem b9Z {pairs i E a r F T} (h:Rf (a2d pairs a i) false):a1T pairs i E (⟨a,r,F⟩::T)=a1T pairs i E T:=by simp [a1T,h.1]
theorem c3y {pairs i E a F x T} (h:Rf (a2d pairs a i) true):a1T pairs i E (⟨a,some x,F⟩::T)=(a1W x E/\a1T pairs i E T):=by simp [a1T,h.1]
attribute [go_sem] c0b b79 c44 b1w c4X b98 c6I b7C c5u c2H c0Y c4G b8G b8C b7R c3W b6P b8e c0v c2V b9p b6C c4i c5g c6k c48 b7Y b9M c1B c6m b6J b9Z c3y
attribute [go_sem] Nat.reduceLT M3 c4S b7x c1j c3P b9a c2U b9Q c2F b9g c2W c3l b8g c4l c0f b7j b8S b8M
attribute [go_sem] c5h c2z c0k c52 c0O c6c c0T b96 c5J b5B b4l b6L c0A c5C c4p b90 b9j c3b b5v b3q c2P b8o c0R c0z c42 b7q c4Q b8k c2C c3G c3U c0s c3k c4J c58 b7S b9f c4V
attribute [go_sem] b8Q c6Z b8j c5c b8L b8q c4t c6E b7N b75 b7r c3I c6v c0V b61 c56 c4U c21 c1S c1A c0P c0h c1w c1G b60 c60 c3K b9t c25 b7p b6x Option.some.injEq D.tup.injEq D.int.injEq D.bool.injEq D.agg.injEq D.str.injEq List.cons.injEq c6q c3N c5v b7D b9F Option.bind Bool.or_true Bool.true_or
theorem c0l {vars c Q env env' s s'} (h:env=env') (h':s=s'):YW fs vars c Q env s=YW fs vars c Q env' s':=by rw [h,h']
theorem c59 {pairs ops K env env' s s'} (h:env=env') (h':s=s'):XQ fs pairs ops env s K=XQ fs pairs ops env' s' K:=by rw [h,h']
theorem c2s {Q e env env' s s'} (h:env=env') (h':s=s'):End Q e env s=End Q e env' s':=by rw [h,h']
theorem c0B {r r' pairs t rest env s K} (h:r=r'):BP r fs pairs t rest env s K=BP r' fs pairs t rest env s K:=by rw [h]
theorem b7n {r r' p p' f pairs t rest env s K} (h:r=r') (h':p=p'):BL r p fs f pairs t rest env s K=BL r' p' fs f pairs t rest env s K:=by rw [h,h']
theorem b8u {r r' t rest env K} (h:r=r'):BM r fs t rest env K=BM r' fs t rest env K:=by rw [h]
theorem b7l {r r' d pairs t rest env s K} (h:r=r'):BF r d fs pairs t rest env s K=BF r' d fs pairs t rest env s K:=by rw [h]
theorem b9X {d d' vars x y Q env s} (h:d=d'):CW d fs vars x y Q env s=CW d' fs vars x y Q env s:=by rw [h]
theorem c6f {d d' b pairs x t rest env s K} (h:d=d'):GW d b fs pairs x t rest env s K=GW d' b fs pairs x t rest env s K:=by rw [h]
theorem b7T {b b' d pairs T t rest env s K} (h:b=b'):FX b d fs pairs T t rest env s K=FX b' d fs pairs T t rest env s K:=by rw [h]
theorem b86 {pairs T ops K env env' s s'} (h:env=env') (h':s=s'):XX fs pairs T ops env s K=XX fs pairs T ops env' s' K:=by rw [h,h']
theorem c1O {r r' pairs T t rest env s K} (h:r=r'):BX r fs pairs T t rest env s K=BX r' fs pairs T t rest env s K:=by rw [h]
theorem c4D {r r' n i pairs T t rest env s K} (h:r=r'):BD r n i fs pairs T t rest env s K=BD r' n i fs pairs T t rest env s K:=by rw [h]
theorem b7v {C C' pairs T rest env s K} (hc:C=C'):VX C fs pairs T rest env s K=VX C' fs pairs T rest env s K:=by rw [hc]
theorem c6y {d d' x x' sz bytes i pairs T t rest env s s' K} (h:d=d') (h2:x=x') (h3:s=s'):MX d x sz bytes i fs pairs T t rest env s K=MX d' x' sz bytes i fs pairs T t rest env s' K:=by rw [h,h2,h3]
theorem c0a {f l l' p p' pairs T t rest env s K} (h:l=l') (h2:p=p'):LX l p fs f pairs T t rest env s K=LX l' p' fs f pairs T t rest env s K:=by rw [h,h2]
attribute [congr] b7T b86 c1O c4D b7v c6y c0a
attribute [congr] c0l c59 c2s c0B b7n b8u b7l b9X c6f
theorem zF {P Q:Prop} (k:Q) (h:P=Q:=by
 simp only [xn,T9,Q9,Q8,Q7,Q6,P9,O9,Q5,N9,X9,Z9,Y9,V9,U9,R9,Q4,Q3,Q2,Q1,List.map,List.getD,List.getElem?_cons_zero,List.getElem?_cons_succ,List.getElem?_nil,Option.getD]
 exact rfl):P:=h.mpr k
theorem zY0 {P Q:Prop} (k:Q) (h:P=Q:=by
 simp (maxSteps:=1000000) (disch:=(first|exact Rf.mk rfl|with_reducible assumption|omega|((repeat (first|rw [nP]|rw [nS]|rw [M3]))<;>omega)|decide)) only [go_sem,↓reduceIte]
 exact rfl):P:=h.mpr k
theorem zY {F P Q:Prop} (f:F) (k:Q) (h:F->P=Q:=by
 intro f
 simp (maxSteps:=1000000) (disch:=(first|exact Rf.mk rfl|with_reducible assumption|omega|((repeat (first|rw [nP]|rw [nS]|rw [M3]))<;>omega)|decide)) only [go_sem,↓reduceIte,f]
 exact rfl):P:=(h f).mpr k
theorem zZ0 {P:Prop} (h:P:=by simp (maxSteps:=1000000) (disch:=(first|exact Rf.mk rfl|with_reducible assumption|omega|((repeat (first|rw [nP]|rw [nS]|rw [M3]))<;>omega)|decide)) only [go_sem,↓reduceIte]):P:=h
theorem zZ {F P:Prop} (f:F) (h:F->P:=by
 intro f
 simp (maxSteps:=1000000) (disch:=(first|exact Rf.mk rfl|with_reducible assumption|omega|((repeat (first|rw [nP]|rw [nS]|rw [M3]))<;>omega)|decide)) only [go_sem,↓reduceIte,f]):P:=h f
end Go.V
namespace Go.Proofs.YtnjlhebkhjcagaaGreat
open Go.V
set_option maxRecDepth 100000
theorem b6E {f:Nat} {l:List D} {r:D} (h:Iso f l r) (hs:a0i r=true):a1U vfs f l r:=by
 obtain ⟨s1,h⟩:=h
 exact ⟨r,s1,h,b1j hs 19⟩
theorem a2w {f:Nat} {l:List D} {r:D} (h:Iso f l r) (hs:a0i r=true):Eqc vfs f l r:=S5 (b6E h hs)
theorem b4w {x:Int} (h1:-4294967296<=x) (h2:x<=4294967296):Eqc vfs 38 [.int .i64 x,.int .i64 8] (.int .i64 (N4 x 8)):=a2w (a7r (x:=x) (n:=8) (w:=8) (by decide) ⟨by omega,by omega⟩) rfl
theorem a3B {b:Bool}:Eqc vfs 71 [.bool b] (.int .i64 (a2Z b)):=a2w c6B rfl
theorem pzm {m:MdX} {mo:Mo} {ps:List (Pr×PrD)} (h:MoF m mo ps):PZ (.agg (N7 m)):=a4x fun d hd=>by
 simp only [N7,List.mem_cons,List.not_mem_nil,or_false] at hd
 rcases hd with rfl | rfl | rfl | rfl | rfl | rfl | rfl
 ·exact ⟨FL.pure h.tr.fl,FL.ic h.tr.fl⟩
 ·exact ⟨rfl,fun _ _=>rfl⟩
 ·exact ⟨h.c.pure,FL.ic h.c⟩
 ·exact ⟨h.v.pure,FL.ic h.v⟩
 ·exact ⟨h.p.pure,FL.ic h.p⟩
 ·exact ⟨h.sf.pure,FL.ic h.sf⟩
 ·exact ⟨rfl,fun _ _=>rfl⟩
theorem pzs {x:StD} {st:Stt} (h:StF x st):PZ (.agg (a4s x st)):=a4x fun d hd=>by
 obtain ⟨ds,h1,_⟩:=h.c
 simp only [a4s,List.mem_cons,List.not_mem_nil,or_false] at hd
 rcases hd with rfl | rfl | rfl | rfl
 ·exact ⟨h.a.pure,FL.ic h.a⟩
 ·exact ⟨FL.pure h.v,FL.ic h.v⟩
 ·exact ⟨h1.pure,FL.ic h1⟩
 ·exact ⟨rfl,fun _ _=>rfl⟩
theorem a6B {op:Nat} (hop:op<5) {a b:Int} (ha:I8 a) (hb:I8 b):Eqc vfs 72 [.int .i64 (op:Int),.int .i64 a,.int .i64 b,.int .i64 8] (.int .i64 (doZ op a b 8)):=a2w (do8 hop ha hb) rfl
end Go.Proofs.YtnjlhebkhjcagaaGreat
namespace Go.Proofs.YtnjlhebkhjcagaaGreat
open Go.V
set_option maxRecDepth 100000
set_option maxHeartbeats 4000000
theorem b0V {m:MdX} {mo:Mo} {ps:List (Pr×PrD)} (hm:MoF m mo ps) (ho:N6 mo) {x:StD} {st:Stt} (hx:StF x st) (h8:St8 st) (hcl:st.chans.length=mo.chans.length) {pr:Int} {look:ByteArray->Option Nat}
 (hlk:∀w,Iso 70 [.agg (N7 m),.int .i64 pr,.str w] (.int .i64 (a2M (look w)))) (hin:∀w v,look w=some v->v<st.vars.length):∀ (n k:Nat),k<mo.tree.length->mo.tree.length-k<n->a0F (nd mo.tree k).kind ->
 a1U vfs 48 [.agg (N7 m),.int .i64 pr,.agg (a4s x st),.int .i64 (k:Int)] (.tup [.int .i64 (U1 mo.tree mo.ch look st n k).1,.bool (U1 mo.tree mo.ch look st n k).2])
 | 0,k,_,h,_=>by omega
 | n+1,k,hk,hn,hex=>by
   have om:=hm.ones
   have ox:=hx.ones
   have fm:=pzm hm
   have fx:=pzs hx
   have hno:=ho.tree.node k hk
   have hidx:=hm.tr.at (z:=(k:Int)) (by omega) (by omega) (k:=.i64)
   rw [Int.toNat_natCast] at hidx
   have on:=a0U hm.tr hk
   have hw:=a23 hm.tr hk (i:=0)
   have n0:=a22 hm.tr hk (i:=0)
   have z0:((0:Nat):Int)=0:=rfl
   have z1:((1:Nat):Int)=1:=rfl
   rw [hno.wl,z0] at hw
   rw [hno.nl,z0] at n0
   obtain ⟨hkl,hkx⟩:=a5L hno hex
   have ih:∀i,i<(nd mo.tree k).kids.length->a1U vfs 48 [.agg (N7 m),.int .i64 pr,.agg (a4s x st),.int .i64 (((nd mo.tree k).kid i:Nat):Int)] (.tup [.int .i64 (U1 mo.tree mo.ch look st n ((nd mo.tree k).kid i)).1,.bool (U1 mo.tree mo.ch look st n ((nd mo.tree k).kid i)).2]):=fun i hi=>by
    have h1:=ho.tree.ks hk _ (X0 hi)
    exact b0V hm ho hx h8 hcl hlk hin n _ h1.2 (by omega) (hkx i hi)
   have i8:∀i,I8 (U1 mo.tree mo.ch look st n ((nd mo.tree k).kid i)).1:=fun i=>a3i h8 n _
   have k0:=a0K hm.tr ho.tree hk (i:=0)
   have k1:=a0K hm.tr ho.tree hk (i:=1)
   rw [z0] at k0
   rw [z1] at k1
   unfold U1
   simp only
   unfold N7 at ih fm hlk ⊢
   unfold a4s at ih fx ⊢
   by_cases q17:(nd mo.tree k).kind=17
   ·rw [if_pos q17]
    rw [q17] at n0
    have n0:=n0 (by decide)
    have hl:=hno.lit q17
    refine P0 (vf:=a1j) rfl ?_
    unfold a1j;refine zF ?_
    simp (disch:=(first|exact Rf.mk rfl|with_reducible assumption|omega|((repeat (first|rw [nP]|rw [nS]|rw [M3]))<;>omega)|decide)) only [go_sem,↓reduceIte,om,ox,hidx,on,q17,n0,b4w]
   rw [if_neg q17]
   by_cases q18:(nd mo.tree k).kind=18
   ·rw [if_pos q18]
    rw [q18] at hw
    have hw:=hw (by decide)
    have hv:=hlk ((nd mo.tree k).word 0)
    cases hlo:look ((nd mo.tree k).word 0) with
    | none =>
      rw [hlo] at hv
      refine P0 (vf:=a1j) rfl ?_
      unfold a1j;refine zF ?_
      simp (disch:=(first|exact Rf.mk rfl|with_reducible assumption|omega|((repeat (first|rw [nP]|rw [nS]|rw [M3]))<;>omega)|decide)) only [go_sem,↓reduceIte,om,ox,hidx,on,q18,hw,a2M,a2w hv rfl]
    | some v =>
      rw [hlo] at hv
      have hvl:=hin _ _ hlo
      have hvi:=FI.idx hx.v hvl (k:=.i64)
      have c0:((v:Int)<0)=False:=eq_false (by omega)
      have e:=a1I hvl
      simp only [e]
      refine P0 (vf:=a1j) rfl ?_
      unfold a1j;refine zF ?_
      simp (disch:=(first|exact Rf.mk rfl|with_reducible assumption|omega|((repeat (first|rw [nP]|rw [nS]|rw [M3]))<;>omega)|decide)) only [go_sem,↓reduceIte,om,ox,hidx,on,q18,hw,a2M,c0,hvi,a2w hv rfl]
   rw [if_neg q18]
   by_cases q19:(nd mo.tree k).kind=19
   ·rw [if_pos q19]
    rw [q19] at hw
    have hw:=hw (by decide)
    have hlc:=hm.lenC
    have hnc:=ho.nc
    have hch:mo.ch.length=mo.chans.length:=by simp [Mo.ch]
    refine P0 (vf:=a1j) rfl ?_
    unfold a1j;refine zF ?_
    refine zY (aN om (aN ox (aN hidx (aN on q19)))) ?_
    refine U2 [0,1,2,3,4,6,10,11,13,14,15,16,17,18,19,20,27,28,35,45,51,77,94,114,154,158,159,168,177,183] 0 mo.chans.length (fun i f s=>s.get 0=some (.cells [m.dt,.int .i64 m.g,m.dc,m.dv,m.dp,m.ds,.bool m.b])/\s.get 1=some (.cells [x.da,x.dv,x.dc,.int .i64 st.hold])/\s.get 2=some (.cells [.int .i64 19,(nd mo.tree k).dw,(nd mo.tree k).dn,(nd mo.tree k).dk,.int .i64 (nd mo.tree k).pos])/\(∀j (hj:j<mo.chans.length),j<i->mo.chans[j].name≠(nd mo.tree k).word 0)/\f 12=.int .i64 (i:Int)) (.mk rfl) (by omega) ⟨?_,?_,?_,fun j _ h=>by omega,rfl⟩ ?_
    ·exact zZ0
    ·exact zZ0
    ·exact zZ0
    rintro i f s hi ⟨g0,g1,g2,hall,hE⟩
    by_cases ci:i<mo.chans.length
    ·have hs1:IntKind.i64.wrap ((i:Int)+1)=((i+1:Nat):Int):=by rw [O8 (by omega) (by omega)];omega
     have ci':((i:Int)<(mo.chans.length:Int))=True:=eq_true (by omega)
     have hci:=FLC.idx hm.c ci (k:=.i64)
     unfold Ch.row at hci
     by_cases ce:mo.chans[i].name=(nd mo.tree k).word 0
     ·have hil:i<mo.ch.length:=by omega
      have eb:=a4k (l:=mo.ch) (w:=(nd mo.tree k).word 0) hil (by simpa [Mo.ch] using ce) (fun j hj hji=>by simpa [Mo.ch] using hall j (by omega) hji)
      have hsc:i<st.chans.length:=by omega
      obtain ⟨dq,hq,hqi⟩:=hx.chan hsc
      have hqi:=hqi .i64
      have oq:=FL.one hq
      have hql:=FI.len hq
      have e:=a1x hsc
      simp only [eb,if_pos hil,e]
      exact zZ (aN hE (aN g0 (aN g1 (aN g2 (aN om (aN ox (aN on (aN hlc (aN ci' (aN hci (aN ce (aN hw (aN hqi (aN oq hql))))))))))))))
     ·have ce':decide (mo.chans[i].name=(nd mo.tree k).word 0)=false:=by simp [ce]
      refine zY (aN hE (aN g0 (aN g1 (aN g2 (aN om (aN on (aN hlc (aN ci' (aN hci (aN ce' (aN hw hs1))))))))))) ?_
      refine ⟨by omega,fun j hj hji=>?_⟩
      by_cases ej:j=i
      ·subst ej;exact ce
      ·exact hall j hj (by omega)
    ·have ci':((i:Int)<(mo.chans.length:Int))=False:=eq_false (by omega)
     have eb:=a34 (l:=mo.ch) (w:=(nd mo.tree k).word 0) (fun j hj=>by simpa [Mo.ch] using hall j (by omega) (by omega))
     simp only [if_neg eb]
     exact zZ (aN hE (aN g0 (aN om (aN hlc ci'))))
   rw [if_neg q19]
   by_cases q20:(nd mo.tree k).kind=20
   ·rw [if_pos q20]
    have h1:=hno.one (by omega)
    have k0:=k0 (by omega)
    have h0:=S5 (ih 0 (by omega))
    obtain ⟨b1,b2⟩:=i8 0
    have e1:IntKind.i64.wrap (0-(U1 mo.tree mo.ch look st n ((nd mo.tree k).kid 0)).1)=-(U1 mo.tree mo.ch look st n ((nd mo.tree k).kid 0)).1:=by rw [O8 (by omega) (by omega)];omega
    refine P0 (vf:=a1j) rfl ?_
    unfold a1j;refine zF ?_
    simp (disch:=(first|exact Rf.mk rfl|with_reducible assumption|omega|((repeat (first|rw [nP]|rw [nS]|rw [M3]))<;>omega)|decide)) only [go_sem,↓reduceIte,om,ox,hidx,on,q20,k0,e1,h0,b4w]
   rw [if_neg q20]
   by_cases q21:(nd mo.tree k).kind=21
   ·rw [if_pos q21]
    have h1:=hno.one (by omega)
    have k0:=k0 (by omega)
    have h0:=S5 (ih 0 (by omega))
    generalize U1 mo.tree mo.ch look st n ((nd mo.tree k).kid 0)=y0 at *
    obtain ⟨v0,b0⟩:=y0
    simp only at h0 ⊢
    have eb:(v0==0)=decide (v0=0):=rfl
    cases b0
    ·refine P0 (vf:=a1j) rfl ?_
     unfold a1j;refine zF ?_
     simp (disch:=(first|exact Rf.mk rfl|with_reducible assumption|omega|((repeat (first|rw [nP]|rw [nS]|rw [M3]))<;>omega)|decide)) only [go_sem,↓reduceIte,om,ox,hidx,on,q21,k0,h0,a3B,Bool.false_and]
    ·refine P0 (vf:=a1j) rfl ?_
     unfold a1j;refine zF ?_
     simp (disch:=(first|exact Rf.mk rfl|with_reducible assumption|omega|((repeat (first|rw [nP]|rw [nS]|rw [M3]))<;>omega)|decide)) only [go_sem,↓reduceIte,om,ox,hidx,on,q21,k0,h0,a3B,eb]
   rw [if_neg q21]
   have q22:(nd mo.tree k).kind=22:=by have:=hex.1;have:=hex.2;omega
   rw [if_pos q22]
   obtain ⟨l2,_,_,o0,o8⟩:=hno.bin q22
   have k0:=k0 (by omega)
   have k1:=k1 (by omega)
   rw [q22] at n0
   have n0:=n0 (by decide)
   have g0:=S5 (ih 0 (by omega))
   have g1:=S5 (ih 1 (by omega))
   have i0:=i8 0
   have i1:=i8 1
   generalize U1 mo.tree mo.ch look st n ((nd mo.tree k).kid 0)=y0 at *
   generalize U1 mo.tree mo.ch look st n ((nd mo.tree k).kid 1)=y1 at *
   obtain ⟨v0,b0⟩:=y0
   obtain ⟨v1,b1⟩:=y1
   simp only at g0 g1 i0 i1 ⊢
   have e0:(v0 != 0)=decide (v0≠0):=by by_cases c:v0=0<;>simp [c]
   have e1:(v1 != 0)=decide (v1≠0):=by by_cases c:v1=0<;>simp [c]
   have e2:(v0==v1)=decide (v0=v1):=rfl
   have hcs:(nd mo.tree k).num 0=0∨(nd mo.tree k).num 0=1∨(nd mo.tree k).num 0=2∨(nd mo.tree k).num 0=3∨(nd mo.tree k).num 0=4∨(nd mo.tree k).num 0=5∨(nd mo.tree k).num 0=6∨(nd mo.tree k).num 0=7∨(nd mo.tree k).num 0=8:=by omega
   generalize (nd mo.tree k).num 0=op at *
   refine P0 (vf:=a1j) rfl ?_
   unfold a1j;refine zF ?_
   refine zY (aN om (aN ox (aN hidx (aN on (aN q22 (aN k0 (aN k1 (aN n0 (aN g0 g1))))))))) ?_
   cases b0
   ·simp (disch:=(first|exact Rf.mk rfl|with_reducible assumption|omega|((repeat (first|rw [nP]|rw [nS]|rw [M3]))<;>omega)|decide)) only [go_sem,↓reduceIte,Bool.false_and,if_false]
   cases b1
   ·simp (disch:=(first|exact Rf.mk rfl|with_reducible assumption|omega|((repeat (first|rw [nP]|rw [nS]|rw [M3]))<;>omega)|decide)) only [go_sem,↓reduceIte,Bool.and_false,if_false]
   simp only [Bool.and_self,if_true]
   have d0:Eqc vfs 72 [.int .i64 0,.int .i64 v0,.int .i64 v1,.int .i64 8] _:=a6B (op:=0) (by decide) i0 i1
   have d1:Eqc vfs 72 [.int .i64 1,.int .i64 v0,.int .i64 v1,.int .i64 8] _:=a6B (op:=1) (by decide) i0 i1
   have d2:Eqc vfs 72 [.int .i64 2,.int .i64 v0,.int .i64 v1,.int .i64 8] _:=a6B (op:=2) (by decide) i0 i1
   have d3:Eqc vfs 72 [.int .i64 3,.int .i64 v0,.int .i64 v1,.int .i64 8] _:=a6B (op:=3) (by decide) i0 i1
   have d4:Eqc vfs 72 [.int .i64 4,.int .i64 v0,.int .i64 v1,.int .i64 8] _:=a6B (op:=4) (by decide) i0 i1
   rcases hcs with rfl | rfl | rfl | rfl | rfl | rfl | rfl | rfl | rfl
   ·by_cases a0:v0=0
    ·have c0:(v0 != 0)=false:=by simp [a0]
     simp (disch:=(first|exact Rf.mk rfl|with_reducible assumption|omega|((repeat (first|rw [nP]|rw [nS]|rw [M3]))<;>omega)|decide)) only [go_sem,↓reduceIte,om,ox,on,n0,c0,e1,a3B]
     simp [W8,a0]
    ·have c0:(v0 != 0)=true:=by simp [a0]
     simp (disch:=(first|exact Rf.mk rfl|with_reducible assumption|omega|((repeat (first|rw [nP]|rw [nS]|rw [M3]))<;>omega)|decide)) only [go_sem,↓reduceIte,om,ox,on,n0,c0,a3B]
     simp [W8,a0]
   ·by_cases a0:v0=0
    ·have c0:(v0 != 0)=false:=by simp [a0]
     simp (disch:=(first|exact Rf.mk rfl|with_reducible assumption|omega|((repeat (first|rw [nP]|rw [nS]|rw [M3]))<;>omega)|decide)) only [go_sem,↓reduceIte,om,ox,on,n0,c0,e1,a3B]
     simp [W8,a0]
    ·have c0:(v0 != 0)=true:=by simp [a0]
     simp (disch:=(first|exact Rf.mk rfl|with_reducible assumption|omega|((repeat (first|rw [nP]|rw [nS]|rw [M3]))<;>omega)|decide)) only [go_sem,↓reduceIte,om,ox,on,n0,c0,e1,a3B]
     simp [W8,a0]
   ·simp (disch:=(first|exact Rf.mk rfl|with_reducible assumption|omega|((repeat (first|rw [nP]|rw [nS]|rw [M3]))<;>omega)|decide)) only [go_sem,↓reduceIte,om,ox,on,n0,e2,a3B]
    simp [W8]
   ·simp (disch:=(first|exact Rf.mk rfl|with_reducible assumption|omega|((repeat (first|rw [nP]|rw [nS]|rw [M3]))<;>omega)|decide)) only [go_sem,↓reduceIte,om,ox,on,n0,a3B]
    simp [W8]
   ·simp (disch:=(first|exact Rf.mk rfl|with_reducible assumption|omega|((repeat (first|rw [nP]|rw [nS]|rw [M3]))<;>omega)|decide)) only [go_sem,↓reduceIte,om,ox,on,n0,O8,d0]
    simp [W8]
   ·simp (disch:=(first|exact Rf.mk rfl|with_reducible assumption|omega|((repeat (first|rw [nP]|rw [nS]|rw [M3]))<;>omega)|decide)) only [go_sem,↓reduceIte,om,ox,on,n0,O8,d1]
    simp [W8]
   ·simp (disch:=(first|exact Rf.mk rfl|with_reducible assumption|omega|((repeat (first|rw [nP]|rw [nS]|rw [M3]))<;>omega)|decide)) only [go_sem,↓reduceIte,om,ox,on,n0,O8,d2]
    simp [W8]
   ·by_cases a1:v1=0
    ·refine zY (aN om (aN ox (aN on (aN n0 a1)))) ?_
     simp [W8,a1]
    ·have c1:(v1==0)=false:=by simp [a1]
     simp (disch:=(first|exact Rf.mk rfl|with_reducible assumption|omega|((repeat (first|rw [nP]|rw [nS]|rw [M3]))<;>omega)|decide)) only [go_sem,↓reduceIte,om,ox,on,n0,c1,O8,d3]
     simp [W8,a1]
   ·by_cases a1:v1=0
    ·refine zY (aN om (aN ox (aN on (aN n0 a1)))) ?_
     simp [W8,a1]
    ·have c1:(v1==0)=false:=by simp [a1]
     simp (disch:=(first|exact Rf.mk rfl|with_reducible assumption|omega|((repeat (first|rw [nP]|rw [nS]|rw [M3]))<;>omega)|decide)) only [go_sem,↓reduceIte,om,ox,on,n0,c1,O8,d4]
     simp [W8,a1]
end Go.Proofs.YtnjlhebkhjcagaaGreat
namespace Go.V
def eAt (l:List Ed) (i:Nat):Ed:=l.getD i default
def vAt (l:List Vr) (i:Nat):Vr:=l.getD i default
def bAt (l:List Bool) (i:Nat):Bool:=l.getD i false
def pAt (l:List Pr) (i:Nat):Pr:=l.getD i default
def prX (l:List (Pr×PrD)) (i:Nat):PrD:=(l.getD i ⟨default,⟨.nils,.nils,.nils,.nils,.nils⟩⟩).2
theorem a3b {l:List Ed} {i:Nat} (h:i<l.length):eAt l i=l[i]:=by simp [eAt,List.getD,h]
theorem a5b {l:List Vr} {i:Nat} (h:i<l.length):vAt l i=l[i]:=by simp [vAt,List.getD,h]
theorem c1k {l:List Bool} {i:Nat} (h:i<l.length):bAt l i=l[i]:=by simp [bAt,List.getD,h]
theorem a2Q {l:List Pr} {i:Nat} (h:i<l.length):pAt l i=l[i]:=by simp [pAt,List.getD,h]
theorem V7 {l:List Pr} {i:Nat} (h:i<l.length):pAt l i∈l:=by rw [a2Q h];exact List.getElem_mem h
theorem a05 {l:List Ed} {i:Nat} (h:i<l.length):eAt l i∈l:=by rw [a3b h];exact List.getElem_mem h
theorem a2S {l:List Ch} {i:Nat} (h:i<l.length):R7 l i∈l:=by rw [a2A h];exact List.getElem_mem h
theorem a2O {l:List Vr} {i:Nat} (h:i<l.length):vAt l i∈l:=by rw [a5b h];exact List.getElem_mem h
theorem a4V {l:List Int} {i:Nat} (h:i<l.length):zAt l i∈l:=by rw [a1I h];exact List.getElem_mem h
theorem a82 {l:List Nat} {i:Nat} (h:i<l.length):nAt l i∈l:=by rw [a1J h];exact List.getElem_mem h
theorem a55 {l:List (List Int)} {i:Nat} (h:i<l.length):cAt l i∈l:=by rw [a1x h];exact List.getElem_mem h
variable {k:IntKind} {i j:Nat} {d:D}
theorem c1f {l:List Int} (h:FI d l) (hi:i<l.length):N3 1 d (.int k (i:Int))=some (.fp [.int .i64 (zAt l i)] 0):=by rw [FI.idx h hi,a1I hi]
theorem b4y {l:List Nat} (h:FL 1 d (P5 l)) (hi:i<l.length):N3 1 d (.int k (i:Int))=some (.fp [.int .i64 (nAt l i:Int)] 0):=by rw [FLN.idx h hi,a1J hi]
theorem a8y {l:List Bool} (h:FL 1 d (S1 l)) (hi:i<l.length):N3 1 d (.int k (i:Int))=some (.fp [.bool (bAt l i)] 0):=by rw [FLB.idx h hi,c1k hi]
theorem a5r {l:List Ed} (h:FL 8 d (U3 l)) (hi:i<l.length):N3 8 d (.int k (i:Int))=some (.fp [.int .i64 ((eAt l i).frm:Int),.int .i64 ((eAt l i).to:Int),.int .i64 ((eAt l i).act:Int),.int .i64 (eAt l i).expr,.int .i64 (eAt l i).var,.int .i64 (eAt l i).chan,.bool (eAt l i).keep,.int .i64 ((eAt l i).node:Int)] 0):=by rw [FLE.idx h hi,a3b hi];rfl
theorem b8H {l:List Ch} (h:FL 5 d (a0Q l)) (hi:i<l.length):N3 5 d (.int k (i:Int))=some (.fp [.str (R7 l i).name,.int .i64 (R7 l i).room,.int .i64 (R7 l i).width,.bool (R7 l i).lossy,.bool (R7 l i).copying] 0):=by rw [FLC.idx h hi,a2A hi];rfl
theorem c3n {l:List Vr} (h:FL 3 d (a0c l)) (hi:i<l.length):N3 3 d (.int k (i:Int))=some (.fp [.str (vAt l i).name,.int .i64 (vAt l i).width,.int .i64 (vAt l i).value] 0):=by rw [FLV.idx h hi,a5b hi];rfl
theorem b3r {l:List Int} (h:FI d l):V1 false d=some (.int .i64 (l.length:Int)):=FI.len h
theorem b7g {l:List Nat} (h:FL 1 d (P5 l)):V1 false d=some (.int .i64 (l.length:Int)):=by rw [h.len,a3L]
theorem b4U {l:List Bool} (h:FL 1 d (S1 l)):V1 false d=some (.int .i64 (l.length:Int)):=by rw [h.len,a4E]
theorem a8q {l:List Ed} (h:FL 8 d (U3 l)):V1 false d=some (.int .i64 (l.length:Int)):=by rw [h.len,a3j]
theorem c6D {l:List Ch} (h:FL 5 d (a0Q l)):V1 false d=some (.int .i64 (l.length:Int)):=by rw [h.len,a52]
theorem c5E {l:List Vr} (h:FL 3 d (a0c l)):V1 false d=some (.int .i64 (l.length:Int)):=by rw [h.len,b0D]
theorem c06 {l:List Int} (h:FI d l):M9 d=true:=FL.one h
theorem a4U {l:List Int} (h:FI d l):PZ d:=FL.pz h
variable {m:MdX} {mo:Mo} {ps:List (Pr×PrD)}
theorem a2z (h:MoF m mo ps) (hi:i<mo.procs.length):PrF (pAt mo.procs i) (prX ps i):=by
 have hi':i<ps.length:=by rw [h.plen];exact hi
 have e:pAt mo.procs i=ps[i].1:=by rw [a2Q hi];simp [<- h.eq]
 have e2:prX ps i=ps[i].2:=by simp [prX,List.getD,hi']
 rw [e,e2]
 exact h.at' _ (List.getElem_mem hi')
theorem c63 (h:MoF m mo ps) (hi:i<mo.procs.length):N3 8 m.dp (.int k (i:Int))=some (.fp [.str (pAt mo.procs i).name,.int .i64 ((pAt mo.procs i).copy:Int),(prX ps i).dl,.int .i64 ((pAt mo.procs i).places:Int),(prX ps i).dr,(prX ps i).de,(prX ps i).dn,(prX ps i).dv] 0):=by
 have hi':i<ps.length:=by rw [h.plen];exact hi
 have e:pAt mo.procs i=ps[i].1:=by rw [a2Q hi];simp [<- h.eq]
 have e2:prX ps i=ps[i].2:=by simp [prX,List.getD,hi']
 rw [h.p.idx (by simpa using hi'),e,e2]
 simp [a1i,M4]
theorem c3C (h:MoF m mo ps):V1 false m.dp=some (.int .i64 (mo.procs.length:Int)):=h.lenP
theorem b8x (h:MoF m mo ps) (hi:i<mo.procs.length):M9 (prX ps i).dl=true:=(a2z h hi).l.one
theorem c3Y (h:MoF m mo ps) (hi:i<mo.procs.length):M9 (prX ps i).dr=true:=(a2z h hi).r.one
theorem b8B (h:MoF m mo ps) (hi:i<mo.procs.length):M9 (prX ps i).de=true:=(a2z h hi).e.one
theorem b9H (h:MoF m mo ps) (hi:i<mo.procs.length):M9 (prX ps i).dn=true:=(a2z h hi).n.one
theorem c5Y (h:MoF m mo ps) (hi:i<mo.procs.length):M9 (prX ps i).dv=true:=(a2z h hi).v.one
theorem c4n (h:MoF m mo ps) (hi:i<mo.procs.length):V1 false (prX ps i).dl=some (.int .i64 ((pAt mo.procs i).locals.length:Int)):=(a2z h hi).lenL
theorem c3m (h:MoF m mo ps) (hi:i<mo.procs.length):V1 false (prX ps i).de=some (.int .i64 ((pAt mo.procs i).edges.length:Int)):=(a2z h hi).lenE
theorem b76 (h:MoF m mo ps) (hi:i<mo.procs.length) (hj:j<(pAt mo.procs i).edges.length):N3 8 (prX ps i).de (.int k (j:Int))=some (.fp [.int .i64 ((eAt (pAt mo.procs i).edges j).frm:Int),.int .i64 ((eAt (pAt mo.procs i).edges j).to:Int),.int .i64 ((eAt (pAt mo.procs i).edges j).act:Int),.int .i64 (eAt (pAt mo.procs i).edges j).expr,.int .i64 (eAt (pAt mo.procs i).edges j).var,.int .i64 (eAt (pAt mo.procs i).edges j).chan,.bool (eAt (pAt mo.procs i).edges j).keep,.int .i64 ((eAt (pAt mo.procs i).edges j).node:Int)] 0):=a5r (a2z h hi).e hj
theorem b9T (h:MoF m mo ps) (hi:i<mo.procs.length) (hj:j<(pAt mo.procs i).locals.length):N3 1 (prX ps i).dl (.int k (j:Int))=some (.fp [.int .i64 (nAt (pAt mo.procs i).locals j:Int)] 0):=b4y (a2z h hi).l hj
theorem b91 (h:MoF m mo ps) (hi:i<mo.procs.length) (hj:j<(pAt mo.procs i).rest.length):N3 1 (prX ps i).dr (.int k (j:Int))=some (.fp [.bool (bAt (pAt mo.procs i).rest j)] 0):=a8y (a2z h hi).r hj
theorem a04 (h:MoF m mo ps):PZ (.agg [m.dt,.int .i64 m.g,m.dc,m.dv,m.dp,m.ds,.bool m.b]):=a4x fun d hd=>by
 simp only [List.mem_cons,List.not_mem_nil,or_false] at hd
 rcases hd with rfl | rfl | rfl | rfl | rfl | rfl | rfl
 ·exact ⟨FL.pure h.tr.fl,FL.ic h.tr.fl⟩
 ·exact ⟨rfl,fun _ _=>rfl⟩
 ·exact ⟨h.c.pure,FL.ic h.c⟩
 ·exact ⟨h.v.pure,FL.ic h.v⟩
 ·exact ⟨h.p.pure,FL.ic h.p⟩
 ·exact ⟨h.sf.pure,FL.ic h.sf⟩
 ·exact ⟨rfl,fun _ _=>rfl⟩
theorem b0z {e:Ed}:PZ (.agg [.int .i64 (e.frm:Int),.int .i64 (e.to:Int),.int .i64 (e.act:Int),.int .i64 e.expr,.int .i64 e.var,.int .i64 e.chan,.bool e.keep,.int .i64 (e.node:Int)]):=a4x fun d hd=>by
 simp only [List.mem_cons,List.not_mem_nil,or_false] at hd
 rcases hd with rfl | rfl | rfl | rfl | rfl | rfl | rfl | rfl<;>exact ⟨rfl,fun _ _=>rfl⟩
theorem b4I {a b c d:Int}:PZ (.agg [.int .i64 a,.int .i64 b,.int .i64 c,.int .i64 d]):=a4x fun d hd=>by
 simp only [List.mem_cons,List.not_mem_nil,or_false] at hd
 rcases hd with rfl | rfl | rfl | rfl<;>exact ⟨rfl,fun _ _=>rfl⟩
theorem a0D {x:StD} {st:Stt} (h:StF x st):PZ (.agg [x.da,x.dv,x.dc,.int .i64 st.hold]):=a4x fun d hd=>by
 obtain ⟨ds,h1,_⟩:=h.c
 simp only [List.mem_cons,List.not_mem_nil,or_false] at hd
 rcases hd with rfl | rfl | rfl | rfl
 ·exact ⟨h.a.pure,FL.ic h.a⟩
 ·exact ⟨FL.pure h.v,FL.ic h.v⟩
 ·exact ⟨h1.pure,FL.ic h1⟩
 ·exact ⟨rfl,fun _ _=>rfl⟩
def chX:D->Nat->D
 | .lst _ xs,i=>(xs.getD i []).getD 0 .nils
 | _,_=>.nils
theorem b4g {x:StD} {st:Stt} (h:StF x st) (hi:i<st.chans.length):FI (chX x.dc i) (cAt st.chans i)/\N3 1 x.dc (.int k (i:Int))=some (.fp [chX x.dc i] 0):=by
 obtain ⟨ds,h1,h2,h3⟩:=h.c
 have hi':i<ds.length:=by omega
 have e:chX x.dc i=ds[i]:=by
  rcases h1 with ⟨_,e⟩ | e
  ·simp at e;subst e;simp at hi'
  ·rw [e];simp [chX,List.getD,hi']
 rw [e,a1x hi]
 refine ⟨h3 i hi' hi,?_⟩
 rw [h1.idx (by simpa using hi')]
 simp
theorem a3q {x:StD} {st:Stt} (h:StF x st) (hi:i<st.chans.length):FI (chX x.dc i) (cAt st.chans i):=(b4g (k:=.i64) h hi).1
theorem c2l {x:StD} {st:Stt} (h:StF x st) (hi:i<st.chans.length):N3 1 x.dc (.int k (i:Int))=some (.fp [chX x.dc i] 0):=(b4g h hi).2
theorem c1X {x:StD} {st:Stt} (h:StF x st) (hi:i<st.chans.length):M9 (chX x.dc i)=true:=FL.one (a3q h hi)
theorem c1z {x:StD} {st:Stt} (h:StF x st) (hi:i<st.chans.length):V1 false (chX x.dc i)=some (.int .i64 ((cAt st.chans i).length:Int)):=FI.len (a3q h hi)
theorem b4E {x:StD} {st:Stt} (h:StF x st):V1 false x.dc=some (.int .i64 (st.chans.length:Int)):=by
 obtain ⟨ds,h1,h2,_⟩:=h.c
 rw [h1.len,List.length_map,h2]
theorem c0I {n:Nat}:(n:Int)+1=((n+1:Nat):Int):=by omega
theorem c07 {a b:Nat}:((a:Int)<(b:Int))=(a<b):=by apply propext;omega
theorem c4Z {a b:Nat}:((a:Int)<=(b:Int))=(a<=b):=by apply propext;omega
theorem c5S:((0:Nat):Int)=0:=rfl
theorem b82:((1:Nat):Int)=1:=rfl
theorem b84:((2:Nat):Int)=2:=rfl
theorem c34:((3:Nat):Int)=3:=rfl
theorem c6H:((4:Nat):Int)=4:=rfl
theorem c3Q:((5:Nat):Int)=5:=rfl
theorem c6G:((6:Nat):Int)=6:=rfl
theorem b8y:((7:Nat):Int)=7:=rfl
theorem c2d:((8:Nat):Int)=8:=rfl
theorem c0m:((9:Nat):Int)=9:=rfl
theorem c0g:((10:Nat):Int)=10:=rfl
theorem c5e:((11:Nat):Int)=11:=rfl
theorem c05:((12:Nat):Int)=12:=rfl
theorem c5W:((13:Nat):Int)=13:=rfl
theorem b7t:((14:Nat):Int)=14:=rfl
theorem c1u:((15:Nat):Int)=15:=rfl
theorem c6T:((16:Nat):Int)=16:=rfl
theorem b47 {a b:Int}:(a==b)=decide (a=b):=by rw [Bool.eq_iff_iff];simp
theorem c16 {a b:Int}:(a != b)=!decide (a=b):=by rw [bne,b47]
theorem b7c {a b:Nat}:((a:Int)=(b:Int))=(a=b):=by apply propext;omega
theorem b7J {a:Nat}:((0:Int)<(a:Int))=(0<a):=by apply propext;omega
theorem c2c {a:Nat}:((0:Int)<=(a:Int))=True:=eq_true (by omega)
theorem c5w {a:Nat}:((a:Int)<0)=False:=eq_false (by omega)
attribute [go_sem] c5S b82 b84 c34 c6H c3Q c6G b8y c2d c0m c0g c5e c05 c5W b7t c1u c6T b47 c16 b7c b7J c2c c5w c1f b4y a8y a5r b8H c3n b3r b7g b4U a8q c6D c5E c06 c63 c3C b8x c3Y b8B b9H c5Y c4n c3m b76 b9T b91 c2l c1X c1z b4E c0I c07 c4Z
theorem c0d {a b:List Int} (h:a.length=b.length) (hz:∀j,j<a.length->zAt a j=zAt b j):a=b:=List.ext_getElem h fun j h1 h2=>by
 have:=hz j h1
 rwa [a1I h1,a1I h2] at this
theorem b4S {st:Stt}:mo.safeS st=true↔∀j,j<mo.safe.length->(mo.val (a0P mo) st (nAt mo.safe j)).2=true/\(mo.val (a0P mo) st (nAt mo.safe j)).1≠0:=by
 unfold Mo.safeS
 rw [List.all_eq_true]
 constructor
 ·intro h j hj
  have:=h _ (a82 hj)
  simpa using this
 ·intro h k hk
  obtain ⟨j,hj,rfl⟩:=List.getElem_of_mem hk
  have:=h j hj
  rw [a1J hj] at this
  simpa using this
theorem b4A {st:Stt} {j:Nat} (hj:j<mo.safe.length) (h:(mo.val (a0P mo) st (nAt mo.safe j)).2=false∨(mo.val (a0P mo) st (nAt mo.safe j)).1=0):mo.safeS st=false:=by
 rw [Bool.eq_false_iff]
 intro hs
 have:=b4S.1 hs j hj
 rcases h with h | h
 ·rw [h] at this;simp at this
 ·exact this.2 h
theorem c39 {st:Stt} {i j:Nat} {p:Pr} (hj:j<p.edges.length) (h:mo.can st i p (eAt p.edges j)=true):mo.someS st i p=true:=by
 unfold Mo.someS
 rw [List.any_eq_true]
 exact ⟨_,a05 hj,h⟩
theorem c62 {st:Stt} {i:Nat} {p:Pr} (h:∀j,j<p.edges.length->mo.can st i p (eAt p.edges j)=false):mo.someS st i p=false:=by
 unfold Mo.someS
 rw [List.any_eq_false]
 intro e he
 obtain ⟨j,hj,rfl⟩:=List.getElem_of_mem he
 have:=h j hj
 rw [a3b hj] at this
 rw [this];simp
theorem U6 {p:Prop} [Decidable p]:(decide p=true)=p:=by simp
theorem U7 {p:Prop} [Decidable p]:(decide p=false)=¬ p:=by simp
theorem U4 {b:Bool}:((!b)=true)=(b=false):=by simp
theorem U5 {b:Bool}:((!b)=false)=(b=true):=by simp
end Go.V
namespace Go.Proofs.YtnjlhebkhjcagaaGreat
open Go.V
set_option maxRecDepth 100000
set_option maxHeartbeats 4000000
theorem b1q {da db:D} {a b:List Int} (ha:FI da a) (hb:FI db b) (hl:a.length<=1000000):Eqc vfs 50 [da,db] (.bool (decide (a=b))):=by
 refine S5 ?_
 refine P0 (vf:=a8A) rfl ?_
 unfold a8A;refine zF ?_
 refine zY0 ?_
 repeat' (first|(refine Y4 (fun c=>?_) (fun c=>?_)<;>(try simp only [U6,U7,U4,U5] at c)<;>simp (disch:=(first|exact Rf.mk rfl|with_reducible assumption|omega|((repeat (first|rw [nP]|rw [nS]|rw [M3]))<;>omega)|decide)) only [go_sem,↓reduceIte,c])|(refine Y7 (fun c=>?_) (fun c=>?_)<;>(try simp only [U6,U7,U4,U5] at c)<;>simp (disch:=(first|exact Rf.mk rfl|with_reducible assumption|omega|((repeat (first|rw [nP]|rw [nS]|rw [M3]))<;>omega)|decide)) only [go_sem,↓reduceIte,c]))
 ·simp;intro h;exact c (by rw [h])
 ·refine U2 [0,1,10] 0 a.length (fun i f s=>f 5=.int .i64 (i:Int)/\∀j,j<i->zAt a j=zAt b j) (.mk rfl) (by omega) ⟨rfl,fun j h=>by omega⟩ ?_
  rintro i f s hi ⟨hE,hall⟩
  by_cases ci:i<a.length
  ·have ci':i<b.length:=by omega
   refine zY (aN hE ci) ?_
   repeat' (first|(refine Y4 (fun c=>?_) (fun c=>?_)<;>(try simp only [U6,U7,U4,U5] at c)<;>simp (disch:=(first|exact Rf.mk rfl|with_reducible assumption|omega|((repeat (first|rw [nP]|rw [nS]|rw [M3]))<;>omega)|decide)) only [go_sem,↓reduceIte,hE,ci,c])|(refine Y7 (fun c=>?_) (fun c=>?_)<;>(try simp only [U6,U7,U4,U5] at c)<;>simp (disch:=(first|exact Rf.mk rfl|with_reducible assumption|omega|((repeat (first|rw [nP]|rw [nS]|rw [M3]))<;>omega)|decide)) only [go_sem,↓reduceIte,hE,ci,c]))
   ·simp;intro h;exact c (by rw [h])
   ·intro j hj
    by_cases ej:j=i
    ·subst ej;exact c
    ·exact hall j (by omega)
  ·refine zY (aN hE ci) ?_
   exact (decide_eq_true (c0d c fun j hj=>hall j (by omega))).symm
structure Y5 (mo:Mo) (x:StD) (st:Stt):Prop where
 f:StF x st
 e:St8 st
 fit:Fit mo st
variable {m:MdX} {mo:Mo} {ps:List (Pr×PrD)} {x:StD} {st:Stt}
theorem a2J (hm:MoF m mo ps) (ho:N6 mo) (hx:Y5 mo x st) {p:Nat} (hp:p<mo.procs.length) {k:Nat} (hk:k<mo.tree.length) (he:a0F (nd mo.tree k).kind) :
 Eqc vfs 48 [.agg [m.dt,.int .i64 m.g,m.dc,m.dv,m.dp,m.ds,.bool m.b],.int .i64 (p:Int),.agg [x.da,x.dv,x.dc,.int .i64 st.hold],.int .i64 (k:Int)] (.tup [.int .i64 (mo.val (O2 (pAt mo.procs p)) st k).1,.bool (mo.val (O2 (pAt mo.procs p)) st k).2]):=by
 rw [a2Q hp]
 exact S5 (b0V hm ho hx.f hx.e hx.fit.chans (fun w=>b71 hm ho hp) (fun w v hv=>by
  have hpo:=ho.pr _ (List.getElem_mem hp)
  have:=hpo.var v (c1p hpo.same hv)
  rw [hx.fit.vars];exact this) _ k hk (by omega) he)
theorem b9Y (hm:MoF m mo ps) (ho:N6 mo) (hx:Y5 mo x st) {k:Nat} (hk:k<mo.tree.length) (he:a0F (nd mo.tree k).kind) :
 Eqc vfs 48 [.agg [m.dt,.int .i64 m.g,m.dc,m.dv,m.dp,m.ds,.bool m.b],.int .i64 (-1),.agg [x.da,x.dv,x.dc,.int .i64 st.hold],.int .i64 (k:Int)] (.tup [.int .i64 (mo.val (a0P mo) st k).1,.bool (mo.val (a0P mo) st k).2]) :=
 S5 (b0V hm ho hx.f hx.e hx.fit.chans (fun w=>c03 hm ho) (fun w v hv=>by
  have:=b9l hv
  have:=ho.gl
  rw [hx.fit.vars];omega) _ k hk (by omega) he)
theorem a8n (hm:MoF m mo ps) (ho:N6 mo) (hx:Y5 mo x st):Eqc vfs 23 [.agg [m.dt,.int .i64 m.g,m.dc,m.dv,m.dp,m.ds,.bool m.b],.agg [x.da,x.dv,x.dc,.int .i64 st.hold]] (.bool (mo.safeS st)):=by
 refine S5 ?_
 have hs:=hm.sf
 have sl:=ho.sl
 have fm:=a04 hm
 have fx:=a0D hx.f
 have om:=hm.ones
 have ox:=hx.f.ones
 refine P0 (vf:=a9m) rfl ?_
 unfold a9m;refine zF ?_
 refine zY (aN om ox) ?_
 refine U2 [0,1,2,3] 0 mo.safe.length (fun i f s=>f 5=.int .i64 (i:Int)/\s.get 0=some (.cells [m.dt,.int .i64 m.g,m.dc,m.dv,m.dp,m.ds,.bool m.b])/\s.get 1=some (.cells [x.da,x.dv,x.dc,.int .i64 st.hold])/\∀j,j<i->(mo.val (a0P mo) st (nAt mo.safe j)).2=true/\(mo.val (a0P mo) st (nAt mo.safe j)).1≠0) (.mk rfl) (by omega) ⟨rfl,?_,?_,fun j h=>by omega⟩ ?_
 ·exact zZ0
 ·exact zZ0
 rintro i f s hi ⟨hE,g0,g1,hall⟩
 by_cases ci:i<mo.safe.length
 ·have hk:=ho.sf _ (a82 ci)
  have hv:=b9Y hm ho hx hk.1 hk.2
  refine zY (aN hE (aN ci (aN g0 (aN g1 (aN om (aN ox hv)))))) ?_
  repeat' (first|(refine Y4 (fun c=>?_) (fun c=>?_)<;>(try simp only [U6,U7,U4,U5] at c)<;>simp (disch:=(first|exact Rf.mk rfl|with_reducible assumption|omega|((repeat (first|rw [nP]|rw [nS]|rw [M3]))<;>omega)|decide)) only [go_sem,↓reduceIte,hE,ci,g0,g1,om,ox,hv,c])|(refine Y7 (fun c=>?_) (fun c=>?_)<;>(try simp only [U6,U7,U4,U5] at c)<;>simp (disch:=(first|exact Rf.mk rfl|with_reducible assumption|omega|((repeat (first|rw [nP]|rw [nS]|rw [M3]))<;>omega)|decide)) only [go_sem,↓reduceIte,hE,ci,g0,g1,om,ox,hv,c]))
  ·exact (b4A ci (.inl c)).symm
  ·exact (b4A ci (.inr c)).symm
  ·intro j hj
   by_cases ej:j=i
   ·subst ej;exact ⟨by simpa using ‹_=true›,c⟩
   ·exact hall j (by omega)
 ·refine zY (aN hE (aN ci (aN g0 om))) ?_
  exact (b4S.2 fun j hj=>hall j (by omega)).symm
theorem b9o (hm:MoF m mo ps) (ho:N6 mo) (hx:Y5 mo x st) {p:Nat} (hp:p<mo.procs.length) {e:Ed} (he:a2N mo.tree mo.chans.length (pAt mo.procs p).places (pAt mo.procs p).vars e) :
 Eqc vfs 40 [.agg [m.dt,.int .i64 m.g,m.dc,m.dv,m.dp,m.ds,.bool m.b],.agg [x.da,x.dv,x.dc,.int .i64 st.hold],.int .i64 (p:Int),.agg [.int .i64 (e.frm:Int),.int .i64 (e.to:Int),.int .i64 (e.act:Int),.int .i64 e.expr,.int .i64 e.var,.int .i64 e.chan,.bool e.keep,.int .i64 (e.node:Int)]] (.bool (mo.can st p (pAt mo.procs p) e)):=by
 refine S5 ?_
 have fm:=a04 hm
 have fx:=a0D hx.f
 have om:=hm.ones
 have ox:=hx.f.ones
 have hxf:=hx.f
 have hxa:=hxf.a
 have hmc:=hm.c
 have hpa:p<st.at'.length:=by rw [hx.fit.at'];exact hp
 have hcl:=hx.fit.chans
 unfold Mo.can Mo.ex
 have h6:e.act=0∨e.act=1∨e.act=2∨e.act=3∨e.act=4∨e.act=5:=by have:=he.act;omega
 rcases h6 with ha | ha | ha | ha | ha | ha
 ·have hex:=he.ex0 (by omega)
  rw [hex]
  refine P0 (vf:=a1Y) rfl ?_
  unfold a1Y;refine zF ?_
  refine zY (aN om (aN ox ha)) ?_
  repeat' (first|(refine Y4 (fun c=>?_) (fun c=>?_)<;>(try simp only [U6,U7,U4,U5] at c)<;>simp (disch:=(first|exact Rf.mk rfl|with_reducible assumption|omega|((repeat (first|rw [nP]|rw [nS]|rw [M3]))<;>omega)|decide)) only [go_sem,↓reduceIte,om,ox,ha,c])|(refine Y7 (fun c=>?_) (fun c=>?_)<;>(try simp only [U6,U7,U4,U5] at c)<;>simp (disch:=(first|exact Rf.mk rfl|with_reducible assumption|omega|((repeat (first|rw [nP]|rw [nS]|rw [M3]))<;>omega)|decide)) only [go_sem,↓reduceIte,om,ox,ha,c]))
  all_goals simp_all
 ·obtain ⟨k,hk1,hk2,hk3⟩:=he.ex1 (by omega)
  have hv:=a2J hm ho hx hp hk2 hk3
  rw [hk1]
  simp only [Int.natCast_nonneg,if_true,Int.toNat_natCast]
  generalize mo.val (O2 (pAt mo.procs p)) st k=v at *
  refine P0 (vf:=a1Y) rfl ?_
  unfold a1Y;refine zF ?_
  refine zY (aN om (aN ox (aN ha hv))) ?_
  repeat' (first|(refine Y4 (fun c=>?_) (fun c=>?_)<;>(try simp only [U6,U7,U4,U5] at c)<;>simp (disch:=(first|exact Rf.mk rfl|with_reducible assumption|omega|((repeat (first|rw [nP]|rw [nS]|rw [M3]))<;>omega)|decide)) only [go_sem,↓reduceIte,om,ox,ha,hv,c])|(refine Y7 (fun c=>?_) (fun c=>?_)<;>(try simp only [U6,U7,U4,U5] at c)<;>simp (disch:=(first|exact Rf.mk rfl|with_reducible assumption|omega|((repeat (first|rw [nP]|rw [nS]|rw [M3]))<;>omega)|decide)) only [go_sem,↓reduceIte,om,ox,ha,hv,c]))
  all_goals simp_all
 ·obtain ⟨k,hk1,hk2,hk3⟩:=he.ex1 (by omega)
  obtain ⟨q,hq1,hq2⟩:=he.c1 (by omega)
  have hv:=a2J hm ho hx hp hk2 hk3
  rw [hk1,hq1]
  simp only [Int.natCast_nonneg,if_true,Int.toNat_natCast]
  generalize mo.val (O2 (pAt mo.procs p)) st k=v at *
  refine P0 (vf:=a1Y) rfl ?_
  unfold a1Y;refine zF ?_
  refine zY (aN om (aN ox (aN ha hv))) ?_
  repeat' (first|(refine Y4 (fun c=>?_) (fun c=>?_)<;>(try simp only [U6,U7,U4,U5] at c)<;>simp (disch:=(first|exact Rf.mk rfl|with_reducible assumption|omega|((repeat (first|rw [nP]|rw [nS]|rw [M3]))<;>omega)|decide)) only [go_sem,↓reduceIte,om,ox,ha,hv,c])|(refine Y7 (fun c=>?_) (fun c=>?_)<;>(try simp only [U6,U7,U4,U5] at c)<;>simp (disch:=(first|exact Rf.mk rfl|with_reducible assumption|omega|((repeat (first|rw [nP]|rw [nS]|rw [M3]))<;>omega)|decide)) only [go_sem,↓reduceIte,om,ox,ha,hv,c]))
  all_goals simp_all
 ·have hex:=he.ex0 (by omega)
  obtain ⟨q,hq1,hq2⟩:=he.c1 (by omega)
  rw [hex,hq1]
  refine P0 (vf:=a1Y) rfl ?_
  unfold a1Y;refine zF ?_
  refine zY (aN om (aN ox ha)) ?_
  repeat' (first|(refine Y4 (fun c=>?_) (fun c=>?_)<;>(try simp only [U6,U7,U4,U5] at c)<;>simp (disch:=(first|exact Rf.mk rfl|with_reducible assumption|omega|((repeat (first|rw [nP]|rw [nS]|rw [M3]))<;>omega)|decide)) only [go_sem,↓reduceIte,om,ox,ha,c])|(refine Y7 (fun c=>?_) (fun c=>?_)<;>(try simp only [U6,U7,U4,U5] at c)<;>simp (disch:=(first|exact Rf.mk rfl|with_reducible assumption|omega|((repeat (first|rw [nP]|rw [nS]|rw [M3]))<;>omega)|decide)) only [go_sem,↓reduceIte,om,ox,ha,c]))
  all_goals simp_all
 ·obtain ⟨k,hk1,hk2,hk3⟩:=he.ex1 (by omega)
  have hv:=a2J hm ho hx hp hk2 hk3
  rw [hk1]
  simp only [Int.natCast_nonneg,if_true,Int.toNat_natCast]
  generalize mo.val (O2 (pAt mo.procs p)) st k=v at *
  refine P0 (vf:=a1Y) rfl ?_
  unfold a1Y;refine zF ?_
  refine zY (aN om (aN ox (aN ha hv))) ?_
  repeat' (first|(refine Y4 (fun c=>?_) (fun c=>?_)<;>(try simp only [U6,U7,U4,U5] at c)<;>simp (disch:=(first|exact Rf.mk rfl|with_reducible assumption|omega|((repeat (first|rw [nP]|rw [nS]|rw [M3]))<;>omega)|decide)) only [go_sem,↓reduceIte,om,ox,ha,hv,c])|(refine Y7 (fun c=>?_) (fun c=>?_)<;>(try simp only [U6,U7,U4,U5] at c)<;>simp (disch:=(first|exact Rf.mk rfl|with_reducible assumption|omega|((repeat (first|rw [nP]|rw [nS]|rw [M3]))<;>omega)|decide)) only [go_sem,↓reduceIte,om,ox,ha,hv,c]))
  all_goals simp_all
 ·obtain ⟨k,hk1,hk2,hk3⟩:=he.ex1 (by omega)
  have hv:=a2J hm ho hx hp hk2 hk3
  rw [hk1]
  simp only [Int.natCast_nonneg,if_true,Int.toNat_natCast]
  generalize mo.val (O2 (pAt mo.procs p)) st k=v at *
  refine P0 (vf:=a1Y) rfl ?_
  unfold a1Y;refine zF ?_
  refine zY (aN om (aN ox (aN ha hv))) ?_
  repeat' (first|(refine Y4 (fun c=>?_) (fun c=>?_)<;>(try simp only [U6,U7,U4,U5] at c)<;>simp (disch:=(first|exact Rf.mk rfl|with_reducible assumption|omega|((repeat (first|rw [nP]|rw [nS]|rw [M3]))<;>omega)|decide)) only [go_sem,↓reduceIte,om,ox,ha,hv,c])|(refine Y7 (fun c=>?_) (fun c=>?_)<;>(try simp only [U6,U7,U4,U5] at c)<;>simp (disch:=(first|exact Rf.mk rfl|with_reducible assumption|omega|((repeat (first|rw [nP]|rw [nS]|rw [M3]))<;>omega)|decide)) only [go_sem,↓reduceIte,om,ox,ha,hv,c]))
  all_goals simp_all
theorem b6d (hm:MoF m mo ps) (ho:N6 mo) (hx:Y5 mo x st) {p:Nat} (hp:p<mo.procs.length) {j:Nat} (hj:j<(pAt mo.procs p).edges.length) :
 Eqc vfs 40 [.agg [m.dt,.int .i64 m.g,m.dc,m.dv,m.dp,m.ds,.bool m.b],.agg [x.da,x.dv,x.dc,.int .i64 st.hold],.int .i64 (p:Int),.agg [.int .i64 ((eAt (pAt mo.procs p).edges j).frm:Int),.int .i64 ((eAt (pAt mo.procs p).edges j).to:Int),.int .i64 ((eAt (pAt mo.procs p).edges j).act:Int),.int .i64 (eAt (pAt mo.procs p).edges j).expr,.int .i64 (eAt (pAt mo.procs p).edges j).var,.int .i64 (eAt (pAt mo.procs p).edges j).chan,.bool (eAt (pAt mo.procs p).edges j).keep,.int .i64 ((eAt (pAt mo.procs p).edges j).node:Int)]] (.bool (mo.can st p (pAt mo.procs p) (eAt (pAt mo.procs p).edges j))) :=
 b9o hm ho hx hp ((ho.pr _ (V7 hp)).inv.ed _ (a05 hj))
theorem a4t (hm:MoF m mo ps) (ho:N6 mo) (hx:Y5 mo x st) {p:Nat} (hp:p<mo.procs.length):Eqc vfs 49 [.agg [m.dt,.int .i64 m.g,m.dc,m.dv,m.dp,m.ds,.bool m.b],.agg [x.da,x.dv,x.dc,.int .i64 st.hold],.int .i64 (p:Int)] (.bool (mo.someS st p (pAt mo.procs p))):=by
 refine S5 ?_
 have fm:=a04 hm
 have fx:=a0D hx.f
 have om:=hm.ones
 have ox:=hx.f.ones
 have hpo:=ho.pr _ (V7 hp)
 have hel:=hpo.el
 refine P0 (vf:=a9T) rfl ?_
 unfold a9T;refine zF ?_
 refine zY (aN om ox) ?_
 refine U2 [0,1,2,3,4] 0 (pAt mo.procs p).edges.length (fun i f s=>f 7=.int .i64 (i:Int)/\s.get 0=some (.cells [m.dt,.int .i64 m.g,m.dc,m.dv,m.dp,m.ds,.bool m.b])/\s.get 1=some (.cells [x.da,x.dv,x.dc,.int .i64 st.hold])/\∀j,j<i->mo.can st p (pAt mo.procs p) (eAt (pAt mo.procs p).edges j)=false) (.mk rfl) (by omega) ⟨rfl,?_,?_,fun j h=>by omega⟩ ?_
 ·exact zZ0
 ·exact zZ0
 rintro i f s hi ⟨hE,g0,g1,hall⟩
 by_cases ci:i<(pAt mo.procs p).edges.length
 ·have hc:=b6d hm ho hx hp ci
  have fe:=b0z (e:=eAt (pAt mo.procs p).edges i)
  refine zY (aN hE (aN ci (aN g0 (aN g1 (aN om (aN ox hc)))))) ?_
  repeat' (first|(refine Y4 (fun c=>?_) (fun c=>?_)<;>(try simp only [U6,U7,U4,U5] at c)<;>simp (disch:=(first|exact Rf.mk rfl|with_reducible assumption|omega|((repeat (first|rw [nP]|rw [nS]|rw [M3]))<;>omega)|decide)) only [go_sem,↓reduceIte,hE,ci,g0,g1,om,ox,hc,c])|(refine Y7 (fun c=>?_) (fun c=>?_)<;>(try simp only [U6,U7,U4,U5] at c)<;>simp (disch:=(first|exact Rf.mk rfl|with_reducible assumption|omega|((repeat (first|rw [nP]|rw [nS]|rw [M3]))<;>omega)|decide)) only [go_sem,↓reduceIte,hE,ci,g0,g1,om,ox,hc,c]))
  ·exact (c39 ci c).symm
  ·intro j hj
   by_cases ej:j=i
   ·subst ej;exact c
   ·exact hall j (by omega)
 ·refine zY (aN hE (aN ci (aN g0 om))) ?_
  exact (c62 fun j hj=>hall j (by omega)).symm
end Go.Proofs.YtnjlhebkhjcagaaGreat
namespace Go.V
variable {fs:FuncId->Option M5}
theorem c50 {t rest env K s d sz bytes rows row A B E R} (h:Rp d sz rows E) (hp:Hp s (A++E++B) R) (hr:row.length=sz) (hrs:∀r∈rows,r.length=sz) (hb:bytes<=1000) (hl:rows.length<=1000000000)
 (k:∀d' s' E',Rp d' sz (rows++[row]) E'->Hp s' (A++E'++B) R->s.next<=s'.next->XQ fs [] rest ((t,d')::env) s' K):BM (U8 sz bytes d (.arr s.next 0 1 sz) (s.push (.cells row))) fs t rest env K:=by
 obtain ⟨d',s',h1,E',h2,h3,h4⟩:=h.app (hp.push (.cells row)) (P1 rfl) hr hrs hb hl
 rw [h1]
 exact k d' s' E' h2 h3 (by rw [k4.next_push] at h4;omega)
theorem a4g {s:k4} {d:D} {sz:Nat} {rows:List (List D)} {E W R:Hs} (h:Rp d sz rows E) (hp:Hp s W R) (he:∀e∈E,e∈W) (hr:∀r∈rows,r.length=sz) (hs:∀r∈rows,r.all a0i=true):∃d',ice s.get 20 d=some d'/\FL sz d' rows :=
 (h.sn fun e hm=>hp.w e (he e hm)).frz1 (n:=18) hr hs
theorem a50 (l:List Mv):∀r∈Y6 l,r.length=4:=by intro r h;obtain ⟨b,_,rfl⟩:=List.mem_map.1 h;rfl
theorem a5u (l:List Mv):∀r∈Y6 l,r.all a0i=true:=by intro r h;obtain ⟨b,_,rfl⟩:=List.mem_map.1 h;rfl
@[simp] theorem c57 (l:List Mv):(Y6 l).length=l.length:=by simp [Y6]
theorem b2j {α:Type} {f:α->List D} {t rest env K s d sz bytes row E R} {l:List α} (v:α) (hv:f v=row) (h:Rp d sz (l.map f) E) (hp:Hp s E R) (hf:∀v,(f v).length=sz) (hb:bytes<=1000) (hl:l.length<=1000000000)
 (k:∀d' s' E',Rp d' sz ((l++[v]).map f) E'->Hp s' E' R->XQ fs [] rest ((t,d')::env) s' K):BM (U8 sz bytes d (.arr s.next 0 1 sz) (s.push (.cells row))) fs t rest env K:=by
 subst hv
 refine c50 (A:=[]) (B:=[]) h (by simpa using hp) (hf v) (fun r hr=>?_) hb (by simpa using hl) fun d' s' E' h1 h2 _=>k d' s' E' (by simpa using h1) (by simpa using h2)
 obtain ⟨x,_,rfl⟩:=List.mem_map.1 hr
 exact hf x
theorem a25 {t rest env K s d bytes row E R} {l:List Mv} (v:Mv) (hv:v.row=row) (h:Rp d 4 (Y6 l) E) (hp:Hp s E R) (hb:bytes<=1000) (hl:l.length<=1000000000)
 (k:∀d' s' E',Rp d' 4 (Y6 (l++[v])) E'->Hp s' E' R->XQ fs [] rest ((t,d')::env) s' K):BM (U8 4 bytes d (.arr s.next 0 1 4) (s.push (.cells row))) fs t rest env K:=b2j (f:=Mv.row) v hv h hp (fun _=>rfl) hb hl k
def S9 (l:List Mv) (i:Nat):Mv:=l.getD i default
theorem a3K {l:List Mv} {i:Nat} (h:i<l.length):S9 l i=l[i]:=by simp [S9,List.getD,h]
theorem a63 {l:List Mv} {i:Nat} (h:i<l.length):S9 l i∈l:=by rw [a3K h];exact List.getElem_mem h
theorem b8N {l:List Mv} {d:D} {i:Nat} {k:IntKind} (h:FL 4 d (Y6 l)) (hi:i<l.length):N3 4 d (.int k (i:Int))=some (.fp [.int .i64 ((S9 l i).kind:Int),.int .i64 ((S9 l i).proc:Int),.int .i64 ((S9 l i).edge:Int),.int .i64 ((S9 l i).chan:Int)] 0):=by
 rw [h.idx (by simpa using hi),a3K hi];simp [Y6,Mv.row]
theorem b6Q {l:List Mv} {d:D} (h:FL 4 d (Y6 l)):V1 false d=some (.int .i64 (l.length:Int)):=by rw [h.len,c57]
theorem b65 {d:D} {sz:Nat} {rows:List (List D)} {E:Hs} (h:Rp d sz rows E):M9 d=true:=h.one
attribute [go_sem] b8N b6Q b65
def Mo.mvE (mo:Mo) (st:Stt) (i j:Nat):List Mv:=((List.range j).filter fun j=>mo.can st i (pAt mo.procs i) (eAt (pAt mo.procs i).edges j)).map fun j=>⟨0,i,j,0⟩
theorem Mo.mvE_succ {mo:Mo} {st:Stt} {i j:Nat}:mo.mvE st i (j+1)=mo.mvE st i j++if mo.can st i (pAt mo.procs i) (eAt (pAt mo.procs i).edges j) then [⟨0,i,j,0⟩] else []:=by
 unfold Mo.mvE
 rw [List.range_succ,List.filter_append,List.map_append]
 congr 1
 simp only [List.filter_cons,List.filter_nil]
 split<;>rfl
theorem Mo.movesP_eq {mo:Mo} {st:Stt} {i:Nat}:mo.movesP st i=if 0<=st.hold/\st.hold≠(i:Int) then [] else mo.mvE st i (pAt mo.procs i).edges.length:=rfl
def Mo.mvP (mo:Mo) (st:Stt) (i:Nat):List Mv:=(List.range i).flatMap (mo.movesP st)
def Mo.mvC (mo:Mo) (st:Stt) (i:Nat):List Mv:=(List.range i).flatMap (mo.movesC st)
theorem Mo.mvP_succ {mo:Mo} {st:Stt} {i:Nat}:mo.mvP st (i+1)=mo.mvP st i++mo.movesP st i:=by simp [Mo.mvP,List.range_succ]
theorem Mo.mvC_succ {mo:Mo} {st:Stt} {i:Nat}:mo.mvC st (i+1)=mo.mvC st i++mo.movesC st i:=by simp [Mo.mvC,List.range_succ]
theorem Mo.moves_eq {mo:Mo} {st:Stt}:mo.moves st=mo.mvP st mo.procs.length++if st.hold<0 then mo.mvC st mo.chans.length else []:=rfl
theorem Mo.mvE_len {mo:Mo} {st:Stt} {i j:Nat}:(mo.mvE st i j).length<=j:=by
 unfold Mo.mvE
 rw [List.length_map]
 exact Nat.le_trans (List.length_filter_le _ _) (by simp)
theorem Mo.movesP_len {mo:Mo} (ho:N6 mo) {st:Stt} {i:Nat} (hi:i<mo.procs.length):(mo.movesP st i).length<=4000:=by
 rw [Mo.movesP_eq]
 split
 ·simp
 ·exact Nat.le_trans Mo.mvE_len (ho.pr _ (V7 hi)).el
theorem Mo.mvP_len {mo:Mo} (ho:N6 mo) {st:Stt}:∀ {i:Nat},i<=mo.procs.length->(mo.mvP st i).length<=4000*i
 | 0,_=>by simp [Mo.mvP]
 | i+1,hi=>by
   rw [Mo.mvP_succ,List.length_append]
   have h1:=Mo.mvP_len ho (st:=st) (i:=i) (by omega)
   have h2:=Mo.movesP_len ho (st:=st) (i:=i) (by omega)
   omega
theorem Mo.movesC_len {mo:Mo} {st:Stt} {i:Nat}:(mo.movesC st i).length<=2:=by
 unfold Mo.movesC
 rw [List.length_append]
 split<;>split<;>simp
theorem Mo.mvC_len {mo:Mo} {st:Stt}:∀ {i:Nat},(mo.mvC st i).length<=2*i
 | 0=>by simp [Mo.mvC]
 | i+1=>by
   rw [Mo.mvC_succ,List.length_append]
   have h1:=Mo.mvC_len (mo:=mo) (st:=st) (i:=i)
   have h2:=Mo.movesC_len (mo:=mo) (st:=st) (i:=i)
   omega
theorem Fr.thenS {a b c:k4} (h:Fr [] a b) (hl:b.next<=c.next) (u:∀j,j<b.next->c.get j=b.get j):Fr [] a c :=
 ⟨Nat.le_trans h.1 hl,fun j hj hn=>by rw [u j (Nat.lt_of_lt_of_le hj h.1),h.2 j hj hn]⟩
theorem Hp.hd {s:k4} {id:Nat} {cs:List D} {W R:Hs} (h:Hp s ((id,cs)::W) R):s.get id=some (.cells cs):=h.w (id,cs) (by simp)
theorem Hp.tl {s:k4} {w:Nat×List D} {W R:Hs} (h:Hp s (w::W) R):Hp s W R:=h.sub (List.sublist_cons_self _ _) fun _ h=>h
theorem Hp.rh {s:k4} {id:Nat} {cs:List D} {W R:Hs} (h:Hp s W ((id,cs)::R)):s.get id=some (.cells cs):=h.r (id,cs) (by simp)
theorem Hp.rt {s:k4} {w:Nat×List D} {W R:Hs} (h:Hp s W (w::R)):Hp s W R:=h.sub (List.Sublist.refl _) fun _ h=>by simp [h]
def P8 (l:List Int):List D:=l.map fun n=>.int .i64 n
def W3 (l:List Int):List (List D):=l.map fun n=>[.int .i64 n]
@[simp] theorem a7O (l:List Int):(P8 l).length=l.length:=by simp [P8]
@[simp] theorem a4T (l:List Int):(W3 l).length=l.length:=by simp [W3]
theorem a4c (l:List Int):(W3 l).flatten=P8 l:=by induction l with
 | nil=>rfl
 | cons a l ih=>simp only [W3,P8,List.map_cons,List.flatten_cons,List.singleton_append] at *;rw [ih]
theorem a6e (l:List Nat):(P5 l).flatten=W5 l:=by induction l with
 | nil=>rfl
 | cons a l ih=>simp only [P5,W5,List.map_cons,List.flatten_cons,List.singleton_append] at *;rw [ih]
theorem a5W (l:List Int):∀r∈W3 l,r.length=1:=by intro r h;obtain ⟨b,_,rfl⟩:=List.mem_map.1 h;rfl
theorem b9S (l:List Int):∀r∈W3 l,r.all a0i=true:=by intro r h;obtain ⟨b,_,rfl⟩:=List.mem_map.1 h;rfl
theorem c1l {d:D} {rows:List (List D)} (h:FL 1 d rows) {g:Q0}:X3 g d=some rows.flatten/\a1E d=some rows.length/\a0z 1 d=true:=by
 rcases h with ⟨rfl,rfl⟩ | rfl<;>exact ⟨rfl,rfl,rfl⟩
theorem Hp.notIn {x:Nat} {E:Hs} (h:∀e∈E,e.1≠x):a1W x (E.map Prod.fst):=by
 induction E with
 | nil=>trivial
 | cons a E ih=>exact ⟨fun e=>h a (by simp) e.symm,ih fun e he=>h e (by simp [he])⟩
theorem Hp.ltW {s:k4} {W R:Hs} (h:Hp s W R) {w:Nat×List D} (hw:w∈W):w.1<s.next:=M7 (h.w w hw)
theorem Hp.ltR {s:k4} {W R:Hs} (h:Hp s W R) {w:Nat×List D} (hw:w∈R):w.1<s.next:=M7 (h.r w hw)
theorem b1k {pairs T i t rest env K s d bytes rows W R} (hd:FL 1 d rows) (hr:∀r∈rows,r.length=1) (hp:Hp s W R) (hb:bytes<=1000) (hl:rows.length<=1000000000) (he:a1T pairs i [s.next,s.next+1] T)
 (k:∀id s',Hp s' ((id,rows.flatten)::W) R->s.next<s'.next->s.next<=id->(∀j,j<s.next->s'.get j=s.get j)->XX fs pairs (⟨i,none,[s.next,s.next+1]⟩::T) rest ((t,.arr id 0 rows.length 1)::env) s' K):MX (.arr s.next 0 0 1) d 1 bytes i fs pairs T t rest env (s.push (.cells [])) K:=by
 obtain ⟨r1,r2,r3⟩:=c1l hd (g:=(s.push (.cells [])).get)
 have b3:bytes<=2 ^ 20:=Nat.le_trans hb (by decide)
 have hg:(s.push (.cells [])).get s.next=some (.cells []):=P1 rfl
 by_cases h0:rows.length=0
 ·have e:rows=[]:=List.length_eq_zero_iff.1 h0
  subst e
  refine ⟨.arr s.next 0 0 1,s.push (.cells []),[s.next,s.next+1],?_,Nat.le_refl _,fun _ _=>rfl,he,?_⟩
  ·unfold U8
   simp only [r1,r2,r3,b3,decide_true,Bool.and_self,if_true,hg,List.length_nil,Nat.zero_mul,Nat.add_zero,and_self]
  ·exact k s.next _ (hp.pushW []) (by simp) (Nat.le_refl _) fun j hj=>by rw [T0 hj]
 ·have hf:=a3t hr
  have b1:(0+rows.length)*bytes<=2 ^ 45:=Nat.le_trans (Nat.mul_le_mul (show 0+rows.length<=1000000000 by omega) hb) (by decide)
  have b2:0+rows.length<=2 ^ 45:=by omega
  refine ⟨.arr (s.next+1) 0 rows.length 1,((s.push (.cells [])).set s.next none).push (.cells rows.flatten),[s.next,s.next+1],?_,by simp,fun j hj=>?_,he,?_⟩
  ·unfold U8
   simp only [r1,r2,r3,b3,decide_true,Bool.and_self,if_true,hg,List.length_nil,Nat.zero_mul,Nat.add_zero,and_self]
   rw [if_neg h0,if_pos ⟨b1,b2⟩]
   simp
  ·simp only [List.mem_cons,List.not_mem_nil,or_false,not_or] at hj
   have e1:(s.push (.cells [])).get j=s.get j:=by rw [k4.get_push,if_neg hj.1]
   have e2:(((s.push (.cells [])).set s.next none).push (.cells rows.flatten)).get j=(s.push (.cells [])).get j:=by rw [k4.get_push,if_neg (by simpa using hj.2),O7 hj.1]
   rw [e2]
  ·refine k (s.next+1) _ ?_ (by simp;omega) (by omega) fun j hj=>?_
   ·have h1:=(hp.pushW []).kill (A:=[]) (B:=W) (cs:=[]) (id:=s.next)
    have h2:=h1.pushW rows.flatten
    simpa using h2
   ·rw [T0 (by simp;omega),O7 (by omega),T0 hj]
theorem Rp.exp {s:k4} {d:D} {sz bytes idt:Nat} {rows:List (List D)} {row:List D} {E:Hs} (h:Rp d sz rows E) (he:Has s E) (ht:s.get idt=some (.cells row)) (hr:row.length=sz) (hrs:∀r∈rows,r.length=sz) (hb:bytes<=1000) (hl:rows.length<=1000000000) :
 ∃s',U8 sz bytes d (.arr idt 0 1 sz) s=some (.arr s.next 0 (rows.length+1) sz,s')/\s'.next=s.next+1/\s'.get s.next=some (.cells (rows.flatten++row))/\∀id,id≠s.next->(∀e∈E,e.1≠id)->s'.get id=s.get id:=by
 have b3:bytes<=2 ^ 20:=Nat.le_trans hb (by decide)
 have r1:X3 s.get (.arr idt 0 1 sz)=some row:=by
  simp only [X3,ht,Nat.zero_add,Nat.one_mul,List.drop_zero]
  rw [if_pos (by omega),List.take_of_length_le (by omega)]
 have r2:a1E (.arr idt 0 1 sz)=some 1:=rfl
 have r3:a0z sz (.arr idt 0 1 sz)=true:=by simp [a0z]
 rcases h with ⟨rfl,rfl,rfl⟩ | ⟨id,rfl,rfl,hne⟩
 ·refine ⟨s.push (.cells row),?_,by simp,by rw [P1 rfl];simp,fun j hj _=>by rw [k4.get_push,if_neg hj]⟩
  unfold U8
  simp only [r1,r2,r3,b3,decide_true,Bool.and_self,if_true]
  rw [if_neg (by omega),if_pos ⟨by omega,by omega⟩]
  rfl
 ·have hf:=a3t hrs
  have hg:s.get id=some (.cells rows.flatten):=he (id,rows.flatten) (by simp)
  have b1:(rows.length+1)*bytes<=2 ^ 45:=Nat.le_trans (Nat.mul_le_mul (show rows.length+1<=1000000001 by omega) hb) (by decide)
  have b2:rows.length+1<=2 ^ 45:=by omega
  refine ⟨(s.set id none).push (.cells (rows.flatten++row)),?_,by simp,P1 (by simp),fun j hj hn=>?_⟩
  ·unfold U8
   simp only [r1,r2,r3,b3,decide_true,Bool.and_self,if_true,hg,Nat.zero_add,hf,and_self,List.drop_zero]
   rw [if_neg (by omega),if_pos ⟨b1,b2⟩]
  ·have:id≠j:=hn (id,rows.flatten) (by simp)
   rw [k4.get_push,if_neg (by simpa using hj),O7 this.symm]
theorem Rp.app2 {s:k4} {d:D} {sz bytes:Nat} {rows:List (List D)} {row:List D} {A B E R:Hs} (h:Rp d sz rows E) (hp:Hp s (A++E++B) R) (hr:row.length=sz) (hrs:∀r∈rows,r.length=sz) (hb:bytes<=1000) (hl:rows.length<=1000000000) :
 ∃s',U8 sz bytes d (.arr s.next 0 1 sz) (s.push (.cells row))=some (.arr (s.next+1) 0 (rows.length+1) sz,s')/\Rp (.arr (s.next+1) 0 (rows.length+1) sz) sz (rows++[row]) [(s.next+1,(rows++[row]).flatten)]/\Hp s' (A++(s.next+1,(rows++[row]).flatten)::B) R/\s'.next=s.next+2/\(∀j,j<s.next->(∀e∈E,e.1≠j)->s'.get j=s.get j)/\∀j,j∉(s.next+1)::E.map Prod.fst->(s.push (.cells row)).get j=s'.get j:=by
 have hp1:=hp.push (.cells row)
 have heE:Has (s.push (.cells row)) E:=fun x hx=>hp1.w x (by simp [hx])
 obtain ⟨s',h1,h2,h3,h4⟩:=h.exp heE (P1 rfl) hr hrs hb hl
 rw [k4.next_push] at h1 h2 h3 h4
 refine ⟨s',h1,.inr ⟨s.next+1,by simp,by simp,by simp⟩,?_,h2,fun j hj hn=>?_,fun j hj=>?_⟩
 ·have hn:=hp1.nd
  have hE:∀w∈A++B,∀e∈E,e.1≠w.1:=by
   intro w hw e hee hc
   rw [List.append_assoc,List.map_append,List.map_append,List.nodup_append,List.nodup_append] at hn
   obtain ⟨_,⟨_,_,n2⟩,n3⟩:=hn
   rcases List.mem_append.1 hw with hw | hw
   ·exact n3 w.1 (List.mem_map_of_mem hw) e.1 (List.mem_append_left _ (List.mem_map_of_mem hee)) hc.symm
   ·exact n2 e.1 (List.mem_map_of_mem hee) w.1 (List.mem_map_of_mem hw) hc
  have hsub:Hp (s.push (.cells row)) (A++B) R:=hp1.sub (by
   rw [List.append_assoc]
   exact List.Sublist.append (List.Sublist.refl _) (List.sublist_append_right _ _)) fun x h=>h
  have key:∀w∈A++B,s'.get w.1=some (.cells w.2):=fun w hw=>by
   have hl:=hp.ltW (w:=w) (by rcases List.mem_append.1 hw with h | h<;>simp [h])
   rw [h4 w.1 (by omega) (hE w hw)]
   exact hsub.w w hw
  refine Hp.perm (W:=(s.next+1,(rows++[row]).flatten)::(A++B)) ⟨?_,?_,?_,?_⟩ List.perm_middle
  ·rw [List.map_cons,List.nodup_cons]
   refine ⟨fun hm=>?_,hsub.nd⟩
   obtain ⟨w,hw,e⟩:=List.mem_map.1 hm
   have:=hp.ltW (w:=w) (by rcases List.mem_append.1 hw with h | h<;>simp [h])
   simp only at e;omega
  ·intro w hw r hrr
   rcases List.mem_cons.1 hw with rfl | hw
   ·have:=hp.ltR hrr
    simp only;omega
   ·exact hsub.ap w hw r hrr
  ·intro w hw
   rcases List.mem_cons.1 hw with rfl | hw
   ·rw [h3];simp
   ·exact key w hw
  ·intro r hrr
   have hl:=hp.ltR hrr
   rw [h4 r.1 (by omega) fun e hee=>hp.ap e (by simp [hee]) r hrr]
   exact hsub.r r hrr
 ·rw [h4 j (by omega) hn,T0 hj]
 ·simp only [List.mem_cons,not_or,List.mem_map,not_exists,not_and] at hj
  exact (h4 j hj.1 fun e he hc=>hj.2 e he hc).symm
theorem b3Q {pairs T i t rest env K s d sz bytes rows row A B E R} (h:Rp d sz rows E) (hp:Hp s (A++E++B) R) (hr:row.length=sz) (hrs:∀r∈rows,r.length=sz) (hb:bytes<=1000) (hl:rows.length<=1000000000) (he:a1T pairs i ((s.next+1)::E.map Prod.fst) T)
 (k:∀s',Rp (.arr (s.next+1) 0 (rows.length+1) sz) sz (rows++[row]) [(s.next+1,(rows++[row]).flatten)]->Hp s' (A++(s.next+1,(rows++[row]).flatten)::B) R->s'.next=s.next+2->(∀j,j<s.next->(∀e∈E,e.1≠j)->s'.get j=s.get j)->XX fs pairs (⟨i,none,(s.next+1)::E.map Prod.fst⟩::T) rest ((t,.arr (s.next+1) 0 (rows.length+1) sz)::env) s' K):MX d (.arr s.next 0 1 sz) sz bytes i fs pairs T t rest env (s.push (.cells row)) K:=by
 obtain ⟨s',h1,h2,h3,h4,h5,h6⟩:=h.app2 hp hr hrs hb hl
 exact ⟨_,s',(s.next+1)::E.map Prod.fst,h1,by rw [h4,k4.next_push];omega,h6,he,k s' h2 h3 h4 h5⟩
theorem a6S {t rest env K s d sz bytes rows row A B E R} (h:Rp d sz rows E) (hp:Hp s (A++E++B) R) (hr:row.length=sz) (hrs:∀r∈rows,r.length=sz) (hb:bytes<=1000) (hl:rows.length<=1000000000)
 (k:∀s',Rp (.arr (s.next+1) 0 (rows.length+1) sz) sz (rows++[row]) [(s.next+1,(rows++[row]).flatten)]->Hp s' (A++(s.next+1,(rows++[row]).flatten)::B) R->s'.next=s.next+2->(∀j,j<s.next->(∀e∈E,e.1≠j)->s'.get j=s.get j)->XQ fs [] rest ((t,.arr (s.next+1) 0 (rows.length+1) sz)::env) s' K):BM (U8 sz bytes d (.arr s.next 0 1 sz) (s.push (.cells row))) fs t rest env K:=by
 obtain ⟨s',h1,h2,h3,h4,h5,_⟩:=h.app2 hp hr hrs hb hl
 rw [h1]
 exact k s' h2 h3 h4 h5
theorem a8H {β:Type} {f:Nat->List Int->β} {q:Nat}:∀ {ids:List Nat} {l:List (List Int)},ids.length<l.length->List.zipWith f (ids++[q]) l=List.zipWith f ids l++[f q (cAt l ids.length)]
 | [],[],h=>by simp at h
 | [],a::l,_=>by simp [cAt]
 | i::ids,[],h=>by simp at h
 | i::ids,a::l,h=>by
   have ih:=a8H (f:=f) (q:=q) (ids:=ids) (l:=l) (by simpa using h)
   simp only [List.cons_append,List.zipWith_cons_cons,ih,List.length_cons]
   rfl
def a0G (ids:List Nat) (l:List (List Int)):List (List D):=List.zipWith (fun id q=>[.arr id 0 q.length 1]) ids l
def a1v (ids:List Nat) (l:List (List Int)):Hs:=List.zipWith (fun id q=>(id,P8 q)) ids l
theorem b6n:∀ {ids:List Nat} {l:List (List Int)},∀r∈a0G ids l,r.length=1
 | [],_,r,h=>by simp [a0G] at h
 | _::_,[],r,h=>by simp [a0G] at h
 | i::ids,a::l,r,h=>by
   simp only [a0G,List.zipWith_cons_cons,List.mem_cons] at h
   rcases h with rfl | h
   ·rfl
   ·exact b6n (ids:=ids) (l:=l) r h
theorem a67 {ids:List Nat} {l:List (List Int)} (h:ids.length<=l.length):(a0G ids l).length=ids.length:=by simp [a0G];omega
theorem c20 {ids:List Nat} {l:List (List Int)} {q:Nat} (h:ids.length<l.length):a0G (ids++[q]) l=a0G ids l++[[.arr q 0 (cAt l ids.length).length 1]]:=a8H h
theorem c6b {ids:List Nat} {l:List (List Int)} {q:Nat} (h:ids.length<l.length):a1v (ids++[q]) l=a1v ids l++[(q,P8 (cAt l ids.length))]:=a8H h
end Go.V
namespace Go.Proofs.YtnjlhebkhjcagaaGreat
open Go.V
set_option maxRecDepth 100000
set_option maxHeartbeats 4000000
variable {m:MdX} {mo:Mo} {ps:List (Pr×PrD)} {x:StD} {st:Stt}
theorem a7N (hm:MoF m mo ps) (ho:N6 mo) (hx:Y5 mo x st):a3O vfs 17 [.agg [m.dt,.int .i64 m.g,m.dc,m.dv,m.dp,m.ds,.bool m.b],.agg [x.da,x.dv,x.dc,.int .i64 st.hold]] fun d=>FL 4 d (Y6 (mo.moves st)):=by
 have fm:=a04 hm
 have fx:=a0D hx.f
 have om:=hm.ones
 have ox:=hx.f.ones
 have hxf:=hx.f
 have hmc:=hm.c
 have hcl:=hx.fit.chans
 have hnp:=ho.np
 have hnc:=ho.nc
 refine a3n (vf:=b1e) rfl ?_
 unfold b1e;refine zF ?_
 refine zY (aN om ox) ?_
 have hp0:Hp ((k4.empty.push (.cells [m.dt,.int .i64 m.g,m.dc,m.dv,m.dp,m.ds,.bool m.b])).push (.cells [x.da,x.dv,x.dc,.int .i64 st.hold])) [] [(0,[m.dt,.int .i64 m.g,m.dc,m.dv,m.dp,m.ds,.bool m.b]),(1,[x.da,x.dv,x.dc,.int .i64 st.hold])]:=⟨List.nodup_nil,by simp,by simp [Has],by
  intro y hy
  simp only [List.mem_cons,List.not_mem_nil,or_false] at hy
  rcases hy with rfl | rfl
  ·exact zZ0
  ·simp (disch:=(first|exact Rf.mk rfl|with_reducible assumption|omega|((repeat (first|rw [nP]|rw [nS]|rw [M3]))<;>omega)|decide)) only [go_sem,↓reduceIte]⟩
 generalize hR:[(0,[m.dt,.int .i64 m.g,m.dc,m.dv,m.dp,m.ds,.bool m.b]),(1,[x.da,x.dv,x.dc,.int .i64 st.hold])]=R at hp0
 have hg:∀ {s E},Hp s E R->s.get 0=some (.cells [m.dt,.int .i64 m.g,m.dc,m.dv,m.dp,m.ds,.bool m.b])/\s.get 1=some (.cells [x.da,x.dv,x.dc,.int .i64 st.hold]):=fun h=>by
  subst hR
  exact ⟨h.r (0,_) (by simp),h.r (1,_) (by simp)⟩
 refine a1F [0,1,2,3,4,8,9,65,83,108] (fun f s=>∃E,Rp (f 5) 4 (Y6 (mo.mvP st mo.procs.length)) E/\Hp s E R) ?_ ?_
 ·refine U2 [0,1,2,3,4,8,9,65,83,108] 0 mo.procs.length (fun i f s=>f 6=.int .i64 (i:Int)/\∃E,Rp (f 5) 4 (Y6 (mo.mvP st i)) E/\Hp s E R) (.mk rfl) (by omega) ⟨rfl,[],.inl ⟨rfl,rfl,rfl⟩,hp0⟩ ?_
  rintro i f s hi ⟨hE,E,hr,hp⟩
  obtain ⟨g0,g1⟩:=hg hp
  by_cases ci:i<mo.procs.length
  ·by_cases ch:0<=st.hold/\st.hold≠(i:Int)
   ·have e:mo.movesP st i=[]:=by rw [Mo.movesP_eq,if_pos ch]
    have h1:=ch.1
    have h2:=ch.2
    refine zY (aN hE (aN ci (aN g0 (aN g1 (aN om (aN ox (aN h1 h2))))))) ?_
    rw [Mo.mvP_succ,e,List.append_nil]
    exact ⟨E,hr,hp⟩
   ·have e:mo.movesP st i=mo.mvE st i (pAt mo.procs i).edges.length:=by rw [Mo.movesP_eq,if_neg ch]
    have hel:=(ho.pr _ (V7 ci)).el
    have h2:0<=st.hold->(st.hold=(i:Int))=True:=fun h=>eq_true (by omega)
    have hmi:(mo.mvP st i).length<=16000:=Nat.le_trans (Mo.mvP_len ho hi) (by omega)
    by_cases h1:0<=st.hold<;>simp (disch:=(first|exact Rf.mk rfl|with_reducible assumption|omega|((repeat (first|rw [nP]|rw [nS]|rw [M3]))<;>omega)|decide)) only [go_sem,↓reduceIte,hE,ci,g0,g1,om,ox,h1,h2]
    all_goals
     refine U2 [0,1,2,3,4,6,8,9,14,25,65,83,108] 0 (pAt mo.procs i).edges.length (fun j f s=>f 7=.int .i64 (j:Int)/\∃E,Rp (f 5) 4 (Y6 (mo.mvP st i++mo.mvE st i j)) E/\Hp s E R) (.mk rfl) (by omega) ⟨rfl,E,by rw [show mo.mvE st i 0=[] from rfl,List.append_nil];exact hr,hp⟩ ?_
     rintro j f s hj ⟨hE,E,hr,hp⟩
     obtain ⟨g0,g1⟩:=hg hp
     by_cases cj:j<(pAt mo.procs i).edges.length
     ·have hc:=b6d hm ho hx ci cj
      have fe:=b0z (e:=eAt (pAt mo.procs i).edges j)
      refine zY (aN hE (aN ci (aN cj (aN g0 (aN g1 (aN om (aN ox hc))))))) ?_
      refine Y4 (fun c=>?_) (fun c=>?_)
      ·refine zY (aN hE (aN ci (aN cj (aN g0 (aN g1 (aN om ox)))))) ?_
       have:=Mo.mvE_len (mo:=mo) (st:=st) (i:=i) (j:=j)
       refine a25 ⟨0,i,j,0⟩ rfl hr hp (by decide) (by simp;omega) ?_
       intro d' s' E' hr' hp'
       refine zY hE ?_
       refine ⟨cj,E',?_,hp'⟩
       rw [Mo.mvE_succ,c,if_pos rfl,<- List.append_assoc]
       exact hr'
      ·refine zY hE ?_
       refine ⟨cj,E,?_,hp⟩
       rw [Mo.mvE_succ,c,if_neg (by simp),List.append_nil]
       exact hr
     ·obtain rfl:j=(pAt mo.procs i).edges.length:=by omega
      refine zY (aN hE (aN ci (aN g0 (aN g1 (aN om ox))))) ?_
      rw [Mo.mvP_succ,e]
      exact ⟨E,hr,hp⟩
  ·obtain rfl:i=mo.procs.length:=by omega
   refine zY (aN hE (aN ci (aN g0 (aN g1 (aN om ox))))) ?_
   exact ⟨E,hr,hp⟩
 ·rintro f s ⟨E,hr,hp⟩
  obtain ⟨g0,g1⟩:=hg hp
  refine zY0 ?_
  refine a1F [0,1,2,3,4,6,7,14,25,34,49] (fun f s=>∃E,Rp (f 5) 4 (Y6 (mo.moves st)) E/\Hp s E R) ?_ ?_
  ·have hmi:(mo.mvP st mo.procs.length).length<=16000:=Nat.le_trans (Mo.mvP_len ho (Nat.le_refl _)) (by omega)
   refine U2 [0,1,2,3,4,6,7,14,25,34,49] 0 mo.chans.length (fun i f s=>f 8=.int .i64 (i:Int)/\∃E,Rp (f 5) 4 (Y6 (mo.mvP st mo.procs.length++if st.hold<0 then mo.mvC st i else [])) E/\Hp s E R) (.mk rfl) (by omega) ⟨rfl,E,?_,hp⟩ ?_
   ·rw [show mo.mvC st 0=[] from rfl,ite_self,List.append_nil];exact hr
   clear hr hp
   rintro i f s hi ⟨hE,E,hr,hp⟩
   obtain ⟨g0,g1⟩:=hg hp
   by_cases ch:st.hold<0
   ·by_cases ci:i<mo.chans.length
    ·have ci':i<st.chans.length:=by omega
     rw [if_pos ch] at hr
     have hmc':=Mo.mvC_len (mo:=mo) (st:=st) (i:=i)
     have e1:mo.mvC st (i+1)=mo.mvC st i++mo.movesC st i:=Mo.mvC_succ
     unfold Mo.movesC at e1
     by_cases l1:(R7 mo.chans i).lossy=true<;>by_cases l0:0<(cAt st.chans i).length<;>by_cases l2:(R7 mo.chans i).copying=true<;>by_cases l3:((cAt st.chans i).length:Int)<(R7 mo.chans i).room<;>simp only [l1,l0,l2,l3,decide_true,decide_false,Bool.and_true,Bool.and_false,Bool.false_and,Bool.true_and,Bool.false_eq_true,if_true,if_false,List.append_nil,List.nil_append,List.cons_append] at e1<;>simp (disch:=(first|exact Rf.mk rfl|with_reducible assumption|omega|((repeat (first|rw [nP]|rw [nS]|rw [M3]))<;>omega)|decide)) only [go_sem,↓reduceIte,hE,ch,ci,g0,g1,om,ox,l1,l0,l2,l3]
     all_goals try (first|refine a25 ⟨1,0,0,i⟩ rfl hr hp (by decide) (by simp;omega) ?_|refine a25 ⟨2,0,0,i⟩ rfl hr hp (by decide) (by simp;omega) ?_)<;>rintro d1 s1 E1 hr hp<;>obtain ⟨k0,k1⟩:=hg hp<;>simp (disch:=(first|exact Rf.mk rfl|with_reducible assumption|omega|((repeat (first|rw [nP]|rw [nS]|rw [M3]))<;>omega)|decide)) only [go_sem,↓reduceIte,hE,ch,ci,k0,k1,om,ox,l1,l0,l2,l3]
     all_goals try (refine a25 ⟨2,0,0,i⟩ rfl hr hp (by decide) (by simp;omega) ?_)<;>rintro d1 s1 E1 hr hp<;>simp (disch:=(first|exact Rf.mk rfl|with_reducible assumption|omega|((repeat (first|rw [nP]|rw [nS]|rw [M3]))<;>omega)|decide)) only [go_sem,↓reduceIte,hE]
     all_goals
      rw [e1]
      try simp only [List.append_assoc,List.cons_append,List.nil_append] at hr ⊢
      first|exact ⟨_,hr,hp⟩|exact ⟨ci,_,hr,hp⟩
    ·obtain rfl:i=mo.chans.length:=by omega
     refine zY (aN hE (aN ch (aN ci (aN g0 (aN g1 (aN om ox)))))) ?_
     rw [Mo.moves_eq]
     exact ⟨E,hr,hp⟩
   ·rw [if_neg ch] at hr
    by_cases ci:i<mo.chans.length
    ·refine zY (aN hE (aN ch (aN ci (aN g0 (aN g1 (aN om ox)))))) ?_
     rw [Mo.moves_eq,if_neg ch]
     exact ⟨E,hr,hp⟩
    ·refine zY (aN hE (aN ch (aN ci (aN g0 (aN g1 (aN om ox)))))) ?_
     rw [Mo.moves_eq,if_neg ch]
     exact ⟨E,hr,hp⟩
  ·rintro f s ⟨E,hr,hp⟩
   obtain ⟨d',h1,h2⟩:=a4g hr hp (fun e h=>h) (a50 _) (a5u _)
   refine zY h1 ?_
   exact ⟨_,rfl,h2⟩
end Go.Proofs.YtnjlhebkhjcagaaGreat
namespace Go.V
def Mo.actS (mo:Mo) (st:Stt) (e:Ed) (n:Int):Stt :=
 if e.act=1 then { st with vars:=st.vars.set e.var.toNat (N4 n (vAt mo.vars e.var.toNat).width.toNat) }
 else if e.act=2 then { st with chans:=st.chans.set e.chan.toNat (cAt st.chans e.chan.toNat++[N4 n (R7 mo.chans e.chan.toNat).width.toNat]) }
 else if e.act=3 then { st with vars:=st.vars.set e.var.toNat (N4 (zAt (cAt st.chans e.chan.toNat) 0) (vAt mo.vars e.var.toNat).width.toNat),chans:=st.chans.set e.chan.toNat ((cAt st.chans e.chan.toNat).drop 1) }
 else st
def Stt.go (st:Stt) (i to:Nat):Stt:={ st with at':=st.at'.set i to }
def Stt.free (st:Stt):Stt:={ st with hold:=-1 }
def Mo.edgeS (mo:Mo) (st:Stt) (i:Nat) (p:Pr) (e:Ed):Stt:=(mo.actS (st.go i e.to) e (mo.ex p st e 0).1).free
def Mo.doE (mo:Mo) (st:Stt) (i:Nat) (p:Pr) (e:Ed):Stt:={ mo.edgeS st i p e with hold:=if e.keep&&mo.someS (mo.edgeS st i p e) i p then (i:Int) else -1 }
def Mo.doS (mo:Mo) (st:Stt) (v:Mv):Stt :=
 if v.kind=1 then { st with chans:=st.chans.set v.chan ((cAt st.chans v.chan).drop 1) }
 else if v.kind=2 then { st with chans:=st.chans.set v.chan (cAt st.chans v.chan++[zAt (cAt st.chans v.chan) 0]) }
 else mo.doE st v.proc (pAt mo.procs v.proc) (eAt (pAt mo.procs v.proc).edges v.edge)
def Mo.mvOk (mo:Mo) (st:Stt) (v:Mv):Prop :=
 (v.kind=0/\v.proc<mo.procs.length/\v.edge<(pAt mo.procs v.proc).edges.length/\mo.can st v.proc (pAt mo.procs v.proc) (eAt (pAt mo.procs v.proc).edges v.edge)=true) ∨
 (v.kind=1/\v.chan<mo.chans.length/\0<(cAt st.chans v.chan).length) ∨
 (v.kind=2/\v.chan<mo.chans.length/\0<(cAt st.chans v.chan).length/\((cAt st.chans v.chan).length:Int)<(R7 mo.chans v.chan).room)
def ChR (s:k4) (q:D) (l:List Int):Prop:=(q=.nils/\l=[])∨q=.lst 1 (W3 l)∨∃id off cs,q=.arr id off l.length 1/\s.get id=some (.cells cs)/\off+l.length<=cs.length/\(cs.drop off).take l.length=P8 l
theorem b83 (l:List Int):(P8 l).all a0i=true:=by simp [P8,a0i]
theorem ChR.one {s:k4} {q:D} {l:List Int} (h:ChR s q l):M9 q=true:=by
 rcases h with ⟨rfl,_⟩ | rfl | ⟨id,off,cs,rfl,_⟩<;>rfl
theorem ChR.frz {s:k4} {q:D} {l:List Int} (h:ChR s q l) (n:Nat):∃q',ice s.get (n+2) q=some q'/\FI q' l:=by
 rcases h with ⟨rfl,rfl⟩ | rfl | ⟨id,off,cs,rfl,h1,h2,h3⟩
 ·exact ⟨_,rfl,.inl ⟨rfl,rfl⟩⟩
 ·exact ⟨_,rfl,.inr rfl⟩
 ·refine ⟨.lst 1 (W3 l),?_,.inr rfl⟩
  have e1:X3 s.get (.arr id off l.length 1)=some (P8 l):=by
   simp only [X3,h1,Nat.mul_one,h3]
   rw [if_pos h2]
  have e2:N2 (ice s.get (n+1)) (P8 l)=some (P8 l):=a5Q (b83 l)
  simp only [ice,e1,e2,Option.map_some]
  have e3:=a7w (P8 l)
  rw [a7O] at e3
  rw [e3]
  simp [P8,W3]
def dAt (l:List D) (i:Nat):D:=l.getD i .undef
theorem a5t {l:List D} {i:Nat} (h:i<l.length):dAt l i=l[i]:=by simp [dAt,List.getD,h]
def a0s (s:k4) (cs:List D) (st:Stt):Prop:=∃dA dV dC qs,cs=[dA,dV,dC,.int .i64 st.hold]/\SN s 1 dA (P5 st.at')/\SN s 1 dV (W3 st.vars)/\SN s 1 dC (qs.map fun q=>[q])/\(qs=[]∨∃id,dC=.arr id 0 qs.length 1)/\qs.length=st.chans.length/\∀j (h:j<qs.length) (h':j<st.chans.length),ChR s qs[j] st.chans[j]
theorem a0s.mk {s:k4} {dA dV dC:D} {st:Stt} (qs:List D) (hA:SN s 1 dA (P5 st.at')) (hV:SN s 1 dV (W3 st.vars)) (hC:SN s 1 dC (qs.map fun q=>[q])) (hn:qs=[]∨∃id,dC=.arr id 0 qs.length 1) (hl:qs.length=st.chans.length) (hq:∀j,j<qs.length->ChR s (dAt qs j) (cAt st.chans j)):a0s s [dA,dV,dC,.int .i64 st.hold] st :=
 ⟨dA,dV,dC,qs,rfl,hA,hV,hC,hn,hl,fun j h h'=>by
  have:=hq j h
  rwa [a5t h,a1x h'] at this⟩
theorem b2l {s:k4} (n:Nat):∀ {qs:List D} {l:List (List Int)},qs.length=l.length->(∀j (h:j<qs.length) (h':j<l.length),ChR s qs[j] l[j])->∃ds:List D,a1C (ice s.get (n+2)) (qs.map fun q=>[q])=some (ds.map fun d=>[d])/\ds.length=l.length/\∀i (h:i<ds.length) (h':i<l.length),FI ds[i] l[i]
 | [],[],_,_=>⟨[],rfl,rfl,fun i h=>by simp at h⟩
 | [],_::_,h,_=>by simp at h
 | _::_,[],h,_=>by simp at h
 | q::qs,a::l,h,hr=>by
   obtain ⟨ds,h1,h2,h3⟩:=b2l n (qs:=qs) (l:=l) (by simpa using h) fun j hj hj'=>hr (j+1) (by simp;omega) (by simp;omega)
   obtain ⟨d,h4,h5⟩:=(hr 0 (by simp) (by simp)).frz n
   refine ⟨d::ds,?_,by simp [h2],fun i hi hi'=>?_⟩
   ·have h4:ice s.get (n+2) q=some d:=h4
    simp only [List.map_cons,a1C,N2,h4,h1]
   ·cases i with
    | zero=>exact h5
    | succ i=>exact h3 i (by simpa using hi) (by simpa using hi')
theorem a0s.frz {s:k4} {cs:List D} {st:Stt} (h:a0s s cs st):∃x,ice s.get 20 (.agg cs)=some (.agg [x.da,x.dv,x.dc,.int .i64 st.hold])/\StF x st:=by
 obtain ⟨dA,dV,dC,qs,rfl,hA,hV,hC,hn,hl,hq⟩:=h
 obtain ⟨da,a1,b1⟩:=hA.frz1 (n:=17) (a2D _) (a7Q _)
 obtain ⟨dv,a2,b2⟩:=hV.frz1 (n:=17) (a5W _) (b9S _)
 obtain ⟨ds,h1,h2,h3⟩:=b2l 16 hl hq
 obtain ⟨dc,a3,b3⟩:=hC.frz (n:=18) (fun r hr=>by obtain ⟨x,_,rfl⟩:=List.mem_map.1 hr;rfl) h1 (fun e=>by
  rcases hn with rfl | ⟨id,hid⟩
  ·have:ds=[]:=List.length_eq_zero_iff.1 (by rw [h2,<- hl];rfl)
   rw [this]
  ·rw [hid] at e;cases e)
 refine ⟨⟨da,dv,dc⟩,?_,⟨b1,b2,ds,b3,h2,h3⟩⟩
 have e1:ice s.get 19 (.int .i64 st.hold)=some (.int .i64 st.hold):=rfl
 simp only [ice,N2,a1,a2,a3,e1,Option.map_some]
def a8s (s:k4) (n:Nat) (r:D) (st:Stt):Prop:=∃a v dC ids EC,r=.agg [.arr a 0 st.at'.length 1,.arr v 0 st.vars.length 1,dC,.int .i64 st.hold]/\ids.length=st.chans.length/\Rp dC 1 (a0G ids st.chans) EC/\Hp s ((a,W5 st.at')::(v,P8 st.vars)::(EC++a1v ids st.chans)) []/\∀w∈(a,W5 st.at')::(v,P8 st.vars)::(EC++a1v ids st.chans),n<=w.1
def qcs (ids:List Nat) (l:List (List Int)):List D:=List.zipWith (fun id q=>.arr id 0 q.length 1) ids l
theorem b6p:∀ {ids:List Nat} {l:List (List Int)},a0G ids l=(qcs ids l).map fun q=>[q]
 | [],_=>by simp [a0G,qcs]
 | _::_,[]=>by simp [a0G,qcs]
 | i::ids,a::l=>by
   have:=b6p (ids:=ids) (l:=l)
   simp only [a0G,qcs,List.zipWith_cons_cons,List.map_cons] at *
   rw [this]
theorem a7s {l:List D}:(l.map fun q=>[q]).flatten=l:=by induction l with
 | nil=>rfl
 | cons a l ih=>simp [ih]
theorem a2H {ids:List Nat} {l:List (List Int)} (h:ids.length=l.length):(qcs ids l).length=l.length:=by simp [qcs,h]
theorem a8t:∀ {ids:List Nat} {l:List (List Int)} {j:Nat},ids.length=l.length->j<l.length->(qcs ids l)[j]?=some (.arr (nAt ids j) 0 (cAt l j).length 1)
 | [],[],j,_,h=>by simp at h
 | [],_::_,j,h,_=>by simp at h
 | _::_,[],j,h,_=>by simp at h
 | i::ids,a::l,0,h,_=>by simp [qcs,nAt,cAt]
 | i::ids,a::l,j+1,h,hj=>by
   have:=a8t (ids:=ids) (l:=l) (j:=j) (by simpa using h) (by simpa using hj)
   simpa [qcs,nAt,cAt] using this
theorem b1L {ids:List Nat} {l:List (List Int)} {j:Nat} (h:ids.length=l.length) (hj:j<l.length):dAt (qcs ids l) j=.arr (nAt ids j) 0 (cAt l j).length 1:=by
 have:=a8t h hj
 simp [dAt,List.getD,this]
theorem a8w:∀ {ids:List Nat} {l:List (List Int)} {j:Nat},ids.length=l.length->j<l.length->(nAt ids j,P8 (cAt l j))∈a1v ids l
 | [],[],j,_,h=>by simp at h
 | [],_::_,j,h,_=>by simp at h
 | _::_,[],j,h,_=>by simp at h
 | i::ids,a::l,0,h,_=>by simp [a1v,nAt,cAt]
 | i::ids,a::l,j+1,h,hj=>by
   have:=a8w (ids:=ids) (l:=l) (j:=j) (by simpa using h) (by simpa using hj)
   simp only [a1v,List.zipWith_cons_cons,List.mem_cons]
   exact .inr this
theorem b4G:∀ {ids:List Nat} {l:List (List Int)},ids.length=l.length->(a1v ids l).map Prod.fst=ids
 | [],[],_=>rfl
 | [],_::_,h=>by simp at h
 | _::_,[],h=>by simp at h
 | i::ids,a::l,h=>by
   have:=b4G (ids:=ids) (l:=l) (by simpa using h)
   simp only [a1v,List.zipWith_cons_cons,List.map_cons,List.cons.injEq,true_and] at *
   exact this
structure a2l (s:k4) (n:Nat) (a v:Nat) (dC:D) (ids:List Nat) (st:Stt):Prop where
 len:ids.length=st.chans.length
 ga:s.get a=some (.cells (W5 st.at'))
 gv:s.get v=some (.cells (P8 st.vars))
 gc:(st.chans=[]/\dC=.nils)∨∃c,dC=.arr c 0 st.chans.length 1/\s.get c=some (.cells (qcs ids st.chans))/\n<=c/\c≠a/\c≠v/\∀j,j<st.chans.length->nAt ids j≠c
 gq:∀j,j<st.chans.length->s.get (nAt ids j)=some (.cells (P8 (cAt st.chans j)))/\n<=nAt ids j/\nAt ids j≠a/\nAt ids j≠v
 inj:∀i j,i<st.chans.length->j<st.chans.length->nAt ids i=nAt ids j->i=j
 av:a≠v
 na:n<=a
 nv:n<=v
theorem a8s.open {s:k4} {n:Nat} {r:D} {st:Stt} (h:a8s s n r st):∃a v dC ids,r=.agg [.arr a 0 st.at'.length 1,.arr v 0 st.vars.length 1,dC,.int .i64 st.hold]/\a2l s n a v dC ids st:=by
 obtain ⟨a,v,dC,ids,EC,rfl,hl,hr,hp,hn⟩:=h
 have nd:=hp.nd
 simp only [List.map_cons,List.map_append,b4G hl,List.nodup_cons,List.mem_cons,List.mem_append,not_or,List.nodup_append] at nd
 obtain ⟨⟨n1,n2,n3⟩,⟨n4,n5⟩,n6,n7,n8⟩:=nd
 have hm:∀j,j<st.chans.length->nAt ids j∈ids:=fun j hj=>a82 (by omega)
 refine ⟨a,v,dC,ids,rfl,hl,hp.hd,hp.tl.hd,?_,fun j hj=>?_,fun i j hi hj e=>?_,n1,hn (a,W5 st.at') (by simp),hn (v,P8 st.vars) (by simp)⟩
 ·rcases hr with ⟨rfl,h2,_⟩ | ⟨c,rfl,rfl,h3⟩
  ·refine .inl ⟨?_,rfl⟩
   have:=congrArg List.length h2
   rw [a67 (by omega)] at this
   exact List.length_eq_zero_iff.1 (by rw [<- hl];exact this)
  ·refine .inr ⟨c,by rw [a67 (by omega),hl],?_,hn (c,(a0G ids st.chans).flatten) (by simp),?_,?_,?_⟩
   ·have:=hp.tl.tl.w (c,(a0G ids st.chans).flatten) (by simp)
    rw [b6p,a7s] at this
    exact this
   ·intro e;subst e;simp at n2
   ·intro e;subst e;simp at n4
   ·intro j hj e
    exact n8 c (by simp) (nAt ids j) (hm j hj) e.symm
 ·refine ⟨hp.tl.tl.w (nAt ids j,P8 (cAt st.chans j)) (by simp [a8w hl hj]),hn (nAt ids j,P8 (cAt st.chans j)) (by simp [a8w hl hj]),?_,?_⟩
  ·intro e;rw [<- e] at n3;exact n3 (hm j hj)
  ·intro e;rw [<- e] at n5;exact n5 (hm j hj)
 ·rw [a1J (by omega),a1J (by omega)] at e
  have hpw:=List.pairwise_iff_getElem.1 n7
  rcases Nat.lt_trichotomy i j with h | h | h
  ·exact absurd e (hpw i j (by omega) (by omega) h)
  ·exact h
  ·exact absurd e.symm (hpw j i (by omega) (by omega) h)
theorem a53 {l:List D} {n:Nat} {x:D} (h:n<l.length):List.take n l++[x]++List.drop (n+1) l=l.set n x:=by
 have:=b3s (x:=x) h
 rw [<- this]
 simp [a2R]
theorem b3I (l:List Int) (n:Nat) (k:Int):(P8 l).set n (.int .i64 k)=P8 (l.set n k):=by simp [P8,List.map_set]
theorem c40 {l:List Nat} {n x:Nat} (h:n<l.length):List.take n (W5 l)++[.int .i64 (x:Int)]++List.drop (n+1) (W5 l)=W5 (l.set n x):=by rw [a53 (by simpa using h),b6k]
theorem c0Z {l:List Int} {n:Nat} {x:Int} (h:n<l.length):List.take n (P8 l)++[.int .i64 x]++List.drop (n+1) (P8 l)=P8 (l.set n x):=by rw [a53 (by simpa using h),b3I]
theorem c3g {ids:List Nat} {l:List (List Int)} {n:Nat} {x:D} (h1:ids.length=l.length) (h:n<l.length):List.take n (qcs ids l)++[x]++List.drop (n+1) (qcs ids l)=(qcs ids l).set n x:=a53 (by rw [a2H h1];exact h)
theorem c4w {l:List Int} {i:Nat} (h:i<l.length):(P8 l)[i]?=some (.int .i64 (zAt l i)):=by rw [a1I h];simp [P8,h]
theorem le_succ {a b:Nat}:(a+1<=b)=(a<b):=by apply propext;omega
attribute [go_sem] c40 c0Z c3g a2H a8t c4w b3I b6k b54 a7O le_succ
structure X5 (mo:Mo):Prop where
 ch:∀c∈mo.chans,1<=c.room/\c.room<=3/\1<=c.width/\c.width<=8
 vr:∀v∈mo.vars,1<=v.width/\v.width<=8/\N4 v.value v.width.toNat=v.value
theorem b0l {l:List D} {k j:Nat} {d:D} (hk:k<l.length):dAt (l.set k d) j=if j=k then d else dAt l j:=by
 unfold dAt
 simp only [List.getD,List.getElem?_set]
 split
 ·rename_i h;subst h;simp [hk]
 ·rename_i h;rw [if_neg (Ne.symm h)]
theorem a44 {l:List (List Int)} {k j:Nat} {d:List Int} (hk:k<l.length):cAt (l.set k d) j=if j=k then d else cAt l j:=by
 unfold cAt
 simp only [List.getD,List.getElem?_set]
 split
 ·rename_i h;subst h;simp [hk]
 ·rename_i h;rw [if_neg (Ne.symm h)]
theorem a3r {s:k4} {id:Nat} {l:List Int} (h:s.get id=some (.cells (P8 l))):ChR s (.arr id 0 l.length 1) l :=
 .inr (.inr ⟨id,0,_,rfl,h,by simp,by rw [List.drop_zero,<- a7O l,List.take_length]⟩)
theorem a5X {s:k4} {id:Nat} {l:List Int} (h:s.get id=some (.cells (P8 l))) (hl:1<l.length):ChR s (.arr id 1 (l.length-1) 1) (l.drop 1) :=
 .inr (.inr ⟨id,1,_,by simp,h,by simp;omega,by
  rw [List.length_drop,<- a7O l,<- List.length_drop,List.take_length]
  simp [P8,List.map_drop]⟩)
theorem a6i {s:k4} {l:List Int} (hl:¬ 1<l.length):ChR s (.lst 1 []) (l.drop 1):=by
 have:l.drop 1=[]:=List.length_eq_zero_iff.1 (by rw [List.length_drop];omega)
 rw [this];exact .inr (.inl rfl)
theorem a2l.chan {s S:k4} {n a v c:Nat} {ids:List Nat} {st:Stt} (h:a2l s n a v (.arr c 0 st.chans.length 1) ids st) {k:Nat} (hk:k<st.chans.length) {A:List Nat} {V:List Int} {l:List Int} {d:D} {hd:Int} (hA:A.length=st.at'.length) (hV:V.length=st.vars.length)
 (ga:S.get a=some (.cells (W5 A))) (gv:S.get v=some (.cells (P8 V))) (gc:S.get c=some (.cells ((qcs ids st.chans).set k d))) (hr:ChR S d l) (hq:∀j,j<st.chans.length->j≠k->S.get (nAt ids j)=s.get (nAt ids j)) :
 a0s S [.arr a 0 st.at'.length 1,.arr v 0 st.vars.length 1,.arr c 0 st.chans.length 1,.int .i64 hd] ⟨A,V,st.chans.set k l,hd⟩:=by
 refine a0s.mk (st:=⟨A,V,st.chans.set k l,hd⟩) ((qcs ids st.chans).set k d) (.inr (.inl ⟨a,by simp [hA],by rw [a6e];exact ga⟩)) (.inr (.inl ⟨v,by simp [hV],by rw [a4c];exact gv⟩)) (.inr (.inl ⟨c,by simp [a2H h.len],by rw [a7s];exact gc⟩)) (.inr ⟨c,by simp [a2H h.len]⟩) (by simp [a2H h.len]) fun j hj=>?_
 rw [List.length_set,a2H h.len] at hj
 rw [b0l (by rw [a2H h.len];exact hk),a44 hk]
 split
 ·exact hr
 ·rename_i hjk
  rw [b1L h.len hj]
  exact a3r (by rw [hq j hj hjk];exact (h.gq j hj).1)
theorem a2l.same {s S:k4} {n a v:Nat} {dC:D} {ids:List Nat} {st:Stt} (h:a2l s n a v dC ids st) {A:List Nat} {V:List Int} {hd:Int} (hA:A.length=st.at'.length) (hV:V.length=st.vars.length)
 (ga:S.get a=some (.cells (W5 A))) (gv:S.get v=some (.cells (P8 V))) (hq:∀j,n<=j->j<s.next->j≠a->j≠v->S.get j=s.get j) :
 a0s S [.arr a 0 st.at'.length 1,.arr v 0 st.vars.length 1,dC,.int .i64 hd] ⟨A,V,st.chans,hd⟩:=by
 refine a0s.mk (st:=⟨A,V,st.chans,hd⟩) (qcs ids st.chans) (.inr (.inl ⟨a,by simp [hA],by rw [a6e];exact ga⟩)) (.inr (.inl ⟨v,by simp [hV],by rw [a4c];exact gv⟩)) ?_ ?_ (a2H h.len) fun j hj=>?_
 ·rcases h.gc with ⟨e,rfl⟩ | ⟨c,rfl,g,nc,ca,cv,_⟩
  ·refine .inl ⟨rfl,?_⟩
   rw [e];simp [qcs]
  ·refine .inr (.inl ⟨c,by simp [a2H h.len],?_⟩)
   rw [a7s,hq c nc (M7 g) ca cv];exact g
 ·rcases h.gc with ⟨e,rfl⟩ | ⟨c,rfl,g,nc,ca,cv,_⟩
  ·left;rw [e];simp [qcs]
  ·exact .inr ⟨c,by simp [a2H h.len]⟩
 ·rw [a2H h.len] at hj
  obtain ⟨g,n1,n2,n3⟩:=h.gq j hj
  rw [b1L h.len hj]
  exact a3r (by rw [hq _ n1 (M7 g) n2 n3];exact g)
variable {fs:FuncId->Option M5}
theorem b4W {pairs T i t rest env K s q n idt bytes x cs} (hg:s.get q=some (.cells cs)) (hn:cs.length=n) (ht:s.get idt=some (.cells [x])) (hb:bytes<=1000) (hl:n<=1000000000) (he:a1T pairs i [q,s.next] T)
 (k:XX fs pairs (⟨i,none,[q,s.next]⟩::T) rest ((t,.arr s.next 0 (n+1) 1)::env) ((s.set q none).push (.cells (cs++[x]))) K):MX (.arr q 0 n 1) (.arr idt 0 1 1) 1 bytes i fs pairs T t rest env s K:=by
 subst hn
 have b3:bytes<=2 ^ 20:=Nat.le_trans hb (by decide)
 have r1:X3 s.get (.arr idt 0 1 1)=some [x]:=by simp [X3,ht]
 have b1:(cs.length+1)*bytes<=2 ^ 45:=Nat.le_trans (Nat.mul_le_mul (show cs.length+1<=1000000001 by omega) hb) (by decide)
 have b2:cs.length+1<=2 ^ 45:=by omega
 refine ⟨_,_,[q,s.next],?_,?_,fun j hj=>?_,he,k⟩
 ·unfold U8
  simp only [r1,a1E,a0z,b3,decide_true,Bool.and_self,if_true,hg,Nat.zero_add,Nat.mul_one,and_self,List.drop_zero,beq_self_eq_true]
  rw [if_neg (by omega),if_pos ⟨b1,b2⟩]
 ·simp
 ·simp only [List.mem_cons,List.not_mem_nil,or_false,not_or] at hj
  rw [k4.get_push,if_neg (by simpa using hj.2),O7 hj.1]
theorem a3Q {s:k4} {a b:D} {cs:List D} {st:Stt} {p:Bool} {f:FuncId} {pairs t rest env K} (h:a0s s cs st) (hb:PZ b) (k:∀x,StF x st->BL (some [a,.agg [x.da,x.dv,x.dc,.int .i64 st.hold],b]) p fs f pairs t rest env s K):BL (Option.map (fun l=>a::l) (N2 (ice s.get 20) [.agg cs,b])) p fs f pairs t rest env s K:=by
 obtain ⟨x,h1,h2⟩:=h.frz
 have e:N2 (ice s.get 20) [.agg cs,b]=some [.agg [x.da,x.dv,x.dc,.int .i64 st.hold],b]:=by
  simp only [N2,hb.2 s.get 17,h1]
 rw [e]
 exact k x h2
end Go.V
namespace Go.Proofs.YtnjlhebkhjcagaaGreat
open Go.V
set_option maxRecDepth 100000
set_option maxHeartbeats 4000000
variable {m:MdX} {mo:Mo} {ps:List (Pr×PrD)} {x:StD} {st:Stt}
theorem b2E (hx:StF x st) (hcl:st.chans.length<=3) (h8:St8 st) (ha:st.at'.length<=1000) (hv:st.vars.length<=1000) {s:k4}:EvP vfs 47 [.agg [x.da,x.dv,x.dc,.int .i64 st.hold]] s fun r s'=>a8s s' s.next r st/\Fr [] s s':=by
 have ox:=hx.ones
 have hlc:=b4E hx
 refine X8 (vf:=a9I) rfl ?_
 unfold a9I;refine zF ?_
 refine zY ox ?_
 have hp0:Hp ((s.push (.cells [x.da,x.dv,x.dc,.int .i64 st.hold])).push (.cells [.nils,.nils,.nils,.int .i64 0])) [(s.next+1,[.nils,.nils,.nils,.int .i64 0])] [(s.next,[x.da,x.dv,x.dc,.int .i64 st.hold])] :=
  Hp.pushW (W:=[]) ⟨List.nodup_nil,by simp,by simp [Has],by simp [Has,P1]⟩ _
 refine b1k (s:=(s.push (.cells [x.da,x.dv,x.dc,.int .i64 st.hold])).push (.cells [.nils,.nils,.nils,.int .i64 0])) hx.a (a2D _) hp0 (by decide) (by simp;omega) (by simp (disch:=(first|exact Rf.mk rfl|with_reducible assumption|omega|((repeat (first|rw [nP]|rw [nS]|rw [M3]))<;>omega)|decide)) only [go_sem,↓reduceIte]) ?_
 rintro a s1 hp1 l1 a1 u1
 have g0:=hp1.r (s.next,[x.da,x.dv,x.dc,.int .i64 st.hold]) (by simp)
 simp only [k4.next_push] at l1 a1 u1 g0
 rw [a6e] at hp1
 have f1:Fr [] s s1:=⟨by omega,fun j hj _=>by rw [u1 j (by omega),T0 (by simp;omega),T0 hj]⟩
 simp (disch:=(first|exact Rf.mk rfl|with_reducible assumption|omega|((repeat (first|rw [nP]|rw [nS]|rw [M3]))<;>omega)|decide)) only [go_sem,↓reduceIte,g0,ox,a3L]
 refine b1k (s:=s1) hx.v (a5W _) hp1 (by decide) (by simp;omega) (by simp (disch:=(first|exact Rf.mk rfl|with_reducible assumption|omega|((repeat (first|rw [nP]|rw [nS]|rw [M3]))<;>omega)|decide)) only [go_sem,↓reduceIte]) ?_
 rintro v s2 hp2 l2 a2 u2
 have g0:=hp2.r (s.next,[x.da,x.dv,x.dc,.int .i64 st.hold]) (by simp)
 rw [show (List.map (fun n=>[D.int IntKind.i64 n]) st.vars)=W3 st.vars from rfl,a4c] at hp2
 have f2:Fr [] s s2:=f1.thenS (by omega) u2
 simp (disch:=(first|exact Rf.mk rfl|with_reducible assumption|omega|((repeat (first|rw [nP]|rw [nS]|rw [M3]))<;>omega)|decide)) only [go_sem,↓reduceIte,g0,ox,List.length_map]
 have hp3:=hp2.newW (.cells [.nils,.nils,.nils,.int .i64 0]) [.arr a 0 st.at'.length 1,.arr v 0 st.vars.length 1,.nils,.int .i64 st.hold]
 have f3:Fr [] s ((s2.push (.cells [.nils,.nils,.nils,.int .i64 0])).set s2.next (some (.cells [.arr a 0 st.at'.length 1,.arr v 0 st.vars.length 1,.nils,.int .i64 st.hold]))):=f2.thenS (by simp) fun j hj=>by rw [O7 (by omega),T0 hj]
 have hq:s2.next<((s2.push (.cells [.nils,.nils,.nils,.int .i64 0])).set s2.next (some (.cells [.arr a 0 st.at'.length 1,.arr v 0 st.vars.length 1,.nils,.int .i64 st.hold]))).next:=by simp
 generalize ((s2.push (.cells [.nils,.nils,.nils,.int .i64 0])).set s2.next (some (.cells [.arr a 0 st.at'.length 1,.arr v 0 st.vars.length 1,.nils,.int .i64 st.hold])))=s3 at *
 generalize s2.next=p at *
 clear hp0 hp1 hp2 u1 u2 g0
 refine U2 [0,1,2,3] 0 st.chans.length (fun i f s'=>f 4=.int .i64 (i:Int)/\∃dC ids EC,ids.length=i/\Rp dC 1 (a0G ids st.chans) EC/\Hp s' ((p,[.arr a 0 st.at'.length 1,.arr v 0 st.vars.length 1,dC,.int .i64 st.hold])::(v,P8 st.vars)::(a,W5 st.at')::(s.next+1,[.nils,.nils,.nils,.int .i64 0])::(EC++a1v ids st.chans)) [(s.next,[x.da,x.dv,x.dc,.int .i64 st.hold])]/\(∀w∈EC++a1v ids st.chans,s.next+2<=w.1)/\Fr [] s s') (.mk rfl) (by omega) ⟨rfl,.nils,[],[],rfl,.inl ⟨rfl,rfl,rfl⟩,?_,by simp [a1v],f3⟩ ?_
 ·simpa only [a1v,List.zipWith_nil_left,List.append_nil] using hp3
 rintro i f s4 hi ⟨hE,dC,ids,EC,hil,hr,hp,hw,fr⟩
 have gp:=hp.hd
 have g0:=hp.rh
 have g1:=hp.tl.tl.tl.hd
 have oc:=hr.one
 by_cases ci:i<st.chans.length
 ·have hch:=a3q hx ci
  refine zY (aN hE (aN ci (aN gp (aN g0 (aN g1 (aN ox oc)))))) ?_
  have lp:=M7 gp
  refine b1k (s:=s4) (rows:=W3 (cAt st.chans i)) hch (a5W _) hp (by decide) (by have:=(h8.c _ (a55 ci)).1;simp;omega) (by simp (disch:=(first|exact Rf.mk rfl|with_reducible assumption|omega|((repeat (first|rw [nP]|rw [nS]|rw [M3]))<;>omega)|decide)) only [go_sem,↓reduceIte]) ?_
  rintro q s5 hp5 l5 a5 u5
  rw [a4c] at hp5
  have gp:=hp5.tl.hd
  simp (disch:=(first|exact Rf.mk rfl|with_reducible assumption|omega|((repeat (first|rw [nP]|rw [nS]|rw [M3]))<;>omega)|decide)) only [go_sem,↓reduceIte,gp,a4T]
  refine b3Q (A:=[(q,P8 (cAt st.chans i)),(p,[.arr a 0 st.at'.length 1,.arr v 0 st.vars.length 1,dC,.int .i64 st.hold]),(v,P8 st.vars),(a,W5 st.at'),(s.next+1,[.nils,.nils,.nils,.int .i64 0])]) (B:=a1v ids st.chans) (E:=EC) (sz:=1) hr (by simpa using hp5) rfl ?_ (by decide) ?_ (by simp (disch:=(first|exact Rf.mk rfl|with_reducible assumption|omega|((repeat (first|rw [nP]|rw [nS]|rw [M3]))<;>omega)|decide)) only [go_sem,↓reduceIte]) ?_
  ·exact b6n
  ·have:=a67 (ids:=ids) (l:=st.chans) (by omega)
   omega
  rintro s6 hr6 hp6 l6 u6
  have gp:=hp6.tl.hd
  refine zY (aN hE (aN ci gp)) ?_
  have e1:=c20 (q:=q) (ids:=ids) (l:=st.chans) (by omega)
  have e2:=c6b (q:=q) (ids:=ids) (l:=st.chans) (by omega)
  have e3:=a67 (ids:=ids) (l:=st.chans) (by omega)
  rw [hil] at e1 e2
  have g1':=M7 g1
  refine ⟨.arr (s5.next+1) 0 ((a0G ids st.chans).length+1) 1,ids++[q],[(s5.next+1,(a0G ids st.chans++[[D.arr q 0 (cAt st.chans i).length 1]]).flatten)],by simp [hil],?_,?_,?_,?_⟩
  ·rw [e1];exact hr6
  ·rw [e2]
   have h1:=Hp.set (A:=[(q,P8 (cAt st.chans i))]) (id:=p) hp6 [.arr a 0 st.at'.length 1,.arr v 0 st.vars.length 1,.arr (s5.next+1) 0 ((a0G ids st.chans).length+1) 1,.int .i64 st.hold]
   refine h1.perm ?_
   exact (List.perm_append_singleton (q,P8 (cAt st.chans i)) ((p,[.arr a 0 st.at'.length 1,.arr v 0 st.vars.length 1,.arr (s5.next+1) 0 ((a0G ids st.chans).length+1) 1,.int .i64 st.hold])::(v,P8 st.vars)::(a,W5 st.at')::(s.next+1,[.nils,.nils,.nils,.int .i64 0])::(s5.next+1,(a0G ids st.chans++[[D.arr q 0 (cAt st.chans i).length 1]]).flatten)::a1v ids st.chans))
  ·rw [e2]
   intro w hw1
   simp only [List.cons_append,List.nil_append,List.mem_cons,List.mem_append,List.not_mem_nil,or_false] at hw1
   rcases hw1 with rfl | hw1 | rfl
   ·simp only;omega
   ·exact hw w (by simp [hw1])
   ·simp only;omega
  ·have f5:=fr.thenS (by omega) u5
   have f6:Fr [] s s6:=⟨by have:=f5.1;omega,fun j hj hn=>by
    have h1:=f5.1
    rw [u6 j (by omega) fun e he hc=>by have:=hw e (by simp [he]);omega,f5.2 j hj hn]⟩
   exact f6.thenSet _ (.inr (by omega))
 ·have l1:=M7 g1
  refine zY (aN hE (aN ci (aN gp (aN g0 (aN g1 (aN ox oc)))))) ?_
  obtain rfl:i=st.chans.length:=by omega
  refine X1 ?_
  refine ⟨⟨a,v,dC,ids,EC,rfl,hil,hr,?_,?_⟩,?_⟩
  ·have h1:Hp s4 ((s.next+1,[.nils,.nils,.nils,.int .i64 0])::(a,W5 st.at')::(v,P8 st.vars)::(EC++a1v ids st.chans)) []:=(hp.tl.rt).perm (by
    refine (List.Perm.swap _ _ _).trans ?_
    refine (List.Perm.cons _ (List.Perm.swap _ _ _)).trans ?_
    exact List.Perm.swap _ _ _)
   exact (Hp.set (A:=[]) h1 [.arr a 0 st.at'.length 1,.arr v 0 st.vars.length 1,dC,.int .i64 st.hold]).tl
  ·intro w hw1
   simp only [List.mem_cons] at hw1
   rcases hw1 with rfl | rfl | hw1
   ·simp only;omega
   ·simp only;omega
   ·have:=hw w hw1;omega
  ·exact fr.thenSet _ (.inr (by omega))
end Go.Proofs.YtnjlhebkhjcagaaGreat
namespace Go.V
theorem a8f {n:Int} {w:Nat} (h1:1<=w):N4 (N4 n w) w=N4 n w:=by
 have:=b0Y (n:=n) (w:=w) (by omega)
 exact a9C (by omega) this.1 this.2
theorem b3Z {n:Int} {w:Nat} (h1:1<=w) (h2:w<=8):I8 (N4 n w):=by
 have h:=b0Y (n:=n) (w:=w) (by omega)
 have hc:w=1∨w=2∨w=3∨w=4∨w=5∨w=6∨w=7∨w=8:=by omega
 unfold I8
 rcases hc with rfl | rfl | rfl | rfl | rfl | rfl | rfl | rfl<;>simp at h<;>omega
theorem a6H {l:List Nat} {k j:Nat} {d:Nat} (hk:k<l.length):nAt (l.set k d) j=if j=k then d else nAt l j:=by
 unfold nAt
 simp only [List.getD,List.getElem?_set]
 split
 ·rename_i h;subst h;simp [hk]
 ·rename_i h;rw [if_neg (Ne.symm h)]
theorem b1n {l:List Int} {k j:Nat} {d:Int} (hk:k<l.length):zAt (l.set k d) j=if j=k then d else zAt l j:=by
 unfold zAt
 simp only [List.getD,List.getElem?_set]
 split
 ·rename_i h;subst h;simp [hk]
 ·rename_i h;rw [if_neg (Ne.symm h)]
structure a06 (mo:Mo) (st:Stt):Prop where
 at':st.at'.length=mo.procs.length
 vars:st.vars.length=mo.vars.length
 chans:st.chans.length=mo.chans.length
 pl:∀i,i<mo.procs.length->nAt st.at' i<(pAt mo.procs i).places
 vr:∀i,i<mo.vars.length->N4 (zAt st.vars i) (vAt mo.vars i).width.toNat=zAt st.vars i
 cl:∀i,i<mo.chans.length->((cAt st.chans i).length:Int)<=(R7 mo.chans i).room
 cv:∀i,i<mo.chans.length->∀n∈cAt st.chans i,N4 n (R7 mo.chans i).width.toNat=n
 hold:-1<=st.hold/\st.hold<(mo.procs.length:Int)
theorem a0t {mo:Mo} {st:Stt}:a06 mo st↔Fit mo st:=by
 constructor
 ·rintro ⟨h1,h2,h3,h4,h5,h6,h7,h8⟩
  refine ⟨h1,h2,h3,fun i h h'=>?_,fun i h h'=>?_,fun i h h'=>?_,fun i h h'=>?_,h8⟩
  ·have:=h4 i h';rwa [a1J h,a2Q h'] at this
  ·have:=h5 i h';rwa [a1I h,a5b h'] at this
  ·have:=h6 i h';rwa [a1x h,a2A h'] at this
  ·have:=h7 i h';rwa [a1x h,a2A h'] at this
 ·rintro ⟨h1,h2,h3,h4,h5,h6,h7,h8⟩
  refine ⟨h1,h2,h3,fun i h'=>?_,fun i h'=>?_,fun i h'=>?_,fun i h'=>?_,h8⟩
  ·have h:i<st.at'.length:=by omega
   rw [a1J h,a2Q h'];exact h4 i h h'
  ·have h:i<st.vars.length:=by omega
   rw [a1I h,a5b h'];exact h5 i h h'
  ·have h:i<st.chans.length:=by omega
   rw [a1x h,a2A h'];exact h6 i h h'
  ·have h:i<st.chans.length:=by omega
   rw [a1x h,a2A h'];exact h7 i h h'
theorem a2k {mo:Mo} (hf:X5 mo) {st:Stt} (h:Fit mo st):St8 st:=by
 have h:=a0t.2 h
 refine ⟨fun n hn=>?_,fun l hl=>?_⟩
 ·obtain ⟨i,hi,rfl⟩:=List.getElem_of_mem hn
  have hi':i<mo.vars.length:=by rw [<- h.vars];exact hi
  have:=h.vr i hi'
  rw [a1I hi] at this
  rw [<- this]
  have:=hf.vr _ (a2O hi')
  exact b3Z (by omega) (by omega)
 ·obtain ⟨i,hi,rfl⟩:=List.getElem_of_mem hl
  have hi':i<mo.chans.length:=by rw [<- h.chans];exact hi
  have h1:=h.cl i hi'
  have h2:=h.cv i hi'
  rw [a1x hi] at h1 h2
  have h3:=hf.ch _ (a2S hi')
  refine ⟨by omega,fun n hn=>?_⟩
  rw [<- h2 n hn]
  exact b3Z (by omega) (by omega)
theorem a06.var {mo:Mo} (hf:X5 mo) {st:Stt} (h:a06 mo st) {k:Nat} (hk:k<mo.vars.length) (n:Int):a06 mo { st with vars:=st.vars.set k (N4 n (vAt mo.vars k).width.toNat) }:=by
 refine ⟨h.at',by simp [h.vars],h.chans,h.pl,fun i hi=>?_,h.cl,h.cv,h.hold⟩
 rw [b1n (by rw [h.vars];exact hk)]
 split
 ·rename_i e;subst e
  have:=hf.vr _ (a2O hk)
  exact a8f (by omega)
 ·exact h.vr i hi
theorem a06.chan {mo:Mo} {st:Stt} (h:a06 mo st) {k:Nat} (hk:k<mo.chans.length) {l:List Int} (hl:(l.length:Int)<=(R7 mo.chans k).room) (hv:∀n∈l,N4 n (R7 mo.chans k).width.toNat=n):a06 mo { st with chans:=st.chans.set k l }:=by
 refine ⟨h.at',h.vars,by simp [h.chans],h.pl,h.vr,fun i hi=>?_,fun i hi=>?_,h.hold⟩
 ·simp only [a44 (by rw [h.chans];exact hk)]
  split
  ·rename_i e;subst e;exact hl
  ·exact h.cl i hi
 ·simp only [a44 (by rw [h.chans];exact hk)]
  split
  ·rename_i e;subst e;exact hv
  ·exact h.cv i hi
theorem a06.go {mo:Mo} {st:Stt} (h:a06 mo st) {p to:Nat} (hp:p<mo.procs.length) (ht:to<(pAt mo.procs p).places):a06 mo (st.go p to):=by
 refine ⟨by simp [Stt.go,h.at'],h.vars,h.chans,fun i hi=>?_,h.vr,h.cl,h.cv,h.hold⟩
 simp only [Stt.go,a6H (by rw [h.at'];exact hp)]
 split
 ·rename_i e;subst e;exact ht
 ·exact h.pl i hi
theorem a06.hd {mo:Mo} {st:Stt} (h:a06 mo st) {z:Int} (hz:-1<=z/\z<(mo.procs.length:Int)):a06 mo { st with hold:=z }:=⟨h.at',h.vars,h.chans,h.pl,h.vr,h.cl,h.cv,hz⟩
theorem a06.act {mo:Mo} (hf:X5 mo) {st:Stt} (h:a06 mo st) {pl:Nat} {vs:List Nat} {e:Ed} (he:a2N mo.tree mo.chans.length pl vs e) (hv:∀v∈vs,v<mo.vars.length) (h2:e.act=2->((cAt st.chans e.chan.toNat).length:Int)<(R7 mo.chans e.chan.toNat).room) (n:Int):a06 mo (mo.actS st e n):=by
 unfold Mo.actS
 split
 ·rename_i h1
  obtain ⟨k,hk,e1⟩:=he.v1 (.inl h1)
  rw [e1,Int.toNat_natCast]
  exact h.var hf (hv k hk) n
 split
 ·rename_i _ h1
  obtain ⟨k,e1,hk⟩:=he.c1 (.inl h1)
  have h2:=h2 h1
  rw [e1,Int.toNat_natCast] at *
  refine h.chan hk (by simp;omega) fun z hz=>?_
  rcases List.mem_append.1 hz with hz | hz
  ·exact h.cv k hk z hz
  ·simp only [List.mem_singleton] at hz
   subst hz
   have:=hf.ch _ (a2S hk)
   exact a8f (by omega)
 split
 ·rename_i _ _ h1
  obtain ⟨k,hk,e1⟩:=he.v1 (.inr h1)
  obtain ⟨q,e2,hq⟩:=he.c1 (.inr h1)
  rw [e1,e2,Int.toNat_natCast,Int.toNat_natCast]
  have h3:=h.var hf (hv k hk) (zAt (cAt st.chans q) 0)
  refine h3.chan hq ?_ fun z hz=>?_
  ·have:=h.cl q hq
   rw [List.length_drop];omega
  ·exact h.cv q hq z (List.mem_of_mem_drop hz)
 ·exact h
theorem b1Y {mo:Mo} (ho:N6 mo) (hf:X5 mo) {st:Stt} (h:a06 mo st) {p:Nat} (hp:p<mo.procs.length) {e:Ed} (he:e∈(pAt mo.procs p).edges) (hcan:mo.can st p (pAt mo.procs p) e=true):a06 mo (mo.edgeS st p (pAt mo.procs p) e):=by
 have hpo:=ho.pr _ (V7 hp)
 have heo:=hpo.inv.ed e he
 unfold Mo.edgeS Stt.free
 refine a06.hd ?_ ⟨by omega,by omega⟩
 refine (h.go hp heo.to).act hf heo hpo.var (fun h2=>?_) _
 unfold Mo.can at hcan
 simp only [h2,if_true,Bool.and_eq_true,decide_eq_true_eq] at hcan
 exact hcan.2
theorem b0W {mo:Mo} (ho:N6 mo) (hf:X5 mo) {st:Stt} (h:Fit mo st) {v:Mv} (hv:mo.mvOk st v):Fit mo (mo.doS st v):=by
 have h:=a0t.2 h
 refine a0t.1 ?_
 unfold Mo.doS
 rcases hv with ⟨hk,hp,he,hcan⟩ | ⟨hk,hc,hlen⟩ | ⟨hk,hc,hlen,hroom⟩
 ·rw [if_neg (by omega),if_neg (by omega)]
  unfold Mo.doE
  refine (b1Y ho hf h hp (a05 he) hcan).hd ?_
  split<;>constructor<;>omega
 ·rw [if_pos hk]
  refine h.chan hc ?_ fun z hz=>h.cv _ hc z (List.mem_of_mem_drop hz)
  have:=h.cl _ hc
  rw [List.length_drop];omega
 ·rw [if_neg (by omega),if_pos hk]
  refine h.chan hc (by simp;omega) fun z hz=>?_
  rcases List.mem_append.1 hz with hz | hz
  ·exact h.cv _ hc z hz
  ·simp only [List.mem_singleton] at hz
   subst hz
   exact h.cv _ hc _ (a4V hlen)
theorem b58 {α:Type} (n:Nat) (a:α):List.replicate (n+1) a=List.replicate n a++[a]:=List.replicate_succ'
theorem b64 (n:Nat):P5 (List.replicate n 0)++[[.int .i64 0]]=P5 (List.replicate (n+1) 0):=by
 rw [b58];simp [P5]
theorem b6z {l:List Int} {i:Nat} (h:i<l.length):W3 (l.take i)++[[.int .i64 (zAt l i)]]=W3 (l.take (i+1)):=by
 rw [a1I h,List.take_add_one,List.getElem?_eq_getElem h]
 unfold W3
 rw [List.map_append];rfl
def Mo.vals (mo:Mo):List Int:=mo.vars.map Vr.value
theorem b0p {mo:Mo} {i:Nat} (h:i<mo.vars.length):zAt mo.vals i=(vAt mo.vars i).value:=by
 rw [a1I (by simpa [Mo.vals] using h),a5b h];simp [Mo.vals]
def a1o (n:Nat):List (List D):=List.replicate n [.nils]
theorem c3w (n:Nat):∀r∈a1o n,r.length=1:=fun r h=>by rw [List.eq_of_mem_replicate h];rfl
theorem c6s (n:Nat):a1o n++[[.nils]]=a1o (n+1):=(b58 n _).symm
theorem Hp.addW {s:k4} {W R:Hs} (h:Hp s W R) {id:Nat} {cs:List D} (hg:s.get id=some (.cells cs)) (h1:∀w∈W,w.1≠id) (h2:∀r∈R,r.1≠id):Hp s ((id,cs)::W) R:=by
 refine ⟨?_,?_,?_,h.r⟩
 ·rw [List.map_cons,List.nodup_cons]
  refine ⟨fun hm=>?_,h.nd⟩
  obtain ⟨w,hw,e⟩:=List.mem_map.1 hm
  exact h1 w hw e
 ·intro w hw r hr
  rcases List.mem_cons.1 hw with rfl | hw
  ·exact (h2 r hr).symm
  ·exact h.ap w hw r hr
 ·intro w hw
  rcases List.mem_cons.1 hw with rfl | hw
  ·exact hg
  ·exact h.w w hw
theorem Hp.addR1 {s:k4} {W R:Hs} (h:Hp s W R) {id:Nat} {cs:List D} (hg:s.get id=some (.cells cs)) (h1:∀w∈W,w.1≠id):Hp s W ((id,cs)::R):=by
 refine ⟨h.nd,?_,h.w,?_⟩
 ·intro w hw r hr
  rcases List.mem_cons.1 hr with rfl | hr
  ·exact h1 w hw
  ·exact h.ap w hw r hr
 ·intro r hr
  rcases List.mem_cons.1 hr with rfl | hr
  ·exact hg
  ·exact h.r r hr
theorem Hp.ne {s:k4} {A B C R:Hs} {a b:Nat×List D} (h:Hp s (A++a::(B++b::C)) R):a.1≠b.1:=by
 have:=h.nd
 rw [List.map_append,List.map_cons,List.map_append,List.map_cons,List.nodup_append,List.nodup_cons] at this
 exact fun e=>this.2.1.1 (by simp [e])
theorem Hp.neAll {s:k4} {a:Nat×List D} {W R:Hs} (h:Hp s (a::W) R):∀w∈W,w.1≠a.1:=by
 have:=h.nd
 rw [List.map_cons,List.nodup_cons] at this
 exact fun w hw e=>this.1 (by rw [<- e];exact List.mem_map_of_mem hw)
theorem b0t {d:D} {rows:List (List D)} {E:Hs} (h:Rp d 1 rows E) (hn:0<rows.length):∃a,d=.arr a 0 rows.length 1/\E=[(a,rows.flatten)]:=by
 rcases h with ⟨_,rfl,_⟩ | ⟨a,h1,h2,_⟩
 ·simp at hn
 ·exact ⟨a,h1,h2⟩
theorem b5t {a:Nat} {rows:List (List D)} (hn:0<rows.length):Rp (.arr a 0 rows.length 1) 1 rows [(a,rows.flatten)]:=.inr ⟨a,rfl,rfl,fun e=>by subst e;simp at hn⟩
theorem c6Q (n:Nat):(a1o n).flatten=List.replicate n .nils:=by
 induction n with
 | zero=>rfl
 | succ n ih=>rw [show a1o (n+1)=[.nils]::a1o n from rfl,List.flatten_cons,ih];rfl
theorem Rp.chr {s:k4} {q:D} {l:List Int} {E:Hs} (h:Rp q 1 (W3 l) E) (he:Has s E):ChR s q l:=by
 rcases h with ⟨rfl,h2,_⟩ | ⟨id,h1,rfl,_⟩
 ·refine .inl ⟨rfl,?_⟩
  cases l with
  | nil=>rfl
  | cons a l=>simp [W3] at h2
 ·rw [a4T] at h1
  subst h1
  have:=he (id,(W3 l).flatten) (by simp)
  rw [a4c] at this
  exact a3r this
theorem b5h {n:Nat} {d:D} {j:Nat} (h:j<n):dAt (List.replicate n d) j=d:=by rw [a5t (by simpa using h),List.getElem_replicate]
theorem a54 {n:Nat} {j:Nat}:cAt (List.replicate n []) j=[]:=by
 unfold cAt
 simp only [List.getD,List.getElem?_replicate]
 split<;>rfl
end Go.V
namespace Go.Proofs.YtnjlhebkhjcagaaGreat
open Go.V
set_option maxRecDepth 100000
set_option maxHeartbeats 4000000
variable {m:MdX} {mo:Mo} {ps:List (Pr×PrD)} {x:StD} {st:Stt}
theorem a7P {d:D} {raw:List Int} (hd:FI d raw) (hr:∀n∈raw,a0S n) {k n:Nat} (hn:0<n) (hn2:n<=1000000) (hk:k<=1000000):∃z:Nat,z<n/\Eqc vfs 37 [d,.int .i64 (k:Int),.int .i64 (n:Int)] (.int .i64 (z:Int)):=by
 by_cases h0:raw.length=0
 ·refine ⟨0,hn,S5 ?_⟩
  refine P0 (vf:=a4j) rfl ?_
  unfold a4j;refine zF ?_
  exact zZ h0
 ·have hkm:(k:Int).tmod (raw.length:Int)=((k % raw.length:Nat):Int):=rfl
  have hkl:k % raw.length<raw.length:=Nat.mod_lt _ (by omega)
  have hz:=hr _ (a4V hkl)
  have n0:¬ n=0:=by omega
  have n1:¬ (n:Int)=0:=by omega
  have n2:¬ (raw.length:Int)=0:=by omega
  by_cases c:(zAt raw (k % raw.length)).tmod (n:Int)<0
  ·have h1:-(n:Int)<(zAt raw (k % raw.length)).tmod (n:Int):=Int.lt_tmod_of_pos _ (by omega)
   have e:(zAt raw (k % raw.length)).tmod (n:Int)+(n:Int)=(((zAt raw (k % raw.length)).tmod (n:Int)+(n:Int)).toNat:Int):=by omega
   refine ⟨((zAt raw (k % raw.length)).tmod (n:Int)+(n:Int)).toNat,by omega,S5 ?_⟩
   refine P0 (vf:=a4j) rfl ?_
   unfold a4j;refine zF ?_
   refine zY (aN h0 (aN n0 (aN n1 (aN n2 (aN hkm c))))) ?_
   exact e
  ·have h1:(zAt raw (k % raw.length)).tmod (n:Int)<(n:Int):=Int.tmod_lt_of_pos _ (by omega)
   refine ⟨((zAt raw (k % raw.length)).tmod (n:Int)).toNat,by omega,S5 ?_⟩
   refine P0 (vf:=a4j) rfl ?_
   unfold a4j;refine zF ?_
   refine zY (aN h0 (aN n0 (aN n1 (aN n2 (aN hkm c))))) ?_
   omega
def c5s (mo:Mo) (s:k4) (n:Nat) (r:D):Prop:=∃dA dV dC EA EV EC,r=.agg [dA,dV,dC,.int .i64 (-1)]/\Rp dA 1 (P5 (List.replicate mo.procs.length 0)) EA/\Rp dV 1 (W3 mo.vals) EV/\Rp dC 1 (a1o mo.chans.length) EC/\Hp s (EA++EV++EC) []/\∀w∈EA++EV++EC,n<=w.1
theorem b2S (hm:MoF m mo ps) (ho:N6 mo) {s:k4}:EvP vfs 31 [.agg [m.dt,.int .i64 m.g,m.dc,m.dv,m.dp,m.ds,.bool m.b]] s fun r s'=>c5s mo s' s.next r/\Fr [] s s':=by
 have om:=hm.ones
 have hmv:=hm.v
 have hmc:=hm.c
 have hnp:=ho.np
 have hnv:=ho.nv
 have hnc:=ho.nc
 have hvl:mo.vals.length=mo.vars.length:=by simp [Mo.vals]
 refine X8 (vf:=a8h) rfl ?_
 unfold a8h;refine zF ?_
 refine zY om ?_
 have hp0:Hp ((s.push (.cells [m.dt,.int .i64 m.g,m.dc,m.dv,m.dp,m.ds,.bool m.b])).push (.cells [.nils,.nils,.nils,.int .i64 0])) [(s.next+1,[.nils,.nils,.nils,.int .i64 0])] [(s.next,[m.dt,.int .i64 m.g,m.dc,m.dv,m.dp,m.ds,.bool m.b])]:=by
  have:=Hp.pushW (s:=s.push (.cells [m.dt,.int .i64 m.g,m.dc,m.dv,m.dp,m.ds,.bool m.b])) (W:=[]) (R:=[(s.next,[m.dt,.int .i64 m.g,m.dc,m.dv,m.dp,m.ds,.bool m.b])]) ⟨List.nodup_nil,by simp,by simp [Has],by simp [Has,P1]⟩ [.nils,.nils,.nils,.int .i64 0]
  simpa using this
 have hp1:=hp0.newW (.cells [.nils,.nils,.nils,.int .i64 0]) [.nils,.nils,.nils,.int .i64 (-1)]
 simp only [k4.next_push] at hp1
 have fr1:Fr [] s ((((s.push (.cells [m.dt,.int .i64 m.g,m.dc,m.dv,m.dp,m.ds,.bool m.b])).push (.cells [.nils,.nils,.nils,.int .i64 0])).push (.cells [.nils,.nils,.nils,.int .i64 0])).set (s.next+1+1) (some (.cells [.nils,.nils,.nils,.int .i64 (-1)]))):=(((Fr.push _).thenPush _).thenPush _).thenSet _ (.inr (by omega))
 generalize (((s.push (.cells [m.dt,.int .i64 m.g,m.dc,m.dv,m.dp,m.ds,.bool m.b])).push (.cells [.nils,.nils,.nils,.int .i64 0])).push (.cells [.nils,.nils,.nils,.int .i64 0])).set (s.next+1+1) (some (.cells [.nils,.nils,.nils,.int .i64 (-1)]))=s1 at *
 generalize hp:s.next+1+1=p at *
 generalize hq:s.next+1=q at *
 refine a1F [0,1,2,3,5,6,24,42] (fun f s'=>∃dA EA,Rp dA 1 (P5 (List.replicate mo.procs.length 0)) EA/\Hp s' ((p,[dA,.nils,.nils,.int .i64 (-1)])::(q,[.nils,.nils,.nils,.int .i64 0])::EA) [(s.next,[m.dt,.int .i64 m.g,m.dc,m.dv,m.dp,m.ds,.bool m.b])]/\(∀w∈EA,s.next<=w.1)/\Fr [] s s') ?_ ?_
 ·refine U2 [0,1,2,3,5,6,24,42] 0 mo.procs.length (fun i f s'=>f 4=.int .i64 (i:Int)/\∃dA EA,Rp dA 1 (P5 (List.replicate i 0)) EA/\Hp s' ((p,[dA,.nils,.nils,.int .i64 (-1)])::(q,[.nils,.nils,.nils,.int .i64 0])::EA) [(s.next,[m.dt,.int .i64 m.g,m.dc,m.dv,m.dp,m.ds,.bool m.b])]/\(∀w∈EA,s.next<=w.1)/\Fr [] s s') (.mk rfl) (by omega) ⟨rfl,.nils,[],.inl ⟨rfl,rfl,rfl⟩,hp1,by simp,fr1⟩ ?_
  rintro i f s2 hi ⟨hE,dA,EA,hr,hp2,hw,fr⟩
  have g0:=hp2.rh
  have gp:=hp2.hd
  have o1:=hr.one
  have lp:=M7 gp
  by_cases ci:i<mo.procs.length
  ·refine zY (aN hE (aN ci (aN g0 (aN gp (aN om o1))))) ?_
   refine a6S (A:=[(p,[dA,.nils,.nils,.int .i64 (-1)]),(q,[.nils,.nils,.nils,.int .i64 0])]) (B:=[]) hr (by simpa using hp2) rfl (a2D _) (by decide) (by simp;omega) ?_
   rintro s3 hr3 hp3 l3 u3
   have gp:=hp3.hd
   refine zY (aN hE gp) ?_
   refine ⟨ci,_,_,by rw [<- b64];exact hr3,Hp.set (A:=[]) hp3 _,by simp;omega,?_⟩
   have f3:Fr [] s s3:=⟨by have:=fr.1;omega,fun j hj hn=>by
    have:=fr.1
    rw [u3 j (by omega) fun e he hc=>by have:=hw e he;omega,fr.2 j hj hn]⟩
   exact f3.thenSet _ (.inr (by omega))
  ·obtain rfl:i=mo.procs.length:=by omega
   refine zY (aN hE (aN ci (aN g0 (aN gp (aN om o1))))) ?_
   exact ⟨_,_,hr,hp2,hw,fr⟩
 ·rintro f s2 ⟨dA,EA,hrA,hp2,hwA,fr2⟩
  refine zY0 ?_
  refine a1F [0,1,2,3,4,6,12,42] (fun f s'=>∃dV EV,Rp dV 1 (W3 mo.vals) EV/\Hp s' ((p,[dA,dV,.nils,.int .i64 (-1)])::(q,[.nils,.nils,.nils,.int .i64 0])::(EA++EV)) [(s.next,[m.dt,.int .i64 m.g,m.dc,m.dv,m.dp,m.ds,.bool m.b])]/\(∀w∈EA++EV,s.next<=w.1)/\Fr [] s s') ?_ ?_
  ·refine U2 [0,1,2,3,4,6,12,42] 0 mo.vars.length (fun i f s'=>f 5=.int .i64 (i:Int)/\∃dV EV,Rp dV 1 (W3 (mo.vals.take i)) EV/\Hp s' ((p,[dA,dV,.nils,.int .i64 (-1)])::(q,[.nils,.nils,.nils,.int .i64 0])::(EA++EV)) [(s.next,[m.dt,.int .i64 m.g,m.dc,m.dv,m.dp,m.ds,.bool m.b])]/\(∀w∈EA++EV,s.next<=w.1)/\Fr [] s s') (.mk rfl) (by omega) ⟨rfl,.nils,[],.inl ⟨rfl,rfl,rfl⟩,by simpa using hp2,by simpa using hwA,fr2⟩ ?_
   rintro i f s2 hi ⟨hE,dV,EV,hr,hp2,hw,fr⟩
   have g0:=hp2.rh
   have gp:=hp2.hd
   have o1:=hr.one
   have o2:=hrA.one
   have lp:=M7 gp
   by_cases ci:i<mo.vars.length
   ·refine zY (aN hE (aN ci (aN g0 (aN gp (aN om (aN o1 o2)))))) ?_
    refine a6S (A:=(p,[dA,dV,.nils,.int .i64 (-1)])::(q,[.nils,.nils,.nils,.int .i64 0])::EA) (B:=[]) hr (by simpa using hp2) rfl (a5W _) (by decide) (by simp;omega) ?_
    rintro s3 hr3 hp3 l3 u3
    have gp:=hp3.hd
    refine zY (aN hE (aN gp o2)) ?_
    have f3:Fr [] s s3:=⟨by have:=fr.1;omega,fun j hj hn=>by
     have:=fr.1
     rw [u3 j (by omega) fun e he hc=>by have:=hw e (by simp [he]);omega,fr.2 j hj hn]⟩
    refine ⟨ci,_,_,by rw [<- b6z (by omega),b0p ci];exact hr3,by simpa using Hp.set (A:=[]) hp3 _,?_,f3.thenSet _ (.inr (by omega))⟩
    intro w hw1
    rcases List.mem_append.1 hw1 with h | h
    ·exact hw w (by simp [h])
    ·simp only [List.mem_singleton] at h;subst h;have:=fr.1;simp only;omega
   ·obtain rfl:i=mo.vars.length:=by omega
    refine zY (aN hE (aN ci (aN g0 (aN gp (aN om (aN o1 o2)))))) ?_
    rw [<- hvl,List.take_length] at hr
    exact ⟨_,_,hr,hp2,hw,fr⟩
  ·rintro f s2 ⟨dV,EV,hrV,hp2,hwV,fr2⟩
   refine zY0 ?_
   refine a1F [0,1,2,3,4,5,12,24] (fun f s'=>∃dC EC,Rp dC 1 (a1o mo.chans.length) EC/\Hp s' ((p,[dA,dV,dC,.int .i64 (-1)])::(q,[.nils,.nils,.nils,.int .i64 0])::(EA++EV++EC)) [(s.next,[m.dt,.int .i64 m.g,m.dc,m.dv,m.dp,m.ds,.bool m.b])]/\(∀w∈EA++EV++EC,s.next<=w.1)/\Fr [] s s') ?_ ?_
   ·refine U2 [0,1,2,3,4,5,12,24] 0 mo.chans.length (fun i f s'=>f 6=.int .i64 (i:Int)/\∃dC EC,Rp dC 1 (a1o i) EC/\Hp s' ((p,[dA,dV,dC,.int .i64 (-1)])::(q,[.nils,.nils,.nils,.int .i64 0])::(EA++EV++EC)) [(s.next,[m.dt,.int .i64 m.g,m.dc,m.dv,m.dp,m.ds,.bool m.b])]/\(∀w∈EA++EV++EC,s.next<=w.1)/\Fr [] s s') (.mk rfl) (by omega) ⟨rfl,.nils,[],.inl ⟨rfl,rfl,rfl⟩,by simpa using hp2,by simpa using hwV,fr2⟩ ?_
    rintro i f s2 hi ⟨hE,dC,EC,hr,hp2,hw,fr⟩
    have g0:=hp2.rh
    have gp:=hp2.hd
    have o1:=hr.one
    have o2:=hrA.one
    have o3:=hrV.one
    have lp:=M7 gp
    by_cases ci:i<mo.chans.length
    ·refine zY (aN hE (aN ci (aN g0 (aN gp (aN om (aN o1 (aN o2 o3))))))) ?_
     refine a6S (A:=(p,[dA,dV,dC,.int .i64 (-1)])::(q,[.nils,.nils,.nils,.int .i64 0])::(EA++EV)) (B:=[]) hr (by simpa using hp2) rfl (c3w _) (by decide) (by simp [a1o];omega) ?_
     rintro s3 hr3 hp3 l3 u3
     have gp:=hp3.hd
     refine zY (aN hE (aN gp (aN o2 o3))) ?_
     have f3:Fr [] s s3:=⟨by have:=fr.1;omega,fun j hj hn=>by
      have:=fr.1
      rw [u3 j (by omega) fun e he hc=>by have:=hw e (by simp [he]);omega,fr.2 j hj hn]⟩
     refine ⟨ci,_,_,by rw [<- c6s];exact hr3,by simpa using Hp.set (A:=[]) hp3 _,?_,f3.thenSet _ (.inr (by omega))⟩
     intro w hw1
     rcases List.mem_append.1 hw1 with h | h
     ·exact hw w (List.mem_append_left _ h)
     ·simp only [List.mem_singleton] at h;subst h;have:=fr.1;simp only;omega
    ·obtain rfl:i=mo.chans.length:=by omega
     refine zY (aN hE (aN ci (aN g0 (aN gp (aN om (aN o1 (aN o2 o3))))))) ?_
     exact ⟨_,_,hr,hp2,hw,fr⟩
   ·rintro f s2 ⟨dC,EC,hrC,hp2,hwC,fr2⟩
    have gp:=hp2.hd
    have gq:=hp2.tl.hd
    have o1:=hrC.one
    have o2:=hrA.one
    have o3:=hrV.one
    have lq:=M7 gq
    have lp:=M7 gp
    refine zY (aN gp (aN gq (aN o1 (aN o2 o3)))) ?_
    refine X1 ⟨⟨dA,dV,dC,EA,EV,EC,rfl,hrA,hrV,hrC,?_,hwC⟩,fr2.thenSet _ (.inr (by omega))⟩
    exact (Hp.set (A:=[]) hp2.tl.rt _).tl
end Go.Proofs.YtnjlhebkhjcagaaGreat
namespace Go.Proofs.YtnjlhebkhjcagaaGreat
open Go.V
set_option maxRecDepth 100000
set_option maxHeartbeats 4000000
variable {m:MdX} {mo:Mo} {ps:List (Pr×PrD)} {x:StD} {st:Stt}
theorem b6b {x w:Int} (h1:-4294967296<=x) (h2:x<=4294967296) (h3:1<=w) (h4:w<=8):Eqc vfs 38 [.int .i64 x,.int .i64 w] (.int .i64 (N4 x w.toNat)):=a2w (a7r (x:=x) (n:=w) (w:=w.toNat) (by omega) ⟨by omega,by omega⟩) rfl
theorem c5N (hm:MoF m mo ps) (ho:N6 mo) (hf:X5 mo) {d:D} {raw:List Int} (hd:FI d raw) (hraw:∀n∈raw,a0S n):EvP vfs 13 [.agg [m.dt,.int .i64 m.g,m.dc,m.dv,m.dp,m.ds,.bool m.b],d] k4.empty fun r s=>∃cs st,r=.agg cs/\a0s s cs st/\Fit mo st/\st.hold=-1:=by
 have om:=hm.ones
 have hmv:=hm.v
 have hmc:=hm.c
 have hnp:=ho.np
 have hnv:=ho.nv
 have hnc:=ho.nc
 have pd:=a4U hd
 refine X8 (vf:=a8Y) rfl ?_
 unfold a8Y;refine zF ?_
 refine zY om ?_
 refine a1Q (b2S hm ho) (by simp (disch:=(first|exact Rf.mk rfl|with_reducible assumption|omega|((repeat (first|rw [nP]|rw [nS]|rw [M3]))<;>omega)|decide)) only [go_sem,↓reduceIte]) ?_
 rintro r s1 ⟨⟨dA,dV,dC,EA,EV,EC,rfl,hrA,hrV,hrC,hp,hw⟩,fr⟩
 have l1:=fr.1
 simp only [k4.next_push,M3,Nat.reduceAdd] at l1 hw
 have g0:s1.get 0=some (.cells [m.dt,.int .i64 m.g,m.dc,m.dv,m.dp,m.ds,.bool m.b]):=by rw [fr.2 0 (by simp [M3]) (by simp)];simp (disch:=(first|exact Rf.mk rfl|with_reducible assumption|omega|((repeat (first|rw [nP]|rw [nS]|rw [M3]))<;>omega)|decide)) only [go_sem,↓reduceIte]
 have g1:s1.get 1=some (.cells [.nils,.nils,.nils,.int .i64 0]):=by rw [fr.2 1 (by simp [M3]) (by simp)];simp (disch:=(first|exact Rf.mk rfl|with_reducible assumption|omega|((repeat (first|rw [nP]|rw [nS]|rw [M3]))<;>omega)|decide)) only [go_sem,↓reduceIte]
 have hp1:=((hp.addR1 g0 fun w h=>by have:=hw w h;omega).addW g1 (fun w h=>by have:=hw w h;omega) (by simp)).newW (.cells [.nils,.nils,.nils,.int .i64 0]) [dA,dV,dC,.int .i64 (-1)]
 have o1:=hrA.one
 have o2:=hrV.one
 have o3:=hrC.one
 refine zY (aN o1 (aN o2 o3)) ?_
 generalize hS:(s1.push (.cells [.nils,.nils,.nils,.int .i64 0])).set s1.next (some (.cells [dA,dV,dC,.int .i64 (-1)]))=s2 at *
 generalize s1.next=p at *
 clear hp hw g0 g1 hS fr
 refine a1F [0,1,2,4,5,8,9,10,11,40,63,80] (fun f s'=>f 6=.int .i64 (mo.procs.length:Int)/\∃A EA,A.length=mo.procs.length/\(∀j,j<mo.procs.length->nAt A j<(pAt mo.procs j).places)/\Rp dA 1 (P5 A) EA/\Hp s' ((p,[dA,dV,dC,.int .i64 (-1)])::(1,[.nils,.nils,.nils,.int .i64 0])::(EA++EV++EC)) [(0,[m.dt,.int .i64 m.g,m.dc,m.dv,m.dp,m.ds,.bool m.b])]) ?_ ?_
 ·refine U2 [0,1,2,4,5,8,9,10,11,40,63,80] 0 mo.procs.length (fun i f s'=>f 7=.int .i64 (i:Int)/\f 6=.int .i64 (i:Int)/\∃A EA,A.length=mo.procs.length/\(∀j,j<mo.procs.length->nAt A j<(pAt mo.procs j).places)/\Rp dA 1 (P5 A) EA/\Hp s' ((p,[dA,dV,dC,.int .i64 (-1)])::(1,[.nils,.nils,.nils,.int .i64 0])::(EA++EV++EC)) [(0,[m.dt,.int .i64 m.g,m.dc,m.dv,m.dp,m.ds,.bool m.b])]) (.mk rfl) (by omega) ⟨rfl,rfl,_,EA,by simp,fun j hj=>?_,hrA,hp1⟩ ?_
  ·have:=(ho.pr _ (V7 hj)).inv.two
   rw [a1J (by simpa using hj),List.getElem_replicate];omega
  rintro i f s3 hi ⟨hE7,hE6,A,EA,hA,hfit,hr,hp⟩
  have g0:=hp.rh
  have gp:=hp.hd
  have lA:=hr.len
  rw [a3L,hA] at lA
  by_cases ci:i<mo.procs.length
  ·obtain ⟨a,e1,e2⟩:=b0t hr (by rw [a3L];omega)
   rw [a3L,hA] at e1
   rw [a6e] at e2
   subst e2
   have ga:=hp.tl.tl.hd
   have pa:p≠a:=Hp.ne (A:=[]) (B:=[(1,[.nils,.nils,.nils,.int .i64 0])]) (b:=(a,W5 A)) hp
   have hpl:=(ho.pr _ (V7 ci)).inv.two
   have hpl2:=(ho.pr _ (V7 ci)).pl
   obtain ⟨z,hz,hzb⟩:=a7P hd hraw (k:=i) (n:=(pAt mo.procs i).places) (by omega) (by omega) (by omega)
   have iA:i<A.length:=by omega
   rw [e1] at gp hp hr o1 ⊢
   refine zY (aN hE7 (aN hE6 (aN ci (aN g0 (aN gp (aN om (aN o2 (aN o3 (aN ga (aN hzb iA)))))))))) ?_
   have hn0:0<(P5 (A.set i z)).length:=by simp;omega
   have hrp:=b5t (a:=a) hn0
   rw [a3L,List.length_set,hA,a6e] at hrp
   refine ⟨A.set i z,_,by simp [hA],fun j hj=>?_,hrp,Hp.set (A:=[(p,_),(1,[.nils,.nils,.nils,.int .i64 0])]) hp (W5 (A.set i z))⟩
   rw [a6H iA]
   split
   ·rename_i e;subst e;exact hz
   ·exact hfit j hj
  ·obtain rfl:i=mo.procs.length:=by omega
   refine zY (aN hE7 (aN hE6 (aN ci (aN g0 (aN gp (aN om (aN o1 (aN o2 (aN o3 lA))))))))) ?_
   exact ⟨A,EA,hA,hfit,hr,hp⟩
 ·rintro f s3 ⟨hE6,A,EA,hA,hfit,hrA,hp⟩
  refine zY hE6 ?_
  refine a1F [0,1,2,4,5,7,9,10,11,18,63,80] (fun f s'=>f 6=.int .i64 ((mo.procs.length+mo.vars.length:Nat):Int)/\∃V EV,V.length=mo.vars.length/\(∀j,j<mo.vars.length->N4 (zAt V j) (vAt mo.vars j).width.toNat=zAt V j)/\Rp dV 1 (W3 V) EV/\Hp s' ((p,[dA,dV,dC,.int .i64 (-1)])::(1,[.nils,.nils,.nils,.int .i64 0])::(EA++EV++EC)) [(0,[m.dt,.int .i64 m.g,m.dc,m.dv,m.dp,m.ds,.bool m.b])]) ?_ ?_
  ·refine U2 [0,1,2,4,5,7,9,10,11,18,63,80] 0 mo.vars.length (fun i f s'=>f 8=.int .i64 (i:Int)/\f 6=.int .i64 ((mo.procs.length+i:Nat):Int)/\∃V EV,V.length=mo.vars.length/\(∀j,j<mo.vars.length->N4 (zAt V j) (vAt mo.vars j).width.toNat=zAt V j)/\Rp dV 1 (W3 V) EV/\Hp s' ((p,[dA,dV,dC,.int .i64 (-1)])::(1,[.nils,.nils,.nils,.int .i64 0])::(EA++EV++EC)) [(0,[m.dt,.int .i64 m.g,m.dc,m.dv,m.dp,m.ds,.bool m.b])]) (.mk rfl) (by omega) ⟨rfl,rfl,mo.vals,EV,by simp [Mo.vals],fun j hj=>?_,hrV,hp⟩ ?_
   ·rw [b0p hj];exact (hf.vr _ (a2O hj)).2.2
   clear hrV hp
   rintro i f s4 hi ⟨hE8,hE6,V,EV,hV,hfitV,hr,hp⟩
   have g0:=hp.rh
   have gp:=hp.hd
   have lV:=hr.len
   rw [a4T,hV] at lV
   by_cases ci:i<mo.vars.length
   ·obtain ⟨a,e1,e2⟩:=b0t hr (by rw [a4T];omega)
    rw [a4T,hV] at e1
    rw [a4c] at e2
    subst e2
    have hp':Hp s4 ((p,[dA,dV,dC,.int .i64 (-1)])::((1,[.nils,.nils,.nils,.int .i64 0])::EA)++(a,P8 V)::EC) [(0,[m.dt,.int .i64 m.g,m.dc,m.dv,m.dp,m.ds,.bool m.b])]:=by simpa using hp
    have ga:=hp'.w (a,P8 V) (by simp)
    have pa:p≠a:=Hp.ne (A:=[]) (B:=(1,[.nils,.nils,.nils,.int .i64 0])::EA) (b:=(a,P8 V)) hp'
    obtain ⟨z,hz,hzb⟩:=a7P hd hraw (k:=mo.procs.length+i) (n:=256) (by omega) (by omega) (by omega)
    have hzb:Eqc vfs 37 [d,.int .i64 ((mo.procs.length+i:Nat):Int),.int .i64 256] (.int .i64 (z:Int)):=hzb
    have iV:i<V.length:=by omega
    have hw:=hf.vr _ (a2O ci)
    have hwt:=b6b (x:=(z:Int)) (w:=(vAt mo.vars i).width) (by omega) (by omega) hw.1 hw.2.1
    rw [e1] at gp hp hp' hr o2 ⊢
    refine zY (aN hE8 (aN hE6 (aN ci (aN g0 (aN gp (aN om (aN o1 (aN o3 (aN ga (aN hzb (aN iV hwt))))))))))) ?_
    have hn0:0<(W3 (V.set i (N4 (z:Int) (vAt mo.vars i).width.toNat))).length:=by simp;omega
    have hrp:=b5t (a:=a) hn0
    rw [a4T,List.length_set,hV,a4c] at hrp
    refine ⟨by rw [Nat.add_assoc],V.set i (N4 (z:Int) (vAt mo.vars i).width.toNat),_,by simp [hV],fun j hj=>?_,hrp,?_⟩
    ·rw [b1n iV]
     split
     ·rename_i e;subst e;exact a8f (by omega)
     ·exact hfitV j hj
    ·have:=Hp.set (A:=(p,[dA,.arr a 0 mo.vars.length 1,dC,.int .i64 (-1)])::(1,[.nils,.nils,.nils,.int .i64 0])::EA) (B:=EC) hp' (P8 (V.set i (N4 (z:Int) (vAt mo.vars i).width.toNat)))
     simpa using this
   ·obtain rfl:i=mo.vars.length:=by omega
    refine zY (aN hE8 (aN hE6 (aN ci (aN g0 (aN gp (aN om (aN o1 (aN o2 (aN o3 lV))))))))) ?_
    exact ⟨V,EV,hV,hfitV,hr,hp⟩
  ·clear hrV hp
   rintro f s4 ⟨hE6,V,EV,hV,hfitV,hrV,hp⟩
   refine zY hE6 ?_
   refine a1F [0,1,2,4,5,7,8,18,40] (fun f s'=>∃W st,Hp s' ((p,[dA,dV,dC,.int .i64 (-1)])::(1,[.nils,.nils,.nils,.int .i64 0])::W) [(0,[m.dt,.int .i64 m.g,m.dc,m.dv,m.dp,m.ds,.bool m.b])]/\(∀s,Has s W->a0s s [dA,dV,dC,.int .i64 (-1)] st)/\Fit mo st/\st.hold=-1) ?_ ?_
   rotate_left
   ·rintro f s5 ⟨W,st,hp,hS,hF,hh⟩
    have gp:=hp.hd
    have g1:=hp.tl.hd
    have l1:=M7 g1
    refine zY (aN gp (aN g1 (aN o1 (aN o2 o3)))) ?_
    refine X1 ⟨_,st,rfl,hS _ ?_,hF,hh⟩
    exact (Hp.set (A:=[]) hp.tl [dA,dV,dC,.int .i64 (-1)]).tl.w
   have hfit0:∀L:List (List Int),L.length=mo.chans.length->(∀j,j<mo.chans.length->((cAt L j).length:Int)<=(R7 mo.chans j).room/\∀n∈cAt L j,N4 n (R7 mo.chans j).width.toNat=n)->Fit mo ⟨A,V,L,-1⟩:=fun L hL h=>a0t.1 ⟨hA,hV,hL,hfit,hfitV,fun j hj=>(h j hj).1,fun j hj=>(h j hj).2,by simp only;omega⟩
   by_cases h0:mo.chans.length=0
   ·have g0:=hp.rh
    have gp:=hp.hd
    have e1:a1o mo.chans.length=[]:=by rw [h0];rfl
    rw [e1] at hrC
    have lC:=hrC.len
    refine U2 [0,1,2,4,5,7,8,18,40] 0 0 (fun i f s'=>f 9=.int .i64 (i:Int)/\s'=s4) (.mk rfl) (by omega) ⟨rfl,rfl⟩ ?_
    rintro i f s5 hi ⟨hE9,rfl⟩
    obtain rfl:i=0:=by omega
    refine zY (aN hE9 (aN g0 (aN gp (aN om (aN o1 (aN o2 (aN o3 lC))))))) ?_
    refine ⟨EA++EV++EC,⟨A,V,[],-1⟩,hp,fun s hs=>?_,hfit0 [] (by simp [h0]) fun j hj=>by omega,rfl⟩
    exact a0s.mk (st:=⟨A,V,[],-1⟩) [] (hrA.sn fun e he=>hs e (by simp [he])) (hrV.sn fun e he=>hs e (by simp [he])) (hrC.sn fun e he=>hs e (by simp [he])) (.inl rfl) rfl fun j hj=>by simp at hj
   ·have lC:=hrC.len
    obtain ⟨c,e1,e2⟩:=b0t hrC (by simp [a1o];omega)
    rw [c6Q] at e2
    rw [show (a1o mo.chans.length).length=mo.chans.length by simp [a1o]] at e1 lC
    subst e2
    subst e1
    clear hrC lC
    refine U2 [0,1,2,4,5,7,8,18,40] 0 mo.chans.length (fun i f s'=>f 9=.int .i64 (i:Int)/\∃ (k:Nat) (L:List (List Int)) (qs:List D) (ED:Hs),f 6=.int .i64 (k:Int)/\k<=20+4*i/\L.length=mo.chans.length/\qs.length=mo.chans.length/\(∀j,j<mo.chans.length->i<=j->dAt qs j=.nils/\cAt L j=[])/\(∀j,j<mo.chans.length->∃E,Rp (dAt qs j) 1 (W3 (cAt L j)) E/\∀e∈E,e∈ED)/\(∀j,j<mo.chans.length->((cAt L j).length:Int)<=(R7 mo.chans j).room/\∀n∈cAt L j,N4 n (R7 mo.chans j).width.toNat=n)/\Hp s' ((p,[dA,dV,.arr c 0 mo.chans.length 1,.int .i64 (-1)])::(1,[.nils,.nils,.nils,.int .i64 0])::(EA++EV++(c,qs)::ED)) [(0,[m.dt,.int .i64 m.g,m.dc,m.dv,m.dp,m.ds,.bool m.b])]) (.mk rfl) (by omega) ⟨rfl,_,List.replicate mo.chans.length [],List.replicate mo.chans.length .nils,[],rfl,by omega,by simp,by simp,fun j hj _=>⟨b5h hj,a54⟩,fun j hj=>⟨[],by rw [b5h hj,a54];exact .inl ⟨rfl,rfl,rfl⟩,by simp⟩,fun j hj=>by
     rw [a54]
     have:=hf.ch _ (a2S hj)
     exact ⟨by simp;omega,by simp⟩,hp⟩ ?_
    clear hp
    rintro i f s5 hi ⟨hE9,k,L,qs,ED,hE6,hk,hL,hq,hnil,hrp,hfl,hp⟩
    have g0:=hp.rh
    have gp:=hp.hd
    have hp':Hp s5 ((p,[dA,dV,.arr c 0 mo.chans.length 1,.int .i64 (-1)])::((1,[.nils,.nils,.nils,.int .i64 0])::(EA++EV))++(c,qs)::ED) [(0,[m.dt,.int .i64 m.g,m.dc,m.dv,m.dp,m.ds,.bool m.b])]:=by simpa using hp
    have gc:=hp'.w (c,qs) (by simp)
    by_cases ci:i<mo.chans.length
    ·have hw:=hf.ch _ (a2S ci)
     have hro:∃r:Nat,(R7 mo.chans i).room=(r:Int):=⟨(R7 mo.chans i).room.toNat,by omega⟩
     obtain ⟨r,hr⟩:=hro
     obtain ⟨z,hz,hzb⟩:=a7P hd hraw (k:=k) (n:=r+1) (by omega) (by omega) (by omega)
     obtain ⟨hn1,hn2⟩:=hnil i ci (Nat.le_refl _)
     refine zY (aN hE9 (aN hE6 (aN ci (aN g0 (aN gp (aN om (aN o1 (aN o2 (aN hr hzb))))))))) ?_
     have iq:i<qs.length:=by omega
     have iL:i<L.length:=by omega
     refine U2 [0,1,2,4,5,7,8,9,10,18,40,63] 0 z (fun j f s'=>f 11=.int .i64 (j:Int)/\f 6=.int .i64 ((k+1+j:Nat):Int)/\∃ (l:List Int) (q:D) (E:Hs),l.length=j/\(∀n∈l,N4 n (R7 mo.chans i).width.toNat=n)/\Rp q 1 (W3 l) E/\Hp s' ((p,[dA,dV,.arr c 0 mo.chans.length 1,.int .i64 (-1)])::(1,[.nils,.nils,.nils,.int .i64 0])::(EA++EV++(c,qs.set i q)::(E++ED))) [(0,[m.dt,.int .i64 m.g,m.dc,m.dv,m.dp,m.ds,.bool m.b])]) (.mk rfl) (by omega) ⟨rfl,rfl,[],.nils,[],rfl,by simp,.inl ⟨rfl,rfl,rfl⟩,?_⟩ ?_
     ·have e:qs.set i .nils=qs:=by
       rw [<- hn1,a5t iq];simp
      rw [e];exact hp
     rintro j f s6 hj ⟨hE11,hE6,l,q,E,hl,htr,hr1,hp⟩
     clear hp' gc
     have g0:=hp.rh
     have gp:=hp.hd
     have hp':Hp s6 ((p,[dA,dV,.arr c 0 mo.chans.length 1,.int .i64 (-1)])::((1,[.nils,.nils,.nils,.int .i64 0])::(EA++EV))++(c,qs.set i q)::(E++ED)) [(0,[m.dt,.int .i64 m.g,m.dc,m.dv,m.dp,m.ds,.bool m.b])]:=by simpa using hp
     have gc:=hp'.w (c,qs.set i q) (by simp)
     have pc:p≠c:=Hp.ne (A:=[]) (B:=(1,[.nils,.nils,.nils,.int .i64 0])::(EA++EV)) (b:=(c,qs.set i q)) hp'
     have lp:=M7 gp
     have lc:=M7 gc
     have oq:=hr1.one
     by_cases cj:j<z
     ·obtain ⟨y,hy,hyb⟩:=a7P hd hraw (k:=k+1+j) (n:=256) (by omega) (by omega) (by omega)
      have hyb:Eqc vfs 37 [d,.int .i64 ((k+1+j:Nat):Int),.int .i64 256] (.int .i64 (y:Int)):=hyb
      have hwt:=b6b (x:=(y:Int)) (w:=(R7 mo.chans i).width) (by omega) (by omega) hw.2.2.1 hw.2.2.2
      have iq2:i<(qs.set i q).length:=by simpa using iq
      have eq1:(qs.set i q)[i]?=some q:=by simp [iq]
      have eq2:i+1<=qs.length:=by omega
      have nE:∀w∈(1,[.nils,.nils,.nils,.int .i64 0])::(EA++EV)++(c,qs.set i q)::(E++ED),w.1≠p:=Hp.neAll hp'
      have nEp:a1W p (E.map Prod.fst):=Hp.notIn fun e he=>nE e (by simp [he])
      have nEc:a1W c (E.map Prod.fst):=Hp.notIn fun e he=>by
       have h1:Hp s6 ((c,qs.set i q)::(E++ED)) [(0,[m.dt,.int .i64 m.g,m.dc,m.dv,m.dp,m.ds,.bool m.b])]:=hp'.sub (List.sublist_append_right _ _) fun _ h=>h
       exact h1.neAll e (by simp [he])
      refine zY (aN hE9 (aN hE11 (aN hE6 (aN ci (aN cj (aN g0 (aN gp (aN gc (aN om (aN o1 (aN o2 (aN oq (aN hq (aN eq1 (aN hyb hwt))))))))))))))) ?_
      have hp2:Hp s6 (((p,[dA,dV,.arr c 0 mo.chans.length 1,.int .i64 (-1)])::(1,[.nils,.nils,.nils,.int .i64 0])::(EA++EV++[(c,qs.set i q)]))++E++ED) [(0,[m.dt,.int .i64 m.g,m.dc,m.dv,m.dp,m.ds,.bool m.b])]:=by simpa using hp
      refine b3Q (E:=E) hr1 hp2 rfl (a5W _) (by decide) (by simp;omega) (by simp (disch:=(first|exact Rf.mk rfl|with_reducible assumption|omega|((repeat (first|rw [nP]|rw [nS]|rw [M3]))<;>omega)|decide)) only [go_sem,↓reduceIte,nEp,nEc]) ?_
      rintro s7 hr7 hp7 l7 u7
      have gp:=hp7.hd
      have gc:=hp7.w (c,qs.set i q) (by simp)
      simp (disch:=(first|exact Rf.mk rfl|with_reducible assumption|omega|((repeat (first|rw [nP]|rw [nS]|rw [M3]))<;>omega)|decide)) only [go_sem,↓reduceIte,hE9,hE11,hE6,ci,cj,gp,gc,hq,List.length_set,a53,List.set_set]
      refine ⟨by rw [Nat.add_assoc],l++[N4 (y:Int) (R7 mo.chans i).width.toNat],_,_,by simp [hl],fun n hn=>?_,by simpa [W3] using hr7,?_⟩
      ·rcases List.mem_append.1 hn with h | h
       ·exact htr n h
       ·simp only [List.mem_singleton] at h;subst h;exact a8f (by omega)
      ·have h7:Hp s7 (((p,[dA,dV,.arr c 0 mo.chans.length 1,.int .i64 (-1)])::(1,[.nils,.nils,.nils,.int .i64 0])::(EA++EV))++(c,qs.set i q)::((s6.next+1,(W3 l++[[D.int IntKind.i64 (N4 (y:Int) (R7 mo.chans i).width.toNat)]]).flatten)::ED)) [(0,[m.dt,.int .i64 m.g,m.dc,m.dv,m.dp,m.ds,.bool m.b])]:=by simpa using hp7
       have:=h7.set (qs.set i (.arr (s6.next+1) 0 (l.length+1) 1))
       simpa [W3] using this
     ·obtain rfl:j=z:=by omega
      refine zY (aN hE9 (aN hE11 (aN hE6 (aN ci cj)))) ?_
      refine ⟨_,L.set i l,qs.set i q,E++ED,rfl,by omega,by simp [hL],by simp [hq],fun b hb hib=>?_,fun b hb=>?_,fun b hb=>?_,hp⟩
      ·rw [b0l iq,a44 iL,if_neg (by omega),if_neg (by omega)]
       exact hnil b hb (by omega)
      ·rw [b0l iq,a44 iL]
       by_cases hbi:b=i
       ·rw [if_pos hbi,if_pos hbi]
        exact ⟨E,hr1,fun e he=>by simp [he]⟩
       ·rw [if_neg hbi,if_neg hbi]
        obtain ⟨E2,h1,h2⟩:=hrp b hb
        exact ⟨E2,h1,fun e he=>by simp [h2 e he]⟩
      ·rw [a44 iL]
       by_cases hbi:b=i
       ·rw [if_pos hbi]
        subst hbi
        exact ⟨by omega,htr⟩
       ·rw [if_neg hbi]
        exact hfl b hb
    ·obtain rfl:i=mo.chans.length:=by omega
     refine zY (aN hE9 (aN hE6 (aN ci (aN g0 (aN gp (aN om (aN o1 o2))))))) ?_
     refine ⟨EA++EV++(c,qs)::ED,⟨A,V,L,-1⟩,hp,fun s hs=>?_,hfit0 L hL hfl,rfl⟩
     refine a0s.mk (st:=⟨A,V,L,-1⟩) qs (hrA.sn fun e he=>hs e (by simp [he])) (hrV.sn fun e he=>hs e (by simp [he])) (.inr (.inl ⟨c,by simp [hq],?_⟩)) (.inr ⟨c,by simp [hq]⟩) (by simp [hq,hL]) fun j hj=>?_
     ·rw [a7s];exact hs (c,qs) (by simp)
     ·obtain ⟨E,h1,h2⟩:=hrp j (by omega)
      exact h1.chr fun e he=>hs e (by simp [h2 e he])
end Go.Proofs.YtnjlhebkhjcagaaGreat
namespace Go.V
variable {fs:FuncId->Option M5}
end Go.V
namespace Go.V
def Mo.varG (mo:Mo) (w:ByteArray):Nat:=if idxB ((mo.vars.take mo.globals).map Vr.name) w<mo.globals then 2 ^ idxB ((mo.vars.take mo.globals).map Vr.name) w else 0
def Mo.askF (mo:Mo):Ft:=mo.safe.foldl (fun f k=>Z7 mo.tree (mo.chans.map Ch.name) mo.varG (mo.tree.length+1) k f) ⟨0,0,0,0,0,false⟩
end Go.V
