/- Texts one behind the other. -/
import Derived.Test.YtnjlhebkhjcagaaGreatZ5
set_option linter.unusedSimpArgs false
set_option linter.unusedVariables false
namespace Go.V
structure Inc (f g:Ft):Prop where
 r:∀b,f.reads.testBit b=true->g.reads.testBit b=true
 z:∀b,f.sizes.testBit b=true->g.sizes.testBit b=true
theorem Inc.refl (f:Ft):Inc f f:=⟨fun _ h=>h,fun _ h=>h⟩
theorem Inc.trans {f g h:Ft} (a:Inc f g) (b:Inc g h):Inc f h:=⟨fun x k=>b.r x (a.r x k),fun x k=>b.z x (a.z x k)⟩
theorem c0U {ch:List ByteArray} {vb:ByteArray->Nat} {x:Nd} {f:Ft}:Inc f (W4 ch vb x f):=by
 unfold W4
 split
 ·exact ⟨fun b h=>by simp only [Nat.testBit_or,h,Bool.true_or],fun _ h=>h⟩
 split
 ·exact ⟨fun _ h=>h,fun b h=>by simp only [Nat.testBit_or,h,Bool.true_or]⟩
 split
 ·exact ⟨fun _ h=>h,fun _ h=>h⟩
 ·exact .refl _
theorem a65 {g:Ft->Nat->Ft} (hg:∀f k,Inc f (g f k)):∀ {l:List Nat} {f:Ft},Inc f (l.foldl g f)
 | [],f=>.refl f
 | k::l,f=>(hg f k).trans (a65 hg (l:=l))
theorem a7c {t:List Nd} {ch:List ByteArray} {vb:ByteArray->Nat}:∀ (n k:Nat) (f:Ft),Inc f (Z7 t ch vb n k f)
 | 0,k,f=>.refl f
 | n+1,k,f=>by
   unfold Z7
   exact c0U.trans (a65 fun f k=>a7c n k f)
theorem b0q {g:Ft->Nat->Ft} (hg:∀f k,Inc f (g f k)):∀ {l:List Nat} {f:Ft} {k:Nat},k∈l->∃f',Inc (g f' k) (l.foldl g f)
 | x::l,f,k,h=>by
   rcases List.mem_cons.1 h with rfl | h
   ·exact ⟨f,a65 hg (l:=l)⟩
   ·exact b0q hg (l:=l) h
structure a1K (f:Ft) (st st':Stt):Prop where
 r:∀b,f.reads.testBit b=true->zAt st.vars b=zAt st'.vars b
 z:∀b,f.sizes.testBit b=true->(cAt st.chans b).length=(cAt st'.chans b).length
theorem a1K.inc {f g:Ft} {st st':Stt} (h:a1K g st st') (k:Inc f g):a1K f st st':=⟨fun b hb=>h.r b (k.r b hb),fun b hb=>h.z b (k.z b hb)⟩
theorem a9n {t:List Nd} (ht:a0d t) {ch:List ByteArray} {vb:ByteArray->Nat} {look:ByteArray->Option Nat} (hl:∀w v,look w=some v->vb w=2 ^ v) {st st':Stt}:∀ (n k:Nat) (f0:Ft),k<t.length->a0F (nd t k).kind->a1K (Z7 t ch vb n k f0) st st'->U1 t ch look st n k=U1 t ch look st' n k
 | 0,k,f0,_,_,_=>rfl
 | n+1,k,f0,hk,hx,ha=>by
   have hno:=ht.node k hk
   obtain ⟨_,hkx⟩:=a5L hno hx
   have hkid:∀i,i<(nd t k).kids.length->U1 t ch look st n ((nd t k).kid i)=U1 t ch look st' n ((nd t k).kid i):=fun i hi=>by
    have hm:=X0 hi
    have hc:=ht.ks hk _ hm
    obtain ⟨f',hf'⟩:=b0q (g:=fun f c=>Z7 t ch vb n c f) (fun f c=>a7c n c f) (f:=W4 ch vb (nd t k) f0) hm
    exact a9n ht hl n _ f' hc.2 (hkx i hi) (ha.inc hf')
   have h1:Inc (W4 ch vb (nd t k) f0) (Z7 t ch vb (n+1) k f0):=a65 fun f k=>a7c n k f
   have hb:=ha.inc h1
   unfold U1
   simp only
   by_cases q17:(nd t k).kind=17
   ·simp only [q17,if_true]
   simp only [q17,if_false]
   by_cases q18:(nd t k).kind=18
   ·simp only [q18,if_true]
    cases hlk:look ((nd t k).word 0) with
    | none=>rfl
    | some v =>
      have e:zAt st.vars v=zAt st'.vars v:=hb.r v (by
       unfold W4
       rw [if_pos q18]
       simp only [Nat.testBit_or,hl _ _ hlk,Nat.testBit_two_pow_self,Bool.or_true])
      simp only [e]
   simp only [q18,if_false]
   by_cases q19:(nd t k).kind=19
   ·simp only [q19,if_true]
    split
    ·rename_i hi
     have e:=hb.z (idxB ch ((nd t k).word 0)) (by
      unfold W4 chB
      rw [if_neg q18,if_pos q19,if_pos hi]
      simp only [Nat.testBit_or,Nat.testBit_two_pow_self,Bool.or_true])
     rw [e]
    ·rfl
   simp only [q19,if_false]
   by_cases q20:(nd t k).kind=20
   ·have:=(hno.one (by omega)).1
    simp only [q20,if_true,hkid 0 (by omega)]
   simp only [q20,if_false]
   by_cases q21:(nd t k).kind=21
   ·have:=(hno.one (by omega)).1
    simp only [q21,if_true,hkid 0 (by omega)]
   simp only [q21,if_false]
   by_cases q22:(nd t k).kind=22
   ·have:=(hno.bin q22).1
    simp only [q22,if_true,hkid 0 (by omega),hkid 1 (by omega)]
   simp only [q22,if_false]
theorem b9U {p:Pr} {w:ByteArray} {v:Nat} (h:O2 p w=some v):a0W p.names p.vars w=2 ^ v:=by
 unfold O2 at h
 unfold a0W
 split at h
 ·rename_i hi
  simp only [Option.some.injEq] at h
  rw [if_pos hi,h]
 ·cases h
theorem b9e {mo:Mo} {w:ByteArray} {v:Nat} (h:a0P mo w=some v):mo.varG w=2 ^ v:=by
 unfold a0P at h
 unfold Mo.varG
 split at h
 ·rename_i hi
  simp only [Option.some.injEq] at h
  rw [if_pos hi,h]
 ·cases h
theorem b9q (mo:Mo) (p:Pr) (e:Ed):Inc (a41 mo p e) (O4 mo p e)/\Inc (O4 mo p e) (a41 mo p e):=by
 rw [a7L]
 unfold a6v
 constructor<;>(split;exact ⟨fun _ h=>h,fun _ h=>h⟩;split;exact ⟨fun _ h=>h,fun _ h=>h⟩;split;exact ⟨fun _ h=>h,fun _ h=>h⟩;exact .refl _)
theorem a7M {mo:Mo} (ho:N6 mo) {p:Pr} (hp:a0k mo p) {e:Ed} (he:e∈p.edges) {st st':Stt} (h:a1K (O4 mo p e) st st') (z:Int):mo.ex p st e z=mo.ex p st' e z:=by
 have heo:=hp.inv.ed e he
 unfold Mo.ex
 split
 ·rename_i h0
  have hx:e.act=1∨e.act=2∨e.act=4∨e.act=5:=by
   have:=heo.ex0
   have:=heo.act
   omega
  obtain ⟨n,hn,hn2,hn3⟩:=heo.ex1 hx
  rw [hn,Int.toNat_natCast]
  refine a9n ho.tree (vb:=a0W p.names p.vars) (fun w v h=>b9U h) _ n ⟨0,0,0,0,0,false⟩ hn2 hn3 ?_
  have:=h.inc (b9q mo p e).1
  unfold a41 at this
  rw [if_pos h0,hn,Int.toNat_natCast] at this
  exact this
 ·rfl
def setO {α:Type} (l:List α):Option (Nat×α)->List α
 | none=>l
 | some (i,x)=>l.set i x
theorem b4Q {α:Type} {l:List α} {a b:Option (Nat×α)} (h:∀i x j y,a=some (i,x)->b=some (j,y)->i≠j):setO (setO l a) b=setO (setO l b) a:=by
 cases a with
 | none=>rfl
 | some a =>
   cases b with
   | none=>rfl
   | some b=>exact List.set_comm _ _ (h a.1 a.2 b.1 b.2 rfl rfl)
theorem c1m {l:List Int} {a:Option (Nat×Int)} {k:Nat} (h:∀i x,a=some (i,x)->i≠k):zAt (setO l a) k=zAt l k:=by
 cases a with
 | none=>rfl
 | some a =>
   have:=h a.1 a.2 rfl
   simp only [setO,zAt,List.getD,List.getElem?_set]
   rw [if_neg this]
theorem b7H {l:List (List Int)} {a:Option (Nat×List Int)} {k:Nat} (h:∀i x,a=some (i,x)->i≠k):cAt (setO l a) k=cAt l k:=by
 cases a with
 | none=>rfl
 | some a =>
   have:=h a.1 a.2 rfl
   simp only [setO,cAt,List.getD,List.getElem?_set]
   rw [if_neg this]
def Mo.wV (mo:Mo) (l:List Int) (e:Ed) (n:Int):Option (Nat×Int) :=
 if e.act=1 then some (e.var.toNat,N4 n (vAt mo.vars e.var.toNat).width.toNat)
 else if e.act=3 then some (e.var.toNat,N4 (zAt l 0) (vAt mo.vars e.var.toNat).width.toNat) else none
def Mo.wC (mo:Mo) (l:List Int) (e:Ed) (n:Int):Option (Nat×List Int) :=
 if e.act=2 then some (e.chan.toNat,l++[N4 n (R7 mo.chans e.chan.toNat).width.toNat])
 else if e.act=3 then some (e.chan.toNat,l.drop 1) else none
theorem c14 {mo:Mo} {st:Stt} {e:Ed} {n:Int}:mo.actS st e n=⟨st.at',setO st.vars (mo.wV (cAt st.chans e.chan.toNat) e n),setO st.chans (mo.wC (cAt st.chans e.chan.toNat) e n),st.hold⟩:=by
 unfold Mo.actS Mo.wV Mo.wC
 by_cases a1:e.act=1
 ·simp [a1,setO]
 by_cases a2:e.act=2
 ·simp [a2,setO]
 by_cases a3:e.act=3
 ·simp [a3,setO]
 ·simp [a1,a2,a3,setO]
theorem a17 {mo:Mo} {st:Stt} {i:Nat} {p:Pr} {e:Ed}:mo.edgeS st i p e=⟨st.at'.set i e.to,setO st.vars (mo.wV (cAt st.chans e.chan.toNat) e (mo.ex p st e 0).1),setO st.chans (mo.wC (cAt st.chans e.chan.toNat) e (mo.ex p st e 0).1),-1⟩:=by
 unfold Mo.edgeS
 rw [c14]
 rfl
theorem a7d {mo:Mo} {p:Pr} (hp:a0k mo p) {e:Ed} (he:e∈p.edges) {l:List Int} {n:Int} {i:Nat} {x:Int} (h:mo.wV l e n=some (i,x)):(O4 mo p e).writes.testBit i=true:=by
 have heo:=hp.inv.ed e he
 rw [a7L]
 unfold a6v
 unfold Mo.wV at h
 by_cases a1:e.act=1
 ·rw [if_pos a1] at h ⊢
  obtain ⟨v,hv,e1⟩:=heo.v1 (.inl a1)
  simp only [Option.some.injEq,Prod.mk.injEq] at h
  rw [<- h.1,e1,Int.toNat_natCast]
  simp only [a3z,Nat.testBit_two_pow_self]
 rw [if_neg a1] at h ⊢
 split at h
 ·rename_i a3
  rw [if_neg (by omega),if_pos a3]
  obtain ⟨v,hv,e1⟩:=heo.v1 (.inr a3)
  simp only [Option.some.injEq,Prod.mk.injEq] at h
  rw [<- h.1,e1,Int.toNat_natCast]
  simp only [a3z,Nat.testBit_two_pow_self]
 ·cases h
theorem a5U {mo:Mo} {p:Pr} (hp:a0k mo p) {e:Ed} (he:e∈p.edges) (h:e.act=2∨e.act=3):((O4 mo p e).sends ||| (O4 mo p e).recvs).testBit e.chan.toNat=true:=by
 have heo:=hp.inv.ed e he
 rw [a7L]
 unfold a6v
 obtain ⟨v,e1,hv⟩:=heo.c1 h
 rw [if_neg (by omega)]
 by_cases a2:e.act=2
 ·rw [if_pos a2,e1,Int.toNat_natCast]
  simp only [a3z,Nat.testBit_or,Nat.testBit_two_pow_self,Bool.true_or]
 ·rw [if_neg a2,if_pos (by omega),e1,Int.toNat_natCast]
  simp only [a3z,Nat.testBit_or,Nat.testBit_two_pow_self,Bool.or_true]
theorem b0a {mo:Mo} {e:Ed} {l:List Int} {n:Int} {i:Nat} {x:List Int} (h:mo.wC l e n=some (i,x)):i=e.chan.toNat/\(e.act=2∨e.act=3):=by
 unfold Mo.wC at h
 split at h
 ·rename_i a
  simp only [Option.some.injEq,Prod.mk.injEq] at h
  exact ⟨h.1.symm,.inl a⟩
 split at h
 ·rename_i a
  simp only [Option.some.injEq,Prod.mk.injEq] at h
  exact ⟨h.1.symm,.inr a⟩
 ·cases h
theorem a5m {x y b:Nat} (h:x &&& y=0) (hx:x.testBit b=true):¬ y.testBit b=true:=fun hy=>by
 have:(x &&& y).testBit b=true:=by rw [Nat.testBit_and,hx,hy];rfl
 rw [h] at this
 simp at this
theorem b33 {a b:Ft}:a.apart b=true↔(a.writes &&& (b.reads ||| b.writes)=0/\(a.sends ||| a.recvs) &&& ((b.sends ||| b.recvs) ||| b.sizes)=0)/\(b.writes &&& (a.reads ||| a.writes)=0/\(b.sends ||| b.recvs) &&& ((a.sends ||| a.recvs) ||| a.sizes)=0):=by
 unfold Ft.apart Ft.dist
 simp only [Bool.and_eq_true,Bool.not_eq_true',Bool.or_eq_false_iff,decide_eq_false_iff_not,ne_eq,Decidable.not_not]
theorem c4I {mo:Mo} {st:Stt} {i:Nat} {p:Pr} (hp:a0k mo p) {e:Ed} (he:e∈p.edges) {b:Nat} (hb:¬ (O4 mo p e).writes.testBit b=true):zAt (mo.edgeS st i p e).vars b=zAt st.vars b:=by
 rw [a17]
 refine c1m fun j x h hj=>hb ?_
 rw [<- hj]
 exact a7d hp he h
theorem b3a {mo:Mo} {st:Stt} {i:Nat} {p:Pr} (hp:a0k mo p) {e:Ed} (he:e∈p.edges) {b:Nat} (hb:¬ ((O4 mo p e).sends ||| (O4 mo p e).recvs).testBit b=true):cAt (mo.edgeS st i p e).chans b=cAt st.chans b:=by
 rw [a17]
 refine b7H fun j x h hj=>hb ?_
 obtain ⟨rfl,h2⟩:=b0a h
 rw [<- hj]
 exact a5U hp he h2
theorem b20 {mo:Mo} {st:Stt} {i:Nat} {p:Pr} (hp:a0k mo p) {e:Ed} (he:e∈p.edges) {f:Ft} (h1:(O4 mo p e).writes &&& f.reads=0) (h2:((O4 mo p e).sends ||| (O4 mo p e).recvs) &&& f.sizes=0):a1K f st (mo.edgeS st i p e) :=
 ⟨fun b hb=>(c4I hp he fun hw=>a5m h1 hw hb).symm,fun b hb=>by rw [b3a hp he fun hw=>a5m h2 hw hb]⟩
theorem c6u {mo:Mo} (ho:N6 mo) {st st':Stt} (h:a1K mo.askF st st'):mo.safeS st=mo.safeS st':=by
 unfold Mo.safeS
 rw [Bool.eq_iff_iff,List.all_eq_true,List.all_eq_true]
 have key:∀k∈mo.safe,mo.val (a0P mo) st k=mo.val (a0P mo) st' k:=fun k hk=>by
  obtain ⟨hk1,hk2⟩:=ho.sf k hk
  obtain ⟨f',hf'⟩:=b0q (g:=fun f k=>Z7 mo.tree (mo.chans.map Ch.name) mo.varG (mo.tree.length+1) k f) (fun f c=>a7c _ c f) (f:=⟨0,0,0,0,0,false⟩) hk
  exact a9n ho.tree (vb:=mo.varG) (fun w v h=>b9e h) _ k f' hk1 hk2 (h.inc hf')
 constructor
 ·intro h k hk
  rw [<- key k hk];exact h k hk
 ·intro h k hk
  rw [key k hk];exact h k hk
theorem a1K.hold {f:Ft} {st st':Stt} (h:a1K f st st') (z:Int):a1K f st { st' with hold:=z }:=⟨h.r,h.z⟩
theorem a6U {l:List Nat} {i j x:Nat} (h:i≠j):nAt (l.set i x) j=nAt l j:=by
 simp only [nAt,List.getD,List.getElem?_set]
 rw [if_neg h]
structure Apt (f g:Ft):Prop where
 wr:f.writes &&& g.reads=0
 ww:f.writes &&& g.writes=0
 cc:(f.sends ||| f.recvs) &&& (g.sends ||| g.recvs)=0
 cz:(f.sends ||| f.recvs) &&& g.sizes=0
theorem b8c {f g:Ft} (h:f.apart g=true):Apt f g/\Apt g f:=by
 obtain ⟨⟨a,b⟩,c,d⟩:=b33.1 h
 obtain ⟨a1,a2⟩:=a7m.1 a
 obtain ⟨b1,b2⟩:=a7m.1 b
 obtain ⟨c1,c2⟩:=a7m.1 c
 obtain ⟨d1,d2⟩:=a7m.1 d
 exact ⟨⟨a1,a2,b1,b2⟩,⟨c1,c2,d1,d2⟩⟩
theorem b5e {mo:Mo} (ho:N6 mo) {st:Stt} {i:Nat} {p q:Pr} (hp:a0k mo p) (hq:a0k mo q) {e g:Ed} (he:e∈p.edges) (hg:g∈q.edges) (h:Apt (O4 mo p e) (O4 mo q g)) (z:Int):mo.ex q (mo.edgeS st i p e) g z=mo.ex q st g z :=
 (a7M ho hq hg (b20 hp he h.wr h.cz) z).symm
theorem a7x {mo:Mo} {st:Stt} {i:Nat} {p q:Pr} (hp:a0k mo p) (hq:a0k mo q) {e g:Ed} (he:e∈p.edges) (hg:g∈q.edges) (h:Apt (O4 mo p e) (O4 mo q g)) (ha:g.act=2∨g.act=3):cAt (mo.edgeS st i p e).chans g.chan.toNat=cAt st.chans g.chan.toNat :=
 b3a hp he fun hw=>a5m h.cc hw (a5U hq hg ha)
theorem b50 {mo:Mo} (ho:N6 mo) {st:Stt} {i j:Nat} {p q:Pr} (hij:i≠j) (hp:a0k mo p) (hq:a0k mo q) {e g:Ed} (he:e∈p.edges) (hg:g∈q.edges) (h:Apt (O4 mo p e) (O4 mo q g)):mo.can (mo.edgeS st i p e) j q g=mo.can st j q g:=by
 have h1:=b5e ho (st:=st) (i:=i) hp hq he hg h 0
 have h2:nAt (mo.edgeS st i p e).at' j=nAt st.at' j:=by rw [a17];exact a6U hij
 unfold Mo.can
 rw [h1,h2]
 by_cases a2:g.act=2
 ·rw [if_pos a2,if_pos a2,a7x hp hq he hg h (.inl a2)]
 rw [if_neg a2,if_neg a2]
 by_cases a3:g.act=3
 ·rw [if_pos a3,if_pos a3,a7x hp hq he hg h (.inr a3)]
 rw [if_neg a3,if_neg a3]
theorem b5F {mo:Mo} {l l':List Int} {e:Ed} {n:Int} (h:e.act=2∨e.act=3->l=l'):mo.wV l e n=mo.wV l' e n:=by
 unfold Mo.wV
 split
 ·rfl
 split
 ·rename_i a;rw [h (.inr a)]
 ·rfl
theorem c3o {mo:Mo} {l l':List Int} {e:Ed} {n:Int} (h:e.act=2∨e.act=3->l=l'):mo.wC l e n=mo.wC l' e n:=by
 unfold Mo.wC
 split
 ·rename_i a;rw [h (.inl a)]
 split
 ·rename_i a;rw [h (.inr a)]
 ·rfl
theorem b12 {mo:Mo} (ho:N6 mo) {st:Stt} {i j:Nat} {p q:Pr} (hp:a0k mo p) (hq:a0k mo q) {e g:Ed} (he:e∈p.edges) (hg:g∈q.edges) (h:Apt (O4 mo p e) (O4 mo q g)):mo.edgeS (mo.edgeS st i p e) j q g=⟨(st.at'.set i e.to).set j g.to,setO (setO st.vars (mo.wV (cAt st.chans e.chan.toNat) e (mo.ex p st e 0).1)) (mo.wV (cAt st.chans g.chan.toNat) g (mo.ex q st g 0).1),setO (setO st.chans (mo.wC (cAt st.chans e.chan.toNat) e (mo.ex p st e 0).1)) (mo.wC (cAt st.chans g.chan.toNat) g (mo.ex q st g 0).1),-1⟩:=by
 have h1:=b5e ho (st:=st) (i:=i) hp hq he hg h 0
 rw [a17,h1,b5F (a7x hp hq he hg h),c3o (a7x hp hq he hg h),a17]
theorem a9Z {mo:Mo} (ho:N6 mo) {st:Stt} {i j:Nat} (hij:i≠j) {p q:Pr} (hp:a0k mo p) (hq:a0k mo q) {e g:Ed} (he:e∈p.edges) (hg:g∈q.edges) (h:(O4 mo p e).apart (O4 mo q g)=true) :
 mo.can (mo.edgeS st i p e) j q g=mo.can st j q g/\mo.can (mo.edgeS st j q g) i p e=mo.can st i p e/\mo.edgeS (mo.edgeS st i p e) j q g=mo.edgeS (mo.edgeS st j q g) i p e:=by
 obtain ⟨a,b⟩:=b8c h
 refine ⟨b50 ho hij hp hq he hg a,b50 ho (Ne.symm hij) hq hp hg he b,?_⟩
 rw [b12 ho hp hq he hg a,b12 ho hq hp hg he b,List.set_comm _ _ hij]
 congr 1
 ·exact b4Q fun k x l y h1 h2 e1=>a5m a.ww (a7d hp he h1) (e1▸a7d hq hg h2)
 ·refine b4Q fun k x l y h1 h2 e1=>?_
  obtain ⟨rfl,c1⟩:=b0a h1
  obtain ⟨rfl,c2⟩:=b0a h2
  exact a5m a.cc (a5U hp he c1) (e1▸a5U hq hg c2)
end Go.V
namespace Go.V
theorem a9M {α β:Type} {P:β->Prop} {g:β->α->β}:∀ {l:List α} {a:β},P a->(∀a x,x∈l->P a->P (g a x))->P (l.foldl g a)
 | [],a,h,_=>h
 | x::l,a,h,hg=>a9M (l:=l) (hg a x (by simp) h) fun a y hy=>hg a y (by simp [hy])
def a88 (c:Ch):Prop:=1<=c.room/\c.room<=3/\1<=c.width/\c.width<=8
def a3G (v:Vr):Prop:=1<=v.width/\v.width<=8/\N4 v.value v.width.toNat=v.value
theorem b7y {t:List Nd} (hY:a1p t) {k:Nat} (hk:k<t.length) (h:(nd t k).kind=1):a88 (a4Q (nd t k)):=by
 have:=(hY.fine k hk).chan h
 exact ⟨this.1,this.2.1,this.2.2.1,this.2.2.2.1⟩
theorem b2Q {t:List Nd} (hY:a1p t) {k:Nat} (hk:k<t.length) (h:(nd t k).kind=2):a3G (a15 (nd t k)):=by
 have:=(hY.fine k hk).var h
 exact ⟨this.1,this.2.1,this.2.2.1⟩
theorem c1M {t:List Nd} (ht:a0d t) (hY:a1p t):(∀c∈(gat t).ch,a88 c)/\∀v∈(gat t).vs,a3G v:=by
 unfold gat W1
 refine a9M (P:=fun (a:Ga)=>(∀c∈a.ch,a88 c)/\∀v∈a.vs,a3G v) (by simp) fun (a:Ga) k hk ha=>?_
 have hkl:=(ht.ks ht.pos k hk).2
 unfold one1
 split
 ·rename_i h1
  refine ⟨fun c hc=>?_,ha.2⟩
  rcases List.mem_append.1 hc with hc | hc
  ·exact ha.1 c hc
  ·simp only [List.mem_singleton] at hc
   subst hc;exact b7y hY hkl h1
 split
 ·rename_i h1
  refine ⟨ha.1,fun c hc=>?_⟩
  rcases List.mem_append.1 hc with hc | hc
  ·exact ha.2 c hc
  ·simp only [List.mem_singleton] at hc
   subst hc;exact b2Q hY hkl h1
 split
 ·exact ha
 split
 ·exact ha
 ·exact ha
theorem b8a {t:List Nd} (ht:a0d t) (hY:a1p t) {k:Nat} (hk:k<t.length):∀v∈(X4 t (nd t k)).map a15,a3G v:=by
 intro v hv
 obtain ⟨x,hx,rfl⟩:=List.mem_map.1 hv
 obtain ⟨j,hj,rfl⟩:=List.mem_map.1 hx
 obtain ⟨i,hi,e⟩:=List.getElem_of_mem hj
 have hi2:i<O5 t (nd t k)/\i<(nd t k).ks.length:=by
  rw [List.length_take] at hi;omega
 rw [List.getElem_take] at e
 have h2:=a6T hi2.1 hi2.2
 rw [e] at h2
 have hm:=ht.ks hk j (by rw [<- e];exact List.getElem_mem _)
 exact b2Q hY hm.2 h2
theorem b2p {t:List Nd} (ht:a0d t) (hY:a1p t) {ch:List ByteArray} {k seen:Nat} (hk:k<t.length):∀ (c:Nat) (a:List Vr×List Pr),(∀v∈a.1,a3G v)->∀v∈(W6 t ch k seen c a).1,a3G v
 | 0,a,h=>h
 | c+1,a,h=>by
   intro v hv
   unfold W6 at hv
   rcases List.mem_append.1 hv with hv | hv
   ·exact b2p ht hY hk c a h v hv
   ·exact b8a ht hY hk v hv
theorem b3o {t:List Nd} (hR:O3 t) (hY:a1p t):X5 (V3 t):=by
 have ht:=hR.ok
 obtain ⟨h1,h2⟩:=c1M ht hY
 refine ⟨h1,?_⟩
 show ∀v∈(gbt t).vs,a3G v
 unfold gbt a0y
 refine a9M (P:=fun (a:Gb)=>∀v∈a.vs,a3G v) h2 fun a k hk ha=>?_
 have hkl:=(ht.ks ht.pos k hk).2
 unfold a1r
 split
 ·exact b2p ht hY hkl _ _ ha
 split
 ·exact ha
 ·exact ha
end Go.V
namespace Go.V
variable {mo:Mo} {st:Stt}
theorem b1S {i j:Nat} {v:Mv} (h:v∈mo.mvE st i j):v.kind=0/\v.proc=i/\v.edge<j/\mo.can st i (pAt mo.procs i) (eAt (pAt mo.procs i).edges v.edge)=true:=by
 unfold Mo.mvE at h
 obtain ⟨k,hk,rfl⟩:=List.mem_map.1 h
 obtain ⟨h1,h2⟩:=List.mem_filter.1 hk
 exact ⟨rfl,rfl,List.mem_range.1 h1,h2⟩
theorem b2U {i:Nat} {v:Mv} (h:v∈mo.movesP st i):v∈mo.mvE st i (pAt mo.procs i).edges.length/\¬ (0<=st.hold/\st.hold≠(i:Int)):=by
 rw [Mo.movesP_eq] at h
 split at h
 ·cases h
 ·rename_i c;exact ⟨h,c⟩
theorem a4D {c:Nat} {v:Mv} (h:v∈mo.movesC st c):(v.kind=1∨v.kind=2)/\v.chan=c/\0<(cAt st.chans c).length/\(v.kind=2->((cAt st.chans c).length:Int)<(R7 mo.chans c).room):=by
 unfold Mo.movesC at h
 rcases List.mem_append.1 h with h | h
 ·split at h
  ·rename_i hc
   simp only [Bool.and_eq_true,decide_eq_true_eq] at hc
   simp only [List.mem_singleton] at h
   subst h
   exact ⟨.inl rfl,rfl,hc.2,fun e=>by cases e⟩
  ·cases h
 ·split at h
  ·rename_i hc
   simp only [Bool.and_eq_true,decide_eq_true_eq] at hc
   simp only [List.mem_singleton] at h
   subst h
   exact ⟨.inr rfl,rfl,hc.1.2,fun _=>hc.2⟩
  ·cases h
theorem a79 {v:Mv} (h:v∈mo.moves st):mo.mvOk st v:=by
 unfold Mo.moves at h
 rcases List.mem_append.1 h with h | h
 ·obtain ⟨i,hi,hv⟩:=List.mem_flatMap.1 h
  obtain ⟨h1,_⟩:=b2U hv
  obtain ⟨a,b,c,d⟩:=b1S h1
  subst b
  exact .inl ⟨a,List.mem_range.1 hi,c,d⟩
 ·split at h
  ·obtain ⟨c,hc,hv⟩:=List.mem_flatMap.1 h
   obtain ⟨a,rfl,b,d⟩:=a4D hv
   rcases a with a | a
   ·exact .inr (.inl ⟨a,List.mem_range.1 hc,b⟩)
   ·exact .inr (.inr ⟨a,List.mem_range.1 hc,b,d a⟩)
  ·cases h
theorem a3d {v:Mv} (h0:v.kind=0):mo.doS st v=mo.doE st v.proc (pAt mo.procs v.proc) (eAt (pAt mo.procs v.proc).edges v.edge):=by
 unfold Mo.doS
 rw [if_neg (by omega),if_neg (by omega)]
theorem c0K {i:Nat} {p:Pr} {e:Ed} (h:e.keep=false):mo.doE st i p e=mo.edgeS st i p e:=by
 unfold Mo.doE
 rw [h]
 simp only [Bool.false_and,Bool.false_eq_true,if_false]
 rw [a17]
theorem b85 {a:Nat}:((a:Int)=0)=(a=0):=by apply propext;omega
attribute [go_sem] b85
theorem a4H (ho:N6 mo) {st:Stt}:(mo.moves st).length<=17000:=by
 have h1:=Mo.mvP_len ho (st:=st) (Nat.le_refl _)
 have h2:=Mo.mvC_len (mo:=mo) (st:=st) (i:=mo.chans.length)
 have:=ho.np
 have:=ho.nc
 rw [Mo.moves_eq,List.length_append]
 split
 ·omega
 ·simp only [List.length_nil];omega
end Go.V
namespace Go.V
def aB (l:List Bool) (i:Nat):Bool:=l.getD i false
theorem b7E {l:List Bool} {i:Nat} (h:i<l.length):aB l i=l[i]:=by simp [aB,List.getD,h]
structure Code {α β:Type} (A:α->Prop) (sz:α->Nat) (e:α->β->List Bool) (d:α->List Bool->Option (β×List Bool)) (V:α->β->Prop):Prop where
 enc:∀a b r,A a->V a b->d a (e a b++r)=some (b,r)
 dec:∀a l b r,A a->sz a<=l.length->d a l=some (b,r)->V a b/\l=e a b++r
 len:∀a b,V a b->(e a b).length=sz a
theorem c2x (w:Nat):((2 ^ w:Nat):Int)=2 ^ w:=by simp
theorem b8d {n:Int} {w:Nat} (h:w<=16):IntKind.i64.wrap (b2o .i64 n (2 ^ w-1))=n % 2 ^ w:=by
 show IntKind.i64.wrap ((BitVec.ofInt IntKind.i64.bits n &&& BitVec.ofInt IntKind.i64.bits (2 ^ w-1)).toNat:Int)=n % 2 ^ w
 have hp:2 ^ w<=2 ^ 16:=Nat.pow_le_pow_right (by omega) h
 have hp0:0<2 ^ w:=Nat.pos_of_ne_zero (by simp)
 have hc:((2 ^ w:Nat):Int)=2 ^ w:=by simp
 have a2:(BitVec.ofInt IntKind.i64.bits (2 ^ w-1)).toNat=2 ^ w-1:=by
  rw [BitVec.toNat_ofInt,show IntKind.i64.bits=64 from rfl,<- hc]
  rw [Int.emod_eq_of_lt (by omega) (by omega)]
  omega
 have e1:(BitVec.ofInt IntKind.i64.bits n &&& BitVec.ofInt IntKind.i64.bits (2 ^ w-1)).toNat=(n % 2 ^ 64).toNat % 2 ^ w:=by
  rw [BitVec.toNat_and,a2,Nat.and_two_pow_sub_one_eq_mod,BitVec.toNat_ofInt]
  rfl
 rw [e1]
 have h0:0<=n % 2 ^ 64:=Int.emod_nonneg _ (by decide)
 have hm:=Nat.mod_lt (n % 2 ^ 64).toNat hp0
 rw [O8 (by omega) (by omega),Int.natCast_emod,Int.toNat_of_nonneg h0,hc]
 exact Int.emod_emod_of_dvd _ (b3e (w:=w) (v:=64) (by omega))
end Go.V
namespace Go.Proofs.YtnjlhebkhjcagaaGreat
open Go.V
set_option maxRecDepth 100000
set_option maxHeartbeats 4000000
theorem b1f {w:Nat} (h:w<=16):(2:Int) ^ w<=65536/\(1:Int)<=2 ^ w:=by
 have h1:2 ^ w<=2 ^ 16:=Nat.pow_le_pow_right (by omega) h
 have h2:0<2 ^ w:=Nat.two_pow_pos w
 have:=c2x w
 omega
theorem b1A {w:Nat} {k:IntKind} (h:w<=16):a4i .shl .i64 1 (w:Int)=some (.int .i64 (2 ^ w)):=by
 have:=b1f h
 unfold a4i
 rw [if_neg (by omega)]
 simp only [Int.toNat_natCast]
 rw [show min w IntKind.i64.bits=w by rw [show IntKind.i64.bits=64 from rfl];omega,Int.one_mul,O8 (by omega) (by omega)]
theorem c5H {n:Int} (h1:1<=n) (h2:n<=16):Eqc vfs 119 [.int .i64 n] (.int .i64 n):=by
 have e1:max n 1=n:=by omega
 have e2:min n 16=n:=by omega
 refine S5 ?_
 refine P0 (vf:=a83) rfl ?_
 unfold a83;refine zF ?_
 exact zZ (aN e1 e2)
theorem b4n {x:Int} {w:Nat} (hx:a0S x) (h1:1<=w) (h2:w<=16):Eqc vfs 98 [.int .i64 x,.int .i64 (w:Int)] (.int .i64 (N4 x w)):=by
 have hb:=c5H (n:=(w:Int)) (by omega) (by omega)
 have s1:=b1A (w:=w) (k:=.i64) h2
 have s2:=b1A (w:=w-1) (k:=.i64) (by omega)
 have p1:=b1f h2
 have p2:=b1f (w:=w-1) (by omega)
 have ew:IntKind.i64.wrap ((w:Int)-1)=((w-1:Nat):Int):=by rw [O8 (by omega) (by omega)];omega
 have e1:IntKind.i64.wrap ((2:Int) ^ w-1)=2 ^ w-1:=O8 (by omega) (by omega)
 have hm:=b8d (n:=x) h2
 have h3:=Int.emod_nonneg x (b:=2 ^ w) (by omega)
 have h4:=Int.emod_lt_of_pos x (a6d w)
 have e2:IntKind.i64.wrap (x % 2 ^ w-2 ^ w)=x % 2 ^ w-2 ^ w:=O8 (by omega) (by omega)
 refine S5 ?_
 refine P0 (vf:=a8k) rfl ?_
 unfold a8k;refine zF ?_
 by_cases hc:2 ^ (w-1)<=x % 2 ^ w
 ·rw [a9f h1,if_pos hc]
  exact zZ (aN hb (aN s1 (aN s2 (aN ew (aN e1 (aN hm (aN hc e2)))))))
 ·rw [a9f h1,if_neg hc]
  exact zZ (aN hb (aN s1 (aN s2 (aN ew (aN e1 (aN hm hc))))))
theorem b4t {x:Int} {w:Nat} (hx:a0S x) (h1:1<=w) (h2:w<=16):Eqc vfs 73 [.int .i64 x,.int .i64 (w:Int)] (.bool (decide (N4 x w=x))):=by
 have ht:=b4n hx h1 h2
 refine S5 ?_
 refine P0 (vf:=a8m) rfl ?_
 unfold a8m;refine zF ?_
 exact zZ ht
end Go.Proofs.YtnjlhebkhjcagaaGreat
namespace Go.V
variable {fs:FuncId->Option M5}
theorem b2F (l:List Bool):(S1 l).flatten=a1d l:=by
 induction l with
 | nil=>rfl
 | cons b l ih=>show [.bool b]++(S1 l).flatten=_;rw [ih];rfl
structure GrB (s0 s:k4) (ids:List Nat) (A B R:Hs) (d:D) (l:List Bool) (E:Hs):Prop where
 rp:Rp d 1 (S1 l) E
 hp:Hp s (A++E++B) R
 fr:Fr ids s0 s
 nw:∀e∈E,e.1∈ids∨s0.next<=e.1
theorem GrB.frz {s0 s:k4} {ids:List Nat} {A B R E:Hs} {d:D} {l:List Bool} (h:GrB s0 s ids A B R d l E):∃d',ice s.get 20 d=some d'/\FL 1 d' (S1 l):=a4g h.rp h.hp (fun e he=>by simp [he]) (a4e _) (b4b _)
theorem b39 {l:List Bool} {i:Nat} (h:i<l.length):(a1d l)[i]?=some (.bool (aB l i)):=by rw [b7E h];simp [a1d,h]
attribute [go_sem] b39 b1F
theorem a7W {i t fo args rest s K} {env:Env} {f:FuncId} {caps:List D} {l:List D} {P:D->k4->Prop} (hf:env.ev fo=.fn f caps) (hr:EvP fs f l s P) (ha:env.evL args++caps=l)
 (h:∀d s',P d s'->XQ fs [] rest ((t,d)::env) s' K):WQ fs [] ((i,⟨some t,.m (.call .raw fo args),none⟩)::rest) env s K:=by
 subst ha
 obtain ⟨d,s',⟨n,hn⟩,hp⟩:=hr
 exact a8R ⟨n,by simp only [evM,a1h,hf];exact hn⟩ (a1O (h d s' hp))
def GrL (s0 s:k4) (R:Hs) (d:D) (l:List Bool) (E:Hs):Prop:=GrB s0 s [] [] [] R d l E
theorem GrB.base {s0 s s':k4} {R R' E E':Hs} {d d':D} {l l':List Bool} (h:GrB s s' (E.map Prod.fst) [] [] R' d' l' E') (h0:GrL s0 s R d l E):GrL s0 s' R' d' l' E':=by
 have nE:∀i∈E.map Prod.fst,s0.next<=i:=fun i hi=>by
  obtain ⟨e,he,rfl⟩:=List.mem_map.1 hi
  rcases h0.nw e he with h | h
  ·simp at h
  ·exact h
 refine ⟨h.rp,h.hp,⟨Nat.le_trans h0.fr.1 h.fr.1,fun j hj _=>?_⟩,fun e he=>.inr ?_⟩
 ·rw [h.fr.2 j (Nat.lt_of_lt_of_le hj h0.fr.1) fun hc=>by have:=nE j hc;omega,h0.fr.2 j hj (by simp)]
 ·rcases h.nw e he with h | h
  ·exact nE _ h
  ·exact Nat.le_trans h0.fr.1 h
theorem GrL.mv {s0 s s':k4} {R E:Hs} {d:D} {l:List Bool} (h:GrL s0 s R d l E) (hf:Fr [] s s'):GrL s0 s' R d l E :=
 ⟨h.rp,h.hp.fr hf,h.fr.trans hf (by simp),h.nw⟩
theorem GrL.nil {s0 s:k4} {R:Hs} (h:Has s R) (hf:Fr [] s0 s):GrL s0 s R .nils [] []:=⟨.inl ⟨rfl,rfl,rfl⟩,⟨List.nodup_nil,by simp,by simp [Has],h⟩,hf,by simp⟩
theorem a2m {s:k4} {z o:O1}:Fr [] s ((s.push z).set s.next (some o)):=(Fr.push _).thenSet _ (.inr (Nat.le_refl _))
theorem GrL.apart {s0 s:k4} {R E:Hs} {d:D} {l:List Bool} (h:GrL s0 s R d l E) {r:Nat×List D} (hr:r∈R):r.1∉E.map Prod.fst:=fun hm=>by
 obtain ⟨e,he,h1⟩:=List.mem_map.1 hm
 exact h.hp.ap e (by simp [he]) r hr h1
theorem GrL.lt {s0 s:k4} {R E:Hs} {d:D} {l:List Bool} (h:GrL s0 s R d l E) {id:Nat} (hm:id∈E.map Prod.fst):id<s.next:=by
 obtain ⟨e,he,h1⟩:=List.mem_map.1 hm
 rw [<- h1]
 exact M7 (h.hp.w e (by simp [he]))
theorem GrL.sub {s0 s:k4} {R R' E:Hs} {d:D} {l:List Bool} (h:GrL s0 s R d l E) (hr:∀x∈R',x∈R):GrL s0 s R' d l E :=
 ⟨h.rp,h.hp.sub (List.Sublist.refl _) hr,h.fr,h.nw⟩
theorem GrL.box {s0 s:k4} {R E:Hs} {d:D} {l:List Bool} (h:GrL s0 s R d l E) {z:O1} {cs:List D}:GrL s0 ((s.push z).set s.next (some (.cells cs))) ((s.next,cs)::R) d l E:=by
 have h2:=h.mv (a2m (z:=z) (o:=.cells cs))
 refine ⟨h.rp,h2.hp.addR1 (S0 (by simp)) fun w hw heq=>?_,h.fr.trans a2m (by simp),h.nw⟩
 have hw':w∈E:=by simpa using hw
 have:=h.lt (List.mem_map_of_mem hw')
 omega
theorem c65 {d:D} {l:List Bool} {i:Nat} {k:IntKind} (h:FL 1 d (S1 l)) (hi:i<l.length):N3 1 d (.int k (i:Int))=some (.fp [.bool (aB l i)] 0):=by rw [a8y h hi];rfl
theorem c19 {l:List Bool} {i:Nat}:bAt l i=aB l i:=rfl
attribute [go_sem] c19
def Rdr (s:k4) (r:Nat) (l:List Bool):Prop:=∃d,s.get r=some (.cells [d])/\FL 1 d (S1 l)
theorem c5p (l:List Bool) (n:Nat):S1 (l.take n)=(S1 l).take n:=by simp [S1,List.map_take]
theorem c5L (l:List Bool) (n:Nat):S1 (l.drop n)=(S1 l).drop n:=by simp [S1,List.map_drop]
theorem Hp.frI {s s':k4} {W R:Hs} {ids:List Nat} (h:Hp s W R) (hf:Fr ids s s') (hn:∀w∈W++R,w.1∉ids):Hp s' W R :=
 ⟨h.nd,h.ap,fun w hw=>by rw [hf.2 _ (M7 (h.w w hw)) (hn w (by simp [hw])),h.w w hw],fun w hw=>by rw [hf.2 _ (M7 (h.r w hw)) (hn w (by simp [hw])),h.r w hw]⟩
structure GrZ (n0:Nat) (s:k4) (R:Hs) (d:D) (l:List Int) (E:Hs):Prop where
 rp:Rp d 1 (W3 l) E
 hp:Hp s E R
 nw:∀e∈E,n0<=e.1
theorem GrZ.fr {n0:Nat} {s s':k4} {R E:Hs} {d:D} {l:List Int} {ids:List Nat} (h:GrZ n0 s R d l E) (hf:Fr ids s s') (h1:∀i∈ids,i<n0) (h2:∀x∈R,x.1∉ids):GrZ n0 s' R d l E :=
 ⟨h.rp,h.hp.frI hf fun w hw hi=>by
  rcases List.mem_append.1 hw with hw | hw
  ·have:=h.nw w hw
   have:=h1 _ hi
   omega
  ·exact h2 w hw hi,h.nw⟩
structure UnW (mcs:List D) (s:k4) (dA dV dC:D) (W:Hs):Prop where
 hp:Hp s ((3,[dA,dV,dC,.int .i64 0])::(1,[.nils,.nils,.nils,.int .i64 0])::W) [(0,mcs)]
 nw:∀e∈W,4<=e.1
theorem UnW.lt {mcs:List D} {s:k4} {dA dV dC:D} {W:Hs} (h:UnW mcs s dA dV dC W):3<s.next:=M7 (h.hp.w (3,[dA,dV,dC,.int .i64 0]) (by simp))
theorem UnW.fr {mcs:List D} {s s':k4} {dA dV dC:D} {W:Hs} {ids:List Nat} (h:UnW mcs s dA dV dC W) (hf:Fr ids s s') (hi:∀i∈ids,i=2):UnW mcs s' dA dV dC W :=
 ⟨h.hp.frI hf fun w hw hn=>by
  have:=hi _ hn
  simp only [List.cons_append,List.mem_cons,List.mem_append,List.not_mem_nil,or_false] at hw
  rcases hw with rfl | rfl | hw | rfl
  ·simp at this
  ·simp at this
  ·have:=h.nw w hw;omega
  ·simp at this,h.nw⟩
theorem Rdr.fr {s s':k4} {l:List Bool} {r:Nat} (h:Rdr s r l) (hf:Fr [] s s'):Rdr s' r l:=by
 obtain ⟨d,h1,h2⟩:=h
 exact ⟨d,by rw [hf.2 _ (M7 h1) (by simp),h1],h2⟩
end Go.V
namespace Go.Proofs.YtnjlhebkhjcagaaGreat
open Go.V
set_option maxRecDepth 100000
set_option maxHeartbeats 4000000
variable {m:MdX} {mo:Mo} {ps:List (Pr×PrD)} {x:StD} {st:Stt}
theorem c6g {s:k4} {id:Nat} {c:Ch} {n:Int} (hg:s.get id=some (.cells [.str c.name,.int .i64 c.room,.int .i64 c.width,.bool c.lossy,.bool c.copying])) (hn:a0S n) (h1:1<=c.width) (h2:c.width<=8) :
 EvP vfs 74 [.int .i64 n,.ptr id 0] s fun r s'=>r=.bool (!decide (N4 n c.width.toNat=n))/\s'=s:=by
 have hb:=b4t (x:=n) (w:=c.width.toNat) hn (by omega) (by omega)
 rw [Int.toNat_of_nonneg (by omega)] at hb
 refine X8 (vf:=a8O) rfl ?_
 unfold a8O;refine zF ?_
 refine zY (aN hg hb) ?_
 exact ⟨rfl,rfl⟩
theorem c5G {s:k4} {id:Nat} {c:Ch} {d:D} {l:List Int} (hd:FI d l) (hll:l.length<=1000) (hg:s.get id=some (.cells [.str c.name,.int .i64 c.room,.int .i64 c.width,.bool c.lossy,.bool c.copying])) (hn:∀n∈l,a0S n/\N4 n c.width.toNat=n) (h1:1<=c.width) (h2:c.width<=8) :
 EvP vfs 99 [d,.fn 74 [.ptr id 0]] s fun r s'=>r=.int .i64 (-1)/\s'=s:=by
 refine X8 (vf:=b04) rfl ?_
 unfold b04;refine zF ?_
 refine zY hd ?_
 refine U2 [0,1,7] 0 l.length (fun i f s'=>f 8=.int .i64 (i:Int)/\s'=s) (.mk rfl) (by omega) ⟨rfl,rfl⟩ ?_
 rintro i f s' hi ⟨hE,rfl⟩
 by_cases ci:i<l.length
 ·have hw:=hn _ (a4V ci)
  have hc:=c6g hg hw.1 h1 h2
  rw [hw.2] at hc
  refine zY (aN hE (aN hd ci)) ?_
  refine a7W rfl hc rfl ?_
  rintro r s2 ⟨rfl,rfl⟩
  refine zY (aN hE ci) ?_
  trivial
 ·refine zY (aN hE ci) ?_
  exact ⟨rfl,rfl⟩
theorem c55 {s:k4} {id:Nat} {c:Ch} {d:D} {l:List Int} (hd:FI d l) (hll:l.length<=1000) (hg:s.get id=some (.cells [.str c.name,.int .i64 c.room,.int .i64 c.width,.bool c.lossy,.bool c.copying])) (hn:∀n∈l,a0S n/\N4 n c.width.toNat=n) (h1:1<=c.width) (h2:c.width<=8) :
 EvP vfs 75 [d,.fn 74 [.ptr id 0]] s fun r s'=>r=.bool false/\s'=s:=by
 have hi:=c5G hd hll hg hn h1 h2
 refine X8 (vf:=a9P) rfl ?_
 unfold a9P;refine zF ?_
 refine zY0 ?_
 refine a1Q hi rfl ?_
 rintro r s2 ⟨rfl,rfl⟩
 refine zY0 ?_
 exact ⟨rfl,rfl⟩
structure b1x (mo:Mo) (x:StD) (st:Stt):Prop where
 f:StF x st
 e:St8 st
 fit:Fit mo { st with hold:=-1 }
 hd:a0S st.hold
theorem b11 (hm:MoF m mo ps) (ho:N6 mo) (hf:X5 mo) (hx:b1x mo x st):Eqc vfs 51 [.agg [m.dt,.int .i64 m.g,m.dc,m.dv,m.dp,m.ds,.bool m.b],.agg [x.da,x.dv,x.dc,.int .i64 st.hold]] (.bool (decide (-1<=st.hold/\st.hold<(mo.procs.length:Int)))):=by
 have om:=hm.ones
 have ox:=hx.f.ones
 have hxa:=hx.f.a
 have hxv:=hx.f.v
 have hxf:=hx.f
 have hmv:=hm.v
 have hmc:=hm.c
 have ea:st.at'.length=mo.procs.length:=hx.fit.at'
 have ev:st.vars.length=mo.vars.length:=hx.fit.vars
 have ec:st.chans.length=mo.chans.length:=hx.fit.chans
 have hnp:=ho.np
 have hnv:=ho.nv
 have hnc:=ho.nc
 refine S5 ?_
 refine P0 (vf:=a96) rfl ?_
 unfold a96;refine zF ?_
 refine zY (aN om (aN ox (aN ea (aN ev ec)))) ?_
 have g0:((k4.empty.push (.cells [m.dt,.int .i64 m.g,m.dc,m.dv,m.dp,m.ds,.bool m.b])).push (.cells [x.da,x.dv,x.dc,.int .i64 st.hold])).get 0=some (.cells [m.dt,.int .i64 m.g,m.dc,m.dv,m.dp,m.ds,.bool m.b]):=by simp (disch:=(first|exact Rf.mk rfl|with_reducible assumption|omega|((repeat (first|rw [nP]|rw [nS]|rw [M3]))<;>omega)|decide)) only [go_sem,↓reduceIte]
 have g1:((k4.empty.push (.cells [m.dt,.int .i64 m.g,m.dc,m.dv,m.dp,m.ds,.bool m.b])).push (.cells [x.da,x.dv,x.dc,.int .i64 st.hold])).get 1=some (.cells [x.da,x.dv,x.dc,.int .i64 st.hold]):=by simp (disch:=(first|exact Rf.mk rfl|with_reducible assumption|omega|((repeat (first|rw [nP]|rw [nS]|rw [M3]))<;>omega)|decide)) only [go_sem,↓reduceIte]
 generalize (k4.empty.push (.cells [m.dt,.int .i64 m.g,m.dc,m.dv,m.dp,m.ds,.bool m.b])).push (.cells [x.da,x.dv,x.dc,.int .i64 st.hold])=s0 at *
 refine U2 [0,1,2,3,7,8,9,10,11,12,37,39,40,60,61,62,63,75,78,79,80,81,100] 0 mo.procs.length (fun i f s=>f 41=.int .i64 (i:Int)/\s=s0) (.mk rfl) (by omega) ⟨rfl,rfl⟩ ?_
 rintro i f s hi ⟨hE,rfl⟩
 by_cases ci:i<mo.procs.length
 ·have ci':i<st.at'.length:=by omega
  have hpl:=hx.fit.pl i ci' ci
  have e1:¬ ((nAt st.at' i:Nat):Int)<0:=by omega
  have e2:nAt st.at' i<(pAt mo.procs i).places:=by rw [a1J ci',a2Q ci];exact hpl
  have e3:¬ (pAt mo.procs i).places<=nAt st.at' i:=by omega
  exact zZ (aN hE (aN ci (aN ci' (aN g0 (aN g1 (aN om (aN ox (aN e1 (aN e2 e3)))))))))
 obtain rfl:i=mo.procs.length:=by omega
 refine zY (aN hE (aN ci (aN g0 (aN g1 (aN om (aN ox ev)))))) ?_
 refine U2 [0,1,2,3,5,6,9,10,11,12,37,39,40,41,42,57,60,61,78,79,80,81,100] 0 mo.vars.length (fun i f s'=>f 62=.int .i64 (i:Int)/\s'=s) (.mk rfl) (by omega) ⟨rfl,rfl⟩ ?_
 clear hi ci hE
 rintro i f s hi ⟨hE,rfl⟩
 by_cases ci:i<mo.vars.length
 ·have ci':i<st.vars.length:=by omega
  have hvr:N4 st.vars[i] mo.vars[i].width.toNat=st.vars[i]:=hx.fit.vr i ci' ci
  have h8:=hx.e.v _ (a4V ci')
  unfold I8 at h8
  have hw:=hf.vr _ (a2O ci)
  have hb:=b4t (x:=zAt st.vars i) (w:=(vAt mo.vars i).width.toNat) ⟨by omega,by omega⟩ (by omega) (by omega)
  rw [Int.toNat_of_nonneg (by omega),show N4 (zAt st.vars i) (vAt mo.vars i).width.toNat=zAt st.vars i by rw [a1I ci',a5b ci];exact hvr,decide_eq_true rfl] at hb
  exact zZ (aN hE (aN ci (aN ci' (aN g0 (aN g1 (aN om (aN ox hb)))))))
 obtain rfl:i=mo.vars.length:=by omega
 refine zY (aN hE (aN ci (aN g0 (aN g1 (aN om (aN ox ec)))))) ?_
 refine U2 [0,1,2,3,5,6,7,8,37,39,40,41,42,57,60,61,62,63,75,78,79] 0 mo.chans.length (fun i f s'=>f 80=.int .i64 (i:Int)/\s'.get 0=some (.cells [m.dt,.int .i64 m.g,m.dc,m.dv,m.dp,m.ds,.bool m.b])/\s'.get 1=some (.cells [x.da,x.dv,x.dc,.int .i64 st.hold])) (.mk rfl) (by omega) ⟨rfl,g0,g1⟩ ?_
 clear hi ci hE g0 g1
 rintro i f s hi ⟨hE,g0,g1⟩
 have l0:=M7 g0
 have l1:=M7 g1
 by_cases ci:i<mo.chans.length
 ·have ci':i<st.chans.length:=by omega
  have hcl:=hx.fit.cl i ci' ci
  have hcv:=hx.fit.cv i ci' ci
  have h8:=hx.e.c _ (a55 ci')
  have hw:=hf.ch _ (a2S ci)
  have e1:¬ (R7 mo.chans i).room<((cAt st.chans i).length:Int):=by
   have:((cAt st.chans i).length:Int)<=(R7 mo.chans i).room:=by rw [a1x ci',a2A ci];exact hcl
   omega
  have hn:∀n∈cAt st.chans i,a0S n/\N4 n (R7 mo.chans i).width.toNat=n:=fun n hn=>by
   have:=h8.2 n hn
   unfold I8 at this
   refine ⟨⟨by omega,by omega⟩,?_⟩
   rw [a1x ci'] at hn
   rw [a2A ci];exact hcv n hn
  have hco:=fun s2 id hg=>c55 (s:=s2) (id:=id) (c:=R7 mo.chans i) (a3q hxf ci') (by omega) hg hn hw.2.2.1 hw.2.2.2
  refine zY (aN hE (aN ci (aN ci' (aN g0 (aN g1 (aN om (aN ox e1))))))) ?_
  refine a1Q (hco _ s.next (S0 (by simp))) rfl ?_
  rintro r s2 ⟨rfl,rfl⟩
  refine zY (aN hE (aN ci (aN g0 g1))) ?_
  trivial
 obtain rfl:i=mo.chans.length:=by omega
 have hh:=hx.hd
 by_cases c1:-1<=st.hold
 ·refine zY (aN hE (aN ci (aN g0 (aN g1 (aN om (aN ox c1)))))) ?_
  simp
 ·refine zY (aN hE (aN ci (aN g0 (aN g1 (aN om (aN ox c1)))))) ?_
  simp
end Go.Proofs.YtnjlhebkhjcagaaGreat
namespace Go.Proofs.YtnjlhebkhjcagaaGreat
open Go.V
set_option maxRecDepth 100000
set_option maxHeartbeats 4000000
variable {m:MdX} {mo:Mo} {ps:List (Pr×PrD)} {x:StD} {st:Stt}
theorem a3M {b:Bool}:Eqc vfs 136 [.bool b] (.int .i64 (a2Z b)):=by
 refine S5 ?_
 cases b
 ·refine P0 (vf:=a5F) rfl ?_
  unfold a5F;refine zF ?_
  refine zY0 ?_
  rfl
 ·refine P0 (vf:=a5F) rfl ?_
  unfold a5F;refine zF ?_
  refine zY0 ?_
  rfl
theorem a4a {x:Int} (h1:-4294967296<=x) (h2:x<=4294967296):Eqc vfs 98 [.int .i64 x,.int .i64 8] (.int .i64 (N4 x 8)):=b4n (w:=8) ⟨by omega,by omega⟩ (by decide) (by decide)
theorem b93 {a b:Int} (ha:I8 a):-128<=a.tdiv b/\a.tdiv b<=128:=by
 unfold I8 at ha
 have h1:(a.tdiv b).natAbs<=a.natAbs:=by
  rw [Int.natAbs_tdiv];exact Nat.div_le_self _ _
 omega
theorem c5q {a b:Int} (ha:I8 a):-128<=a.tmod b/\a.tmod b<=128:=by
 unfold I8 at ha
 have h1:(a.tmod b).natAbs<=a.natAbs:=by
  rw [Int.natAbs_tmod];exact Nat.mod_le _ _
 omega
theorem c27 {op:Nat} (hop:op<=8) {a b:Int} (ha:I8 a) (hb:I8 b):Eqc vfs 137 [.int .i64 (op:Int),.int .i64 a,.int .i64 b] (.tup [.int .i64 (W8 (op:Int) a b).1,.bool (W8 (op:Int) a b).2]):=by
 have ha':=ha
 have hb':=hb
 unfold I8 at ha' hb'
 have hq:=b93 (b:=b) ha
 have hr:=c5q (b:=b) ha
 have hm:-16384<=a*b/\a*b<=16384:=by
  have h1:(a*b).natAbs<=128*128:=by
   rw [Int.natAbs_mul]
   exact Nat.mul_le_mul (by omega) (by omega)
  omega
 have e1:IntKind.i64.wrap (a+b)=a+b:=O8 (by omega) (by omega)
 have e2:IntKind.i64.wrap (a-b)=a-b:=O8 (by omega) (by omega)
 have e3:IntKind.i64.wrap (a*b)=a*b:=O8 (by omega) (by omega)
 have e4:IntKind.i64.wrap (a.tdiv b)=a.tdiv b:=O8 (by omega) (by omega)
 have e5:IntKind.i64.wrap (a.tmod b)=a.tmod b:=O8 (by omega) (by omega)
 have t1:=a4a (x:=a+b) (by omega) (by omega)
 have t2:=a4a (x:=a-b) (by omega) (by omega)
 have t3:=a4a (x:=a*b) (by omega) (by omega)
 have t4:=a4a (x:=a.tdiv b) (by omega) (by omega)
 have t5:=a4a (x:=a.tmod b) (by omega) (by omega)
 refine S5 ?_
 obtain rfl | rfl | rfl | rfl | rfl | rfl | rfl | rfl | rfl:op=0∨op=1∨op=2∨op=3∨op=4∨op=5∨op=6∨op=7∨op=8:=by omega
 ·by_cases a0:a=0
  ·refine P0 (vf:=Z0) rfl ?_
   unfold Z0;refine zF ?_
   simp (disch:=(first|exact Rf.mk rfl|with_reducible assumption|omega|((repeat (first|rw [nP]|rw [nS]|rw [M3]))<;>omega)|decide)) only [go_sem,↓reduceIte,a3M,a0]
   simp [W8,a0]
  ·refine P0 (vf:=Z0) rfl ?_
   unfold Z0;refine zF ?_
   simp (disch:=(first|exact Rf.mk rfl|with_reducible assumption|omega|((repeat (first|rw [nP]|rw [nS]|rw [M3]))<;>omega)|decide)) only [go_sem,↓reduceIte,a3M,a0]
   simp [W8,a0]
 ·by_cases a0:a=0
  ·refine P0 (vf:=Z0) rfl ?_
   unfold Z0;refine zF ?_
   simp (disch:=(first|exact Rf.mk rfl|with_reducible assumption|omega|((repeat (first|rw [nP]|rw [nS]|rw [M3]))<;>omega)|decide)) only [go_sem,↓reduceIte,a3M,a0]
   simp [W8,a0]
  ·refine P0 (vf:=Z0) rfl ?_
   unfold Z0;refine zF ?_
   simp (disch:=(first|exact Rf.mk rfl|with_reducible assumption|omega|((repeat (first|rw [nP]|rw [nS]|rw [M3]))<;>omega)|decide)) only [go_sem,↓reduceIte,a3M,a0]
   simp [W8,a0]
 ·refine P0 (vf:=Z0) rfl ?_
  unfold Z0;refine zF ?_
  simp (disch:=(first|exact Rf.mk rfl|with_reducible assumption|omega|((repeat (first|rw [nP]|rw [nS]|rw [M3]))<;>omega)|decide)) only [go_sem,↓reduceIte,a3M]
  simp [W8]
 ·refine P0 (vf:=Z0) rfl ?_
  unfold Z0;refine zF ?_
  simp (disch:=(first|exact Rf.mk rfl|with_reducible assumption|omega|((repeat (first|rw [nP]|rw [nS]|rw [M3]))<;>omega)|decide)) only [go_sem,↓reduceIte,a3M]
  simp [W8]
 ·refine P0 (vf:=Z0) rfl ?_
  unfold Z0;refine zF ?_
  refine zY (aN e1 t1) ?_
  simp [W8,doZ]
 ·refine P0 (vf:=Z0) rfl ?_
  unfold Z0;refine zF ?_
  refine zY (aN e2 t2) ?_
  simp [W8,doZ]
 ·refine P0 (vf:=Z0) rfl ?_
  unfold Z0;refine zF ?_
  refine zY (aN e3 t3) ?_
  simp [W8,doZ]
 ·by_cases b0:b=0
  ·refine P0 (vf:=Z0) rfl ?_
   unfold Z0;refine zF ?_
   refine zY b0 ?_
   simp [W8,b0]
  ·refine P0 (vf:=Z0) rfl ?_
   unfold Z0;refine zF ?_
   simp (disch:=(first|exact Rf.mk rfl|with_reducible assumption|omega|((repeat (first|rw [nP]|rw [nS]|rw [M3]))<;>omega)|decide)) only [go_sem,↓reduceIte,b0,e4,t4]
   simp [W8,doZ,b0]
 ·by_cases b0:b=0
  ·refine P0 (vf:=Z0) rfl ?_
   unfold Z0;refine zF ?_
   refine zY b0 ?_
   simp [W8,b0]
  ·refine P0 (vf:=Z0) rfl ?_
   unfold Z0;refine zF ?_
   refine zY (aN b0 (aN e5 t5)) ?_
   simp [W8,doZ,b0]
theorem c4v {s:k4} {d:D} {l:List ByteArray} {w:ByteArray} (hd:FL 1 d (Y8 l)) (hl:l.length<=1000):EvP vfs 132 [d,.str w] s fun r s'=>r=.int .i64 (if idxB l w<l.length then (idxB l w:Int) else -1)/\s'=s:=by
 have hln:V1 false d=some (.int .i64 (l.length:Int)):=by rw [hd.len,b0d]
 refine X8 (vf:=a97) rfl ?_
 unfold a97;refine zF ?_
 refine zY hln ?_
 refine U2 [0,1,7] 0 l.length (fun i f s'=>f 8=.int .i64 (i:Int)/\s'=s/\∀j (hj:j<l.length),j<i->l[j]≠w) (.mk rfl) (by omega) ⟨rfl,rfl,fun j _ h=>by omega⟩ ?_
 rintro i f s' hi ⟨hE,rfl,hall⟩
 by_cases ci:i<l.length
 ·have hidx:=FLS.idx hd ci (k:=.i64)
  by_cases c4:l[i]=w
  ·have c5:w=l[i]:=c4.symm
   refine zY (aN hE (aN hln (aN ci (aN hidx c5)))) ?_
   rw [<- c5,a4k ci c4 hall,if_pos ci]
   exact ⟨rfl,rfl⟩
  ·have c5:¬ w=l[i]:=fun h=>c4 h.symm
   refine zY (aN hE (aN hln (aN ci (aN hidx c5)))) ?_
   intro j hj hji
   by_cases ej:j=i
   ·subst ej;exact c4
   ·exact hall j hj (by omega)
 ·refine zY (aN hE (aN hln ci)) ?_
  rw [if_neg (a34 fun j hj=>hall j hj (by omega))]
  trivial
theorem b70 (hm:MoF m mo ps) (ho:N6 mo) (hx:StF x st) (hvl:st.vars.length=mo.vars.length) {s:k4} {i pid mid sid:Nat} (hi:i<mo.procs.length) (g0:s.get pid=some (.cells [.int .i64 (i:Int)])) (g1:s.get mid=some (.cells [m.dt,.int .i64 m.g,m.dc,m.dv,m.dp,m.ds,.bool m.b])) (g2:s.get sid=some (.cells [x.da,x.dv,x.dc,.int .i64 st.hold])) {w:ByteArray} :
 EvP vfs 129 [.str w,.ptr pid 0,.ptr mid 0,.ptr sid 0] s fun r s'=>r=.tup [.int .i64 (match O2 (pAt mo.procs i) w with | none=>0 | some v=>zAt st.vars v),.bool (O2 (pAt mo.procs i) w).isSome]/\Fr [] s s':=by
 have om:=hm.ones
 have ox:=hx.ones
 have hxv:=hx.v
 have hp:=a2z hm hi
 have hpo:=ho.pr _ (V7 hi)
 have hnl:=hpo.nl
 have hnv:=ho.nv
 have hsm:=hpo.same
 have l0:=M7 g0
 have l1:=M7 g1
 have l2:=M7 g2
 have c1:¬ ((i:Int)<0):=by omega
 have c2:¬ mo.procs.length<=i:=by omega
 have hix:=fun s=>c4v (s:=s) (w:=w) hp.n (by omega)
 refine X8 (vf:=b0T) rfl ?_
 unfold b0T;refine zF ?_
 refine zY (aN g0 (aN g1 (aN g2 (aN om (aN ox (aN hi (aN c1 c2))))))) ?_
 refine a1Q (hix _) rfl ?_
 rintro r s1 ⟨rfl,rfl⟩
 by_cases c:idxB (pAt mo.procs i).names w<(pAt mo.procs i).names.length
 ·have hvi:idxB (pAt mo.procs i).names w<(pAt mo.procs i).vars.length:=by omega
  have hidv:=FLN.idx hp.v hvi (k:=.i64)
  have hvb:=hpo.var _ (List.getElem_mem hvi)
  have hlk:O2 (pAt mo.procs i) w=some ((pAt mo.procs i).vars[idxB (pAt mo.procs i).names w]):=by
   unfold O2
   rw [if_pos c]
   simp [List.getD,hvi]
  rw [hlk]
  have hvb':(pAt mo.procs i).vars[idxB (pAt mo.procs i).names w]<st.vars.length:=by omega
  generalize (pAt mo.procs i).vars[idxB (pAt mo.procs i).names w]=v at *
  rw [if_pos c]
  refine zY (aN g0 (aN g1 (aN g2 (aN om (aN ox (aN hidv hvb')))))) ?_
  exact ⟨rfl,((Fr.push (ids:=[]) _).trans (Fr.push (ids:=[]) _) (by simp)).thenSet _ (.inr (by simp))⟩
 ·have hlk:O2 (pAt mo.procs i) w=none:=by
   unfold O2
   rw [if_neg c]
  rw [hlk,if_neg c]
  refine zY (aN g0 (aN g1 g2)) ?_
  exact ⟨rfl,((Fr.push (ids:=[]) _).trans (Fr.push (ids:=[]) _) (by simp)).thenSet _ (.inr (by simp))⟩
end Go.Proofs.YtnjlhebkhjcagaaGreat
namespace Go.Proofs.YtnjlhebkhjcagaaGreat
open Go.V
set_option maxRecDepth 100000
set_option maxHeartbeats 4000000
variable {m:MdX} {mo:Mo} {ps:List (Pr×PrD)} {x:StD} {st:Stt}
theorem c5o {s:k4} {nid:Nat} {c:Ch} {w:ByteArray} (hg:s.get nid=some (.cells [.str w])) :
 EvP vfs 134 [.agg [.str c.name,.int .i64 c.room,.int .i64 c.width,.bool c.lossy,.bool c.copying],.ptr nid 0] s fun r s'=>r=.bool (decide (c.name=w))/\Fr [] s s':=by
 have l0:=M7 hg
 refine X8 (vf:=b0F) rfl ?_
 unfold b0F;refine zF ?_
 refine zY hg ?_
 exact ⟨rfl,Fr.push _⟩
theorem c0y (hm:MoF m mo ps) (ho:N6 mo) {s:k4} {nid:Nat} {w:ByteArray} (hg:s.get nid=some (.cells [.str w])) :
 EvP vfs 135 [m.dc,.fn 134 [.ptr nid 0]] s fun r s'=>r=.int .i64 (if idxB mo.ch w<mo.ch.length then (idxB mo.ch w:Int) else -1)/\Fr [] s s':=by
 have hmc:=hm.c
 have hnc:=ho.nc
 have hlc:=hm.lenC
 have hch:mo.ch.length=mo.chans.length:=by simp [Mo.ch]
 have l0:=M7 hg
 refine X8 (vf:=a9v) rfl ?_
 unfold a9v;refine zF ?_
 refine zY hlc ?_
 refine U2 [0,1,7] 0 mo.chans.length (fun i f s'=>f 8=.int .i64 (i:Int)/\Fr [] s s'/\∀j,j<mo.chans.length->j<i->(R7 mo.chans j).name≠w) (.mk rfl) (by omega) ⟨rfl,Fr.refl _ _,fun j _ h=>by omega⟩ ?_
 rintro i f s' hi ⟨hE,fr,hall⟩
 have hg':=fr.2 nid l0 (by simp)
 rw [hg] at hg'
 by_cases ci:i<mo.chans.length
 ·have hcn:=c5o (c:=R7 mo.chans i) hg'
  refine zY (aN hE (aN hlc ci)) ?_
  refine a7W rfl hcn rfl ?_
  rintro r s2 ⟨rfl,fr2⟩
  have fr3:=fr.trans fr2 (by simp)
  by_cases c4:(R7 mo.chans i).name=w
  ·rw [decide_eq_true c4]
   refine zY hE ?_
   have hil:i<mo.ch.length:=by omega
   have eb:=a4k (l:=mo.ch) (w:=w) hil (by rw [<- c4,a2A ci];simp [Mo.ch]) (fun j hj hji=>by have:=hall j (by omega) hji;rw [a2A (by omega)] at this;simpa [Mo.ch] using this)
   rw [eb,if_pos hil]
   exact ⟨rfl,fr3⟩
  ·rw [decide_eq_false c4]
   refine zY (aN hE ci) ?_
   refine ⟨fr3,fun j hj hji=>?_⟩
   by_cases ej:j=i
   ·subst ej;exact c4
   ·exact hall j hj (by omega)
 ·refine zY (aN hE (aN hlc ci)) ?_
  have eb:=a34 (l:=mo.ch) (w:=w) (fun j hj=>by have:=hall j (by omega) (by omega);rw [a2A (by omega)] at this;simpa [Mo.ch] using this)
  rw [if_neg eb]
  exact ⟨rfl,fr⟩
theorem b8F (hm:MoF m mo ps) (ho:N6 mo) (hx:StF x st) (hcl:st.chans.length=mo.chans.length) {s:k4} {mid sid:Nat} (g1:s.get mid=some (.cells [m.dt,.int .i64 m.g,m.dc,m.dv,m.dp,m.ds,.bool m.b])) (g2:s.get sid=some (.cells [x.da,x.dv,x.dc,.int .i64 st.hold])) {w:ByteArray} :
 EvP vfs 133 [.str w,.ptr mid 0,.ptr sid 0] s fun r s'=>r=(if idxB mo.ch w<mo.ch.length then .tup [.int .i64 ((cAt st.chans (idxB mo.ch w)).length:Int),.bool true] else .tup [.int .i64 0,.bool false])/\Fr [] s s':=by
 have om:=hm.ones
 have ox:=hx.ones
 have hxf:=hx
 have hch:mo.ch.length=mo.chans.length:=by simp [Mo.ch]
 have l1:=M7 g1
 have l2:=M7 g2
 refine X8 (vf:=a8N) rfl ?_
 unfold a8N;refine zF ?_
 refine zY (aN g1 (aN g2 (aN om ox))) ?_
 refine a1Q (c0y hm ho (nid:=s.next) (w:=w) (P1 rfl)) rfl ?_
 rintro r s1 ⟨rfl,fr⟩
 have fr0:Fr [] s s1:=(Fr.push _).trans fr (by simp)
 have g2':=fr0.2 sid l2 (by simp)
 rw [g2] at g2'
 by_cases c:idxB mo.ch w<mo.ch.length
 ·have c':idxB mo.ch w<st.chans.length:=by omega
  rw [if_pos c,if_pos c]
  generalize idxB mo.ch w=v at *
  refine zY (aN g2' (aN ox c')) ?_
  exact ⟨rfl,fr0⟩
 ·rw [if_neg c,if_neg c]
  refine zY0 ?_
  exact ⟨rfl,fr0⟩
theorem b1s (hm:MoF m mo ps) (ho:N6 mo) (hx:StF x st) (h8:St8 st) (hfit:Fit mo { st with hold:=-1 }) {i pid mid sid:Nat} (hi:i<mo.procs.length):∀ (n k:Nat),k<mo.tree.length->mo.tree.length-k<n->a0F (nd mo.tree k).kind->∀ (s:k4),s.get pid=some (.cells [.int .i64 (i:Int)])->s.get mid=some (.cells [m.dt,.int .i64 m.g,m.dc,m.dv,m.dp,m.ds,.bool m.b])->s.get sid=some (.cells [x.da,x.dv,x.dc,.int .i64 st.hold]) ->
 EvP vfs 118 [.agg [m.dt,.fn 129 [.ptr pid 0,.ptr mid 0,.ptr sid 0],.fn 133 [.ptr mid 0,.ptr sid 0]],.int .i64 (k:Int)] s fun r s'=>r=.tup [.int .i64 (U1 mo.tree mo.ch (O2 (pAt mo.procs i)) st n k).1,.bool (U1 mo.tree mo.ch (O2 (pAt mo.procs i)) st n k).2]/\Fr [] s s'
 | 0,k,_,h,_=>by omega
 | n+1,k,hk,hn,hex=>by
   intro s g0 g1 g2
   have om:=hm.ones
   have ox:=hx.ones
   have hno:=ho.tree.node k hk
   have hidx:=hm.tr.at (z:=(k:Int)) (by omega) (by omega) (k:=.i64)
   rw [Int.toNat_natCast] at hidx
   have on:=a0U hm.tr hk
   have hw:=a23 hm.tr hk (i:=0)
   have n0:=a22 hm.tr hk (i:=0)
   have z0:((0:Nat):Int)=0:=rfl
   have z1:((1:Nat):Int)=1:=rfl
   rw [hno.wl,z0] at hw
   rw [hno.nl,z0] at n0
   obtain ⟨hkl,hkx⟩:=a5L hno hex
   have ih:∀c,c<(nd mo.tree k).kids.length->∀ (s:k4),s.get pid=some (.cells [.int .i64 (i:Int)])->s.get mid=some (.cells [m.dt,.int .i64 m.g,m.dc,m.dv,m.dp,m.ds,.bool m.b])->s.get sid=some (.cells [x.da,x.dv,x.dc,.int .i64 st.hold])->EvP vfs 118 [.agg [m.dt,.fn 129 [.ptr pid 0,.ptr mid 0,.ptr sid 0],.fn 133 [.ptr mid 0,.ptr sid 0]],.int .i64 (((nd mo.tree k).kid c:Nat):Int)] s fun r s'=>r=.tup [.int .i64 (U1 mo.tree mo.ch (O2 (pAt mo.procs i)) st n ((nd mo.tree k).kid c)).1,.bool (U1 mo.tree mo.ch (O2 (pAt mo.procs i)) st n ((nd mo.tree k).kid c)).2]/\Fr [] s s':=fun c hc=>by
    have h1:=ho.tree.ks hk _ (X0 hc)
    exact b1s hm ho hx h8 hfit hi n _ h1.2 (by omega) (hkx c hc)
   have i8:∀c,I8 (U1 mo.tree mo.ch (O2 (pAt mo.procs i)) st n ((nd mo.tree k).kid c)).1:=fun c=>a3i h8 n _
   have k0:=a0K hm.tr ho.tree hk (i:=0)
   have k1:=a0K hm.tr ho.tree hk (i:=1)
   rw [z0] at k0
   rw [z1] at k1
   have l0:=M7 g0
   have l1:=M7 g1
   have l2:=M7 g2
   have keep:∀ {s':k4},Fr [] s s'->s'.get pid=some (.cells [.int .i64 (i:Int)])/\s'.get mid=some (.cells [m.dt,.int .i64 m.g,m.dc,m.dv,m.dp,m.ds,.bool m.b])/\s'.get sid=some (.cells [x.da,x.dv,x.dc,.int .i64 st.hold]):=fun fr=>⟨by rw [fr.2 _ l0 (by simp),g0],by rw [fr.2 _ l1 (by simp),g1],by rw [fr.2 _ l2 (by simp),g2]⟩
   unfold U1
   simp only
   by_cases q17:(nd mo.tree k).kind=17
   ·rw [if_pos q17]
    rw [q17] at n0
    have n0:=n0 (by decide)
    have hl:=hno.lit q17
    have ht:=a4a (x:=(nd mo.tree k).num 0) (by omega) (by omega)
    refine X8 (vf:=a2b) rfl ?_
    unfold a2b;refine zF ?_
    refine zY (aN om (aN ox (aN hidx (aN on (aN q17 (aN n0 ht)))))) ?_
    exact ⟨rfl,(((Fr.push (ids:=[]) _).trans (Fr.push (ids:=[]) _) (by simp)).thenSet _ (.inr (by simp)))⟩
   rw [if_neg q17]
   by_cases q18:(nd mo.tree k).kind=18
   ·rw [if_pos q18]
    rw [q18] at hw
    have hw:=hw (by decide)
    refine X8 (vf:=a2b) rfl ?_
    unfold a2b;refine zF ?_
    refine zY (aN om (aN ox (aN hidx (aN on (aN q18 hw))))) ?_
    refine a7W rfl (b70 hm ho hx hfit.vars hi (keep (((Fr.push (ids:=[]) _).trans (Fr.push (ids:=[]) _) (by simp)).thenSet _ (.inr (by simp)))).1 (keep (((Fr.push (ids:=[]) _).trans (Fr.push (ids:=[]) _) (by simp)).thenSet _ (.inr (by simp)))).2.1 (keep (((Fr.push (ids:=[]) _).trans (Fr.push (ids:=[]) _) (by simp)).thenSet _ (.inr (by simp)))).2.2) rfl ?_
    rintro r s2 ⟨rfl,fr⟩
    have fr0:=Fr.trans (((Fr.push (ids:=[]) _).trans (Fr.push (ids:=[]) _) (by simp)).thenSet _ (.inr (by simp))) fr (by simp)
    refine zY0 ?_
    refine ⟨?_,fr0⟩
    cases O2 (pAt mo.procs i) ((nd mo.tree k).word 0)<;>rfl
   rw [if_neg q18]
   by_cases q19:(nd mo.tree k).kind=19
   ·rw [if_pos q19]
    rw [q19] at hw
    have hw:=hw (by decide)
    refine X8 (vf:=a2b) rfl ?_
    unfold a2b;refine zF ?_
    refine zY (aN om (aN ox (aN hidx (aN on (aN q19 hw))))) ?_
    refine a7W rfl (b8F hm ho hx hfit.chans (keep (((Fr.push (ids:=[]) _).trans (Fr.push (ids:=[]) _) (by simp)).thenSet _ (.inr (by simp)))).2.1 (keep (((Fr.push (ids:=[]) _).trans (Fr.push (ids:=[]) _) (by simp)).thenSet _ (.inr (by simp)))).2.2) rfl ?_
    rintro r s2 ⟨hr,fr⟩
    have fr0:=Fr.trans (((Fr.push (ids:=[]) _).trans (Fr.push (ids:=[]) _) (by simp)).thenSet _ (.inr (by simp))) fr (by simp)
    by_cases c:idxB mo.ch ((nd mo.tree k).word 0)<mo.ch.length
    ·rw [if_pos c] at hr
     subst hr
     rw [if_pos c]
     refine zY0 ?_
     exact ⟨rfl,fr0⟩
    ·rw [if_neg c] at hr
     subst hr
     rw [if_neg c]
     refine zY0 ?_
     exact ⟨rfl,fr0⟩
   rw [if_neg q19]
   by_cases q20:(nd mo.tree k).kind=20
   ·rw [if_pos q20]
    have h1:=hno.one (by omega)
    have k0:=k0 (by omega)
    obtain ⟨b1,b2⟩:=i8 0
    have e1:IntKind.i64.wrap (0-(U1 mo.tree mo.ch (O2 (pAt mo.procs i)) st n ((nd mo.tree k).kid 0)).1)=-(U1 mo.tree mo.ch (O2 (pAt mo.procs i)) st n ((nd mo.tree k).kid 0)).1:=by rw [O8 (by omega) (by omega)];omega
    have ht:=a4a (x:=-(U1 mo.tree mo.ch (O2 (pAt mo.procs i)) st n ((nd mo.tree k).kid 0)).1) (by omega) (by omega)
    refine X8 (vf:=a2b) rfl ?_
    unfold a2b;refine zF ?_
    refine zY (aN om (aN ox (aN hidx (aN on (aN q20 k0))))) ?_
    refine a1Q (ih 0 (by omega) _ (keep (((Fr.push (ids:=[]) _).trans (Fr.push (ids:=[]) _) (by simp)).thenSet _ (.inr (by simp)))).1 (keep (((Fr.push (ids:=[]) _).trans (Fr.push (ids:=[]) _) (by simp)).thenSet _ (.inr (by simp)))).2.1 (keep (((Fr.push (ids:=[]) _).trans (Fr.push (ids:=[]) _) (by simp)).thenSet _ (.inr (by simp)))).2.2) rfl ?_
    rintro r s2 ⟨rfl,fr⟩
    have fr0:=Fr.trans (((Fr.push (ids:=[]) _).trans (Fr.push (ids:=[]) _) (by simp)).thenSet _ (.inr (by simp))) fr (by simp)
    refine zY (aN e1 ht) ?_
    exact ⟨rfl,fr0⟩
   rw [if_neg q20]
   by_cases q21:(nd mo.tree k).kind=21
   ·rw [if_pos q21]
    have h1:=hno.one (by omega)
    have k0:=k0 (by omega)
    refine X8 (vf:=a2b) rfl ?_
    unfold a2b;refine zF ?_
    refine zY (aN om (aN ox (aN hidx (aN on (aN q21 k0))))) ?_
    refine a1Q (ih 0 (by omega) _ (keep (((Fr.push (ids:=[]) _).trans (Fr.push (ids:=[]) _) (by simp)).thenSet _ (.inr (by simp)))).1 (keep (((Fr.push (ids:=[]) _).trans (Fr.push (ids:=[]) _) (by simp)).thenSet _ (.inr (by simp)))).2.1 (keep (((Fr.push (ids:=[]) _).trans (Fr.push (ids:=[]) _) (by simp)).thenSet _ (.inr (by simp)))).2.2) rfl ?_
    rintro r s2 ⟨rfl,fr⟩
    have fr0:=Fr.trans (((Fr.push (ids:=[]) _).trans (Fr.push (ids:=[]) _) (by simp)).thenSet _ (.inr (by simp))) fr (by simp)
    generalize U1 mo.tree mo.ch (O2 (pAt mo.procs i)) st n ((nd mo.tree k).kid 0)=y0 at *
    obtain ⟨v0,b0⟩:=y0
    have eb:(v0==0)=decide (v0=0):=rfl
    cases b0
    ·refine zY0 ?_
     exact ⟨by rw [Bool.false_and];rfl,fr0⟩
    ·simp (disch:=(first|exact Rf.mk rfl|with_reducible assumption|omega|((repeat (first|rw [nP]|rw [nS]|rw [M3]))<;>omega)|decide)) only [go_sem,↓reduceIte,a3M,eb]
     exact ⟨rfl,fr0⟩
   rw [if_neg q21]
   have q22:(nd mo.tree k).kind=22:=by have:=hex.1;have:=hex.2;omega
   rw [if_pos q22]
   obtain ⟨l2,_,_,o0,o8⟩:=hno.bin q22
   have k0:=k0 (by omega)
   have k1:=k1 (by omega)
   rw [q22] at n0
   have n0:=n0 (by decide)
   obtain ⟨op,hop⟩:=Int.eq_ofNat_of_zero_le o0
   rw [hop] at n0
   have hap:=c27 (op:=op) (by omega) (i8 0) (i8 1)
   refine X8 (vf:=a2b) rfl ?_
   unfold a2b;refine zF ?_
   refine zY (aN om (aN ox (aN hidx (aN on (aN q22 k0))))) ?_
   refine a1Q (ih 0 (by omega) _ (keep (((Fr.push (ids:=[]) _).trans (Fr.push (ids:=[]) _) (by simp)).thenSet _ (.inr (by simp)))).1 (keep (((Fr.push (ids:=[]) _).trans (Fr.push (ids:=[]) _) (by simp)).thenSet _ (.inr (by simp)))).2.1 (keep (((Fr.push (ids:=[]) _).trans (Fr.push (ids:=[]) _) (by simp)).thenSet _ (.inr (by simp)))).2.2) rfl ?_
   rintro r s2 ⟨rfl,fr⟩
   have fr0:=Fr.trans (((Fr.push (ids:=[]) _).trans (Fr.push (ids:=[]) _) (by simp)).thenSet _ (.inr (by simp))) fr (by simp)
   have e2:=fr.2 s.next (by simp;omega) (by simp)
   simp (disch:=(first|exact Rf.mk rfl|with_reducible assumption|omega|((repeat (first|rw [nP]|rw [nS]|rw [M3]))<;>omega)|decide)) only [go_sem,↓reduceIte] at e2
   have e3:=fr.2 (s.next+1) (by simp) (by simp)
   simp (disch:=(first|exact Rf.mk rfl|with_reducible assumption|omega|((repeat (first|rw [nP]|rw [nS]|rw [M3]))<;>omega)|decide)) only [go_sem,↓reduceIte] at e3
   have f2:=M7 e2
   have f3:=M7 e3
   refine zY (aN e2 (aN e3 (aN on k1))) ?_
   refine a1Q (ih 1 (by omega) _ (keep fr0).1 (keep fr0).2.1 (keep fr0).2.2) rfl ?_
   rintro r s3 ⟨rfl,fr3⟩
   have fr4:=fr0.trans fr3 (by simp)
   have e4:=fr3.2 (s.next+1) f3 (by simp)
   rw [e3] at e4
   rw [hop]
   generalize U1 mo.tree mo.ch (O2 (pAt mo.procs i)) st n ((nd mo.tree k).kid 0)=y0 at *
   generalize U1 mo.tree mo.ch (O2 (pAt mo.procs i)) st n ((nd mo.tree k).kid 1)=y1 at *
   obtain ⟨v0,b0⟩:=y0
   obtain ⟨v1,b1⟩:=y1
   simp only at hap ⊢
   cases b0
   ·refine zY0 ?_
    exact ⟨rfl,fr4⟩
   cases b1
   ·refine zY0 ?_
    exact ⟨rfl,fr4⟩
   simp (disch:=(first|exact Rf.mk rfl|with_reducible assumption|omega|((repeat (first|rw [nP]|rw [nS]|rw [M3]))<;>omega)|decide)) only [go_sem,↓reduceIte,e4,on,n0,hap]
   exact ⟨rfl,fr4⟩
end Go.Proofs.YtnjlhebkhjcagaaGreat
namespace Go.Proofs.YtnjlhebkhjcagaaGreat
open Go.V
set_option maxRecDepth 100000
set_option maxHeartbeats 4000000
variable {m:MdX} {mo:Mo} {ps:List (Pr×PrD)} {x:StD} {st:Stt}
theorem b43 (ho:N6 mo) (hx:Y5 mo x st):b1x mo x st:=⟨hx.f,hx.e,a0t.1 ((a0t.2 hx.fit).hd (z:=-1) ⟨by omega,by omega⟩),by
 have h1:=hx.fit.hold
 have h2:=ho.np
 exact ⟨by omega,by omega⟩⟩
theorem c3O (hm:MoF m mo ps) (hx:StF x st) {s:k4} {i:Nat}:EvP vfs 117 [.agg [m.dt,.int .i64 m.g,m.dc,m.dv,m.dp,m.ds,.bool m.b],.int .i64 (i:Int),.agg [x.da,x.dv,x.dc,.int .i64 st.hold]] s fun r s'=>∃pid mid sid,r=.agg [m.dt,.fn 129 [.ptr pid 0,.ptr mid 0,.ptr sid 0],.fn 133 [.ptr mid 0,.ptr sid 0]]/\s'.get pid=some (.cells [.int .i64 (i:Int)])/\s'.get mid=some (.cells [m.dt,.int .i64 m.g,m.dc,m.dv,m.dp,m.ds,.bool m.b])/\s'.get sid=some (.cells [x.da,x.dv,x.dc,.int .i64 st.hold]):=by
 have om:=hm.ones
 have ox:=hx.ones
 have hc:cellsOf m.dt=[m.dt]:=hm.tr.fl.cells
 have hfn:∀f l,cellsOf (.fn f l)=[.fn f l]:=fun _ _=>rfl
 refine X8 (vf:=b0h) rfl ?_
 unfold b0h;refine zF ?_
 refine zY (aN om (aN ox (aN hc hfn))) ?_
 refine ⟨_,_,_,rfl,?_,?_,?_⟩
 ·exact zZ0
 ·exact zZ0
 ·exact zZ0
theorem a6J (hm:MoF m mo ps) (ho:N6 mo) (hf:X5 mo) (hx:Y5 mo x st) {i:Nat} (hi:i<mo.procs.length) {k:Nat} (hk:k<mo.tree.length) (he:a0F (nd mo.tree k).kind) :
 Eqc vfs 96 [.agg [m.dt,.int .i64 m.g,m.dc,m.dv,m.dp,m.ds,.bool m.b],.int .i64 (i:Int),.agg [x.da,x.dv,x.dc,.int .i64 st.hold],.int .i64 (k:Int)] (.tup [.int .i64 (mo.val (O2 (pAt mo.procs i)) st k).1,.bool (mo.val (O2 (pAt mo.procs i)) st k).2]):=by
 have om:=hm.ones
 have ox:=hx.f.ones
 have fm:=a04 hm
 have fx:=a0D hx.f
 have hnh:=b43 ho hx
 have hfb:=b11 hm ho hf hnh
 rw [decide_eq_true hx.fit.hold] at hfb
 have hlt:V1 false m.dt=some (.int .i64 (mo.tree.length:Int)):=hm.tr.len
 have c1:¬ mo.tree.length<=k:=by omega
 refine S5 ?_
 refine P0 (vf:=b06) rfl ?_
 unfold b06;refine zF ?_
 refine zY (aN om (aN ox (aN hlt (aN c1 (aN fm (aN fx hfb)))))) ?_
 refine a1Q (c3O hm hx.f) rfl ?_
 rintro r s1 ⟨pid,mid,sid,rfl,g0,g1,g2⟩
 refine zY0 ?_
 refine a1Q (b1s hm ho hx.f hx.e hnh.fit hi (mo.tree.length+1) k hk (by omega) he _ g0 g1 g2) rfl ?_
 rintro r s2 ⟨rfl,fr⟩
 refine zY0 ?_
 exact ⟨rfl,rfl⟩
theorem b8t (hm:MoF m mo ps) (ho:N6 mo) (hf:X5 mo) (hx:Y5 mo x st) {p:Nat} (hp:p<mo.procs.length) {e:Ed} (he:a2N mo.tree mo.chans.length (pAt mo.procs p).places (pAt mo.procs p).vars e) :
 Eqc vfs 62 [.agg [m.dt,.int .i64 m.g,m.dc,m.dv,m.dp,m.ds,.bool m.b],.agg [x.da,x.dv,x.dc,.int .i64 st.hold],.int .i64 (p:Int),.agg [.int .i64 (e.frm:Int),.int .i64 (e.to:Int),.int .i64 (e.act:Int),.int .i64 e.expr,.int .i64 e.var,.int .i64 e.chan,.bool e.keep,.int .i64 (e.node:Int)]] (.bool (mo.can st p (pAt mo.procs p) e)):=by
 refine S5 ?_
 have fm:=a04 hm
 have fx:=a0D hx.f
 have om:=hm.ones
 have ox:=hx.f.ones
 have hxf:=hx.f
 have hxa:=hxf.a
 have hmc:=hm.c
 have hpa:p<st.at'.length:=by rw [hx.fit.at'];exact hp
 have hcl:=hx.fit.chans
 unfold Mo.can Mo.ex
 have h6:e.act=0∨e.act=1∨e.act=2∨e.act=3∨e.act=4∨e.act=5:=by have:=he.act;omega
 rcases h6 with ha | ha | ha | ha | ha | ha
 ·have hex:=he.ex0 (by omega)
  rw [hex]
  refine P0 (vf:=a14) rfl ?_
  unfold a14;refine zF ?_
  refine zY (aN om (aN ox ha)) ?_
  repeat' (first|(refine Y4 (fun c=>?_) (fun c=>?_)<;>(try simp only [U6,U7,U4,U5] at c)<;>simp (disch:=(first|exact Rf.mk rfl|with_reducible assumption|omega|((repeat (first|rw [nP]|rw [nS]|rw [M3]))<;>omega)|decide)) only [go_sem,↓reduceIte,om,ox,ha,c])|(refine Y7 (fun c=>?_) (fun c=>?_)<;>(try simp only [U6,U7,U4,U5] at c)<;>simp (disch:=(first|exact Rf.mk rfl|with_reducible assumption|omega|((repeat (first|rw [nP]|rw [nS]|rw [M3]))<;>omega)|decide)) only [go_sem,↓reduceIte,om,ox,ha,c]))
  all_goals simp_all
 ·obtain ⟨k,hk1,hk2,hk3⟩:=he.ex1 (by omega)
  have hv:=a6J hm ho hf hx hp hk2 hk3
  rw [hk1]
  simp only [Int.natCast_nonneg,if_true,Int.toNat_natCast]
  generalize mo.val (O2 (pAt mo.procs p)) st k=v at *
  refine P0 (vf:=a14) rfl ?_
  unfold a14;refine zF ?_
  refine zY (aN om (aN ox (aN ha hv))) ?_
  repeat' (first|(refine Y4 (fun c=>?_) (fun c=>?_)<;>(try simp only [U6,U7,U4,U5] at c)<;>simp (disch:=(first|exact Rf.mk rfl|with_reducible assumption|omega|((repeat (first|rw [nP]|rw [nS]|rw [M3]))<;>omega)|decide)) only [go_sem,↓reduceIte,om,ox,ha,hv,c])|(refine Y7 (fun c=>?_) (fun c=>?_)<;>(try simp only [U6,U7,U4,U5] at c)<;>simp (disch:=(first|exact Rf.mk rfl|with_reducible assumption|omega|((repeat (first|rw [nP]|rw [nS]|rw [M3]))<;>omega)|decide)) only [go_sem,↓reduceIte,om,ox,ha,hv,c]))
  all_goals simp_all
 ·obtain ⟨k,hk1,hk2,hk3⟩:=he.ex1 (by omega)
  obtain ⟨q,hq1,hq2⟩:=he.c1 (by omega)
  have hv:=a6J hm ho hf hx hp hk2 hk3
  rw [hk1,hq1]
  simp only [Int.natCast_nonneg,if_true,Int.toNat_natCast]
  generalize mo.val (O2 (pAt mo.procs p)) st k=v at *
  refine P0 (vf:=a14) rfl ?_
  unfold a14;refine zF ?_
  refine zY (aN om (aN ox (aN ha hv))) ?_
  repeat' (first|(refine Y4 (fun c=>?_) (fun c=>?_)<;>(try simp only [U6,U7,U4,U5] at c)<;>simp (disch:=(first|exact Rf.mk rfl|with_reducible assumption|omega|((repeat (first|rw [nP]|rw [nS]|rw [M3]))<;>omega)|decide)) only [go_sem,↓reduceIte,om,ox,ha,hv,c])|(refine Y7 (fun c=>?_) (fun c=>?_)<;>(try simp only [U6,U7,U4,U5] at c)<;>simp (disch:=(first|exact Rf.mk rfl|with_reducible assumption|omega|((repeat (first|rw [nP]|rw [nS]|rw [M3]))<;>omega)|decide)) only [go_sem,↓reduceIte,om,ox,ha,hv,c]))
  all_goals simp_all
 ·have hex:=he.ex0 (by omega)
  obtain ⟨q,hq1,hq2⟩:=he.c1 (by omega)
  rw [hex,hq1]
  refine P0 (vf:=a14) rfl ?_
  unfold a14;refine zF ?_
  refine zY (aN om (aN ox ha)) ?_
  repeat' (first|(refine Y4 (fun c=>?_) (fun c=>?_)<;>(try simp only [U6,U7,U4,U5] at c)<;>simp (disch:=(first|exact Rf.mk rfl|with_reducible assumption|omega|((repeat (first|rw [nP]|rw [nS]|rw [M3]))<;>omega)|decide)) only [go_sem,↓reduceIte,om,ox,ha,c])|(refine Y7 (fun c=>?_) (fun c=>?_)<;>(try simp only [U6,U7,U4,U5] at c)<;>simp (disch:=(first|exact Rf.mk rfl|with_reducible assumption|omega|((repeat (first|rw [nP]|rw [nS]|rw [M3]))<;>omega)|decide)) only [go_sem,↓reduceIte,om,ox,ha,c]))
  all_goals simp_all
 ·obtain ⟨k,hk1,hk2,hk3⟩:=he.ex1 (by omega)
  have hv:=a6J hm ho hf hx hp hk2 hk3
  rw [hk1]
  simp only [Int.natCast_nonneg,if_true,Int.toNat_natCast]
  generalize mo.val (O2 (pAt mo.procs p)) st k=v at *
  refine P0 (vf:=a14) rfl ?_
  unfold a14;refine zF ?_
  refine zY (aN om (aN ox (aN ha hv))) ?_
  repeat' (first|(refine Y4 (fun c=>?_) (fun c=>?_)<;>(try simp only [U6,U7,U4,U5] at c)<;>simp (disch:=(first|exact Rf.mk rfl|with_reducible assumption|omega|((repeat (first|rw [nP]|rw [nS]|rw [M3]))<;>omega)|decide)) only [go_sem,↓reduceIte,om,ox,ha,hv,c])|(refine Y7 (fun c=>?_) (fun c=>?_)<;>(try simp only [U6,U7,U4,U5] at c)<;>simp (disch:=(first|exact Rf.mk rfl|with_reducible assumption|omega|((repeat (first|rw [nP]|rw [nS]|rw [M3]))<;>omega)|decide)) only [go_sem,↓reduceIte,om,ox,ha,hv,c]))
  all_goals simp_all
 ·obtain ⟨k,hk1,hk2,hk3⟩:=he.ex1 (by omega)
  have hv:=a6J hm ho hf hx hp hk2 hk3
  rw [hk1]
  simp only [Int.natCast_nonneg,if_true,Int.toNat_natCast]
  generalize mo.val (O2 (pAt mo.procs p)) st k=v at *
  refine P0 (vf:=a14) rfl ?_
  unfold a14;refine zF ?_
  refine zY (aN om (aN ox (aN ha hv))) ?_
  repeat' (first|(refine Y4 (fun c=>?_) (fun c=>?_)<;>(try simp only [U6,U7,U4,U5] at c)<;>simp (disch:=(first|exact Rf.mk rfl|with_reducible assumption|omega|((repeat (first|rw [nP]|rw [nS]|rw [M3]))<;>omega)|decide)) only [go_sem,↓reduceIte,om,ox,ha,hv,c])|(refine Y7 (fun c=>?_) (fun c=>?_)<;>(try simp only [U6,U7,U4,U5] at c)<;>simp (disch:=(first|exact Rf.mk rfl|with_reducible assumption|omega|((repeat (first|rw [nP]|rw [nS]|rw [M3]))<;>omega)|decide)) only [go_sem,↓reduceIte,om,ox,ha,hv,c]))
  all_goals simp_all
theorem b8E (hm:MoF m mo ps) (hx:Y5 mo x st) {i:Nat} (hi:i<mo.chans.length):Eqc vfs 63 [.agg [m.dt,.int .i64 m.g,m.dc,m.dv,m.dp,m.ds,.bool m.b],.agg [x.da,x.dv,x.dc,.int .i64 st.hold],.int .i64 (i:Int)] (.bool ((R7 mo.chans i).lossy&&decide (0<(cAt st.chans i).length))):=by
 have om:=hm.ones
 have ox:=hx.f.ones
 have hxf:=hx.f
 have hmc:=hm.c
 have ci:i<st.chans.length:=by rw [hx.fit.chans];exact hi
 refine S5 ?_
 refine P0 (vf:=a9Q) rfl ?_
 unfold a9Q;refine zF ?_
 refine zY (aN om (aN ox (aN hi ci))) ?_
 repeat' (first|(refine Y4 (fun c=>?_) (fun c=>?_)<;>(try simp only [U6,U7,U4,U5] at c)<;>simp (disch:=(first|exact Rf.mk rfl|with_reducible assumption|omega|((repeat (first|rw [nP]|rw [nS]|rw [M3]))<;>omega)|decide)) only [go_sem,↓reduceIte,om,ox,hi,ci,c])|(refine Y7 (fun c=>?_) (fun c=>?_)<;>(try simp only [U6,U7,U4,U5] at c)<;>simp (disch:=(first|exact Rf.mk rfl|with_reducible assumption|omega|((repeat (first|rw [nP]|rw [nS]|rw [M3]))<;>omega)|decide)) only [go_sem,↓reduceIte,om,ox,hi,ci,c]))
 all_goals simp_all
theorem c54 (hm:MoF m mo ps) (hx:Y5 mo x st) {i:Nat} (hi:i<mo.chans.length):Eqc vfs 64 [.agg [m.dt,.int .i64 m.g,m.dc,m.dv,m.dp,m.ds,.bool m.b],.agg [x.da,x.dv,x.dc,.int .i64 st.hold],.int .i64 (i:Int)] (.bool ((R7 mo.chans i).copying&&decide (0<(cAt st.chans i).length)&&decide (((cAt st.chans i).length:Int)<(R7 mo.chans i).room))):=by
 have om:=hm.ones
 have ox:=hx.f.ones
 have hxf:=hx.f
 have hmc:=hm.c
 have ci:i<st.chans.length:=by rw [hx.fit.chans];exact hi
 refine S5 ?_
 refine P0 (vf:=a8U) rfl ?_
 unfold a8U;refine zF ?_
 refine zY (aN om (aN ox (aN hi ci))) ?_
 repeat' (first|(refine Y4 (fun c=>?_) (fun c=>?_)<;>(try simp only [U6,U7,U4,U5] at c)<;>simp (disch:=(first|exact Rf.mk rfl|with_reducible assumption|omega|((repeat (first|rw [nP]|rw [nS]|rw [M3]))<;>omega)|decide)) only [go_sem,↓reduceIte,om,ox,hi,ci,c])|(refine Y7 (fun c=>?_) (fun c=>?_)<;>(try simp only [U6,U7,U4,U5] at c)<;>simp (disch:=(first|exact Rf.mk rfl|with_reducible assumption|omega|((repeat (first|rw [nP]|rw [nS]|rw [M3]))<;>omega)|decide)) only [go_sem,↓reduceIte,om,ox,hi,ci,c]))
 all_goals simp_all
end Go.Proofs.YtnjlhebkhjcagaaGreat
namespace Go.Proofs.YtnjlhebkhjcagaaGreat
open Go.V
set_option maxRecDepth 100000
set_option maxHeartbeats 4000000
variable {m:MdX} {mo:Mo} {ps:List (Pr×PrD)} {x:StD} {st:Stt}
theorem c3T (hm:MoF m mo ps) (ho:N6 mo) (hf:X5 mo) (hx:Y5 mo x st):a3O vfs 39 [.agg [m.dt,.int .i64 m.g,m.dc,m.dv,m.dp,m.ds,.bool m.b],.agg [x.da,x.dv,x.dc,.int .i64 st.hold]] fun d=>FL 4 d (Y6 (mo.moves st)):=by
 have fm:=a04 hm
 have fx:=a0D hx.f
 have om:=hm.ones
 have ox:=hx.f.ones
 have hxf:=hx.f
 have hmc:=hm.c
 have hcl:=hx.fit.chans
 have hnp:=ho.np
 have hnc:=ho.nc
 have hh:=hx.fit.hold
 have hnh:=b43 ho hx
 have hfb:=b11 hm ho hf hnh
 rw [decide_eq_true hx.fit.hold] at hfb
 refine a3n (vf:=b0S) rfl ?_
 unfold b0S;refine zF ?_
 refine zY (aN om (aN ox (aN fm (aN fx hfb)))) ?_
 have hp0:Hp ((k4.empty.push (.cells [m.dt,.int .i64 m.g,m.dc,m.dv,m.dp,m.ds,.bool m.b])).push (.cells [x.da,x.dv,x.dc,.int .i64 st.hold])) [] [(0,[m.dt,.int .i64 m.g,m.dc,m.dv,m.dp,m.ds,.bool m.b]),(1,[x.da,x.dv,x.dc,.int .i64 st.hold])]:=⟨List.nodup_nil,by simp,by simp [Has],by
  intro y hy
  simp only [List.mem_cons,List.not_mem_nil,or_false] at hy
  rcases hy with rfl | rfl
  ·exact zZ0
  ·simp (disch:=(first|exact Rf.mk rfl|with_reducible assumption|omega|((repeat (first|rw [nP]|rw [nS]|rw [M3]))<;>omega)|decide)) only [go_sem,↓reduceIte]⟩
 generalize (k4.empty.push (.cells [m.dt,.int .i64 m.g,m.dc,m.dv,m.dp,m.ds,.bool m.b])).push (.cells [x.da,x.dv,x.dc,.int .i64 st.hold])=s0 at *
 generalize hR:[(0,[m.dt,.int .i64 m.g,m.dc,m.dv,m.dp,m.ds,.bool m.b]),(1,[x.da,x.dv,x.dc,.int .i64 st.hold])]=R at hp0
 have hg:∀ {s E},Hp s E R->s.get 0=some (.cells [m.dt,.int .i64 m.g,m.dc,m.dv,m.dp,m.ds,.bool m.b])/\s.get 1=some (.cells [x.da,x.dv,x.dc,.int .i64 st.hold]):=fun h=>by
  subst hR
  exact ⟨h.r (0,_) (by simp),h.r (1,_) (by simp)⟩
 refine a1F [0,1,2,3,4,10,14,16,17,55,59,60,61,66,75] (fun f s=>∃E,Rp (f 5) 4 (Y6 (mo.mvP st mo.procs.length)) E/\Hp s E R) ?_ ?_
 ·refine U2 [0,1,2,3,4,10,14,16,17,55,59,60,61,66,75] 0 mo.procs.length (fun i f s=>f 18=.int .i64 (i:Int)/\∃E,Rp (f 5) 4 (Y6 (mo.mvP st i)) E/\Hp s E R) (.mk rfl) (by omega) ⟨rfl,[],.inl ⟨rfl,rfl,rfl⟩,hp0⟩ ?_
  rintro i f s hi ⟨hE,E,hr,hp⟩
  obtain ⟨g0,g1⟩:=hg hp
  have l0:=M7 g0
  have l1:=M7 g1
  by_cases ci:i<mo.procs.length
  ·have hp2:=hp.fr (a2m (z:=.cells [.str (bs []),.int .i64 0,.nils,.int .i64 0,.nils,.nils,.nils,.nils]) (o:=.cells [.str (pAt mo.procs i).name,.int .i64 ((pAt mo.procs i).copy:Int),(prX ps i).dl,.int .i64 ((pAt mo.procs i).places:Int),(prX ps i).dr,(prX ps i).de,(prX ps i).dn,(prX ps i).dv]))
   by_cases ch:0<=st.hold/\st.hold≠(i:Int)
   ·have e:mo.movesP st i=[]:=by rw [Mo.movesP_eq,if_pos ch]
    have h1:¬ st.hold=-1:=by omega
    have h2:=ch.2
    refine zY (aN hE (aN ci (aN g0 (aN g1 (aN om (aN ox (aN h1 h2))))))) ?_
    rw [Mo.mvP_succ,e,List.append_nil]
    exact ⟨E,hr,hp2⟩
   ·have e:mo.movesP st i=mo.mvE st i (pAt mo.procs i).edges.length:=by rw [Mo.movesP_eq,if_neg ch]
    have hel:=(ho.pr _ (V7 ci)).el
    have h2:¬ st.hold=-1->(st.hold=(i:Int))=True:=fun h=>eq_true (by omega)
    have hmi:(mo.mvP st i).length<=16000:=Nat.le_trans (Mo.mvP_len ho hi) (by omega)
    by_cases h1:st.hold=-1<;>simp (disch:=(first|exact Rf.mk rfl|with_reducible assumption|omega|((repeat (first|rw [nP]|rw [nS]|rw [M3]))<;>omega)|decide)) only [go_sem,↓reduceIte,hE,ci,g0,g1,om,ox,h1,h2]
    all_goals
     refine U2 [0,1,2,3,4,6,7,10,14,16,17,18,19,31,33,34,55,59,60,61,66,75] 0 (pAt mo.procs i).edges.length (fun j f s=>f 35=.int .i64 (j:Int)/\∃E,Rp (f 5) 4 (Y6 (mo.mvP st i++mo.mvE st i j)) E/\Hp s E R) (.mk rfl) (by omega) ⟨rfl,E,by rw [show mo.mvE st i 0=[] from rfl,List.append_nil];exact hr,hp2⟩ ?_
     rintro j f s hj ⟨hE,E,hr,hp⟩
     obtain ⟨g0,g1⟩:=hg hp
     have l0:=M7 g0
     have l1:=M7 g1
     by_cases cj:j<(pAt mo.procs i).edges.length
     ·have hc:=b8t hm ho hf hx ci ((ho.pr _ (V7 ci)).inv.ed _ (a05 cj))
      have fe:=b0z (e:=eAt (pAt mo.procs i).edges j)
      have hp3:=hp.fr (a2m (z:=.cells [.int .i64 0,.int .i64 0,.int .i64 0,.int .i64 0,.int .i64 0,.int .i64 0,.bool false,.int .i64 0]) (o:=.cells [.int .i64 ((eAt (pAt mo.procs i).edges j).frm:Int),.int .i64 ((eAt (pAt mo.procs i).edges j).to:Int),.int .i64 ((eAt (pAt mo.procs i).edges j).act:Int),.int .i64 (eAt (pAt mo.procs i).edges j).expr,.int .i64 (eAt (pAt mo.procs i).edges j).var,.int .i64 (eAt (pAt mo.procs i).edges j).chan,.bool (eAt (pAt mo.procs i).edges j).keep,.int .i64 ((eAt (pAt mo.procs i).edges j).node:Int)]))
      refine zY (aN hE (aN ci (aN cj (aN g0 (aN g1 (aN om (aN ox hc))))))) ?_
      refine Y4 (fun c=>?_) (fun c=>?_)
      ·refine zY (aN hE (aN ci cj)) ?_
       have:=Mo.mvE_len (mo:=mo) (st:=st) (i:=i) (j:=j)
       refine a25 ⟨0,i,j,0⟩ rfl hr hp3 (by decide) (by simp;omega) ?_
       intro d' s' E' hr' hp'
       refine zY hE ?_
       refine ⟨cj,E',?_,hp'⟩
       rw [Mo.mvE_succ,c,if_pos rfl,<- List.append_assoc]
       exact hr'
      ·refine zY hE ?_
       refine ⟨cj,E,?_,hp3⟩
       rw [Mo.mvE_succ,c,if_neg (by simp),List.append_nil]
       exact hr
     ·obtain rfl:j=(pAt mo.procs i).edges.length:=by omega
      refine zY (aN hE (aN ci (aN g0 (aN g1 (aN om ox))))) ?_
      rw [Mo.mvP_succ,e]
      exact ⟨E,hr,hp⟩
  ·obtain rfl:i=mo.procs.length:=by omega
   refine zY (aN hE (aN ci (aN g0 (aN g1 (aN om ox))))) ?_
   exact ⟨E,hr,hp⟩
 ·rintro f s ⟨E,hr,hp⟩
  obtain ⟨g0,g1⟩:=hg hp
  have hmi:(mo.mvP st mo.procs.length).length<=16000:=Nat.le_trans (Mo.mvP_len ho (Nat.le_refl _)) (by omega)
  by_cases ch:st.hold=-1
  rotate_left
  ·have hn:¬ st.hold<0:=by omega
   have e0:mo.moves st=mo.mvP st mo.procs.length:=by rw [Mo.moves_eq,if_neg hn,List.append_nil]
   rw [e0]
   obtain ⟨d',h1,h2⟩:=a4g hr hp (fun e h=>h) (a50 _) (a5u _)
   refine zY (aN g0 (aN g1 (aN om (aN ox (aN ch h1))))) ?_
   exact ⟨_,rfl,h2⟩
  have hn:st.hold<0:=by omega
  have e0:mo.moves st=mo.mvP st mo.procs.length++mo.mvC st mo.chans.length:=by rw [Mo.moves_eq,if_pos hn]
  rw [e0]
  refine zY (aN g0 (aN g1 (aN om (aN ox ch)))) ?_
  refine a1F [0,1,2,3,4,6,7,8,9,14,16,17,18,19,31,33,34,35,36,44,55,59] (fun f s=>∃E,Rp (f 5) 4 (Y6 (mo.mvP st mo.procs.length++mo.mvC st mo.chans.length)) E/\Hp s E R) ?_ ?_
  ·refine U2 [0,1,2,3,4,6,7,8,9,14,16,17,18,19,31,33,34,35,36,44,55,59] 0 mo.chans.length (fun i f s=>f 60=.int .i64 (i:Int)/\∃E,Rp (f 5) 4 (Y6 (mo.mvP st mo.procs.length++mo.mvC st i)) E/\Hp s E R) (.mk rfl) (by omega) ⟨rfl,E,?_,hp⟩ ?_
   ·rw [show mo.mvC st 0=[] from rfl,List.append_nil];exact hr
   clear hr hp g0 g1
   rintro i f s hi ⟨hE,E,hr,hp⟩
   obtain ⟨g0,g1⟩:=hg hp
   have l0:=M7 g0
   have l1:=M7 g1
   by_cases ci:i<mo.chans.length
   ·have hmc':=Mo.mvC_len (mo:=mo) (st:=st) (i:=i)
    have e1:mo.mvC st (i+1)=mo.mvC st i++mo.movesC st i:=Mo.mvC_succ
    unfold Mo.movesC at e1
    have hl:=b8E hm hx ci
    have hc:=c54 hm hx ci
    generalize ((R7 mo.chans i).lossy&&decide (0<(cAt st.chans i).length))=bl at *
    generalize ((R7 mo.chans i).copying&&decide (0<(cAt st.chans i).length)&&decide (((cAt st.chans i).length:Int)<(R7 mo.chans i).room))=bc at *
    cases bl
    ·cases bc
     ·refine zY (aN hE (aN ci (aN g0 (aN g1 (aN om (aN ox (aN hl hc))))))) ?_
      rw [e1]
      exact ⟨E,by simpa using hr,hp⟩
     ·refine zY (aN hE (aN ci (aN g0 (aN g1 (aN om (aN ox (aN hl hc))))))) ?_
      refine a25 ⟨2,0,0,i⟩ rfl hr hp (by decide) (by simp;omega) ?_
      rintro d1 s1 E1 hr1 hp1
      refine zY (aN hE ci) ?_
      rw [e1]
      exact ⟨E1,by simpa using hr1,hp1⟩
    ·refine zY (aN hE (aN ci (aN g0 (aN g1 (aN om (aN ox hl)))))) ?_
     refine a25 ⟨1,0,0,i⟩ rfl hr hp (by decide) (by simp;omega) ?_
     rintro d1 s1 E1 hr1 hp1
     obtain ⟨k0,k1⟩:=hg hp1
     have j0:=M7 k0
     have j1:=M7 k1
     cases bc
     ·refine zY (aN hE (aN ci (aN k0 (aN k1 (aN om (aN ox hc)))))) ?_
      rw [e1]
      exact ⟨E1,by simpa using hr1,hp1⟩
     ·refine zY (aN hE (aN ci (aN k0 (aN k1 (aN om (aN ox hc)))))) ?_
      refine a25 ⟨2,0,0,i⟩ rfl hr1 hp1 (by decide) (by simp;omega) ?_
      rintro d2 s2 E2 hr2 hp2
      refine zY (aN hE ci) ?_
      rw [e1]
      exact ⟨E2,by simpa using hr2,hp2⟩
   ·obtain rfl:i=mo.chans.length:=by omega
    refine zY (aN hE ci) ?_
    exact ⟨E,hr,hp⟩
  ·rintro f s ⟨E,hr,hp⟩
   obtain ⟨d',h1,h2⟩:=a4g hr hp (fun e h=>h) (a50 _) (a5u _)
   refine zY h1 ?_
   exact ⟨_,rfl,h2⟩
theorem c53 (hm:MoF m mo ps) (ho:N6 mo) (hf:X5 mo) (hx:Y5 mo x st):∃d,Eqc vfs 39 [.agg [m.dt,.int .i64 m.g,m.dc,m.dv,m.dp,m.ds,.bool m.b],.agg [x.da,x.dv,x.dc,.int .i64 st.hold]] d/\FL 4 d (Y6 (mo.moves st)):=by
 obtain ⟨d,h1,h2⟩:=c3T hm ho hf hx
 exact ⟨d,S5 h1,h2⟩
end Go.Proofs.YtnjlhebkhjcagaaGreat
namespace Go.V
structure a0B (p:Pr):Prop where
 two:2<=p.places
 ed:∀e∈p.edges,e.frm≠1
theorem a0B.put {p:Pr} (h:a0B p) {frm to act node:Nat} {x v c:Int} (hf:frm≠1):a0B (p.put frm to act node x v c) :=
 ⟨h.two,fun e he=>by
  simp only [Pr.put,List.mem_append,List.mem_singleton] at he
  rcases he with he | rfl
  ·exact h.ed e he
  ·exact hf⟩
theorem a0B.place {p:Pr} (h:a0B p):a0B p.place:=⟨Nat.le_succ_of_le h.two,h.ed⟩
theorem a0B.idle {p:Pr} (h:a0B p) (n:Nat) (i:Int):a0B (p.idle n i):=by
 unfold Pr.idle
 split
 ·exact ⟨h.two,h.ed⟩
 ·exact h
theorem a0B.mark {p:Pr} (h:a0B p) (n to:Nat):a0B { p with edges:=a0Z n to p.edges } :=
 ⟨h.two,fun e he=>by
  simp only [a0Z,List.mem_append,List.mem_map] at he
  rcases he with he | ⟨e',he,rfl⟩
  ·exact h.ed e (List.mem_of_mem_take he)
  ·exact h.ed e' (List.mem_of_mem_drop he)⟩
def StN (st:Pr->Nat->Nat->Nat->Pr):Prop:=∀p k frm to,a0B p->frm≠1->a0B (st p k frm to)
theorem a9i {st:Pr->Nat->Nat->Nat->Pr} (hs:StN st) {node:Nat}:∀ {ks:List Nat} {p:Pr} {frm to:Nat},a0B p->frm≠1->a0B (a10 st node p ks frm to)
 | [],p,frm,to,h,hf=>h.put hf
 | [k],p,frm,to,h,hf=>hs p k frm to h hf
 | k::k'::ks,p,frm,to,h,hf=>a9i hs (ks:=k'::ks) (hs _ k frm _ h.place hf) (by have:=h.two;omega)
theorem a5d {t:List Nd} {st:Pr->Nat->Nat->Nat->Pr} (hs:StN st) {p:Pr} {b frm to:Nat} (h:a0B p) (hf:frm≠1):a0B (Y0 t st p b frm to):=a9i hs h hf
theorem b5U {t:List Nd} {st:Pr->Nat->Nat->Nat->Pr} (hs:StN st) {frm to:Nat} (hf:frm≠1):∀ {ks:List Nat} {p:Pr},a0B p->a0B (a0m t st frm to p ks)
 | [],p,h=>h
 | k::ks,p,h=>by
   unfold a0m
   refine b5U hs hf ?_
   split
   ·exact a5d hs (h.place.put hf) (by have:=h.two;omega)
   ·exact a5d hs h hf
theorem b2y (t:List Nd) (ch:List ByteArray):∀f,StN (N1 t ch f)
 | 0=>fun p k frm to h _=>h
 | f+1=>by
   have hs:=b2y t ch f
   intro p k frm to h hf
   have h2:=h.two
   have hp1:∀ {act node:Nat} {x v c:Int},a0B (Y0 t (N1 t ch f) (p.place.put frm p.places act node x v c) ((nd t k).kid 1) p.places to):=a5d hs (h.place.put hf) (by omega)
   unfold N1
   simp only
   repeat' split
   all_goals first
    | exact h.put hf
    | exact (h.idle _ _).put hf
    | exact b5U hs hf (h.idle _ _)
    | exact hp1.put hf
    | exact (a5d hs h hf).mark _ _
    | exact a5d hs ((h.place.put hf).put hf) (by omega)
    | exact a5d hs (hp1.place.put hf) (by have:=(hp1 (act:=4) (node:=k) (x:=((nd t k).kid 0:Nat)) (v:=-1) (c:=-1)).two;omega)
theorem b7P (t:List Nd) (o:Org):a0B (a1S t o):=a9i (b2y t _ _) ⟨Nat.le_refl _,fun e he=>by simp [pr1] at he⟩ (by decide)
structure a6M (t:List Nd) (a:Gc):Prop where
 pw:a.l.Pairwise fun o o'=>o.nv+O5 t (nd t o.k)<=o'.nv
 le:∀o∈a.l,o.nv+O5 t (nd t o.k)<=a.nv
theorem c1b {t:List Nd} {a:Gc} {k:Nat} (h:a6M t a):a6M t (a2U t a k):=by
 unfold a2U
 split
 ·refine ⟨List.pairwise_append.2 ⟨h.pw,?_,fun o ho o' ho'=>?_⟩,fun o ho=>?_⟩
  ·unfold a4R
   rw [List.pairwise_map]
   refine List.Pairwise.imp ?_ List.pairwise_lt_range
   intro c c' hc
   have:(c+1)*O5 t (nd t k)<=c'*O5 t (nd t k):=Nat.mul_le_mul_right _ hc
   rw [Nat.succ_mul] at this
   simp only
   omega
  ·obtain ⟨c,hc,rfl⟩:=List.mem_map.1 ho'
   have:=h.le o ho
   simp only
   omega
  ·rcases List.mem_append.1 ho with ho | ho
   ·have:=h.le o ho
    simp only;omega
   ·obtain ⟨c,hc,rfl⟩:=List.mem_map.1 ho
    rw [List.mem_range] at hc
    have:(c+1)*O5 t (nd t k)<=((nd t k).num 0).toNat*O5 t (nd t k):=Nat.mul_le_mul_right _ hc
    rw [Nat.succ_mul] at this
    simp only
    omega
 ·split
  ·exact ⟨h.pw,h.le⟩
  ·exact h
theorem c0G (t:List Nd):(a08 t).Pairwise fun o o'=>o.nv+O5 t (nd t o.k)<=o'.nv:=by
 have:a6M t (a0O t (nd t 0).ks):=by
  unfold a0O
  exact a4Y (P:=a6M t) ⟨List.Pairwise.nil,fun o ho=>by simp at ho⟩ fun a k _ ha=>c1b ha
 exact this.pw
theorem b6G {t:List Nd}:∀o∈a08 t,o.seen<=(gat t).vs.length/\(gat t).vs.length<=o.nv:=fun o ho=>by
 obtain ⟨_,_,_,h1,_⟩:=a9d ho
 exact ⟨h1,(a3W ho).lo⟩
structure MoQ (mo:Mo):Prop where
 one:∀i,i<mo.procs.length->∀e∈(pAt mo.procs i).edges,e.frm≠1
 own:∀i j,i<mo.procs.length->j<mo.procs.length->i≠j->∀v∈(pAt mo.procs i).locals,v∉(pAt mo.procs j).vars
 ll:∀i,i<mo.procs.length->(pAt mo.procs i).locals.length<=mo.vars.length
theorem b4v {t:List Nd} (h:O3 t) (hS:a1R t):MoQ (V3 t):=by
 have e:(V3 t).procs=(a08 t).map (a1S t):=(a5h t).1
 have el:(V3 t).procs.length=(a08 t).length:=by rw [e,List.length_map]
 have ep:∀i (hi:i<(a08 t).length),pAt (V3 t).procs i=a1S t (a08 t)[i]:=fun i hi=>by
  rw [a2Q (by omega)];simp [e]
 refine ⟨fun i hi ed hed=>?_,fun i j hi hj hij v hv hv'=>?_,fun i hi=>?_⟩
 ·rw [ep i (by omega)] at hed
  exact (b7P t _).ed ed hed
 ·rw [el] at hi hj
  rw [ep i hi] at hv
  rw [ep j hj] at hv'
  have g1:=(a5P h hS (List.getElem_mem hi)).2
  have g2:=(a5P h hS (List.getElem_mem hj)).2
  rw [g1.locals] at hv
  rw [g2.vars] at hv'
  have lo:=b6G (t:=t)
  simp only [pr1,List.mem_map,List.mem_range,List.mem_append] at hv hv'
  obtain ⟨a,ha,rfl⟩:=hv
  obtain ⟨l1,l2⟩:=lo _ (List.getElem_mem hi)
  obtain ⟨l3,l4⟩:=lo _ (List.getElem_mem hj)
  have pw:=List.pairwise_iff_getElem.1 (c0G t)
  rcases hv' with hv' | ⟨b,hb,hv'⟩
  ·omega
  ·by_cases c:i<j
   ·have:=pw i j hi hj c
    omega
   ·have:=pw j i hj hi (by omega)
    omega
 ·rw [el] at hi
  rw [ep i hi,(a5P h hS (List.getElem_mem hi)).2.locals]
  have h1:=(a3W (List.getElem_mem hi)).hi
  have h2:(V3 t).vars.length=(gbt t).vs.length:=rfl
  simp only [pr1,List.length_map,List.length_range]
  omega
end Go.V
namespace Go.V
variable {mo:Mo} {st:Stt}
def a7a (p:Pr) (f:Ft):Bool:=(List.range 32).all fun b=>!((f.reads ||| f.writes).testBit b)||p.locals.contains b
def a2h (mo:Mo) (p:Pr) (e:Ed):Bool :=
 !e.keep&&!(O4 mo p e).part&&decide ((O4 mo p e).sends=0)&&decide ((O4 mo p e).recvs=0)&&decide ((O4 mo p e).sizes=0)&&a7a p (O4 mo p e)&&(decide (e.to=1)||decide (e.frm<e.to))
def lvE (p:Pr) (k:Nat):List Ed:=p.edges.filter fun e=>decide (e.frm=k)
def a24 (l:List Ed):Bool:=l.all (fun e=>decide (e.act<=1))&&decide (0<l.length)
def forkE (l:List Ed):Bool:=decide (l.length=2)&&decide ((eAt l 0).act=4)&&decide ((eAt l 1).act=5)&&decide ((eAt l 0).expr=(eAt l 1).expr)
def Mo.quiet (mo:Mo) (i k:Nat):Bool:=decide (i<mo.procs.length)&&((lvE (pAt mo.procs i) k).all (a2h mo (pAt mo.procs i))&&(a24 (lvE (pAt mo.procs i) k)||forkE (lvE (pAt mo.procs i) k)))
structure QE (mo:Mo) (p:Pr) (e:Ed):Prop where
 keep:e.keep=false
 part:(O4 mo p e).part=false
 s0:(O4 mo p e).sends=0
 r0:(O4 mo p e).recvs=0
 z0:(O4 mo p e).sizes=0
 rd:∀b,(O4 mo p e).reads.testBit b=true->b∈p.locals
 wr:∀b,(O4 mo p e).writes.testBit b=true->b∈p.locals
 to:e.to=1∨e.frm<e.to
theorem b1I (ho:N6 mo) {p:Pr} (hp:a0k mo p) {e:Ed} (he:e∈p.edges) (h:a2h mo p e=true):QE mo p e:=by
 unfold a2h a7a at h
 simp only [Bool.and_eq_true,Bool.not_eq_true',decide_eq_true_eq,List.all_eq_true,List.mem_range,Bool.or_eq_true,List.contains_iff_mem] at h
 obtain ⟨⟨⟨⟨⟨⟨h1,h2⟩,h3⟩,h4⟩,h5⟩,h6⟩,h7⟩:=h
 have hown:=b0R ho hp he
 have hv:=ho.nv
 refine ⟨h1,h2,h3,h4,h5,fun b hb=>?_,fun b hb=>?_,h7⟩
 ·have:=hp.var b (hown.reads b hb)
  rcases h6 b (by omega) with h | h
  ·rw [Nat.testBit_or,hb] at h;cases h
  ·exact h
 ·have:=hp.var b (hown.writes b hb)
  rcases h6 b (by omega) with h | h
  ·rw [Nat.testBit_or,hb,Bool.or_true] at h;cases h
  ·exact h
theorem a9F {x y:Nat} (h:∀b,x.testBit b=true->y.testBit b=true->False):x &&& y=0:=Nat.eq_of_testBit_eq fun b=>by
 rw [Nat.testBit_and,Nat.zero_testBit]
 cases hx:x.testBit b
 ·rfl
 ·cases hy:y.testBit b
  ·rfl
  ·exact (h b hx hy).elim
theorem QE.apart (ho:N6 mo) (hq:MoQ mo) {i j:Nat} (hi:i<mo.procs.length) (hj:j<mo.procs.length) (hij:i≠j) {e g:Ed} (hg:g∈(pAt mo.procs j).edges) (h:QE mo (pAt mo.procs i) e):(O4 mo (pAt mo.procs i) e).apart (O4 mo (pAt mo.procs j) g)=true:=by
 have hown:=b0R ho (ho.pr _ (V7 hj)) hg
 rw [b33,h.s0,h.r0,h.z0]
 refine ⟨⟨a9F fun b h1 h2=>?_,by simp⟩,a9F fun b h1 h2=>?_,by simp⟩
 ·rw [Nat.testBit_or,Bool.or_eq_true] at h2
  exact hq.own i j hi hj hij b (h.wr b h1) (h2.elim (hown.reads b) (hown.writes b))
 ·rw [Nat.testBit_or,Bool.or_eq_true] at h2
  exact hq.own i j hi hj hij b (h2.elim (h.rd b) (h.wr b)) (hown.writes b h1)
theorem QE.act {p:Pr} (hp:a0k mo p) {e:Ed} (he:e∈p.edges) (h:QE mo p e):e.act≠2/\e.act≠3:=by
 have key:¬ (e.act=2∨e.act=3):=fun ha=>by
  have:=a5U hp he ha
  rw [h.s0,h.r0] at this
  simp at this
 omega
theorem a1K.refl (f:Ft) (st:Stt):a1K f st st:=⟨fun _ _=>rfl,fun _ _=>rfl⟩
theorem b1l (ho:N6 mo) {i:Nat} {p:Pr} (hp:a0k mo p) {e:Ed} (he:e∈p.edges) (z:Int):mo.can { st with hold:=z } i p e=mo.can st i p e:=by
 have h:=a7M ho hp he ((a1K.refl (O4 mo p e) st).hold z) 0
 unfold Mo.can
 rw [<- h]
theorem b1P {st st':Stt} {i:Nat} {p:Pr} (h:∀e∈p.edges,mo.can st i p e=mo.can st' i p e):mo.someS st i p=mo.someS st' i p:=by
 unfold Mo.someS
 rw [Bool.eq_iff_iff,List.any_eq_true,List.any_eq_true]
 constructor
 ·rintro ⟨e,he,hc⟩;exact ⟨e,he,by rw [<- h e he];exact hc⟩
 ·rintro ⟨e,he,hc⟩;exact ⟨e,he,by rw [h e he];exact hc⟩
theorem b3A (ho:N6 mo) {i:Nat} {p:Pr} (hp:a0k mo p) {e:Ed} (he:e∈p.edges) (z:Int):mo.edgeS { st with hold:=z } i p e=mo.edgeS st i p e:=by
 have h:=a7M ho hp he ((a1K.refl (O4 mo p e) st).hold z) 0
 rw [a17,a17,<- h]
def Mo.eff (mo:Mo) (i:Nat) (e:Ed) (st:Stt):Stt:={ mo.edgeS st i (pAt mo.procs i) e with hold:=st.hold }
theorem b5g {i:Nat} (hp:a0k mo (pAt mo.procs i)) {e:Ed} (he:e∈(pAt mo.procs i).edges) (h:QE mo (pAt mo.procs i) e):mo.eff i e st=⟨st.at'.set i e.to,setO st.vars (mo.wV [] e (mo.ex (pAt mo.procs i) st e 0).1),st.chans,st.hold⟩:=by
 have ha:=h.act hp he
 unfold Mo.eff
 rw [a17,b5F (l':=[]) (fun k=>by omega)]
 have:mo.wC (cAt st.chans e.chan.toNat) e (mo.ex (pAt mo.procs i) st e 0).1=none:=by
  unfold Mo.wC
  rw [if_neg ha.1,if_neg ha.2]
 rw [this]
 rfl
section
variable (ho:N6 mo) (hq:MoQ mo) {i j:Nat} (hi:i<mo.procs.length) (hj:j<mo.procs.length) (hij:i≠j) {e g:Ed} (he:e∈(pAt mo.procs i).edges) (hg:g∈(pAt mo.procs j).edges) (h:QE mo (pAt mo.procs i) e)
include ho hq hi hj hij he hg h
theorem b44:mo.can (mo.edgeS st i (pAt mo.procs i) e) j (pAt mo.procs j) g=mo.can st j (pAt mo.procs j) g :=
 (a9Z ho hij (ho.pr _ (V7 hi)) (ho.pr _ (V7 hj)) he hg (h.apart ho hq hi hj hij hg)).1
theorem b9B:mo.can (mo.eff i e st) j (pAt mo.procs j) g=mo.can st j (pAt mo.procs j) g:=by
 unfold Mo.eff
 rw [b1l ho (ho.pr _ (V7 hj)) hg,b44 ho hq hi hj hij he hg h]
theorem c2b:mo.can (mo.doE st j (pAt mo.procs j) g) i (pAt mo.procs i) e=mo.can st i (pAt mo.procs i) e:=by
 unfold Mo.doE
 rw [b1l ho (ho.pr _ (V7 hi)) he]
 exact (a9Z ho hij (ho.pr _ (V7 hi)) (ho.pr _ (V7 hj)) he hg (h.apart ho hq hi hj hij hg)).2.1
theorem b7G:mo.doE (mo.eff i e st) j (pAt mo.procs j) g=mo.eff i e (mo.doE st j (pAt mo.procs j) g):=by
 have pi:=ho.pr _ (V7 hi)
 have pj:=ho.pr _ (V7 hj)
 have e1:mo.edgeS (mo.eff i e st) j (pAt mo.procs j) g=mo.edgeS (mo.edgeS st j (pAt mo.procs j) g) i (pAt mo.procs i) e:=by
  unfold Mo.eff
  rw [b3A ho pj hg]
  exact (a9Z ho hij pi pj he hg (h.apart ho hq hi hj hij hg)).2.2
 have e2:mo.edgeS (mo.doE st j (pAt mo.procs j) g) i (pAt mo.procs i) e=mo.edgeS (mo.edgeS st j (pAt mo.procs j) g) i (pAt mo.procs i) e:=by
  unfold Mo.doE
  exact b3A ho pi he _
 have e3:mo.someS (mo.edgeS (mo.edgeS st j (pAt mo.procs j) g) i (pAt mo.procs i) e) j (pAt mo.procs j)=mo.someS (mo.edgeS st j (pAt mo.procs j) g) j (pAt mo.procs j):=b1P fun g' hg'=>b44 ho hq hi hj hij he hg' h
 have d1:∀s,mo.doE s j (pAt mo.procs j) g=⟨(mo.edgeS s j (pAt mo.procs j) g).at',(mo.edgeS s j (pAt mo.procs j) g).vars,(mo.edgeS s j (pAt mo.procs j) g).chans,if g.keep&&mo.someS (mo.edgeS s j (pAt mo.procs j) g) j (pAt mo.procs j) then (j:Int) else -1⟩:=fun _=>rfl
 have d2:∀s,mo.eff i e s=⟨(mo.edgeS s i (pAt mo.procs i) e).at',(mo.edgeS s i (pAt mo.procs i) e).vars,(mo.edgeS s i (pAt mo.procs i) e).chans,s.hold⟩:=fun _=>rfl
 rw [d1 (mo.eff i e st),e1,e3,d2 (mo.doE st j (pAt mo.procs j) g),e2]
 rfl
end
end Go.V
namespace Go.V
variable {mo:Mo} {st:Stt}
theorem a2X {v:Mv}:v∈mo.moves st↔(v.kind=0/\v.chan=0/\v.proc<mo.procs.length/\v.edge<(pAt mo.procs v.proc).edges.length/\mo.can st v.proc (pAt mo.procs v.proc) (eAt (pAt mo.procs v.proc).edges v.edge)=true/\¬ (0<=st.hold/\st.hold≠(v.proc:Int)))∨(st.hold<0/\v.chan<mo.chans.length/\v∈mo.movesC st v.chan):=by
 unfold Mo.moves
 rw [List.mem_append]
 constructor
 ·rintro (h | h)
  ·obtain ⟨i,hi,hv⟩:=List.mem_flatMap.1 h
   obtain ⟨h1,h2⟩:=b2U hv
   obtain ⟨a,b,c,d⟩:=b1S h1
   subst b
   have hc:v.chan=0:=by
    unfold Mo.mvE at h1
    obtain ⟨k,_,e⟩:=List.mem_map.1 h1
    rw [<- e]
   exact .inl ⟨a,hc,List.mem_range.1 hi,c,d,h2⟩
  ·split at h
   ·rename_i hh
    obtain ⟨c,hc,hv⟩:=List.mem_flatMap.1 h
    obtain ⟨_,rfl,_⟩:=a4D hv
    exact .inr ⟨hh,List.mem_range.1 hc,hv⟩
   ·cases h
 ·rintro (⟨a,b,c,d,e,f⟩ | ⟨a,b,c⟩)
  ·refine .inl (List.mem_flatMap.2 ⟨v.proc,List.mem_range.2 c,?_⟩)
   rw [Mo.movesP_eq,if_neg f]
   unfold Mo.mvE
   refine List.mem_map.2 ⟨v.edge,List.mem_filter.2 ⟨List.mem_range.2 d,e⟩,?_⟩
   cases v
   simp only at a b
   subst a b
   rfl
  ·rw [if_pos a]
   exact .inr (List.mem_flatMap.2 ⟨v.chan,List.mem_range.2 b,c⟩)
structure a1Z (mo:Mo) (st:Stt):Prop where
 fit:Fit mo st
 keep:∀j:Nat,st.hold=(j:Int)->mo.someS st j (pAt mo.procs j)=true
theorem c3Z (ho:N6 mo) {i:Nat} (hi:i<mo.procs.length) (z:Int):mo.someS { st with hold:=z } i (pAt mo.procs i)=mo.someS st i (pAt mo.procs i):=b1P fun _ he=>b1l ho (ho.pr _ (V7 hi)) he z
theorem a1Z.step (ho:N6 mo) (hf:X5 mo) (h:a1Z mo st) {v:Mv} (hv:v∈mo.moves st):a1Z mo (mo.doS st v):=by
 refine ⟨b0W ho hf h.fit (a79 hv),fun j hj=>?_⟩
 rcases a2X.1 hv with ⟨a,_,b,_,_,_⟩ | ⟨a,b,c⟩
 ·rw [a3d a] at hj ⊢
  unfold Mo.doE at hj ⊢
  simp only at hj
  split at hj
  ·rename_i hk
   obtain rfl:j=v.proc:=by omega
   rw [c3Z ho b]
   rw [Bool.and_eq_true] at hk
   exact hk.2
  ·omega
 ·obtain ⟨k,_⟩:=a4D c
  have:(mo.doS st v).hold=st.hold:=by
   unfold Mo.doS
   rcases k with k | k
   ·rw [if_pos k]
   ·rw [if_neg (by omega),if_pos k]
  omega
def a1m (mo:Mo) (M:Stt->List Mv):Nat->Stt->Stt->Prop
 | 0,s,t=>s=t
 | n+1,s,t=>∃v∈M s,a1m mo M n (mo.doS s v) t
theorem a1m.inv (ho:N6 mo) (hf:X5 mo):∀ {n:Nat} {s t:Stt},a1m mo mo.moves n s t->a1Z mo s->a1Z mo t
 | 0,s,t,h,hi=>by cases h;exact hi
 | n+1,s,t,⟨v,hv,h⟩,hi=>h.inv ho hf (hi.step ho hf hv)
structure QP (mo:Mo) (i k:Nat):Prop where
 lt:i<mo.procs.length
 ed:∀e∈(pAt mo.procs i).edges,e.frm=k->QE mo (pAt mo.procs i) e
section
variable (ho:N6 mo) (hq:MoQ mo) {i k:Nat} (h:QP mo i k) {e:Ed} (he:e∈(pAt mo.procs i).edges) (hk:e.frm=k)
include ho hq h he hk
theorem c33 {v:Mv} (hv:v∈mo.moves st) (hn:¬ (v.kind=0/\v.proc=i)):v∈mo.moves (mo.eff i e st)/\mo.doS (mo.eff i e st) v=mo.eff i e (mo.doS st v)/\mo.can (mo.doS st v) i (pAt mo.procs i) e=mo.can st i (pAt mo.procs i) e/\nAt (mo.doS st v).at' i=nAt st.at' i/\(mo.doS st v).hold≠(i:Int)∨st.hold=(i:Int):=by
 have hqe:=h.ed e he hk
 have hp:=ho.pr _ (V7 h.lt)
 by_cases hh:st.hold=(i:Int)
 ·exact .inr hh
 refine .inl ?_
 have ee:∀s,mo.eff i e s=_:=fun s=>b5g (st:=s) hp he hqe
 have hx:∀s s':Stt,s.vars=s'.vars->mo.ex (pAt mo.procs i) s e 0=mo.ex (pAt mo.procs i) s' e 0:=fun s s' e1=>a7M ho hp he ⟨fun b _=>by rw [e1],fun b hb=>by rw [hqe.z0] at hb;simp at hb⟩ 0
 rcases a2X.1 hv with ⟨a,b,c,d,f,g⟩ | ⟨a,b,c⟩
 ·have hij:i≠v.proc:=fun e1=>hn ⟨a,e1.symm⟩
  have hg:=a05 d
  refine ⟨a2X.2 (.inl ⟨a,b,c,d,?_,?_⟩),?_,?_,?_,?_⟩
  ·rw [b9B ho hq h.lt c hij he hg hqe];exact f
  ·exact g
  ·rw [a3d a,a3d a,b7G ho hq h.lt c hij he hg hqe]
  ·rw [a3d a,c2b ho hq h.lt c hij he hg hqe]
  ·rw [a3d a]
   show nAt (mo.edgeS st v.proc _ _).at' i=_
   rw [a17]
   exact a6U (Ne.symm hij)
  ·rw [a3d a]
   unfold Mo.doE
   simp only
   split<;>omega
 ·obtain ⟨k1,_⟩:=a4D c
  have hd:∃C,∀s,s.chans=st.chans->mo.doS s v={ s with chans:=C }:=by
   unfold Mo.doS
   rcases k1 with k1 | k1
   ·exact ⟨_,fun s hs=>by rw [if_pos k1,hs]⟩
   ·exact ⟨_,fun s hs=>by rw [if_neg (by omega),if_pos k1,hs]⟩
  obtain ⟨C,hC⟩:=hd
  have e1:=hC st rfl
  have e2:=hC (mo.eff i e st) (by rw [ee])
  refine ⟨a2X.2 (.inr ⟨a,b,?_⟩),?_,?_,?_,?_⟩
  ·have:mo.movesC (mo.eff i e st) v.chan=mo.movesC st v.chan:=by
    unfold Mo.movesC
    rw [ee]
   rw [this];exact c
  ·rw [e1,e2,ee,ee,hx { st with chans:=C } st rfl]
  ·rw [e1]
   have h3:=hx { st with chans:=C } st rfl
   have ha:=hqe.act hp he
   unfold Mo.can
   rw [h3,if_neg ha.1,if_neg ha.2,if_neg ha.1,if_neg ha.2]
  ·rw [e1]
  ·rw [e1];exact hh
end
end Go.V
namespace Go.V
variable {mo:Mo} {st:Stt}
theorem b3C {i:Nat} {p:Pr} {e:Ed} (h:mo.can st i p e=true):nAt st.at' i=e.frm:=by
 unfold Mo.can at h
 simp only [Bool.and_eq_true,decide_eq_true_eq] at h
 exact h.1.1
theorem a7q (ho:N6 mo) {i k:Nat} (h:mo.quiet i k=true):QP mo i k:=by
 unfold Mo.quiet at h
 simp only [Bool.and_eq_true,decide_eq_true_eq] at h
 refine ⟨h.1,fun e he hk=>b1I ho (ho.pr _ (V7 h.1)) he ?_⟩
 exact List.all_eq_true.1 h.2.1 e (List.mem_filter.2 ⟨he,by simpa using hk⟩)
theorem a7b {i:Nat} (hi:i<mo.procs.length) {e:Ed} (he:e∈(pAt mo.procs i).edges) (hc:mo.can st i (pAt mo.procs i) e=true) (hh:¬ (0<=st.hold/\st.hold≠(i:Int))):∃v,v∈mo.moves st/\v.kind=0/\v.proc=i/\mo.doS st v=mo.doE st i (pAt mo.procs i) e:=by
 obtain ⟨j,hj,rfl⟩:=List.getElem_of_mem he
 refine ⟨⟨0,i,j,0⟩,a2X.2 (.inl ⟨rfl,rfl,hi,hj,by simp only;rw [a3b hj];exact hc,hh⟩),rfl,rfl,?_⟩
 rw [a3d rfl]
 simp only
 rw [a3b hj]
theorem a9l (ho:N6 mo) {i:Nat} {e:Ed} (hk:e.keep=false) (hh:st.hold=-1):mo.doE st i (pAt mo.procs i) e=mo.eff i e st:=by
 rw [c0K hk]
 unfold Mo.eff
 rw [a17,hh]
theorem b3F (ho:N6 mo) (hf:X5 mo) (hq:MoQ mo) {i k:Nat} (h:QP mo i k):∀ {n:Nat} {s t:Stt},a1m mo mo.moves n s t->a1Z mo s->nAt s.at' i=k->s.hold≠(i:Int) ->
 (nAt t.at' i=k/\t.hold≠(i:Int)/\∀e∈(pAt mo.procs i).edges,e.frm=k->mo.can s i (pAt mo.procs i) e=true->mo.can t i (pAt mo.procs i) e=true/\a1m mo mo.moves n (mo.eff i e s) (mo.eff i e t)) ∨
 (∃e∈(pAt mo.procs i).edges,e.frm=k/\mo.can s i (pAt mo.procs i) e=true/\∃m,n=m+1/\a1m mo mo.moves m (mo.eff i e s) t)
 | 0,s,t,hp,hI,ha,hh=>by
   cases hp
   exact .inl ⟨ha,hh,fun e _ _ hc=>⟨hc,rfl⟩⟩
 | n+1,s,t,⟨v,hv,hp⟩,hI,ha,hh=>by
   by_cases hn:v.kind=0/\v.proc=i
   ·obtain ⟨a,b⟩:=hn
    subst b
    rcases a2X.1 hv with ⟨_,_,c,d,f,g⟩ | ⟨_,_,c⟩
    ·have he:=a05 d
     have hk:(eAt (pAt mo.procs v.proc).edges v.edge).frm=k:=by rw [<- b3C f,ha]
     have hqe:=h.ed _ he hk
     refine .inr ⟨_,he,hk,f,n,rfl,?_⟩
     have:=hI.fit.hold
     rw [a3d a,a9l ho hqe.keep (by omega)] at hp
     exact hp
    ·obtain ⟨k1,_⟩:=a4D c
     omega
   ·have hl:=h.lt
    have base:∀e∈(pAt mo.procs i).edges,e.frm=k->v∈mo.moves (mo.eff i e s)/\mo.doS (mo.eff i e s) v=mo.eff i e (mo.doS s v)/\mo.can (mo.doS s v) i (pAt mo.procs i) e=mo.can s i (pAt mo.procs i) e:=fun e he hk=>by
     rcases c33 ho hq h he hk hv hn with ⟨a,b,c,_,_⟩ | c
     ·exact ⟨a,b,c⟩
     ·exact absurd c hh
    have stay:nAt (mo.doS s v).at' i=nAt s.at' i/\(mo.doS s v).hold≠(i:Int):=by
     rcases a2X.1 hv with ⟨a,b,c,d,f,g⟩ | ⟨a,b,c⟩
     ·rw [a3d a]
      refine ⟨?_,?_⟩
      ·show nAt (mo.edgeS s v.proc _ _).at' i=_
       rw [a17]
       exact a6U fun e=>hn ⟨a,e⟩
      ·unfold Mo.doE
       simp only
       split
       ·intro e;exact hn ⟨a,by omega⟩
       ·omega
     ·obtain ⟨k1,_⟩:=a4D c
      unfold Mo.doS
      rcases k1 with k1 | k1
      ·rw [if_pos k1];exact ⟨rfl,hh⟩
      ·rw [if_neg (by omega),if_pos k1];exact ⟨rfl,hh⟩
    rcases b3F ho hf hq h hp (hI.step ho hf hv) (stay.1.trans ha) stay.2 with ⟨a,b,c⟩ | ⟨e,he,hk,hc,m,rfl,hm⟩
    ·refine .inl ⟨a,b,fun e he hk hc=>?_⟩
     obtain ⟨b1,b2,b3⟩:=base e he hk
     obtain ⟨c1,c2⟩:=c e he hk (by rw [b3];exact hc)
     exact ⟨c1,v,b1,by rw [b2];exact c2⟩
    ·obtain ⟨b1,b2,b3⟩:=base e he hk
     exact .inr ⟨e,he,hk,by rw [<- b3];exact hc,m+1,rfl,v,b1,by rw [b2];exact hm⟩
def Mo.rk (mo:Mo) (st:Stt):Nat:=((List.range mo.procs.length).map fun i=>if nAt st.at' i=1 then 0 else (pAt mo.procs i).places-nAt st.at' i).sum
theorem b80 {f g:Nat->Nat}:∀ {n:Nat},(∀j,j<n->f j=g j)->((List.range n).map f).sum=((List.range n).map g).sum:=fun {n} h=>by
 rw [List.map_congr_left fun j hj=>h j (List.mem_range.1 hj)]
theorem b35 {f g:Nat->Nat} {i:Nat}:∀ {n:Nat},i<n->(∀j,j<n->j≠i->f j=g j)->f i<g i->((List.range n).map f).sum<((List.range n).map g).sum
 | 0,h,_,_=>absurd h (by omega)
 | n+1,h,k,hl=>by
   rw [List.range_succ,List.map_append,List.map_append,List.sum_append,List.sum_append]
   simp only [List.map_cons,List.map_nil,List.sum_cons,List.sum_nil]
   by_cases c:i=n
   ·subst c
    rw [b80 fun j hj=>k j (by omega) (by omega)]
    omega
   ·have:=b35 (n:=n) (by omega) (fun j hj=>k j (by omega)) hl
    have:=k n (by omega) (Ne.symm c)
    omega
theorem c5F (ho:N6 mo) (hq:MoQ mo) {i:Nat} (h:QP mo i (nAt st.at' i)) (hI:a1Z mo st) {e:Ed} (he:e∈(pAt mo.procs i).edges) (hk:e.frm=nAt st.at' i):mo.rk (mo.eff i e st)<mo.rk st:=by
 have hqe:=h.ed e he hk
 have hl:=h.lt
 have hp:=ho.pr _ (V7 hl)
 have hlen:=hI.fit.at'
 have hat:(mo.eff i e st).at'=st.at'.set i e.to:=by rw [b5g hp he hqe]
 unfold Mo.rk
 rw [hat]
 refine b35 hl (fun j hj hn=>by rw [a6U (Ne.symm hn)]) ?_
 have e1:nAt (st.at'.set i e.to) i=e.to:=by simp [nAt,List.getD,hlen,hl]
 have h1:=hq.one i hl e he
 have h2:=(hp.inv.ed e he).f
 have h3:=(hp.inv.ed e he).to
 rw [e1,if_neg (by omega:¬ nAt st.at' i=1)]
 rcases hqe.to with q | q
 ·rw [if_pos q];omega
 ·split<;>omega
theorem b67 {b:Nat} (h:mo.askF.reads.testBit b=true):b<mo.globals:=by
 apply Decidable.byContradiction
 intro hb
 have:mo.askF.reads.testBit b=false:=by
  unfold Mo.askF
  refine a4Y (P:=fun f:Ft=>f.reads.testBit b=false) (by simp) fun f k _ hf=>b0P (fun w=>?_) _ k f hf
  unfold Mo.varG
  split
  ·rw [Nat.testBit_two_pow]
   exact decide_eq_false (by omega)
  ·simp
 rw [this] at h
 cases h
theorem b16 (ho:N6 mo) {i:Nat} (hi:i<mo.procs.length) {e:Ed} (he:e∈(pAt mo.procs i).edges) (h:QE mo (pAt mo.procs i) e):mo.safeS (mo.eff i e st)=mo.safeS st:=by
 have hp:=ho.pr _ (V7 hi)
 refine (c6u ho ((b20 hp he ?_ ?_).hold _)).symm
 ·refine a9F fun b h1 h2=>?_
  have:=(hp.loc b (h.wr b h1)).2
  have:=b67 h2
  omega
 ·rw [h.s0,h.r0];simp
def Mo.deadS (mo:Mo) (st:Stt):Bool:=decide (mo.moves st=[])&&!((List.range mo.procs.length).all fun i=>(pAt mo.procs i).rest.getD (nAt st.at' i) false)
def Mo.badS (mo:Mo) (st:Stt):Bool:=!mo.safeS st||mo.dead&&mo.deadS st
def Mo.firstQ (mo:Mo) (st:Stt):Option Nat:=(List.range mo.procs.length).find? fun i=>mo.quiet i (nAt st.at' i)
def Mo.ample (mo:Mo) (st:Stt):List Mv:=if st.hold<0 then match mo.firstQ st with
    | some i=>(mo.moves st).filter fun v=>decide (v.kind=0)&&decide (v.proc=i)
    | none=>mo.moves st
 else mo.moves st
theorem a3w {v:Mv} (h:v∈mo.ample st):v∈mo.moves st:=by
 unfold Mo.ample at h
 split at h
 ·split at h
  ·exact (List.mem_filter.1 h).1
  ·exact h
 ·exact h
def a7k (mo:Mo):Prop:=∀i st,mo.quiet i (nAt st.at' i)=true->∃e∈(pAt mo.procs i).edges,e.frm=nAt st.at' i/\mo.can st i (pAt mo.procs i) e=true
theorem c5m (ho:N6 mo) (hf:X5 mo) (hq:MoQ mo) (hs:a7k mo):∀n r (s t:Stt),mo.rk s=r->mo.badS t=true->a1Z mo s->a1m mo mo.moves n s t->∃m t',a1m mo mo.ample m s t'/\mo.badS t'=true:=by
 intro n
 induction n with
 | zero =>
   intro r s t _ hb _ h
   cases h
   exact ⟨0,s,rfl,hb⟩
 | succ n ih =>
   intro r
   induction r using Nat.strongRecOn with
   | _ r ihr =>
     intro s t hr hb hI h
     have all:mo.ample s=mo.moves s->∃m t',a1m mo mo.ample m s t'/\mo.badS t'=true:=fun e=>by
      obtain ⟨v,hv,hp⟩:=h
      obtain ⟨m,t',p,b⟩:=ih _ _ t rfl hb (hI.step ho hf hv) hp
      exact ⟨m+1,t',⟨v,by rw [e];exact hv,p⟩,b⟩
     by_cases hh:s.hold<0
     rotate_left
     ·exact all (by unfold Mo.ample;rw [if_neg hh])
     cases hF:mo.firstQ s with
     | none=>exact all (by unfold Mo.ample;rw [if_pos hh,hF])
     | some i =>
       have hqi:mo.quiet i (nAt s.at' i)=true:=by
        have:=List.find?_some hF
        exact this
       have hQ:=a7q ho hqi
       have hl:=hQ.lt
       have h1:s.hold=-1:=by have:=hI.fit.hold;omega
       -- an ample move
       have mv:∀e∈(pAt mo.procs i).edges,e.frm=nAt s.at' i->mo.can s i (pAt mo.procs i) e=true->∃v∈mo.ample s,mo.doS s v=mo.eff i e s:=fun e he hk hc=>by
        obtain ⟨v,v1,v2,v3,v4⟩:=a7b hl he hc (by omega)
        refine ⟨v,?_,by rw [v4,a9l ho (hQ.ed e he hk).keep h1]⟩
        unfold Mo.ample
        rw [if_pos hh,hF]
        exact List.mem_filter.2 ⟨v1,by simp [v2,v3]⟩
       rcases b3F ho hf hq hQ h hI rfl (by omega) with ⟨a,b,c⟩ | ⟨e,he,hk,hc,m,hm,hp⟩
       ·obtain ⟨e,he,hk,hc⟩:=hs i s hqi
        obtain ⟨c1,c2⟩:=c e he hk hc
        have hIt:=h.inv ho hf hI
        have hbad:mo.badS (mo.eff i e t)=true:=by
         unfold Mo.badS at hb ⊢
         rw [b16 ho hl he (hQ.ed e he hk)]
         rw [Bool.or_eq_true] at hb ⊢
         rcases hb with hb | hb
         ·exact .inl hb
         ·exfalso
          unfold Mo.deadS at hb
          simp only [Bool.and_eq_true,decide_eq_true_eq] at hb
          have he0:=hb.2.1
          have hht:=hIt.fit.hold
          by_cases c0:t.hold<0
          ·obtain ⟨v,v1,_⟩:=a7b hl he c1 (by omega)
           rw [he0] at v1;cases v1
          ·have hk2:=hIt.keep t.hold.toNat (by omega)
           unfold Mo.someS at hk2
           obtain ⟨e2,he2,hc2⟩:=List.any_eq_true.1 hk2
           obtain ⟨v,v1,_⟩:=a7b (by omega) he2 hc2 (by omega)
           rw [he0] at v1;cases v1
        obtain ⟨v,v1,v2⟩:=mv e he hk hc
        have hI2:a1Z mo (mo.eff i e s):=by rw [<- v2];exact hI.step ho hf (a3w v1)
        obtain ⟨m,t',p,b'⟩:=ihr (mo.rk (mo.eff i e s)) (by rw [<- hr];exact c5F ho hq hQ hI he hk) _ _ rfl hbad hI2 c2
        exact ⟨m+1,t',⟨v,v1,by rw [v2];exact p⟩,b'⟩
       ·obtain ⟨v,v1,v2⟩:=mv e he hk hc
        have hI2:a1Z mo (mo.eff i e s):=by rw [<- v2];exact hI.step ho hf (a3w v1)
        obtain rfl:m=n:=by omega
        obtain ⟨m',t',p,b'⟩:=ih _ _ t rfl hb hI2 hp
        exact ⟨m'+1,t',⟨v,v1,by rw [v2];exact p⟩,b'⟩
end Go.V
namespace Go.V
def ExP (P:Nat->Prop) (p:Pr):Prop:=∀e∈p.edges,∀n:Nat,e.expr=(n:Int)->P n
variable {P:Nat->Prop}
theorem ExP.put {p:Pr} (h:ExP P p) {frm to act node:Nat} {x v c:Int} (hx:∀n:Nat,x=(n:Int)->P n):ExP P (p.put frm to act node x v c):=fun e he=>by
 simp only [Pr.put,List.mem_append,List.mem_singleton] at he
 rcases he with he | rfl
 ·exact h e he
 ·exact hx
theorem a66:∀n:Nat,(-1:Int)=(n:Int)->P n:=fun n h=>by omega
theorem ExP.idle {p:Pr} (h:ExP P p) (n:Nat) (i:Int):ExP P (p.idle n i):=by
 unfold Pr.idle
 split
 ·exact h
 ·exact h
theorem ExP.mark {p:Pr} (h:ExP P p) (n to:Nat):ExP P { p with edges:=a0Z n to p.edges }:=fun e he=>by
 simp only [a0Z,List.mem_append,List.mem_map] at he
 rcases he with he | ⟨e',he,rfl⟩
 ·exact h e (List.mem_of_mem_take he)
 ·exact h e' (List.mem_of_mem_drop he)
def StX (P:Nat->Prop) (st:Pr->Nat->Nat->Nat->Pr) (k:Nat):Prop:=∀p frm to,ExP P p->ExP P (st p k frm to)
theorem a3y {st:Pr->Nat->Nat->Nat->Pr} {node:Nat}:∀ {ks:List Nat} {p:Pr} {frm to:Nat},(∀k∈ks,StX P st k)->ExP P p->ExP P (a10 st node p ks frm to)
 | [],p,frm,to,_,h=>h.put a66
 | [k],p,frm,to,hs,h=>hs k (by simp) p frm to h
 | k::k'::ks,p,frm,to,hs,h=>a3y (ks:=k'::ks) (fun x hx=>hs x (by simp only [List.mem_cons] at hx ⊢;exact .inr hx)) (hs k (by simp) p.place frm _ h)
theorem b6e {t:List Nd} {st:Pr->Nat->Nat->Nat->Pr} {frm to:Nat}:∀ {ks:List Nat} {p:Pr},(∀b∈ks,∀k∈(nd t b).ks,StX P st k)->ExP P p->ExP P (a0m t st frm to p ks)
 | [],p,_,h=>h
 | k::ks,p,hs,h=>by
   unfold a0m
   refine b6e (fun b hb=>hs b (by simp [hb])) ?_
   split
   ·exact a3y (hs k (by simp)) (ExP.put (p:=p.place) h a66)
   ·exact a3y (hs k (by simp)) h
theorem b2K {t:List Nd} (ht:a0d t) (ch:List ByteArray) (hc:∀j,j<t.length->P j->∀k∈(nd t j).ks,P k):∀f k,k<t.length->P k->a2c (nd t k).kind->StX P (N1 t ch f) k
 | 0,k,_,_,_=>fun p frm to h=>h
 | f+1,k,hk,hP,hst=>by
   intro p frm to h
   have hno:=ht.node k hk
   have hks:=ht.ks hk
   have bl:∀b∈(nd t k).ks,(nd t b).kind=16->∀x∈(nd t b).ks,StX P (N1 t ch f) x:=fun b hb hb16 x hx=>by
    have h1:=hks b hb
    have h2:=ht.ks h1.2 x hx
    exact b2K ht ch hc f x h2.2 (hc b h1.2 (hc k hk hP b hb) x hx) ((ht.node b h1.2).block hb16 x hx)
   have k0:1<=(nd t k).kids.length->∀n:Nat,(((nd t k).kid 0:Nat):Int)=(n:Int)->P n:=fun h1 n e=>by
    obtain rfl:(nd t k).kid 0=n:=by omega
    exact hc k hk hP _ (X0 (by omega))
   unfold N1
   simp only
   by_cases c6:(nd t k).kind=6
   ·rw [if_pos c6];exact h.put (k0 (by have:=hno.one (by omega);omega))
   rw [if_neg c6]
   by_cases c7:(nd t k).kind=7
   ·rw [if_pos c7];exact h.put (k0 (by have:=hno.one (by omega);omega))
   rw [if_neg c7]
   by_cases c8:(nd t k).kind=8
   ·rw [if_pos c8];exact (h.idle _ _).put a66
   rw [if_neg c8]
   by_cases c9:(nd t k).kind=9
   ·rw [if_pos c9];exact (h.idle _ _).put (k0 (by have:=hno.one (by omega);omega))
   rw [if_neg c9]
   by_cases c10:(nd t k).kind=10
   ·rw [if_pos c10];exact b6e (fun b hb=>bl b hb ((hno.choose c10).2 b hb)) (h.idle _ _)
   rw [if_neg c10]
   by_cases c11:(nd t k).kind=11
   ·rw [if_pos c11]
    obtain ⟨l1,l2,l3,l4⟩:=hno.cond c11
    have k0:=k0 (by omega)
    have m1:=X0 (x:=nd t k) (i:=1) (by omega)
    have i1:ExP P (p.place.put frm p.places 4 k ((nd t k).kid 0:Nat) (-1) (-1)):=ExP.put (p:=p.place) h k0
    have s1:=a3y (node:=(nd t k).kid 1) (frm:=p.places) (to:=to) (bl _ m1 l3) i1
    split
    ·exact ExP.put s1 k0
    ·have m2:=X0 (x:=nd t k) (i:=2) (by omega)
     exact a3y (bl _ m2 (l4 (by omega))) (ExP.put (p:=Pr.place _) s1 k0)
   rw [if_neg c11]
   by_cases c12:(nd t k).kind=12
   ·rw [if_pos c12]
    obtain ⟨l1,l2,l3⟩:=hno.loop c12
    have k0:=k0 (by omega)
    exact a3y (bl _ (X0 (x:=nd t k) (i:=1) (by omega)) l3) (ExP.put (ExP.put (p:=p.place) h k0) k0)
   rw [if_neg c12]
   by_cases c13:(nd t k).kind=13
   ·rw [if_pos c13]
    obtain ⟨l1,l2⟩:=hno.atom c13
    exact ExP.mark (a3y (bl _ (X0 (x:=nd t k) (i:=0) (by omega)) l2) h) _ _
   rw [if_neg c13]
   split<;>exact h.put a66
theorem b6o {ch:List ByteArray} {vb:ByteArray->Nat} {x:Nd} {f:Ft} (h:(W4 ch vb x f).part=false):f.part=false/\¬ (x.kind=22/\(x.num 0=7∨x.num 0=8)):=by
 unfold W4 at h
 split at h
 ·exact ⟨h,fun e=>by omega⟩
 split at h
 ·exact ⟨h,fun e=>by omega⟩
 split at h
 ·cases h
 ·rename_i c;exact ⟨h,c⟩
theorem a8P {g:Ft->Nat->Ft} (hg:∀f k,(g f k).part=false->f.part=false):∀ {l:List Nat} {f:Ft},(l.foldl g f).part=false->f.part=false/\∀k∈l,∃f',(g f' k).part=false
 | [],f,h=>⟨h,fun k hk=>by simp at hk⟩
 | x::l,f,h=>by
   obtain ⟨h1,h2⟩:=a8P hg (l:=l) (f:=g f x) h
   refine ⟨hg f x h1,fun k hk=>?_⟩
   rcases List.mem_cons.1 hk with rfl | hk
   ·exact ⟨f,h1⟩
   ·exact h2 k hk
theorem b2D {t:List Nd} {ch:List ByteArray} {vb:ByteArray->Nat}:∀n k f,(Z7 t ch vb n k f).part=false->f.part=false
 | 0,k,f,h=>h
 | n+1,k,f,h=>by
   unfold Z7 at h
   exact (b6o (a8P (fun f k=>b2D n k f) h).1).1
theorem b3D {t:List Nd} (ht:a0d t) {ch ch':List ByteArray} {vb:ByteArray->Nat} {look:ByteArray->Option Nat} {st:Stt} (hc:∀j,j<t.length->P j->∀k∈(nd t j).ks,P k) (hv:∀k,P k->(nd t k).kind=18->look ((nd t k).word 0)≠none) (hl:∀k,P k->(nd t k).kind=19->idxB ch ((nd t k).word 0)<ch.length):∀ (n k:Nat) (f:Ft),k<t.length->a0F (nd t k).kind->P k->t.length<=k+n->(Z7 t ch' vb n k f).part=false->(U1 t ch look st n k).2=true
 | 0,k,f,hk,_,_,hn,_=>by omega
 | n+1,k,f,hk,hx,hP,hn,hp=>by
   have hno:=ht.node k hk
   obtain ⟨_,hkx⟩:=a5L hno hx
   unfold Z7 at hp
   obtain ⟨p1,p2⟩:=a8P (fun f k=>b2D n k f) hp
   have p1:=(b6o p1).2
   have hkid:∀i,i<(nd t k).kids.length->(U1 t ch look st n ((nd t k).kid i)).2=true:=fun i hi=>by
    have hm:=X0 hi
    have h2:=ht.ks hk _ hm
    obtain ⟨f',hf'⟩:=p2 _ hm
    exact b3D ht hc hv hl n _ f' h2.2 (hkx i hi) (hc k hk hP _ hm) (by omega) hf'
   unfold U1
   simp only
   by_cases q17:(nd t k).kind=17
   ·simp only [q17,if_true]
   simp only [q17,if_false]
   by_cases q18:(nd t k).kind=18
   ·simp only [q18,if_true]
    cases hlk:look ((nd t k).word 0) with
    | none=>exact absurd hlk (hv k hP q18)
    | some v=>rfl
   simp only [q18,if_false]
   by_cases q19:(nd t k).kind=19
   ·simp only [q19,if_true,hl k hP q19]
   simp only [q19,if_false]
   by_cases q20:(nd t k).kind=20
   ·have:=(hno.one (by omega)).1
    simp only [q20,if_true,hkid 0 (by omega)]
   simp only [q20,if_false]
   by_cases q21:(nd t k).kind=21
   ·have:=(hno.one (by omega)).1
    simp only [q21,if_true,hkid 0 (by omega)]
   simp only [q21,if_false]
   by_cases q22:(nd t k).kind=22
   ·obtain ⟨b1,_,_,b4,b5⟩:=hno.bin q22
    simp only [q22,if_true,hkid 0 (by omega),hkid 1 (by omega),Bool.and_self]
    unfold W8
    rw [if_neg (by omega)]
    repeat' split
    all_goals rfl
   unfold a0F at hx
   omega
end Go.V
namespace Go.V
theorem c37 {t:List Nd} (h:O3 t) (hS:a1R t) {o:Org} (ho:o∈a08 t):∃P:Nat->Prop,(∀j,j<t.length->P j->∀k∈(nd t j).ks,P k)/\ExP P (a1S t o)/\(∀k,P k->(nd t k).kind=18->(nd t k).word 0∈(pr1 t o).names)/\(∀k,P k->(nd t k).kind=19->(nd t k).word 0∈chs t):=by
 obtain ⟨b,b1,hsub,k2,_,_⟩:=b0Z h hS ho
 have hok:=a3W ho
 have hpc:=a5V ((h.ok.node o.k k2).proc hok.kind)
 have hclo:∀j,j<t.length->(o.k<=j/\j<b)->∀k∈(nd t j).ks,o.k<=k/\k<b:=fun j _ hj k hk=>by
  obtain ⟨z,hz,rfl⟩:=List.mem_map.1 hk
  have:=hsub.down j hj.1 hj.2 z hz
  omega
 obtain ⟨i,hi,e,hseen⟩:=hok.at'
 have hkm:o.k∈(nd t 0).ks:=e▸List.getElem_mem hi
 have hle:=hsub.le
 obtain ⟨r,hr⟩:=b0j t ((nd t 0).ks.take i) ((nd t 0).ks.drop i)
 rw [List.take_append_drop] at hr
 have hg:(gat t).vs=(W1 t ((nd t 0).ks.take i)).vs++r:=hr
 have hv:(gat t).vs.take o.seen=(W1 t ((nd t 0).ks.take i)).vs:=by rw [hg,hseen,List.take_left]
 refine ⟨fun j=>o.k<=j/\j<b,hclo,a3y (fun k hk=>?_) fun ed he=>by simp [pr1] at he,fun k hP h18=>?_,fun k hP h19=>?_⟩
 ·have hkk:=h.ok.ks k2 k (List.mem_of_mem_drop hk)
  exact b2K h.ok _ hclo _ k hkk.2 (hclo o.k k2 ⟨Nat.le_refl _,hsub.lt⟩ k (List.mem_of_mem_drop hk)) (hpc.1 k hk)
 ·have:=b5O h hi (by rw [e];exact hok.kind) (by rw [e];exact hsub) (by rw [e];exact a3Z h hkm hsub) (j:=k) (by rw [e];exact hP.1) hP.2 (hS.use k (by omega) (.inr h18))
  rw [e,<- hv] at this
  exact List.mem_append.2 this
 ·exact b3y h (by omega) (hS.chan k (by omega) (.inr (.inl h19)))
theorem b4e {l:List ByteArray} {w:ByteArray} (h:w∈l):idxB l w<l.length:=List.findIdx_lt_length_of_exists ⟨w,h,by simp⟩
theorem c1y {mo:Mo} {p:Pr} {e:Ed}:(O4 mo p e).part=(a41 mo p e).part:=by
 rw [a7L]
 unfold a6v
 repeat' split
 all_goals rfl
theorem b8Z {t:List Nd} (h:O3 t) (hS:a1R t) (hoM:N6 (V3 t)) {i:Nat} (hi:i<(V3 t).procs.length) {e:Ed} (he:e∈(pAt (V3 t).procs i).edges) (hp:(O4 (V3 t) (pAt (V3 t).procs i) e).part=false) (st:Stt):((V3 t).ex (pAt (V3 t).procs i) st e 0).2=true:=by
 have e0:(V3 t).procs=(a08 t).map (a1S t):=(a5h t).1
 have hi':i<(a08 t).length:=by rw [e0,List.length_map] at hi;exact hi
 have ep:pAt (V3 t).procs i=a1S t (a08 t)[i]:=by rw [a2Q hi];simp [e0]
 have hpo:=hoM.pr _ (V7 hi)
 have heo:=hpo.inv.ed e he
 unfold Mo.ex
 split
 ·rename_i h0
  have hx:e.act=1∨e.act=2∨e.act=4∨e.act=5:=by
   have:=heo.ex0
   have:=heo.act
   omega
  obtain ⟨n,hn,hn2,hn3⟩:=heo.ex1 hx
  obtain ⟨P,hc,hex,hv,hl⟩:=c37 h hS (List.getElem_mem hi')
  rw [c1y] at hp
  unfold a41 at hp
  rw [if_pos h0,hn,Int.toNat_natCast] at hp
  rw [hn,Int.toNat_natCast]
  have hnm:=(a5P h hS (List.getElem_mem hi')).2.names
  refine b3D h.ok hc (fun k hk h18=>?_) (fun k hk h19=>?_) _ n ⟨0,0,0,0,0,false⟩ hn2 hn3 ?_ (by show t.length<=_+(t.length+1);omega) hp
  ·have:=b4e (hv k hk h18)
   rw [<- hnm,<- ep] at this
   unfold O2
   rw [if_pos this]
   simp
  ·exact b4e (hl k hk h19)
  ·rw [ep] at he
   exact hex e he n hn
 ·rfl
theorem b3V {t:List Nd} (h:O3 t) (hS:a1R t) (hoM:N6 (V3 t)):a7k (V3 t):=by
 intro i st hq
 have hqq:=hq
 unfold Mo.quiet at hq
 simp only [Bool.and_eq_true,decide_eq_true_eq] at hq
 obtain ⟨hi,hall,hor⟩:=hq
 have hQ:=a7q hoM hqq
 have mem:∀e∈lvE (pAt (V3 t).procs i) (nAt st.at' i),e∈(pAt (V3 t).procs i).edges/\e.frm=nAt st.at' i:=fun e he=>by
  obtain ⟨a,b⟩:=List.mem_filter.1 he
  exact ⟨a,by simpa using b⟩
 have dx:∀e∈lvE (pAt (V3 t).procs i) (nAt st.at' i),((V3 t).ex (pAt (V3 t).procs i) st e 0).2=true:=fun e he=>b8Z h hS hoM hi (mem e he).1 (hQ.ed e (mem e he).1 (mem e he).2).part st
 rw [Bool.or_eq_true] at hor
 rcases hor with hor | hor
 ·unfold a24 at hor
  simp only [Bool.and_eq_true,decide_eq_true_eq,List.all_eq_true] at hor
  have hm:=List.getElem_mem hor.2
  refine ⟨_,(mem _ hm).1,(mem _ hm).2,?_⟩
  have ha:=hor.1 _ hm
  unfold Mo.can
  rw [dx _ hm,(mem _ hm).2,if_neg (by omega),if_neg (by omega),if_neg (by omega),if_neg (by omega)]
  simp
 ·unfold forkE at hor
  simp only [Bool.and_eq_true,decide_eq_true_eq] at hor
  obtain ⟨⟨⟨f1,f2⟩,f3⟩,f4⟩:=hor
  have m0:=a05 (l:=lvE (pAt (V3 t).procs i) (nAt st.at' i)) (i:=0) (by omega)
  have m1:=a05 (l:=lvE (pAt (V3 t).procs i) (nAt st.at' i)) (i:=1) (by omega)
  generalize eAt (lvE (pAt (V3 t).procs i) (nAt st.at' i)) 0=a at *
  generalize eAt (lvE (pAt (V3 t).procs i) (nAt st.at' i)) 1=b at *
  have hab:(V3 t).ex (pAt (V3 t).procs i) st b 0=(V3 t).ex (pAt (V3 t).procs i) st a 0:=by
   unfold Mo.ex
   rw [f4]
  by_cases c:((V3 t).ex (pAt (V3 t).procs i) st a 0).1=0
  ·refine ⟨b,(mem _ m1).1,(mem _ m1).2,?_⟩
   unfold Mo.can
   rw [dx _ m1,(mem _ m1).2,hab,c,f3]
   simp
  ·refine ⟨a,(mem _ m0).1,(mem _ m0).2,?_⟩
   unfold Mo.can
   rw [dx _ m0,(mem _ m0).2,f2]
   simp [c]
end Go.V
namespace Go.V
variable {mo:Mo}
theorem b1X {x y b:Nat} (hx:x<4294967296) (hy:y<4294967296) (h1:x.testBit b=true) (h2:y.testBit b=false):¬ IntKind.u32.wrap (a5q .u32 (x:Int) (y:Int))=0:=by
 intro h
 unfold a5q at h
 have hb:b<32:=by
  apply Decidable.byContradiction
  intro hn
  have:x<2 ^ b:=Nat.lt_of_lt_of_le (show x<2 ^ 32 from hx) (Nat.pow_le_pow_right (n:=2) (by decide) (by omega:32<=b))
  rw [Nat.testBit_lt_two_pow this] at h1
  cases h1
 have hlt:=(BitVec.ofInt IntKind.u32.bits (x:Int) &&& ~~~ BitVec.ofInt IntKind.u32.bits (y:Int)).isLt
 rw [IntKind.wrap_u32] at h
 have h0:(BitVec.ofInt IntKind.u32.bits (x:Int) &&& ~~~ BitVec.ofInt IntKind.u32.bits (y:Int)).toNat=0:=by
  have:(2:Nat) ^ IntKind.u32.bits=4294967296:=rfl
  omega
 have h3:(BitVec.ofInt IntKind.u32.bits (x:Int) &&& ~~~ BitVec.ofInt IntKind.u32.bits (y:Int)).getLsbD b=false:=by
  rw [BitVec.getLsbD,h0,Nat.zero_testBit]
 rw [BitVec.getLsbD_and,BitVec.getLsbD_not] at h3
 have e1:(BitVec.ofInt IntKind.u32.bits (x:Int)).getLsbD b=x.testBit b:=by rw [BitVec.getLsbD,a4M hx]
 have e2:(BitVec.ofInt IntKind.u32.bits (y:Int)).getLsbD b=y.testBit b:=by rw [BitVec.getLsbD,a4M hy]
 rw [e1,e2,h1,h2] at h3
 have:decide (b<IntKind.u32.bits)=true:=decide_eq_true hb
 rw [this] at h3
 cases h3
def lvT (p:Pr) (k j:Nat):List Ed:=(p.edges.take j).filter fun e=>decide (e.frm=k)
theorem b2Z (p:Pr) (k:Nat):lvT p k p.edges.length=lvE p k:=by unfold lvT lvE;rw [List.take_length]
theorem c6U {p:Pr} {k j:Nat} (h:j<p.edges.length):lvT p k (j+1)=lvT p k j++if (eAt p.edges j).frm=k then [eAt p.edges j] else []:=by
 unfold lvT
 rw [List.take_succ_eq_append_getElem h,List.filter_append,a3b h]
 congr 1
 by_cases c:p.edges[j].frm=k<;>simp [c]
theorem b5n (p:Pr) (k j:Nat):(lvT p k j).length<=p.edges.length:=by
 unfold lvT
 refine Nat.le_trans (List.length_filter_le _ _) ?_
 rw [List.length_take];omega
theorem b0c (ho:N6 mo) {p:Pr} (hp:a0k mo p) {e:Ed} (he:e∈p.edges):a7a p (O4 mo p e)=true↔∀b,((O4 mo p e).reads ||| (O4 mo p e).writes).testBit b=true->b∈p.locals:=by
 unfold a7a
 simp only [List.all_eq_true,List.mem_range,Bool.or_eq_true,Bool.not_eq_true',List.contains_iff_mem]
 have hown:=b0R ho hp he
 have hv:=ho.nv
 constructor
 ·intro h b hb
  have hb32:b<32:=by
   have hb2:=hb
   rw [Nat.testBit_or,Bool.or_eq_true] at hb2
   have:=hp.var b (hb2.elim (hown.reads b) (hown.writes b))
   omega
  rcases h b hb32 with h | h
  ·rw [hb] at h;cases h
  ·exact h
 ·intro h b _
  cases hb:((O4 mo p e).reads ||| (O4 mo p e).writes).testBit b
  ·exact .inl rfl
  ·exact .inr (h b hb)
theorem c0E {i k:Nat} {e:Ed} (he:e∈(pAt mo.procs i).edges) (hk:e.frm=k) (h:a2h mo (pAt mo.procs i) e=false):mo.quiet i k=false:=by
 have:(lvE (pAt mo.procs i) k).all (a2h mo (pAt mo.procs i))=false:=by
  rw [Bool.eq_false_iff]
  intro hall
  have:=List.all_eq_true.1 hall e (List.mem_filter.2 ⟨he,by simpa using hk⟩)
  rw [h] at this;cases this
 unfold Mo.quiet
 rw [this,Bool.false_and,Bool.and_false]
theorem b6t {i k:Nat} (hi:i<mo.procs.length) (h:∀e∈(pAt mo.procs i).edges,e.frm=k->a2h mo (pAt mo.procs i) e=true):mo.quiet i k=(a24 (lvE (pAt mo.procs i) k)||forkE (lvE (pAt mo.procs i) k)):=by
 have:(lvE (pAt mo.procs i) k).all (a2h mo (pAt mo.procs i))=true:=by
  rw [List.all_eq_true]
  intro e he
  obtain ⟨a,b⟩:=List.mem_filter.1 he
  exact h e a (by simpa using b)
 unfold Mo.quiet
 rw [this,Bool.true_and,decide_eq_true hi,Bool.true_and]
theorem c1Q (ho:N6 mo) {i k:Nat} (hi:i<mo.procs.length) (hk:(pAt mo.procs i).places<=k):mo.quiet i k=false:=by
 have hl:lvE (pAt mo.procs i) k=[]:=by
  unfold lvE
  rw [List.filter_eq_nil_iff]
  intro e he
  have:=((ho.pr _ (V7 hi)).inv.ed e he).f
  simp only [decide_eq_true_eq]
  omega
 unfold Mo.quiet
 rw [hl]
 simp [a24,forkE]
end Go.V
namespace Go.Proofs.YtnjlhebkhjcagaaGreat
open Go.V
set_option maxRecDepth 100000
set_option maxHeartbeats 4000000
variable {m:MdX} {mo:Mo} {ps:List (Pr×PrD)} {x:StD} {st:Stt}
theorem c0M (hm:MoF m mo ps) (ho:N6 mo) {p i:Nat} (hp:p<mo.procs.length) (hi:i<(pAt mo.procs p).edges.length) :
 Eqc vfs 41 [.agg [m.dt,.int .i64 m.g,m.dc,m.dv,m.dp,m.ds,.bool m.b],.int .i64 (p:Int),.int .i64 (i:Int)] (.tup [.agg (O4 mo (pAt mo.procs p) (eAt (pAt mo.procs p).edges i)).row,.bool true])/\(O4 mo (pAt mo.procs p) (eAt (pAt mo.procs p).edges i)).Ok:=by
 rw [a3b hi]
 have e:pAt mo.procs p=mo.procs[p]:=a2Q hp
 simp only [e] at hi ⊢
 obtain ⟨⟨s,h⟩,hok⟩:=b7L hm ho hp hi
 exact ⟨S5 ⟨_,s,h,rfl⟩,hok⟩
theorem c22 {d:D} {l:List Ed} (hd:FL 8 d (U3 l)) (hl:l.length<=4000):Eqc vfs 42 [d] (.bool (a24 l)):=by
 have hln:=a8q hd
 refine S5 ?_
 refine P0 (vf:=b1h) rfl ?_
 unfold b1h;refine zF ?_
 refine zY hln ?_
 refine U2 [0,5,6] 0 l.length (fun i f s=>f 7=.int .i64 (i:Int)/\∀j,j<i->(eAt l j).act<=1) (.mk rfl) (by omega) ⟨rfl,fun j h=>by omega⟩ ?_
 rintro i f s hi ⟨hE,hall⟩
 by_cases ci:i<l.length
 ·have hx:=a5r hd ci (k:=.i64)
  have no:¬ (eAt l i).act<=1->a24 l=false:=fun h=>by
   unfold a24
   have:l.all (fun e=>decide (e.act<=1))=false:=by
    rw [Bool.eq_false_iff]
    intro ha
    exact h (by simpa using List.all_eq_true.1 ha _ (a05 ci))
   rw [this,Bool.false_and]
  have yes:(eAt l i).act<=1->∀j,j<i+1->(eAt l j).act<=1:=fun h j hj=>by
   by_cases ej:j=i
   ·subst ej;exact h
   ·exact hall j (by omega)
  by_cases a0:((eAt l i).act:Int)=0
  ·refine zY (aN hE (aN hln (aN ci (aN hx a0)))) ?_
   exact yes (by omega)
  by_cases a1:((eAt l i).act:Int)=1
  ·refine zY (aN hE (aN hln (aN ci (aN hx (aN a0 a1))))) ?_
   exact yes (by omega)
  ·refine zY (aN hE (aN hln (aN ci (aN hx (aN a0 a1))))) ?_
   exact (no (by omega)).symm
 ·obtain rfl:i=l.length:=by omega
  refine zY (aN hE (aN hln ci)) ?_
  unfold a24
  have:l.all (fun e=>decide (e.act<=1))=true:=by
   rw [List.all_eq_true]
   intro e he
   obtain ⟨j,hj,rfl⟩:=List.getElem_of_mem he
   have:=hall j hj
   rw [a3b hj] at this
   simpa using this
  rw [this,Bool.true_and]
theorem c0p {d:D} {l:List Ed} (hd:FL 8 d (U3 l)) (hl:l.length<=4000):Eqc vfs 43 [d] (.bool (forkE l)):=by
 have hln:=a8q hd
 refine S5 ?_
 unfold forkE
 by_cases c2:l.length=2
 ·have h0:=a5r hd (i:=0) (by omega) (k:=.i64)
  have h1:=a5r hd (i:=1) (by omega) (k:=.i64)
  have z0:((0:Nat):Int)=0:=rfl
  have z1:((1:Nat):Int)=1:=rfl
  rw [z0] at h0
  rw [z1] at h1
  refine P0 (vf:=a5S) rfl ?_
  unfold a5S;refine zF ?_
  refine zY (aN hln (aN c2 (aN h0 h1))) ?_
  repeat' (first|(refine Y4 (fun c=>?_) (fun c=>?_)<;>(try simp only [U6,U7,U4,U5] at c)<;>simp (disch:=(first|exact Rf.mk rfl|with_reducible assumption|omega|((repeat (first|rw [nP]|rw [nS]|rw [M3]))<;>omega)|decide)) only [go_sem,↓reduceIte,hln,c2,h0,h1,c])|(refine Y7 (fun c=>?_) (fun c=>?_)<;>(try simp only [U6,U7,U4,U5] at c)<;>simp (disch:=(first|exact Rf.mk rfl|with_reducible assumption|omega|((repeat (first|rw [nP]|rw [nS]|rw [M3]))<;>omega)|decide)) only [go_sem,↓reduceIte,hln,c2,h0,h1,c]))
  all_goals first | (simp_all;done) | (simp_all;omega)
 ·have c3:¬ (l.length:Int)=2:=by omega
  refine P0 (vf:=a5S) rfl ?_
  unfold a5S;refine zF ?_
  refine zY (aN hln c3) ?_
  simp [c2]
end Go.Proofs.YtnjlhebkhjcagaaGreat
namespace Go.Proofs.YtnjlhebkhjcagaaGreat
open Go.V
set_option maxRecDepth 100000
set_option maxHeartbeats 4000000
variable {m:MdX} {mo:Mo} {ps:List (Pr×PrD)} {x:StD} {st:Stt}
theorem b4m (hm:MoF m mo ps) (ho:N6 mo) (hq:MoQ mo) {i k:Nat} (hi:i<mo.procs.length):Eqc vfs 18 [.agg [m.dt,.int .i64 m.g,m.dc,m.dv,m.dp,m.ds,.bool m.b],.int .i64 (i:Int),.int .i64 (k:Int)] (.bool (mo.quiet i k)):=by
 have om:=hm.ones
 have fm:=a04 hm
 have hpo:=ho.pr _ (V7 hi)
 have hel:=hpo.el
 have hnv:=ho.nv
 have c1:¬ mo.procs.length<=i:=by omega
 refine S5 ?_
 by_cases hk:(pAt mo.procs i).places<=k
 ·rw [c1Q ho hi hk]
  refine P0 (vf:=a6C) rfl ?_
  unfold a6C;refine zF ?_
  exact zZ (aN om (aN hi (aN c1 hk)))
 have hv32:∀v∈(pAt mo.procs i).locals,v<32:=fun v hv=>by have:=hpo.var v (hpo.loc v hv).1;omega
 have hll:(pAt mo.procs i).locals.length<=1000000:=by have:=hq.ll i hi;omega
 refine P0 (vf:=a6C) rfl ?_
 unfold a6C;refine zF ?_
 refine zY (aN om (aN hi (aN c1 hk))) ?_
 have hp0:Hp (((k4.empty.push (.cells [m.dt,.int .i64 m.g,m.dc,m.dv,m.dp,m.ds,.bool m.b])).push (.cells [.str (bs []),.int .i64 0,.nils,.int .i64 0,.nils,.nils,.nils,.nils])).set 1 (some (.cells [.str (pAt mo.procs i).name,.int .i64 ((pAt mo.procs i).copy:Int),(prX ps i).dl,.int .i64 ((pAt mo.procs i).places:Int),(prX ps i).dr,(prX ps i).de,(prX ps i).dn,(prX ps i).dv]))) [] [(0,[m.dt,.int .i64 m.g,m.dc,m.dv,m.dp,m.ds,.bool m.b]),(1,[.str (pAt mo.procs i).name,.int .i64 ((pAt mo.procs i).copy:Int),(prX ps i).dl,.int .i64 ((pAt mo.procs i).places:Int),(prX ps i).dr,(prX ps i).de,(prX ps i).dn,(prX ps i).dv])]:=⟨List.nodup_nil,by simp,by simp [Has],by
  intro y hy
  simp only [List.mem_cons,List.not_mem_nil,or_false] at hy
  rcases hy with rfl | rfl
  ·exact zZ0
  ·simp (disch:=(first|exact Rf.mk rfl|with_reducible assumption|omega|((repeat (first|rw [nP]|rw [nS]|rw [M3]))<;>omega)|decide)) only [go_sem,↓reduceIte]⟩
 generalize ((k4.empty.push (.cells [m.dt,.int .i64 m.g,m.dc,m.dv,m.dp,m.ds,.bool m.b])).push (.cells [.str (bs []),.int .i64 0,.nils,.int .i64 0,.nils,.nils,.nils,.nils])).set 1 (some (.cells [.str (pAt mo.procs i).name,.int .i64 ((pAt mo.procs i).copy:Int),(prX ps i).dl,.int .i64 ((pAt mo.procs i).places:Int),(prX ps i).dr,(prX ps i).de,(prX ps i).dn,(prX ps i).dv]))=s0 at *
 have hg:∀ {s E},Hp s E [(0,[m.dt,.int .i64 m.g,m.dc,m.dv,m.dp,m.ds,.bool m.b]),(1,[.str (pAt mo.procs i).name,.int .i64 ((pAt mo.procs i).copy:Int),(prX ps i).dl,.int .i64 ((pAt mo.procs i).places:Int),(prX ps i).dr,(prX ps i).de,(prX ps i).dn,(prX ps i).dv])]->s.get 0=some (.cells [m.dt,.int .i64 m.g,m.dc,m.dv,m.dp,m.ds,.bool m.b])/\s.get 1=some (.cells [.str (pAt mo.procs i).name,.int .i64 ((pAt mo.procs i).copy:Int),(prX ps i).dl,.int .i64 ((pAt mo.procs i).places:Int),(prX ps i).dr,(prX ps i).de,(prX ps i).dn,(prX ps i).dv]):=fun h=>⟨h.r (0,_) (by simp),h.r (1,_) (by simp)⟩
 refine a1F [0,1,2,3,6,7,11,12,13,14,15,38,45,46,58,59,60,61,68,92,119] (fun f s'=>f 8=.int .u32 (setF (pAt mo.procs i).locals:Int)/\s'=s0) ?_ ?_
 ·obtain ⟨g0,g1⟩:=hg hp0
  refine U2 [0,1,2,3,6,7,11,12,13,14,15,38,45,46,58,59,60,61,68,92,119] 0 (pAt mo.procs i).locals.length (fun j f s'=>f 47=.int .i64 (j:Int)/\f 8=.int .u32 (setF ((pAt mo.procs i).locals.take j):Int)/\s'=s0) (.mk rfl) (by omega) ⟨rfl,rfl,rfl⟩ ?_
  rintro j f s' hj ⟨hE,hE8,rfl⟩
  by_cases cj:j<(pAt mo.procs i).locals.length
  ·have hb:nAt (pAt mo.procs i).locals j<32:=by rw [a1J cj];exact hv32 _ (List.getElem_mem cj)
   have hu:IntKind.u64.wrap (nAt (pAt mo.procs i).locals j:Int)=(nAt (pAt mo.procs i).locals j:Int):=by rw [IntKind.wrap_u64];omega
   have hsh:=b57 hb
   have hlt:=a7E (l:=(pAt mo.procs i).locals.take j) fun v hv=>hv32 v (List.mem_of_mem_take hv)
   have hor:=a5E hlt (a5e hb)
   have hsn:setF ((pAt mo.procs i).locals.take j) ||| 2 ^ nAt (pAt mo.procs i).locals j=setF ((pAt mo.procs i).locals.take (j+1)):=by rw [List.take_succ_eq_append_getElem cj,c18,a1J cj]
   rw [hsn] at hor
   exact zZ (aN hE (aN hE8 (aN cj (aN g0 (aN g1 (aN om (aN hu (aN hsh hor))))))))
  ·obtain rfl:j=(pAt mo.procs i).locals.length:=by omega
   rw [List.take_length] at hE8
   exact zZ (aN hE (aN hE8 cj))
 rintro f s ⟨hE8,rfl⟩
 obtain ⟨g0,g1⟩:=hg hp0
 refine zY (aN g0 (aN g1 om)) ?_
 refine a1F [0,1,2,3,7,8,10,38,45,46,47,48,58,59] (fun f s=>(∃E,Rp (f 11) 8 (U3 (lvE (pAt mo.procs i) k)) E/\Hp s E [(0,[m.dt,.int .i64 m.g,m.dc,m.dv,m.dp,m.ds,.bool m.b]),(1,[.str (pAt mo.procs i).name,.int .i64 ((pAt mo.procs i).copy:Int),(prX ps i).dl,.int .i64 ((pAt mo.procs i).places:Int),(prX ps i).dr,(prX ps i).de,(prX ps i).dn,(prX ps i).dv])])/\mo.quiet i k=(a24 (lvE (pAt mo.procs i) k)||forkE (lvE (pAt mo.procs i) k))) ?_ ?_
 ·refine U2 [0,1,2,3,7,8,10,38,45,46,47,48,58,59] 0 (pAt mo.procs i).edges.length (fun j f s=>f 60=.int .i64 (j:Int)/\(∃E,Rp (f 11) 8 (U3 (lvT (pAt mo.procs i) k j)) E/\Hp s E [(0,[m.dt,.int .i64 m.g,m.dc,m.dv,m.dp,m.ds,.bool m.b]),(1,[.str (pAt mo.procs i).name,.int .i64 ((pAt mo.procs i).copy:Int),(prX ps i).dl,.int .i64 ((pAt mo.procs i).places:Int),(prX ps i).dr,(prX ps i).de,(prX ps i).dn,(prX ps i).dv])])/\∀q,q<j->(eAt (pAt mo.procs i).edges q).frm=k->a2h mo (pAt mo.procs i) (eAt (pAt mo.procs i).edges q)=true) (.mk rfl) (by omega) ⟨rfl,⟨[],.inl ⟨rfl,rfl,rfl⟩,hp0⟩,fun q h=>by omega⟩ ?_
  clear g0 g1
  rintro j f s hj ⟨hE,⟨E,hr,hp⟩,hall⟩
  obtain ⟨g0,g1⟩:=hg hp
  have l0:=M7 g0
  have l1:=M7 g1
  by_cases cj:j<(pAt mo.procs i).edges.length
  ·have hp2:=hp.fr (a2m (z:=.cells [.int .i64 0,.int .i64 0,.int .i64 0,.int .i64 0,.int .i64 0,.int .i64 0,.bool false,.int .i64 0]) (o:=.cells [.int .i64 ((eAt (pAt mo.procs i).edges j).frm:Int),.int .i64 ((eAt (pAt mo.procs i).edges j).to:Int),.int .i64 ((eAt (pAt mo.procs i).edges j).act:Int),.int .i64 (eAt (pAt mo.procs i).edges j).expr,.int .i64 (eAt (pAt mo.procs i).edges j).var,.int .i64 (eAt (pAt mo.procs i).edges j).chan,.bool (eAt (pAt mo.procs i).edges j).keep,.int .i64 ((eAt (pAt mo.procs i).edges j).node:Int)]))
   have hls:=c6U (k:=k) cj
   by_cases cf:(eAt (pAt mo.procs i).edges j).frm=k
   rotate_left
   ·rw [if_neg cf,List.append_nil] at hls
    refine zY (aN hE (aN cj (aN g0 (aN g1 (aN om cf))))) ?_
    rw [hls]
    refine ⟨⟨E,hr,hp2⟩,fun q hq hf=>?_⟩
    by_cases eq:q=j
    ·subst eq;exact absurd hf cf
    ·exact hall q (by omega) hf
   rw [if_pos cf] at hls
   obtain ⟨hb,hok⟩:=c0M hm ho hi cj
   have hmem:=a05 cj
   by_cases hqe:a2h mo (pAt mo.procs i) (eAt (pAt mo.procs i).edges j)=true
   ·have q:=b1I ho hpo hmem hqe
    have hown:=(b0c ho hpo hmem).1 (by
     unfold a2h at hqe
     simp only [Bool.and_eq_true] at hqe
     exact hqe.1.2)
    have hclr:=c30 (a3U hok.r hok.w) (a7E hv32) fun b hb=>a9w.2 (hown b hb)
    have hor:=a5E hok.r hok.w
    unfold Ft.row at hb
    rw [q.part,q.s0,q.r0,q.z0] at hb
    have qk:=q.keep
    have z0:((0:Nat):Int)=0:=rfl
    rw [z0] at hb
    have q1:¬ ((eAt (pAt mo.procs i).edges j).to:Int)=1->¬ (eAt (pAt mo.procs i).edges j).to<=k:=fun h=>by have:=q.to;omega
    have hrow:U3 (lvT (pAt mo.procs i) k (j+1))=U3 (lvT (pAt mo.procs i) k j)++[[.int .i64 ((eAt (pAt mo.procs i).edges j).frm:Int),.int .i64 ((eAt (pAt mo.procs i).edges j).to:Int),.int .i64 ((eAt (pAt mo.procs i).edges j).act:Int),.int .i64 (eAt (pAt mo.procs i).edges j).expr,.int .i64 (eAt (pAt mo.procs i).edges j).var,.int .i64 (eAt (pAt mo.procs i).edges j).chan,.bool (eAt (pAt mo.procs i).edges j).keep,.int .i64 ((eAt (pAt mo.procs i).edges j).node:Int)]]:=by rw [hls];simp [U3,Ed.row]
    rw [cf,qk] at hrow
    by_cases ct:((eAt (pAt mo.procs i).edges j).to:Int)=1
    rotate_left
    have q1:=q1 ct
    have hr1:=hrow
    rotate_left
    have hr1:=hrow
    rw [ct] at hr1
    all_goals
     refine zY (aN hE (aN cj (aN g0 (aN g1 (aN om (aN cf (aN hb (aN fm (aN qk (aN hE8 (aN ct (aN q1 (aN hor hclr))))))))))))) ?_
     refine a6S (A:=[]) (B:=[]) hr (by rw [List.nil_append,List.append_nil];exact (hp.fr a2m).fr a2m) rfl (a3p _) (by decide) (by have:=b5n (pAt mo.procs i) k j;simp;omega) ?_
     intro s' h1 h2 h3 h4
     refine zY (aN hE cj) ?_
     rw [hr1]
     refine ⟨⟨_,h1,by simpa using h2⟩,fun q hq hf=>?_⟩
     by_cases eq:q=j
     ·subst eq;exact hqe
     ·exact hall q (by omega) hf
   ·rw [c0E hmem cf (by simpa using hqe)]
    have hor:=a5E hok.r hok.w
    unfold Ft.row at hb
    by_cases qk:(eAt (pAt mo.procs i).edges j).keep=true
    ·exact zZ (aN hE (aN cj (aN g0 (aN g1 (aN om (aN cf (aN hb (aN fm (aN qk hE8)))))))))
    have qk:(eAt (pAt mo.procs i).edges j).keep=false:=by simpa using qk
    by_cases ct:((eAt (pAt mo.procs i).edges j).to:Int)=1
    ·have q0:=ct
     by_cases qp:(O4 mo (pAt mo.procs i) (eAt (pAt mo.procs i).edges j)).part=true
     ·exact zZ (aN hE (aN cj (aN g0 (aN g1 (aN om (aN cf (aN hb (aN fm (aN qk (aN hE8 (aN ct qp)))))))))))
     have qp:(O4 mo (pAt mo.procs i) (eAt (pAt mo.procs i).edges j)).part=false:=by simpa using qp
     by_cases qs:((O4 mo (pAt mo.procs i) (eAt (pAt mo.procs i).edges j)).sends:Int)=0
     rotate_left
     ·exact zZ (aN hE (aN cj (aN g0 (aN g1 (aN om (aN cf (aN hb (aN fm (aN qk (aN hE8 (aN ct (aN qp qs))))))))))))
     by_cases qr:((O4 mo (pAt mo.procs i) (eAt (pAt mo.procs i).edges j)).recvs:Int)=0
     rotate_left
     ·exact zZ (aN hE (aN cj (aN g0 (aN g1 (aN om (aN cf (aN hb (aN fm (aN qk (aN hE8 (aN ct (aN qp (aN qs qr)))))))))))))
     by_cases qz:((O4 mo (pAt mo.procs i) (eAt (pAt mo.procs i).edges j)).sizes:Int)=0
     rotate_left
     ·exact zZ (aN hE (aN cj (aN g0 (aN g1 (aN om (aN cf (aN hb (aN fm (aN qk (aN hE8 (aN ct (aN qp (aN qs (aN qr qz))))))))))))))
     have qo:¬ ∀b,((O4 mo (pAt mo.procs i) (eAt (pAt mo.procs i).edges j)).reads ||| (O4 mo (pAt mo.procs i) (eAt (pAt mo.procs i).edges j)).writes).testBit b=true->b∈(pAt mo.procs i).locals:=fun ho2=>hqe (by
      have h1:=(b0c ho hpo hmem).2 ho2
      unfold a2h
      simp only [qk,qp,h1,Bool.not_false,Bool.and_true,Bool.true_and,Bool.and_eq_true,Bool.or_eq_true,decide_eq_true_eq]
      omega)
     obtain ⟨b,hb2⟩:=Classical.not_forall.1 qo
     obtain ⟨hb3,hb4⟩:=Classical.not_imp.1 hb2
     have hclr:=b1X (a3U hok.r hok.w) (a7E hv32) hb3 (by rw [Bool.eq_false_iff];exact fun h=>hb4 (a9w.1 h))
     exact zZ (aN hE (aN cj (aN g0 (aN g1 (aN om (aN cf (aN hb (aN fm (aN qk (aN hE8 (aN ct (aN qp (aN qs (aN qr (aN qz (aN hor hclr))))))))))))))))
    by_cases ct2:(eAt (pAt mo.procs i).edges j).to<=k
    ·exact zZ (aN hE (aN cj (aN g0 (aN g1 (aN om (aN cf (aN hb (aN fm (aN qk (aN hE8 (aN ct ct2)))))))))))
    by_cases qp:(O4 mo (pAt mo.procs i) (eAt (pAt mo.procs i).edges j)).part=true
    ·exact zZ (aN hE (aN cj (aN g0 (aN g1 (aN om (aN cf (aN hb (aN fm (aN qk (aN hE8 (aN ct (aN ct2 qp))))))))))))
    have qp:(O4 mo (pAt mo.procs i) (eAt (pAt mo.procs i).edges j)).part=false:=by simpa using qp
    by_cases qs:((O4 mo (pAt mo.procs i) (eAt (pAt mo.procs i).edges j)).sends:Int)=0
    rotate_left
    ·exact zZ (aN hE (aN cj (aN g0 (aN g1 (aN om (aN cf (aN hb (aN fm (aN qk (aN hE8 (aN ct (aN ct2 (aN qp qs)))))))))))))
    by_cases qr:((O4 mo (pAt mo.procs i) (eAt (pAt mo.procs i).edges j)).recvs:Int)=0
    rotate_left
    ·exact zZ (aN hE (aN cj (aN g0 (aN g1 (aN om (aN cf (aN hb (aN fm (aN qk (aN hE8 (aN ct (aN ct2 (aN qp (aN qs qr))))))))))))))
    by_cases qz:((O4 mo (pAt mo.procs i) (eAt (pAt mo.procs i).edges j)).sizes:Int)=0
    rotate_left
    ·exact zZ (aN hE (aN cj (aN g0 (aN g1 (aN om (aN cf (aN hb (aN fm (aN qk (aN hE8 (aN ct (aN ct2 (aN qp (aN qs (aN qr qz)))))))))))))))
    have qo:¬ ∀b,((O4 mo (pAt mo.procs i) (eAt (pAt mo.procs i).edges j)).reads ||| (O4 mo (pAt mo.procs i) (eAt (pAt mo.procs i).edges j)).writes).testBit b=true->b∈(pAt mo.procs i).locals:=fun ho2=>hqe (by
     have h1:=(b0c ho hpo hmem).2 ho2
     unfold a2h
     simp only [qk,qp,h1,Bool.not_false,Bool.and_true,Bool.true_and,Bool.and_eq_true,Bool.or_eq_true,decide_eq_true_eq]
     omega)
    obtain ⟨b,hb2⟩:=Classical.not_forall.1 qo
    obtain ⟨hb3,hb4⟩:=Classical.not_imp.1 hb2
    have hclr:=b1X (a3U hok.r hok.w) (a7E hv32) hb3 (by rw [Bool.eq_false_iff];exact fun h=>hb4 (a9w.1 h))
    exact zZ (aN hE (aN cj (aN g0 (aN g1 (aN om (aN cf (aN hb (aN fm (aN qk (aN hE8 (aN ct (aN ct2 (aN qp (aN qs (aN qr (aN qz (aN hor hclr)))))))))))))))))
  ·obtain rfl:j=(pAt mo.procs i).edges.length:=by omega
   rw [b2Z] at hr
   refine zY (aN hE cj) ?_
   refine ⟨⟨E,hr,hp⟩,b6t hi fun e he hf=>?_⟩
   obtain ⟨q,hq',rfl⟩:=List.getElem_of_mem he
   have:=hall q hq'
   rw [a3b hq'] at this
   exact this hf
 ·rintro f s ⟨⟨E,hr,hp⟩,hqv⟩
  obtain ⟨d',h1,h2⟩:=a4g hr hp (fun e h=>h) (a3p _) (b23 _)
  have hic:∀l,N2 (V.ice s.get 20) (f 11::l)=(N2 (V.ice s.get 20) l).map (d'::·):=fun l=>a9u h1
  have hlen:(lvE (pAt mo.procs i) k).length<=4000:=by rw [<- b2Z];exact Nat.le_trans (b5n _ _ _) hel
  have hpl:=c22 h2 hlen
  have hfk:=c0p h2 hlen
  rw [hqv]
  generalize a24 (lvE (pAt mo.procs i) k)=pl at *
  generalize forkE (lvE (pAt mo.procs i) k)=fk at *
  cases pl
  ·rw [Bool.false_or]
   simp (disch:=(first|exact Rf.mk rfl|with_reducible assumption|omega|((repeat (first|rw [nP]|rw [nS]|rw [M3]))<;>omega)|decide)) only [go_sem,↓reduceIte,hic,Bool.true_or,hpl,hfk]
  ·simp (disch:=(first|exact Rf.mk rfl|with_reducible assumption|omega|((repeat (first|rw [nP]|rw [nS]|rw [M3]))<;>omega)|decide)) only [go_sem,↓reduceIte,hic,Bool.true_or,hpl,hfk]
end Go.Proofs.YtnjlhebkhjcagaaGreat
namespace Go.Proofs.YtnjlhebkhjcagaaGreat
open Go.V
set_option maxRecDepth 100000
set_option maxHeartbeats 4000000
variable {m:MdX} {mo:Mo} {ps:List (Pr×PrD)} {x:StD} {st:Stt}
def isP (i:Nat) (v:Mv):Bool:=decide (v.kind=0)&&decide (v.proc=i)
theorem b2u {l:List Mv} {P:Mv->Bool} {j:Nat} (h:j<l.length):(l.take (j+1)).filter P=(l.take j).filter P++if P (S9 l j)=true then [S9 l j] else []:=by
 rw [List.take_succ_eq_append_getElem h,List.filter_append,a3K h]
 congr 1
 by_cases c:P l[j]=true<;>simp [c]
theorem b4j {l:List Mv} {P:Mv->Bool} {j:Nat}:((l.take j).filter P).length<=l.length:=by
 refine Nat.le_trans (List.length_filter_le _ _) ?_
 rw [List.length_take];omega
theorem b7W {i:Nat} (hi:i<mo.procs.length) (h:mo.quiet i (nAt st.at' i)=true) (hn:∀q,q<i->mo.quiet q (nAt st.at' q)=false):mo.firstQ st=some i:=by
 unfold Mo.firstQ
 rw [List.find?_eq_some_iff_getElem]
 refine ⟨h,i,by simpa using hi,by simp,fun j hj=>?_⟩
 rw [List.getElem_range,hn j hj]
 rfl
theorem b6Z (hn:∀q,q<mo.procs.length->mo.quiet q (nAt st.at' q)=false):mo.firstQ st=none:=by
 unfold Mo.firstQ
 rw [List.find?_eq_none]
 intro q hq
 rw [hn q (List.mem_range.1 hq)]
 simp
theorem c4A (hm:MoF m mo ps) (ho:N6 mo) (hf:X5 mo) (hq:MoQ mo) (hx:Y5 mo x st):a3O vfs 14 [.agg [m.dt,.int .i64 m.g,m.dc,m.dv,m.dp,m.ds,.bool m.b],.agg [x.da,x.dv,x.dc,.int .i64 st.hold]] fun d=>FL 4 d (Y6 (mo.ample st)):=by
 have fm:=a04 hm
 have fx:=a0D hx.f
 have om:=hm.ones
 have ox:=hx.f.ones
 have hxa:=hx.f.a
 have hnp:=ho.np
 have hh:=hx.fit.hold
 have hal:=hx.fit.at'
 have hml:=a4H ho (st:=st)
 obtain ⟨dm,hmv,hfl⟩:=c53 hm ho hf hx
 have oe:=FL.one hfl
 have pe:=FL.pz hfl
 by_cases c1:(mo.moves st).length=0
 ·have e:mo.ample st=[]:=by
   have:mo.moves st=[]:=List.length_eq_zero_iff.1 c1
   unfold Mo.ample
   rw [this]
   repeat' split
   all_goals rfl
  refine a3n (vf:=a30) rfl ?_
  unfold a30;refine zF ?_
  refine zY (aN om (aN ox (aN fm (aN fx (aN hmv (aN hfl c1)))))) ?_
  rw [e]
  refine ⟨_,rfl,?_⟩
  rw [List.length_eq_zero_iff.1 c1] at hfl
  exact hfl
 by_cases c2:st.hold=-1
 rotate_left
 ·have e:mo.ample st=mo.moves st:=by
   unfold Mo.ample
   rw [if_neg (by omega)]
  refine a3n (vf:=a30) rfl ?_
  unfold a30;refine zF ?_
  refine zY (aN om (aN ox (aN fm (aN fx (aN hmv (aN hfl (aN c1 c2))))))) ?_
  rw [e]
  exact ⟨_,rfl,hfl⟩
 have c3:=eq_true c2
 refine a3n (vf:=a30) rfl ?_
 unfold a30;refine zF ?_
 refine zY (aN om (aN ox (aN fm (aN fx (aN hmv (aN hfl (aN c1 c3))))))) ?_
 have hp0:Hp ((k4.empty.push (.cells [m.dt,.int .i64 m.g,m.dc,m.dv,m.dp,m.ds,.bool m.b])).push (.cells [x.da,x.dv,x.dc,.int .i64 st.hold])) [] [(0,[m.dt,.int .i64 m.g,m.dc,m.dv,m.dp,m.ds,.bool m.b]),(1,[x.da,x.dv,x.dc,.int .i64 st.hold])]:=⟨List.nodup_nil,by simp,by simp [Has],by
  intro y hy
  simp only [List.mem_cons,List.not_mem_nil,or_false] at hy
  rcases hy with rfl | rfl
  ·exact zZ0
  ·simp (disch:=(first|exact Rf.mk rfl|with_reducible assumption|omega|((repeat (first|rw [nP]|rw [nS]|rw [M3]))<;>omega)|decide)) only [go_sem,↓reduceIte]⟩
 generalize (k4.empty.push (.cells [m.dt,.int .i64 m.g,m.dc,m.dv,m.dp,m.ds,.bool m.b])).push (.cells [x.da,x.dv,x.dc,.int .i64 st.hold])=s0 at *
 have hg:∀ {s E},Hp s E [(0,[m.dt,.int .i64 m.g,m.dc,m.dv,m.dp,m.ds,.bool m.b]),(1,[x.da,x.dv,x.dc,.int .i64 st.hold])]->s.get 0=some (.cells [m.dt,.int .i64 m.g,m.dc,m.dv,m.dp,m.ds,.bool m.b])/\s.get 1=some (.cells [x.da,x.dv,x.dc,.int .i64 st.hold]):=fun h=>⟨h.r (0,_) (by simp),h.r (1,_) (by simp)⟩
 obtain ⟨g0,g1⟩:=hg hp0
 have l0:=M7 g0
 have l1:=M7 g1
 refine U2 [0,1,2,3,5,21,24,25] 0 mo.procs.length (fun i f s=>f 26=.int .i64 (i:Int)/\s=s0/\∀q,q<i->mo.quiet q (nAt st.at' q)=false) (.mk rfl) (by omega) ⟨rfl,rfl,fun q h=>by omega⟩ ?_
 rintro i f s hi ⟨hE,rfl,hall⟩
 by_cases ci:i<mo.procs.length
 rotate_left
 ·have hF:=b6Z (mo:=mo) (st:=st) fun q h=>hall q (by omega)
  have e:mo.ample st=mo.moves st:=by
   unfold Mo.ample
   rw [hF]
   simp
  refine zY (aN hE (aN ci hal)) ?_
  rw [e]
  exact ⟨_,rfl,hfl⟩
 have ci':i<st.at'.length:=by omega
 have hqb:=b4m hm ho hq (k:=nAt st.at' i) ci
 cases hqv:mo.quiet i (nAt st.at' i)
 ·rw [hqv] at hqb
  refine zY (aN hE (aN ci (aN ci' (aN hal (aN g0 (aN g1 (aN om (aN ox (aN fm hqb))))))))) ?_
  intro q hq'
  by_cases eq:q=i
  ·subst eq;exact hqv
  ·exact hall q (by omega)
 rw [hqv] at hqb
 have hF:=b7W ci hqv hall
 have e:mo.ample st=(mo.moves st).filter (isP i):=by
  unfold Mo.ample isP
  rw [hF,if_pos (by omega)]
 refine zY (aN hE (aN ci (aN ci' (aN hal (aN g0 (aN g1 (aN om (aN ox (aN fm (aN hqb hfl)))))))))) ?_
 refine U2 [0,1,2,3,4,5,6,7,21,24,25,26,27,35,36,37] 0 (mo.moves st).length (fun j f s=>f 38=.int .i64 (j:Int)/\∃E,Rp (f 8) 4 (Y6 (((mo.moves st).take j).filter (isP i))) E/\Hp s E [(0,[m.dt,.int .i64 m.g,m.dc,m.dv,m.dp,m.ds,.bool m.b]),(1,[x.da,x.dv,x.dc,.int .i64 st.hold])]) (.mk rfl) (by omega) ⟨rfl,[],.inl ⟨rfl,rfl,rfl⟩,hp0⟩ ?_
 rintro j f s hj ⟨hE,E,hr,hp⟩
 by_cases cj:j<(mo.moves st).length
 rotate_left
 ·obtain rfl:j=(mo.moves st).length:=by omega
  rw [List.take_length] at hr
  obtain ⟨d',h1,h2⟩:=a4g hr hp (fun e h=>h) (a50 _) (a5u _)
  refine zY (aN hE (aN cj h1)) ?_
  rw [e]
  exact ⟨_,rfl,h2⟩
 have hp2:=hp.fr (a2m (z:=.cells [.int .i64 0,.int .i64 0,.int .i64 0,.int .i64 0]) (o:=.cells [.int .i64 ((S9 (mo.moves st) j).kind:Int),.int .i64 ((S9 (mo.moves st) j).proc:Int),.int .i64 ((S9 (mo.moves st) j).edge:Int),.int .i64 ((S9 (mo.moves st) j).chan:Int)]))
 have hsu:=b2u (P:=isP i) cj
 by_cases k0:((S9 (mo.moves st) j).kind:Int)=0
 rotate_left
 ·have:isP i (S9 (mo.moves st) j)=false:=by
   unfold isP
   rw [decide_eq_false (by omega),Bool.false_and]
  rw [this,if_neg (by simp),List.append_nil] at hsu
  refine zY (aN hE (aN cj (aN hfl k0))) ?_
  rw [hsu]
  exact ⟨E,hr,hp2⟩
 by_cases k1:(S9 (mo.moves st) j).proc=i
 rotate_left
 ·have:isP i (S9 (mo.moves st) j)=false:=by
   unfold isP
   rw [decide_eq_false k1,Bool.and_false]
  rw [this,if_neg (by simp),List.append_nil] at hsu
  refine zY (aN hE (aN cj (aN hfl (aN k0 k1)))) ?_
  rw [hsu]
  rw [k0] at hp2
  exact ⟨E,hr,hp2⟩
 have:isP i (S9 (mo.moves st) j)=true:=by
  unfold isP
  rw [decide_eq_true (by omega),decide_eq_true k1]
  rfl
 rw [this,if_pos rfl] at hsu
 refine zY (aN hE (aN cj (aN hfl (aN k0 k1)))) ?_
 refine a25 (S9 (mo.moves st) j) ?_ hr (hp.fr a2m) (by decide) (by have:=b4j (l:=mo.moves st) (P:=isP i) (j:=j);omega) ?_
 ·unfold Mv.row
  rw [k0,k1]
 rintro d1 s1 E1 hr1 hp1
 refine zY (aN hE cj) ?_
 rw [hsu]
 exact ⟨E1,hr1,hp1⟩
theorem b69 (hm:MoF m mo ps) (ho:N6 mo) (hf:X5 mo) (hq:MoQ mo) (hx:Y5 mo x st):∃d,Eqc vfs 14 [.agg [m.dt,.int .i64 m.g,m.dc,m.dv,m.dp,m.ds,.bool m.b],.agg [x.da,x.dv,x.dc,.int .i64 st.hold]] d/\FL 4 d (Y6 (mo.ample st)):=by
 obtain ⟨d,h1,h2⟩:=c4A hm ho hf hq hx
 exact ⟨d,S5 h1,h2⟩
end Go.Proofs.YtnjlhebkhjcagaaGreat
namespace Go.Proofs.YtnjlhebkhjcagaaGreat
open Go.V
set_option maxRecDepth 100000
set_option maxHeartbeats 4000000
variable {m:MdX} {mo:Mo} {ps:List (Pr×PrD)} {x:StD} {st:Stt}
theorem c6M {f:Nat} {args:List D} {P:Stt->Prop} (h:EvP vfs f args k4.empty fun r s=>∃cs st,r=.agg cs/\a0s s cs st/\P st):∃x st,a1U vfs f args (.agg [x.da,x.dv,x.dc,.int .i64 st.hold])/\StF x st/\P st:=by
 obtain ⟨d,s',h1,cs,st,rfl,h2,h3⟩:=h
 obtain ⟨x,h4,h5⟩:=h2.frz
 exact ⟨x,st,⟨_,_,h1,h4⟩,h5,h3⟩
theorem c2p (hm:MoF m mo ps) (ho:N6 mo) (hf:X5 mo) {d:D} {raw:List Int} (hd:FI d raw) (hraw:∀n∈raw,a0S n):∃x st,Eqc vfs 13 [.agg [m.dt,.int .i64 m.g,m.dc,m.dv,m.dp,m.ds,.bool m.b],d] (.agg [x.da,x.dv,x.dc,.int .i64 st.hold])/\Y5 mo x st/\st.hold=-1:=by
 obtain ⟨x,st,h1,h2,h3,h4⟩:=c6M (c5N hm ho hf hd hraw)
 exact ⟨x,st,S5 h1,⟨h2,a2k hf h3,h3⟩,h4⟩
theorem c0S {da db:D} {a b:List Nat} (ha:FL 1 da (P5 a)) (hb:FL 1 db (P5 b)) (hl:a.length<=1000000):Eqc vfs 50 [da,db] (.bool (decide (a=b))):=by
 have e:∀l:List Nat,P5 l=(l.map fun (n:Nat)=>(n:Int)).map fun n=>[.int .i64 n]:=fun l=>by simp [P5]
 rw [e] at ha hb
 have h:=b1q (a:=a.map fun (n:Nat)=>(n:Int)) (b:=b.map fun (n:Nat)=>(n:Int)) ha hb (by simpa using hl)
 have e2:decide ((a.map fun (n:Nat)=>(n:Int))=b.map fun (n:Nat)=>(n:Int))=decide (a=b):=by
  congr 1
  apply propext
  constructor
  ·intro h
   exact List.map_inj_right (f:=fun (n:Nat)=>(n:Int)) (fun x y h=>by omega) |>.1 h
  ·intro h;rw [h]
 rwa [e2] at h
theorem c38 {x':StD} {st':Stt} (hx:StF x st) (hx':StF x' st') (h1:st.at'.length<=1000) (h2:st.vars.length<=1000) (h3:∀l∈st.chans,l.length<=1000) (h4:st.chans.length<=1000):Eqc vfs 24 [.agg [x.da,x.dv,x.dc,.int .i64 st.hold],.agg [x'.da,x'.dv,x'.dc,.int .i64 st'.hold]] (.bool (decide (st=st'))):=by
 refine S5 ?_
 have ox:=hx.ones
 have ox':=hx'.ones
 have p1:=hx.a.pz
 have p2:=hx'.a.pz
 have p3:=a4U hx.v
 have p4:=a4U hx'.v
 have i1:=c0S hx.a hx'.a (by omega)
 have i2:=b1q hx.v hx'.v (by omega)
 refine P0 (vf:=a8S) rfl ?_
 unfold a8S;refine zF ?_
 refine zY (aN ox (aN ox' (aN i1 i2))) ?_
 repeat' (first|(refine Y4 (fun c=>?_) (fun c=>?_)<;>(try simp only [U6,U7,U4,U5] at c)<;>simp (disch:=(first|exact Rf.mk rfl|with_reducible assumption|omega|((repeat (first|rw [nP]|rw [nS]|rw [M3]))<;>omega)|decide)) only [go_sem,↓reduceIte,ox,ox',i1,i2,c])|(refine Y7 (fun c=>?_) (fun c=>?_)<;>(try simp only [U6,U7,U4,U5] at c)<;>simp (disch:=(first|exact Rf.mk rfl|with_reducible assumption|omega|((repeat (first|rw [nP]|rw [nS]|rw [M3]))<;>omega)|decide)) only [go_sem,↓reduceIte,ox,ox',i1,i2,c]))
 ·exact (decide_eq_false fun h=>c (by rw [h])).symm
 ·exact (decide_eq_false fun h=>c (by rw [h])).symm
 ·exact (decide_eq_false fun h=>c (by rw [h])).symm
 ·exact (decide_eq_false fun h=>c (by rw [h])).symm
 rename_i ca cv cl
 refine U2 [0,1,2,3,35] 0 st.chans.length (fun i f s=>f 5=.int .i64 (i:Int)/\s=((k4.empty.push (.cells [x.da,x.dv,x.dc,.int .i64 st'.hold])).push (.cells [x'.da,x'.dv,x'.dc,.int .i64 st'.hold]))/\∀j,j<i->cAt st.chans j=cAt st'.chans j) (.mk rfl) (by omega) ⟨rfl,rfl,fun j h=>by omega⟩ ?_
 rintro i f s hi ⟨hE,rfl,hj⟩
 by_cases ci:i<st.chans.length
 ·have ci':i<st'.chans.length:=by omega
  have q1:=a4U (a3q hx ci)
  have q2:=a4U (a3q hx' ci')
  have i3:=b1q (a3q hx ci) (a3q hx' ci') (by have:=h3 _ (a55 ci);omega)
  refine zY (aN ox (aN ox' (aN hE (aN ci (aN ci' (aN i3 (aN q1 q2))))))) ?_
  repeat' (first|(refine Y4 (fun c=>?_) (fun c=>?_)<;>(try simp only [U6,U7,U4,U5] at c)<;>simp (disch:=(first|exact Rf.mk rfl|with_reducible assumption|omega|((repeat (first|rw [nP]|rw [nS]|rw [M3]))<;>omega)|decide)) only [go_sem,↓reduceIte,ox,ox',hE,ci,ci',i3,q1,q2,c])|(refine Y7 (fun c=>?_) (fun c=>?_)<;>(try simp only [U6,U7,U4,U5] at c)<;>simp (disch:=(first|exact Rf.mk rfl|with_reducible assumption|omega|((repeat (first|rw [nP]|rw [nS]|rw [M3]))<;>omega)|decide)) only [go_sem,↓reduceIte,ox,ox',hE,ci,ci',i3,q1,q2,c]))
  ·exact (decide_eq_false fun h=>c (by rw [h])).symm
  ·intro j hj'
   by_cases e:j=i
   ·subst e;exact c
   ·exact hj j (by omega)
 ·have e:i=st.chans.length:=by omega
  have hl:¬ i<st.chans.length:=by omega
  refine zY (aN ox (aN ox' (aN hE hl))) ?_
  symm
  rw [decide_eq_true_eq]
  have e1:st.chans=st'.chans:=List.ext_getElem cl fun j h1 h2=>by
   rw [<- a1x h1,<- a1x h2];exact hj j (by omega)
  cases st;cases st';simp_all
end Go.Proofs.YtnjlhebkhjcagaaGreat
namespace Go.Proofs.YtnjlhebkhjcagaaGreat
open Go.V
set_option maxRecDepth 100000
set_option maxHeartbeats 4000000
variable {m:MdX} {mo:Mo} {ps:List (Pr×PrD)} {x:StD} {st:Stt}
theorem b6h {d:D} {t:List Nd} (hT:N8 d t):∃d',Eqc vfs 12 [d] d'/\b1M t d':=by
 have pT:PZ d:=hT.fl.pz
 obtain ⟨b,hb,_⟩:=c2B hT
 have hb:=a2w hb rfl
 cases b
 ·refine ⟨.tup [.agg [.nils,.int .i64 0,.nils,.nils,.nils,.nils,.bool false],.bool false],S5 ?_,.inl rfl⟩
  refine P0 (vf:=a3l) rfl ?_
  unfold a3l;refine zF ?_
  refine zY (aN pT hb) ?_
  rfl
 obtain ⟨c,hc,hR⟩:=b7m hT
 have hc:=a2w hc rfl
 cases c
 ·refine ⟨.tup [.agg [.nils,.int .i64 0,.nils,.nils,.nils,.nils,.bool false],.bool false],S5 ?_,.inl rfl⟩
  refine P0 (vf:=a3l) rfl ?_
  unfold a3l;refine zF ?_
  refine zY (aN pT (aN hb hc)) ?_
  rfl
 obtain ⟨r,s1,d',h1,h2,h3⟩:=c4s hT (hR rfl)
 have hmk:Eqc vfs 34 [d] d':=S5 ⟨_,_,h1,h2⟩
 refine ⟨d',S5 ?_,h3⟩
 rcases h3 with rfl | ⟨m,ps,rfl,hR,hS,hY,hm⟩
 ·refine P0 (vf:=a3l) rfl ?_
  unfold a3l;refine zF ?_
  refine zY (aN pT (aN hb (aN hc hmk))) ?_
  rfl
 ·have om:=hm.ones
  have fm:=a04 hm
  unfold N7 at hmk ⊢
  refine P0 (vf:=a3l) rfl ?_
  unfold a3l;refine zF ?_
  refine zY (aN pT (aN hb (aN hc (aN hmk om)))) ?_
  trivial
theorem b8P (mo:Mo) (st:Stt):mo.ample st=mo.moves st∨∃i,st.hold<0/\mo.firstQ st=some i/\mo.quiet i (nAt st.at' i)=true/\mo.ample st=(mo.moves st).filter (isP i):=by
 unfold Mo.ample
 split
 ·rename_i hh
  cases hF:mo.firstQ st with
  | none=>exact .inl rfl
  | some i =>
    have hqi:mo.quiet i (nAt st.at' i)=true:=by
     have:=List.find?_some hF
     exact this
    exact .inr ⟨i,hh,rfl,hqi,rfl⟩
 ·exact .inl rfl
end Go.Proofs.YtnjlhebkhjcagaaGreat
