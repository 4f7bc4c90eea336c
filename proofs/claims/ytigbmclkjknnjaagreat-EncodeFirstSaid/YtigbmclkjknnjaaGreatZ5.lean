/- Texts one behind the other. -/
import Derived.Test.YtigbmclkjknnjaaGreatZ3
import Derived.Test.YtigbmclkjknnjaaGreatZ1
import Derived.Test.YtigbmclkjknnjaaGreatVt
set_option linter.unusedSimpArgs false
set_option linter.unusedVariables false
set_option maxRecDepth 100000
set_option maxHeartbeats 8000000
namespace Go.V
section
variable {fs:FuncId->Option U3}
def a4D (fs:FuncId->Option U3) (f:FuncId) (args:List D) (d:D):Prop:=∃r s1,Ev fs f args k4.empty r s1/\aL s1.get 20 r=some d
theorem a4D.det {f:FuncId} {args:List D} {d d':D} (h:a4D fs f args d) (k:a4D fs f args d'):d=d':=by
 obtain ⟨r,s1,h1,h2⟩:=h;obtain ⟨r',s1',k1,k2⟩:=k;obtain ⟨rfl,rfl⟩:=h1.det k1;rw [h2] at k2;exact Option.some.inj k2
def PZ (d:D):Prop:=a0Y d=true/\Fz d
theorem FL.pz {sz:Nat} {d:D} {rows:List (List D)} (h:FL sz d rows):PZ d:=⟨h.pure,h.fz⟩
theorem a9a {l:List D} (h:∀d∈l,a0Y d=true/\∀g n,aL g (n+2) d=some d):PZ (.agg l):=⟨by
 show aJ l=true
 induction l with
 | nil=>rfl
 | cons a r ih=>simp only [aJ,(h a (by simp)).1,Bool.true_and];exact ih fun d hd=>h d (by simp [hd]),b9k fun d hd=>(h d hd).2⟩
def End (Q:a1n->q8->k4->Prop) (e:a1n) (env:q8) (s:k4):Prop:=Q e env s
def RgK (vars:List Nat) (Q:a1n->q8->k4->Prop) (env:q8) (s:k4):Prop:=End Q .normal (env.aF vars) s
abbrev Kt:=q8->k4->Prop
abbrev cM:=List (Nat×Z3)
abbrev bG:=List (Nat×Nat)
def a7z (ae:bG) (ops:cM):Bool:=ops.all fun o=>ae.all fun p=>p.2 != o.1
def XQ (fs:FuncId->Option U3):bG->cM->q8->k4->Kt->Prop
 | _,[],env,s,K=>K env s
 | ae,(i,⟨dst,op,g⟩)::rest,env,s,K =>
   let run:Prop:=match dst,op with
    | some t,.p o=>match bH env o with
      | some d=>XQ fs ae rest ((t,d)::env) s K
      | none=>False
    | some t,.r o=>match cO env s.get o with
      | some d=>XQ fs ae rest ((t,d)::env) s K
      | none=>False
    | some t,.a o=>match ae with
      | []=>match dW env o with
        | some (ob,m)=>XQ fs [] rest ((t,m.at s.next)::env) (s.push ob) K
        | none=>False
      | p::ps=>if a7z (p::ps) ((i,⟨some t,.a o,none⟩)::rest)=true then (match dW env o with
        | some (ob,m)=>XQ fs [] rest ((t,m.at s.next)::env) (s.push ob) K
        | none=>False) else WQ fs (p::ps) ((i,⟨some t,.a o,none⟩)::rest) env s K
    | none,.w n a v=>match ae with
      | []=>match dh env s.get n a v with
        | some (id,ob)=>XQ fs [] rest env (s.set id (some ob)) K
        | none=>False
      | p::ps=>if a7z (p::ps) ((i,⟨none,.w n a v,none⟩)::rest)=true then (match dh env s.get n a v with
        | some (id,ob)=>XQ fs [] rest env (s.set id (some ob)) K
        | none=>False) else WQ fs (p::ps) ((i,⟨none,.w n a v,none⟩)::rest) env s K
    | some t,.m o=>match o,ae with
      | .call .fF (.aG (.fn f [])) args,ae=>match X2 (aL s.get 20) (env.aP args) with
        | some l=>∃d,a4D fs f l d/\(a2d d||aJ (env.aP args))=true/\XQ fs ae rest ((t,d)::env) s K
        | none=>False
      | .append sz bytes a x,[]=>match Z6 sz bytes (env.ev a) (env.ev x) s with
        | some (d,s')=>XQ fs [] rest ((t,d)::env) s' K
        | none=>False
      | .append sz bytes a x,p::ps=>if a7z (p::ps) ((i,⟨some t,.m (.append sz bytes a x),none⟩)::rest)=true then (match Z6 sz bytes (env.ev a) (env.ev x) s with
        | some (d,s')=>XQ fs [] rest ((t,d)::env) s' K
        | none=>False) else WQ fs (p::ps) ((i,⟨some t,.m (.append sz bytes a x),none⟩)::rest) env s K
      | o,ae=>WQ fs ae ((i,⟨some t,.m o,none⟩)::rest) env s K
    | dst,op=>WQ fs ae ((i,⟨dst,op,none⟩)::rest) env s K
   match g with
   | none=>run
   | some (r,b)=>Way (env.get r) b run (XQ fs ae rest (env.put dst (.aR [])) s K)
def BP (r:Option D) (fs:FuncId->Option U3) (ae:bG) (t:Nat) (rest:cM) (env:q8) (s:k4) (K:Kt):Prop:=match r with
 | some d=>XQ fs ae rest ((t,d)::env) s K
 | none=>False
def BA (r:Option (Y1×a0f)) (fs:FuncId->Option U3) (t:Nat) (rest:cM) (env:q8) (s:k4) (K:Kt):Prop:=match r with
 | some (ob,m)=>XQ fs [] rest ((t,m.at s.next)::env) (s.push ob) K
 | none=>False
def BW (r:Option (Nat×Y1)) (fs:FuncId->Option U3) (rest:cM) (env:q8) (s:k4) (K:Kt):Prop:=match r with
 | some (id,ob)=>XQ fs [] rest env (s.set id (some ob)) K
 | none=>False
def BM (r:Option (D×k4)) (fs:FuncId->Option U3) (t:Nat) (rest:cM) (env:q8) (K:Kt):Prop:=match r with
 | some (d,s)=>XQ fs [] rest ((t,d)::env) s K
 | none=>False
def BC (fs:FuncId->Option U3) (f:FuncId) (l:List D) (p:Bool) (ae:bG) (t:Nat) (rest:cM) (env:q8) (s:k4) (K:Kt):Prop:=∃d,a4D fs f l d/\(a2d d||p)=true/\XQ fs ae rest ((t,d)::env) s K
def BL (r:Option (List D)) (p:Bool) (fs:FuncId->Option U3) (f:FuncId) (ae:bG) (t:Nat) (rest:cM) (env:q8) (s:k4) (K:Kt):Prop:=match r with
 | some l=>BC fs f l p ae t rest env s K
 | none=>False
def BF (b:Bool) (d:D) (fs:FuncId->Option U3) (ae:bG) (t:Nat) (rest:cM) (env:q8) (s:k4) (K:Kt):Prop:=match b with
 | true=>XQ fs ae rest ((t,d)::env) s K
 | false=>False
def GW (d:D) (b:Bool) (fs:FuncId->Option U3) (ae:bG) (x:Nat×Z3) (t:Option Nat) (rest:cM) (env:q8) (s:k4) (K:Kt):Prop:=Way d b (XQ fs ae (x::rest) env s K) (XQ fs ae rest (env.put t (.aR [])) s K)
def NeId (a b:Nat):Prop:=a≠b
def a2b (id:Nat):List Nat->Prop
 | []=>True
 | x::r=>NeId id x/\a2b id r
theorem b1c {id:Nat}:∀ {l:List Nat},a2b id l->id∉l
 | [],_=>by simp
 | x::r,h=>by
   have:=b1c h.2;have h1:id≠x:=h.1;simp [h1,this]
def a1r:bG->Nat->Nat->Bool
 | [],_,_=>false
 | (a,b)::r,i,j=>match Nat.beq a i with
   | true=>match Nat.beq b j with
     | true=>true
     | false=>a1r r i j
   | false=>a1r r i j
theorem a87:∀ {l:bG} {i j:Nat},(i,j)∈l->a1r l i j=true
 | (a,b)::r,i,j,h=>by
   simp only [a1r];rcases List.mem_cons.1 h with h | h
   ·cases h
    have e:∀n:Nat,Nat.beq n n=true:=fun n=>Nat.beq_refl n
    rw [e,e]
   ·have ih:=a87 h
    split
    ·split
     ·rfl
     ·exact ih
    ·exact ih
def a18 (ae:bG) (i id:Nat):List bN->Prop
 | []=>True
 | e::T=>(a1r ae e.i i=true->a2b id e.eff)/\a18 ae i id T
theorem b4L {ae:bG} {i id:Nat}:∀ {T:List bN},a18 ae i id T->∀e∈T,(e.i,i)∈ae->id∉e.eff
 | e::T,h,x,hx,hp=>by
   rcases List.mem_cons.1 hx with rfl | hx
   ·exact b1c (h.1 (a87 hp))
   ·exact b4L h.2 x hx hp
def NeO (r:Option Nat) (id:Nat):Prop:=match r with
 | some x=>NeId x id
 | none=>True
def a4N (ae:bG) (i id:Nat):List bN->Prop
 | []=>True
 | e::T=>(a1r ae e.i i=true->NeO e.rd id/\a2b id e.eff)/\a4N ae i id T
theorem b6j {ae:bG} {i id:Nat}:∀ {T:List bN},a4N ae i id T->∀e∈T,(e.i,i)∈ae->e.rd≠some id/\id∉e.eff
 | e::T,h,x,hx,hp=>by
   rcases List.mem_cons.1 hx with rfl | hx
   ·obtain ⟨h1,h2⟩:=h.1 (a87 hp)
    refine ⟨fun he=>?_,b1c h2⟩;rw [he] at h1;exact h1 rfl
   ·exact b6j h.2 x hx hp
def a4E (ae:bG) (i:Nat) (E:List Nat):List bN->Prop
 | []=>True
 | e::T=>(a1r ae e.i i=true->match e.rd with | some x=>a2b x E | none=>True)/\a4E ae i E T
theorem b52 {ae:bG} {i:Nat} {E:List Nat}:∀ {T:List bN},a4E ae i E T->∀e∈T,(e.i,i)∈ae->∀id,e.rd=some id->id∉E
 | e::T,h,x,hx,hp,id,hr=>by
   rcases List.mem_cons.1 hx with rfl | hx
   ·have h1:=h.1 (a87 hp)
    rw [hr] at h1;exact b1c h1
   ·exact b52 h.2 x hx hp id hr
def XX (fs:FuncId->Option U3) (ae:bG):List bN->cM->q8->k4->Kt->Prop
 | _,[],env,s,K=>K env s
 | T,(i,⟨dst,op,g⟩)::rest,env,s,K =>
   let run:Prop:=match dst,op with
    | some t,.p o=>match bH env o with
      | some d=>XX fs ae T rest ((t,d)::env) s K
      | none=>False
    | some t,.r (.load n x)=>match env.ev x with
      | .fp cs off=>match bk s.get n (.fp cs off) with
        | some d=>XX fs ae T rest ((t,d)::env) s K
        | none=>False
      | .ptr id off=>match bk s.get n (.ptr id off) with
        | some d=>a18 ae i id T/\XX fs ae (⟨i,some id,[]⟩::T) rest ((t,d)::env) s K
        | none=>False
      | _=>False
    | some t,.a o=>match dW env o with
      | some (ob,m)=>XX fs ae (⟨i,none,[s.next]⟩::T) rest ((t,m.at s.next)::env) (s.push ob) K
      | none=>False
    | none,.w n a v=>match env.ev a with
      | .ptr id _=>match dh env s.get n a v with
        | some (iA,ob)=>iA=id/\a4N ae i id T/\XX fs ae (⟨i,some id,[id]⟩::T) rest env (s.set id (some ob)) K
        | none=>False
      | _=>False
    | some t,.m (.call .fF (.aG (.fn f [])) args)=>match X2 (aL s.get 20) (env.aP args) with
      | some l=>∃d,a4D fs f l d/\(a2d d||aJ (env.aP args))=true/\XX fs ae T rest ((t,d)::env) s K
      | none=>False
    | some t,.m (.append sz bytes a x)=>∃d s' E,Z6 sz bytes (env.ev a) (env.ev x) s=some (d,s')/\s.next<=s'.next/\(∀id,id∉E->s.get id=s'.get id)/\a4E ae i E T/\XX fs ae (⟨i,none,E⟩::T) rest ((t,d)::env) s' K
    | dst,op=>WX fs ae T ((i,⟨dst,op,none⟩)::rest) env s K
   match g with
   | none=>run
   | some (r,b)=>Way (env.get r) b run (XX fs ae T rest (env.put dst (.aR [])) s K)
theorem c21 {ae T i t o r b rest s Q} {env:q8} {d:D} (hw:env.get r=d)
 (h:Way d b (WX fs ae T ((i,⟨t,o,none⟩)::rest) env s Q) (WX fs ae T rest (env.put t (.aR [])) s Q)):WX fs ae T ((i,⟨t,o,some (r,b)⟩)::rest) env s Q:=by
 unfold Way at h;split at h
 ·rename_i c
  by_cases hc:c=b
  ·rw [if_pos hc] at h;subst hc
   intro tr ht;obtain ⟨n,gQ,s',h1,h2⟩:=h tr ht;refine ⟨n,gQ,s',?_,h2⟩;simp only [a01,a2c,hw,beq_self_eq_true] at h1 ⊢;exact h1
  ·rw [if_neg hc] at h
   exact b9B (by simp only [a2c,hw];cases c<;>cases b<;>simp_all) h
 ·exact b9B (by simp only [a2c,hw]) h
 ·exact h.elim
theorem a4p {ae:bG}:∀ {T:List bN} {ops:cM} {env:q8} {s:k4} {K:Kt},XX fs ae T ops env s K->WX fs ae T ops env s K
 | T,[],env,s,K,h=>wx_nil h
 | T,(i,⟨dst,op,g⟩)::rest,env,s,K,h=>by
   have key:∀ (h:XX fs ae T ((i,⟨dst,op,none⟩)::rest) env s K),WX fs ae T ((i,⟨dst,op,none⟩)::rest) env s K:=by
    intro h;unfold XX at h;simp only at h;split at h
    ·split at h
     ·rename_i d e;exact wx_p e (a4p h)
     ·exact h.elim
    ·split at h
     ·rename_i e
      split at h
      ·rename_i d e2;exact wx_fp e e2 (a4p h)
      ·exact h.elim
     ·rename_i e
      split at h
      ·rename_i d e2;exact wx_ld e e2 (b4L h.1) (a4p h.2)
      ·exact h.elim
     ·exact h.elim
    ·split at h
     ·rename_i ob m e;exact wx_a e (a4p h)
     ·exact h.elim
    ·split at h
     ·rename_i e
      split at h
      ·rename_i iA ob e2
       obtain ⟨rfl,h2,h3⟩:=h;exact wx_w e e2 (b6j h2) (a4p h3)
      ·exact h.elim
     ·exact h.elim
    ·split at h
     ·rename_i l hl
      obtain ⟨d,⟨r,s1,h1,h2⟩,h3,h4⟩:=h;exact wx_iso rfl hl h1 h2 h3 (a4p h4)
     ·exact h.elim
    ·obtain ⟨d,s',E,h1,h2,h3,h4,h5⟩:=h
     exact b1j ⟨0,by simp only [bZ];exact h1⟩ h3 h2 (b52 h4) (a4p h5)
    ·exact h
   cases g with
   | none=>exact key h
   | some rb =>
     obtain ⟨r,b⟩:=rb;refine c21 (d:=env.get r) rfl ?_;have h':Way (env.get r) b (XX fs ae T ((i,⟨dst,op,none⟩)::rest) env s K) (XX fs ae T rest (env.put dst (.aR [])) s K):=h;unfold Way at h' ⊢;split at h'
     ·rename_i c _
      split at h'
      ·rename_i hc;simp only [hc,if_true];exact key h'
      ·rename_i hc;simp only [hc,if_false];exact a4p h'
     ·exact a4p h'
     ·exact h'
def RX (fs:FuncId->Option U3) (ae:bG) (ops:cM) (env:q8) (s:k4) (K:Kt):Prop:=match ae with
 | []=>XQ fs [] ops env s K
 | p::ps=>XX fs (p::ps) [] ops env s K
def b4Y (k:q8->k4->Prop) (Q:a1n->q8->k4->Prop):a1n->q8->k4->Prop
 | .normal,env,s=>k env s
 | e,env,s=>Q e env s
def YW (fs:FuncId->Option U3) (vars:List Nat):a1a->(a1n->q8->k4->Prop)->q8->k4->Prop
 | .skip,Q,env,s=>End Q .normal env s
 | .region r,Q,env,s=>RX fs r.ae r.ops env s (RgK vars Q)
 | .seq a b,Q,env,s=>YW fs vars a (b4Y (YW fs vars b Q) Q) env s
 | .cond c x y,Q,env,s=>a4O (env.ev c) (YW fs vars x Q env s) (YW fs vars y Q env s)
 | .block id b,Q,env,s=>YW fs vars b (a0j id Q) env s
 | .loop b,Q,env,s=>WP fs vars (.loop b) env s Q
 | .exit id,Q,env,s=>End Q (.exit id) env s
 | .ret,Q,env,s=>End Q .ret env s
def a84 (fs:FuncId->Option U3) (vars:List Nat) (b:a1a) (Q:a1n->q8->k4->Prop):a1n->q8->k4->Prop
 | .normal,env,s=>YW fs vars b Q env s
 | e,env,s=>Q e env s
theorem a3b:∀ {ae:bG} {ops:cM} {env:q8} {s:k4} {K:Kt},XQ fs ae ops env s K->WQ fs ae ops env s K
 | ae,[],env,s,K,h=>b5Y h
 | ae,(i,⟨dst,op,g⟩)::rest,env,s,K,h=>by
   have key:∀ (h:XQ fs ae ((i,⟨dst,op,none⟩)::rest) env s K),WQ fs ae ((i,⟨dst,op,none⟩)::rest) env s K:=by
    intro h;unfold XQ at h;simp only at h;split at h
    ·split at h
     ·rename_i d e;exact b0h e (a3b h)
     ·exact h.elim
    ·split at h
     ·rename_i d e;exact vq_r e (a3b h)
     ·exact h.elim
    ·split at h
     ·split at h
      ·rename_i ob m e;exact vq_a e (a3b h)
      ·exact h.elim
     ·split at h
      ·rename_i hf
       refine b1v hf ?_;split at h
       ·rename_i ob m e;exact vq_a e (a3b h)
       ·exact h.elim
      ·exact h
    ·split at h
     ·split at h
      ·rename_i ob m e;exact a91 e (a3b h)
      ·exact h.elim
     ·split at h
      ·rename_i hf
       refine b1v hf ?_;split at h
       ·rename_i ob m e;exact a91 e (a3b h)
       ·exact h.elim
      ·exact h
    ·split at h
     ·split at h
      ·rename_i l hl
       obtain ⟨d,⟨r,s1,h1,h2⟩,h3,h4⟩:=h;exact b7W hl h1 h2 h3 (a3b h4)
      ·exact h.elim
     ·split at h
      ·rename_i d s' e;exact b3d e (a3b h)
      ·exact h.elim
     ·split at h
      ·rename_i hf
       refine b1v hf ?_;split at h
       ·rename_i d s' e;exact b3d e (a3b h)
       ·exact h.elim
      ·exact h
     ·exact h
    ·exact h
   cases g with
   | none=>exact key h
   | some rb =>
     obtain ⟨r,b⟩:=rb;refine vq_g (d:=env.get r) rfl ?_;have h':Way (env.get r) b (XQ fs ae ((i,⟨dst,op,none⟩)::rest) env s K) (XQ fs ae rest (env.put dst (.aR [])) s K):=h;unfold Way at h' ⊢;split at h'
     ·rename_i c _
      split at h'
      ·rename_i hc;simp only [hc,if_true];exact key h'
      ·rename_i hc;simp only [hc,if_false];exact a3b h'
     ·exact a3b h'
     ·exact h'
theorem a7h {vars:List Nat}:∀ {c:a1a} {Q:a1n->q8->k4->Prop} {env:q8} {s:k4},YW fs vars c Q env s->WP fs vars c env s Q
 | .skip,_,_,_,h=>b5R h
 | .region ⟨ops,[],dr⟩,Q,_,_,h=>b5k (a3b h)
 | .region ⟨ops,p::ps,dr⟩,Q,_,_,h=>vw_rgx (a4p h)
 | .seq a b,Q,env,s,h=>by
   refine b8u ((a7h (c:=a) h).mono fun e env s h=>?_);cases e with
   | normal=>exact a7h (c:=b) h
   | exit id=>exact h
   | ret=>exact h
 | .cond c x y,Q,env,s,h=>by
   refine b5K (d:=env.ev c) rfl ?_;have h':a4O (env.ev c) (YW fs vars x Q env s) (YW fs vars y Q env s):=h;unfold a4O at h' ⊢;split at h'
   ·split at h'
    ·rename_i hc;simp only [hc,if_true];exact a7h h'
    ·rename_i hc;simp only [hc];exact a7h h'
   ·exact h'
 | .block id b,Q,env,s,h=>b54 (a7h (c:=b) h)
 | .loop b,Q,env,s,h=>h
 | .exit id,_,_,_,h=>b6s h
 | .ret,_,_,_,h=>b6L h
theorem b93 {vars b Q}:b4Y (YW fs vars b Q) Q=a84 fs vars b Q:=by
 funext e env s
 cases e<;>rfl
theorem c2i {vars Q env s}:YW fs vars .skip Q env s=End Q .normal env s:=Eq.trans rfl rfl
theorem yw_seq {vars a b Q env s}:YW fs vars (.seq a b) Q env s=YW fs vars a (a84 fs vars b Q) env s:=by rw [<- b93];rfl
def CW (d:D) (fs:FuncId->Option U3) (vars:List Nat) (x y:a1a) (Q:a1n->q8->k4->Prop) (env:q8) (s:k4):Prop:=a4O d (YW fs vars x Q env s) (YW fs vars y Q env s)
theorem c1b {vars c x y Q env s}:YW fs vars (.cond c x y) Q env s=CW (env.ev c) fs vars x y Q env s:=Eq.trans rfl rfl
theorem c1f {vars id b Q env s}:YW fs vars (.block id b) Q env s=YW fs vars b (a0j id Q) env s:=Eq.trans rfl rfl
theorem c4M {vars id Q env s}:YW fs vars (.exit id) Q env s=End Q (.exit id) env s:=Eq.trans rfl rfl
theorem c4l {vars b Q env s}:YW fs vars (.loop b) Q env s=WP fs vars (.loop b) env s Q:=Eq.trans rfl rfl
theorem yw_ret {vars Q env s}:YW fs vars .ret Q env s=End Q .ret env s:=Eq.trans rfl rfl
theorem xq_nil {ae vars Q env s}:XQ fs ae [] env s (RgK vars Q)=End Q .normal (env.aF vars) s:=Eq.trans rfl rfl
theorem xq_g {ae i t o r b rest env s K}:XQ fs ae ((i,⟨t,o,some (r,b)⟩)::rest) env s K=GW (env.get r) b fs ae (i,⟨t,o,none⟩) t rest env s K:=Eq.trans rfl rfl
theorem xq_i {ae i t f args rest env s K}:XQ fs ae ((i,⟨some t,.m (.call .fF (.aG (.fn f [])) args),none⟩)::rest) env s K=BL (X2 (aL s.get 20) (env.aP args)) (aJ (env.aP args)) fs f ae t rest env s K:=by
 unfold XQ BL BC;cases ae<;>rfl
theorem xq_c {ae i t f args rest env s K}:XQ fs ae ((i,⟨some t,.m (.call .raw f args),none⟩)::rest) env s K=WQ fs ae ((i,⟨some t,.m (.call .raw f args),none⟩)::rest) env s K:=by cases ae<;>rfl
theorem xq_ap {i t sz bytes a x rest env s K}:XQ fs [] ((i,⟨some t,.m (.append sz bytes a x),none⟩)::rest) env s K=BM (Z6 sz bytes (env.ev a) (env.ev x) s) fs t rest env K:=Eq.trans rfl rfl
theorem bp_s {d ae t rest env s K}:BP (some d) fs ae t rest env s K=XQ fs ae rest ((t,d)::env) s K:=Eq.trans rfl rfl
theorem ba_p {ob t rest env s K}:BA (some (ob,.ptr)) fs t rest env s K=XQ fs [] rest ((t,.ptr s.next 0)::env) (s.push ob) K:=Eq.trans rfl rfl
theorem ba_r {ob t rest env s K l sz}:BA (some (ob,.arr l sz)) fs t rest env s K=XQ fs [] rest ((t,.arr s.next 0 l sz)::env) (s.push ob) K:=Eq.trans rfl rfl
theorem ba_m {ob t rest env s K}:BA (some (ob,.map)) fs t rest env s K=XQ fs [] rest ((t,.map s.next)::env) (s.push ob) K:=Eq.trans rfl rfl
theorem bw_s {id ob rest env s K}:BW (some (id,ob)) fs rest env s K=XQ fs [] rest env (s.set id (some ob)) K:=Eq.trans rfl rfl
theorem bm_s {d s t rest env K}:BM (some (d,s)) fs t rest env K=XQ fs [] rest ((t,d)::env) s K:=Eq.trans rfl rfl
theorem bl_s {l p f ae t rest env s K}:BL (some l) p fs f ae t rest env s K=BC fs f l p ae t rest env s K:=Eq.trans rfl rfl
theorem bf_t {d ae t rest env s K}:BF true d fs ae t rest env s K=XQ fs ae rest ((t,d)::env) s K:=Eq.trans rfl rfl
theorem cw_t {vars x y Q env s}:CW (.bool true) fs vars x y Q env s=YW fs vars x Q env s:=by simp [CW,a4O]
theorem cw_f {vars x y Q env s}:CW (.bool false) fs vars x y Q env s=YW fs vars y Q env s:=by simp [CW,a4O]
theorem gw_tt {ae x t rest env s K}:GW (.bool true) true fs ae x t rest env s K=XQ fs ae (x::rest) env s K:=by simp [GW,Way]
theorem gw_ff {ae x t rest env s K}:GW (.bool false) false fs ae x t rest env s K=XQ fs ae (x::rest) env s K:=by simp [GW,Way]
theorem gw_tf {ae x t rest env s K}:GW (.bool true) false fs ae x t rest env s K=XQ fs ae rest (env.put t (.aR [])) s K:=by simp [GW,Way]
theorem gw_ft {ae x t rest env s K}:GW (.bool false) true fs ae x t rest env s K=XQ fs ae rest (env.put t (.aR [])) s K:=by simp [GW,Way]
theorem gw_u {b ae x t rest env s K}:GW (.aR []) b fs ae x t rest env s K=XQ fs ae rest (env.put t (.aR [])) s K:=Eq.trans rfl rfl
theorem put_s {env:q8} {t d}:env.put (some t) d=(t,d)::env:=Eq.trans rfl rfl
theorem en_tn {vars b Q env s}:End (a84 fs vars b Q) .normal env s=YW fs vars b Q env s:=Eq.trans rfl rfl
theorem en_te {vars b Q id env s}:End (a84 fs vars b Q) (.exit id) env s=End Q (.exit id) env s:=Eq.trans rfl rfl
theorem en_tr {vars b Q env s}:End (a84 fs vars b Q) .ret env s=End Q .ret env s:=Eq.trans rfl rfl
theorem en_on {id Q env s}:End (a0j id Q) .normal env s=End Q .normal env s:=Eq.trans rfl rfl
theorem en_or {id Q env s}:End (a0j id Q) .ret env s=End Q .ret env s:=Eq.trans rfl rfl
theorem en_oe {id iA Q env s}:End (a0j id Q) (.exit iA) env s=if iA=id then End Q .normal env s else End Q (.exit iA) env s:=Eq.trans rfl rfl
theorem a6u {b:Bool} {vars x y Q env s} (h1:b=true->YW fs vars x Q env s) (h2:b=false->YW fs vars y Q env s):CW (.bool b) fs vars x y Q env s:=by
 cases b
 ·rw [cw_f];exact h2 rfl
 ·rw [cw_t];exact h1 rfl
theorem a7r {c b:Bool} {ae x t rest env s K} (h1:c=true->GW (.bool true) b fs ae x t rest env s K) (h2:c=false->GW (.bool false) b fs ae x t rest env s K):GW (.bool c) b fs ae x t rest env s K:=by
 cases c
 ·exact h2 rfl
 ·exact h1 rfl
theorem ic_nil {g:a0k} {n:Nat}:X2 (aL g (n+1)) []=some []:=Eq.trans rfl rfl
theorem ic_int {g:a0k} {n:Nat} {k:IntKind} {x:Int} {l:List D}:X2 (aL g (n+1)) (.int k x::l)=(X2 (aL g (n+1)) l).map (.int k x::·):=by
 simp only [X2,aL];cases X2 (aL g (n+1)) l<;>rfl
theorem c36 {g:a0k} {n:Nat} {x:Bool} {l:List D}:X2 (aL g (n+1)) (.bool x::l)=(X2 (aL g (n+1)) l).map (.bool x::·):=by
 simp only [X2,aL];cases X2 (aL g (n+1)) l<;>rfl
theorem ic_str {g:a0k} {n:Nat} {x:ByteArray} {l:List D}:X2 (aL g (n+1)) (.str x::l)=(X2 (aL g (n+1)) l).map (.str x::·):=by
 simp only [X2,aL];cases X2 (aL g (n+1)) l<;>rfl
theorem ic_pz {g:a0k} {n:Nat} {d:D} {l:List D} (h:PZ d):X2 (aL g (n+3)) (d::l)=(X2 (aL g (n+3)) l).map (d::·):=by
 simp only [X2,h.2 g n];cases X2 (aL g (n+3)) l<;>rfl
theorem pd_pz {d:D} (h:PZ d):a0Y d=true:=h.1
theorem pl_nil:aJ []=true:=Eq.trans rfl rfl
theorem c3l {d:D} {l:List D}:aJ (d::l)=(a0Y d&&aJ l):=Eq.trans rfl rfl
theorem pd_int {k:IntKind} {n:Int}:a0Y (.int k n)=true:=Eq.trans rfl rfl
theorem c3k {b:Bool}:a0Y (.bool b)=true:=Eq.trans rfl rfl
theorem pd_str {b:ByteArray}:a0Y (.str b)=true:=Eq.trans rfl rfl
theorem sd_int {k:IntKind} {n:Int}:a2d (.int k n)=true:=Eq.trans rfl rfl
theorem c3p {b:Bool}:a2d (.bool b)=true:=Eq.trans rfl rfl
theorem sd_agg {l:List D}:a2d (.agg l)=bj l:=Eq.trans rfl rfl
theorem sd_tup {l:List D}:a2d (.aR l)=bj l:=Eq.trans rfl rfl
theorem sl_nil:bj []=true:=Eq.trans rfl rfl
theorem c4i {d:D} {l:List D}:bj (d::l)=(a2d d&&bj l):=Eq.trans rfl rfl
theorem c4R {g:a0k} {n:Nat} {k:IntKind} {x:Int}:aL g (n+1) (.int k x)=some (.int k x):=Eq.trans rfl rfl
theorem c3g {g:a0k} {n:Nat} {x:Bool}:aL g (n+1) (.bool x)=some (.bool x):=Eq.trans rfl rfl
theorem c18 {g:a0k} {n:Nat} {l:List D}:aL g (n+1) (.aR l)=(X2 (aL g n) l).map .aR:=Eq.trans rfl rfl
theorem res_1 {env:q8} {s:k4} {x}:a04 env s [x]=a1t env s x:=by
 unfold a04 a1g;cases a1t env s x<;>rfl
theorem res_2 {env:q8} {s:k4} {x y l}:a04 env s (x::y::l)=(a1g env s (x::y::l)).map .aR:=by
 unfold a04;simp only [a1g];cases a1t env s x<;>cases a1t env s y<;>cases a1g env s l<;>rfl
theorem res_n {env:q8} {s:k4}:a1g env s []=some []:=Eq.trans rfl rfl
theorem res_c {env:q8} {s:k4} {x l}:a1g env s (x::l)=(a1t env s x).bind fun d=>(a1g env s l).map (d::·):=by
 simp only [a1g];cases a1t env s x<;>cases a1g env s l<;>rfl
theorem res_o {env:q8} {s:k4} {t}:a1t env s (t,none)=some (env.get t):=Eq.trans rfl rfl
def b1F (s:k4) (n:Option Nat):D->Option D
 | .ptr id off=>bk s.get n (.ptr id off)
 | _=>none
theorem res_s {env:q8} {s:k4} {t n}:a1t env s (t,some n)=b1F s n (env.get t):=by
 simp only [a1t,b1F];cases h:env.get t<;>rfl
theorem res_l {s:k4} {n id off}:b1F s n (.ptr id off)=bk s.get n (.ptr id off):=Eq.trans rfl rfl
def a8V (res:List (Nat×Option (Option Nat))) (P:D->k4->Prop):a1n->q8->k4->Prop:=fun e env s=>(e=.normal∨e=.ret)/\∃d,a04 env s res=some d/\P d s
def RB (r:Option D) (s:k4) (P:D->k4->Prop):Prop:=match r with
 | some d=>P d s
 | none=>False
theorem rq_r {res P env s}:End (a8V res P) .ret env s=RB (a04 env s res) s P:=by
 unfold End a8V RB;apply propext;cases a04 env s res<;>simp
theorem rb_of {d s} {P:D->k4->Prop} (h:P d s):RB (some d) s P:=h
def IceQ (x:D):D->k4->Prop:=fun r s=>aL s.get 20 r=some x
theorem rb_i {d s x}:RB (some d) s (IceQ x)=(aL s.get 20 d=some x):=Eq.trans rfl rfl
def IceP (P:D->Prop):D->k4->Prop:=fun r s=>∃d,aL s.get 20 r=some d/\P d
theorem rb_p {d s P}:RB (some d) s (IceP P)=∃x,aL s.get 20 d=some x/\P x:=Eq.trans rfl rfl
theorem X4 {f:FuncId} {vf:U3} {args:List D} {s:k4} {P:D->k4->Prop} (hf:fs f=some vf) (h:YW fs vf.vars vf.code (a8V vf.res P) (vf.vars.map fun t=>(t,args.getD t .undef)) s):X9 fs f args s P:=V9 hf (a7h h)
theorem a02 {f:FuncId} {vf:U3} {args:List D} {d:D} (hf:fs f=some vf) (h:YW fs vf.vars vf.code (a8V vf.res (IceQ d)) (vf.vars.map fun t=>(t,args.getD t .undef)) k4.empty):a4D fs f args d:=by
 obtain ⟨r,s1,h1,h2⟩:=X4 hf h;exact ⟨r,s1,h1,h2⟩
def a52 (fs:FuncId->Option U3) (f:FuncId) (args:List D) (P:D->Prop):Prop:=∃d,a4D fs f args d/\P d
theorem a6x {f:FuncId} {vf:U3} {args:List D} {P:D->Prop} (hf:fs f=some vf) (h:YW fs vf.vars vf.code (a8V vf.res (IceP P)) (vf.vars.map fun t=>(t,args.getD t .undef)) k4.empty):a52 fs f args P:=by
 obtain ⟨r,s1,h1,d,h2,h3⟩:=X4 hf h;exact ⟨d,⟨r,s1,h1,h2⟩,h3⟩
theorem a0D {i t f args rest s K} {env:q8} {l:List D} {P:D->k4->Prop} (hr:X9 fs f l s P) (ha:env.aP args=l)
 (h:∀d s',P d s'->XQ fs [] rest ((t,d)::env) s' K):WQ fs [] ((i,⟨some t,.m (.call .raw (.aG (.fn f [])) args),none⟩)::rest) env s K:=a03 hr ha fun d s' hp=>a3b (h d s' hp)
inductive Rf {α:Type} (a b:α):Prop where
 | mk (h:a=b)
def a7t:q8->Nat->Option D
 | [],_=>none
 | (s,d)::r,t=>match Nat.beq s t with
   | true=>some d
   | false=>a7t r t
theorem b05:∀ {env:q8} {t:Nat} {d:D},a7t env t=some d->env.get t=d
 | [],_,_,h=>by simp [a7t] at h
 | (s,d)::r,t,d',h=>by
   simp only [a7t] at h;split at h
   ·rename_i e
    have:=Nat.eq_of_beq_eq_true e;cases h;simp only [q8.get,this,if_true]
   ·rename_i e
    have:s≠t:=fun he=>by subst he;simp at e
    simp only [q8.get,this,if_false];exact b05 h
theorem get_is {env:q8} {t:Nat} {d:D} (h:Rf (a7t env t) (some d)):q8.get env t=d:=b05 h.1
def a5N:List Nat->q8->Option q8
 | [],_=>some []
 | t::r,env=>match a7t env t with
   | some d=>match a5N r env with
     | some l=>some ((t,d)::l)
     | none=>none
   | none=>none
theorem a8k:∀ {vars:List Nat} {env e:q8},a5N vars env=some e->env.aF vars=e
 | [],_,_,h=>by simp [a5N] at h;exact h.symm
 | t::r,env,e,h=>by
   simp only [a5N] at h;split at h
   ·rename_i d hd
    split at h
    ·rename_i l hl
     cases h;show (t,env.get t)::env.aF r=_
     rw [b05 hd,a8k hl]
    ·cases h
   ·cases h
theorem c0R {vars:List Nat} {env e:q8} (h:Rf (a5N vars env) (some e)):env.aF vars=e:=a8k h.1
def a68 (vars l:List Nat) (e0:q8) (f:Nat->D):q8:=vars.map fun t=>(t,if l.contains t then e0.get t else f t)
def b0L:List Nat->Nat->Bool
 | [],_=>false
 | s::r,t=>match Nat.beq s t with
   | true=>true
   | false=>b0L r t
theorem b64:∀ {l:List Nat} {t:Nat},b0L l t=l.contains t
 | [],_=>rfl
 | s::r,t=>by
   simp only [b0L,List.contains_cons];split
   ·rename_i e
    have:=Nat.eq_of_beq_eq_true e;simp [this]
   ·rename_i e
    have:(t==s)=false:=by
     rw [beq_eq_false_iff_ne];intro he;subst he;simp at e
    rw [this,Bool.false_or];exact b64
def a7O:List Nat->List Nat->q8->(Nat->D)->Option q8
 | [],_,_,_=>some []
 | t::r,l,e0,f=>match b0L l t with
   | true=>match a7t e0 t with
     | some d=>match a7O r l e0 f with
       | some e=>some ((t,d)::e)
       | none=>none
     | none=>none
   | false=>match a7O r l e0 f with
     | some e=>some ((t,f t)::e)
     | none=>none
theorem b1M:∀ {vars l:List Nat} {e0 e:q8} {f:Nat->D},a7O vars l e0 f=some e->a68 vars l e0 f=e
 | [],_,_,_,_,h=>by simp [a7O] at h;exact h.symm
 | t::r,l,e0,e,f,h=>by
   simp only [a7O] at h;show (t,if l.contains t then e0.get t else f t)::a68 r l e0 f=e
   rw [<- b64];split at h
   ·rename_i hb
    split at h
    ·rename_i d hd
     split at h
     ·rename_i e' he
      cases h;rw [hb,if_pos rfl,b05 hd,b1M he]
     ·cases h
    ·cases h
   ·rename_i hb
    split at h
    ·rename_i e' he
     cases h;rw [hb,if_neg (by simp),b1M he]
    ·cases h
theorem c3M {vars l:List Nat} {e0 e:q8} {f:Nat->D} (h:Rf (a7O vars l e0 f) (some e)):a68 vars l e0 f=e:=b1M h.1
def a6w (vars l:List Nat) (e0 e:q8):Prop:=e.aF vars=e/\e.aF l=e0.aF l
theorem c4O {vars l:List Nat} {e0 e x:q8} (h1:Rf (a5N vars e) (some e)) (h2:Rf (a5N l e0) (some x)) (h3:Rf (a5N l e) (some x)):a6w vars l e0 e=True:=eq_true ⟨a8k h1.1,by rw [a8k h2.1,a8k h3.1]⟩
theorem b9N {l:List Nat} {e e0:q8} (h:e.aF l=e0.aF l) {t:Nat} (ht:t∈l):e.get t=e0.get t:=by
 unfold q8.aF at h;have:=List.map_inj_left.1 h t ht;simpa using this
theorem b6Y {vars l:List Nat} {e0 e:q8} (h:a6w vars l e0 e):e=a68 vars l e0 fun t=>e.get t:=by
 conv=>lhs;rw [<- h.1]
 unfold q8.aF a68;refine List.map_congr_left fun t _=>?_
 by_cases ht:t∈l
 ·rw [if_pos (List.contains_iff_mem.2 ht),b9N h.2 ht]
 ·rw [if_neg (by simpa using ht)]
abbrev It:=Nat->(Nat->D)->k4->Prop
def UpQ (vars l:List Nat) (e0:q8) (n i:Nat) (I:It) (Q:a1n->q8->k4->Prop):a1n->q8->k4->Prop
 | .normal,env,s=>a6w vars l e0 env/\i<n/\I (i+1) (fun t=>env.get t) s
 | e,env,s=>Q e env s
theorem uq_n {vars l e0 n i I Q env s}:End (UpQ vars l e0 n i I Q) .normal env s=(a6w vars l e0 env/\i<n/\I (i+1) (fun t=>env.get t) s):=Eq.trans rfl rfl
theorem uq_e {vars l e0 n i I Q id env s}:End (UpQ vars l e0 n i I Q) (.exit id) env s=End Q (.exit id) env s:=Eq.trans rfl rfl
theorem uq_r {vars l e0 n i I Q env s}:End (UpQ vars l e0 n i I Q) .ret env s=End Q .ret env s:=Eq.trans rfl rfl
theorem c4v {vars l:List Nat} {e:q8} (h:Rf (a5N vars e) (some e)):a6w vars l e e:=⟨a8k h.1,rfl⟩
theorem X5 {vars b Q iJ s0} (l:List Nat) (a n:Nat) (I:It) (h1:Rf (a5N vars iJ) (some iJ)) (ha:a<=n) (h0:I a (fun t=>iJ.get t) s0) (hs:∀i f s,i<=n->I i f s->YW fs vars b (UpQ vars l iJ n i I Q) (a68 vars l iJ f) s):WP fs vars (.loop b) iJ s0 Q:=by
 refine a1c (fun k env s=>∃i,i<=n/\k=n-i/\a6w vars l iJ env/\I i (fun t=>env.get t) s) ?_ (n-a) _ _ ⟨a,ha,rfl,c4v h1,h0⟩;rintro k env s ⟨i,hi,rfl,hk,hI⟩;have:=hs i _ s hi hI;rw [<- b6Y hk] at this;refine (a7h this).mono fun e gQ s' h=>?_
 cases e with
 | normal =>
   obtain ⟨h1,h2,h3⟩:=h;exact ⟨n-(i+1),by omega,i+1,by omega,rfl,h1,h3⟩
 | exit id=>exact h
 | ret=>exact h
def CutQ (vars l:List Nat) (e0:q8) (P:(Nat->D)->k4->Prop) (Q:a1n->q8->k4->Prop):a1n->q8->k4->Prop
 | .normal,env,s=>a6w vars l e0 env/\P (fun t=>env.get t) s
 | e,env,s=>Q e env s
theorem cq_n {vars l e0 P Q env s}:End (CutQ vars l e0 P Q) .normal env s=(a6w vars l e0 env/\P (fun t=>env.get t) s):=Eq.trans rfl rfl
theorem a1H {vars c Q env s id} (l:List Nat) (P:(Nat->D)->k4->Prop) (h:WP fs vars c env s (a0j id (CutQ vars l env P Q))) (k:∀f s,P f s->End Q .normal (a68 vars l env f) s):WP fs vars c env s (a0j id Q):=by
 have key:∀gQ s,CutQ vars l env P Q .normal gQ s->Q .normal gQ s:=fun gQ s h=>by
  have:=k _ s h.2;rw [<- b6Y h.1] at this;exact this
 refine WP.mono h fun e gQ s h=>?_
 cases e with
 | normal=>exact key _ _ h
 | exit iA =>
   simp only [a0j] at h ⊢;by_cases hc:iA=id
   ·rw [if_pos hc] at h ⊢;exact key _ _ h
   ·rw [if_neg hc] at h ⊢;exact h
 | ret=>exact h
theorem ev_tmp {env:q8} {t:Nat}:env.ev (.tmp t)=env.get t:=Eq.trans rfl rfl
theorem ev_cst {env:q8} {d:D}:env.ev (.aG d)=d:=Eq.trans rfl rfl
theorem ww_q {ae i t o rest env s K}:XQ fs ae (xq i t o::rest) env s K=BP (bH env o) fs ae t rest env s K:=Eq.trans rfl rfl
theorem ww_g {ae i t o g b rest env s K}:XQ fs ae (xg i t o g b::rest) env s K=GW (env.get g) b fs ae (xq i t o) (some t) rest env s K:=Eq.trans rfl rfl
theorem ww_m {ae i t x rest env s K}:XQ fs ae (xm i t x::rest) env s K=BP (some (env.get x)) fs ae t rest env s K:=Eq.trans rfl rfl
theorem ww_mg {ae i t x g b rest env s K}:XQ fs ae (xmg i t x g b::rest) env s K=GW (env.get g) b fs ae (xm i t x) (some t) rest env s K:=Eq.trans rfl rfl
theorem ww_c {ae i t d rest env s K}:XQ fs ae (xc i t d::rest) env s K=XQ fs ae rest ((t,d)::env) s K:=Eq.trans rfl rfl
theorem ww_l {ae i t n x rest env s K}:XQ fs ae (xl i t n x::rest) env s K=BP (bk s.get n (env.get x)) fs ae t rest env s K:=by
 rw [<- show env.ev (.tmp x)=env.get x from rfl,<- a8C];rfl
theorem ww_lg {ae i t n x g b rest env s K}:XQ fs ae (xlg i t n x g b::rest) env s K=GW (env.get g) b fs ae (xl i t n x) (some t) rest env s K:=Eq.trans rfl rfl
theorem ww_f {ae i t off x rest env s K}:XQ fs ae (xf i t off x::rest) env s K=BP (bH env (.cm off (.tmp x))) fs ae t rest env s K:=Eq.trans rfl rfl
theorem ww_fg {ae i t off x g b rest env s K}:XQ fs ae (xfg i t off x g b::rest) env s K=GW (env.get g) b fs ae (xf i t off x) (some t) rest env s K:=Eq.trans rfl rfl
theorem ww_a0 {i t o rest env s K}:XQ fs [] (xa i t o::rest) env s K=BA (dW env o) fs t rest env s K:=Eq.trans rfl rfl
theorem ww_w0 {i n a v rest env s K}:XQ fs [] (xw i n a v::rest) env s K=BW (dh env s.get n (.tmp a) v) fs rest env s K:=Eq.trans rfl rfl
theorem ww_i {ae i t f args rest env s K}:XQ fs ae (xi i t f args::rest) env s K=BL (X2 (aL s.get 20) (env.aP args)) (aJ (env.aP args)) fs f ae t rest env s K:=xq_i
theorem ww_ig {ae i t f args g b rest env s K}:XQ fs ae (aZ i t f args g b::rest) env s K=GW (env.get g) b fs ae (xi i t f args) (some t) rest env s K:=Eq.trans rfl rfl
theorem ww_k {ae i t f args rest env s K}:XQ fs ae (xk i t f args::rest) env s K=WQ fs ae (xk i t f args::rest) env s K:=xq_c
theorem ww_o {ae i t o g rest env s K}:XQ fs ae (xo i t o g::rest) env s K=XQ fs ae ((i,⟨t,o,g⟩)::rest) env s K:=Eq.trans rfl rfl
theorem wy_r {vars l Q env s}:YW fs vars (xr l) Q env s=XQ fs [] l env s (RgK vars Q):=Eq.trans rfl rfl
theorem wy_rp {vars l b Q env s}:YW fs vars (xrp l [] b) Q env s=XQ fs [] l env s (RgK vars Q):=Eq.trans rfl rfl
theorem wy_rx {vars l p ps b Q env s}:YW fs vars (xrp l (p::ps) b) Q env s=XX fs (p::ps) [] l env s (RgK vars Q):=Eq.trans rfl rfl
theorem Z2:k4.empty.next=0:=Eq.trans rfl rfl
def BX (r:Option D) (fs:FuncId->Option U3) (ae:bG) (T:List bN) (t:Nat) (rest:cM) (env:q8) (s:k4) (K:Kt):Prop:=match r with
 | some d=>XX fs ae T rest ((t,d)::env) s K
 | none=>False
def BD (d:D) (n:Option Nat) (i:Nat) (fs:FuncId->Option U3) (ae:bG) (T:List bN) (t:Nat) (rest:cM) (env:q8) (s:k4) (K:Kt):Prop:=match d with
 | .fp cs off=>match bk s.get n (.fp cs off) with
   | some d=>XX fs ae T rest ((t,d)::env) s K
   | none=>False
 | .ptr id off=>match bk s.get n (.ptr id off) with
   | some d=>a18 ae i id T/\XX fs ae (⟨i,some id,[]⟩::T) rest ((t,d)::env) s K
   | none=>False
 | _=>False
def BE (C:Prop) (r:Option D) (fs:FuncId->Option U3) (ae:bG) (T:List bN) (t:Nat) (rest:cM) (env:q8) (s:k4) (K:Kt):Prop:=C/\BX r fs ae T t rest env s K
def AX (r:Option (Y1×a0f)) (i:Nat) (fs:FuncId->Option U3) (ae:bG) (T:List bN) (t:Nat) (rest:cM) (env:q8) (s:k4) (K:Kt):Prop:=match r with
 | some (ob,m)=>XX fs ae (⟨i,none,[s.next]⟩::T) rest ((t,m.at s.next)::env) (s.push ob) K
 | none=>False
def UX (d:D) (r:Option (Nat×Y1)) (i:Nat) (fs:FuncId->Option U3) (ae:bG) (T:List bN) (rest:cM) (env:q8) (s:k4) (K:Kt):Prop:=match d with
 | .ptr id _=>match r with
   | some (iA,ob)=>iA=id/\a4N ae i id T/\XX fs ae (⟨i,some id,[id]⟩::T) rest env (s.set id (some ob)) K
   | none=>False
 | _=>False
def VX (C:Prop) (fs:FuncId->Option U3) (ae:bG) (T:List bN) (rest:cM) (env:q8) (s:k4) (K:Kt):Prop:=C/\XX fs ae T rest env s K
def MX (d x:D) (sz bytes i:Nat) (fs:FuncId->Option U3) (ae:bG) (T:List bN) (t:Nat) (rest:cM) (env:q8) (s:k4) (K:Kt):Prop:=∃d' s' E,Z6 sz bytes d x s=some (d',s')/\s.next<=s'.next/\(∀id,id∉E->s.get id=s'.get id)/\a4E ae i E T/\XX fs ae (⟨i,none,E⟩::T) rest ((t,d')::env) s' K
def CX (fs:FuncId->Option U3) (f:FuncId) (l:List D) (p:Bool) (ae:bG) (T:List bN) (t:Nat) (rest:cM) (env:q8) (s:k4) (K:Kt):Prop:=∃d,a4D fs f l d/\(a2d d||p)=true/\XX fs ae T rest ((t,d)::env) s K
def LX (r:Option (List D)) (p:Bool) (fs:FuncId->Option U3) (f:FuncId) (ae:bG) (T:List bN) (t:Nat) (rest:cM) (env:q8) (s:k4) (K:Kt):Prop:=match r with
 | some l=>CX fs f l p ae T t rest env s K
 | none=>False
def GX (d:D) (b:Bool) (fs:FuncId->Option U3) (ae:bG) (T:List bN) (x:Nat×Z3) (t:Option Nat) (rest:cM) (env:q8) (s:k4) (K:Kt):Prop:=Way d b (XX fs ae T (x::rest) env s K) (XX fs ae T rest (env.put t (.aR [])) s K)
def FX (b:Bool) (d:D) (fs:FuncId->Option U3) (ae:bG) (T:List bN) (t:Nat) (rest:cM) (env:q8) (s:k4) (K:Kt):Prop:=match b with
 | true=>XX fs ae T rest ((t,d)::env) s K
 | false=>False
abbrev ca (fs:FuncId->Option U3) (f:FuncId) (l:List D) (d:D):Prop:=(∀p ae t rest env s K,BC fs f l p ae t rest env s K=BF (a2d d||p) d fs ae t rest env s K)/\∀p ae T t rest env s K,CX fs f l p ae T t rest env s K=FX (a2d d||p) d fs ae T t rest env s K
theorem a0F {f:FuncId} {args:List D} {d:D} (h:a4D fs f args d):ca fs f args d:=by
 refine ⟨fun p ae t rest env s K=>propext ⟨?_,fun hk=>?_⟩,fun p ae T t rest env s K=>propext ⟨?_,fun hk=>?_⟩⟩
 ·rintro ⟨d',h1,h2,h3⟩
  obtain rfl:=h.det h1;unfold BF;rw [h2];exact h3
 ·unfold BF at hk
  split at hk
  ·rename_i hs;exact ⟨d,h,hs,hk⟩
  ·exact hk.elim
 ·rintro ⟨d',h1,h2,h3⟩
  obtain rfl:=h.det h1;unfold FX;rw [h2];exact h3
 ·unfold FX at hk
  split at hk
  ·rename_i hs;exact ⟨d,h,hs,hk⟩
  ·exact hk.elim
theorem fx_t {d ae T t rest env s K}:FX true d fs ae T t rest env s K=XX fs ae T rest ((t,d)::env) s K:=Eq.trans rfl rfl
theorem xx_nil {ae T vars Q env s}:XX fs ae T [] env s (RgK vars Q)=End Q .normal (env.aF vars) s:=Eq.trans rfl rfl
theorem xx_i {ae T i t f args rest env s K}:XX fs ae T ((i,⟨some t,.m (.call .fF (.aG (.fn f [])) args),none⟩)::rest) env s K=LX (X2 (aL s.get 20) (env.aP args)) (aJ (env.aP args)) fs f ae T t rest env s K:=by
 unfold XX LX CX;rfl
theorem xx_m {ae T i t sz bytes a x rest env s K}:XX fs ae T ((i,⟨some t,.m (.append sz bytes a x),none⟩)::rest) env s K=MX (env.ev a) (env.ev x) sz bytes i fs ae T t rest env s K:=Eq.trans rfl rfl
theorem xx_c {ae T i t f args rest env s K}:XX fs ae T ((i,⟨some t,.m (.call .raw f args),none⟩)::rest) env s K=WX fs ae T ((i,⟨some t,.m (.call .raw f args),none⟩)::rest) env s K:=Eq.trans rfl rfl
theorem bx_s {d ae T t rest env s K}:BX (some d) fs ae T t rest env s K=XX fs ae T rest ((t,d)::env) s K:=Eq.trans rfl rfl
theorem bd_f {cs off n i ae T t rest env s K}:BD (.fp cs off) n i fs ae T t rest env s K=BX (bk s.get n (.fp cs off)) fs ae T t rest env s K:=by
 unfold BD BX;rfl
theorem bd_p {id off n i ae T t rest env s K}:BD (.ptr id off) n i fs ae T t rest env s K=BE (a18 ae i id T) (bk s.get n (.ptr id off)) fs ae (⟨i,some id,[]⟩::T) t rest env s K:=by
 unfold BD BE BX;simp only;cases bk s.get n (.ptr id off) with
 | some d=>rfl
 | none=>simp
theorem be_t {r ae T t rest env s K}:BE True r fs ae T t rest env s K=BX r fs ae T t rest env s K:=by simp [BE]
theorem ax_r {ob l sz i ae T t rest env s K}:AX (some (ob,.arr l sz)) i fs ae T t rest env s K=XX fs ae (⟨i,none,[s.next]⟩::T) rest ((t,.arr s.next 0 l sz)::env) (s.push ob) K:=Eq.trans rfl rfl
theorem ux_s {id off ob i ae T rest env s K}:UX (.ptr id off) (some (id,ob)) i fs ae T rest env s K=VX (a4N ae i id T) fs ae (⟨i,some id,[id]⟩::T) rest env (s.set id (some ob)) K:=by
 unfold UX VX;simp
theorem vx_t {ae T rest env s K}:VX True fs ae T rest env s K=XX fs ae T rest env s K:=by simp [VX]
theorem lx_s {l p f ae T t rest env s K}:LX (some l) p fs f ae T t rest env s K=CX fs f l p ae T t rest env s K:=Eq.trans rfl rfl
theorem gx_ff {ae T x t rest env s K}:GX (.bool false) false fs ae T x t rest env s K=XX fs ae T (x::rest) env s K:=by simp [GX,Way]
theorem gx_tf {ae T x t rest env s K}:GX (.bool true) false fs ae T x t rest env s K=XX fs ae T rest (env.put t (.aR [])) s K:=by simp [GX,Way]
theorem wz_q {ae T i t o rest env s K}:XX fs ae T (xq i t o::rest) env s K=BX (bH env o) fs ae T t rest env s K:=Eq.trans rfl rfl
theorem wz_g {ae T i t o g b rest env s K}:XX fs ae T (xg i t o g b::rest) env s K=GX (env.get g) b fs ae T (xq i t o) (some t) rest env s K:=Eq.trans rfl rfl
theorem wz_m {ae T i t x rest env s K}:XX fs ae T (xm i t x::rest) env s K=BX (some (env.get x)) fs ae T t rest env s K:=Eq.trans rfl rfl
theorem wz_l {ae T i t n x rest env s K}:XX fs ae T (xl i t n x::rest) env s K=BD (env.get x) n i fs ae T t rest env s K:=Eq.trans rfl rfl
theorem wz_lg {ae T i t n x g b rest env s K}:XX fs ae T (xlg i t n x g b::rest) env s K=GX (env.get g) b fs ae T (xl i t n x) (some t) rest env s K:=Eq.trans rfl rfl
theorem wz_f {ae T i t off x rest env s K}:XX fs ae T (xf i t off x::rest) env s K=BX (bH env (.cm off (.tmp x))) fs ae T t rest env s K:=Eq.trans rfl rfl
theorem wz_fg {ae T i t off x g b rest env s K}:XX fs ae T (xfg i t off x g b::rest) env s K=GX (env.get g) b fs ae T (xf i t off x) (some t) rest env s K:=Eq.trans rfl rfl
theorem wz_a {ae T i t o rest env s K}:XX fs ae T (xa i t o::rest) env s K=AX (dW env o) i fs ae T t rest env s K:=Eq.trans rfl rfl
theorem wz_w {ae T i n a v rest env s K}:XX fs ae T (xw i n a v::rest) env s K=UX (env.get a) (dh env s.get n (.tmp a) v) i fs ae T rest env s K:=Eq.trans rfl rfl
theorem wz_i {ae T i t f args rest env s K}:XX fs ae T (xi i t f args::rest) env s K=LX (X2 (aL s.get 20) (env.aP args)) (aJ (env.aP args)) fs f ae T t rest env s K:=xx_i
theorem wz_ig {ae T i t f args g b rest env s K}:XX fs ae T (aZ i t f args g b::rest) env s K=GX (env.get g) b fs ae T (xi i t f args) (some t) rest env s K:=Eq.trans rfl rfl
theorem wz_k {ae T i t f args rest env s K}:XX fs ae T (xk i t f args::rest) env s K=WX fs ae T (xk i t f args::rest) env s K:=xx_c
theorem wz_o {ae T i t o g rest env s K}:XX fs ae T (xo i t o g::rest) env s K=XX fs ae T ((i,⟨t,o,g⟩)::rest) env s K:=Eq.trans rfl rfl
theorem lo_n {ae i id}:a18 ae i id []=True:=Eq.trans rfl rfl
theorem lo_0 {ae i id a r E T} (h:Rf (a1r ae a i) false):a18 ae i id (⟨a,r,E⟩::T)=a18 ae i id T:=by simp [a18,h.1]
theorem lo_1 {ae i id a r E T} (h:Rf (a1r ae a i) true):a18 ae i id (⟨a,r,E⟩::T)=(a2b id E/\a18 ae i id T):=by simp [a18,h.1]
theorem wo_n {ae i id}:a4N ae i id []=True:=Eq.trans rfl rfl
theorem wo_0 {ae i id a r E T} (h:Rf (a1r ae a i) false):a4N ae i id (⟨a,r,E⟩::T)=a4N ae i id T:=by simp [a4N,h.1]
attribute [go_sem] fx_t wy_rx xx_nil xx_i xx_m xx_c bx_s bd_f bd_p be_t ax_r ux_s vx_t lx_s gx_ff gx_tf wz_q wz_g wz_m wz_l wz_lg wz_f wz_fg wz_a wz_w wz_i wz_ig wz_k wz_o lo_n lo_0 lo_1 wo_n wo_0
attribute [go_sem] Nat.reduceLT Z2 ww_q ww_g ww_m ww_mg ww_c ww_l ww_lg ww_f ww_fg ww_a0 ww_w0 ww_i ww_ig ww_k ww_o wy_r wy_rp
attribute [go_sem] c2i yw_seq c1b c1f c4l c4M yw_ret xq_nil xq_g xq_i xq_c xq_ap bp_s bl_s ba_p ba_r ba_m bw_s bm_s bf_t cw_t cw_f gw_tt gw_ff gw_tf gw_ft gw_u en_tn en_te en_tr en_on en_or en_oe c0R get_is c3M c4O ev_tmp ev_cst put_s
attribute [go_sem] ic_nil ic_int c36 ic_str ic_pz pd_pz pl_nil c3l pd_int c3k pd_str sd_int c3p sd_agg sd_tup sl_nil c4i c4R c3g c18 res_1 res_2 res_n res_c res_o res_s res_l rq_r rb_i rb_p Option.some.injEq D.aR.injEq D.int.injEq D.bool.injEq D.agg.injEq D.str.injEq List.cons.injEq uq_n uq_e uq_r cq_n Option.bind Bool.or_true Bool.true_or
theorem c1B {vars c Q env gQ s s'} (h:env=gQ) (h':s=s'):YW fs vars c Q env s=YW fs vars c Q gQ s':=by rw [h,h']
theorem c1A {ae ops K env gQ s s'} (h:env=gQ) (h':s=s'):XQ fs ae ops env s K=XQ fs ae ops gQ s' K:=by rw [h,h']
theorem c22 {Q e env gQ s s'} (h:env=gQ) (h':s=s'):End Q e env s=End Q e gQ s':=by rw [h,h']
theorem c2b {r r' ae t rest env s K} (h:r=r'):BP r fs ae t rest env s K=BP r' fs ae t rest env s K:=by rw [h]
theorem c5f {r r' p p' f ae t rest env s K} (h:r=r') (h':p=p'):BL r p fs f ae t rest env s K=BL r' p' fs f ae t rest env s K:=by rw [h,h']
theorem b97 {r r' t rest env K} (h:r=r'):BM r fs t rest env K=BM r' fs t rest env K:=by rw [h]
theorem c17 {r r' d ae t rest env s K} (h:r=r'):BF r d fs ae t rest env s K=BF r' d fs ae t rest env s K:=by rw [h]
theorem c4S {d d' vars x y Q env s} (h:d=d'):CW d fs vars x y Q env s=CW d' fs vars x y Q env s:=by rw [h]
theorem c4z {d d' b ae x t rest env s K} (h:d=d'):GW d b fs ae x t rest env s K=GW d' b fs ae x t rest env s K:=by rw [h]
theorem c2n {b b' d ae T t rest env s K} (h:b=b'):FX b d fs ae T t rest env s K=FX b' d fs ae T t rest env s K:=by rw [h]
theorem c1P {ae T ops K env gQ s s'} (h:env=gQ) (h':s=s'):XX fs ae T ops env s K=XX fs ae T ops gQ s' K:=by rw [h,h']
theorem c2r {r r' ae T t rest env s K} (h:r=r'):BX r fs ae T t rest env s K=BX r' fs ae T t rest env s K:=by rw [h]
theorem c5i {r r' n i ae T t rest env s K} (h:r=r'):BD r n i fs ae T t rest env s K=BD r' n i fs ae T t rest env s K:=by rw [h]
theorem c5d {C C' ae T rest env s K} (hc:C=C'):VX C fs ae T rest env s K=VX C' fs ae T rest env s K:=by rw [hc]
theorem c1r {d d' x x' sz bytes i ae T t rest env s s' K} (h:d=d') (h2:x=x') (h3:s=s'):MX d x sz bytes i fs ae T t rest env s K=MX d' x' sz bytes i fs ae T t rest env s' K:=by rw [h,h2,h3]
theorem c2W {f l l' p p' ae T t rest env s K} (h:l=l') (h2:p=p'):LX l p fs f ae T t rest env s K=LX l' p' fs f ae T t rest env s K:=by rw [h,h2]
theorem c1x {d d' b ae T x t rest env s K} (h:d=d'):GX d b fs ae T x t rest env s K=GX d' b fs ae T x t rest env s K:=by rw [h]
attribute [congr] c2n c1P c2r c5i c5d c1r c2W c1x
attribute [congr] c1B c1A c22 c2b c5f b97 c17 c4S c4z
theorem zF {P Q:Prop} (k:Q) (h:P=Q:=by
 simp only [xn,j0,t5,t4,t3,M9,M8,M7,M6,M5,M4,M3,M1,N9,N8,N7,N6,N5,N4,N3,N2,N1,O9,O8,O7,O6,O5,O4,O3,O2,O1,O0,P9,P8,P7,P6,P5,P4,P3,P2,P1,P0,Q9,Q8,Q7,Q6,Q5,Q4,Q3,Q2,Q1,Q0,S9,S8,S7,S6,S5,S4,S2,S1,S0,T9,T8,List.cons_append,List.nil_append,List.append_nil,List.map_cons,List.map_nil,List.range'_succ,List.range'_zero,Nat.reduceAdd,Nat.reduceSub,List.map,List.getD,List.getElem?_cons_zero,List.getElem?_cons_succ,List.getElem?_nil,Option.getD];exact rfl):P:=h.mpr k
theorem V6 {P Q:Prop} (k:Q) (h:P=Q:=by
 simp (maxSteps:=1000000) (disch:=(first|exact Rf.mk rfl|with_reducible assumption|omega|((repeat (first|rw [nP]|rw [nS]|rw [Z2]))<;>omega)|decide)) only [go_sem,↓reduceIte];exact rfl):P:=h.mpr k
theorem zY {F P Q:Prop} (f:F) (k:Q) (h:F->P=Q:=by
 intro f;simp (maxSteps:=1000000) (disch:=(first|exact Rf.mk rfl|with_reducible assumption|omega|((repeat (first|rw [nP]|rw [nS]|rw [Z2]))<;>omega)|decide)) only [go_sem,↓reduceIte,f];exact rfl):P:=(h f).mpr k
theorem zZ0 {P:Prop} (h:P:=by simp (maxSteps:=1000000) (disch:=(first|exact Rf.mk rfl|with_reducible assumption|omega|((repeat (first|rw [nP]|rw [nS]|rw [Z2]))<;>omega)|decide)) only [go_sem,↓reduceIte]):P:=h
theorem zZ {F P:Prop} (f:F) (h:F->P:=by
 intro f;simp (maxSteps:=1000000) (disch:=(first|exact Rf.mk rfl|with_reducible assumption|omega|((repeat (first|rw [nP]|rw [nS]|rw [Z2]))<;>omega)|decide)) only [go_sem,↓reduceIte,f]):P:=h f
end
section
def bc (l:List Ed) (i:Nat):Ed:=l.getD i default
def cd (l:List Vr) (i:Nat):Vr:=l.getD i default
def bAt (l:List Bool) (i:Nat):Bool:=l.getD i false
def U4 (l:List Pr) (i:Nat):Pr:=l.getD i default
def dN (l:List (Pr×X0)) (i:Nat):X0:=(l.getD i ⟨default,⟨.ag,.ag,.ag,.ag,.ag⟩⟩).2
theorem b7w {l:List Ed} {i:Nat} (h:i<l.length):bc l i=l[i]:=by simp [bc,List.getD,h]
theorem a3q {l:List Vr} {i:Nat} (h:i<l.length):cd l i=l[i]:=by simp [cd,List.getD,h]
theorem c1i {l:List Bool} {i:Nat} (h:i<l.length):bAt l i=l[i]:=by simp [bAt,List.getD,h]
theorem a16 {l:List Pr} {i:Nat} (h:i<l.length):U4 l i=l[i]:=by simp [U4,List.getD,h]
theorem a3w {l:List Pr} {i:Nat} (h:i<l.length):U4 l i∈l:=by rw [a16 h];exact List.getElem_mem h
theorem a6h {l:List Ed} {i:Nat} (h:i<l.length):bc l i∈l:=by rw [b7w h];exact List.getElem_mem h
theorem a41 {l:List Ch} {i:Nat} (h:i<l.length):U7 l i∈l:=by rw [a2q h];exact List.getElem_mem h
theorem a5V {l:List Vr} {i:Nat} (h:i<l.length):cd l i∈l:=by rw [a3q h];exact List.getElem_mem h
theorem b3e {l:List Int} {i:Nat} (h:i<l.length):Y8 l i∈l:=by rw [a3D h];exact List.getElem_mem h
theorem b2O {l:List Nat} {i:Nat} (h:i<l.length):bq l i∈l:=by rw [a4U h];exact List.getElem_mem h
theorem b83 {l:List (List Int)} {i:Nat} (h:i<l.length):V8 l i∈l:=by rw [a3K h];exact List.getElem_mem h
variable {k:IntKind} {i j:Nat} {d:D}
theorem ix_i {l:List Int} (h:FI d l) (hi:i<l.length):W1 1 d (.int k (i:Int))=some (.fp [.int .i64 (Y8 l i)] 0):=by rw [FI.idx h hi,a3D hi]
theorem ix_n {l:List Nat} (h:FL 1 d (a0x l)) (hi:i<l.length):W1 1 d (.int k (i:Int))=some (.fp [.int .i64 (bq l i:Int)] 0):=by rw [FLN.idx h hi,a4U hi]
theorem b0j {l:List Bool} (h:FL 1 d (a0h l)) (hi:i<l.length):W1 1 d (.int k (i:Int))=some (.fp [.bool (bAt l i)] 0):=by rw [FLB.idx h hi,c1i hi]
theorem a8c {l:List Ed} (h:FL 8 d (a0T l)) (hi:i<l.length):W1 8 d (.int k (i:Int))=some (.fp [.int .i64 ((bc l i).au:Int),.int .i64 ((bc l i).to:Int),.int .i64 ((bc l i).act:Int),.int .i64 (bc l i).expr,.int .i64 (bc l i).var,.int .i64 (bc l i).chan,.bool (bc l i).aF,.int .i64 ((bc l i).node:Int)] 0):=by rw [FLE.idx h hi,b7w hi];rfl
theorem ix_c {l:List Ch} (h:FL 5 d (a2y l)) (hi:i<l.length):W1 5 d (.int k (i:Int))=some (.fp [.str (U7 l i).name,.int .i64 (U7 l i).room,.int .i64 (U7 l i).width,.bool (U7 l i).bm,.bool (U7 l i).aT] 0):=by rw [FLC.idx h hi,a2q hi];rfl
theorem ix_v {l:List Vr} (h:FL 3 d (a1J l)) (hi:i<l.length):W1 3 d (.int k (i:Int))=some (.fp [.str (cd l i).name,.int .i64 (cd l i).width,.int .i64 (cd l i).value] 0):=by rw [FLV.idx h hi,a3q hi];rfl
theorem ln_i {l:List Int} (h:FI d l):a0C false d=some (.int .i64 (l.length:Int)):=FI.len h
theorem ln_n {l:List Nat} (h:FL 1 d (a0x l)):a0C false d=some (.int .i64 (l.length:Int)):=by rw [h.len,b59]
theorem ln_c {l:List Ch} (h:FL 5 d (a2y l)):a0C false d=some (.int .i64 (l.length:Int)):=by rw [h.len,a9L]
theorem ln_v {l:List Vr} (h:FL 3 d (a1J l)):a0C false d=some (.int .i64 (l.length:Int)):=by rw [h.len,b2k]
variable {m:X6} {mo:Mo} {ps:List (Pr×X0)}
theorem a6S (h:Z0 m mo ps) (hi:i<mo.procs.length):gJ (U4 mo.procs i) (dN ps i):=by
 have iD:i<ps.length:=by rw [h.plen];exact hi
 have e:U4 mo.procs i=ps[i].1:=by rw [a16 hi];simp [<- h.eq]
 have e2:dN ps i=ps[i].2:=by simp [dN,List.getD,iD]
 rw [e,e2];exact h.aI _ (List.getElem_mem iD)
theorem ix_p (h:Z0 m mo ps) (hi:i<mo.procs.length):W1 8 m.dp (.int k (i:Int))=some (.fp [.str (U4 mo.procs i).name,.int .i64 ((U4 mo.procs i).copy:Int),(dN ps i).dl,.int .i64 ((U4 mo.procs i).ah:Int),(dN ps i).dr,(dN ps i).de,(dN ps i).dn,(dN ps i).dv] 0):=by
 have iD:i<ps.length:=by rw [h.plen];exact hi
 have e:U4 mo.procs i=ps[i].1:=by rw [a16 hi];simp [<- h.eq]
 have e2:dN ps i=ps[i].2:=by simp [dN,List.getD,iD]
 rw [h.p.idx (by simpa using iD),e,e2];simp [a27,U6]
theorem ln_p (h:Z0 m mo ps):a0C false m.dp=some (.int .i64 (mo.procs.length:Int)):=h.eo
theorem pr_ol (h:Z0 m mo ps) (hi:i<mo.procs.length):V1 (dN ps i).dl=true:=(a6S h hi).l.one
theorem pr_or (h:Z0 m mo ps) (hi:i<mo.procs.length):V1 (dN ps i).dr=true:=(a6S h hi).r.one
theorem pr_oe (h:Z0 m mo ps) (hi:i<mo.procs.length):V1 (dN ps i).de=true:=(a6S h hi).e.one
theorem pr_on' (h:Z0 m mo ps) (hi:i<mo.procs.length):V1 (dN ps i).dn=true:=(a6S h hi).n.one
theorem pr_ov (h:Z0 m mo ps) (hi:i<mo.procs.length):V1 (dN ps i).dv=true:=(a6S h hi).v.one
theorem pr_le (h:Z0 m mo ps) (hi:i<mo.procs.length):a0C false (dN ps i).de=some (.int .i64 ((U4 mo.procs i).ak.length:Int)):=(a6S h hi).lenE
theorem pr_ix (h:Z0 m mo ps) (hi:i<mo.procs.length) (hj:j<(U4 mo.procs i).ak.length):W1 8 (dN ps i).de (.int k (j:Int))=some (.fp [.int .i64 ((bc (U4 mo.procs i).ak j).au:Int),.int .i64 ((bc (U4 mo.procs i).ak j).to:Int),.int .i64 ((bc (U4 mo.procs i).ak j).act:Int),.int .i64 (bc (U4 mo.procs i).ak j).expr,.int .i64 (bc (U4 mo.procs i).ak j).var,.int .i64 (bc (U4 mo.procs i).ak j).chan,.bool (bc (U4 mo.procs i).ak j).aF,.int .i64 ((bc (U4 mo.procs i).ak j).node:Int)] 0):=a8c (a6S h hi).e hj
theorem pr_ir (h:Z0 m mo ps) (hi:i<mo.procs.length) (hj:j<(U4 mo.procs i).rest.length):W1 1 (dN ps i).dr (.int k (j:Int))=some (.fp [.bool (bAt (U4 mo.procs i).rest j)] 0):=b0j (a6S h hi).r hj
theorem a3N (h:Z0 m mo ps):PZ (.agg [m.dt,.int .i64 m.g,m.dc,m.dv,m.dp,m.ds,.bool m.b]):=a9a fun d hd=>by
 simp only [List.mem_cons,List.not_mem_nil,or_false] at hd;rcases hd with rfl | rfl | rfl | rfl | rfl | rfl | rfl
 ·exact ⟨FL.pure h.tr.fl,FL.ic h.tr.fl⟩
 ·exact ⟨rfl,fun _ _=>rfl⟩
 ·exact ⟨h.c.pure,FL.ic h.c⟩
 ·exact ⟨h.v.pure,FL.ic h.v⟩
 ·exact ⟨h.p.pure,FL.ic h.p⟩
 ·exact ⟨h.sf.pure,FL.ic h.sf⟩
 ·exact ⟨rfl,fun _ _=>rfl⟩
theorem pz_ed {e:Ed}:PZ (.agg [.int .i64 (e.au:Int),.int .i64 (e.to:Int),.int .i64 (e.act:Int),.int .i64 e.expr,.int .i64 e.var,.int .i64 e.chan,.bool e.aF,.int .i64 (e.node:Int)]):=a9a fun d hd=>by
 simp only [List.mem_cons,List.not_mem_nil,or_false] at hd;rcases hd with rfl | rfl | rfl | rfl | rfl | rfl | rfl | rfl<;>exact ⟨rfl,fun _ _=>rfl⟩
theorem a6l {x:cG} {st:V0} (h:eV x st):PZ (.agg [x.da,x.dv,x.dc,.int .i64 st.hold]):=a9a fun d hd=>by
 obtain ⟨ds,h1,_⟩:=h.c;simp only [List.mem_cons,List.not_mem_nil,or_false] at hd;rcases hd with rfl | rfl | rfl | rfl
 ·exact ⟨h.a.pure,FL.ic h.a⟩
 ·exact ⟨FL.pure h.v,FL.ic h.v⟩
 ·exact ⟨h1.pure,FL.ic h1⟩
 ·exact ⟨rfl,fun _ _=>rfl⟩
def chX:D->Nat->D
 | .bg _ xs,i=>(xs.getD i []).getD 0 .ag
 | _,_=>.ag
theorem b7K {x:cG} {st:V0} (h:eV x st) (hi:i<st.af.length):FI (chX x.dc i) (V8 st.af i)/\W1 1 x.dc (.int k (i:Int))=some (.fp [chX x.dc i] 0):=by
 obtain ⟨ds,h1,h2,h3⟩:=h.c;have iD:i<ds.length:=by omega
 have e:chX x.dc i=ds[i]:=by
  rcases h1 with ⟨_,e⟩ | e
  ·simp at e;subst e;simp at iD
  ·rw [e];simp [chX,List.getD,iD]
 rw [e,a3K hi];refine ⟨h3 i iD hi,?_⟩;rw [h1.idx (by simpa using iD)];simp
theorem b0q {x:cG} {st:V0} (h:eV x st) (hi:i<st.af.length):FI (chX x.dc i) (V8 st.af i):=(b7K (k:=.i64) h hi).1
theorem st_ci {x:cG} {st:V0} (h:eV x st) (hi:i<st.af.length):W1 1 x.dc (.int k (i:Int))=some (.fp [chX x.dc i] 0):=(b7K h hi).2
theorem st_co {x:cG} {st:V0} (h:eV x st) (hi:i<st.af.length):V1 (chX x.dc i)=true:=FL.one (b0q h hi)
theorem st_cl {x:cG} {st:V0} (h:eV x st) (hi:i<st.af.length):a0C false (chX x.dc i)=some (.int .i64 ((V8 st.af i).length:Int)):=FI.len (b0q h hi)
theorem st_cx {x:cG} {st:V0} (h:eV x st) (hi:i<st.af.length) (hj:j<(V8 st.af i).length):W1 1 (chX x.dc i) (.int k (j:Int))=some (.fp [.int .i64 (Y8 (V8 st.af i) j)] 0):=ix_i (b0q h hi) hj
theorem st_lc {x:cG} {st:V0} (h:eV x st):a0C false x.dc=some (.int .i64 (st.af.length:Int)):=by
 obtain ⟨ds,h1,h2,_⟩:=h.c;rw [h1.len,List.length_map,h2]
theorem c35 {n:Nat}:(n:Int)+1=((n+1:Nat):Int):=by omega
theorem lt_nat {a b:Nat}:((a:Int)<(b:Int))=(a<b):=by apply propext;omega
theorem le_nat {a b:Nat}:((a:Int)<=(b:Int))=(a<=b):=by apply propext;omega
theorem nc_0:((0:Nat):Int)=0:=rfl
theorem nc_1:((1:Nat):Int)=1:=rfl
theorem nc_2:((2:Nat):Int)=2:=rfl
theorem nc_3:((3:Nat):Int)=3:=rfl
theorem nc_4:((4:Nat):Int)=4:=rfl
theorem nc_5:((5:Nat):Int)=5:=rfl
theorem nc_6:((6:Nat):Int)=6:=rfl
theorem nc_7:((7:Nat):Int)=7:=rfl
theorem nc_8:((8:Nat):Int)=8:=rfl
theorem nc_9:((9:Nat):Int)=9:=rfl
theorem nc_10:((10:Nat):Int)=10:=rfl
theorem nc_11:((11:Nat):Int)=11:=rfl
theorem nc_12:((12:Nat):Int)=12:=rfl
theorem nc_13:((13:Nat):Int)=13:=rfl
theorem nc_14:((14:Nat):Int)=14:=rfl
theorem nc_15:((15:Nat):Int)=15:=rfl
theorem nc_16:((16:Nat):Int)=16:=rfl
theorem b7M {a b:Int}:(a==b)=decide (a=b):=by rw [Bool.eq_iff_iff];simp
theorem c2V {a b:Int}:(a != b)=!decide (a=b):=by rw [bne,b7M]
theorem eq_nat {a b:Nat}:((a:Int)=(b:Int))=(a=b):=by apply propext;omega
theorem c2g {a:Nat}:((0:Int)<(a:Int))=(0<a):=by apply propext;omega
theorem nat_nn {a:Nat}:((0:Int)<=(a:Int))=True:=eq_true (by omega)
attribute [go_sem] nc_0 nc_1 nc_2 nc_3 nc_4 nc_5 nc_6 nc_7 nc_8 nc_9 nc_10 nc_11 nc_12 nc_13 nc_14 nc_15 nc_16 b7M c2V eq_nat c2g nat_nn ix_i ix_n b0j a8c ix_c ix_v ln_i ln_n ln_c ln_v ix_p ln_p pr_ol pr_or pr_oe pr_on' pr_ov pr_le pr_ix pr_ir st_ci st_co st_cl st_cx st_lc c35 lt_nat le_nat
theorem b1O {st:V0}:mo.cP st=true↔∀j,j<mo.safe.length->(mo.val (a1j mo) st (bq mo.safe j)).2=true/\(mo.val (a1j mo) st (bq mo.safe j)).1≠0:=by
 unfold Mo.cP;rw [List.all_eq_true];constructor
 ·intro h j hj
  have:=h _ (b2O hj);simpa using this
 ·intro h k hk
  obtain ⟨j,hj,rfl⟩:=List.getElem_of_mem hk;have:=h j hj;rw [a4U hj] at this;simpa using this
theorem b8k {st:V0} {j:Nat} (hj:j<mo.safe.length) (h:(mo.val (a1j mo) st (bq mo.safe j)).2=false∨(mo.val (a1j mo) st (bq mo.safe j)).1=0):mo.cP st=false:=by
 rw [Bool.eq_false_iff];intro hs;have:=b1O.1 hs j hj;rcases h with h | h
 ·rw [h] at this;simp at this
 ·exact this.2 h
theorem a35 {p:Prop} [Decidable p]:(decide p=true)=p:=by simp
theorem a34 {p:Prop} [Decidable p]:(decide p=false)=¬ p:=by simp
theorem a4g {b:Bool}:((!b)=true)=(b=false):=by simp
theorem a36 {b:Bool}:((!b)=false)=(b=true):=by simp
end
section
variable {fs:FuncId->Option U3}
theorem bm_app {t rest env K s d sz bytes rows row A B E R} (h:Rp d sz rows E) (hp:Hp s (A++E++B) R) (hr:row.length=sz) (ly:∀r∈rows,r.length=sz) (hb:bytes<=1000) (hl:rows.length<=1000000000)
 (k:∀d' s' E',Rp d' sz (rows++[row]) E'->Hp s' (A++E'++B) R->s.next<=s'.next->XQ fs [] rest ((t,d')::env) s' K):BM (Z6 sz bytes d (.arr s.next 0 1 sz) (s.push (.cells row))) fs t rest env K:=by
 obtain ⟨d',s',h1,E',h2,h3,h4⟩:=h.app (hp.push (.cells row)) (W2 rfl) hr ly hb hl;rw [h1];exact k d' s' E' h2 h3 (by rw [k4.ai] at h4;omega)
theorem b88 {s:k4} {d:D} {sz:Nat} {rows:List (List D)} {E W R:Hs} (h:Rp d sz rows E) (hp:Hp s W R) (he:∀e∈E,e∈W) (hr:∀r∈rows,r.length=sz) (hs:∀r∈rows,r.all a1Y=true):∃d',aL s.get 20 d=some d'/\FL sz d' rows :=
 (h.sn fun e hm=>hp.w e (he e hm)).cW (n:=18) hr hs
theorem b46 (l:List Mv):∀r∈a15 l,r.length=4:=by intro r h;obtain ⟨b,_,rfl⟩:=List.mem_map.1 h;rfl
theorem b7U (l:List Mv):∀r∈a15 l,r.all a1Y=true:=by intro r h;obtain ⟨b,_,rfl⟩:=List.mem_map.1 h;rfl
@[simp] theorem c0G (l:List Mv):(a15 l).length=l.length:=by simp [a15]
theorem c0v {α:Type} {f:α->List D} {t rest env K s d sz bytes row E R} {l:List α} (v:α) (hv:f v=row) (h:Rp d sz (l.map f) E) (hp:Hp s E R) (hf:∀v,(f v).length=sz) (hb:bytes<=1000) (hl:l.length<=1000000000)
 (k:∀d' s' E',Rp d' sz ((l++[v]).map f) E'->Hp s' E' R->XQ fs [] rest ((t,d')::env) s' K):BM (Z6 sz bytes d (.arr s.next 0 1 sz) (s.push (.cells row))) fs t rest env K:=by
 subst hv;refine bm_app (A:=[]) (B:=[]) h (by simpa using hp) (hf v) (fun r hr=>?_) hb (by simpa using hl) fun d' s' E' h1 h2 _=>k d' s' E' (by simpa using h1) (by simpa using h2)
 obtain ⟨x,_,rfl⟩:=List.mem_map.1 hr;exact hf x
theorem a6W {t rest env K s d bytes row E R} {l:List Mv} (v:Mv) (hv:v.row=row) (h:Rp d 4 (a15 l) E) (hp:Hp s E R) (hb:bytes<=1000) (hl:l.length<=1000000000)
 (k:∀d' s' E',Rp d' 4 (a15 (l++[v])) E'->Hp s' E' R->XQ fs [] rest ((t,d')::env) s' K):BM (Z6 4 bytes d (.arr s.next 0 1 4) (s.push (.cells row))) fs t rest env K:=c0v (f:=Mv.row) v hv h hp (fun _=>rfl) hb hl k
def Z9 (l:List Mv) (i:Nat):Mv:=l.getD i default
theorem b2A {l:List Mv} {i:Nat} (h:i<l.length):Z9 l i=l[i]:=by simp [Z9,List.getD,h]
theorem b1l {l:List Mv} {i:Nat} (h:i<l.length):Z9 l i∈l:=by rw [b2A h];exact List.getElem_mem h
theorem b1q {l:List Mv} {d:D} {i:Nat} {k:IntKind} (h:FL 4 d (a15 l)) (hi:i<l.length):W1 4 d (.int k (i:Int))=some (.fp [.int .i64 ((Z9 l i).kind:Int),.int .i64 ((Z9 l i).proc:Int),.int .i64 ((Z9 l i).bn:Int),.int .i64 ((Z9 l i).chan:Int)] 0):=by
 rw [h.idx (by simpa using hi),b2A hi];simp [a15,Mv.row]
theorem ln_m {l:List Mv} {d:D} (h:FL 4 d (a15 l)):a0C false d=some (.int .i64 (l.length:Int)):=by rw [h.len,c0G]
theorem rp_one {d:D} {sz:Nat} {rows:List (List D)} {E:Hs} (h:Rp d sz rows E):V1 d=true:=h.one
attribute [go_sem] b1q ln_m rp_one
def Mo.gh (mo:Mo) (st:V0) (i j:Nat):List Mv:=((List.range j).filter fun j=>mo.can st i (U4 mo.procs i) (bc (U4 mo.procs i).ak j)).map fun j=>⟨0,i,j,0⟩
theorem Mo.eW {mo:Mo} {st:V0} {i j:Nat}:mo.gh st i (j+1)=mo.gh st i j++if mo.can st i (U4 mo.procs i) (bc (U4 mo.procs i).ak j) then [⟨0,i,j,0⟩] else []:=by
 unfold Mo.gh;rw [List.range_succ,List.filter_append,List.map_append];congr 1
 simp only [List.filter_cons,List.filter_nil];split<;>rfl
theorem Mo.bT {mo:Mo} {st:V0} {i:Nat}:mo.cu st i=if 0<=st.hold/\st.hold≠(i:Int) then [] else mo.gh st i (U4 mo.procs i).ak.length:=rfl
def Mo.gL (mo:Mo) (st:V0) (i:Nat):List Mv:=(List.range i).flatMap (mo.cu st)
def Mo.mvC (mo:Mo) (st:V0) (i:Nat):List Mv:=(List.range i).flatMap (mo.aY st)
theorem Mo.dO {mo:Mo} {st:V0} {i:Nat}:mo.gL st (i+1)=mo.gL st i++mo.cu st i:=by simp [Mo.gL,List.range_succ]
theorem Mo.eX {mo:Mo} {st:V0} {i:Nat}:mo.mvC st (i+1)=mo.mvC st i++mo.aY st i:=by simp [Mo.mvC,List.range_succ]
theorem Mo.dP {mo:Mo} {st:V0}:mo.aQ st=mo.gL st mo.procs.length++if st.hold<0 then mo.mvC st mo.af.length else []:=rfl
theorem Mo.gj {mo:Mo} {st:V0} {i j:Nat}:(mo.gh st i j).length<=j:=by
 unfold Mo.gh;rw [List.length_map];exact Nat.le_trans (List.length_filter_le _ _) (by simp)
theorem Mo.fO {mo:Mo} (ho:Z8 mo) {st:V0} {i:Nat} (hi:i<mo.procs.length):(mo.cu st i).length<=4000:=by
 rw [Mo.bT];split
 ·simp
 ·exact Nat.le_trans Mo.gj (ho.pr _ (a3w hi)).el
theorem Mo.eH {mo:Mo} (ho:Z8 mo) {st:V0}:∀ {i:Nat},i<=mo.procs.length->(mo.gL st i).length<=4000*i
 | 0,_=>by simp [Mo.gL]
 | i+1,hi=>by
   rw [Mo.dO,List.length_append];have h1:=Mo.eH ho (st:=st) (i:=i) (by omega);have h2:=Mo.fO ho (st:=st) (i:=i) (by omega);omega
theorem Mo.fP {mo:Mo} {st:V0} {i:Nat}:(mo.aY st i).length<=2:=by
 unfold Mo.aY;rw [List.length_append];split<;>split<;>simp
theorem Mo.gk {mo:Mo} {st:V0}:∀ {i:Nat},(mo.mvC st i).length<=2*i
 | 0=>by simp [Mo.mvC]
 | i+1=>by
   rw [Mo.eX,List.length_append];have h1:=Mo.gk (mo:=mo) (st:=st) (i:=i);have h2:=Mo.fP (mo:=mo) (st:=st) (i:=i);omega
theorem Hp.hd {s:k4} {id:Nat} {cs:List D} {W R:Hs} (h:Hp s ((id,cs)::W) R):s.get id=some (.cells cs):=h.w (id,cs) (by simp)
theorem Hp.tl {s:k4} {w:Nat×List D} {W R:Hs} (h:Hp s (w::W) R):Hp s W R:=h.sub (List.sublist_cons_self _ _) fun _ h=>h
theorem Hp.rh {s:k4} {id:Nat} {cs:List D} {W R:Hs} (h:Hp s W ((id,cs)::R)):s.get id=some (.cells cs):=h.r (id,cs) (by simp)
theorem Hp.rt {s:k4} {w:Nat×List D} {W R:Hs} (h:Hp s W (w::R)):Hp s W R:=h.sub (List.Sublist.refl _) fun _ h=>by simp [h]
def a5Q (l:List Int):List D:=l.map fun n=>.int .i64 n
def a4c (l:List Int):List (List D):=l.map fun n=>[.int .i64 n]
@[simp] theorem b8E (l:List Int):(a5Q l).length=l.length:=by simp [a5Q]
@[simp] theorem c5B (l:List Int):(a4c l).length=l.length:=by simp [a4c]
theorem b5z (l:List Int):∀r∈a4c l,r.length=1:=by intro r h;obtain ⟨b,_,rfl⟩:=List.mem_map.1 h;rfl
theorem b95 (l:List Int):∀r∈a4c l,r.all a1Y=true:=by intro r h;obtain ⟨b,_,rfl⟩:=List.mem_map.1 h;rfl
theorem fl_row {d:D} {rows:List (List D)} (h:FL 1 d rows) {g:a0k}:a1h g d=some rows.flatten/\a3i d=some rows.length/\a1O 1 d=true:=by
 rcases h with ⟨rfl,rfl⟩ | rfl<;>exact ⟨rfl,rfl,rfl⟩
theorem Hp.dg {x:Nat} {E:Hs} (h:∀e∈E,e.1≠x):a2b x (E.map Prod.fst):=by
 induction E with
 | nil=>trivial
 | cons a E ih=>exact ⟨fun e=>h a (by simp) e.symm,ih fun e he=>h e (by simp [he])⟩
theorem Hp.ltW {s:k4} {W R:Hs} (h:Hp s W R) {w:Nat×List D} (hw:w∈W):w.1<s.next:=u7 (h.w w hw)
theorem Hp.ltR {s:k4} {W R:Hs} (h:Hp s W R) {w:Nat×List D} (hw:w∈R):w.1<s.next:=u7 (h.r w hw)
theorem Rp.exp {s:k4} {d:D} {sz bytes idt:Nat} {rows:List (List D)} {row:List D} {E:Hs} (h:Rp d sz rows E) (he:Y2 s E) (ht:s.get idt=some (.cells row)) (hr:row.length=sz) (ly:∀r∈rows,r.length=sz) (hb:bytes<=1000) (hl:rows.length<=1000000000) :
 ∃s',Z6 sz bytes d (.arr idt 0 1 sz) s=some (.arr s.next 0 (rows.length+1) sz,s')/\s'.next=s.next+1/\s'.get s.next=some (.cells (rows.flatten++row))/\∀id,id≠s.next->(∀e∈E,e.1≠id)->s'.get id=s.get id:=by
 have b3:bytes<=2 ^ 20:=Nat.le_trans hb (by decide);have r1:a1h s.get (.arr idt 0 1 sz)=some row:=by
  simp only [a1h,ht,Nat.zero_add,Nat.one_mul,List.drop_zero];rw [if_pos (by omega),List.take_of_length_le (by omega)]
 have r2:a3i (.arr idt 0 1 sz)=some 1:=rfl;have r3:a1O sz (.arr idt 0 1 sz)=true:=by simp [a1O]
 rcases h with ⟨rfl,rfl,rfl⟩ | ⟨id,rfl,rfl,iw⟩
 ·refine ⟨s.push (.cells row),?_,by simp,by rw [W2 rfl];simp,fun j hj _=>by rw [k4.aM,if_neg hj]⟩
  unfold Z6;simp only [r1,r2,r3,b3,decide_true,Bool.and_self,if_true];rw [if_neg (by omega),if_pos ⟨by omega,by omega⟩];rfl
 ·have hf:=a75 ly
  have hg:s.get id=some (.cells rows.flatten):=he (id,rows.flatten) (by simp);have b1:(rows.length+1)*bytes<=2 ^ 45:=Nat.le_trans (Nat.mul_le_mul (show rows.length+1<=1000000001 by omega) hb) (by decide);have b2:rows.length+1<=2 ^ 45:=by omega
  refine ⟨(s.set id none).push (.cells (rows.flatten++row)),?_,by simp,W2 (by simp),fun j hj hn=>?_⟩
  ·unfold Z6
   simp only [r1,r2,r3,b3,decide_true,Bool.and_self,if_true,hg,Nat.zero_add,hf,and_self,List.drop_zero];rw [if_neg (by omega),if_pos ⟨b1,b2⟩]
  ·have:id≠j:=hn (id,rows.flatten) (by simp)
   rw [k4.aM,if_neg (by simpa using hj),Z7 this.symm]
theorem Rp.app2 {s:k4} {d:D} {sz bytes:Nat} {rows:List (List D)} {row:List D} {A B E R:Hs} (h:Rp d sz rows E) (hp:Hp s (A++E++B) R) (hr:row.length=sz) (ly:∀r∈rows,r.length=sz) (hb:bytes<=1000) (hl:rows.length<=1000000000) :
 ∃s',Z6 sz bytes d (.arr s.next 0 1 sz) (s.push (.cells row))=some (.arr (s.next+1) 0 (rows.length+1) sz,s')/\Rp (.arr (s.next+1) 0 (rows.length+1) sz) sz (rows++[row]) [(s.next+1,(rows++[row]).flatten)]/\Hp s' (A++(s.next+1,(rows++[row]).flatten)::B) R/\s'.next=s.next+2/\(∀j,j<s.next->(∀e∈E,e.1≠j)->s'.get j=s.get j)/\∀j,j∉(s.next+1)::E.map Prod.fst->(s.push (.cells row)).get j=s'.get j:=by
 have oC:=hp.push (.cells row);have heE:Y2 (s.push (.cells row)) E:=fun x hx=>oC.w x (by simp [hx])
 obtain ⟨s',h1,h2,h3,h4⟩:=h.exp heE (W2 rfl) hr ly hb hl;rw [k4.ai] at h1 h2 h3 h4;refine ⟨s',h1,.inr ⟨s.next+1,by simp,by simp,by simp⟩,?_,h2,fun j hj hn=>?_,fun j hj=>?_⟩
 ·have hn:=oC.nd
  have hE:∀w∈A++B,∀e∈E,e.1≠w.1:=by
   intro w hw e jV hc;rw [List.append_assoc,List.map_append,List.map_append,List.nodup_append,List.nodup_append] at hn;obtain ⟨_,⟨_,_,n2⟩,n3⟩:=hn;rcases List.mem_append.1 hw with hw | hw
   ·exact n3 w.1 (List.mem_map_of_mem hw) e.1 (List.mem_append_left _ (List.mem_map_of_mem jV)) hc.symm
   ·exact n2 e.1 (List.mem_map_of_mem jV) w.1 (List.mem_map_of_mem hw) hc
  have iM:Hp (s.push (.cells row)) (A++B) R:=oC.sub (by
   rw [List.append_assoc];exact List.Sublist.append (List.Sublist.refl _) (List.sublist_append_right _ _)) fun x h=>h
  have key:∀w∈A++B,s'.get w.1=some (.cells w.2):=fun w hw=>by
   have hl:=hp.ltW (w:=w) (by rcases List.mem_append.1 hw with h | h<;>simp [h]);rw [h4 w.1 (by omega) (hE w hw)];exact iM.w w hw
  refine Hp.perm (W:=(s.next+1,(rows++[row]).flatten)::(A++B)) ⟨?_,?_,?_,?_⟩ List.perm_middle
  ·rw [List.map_cons,List.nodup_cons]
   refine ⟨fun hm=>?_,iM.nd⟩;obtain ⟨w,hw,e⟩:=List.mem_map.1 hm;have:=hp.ltW (w:=w) (by rcases List.mem_append.1 hw with h | h<;>simp [h]);simp only at e;omega
  ·intro w hw r jC
   rcases List.mem_cons.1 hw with rfl | hw
   ·have:=hp.ltR jC
    simp only;omega
   ·exact iM.ap w hw r jC
  ·intro w hw
   rcases List.mem_cons.1 hw with rfl | hw
   ·rw [h3];simp
   ·exact key w hw
  ·intro r jC
   have hl:=hp.ltR jC;rw [h4 r.1 (by omega) fun e jV=>hp.ap e (by simp [jV]) r jC];exact iM.r r jC
 ·rw [h4 j (by omega) hn,a0l hj]
 ·simp only [List.mem_cons,not_or,List.mem_map,not_exists,not_and] at hj
  exact (h4 j hj.1 fun e he hc=>hj.2 e he hc).symm
theorem a9z {t rest env K s d sz bytes rows row A B E R} (h:Rp d sz rows E) (hp:Hp s (A++E++B) R) (hr:row.length=sz) (ly:∀r∈rows,r.length=sz) (hb:bytes<=1000) (hl:rows.length<=1000000000)
 (k:∀s',Rp (.arr (s.next+1) 0 (rows.length+1) sz) sz (rows++[row]) [(s.next+1,(rows++[row]).flatten)]->Hp s' (A++(s.next+1,(rows++[row]).flatten)::B) R->s'.next=s.next+2->(∀j,j<s.next->(∀e∈E,e.1≠j)->s'.get j=s.get j)->XQ fs [] rest ((t,.arr (s.next+1) 0 (rows.length+1) sz)::env) s' K):BM (Z6 sz bytes d (.arr s.next 0 1 sz) (s.push (.cells row))) fs t rest env K:=by
 obtain ⟨s',h1,h2,h3,h4,h5,_⟩:=h.app2 hp hr ly hb hl;rw [h1];exact k s' h2 h3 h4 h5
end
section
variable {fs:FuncId->Option U3}
end

section
def Mo.actS (mo:Mo) (st:V0) (e:Ed) (n:Int):V0 :=
 if e.act=1 then { st with vars:=st.vars.set e.var.toNat (W9 n (cd mo.vars e.var.toNat).width.toNat) }
 else if e.act=2 then { st with af:=st.af.set e.chan.toNat (V8 st.af e.chan.toNat++[W9 n (U7 mo.af e.chan.toNat).width.toNat]) }
 else if e.act=3 then { st with vars:=st.vars.set e.var.toNat (W9 (Y8 (V8 st.af e.chan.toNat) 0) (cd mo.vars e.var.toNat).width.toNat),af:=st.af.set e.chan.toNat ((V8 st.af e.chan.toNat).drop 1) }
 else st
def V0.go (st:V0) (i to:Nat):V0:={ st with aI:=st.aI.set i to }
def V0.free (st:V0):V0:={ st with hold:=-1 }
def Mo.cQ (mo:Mo) (st:V0) (i:Nat) (p:Pr) (e:Ed):V0:=(mo.actS (st.go i e.to) e (mo.ex p st e 0).1).free
def Mo.doE (mo:Mo) (st:V0) (i:Nat) (p:Pr) (e:Ed):V0:={ mo.cQ st i p e with hold:=if e.aF&&mo.dL (mo.cQ st i p e) i p then (i:Int) else -1 }
def Mo.eY (mo:Mo) (st:V0) (v:Mv):V0 :=
 if v.kind=1 then { st with af:=st.af.set v.chan ((V8 st.af v.chan).drop 1) }
 else if v.kind=2 then { st with af:=st.af.set v.chan (V8 st.af v.chan++[Y8 (V8 st.af v.chan) 0]) }
 else mo.doE st v.proc (U4 mo.procs v.proc) (bc (U4 mo.procs v.proc).ak v.bn)
def Mo.mvOk (mo:Mo) (st:V0) (v:Mv):Prop :=
 (v.kind=0/\v.proc<mo.procs.length/\v.bn<(U4 mo.procs v.proc).ak.length/\mo.can st v.proc (U4 mo.procs v.proc) (bc (U4 mo.procs v.proc).ak v.bn)=true) ∨
 (v.kind=1/\v.chan<mo.af.length/\0<(V8 st.af v.chan).length) ∨
 (v.kind=2/\v.chan<mo.af.length/\0<(V8 st.af v.chan).length/\((V8 st.af v.chan).length:Int)<(U7 mo.af v.chan).room)
def ChR (s:k4) (q:D) (l:List Int):Prop:=(q=.ag/\l=[])∨q=.bg 1 (a4c l)∨∃id off cs,q=.arr id off l.length 1/\s.get id=some (.cells cs)/\off+l.length<=cs.length/\(cs.drop off).take l.length=a5Q l
theorem c1L (l:List Int):(a5Q l).all a1Y=true:=by simp [a5Q,a1Y]
theorem ChR.du {s:k4} {q:D} {l:List Int} (h:ChR s q l) (n:Nat):∃q',aL s.get (n+2) q=some q'/\FI q' l:=by
 rcases h with ⟨rfl,rfl⟩ | rfl | ⟨id,off,cs,rfl,h1,h2,h3⟩
 ·exact ⟨_,rfl,.inl ⟨rfl,rfl⟩⟩
 ·exact ⟨_,rfl,.inr rfl⟩
 ·refine ⟨.bg 1 (a4c l),?_,.inr rfl⟩
  have e1:a1h s.get (.arr id off l.length 1)=some (a5Q l):=by
   simp only [a1h,h1,Nat.mul_one,h3];rw [if_pos h2]
  have e2:X2 (aL s.get (n+1)) (a5Q l)=some (a5Q l):=b1x (c1L l);simp only [aL,e1,e2,Option.map_some];have e3:=b1A (a5Q l);rw [b8E] at e3;rw [e3];simp [a5Q,a4c]
def SttR (s:k4) (cs:List D) (st:V0):Prop:=∃dA dV dC qs,cs=[dA,dV,dC,.int .i64 st.hold]/\SN s 1 dA (a0x st.aI)/\SN s 1 dV (a4c st.vars)/\SN s 1 dC (qs.map fun q=>[q])/\(qs=[]∨∃id,dC=.arr id 0 qs.length 1)/\qs.length=st.af.length/\∀j (h:j<qs.length) (h':j<st.af.length),ChR s qs[j] st.af[j]
theorem b8p {s:k4} (n:Nat):∀ {qs:List D} {l:List (List Int)},qs.length=l.length->(∀j (h:j<qs.length) (h':j<l.length),ChR s qs[j] l[j])->∃ds:List D,a33 (aL s.get (n+2)) (qs.map fun q=>[q])=some (ds.map fun d=>[d])/\ds.length=l.length/\∀i (h:i<ds.length) (h':i<l.length),FI ds[i] l[i]
 | [],[],_,_=>⟨[],rfl,rfl,fun i h=>by simp at h⟩
 | [],_::_,h,_=>by simp at h
 | _::_,[],h,_=>by simp at h
 | q::qs,a::l,h,hr=>by
   obtain ⟨ds,h1,h2,h3⟩:=b8p n (qs:=qs) (l:=l) (by simpa using h) fun j hj uM=>hr (j+1) (by simp;omega) (by simp;omega)
   obtain ⟨d,h4,h5⟩:=(hr 0 (by simp) (by simp)).du n;refine ⟨d::ds,?_,by simp [h2],fun i hi iD=>?_⟩
   ·have h4:aL s.get (n+2) q=some d:=h4
    simp only [List.map_cons,a33,X2,h4,h1]
   ·cases i with
    | zero=>exact h5
    | succ i=>exact h3 i (by simpa using hi) (by simpa using iD)
theorem SttR.du {s:k4} {cs:List D} {st:V0} (h:SttR s cs st):∃x,aL s.get 20 (.agg cs)=some (.agg [x.da,x.dv,x.dc,.int .i64 st.hold])/\eV x st:=by
 obtain ⟨dA,dV,dC,qs,rfl,hA,hV,hC,hn,hl,hq⟩:=h;obtain ⟨da,a1,b1⟩:=hA.cW (n:=17) (a5L _) (b0i _);obtain ⟨dv,a2,b2⟩:=hV.cW (n:=17) (b5z _) (b95 _);obtain ⟨ds,h1,h2,h3⟩:=b8p 16 hl hq;obtain ⟨dc,a3,b3⟩:=hC.du (n:=18) (fun r hr=>by obtain ⟨x,_,rfl⟩:=List.mem_map.1 hr;rfl) h1 (fun e=>by
  rcases hn with rfl | ⟨id,gX⟩
  ·have:ds=[]:=List.length_eq_zero_iff.1 (by rw [h2,<- hl];rfl)
   rw [this]
  ·rw [gX] at e;cases e)
 refine ⟨⟨da,dv,dc⟩,?_,⟨b1,b2,ds,b3,h2,h3⟩⟩;have e1:aL s.get 19 (.int .i64 st.hold)=some (.int .i64 st.hold):=rfl;simp only [aL,X2,a1,a2,a3,e1,Option.map_some]
theorem tk_D {l:List D} {n:Nat} {x:D} (h:n<l.length):List.take n l++[x]++List.drop (n+1) l=l.set n x:=by
 have:=b8G (x:=x) h;rw [<- this];simp [a43]
theorem le_succ {a b:Nat}:(a+1<=b)=(a<b):=by apply propext;omega
attribute [go_sem] b8E le_succ
structure a0J (mo:Mo):Prop where
 ch:∀c∈mo.af,1<=c.room/\c.room<=3/\1<=c.width/\c.width<=8
 vr:∀v∈mo.vars,1<=v.width/\v.width<=8/\W9 v.value v.width.toNat=v.value
theorem a5X {l:List (List Int)} {k j:Nat} {d:List Int} (hk:k<l.length):V8 (l.set k d) j=if j=k then d else V8 l j:=by
 unfold V8;simp only [List.getD,List.getElem?_set];split
 ·rename_i h;subst h;simp [hk]
 ·rename_i h;rw [if_neg (Ne.symm h)]
variable {fs:FuncId->Option U3}
end
theorem b7A {n:Int} {w:Nat} (h1:1<=w):W9 (W9 n w) w=W9 n w:=by
 have:=a99 (n:=n) (w:=w) (by omega);exact a6i (by omega) this.1 this.2
theorem b2w {n:Int} {w:Nat} (h1:1<=w) (h2:w<=8):I8 (W9 n w):=by
 have h:=a99 (n:=n) (w:=w) (by omega);have hc:w=1∨w=2∨w=3∨w=4∨w=5∨w=6∨w=7∨w=8:=by omega
 unfold I8;rcases hc with rfl | rfl | rfl | rfl | rfl | rfl | rfl | rfl<;>simp at h<;>omega
theorem b12 {l:List Nat} {k j:Nat} {d:Nat} (hk:k<l.length):bq (l.set k d) j=if j=k then d else bq l j:=by
 unfold bq;simp only [List.getD,List.getElem?_set];split
 ·rename_i h;subst h;simp [hk]
 ·rename_i h;rw [if_neg (Ne.symm h)]
theorem b3O {l:List Int} {k j:Nat} {d:Int} (hk:k<l.length):Y8 (l.set k d) j=if j=k then d else Y8 l j:=by
 unfold Y8;simp only [List.getD,List.getElem?_set];split
 ·rename_i h;subst h;simp [hk]
 ·rename_i h;rw [if_neg (Ne.symm h)]
structure a2O (mo:Mo) (st:V0):Prop where
 aI:st.aI.length=mo.procs.length
 vars:st.vars.length=mo.vars.length
 af:st.af.length=mo.af.length
 pl:∀i,i<mo.procs.length->bq st.aI i<(U4 mo.procs i).ah
 vr:∀i,i<mo.vars.length->W9 (Y8 st.vars i) (cd mo.vars i).width.toNat=Y8 st.vars i
 cl:∀i,i<mo.af.length->((V8 st.af i).length:Int)<=(U7 mo.af i).room
 cv:∀i,i<mo.af.length->∀n∈V8 st.af i,W9 n (U7 mo.af i).width.toNat=n
 hold:-1<=st.hold/\st.hold<(mo.procs.length:Int)
theorem a59 {mo:Mo} {st:V0}:a2O mo st↔Fit mo st:=by
 constructor
 ·rintro ⟨h1,h2,h3,h4,h5,h6,h7,h8⟩
  refine ⟨h1,h2,h3,fun i h h'=>?_,fun i h h'=>?_,fun i h h'=>?_,fun i h h'=>?_,h8⟩
  ·have:=h4 i h';rwa [a4U h,a16 h'] at this
  ·have:=h5 i h';rwa [a3D h,a3q h'] at this
  ·have:=h6 i h';rwa [a3K h,a2q h'] at this
  ·have:=h7 i h';rwa [a3K h,a2q h'] at this
 ·rintro ⟨h1,h2,h3,h4,h5,h6,h7,h8⟩
  refine ⟨h1,h2,h3,fun i h'=>?_,fun i h'=>?_,fun i h'=>?_,fun i h'=>?_,h8⟩
  ·have h:i<st.aI.length:=by omega
   rw [a4U h,a16 h'];exact h4 i h h'
  ·have h:i<st.vars.length:=by omega
   rw [a3D h,a3q h'];exact h5 i h h'
  ·have h:i<st.af.length:=by omega
   rw [a3K h,a2q h'];exact h6 i h h'
  ·have h:i<st.af.length:=by omega
   rw [a3K h,a2q h'];exact h7 i h h'
theorem b2H {mo:Mo} (hf:a0J mo) {st:V0} (h:Fit mo st):eM st:=by
 have h:=a59.2 h;refine ⟨fun n hn=>?_,fun l hl=>?_⟩
 ·obtain ⟨i,hi,rfl⟩:=List.getElem_of_mem hn
  have iD:i<mo.vars.length:=by rw [<- h.vars];exact hi
  have:=h.vr i iD;rw [a3D hi] at this;rw [<- this];have:=hf.vr _ (a5V iD);exact b2w (by omega) (by omega)
 ·obtain ⟨i,hi,rfl⟩:=List.getElem_of_mem hl
  have iD:i<mo.af.length:=by rw [<- h.af];exact hi
  have h1:=h.cl i iD;have h2:=h.cv i iD;rw [a3K hi] at h1 h2;have h3:=hf.ch _ (a41 iD);refine ⟨by omega,fun n hn=>?_⟩;rw [<- h2 n hn];exact b2w (by omega) (by omega)
theorem a2O.var {mo:Mo} (hf:a0J mo) {st:V0} (h:a2O mo st) {k:Nat} (hk:k<mo.vars.length) (n:Int):a2O mo { st with vars:=st.vars.set k (W9 n (cd mo.vars k).width.toNat) }:=by
 refine ⟨h.aI,by simp [h.vars],h.af,h.pl,fun i hi=>?_,h.cl,h.cv,h.hold⟩;rw [b3O (by rw [h.vars];exact hk)];split
 ·rename_i e;subst e
  have:=hf.vr _ (a5V hk);exact b7A (by omega)
 ·exact h.vr i hi
theorem a2O.chan {mo:Mo} {st:V0} (h:a2O mo st) {k:Nat} (hk:k<mo.af.length) {l:List Int} (hl:(l.length:Int)<=(U7 mo.af k).room) (hv:∀n∈l,W9 n (U7 mo.af k).width.toNat=n):a2O mo { st with af:=st.af.set k l }:=by
 refine ⟨h.aI,h.vars,by simp [h.af],h.pl,h.vr,fun i hi=>?_,fun i hi=>?_,h.hold⟩
 ·simp only [a5X (by rw [h.af];exact hk)]
  split
  ·rename_i e;subst e;exact hl
  ·exact h.cl i hi
 ·simp only [a5X (by rw [h.af];exact hk)]
  split
  ·rename_i e;subst e;exact hv
  ·exact h.cv i hi
theorem a2O.go {mo:Mo} {st:V0} (h:a2O mo st) {p to:Nat} (hp:p<mo.procs.length) (ht:to<(U4 mo.procs p).ah):a2O mo (st.go p to):=by
 refine ⟨by simp [V0.go,h.aI],h.vars,h.af,fun i hi=>?_,h.vr,h.cl,h.cv,h.hold⟩;simp only [V0.go,b12 (by rw [h.aI];exact hp)];split
 ·rename_i e;subst e;exact ht
 ·exact h.pl i hi
theorem a2O.hd {mo:Mo} {st:V0} (h:a2O mo st) {z:Int} (hz:-1<=z/\z<(mo.procs.length:Int)):a2O mo { st with hold:=z }:=⟨h.aI,h.vars,h.af,h.pl,h.vr,h.cl,h.cv,hz⟩
theorem a2O.act {mo:Mo} (hf:a0J mo) {st:V0} (h:a2O mo st) {pl:Nat} {vs:List Nat} {e:Ed} (he:a5O mo.tree mo.af.length pl vs e) (hv:∀v∈vs,v<mo.vars.length) (h2:e.act=2->((V8 st.af e.chan.toNat).length:Int)<(U7 mo.af e.chan.toNat).room) (n:Int):a2O mo (mo.actS st e n):=by
 unfold Mo.actS;split
 ·rename_i h1
  obtain ⟨k,hk,e1⟩:=he.v1 (.inl h1);rw [e1,Int.toNat_natCast];exact h.var hf (hv k hk) n
 split
 ·rename_i _ h1
  obtain ⟨k,e1,hk⟩:=he.c1 (.inl h1);have h2:=h2 h1;rw [e1,Int.toNat_natCast] at *;refine h.chan hk (by simp;omega) fun z hz=>?_
  rcases List.mem_append.1 hz with hz | hz
  ·exact h.cv k hk z hz
  ·simp only [List.mem_singleton] at hz
   subst hz;have:=hf.ch _ (a41 hk);exact b7A (by omega)
 split
 ·rename_i _ _ h1
  obtain ⟨k,hk,e1⟩:=he.v1 (.inr h1);obtain ⟨q,e2,hq⟩:=he.c1 (.inr h1);rw [e1,e2,Int.toNat_natCast,Int.toNat_natCast];have h3:=h.var hf (hv k hk) (Y8 (V8 st.af q) 0);refine h3.chan hq ?_ fun z hz=>?_
  ·have:=h.cl q hq
   rw [List.length_drop];omega
  ·exact h.cv q hq z (List.mem_of_mem_drop hz)
 ·exact h
theorem c2G {mo:Mo} (ho:Z8 mo) (hf:a0J mo) {st:V0} (h:a2O mo st) {p:Nat} (hp:p<mo.procs.length) {e:Ed} (he:e∈(U4 mo.procs p).ak) (lV:mo.can st p (U4 mo.procs p) e=true):a2O mo (mo.cQ st p (U4 mo.procs p) e):=by
 have jc:=ho.pr _ (a3w hp);have qj:=jc.inv.ed e he;unfold Mo.cQ V0.free;refine a2O.hd ?_ ⟨by omega,by omega⟩;refine (h.go hp qj.to).act hf qj jc.var (fun h2=>?_) _;unfold Mo.can at lV;simp only [h2,if_true,Bool.and_eq_true,decide_eq_true_eq] at lV;exact lV.2
theorem b5P {mo:Mo} (ho:Z8 mo) (hf:a0J mo) {st:V0} (h:Fit mo st) {v:Mv} (hv:mo.mvOk st v):Fit mo (mo.eY st v):=by
 have h:=a59.2 h;refine a59.1 ?_;unfold Mo.eY;rcases hv with ⟨hk,hp,he,lV⟩ | ⟨hk,hc,hlen⟩ | ⟨hk,hc,hlen,jh⟩
 ·rw [if_neg (by omega),if_neg (by omega)]
  unfold Mo.doE;refine (c2G ho hf h hp (a6h he) lV).hd ?_;split<;>constructor<;>omega
 ·rw [if_pos hk]
  refine h.chan hc ?_ fun z hz=>h.cv _ hc z (List.mem_of_mem_drop hz)
  have:=h.cl _ hc;rw [List.length_drop];omega
 ·rw [if_neg (by omega),if_pos hk]
  refine h.chan hc (by simp;omega) fun z hz=>?_
  rcases List.mem_append.1 hz with hz | hz
  ·exact h.cv _ hc z hz
  ·simp only [List.mem_singleton] at hz
   subst hz;exact h.cv _ hc _ (b3e hlen)
theorem b72 {α:Type} (n:Nat) (a:α):List.replicate (n+1) a=List.replicate n a++[a]:=List.replicate_succ'
theorem c2Q (n:Nat):a0x (List.replicate n 0)++[[.int .i64 0]]=a0x (List.replicate (n+1) 0):=by
 rw [b72];simp [a0x]
theorem c1k {l:List Int} {i:Nat} (h:i<l.length):a4c (l.take i)++[[.int .i64 (Y8 l i)]]=a4c (l.take (i+1)):=by
 rw [a3D h,List.take_add_one,List.getElem?_eq_getElem h];unfold a4c;rw [List.map_append];rfl
def Mo.cX (mo:Mo):List Int:=mo.vars.map Vr.value
theorem b6h {mo:Mo} {i:Nat} (h:i<mo.vars.length):Y8 mo.cX i=(cd mo.vars i).value:=by
 rw [a3D (by simpa [Mo.cX] using h),a3q h];simp [Mo.cX]
def a5B (n:Nat):List (List D):=List.replicate n [.ag]
theorem c0Y (n:Nat):∀r∈a5B n,r.length=1:=fun r h=>by rw [List.eq_of_mem_replicate h];rfl
theorem b9J (n:Nat):a5B n++[[.ag]]=a5B (n+1):=(b72 n _).symm
theorem Hp.addR1 {s:k4} {W R:Hs} (h:Hp s W R) {id:Nat} {cs:List D} (hg:s.get id=some (.cells cs)) (h1:∀w∈W,w.1≠id):Hp s W ((id,cs)::R):=by
 refine ⟨h.nd,?_,h.w,?_⟩
 ·intro w hw r hr
  rcases List.mem_cons.1 hr with rfl | hr
  ·exact h1 w hw
  ·exact h.ap w hw r hr
 ·intro r hr
  rcases List.mem_cons.1 hr with rfl | hr
  ·exact hg
  ·exact h.r r hr
theorem b8d {n:Nat} {j:Nat}:V8 (List.replicate n []) j=[]:=by
 unfold V8;simp only [List.getD,List.getElem?_replicate];split<;>rfl
structure fA (f g:Ft):Prop where
 r:∀b,f.reads.testBit b=true->g.reads.testBit b=true
 z:∀b,f.eB.testBit b=true->g.eB.testBit b=true
theorem fA.refl (f:Ft):fA f f:=⟨fun _ h=>h,fun _ h=>h⟩
theorem fA.trans {f g h:Ft} (a:fA f g) (b:fA g h):fA f h:=⟨fun x k=>b.r x (a.r x k),fun x k=>b.z x (a.z x k)⟩
theorem c1z {ch:List ByteArray} {vb:ByteArray->Nat} {x:Nd} {f:Ft}:fA f (a7e ch vb x f):=by
 unfold a7e;split
 ·exact ⟨fun b h=>by simp only [Nat.testBit_or,h,Bool.true_or],fun _ h=>h⟩
 split
 ·exact ⟨fun _ h=>h,fun b h=>by simp only [Nat.testBit_or,h,Bool.true_or]⟩
 split
 ·exact ⟨fun _ h=>h,fun _ h=>h⟩
 ·exact .refl _
theorem b1y {g:Ft->Nat->Ft} (hg:∀f k,fA f (g f k)):∀ {l:List Nat} {f:Ft},fA f (l.foldl g f)
 | [],f=>.refl f
 | k::l,f=>(hg f k).trans (b1y hg (l:=l))
theorem b2Y {t:List Nd} {ch:List ByteArray} {vb:ByteArray->Nat}:∀ (n k:Nat) (f:Ft),fA f (a6m t ch vb n k f)
 | 0,k,f=>.refl f
 | n+1,k,f=>by
   unfold a6m;exact c1z.trans (b1y fun f k=>b2Y n k f)
theorem b5m {g:Ft->Nat->Ft} (hg:∀f k,fA f (g f k)):∀ {l:List Nat} {f:Ft} {k:Nat},k∈l->∃f',fA (g f' k) (l.foldl g f)
 | x::l,f,k,h=>by
   rcases List.mem_cons.1 h with rfl | h
   ·exact ⟨f,b1y hg (l:=l)⟩
   ·exact b5m hg (l:=l) h
structure a5w (f:Ft) (st iE:V0):Prop where
 r:∀b,f.reads.testBit b=true->Y8 st.vars b=Y8 iE.vars b
 z:∀b,f.eB.testBit b=true->(V8 st.af b).length=(V8 iE.af b).length
theorem a5w.inc {f g:Ft} {st iE:V0} (h:a5w g st iE) (k:fA f g):a5w f st iE:=⟨fun b hb=>h.r b (k.r b hb),fun b hb=>h.z b (k.z b hb)⟩
theorem b6t {t:List Nd} (ht:a11 t) {ch:List ByteArray} {vb:ByteArray->Nat} {look:ByteArray->Option Nat} (hl:∀w v,look w=some v->vb w=2 ^ v) {st iE:V0}:∀ (n k:Nat) (f0:Ft),k<t.length->a2Y (nd t k).kind->a5w (a6m t ch vb n k f0) st iE->a0R t ch look st n k=a0R t ch look iE n k
 | 0,k,f0,_,_,_=>rfl
 | n+1,k,f0,hk,hx,ha=>by
   have hD:=ht.node k hk;obtain ⟨_,xE⟩:=b2U hD hx;have rE:∀i,i<(nd t k).kids.length->a0R t ch look st n ((nd t k).aC i)=a0R t ch look iE n ((nd t k).aC i):=fun i hi=>by
    have hm:=a1U hi;have hc:=ht.ks hk _ hm;obtain ⟨f',tH⟩:=b5m (g:=fun f c=>a6m t ch vb n c f) (fun f c=>b2Y n c f) (f:=a7e ch vb (nd t k) f0) hm;exact b6t ht hl n _ f' hc.2 (xE i hi) (ha.inc tH)
   have h1:fA (a7e ch vb (nd t k) f0) (a6m t ch vb (n+1) k f0):=b1y fun f k=>b2Y n k f
   have hb:=ha.inc h1;unfold a0R;simp only;by_cases oe:(nd t k).kind=17
   ·simp only [oe,if_true]
   simp only [oe,if_false];by_cases nC:(nd t k).kind=18
   ·simp only [nC,if_true]
    cases jA:look ((nd t k).word 0) with
    | none=>rfl
    | some v =>
      have e:Y8 st.vars v=Y8 iE.vars v:=hb.r v (by
       unfold a7e;rw [if_pos nC];simp only [Nat.testBit_or,hl _ _ jA,Nat.testBit_two_pow_self,Bool.or_true])
      simp only [e]
   simp only [nC,if_false];by_cases nY:(nd t k).kind=19
   ·simp only [nY,if_true]
    split
    ·rename_i hi
     have e:=hb.z (a3v ch ((nd t k).word 0)) (by
      unfold a7e chB;rw [if_neg nC,if_pos nY,if_pos hi];simp only [Nat.testBit_or,Nat.testBit_two_pow_self,Bool.or_true])
     rw [e]
    ·rfl
   simp only [nY,if_false];by_cases qT:(nd t k).kind=20
   ·have:=(hD.one (by omega)).1
    simp only [qT,if_true,rE 0 (by omega)]
   simp only [qT,if_false];by_cases qm:(nd t k).kind=21
   ·have:=(hD.one (by omega)).1
    simp only [qm,if_true,rE 0 (by omega)]
   simp only [qm,if_false];by_cases oN:(nd t k).kind=22
   ·have:=(hD.bin oN).1
    simp only [oN,if_true,rE 0 (by omega),rE 1 (by omega)]
   simp only [oN,if_false]
theorem look_p {p:Pr} {w:ByteArray} {v:Nat} (h:a0Z p w=some v):a8H p.names p.vars w=2 ^ v:=by
 unfold a0Z at h;unfold a8H;split at h
 ·rename_i hi
  simp only [Option.some.injEq] at h;rw [if_pos hi,h]
 ·cases h
theorem c34 (mo:Mo) (p:Pr) (e:Ed):fA (a93 mo p e) (a9m mo p e)/\fA (a9m mo p e) (a93 mo p e):=by
 rw [c4A];unfold actF;constructor<;>(split;exact ⟨fun _ h=>h,fun _ h=>h⟩;split;exact ⟨fun _ h=>h,fun _ h=>h⟩;split;exact ⟨fun _ h=>h,fun _ h=>h⟩;exact .refl _)
theorem c0b {mo:Mo} (ho:Z8 mo) {p:Pr} (hp:PrOk mo p) {e:Ed} (he:e∈p.ak) {st iE:V0} (h:a5w (a9m mo p e) st iE) (z:Int):mo.ex p st e z=mo.ex p iE e z:=by
 have qj:=hp.inv.ed e he;unfold Mo.ex;split
 ·rename_i h0
  have hx:e.act=1∨e.act=2∨e.act=4∨e.act=5:=by
   have:=qj.ex0;have:=qj.act;omega
  obtain ⟨n,hn,oU,wS⟩:=qj.gD hx;rw [hn,Int.toNat_natCast];refine b6t ho.tree (vb:=a8H p.names p.vars) (fun w v h=>look_p h) _ n ⟨0,0,0,0,0,false⟩ oU wS ?_;have:=h.inc (c34 mo p e).1;unfold a93 at this;rw [if_pos h0,hn,Int.toNat_natCast] at this;exact this
 ·rfl
def bO {α:Type} (l:List α):Option (Nat×α)->List α
 | none=>l
 | some (i,x)=>l.set i x
def Mo.wV (mo:Mo) (l:List Int) (e:Ed) (n:Int):Option (Nat×Int) :=
 if e.act=1 then some (e.var.toNat,W9 n (cd mo.vars e.var.toNat).width.toNat)
 else if e.act=3 then some (e.var.toNat,W9 (Y8 l 0) (cd mo.vars e.var.toNat).width.toNat) else none
def Mo.wC (mo:Mo) (l:List Int) (e:Ed) (n:Int):Option (Nat×List Int) :=
 if e.act=2 then some (e.chan.toNat,l++[W9 n (U7 mo.af e.chan.toNat).width.toNat])
 else if e.act=3 then some (e.chan.toNat,l.drop 1) else none
theorem c5v {mo:Mo} {st:V0} {e:Ed} {n:Int}:mo.actS st e n=⟨st.aI,bO st.vars (mo.wV (V8 st.af e.chan.toNat) e n),bO st.af (mo.wC (V8 st.af e.chan.toNat) e n),st.hold⟩:=by
 unfold Mo.actS Mo.wV Mo.wC;by_cases a1:e.act=1
 ·simp [a1,bO]
 by_cases a2:e.act=2
 ·simp [a2,bO]
 by_cases a3:e.act=3
 ·simp [a3,bO]
 ·simp [a1,a2,a3,bO]
theorem b6F {mo:Mo} {st:V0} {i:Nat} {p:Pr} {e:Ed}:mo.cQ st i p e=⟨st.aI.set i e.to,bO st.vars (mo.wV (V8 st.af e.chan.toNat) e (mo.ex p st e 0).1),bO st.af (mo.wC (V8 st.af e.chan.toNat) e (mo.ex p st e 0).1),-1⟩:=by
 unfold Mo.cQ;rw [c5v];rfl
theorem a5w.hold {f:Ft} {st iE:V0} (h:a5w f st iE) (z:Int):a5w f st { iE with hold:=z }:=⟨h.r,h.z⟩
theorem b4H {α β:Type} {P:β->Prop} {g:β->α->β}:∀ {l:List α} {a:β},P a->(∀a x,x∈l->P a->P (g a x))->P (l.foldl g a)
 | [],a,h,_=>h
 | x::l,a,h,hg=>b4H (l:=l) (hg a x (by simp) h) fun a y hy=>hg a y (by simp [hy])
def ChFi (c:Ch):Prop:=1<=c.room/\c.room<=3/\1<=c.width/\c.width<=8
def a6C (v:Vr):Prop:=1<=v.width/\v.width<=8/\W9 v.value v.width.toNat=v.value
theorem c0u {t:List Nd} (hY:a3m t) {k:Nat} (hk:k<t.length) (h:(nd t k).kind=1):ChFi (a76 (nd t k)):=by
 have:=(hY.gF k hk).chan h;exact ⟨this.1,this.2.1,this.2.2.1,this.2.2.2.1⟩
theorem b7F {t:List Nd} (hY:a3m t) {k:Nat} (hk:k<t.length) (h:(nd t k).kind=2):a6C (a4K (nd t k)):=by
 have:=(hY.gF k hk).var h;exact ⟨this.1,this.2.1,this.2.2.1⟩
theorem gat_fi {t:List Nd} (ht:a11 t) (hY:a3m t):(∀c∈(W4 t).ch,ChFi c)/\∀v∈(W4 t).vs,a6C v:=by
 unfold W4 a05;refine b4H (P:=fun (a:Ga)=>(∀c∈a.ch,ChFi c)/\∀v∈a.vs,a6C v) (by simp) fun (a:Ga) k hk ha=>?_
 have iZ:=(ht.ks ht.pos k hk).2;unfold bb;split
 ·rename_i h1
  refine ⟨fun c hc=>?_,ha.2⟩;rcases List.mem_append.1 hc with hc | hc
  ·exact ha.1 c hc
  ·simp only [List.mem_singleton] at hc
   subst hc;exact c0u hY iZ h1
 split
 ·rename_i h1
  refine ⟨ha.1,fun c hc=>?_⟩;rcases List.mem_append.1 hc with hc | hc
  ·exact ha.2 c hc
  ·simp only [List.mem_singleton] at hc
   subst hc;exact b7F hY iZ h1
 split
 ·exact ha
 split
 ·exact ha
 ·exact ha
theorem c2s {t:List Nd} (ht:a11 t) (hY:a3m t) {k:Nat} (hk:k<t.length):∀v∈(a1i t (nd t k)).map a4K,a6C v:=by
 intro v hv;obtain ⟨x,hx,rfl⟩:=List.mem_map.1 hv;obtain ⟨j,hj,rfl⟩:=List.mem_map.1 hx;obtain ⟨i,hi,e⟩:=List.getElem_of_mem hj;have oK:i<a0b t (nd t k)/\i<(nd t k).ks.length:=by
  rw [List.length_take] at hi;omega
 rw [List.getElem_take] at e;have h2:=b1b oK.1 oK.2;rw [e] at h2;have hm:=ht.ks hk j (by rw [<- e];exact List.getElem_mem _);exact b7F hY hm.2 h2
theorem b6e {t:List Nd} (ht:a11 t) (hY:a3m t) {ch:List ByteArray} {k seen:Nat} (hk:k<t.length):∀ (c:Nat) (a:List Vr×List Pr),(∀v∈a.1,a6C v)->∀v∈(a06 t ch k seen c a).1,a6C v
 | 0,a,h=>h
 | c+1,a,h=>by
   intro v hv;unfold a06 at hv;rcases List.mem_append.1 hv with hv | hv
   ·exact b6e ht hY hk c a h v hv
   ·exact c2s ht hY hk v hv
theorem c4p {t:List Nd} (hR:Y9 t) (hY:a3m t):a0J (a7X t):=by
 have ht:=hR.ok;obtain ⟨h1,h2⟩:=gat_fi ht hY;refine ⟨h1,?_⟩;show ∀v∈(eL t).vs,a6C v
 unfold eL a2h;refine b4H (P:=fun (a:Gb)=>∀v∈a.vs,a6C v) h2 fun a k hk ha=>?_
 have iZ:=(ht.ks ht.pos k hk).2;unfold a3J;split
 ·exact b6e ht hY iZ _ _ ha
 split
 ·exact ha
 ·exact ha
section
variable {mo:Mo} {st:V0}
theorem b5I {i j:Nat} {v:Mv} (h:v∈mo.gh st i j):v.kind=0/\v.proc=i/\v.bn<j/\mo.can st i (U4 mo.procs i) (bc (U4 mo.procs i).ak v.bn)=true:=by
 unfold Mo.gh at h;obtain ⟨k,hk,rfl⟩:=List.mem_map.1 h;obtain ⟨h1,h2⟩:=List.mem_filter.1 hk;exact ⟨rfl,rfl,List.mem_range.1 h1,h2⟩
theorem b7I {i:Nat} {v:Mv} (h:v∈mo.cu st i):v∈mo.gh st i (U4 mo.procs i).ak.length/\¬ (0<=st.hold/\st.hold≠(i:Int)):=by
 rw [Mo.bT] at h;split at h
 ·cases h
 ·rename_i c;exact ⟨h,c⟩
theorem b9d {c:Nat} {v:Mv} (h:v∈mo.aY st c):(v.kind=1∨v.kind=2)/\v.chan=c/\0<(V8 st.af c).length/\(v.kind=2->((V8 st.af c).length:Int)<(U7 mo.af c).room):=by
 unfold Mo.aY at h;rcases List.mem_append.1 h with h | h
 ·split at h
  ·rename_i hc
   simp only [Bool.and_eq_true,decide_eq_true_eq] at hc;simp only [List.mem_singleton] at h;subst h;exact ⟨.inl rfl,rfl,hc.2,fun e=>by cases e⟩
  ·cases h
 ·split at h
  ·rename_i hc
   simp only [Bool.and_eq_true,decide_eq_true_eq] at hc;simp only [List.mem_singleton] at h;subst h;exact ⟨.inr rfl,rfl,hc.1.2,fun _=>hc.2⟩
  ·cases h
theorem b57 {v:Mv} (h:v∈mo.aQ st):mo.mvOk st v:=by
 unfold Mo.aQ at h;rcases List.mem_append.1 h with h | h
 ·obtain ⟨i,hi,hv⟩:=List.mem_flatMap.1 h
  obtain ⟨h1,_⟩:=b7I hv;obtain ⟨a,b,c,d⟩:=b5I h1;subst b;exact .inl ⟨a,List.mem_range.1 hi,c,d⟩
 ·split at h
  ·obtain ⟨c,hc,hv⟩:=List.mem_flatMap.1 h
   obtain ⟨a,rfl,b,d⟩:=b9d hv;rcases a with a | a
   ·exact .inr (.inl ⟨a,List.mem_range.1 hc,b⟩)
   ·exact .inr (.inr ⟨a,List.mem_range.1 hc,b,d a⟩)
  ·cases h
theorem b68 {v:Mv} (h0:v.kind=0):mo.eY st v=mo.doE st v.proc (U4 mo.procs v.proc) (bc (U4 mo.procs v.proc).ak v.bn):=by
 unfold Mo.eY;rw [if_neg (by omega),if_neg (by omega)]
theorem nat_z {a:Nat}:((a:Int)=0)=(a=0):=by apply propext;omega
attribute [go_sem] nat_z
end
def bL (n:Int) (w:Nat):List Bool:=(List.range w).map (V7 n)
def aB (l:List Bool) (i:Nat):Bool:=l.getD i false
@[simp] theorem a0Q (n:Int) (w:Nat):(bL n w).length=w:=by simp [bL]
theorem b4I (n:Int) (w:Nat):bL n (w+1)=bL n w++[V7 n w]:=by simp [bL,List.range_succ]
theorem a9F {n:Int} {w i:Nat} (h:i<w):aB (bL n w) i=V7 n i:=by simp [bL,aB,List.getD,h]
theorem b7b {l:List Bool} {i:Nat} (h:i<l.length):aB l i=l[i]:=by simp [aB,List.getD,h]
theorem b5n {l r:List Bool} {i:Nat} (h:i<l.length):aB (l++r) i=aB l i:=by
 unfold aB List.getD;rw [List.getElem?_append_left h]
theorem b8S {n:Int} {w:Nat} {r:List Bool}:(num (aB (bL n w++r)) w:Int)=n % 2 ^ w:=by
 rw [<- a5C];congr 1
 exact a3X fun i hi=>by rw [b5n (by simpa using hi),a9F hi]
theorem b1B {n:Int} {w:Nat} {r:List Bool} (h:0<w):Y7 (aB (bL n w++r)) w=W9 n w:=by
 rw [<- b1g h];exact b1G h fun i hi=>by rw [b5n (by simpa using hi),a9F hi]
theorem b9w {a b:Int} {w:Nat} (h:a % 2 ^ w=b % 2 ^ w):bL a w=bL b w:=by
 unfold bL;refine List.map_congr_left fun i hi=>?_
 have hi:=List.mem_range.1 hi;have e:num (V7 a) w=num (V7 b) w:=by
  have:=a5C a w;have:=a5C b w;omega
 exact b0z e i hi
theorem a9K {l:List Bool} {w:Nat} (h:w<=l.length):bL (num (aB l) w:Int) w=l.take w:=by
 refine List.ext_getElem (by simp;omega) fun i h1 h2=>?_
 have hi:i<w:=by simpa using h1
 rw [List.getElem_take];have e:num (V7 (num (aB l) w:Int)) w=num (aB l) w:=by
  have h3:=a5C (num (aB l) w:Int) w;have h4:=a1K (aB l) w
  rw [Int.emod_eq_of_lt (by omega) (by have:((2 ^ w:Nat):Int)=2 ^ w:=by simp
                                       omega)] at h3
  omega
 have:=b0z e i hi;rw [<- b7b h1,a9F hi,this,b7b (by omega)]
theorem b2j {l:List Bool} {w:Nat} (h0:0<w) (h:w<=l.length):bL (Y7 (aB l) w) w=l.take w:=by
 rw [<- a9K h];exact b9w (a5J h0)
structure Code {α β:Type} (A:α->Prop) (sz:α->Nat) (e:α->β->List Bool) (d:α->List Bool->Option (β×List Bool)) (V:α->β->Prop):Prop where
 enc:∀a b r,A a->V a b->d a (e a b++r)=some (b,r)
 dec:∀a l b r,A a->sz a<=l.length->d a l=some (b,r)->V a b/\l=e a b++r
 len:∀a b,V a b->(e a b).length=sz a
def a0L {α β:Type} (e:α->β->List Bool):List α->List β->List Bool
 | a::as',b::bs'=>e a b++a0L e as' bs'
 | _,_=>[]
def a83 {α β:Type} (d:α->List Bool->Option (β×List Bool)):List α->List Bool->Option (List β×List Bool)
 | [],l=>some ([],l)
 | a::as',l=>match d a l with
   | some (b,r)=>match a83 d as' r with
     | some (bs',r')=>some (b::bs',r')
     | none=>none
   | none=>none
def a5T {α β:Type} (V:α->β->Prop):List α->List β->Prop
 | [],[]=>True
 | a::as',b::bs'=>V a b/\a5T V as' bs'
 | _,_=>False
def cy {α:Type} (sz:α->Nat) (l:List α):Nat:=(l.map sz).sum
theorem b3L {α β:Type} {A:α->Prop} {sz:α->Nat} {e:α->β->List Bool} {d:α->List Bool->Option (β×List Bool)} {V:α->β->Prop} (h:Code A sz e d V):Code (fun l=>∀a∈l,A a) (cy sz) (a0L e) (a83 d) (a5T V) where
 enc:=by
  intro a;induction a with
  | nil=>intro b r ha hv;cases b with
    | nil=>rfl
    | cons _ _=>exact hv.elim
  | cons x a ih=>intro b r ha hv;cases b with
    | nil=>exact hv.elim
    | cons y b =>
      simp only [a0L,a83,List.append_assoc];rw [h.enc x y _ (ha x (by simp)) hv.1];simp only [ih b r (fun z hz=>ha z (by simp [hz])) hv.2]
 dec:=by
  intro a;induction a with
  | nil=>intro l b r _ _ hd
         simp only [a83,Option.some.injEq,Prod.mk.injEq] at hd;obtain ⟨rfl,rfl⟩:=hd;exact ⟨trivial,rfl⟩
  | cons x a ih =>
    intro l b r ha hl hd;simp only [cy,List.map_cons,List.sum_cons] at hl;simp only [a83] at hd;split at hd
    ·rename_i y r1 h1
     obtain ⟨v1,e1⟩:=h.dec x l y r1 (ha x (by simp)) (by omega) h1;have hlen:=h.len x y v1;split at hd
     ·rename_i ys r2 h2
      simp only [Option.some.injEq,Prod.mk.injEq] at hd;obtain ⟨rfl,rfl⟩:=hd;have:l.length=(e x y).length+r1.length:=by rw [e1,List.length_append]
      obtain ⟨v2,e2⟩:=ih r1 ys r2 (fun z hz=>ha z (by simp [hz])) (by unfold cy;omega) h2;exact ⟨⟨v1,v2⟩,by rw [e1,e2];simp [a0L]⟩
     ·cases hd
    ·cases hd
 len:=by
  intro a;induction a with
  | nil=>intro b hv;cases b with
    | nil=>rfl
    | cons _ _=>exact hv.elim
  | cons x a ih=>intro b hv;cases b with
    | nil=>exact hv.elim
    | cons y b=>simp only [a0L,List.length_append,cy,List.map_cons,List.sum_cons,h.len x y hv.1];rw [ih b hv.2];rfl
def a5p (n:Int):Nat->Nat->Nat
 | 0,w=>w
 | f+1,w=>if w<16/\(2:Int) ^ w<n then a5p n f (w+1) else w
def Z1 (n:Int):Nat:=a5p n 15 1
theorem b8b {n:Int}:∀ {f w:Nat},1<=w->w+f<=16->1<=a5p n f w/\a5p n f w<=16
 | 0,w,h1,h2=>by simp only [a5p];omega
 | f+1,w,h1,h2=>by
   unfold a5p;split
   ·exact b8b (by omega) (by omega)
   ·omega
theorem a4R (n:Int):1<=Z1 n/\Z1 n<=16:=b8b (by omega) (by omega)
theorem b5r {n:Int} (hn:n<=65536):∀ {f w:Nat},w+f=16->n<=2 ^ a5p n f w
 | 0,w,h=>by
   obtain rfl:w=16:=by omega
   simp only [a5p];omega
 | f+1,w,h=>by
   unfold a5p;split
   ·exact b5r hn (by omega)
   ·rename_i c
    omega
theorem b3F {n:Int} (hn:n<=65536):n<=2 ^ Z1 n:=b5r hn (by omega)
def a38 (p:Pr) (n:Nat):List Bool:=bL (n:Int) (Z1 (p.ah:Int))
def decP (p:Pr) (l:List Bool):Option (Nat×List Bool):=if num (aB l) (Z1 (p.ah:Int))<p.ah then some (num (aB l) (Z1 (p.ah:Int)),l.drop (Z1 (p.ah:Int))) else none
theorem b4n {l:List Bool} (w:Nat):l=l.take w++l.drop w:=(List.take_append_drop w l).symm
theorem a8S {n:Int} {w:Nat} {r:List Bool}:(bL n w++r).drop w=r:=by
 have:=List.drop_left (l₁:=bL n w) (l₂:=r);rwa [a0Q] at this
theorem c1Z (w:Nat):((2 ^ w:Nat):Int)=2 ^ w:=by simp
theorem codeP:Code (fun p:Pr=>p.ah<=65536) (fun p:Pr=>Z1 (p.ah:Int)) a38 decP (fun p n=>n<p.ah) where
 enc:=by
  intro p n r ha h;have h1:=b3F (n:=(p.ah:Int)) (by have:p.ah<=65536:=ha;omega);have e:num (aB (a38 p n++r)) (Z1 (p.ah:Int))=n:=by
   have:=b8S (n:=(n:Int)) (w:=Z1 (p.ah:Int)) (r:=r);rw [Int.emod_eq_of_lt (by omega) (by omega)] at this;unfold a38;omega
  unfold decP;rw [e,if_pos h];unfold a38;rw [a8S]
 dec:=by
  intro p l b r ha hl hd;unfold decP at hd;split at hd
  ·rename_i c
   simp only [Option.some.injEq,Prod.mk.injEq] at hd;obtain ⟨rfl,rfl⟩:=hd;refine ⟨c,?_⟩;unfold a38;rw [a9K hl];exact b4n _
  ·cases hd
 len:=by intro p n h;simp [a38]
def a4b (v:Vr) (n:Int):List Bool:=bL n v.width.toNat
def decV (v:Vr) (l:List Bool):Option (Int×List Bool):=some (Y7 (aB l) v.width.toNat,l.drop v.width.toNat)
theorem codeV:Code (fun v:Vr=>1<=v.width) (fun v:Vr=>v.width.toNat) a4b decV (fun v n=>W9 n v.width.toNat=n) where
 enc:=by
  intro v n r ha h;have ha:1<=v.width:=ha;unfold decV a4b;rw [b1B (by omega),h,a8S]
 dec:=by
  intro v l b r ha hl hd;have ha:1<=v.width:=ha;unfold decV at hd;simp only [Option.some.injEq,Prod.mk.injEq] at hd;obtain ⟨rfl,rfl⟩:=hd;refine ⟨b0R (by omega),?_⟩;unfold a4b;rw [b2j (by omega) hl];exact b4n _
 len:=by intro v n h;simp [a4b]
def a1V (w:Nat) (l:List Int):Nat->List Bool
 | 0=>[]
 | k+1=>a1V w l k++bL (Y8 l k) w
def a3r (c:Ch) (l:List Int):List Bool:=bL (l.length:Int) 2++a1V c.width.toNat l c.room.toNat
def a3g (w n:Nat):Nat->List Bool->List Int×Bool×List Bool
 | 0,l=>([],true,l)
 | k+1,l=>let x:=a3g w n k l
   if k<n then (x.1++[Y7 (aB x.2.2) w],x.2.1,x.2.2.drop w) else (x.1,x.2.1&&decide (Y7 (aB x.2.2) w=0),x.2.2.drop w)
def decC (c:Ch) (l:List Bool):Option (List Int×List Bool) :=
 let x:=a3g c.width.toNat (num (aB l) 2) c.room.toNat (l.drop 2)
 if (num (aB l) 2:Int)<=c.room/\x.2.1=true then some (x.1,x.2.2) else none
theorem b0t (w:Nat) (l:List Int):∀k,(a1V w l k).length=k*w
 | 0=>by simp [a1V]
 | k+1=>by simp [a1V,b0t w l k,Nat.succ_mul]
theorem b33 (w n:Nat):∀k l,(a3g w n k l).2.2=l.drop (k*w)
 | 0,l=>by simp [a3g]
 | k+1,l=>by
   unfold a3g;simp only;split<;>simp only [b33 w n k l,List.drop_drop,Nat.succ_mul]
theorem b0G (w n:Nat):∀k l,(a3g w n k l).1.length=min k n
 | 0,l=>by simp [a3g]
 | k+1,l=>by
   unfold a3g;simp only;split
   ·simp only [List.length_append,b0G w n k l,List.length_singleton];omega
   ·simp only [b0G w n k l];omega
theorem b4X {w:Nat} (h:0<w):W9 0 w=0:=by
 have:=a7G h;have:=a5u (w-1);exact a6i h (by omega) (by omega)
theorem b8W {w:Nat} (hw:0<w) {l:List Int} (hl:∀n∈l,W9 n w=n):∀k r,a3g w l.length k (a1V w l k++r)=(l.take k,true,r)
 | 0,r=>by simp [a3g,a1V]
 | k+1,r=>by
   unfold a3g a1V;rw [List.append_assoc,b8W hw hl k];simp only;split
   ·rename_i hk
    have hz:Y8 l k=l[k]:=a3D hk;rw [b1B hw,hz,hl _ (List.getElem_mem hk),a8S,List.take_succ_eq_append_getElem hk]
   ·rename_i hk
    have hz:Y8 l k=0:=by simp [Y8,List.getD,List.getElem?_eq_none (by omega:l.length<=k)]
    rw [b1B hw,hz,b4X hw,a8S,List.take_of_length_le (by omega),List.take_of_length_le (by omega)];simp
theorem b1V {w n:Nat} (hw:0<w):∀k l,∀x∈(a3g w n k l).1,W9 x w=x
 | 0,l,x,hx=>by simp [a3g] at hx
 | k+1,l,x,hx=>by
   unfold a3g at hx;simp only at hx;split at hx
   ·rcases List.mem_append.1 hx with hx | hx
    ·exact b1V hw k l x hx
    ·simp only [List.mem_singleton] at hx
     subst hx;exact b0R hw
   ·exact b1V hw k l x hx
theorem c31 {l:List Int} {x:Int} {k:Nat} (h:k<l.length):Y8 (l++[x]) k=Y8 l k:=by
 unfold Y8 List.getD;rw [List.getElem?_append_left h]
theorem b6P {w:Nat} {l:List Int} {x:Int}:∀ {k},k<=l.length->a1V w (l++[x]) k=a1V w l k
 | 0,_=>rfl
 | k+1,h=>by
   unfold a1V;rw [b6P (by omega),c31 (by omega)]
theorem b2P {w n:Nat} (hw:0<w):∀k l,k*w<=l.length->(a3g w n k l).2.1=true->a1V w (a3g w n k l).1 k=l.take (k*w)
 | 0,l,_,_=>by simp [a1V]
 | k+1,l,hl,ht=>by
   have jA:k*w<=l.length:=by rw [Nat.succ_mul] at hl;omega
   have hd:=b33 w n k l;have hn:=b0G w n k l;unfold a3g at ht ⊢;simp only at ht ⊢;have hlen:w<=(l.drop (k*w)).length:=by rw [List.length_drop];rw [Nat.succ_mul] at hl;omega
   have hv:=b2j hw hlen;have kC:l.take ((k+1)*w)=l.take (k*w)++(l.drop (k*w)).take w:=by rw [Nat.succ_mul,List.take_add]
   split at ht
   ·rename_i hk
    simp only [hk,if_true] at ht ⊢;have ih:=b2P hw k l jA ht;unfold a1V;rw [b6P (by omega),ih,kC,<- hv,hd];congr 2
    have e:(a3g w n k l).1.length=k:=by omega
    unfold Y8 List.getD;rw [List.getElem?_append_right (by omega),e,Nat.sub_self];rfl
   ·rename_i hk
    simp only [hk,if_false,Bool.and_eq_true,decide_eq_true_eq] at ht ⊢;have ih:=b2P hw k l jA ht.1;have h0:=ht.2;rw [hd] at h0;unfold a1V;rw [ih,kC,<- hv,h0];congr 2
    unfold Y8 List.getD;rw [List.getElem?_eq_none (by omega)];rfl
theorem codeC:Code (fun c:Ch=>1<=c.width/\1<=c.room/\c.room<=3) (fun c:Ch=>2+c.room.toNat*c.width.toNat) a3r decC (fun c l=>(l.length:Int)<=c.room/\∀n∈l,W9 n c.width.toNat=n) where
 enc:=by
  intro c l r ha h;obtain ⟨a1,a2,a3⟩:=ha;have e:num (aB (a3r c l++r)) 2=l.length:=by
   have:=b8S (n:=(l.length:Int)) (w:=2) (r:=a1V c.width.toNat l c.room.toNat++r);rw [Int.emod_eq_of_lt (by omega) (by omega)] at this;unfold a3r;rw [List.append_assoc];omega
  unfold decC;simp only [e];have e2:(a3r c l++r).drop 2=a1V c.width.toNat l c.room.toNat++r:=by
   unfold a3r;rw [List.append_assoc,a8S]
  rw [e2,b8W (by omega) h.2];simp only [h.1,and_self,if_true];rw [List.take_of_length_le (by omega)]
 dec:=by
  intro c l b r ha hl hd;obtain ⟨a1,a2,a3⟩:=ha;unfold decC at hd;simp only at hd;split at hd
  ·rename_i c1
   simp only [Option.some.injEq,Prod.mk.injEq] at hd;obtain ⟨rfl,rfl⟩:=hd;have hn:=b0G c.width.toNat (num (aB l) 2) c.room.toNat (l.drop 2);have hb:=b2P (w:=c.width.toNat) (n:=num (aB l) 2) (by omega) c.room.toNat (l.drop 2) (by rw [List.length_drop];omega) c1.2;refine ⟨⟨by rw [hn];omega,b1V (by omega) _ _⟩,?_⟩;unfold a3r;rw [hb,hn,b33,List.append_assoc,List.take_append_drop,Nat.min_eq_right (by omega),a9K (by omega)];exact b4n _
  ·cases hd
 len:=by intro c l h;simp [a3r,b0t]
theorem b8I {α β:Type} {V:α->β->Prop}:∀ {a:List α} {b:List β},a5T V a b↔a.length=b.length/\∀i (h:i<a.length) (h':i<b.length),V a[i] b[i]
 | [],[]=>by simp [a5T]
 | [],_::_=>by simp [a5T]
 | _::_,[]=>by simp [a5T]
 | x::a,y::b=>by
   have ih:=b8I (V:=V) (a:=a) (b:=b);simp only [a5T,ih,List.length_cons];constructor
   ·rintro ⟨h1,h2,h3⟩
    refine ⟨by omega,fun i hi iD=>?_⟩;cases i with
    | zero=>exact h1
    | succ i=>exact h3 i (by simpa using hi) (by simpa using iD)
   ·rintro ⟨h1,h2⟩
    exact ⟨h2 0 (by simp) (by simp),by omega,fun i hi iD=>h2 (i+1) (by simpa using hi) (by simpa using iD)⟩
def Mo.pack (mo:Mo) (st:V0):List Bool:=a0L a38 mo.procs st.aI++a0L a4b mo.vars st.vars++a0L a3r mo.af st.af++bL (st.hold+1) 3
def Mo.bu (mo:Mo):Nat:=cy (fun p:Pr=>Z1 (p.ah:Int)) mo.procs+cy (fun v:Vr=>v.width.toNat) mo.vars+cy (fun c:Ch=>2+c.room.toNat*c.width.toNat) mo.af+3
theorem c5z {mo:Mo} {st:V0}:Fit mo st↔a5T (fun (p:Pr) n=>n<p.ah) mo.procs st.aI/\a5T (fun (v:Vr) n=>W9 n v.width.toNat=n) mo.vars st.vars/\a5T (fun (c:Ch) (l:List Int)=>(l.length:Int)<=c.room/\∀n∈l,W9 n c.width.toNat=n) mo.af st.af/\-1<=st.hold/\st.hold<(mo.procs.length:Int):=by
 simp only [b8I];constructor
 ·intro h
  exact ⟨⟨h.aI.symm,fun i a b=>h.pl i b a⟩,⟨h.vars.symm,fun i a b=>h.vr i b a⟩,⟨h.af.symm,fun i a b=>⟨h.cl i b a,h.cv i b a⟩⟩,h.hold⟩
 ·rintro ⟨⟨a1,a2⟩,⟨b1,b2⟩,⟨c1,c2⟩,d⟩
  exact ⟨a1.symm,b1.symm,c1.symm,fun i a b=>a2 i b a,fun i a b=>b2 i b a,fun i a b=>(c2 i b a).1,fun i a b=>(c2 i b a).2,d⟩
theorem a7F {mo:Mo} {st:V0} (h:Fit mo st):(mo.pack st).length=mo.bu:=by
 obtain ⟨h1,h2,h3,h4⟩:=c5z.1 h;simp only [Mo.pack,Mo.bu,List.length_append,a0Q,(b3L codeP).len _ _ h1,(b3L codeV).len _ _ h2,(b3L codeC).len _ _ h3]
theorem c25 {n:Int} {w:Nat} (h:w<=16):IntKind.i64.wrap (andI .i64 n (2 ^ w-1))=n % 2 ^ w:=by
 show IntKind.i64.wrap ((BitVec.ofInt IntKind.i64.bits n &&& BitVec.ofInt IntKind.i64.bits (2 ^ w-1)).toNat:Int)=n % 2 ^ w
 have hp:2 ^ w<=2 ^ 16:=Nat.pow_le_pow_right (by omega) h;have me:0<2 ^ w:=Nat.pos_of_ne_zero (by simp);have hc:((2 ^ w:Nat):Int)=2 ^ w:=by simp
 have a2:(BitVec.ofInt IntKind.i64.bits (2 ^ w-1)).toNat=2 ^ w-1:=by
  rw [BitVec.toNat_ofInt,show IntKind.i64.bits=64 from rfl,<- hc];rw [Int.emod_eq_of_lt (by omega) (by omega)];omega
 have e1:(BitVec.ofInt IntKind.i64.bits n &&& BitVec.ofInt IntKind.i64.bits (2 ^ w-1)).toNat=(n % 2 ^ 64).toNat % 2 ^ w:=by
  rw [BitVec.toNat_and,a2,Nat.and_two_pow_sub_one_eq_mod,BitVec.toNat_ofInt];rfl
 rw [e1];have h0:0<=n % 2 ^ 64:=Int.emod_nonneg _ (by decide);have hm:=Nat.mod_lt (n % 2 ^ 64).toNat me;rw [Z5 (by omega) (by omega),Int.natCast_emod,Int.toNat_of_nonneg h0,hc];exact Int.emod_emod_of_dvd _ (b0k (w:=w) (v:=64) (by omega))
section
variable {fs:FuncId->Option U3}
theorem c29 {ae T i t fo args rest s Q} {env:q8} {f:FuncId} {ir:List D} {l:List D} {P:D->k4->Prop} (ids:List Nat) (hf:env.ev fo=.fn f ir) (hr:X9 fs f l s fun d s'=>P d s'/\Fr ids s s') (ha:env.aP args++ir=l)
 (he:∀e∈T,(e.i,i)∈ae->∀id,e.rd=some id->id<s.next/\id∉ids)
 (h:∀d s',P d s'->Fr ids s s'->XX fs ae (⟨i,none,ids++(List.range s'.next).filter fun x=>s.next<=x⟩::T) rest ((t,d)::env) s' Q):WX fs ae T ((i,⟨some t,.m (.call .raw fo args),none⟩)::rest) env s Q:=by
 subst ha;obtain ⟨d,s',⟨n,hn⟩,h1,h2⟩:=hr;refine b1j ⟨n,by simp only [bZ,a2U,hf];exact hn⟩ (E:=ids++(List.range s'.next).filter fun x=>s.next<=x) ?_ h2.1 ?_ (a4p (h d s' h1 h2))
 ·intro id gX
  simp only [List.mem_append,not_or] at gX;by_cases c:id<s.next
  ·exact (h2.2 id c gX.1).symm
  ·by_cases c2:id<s'.next
   ·exact (gX.2 (by simp;omega)).elim
   ·rw [k4.get_none _ _ (by omega),k4.get_none _ _ (by omega)]
 ·intro e he1 he2 id gX
  have:=he e he1 he2 id gX;simp only [List.mem_append,not_or];refine ⟨this.2,?_⟩;simp;omega
theorem b5l (a b:List Bool):a0h (a++b)=a0h a++a0h b:=by simp [a0h]
theorem cL (l:List Bool):(a0h l).flatten=a5s l:=by
 induction l with
 | nil=>rfl
 | cons b l ih=>show [.bool b]++(a0h l).flatten=_;rw [ih];rfl
structure fQ (s0 s:k4) (ids:List Nat) (A B R:Hs) (d:D) (l:List Bool) (E:Hs):Prop where
 rp:Rp d 1 (a0h l) E
 hp:Hp s (A++E++B) R
 fr:Fr ids s0 s
 nw:∀e∈E,e.1∈ids∨s0.next<=e.1
theorem fQ.mk0 {s:k4} {A B R E:Hs} {d:D} {l:List Bool} (h:Rp d 1 (a0h l) E) (hp:Hp s (A++E++B) R):fQ s s (E.map Prod.fst) A B R d l E :=
 ⟨h,hp,Fr.refl _ _,fun e he=>.inl (List.mem_map_of_mem he)⟩
theorem bm_grB {s0:k4} {ids:List Nat} {t rest env K s d b A B R E} {l:List Bool} (h:fQ s0 s ids A B R d l E) (hl:l.length<=1000000)
 (k:∀d' s' E',fQ s0 s' ids A B R d' (l++[b]) E'->XQ fs [] rest ((t,d')::env) s' K):BM (Z6 1 1 d (.arr s.next 0 1 1) (s.push (.cells [.bool b]))) fs t rest env K:=by
 refine a9z (row:=[.bool b]) h.rp h.hp rfl (a49 _) (by decide) (by simp;omega) fun s' h1 h2 h3 h4=>k _ s' [(s.next+1,(a0h l++[[D.bool b]]).flatten)] ⟨?_,by rw [List.append_assoc];exact h2,?_,?_⟩
 ·rw [b5l];exact h1
 ·refine ⟨by have:=h.fr.1;omega,fun j hj hn=>?_⟩
  have:=h.fr.1;rw [h4 j (by omega) fun e he hc=>?_,h.fr.2 j hj hn];rcases h.nw e he with h5 | h5
  ·exact hn (hc▸h5)
  ·omega
 ·intro e he
  simp only [List.mem_singleton] at he;subst he;have:=h.fr.1;exact .inr (by simp only;omega)
theorem tk_B {l:List Bool} {n:Nat} {b:Bool} (h:n<l.length):List.take n (a5s l)++[.bool b]++List.drop (n+1) (a5s l)=a5s (l.set n b):=by
 rw [tk_D (by simpa using h)];simp [a5s,List.map_set]
attribute [go_sem] tk_B c1J
def upB (l:List Bool) (w:Nat):List Bool:=l++List.replicate (w-l.length) false
theorem c3n {l:List Bool} {w:Nat} (h:l.length<=w):(upB l w).length=w:=by simp [upB];omega
theorem b96 {l:List Bool} {w:Nat} {e:Bool} (h:l.length<w):(upB l w).set l.length e=upB (l++[e]) w:=by
 unfold upB;rw [List.set_append_right _ _ (Nat.le_refl _),Nat.sub_self];obtain ⟨k,hk⟩:=Nat.exists_eq_add_of_lt h;have e1:w-l.length=k+1:=by omega
 have e2:w-(l++[e]).length=k:=by simp;omega
 rw [e1,e2,List.replicate_succ,List.set_cons_zero,List.append_assoc];rfl
theorem c0V {l:List Bool} {w:Nat} (h:l.length=w):upB l w=l:=by simp [upB,h]
theorem c1j (w:Nat):a2Q [.bool false] w=a5s (upB [] w):=by
 rw [b8T];simp [upB]
theorem a9Z {i t fo args rest s K} {env:q8} {f:FuncId} {ir:List D} {l:List D} {P:D->k4->Prop} (hf:env.ev fo=.fn f ir) (hr:X9 fs f l s P) (ha:env.aP args++ir=l)
 (h:∀d s',P d s'->XQ fs [] rest ((t,d)::env) s' K):WQ fs [] ((i,⟨some t,.m (.call .raw fo args),none⟩)::rest) env s K:=by
 subst ha;obtain ⟨d,s',⟨n,hn⟩,hp⟩:=hr;exact b0d ⟨n,by simp only [bZ,a2U,hf];exact hn⟩ (a3b (h d s' hp))
theorem Rp.exps {s:k4} {d x:D} {bytes:Nat} {rows new:List (List D)} {E:Hs} (h:Rp d 1 rows E) (he:Y2 s E) (hx:FL 1 x new) (ly:∀r∈rows,r.length=1) (BI:∀r∈new,r.length=1) (hb:bytes<=1000) (hl:rows.length+new.length<=1000000000) (hn:new≠[]) :
 ∃s',Z6 1 bytes d x s=some (.arr s.next 0 (rows.length+new.length) 1,s')/\s'.next=s.next+1/\s'.get s.next=some (.cells (rows.flatten++new.flatten))/\∀id,id≠s.next->(∀e∈E,e.1≠id)->s'.get id=s.get id:=by
 have b3:bytes<=2 ^ 20:=Nat.le_trans hb (by decide);obtain ⟨r1,r2,r3⟩:=fl_row hx (g:=s.get);have nt:new.length≠0:=by simpa using hn
 rcases h with ⟨rfl,rfl,rfl⟩ | ⟨id,rfl,rfl,iw⟩
 ·have b1:new.length*bytes<=2 ^ 45:=Nat.le_trans (Nat.mul_le_mul (show new.length<=1000000000 by simpa using hl) hb) (by decide)
  have jd:new.length<=1000000000:=by simpa using hl
  refine ⟨s.push (.cells new.flatten),?_,by simp,by rw [W2 rfl];simp,fun j hj _=>by rw [k4.aM,if_neg hj]⟩;unfold Z6;simp only [r1,r2,r3,b3,decide_true,Bool.and_self,if_true];rw [if_neg nt,if_pos ⟨b1,by omega⟩];simp
 ·have hf:=a75 ly
  have hg:s.get id=some (.cells rows.flatten):=he (id,rows.flatten) (by simp);have b1:(rows.length+new.length)*bytes<=2 ^ 45:=Nat.le_trans (Nat.mul_le_mul hl hb) (by decide);refine ⟨(s.set id none).push (.cells (rows.flatten++new.flatten)),?_,by simp,W2 (by simp),fun j hj hn=>?_⟩
  ·unfold Z6
   simp only [r1,r2,r3,b3,decide_true,Bool.and_self,if_true,hg,Nat.zero_add,hf,and_self,List.drop_zero];rw [if_neg nt,if_pos ⟨b1,by omega⟩]
  ·have:id≠j:=hn (id,rows.flatten) (by simp)
   rw [k4.aM,if_neg (by simpa using hj),Z7 this.symm]
theorem fQ.exps {s0 s:k4} {ids:List Nat} {A B R E:Hs} {d x:D} {l r:List Bool} (h:fQ s0 s ids A B R d l E) (hx:FL 1 x (a0h r)) (hl:l.length<=1000000) (hr:r.length<=1000) (hn:r≠[]) :
 ∃d' s' E',Z6 1 1 d x s=some (d',s')/\fQ s0 s' ids A B R d' (l++r) E'/\s.next<=s'.next/\∀id,id∉s.next::E.map Prod.fst->s.get id=s'.get id:=by
 have he:Y2 s E:=fun y hy=>h.hp.w y (by simp [hy])
 obtain ⟨s',h1,h2,h3,h4⟩:=h.rp.exps (bytes:=1) he hx (a49 _) (a49 _) (by decide) (by simp;omega) (by simpa [a0h] using hn);have gY:=h.fr.1;refine ⟨_,s',[(s.next,(a0h (l++r)).flatten)],h1,⟨?_,?_,?_,?_⟩,by omega,fun id gX=>?_⟩
 ·refine .inr ⟨s.next,?_,rfl,?_⟩
  ·simp
  ·simp [a0h,hn]
 ·have hp:=h.hp
  have nj:=hp.nd;have iC:∀w∈A++E++B,w.1<s.next:=fun w hw=>u7 (hp.w w hw)
  have wo:∀w∈R,w.1<s.next:=fun w hw=>u7 (hp.r w hw)
  have BH:∀w∈A++B,∀e∈E,e.1≠w.1:=by
   intro w hw e jV heq;rw [List.map_append,List.map_append,List.nodup_append,List.nodup_append] at nj;obtain ⟨⟨n1,n2,n3⟩,n4,n5⟩:=nj;rcases List.mem_append.1 hw with hw | hw
   ·exact n3 _ (List.mem_map_of_mem hw) _ (List.mem_map_of_mem jV) heq.symm
   ·exact n5 _ (List.mem_append_right _ (List.mem_map_of_mem jV)) _ (List.mem_map_of_mem hw) heq
  have xX:((A++B).map Prod.fst).Nodup:=(hp.sub (W':=A++B) (R':=R) (List.Sublist.append (List.sublist_append_left A E) (List.Sublist.refl B)) fun _ h=>h).nd;refine ⟨?_,?_,?_,?_⟩
  ·rw [List.map_append,List.map_append,List.nodup_append,List.nodup_append]
   rw [List.map_append,List.nodup_append] at xX;obtain ⟨n1,n2,n3⟩:=xX;refine ⟨⟨n1,by simp,?_⟩,n2,?_⟩
   ·intro a ha b hb
    simp only [List.map_cons,List.map_nil,List.mem_singleton] at hb;obtain ⟨w,hw,rfl⟩:=List.mem_map.1 ha;have:=iC w (by simp [hw]);omega
   ·intro a ha b hb
    rcases List.mem_append.1 ha with ha | ha
    ·exact n3 a ha b hb
    ·simp only [List.map_cons,List.map_nil,List.mem_singleton] at ha
     obtain ⟨w,hw,rfl⟩:=List.mem_map.1 hb;have:=iC w (by simp [hw]);omega
  ·intro w hw q hq
   have:=wo q hq;rcases List.mem_append.1 hw with hw | hw
   ·rcases List.mem_append.1 hw with hw | hw
    ·exact hp.ap w (by simp [hw]) q hq
    ·simp only [List.mem_singleton] at hw
     subst hw;simp only;omega
   ·exact hp.ap w (by simp [hw]) q hq
  ·intro w hw
   rcases List.mem_append.1 hw with hw | hw
   ·rcases List.mem_append.1 hw with hw | hw
    ·have:=iC w (by simp [hw])
     rw [h4 _ (by omega) (BH w (by simp [hw]))];exact hp.w w (by simp [hw])
    ·simp only [List.mem_singleton] at hw
     subst hw;rw [b5l,List.flatten_append];exact h3
   ·have:=iC w (by simp [hw])
    rw [h4 _ (by omega) (BH w (by simp [hw]))];exact hp.w w (by simp [hw])
  ·intro w hw
   have:=wo w hw;rw [h4 _ (by omega) fun e jV=>hp.ap e (by simp [jV]) w hw];exact hp.r w hw
 ·refine ⟨by omega,fun j hj hjn=>?_⟩
  rw [h4 j (by omega) fun e jV heq=>?_,h.fr.2 j hj hjn];rcases h.nw e jV with h5 | h5
  ·exact hjn (heq▸h5)
  ·omega
 ·intro e jV
  simp only [List.mem_singleton] at jV;subst jV;exact .inr (by simp only;omega)
 ·simp only [List.mem_cons,not_or] at gX
  exact (h4 id gX.1 fun e jV heq=>gX.2 (heq▸List.mem_map_of_mem jV)).symm
theorem b2J {s0:k4} {ids:List Nat} {t rest env K s d x A B R E} {l r:List Bool} (h:fQ s0 s ids A B R d l E) (hx:FL 1 x (a0h r)) (hl:l.length<=1000000) (hr:r.length<=1000) (hn:r≠[])
 (k:∀d' s' E',fQ s0 s' ids A B R d' (l++r) E'->XQ fs [] rest ((t,d')::env) s' K):BM (Z6 1 1 d x s) fs t rest env K:=by
 obtain ⟨d',s',E',h1,h2,_⟩:=h.exps hx hl hr hn;rw [h1];exact k d' s' E' h2
def dQ (s0 s:k4) (R:Hs) (d:D) (l:List Bool) (E:Hs):Prop:=fQ s0 s [] [] [] R d l E
theorem fQ.base {s0 s s':k4} {R R' E E':Hs} {d d':D} {l l':List Bool} (h:fQ s s' (E.map Prod.fst) [] [] R' d' l' E') (h0:dQ s0 s R d l E):dQ s0 s' R' d' l' E':=by
 have nE:∀i∈E.map Prod.fst,s0.next<=i:=fun i hi=>by
  obtain ⟨e,he,rfl⟩:=List.mem_map.1 hi;rcases h0.nw e he with h | h
  ·simp at h
  ·exact h
 refine ⟨h.rp,h.hp,⟨Nat.le_trans h0.fr.1 h.fr.1,fun j hj _=>?_⟩,fun e he=>.inr ?_⟩
 ·rw [h.fr.2 j (Nat.lt_of_lt_of_le hj h0.fr.1) fun hc=>by have:=nE j hc;omega,h0.fr.2 j hj (by simp)]
 ·rcases h.nw e he with h | h
  ·exact nE _ h
  ·exact Nat.le_trans h0.fr.1 h
theorem dQ.mv {s0 s s':k4} {R E:Hs} {d:D} {l:List Bool} (h:dQ s0 s R d l E) (hf:Fr [] s s'):dQ s0 s' R d l E :=
 ⟨h.rp,h.hp.fr hf,h.fr.trans hf (by simp),h.nw⟩
theorem dQ.nil {s0 s:k4} {R:Hs} (h:Y2 s R) (hf:Fr [] s0 s):dQ s0 s R .ag [] []:=⟨.inl ⟨rfl,rfl,rfl⟩,⟨List.nodup_nil,by simp,by simp [Y2],h⟩,hf,by simp⟩
theorem a1x {s:k4} {z o:Y1}:Fr [] s ((s.push z).set s.next (some o)):=(Fr.push _).aD _ (.inr (Nat.le_refl _))
theorem b3S {n:Int} {w:Nat} (h:1<=w):bL n w≠[]:=by
 intro e;have:=a0Q n w;rw [e] at this;simp at this;omega
theorem b01 {α β:Type} {e:α->β->List Bool}:∀ {a:List α} {b:List β} {i:Nat} (h:i<a.length) (h':i<b.length),a0L e (a.take (i+1)) (b.take (i+1))=a0L e (a.take i) (b.take i)++e a[i] b[i]
 | x::a,y::b,0,_,_=>by simp [a0L]
 | x::a,y::b,i+1,h,h'=>by
   simp only [List.take_succ_cons,a0L,List.getElem_cons_succ,List.append_assoc];rw [b01 (by simpa using h) (by simpa using h')]
def Mo.pkA (mo:Mo) (st:V0) (i:Nat):List Bool:=a0L a38 (mo.procs.take i) (st.aI.take i)
def Mo.pkV (mo:Mo) (st:V0) (i:Nat):List Bool:=mo.pkA st mo.procs.length++a0L a4b (mo.vars.take i) (st.vars.take i)
def Mo.gM (mo:Mo) (st:V0) (i:Nat):List Bool:=mo.pkV st mo.vars.length++a0L a3r (mo.af.take i) (st.af.take i)
theorem c3W {mo:Mo} {st:V0} {i:Nat} (h:i<mo.procs.length) (h':i<st.aI.length):mo.pkA st (i+1)=mo.pkA st i++bL (bq st.aI i:Int) (Z1 ((U4 mo.procs i).ah:Int)):=by
 unfold Mo.pkA;rw [b01 h h',a16 h,a4U h'];rfl
theorem c3O {mo:Mo} {st:V0} {i:Nat} (h:i<mo.vars.length) (h':i<st.vars.length):mo.pkV st (i+1)=mo.pkV st i++bL (Y8 st.vars i) (cd mo.vars i).width.toNat:=by
 unfold Mo.pkV;rw [b01 h h',a3q h,a3D h',List.append_assoc];rfl
theorem c0g {mo:Mo} {st:V0} {i:Nat} (h:i<mo.af.length) (h':i<st.af.length):mo.gM st (i+1)=mo.gM st i++bL ((V8 st.af i).length:Int) 2++a1V (U7 mo.af i).width.toNat (V8 st.af i) (U7 mo.af i).room.toNat:=by
 unfold Mo.gM;rw [b01 h h',a2q h,a3K h',List.append_assoc,List.append_assoc];rfl
theorem pk_all {mo:Mo} {st:V0} (h1:st.aI.length=mo.procs.length) (h2:st.vars.length=mo.vars.length) (h3:st.af.length=mo.af.length):mo.gM st mo.af.length++bL (st.hold+1) 3=mo.pack st:=by
 unfold Mo.gM Mo.pkV Mo.pkA Mo.pack;rw [List.take_length,List.take_length,List.take_length,List.take_of_length_le (by omega),List.take_of_length_le (by omega),List.take_of_length_le (by omega)]
theorem b0y {α β:Type} {e:α->β->List Bool} {k:Nat}:∀ (a:List α) (b:List β),(∀x∈a,∀b,(e x b).length<=k)->(a0L e a b).length<=k*a.length
 | [],b,_=>by cases b<;>simp [a0L]
 | x::a,[],_=>by simp [a0L]
 | x::a,y::b,he=>by
   simp only [a0L,List.length_append,List.length_cons,Nat.mul_succ];have:=b0y a b fun z hz=>he z (by simp [hz])
   have:=he x (by simp) y;omega
theorem a9B {mo:Mo} (ho:Z8 mo) (hf:a0J mo) (st:V0) (i:Nat):(mo.pkA st i).length<=1000/\(mo.pkV st i).length<=1000/\(mo.gM st i).length<=1000:=by
 have h1:∀i,(mo.pkA st i).length<=16*4:=fun i=>by
  refine Nat.le_trans (b0y (k:=16) _ _ fun p _ n=>?_) (Nat.mul_le_mul_left _ ?_)
  ·simp only [a38,a0Q];exact (a4R _).2
  ·rw [List.length_take];have:=ho.np;omega
 have h2:∀i,(a0L a4b (mo.vars.take i) (st.vars.take i)).length<=8*8:=fun i=>by
  refine Nat.le_trans (b0y (k:=8) _ _ fun v hv n=>?_) (Nat.mul_le_mul_left _ ?_)
  ·simp only [a4b,a0Q];have:=hf.vr v (List.mem_of_mem_take hv);omega
  ·rw [List.length_take];have:=ho.nv;omega
 have h3:∀i,(a0L a3r (mo.af.take i) (st.af.take i)).length<=26*3:=fun i=>by
  refine Nat.le_trans (b0y (k:=26) _ _ fun c hc n=>?_) (Nat.mul_le_mul_left _ ?_)
  ·have hw:=hf.ch c (List.mem_of_mem_take hc)
   simp only [a3r,List.length_append,a0Q,b0t];have:c.room.toNat*c.width.toNat<=3*8:=Nat.mul_le_mul (by omega) (by omega);omega
  ·rw [List.length_take];have:=ho.nc;omega
 have a:=h1 i;have b:=h1 mo.procs.length;have c:=h2 i;have d:=h2 mo.vars.length;have e:=h3 i;unfold Mo.gM Mo.pkV;simp only [List.length_append];omega
theorem b4r {l:List Int} {k:Nat} (h:¬ k<l.length):Y8 l k=0:=by simp [Y8,List.getD,List.getElem?_eq_none (by omega:l.length<=k)]
theorem b8O (w:Nat) (l:List Int) (k:Nat):a1V w l (k+1)=a1V w l k++bL (Y8 l k) w:=rfl
theorem dQ.apart {s0 s:k4} {R E:Hs} {d:D} {l:List Bool} (h:dQ s0 s R d l E) {r:Nat×List D} (hr:r∈R):r.1∉E.map Prod.fst:=fun hm=>by
 obtain ⟨e,he,h1⟩:=List.mem_map.1 hm;exact h.hp.ap e (by simp [he]) r hr h1
theorem dQ.lt {s0 s:k4} {R E:Hs} {d:D} {l:List Bool} (h:dQ s0 s R d l E) {id:Nat} (hm:id∈E.map Prod.fst):id<s.next:=by
 obtain ⟨e,he,h1⟩:=List.mem_map.1 hm;rw [<- h1];exact u7 (h.hp.w e (by simp [he]))
theorem dQ.sub {s0 s:k4} {R R' E:Hs} {d:D} {l:List Bool} (h:dQ s0 s R d l E) (hr:∀x∈R',x∈R):dQ s0 s R' d l E :=
 ⟨h.rp,h.hp.sub (List.Sublist.refl _) hr,h.fr,h.nw⟩
theorem dQ.box {s0 s:k4} {R E:Hs} {d:D} {l:List Bool} (h:dQ s0 s R d l E) {z:Y1} {cs:List D}:dQ s0 ((s.push z).set s.next (some (.cells cs))) ((s.next,cs)::R) d l E:=by
 have h2:=h.mv (a1x (z:=z) (o:=.cells cs));refine ⟨h.rp,h2.hp.addR1 (a0d (by simp)) fun w hw heq=>?_,h.fr.trans a1x (by simp),h.nw⟩;have qy:w∈E:=by simpa using hw
 have:=h.lt (List.mem_map_of_mem qy);omega
theorem ix_bB {d:D} {l:List Bool} {i:Nat} {k:IntKind} (h:FL 1 d (a0h l)) (hi:i<l.length):W1 1 d (.int k (i:Int))=some (.fp [.bool (aB l i)] 0):=by rw [b0j h hi];rfl
theorem bAt_aB {l:List Bool} {i:Nat}:bAt l i=aB l i:=rfl
attribute [go_sem] bAt_aB
theorem b2R {α:Type} {sz:α->Nat} {l:List α} {i:Nat} (h:i<l.length):cy sz (l.take (i+1))=cy sz (l.take i)+sz l[i]:=by
 unfold cy;rw [List.take_succ_eq_append_getElem h,List.map_append,List.sum_append];simp
theorem a90 {α:Type} {sz:α->Nat} {k:Nat}:∀ (l:List α),(∀x∈l,sz x<=k)->cy sz l<=k*l.length
 | [],_=>by simp [cy]
 | x::l,h=>by
   have:=a90 l fun y hy=>h y (by simp [hy])
   have:=h x (by simp);simp only [cy,List.map_cons,List.sum_cons,List.length_cons,Nat.mul_succ] at *;omega
theorem c1S {mo:Mo} {i:Nat} (h:i<mo.procs.length):cy (fun p:Pr=>Z1 (p.ah:Int)) (mo.procs.take (i+1))=cy (fun p:Pr=>Z1 (p.ah:Int)) (mo.procs.take i)+Z1 ((U4 mo.procs i).ah:Int):=by rw [b2R h,a16 h]
theorem c1U {mo:Mo} {i:Nat} (h:i<mo.vars.length):cy (fun v:Vr=>v.width.toNat) (mo.vars.take (i+1))=cy (fun v:Vr=>v.width.toNat) (mo.vars.take i)+(cd mo.vars i).width.toNat:=by rw [b2R h,a3q h]
theorem c4k {mo:Mo} {i:Nat} (h:i<mo.af.length):cy (fun c:Ch=>2+c.room.toNat*c.width.toNat) (mo.af.take (i+1))=cy (fun c:Ch=>2+c.room.toNat*c.width.toNat) (mo.af.take i)+(2+(U7 mo.af i).room.toNat*(U7 mo.af i).width.toNat):=by rw [b2R h,a2q h]
theorem b85 {mo:Mo} (ho:Z8 mo) (i:Nat):cy (fun p:Pr=>Z1 (p.ah:Int)) (mo.procs.take i)<=64:=by
 refine Nat.le_trans (a90 (k:=16) _ fun p _=>(a4R _).2) ?_;rw [List.length_take];have:=ho.np;omega
theorem b7Z {mo:Mo} (ho:Z8 mo) (hf:a0J mo) (i:Nat):cy (fun v:Vr=>v.width.toNat) (mo.vars.take i)<=64:=by
 refine Nat.le_trans (a90 (k:=8) _ fun v hv=>?_) ?_
 ·have:=hf.vr v (List.mem_of_mem_take hv);omega
 ·rw [List.length_take];have:=ho.nv;omega
theorem b9a {mo:Mo} (ho:Z8 mo) (hf:a0J mo) (i:Nat):cy (fun c:Ch=>2+c.room.toNat*c.width.toNat) (mo.af.take i)<=78:=by
 refine Nat.le_trans (a90 (k:=26) _ fun c hc=>?_) ?_
 ·have hw:=hf.ch c (List.mem_of_mem_take hc)
  have:c.room.toNat*c.width.toNat<=3*8:=Nat.mul_le_mul (by omega) (by omega);omega
 ·rw [List.length_take];have:=ho.nc;omega
theorem a72 {mo:Mo} (ho:Z8 mo) (hf:a0J mo):mo.bu<=300:=by
 have h1:=b85 ho mo.procs.length;have h2:=b7Z ho hf mo.vars.length;have h3:=b9a ho hf mo.af.length;rw [List.take_length] at h1 h2 h3;unfold Mo.bu;omega
end

def U0 (A:Nat->Bool) (w:Nat):List Bool:=(List.range w).map A
def U1 (l:List Bool):List D:=l.map fun b=>.int .i64 (V4 b)
@[simp] theorem a3A (A:Nat->Bool) (w:Nat):(U0 A w).length=w:=by simp [U0]
@[simp] theorem a4I (l:List Bool):(U1 l).length=l.length:=by simp [U1]
theorem a2s {A B:Nat->Bool} {w:Nat} (h:∀i,i<w->A i=B i):U0 A w=U0 B w:=List.map_congr_left fun i hi=>h i (List.mem_range.1 hi)
theorem a62 {A:Nat->Bool} {w i:Nat} (h:i<w):aB (U0 A w) i=A i:=by simp [aB,U0,List.getD,h]
theorem a3l (l:List Bool):U0 (aB l) l.length=l:=by
 apply List.ext_getElem
 ·simp
 ·intro i h1 h2
  have h3:i<l.length:=h2;simp [U0,aB,List.getD,h3]
theorem b6N {A:Nat->Bool} {w:Nat} (h:0<w):U0 A w=bL (Y7 A w) w:=a2s ((b2i h).1 (by rw [b1g h,b0R h]))
theorem b7X (n:Int) (w:Nat):bL n w=U0 (V7 n) w:=rfl
theorem a8v {n:Int} {w:Nat}:bL (W9 n w) w=bL n w:=b9w b7i
theorem b2q {n:Int} {w i:Nat} (h:i<w):aB (bL n w) i=V7 n i:=a9F h
theorem c3N (l:List Bool):(U1 l).all V1=true:=by simp [U1,V1]
theorem Rd.fr {s s':k4} {d:D} {l:List D} (h:Rd s d l) (f:Fr [] s s'):Rd s' d l:=by
 rcases h with h | h | ⟨id,off,cs,rfl,h1,h2,h3⟩
 ·exact .inl h
 ·exact .inr (.inl h)
 ·exact .inr (.inr ⟨id,off,cs,rfl,by rw [f.2 _ (u7 h1) (by simp),h1],h2,h3⟩)
def VB (s:k4) (d:D) (l:List Bool):Prop:=Rd s d (U1 l)
theorem VB.fr {s s':k4} {d:D} {l:List Bool} (h:VB s d l) (f:Fr [] s s'):VB s' d l:=Rd.fr h f
theorem VB.one {s:k4} {d:D} {l:List Bool} (h:VB s d l):V1 d=true:=Rd.one h
theorem VB.len {s:k4} {d:D} {l:List Bool} (h:VB s d l):a0C false d=some (.int .i64 (l.length:Int)):=by rw [Rd.len h,a4I]
theorem VB.eI {s:k4} {d:D} {A:Nat->Bool} {w:Nat} (h:VB s d (U0 A w)):a0C false d=some (.int .i64 (w:Int)):=by rw [h.len,a3A]
theorem VB.idx {s:k4} {d:D} {l:List Bool} (h:VB s d l) {i:Nat} (hi:i<l.length) {k:IntKind}:∃p,W1 1 d (.int k (i:Int))=some p/\bk s.get none p=some (.int .i64 (V4 (aB l i))):=by
 obtain ⟨p,h1,h2⟩:=Rd.idx h (c3N l) (i:=i) (by simpa using hi) (k:=k) rfl;refine ⟨p,h1,?_⟩;rw [h2];simp [U1,aB,List.getD,hi]
theorem VB.cC {s:k4} {d:D} {A:Nat->Bool} {w:Nat} (h:VB s d (U0 A w)) {i:Nat} (hi:i<w) {k:IntKind}:∃p,W1 1 d (.int k (i:Int))=some p/\bk s.get none p=some (.int .i64 (V4 (A i))):=by
 have:=h.idx (i:=i) (by simpa using hi) (k:=k);rwa [a62 hi] at this
theorem VB.arr {s:k4} {b w:Nat} {l:List Bool} (h:s.get b=some (.cells (U1 l))) (hw:l.length=w):VB s (.arr b 0 w 1) l:=by
 have:=Rd.arr h;rwa [a4I,hw] at this
theorem VB.cY {s:k4} {d:D} {l l':List Bool} (h:VB s d l) (e:l=l'):VB s d l':=e▸h
theorem a1D (w:Nat):a2Q [.int .i64 0] w=U1 (U0 (fun _=>false) w):=by
 have:∀w,a2Q [.int .i64 0] w=List.replicate w (.int .i64 0):=fun w=>by
  induction w with
  | zero=>rfl
  | succ w ih=>simp [a2Q,ih,List.replicate_succ]
 rw [this];apply List.ext_getElem
 ·simp
 ·intro i h1 h2
  simp [U1,U0,V4]
theorem b6O {A:Nat->Bool} {w i:Nat} (h:i<w) (b:Bool):List.take i (U1 (U0 A w))++.int .i64 (V4 b)::List.drop (i+1) (U1 (U0 A w))=U1 (U0 (fun j=>if j=i then b else A j) w):=by
 apply List.ext_getElem
 ·simp;omega
 ·intro j h1 h2
  have hj:j<w:=by simpa using h2
  by_cases c:j<i
  ·rw [List.getElem_append_left (by simp;omega)]
   simp [U1,U0,show j≠i by omega]
  ·by_cases e:j=i
   ·subst e
    rw [List.getElem_append_right (by simp;omega)];simp [U1,U0,show min j w=j by omega]
   ·rw [List.getElem_append_right (by simp;omega)]
    have e1:j-(List.take i (U1 (U0 A w))).length=(j-i-1)+1:=by simp;omega
    simp only [e1,List.getElem_cons_succ,List.getElem_drop];have e2:i+1+(j-i-1)=j:=by omega
    simp [U1,U0,e,e2]
theorem a2u:V4 true=1:=rfl
theorem a4j:V4 false=0:=rfl
theorem I8.tr {n:Int} (h:I8 n):W9 n 8=n:=a6i (by decide) (by have:=h.1;have e:(2:Int) ^ (8-1)=128:=rfl;rw [e];exact this) (by have:=h.2;have e:(2:Int) ^ (8-1)=128:=rfl;rw [e];omega)
theorem I8.bv {n:Int} (h:I8 n):Y7 (V7 n) 8=n:=by rw [b1g (by decide),h.tr]
theorem a8K {A:Nat->Bool} {n:Int} (e:Y7 A 8=n):U0 A 8=bL n 8:=by rw [b6N (by decide),e]
theorem b6i (w:Nat):U0 (fun _=>false) w=bL 0 w:=by
 rw [b7X];exact a2s fun i _=>by simp [V7]
theorem add_b {x y:Int} (hx:I8 x) (hy:I8 y):U0 (a2f (V7 x) (V7 y) false) 8=bL (W9 (x+y) 8) 8:=a8K (by rw [c4D (by decide),hx.bv,hy.bv])
theorem b8w {x y:Int} (hx:I8 x) (hy:I8 y):U0 (a2f (V7 x) (fun j=>!V7 y j) true) 8=bL (W9 (x-y) 8) 8:=a8K (by rw [c3U (by decide),hx.bv,hy.bv])
theorem mul_b {x y:Int} (hx:I8 x) (hy:I8 y):U0 (a58 (V7 x) (V7 y) 8) 8=bL (W9 (x*y) 8) 8:=a8K (by rw [c3K (by decide),hx.bv,hy.bv])
theorem quo_b {x y:Int} (hx:I8 x) (hy:I8 y):U0 (fun i=>decide (y≠0)&&W3 (V7 x 7 != V7 y 7) (a1b (W3 (V7 x 7) (V7 x)) (W3 (V7 y 7) (V7 y)) 8) i) 8=bL (eF 3 x y 8) 8:=by
 show _=bL (if y=0 then 0 else W9 (x.tdiv y) 8) 8
 by_cases h:y=0
 ·subst h
  rw [if_pos rfl,<- b6i];exact a2s fun i _=>by simp
 ·rw [if_neg h]
  have:=c3T (X:=V7 x) (Y:=V7 y) (w:=8) (by decide) (by rw [hy.bv];exact h);rw [hx.bv,hy.bv] at this;rw [<- a8K this];exact a2s fun i _=>by simp [h]
theorem rem_b {x y:Int} (hx:I8 x) (hy:I8 y):U0 (fun i=>decide (y≠0)&&W3 (V7 x 7) (a1Z (W3 (V7 x 7) (V7 x)) (W3 (V7 y 7) (V7 y)) 8 8) i) 8=bL (eF 4 x y 8) 8:=by
 show _=bL (if y=0 then 0 else W9 (x.tmod y) 8) 8
 by_cases h:y=0
 ·subst h
  rw [if_pos rfl,<- b6i];exact a2s fun i _=>by simp
 ·rw [if_neg h]
  have:=c33 (X:=V7 x) (Y:=V7 y) (w:=8) (by decide) (by rw [hy.bv];exact h);rw [hx.bv,hy.bv] at this;rw [<- a8K this];exact a2s fun i _=>by simp [h]
theorem less_b {x y:Int} (hx:I8 x) (hy:I8 y):a40 (fun i=>if i=7 then !V7 x i else V7 x i) (fun i=>if i=7 then !V7 y i else V7 y i) 8=decide (x<y):=by
 have:=b9Z (A:=V7 x) (B:=V7 y) (w:=8) (by decide);rwa [hx.bv,hy.bv] at this
theorem same_b {x y:Int} (hx:I8 x) (hy:I8 y):a6X (V7 x) (V7 y) 8=decide (x=y):=by
 rw [c4w (by decide),hx.bv,hy.bv]
def a0w (A:Nat->Bool):Nat->Bool
 | 0=>false
 | i+1=>a0w A i||A i
def a3u (A:Nat->Bool):Nat->Bool
 | 0=>true
 | i+1=>a3u A i&&A i
theorem a5m {A:Nat->Bool}:∀ {n:Nat},a0w A n=true↔∃i,i<n/\A i=true
 | 0=>by simp [a0w]
 | n+1=>by
   rw [a0w,Bool.or_eq_true,a5m];constructor
   ·rintro (⟨i,h1,h2⟩ | h)
    ·exact ⟨i,by omega,h2⟩
    ·exact ⟨n,by omega,h⟩
   ·rintro ⟨i,h1,h2⟩
    by_cases c:i=n
    ·subst c;exact .inr h2
    ·exact .inl ⟨i,by omega,h2⟩
theorem a8G {A:Nat->Bool}:∀ {n:Nat},a3u A n=true↔∀i,i<n->A i=true
 | 0=>by simp [a3u]
 | n+1=>by
   rw [a3u,Bool.and_eq_true,a8G];constructor
   ·rintro ⟨h1,h2⟩ i hi
    by_cases c:i=n
    ·subst c;exact h2
    ·exact h1 i (by omega)
   ·intro h
    exact ⟨fun i hi=>h i (by omega),h n (by omega)⟩
theorem b3X {A B:Nat->Bool}:∀ {n:Nat},(∀i,i<n->A i=B i)->a0w A n=a0w B n
 | 0,_=>rfl
 | n+1,h=>by rw [a0w,a0w,b3X fun i hi=>h i (by omega),h n (by omega)]
theorem b8A {A B:Nat->Bool}:∀ {n:Nat},(∀i,i<n->A i=B i)->a3u A n=a3u B n
 | 0,_=>rfl
 | n+1,h=>by rw [a3u,a3u,b8A fun i hi=>h i (by omega),h n (by omega)]
theorem a6n {x:Int} (hx:I8 x):a0w (V7 x) 8=decide (x≠0):=by
 rw [Bool.eq_iff_iff,a5m,decide_eq_true_eq];have:=c1T (f:=V7 x) (w:=8) (by decide);rw [hx.bv] at this;constructor
 ·rintro ⟨i,h1,h2⟩ h
  have:=this.1 h i h1;rw [this] at h2;cases h2
 ·intro h
  refine Classical.byContradiction fun hn=>h (this.2 fun i hi=>?_)
  cases e:V7 x i
  ·rfl
  ·exact (hn ⟨i,hi,e⟩).elim
theorem b19 {n:Int} {v w:Nat} (hv:0<v) (hw:0<w):U0 (fun i=>V7 n (min i (v-1))) w=bL (W9 n v) w:=by
 rw [b6N hw,c19 hv hw,b1g hv,a8v]
def a4a (n k:Int) (i:Nat):Bool:=if V7 k i then V7 n i else !V7 n i
theorem eq_b {n k w:Nat} (hn:n<2 ^ w) (hk:k<2 ^ w):a3u (a4a n k) w=decide (n=k):=by
 rw [Bool.eq_iff_iff,a8G,decide_eq_true_eq];have h1:=a5C (n:Int) w;have h2:=a5C (k:Int) w;have e:((2 ^ w:Nat):Int)=2 ^ w:=by simp
 rw [<- e,Int.emod_eq_of_lt (by omega) (by omega)] at h1 h2;constructor
 ·intro h
  have:=a3X (f:=V7 (n:Int)) (g:=V7 (k:Int)) (n:=w) fun i hi=>by
   have:=h i hi;unfold a4a at this;cases a:V7 (k:Int) i<;>cases b:V7 (n:Int) i<;>simp [a,b] at this ⊢
  omega
 ·rintro rfl i hi
  unfold a4a;cases V7 (n:Int) i<;>simp
def bX (A K:Nat->Bool):Nat->Bool
 | 0=>true
 | i+1=>if K i then !A i||bX A K i else !A i&&bX A K i
theorem b4W (A K:Nat->Bool):∀n,bX A K n=decide (num A n<=num K n)
 | 0=>by simp [bX,num]
 | n+1=>by
   have h1:=a1K A n;have h2:=a1K K n;rw [bX,b4W A K n,num,num];cases A n<;>cases K n<;>simp [b2n]<;>omega
theorem most_b {n k w:Nat} (hn:n<2 ^ w) (hk:k<2 ^ w):bX (V7 (n:Int)) (V7 (k:Int)) w=decide (n<=k):=by
 have h1:=a5C (n:Int) w;have h2:=a5C (k:Int) w;have e:((2 ^ w:Nat):Int)=2 ^ w:=by simp
 rw [<- e,Int.emod_eq_of_lt (by omega) (by omega)] at h1 h2;rw [b4W];congr 1
 apply propext;omega
section
variable {fs:FuncId->Option U3}
theorem Fr.kp {s s':k4} (h:Fr [] s s') {id:Nat} {o:Y1} (hg:s.get id=some o):s'.get id=some o:=by rw [h.2 _ (u7 hg) (by simp),hg]
theorem Fr.st {s0 s:k4} {b:Nat} (h:Fr [] s0 s) (hb:s0.next<=b) (o:Option Y1):Fr [] s0 (s.set b o):=h.aD _ (.inr hb)
def CB (fs:FuncId->Option U3) (f:FuncId) (l:List D) (s:k4) (b:Bool):Prop:=X9 fs f l s fun r s'=>r=.int .i64 (V4 b)/\Fr [] s s'
theorem xb {i t f args rest s K} {env:q8} {l:List D} {b:Bool} (hr:CB fs f l s b) (h:∀s',Fr [] s s'->XQ fs [] rest ((t,.int .i64 (V4 b))::env) s' K) (ha:env.aP args=l:=by rfl):WQ fs [] ((i,⟨some t,.m (.call .raw (.aG (.fn f [])) args),none⟩)::rest) env s K :=
 a0D hr ha fun _ s' hp=>by
  obtain ⟨rfl,f⟩:=hp;exact h s' f
theorem xs {i t f args rest s K} {env:q8} {l:List D} {d:D} (hr:X9 fs f l s fun r s'=>r=d/\s'=s) (h:XQ fs [] rest ((t,d)::env) s K) (ha:env.aP args=l:=by rfl):WQ fs [] ((i,⟨some t,.m (.call .raw (.aG (.fn f [])) args),none⟩)::rest) env s K :=
 a0D hr ha fun _ s' hp=>by
  obtain ⟨rfl,rfl⟩:=hp;exact h
theorem c2F (a b:Bool):min (V4 a) (V4 b)=V4 (a&&b):=by cases a<;>cases b<;>rfl
theorem c2p (a b:Bool):max (V4 a) (V4 b)=V4 (a||b):=by cases a<;>cases b<;>rfl
theorem c1M (a b:Bool):(!(!a&&!b))=(a||b):=by cases a<;>cases b<;>rfl
theorem c42 (a b:Bool):(a&&!b||!a&&b)=(a != b):=by cases a<;>cases b<;>rfl
theorem bmux (c a b:Bool):(c&&a||!c&&b)=if c then a else b:=by cases a<;>cases b<;>cases c<;>rfl
def CV (fs:FuncId->Option U3) (f:FuncId) (l:List D) (s:k4) (A:Nat->Bool) (w:Nat):Prop:=X9 fs f l s fun r s'=>∃b,r=.arr b 0 w 1/\s.next<=b/\s'.get b=some (.cells (U1 (U0 A w)))/\Fr [] s s'
theorem xv {i t f args rest s K} {env:q8} {l:List D} {A:Nat->Bool} {w:Nat} (hr:CV fs f l s A w) (h:∀b s',s.next<=b->s'.get b=some (.cells (U1 (U0 A w)))->Fr [] s s'->XQ fs [] rest ((t,.arr b 0 w 1)::env) s' K) (ha:env.aP args=l:=by rfl):WQ fs [] ((i,⟨some t,.m (.call .raw (.aG (.fn f [])) args),none⟩)::rest) env s K :=
 a0D hr ha fun _ s' hp=>by
  obtain ⟨b,rfl,h1,h2,f⟩:=hp;exact h b s' h1 h2 f
theorem VB.aU {s:k4} {b w:Nat} {A:Nat->Bool} (h:s.get b=some (.cells (U1 (U0 A w)))):VB s (.arr b 0 w 1) (U0 A w):=VB.arr h (a3A A w)
theorem VB.ldF {s:k4} {d:D} {A:Nat->Bool} {w i:Nat} {p:D} {k:IntKind} (h:VB s d (U0 A w)) (hi:i<w) (p1:W1 1 d (.int k (i:Int))=some p):bk s.get none p=some (.int .i64 (V4 (A i))):=by
 obtain ⟨q,q1,q2⟩:=h.cC hi (k:=k);rw [p1] at q1;cases q1;exact q2
theorem eh {w:Nat} (h:w<=1000000):8*(w:Int)<=2 ^ 47:=by omega
theorem dy {w:Nat} (h:w<=1000000):(w:Int)<2 ^ 62:=by omega
def W8 (A:Nat->Bool) (i:Nat):Nat->Bool:=fun j=>decide (j<i)&&A j
theorem a2G (A:Nat->Bool) (w:Nat):U1 (U0 (fun _=>false) w)=U1 (U0 (W8 A 0) w):=rfl
theorem a2z (A:Nat->Bool) (w:Nat):U1 (U0 (W8 A w) w)=U1 (U0 A w):=by
 congr 1
 exact a2s fun i hi=>by simp [W8,hi]
theorem a5v {A:Nat->Bool} {w i:Nat} (h:i<w):List.take i (U1 (U0 (W8 A i) w))++[.int .i64 (V4 (A i))]++List.drop (i+1) (U1 (U0 (W8 A i) w))=U1 (U0 (W8 A (i+1)) w):=by
 rw [List.append_assoc,List.singleton_append,b6O h];congr 1
 refine a2s fun j hj=>?_
 unfold W8;by_cases c:j=i
 ·subst c;simp
 ·rw [if_neg c]
  congr 1
  simp only [decide_eq_decide];omega
theorem a2p {A:Nat->Bool} {w i:Nat} (h:i<w):i<(U1 (U0 (W8 A i) w)).length:=by simpa using h
theorem fR {s:k4} {A:Nat->Bool} {w:Nat}:(s.push (.cells (U1 (U0 (W8 A 0) w)))).get s.next=some (.cells (U1 (U0 (W8 A 0) w)))/\Fr [] s (s.push (.cells (U1 (U0 (W8 A 0) w)))):=⟨W2 rfl,Fr.push _⟩
theorem xxn {ae T i t f args rest s K} {env:q8} {l:List D} {P:D->k4->Prop} (hr:X9 fs f l s P) (gY:∀d s',P d s'->Fr [] s s') (hT:∀e∈T,(e.i,i)∈ae->∀id,e.rd=some id->id<s.next)
 (h:∀d s' E,P d s'->(∀e∈E,s.next<=e)->WX fs ae (⟨i,none,E⟩::T) rest ((t,d)::env) s' K) (ha:env.aP args=l:=by rfl):WX fs ae T ((i,⟨some t,.m (.call .raw (.aG (.fn f [])) args),none⟩)::rest) env s K:=by
 subst ha;obtain ⟨d,s',⟨n,hn⟩,hp⟩:=hr;have fr:=gY d s' hp;have jH:a2j fs (a0a fs n) f (env.aP args) s=some (d,s'):=hn;refine b1j (d:=d) (s':=s') (E:=List.range' s.next (s'.next-s.next)) ⟨n,?_⟩ ?_ fr.1 ?_ (h d s' _ hp fun e he=>(List.mem_range'_1.1 he).1)
 ·simp only [bZ,a2U,q8.ev,List.append_nil,jH]
 ·intro id gX
  rw [List.mem_range'_1] at gX;by_cases c:id<s.next
  ·exact (fr.2 id c (by simp)).symm
  ·have c2:¬ id<s'.next:=fun h=>gX ⟨by omega,by omega⟩
   have n1:s.get id=none:=by
    cases h:s.get id with
    | none=>rfl
    | some o=>exact absurd (u7 h) c
   have n2:s'.get id=none:=by
    cases h:s'.get id with
    | none=>rfl
    | some o=>exact absurd (u7 h) c2
   rw [n1,n2]
 ·intro e he qP id gX hm
  have h1:=hT e he qP id gX;rw [List.mem_range'_1] at hm;omega
theorem xxb {ae T i t f args rest s K} {env:q8} {l:List D} {b:Bool} (hr:CB fs f l s b) (hT:∀e∈T,(e.i,i)∈ae->∀id,e.rd=some id->id<s.next)
 (h:∀s' E,Fr [] s s'->(∀e∈E,s.next<=e)->XX fs ae (⟨i,none,E⟩::T) rest ((t,.int .i64 (V4 b))::env) s' K) (ha:env.aP args=l:=by rfl):WX fs ae T ((i,⟨some t,.m (.call .raw (.aG (.fn f [])) args),none⟩)::rest) env s K :=
 xxn hr (fun d s' h=>h.2) hT (fun d s' E hp he=>by
  obtain ⟨rfl,f⟩:=hp;exact a4p (h s' E f he)) ha
theorem VB.ptr {s:k4} {d p:D} {l:List Bool} {z:Int} {k:IntKind} (h:VB s d l) (p1:W1 1 d (.int k z)=some p):∀id off,p=.ptr id off->id<s.next:=by
 rintro id off rfl;rcases h with ⟨rfl,_⟩ | rfl | ⟨lX,o2,cs,rfl,h1,_⟩
 ·simp [W1] at p1
 ·simp only [W1] at p1
  split at p1<;>simp at p1
 ·simp only [W1] at p1
  split at p1
  ·simp only [Option.some.injEq,D.ptr.injEq] at p1
   rw [<- p1.1];exact u7 h1
  ·simp at p1
theorem a17 {A:Nat->Bool} {w i:Nat} (h:i<w):(U1 (U0 A w))[i]?=some (.int .i64 (V4 (A i))):=by simp [U1,U0,h]
theorem a4k {id n:Nat}:∀ {l:List Nat},(∀e∈l,n<=e)->id<n->a2b id l
 | [],_,_=>trivial
 | x::r,h,hn=>⟨by have:=h x (by simp);unfold NeId;omega,a4k (fun e he=>h e (by simp [he])) hn⟩
theorem a2D {ae T ops env s Q} (h:WQ fs [] ops env s Q) (hp:a7z ae ops=true:=by decide):WX fs ae T ops env s Q:=by
 intro tr _;obtain ⟨n,gQ,s',h1,h2⟩:=h [] a7L;exact ⟨n,gQ,s',a67 hp h1,h2⟩
theorem CV.cg {f:FuncId} {l:List D} {s:k4} {A A':Nat->Bool} {w w':Nat} (h:CV fs f l s A w) (hw:w=w') (e:∀i,i<w->A i=A' i):CV fs f l s A' w':=by
 subst hw;obtain ⟨d,s',h1,b,h2,h3,h4,h5⟩:=h;exact ⟨d,s',h1,b,h2,h3,by rw [h4,a2s e],h5⟩
theorem a5K {A B:Nat->Bool} {w i:Nat} {b:Bool} (h:i<w) (e:∀j,j<w->(if j=i then b else A j)=B j):List.take i (U1 (U0 A w))++[.int .i64 (V4 b)]++List.drop (i+1) (U1 (U0 A w))=U1 (U0 B w):=by
 rw [List.append_assoc,List.singleton_append,b6O h,a2s e]
theorem a6d {A:Nat->Bool} {w i:Nat} (h:i<w):i<(U1 (U0 A w)).length:=by simpa using h
theorem c3i {s:k4} {rb:Nat} {R:Nat->Bool} {d:Bool} (gr:s.get rb=some (.cells (U1 (U0 R 8)))):∃s',Z6 1 8 (.arr s.next 0 1 1) (.arr rb 0 (7-0) 1) (s.push (.cells [.int .i64 (V4 d)]))=some (.arr (s.next+1) 0 8 1,s')/\s'.get (s.next+1)=some (.cells (U1 (U0 (a4e R d) 8)))/\Fr [] s s':=by
 have g1:(s.push (.cells [.int .i64 (V4 d)])).get s.next=some (.cells [.int .i64 (V4 d)]):=W2 rfl;have g2:(s.push (.cells [.int .i64 (V4 d)])).get rb=some (.cells (U1 (U0 R 8))):=by rw [a0l (u7 gr)];exact gr
 have hn:(s.push (.cells [.int .i64 (V4 d)])).next=s.next+1:=by simp
 have fr:Fr [] s (s.push (.cells [.int .i64 (V4 d)])):=Fr.push _;refine ⟨((s.push (.cells [.int .i64 (V4 d)])).set s.next none).push (.cells (U1 (U0 (a4e R d) 8))),?_,W2 (by simp),(fr.st (Nat.le_refl _) none).aj _⟩;generalize s.push (.cells [.int .i64 (V4 d)])=s1 at *;unfold Z6;simp only [a1h,g1,g2,a3i,a1O,hn];rfl
def eN (S:Bool) (Z:Nat->Bool) (i:Nat):Nat->Bool:=fun j=>if j<i then S&&Z j else Z j
theorem c1u {S:Bool} {Z:Nat->Bool} {w:Nat}:U1 (U0 Z w)=U1 (U0 (eN S Z 0) w):=rfl
theorem hf_all {S:Bool} {Z:Nat->Bool} {w:Nat}:U1 (U0 (eN S Z w) w)=U1 (U0 (fun j=>S&&Z j) w):=by
 congr 1
 exact a2s fun j hj=>by simp [eN,hj]
theorem b81 {S:Bool} {Z:Nat->Bool} {w i:Nat} (h:i<w):(U1 (U0 (eN S Z i) w))[i]?=some (.int .i64 (V4 (Z i))):=by
 rw [a17 h];simp [eN]
theorem b73 {S:Bool} {Z:Nat->Bool} {w i:Nat} (h:i<w):List.take i (U1 (U0 (eN S Z i) w))++[.int .i64 (V4 (S&&Z i))]++List.drop (i+1) (U1 (U0 (eN S Z i) w))=U1 (U0 (eN S Z (i+1)) w) :=
 a5K h fun j hj=>by
  unfold eN;by_cases c:j=i
  ·subst c;simp
  ·rw [if_neg c]
   by_cases c2:j<i
   ·rw [if_pos c2,if_pos (by omega)]
   ·rw [if_neg c2,if_neg (by omega)]
theorem a60 {x:Int} {i:Nat} (h:i<=16):a44 .shr .i64 x (i:Int)=some (.int .i64 (x / 2 ^ i)):=by
 have p:=a5u i;unfold a44;rw [if_neg (by omega)];simp only [Int.toNat_natCast];rw [show min i IntKind.i64.bits=i by rw [show IntKind.i64.bits=64 from rfl];omega,Int.fdiv_eq_ediv_of_nonneg _ (by omega)]
theorem a73 {x:Int} {i:Nat}:x / 2 ^ i % 2=V4 (V7 x i):=by
 unfold V7 V4;have:x / 2 ^ i % 2=0∨x / 2 ^ i % 2=1:=by omega
 rcases this with h | h<;>simp [h]
theorem a8j {i:Nat} (h:i<=1000000):IntKind.u64.wrap (i:Int)=(i:Int):=by rw [IntKind.wrap_u64];omega
def VZ (d:D) (l:List Bool):Prop:=FL 1 d ((U1 l).map fun x=>[x])
theorem VZ.vb {d:D} {l:List Bool} (h:VZ d l) (s:k4):VB s d l:=by
 rcases h with ⟨rfl,h⟩ | rfl
 ·exact .inl ⟨rfl,List.map_eq_nil_iff.1 h⟩
 ·exact .inr (.inl rfl)
theorem VB.du {s:k4} {d:D} {l:List Bool} (h:VB s d l):∃d',aL s.get 20 d=some d'/\VZ d' l:=by
 obtain ⟨d',h1,h2⟩:=Rd.aL h (by simp [U1,a1Y]);refine ⟨d',h1,?_⟩;rcases h2 with ⟨rfl,h⟩ | rfl | ⟨id,off,cs,rfl,h,_⟩
 ·exact .inl ⟨rfl,by rw [h];rfl⟩
 ·exact .inr rfl
 ·simp [k4.empty,k4.get] at h
theorem c0n (b:Bool):(0:Int)<=V4 b:=by cases b<;>decide
theorem c0T (b:Bool):V4 b<2:=by cases b<;>decide
theorem a39 {A:Nat->Bool} {w i:Nat} {b:Bool} (h:i<w) (e:A i=b):List.take i (U1 (U0 (W8 A i) w))++[.int .i64 (V4 b)]++List.drop (i+1) (U1 (U0 (W8 A i) w))=U1 (U0 (W8 A (i+1)) w):=e▸a5v h
def a86 (A:Nat->Bool) (i:Nat) (b:Bool):Nat->Bool:=fun j=>if j=i then b else W8 A i j
theorem c2x {A:Nat->Bool} {w i:Nat} {b:Bool} (h:i<w):List.take i (U1 (U0 (W8 A i) w))++[.int .i64 (V4 b)]++List.drop (i+1) (U1 (U0 (W8 A i) w))=U1 (U0 (a86 A i b) w):=a5K h fun _ _=>rfl
theorem c4c {A:Nat->Bool} {w i:Nat} {b c:Bool} (h:i<w) (e:A i=c):List.take i (U1 (U0 (a86 A i b) w))++[.int .i64 (V4 c)]++List.drop (i+1) (U1 (U0 (a86 A i b) w))=U1 (U0 (W8 A (i+1)) w) :=
 a5K h fun j _=>by
  unfold a86 W8;by_cases q:j=i
  ·subst q;simp [e]
  ·rw [if_neg q,if_neg q]
   congr 1
   rw [decide_eq_decide];omega
theorem c3I {A:Nat->Bool} {w i:Nat} {b:Bool} (h:i<w):i<(U1 (U0 (a86 A i b) w)).length:=by simpa using h
end
end Go.V
namespace Go.Proofs.YtigbmclkjknnjaaGreat
open Go.V
section
def GB (s:k4) (g:Nat):Prop:=∃n m,s.get g=some (.cells [.arr n 0 1 2,.ag,.map m])
variable {s:k4} {g:Nat}
theorem GB.fr {s':k4} (h:GB s g) (f:Fr [] s s'):GB s' g:=by
 obtain ⟨n,m,h⟩:=h;exact ⟨n,m,by rw [f.2 _ (u7 h) (by simp),h]⟩
theorem a1W (b:Bool):ca U8 55 [.int .i64 (V4 b)] (.int .i64 (V4 (!b))):=by
 refine a0F ?_;cases b
 ·refine a02 (vf:=a9f) rfl ?_
  unfold a9f;refine zF ?_;refine V6 ?_;decide
 ·refine a02 (vf:=a9f) rfl ?_
  unfold a9f;refine zF ?_;refine V6 ?_;decide
theorem a5k (hg:GB s g) (b:Bool):X9 U8 80 [.ptr g 0,.int .i64 (V4 b)] s fun r s'=>r=.int .i64 (V4 b)/\s'=s:=by
 obtain ⟨n,m,hg⟩:=hg;have hl:=u7 hg;have q0:¬ (1:Int)<=Int.tdiv 0 2:=by decide
 have q1:¬ (1:Int)<=Int.tdiv 1 2:=by decide
 cases b
 ·have e:V4 false=0:=rfl
  rw [e];refine X4 (vf:=a9G) rfl ?_;unfold a9G;refine zF ?_;refine zY (aN hg q0) ?_;exact ⟨rfl,rfl⟩
 ·have e:V4 true=1:=rfl
  rw [e];refine X4 (vf:=a9G) rfl ?_;unfold a9G;refine zF ?_;refine zY (aN hg q1) ?_;exact ⟨rfl,rfl⟩
theorem a08 (hg:GB s g) (a b:Bool):CB U8 44 [.ptr g 0,.int .i64 (V4 a),.int .i64 (V4 b)] s (a&&b):=by
 have m1:=c2F a b;have m2:=c2p a b;have hn:ca U8 55 [.int .i64 1] (.int .i64 0):=a1W true;unfold CB;refine X4 (vf:=vf44) rfl ?_;unfold vf44;refine zF ?_;refine V6 ?_;refine xs (a5k hg a) ?_;refine V6 ?_;refine xs (a5k hg b) ?_;refine zY m1 ?_;refine xs (a5k hg a) ?_;refine V6 ?_;refine xs (a5k hg b) ?_;refine zY m2 ?_;cases a<;>cases b
 ·simp (disch:=(first|exact Rf.mk rfl|with_reducible assumption|omega|((repeat (first|rw [nP]|rw [nS]|rw [Z2]))<;>omega)|decide)) only [go_sem,↓reduceIte,a2u,a4j]
  exact ⟨rfl,(Fr.push _).aD _ (.inr (Nat.le_refl _))⟩
 ·simp (disch:=(first|exact Rf.mk rfl|with_reducible assumption|omega|((repeat (first|rw [nP]|rw [nS]|rw [Z2]))<;>omega)|decide)) only [go_sem,↓reduceIte,a2u,a4j]
  exact ⟨rfl,(Fr.push _).aD _ (.inr (Nat.le_refl _))⟩
 ·simp (disch:=(first|exact Rf.mk rfl|with_reducible assumption|omega|((repeat (first|rw [nP]|rw [nS]|rw [Z2]))<;>omega)|decide)) only [go_sem,↓reduceIte,a2u,a4j]
  exact ⟨rfl,(Fr.push _).aD _ (.inr (Nat.le_refl _))⟩
 ·simp (disch:=(first|exact Rf.mk rfl|with_reducible assumption|omega|((repeat (first|rw [nP]|rw [nS]|rw [Z2]))<;>omega)|decide)) only [go_sem,↓reduceIte,a2u,a4j,hn]
  exact ⟨rfl,(Fr.push _).aD _ (.inr (Nat.le_refl _))⟩
theorem and1_c (hg:GB s g) (a:Bool):CB U8 44 [.ptr g 0,.int .i64 (V4 a),.int .i64 1] s a:=by
 have h:=a08 hg a true;rw [Bool.and_true] at h;exact h
theorem a5D (hg:GB s g) (a b:Bool):CB U8 58 [.ptr g 0,.int .i64 (V4 a),.int .i64 (V4 b)] s (a||b):=by
 have h1:=a1W a;have h2:=a1W b;have h3:=a1W (!a&&!b);rw [c1M] at h3;unfold CB;refine X4 (vf:=vf58) rfl ?_;unfold vf58;refine zF ?_;refine V6 ?_;refine xs (a5k hg a) ?_;refine zY h1 ?_;refine xs (a5k hg b) ?_;refine zY h2 ?_;refine xb (a08 hg _ _) fun s1 f1=>?_
 refine zY h3 ?_;exact ⟨rfl,f1⟩
theorem a6O (hg:GB s g) (a b:Bool):CB U8 60 [.ptr g 0,.int .i64 (V4 a),.int .i64 (V4 b)] s (a != b):=by
 have h1:=a1W a;have h2:=a1W b;unfold CB;refine X4 (vf:=vf60) rfl ?_;unfold vf60;refine zF ?_;refine V6 ?_;refine xs (a5k hg a) ?_;refine V6 ?_;refine xs (a5k hg b) ?_;refine zY h2 ?_;refine xb (a08 hg _ _) fun s1 f1=>?_
 have hg:=hg.fr f1;refine zY h1 ?_;refine xb (a08 hg _ _) fun s2 f2=>?_
 have hg:=hg.fr f2;refine V6 ?_;refine xb (a5D hg _ _) fun s3 f3=>?_
 rw [c42];refine V6 ?_;exact ⟨rfl,(f1.trans f2 (by simp)).trans f3 (by simp)⟩
theorem b28 (hg:GB s g) (c a b:Bool):CB U8 129 [.ptr g 0,.int .i64 (V4 c),.int .i64 (V4 a),.int .i64 (V4 b)] s (if c then a else b):=by
 have h1:=a1W c;unfold CB;refine X4 (vf:=b3l) rfl ?_;unfold b3l;refine zF ?_;refine V6 ?_;refine xs (a5k hg c) ?_;refine V6 ?_;refine xs (a5k hg a) ?_;refine V6 ?_;refine xs (a5k hg b) ?_;refine V6 ?_;refine xb (a08 hg _ _) fun s1 f1=>?_
 have hg:=hg.fr f1;refine zY h1 ?_;refine xb (a08 hg _ _) fun s2 f2=>?_
 have hg:=hg.fr f2;refine V6 ?_;refine xb (a5D hg _ _) fun s3 f3=>?_
 rw [bmux];refine V6 ?_;exact ⟨rfl,(f1.trans f2 (by simp)).trans f3 (by simp)⟩
theorem any_c (hg:GB s g) {d:D} {l:List Bool} (hd:VB s d l) (hl:l.length<=100000):CB U8 47 [.ptr g 0,d] s (a0w (aB l) l.length):=by
 have iI:=hd.len;have o:=hd.one;unfold CB;refine X4 (vf:=vf47) rfl ?_;unfold vf47;refine zF ?_;refine zY (aN o iI) ?_;refine X5 [0,1,4,8,9] 0 l.length (fun i f s'=>f 10=.int .i64 (i:Int)/\f 5=.int .i64 (V4 (a0w (aB l) i))/\Fr [] s s') (.mk rfl) (by omega) ⟨rfl,rfl,Fr.refl _ _⟩ ?_;rintro i f s2 hi ⟨sU,h5,fr⟩;by_cases ci:i<l.length
 ·obtain ⟨p,p1,p2⟩:=(hd.fr fr).idx ci (k:=.i64)
  refine zY (W6 sU h5 ci p1 p2) ?_;refine xb (a5D (hg.fr fr) _ _) fun s3 f3=>?_
  refine V6 ?_;exact ⟨ci,rfl,fr.trans f3 (by simp)⟩
 ·obtain rfl:i=l.length:=by omega
  refine zY (V5 sU h5 ci) ?_;exact ⟨rfl,fr⟩
theorem all_c (hg:GB s g) {d:D} {l:List Bool} (hd:VB s d l) (hl:l.length<=100000):CB U8 56 [.ptr g 0,d] s (a3u (aB l) l.length):=by
 have iI:=hd.len;have o:=hd.one;unfold CB;refine X4 (vf:=vf56) rfl ?_;unfold vf56;refine zF ?_;refine zY (aN o iI) ?_;refine X5 [0,1,4,8,9] 0 l.length (fun i f s'=>f 10=.int .i64 (i:Int)/\f 5=.int .i64 (V4 (a3u (aB l) i))/\Fr [] s s') (.mk rfl) (by omega) ⟨rfl,rfl,Fr.refl _ _⟩ ?_;rintro i f s2 hi ⟨sU,h5,fr⟩;by_cases ci:i<l.length
 ·obtain ⟨p,p1,p2⟩:=(hd.fr fr).idx ci (k:=.i64)
  refine zY (W6 sU h5 ci p1 p2) ?_;refine xb (a08 (hg.fr fr) _ _) fun s3 f3=>?_
  refine V6 ?_;exact ⟨ci,rfl,fr.trans f3 (by simp)⟩
 ·obtain rfl:i=l.length:=by omega
  refine zY (V5 sU h5 ci) ?_;exact ⟨rfl,fr⟩
theorem a4Z (hg:GB s g) {d:D} {A:Nat->Bool} {w:Nat} (hd:VB s d (U0 A w)) (hl:w<=100000):CB U8 47 [.ptr g 0,d] s (a0w A w):=by
 have h:=any_c hg hd (by rw [a3A];exact hl);rw [a3A] at h;rwa [b3X (B:=A) fun i hi=>a62 hi] at h
theorem a8z (hg:GB s g) {d:D} {A:Nat->Bool} {w:Nat} (hd:VB s d (U0 A w)) (hl:w<=100000):CB U8 56 [.ptr g 0,d] s (a3u A w):=by
 have h:=all_c hg hd (by rw [a3A];exact hl);rw [a3A] at h;rwa [b8A (B:=A) fun i hi=>a62 hi] at h
end
section
variable {s:k4} {g:Nat} {A B:Nat->Bool} {w:Nat}
theorem b7r {n:Int} (h1:1<=n) (h2:n<=16):ca U8 118 [.int .i64 n] (.int .i64 n):=by
 have e1:max n 1=n:=by omega
 have e2:min n 16=n:=by omega
 refine a0F ?_;refine a02 (vf:=a8M) rfl ?_;unfold a8M;refine zF ?_;exact zZ (aN e1 e2)
theorem bown_c (hg:GB s g) {d:D} {l:List Bool} (hd:VB s d l) (h1:1<=l.length) (h2:l.length<=16):CV U8 130 [.ptr g 0,d] s (aB l) l.length:=by
 have iI:=hd.len;have o:=hd.one;have c1:¬ (l.length:Int)<1:=by omega
 have c2:¬ (16:Int)<(l.length:Int):=by omega
 have m1:=eh (w:=l.length) (by omega);have m2:=dy (w:=l.length) (by omega);have hz:=a1D l.length;rw [a2G (aB l)] at hz;unfold CV;refine X4 (vf:=b4D) rfl ?_;unfold b4D;refine zF ?_;refine zY (Y3 o iI c1 c2 m1 m2 hz) ?_;obtain ⟨gb,f0⟩:=fR (s:=s) (A:=(aB l)) (w:=l.length);generalize s.push (.cells (U1 (U0 (W8 (aB l) 0) l.length)))=s1 at *;refine X5 [0,1,4,5,15,20,21] 0 l.length (fun i f s'=>f 22=.int .i64 (i:Int)/\s'.get s.next=some (.cells (U1 (U0 (W8 (aB l) i) l.length)))/\Fr [] s s') (.mk rfl) (by omega) ⟨rfl,gb,f0⟩ ?_;clear gb f0;rintro i f s2 hi ⟨h,gb,fr⟩;by_cases ci:i<l.length
 ·have hs:=a5v (A:=(aB l)) ci
  have hw:=a2p (A:=(aB l)) ci;obtain ⟨p,p1,p2⟩:=(hd.fr fr).idx ci (k:=.i64);refine zY (V3 h ci p1 p2) ?_;refine xb (and1_c (hg.fr fr) _) fun s3 f3=>?_
  have gb:=f3.kp gb;have lb:=u7 gb;refine zY (V3 gb ci hs hw) ?_;exact (fr.trans f3 (by simp)).st (Nat.le_refl _) _
 ·obtain rfl:i=l.length:=by omega
  refine zY (aN h ci) ?_;rw [a2z] at gb;exact ⟨_,rfl,Nat.le_refl _,gb,fr⟩
theorem a9V {d:D} {l:List Bool} (hd:VB s d l) (h1:1<=l.length) (h2:l.length<=16) (w1:1<=w) (w2:w<=16):CV U8 85 [d,.int .i64 (w:Int)] s (fun i=>aB l (min i (l.length-1))) w:=by
 have iI:=hd.len;have o:=hd.one;have c1:¬ (l.length:Int)<1:=by omega
 have c2:¬ (16:Int)<(l.length:Int):=by omega
 have hb:=b7r (n:=(w:Int)) (by omega) (by omega);have m1:=eh (w:=w) (by omega);have m2:=dy (w:=w) (by omega);have hz:=a1D w;rw [a2G (fun i=>aB l (min i (l.length-1)))] at hz;unfold CV;refine X4 (vf:=vf85) rfl ?_;unfold vf85;refine zF ?_;refine zY (U5 o iI c1 c2 hb m1 m2 hz) ?_;obtain ⟨gb,f0⟩:=fR (s:=s) (A:=(fun i=>aB l (min i (l.length-1)))) (w:=w);generalize s.push (.cells (U1 (U0 (W8 (fun i=>aB l (min i (l.length-1))) 0) w)))=s1 at *;refine X5 [0,1,4,5,14,20] 0 w (fun i f s'=>f 21=.int .i64 (i:Int)/\s'.get s.next=some (.cells (U1 (U0 (W8 (fun i=>aB l (min i (l.length-1))) i) w)))/\Fr [] s s') (.mk rfl) (by omega) ⟨rfl,gb,f0⟩ ?_;clear gb f0;rintro i f s2 hi ⟨h,gb,fr⟩;by_cases ci:i<w
 ·have hs:=a5v (A:=(fun i=>aB l (min i (l.length-1)))) ci
  have hw:=a2p (A:=(fun i=>aB l (min i (l.length-1)))) ci;obtain ⟨p,p1,p2⟩:=(hd.fr fr).idx (i:=min i (l.length-1)) (by omega) (k:=.i64);have e1:min (i:Int) ((l.length:Int)-1)=((min i (l.length-1):Nat):Int):=by omega
  have lb:=u7 gb;refine zY (U5 h ci iI e1 p1 p2 gb (aN hs hw)) ?_;exact fr.st (Nat.le_refl _) _
 ·obtain rfl:i=w:=by omega
  refine zY (aN h ci) ?_;rw [a2z] at gb;exact ⟨_,rfl,Nat.le_refl _,gb,fr⟩
theorem a8P (hg:GB s g) {da db:D} (ha:VB s da (U0 A w)) (hb:VB s db (U0 B w)) (w2:w<=16) (c:Bool):CV U8 156 [.ptr g 0,da,db,.int .i64 (V4 c)] s (a2f A B c) w:=by
 have tP:=ha.eI;have oa:=ha.one;have ub:=hb.eI;have ob:=hb.one;have m1:=eh (w:=w) (by omega);have m2:=dy (w:=w) (by omega);have hz:=a1D w;rw [a2G (a2f A B c)] at hz;unfold CV;refine X4 (vf:=b36) rfl ?_;unfold b36;refine zF ?_;refine zY (Y3 oa ob tP ub m1 m2 hz) ?_;obtain ⟨gb,f0⟩:=fR (s:=s) (A:=(a2f A B c)) (w:=w);generalize s.push (.cells (U1 (U0 (W8 (a2f A B c) 0) w)))=s1 at *;refine X5 [0,1,2,8,9,16] 0 w (fun i f s'=>f 17=.int .i64 (i:Int)/\f 3=.int .i64 (V4 (a6G A B c i))/\s'.get s.next=some (.cells (U1 (U0 (W8 (a2f A B c) i) w)))/\Fr [] s s') (.mk rfl) (by omega) ⟨rfl,rfl,gb,f0⟩ ?_;clear gb f0;rintro i f s2 hi ⟨h,h3,gb,fr⟩;by_cases ci:i<w
 ·have hs:=a5v (A:=(a2f A B c)) ci
  have hw:=a2p (A:=(a2f A B c)) ci;obtain ⟨p,p1,p2⟩:=(ha.fr fr).cC ci (k:=.i64);obtain ⟨q,q1,q2⟩:=(hb.fr fr).cC ci (k:=.i64);refine zY (Y3 h h3 ci p1 p2 q1 q2) ?_;refine xb (a6O (hg.fr fr) _ _) fun s3 f3=>?_
  have hO:=fr.trans f3 (by simp);refine zY h3 ?_;refine xb (a6O (hg.fr hO) _ _) fun s4 f4=>?_
  rw [show ((A i != B i) != a6G A B c i)=a2f A B c i from rfl];have gb:=f4.kp (f3.kp gb);have lb:=u7 gb;have f5:=(hO.trans f4 (by simp)).st (b:=s.next) (Nat.le_refl _) (some (.cells (U1 (U0 (W8 (a2f A B c) (i+1)) w))));have p3:=(ha.fr f5).ldF ci p1;have q3:=(hb.fr f5).ldF ci q1;refine zY (U5 gb ci hs hw p1 q1 p3 (V5 q3 h h3)) ?_;refine xb (a08 (hg.fr f5) _ _) fun s6 f6=>?_
  have iO:=f5.trans f6 (by simp);refine V6 ?_;refine xb (a08 (hg.fr iO) _ _) fun s7 f7=>?_
  have ko:=iO.trans f7 (by simp);refine V6 ?_;refine xb (a5D (hg.fr ko) _ _) fun s8 f8=>?_
  refine V6 ?_;exact ⟨ci,rfl,f8.kp (f7.kp (f6.kp (a0d lb))),ko.trans f8 (by simp)⟩
 ·obtain rfl:i=w:=by omega
  refine zY (aN h ci) ?_;rw [a2z] at gb;exact ⟨_,rfl,Nat.le_refl _,gb,fr⟩
theorem b3w {da:D} (ha:VB s da (U0 A w)) (w2:w<=16):CV U8 157 [da] s (fun i=>!A i) w:=by
 have tP:=ha.eI;have oa:=ha.one;have m1:=eh (w:=w) (by omega);have m2:=dy (w:=w) (by omega);have hz:=a1D w;rw [a2G (fun i=>!A i)] at hz;unfold CV;refine X4 (vf:=b37) rfl ?_;unfold b37;refine zF ?_;refine zY (W6 oa tP m1 m2 hz) ?_;obtain ⟨gb,f0⟩:=fR (s:=s) (A:=(fun i=>!A i)) (w:=w);generalize s.push (.cells (U1 (U0 (W8 (fun i=>!A i) 0) w)))=s1 at *;refine X5 [0,2,3,9] 0 w (fun i f s'=>f 10=.int .i64 (i:Int)/\s'.get s.next=some (.cells (U1 (U0 (W8 (fun i=>!A i) i) w)))/\Fr [] s s') (.mk rfl) (by omega) ⟨rfl,gb,f0⟩ ?_;clear gb f0;rintro i f s2 hi ⟨h,gb,fr⟩;by_cases ci:i<w
 ·have hs:=a5v (A:=(fun i=>!A i)) ci
  have hw:=a2p (A:=(fun i=>!A i)) ci;obtain ⟨p,p1,p2⟩:=(ha.fr fr).cC ci (k:=.i64);have hn:=a1W (A i);have lb:=u7 gb;refine zY (U5 h ci p1 p2 hn gb hs hw) ?_;exact fr.st (Nat.le_refl _) _
 ·obtain rfl:i=w:=by omega
  refine zY (aN h ci) ?_;rw [a2z] at gb;exact ⟨_,rfl,Nat.le_refl _,gb,fr⟩
theorem b7O (hg:GB s g) {da db:D} (ha:VB s da (U0 A w)) (hb:VB s db (U0 B w)) (w2:w<=16) (c:Bool):CV U8 183 [.ptr g 0,.int .i64 (V4 c),da,db] s (a4w c A B) w:=by
 have tP:=ha.eI;have oa:=ha.one;have ub:=hb.eI;have ob:=hb.one;have m1:=eh (w:=w) (by omega);have m2:=dy (w:=w) (by omega);have hz:=a1D w;rw [a2G (a4w c A B)] at hz;unfold CV;refine X4 (vf:=b1H) rfl ?_;unfold b1H;refine zF ?_;refine zY (Y3 oa ob tP ub m1 m2 hz) ?_;obtain ⟨gb,f0⟩:=fR (s:=s) (A:=(a4w c A B)) (w:=w);generalize s.push (.cells (U1 (U0 (W8 (a4w c A B) 0) w)))=s1 at *;refine X5 [0,1,2,3,8,9,15] 0 w (fun i f s'=>f 16=.int .i64 (i:Int)/\s'.get s.next=some (.cells (U1 (U0 (W8 (a4w c A B) i) w)))/\Fr [] s s') (.mk rfl) (by omega) ⟨rfl,gb,f0⟩ ?_;clear gb f0;rintro i f s2 hi ⟨h,gb,fr⟩;by_cases ci:i<w
 ·have hs:=a5v (A:=(a4w c A B)) ci
  have hw:=a2p (A:=(a4w c A B)) ci;obtain ⟨p,p1,p2⟩:=(ha.fr fr).cC ci (k:=.i64);obtain ⟨q,q1,q2⟩:=(hb.fr fr).cC ci (k:=.i64);refine zY (Y6 h ci p1 p2 q1 q2) ?_;refine xb (b28 (hg.fr fr) _ _ _) fun s3 f3=>?_
  have gb:=f3.kp gb;have lb:=u7 gb;rw [show (if c then A i else B i)=a4w c A B i from rfl];refine zY (V3 gb ci hs hw) ?_;exact (fr.trans f3 (by simp)).st (Nat.le_refl _) _
 ·obtain rfl:i=w:=by omega
  refine zY (aN h ci) ?_;rw [a2z] at gb;exact ⟨_,rfl,Nat.le_refl _,gb,fr⟩
theorem b02 (hg:GB s g) {da:D} (ha:VB s da (U0 A w)) (w2:w<=16) (c:Bool):CV U8 182 [.ptr g 0,.int .i64 (V4 c),da] s (W3 c A) w:=by
 have tP:=ha.eI;have oa:=ha.one;have m1:=eh (w:=w) (by omega);have m2:=dy (w:=w) (by omega);have hz:=a1D w;unfold CV;refine X4 (vf:=b3k) rfl ?_;unfold b3k;refine zF ?_;refine zY (W6 oa tP m1 m2 hz) ?_;obtain ⟨gz,f0⟩:(s.push (.cells (U1 (U0 (fun _=>false) w)))).get s.next=some (.cells (U1 (U0 (fun _=>false) w)))/\Fr [] s (s.push (.cells (U1 (U0 (fun _=>false) w)))):=⟨W2 rfl,Fr.push _⟩
 generalize s.push (.cells (U1 (U0 (fun _=>false) w)))=s1 at *;refine xv (b3w (ha.fr f0) w2) fun b s2 hb gn f2=>?_
 have ik:=f0.trans f2 (by simp);refine V6 ?_;refine xv (a8P (hg.fr ik) (VB.aU (f2.kp gz)) (VB.aU gn) w2 true) fun b3 s3 jU g3 f3=>?_
 have hO:=ik.trans f3 (by simp);refine V6 ?_;refine xv (b7O (hg.fr hO) (VB.aU g3) (ha.fr hO) w2 c) fun b4 s4 jB g4 f4=>?_
 refine V6 ?_;exact ⟨_,rfl,by have:=hO.1;omega,g4,hO.trans f4 (by simp)⟩
theorem b7o (hg:GB s g) {a b:Nat} (ga:s.get a=some (.cells (U1 (U0 A w)))) (gb:s.get b=some (.cells (U1 (U0 B w)))) (w2:w<=16):CB U8 177 [.ptr g 0,.arr a 0 w 1,.arr b 0 w 1] s (a40 A B w):=by
 unfold CB;refine X4 (vf:=b34) rfl ?_;unfold b34;refine zF ?_;refine V6 ?_;refine X5 [0,1,2,6,10] 0 w (fun i f s'=>f 11=.int .i64 (i:Int)/\f 7=.int .i64 (V4 (a40 A B i))/\Fr [] s s') (.mk rfl) (by omega) ⟨rfl,rfl,Fr.refl _ _⟩ ?_;rintro i f s2 hi ⟨h,h7,fr⟩;by_cases ci:i<w
 ·have ga:=fr.kp ga
  have gb:=fr.kp gb;have la:=u7 ga;have lb:=u7 gb;have e1:=a17 (A:=A) ci;have e2:=a17 (A:=B) ci;refine zY (Y3 h h7 ci ga gb e1 e2) ?_;refine xxb (a6O (hg.fr fr) _ _) (by simp) fun s3 E f3 hE=>?_
  have gb:=f3.kp gb;have hO:=fr.trans f3 (by simp);have hn:a2b b E:=a4k hE lb;refine zY (Y6 h h7 ci gb e2 hn) ?_;refine a2D (xb (b28 (hg.fr hO) _ _ _) fun s4 f4=>?_);refine V6 ?_;exact ⟨ci,rfl,hO.trans f4 (by simp)⟩
 ·obtain rfl:i=w:=by omega
  refine zY (V5 h h7 ci) ?_;exact ⟨rfl,fr⟩
theorem b4v (hg:GB s g) {d:D} (hd:VB s d (U0 A w)) (w1:1<=w) (w2:w<=16):CV U8 130 [.ptr g 0,d] s A w :=
 (bown_c hg hd (by rw [a3A];exact w1) (by rw [a3A];exact w2)).cg (a3A _ _) fun i hi=>a62 (by rwa [a3A] at hi)
theorem b4S {d:D} (hd:VB s d (U0 A w)) (w1:1<=w) (w2:w<=16):CV U8 85 [d,.int .i64 (w:Int)] s A w :=
 (a9V hd (by rw [a3A];exact w1) (by rw [a3A];exact w2) w1 w2).cg rfl fun i hi=>by
  rw [a3A,a62 (by omega)];congr 1
  omega
theorem a78 (hg:GB s g) {da db:D} (ha:VB s da (U0 A w)) (hb:VB s db (U0 B w)) (w1:1<=w) (w2:w<=16):X9 U8 155 [.ptr g 0,da,db] s fun r s'=>∃a b,r=.aR [.arr a 0 w 1,.arr b 0 w 1]/\a≠b/\s.next<=a/\s.next<=b/\s'.get a=some (.cells (U1 (U0 A w)))/\s'.get b=some (.cells (U1 (U0 B w)))/\Fr [] s s':=by
 have oa:=ha.one;have ob:=hb.one;have e1:max (w:Int) (w:Int)=(w:Int):=by omega
 refine X4 (vf:=b3V) rfl ?_;unfold b3V;refine zF ?_;refine zY (aN oa ob) ?_;refine xv (b4v hg ha w1 w2) fun b1 s1 lU g1 f1=>?_
 refine V6 ?_;refine xv (b4v (hg.fr f1) (hb.fr f1) w1 w2) fun b2 s2 ja g2 f2=>?_
 have ik:=f1.trans f2 (by simp);refine zY e1 ?_;refine xv (b4S (VB.aU (f2.kp g1)) w1 w2) fun b3 s3 jU g3 f3=>?_
 have hO:=ik.trans f3 (by simp);refine V6 ?_;refine xv (b4S (VB.aU (f3.kp g2)) w1 w2) fun b4 s4 jB g4 f4=>?_
 have l3:=u7 g3;have n2:=ik.1;have n3:=f3.1;refine V6 ?_;exact ⟨b3,b4,rfl,by omega,by omega,by omega,f4.kp g3,g4,hO.trans f4 (by simp)⟩
theorem vadd_c (hg:GB s g) {da db:D} (ha:VB s da (U0 A w)) (hb:VB s db (U0 B w)) (w1:1<=w) (w2:w<=16):CV U8 160 [.ptr g 0,da,db] s (a2f A B false) w:=by
 have oa:=ha.one;have ob:=hb.one;unfold CV;refine X4 (vf:=b4b) rfl ?_;unfold b4b;refine zF ?_;refine zY (aN oa ob) ?_;refine a0D (a78 hg ha hb w1 w2) rfl ?_;rintro r s1 ⟨a,b,rfl,mT,na,nb,ga,gb,f1⟩;refine V6 ?_;refine xv (a8P (hg.fr f1) (VB.aU ga) (VB.aU gb) w2 false) fun b2 s2 ja g2 f2=>?_
 have n1:=f1.1;refine V6 ?_;exact ⟨b2,rfl,by omega,g2,f1.trans f2 (by simp)⟩
theorem b6m (hg:GB s g) {da db:D} (ha:VB s da (U0 A w)) (hb:VB s db (U0 B w)) (w1:1<=w) (w2:w<=16):CV U8 123 [.ptr g 0,da,db] s (a2f A (fun j=>!B j) true) w:=by
 have oa:=ha.one;have ob:=hb.one;unfold CV;refine X4 (vf:=b3D) rfl ?_;unfold b3D;refine zF ?_;refine zY (aN oa ob) ?_;refine a0D (a78 hg ha hb w1 w2) rfl ?_;rintro r s1 ⟨a,b,rfl,mT,na,nb,ga,gb,f1⟩;refine V6 ?_;refine xv (b3w (VB.aU gb) w2) fun b2 s2 ja g2 f2=>?_
 have ik:=f1.trans f2 (by simp);refine V6 ?_;refine xv (a8P (hg.fr ik) (VB.aU (f2.kp ga)) (VB.aU g2) w2 true) fun b3 s3 jU g3 f3=>?_
 have n1:=ik.1;refine V6 ?_;exact ⟨b3,rfl,by omega,g3,ik.trans f3 (by simp)⟩
theorem c2L (hg:GB s g) {da db:D} (ha:VB s da (U0 A w)) (hb:VB s db (U0 B w)) (w1:1<=w) (w2:w<=16):CB U8 158 [.ptr g 0,da,db] s (a6X A B w):=by
 have oa:=ha.one;have ob:=hb.one;unfold CB;refine X4 (vf:=b4g) rfl ?_;unfold b4g;refine zF ?_;refine zY (aN oa ob) ?_;refine a0D (a78 hg ha hb w1 w2) rfl ?_;rintro r s1 ⟨a,b,rfl,mT,na,nb,ga,gb,f1⟩;refine V6 ?_;refine X5 [0,1,2,6,17] 0 w (fun i f s'=>f 18=.int .i64 (i:Int)/\f 7=.int .i64 (V4 (a6X A B i))/\Fr [] s1 s') (.mk rfl) (by omega) ⟨rfl,rfl,Fr.refl _ _⟩ ?_;rintro i f s2 hi ⟨h,h7,fr⟩;by_cases ci:i<w
 ·have ga:=fr.kp ga
  have gb:=fr.kp gb;have la:=u7 ga;have lb:=u7 gb;have e1:=a17 (A:=A) ci;have e2:=a17 (A:=B) ci;have hn:=a1W (A i != B i);refine zY (Y3 h h7 ci ga gb e1 e2) ?_;refine xb (a6O ((hg.fr f1).fr fr) _ _) fun s3 f3=>?_
  have hO:=fr.trans f3 (by simp);refine zY (aN hn h7) ?_;refine xb (a08 ((hg.fr f1).fr hO) _ _) fun s4 f4=>?_
  refine V6 ?_;exact ⟨ci,rfl,hO.trans f4 (by simp)⟩
 ·obtain rfl:i=w:=by omega
  refine zY (V5 h h7 ci) ?_;exact ⟨rfl,f1.trans fr (by simp)⟩
theorem c1a (hg:GB s g) {da db:D} (ha:VB s da (U0 A w)) (hb:VB s db (U0 B w)) (w1:1<=w) (w2:w<=16):CB U8 159 [.ptr g 0,da,db] s (a40 (fun i=>if i=w-1 then !A i else A i) (fun i=>if i=w-1 then !B i else B i) w):=by
 have oa:=ha.one;have ob:=hb.one;unfold CB;refine X4 (vf:=b3o) rfl ?_;unfold b3o;refine zF ?_;refine zY (aN oa ob) ?_;refine a0D (a78 hg ha hb w1 w2) rfl ?_;rintro r s1 ⟨a,b,rfl,mT,na,nb,ga,gb,f1⟩;have la:=u7 ga;have lb:=u7 gb;have ew:(w:Int)-1=((w-1:Nat):Int):=by omega
 have cw:w-1<w:=by omega
 have e1:=a17 (A:=A) cw;have e2:=a17 (A:=B) cw;have h1:=a1W (A (w-1));have h2:=a1W (B (w-1));have k1:=a6d (A:=A) cw;have k2:=a6d (A:=B) cw;have t1:=a5K (A:=A) (B:=fun i=>if i=w-1 then !A i else A i) (b:=!A (w-1)) cw fun j _=>by by_cases c:j=w-1<;>simp [c]
 have t2:=a5K (A:=B) (B:=fun i=>if i=w-1 then !B i else B i) (b:=!B (w-1)) cw fun j _=>by by_cases c:j=w-1<;>simp [c]
 have zL:=mT.symm;refine zY (U5 ga gb ew cw e1 e2 h1 (Y3 h2 k1 k2 t1 t2 mT zL)) ?_;have f2:=(f1.st na (some (.cells (U1 (U0 (fun i=>if i=w-1 then !A i else A i) w))))).st nb (some (.cells (U1 (U0 (fun i=>if i=w-1 then !B i else B i) w))));refine xb (b7o (hg.fr f2) (by rw [Z7 mT,a0d la]) (a0d (by simpa using lb)) w2) fun s3 f3=>?_
 refine V6 ?_;exact ⟨rfl,f2.trans f3 (by simp)⟩
theorem a8b (hg:GB s g) {da:D} (ha:VB s da (U0 A w)) (w1:1<=w) (w2:w<=16):CB U8 93 [.ptr g 0,da] s (a0w A w):=by
 have oa:=ha.one;unfold CB;refine X4 (vf:=vf93) rfl ?_;unfold vf93;refine zF ?_;refine zY oa ?_;refine xv (b4v hg ha w1 w2) fun b1 s1 lU g1 f1=>?_
 refine V6 ?_;refine xb (a4Z (hg.fr f1) (VB.aU g1) (by omega)) fun s2 f2=>?_
 refine V6 ?_;exact ⟨rfl,f1.trans f2 (by simp)⟩
theorem c4C {A:Nat->Bool} {b:Bool} {i j:Nat}:V.partAt A b i (i+j)=(A j&&b):=by simp [V.partAt]
theorem b92 {A:Nat->Bool} {b:Bool} {i w:Nat}:U1 (U0 (fun _=>false) w)=U1 (U0 (W8 (V.partAt A b i) (i+0)) w):=by
 congr 1
 refine a2s fun j hj=>?_
 unfold W8 V.partAt;by_cases c:j<i
 ·simp [c,show ¬ i<=j by omega]
 ·simp [c]
theorem vmul_c (hg:GB s g) {da db:D} (ha:VB s da (U0 A w)) (hb:VB s db (U0 B w)) (w1:1<=w) (w2:w<=16):CV U8 161 [.ptr g 0,da,db] s (a58 A B w) w:=by
 have oa:=ha.one;have ob:=hb.one;have m1:=eh (w:=w) (by omega);have m2:=dy (w:=w) (by omega);have hz:=a1D w;unfold CV;refine X4 (vf:=b2M) rfl ?_;unfold b2M;refine zF ?_;refine zY (aN oa ob) ?_;refine a0D (a78 hg ha hb w1 w2) rfl ?_;rintro r s1 ⟨a,b,rfl,mT,na,nb,ga,gb,f1⟩;refine zY (V5 m1 m2 hz) ?_;have gr:(s1.push (.cells (U1 (U0 (fun _=>false) w)))).get s1.next=some (.cells (U1 (U0 (a58 A B 0) w))):=W2 rfl;have fp:Fr [] s1 (s1.push (.cells (U1 (U0 (fun _=>false) w)))):=Fr.push _;have f2:=f1.trans fp (by simp);have ga:=fp.kp ga;have gb:=fp.kp gb;have n1:=f1.1;generalize s1.push (.cells (U1 (U0 (fun _=>false) w)))=s2 at *;generalize s1.next=rb at *;refine X5 [0,1,2,6,7,23] 0 w (fun i f s'=>f 24=.int .i64 (i:Int)/\Fr [] s2 s'/\∃rb,f 8=.arr rb 0 w 1/\s.next<=rb/\s'.get rb=some (.cells (U1 (U0 (a58 A B i) w)))) (.mk rfl) (by omega) ⟨rfl,Fr.refl _ _,rb,rfl,n1,gr⟩ ?_;clear gr;rintro i f s3 hi ⟨h,fr,rb,h8,BZ,gr⟩;by_cases ci:i<w
 rotate_left
 ·obtain rfl:i=w:=by omega
  refine zY (V5 h h8 ci) ?_;exact ⟨rb,rfl,BZ,gr,f2.trans fr (by simp)⟩
 have lo:=b92 (A:=A) (b:=B i) (i:=i) (w:=w);rw [lo] at hz;have e1:(w:Int)-(i:Int)=((w-i:Nat):Int):=by omega
 refine zY (Y3 h h8 ci m1 m2 hz e1) ?_;obtain ⟨gp,f4⟩:(s3.push (.cells (U1 (U0 (W8 (V.partAt A (B i) i) (i+0)) w)))).get s3.next=some (.cells (U1 (U0 (W8 (V.partAt A (B i) i) (i+0)) w)))/\Fr [] s3 (s3.push (.cells (U1 (U0 (W8 (V.partAt A (B i) i) (i+0)) w)))):=⟨W2 rfl,Fr.push _⟩
 generalize s3.push (.cells (U1 (U0 (W8 (V.partAt A (B i) i) (i+0)) w)))=s4 at *;generalize mr:s3.next=pb at *;have n3:=fr.1;have iy:=fr.trans f4 (by simp);have uS:s2.next<=pb:=by omega
 refine X5 [0,1,2,6,7,8,9,10,23,24,25,31] 0 (w-i) (fun j f s'=>f 32=.int .i64 (j:Int)/\s'.get pb=some (.cells (U1 (U0 (W8 (V.partAt A (B i) i) (i+j)) w)))/\Fr [] s3 s') (.mk rfl) (by omega) ⟨rfl,gp,f4⟩ ?_;clear gp;rintro j f s5 hj ⟨Bs,gp,iK⟩;have iO:=fr.trans iK (by simp);by_cases cj:j<w-i
 ·have c2:i+j<w:=by omega
  have ga:=iO.kp ga;have gb:=iO.kp gb;have la:=u7 ga;have lb:=u7 gb;have e1:=a17 (A:=A) (i:=j) (w:=w) (by omega);have e2:=a17 (A:=B) ci;have hs:=a5v (A:=V.partAt A (B i) i) c2;have hw:=a2p (A:=V.partAt A (B i) i) c2;have e3:(i:Int)+(j:Int)=((i+j:Nat):Int):=by omega
  refine zY (Y3 Bs cj ga gb e1 e2 e3) ?_;refine xb (a08 (hg.fr (f2.trans iO (by simp))) _ _) fun s7 f7=>?_
  have gp:=f7.kp gp;have lp:=u7 gp;rw [<- c4C (A:=A) (b:=B i) (i:=i) (j:=j)];refine zY (W6 gp hs hw e3 c2) ?_;exact ⟨cj,rfl,(iK.trans f7 (by simp)).st (by omega) _⟩
 ·obtain rfl:j=w-i:=by omega
  have e4:i+(w-i)=w:=by omega
  rw [e4,a2z] at gp;refine zY (aN Bs cj) ?_;refine xv (a8P (hg.fr (f2.trans iO (by simp))) (VB.aU (iK.kp gr)) (VB.aU gp) w2 false) fun b8 s8 og g8 f8=>?_
  have n4:=iO.1;refine V6 ?_;exact ⟨ci,iO.trans f8 (by simp),b8,rfl,by have:=f2.1;omega,g8⟩
end
section
variable {s:k4} {g:Nat} {A B:Nat->Bool}
theorem b7L (hg:GB s g) {da db:D} (ha:VB s da (U0 A 8)) (hb:VB s db (U0 B 8)):X9 U8 178 [.ptr g 0,da,db] s fun r s'=>∃q p,r=.aR [.arr q 0 8 1,.arr p 0 8 1]/\s.next<=q/\s.next<=p/\s'.get q=some (.cells (U1 (U0 (fun i=>a0w B 8&&W3 (A 7 != B 7) (a1b (W3 (A 7) A) (W3 (B 7) B) 8) i) 8)))/\s'.get p=some (.cells (U1 (U0 (fun i=>a0w B 8&&W3 (A 7) (a1Z (W3 (A 7) A) (W3 (B 7) B) 8 8) i) 8)))/\Fr [] s s':=by
 have oa:=ha.one;have ob:=hb.one;have m1:(64:Int)<=2 ^ 47:=by decide
 have m2:(8:Int)<2 ^ 62:=by decide
 have hz:=a1D 8;refine X4 (vf:=b3s) rfl ?_;unfold b3s;refine zF ?_;refine zY (aN oa ob) ?_;refine a0D (a78 hg ha hb (by omega) (by omega)) rfl ?_;rintro r s1 ⟨a,b,rfl,mT,na,nb,ga,gb,f1⟩;have la:=u7 ga;have lb:=u7 gb;have e1:=a17 (A:=A) (w:=8) (i:=7) (by omega);have e2:=a17 (A:=B) (w:=8) (i:=7) (by omega);refine zY (V3 ga gb e1 e2) ?_;refine xv (b02 (hg.fr f1) (VB.aU ga) (by omega) (A 7)) fun x s2 hx gx f2=>?_
 have ik:=f1.trans f2 (by simp);refine V6 ?_;refine xv (b02 (hg.fr ik) (VB.aU (f2.kp gb)) (by omega) (B 7)) fun y s3 hy gy f3=>?_
 have hO:=ik.trans f3 (by simp);have gx:=f3.kp gx;have gb:=f3.kp (f2.kp gb);refine zY (V5 hz m1 m2) ?_;have fp:Fr [] s3 ((s3.push (.cells (U1 (U0 (fun _=>false) 8)))).push (.cells (U1 (U0 (fun _=>false) 8)))):=(Fr.push _).aj _;have gq:((s3.push (.cells (U1 (U0 (fun _=>false) 8)))).push (.cells (U1 (U0 (fun _=>false) 8)))).get s3.next=some (.cells (U1 (U0 (fun j=>decide (8-0<=j)&&a1b (W3 (A 7) A) (W3 (B 7) B) 8 j) 8))):=by
  rw [a0l (by simp),W2 rfl];congr 3
 have gr:((s3.push (.cells (U1 (U0 (fun _=>false) 8)))).push (.cells (U1 (U0 (fun _=>false) 8)))).get (s3.next+1)=some (.cells (U1 (U0 (a1Z (W3 (A 7) A) (W3 (B 7) B) 8 0) 8))):=W2 (by simp);generalize (s3.push (.cells (U1 (U0 (fun _=>false) 8)))).push (.cells (U1 (U0 (fun _=>false) 8)))=s4 at *;generalize hqb:s3.next=qb at *;have n3:=hO.1;refine X5 [0,1,2,6,7,8,9,10,11,12,13,18,19,51,102,103,104] 0 8 (fun k f s'=>f 52=.int .i64 (k:Int)/\Fr [] s3 s'/\s'.get qb=some (.cells (U1 (U0 (fun j=>decide (8-k<=j)&&a1b (W3 (A 7) A) (W3 (B 7) B) 8 j) 8)))/\∃rb,f 14=.arr rb 0 8 1/\qb<rb/\s'.get rb=some (.cells (U1 (U0 (a1Z (W3 (A 7) A) (W3 (B 7) B) 8 k) 8)))) (.mk rfl) (by omega) ⟨rfl,fp,gq,qb+1,rfl,by omega,gr⟩ ?_;clear gq gr fp;rintro k f s5 hk ⟨h,fr,gq,rb,h14,BZ,gr⟩;by_cases ck:k<8
 ·have Bj:=fr.kp gx
  have lx:=u7 Bj;have lr:=u7 gr;have e1:(7:Int)-(k:Int)=((7-k:Nat):Int):=by omega
  have e2:=a17 (A:=(W3 (A 7) A)) (w:=8) (i:=7-k) (by omega);have c7:7-k<8:=by omega
  have Af:(k:Int)<8:=by omega
  refine zY (U5 h h14 Af e1 Bj gr e2 c7) ?_;obtain ⟨s6,ha6,sm,f6⟩:=c3i (d:=(W3 (A 7) A) (7-k)) gr;have iO:=fr.trans f6 (by simp);have n5:=fr.1;refine zY ha6 ?_;refine xb (b7o (hg.fr (hO.trans iO (by simp))) sm (iO.kp gy) (by omega)) fun s7 f7=>?_
  have ko:=iO.trans f7 (by simp);have hn:ca U8 55 [.int .i64 (V4 (a40 (a4e (a1Z (W3 (A 7) A) (W3 (B 7) B) 8 k) ((W3 (A 7) A) (7-k))) (W3 (B 7) B) 8))] (.int .i64 (V4 (a7s (W3 (A 7) A) (W3 (B 7) B) 8 k))):=a1W _;have At:=f7.kp (f6.kp gq);have lq:=u7 At;have kq:=a6d (A:=fun j=>decide (8-k<=j)&&a1b (W3 (A 7) A) (W3 (B 7) B) 8 j) c7;have tq:=a5K (A:=fun j=>decide (8-k<=j)&&a1b (W3 (A 7) A) (W3 (B 7) B) 8 j) (B:=fun j=>decide (8-(k+1)<=j)&&a1b (W3 (A 7) A) (W3 (B 7) B) 8 j) (b:=a7s (W3 (A 7) A) (W3 (B 7) B) 8 k) c7 fun j hj=>by
   by_cases c:j=7-k
   ·subst c
    rw [if_pos rfl,a1b,decide_eq_true (by omega),Bool.true_and];congr 1
    omega
   ·rw [if_neg c]
    congr 1
    rw [decide_eq_decide];omega
  refine zY (W6 hn At c7 kq tq) ?_;have f8:=ko.st (b:=qb) (by omega) (some (.cells (U1 (U0 (fun j=>decide (8-(k+1)<=j)&&a1b (W3 (A 7) A) (W3 (B 7) B) 8 j) 8))));have Bv:(s7.set qb (some (.cells (U1 (U0 (fun j=>decide (8-(k+1)<=j)&&a1b (W3 (A 7) A) (W3 (B 7) B) 8 j) 8))))).get qb=some (.cells (U1 (U0 (fun j=>decide (8-(k+1)<=j)&&a1b (W3 (A 7) A) (W3 (B 7) B) 8 j) 8))):=a0d lq;have mI:(s7.set qb (some (.cells (U1 (U0 (fun j=>decide (8-(k+1)<=j)&&a1b (W3 (A 7) A) (W3 (B 7) B) 8 j) 8))))).get (s5.next+1)=some (.cells (U1 (U0 (a4e (a1Z (W3 (A 7) A) (W3 (B 7) B) 8 k) ((W3 (A 7) A) (7-k))) 8))):=by
   rw [Z7 (by omega)];exact f7.kp sm
  generalize s7.set qb (some (.cells (U1 (U0 (fun j=>decide (8-(k+1)<=j)&&a1b (W3 (A 7) A) (W3 (B 7) B) 8 j) 8))))=s8 at *;refine xv (b3w (VB.aU (f8.kp gy)) (by omega)) fun b9 s9 hb9 g9 f9=>?_
  have mH:=f8.trans f9 (by simp);refine V6 ?_;refine xv (a8P (hg.fr (hO.trans mH (by simp))) (VB.aU (f9.kp mI)) (VB.aU g9) (by omega) true) fun b10 lG hb10 g10 f10=>?_
  have mW:=mH.trans f10 (by simp);refine V6 ?_;refine xv (b7O (hg.fr (hO.trans mW (by simp))) (VB.aU g10) (VB.aU (f10.kp (f9.kp mI))) (by omega) (a7s (W3 (A 7) A) (W3 (B 7) B) 8 k)) fun b11 tp hb11 g11 f11=>?_
  have l8:=u7 Bv;have n9:=f9.1;have n10:=f10.1;refine V6 ?_;exact ⟨ck,mW.trans f11 (by simp),f11.kp (f10.kp (f9.kp Bv)),b11,rfl,by omega,g11⟩
 obtain rfl:k=8:=by omega
 have gq:s5.get qb=some (.cells (U1 (U0 (a1b (W3 (A 7) A) (W3 (B 7) B) 8) 8))):=by
  rw [gq];congr 3
 have Af:¬ ((8:Nat):Int)<8:=by omega
 refine zY (V5 h h14 Af) ?_;have iK:=hO.trans fr (by simp);refine xb (a6O (hg.fr iK) _ _) fun s6 f6=>?_
 have iO:=iK.trans f6 (by simp);refine V6 ?_;refine xv (b02 (hg.fr iO) (VB.aU (f6.kp gq)) (by omega) _) fun q s7 hq gq f7=>?_
 have ko:=iO.trans f7 (by simp);refine V6 ?_;refine xv (b02 (hg.fr ko) (VB.aU (f7.kp (f6.kp gr))) (by omega) _) fun p s8 hp gp f8=>?_
 have jv:=ko.trans f8 (by simp);refine V6 ?_;refine xb (a4Z (hg.fr jv) (VB.aU (f8.kp (f7.kp (f6.kp (fr.kp gb))))) (by omega)) fun s9 f9=>?_
 have mH:=jv.trans f9 (by simp);have lq:=u7 gq;have n7:=ko.1;have n6:=iO.1;have gq:=f9.kp (f8.kp gq);have gp:=f9.kp gp;refine V6 ?_;rw [c1u (S:=a0w B 8)] at gq gp;refine X5 [0,1,2,6,7,8,9,10,11,12,13,14,15,16,17,18,51,52,53,102] 0 8 (fun i f s'=>f 103=.int .i64 (i:Int)/\Fr [] s s'/\s'.get q=some (.cells (U1 (U0 (eN (a0w B 8) (W3 (A 7 != B 7) (a1b (W3 (A 7) A) (W3 (B 7) B) 8)) i) 8)))/\s'.get p=some (.cells (U1 (U0 (eN (a0w B 8) (W3 (A 7) (a1Z (W3 (A 7) A) (W3 (B 7) B) 8 8)) i) 8)))) (.mk rfl) (by omega) ⟨rfl,mH,gq,gp⟩ ?_;clear gq gp;rintro i f lG hi ⟨h,fr,gq,gp⟩;have Ci:q≠p:=by omega
 have Bg:=Ci.symm;by_cases ci:i<8
 rotate_left
 ·obtain rfl:i=8:=by omega
  have jb:¬ ((8:Nat):Int)<8:=by omega
  rw [hf_all] at gq gp;refine zY (aN h jb) ?_;exact ⟨q,p,rfl,by omega,by omega,gq,gp,fr⟩
 have jb:(i:Int)<8:=by omega
 have lq:=u7 gq;have lp:=u7 gp;have e1:=b81 (S:=a0w B 8) (Z:=W3 (A 7 != B 7) (a1b (W3 (A 7) A) (W3 (B 7) B) 8)) ci;have e2:=b81 (S:=a0w B 8) (Z:=W3 (A 7) (a1Z (W3 (A 7) A) (W3 (B 7) B) 8 8)) ci;have t1:=b73 (S:=a0w B 8) (Z:=W3 (A 7 != B 7) (a1b (W3 (A 7) A) (W3 (B 7) B) 8)) ci;have t2:=b73 (S:=a0w B 8) (Z:=W3 (A 7) (a1Z (W3 (A 7) A) (W3 (B 7) B) 8 8)) ci;have k1:=a6d (A:=eN (a0w B 8) (W3 (A 7 != B 7) (a1b (W3 (A 7) A) (W3 (B 7) B) 8)) i) ci;have k2:=a6d (A:=eN (a0w B 8) (W3 (A 7) (a1Z (W3 (A 7) A) (W3 (B 7) B) 8 8)) i) ci;refine zY (W6 h jb ci gq e1) ?_;refine xb (a08 (hg.fr fr) _ _) fun tp f11=>?_
 have gq:=f11.kp gq;have gp:=f11.kp gp;have lq:=u7 gq;have lp:=u7 gp;refine zY (U5 gq gp k1 t1 ci e2 Bg Ci) ?_;have mh:=(fr.trans f11 (by simp)).st (b:=q) (by omega) (some (.cells (U1 (U0 (eN (a0w B 8) (W3 (A 7 != B 7) (a1b (W3 (A 7) A) (W3 (B 7) B) 8)) (i+1)) 8))));have gq2:(tp.set q (some (.cells (U1 (U0 (eN (a0w B 8) (W3 (A 7 != B 7) (a1b (W3 (A 7) A) (W3 (B 7) B) 8)) (i+1)) 8))))).get q=some (.cells (U1 (U0 (eN (a0w B 8) (W3 (A 7 != B 7) (a1b (W3 (A 7) A) (W3 (B 7) B) 8)) (i+1)) 8))):=a0d lq;have gp2:(tp.set q (some (.cells (U1 (U0 (eN (a0w B 8) (W3 (A 7 != B 7) (a1b (W3 (A 7) A) (W3 (B 7) B) 8)) (i+1)) 8))))).get p=some (.cells (U1 (U0 (eN (a0w B 8) (W3 (A 7) (a1Z (W3 (A 7) A) (W3 (B 7) B) 8 8)) i) 8))):=by rw [Z7 Bg];exact gp
 refine xb (a08 (hg.fr mh) _ _) fun Ag f13=>?_
 have gq:=f13.kp gq2;have gp:=f13.kp gp2;have lq:=u7 gq;have lp:=u7 gp;refine zY (V3 gp k2 t2 ci) ?_;exact ⟨(mh.trans f13 (by simp)).st (by omega) _,gq⟩
theorem vdiv_c (hg:GB s g) {da db:D} (ha:VB s da (U0 A 8)) (hb:VB s db (U0 B 8)):CV U8 162 [.ptr g 0,da,db] s (fun i=>a0w B 8&&W3 (A 7 != B 7) (a1b (W3 (A 7) A) (W3 (B 7) B) 8) i) 8:=by
 have oa:=ha.one;have ob:=hb.one;unfold CV;refine X4 (vf:=b2X) rfl ?_;unfold b2X;refine zF ?_;refine zY (aN oa ob) ?_;refine a0D (b7L hg ha hb) rfl ?_;rintro r s1 ⟨q,p,rfl,nq,np,gq,gp,f1⟩;refine V6 ?_;exact ⟨q,rfl,nq,gq,f1⟩
theorem vrem_c (hg:GB s g) {da db:D} (ha:VB s da (U0 A 8)) (hb:VB s db (U0 B 8)):CV U8 163 [.ptr g 0,da,db] s (fun i=>a0w B 8&&W3 (A 7) (a1Z (W3 (A 7) A) (W3 (B 7) B) 8 8) i) 8:=by
 have oa:=ha.one;have ob:=hb.one;unfold CV;refine X4 (vf:=b1Y) rfl ?_;unfold b1Y;refine zF ?_;refine zY (aN oa ob) ?_;refine a0D (b7L hg ha hb) rfl ?_;rintro r s1 ⟨q,p,rfl,nq,np,gq,gp,f1⟩;refine V6 ?_;exact ⟨p,rfl,np,gp,f1⟩
end
section
variable {s:k4} {g:Nat} {A B:Nat->Bool} {w:Nat}
theorem b5M (n:Int) (w1:1<=w) (w2:w<=16):a52 U8 122 [.int .i64 n,.int .i64 (w:Int)] fun d=>VZ d (bL n w):=by
 have hb:=b7r (n:=(w:Int)) (by omega) (by omega);have m1:=eh (w:=w) (by omega);have m2:=dy (w:=w) (by omega);have hz:=a1D w;rw [a2G (V7 n)] at hz;refine a6x (vf:=b24) rfl ?_;unfold b24;refine zF ?_;refine zY (V3 hb m1 m2 hz) ?_;refine X5 [0,1,4,5,11] 0 w (fun i f s'=>f 12=.int .i64 (i:Int)/\s'.get 0=some (.cells (U1 (U0 (W8 (V7 n) i) w)))) (.mk rfl) (by omega) ⟨rfl,W2 rfl⟩ ?_;rintro i f s2 hi ⟨h,gb⟩;by_cases ci:i<w
 ·have hs:=a5v (A:=V7 n) ci
  have hw:=a2p (A:=V7 n) ci;have jS:=a60 (x:=n) (i:=i) (by omega);have ha:=a6Z (x:=n / 2 ^ i);have lb:=u7 gb;rw [a73] at ha;exact zZ (Y3 h ci jS ha gb hs hw)
 ·obtain rfl:i=w:=by omega
  rw [a2z] at gb;obtain ⟨d',h1,h2⟩:=(VB.aU gb).du;refine zY (aN h ci) ?_;exact ⟨d',h1,h2⟩
theorem c0l (n:Int) (w2:w<=16):a52 U8 82 [.int .i64 n,.int .i64 (w:Int)] fun d=>VZ d (bL n w):=by
 have m1:=eh (w:=w) (by omega);have m2:=dy (w:=w) (by omega);have hz:=a1D w;rw [a2G (V7 n)] at hz;refine a6x (vf:=vf82) rfl ?_;unfold vf82;refine zF ?_;refine zY (V5 m1 m2 hz) ?_;refine X5 [0,1,4,5,9] 0 w (fun i f s'=>f 10=.int .i64 (i:Int)/\s'.get 0=some (.cells (U1 (U0 (W8 (V7 n) i) w)))) (.mk rfl) (by omega) ⟨rfl,W2 rfl⟩ ?_;rintro i f s2 hi ⟨h,gb⟩;by_cases ci:i<w
 ·have hs:=a5v (A:=V7 n) ci
  have hw:=a2p (A:=V7 n) ci;have jS:=a60 (x:=n) (i:=i) (by omega);have hu:=a8j (i:=i) (by omega);have ha:=a6Z (x:=n / 2 ^ i);have lb:=u7 gb;rw [a73] at ha;exact zZ (U5 h ci hu jS ha gb hs hw)
 ·obtain rfl:i=w:=by omega
  rw [a2z] at gb;obtain ⟨d',h1,h2⟩:=(VB.aU gb).du;refine zY (aN h ci) ?_;exact ⟨d',h1,h2⟩
theorem a8Q (b:Bool):a52 U8 124 [.int .i64 (V4 b)] fun d=>VZ d (bL (V4 b) 8):=by
 have m1:(64:Int)<=2 ^ 47:=by decide
 have m2:(8:Int)<2 ^ 62:=by decide
 have hz:=a1D 8;have hs:D.int .i64 (V4 b)::List.drop 1 (U1 (U0 (fun _=>false) 8))=U1 (U0 (V7 (V4 b)) 8):=by cases b<;>rfl
 have gl:0<(k4.empty.push (.cells (U1 (U0 (fun _=>false) 8)))).next:=u7 (W2 rfl);have hw:=a6d (A:=fun _=>false) (w:=8) (i:=0) (by omega);refine a6x (vf:=b14) rfl ?_;unfold b14;refine zF ?_;refine zY (W6 m1 m2 hz hs hw) ?_;exact (VB.aU (a0d gl)).du
theorem c2B (hg:GB s g):X9 U8 22 [.ptr g 0] s fun r s'=>r=.int .i64 1/\s'=s:=by
 obtain ⟨n,m,hg⟩:=hg;have hl:=u7 hg;refine X4 (vf:=vf22) rfl ?_;unfold vf22;refine zF ?_;refine zY hg ?_;exact ⟨rfl,rfl⟩
theorem a7U (hg:GB s g) {d:D} (hd:VB s d (U0 A w)) (hw:w<=1000):CV U8 40 [.ptr g 0,d] s A w:=by
 have iI:=hd.eI;have o:=hd.one;have m1:=eh (w:=w) (by omega);have m2:=dy (w:=w) (by omega);have hz:=a1D w;rw [a2G A] at hz;unfold CV;refine X4 (vf:=vf40) rfl ?_;unfold vf40;refine zF ?_;refine zY (W6 o iI m1 m2 hz) ?_;obtain ⟨gb,f0⟩:=fR (s:=s) (A:=A) (w:=w);generalize s.push (.cells (U1 (U0 (W8 A 0) w)))=s1 at *;refine xs (c2B (hg.fr f0)) ?_;refine zY iI ?_;refine X5 [0,1,4,5,6,15,16] 0 w (fun i f s'=>f 17=.int .i64 (i:Int)/\s'.get s.next=some (.cells (U1 (U0 (W8 A i) w)))/\Fr [] s s') (.mk rfl) (by omega) ⟨rfl,gb,f0⟩ ?_;clear gb f0;rintro i f s2 hi ⟨h,gb,fr⟩;by_cases ci:i<w
 ·have hs:=a5v (A:=A) ci
  have hw:=a2p (A:=A) ci;obtain ⟨p,p1,p2⟩:=(hd.fr fr).cC ci (k:=.i64);have lb:=u7 gb;have c1:=c0n (A i);have c2:=c0T (A i);refine zY (U5 h ci p1 p2 c1 c2 gb (aN hs hw)) ?_;exact fr.st (Nat.le_refl _) _
 ·obtain rfl:i=w:=by omega
  refine zY (aN h ci) ?_;rw [a2z] at gb;exact ⟨_,rfl,Nat.le_refl _,gb,fr⟩
theorem b0V (hg:GB s g) {d:D} {n k:Nat} (hd:VB s d (bL (n:Int) w)) (hn:n<2 ^ w) (hw:w<=16) (hk:k<=100000):CB U8 43 [.ptr g 0,d,.int .i64 (k:Int)] s (decide (n=k)):=by
 have iI:=hd.eI;have o:=hd.one;have c0:¬ (k:Int)<0:=by omega
 have hu:=a8j (i:=w) (by omega);have jS:=a60 (x:=(k:Int)) (i:=w) (by omega);have hp:=a5u w;by_cases ck:k<2 ^ w
 rotate_left
 ·have c1:((k:Int) / 2 ^ w != 0)=true:=by
   rw [bne_iff_ne];have e:((2 ^ w:Nat):Int)=2 ^ w:=by simp
   rw [<- e,<- Int.natCast_ediv];have:=Nat.div_pos (Nat.le_of_not_lt ck) (Nat.pos_of_ne_zero (by simp));omega
  rw [decide_eq_false (by omega)];unfold CB;refine X4 (vf:=a8x) rfl ?_;unfold a8x;refine zF ?_;refine zY (Y6 o iI c0 hu jS c1) ?_;exact ⟨rfl,Fr.refl _ _⟩
 have c1:((k:Int) / 2 ^ w != 0)=false:=by
  rw [bne_eq_false_iff_eq,Int.ediv_eq_zero_of_lt (by omega)];have e:((2 ^ w:Nat):Int)=2 ^ w:=by simp
  omega
 rw [<- eq_b hn ck];have m1:=eh (w:=w) (by omega);have m2:=dy (w:=w) (by omega);have hz:=a1D w;rw [a2G (a4a n k)] at hz;unfold CB;refine X4 (vf:=a8x) rfl ?_;unfold a8x;refine zF ?_;refine zY (U5 o iI c0 hu jS c1 m1 (aN m2 hz)) ?_;obtain ⟨gb,f0⟩:=fR (s:=s) (A:=a4a n k) (w:=w);generalize s.push (.cells (U1 (U0 (W8 (a4a n k) 0) w)))=s1 at *;refine X5 [0,1,2,6,7,19,23,24] 0 w (fun i f s'=>f 25=.int .i64 (i:Int)/\s'.get s.next=some (.cells (U1 (U0 (W8 (a4a n k) i) w)))/\Fr [] s s') (.mk rfl) (by omega) ⟨rfl,gb,f0⟩ ?_;clear gb f0;rintro i f s2 hi ⟨h,gb,fr⟩;by_cases ci:i<w
 rotate_left
 ·obtain rfl:i=w:=by omega
  rw [a2z] at gb;refine zY (aN h ci) ?_;refine xb (a8z (hg.fr fr) (VB.aU gb) (by omega)) fun s3 f3=>?_
  refine V6 ?_;exact ⟨rfl,fr.trans f3 (by simp)⟩
 obtain ⟨p,p1,p2⟩:=(hd.fr fr).cC ci (k:=.i64);have lb:=u7 gb;have hu:=a8j (i:=i) (by omega);have jS:=a60 (x:=(k:Int)) (i:=i) (by omega);have ha:=a6Z (x:=(k:Int) / 2 ^ i);rw [a73] at ha;have hw:=a2p (A:=a4a n k) ci;have rY:=c3I (A:=a4a n k) (b:=V7 n i) ci;cases hb:V7 (k:Int) i
 ·rw [hb] at ha
  have hs:=c2x (A:=a4a n k) (b:=V7 n i) ci;have ph:=c4c (A:=a4a n k) (b:=V7 n i) (c:=!V7 n i) ci (by unfold a4a;rw [hb];rfl);have hn:=a1W (V7 n i);simp (disch:=(first|exact Rf.mk rfl|with_reducible assumption|omega|((repeat (first|rw [nP]|rw [nS]|rw [Z2]))<;>omega)|decide)) only [go_sem,↓reduceIte,h,ci,p1,p2,hu,jS,ha,a4j,hn,gb,hs,ph,hw,rY];exact (fr.st (Nat.le_refl _) _).st (Nat.le_refl _) _
 ·rw [hb] at ha
  have hs:=a39 (A:=a4a n k) (b:=V7 n i) ci (by unfold a4a;rw [hb];rfl);simp (disch:=(first|exact Rf.mk rfl|with_reducible assumption|omega|((repeat (first|rw [nP]|rw [nS]|rw [Z2]))<;>omega)|decide)) only [go_sem,↓reduceIte,h,ci,p1,p2,hu,jS,ha,a2u,gb,hs,hw];exact fr.st (Nat.le_refl _) _
theorem a80 (hg:GB s g) {d:D} {n:Nat} {k:Int} (hd:VB s d (bL (n:Int) w)) (hn:n<2 ^ w) (hw:w<=16) (hk:-1<=k/\k<=100000):CB U8 54 [.ptr g 0,d,.int .i64 k] s (decide ((n:Int)<=k)):=by
 have iI:=hd.eI;have o:=hd.one;by_cases ck:k<0
 ·rw [decide_eq_false (by omega)]
  unfold CB;refine X4 (vf:=a7f) rfl ?_;unfold a7f;refine zF ?_;refine zY (V5 o iI ck) ?_;exact ⟨rfl,Fr.refl _ _⟩
 obtain ⟨j,rfl⟩:∃j:Nat,k=(j:Int):=⟨k.toNat,by omega⟩
 have hu:=a8j (i:=w) (by omega);have jS:=a60 (x:=(j:Int)) (i:=w) (by omega);have hp:=a5u w;have e:((2 ^ w:Nat):Int)=2 ^ w:=by simp
 by_cases cj:j<2 ^ w
 rotate_left
 ·have c1:((j:Int) / 2 ^ w != 0)=true:=by
   rw [bne_iff_ne,<- e,<- Int.natCast_ediv];have:=Nat.div_pos (Nat.le_of_not_lt cj) (Nat.pos_of_ne_zero (by simp));omega
  rw [decide_eq_true (by omega)];unfold CB;refine X4 (vf:=a7f) rfl ?_;unfold a7f;refine zF ?_;refine zY (Y6 o iI ck hu jS c1) ?_;exact ⟨rfl,Fr.refl _ _⟩
 have c1:((j:Int) / 2 ^ w != 0)=false:=by
  rw [bne_eq_false_iff_eq,Int.ediv_eq_zero_of_lt (by omega)];omega
 have hm:=most_b hn cj;have e2:decide ((n:Int)<=(j:Int))=decide (n<=j):=by congr 1;apply propext;omega
 rw [e2,<- hm];unfold CB;refine X4 (vf:=a7f) rfl ?_;unfold a7f;refine zF ?_;refine zY (Y6 o iI ck hu jS c1) ?_;refine X5 [0,1,2,6,11,17,18,19] 0 w (fun i f s'=>f 20=.int .i64 (i:Int)/\f 7=.int .i64 (V4 (bX (V7 n) (V7 j) i))/\Fr [] s s') (.mk rfl) (by omega) ⟨rfl,rfl,Fr.refl _ _⟩ ?_;rintro i f s2 hi ⟨h,h7,fr⟩;by_cases ci:i<w
 rotate_left
 ·obtain rfl:i=w:=by omega
  refine zY (V5 h h7 ci) ?_;exact ⟨rfl,fr⟩
 obtain ⟨p,p1,p2⟩:=(hd.fr fr).cC ci (k:=.i64);have hu:=a8j (i:=i) (by omega);have jS:=a60 (x:=(j:Int)) (i:=i) (by omega);have ha:=a6Z (x:=(j:Int) / 2 ^ i);rw [a73] at ha;have hn:=a1W (V7 n i);cases hb:V7 (j:Int) i
 ·rw [hb] at ha
  simp (disch:=(first|exact Rf.mk rfl|with_reducible assumption|omega|((repeat (first|rw [nP]|rw [nS]|rw [Z2]))<;>omega)|decide)) only [go_sem,↓reduceIte,h,h7,ci,p1,p2,hu,jS,ha,a4j,hn];refine xb (a08 (hg.fr fr) _ _) fun s3 f3=>?_
  refine V6 ?_;refine ⟨ci,?_,fr.trans f3 (by simp)⟩;rw [bX,hb];rfl
 ·rw [hb] at ha
  simp (disch:=(first|exact Rf.mk rfl|with_reducible assumption|omega|((repeat (first|rw [nP]|rw [nS]|rw [Z2]))<;>omega)|decide)) only [go_sem,↓reduceIte,h,h7,ci,p1,p2,hu,jS,ha,a2u,hn];refine xb (a5D (hg.fr fr) _ _) fun s3 f3=>?_
  refine V6 ?_;refine ⟨ci,?_,fr.trans f3 (by simp)⟩;rw [bX,hb];rfl
end
end Go.Proofs.YtigbmclkjknnjaaGreat
namespace Go.V
section
variable {fs:FuncId->Option U3}
theorem c0c {ae T ops env s Q} (hp:a7z ae ops=true) (h:WQ fs [] ops env s Q):WX fs ae T ops env s Q:=by
 intro tr _;obtain ⟨n,gQ,s',h1,h2⟩:=h [] a7L;exact ⟨n,gQ,s',a67 hp h1,h2⟩
theorem Fr.up {ids:List Nat} {s s':k4} (h:Fr [] s s'):Fr ids s s':=⟨h.1,fun i hl _=>h.2 i hl (by simp)⟩
theorem Hp.call {s s':k4} {p:Nat} {c c':List D} {W R H:Hs} (h:Hp s ((p,c)::W) R) (hf:Fr [p] s s') (hg:s'.get p=some (.cells c')) (hH:∀e∈H,s.next<=e.1/\s'.get e.1=some (.cells e.2)):Hp s' ((p,c')::W) (H++R):=by
 have nj:=h.nd;rw [List.map_cons,List.nodup_cons] at nj;refine ⟨by rw [List.map_cons,List.nodup_cons];exact nj,?_,?_,?_⟩
 ·intro w hw r hr e
  have iC:w.1<s.next:=by
   rcases List.mem_cons.1 hw with rfl | hw
   ·exact h.ltW (w:=(p,c)) (by simp)
   ·exact h.ltW (by simp [hw])
  rcases List.mem_append.1 hr with hr | hr
  ·have:=(hH r hr).1;omega
  ·rcases List.mem_cons.1 hw with rfl | hw
   ·exact h.ap (p,c) (by simp) r hr e
   ·exact h.ap w (by simp [hw]) r hr e
 ·intro w hw
  rcases List.mem_cons.1 hw with rfl | hw
  ·exact hg
  ·have:=h.w w (by simp [hw])
   rw [hf.2 _ (u7 this) (by
    rw [List.mem_singleton];intro e;exact nj.1 (e▸List.mem_map.2 ⟨w,hw,rfl⟩))]
   exact this
 ·intro r hr
  rcases List.mem_append.1 hr with hr | hr
  ·exact (hH r hr).2
  ·have:=h.r r hr
   rw [hf.2 _ (u7 this) (by
    rw [List.mem_singleton];intro e;exact h.ap (p,c) (by simp) r hr e.symm)]
   exact this
theorem b69 {t rest env K s d sz bytes rows row A B E R} (h:Rp d sz rows E) (hp:Hp s (A++E++B) R) (hr:row.length=sz) (ly:∀r∈rows,r.length=sz) (hb:bytes<=1000) (hl:rows.length<=1000000000)
 (k:∀id s',Rp (.arr id 0 (rows.length+1) sz) sz (rows++[row]) [(id,(rows++[row]).flatten)]->Hp s' (A++(id,(rows++[row]).flatten)::B) R->s.next<=id->Fr (E.map Prod.fst) s s'->XQ fs [] rest ((t,.arr id 0 (rows.length+1) sz)::env) s' K):BM (Z6 sz bytes d (.arr s.next 0 1 sz) (s.push (.cells row))) fs t rest env K :=
 a9z h hp hr ly hb hl fun s' h1 h2 h3 h4=>k _ s' h1 h2 (by omega) ⟨by omega,fun j hj hn=>h4 j hj fun e he hx=>hn (List.mem_map.2 ⟨e,he,hx⟩)⟩
inductive Im where
 | ch (w:List Nat) (k n:Nat)
 | vr (w:List Nat) (n:Nat)
 | pr (w:List Nat) (k:Nat)
 deriving Inhabited
def skipR (pos:Nat):List D:=[.int .i64 14,.ag,.ag,.ag,.int .i64 (pos:Int),.ag]
def intR (l:List Int):List (List D):=l.map fun n=>[.int .i64 n]
def RowR (r:List D) (H:Hs):Im->Prop
 | .ch w k n=>∃ (pos:Nat) (dw dn:D) (Ew En:Hs),r=[.int .i64 1,dw,dn,.ag,.int .i64 (pos:Int),.ag]/\Rp dw 1 [[.str (bs w)]] Ew/\Rp dn 1 (intR [(k:Int),(n:Int),0,0]) En/\H=Ew++En
 | .vr w n=>∃ (pos:Nat) (dw dn:D) (Ew En:Hs),r=[.int .i64 2,dw,dn,.ag,.int .i64 (pos:Int),.ag]/\Rp dw 1 [[.str (bs w)]] Ew/\Rp dn 1 (intR [(n:Int),0]) En/\H=Ew++En
 | .pr w k=>∃ (pos:Nat) (dw dn dl:D) (Ew En El:Hs) (qs:List Nat),r=[.int .i64 3,dw,dn,.ag,.int .i64 (pos:Int),dl]/\Rp dw 1 [[.str (bs w)]] Ew/\Rp dn 1 (intR [1]) En/\qs.length=k/\Rp dl 6 (qs.map skipR) El/\H=Ew++(En++El)
def Im.size:Im->Nat
 | .ch _ _ _=>1
 | .vr _ _=>1
 | .pr _ k=>k+1
def eB (l:List Im):Nat:=(l.map Im.size).sum
end
section
def Rr (R:Hs) (d:D) (l:List D):Prop:=(d=.ag/\l=[])∨d=.bg 1 (l.map fun x=>[x])∨∃id off cs,d=.arr id off l.length 1/\(id,cs)∈R/\off+l.length<=cs.length/\(cs.drop off).take l.length=l
theorem Rr.rd {R:Hs} {d:D} {l:List D} (h:Rr R d l) {s:k4} (hs:Y2 s R):Rd s d l:=by
 rcases h with h | h | ⟨id,off,cs,rfl,h1,h2,h3⟩
 ·exact .inl h
 ·exact .inr (.inl h)
 ·exact .inr (.inr ⟨id,off,cs,rfl,hs (id,cs) h1,h2,h3⟩)
theorem Rr.mono {R R':Hs} {d:D} {l:List D} (h:Rr R d l) (hr:∀e∈R,e∈R'):Rr R' d l:=by
 rcases h with h | h | ⟨id,off,cs,rfl,h1,h2,h3⟩
 ·exact .inl h
 ·exact .inr (.inl h)
 ·exact .inr (.inr ⟨id,off,cs,rfl,hr _ h1,h2,h3⟩)
theorem Rr.one {R:Hs} {d:D} {l:List D} (h:Rr R d l):V1 d=true:=by
 rcases h with ⟨rfl,_⟩ | rfl | ⟨_,_,_,rfl,_⟩<;>rfl
theorem Rr.take {R:Hs} {d:D} {l:List D} (h:Rr R d l) {n:Nat} (hn:n<=l.length) {k:IntKind}:∃d',a25 (some 1) d none (some (.int k (n:Int)))=some d'/\Rr R d' (l.take n):=by
 rcases h with ⟨rfl,rfl⟩ | rfl | ⟨id,off,cs,rfl,h1,h2,h3⟩
 ·obtain rfl:n=0:=by simpa using hn
  exact ⟨.ag,by simp [a25,a13],.inl ⟨rfl,rfl⟩⟩
 ·exact ⟨_,by simp [a25,a13,hn];rfl,.inr (.inl (by simp [List.map_take]))⟩
 ·by_cases h0:0<l.length
  ·refine ⟨.arr id off n 1,by simp [a25,a13,hn];intro h;subst h;simp at h0,.inr (.inr ⟨id,off,cs,by simp [Nat.min_eq_left hn],h1,by simp;omega,?_⟩)⟩
   have:(l.take n).length=n:=by simp;omega
   rw [this];have e:=congrArg (List.take n) h3;rwa [List.take_take,Nat.min_eq_left hn] at e
  ·have e:l=[]:=List.eq_nil_of_length_eq_zero (by omega)
   subst e;obtain rfl:n=0:=by simpa using hn
   exact ⟨.bg 1 [],by simp [a25,a13],.inr (.inl rfl)⟩
theorem Rr.drop {R:Hs} {d:D} {l:List D} (h:Rr R d l) {n:Nat} (hn:n<=l.length) {k:IntKind}:∃d',a25 (some 1) d (some (.int k (n:Int))) none=some d'/\Rr R d' (l.drop n):=by
 rcases h with ⟨rfl,rfl⟩ | rfl | ⟨id,off,cs,rfl,h1,h2,h3⟩
 ·obtain rfl:n=0:=by simpa using hn
  exact ⟨.ag,by simp [a25,a13],.inl ⟨rfl,rfl⟩⟩
 ·exact ⟨.bg 1 ((l.map fun x=>[x]).drop n),by simp only [a25,a13,List.length_map,Int.toNat_natCast];rw [if_pos (by omega)];simp only [Option.bind,if_pos];rw [if_pos ⟨trivial,Nat.le_refl _,hn⟩,List.take_of_length_le (by simp)],.inr (.inl (by simp [List.map_drop]))⟩
 ·by_cases h0:n<l.length
  ·refine ⟨.arr id (off+n) (l.length-n) 1,by simp [a25,a13,h0,hn],.inr (.inr ⟨id,off+n,cs,by simp,h1,by simp;omega,?_⟩)⟩
   have e:=congrArg (List.drop n) h3;rw [List.drop_take,List.drop_drop] at e;rw [List.length_drop,e]
  ·have e:l.drop n=[]:=List.drop_eq_nil_of_le (by omega)
   rw [e];exact ⟨.bg 1 [],by simp [a25,a13,hn,h0],.inr (.inl rfl)⟩
theorem c0X {s:k4} {x:D} {l:List D} (h:Rd s x l) (hl:l.length<=100000):∃r s' E,Z6 1 8 .ag x s=some (r,s')/\Rr E r l/\Fr [] s s'/\∀e∈E,s.next<=e.1/\s'.get e.1=some (.cells e.2):=by
 obtain ⟨h1,h2,h3⟩:=h.row;by_cases c:l=[]
 ·subst c
  exact ⟨.ag,s,[],by simp [Z6,h1,h2,h3],.inl ⟨rfl,rfl⟩,Fr.refl _ _,by simp⟩
 ·have hn:l.length≠0:=fun h=>c (List.eq_nil_of_length_eq_zero h)
  refine ⟨.arr s.next 0 l.length 1,s.push (.cells l),[(s.next,l)],?_,.inr (.inr ⟨s.next,0,l,rfl,by simp,by omega,by simp⟩),Fr.push _,?_⟩
  ·unfold Z6
   simp only [h1,h2,h3];rw [if_pos (by decide),if_neg hn,if_pos (by omega)]
  ·intro e he
   simp only [List.mem_singleton] at he;subst he;exact ⟨Nat.le_refl _,W2 rfl⟩
variable {fs:FuncId->Option U3}
theorem b3u {ae T i t fo args rest s K W} {env:q8} {f:FuncId} {ir:List D} {l:List D} {P:D->k4->Prop} (hf:env.ev fo=.fn f ir) (hr:X9 fs f l s P) (ha:env.aP args++ir=l) (gY:∀d s',P d s'->Fr W s s') (hT:∀e∈T,(e.i,i)∈ae->∀id,e.rd=some id->id<s.next/\id∉W) (hp:a7z ae rest=true)
 (h:∀d s',P d s'->XQ fs [] rest ((t,d)::env) s' K):WX fs ae T ((i,⟨some t,.m (.call .raw fo args),none⟩)::rest) env s K:=by
 subst ha;obtain ⟨d,s',⟨n,hn⟩,qP⟩:=hr;have fr:=gY d s' qP;refine b1j (d:=d) (s':=s') (E:=W++List.range' s.next (s'.next-s.next)) ⟨n,by simp only [bZ,a2U,hf];exact hn⟩ ?_ fr.1 ?_ (c0c hp (a3b (h d s' qP)))
 ·intro id gX
  rw [List.mem_append,List.mem_range'_1] at gX;by_cases c:id<s.next
  ·exact (fr.2 id c fun h=>gX (.inl h)).symm
  ·have c2:¬ id<s'.next:=fun h=>gX (.inr ⟨by omega,by omega⟩)
   rw [k4.get_none _ _ (by omega),k4.get_none _ _ (by omega)]
 ·intro e he qP id gX hm
  obtain ⟨h1,h2⟩:=hT e he qP id gX;rw [List.mem_append,List.mem_range'_1] at hm;rcases hm with hm | hm
  ·exact h2 hm
  ·omega
def LL (R:Hs) (d:D) (ls:List (List Bool)):Prop:=∃ds:List D,Rr R d ds/\ds.length=ls.length/\ds.all V1=true/\∀i (h:i<ds.length) (h':i<ls.length),Rr R ds[i] (U1 ls[i])
def LM (R:Hs) (d:D) (ls:List (List (List Bool))):Prop:=∃ds:List D,Rr R d ds/\ds.length=ls.length/\ds.all V1=true/\∀i (h:i<ds.length) (h':i<ls.length),LL R ds[i] ls[i]
theorem LL.mono {R R':Hs} {d:D} {ls:List (List Bool)} (h:LL R d ls) (hr:∀e∈R,e∈R'):LL R' d ls:=by
 obtain ⟨ds,h1,h2,h3,h4⟩:=h;exact ⟨ds,h1.mono hr,h2,h3,fun i a b=>(h4 i a b).mono hr⟩
theorem LM.mono {R R':Hs} {d:D} {ls:List (List (List Bool))} (h:LM R d ls) (hr:∀e∈R,e∈R'):LM R' d ls:=by
 obtain ⟨ds,h1,h2,h3,h4⟩:=h;exact ⟨ds,h1.mono hr,h2,h3,fun i a b=>(h4 i a b).mono hr⟩
theorem LL.one {R:Hs} {d:D} {ls:List (List Bool)} (h:LL R d ls):V1 d=true:=by obtain ⟨ds,h1,_⟩:=h;exact h1.one
theorem LM.one {R:Hs} {d:D} {ls:List (List (List Bool))} (h:LM R d ls):V1 d=true:=by obtain ⟨ds,h1,_⟩:=h;exact h1.one
theorem LL.len {R:Hs} {d:D} {ls:List (List Bool)} (h:LL R d ls) {s:k4} (hs:Y2 s R):a0C false d=some (.int .i64 (ls.length:Int)):=by
 obtain ⟨ds,h1,h2,_⟩:=h;rw [(h1.rd hs).len,h2]
theorem LL.idx {R:Hs} {d:D} {ls:List (List Bool)} (h:LL R d ls) {s:k4} (hs:Y2 s R) {i:Nat} (hi:i<ls.length) {k:IntKind}:∃p x,W1 1 d (.int k (i:Int))=some p/\bk s.get none p=some x/\Rr R x (U1 ls[i]):=by
 obtain ⟨ds,h1,h2,h3,h4⟩:=h;obtain ⟨p,p1,p2⟩:=(h1.rd hs).idx h3 (i:=i) (by omega) (k:=k) rfl;exact ⟨p,_,p1,p2,h4 i (by omega) hi⟩
theorem LM.idx {R:Hs} {d:D} {ls:List (List (List Bool))} (h:LM R d ls) {s:k4} (hs:Y2 s R) {i:Nat} (hi:i<ls.length) {k:IntKind}:∃p x,W1 1 d (.int k (i:Int))=some p/\bk s.get none p=some x/\LL R x ls[i]:=by
 obtain ⟨ds,h1,h2,h3,h4⟩:=h;obtain ⟨p,p1,p2⟩:=(h1.rd hs).idx h3 (i:=i) (by omega) (k:=k) rfl;exact ⟨p,_,p1,p2,h4 i (by omega) hi⟩
def a0y (ds:List D):List (List D):=ds.map fun x=>[x]
theorem b7u {ds:List D}:∀r∈a0y ds,r.length=1:=by intro r hr;obtain ⟨_,_,rfl⟩:=List.mem_map.1 hr;rfl
theorem c1v (ds:List D):(a0y ds).flatten=ds:=by
 induction ds with
 | nil=>rfl
 | cons a r ih=>simp only [a0y,List.map_cons,List.flatten_cons] at *;rw [ih];rfl
theorem Rp.rr {d:D} {ds:List D} {E R:Hs} (h:Rp d 1 (a0y ds) E) (hr:∀e∈E,e∈R):Rr R d ds:=by
 rcases h with ⟨rfl,h,_⟩ | ⟨id,rfl,rfl,_⟩
 ·exact .inl ⟨rfl,List.map_eq_nil_iff.1 h⟩
 ·refine .inr (.inr ⟨id,0,ds,by simp [a0y],hr _ (by simp [c1v]),by omega,by simp⟩)
structure GL (R:Hs) (ds:List D) (ls:List (List Bool)):Prop where
 n:ds.length=ls.length
 o:ds.all V1=true
 v:∀i (h:i<ds.length) (h':i<ls.length),Rr R ds[i] (U1 ls[i])
structure GM (R:Hs) (ds:List D) (ls:List (List (List Bool))):Prop where
 n:ds.length=ls.length
 o:ds.all V1=true
 v:∀i (h:i<ds.length) (h':i<ls.length),LL R ds[i] ls[i]
theorem GL.mono {R R':Hs} {ds:List D} {ls:List (List Bool)} (h:GL R ds ls) (hr:∀e∈R,e∈R'):GL R' ds ls:=⟨h.n,h.o,fun i a b=>(h.v i a b).mono hr⟩
theorem GM.mono {R R':Hs} {ds:List D} {ls:List (List (List Bool))} (h:GM R ds ls) (hr:∀e∈R,e∈R'):GM R' ds ls:=⟨h.n,h.o,fun i a b=>(h.v i a b).mono hr⟩
theorem GL.snoc {R:Hs} {ds:List D} {ls:List (List Bool)} {x:D} {l:List Bool} (h:GL R ds ls) (hx:Rr R x (U1 l)):GL R (ds++[x]) (ls++[l]):=by
 have hn:=h.n;refine ⟨by simp [hn],by rw [List.all_append,h.o];simp [hx.one],fun i a b=>?_⟩;by_cases c:i<ds.length
 ·rw [List.getElem_append_left c,List.getElem_append_left (by omega)]
  exact h.v i c (by omega)
 ·have e:i=ds.length:=by simp at a;omega
  subst e;rw [List.getElem_append_right (Nat.le_refl _),List.getElem_append_right (by omega)];simpa [hn] using hx
theorem GM.snoc {R:Hs} {ds:List D} {ls:List (List (List Bool))} {x:D} {l:List (List Bool)} (h:GM R ds ls) (hx:LL R x l):GM R (ds++[x]) (ls++[l]):=by
 have hn:=h.n;refine ⟨by simp [hn],by rw [List.all_append,h.o];simp [hx.one],fun i a b=>?_⟩;by_cases c:i<ds.length
 ·rw [List.getElem_append_left c,List.getElem_append_left (by omega)]
  exact h.v i c (by omega)
 ·have e:i=ds.length:=by simp at a;omega
  subst e;rw [List.getElem_append_right (Nat.le_refl _),List.getElem_append_right (by omega)];simpa [hn] using hx
theorem GL.ll {R E:Hs} {d:D} {ds:List D} {ls:List (List Bool)} (h:GL R ds ls) (hd:Rp d 1 (a0y ds) E) (hE:∀e∈E,e∈R):LL R d ls:=⟨ds,hd.rr hE,h.n,h.o,h.v⟩
theorem GM.lm {R E:Hs} {d:D} {ds:List D} {ls:List (List (List Bool))} (h:GM R ds ls) (hd:Rp d 1 (a0y ds) E) (hE:∀e∈E,e∈R):LM R d ls:=⟨ds,hd.rr hE,h.n,h.o,h.v⟩
def Mo.bP (mo:Mo) (st:V0) (i:Nat):List Bool:=bL (bq st.aI i:Int) (Z1 ((U4 mo.procs i).ah:Int))
def Mo.bQ (mo:Mo) (st:V0) (i:Nat):List Bool:=bL (Y8 st.vars i) (cd mo.vars i).width.toNat
def Mo.bY (st:V0) (i:Nat):List Bool:=bL ((V8 st.af i).length:Int) 2
def Mo.bU (mo:Mo) (st:V0) (i j:Nat):List Bool:=bL (Y8 (V8 st.af i) j) (U7 mo.af i).width.toNat
def Mo.cR (mo:Mo) (st:V0) (i:Nat):List (List Bool):=(List.range (U7 mo.af i).room.toNat).map (mo.bU st i)
theorem b2f {α β:Type} {e:α->β->List Bool}:∀ {a:List α} {b:List β} {i:Nat} (h:i<a.length) (h':i<b.length),a0L e (a.drop i) (b.drop i)=e a[i] b[i]++a0L e (a.drop (i+1)) (b.drop (i+1)):=by
 intro a b i h h';rw [List.drop_eq_getElem_cons h,List.drop_eq_getElem_cons h'];rfl
theorem b4F {α β:Type} {e:α->β->List Bool} {a:List α} {b:List β}:a0L e (a.drop a.length) b=[]:=by
 rw [List.drop_length];cases b<;>rfl
theorem b7Q (w:Nat) (l:List Int):∀k,a1V w l k=(List.range k).flatMap fun j=>bL (Y8 l j) w
 | 0=>rfl
 | k+1=>by rw [a1V,b7Q w l k,List.range_succ,List.flatMap_append];simp
structure Vw (R:Hs) (v g:Nat) (m:X6) (mo:Mo) (st:V0):Prop where
 w:∃dA dV dS dM dH,(v,[.ptr g 0,m.dt,.int .i64 m.g,m.dc,m.dv,m.dp,m.ds,.bool m.b,dA,dV,dS,dM,dH])∈R/\LL R dA ((List.range mo.procs.length).map (mo.bP st))/\LL R dV ((List.range mo.vars.length).map (mo.bQ st))/\LL R dS ((List.range mo.af.length).map (Mo.bY st))/\LM R dM ((List.range mo.af.length).map (mo.cR st))/\Rr R dH (U1 (bL (st.hold+1) 3))
theorem a7V (a b:List Bool):U1 (a++b)=U1 a++U1 b:=by simp [U1]
theorem c2o {a b:List Bool} {w:Nat} (h:a.length=w):(U1 (a++b)).take w=U1 a:=by
 rw [a7V,<- h,<- a4I a,List.take_left]
theorem c2u {a b:List Bool} {w:Nat} (h:a.length=w):(U1 (a++b)).drop w=U1 b:=by
 rw [a7V,<- h,<- a4I a,List.drop_left]
theorem b5O {mo:Mo} {st:V0} {i:Nat} (h:i<mo.procs.length) (h':i<st.aI.length):a38 mo.procs[i] st.aI[i]=mo.bP st i:=by
 unfold a38 Mo.bP;rw [a4U h',a16 h]
theorem b6w {mo:Mo} {st:V0} {i:Nat} (h:i<mo.vars.length) (h':i<st.vars.length):a4b mo.vars[i] st.vars[i]=mo.bQ st i:=by
 unfold a4b Mo.bQ;rw [a3D h',a3q h]
theorem b9t (ds:List D) (r:D):a0y (ds++[r])=a0y ds++[[r]]:=by simp [a0y]
@[simp] theorem a9U (ds:List D):(a0y ds).length=ds.length:=by simp [a0y]
structure SP (s s':k4) (kH:List D) (g:Nat) (dA dV dS dM:D) (E R:Hs) (l:List Bool):Prop where
 fr:Fr [] s s'
 hp:∃d,Hp s' ((s.next+1,[d])::(s.next+2,.ptr g 0::(kH++[dA,dV,dS,dM,.ag]))::E) R/\Rr R d (U1 l)
 mb:(s.next,kH)∈R
 ge:∀e∈E,s.next<=e.1
 ln:l.length<=100000
variable {s s' s'':k4} {kH:List D} {g:Nat} {dA dV dS dM:D} {E R:Hs} {l:List Bool}
theorem SP.du {F:Hs} (h:SP s s' kH g dA dV dS dM (E++F) R l):SP s s' kH g dA dV dS dM E (F++R) l:=by
 obtain ⟨d,hp,hd⟩:=h.hp;exact ⟨h.fr,⟨d,hp.freeze (by simp),hd.mono fun e he=>by simp [he]⟩,by simp [h.mb],fun e he=>h.ge e (by simp [he]),h.ln⟩
theorem SP.garb (h:SP s s' kH g dA dV dS dM E R l) (f:Fr [] s' s''):SP s s'' kH g dA dV dS dM E R l:=by
 obtain ⟨d,hp,hd⟩:=h.hp;exact ⟨h.fr.trans f (by simp),⟨d,hp.fr f,hd⟩,h.mb,h.ge,h.ln⟩
theorem SP.view (h:SP s s' kH g dA dV dS dM E R l):s'.get (s.next+2)=some (.cells (.ptr g 0::(kH++[dA,dV,dS,dM,.ag]))):=by
 obtain ⟨d,hp,_⟩:=h.hp;exact hp.w (s.next+2,.ptr g 0::(kH++[dA,dV,dS,dM,.ag])) (by simp)
theorem SP.mbg (h:SP s s' kH g dA dV dS dM E R l):s'.get s.next=some (.cells kH):=by
 obtain ⟨d,hp,_⟩:=h.hp;exact hp.r _ h.mb
theorem SP.set (h:SP s s' kH g dA dV dS dM E R l) (a b c d:D):SP s (s'.set (s.next+2) (some (.cells (.ptr g 0::(kH++[a,b,c,d,.ag]))))) kH g a b c d E R l:=by
 obtain ⟨x,hp,hd⟩:=h.hp;exact ⟨h.fr.st (by omega) _,⟨x,Hp.set (A:=[(s.next+1,[x])]) hp _,hd⟩,h.mb,h.ge,h.ln⟩
theorem a9P {fs:FuncId->Option U3} {t rest env K A B F} {dX r:D} {ds:List D} (sp:SP s s' kH g dA dV dS dM (A++F++B) R l) (hd:Rp dX 1 (a0y ds) F) (hl:ds.length<=1000)
 (k:∀id s6,Rp (.arr id 0 (ds.length+1) 1) 1 (a0y (ds++[r])) [(id,(a0y (ds++[r])).flatten)]->SP s s6 kH g dA dV dS dM (A++[(id,(a0y (ds++[r])).flatten)]++B) R l->XQ fs [] rest ((t,.arr id 0 (ds.length+1) 1)::env) s6 K):BM (Z6 1 24 dX (.arr s'.next 0 1 1) (s'.push (.cells [r]))) fs t rest env K:=by
 obtain ⟨x,hp,hx⟩:=sp.hp;have n1:=sp.fr.1;refine b69 (A:=(s.next+1,[x])::(s.next+2,.ptr g 0::(kH++[dA,dV,dS,dM,.ag]))::A) (E:=F) (B:=B) hd (by simpa using hp) rfl b7u (by decide) (by simp;omega) fun id s6 h1 h2 h3 h4=>?_
 rw [<- b9t] at h1 h2;rw [a9U] at h1 ⊢;refine k id s6 h1 ⟨sp.fr.trans h4 ?_,⟨x,by simpa using h2,hx⟩,sp.mb,?_,sp.ln⟩
 ·intro i hi
  right;obtain ⟨e,he,rfl⟩:=List.mem_map.1 hi;exact sp.ge e (by simp [he])
 ·intro e he
  simp only [List.mem_append,List.mem_singleton] at he;rcases he with (he | rfl) | he
  ·exact sp.ge e (by simp [he])
  ·simp only;omega
  ·exact sp.ge e (by simp [he])
theorem hT2 {ae:List (Nat×Nat)} {k a vb n sb:Nat} {ra:Option Nat} (h2:vb<n) (h3:vb≠sb) (h1:(a,k)∉ae:=by decide):∀e∈[(⟨a,ra,[]⟩:bN),⟨4,some vb,[]⟩],(e.i,k)∈ae->∀id,e.rd=some id->id<n/\id∉[sb]:=by
 intro e he hp id gX;simp only [List.mem_cons,List.not_mem_nil,or_false] at he;rcases he with rfl | rfl
 ·exact (h1 hp).elim
 ·simp only [Option.some.injEq] at gX
  subst gX;exact ⟨h2,by simpa using h3⟩
theorem hT1 {ae:List (Nat×Nat)} {k vb n sb:Nat} (h2:vb<n) (h3:vb≠sb):∀e∈[(⟨4,some vb,[]⟩:bN)],(e.i,k)∈ae->∀id,e.rd=some id->id<n/\id∉[sb]:=by
 intro e he hp id gX;simp only [List.mem_singleton] at he;subst he;simp only [Option.some.injEq] at gX;subst gX;exact ⟨h2,by simpa using h3⟩
theorem SP.box (h:SP s s' kH g dA dV dS dM E R l) (z:Y1) (cs:List D):SP s ((s'.push z).set s'.next (some (.cells cs))) kH g dA dV dS dM E ((s'.next,cs)::R) l:=by
 obtain ⟨d,hp,hd⟩:=h.hp;exact ⟨h.fr.trans a1x (by simp),⟨d,hp.newR z cs,hd.mono fun e he=>by simp [he]⟩,by simp [h.mb],h.ge,h.ln⟩
theorem SP.rd (h:SP s s' kH g dA dV dS dM E R l):Y2 s' R:=by
 obtain ⟨d,hp,_⟩:=h.hp;exact hp.r
def Mo.msR (mo:Mo) (st:V0) (i j:Nat):List Bool:=(List.range' j ((U7 mo.af i).room.toNat-j)).flatMap (mo.bU st i)
theorem c4L {mo:Mo} {st:V0} {i:Nat}:mo.msR st i (U7 mo.af i).room.toNat=[]:=by simp [Mo.msR]
theorem c0k {mo:Mo} {st:V0} {i j:Nat} (h:j<(U7 mo.af i).room.toNat):mo.msR st i j=mo.bU st i j++mo.msR st i (j+1):=by
 unfold Mo.msR;have e:(U7 mo.af i).room.toNat-j=((U7 mo.af i).room.toNat-(j+1))+1:=by omega
 rw [e,List.range'_succ,List.flatMap_cons]
theorem b8P {mo:Mo} {st:V0} {i:Nat} (h:i<mo.af.length) (h':i<st.af.length):a3r mo.af[i] st.af[i]=Mo.bY st i++mo.msR st i 0:=by
 unfold a3r Mo.bY Mo.msR Mo.bU;rw [b7Q,a3K h',a2q h,Nat.sub_zero,List.range_eq_range']
end
end Go.V
namespace Go.Proofs.YtigbmclkjknnjaaGreat
open Go.V
section
variable {s:k4} {g:Nat} {W R:Hs}
theorem take_c {sb w:Nat} {d:D} {l:List D} (hp:Hp s ((sb,[d])::W) R) (hd:Rr R d l) (hw:w<=l.length) (hl:l.length<=100000):X9 U8 75 [.int .i64 (w:Int),.ptr sb 0] s fun r s'=>∃d' E,Hp s' ((sb,[d'])::W) (E++R)/\Rr (E++R) r (l.take w)/\Rr R d' (l.drop w)/\Fr [sb] s s':=by
 have gb:=hp.hd;have lb:=u7 gb;have od:=hd.one;obtain ⟨d1,h1,r1⟩:=hd.take hw (k:=.i64);obtain ⟨d2,h2,r2⟩:=hd.drop hw (k:=.i64);have o2:=r2.one;obtain ⟨r,s1,E,ha,hr,f1,hE⟩:=c0X (r1.rd hp.r) (by simp;omega);have o1:=hr.one;have jk:=f1.kp gb;have nQ:=u7 jk;simp (disch:=(first|exact Rf.mk rfl|with_reducible assumption|omega|((repeat (first|rw [nP]|rw [nS]|rw [Z2]))<;>omega)|decide)) only [go_sem,↓reduceIte] at h1;simp (disch:=(first|exact Rf.mk rfl|with_reducible assumption|omega|((repeat (first|rw [nP]|rw [nS]|rw [Z2]))<;>omega)|decide)) only [go_sem,↓reduceIte] at h2;refine X4 (vf:=vf75) rfl ?_;unfold vf75;refine zF ?_;refine zY (U5 gb od h1 ha jk h2 o1 o2) ?_;have fs:Fr [sb] s (s1.set sb (some (.cells [d2]))):=(f1.up (ids:=[sb])).aD _ (.inl (by simp));refine ⟨d2,E,hp.call fs (a0d nQ) fun e he=>?_,hr.mono fun e he=>by simp [he],r2,fs⟩;obtain ⟨h3,h4⟩:=hE e he;exact ⟨h3,by rw [Z7 (by omega)];exact h4⟩
theorem take_v {sb w:Nat} {d:D} {a b:List Bool} (hp:Hp s ((sb,[d])::W) R) (hd:Rr R d (U1 (a++b))) (hw:a.length=w) (hl:(a++b).length<=100000):X9 U8 75 [.int .i64 (w:Int),.ptr sb 0] s fun r s'=>∃d' E,Hp s' ((sb,[d'])::W) (E++R)/\Rr (E++R) r (U1 a)/\Rr R d' (U1 b)/\Fr [sb] s s':=by
 have h:=take_c hp hd (w:=w) (by simp;omega) (by simpa using hl);rwa [c2o hw,c2u hw] at h
theorem a8u {kH:List D} {s1:k4} {dA dV dS dM:D} {E:Hs} {a b:List Bool} {w:Nat} (sp:SP s s1 kH g dA dV dS dM E R (a++b)) (hw:a.length=w):X9 U8 75 [.int .i64 (w:Int),.ptr (s.next+1) 0] s1 fun r s2=>∃E0,SP s s2 kH g dA dV dS dM E (E0++R) b/\Rr (E0++R) r (U1 a)/\Fr [s.next+1] s1 s2:=by
 obtain ⟨d,hp,hd⟩:=sp.hp;refine (take_v hp hd hw sp.ln).mono ?_;rintro r s2 ⟨d2,E0,h1,h2,h3,h4⟩;have iI:=sp.ln;rw [List.length_append] at iI;exact ⟨E0,⟨sp.fr.trans h4 (by simp),⟨d2,h1,h3.mono fun e he=>by simp [he]⟩,by simp [sp.mb],sp.ge,by omega⟩,h2,h4⟩
variable {m:X6} {mo:Mo} {ps:List (Pr×X0)} {st:V0}
theorem c4U (hW:∀n:Int,ca U8 32 [.int .i64 n] (.int .i64 (Z1 n:Int))) (hm:Z0 m mo ps) (ho:Z8 mo) (hf:a0J mo) (gT:Fit mo st) (lN:(mo.pack st).length<=100000) {d:D} (hR:Y2 s R) (hd:Rr R d (U1 (mo.pack st))):X9 U8 41 [.ptr g 0,.agg [m.dt,.int .i64 m.g,m.dc,m.dv,m.dp,m.ds,.bool m.b],d] s fun r s'=>∃v R',r=.ptr v 0/\Y2 s' R'/\Vw R' v g m mo st/\Fr [] s s':=by
 have od:=hd.one;have om:=hm.az;have hf1:=gT.aI;have hf2:=gT.vars;have hf3:=gT.af;have mj:=ho.np;have lH:=ho.nv;have qe:=ho.nc;have qO:=hm.p;have jX:=hm.v;have nU:=hm.c;refine X4 (vf:=vf41) rfl ?_;unfold vf41;refine zF ?_;refine zY (aN od om) ?_;have sp:SP s (((s.push (.cells [m.dt,.int .i64 m.g,m.dc,m.dv,m.dp,m.ds,.bool m.b])).push (.cells [d])).push (.cells [.ptr g 0,m.dt,.int .i64 m.g,m.dc,m.dv,m.dp,m.ds,.bool m.b,.ag,.ag,.ag,.ag,.ag])) [m.dt,.int .i64 m.g,m.dc,m.dv,m.dp,m.ds,.bool m.b] g .ag .ag .ag .ag [] ((s.next,[m.dt,.int .i64 m.g,m.dc,m.dv,m.dp,m.ds,.bool m.b])::R) (mo.pack st):=by
  have a:Hp s [] R:=⟨by simp,by simp,by simp [Y2],hR⟩
  have b:=((a.pushR [m.dt,.int .i64 m.g,m.dc,m.dv,m.dp,m.ds,.bool m.b]).eU [d]).eU [.ptr g 0,m.dt,.int .i64 m.g,m.dc,m.dv,m.dp,m.ds,.bool m.b,.ag,.ag,.ag,.ag,.ag];simp only [k4.ai] at b;exact ⟨((Fr.push _).aj _).aj _,⟨d,b.perm (List.Perm.swap _ _ _),hd.mono fun e he=>by simp [he]⟩,by simp,by simp,lN⟩
 generalize ((s.push (.cells [m.dt,.int .i64 m.g,m.dc,m.dv,m.dp,m.ds,.bool m.b])).push (.cells [d])).push (.cells [.ptr g 0,m.dt,.int .i64 m.g,m.dc,m.dv,m.dp,m.ds,.bool m.b,.ag,.ag,.ag,.ag,.ag])=s3 at *;have e:mo.pack st=a0L a38 (mo.procs.drop 0) (st.aI.drop 0)++(a0L a4b (mo.vars.drop 0) (st.vars.drop 0)++(a0L a3r (mo.af.drop 0) (st.af.drop 0)++bL (st.hold+1) 3)):=by simp [Mo.pack]
 rw [e] at sp;generalize hCs:a0L a3r (mo.af.drop 0) (st.af.drop 0)++bL (st.hold+1) 3=Cs at *;generalize hVs:a0L a4b (mo.vars.drop 0) (st.vars.drop 0)++Cs=Vs at *;refine X5 [0,1,2,4,5,6,7,8,12,14,15,22,23,44,45,46,47,65,66,67,68,83,84,85] 0 mo.procs.length (fun i f s'=>f 24=.int .i64 (i:Int)/\∃dA ds E R',SP s s' [m.dt,.int .i64 m.g,m.dc,m.dv,m.dp,m.ds,.bool m.b] g dA .ag .ag .ag E R' (a0L a38 (mo.procs.drop i) (st.aI.drop i)++Vs)/\Rp dA 1 (a0y ds) E/\GL R' ds ((List.range i).map (mo.bP st))) (.mk rfl) (by omega) ⟨rfl,.ag,[],[],_,sp,.inl ⟨rfl,rfl,rfl⟩,⟨rfl,rfl,by simp⟩⟩ ?_;clear sp;rintro i f s4 hi ⟨h,dA,ds,E,R4,sp,cS,mK⟩;have qo:=mK.n;simp only [List.length_map,List.length_range] at qo;by_cases ci:i<mo.procs.length
 ·have sS:i<st.aI.length:=by omega
  rw [b2f ci sS,List.append_assoc,b5O ci sS] at sp;generalize jY:a0L a38 (mo.procs.drop (i+1)) (st.aI.drop (i+1))++Vs=rest at *;have hw:=hW ((U4 mo.procs i).ah:Int);have gv:=sp.view;have lv:=u7 gv;have oA:=cS.one;refine zY (Y6 h ci qO gv hw oA) ?_;refine b3u (W:=[s.next+1]) rfl (a8u (sp.garb a1x) (w:=Z1 ((U4 mo.procs i).ah:Int)) (by simp [Mo.bP])) rfl (fun d s' h=>by obtain ⟨_,_,_,h⟩:=h;exact h) (hT2 (by simp;omega) (by omega)) (by decide) ?_;rintro r s5 ⟨E5,sp,mC,f5⟩;have o5:=mC.one;refine zY o5 ?_;refine a9P (A:=[]) (F:=E) (B:=[]) (by simpa using sp) cS (by omega) ?_;intro id s6 cS sp;have gv:=sp.view;have lv:=u7 gv;refine zY gv ?_;refine ⟨ci,_,ds++[r],_,E5++R4,by rw [jY];exact sp.set _ _ _ _,cS,?_⟩;rw [List.map_append];exact (mK.mono fun e he=>by simp [he]).snoc mC
 obtain rfl:i=mo.procs.length:=by omega
 rw [b4F,List.nil_append] at sp;have hA:=(mK.mono (R':=E++R4) fun e he=>by simp [he]).ll cS fun e he=>by simp [he]
 have sp:=SP.du (E:=[]) (F:=E) (by simpa using sp);have gm:=sp.mbg;have lm:=u7 gm;refine zY (W6 h ci gm om jX) ?_;clear cS mK h ci hi gm lm qo;generalize E++R4=R5 at *;subst hVs;refine X5 [0,1,2,4,5,6,7,8,10,14,15,22,23,24,25,44,45,65,66,67,68,83,84,85] 0 mo.vars.length (fun i f s'=>f 46=.int .i64 (i:Int)/\∃dV ds E R',SP s s' [m.dt,.int .i64 m.g,m.dc,m.dv,m.dp,m.ds,.bool m.b] g dA dV .ag .ag E R' (a0L a4b (mo.vars.drop i) (st.vars.drop i)++Cs)/\LL R' dA ((List.range mo.procs.length).map (mo.bP st))/\Rp dV 1 (a0y ds) E/\GL R' ds ((List.range i).map (mo.bQ st))) (.mk rfl) (by omega) ⟨rfl,.ag,[],[],_,sp,hA,.inl ⟨rfl,rfl,rfl⟩,⟨rfl,rfl,by simp⟩⟩ ?_;clear sp hA;rintro i f s4 hi ⟨h,dV,ds,E,R4,sp,hA,vg,mK⟩;have qo:=mK.n;simp only [List.length_map,List.length_range] at qo;by_cases ci:i<mo.vars.length
 ·have sS:i<st.vars.length:=by omega
  rw [b2f ci sS,List.append_assoc,b6w ci sS] at sp;generalize jY:a0L a4b (mo.vars.drop (i+1)) (st.vars.drop (i+1))++Cs=rest at *;have hwv:=hf.vr _ (a5V ci);have gv:=sp.view;have lv:=u7 gv;have oA:=hA.one;have oV:=vg.one;refine zY (Y6 h ci jX gv oA oV) ?_;have ht:=a8u (sp.garb (a1x (z:=.cells [.str (bs []),.int .i64 0,.int .i64 0]) (o:=.cells (cd mo.vars i).row))) (w:=(cd mo.vars i).width.toNat) (by simp [Mo.bQ]);rw [Int.toNat_of_nonneg (by omega)] at ht;refine b3u (W:=[s.next+1]) rfl ht rfl (fun d s' h=>by obtain ⟨_,_,_,h⟩:=h;exact h) (hT2 (by simp [Vr.row];omega) (by omega)) (by decide) ?_;rintro r s5 ⟨E5,sp,mC,f5⟩;have o5:=mC.one;refine zY o5 ?_;refine a9P (A:=[]) (F:=E) (B:=[]) (by simpa using sp) vg (by omega) ?_;intro id s6 vg sp;have gv:=sp.view;have lv:=u7 gv;refine zY gv ?_;refine ⟨ci,_,ds++[r],_,E5++R4,by rw [jY];exact sp.set _ _ _ _,hA.mono fun e he=>by simp [he],vg,?_⟩;rw [List.map_append];exact (mK.mono fun e he=>by simp [he]).snoc mC
 obtain rfl:i=mo.vars.length:=by omega
 rw [b4F,List.nil_append] at sp;have hV:=(mK.mono (R':=E++R4) fun e he=>by simp [he]).ll vg fun e he=>by simp [he]
 have hA:=hA.mono (R':=E++R4) fun e he=>by simp [he]
 have sp:=SP.du (E:=[]) (F:=E) (by simpa using sp);have gm:=sp.mbg;have lm:=u7 gm;refine zY (W6 h ci gm om nU) ?_;clear vg mK h ci hi gm lm qo;generalize E++R4=R5 at *;subst hCs;refine X5 [0,1,2,4,5,6,7,8,10,12,22,23,24,25,44,45,46,47,65,66] 0 mo.af.length (fun i f s'=>f 67=.int .i64 (i:Int)/\∃dS dsS ES dM uA EM R',SP s s' [m.dt,.int .i64 m.g,m.dc,m.dv,m.dp,m.ds,.bool m.b] g dA dV dS dM (ES++EM) R' (a0L a3r (mo.af.drop i) (st.af.drop i)++bL (st.hold+1) 3)/\LL R' dA ((List.range mo.procs.length).map (mo.bP st))/\LL R' dV ((List.range mo.vars.length).map (mo.bQ st))/\Rp dS 1 (a0y dsS) ES/\GL R' dsS ((List.range i).map (Mo.bY st))/\Rp dM 1 (a0y uA) EM/\GM R' uA ((List.range i).map (mo.cR st))) (.mk rfl) (by omega) ⟨rfl,.ag,[],[],.ag,[],[],_,sp,hA,hV,.inl ⟨rfl,rfl,rfl⟩,⟨rfl,rfl,by simp⟩,.inl ⟨rfl,rfl,rfl⟩,⟨rfl,rfl,by simp⟩⟩ ?_;clear sp hA hV;rintro i f s4 hi ⟨h,dS,dsS,ES,dM,uA,EM,R4,sp,hA,hV,uL,hdsS,wX,hdsM⟩;have qo:=hdsS.n;have rT:=hdsM.n;simp only [List.length_map,List.length_range] at qo rT;have oA:=hA.one;have oV:=hV.one;have oS:=uL.one;have oM:=wX.one;by_cases ci:i<mo.af.length
 ·have sS:i<st.af.length:=by omega
  have hwc:=hf.ch _ (a41 ci);rw [b2f ci sS,b8P ci sS,List.append_assoc,List.append_assoc] at sp;generalize jY:a0L a3r (mo.af.drop (i+1)) (st.af.drop (i+1))++bL (st.hold+1) 3=rest at *;have gv:=sp.view;have lv:=u7 gv;have mE:=sp.box (.cells [.str (bs []),.int .i64 0,.int .i64 0,.bool false,.bool false]) (U7 mo.af i).row;refine zY (U5 h ci nU gv oA oV oS oM) ?_;refine b3u (W:=[s.next+1]) rfl (a8u mE (w:=2) rfl) rfl (fun d s' h=>by obtain ⟨_,_,_,h⟩:=h;exact h) (hT1 (by simp [Ch.row];omega) (by omega)) (by decide) ?_;have iw:s4.next≠s.next+1+1:=by omega
  clear mE sp gv lv;rintro r s5 ⟨E5,sp,mC,f5⟩;have o5:=mC.one;generalize tf:s4.next=cb at *;refine zY o5 ?_;refine a9P (A:=[]) (F:=ES) (B:=EM) (by simpa using sp) uL (by omega) ?_;clear sp;intro id s6 uL sp;have gv:=sp.view;have lv:=u7 gv;have gc:s6.get cb=some (.cells [.str (U7 mo.af i).name,.int .i64 (U7 mo.af i).room,.int .i64 (U7 mo.af i).width,.bool (U7 mo.af i).bm,.bool (U7 mo.af i).aT]):=sp.rd (cb,(U7 mo.af i).row) (by simp);have lc:=u7 gc;refine zY (V5 gv gc iw) ?_;replace sp:=sp.set dA dV (.arr id 0 (dsS.length+1) 1) dM
  have nF:∀e∈R4,e∈E5++(cb,(U7 mo.af i).row)::R4:=fun e he=>by simp [he]
  have hcR:(cb,(U7 mo.af i).row)∈E5++(cb,(U7 mo.af i).row)::R4:=by simp
  generalize E5++(cb,(U7 mo.af i).row)::R4=R5 at *;replace hdsS:=(hdsS.mono nF).snoc mC
  replace hdsM:=hdsM.mono nF
  replace hA:=hA.mono nF
  replace hV:=hV.mono nF
  clear nF mC o5 f5 gv lv gc lc;generalize hES:[(id,(a0y (dsS++[r])).flatten)]=xU at *;generalize hdS2:D.arr id 0 (dsS.length+1) 1=zy at *;simp only [List.nil_append] at sp;have er:∀j:Nat,((j:Int)<(U7 mo.af i).room)=(j<(U7 mo.af i).room.toNat):=fun j=>by apply propext;omega
  refine X5 [0,1,2,4,5,6,7,8,10,12,14,22,23,24,25,44,45,46,47,65,66,67,68,83] 0 (U7 mo.af i).room.toNat (fun j f s'=>f 84=.int .i64 (j:Int)/\∃dl dsl EL R',f 15=dl/\SP s s' [m.dt,.int .i64 m.g,m.dc,m.dv,m.dp,m.ds,.bool m.b] g dA dV zy dM (xU++EM++EL) R' (mo.msR st i j++rest)/\Rp dl 1 (a0y dsl) EL/\GL R' dsl ((List.range j).map (mo.bU st i))/\∀e∈R5,e∈R') (.mk rfl) (by omega) ⟨rfl,.ag,[],[],_,rfl,by rw [List.append_nil];exact sp,.inl ⟨rfl,rfl,rfl⟩,⟨rfl,rfl,by simp⟩,fun _ h=>h⟩ ?_;clear sp;rintro j f s8 hj ⟨Bp,dl,dsl,EL,R8,AZ,sp,kD,hdsl,zH⟩;have hdn2:=hdsl.n;simp only [List.length_map,List.length_range] at hdn2;have ol:=kD.one;by_cases cj:j<(U7 mo.af i).room.toNat
  ·have gc:s8.get cb=some (.cells [.str (U7 mo.af i).name,.int .i64 (U7 mo.af i).room,.int .i64 (U7 mo.af i).width,.bool (U7 mo.af i).bm,.bool (U7 mo.af i).aT]):=sp.rd (cb,(U7 mo.af i).row) (zH _ hcR)
   have lc:=u7 gc;rw [c0k cj,List.append_assoc (mo.bU st i j)] at sp;have ej:=er j;have ht:=a8u sp (w:=(U7 mo.af i).width.toNat) (by simp [Mo.bU]);rw [Int.toNat_of_nonneg (by omega)] at ht;refine zY (W6 Bp AZ ej cj gc) ?_;refine a9Z rfl ht rfl ?_;clear sp ht gc lc;rintro r2 s9 ⟨E9,sp,hr9,f9⟩;have o9:=hr9.one;refine zY o9 ?_;refine a9P (A:=xU++EM) (F:=EL) (B:=[]) (by simpa using sp) kD (by omega) ?_;clear sp;intro lX lG kD sp;refine V6 ?_;refine ⟨cj,_,dsl++[r2],_,E9++R8,rfl,by simpa using sp,kD,?_,fun e he=>by simp [zH e he]⟩;rw [List.map_append];exact (hdsl.mono fun e he=>by simp [he]).snoc hr9
  ·obtain rfl:j=(U7 mo.af i).room.toNat:=by omega
   have ej:=er (U7 mo.af i).room.toNat;rw [c4L,List.nil_append] at sp;have hl:=(hdsl.mono (R':=EL++R8) fun e he=>by simp [he]).ll kD fun e he=>by simp [he]
   replace sp:=SP.du (E:=xU++EM) (F:=EL) sp
   have nF:∀e∈R5,e∈EL++R8:=fun e he=>by simp [zH e he]
   generalize EL++R8=R9 at *;replace hdsS:=hdsS.mono nF
   replace hdsM:=hdsM.mono nF
   replace hA:=hA.mono nF
   replace hV:=hV.mono nF
   have gv:=sp.view;have lv:=u7 gv;have oS2:V1 zy=true:=uL.one;have ol2:=hl.one;refine zY (Y3 Bp AZ ej cj gv oS2 ol2) ?_;refine a9P (A:=xU) (F:=EM) (B:=[]) (by rw [List.append_nil];exact sp) wX (by omega) ?_;clear sp gv lv;intro id3 tp wX sp;have gv:=sp.view;have lv:=u7 gv;refine zY gv ?_;refine ⟨ci,zy,dsS++[r],xU,.arr id3 0 (uA.length+1) 1,uA++[dl],[(id3,(a0y (uA++[dl])).flatten)],R9,?_,hA,hV,uL,?_,wX,?_⟩
   ·rw [jY]
    rw [List.append_nil] at sp;exact sp.set _ _ _ _
   ·rw [List.map_append]
    exact hdsS
   ·rw [List.map_append]
    exact hdsM.snoc hl
 obtain rfl:i=mo.af.length:=by omega
 rw [b4F,List.nil_append] at sp;refine zY (aN h ci) ?_;refine a9Z rfl (a8u (b:=[]) (by rw [List.append_nil];exact sp) (w:=3) rfl) rfl ?_;clear sp;rintro r s5 ⟨E5,sp,mC,f5⟩;have nF:∀e∈R4,e∈E5++R4:=fun e he=>by simp [he]
 replace hdsS:=hdsS.mono nF
 replace hdsM:=hdsM.mono nF
 replace hA:=hA.mono nF
 replace hV:=hV.mono nF
 generalize E5++R4=R5 at *;have gv:=sp.view;have lv:=u7 gv;have o5:=mC.one;refine zY (aN gv o5) ?_;obtain ⟨x,hp,hx⟩:=sp.hp;have h8:=Hp.set (A:=[(s.next+1,[x])]) hp [.ptr g 0,m.dt,.int .i64 m.g,m.dc,m.dv,m.dp,m.ds,.bool m.b,dA,dV,dS,dM,r];have pO:∀e∈R5,e∈(s.next+2,[.ptr g 0,m.dt,.int .i64 m.g,m.dc,m.dv,m.dp,m.ds,.bool m.b,dA,dV,dS,dM,r])::(ES++EM++R5):=fun e he=>by simp [he]
 refine ⟨s.next+2,_,rfl,?_,⟨dA,dV,dS,dM,r,List.mem_cons_self,hA.mono pO,hV.mono pO,(hdsS.mono pO).ll uL fun e he=>by simp [he],(hdsM.mono pO).lm wX fun e he=>by simp [he],mC.mono pO⟩,sp.fr.st (by omega) _⟩;intro e he;rcases List.mem_cons.1 he with rfl | he
 ·exact h8.w _ (by simp)
 ·rcases List.mem_append.1 he with he | he
  ·exact h8.w e (by simp at he ⊢;exact .inr (.inr he))
  ·exact h8.r e he
end
end Go.Proofs.YtigbmclkjknnjaaGreat
namespace Go.V
section
theorem Rr.vb {R:Hs} {d:D} {l:List Bool} (h:Rr R d (U1 l)) {s:k4} (hs:Y2 s R):VB s d l:=h.rd hs
structure fB where
 r:Hs
 a:D
 v:D
 s:D
 m:D
 h:D
structure Vs (s:k4) (v g:Nat) (m:X6) (mo:Mo) (st:V0) (x:fB):Prop where
 hs:Y2 s x.r
 w:(v,[.ptr g 0,m.dt,.int .i64 m.g,m.dc,m.dv,m.dp,m.ds,.bool m.b,x.a,x.v,x.s,x.m,x.h])∈x.r
 la:LL x.r x.a ((List.range mo.procs.length).map (mo.bP st))
 lv:LL x.r x.v ((List.range mo.vars.length).map (mo.bQ st))
 ls:LL x.r x.s ((List.range mo.af.length).map (Mo.bY st))
 lm:LM x.r x.m ((List.range mo.af.length).map (mo.cR st))
 lh:Rr x.r x.h (U1 (bL (st.hold+1) 3))
variable {s s':k4} {v g:Nat} {m:X6} {mo:Mo} {st:V0} {x:fB}
theorem Vs.of {R:Hs} (hs:Y2 s R) (h:Vw R v g m mo st):∃x,Vs s v g m mo st x:=by
 obtain ⟨dA,dV,dS,dM,dH,h1,h2,h3,h4,h5,h6⟩:=h.w;exact ⟨⟨R,dA,dV,dS,dM,dH⟩,hs,h1,h2,h3,h4,h5,h6⟩
theorem Vs.fr (h:Vs s v g m mo st x) (f:Fr [] s s'):Vs s' v g m mo st x:=⟨h.hs.fr f,h.w,h.la,h.lv,h.ls,h.lm,h.lh⟩
theorem Vs.get (h:Vs s v g m mo st x):s.get v=some (.cells [.ptr g 0,m.dt,.int .i64 m.g,m.dc,m.dv,m.dp,m.ds,.bool m.b,x.a,x.v,x.s,x.m,x.h]):=h.hs _ h.w
theorem Vs.az (h:Vs s v g m mo st x):V1 x.a=true/\V1 x.v=true/\V1 x.s=true/\V1 x.m=true/\V1 x.h=true:=⟨h.la.one,h.lv.one,h.ls.one,h.lm.one,h.lh.one⟩
theorem Vs.eJ (h:Vs s v g m mo st x):VB s x.h (bL (st.hold+1) 3):=h.lh.vb h.hs
theorem Vs.aI (h:Vs s v g m mo st x) {i:Nat} (hi:i<mo.procs.length) {k:IntKind}:∃p y,W1 1 x.a (.int k (i:Int))=some p/\bk s.get none p=some y/\V1 y=true/\VB s y (mo.bP st i):=by
 obtain ⟨p,y,h1,h2,h3⟩:=h.la.idx h.hs (i:=i) (by simpa using hi) (k:=k);have e:((List.range mo.procs.length).map (mo.bP st))[i]'(by simpa using hi)=mo.bP st i:=by simp
 rw [e] at h3;exact ⟨p,y,h1,h2,h3.one,h3.vb h.hs⟩
theorem Vs.sz (h:Vs s v g m mo st x) {i:Nat} (hi:i<mo.af.length) {k:IntKind}:∃p y,W1 1 x.s (.int k (i:Int))=some p/\bk s.get none p=some y/\V1 y=true/\VB s y (Mo.bY st i):=by
 obtain ⟨p,y,h1,h2,h3⟩:=h.ls.idx h.hs (i:=i) (by simpa using hi) (k:=k);have e:((List.range mo.af.length).map (Mo.bY st))[i]'(by simpa using hi)=Mo.bY st i:=by simp
 rw [e] at h3;exact ⟨p,y,h1,h2,h3.one,h3.vb h.hs⟩
theorem Vs.ms (h:Vs s v g m mo st x) {i:Nat} (hi:i<mo.af.length) {k:IntKind}:∃p y,W1 1 x.m (.int k (i:Int))=some p/\bk s.get none p=some y/\V1 y=true/\LL x.r y (mo.cR st i):=by
 obtain ⟨p,y,h1,h2,h3⟩:=h.lm.idx h.hs (i:=i) (by simpa using hi) (k:=k);have e:((List.range mo.af.length).map (mo.cR st))[i]'(by simpa using hi)=mo.cR st i:=by simp
 rw [e] at h3;exact ⟨p,y,h1,h2,h3.one,h3⟩
structure Ve (s:k4) (v g:Nat) (m:X6) (mo:Mo) (st:V0) (x:fB):Prop where
 hs:Y2 s x.r
 w:(v,[.ptr g 0,m.dt,.int .i64 m.g,m.dc,m.dv,m.dp,m.ds,.bool m.b,x.a,x.v,x.s,x.m,x.h])∈x.r
 la:LL x.r x.a ((List.range mo.procs.length).map (mo.bP st))
 lv:LL x.r x.v ((List.range mo.vars.length).map (mo.bQ st))
 ls:LL x.r x.s ((List.range mo.af.length).map (Mo.bY st))
 om:V1 x.m=true
 oh:V1 x.h=true
theorem Vs.e (h:Vs s v g m mo st x):Ve s v g m mo st x:=⟨h.hs,h.w,h.la,h.lv,h.ls,h.lm.one,h.lh.one⟩
theorem Ve.fr (h:Ve s v g m mo st x) (f:Fr [] s s'):Ve s' v g m mo st x:=⟨h.hs.fr f,h.w,h.la,h.lv,h.ls,h.om,h.oh⟩
theorem Ve.get (h:Ve s v g m mo st x):s.get v=some (.cells [.ptr g 0,m.dt,.int .i64 m.g,m.dc,m.dv,m.dp,m.ds,.bool m.b,x.a,x.v,x.s,x.m,x.h]):=h.hs _ h.w
theorem Ve.az (h:Ve s v g m mo st x):V1 x.a=true/\V1 x.v=true/\V1 x.s=true/\V1 x.m=true/\V1 x.h=true:=⟨h.la.one,h.lv.one,h.ls.one,h.om,h.oh⟩
theorem Ve.aI (h:Ve s v g m mo st x) {i:Nat} (hi:i<mo.procs.length) {k:IntKind}:∃p y,W1 1 x.a (.int k (i:Int))=some p/\bk s.get none p=some y/\V1 y=true/\VB s y (mo.bP st i):=by
 obtain ⟨p,y,h1,h2,h3⟩:=h.la.idx h.hs (i:=i) (by simpa using hi) (k:=k);have e:((List.range mo.procs.length).map (mo.bP st))[i]'(by simpa using hi)=mo.bP st i:=by simp
 rw [e] at h3;exact ⟨p,y,h1,h2,h3.one,h3.vb h.hs⟩
theorem Ve.vr (h:Ve s v g m mo st x) {i:Nat} (hi:i<mo.vars.length) {k:IntKind}:∃p y,W1 1 x.v (.int k (i:Int))=some p/\bk s.get none p=some y/\V1 y=true/\VB s y (mo.bQ st i):=by
 obtain ⟨p,y,h1,h2,h3⟩:=h.lv.idx h.hs (i:=i) (by simpa using hi) (k:=k);have e:((List.range mo.vars.length).map (mo.bQ st))[i]'(by simpa using hi)=mo.bQ st i:=by simp
 rw [e] at h3;exact ⟨p,y,h1,h2,h3.one,h3.vb h.hs⟩
theorem Ve.sz (h:Ve s v g m mo st x) {i:Nat} (hi:i<mo.af.length) {k:IntKind}:∃p y,W1 1 x.s (.int k (i:Int))=some p/\bk s.get none p=some y/\V1 y=true/\VB s y (Mo.bY st i):=by
 obtain ⟨p,y,h1,h2,h3⟩:=h.ls.idx h.hs (i:=i) (by simpa using hi) (k:=k);have e:((List.range mo.af.length).map (Mo.bY st))[i]'(by simpa using hi)=Mo.bY st i:=by simp
 rw [e] at h3;exact ⟨p,y,h1,h2,h3.one,h3.vb h.hs⟩
structure a5t (mo:Mo) (st:V0):Prop where
 aI:st.aI.length=mo.procs.length
 vars:st.vars.length=mo.vars.length
 af:st.af.length=mo.af.length
 al:∀i,i<mo.procs.length->bq st.aI i<2 ^ Z1 ((U4 mo.procs i).ah:Int)
 vr:∀i (h:i<st.vars.length) (h':i<mo.vars.length),W9 st.vars[i] mo.vars[i].width.toNat=st.vars[i]
 cl:∀i,i<mo.af.length->(V8 st.af i).length<=3
theorem Fit.e (h:Fit mo st) (ho:Z8 mo) (hf:a0J mo):a5t mo st:=by
 refine ⟨h.aI,h.vars,h.af,fun i hi=>?_,h.vr,fun i hi=>?_⟩
 ·have jc:=ho.pr _ (List.getElem_mem hi)
  have jE:bq st.aI i<(U4 mo.procs i).ah:=by
   rw [a4U (by rw [h.aI];exact hi),a16 hi];exact h.pl i _ hi
  have hen:=b3F (n:=((U4 mo.procs i).ah:Int)) (by rw [a16 hi];have:=jc.pl;omega);have e:((2 ^ Z1 ((U4 mo.procs i).ah:Int):Nat):Int)=2 ^ Z1 ((U4 mo.procs i).ah:Int):=by simp
  omega
 ·have hc:i<st.af.length:=by rw [h.af];exact hi
  have h1:=h.cl i hc hi;have h2:=(hf.ch _ (List.getElem_mem hi)).2.1;rw [a3K hc];omega
def a6M (fs:FuncId->Option U3) (s:k4) (fo:D) (look:ByteArray->Option Nat):Prop:=V1 fo=true/\∃f ir,fo=.fn f ir/\∀s',Fr [] s s'->∀w,X9 fs f (.str w::ir) s' fun r s2=>r=.int .i64 (a2K (look w))/\Fr [] s' s2
theorem a6M.fr {fs:FuncId->Option U3} {fo:D} {look:ByteArray->Option Nat} (h:a6M fs s fo look) (f:Fr [] s s'):a6M fs s' fo look:=by
 obtain ⟨o,k,ir,e,h⟩:=h;exact ⟨o,k,ir,e,fun s2 f2=>h s2 (f.trans f2 (by simp))⟩
def VL (s:k4) (r:D) (s':k4) (y:Int×Bool):Prop:=∃d n,r=.aR [d,.int .i64 (V4 y.2)]/\V1 d=true/\I8 n/\VB s' d (bL n 8)/\(y.2=true->n=y.1)/\Fr [] s s'
theorem I8.zero:I8 0:=by unfold I8;decide
theorem I8.one (b:Bool):I8 (V4 b):=by unfold I8;cases b<;>decide
theorem VL.z {d:D} {n:Int} {b:Bool} {y:Int×Bool} (h:VZ d (bL n 8)) (f:Fr [] s s') (e:y.2=b) (hn:I8 n) (hv:b=true->n=y.1):VL s (.aR [d,.int .i64 (V4 b)]) s' y:=by
 subst e;exact ⟨d,n,rfl,(h.vb s).one,hn,h.vb s',hv,f⟩
theorem VL.a {b:Nat} {A:Nat->Bool} {n:Int} {q:Bool} {y:Int×Bool} (h:s'.get b=some (.cells (U1 (U0 A 8)))) (f:Fr [] s s') (e:y.2=q) (hA:U0 A 8=bL n 8) (hn:I8 n) (hv:q=true->n=y.1):VL s (.aR [.arr b 0 8 1,.int .i64 (V4 q)]) s' y:=by
 subst e;exact ⟨_,n,rfl,rfl,hn,(VB.aU h).cY hA,hv,f⟩
theorem xcopy {fs:FuncId->Option U3} {i t a x rest s K} {env:q8} {d:D} {s2:k4} (hr:a6b (env.ev a) (env.ev x) s=some (d,s2)) (h:XQ fs [] rest ((t,d)::env) s2 K):WQ fs [] ((i,⟨some t,.m (.copy a x),none⟩)::rest) env s K:=b0d ⟨0,by simp only [bZ];exact hr⟩ (a3b h)
theorem c26 {b:Nat} {d:D} {n:Nat} (hd:VB s d (bL (n:Int) 2)) (gb:s.get b=some (.cells (U1 (U0 (fun _=>false) 8)))) (hn:n<=3):a6b (.arr b 0 8 1) d s=some (.int .i64 2,s.set b (some (.cells (U1 (U0 (V7 (n:Int)) 8))))):=by
 obtain ⟨h1,h2,h3⟩:=hd.row;unfold a6b;simp only [h1,h2,gb,h3];have e:n=0∨n=1∨n=2∨n=3:=by omega
 rcases e with rfl | rfl | rfl | rfl<;>rfl
end
end Go.V
namespace Go.Proofs.YtigbmclkjknnjaaGreat
open Go.V
section
variable {s:k4} {g:Nat} {R:Hs} {m:X6} {mo:Mo} {ps:List (Pr×X0)} {st:V0}
theorem c3d {P:Pr} {x:X0} {b:Nat} (hx:gJ P x) (hs:P.names.length=P.vars.length) (hl:P.names.length<=100000) (gb:s.get b=some (.cells [.str P.name,.int .i64 (P.copy:Int),x.dl,.int .i64 (P.ah:Int),x.dr,x.de,x.dn,x.dv])) (w:ByteArray):X9 U8 126 [.str w,.ptr b 0] s fun r s'=>r=.int .i64 (a2K (a0Z P w))/\Fr [] s s':=by
 have lb:=u7 gb;have ox:=hx.az;have iI:=hx.lenN;refine X4 (vf:=b3U) rfl ?_;unfold b3U;refine zF ?_;refine zY (V5 gb ox iI) ?_;refine X5 [0,1,7,8] 0 P.names.length (fun i f s'=>f 9=.int .i64 (i:Int)/\s'=s/\∀j (hj:j<P.names.length),j<i->P.names[j]≠w) (.mk rfl) (by omega) ⟨rfl,rfl,fun j _ h=>by omega⟩ ?_;rintro i f s2 hi ⟨h,rfl,gU⟩;by_cases ci:i<P.names.length
 ·have gP:=FLS.idx hx.n ci (k:=.i64)
  by_cases c4:P.names[i]=w
  ·have jf:decide (P.names[i]=w)=true:=by simp [c4]
   have tZ:i<P.vars.length:=by omega
   have ui:=FLN.idx hx.v tZ (k:=.i64);have e:a2K (a0Z P w)=(P.vars[i]:Int):=by
    unfold a0Z;rw [a7Q ci c4 gU,if_pos ci];simp [a2K,List.getD,tZ]
   rw [e];refine zY (Y3 h ci gb ox gP jf ui) ?_;exact ⟨rfl,Fr.refl _ _⟩
  ·have jf:decide (P.names[i]=w)=false:=by simp [c4]
   refine zY (Y6 h ci gb ox gP jf) ?_;intro j hj hji;by_cases ej:j=i
   ·subst ej;exact c4
   ·exact gU j hj (by omega)
 ·have e:a2K (a0Z P w)=-1:=by
   unfold a0Z;rw [if_neg (a7N fun j hj=>gU j hj (by omega))];rfl
  rw [e];refine zY (V5 h ci gb) ?_;exact ⟨rfl,Fr.refl _ _⟩
theorem c43 {b v:Nat} {x:fB} (hm:Z0 m mo ps) (ho:Z8 mo) (hv:Ve s v g m mo st x) (gb:s.get b=some (.cells [.ptr v 0])) (w:ByteArray):X9 U8 127 [.str w,.ptr b 0] s fun r s'=>r=.int .i64 (a2K (a1j mo w))/\Fr [] s s':=by
 have lb:=u7 gb;have gv:=hv.get;have lv:=u7 gv;have oo:=hv.az;have om:=hm.az;have lH:=ho.nv;have lj:=ho.gl;have ve:=hm.g;rw [ve] at gv;have kO:((mo.vars.take mo.globals).map Vr.name).length=mo.globals:=by simp;omega
 refine X4 (vf:=b32) rfl ?_;unfold b32;refine zF ?_;refine zY (V3 gb gv om oo) ?_;refine X5 [0,1,9] 0 mo.globals (fun i f s'=>f 10=.int .i64 (i:Int)/\s'=s/\∀j (hj:j<mo.vars.length),j<i->mo.vars[j].name≠w) (.mk rfl) (by omega) ⟨rfl,rfl,fun j _ h=>by omega⟩ ?_;rintro i f s2 hi ⟨h,rfl,gU⟩;by_cases ci:i<mo.globals
 ·have zj:i<mo.vars.length:=by omega
  have gP:=FLV.idx hm.v zj (k:=.i64);unfold Vr.row at gP;by_cases c4:mo.vars[i].name=w
  ·have jf:decide (mo.vars[i].name=w)=true:=by simp [c4]
   have e:a2K (a1j mo w)=(i:Int):=by
    unfold a1j;have rV:i<((mo.vars.take mo.globals).map Vr.name).length:=by omega
    rw [a7Q rV (by simpa using c4) (fun j hj hji=>by simpa using gU j (by simp at hj;omega) hji),if_pos ci];rfl
   rw [e];refine zY (U5 h ci gb gv om oo gP jf) ?_;exact ⟨rfl,Fr.refl _ _⟩
  ·have jf:decide (mo.vars[i].name=w)=false:=by simp [c4]
   refine zY (U5 h ci gb gv om oo gP jf) ?_;intro j hj hji;by_cases ej:j=i
   ·subst ej;exact c4
   ·exact gU j hj (by omega)
 ·have e:a2K (a1j mo w)=-1:=by
   unfold a1j;have:=a7N (l:=(mo.vars.take mo.globals).map Vr.name) (w:=w) (fun j hj=>by simpa using gU j (by simp at hj;omega) (by simp at hj;omega));rw [kO] at this;rw [if_neg this];rfl
  rw [e];refine zY (aN h ci) ?_;exact ⟨rfl,Fr.refl _ _⟩
theorem a8e {v p:Nat} {x:fB} (hm:Z0 m mo ps) (ho:Z8 mo) (hv:Ve s v g m mo st x) (hp:p<mo.procs.length):X9 U8 84 [.ptr v 0,.int .i64 (p:Int)] s fun r s'=>a6M U8 s' r (a0Z (U4 mo.procs p))/\Fr [] s s':=by
 have gv:=hv.get;have lv:=u7 gv;have oo:=hv.az;have om:=hm.az;have qO:=hm.p;obtain ⟨y,hy,gP⟩:=hm.proc hp;have gP:=gP .i64;rw [a16 hp];have jc:=ho.pr _ (List.getElem_mem hp);have lH:=ho.nv;generalize mo.procs[p]=P at *;unfold U6 at gP;have oy:=hy.az;have iI:=hm.eo;have mj:=ho.np;have c1:(p:Int)<(mo.procs.length:Int):=by omega
 have c0:(0:Int)<=(p:Int):=by omega
 refine X4 (vf:=a9J) rfl ?_;unfold a9J;refine zF ?_;refine zY (U5 gv om oy oo gP iI c0 c1) ?_;have f0:Fr [] s (s.push (.cells [.ptr v 0])):=Fr.push _;refine ⟨⟨rfl,_,_,rfl,fun s' f' w=>?_⟩,?_⟩
 ·exact c3d hy jc.same (by have:=jc.nl;omega) (f'.kp (a0d (by simp))) w
 ·exact f0.trans a1x (by simp)
theorem c3E {v:Nat} {x:fB} (hm:Z0 m mo ps) (ho:Z8 mo) (hv:Ve s v g m mo st x):X9 U8 84 [.ptr v 0,.int .i64 (-1)] s fun r s'=>a6M U8 s' r (a1j mo)/\Fr [] s s':=by
 have gv:=hv.get;have lv:=u7 gv;have oo:=hv.az;have om:=hm.az;have iI:=hm.eo;have mj:=ho.np;refine X4 (vf:=a9J) rfl ?_;unfold a9J;refine zF ?_;refine zY (V3 gv om oo iI) ?_;have f0:Fr [] s (s.push (.cells [.ptr v 0])):=Fr.push _;have gb:(s.push (.cells [.ptr v 0])).get s.next=some (.cells [.ptr v 0]):=W2 rfl;refine ⟨⟨rfl,_,_,rfl,fun s' f' w=>?_⟩,f0⟩;exact c43 hm ho (hv.fr (f0.trans f' (by simp))) (f'.kp gb) w
end
section
variable {s:k4} {g v:Nat} {m:X6} {mo:Mo} {ps:List (Pr×X0)} {st:V0} {x:fB}
theorem a7l (hm:Z0 m mo ps) (ho:Z8 mo) (hg:GB s g) (hv:Ve s v g m mo st x) (hf:a5t mo st) {p k:Nat} (hp:p<mo.procs.length) (hk:k<=100000):CB U8 94 [.ptr v 0,.int .i64 (p:Int),.int .i64 (k:Int)] s (decide (bq st.aI p=k)):=by
 have gv:=hv.get;have lv:=u7 gv;have oo:=hv.az;have om:=hm.az;obtain ⟨q,y,i1,i2,oy,hy⟩:=hv.aI hp (k:=.i64);have nK:=a4R ((U4 mo.procs p).ah:Int);have iC:=hf.al p hp;unfold CB;refine X4 (vf:=vf94) rfl ?_;unfold vf94;refine zF ?_;refine zY (Y6 gv om oo i1 i2 oy) ?_;refine xb (b0V hg hy iC nK.2 hk) fun s1 f1=>?_
 refine V6 ?_;exact ⟨rfl,f1⟩
theorem b62 (hm:Z0 m mo ps) (ho:Z8 mo) (iF:a0J mo) (hg:GB s g) (hv:Ve s v g m mo st x) (hf:a5t mo st) {c:Nat} (hc:c<mo.af.length):CB U8 79 [.ptr v 0,.int .i64 (c:Int)] s (decide (((V8 st.af c).length:Int)<(U7 mo.af c).room)):=by
 have gv:=hv.get;have lv:=u7 gv;have oo:=hv.az;have om:=hm.az;obtain ⟨q,y,i1,i2,oy,hy⟩:=hv.sz hc (k:=.i64);have gP:=FLC.idx hm.c hc (k:=.i64);unfold Ch.row at gP;have yE:=iF.ch _ (List.getElem_mem hc);have iI:=hf.cl c hc;rw [a2q hc];generalize mo.af[c]=C at *;have hr:IntKind.i64.wrap (C.room-1)=C.room-1:=Z5 (by omega) (by omega);have e:decide (((V8 st.af c).length:Int)<C.room)=decide (((V8 st.af c).length:Int)<=C.room-1):=by congr 1;apply propext;omega
 rw [e];unfold CB;refine X4 (vf:=vf79) rfl ?_;unfold vf79;refine zF ?_;refine zY (U5 gv om oo i1 i2 oy gP hr) ?_;refine xb (a80 (k:=C.room-1) hg hy (by omega) (by omega) (by omega)) fun s1 f1=>?_
 refine V6 ?_;exact ⟨rfl,f1⟩
theorem c2N (hm:Z0 m mo ps) (hg:GB s g) (hv:Ve s v g m mo st x) {da db:D} {a b:Int} (ha:VB s da (bL a 8)) (hb:VB s db (bL b 8)) (ia:I8 a) (ib:I8 b) {op:Int} (h0:0<=op) (h8:op<=8):X9 U8 125 [.ptr v 0,.int .i64 op,da,db] s fun r s'=>VL s r s' (a0V op a b):=by
 have gv:=hv.get;have lv:=u7 gv;have oo:=hv.az;have om:=hm.az;have oa:=ha.one;have ob:=hb.one;have sa:∀s',Fr [] s s'->CB U8 93 [.ptr g 0,da] s' (decide (a≠0)):=fun s' f=>by
  have:=a8b (A:=V7 a) (w:=8) (hg.fr f) (ha.fr f) (by omega) (by omega);rwa [a6n ia] at this
 have sb:∀s',Fr [] s s'->CB U8 93 [.ptr g 0,db] s' (decide (b≠0)):=fun s' f=>by
  have:=a8b (A:=V7 b) (w:=8) (hg.fr f) (hb.fr f) (by omega) (by omega);rwa [a6n ib] at this
 have ny:op=0∨op=1∨op=2∨op=3∨op=4∨op=5∨op=6∨op=7∨op=8:=by omega
 clear h0 h8;rcases ny with rfl | rfl | rfl | rfl | rfl | rfl | rfl | rfl | rfl
 ·obtain ⟨d,hd,hz⟩:=a8Q (decide (a≠0)||decide (b≠0))
  have hd:=a0F hd;refine X4 (vf:=a2T) rfl ?_;unfold a2T;refine zF ?_;refine zY (W6 gv om oo oa ob) ?_;refine xb (sa _ (Fr.refl _ _)) fun s1 f1=>?_
  refine V6 ?_;refine xb (sb _ f1) fun s2 f2=>?_
  have f2:=f1.trans f2 (by simp);refine V6 ?_;refine xb (a5D (hg.fr f2) _ _) fun s3 f3=>?_
  have f3:=f2.trans f3 (by simp);refine zY hd ?_;exact VL.z (b:=true) hz f3 (by simp [a0V]) (I8.one _) fun _=>by simp [a0V]
 ·obtain ⟨d,hd,hz⟩:=a8Q (decide (a≠0)&&decide (b≠0))
  have hd:=a0F hd;refine X4 (vf:=a2T) rfl ?_;unfold a2T;refine zF ?_;refine zY (W6 gv om oo oa ob) ?_;refine xb (sa _ (Fr.refl _ _)) fun s1 f1=>?_
  refine V6 ?_;refine xb (sb _ f1) fun s2 f2=>?_
  have f2:=f1.trans f2 (by simp);refine V6 ?_;refine xb (a08 (hg.fr f2) _ _) fun s3 f3=>?_
  have f3:=f2.trans f3 (by simp);refine zY hd ?_;exact VL.z (b:=true) hz f3 (by simp [a0V]) (I8.one _) fun _=>by simp [a0V]
 ·obtain ⟨d,hd,hz⟩:=a8Q (decide (a=b))
  have hd:=a0F hd;have c1:=c2L (A:=V7 a) (B:=V7 b) (w:=8) hg ha hb (by omega) (by omega);rw [same_b ia ib] at c1;refine X4 (vf:=a2T) rfl ?_;unfold a2T;refine zF ?_;refine zY (W6 gv om oo oa ob) ?_;refine xb c1 fun s1 f1=>?_
  refine zY hd ?_;exact VL.z (b:=true) hz f1 (by simp [a0V]) (I8.one _) fun _=>by simp [a0V]
 ·obtain ⟨d,hd,hz⟩:=a8Q (decide (a<b))
  have hd:=a0F hd;have c1:=c1a (A:=V7 a) (B:=V7 b) (w:=8) hg ha hb (by omega) (by omega);rw [show (8:Nat)-1=7 from rfl,less_b ia ib] at c1;refine X4 (vf:=a2T) rfl ?_;unfold a2T;refine zF ?_;refine zY (W6 gv om oo oa ob) ?_;refine xb c1 fun s1 f1=>?_
  refine zY hd ?_;exact VL.z (b:=true) hz f1 (by simp [a0V]) (I8.one _) fun _=>by simp [a0V]
 ·refine X4 (vf:=a2T) rfl ?_
  unfold a2T;refine zF ?_;refine zY (W6 gv om oo oa ob) ?_;refine xv (vadd_c (A:=V7 a) (B:=V7 b) (w:=8) hg ha hb (by omega) (by omega)) fun q s1 hq g1 f1=>?_
  refine V6 ?_;exact VL.a (q:=true) g1 f1 (by simp [a0V]) (add_b ia ib) (a6f _) fun _=>by simp [a0V,eF]
 ·refine X4 (vf:=a2T) rfl ?_
  unfold a2T;refine zF ?_;refine zY (W6 gv om oo oa ob) ?_;refine xv (b6m (A:=V7 a) (B:=V7 b) (w:=8) hg ha hb (by omega) (by omega)) fun q s1 hq g1 f1=>?_
  refine V6 ?_;exact VL.a (q:=true) g1 f1 (by simp [a0V]) (b8w ia ib) (a6f _) fun _=>by simp [a0V,eF]
 ·refine X4 (vf:=a2T) rfl ?_
  unfold a2T;refine zF ?_;refine zY (W6 gv om oo oa ob) ?_;refine xv (vmul_c (A:=V7 a) (B:=V7 b) (w:=8) hg ha hb (by omega) (by omega)) fun q s1 hq g1 f1=>?_
  refine V6 ?_;exact VL.a (q:=true) g1 f1 (by simp [a0V]) (mul_b ia ib) (a6f _) fun _=>by simp [a0V,eF]
 ·have c1:=vdiv_c (A:=V7 a) (B:=V7 b) hg ha hb
  rw [a6n ib] at c1;refine X4 (vf:=a2T) rfl ?_;unfold a2T;refine zF ?_;refine zY (W6 gv om oo oa ob) ?_;refine xv c1 fun q s1 hq g1 f1=>?_
  refine V6 ?_;refine xb (sb _ f1) fun s2 f2=>?_
  have f3:=f1.trans f2 (by simp);refine V6 ?_;refine VL.a (f2.kp g1) f3 ?_ (quo_b ia ib) (doZ8 _ _ _) fun h=>?_
  ·by_cases c:b=0<;>simp [a0V,c]
  ·have:b≠0:=by simpa using h
   simp [a0V,this]
 ·have c1:=vrem_c (A:=V7 a) (B:=V7 b) hg ha hb
  rw [a6n ib] at c1;refine X4 (vf:=a2T) rfl ?_;unfold a2T;refine zF ?_;refine zY (W6 gv om oo oa ob) ?_;refine xv c1 fun q s1 hq g1 f1=>?_
  refine V6 ?_;refine xb (sb _ f1) fun s2 f2=>?_
  have f3:=f1.trans f2 (by simp);refine V6 ?_;refine VL.a (f2.kp g1) f3 ?_ (rem_b ia ib) (doZ8 _ _ _) fun h=>?_
  ·by_cases c:b=0<;>simp [a0V,c]
  ·have:b≠0:=by simpa using h
   simp [a0V,this]
end
end Go.Proofs.YtigbmclkjknnjaaGreat
namespace Go.V
section
theorem a5Y {s s':k4} {n:Option Nat} {p d:D} (h:bk s.get n p=some d) (f:Fr [] s s'):bk s'.get n p=some d:=by
 cases p<;>simp only [bk] at h ⊢<;>try exact h
 rename_i id off;cases hg:s.get id with
 | none=>rw [hg] at h;simp at h
 | some o=>rw [hg] at h;rw [f.kp hg];exact h
variable {fs:FuncId->Option U3}
theorem xxm {ae T i t f args rest s K} {env:q8} {l:List D} {P:D->k4->Prop} (hr:X9 fs f l s P) (gY:∀d s',P d s'->Fr [] s s') (hT:∀e∈T,(e.i,i)∈ae->∀id,e.rd=some id->id<s.next)
 (h:∀d s' E,P d s'->(∀e∈E,s.next<=e)->XX fs ae (⟨i,none,E⟩::T) rest ((t,d)::env) s' K) (ha:env.aP args=l:=by rfl):WX fs ae T ((i,⟨some t,.m (.call .raw (.aG (.fn f [])) args),none⟩)::rest) env s K :=
 xxn hr gY hT (fun d s' E hp he=>a4p (h d s' E hp he)) ha
theorem bd_o {d y:D} {n:Option Nat} {i t:Nat} {ae:bG} {T:List bN} {rest:cM} {env:q8} {s:k4} {K:Kt} (hl:bk s.get n d=some y) (jL:∀id,a18 ae i id T) (k1:XX fs ae T rest ((t,y)::env) s K) (k2:∀id,id<s.next->XX fs ae (⟨i,some id,[]⟩::T) rest ((t,y)::env) s K):BD d n i fs ae T t rest env s K:=by
 cases d<;>simp only [bk] at hl<;>try (cases hl)
 ·rename_i id off
  rw [bd_p];refine ⟨jL _,?_⟩;show BX (bk s.get n (.ptr id off)) fs ae _ t rest env s K
  have e:bk s.get n (.ptr id off)=some y:=hl;rw [e];refine k2 id ?_;cases hg:s.get id with
  | none=>rw [hg] at hl;cases hl
  | some o=>exact u7 hg
 ·rename_i cs off
  rw [bd_f];have e:bk s.get n (.fp cs off)=some y:=hl;rw [e];exact k1
def bD (s0 s:k4) (d:D) (l:List Bool):Prop:=Fr [] s0 s/\((d=.ag/\l=[])∨∃id,d=.arr id 0 l.length 1/\s0.next<=id/\s.get id=some (.cells (U1 l)))
theorem bD.nil {s0 s:k4} (h:Fr [] s0 s):bD s0 s .ag []:=⟨h,.inl ⟨rfl,rfl⟩⟩
theorem bD.fr {s0 s s':k4} {d:D} {l:List Bool} (h:bD s0 s d l) (f:Fr [] s s'):bD s0 s' d l:=by
 obtain ⟨h1,h2⟩:=h;refine ⟨h1.trans f (by simp),?_⟩;rcases h2 with h | ⟨id,a,b,c⟩
 ·exact .inl h
 ·exact .inr ⟨id,a,b,f.kp c⟩
theorem bD.one {s0 s:k4} {d:D} {l:List Bool} (h:bD s0 s d l):V1 d=true:=by
 rcases h.2 with ⟨rfl,_⟩ | ⟨id,rfl,_⟩<;>rfl
theorem bD.vb {s0 s:k4} {d:D} {l:List Bool} (h:bD s0 s d l):VB s d l:=by
 rcases h.2 with ⟨rfl,rfl⟩ | ⟨id,rfl,_,h⟩
 ·exact .inl ⟨rfl,rfl⟩
 ·exact VB.arr h rfl
theorem a54 {t rest env K} {s0 s:k4} {d:D} {l:List Bool} {b:Bool} (h:bD s0 s d l) (hl:l.length<=1000000) (k:∀d' s',bD s0 s' d' (l++[b])->XQ fs [] rest ((t,d')::env) s' K):BM (Z6 1 8 d (.arr s.next 0 1 1) (s.push (.cells [.int .i64 (V4 b)]))) fs t rest env K:=by
 obtain ⟨h1,h2⟩:=h;have g0:(s.push (.cells [.int .i64 (V4 b)])).get s.next=some (.cells [.int .i64 (V4 b)]):=W2 rfl;have hn:(s.push (.cells [.int .i64 (V4 b)])).next=s.next+1:=by simp
 have fr:Fr [] s (s.push (.cells [.int .i64 (V4 b)])):=Fr.push _;have n0:=h1.1;rcases h2 with ⟨rfl,rfl⟩ | ⟨id,rfl,hi,hg⟩
 ·have e:Z6 1 8 .ag (.arr s.next 0 1 1) (s.push (.cells [.int .i64 (V4 b)]))=some (.arr (s.next+1) 0 1 1,(s.push (.cells [.int .i64 (V4 b)])).push (.cells [.int .i64 (V4 b)])):=by
   unfold Z6;simp only [a1h,g0,a3i,a1O,hn];rfl
  rw [e];exact k _ _ ⟨h1.trans (fr.aj _) (by simp),.inr ⟨s.next+1,rfl,by omega,W2 (by simp)⟩⟩
 ·have g1:(s.push (.cells [.int .i64 (V4 b)])).get id=some (.cells (U1 l)):=by rw [a0l (u7 hg)];exact hg
  have e:Z6 1 8 (.arr id 0 l.length 1) (.arr s.next 0 1 1) (s.push (.cells [.int .i64 (V4 b)]))=some (.arr (s.next+1) 0 (l.length+1) 1,((s.push (.cells [.int .i64 (V4 b)])).set id none).push (.cells (U1 (l++[b])))):=by
   unfold Z6;simp only [a1h,g0,g1,a3i,a1O,hn,a4I,Nat.zero_add,Nat.mul_one,List.drop_zero,and_self,if_true];have c:(l.length+1)*8<=2 ^ 45/\l.length+1<=2 ^ 45:=⟨by omega,by omega⟩
   have e1:(if 1<=[D.int .i64 (V4 b)].length then some (List.take 1 [D.int .i64 (V4 b)]) else none)=some [D.int .i64 (V4 b)]:=rfl;rw [e1];have e2:(1==1&&decide (8<=2 ^ 20))=true:=by decide
   simp only [e2,if_true,if_neg (show ¬ (1=0) by decide),if_pos c,a7V];rfl
  rw [e];refine k _ _ ⟨(((h1.trans fr (by simp)).st hi none).aj _),.inr ⟨s.next+1,by simp,by omega,W2 (by simp)⟩⟩
end
end Go.V
