/- Texts one behind the other. -/
import Derived.Test.YtigbmclkjknnjaaGreatZ3
import Derived.Test.YtigbmclkjknnjaaGreatZ1
import Derived.Test.YtigbmclkjknnjaaGreatVt
set_option linter.all false
set_option maxRecDepth 100000
set_option maxHeartbeats 8000000
namespace Go.V
def IL:=@IntKind.wrap_u64
variable{fs:FuncId->Option U4}
def a46(fs:FuncId->Option U4)(f:FuncId)(args:List D)(d:D):Prop:=∃r s1,Ev fs f args k4.empty r s1/\aK s1.get 20 r=some d
theorem a46.det{f:FuncId}{args:List D}{d d':D}(h:a46 fs f args d)(k:a46 fs f args d'):d=d':=by
 obtain⟨r,s1,h1,h2⟩:=h;obtain⟨r',s1',k1,k2⟩:=k;obtain⟨rfl,rfl⟩:=h1.det k1;rw[h2]at k2;exact Option.some.inj k2
def PZ(d:D):Prop:=a1j d=true/\Fz d
variable{k:IntKind}
theorem a76{n:Int}:PZ (.int k n):=⟨rfl,U2⟩
variable{d:D}{rows:List (List D)}
theorem FL.pz{sz:Nat}(h:FL sz d rows):PZ d:=⟨h.pure,h.fz⟩
theorem a7R{l:List D}(h:∀d∈l,a1j d=true/\∀g n,aK g (n+2) d=some d):PZ (.agg l):=⟨by
 show aM l=true
 induction l with
 |nil=>rfl
 |cons a r ih=>simp only[aM,(h a sJ).1,Gd];exact ih λd hd=>h d (by simp[hd]),b8d λd hd=>(h d hd).2⟩
def End(Q:a1G->k6->k4->Prop)(e:a1G)(env:k6)(s:k4):Prop:=Q e env s
def RgK(vars:List Nat)(Q:a1G->k6->k4->Prop)(env:k6)(s:k4):Prop:=End Q .normal (env.aG vars) s
abbrev Kt:=k6->k4->Prop
abbrev dD:=List (Nat×a0f)
abbrev bW:=List (Nat×Nat)
def a9r(af:bW)(ops:dD):Bool:=ops.all λo=>af.all λp=>p.2 != o.1
def XQ(fs:FuncId->Option U4):bW->dD->k6->k4->Kt->Prop
 |_,[],env,s,K=>K env s
 |af,(i,⟨dst,op,g⟩)::rest,env,s,K =>
  let run:Prop:=match dst,op with
   |some t,.p o=>match bY env o with
    |some d=>XQ fs af rest ((t,d)::env) s K
    |none=>False
   |some t,.r o=>match dE env s.get o with
    |some d=>XQ fs af rest ((t,d)::env) s K
    |none=>False
   |some t,.a o=>match af with
    |[]=>match eO env o with
     |some (ob,m)=>XQ fs [] rest ((t,m.at s.next)::env) (s.push ob) K
     |none=>False
    |p::ps=>if a9r (p::ps) ((i,⟨some t,.a o,none⟩)::rest)=true then(match eO env o with
     |some (ob,m)=>XQ fs [] rest ((t,m.at s.next)::env) (s.push ob) K
     |none=>False)else WQ fs (p::ps) ((i,⟨some t,.a o,none⟩)::rest) env s K
   |none,.w n a v=>match af with
    |[]=>match ei env s.get n a v with
     |some (id,ob)=>XQ fs [] rest env (s.set id (some ob)) K
     |none=>False
    |p::ps=>if a9r (p::ps) ((i,⟨none,.w n a v,none⟩)::rest)=true then(match ei env s.get n a v with
     |some (id,ob)=>XQ fs [] rest env (s.set id (some ob)) K
     |none=>False)else WQ fs (p::ps) ((i,⟨none,.w n a v,none⟩)::rest) env s K
   |some t,.m o=>match o,af with
    |.call .gu (.aL (.fn f [])) args,af=>match X8 (aK s.get 20) (env.aR args)with
     |some l=>∃d,a46 fs f l d/\(a2B d||aM (env.aR args))=true/\XQ fs af rest ((t,d)::env) s K
     |none=>False
    |.append sz bytes a x,[]=>match a0e sz bytes (env.ev a) (env.ev x) s with
     |some (d,s')=>XQ fs [] rest ((t,d)::env) s' K
     |none=>False
    |.append sz bytes a x,p::ps=>if a9r (p::ps) ((i,⟨some t,.m (.append sz bytes a x),none⟩)::rest)=true then(match a0e sz bytes (env.ev a) (env.ev x) s with
     |some (d,s')=>XQ fs [] rest ((t,d)::env) s' K
     |none=>False)else WQ fs (p::ps) ((i,⟨some t,.m (.append sz bytes a x),none⟩)::rest) env s K
    |o,af=>WQ fs af ((i,⟨some t,.m o,none⟩)::rest) env s K
   |dst,op=>WQ fs af ((i,⟨dst,op,none⟩)::rest) env s K
  match g with
  |none=>run
  |some (r,b)=>Way (env.get r) b run (XQ fs af rest (env.put dst (.aT [])) s K)
def BP(r:Option D)(fs:FuncId->Option U4)(af:bW)(t:Nat)(rest:dD)(env:k6)(s:k4)(K:Kt):Prop:=match r with
 |some d=>XQ fs af rest ((t,d)::env) s K
 |none=>False
def BA(r:Option (Z7×a0n))(fs:FuncId->Option U4)(t:Nat)(rest:dD)(env:k6)(s:k4)(K:Kt):Prop:=match r with
 |some (ob,m)=>XQ fs [] rest ((t,m.at s.next)::env) (s.push ob) K
 |none=>False
def BW(r:Option (Nat×Z7))(fs:FuncId->Option U4)(rest:dD)(env:k6)(s:k4)(K:Kt):Prop:=match r with
 |some (id,ob)=>XQ fs [] rest env (s.set id (some ob)) K
 |none=>False
def BM(r:Option (D×k4))(fs:FuncId->Option U4)(t:Nat)(rest:dD)(env:k6)(K:Kt):Prop:=match r with
 |some (d,s)=>XQ fs [] rest ((t,d)::env) s K
 |none=>False
def BC(fs:FuncId->Option U4)(f:FuncId)(l:List D)(p:Bool)(af:bW)(t:Nat)(rest:dD)(env:k6)(s:k4)(K:Kt):Prop:=∃d,a46 fs f l d/\(a2B d||p)=true/\XQ fs af rest ((t,d)::env) s K
def BL(r:Option (List D))(p:Bool)(fs:FuncId->Option U4)(f:FuncId)(af:bW)(t:Nat)(rest:dD)(env:k6)(s:k4)(K:Kt):Prop:=match r with
 |some l=>BC fs f l p af t rest env s K
 |none=>False
def BF(b:Bool)(d:D)(fs:FuncId->Option U4)(af:bW)(t:Nat)(rest:dD)(env:k6)(s:k4)(K:Kt):Prop:=match b with
 |true=>XQ fs af rest ((t,d)::env) s K
 |false=>False
def GW(d:D)(b:Bool)(fs:FuncId->Option U4)(af:bW)(x:Nat×a0f)(t:Option Nat)(rest:dD)(env:k6)(s:k4)(K:Kt):Prop:=Way d b (XQ fs af (x::rest) env s K) (XQ fs af rest (env.put t (.aT [])) s K)
def b1g(a b:Nat):Prop:=a≠b
def a1K(id:Nat):List Nat->Prop
 |[]=>True
 |x::r=>b1g id x/\a1K id r
theorem b2K{id:Nat}:∀{l:List Nat},a1K id l->id∉l
 |[],_=>by simp
 |x::r,h=>by
  have:=b2K h.2;have h1:id≠x:=h.1;simp[h1,this]
def a1n:bW->Nat->Nat->Bool
 |[],_,_=>false
 |(a,b)::r,i,j=>match Nat.beq a i with
  |true=>match Nat.beq b j with
   |true=>true
   |false=>a1n r i j
  |false=>a1n r i j
theorem a9T:∀{l:bW}{i j:Nat},(i,j)∈l->a1n l i j=true
 |(a,b)::r,i,j,h=>by
  simp only[a1n];rcases Fi.1 h with h|h
  .cases h
   have e:∀n:Nat,Nat.beq n n=true:=λn=>Nat.beq_refl n
   rw[e,e]
  .have ih:=a9T h
   split
   .split
    .rfl
    .exact ih
   .exact ih
def a2l(af:bW)(i id:Nat):List cu->Prop
 |[]=>True
 |e::T=>(a1n af e.i i=true->a1K id e.eff)/\a2l af i id T
theorem b8F{af:bW}{i id:Nat}:∀{T:List cu},a2l af i id T->∀e∈T,(e.i,i)∈af->id∉e.eff
 |e::T,h,x,hx,hp=>by
  rcases Fi.1 hx with rfl|hx
  .exact b2K (h.1 (a9T hp))
  .exact b8F h.2 x hx hp
def NeO(r:Option Nat)(id:Nat):Prop:=match r with
 |some x=>b1g x id
 |none=>True
def a5J(af:bW)(i id:Nat):List cu->Prop
 |[]=>True
 |e::T=>(a1n af e.i i=true->NeO e.rd id/\a1K id e.eff)/\a5J af i id T
theorem b9U{af:bW}{i id:Nat}:∀{T:List cu},a5J af i id T->∀e∈T,(e.i,i)∈af->e.rd≠some id/\id∉e.eff
 |e::T,h,x,hx,hp=>by
  rcases Fi.1 hx with rfl|hx
  .obtain⟨h1,h2⟩:=h.1 (a9T hp)
   refine⟨λhe=>?_,b2K h2⟩;rw[he]at h1;exact h1 rfl
  .exact b9U h.2 x hx hp
def a2b(af:bW)(i:Nat)(E:List Nat):List cu->Prop
 |[]=>True
 |e::T=>(a1n af e.i i=true->match e.rd with|some x=>a1K x E|none=>True)/\a2b af i E T
theorem c2m{af:bW}{i:Nat}{E:List Nat}:∀{T:List cu},a2b af i E T->∀e∈T,(e.i,i)∈af->∀id,e.rd=some id->id∉E
 |e::T,h,x,hx,hp,id,hr=>by
  rcases Fi.1 hx with rfl|hx
  .have h1:=h.1 (a9T hp)
   rw[hr]at h1;exact b2K h1
  .exact c2m h.2 x hx hp id hr
def XX(fs:FuncId->Option U4)(af:bW):List cu->dD->k6->k4->Kt->Prop
 |_,[],env,s,K=>K env s
 |T,(i,⟨dst,op,g⟩)::rest,env,s,K =>
  let run:Prop:=match dst,op with
   |some t,.p o=>match bY env o with
    |some d=>XX fs af T rest ((t,d)::env) s K
    |none=>False
   |some t,.r (.load n x)=>match env.ev x with
    |.fp cs off=>match bF s.get n (.fp cs off)with
     |some d=>XX fs af T rest ((t,d)::env) s K
     |none=>False
    |.ptr id off=>match bF s.get n (.ptr id off)with
     |some d=>a2l af i id T/\XX fs af (⟨i,some id,[]⟩::T) rest ((t,d)::env) s K
     |none=>False
    |_=>False
   |some t,.a o=>match eO env o with
    |some (ob,m)=>XX fs af (⟨i,none,[s.next]⟩::T) rest ((t,m.at s.next)::env) (s.push ob) K
    |none=>False
   |none,.w n a v=>match env.ev a with
    |.ptr id _=>match ei env s.get n a v with
     |some (jl,ob)=>jl=id/\a5J af i id T/\XX fs af (⟨i,some id,[id]⟩::T) rest env (s.set id (some ob)) K
     |none=>False
    |_=>False
   |some t,.m (.call .gu (.aL (.fn f [])) args)=>match X8 (aK s.get 20) (env.aR args)with
    |some l=>∃d,a46 fs f l d/\(a2B d||aM (env.aR args))=true/\XX fs af T rest ((t,d)::env) s K
    |none=>False
   |some t,.m (.append sz bytes a x)=>∃d s' E,a0e sz bytes (env.ev a) (env.ev x) s=some (d,s')/\s.next<=s'.next/\(∀id,id∉E->s.get id=s'.get id)/\a2b af i E T/\XX fs af (⟨i,none,E⟩::T) rest ((t,d)::env) s' K
   |dst,op=>WX fs af T ((i,⟨dst,op,none⟩)::rest) env s K
  match g with
  |none=>run
  |some (r,b)=>Way (env.get r) b run (XX fs af T rest (env.put dst (.aT [])) s K)
variable{env:k6}
theorem c4v{af T i t o r b rest s Q}(hw:env.get r=d)
 (h:Way d b (WX fs af T ((i,⟨t,o,none⟩)::rest) env s Q) (WX fs af T rest (env.put t (.aT [])) s Q)):WX fs af T ((i,⟨t,o,some (r,b)⟩)::rest) env s Q:=by
 unfold Way at h;split at h
 .rename_i c
  by_cases hc:c=b
  .rw[Fk hc]at h;subst hc
   intro tr ht;obtain⟨n,iO,s',h1,h2⟩:=h tr ht;refine⟨n,iO,s',?_,h2⟩;simp only[a1z,a2v,hw,Ii]at h1⊢;exact h1
  .rw[so hc]at h
   exact c1z (by simp only[a2v,hw];cases c<;>cases b<;>simp_all) h
 .exact c1z (by simp only[a2v,hw]) h
 .exact h.elim
theorem a5i{af:bW}:∀{T:List cu}{ops:dD}{env:k6}{s:k4}{K:Kt},XX fs af T ops env s K->WX fs af T ops env s K
 |T,[],env,s,K,h=>wx_nil h
 |T,(i,⟨dst,op,g⟩)::rest,env,s,K,h=>by
  have key:∀(h:XX fs af T ((i,⟨dst,op,none⟩)::rest) env s K),WX fs af T ((i,⟨dst,op,none⟩)::rest) env s K:=by
   intro h;unfold XX at h;simp only at h;split at h
   .split at h
    .rename_i d e;exact wx_p e (a5i h)
    .exact h.elim
   .split at h
    .rename_i e
     split at h
     .rename_i d e2;exact wx_fp e e2 (a5i h)
     .exact h.elim
    .rename_i e
     split at h
     .rename_i d e2;exact wx_ld e e2 (b8F h.1) (a5i h.2)
     .exact h.elim
    .exact h.elim
   .split at h
    .rename_i ob m e;exact wx_a e (a5i h)
    .exact h.elim
   .split at h
    .rename_i e
     split at h
     .rename_i jl ob e2
      obtain⟨rfl,h2,h3⟩:=h;exact wx_w e e2 (b9U h2) (a5i h3)
     .exact h.elim
    .exact h.elim
   .split at h
    .rename_i l hl
     obtain⟨d,⟨r,s1,h1,h2⟩,h3,h4⟩:=h;exact wx_iso rfl hl h1 h2 h3 (a5i h4)
    .exact h.elim
   .obtain⟨d,s',E,h1,h2,h3,h4,h5⟩:=h
    exact b1Y ⟨0,by simp only[cO];exact h1⟩ h3 h2 (c2m h4) (a5i h5)
   .exact h
  cases g with
  |none=>exact key h
  |some rb =>
   obtain⟨r,b⟩:=rb;refine c4v (d:=env.get r) rfl ?_;have h':Way (env.get r) b (XX fs af T ((i,⟨dst,op,none⟩)::rest) env s K) (XX fs af T rest (env.put dst (.aT [])) s K):=h;unfold Way at h'⊢;split at h'
   .rename_i c _
    split at h'
    .rename_i hc;simp only[hc,FG];exact key h'
    .rename_i hc;simp only[hc,FF];exact a5i h'
   .exact a5i h'
   .exact h'
def RX(fs:FuncId->Option U4)(af:bW)(ops:dD)(env:k6)(s:k4)(K:Kt):Prop:=match af with
 |[]=>XQ fs [] ops env s K
 |p::ps=>XX fs (p::ps) [] ops env s K
def c0k(k:k6->k4->Prop)(Q:a1G->k6->k4->Prop):a1G->k6->k4->Prop
 |.normal,env,s=>k env s
 |e,env,s=>Q e env s
def YW(fs:FuncId->Option U4)(vars:List Nat):a1w->(a1G->k6->k4->Prop)->k6->k4->Prop
 |.skip,Q,env,s=>End Q .normal env s
 |.region r,Q,env,s=>RX fs r.af r.ops env s (RgK vars Q)
 |.seq a b,Q,env,s=>YW fs vars a (c0k (YW fs vars b Q) Q) env s
 |.cond c x y,Q,env,s=>a5I (env.ev c) (YW fs vars x Q env s) (YW fs vars y Q env s)
 |.block id b,Q,env,s=>YW fs vars b (a0u id Q) env s
 |.loop b,Q,env,s=>WP fs vars (.loop b) env s Q
 |.exit id,Q,env,s=>End Q (.exit id) env s
 |.ret,Q,env,s=>End Q .ret env s
def b05(fs:FuncId->Option U4)(vars:List Nat)(b:a1w)(Q:a1G->k6->k4->Prop):a1G->k6->k4->Prop
 |.normal,env,s=>YW fs vars b Q env s
 |e,env,s=>Q e env s
theorem a3G:∀{af:bW}{ops:dD}{env:k6}{s:k4}{K:Kt},XQ fs af ops env s K->WQ fs af ops env s K
 |af,[],env,s,K,h=>b9X h
 |af,(i,⟨dst,op,g⟩)::rest,env,s,K,h=>by
  have key:∀(h:XQ fs af ((i,⟨dst,op,none⟩)::rest) env s K),WQ fs af ((i,⟨dst,op,none⟩)::rest) env s K:=by
   intro h;unfold XQ at h;simp only at h;split at h
   .split at h
    .rename_i d e;exact b1U e (a3G h)
    .exact h.elim
   .split at h
    .rename_i d e;exact vq_r e (a3G h)
    .exact h.elim
   .split at h
    .split at h
     .rename_i ob m e;exact vq_a e (a3G h)
     .exact h.elim
    .split at h
     .rename_i hf
      refine b29 hf ?_;split at h
      .rename_i ob m e;exact vq_a e (a3G h)
      .exact h.elim
     .exact h
   .split at h
    .split at h
     .rename_i ob m e;exact b12 e (a3G h)
     .exact h.elim
    .split at h
     .rename_i hf
      refine b29 hf ?_;split at h
      .rename_i ob m e;exact b12 e (a3G h)
      .exact h.elim
     .exact h
   .split at h
    .split at h
     .rename_i l hl
      obtain⟨d,⟨r,s1,h1,h2⟩,h3,h4⟩:=h;exact b7n hl h1 h2 h3 (a3G h4)
     .exact h.elim
    .split at h
     .rename_i d s' e;exact b3x e (a3G h)
     .exact h.elim
    .split at h
     .rename_i hf
      refine b29 hf ?_;split at h
      .rename_i d s' e;exact b3x e (a3G h)
      .exact h.elim
     .exact h
    .exact h
   .exact h
  cases g with
  |none=>exact key h
  |some rb =>
   obtain⟨r,b⟩:=rb;refine vq_g (d:=env.get r) rfl ?_;have h':Way (env.get r) b (XQ fs af ((i,⟨dst,op,none⟩)::rest) env s K) (XQ fs af rest (env.put dst (.aT [])) s K):=h;unfold Way at h'⊢;split at h'
   .rename_i c _
    split at h'
    .rename_i hc;simp only[hc,FG];exact key h'
    .rename_i hc;simp only[hc,FF];exact a3G h'
   .exact a3G h'
   .exact h'
theorem a8p{vars:List Nat}:∀{c:a1w}{Q:a1G->k6->k4->Prop}{env:k6}{s:k4},YW fs vars c Q env s->WP fs vars c env s Q
 |.skip,_,_,_,h=>b8X h
 |.region ⟨ops,[],dr⟩,Q,_,_,h=>c2q (a3G h)
 |.region ⟨ops,p::ps,dr⟩,Q,_,_,h=>vw_rgx (a5i h)
 |.seq a b,Q,env,s,h=>by
  refine b98 ((a8p (c:=a) h).mono λe env s h=>?_);cases e with
  |normal=>exact a8p (c:=b) h
  |exit id=>exact h
  |ret=>exact h
 |.cond c x y,Q,env,s,h=>by
  refine b6J (d:=env.ev c) rfl ?_;have h':a5I (env.ev c) (YW fs vars x Q env s) (YW fs vars y Q env s):=h;unfold a5I at h'⊢;split at h'
  .split at h'
   .rename_i hc;simp only[hc,FG];exact a8p h'
   .rename_i hc;simp only[hc];exact a8p h'
  .exact h'
 |.block id b,Q,env,s,h=>c06 (a8p (c:=b) h)
 |.loop b,Q,env,s,h=>h
 |.exit id,_,_,_,h=>b7W h
 |.ret,_,_,_,h=>b8e h
theorem c2y{vars b Q}:c0k (YW fs vars b Q) Q=b05 fs vars b Q:=by
 funext e env s
 cases e<;>rfl
theorem c9x{vars Q env s}:YW fs vars .skip Q env s=End Q .normal env s:=FC rfl rfl
theorem yw_seq{vars a b Q env s}:YW fs vars (.seq a b) Q env s=YW fs vars a (b05 fs vars b Q) env s:=by rw[<- c2y];rfl
def CW(d:D)(fs:FuncId->Option U4)(vars:List Nat)(x y:a1w)(Q:a1G->k6->k4->Prop)(env:k6)(s:k4):Prop:=a5I d (YW fs vars x Q env s) (YW fs vars y Q env s)
theorem c3D{vars c x y Q env s}:YW fs vars (.cond c x y) Q env s=CW (env.ev c) fs vars x y Q env s:=FC rfl rfl
theorem c34{vars id b Q env s}:YW fs vars (.block id b) Q env s=YW fs vars b (a0u id Q) env s:=FC rfl rfl
theorem c8u{vars id Q env s}:YW fs vars (.exit id) Q env s=End Q (.exit id) env s:=FC rfl rfl
theorem c4r{vars b Q env s}:YW fs vars (.loop b) Q env s=WP fs vars (.loop b) env s Q:=FC rfl rfl
theorem yw_ret{vars Q env s}:YW fs vars .ret Q env s=End Q .ret env s:=FC rfl rfl
theorem xq_nil{af vars Q env s}:XQ fs af [] env s (RgK vars Q)=End Q .normal (env.aG vars) s:=FC rfl rfl
theorem xq_g{af i t o r b rest env s K}:XQ fs af ((i,⟨t,o,some (r,b)⟩)::rest) env s K=GW (env.get r) b fs af (i,⟨t,o,none⟩) t rest env s K:=FC rfl rfl
theorem xq_i{af i t f args rest env s K}:XQ fs af ((i,⟨some t,.m (.call .gu (.aL (.fn f [])) args),none⟩)::rest) env s K=BL (X8 (aK s.get 20) (env.aR args)) (aM (env.aR args)) fs f af t rest env s K:=by
 unfold XQ BL BC;cases af<;>rfl
theorem xq_c{af i t f args rest env s K}:XQ fs af ((i,⟨some t,.m (.call .raw f args),none⟩)::rest) env s K=WQ fs af ((i,⟨some t,.m (.call .raw f args),none⟩)::rest) env s K:=by cases af<;>rfl
theorem xq_ap{i t sz bytes a x rest env s K}:XQ fs [] ((i,⟨some t,.m (.append sz bytes a x),none⟩)::rest) env s K=BM (a0e sz bytes (env.ev a) (env.ev x) s) fs t rest env K:=FC rfl rfl
theorem bp_s{d af t rest env s K}:BP (some d) fs af t rest env s K=XQ fs af rest ((t,d)::env) s K:=FC rfl rfl
theorem ba_p{ob t rest env s K}:BA (some (ob,.ptr)) fs t rest env s K=XQ fs [] rest ((t,.ptr s.next 0)::env) (s.push ob) K:=FC rfl rfl
theorem ba_r{ob t rest env s K l sz}:BA (some (ob,.arr l sz)) fs t rest env s K=XQ fs [] rest ((t,.arr s.next 0 l sz)::env) (s.push ob) K:=FC rfl rfl
theorem ba_m{ob t rest env s K}:BA (some (ob,.map)) fs t rest env s K=XQ fs [] rest ((t,.map s.next)::env) (s.push ob) K:=FC rfl rfl
theorem bw_s{id ob rest env s K}:BW (some (id,ob)) fs rest env s K=XQ fs [] rest env (s.set id (some ob)) K:=FC rfl rfl
theorem bm_s{d s t rest env K}:BM (some (d,s)) fs t rest env K=XQ fs [] rest ((t,d)::env) s K:=FC rfl rfl
theorem bl_s{l p f af t rest env s K}:BL (some l) p fs f af t rest env s K=BC fs f l p af t rest env s K:=FC rfl rfl
theorem bf_t{d af t rest env s K}:BF true d fs af t rest env s K=XQ fs af rest ((t,d)::env) s K:=FC rfl rfl
theorem cw_t{vars x y Q env s}:CW (.bool true) fs vars x y Q env s=YW fs vars x Q env s:=by simp[CW,a5I]
theorem cw_f{vars x y Q env s}:CW (.bool false) fs vars x y Q env s=YW fs vars y Q env s:=by simp[CW,a5I]
theorem gw_tt{af x t rest env s K}:GW (.bool true) true fs af x t rest env s K=XQ fs af (x::rest) env s K:=by simp[GW,Way]
theorem gw_ff{af x t rest env s K}:GW (.bool false) false fs af x t rest env s K=XQ fs af (x::rest) env s K:=by simp[GW,Way]
theorem gw_tf{af x t rest env s K}:GW (.bool true) false fs af x t rest env s K=XQ fs af rest (env.put t (.aT [])) s K:=by simp[GW,Way]
theorem gw_ft{af x t rest env s K}:GW (.bool false) true fs af x t rest env s K=XQ fs af rest (env.put t (.aT [])) s K:=by simp[GW,Way]
theorem gw_u{b af x t rest env s K}:GW (.aT []) b fs af x t rest env s K=XQ fs af rest (env.put t (.aT [])) s K:=FC rfl rfl
theorem put_s{t d}:env.put (some t) d=(t,d)::env:=FC rfl rfl
theorem en_tn{vars b Q env s}:End (b05 fs vars b Q) .normal env s=YW fs vars b Q env s:=FC rfl rfl
theorem en_te{vars b Q id env s}:End (b05 fs vars b Q) (.exit id) env s=End Q (.exit id) env s:=FC rfl rfl
theorem en_tr{vars b Q env s}:End (b05 fs vars b Q) .ret env s=End Q .ret env s:=FC rfl rfl
theorem en_on{id Q env s}:End (a0u id Q) .normal env s=End Q .normal env s:=FC rfl rfl
theorem en_or{id Q env s}:End (a0u id Q) .ret env s=End Q .ret env s:=FC rfl rfl
theorem en_oe{id jl Q env s}:End (a0u id Q) (.exit jl) env s=if jl=id then End Q .normal env s else End Q (.exit jl) env s:=FC rfl rfl
variable{b:Bool}
theorem a4j{vars x y Q env s}(h1:b=true->YW fs vars x Q env s)(h2:b=false->YW fs vars y Q env s):CW (.bool b) fs vars x y Q env s:=by
 cases b
 .rw[cw_f];exact h2 rfl
 .rw[cw_t];exact h1 rfl
theorem a4o{c:Bool}{af x t rest env s K}(h1:c=true->GW (.bool true) b fs af x t rest env s K)(h2:c=false->GW (.bool false) b fs af x t rest env s K):GW (.bool c) b fs af x t rest env s K:=by
 cases c
 .exact h2 rfl
 .exact h1 rfl
variable{n:Nat}{g:a0v}
theorem ic_nil:X8 (aK g (n+1)) []=some []:=FC rfl rfl
variable{l:List D}
theorem ic_int{x:Int}:X8 (aK g (n+1)) (.int k x::l)=(X8 (aK g (n+1)) l).map (.int k x::·):=by
 simp only[X8,aK];cases X8 (aK g (n+1)) l<;>rfl
theorem c85{x:Bool}:X8 (aK g (n+1)) (.bool x::l)=(X8 (aK g (n+1)) l).map (.bool x::·):=by
 simp only[X8,aK];cases X8 (aK g (n+1)) l<;>rfl
theorem ic_str{x:ByteArray}:X8 (aK g (n+1)) (.str x::l)=(X8 (aK g (n+1)) l).map (.str x::·):=by
 simp only[X8,aK];cases X8 (aK g (n+1)) l<;>rfl
theorem ic_pz(h:PZ d):X8 (aK g (n+3)) (d::l)=(X8 (aK g (n+3)) l).map (d::·):=by
 simp only[X8,h.2 g n];cases X8 (aK g (n+3)) l<;>rfl
theorem ic_ice{d':D}(h:aK g n d=some d'):X8 (aK g n) (d::l)=(X8 (aK g n) l).map (d'::·):=by
 simp only[X8,h];cases X8 (aK g n) l<;>rfl
theorem pd_pz(h:PZ d):a1j d=true:=h.1
theorem pl_nil:aM []=true:=FC rfl rfl
theorem c4n:aM (d::l)=(a1j d&&aM l):=FC rfl rfl
variable{n:Int}
theorem pd_int:a1j (.int k n)=true:=FC rfl rfl
theorem c89:a1j (.bool b)=true:=FC rfl rfl
theorem pd_str{b:ByteArray}:a1j (.str b)=true:=FC rfl rfl
theorem sd_int:a2B (.int k n)=true:=FC rfl rfl
theorem c2F:a2B (.bool b)=true:=FC rfl rfl
theorem sd_agg:a2B (.agg l)=bJ l:=FC rfl rfl
theorem sd_tup:a2B (.aT l)=bJ l:=FC rfl rfl
theorem sl_nil:bJ []=true:=FC rfl rfl
theorem c8T:bJ (d::l)=(a2B d&&bJ l):=FC rfl rfl
variable{n:Nat}
theorem c4O{x:Int}:aK g (n+1) (.int k x)=some (.int k x):=FC rfl rfl
theorem c3T{x:Bool}:aK g (n+1) (.bool x)=some (.bool x):=FC rfl rfl
theorem c35:aK g (n+1) (.agg l)=(X8 (aK g n) l).map .agg:=FC rfl rfl
theorem c7M:aK g (n+1) (.aT l)=(X8 (aK g n) l).map .aT:=FC rfl rfl
theorem ice_pz(h:PZ d):aK g (n+3) d=some d:=h.2 g n
variable{s:k4}
theorem res_1{x}:a03 env s [x]=a1t env s x:=by
 unfold a03 a08;cases a1t env s x<;>rfl
theorem res_2{x y l}:a03 env s (x::y::l)=(a08 env s (x::y::l)).map .aT:=by
 unfold a03;simp only[a08];cases a1t env s x<;>cases a1t env s y<;>cases a08 env s l<;>rfl
theorem res_n:a08 env s []=some []:=FC rfl rfl
theorem res_c{x l}:a08 env s (x::l)=(a1t env s x).bind λd=>(a08 env s l).map (d::·):=by
 simp only[a08];cases a1t env s x<;>cases a08 env s l<;>rfl
theorem res_o{t}:a1t env s (t,none)=some (env.get t):=FC rfl rfl
def b4J(s:k4)(n:Option Nat):D->Option D
 |.ptr id off=>bF s.get n (.ptr id off)
 |_=>none
theorem res_s{t n}:a1t env s (t,some n)=b4J s n (env.get t):=by
 simp only[a1t,b4J];cases h:env.get t<;>rfl
theorem res_l{n id off}:b4J s n (.ptr id off)=bF s.get n (.ptr id off):=FC rfl rfl
def b0O(res:List (Nat×Option (Option Nat)))(P:D->k4->Prop):a1G->k6->k4->Prop:=λe env s=>(e=.normal\/e=.ret)/\∃d,a03 env s res=some d/\P d s
def RB(r:Option D)(s:k4)(P:D->k4->Prop):Prop:=match r with
 |some d=>P d s
 |none=>False
theorem rq_r{res P env s}:End (b0O res P) .ret env s=RB (a03 env s res) s P:=by
 unfold End b0O RB;apply propext;cases a03 env s res<;>simp
variable{P:D->k4->Prop}
theorem a1I{d s}(h:P d s):RB (some d) s P:=h
def IceQ(x:D):D->k4->Prop:=λr s=>aK s.get 20 r=some x
theorem rb_i{d s x}:RB (some d) s (IceQ x)=(aK s.get 20 d=some x):=FC rfl rfl
def IceP(P:D->Prop):D->k4->Prop:=λr s=>∃d,aK s.get 20 r=some d/\P d
theorem rb_p{d s P}:RB (some d) s (IceP P)=∃x,aK s.get 20 d=some x/\P x:=FC rfl rfl
variable{f:FuncId}{vf:U4}{args:List D}
theorem Y0(hf:fs f=some vf)(h:YW fs vf.vars vf.code (b0O vf.res P) (vf.vars.map λt=>(t,args.getD t .undef)) s):Y4 fs f args s P:=W4 hf (a8p h)
theorem a0A(hf:fs f=some vf)(h:YW fs vf.vars vf.code (b0O vf.res (IceQ d)) (vf.vars.map λt=>(t,args.getD t .undef)) k4.empty):a46 fs f args d:=by
 obtain⟨r,s1,h1,h2⟩:=Y0 hf h;exact⟨r,s1,h1,h2⟩
def a5u(fs:FuncId->Option U4)(f:FuncId)(args:List D)(P:D->Prop):Prop:=∃d,a46 fs f args d/\P d
theorem a5n{P:D->Prop}(hf:fs f=some vf)(h:YW fs vf.vars vf.code (b0O vf.res (IceP P)) (vf.vars.map λt=>(t,args.getD t .undef)) k4.empty):a5u fs f args P:=by
 obtain⟨r,s1,h1,d,h2,h3⟩:=Y0 hf h;exact⟨d,⟨r,s1,h1,h2⟩,h3⟩
theorem a0M{i t f args rest s K}(hr:Y4 fs f l s P)(ha:env.aR args=l)
 (h:∀d s',P d s'->XQ fs [] rest ((t,d)::env) s' K):WQ fs [] ((i,⟨some t,.m (.call .raw (.aL (.fn f [])) args),none⟩)::rest) env s K:=a09 hr ha λd s' hp=>a3G (h d s' hp)
inductive Rf{α:Type}(a b:α):Prop where
 |mk (h:a=b)
def a79:k6->Nat->Option D
 |[],_=>none
 |(s,d)::r,t=>match Nat.beq s t with
  |true=>some d
  |false=>a79 r t
theorem b3b:∀{env:k6}{t:Nat}{d:D},a79 env t=some d->env.get t=d
 |[],_,_,h=>by simp[a79]at h
 |(s,d)::r,t,d',h=>by
  simp only[a79]at h;split at h
  .rename_i e
   have:=Kb e;cases h;simp only[k6.get,this,FG]
  .rename_i e
   have:s≠t:=λhe=>by subst he;simp at e
   simp only[k6.get,this,FF];exact b3b h
variable{t:Nat}
theorem get_is(h:Rf (a79 env t) (some d)):k6.get env t=d:=b3b h.1
def a6F:List Nat->k6->Option k6
 |[],_=>some []
 |t::r,env=>match a79 env t with
  |some d=>match a6F r env with
   |some l=>some ((t,d)::l)
   |none=>none
  |none=>none
theorem a8E:∀{vars:List Nat}{env e:k6},a6F vars env=some e->env.aG vars=e
 |[],_,_,h=>by simp[a6F]at h;exact h.symm
 |t::r,env,e,h=>by
  simp only[a6F]at h;split at h
  .rename_i d hd
   split at h
   .rename_i l hl
    cases h;show(t,env.get t)::env.aG r=_
    rw[b3b hd,a8E hl]
   .cases h
  .cases h
variable{vars:List Nat}
theorem c6u{env e:k6}(h:Rf (a6F vars env) (some e)):env.aG vars=e:=a8E h.1
def a74(vars l:List Nat)(e0:k6)(f:Nat->D):k6:=vars.map λt=>(t,if l.contains t then e0.get t else f t)
def b1C:List Nat->Nat->Bool
 |[],_=>false
 |s::r,t=>match Nat.beq s t with
  |true=>true
  |false=>b1C r t
theorem c1J:∀{l:List Nat}{t:Nat},b1C l t=l.contains t
 |[],_=>rfl
 |s::r,t=>by
  simp only[b1C,List.contains_cons];split
  .rename_i e
   have:=Kb e;simp[this]
  .rename_i e
   have:(t==s)=false:=by
    rw[FA];intro he;subst he;simp at e
   rw[this,HC];exact c1J
def a9l:List Nat->List Nat->k6->(Nat->D)->Option k6
 |[],_,_,_=>some []
 |t::r,l,e0,f=>match b1C l t with
  |true=>match a79 e0 t with
   |some d=>match a9l r l e0 f with
    |some e=>some ((t,d)::e)
    |none=>none
   |none=>none
  |false=>match a9l r l e0 f with
   |some e=>some ((t,f t)::e)
   |none=>none
theorem b4F:∀{vars l:List Nat}{e0 e:k6}{f:Nat->D},a9l vars l e0 f=some e->a74 vars l e0 f=e
 |[],_,_,_,_,h=>by simp[a9l]at h;exact h.symm
 |t::r,l,e0,e,f,h=>by
  simp only[a9l]at h;show(t,if l.contains t then e0.get t else f t)::a74 r l e0 f=e
  rw[<- c1J];split at h
  .rename_i hb
   split at h
   .rename_i d hd
    split at h
    .rename_i e' he
     cases h;rw[hb,Fk rfl,b3b hd,b4F he]
    .cases h
   .cases h
  .rename_i hb
   split at h
   .rename_i e' he
    cases h;rw[hb,so sJ,b4F he]
   .cases h
variable{l:List Nat}
theorem c6Y{e0 e:k6}{f:Nat->D}(h:Rf (a9l vars l e0 f) (some e)):a74 vars l e0 f=e:=b4F h.1
def a7u(vars l:List Nat)(e0 e:k6):Prop:=e.aG vars=e/\e.aG l=e0.aG l
theorem c6D{e0 e x:k6}(h1:Rf (a6F vars e) (some e))(h2:Rf (a6F l e0) (some x))(h3:Rf (a6F l e) (some x)):a7u vars l e0 e=True:=FR ⟨a8E h1.1,by rw[a8E h2.1,a8E h3.1]⟩
theorem c4Z{e e0:k6}(h:e.aG l=e0.aG l)(ht:t∈l):e.get t=e0.get t:=by
 unfold k6.aG at h;have:=List.map_inj_left.1 h t ht;simpa using this
theorem b8y{e0 e:k6}(h:a7u vars l e0 e):e=a74 vars l e0 λt=>e.get t:=by
 conv=>lhs;rw[<- h.1]
 unfold k6.aG a74;refine HT λt _=>?_
 by_cases ht:t∈l
 .rw[Fk (IH.2 ht),c4Z h.2 ht]
 .rw[so (sU ht)]
abbrev It:=Nat->(Nat->D)->k4->Prop
def UpQ(vars l:List Nat)(e0:k6)(n i:Nat)(I:It)(Q:a1G->k6->k4->Prop):a1G->k6->k4->Prop
 |.normal,env,s=>a7u vars l e0 env/\i<n/\I (i+1) (λt=>env.get t) s
 |e,env,s=>Q e env s
theorem uq_n{vars l e0 n i I Q env s}:End (UpQ vars l e0 n i I Q) .normal env s=(a7u vars l e0 env/\i<n/\I (i+1) (λt=>env.get t) s):=FC rfl rfl
theorem uq_e{vars l e0 n i I Q id env s}:End (UpQ vars l e0 n i I Q) (.exit id) env s=End Q (.exit id) env s:=FC rfl rfl
theorem uq_r{vars l e0 n i I Q env s}:End (UpQ vars l e0 n i I Q) .ret env s=End Q .ret env s:=FC rfl rfl
theorem c3c{e:k6}(h:Rf (a6F vars e) (some e)):a7u vars l e e:=⟨a8E h.1,rfl⟩
theorem W6{vars b Q jC s0}(l:List Nat)(a n:Nat)(I:It)(h1:Rf (a6F vars jC) (some jC))(ha:a<=n)(h0:I a (λt=>jC.get t) s0)(hs:∀i f s,i<=n->I i f s->YW fs vars b (UpQ vars l jC n i I Q) (a74 vars l jC f) s):WP fs vars (.loop b) jC s0 Q:=by
 refine a1l (λk env s=>∃i,i<=n/\k=n-i/\a7u vars l jC env/\I i (λt=>env.get t) s) ?_ (n-a) _ _ ⟨a,ha,rfl,c3c h1,h0⟩;rintro k env s ⟨i,hi,rfl,hk,hI⟩;have:=hs i _ s hi hI;rw[<- b8y hk]at this;refine(a8p this).mono λe iO s' h=>?_
 cases e with
 |normal =>
  obtain⟨h1,h2,h3⟩:=h;exact⟨n-(i+1),oJ,i+1,oJ,rfl,h1,h3⟩
 |exit id=>exact h
 |ret=>exact h
def b1O(vars l:List Nat)(e0:k6)(P:(Nat->D)->k4->Prop)(Q:a1G->k6->k4->Prop):a1G->k6->k4->Prop
 |.normal,env,s=>a7u vars l e0 env/\P (λt=>env.get t) s
 |e,env,s=>Q e env s
theorem cq_n{vars l e0 P Q env s}:End (b1O vars l e0 P Q) .normal env s=(a7u vars l e0 env/\P (λt=>env.get t) s):=FC rfl rfl
theorem cq_r{vars l e0 P Q env s}:End (b1O vars l e0 P Q) .ret env s=End Q .ret env s:=FC rfl rfl
theorem a1d{vars c Q env s id}(l:List Nat)(P:(Nat->D)->k4->Prop)(h:WP fs vars c env s (a0u id (b1O vars l env P Q)))(k:∀f s,P f s->End Q .normal (a74 vars l env f) s):WP fs vars c env s (a0u id Q):=by
 have key:∀iO s,b1O vars l env P Q .normal iO s->Q .normal iO s:=λiO s h=>by
  have:=k _ s h.2;rw[<- b8y h.1]at this;exact this
 refine WP.mono h λe iO s h=>?_
 cases e with
 |normal=>exact key _ _ h
 |exit jl =>
  simp only[a0u]at h⊢;by_cases hc:jl=id
  .rw[Fk hc]at h⊢;exact key _ _ h
  .rw[so hc]at h⊢;exact h
 |ret=>exact h
theorem ev_tmp:env.ev (.tmp t)=env.get t:=FC rfl rfl
theorem ev_cst:env.ev (.aL d)=d:=FC rfl rfl
theorem ww_q{af i t o rest env s K}:XQ fs af (xq i t o::rest) env s K=BP (bY env o) fs af t rest env s K:=FC rfl rfl
theorem ww_g{af i t o g b rest env s K}:XQ fs af (xg i t o g b::rest) env s K=GW (env.get g) b fs af (xq i t o) (some t) rest env s K:=FC rfl rfl
theorem ww_m{af i t x rest env s K}:XQ fs af (xm i t x::rest) env s K=BP (some (env.get x)) fs af t rest env s K:=FC rfl rfl
theorem ww_mg{af i t x g b rest env s K}:XQ fs af (xmg i t x g b::rest) env s K=GW (env.get g) b fs af (xm i t x) (some t) rest env s K:=FC rfl rfl
theorem ww_c{af i t d rest env s K}:XQ fs af (xc i t d::rest) env s K=XQ fs af rest ((t,d)::env) s K:=FC rfl rfl
theorem ww_l{af i t n x rest env s K}:XQ fs af (xl i t n x::rest) env s K=BP (bF s.get n (env.get x)) fs af t rest env s K:=by
 rw[<- show env.ev (.tmp x)=env.get x from rfl,<- b0u];rfl
theorem ww_lg{af i t n x g b rest env s K}:XQ fs af (xlg i t n x g b::rest) env s K=GW (env.get g) b fs af (xl i t n x) (some t) rest env s K:=FC rfl rfl
theorem ww_f{af i t off x rest env s K}:XQ fs af (xf i t off x::rest) env s K=BP (bY env (.cT off (.tmp x))) fs af t rest env s K:=FC rfl rfl
theorem ww_fg{af i t off x g b rest env s K}:XQ fs af (xfg i t off x g b::rest) env s K=GW (env.get g) b fs af (xf i t off x) (some t) rest env s K:=FC rfl rfl
theorem ww_a0{i t o rest env s K}:XQ fs [] (xa i t o::rest) env s K=BA (eO env o) fs t rest env s K:=FC rfl rfl
theorem ww_w0{i n a v rest env s K}:XQ fs [] (xw i n a v::rest) env s K=BW (ei env s.get n (.tmp a) v) fs rest env s K:=FC rfl rfl
theorem ww_i{af i t f args rest env s K}:XQ fs af (xi i t f args::rest) env s K=BL (X8 (aK s.get 20) (env.aR args)) (aM (env.aR args)) fs f af t rest env s K:=xq_i
theorem ww_ig{af i t f args g b rest env s K}:XQ fs af (bt i t f args g b::rest) env s K=GW (env.get g) b fs af (xi i t f args) (some t) rest env s K:=FC rfl rfl
theorem ww_k{af i t f args rest env s K}:XQ fs af (xk i t f args::rest) env s K=WQ fs af (xk i t f args::rest) env s K:=xq_c
theorem ww_o{af i t o g rest env s K}:XQ fs af (xo i t o g::rest) env s K=XQ fs af ((i,⟨t,o,g⟩)::rest) env s K:=FC rfl rfl
theorem wy_r{vars l Q env s}:YW fs vars (xr l) Q env s=XQ fs [] l env s (RgK vars Q):=FC rfl rfl
theorem wy_rp{vars l b Q env s}:YW fs vars (xrp l [] b) Q env s=XQ fs [] l env s (RgK vars Q):=FC rfl rfl
theorem wy_rx{vars l p ps b Q env s}:YW fs vars (xrp l (p::ps) b) Q env s=XX fs (p::ps) [] l env s (RgK vars Q):=FC rfl rfl
theorem Y3:k4.empty.next=0:=FC rfl rfl
def BX(r:Option D)(fs:FuncId->Option U4)(af:bW)(T:List cu)(t:Nat)(rest:dD)(env:k6)(s:k4)(K:Kt):Prop:=match r with
 |some d=>XX fs af T rest ((t,d)::env) s K
 |none=>False
def BD(d:D)(n:Option Nat)(i:Nat)(fs:FuncId->Option U4)(af:bW)(T:List cu)(t:Nat)(rest:dD)(env:k6)(s:k4)(K:Kt):Prop:=match d with
 |.fp cs off=>match bF s.get n (.fp cs off)with
  |some d=>XX fs af T rest ((t,d)::env) s K
  |none=>False
 |.ptr id off=>match bF s.get n (.ptr id off)with
  |some d=>a2l af i id T/\XX fs af (⟨i,some id,[]⟩::T) rest ((t,d)::env) s K
  |none=>False
 |_=>False
def BE(C:Prop)(r:Option D)(fs:FuncId->Option U4)(af:bW)(T:List cu)(t:Nat)(rest:dD)(env:k6)(s:k4)(K:Kt):Prop:=C/\BX r fs af T t rest env s K
def AX(r:Option (Z7×a0n))(i:Nat)(fs:FuncId->Option U4)(af:bW)(T:List cu)(t:Nat)(rest:dD)(env:k6)(s:k4)(K:Kt):Prop:=match r with
 |some (ob,m)=>XX fs af (⟨i,none,[s.next]⟩::T) rest ((t,m.at s.next)::env) (s.push ob) K
 |none=>False
def UX(d:D)(r:Option (Nat×Z7))(i:Nat)(fs:FuncId->Option U4)(af:bW)(T:List cu)(rest:dD)(env:k6)(s:k4)(K:Kt):Prop:=match d with
 |.ptr id _=>match r with
  |some (jl,ob)=>jl=id/\a5J af i id T/\XX fs af (⟨i,some id,[id]⟩::T) rest env (s.set id (some ob)) K
  |none=>False
 |_=>False
def VX(C:Prop)(fs:FuncId->Option U4)(af:bW)(T:List cu)(rest:dD)(env:k6)(s:k4)(K:Kt):Prop:=C/\XX fs af T rest env s K
def MX(d x:D)(sz bytes i:Nat)(fs:FuncId->Option U4)(af:bW)(T:List cu)(t:Nat)(rest:dD)(env:k6)(s:k4)(K:Kt):Prop:=∃d' s' E,a0e sz bytes d x s=some (d',s')/\s.next<=s'.next/\(∀id,id∉E->s.get id=s'.get id)/\a2b af i E T/\XX fs af (⟨i,none,E⟩::T) rest ((t,d')::env) s' K
def CX(fs:FuncId->Option U4)(f:FuncId)(l:List D)(p:Bool)(af:bW)(T:List cu)(t:Nat)(rest:dD)(env:k6)(s:k4)(K:Kt):Prop:=∃d,a46 fs f l d/\(a2B d||p)=true/\XX fs af T rest ((t,d)::env) s K
def LX(r:Option (List D))(p:Bool)(fs:FuncId->Option U4)(f:FuncId)(af:bW)(T:List cu)(t:Nat)(rest:dD)(env:k6)(s:k4)(K:Kt):Prop:=match r with
 |some l=>CX fs f l p af T t rest env s K
 |none=>False
def GX(d:D)(b:Bool)(fs:FuncId->Option U4)(af:bW)(T:List cu)(x:Nat×a0f)(t:Option Nat)(rest:dD)(env:k6)(s:k4)(K:Kt):Prop:=Way d b (XX fs af T (x::rest) env s K) (XX fs af T rest (env.put t (.aT [])) s K)
def FX(b:Bool)(d:D)(fs:FuncId->Option U4)(af:bW)(T:List cu)(t:Nat)(rest:dD)(env:k6)(s:k4)(K:Kt):Prop:=match b with
 |true=>XX fs af T rest ((t,d)::env) s K
 |false=>False
abbrev bz(fs:FuncId->Option U4)(f:FuncId)(l:List D)(d:D):Prop:=(∀p af t rest env s K,BC fs f l p af t rest env s K=BF (a2B d||p) d fs af t rest env s K)/\∀p af T t rest env s K,CX fs f l p af T t rest env s K=FX (a2B d||p) d fs af T t rest env s K
theorem a0l(h:a46 fs f args d):bz fs f args d:=by
 refine⟨λp af t rest env s K=>propext ⟨?_,λhk=>?_⟩,λp af T t rest env s K=>propext ⟨?_,λhk=>?_⟩⟩
 .rintro⟨d',h1,h2,h3⟩
  obtain rfl:=h.det h1;unfold BF;rw[h2];exact h3
 .unfold BF at hk
  split at hk
  .rename_i hs;exact⟨d,h,hs,hk⟩
  .exact hk.elim
 .rintro⟨d',h1,h2,h3⟩
  obtain rfl:=h.det h1;unfold FX;rw[h2];exact h3
 .unfold FX at hk
  split at hk
  .rename_i hs;exact⟨d,h,hs,hk⟩
  .exact hk.elim
theorem fx_t{d af T t rest env s K}:FX true d fs af T t rest env s K=XX fs af T rest ((t,d)::env) s K:=FC rfl rfl
theorem xx_nil{af T vars Q env s}:XX fs af T [] env s (RgK vars Q)=End Q .normal (env.aG vars) s:=FC rfl rfl
theorem xx_g{af T i t o r b rest env s K}:XX fs af T ((i,⟨t,o,some (r,b)⟩)::rest) env s K=GX (env.get r) b fs af T (i,⟨t,o,none⟩) t rest env s K:=FC rfl rfl
theorem xx_i{af T i t f args rest env s K}:XX fs af T ((i,⟨some t,.m (.call .gu (.aL (.fn f [])) args),none⟩)::rest) env s K=LX (X8 (aK s.get 20) (env.aR args)) (aM (env.aR args)) fs f af T t rest env s K:=by
 unfold XX LX CX;rfl
theorem xx_m{af T i t sz bytes a x rest env s K}:XX fs af T ((i,⟨some t,.m (.append sz bytes a x),none⟩)::rest) env s K=MX (env.ev a) (env.ev x) sz bytes i fs af T t rest env s K:=FC rfl rfl
theorem xx_c{af T i t f args rest env s K}:XX fs af T ((i,⟨some t,.m (.call .raw f args),none⟩)::rest) env s K=WX fs af T ((i,⟨some t,.m (.call .raw f args),none⟩)::rest) env s K:=FC rfl rfl
theorem bx_s{d af T t rest env s K}:BX (some d) fs af T t rest env s K=XX fs af T rest ((t,d)::env) s K:=FC rfl rfl
theorem bd_f{cs off n i af T t rest env s K}:BD (.fp cs off) n i fs af T t rest env s K=BX (bF s.get n (.fp cs off)) fs af T t rest env s K:=by
 unfold BD BX;rfl
theorem bd_p{id off n i af T t rest env s K}:BD (.ptr id off) n i fs af T t rest env s K=BE (a2l af i id T) (bF s.get n (.ptr id off)) fs af (⟨i,some id,[]⟩::T) t rest env s K:=by
 unfold BD BE BX;simp only;cases bF s.get n (.ptr id off)with
 |some d=>rfl
 |none=>simp
theorem be_t{r af T t rest env s K}:BE True r fs af T t rest env s K=BX r fs af T t rest env s K:=by simp[BE]
theorem ax_p{ob i af T t rest env s K}:AX (some (ob,.ptr)) i fs af T t rest env s K=XX fs af (⟨i,none,[s.next]⟩::T) rest ((t,.ptr s.next 0)::env) (s.push ob) K:=FC rfl rfl
theorem ax_r{ob l sz i af T t rest env s K}:AX (some (ob,.arr l sz)) i fs af T t rest env s K=XX fs af (⟨i,none,[s.next]⟩::T) rest ((t,.arr s.next 0 l sz)::env) (s.push ob) K:=FC rfl rfl
theorem ux_s{id off ob i af T rest env s K}:UX (.ptr id off) (some (id,ob)) i fs af T rest env s K=VX (a5J af i id T) fs af (⟨i,some id,[id]⟩::T) rest env (s.set id (some ob)) K:=by
 unfold UX VX;simp
theorem vx_t{af T rest env s K}:VX True fs af T rest env s K=XX fs af T rest env s K:=by simp[VX]
theorem lx_s{l p f af T t rest env s K}:LX (some l) p fs f af T t rest env s K=CX fs f l p af T t rest env s K:=FC rfl rfl
theorem gx_tt{af T x t rest env s K}:GX (.bool true) true fs af T x t rest env s K=XX fs af T (x::rest) env s K:=by simp[GX,Way]
theorem gx_ff{af T x t rest env s K}:GX (.bool false) false fs af T x t rest env s K=XX fs af T (x::rest) env s K:=by simp[GX,Way]
theorem gx_tf{af T x t rest env s K}:GX (.bool true) false fs af T x t rest env s K=XX fs af T rest (env.put t (.aT [])) s K:=by simp[GX,Way]
theorem gx_ft{af T x t rest env s K}:GX (.bool false) true fs af T x t rest env s K=XX fs af T rest (env.put t (.aT [])) s K:=by simp[GX,Way]
theorem wz_q{af T i t o rest env s K}:XX fs af T (xq i t o::rest) env s K=BX (bY env o) fs af T t rest env s K:=FC rfl rfl
theorem wz_g{af T i t o g b rest env s K}:XX fs af T (xg i t o g b::rest) env s K=GX (env.get g) b fs af T (xq i t o) (some t) rest env s K:=FC rfl rfl
theorem wz_m{af T i t x rest env s K}:XX fs af T (xm i t x::rest) env s K=BX (some (env.get x)) fs af T t rest env s K:=FC rfl rfl
theorem wz_mg{af T i t x g b rest env s K}:XX fs af T (xmg i t x g b::rest) env s K=GX (env.get g) b fs af T (xm i t x) (some t) rest env s K:=FC rfl rfl
theorem wz_l{af T i t n x rest env s K}:XX fs af T (xl i t n x::rest) env s K=BD (env.get x) n i fs af T t rest env s K:=FC rfl rfl
theorem wz_lg{af T i t n x g b rest env s K}:XX fs af T (xlg i t n x g b::rest) env s K=GX (env.get g) b fs af T (xl i t n x) (some t) rest env s K:=FC rfl rfl
theorem wz_f{af T i t off x rest env s K}:XX fs af T (xf i t off x::rest) env s K=BX (bY env (.cT off (.tmp x))) fs af T t rest env s K:=FC rfl rfl
theorem wz_fg{af T i t off x g b rest env s K}:XX fs af T (xfg i t off x g b::rest) env s K=GX (env.get g) b fs af T (xf i t off x) (some t) rest env s K:=FC rfl rfl
theorem wz_a{af T i t o rest env s K}:XX fs af T (xa i t o::rest) env s K=AX (eO env o) i fs af T t rest env s K:=FC rfl rfl
theorem wz_w{af T i n a v rest env s K}:XX fs af T (xw i n a v::rest) env s K=UX (env.get a) (ei env s.get n (.tmp a) v) i fs af T rest env s K:=FC rfl rfl
theorem wz_i{af T i t f args rest env s K}:XX fs af T (xi i t f args::rest) env s K=LX (X8 (aK s.get 20) (env.aR args)) (aM (env.aR args)) fs f af T t rest env s K:=xx_i
theorem wz_ig{af T i t f args g b rest env s K}:XX fs af T (bt i t f args g b::rest) env s K=GX (env.get g) b fs af T (xi i t f args) (some t) rest env s K:=FC rfl rfl
theorem wz_k{af T i t f args rest env s K}:XX fs af T (xk i t f args::rest) env s K=WX fs af T (xk i t f args::rest) env s K:=xx_c
theorem wz_o{af T i t o g rest env s K}:XX fs af T (xo i t o g::rest) env s K=XX fs af T ((i,⟨t,o,g⟩)::rest) env s K:=FC rfl rfl
theorem ni_nil{id}:a1K id []=True:=FC rfl rfl
theorem ni_c{id x r}:a1K id (x::r)=(b1g id x/\a1K id r):=FC rfl rfl
theorem ne_t{a b:Nat}(h:a≠b):b1g a b=True:=FR h
theorem lo_n{af i id}:a2l af i id []=True:=FC rfl rfl
theorem lo_0{af i id a r E T}(h:Rf (a1n af a i) false):a2l af i id (⟨a,r,E⟩::T)=a2l af i id T:=by simp[a2l,h.1]
theorem lo_1{af i id a r E T}(h:Rf (a1n af a i) true):a2l af i id (⟨a,r,E⟩::T)=(a1K id E/\a2l af i id T):=by simp[a2l,h.1]
theorem wo_n{af i id}:a5J af i id []=True:=FC rfl rfl
theorem wo_0{af i id a r E T}(h:Rf (a1n af a i) false):a5J af i id (⟨a,r,E⟩::T)=a5J af i id T:=by simp[a5J,h.1]
theorem eo_n{af i E}:a2b af i E []=True:=FC rfl rfl
theorem eo_0{af i E a r F T}(h:Rf (a1n af a i) false):a2b af i E (⟨a,r,F⟩::T)=a2b af i E T:=by simp[a2b,h.1]
theorem eo_1{af i E a F x T}(h:Rf (a1n af a i) true):a2b af i E (⟨a,some x,F⟩::T)=(a1K x E/\a2b af i E T):=by simp[a2b,h.1]
attribute [go_sem] fx_t wy_rx xx_nil xx_g xx_i xx_m xx_c bx_s bd_f bd_p be_t ax_p ax_r ux_s vx_t lx_s gx_tt gx_ff gx_tf gx_ft wz_q wz_g wz_m wz_mg wz_l wz_lg wz_f wz_fg wz_a wz_w wz_i wz_ig wz_k wz_o ni_nil ni_c ne_t lo_n lo_0 lo_1 wo_n wo_0 eo_n eo_0 eo_1
attribute [go_sem] Nat.reduceLT Y3 ww_q ww_g ww_m ww_mg ww_c ww_l ww_lg ww_f ww_fg ww_a0 ww_w0 ww_i ww_ig ww_k ww_o wy_r wy_rp
attribute [go_sem] c9x yw_seq c3D c34 c4r c8u yw_ret xq_nil xq_g xq_i xq_c xq_ap bp_s bl_s ba_p ba_r ba_m bw_s bm_s bf_t cw_t cw_f gw_tt gw_ff gw_tf gw_ft gw_u en_tn en_te en_tr en_on en_or en_oe c6u get_is c6Y c6D ev_tmp ev_cst put_s
attribute [go_sem] ic_nil ic_int c85 ic_str ic_pz pd_pz pl_nil c4n pd_int c89 pd_str sd_int c2F sd_agg sd_tup sl_nil c8T c4O c3T c35 c7M ice_pz res_1 res_2 res_n res_c res_o res_s res_l rq_r rb_i rb_p Option.some.injEq D.aT.injEq D.int.injEq D.bool.injEq D.agg.injEq D.str.injEq List.cons.injEq uq_n uq_e uq_r cq_n cq_r Option.bind Bool.or_true Bool.true_or
theorem c8X{vars c Q env iO s s'}(h:env=iO)(h':s=s'):YW fs vars c Q env s=YW fs vars c Q iO s':=by rw[h,h']
theorem c47{af ops K env iO s s'}(h:env=iO)(h':s=s'):XQ fs af ops env s K=XQ fs af ops iO s' K:=by rw[h,h']
theorem c7x{Q e env iO s s'}(h:env=iO)(h':s=s'):End Q e env s=End Q e iO s':=by rw[h,h']
theorem c5k{r r' af t rest env s K}(h:r=r'):BP r fs af t rest env s K=BP r' fs af t rest env s K:=by rw[h]
theorem c3z{r r' p p' f af t rest env s K}(h:r=r')(h':p=p'):BL r p fs f af t rest env s K=BL r' p' fs f af t rest env s K:=by rw[h,h']
theorem c8r{r r' t rest env K}(h:r=r'):BM r fs t rest env K=BM r' fs t rest env K:=by rw[h]
theorem c6O{r r' d af t rest env s K}(h:r=r'):BF r d fs af t rest env s K=BF r' d fs af t rest env s K:=by rw[h]
theorem c41{d d' vars x y Q env s}(h:d=d'):CW d fs vars x y Q env s=CW d' fs vars x y Q env s:=by rw[h]
theorem c6s{d d' b af x t rest env s K}(h:d=d'):GW d b fs af x t rest env s K=GW d' b fs af x t rest env s K:=by rw[h]
theorem c3p{b b' d af T t rest env s K}(h:b=b'):FX b d fs af T t rest env s K=FX b' d fs af T t rest env s K:=by rw[h]
theorem c5A{af T ops K env iO s s'}(h:env=iO)(h':s=s'):XX fs af T ops env s K=XX fs af T ops iO s' K:=by rw[h,h']
theorem c58{r r' af T t rest env s K}(h:r=r'):BX r fs af T t rest env s K=BX r' fs af T t rest env s K:=by rw[h]
theorem c8H{r r' n i af T t rest env s K}(h:r=r'):BD r n i fs af T t rest env s K=BD r' n i fs af T t rest env s K:=by rw[h]
theorem c3m{C C' af T rest env s K}(hc:C=C'):VX C fs af T rest env s K=VX C' fs af T rest env s K:=by rw[hc]
theorem c6K{d d' x x' sz bytes i af T t rest env s s' K}(h:d=d')(h2:x=x')(h3:s=s'):MX d x sz bytes i fs af T t rest env s K=MX d' x' sz bytes i fs af T t rest env s' K:=by rw[h,h2,h3]
theorem c7o{f l l' p p' af T t rest env s K}(h:l=l')(h2:p=p'):LX l p fs f af T t rest env s K=LX l' p' fs f af T t rest env s K:=by rw[h,h2]
theorem c3y{d d' b af T x t rest env s K}(h:d=d'):GX d b fs af T x t rest env s K=GX d' b fs af T x t rest env s K:=by rw[h]
attribute [congr] c3p c5A c58 c8H c3m c6K c7o c3y
attribute [congr] c8X c47 c7x c5k c3z c8r c6O c41 c6s
variable{P Q:Prop}
theorem zF(k:Q) (h:P=Q:=by
 simp only[xn,j0,t5,t4,M9,M8,M7,M6,M5,M4,M3,M1,N9,N8,N7,N6,N5,N4,N3,N2,N1,O9,O8,O7,O6,O5,O4,O3,O2,O1,O0,P9,P8,P7,P6,P5,P4,P3,P2,P1,P0,Q9,Q8,Q7,Q6,Q5,Q4,Q3,Q2,Q1,Q0,S9,S8,S7,S6,S5,S4,S2,S1,S0,T9,T8,T0,Fx,Fv,Fl,FJ,HZ,II,List.range'_zero,Nat.reduceAdd,Nat.reduceSub,List.map,List.getD,JE,JF,List.getElem?_nil,Option.getD];exact rfl):P:=h.mpr k
theorem V9(k:Q) (h:P=Q:=by
 simp(maxSteps:=1000000) (disch:=(first|exact Rf.mk rfl|with_reducible assumption|omega|((repeat(first|rw[nP]|rw[nS]|rw[Y3]))<;>omega)|decide)) only[go_sem,↓reduceIte];exact rfl):P:=h.mpr k
theorem zY{F:Prop}(f:F)(k:Q) (h:F->P=Q:=by
 intro f;simp(maxSteps:=1000000) (disch:=(first|exact Rf.mk rfl|with_reducible assumption|omega|((repeat(first|rw[nP]|rw[nS]|rw[Y3]))<;>omega)|decide)) only[go_sem,↓reduceIte,f];exact rfl):P:=(h f).mpr k
theorem bB(h:P:=by simp(maxSteps:=1000000) (disch:=(first|exact Rf.mk rfl|with_reducible assumption|omega|((repeat(first|rw[nP]|rw[nS]|rw[Y3]))<;>omega)|decide)) only[go_sem,↓reduceIte]):P:=h
theorem zZ{F:Prop}(f:F) (h:F->P:=by
 intro f;simp(maxSteps:=1000000) (disch:=(first|exact Rf.mk rfl|with_reducible assumption|omega|((repeat(first|rw[nP]|rw[nS]|rw[Y3]))<;>omega)|decide)) only[go_sem,↓reduceIte,f]):P:=h f
def V3(l:List Ed)(i:Nat):Ed:=l.getD i default
def bh(l:List Vr)(i:Nat):Vr:=l.getD i default
def bAt(l:List Bool)(i:Nat):Bool:=l.getD i false
def sAt(l:List ByteArray)(i:Nat):ByteArray:=l.getD i default
def k7(l:List Pr)(i:Nat):Pr:=l.getD i default
def V8(l:List (Pr×X2))(i:Nat):X2:=(l.getD i ⟨default,⟨.ag,.ag,.ag,.ag,.ag⟩⟩).2
variable{i:Nat}
theorem a5H{l:List Ed}(h:i<l.length):V3 l i=l[i]:=by simp[V3,List.getD,h]
theorem a3x{l:List Vr}(h:i<l.length):bh l i=l[i]:=by simp[bh,List.getD,h]
theorem c6j{l:List Bool}(h:i<l.length):bAt l i=l[i]:=by simp[bAt,List.getD,h]
theorem b4G{l:List ByteArray}(h:i<l.length):sAt l i=l[i]:=by simp[sAt,List.getD,h]
variable{l:List Pr}
theorem a12(h:i<l.length):k7 l i=l[i]:=by simp[k7,List.getD,h]
theorem a1S(h:i<l.length):k7 l i∈l:=by grind[a12]
theorem a3U{l:List Ed}(h:i<l.length):V3 l i∈l:=by grind[a5H]
theorem a3S{l:List Ch}(h:i<l.length):U7 l i∈l:=by grind[a2W]
theorem a4C{l:List Vr}(h:i<l.length):bh l i∈l:=by grind[a3x]
theorem a7z{l:List Int}(h:i<l.length):X9 l i∈l:=by grind[a26]
theorem c8q{l:List Nat}(h:i<l.length):W2 l i∈l:=by grind[a4e]
theorem a8O{l:List (List Int)}(h:i<l.length):U8 l i∈l:=by grind[a3X]
theorem ix_i{l:List Int}(h:FI d l)(hi:i<l.length):W7 1 d (.int k (i:Int))=some (.fp [.int .i64 (X9 l i)] 0):=by rw[FI.idx h hi,a26 hi]
theorem ix_n{l:List Nat}(h:FL 1 d (a0i l))(hi:i<l.length):W7 1 d (.int k (i:Int))=some (.fp [.int .i64 (W2 l i:Int)] 0):=by rw[FLN.idx h hi,a4e hi]
theorem ix_s{l:List ByteArray}(h:FL 1 d (a1M l))(hi:i<l.length):W7 1 d (.int k (i:Int))=some (.fp [.str (sAt l i)] 0):=by rw[FLS.idx h hi,b4G hi]
theorem ix_b{l:List Bool}(h:FL 1 d (a0o l))(hi:i<l.length):W7 1 d (.int k (i:Int))=some (.fp [.bool (bAt l i)] 0):=by rw[FLB.idx h hi,c6j hi]
theorem a6B{l:List Ed}(h:FL 8 d (a0O l))(hi:i<l.length):W7 8 d (.int k (i:Int))=some (.fp [.int .i64 ((V3 l i).aq:Int),.int .i64 ((V3 l i).to:Int),.int .i64 ((V3 l i).act:Int),.int .i64 (V3 l i).expr,.int .i64 (V3 l i).var,.int .i64 (V3 l i).chan,.bool (V3 l i).aG,.int .i64 ((V3 l i).node:Int)] 0):=by rw[FLE.idx h hi,a5H hi];rfl
theorem ix_c{l:List Ch}(h:FL 5 d (a2Q l))(hi:i<l.length):W7 5 d (.int k (i:Int))=some (.fp [.str (U7 l i).name,.int .i64 (U7 l i).room,.int .i64 (U7 l i).width,.bool (U7 l i).bC,.bool (U7 l i).aS] 0):=by rw[FLC.idx h hi,a2W hi];rfl
theorem ix_v{l:List Vr}(h:FL 3 d (a18 l))(hi:i<l.length):W7 3 d (.int k (i:Int))=some (.fp [.str (bh l i).name,.int .i64 (bh l i).width,.int .i64 (bh l i).value] 0):=by rw[FLV.idx h hi,a3x hi];rfl
variable{t:List Nd}
theorem ix_t(h:Z0 d t)(hi:i<t.length):W7 5 d (.int k (i:Int))=some (.fp [.int .i64 (nd t i).kind,(nd t i).dw,(nd t i).dn,(nd t i).dk,.int .i64 (nd t i).pos] 0):=by
 have:=h.at (z:=(i:Int)) oJ oJ (k:=k);assumption
theorem ln_i{l:List Int}(h:FI d l):a0x false d=some (.int .i64 (l.length:Int)):=FI.len h
theorem ln_n{l:List Nat}(h:FL 1 d (a0i l)):a0x false d=some (.int .i64 (l.length:Int)):=by rw[h.len,a63]
theorem ln_s{l:List ByteArray}(h:FL 1 d (a1M l)):a0x false d=some (.int .i64 (l.length:Int)):=by rw[h.len,b5I]
theorem ln_e{l:List Ed}(h:FL 8 d (a0O l)):a0x false d=some (.int .i64 (l.length:Int)):=by rw[h.len,a6S]
theorem ln_c{l:List Ch}(h:FL 5 d (a2Q l)):a0x false d=some (.int .i64 (l.length:Int)):=by rw[h.len,b0x]
theorem ln_v{l:List Vr}(h:FL 3 d (a18 l)):a0x false d=some (.int .i64 (l.length:Int)):=by rw[h.len,b5G]
theorem on_1(h:FL 1 d rows):V5 d=true:=h.one
variable{l:List Int}
theorem on_i(h:FI d l):V5 d=true:=FL.one h
theorem pz_i(h:FI d l):PZ d:=FL.pz h
variable{m:X7}{mo:Mo}{ps:List (Pr×X2)}
theorem a47(h:Z4 m mo ps)(hi:i<mo.procs.length):gH (k7 mo.procs i) (V8 ps i):=by
 have jF:i<ps.length:=by rw[h.plen];exact hi
 have e:k7 mo.procs i=ps[i].1:=by rw[a12 hi];simp[<- h.eq]
 have e2:V8 ps i=ps[i].2:=by grind[V8]
 rw[e,e2];exact h.aF _ (Fp jF)
theorem ix_p(h:Z4 m mo ps)(hi:i<mo.procs.length):W7 8 m.dp (.int k (i:Int))=some (.fp [.str (k7 mo.procs i).name,.int .i64 ((k7 mo.procs i).copy:Int),(V8 ps i).dl,.int .i64 ((k7 mo.procs i).ah:Int),(V8 ps i).dr,(V8 ps i).de,(V8 ps i).dn,(V8 ps i).dv] 0):=by
 have jF:i<ps.length:=by rw[h.plen];exact hi
 have e:k7 mo.procs i=ps[i].1:=by rw[a12 hi];simp[<- h.eq]
 have e2:V8 ps i=ps[i].2:=by grind[V8]
 rw[h.p.idx (sU jF),e,e2];simp[a3J,V0]
theorem ln_p(h:Z4 m mo ps):a0x false m.dp=some (.int .i64 (mo.procs.length:Int)):=h.eY
theorem pr_ol(h:Z4 m mo ps)(hi:i<mo.procs.length):V5 (V8 ps i).dl=true:=(a47 h hi).l.one
theorem pr_or(h:Z4 m mo ps)(hi:i<mo.procs.length):V5 (V8 ps i).dr=true:=(a47 h hi).r.one
theorem pr_oe(h:Z4 m mo ps)(hi:i<mo.procs.length):V5 (V8 ps i).de=true:=(a47 h hi).e.one
theorem pr_on'(h:Z4 m mo ps)(hi:i<mo.procs.length):V5 (V8 ps i).dn=true:=(a47 h hi).n.one
theorem pr_ov(h:Z4 m mo ps)(hi:i<mo.procs.length):V5 (V8 ps i).dv=true:=(a47 h hi).v.one
theorem pr_ll(h:Z4 m mo ps)(hi:i<mo.procs.length):a0x false (V8 ps i).dl=some (.int .i64 ((k7 mo.procs i).locals.length:Int)):=(a47 h hi).lenL
theorem c0m(h:Z4 m mo ps)(hi:i<mo.procs.length):a0x false (V8 ps i).de=some (.int .i64 ((k7 mo.procs i).ai.length:Int)):=(a47 h hi).lenE
variable{j:Nat}
theorem pr_ix(h:Z4 m mo ps)(hi:i<mo.procs.length)(hj:j<(k7 mo.procs i).ai.length):W7 8 (V8 ps i).de (.int k (j:Int))=some (.fp [.int .i64 ((V3 (k7 mo.procs i).ai j).aq:Int),.int .i64 ((V3 (k7 mo.procs i).ai j).to:Int),.int .i64 ((V3 (k7 mo.procs i).ai j).act:Int),.int .i64 (V3 (k7 mo.procs i).ai j).expr,.int .i64 (V3 (k7 mo.procs i).ai j).var,.int .i64 (V3 (k7 mo.procs i).ai j).chan,.bool (V3 (k7 mo.procs i).ai j).aG,.int .i64 ((V3 (k7 mo.procs i).ai j).node:Int)] 0):=a6B (a47 h hi).e hj
theorem pr_il(h:Z4 m mo ps)(hi:i<mo.procs.length)(hj:j<(k7 mo.procs i).locals.length):W7 1 (V8 ps i).dl (.int k (j:Int))=some (.fp [.int .i64 (W2 (k7 mo.procs i).locals j:Int)] 0):=ix_n (a47 h hi).l hj
theorem a3R(h:Z4 m mo ps):PZ (.agg [m.dt,.int .i64 m.g,m.dc,m.dv,m.dp,m.ds,.bool m.b]):=a7R λd hd=>by
 simp only[Fi,FW,Hg]at hd;rcases hd with rfl|rfl|rfl|rfl|rfl|rfl|rfl
 .exact⟨FL.pure h.tr.fl,FL.ic h.tr.fl⟩
 .exact⟨rfl,λ_ _=>rfl⟩
 .exact⟨h.c.pure,FL.ic h.c⟩
 .exact⟨h.v.pure,FL.ic h.v⟩
 .exact⟨h.p.pure,FL.ic h.p⟩
 .exact⟨h.sf.pure,FL.ic h.sf⟩
 .exact⟨rfl,λ_ _=>rfl⟩
theorem b6p{e:Ed}:PZ (.agg [.int .i64 (e.aq:Int),.int .i64 (e.to:Int),.int .i64 (e.act:Int),.int .i64 e.expr,.int .i64 e.var,.int .i64 e.chan,.bool e.aG,.int .i64 (e.node:Int)]):=a7R λd hd=>by
 simp only[Fi,FW,Hg]at hd;rcases hd with rfl|rfl|rfl|rfl|rfl|rfl|rfl|rfl<;>exact⟨rfl,λ_ _=>rfl⟩
theorem pz_mv{a b c d:Int}:PZ (.agg [.int .i64 a,.int .i64 b,.int .i64 c,.int .i64 d]):=a7R λd hd=>by
 simp only[Fi,FW,Hg]at hd;rcases hd with rfl|rfl|rfl|rfl<;>exact⟨rfl,λ_ _=>rfl⟩
variable{x:bH}
theorem a6n{st:U6}(h:eR x st):PZ (.agg [x.da,x.dv,x.dc,.int .i64 st.hold]):=a7R λd hd=>by
 obtain⟨ds,h1,_⟩:=h.c;simp only[Fi,FW,Hg]at hd;rcases hd with rfl|rfl|rfl|rfl
 .exact⟨h.a.pure,FL.ic h.a⟩
 .exact⟨FL.pure h.v,FL.ic h.v⟩
 .exact⟨h1.pure,FL.ic h1⟩
 .exact⟨rfl,λ_ _=>rfl⟩
def chX:D->Nat->D
 |.bu _ xs,i=>(xs.getD i []).getD 0 .ag
 |_,_=>.ag
theorem b7h{st:U6}(h:eR x st)(hi:i<st.ae.length):FI (chX x.dc i) (U8 st.ae i)/\W7 1 x.dc (.int k (i:Int))=some (.fp [chX x.dc i] 0):=by
 obtain⟨ds,h1,h2,h3⟩:=h.c;have jF:i<ds.length:=oJ;have e:chX x.dc i=ds[i]:=by
  rcases h1 with⟨_,e⟩|e
  .simp at e;subst e;simp at jF
  .grind[chX]
 rw[e,a3X hi];refine⟨h3 i jF hi,?_⟩;rw[h1.idx (sU jF)];simp
theorem b0e{st:U6}(h:eR x st)(hi:i<st.ae.length):FI (chX x.dc i) (U8 st.ae i):=(b7h (k:=.i64) h hi).1
theorem st_ci{st:U6}(h:eR x st)(hi:i<st.ae.length):W7 1 x.dc (.int k (i:Int))=some (.fp [chX x.dc i] 0):=(b7h h hi).2
theorem st_co{st:U6}(h:eR x st)(hi:i<st.ae.length):V5 (chX x.dc i)=true:=FL.one (b0e h hi)
theorem st_cl{st:U6}(h:eR x st)(hi:i<st.ae.length):a0x false (chX x.dc i)=some (.int .i64 ((U8 st.ae i).length:Int)):=FI.len (b0e h hi)
theorem st_cx{st:U6}(h:eR x st)(hi:i<st.ae.length)(hj:j<(U8 st.ae i).length):W7 1 (chX x.dc i) (.int k (j:Int))=some (.fp [.int .i64 (X9 (U8 st.ae i) j)] 0):=ix_i (b0e h hi) hj
theorem b7t{st:U6}(h:eR x st):a0x false x.dc=some (.int .i64 (st.ae.length:Int)):=by
 obtain⟨ds,h1,h2,_⟩:=h.c;rw[h1.len,FT,h2]
theorem c2x:(n:Int)+1=((n+1:Nat):Int):=oJ
theorem lt_nat{a b:Nat}:((a:Int)<(b:Int))=(a<b):=sJ
theorem le_nat{a b:Nat}:((a:Int)<=(b:Int))=(a<=b):=sJ
theorem nc_0:((0:Nat):Int)=0:=rfl
theorem nc_1:((1:Nat):Int)=1:=rfl
theorem nc_2:((2:Nat):Int)=2:=rfl
theorem nc_3:((3:Nat):Int)=3:=rfl
theorem nc_4:((4:Nat):Int)=4:=rfl
theorem nc_5:((5:Nat):Int)=5:=rfl
theorem nc_6:((6:Nat):Int)=6:=rfl
theorem nc_7:((7:Nat):Int)=7:=rfl
theorem nc_8:((8:Nat):Int)=8:=rfl
theorem nc_9:((9:Nat):Int)=9:=rfl
theorem nc_10:((10:Nat):Int)=10:=rfl
theorem nc_11:((11:Nat):Int)=11:=rfl
theorem nc_12:((12:Nat):Int)=12:=rfl
theorem nc_13:((13:Nat):Int)=13:=rfl
theorem nc_14:((14:Nat):Int)=14:=rfl
theorem nc_15:((15:Nat):Int)=15:=rfl
theorem nc_16:((16:Nat):Int)=16:=rfl
theorem b8a{a b:Int}:(a==b)=decide (a=b):=by grind
theorem c4k{a b:Int}:(a != b)=!decide (a=b):=by rw[bne,b8a]
theorem eq_nat{a b:Nat}:((a:Int)=(b:Int))=(a=b):=by grind
theorem c7d{a:Nat}:((0:Int)<(a:Int))=(0<a):=sJ
theorem nat_nn{a:Nat}:((0:Int)<=(a:Int))=True:=FR oJ
theorem nat_ng{a:Nat}:((a:Int)<0)=False:=FH oJ
attribute [go_sem] nc_0 nc_1 nc_2 nc_3 nc_4 nc_5 nc_6 nc_7 nc_8 nc_9 nc_10 nc_11 nc_12 nc_13 nc_14 nc_15 nc_16 b8a c4k eq_nat c7d nat_nn nat_ng ix_i ix_n ix_s ix_b a6B ix_c ix_v ix_t ln_i ln_n ln_s ln_e ln_c ln_v on_1 on_i ix_p ln_p pr_ol pr_or pr_oe pr_on' pr_ov pr_ll c0m pr_ix pr_il st_ci st_co st_cl st_cx b7t c2x lt_nat le_nat
variable{p:Pr}
theorem c2Y{st:U6}(hj:j<p.ai.length)(h:mo.can st i p (V3 p.ai j)=true):mo.cL st i p=true:=by
 grind[Mo.cL,a3U]
theorem c27{st:U6}(h:∀j,j<p.ai.length->mo.can st i p (V3 p.ai j)=false):mo.cL st i p=false:=by
 unfold Mo.cL;rw[Jq];intro e he;obtain⟨j,hj,rfl⟩:=FQ he;grind[a5H]
variable{p:Prop}
theorem a4d[Decidable p]:(decide p=true)=p:=sJ
theorem a4a[Decidable p]:(decide p=false)=¬p:=sJ
theorem a4i:((!b)=true)=(b=false):=sJ
theorem a37:((!b)=false)=(b=true):=sJ
theorem bm_app{t rest env K s d sz bytes rows row A B E R}(h:Rp d sz rows E)(hp:Hp s (A++E++B) R)(hr:row.length=sz)(nH:∀r∈rows,r.length=sz)(hb:bytes<=1000)(hl:rows.length<=1000000000)
 (k:∀d' s' E',Rp d' sz (rows++[row]) E'->Hp s' (A++E'++B) R->s.next<=s'.next->XQ fs [] rest ((t,d')::env) s' K):BM (a0e sz bytes d (.arr s.next 0 1 sz) (s.push (.cells row))) fs t rest env K:=by
 obtain⟨d',s',h1,E',h2,h3,h4⟩:=h.app (hp.push (.cells row)) (W8 rfl) hr nH hb hl;rw[h1];exact k d' s' E' h2 h3 (by grind[k4.aj])
theorem a7y{sz:Nat}{rows:List (List D)}{E W R:Hs}(h:Rp d sz rows E)(hp:Hp s W R)(he:∀e∈E,e∈W)(hr:∀r∈rows,r.length=sz)(hs:∀r∈rows,r.all a2i=true):∃d',aK s.get 20 d=some d'/\FL sz d' rows :=
 (h.sn λe hm=>hp.w e (he e hm)).dK (n:=18) hr hs
theorem a9z(l:List Mv):∀r∈a00 l,r.length=4:=by intro r h;obtain⟨b,_,rfl⟩:=Fs.1 h;rfl
theorem a8P(l:List Mv):∀r∈a00 l,r.all a2i=true:=by intro r h;obtain⟨b,_,rfl⟩:=Fs.1 h;rfl
@[simp] theorem c5j(l:List Mv):(a00 l).length=l.length:=by simp[a00]
theorem c7l{α:Type}{f:α->List D}{t rest env K s d sz bytes row E R}{l:List α}(v:α)(hv:f v=row)(h:Rp d sz (l.map f) E)(hp:Hp s E R)(hf:∀v,(f v).length=sz)(hb:bytes<=1000)(hl:l.length<=1000000000)
 (k:∀d' s' E',Rp d' sz ((l++[v]).map f) E'->Hp s' E' R->XQ fs [] rest ((t,d')::env) s' K):BM (a0e sz bytes d (.arr s.next 0 1 sz) (s.push (.cells row))) fs t rest env K:=by
 subst hv;refine bm_app (A:=[]) (B:=[]) h (sU hp) (hf v) (λr hr=>?_) hb (sU hl) λd' s' E' h1 h2 _=>k d' s' E' (sU h1) (sU h2)
 grind
variable{l:List Mv}
theorem a3p{t rest env K s d bytes row E R}(v:Mv)(hv:v.row=row)(h:Rp d 4 (a00 l) E)(hp:Hp s E R)(hb:bytes<=1000)(hl:l.length<=1000000000)
 (k:∀d' s' E',Rp d' 4 (a00 (l++[v])) E'->Hp s' E' R->XQ fs [] rest ((t,d')::env) s' K):BM (a0e 4 bytes d (.arr s.next 0 1 4) (s.push (.cells row))) fs t rest env K:=c7l (f:=Mv.row) v hv h hp (λ_=>rfl) hb hl k
def X3(l:List Mv)(i:Nat):Mv:=l.getD i default
theorem a7l(h:i<l.length):X3 l i=l[i]:=by simp[X3,List.getD,h]
theorem a71(h:i<l.length):X3 l i∈l:=by grind[a7l]
theorem b0N(h:FL 4 d (a00 l))(hi:i<l.length):W7 4 d (.int k (i:Int))=some (.fp [.int .i64 ((X3 l i).kind:Int),.int .i64 ((X3 l i).proc:Int),.int .i64 ((X3 l i).bb:Int),.int .i64 ((X3 l i).chan:Int)] 0):=by
 rw[h.idx (sU hi),a7l hi];simp[a00,Mv.row]
theorem ln_m(h:FL 4 d (a00 l)):a0x false d=some (.int .i64 (l.length:Int)):=by rw[h.len,c5j]
variable{E:Hs}
theorem rp_one{sz:Nat}(h:Rp d sz rows E):V5 d=true:=h.one
attribute [go_sem] b0N ln_m rp_one
def Mo.hU(mo:Mo)(st:U6)(i j:Nat):List Mv:=((List.range j).filter λj=>mo.can st i (k7 mo.procs i) (V3 (k7 mo.procs i).ai j)).map λj=>⟨0,i,j,0⟩
theorem Mo.fO{st:U6}:mo.hU st i (j+1)=mo.hU st i j++if mo.can st i (k7 mo.procs i) (V3 (k7 mo.procs i).ai j)then[⟨0,i,j,0⟩]else[]:=by
 grind[Mo.hU,List.range_succ]
theorem Mo.cD{st:U6}:mo.cX st i=if 0<=st.hold/\st.hold≠(i:Int)then[]else mo.hU st i (k7 mo.procs i).ai.length:=rfl
def Mo.iI(mo:Mo)(st:U6)(i:Nat):List Mv:=(List.range i).flatMap (mo.cX st)
def Mo.mvC(mo:Mo)(st:U6)(i:Nat):List Mv:=(List.range i).flatMap (mo.bE st)
theorem Mo.eJ{st:U6}:mo.iI st (i+1)=mo.iI st i++mo.cX st i:=by simp[Mo.iI,Gv]
theorem Mo.fP{st:U6}:mo.mvC st (i+1)=mo.mvC st i++mo.bE st i:=by simp[Mo.mvC,Gv]
theorem Mo.dL{st:U6}:mo.aA st=mo.iI st mo.procs.length++if st.hold<0 then mo.mvC st mo.ae.length else[]:=rfl
theorem Mo.ie{st:U6}:(mo.hU st i j).length<=j:=by
 grind[Mo.hU]
theorem Mo.gI(ho:Z3 mo){st:U6}(hi:i<mo.procs.length):(mo.cX st i).length<=4000:=by
 rw[Mo.cD];split
 .simp
 .exact FE Mo.ie (ho.pr _ (a1S hi)).el
theorem Mo.eA{mo:Mo}(ho:Z3 mo){st:U6}:∀{i:Nat},i<=mo.procs.length->(mo.iI st i).length<=4000*i
 |0,_=>by simp[Mo.iI]
 |i+1,hi=>by
  rw[Mo.eJ,Fq];have h1:=Mo.eA ho (st:=st) (i:=i) oJ;grind[Mo.gI]
theorem Mo.gJ{st:U6}:(mo.bE st i).length<=2:=by
 grind[Mo.bE]
theorem Mo.fE{mo:Mo}{st:U6}:∀{i:Nat},(mo.mvC st i).length<=2*i
 |0=>by simp[Mo.mvC]
 |i+1=>by
  rw[Mo.fP,Fq];have h1:=Mo.fE (mo:=mo) (st:=st) (i:=i);grind[Mo.gJ]
theorem Fr.thenS{a b c:k4}(h:Fr [] a b)(hl:b.next<=c.next)(u:∀j,j<b.next->c.get j=b.get j):Fr [] a c :=
 ⟨FE h.1 hl,λj hj hn=>by rw[u j (Gq hj h.1),h.2 j hj hn]⟩
variable{id:Nat}{cs:List D}{W R:Hs}
theorem Hp.hd(h:Hp s ((id,cs)::W) R):s.get id=some (.cells cs):=h.w (id,cs) sJ
variable{w:Nat×List D}
theorem Hp.tl(h:Hp s (w::W) R):Hp s W R:=h.sub (IC _ _) λ_ h=>h
theorem Hp.rh(h:Hp s W ((id,cs)::R)):s.get id=some (.cells cs):=h.r (id,cs) sJ
theorem Hp.rt(h:Hp s W (w::R)):Hp s W R:=h.sub (Ib _) λ_ h=>by simp[h]
def a0w(l:List Int):List D:=l.map λn=>.int .i64 n
def a1o(l:List Int):List (List D):=l.map λn=>[.int .i64 n]
@[simp] theorem b5S(l:List Int):(a0w l).length=l.length:=by simp[a0w]
@[simp] theorem a8X(l:List Int):(a1o l).length=l.length:=by simp[a1o]
theorem a8v(l:List Int):(a1o l).flatten=a0w l:=by induction l with
 |nil=>rfl
 |cons a l ih=>grind[a1o,a0w]
theorem a68(l:List Nat):(a0i l).flatten=a1f l:=by induction l with
 |nil=>rfl
 |cons a l ih=>grind[a0i,a1f]
theorem a8y(l:List Int):∀r∈a1o l,r.length=1:=by intro r h;obtain⟨b,_,rfl⟩:=Fs.1 h;rfl
theorem c75(l:List Int):∀r∈a1o l,r.all a2i=true:=by intro r h;obtain⟨b,_,rfl⟩:=Fs.1 h;rfl
theorem c1N(h:FL 1 d rows):a1u g d=some rows.flatten/\a3z d=some rows.length/\a1V 1 d=true:=by
 rcases h with⟨rfl,rfl⟩|rfl<;>exact⟨rfl,rfl,rfl⟩
variable{x:Nat}
theorem Hp.dh{E:Hs}(h:∀e∈E,e.1≠x):a1K x (E.map Prod.fst):=by
 induction E with
 |nil=>trivial
 |cons a E ih=>exact⟨λe=>h a sJ e.symm,ih λe he=>h e (by simp[he])⟩
theorem Hp.ltW(h:Hp s W R)(hw:w∈W):w.1<s.next:=t3 (h.w w hw)
theorem Hp.ltR(h:Hp s W R)(hw:w∈R):w.1<s.next:=t3 (h.r w hw)
theorem b6B{af T i t rest env K s d bytes rows W R}(hd:FL 1 d rows)(hr:∀r∈rows,r.length=1)(hp:Hp s W R)(hb:bytes<=1000)(hl:rows.length<=1000000000)(he:a2b af i [s.next,s.next+1] T)
 (k:∀id s',Hp s' ((id,rows.flatten)::W) R->s.next<s'.next->s.next<=id->(∀j,j<s.next->s'.get j=s.get j)->XX fs af (⟨i,none,[s.next,s.next+1]⟩::T) rest ((t,.arr id 0 rows.length 1)::env) s' K):MX (.arr s.next 0 0 1) d 1 bytes i fs af T t rest env (s.push (.cells [])) K:=by
 obtain⟨r1,r2,r3⟩:=c1N hd (g:=(s.push (.cells [])).get);have b3:bytes<=2^20:=FE hb dJ;have hg:(s.push (.cells [])).get s.next=some (.cells []):=W8 rfl;by_cases h0:rows.length=0
 .have e:=Ge.1 h0
  subst e;refine⟨.arr s.next 0 0 1,s.push (.cells []),[s.next,s.next+1],?_,sm _,λ_ _=>rfl,he,?_⟩
  .simp_all[a0e]
  .exact k s.next _ (hp.dF []) sJ (sm _) λj hj=>by rw[a0k hj]
 .have hf:=a8u hr
  have b1:(0+rows.length)*bytes<=2^45:=FE (GI (show 0+rows.length<=1000000000 by omega) hb) dJ;have b2:0+rows.length<=2^45:=oJ;refine⟨.arr (s.next+1) 0 rows.length 1,((s.push (.cells [])).set s.next none).push (.cells rows.flatten),[s.next,s.next+1],?_,sJ,λj hj=>?_,he,?_⟩
  .simp_all[a0e]
  .simp_all[k4.aO,Y8]
  .refine k (s.next+1) _ ?_ qJ oJ λj hj=>?_
   .have h1:=(hp.dF []).kill (A:=[]) (B:=W) (cs:=[]) (id:=s.next)
    have h2:=h1.dF rows.flatten;simpa using h2
   .rw[a0k qJ,Y8 oJ,a0k hj]
theorem Rp.exp{sz bytes idt:Nat}{rows:List (List D)}{row:List D}{E:Hs}(h:Rp d sz rows E)(he:Y2 s E)(ht:s.get idt=some (.cells row))(hr:row.length=sz)(nH:∀r∈rows,r.length=sz)(hb:bytes<=1000)(hl:rows.length<=1000000000) :
 ∃s',a0e sz bytes d (.arr idt 0 1 sz) s=some (.arr s.next 0 (rows.length+1) sz,s')/\s'.next=s.next+1/\s'.get s.next=some (.cells (rows.flatten++row))/\∀id,id≠s.next->(∀e∈E,e.1≠id)->s'.get id=s.get id:=by
 have b3:bytes<=2^20:=FE hb dJ;have r1:a1u s.get (.arr idt 0 1 sz)=some row:=by simp_all[a1u,Gk]
 have r2:a3z (.arr idt 0 1 sz)=some 1:=rfl;have r3:a1V sz (.arr idt 0 1 sz)=true:=by simp[a1V]
 rcases h with⟨rfl,rfl,rfl⟩|⟨id,rfl,rfl,jt⟩
 .refine⟨s.push (.cells row),?_,sJ,by rw[W8 rfl];simp,λj hj _=>by rw[k4.aO,so hj]⟩
  unfold a0e;grind
 .have hf:=a8u nH
  have hg:s.get id=some (.cells rows.flatten):=he (id,rows.flatten) sJ;have b1:(rows.length+1)*bytes<=2^45:=FE (GI (show rows.length+1<=1000000001 by omega) hb) dJ;have b2:rows.length+1<=2^45:=oJ;refine⟨(s.set id none).push (.cells (rows.flatten++row)),?_,sJ,W8 sJ,λj hj hn=>?_⟩
  .simp_all[a0e]
  .have:id≠j:=hn (id,rows.flatten) sJ
   rw[k4.aO,so (sU hj),Y8 this.symm]
theorem Rp.app2{sz bytes:Nat}{rows:List (List D)}{row:List D}{A B E R:Hs}(h:Rp d sz rows E)(hp:Hp s (A++E++B) R)(hr:row.length=sz)(nH:∀r∈rows,r.length=sz)(hb:bytes<=1000)(hl:rows.length<=1000000000) :
 ∃s',a0e sz bytes d (.arr s.next 0 1 sz) (s.push (.cells row))=some (.arr (s.next+1) 0 (rows.length+1) sz,s')/\Rp (.arr (s.next+1) 0 (rows.length+1) sz) sz (rows++[row]) [(s.next+1,(rows++[row]).flatten)]/\Hp s' (A++(s.next+1,(rows++[row]).flatten)::B) R/\s'.next=s.next+2/\(∀j,j<s.next->(∀e∈E,e.1≠j)->s'.get j=s.get j)/\∀j,j∉(s.next+1)::E.map Prod.fst->(s.push (.cells row)).get j=s'.get j:=by
 have jT:=hp.push (.cells row);have heE:Y2 (s.push (.cells row)) E:=λx hx=>jT.w x (by simp[hx])
 obtain⟨s',h1,h2,h3,h4⟩:=h.exp heE (W8 rfl) hr nH hb hl;rw[k4.aj]at h1 h2 h3 h4;refine⟨s',h1,.inr ⟨s.next+1,sJ,sJ,sJ⟩,?_,h2,λj hj hn=>?_,λj hj=>?_⟩
 .have hn:=jT.nd
  have hE:∀w∈A++B,∀e∈E,e.1≠w.1:=by
   intro w hw e mF hc;rw[Fj,FK,FK,GP,GP]at hn;obtain⟨_,⟨_,_,n2⟩,n3⟩:=hn;rcases Fm.1 hw with hw|hw
   .exact n3 w.1 (Gy hw) e.1 (HP _ (Gy mF)) hc.symm
   .exact n2 e.1 (Gy mF) w.1 (Gy hw) hc
  have jo:Hp (s.push (.cells row)) (A++B) R:=jT.sub (by
   rw[Fj];exact Kr (Ib _) (Jl _ _)) λx h=>h
  have key:∀w∈A++B,s'.get w.1=some (.cells w.2):=λw hw=>by
   have hl:=hp.ltW (w:=w) (by rcases Fm.1 hw with h|h<;>simp[h]);rw[h4 w.1 oJ (hE w hw)];exact jo.w w hw
  refine Hp.perm (W:=(s.next+1,(rows++[row]).flatten)::(A++B)) ⟨?_,?_,?_,?_⟩ List.perm_middle
  .rw[FJ,Hf]
   refine⟨λhm=>?_,jo.nd⟩;obtain⟨w,hw,e⟩:=Fs.1 hm;have:=hp.ltW (w:=w) (by rcases Fm.1 hw with h|h<;>simp[h]);simp only at e;omega
  .intro w hw r kY
   rcases Fi.1 hw with rfl|hw
   .have:=hp.ltR kY
    simp only;omega
   .exact jo.ap w hw r kY
  .intro w hw
   rcases Fi.1 hw with rfl|hw
   .rw[h3];simp
   .exact key w hw
  .intro r kY
   have hl:=hp.ltR kY;rw[h4 r.1 oJ λe mF=>hp.ap e (by simp[mF]) r kY];exact jo.r r kY
 .rw[h4 j oJ hn,a0k hj]
 grind
theorem c0a{af T i t rest env K s d sz bytes rows row A B E R}(h:Rp d sz rows E)(hp:Hp s (A++E++B) R)(hr:row.length=sz)(nH:∀r∈rows,r.length=sz)(hb:bytes<=1000)(hl:rows.length<=1000000000)(he:a2b af i ((s.next+1)::E.map Prod.fst) T)
 (k:∀s',Rp (.arr (s.next+1) 0 (rows.length+1) sz) sz (rows++[row]) [(s.next+1,(rows++[row]).flatten)]->Hp s' (A++(s.next+1,(rows++[row]).flatten)::B) R->s'.next=s.next+2->(∀j,j<s.next->(∀e∈E,e.1≠j)->s'.get j=s.get j)->XX fs af (⟨i,none,(s.next+1)::E.map Prod.fst⟩::T) rest ((t,.arr (s.next+1) 0 (rows.length+1) sz)::env) s' K):MX d (.arr s.next 0 1 sz) sz bytes i fs af T t rest env (s.push (.cells row)) K:=by
 obtain⟨s',h1,h2,h3,h4,h5,h6⟩:=h.app2 hp hr nH hb hl;exact⟨_,s',(s.next+1)::E.map Prod.fst,h1,by simp_all,h6,he,k s' h2 h3 h4 h5⟩
theorem a9y{t rest env K s d sz bytes rows row A B E R}(h:Rp d sz rows E)(hp:Hp s (A++E++B) R)(hr:row.length=sz)(nH:∀r∈rows,r.length=sz)(hb:bytes<=1000)(hl:rows.length<=1000000000)
 (k:∀s',Rp (.arr (s.next+1) 0 (rows.length+1) sz) sz (rows++[row]) [(s.next+1,(rows++[row]).flatten)]->Hp s' (A++(s.next+1,(rows++[row]).flatten)::B) R->s'.next=s.next+2->(∀j,j<s.next->(∀e∈E,e.1≠j)->s'.get j=s.get j)->XQ fs [] rest ((t,.arr (s.next+1) 0 (rows.length+1) sz)::env) s' K):BM (a0e sz bytes d (.arr s.next 0 1 sz) (s.push (.cells row))) fs t rest env K:=by
 obtain⟨s',h1,h2,h3,h4,h5,_⟩:=h.app2 hp hr nH hb hl;rw[h1];exact k s' h2 h3 h4 h5
theorem b32{β:Type}{f:Nat->List Int->β}{q:Nat}:∀{ids:List Nat}{l:List (List Int)},ids.length<l.length->List.zipWith f (ids++[q]) l=List.zipWith f ids l++[f q (U8 l ids.length)]
 |[],[],h=>by simp at h
 |[],a::l,_=>by simp[U8]
 |i::ids,[],h=>by simp at h
 |i::ids,a::l,h=>by
  have ih:=b32 (f:=f) (q:=q) (ids:=ids) (l:=l) (sU h);simp only[Fx,ID,ih,Gt];rfl
def a24(ids:List Nat)(l:List (List Int)):List (List D):=List.zipWith (λid q=>[.arr id 0 q.length 1]) ids l
def a35(ids:List Nat)(l:List (List Int)):Hs:=List.zipWith (λid q=>(id,a0w q)) ids l
theorem c16:∀{ids:List Nat}{l:List (List Int)},∀r∈a24 ids l,r.length=1
 |[],_,r,h=>by simp[a24]at h
 |_::_,[],r,h=>by simp[a24]at h
 |i::ids,a::l,r,h=>by
  simp only[a24,ID,Fi]at h;rcases h with rfl|h
  .rfl
  .exact c16 (ids:=ids) (l:=l) r h
variable{l:List (List Int)}{ids:List Nat}
theorem b23(h:ids.length<=l.length):(a24 ids l).length=ids.length:=by simp[a24];omega
variable{q:Nat}
theorem c3g(h:ids.length<l.length):a24 (ids++[q]) l=a24 ids l++[[.arr q 0 (U8 l ids.length).length 1]]:=b32 h
theorem c64(h:ids.length<l.length):a35 (ids++[q]) l=a35 ids l++[(q,a0w (U8 l ids.length))]:=b32 h
def Mo.eu(mo:Mo)(st:U6)(e:Ed)(n:Int):U6 :=
 if e.act=1 then{ st with vars:=st.vars.set e.var.toNat (W3 n (bh mo.vars e.var.toNat).width.toNat) }
 else if e.act=2 then{ st with ae:=st.ae.set e.chan.toNat (U8 st.ae e.chan.toNat++[W3 n (U7 mo.ae e.chan.toNat).width.toNat]) }
 else if e.act=3 then{ st with vars:=st.vars.set e.var.toNat (W3 (X9 (U8 st.ae e.chan.toNat) 0) (bh mo.vars e.var.toNat).width.toNat),ae:=st.ae.set e.chan.toNat ((U8 st.ae e.chan.toNat).drop 1) }
 else st
def U6.go(st:U6)(i to:Nat):U6:={ st with aF:=st.aF.set i to }
def U6.free(st:U6):U6:={ st with hold:=-1 }
def Mo.bj(mo:Mo)(st:U6)(i:Nat)(p:Pr)(e:Ed):U6:=(mo.eu (st.go i e.to) e (mo.ex p st e 0).1).free
def Mo.doE(mo:Mo)(st:U6)(i:Nat)(p:Pr)(e:Ed):U6:={ mo.bj st i p e with hold:=if e.aG&&mo.cL (mo.bj st i p e) i p then(i:Int)else -1 }
def Mo.ee(mo:Mo)(st:U6)(v:Mv):U6 :=
 if v.kind=1 then{ st with ae:=st.ae.set v.chan ((U8 st.ae v.chan).drop 1) }
 else if v.kind=2 then{ st with ae:=st.ae.set v.chan (U8 st.ae v.chan++[X9 (U8 st.ae v.chan) 0]) }
 else mo.doE st v.proc (k7 mo.procs v.proc) (V3 (k7 mo.procs v.proc).ai v.bb)
def Mo.mvOk(mo:Mo)(st:U6)(v:Mv):Prop :=
 (v.kind=0/\v.proc<mo.procs.length/\v.bb<(k7 mo.procs v.proc).ai.length/\mo.can st v.proc (k7 mo.procs v.proc) (V3 (k7 mo.procs v.proc).ai v.bb)=true) \/
 (v.kind=1/\v.chan<mo.ae.length/\0<(U8 st.ae v.chan).length) \/
 (v.kind=2/\v.chan<mo.ae.length/\0<(U8 st.ae v.chan).length/\((U8 st.ae v.chan).length:Int)<(U7 mo.ae v.chan).room)
def eU(s:k4)(q:D)(l:List Int):Prop:=(q=.ag/\l=[])\/q=.bu 1 (a1o l)\/∃id off cs,q=.arr id off l.length 1/\s.get id=some (.cells cs)/\off+l.length<=cs.length/\(cs.drop off).take l.length=a0w l
theorem c6v(l:List Int):(a0w l).all a2i=true:=by simp[a0w,a2i]
variable{l:List Int}{q:D}
theorem eU.one(h:eU s q l):V5 q=true:=by
 rcases h with⟨rfl,_⟩|rfl|⟨id,off,cs,rfl,_⟩<;>rfl
theorem eU.dI(h:eU s q l)(n:Nat):∃q',aK s.get (n+2) q=some q'/\FI q' l:=by
 rcases h with⟨rfl,rfl⟩|rfl|⟨id,off,cs,rfl,h1,h2,h3⟩
 .exact⟨_,rfl,.inl ⟨rfl,rfl⟩⟩
 .exact⟨_,rfl,.inr rfl⟩
 .refine⟨.bu 1 (a1o l),?_,.inr rfl⟩
  have e1:a1u s.get (.arr id off l.length 1)=some (a0w l):=by
   simp only[a1u,h1,HM,h3];rw[Fk h2]
  have e2:X8 (aK s.get (n+1)) (a0w l)=some (a0w l):=b18 (c6v l);simp only[aK,e1,e2,He];have e3:=b55 (a0w l);simp_all[a0w,a1o]
def iD(l:List D)(i:Nat):D:=l.getD i .undef
variable{l:List D}
theorem b0W(h:i<l.length):iD l i=l[i]:=by simp[iD,List.getD,h]
def a4t(s:k4)(cs:List D)(st:U6):Prop:=∃dA dV dC qs,cs=[dA,dV,dC,.int .i64 st.hold]/\SN s 1 dA (a0i st.aF)/\SN s 1 dV (a1o st.vars)/\SN s 1 dC (qs.map λq=>[q])/\(qs=[]\/∃id,dC=.arr id 0 qs.length 1)/\qs.length=st.ae.length/\∀j(h:j<qs.length)(h':j<st.ae.length),eU s qs[j] st.ae[j]
theorem a4t.mk{dA dV dC:D}{st:U6}(qs:List D)(hA:SN s 1 dA (a0i st.aF))(hV:SN s 1 dV (a1o st.vars))(hC:SN s 1 dC (qs.map λq=>[q]))(hn:qs=[]\/∃id,dC=.arr id 0 qs.length 1)(hl:qs.length=st.ae.length)(hq:∀j,j<qs.length->eU s (iD qs j) (U8 st.ae j)):a4t s [dA,dV,dC,.int .i64 st.hold] st :=
 ⟨dA,dV,dC,qs,rfl,hA,hV,hC,hn,hl,λj h h'=>by
  grind[b0W,a3X]⟩
theorem c0L{s:k4}(n:Nat):∀{qs:List D}{l:List (List Int)},qs.length=l.length->(∀j(h:j<qs.length)(h':j<l.length),eU s qs[j] l[j])->∃ds:List D,a4r (aK s.get (n+2)) (qs.map λq=>[q])=some (ds.map λd=>[d])/\ds.length=l.length/\∀i(h:i<ds.length)(h':i<l.length),FI ds[i] l[i]
 |[],[],_,_=>⟨[],rfl,rfl,λi h=>by simp at h⟩
 |[],_::_,h,_=>by simp at h
 |_::_,[],h,_=>by simp at h
 |q::qs,a::l,h,hr=>by
  obtain⟨ds,h1,h2,h3⟩:=c0L n (qs:=qs) (l:=l) (sU h) λj hj hj'=>hr (j+1) qJ qJ
  obtain⟨d,h4,h5⟩:=(hr 0 sJ sJ).dI n;refine⟨d::ds,?_,by simp[h2],λi hi jF=>?_⟩
  .have h4:aK s.get (n+2) q=some d:=h4
   simp only[FJ,a4r,X8,h4,h1]
  grind
theorem a4t.dI{s:k4}{cs:List D}{st:U6}(h:a4t s cs st):∃x,aK s.get 20 (.agg cs)=some (.agg [x.da,x.dv,x.dc,.int .i64 st.hold])/\eR x st:=by
 obtain⟨dA,dV,dC,qs,rfl,hA,hV,hC,hn,hl,hq⟩:=h;obtain⟨da,a1,b1⟩:=hA.dK (n:=17) (a4M _) (b1Q _);obtain⟨dv,a2,b2⟩:=hV.dK (n:=17) (a8y _) (c75 _);obtain⟨ds,h1,h2,h3⟩:=c0L 16 hl hq;obtain⟨dc,a3,b3⟩:=hC.dI (n:=18) (λr hr=>by obtain⟨x,_,rfl⟩:=Fs.1 hr;rfl) h1 (λe=>by
  rcases hn with rfl|⟨id,jb⟩
  .have:=Ge.1 (by rw[h2,<- hl];rfl)
   rw[this]
  .rw[jb]at e;cases e)
 refine⟨⟨da,dv,dc⟩,?_,⟨b1,b2,ds,b3,h2,h3⟩⟩;have e1:aK s.get 19 (.int .i64 st.hold)=some (.int .i64 st.hold):=rfl;simp_all[aK,X8]
def OutM(s:k4)(n:Nat)(r:D)(st:U6):Prop:=∃a v dC ids EC,r=.agg [.arr a 0 st.aF.length 1,.arr v 0 st.vars.length 1,dC,.int .i64 st.hold]/\ids.length=st.ae.length/\Rp dC 1 (a24 ids st.ae) EC/\Hp s ((a,a1f st.aF)::(v,a0w st.vars)::(EC++a35 ids st.ae)) []/\∀w∈(a,a1f st.aF)::(v,a0w st.vars)::(EC++a35 ids st.ae),n<=w.1
def fF(ids:List Nat)(l:List (List Int)):List D:=List.zipWith (λid q=>.arr id 0 q.length 1) ids l
theorem c7D:∀{ids:List Nat}{l:List (List Int)},a24 ids l=(fF ids l).map λq=>[q]
 |[],_=>by simp[a24,fF]
 |_::_,[]=>by simp[a24,fF]
 |i::ids,a::l=>by
  simp[a24,fF]
theorem b2B:(l.map λq=>[q]).flatten=l:=by induction l with
 |nil=>rfl
 |cons a l ih=>simp[ih]
variable{l:List (List Int)}
theorem a6j(h:ids.length=l.length):(fF ids l).length=l.length:=by simp[fF,h]
theorem c1q:∀{ids:List Nat}{l:List (List Int)}{j:Nat},ids.length=l.length->j<l.length->(fF ids l)[j]?=some (.arr (W2 ids j) 0 (U8 l j).length 1)
 |[],[],j,_,h=>by simp at h
 |[],_::_,j,h,_=>by simp at h
 |_::_,[],j,h,_=>by simp at h
 |i::ids,a::l,0,h,_=>by simp[fF,W2,U8]
 |i::ids,a::l,j+1,h,hj=>by
  grind[fF,W2,U8]
theorem b6Z(h:ids.length=l.length)(hj:j<l.length):iD (fF ids l) j=.arr (W2 ids j) 0 (U8 l j).length 1:=by
 grind[c1q,iD]
theorem b3s:∀{ids:List Nat}{l:List (List Int)}{j:Nat},ids.length=l.length->j<l.length->(W2 ids j,a0w (U8 l j))∈a35 ids l
 |[],[],j,_,h=>by simp at h
 |[],_::_,j,h,_=>by simp at h
 |_::_,[],j,h,_=>by simp at h
 |i::ids,a::l,0,h,_=>by simp[a35,W2,U8]
 |i::ids,a::l,j+1,h,hj=>by
  have:=b3s (ids:=ids) (l:=l) (j:=j) (sU h) (sU hj);simp only[a35,ID,Fi];exact .inr this
theorem c1D:∀{ids:List Nat}{l:List (List Int)},ids.length=l.length->(a35 ids l).map Prod.fst=ids
 |[],[],_=>rfl
 |[],_::_,h=>by simp at h
 |_::_,[],h=>by simp at h
 |i::ids,a::l,h=>by
  have:=c1D (ids:=ids) (l:=l) (sU h);simp_all[a35]
structure b0v(s:k4)(n:Nat)(a v:Nat)(dC:D)(ids:List Nat)(st:U6):Prop where
 len:ids.length=st.ae.length
 ga:s.get a=some (.cells (a1f st.aF))
 gv:s.get v=some (.cells (a0w st.vars))
 gc:(st.ae=[]/\dC=.ag)\/∃c,dC=.arr c 0 st.ae.length 1/\s.get c=some (.cells (fF ids st.ae))/\n<=c/\c≠a/\c≠v/\∀j,j<st.ae.length->W2 ids j≠c
 gq:∀j,j<st.ae.length->s.get (W2 ids j)=some (.cells (a0w (U8 st.ae j)))/\n<=W2 ids j/\W2 ids j≠a/\W2 ids j≠v
 inj:∀i j,i<st.ae.length->j<st.ae.length->W2 ids i=W2 ids j->i=j
 av:a≠v
 na:n<=a
 nv:n<=v
theorem OutM.open{r:D}{st:U6}(h:OutM s n r st):∃a v dC ids,r=.agg [.arr a 0 st.aF.length 1,.arr v 0 st.vars.length 1,dC,.int .i64 st.hold]/\b0v s n a v dC ids st:=by
 obtain⟨a,v,dC,ids,EC,rfl,hl,hr,hp,hn⟩:=h;have nd:=hp.nd;simp only[FJ,FK,c1D hl,Hf,Fi,Fm,not_or,GP]at nd;obtain⟨⟨n1,n2,n3⟩,⟨n4,n5⟩,n6,n7,n8⟩:=nd;have hm:∀j,j<st.ae.length->W2 ids j∈ids:=λj hj=>c8q oJ
 refine⟨a,v,dC,ids,rfl,hl,hp.hd,hp.tl.hd,?_,λj hj=>?_,λi j hi hj e=>?_,n1,hn (a,a1f st.aF) sJ,hn (v,a0w st.vars) sJ⟩
 .rcases hr with⟨rfl,h2,_⟩|⟨c,rfl,rfl,h3⟩
  .refine .inl ⟨?_,rfl⟩
   have:=Ig List.length h2;rw[b23 oJ]at this;exact Ge.1 (by rw[<- hl];exact this)
  .refine .inr ⟨c,by rw[b23 oJ,hl],?_,hn (c,(a24 ids st.ae).flatten) sJ,?_,?_,?_⟩
   .have:=hp.tl.tl.w (c,(a24 ids st.ae).flatten) sJ
    rw[c7D,b2B]at this;exact this
   .intro e;subst e;simp at n2
   .intro e;subst e;simp at n4
   .intro j hj e
    exact n8 c sJ (W2 ids j) (hm j hj) e.symm
 .refine⟨hp.tl.tl.w (W2 ids j,a0w (U8 st.ae j)) (by simp[b3s hl hj]),hn (W2 ids j,a0w (U8 st.ae j)) (by simp[b3s hl hj]),?_,?_⟩
  .intro e;rw[<- e]at n3;exact n3 (hm j hj)
  .intro e;rw[<- e]at n5;exact n5 (hm j hj)
 grind[a4e,List.pairwise_iff_getElem]
theorem a8H{l:List D}{n:Nat}{x:D}(h:n<l.length):List.take n l++[x]++List.drop (n+1) l=l.set n x:=by
 have:=b7o (x:=x) h;assumption
theorem c1K(l:List Int)(n:Nat)(k:Int):(a0w l).set n (.int .i64 k)=a0w (l.set n k):=by simp[a0w,Kx]
theorem tk_I{l:List Nat}(h:n<l.length):List.take n (a1f l)++[.int .i64 (x:Int)]++List.drop (n+1) (a1f l)=a1f (l.set n x):=by rw[a8H (sU h),c0w]
theorem tk_Z{l:List Int}{x:Int}(h:n<l.length):List.take n (a0w l)++[.int .i64 x]++List.drop (n+1) (a0w l)=a0w (l.set n x):=by rw[a8H (sU h),c1K]
theorem tk_Q{x:D}(h1:ids.length=l.length)(h:n<l.length):List.take n (fF ids l)++[x]++List.drop (n+1) (fF ids l)=(fF ids l).set n x:=a8H (by grind[a6j])
theorem cZ_at{l:List Int}(h:i<l.length):(a0w l)[i]?=some (.int .i64 (X9 l i)):=by grind[a26,a0w]
theorem le_succ{a b:Nat}:(a+1<=b)=(a<b):=by grind
attribute [go_sem] tk_I tk_Z tk_Q a6j c1q cZ_at c1K c0w c9h b5S le_succ
structure a0P(mo:Mo):Prop where
 ch:∀c∈mo.ae,1<=c.room/\c.room<=3/\1<=c.width/\c.width<=8
 vr:∀v∈mo.vars,1<=v.width/\v.width<=8/\W3 v.value v.width.toNat=v.value
variable{k:Nat}
theorem b5A{l:List D}(hk:k<l.length):iD (l.set k d) j=if j=k then d else iD l j:=by
 unfold iD;grind
theorem a4R{d:List Int}(hk:k<l.length):U8 (l.set k d) j=if j=k then d else U8 l j:=by
 unfold U8;grind
variable{l:List Int}
theorem a7q(h:s.get id=some (.cells (a0w l))):eU s (.arr id 0 l.length 1) l :=
 .inr (.inr ⟨id,0,_,rfl,h,sJ,by rw[HJ,<- b5S l,Gf]⟩)
theorem a9M(h:s.get id=some (.cells (a0w l)))(hl:1<l.length):eU s (.arr id 1 (l.length-1) 1) (l.drop 1) :=
 .inr (.inr ⟨id,1,_,sJ,h,by simp;omega,by
  grind[b5S,a0w,List.map_drop]⟩)
theorem b0S(hl:¬1<l.length):eU s (.bu 1 []) (l.drop 1):=by
 have:l.drop 1=[]:=Ge.1 (by grind);rw[this];exact .inr (.inl rfl)
variable{A:List Nat}{V:List Int}
theorem b0v.chan{S:k4}{n a v c:Nat}{st:U6}(h:b0v s n a v (.arr c 0 st.ae.length 1) ids st)(hk:k<st.ae.length){hd:Int}(hA:A.length=st.aF.length)(hV:V.length=st.vars.length)
 (ga:S.get a=some (.cells (a1f A)))(gv:S.get v=some (.cells (a0w V)))(gc:S.get c=some (.cells ((fF ids st.ae).set k d)))(hr:eU S d l)(hq:∀j,j<st.ae.length->j≠k->S.get (W2 ids j)=s.get (W2 ids j)) :
 a4t S [.arr a 0 st.aF.length 1,.arr v 0 st.vars.length 1,.arr c 0 st.ae.length 1,.int .i64 hd] ⟨A,V,st.ae.set k l,hd⟩:=by
 refine a4t.mk (st:=⟨A,V,st.ae.set k l,hd⟩) ((fF ids st.ae).set k d) (.inr (.inl ⟨a,by simp[hA],by simp[a68,ga]⟩)) (.inr (.inl ⟨v,by simp[hV],by simp[a8v,gv]⟩)) (.inr (.inl ⟨c,by simp[a6j h.len],by rw[b2B];exact gc⟩)) (.inr ⟨c,by simp[a6j h.len]⟩) (by simp[a6j h.len]) λj hj=>?_
 rw[IT,a6j h.len]at hj;rw[b5A (by rw[a6j h.len];exact hk),a4R hk];split
 .exact hr
 .rename_i kW
  rw[b6Z h.len hj];exact a7q (by rw[hq j hj kW];exact(h.gq j hj).1)
theorem b0v.same{S:k4}{n a v:Nat}{dC:D}{st:U6}(h:b0v s n a v dC ids st){hd:Int}(hA:A.length=st.aF.length)(hV:V.length=st.vars.length)
 (ga:S.get a=some (.cells (a1f A)))(gv:S.get v=some (.cells (a0w V)))(hq:∀j,n<=j->j<s.next->j≠a->j≠v->S.get j=s.get j) :
 a4t S [.arr a 0 st.aF.length 1,.arr v 0 st.vars.length 1,dC,.int .i64 hd] ⟨A,V,st.ae,hd⟩:=by
 refine a4t.mk (st:=⟨A,V,st.ae,hd⟩) (fF ids st.ae) (.inr (.inl ⟨a,by simp[hA],by simp[a68,ga]⟩)) (.inr (.inl ⟨v,by simp[hV],by simp[a8v,gv]⟩)) ?_ ?_ (a6j h.len) λj hj=>?_
 .rcases h.gc with⟨e,rfl⟩|⟨c,rfl,g,nc,ca,cv,_⟩
  .refine .inl ⟨rfl,?_⟩
   rw[e];simp[fF]
  .refine .inr (.inl ⟨c,by simp[a6j h.len],?_⟩)
   grind[b2B,t3]
 .rcases h.gc with⟨e,rfl⟩|⟨c,rfl,g,nc,ca,cv,_⟩
  .simp_all[fF]
  .exact .inr ⟨c,by simp[a6j h.len]⟩
 .rw[a6j h.len]at hj
  obtain⟨g,n1,n2,n3⟩:=h.gq j hj;rw[b6Z h.len hj];grind[a7q,t3]
theorem b7f{af T i t rest env K s q n idt bytes x cs}(hg:s.get q=some (.cells cs))(hn:cs.length=n)(ht:s.get idt=some (.cells [x]))(hb:bytes<=1000)(hl:n<=1000000000)(he:a2b af i [q,s.next] T)
 (k:XX fs af (⟨i,none,[q,s.next]⟩::T) rest ((t,.arr s.next 0 (n+1) 1)::env) ((s.set q none).push (.cells (cs++[x]))) K):MX (.arr q 0 n 1) (.arr idt 0 1 1) 1 bytes i fs af T t rest env s K:=by
 subst hn;have b3:bytes<=2^20:=FE hb dJ;have r1:a1u s.get (.arr idt 0 1 1)=some [x]:=by simp[a1u,ht]
 have b1:(cs.length+1)*bytes<=2^45:=FE (GI (show cs.length+1<=1000000001 by omega) hb) dJ;have b2:cs.length+1<=2^45:=oJ;refine⟨_,_,[q,s.next],?_,?_,λj hj=>?_,he,k⟩
 .unfold a0e
  simp only[r1,a3z,a1V,b3,Iz,GC,FG,hg,GJ,HM,HN,HJ,Ii];rw[so oJ,Fk ⟨b1,b2⟩]
 .simp
 simp_all[k4.aO,Y8]
theorem a8t{a b:D}{st:U6}{p:Bool}{af t rest env K}(h:a4t s cs st)(hb:PZ b)(k:∀x,eR x st->BL (some [a,.agg [x.da,x.dv,x.dc,.int .i64 st.hold],b]) p fs f af t rest env s K):BL (Option.map (λl=>a::l) (X8 (aK s.get 20) [.agg cs,b])) p fs f af t rest env s K:=by
 obtain⟨x,h1,h2⟩:=h.dI;have e:X8 (aK s.get 20) [.agg cs,b]=some [.agg [x.da,x.dv,x.dc,.int .i64 st.hold],b]:=by
  simp only[X8,hb.2 s.get 17,h1]
 rw[e];exact k x h2
variable{n:Int}{w:Nat}
theorem b1B(h1:1<=w):W3 (W3 n w) w=W3 n w:=by
 grind[b27,a6Y]
theorem b5X(h1:1<=w)(h2:w<=8):I8 (W3 n w):=by
 have h:=b27 (n:=n) (w:=w) oJ;have hc:w=1\/w=2\/w=3\/w=4\/w=5\/w=6\/w=7\/w=8:=oJ;unfold I8;grind
theorem b1A{l:List Nat}{d:Nat}(hk:k<l.length):W2 (l.set k d) j=if j=k then d else W2 l j:=by
 unfold W2;grind
theorem b1V{d:Int}(hk:k<l.length):X9 (l.set k d) j=if j=k then d else X9 l j:=by
 unfold X9;grind
structure a3i(mo:Mo)(st:U6):Prop where
 aF:st.aF.length=mo.procs.length
 vars:st.vars.length=mo.vars.length
 ae:st.ae.length=mo.ae.length
 pl:∀i,i<mo.procs.length->W2 st.aF i<(k7 mo.procs i).ah
 vr:∀i,i<mo.vars.length->W3 (X9 st.vars i) (bh mo.vars i).width.toNat=X9 st.vars i
 cl:∀i,i<mo.ae.length->((U8 st.ae i).length:Int)<=(U7 mo.ae i).room
 cv:∀i,i<mo.ae.length->∀n∈U8 st.ae i,W3 n (U7 mo.ae i).width.toNat=n
 hold:-1<=st.hold/\st.hold<(mo.procs.length:Int)
theorem a15{st:U6}:a3i mo st↔Fit mo st:=by
 constructor
 .rintro⟨h1,h2,h3,h4,h5,h6,h7,h8⟩
  refine⟨h1,h2,h3,λi h h'=>?_,λi h h'=>?_,λi h h'=>?_,λi h h'=>?_,h8⟩
  .have:=h4 i h';rwa [a4e h,a12 h']at this
  .have:=h5 i h';rwa [a26 h,a3x h']at this
  .have:=h6 i h';rwa [a3X h,a2W h']at this
  grind[a3X,a2W]
 .rintro⟨h1,h2,h3,h4,h5,h6,h7,h8⟩
  refine⟨h1,h2,h3,λi h'=>?_,λi h'=>?_,λi h'=>?_,λi h'=>?_,h8⟩
  .have h:i<st.aF.length:=oJ
   rw[a4e h,a12 h'];exact h4 i h h'
  .have h:i<st.vars.length:=oJ
   rw[a26 h,a3x h'];exact h5 i h h'
  .have h:i<st.ae.length:=oJ
   rw[a3X h,a2W h'];exact h6 i h h'
  grind[a3X,a2W]
theorem a51(hf:a0P mo){st:U6}(h:Fit mo st):fW st:=by
 have h:=a15.2 h;refine⟨λn hn=>?_,λl hl=>?_⟩
 .obtain⟨i,hi,rfl⟩:=FQ hn
  have jF:i<mo.vars.length:=by rw[<- h.vars];exact hi
  have:=h.vr i jF;rw[a26 hi]at this;rw[<- this];have:=hf.vr _ (a4C jF);grind[b5X]
 .obtain⟨i,hi,rfl⟩:=FQ hl
  have jF:i<mo.ae.length:=by rw[<- h.ae];exact hi
  have h1:=h.cl i jF;have h2:=h.cv i jF;rw[a3X hi]at h1 h2;have h3:=hf.ch _ (a3S jF);grind[b5X]
theorem a3i.var(hf:a0P mo){st:U6}(h:a3i mo st)(hk:k<mo.vars.length)(n:Int):a3i mo { st with vars:=st.vars.set k (W3 n (bh mo.vars k).width.toNat) }:=by
 refine⟨h.aF,by simp[h.vars],h.ae,h.pl,λi hi=>?_,h.cl,h.cv,h.hold⟩;rw[b1V (by rw[h.vars];exact hk)];split
 .rename_i e;subst e
  have:=hf.vr _ (a4C hk);exact b1B oJ
 .exact h.vr i hi
theorem a3i.chan{st:U6}(h:a3i mo st)(hk:k<mo.ae.length){l:List Int}(hl:(l.length:Int)<=(U7 mo.ae k).room)(hv:∀n∈l,W3 n (U7 mo.ae k).width.toNat=n):a3i mo { st with ae:=st.ae.set k l }:=by
 refine⟨h.aF,h.vars,by simp[h.ae],h.pl,h.vr,λi hi=>?_,λi hi=>?_,h.hold⟩
 .simp only[a4R (by rw[h.ae];exact hk)]
  split
  .grind
  .exact h.cl i hi
 .simp only[a4R (by rw[h.ae];exact hk)]
  split
  .grind
  .exact h.cv i hi
theorem a3i.go{mo:Mo}{st:U6}(h:a3i mo st){p to:Nat}(hp:p<mo.procs.length)(ht:to<(k7 mo.procs p).ah):a3i mo (st.go p to):=by
 refine⟨by simp[U6.go,h.aF],h.vars,h.ae,λi hi=>?_,h.vr,h.cl,h.cv,h.hold⟩;simp only[U6.go,b1A (by rw[h.aF];exact hp)];split
 .grind
 .exact h.pl i hi
theorem a3i.hd{st:U6}(h:a3i mo st){z:Int}(hz:-1<=z/\z<(mo.procs.length:Int)):a3i mo { st with hold:=z }:=⟨h.aF,h.vars,h.ae,h.pl,h.vr,h.cl,h.cv,hz⟩
theorem a3i.act{mo:Mo}(hf:a0P mo){st:U6}(h:a3i mo st){pl:Nat}{vs:List Nat}{e:Ed}(he:a6z mo.tree mo.ae.length pl vs e)(hv:∀v∈vs,v<mo.vars.length)(h2:e.act=2->((U8 st.ae e.chan.toNat).length:Int)<(U7 mo.ae e.chan.toNat).room)(n:Int):a3i mo (mo.eu st e n):=by
 unfold Mo.eu;split
 .rename_i h1
  obtain⟨k,hk,e1⟩:=he.v1 (.inl h1);rw[e1,an];exact h.var hf (hv k hk) n
 split
 .rename_i _ h1
  obtain⟨k,e1,hk⟩:=he.c1 (.inl h1);have h2:=h2 h1;rw[e1,an]at *;refine h.chan hk qJ λz hz=>?_
  rcases Fm.1 hz with hz|hz
  .exact h.cv k hk z hz
  .simp only[Fu]at hz
   subst hz;have:=hf.ch _ (a3S hk);exact b1B oJ
 split
 .rename_i _ _ h1
  obtain⟨k,hk,e1⟩:=he.v1 (.inr h1);obtain⟨q,e2,hq⟩:=he.c1 (.inr h1);rw[e1,e2,an,an];have h3:=h.var hf (hv k hk) (X9 (U8 st.ae q) 0);refine h3.chan hq ?_ λz hz=>?_
  .have:=h.cl q hq
   grind
  .exact h.cv q hq z (Gz hz)
 .exact h
theorem b9C(ho:Z3 mo)(hf:a0P mo){st:U6}(h:a3i mo st){p:Nat}(hp:p<mo.procs.length){e:Ed}(he:e∈(k7 mo.procs p).ai)(kg:mo.can st p (k7 mo.procs p) e=true):a3i mo (mo.bj st p (k7 mo.procs p) e):=by
 have jh:=ho.pr _ (a1S hp);have jx:=jh.inv.ed e he;unfold Mo.bj U6.free;refine a3i.hd ?_ ⟨oJ,oJ⟩;refine(h.go hp jx.to).act hf jx jh.var (λh2=>?_) _;unfold Mo.can at kg;simp only[h2,FG,Fo,Fy]at kg;exact kg.2
theorem b4E(ho:Z3 mo)(hf:a0P mo){st:U6}(h:Fit mo st){v:Mv}(hv:mo.mvOk st v):Fit mo (mo.ee st v):=by
 have h:=a15.2 h;refine a15.1 ?_;unfold Mo.ee;rcases hv with⟨hk,hp,he,kg⟩|⟨hk,hc,hlen⟩|⟨hk,hc,hlen,jR⟩
 .rw[so oJ,so oJ]
  unfold Mo.doE;refine(b9C ho hf h hp (a3U he) kg).hd ?_;omega
 .rw[Fk hk]
  refine h.chan hc ?_ λz hz=>h.cv _ hc z (Gz hz)
  have:=h.cl _ hc;grind
 .rw[so oJ,Fk hk]
  refine h.chan hc qJ λz hz=>?_
  rcases Fm.1 hz with hz|hz
  .exact h.cv _ hc z hz
  .simp only[Fu]at hz
   subst hz;exact h.cv _ hc _ (a7z hlen)
theorem b9q{α:Type}(n:Nat)(a:α):List.replicate (n+1) a=List.replicate n a++[a]:=Kj
theorem c7B(n:Nat):a0i (List.replicate n 0)++[[.int .i64 0]]=a0i (List.replicate (n+1) 0):=by
 simp[b9q,a0i]
theorem c8s(h:i<l.length):a1o (l.take i)++[[.int .i64 (X9 l i)]]=a1o (l.take (i+1)):=by
 grind[a26,List.take_add_one,a1o]
def Mo.eZ(mo:Mo):List Int:=mo.vars.map Vr.value
theorem b8w(h:i<mo.vars.length):X9 mo.eZ i=(bh mo.vars i).value:=by
 grind[a26,Mo.eZ,a3x]
def a4W(n:Nat):List (List D):=List.replicate n [.ag]
theorem c8x(n:Nat):∀r∈a4W n,r.length=1:=λr h=>by rw[JA h];rfl
theorem c6x(n:Nat):a4W n++[[.ag]]=a4W (n+1):=(b9q n _).symm
theorem Hp.addW{W R:Hs}(h:Hp s W R)(hg:s.get id=some (.cells cs))(h1:∀w∈W,w.1≠id)(h2:∀r∈R,r.1≠id):Hp s ((id,cs)::W) R:=by
 refine⟨?_,?_,?_,h.r⟩
 .rw[FJ,Hf]
  refine⟨λhm=>?_,h.nd⟩;grind
 .intro w hw r hr
  rcases Fi.1 hw with rfl|hw
  .grind
  .exact h.ap w hw r hr
 .intro w hw
  rcases Fi.1 hw with rfl|hw
  .exact hg
  .exact h.w w hw
theorem Hp.addR1{W R:Hs}(h:Hp s W R)(hg:s.get id=some (.cells cs))(h1:∀w∈W,w.1≠id):Hp s W ((id,cs)::R):=by
 refine⟨h.nd,?_,h.w,?_⟩
 .intro w hw r hr
  rcases Fi.1 hr with rfl|hr
  .exact h1 w hw
  .exact h.ap w hw r hr
 .intro r hr
  rcases Fi.1 hr with rfl|hr
  .exact hg
  .exact h.r r hr
theorem Hp.ne{A B C:Hs}{a b:Nat×List D}(h:Hp s (A++a::(B++b::C)) R):a.1≠b.1:=by
 have:=h.nd;grind
theorem Hp.neAll{a:Nat×List D}{W R:Hs}(h:Hp s (a::W) R):∀w∈W,w.1≠a.1:=by
 have:=h.nd;grind
theorem b5L(h:Rp d 1 rows E)(hn:0<rows.length):∃a,d=.arr a 0 rows.length 1/\E=[(a,rows.flatten)]:=by
 rcases h with⟨_,rfl,_⟩|⟨a,h1,h2,_⟩
 .simp at hn
 .grind
theorem b7R{a:Nat}(hn:0<rows.length):Rp (.arr a 0 rows.length 1) 1 rows [(a,rows.flatten)]:=.inr ⟨a,rfl,rfl,λe=>by subst e;simp at hn⟩
theorem c2s(n:Nat):(a4W n).flatten=List.replicate n .ag:=by
 induction n with
 |zero=>rfl
 |succ n ih=>rw[show a4W (n+1)=[.ag]::a4W n from rfl,GF,ih];rfl
theorem Rp.chr(h:Rp q 1 (a1o l) E)(he:Y2 s E):eU s q l:=by
 rcases h with⟨rfl,h2,_⟩|⟨id,h1,rfl,_⟩
 .refine .inl ⟨rfl,?_⟩
  simp_all[a1o]
 .rw[a8X]at h1
  subst h1;have:=he (id,(a1o l).flatten) sJ;grind[a8v,a7q]
variable{n:Nat}
theorem c0M(h:j<n):iD (List.replicate n d) j=d:=by rw[b0W (sU h),JT]
theorem b4a:U8 (List.replicate n []) j=[]:=by
 grind[U8]
structure fX(f g:Ft):Prop where
 r:∀b,f.reads.testBit b=true->g.reads.testBit b=true
 z:∀b,f.aX.testBit b=true->g.aX.testBit b=true
theorem fX.refl(f:Ft):fX f f:=⟨λ_ h=>h,λ_ h=>h⟩
theorem fX.trans{f g h:Ft}(a:fX f g)(b:fX g h):fX f h:=⟨λx k=>b.r x (a.r x k),λx k=>b.z x (a.z x k)⟩
theorem c3Q{ch:List ByteArray}{vb:ByteArray->Nat}{x:Nd}{f:Ft}:fX f (a0S ch vb x f):=by
 unfold a0S;split
 .exact⟨λb h=>by grind,λ_ h=>h⟩
 split
 .exact⟨λ_ h=>h,λb h=>by grind⟩
 split
 .exact⟨λ_ h=>h,λ_ h=>h⟩
 .exact .refl _
theorem b2Z{g:Ft->Nat->Ft}(hg:∀f k,fX f (g f k)):∀{l:List Nat}{f:Ft},fX f (l.foldl g f)
 |[],f=>.refl f
 |k::l,f=>(hg f k).trans (b2Z hg (l:=l))
theorem b4x{t:List Nd}{ch:List ByteArray}{vb:ByteArray->Nat}:∀(n k:Nat)(f:Ft),fX f (a2x t ch vb n k f)
 |0,k,f=>.refl f
 |n+1,k,f=>by
  unfold a2x;exact c3Q.trans (b2Z λf k=>b4x n k f)
theorem b7V{g:Ft->Nat->Ft}(hg:∀f k,fX f (g f k)):∀{l:List Nat}{f:Ft}{k:Nat},k∈l->∃f',fX (g f' k) (l.foldl g f)
 |x::l,f,k,h=>by
  rcases Fi.1 h with rfl|h
  .grind[b2Z]
  .exact b7V hg (l:=l) h
structure a55(f:Ft)(st ju:U6):Prop where
 r:∀b,f.reads.testBit b=true->X9 st.vars b=X9 ju.vars b
 z:∀b,f.aX.testBit b=true->(U8 st.ae b).length=(U8 ju.ae b).length
theorem a55.inc{f g:Ft}{st ju:U6}(h:a55 g st ju)(k:fX f g):a55 f st ju:=⟨λb hb=>h.r b (k.r b hb),λb hb=>h.z b (k.z b hb)⟩
theorem b7l{t:List Nd}(ht:a2a t){ch:List ByteArray}{vb:ByteArray->Nat}{look:ByteArray->Option Nat}(hl:∀w v,look w=some v->vb w=2^v){st ju:U6}:∀(n k:Nat)(f0:Ft),k<t.length->a3O (nd t k).kind->a55 (a2x t ch vb n k f0) st ju->a06 t ch look st n k=a06 t ch look ju n k
 |0,k,f0,_,_,_=>rfl
 |n+1,k,f0,hk,hx,ha=>by
  have iT:=ht.node k hk;obtain⟨_,uy⟩:=b1T iT hx;have hkid:∀i,i<(nd t k).kids.length->a06 t ch look st n ((nd t k).aE i)=a06 t ch look ju n ((nd t k).aE i):=λi hi=>by
   have hm:=a1E hi;have hc:=ht.ks hk _ hm;obtain⟨f',xC⟩:=b7V (g:=λf c=>a2x t ch vb n c f) (λf c=>b4x n c f) (f:=a0S ch vb (nd t k) f0) hm;exact b7l ht hl n _ f' hc.2 (uy i hi) (ha.inc xC)
  have h1:fX (a0S ch vb (nd t k) f0) (a2x t ch vb (n+1) k f0):=b2Z λf k=>b4x n k f
  have hb:=ha.inc h1;unfold a06;simp only;by_cases rK:(nd t k).kind=17
  .grind
  simp only[rK,FF];by_cases kF:(nd t k).kind=18
  .simp only[kF,FG]
   cases kT:look ((nd t k).word 0)with
   |none=>rfl
   |some v =>
    have e:=hb.r v (by
     simp_all[a0S])
    simp only[e]
  simp only[kF,FF];by_cases kX:(nd t k).kind=19
  .simp only[kX,FG]
   split
   .rename_i hi
    have e:=hb.z (a2r ch ((nd t k).word 0)) (by
     simp_all[a0S,iH])
    rw[e]
   .rfl
  simp only[kX,FF];by_cases uh:(nd t k).kind=20
  .have:=(iT.one oJ).1
   grind
  simp only[uh,FF];by_cases tE:(nd t k).kind=21
  .have:=(iT.one oJ).1
   grind
  simp only[tE,FF];by_cases lT:(nd t k).kind=22
  .have:=(iT.bin lT).1
   grind
  simp only[lT,FF]
variable{p:Pr}
theorem look_p{w:ByteArray}{v:Nat}(h:a0s p w=some v):bD p.names p.vars w=2^v:=by
 simp_all[a0s,bD]
theorem c9E(mo:Mo)(p:Pr)(e:Ed):fX (a5C mo p e) (Z8 mo p e)/\fX (Z8 mo p e) (a5C mo p e):=by
 rw[b4P];unfold a4s;constructor<;>(split;exact⟨λ_ h=>h,λ_ h=>h⟩;split;exact⟨λ_ h=>h,λ_ h=>h⟩;split;exact⟨λ_ h=>h,λ_ h=>h⟩;exact .refl _)
theorem c7k(ho:Z3 mo)(hp:a7b mo p){e:Ed}(he:e∈p.ai){st ju:U6}(h:a55 (Z8 mo p e) st ju)(z:Int):mo.ex p st e z=mo.ex p ju e z:=by
 have jx:=hp.inv.ed e he;unfold Mo.ex;split
 .rename_i h0
  have hx:e.act=1\/e.act=2\/e.act=4\/e.act=5:=by
   have:=jx.gZ;have:=jx.act;omega
  obtain⟨n,hn,nz,qZ⟩:=jx.eQ hx;rw[hn,an];refine b7l ho.tree (vb:=bD p.names p.vars) (λw v h=>look_p h) _ n ⟨0,0,0,0,0,false⟩ nz qZ ?_;have:=h.inc (c9E mo p e).1;unfold a5C at this;rw[Fk h0,hn,an]at this;exact this
 .rfl
def cy{α:Type}(l:List α):Option (Nat×α)->List α
 |none=>l
 |some (i,x)=>l.set i x
def Mo.wV(mo:Mo)(l:List Int)(e:Ed)(n:Int):Option (Nat×Int) :=
 if e.act=1 then some (e.var.toNat,W3 n (bh mo.vars e.var.toNat).width.toNat)
 else if e.act=3 then some (e.var.toNat,W3 (X9 l 0) (bh mo.vars e.var.toNat).width.toNat)else none
def Mo.wC(mo:Mo)(l:List Int)(e:Ed)(n:Int):Option (Nat×List Int) :=
 if e.act=2 then some (e.chan.toNat,l++[W3 n (U7 mo.ae e.chan.toNat).width.toNat])
 else if e.act=3 then some (e.chan.toNat,l.drop 1)else none
variable{n:Int}
theorem c7g{st:U6}{e:Ed}:mo.eu st e n=⟨st.aF,cy st.vars (mo.wV (U8 st.ae e.chan.toNat) e n),cy st.ae (mo.wC (U8 st.ae e.chan.toNat) e n),st.hold⟩:=by
 unfold Mo.eu Mo.wV Mo.wC;by_cases a1:e.act=1
 .simp[a1,cy]
 by_cases a2:e.act=2
 .simp[a2,cy]
 by_cases a3:e.act=3
 .simp[a3,cy]
 .simp_all[cy]
theorem c1A{st:U6}{e:Ed}:mo.bj st i p e=⟨st.aF.set i e.to,cy st.vars (mo.wV (U8 st.ae e.chan.toNat) e (mo.ex p st e 0).1),cy st.ae (mo.wC (U8 st.ae e.chan.toNat) e (mo.ex p st e 0).1),-1⟩:=by
 unfold Mo.bj;rw[c7g];rfl
theorem a55.hold{f:Ft}{st ju:U6}(h:a55 f st ju)(z:Int):a55 f st { ju with hold:=z }:=⟨h.r,h.z⟩
theorem b6s{α β:Type}{P:β->Prop}{g:β->α->β}:∀{l:List α}{a:β},P a->(∀a x,x∈l->P a->P (g a x))->P (l.foldl g a)
 |[],a,h,_=>h
 |x::l,a,h,hg=>b6s (l:=l) (hg a x sJ h) λa y hy=>hg a y (by simp[hy])
def ChFi(c:Ch):Prop:=1<=c.room/\c.room<=3/\1<=c.width/\c.width<=8
def a7f(v:Vr):Prop:=1<=v.width/\v.width<=8/\W3 v.value v.width.toNat=v.value
theorem c8P(hY:a30 t)(hk:k<t.length)(h:(nd t k).kind=1):ChFi (a7p (nd t k)):=by
 have:=(hY.iB k hk).chan h;exact⟨this.1,this.2.1,this.2.2.1,this.2.2.2.1⟩
theorem b85(hY:a30 t)(hk:k<t.length)(h:(nd t k).kind=2):a7f (a4G (nd t k)):=by
 have:=(hY.iB k hk).var h;exact⟨this.1,this.2.1,this.2.2.1⟩
theorem gat_fi{t:List Nd}(ht:a2a t)(hY:a30 t):(∀c∈(W5 t).ch,ChFi c)/\∀v∈(W5 t).vs,a7f v:=by
 unfold W5 a1i;refine b6s (P:=λ(a:Ga)=>(∀c∈a.ch,ChFi c)/\∀v∈a.vs,a7f v) sJ λ(a:Ga)k hk ha=>?_
 have jJ:=(ht.ks ht.pos k hk).2;grind[bo,c8P,b85]
theorem c53{t:List Nd}(ht:a2a t)(hY:a30 t){k:Nat}(hk:k<t.length):∀v∈(a1q t (nd t k)).map a4G,a7f v:=by
 intro v hv;obtain⟨x,hx,rfl⟩:=Fs.1 hv;obtain⟨j,hj,rfl⟩:=Fs.1 hx;obtain⟨i,hi,e⟩:=FQ hj;have sP:i<Y5 t (nd t k)/\i<(nd t k).ks.length:=by grind
 rw[Ic]at e;have h2:=b1d sP.1 sP.2;rw[e]at h2;have hm:=ht.ks hk j (by grind);exact b85 hY hm.2 h2
theorem b86{t:List Nd}(ht:a2a t)(hY:a30 t){ch:List ByteArray}{k seen:Nat}(hk:k<t.length):∀(c:Nat)(a:List Vr×List Pr),(∀v∈a.1,a7f v)->∀v∈(a05 t ch k seen c a).1,a7f v
 |0,a,h=>h
 |c+1,a,h=>by
  intro v hv;unfold a05 at hv;rcases Fm.1 hv with hv|hv
  .exact b86 ht hY hk c a h v hv
  grind[c53]
theorem c2T(hR:Y9 t)(hY:a30 t):a0P (a20 t):=by
 have ht:=hR.ok;obtain⟨h1,h2⟩:=gat_fi ht hY;refine⟨h1,?_⟩;show ∀v∈(eX t).vs,a7f v
 unfold eX a2e;refine b6s (P:=λ(a:Gb)=>∀v∈a.vs,a7f v) h2 λa k hk ha=>?_
 have jJ:=(ht.ks ht.pos k hk).2;grind[a3j,b86]
variable{v:Mv}{st:U6}
theorem c5O(h:v∈mo.hU st i j):v.kind=0/\v.proc=i/\v.bb<j/\mo.can st i (k7 mo.procs i) (V3 (k7 mo.procs i).ai v.bb)=true:=by
 unfold Mo.hU at h;grind
theorem b7X(h:v∈mo.cX st i):v∈mo.hU st i (k7 mo.procs i).ai.length/\¬(0<=st.hold/\st.hold≠(i:Int)):=by
 grind[Mo.cD]
theorem b92{c:Nat}(h:v∈mo.bE st c):(v.kind=1\/v.kind=2)/\v.chan=c/\0<(U8 st.ae c).length/\(v.kind=2->((U8 st.ae c).length:Int)<(U7 mo.ae c).room):=by
 unfold Mo.bE at h;grind
theorem b5Z(h:v∈mo.aA st):mo.mvOk st v:=by
 unfold Mo.aA at h;rcases Fm.1 h with h|h
 .obtain⟨i,hi,hv⟩:=HI.1 h
  obtain⟨h1,_⟩:=b7X hv;obtain⟨a,b,c,d⟩:=c5O h1;subst b;exact .inl ⟨a,FU.1 hi,c,d⟩
 .split at h
  .obtain⟨c,hc,hv⟩:=HI.1 h
   obtain⟨a,rfl,b,d⟩:=b92 hv;rcases a with a|a
   .exact .inr (.inl ⟨a,FU.1 hc,b⟩)
   .exact .inr (.inr ⟨a,FU.1 hc,b,d a⟩)
  .cases h
theorem b6N(h0:v.kind=0):mo.ee st v=mo.doE st v.proc (k7 mo.procs v.proc) (V3 (k7 mo.procs v.proc).ai v.bb):=by
 simp_all[Mo.ee]
theorem nat_z{a:Nat}:((a:Int)=0)=(a=0):=sJ
attribute [go_sem] nat_z
theorem b2e(ho:Z3 mo){st:U6}:(mo.aA st).length<=17000:=by
 have h1:=Mo.eA ho (st:=st) (sm _);have h2:=Mo.fE (mo:=mo) (st:=st) (i:=mo.ae.length);have:=ho.np;have:=ho.nc;grind[Mo.dL]
def bL(n:Int)(w:Nat):List Bool:=(List.range w).map (W1 n)
def aB(l:List Bool)(i:Nat):Bool:=l.getD i false
@[simp] theorem a1r(n:Int)(w:Nat):(bL n w).length=w:=by simp[bL]
theorem a9o(n:Int)(w:Nat):bL n (w+1)=bL n w++[W1 n w]:=by simp[bL,Gv]
theorem b0P(h:i<w):aB (bL n w) i=W1 n i:=by simp[bL,aB,List.getD,h]
variable{l:List Bool}
theorem c0q(h:i<l.length):aB l i=l[i]:=by simp[aB,List.getD,h]
variable{r:List Bool}
theorem c0T(h:i<l.length):aB (l++r) i=aB l i:=by
 grind[aB]
theorem b7L:(num (aB (bL n w++r)) w:Int)=n%2^w:=by
 rw[<- a6M];congr 1
 exact a5e λi hi=>by rw[c0T (sU hi),b0P hi]
theorem b83(h:0<w):a0d (aB (bL n w++r)) w=W3 n w:=by
 rw[<- b22 h];exact b6c h λi hi=>by rw[c0T (sU hi),b0P hi]
theorem b7M{a b:Int}(h:a%2^w=b%2^w):bL a w=bL b w:=by
 unfold bL;refine HT λi hi=>?_
 have hi:=FU.1 hi;have e:num (W1 a) w=num (W1 b) w:=by grind[a6M]
 exact b14 e i hi
theorem b1e(h:w<=l.length):bL (num (aB l) w:Int) w=l.take w:=by
 refine HB qJ λi h1 h2=>?_
 have hi:i<w:=sU h1;rw[Ic];have e:num (W1 (num (aB l) w:Int)) w=num (aB l) w:=by
  have h3:=a6M (num (aB l) w:Int) w;have h4:=a2g (aB l) w;rw[GQ oJ (by grind)]at h3;omega
 have:=b14 e i hi;rw[<- c0q h1,b0P hi,this,c0q oJ]
theorem b5z(h0:0<w)(h:w<=l.length):bL (a0d (aB l) w) w=l.take w:=by
 grind[b1e,b7M,a8r]
structure Code{α β:Type}(A:α->Prop)(sz:α->Nat)(e:α->β->List Bool)(d:α->List Bool->Option (β×List Bool))(V:α->β->Prop):Prop where
 enc:∀a b r,A a->V a b->d a (e a b++r)=some (b,r)
 dec:∀a l b r,A a->sz a<=l.length->d a l=some (b,r)->V a b/\l=e a b++r
 len:∀a b,V a b->(e a b).length=sz a
def a0X{α β:Type}(e:α->β->List Bool):List α->List β->List Bool
 |a::as',b::bs'=>e a b++a0X e as' bs'
 |_,_=>[]
def b0a{α β:Type}(d:α->List Bool->Option (β×List Bool)):List α->List Bool->Option (List β×List Bool)
 |[],l=>some ([],l)
 |a::as',l=>match d a l with
  |some (b,r)=>match b0a d as' r with
   |some (bs',r')=>some (b::bs',r')
   |none=>none
  |none=>none
def a6x{α β:Type}(V:α->β->Prop):List α->List β->Prop
 |[],[]=>True
 |a::as',b::bs'=>V a b/\a6x V as' bs'
 |_,_=>False
def cY{α:Type}(sz:α->Nat)(l:List α):Nat:=(l.map sz).sum
theorem b4r{α β:Type}{A:α->Prop}{sz:α->Nat}{e:α->β->List Bool}{d:α->List Bool->Option (β×List Bool)}{V:α->β->Prop}(h:Code A sz e d V):Code (λl=>∀a∈l,A a) (cY sz) (a0X e) (b0a d) (a6x V) where
 enc:=by
  intro a;induction a with
  |nil=>intro b r ha hv;cases b with
   |nil=>rfl
   |cons _ _=>exact hv.elim
  |cons x a ih=>intro b r ha hv;cases b with
   |nil=>exact hv.elim
   |cons y b =>
    simp only[a0X,b0a,Fj];rw[h.enc x y _ (ha x sJ) hv.1];simp only[ih b r (λz hz=>ha z (by simp[hz])) hv.2]
 dec:=by
  intro a;induction a with
  |nil=>intro l b r _ _ hd
        simp only[b0a,Gn,Iq]at hd;obtain⟨rfl,rfl⟩:=hd;exact⟨trivial,rfl⟩
  |cons x a ih =>
   intro l b r ha hl hd;simp only[cY,FJ,Jy]at hl;simp only[b0a]at hd;split at hd
   .rename_i y r1 h1
    obtain⟨v1,e1⟩:=h.dec x l y r1 (ha x sJ) oJ h1;have hlen:=h.len x y v1;split at hd
    .rename_i ys r2 h2
     simp only[Gn,Iq]at hd;obtain⟨rfl,rfl⟩:=hd;have:l.length=(e x y).length+r1.length:=by grind
     obtain⟨v2,e2⟩:=ih r1 ys r2 (λz hz=>ha z (by simp[hz])) (by unfold cY;omega) h2;exact⟨⟨v1,v2⟩,by grind[a0X]⟩
    .cases hd
   .cases hd
 len:=by
  intro a;induction a with
  |nil=>intro b hv;cases b with
   |nil=>rfl
   |cons _ _=>exact hv.elim
  |cons x a ih=>intro b hv;cases b with
   |nil=>exact hv.elim
   |cons y b=>simp only[a0X,Fq,cY,FJ,Jy,h.len x y hv.1];rw[ih b hv.2];rfl
def a44(n:Int):Nat->Nat->Nat
 |0,w=>w
 |f+1,w=>if w<16/\(2:Int)^w<n then a44 n f (w+1)else w
def wid(n:Int):Nat:=a44 n 15 1
theorem c0g{n:Int}:∀{f w:Nat},1<=w->w+f<=16->1<=a44 n f w/\a44 n f w<=16
 |0,w,h1,h2=>by grind[a44]
 |f+1,w,h1,h2=>by
  unfold a44;split
  .exact c0g oJ oJ
  .omega
theorem a5P(n:Int):1<=wid n/\wid n<=16:=c0g oJ oJ
theorem b8I{n:Int}(hn:n<=65536):∀{f w:Nat},w+f=16->n<=2^a44 n f w
 |0,w,h=>by
  obtain rfl:w=16:=oJ;simp only[a44];omega
 |f+1,w,h=>by
  unfold a44;split
  .exact b8I hn oJ
  .omega
theorem b5P(hn:n<=65536):n<=2^wid n:=b8I hn oJ
def a4S(p:Pr)(n:Nat):List Bool:=bL (n:Int) (wid (p.ah:Int))
def decP(p:Pr)(l:List Bool):Option (Nat×List Bool):=if num (aB l) (wid (p.ah:Int))<p.ah then some (num (aB l) (wid (p.ah:Int)),l.drop (wid (p.ah:Int)))else none
theorem b41(w:Nat):l=l.take w++l.drop w:=(Hi w l).symm
theorem b40:(bL n w++r).drop w=r:=by
 simp
theorem c4V(w:Nat):((2^w:Nat):Int)=2^w:=sJ
theorem codeP:Code (λp:Pr=>p.ah<=65536) (λp:Pr=>wid (p.ah:Int)) a4S decP (λp n=>n<p.ah) where
 enc:=by
  intro p n r ha h;have h1:=b5P (n:=(p.ah:Int)) (by have:=ha;omega);have e:num (aB (a4S p n++r)) (wid (p.ah:Int))=n:=by
   have:=b7L (n:=(n:Int)) (w:=wid (p.ah:Int)) (r:=r);rw[GQ oJ oJ]at this;unfold a4S;omega
  simp_all[decP,a4S]
 dec:=by
  intro p l b r ha hl hd;unfold decP at hd;split at hd
  .rename_i c
   simp only[Gn,Iq]at hd;obtain⟨rfl,rfl⟩:=hd;grind[a4S,b1e,b41]
  .cases hd
 len:=by simp[a4S]
def a45(v:Vr)(n:Int):List Bool:=bL n v.width.toNat
def decV(v:Vr)(l:List Bool):Option (Int×List Bool):=some (a0d (aB l) v.width.toNat,l.drop v.width.toNat)
theorem codeV:Code (λv:Vr=>1<=v.width) (λv:Vr=>v.width.toNat) a45 decV (λv n=>W3 n v.width.toNat=n) where
 enc:=by
  grind[decV,a45,b83,b40]
 dec:=by
  intro v l b r ha hl hd;have ha:=ha;unfold decV at hd;simp only[Gn,Iq]at hd;obtain⟨rfl,rfl⟩:=hd;grind[b16,a45,b5z,b41]
 len:=by simp[a45]
def a1T(w:Nat)(l:List Int):Nat->List Bool
 |0=>[]
 |k+1=>a1T w l k++bL (X9 l k) w
def a3Z(c:Ch)(l:List Int):List Bool:=bL (l.length:Int) 2++a1T c.width.toNat l c.room.toNat
def a3E(w n:Nat):Nat->List Bool->List Int×Bool×List Bool
 |0,l=>([],true,l)
 |k+1,l=>let x:=a3E w n k l
  if k<n then(x.1++[a0d (aB x.2.2) w],x.2.1,x.2.2.drop w)else(x.1,x.2.1&&decide (a0d (aB x.2.2) w=0),x.2.2.drop w)
def decC(c:Ch)(l:List Bool):Option (List Int×List Bool) :=
 let x:=a3E c.width.toNat (num (aB l) 2) c.room.toNat (l.drop 2)
 if(num (aB l) 2:Int)<=c.room/\x.2.1=true then some (x.1,x.2.2)else none
theorem a9D(w:Nat)(l:List Int):∀k,(a1T w l k).length=k*w
 |0=>by simp[a1T]
 |k+1=>by simp[a1T,a9D w l k,HO]
theorem b6h(w n:Nat):∀k l,(a3E w n k l).2.2=l.drop (k*w)
 |0,l=>by simp[a3E]
 |k+1,l=>by
  unfold a3E;simp only;split<;>simp only[b6h w n k l,Ih,HO]
theorem b2A(w n:Nat):∀k l,(a3E w n k l).1.length=min k n
 |0,l=>by simp[a3E]
 |k+1,l=>by
  unfold a3E;simp only;split
  .simp only[Fq,b2A w n k l,Hy];omega
  .simp only[b2A w n k l];omega
theorem b9x(h:0<w):W3 0 w=0:=by
 grind[a6b,a6Y]
theorem b69{w:Nat}(hw:0<w){l:List Int}(hl:∀n∈l,W3 n w=n):∀k r,a3E w l.length k (a1T w l k++r)=(l.take k,true,r)
 |0,r=>by simp[a3E,a1T]
 |k+1,r=>by
  unfold a3E a1T;rw[Fj,b69 hw hl k];grind[X9,b83,b40,List.take_succ_eq_append_getElem,b9x,List.take_of_length_le]
theorem b6d{w n:Nat}(hw:0<w):∀k l,∀x∈(a3E w n k l).1,W3 x w=x
 |0,l,x,hx=>by simp[a3E]at hx
 |k+1,l,x,hx=>by
  unfold a3E at hx;simp only at hx;split at hx
  .rcases Fm.1 hx with hx|hx
   .exact b6d hw k l x hx
   grind[b16]
  .exact b6d hw k l x hx
theorem c3e{l:List Int}{x:Int}(h:k<l.length):X9 (l++[x]) k=X9 l k:=by
 grind[X9]
theorem b9Z{w:Nat}{l:List Int}{x:Int}:∀{k},k<=l.length->a1T w (l++[x]) k=a1T w l k
 |0,_=>rfl
 |k+1,h=>by
  unfold a1T;rw[b9Z oJ,c3e oJ]
theorem b49{w n:Nat}(hw:0<w):∀k l,k*w<=l.length->(a3E w n k l).2.1=true->a1T w (a3E w n k l).1 k=l.take (k*w)
 |0,l,_,_=>by simp[a1T]
 |k+1,l,hl,ht=>by
  have kT:k*w<=l.length:=by grind
  have hd:=b6h w n k l;have hn:=b2A w n k l;unfold a3E at ht⊢;simp only at ht⊢;have hlen:w<=(l.drop (k*w)).length:=by grind
  have hv:=b5z hw hlen;have lu:l.take ((k+1)*w)=l.take (k*w)++(l.drop (k*w)).take w:=by rw[HO,List.take_add]
  split at ht
  .rename_i hk
   simp only[hk,FG]at ht⊢;have ih:=b49 hw k l kT ht;unfold a1T;rw[b9Z oJ,ih,lu,<- hv,hd];congr 2
   have e:(a3E w n k l).1.length=k:=oJ;unfold X9 List.getD;grind
  .rename_i hk
   simp only[hk,FF,Fo,Fy]at ht⊢;have ih:=b49 hw k l kT ht.1;grind[a1T,X9]
theorem codeC:Code (λc:Ch=>1<=c.width/\1<=c.room/\c.room<=3) (λc:Ch=>2+c.room.toNat*c.width.toNat) a3Z decC (λc l=>(l.length:Int)<=c.room/\∀n∈l,W3 n c.width.toNat=n) where
 enc:=by
  intro c l r ha h;obtain⟨a1,a2,a3⟩:=ha;have e:num (aB (a3Z c l++r)) 2=l.length:=by
   have:=b7L (n:=(l.length:Int)) (w:=2) (r:=a1T c.width.toNat l c.room.toNat++r);rw[GQ oJ oJ]at this;unfold a3Z;rw[Fj];omega
  unfold decC;simp only[e];have e2:(a3Z c l++r).drop 2=a1T c.width.toNat l c.room.toNat++r:=by
   unfold a3Z;rw[Fj,b40]
  rw[e2,b69 oJ h.2];simp only[h.1,HN,FG];grind[List.take_of_length_le]
 dec:=by
  intro c l b r ha hl hd;obtain⟨a1,a2,a3⟩:=ha;unfold decC at hd;simp only at hd;split at hd
  .rename_i c1
   simp only[Gn,Iq]at hd;obtain⟨rfl,rfl⟩:=hd;have hn:=b2A c.width.toNat (num (aB l) 2) c.room.toNat (l.drop 2);have hb:=b49 (w:=c.width.toNat) (n:=num (aB l) 2) oJ c.room.toNat (l.drop 2) (by rw[List.length_drop];omega) c1.2;grind[b6d,a3Z,b6h,b1e,b41]
  .cases hd
 len:=by simp[a3Z,a9D]
theorem b8A{α β:Type}{V:α->β->Prop}:∀{a:List α}{b:List β},a6x V a b↔a.length=b.length/\∀i(h:i<a.length)(h':i<b.length),V a[i] b[i]
 |[],[]=>by simp[a6x]
 |[],_::_=>by simp[a6x]
 |_::_,[]=>by simp[a6x]
 |x::a,y::b=>by
  have ih:=b8A (V:=V) (a:=a) (b:=b);simp only[a6x,ih,Gt];constructor
  .grind
  .rintro⟨h1,h2⟩
   exact⟨h2 0 sJ sJ,oJ,λi hi jF=>h2 (i+1) (sU hi) (sU jF)⟩
def Mo.pack(mo:Mo)(st:U6):List Bool:=a0X a4S mo.procs st.aF++a0X a45 mo.vars st.vars++a0X a3Z mo.ae st.ae++bL (st.hold+1) 3
def Mo.cd(mo:Mo):Nat:=cY (λp:Pr=>wid (p.ah:Int)) mo.procs+cY (λv:Vr=>v.width.toNat) mo.vars+cY (λc:Ch=>2+c.room.toNat*c.width.toNat) mo.ae+3
theorem c5F{st:U6}:Fit mo st↔a6x (λ(p:Pr)n=>n<p.ah) mo.procs st.aF/\a6x (λ(v:Vr)n=>W3 n v.width.toNat=n) mo.vars st.vars/\a6x (λ(c:Ch)(l:List Int)=>(l.length:Int)<=c.room/\∀n∈l,W3 n c.width.toNat=n) mo.ae st.ae/\-1<=st.hold/\st.hold<(mo.procs.length:Int):=by
 simp only[b8A];constructor
 .intro h
  exact⟨⟨h.aF.symm,λi a b=>h.pl i b a⟩,⟨h.vars.symm,λi a b=>h.vr i b a⟩,⟨h.ae.symm,λi a b=>⟨h.cl i b a,h.cv i b a⟩⟩,h.hold⟩
 .rintro⟨⟨a1,a2⟩,⟨b1,b2⟩,⟨c1,c2⟩,d⟩
  exact⟨a1.symm,b1.symm,c1.symm,λi a b=>a2 i b a,λi a b=>b2 i b a,λi a b=>(c2 i b a).1,λi a b=>(c2 i b a).2,d⟩
theorem b02{st:U6}(h:Fit mo st):(mo.pack st).length=mo.cd:=by
 obtain⟨h1,h2,h3,h4⟩:=c5F.1 h;simp only[Mo.pack,Mo.cd,Fq,a1r,(b4r codeP).len _ _ h1,(b4r codeV).len _ _ h2,(b4r codeC).len _ _ h3]
theorem c3Z(h:w<=16):IntKind.i64.wrap (a8G .i64 n (2^w-1))=n%2^w:=by
 show IntKind.i64.wrap ((BitVec.ofInt IntKind.i64.bits n &&& BitVec.ofInt IntKind.i64.bits (2^w-1)).toNat:Int)=n%2^w
 have hp:2^w<=2^16:=HQ oJ h;have jV:0<2^w:=GU sJ;have hc:((2^w:Nat):Int)=2^w:=sJ;have a2:(BitVec.ofInt IntKind.i64.bits (2^w-1)).toNat=2^w-1:=by
  rw[Iw,show IntKind.i64.bits=64 from rfl,<- hc,GQ oJ oJ];omega
 have e1:(BitVec.ofInt IntKind.i64.bits n &&& BitVec.ofInt IntKind.i64.bits (2^w-1)).toNat=(n%2^64).toNat%2^w:=by
  rw[JG,a2,Nat.and_two_pow_sub_one_eq_mod,Iw];rfl
 rw[e1];have h0:0<=n%2^64:=Is _ dJ;have hm:=Ja (n%2^64).toNat jV;rw[Z9 oJ oJ,Int.natCast_emod,Gx h0,hc];exact Hq _ (b2m (w:=w) (v:=64) oJ)
variable{P:D->k4->Prop}{iX:List D}
theorem c26{af T i t fo args rest s Q}{l:List D}(ids:List Nat)(hf:env.ev fo=.fn f iX)(hr:Y4 fs f l s λd s'=>P d s'/\Fr ids s s')(ha:env.aR args++iX=l)
 (he:∀e∈T,(e.i,i)∈af->∀id,e.rd=some id->id<s.next/\id∉ids)
 (h:∀d s',P d s'->Fr ids s s'->XX fs af (⟨i,none,ids++(List.range s'.next).filter λx=>s.next<=x⟩::T) rest ((t,d)::env) s' Q):WX fs af T ((i,⟨some t,.m (.call .raw fo args),none⟩)::rest) env s Q:=by
 subst ha;obtain⟨d,s',⟨n,hn⟩,h1,h2⟩:=hr;refine b1Y ⟨n,by simp only[cO,a3c,hf];exact hn⟩ (E:=ids++(List.range s'.next).filter λx=>s.next<=x) ?_ h2.1 ?_ (a5i (h d s' h1 h2))
 .intro id jb
  simp only[Fm,not_or]at jb;by_cases c:id<s.next
  .exact(h2.2 id c jb.1).symm
  .by_cases c2:id<s'.next
   .exact(jb.2 qJ).elim
   .rw[k4.get_none _ _ oJ,k4.get_none _ _ oJ]
 grind
theorem b9j(a b:List Bool):a0o (a++b)=a0o a++a0o b:=by simp[a0o]
theorem dB(l:List Bool):(a0o l).flatten=a57 l:=by
 induction l with
 |nil=>rfl
 |cons b l ih=>show[.bool b]++(a0o l).flatten=_;rw[ih];rfl
structure ft(s0 s:k4)(ids:List Nat)(A B R:Hs)(d:D)(l:List Bool)(E:Hs):Prop where
 rp:Rp d 1 (a0o l) E
 hp:Hp s (A++E++B) R
 fr:Fr ids s0 s
 nw:∀e∈E,e.1∈ids\/s0.next<=e.1
theorem ft.mk0{A B:Hs}(h:Rp d 1 (a0o l) E)(hp:Hp s (A++E++B) R):ft s s (E.map Prod.fst) A B R d l E :=
 ⟨h,hp,Fr.refl _ _,λe he=>.inl (Gy he)⟩
variable{s0:k4}
theorem b2S{t rest env K s d b A B R E}(h:ft s0 s ids A B R d l E)(hl:l.length<=1000000)
 (k:∀d' s' E',ft s0 s' ids A B R d' (l++[b]) E'->XQ fs [] rest ((t,d')::env) s' K):BM (a0e 1 1 d (.arr s.next 0 1 1) (s.push (.cells [.bool b]))) fs t rest env K:=by
 refine a9y (row:=[.bool b]) h.rp h.hp rfl (a5b _) dJ qJ λs' h1 h2 h3 h4=>k _ s' [(s.next+1,(a0o l++[[D.bool b]]).flatten)] ⟨?_,by grind,?_,?_⟩
 .rw[b9j];exact h1
 .refine⟨by have:=h.fr.1;omega,λj hj hn=>?_⟩
  have:=h.fr.1;rw[h4 j oJ λe he hc=>?_,h.fr.2 j hj hn];rcases h.nw e he with h5|h5
  .grind
  .omega
 .intro e he
  simp only[Fu]at he;subst he;have:=h.fr.1;omega
theorem ft.dI{A B:Hs}(h:ft s0 s ids A B R d l E):∃d',aK s.get 20 d=some d'/\FL 1 d' (a0o l):=a7y h.rp h.hp (λe he=>by simp[he]) (a5b _) (a98 _)
theorem c3X(n:Int):(n.tmod 2=0/\n%2=0/\n.tdiv 2=n/2)\/(n.tmod 2=1/\n%2=1/\n.tdiv 2=n/2)\/(n.tmod 2=-1/\n%2=1/\(n-1).tdiv 2=n/2):=by
 grind
theorem b9k(x:Int)(i:Nat):x/2^(i+1)=x/2^i/2:=by
 grind[Int.ediv_ediv_of_nonneg]
theorem c2b{x:Int}(hx:-65536<=x/\x<=65536):∀i:Nat,-65536<=x/2^i/\x/2^i<=65536
 |0=>sU hx
 |i+1=>by
  have:=c2b hx i;rw[b9k];omega
theorem tk_B{n:Nat}(h:n<l.length):List.take n (a57 l)++[.bool b]++List.drop (n+1) (a57 l)=a57 (l.set n b):=by
 grind[a8H,a57,List.map_set]
attribute [go_sem] tk_B c7h
def upB(l:List Bool)(w:Nat):List Bool:=l++List.replicate (w-l.length) false
theorem c8p(h:l.length<=w):(upB l w).length=w:=by simp[upB];omega
theorem c3x{e:Bool}(h:l.length<w):(upB l w).set l.length e=upB (l++[e]) w:=by
 unfold upB;rw[JZ _ _ (sm _),Nat.sub_self];obtain⟨k,hk⟩:=Nat.exists_eq_add_of_lt h;have e1:w-l.length=k+1:=oJ;grind
theorem c5U(h:l.length=w):upB l w=l:=by simp[upB,h]
theorem c65(w:Nat):a3l [.bool false] w=a57 (upB [] w):=by
 simp[b7b,upB]
theorem b3d{i t fo args rest s K}{l:List D}(hf:env.ev fo=.fn f iX)(hr:Y4 fs f l s P)(ha:env.aR args++iX=l)
 (h:∀d s',P d s'->XQ fs [] rest ((t,d)::env) s' K):WQ fs [] ((i,⟨some t,.m (.call .raw fo args),none⟩)::rest) env s K:=by
 subst ha;obtain⟨d,s',⟨n,hn⟩,hp⟩:=hr;exact b2o ⟨n,by simp only[cO,a3c,hf];exact hn⟩ (a3G (h d s' hp))
theorem Rp.exps{x:D}{bytes:Nat}{rows new:List (List D)}{E:Hs}(h:Rp d 1 rows E)(he:Y2 s E)(hx:FL 1 x new)(nH:∀r∈rows,r.length=1)(EG:∀r∈new,r.length=1)(hb:bytes<=1000)(hl:rows.length+new.length<=1000000000)(hn:new≠[]) :
 ∃s',a0e 1 bytes d x s=some (.arr s.next 0 (rows.length+new.length) 1,s')/\s'.next=s.next+1/\s'.get s.next=some (.cells (rows.flatten++new.flatten))/\∀id,id≠s.next->(∀e∈E,e.1≠id)->s'.get id=s.get id:=by
 have b3:bytes<=2^20:=FE hb dJ;obtain⟨r1,r2,r3⟩:=c1N hx (g:=s.get);have qH:new.length≠0:=sU hn;rcases h with⟨rfl,rfl,rfl⟩|⟨id,rfl,rfl,jt⟩
 .have b1:new.length*bytes<=2^45:=FE (GI (show new.length<=1000000000 from sU hl) hb) dJ
  have kE:new.length<=1000000000:=sU hl;refine⟨s.push (.cells new.flatten),?_,sJ,by rw[W8 rfl];simp,λj hj _=>by rw[k4.aO,so hj]⟩;unfold a0e;grind
 .have hf:=a8u nH
  have hg:s.get id=some (.cells rows.flatten):=he (id,rows.flatten) sJ;have b1:(rows.length+new.length)*bytes<=2^45:=FE (GI hl hb) dJ;refine⟨(s.set id none).push (.cells (rows.flatten++new.flatten)),?_,sJ,W8 sJ,λj hj hn=>?_⟩
  .unfold a0e
   grind
  .have:id≠j:=hn (id,rows.flatten) sJ
   rw[k4.aO,so (sU hj),Y8 this.symm]
theorem ft.exps{s0 s:k4}{ids:List Nat}{A B R E:Hs}{d x:D}{l r:List Bool}(h:ft s0 s ids A B R d l E)(hx:FL 1 x (a0o r))(hl:l.length<=1000000)(hr:r.length<=1000)(hn:r≠[]) :
 ∃d' s' E',a0e 1 1 d x s=some (d',s')/\ft s0 s' ids A B R d' (l++r) E'/\s.next<=s'.next/\∀id,id∉s.next::E.map Prod.fst->s.get id=s'.get id:=by
 have he:Y2 s E:=λy hy=>h.hp.w y (by simp[hy])
 obtain⟨s',h1,h2,h3,h4⟩:=h.rp.exps (bytes:=1) he hx (a5b _) (a5b _) dJ qJ (by simpa[a0o]using hn);have iW:=h.fr.1;refine⟨_,s',[(s.next,(a0o (l++r)).flatten)],h1,⟨?_,?_,?_,?_⟩,oJ,λid jb=>?_⟩
 .refine .inr ⟨s.next,?_,rfl,?_⟩
  .simp
  .simp[a0o,hn]
 .have hp:=h.hp
  have tG:=hp.nd;have jq:=λw hw=>t3 (hp.w w hw)
  have zA:=λw hw=>t3 (hp.r w hw)
  have AZ:∀w∈A++B,∀e∈E,e.1≠w.1:=by
   intro w hw e mF heq;rw[FK,FK,GP,GP]at tG;obtain⟨⟨n1,n2,n3⟩,n4,n5⟩:=tG;rcases Fm.1 hw with hw|hw
   .exact n3 _ (Gy hw) _ (Gy mF) heq.symm
   .exact n5 _ (Hz _ (Gy mF)) _ (Gy hw) heq
  have Ab:=(hp.sub (W':=A++B) (R':=R) (Kr (Jz A E) (Ib B)) λ_ h=>h).nd;refine⟨?_,?_,?_,?_⟩
  .rw[FK,FK,GP,GP]
   rw[FK,GP]at Ab;obtain⟨n1,n2,n3⟩:=Ab;refine⟨⟨n1,sJ,?_⟩,n2,?_⟩
   .intro a ha b hb
    simp only[FJ,HZ,Fu]at hb;obtain⟨w,hw,rfl⟩:=Fs.1 ha;have:=jq w (by simp[hw]);omega
   .intro a ha b hb
    rcases Fm.1 ha with ha|ha
    .exact n3 a ha b hb
    .simp only[FJ,HZ,Fu]at ha
     obtain⟨w,hw,rfl⟩:=Fs.1 hb;have:=jq w (by simp[hw]);omega
  .intro w hw q hq
   have:=zA q hq;rcases Fm.1 hw with hw|hw
   .rcases Fm.1 hw with hw|hw
    .exact hp.ap w (by simp[hw]) q hq
    .simp only[Fu]at hw
     subst hw;simp only;omega
   .exact hp.ap w (by simp[hw]) q hq
  .intro w hw
   rcases Fm.1 hw with hw|hw
   .rcases Fm.1 hw with hw|hw
    .have:=jq w (by simp[hw])
     rw[h4 _ oJ (AZ w (by simp[hw]))];exact hp.w w (by simp[hw])
    .simp only[Fu]at hw
     subst hw;rw[b9j,Kp];exact h3
   .have:=jq w (by simp[hw])
    rw[h4 _ oJ (AZ w (by simp[hw]))];exact hp.w w (by simp[hw])
  .intro w hw
   have:=zA w hw;rw[h4 _ oJ λe mF=>hp.ap e (by simp[mF]) w hw];exact hp.r w hw
 .refine⟨oJ,λj hj hjn=>?_⟩
  rw[h4 j oJ λe mF heq=>?_,h.fr.2 j hj hjn];rcases h.nw e mF with h5|h5
  .exact hjn (heq▸h5)
  .omega
 .intro e mF
  simp only[Fu]at mF;subst mF;exact .inr (by simp only;omega)
 grind
theorem a7K{t rest env K s d x A B R E}(h:ft s0 s ids A B R d l E)(hx:FL 1 x (a0o r))(hl:l.length<=1000000)(hr:r.length<=1000)(hn:r≠[])
 (k:∀d' s' E',ft s0 s' ids A B R d' (l++r) E'->XQ fs [] rest ((t,d')::env) s' K):BM (a0e 1 1 d x s) fs t rest env K:=by
 obtain⟨d',s',E',h1,h2,_⟩:=h.exps hx hl hr hn;rw[h1];exact k d' s' E' h2
theorem c4I{af T i}{t rest env K s d x A B R E}(h:ft s0 s ids A B R d l E)(hx:FL 1 x (a0o r))(hl:l.length<=1000000)(hr:r.length<=1000)(hn:r≠[])(he:a2b af i (s.next::E.map Prod.fst) T)
 (k:∀d' s' E' T',ft s0 s' ids A B R d' (l++r) E'->XX fs af T' rest ((t,d')::env) s' K):MX d x 1 1 i fs af T t rest env s K:=by
 obtain⟨d',s',E',h1,h2,h3,h4⟩:=h.exps hx hl hr hn;exact⟨d',s',_,h1,h3,h4,he,k d' s' E' _ h2⟩
def dN(s0 s:k4)(R:Hs)(d:D)(l:List Bool)(E:Hs):Prop:=ft s0 s [] [] [] R d l E
variable{s':k4}
theorem ft.base{R' E':Hs}{d':D}{l':List Bool}(h:ft s s' (E.map Prod.fst) [] [] R' d' l' E')(h0:dN s0 s R d l E):dN s0 s' R' d' l' E':=by
 have nE:∀i∈E.map Prod.fst,s0.next<=i:=λi hi=>by
  obtain⟨e,he,rfl⟩:=Fs.1 hi;rcases h0.nw e he with h|h
  .simp at h
  .exact h
 refine⟨h.rp,h.hp,⟨FE h0.fr.1 h.fr.1,λj hj _=>?_⟩,λe he=>.inr ?_⟩
 .rw[h.fr.2 j (Gq hj h0.fr.1) λhc=>by have:=nE j hc;omega,h0.fr.2 j hj sJ]
 .rcases h.nw e he with h|h
  .exact nE _ h
  .exact FE h0.fr.1 h
theorem dN.mv(h:dN s0 s R d l E)(hf:Fr [] s s'):dN s0 s' R d l E :=
 ⟨h.rp,h.hp.fr hf,h.fr.trans hf sJ,h.nw⟩
theorem dN.nil(h:Y2 s R)(hf:Fr [] s0 s):dN s0 s R .ag [] []:=⟨.inl ⟨rfl,rfl,rfl⟩,⟨Hk,sJ,by simp[Y2],h⟩,hf,sJ⟩
theorem a1Q{z o:Z7}:Fr [] s ((s.push z).set s.next (some o)):=(Fr.push _).aC _ (.inr (sm _))
theorem a61(h:1<=w):bL n w≠[]:=by
 grind[a1r]
theorem b1F{α β:Type}{e:α->β->List Bool}:∀{a:List α}{b:List β}{i:Nat}(h:i<a.length)(h':i<b.length),a0X e (a.take (i+1)) (b.take (i+1))=a0X e (a.take i) (b.take i)++e a[i] b[i]
 |x::a,y::b,0,_,_=>by simp[a0X]
 |x::a,y::b,i+1,h,h'=>by
  simp only[Il,a0X,IB,Fj];rw[b1F (sU h) (sU h')]
def Mo.pkA(mo:Mo)(st:U6)(i:Nat):List Bool:=a0X a4S (mo.procs.take i) (st.aF.take i)
def Mo.gK(mo:Mo)(st:U6)(i:Nat):List Bool:=mo.pkA st mo.procs.length++a0X a45 (mo.vars.take i) (st.vars.take i)
def Mo.fQ(mo:Mo)(st:U6)(i:Nat):List Bool:=mo.gK st mo.vars.length++a0X a3Z (mo.ae.take i) (st.ae.take i)
theorem b7v{st:U6}(h:i<mo.procs.length)(h':i<st.aF.length):mo.pkA st (i+1)=mo.pkA st i++bL (W2 st.aF i:Int) (wid ((k7 mo.procs i).ah:Int)):=by
 unfold Mo.pkA;rw[b1F h h',a12 h,a4e h'];rfl
theorem b7q{st:U6}(h:i<mo.vars.length)(h':i<st.vars.length):mo.gK st (i+1)=mo.gK st i++bL (X9 st.vars i) (bh mo.vars i).width.toNat:=by
 unfold Mo.gK;rw[b1F h h',a3x h,a26 h',Fj];rfl
theorem b7r{st:U6}(h:i<mo.ae.length)(h':i<st.ae.length):mo.fQ st (i+1)=mo.fQ st i++bL ((U8 st.ae i).length:Int) 2++a1T (U7 mo.ae i).width.toNat (U8 st.ae i) (U7 mo.ae i).room.toNat:=by
 unfold Mo.fQ;rw[b1F h h',a2W h,a3X h',Fj,Fj];rfl
theorem b8C{st:U6}(h1:st.aF.length=mo.procs.length)(h2:st.vars.length=mo.vars.length)(h3:st.ae.length=mo.ae.length):mo.fQ st mo.ae.length++bL (st.hold+1) 3=mo.pack st:=by
 grind[Mo.fQ,Mo.gK,Mo.pkA,Mo.pack]
theorem b3a{α β:Type}{e:α->β->List Bool}{k:Nat}:∀(a:List α)(b:List β),(∀x∈a,∀b,(e x b).length<=k)->(a0X e a b).length<=k*a.length
 |[],b,_=>by cases b<;>simp[a0X]
 |x::a,[],_=>by simp[a0X]
 |x::a,y::b,he=>by
  simp only[a0X,Fq,Gt,Nat.mul_succ];have:=b3a a b λz hz=>he z (by simp[hz])
  grind
theorem a6C(ho:Z3 mo)(hf:a0P mo)(st:U6)(i:Nat):(mo.pkA st i).length<=1000/\(mo.gK st i).length<=1000/\(mo.fQ st i).length<=1000:=by
 have h1:∀i,(mo.pkA st i).length<=16*4:=λi=>by
  refine FE (b3a (k:=16) _ _ λp _ n=>?_) (Ip _ ?_)
  .simp only[a4S,a1r];exact(a5P _).2
  .rw[GO];have:=ho.np;omega
 have h2:∀i,(a0X a45 (mo.vars.take i) (st.vars.take i)).length<=8*8:=λi=>by
  refine FE (b3a (k:=8) _ _ λv hv n=>?_) (Ip _ ?_)
  .simp only[a45,a1r];have:=hf.vr v (Gh hv);omega
  .rw[GO];have:=ho.nv;omega
 have h3:∀i,(a0X a3Z (mo.ae.take i) (st.ae.take i)).length<=26*3:=λi=>by
  refine FE (b3a (k:=26) _ _ λc hc n=>?_) (Ip _ ?_)
  .have hw:=hf.ch c (Gh hc)
   simp only[a3Z,Fq,a1r,a9D];have:c.room.toNat*c.width.toNat<=3*8:=GI oJ oJ;omega
  .rw[GO];have:=ho.nc;omega
 grind[Mo.fQ,Mo.gK]
theorem b2C{l:List Int}(h:¬k<l.length):X9 l k=0:=by grind[X9]
theorem b1S(w:Nat)(l:List Int)(k:Nat):a1T w l (k+1)=a1T w l k++bL (X9 l k) w:=rfl
theorem dN.apart(h:dN s0 s R d l E){r:Nat×List D}(hr:r∈R):r.1∉E.map Prod.fst:=λhm=>by
 obtain⟨e,he,h1⟩:=Fs.1 hm;exact h.hp.ap e (by simp[he]) r hr h1
theorem dN.lt(h:dN s0 s R d l E)(hm:id∈E.map Prod.fst):id<s.next:=by
 obtain⟨e,he,h1⟩:=Fs.1 hm;rw[<- h1];exact t3 (h.hp.w e (by simp[he]))
theorem dN.sub{s0 s:k4}{R R' E:Hs}{d:D}{l:List Bool}(h:dN s0 s R d l E)(hr:∀x∈R',x∈R):dN s0 s R' d l E :=
 ⟨h.rp,h.hp.sub (Ib _) hr,h.fr,h.nw⟩
theorem dN.box(h:dN s0 s R d l E){z:Z7}:dN s0 ((s.push z).set s.next (some (.cells cs))) ((s.next,cs)::R) d l E:=by
 have h2:=h.mv (a1Q (z:=z) (o:=.cells cs));refine⟨h.rp,h2.hp.addR1 (a0b sJ) λw hw heq=>?_,h.fr.trans a1Q sJ,h.nw⟩;have se:w∈E:=sU hw;have:=h.lt (Gy se);omega
variable{k:IntKind}
theorem ix_bB(h:FL 1 d (a0o l))(hi:i<l.length):W7 1 d (.int k (i:Int))=some (.fp [.bool (aB l i)] 0):=by rw[ix_b h hi];rfl
theorem bAt_aB:bAt l i=aB l i:=rfl
attribute [go_sem] bAt_aB
theorem b5Q{α:Type}{sz:α->Nat}{l:List α}(h:i<l.length):cY sz (l.take (i+1))=cY sz (l.take i)+sz l[i]:=by
 grind[cY,List.take_succ_eq_append_getElem]
theorem b2x{α:Type}{sz:α->Nat}{k:Nat}:∀(l:List α),(∀x∈l,sz x<=k)->cY sz l<=k*l.length
 |[],_=>by simp[cY]
 |x::l,h=>by
  have:=b2x l λy hy=>h y (by simp[hy])
  grind[cY,Nat.mul_succ]
theorem c6R(h:i<mo.procs.length):cY (λp:Pr=>wid (p.ah:Int)) (mo.procs.take (i+1))=cY (λp:Pr=>wid (p.ah:Int)) (mo.procs.take i)+wid ((k7 mo.procs i).ah:Int):=by rw[b5Q h,a12 h]
theorem c4b(h:i<mo.vars.length):cY (λv:Vr=>v.width.toNat) (mo.vars.take (i+1))=cY (λv:Vr=>v.width.toNat) (mo.vars.take i)+(bh mo.vars i).width.toNat:=by rw[b5Q h,a3x h]
theorem c44(h:i<mo.ae.length):cY (λc:Ch=>2+c.room.toNat*c.width.toNat) (mo.ae.take (i+1))=cY (λc:Ch=>2+c.room.toNat*c.width.toNat) (mo.ae.take i)+(2+(U7 mo.ae i).room.toNat*(U7 mo.ae i).width.toNat):=by rw[b5Q h,a2W h]
theorem b7a(ho:Z3 mo)(i:Nat):cY (λp:Pr=>wid (p.ah:Int)) (mo.procs.take i)<=64:=by
 refine FE (b2x (k:=16) _ λp _=>(a5P _).2) ?_;rw[GO];have:=ho.np;omega
theorem b9L(ho:Z3 mo)(hf:a0P mo)(i:Nat):cY (λv:Vr=>v.width.toNat) (mo.vars.take i)<=64:=by
 refine FE (b2x (k:=8) _ λv hv=>?_) ?_
 .have:=hf.vr v (Gh hv);omega
 .rw[GO];have:=ho.nv;omega
theorem c2j(ho:Z3 mo)(hf:a0P mo)(i:Nat):cY (λc:Ch=>2+c.room.toNat*c.width.toNat) (mo.ae.take i)<=78:=by
 refine FE (b2x (k:=26) _ λc hc=>?_) ?_
 .have hw:=hf.ch c (Gh hc)
  have:c.room.toNat*c.width.toNat<=3*8:=GI oJ oJ;omega
 .rw[GO];have:=ho.nc;omega
theorem b1P(ho:Z3 mo)(hf:a0P mo):mo.cd<=300:=by
 have h1:=b7a ho mo.procs.length;have h2:=b9L ho hf mo.vars.length;have h3:=c2j ho hf mo.ae.length;grind[Mo.cd]
structure gL(s:k4)(x:bH)(st:U6):Prop where
 a:SN s 1 x.da (a0i st.aF)
 v:SN s 1 x.dv (a1o st.vars)
 c:∃qs:List D,SN s 1 x.dc (qs.map λq=>[q])/\qs.length=st.ae.length/\∀j,j<qs.length->eU s (iD qs j) (U8 st.ae j)
theorem FL.sn{n:Nat}(h:FL n d rows):SN s n d rows:=by
 rcases h with⟨rfl,h⟩|rfl
 .exact .inl ⟨rfl,h⟩
 .exact .inr (.inr rfl)
variable{l:List Int}
theorem FL.chr(h:FI d l):eU s d l:=by
 rcases h with⟨rfl,h⟩|rfl
 .exact .inl ⟨rfl,by simp_all⟩
 .exact .inr (.inl rfl)
variable{x:bH}
theorem eR.u{st:U6}(h:eR x st):gL s x st:=by
 obtain⟨ds,h1,h2,h3⟩:=h.c;refine⟨h.a.sn,FL.sn h.v,ds,h1.sn,h2,λj hj=>?_⟩;grind[b0W,a3X,FL.chr]
theorem eU.stay(h:eU s q l)(hf:Fr [] s s'):eU s' q l:=by
 rcases h with h|h|⟨id,off,cs,rfl,h1,h2,h3⟩
 .exact .inl h
 .exact .inr (.inl h)
 .exact .inr (.inr ⟨id,off,cs,rfl,by rw[hf.2 _ (t3 h1) sJ,h1],h2,h3⟩)
theorem gL.stay{s s':k4}{x:bH}{st:U6}(h:gL s x st)(hf:Fr [] s s'):gL s' x st:=by
 obtain⟨a,v,qs,h1,h2,h3⟩:=h;exact⟨a.stay hf,v.stay hf,qs,h1.stay hf,h2,λj hj=>(h3 j hj).stay hf⟩
theorem gL.aw{st:U6}(h:gL s x st):V5 x.da=true/\V5 x.dv=true/\V5 x.dc=true:=by
 obtain⟨a,v,qs,h1,_⟩:=h;exact⟨a.one,v.one,h1.one⟩
theorem gL.lens{st:U6}(h:gL s x st):a0x false x.da=some (.int .i64 (st.aF.length:Int))/\a0x false x.dv=some (.int .i64 (st.vars.length:Int))/\a0x false x.dc=some (.int .i64 (st.ae.length:Int)):=by
 obtain⟨a,v,qs,h1,h2,_⟩:=h;exact⟨by simpa[a0i]using a.len,by simpa[a1o]using v.len,by simpa[h2]using h1.len⟩
theorem gL.ixA{st:U6}(h:gL s x st)(hi:i<st.aF.length):∃p,W7 1 x.da (.int .i64 (i:Int))=some p/\bF s.get none p=some (.int .i64 (W2 st.aF i:Int)):=by
 obtain⟨p,h1,h2,_⟩:=h.a.iy (a4M _) (i:=i) (by simp_all) (c:=.int .i64 (W2 st.aF i:Int)) (by simp[a0i,a4e hi]) rfl dJ;exact⟨p,h1,h2⟩
theorem gL.ixV{st:U6}(h:gL s x st)(hi:i<st.vars.length):∃p,W7 1 x.dv (.int .i64 (i:Int))=some p/\bF s.get none p=some (.int .i64 (X9 st.vars i)):=by
 obtain⟨p,h1,h2,_⟩:=h.v.iy (a8y _) (i:=i) (by simp_all) (c:=.int .i64 (X9 st.vars i)) (by simp[a1o,a26 hi]) rfl dJ;exact⟨p,h1,h2⟩
theorem gL.ixC{st:U6}(h:gL s x st)(hi:i<st.ae.length):∃p q,W7 1 x.dc (.int .i64 (i:Int))=some p/\bF s.get none p=some q/\eU s q (U8 st.ae i):=by
 obtain⟨a,v,qs,h1,h2,h3⟩:=h;have hc:=h3 i oJ;obtain⟨p,k1,k2,_⟩:=h1.iy (λr hr=>by obtain⟨x,_,rfl⟩:=Fs.1 hr;rfl) (i:=i) qJ (c:=iD qs i) (by simp[b0W (show i<qs.length by omega)]) hc.one dJ;grind
theorem eU.len(h:eU s q l):a0x false q=some (.int .i64 (l.length:Int)):=by
 rcases h with⟨rfl,rfl⟩|rfl|⟨id,off,cs,rfl,_⟩
 .rfl
 .exact ln_i (.inr rfl)
 .rfl
theorem eU.ix(h:eU s q l)(hi:i<l.length):∃p,W7 1 q (.int .i64 (i:Int))=some p/\bF s.get none p=some (.int .i64 (X9 l i)):=by
 rcases h with⟨rfl,rfl⟩|rfl|⟨id,off,cs,rfl,h1,h2,h3⟩
 .simp at hi
 .obtain⟨p,k1,k2,_⟩:=SN.iy (s:=s) (.inr (.inr rfl)) (a8y l) (i:=i) (by simp_all) (c:=.int .i64 (X9 l i)) (by simp[a1o,a26 hi]) rfl dJ
  exact⟨p,k1,k2⟩
 .refine⟨.ptr id (off+i),?_,?_⟩
  .simp_all[W7]
  .have e:cs[off+i]?=some (.int .i64 (X9 l i)):=by
    have:=Ig (λx=>x[i]?) h3;simp only[List.getElem?_take,hi,FG,Jc]at this;rw[this,a26 hi];simp[a0w,hi]
   simp only[bF,h1,a2V,e];try rfl
def U1(A:Nat->Bool)(w:Nat):List Bool:=(List.range w).map A
def U3(l:List Bool):List D:=l.map λb=>.int .i64 (V6 b)
@[simp] theorem a38(A:Nat->Bool)(w:Nat):(U1 A w).length=w:=by simp[U1]
@[simp] theorem a5p(l:List Bool):(U3 l).length=l.length:=by simp[U3]
variable{A:Nat->Bool}
theorem a4I{B:Nat->Bool}(h:∀i,i<w->A i=B i):U1 A w=U1 B w:=HT λi hi=>h i (FU.1 hi)
theorem a8z(h:i<w):aB (U1 A w) i=A i:=by simp[aB,U1,List.getD,h]
theorem a5r(l:List Bool):U1 (aB l) l.length=l:=by
 apply HB
 .simp
 grind[U1,aB]
theorem b9V(h:0<w):U1 A w=bL (a0d A w) w:=a4I ((b3m h).1 (by rw[b22 h,b16 h]))
theorem c05(n:Int)(w:Nat):bL n w=U1 (W1 n) w:=rfl
theorem a9B:bL (W3 n w) w=bL n w:=b7M c17
theorem b5O(h:i<w):aB (bL n w) i=W1 n i:=b0P h
theorem c7c(l:List Bool):(U3 l).all V5=true:=by simp[U3,V5]
theorem Rd.fr{l:List D}(h:Rd s d l)(f:Fr [] s s'):Rd s' d l:=by
 rcases h with h|h|⟨id,off,cs,rfl,h1,h2,h3⟩
 .exact .inl h
 .exact .inr (.inl h)
 .exact .inr (.inr ⟨id,off,cs,rfl,by rw[f.2 _ (t3 h1) sJ,h1],h2,h3⟩)
def VB(s:k4)(d:D)(l:List Bool):Prop:=Rd s d (U3 l)
theorem VB.fr{s s':k4}{d:D}{l:List Bool}(h:VB s d l)(f:Fr [] s s'):VB s' d l:=Rd.fr h f
theorem VB.one{s:k4}{d:D}{l:List Bool}(h:VB s d l):V5 d=true:=Rd.one h
theorem VB.len{s:k4}{d:D}{l:List Bool}(h:VB s d l):a0x false d=some (.int .i64 (l.length:Int)):=by rw[Rd.len h,a5p]
theorem VB.fG(h:VB s d (U1 A w)):a0x false d=some (.int .i64 (w:Int)):=by rw[h.len,a38]
theorem VB.idx{s:k4}{d:D}{l:List Bool}(h:VB s d l){i:Nat}(hi:i<l.length){k:IntKind}:∃p,W7 1 d (.int k (i:Int))=some p/\bF s.get none p=some (.int .i64 (V6 (aB l i))):=by
 obtain⟨p,h1,h2⟩:=Rd.idx h (c7c l) (i:=i) (sU hi) (k:=k) rfl;grind[U3,aB]
theorem VB.cQ(h:VB s d (U1 A w))(hi:i<w):∃p,W7 1 d (.int k (i:Int))=some p/\bF s.get none p=some (.int .i64 (V6 (A i))):=by
 have:=h.idx (i:=i) (sU hi) (k:=k);grind[a8z]
theorem VB.arr{s:k4}{b w:Nat}{l:List Bool}(h:s.get b=some (.cells (U3 l)))(hw:l.length=w):VB s (.arr b 0 w 1) l:=by
 have:=Rd.arr h;rwa [a5p,hw]at this
theorem VB.fh{l l':List Bool}(h:VB s d l)(e:l=l'):VB s d l':=e▸h
theorem a2c(w:Nat):a3l [.int .i64 0] w=U3 (U1 (λ_=>false) w):=by
 have:∀w,a3l [.int .i64 0] w=List.replicate w (.int .i64 0):=λw=>by
  induction w with
  |zero=>rfl
  |succ w ih=>simp[a3l,ih,Hw]
 rw[this];apply HB
 .simp
 simp[U3,U1,V6]
theorem b9g(h:i<w)(b:Bool):List.take i (U3 (U1 A w))++.int .i64 (V6 b)::List.drop (i+1) (U3 (U1 A w))=U3 (U1 (λj=>if j=i then b else A j) w):=by
 apply HB
 .simp;omega
 grind[U3,U1]
theorem a3P:V6 true=1:=rfl
theorem a4Q:V6 false=0:=rfl
theorem I8.tr(h:I8 n):W3 n 8=n:=a6Y dJ (by have:=h.1;assumption) (by have:=h.2;omega)
theorem I8.bv(h:I8 n):a0d (W1 n) 8=n:=by rw[b22 dJ,h.tr]
theorem b0s(e:a0d A 8=n):U1 A 8=bL n 8:=by rw[b9V dJ,e]
theorem c2a(w:Nat):U1 (λ_=>false) w=bL 0 w:=by
 rw[c05];exact a4I λi _=>by simp[W1]
variable{x y:Int}
theorem add_b(hx:I8 x)(hy:I8 y):U1 (a2O (W1 x) (W1 y) false) 8=bL (W3 (x+y) 8) 8:=b0s (by rw[c6c dJ,hx.bv,hy.bv])
theorem b9h(hx:I8 x)(hy:I8 y):U1 (a2O (W1 x) (λj=>!W1 y j) true) 8=bL (W3 (x-y) 8) 8:=b0s (by rw[c4N dJ,hx.bv,hy.bv])
theorem mul_b(hx:I8 x)(hy:I8 y):U1 (a6X (W1 x) (W1 y) 8) 8=bL (W3 (x*y) 8) 8:=b0s (by rw[c8h dJ,hx.bv,hy.bv])
theorem quo_b(hx:I8 x)(hy:I8 y):U1 (λi=>decide (y≠0)&&X1 (W1 x 7 != W1 y 7) (a1C (X1 (W1 x 7) (W1 x)) (X1 (W1 y 7) (W1 y)) 8) i) 8=bL (fD 3 x y 8) 8:=by
 show _=bL (if y=0 then 0 else W3 (x.tdiv y) 8) 8
 by_cases h:y=0
 .subst h
  rw[Fk rfl,<- c2a];simp
 .rw[so h]
  have:=c8M (X:=W1 x) (Y:=W1 y) (w:=8) dJ (by rw[hy.bv];exact h);rw[hx.bv,hy.bv]at this;simp_all[b0s]
theorem rem_b(hx:I8 x)(hy:I8 y):U1 (λi=>decide (y≠0)&&X1 (W1 x 7) (a2o (X1 (W1 x 7) (W1 x)) (X1 (W1 y 7) (W1 y)) 8 8) i) 8=bL (fD 4 x y 8) 8:=by
 show _=bL (if y=0 then 0 else W3 (x.tmod y) 8) 8
 by_cases h:y=0
 .subst h
  rw[Fk rfl,<- c2a];simp
 .rw[so h]
  have:=c70 (X:=W1 x) (Y:=W1 y) (w:=8) dJ (by rw[hy.bv];exact h);rw[hx.bv,hy.bv]at this;simp_all[b0s]
theorem less_b(hx:I8 x)(hy:I8 y):a5F (λi=>if i=7 then !W1 x i else W1 x i) (λi=>if i=7 then !W1 y i else W1 y i) 8=decide (x<y):=by
 have:=c6p (A:=W1 x) (B:=W1 y) (w:=8) dJ;rwa [hx.bv,hy.bv]at this
theorem same_b(hx:I8 x)(hy:I8 y):a7B (W1 x) (W1 y) 8=decide (x=y):=by
 rw[c6q dJ,hx.bv,hy.bv]
def a0U(A:Nat->Bool):Nat->Bool
 |0=>false
 |i+1=>a0U A i||A i
def a4N(A:Nat->Bool):Nat->Bool
 |0=>true
 |i+1=>a4N A i&&A i
theorem a5B{A:Nat->Bool}:∀{n:Nat},a0U A n=true↔∃i,i<n/\A i=true
 |0=>by simp[a0U]
 |n+1=>by
  rw[a0U,Gg,a5B];grind
theorem b8Y{A:Nat->Bool}:∀{n:Nat},a4N A n=true↔∀i,i<n->A i=true
 |0=>by simp[a4N]
 |n+1=>by
  rw[a4N,Fo,b8Y];grind
theorem b6Q{A B:Nat->Bool}:∀{n:Nat},(∀i,i<n->A i=B i)->a0U A n=a0U B n
 |0,_=>rfl
 |n+1,h=>by rw[a0U,a0U,b6Q λi hi=>h i oJ,h n oJ]
theorem b90{A B:Nat->Bool}:∀{n:Nat},(∀i,i<n->A i=B i)->a4N A n=a4N B n
 |0,_=>rfl
 |n+1,h=>by rw[a4N,a4N,b90 λi hi=>h i oJ,h n oJ]
theorem a8i(hx:I8 x):a0U (W1 x) 8=decide (x≠0):=by
 rw[FV,a5B,Fy];have:=c4K (f:=W1 x) (w:=8) dJ;rw[hx.bv]at this;grind
theorem b4Q{v:Nat}(hv:0<v)(hw:0<w):U1 (λi=>W1 n (min i (v-1))) w=bL (W3 n v) w:=by
 rw[b9V hw,c8w hv hw,b22 hv,a9B]
def a4Y(n k:Int)(i:Nat):Bool:=if W1 k i then W1 n i else !W1 n i
theorem eq_b{n k:Nat}(hn:n<2^w)(hk:k<2^w):a4N (a4Y n k) w=decide (n=k):=by
 rw[FV,b8Y,Fy];have h1:=a6M (n:Int) w;have h2:=a6M (k:Int) w;have e:((2^w:Nat):Int)=2^w:=sJ;rw[<- e,GQ oJ oJ]at h1 h2;constructor
 .grind[a5e,a4Y]
 .rintro rfl i hi
  simp[a4Y]
def cJ(A K:Nat->Bool):Nat->Bool
 |0=>true
 |i+1=>if K i then !A i||cJ A K i else !A i&&cJ A K i
theorem b9c(A K:Nat->Bool):∀n,cJ A K n=decide (num A n<=num K n)
 |0=>by simp[cJ,num]
 |n+1=>by
  have h1:=a2g A n;have h2:=a2g K n;rw[cJ,b9c A K n,num,num];grind[b2n]
theorem most_b{n k:Nat}(hn:n<2^w)(hk:k<2^w):cJ (W1 (n:Int)) (W1 (k:Int)) w=decide (n<=k):=by
 have h1:=a6M (n:Int) w;have h2:=a6M (k:Int) w;have e:((2^w:Nat):Int)=2^w:=sJ;rw[<- e,GQ oJ oJ]at h1 h2;grind[b9c]
theorem Fr.kp(h:Fr [] s s'){o:Z7}(hg:s.get id=some o):s'.get id=some o:=by rw[h.2 _ (t3 hg) sJ,hg]
end Go.V
namespace Go.V
variable{fs:FuncId->Option U4}{k:IntKind}{d q:D}{env:k6}{b:Bool}{n x:Int}{l:List Int}{s s0 s':k4}{P:D->k4->Prop}{f:FuncId}{args cs:List D}{t:List Nd}{Q:Prop}{i j id w:Nat}{p:Pr}{E R:Hs}{A:Nat->Bool}{r:List Bool}
theorem Fr.st{b:Nat}(h:Fr [] s0 s)(hb:s0.next<=b)(o:Option Z7):Fr [] s0 (s.set b o):=h.aC _ (.inr hb)
def CB(fs:FuncId->Option U4)(f:FuncId)(l:List D)(s:k4)(b:Bool):Prop:=Y4 fs f l s λr s'=>r=.int .i64 (V6 b)/\Fr [] s s'
variable{l:List D}
theorem xb{i t f args rest s K}(hr:CB fs f l s b)(h:∀s',Fr [] s s'->XQ fs [] rest ((t,.int .i64 (V6 b))::env) s' K)(ha:env.aR args=l:=by rfl):WQ fs [] ((i,⟨some t,.m (.call .raw (.aL (.fn f [])) args),none⟩)::rest) env s K :=
 a0M hr ha λ_ s' hp=>by
  grind
theorem xs{i t f args rest s K}(hr:Y4 fs f l s λr s'=>r=d/\s'=s)(h:XQ fs [] rest ((t,d)::env) s K)(ha:env.aR args=l:=by rfl):WQ fs [] ((i,⟨some t,.m (.call .raw (.aL (.fn f [])) args),none⟩)::rest) env s K :=
 a0M hr ha λ_ s' hp=>by
  grind
theorem c3R(a b:Bool):min (V6 a) (V6 b)=V6 (a&&b):=by cases a<;>cases b<;>rfl
theorem c4S(a b:Bool):max (V6 a) (V6 b)=V6 (a||b):=by cases a<;>cases b<;>rfl
theorem c7X(a b:Bool):(!(!a&&!b))=(a||b):=by cases a<;>cases b<;>rfl
theorem c31(a b:Bool):(a&&!b||!a&&b)=(a != b):=by cases a<;>cases b<;>rfl
theorem bmux(c a b:Bool):(c&&a||!c&&b)=if c then a else b:=by cases a<;>cases b<;>cases c<;>rfl
def CV(fs:FuncId->Option U4)(f:FuncId)(l:List D)(s:k4)(A:Nat->Bool)(w:Nat):Prop:=Y4 fs f l s λr s'=>∃b,r=.arr b 0 w 1/\s.next<=b/\s'.get b=some (.cells (U3 (U1 A w)))/\Fr [] s s'
theorem xv{i t f args rest s K}(hr:CV fs f l s A w)(h:∀b s',s.next<=b->s'.get b=some (.cells (U3 (U1 A w)))->Fr [] s s'->XQ fs [] rest ((t,.arr b 0 w 1)::env) s' K)(ha:env.aR args=l:=by rfl):WQ fs [] ((i,⟨some t,.m (.call .raw (.aL (.fn f [])) args),none⟩)::rest) env s K :=
 a0M hr ha λ_ s' hp=>by
  grind
theorem VB.bk{b:Nat}(h:s.get b=some (.cells (U3 (U1 A w)))):VB s (.arr b 0 w 1) (U1 A w):=VB.arr h (a38 A w)
theorem VB.ldF{p:D}(h:VB s d (U1 A w))(hi:i<w)(p1:W7 1 d (.int k (i:Int))=some p):bF s.get none p=some (.int .i64 (V6 (A i))):=by
 obtain⟨q,q1,q2⟩:=h.cQ hi (k:=k);grind
theorem fu(h:w<=1000000):8*(w:Int)<=2^47:=oJ
theorem eK(h:w<=1000000):(w:Int)<2^62:=oJ
def Y1(A:Nat->Bool)(i:Nat):Nat->Bool:=λj=>decide (j<i)&&A j
theorem a3Q(A:Nat->Bool)(w:Nat):U3 (U1 (λ_=>false) w)=U3 (U1 (Y1 A 0) w):=rfl
theorem a3w(A:Nat->Bool)(w:Nat):U3 (U1 (Y1 A w) w)=U3 (U1 A w):=by
 grind[a4I,Y1]
theorem a50(h:i<w):List.take i (U3 (U1 (Y1 A i) w))++[.int .i64 (V6 (A i))]++List.drop (i+1) (U3 (U1 (Y1 A i) w))=U3 (U1 (Y1 A (i+1)) w):=by
 rw[Fj,HL,b9g h];congr 1
 refine a4I λj hj=>?_
 unfold Y1;grind
theorem a3d(h:i<w):i<(U3 (U1 (Y1 A i) w)).length:=sU h
theorem iE:(s.push (.cells (U3 (U1 (Y1 A 0) w)))).get s.next=some (.cells (U3 (U1 (Y1 A 0) w)))/\Fr [] s (s.push (.cells (U3 (U1 (Y1 A 0) w)))):=⟨W8 rfl,Fr.push _⟩
theorem xxn{af T i t f args rest s K}(hr:Y4 fs f l s P)(iW:∀d s',P d s'->Fr [] s s')(hT:∀e∈T,(e.i,i)∈af->∀id,e.rd=some id->id<s.next)
 (h:∀d s' E,P d s'->(∀e∈E,s.next<=e)->WX fs af (⟨i,none,E⟩::T) rest ((t,d)::env) s' K)(ha:env.aR args=l:=by rfl):WX fs af T ((i,⟨some t,.m (.call .raw (.aL (.fn f [])) args),none⟩)::rest) env s K:=by
 subst ha;obtain⟨d,s',⟨n,hn⟩,hp⟩:=hr;have fr:=iW d s' hp;have mz:a2H fs (a0q fs n) f (env.aR args) s=some (d,s'):=hn;refine b1Y (d:=d) (s':=s') (E:=List.range' s.next (s'.next-s.next)) ⟨n,?_⟩ ?_ fr.1 ?_ (h d s' _ hp λe he=>(Jr.1 he).1)
 .simp only[cO,a3c,k6.ev,Fl,mz]
 .intro id jb
  rw[Jr]at jb;by_cases c:id<s.next
  .exact(fr.2 id c sJ).symm
  .have c2:¬id<s'.next:=λh=>jb ⟨oJ,oJ⟩
   have n1:s.get id=none:=by
    cases h:s.get id with
    |none=>rfl
    |some o=>exact absurd (t3 h) c
   have n2:s'.get id=none:=by
    cases h:s'.get id with
    |none=>rfl
    |some o=>exact absurd (t3 h) c2
   rw[n1,n2]
 grind
theorem iJ{af T i t f args rest s K}(hr:CB fs f l s b)(hT:∀e∈T,(e.i,i)∈af->∀id,e.rd=some id->id<s.next)
 (h:∀s' E,Fr [] s s'->(∀e∈E,s.next<=e)->XX fs af (⟨i,none,E⟩::T) rest ((t,.int .i64 (V6 b))::env) s' K)(ha:env.aR args=l:=by rfl):WX fs af T ((i,⟨some t,.m (.call .raw (.aL (.fn f [])) args),none⟩)::rest) env s K :=
 xxn hr (λd s' h=>h.2) hT (λd s' E hp he=>by
  obtain⟨rfl,f⟩:=hp;grind[a5i]) ha
theorem VB.ptr{s:k4}{d p:D}{l:List Bool}{z:Int}{k:IntKind}(h:VB s d l)(p1:W7 1 d (.int k z)=some p):∀id off,p=.ptr id off->id<s.next:=by
 rintro id off rfl;rcases h with⟨rfl,_⟩|rfl|⟨mL,o2,cs,rfl,h1,_⟩
 .simp[W7]at p1
 .simp only[W7]at p1
  split at p1<;>simp at p1
 simp_all[W7,t3]
theorem a2F(h:i<w):(U3 (U1 A w))[i]?=some (.int .i64 (V6 (A i))):=by simp[U3,U1,h]
theorem a4V{id n:Nat}:∀{l:List Nat},(∀e∈l,n<=e)->id<n->a1K id l
 |[],_,_=>trivial
 |x::r,h,hn=>⟨by have:=h x sJ;unfold b1g;omega,a4V (λe he=>h e (by simp[he])) hn⟩
theorem a28{af T ops env s Q}(h:WQ fs [] ops env s Q)(hp:a9r af ops=true:=by decide):WX fs af T ops env s Q:=by
 intro tr _;obtain⟨n,iO,s',h1,h2⟩:=h [] a9a;exact⟨n,iO,s',a73 hp h1,h2⟩
theorem CV.cg{A':Nat->Bool}{w':Nat}(h:CV fs f l s A w)(hw:w=w')(e:∀i,i<w->A i=A' i):CV fs f l s A' w':=by
 subst hw;obtain⟨d,s',h1,b,h2,h3,h4,h5⟩:=h;exact⟨d,s',h1,b,h2,h3,by rw[h4,a4I e],h5⟩
theorem a6G{B:Nat->Bool}(h:i<w)(e:∀j,j<w->(if j=i then b else A j)=B j):List.take i (U3 (U1 A w))++[.int .i64 (V6 b)]++List.drop (i+1) (U3 (U1 A w))=U3 (U1 B w):=by
 rw[Fj,HL,b9g h,a4I e]
theorem a6R(h:i<w):i<(U3 (U1 A w)).length:=sU h
theorem c9t{rb:Nat}{R:Nat->Bool}{d:Bool}(gr:s.get rb=some (.cells (U3 (U1 R 8)))):∃s',a0e 1 8 (.arr s.next 0 1 1) (.arr rb 0 (7-0) 1) (s.push (.cells [.int .i64 (V6 d)]))=some (.arr (s.next+1) 0 8 1,s')/\s'.get (s.next+1)=some (.cells (U3 (U1 (a41 R d) 8)))/\Fr [] s s':=by
 have g1:(s.push (.cells [.int .i64 (V6 d)])).get s.next=some (.cells [.int .i64 (V6 d)]):=W8 rfl;have g2:(s.push (.cells [.int .i64 (V6 d)])).get rb=some (.cells (U3 (U1 R 8))):=by grind[a0k,t3]
 have hn:(s.push (.cells [.int .i64 (V6 d)])).next=s.next+1:=sJ;have fr:Fr [] s (s.push (.cells [.int .i64 (V6 d)])):=Fr.push _;refine⟨((s.push (.cells [.int .i64 (V6 d)])).set s.next none).push (.cells (U3 (U1 (a41 R d) 8))),?_,W8 sJ,(fr.st (sm _) none).ak _⟩;generalize s.push (.cells [.int .i64 (V6 d)])=s1 at *;unfold a0e;simp only[a1u,g1,g2,a3z,a1V,hn];rfl
def fH(S:Bool)(Z:Nat->Bool)(i:Nat):Nat->Bool:=λj=>if j<i then S&&Z j else Z j
variable{S:Bool}{Z:Nat->Bool}
theorem c36:U3 (U1 Z w)=U3 (U1 (fH S Z 0) w):=rfl
theorem hf_all:U3 (U1 (fH S Z w) w)=U3 (U1 (λj=>S&&Z j) w):=by
 grind[a4I,fH]
theorem b7y(h:i<w):(U3 (U1 (fH S Z i) w))[i]?=some (.int .i64 (V6 (Z i))):=by
 grind[a2F,fH]
theorem b8q(h:i<w):List.take i (U3 (U1 (fH S Z i) w))++[.int .i64 (V6 (S&&Z i))]++List.drop (i+1) (U3 (U1 (fH S Z i) w))=U3 (U1 (fH S Z (i+1)) w) :=
 a6G h λj hj=>by
  unfold fH;grind
theorem a8c(h:i<=16):a48 .shr .i64 x (i:Int)=some (.int .i64 (x/2^i)):=by
 have p:=a6b i;unfold a48;rw[so oJ];simp only[an];rw[show min i IntKind.i64.bits=i by rw[show IntKind.i64.bits=64 from rfl];omega,Jf _ oJ]
theorem a9k:x/2^i%2=V6 (W1 x i):=by
 grind[W1,V6]
theorem a9q(h:i<=1000000):IntKind.u64.wrap (i:Int)=(i:Int):=by rw[IL];omega
def VZ(d:D)(l:List Bool):Prop:=FL 1 d ((U3 l).map λx=>[x])
variable{l:List Bool}
theorem VZ.vb(h:VZ d l)(s:k4):VB s d l:=by
 rcases h with⟨rfl,h⟩|rfl
 .exact .inl ⟨rfl,IW.1 h⟩
 .exact .inr (.inl rfl)
theorem VB.dI(h:VB s d l):∃d',aK s.get 20 d=some d'/\VZ d' l:=by
 obtain⟨d',h1,h2⟩:=Rd.aK h (by simp[U3,a2i]);refine⟨d',h1,?_⟩;rcases h2 with⟨rfl,h⟩|rfl|⟨id,off,cs,rfl,h,_⟩
 .exact .inl ⟨rfl,by rw[h];rfl⟩
 .exact .inr rfl
 simp_all
theorem c7s(b:Bool):(0:Int)<=V6 b:=by cases b<;>decide
theorem c8y(b:Bool):V6 b<2:=by cases b<;>decide
theorem a5E(h:i<w)(e:A i=b):List.take i (U3 (U1 (Y1 A i) w))++[.int .i64 (V6 b)]++List.drop (i+1) (U3 (U1 (Y1 A i) w))=U3 (U1 (Y1 A (i+1)) w):=e▸a50 h
def b0J(A:Nat->Bool)(i:Nat)(b:Bool):Nat->Bool:=λj=>if j=i then b else Y1 A i j
theorem c8j(h:i<w):List.take i (U3 (U1 (Y1 A i) w))++[.int .i64 (V6 b)]++List.drop (i+1) (U3 (U1 (Y1 A i) w))=U3 (U1 (b0J A i b) w):=a6G h λ_ _=>rfl
theorem c67{c:Bool}(h:i<w)(e:A i=c):List.take i (U3 (U1 (b0J A i b) w))++[.int .i64 (V6 c)]++List.drop (i+1) (U3 (U1 (b0J A i b) w))=U3 (U1 (Y1 A (i+1)) w) :=
 a6G h λj _=>by
  unfold b0J Y1;grind
theorem c7n(h:i<w):i<(U3 (U1 (b0J A i b) w)).length:=sU h
end Go.V
namespace Go.Proofs.YtigbmclkjknnjaaGreat
open Go.V
def GB(s:k4)(g:Nat):Prop:=∃n m,s.get g=some (.cells [.arr n 0 1 2,.ag,.map m])
variable{s:k4}{g:Nat}
theorem GB.fr{s':k4}(h:GB s g)(f:Fr [] s s'):GB s' g:=by
 obtain⟨n,m,h⟩:=h;exact⟨n,m,by rw[f.2 _ (t3 h) sJ,h]⟩
theorem a3a(b:Bool):bz U5 55 [.int .i64 (V6 b)] (.int .i64 (V6 (!b))):=by
 refine a0l ?_;cases b
 .refine a0A (vf:=a9C) rfl ?_
  unfold a9C;refine zF ?_;refine V9 ?_;decide
 .refine a0A (vf:=a9C) rfl ?_
  unfold a9C;refine zF ?_;refine V9 ?_;decide
theorem a6c(hg:GB s g)(b:Bool):Y4 U5 80 [.ptr g 0,.int .i64 (V6 b)] s λr s'=>r=.int .i64 (V6 b)/\s'=s:=by
 obtain⟨n,m,hg⟩:=hg;have hl:=t3 hg;have q0:¬(1:Int)<=Int.tdiv 0 2:=dJ;have q1:¬(1:Int)<=Int.tdiv 1 2:=dJ;cases b
 .have e:V6 false=0:=rfl
  rw[e];refine Y0 (vf:=b0V) rfl ?_;unfold b0V;refine zF ?_;refine zY (aN hg q0) ?_;exact⟨rfl,rfl⟩
 .have e:V6 true=1:=rfl
  rw[e];refine Y0 (vf:=b0V) rfl ?_;unfold b0V;refine zF ?_;refine zY (aN hg q1) ?_;exact⟨rfl,rfl⟩
theorem a1A(hg:GB s g)(a b:Bool):CB U5 44 [.ptr g 0,.int .i64 (V6 a),.int .i64 (V6 b)] s (a&&b):=by
 have m1:=c3R a b;have m2:=c4S a b;have hn:bz U5 55 [.int .i64 1] (.int .i64 0):=a3a true;unfold CB;refine Y0 (vf:=vf44) rfl ?_;unfold vf44;refine zF ?_;refine V9 ?_;refine xs (a6c hg a) ?_;refine V9 ?_;refine xs (a6c hg b) ?_;refine zY m1 ?_;refine xs (a6c hg a) ?_;refine V9 ?_;refine xs (a6c hg b) ?_;refine zY m2 ?_;cases a<;>cases b
 .refine zY (aN @a3P @a4Q) ?_
  exact⟨rfl,(Fr.push _).aC _ (.inr (sm _))⟩
 .refine zY (aN @a3P @a4Q) ?_
  exact⟨rfl,(Fr.push _).aC _ (.inr (sm _))⟩
 .refine zY (aN @a3P @a4Q) ?_
  exact⟨rfl,(Fr.push _).aC _ (.inr (sm _))⟩
 .refine zY (V4 @a3P @a4Q hn) ?_
  exact⟨rfl,(Fr.push _).aC _ (.inr (sm _))⟩
theorem and1_c(hg:GB s g)(a:Bool):CB U5 44 [.ptr g 0,.int .i64 (V6 a),.int .i64 1] s a:=by
 have h:=a1A hg a true;rw[HR]at h;exact h
theorem a6O(hg:GB s g)(a b:Bool):CB U5 58 [.ptr g 0,.int .i64 (V6 a),.int .i64 (V6 b)] s (a||b):=by
 have h1:=a3a a;have h2:=a3a b;have h3:=a3a (!a&&!b);rw[c7X]at h3;unfold CB;refine Y0 (vf:=vf58) rfl ?_;unfold vf58;refine zF ?_;refine V9 ?_;refine xs (a6c hg a) ?_;refine zY h1 ?_;refine xs (a6c hg b) ?_;refine zY h2 ?_;refine xb (a1A hg _ _) λs1 f1=>?_
 refine zY h3 ?_;exact⟨rfl,f1⟩
theorem a8d(hg:GB s g)(a b:Bool):CB U5 60 [.ptr g 0,.int .i64 (V6 a),.int .i64 (V6 b)] s (a != b):=by
 have h1:=a3a a;have h2:=a3a b;unfold CB;refine Y0 (vf:=vf60) rfl ?_;unfold vf60;refine zF ?_;refine V9 ?_;refine xs (a6c hg a) ?_;refine V9 ?_;refine xs (a6c hg b) ?_;refine zY h2 ?_;refine xb (a1A hg _ _) λs1 f1=>?_
 have hg:=hg.fr f1;refine zY h1 ?_;refine xb (a1A hg _ _) λs2 f2=>?_
 have hg:=hg.fr f2;refine V9 ?_;refine xb (a6O hg _ _) λs3 f3=>?_
 rw[c31];refine V9 ?_;exact⟨rfl,(f1.trans f2 sJ).trans f3 sJ⟩
theorem b5Y(hg:GB s g)(c a b:Bool):CB U5 129 [.ptr g 0,.int .i64 (V6 c),.int .i64 (V6 a),.int .i64 (V6 b)] s (if c then a else b):=by
 have h1:=a3a c;unfold CB;refine Y0 (vf:=b5d) rfl ?_;unfold b5d;refine zF ?_;refine V9 ?_;refine xs (a6c hg c) ?_;refine V9 ?_;refine xs (a6c hg a) ?_;refine V9 ?_;refine xs (a6c hg b) ?_;refine V9 ?_;refine xb (a1A hg _ _) λs1 f1=>?_
 have hg:=hg.fr f1;refine zY h1 ?_;refine xb (a1A hg _ _) λs2 f2=>?_
 have hg:=hg.fr f2;refine V9 ?_;refine xb (a6O hg _ _) λs3 f3=>?_
 rw[bmux];refine V9 ?_;exact⟨rfl,(f1.trans f2 sJ).trans f3 sJ⟩
variable{d:D}{l:List Bool}
theorem any_c(hg:GB s g)(hd:VB s d l)(hl:l.length<=100000):CB U5 47 [.ptr g 0,d] s (a0U (aB l) l.length):=by
 have jw:=hd.len;have o:=hd.one;unfold CB;refine Y0 (vf:=vf47) rfl ?_;unfold vf47;refine zF ?_;refine zY (aN o jw) ?_;refine W6 [0,1,4,8,9] 0 l.length (λi f s'=>f 10=.int .i64 (i:Int)/\f 5=.int .i64 (V6 (a0U (aB l) i))/\Fr [] s s') (.mk rfl) oJ ⟨rfl,rfl,Fr.refl _ _⟩ ?_;rintro i f s2 hi ⟨nh,h5,fr⟩;by_cases ci:i<l.length
 .obtain⟨p,p1,p2⟩:=(hd.fr fr).idx ci (k:=.i64)
  refine zY (W0 nh h5 ci p1 p2) ?_;refine xb (a6O (hg.fr fr) _ _) λs3 f3=>?_
  refine V9 ?_;exact⟨ci,rfl,fr.trans f3 sJ⟩
 .obtain rfl:i=l.length:=oJ
  refine zY (V4 nh h5 ci) ?_;exact⟨rfl,fr⟩
theorem all_c(hg:GB s g)(hd:VB s d l)(hl:l.length<=100000):CB U5 56 [.ptr g 0,d] s (a4N (aB l) l.length):=by
 have jw:=hd.len;have o:=hd.one;unfold CB;refine Y0 (vf:=vf56) rfl ?_;unfold vf56;refine zF ?_;refine zY (aN o jw) ?_;refine W6 [0,1,4,8,9] 0 l.length (λi f s'=>f 10=.int .i64 (i:Int)/\f 5=.int .i64 (V6 (a4N (aB l) i))/\Fr [] s s') (.mk rfl) oJ ⟨rfl,rfl,Fr.refl _ _⟩ ?_;rintro i f s2 hi ⟨nh,h5,fr⟩;by_cases ci:i<l.length
 .obtain⟨p,p1,p2⟩:=(hd.fr fr).idx ci (k:=.i64)
  refine zY (W0 nh h5 ci p1 p2) ?_;refine xb (a1A (hg.fr fr) _ _) λs3 f3=>?_
  refine V9 ?_;exact⟨ci,rfl,fr.trans f3 sJ⟩
 .obtain rfl:i=l.length:=oJ
  refine zY (V4 nh h5 ci) ?_;exact⟨rfl,fr⟩
variable{A:Nat->Bool}{w:Nat}
theorem a6u(hg:GB s g)(hd:VB s d (U1 A w))(hl:w<=100000):CB U5 47 [.ptr g 0,d] s (a0U A w):=by
 have h:=any_c hg hd (by rw[a38];exact hl);rw[a38]at h;rwa [b6Q (B:=A) λi hi=>a8z hi]at h
theorem c1k(hg:GB s g)(hd:VB s d (U1 A w))(hl:w<=100000):CB U5 56 [.ptr g 0,d] s (a4N A w):=by
 have h:=all_c hg hd (by rw[a38];exact hl);rw[a38]at h;rwa [b90 (B:=A) λi hi=>a8z hi]at h
theorem b82{n:Int}(h1:1<=n)(h2:n<=16):bz U5 118 [.int .i64 n] (.int .i64 n):=by
 have e1:max n 1=n:=oJ;have e2:min n 16=n:=oJ;refine a0l ?_;refine a0A (vf:=a9V) rfl ?_;unfold a9V;refine zF ?_;exact zZ (aN e1 e2)
theorem bown_c(hg:GB s g)(hd:VB s d l)(h1:1<=l.length)(h2:l.length<=16):CV U5 130 [.ptr g 0,d] s (aB l) l.length:=by
 have jw:=hd.len;have o:=hd.one;have c1:¬(l.length:Int)<1:=oJ;have c2:¬(16:Int)<(l.length:Int):=oJ;have m1:=fu (w:=l.length) oJ;have m2:=eK (w:=l.length) oJ;have hz:=a2c l.length;rw[a3Q (aB l)]at hz;unfold CV;refine Y0 (vf:=b3H) rfl ?_;unfold b3H;refine zF ?_;refine zY (X0 o jw c1 c2 m1 m2 hz) ?_;obtain⟨gb,f0⟩:=iE (s:=s) (A:=(aB l)) (w:=l.length);generalize s.push (.cells (U3 (U1 (Y1 (aB l) 0) l.length)))=s1 at *;refine W6 [0,1,4,5,15,20,21] 0 l.length (λi f s'=>f 22=.int .i64 (i:Int)/\s'.get s.next=some (.cells (U3 (U1 (Y1 (aB l) i) l.length)))/\Fr [] s s') (.mk rfl) oJ ⟨rfl,gb,f0⟩ ?_;clear gb f0;rintro i f s2 hi ⟨h,gb,fr⟩;by_cases ci:i<l.length
 .have hs:=a50 (A:=(aB l)) ci
  have hw:=a3d (A:=(aB l)) ci;obtain⟨p,p1,p2⟩:=(hd.fr fr).idx ci (k:=.i64);refine zY (V1 h ci p1 p2) ?_;refine xb (and1_c (hg.fr fr) _) λs3 f3=>?_
  have gb:=f3.kp gb;have lb:=t3 gb;refine zY (V1 gb ci hs hw) ?_;exact(fr.trans f3 sJ).st (sm _) _
 .obtain rfl:i=l.length:=oJ
  refine zY (aN h ci) ?_;rw[a3w]at gb;exact⟨_,rfl,sm _,gb,fr⟩
theorem a9R(hd:VB s d l)(h1:1<=l.length)(h2:l.length<=16)(w1:1<=w)(w2:w<=16):CV U5 85 [d,.int .i64 (w:Int)] s (λi=>aB l (min i (l.length-1))) w:=by
 have jw:=hd.len;have o:=hd.one;have c1:¬(l.length:Int)<1:=oJ;have c2:¬(16:Int)<(l.length:Int):=oJ;have hb:=b82 (n:=(w:Int)) oJ oJ;have m1:=fu (w:=w) oJ;have m2:=eK (w:=w) oJ;have hz:=a2c w;rw[a3Q (λi=>aB l (min i (l.length-1)))]at hz;unfold CV;refine Y0 (vf:=vf85) rfl ?_;unfold vf85;refine zF ?_;refine zY (U0 o jw c1 c2 hb m1 m2 hz) ?_;obtain⟨gb,f0⟩:=iE (s:=s) (A:=(λi=>aB l (min i (l.length-1)))) (w:=w);generalize s.push (.cells (U3 (U1 (Y1 (λi=>aB l (min i (l.length-1))) 0) w)))=s1 at *;refine W6 [0,1,4,5,14,20] 0 w (λi f s'=>f 21=.int .i64 (i:Int)/\s'.get s.next=some (.cells (U3 (U1 (Y1 (λi=>aB l (min i (l.length-1))) i) w)))/\Fr [] s s') (.mk rfl) oJ ⟨rfl,gb,f0⟩ ?_;clear gb f0;rintro i f s2 hi ⟨h,gb,fr⟩;by_cases ci:i<w
 .have hs:=a50 (A:=(λi=>aB l (min i (l.length-1)))) ci
  have hw:=a3d (A:=(λi=>aB l (min i (l.length-1)))) ci;obtain⟨p,p1,p2⟩:=(hd.fr fr).idx (i:=min i (l.length-1)) oJ (k:=.i64);have e1:min (i:Int) ((l.length:Int)-1)=((min i (l.length-1):Nat):Int):=oJ;have lb:=t3 gb;refine zY (U0 h ci jw e1 p1 p2 gb (aN hs hw)) ?_;exact fr.st (sm _) _
 .obtain rfl:i=w:=oJ
  refine zY (aN h ci) ?_;rw[a3w]at gb;exact⟨_,rfl,sm _,gb,fr⟩
variable{B:Nat->Bool}{da db:D}
theorem b0T(hg:GB s g)(ha:VB s da (U1 A w))(hb:VB s db (U1 B w))(w2:w<=16)(c:Bool):CV U5 156 [.ptr g 0,da,db,.int .i64 (V6 c)] s (a2O A B c) w:=by
 have sk:=ha.fG;have oa:=ha.one;have xE:=hb.fG;have ob:=hb.one;have m1:=fu (w:=w) oJ;have m2:=eK (w:=w) oJ;have hz:=a2c w;rw[a3Q (a2O A B c)]at hz;unfold CV;refine Y0 (vf:=b48) rfl ?_;unfold b48;refine zF ?_;refine zY (X0 oa ob sk xE m1 m2 hz) ?_;obtain⟨gb,f0⟩:=iE (s:=s) (A:=(a2O A B c)) (w:=w);generalize s.push (.cells (U3 (U1 (Y1 (a2O A B c) 0) w)))=s1 at *;refine W6 [0,1,2,8,9,16] 0 w (λi f s'=>f 17=.int .i64 (i:Int)/\f 3=.int .i64 (V6 (a7x A B c i))/\s'.get s.next=some (.cells (U3 (U1 (Y1 (a2O A B c) i) w)))/\Fr [] s s') (.mk rfl) oJ ⟨rfl,rfl,gb,f0⟩ ?_;clear gb f0;rintro i f s2 hi ⟨h,h3,gb,fr⟩;by_cases ci:i<w
 .have hs:=a50 (A:=(a2O A B c)) ci
  have hw:=a3d (A:=(a2O A B c)) ci;obtain⟨p,p1,p2⟩:=(ha.fr fr).cQ ci (k:=.i64);obtain⟨q,q1,q2⟩:=(hb.fr fr).cQ ci (k:=.i64);refine zY (X0 h h3 ci p1 p2 q1 q2) ?_;refine xb (a8d (hg.fr fr) _ _) λs3 f3=>?_
  have iY:=fr.trans f3 sJ;refine zY h3 ?_;refine xb (a8d (hg.fr iY) _ _) λs4 f4=>?_
  rw[show((A i != B i) != a7x A B c i)=a2O A B c i from rfl];have gb:=f4.kp (f3.kp gb);have lb:=t3 gb;have f5:=(iY.trans f4 sJ).st (b:=s.next) (sm _) (some (.cells (U3 (U1 (Y1 (a2O A B c) (i+1)) w))));have p3:=(ha.fr f5).ldF ci p1;have q3:=(hb.fr f5).ldF ci q1;refine zY (U0 gb ci hs hw p1 q1 p3 (V4 q3 h h3)) ?_;refine xb (a1A (hg.fr f5) _ _) λs6 f6=>?_
  have jP:=f5.trans f6 sJ;refine V9 ?_;refine xb (a1A (hg.fr jP) _ _) λs7 f7=>?_
  have mC:=jP.trans f7 sJ;refine V9 ?_;refine xb (a6O (hg.fr mC) _ _) λs8 f8=>?_
  refine V9 ?_;exact⟨ci,rfl,f8.kp (f7.kp (f6.kp (a0b lb))),mC.trans f8 sJ⟩
 .obtain rfl:i=w:=oJ
  refine zY (aN h ci) ?_;rw[a3w]at gb;exact⟨_,rfl,sm _,gb,fr⟩
theorem b6i(ha:VB s da (U1 A w))(w2:w<=16):CV U5 157 [da] s (λi=>!A i) w:=by
 have sk:=ha.fG;have oa:=ha.one;have m1:=fu (w:=w) oJ;have m2:=eK (w:=w) oJ;have hz:=a2c w;rw[a3Q (λi=>!A i)]at hz;unfold CV;refine Y0 (vf:=b3X) rfl ?_;unfold b3X;refine zF ?_;refine zY (W0 oa sk m1 m2 hz) ?_;obtain⟨gb,f0⟩:=iE (s:=s) (A:=(λi=>!A i)) (w:=w);generalize s.push (.cells (U3 (U1 (Y1 (λi=>!A i) 0) w)))=s1 at *;refine W6 [0,2,3,9] 0 w (λi f s'=>f 10=.int .i64 (i:Int)/\s'.get s.next=some (.cells (U3 (U1 (Y1 (λi=>!A i) i) w)))/\Fr [] s s') (.mk rfl) oJ ⟨rfl,gb,f0⟩ ?_;clear gb f0;rintro i f s2 hi ⟨h,gb,fr⟩;by_cases ci:i<w
 .have hs:=a50 (A:=(λi=>!A i)) ci
  have hw:=a3d (A:=(λi=>!A i)) ci;obtain⟨p,p1,p2⟩:=(ha.fr fr).cQ ci (k:=.i64);have hn:=a3a (A i);have lb:=t3 gb;refine zY (U0 h ci p1 p2 hn gb hs hw) ?_;exact fr.st (sm _) _
 .obtain rfl:i=w:=oJ
  refine zY (aN h ci) ?_;rw[a3w]at gb;exact⟨_,rfl,sm _,gb,fr⟩
theorem b8h(hg:GB s g)(ha:VB s da (U1 A w))(hb:VB s db (U1 B w))(w2:w<=16)(c:Bool):CV U5 183 [.ptr g 0,.int .i64 (V6 c),da,db] s (a5O c A B) w:=by
 have sk:=ha.fG;have oa:=ha.one;have xE:=hb.fG;have ob:=hb.one;have m1:=fu (w:=w) oJ;have m2:=eK (w:=w) oJ;have hz:=a2c w;rw[a3Q (a5O c A B)]at hz;unfold CV;refine Y0 (vf:=b52) rfl ?_;unfold b52;refine zF ?_;refine zY (X0 oa ob sk xE m1 m2 hz) ?_;obtain⟨gb,f0⟩:=iE (s:=s) (A:=(a5O c A B)) (w:=w);generalize s.push (.cells (U3 (U1 (Y1 (a5O c A B) 0) w)))=s1 at *;refine W6 [0,1,2,3,8,9,15] 0 w (λi f s'=>f 16=.int .i64 (i:Int)/\s'.get s.next=some (.cells (U3 (U1 (Y1 (a5O c A B) i) w)))/\Fr [] s s') (.mk rfl) oJ ⟨rfl,gb,f0⟩ ?_;clear gb f0;rintro i f s2 hi ⟨h,gb,fr⟩;by_cases ci:i<w
 .have hs:=a50 (A:=(a5O c A B)) ci
  have hw:=a3d (A:=(a5O c A B)) ci;obtain⟨p,p1,p2⟩:=(ha.fr fr).cQ ci (k:=.i64);obtain⟨q,q1,q2⟩:=(hb.fr fr).cQ ci (k:=.i64);refine zY (X4 h ci p1 p2 q1 q2) ?_;refine xb (b5Y (hg.fr fr) _ _ _) λs3 f3=>?_
  have gb:=f3.kp gb;have lb:=t3 gb;rw[show(if c then A i else B i)=a5O c A B i from rfl];refine zY (V1 gb ci hs hw) ?_;exact(fr.trans f3 sJ).st (sm _) _
 .obtain rfl:i=w:=oJ
  refine zY (aN h ci) ?_;rw[a3w]at gb;exact⟨_,rfl,sm _,gb,fr⟩
theorem b1N(hg:GB s g)(ha:VB s da (U1 A w))(w2:w<=16)(c:Bool):CV U5 182 [.ptr g 0,.int .i64 (V6 c),da] s (X1 c A) w:=by
 have sk:=ha.fG;have oa:=ha.one;have m1:=fu (w:=w) oJ;have m2:=eK (w:=w) oJ;have hz:=a2c w;unfold CV;refine Y0 (vf:=b4v) rfl ?_;unfold b4v;refine zF ?_;refine zY (W0 oa sk m1 m2 hz) ?_;obtain⟨gz,f0⟩:(s.push (.cells (U3 (U1 (λ_=>false) w)))).get s.next=some (.cells (U3 (U1 (λ_=>false) w)))/\Fr [] s (s.push (.cells (U3 (U1 (λ_=>false) w)))):=⟨W8 rfl,Fr.push _⟩
 generalize s.push (.cells (U3 (U1 (λ_=>false) w)))=s1 at *;refine xv (b6i (ha.fr f0) w2) λb s2 hb gn f2=>?_
 have je:=f0.trans f2 sJ;refine V9 ?_;refine xv (b0T (hg.fr je) (VB.bk (f2.kp gz)) (VB.bk gn) w2 true) λb3 s3 kV g3 f3=>?_
 have iY:=je.trans f3 sJ;refine V9 ?_;refine xv (b8h (hg.fr iY) (VB.bk g3) (ha.fr iY) w2 c) λb4 s4 kJ g4 f4=>?_
 refine V9 ?_;exact⟨_,rfl,by have:=iY.1;omega,g4,iY.trans f4 sJ⟩
theorem c0b(hg:GB s g){a b:Nat}(ga:s.get a=some (.cells (U3 (U1 A w))))(gb:s.get b=some (.cells (U3 (U1 B w))))(w2:w<=16):CB U5 177 [.ptr g 0,.arr a 0 w 1,.arr b 0 w 1] s (a5F A B w):=by
 unfold CB;refine Y0 (vf:=b54) rfl ?_;unfold b54;refine zF ?_;refine V9 ?_;refine W6 [0,1,2,6,10] 0 w (λi f s'=>f 11=.int .i64 (i:Int)/\f 7=.int .i64 (V6 (a5F A B i))/\Fr [] s s') (.mk rfl) oJ ⟨rfl,rfl,Fr.refl _ _⟩ ?_;rintro i f s2 hi ⟨h,h7,fr⟩;by_cases ci:i<w
 .have ga:=fr.kp ga
  have gb:=fr.kp gb;have la:=t3 ga;have lb:=t3 gb;have e1:=a2F (A:=A) ci;have e2:=a2F (A:=B) ci;refine zY (X0 h h7 ci ga gb e1 e2) ?_;refine iJ (a8d (hg.fr fr) _ _) sJ λs3 E f3 hE=>?_
  have gb:=f3.kp gb;have iY:=fr.trans f3 sJ;have hn:a1K b E:=a4V hE lb;refine zY (X4 h h7 ci gb e2 hn) ?_;refine a28 (xb (b5Y (hg.fr iY) _ _ _) λs4 f4=>?_);refine V9 ?_;exact⟨ci,rfl,iY.trans f4 sJ⟩
 .obtain rfl:i=w:=oJ
  refine zY (V4 h h7 ci) ?_;exact⟨rfl,fr⟩
theorem b4g(hg:GB s g)(hd:VB s d (U1 A w))(w1:1<=w)(w2:w<=16):CV U5 130 [.ptr g 0,d] s A w :=
 (bown_c hg hd (by rw[a38];exact w1) (by rw[a38];exact w2)).cg (a38 _ _) λi hi=>a8z (by rwa [a38]at hi)
theorem b8t(hd:VB s d (U1 A w))(w1:1<=w)(w2:w<=16):CV U5 85 [d,.int .i64 (w:Int)] s A w :=
 (a9R hd (by rw[a38];exact w1) (by rw[a38];exact w2) w1 w2).cg rfl λi hi=>by
  rw[a38,a8z oJ];congr 1
  omega
theorem a86(hg:GB s g)(ha:VB s da (U1 A w))(hb:VB s db (U1 B w))(w1:1<=w)(w2:w<=16):Y4 U5 155 [.ptr g 0,da,db] s λr s'=>∃a b,r=.aT [.arr a 0 w 1,.arr b 0 w 1]/\a≠b/\s.next<=a/\s.next<=b/\s'.get a=some (.cells (U3 (U1 A w)))/\s'.get b=some (.cells (U3 (U1 B w)))/\Fr [] s s':=by
 have oa:=ha.one;have ob:=hb.one;have e1:max (w:Int) (w:Int)=(w:Int):=oJ;refine Y0 (vf:=b5c) rfl ?_;unfold b5c;refine zF ?_;refine zY (aN oa ob) ?_;refine xv (b4g hg ha w1 w2) λb1 s1 lG g1 f1=>?_
 refine V9 ?_;refine xv (b4g (hg.fr f1) (hb.fr f1) w1 w2) λb2 s2 jr g2 f2=>?_
 have je:=f1.trans f2 sJ;refine zY e1 ?_;refine xv (b8t (VB.bk (f2.kp g1)) w1 w2) λb3 s3 kV g3 f3=>?_
 have iY:=je.trans f3 sJ;refine V9 ?_;refine xv (b8t (VB.bk (f3.kp g2)) w1 w2) λb4 s4 kJ g4 f4=>?_
 have l3:=t3 g3;have n2:=je.1;have n3:=f3.1;refine V9 ?_;exact⟨b3,b4,rfl,oJ,oJ,oJ,f4.kp g3,g4,iY.trans f4 sJ⟩
theorem vadd_c(hg:GB s g)(ha:VB s da (U1 A w))(hb:VB s db (U1 B w))(w1:1<=w)(w2:w<=16):CV U5 160 [.ptr g 0,da,db] s (a2O A B false) w:=by
 have oa:=ha.one;have ob:=hb.one;unfold CV;refine Y0 (vf:=b4B) rfl ?_;unfold b4B;refine zF ?_;refine zY (aN oa ob) ?_;refine a0M (a86 hg ha hb w1 w2) rfl ?_;rintro r s1 ⟨a,b,rfl,oY,na,nb,ga,gb,f1⟩;refine V9 ?_;refine xv (b0T (hg.fr f1) (VB.bk ga) (VB.bk gb) w2 false) λb2 s2 jr g2 f2=>?_
 have n1:=f1.1;refine V9 ?_;exact⟨b2,rfl,oJ,g2,f1.trans f2 sJ⟩
theorem b8n(hg:GB s g)(ha:VB s da (U1 A w))(hb:VB s db (U1 B w))(w1:1<=w)(w2:w<=16):CV U5 123 [.ptr g 0,da,db] s (a2O A (λj=>!B j) true) w:=by
 have oa:=ha.one;have ob:=hb.one;unfold CV;refine Y0 (vf:=b5y) rfl ?_;unfold b5y;refine zF ?_;refine zY (aN oa ob) ?_;refine a0M (a86 hg ha hb w1 w2) rfl ?_;rintro r s1 ⟨a,b,rfl,oY,na,nb,ga,gb,f1⟩;refine V9 ?_;refine xv (b6i (VB.bk gb) w2) λb2 s2 jr g2 f2=>?_
 have je:=f1.trans f2 sJ;refine V9 ?_;refine xv (b0T (hg.fr je) (VB.bk (f2.kp ga)) (VB.bk g2) w2 true) λb3 s3 kV g3 f3=>?_
 have n1:=je.1;refine V9 ?_;exact⟨b3,rfl,oJ,g3,je.trans f3 sJ⟩
theorem c9o(hg:GB s g)(ha:VB s da (U1 A w))(hb:VB s db (U1 B w))(w1:1<=w)(w2:w<=16):CB U5 158 [.ptr g 0,da,db] s (a7B A B w):=by
 have oa:=ha.one;have ob:=hb.one;unfold CB;refine Y0 (vf:=b6w) rfl ?_;unfold b6w;refine zF ?_;refine zY (aN oa ob) ?_;refine a0M (a86 hg ha hb w1 w2) rfl ?_;rintro r s1 ⟨a,b,rfl,oY,na,nb,ga,gb,f1⟩;refine V9 ?_;refine W6 [0,1,2,6,17] 0 w (λi f s'=>f 18=.int .i64 (i:Int)/\f 7=.int .i64 (V6 (a7B A B i))/\Fr [] s1 s') (.mk rfl) oJ ⟨rfl,rfl,Fr.refl _ _⟩ ?_;rintro i f s2 hi ⟨h,h7,fr⟩;by_cases ci:i<w
 .have ga:=fr.kp ga
  have gb:=fr.kp gb;have la:=t3 ga;have lb:=t3 gb;have e1:=a2F (A:=A) ci;have e2:=a2F (A:=B) ci;have hn:=a3a (A i != B i);refine zY (X0 h h7 ci ga gb e1 e2) ?_;refine xb (a8d ((hg.fr f1).fr fr) _ _) λs3 f3=>?_
  have iY:=fr.trans f3 sJ;refine zY (aN hn h7) ?_;refine xb (a1A ((hg.fr f1).fr iY) _ _) λs4 f4=>?_
  refine V9 ?_;exact⟨ci,rfl,iY.trans f4 sJ⟩
 .obtain rfl:i=w:=oJ
  refine zY (V4 h h7 ci) ?_;exact⟨rfl,f1.trans fr sJ⟩
theorem c8Z(hg:GB s g)(ha:VB s da (U1 A w))(hb:VB s db (U1 B w))(w1:1<=w)(w2:w<=16):CB U5 159 [.ptr g 0,da,db] s (a5F (λi=>if i=w-1 then !A i else A i) (λi=>if i=w-1 then !B i else B i) w):=by
 have oa:=ha.one;have ob:=hb.one;unfold CB;refine Y0 (vf:=b4m) rfl ?_;unfold b4m;refine zF ?_;refine zY (aN oa ob) ?_;refine a0M (a86 hg ha hb w1 w2) rfl ?_;rintro r s1 ⟨a,b,rfl,oY,na,nb,ga,gb,f1⟩;have la:=t3 ga;have lb:=t3 gb;have ew:(w:Int)-1=((w-1:Nat):Int):=oJ;have cw:w-1<w:=oJ;have e1:=a2F (A:=A) cw;have e2:=a2F (A:=B) cw;have h1:=a3a (A (w-1));have h2:=a3a (B (w-1));have k1:=a6R (A:=A) cw;have k2:=a6R (A:=B) cw;have t1:=a6G (A:=A) (B:=λi=>if i=w-1 then !A i else A i) (b:=!A (w-1)) cw λj _=>by by_cases c:j=w-1<;>simp[c]
 have t2:=a6G (A:=B) (B:=λi=>if i=w-1 then !B i else B i) (b:=!B (w-1)) cw λj _=>by by_cases c:j=w-1<;>simp[c]
 have CK:=oY.symm;refine zY (U0 ga gb ew cw e1 e2 h1 (X0 h2 k1 k2 t1 t2 oY CK)) ?_;have f2:=(f1.st na (some (.cells (U3 (U1 (λi=>if i=w-1 then !A i else A i) w))))).st nb (some (.cells (U3 (U1 (λi=>if i=w-1 then !B i else B i) w))));refine xb (c0b (hg.fr f2) (by rw[Y8 oY,a0b la]) (a0b (sU lb)) w2) λs3 f3=>?_
 refine V9 ?_;exact⟨rfl,f2.trans f3 sJ⟩
theorem b0H(hg:GB s g)(ha:VB s da (U1 A w))(w1:1<=w)(w2:w<=16):CB U5 93 [.ptr g 0,da] s (a0U A w):=by
 have oa:=ha.one;unfold CB;refine Y0 (vf:=vf93) rfl ?_;unfold vf93;refine zF ?_;refine zY oa ?_;refine xv (b4g hg ha w1 w2) λb1 s1 lG g1 f1=>?_
 refine V9 ?_;refine xb (a6u (hg.fr f1) (VB.bk g1) oJ) λs2 f2=>?_
 refine V9 ?_;exact⟨rfl,f1.trans f2 sJ⟩
variable{b:Bool}
theorem c32{i j:Nat}:V.partAt A b i (i+j)=(A j&&b):=by simp[V.partAt]
theorem c9B{i:Nat}:U3 (U1 (λ_=>false) w)=U3 (U1 (Y1 (V.partAt A b i) (i+0)) w):=by
 congr 1
 refine a4I λj hj=>?_
 unfold Y1 V.partAt;by_cases c:j<i
 .simp[c,show¬i<=j by omega]
 .simp[c]
theorem vmul_c(hg:GB s g)(ha:VB s da (U1 A w))(hb:VB s db (U1 B w))(w1:1<=w)(w2:w<=16):CV U5 161 [.ptr g 0,da,db] s (a6X A B w) w:=by
 have oa:=ha.one;have ob:=hb.one;have m1:=fu (w:=w) oJ;have m2:=eK (w:=w) oJ;have hz:=a2c w;unfold CV;refine Y0 (vf:=b4C) rfl ?_;unfold b4C;refine zF ?_;refine zY (aN oa ob) ?_;refine a0M (a86 hg ha hb w1 w2) rfl ?_;rintro r s1 ⟨a,b,rfl,oY,na,nb,ga,gb,f1⟩;refine zY (V4 m1 m2 hz) ?_;have gr:(s1.push (.cells (U3 (U1 (λ_=>false) w)))).get s1.next=some (.cells (U3 (U1 (a6X A B 0) w))):=W8 rfl;have fp:Fr [] s1 (s1.push (.cells (U3 (U1 (λ_=>false) w)))):=Fr.push _;have f2:=f1.trans fp sJ;have ga:=fp.kp ga;have gb:=fp.kp gb;have n1:=f1.1;generalize s1.push (.cells (U3 (U1 (λ_=>false) w)))=s2 at *;generalize s1.next=rb at *;refine W6 [0,1,2,6,7,23] 0 w (λi f s'=>f 24=.int .i64 (i:Int)/\Fr [] s2 s'/\∃rb,f 8=.arr rb 0 w 1/\s.next<=rb/\s'.get rb=some (.cells (U3 (U1 (a6X A B i) w)))) (.mk rfl) oJ ⟨rfl,Fr.refl _ _,rb,rfl,n1,gr⟩ ?_;clear gr;rintro i f s3 hi ⟨h,fr,rb,h8,Fg,gr⟩;by_cases ci:i<w
 rotate_left
 .obtain rfl:i=w:=oJ
  refine zY (V4 h h8 ci) ?_;exact⟨rb,rfl,Fg,gr,f2.trans fr sJ⟩
 have lo:=c9B (A:=A) (b:=B i) (i:=i) (w:=w);rw[lo]at hz;have e1:(w:Int)-(i:Int)=((w-i:Nat):Int):=oJ;refine zY (X0 h h8 ci m1 m2 hz e1) ?_;obtain⟨gp,f4⟩:(s3.push (.cells (U3 (U1 (Y1 (V.partAt A (B i) i) (i+0)) w)))).get s3.next=some (.cells (U3 (U1 (Y1 (V.partAt A (B i) i) (i+0)) w)))/\Fr [] s3 (s3.push (.cells (U3 (U1 (Y1 (V.partAt A (B i) i) (i+0)) w)))):=⟨W8 rfl,Fr.push _⟩
 generalize s3.push (.cells (U3 (U1 (Y1 (V.partAt A (B i) i) (i+0)) w)))=s4 at *;generalize qI:s3.next=pb at *;have n3:=fr.1;have jG:=fr.trans f4 sJ;have Ba:s2.next<=pb:=oJ;refine W6 [0,1,2,6,7,8,9,10,23,24,25,31] 0 (w-i) (λj f s'=>f 32=.int .i64 (j:Int)/\s'.get pb=some (.cells (U3 (U1 (Y1 (V.partAt A (B i) i) (i+j)) w)))/\Fr [] s3 s') (.mk rfl) oJ ⟨rfl,gp,f4⟩ ?_;clear gp;rintro j f s5 hj ⟨EU,gp,jO⟩;have jP:=fr.trans jO sJ;by_cases cj:j<w-i
 .have c2:i+j<w:=oJ
  have ga:=jP.kp ga;have gb:=jP.kp gb;have la:=t3 ga;have lb:=t3 gb;have e1:=a2F (A:=A) (i:=j) (w:=w) oJ;have e2:=a2F (A:=B) ci;have hs:=a50 (A:=V.partAt A (B i) i) c2;have hw:=a3d (A:=V.partAt A (B i) i) c2;have e3:(i:Int)+(j:Int)=((i+j:Nat):Int):=oJ;refine zY (X0 EU cj ga gb e1 e2 e3) ?_;refine xb (a1A (hg.fr (f2.trans jP sJ)) _ _) λs7 f7=>?_
  have gp:=f7.kp gp;have lp:=t3 gp;rw[<- c32 (A:=A) (b:=B i) (i:=i) (j:=j)];refine zY (W0 gp hs hw e3 c2) ?_;exact⟨cj,rfl,(jO.trans f7 sJ).st oJ _⟩
 .obtain rfl:j=w-i:=oJ
  have e4:i+(w-i)=w:=oJ;rw[e4,a3w]at gp;refine zY (aN EU cj) ?_;refine xv (b0T (hg.fr (f2.trans jP sJ)) (VB.bk (jO.kp gr)) (VB.bk gp) w2 false) λb8 s8 qV g8 f8=>?_
  have n4:=jP.1;refine V9 ?_;exact⟨ci,jP.trans f8 sJ,b8,rfl,by have:=f2.1;omega,g8⟩
theorem c1O(hg:GB s g)(ha:VB s da (U1 A 8))(hb:VB s db (U1 B 8)):Y4 U5 178 [.ptr g 0,da,db] s λr s'=>∃q p,r=.aT [.arr q 0 8 1,.arr p 0 8 1]/\s.next<=q/\s.next<=p/\s'.get q=some (.cells (U3 (U1 (λi=>a0U B 8&&X1 (A 7 != B 7) (a1C (X1 (A 7) A) (X1 (B 7) B) 8) i) 8)))/\s'.get p=some (.cells (U3 (U1 (λi=>a0U B 8&&X1 (A 7) (a2o (X1 (A 7) A) (X1 (B 7) B) 8 8) i) 8)))/\Fr [] s s':=by
 have oa:=ha.one;have ob:=hb.one;have m1:(64:Int)<=2^47:=dJ;have m2:(8:Int)<2^62:=dJ;have hz:=a2c 8;refine Y0 (vf:=b6F) rfl ?_;unfold b6F;refine zF ?_;refine zY (aN oa ob) ?_;refine a0M (a86 hg ha hb oJ oJ) rfl ?_;rintro r s1 ⟨a,b,rfl,oY,na,nb,ga,gb,f1⟩;have la:=t3 ga;have lb:=t3 gb;have e1:=a2F (A:=A) (w:=8) (i:=7) oJ;have e2:=a2F (A:=B) (w:=8) (i:=7) oJ;refine zY (V1 ga gb e1 e2) ?_;refine xv (b1N (hg.fr f1) (VB.bk ga) oJ (A 7)) λx s2 hx gx f2=>?_
 have je:=f1.trans f2 sJ;refine V9 ?_;refine xv (b1N (hg.fr je) (VB.bk (f2.kp gb)) oJ (B 7)) λy s3 hy gy f3=>?_
 have iY:=je.trans f3 sJ;have gx:=f3.kp gx;have gb:=f3.kp (f2.kp gb);refine zY (V4 hz m1 m2) ?_;have fp:Fr [] s3 ((s3.push (.cells (U3 (U1 (λ_=>false) 8)))).push (.cells (U3 (U1 (λ_=>false) 8)))):=(Fr.push _).ak _;have gq:((s3.push (.cells (U3 (U1 (λ_=>false) 8)))).push (.cells (U3 (U1 (λ_=>false) 8)))).get s3.next=some (.cells (U3 (U1 (λj=>decide (8-0<=j)&&a1C (X1 (A 7) A) (X1 (B 7) B) 8 j) 8))):=by
  rw[a0k sJ,W8 rfl];congr 3
 have gr:((s3.push (.cells (U3 (U1 (λ_=>false) 8)))).push (.cells (U3 (U1 (λ_=>false) 8)))).get (s3.next+1)=some (.cells (U3 (U1 (a2o (X1 (A 7) A) (X1 (B 7) B) 8 0) 8))):=W8 sJ;generalize(s3.push (.cells (U3 (U1 (λ_=>false) 8)))).push (.cells (U3 (U1 (λ_=>false) 8)))=s4 at *;generalize tJ:s3.next=qb at *;have n3:=iY.1;refine W6 [0,1,2,6,7,8,9,10,11,12,13,18,19,51,102,103,104] 0 8 (λk f s'=>f 52=.int .i64 (k:Int)/\Fr [] s3 s'/\s'.get qb=some (.cells (U3 (U1 (λj=>decide (8-k<=j)&&a1C (X1 (A 7) A) (X1 (B 7) B) 8 j) 8)))/\∃rb,f 14=.arr rb 0 8 1/\qb<rb/\s'.get rb=some (.cells (U3 (U1 (a2o (X1 (A 7) A) (X1 (B 7) B) 8 k) 8)))) (.mk rfl) oJ ⟨rfl,fp,gq,qb+1,rfl,oJ,gr⟩ ?_;clear gq gr fp;rintro k f s5 hk ⟨h,fr,gq,rb,h14,Fg,gr⟩;by_cases ck:k<8
 .have DR:=fr.kp gx
  have lx:=t3 DR;have lr:=t3 gr;have e1:(7:Int)-(k:Int)=((7-k:Nat):Int):=oJ;have e2:=a2F (A:=(X1 (A 7) A)) (w:=8) (i:=7-k) oJ;have c7:7-k<8:=oJ;have xJ:(k:Int)<8:=oJ;refine zY (U0 h h14 xJ e1 DR gr e2 c7) ?_;obtain⟨s6,ha6,wx,f6⟩:=c9t (d:=(X1 (A 7) A) (7-k)) gr;have jP:=fr.trans f6 sJ;have n5:=fr.1;refine zY ha6 ?_;refine xb (c0b (hg.fr (iY.trans jP sJ)) wx (jP.kp gy) oJ) λs7 f7=>?_
  have mC:=jP.trans f7 sJ;have hn:bz U5 55 [.int .i64 (V6 (a5F (a41 (a2o (X1 (A 7) A) (X1 (B 7) B) 8 k) ((X1 (A 7) A) (7-k))) (X1 (B 7) B) 8))] (.int .i64 (V6 (a8Y (X1 (A 7) A) (X1 (B 7) B) 8 k))):=a3a _;have Dl:=f7.kp (f6.kp gq);have lq:=t3 Dl;have kq:=a6R (A:=λj=>decide (8-k<=j)&&a1C (X1 (A 7) A) (X1 (B 7) B) 8 j) c7;have tq:=a6G (A:=λj=>decide (8-k<=j)&&a1C (X1 (A 7) A) (X1 (B 7) B) 8 j) (B:=λj=>decide (8-(k+1)<=j)&&a1C (X1 (A 7) A) (X1 (B 7) B) 8 j) (b:=a8Y (X1 (A 7) A) (X1 (B 7) B) 8 k) c7 λj hj=>by
   by_cases c:j=7-k
   .subst c
    rw[Fk rfl,a1C,FN oJ,Gd];congr 1
    omega
   .rw[so c]
    congr 1
    rw[JH];omega
  refine zY (W0 hn Dl c7 kq tq) ?_;have f8:=mC.st (b:=qb) oJ (some (.cells (U3 (U1 (λj=>decide (8-(k+1)<=j)&&a1C (X1 (A 7) A) (X1 (B 7) B) 8 j) 8))));have Ej:(s7.set qb (some (.cells (U3 (U1 (λj=>decide (8-(k+1)<=j)&&a1C (X1 (A 7) A) (X1 (B 7) B) 8 j) 8))))).get qb=some (.cells (U3 (U1 (λj=>decide (8-(k+1)<=j)&&a1C (X1 (A 7) A) (X1 (B 7) B) 8 j) 8))):=a0b lq;have pA:(s7.set qb (some (.cells (U3 (U1 (λj=>decide (8-(k+1)<=j)&&a1C (X1 (A 7) A) (X1 (B 7) B) 8 j) 8))))).get (s5.next+1)=some (.cells (U3 (U1 (a41 (a2o (X1 (A 7) A) (X1 (B 7) B) 8 k) ((X1 (A 7) A) (7-k))) 8))):=by
   rw[Y8 oJ];exact f7.kp wx
  generalize s7.set qb (some (.cells (U3 (U1 (λj=>decide (8-(k+1)<=j)&&a1C (X1 (A 7) A) (X1 (B 7) B) 8 j) 8))))=s8 at *;refine xv (b6i (VB.bk (f8.kp gy)) oJ) λb9 s9 hb9 g9 f9=>?_
  have qC:=f8.trans f9 sJ;refine V9 ?_;refine xv (b0T (hg.fr (iY.trans qC sJ)) (VB.bk (f9.kp pA)) (VB.bk g9) oJ true) λb10 oj hb10 g10 f10=>?_
  have qY:=qC.trans f10 sJ;refine V9 ?_;refine xv (b8h (hg.fr (iY.trans qY sJ)) (VB.bk g10) (VB.bk (f10.kp (f9.kp pA))) oJ (a8Y (X1 (A 7) A) (X1 (B 7) B) 8 k)) λb11 wS hb11 g11 f11=>?_
  have l8:=t3 Ej;have n9:=f9.1;have n10:=f10.1;refine V9 ?_;exact⟨ck,qY.trans f11 sJ,f11.kp (f10.kp (f9.kp Ej)),b11,rfl,oJ,g11⟩
 obtain rfl:k=8:=oJ;have gq:s5.get qb=some (.cells (U3 (U1 (a1C (X1 (A 7) A) (X1 (B 7) B) 8) 8))):=by
  rw[gq];congr 3
 have xJ:¬((8:Nat):Int)<8:=oJ;refine zY (V4 h h14 xJ) ?_;have jO:=iY.trans fr sJ;refine xb (a8d (hg.fr jO) _ _) λs6 f6=>?_
 have jP:=jO.trans f6 sJ;refine V9 ?_;refine xv (b1N (hg.fr jP) (VB.bk (f6.kp gq)) oJ _) λq s7 hq gq f7=>?_
 have mC:=jP.trans f7 sJ;refine V9 ?_;refine xv (b1N (hg.fr mC) (VB.bk (f7.kp (f6.kp gr))) oJ _) λp s8 hp gp f8=>?_
 have lW:=mC.trans f8 sJ;refine V9 ?_;refine xb (a6u (hg.fr lW) (VB.bk (f8.kp (f7.kp (f6.kp (fr.kp gb))))) oJ) λs9 f9=>?_
 have qC:=lW.trans f9 sJ;have lq:=t3 gq;have n7:=mC.1;have n6:=jP.1;have gq:=f9.kp (f8.kp gq);have gp:=f9.kp gp;refine V9 ?_;rw[c36 (S:=a0U B 8)]at gq gp;refine W6 [0,1,2,6,7,8,9,10,11,12,13,14,15,16,17,18,51,52,53,102] 0 8 (λi f s'=>f 103=.int .i64 (i:Int)/\Fr [] s s'/\s'.get q=some (.cells (U3 (U1 (fH (a0U B 8) (X1 (A 7 != B 7) (a1C (X1 (A 7) A) (X1 (B 7) B) 8)) i) 8)))/\s'.get p=some (.cells (U3 (U1 (fH (a0U B 8) (X1 (A 7) (a2o (X1 (A 7) A) (X1 (B 7) B) 8 8)) i) 8)))) (.mk rfl) oJ ⟨rfl,qC,gq,gp⟩ ?_;clear gq gp;rintro i f oj hi ⟨h,fr,gq,gp⟩;have DS:q≠p:=oJ;have Bj:=DS.symm;by_cases ci:i<8
 rotate_left
 .obtain rfl:i=8:=oJ
  have jn:¬((8:Nat):Int)<8:=oJ;rw[hf_all]at gq gp;refine zY (aN h jn) ?_;exact⟨q,p,rfl,oJ,oJ,gq,gp,fr⟩
 have jn:(i:Int)<8:=oJ;have lq:=t3 gq;have lp:=t3 gp;have e1:=b7y (S:=a0U B 8) (Z:=X1 (A 7 != B 7) (a1C (X1 (A 7) A) (X1 (B 7) B) 8)) ci;have e2:=b7y (S:=a0U B 8) (Z:=X1 (A 7) (a2o (X1 (A 7) A) (X1 (B 7) B) 8 8)) ci;have t1:=b8q (S:=a0U B 8) (Z:=X1 (A 7 != B 7) (a1C (X1 (A 7) A) (X1 (B 7) B) 8)) ci;have t2:=b8q (S:=a0U B 8) (Z:=X1 (A 7) (a2o (X1 (A 7) A) (X1 (B 7) B) 8 8)) ci;have k1:=a6R (A:=fH (a0U B 8) (X1 (A 7 != B 7) (a1C (X1 (A 7) A) (X1 (B 7) B) 8)) i) ci;have k2:=a6R (A:=fH (a0U B 8) (X1 (A 7) (a2o (X1 (A 7) A) (X1 (B 7) B) 8 8)) i) ci;refine zY (W0 h jn ci gq e1) ?_;refine xb (a1A (hg.fr fr) _ _) λwS f11=>?_
 have gq:=f11.kp gq;have gp:=f11.kp gp;have lq:=t3 gq;have lp:=t3 gp;refine zY (U0 gq gp k1 t1 ci e2 Bj DS) ?_;have nZ:=(fr.trans f11 sJ).st (b:=q) oJ (some (.cells (U3 (U1 (fH (a0U B 8) (X1 (A 7 != B 7) (a1C (X1 (A 7) A) (X1 (B 7) B) 8)) (i+1)) 8))));have gq2:(wS.set q (some (.cells (U3 (U1 (fH (a0U B 8) (X1 (A 7 != B 7) (a1C (X1 (A 7) A) (X1 (B 7) B) 8)) (i+1)) 8))))).get q=some (.cells (U3 (U1 (fH (a0U B 8) (X1 (A 7 != B 7) (a1C (X1 (A 7) A) (X1 (B 7) B) 8)) (i+1)) 8))):=a0b lq;have gp2:(wS.set q (some (.cells (U3 (U1 (fH (a0U B 8) (X1 (A 7 != B 7) (a1C (X1 (A 7) A) (X1 (B 7) B) 8)) (i+1)) 8))))).get p=some (.cells (U3 (U1 (fH (a0U B 8) (X1 (A 7) (a2o (X1 (A 7) A) (X1 (B 7) B) 8 8)) i) 8))):=by rw[Y8 Bj];exact gp
 refine xb (a1A (hg.fr nZ) _ _) λBT f13=>?_
 have gq:=f13.kp gq2;have gp:=f13.kp gp2;have lq:=t3 gq;have lp:=t3 gp;refine zY (V1 gp k2 t2 ci) ?_;exact⟨(nZ.trans f13 sJ).st oJ _,gq⟩
theorem vdiv_c(hg:GB s g)(ha:VB s da (U1 A 8))(hb:VB s db (U1 B 8)):CV U5 162 [.ptr g 0,da,db] s (λi=>a0U B 8&&X1 (A 7 != B 7) (a1C (X1 (A 7) A) (X1 (B 7) B) 8) i) 8:=by
 have oa:=ha.one;have ob:=hb.one;unfold CV;refine Y0 (vf:=b3i) rfl ?_;unfold b3i;refine zF ?_;refine zY (aN oa ob) ?_;refine a0M (c1O hg ha hb) rfl ?_;rintro r s1 ⟨q,p,rfl,nq,np,gq,gp,f1⟩;refine V9 ?_;exact⟨q,rfl,nq,gq,f1⟩
theorem vrem_c(hg:GB s g)(ha:VB s da (U1 A 8))(hb:VB s db (U1 B 8)):CV U5 163 [.ptr g 0,da,db] s (λi=>a0U B 8&&X1 (A 7) (a2o (X1 (A 7) A) (X1 (B 7) B) 8 8) i) 8:=by
 have oa:=ha.one;have ob:=hb.one;unfold CV;refine Y0 (vf:=b6q) rfl ?_;unfold b6q;refine zF ?_;refine zY (aN oa ob) ?_;refine a0M (c1O hg ha hb) rfl ?_;rintro r s1 ⟨q,p,rfl,nq,np,gq,gp,f1⟩;refine V9 ?_;exact⟨p,rfl,np,gp,f1⟩
theorem c1B(n:Int)(w1:1<=w)(w2:w<=16):a5u U5 122 [.int .i64 n,.int .i64 (w:Int)] λd=>VZ d (bL n w):=by
 have hb:=b82 (n:=(w:Int)) oJ oJ;have m1:=fu (w:=w) oJ;have m2:=eK (w:=w) oJ;have hz:=a2c w;rw[a3Q (W1 n)]at hz;refine a5n (vf:=b50) rfl ?_;unfold b50;refine zF ?_;refine zY (V1 hb m1 m2 hz) ?_;refine W6 [0,1,4,5,11] 0 w (λi f s'=>f 12=.int .i64 (i:Int)/\s'.get 0=some (.cells (U3 (U1 (Y1 (W1 n) i) w)))) (.mk rfl) oJ ⟨rfl,W8 rfl⟩ ?_;rintro i f s2 hi ⟨h,gb⟩;by_cases ci:i<w
 .have hs:=a50 (A:=W1 n) ci
  have hw:=a3d (A:=W1 n) ci;have lH:=a8c (x:=n) (i:=i) oJ;have ha:=a8m (x:=n/2^i);have lb:=t3 gb;rw[a9k]at ha;exact zZ (X0 h ci lH ha gb hs hw)
 .obtain rfl:i=w:=oJ
  rw[a3w]at gb;obtain⟨d',h1,h2⟩:=(VB.bk gb).dI;refine zY (aN h ci) ?_;exact⟨d',h1,h2⟩
theorem c45(n:Int)(w2:w<=16):a5u U5 82 [.int .i64 n,.int .i64 (w:Int)] λd=>VZ d (bL n w):=by
 have m1:=fu (w:=w) oJ;have m2:=eK (w:=w) oJ;have hz:=a2c w;rw[a3Q (W1 n)]at hz;refine a5n (vf:=vf82) rfl ?_;unfold vf82;refine zF ?_;refine zY (V4 m1 m2 hz) ?_;refine W6 [0,1,4,5,9] 0 w (λi f s'=>f 10=.int .i64 (i:Int)/\s'.get 0=some (.cells (U3 (U1 (Y1 (W1 n) i) w)))) (.mk rfl) oJ ⟨rfl,W8 rfl⟩ ?_;rintro i f s2 hi ⟨h,gb⟩;by_cases ci:i<w
 .have hs:=a50 (A:=W1 n) ci
  have hw:=a3d (A:=W1 n) ci;have lH:=a8c (x:=n) (i:=i) oJ;have hu:=a9q (i:=i) oJ;have ha:=a8m (x:=n/2^i);have lb:=t3 gb;rw[a9k]at ha;exact zZ (U0 h ci hu lH ha gb hs hw)
 .obtain rfl:i=w:=oJ
  rw[a3w]at gb;obtain⟨d',h1,h2⟩:=(VB.bk gb).dI;refine zY (aN h ci) ?_;exact⟨d',h1,h2⟩
theorem b0I(b:Bool):a5u U5 124 [.int .i64 (V6 b)] λd=>VZ d (bL (V6 b) 8):=by
 have m1:(64:Int)<=2^47:=dJ;have m2:(8:Int)<2^62:=dJ;have hz:=a2c 8;have hs:D.int .i64 (V6 b)::List.drop 1 (U3 (U1 (λ_=>false) 8))=U3 (U1 (W1 (V6 b)) 8):=by cases b<;>rfl
 have gl:0<(k4.empty.push (.cells (U3 (U1 (λ_=>false) 8)))).next:=t3 (W8 rfl);have hw:=a6R (A:=λ_=>false) (w:=8) (i:=0) oJ;refine a5n (vf:=b4y) rfl ?_;unfold b4y;refine zF ?_;refine zY (W0 m1 m2 hz hs hw) ?_;exact(VB.bk (a0b gl)).dI
theorem c0p(hg:GB s g):Y4 U5 22 [.ptr g 0] s λr s'=>r=.int .i64 1/\s'=s:=by
 obtain⟨n,m,hg⟩:=hg;have hl:=t3 hg;refine Y0 (vf:=vf22) rfl ?_;unfold vf22;refine zF ?_;refine zY hg ?_;exact⟨rfl,rfl⟩
theorem b8B(hg:GB s g)(hd:VB s d (U1 A w))(hw:w<=1000):CV U5 40 [.ptr g 0,d] s A w:=by
 have jw:=hd.fG;have o:=hd.one;have m1:=fu (w:=w) oJ;have m2:=eK (w:=w) oJ;have hz:=a2c w;rw[a3Q A]at hz;unfold CV;refine Y0 (vf:=vf40) rfl ?_;unfold vf40;refine zF ?_;refine zY (W0 o jw m1 m2 hz) ?_;obtain⟨gb,f0⟩:=iE (s:=s) (A:=A) (w:=w);generalize s.push (.cells (U3 (U1 (Y1 A 0) w)))=s1 at *;refine xs (c0p (hg.fr f0)) ?_;refine zY jw ?_;refine W6 [0,1,4,5,6,15,16] 0 w (λi f s'=>f 17=.int .i64 (i:Int)/\s'.get s.next=some (.cells (U3 (U1 (Y1 A i) w)))/\Fr [] s s') (.mk rfl) oJ ⟨rfl,gb,f0⟩ ?_;clear gb f0;rintro i f s2 hi ⟨h,gb,fr⟩;by_cases ci:i<w
 .have hs:=a50 (A:=A) ci
  have hw:=a3d (A:=A) ci;obtain⟨p,p1,p2⟩:=(hd.fr fr).cQ ci (k:=.i64);have lb:=t3 gb;have c1:=c7s (A i);have c2:=c8y (A i);refine zY (U0 h ci p1 p2 c1 c2 gb (aN hs hw)) ?_;exact fr.st (sm _) _
 .obtain rfl:i=w:=oJ
  refine zY (aN h ci) ?_;rw[a3w]at gb;exact⟨_,rfl,sm _,gb,fr⟩
variable{n:Nat}
theorem b2G(hg:GB s g){k:Nat}(hd:VB s d (bL (n:Int) w))(hn:n<2^w)(hw:w<=16)(hk:k<=100000):CB U5 43 [.ptr g 0,d,.int .i64 (k:Int)] s (decide (n=k)):=by
 have jw:=hd.fG;have o:=hd.one;have c0:¬(k:Int)<0:=oJ;have hu:=a9q (i:=w) oJ;have lH:=a8c (x:=(k:Int)) (i:=w) oJ;have hp:=a6b w;by_cases ck:k<2^w
 rotate_left
 .have c1:((k:Int)/2^w != 0)=true:=by
   rw[Hm];have e:((2^w:Nat):Int)=2^w:=sJ;rw[<- e,<- Int.natCast_ediv];have:=Nat.div_pos (Nat.le_of_not_lt ck) (GU sJ);omega
  rw[FP oJ];unfold CB;refine Y0 (vf:=b1t) rfl ?_;unfold b1t;refine zF ?_;refine zY (X4 o jw c0 hu lH c1) ?_;exact⟨rfl,Fr.refl _ _⟩
 have c1:((k:Int)/2^w != 0)=false:=by
  rw[Ks,JU oJ];have e:((2^w:Nat):Int)=2^w:=sJ;omega
 rw[<- eq_b hn ck];have m1:=fu (w:=w) oJ;have m2:=eK (w:=w) oJ;have hz:=a2c w;rw[a3Q (a4Y n k)]at hz;unfold CB;refine Y0 (vf:=b1t) rfl ?_;unfold b1t;refine zF ?_;refine zY (U0 o jw c0 hu lH c1 m1 (aN m2 hz)) ?_;obtain⟨gb,f0⟩:=iE (s:=s) (A:=a4Y n k) (w:=w);generalize s.push (.cells (U3 (U1 (Y1 (a4Y n k) 0) w)))=s1 at *;refine W6 [0,1,2,6,7,19,23,24] 0 w (λi f s'=>f 25=.int .i64 (i:Int)/\s'.get s.next=some (.cells (U3 (U1 (Y1 (a4Y n k) i) w)))/\Fr [] s s') (.mk rfl) oJ ⟨rfl,gb,f0⟩ ?_;clear gb f0;rintro i f s2 hi ⟨h,gb,fr⟩;by_cases ci:i<w
 rotate_left
 .obtain rfl:i=w:=oJ
  rw[a3w]at gb;refine zY (aN h ci) ?_;refine xb (c1k (hg.fr fr) (VB.bk gb) oJ) λs3 f3=>?_
  refine V9 ?_;exact⟨rfl,fr.trans f3 sJ⟩
 obtain⟨p,p1,p2⟩:=(hd.fr fr).cQ ci (k:=.i64);have lb:=t3 gb;have hu:=a9q (i:=i) oJ;have lH:=a8c (x:=(k:Int)) (i:=i) oJ;have ha:=a8m (x:=(k:Int)/2^i);rw[a9k]at ha;have hw:=a3d (A:=a4Y n k) ci;have wi:=c7n (A:=a4Y n k) (b:=W1 n i) ci;cases hb:W1 (k:Int) i
 .rw[hb]at ha
  have hs:=c8j (A:=a4Y n k) (b:=W1 n i) ci;have mq:=c67 (A:=a4Y n k) (b:=W1 n i) (c:=!W1 n i) ci (by unfold a4Y;rw[hb];rfl);have hn:=a3a (W1 n i);refine zY (U0 h ci p1 p2 hu lH ha (X0 @a4Q hn gb hs mq hw wi)) ?_;exact(fr.st (sm _) _).st (sm _) _
 .rw[hb]at ha
  have hs:=a5E (A:=a4Y n k) (b:=W1 n i) ci (by unfold a4Y;rw[hb];rfl);refine zY (U0 h ci p1 p2 hu lH ha (V1 @a3P gb hs hw)) ?_;exact fr.st (sm _) _
theorem c5z(hg:GB s g){k:Int}(hd:VB s d (bL (n:Int) w))(hn:n<2^w)(hw:w<=16)(hk:-1<=k/\k<=100000):CB U5 54 [.ptr g 0,d,.int .i64 k] s (decide ((n:Int)<=k)):=by
 have jw:=hd.fG;have o:=hd.one;by_cases ck:k<0
 .rw[FP oJ]
  unfold CB;refine Y0 (vf:=a7W) rfl ?_;unfold a7W;refine zF ?_;refine zY (V4 o jw ck) ?_;exact⟨rfl,Fr.refl _ _⟩
 obtain⟨j,rfl⟩:∃j:Nat,k=(j:Int):=⟨k.toNat,oJ⟩
 have hu:=a9q (i:=w) oJ;have lH:=a8c (x:=(j:Int)) (i:=w) oJ;have hp:=a6b w;have e:((2^w:Nat):Int)=2^w:=sJ;by_cases cj:j<2^w
 rotate_left
 .have c1:((j:Int)/2^w != 0)=true:=by
   rw[Hm,<- e,<- Int.natCast_ediv];have:=Nat.div_pos (Nat.le_of_not_lt cj) (GU sJ);omega
  rw[FN oJ];unfold CB;refine Y0 (vf:=a7W) rfl ?_;unfold a7W;refine zF ?_;refine zY (X4 o jw ck hu lH c1) ?_;exact⟨rfl,Fr.refl _ _⟩
 have c1:((j:Int)/2^w != 0)=false:=by
  rw[Ks,JU oJ];omega
 have hm:=most_b hn cj;have e2:decide ((n:Int)<=(j:Int))=decide (n<=j):=by congr 1;apply propext;omega
 rw[e2,<- hm];unfold CB;refine Y0 (vf:=a7W) rfl ?_;unfold a7W;refine zF ?_;refine zY (X4 o jw ck hu lH c1) ?_;refine W6 [0,1,2,6,11,17,18,19] 0 w (λi f s'=>f 20=.int .i64 (i:Int)/\f 7=.int .i64 (V6 (cJ (W1 n) (W1 j) i))/\Fr [] s s') (.mk rfl) oJ ⟨rfl,rfl,Fr.refl _ _⟩ ?_;rintro i f s2 hi ⟨h,h7,fr⟩;by_cases ci:i<w
 rotate_left
 .obtain rfl:i=w:=oJ
  refine zY (V4 h h7 ci) ?_;exact⟨rfl,fr⟩
 obtain⟨p,p1,p2⟩:=(hd.fr fr).cQ ci (k:=.i64);have hu:=a9q (i:=i) oJ;have lH:=a8c (x:=(j:Int)) (i:=i) oJ;have ha:=a8m (x:=(j:Int)/2^i);rw[a9k]at ha;have hn:=a3a (W1 n i);cases hb:W1 (j:Int) i
 .rw[hb]at ha
  refine zY (U0 h h7 ci p1 p2 hu lH (V4 ha @a4Q hn)) ?_;refine xb (a1A (hg.fr fr) _ _) λs3 f3=>?_
  refine V9 ?_;refine⟨ci,?_,fr.trans f3 sJ⟩;rw[cJ,hb];rfl
 .rw[hb]at ha
  refine zY (U0 h h7 ci p1 p2 hu lH (V4 ha @a3P hn)) ?_;refine xb (a6O (hg.fr fr) _ _) λs3 f3=>?_
  refine V9 ?_;refine⟨ci,?_,fr.trans f3 sJ⟩;rw[cJ,hb];rfl
end Go.Proofs.YtigbmclkjknnjaaGreat
namespace Go.V
variable{fs:FuncId->Option U4}
theorem c3u{af T ops env s Q}(hp:a9r af ops=true)(h:WQ fs [] ops env s Q):WX fs af T ops env s Q:=by
 intro tr _;obtain⟨n,iO,s',h1,h2⟩:=h [] a9a;exact⟨n,iO,s',a73 hp h1,h2⟩
variable{s s':k4}
theorem Fr.up{ids:List Nat}(h:Fr [] s s'):Fr ids s s':=⟨h.1,λi hl _=>h.2 i hl sJ⟩
theorem Hp.call{p:Nat}{c c':List D}{W R H:Hs}(h:Hp s ((p,c)::W) R)(hf:Fr [p] s s')(hg:s'.get p=some (.cells c'))(hH:∀e∈H,s.next<=e.1/\s'.get e.1=some (.cells e.2)):Hp s' ((p,c')::W) (H++R):=by
 have tG:=h.nd;rw[FJ,Hf]at tG;refine⟨by grind,?_,?_,?_⟩
 .intro w hw r hr e
  have jq:w.1<s.next:=by
   rcases Fi.1 hw with rfl|hw
   .exact h.ltW (w:=(p,c)) sJ
   .exact h.ltW (by simp[hw])
  rcases Fm.1 hr with hr|hr
  .grind
  .rcases Fi.1 hw with rfl|hw
   .exact h.ap (p,c) sJ r hr e
   .exact h.ap w (by simp[hw]) r hr e
 .intro w hw
  rcases Fi.1 hw with rfl|hw
  .exact hg
  .have:=h.w w (by simp[hw])
   rw[hf.2 _ (t3 this) (by
    grind)]
   exact this
 .intro r hr
  rcases Fm.1 hr with hr|hr
  .exact(hH r hr).2
  .have:=h.r r hr
   rw[hf.2 _ (t3 this) (by
    rw[Fu];intro e;exact h.ap (p,c) sJ r hr e.symm)]
   exact this
theorem c1R{t rest env K s d sz bytes rows row A B E R}(h:Rp d sz rows E)(hp:Hp s (A++E++B) R)(hr:row.length=sz)(nH:∀r∈rows,r.length=sz)(hb:bytes<=1000)(hl:rows.length<=1000000000)
 (k:∀id s',Rp (.arr id 0 (rows.length+1) sz) sz (rows++[row]) [(id,(rows++[row]).flatten)]->Hp s' (A++(id,(rows++[row]).flatten)::B) R->s.next<=id->Fr (E.map Prod.fst) s s'->XQ fs [] rest ((t,.arr id 0 (rows.length+1) sz)::env) s' K):BM (a0e sz bytes d (.arr s.next 0 1 sz) (s.push (.cells row))) fs t rest env K :=
 a9y h hp hr nH hb hl λs' h1 h2 h3 h4=>k _ s' h1 h2 oJ ⟨oJ,λj hj hn=>h4 j hj λe he hx=>hn (Fs.2 ⟨e,he,hx⟩)⟩
inductive Im where
 |ch (w:List Nat) (k n:Nat)
 |vr (w:List Nat) (n:Nat)
 |pr (w:List Nat) (k:Nat)
 deriving Inhabited
def skipR(pos:Nat):List D:=[.int .i64 14,.ag,.ag,.ag,.int .i64 (pos:Int),.ag]
def intR(l:List Int):List (List D):=l.map λn=>[.int .i64 n]
def RowR(r:List D)(H:Hs):Im->Prop
 |.ch w k n=>∃(pos:Nat)(dw dn:D)(Ew En:Hs),r=[.int .i64 1,dw,dn,.ag,.int .i64 (pos:Int),.ag]/\Rp dw 1 [[.str (bs w)]] Ew/\Rp dn 1 (intR [(k:Int),(n:Int),0,0]) En/\H=Ew++En
 |.vr w n=>∃(pos:Nat)(dw dn:D)(Ew En:Hs),r=[.int .i64 2,dw,dn,.ag,.int .i64 (pos:Int),.ag]/\Rp dw 1 [[.str (bs w)]] Ew/\Rp dn 1 (intR [(n:Int),0]) En/\H=Ew++En
 |.pr w k=>∃(pos:Nat)(dw dn dl:D)(Ew En El:Hs)(qs:List Nat),r=[.int .i64 3,dw,dn,.ag,.int .i64 (pos:Int),dl]/\Rp dw 1 [[.str (bs w)]] Ew/\Rp dn 1 (intR [1]) En/\qs.length=k/\Rp dl 6 (qs.map skipR) El/\H=Ew++(En++El)
def Im.size:Im->Nat
 |.ch _ _ _=>1
 |.vr _ _=>1
 |.pr _ k=>k+1
def aX(l:List Im):Nat:=(l.map Im.size).sum
def Rr(R:Hs)(d:D)(l:List D):Prop:=(d=.ag/\l=[])\/d=.bu 1 (l.map λx=>[x])\/∃id off cs,d=.arr id off l.length 1/\(id,cs)∈R/\off+l.length<=cs.length/\(cs.drop off).take l.length=l
variable{R:Hs}{d:D}{l:List D}
theorem Rr.rd(h:Rr R d l)(hs:Y2 s R):Rd s d l:=by
 rcases h with h|h|⟨id,off,cs,rfl,h1,h2,h3⟩
 .exact .inl h
 .exact .inr (.inl h)
 .exact .inr (.inr ⟨id,off,cs,rfl,hs (id,cs) h1,h2,h3⟩)
theorem Rr.mono{R R':Hs}(h:Rr R d l)(hr:∀e∈R,e∈R'):Rr R' d l:=by
 rcases h with h|h|⟨id,off,cs,rfl,h1,h2,h3⟩
 .exact .inl h
 .exact .inr (.inl h)
 .exact .inr (.inr ⟨id,off,cs,rfl,hr _ h1,h2,h3⟩)
theorem Rr.one(h:Rr R d l):V5 d=true:=by
 rcases h with⟨rfl,_⟩|rfl|⟨_,_,_,rfl,_⟩<;>rfl
theorem Rr.take{R:Hs}{d:D}{l:List D}(h:Rr R d l){n:Nat}(hn:n<=l.length){k:IntKind}:∃d',a3y (some 1) d none (some (.int k (n:Int)))=some d'/\Rr R d' (l.take n):=by
 rcases h with⟨rfl,rfl⟩|rfl|⟨id,off,cs,rfl,h1,h2,h3⟩
 .obtain rfl:n=0:=by simpa using hn
  exact⟨.ag,by simp[a3y,a2m],.inl ⟨rfl,rfl⟩⟩
 .exact⟨_,by simp[a3y,a2m,hn];rfl,.inr (.inl sJ)⟩
 .by_cases h0:0<l.length
  .refine⟨.arr id off n 1,by simp[a3y,a2m,hn];intro h;subst h;simp at h0,.inr (.inr ⟨id,off,cs,by simp[JW hn],h1,by simp;omega,?_⟩)⟩
   grind
  .have e:l=[]:=Gi oJ
   subst e;obtain rfl:n=0:=sU hn;exact⟨.bu 1 [],by simp[a3y,a2m],.inr (.inl rfl)⟩
theorem Rr.drop{R:Hs}{d:D}{l:List D}(h:Rr R d l){n:Nat}(hn:n<=l.length){k:IntKind}:∃d',a3y (some 1) d (some (.int k (n:Int))) none=some d'/\Rr R d' (l.drop n):=by
 rcases h with⟨rfl,rfl⟩|rfl|⟨id,off,cs,rfl,h1,h2,h3⟩
 .obtain rfl:n=0:=by simpa using hn
  exact⟨.ag,by simp[a3y,a2m],.inl ⟨rfl,rfl⟩⟩
 .exact⟨.bu 1 ((l.map λx=>[x]).drop n),by simp_all[a3y,a2m,Gk],.inr (.inl sJ)⟩
 .by_cases h0:n<l.length
  .refine⟨.arr id (off+n) (l.length-n) 1,by simp[a3y,a2m,h0,hn],.inr (.inr ⟨id,off+n,cs,sJ,h1,by simp;omega,?_⟩)⟩
   have e:=Ig (List.drop n) h3;grind[List.drop_take,List.drop_drop]
  .have e:l.drop n=[]:=HG oJ
   rw[e];exact⟨.bu 1 [],by grind[a3y,a2m],.inr (.inl rfl)⟩
variable{x:D}
theorem c5t(h:Rd s x l)(hl:l.length<=100000):∃r s' E,a0e 1 8 .ag x s=some (r,s')/\Rr E r l/\Fr [] s s'/\∀e∈E,s.next<=e.1/\s'.get e.1=some (.cells e.2):=by
 obtain⟨h1,h2,h3⟩:=h.row;by_cases c:l=[]
 .subst c
  exact⟨.ag,s,[],by grind[a0e],.inl ⟨rfl,rfl⟩,Fr.refl _ _,sJ⟩
 .have hn:l.length≠0:=λh=>c (Gi h)
  refine⟨.arr s.next 0 l.length 1,s.push (.cells l),[(s.next,l)],?_,.inr (.inr ⟨s.next,0,l,rfl,sJ,oJ,sJ⟩),Fr.push _,?_⟩
  .unfold a0e
   grind
  .intro e he
   simp only[Fu]at he;subst he;exact⟨sm _,W8 rfl⟩
theorem b3K{af T i t fo args rest s K W}{env:k6}{f:FuncId}{iX:List D}{P:D->k4->Prop}(hf:env.ev fo=.fn f iX)(hr:Y4 fs f l s P)(ha:env.aR args++iX=l)(iW:∀d s',P d s'->Fr W s s')(hT:∀e∈T,(e.i,i)∈af->∀id,e.rd=some id->id<s.next/\id∉W)(hp:a9r af rest=true)
 (h:∀d s',P d s'->XQ fs [] rest ((t,d)::env) s' K):WX fs af T ((i,⟨some t,.m (.call .raw fo args),none⟩)::rest) env s K:=by
 subst ha;obtain⟨d,s',⟨n,hn⟩,nG⟩:=hr;have fr:=iW d s' nG;refine b1Y (d:=d) (s':=s') (E:=W++List.range' s.next (s'.next-s.next)) ⟨n,by simp only[cO,a3c,hf];exact hn⟩ ?_ fr.1 ?_ (c3u hp (a3G (h d s' nG)))
 .intro id jb
  rw[Fm,Jr]at jb;by_cases c:id<s.next
  .exact(fr.2 id c λh=>jb (.inl h)).symm
  .have c2:¬id<s'.next:=λh=>jb (.inr ⟨oJ,oJ⟩)
   rw[k4.get_none _ _ oJ,k4.get_none _ _ oJ]
 grind
def LL(R:Hs)(d:D)(ls:List (List Bool)):Prop:=∃ds:List D,Rr R d ds/\ds.length=ls.length/\ds.all V5=true/\∀i(h:i<ds.length)(h':i<ls.length),Rr R ds[i] (U3 ls[i])
def LM(R:Hs)(d:D)(ls:List (List (List Bool))):Prop:=∃ds:List D,Rr R d ds/\ds.length=ls.length/\ds.all V5=true/\∀i(h:i<ds.length)(h':i<ls.length),LL R ds[i] ls[i]
theorem LL.mono{R R':Hs}{d:D}{ls:List (List Bool)}(h:LL R d ls)(hr:∀e∈R,e∈R'):LL R' d ls:=by
 obtain⟨ds,h1,h2,h3,h4⟩:=h;exact⟨ds,h1.mono hr,h2,h3,λi a b=>(h4 i a b).mono hr⟩
theorem LM.mono{R R':Hs}{d:D}{ls:List (List (List Bool))}(h:LM R d ls)(hr:∀e∈R,e∈R'):LM R' d ls:=by
 obtain⟨ds,h1,h2,h3,h4⟩:=h;exact⟨ds,h1.mono hr,h2,h3,λi a b=>(h4 i a b).mono hr⟩
theorem LL.one{R:Hs}{d:D}{ls:List (List Bool)}(h:LL R d ls):V5 d=true:=by obtain⟨ds,h1,_⟩:=h;exact h1.one
theorem LM.one{R:Hs}{d:D}{ls:List (List (List Bool))}(h:LM R d ls):V5 d=true:=by obtain⟨ds,h1,_⟩:=h;exact h1.one
theorem LL.len{R:Hs}{d:D}{ls:List (List Bool)}(h:LL R d ls){s:k4}(hs:Y2 s R):a0x false d=some (.int .i64 (ls.length:Int)):=by
 obtain⟨ds,h1,h2,_⟩:=h;rw[(h1.rd hs).len,h2]
theorem LL.idx{R:Hs}{d:D}{ls:List (List Bool)}(h:LL R d ls){s:k4}(hs:Y2 s R){i:Nat}(hi:i<ls.length){k:IntKind}:∃p x,W7 1 d (.int k (i:Int))=some p/\bF s.get none p=some x/\Rr R x (U3 ls[i]):=by
 obtain⟨ds,h1,h2,h3,h4⟩:=h;obtain⟨p,p1,p2⟩:=(h1.rd hs).idx h3 (i:=i) oJ (k:=k) rfl;simp_all
theorem LM.idx{R:Hs}{d:D}{ls:List (List (List Bool))}(h:LM R d ls){s:k4}(hs:Y2 s R){i:Nat}(hi:i<ls.length){k:IntKind}:∃p x,W7 1 d (.int k (i:Int))=some p/\bF s.get none p=some x/\LL R x ls[i]:=by
 obtain⟨ds,h1,h2,h3,h4⟩:=h;obtain⟨p,p1,p2⟩:=(h1.rd hs).idx h3 (i:=i) oJ (k:=k) rfl;simp_all
def a0K(ds:List D):List (List D):=ds.map λx=>[x]
theorem c2n{ds:List D}:∀r∈a0K ds,r.length=1:=by intro r hr;obtain⟨_,_,rfl⟩:=Fs.1 hr;rfl
theorem c3I(ds:List D):(a0K ds).flatten=ds:=by
 induction ds with
 |nil=>rfl
 |cons a r ih=>grind[a0K]
variable{ds:List D}
theorem Rp.rr{E R:Hs}(h:Rp d 1 (a0K ds) E)(hr:∀e∈E,e∈R):Rr R d ds:=by
 rcases h with⟨rfl,h,_⟩|⟨id,rfl,rfl,_⟩
 .exact .inl ⟨rfl,IW.1 h⟩
 .refine .inr (.inr ⟨id,0,ds,by simp[a0K],hr _ (by simp[c3I]),oJ,sJ⟩)
structure GL(R:Hs)(ds:List D)(ls:List (List Bool)):Prop where
 n:ds.length=ls.length
 o:ds.all V5=true
 v:∀i(h:i<ds.length)(h':i<ls.length),Rr R ds[i] (U3 ls[i])
structure GM(R:Hs)(ds:List D)(ls:List (List (List Bool))):Prop where
 n:ds.length=ls.length
 o:ds.all V5=true
 v:∀i(h:i<ds.length)(h':i<ls.length),LL R ds[i] ls[i]
theorem GL.mono{R R':Hs}{ds:List D}{ls:List (List Bool)}(h:GL R ds ls)(hr:∀e∈R,e∈R'):GL R' ds ls:=⟨h.n,h.o,λi a b=>(h.v i a b).mono hr⟩
theorem GM.mono{R R':Hs}{ds:List D}{ls:List (List (List Bool))}(h:GM R ds ls)(hr:∀e∈R,e∈R'):GM R' ds ls:=⟨h.n,h.o,λi a b=>(h.v i a b).mono hr⟩
theorem GL.snoc{ls:List (List Bool)}{l:List Bool}(h:GL R ds ls)(hx:Rr R x (U3 l)):GL R (ds++[x]) (ls++[l]):=by
 have hn:=h.n;refine⟨by simp[hn],by rw[IQ,h.o];simp[hx.one],λi a b=>?_⟩;by_cases c:i<ds.length
 .rw[GZ c,GZ oJ]
  exact h.v i c oJ
 grind
theorem GM.snoc{ls:List (List (List Bool))}{l:List (List Bool)}(h:GM R ds ls)(hx:LL R x l):GM R (ds++[x]) (ls++[l]):=by
 have hn:=h.n;refine⟨by simp[hn],by rw[IQ,h.o];simp[hx.one],λi a b=>?_⟩;by_cases c:i<ds.length
 .rw[GZ c,GZ oJ]
  exact h.v i c oJ
 grind
theorem GL.ll{R E:Hs}{ls:List (List Bool)}(h:GL R ds ls)(hd:Rp d 1 (a0K ds) E)(hE:∀e∈E,e∈R):LL R d ls:=⟨ds,hd.rr hE,h.n,h.o,h.v⟩
theorem GM.lm{R E:Hs}{ls:List (List (List Bool))}(h:GM R ds ls)(hd:Rp d 1 (a0K ds) E)(hE:∀e∈E,e∈R):LM R d ls:=⟨ds,hd.rr hE,h.n,h.o,h.v⟩
def Mo.cM(mo:Mo)(st:U6)(i:Nat):List Bool:=bL (W2 st.aF i:Int) (wid ((k7 mo.procs i).ah:Int))
def Mo.cE(mo:Mo)(st:U6)(i:Nat):List Bool:=bL (X9 st.vars i) (bh mo.vars i).width.toNat
def Mo.cN(st:U6)(i:Nat):List Bool:=bL ((U8 st.ae i).length:Int) 2
def Mo.cH(mo:Mo)(st:U6)(i j:Nat):List Bool:=bL (X9 (U8 st.ae i) j) (U7 mo.ae i).width.toNat
def Mo.ey(mo:Mo)(st:U6)(i:Nat):List (List Bool):=(List.range (U7 mo.ae i).room.toNat).map (mo.cH st i)
theorem b5u{α β:Type}{e:α->β->List Bool}:∀{a:List α}{b:List β}{i:Nat}(h:i<a.length)(h':i<b.length),a0X e (a.drop i) (b.drop i)=e a[i] b[i]++a0X e (a.drop (i+1)) (b.drop (i+1)):=by
 intro a b i h h';rw[GS h,GS h'];rfl
theorem b5r{α β:Type}{e:α->β->List Bool}{a:List α}{b:List β}:a0X e (a.drop a.length) b=[]:=by
 rw[List.drop_length];cases b<;>rfl
theorem c2i(w:Nat)(l:List Int):∀k,a1T w l k=(List.range k).flatMap λj=>bL (X9 l j) w
 |0=>rfl
 |k+1=>by rw[a1T,c2i w l k,Gv,HU];simp
structure Vw(R:Hs)(v g:Nat)(m:X7)(mo:Mo)(st:U6):Prop where
 w:∃dA dV dS dM dH,(v,[.ptr g 0,m.dt,.int .i64 m.g,m.dc,m.dv,m.dp,m.ds,.bool m.b,dA,dV,dS,dM,dH])∈R/\LL R dA ((List.range mo.procs.length).map (mo.cM st))/\LL R dV ((List.range mo.vars.length).map (mo.cE st))/\LL R dS ((List.range mo.ae.length).map (Mo.cN st))/\LM R dM ((List.range mo.ae.length).map (mo.ey st))/\Rr R dH (U3 (bL (st.hold+1) 3))
theorem a9p(a b:List Bool):U3 (a++b)=U3 a++U3 b:=by simp[U3]
variable{w:Nat}
theorem c28{a b:List Bool}(h:a.length=w):(U3 (a++b)).take w=U3 a:=by
 rw[a9p,<- h,<- a5p a,Ke]
theorem c9F{a b:List Bool}(h:a.length=w):(U3 (a++b)).drop w=U3 b:=by
 rw[a9p,<- h,<- a5p a,Kf]
variable{mo:Mo}{i:Nat}
theorem b9A{st:U6}(h:i<mo.procs.length)(h':i<st.aF.length):a4S mo.procs[i] st.aF[i]=mo.cM st i:=by
 grind[a4S,Mo.cM,a4e,a12]
theorem c1v{st:U6}(h:i<mo.vars.length)(h':i<st.vars.length):a45 mo.vars[i] st.vars[i]=mo.cE st i:=by
 grind[a45,Mo.cE,a26,a3x]
theorem c0z(ds:List D)(r:D):a0K (ds++[r])=a0K ds++[[r]]:=by simp[a0K]
@[simp] theorem a9E(ds:List D):(a0K ds).length=ds.length:=by simp[a0K]
structure SP(s s':k4)(mN:List D)(g:Nat)(dA dV dS dM:D)(E R:Hs)(l:List Bool):Prop where
 fr:Fr [] s s'
 hp:∃d,Hp s' ((s.next+1,[d])::(s.next+2,.ptr g 0::(mN++[dA,dV,dS,dM,.ag]))::E) R/\Rr R d (U3 l)
 mb:(s.next,mN)∈R
 ge:∀e∈E,s.next<=e.1
 ln:l.length<=100000
variable{l:List Bool}{mN:List D}{g:Nat}{dA dV dS dM:D}{E:Hs}
theorem SP.dI{F:Hs}(h:SP s s' mN g dA dV dS dM (E++F) R l):SP s s' mN g dA dV dS dM E (F++R) l:=by
 obtain⟨d,hp,hd⟩:=h.hp;exact⟨h.fr,⟨d,hp.freeze sJ,hd.mono λe he=>by simp[he]⟩,by simp[h.mb],λe he=>h.ge e (by simp[he]),h.ln⟩
theorem SP.garb{s'':k4}(h:SP s s' mN g dA dV dS dM E R l)(f:Fr [] s' s''):SP s s'' mN g dA dV dS dM E R l:=by
 obtain⟨d,hp,hd⟩:=h.hp;exact⟨h.fr.trans f sJ,⟨d,hp.fr f,hd⟩,h.mb,h.ge,h.ln⟩
theorem SP.view(h:SP s s' mN g dA dV dS dM E R l):s'.get (s.next+2)=some (.cells (.ptr g 0::(mN++[dA,dV,dS,dM,.ag]))):=by
 obtain⟨d,hp,_⟩:=h.hp;exact hp.w (s.next+2,.ptr g 0::(mN++[dA,dV,dS,dM,.ag])) sJ
theorem SP.mbg(h:SP s s' mN g dA dV dS dM E R l):s'.get s.next=some (.cells mN):=by
 obtain⟨d,hp,_⟩:=h.hp;exact hp.r _ h.mb
theorem SP.set(h:SP s s' mN g dA dV dS dM E R l)(a b c d:D):SP s (s'.set (s.next+2) (some (.cells (.ptr g 0::(mN++[a,b,c,d,.ag]))))) mN g a b c d E R l:=by
 obtain⟨x,hp,hd⟩:=h.hp;exact⟨h.fr.st oJ _,⟨x,Hp.set (A:=[(s.next+1,[x])]) hp _,hd⟩,h.mb,h.ge,h.ln⟩
theorem b03{t rest env K A B F}{dX r:D}(sp:SP s s' mN g dA dV dS dM (A++F++B) R l)(hd:Rp dX 1 (a0K ds) F)(hl:ds.length<=1000)
 (k:∀id s6,Rp (.arr id 0 (ds.length+1) 1) 1 (a0K (ds++[r])) [(id,(a0K (ds++[r])).flatten)]->SP s s6 mN g dA dV dS dM (A++[(id,(a0K (ds++[r])).flatten)]++B) R l->XQ fs [] rest ((t,.arr id 0 (ds.length+1) 1)::env) s6 K):BM (a0e 1 24 dX (.arr s'.next 0 1 1) (s'.push (.cells [r]))) fs t rest env K:=by
 obtain⟨x,hp,hx⟩:=sp.hp;have n1:=sp.fr.1;refine c1R (A:=(s.next+1,[x])::(s.next+2,.ptr g 0::(mN++[dA,dV,dS,dM,.ag]))::A) (E:=F) (B:=B) hd (sU hp) rfl c2n dJ qJ λid s6 h1 h2 h3 h4=>?_
 rw[<- c0z]at h1 h2;rw[a9E]at h1⊢;refine k id s6 h1 ⟨sp.fr.trans h4 ?_,⟨x,sU h2,hx⟩,sp.mb,?_,sp.ln⟩
 .intro i hi
  right;obtain⟨e,he,rfl⟩:=Fs.1 hi;exact sp.ge e (by simp[he])
 .intro e he
  simp only[Fm,Fu]at he;rcases he with(he|rfl)|he
  .exact sp.ge e (by simp[he])
  .simp only;omega
  .exact sp.ge e (by simp[he])
variable{af:List (Nat×Nat)}
theorem hT2{k a vb n sb:Nat}{ra:Option Nat}(h2:vb<n)(h3:vb≠sb)(h1:(a,k)∉af:=by decide):∀e∈[(⟨a,ra,[]⟩:cu),⟨4,some vb,[]⟩],(e.i,k)∈af->∀id,e.rd=some id->id<n/\id∉[sb]:=by
 grind
theorem hT1{k vb n sb:Nat}(h2:vb<n)(h3:vb≠sb):∀e∈[(⟨4,some vb,[]⟩:cu)],(e.i,k)∈af->∀id,e.rd=some id->id<n/\id∉[sb]:=by
 grind
theorem SP.box(h:SP s s' mN g dA dV dS dM E R l)(z:Z7)(cs:List D):SP s ((s'.push z).set s'.next (some (.cells cs))) mN g dA dV dS dM E ((s'.next,cs)::R) l:=by
 obtain⟨d,hp,hd⟩:=h.hp;exact⟨h.fr.trans a1Q sJ,⟨d,hp.newR z cs,hd.mono λe he=>by simp[he]⟩,by simp[h.mb],h.ge,h.ln⟩
theorem SP.rd(h:SP s s' mN g dA dV dS dM E R l):Y2 s' R:=by
 obtain⟨d,hp,_⟩:=h.hp;exact hp.r
def Mo.msR(mo:Mo)(st:U6)(i j:Nat):List Bool:=(List.range' j ((U7 mo.ae i).room.toNat-j)).flatMap (mo.cH st i)
theorem c43{st:U6}:mo.msR st i (U7 mo.ae i).room.toNat=[]:=by simp[Mo.msR]
theorem c5M{st:U6}{j:Nat}(h:j<(U7 mo.ae i).room.toNat):mo.msR st i j=mo.cH st i j++mo.msR st i (j+1):=by
 unfold Mo.msR;have e:(U7 mo.ae i).room.toNat-j=((U7 mo.ae i).room.toNat-(j+1))+1:=oJ;rw[e,II,HE]
theorem c0G{st:U6}(h:i<mo.ae.length)(h':i<st.ae.length):a3Z mo.ae[i] st.ae[i]=Mo.cN st i++mo.msR st i 0:=by
 unfold a3Z Mo.cN Mo.msR Mo.cH;rw[c2i,a3X h',a2W h,JN,Kk]
end Go.V
namespace Go.Proofs.YtigbmclkjknnjaaGreat
open Go.V
variable{s:k4}{W R:Hs}{w:Nat}{d:D}
theorem take_c{sb:Nat}{l:List D}(hp:Hp s ((sb,[d])::W) R)(hd:Rr R d l)(hw:w<=l.length)(hl:l.length<=100000):Y4 U5 75 [.int .i64 (w:Int),.ptr sb 0] s λr s'=>∃d' E,Hp s' ((sb,[d'])::W) (E++R)/\Rr (E++R) r (l.take w)/\Rr R d' (l.drop w)/\Fr [sb] s s':=by
 have gb:=hp.hd;have lb:=t3 gb;have od:=hd.one;obtain⟨d1,h1,r1⟩:=hd.take hw (k:=.i64);obtain⟨d2,h2,r2⟩:=hd.drop hw (k:=.i64);have o2:=r2.one;obtain⟨r,s1,E,ha,hr,f1,hE⟩:=c5t (r1.rd hp.r) qJ;have o1:=hr.one;have lE:=f1.kp gb;have sR:=t3 lE;simp(disch:=(first|exact Rf.mk rfl|with_reducible assumption|omega|((repeat(first|rw[nP]|rw[nS]|rw[Y3]))<;>omega)|decide)) only[go_sem,↓reduceIte]at h1;simp(disch:=(first|exact Rf.mk rfl|with_reducible assumption|omega|((repeat(first|rw[nP]|rw[nS]|rw[Y3]))<;>omega)|decide)) only[go_sem,↓reduceIte]at h2;refine Y0 (vf:=vf75) rfl ?_;unfold vf75;refine zF ?_;refine zY (U0 gb od h1 ha lE h2 o1 o2) ?_;have fs:Fr [sb] s (s1.set sb (some (.cells [d2]))):=(f1.up (ids:=[sb])).aC _ (.inl sJ);refine⟨d2,E,hp.call fs (a0b sR) λe he=>?_,hr.mono λe he=>by simp[he],r2,fs⟩;obtain⟨h3,h4⟩:=hE e he;exact⟨h3,by rw[Y8 oJ];exact h4⟩
theorem take_v{sb:Nat}{a b:List Bool}(hp:Hp s ((sb,[d])::W) R)(hd:Rr R d (U3 (a++b)))(hw:a.length=w)(hl:(a++b).length<=100000):Y4 U5 75 [.int .i64 (w:Int),.ptr sb 0] s λr s'=>∃d' E,Hp s' ((sb,[d'])::W) (E++R)/\Rr (E++R) r (U3 a)/\Rr R d' (U3 b)/\Fr [sb] s s':=by
 have h:=take_c hp hd (w:=w) qJ (sU hl);rwa [c28 hw,c9F hw]at h
variable{g:Nat}
theorem b1f{mN:List D}{s1:k4}{dA dV dS dM:D}{E:Hs}{a b:List Bool}(sp:SP s s1 mN g dA dV dS dM E R (a++b))(hw:a.length=w):Y4 U5 75 [.int .i64 (w:Int),.ptr (s.next+1) 0] s1 λr s2=>∃E0,SP s s2 mN g dA dV dS dM E (E0++R) b/\Rr (E0++R) r (U3 a)/\Fr [s.next+1] s1 s2:=by
 obtain⟨d,hp,hd⟩:=sp.hp;refine(take_v hp hd hw sp.ln).mono ?_;rintro r s2 ⟨d2,E0,h1,h2,h3,h4⟩;have jw:=sp.ln;rw[Fq]at jw;exact⟨E0,⟨sp.fr.trans h4 sJ,⟨d2,h1,h3.mono λe he=>by simp[he]⟩,by simp[sp.mb],sp.ge,oJ⟩,h2,h4⟩
theorem c9n{m:X7}{mo:Mo}{ps:List (Pr×X2)}{st:U6}(hW:∀n:Int,bz U5 32 [.int .i64 n] (.int .i64 (wid n:Int)))(hm:Z4 m mo ps)(ho:Z3 mo)(hf:a0P mo)(iQ:Fit mo st)(nF:(mo.pack st).length<=100000)(hR:Y2 s R)(hd:Rr R d (U3 (mo.pack st))):Y4 U5 41 [.ptr g 0,.agg [m.dt,.int .i64 m.g,m.dc,m.dv,m.dp,m.ds,.bool m.b],d] s λr s'=>∃v R',r=.ptr v 0/\Y2 s' R'/\Vw R' v g m mo st/\Fr [] s s':=by
 have od:=hd.one;have om:=hm.aw;have wo:=iQ.aF;have hf2:=iQ.vars;have hf3:=iQ.ae;have mY:=ho.np;have lD:=ho.nv;have nN:=ho.nc;have xQ:=hm.p;have kh:=hm.v;have lL:=hm.c;refine Y0 (vf:=vf41) rfl ?_;unfold vf41;refine zF ?_;refine zY (aN od om) ?_;have sp:SP s (((s.push (.cells [m.dt,.int .i64 m.g,m.dc,m.dv,m.dp,m.ds,.bool m.b])).push (.cells [d])).push (.cells [.ptr g 0,m.dt,.int .i64 m.g,m.dc,m.dv,m.dp,m.ds,.bool m.b,.ag,.ag,.ag,.ag,.ag])) [m.dt,.int .i64 m.g,m.dc,m.dv,m.dp,m.ds,.bool m.b] g .ag .ag .ag .ag [] ((s.next,[m.dt,.int .i64 m.g,m.dc,m.dv,m.dp,m.ds,.bool m.b])::R) (mo.pack st):=by
  have a:Hp s [] R:=⟨sJ,sJ,by simp[Y2],hR⟩
  have b:=((a.pushR [m.dt,.int .i64 m.g,m.dc,m.dv,m.dp,m.ds,.bool m.b]).dF [d]).dF [.ptr g 0,m.dt,.int .i64 m.g,m.dc,m.dv,m.dp,m.ds,.bool m.b,.ag,.ag,.ag,.ag,.ag];simp only[k4.aj]at b;exact⟨((Fr.push _).ak _).ak _,⟨d,b.perm (List.Perm.swap _ _ _),hd.mono λe he=>by simp[he]⟩,sJ,sJ,nF⟩
 generalize((s.push (.cells [m.dt,.int .i64 m.g,m.dc,m.dv,m.dp,m.ds,.bool m.b])).push (.cells [d])).push (.cells [.ptr g 0,m.dt,.int .i64 m.g,m.dc,m.dv,m.dp,m.ds,.bool m.b,.ag,.ag,.ag,.ag,.ag])=s3 at *;have e:mo.pack st=a0X a4S (mo.procs.drop 0) (st.aF.drop 0)++(a0X a45 (mo.vars.drop 0) (st.vars.drop 0)++(a0X a3Z (mo.ae.drop 0) (st.ae.drop 0)++bL (st.hold+1) 3)):=by simp[Mo.pack]
 rw[e]at sp;generalize hCs:a0X a3Z (mo.ae.drop 0) (st.ae.drop 0)++bL (st.hold+1) 3=Cs at *;generalize hVs:a0X a45 (mo.vars.drop 0) (st.vars.drop 0)++Cs=Vs at *;refine W6 [0,1,2,4,5,6,7,8,12,14,15,22,23,44,45,46,47,65,66,67,68,83,84,85] 0 mo.procs.length (λi f s'=>f 24=.int .i64 (i:Int)/\∃dA ds E R',SP s s' [m.dt,.int .i64 m.g,m.dc,m.dv,m.dp,m.ds,.bool m.b] g dA .ag .ag .ag E R' (a0X a4S (mo.procs.drop i) (st.aF.drop i)++Vs)/\Rp dA 1 (a0K ds) E/\GL R' ds ((List.range i).map (mo.cM st))) (.mk rfl) oJ ⟨rfl,.ag,[],[],_,sp,.inl ⟨rfl,rfl,rfl⟩,⟨rfl,rfl,sJ⟩⟩ ?_;clear sp;rintro i f s4 hi ⟨h,dA,ds,E,R4,sp,dP,nC⟩;have rY:=nC.n;simp only[FT,GG]at rY;by_cases ci:i<mo.procs.length
 .have tV:i<st.aF.length:=oJ
  rw[b5u ci tV,Fj,b9A ci tV]at sp;generalize lU:a0X a4S (mo.procs.drop (i+1)) (st.aF.drop (i+1))++Vs=rest at *;have hw:=hW ((k7 mo.procs i).ah:Int);have gv:=sp.view;have lv:=t3 gv;have oA:=dP.one;refine zY (X4 h ci xQ gv hw oA) ?_;refine b3K (W:=[s.next+1]) rfl (b1f (sp.garb a1Q) (w:=wid ((k7 mo.procs i).ah:Int)) (by simp[Mo.cM])) rfl (λd s' h=>by obtain⟨_,_,_,h⟩:=h;exact h) (hT2 qJ oJ) dJ ?_;rintro r s5 ⟨E5,sp,oR,f5⟩;have o5:=oR.one;refine zY o5 ?_;refine b03 (A:=[]) (F:=E) (B:=[]) (sU sp) dP oJ ?_;intro id s6 dP sp;have gv:=sp.view;have lv:=t3 gv;refine zY gv ?_;refine⟨ci,_,ds++[r],_,E5++R4,by rw[lU];exact sp.set _ _ _ _,dP,?_⟩;rw[FK];exact(nC.mono λe he=>by simp[he]).snoc oR
 obtain rfl:i=mo.procs.length:=oJ;rw[b5r,Fv]at sp;have hA:=(nC.mono (R':=E++R4) λe he=>by simp[he]).ll dP λe he=>by simp[he]
 have sp:=SP.dI (E:=[]) (F:=E) (sU sp);have gm:=sp.mbg;have lm:=t3 gm;refine zY (W0 h ci gm om kh) ?_;clear dP nC h ci hi gm lm rY;generalize E++R4=R5 at *;subst hVs;refine W6 [0,1,2,4,5,6,7,8,10,14,15,22,23,24,25,44,45,65,66,67,68,83,84,85] 0 mo.vars.length (λi f s'=>f 46=.int .i64 (i:Int)/\∃dV ds E R',SP s s' [m.dt,.int .i64 m.g,m.dc,m.dv,m.dp,m.ds,.bool m.b] g dA dV .ag .ag E R' (a0X a45 (mo.vars.drop i) (st.vars.drop i)++Cs)/\LL R' dA ((List.range mo.procs.length).map (mo.cM st))/\Rp dV 1 (a0K ds) E/\GL R' ds ((List.range i).map (mo.cE st))) (.mk rfl) oJ ⟨rfl,.ag,[],[],_,sp,hA,.inl ⟨rfl,rfl,rfl⟩,⟨rfl,rfl,sJ⟩⟩ ?_;clear sp hA;rintro i f s4 hi ⟨h,dV,ds,E,R4,sp,hA,yg,nC⟩;have rY:=nC.n;simp only[FT,GG]at rY;by_cases ci:i<mo.vars.length
 .have tV:i<st.vars.length:=oJ
  rw[b5u ci tV,Fj,c1v ci tV]at sp;generalize lU:a0X a45 (mo.vars.drop (i+1)) (st.vars.drop (i+1))++Cs=rest at *;have hwv:=hf.vr _ (a4C ci);have gv:=sp.view;have lv:=t3 gv;have oA:=hA.one;have oV:=yg.one;refine zY (X4 h ci kh gv oA oV) ?_;have ht:=b1f (sp.garb (a1Q (z:=.cells [.str (bs []),.int .i64 0,.int .i64 0]) (o:=.cells (bh mo.vars i).row))) (w:=(bh mo.vars i).width.toNat) (by simp[Mo.cE]);rw[Gx oJ]at ht;refine b3K (W:=[s.next+1]) rfl ht rfl (λd s' h=>by obtain⟨_,_,_,h⟩:=h;exact h) (hT2 (by simp[Vr.row];omega) oJ) dJ ?_;rintro r s5 ⟨E5,sp,oR,f5⟩;have o5:=oR.one;refine zY o5 ?_;refine b03 (A:=[]) (F:=E) (B:=[]) (sU sp) yg oJ ?_;intro id s6 yg sp;have gv:=sp.view;have lv:=t3 gv;refine zY gv ?_;refine⟨ci,_,ds++[r],_,E5++R4,by rw[lU];exact sp.set _ _ _ _,hA.mono λe he=>by simp[he],yg,?_⟩;rw[FK];exact(nC.mono λe he=>by simp[he]).snoc oR
 obtain rfl:i=mo.vars.length:=oJ;rw[b5r,Fv]at sp;have hV:=(nC.mono (R':=E++R4) λe he=>by simp[he]).ll yg λe he=>by simp[he]
 have hA:=hA.mono (R':=E++R4) λe he=>by simp[he]
 have sp:=SP.dI (E:=[]) (F:=E) (sU sp);have gm:=sp.mbg;have lm:=t3 gm;refine zY (W0 h ci gm om lL) ?_;clear yg nC h ci hi gm lm rY;generalize E++R4=R5 at *;subst hCs;refine W6 [0,1,2,4,5,6,7,8,10,12,22,23,24,25,44,45,46,47,65,66] 0 mo.ae.length (λi f s'=>f 67=.int .i64 (i:Int)/\∃dS dsS ES dM yl EM R',SP s s' [m.dt,.int .i64 m.g,m.dc,m.dv,m.dp,m.ds,.bool m.b] g dA dV dS dM (ES++EM) R' (a0X a3Z (mo.ae.drop i) (st.ae.drop i)++bL (st.hold+1) 3)/\LL R' dA ((List.range mo.procs.length).map (mo.cM st))/\LL R' dV ((List.range mo.vars.length).map (mo.cE st))/\Rp dS 1 (a0K dsS) ES/\GL R' dsS ((List.range i).map (Mo.cN st))/\Rp dM 1 (a0K yl) EM/\GM R' yl ((List.range i).map (mo.ey st))) (.mk rfl) oJ ⟨rfl,.ag,[],[],.ag,[],[],_,sp,hA,hV,.inl ⟨rfl,rfl,rfl⟩,⟨rfl,rfl,sJ⟩,.inl ⟨rfl,rfl,rfl⟩,⟨rfl,rfl,sJ⟩⟩ ?_;clear sp hA hV;rintro i f s4 hi ⟨h,dS,dsS,ES,dM,yl,EM,R4,sp,hA,hV,yz,hdsS,Aa,hdsM⟩;have rY:=hdsS.n;have uE:=hdsM.n;simp only[FT,GG]at rY uE;have oA:=hA.one;have oV:=hV.one;have oS:=yz.one;have oM:=Aa.one;by_cases ci:i<mo.ae.length
 .have tV:i<st.ae.length:=oJ
  have zj:=hf.ch _ (a3S ci);rw[b5u ci tV,c0G ci tV,Fj,Fj]at sp;generalize lU:a0X a3Z (mo.ae.drop (i+1)) (st.ae.drop (i+1))++bL (st.hold+1) 3=rest at *;have gv:=sp.view;have lv:=t3 gv;have oP:=sp.box (.cells [.str (bs []),.int .i64 0,.int .i64 0,.bool false,.bool false]) (U7 mo.ae i).row;refine zY (U0 h ci lL gv oA oV oS oM) ?_;refine b3K (W:=[s.next+1]) rfl (b1f oP (w:=2) rfl) rfl (λd s' h=>by obtain⟨_,_,_,h⟩:=h;exact h) (hT1 (by simp[Ch.row];omega) oJ) dJ ?_;have jt:s4.next≠s.next+1+1:=oJ;clear oP sp gv lv;rintro r s5 ⟨E5,sp,oR,f5⟩;have o5:=oR.one;generalize uO:s4.next=cb at *;refine zY o5 ?_;refine b03 (A:=[]) (F:=ES) (B:=EM) (sU sp) yz oJ ?_;clear sp;intro id s6 yz sp;have gv:=sp.view;have lv:=t3 gv;have gc:s6.get cb=some (.cells [.str (U7 mo.ae i).name,.int .i64 (U7 mo.ae i).room,.int .i64 (U7 mo.ae i).width,.bool (U7 mo.ae i).bC,.bool (U7 mo.ae i).aS]):=sp.rd (cb,(U7 mo.ae i).row) sJ;have lc:=t3 gc;refine zY (V4 gv gc jt) ?_;replace sp:=sp.set dA dV (.arr id 0 (dsS.length+1) 1) dM
  have qv:∀e∈R4,e∈E5++(cb,(U7 mo.ae i).row)::R4:=λe he=>by simp[he]
  have hcR:(cb,(U7 mo.ae i).row)∈E5++(cb,(U7 mo.ae i).row)::R4:=sJ;generalize E5++(cb,(U7 mo.ae i).row)::R4=R5 at *;replace hdsS:=(hdsS.mono qv).snoc oR
  replace hdsM:=hdsM.mono qv
  replace hA:=hA.mono qv
  replace hV:=hV.mono qv
  clear qv oR o5 f5 gv lv gc lc;generalize hES:[(id,(a0K (dsS++[r])).flatten)]=ze at *;generalize hdS2:D.arr id 0 (dsS.length+1) 1=Ca at *;simp only[Fv]at sp;have er:∀j:Nat,((j:Int)<(U7 mo.ae i).room)=(j<(U7 mo.ae i).room.toNat):=λj=>by apply propext;omega
  refine W6 [0,1,2,4,5,6,7,8,10,12,14,22,23,24,25,44,45,46,47,65,66,67,68,83] 0 (U7 mo.ae i).room.toNat (λj f s'=>f 84=.int .i64 (j:Int)/\∃dl dsl EL R',f 15=dl/\SP s s' [m.dt,.int .i64 m.g,m.dc,m.dv,m.dp,m.ds,.bool m.b] g dA dV Ca dM (ze++EM++EL) R' (mo.msR st i j++rest)/\Rp dl 1 (a0K dsl) EL/\GL R' dsl ((List.range j).map (mo.cH st i))/\∀e∈R5,e∈R') (.mk rfl) oJ ⟨rfl,.ag,[],[],_,rfl,by rw[Fl];exact sp,.inl ⟨rfl,rfl,rfl⟩,⟨rfl,rfl,sJ⟩,λ_ h=>h⟩ ?_;clear sp;rintro j f s8 hj ⟨EY,dl,dsl,EL,R8,DI,sp,nL,hdsl,Cc⟩;have hdn2:=hdsl.n;simp only[FT,GG]at hdn2;have ol:=nL.one;by_cases cj:j<(U7 mo.ae i).room.toNat
  .have gc:s8.get cb=some (.cells [.str (U7 mo.ae i).name,.int .i64 (U7 mo.ae i).room,.int .i64 (U7 mo.ae i).width,.bool (U7 mo.ae i).bC,.bool (U7 mo.ae i).aS]):=sp.rd (cb,(U7 mo.ae i).row) (Cc _ hcR)
   have lc:=t3 gc;rw[c5M cj,Fj (mo.cH st i j)]at sp;have ej:=er j;have ht:=b1f sp (w:=(U7 mo.ae i).width.toNat) (by simp[Mo.cH]);rw[Gx oJ]at ht;refine zY (W0 EY DI ej cj gc) ?_;refine b3d rfl ht rfl ?_;clear sp ht gc lc;rintro r2 s9 ⟨E9,sp,hr9,f9⟩;have o9:=hr9.one;refine zY o9 ?_;refine b03 (A:=ze++EM) (F:=EL) (B:=[]) (sU sp) nL oJ ?_;clear sp;intro mL oj nL sp;refine V9 ?_;refine⟨cj,_,dsl++[r2],_,E9++R8,rfl,sU sp,nL,?_,λe he=>by simp[Cc e he]⟩;rw[FK];exact(hdsl.mono λe he=>by simp[he]).snoc hr9
  .obtain rfl:j=(U7 mo.ae i).room.toNat:=oJ
   have ej:=er (U7 mo.ae i).room.toNat;rw[c43,Fv]at sp;have hl:=(hdsl.mono (R':=EL++R8) λe he=>by simp[he]).ll nL λe he=>by simp[he]
   replace sp:=SP.dI (E:=ze++EM) (F:=EL) sp
   have qv:∀e∈R5,e∈EL++R8:=λe he=>by simp[Cc e he]
   generalize EL++R8=R9 at *;replace hdsS:=hdsS.mono qv
   replace hdsM:=hdsM.mono qv
   replace hA:=hA.mono qv
   replace hV:=hV.mono qv
   have gv:=sp.view;have lv:=t3 gv;have oS2:V5 Ca=true:=yz.one;have ol2:=hl.one;refine zY (X0 EY DI ej cj gv oS2 ol2) ?_;refine b03 (A:=ze) (F:=EM) (B:=[]) (by rw[Fl];exact sp) Aa oJ ?_;clear sp gv lv;intro Bo wS Aa sp;have gv:=sp.view;have lv:=t3 gv;refine zY gv ?_;refine⟨ci,Ca,dsS++[r],ze,.arr Bo 0 (yl.length+1) 1,yl++[dl],[(Bo,(a0K (yl++[dl])).flatten)],R9,?_,hA,hV,yz,?_,Aa,?_⟩
   .rw[lU]
    rw[Fl]at sp;exact sp.set _ _ _ _
   .rw[FK]
    exact hdsS
   .rw[FK]
    exact hdsM.snoc hl
 obtain rfl:i=mo.ae.length:=oJ;rw[b5r,Fv]at sp;refine zY (aN h ci) ?_;refine b3d rfl (b1f (b:=[]) (by rw[Fl];exact sp) (w:=3) rfl) rfl ?_;clear sp;rintro r s5 ⟨E5,sp,oR,f5⟩;have qv:∀e∈R4,e∈E5++R4:=λe he=>by simp[he]
 replace hdsS:=hdsS.mono qv
 replace hdsM:=hdsM.mono qv
 replace hA:=hA.mono qv
 replace hV:=hV.mono qv
 generalize E5++R4=R5 at *;have gv:=sp.view;have lv:=t3 gv;have o5:=oR.one;refine zY (aN gv o5) ?_;obtain⟨x,hp,hx⟩:=sp.hp;have h8:=Hp.set (A:=[(s.next+1,[x])]) hp [.ptr g 0,m.dt,.int .i64 m.g,m.dc,m.dv,m.dp,m.ds,.bool m.b,dA,dV,dS,dM,r];have sv:∀e∈R5,e∈(s.next+2,[.ptr g 0,m.dt,.int .i64 m.g,m.dc,m.dv,m.dp,m.ds,.bool m.b,dA,dV,dS,dM,r])::(ES++EM++R5):=λe he=>by simp[he]
 refine⟨s.next+2,_,rfl,?_,⟨dA,dV,dS,dM,r,Ia,hA.mono sv,hV.mono sv,(hdsS.mono sv).ll yz λe he=>by simp[he],(hdsM.mono sv).lm Aa λe he=>by simp[he],oR.mono sv⟩,sp.fr.st oJ _⟩;intro e he;rcases Fi.1 he with rfl|he
 .exact h8.w _ sJ
 .rcases Fm.1 he with he|he
  .exact h8.w e (by simp at he⊢;exact .inr (.inr he))
  .exact h8.r e he
end Go.Proofs.YtigbmclkjknnjaaGreat
namespace Go.V
variable{R:Hs}{d:D}{s:k4}
theorem Rr.vb{l:List Bool}(h:Rr R d (U3 l))(hs:Y2 s R):VB s d l:=h.rd hs
structure gM where
 r:Hs
 a:D
 v:D
 s:D
 m:D
 h:D
structure Vs(s:k4)(v g:Nat)(m:X7)(mo:Mo)(st:U6)(x:gM):Prop where
 hs:Y2 s x.r
 w:(v,[.ptr g 0,m.dt,.int .i64 m.g,m.dc,m.dv,m.dp,m.ds,.bool m.b,x.a,x.v,x.s,x.m,x.h])∈x.r
 la:LL x.r x.a ((List.range mo.procs.length).map (mo.cM st))
 lv:LL x.r x.v ((List.range mo.vars.length).map (mo.cE st))
 ls:LL x.r x.s ((List.range mo.ae.length).map (Mo.cN st))
 lm:LM x.r x.m ((List.range mo.ae.length).map (mo.ey st))
 lh:Rr x.r x.h (U3 (bL (st.hold+1) 3))
variable{v g:Nat}{m:X7}{mo:Mo}{st:U6}{x:gM}
theorem Vs.of(hs:Y2 s R)(h:Vw R v g m mo st):∃x,Vs s v g m mo st x:=by
 obtain⟨dA,dV,dS,dM,dH,h1,h2,h3,h4,h5,h6⟩:=h.w;exact⟨⟨R,dA,dV,dS,dM,dH⟩,hs,h1,h2,h3,h4,h5,h6⟩
variable{s':k4}
theorem Vs.fr(h:Vs s v g m mo st x)(f:Fr [] s s'):Vs s' v g m mo st x:=⟨h.hs.fr f,h.w,h.la,h.lv,h.ls,h.lm,h.lh⟩
theorem Vs.get(h:Vs s v g m mo st x):s.get v=some (.cells [.ptr g 0,m.dt,.int .i64 m.g,m.dc,m.dv,m.dp,m.ds,.bool m.b,x.a,x.v,x.s,x.m,x.h]):=h.hs _ h.w
theorem Vs.aw(h:Vs s v g m mo st x):V5 x.a=true/\V5 x.v=true/\V5 x.s=true/\V5 x.m=true/\V5 x.h=true:=⟨h.la.one,h.lv.one,h.ls.one,h.lm.one,h.lh.one⟩
theorem Vs.fY(h:Vs s v g m mo st x):VB s x.h (bL (st.hold+1) 3):=h.lh.vb h.hs
variable{i:Nat}{k:IntKind}
theorem Vs.sz(h:Vs s v g m mo st x)(hi:i<mo.ae.length):∃p y,W7 1 x.s (.int k (i:Int))=some p/\bF s.get none p=some y/\V5 y=true/\VB s y (Mo.cN st i):=by
 obtain⟨p,y,h1,h2,h3⟩:=h.ls.idx h.hs (i:=i) (sU hi) (k:=k);have e:((List.range mo.ae.length).map (Mo.cN st))[i]'(sU hi)=Mo.cN st i:=sJ;rw[e]at h3;exact⟨p,y,h1,h2,h3.one,h3.vb h.hs⟩
theorem Vs.ms(h:Vs s v g m mo st x)(hi:i<mo.ae.length):∃p y,W7 1 x.m (.int k (i:Int))=some p/\bF s.get none p=some y/\V5 y=true/\LL x.r y (mo.ey st i):=by
 obtain⟨p,y,h1,h2,h3⟩:=h.lm.idx h.hs (i:=i) (sU hi) (k:=k);have e:((List.range mo.ae.length).map (mo.ey st))[i]'(sU hi)=mo.ey st i:=sJ;rw[e]at h3;exact⟨p,y,h1,h2,h3.one,h3⟩
structure Ve(s:k4)(v g:Nat)(m:X7)(mo:Mo)(st:U6)(x:gM):Prop where
 hs:Y2 s x.r
 w:(v,[.ptr g 0,m.dt,.int .i64 m.g,m.dc,m.dv,m.dp,m.ds,.bool m.b,x.a,x.v,x.s,x.m,x.h])∈x.r
 la:LL x.r x.a ((List.range mo.procs.length).map (mo.cM st))
 lv:LL x.r x.v ((List.range mo.vars.length).map (mo.cE st))
 ls:LL x.r x.s ((List.range mo.ae.length).map (Mo.cN st))
 om:V5 x.m=true
 oh:V5 x.h=true
theorem Vs.e(h:Vs s v g m mo st x):Ve s v g m mo st x:=⟨h.hs,h.w,h.la,h.lv,h.ls,h.lm.one,h.lh.one⟩
theorem Ve.fr(h:Ve s v g m mo st x)(f:Fr [] s s'):Ve s' v g m mo st x:=⟨h.hs.fr f,h.w,h.la,h.lv,h.ls,h.om,h.oh⟩
theorem Ve.get(h:Ve s v g m mo st x):s.get v=some (.cells [.ptr g 0,m.dt,.int .i64 m.g,m.dc,m.dv,m.dp,m.ds,.bool m.b,x.a,x.v,x.s,x.m,x.h]):=h.hs _ h.w
theorem Ve.aw(h:Ve s v g m mo st x):V5 x.a=true/\V5 x.v=true/\V5 x.s=true/\V5 x.m=true/\V5 x.h=true:=⟨h.la.one,h.lv.one,h.ls.one,h.om,h.oh⟩
theorem Ve.aF(h:Ve s v g m mo st x)(hi:i<mo.procs.length):∃p y,W7 1 x.a (.int k (i:Int))=some p/\bF s.get none p=some y/\V5 y=true/\VB s y (mo.cM st i):=by
 obtain⟨p,y,h1,h2,h3⟩:=h.la.idx h.hs (i:=i) (sU hi) (k:=k);have e:((List.range mo.procs.length).map (mo.cM st))[i]'(sU hi)=mo.cM st i:=sJ;rw[e]at h3;exact⟨p,y,h1,h2,h3.one,h3.vb h.hs⟩
theorem Ve.vr(h:Ve s v g m mo st x)(hi:i<mo.vars.length):∃p y,W7 1 x.v (.int k (i:Int))=some p/\bF s.get none p=some y/\V5 y=true/\VB s y (mo.cE st i):=by
 obtain⟨p,y,h1,h2,h3⟩:=h.lv.idx h.hs (i:=i) (sU hi) (k:=k);have e:((List.range mo.vars.length).map (mo.cE st))[i]'(sU hi)=mo.cE st i:=sJ;rw[e]at h3;exact⟨p,y,h1,h2,h3.one,h3.vb h.hs⟩
theorem Ve.sz(h:Ve s v g m mo st x)(hi:i<mo.ae.length):∃p y,W7 1 x.s (.int k (i:Int))=some p/\bF s.get none p=some y/\V5 y=true/\VB s y (Mo.cN st i):=by
 obtain⟨p,y,h1,h2,h3⟩:=h.ls.idx h.hs (i:=i) (sU hi) (k:=k);have e:((List.range mo.ae.length).map (Mo.cN st))[i]'(sU hi)=Mo.cN st i:=sJ;rw[e]at h3;exact⟨p,y,h1,h2,h3.one,h3.vb h.hs⟩
structure a6V(mo:Mo)(st:U6):Prop where
 aF:st.aF.length=mo.procs.length
 vars:st.vars.length=mo.vars.length
 ae:st.ae.length=mo.ae.length
 al:∀i,i<mo.procs.length->W2 st.aF i<2^wid ((k7 mo.procs i).ah:Int)
 vr:∀i(h:i<st.vars.length)(h':i<mo.vars.length),W3 st.vars[i] mo.vars[i].width.toNat=st.vars[i]
 cl:∀i,i<mo.ae.length->(U8 st.ae i).length<=3
theorem Fit.e(h:Fit mo st)(ho:Z3 mo)(hf:a0P mo):a6V mo st:=by
 refine⟨h.aF,h.vars,h.ae,λi hi=>?_,h.vr,λi hi=>?_⟩
 .have jh:=ho.pr _ (Fp hi)
  have ky:W2 st.aF i<(k7 mo.procs i).ah:=by
   rw[a4e (by rw[h.aF];exact hi),a12 hi];exact h.pl i _ hi
  have hen:=b5P (n:=((k7 mo.procs i).ah:Int)) (by rw[a12 hi];have:=jh.pl;omega);grind
 .have hc:i<st.ae.length:=by rw[h.ae];exact hi
  have h1:=h.cl i hc hi;have h2:=(hf.ch _ (Fp hi)).2.1;rw[a3X hc];omega
def a9s(fs:FuncId->Option U4)(s:k4)(fo:D)(look:ByteArray->Option Nat):Prop:=V5 fo=true/\∃f iX,fo=.fn f iX/\∀s',Fr [] s s'->∀w,Y4 fs f (.str w::iX) s' λr s2=>r=.int .i64 (a4Z (look w))/\Fr [] s' s2
variable{fs:FuncId->Option U4}
theorem a9s.fr{fo:D}{look:ByteArray->Option Nat}(h:a9s fs s fo look)(f:Fr [] s s'):a9s fs s' fo look:=by
 obtain⟨o,k,iX,e,h⟩:=h;exact⟨o,k,iX,e,λs2 f2=>h s2 (f.trans f2 sJ)⟩
def VL(s:k4)(r:D)(s':k4)(y:Int×Bool):Prop:=∃d n,r=.aT [d,.int .i64 (V6 y.2)]/\V5 d=true/\I8 n/\VB s' d (bL n 8)/\(y.2=true->n=y.1)/\Fr [] s s'
theorem I8.zero:I8 0:=by unfold I8;decide
theorem I8.one(b:Bool):I8 (V6 b):=by unfold I8;cases b<;>decide
variable{n:Int}{y:Int×Bool}
theorem VL.z{b:Bool}(h:VZ d (bL n 8))(f:Fr [] s s')(e:y.2=b)(hn:I8 n)(hv:b=true->n=y.1):VL s (.aT [d,.int .i64 (V6 b)]) s' y:=by
 subst e;exact⟨d,n,rfl,(h.vb s).one,hn,h.vb s',hv,f⟩
variable{b:Nat}
theorem VL.a{A:Nat->Bool}{q:Bool}(h:s'.get b=some (.cells (U3 (U1 A 8))))(f:Fr [] s s')(e:y.2=q)(hA:U1 A 8=bL n 8)(hn:I8 n)(hv:q=true->n=y.1):VL s (.aT [.arr b 0 8 1,.int .i64 (V6 q)]) s' y:=by
 subst e;exact⟨_,n,rfl,rfl,hn,(VB.bk h).fh hA,hv,f⟩
theorem xcopy{i t a x rest s K}{env:k6}{s2:k4}(hr:a60 (env.ev a) (env.ev x) s=some (d,s2))(h:XQ fs [] rest ((t,d)::env) s2 K):WQ fs [] ((i,⟨some t,.m (.copy a x),none⟩)::rest) env s K:=b2o ⟨0,by assumption⟩ (a3G h)
theorem c6L{n:Nat}(hd:VB s d (bL (n:Int) 2))(gb:s.get b=some (.cells (U3 (U1 (λ_=>false) 8))))(hn:n<=3):a60 (.arr b 0 8 1) d s=some (.int .i64 2,s.set b (some (.cells (U3 (U1 (W1 (n:Int)) 8))))):=by
 obtain⟨h1,h2,h3⟩:=hd.row;unfold a60;simp only[h1,h2,gb,h3];have e:n=0\/n=1\/n=2\/n=3:=oJ;rcases e with rfl|rfl|rfl|rfl<;>rfl
end Go.V
namespace Go.Proofs.YtigbmclkjknnjaaGreat
open Go.V
variable{s:k4}
theorem c3d{P:Pr}{x:X2}{b:Nat}(hx:gH P x)(hs:P.names.length=P.vars.length)(hl:P.names.length<=100000)(gb:s.get b=some (.cells [.str P.name,.int .i64 (P.copy:Int),x.dl,.int .i64 (P.ah:Int),x.dr,x.de,x.dn,x.dv]))(w:ByteArray):Y4 U5 126 [.str w,.ptr b 0] s λr s'=>r=.int .i64 (a4Z (a0s P w))/\Fr [] s s':=by
 have lb:=t3 gb;have ox:=hx.aw;have jw:=hx.lenN;refine Y0 (vf:=b5e) rfl ?_;unfold b5e;refine zF ?_;refine zY (V4 gb ox jw) ?_;refine W6 [0,1,7,8] 0 P.names.length (λi f s'=>f 9=.int .i64 (i:Int)/\s'=s/\∀j(hj:j<P.names.length),j<i->P.names[j]≠w) (.mk rfl) oJ ⟨rfl,rfl,λj _ h=>by omega⟩ ?_;rintro i f s2 hi ⟨h,rfl,iR⟩;by_cases ci:i<P.names.length
 .have iM:=FLS.idx hx.n ci (k:=.i64)
  by_cases c4:P.names[i]=w
  .have kD:decide (P.names[i]=w)=true:=by simp[c4]
   have sD:i<P.vars.length:=oJ;have sS:=FLN.idx hx.v sD (k:=.i64);have e:a4Z (a0s P w)=(P.vars[i]:Int):=by
    unfold a0s;rw[a7Y ci c4 iR,Fk ci];simp[a4Z,List.getD,sD]
   rw[e];refine zY (X0 h ci gb ox iM kD sS) ?_;exact⟨rfl,Fr.refl _ _⟩
  .have kD:decide (P.names[i]=w)=false:=by simp[c4]
   refine zY (X4 h ci gb ox iM kD) ?_;intro j hj hji;by_cases ej:j=i
   .subst ej;exact c4
   .exact iR j hj oJ
 .have e:a4Z (a0s P w)=-1:=by
   unfold a0s;rw[so (a88 λj hj=>iR j hj oJ)];rfl
  rw[e];refine zY (V4 h ci gb) ?_;exact⟨rfl,Fr.refl _ _⟩
variable{x:gM}{g v:Nat}{m:X7}{mo:Mo}{ps:List (Pr×X2)}{st:U6}
theorem a9b{p:Nat}(hm:Z4 m mo ps)(ho:Z3 mo)(hv:Ve s v g m mo st x)(hp:p<mo.procs.length):Y4 U5 84 [.ptr v 0,.int .i64 (p:Int)] s λr s'=>a9s U5 s' r (a0s (k7 mo.procs p))/\Fr [] s s':=by
 have gv:=hv.get;have lv:=t3 gv;have oo:=hv.aw;have om:=hm.aw;have xQ:=hm.p;obtain⟨y,hy,iM⟩:=hm.proc hp;have iM:=iM .i64;rw[a12 hp];have jh:=ho.pr _ (Fp hp);have lD:=ho.nv;generalize mo.procs[p]=P at *;unfold V0 at iM;have oy:=hy.aw;have jw:=hm.eY;have mY:=ho.np;have c1:(p:Int)<(mo.procs.length:Int):=oJ;have c0:(0:Int)<=(p:Int):=oJ;refine Y0 (vf:=vf84) rfl ?_;unfold vf84;refine zF ?_;refine zY (U0 gv om oy oo iM jw c0 c1) ?_;have f0:Fr [] s (s.push (.cells [.ptr v 0])):=Fr.push _;refine⟨⟨rfl,_,_,rfl,λs' f' w=>?_⟩,?_⟩
 .exact c3d hy jh.same (by have:=jh.nl;omega) (f'.kp (a0b sJ)) w
 .exact f0.trans a1Q sJ
theorem a65(hm:Z4 m mo ps)(ho:Z3 mo)(hg:GB s g)(hv:Ve s v g m mo st x)(hf:a6V mo st){p k:Nat}(hp:p<mo.procs.length)(hk:k<=100000):CB U5 94 [.ptr v 0,.int .i64 (p:Int),.int .i64 (k:Int)] s (decide (W2 st.aF p=k)):=by
 have gv:=hv.get;have lv:=t3 gv;have oo:=hv.aw;have om:=hm.aw;obtain⟨q,y,i1,i2,oy,hy⟩:=hv.aF hp (k:=.i64);have su:=a5P ((k7 mo.procs p).ah:Int);have jq:=hf.al p hp;unfold CB;refine Y0 (vf:=vf94) rfl ?_;unfold vf94;refine zF ?_;refine zY (X4 gv om oo i1 i2 oy) ?_;refine xb (b2G hg hy jq su.2 hk) λs1 f1=>?_
 refine V9 ?_;exact⟨rfl,f1⟩
theorem c19(hm:Z4 m mo ps)(ho:Z3 mo)(jB:a0P mo)(hg:GB s g)(hv:Ve s v g m mo st x)(hf:a6V mo st){c:Nat}(hc:c<mo.ae.length):CB U5 79 [.ptr v 0,.int .i64 (c:Int)] s (decide (((U8 st.ae c).length:Int)<(U7 mo.ae c).room)):=by
 have gv:=hv.get;have lv:=t3 gv;have oo:=hv.aw;have om:=hm.aw;obtain⟨q,y,i1,i2,oy,hy⟩:=hv.sz hc (k:=.i64);have iM:=FLC.idx hm.c hc (k:=.i64);unfold Ch.row at iM;have Dw:=jB.ch _ (Fp hc);have jw:=hf.cl c hc;rw[a2W hc];generalize mo.ae[c]=C at *;have hr:IntKind.i64.wrap (C.room-1)=C.room-1:=Z9 oJ oJ;have e:decide (((U8 st.ae c).length:Int)<C.room)=decide (((U8 st.ae c).length:Int)<=C.room-1):=by congr 1;apply propext;omega
 rw[e];unfold CB;refine Y0 (vf:=vf79) rfl ?_;unfold vf79;refine zF ?_;refine zY (U0 gv om oo i1 i2 oy iM hr) ?_;refine xb (c5z (k:=C.room-1) hg hy oJ oJ oJ) λs1 f1=>?_
 refine V9 ?_;exact⟨rfl,f1⟩
theorem c88(hm:Z4 m mo ps)(hg:GB s g)(hv:Ve s v g m mo st x){da db:D}{a b:Int}(ha:VB s da (bL a 8))(hb:VB s db (bL b 8))(ia:I8 a)(ib:I8 b){op:Int}(h0:0<=op)(h8:op<=8):Y4 U5 125 [.ptr v 0,.int .i64 op,da,db] s λr s'=>VL s r s' (a1e op a b):=by
 have gv:=hv.get;have lv:=t3 gv;have oo:=hv.aw;have om:=hm.aw;have oa:=ha.one;have ob:=hb.one;have sa:∀s',Fr [] s s'->CB U5 93 [.ptr g 0,da] s' (decide (a≠0)):=λs' f=>by
  have:=b0H (A:=W1 a) (w:=8) (hg.fr f) (ha.fr f) oJ oJ;rwa [a8i ia]at this
 have sb:∀s',Fr [] s s'->CB U5 93 [.ptr g 0,db] s' (decide (b≠0)):=λs' f=>by
  have:=b0H (A:=W1 b) (w:=8) (hg.fr f) (hb.fr f) oJ oJ;rwa [a8i ib]at this
 have qd:op=0\/op=1\/op=2\/op=3\/op=4\/op=5\/op=6\/op=7\/op=8:=oJ;clear h0 h8;rcases qd with rfl|rfl|rfl|rfl|rfl|rfl|rfl|rfl|rfl
 .obtain⟨d,hd,hz⟩:=b0I (decide (a≠0)||decide (b≠0))
  have hd:=a0l hd;refine Y0 (vf:=a3u) rfl ?_;unfold a3u;refine zF ?_;refine zY (W0 gv om oo oa ob) ?_;refine xb (sa _ (Fr.refl _ _)) λs1 f1=>?_
  refine V9 ?_;refine xb (sb _ f1) λs2 f2=>?_
  have f2:=f1.trans f2 sJ;refine V9 ?_;refine xb (a6O (hg.fr f2) _ _) λs3 f3=>?_
  have f3:=f2.trans f3 sJ;refine zY hd ?_;exact VL.z (b:=true) hz f3 (by simp[a1e]) (I8.one _) λ_=>by simp[a1e]
 .obtain⟨d,hd,hz⟩:=b0I (decide (a≠0)&&decide (b≠0))
  have hd:=a0l hd;refine Y0 (vf:=a3u) rfl ?_;unfold a3u;refine zF ?_;refine zY (W0 gv om oo oa ob) ?_;refine xb (sa _ (Fr.refl _ _)) λs1 f1=>?_
  refine V9 ?_;refine xb (sb _ f1) λs2 f2=>?_
  have f2:=f1.trans f2 sJ;refine V9 ?_;refine xb (a1A (hg.fr f2) _ _) λs3 f3=>?_
  have f3:=f2.trans f3 sJ;refine zY hd ?_;exact VL.z (b:=true) hz f3 (by simp[a1e]) (I8.one _) λ_=>by simp[a1e]
 .obtain⟨d,hd,hz⟩:=b0I (decide (a=b))
  have hd:=a0l hd;have c1:=c9o (A:=W1 a) (B:=W1 b) (w:=8) hg ha hb oJ oJ;rw[same_b ia ib]at c1;refine Y0 (vf:=a3u) rfl ?_;unfold a3u;refine zF ?_;refine zY (W0 gv om oo oa ob) ?_;refine xb c1 λs1 f1=>?_
  refine zY hd ?_;exact VL.z (b:=true) hz f1 (by simp[a1e]) (I8.one _) λ_=>by simp[a1e]
 .obtain⟨d,hd,hz⟩:=b0I (decide (a<b))
  have hd:=a0l hd;have c1:=c8Z (A:=W1 a) (B:=W1 b) (w:=8) hg ha hb oJ oJ;rw[show(8:Nat)-1=7 from rfl,less_b ia ib]at c1;refine Y0 (vf:=a3u) rfl ?_;unfold a3u;refine zF ?_;refine zY (W0 gv om oo oa ob) ?_;refine xb c1 λs1 f1=>?_
  refine zY hd ?_;exact VL.z (b:=true) hz f1 (by simp[a1e]) (I8.one _) λ_=>by simp[a1e]
 .refine Y0 (vf:=a3u) rfl ?_
  unfold a3u;refine zF ?_;refine zY (W0 gv om oo oa ob) ?_;refine xv (vadd_c (A:=W1 a) (B:=W1 b) (w:=8) hg ha hb oJ oJ) λq s1 hq g1 f1=>?_
  refine V9 ?_;exact VL.a (q:=true) g1 f1 (by simp[a1e]) (add_b ia ib) (a7g _) λ_=>by simp[a1e,fD]
 .refine Y0 (vf:=a3u) rfl ?_
  unfold a3u;refine zF ?_;refine zY (W0 gv om oo oa ob) ?_;refine xv (b8n (A:=W1 a) (B:=W1 b) (w:=8) hg ha hb oJ oJ) λq s1 hq g1 f1=>?_
  refine V9 ?_;exact VL.a (q:=true) g1 f1 (by simp[a1e]) (b9h ia ib) (a7g _) λ_=>by simp[a1e,fD]
 .refine Y0 (vf:=a3u) rfl ?_
  unfold a3u;refine zF ?_;refine zY (W0 gv om oo oa ob) ?_;refine xv (vmul_c (A:=W1 a) (B:=W1 b) (w:=8) hg ha hb oJ oJ) λq s1 hq g1 f1=>?_
  refine V9 ?_;exact VL.a (q:=true) g1 f1 (by simp[a1e]) (mul_b ia ib) (a7g _) λ_=>by simp[a1e,fD]
 .have c1:=vdiv_c (A:=W1 a) (B:=W1 b) hg ha hb
  rw[a8i ib]at c1;refine Y0 (vf:=a3u) rfl ?_;unfold a3u;refine zF ?_;refine zY (W0 gv om oo oa ob) ?_;refine xv c1 λq s1 hq g1 f1=>?_
  refine V9 ?_;refine xb (sb _ f1) λs2 f2=>?_
  have f3:=f1.trans f2 sJ;refine V9 ?_;refine VL.a (f2.kp g1) f3 ?_ (quo_b ia ib) (doZ8 _ _ _) λh=>?_
  .by_cases c:b=0<;>simp[a1e,c]
  .have:b≠0:=by simpa using h
   simp[a1e,this]
 .have c1:=vrem_c (A:=W1 a) (B:=W1 b) hg ha hb
  rw[a8i ib]at c1;refine Y0 (vf:=a3u) rfl ?_;unfold a3u;refine zF ?_;refine zY (W0 gv om oo oa ob) ?_;refine xv c1 λq s1 hq g1 f1=>?_
  refine V9 ?_;refine xb (sb _ f1) λs2 f2=>?_
  have f3:=f1.trans f2 sJ;refine V9 ?_;refine VL.a (f2.kp g1) f3 ?_ (rem_b ia ib) (doZ8 _ _ _) λh=>?_
  .by_cases c:b=0<;>simp[a1e,c]
  .have:b≠0:=by simpa using h
   simp[a1e,this]
end Go.Proofs.YtigbmclkjknnjaaGreat
namespace Go.V
variable{s:k4}{n:Option Nat}{d:D}
theorem a7j{s':k4}{p:D}(h:bF s.get n p=some d)(f:Fr [] s s'):bF s'.get n p=some d:=by
 cases p<;>simp only[bF]at h⊢<;>try exact h
 rename_i id off;cases hg:s.get id with
 |none=>grind
 |some o=>rw[hg]at h;rw[f.kp hg];exact h
variable{fs:FuncId->Option U4}{env:k6}
theorem xxm{af T i t f args rest s K}{l:List D}{P:D->k4->Prop}(hr:Y4 fs f l s P)(iW:∀d s',P d s'->Fr [] s s')(hT:∀e∈T,(e.i,i)∈af->∀id,e.rd=some id->id<s.next)
 (h:∀d s' E,P d s'->(∀e∈E,s.next<=e)->XX fs af (⟨i,none,E⟩::T) rest ((t,d)::env) s' K)(ha:env.aR args=l:=by rfl):WX fs af T ((i,⟨some t,.m (.call .raw (.aL (.fn f [])) args),none⟩)::rest) env s K :=
 xxn hr iW hT (λd s' E hp he=>a5i (h d s' E hp he)) ha
theorem bd_o{y:D}{i t:Nat}{af:bW}{T:List cu}{rest:dD}{K:Kt}(hl:bF s.get n d=some y)(jD:∀id,a2l af i id T)(k1:XX fs af T rest ((t,y)::env) s K)(k2:∀id,id<s.next->XX fs af (⟨i,some id,[]⟩::T) rest ((t,y)::env) s K):BD d n i fs af T t rest env s K:=by
 cases d<;>simp only[bF]at hl<;>try(cases hl)
 .rename_i id off
  rw[bd_p];refine⟨jD _,?_⟩;grind[BX,bF,t3]
 .rename_i cs off
  rw[bd_f];have e:bF s.get n (.fp cs off)=some y:=hl;rw[e];exact k1
def cK(s0 s:k4)(d:D)(l:List Bool):Prop:=Fr [] s0 s/\((d=.ag/\l=[])\/∃id,d=.arr id 0 l.length 1/\s0.next<=id/\s.get id=some (.cells (U3 l)))
variable{s0:k4}
theorem cK.nil(h:Fr [] s0 s):cK s0 s .ag []:=⟨h,.inl ⟨rfl,rfl⟩⟩
variable{l:List Bool}
theorem cK.fr{s':k4}(h:cK s0 s d l)(f:Fr [] s s'):cK s0 s' d l:=by
 obtain⟨h1,h2⟩:=h;refine⟨h1.trans f sJ,?_⟩;rcases h2 with h|⟨id,a,b,c⟩
 .exact .inl h
 .exact .inr ⟨id,a,b,f.kp c⟩
theorem cK.one(h:cK s0 s d l):V5 d=true:=by
 rcases h.2 with⟨rfl,_⟩|⟨id,rfl,_⟩<;>rfl
theorem cK.vb(h:cK s0 s d l):VB s d l:=by
 rcases h.2 with⟨rfl,rfl⟩|⟨id,rfl,_,h⟩
 .exact .inl ⟨rfl,rfl⟩
 .exact VB.arr h rfl
theorem b2Y{t rest env K}{b:Bool}(h:cK s0 s d l)(hl:l.length<=1000000)(k:∀d' s',cK s0 s' d' (l++[b])->XQ fs [] rest ((t,d')::env) s' K):BM (a0e 1 8 d (.arr s.next 0 1 1) (s.push (.cells [.int .i64 (V6 b)]))) fs t rest env K:=by
 obtain⟨h1,h2⟩:=h;have g0:(s.push (.cells [.int .i64 (V6 b)])).get s.next=some (.cells [.int .i64 (V6 b)]):=W8 rfl;have hn:(s.push (.cells [.int .i64 (V6 b)])).next=s.next+1:=sJ;have fr:Fr [] s (s.push (.cells [.int .i64 (V6 b)])):=Fr.push _;have n0:=h1.1;rcases h2 with⟨rfl,rfl⟩|⟨id,rfl,hi,hg⟩
 .have e:a0e 1 8 .ag (.arr s.next 0 1 1) (s.push (.cells [.int .i64 (V6 b)]))=some (.arr (s.next+1) 0 1 1,(s.push (.cells [.int .i64 (V6 b)])).push (.cells [.int .i64 (V6 b)])):=by grind[a0e,a1u,a3z,a1V]
  rw[e];exact k _ _ ⟨h1.trans (fr.ak _) sJ,.inr ⟨s.next+1,rfl,oJ,W8 sJ⟩⟩
 .have g1:(s.push (.cells [.int .i64 (V6 b)])).get id=some (.cells (U3 l)):=by grind[a0k,t3]
  have e:a0e 1 8 (.arr id 0 l.length 1) (.arr s.next 0 1 1) (s.push (.cells [.int .i64 (V6 b)]))=some (.arr (s.next+1) 0 (l.length+1) 1,((s.push (.cells [.int .i64 (V6 b)])).set id none).push (.cells (U3 (l++[b])))):=by
   unfold a0e;simp only[a1u,g0,g1,a3z,a1V,hn,a5p,GJ,HM,HJ,HN,FG];have c:(l.length+1)*8<=2^45/\l.length+1<=2^45:=⟨oJ,oJ⟩
   have e1:(if 1<=[D.int .i64 (V6 b)].length then some (List.take 1 [D.int .i64 (V6 b)])else none)=some [D.int .i64 (V6 b)]:=rfl;rw[e1];have e2:(1==1&&decide (8<=2^20))=true:=dJ;simp only[e2,FG,so (show¬(1=0) by decide),Fk c,a9p];rfl
  rw[e];refine k _ _ ⟨(((h1.trans fr sJ).st hi none).ak _),.inr ⟨s.next+1,sJ,oJ,W8 sJ⟩⟩
end Go.V
