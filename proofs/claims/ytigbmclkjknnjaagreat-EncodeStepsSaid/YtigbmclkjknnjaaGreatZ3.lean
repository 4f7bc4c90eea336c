/- Texts one behind the other. -/
import Derived.Test.YtigbmclkjknnjaaGreatZ1
import Derived.Laws.Strings
import Derived.Test.YtigbmclkjknnjaaGreatVt
set_option linter.all false
set_option maxRecDepth 100000
set_option maxHeartbeats 8000000
namespace Go.V
def IJ:=@IntKind.wrap_u32
theorem Z9{n:Int}(h1:-9223372036854775808<=n)(h2:n<9223372036854775808):IntKind.i64.wrap n=n:=IntWalk.i64_in n ⟨oJ,oJ⟩
def Fr(ids:List Nat)(s s':k4):Prop:=s.next<=s'.next/\∀i,i<s.next->i∉ids->s'.get i=s.get i
theorem Fr.refl(ids:List Nat)(s:k4):Fr ids s s:=⟨sm _,λ_ _ _=>rfl⟩
theorem Fr.trans{ids:List Nat}{ti:List Nat}{a b c:k4}(h:Fr ids a b)(k:Fr ti b c)(hi:∀i∈ti,i∈ids\/a.next<=i):Fr ids a c:=by
 refine⟨FE h.1 k.1,λi hl hn=>?_⟩;rw[k.2 i (Gq hl h.1) ?_,h.2 i hl hn];grind
theorem Fr.push{ids:List Nat}{s:k4}(o:Z7):Fr ids s (s.push o):=⟨sJ,λi hl _=>by rw[k4.aO,so oJ]⟩
theorem Fr.set{ids:List Nat}{s:k4}{id:Nat}(o:Option Z7)(h:id∈ids):Fr ids s (s.set id o):=⟨sJ,λi hl hn=>by
 rw[k4.bp,so];grind⟩
variable{ids:List Nat}
theorem Fr.ak{a b:k4}(h:Fr ids a b)(o:Z7):Fr ids a (b.push o):=h.trans (Fr.push (ids:=[]) o) sJ
variable{id:Nat}
theorem Fr.aC{a b:k4}(h:Fr ids a b)(o:Option Z7)(hi:id∈ids\/a.next<=id):Fr ids a (b.set id o) :=
 h.trans (Fr.set (ids:=[id]) o sJ) (sU hi)
theorem Fr.weaken{ids ti:List Nat}{a b:k4}(h:Fr ids a b)(hi:∀i∈ids,i∈ti):Fr ti a b:=⟨h.1,λi hl hn=>h.2 i hl λhc=>hn (hi i hc)⟩
variable{s:k4}{i:Nat}{o:Z7}
theorem t3(h:s.get i=some o):i<s.next:=by
 grind[k4.get]
theorem a0k(h:i<s.next):(s.push o).get i=s.get i:=by rw[k4.aO,so oJ]
theorem W8(h:i=s.next):(s.push o).get i=some o:=by rw[k4.aO,Fk h]
variable{o:Option Z7}
theorem Y8(h:i≠id):(s.set id o).get i=s.get i:=by rw[k4.bp,so (by rintro⟨rfl,_⟩;exact h rfl)]
theorem a0b(h:i<s.next):(s.set i o).get i=o:=by rw[k4.bp,Fk ⟨rfl,h⟩]
def a1f(l:List Nat):List D:=l.map λ(n:Nat)=>.int .i64 (n:Int)
def a57(l:List Bool):List D:=l.map λb=>.bool b
def dg(l:List ((Nat×Nat)×Nat)):List (D×D):=l.map λx=>(.agg [.int .i64 (x.1.1:Int),.int .i64 (x.1.2:Int)],.int .i64 (x.2:Int))
@[simp] theorem c9h(l:List Nat):(a1f l).length=l.length:=by simp[a1f]
@[simp] theorem c7h(l:List Bool):(a57 l).length=l.length:=by simp[a57]
def Rd(s:k4)(d:D)(l:List D):Prop :=
 (d=.ag/\l=[])\/d=.bu 1 (l.map λx=>[x])\/∃id off cs,d=.arr id off l.length 1/\s.get id=some (.cells cs)/\off+l.length<=cs.length/\(cs.drop off).take l.length=l
variable{d:D}{l:List D}
theorem Rd.len(h:Rd s d l):a0x false d=some (.int .i64 (l.length:Int)):=by
 rcases h with⟨rfl,rfl⟩|rfl|⟨id,off,cs,rfl,_⟩<;>simp[a0x]
theorem Rd.one(h:Rd s d l):V5 d=true:=by
 rcases h with⟨rfl,rfl⟩|rfl|⟨id,off,cs,rfl,_⟩<;>rfl
variable{k:IntKind}
theorem Rd.idx(h:Rd s d l)(ho:l.all V5=true)(hi:i<l.length){z:Int}(hz:z=(i:Int)):∃p,W7 1 d (.int k z)=some p/\bF s.get none p=some l[i]:=by
 subst hz;have Dc:V5 l[i]=true:=by grind
 rcases h with⟨rfl,rfl⟩|rfl|⟨id,off,cs,rfl,h1,h2,h3⟩
 .simp at hi
 .simp_all[W7,bF,a2V]
 .refine⟨.ptr id (off+i),?_,?_⟩
  .simp only[W7]
   rw[Fk (by refine⟨trivial,?_,?_⟩<;>omega)];simp
  grind[bF,a2V]
theorem Rd.row(h:Rd s d l):a1u s.get d=some l/\a3z d=some l.length/\a1V 1 d=true:=by
 rcases h with⟨rfl,rfl⟩|rfl|⟨id,off,cs,rfl,h1,h2,h3⟩
 .simp[a1u,a3z,a1V]
 .refine⟨?_,by simp[a3z],by simp[a1V]⟩
  simp only[a1u];congr 1
  induction l with
  |nil=>rfl
  |cons a l ih=>simp[ih]
 simp_all[a3z,a1V,a1u]
theorem Rd.arr{s:k4}{id:Nat}{l:List D}(h:s.get id=some (.cells l)):Rd s (.arr id 0 l.length 1) l:=.inr (.inr ⟨id,0,l,rfl,h,sJ,sJ⟩)
def a2i:D->Bool
 |.int _ _=>true
 |.bool _=>true
 |.str _=>true
 |_=>false
theorem b35{g:a0v}(h:a2i d=true):∀n,aK g (n+1) d=some d:=by
 intro n;cases d<;>first|rfl|(simp[a2i]at h)
theorem c3q(h:a2i d=true):a2B d=true:=by cases d<;>first|rfl|(simp[a2i]at h)
theorem b18{g:a0v}{n:Nat}:∀{l:List D},l.all a2i=true->X8 (aK g (n+1)) l=some l
 |[],_=>rfl
 |d::r,h=>by
  simp only[HH,Fo]at h;simp only[X8,b35 h.1,b18 h.2]
theorem b55:∀(l:List D),a53 1 l.length l=l.map λx=>[x]
 |[]=>rfl
 |d::r=>by simp[a53,b55 r]
theorem Rd.aK{s:k4}{d:D}{l:List D}(h:Rd s d l)(hl:l.all a2i=true):∃d',aK s.get 20 d=some d'/\Rd k4.empty d' l:=by
 have iS:=h.row.1;rcases h with⟨rfl,rfl⟩|rfl|⟨id,off,cs,rfl,h1,h2,h3⟩
 .exact⟨.ag,rfl,.inl ⟨rfl,rfl⟩⟩
 .exact⟨_,rfl,.inr (.inl rfl)⟩
 .refine⟨.bu 1 (l.map λx=>[x]),?_,.inr (.inl rfl)⟩
  grind[V.aK,b18,b55]
variable{fs:FuncId->Option U4}
theorem a5D{af i t f args rest s Q}{env:k6}{l':List D}{r:D}{s1:k4}(hr:Ev fs f l' k4.empty r s1)(hs:a2i r=true)(hl:env.aR args=l)(ha:X8 (V.aK s.get 20) l=some l')
 (h:WQ fs af rest ((t,r)::env) s Q):WQ fs af ((i,⟨some t,.m (.call .gu (.aL (.fn f [])) args),none⟩)::rest) env s Q :=
 a5Y hl ha hr (b35 hs 19) (by grind[c3q]) h
theorem c9s{n:Nat}{f:FuncId}{args:List D}(h:(a84 fs n f args s).map Prod.fst=some d):∃s',Ev fs f args s d s':=by
 cases hv:a84 fs n f args s with
 |none=>rw[hv]at h;cases h
 |some r =>
  rw[hv]at h;obtain⟨d',s'⟩:=r;simp at h;subst h;exact⟨s',n,hv⟩
def Sl(s:k4)(d:D)(l:List D)(ids:List Nat):Prop :=
 (d=.ag/\l=[]/\ids=[])\/∃id,d=.arr id 0 l.length 1/\s.get id=some (.cells l)/\ids=[id]
theorem Sl.rd(h:Sl s d l ids):Rd s d l:=by
 rcases h with⟨rfl,rfl,_⟩|⟨id,rfl,h,_⟩
 .exact .inl ⟨rfl,rfl⟩
 .exact Rd.arr h
theorem Sl.one{s:k4}{d:D}{l:List D}{ids:List Nat}(h:Sl s d l ids):V5 d=true:=h.rd.one
theorem Sl.push{s:k4}{d:D}{l:List D}{ids:List Nat}{new:List D}{mL bytes:Nat}(h:Sl s d l ids)(h3:s.get mL=some (.cells new))(jt:new≠[])(hb:bytes<=16)(hl:l.length+new.length<=2^40) :
 ∃s' d',a0e 1 bytes d (.arr mL 0 new.length 1) s=some (d',s')/\Sl s' d' (l++new) [s.next]/\s'.next=s.next+1/\∀i,i∉ids->i<s.next->s'.get i=s.get i:=by
 have hn:new.length≠0:=sU jt;have b1:(l.length+new.length)*bytes<=2^45:=FE (GI hl hb) dJ;have b2:l.length+new.length<=2^45:=FE hl dJ;have b3:bytes<=2^20:=FE hb dJ;rcases h with⟨rfl,rfl,rfl⟩|⟨id,rfl,h1,rfl⟩
 .refine⟨s.push (.cells new),.arr s.next 0 new.length 1,?_,.inr ⟨s.next,sJ,by simp[k4.aO],rfl⟩,rfl,λi _ hi=>by rw[k4.aO,so oJ]⟩
  unfold a0e;simp only[IS,GJ]at b1 b2;simp only[a1u,h3,a3z,a1V,GJ,HM,sm,FG,HJ,Ii,b3,Iz,GC,HN,hn,FF,b1,b2,Gf]
 .refine⟨(s.set id none).push (.cells (l++new)),.arr s.next 0 (l.length+new.length) 1,?_,.inr ⟨s.next,sJ,by rw[k4.aO,Fk (by simp only[k4.au])],rfl⟩,rfl,λi hi hl=>?_⟩
  .unfold a0e
   simp only[a1u,h3,a3z,a1V,GJ,HM,sm,FG,HJ,Ii,b3,Iz,GC,h1,HN,hn,FF,b1,b2,Gf]
  .simp only[Fu]at hi
   rw[k4.aO,so (by simp only[k4.au];omega),k4.bp,so (by rintro⟨rfl,_⟩;exact hi rfl)]
theorem Sl.stay{s':k4}{ids wT:List Nat}(h:Sl s d l ids)(hf:Fr wT s s')(hd:∀i∈ids,i∉wT):Sl s' d l ids:=by
 rcases h with h1|⟨id,h1,h2,rfl⟩
 .exact .inl h1
 .exact .inr ⟨id,h1,by rw[hf.2 id (t3 h2) (hd id sJ),h2],rfl⟩
def find(k:Nat×Nat):List ((Nat×Nat)×Nat)->Option Nat
 |[]=>none
 |(p,n)::r=>if k=p then some n else find k r
attribute [go_sem] a0k W8 Y8 a0b Z9
def FL(sz:Nat)(d:D)(rows:List (List D)):Prop:=(d=.ag/\rows=[])\/d=.bu sz rows
variable{rows:List (List D)}
theorem FL.len{sz:Nat}(h:FL sz d rows):a0x false d=some (.int .i64 (rows.length:Int)):=by
 rcases h with⟨rfl,rfl⟩|rfl<;>rfl
theorem FL.one{sz:Nat}(h:FL sz d rows):V5 d=true:=by
 rcases h with⟨rfl,rfl⟩|rfl<;>rfl
theorem FL.pure{sz:Nat}(h:FL sz d rows):a1j d=true:=by
 rcases h with⟨rfl,rfl⟩|rfl<;>rfl
theorem FL.aK{sz:Nat}{d:D}{rows:List (List D)}(h:FL sz d rows){g:a0v}{n:Nat}:aK g (n+1) d=some d:=by
 rcases h with⟨rfl,rfl⟩|rfl<;>rfl
theorem FL.idx{sz:Nat}(h:FL sz d rows)(hi:i<rows.length):W7 sz d (.int k (i:Int))=some (.fp rows[i] 0):=by
 rcases h with⟨rfl,rfl⟩|rfl
 .simp at hi
 .simp[W7,hi]
def FS(d:D)(l:List ByteArray):Prop:=FL 1 d (l.map λx=>[.str x])
def FI(d:D)(l:List Int):Prop:=FL 1 d (l.map λn=>[.int .i64 n])
theorem FS.len{d:D}{l:List ByteArray}(h:FS d l):a0x false d=some (.int .i64 (l.length:Int)):=by rw[FL.len h,FT]
theorem FI.len{d:D}{l:List Int}(h:FI d l):a0x false d=some (.int .i64 (l.length:Int)):=by rw[FL.len h,FT]
theorem FS.idx{d:D}{l:List ByteArray}(h:FS d l){i:Nat}(hi:i<l.length){k:IntKind}:W7 1 d (.int k (i:Int))=some (.fp [.str l[i]] 0):=by
 rw[FL.idx h (sU hi)];simp
theorem FI.idx{d:D}{l:List Int}(h:FI d l){i:Nat}(hi:i<l.length){k:IntKind}:W7 1 d (.int k (i:Int))=some (.fp [.int .i64 l[i]] 0):=by
 rw[FL.idx h (sU hi)];simp
theorem FL.drop{sz:Nat}{d:D}{rows:List (List D)}(h:FL sz d rows){n:Nat}(hn:n<=rows.length){k:IntKind}:∃d',a3y (some sz) d (some (.int k (n:Int))) none=some d'/\FL sz d' (rows.drop n):=by
 rcases h with⟨rfl,rfl⟩|rfl
 .obtain rfl:n=0:=by simpa using hn
  exact⟨.ag,by simp[a3y,a2m],.inl ⟨rfl,rfl⟩⟩
 .exact⟨_,by simp[a3y,a2m,hn],.inr rfl⟩
theorem str_eq{a b:ByteArray}:(a.toList==b.toList)=decide (a=b):=by
 rw[FV,HK,Fy];constructor
 .intro h
  rw[Io,Io]at h;cases a;simp_all
 .rintro rfl;rfl
theorem c4G{a b:ByteArray}:b1M .eql a b=some (.bool (decide (a=b))):=by rw[<- str_eq];rfl
attribute [go_sem] c4G
end Go.V
namespace Go.V
theorem b26{α β:Type}{f:α->β}{P:α->Prop}:∀{xs:List β},(∀x∈xs,∃a,x=f a/\P a)->∃aa:List α,xs=aa.map f/\∀a∈aa,P a
 |[],_=>⟨[],rfl,sJ⟩
 |x::r,h=>by
  obtain⟨a,rfl,ha⟩:=h x sJ;obtain⟨aa,rfl,has⟩:=b26 (xs:=r) λx hx=>h x (by simp[hx])
  exact⟨a::aa,rfl,by grind⟩
def a2C(n:Int):Prop:=-9223372036854775808<=n/\n<9223372036854775808
theorem b9M{n:Int}(h:(Lit.int .i64 n).wf=true):a2C n:=by
 simp only[Lit.wf,Fo,Fy]at h;have h1:IntKind.i64.min=-9223372036854775808:=rfl;have h2:IntKind.i64.max=9223372036854775807:=rfl;rw[h1,h2]at h;exact⟨h.1,oJ⟩
variable{l:List D}
theorem Sl.push1{s:k4}{d:D}{ids:List Nat}(h:Sl s d l ids)(x:D){bytes:Nat}(hb:bytes<=16)(hl:l.length<2^40) :
 ∃s' d',a0e 1 bytes d (.arr s.next 0 1 1) (s.push (.cells [x]))=some (d',s')/\Sl s' d' (l++[x]) [s.next+1]/\s'.next=s.next+2/\Fr ids s s':=by
 have h':Sl (s.push (.cells [x])) d l ids:=h.stay (wT:=[]) (Fr.push _) sJ;obtain⟨s',d',e1,e2,e3,e4⟩:=h'.push (new:=[x]) (mL:=s.next) (bytes:=bytes) (W8 rfl) sJ hb qJ;refine⟨s',d',e1,e2,e3,by rw[e3,k4.aj];omega,λi hi hn=>?_⟩;grind[k4.aj,a0k]
variable{n:Nat}{x:D}
theorem b7o(h:n<l.length):a5Z l n [x]=l.set n x:=by
 simp_all[a5Z,List.set_eq_take_append_cons_drop]
theorem b2H{fs:FuncId->Option U4}{i a v rest s Q}{env:k6}{id:Nat}(hg:s.get id=some (.cells l))(hn:n<l.length)(ho:V5 x=true)(ha:env.ev a=.ptr id n)(hv:env.ev v=x)
 (h:WQ fs [] rest env (s.set id (some (.cells (l.set n x)))) Q):WQ fs [] ((i,⟨none,.w 1 a v,none⟩)::rest) env s Q:=by
 refine b12 (id:=id) (ob:=.cells (l.set n x)) ?_ h;simp only[ei,ha,hg,hv,b8L ho,Hy,HH,List.all_nil,ho];rw[Fk ⟨trivial,oJ,rfl,oJ⟩,b7o hn]
theorem c0w(l:List Nat)(n k:Nat):(a1f l).set n (.int .i64 (k:Int))=a1f (l.set n k):=by simp[a1f,Kx]
theorem b7b:∀n,a3l [.bool false] n=a57 (List.replicate n false)
 |0=>rfl
 |n+1=>by simp only[a3l,b7b n,Hw,a57,FJ,Fx,Fv]
end Go.V
namespace Go.V
structure Nd where
 kind:Int
 dw:D
 dn:D
 dk:D
 pos:Int
 words:List ByteArray
 aI:List Int
 kids:List Int
 deriving Inhabited
def Nd.row(x:Nd):List D:=[.int .i64 x.kind,x.dw,x.dn,x.dk,.int .i64 x.pos]
structure Nd.Ok(x:Nd):Prop where
 w:FS x.dw x.words
 n:FI x.dn x.aI
 k:FI x.dk x.kids
 ki:a2C x.kind
 wl:x.words.length<=maxLen
 nl:x.aI.length<=maxLen
 kl:x.kids.length<=maxLen
 ni:∀n∈x.aI,a2C n
 ii:∀n∈x.kids,a2C n
structure Z0(d:D)(t:List Nd):Prop where
 fl:FL 5 d (t.map Nd.row)
 ok:∀x∈t,x.Ok
 le:t.length<=maxLen
theorem Z0.len{d:D}{t:List Nd}(h:Z0 d t):a0x false d=some (.int .i64 (t.length:Int)):=by rw[h.fl.len,FT]
theorem Z0.idx{d:D}{t:List Nd}(h:Z0 d t){i:Nat}(hi:i<t.length){k:IntKind}:W7 5 d (.int k (i:Int))=some (.fp [.int .i64 t[i].kind,t[i].dw,t[i].dn,t[i].dk,.int .i64 t[i].pos] 0):=by
 rw[h.fl.idx (sU hi)];simp[Nd.row]
variable{d:D}{t:List Nd}{i:Nat}
theorem Z0.get(h:Z0 d t)(hi:i<t.length):t[i].Ok:=h.ok _ (Fp hi)
def Ty.node:Ty:=.struct [.int .i64,.slice 1 .str,.slice 1 (.int .i64),.slice 1 (.int .i64),.int .i64]
def Ty.tree:Ty:=.slice 5 Ty.node
theorem c9u{a:List D}(h:a1H (.slice 1 .str) a):∃d l,a=[d]/\FS d l/\l.length<=maxLen:=by
 simp only[a1H]at h;rcases h with rfl|⟨xs,rfl,hl,hx⟩
 .exact⟨.ag,[],rfl,.inl ⟨rfl,rfl⟩,sJ⟩
 .obtain⟨l,rfl,_⟩:=b26 (f:=λ(b:ByteArray)=>[D.str b]) (P:=λ_=>True) (xs:=xs) (λx hm=>by
   grind)
  exact⟨_,l,rfl,.inr rfl,sU hl⟩
theorem b3t{a:List D}(h:a1H (.slice 1 (.int .i64)) a):∃d l,a=[d]/\FI d l/\l.length<=maxLen/\∀n∈l,a2C n:=by
 simp only[a1H]at h;rcases h with rfl|⟨xs,rfl,hl,hx⟩
 .exact⟨.ag,[],rfl,.inl ⟨rfl,rfl⟩,sJ,sJ⟩
 .obtain⟨l,rfl,hi⟩:=b26 (f:=λ(n:Int)=>[D.int .i64 n]) (P:=λn=>a2C n) (xs:=xs) (λx hm=>by
   grind[b9M])
  exact⟨_,l,rfl,.inr rfl,sU hl,hi⟩
theorem c4H{a:List D}(h:a1H Ty.node a):∃x:Nd,a=x.row/\x.Ok:=by
 simp only[Ty.node,a1H,fq]at h;obtain⟨a1,b1,rfl,⟨n1,rfl,w1⟩,a2,b2,rfl,h2,a3,b3,rfl,h3,a4,b4,rfl,h4,a5,b5,rfl,⟨n5,rfl,w5⟩,rfl⟩:=h;obtain⟨dw,lw,rfl,fw,lwl⟩:=c9u (by simpa only[a1H]using h2);obtain⟨dn,ln,rfl,fn,lnl,lni⟩:=b3t (by simpa only[a1H]using h3);obtain⟨dk,lk,rfl,fk,lkl,lki⟩:=b3t (by simpa only[a1H]using h4);exact⟨⟨n1,dw,dn,dk,n5,lw,ln,lk⟩,rfl,fw,fn,fk,b9M w1,lwl,lnl,lkl,lni,lki⟩
theorem c9j(h:a9u Ty.tree d):∃t,Z0 d t:=by
 have h:a1H Ty.tree [d]:=h;rw[Ty.tree,a1H]at h;rcases h with h|⟨xs,h,hl,hx⟩
 .simp at h
  subst h;exact⟨[],.inl ⟨rfl,rfl⟩,sJ,sJ⟩
 .simp at h
  subst h;obtain⟨t,rfl,hi⟩:=b26 (f:=Nd.row) (P:=Nd.Ok) (xs:=xs) λx hm=>c4H (hx x hm)
  exact⟨t,.inr rfl,hi,sU hl⟩
theorem c33(h:a9u (.slice 1 (.int .i64)) d):∃l,FI d l/\l.length<=maxLen/\∀n∈l,a2C n:=by
 obtain⟨d',l,e,h⟩:=b3t (a:=[d]) h;grind
structure Ch where
 name:ByteArray
 room:Int
 width:Int
 bC:Bool
 aS:Bool
 deriving Inhabited
structure Vr where
 name:ByteArray
 width:Int
 value:Int
 deriving Inhabited
structure Ed where
 aq:Nat
 to:Nat
 act:Nat
 expr:Int
 var:Int
 chan:Int
 aG:Bool
 node:Nat
 deriving Inhabited
structure Pr where
 name:ByteArray
 copy:Nat
 locals:List Nat
 ah:Nat
 rest:List Bool
 ai:List Ed
 names:List ByteArray
 vars:List Nat
 deriving Inhabited
def Ch.row(c:Ch):List D:=[.str c.name,.int .i64 c.room,.int .i64 c.width,.bool c.bC,.bool c.aS]
def Vr.row(v:Vr):List D:=[.str v.name,.int .i64 v.width,.int .i64 v.value]
def Ed.row(e:Ed):List D:=[.int .i64 (e.aq:Int),.int .i64 (e.to:Int),.int .i64 (e.act:Int),.int .i64 e.expr,.int .i64 e.var,.int .i64 e.chan,.bool e.aG,.int .i64 (e.node:Int)]
def Pr.put(p:Pr)(aq to act:Nat)(node:Nat)(expr v c:Int):Pr:={ p with ai:=p.ai++[⟨aq,to,act,expr,v,c,false,node⟩] }
def Pr.place(p:Pr):Pr:={ p with ah:=p.ah+1,rest:=p.rest++[false] }
def Pr.idle(p:Pr)(n:Nat)(is:Int):Pr:=if is=1 then{ p with rest:=p.rest.set n true }else p
def a2k(l:List ByteArray)(s:ByteArray):Nat:=if l.findIdx (λx=>decide (x=s))<l.length then l.findIdx (λx=>decide (x=s))else 0
def eP(l:List ByteArray)(s:ByteArray):Bool:=l.any λx=>decide (x=s)
variable{l:List ByteArray}{s:ByteArray}
theorem c0K:eP l s=true↔s∈l:=by
 simp[eP]
def nd(t:List Nd)(i:Nat):Nd:=t.getD i default
def Nd.aE(x:Nd)(i:Nat):Nat:=(x.kids.getD i 0).toNat
def Nd.ks(x:Nd):List Nat:=x.kids.map Int.toNat
def Nd.word(x:Nd)(i:Nat):ByteArray:=x.words.getD i default
def Nd.num(x:Nd)(i:Nat):Int:=x.aI.getD i 0
def a3C(st:Pr->Nat->Nat->Nat->Pr)(node:Nat):Pr->List Nat->Nat->Nat->Pr
 |p,[],aq,to=>p.put aq to 0 node (-1) (-1) (-1)
 |p,[k],aq,to=>st p k aq to
 |p,k::k'::ks,aq,to=>a3C st node (st p.place k aq p.ah) (k'::ks) p.ah to
def a1g(t:List Nd)(st:Pr->Nat->Nat->Nat->Pr)(p:Pr)(b aq to:Nat):Pr:=a3C st b p (nd t b).ks aq to
def b0m(t:List Nd)(b:Nat):Bool:=match(nd t b).ks with
 |[]=>false
 |k::_=>(nd t k).kind==12
def a1X(t:List Nd)(st:Pr->Nat->Nat->Nat->Pr)(aq to:Nat):Pr->List Nat->Pr
 |p,[]=>p
 |p,k::ks=>a1X t st aq to (if b0m t k then a1g t st (p.place.put aq p.ah 0 k (-1) (-1) (-1)) k p.ah to else a1g t st p k aq to) ks
def a3h(n to:Nat)(l:List Ed):List Ed:=l.take n++(l.drop n).map λe=>{ e with aG:=e.to != to&&e.to != 1 }
def X5(t:List Nd)(ch:List ByteArray):Nat->Pr->Nat->Nat->Nat->Pr
 |0,p,_,_,_=>p
 |f+1,p,aF,aq,to =>
  let n:=nd t aF
  let st:=X5 t ch f
  if n.kind=6 then p.put aq to 1 aF (n.aE 0) (p.vars.getD (a2k p.names (n.word 0)) 0:Nat) (-1)
  else if n.kind=7 then p.put aq to 2 aF (n.aE 0) (-1) (a2k ch (n.word 0):Nat)
  else if n.kind=8 then(p.idle aq (n.num 0)).put aq to 3 aF (-1) (p.vars.getD (a2k p.names (n.word 1)) 0:Nat) (a2k ch (n.word 0):Nat)
  else if n.kind=9 then(p.idle aq (n.num 0)).put aq to 4 aF (n.aE 0) (-1) (-1)
  else if n.kind=10 then a1X t st aq to (p.idle aq (n.num 0)) n.ks
  else if n.kind=11 then
   let p1:=a1g t st (p.place.put aq p.ah 4 aF (n.aE 0) (-1) (-1)) (n.aE 1) p.ah to
   if n.kids.length=2 then p1.put aq to 5 aF (n.aE 0) (-1) (-1)
   else a1g t st (p1.place.put aq p1.ah 5 aF (n.aE 0) (-1) (-1)) (n.aE 2) p1.ah to
  else if n.kind=12 then a1g t st ((p.place.put aq p.ah 4 aF (n.aE 0) (-1) (-1)).put aq to 5 aF (n.aE 0) (-1) (-1)) (n.aE 1) p.ah aq
  else if n.kind=13 then
   let p1:=a1g t st p (n.aE 0) aq to
   { p1 with ai:=a3h p.ai.length to p1.ai }
  else if n.kind=15 then p.put aq 1 0 aF (-1) (-1) (-1)
  else p.put aq to 0 aF (-1) (-1) (-1)
def a3O(k:Int):Prop:=17<=k/\k<=22
def a5M(k:Int):Prop:=6<=k/\k<=15
def a2p(k:Int):Nat:=if k=8 then 2 else if k=1\/k=2\/k=3\/k=6\/k=7\/k=18\/k=19 then 1 else 0
def a2q(k:Int):Nat:=if k=1 then 4 else if k=2 then 2 else if k=3\/k=8\/k=9\/k=10\/k=17\/k=22 then 1 else 0
structure b2W(t:List Nd)(x:Nd):Prop where
 kr:0<=x.kind/\x.kind<=22
 wl:x.words.length=a2p x.kind
 nl:x.aI.length=a2q x.kind
 prog:x.kind=0->∀k∈x.ks,1<=(nd t k).kind/\(nd t k).kind<=5
 chan:x.kind=1->0<=x.num 0/\0<=x.num 1/\0<=x.num 2/\x.num 2<=1/\0<=x.num 3/\x.num 3<=1
 var:x.kind=2->-999999<=x.num 1/\x.num 1<=999999
 proc:x.kind=3->∃v,v<=x.ks.length/\(∀k∈x.ks.take v,(nd t k).kind=2)/\∀k∈x.ks.drop v,a5M (nd t k).kind
 copies:x.kind=3->0<=x.num 0/\x.num 0<=999999
 one:x.kind=4\/x.kind=6\/x.kind=7\/x.kind=9\/x.kind=20\/x.kind=21->x.kids.length=1/\a3O (nd t (x.aE 0)).kind
 none:x.kind=1\/x.kind=2\/x.kind=5\/x.kind=8\/x.kind=14\/x.kind=15\/x.kind=17\/x.kind=18\/x.kind=19->x.kids=[]
 choose:x.kind=10->1<=x.kids.length/\∀k∈x.ks,(nd t k).kind=16
 cond:x.kind=11->(x.kids.length=2\/x.kids.length=3)/\a3O (nd t (x.aE 0)).kind/\(nd t (x.aE 1)).kind=16/\(x.kids.length=3->(nd t (x.aE 2)).kind=16)
 loop:x.kind=12->x.kids.length=2/\a3O (nd t (x.aE 0)).kind/\(nd t (x.aE 1)).kind=16
 atom:x.kind=13->x.kids.length=1/\(nd t (x.aE 0)).kind=16
 block:x.kind=16->∀k∈x.ks,a5M (nd t k).kind
 bin:x.kind=22->x.kids.length=2/\a3O (nd t (x.aE 0)).kind/\a3O (nd t (x.aE 1)).kind/\0<=x.num 0/\x.num 0<=8
 flag:x.kind=8\/x.kind=9\/x.kind=10->0<=x.num 0/\x.num 0<=1
 lit:x.kind=17->0<=x.num 0/\x.num 0<=999999
structure a2a(t:List Nd):Prop where
 pos:0<t.length
 le:t.length<=800
 root:(nd t 0).kind=0
 kids:∀i,i<t.length->∀k∈(nd t i).kids,(i:Int)<k/\k<(t.length:Int)
 node:∀i,i<t.length->b2W t (nd t i)
theorem b36(h:i<t.length):nd t i=t[i]:=by simp[nd,List.getD,h]
theorem a2a.ks{t:List Nd}(h:a2a t){i:Nat}(hi:i<t.length):∀k∈(nd t i).ks,i<k/\k<t.length:=by
 intro k hk;obtain⟨z,hz,rfl⟩:=Fs.1 hk;have:=h.kids i hi z hz;omega
theorem a1E{x:Nd}(h:i<x.kids.length):x.aE i∈x.ks:=by
 grind[Nd.aE,Nd.ks]
theorem a4H(x:Nd):x.ks.length=x.kids.length:=by simp[Nd.ks]
structure a6z(t:List Nd)(jQ pl:Nat)(vars:List Nat)(e:Ed):Prop where
 f:e.aq<pl
 to:e.to<pl
 act:e.act<=5
 gZ:e.act=0\/e.act=3->e.expr=-1
 eQ:e.act=1\/e.act=2\/e.act=4\/e.act=5->∃n:Nat,e.expr=(n:Int)/\n<t.length/\a3O (nd t n).kind
 v1:e.act=1\/e.act=3->∃n∈vars,e.var=((n:Nat):Int)
 v0:e.act=0\/e.act=2\/e.act=4\/e.act=5->e.var=-1
 c1:e.act=2\/e.act=3->∃n:Nat,e.chan=(n:Int)/\n<jQ
 c0:e.act=0\/e.act=1\/e.act=4\/e.act=5->e.chan=-1
variable{jQ pl:Nat}{vars:List Nat}
theorem a6z.mono{pl':Nat}{e:Ed}(h:a6z t jQ pl vars e)(hp:pl<=pl'):a6z t jQ pl' vars e :=
 ⟨by have:=h.f;omega,by have:=h.to;omega,h.act,h.gZ,h.eQ,h.v1,h.v0,h.c1,h.c0⟩
structure a10(t:List Nd)(jQ:Nat)(p:Pr):Prop where
 two:2<=p.ah
 rest:p.rest.length=p.ah
 ed:∀e∈p.ai,a6z t jQ p.ah p.vars e
structure a3m(p q:Pr):Prop where
 name:q.name=p.name
 copy:q.copy=p.copy
 locals:q.locals=p.locals
 names:q.names=p.names
 vars:q.vars=p.vars
 ah:p.ah<=q.ah
 ai:∃l,q.ai=p.ai++l
theorem a3m.refl(p:Pr):a3m p p:=⟨rfl,rfl,rfl,rfl,rfl,sm _,[],sJ⟩
theorem a3m.trans{p q r:Pr}(h:a3m p q)(k:a3m q r):a3m p r:=by
 obtain⟨l,hl⟩:=h.ai;obtain⟨m,hm⟩:=k.ai;exact⟨k.name.trans h.name,k.copy.trans h.copy,k.locals.trans h.locals,k.names.trans h.names,k.vars.trans h.vars,FE h.ah k.ah,l++m,by rw[hm,hl,Fj]⟩
theorem a3F(p:Pr)(aq to act node:Nat)(expr v c:Int):a3m p (p.put aq to act node expr v c):=⟨rfl,rfl,rfl,rfl,rfl,sm _,_,rfl⟩
theorem a6y(p:Pr):a3m p p.place:=⟨rfl,rfl,rfl,rfl,rfl,Hn _,[],by simp[Pr.place]⟩
theorem b94(p:Pr)(n:Nat)(is:Int):a3m p (p.idle n is):=by
 unfold Pr.idle;split
 .exact⟨rfl,rfl,rfl,rfl,rfl,sm _,[],sJ⟩
 .exact a3m.refl p
theorem b0U(p:Pr)(n:Nat)(is:Int):(p.idle n is).ah=p.ah/\(p.idle n is).ai=p.ai/\(p.idle n is).vars=p.vars/\(p.idle n is).names=p.names:=by
 unfold Pr.idle;grind
variable{p:Pr}
theorem a3D{aq to act node:Nat}{expr v c:Int}(h:a10 t jQ p)(he:a6z t jQ p.ah p.vars ⟨aq,to,act,expr,v,c,false,node⟩):a10 t jQ (p.put aq to act node expr v c):=by
 refine⟨h.two,h.rest,λe hm=>?_⟩;rcases Fm.1 hm with hm|hm
 .exact h.ed e hm
 .simp at hm;subst hm;exact he
theorem a5X(h:a10 t jQ p):a10 t jQ p.place :=
 ⟨by have:=h.two;simp[Pr.place];omega,by simp[Pr.place,h.rest],λe hm=>(h.ed e hm).mono (Hn _)⟩
variable{n:Nat}
theorem b9a{is:Int}(h:a10 t jQ p):a10 t jQ (p.idle n is):=by
 unfold Pr.idle;split
 .exact⟨h.two,by simp[h.rest],h.ed⟩
 .exact h
theorem b1c{aq to node:Nat}(hf:aq<pl)(ht:to<pl):a6z t jQ pl vars ⟨aq,to,0,-1,-1,-1,false,node⟩ :=
 ⟨hf,ht,sJ,sJ,sJ,sJ,sJ,sJ,sJ⟩
theorem a6A{aq to node n:Nat}{a:Nat}(ha:a=4\/a=5)(hf:aq<pl)(ht:to<pl)(hn:n<t.length)(hk:a3O (nd t n).kind):a6z t jQ pl vars ⟨aq,to,a,(n:Int),-1,-1,false,node⟩:=by
 refine⟨hf,ht,?_,?_,λ_=>⟨n,rfl,hn,hk⟩,?_,λ_=>rfl,?_,λ_=>rfl⟩<;>simp<;>omega
def a5w(t:List Nd)(jQ:Nat)(names:List ByteArray)(vars:List Nat)(st:Pr->Nat->Nat->Nat->Pr)(k:Nat):Prop :=
 ∀p aq to,a10 t jQ p->p.names=names->p.vars=vars->aq<p.ah->to<p.ah->a10 t jQ (st p k aq to)/\a3m p (st p k aq to)
theorem a8e{t:List Nd}{jQ:Nat}{names:List ByteArray}{vars:List Nat}{st:Pr->Nat->Nat->Nat->Pr}{node:Nat}:∀{ks:List Nat}{p:Pr}{aq to:Nat},(∀k∈ks,a5w t jQ names vars st k) ->
 a10 t jQ p->p.names=names->p.vars=vars->aq<p.ah->to<p.ah->a10 t jQ (a3C st node p ks aq to)/\a3m p (a3C st node p ks aq to)
 |[],p,aq,to,_,h,hn,hv,hf,ht=>⟨a3D h (b1c hf ht),a3F _ _ _ _ _ _ _ _⟩
 |[k],p,aq,to,hs,h,hn,hv,hf,ht=>hs k sJ p aq to h hn hv hf ht
 |k::k'::ks,p,aq,to,hs,h,hn,hv,hf,ht=>by
  have h1:=hs k sJ p.place aq p.ah (a5X h) hn hv (GK hf) (GD _);have g1:=(a6y p).trans h1.2;have:=h1.2.ah;have:p.place.ah=p.ah+1:=rfl;have h2:=a8e (node:=node) (ks:=k'::ks) (p:=st p.place k aq p.ah) (aq:=p.ah) (to:=to) (λx hx=>hs x (by grind)) h1.1 (g1.names.trans hn) (g1.vars.trans hv) oJ oJ;exact⟨h2.1,g1.trans h2.2⟩
theorem b6H{t:List Nd}{jQ:Nat}{names:List ByteArray}{vars:List Nat}{st:Pr->Nat->Nat->Nat->Pr}{aq to:Nat}:∀{ks:List Nat}{p:Pr},(∀b∈ks,∀k∈(nd t b).ks,a5w t jQ names vars st k) ->
 a10 t jQ p->p.names=names->p.vars=vars->aq<p.ah->to<p.ah->a10 t jQ (a1X t st aq to p ks)/\a3m p (a1X t st aq to p ks)
 |[],p,_,h,_,_,_,_=>⟨h,a3m.refl p⟩
 |k::ks,p,hs,h,hn,hv,hf,ht=>by
  have key:∀q,a10 t jQ q->a3m p q->a10 t jQ (a1X t st aq to q ks)/\a3m p (a1X t st aq to q ks):=λq hq gq=>by
   have:=gq.ah;have:=b6H (ks:=ks) (p:=q) (aq:=aq) (to:=to) (λb hb=>hs b (by simp[hb])) hq (gq.names.trans hn) (gq.vars.trans hv) oJ oJ;exact⟨this.1,gq.trans this.2⟩
  have hk:=hs k sJ;unfold a1X;split
  .have h1:=a3D (node:=k) (a5X h) (b1c (aq:=aq) (to:=p.ah) (GK hf) (GD _))
   have g1:=(a6y p).trans (a3F p.place aq p.ah 0 k (-1) (-1) (-1));have:=a8e (node:=k) (aq:=p.ah) (to:=to) hk h1 hn hv (GD _) (GK ht);exact key _ this.1 (g1.trans this.2)
  .have:=a8e (node:=k) (aq:=aq) (to:=to) hk h hn hv hf ht
   exact key _ this.1 this.2
variable{names:List ByteArray}{to:Nat}
theorem a7S{t:List Nd}{st:Pr->Nat->Nat->Nat->Pr}{b:Nat}{aq:Nat}(hs:∀k∈(nd t b).ks,a5w t jQ names vars st k)
 (h:a10 t jQ p)(hn:p.names=names)(hv:p.vars=vars)(hf:aq<p.ah)(ht:to<p.ah):a10 t jQ (a1g t st p b aq to)/\a3m p (a1g t st p b aq to):=a8e hs h hn hv hf ht
structure b1v(t:List Nd)(jQ:Nat)(ch names:List ByteArray)(vars:List Nat)(k:Nat):Prop where
 same:names.length=vars.length
 bx:ch.length=jQ
 v:(nd t k).kind=6\/(nd t k).kind=8->0<names.length
 c:(nd t k).kind=7\/(nd t k).kind=8->0<ch.length
theorem b1a(h:0<l.length):a2k l s<l.length:=by
 grind[a2k]
theorem c7J{l:List Nat}(h:i<l.length):l.getD i 0∈l:=by simp[List.getD,h]
theorem c9l{l:List Ed}{e:Ed}(h:e∈a3h n to l):∃e'∈l,∃b,e={ e' with aG:=b }:=by
 rcases Fm.1 h with h|h
 .exact⟨e,Gh h,e.aG,rfl⟩
 grind
theorem b2P{t:List Nd}(ht:a2a t){jQ:Nat}{ch names:List ByteArray}{vars:List Nat}{P:Nat->Prop}(hc:∀j,j<t.length->P j->∀k∈(nd t j).ks,P k)(hs:∀k,P k->b1v t jQ ch names vars k):∀(f k:Nat),k<t.length->P k->a5M (nd t k).kind->t.length-k<f->a5w t jQ names vars (X5 t ch f) k
 |0,k,_,_,_,hf=>by omega
 |f+1,k,hk,hP,jZ,hf=>by
  intro p aq to h hn hv iW mK;have iT:=ht.node k hk;have kx:=ht.ks hk;have hS:=hs k hP;have bl:=λb hb jY x hx=>by
   have h1:=kx b hb;have h2:=ht.ks h1.2 x hx;exact b2P ht hc hs f x h2.2 (hc b h1.2 (hc k hk hP b hb) x hx) ((ht.node b h1.2).block jY x hx) oJ
  have kI:0<names.length->∀s,∃n∈p.vars,((p.vars.getD (a2k p.names s) 0:Nat):Int)=((n:Nat):Int):=λhp s=>by
   refine⟨_,c7J ?_,rfl⟩;rw[hv,hn,<- hS.same];exact b1a hp
  have mM:0<ch.length->∀s,∃n:Nat,((a2k ch s:Nat):Int)=(n:Int)/\n<jQ:=λhp s=>⟨_,rfl,by rw[<- hS.bx];exact b1a hp⟩
  have hex:1<=(nd t k).kids.length->a3O (nd t ((nd t k).aE 0)).kind->∃n:Nat,(((nd t k).aE 0:Nat):Int)=(n:Int)/\n<t.length/\a3O (nd t n).kind:=λh1 h2=>⟨_,rfl,(kx _ (a1E h1)).2,h2⟩
  have ip:=b0U p aq ((nd t k).num 0);have gi:=b94 p aq ((nd t k).num 0);have ii:=b9a (n:=aq) (is:=(nd t k).num 0) h;unfold X5;simp only;have jE:=h.two;by_cases c6:(nd t k).kind=6
  .rw[Fk c6]
   have h1:=iT.one oJ;refine⟨a3D h ⟨iW,mK,sJ,sJ,λ_=>hex oJ h1.2,λ_=>kI (hS.v oJ) _,sJ,sJ,λ_=>rfl⟩,a3F _ _ _ _ _ _ _ _⟩
  rw[so c6];by_cases c7:(nd t k).kind=7
  .rw[Fk c7]
   have h1:=iT.one oJ;refine⟨a3D h ⟨iW,mK,sJ,sJ,λ_=>hex oJ h1.2,sJ,λ_=>rfl,λ_=>mM (hS.c oJ) _,sJ⟩,a3F _ _ _ _ _ _ _ _⟩
  rw[so c7];by_cases c8:(nd t k).kind=8
  .rw[Fk c8]
   refine⟨a3D ii ⟨by rw[ip.1];exact iW,by rw[ip.1];exact mK,sJ,λ_=>rfl,sJ,λ_=>by rw[ip.2.2.1];exact kI (hS.v oJ) _,sJ,λ_=>mM (hS.c oJ) _,sJ⟩,gi.trans (a3F _ _ _ _ _ _ _ _)⟩
  rw[so c8];by_cases c9:(nd t k).kind=9
  .rw[Fk c9]
   have h1:=iT.one oJ;exact⟨a3D ii (a6A (.inl rfl) (by rw[ip.1];exact iW) (by rw[ip.1];exact mK) (kx _ (a1E oJ)).2 h1.2),gi.trans (a3F _ _ _ _ _ _ _ _)⟩
  rw[so c9];by_cases qN:(nd t k).kind=10
  .rw[Fk qN]
   have h1:=iT.choose qN;have:=b6H (aq:=aq) (to:=to) (λb hb=>bl b hb (h1.2 b hb)) ii (ip.2.2.2.trans hn) (ip.2.2.1.trans hv) (by rw[ip.1];exact iW) (by rw[ip.1];exact mK);exact⟨this.1,gi.trans this.2⟩
  rw[so qN];by_cases qS:(nd t k).kind=11
  .rw[Fk qS]
   obtain⟨l1,l2,l3,l4⟩:=iT.cond qS;have k0:=(kx _ (a1E (i:=0) oJ)).2;have m1:=a1E (x:=nd t k) (i:=1) oJ;have i1:=a3D (node:=k) (a5X h) (a6A (.inl rfl) (aq:=aq) (to:=p.ah) (GK iW) (GD _) k0 l2);have g1:=(a6y p).trans (a3F p.place aq p.ah 4 k ((nd t k).aE 0:Nat) (-1) (-1));have s1:=a7S (b:=(nd t k).aE 1) (aq:=p.ah) (to:=to) (bl _ m1 l3) i1 hn hv (GD _) (GK mK);generalize a1g t (X5 t ch f) (p.place.put aq p.ah 4 k ((nd t k).aE 0:Nat) (-1) (-1)) ((nd t k).aE 1) p.ah to=q at *;have g2:=g1.trans s1.2;have:=g2.ah;split
   .exact⟨a3D s1.1 (a6A (.inr rfl) oJ oJ k0 l2),g2.trans (a3F _ _ _ _ _ _ _ _)⟩
   .have Cv:(nd t k).kids.length=3:=oJ
    have m2:=a1E (x:=nd t k) (i:=2) oJ;have ky:q.place.ah=q.ah+1:=rfl;have i2:=a3D (node:=k) (a5X s1.1) (a6A (.inr rfl) (aq:=aq) (to:=q.ah) oJ (GD _) k0 l2);have g3:=(g2.trans (a6y _)).trans (a3F _ aq q.ah 5 k ((nd t k).aE 0:Nat) (-1) (-1));have s2:=a7S (b:=(nd t k).aE 2) (aq:=q.ah) (to:=to) (bl _ m2 (l4 Cv)) i2 (g3.names.trans hn) (g3.vars.trans hv) (GD _) (by show to<q.ah+1;omega);exact⟨s2.1,g3.trans s2.2⟩
  rw[so qS];by_cases qP:(nd t k).kind=12
  .rw[Fk qP]
   obtain⟨l1,l2,l3⟩:=iT.loop qP;have k0:=(kx _ (a1E (i:=0) oJ)).2;have m1:=a1E (x:=nd t k) (i:=1) oJ;have i1:=a3D (node:=k) (a5X h) (a6A (.inl rfl) (aq:=aq) (to:=p.ah) (GK iW) (GD _) k0 l2);have i2:=a3D (node:=k) i1 (a6A (.inr rfl) (aq:=aq) (to:=to) (GK iW) (GK mK) k0 l2);have g1:=((a6y p).trans (a3F p.place aq p.ah 4 k ((nd t k).aE 0:Nat) (-1) (-1))).trans (a3F _ aq to 5 k ((nd t k).aE 0:Nat) (-1) (-1));have s1:=a8e (node:=(nd t k).aE 1) (aq:=p.ah) (to:=aq) (bl _ m1 l3) i2 hn hv (GD _) (GK iW);exact⟨s1.1,g1.trans s1.2⟩
  rw[so qP];by_cases qM:(nd t k).kind=13
  .rw[Fk qM]
   obtain⟨l1,l2⟩:=iT.atom qM;have m0:=a1E (x:=nd t k) (i:=0) oJ;have s1:=a8e (node:=(nd t k).aE 0) (aq:=aq) (to:=to) (bl _ m0 l2) h hn hv iW mK;obtain⟨l,hl⟩:=s1.2.ai;refine⟨⟨s1.1.two,s1.1.rest,λe he=>?_⟩,⟨s1.2.name,s1.2.copy,s1.2.locals,s1.2.names,s1.2.vars,s1.2.ah,l.map λe=>{ e with aG:=e.to != to&&e.to != 1 },?_⟩⟩
   .obtain⟨e',h',b,rfl⟩:=c9l he
    have:=s1.1.ed e' h';exact⟨this.f,this.to,this.act,this.gZ,this.eQ,this.v1,this.v0,this.c1,this.c0⟩
   .show a3h _ _ (a1g t (X5 t ch f) p ((nd t k).aE 0) aq to).ai=p.ai++l.map λe=>{ e with aG:=e.to != to&&e.to != 1 }
    unfold a3h a1g;rw[hl,Ke,Kf]
  rw[so qM];by_cases vj:(nd t k).kind=15
  .rw[Fk vj]
   exact⟨a3D h (b1c iW oJ),a3F _ _ _ _ _ _ _ _⟩
  simp_all[a3D,b1c,a3F]
def Fz(d:D):Prop:=∀g n,aK g (n+3) d=some d
variable{k:IntKind}
theorem U2{n:Int}:Fz (.int k n):=λ_ _=>rfl
theorem a1h{x:ByteArray}:Fz (.str x):=λ_ _=>rfl
variable{rows:List (List D)}
theorem FL.fz{sz:Nat}(h:FL sz d rows):Fz d:=λ_ _=>h.aK
theorem Z0.fz{d:D}{t:List Nd}(h:Z0 d t):Fz d:=h.fl.fz
theorem b6U{f:D->Option D}:∀{l:List D},(∀d∈l,f d=some d)->X8 f l=some l
 |[],_=>rfl
 |d::r,h=>by
  rw[X8,h d sJ,b6U λx hx=>h x (by simp[hx])]
variable{g:a0v}
theorem fz1{a:D}(ha:Fz a):X8 (V.aK g 20) [a]=some [a]:=by simp only[X8,ha g 17]
theorem Y7{a b:D}(ha:Fz a)(hb:Fz b):X8 (V.aK g 20) [a,b]=some [a,b]:=by simp only[X8,ha g 17,hb g 17]
theorem Y6{a b c:D}(ha:Fz a)(hb:Fz b)(hc:Fz c):X8 (V.aK g 20) [a,b,c]=some [a,b,c]:=by simp only[X8,ha g 17,hb g 17,hc g 17]
theorem gD{a b c d e:D}(ha:Fz a)(hb:Fz b)(hc:Fz c)(hd:Fz d)(he:Fz e):X8 (V.aK g 20) [a,b,c,d,e]=some [a,b,c,d,e]:=by simp only[X8,ha g 17,hb g 17,hc g 17,hd g 17,he g 17]
theorem b8d{l:List D}(h:∀d∈l,∀g n,aK g (n+2) d=some d):Fz (.agg l):=λg n=>by
 grind[V.aK,b6U]
theorem FL.ic{sz:Nat}(h:FL sz d rows):∀g n,V.aK g (n+2) d=some d:=λ_ _=>h.aK
variable{x:Nd}
theorem Nd.Ok.fz(h:x.Ok):Fz (.agg x.row):=b8d λd hd=>by
 simp only[Nd.row,Fi,FW,Hg]at hd;rcases hd with rfl|rfl|rfl|rfl|rfl
 .exact λ_ _=>rfl
 .exact FL.ic h.w
 .exact FL.ic h.n
 .exact FL.ic h.k
 .exact λ_ _=>rfl
theorem a77(h:i<x.kids.length):x.aE i=x.kids[i].toNat:=by simp[Nd.aE,List.getD,h]
theorem a8h(h:i<x.aI.length):x.num i=x.aI[i]:=by simp[Nd.num,List.getD,h]
theorem a6s(h:i<x.words.length):x.word i=x.words[i]:=by simp[Nd.word,List.getD,h]
theorem Z0.at(h:Z0 d t){z:Int}(h0:0<=z)(hl:z<(t.length:Int)):W7 5 d (.int k z)=some (.fp [.int .i64 (nd t z.toNat).kind,(nd t z.toNat).dw,(nd t z.toNat).dn,(nd t z.toNat).dk,.int .i64 (nd t z.toNat).pos] 0):=by
 have hz:=Gx h0;have:=h.idx (i:=z.toNat) oJ (k:=k);simp_all[b36]
theorem Z0.nd{d:D}{t:List Nd}(h:Z0 d t){i:Nat}(hi:i<t.length):(V.nd t i).Ok:=by rw[b36 hi];exact h.get hi
structure cu where
 i:Nat
 rd:Option Nat
 eff:List Nat
structure TrE(n:Nat)(e:cu)(t:Tr):Prop where
 i:t.idx=e.i
 rd:t.rd=e.rd
 ef:∀id,id∉e.eff->t.pre.get id=t.post.get id
 lt:∀id,e.rd=some id->id<n
def TrM(n:Nat)(T:List cu)(tr:List Tr):Prop:=∀t∈tr,(t.rd=none/\∀id,t.pre.get id=t.post.get id)\/∃e∈T,TrE n e t
variable{fs:FuncId->Option U4}
def WX(fs:FuncId->Option U4)(af:List (Nat×Nat))(T:List cu)(ops:List (Nat×a0f))(env:k6)(s:k4)(Q:k6->k4->Prop):Prop:=∀tr,TrM s.next T tr->WO fs af ops tr env s Q
theorem vw_rgx{vars ops p af dr env s Q}(h:WX fs (p::af) [] ops env s λiO s'=>Q .normal (iO.aG vars) s'):WP fs vars (.region ⟨ops,p::af,dr⟩) env s Q:=b4k (h [] (by simp[TrM]))
theorem b1K{a b:k4}{r:Option Nat}(h:∀id,r=some id->a.get id=b.get id):a2s a b r=true:=by
 cases r with
 |none=>rfl
 |some id=>simp only[a2s];rw[h id rfl];exact b1i _
def Free(af:List (Nat×Nat))(T:List cu)(i:Nat)(r:Option Nat)(E:List Nat):Prop:=∀e∈T,(e.i,i)∈af->(∀id,e.rd=some id->id∉E)/\∀id,r=some id->id∉e.eff
theorem b4w{af:List (Nat×Nat)}{T:List cu}{n:Nat}{j:Tr}{E:List Nat}(hE:∀id,id∉E->j.pre.get id=j.post.get id)(hf:Free af T j.idx j.rd E):∀{tr:List Tr},TrM n T tr->a1D af j tr=true
 |[],_=>rfl
 |t::r,h=>by
  have ih:=b4w hE hf (tr:=r) λx hx=>h x (by simp[hx])
  rcases h t sJ with⟨k1,k2⟩|⟨e,he,k⟩
  .have s1:a2s j.pre j.post t.rd=true:=by rw[k1];rfl
   have s2:a2s t.pre t.post j.rd=true:=b1K λid _=>k2 id
   simp only[a1D,s1,s2,GC,JD,Gd,ih]
  by_cases hc:(t.idx,j.idx)∈af
  .rw[k.i]at hc
   obtain⟨f1,f2⟩:=hf e he hc;have s1:=b1K λid jb=>hE id (f1 id (by rw[<- k.rd];exact jb))
   have s2:=b1K λid jb=>k.ef id (f2 id jb)
   simp only[a1D,s1,s2,GC,JD,Gd,ih]
  simp_all[a1D]
variable{T:List cu}
theorem TrM.grow{m:Nat}{tr:List Tr}(h:TrM n T tr)(hm:n<=m)(e:cu):TrM m (e::T) tr:=λt ht=>by
 rcases h t ht with k|⟨e',h1,h2⟩
 .exact .inl k
 .exact .inr ⟨e',by simp[h1],h2.i,h2.rd,h2.ef,λid jb=>Gq (h2.lt id jb) hm⟩
variable{E:List Nat}
theorem b4T{af T i o rest env s Q}(hw:a2v env o.guard=some true){d s'}(m:Nat)(hr:a0y (a2H fs (a0q fs m)) env s o.op=some (d,s'))(hE:∀id,id∉E->s.get id=s'.get id)(hn:s.next<=s'.next)(hl:∀id,a1O env o.op=some id->id<s.next)(hf:Free af T i (a1O env o.op) E)
 (h:WX fs af (⟨i,a1O env o.op,E⟩::T) rest (env.put o.dst d) s' Q):WX fs af T ((i,o)::rest) env s Q:=by
 intro tr ht;refine a42 hw m hr (b4w (j:=⟨i,a1O env o.op,s,s'⟩) hE hf ht) (h _ ?_);split
 .exact ht.grow hn _
 .intro t hm
  rcases Fi.1 hm with rfl|hm
  .exact .inr ⟨⟨i,a1O env o.op,E⟩,sJ,rfl,rfl,hE,λid jb=>Gq (hl id jb) hn⟩
  .exact ht.grow hn _ t hm
theorem c9d{af:List (Nat×Nat)}:Free af T i none []:=λe _ _=>⟨sJ,sJ⟩
theorem b4h{af T i o rest env s Q}(hw:a2v env o.guard=some true){d}(m:Nat)(hr:a0y (a2H fs (a0q fs m)) env s o.op=some (d,s))(hn:a1O env o.op=none)(h:WX fs af T rest (env.put o.dst d) s Q):WX fs af T ((i,o)::rest) env s Q:=by
 intro tr ht;refine a42 hw m hr (b4w (E:=[]) (λ_ _=>rfl) (by grind[c9d]) ht) (h _ ?_);split
 .exact ht
 .intro t hm
  rcases Fi.1 hm with rfl|hm
  .grind
  .exact ht t hm
theorem wx_nil{af T env s Q}(h:Q env s):WX fs af T [] env s Q:=λ_ _=>c03 h
theorem c1z{af T i o rest env s Q}(hw:a2v env o.guard=some false)(h:WX fs af T rest (env.put o.dst (.aT [])) s Q):WX fs af T ((i,o)::rest) env s Q:=λtr ht=>b88 hw (h tr ht)
variable{env:k6}
theorem wx_p{af T i t o rest s Q}(hr:bY env o=some d)(h:WX fs af T rest ((t,d)::env) s Q):WX fs af T ((i,⟨some t,.p o,none⟩)::rest) env s Q :=
 b4h rfl 0 (by grind[a0y]) rfl h
variable{cs:List D}
theorem wx_fp{af T i t n x rest s Q}{off:Nat}(hx:env.ev x=.fp cs off)(hr:bF s.get n (.fp cs off)=some d)(h:WX fs af T rest ((t,d)::env) s Q):WX fs af T ((i,⟨some t,.r (.load n x),none⟩)::rest) env s Q :=
 b4h rfl 0 (by grind[a0y,b0u]) (by grind[a1O,gT]) h
theorem wx_ld{af T i t n x rest s Q}{id off:Nat}(hx:env.ev x=.ptr id off)(hr:bF s.get n (.ptr id off)=some d)(hf:∀e∈T,(e.i,i)∈af->id∉e.eff)(h:WX fs af (⟨i,some id,[]⟩::T) rest ((t,d)::env) s Q):WX fs af T ((i,⟨some t,.r (.load n x),none⟩)::rest) env s Q:=by
 have nO:a1O env (.r (.load n x))=some id:=by grind[a1O,gT]
 have jq:id<s.next:=by
  simp only[bF]at hr;cases hg:s.get id with
  |none=>grind
  |some o=>exact t3 hg
 refine b4T (E:=[]) rfl 0 (d:=d) (s':=s) (by grind[a0y,b0u]) (λ_ _=>rfl) (sm _) ?_ ?_ ?_
 .grind
 .simp only[nO]
  intro e he hp;grind
 .simp only[nO];exact h
variable{ob:Z7}
theorem wx_a{af T i t o rest s Q}{m:a0n}(hr:eO env o=some (ob,m))(h:WX fs af (⟨i,none,[s.next]⟩::T) rest ((t,m.at s.next)::env) (s.push ob) Q):WX fs af T ((i,⟨some t,.a o,none⟩)::rest) env s Q:=by
 intro tr ht;have hE:∀id,id∉[s.next]->s.get id=(s.push ob).get id:=λid jb=>by
  rw[k4.aO,so (sU jb)]
 refine a42 rfl 0 (d:=m.at s.next) (s':=s.push ob) (by grind[a0y]) ?_ (h _ ?_)
 .have key:∀{tr:List Tr},TrM s.next T tr->a1D af ⟨i,none,s,s.push ob⟩ tr=true:=by
   intro tr;induction tr with
   |nil=>intro _;rfl
   |cons x r ih =>
    intro hx;have ih:=ih λy hy=>hx y (by simp[hy])
    have s1:a2s s (s.push ob) x.rd=true:=by
     rcases hx x sJ with⟨k1,_⟩|⟨e,_,k⟩
     .rw[k1];rfl
     .refine b1K λid jb=>hE id ?_
      have:=k.lt id (by rw[<- k.rd];exact jb);simp only[Fu];omega
    have s2:a2s x.pre x.post none=true:=rfl;simp_all[a1D]
  exact key ht
 .have hn:s.next<=(s.push ob).next:=sJ
  split
  .exact ht.grow hn _
  .intro x hm
   rcases Fi.1 hm with rfl|hm
   .exact .inr ⟨⟨i,none,[s.next]⟩,sJ,rfl,rfl,hE,sJ⟩
   .exact ht.grow hn _ x hm
theorem wx_w{af T i n a v rest s Q}{id off:Nat}(hx:env.ev a=.ptr id off)(hr:ei env s.get n a v=some (id,ob))(hf:∀e∈T,(e.i,i)∈af->e.rd≠some id/\id∉e.eff)(h:WX fs af (⟨i,some id,[id]⟩::T) rest env (s.set id (some ob)) Q):WX fs af T ((i,⟨none,.w n a v,none⟩)::rest) env s Q:=by
 have nO:a1O env (.w n a v)=some id:=by grind[a1O,rdW]
 have jq:id<s.next:=by
  simp only[ei,hx]at hr;cases hg:s.get id with
  |none=>grind
  |some o=>exact t3 hg
 refine b4T (E:=[id]) rfl 0 (d:=.aT []) (s':=s.set id (some ob)) (by grind[a0y]) (λj hj=>by rw[Y8 (sU hj)]) sJ ?_ ?_ ?_
 .grind
 .simp only[nO]
  intro e he hp;grind
 .simp only[nO];exact h
variable{s':k4}
theorem b1Y{af T i t o rest s Q}(hr:∃n,cO (a2H fs (a0q fs n)) env s o=some (d,s'))(hE:∀id,id∉E->s.get id=s'.get id)(hn:s.next<=s'.next)(hf:∀e∈T,(e.i,i)∈af->∀id,e.rd=some id->id∉E)
 (h:WX fs af (⟨i,none,E⟩::T) rest ((t,d)::env) s' Q):WX fs af T ((i,⟨some t,.m o,none⟩)::rest) env s Q:=by
 obtain⟨n,mz⟩:=hr;refine b4T (E:=E) rfl n (d:=d) (s':=s') (by assumption) hE hn (by simp[a1O]) (λe he hp=>⟨hf e he hp,by simp[a1O]⟩) h
variable{l:List D}
theorem wx_iso{af T i t f args rest s Q}{l':List D}{r:D}{s1:k4}(hl:env.aR args=l)(ha:X8 (aK s.get 20) l=some l')
 (hr:Ev fs f l' k4.empty r s1)(hi:aK s1.get 20 r=some d)(hs:(a2B d||aM l)=true)
 (h:WX fs af T rest ((t,d)::env) s Q):WX fs af T ((i,⟨some t,.m (.call .gu (.aL (.fn f [])) args),none⟩)::rest) env s Q:=by
 subst hl;obtain⟨n,hn⟩:=hr;have mz:a2H fs (a0q fs n) f l' k4.empty=some (r,s1):=hn;exact b4h rfl n (by simp_all[a0y,cO,a3c,k6.ev]) rfl h
def a5L(w:Nat->Nat×Bool)(len:Nat):List Int->Nat->Nat×Bool
 |[],next=>(next,true)
 |k::ks,next=>if k≠(next:Int)\/len<=next then(next,false)else if(w next).2 then a5L w len ks (w next).1 else((w next).1,false)
def a0z(t:List Nd):Nat->Nat->Nat×Bool
 |0,i=>(i,false)
 |f+1,i=>a5L (a0z t f) t.length (nd t i).kids (i+1)
structure Sub(t:List Nd)(i n:Nat):Prop where
 lt:i<n
 le:n<=t.length
 down:∀j,i<=j->j<n->∀k∈(nd t j).kids,(j:Int)<k/\k<(n:Int)
 up:∀j,i<j->j<n->∃p,i<=p/\p<n/\(j:Int)∈(nd t p).kids
def a1W(t:List Nd):List Int->Nat->Nat->Prop
 |[],a,n=>a=n
 |k::ks,a,n=>k=(a:Int)/\∃b,Sub t a b/\a1W t ks b n
theorem a1W.le{t:List Nd}:∀{ks:List Int}{a n:Nat},a1W t ks a n->a<=n
 |[],a,n,h=>Nat.le_of_eq h
 |k::ks,a,n,h=>by
  obtain⟨_,b,h1,h2⟩:=h;have:=h1.lt;have:=h2.le;omega
theorem a1W.down{t:List Nd}:∀{ks:List Int}{a n:Nat},a1W t ks a n->∀j,a<=j->j<n->∀k∈(nd t j).kids,(j:Int)<k/\k<(n:Int)
 |[],a,n,h,j,h1,h2=>by grind[a1W]
 |k::ks,a,n,h,j,h1,h2=>by
  obtain⟨_,b,h3,h4⟩:=h;have:=h4.le;by_cases hj:j<b
  .intro x hx
   have:=h3.down j h1 hj x hx;omega
  .exact h4.down j oJ h2
theorem a1W.up{t:List Nd}:∀{ks:List Int}{a n:Nat},a1W t ks a n->∀j,a<=j->j<n->(j:Int)∈ks\/∃p,a<=p/\p<n/\(j:Int)∈(nd t p).kids
 |[],a,n,h,j,h1,h2=>by grind[a1W]
 |k::ks,a,n,h,j,h1,h2=>by
  obtain⟨rfl,b,h3,h4⟩:=h;have:=h4.le;have:=h3.lt;by_cases hj:j<b
  .by_cases ha:j=a
   .grind
   .obtain⟨p,p1,p2,p3⟩:=h3.up j oJ hj
    grind
  .rcases h4.up j oJ h2 with h|⟨p,p1,p2,p3⟩
   .exact .inl (by simp[h])
   grind
theorem a1W.mem{t:List Nd}:∀{ks:List Int}{a n:Nat},a1W t ks a n->∀k∈ks,(a:Int)<=k/\k<(n:Int)
 |[],a,n,h=>by simp
 |k::ks,a,n,h=>by
  obtain⟨rfl,b,h3,h4⟩:=h;have:=h4.le;have:=h3.lt;intro x hx;rcases Fi.1 hx with rfl|hx
  .omega
  .have:=h4.mem x hx
   omega
theorem sub_of(h:a1W t (nd t i).kids (i+1) n)(hn:n<=t.length):Sub t i n:=by
 have hl:=h.le;refine⟨oJ,hn,λj h1 h2=>?_,λj h1 h2=>?_⟩
 .by_cases hj:j=i
  .subst hj
   intro k hk;have:=h.mem k hk;omega
  .exact h.down j oJ h2
 .rcases h.up j oJ h2 with h|⟨p,p1,p2,p3⟩
  .exact⟨i,oJ,oJ,h⟩
  grind
theorem c0R{t:List Nd}{w:Nat->Nat×Bool}(hw:∀i n,i<t.length->w i=(n,true)->Sub t i n):∀{ks:List Int}{next n:Nat},next<=t.length->a5L w t.length ks next=(n,true)->a1W t ks next n/\n<=t.length
 |[],next,n,hl,h=>by
  simp only[a5L,Iq,and_true]at h;subst h;exact⟨rfl,hl⟩
 |k::ks,next,n,hl,h=>by
  unfold a5L at h;split at h
  .simp at h
  .rename_i hc
   split at h
   .rename_i ht
    have hk:k=(next:Int)/\next<t.length:=oJ;have a:=hw next (w next).1 hk.2 (by rw[<- ht]);obtain⟨b1,b2⟩:=c0R hw a.le h;exact⟨⟨hk.1,_,a,b1⟩,b2⟩
   .simp at h
theorem a6I{t:List Nd}:∀(f:Nat){i n:Nat},i<t.length->a0z t f i=(n,true)->Sub t i n/\a1W t (nd t i).kids (i+1) n
 |0,i,n,_,h=>by simp[a0z]at h
 |f+1,i,n,hi,h=>by
  obtain⟨a1,a2⟩:=c0R (λi n hi h=>(a6I f hi h).1) oJ h;grind[sub_of]
theorem b77{t:List Nd}{w:Nat->Nat×Bool}(hw:∀i,i<t.length->(w i).1<=t.length):∀{ks:List Int}{next:Nat},next<=t.length->(a5L w t.length ks next).1<=t.length
 |[],next,h=>h
 |k::ks,next,h=>by
  unfold a5L;split
  .exact h
  .rename_i hc
   split
   .exact b77 hw (hw next oJ)
   .grind
theorem c0Q{t:List Nd}:∀(f:Nat){i:Nat},i<t.length->(a0z t f i).1<=t.length
 |0,i,h=>JM h
 |f+1,i,h=>b77 (λi hi=>c0Q f hi) oJ
structure Y9(t:List Nd):Prop where
 ok:a2a t
 cP:a1W t (nd t 0).kids 1 t.length
 walk:a0z t 20 0=(t.length,true)
def a43:List Int->Nat->Nat->Nat
 |[],_,out=>out
 |k::ks,i,out=>a43 ks i (if k<=(i:Int)then k.toNat else out)
def item(t:List Nd)(i:Nat):Nat:=a43 (nd t 0).kids i 0
theorem b3f{ks:List Int}{out:Nat}(h:∀k∈ks,(i:Int)<k):a43 ks i out=out:=by
 induction ks generalizing out with
 |nil=>rfl
 |cons k ks ih =>
  simp_all[a43,so]
theorem b7j{t:List Nd}:∀{ks:List Int}{a n i out:Nat},a1W t ks a n->a<=i->i<n->∃b,(a43 ks i out:Int)∈ks/\Sub t (a43 ks i out) b/\a43 ks i out<=i/\i<b
 |[],a,n,i,out,h,h1,h2=>by grind[a1W]
 |k::ks,a,n,i,out,h,h1,h2=>by
  obtain⟨rfl,b,h3,h4⟩:=h;unfold a43;rw[Fk oJ];by_cases hb:i<b
  .rw[b3f λx hx=>by have:=h4.mem x hx;omega]
   grind
  .obtain⟨c,c1,c2,c3,c4⟩:=b7j (out:=(a:Int).toNat) h4 oJ h2
   grind
theorem c3C(h:Y9 t)(h1:1<=i)(h2:i<t.length):∃b,(item t i:Int)∈(nd t 0).kids/\Sub t (item t i) b/\item t i<=i/\i<b:=b7j h.cP h1 h2
theorem a7L(h:Y9 t){x:Nat}(hx:(x:Int)∈(nd t 0).kids):item t x=x:=by
 have hm:=h.cP.mem _ hx;have key:∀{ks:List Int}{a n out:Nat},a1W t ks a n->(x:Int)∈ks->a43 ks x out=x:=by
  intro ks;induction ks with
  |nil=>simp
  |cons k ks ih =>
   intro a n out hs hx;obtain⟨rfl,b,h3,h4⟩:=hs;unfold a43;rcases Fi.1 hx with hx|hx
   .rw[Fk oJ,b3f λy hy=>by have:=h4.mem y hy;have:=h3.lt;omega]
    omega
   .exact ih h4 hx
 exact key h.cP hx
theorem b79(h:Y9 t){x i:Nat}(hx:(x:Int)∈(nd t 0).kids):∃b,Sub t x b/\b<=t.length/\∀i,x<=i->i<b->item t i=x:=by
 have key:∀{ks:List Int}{a n:Nat},a1W t ks a n->(x:Int)∈ks->∃b,Sub t x b/\b<=n/\∀i out,x<=i->i<b->a43 ks i out=x:=by
  intro ks;induction ks with
  |nil=>simp
  |cons k ks ih =>
   intro a n hs hx;obtain⟨rfl,b,h3,h4⟩:=hs;have hl:=h4.le;rcases Fi.1 hx with hx|hx
   .obtain rfl:x=a:=oJ
    refine⟨b,h3,hl,λi out h1 h2=>?_⟩;unfold a43;rw[Fk oJ,b3f λy hy=>by have:=h4.mem y hy;omega];omega
   .obtain⟨c,c1,c2,c3⟩:=ih h4 hx
    exact⟨c,c1,c2,λi out h1 h2=>c3 i _ h1 h2⟩
 obtain⟨b,b1,b2,b3⟩:=key h.cP hx;exact⟨b,b1,b2,λi h1 h2=>b3 i 0 h1 h2⟩
def a3I(t:List Nd)(kind:Int)(aF:Nat)(s:ByteArray):Prop:=∃i,i<aF/\(nd t i).kind=kind/\(item t i=i\/item t i=item t aF)/\(nd t i).word 0=s
def a1L(t:List Nd)(aF:Nat)(kind:Int):Nat->List ByteArray
 |0=>[]
 |i+1=>if(nd t i).kind=kind/\(item t i=i\/item t i=item t aF)/\eP (a1L t aF kind i) ((nd t i).word 0)=false then a1L t aF kind i++[(nd t i).word 0]else a1L t aF kind i
theorem b8E{t:List Nd}{aF:Nat}{kind:Int}{s:ByteArray}:∀{n:Nat},s∈a1L t aF kind n↔∃i,i<n/\(nd t i).kind=kind/\(item t i=i\/item t i=item t aF)/\(nd t i).word 0=s
 |0=>by simp[a1L]
 |n+1=>by
  have ih:=b8E (t:=t) (aF:=aF) (kind:=kind) (s:=s) (n:=n);grind[a1L,eP]
structure a3g(t:List Nd):Prop where
 use:∀i,i<t.length->(nd t i).kind=6\/(nd t i).kind=18->a3I t 2 i ((nd t i).word 0)
 chan:∀i,i<t.length->(nd t i).kind=7\/(nd t i).kind=19\/(nd t i).kind=8->a3I t 1 i ((nd t i).word 0)
 recv:∀i,i<t.length->(nd t i).kind=8->a3I t 2 i ((nd t i).word 1)
 once:∀i,i<t.length->(nd t i).kind=1\/(nd t i).kind=2\/(nd t i).kind=3->¬a3I t 1 i ((nd t i).word 0)/\¬a3I t 2 i ((nd t i).word 0)/\¬a3I t 3 i ((nd t i).word 0)
def KF(t:List Nd)(g:Nat)(ks:List Int)(a n:Nat):Prop:=a5L (a0z t g) t.length ks a=(n,true)
variable{g:Nat}
theorem KF.cons{z:Int}{zs:List Int}{a n:Nat}(h:KF t g (z::zs) a n):z=(a:Int)/\a<t.length/\∃b,a0z t g a=(b,true)/\a<b/\b<=t.length/\KF t g zs b n:=by
 unfold KF a5L at h;split at h
 .simp at h
 .rename_i hc
  split at h
  .rename_i ht
   have ha:a<t.length:=oJ;have hw:a0z t g a=((a0z t g a).1,true):=by rw[<- ht]
   have hs:=(a6I g ha hw).1;exact⟨oJ,ha,(a0z t g a).1,hw,hs.lt,hs.le,h⟩
  .simp at h
theorem KF.nil{a n:Nat}(h:KF t g [] a n):n=a:=by
 simp_all[KF,a5L]
theorem KF.le{t:List Nd}{g:Nat}:∀{ks:List Int}{a n:Nat},KF t g ks a n->a<=n
 |[],a,n,h=>by have:=h.nil;omega
 |z::zs,a,n,h=>by
  obtain⟨_,_,b,_,h1,_,h2⟩:=h.cons;have:=h2.le;omega
variable{k:Nat}
theorem a4P(h:a0z t g k=(n,true)):∃g',g=g'+1/\KF t g' (nd t k).kids (k+1) n:=by
 cases g with
 |zero=>simp[a0z]at h
 |succ g=>exact⟨g,rfl,h⟩
structure Gw(p q:Pr)(n:Nat):Prop where
 pl:q.ah<=p.ah+n
 rl:q.rest.length<=p.rest.length+n
 el:q.ai.length<=p.ai.length+n
theorem Gw.refl(p:Pr):Gw p p 0:=⟨sm _,sm _,sm _⟩
theorem Gw.trans{p q r:Pr}{a b:Nat}(h:Gw p q a)(k:Gw q r b):Gw p r (a+b):=⟨by have:=h.pl;have:=k.pl;omega,by have:=h.rl;have:=k.rl;omega,by have:=h.el;have:=k.el;omega⟩
variable{q:Pr}
theorem Gw.le{a b:Nat}(h:Gw p q a)(k:a<=b):Gw p q b:=⟨by have:=h.pl;omega,by have:=h.rl;omega,by have:=h.el;omega⟩
theorem a3r(p:Pr)(aq to act node:Nat)(expr v c:Int):Gw p (p.put aq to act node expr v c) 1:=⟨by simp[Pr.put],by simp[Pr.put],by simp[Pr.put]⟩
theorem a6e(p:Pr):Gw p p.place 1:=⟨by simp[Pr.place],by simp[Pr.place],by simp[Pr.place]⟩
theorem b2u(p:Pr)(n:Nat)(is:Int):Gw p (p.idle n is) 0:=by
 unfold Pr.idle;split
 .exact⟨sm _,sJ,sm _⟩
 .exact Gw.refl p
def hD(t:List Nd)(st:Pr->Nat->Nat->Nat->Pr)(k:Nat):Prop:=∀g n,a0z t g k=(n,true)->∀p aq to,Gw p (st p k aq to) (4*(n-k)-1)
theorem b5H{t:List Nd}{st:Pr->Nat->Nat->Nat->Pr}{node g:Nat}:∀{ks:List Int}{a n:Nat}{p:Pr}{aq to:Nat},KF t g ks a n->(∀k∈ks.map Int.toNat,hD t st k)->Gw p (a3C st node p (ks.map Int.toNat) aq to) (4*(n-a)+1)
 |[],a,n,p,aq,to,h,_=>(a3r _ _ _ _ _ _ _ _).le oJ
 |[z],a,n,p,aq,to,h,hs=>by
  obtain⟨rfl,h1,b,h2,h3,h4,h5⟩:=h.cons;obtain rfl:=h5.nil;exact(hs _ sJ g n (sU h2) p aq to).le qJ
 |z::z'::zs,a,n,p,aq,to,h,hs=>by
  obtain⟨rfl,h1,b,h2,h3,h4,h5⟩:=h.cons;have hle:=h5.le;have s1:=hs ((a:Int).toNat) sJ g b (sU h2) p.place aq p.ah;have s2:=b5H (st:=st) (node:=node) (p:=st p.place (a:Int).toNat aq p.ah) (aq:=p.ah) (to:=to) h5 (λk hk=>hs k (by grind));exact(((a6e p).trans s1).trans s2).le qJ
theorem a5S{t:List Nd}{st:Pr->Nat->Nat->Nat->Pr}{g b n:Nat}{aq:Nat}(hb:b<t.length)(h:a0z t g b=(n,true))(hs:∀k∈(nd t b).ks,hD t st k):Gw p (a1g t st p b aq to) (4*(n-b)-3):=by
 obtain⟨g',rfl,hk⟩:=a4P h;have:=hk.le;exact(b5H hk hs).le oJ
theorem b8b{t:List Nd}{st:Pr->Nat->Nat->Nat->Pr}{aq to g:Nat}:∀{ks:List Int}{a n:Nat}{p:Pr},KF t g ks a n->(∀b∈ks.map Int.toNat,∀k∈(nd t b).ks,hD t st k)->Gw p (a1X t st aq to p (ks.map Int.toNat)) (4*(n-a))
 |[],a,n,p,h,_=>(Gw.refl p).le oJ
 |z::zs,a,n,p,h,hs=>by
  obtain⟨rfl,h1,b,h2,h3,h4,h5⟩:=h.cons;have hle:=h5.le;have Em:∀k∈(nd t a).ks,hD t st k:=by grind
  rw[FJ,a1X];simp only[an];have key:∀q,Gw p q (4*(b-a)-1)->Gw p (a1X t st aq to q (zs.map Int.toNat)) (4*(n-a)):=λq hq=>(hq.trans (b8b h5 λb hb=>hs b (by grind))).le oJ
  split
  .exact key _ ((((a6e p).trans (a3r p.place aq p.ah 0 a (-1) (-1) (-1))).trans (a5S h1 h2 Em)).le oJ)
  .exact key _ ((a5S h1 h2 Em).le oJ)
theorem b28{t:List Nd}(ht:a2a t)(ch:List ByteArray):∀(f k:Nat),k<t.length->a5M (nd t k).kind->t.length-k<f->hD t (X5 t ch f) k
 |0,k,_,_,h=>by omega
 |f+1,k,hk,jZ,hf=>by
  intro g n hw p aq to;have jo:=(a6I g hk hw).1;have jq:=jo.lt;have hle:=jo.le;obtain⟨g',rfl,jg⟩:=a4P hw;have iT:=ht.node k hk;have kx:=ht.ks hk;have bl:=λb hb jY x hx=>by
   have h1:=kx b hb;have h2:=ht.ks h1.2 x hx;exact b28 ht ch f x h2.2 ((ht.node b h1.2).block jY x hx) oJ
  have one:∀q:Pr,Gw p q 1->Gw p q (4*(n-k)-1):=λq h=>h.le oJ
  unfold X5;simp only;by_cases c6:(nd t k).kind=6
  .rw[Fk c6];exact one _ (a3r _ _ _ _ _ _ _ _)
  rw[so c6];by_cases c7:(nd t k).kind=7
  .rw[Fk c7];exact one _ (a3r _ _ _ _ _ _ _ _)
  rw[so c7];by_cases c8:(nd t k).kind=8
  .rw[Fk c8];exact one _ (((b2u _ _ _).trans (a3r _ _ _ _ _ _ _ _)).le oJ)
  rw[so c8];by_cases c9:(nd t k).kind=9
  .rw[Fk c9];exact one _ (((b2u _ _ _).trans (a3r _ _ _ _ _ _ _ _)).le oJ)
  rw[so c9];by_cases qN:(nd t k).kind=10
  .rw[Fk qN]
   have h1:=iT.choose qN;exact((b2u _ _ _).trans (b8b jg λb hb=>bl b hb (h1.2 b hb))).le oJ
  rw[so qN];by_cases qS:(nd t k).kind=11
  .rw[Fk qS]
   obtain⟨l1,l2,l3,l4⟩:=iT.cond qS;match kC:(nd t k).kids,l1,jg with
   |[z0,z1],_,jg =>
    obtain⟨e0,_,b0,_,s0,_,jg⟩:=jg.cons;obtain⟨e1,q1,b1,w1,s1,_,jg⟩:=jg.cons;have:=jg.nil;have k1:(nd t k).aE 1=b0:=by simp[Nd.aE,kC,e1]
    have m1:b0∈(nd t k).ks:=by simp[Nd.ks,kC,e1]
    rw[k1]at l3⊢;rw[Fk sJ];exact((((a6e p).trans (a3r _ _ _ _ _ _ _ _)).trans (a5S q1 w1 (bl _ m1 l3))).trans (a3r _ _ _ _ _ _ _ _)).le oJ
   |[z0,z1,z2],_,jg =>
    obtain⟨e0,_,b0,_,s0,_,jg⟩:=jg.cons;obtain⟨e1,q1,b1,w1,s1,_,jg⟩:=jg.cons;obtain⟨e2,q2,b2,w2,s2,_,jg⟩:=jg.cons;have:=jg.nil;have k1:(nd t k).aE 1=b0:=by simp[Nd.aE,kC,e1]
    have k2:(nd t k).aE 2=b1:=by simp[Nd.aE,kC,e2]
    have m1:b0∈(nd t k).ks:=by simp[Nd.ks,kC,e1]
    have m2:b1∈(nd t k).ks:=by simp[Nd.ks,kC,e2]
    have l4:=l4 (by rw[kC];rfl);rw[k1]at l3⊢;rw[k2]at l4⊢;rw[so sJ];exact((((((a6e p).trans (a3r _ _ _ _ _ _ _ _)).trans (a5S q1 w1 (bl _ m1 l3))).trans (a6e _)).trans (a3r _ _ _ _ _ _ _ _)).trans (a5S q2 w2 (bl _ m2 l4))).le oJ
  rw[so qS];by_cases qP:(nd t k).kind=12
  .rw[Fk qP]
   obtain⟨l1,l2,l3⟩:=iT.loop qP;match kC:(nd t k).kids,l1,jg with
   |[z0,z1],_,jg =>
    obtain⟨e0,_,b0,_,s0,_,jg⟩:=jg.cons;obtain⟨e1,q1,b1,w1,s1,_,jg⟩:=jg.cons;have:=jg.nil;have k1:(nd t k).aE 1=b0:=by simp[Nd.aE,kC,e1]
    have m1:b0∈(nd t k).ks:=by simp[Nd.ks,kC,e1]
    rw[k1]at l3⊢;exact((((a6e p).trans (a3r _ _ _ _ _ _ _ _)).trans (a3r _ _ _ _ _ _ _ _)).trans (a5S q1 w1 (bl _ m1 l3))).le oJ
  rw[so qP];by_cases qM:(nd t k).kind=13
  .rw[Fk qM]
   obtain⟨l1,l2⟩:=iT.atom qM;match kC:(nd t k).kids,l1,jg with
   |[z0],_,jg =>
    obtain⟨e0,q0,b0,w0,s0,_,jg⟩:=jg.cons;have:=jg.nil;have k0:(nd t k).aE 0=k+1:=by simp[Nd.aE,kC,e0]
    have m0:k+1∈(nd t k).ks:=by simp[Nd.ks,kC,e0]
    rw[k0]at l2⊢;have h:=a5S (p:=p) (aq:=aq) (to:=to) q0 w0 (bl _ m0 l2);refine⟨FE h.pl oJ,FE h.rl oJ,?_⟩;have hl:∀(n to:Nat)(l:List Ed),(a3h n to l).length=l.length:=λn to l=>by
     unfold a3h;rw[Fq,FT,<- Fq,Hi]
    show(a3h _ _ _).length<=_
    rw[hl];exact FE h.el oJ
  rw[so qM];by_cases vj:(nd t k).kind=15
  .rw[Fk vj];exact one _ (a3r _ _ _ _ _ _ _ _)
  simp_all[a3r]
def SN(s:k4)(sz:Nat)(d:D)(rows:List (List D)):Prop:=(d=.ag/\rows=[])\/(∃id,d=.arr id 0 rows.length sz/\s.get id=some (.cells rows.flatten))\/d=.bu sz rows
variable{s:k4}
theorem SN.one{sz:Nat}(h:SN s sz d rows):V5 d=true:=by
 rcases h with⟨rfl,_⟩|⟨id,rfl,_⟩|rfl<;>rfl
theorem SN.stay{sz:Nat}(h:SN s sz d rows)(hf:Fr [] s s'):SN s' sz d rows:=by
 rcases h with h|⟨id,rfl,h⟩|h
 .exact .inl h
 .exact .inr (.inl ⟨id,rfl,by rw[hf.2 id (t3 h) sJ,h]⟩)
 .exact .inr (.inr h)
theorem SN.len{sz:Nat}(h:SN s sz d rows):a0x false d=some (.int .i64 (rows.length:Int)):=by
 rcases h with⟨rfl,rfl⟩|⟨id,rfl,_⟩|rfl<;>rfl
theorem SN.row{sz:Nat}{rows:List (List D)}(h:SN s sz d rows)(hr:∀r∈rows,r.length=sz):a1u s.get d=some rows.flatten/\a3z d=some rows.length/\a1V sz d=true:=by
 rcases h with⟨rfl,rfl⟩|⟨id,rfl,h⟩|rfl
 .exact⟨rfl,rfl,rfl⟩
 rotate_left
 .exact⟨rfl,rfl,by simp[a1V]⟩
 .refine⟨?_,rfl,by simp[a1V]⟩
  have hl:rows.flatten.length=rows.length*sz:=by
   clear h;induction rows with
   |nil=>simp
   |cons a r ih =>
    rw[GF,Fq,ih λx hx=>hr x (by simp[hx]),hr a sJ,Gt,HO];omega
  simp_all[a1u,Gk]
theorem a8u{sz:Nat}{rows:List (List D)}(hr:∀r∈rows,r.length=sz):rows.flatten.length=rows.length*sz:=by
 induction rows with
 |nil=>simp
 |cons a r ih =>
  grind
theorem a9i{sz bytes id:Nat}{bO rows:List (List D)}(h:s.get id=some (.cells bO.flatten))(ho:∀r∈bO,r.length=sz)(hd:SN s sz d rows)(hr:∀r∈rows,r.length=sz)(hb:bytes<=128)(hl:bO.length+rows.length<=2^30) :
 ∃d' s',a0e sz bytes (.arr id 0 bO.length sz) d s=some (d',s')/\∃jl,d'=.arr jl 0 (bO++rows).length sz/\s'.get jl=some (.cells (bO++rows).flatten)/\Fr [id] s s'/\(jl=id\/s.next<=jl):=by
 have b1:(bO.length+rows.length)*bytes<=2^45:=FE (GI hl hb) dJ;have b2:bO.length+rows.length<=2^45:=FE hl dJ;have b3:bytes<=2^20:=FE hb dJ;obtain⟨r1,r2,r3⟩:=hd.row hr;have hf:=a8u ho;by_cases hn:rows.length=0
 .obtain rfl:=Ge.1 hn
  refine⟨.arr id 0 bO.length sz,s,?_,id,sJ,sU h,Fr.refl _ _,.inl rfl⟩;simp_all[a0e]
 .refine⟨.arr s.next 0 (bO.length+rows.length) sz,(s.set id none).push (.cells (bO.flatten++rows.flatten)),?_,s.next,sJ,?_,(Fr.set _ sJ).ak _,.inr (sm _)⟩
  .simp_all[a0e]
  .rw[W8 sJ,Kp]
theorem a4z{i t sz bytes a x rest s Q}{da dx:D}{Φ:D->k4->Prop}(hr:∃d s',a0e sz bytes da dx s=some (d,s')/\Φ d s')(ha:env.ev a=da)(hx:env.ev x=dx)
 (h:∀d s',Φ d s'->WQ fs [] rest ((t,d)::env) s' Q):WQ fs [] ((i,⟨some t,.m (.append sz bytes a x),none⟩)::rest) env s Q:=by
 obtain⟨d,s',h1,h2⟩:=hr;exact b4p ha hx h1 (h d s' h2)
theorem SN.of{sz id n:Nat}(h:s.get id=some (.cells rows.flatten))(hn:rows.length=n):SN s sz (.arr id 0 n sz) rows:=.inr (.inl ⟨id,by rw[hn],h⟩)
theorem b0q:∀{sz:Nat}{rows:List (List D)},(∀r∈rows,r.length=sz)->∀{i f:Nat}(hi:i<rows.length),f<sz->rows.flatten[i*sz+f]?=rows[i][f]?
 |sz,[],_,i,f,hi,_=>by simp at hi
 |sz,a::r,hr,0,f,_,hf=>by
  grind
 |sz,a::r,hr,i+1,f,hi,hf=>by
  have ha:=hr a sJ;rw[GF,Jb (by grind),ha,show(i+1)*sz+f-sz=i*sz+f by grind];exact b0q (λx hx=>hr x (by simp[hx])) (sU hi) hf
theorem SN.iy{sz:Nat}{rows:List (List D)}(h:SN s sz d rows)(hr:∀r∈rows,r.length=sz)(hi:i<rows.length){c:D}(hc:(rows[i])[0]?=some c)(ho:V5 c=true)(hz:0<sz):∃p,W7 sz d (.int .i64 (i:Int))=some p/\bF s.get none p=some c/\∀id off,p=.ptr id off->id<s.next:=by
 rcases h with⟨_,rfl⟩|⟨id,rfl,hg⟩|rfl
 .simp at hi
 .refine⟨.ptr id (i*sz),?_,?_,?_⟩
  .simp only[W7]
   rw[Fk ⟨trivial,oJ,oJ⟩];simp
  .simp only[bF,hg,a2V]
   have:=b0q hr hi (f:=0) hz;rw[GN]at this;rw[this,hc];simp[ho]
  .rintro a b e
   cases e;exact t3 hg
 simp_all[W7,bF,a2V]
def a0i(l:List Nat):List (List D):=l.map λ(n:Nat)=>[.int .i64 (n:Int)]
def a0o(l:List Bool):List (List D):=l.map λb=>[.bool b]
def a1M(l:List ByteArray):List (List D):=l.map λx=>[.str x]
def a0O(l:List Ed):List (List D):=l.map Ed.row
theorem a5b(l:List Bool):∀r∈a0o l,r.length=1:=by intro r h;obtain⟨b,_,rfl⟩:=Fs.1 h;rfl
theorem a7v(l:List Ed):∀r∈a0O l,r.length=8:=by intro r h;obtain⟨b,_,rfl⟩:=Fs.1 h;rfl
@[simp] theorem b0f(l:List Bool):(a0o l).length=l.length:=by simp[a0o]
@[simp] theorem a6S(l:List Ed):(a0O l).length=l.length:=by simp[a0O]
theorem b8o(a b:List Bool):a0o (a++b)=a0o a++a0o b:=by simp[a0o]
theorem b9i(a b:List Ed):a0O (a++b)=a0O a++a0O b:=by simp[a0O]
structure X2 where
 dl:D
 dr:D
 de:D
 dn:D
 dv:D
def V0(p:Pr)(x:X2):List D:=[.str p.name,.int .i64 (p.copy:Int),x.dl,.int .i64 (p.ah:Int),x.dr,x.de,x.dn,x.dv]
structure Z5(s:k4)(p:Pr)(x:X2):Prop where
 l:SN s 1 x.dl (a0i p.locals)
 r:SN s 1 x.dr (a0o p.rest)
 e:SN s 8 x.de (a0O p.ai)
 n:SN s 1 x.dn (a1M p.names)
 v:SN s 1 x.dv (a0i p.vars)
theorem Z5.stay{s s':k4}{p:Pr}{x:X2}(h:Z5 s p x)(hf:Fr [] s s'):Z5 s' p x:=⟨h.l.stay hf,h.r.stay hf,h.e.stay hf,h.n.stay hf,h.v.stay hf⟩
theorem a4M(l:List Nat):∀r∈a0i l,r.length=1:=by intro r h;obtain⟨b,_,rfl⟩:=Fs.1 h;rfl
theorem b1D(l:List ByteArray):∀r∈a1M l,r.length=1:=by intro r h;obtain⟨b,_,rfl⟩:=Fs.1 h;rfl
@[simp] theorem a63(l:List Nat):(a0i l).length=l.length:=by simp[a0i]
@[simp] theorem b5I(l:List ByteArray):(a1M l).length=l.length:=by simp[a1M]
def a2Q(l:List Ch):List (List D):=l.map Ch.row
theorem b6C(l:List Ch):∀r∈a2Q l,r.length=5:=by intro r h;obtain⟨b,_,rfl⟩:=Fs.1 h;rfl
@[simp] theorem b0x(l:List Ch):(a2Q l).length=l.length:=by simp[a2Q]
structure X7 where
 dt:D
 dc:D
 dv:D
 dp:D
 ds:D
 g:Int
 b:Bool
def Z6(m:X7):List D:=[m.dt,.int .i64 m.g,m.dc,m.dv,m.dp,m.ds,.bool m.b]
structure a25(s:k4)(m:X7)(t:List Nd)(ch:List Ch):Prop where
 tr:Z0 m.dt t
 c:SN s 5 m.dc (a2Q ch)
 ov:V5 m.dv=true
 op:V5 m.dp=true
 os:V5 m.ds=true
theorem a25.stay{s s':k4}{m:X7}{t:List Nd}{ch:List Ch}(h:a25 s m t ch)(hf:Fr [] s s'):a25 s' m t ch:=⟨h.tr,h.c.stay hf,h.ov,h.op,h.os⟩
structure a0L(p:Pr)(n:Nat):Prop where
 pl:p.ah<=n
 rl:p.rest.length<=n
 el:p.ai.length<=n
def gF(fs:FuncId->Option U4)(af:List (Nat×Nat))(R:List Nat)(ops:List (Nat×a0f))(env:k6)(s:k4)(Q:k6->k4->Prop):Prop :=
 ∀tr:List Tr,(∀x∈tr,x.pre=x.post/\∀id,x.rd=some id->id∈R)->WO fs af ops tr env s Q
theorem b3E{vars ops p af dr env s Q}(h:gF fs (p::af) [] ops env s λiO s'=>Q .normal (iO.aG vars) s'):WP fs vars (.region ⟨ops,p::af,dr⟩) env s Q:=b4k (h [] sJ)
theorem b0h{R:List Nat}{af:List (Nat×Nat)}{tr:List Tr}{t:Tr}(h:∀x∈tr,x.pre=x.post/\∀id,x.rd=some id->id∈R)(ht:t.pre=t.post/\∀id,t.rd=some id->id∈R):∀x∈(if af.isEmpty then tr else t::tr),x.pre=x.post/\∀id,x.rd=some id->id∈R:=by
 grind
theorem wt_p{af R i t o rest s Q}(hr:bY env o=some d)(h:gF fs af R rest ((t,d)::env) s Q):gF fs af R ((i,⟨some t,.p o,none⟩)::rest) env s Q:=by
 intro tr ht;exact a42 rfl 0 (d:=d) (s':=s) (by grind[a0y]) (a7U rfl λt hm=>(ht t hm).1) (h _ (b0h ht ⟨rfl,by simp[a1O]⟩))
theorem b37{af R i t n x rest s Q}{id off:Nat}(hx:env.ev x=.ptr id off)(hr:dE env s.get (.load n x)=some d)(h:gF fs af (id::R) rest ((t,d)::env) s Q):gF fs af R ((i,⟨some t,.r (.load n x),none⟩)::rest) env s Q:=by
 intro tr ht;refine a42 rfl 0 (d:=d) (s':=s) (by simp only[a0y,hr,He]) (a7U rfl λt hm=>(ht t hm).1) (h _ (b0h (λy hy=>⟨(ht y hy).1,λid h=>IP _ ((ht y hy).2 id h)⟩) ⟨rfl,λj hj=>?_⟩));grind[a1O,gT]
variable{id:Nat}
theorem wt_w{af R i n a v rest s Q}(hr:ei env s.get n a v=some (id,ob))(jb:id∉R)(hp:(rest.all λo=>af.all λp=>p.2 != o.1)=true)(h:WQ fs [] rest env (s.set id (some ob)) Q):gF fs af R ((i,⟨none,.w n a v,none⟩)::rest) env s Q:=by
 intro tr ht;refine a42 rfl 0 (d:=.aT []) (s':=s.set id (some ob)) (by grind[a0y]) ?_ ?_
 .have key:∀{l:List Tr},(∀x∈l,x.pre=x.post/\∀j,x.rd=some j->j∈R)->a1D af ⟨i,a1O env (.w n a v),s,s.set id (some ob)⟩ l=true:=by
   intro l;induction l with
   |nil=>intro _;rfl
   |cons t r ih =>
    intro hl;have h1:=hl t sJ;have qO:a2s s (s.set id (some ob)) t.rd=true:=by
     cases nO:t.rd with
     |none=>rfl
     |some j =>
      have hj:=h1.2 j nO;have jt:j≠id:=λe=>jb (e▸hj)
      simp only[a2s];rw[Y8 jt];exact b1i _
    have oK:a2s t.pre t.post (a1O env (.w n a v))=true:=by rw[h1.1];exact b9o _ _
    simp only[a1D,qO,oK,GC,JD,Gd];grind
  exact key ht
 .obtain⟨m,iO,s',h1,h2⟩:=h [] a9a
  exact⟨m,iO,s',a73 hp h1,h2⟩
theorem b58{af R i t n x rest s Q}{off:Nat}(hx:env.ev x=.fp cs off)(hr:dE env s.get (.load n x)=some d)(h:gF fs af R rest ((t,d)::env) s Q):gF fs af R ((i,⟨some t,.r (.load n x),none⟩)::rest) env s Q:=by
 intro tr ht;refine a42 rfl 0 (d:=d) (s':=s) (by simp only[a0y,hr,He]) (a7U rfl λt hm=>(ht t hm).1) (h _ (b0h ht ⟨rfl,λj hj=>?_⟩));grind[a1O,gT]
def b1h:D->List Nat
 |.ptr id _=>[id]
 |_=>[]
theorem c4c{p:D}(h:id∈b1h p):∃off,p=.ptr id off:=by
 cases p<;>simp[b1h]at h;simp_all
theorem wt_ldv{af R i t n x rest s Q}{p:D}(hl:bF s.get n p=some d)(hx:env.ev x=p)(h:gF fs af (b1h p++R) rest ((t,d)::env) s Q):gF fs af R ((i,⟨some t,.r (.load n x),none⟩)::rest) env s Q:=by
 intro tr ht;refine a42 rfl 0 (d:=d) (s':=s) (by simp only[a0y,b0u,hx,hl,He]) (a7U rfl λt hm=>(ht t hm).1) (h _ (b0h (λy hy=>⟨(ht y hy).1,λid h=>Hz _ ((ht y hy).2 id h)⟩) ⟨rfl,λj hj=>?_⟩));grind[a1O,gT,b1h]
theorem c3b{af R i t f args rest s Q}(hr:Ev fs f l s d s)(ha:env.aR args=l)(h:gF fs af R rest ((t,d)::env) s Q):gF fs af R ((i,⟨some t,.m (.call .raw (.aL (.fn f [])) args),none⟩)::rest) env s Q:=by
 subst ha;obtain⟨n,hn⟩:=hr;intro tr ht;exact a42 rfl n (d:=d) (s':=s) (by simp only[a0y,cO,a3c,k6.ev,Fl];exact hn) (a7U rfl λt hm=>(ht t hm).1) (h _ (b0h ht ⟨rfl,by simp[a1O]⟩))
theorem c0d{af R i t f args rest s Q}{P:D->k4->Prop}(hr:Y4 fs f l s P)(hP:∀d s',P d s'->Fr [] s s')(hR:∀id∈R,id<s.next)(hp:(rest.all λo=>af.all λp=>p.2 != o.1)=true)(ha:env.aR args=l)
 (h:∀d s',P d s'->WQ fs [] rest ((t,d)::env) s' Q):gF fs af R ((i,⟨some t,.m (.call .raw (.aL (.fn f [])) args),none⟩)::rest) env s Q:=by
 subst ha;obtain⟨d,s',⟨n,hn⟩,hd⟩:=hr;have hF:=hP d s' hd;intro tr ht;refine a42 rfl n (d:=d) (s':=s') (by simp only[a0y,cO,a3c,k6.ev,Fl];exact hn) ?_ ?_
 .have key:∀{l:List Tr},(∀x∈l,x.pre=x.post/\∀j,x.rd=some j->j∈R)->a1D af ⟨i,none,s,s'⟩ l=true:=by
   intro l;induction l with
   |nil=>intro _;rfl
   |cons t r ih =>
    intro hl;have h1:=hl t sJ;have qO:a2s s s' t.rd=true:=by
     cases nO:t.rd with
     |none=>rfl
     |some j =>
      have hj:=hR j (h1.2 j nO);simp only[a2s];rw[hF.2 j hj sJ];exact b1i _
    have oK:a2s t.pre t.post none=true:=rfl;simp only[a1D,qO,oK,GC,JD,Gd];grind
  exact key ht
 .obtain⟨m,iO,s2,h1,h2⟩:=h d s' hd [] a9a
  exact⟨m,iO,s2,a73 hp h1,h2⟩
variable{Φ:k4->Prop}
theorem a1B{af ops env s Q}(h:Φ s)(k:∀s',Φ s'->WQ fs af ops env s' Q):WQ fs af ops env s Q:=k s h
theorem c0Y{af R ops env s Q}(h:Φ s)(k:∀s',Φ s'->gF fs af R ops env s' Q):gF fs af R ops env s Q:=k s h
theorem wp_gen{vars c env s Q}(h:Φ s)(k:∀s',Φ s'->WP fs vars c env s' Q):WP fs vars c env s Q:=k s h
theorem zT{F P Q:Prop}(f:F)(k:Q) (h:F->Q->P:=by
 intro f k
 (first|(with_reducible refine b3E ?_)|((with_reducible apply wt_p);(focus(simp(disch:=(first|with_reducible assumption|omega|((repeat(first|rw[nP]|rw[nS]))<;>omega)|fail)) only[go_sem,k6.ev,k6.get,↓reduceIte,f]<;>rfl)))|((with_reducible apply b37);(focus(simp only[k6.ev,k6.get,Nat.reduceEqDiff,↓reduceIte,a0n.at,GN,GJ,f]<;>rfl));(focus(simp(disch:=(first|with_reducible assumption|omega|((repeat(first|rw[nP]|rw[nS]))<;>omega)|fail)) only[go_sem,k6.ev,k6.get,↓reduceIte,f]<;>rfl)))|((with_reducible apply b58);(focus(simp only[k6.ev,k6.get,Nat.reduceEqDiff,↓reduceIte,a0n.at,GN,GJ,f]<;>rfl));(focus(simp(disch:=(first|with_reducible assumption|omega|((repeat(first|rw[nP]|rw[nS]))<;>omega)|fail)) only[go_sem,k6.ev,k6.get,↓reduceIte,f]<;>rfl)))|(with_reducible first|apply vA|apply vB|apply vC)|((with_reducible apply vD);(focus rfl))|((with_reducible first|apply vE|apply vF|apply vG|apply vH);simp only[k6.aG,k6.get,k6.ev,List.map,Nat.reduceEqDiff,↓reduceIte,a2w,a0u])|((with_reducible first|apply vI|apply vJ|apply vK|apply vL|apply vM|apply vN);(focus(simp(disch:=(first|with_reducible assumption|omega|((repeat(first|rw[nP]|rw[nS]))<;>omega)|fail)) only[go_sem,k6.ev,k6.get,↓reduceIte,f]<;>rfl));(first|(with_reducible (first|apply vO|apply vP|apply vQ|apply vR|apply vS|apply vT|apply vU);try simp only[k6.put])|with_reducible refine(?_:WQ _ _ _ _ _ _))))
 repeat(first|(with_reducible refine b3E ?_)|((with_reducible apply wt_p);(focus(simp(disch:=(first|with_reducible assumption|omega|((repeat(first|rw[nP]|rw[nS]))<;>omega)|fail)) only[go_sem,k6.ev,k6.get,↓reduceIte,f]<;>rfl)))|((with_reducible apply b37);(focus(simp only[k6.ev,k6.get,Nat.reduceEqDiff,↓reduceIte,a0n.at,GN,GJ,f]<;>rfl));(focus(simp(disch:=(first|with_reducible assumption|omega|((repeat(first|rw[nP]|rw[nS]))<;>omega)|fail)) only[go_sem,k6.ev,k6.get,↓reduceIte,f]<;>rfl)))|((with_reducible apply b58);(focus(simp only[k6.ev,k6.get,Nat.reduceEqDiff,↓reduceIte,a0n.at,GN,GJ,f]<;>rfl));(focus(simp(disch:=(first|with_reducible assumption|omega|((repeat(first|rw[nP]|rw[nS]))<;>omega)|fail)) only[go_sem,k6.ev,k6.get,↓reduceIte,f]<;>rfl)))|(with_reducible first|apply vA|apply vB|apply vC)|((with_reducible apply vD);(focus rfl))|((with_reducible first|apply vE|apply vF|apply vG|apply vH);simp only[k6.aG,k6.get,k6.ev,List.map,Nat.reduceEqDiff,↓reduceIte,a2w,a0u])|((with_reducible first|apply vI|apply vJ|apply vK|apply vL|apply vM|apply vN);(focus(simp(disch:=(first|with_reducible assumption|omega|((repeat(first|rw[nP]|rw[nS]))<;>omega)|fail)) only[go_sem,k6.ev,k6.get,↓reduceIte,f]<;>rfl));(first|(with_reducible (first|apply vO|apply vP|apply vQ|apply vR|apply vS|apply vT|apply vU);try simp only[k6.put])|with_reducible refine(?_:WQ _ _ _ _ _ _))))
 exact k):P:=h f k
structure SF(s0:k4)(m:X7)(nr:List D)(pr:List D)(s:k4):Prop where
 fr:Fr [] s0 s
 nx:s0.next+4<=s.next
 m:s.get s0.next=some (.cells (Z6 m))
 p:s.get (s0.next+1)=some (.cells pr)
 r:s.get (s0.next+2)=some (.cells [.str (bs []),.int .i64 0,.ag,.int .i64 0,.ag,.ag,.ag,.ag])
 n:s.get (s0.next+3)=some (.cells nr)
variable{m:X7}{s0:k4}{nr pr:List D}
theorem SF.call(h:SF s0 m nr pr s)(hf:Fr [] s s'):SF s0 m nr pr s':=by
 have:=h.nx;have:=hf.1;refine⟨h.fr.trans hf sJ,oJ,?_,?_,?_,?_⟩
 .rw[hf.2 _ oJ sJ,h.m]
 .rw[hf.2 _ oJ sJ,h.p]
 .rw[hf.2 _ oJ sJ,h.r]
 .rw[hf.2 _ oJ sJ,h.n]
theorem SF.eo{pr':List D}(h:SF s0 m nr pr s):SF s0 m nr pr' (s.set (s0.next+1) (some (.cells pr'))):=by
 have:=h.nx;refine⟨h.fr.aC _ (.inr oJ),by assumption,?_,?_,?_,?_⟩
 .rw[Y8 oJ,h.m]
 .rw[a0b oJ]
 .rw[Y8 oJ,h.r]
 .rw[Y8 oJ,h.n]
def a2G(s:k4)(d:D):Prop:=∃id n z,d=.arr id 0 n z/\s.next<=id
theorem a7k{id n z:Nat}(h:d=.arr id 0 n z)(h1:s'.next<=id)(h2:s.next<=s'.next):a2G s d:=⟨id,n,z,h,FE h2 h1⟩
theorem a2G.mono(h:a2G s' d)(h2:s.next<=s'.next):a2G s d:=by
 obtain⟨id,n,z,h,h1⟩:=h;exact⟨id,n,z,h,FE h2 h1⟩
def fB(s:k4)(p q:Pr)(r:D)(s':k4):Prop:=∃x',r=.agg (V0 q x')/\Fr [] s s'/\Z5 s' q x'/\a2G s x'.de
theorem a2Y(hT:Z0 d t)(hk:k<t.length):V5 (nd t k).dw=true/\V5 (nd t k).dn=true/\V5 (nd t k).dk=true:=⟨FL.one (hT.nd hk).w,FL.one (hT.nd hk).n,FL.one (hT.nd hk).k⟩
theorem a2T(hT:Z0 d t)(ht:a2a t)(hk:k<t.length)(hi:i<(nd t k).kids.length):W7 1 (nd t k).dk (.int .i64 (i:Int))=some (.fp [.int .i64 ((nd t k).aE i:Int)] 0):=by
 have:=FI.idx (hT.nd hk).k hi (k:=.i64);have hr:=ht.kids k hk _ (Fp hi);grind[a77]
theorem a6m(hT:Z0 d t)(hk:k<t.length)(hi:i<(nd t k).words.length):W7 1 (nd t k).dw (.int .i64 (i:Int))=some (.fp [.str ((nd t k).word i)] 0):=by
 rw[a6s hi];exact FS.idx (hT.nd hk).w hi
variable{x:X2}
theorem Z5.aw(h:Z5 s p x):V5 x.dl=true/\V5 x.dr=true/\V5 x.de=true/\V5 x.dn=true/\V5 x.dv=true:=⟨h.l.one,h.r.one,h.e.one,h.n.one,h.v.one⟩
theorem a25.aw{ch:List Ch}(h:a25 s m t ch):V5 m.dt=true/\V5 m.dc=true/\V5 m.dv=true/\V5 m.dp=true/\V5 m.ds=true:=⟨FL.one h.tr.fl,h.c.one,h.ov,h.op,h.os⟩
theorem SN.set{s:k4}{sz id:Nat}{d:D}{rows:List (List D)}{cs:List D}{o:Option Z7}(h:SN s sz d rows)(hg:s.get id=some (.cells cs))(jt:rows.flatten≠cs):SN (s.set id o) sz d rows:=by
 rcases h with h|⟨j,rfl,h⟩|h
 .exact .inl h
 rotate_left
 .exact .inr (.inr h)
 .refine .inr (.inl ⟨j,rfl,?_⟩)
  rw[Y8,h];grind
theorem Z5.set{s:k4}{p:Pr}{x:X2}{id:Nat}{a:ByteArray}{k:IntKind}{n:Int}{rest:List D}{o:Option Z7}(h:Z5 s p x)(hg:s.get id=some (.cells (.str a::.int k n::rest))):Z5 (s.set id o) p x:=by
 refine⟨h.l.set hg ?_,h.r.set hg ?_,h.e.set hg ?_,h.n.set hg ?_,h.v.set hg ?_⟩
 .cases p.locals<;>simp[a0i]
 .cases p.rest<;>simp[a0o]
 .cases p.ai<;>simp[a0O,Ed.row]
 .match p.names with
  |[]=>simp[a1M]
  |[y]=>simp[a1M]
  |y::z::r=>simp[a1M]
 .cases p.vars<;>simp[a0i]
theorem SF.fin(h:SF s0 m nr pr s)(hq:Z5 s q x)(hz:a2G s0 x.de):fB s0 p q (.agg (V0 q x)) (s.set (s0.next+2) (some (.cells (V0 q x)))) :=
 ⟨x,rfl,h.fr.aC _ (.inr oJ),hq.set h.r,hz⟩
theorem SF.res(h:SF s0 m nr pr s)(hE:env.get 10=.ptr (s0.next+2) 0):a03 env (s.set (s0.next+2) (some (.cells (V0 q x)))) [(10,some (some 8))]=some (.agg (V0 q x)):=by
 have:=h.nx;simp only[a03,a08,a1t,hE,a0b (s:=s) (i:=s0.next+2) oJ];rfl
structure SL(s0:k4)(m:X7)(nr pr:List D)(B:Nat)(lr:List D)(s:k4):Prop where
 sf:SF s0 m nr pr s
 lo:s0.next+4<=B
 l:s.get B=some (.cells lr)
theorem SL.call{s0:k4}{m:X7}{nr pr lr:List D}{B:Nat}{s s':k4}(h:SL s0 m nr pr B lr s)(hf:Fr [] s s'):SL s0 m nr pr B lr s' :=
 ⟨h.sf.call hf,h.lo,by rw[hf.2 _ (t3 h.l) sJ,h.l]⟩
theorem SL.gG{lr lr':List D}{B:Nat}(h:SL s0 m nr pr B lr s):SL s0 m nr pr B lr' (s.set B (some (.cells lr'))):=by
 have:=h.lo;have hf:=h.sf;refine⟨⟨hf.fr.aC _ (.inr oJ),by simp only[k4.au];exact hf.nx,?_,?_,?_,?_⟩,h.lo,by rw[a0b (t3 h.l)]⟩
 .rw[Y8 oJ,hf.m]
 .rw[Y8 oJ,hf.p]
 .rw[Y8 oJ,hf.r]
 .rw[Y8 oJ,hf.n]
theorem SL.new{lr:List D}{z:List D}(h:SF s0 m nr pr s):SL s0 m nr pr s.next lr ((s.push (.cells z)).set s.next (some (.cells lr))):=by
 have h1:=h.call (Fr.push (ids:=[]) (s:=s) (.cells z));have:=h.nx;exact SL.gG (lr:=z) ⟨h1,oJ,W8 rfl⟩
variable{k:IntKind}{rest:List D}{o:Option Z7}
theorem Z5.new{a:ByteArray}{n:Int}(h:Z5 s q x):Z5 ((s.push (.cells (.str a::.int k n::rest))).set s.next o) q x :=
 (h.stay (Fr.push (ids:=[]) _)).set (W8 rfl)
def a8D(fs:FuncId->Option U4)(fn:Nat)(t:List Nd)(ch:List Ch)(names:List ByteArray)(vars:List Nat)(f b:Nat):Prop :=
 ∀g n,a0z t g b=(n,true)->∀(s:k4)(m:X7)(p:Pr)(x:X2)(aq to:Nat),a25 s m t ch->Z5 s p x->a10 t ch.length p->p.names=names->p.vars=vars->aq<p.ah->to<p.ah->∀N,a0L p N->N+4*(n-b)<=900000 ->
  Y4 fs fn [.agg (Z6 m),.agg (V0 p x),.int .i64 (b:Int),.int .i64 (aq:Int),.int .i64 (to:Int)] s (fB s p (a1g t (X5 t (ch.map Ch.name) f) p b aq to))
variable{l:List Ed}
theorem c0y{f:Nat}(hi:i<l.length)(hf:f<8):(a0O l).flatten[i*8+f]?=(l[i].row)[f]?:=by
 rw[b0q (a7v l) (sU hi) hf];simp[a0O]
theorem c0j:∀{l:List Ed}{i:Nat}(hi:i<l.length)(b:Bool),(a0O l).flatten.set (i*8+6) (.bool b)=(a0O (l.set i { l[i]with aG:=b })).flatten
 |[],i,hi,_=>by simp at hi
 |e::r,0,hi,b=>by simp[a0O,Ed.row]
 |e::r,i+1,hi,b=>by
  have ih:=c0j (l:=r) (i:=i) (sU hi) b;simp only[a0O,FJ,GF,List.set_cons_succ,IB]at ih⊢;have hl:e.row.length=8:=rfl;grind
theorem Z5.bb{b:Bool}(h:Z5 s p x)(hd:x.de=.arr id 0 n 8)(hi:i<p.ai.length):Z5 (s.set id (some (.cells ((a0O p.ai).flatten.set (i*8+6) (.bool b))))) { p with ai:=p.ai.set i { p.ai[i]with aG:=b } } x:=by
 have he:=h.e;rcases he with⟨h0,_⟩|⟨j,hj,hg⟩|h0
 .grind
 rotate_left
 .grind
 .rw[hd]at hj
  cases hj;have ne:∀(rows:List (List D)),rows.flatten[6]?≠some (.bool p.ai[0].aG)->rows.flatten≠(a0O p.ai).flatten:=λrows h e=>by
   apply h;rw[e];have:=c0y (l:=p.ai) (i:=0) (f:=6) oJ dJ;rw[Nat.zero_mul,GJ]at this;rw[this];rfl
  have kN:∀l:List Nat,(a0i l).flatten=l.map λ(n:Nat)=>D.int .i64 (n:Int):=by
   intro l;induction l with
   |nil=>rfl
   |cons a r ih=>simp only[a0i,FJ,GF]at ih⊢;rw[ih];rfl
  refine⟨h.l.set hg (ne _ ?_),h.r.set hg ?_,.inr (.inl ⟨id,?_,?_⟩),h.n.set hg ?_,h.v.set hg (ne _ ?_)⟩
  .rw[kN,List.getElem?_map];cases p.locals[6]?<;>simp
  .intro e
   have h1:=Ig List.head? e;revert h1;match Ba:p.ai,hi with
   |a::r,_=>cases p.rest<;>simp[a0o,a0O,Ed.row]
  .rw[hd];simp
  .rw[a0b (t3 hg),c0j hi]
  .intro e
   have h1:=Ig List.head? e;revert h1;match Ba:p.ai,hi with
   |a::r,_=>cases p.names<;>simp[a1M,a0O,Ed.row]
  simp_all
theorem SF.cy(h:SF s0 m nr pr s)(jb:s0.next+4<=id):SF s0 m nr pr (s.set id o):=by
 refine⟨h.fr.aC _ (.inr oJ),by simp only[k4.au];exact h.nx,?_,?_,?_,?_⟩
 .rw[Y8 oJ,h.m]
 .rw[Y8 oJ,h.p]
 .rw[Y8 oJ,h.r]
 .rw[Y8 oJ,h.n]
def a2X(A E:List Ed)(i:Nat):List Ed:=A.take i++E.drop i
variable{E A:List Ed}
theorem b1n(h:A.length=E.length):(a2X A E i).length=E.length:=by simp[a2X];omega
theorem c1x(h:A.length=E.length)(hi:i<E.length):(a2X A E i)[i]'(by grind[b1n])=E[i]:=by
 grind[a2X]
theorem c6o(h:A.length=E.length)(hi:i<E.length):(a2X A E i).set i A[i]=a2X A E (i+1):=by
 have hl:(A.take i).length=i:=by simp;omega
 unfold a2X;rw[JZ _ _ oJ,hl,Nat.sub_self,GS hi,List.set_cons_zero,FO oJ,Fj,HL]
theorem c1S(n to:Nat)(l:List Ed):(a3h n to l).length=l.length:=by
 grind[a3h]
theorem c9y(hi:i<l.length)(hn:n<=i):(a3h n to l)[i]'(by grind[c1S])={ l[i]with aG:=l[i].to != to&&l[i].to != 1 }:=by
 grind[a3h]
theorem c5P(h:n<=l.length):a2X (a3h n to l) l n=l:=by
 grind[a2X,a3h,List.take_append_drop]
theorem c5i(h:A.length=E.length):a2X A E E.length=A:=by
 grind[a2X]
structure S3(s0:k4)(m:X7)(pr:List D)(s:k4):Prop where
 fr:Fr [] s0 s
 nx:s0.next+3<=s.next
 m:s.get s0.next=some (.cells (Z6 m))
 p:s.get (s0.next+1)=some (.cells pr)
 r:s.get (s0.next+2)=some (.cells [.str (bs []),.int .i64 0,.ag,.int .i64 0,.ag,.ag,.ag,.ag])
theorem S3.call(h:S3 s0 m pr s)(hf:Fr [] s s'):S3 s0 m pr s':=by
 have:=h.nx;have:=hf.1;refine⟨h.fr.trans hf sJ,oJ,?_,?_,?_⟩
 .rw[hf.2 _ oJ sJ,h.m]
 .rw[hf.2 _ oJ sJ,h.p]
 .rw[hf.2 _ oJ sJ,h.r]
theorem S3.eo{pr':List D}(h:S3 s0 m pr s):S3 s0 m pr' (s.set (s0.next+1) (some (.cells pr'))):=by
 have:=h.nx;refine⟨h.fr.aC _ (.inr oJ),by assumption,?_,?_,?_⟩
 .rw[Y8 oJ,h.m]
 .grind[a0b]
 .rw[Y8 oJ,h.r]
theorem S3.fin(h:S3 s0 m pr s)(hq:Z5 s q x)(hz:a2G s0 x.de):fB s0 p q (.agg (V0 q x)) (s.set (s0.next+2) (some (.cells (V0 q x)))) :=
 ⟨x,rfl,h.fr.aC _ (.inr oJ),hq.set h.r,hz⟩
theorem S3.res{sl:Nat}(h:S3 s0 m pr s)(hE:env.get sl=.ptr (s0.next+2) 0):a03 env (s.set (s0.next+2) (some (.cells (V0 q x)))) [(sl,some (some 8))]=some (.agg (V0 q x)):=by
 have:=h.nx;simp only[a03,a08,a1t,hE,a0b (s:=s) (i:=s0.next+2) oJ];rfl
def b2D(fs:FuncId->Option U4)(fn:Nat)(t:List Nd)(ch:List Ch)(names:List ByteArray)(vars:List Nat)(f k:Nat):Prop :=
 ∀g n,a0z t g k=(n,true)->∀(s:k4)(m:X7)(p:Pr)(x:X2)(aq to:Nat),a25 s m t ch->Z5 s p x->a10 t ch.length p->p.names=names->p.vars=vars->aq<p.ah->to<p.ah->∀N,a0L p N->N+4*(n-k)<=900000 ->
  Y4 fs fn [.agg (Z6 m),.agg (V0 p x),.int .i64 (k:Int),.int .i64 (aq:Int),.int .i64 (to:Int)] s (fB s p (X5 t (ch.map Ch.name) f p k aq to))
abbrev Hs:=List (Nat×List D)
def Y2(s:k4)(R:Hs):Prop:=∀x∈R,s.get x.1=some (.cells x.2)
structure Hp(s:k4)(W R:Hs):Prop where
 nd:(W.map Prod.fst).Nodup
 ap:∀w∈W,∀r∈R,w.1≠r.1
 w:Y2 s W
 r:Y2 s R
theorem Y2.append{s:k4}{A B:Hs}(h:Y2 s A)(k:Y2 s B):Y2 s (A++B):=by
 intro x hx;rcases Fm.1 hx with hx|hx
 .exact h x hx
 .exact k x hx
variable{B A:Hs}
theorem Y2.left(h:Y2 s (A++B)):Y2 s A:=λx hx=>h x (HP _ hx)
theorem Y2.right(h:Y2 s (A++B)):Y2 s B:=λx hx=>h x (Hz _ hx)
theorem Y2.fr(h:Y2 s A)(hf:Fr [] s s'):Y2 s' A:=λx hx=>by
 rw[hf.2 _ (t3 (h x hx)) sJ,h x hx]
theorem Hp.fr{s s':k4}{W R:Hs}(h:Hp s W R)(hf:Fr [] s s'):Hp s' W R:=⟨h.nd,h.ap,h.w.fr hf,h.r.fr hf⟩
theorem Hp.push{s:k4}{W R:Hs}(h:Hp s W R)(o:Z7):Hp (s.push o) W R:=h.fr (Fr.push o)
variable{R W:Hs}
theorem Hp.dF(h:Hp s W R)(cs:List D):Hp (s.push (.cells cs)) ((s.next,cs)::W) R:=by
 refine⟨?_,?_,?_,(h.push _).r⟩
 .rw[FJ,Hf]
  refine⟨λhm=>?_,h.nd⟩;obtain⟨x,hx,e⟩:=Fs.1 hm;have:=t3 (h.w x hx);simp only at e;omega
 .intro w hw r hr
  rcases Fi.1 hw with rfl|hw
  .have:=t3 (h.r r hr)
   simp only;omega
  .exact h.ap w hw r hr
 .intro x hx
  rcases Fi.1 hx with rfl|hx
  .exact W8 rfl
  .exact(h.push _).w x hx
theorem Hp.get{s:k4}{A B R:Hs}{id:Nat}{cs:List D}(h:Hp s (A++(id,cs)::B) R):s.get id=some (.cells cs):=h.w (id,cs) sJ
theorem Hp.sub{W W' R R':Hs}(h:Hp s W R)(hw:W'.Sublist W)(hr:∀x∈R',x∈R):Hp s W' R' :=
 ⟨h.nd.sublist (hw.map _),λw hm r hn=>h.ap w (hw.subset hm) r (hr r hn),λx hx=>h.w x (hw.subset hx),λx hx=>h.r x (hr x hx)⟩
theorem Hp.perm{W':Hs}(h:Hp s W R)(hw:W'.Perm W):Hp s W' R :=
 ⟨(hw.map _).nodup_iff.2 h.nd,λw hm r hn=>h.ap w (hw.subset hm) r hn,λx hx=>h.w x (hw.subset hx),h.r⟩
theorem Hp.set{s:k4}{A B R:Hs}{id:Nat}{cs:List D}(h:Hp s (A++(id,cs)::B) R)(qn:List D):Hp (s.set id (some (.cells qn))) (A++(id,qn)::B) R:=by
 have hl:=t3 h.get;have hn:=h.nd;rw[FK,FJ,GP]at hn;obtain⟨n1,n2,n3⟩:=hn;rw[Hf]at n2;refine⟨?_,?_,?_,?_⟩
 .grind
 .intro w hw r hr
  rcases Fm.1 hw with hw|hw
  .exact h.ap w (by simp[hw]) r hr
  .rcases Fi.1 hw with rfl|hw
   .exact h.ap (id,cs) sJ r hr
   .exact h.ap w (by simp[hw]) r hr
 .intro x hx
  rcases Fm.1 hx with hx|hx
  .rw[Y8,h.w x (by simp[hx])]
   grind[List.mem_map_of_mem]
  .rcases Fi.1 hx with rfl|hx
   .exact a0b hl
   .rw[Y8,h.w x (by simp[hx])]
    grind
 .intro x hx
  rw[Y8,h.r x hx];exact λe=>h.ap (id,cs) sJ x hx e.symm
theorem Hp.kill(h:Hp s (A++(id,cs)::B) R):Hp (s.set id none) (A++B) R:=by
 have hn:=h.nd;rw[FK,FJ,GP]at hn;obtain⟨n1,n2,n3⟩:=hn;rw[Hf]at n2;have h':Hp s (A++B) R:=h.sub (Jw (IC _ _) _) λ_ hx=>hx
 refine⟨h'.nd,h'.ap,?_,?_⟩
 .intro x hx
  rw[Y8,h'.w x hx];rcases Fm.1 hx with hx|hx
  .exact n3 _ (Gy hx) _ sJ
  grind
 .intro x hx
  rw[Y8,h.r x hx];exact λe=>h.ap (id,cs) sJ x hx e.symm
theorem Hp.eV{W R E:Hs}(h:Hp s W R)(he:Y2 s E)(hc:∀w∈W,∀x∈E,w.2≠x.2):Hp s W (E++R):=by
 refine⟨h.nd,λw hw r hr=>?_,h.w,he.append h.r⟩;rcases Fm.1 hr with hr|hr
 .intro e
  have h1:=h.w w hw;rw[e,he r hr]at h1;grind
 .exact h.ap w hw r hr
theorem a7X{c:a1w}{env:k6}{s:k4}{P:k6->k4->Prop}{Q:a1G->k6->k4->Prop}(h:WP fs vars c env s (a0u id λe env s=>e=.normal/\P env s))(k:∀env s,P env s->Q .normal env s):WP fs vars c env s (a0u id Q):=by
 refine h.mono λe env s hp=>?_
 cases e with
 |normal=>exact k _ _ hp.2
 |ret=>cases hp.1
 |exit i =>
  simp_all[a0u]
def Rp(d:D)(sz:Nat)(rows:List (List D))(E:Hs):Prop:=(d=.ag/\rows=[]/\E=[])\/∃id,d=.arr id 0 rows.length sz/\E=[(id,rows.flatten)]/\rows≠[]
variable{E:Hs}
theorem Rp.sn{sz:Nat}(h:Rp d sz rows E)(he:Y2 s E):SN s sz d rows:=by
 rcases h with⟨h1,h2,_⟩|⟨id,h1,rfl,_⟩
 .exact .inl ⟨h1,h2⟩
 .exact .inr (.inl ⟨id,h1,he (id,rows.flatten) sJ⟩)
theorem Rp.one{sz:Nat}(h:Rp d sz rows E):V5 d=true:=by
 rcases h with⟨rfl,_⟩|⟨id,rfl,_⟩<;>rfl
theorem Rp.len{sz:Nat}(h:Rp d sz rows E):a0x false d=some (.int .i64 (rows.length:Int)):=by
 rcases h with⟨rfl,rfl,_⟩|⟨id,rfl,_⟩<;>rfl
theorem Rp.app{sz bytes idt:Nat}{rows:List (List D)}{row:List D}(h:Rp d sz rows E)(hp:Hp s (A++E++B) R)(ht:s.get idt=some (.cells row))(hr:row.length=sz)(nH:∀r∈rows,r.length=sz)(hb:bytes<=1000)(hl:rows.length<=1000000000) :
 ∃d' s',a0e sz bytes d (.arr idt 0 1 sz) s=some (d',s')/\∃E',Rp d' sz (rows++[row]) E'/\Hp s' (A++E'++B) R/\s.next<=s'.next:=by
 have b3:bytes<=2^20:=FE hb dJ;have r1:a1u s.get (.arr idt 0 1 sz)=some row:=by simp_all[a1u,Gk]
 have r2:a3z (.arr idt 0 1 sz)=some 1:=rfl;have r3:a1V sz (.arr idt 0 1 sz)=true:=by simp[a1V]
 rcases h with⟨rfl,rfl,rfl⟩|⟨id,rfl,rfl,jt⟩
 .refine⟨.arr s.next 0 1 sz,s.push (.cells row),?_,[(s.next,row)],.inr ⟨s.next,rfl,sJ,sJ⟩,?_,sJ⟩
  .unfold a0e
   grind
  .refine(hp.dF row).perm ?_
   simp
 .have hf:=a8u nH
  have hg:s.get id=some (.cells rows.flatten):=by
   refine hp.w (id,rows.flatten) ?_;simp
  have b1:(rows.length+1)*bytes<=2^45:=FE (GI (show rows.length+1<=1000000001 by omega) hb) dJ;have b2:rows.length+1<=2^45:=oJ;refine⟨.arr s.next 0 (rows.length+1) sz,(s.set id none).push (.cells (rows.flatten++row)),?_,[(s.next,rows.flatten++row)],.inr ⟨s.next,sJ,sJ,sJ⟩,?_,sJ⟩
  .simp_all[a0e]
  .have h1:Hp (s.set id none) (A++B) R:=by
    refine Hp.kill (cs:=rows.flatten) ?_;simpa only[Fj,HL]using hp
   have h2:=h1.dF (rows.flatten++row);rw[k4.au]at h2;refine h2.perm ?_;simp
def InR(P:k4->Prop)(R:Hs):Prop:=∀s,Y2 s R->P s
theorem InR.mono{P:k4->Prop}{R R':Hs}(h:InR P R)(hr:∀x∈R,x∈R'):InR P R':=λs hs=>h s λx hx=>hs x (hr x hx)
theorem SN.parts{sz:Nat}(h:SN s sz d rows):∃E:Hs,Y2 s E/\(∀e∈E,e.2=rows.flatten)/\InR (λs=>SN s sz d rows) E:=by
 rcases h with h|⟨id,h,hg⟩|h
 .exact⟨[],by simp[Y2],sJ,λs _=>.inl h⟩
 .exact⟨[(id,rows.flatten)],by grind[Y2],sJ,λs hs=>.inr (.inl ⟨id,h,hs (id,rows.flatten) sJ⟩)⟩
 .exact⟨[],by simp[Y2],sJ,λs _=>.inr (.inr h)⟩
def a78(cs:List D):Prop:=(∃l,cs=(a0i l).flatten)\/(∃l,cs=(a0o l).flatten)\/(∃l,cs=(a0O l).flatten)\/(∃l,cs=(a1M l).flatten)
theorem a78.ne_box(h:a78 cs)(hd:Z0 d t):d::rest≠cs:=by
 have hd:=hd.fl;rcases h with⟨l,rfl⟩|⟨l,rfl⟩|⟨l,rfl⟩|⟨l,rfl⟩<;>cases l<;>rcases hd with⟨rfl,_⟩|rfl<;>simp[a0i,a0o,a0O,a1M,Ed.row]
variable{n:Int}
theorem a78.ne_si{a:ByteArray}(h:a78 cs):D.str a::.int k n::rest≠cs:=by
 rcases h with⟨l,rfl⟩|⟨l,rfl⟩|⟨l,rfl⟩|⟨l,rfl⟩
 .cases l<;>simp[a0i]
 .cases l<;>simp[a0o]
 .cases l<;>simp[a0O,Ed.row]
 .match l with
  |[]=>simp[a1M]
  |[y]=>simp[a1M]
  |y::z::r=>simp[a1M]
theorem Z5.parts{s:k4}{p:Pr}{x:X2}(h:Z5 s p x):∃E:Hs,Y2 s E/\(∀e∈E,a78 e.2)/\InR (λs=>Z5 s p x) E:=by
 obtain⟨E1,a1,b1,c1⟩:=h.l.parts;obtain⟨E2,a2,b2,c2⟩:=h.r.parts;obtain⟨E3,a3,b3,c3⟩:=h.e.parts;obtain⟨E4,a4,b4,c4⟩:=h.n.parts;obtain⟨E5,a5,b5,c5⟩:=h.v.parts;refine⟨E1++(E2++(E3++(E4++E5))),a1.append (a2.append (a3.append (a4.append a5))),?_,λs hs=>⟨c1 s hs.left,c2 s hs.right.left,c3 s hs.right.right.left,c4 s hs.right.right.right.left,c5 s hs.right.right.right.right⟩⟩;intro e he;simp only[Fm]at he;rcases he with he|he|he|he|he
 .exact .inl ⟨_,b1 e he⟩
 .exact .inr (.inl ⟨_,b2 e he⟩)
 .exact .inr (.inr (.inl ⟨_,b3 e he⟩))
 .exact .inr (.inr (.inr ⟨_,b4 e he⟩))
 .exact .inl ⟨_,b5 e he⟩
def a18(l:List Vr):List (List D):=l.map Vr.row
theorem b2O(l:List Vr):∀r∈a18 l,r.length=3:=by intro r h;obtain⟨b,_,rfl⟩:=Fs.1 h;rfl
@[simp] theorem b5G(l:List Vr):(a18 l).length=l.length:=by simp[a18]
def a3J(l:List (Pr×X2)):List (List D):=l.map λq=>V0 q.1 q.2
theorem b9F(l:List (Pr×X2)):∀r∈a3J l,r.length=8:=by intro r h;obtain⟨b,_,rfl⟩:=Fs.1 h;rfl
@[simp] theorem c7A(l:List (Pr×X2)):(a3J l).length=l.length:=by simp[a3J]
theorem b71(l:List Vr)(v:Vr):a18 l++[v.row]=a18 (l++[v]):=by simp[a18]
theorem c6d(l:List Ch)(v:Ch):a2Q l++[v.row]=a2Q (l++[v]):=by simp[a2Q]
theorem b2d(l:List Nat)(v:Nat):a0i l++[[.int .i64 (v:Int)]]=a0i (l++[v]):=by simp[a0i]
theorem b65(l:List ByteArray)(v:ByteArray):a1M l++[[.str v]]=a1M (l++[v]):=by simp[a1M]
theorem c6S(l:List (Pr×X2))(p:Pr)(x:X2):a3J l++[V0 p x]=a3J (l++[(p,x)]):=by simp[a3J]
theorem Rp.si{sz:Nat}{rows:List (List D)}{E:Hs}(h:Rp d sz rows E)(hr:∀r∈rows,∃a k n rest,r=D.str a::.int k n::rest):∀e∈E,∃a k n rest,e.2=D.str a::.int k n::rest:=by
 rcases h with⟨_,_,rfl⟩|⟨id,_,rfl,jt⟩
 .simp
 .intro e he
  simp at he;subst he;cases rows with
  |nil=>grind
  |cons r rs =>
   obtain⟨a,k,n,rest,rfl⟩:=hr r sJ;simp
theorem c8D(l:List Vr):∀r∈a18 l,∃a k n rest,r=D.str a::.int k n::rest:=by
 intro r h;obtain⟨b,_,rfl⟩:=Fs.1 h;exact⟨_,_,_,_,rfl⟩
theorem c2C(l:List (Pr×X2)):∀r∈a3J l,∃a k n rest,r=D.str a::.int k n::rest:=by
 intro r h;obtain⟨b,_,rfl⟩:=Fs.1 h;exact⟨_,_,_,_,rfl⟩
def b2n(b:Bool):Nat:=if b then 1 else 0
@[simp] theorem a8T:b2n true=1:=rfl
@[simp] theorem b4z:b2n false=0:=rfl
theorem b9Y(b:Bool):b2n b<=1:=by cases b<;>simp
def num(f:Nat->Bool):Nat->Nat
 |0=>0
 |n+1=>num f n+b2n (f n)*2^n
theorem a2g(f:Nat->Bool):∀n,num f n<2^n
 |0=>by simp[num]
 |n+1=>by
  have:=a2g f n;grind[num,b2n]
theorem a5e{f g:Nat->Bool}:∀{n:Nat},(∀i,i<n->f i=g i)->num f n=num g n
 |0,_=>rfl
 |n+1,h=>by rw[num,num,a5e λi hi=>h i oJ,h n oJ]
theorem b14{f g:Nat->Bool}:∀{n:Nat},num f n=num g n->∀i,i<n->f i=g i
 |0,_,i,hi=>by omega
 |n+1,h,i,hi=>by
  simp only[num]at h;have h1:=a2g f n;have h2:=a2g g n;have hp:0<2^n:=GU sJ;have e:f n=g n/\num f n=num g n:=by
   cases hf:f n<;>cases hg:g n<;>simp[hf,hg]at h⊢<;>omega
  rcases Ky i n with jF|jF
  .exact b14 e.2 i jF
  grind
theorem a7P:∀n,num (λ_=>false) n=0
 |0=>rfl
 |n+1=>by simp[num,a7P n]
theorem a64(f:Nat->Bool)(k:Nat):∀n,num f (k+n)=num f k+num (λi=>f (k+i)) n*2^k
 |0=>by simp[num]
 |n+1=>by
  rw[<- Hu,num,num,a64 f k n,HX,Nat.pow_add,Hu];grind
def a7x(A B:Nat->Bool)(c:Bool):Nat->Bool
 |0=>c
 |i+1=>(A i&&B i)||((A i != B i)&&a7x A B c i)
def a2O(A B:Nat->Bool)(c:Bool)(i:Nat):Bool:=(A i != B i) != a7x A B c i
theorem c0N(A B:Nat->Bool)(c:Bool):∀n,num (a2O A B c) n+b2n (a7x A B c n)*2^n=num A n+num B n+b2n c
 |0=>by simp[num,a7x]
 |n+1=>by
  have ih:=c0N A B c n;simp only[num,a7x,a2O,Kz];cases A n<;>cases B n<;>cases hc:a7x A B c n<;>simp[hc]at ih⊢<;>omega
theorem b0Q(A B:Nat->Bool)(c:Bool)(n:Nat):num (a2O A B c) n=(num A n+num B n+b2n c)%2^n:=by
 rw[<- c0N A B c n,Jd,HA (a2g _ _)]
theorem b2J(A:Nat->Bool):∀n,num (λi=>!A i) n+num A n+1=2^n
 |0=>by simp[num]
 |n+1=>by
  have ih:=b2J A n;simp only[num,Kz];cases A n<;>simp<;>omega
def a5F(A B:Nat->Bool):Nat->Bool
 |0=>false
 |i+1=>if A i != B i then B i else a5F A B i
theorem b1x(A B:Nat->Bool):∀n,a5F A B n=decide (num A n<num B n)
 |0=>by simp[a5F,num]
 |n+1=>by
  have ih:=b1x A B n;have h1:=a2g A n;have h2:=a2g B n;simp only[a5F,num];rw[FV];rcases Jx (A n)with hA|hA<;>rcases Jx (B n)with hB|hB<;>simp[hA,hB,ih]<;>omega
def W3(n:Int)(w:Nat):Int:=(n+2^(w-1))%2^w-2^(w-1)
def a0d(f:Nat->Bool)(w:Nat):Int:=(num f w:Int)-(b2n (f (w-1)):Int)*2^w
theorem a6b(w:Nat):(0:Int)<2^w:=by
 have:(0:Int)<((2^w:Nat):Int):=by exact_mod_cast GU sJ
 simpa using this
variable{w:Nat}
theorem a9F(h:0<w):(2:Int)^w=2*2^(w-1):=by
 obtain⟨k,rfl⟩:∃k,w=k+1:=⟨w-1,oJ⟩
 grind
theorem a94{a b:Int}(h:a%2^w=b%2^w):W3 a w=W3 b w:=by
 grind[W3,Int.add_emod]
theorem a6Y(h:0<w)(h1:-2^(w-1)<=n)(h2:n<2^(w-1)):W3 n w=n:=by
 unfold W3;rw[GQ oJ (by grind[a9F])];omega
theorem b27(h:0<w):-2^(w-1)<=W3 n w/\W3 n w<2^(w-1):=by
 unfold W3;have hp:=a6b w;have h1:=Is (n+2^(w-1)) (b:=2^w) oJ;have h2:=Iu (n+2^(w-1)) hp;have:=a9F h;omega
theorem c17:W3 n w%2^w=n%2^w:=by
 unfold W3;simp
variable{f:Nat->Bool}
theorem b6f(h:0<w):f (w-1)=decide (2^(w-1)<=num f w):=by
 obtain⟨k,rfl⟩:∃k,w=k+1:=⟨w-1,oJ⟩
 have h1:=a2g f k;simp only[Nat.add_sub_cancel,num];cases f k<;>simp<;>omega
theorem b0z(h:0<w):a0d f w=W3 (num f w) w:=by
 have ht:=b6f (f:=f) h;have hl:=a2g f w;have hp:=a9F h;have kE:(num f w:Int)<2^w:=by grind
 unfold a0d;have EN:(0:Int)<=num f w:=Hd _;by_cases hc:2^(w-1)<=num f w
 .rw[ht,FN hc]
  have js:(2:Int)^(w-1)<=num f w:=by grind
  rw[<- a94 (a:=(num f w:Int)-2^w) (b:=num f w) sJ,a6Y h oJ oJ];simp
 .rw[ht,FP hc]
  have js:(num f w:Int)<2^(w-1):=by grind
  rw[a6Y h oJ oJ];simp
variable{g:Nat->Bool}
theorem b6c(hw:0<w)(h:∀i,i<w->f i=g i):a0d f w=a0d g w:=by
 grind[a0d,a5e]
def partAt(A:Nat->Bool)(b:Bool)(i j:Nat):Bool:=decide (i<=j)&&(A (j-i)&&b)
theorem c7y(A:Nat->Bool)(b:Bool)(h:i<=w):num (partAt A b i) w=b2n b*(num A (w-i)*2^i):=by
 obtain⟨n,rfl⟩:∃n,w=i+n:=⟨w-i,oJ⟩
 rw[a64];have e1:num (partAt A b i) i=0:=by
  rw[<- a7P i];exact a5e λj hj=>by simp[partAt];omega
 have e2:num (λj=>partAt A b i (i+j)) n=b2n b*num A n:=by
  cases b with
  |false=>rw[b4z,Nat.zero_mul,<- a7P n];exact a5e λj _=>by simp[partAt]
  |true=>rw[a8T,Kg];exact a5e λj _=>by simp[partAt]
 grind
def a6X(A B:Nat->Bool):Nat->(Nat->Bool)
 |0=>λ_=>false
 |i+1=>a2O (a6X A B i) (partAt A (B i) i) false
theorem c1G(A B:Nat->Bool){w:Nat}:∀{i:Nat},i<=w->num (a6X A B i) w=(num A w*num B i)%2^w
 |0,_=>by simp[a6X,num,a7P]
 |i+1,h=>by
  have ih:=c1G A B (w:=w) (i:=i) oJ;rw[a6X,b0Q,ih,c7y A (B i) oJ,b4z,GN,num,Nat.mul_add];have hs:num A w*2^i%2^w=num A (w-i)*2^i%2^w:=by
   have:=a64 A (w-i) i;rw[show w-i+i=w by omega]at this;rw[this,HX,Nat.mul_assoc,<- Nat.pow_add,show w-i+i=w by omega,Jd]
  cases B i with
  |false=>simp
  |true =>
   rw[a8T,Kg,Kg,Nat.mod_add_mod,Nat.add_mod,<- hs,<- Nat.add_mod]
def a41(r:Nat->Bool)(d:Bool)(j:Nat):Bool:=if j=0 then d else r (j-1)
theorem c1b(r:Nat->Bool)(d:Bool)(h:0<w):num (a41 r d) w=b2n d+2*num r (w-1):=by
 obtain⟨n,rfl⟩:∃n,w=1+n:=⟨w-1,oJ⟩
 rw[a64];have e2:num (λj=>a41 r d (1+j)) n=num r n:=a5e λj _=>by
  simp only[a41];rw[so oJ];congr 1;omega
 grind[num,a41]
def a5O(c:Bool)(A B:Nat->Bool)(j:Nat):Bool:=if c then A j else B j
theorem b68(c:Bool)(A B:Nat->Bool)(w:Nat):num (a5O c A B) w=if c then num A w else num B w:=by
 grind[a5e,a5O]
mutual
def a2o(X Y:Nat->Bool)(w:Nat):Nat->(Nat->Bool)
 |0=>λ_=>false
 |k+1=>a5O (!a5F (a41 (a2o X Y w k) (X (w-1-k))) Y w) (a2O (a41 (a2o X Y w k) (X (w-1-k))) (λj=>!Y j) true) (a41 (a2o X Y w k) (X (w-1-k)))
end
def a8Y(X Y:Nat->Bool)(w k:Nat):Bool:=!a5F (a41 (a2o X Y w k) (X (w-1-k))) Y w
def a1C(X Y:Nat->Bool)(w i:Nat):Bool:=a8Y X Y w (w-1-i)
variable{A:Nat->Bool}
theorem c2R{B:Nat->Bool}(h:num B w<=num A w):num (a2O A (λj=>!B j) true) w=num A w-num B w:=by
 rw[b0Q,a8T];have h1:=b2J B w;have h2:=a2g A w;rw[show num A w+num (λj=>!B j) w+1=(num A w-num B w)+2^w by omega,Nat.add_mod_right,HA oJ]
variable{k:Nat}
theorem b8Q(X:Nat->Bool)(h:k<w):num X w/2^(w-(k+1))=2*(num X w/2^(w-k))+b2n (X (w-1-k)):=by
 have h1:=a64 X (w-(k+1)) (k+1);rw[show w-(k+1)+(k+1)=w by omega]at h1;have h2:=a64 X (w-k) k;rw[show w-k+k=w by omega]at h2;have p1:0<2^(w-(k+1)):=GU sJ;have p2:0<2^(w-k):=GU sJ;have e1:num X w/2^(w-(k+1))=num (λi=>X (w-(k+1)+i)) (k+1):=by
  rw[h1,Ka _ _ p1,HV (a2g _ _),GJ]
 have e2:num X w/2^(w-k)=num (λi=>X (w-k+i)) k:=by
  rw[h2,Ka _ _ p2,HV (a2g _ _),GJ]
 rw[e1,e2,show k+1=1+k by omega,a64];have e3:num (λi=>(λi=>X (w-(1+k)+i)) (1+i)) k=num (λi=>X (w-k+i)) k:=a5e λi _=>by
  show X _=X _
  congr 1;omega
 grind[num]
variable{y:Nat}
theorem c1f{x d:Nat}(hy:0<y)(hd:d<=1):(2*x+d)/y=2*(x/y)+(if y<=2*(x%y)+d then 1 else 0)/\(2*x+d)%y=if y<=2*(x%y)+d then 2*(x%y)+d-y else 2*(x%y)+d:=by
 have hmod:=Nat.mod_add_div x y;have jq:=Ja x hy;have hx:2*x+d=2*(x%y)+d+y*(2*(x/y)):=by rw[Nat.mul_left_comm];omega
 rw[hx,Kh _ _ hy,Jj];split
 .rename_i hc
  have e:2*(x%y)+d=(2*(x%y)+d-y)+y*1:=oJ;constructor
  .rw[e,Kh _ _ hy,HV oJ];omega
  .rw[e,Jj,HA oJ];omega
 grind[Nat.div_eq_of_lt,Nat.mod_eq_of_lt]
theorem b9S{r:Nat->Bool}(hw:0<w)(h:num r w<2^(w-1)):num r (w-1)=num r w:=by
 obtain⟨v,rfl⟩:∃v,w=v+1:=⟨w-1,oJ⟩
 have ht:=b6f (f:=r) hw;rw[FP oJ]at ht;simp_all[num]
theorem b3l(X Y:Nat->Bool){w:Nat}(hw:0<w)(hy:0<num Y w)(mP:num Y w<=2^(w-1)):∀{k:Nat},k<=w->num (a2o X Y w k) w=num X w/2^(w-k)%num Y w
 |0,_=>by
  have:=a2g X w;rw[JN,HV this,Nat.zero_mod];exact a7P w
 |k+1,h=>by
  have ih:=b3l X Y hw hy mP (k:=k) oJ;have jq:=Ja (num X w/2^(w-k)) hy;have hs:=c1b (a2o X Y w k) (X (w-1-k)) hw;rw[b9S hw oJ,ih,Nat.add_comm]at hs;rw[a2o,b68,b1x,b8Q X (w:=w) (k:=k) oJ,(c1f hy (b9Y _)).2,<- hs];by_cases hc:num (a41 (a2o X Y w k) (X (w-1-k))) w<num Y w
  .rw[FN hc]
   simp only[Ku,Fw,FF];rw[so oJ]
  simp_all[c2R]
theorem c9p(X Y:Nat->Bool)(hw:0<w)(hy:0<num Y w)(mP:num Y w<=2^(w-1))(h:k<w):num X w/2^(w-(k+1))/num Y w=2*(num X w/2^(w-k)/num Y w)+b2n (a8Y X Y w k):=by
 have ih:=b3l X Y hw hy mP (k:=k) oJ;have jq:=Ja (num X w/2^(w-k)) hy;have hs:=c1b (a2o X Y w k) (X (w-1-k)) hw;rw[b9S hw oJ,ih,Nat.add_comm]at hs;rw[a8Y,b1x,b8Q X h,(c1f hy (b9Y _)).1,<- hs];congr 1
 by_cases hc:num (a41 (a2o X Y w k) (X (w-1-k))) w<num Y w
 .rw[FN hc,so oJ];rfl
 simp_all[FP]
theorem b7I(X Y:Nat->Bool){w:Nat}(hw:0<w)(hy:0<num Y w)(mP:num Y w<=2^(w-1)):∀{k:Nat},k<=w->num (λi=>a1C X Y w (w-k+i)) k=num X w/2^(w-k)/num Y w
 |0,_=>by
  have:=a2g X w;rw[JN,HV this,Nat.zero_div];rfl
 |k+1,h=>by
  have ih:=b7I X Y hw hy mP (k:=k) oJ;rw[c9p X Y hw hy mP oJ,<- ih,show k+1=1+k by omega,a64];have e3:num (λi=>(λi=>a1C X Y w (w-(1+k)+i)) (1+i)) k=num (λi=>a1C X Y w (w-k+i)) k:=a5e λi _=>by
   show a1C X Y w _=a1C X Y w _
   congr 1;omega
  grind[a1C,num]
theorem c5E(X Y:Nat->Bool)(hw:0<w)(hy:0<num Y w)(mP:num Y w<=2^(w-1)):num (a1C X Y w) w=num X w/num Y w:=by
 have:=b7I X Y hw hy mP (k:=w) (sm _);grind
theorem c6z(X Y:Nat->Bool)(hw:0<w)(hy:0<num Y w)(mP:num Y w<=2^(w-1)):num (a2o X Y w w) w=num X w%num Y w:=by
 simp_all[b3l]
def X1(c:Bool)(A:Nat->Bool):Nat->Bool:=a5O c (a2O (λ_=>false) (λj=>!A j) true) A
theorem c07(c:Bool)(A:Nat->Bool)(w:Nat):num (X1 c A) w=if c then(2^w-num A w)%2^w else num A w:=by
 rw[X1,b68];cases c
 .rfl
 .simp only[FG]
  have:=b2J A w;grind[b0Q,a7P,a8T]
theorem c2f(c:Bool)(A:Nat->Bool)(w:Nat):(num (X1 c A) w:Int)%2^w=(if c then -(num A w:Int)else(num A w:Int))%2^w:=by
 have hl:=a2g A w;rw[c07];cases c
 .rfl
 .simp only[FG]
  grind[Int.emod_emod_of_dvd,Int.dvd_refl,Int.add_emod_right]
def a5W(t:List Nd)(i:Nat):Int:=if(nd t (item t i)).kind=3 then(nd t (item t i)).num 0 else 1
def a4v(t:List Nd)(kind:Int)(i:Nat):Int:=if kind=1 then 1 else min (a5W t i) 100
def a0J(t:List Nd)(kind:Int):Nat->Int
 |0=>0
 |i+1=>if a0J t kind i<100/\(nd t i).kind=kind then a0J t kind i+a4v t kind i else a0J t kind i
theorem b9v{t:List Nd}{kind:Int}{i:Nat}(h:100<=a0J t kind i):∀{j:Nat},i<=j->a0J t kind j=a0J t kind i
 |0,hj=>by
  grind
 |j+1,hj=>by
  by_cases e:i=j+1
  .subst e;rfl
  .have ih:=b9v h (j:=j) oJ
   rw[a0J,so oJ,ih]
structure a6Z(t:List Nd)(i:Nat):Prop where
 chan:(nd t i).kind=1->1<=(nd t i).num 0/\(nd t i).num 0<=3/\1<=(nd t i).num 1/\(nd t i).num 1<=8/\a0J t 1 (i+1)<=3
 var:(nd t i).kind=2->1<=(nd t i).num 0/\(nd t i).num 0<=8/\W3 ((nd t i).num 1) ((nd t i).num 0).toNat=(nd t i).num 1/\a0J t 2 (i+1)<=8
 proc:(nd t i).kind=3->1<=(nd t i).num 0/\a0J t 3 (i+1)<=4
 lit:(nd t i).kind=17->(nd t i).num 0<=127
structure a30(t:List Nd):Prop where
 iB:∀i,i<t.length->a6Z t i
theorem b9E(h:Y9 t)(hi:i<t.length):item t i<=i:=by
 by_cases h0:i=0
 .subst h0
  have:item t 0=0:=b3f λk hk=>by have:=h.cP.mem k hk;omega
  omega
 .obtain⟨b,_,_,h3,_⟩:=c3C h oJ hi
  exact h3
theorem b9R(h:Y9 t)(hi:i<t.length):0<=a5W t i/\a5W t i<=999999:=by
 have:=b9E h hi;unfold a5W;split
 .rename_i h3
  exact(h.ok.node _ oJ).copies h3
 .omega
variable{kind:Int}
theorem b7A(h:Y9 t)(hi:i<t.length):0<=a4v t kind i/\a4v t kind i<=100:=by
 have:=b9R h hi;grind[a4v]
theorem b5K{t:List Nd}(h:Y9 t){kind:Int}:∀{i:Nat},i<=t.length->0<=a0J t kind i/\a0J t kind i<200
 |0,_=>by simp[a0J]
 |i+1,hi=>by
  have ih:=b5K h (kind:=kind) (i:=i) oJ;have:=b7A h (kind:=kind) (i:=i) oJ;grind[a0J]
def a7p(x:Nd):Ch:=⟨x.word 0,x.num 0,x.num 1,x.num 2==1,x.num 3==1⟩
def a4G(x:Nd):Vr:=⟨x.word 0,x.num 0,x.num 1⟩
structure Ga where
 ch:List Ch
 vs:List Vr
 sf:List Nat
 dead:Bool
def bo(t:List Nd)(a:Ga)(k:Nat):Ga :=
 if(nd t k).kind=1 then{ a with ch:=a.ch++[a7p (nd t k)] }
 else if(nd t k).kind=2 then{ a with vs:=a.vs++[a4G (nd t k)] }
 else if(nd t k).kind=4 then{ a with sf:=a.sf++[(nd t k).aE 0] }
 else if(nd t k).kind=5 then{ a with dead:=true }else a
def a1i(t:List Nd)(l:List Nat):Ga:=l.foldl (bo t) ⟨[],[],[],false⟩
theorem c4T(t:List Nd)(l:List Nat)(k:Nat):a1i t (l++[k])=bo t (a1i t l) k:=by simp[a1i]
theorem b3j(t:List Nd)(l:List Nat):(a1i t l).ch.length<=l.length/\(a1i t l).vs.length<=l.length/\(a1i t l).sf.length<=l.length:=by
 have key:∀(l:List Nat)(a:Ga)(n:Nat),a.ch.length<=n/\a.vs.length<=n/\a.sf.length<=n->(l.foldl (bo t) a).ch.length<=n+l.length/\(l.foldl (bo t) a).vs.length<=n+l.length/\(l.foldl (bo t) a).sf.length<=n+l.length:=by
  intro l;induction l with
  |nil=>simp
  |cons k l ih =>
   intro a n h;have:=ih (bo t a k) (n+1) (by
    obtain⟨h1,h2,h3⟩:=h;unfold bo;by_cases c1:(nd t k).kind=1
    .rw[Fk c1];simp only[Fq,Hy];omega
    rw[so c1];by_cases c2:(nd t k).kind=2
    .rw[Fk c2];simp only[Fq,Hy];omega
    rw[so c2];by_cases c4:(nd t k).kind=4
    .rw[Fk c4];simp only[Fq,Hy];omega
    rw[so c4];by_cases c5:(nd t k).kind=5
    .rw[Fk c5];simp only;omega
    rw[so c5];omega)
   grind
 have:=key l ⟨[],[],[],false⟩ 0 sJ;simpa[a1i]using this
def Y5(t:List Nd)(x:Nd):Nat:=(x.ks.takeWhile λk=>(nd t k).kind==2).length
def a1q(t:List Nd)(x:Nd):List Nd:=(x.ks.take (Y5 t x)).map (nd t)
theorem a8N(t:List Nd)(x:Nd):Y5 t x<=x.ks.length:=(List.takeWhile_prefix _).length_le
@[simp] theorem a6g(t:List Nd)(x:Nd):(a1q t x).length=Y5 t x:=by simp[a1q,a8N]
variable{x:Nd}
theorem b1d(h:i<Y5 t x)(hi:i<x.ks.length):(nd t x.ks[i]).kind=2:=by
 have key:∀(l:List Nat)(p:Nat->Bool)(i:Nat)(h:i<l.length),i<(l.takeWhile p).length->p l[i]=true:=by
  intro l p;induction l with
  |nil=>simp
  |cons a l ih =>
   grind[List.takeWhile_cons]
 have:=key x.ks (λk=>(nd t k).kind==2) i hi h;simpa using this
theorem b6O(hi:Y5 t x<x.ks.length):(nd t x.ks[Y5 t x]).kind≠2:=by
 have key:∀(l:List Nat)(p:Nat->Bool)(h:(l.takeWhile p).length<l.length),p l[(l.takeWhile p).length]=false:=by
  intro l p;induction l with
  |nil=>intro h;simp at h
  |cons a l ih =>
   grind[List.takeWhile_cons]
 have:=key x.ks (λk=>(nd t k).kind==2) hi;intro e;rw[FA]at this;exact this e
def eW(x:Nd)(c seen:Nat)(vs:List Vr)(l:List Nd):Pr :=
 ⟨x.word 0,c,(List.range l.length).map (vs.length+·),2,[false,true],[],(vs.take seen).map Vr.name++l.map (λy=>y.word 0),List.range seen++(List.range l.length).map (vs.length+·)⟩
def a8b(t:List Nd)(ch:List ByteArray)(k seen c:Nat)(vs:List Vr):Pr :=
 a3C (X5 t ch (t.length+1)) k (eW (nd t k) c seen vs (a1q t (nd t k))) ((nd t k).ks.drop (Y5 t (nd t k))) 0 1
def a05(t:List Nd)(ch:List ByteArray)(k seen:Nat):Nat->List Vr×List Pr->List Vr×List Pr
 |0,a=>a
 |c+1,a=>((a05 t ch k seen c a).1++(a1q t (nd t k)).map a4G,(a05 t ch k seen c a).2++[a8b t ch k seen c (a05 t ch k seen c a).1])
structure Gb where
 seen:Nat
 vs:List Vr
 ps:List Pr
def a3j(t:List Nd)(ch:List ByteArray)(a:Gb)(k:Nat):Gb :=
 if(nd t k).kind=3 then⟨a.seen,(a05 t ch k a.seen ((nd t k).num 0).toNat (a.vs,a.ps)).1,(a05 t ch k a.seen ((nd t k).num 0).toNat (a.vs,a.ps)).2⟩
 else if(nd t k).kind=2 then⟨a.seen+1,a.vs,a.ps⟩else a
def a2e(t:List Nd)(ch:List ByteArray)(vs:List Vr)(l:List Nat):Gb:=l.foldl (a3j t ch) ⟨0,vs,[]⟩
theorem b6v(t:List Nd)(ch:List ByteArray)(vs:List Vr)(l:List Nat)(k:Nat):a2e t ch vs (l++[k])=a3j t ch (a2e t ch vs l) k:=by simp[a2e]
structure Mo where
 tree:List Nd
 globals:Nat
 ae:List Ch
 vars:List Vr
 procs:List Pr
 safe:List Nat
 dead:Bool
def W5(t:List Nd):Ga:=a1i t (nd t 0).ks
def bx(t:List Nd):List ByteArray:=(W5 t).ch.map Ch.name
def eX(t:List Nd):Gb:=a2e t (bx t) (W5 t).vs (nd t 0).ks
def a20(t:List Nd):Mo:=⟨t,(W5 t).vs.length,(W5 t).ch,(eX t).vs,(eX t).ps,(W5 t).sf,(W5 t).dead⟩
theorem b6y(t:List Nd)(ch:List ByteArray)(k seen:Nat):∀(c:Nat)(a:List Vr×List Pr),∃l,(a05 t ch k seen c a).1=a.1++l
 |0,a=>⟨[],by simp[a05]⟩
 |c+1,a=>by
  obtain⟨l,hl⟩:=b6y t ch k seen c a;grind[a05]
theorem c0Z(t:List Nd)(ch:List ByteArray)(a:Gb)(k:Nat):∃l,(a3j t ch a k).vs=a.vs++l:=by
 unfold a3j;split
 .simp[b6y]
 .split<;>exact⟨[],sJ⟩
theorem b3F(t:List Nd)(ch:List ByteArray)(vs:List Vr):∀(l:List Nat),∃m,(a2e t ch vs l).vs=vs++m:=by
 intro l;have key:∀(l:List Nat)(a:Gb),(∃m,a.vs=vs++m)->∃m,(l.foldl (a3j t ch) a).vs=vs++m:=by
  intro l;induction l with
  |nil=>intro a h;exact h
  |cons k l ih =>
   intro a ⟨m,hm⟩;obtain⟨m2,qB⟩:=c0Z t ch a k;simp_all
 exact key l _ ⟨[],sJ⟩
theorem b8T(t:List Nd)(ch:List ByteArray)(vs:List Vr)(l:List Nat):(a2e t ch vs l).seen=(a1i t l).vs.length:=by
 have key:∀(l:List Nat)(a:Ga)(b:Gb),b.seen=a.vs.length->(l.foldl (a3j t ch) b).seen=(l.foldl (bo t) a).vs.length:=by
  intro l;induction l with
  |nil=>simp
  |cons k l ih =>
   intro a b h;simp only[Hl];refine ih _ _ ?_;unfold a3j bo;grind
 exact key l _ _ rfl
theorem c4F(t:List Nd)(l m:List Nat):(a1i t l).vs.length<=(a1i t (l++m)).vs.length:=by
 have key:∀(m:List Nat)(a:Ga),a.vs.length<=(m.foldl (bo t) a).vs.length:=by
  intro m;induction m with
  |nil=>intro a;exact sm _
  |cons k m ih =>
   intro a;refine FE ?_ (ih (bo t a k));unfold bo;repeat' split
   all_goals simp
 grind[a1i]
theorem a1W.length{t:List Nd}:∀{ks:List Int}{a n:Nat},a1W t ks a n->ks.length+a<=n
 |[],a,n,h=>by grind[a1W]
 |k::ks,a,n,h=>by
  obtain⟨_,b,h1,h2⟩:=h;have:=h1.lt;have:=h2.length;grind
theorem KF.mem{t:List Nd}{g:Nat}:∀{ks:List Int}{a n:Nat},KF t g ks a n->n<=t.length->∀k∈ks,∃b,a0z t g k.toNat=(b,true)/\k.toNat<b/\b<=n/\(k.toNat:Int)=k/\a<=k.toNat
 |[],a,n,h,_=>by simp
 |z::zs,a,n,h,hn=>by
  obtain⟨rfl,h1,b,h2,h3,h4,h5⟩:=h.cons;have hle:=h5.le;intro k hk;rcases Fi.1 hk with rfl|hk
  .grind
  .obtain⟨c,c1,c2,c3,c4,c5⟩:=h5.mem hn k hk
   grind
theorem Y9.kf(h:Y9 t):KF t 19 (nd t 0).kids 1 t.length:=by
 obtain⟨g',hg,hk⟩:=a4P h.walk;grind
theorem Y9.item(h:Y9 t)(hk:k∈(nd t 0).ks):1<=k/\k<t.length/\∃b,a0z t 19 k=(b,true)/\k<b/\b<=t.length/\KF t 18 (nd t k).kids (k+1) b:=by
 obtain⟨z,hz,rfl⟩:=Fs.1 hk;obtain⟨b,b1,b2,b3,b4,b5⟩:=h.kf.mem (sm _) z hz;obtain⟨g',hg,jg⟩:=a4P b1;grind
theorem KF.length{t:List Nd}{g:Nat}:∀{ks:List Int}{a n:Nat},KF t g ks a n->ks.length+a<=n
 |[],a,n,h=>by have:=h.nil;simp;omega
 |z::zs,a,n,h=>by
  obtain⟨_,_,b,_,h1,_,h2⟩:=h.cons;have:=h2.length;grind
theorem KF.drop{t:List Nd}{g:Nat}:∀(i:Nat){ks:List Int}{a n:Nat},KF t g ks a n->∃b,a<=b/\KF t g (ks.drop i) b n
 |0,ks,a,n,h=>⟨a,sm _,h⟩
 |i+1,[],a,n,h=>⟨a,sm _,h⟩
 |i+1,z::zs,a,n,h=>by
  obtain⟨_,_,b,_,h1,_,h2⟩:=h.cons;obtain⟨c,c1,c2⟩:=h2.drop i;exact⟨c,oJ,c2⟩
theorem b4l(h:i<x.kids.length):x.ks.take (i+1)=x.ks.take i++[x.aE i]:=by
 grind[List.take_succ_eq_append_getElem,Nd.ks,Nd.aE]
theorem a8j(h:i<x.ks.length):x.ks[i]=x.aE i:=by
 grind[Nd.ks,Nd.aE]
theorem a5U(hT:Z0 d t)(hk:k<t.length)(hi:i<(nd t k).aI.length):W7 1 (nd t k).dn (.int .i64 (i:Int))=some (.fp [.int .i64 ((nd t k).num i)] 0):=by
 rw[a8h hi];exact FI.idx (hT.nd hk).n hi
theorem Hp.newR(h:Hp s W R)(z:Z7)(cs:List D):Hp ((s.push z).set s.next (some (.cells cs))) W ((s.next,cs)::R):=by
 have hf:Fr [] s ((s.push z).set s.next (some (.cells cs))):=(Fr.push _).aC _ (.inr (sm _));have h':=h.fr hf;refine⟨h'.nd,λw hw r hr=>?_,h'.w,λx hx=>?_⟩
 .rcases Fi.1 hr with rfl|hr
  .have:=t3 (h.w w hw)
   simp only;omega
  .exact h.ap w hw r hr
 .rcases Fi.1 hx with rfl|hx
  .exact a0b sJ
  .exact h'.r x hx
theorem Hp.dU(h:Hp s W R)(z:Z7)(cs:List D):Hp ((s.push z).set s.next (some (.cells cs))) ((s.next,cs)::W) R:=by
 have hf:Fr [] s ((s.push z).set s.next (some (.cells cs))):=(Fr.push _).aC _ (.inr (sm _));have h':=h.fr hf;refine⟨?_,λw hw r hr=>?_,λx hx=>?_,h'.r⟩
 .rw[FJ,Hf]
  refine⟨λhm=>?_,h.nd⟩;obtain⟨x,hx,e⟩:=Fs.1 hm;have:=t3 (h.w x hx);simp only at e;omega
 .rcases Fi.1 hw with rfl|hw
  .have:=t3 (h.r r hr)
   simp only;omega
  .exact h.ap w hw r hr
 .rcases Fi.1 hx with rfl|hx
  .exact a0b sJ
  .exact h'.w x hx
theorem Hp.pushR(h:Hp s W R)(cs:List D):Hp (s.push (.cells cs)) W ((s.next,cs)::R):=by
 have h':=h.push (.cells cs);refine⟨h'.nd,λw hw r hr=>?_,h'.w,λx hx=>?_⟩
 .rcases Fi.1 hr with rfl|hr
  .have:=t3 (h.w w hw)
   simp only;omega
  .exact h.ap w hw r hr
 .rcases Fi.1 hx with rfl|hx
  .exact W8 rfl
  .exact h'.r x hx
theorem Y9.sub(h:Y9 t):Sub t 0 t.length:=(a6I 20 h.ok.pos h.walk).1
variable{j:Nat}
theorem b09(h:(j:Int)∈x.kids):j∈x.ks:=Fs.2 ⟨_,h,sJ⟩
theorem b6r(h:a2a t){p:Nat}(hp:p<t.length)(hk:k∈(nd t p).ks) :
 ((nd t p).kind=0/\1<=(nd t k).kind/\(nd t k).kind<=5)\/((nd t p).kind=3/\((nd t k).kind=2\/a5M (nd t k).kind))\/((nd t p).kind≠3/\(nd t p).kind≠0/\6<=(nd t k).kind):=by
 have iT:=h.node p hp;have hr:=iT.kr;have jt:(nd t p).kids≠[]:=by grind[Nd.ks]
 have kidx:∃i,i<(nd t p).kids.length/\k=(nd t p).aE i:=by grind[List.getElem_of_mem,a4H,a8j]
 obtain⟨i,hi,rfl⟩:=kidx;by_cases c0:(nd t p).kind=0
 .exact .inl ⟨c0,iT.prog c0 _ hk⟩
 by_cases c3:(nd t p).kind=3
 .obtain⟨v,_,h1,h2⟩:=iT.proc c3
  grind[List.take_append_drop]
 refine .inr (.inr ⟨c3,c0,?_⟩);by_cases a:(nd t p).kind=4\/(nd t p).kind=6\/(nd t p).kind=7\/(nd t p).kind=9\/(nd t p).kind=20\/(nd t p).kind=21
 .have:=iT.one a
  obtain rfl:i=0:=oJ;have:=this.2.1;omega
 by_cases b:(nd t p).kind=10
 .have:=(iT.choose b).2 _ hk;omega
 by_cases c:(nd t p).kind=11
 .obtain⟨h1,h2,h3,h4⟩:=iT.cond c
  have h2:=h2.1;grind
 by_cases d:(nd t p).kind=12
 .obtain⟨h1,h2,h3⟩:=iT.loop d
  have h2:=h2.1;grind
 by_cases e:(nd t p).kind=13
 .obtain⟨h1,h2⟩:=iT.atom e
  grind
 by_cases f:(nd t p).kind=16
 .have:=(iT.block f _ hk).1;omega
 by_cases g:(nd t p).kind=22
 .obtain⟨h1,h2,h3,_⟩:=iT.bin g
  have h2:=h2.1;have h3:=h3.1;grind
 .exact(jt (iT.none oJ)).elim
theorem b5U(h:Y9 t)(h0:0<j)(hj:j<t.length):∃p,p<t.length/\p<j/\j∈(nd t p).ks:=by
 obtain⟨p,_,h2,h3⟩:=h.sub.up j h0 hj;have:=h.ok.kids p h2 _ h3;grind[b09]
theorem c0e(h:Y9 t)(hj:j<t.length)(hk:(nd t j).kind=0):j=0:=by
 by_cases h0:j=0
 .exact h0
 obtain⟨p,p1,_,p3⟩:=b5U h oJ hj;rcases b6r h.ok p1 p3 with⟨_,k1,_⟩|⟨_,k1|k1⟩|⟨_,_,k1⟩
 .omega
 .omega
 .have:=k1.1;omega
 .omega
theorem b3p(h:Y9 t)(hj:j<t.length)(hk:(nd t j).kind=1\/(nd t j).kind=3\/(nd t j).kind=4\/(nd t j).kind=5):j∈(nd t 0).ks:=by
 have h0:j≠0:=by rintro rfl;have:=h.ok.root;omega
 obtain⟨p,p1,_,p3⟩:=b5U h oJ hj;rcases b6r h.ok p1 p3 with⟨k0,k1,_⟩|⟨_,k1|k1⟩|⟨_,_,k1⟩
 .obtain rfl:=c0e h p1 k0
  exact p3
 .omega
 .have:=k1.1;omega
 .omega
theorem a9h{t:List Nd}{x:Nd}(h:∃v,v<=x.ks.length/\(∀k∈x.ks.take v,(nd t k).kind=2)/\∀k∈x.ks.drop v,a5M (nd t k).kind):(∀k∈x.ks.drop (Y5 t x),a5M (nd t k).kind)/\∀k∈x.ks,(nd t k).kind=2->k∈x.ks.take (Y5 t x):=by
 obtain⟨v,hv,h1,h2⟩:=h;have hl:=a8N t x;have e:Y5 t x=v:=by
  rcases Nat.lt_trichotomy (Y5 t x) v with jq|heq|yr
  .have hi:Y5 t x<x.ks.length:=oJ
   have:=b6O hi;exact(this (h1 _ (Jk.2 ⟨Y5 t x,oJ,rfl⟩))).elim
  .exact heq
  .have hi:v<x.ks.length:=oJ
   have a:=b1d yr hi;have b:=h2 x.ks[v] (by rw[List.mem_drop_iff_getElem];exact⟨0,oJ,sJ⟩);have:=b.1;omega
 rw[e];refine⟨h2,λk hk h3=>?_⟩;rw[<- Hi v x.ks]at hk;rcases Fm.1 hk with hk|hk
 .exact hk
 .have:=(h2 k hk).1;omega
theorem b6x(h:Y9 t)(hj:j<t.length)(hk:(nd t j).kind=2):j∈(nd t 0).ks\/∃p,p∈(nd t 0).ks/\(nd t p).kind=3/\j∈(nd t p).ks.take (Y5 t (nd t p)):=by
 have h0:j≠0:=by rintro rfl;have:=h.ok.root;omega
 obtain⟨p,p1,_,p3⟩:=b5U h oJ hj;rcases b6r h.ok p1 p3 with⟨k0,k1,_⟩|⟨k3,k1⟩|⟨_,_,k1⟩
 .obtain rfl:=c0e h p1 k0
  exact .inl p3
 .exact .inr ⟨p,b3p h p1 (.inr (.inl k3)),k3,(a9h ((h.ok.node p p1).proc k3)).2 j p3 hk⟩
 .omega
theorem a8q(t:List Nd)(l:List Nat):a1i t l=⟨(l.filter λk=>(nd t k).kind==1).map λk=>a7p (nd t k),(l.filter λk=>(nd t k).kind==2).map λk=>a4G (nd t k),(l.filter λk=>(nd t k).kind==4).map λk=>(nd t k).aE 0,l.any λk=>(nd t k).kind==5⟩:=by
 have key:∀(l:List Nat)(a:Ga),l.foldl (bo t) a=⟨a.ch++(l.filter λk=>(nd t k).kind==1).map λk=>a7p (nd t k),a.vs++(l.filter λk=>(nd t k).kind==2).map λk=>a4G (nd t k),a.sf++(l.filter λk=>(nd t k).kind==4).map λk=>(nd t k).aE 0,a.dead||l.any λk=>(nd t k).kind==5⟩:=by
  intro l;induction l with
  |nil=>intro a;simp
  |cons k l ih =>
   intro a;rw[Hl,ih];grind[bo]
 rw[a1i,key];simp
theorem c1u{t:List Nd}:∀{ks:List Int}{a n:Nat},a1W t ks a n->(ks.map Int.toNat).Pairwise (·<·)/\∀k∈ks.map Int.toNat,a<=k
 |[],a,n,_=>by simp
 |k::ks,a,n,h=>by
  obtain⟨rfl,b,h1,h2⟩:=h;have:=h1.lt;obtain⟨s1,s2⟩:=c1u h2;refine⟨?_,?_⟩
  .rw[FJ,Hc]
   exact⟨λx hx=>by have:=s2 x hx;simp;omega,s1⟩
  grind
theorem Y9.sorted(h:Y9 t):(nd t 0).ks.Pairwise (·<·):=(c1u h.cP).1
theorem before{l:List Nat}(h:l.Pairwise (·<·))(hi:i<l.length)(hj:j∈l)(hl:j<l[i]):j∈l.take i:=by
 obtain⟨m,hm,rfl⟩:=FQ hj;have uc:m<i:=by grind[List.pairwise_iff_getElem]
 exact Jk.2 ⟨m,oJ,rfl⟩
variable{b:Nat}{w:ByteArray}
theorem c66(h:Y9 t)(hi:i<(nd t 0).ks.length)(hk:(nd t (nd t 0).ks[i]).kind=3)(hs:Sub t (nd t 0).ks[i] b)(tD:∀q,(nd t 0).ks[i]<=q->q<b->item t q=(nd t 0).ks[i])(h1:(nd t 0).ks[i]<=j)(h2:j<b)(hw:a3I t 2 j w) :
 w∈(a1i t ((nd t 0).ks.take i)).vs.map Vr.name\/w∈(a1q t (nd t (nd t 0).ks[i])).map (λy=>y.word 0):=by
 obtain⟨m,m1,m2,m3,m4⟩:=hw;have yJ:=hs.le;have uf:m<t.length:=oJ;rw[a8q];simp only[JO,Fs,Gu,HK,IV];rw[tD j h1 h2]at m3;rcases b6x h uf m2 with v|⟨p,p1,p2,p3⟩
 .left
  refine⟨m,⟨before h.sorted hi v ?_,m2⟩,m4⟩;rcases Ky m (nd t 0).ks[i]with jq|ur
  .exact jq
  .have e1:=tD m ur oJ
   have e2:=a7L h (x:=m) (by
    obtain⟨z,hz,e⟩:=Fs.1 v;have:=(h.cP.mem z hz).1;rw[show(m:Int)=z by omega];exact hz)
   grind
 .right
  have zX:=Gh p3;obtain⟨jT,jE,c,c1,c2,c3,c4⟩:=h.item p1;have ou:(p:Int)∈(nd t 0).kids:=by
   obtain⟨z,hz,e⟩:=Fs.1 p1;have:=(h.cP.mem z hz).1;rw[show(p:Int)=z by omega];exact hz
  have oP:=(a6I 19 jE c1).1;obtain⟨b',b1,b2,b3⟩:=b79 h (x:=p) (i:=m) ou;have mE:p<m/\m<b':=by
   obtain⟨z,hz,e⟩:=Fs.1 zX;have:=b1.down p (sm _) b1.lt z hz;omega
  grind[a1q]
theorem c9G(h:Y9 t)(hj:j<t.length)(hw:a3I t 1 j w):w∈bx t:=by
 obtain⟨m,m1,m2,m3,m4⟩:=hw;have hm:=b3p h oJ (.inl m2);unfold bx W5;rw[a8q];simp only[JO,Fs,Gu,HK,IV];exact⟨m,⟨hm,m2⟩,m4⟩
theorem Hp.freeze{W' F:Hs}(h:Hp s W R)(hp:W.Perm (W'++F)):Hp s W' (F++R):=by
 have h':=h.perm hp.symm;have hn:=h'.nd;rw[FK,GP]at hn;refine⟨hn.1,λw hw r hr=>?_,h'.w.left,h'.w.right.append h'.r⟩;rcases Fm.1 hr with hr|hr
 .grind[List.mem_map_of_mem]
 .exact h'.ap w (HP _ hw) r hr
theorem a78.ne_nil(h:a78 cs):D.ag::rest≠cs:=by
 rcases h with⟨l,rfl⟩|⟨l,rfl⟩|⟨l,rfl⟩|⟨l,rfl⟩<;>cases l<;>simp[a0i,a0o,a0O,a1M,Ed.row]
structure b3c(s:k4)(m:X7)(mo:Mo)(ps:List (Pr×X2)):Prop where
 tr:Z0 m.dt mo.tree
 c:SN s 5 m.dc (a2Q mo.ae)
 v:SN s 3 m.dv (a18 mo.vars)
 p:SN s 8 m.dp (a3J ps)
 eq:ps.map Prod.fst=mo.procs
 aF:∀q∈ps,Z5 s q.1 q.2
 sf:SN s 1 m.ds (a0i mo.safe)
 g:m.g=(mo.globals:Int)
 b:m.b=mo.dead
structure MkI(s:k4)(d dc ds:D)(g:Int)(b:Bool)(z:List D)(R0:Hs)(vs:List Vr)(rq:List Pr)(dv dp:D)(Ev Ep R:Hs)(ps:List (Pr×X2)):Prop where
 v:Rp dv 3 (a18 vs) Ev
 p:Rp dp 8 (a3J ps) Ep
 eq:ps.map Prod.fst=rq
 aF:∀q∈ps,InR (λs=>Z5 s q.1 q.2) R
 sub:∀x∈R0,x∈R
 h:Hp s ((0,z)::(2,[d,.int .i64 g,dc,dv,dp,ds,.bool b])::(Ev++Ep)) R
theorem b5o(h:Y9 t)(ht:a30 t)(hk:k∈(nd t 0).ks)(h3:(nd t k).kind=3):1<=(nd t k).num 0/\(nd t k).num 0<=4:=by
 obtain⟨k1,k2,_⟩:=h.item hk;have hf:=(ht.iB k k2).proc h3;have hz:(k:Int)∈(nd t 0).kids:=by
  obtain⟨z,hz,e⟩:=Fs.1 hk;have:=(h.cP.mem z hz).1;rw[show(k:Int)=z by omega];exact hz
 have hi:=a7L h hz;have hs:=b5K h (kind:=3) (i:=k) oJ;have h2:=hf.2;rw[a0J]at h2;have e:a4v t 3 k=min ((nd t k).num 0) 100:=by
  unfold a4v a5W;rw[so dJ,hi,Fk h3]
 omega
variable{v:Nat}{vs:List Vr}
theorem c3k(h:v<vs.length):(a18 vs).flatten[v*3]?=some (.str vs[v].name):=by
 have:=b0q (b2O vs) (i:=v) (f:=0) (sU h) dJ;simp_all[a18,Vr.row]
theorem Rp.arr{d:D}{sz:Nat}{rows:List (List D)}{E:Hs}(h:Rp d sz rows E)(hn:0<rows.length):∃id,d=.arr id 0 rows.length sz/\E=[(id,rows.flatten)]:=by
 rcases h with⟨_,rfl,_⟩|⟨id,h1,h2,_⟩
 .simp at hn
 .grind
theorem c2v(h:v<vs.length):(vs.take (v+1)).map Vr.name=(vs.take v).map Vr.name++[vs[v].name]:=by
 rw[FO h,FK,Iv]
theorem b87(n k:Nat):(List.range (k+1)).map (n+·)=(List.range k).map (n+·)++[n+k]:=by
 rw[Gv,FK,Iv]
theorem b38(t:List Nd)(l m:List Nat):∃r,(a1i t (l++m)).vs=(a1i t l).vs++r:=by
 rw[a8q,a8q];simp
theorem b7c(t:List Nd)(ch:List ByteArray)(i:Nat):(a2e t ch (W5 t).vs ((nd t 0).ks.take i)).vs.take (a2e t ch (W5 t).vs ((nd t 0).ks.take i)).seen=(a1i t ((nd t 0).ks.take i)).vs/\(a2e t ch (W5 t).vs ((nd t 0).ks.take i)).seen<=(a2e t ch (W5 t).vs ((nd t 0).ks.take i)).vs.length/\(a2e t ch (W5 t).vs ((nd t 0).ks.take i)).seen<=(W5 t).vs.length:=by
 obtain⟨m,hm⟩:=b3F t ch (W5 t).vs ((nd t 0).ks.take i);obtain⟨r,hr⟩:=b38 t ((nd t 0).ks.take i) ((nd t 0).ks.drop i);grind[List.take_append_drop,W5,b8T]
variable{c seen:Nat}
theorem b7Y{ch:List ByteArray}{a:List Vr×List Pr}(h:seen<=a.1.length):(a05 t ch k seen c a).1.take seen=a.1.take seen/\a.1.length<=(a05 t ch k seen c a).1.length:=by
 obtain⟨l,hl⟩:=b6y t ch k seen c a;grind
theorem c6B(h:k<Y5 t x):(a1q t x).take (k+1)=(a1q t x).take k++[nd t (x.aE k)]:=by
 have h0:k<(a1q t x).length:=sU h;grind[List.take_succ_eq_append_getElem,a1q,a8j]
theorem Sub.uniq{b':Nat}(h:Sub t i b)(h':Sub t i b'):b=b':=by
 have key:∀{b b':Nat},Sub t i b->Sub t i b'->¬b<b':=by
  intro b b' h h' jq;obtain⟨p,p1,p2,p3⟩:=h'.up b h.lt jq;have h3:=h'.down p p1 p2 _ p3;have:=h.down p p1 oJ _ p3;omega
 grind
theorem a9d(h:Y9 t)(hk:k∈(nd t 0).ks):(k:Int)∈(nd t 0).kids:=by
 obtain⟨z,hz,e⟩:=Fs.1 hk;have:=(h.cP.mem z hz).1;grind
theorem a72(h:Y9 t)(hk:k∈(nd t 0).ks)(hs:Sub t k b):∀q,k<=q->q<b->item t q=k:=by
 obtain⟨b',b1,_,b3⟩:=b79 h (x:=k) (i:=k) (a9d h hk);rw[hs.uniq b1];exact b3
theorem c1n(h:Y9 t)(hS:a3g t){K:Nat}(hi:i<(nd t 0).ks.length)(hK:(nd t 0).ks[i]=K)(h3:(nd t K).kind=3)(hs:Sub t K b)(hv:vs.take seen=(a1i t ((nd t 0).ks.take i)).vs)(hl:seen<=vs.length) :
 ∀j,K<=j/\j<b->b1v t (W5 t).ch.length ((W5 t).ch.map Ch.name) (eW (nd t K) c seen vs (a1q t (nd t K))).names (eW (nd t K) c seen vs (a1q t (nd t K))).vars j:=by
 intro j ⟨j1,j2⟩;have hle:=hs.le;have hm:=hK▸Fp hi;have tD:=a72 h hm hs;subst hK;have kI:∀w,a3I t 2 j w->0<(eW (nd t (nd t 0).ks[i]) c seen vs (a1q t (nd t (nd t 0).ks[i]))).names.length:=λw hw=>by
  have:=c66 h hi h3 hs tD j1 j2 hw;rw[<- hv,<- Fm]at this;exact JP this
 refine⟨?_,sJ,λhk=>?_,λhk=>?_⟩
 .grind[eW]
 .rcases hk with hk|hk
  .exact kI _ (hS.use j oJ (.inl hk))
  .exact kI _ (hS.recv j oJ hk)
 .exact JP (c9G h oJ (hS.chan j oJ oJ))
variable{n:Nat}
theorem b1W(h:n<4294967296):IntKind.u32.wrap (n:Int)=(n:Int):=by
 rw[IJ];omega
theorem b1l(h:n<4294967296):(BitVec.ofInt IntKind.u32.bits (n:Int)).toNat=n:=by
 rw[Iw,show IntKind.u32.bits=32 from rfl];omega
variable{x:Nat}
theorem c4z(hx:x<4294967296)(hy:y<4294967296):IntKind.u32.wrap (a8G .u32 (x:Int) (y:Int))=((x &&& y:Nat):Int):=by
 grind[a8G,b1l,b1W,Nat.and_le_left]
theorem a67(hx:x<4294967296)(hy:y<4294967296):x ||| y<4294967296:=Nat.or_lt_two_pow (n:=32) hx hy
theorem a9A(hx:x<4294967296)(hy:y<4294967296):IntKind.u32.wrap (orI .u32 (x:Int) (y:Int))=((x ||| y:Nat):Int):=by
 grind[orI,b1l,b1W,a67]
theorem or_zero{x y:Nat}:x ||| y=0↔x=0/\y=0:=by
 simp
structure Ft where
 reads:Nat
 writes:Nat
 aW:Nat
 aY:Nat
 aX:Nat
 part:Bool
structure Ft.Ok(f:Ft):Prop where
 r:f.reads<4294967296
 w:f.writes<4294967296
 s:f.aW<4294967296
 v:f.aY<4294967296
 z:f.aX<4294967296
def Ft.row(f:Ft):List D:=[.int .u32 (f.reads:Int),.int .u32 (f.writes:Int),.int .u32 (f.aW:Int),.int .u32 (f.aY:Int),.int .u32 (f.aX:Int),.bool f.part]
structure gH(p:Pr)(x:X2):Prop where
 l:FL 1 x.dl (a0i p.locals)
 r:FL 1 x.dr (a0o p.rest)
 e:FL 8 x.de (a0O p.ai)
 n:FL 1 x.dn (a1M p.names)
 v:FL 1 x.dv (a0i p.vars)
structure Z4(m:X7)(mo:Mo)(ps:List (Pr×X2)):Prop where
 tr:Z0 m.dt mo.tree
 c:FL 5 m.dc (a2Q mo.ae)
 v:FL 3 m.dv (a18 mo.vars)
 p:FL 8 m.dp (a3J ps)
 eq:ps.map Prod.fst=mo.procs
 aF:∀q∈ps,gH q.1 q.2
 sf:FL 1 m.ds (a0i mo.safe)
 g:m.g=(mo.globals:Int)
 b:m.b=mo.dead
def a4r(f:D->Option D):List (List D)->Option (List (List D))
 |[]=>some []
 |r::rs=>match X8 f r,a4r f rs with
  |some a,some b=>some (a::b)
  |_,_=>none
theorem b60{f:D->Option D}:∀{a b a' b':List D},X8 f a=some a'->X8 f b=some b'->X8 f (a++b)=some (a'++b')
 |[],b,a',b',h1,h2=>by grind[X8]
 |d::r,b,a',b',h1,h2=>by
  simp only[X8]at h1;split at h1
  .rename_i x l e1 e2
   simp only[Gn]at h1;subst h1;rw[Fx,X8,e1,b60 e2 h2];rfl
  .cases h1
theorem c0X{f:D->Option D}:∀{a a':List D},X8 f a=some a'->a'.length=a.length
 |[],a',h=>by grind[X8]
 |d::r,a',h=>by
  simp only[X8]at h;split at h
  .rename_i x l e1 e2
   simp only[Gn]at h;subst h;simp[c0X e2]
  .cases h
theorem b84{f:D->Option D}:∀{rows jK:List (List D)},a4r f rows=some jK->X8 f rows.flatten=some jK.flatten/\jK.length=rows.length
 |[],jK,h=>by simp only[a4r,Gn]at h;subst h;exact⟨rfl,rfl⟩
 |r::rs,jK,h=>by
  simp only[a4r]at h;split at h
  .rename_i a b e1 e2
   simp only[Gn]at h;subst h;obtain⟨h1,h2⟩:=b84 e2;grind[b60]
  .cases h
theorem b9y{f:D->Option D}{sz:Nat}:∀{rows jK:List (List D)},a4r f rows=some jK->(∀r∈rows,r.length=sz)->∀r∈jK,r.length=sz
 |[],jK,h,_=>by grind[a4r]
 |r::rs,jK,h,hr=>by
  simp only[a4r]at h;split at h
  .rename_i a b e1 e2
   simp only[Gn]at h;subst h;intro y hy;rcases Fi.1 hy with rfl|hy
   .rw[c0X e1];exact hr r sJ
   .exact b9y e2 (λx hx=>hr x (by simp[hx])) y hy
  .cases h
theorem b9t{sz:Nat}:∀{rows:List (List D)},(∀r∈rows,r.length=sz)->a53 sz rows.length rows.flatten=rows
 |[],_=>rfl
 |r::rs,h=>by
  have hr:=h r sJ;rw[Gt,a53,GF,HY oJ,Gk oJ,Hh oJ,List.drop_of_length_le oJ,Fv,b9t λx hx=>h x (by simp[hx])]
theorem SN.dI{sz:Nat}{rows jK:List (List D)}(h:SN s sz d rows)(hr:∀r∈rows,r.length=sz)(hm:a4r (aK s.get n) rows=some jK)(hl:d=.bu sz rows->jK=rows):∃d',aK s.get (n+1) d=some d'/\FL sz d' jK:=by
 rcases h with⟨rfl,rfl⟩|⟨id,rfl,hg⟩|rfl
 .simp only[a4r,Gn]at hm
  exact⟨.ag,rfl,.inl ⟨rfl,hm.symm⟩⟩
 .have iS:=(SN.row (s:=s) (.inr (.inl ⟨id,rfl,hg⟩)) hr).1
  obtain⟨h1,h2⟩:=b84 hm;refine⟨.bu sz jK,?_,.inr rfl⟩;simp only[aK,iS,h1,He];rw[<- h2,b9t (b9y hm hr)]
 .exact⟨.bu sz rows,rfl,.inr (by rw[hl rfl])⟩
theorem b9T{g:a0v}{n:Nat}:∀{rows:List (List D)},(∀r∈rows,r.all a2i=true)->a4r (aK g (n+1)) rows=some rows
 |[],_=>rfl
 |r::rs,h=>by
  rw[a4r,b18 (h r sJ),b9T λx hx=>h x (by simp[hx])]
theorem SN.dK{sz:Nat}{rows:List (List D)}(h:SN s sz d rows)(hr:∀r∈rows,r.length=sz)(hs:∀r∈rows,r.all a2i=true):∃d',aK s.get (n+2) d=some d'/\FL sz d' rows:=h.dI hr (b9T hs) λ_=>rfl
theorem b1Q(l:List Nat):∀r∈a0i l,r.all a2i=true:=by intro r h;obtain⟨b,_,rfl⟩:=Fs.1 h;rfl
theorem a98(l:List Bool):∀r∈a0o l,r.all a2i=true:=by intro r h;obtain⟨b,_,rfl⟩:=Fs.1 h;rfl
theorem c8U(l:List ByteArray):∀r∈a1M l,r.all a2i=true:=by intro r h;obtain⟨b,_,rfl⟩:=Fs.1 h;rfl
theorem b8M(l:List Ed):∀r∈a0O l,r.all a2i=true:=by intro r h;obtain⟨b,_,rfl⟩:=Fs.1 h;rfl
theorem c2N(l:List Ch):∀r∈a2Q l,r.all a2i=true:=by intro r h;obtain⟨b,_,rfl⟩:=Fs.1 h;rfl
theorem c48(l:List Vr):∀r∈a18 l,r.all a2i=true:=by intro r h;obtain⟨b,_,rfl⟩:=Fs.1 h;rfl
variable{x:X2}
theorem Z5.dI(h:Z5 s p x)(n:Nat):∃x',X8 (aK s.get (n+2)) (V0 p x)=some (V0 p x')/\gH p x':=by
 obtain⟨dl,a1,b1⟩:=h.l.dK (n:=n) (a4M _) (b1Q _);obtain⟨dr,a2,b2⟩:=h.r.dK (n:=n) (a5b _) (a98 _);obtain⟨de,a3,b3⟩:=h.e.dK (n:=n) (a7v _) (b8M _);obtain⟨dn,a4,b4⟩:=h.n.dK (n:=n) (b1D _) (c8U _);obtain⟨dv,a5,b5⟩:=h.v.dK (n:=n) (a4M _) (b1Q _);refine⟨⟨dl,dr,de,dn,dv⟩,?_,b1,b2,b3,b4,b5⟩;simp_all[V0,X8,aK]
theorem c1H{s:k4}(n:Nat):∀{ps:List (Pr×X2)},(∀q∈ps,Z5 s q.1 q.2)->∃rq,a4r (aK s.get (n+2)) (a3J ps)=some (a3J rq)/\rq.map Prod.fst=ps.map Prod.fst/\∀q∈rq,gH q.1 q.2
 |[],_=>⟨[],rfl,rfl,sJ⟩
 |q::qs,h=>by
  obtain⟨x',h1,h2⟩:=(h q sJ).dI n;obtain⟨rq,h3,h4,h5⟩:=c1H n (ps:=qs) λy hy=>h y (by simp[hy])
  refine⟨(q.1,x')::rq,?_,by simp[h4],?_⟩
  .simp only[a3J,FJ]at h3⊢
   simp only[a4r,h1,h3]
  grind
theorem b3c.dI{s:k4}{m:X7}{mo:Mo}{ps:List (Pr×X2)}(h:b3c s m mo ps)(hn:m.dp≠.bu 8 (a3J ps))(b:Bool):∃m' rq,aK s.get 20 (.aT [.agg (Z6 m),.bool b])=some (.aT [.agg (Z6 m'),.bool b])/\Z4 m' mo rq:=by
 obtain⟨dc,a1,b1⟩:=h.c.dK (n:=16) (b6C _) (c2N _);obtain⟨dv,a2,b2⟩:=h.v.dK (n:=16) (b2O _) (c48 _);obtain⟨ds,a3,b3⟩:=h.sf.dK (n:=16) (a4M _) (b1Q _);obtain⟨rq,h1,h2,h3⟩:=c1H 15 h.aF;obtain⟨dp,a4,b4⟩:=h.p.dI (n:=17) (b9F _) h1 (λe=>(hn e).elim);have a5:aK s.get 18 m.dt=some m.dt:=h.tr.fl.aK;refine⟨⟨m.dt,dc,dv,dp,ds,m.g,m.b⟩,rq,?_,⟨h.tr,b1,b2,b4,h2.trans h.eq,h3,b3,h.g,h.b⟩⟩;have e1:aK s.get 18 (.int .i64 m.g)=some (.int .i64 m.g):=rfl;have e2:aK s.get 18 (.bool m.b)=some (.bool m.b):=rfl;have e3:X8 (aK s.get 18) (Z6 m)=some (Z6 ⟨m.dt,dc,dv,dp,ds,m.g,m.b⟩):=by
  simp only[Z6,X8,a5,e1,a1,a2,a4,a3,e2]
 have e4:aK s.get 19 (.agg (Z6 m))=some (.agg (Z6 ⟨m.dt,dc,dv,dp,ds,m.g,m.b⟩)):=by
  simp only[aK,e3,He]
 have e5:aK s.get 19 (.bool b)=some (.bool b):=rfl;grind[X8,aK]
variable{mo:Mo}{ps:List (Pr×X2)}
theorem Z4.aw(h:Z4 m mo ps):V5 m.dt=true/\V5 m.dc=true/\V5 m.dv=true/\V5 m.dp=true/\V5 m.ds=true:=⟨FL.one h.tr.fl,h.c.one,h.v.one,h.p.one,h.sf.one⟩
theorem gH.aw(h:gH p x):V5 x.dl=true/\V5 x.dr=true/\V5 x.de=true/\V5 x.dn=true/\V5 x.dv=true:=⟨h.l.one,h.r.one,h.e.one,h.n.one,h.v.one⟩
theorem Z4.plen(h:Z4 m mo ps):ps.length=mo.procs.length:=by rw[<- h.eq,FT]
theorem Z4.proc(h:Z4 m mo ps)(hi:i<mo.procs.length):∃x,gH mo.procs[i] x/\∀k:IntKind,W7 8 m.dp (.int k (i:Int))=some (.fp (V0 mo.procs[i] x) 0):=by
 have jF:i<ps.length:=by rw[h.plen];exact hi
 have e:mo.procs[i]=ps[i].1:=by simp[<- h.eq]
 rw[e];refine⟨ps[i].2,h.aF _ (Fp jF),λk=>?_⟩;rw[h.p.idx (sU jF)];simp[a3J]
theorem Z4.eY(h:Z4 m mo ps):a0x false m.dp=some (.int .i64 (mo.procs.length:Int)):=by rw[h.p.len,c7A,h.plen]
theorem Z4.iC(h:Z4 m mo ps):a0x false m.dc=some (.int .i64 (mo.ae.length:Int)):=by rw[h.c.len,b0x]
theorem FLN.idx{d:D}{l:List Nat}(h:FL 1 d (a0i l)){i:Nat}(hi:i<l.length){k:IntKind}:W7 1 d (.int k (i:Int))=some (.fp [.int .i64 (l[i]:Int)] 0):=by
 rw[h.idx (sU hi)];simp[a0i]
theorem FLS.idx{d:D}{l:List ByteArray}(h:FL 1 d (a1M l)){i:Nat}(hi:i<l.length){k:IntKind}:W7 1 d (.int k (i:Int))=some (.fp [.str l[i]] 0):=by
 rw[h.idx (sU hi)];simp[a1M]
theorem FLB.idx{d:D}{l:List Bool}(h:FL 1 d (a0o l)){i:Nat}(hi:i<l.length){k:IntKind}:W7 1 d (.int k (i:Int))=some (.fp [.bool l[i]] 0):=by
 rw[h.idx (sU hi)];simp[a0o]
theorem FLE.idx{d:D}{l:List Ed}(h:FL 8 d (a0O l)){i:Nat}(hi:i<l.length){k:IntKind}:W7 8 d (.int k (i:Int))=some (.fp l[i].row 0):=by
 rw[h.idx (sU hi)];simp[a0O]
theorem FLC.idx{d:D}{l:List Ch}(h:FL 5 d (a2Q l)){i:Nat}(hi:i<l.length){k:IntKind}:W7 5 d (.int k (i:Int))=some (.fp l[i].row 0):=by
 rw[h.idx (sU hi)];simp[a2Q]
theorem FLV.idx{d:D}{l:List Vr}(h:FL 3 d (a18 l)){i:Nat}(hi:i<l.length){k:IntKind}:W7 3 d (.int k (i:Int))=some (.fp l[i].row 0):=by
 rw[h.idx (sU hi)];simp[a18]
theorem gH.lenL(h:gH p x):a0x false x.dl=some (.int .i64 (p.locals.length:Int)):=by rw[h.l.len,a63]
theorem gH.lenE(h:gH p x):a0x false x.de=some (.int .i64 (p.ai.length:Int)):=by rw[h.e.len,a6S]
theorem gH.lenN(h:gH p x):a0x false x.dn=some (.int .i64 (p.names.length:Int)):=by rw[h.n.len,b5I]
def a2d(t:List Nd)(kind:Int):Nat->Int
 |0=>0
 |i+1=>a2d t kind i+if(nd t i).kind=kind then a4v t kind i else 0
theorem b3L{t:List Nd}{kind:Int}:∀{n:Nat},a0J t kind n<100->a0J t kind n=a2d t kind n
 |0,_=>rfl
 |n+1,h=>by
  rw[a2d];rw[a0J]at h⊢;by_cases c:(nd t n).kind=kind
  .by_cases d:a0J t kind n<100
   .rw[Fk ⟨d,c⟩,Fk c,b3L d]
   omega
  .rw[so oJ]at h⊢
   rw[so c,b3L h];omega
theorem b6S{t:List Nd}{kind B:Int}(hB:0<=B)(h:∀i,i<t.length->(nd t i).kind=kind->a0J t kind (i+1)<=B):∀{n:Nat},n<=t.length->a0J t kind n<=B
 |0,_=>by assumption
 |n+1,hn=>by
  by_cases c:(nd t n).kind=kind
  .grind
  .rw[a0J,so oJ]
   exact b6S hB h oJ
theorem b4L{B:Int}(hB:0<=B)(hB2:B<100)(h:∀i,i<t.length->(nd t i).kind=kind->a0J t kind (i+1)<=B):a2d t kind t.length<=B:=by
 have:=b6S hB h (sm t.length);grind[b3L]
def b0t(t:List Nd)(kind:Int)(w:Nat->Nat)(ks:List Int):Int:=(ks.map λk=>((w k.toNat:Nat):Int)).sum
theorem b2q{t:List Nd}{kind:Int}{w:Nat->Nat}:∀{ks:List Int}{a n:Nat},a1W t ks a n->(∀(k b:Nat),(k:Int)∈ks->Sub t k b->a2d t kind b=a2d t kind k+((w k:Nat):Int))->a2d t kind n=a2d t kind a+b0t t kind w ks
 |[],a,n,h,_=>by grind[a1W,b0t]
 |k::ks,a,n,h,hw=>by
  obtain⟨rfl,b,h1,h2⟩:=h;rw[b2q h2 λk b hk hs=>hw k b (by simp[hk]) hs,hw a b sJ h1];grind[b0t]
theorem b2a{t:List Nd}{kind:Int}{a:Nat}:∀{b:Nat},a<=b->(∀j,a<=j->j<b->(nd t j).kind≠kind)->a2d t kind b=a2d t kind a
 |0,h,_=>by
  grind
 |b+1,h,hn=>by
  by_cases e:a=b+1
  .subst e;rfl
  .rw[a2d,so (hn b oJ oJ),b2a (b:=b) oJ λj h1 h2=>hn j h1 oJ]
   omega
theorem c2k{t:List Nd}(h:Y9 t){g:Nat}:∀{ks:List Int}{a n:Nat},KF t g ks a n->n<=t.length->∀l,l<((ks.map Int.toNat).takeWhile λk=>(nd t k).kind==2).length->∃hl:l<ks.length,ks[l].toNat=a+l
 |[],a,n,_,_,l,hl=>by simp at hl
 |z::zs,a,n,hk,hn,l,hl=>by
  obtain⟨rfl,h1,b,h2,h3,h4,h5⟩:=hk.cons;rw[FJ,List.takeWhile_cons]at hl;split at hl
  .rename_i h2k
   have nR:(nd t a).kind=2:=sU h2k;cases l with
   |zero=>simp
   |succ l =>
    obtain⟨g',rfl,kC⟩:=a4P h2;rw[(h.ok.node a h1).none oJ]at kC;obtain rfl:=kC.nil;obtain⟨i1,i2⟩:=c2k h h5 hn l (sU hl);grind
  .simp at hl
theorem b2w(h:Y9 t)(hk:k∈(nd t 0).ks){l:Nat}(hl:l<Y5 t (nd t k)):(nd t k).aE l=k+1+l:=by
 obtain⟨k1,k2,b,b1,b2,b3,b4⟩:=h.item hk;obtain⟨i1,i2⟩:=c2k h b4 b3 l hl;rw[a77 i1,i2]
theorem c6T(h:Y9 t)(hT:a30 t)(hk:k∈(nd t 0).ks)(h3:(nd t k).kind=3)(hs:Sub t k b):a2d t 2 b=a2d t 2 k+((((nd t k).num 0).toNat*Y5 t (nd t k):Nat):Int):=by
 have hc:=b5o h hT hk h3;have tD:=a72 h hk hs;have jJ:k<t.length:=by have:=hs.lt;have:=hs.le;omega
 have hp:=a9h ((h.ok.node k jJ).proc h3);have jZ:∀j,k<=j->j<b->a4v t 2 j=(nd t k).num 0:=λj h1 h2=>by
  unfold a4v a5W;grind
 have Dp:∀l,l<Y5 t (nd t k)->k+1+l<b/\(nd t (k+1+l)).kind=2:=λl hl=>by
  have nJ:=a8N t (nd t k);have kE:l<(nd t k).ks.length:=oJ;have e:=b1d hl kE;have e2:=b2w h hk hl;rw[a8j kE,e2]at e;have hm:k+1+l∈(nd t k).ks:=by grind[a1E,a4H]
  obtain⟨z,hz,ez⟩:=Fs.1 hm;have:=hs.down k (sm _) hs.lt z hz;exact⟨oJ,e⟩
 have pre:∀l,l<=Y5 t (nd t k)->a2d t 2 (k+1+l)=a2d t 2 k+(nd t k).num 0*(l:Int):=by
  intro l;induction l with
  |zero =>
   simp_all[a2d]
  |succ l ih =>
   intro hl;have hb:=Dp l oJ;show a2d t 2 (k+1+l+1)=_
   rw[a2d,Fk hb.2,jZ (k+1+l) oJ hb.1,ih oJ,Int.natCast_succ,Int.mul_add];omega
 have hle:k+1+Y5 t (nd t k)<=b:=by
  have:=hs.lt;rcases Nat.eq_zero_or_pos (Y5 t (nd t k))with e|e
  .omega
  .have:=Dp (Y5 t (nd t k)-1) oJ
   omega
 rw[b2a hle λj j1 j2 e=>?_,pre _ (sm _)]
 .grind
 .have rI:j<t.length:=by have:=hs.le;omega
  have Am:=tD j oJ j2;rcases b6x h rI e with v|⟨p,p1,p2,p3⟩
  .grind[a7L,a9d]
  .obtain⟨q1,q2,c,c1,c2,c3,c4⟩:=h.item p1
   have zX:=Gh p3;have oP:=(a6I 19 q2 c1).1;obtain⟨z,hz,ez⟩:=Fs.1 zX;have hd:=oP.down p (sm _) oP.lt z hz;have:=a72 h p1 oP j oJ oJ;obtain rfl:p=k:=oJ;obtain⟨l,hl,e2⟩:=FQ p3;grind[a8j,b2w]
def a9j(t:List Nd)(k:Nat):Nat:=if(nd t k).kind=2 then 1 else if(nd t k).kind=3 then((nd t k).num 0).toNat*Y5 t (nd t k)else 0
theorem c7S(h:Y9 t)(hT:a30 t)(hk:k∈(nd t 0).ks)(hs:Sub t k b):a2d t 2 b=a2d t 2 k+((a9j t k:Nat):Int):=by
 unfold a9j;have jJ:k<t.length:=by have:=hs.lt;have:=hs.le;omega
 by_cases c2:(nd t k).kind=2
 .rw[Fk c2]
  have hb:b=k+1:=by
   have:=hs.lt;by_cases e:b=k+1
   .exact e
   .obtain⟨p,p1,p2,p3⟩:=hs.up (k+1) oJ oJ
    have:=hs.down p p1 p2 _ p3;obtain rfl:p=k:=oJ;rw[(h.ok.node p jJ).none oJ]at p3;simp at p3
  subst hb;rw[a2d,Fk c2];unfold a4v a5W;rw[a7L h (a9d h hk),so dJ,so oJ];rfl
 rw[so c2];by_cases c3:(nd t k).kind=3
 .rw[Fk c3]
  grind[c6T]
 rw[so c3,b2a (a:=k) (by have:=hs.lt;omega)]
 .simp
 intro j j1 j2 e;have rI:j<t.length:=by have:=hs.le;omega
 have Am:=a72 h hk hs j j1 j2;rcases b6x h rI e with v|⟨p,p1,p2,p3⟩
 .have:=a7L h (a9d h v)
  grind
 .obtain⟨q1,q2,c,e1,e2,e3,e4⟩:=h.item p1
  have zX:=Gh p3;have oP:=(a6I 19 q2 e1).1;obtain⟨z,hz,ez⟩:=Fs.1 zX;have hd:=oP.down p (sm _) oP.lt z hz;have:=a72 h p1 oP j oJ oJ;grind
structure fC where
 k:Nat
 seen:Nat
 c:Nat
 nv:Nat
def cW(t:List Nd)(o:fC):Pr :=
 ⟨(nd t o.k).word 0,o.c,(List.range (Y5 t (nd t o.k))).map (o.nv+·),2,[false,true],[],((W5 t).vs.take o.seen).map Vr.name++(a1q t (nd t o.k)).map (λy=>y.word 0),List.range o.seen++(List.range (Y5 t (nd t o.k))).map (o.nv+·)⟩
def a2S(t:List Nd)(o:fC):Pr:=a3C (X5 t (bx t) (t.length+1)) o.k (cW t o) ((nd t o.k).ks.drop (Y5 t (nd t o.k))) 0 1
def a6k(t:List Nd)(k seen nv n:Nat):List fC:=(List.range n).map λc=>⟨k,seen,c,nv+c*Y5 t (nd t k)⟩
structure Gc where
 seen:Nat
 nv:Nat
 l:List fC
def a5R(t:List Nd)(a:Gc)(k:Nat):Gc :=
 if(nd t k).kind=3 then⟨a.seen,a.nv+((nd t k).num 0).toNat*Y5 t (nd t k),a.l++a6k t k a.seen a.nv ((nd t k).num 0).toNat⟩
 else if(nd t k).kind=2 then⟨a.seen+1,a.nv,a.l⟩else a
def a2A(t:List Nd)(l:List Nat):Gc:=l.foldl (a5R t) ⟨0,(W5 t).vs.length,[]⟩
def a0W(t:List Nd):List fC:=(a2A t (nd t 0).ks).l
theorem c5J{nv:Nat}(h1:vs.length=nv)(h2:vs.take seen=(W5 t).vs.take seen):a8b t (bx t) k seen c vs=a2S t ⟨k,seen,c,nv⟩:=by
 grind[a8b,a2S,eW,cW,a6g]
theorem b9w{t:List Nd}{k seen nv:Nat}{a:List Vr×List Pr}(h1:a.1.length=nv)(h2:a.1.take seen=(W5 t).vs.take seen)(h3:seen<=a.1.length):∀c,(a05 t (bx t) k seen c a).1.length=nv+c*Y5 t (nd t k)/\(a05 t (bx t) k seen c a).2=a.2++(a6k t k seen nv c).map (a2S t)
 |0=>by simp[a05,h1,a6k]
 |c+1=>by
  obtain⟨i1,i2⟩:=b9w (k:=k) h1 h2 h3 c;grind[b7Y,a05,a6g,c5J,a6k,List.range_succ]
theorem b5i(t:List Nd)(l:List Nat)(k:Nat):a2A t (l++[k])=a5R t (a2A t l) k:=by simp[a2A]
structure GcR(t:List Nd)(b:Gb)(a:Gc):Prop where
 seen:b.seen=a.seen
 nv:b.vs.length=a.nv
 pre:∃m,b.vs=(W5 t).vs++m
 ps:b.ps=a.l.map (a2S t)
theorem b2U(t:List Nd):∀(n:Nat),n<=(nd t 0).ks.length->GcR t (a2e t (bx t) (W5 t).vs ((nd t 0).ks.take n)) (a2A t ((nd t 0).ks.take n))
 |0,_=>⟨rfl,rfl,⟨[],by simp[a2e]⟩,rfl⟩
 |n+1,hn=>by
  have ih:=b2U t n oJ;have DM:=b7c t (bx t) n;have e:(nd t 0).ks.take (n+1)=(nd t 0).ks.take n++[(nd t 0).ks[n]]:=FO oJ;obtain⟨m2,qB⟩:=b3F t (bx t) (W5 t).vs ((nd t 0).ks.take (n+1));rw[e]at qB⊢;rw[b6v]at qB⊢;have e3:a2A t ((nd t 0).ks.take n++[(nd t 0).ks[n]])=a5R t (a2A t ((nd t 0).ks.take n)) (nd t 0).ks[n]:=b5i t _ _;rw[e3];generalize(nd t 0).ks[n]=k at *;generalize a2e t (bx t) (W5 t).vs ((nd t 0).ks.take n)=b at *;generalize a2A t ((nd t 0).ks.take n)=a at *;obtain⟨m,hm⟩:=ih.pre;unfold a3j a5R at *;by_cases c3:(nd t k).kind=3
  .rw[Fk c3]at qB
   rw[Fk c3,Fk c3];have hs:b.vs.take b.seen=(W5 t).vs.take b.seen:=by rw[hm,HY DM.2.2]
   obtain⟨i1,i2⟩:=b9w (t:=t) (k:=k) (seen:=b.seen) (nv:=a.nv) (a:=(b.vs,b.ps)) ih.nv hs DM.2.1 ((nd t k).num 0).toNat;refine⟨ih.seen,i1,⟨m2,qB⟩,?_⟩;show(a05 t (bx t) k b.seen ((nd t k).num 0).toNat (b.vs,b.ps)).2=_
   rw[i2,FK,<- ih.ps,ih.seen]
  .rw[so c3,so c3]
   by_cases c2:(nd t k).kind=2
   .rw[Fk c2,Fk c2]
    exact⟨by simp[ih.seen],ih.nv,ih.pre,ih.ps⟩
   .rw[so c2,so c2]
    exact ih
theorem a7T(t:List Nd):(eX t).ps=(a0W t).map (a2S t)/\(eX t).vs.length=(a2A t (nd t 0).ks).nv:=by
 have h:=b2U t (nd t 0).ks.length (sm _);rw[Gf]at h;exact⟨h.ps,h.nv⟩
structure b7D(t:List Nd)(nv:Nat)(o:fC):Prop where
 aF:∃i,∃hi:i<(nd t 0).ks.length,(nd t 0).ks[i]=o.k/\o.seen=(a1i t ((nd t 0).ks.take i)).vs.length
 kind:(nd t o.k).kind=3
 c:(o.c:Int)<(nd t o.k).num 0
 lo:(W5 t).vs.length<=o.nv
 hi:o.nv+Y5 t (nd t o.k)<=nv
theorem b9D(t:List Nd):∀n,n<=(nd t 0).ks.length->(W5 t).vs.length<=(a2A t ((nd t 0).ks.take n)).nv/\(a2A t ((nd t 0).ks.take n)).seen=(a1i t ((nd t 0).ks.take n)).vs.length/\∀o∈(a2A t ((nd t 0).ks.take n)).l,b7D t (a2A t ((nd t 0).ks.take n)).nv o
 |0,_=>by simp[a2A,a1i]
 |n+1,hn=>by
  obtain⟨i1,i2,i3⟩:=b9D t n oJ;have hs:=b2U t (n+1) hn;have kR:=hs.seen;rw[b8T]at kR;refine⟨?_,kR.symm,?_⟩
  .obtain⟨m,hm⟩:=hs.pre
   have:=hs.nv;grind
  .rw[FO oJ,b5i]
   intro o ho;unfold a5R at ho⊢;by_cases c3:(nd t (nd t 0).ks[n]).kind=3
   .rw[Fk c3]at ho⊢
    rcases Fm.1 ho with ho|ho
    .have:=i3 o ho
     exact⟨this.aF,this.kind,this.c,this.lo,by have:=this.hi;simp only;omega⟩
    .obtain⟨c,hc,rfl⟩:=Fs.1 ho
     rw[FU]at hc;refine⟨⟨n,oJ,rfl,i2⟩,c3,by simp only;omega,by simp only;omega,?_⟩;simp only;have:(c+1)*Y5 t (nd t (nd t 0).ks[n])<=((nd t (nd t 0).ks[n]).num 0).toNat*Y5 t (nd t (nd t 0).ks[n]):=GR _ oJ;rw[HO]at this;omega
   grind
variable{o:fC}
theorem a6D(ho:o∈a0W t):b7D t (eX t).vs.length o:=by
 have:=(b9D t (nd t 0).ks.length (sm _)).2.2;rw[Gf]at this;rw[(a7T t).2];exact this o ho
def b0B(t:List Nd)(k:Nat):Nat:=if(nd t k).kind=3 then((nd t k).num 0).toNat else 0
theorem c2c(t:List Nd)(l:List Nat):(a2A t l).nv=(W5 t).vs.length+(l.map λk=>if(nd t k).kind=3 then((nd t k).num 0).toNat*Y5 t (nd t k)else 0).sum/\(a2A t l).l.length=(l.map (b0B t)).sum:=by
 have key:∀(l:List Nat)(a:Gc),(l.foldl (a5R t) a).nv=a.nv+(l.map λk=>if(nd t k).kind=3 then((nd t k).num 0).toNat*Y5 t (nd t k)else 0).sum/\(l.foldl (a5R t) a).l.length=a.l.length+(l.map (b0B t)).sum:=by
  intro l;induction l with
  |nil=>intro a;simp
  |cons k l ih =>
   intro a;rw[Hl,(ih _).1,(ih _).2];unfold a5R;simp only[FJ,Jy,b0B];by_cases c3:(nd t k).kind=3
   .simp only[c3,FG,Fq,a6k,FT,GG]
    omega
   .rw[so c3,so c3,so c3]
    split<;>simp
 grind[a2A]
theorem b5l(t:List Nd)(kind:Int)(w:Nat->Nat)(ks:List Int):b0t t kind w ks=((((ks.map Int.toNat).map w).sum:Nat):Int):=by
 unfold b0t;induction ks with
 |nil=>rfl
 |cons k ks ih =>
  grind
theorem b31(h:Y9 t)(hk:kind≠0):a2d t kind 1=0:=by
 show a2d t kind 0+_=0
 rw[so (by rw[h.ok.root];omega)];rfl
theorem b8p(h:Y9 t)(wO:kind=1\/kind=3)(hk:k∈(nd t 0).ks)(hs:Sub t k b):a2d t kind b=a2d t kind k+if(nd t k).kind=kind then a4v t kind k else 0:=by
 have hl:=hs.lt;have hle:=hs.le;rw[b2a (a:=k+1) oJ]
 .rfl
 intro j j1 j2 e;have hj:=b3p h (j:=j) oJ oJ;have h1:=a7L h (a9d h hj);grind[a72]
theorem greatV(h:Y9 t)(hT:a30 t):(eX t).vs.length<=8:=by
 have h1:=b4L (t:=t) (kind:=2) (B:=8) dJ dJ λi hi hk=>((hT.iB i hi).var hk).2.2.2
 rw[b2q (w:=a9j t) h.cP λk b hk hs=>c7S h hT (b09 hk) hs,b31 h dJ,b5l]at h1;rw[(a7T t).2,(c2c t _).1];have e:(W5 t).vs.length=((nd t 0).ks.map λk=>if(nd t k).kind=2 then 1 else 0).sum:=by
  unfold W5;rw[a8q];simp only[FT];generalize(nd t 0).ks=l;induction l with
  |nil=>rfl
  |cons k l ih =>
   grind
 have e2:((nd t 0).ks.map (a9j t)).sum=((nd t 0).ks.map λk=>if(nd t k).kind=2 then 1 else 0).sum+((nd t 0).ks.map λk=>if(nd t k).kind=3 then((nd t k).num 0).toNat*Y5 t (nd t k)else 0).sum:=by
  generalize(nd t 0).ks=l;induction l with
  |nil=>rfl
  |cons k l ih =>
   simp only[FJ,Jy,ih,a9j];grind
 have h1:((((nd t 0).ks.map (a9j t)).sum:Nat):Int)<=8:=by
  have e0:(nd t 0).ks=(nd t 0).kids.map Int.toNat:=rfl;rw[e0];omega
 rw[e];omega
theorem greatP(h:Y9 t)(hT:a30 t):(eX t).ps.length<=4:=by
 have h1:=b4L (t:=t) (kind:=3) (B:=4) dJ dJ λi hi hk=>((hT.iB i hi).proc hk).2
 rw[b2q (w:=b0B t) h.cP (λk b hk hs=>by
  rw[b8p h (.inr rfl) (b09 hk) hs];unfold b0B;by_cases c:(nd t k).kind=3
  .have hc:=b5o h hT (b09 hk) c
   rw[Fk c,Fk c];unfold a4v a5W;rw[a7L h hk,so dJ,Fk c];omega
  grind),b31 h dJ,b5l]at h1
 rw[(a7T t).1,FT];unfold a0W;rw[(c2c t _).2];have e0:(nd t 0).ks=(nd t 0).kids.map Int.toNat:=rfl;rw[e0];omega
theorem greatC(h:Y9 t)(hT:a30 t):(W5 t).ch.length<=3:=by
 have h1:=b4L (t:=t) (kind:=1) (B:=3) dJ dJ λi hi hk=>((hT.iB i hi).chan hk).2.2.2.2
 rw[b2q (w:=λk=>if(nd t k).kind=1 then 1 else 0) h.cP (λk b hk hs=>by
  rw[b8p h (.inl rfl) (b09 hk) hs];by_cases c:(nd t k).kind=1
  .rw[Fk c,Fk c];rfl
  grind),b31 h dJ,b5l]at h1
 have e0:(nd t 0).ks=(nd t 0).kids.map Int.toNat:=rfl;rw[<- e0]at h1;unfold W5;rw[a8q];simp only[FT];have e:((nd t 0).ks.filter λk=>(nd t k).kind==1).length=((nd t 0).ks.map λk=>if(nd t k).kind=1 then 1 else 0).sum:=by
  generalize(nd t 0).ks=l;induction l with
  |nil=>rfl
  |cons k l ih =>
   grind
 rw[e];omega
structure a7b(mo:Mo)(p:Pr):Prop where
 inv:a10 mo.tree mo.ae.length p
 same:p.names.length=p.vars.length
 var:∀v∈p.vars,v<mo.vars.length
 loc:∀v∈p.locals,v∈p.vars/\mo.globals<=v
 pl:p.ah<=4000
 el:p.ai.length<=4000
 nl:p.names.length<=mo.vars.length
structure Z3(mo:Mo):Prop where
 tree:a2a mo.tree
 nv:mo.vars.length<=8
 np:mo.procs.length<=4
 nc:mo.ae.length<=3
 gl:mo.globals<=mo.vars.length
 pr:∀p∈mo.procs,a7b mo p
 sf:∀k∈mo.safe,k<mo.tree.length/\a3O (nd mo.tree k).kind
 sl:mo.safe.length<=800
theorem b99(t:List Nd):∃m,(eX t).vs=(W5 t).vs++m:=b3F t (bx t) (W5 t).vs (nd t 0).ks
theorem a9L(ho:o∈a0W t):∃vs:List Vr,vs.length=o.nv/\vs.take o.seen=(W5 t).vs.take o.seen/\o.seen<=(W5 t).vs.length/\cW t o=eW (nd t o.k) o.c o.seen vs (a1q t (nd t o.k)):=by
 have h:=a6D ho;obtain⟨m,hm⟩:=b99 t;have tH:=h.lo;have Bg:=h.hi;have qx:o.seen<=(W5 t).vs.length:=by
  obtain⟨i,hi,_,e⟩:=h.aF;have:=c4F t ((nd t 0).ks.take i) ((nd t 0).ks.drop i);rw[Hi,<- e]at this;exact this
 have e1:((eX t).vs.take o.nv).length=o.nv:=by rw[GO];omega
 grind[eW,cW,a6g]
theorem b2E(h:Y9 t)(hS:a3g t)(ho:o∈a0W t):∃b,a0z t 19 o.k=(b,true)/\Sub t o.k b/\o.k<t.length/\KF t 18 (nd t o.k).kids (o.k+1) b/\∀j,o.k<=j/\j<b->b1v t (W5 t).ch.length (bx t) (cW t o).names (cW t o).vars j:=by
 have jD:=a6D ho;obtain⟨i,hi,e,qx⟩:=jD.aF;have mE:=e▸Fp hi;obtain⟨k1,k2,b,b1,b2,b3,b4⟩:=h.item mE;have jo:=(a6I 19 k2 b1).1;obtain⟨vs,v1,v2,v3,v4⟩:=a9L ho;have hv:vs.take o.seen=(a1i t ((nd t 0).ks.take i)).vs:=by
  rw[v2];obtain⟨r,hr⟩:=b38 t ((nd t 0).ks.take i) ((nd t 0).ks.drop i);rw[Hi]at hr;have hg:(W5 t).vs=(a1i t ((nd t 0).ks.take i)).vs++r:=hr;rw[hg,qx,Ke]
 refine⟨b,b1,jo,k2,b4,?_⟩;rw[v4];have:=jD.lo;exact c1n h hS hi e jD.kind jo hv oJ
theorem c0n{t:List Nd}(h:Y9 t)(hS:a3g t){o:fC}(ho:o∈a0W t):∀k∈(nd t o.k).ks.drop (Y5 t (nd t o.k)),a5w t (W5 t).ch.length (cW t o).names (cW t o).vars (X5 t (bx t) (t.length+1)) k/\hD t (X5 t (bx t) (t.length+1)) k:=by
 obtain⟨b,b1,jo,k2,_,uI⟩:=b2E h hS ho;have jD:=a6D ho;have pQ:=a9h ((h.ok.node o.k k2).proc jD.kind);have oF:∀j,j<t.length->(o.k<=j/\j<b)->∀k∈(nd t j).ks,o.k<=k/\k<b:=λj _ hj k hk=>by
  obtain⟨z,hz,rfl⟩:=Fs.1 hk;have:=jo.down j hj.1 hj.2 z hz;omega
 intro k hk;have jZ:=pQ.1 k hk;have mE:=Gz hk;have kC:=h.ok.ks k2 k mE;have Bp:=oF o.k k2 ⟨sm _,jo.lt⟩ k mE;exact⟨b2P h.ok oF uI (t.length+1) k kC.2 Bp jZ oJ,b28 h.ok _ (t.length+1) k kC.2 jZ oJ⟩
theorem a7a(h:Y9 t)(hS:a3g t)(ho:o∈a0W t):a10 t (W5 t).ch.length (a2S t o)/\a3m (cW t o) (a2S t o):=by
 have:=c0n h hS ho;exact a8e (λk hk=>(this k hk).1) ⟨by simp[cW],by simp[cW],by simp[cW]⟩ rfl rfl (by simp[cW]) (by simp[cW])
theorem c73(h:Y9 t)(hS:a3g t)(ho:o∈a0W t):Gw (cW t o) (a2S t o) 3300:=by
 have hk:=c0n h hS ho;obtain⟨b,b1,jo,k2,jg,_⟩:=b2E h hS ho;obtain⟨b',lG,pk⟩:=jg.drop (Y5 t (nd t o.k));have:=b5H (node:=o.k) (p:=cW t o) (aq:=0) (to:=1) pk (st:=X5 t (bx t) (t.length+1)) (λk hm=>(hk k (by rw[Ir]at hm;exact hm)).2);rw[Ir]at this;have hle:=jo.le;have:=h.ok.le;exact Gw.le ‹_› oJ
theorem c7z(h:Y9 t)(hS:a3g t)(hT:a30 t):Z3 (a20 t):=by
 have hg:(W5 t).vs.length<=(eX t).vs.length:=by
  obtain⟨m,hm⟩:=b99 t;rw[hm,Fq];omega
 refine⟨h.ok,greatV h hT,greatP h hT,greatC h hT,hg,λp hp=>?_,λk hk=>?_,?_⟩
 .have hp:p∈(eX t).ps:=hp
  rw[(a7T t).1]at hp;obtain⟨o,ho,rfl⟩:=Fs.1 hp;have jD:=a6D ho;obtain⟨i1,g⟩:=a7a h hS ho;have hw:=c73 h hS ho;obtain⟨vs,v1,v2,v3,v4⟩:=a9L ho;have Bg:=jD.hi;have tH:=jD.lo;refine⟨i1,?_,?_,?_,?_,?_,?_⟩
  .rw[g.names,g.vars]
   grind[cW,a6g]
  .rw[g.vars]
   intro v hv;show v<(eX t).vs.length
   simp only[cW,Fm,FU,Fs]at hv;omega
  .rw[g.vars,g.locals]
   intro v hv;simp only[cW,Fm,FU,Fs]at hv⊢;obtain⟨l,hl,rfl⟩:=hv;exact⟨.inr ⟨l,hl,rfl⟩,by show(W5 t).vs.length<=_;omega⟩
  .have:=hw.pl;grind[cW]
  .have:=hw.el;grind[cW]
  .rw[g.names]
   show _<=(eX t).vs.length
   grind[cW,a6g]
 .have hk:k∈(W5 t).sf:=hk
  unfold W5 at hk;rw[a8q]at hk;simp only[Fs,Gu,HK]at hk;obtain⟨j,⟨j1,j2⟩,rfl⟩:=hk;obtain⟨q1,q2,_⟩:=h.item j1;have h1:=(h.ok.node j q2).one (.inl j2);exact⟨(h.ok.ks q2 _ (a1E oJ)).2,h1.2⟩
 .have h1:=(b3j t (nd t 0).ks).2.2
  have h2:=h.cP.length;have h3:=h.ok.le;rw[a4H]at h1;show(W5 t).sf.length<=800
  unfold W5;omega
theorem a6P(h:n<32):2^n<4294967296:=Nat.lt_of_lt_of_eq (Nat.pow_lt_pow_right (a:=2) dJ h) dJ
theorem b3Q(h:n<32):a48 .shl .u32 1 (n:Int)=some (.int .u32 ((2^n:Nat):Int)):=by
 unfold a48;rw[so oJ];simp only[an];have e:min n IntKind.u32.bits=n:=by rw[show IntKind.u32.bits=32 from rfl];omega
 rw[e,Int.one_mul,show(2:Int)^n=((2^n:Nat):Int) by rw[Int.natCast_pow];rfl,b1W (a6P h)]
def a14(n:Int):Nat:=if n<0 then 0 else 2^n.toNat
variable{n:Int}
theorem b00(h:n<32):a14 n<4294967296:=by
 grind[a14,a6P]
theorem a66(n:Nat):a14 (n:Int)=2^n:=by simp[a14,so]
def a2r(l:List ByteArray)(w:ByteArray):Nat:=l.findIdx λx=>decide (x=w)
def bD(names:List ByteArray)(vars:List Nat)(w:ByteArray):Nat:=if a2r names w<names.length then 2^(vars.getD (a2r names w) 0)else 0
def iH(ch:List ByteArray)(w:ByteArray):Nat:=if a2r ch w<ch.length then 2^(a2r ch w)else 0
theorem a7Y{l:List ByteArray}(hi:i<l.length)(h1:l[i]=w)(h2:∀j(hj:j<l.length),j<i->l[j]≠w):a2r l w=i:=by
 grind[a2r]
theorem a88{l:List ByteArray}(h:∀j(hj:j<l.length),l[j]≠w):¬a2r l w<l.length:=by
 unfold a2r;grind
def a0S(ch:List ByteArray)(vb:ByteArray->Nat)(x:Nd)(f:Ft):Ft :=
 if x.kind=18 then{ f with reads:=f.reads ||| vb (x.word 0) }
 else if x.kind=19 then{ f with aX:=f.aX ||| iH ch (x.word 0) }
 else if x.kind=22/\(x.num 0=7\/x.num 0=8)then{ f with part:=true }else f
def a2x(t:List Nd)(ch:List ByteArray)(vb:ByteArray->Nat):Nat->Nat->Ft->Ft
 |0,_,f=>f
 |n+1,k,f=>(nd t k).ks.foldl (λf c=>a2x t ch vb n c f) (a0S ch vb (nd t k) f)
theorem chB_lt{ch:List ByteArray}(h:ch.length<=3)(w:ByteArray):iH ch w<4294967296:=by
 grind[iH,a6P]
variable{x:Nd}{f:Ft}
theorem c1Q{ch:List ByteArray}{vb:ByteArray->Nat}(hf:f.Ok)(hc:ch.length<=3)(hv:∀w,vb w<4294967296):(a0S ch vb x f).Ok:=by
 unfold a0S;split
 .exact⟨a67 hf.r (hv _),hf.w,hf.s,hf.v,hf.z⟩
 .split
  .exact⟨hf.r,hf.w,hf.s,hf.v,a67 hf.z (chB_lt hc _)⟩
  .split
   .exact⟨hf.r,hf.w,hf.s,hf.v,hf.z⟩
   .exact hf
def Z8(mo:Mo)(p:Pr)(e:Ed):Ft :=
 let f:=if 0<=e.expr then a2x mo.tree (mo.ae.map Ch.name) (bD p.names p.vars) (mo.tree.length+1) e.expr.toNat ⟨0,0,0,0,0,false⟩else⟨0,0,0,0,0,false⟩
 if e.act=1 then{ f with writes:=a14 e.var }
 else if e.act=2 then{ f with aW:=a14 e.chan }
 else if e.act=3 then{ f with writes:=a14 e.var,aY:=a14 e.chan }else f
theorem b1T(h:b2W t x)(hx:a3O x.kind):x.kids.length<=2/\∀i,i<x.kids.length->a3O (nd t (x.aE i)).kind:=by
 obtain⟨h1,h2⟩:=hx;by_cases a:x.kind=20\/x.kind=21
 .obtain⟨e,hk⟩:=h.one oJ
  grind
 by_cases b:x.kind=22
 .obtain⟨e,k0,k1,_⟩:=h.bin b
  grind
 .rw[h.none oJ]
  simp
theorem b8Z:k4.empty.next=0:=rfl
theorem b4O:(⟨0,0,0,0,0,false⟩:Ft).Ok:=⟨dJ,dJ,dJ,dJ,dJ⟩
theorem c3U{ch:List ByteArray}{vb:ByteArray->Nat}(h:(a0S ch vb x f).reads.testBit b=true):f.reads.testBit b=true\/∃w,(vb w).testBit b=true:=by
 unfold a0S at h;grind
theorem a9v{α β:Type}{P:β->Prop}{g:β->α->β}:∀{l:List α}{a:β},P a->(∀a x,x∈l->P a->P (g a x))->P (l.foldl g a)
 |[],a,h,_=>h
 |x::l,a,h,hg=>a9v (l:=l) (hg a x sJ h) λa y hy=>hg a y (by simp[hy])
theorem c09{t:List Nd}{ch:List ByteArray}{vb:ByteArray->Nat}{b:Nat}(hv:∀w,(vb w).testBit b=false):∀(n k:Nat)(f:Ft),f.reads.testBit b=false->(a2x t ch vb n k f).reads.testBit b=false
 |0,k,f,h=>h
 |n+1,k,f,h=>by
  unfold a2x;refine a9v (P:=λf=>f.reads.testBit b=false) ?_ λa x _ ha=>c09 hv n x a ha
  grind[c3U]
structure a9g(f:Ft):Prop where
 w:f.writes=0
 s:f.aW=0
 v:f.aY=0
theorem c3V{ch:List ByteArray}{vb:ByteArray->Nat}(h:a9g f):a9g (a0S ch vb x f):=by
 unfold a0S;split
 .exact⟨h.w,h.s,h.v⟩
 .split
  .exact⟨h.w,h.s,h.v⟩
  .split
   .exact⟨h.w,h.s,h.v⟩
   .exact h
theorem b7C{t:List Nd}{ch:List ByteArray}{vb:ByteArray->Nat}:∀(n k:Nat)(f:Ft),a9g f->a9g (a2x t ch vb n k f)
 |0,k,f,h=>h
 |n+1,k,f,h=>by
  unfold a2x;exact a9v (P:=a9g) (c3V h) λa x _ ha=>b7C n x a ha
def a8w(x:Nat):Prop:=x=0\/∃n,n<32/\x=2^n
theorem b9K(h:n<32):a8w (a14 n):=by
 unfold a14;split
 .exact .inl rfl
 .exact .inr ⟨n.toNat,oJ,rfl⟩
structure Own(f:Ft)(vars:List Nat):Prop where
 reads:∀b,f.reads.testBit b=true->b∈vars
 writes:∀b,f.writes.testBit b=true->b∈vars
 w1:a8w f.writes
 c:(f.aW=0/\a8w f.aY)\/(f.aY=0/\a8w f.aW)
theorem c4w(hs:names.length=vars.length)(h:(bD names vars w).testBit b=true):b∈vars:=by
 unfold bD at h;grind
theorem c2g(ho:Z3 mo)(hp:a7b mo p){e:Ed}(he:e∈p.ai):Own (Z8 mo p e) p.vars:=by
 have jx:=hp.inv.ed e he;have lD:=ho.nv;have nN:=ho.nc;unfold Z8;generalize wo:(if 0<=e.expr then a2x mo.tree (mo.ae.map Ch.name) (bD p.names p.vars) (mo.tree.length+1) e.expr.toNat ⟨0,0,0,0,0,false⟩else(⟨0,0,0,0,0,false⟩:Ft))=f1;have h1:a9g f1:=by
  subst wo;split
  .exact b7C _ _ _ ⟨rfl,rfl,rfl⟩
  .exact⟨rfl,rfl,rfl⟩
 have h2:∀b,f1.reads.testBit b=true->b∈p.vars:=by
  intro b hb;by_cases hv:∀w,(bD p.names p.vars w).testBit b=false
  .grind[c09]
  .have:∃w,(bD p.names p.vars w).testBit b=true:=by grind
   obtain⟨w,hw⟩:=this;exact c4w hp.same hw
 have kI:e.act=1\/e.act=3->a8w (a14 e.var)/\∀b,(a14 e.var).testBit b=true->b∈p.vars:=λh=>by
  obtain⟨n,hn,e1⟩:=jx.v1 h;have:=hp.var n hn;refine⟨b9K oJ,λb hb=>?_⟩;simp_all[a66,Kq]
 have qi:e.act=2\/e.act=3->a8w (a14 e.chan):=λh=>by
  obtain⟨n,e1,hn⟩:=jx.c1 h;exact b9K oJ
 have z:a8w 0:=.inl rfl;by_cases a1:e.act=1
 .simp only[a1,FG]
  exact⟨h2,(kI (.inl a1)).2,(kI (.inl a1)).1,.inl ⟨h1.s,h1.v▸z⟩⟩
 by_cases a2:e.act=2
 .simp only[a2,Nat.reduceEqDiff,FF,FG]
  exact⟨h2,by simp[h1.w],by simp only[h1.w];exact z,.inr ⟨h1.v,qi (.inl a2)⟩⟩
 by_cases a3:e.act=3
 .simp only[a3,Nat.reduceEqDiff,FF,FG]
  exact⟨h2,(kI (.inr a3)).2,(kI (.inr a3)).1,.inl ⟨h1.s,qi (.inr a3)⟩⟩
 .simp only[a1,a2,a3,FF]
  exact⟨h2,by simp[h1.w],by rw[h1.w];exact z,.inl ⟨h1.s,h1.v▸z⟩⟩
def bq(l:List Nat):Nat:=l.foldl (λa v=>a ||| 2^v) 0
theorem c8A(l:List Nat)(v:Nat):bq (l++[v])=bq l ||| 2^v:=by simp[bq]
theorem b2k{l:List Nat}(h:∀v∈l,v<32):bq l<4294967296:=a9v (P:=λa=>a<4294967296) dJ λa x hx ha=>a67 ha (a6P (h x hx))
theorem b6e{l:List Nat}:(bq l).testBit v=true↔v∈l:=by
 unfold bq;have key:∀(l:List Nat)(a:Nat),(l.foldl (λa v=>a ||| 2^v) a).testBit v=true↔a.testBit v=true\/v∈l:=by
  intro l;induction l with
  |nil=>intro a;simp
  |cons x l ih =>
   grind
 rw[key];simp
theorem c4U{x:Nat}(hx:x<4294967296)(hy:y<4294967296)(h:∀b,x.testBit b=true->y.testBit b=true):IntKind.u32.wrap (b0r .u32 (x:Int) (y:Int))=0:=by
 unfold b0r;have e:(BitVec.ofInt IntKind.u32.bits (x:Int) &&& ~~~ BitVec.ofInt IntKind.u32.bits (y:Int))=0#_:=by
  apply BitVec.eq_of_getLsbD_eq;intro i hi;rw[BitVec.getLsbD_and,BitVec.getLsbD_not];have e1:(BitVec.ofInt IntKind.u32.bits (x:Int)).getLsbD i=x.testBit i:=by rw[BitVec.getLsbD,b1l hx]
  have e2:(BitVec.ofInt IntKind.u32.bits (y:Int)).getLsbD i=y.testBit i:=by rw[BitVec.getLsbD,b1l hy]
  rw[e1,e2,BitVec.getLsbD_zero];cases hc:x.testBit i
  .rfl
  .rw[h i hc];simp
 rw[e];rfl
structure U6 where
 aF:List Nat
 vars:List Int
 ae:List (List Int)
 hold:Int
 deriving DecidableEq
def fD(op:Nat)(a b:Int)(w:Nat):Int:=match op with
 |0=>W3 (a+b) w
 |1=>W3 (a-b) w
 |2=>W3 (a*b) w
 |3=>if b=0 then 0 else W3 (a.tdiv b) w
 |_=>if b=0 then 0 else W3 (a.tmod b) w
def X9(l:List Int)(i:Nat):Int:=l.getD i 0
def U8(l:List (List Int))(i:Nat):List Int:=l.getD i []
def W2(l:List Nat)(i:Nat):Nat:=l.getD i 0
def U7(l:List Ch)(i:Nat):Ch:=l.getD i default
theorem a26{l:List Int}(h:i<l.length):X9 l i=l[i]:=by simp[X9,List.getD,h]
theorem a3X{l:List (List Int)}(h:i<l.length):U8 l i=l[i]:=by simp[U8,List.getD,h]
theorem a4e{l:List Nat}(h:i<l.length):W2 l i=l[i]:=by simp[W2,List.getD,h]
theorem a2W{l:List Ch}(h:i<l.length):U7 l i=l[i]:=by simp[U7,List.getD,h]
def V6(b:Bool):Int:=if b then 1 else 0
def a0s(p:Pr)(w:ByteArray):Option Nat:=if a2r p.names w<p.names.length then some (p.vars.getD (a2r p.names w) 0)else none
def a1e(op a b:Int):Int×Bool :=
 if 7<=op/\b=0 then(0,false)
 else if op=0 then(V6 (decide (a≠0)||decide (b≠0)),true)
 else if op=1 then(V6 (decide (a≠0)&&decide (b≠0)),true)
 else if op=2 then(V6 (decide (a=b)),true)
 else if op=3 then(V6 (decide (a<b)),true)
 else(fD (op-4).toNat a b 8,true)
def a06(t:List Nd)(ch:List ByteArray)(look:ByteArray->Option Nat)(st:U6):Nat->Nat->Int×Bool
 |0,_=>(0,false)
 |n+1,k =>
  let x:=nd t k
  if x.kind=17 then(W3 (x.num 0) 8,true)
  else if x.kind=18 then match look (x.word 0)with
   |none=>(0,false)
   |some v=>(X9 st.vars v,true)
  else if x.kind=19 then(if a2r ch (x.word 0)<ch.length then(((U8 st.ae (a2r ch (x.word 0))).length:Int),true)else(0,false))
  else if x.kind=20 then(W3 (-(a06 t ch look st n (x.aE 0)).1) 8,(a06 t ch look st n (x.aE 0)).2)
  else if x.kind=21 then(V6 ((a06 t ch look st n (x.aE 0)).2&&decide ((a06 t ch look st n (x.aE 0)).1=0)),(a06 t ch look st n (x.aE 0)).2)
  else if x.kind=22 then
   if(a06 t ch look st n (x.aE 0)).2&&(a06 t ch look st n (x.aE 1)).2 then a1e (x.num 0) (a06 t ch look st n (x.aE 0)).1 (a06 t ch look st n (x.aE 1)).1 else(0,false)
  else(0,false)
def Mo.ch(mo:Mo):List ByteArray:=mo.ae.map Ch.name
def Mo.val(mo:Mo)(look:ByteArray->Option Nat)(st:U6)(k:Nat):Int×Bool:=a06 mo.tree mo.ch look st (mo.tree.length+1) k
def Mo.ex(mo:Mo)(p:Pr)(st:U6)(e:Ed)(z:Int):Int×Bool:=if 0<=e.expr then mo.val (a0s p) st e.expr.toNat else(z,true)
def Mo.can(mo:Mo)(st:U6)(i:Nat)(p:Pr)(e:Ed):Bool :=
 decide (W2 st.aF i=e.aq)&&(mo.ex p st e 0).2 &&
 (if e.act=2 then decide (((U8 st.ae e.chan.toNat).length:Int)<(U7 mo.ae e.chan.toNat).room)
  else if e.act=3 then decide (0<(U8 st.ae e.chan.toNat).length)
  else if e.act=4 then decide ((mo.ex p st e 0).1≠0)
  else if e.act=5 then decide ((mo.ex p st e 0).1=0)else true)
def Mo.cL(mo:Mo)(st:U6)(i:Nat)(p:Pr):Bool:=p.ai.any λe=>mo.can st i p e
structure Mv where
 kind:Nat
 proc:Nat
 bb:Nat
 chan:Nat
 deriving DecidableEq,Inhabited
def Mv.row(v:Mv):List D:=[.int .i64 (v.kind:Int),.int .i64 (v.proc:Int),.int .i64 (v.bb:Int),.int .i64 (v.chan:Int)]
def a00(l:List Mv):List (List D):=l.map Mv.row
def Mo.cX(mo:Mo)(st:U6)(i:Nat):List Mv:=if 0<=st.hold/\st.hold≠(i:Int)then[]else((List.range (mo.procs.getD i default).ai.length).filter λj=>mo.can st i (mo.procs.getD i default) ((mo.procs.getD i default).ai.getD j default)).map λj=>⟨0,i,j,0⟩
def Mo.bE(mo:Mo)(st:U6)(c:Nat):List Mv :=
 (if(U7 mo.ae c).bC&&decide (0<(U8 st.ae c).length)then[⟨1,0,0,c⟩]else[]) ++
 (if(U7 mo.ae c).aS&&decide (0<(U8 st.ae c).length)&&decide (((U8 st.ae c).length:Int)<(U7 mo.ae c).room)then[⟨2,0,0,c⟩]else[])
def Mo.aA(mo:Mo)(st:U6):List Mv:=(List.range mo.procs.length).flatMap (mo.cX st)++if st.hold<0 then(List.range mo.ae.length).flatMap (mo.bE st)else[]
structure Fit(mo:Mo)(st:U6):Prop where
 aF:st.aF.length=mo.procs.length
 vars:st.vars.length=mo.vars.length
 ae:st.ae.length=mo.ae.length
 pl:∀i(h:i<st.aF.length)(h':i<mo.procs.length),st.aF[i]<mo.procs[i].ah
 vr:∀i(h:i<st.vars.length)(h':i<mo.vars.length),W3 st.vars[i] mo.vars[i].width.toNat=st.vars[i]
 cl:∀i(h:i<st.ae.length)(h':i<mo.ae.length),(st.ae[i].length:Int)<=mo.ae[i].room
 cv:∀i(h:i<st.ae.length)(h':i<mo.ae.length),∀n∈st.ae[i],W3 n mo.ae[i].width.toNat=n
 hold:-1<=st.hold/\st.hold<(mo.procs.length:Int)
def a4Z:Option Nat->Int
 |none=>-1
 |some v=>(v:Int)
structure bH where
 da:D
 dv:D
 dc:D
def b06(x:bH)(st:U6):List D:=[x.da,x.dv,x.dc,.int .i64 st.hold]
structure eR(x:bH)(st:U6):Prop where
 a:FL 1 x.da (a0i st.aF)
 v:FI x.dv st.vars
 c:∃ds:List D,FL 1 x.dc (ds.map λd=>[d])/\ds.length=st.ae.length/\∀i(h:i<ds.length)(h':i<st.ae.length),FI ds[i] st.ae[i]
variable{x:bH}
theorem eR.aw{st:U6}(h:eR x st):V5 x.da=true/\V5 x.dv=true/\V5 x.dc=true:=by
 obtain⟨ds,h1,_⟩:=h.c;exact⟨h.a.one,FL.one h.v,h1.one⟩
theorem eR.chan{st:U6}(h:eR x st)(hi:i<st.ae.length):∃d,FI d st.ae[i]/\∀k:IntKind,W7 1 x.dc (.int k (i:Int))=some (.fp [d] 0):=by
 obtain⟨ds,h1,h2,h3⟩:=h.c;have jF:i<ds.length:=oJ;refine⟨ds[i],h3 i jF hi,λk=>?_⟩;rw[h1.idx (sU jF)];simp
theorem c1Y(hs:p.names.length=p.vars.length)(h:a0s p w=some v):v∈p.vars:=by
 grind[a0s]
def I8(n:Int):Prop:=-128<=n/\n<=127
theorem a7g(n:Int):I8 (W3 n 8):=by
 have:=b27 (n:=n) (w:=8) dJ;simp only[I8]at *;omega
theorem doZ8(op:Nat)(a b:Int):I8 (fD op a b 8):=by
 unfold fD;grind[a7g,I8]
theorem b9P(b:Bool):I8 (V6 b):=by cases b<;>simp[V6,I8]
theorem binZ8(op a b:Int):I8 (a1e op a b).1:=by
 grind[a1e,I8,b9P,doZ8]
structure fW(st:U6):Prop where
 v:∀n∈st.vars,I8 n
 c:∀l∈st.ae,l.length<=3/\∀n∈l,I8 n
theorem b1k{ch:List ByteArray}{look:ByteArray->Option Nat}{st:U6}(h8:fW st):∀n k,I8 (a06 t ch look st n k).1
 |0,k=>by simp[a06,I8]
 |n+1,k=>by
  unfold a06;simp only;split
  .exact a7g _
  split
  .split
   .simp[I8]
   .rename_i v _
    simp only[X9,List.getD];cases hv:st.vars[v]? with
    |none=>simp[I8]
    |some y=>exact h8.v y (Ki hv)
  split
  .split
   .simp only[U8,List.getD]
    cases hv:st.ae[a2r ch ((nd t k).word 0)]? with
    |none=>simp[I8]
    |some y=>have:=(h8.c y (Ki hv)).1;simp only[Ho,I8];omega
   .simp[I8]
  grind[a7g,b9P,binZ8,I8]
def a9N(σ:Nat->Nat)(v:Int):Int:=if 0<=v then((σ v.toNat:Nat):Int)else v
def b3g(σ:Nat->Nat)(e:Ed):Ed:={ e with var:=a9N σ e.var }
def eI(σ:Nat->Nat)(l:List Nat)(c:Nat)(p:Pr):Pr:={ p with copy:=c,locals:=l,vars:=p.vars.map σ,ai:=p.ai.map (b3g σ) }
variable{σ:Nat->Nat}
theorem c7O(v:Nat):a9N σ (v:Int)=((σ v:Nat):Int):=by simp[a9N]
variable{l:List Nat}
theorem b5T(p:Pr)(aq to act node:Nat)(expr v ch:Int):(eI σ l c p).put aq to act node expr (a9N σ v) ch=eI σ l c (p.put aq to act node expr v ch):=by
 simp[eI,Pr.put,b3g]
theorem a6p(p:Pr)(aq to act node:Nat)(expr ch:Int):(eI σ l c p).put aq to act node expr (-1) ch=eI σ l c (p.put aq to act node expr (-1) ch):=b5T p aq to act node expr (-1) ch
theorem b1p(p:Pr):(eI σ l c p).place=eI σ l c p.place:=rfl
theorem b0A(p:Pr):(eI σ l c p).ah=p.ah:=rfl
theorem b3O(p:Pr)(n:Nat)(is:Int):(eI σ l c p).idle n is=eI σ l c (p.idle n is):=by
 unfold Pr.idle;split<;>rfl
theorem c8o(n to:Nat)(es:List Ed):a3h n to (es.map (b3g σ))=(a3h n to es).map (b3g σ):=by
 unfold a3h;simp only[FK,List.map_take,Ir,JO];rfl
def StC(σ:Nat->Nat)(l:List Nat)(c:Nat)(names:List ByteArray)(vars:List Nat)(st:Pr->Nat->Nat->Nat->Pr)(k:Nat):Prop :=
 ∀p aq to,p.names=names->p.vars=vars->st (eI σ l c p) k aq to=eI σ l c (st p k aq to)/\(st p k aq to).names=names/\(st p k aq to).vars=vars
theorem a7m{names:List ByteArray}{vars:List Nat}{st:Pr->Nat->Nat->Nat->Pr}{node:Nat}:∀{ks:List Nat}{p:Pr}{aq to:Nat},(∀k∈ks,StC σ l c names vars st k)->p.names=names->p.vars=vars ->
 a3C st node (eI σ l c p) ks aq to=eI σ l c (a3C st node p ks aq to)/\(a3C st node p ks aq to).names=names/\(a3C st node p ks aq to).vars=vars
 |[],p,aq,to,_,hn,hv=>⟨a6p _ _ _ _ _ _ _,hn,hv⟩
 |[k],p,aq,to,hs,hn,hv=>hs k sJ p aq to hn hv
 |k::k'::ks,p,aq,to,hs,hn,hv=>by
  obtain⟨a1,a2,a3⟩:=hs k sJ p.place aq p.ah hn hv;obtain⟨b1,b2,b3⟩:=a7m (node:=node) (ks:=k'::ks) (p:=st p.place k aq p.ah) (aq:=p.ah) (to:=to) (λx hx=>hs x (by simp only[Fi]at hx⊢;right;exact hx)) a2 a3;grind[a3C,b1p,b0A]
theorem b4A{t:List Nd}{names:List ByteArray}{vars:List Nat}{st:Pr->Nat->Nat->Nat->Pr}{aq to:Nat}:∀{ks:List Nat}{p:Pr},(∀b∈ks,∀k∈(nd t b).ks,StC σ l c names vars st k)->p.names=names->p.vars=vars ->
 a1X t st aq to (eI σ l c p) ks=eI σ l c (a1X t st aq to p ks)/\(a1X t st aq to p ks).names=names/\(a1X t st aq to p ks).vars=vars
 |[],p,_,hn,hv=>⟨rfl,hn,hv⟩
 |b::ks,p,hs,hn,hv=>by
  unfold a1X;split
  .obtain⟨a1,a2,a3⟩:=a7m (node:=b) (ks:=(nd t b).ks) (p:=p.place.put aq p.ah 0 b (-1) (-1) (-1)) (aq:=p.ah) (to:=to) (hs b sJ) hn hv
   obtain⟨b1,b2,b3⟩:=b4A (ks:=ks) (λx hx=>hs x (by simp[hx])) a2 a3;refine⟨?_,b2,b3⟩;grind[b1p,b0A,a6p,a1g]
  .obtain⟨a1,a2,a3⟩:=a7m (node:=b) (ks:=(nd t b).ks) (p:=p) (aq:=aq) (to:=to) (hs b sJ) hn hv
   obtain⟨b1,b2,b3⟩:=b4A (ks:=ks) (λx hx=>hs x (by simp[hx])) a2 a3;refine⟨?_,b2,b3⟩;grind[a1g]
theorem c6V{vs:List Nat}(h:i<vs.length):(vs.map σ).getD i 0=σ (vs.getD i 0):=by simp[List.getD,h]
theorem b9l{t:List Nd}(ht:a2a t){jQ:Nat}{ch names:List ByteArray}{vars:List Nat}{P:Nat->Prop}(hc:∀j,j<t.length->P j->∀k∈(nd t j).ks,P k)(hs:∀k,P k->b1v t jQ ch names vars k):∀(f k:Nat),k<t.length->P k->a5M (nd t k).kind->t.length-k<f->StC σ l c names vars (X5 t ch f) k
 |0,k,_,_,_,hf=>by omega
 |f+1,k,hk,hP,jZ,hf=>by
  intro p aq to hn hv;have iT:=ht.node k hk;have kx:=ht.ks hk;have hS:=hs k hP;have bl:=λb hb jY x hx=>by
   have h1:=kx b hb;have h2:=ht.ks h1.2 x hx;exact b9l ht hc hs f x h2.2 (hc b h1.2 (hc k hk hP b hb) x hx) ((ht.node b h1.2).block jY x hx) oJ
  have kI:∀s,0<names.length->((((eI σ l c p).vars.getD (a2k (eI σ l c p).names s) 0:Nat):Int))=a9N σ ((p.vars.getD (a2k p.names s) 0:Nat):Int):=λs h0=>by
   rw[c7O];show(((p.vars.map σ).getD (a2k p.names s) 0:Nat):Int)=_
   rw[c6V (by rw[hv,hn,<- hS.same];exact b1a h0)]
  have ip:=b0U p aq ((nd t k).num 0);unfold X5;simp only;by_cases c6:(nd t k).kind=6
  .rw[Fk c6,Fk c6,kI _ (hS.v (.inl c6)),b5T]
   exact⟨rfl,hn,hv⟩
  rw[so c6,so c6];by_cases c7:(nd t k).kind=7
  .rw[Fk c7,Fk c7,a6p]
   exact⟨rfl,hn,hv⟩
  rw[so c7,so c7];by_cases c8:(nd t k).kind=8
  .rw[Fk c8,Fk c8,kI _ (hS.v (.inr c8)),b3O,b5T]
   exact⟨rfl,ip.2.2.2.trans hn,ip.2.2.1.trans hv⟩
  rw[so c8,so c8];by_cases c9:(nd t k).kind=9
  .rw[Fk c9,Fk c9,b3O,a6p]
   exact⟨rfl,ip.2.2.2.trans hn,ip.2.2.1.trans hv⟩
  rw[so c9,so c9];by_cases qN:(nd t k).kind=10
  .rw[Fk qN,Fk qN,b3O]
   have h1:=iT.choose qN;exact b4A (λb hb=>bl b hb (h1.2 b hb)) (ip.2.2.2.trans hn) (ip.2.2.1.trans hv)
  rw[so qN,so qN];by_cases qS:(nd t k).kind=11
  .rw[Fk qS,Fk qS]
   obtain⟨l1,l2,l3,l4⟩:=iT.cond qS;have m1:=a1E (x:=nd t k) (i:=1) oJ;obtain⟨a1,a2,a3⟩:=a7m (node:=(nd t k).aE 1) (ks:=(nd t ((nd t k).aE 1)).ks) (p:=p.place.put aq p.ah 4 k ((nd t k).aE 0:Nat) (-1) (-1)) (aq:=p.ah) (to:=to) (bl _ m1 l3) hn hv;rw[b1p,b0A,a6p];unfold a1g;rw[a1];generalize a3C (X5 t ch f) ((nd t k).aE 1) (p.place.put aq p.ah 4 k ((nd t k).aE 0:Nat) (-1) (-1)) (nd t ((nd t k).aE 1)).ks p.ah to=q at *;split
   .rw[a6p]
    exact⟨rfl,a2,a3⟩
   .have m2:=a1E (x:=nd t k) (i:=2) oJ
    obtain⟨b1,b2,b3⟩:=a7m (node:=(nd t k).aE 2) (ks:=(nd t ((nd t k).aE 2)).ks) (p:=q.place.put aq q.ah 5 k ((nd t k).aE 0:Nat) (-1) (-1)) (aq:=q.ah) (to:=to) (bl _ m2 (l4 oJ)) a2 a3;rw[b1p,b0A,a6p,b1];exact⟨rfl,b2,b3⟩
  rw[so qS,so qS];by_cases qP:(nd t k).kind=12
  .rw[Fk qP,Fk qP]
   obtain⟨l1,l2,l3⟩:=iT.loop qP;have m1:=a1E (x:=nd t k) (i:=1) oJ;obtain⟨a1,a2,a3⟩:=a7m (node:=(nd t k).aE 1) (ks:=(nd t ((nd t k).aE 1)).ks) (p:=(p.place.put aq p.ah 4 k ((nd t k).aE 0:Nat) (-1) (-1)).put aq to 5 k ((nd t k).aE 0:Nat) (-1) (-1)) (aq:=p.ah) (to:=aq) (bl _ m1 l3) hn hv;rw[b1p,b0A,a6p,a6p];unfold a1g;grind
  rw[so qP,so qP];by_cases qM:(nd t k).kind=13
  .rw[Fk qM,Fk qM]
   obtain⟨l1,l2⟩:=iT.atom qM;have m0:=a1E (x:=nd t k) (i:=0) oJ;obtain⟨a1,a2,a3⟩:=a7m (node:=(nd t k).aE 0) (ks:=(nd t ((nd t k).aE 0)).ks) (p:=p) (aq:=aq) (to:=to) (bl _ m0 l2) hn hv;grind[a1g,eI,c8o]
  rw[so qM,so qM];by_cases vj:(nd t k).kind=15
  .rw[Fk vj,Fk vj,a6p]
   exact⟨rfl,hn,hv⟩
  rw[so vj,so vj,a6p];exact⟨rfl,hn,hv⟩
def a8A(g d:Nat)(v:Nat):Nat:=if v<g then v else v+d
theorem c5D(h:Y9 t)(hS:a3g t){o':fC}(ho:o∈a0W t)(hk:o'.k=o.k)(hs:o'.seen=o.seen)(lD:o.nv<=o'.nv):a2S t o'=eI (a8A (W5 t).vs.length (o'.nv-o.nv)) (cW t o').locals o'.c (a2S t o):=by
 obtain⟨vs,v1,v2,v3,v4⟩:=a9L ho;have jD:=a6D ho;have tH:=jD.lo;obtain⟨b,b1,jo,k2,_,uI⟩:=b2E h hS ho;have pQ:=a9h ((h.ok.node o.k k2).proc jD.kind);have oF:∀j,j<t.length->(o.k<=j/\j<b)->∀k∈(nd t j).ks,o.k<=k/\k<b:=λj _ hj k hk=>by
  obtain⟨z,hz,rfl⟩:=Fs.1 hk;have:=jo.down j hj.1 hj.2 z hz;omega
 have e0:cW t o'=eI (a8A (W5 t).vs.length (o'.nv-o.nv)) (cW t o').locals o'.c (cW t o):=by
  unfold eI;simp only[cW,hk,hs,HZ,FK,JO];congr 1
  congr 1
  .symm
   rw[HT (g:=id)]
   .simp
   .intro v hv
    rw[FU]at hv;unfold a8A;grind
  .refine HT λv _=>?_
   simp only[IV,a8A];grind
 have e1:∀k∈(nd t o.k).ks.drop (Y5 t (nd t o.k)),StC (a8A (W5 t).vs.length (o'.nv-o.nv)) (cW t o').locals o'.c (cW t o).names (cW t o).vars (X5 t (bx t) (t.length+1)) k:=λk hk=>by
  have jZ:=pQ.1 k hk;have mE:=Gz hk;have kC:=h.ok.ks k2 k mE;exact b9l h.ok oF uI (t.length+1) k kC.2 (oF o.k k2 ⟨sm _,jo.lt⟩ k mE) jZ oJ
 unfold a2S;rw[hk];conv=>lhs;rw[e0]
 exact(a7m e1 rfl rfl).1
def b2b(t:List Nd)(l:List fC):Prop:=∀j(hj:j<l.length),0<l[j].c->∃i,∃hi:i<l.length,j=i+1/\l[i].k=l[j].k/\l[i].seen=l[j].seen/\l[i].c+1=l[j].c/\l[i].nv+Y5 t (nd t l[j].k)=l[j].nv
theorem c6f{l:List fC}{nv n:Nat}(h:b2b t l):b2b t (l++a6k t k seen nv n):=by
 intro j hj hc;by_cases hl:j<l.length
 .rw[GZ hl]at hc
  obtain⟨i,hi,rfl,h1,h2,h3,h4⟩:=h j hl hc;grind
 .rw[Ik oJ]at hc
  have yf:j-l.length<n:=by rw[Fq]at hj;simp[a6k]at hj;omega
  simp only[a6k,IK,Ix]at hc;refine⟨j-1,oJ,oJ,?_⟩;rw[Ik oJ,Ik oJ];simp only[a6k,IK,Ix];grind
theorem c5c(t:List Nd):b2b t (a0W t):=by
 unfold a0W a2A;refine a9v (P:=λa:Gc=>b2b t a.l) (λj hj=>by simp at hj) λa k _ ha=>?_
 grind[a5R,c6f]
theorem c8e(t:List Nd)(o:fC)(h:Y9 t)(hS:a3g t)(ho:o∈a0W t):(a2S t o).copy=o.c:=(a7a h hS ho).2.copy
def a5C(mo:Mo)(p:Pr)(e:Ed):Ft:=if 0<=e.expr then a2x mo.tree (mo.ae.map Ch.name) (bD p.names p.vars) (mo.tree.length+1) e.expr.toNat ⟨0,0,0,0,0,false⟩else⟨0,0,0,0,0,false⟩
def a4s(e:Ed)(f:Ft):Ft :=
 if e.act=1 then{ f with writes:=a14 e.var }
 else if e.act=2 then{ f with aW:=a14 e.chan }
 else if e.act=3 then{ f with writes:=a14 e.var,aY:=a14 e.chan }else f
theorem b4P(mo:Mo)(p:Pr)(e:Ed):Z8 mo p e=a4s e (a5C mo p e):=rfl
def aR(vs:List Bool)(e:Nat):Bool:=vs.getD (e/2) false != (e%2==1)
def stepV(m:List Bool)(st:List Bool×Nat)(p:Nat×Nat):List Bool×Nat :=
 if p=(0,0)then(if st.1.length=0 then(st.1++[false],st.2)else(st.1++[m.getD st.2 false],st.2+1))
 else(st.1++[aR st.1 p.1&&aR st.1 p.2],st.2)
def valsS(m:List Bool)(nodes:List (Nat×Nat)):List Bool×Nat:=nodes.foldl (stepV m) ([],0)
def eZ(m:List Bool)(nodes:List (Nat×Nat)):List Bool:=(valsS m nodes).1





variable{f:Nat->Bool}{w:Nat}
theorem a8r(h:0<w):a0d f w%2^w=(num f w:Int)%2^w:=by rw[b0z h,c17]
theorem b0c(h:0<w):-2^(w-1)<=a0d f w/\a0d f w<2^(w-1):=by simp_all[b0z,b27]
theorem b16(h:0<w):W3 (a0d f w) w=a0d f w:=a6Y h (b0c h).1 (b0c h).2
theorem a8R(h:0<w)(e:(num f w:Int)%2^w=n%2^w):a0d f w=W3 n w:=by rw[b0z h,a94 e]
theorem c7C(h:0<w)(e:a0d f w=a0d g w):num f w=num g w:=by
 have h1:=a8r (f:=f) h;rw[e,a8r h]at h1;have a:=a2g f w;have b:=a2g g w;have a':(num f w:Int)<2^w:=by exact_mod_cast a
 have b':(num g w:Int)<2^w:=by exact_mod_cast b
 rw[GQ oJ b',GQ oJ a']at h1;omega
theorem b3m(h:0<w):a0d f w=a0d g w↔∀i,i<w->f i=g i :=
 ⟨λe=>b14 (c7C h e),λe=>b6c h e⟩
theorem b6V{f:Nat->Bool}{v:Nat}(hv:0<v):∀k,(num (λi=>f (min i (v-1))) (v+k):Int)-(b2n (f (v-1)):Int)*2^(v+k)=a0d f v
 |0=>by
  have:num (λi=>f (min i (v-1))) v=num f v:=a5e λi hi=>by rw[JW oJ]
  rw[GN,this];rfl
 |k+1=>by
  have ih:=b6V (f:=f) hv k;rw[<- ih,<- Hu,num,Nat.min_eq_right oJ,IX];grind
theorem c7v(h:w<=v):(num f v:Int)%2^w=(num f w:Int)%2^w:=by
 obtain⟨k,rfl⟩:∃k,v=w+k:=⟨v-w,oJ⟩
 simp[a64]
theorem b2m(h:w<=v):(2:Int)^w ∣ 2^v:=by
 obtain⟨k,rfl⟩:∃k,v=w+k:=⟨v-w,oJ⟩
 simp[Int.pow_add]
theorem c0E(h:w<=v):(2:Int)^w<=2^v:=by
 have:(2:Nat)^w<=2^v:=HQ oJ h;exact_mod_cast this
theorem c8w(hv:0<v)(hw:0<w):a0d (λi=>f (min i (v-1))) w=W3 (a0d f v) w:=by
 rcases Ky w v with h|h
 .have e:a0d (λi=>f (min i (v-1))) w=a0d f w:=b6c hw λi hi=>by rw[JW oJ]
  rw[e,b0z hw];refine a94 ?_;rw[<- c7v (JM h)];have:=a8r (f:=f) hv;rw[<- Hq (a0d f v) (b2m (JM h)),this,Hq _ (b2m (JM h))]
 .obtain⟨k,rfl⟩:∃k,w=v+k:=⟨w-v,oJ⟩
  grind[b6V,b0c,a6Y,a0d]
theorem c1Z{a b c d n:Int}(h1:a%n=c%n)(h2:b%n=d%n):(a+b)%n=(c+d)%n:=by rw[Int.add_emod,h1,h2,<- Int.add_emod]
theorem b9W{a b c d n:Int}(h1:a%n=c%n)(h2:b%n=d%n):(a*b)%n=(c*d)%n:=by rw[Int.mul_emod,h1,h2,<- Int.mul_emod]
theorem c4p{a c n:Int}(h1:a%n=c%n):(-a)%n=(-c)%n:=by
 have:=b9W (a:=-1) (b:=a) (c:=-1) (d:=c) (n:=n) rfl h1;simpa using this
theorem b5m{a w:Nat}:((a%2^w:Nat):Int)=(a:Int)%2^w:=sJ
variable{B:Nat->Bool}
theorem c6c(h:0<w):a0d (a2O A B false) w=W3 (a0d A w+a0d B w) w:=by
 refine a8R h ?_;rw[b0Q,b5m,Hq _ (JQ _)];simp only[b4z,GN,Int.natCast_add];grind[c1Z,a8r]
theorem c4N(h:0<w):a0d (a2O A (λj=>!B j) true) w=W3 (a0d A w-a0d B w) w:=by
 refine a8R h ?_;rw[b0Q,b5m,Hq _ (JQ _)];have hn:=b2J B w;have e:((num A w+num (λj=>!B j) w+b2n true:Nat):Int)=(num A w:Int)+(-(num B w:Int))+2^w:=by
  have:((num (λj=>!B j) w+num B w+1:Nat):Int)=2^w:=by rw[hn];simp
  simp only[a8T]at *;omega
 rw[e,Int.add_emod_right,Int.sub_eq_add_neg];grind[c1Z,a8r,c4p]
theorem c8h(h:0<w):a0d (a6X A B w) w=W3 (a0d A w*a0d B w) w:=by
 refine a8R h ?_;rw[c1G A B (sm w),b5m,Hq _ (JQ _),JX];grind[b9W,a8r]
variable{X:Nat->Bool}
theorem b20(h:0<w):num (X1 (X (w-1)) X) w=(a0d X w).natAbs:=by
 rw[c07];have ht:=b6f (f:=X) h;have hl:=a2g X w;have kE:(num X w:Int)<2^w:=by grind
 unfold a0d;cases hx:X (w-1)
 .simp
 .rw[hx]at ht
  have h2:2^(w-1)<=num X w:=sU ht.symm;have h3:0<2^(w-1):=GU sJ;simp only[FG,a8T];rw[HA oJ];grind
theorem c8M{Y:Nat->Bool}(h:0<w)(hy:a0d Y w≠0) :
 a0d (X1 (X (w-1) != Y (w-1)) (a1C (X1 (X (w-1)) X) (X1 (Y (w-1)) Y) w)) w=W3 ((a0d X w).tdiv (a0d Y w)) w:=by
 refine a8R h ?_;have ay:=b20 (X:=Y) h;have ax:=b20 (X:=X) h;have ry:=b0c (f:=Y) h;have e2:((2^(w-1):Nat):Int)=2^(w-1):=sJ;rw[c2f,c5E _ _ h oJ oJ,ax,ay];congr 1
 have sx:X (w-1)=decide (a0d X w<0):=by
  have hl:=a2g X w;have kE:(num X w:Int)<2^w:=by exact_mod_cast hl
  unfold a0d;cases X (w-1)<;>simp<;>omega
 have sy:Y (w-1)=decide (a0d Y w<0):=by
  have hl:=a2g Y w;have kE:(num Y w:Int)<2^w:=by exact_mod_cast hl
  unfold a0d;cases Y (w-1)<;>simp<;>omega
 rw[sx,sy];generalize a0d X w=a;generalize a0d Y w=b at *;have key:∀(m n:Nat),((m/n:Nat):Int)=(m:Int).tdiv n:=λm n=>rfl
 by_cases ha:a<0<;>by_cases hb:b<0<;>simp only[ha,hb,Iz,decide_false,bne_self_eq_false,Fw,FF]
 .rw[key,Gl oJ,Gl oJ,JR,JS];omega
 .simp only[bne,Bool.true_eq_false,FA,ne_eq,Jm,FG,show(true==false)=false from rfl,Hb]
  rw[key,Gl oJ,Hr oJ,JR];omega
 .simp only[bne,show(false==true)=false from rfl,Hb,FG]
  rw[key,Hr oJ,Gl oJ,JS];omega
 grind
theorem c70{Y:Nat->Bool}(h:0<w)(hy:a0d Y w≠0) :
 a0d (X1 (X (w-1)) (a2o (X1 (X (w-1)) X) (X1 (Y (w-1)) Y) w w)) w=W3 ((a0d X w).tmod (a0d Y w)) w:=by
 refine a8R h ?_;have ay:=b20 (X:=Y) h;have ax:=b20 (X:=X) h;have ry:=b0c (f:=Y) h;have e2:((2^(w-1):Nat):Int)=2^(w-1):=sJ;rw[c2f,c6z _ _ h oJ oJ,ax,ay];congr 1
 have sx:X (w-1)=decide (a0d X w<0):=by
  have hl:=a2g X w;have kE:(num X w:Int)<2^w:=by exact_mod_cast hl
  unfold a0d;cases X (w-1)<;>simp<;>omega
 rw[sx];generalize a0d X w=a;generalize a0d Y w=b at *;have key:∀(m n:Nat),((m%n:Nat):Int)=(m:Int).tmod n:=λm n=>rfl
 have kb:∀x:Int,x.tmod (b.natAbs:Int)=x.tmod b:=λx=>by
  rcases Int.natAbs_eq b with hb|hb
  .rw[<- hb]
  .have:x.tmod b=x.tmod (-b):=by rw[Int.tmod_neg]
   rw[this];congr 1;omega
 rw[key,kb];by_cases ha:a<0
 .simp only[ha,Iz,FG]
  rw[Gl oJ,KA];omega
 grind
theorem c4K(h:0<w):a0d f w=0↔∀i,i<w->f i=false:=by
 have:=b3m (f:=f) (g:=λ_=>false) h;simp_all[a0d,a7P]
theorem c1j(h:0<w):(num (λi=>if i=w-1 then !A i else A i) w:Int)=a0d A w+2^(w-1):=by
 obtain⟨k,rfl⟩:∃k,w=k+1:=⟨w-1,oJ⟩
 have e:num (λi=>if i=k then !A i else A i) k=num A k:=a5e λi hi=>so oJ
 simp only[Nat.add_sub_cancel,num,a0d,e,FG,IX];cases A k<;>simp<;>omega
theorem c6p(h:0<w):a5F (λi=>if i=w-1 then !A i else A i) (λi=>if i=w-1 then !B i else B i) w=decide (a0d A w<a0d B w):=by
 rw[b1x];have h1:=c1j (A:=A) h;have h2:=c1j (A:=B) h;grind
def a7B(A B:Nat->Bool):Nat->Bool
 |0=>true
 |i+1=>a7B A B i&&!(A i != B i)
theorem b64(A B:Nat->Bool):∀n,a7B A B n=true↔∀i,i<n->A i=B i
 |0=>by simp[a7B]
 |n+1=>by
  rw[a7B,Fo,b64 A B n];grind
theorem c6q(h:0<w):a7B A B w=decide (a0d A w=a0d B w):=by
 rw[FV,b64,Fy,b3m h]
def W1(n:Int)(i:Nat):Bool:=decide (n/2^i%2=1)
theorem a6M(n:Int):∀w,(num (W1 n) w:Int)=n%2^w
 |0=>by simp[num]
 |w+1=>by
  have ih:=a6M n w;rw[num];have e:n%2^(w+1)=n%2^w+2^w*(n/2^w%2):=by
   rw[IX];have p:=a6b w;have h1:=IG n (2^w);have h2:=IG (n/2^w) 2;have h3:=IG n (2^w*2);rw[<- Int.ediv_ediv_of_nonneg oJ]at h3;generalize n/2^w/2=q at *;generalize n/2^w=u at *;generalize u%2=r at *;subst h2;rw[Int.mul_add,<- Int.mul_assoc]at h1;omega
  rw[e,<- ih];simp only[Int.natCast_add,JX];congr 1
  rw[Int.mul_comm];have:((2^w:Nat):Int)=2^w:=sJ;rw[this];congr 1
  unfold W1;rcases Int.emod_two_eq (n/2^w)with h|h<;>simp[h]
theorem b22(h:0<w):a0d (W1 n) w=W3 n w:=by
 grind[a8R,a6M,Int.emod_emod_of_dvd,Int.dvd_refl]
theorem a8m{x:Int}:IntKind.i64.wrap (a8G .i64 x 1)=x%2:=by
 show IntKind.i64.wrap ((BitVec.ofInt IntKind.i64.bits x &&& BitVec.ofInt IntKind.i64.bits 1).toNat:Int)=x%2
 have e1:(BitVec.ofInt IntKind.i64.bits x &&& BitVec.ofInt IntKind.i64.bits 1).toNat=(x%2^64).toNat%2:=by
  rw[JG];have a2:(BitVec.ofInt IntKind.i64.bits (1:Int)).toNat=1:=rfl;rw[a2,Nat.and_one_is_mod,Iw];rfl
 grind[Z9]

end Go.V
namespace Go.Proofs.YtigbmclkjknnjaaGreat
open Go.V
variable{i:Nat}
theorem a5K{n:Nat}(h:i<n)(hn:n<=maxLen):IntKind.i64.wrap ((i:Int)+1)=((i+1:Nat):Int):=by
 have:maxLen=9223372036854775807:=rfl;rw[Z9 oJ oJ];omega
def eT(f:Nat)(l:List D)(r:D):Prop:=∃s1,Ev U5 f l k4.empty r s1
def a0E(f:Nat)(l:List D)(P:Bool->Prop):Prop:=∃b,eT f l (.bool b)/\P b
variable{f:Nat}{l:List D}
theorem a0N{P:Bool->Prop}(h:Y4 U5 f l k4.empty λd _=>∃b,d=.bool b/\P b):a0E f l P:=by
 obtain⟨d,s',h,b,rfl,hp⟩:=h;exact⟨b,⟨s',h⟩,hp⟩
variable{r:D}
theorem a56(h:Y4 U5 f l k4.empty λd _=>d=r):eT f l r:=by
 obtain⟨d,s',h,rfl⟩:=h;exact⟨s',h⟩
theorem V2{af i t f args rest s Q}{env:k6}(hr:eT f l r)(hs:a2i r=true)(hl:env.aR args=l)(ha:X8 (V.aK s.get 20) l=some l)
 (h:WQ U5 af rest ((t,r)::env) s Q):WQ U5 af ((i,⟨some t,.m (.call .gu (.aL (.fn f [])) args),none⟩)::rest) env s Q:=by
 obtain⟨s1,hr⟩:=hr;exact a5D hr hs hl ha h
variable{n:Int}
theorem b7d:a0E 97 [.int .u8 n] λ_=>True:=by
 refine a0N ?_;by_cases c1:65<=n<;>by_cases c2:n<=90<;>by_cases c3:97<=n<;>by_cases c4:n<=122
 all_goals
  refine W4 (vf:=vf97) rfl ?_;unfold vf97;refine zE ?_;try refine zW (V1 c1 c2 c3 c4) ?_
  exact⟨.inr trivial,_,rR,_,rfl,trivial⟩
theorem c9e:a0E 99 [.int .u8 n] λ_=>True:=by
 refine a0N ?_;by_cases c1:48<=n<;>by_cases c2:n<=57
 all_goals
  refine W4 (vf:=vf99) rfl ?_;unfold vf99;refine zE ?_;try refine zW (aN c1 c2) ?_
  exact⟨.inr trivial,_,rR,_,rfl,trivial⟩
theorem c6M:a0E 98 [.int .u8 n] λ_=>True:=by
 refine a0N ?_;obtain⟨b1,h1,_⟩:=b7d (n:=n);obtain⟨b2,h2,_⟩:=c9e (n:=n);cases b1<;>cases b2<;>by_cases c1:(n==95)=true
 all_goals
  refine W4 (vf:=vf98) rfl ?_;unfold vf98;refine zE ?_;repeat first
  |(apply V2 h1 rfl rfl rfl)
  |(apply V2 h2 rfl rfl rfl)
  |refine zW c1 ?_
  exact⟨.inr trivial,_,rR,_,rfl,trivial⟩
theorem c29{s:k4}{id n:Nat}{cs:List D}(h:s.get id=some (.cells cs))(hn:cs.length=n):Rd s (.arr id 0 n 1) cs:=by subst hn;exact Rd.arr h
variable{x:ByteArray}
theorem key_ok:a0E 164 [.str x] λ_=>True:=by
 refine a0N ?_;refine W4 (vf:=b5x) rfl ?_;unfold b5x;refine zE ?_;try refine cR ?_
 refine a1l (Q:=a0u 0 _) (λn env s=>∃(i:Nat)(cs:List D),i<=21/\n=21-i/\s.get 0=some (.cells cs)/\cs.length=21/\(∀c∈cs,∃y,c=.str y)/\(env.get 0=.str x/\env.get 3=.arr 0 0 21 1/\env.get 4=.int .i64 (i:Int))) ?_ 21 _ _
  ⟨0,_,oJ,rfl,W8 rfl,rfl,sJ,by simp[k6.get,a0n.at];rfl⟩
 rintro n env s ⟨i,cs,hi,rfl,hg,hl,hc,hE⟩;have CQ:((21:Nat):Int)=21:=rfl;by_cases h:i<21
 .have c1:((i:Int)<21)=True:=FR oJ
  have hs:IntKind.i64.wrap ((i:Int)+1)=((i+1:Nat):Int):=by rw[Z9 oJ oJ];omega
  have ho:cs.all V5=true:=by
   rw[FZ];intro c hm;obtain⟨y,rfl⟩:=hc c hm;rfl
  obtain⟨p,p1,p2⟩:=(c29 hg hl).idx ho (i:=i) oJ (k:=.i64) rfl;obtain⟨y,hy⟩:=hc cs[i] (Fp _);rw[hy]at p2;by_cases c2:y=x
  .try refine zW (X4 hE CQ c1 p1 p2 c2) ?_
   exact⟨.inr trivial,_,rR,_,rfl,trivial⟩
  .try refine zW (X0 hE CQ c1 p1 p2 c2 hs) ?_
   exact⟨21-(i+1),oJ,i+1,cs,oJ,rfl,hg,hl,hc,(rG hE)⟩
 .have c1:((i:Int)<21)=False:=FH oJ
  try refine zW (V4 hE CQ c1) ?_
  exact⟨.inr trivial,_,rR,_,rfl,trivial⟩
theorem b7H(h:i<x.size):∃v,b1b (.str x) (.int .i64 (i:Int))=some (.int .u8 v):=by
 refine⟨(x[i]).toNat,?_⟩;have:x[i]?=some x[i]:=by simp[h]
 simp[b1b,this]
theorem c3N:a0E 147 [.str x] λ_=>True:=by
 refine a0N ?_;by_cases c1:x.size=0
 .have iU:((x.size:Int)==0)=true:=by rw[c1];rfl
  refine W4 (vf:=a6h) rfl ?_;unfold a6h;refine zE ?_;try refine zW iU ?_
  exact⟨.inr trivial,_,rR,_,rfl,trivial⟩
 have iU:((x.size:Int)==0)=false:=by rw[FA];omega
 by_cases c2:12<x.size
 .have km:((12:Int)<(x.size:Int))=True:=FR oJ
  refine W4 (vf:=a6h) rfl ?_;unfold a6h;refine zE ?_;try refine zW (aN iU km) ?_
  exact⟨.inr trivial,_,rR,_,rfl,trivial⟩
 have km:((12:Int)<(x.size:Int))=False:=FH oJ;obtain⟨v,hv⟩:=b7H (x:=x) (i:=0) oJ;obtain⟨b1,h1,_⟩:=b7d (n:=v);have z0:((0:Nat):Int)=0:=rfl;rw[z0]at hv;cases b1
 .refine W4 (vf:=a6h) rfl ?_
  unfold a6h;refine zE ?_;repeat first
  |(apply V2 h1 rfl rfl rfl)
  |refine zW (V4 iU km hv) ?_
  exact⟨.inr trivial,_,rR,_,rfl,trivial⟩
 obtain⟨b2,h2,_⟩:=key_ok (x:=x);cases b2
 .refine W4 (vf:=a6h) rfl ?_
  unfold a6h;refine zE ?_;repeat first
  |(apply V2 h1 rfl rfl rfl)
  |(apply V2 h2 rfl rfl rfl)
  |refine zW (V4 iU km hv) ?_
  refine a1l (Q:=a0u 0 _) (λn env s=>∃i:Nat,i<=x.size/\n=x.size-i/\(env.get 0=.str x/\env.get 3=.int .i64 (i:Int))) ?_ x.size _ _ ⟨0,oJ,rfl,by simp[k6.get]⟩;rintro n env s ⟨i,hi,rfl,hE⟩;by_cases c3:i<x.size
  .have jm:((i:Int)<(x.size:Int))=True:=FR oJ
   have hs:IntKind.i64.wrap ((i:Int)+1)=((i+1:Nat):Int):=by rw[Z9 oJ oJ];omega
   obtain⟨v,hv⟩:=b7H (x:=x) (i:=i) oJ;obtain⟨b3,h3,_⟩:=c6M (n:=v);cases b3
   .repeat first
    |(apply V2 h3 rfl rfl rfl)
    |refine zW (V4 hE jm hv) ?_
    exact⟨.inr trivial,_,rR,_,rfl,trivial⟩
   .repeat first
    |(apply V2 h3 rfl rfl rfl)
    |refine zW (V1 hE jm hv hs) ?_
    exact⟨x.size-(i+1),oJ,i+1,oJ,rfl,(rG hE)⟩
  .have jm:((i:Int)<(x.size:Int))=False:=FH oJ
   try refine zW (aN hE jm) ?_
   exact⟨.inr trivial,_,rR,_,rfl,trivial⟩
 .refine W4 (vf:=a6h) rfl ?_
  unfold a6h;refine zE ?_;repeat first
  |(apply V2 h1 rfl rfl rfl)
  |(apply V2 h2 rfl rfl rfl)
  |refine zW (V4 iU km hv) ?_
  exact⟨.inr trivial,_,rR,_,rfl,trivial⟩
def inR(k a b:Int):Bool:=decide (a<=k)&&decide (k<=b)
theorem b3Z{k a b:Int}:inR k a b=true↔a<=k/\k<=b:=by simp[inR]
theorem b1L{k a b:Int}:eT 112 [.int .i64 k,.int .i64 a,.int .i64 b] (.bool (inR k a b)):=by
 refine a56 ?_;unfold inR;by_cases c:a<=k
 .refine W4 (vf:=b08) rfl ?_
  unfold b08;refine zE ?_;try refine zW c ?_
  exact⟨.inr trivial,_,rR,by simp[c]⟩
 .refine W4 (vf:=b08) rfl ?_
  unfold b08;refine zE ?_;try refine zW c ?_
  exact⟨.inr trivial,_,rR,by simp[c]⟩
variable{x:Nd}{d:D}{t:List Nd}
theorem b6z(hT:Z0 d t)(hx:x.Ok)(hi:i<x.kids.length)(h0:0<=x.kids[i])(hl:x.kids[i]<(t.length:Int)):eT 113 [d,.agg x.row,.int .i64 (i:Int)] (.int .i64 (nd t (x.aE i)).kind):=by
 refine a56 ?_;have h1:=FI.idx hx.k hi (k:=.i64);have h2:=hT.at h0 hl (k:=.i64);have o1:=FL.one hx.w;have o2:=FL.one hx.n;have o3:=FL.one hx.k;rw[a77 hi];unfold Nd.row;refine W4 (vf:=b3z) rfl ?_;unfold b3z;refine zE ?_;try refine zW (W0 h1 h2 o1 o2 o3) ?_
 exact⟨.inr trivial,_,rR,rfl⟩
variable{c:Int}
theorem a2t(hx:x.Ok):a0E 109 [.agg x.row,.int .i64 c] λb=>b=true->(x.words.length:Int)=c:=by
 refine a0N ?_;have o1:=FL.one hx.w;have o2:=FL.one hx.n;have o3:=FL.one hx.k;have hlen:=FS.len hx.w;unfold Nd.row;refine W4 (vf:=b3I) rfl ?_;unfold b3I;refine zE ?_;try refine zW (V4 o1 o2 o3) ?_
 refine a1l (Q:=a0u 0 _) (λn env s=>∃i:Nat,i<=x.words.length/\n=x.words.length-i/\s.get 0=some (.cells [.int .i64 x.kind,x.dw,x.dn,x.dk,.int .i64 x.pos])/\(env.get 1=.int .i64 c/\env.get 2=.ptr 0 0/\env.get 5=.int .i64 (i:Int))) ?_ x.words.length _ _ ⟨0,oJ,rfl,W8 rfl,by simp[k6.get,a0n.at];rfl⟩;rintro n env s ⟨i,hi,rfl,hg,hE⟩;by_cases c3:i<x.words.length
 .have jm:((i:Int)<(x.words.length:Int))=True:=FR oJ
  have hs:=a5K c3 hx.wl;have iM:=FS.idx hx.w c3 (k:=.i64);obtain⟨b,hb,_⟩:=c3N (x:=x.words[i]);cases b
  .repeat first
   |(apply V2 hb rfl rfl rfl)
   |refine zW (U0 hE hg o1 o2 o3 hlen jm iM) ?_
   exact⟨.inr trivial,_,rR,_,rfl,sJ⟩
  .repeat first
   |(apply V2 hb rfl rfl rfl)
   |refine zW (U0 hE hg o1 o2 o3 hlen jm (aN iM hs)) ?_
   exact⟨x.words.length-(i+1),oJ,i+1,oJ,rfl,hg,(rG hE)⟩
 .have jm:((i:Int)<(x.words.length:Int))=False:=FH oJ
  try refine zW (X0 hE hg o1 o2 o3 hlen jm) ?_
  exact⟨.inr trivial,_,rR,_,rfl,sJ⟩
theorem a2M{x:Nd}(hx:x.Ok){m:Int}:a0E 110 [.agg x.row,.int .i64 c,.int .i64 m] λb=>b=true->(x.aI.length:Int)=c/\∀n∈x.aI,0<=n/\n<=m:=by
 refine a0N ?_;have o1:=FL.one hx.w;have o2:=FL.one hx.n;have o3:=FL.one hx.k;have hlen:=FI.len hx.n;unfold Nd.row;refine W4 (vf:=b5b) rfl ?_;unfold b5b;refine zE ?_;try refine zW (V4 o1 o2 o3) ?_
 refine a1l (Q:=a0u 0 _) (λn env s=>∃i:Nat,i<=x.aI.length/\n=x.aI.length-i/\(∀j(hj:j<x.aI.length),j<i->0<=x.aI[j]/\x.aI[j]<=m)/\s.get 0=some (.cells [.int .i64 x.kind,x.dw,x.dn,x.dk,.int .i64 x.pos])/\(env.get 1=.int .i64 c/\env.get 2=.int .i64 m/\env.get 3=.ptr 0 0/\env.get 7=.int .i64 (i:Int))) ?_ x.aI.length _ _ ⟨0,oJ,rfl,λj _ h=>by omega,W8 rfl,by simp[k6.get,a0n.at];rfl⟩;rintro n env s ⟨i,hi,rfl,iR,hg,hE⟩;by_cases c3:i<x.aI.length
 .have jm:((i:Int)<(x.aI.length:Int))=True:=FR oJ
  have hs:=a5K c3 hx.nl;have iM:=FI.idx hx.n c3 (k:=.i64);by_cases d1:x.aI[i]<0
  .try refine zW (U0 hE hg o1 o2 o3 hlen jm (aN iM d1)) ?_
   exact⟨.inr trivial,_,rR,_,rfl,sJ⟩
  .by_cases d2:m<x.aI[i]
   .try refine zW (U0 hE hg o1 o2 o3 hlen jm (V4 iM d1 d2)) ?_
    exact⟨.inr trivial,_,rR,_,rfl,sJ⟩
   .try refine zW (U0 hE hg o1 o2 o3 hlen jm (V1 iM d1 d2 hs)) ?_
    refine⟨x.aI.length-(i+1),oJ,i+1,oJ,rfl,λj hj hji=>?_,hg,(rG hE)⟩;by_cases e:j=i
    .subst e;omega
    .exact iR j hj oJ
 .have jm:((i:Int)<(x.aI.length:Int))=False:=FH oJ
  try refine zW (X0 hE hg o1 o2 o3 hlen jm) ?_
  refine⟨.inr trivial,_,rR,_,rfl,λh=>⟨sU h,λn hn=>?_⟩⟩;obtain⟨j,hj,rfl⟩:=FQ hn;exact iR j hj oJ
def a17(t:List Nd)(x:Nd):Prop:=∀k∈x.kids,0<=k/\k<(t.length:Int)
theorem b4n(hT:Z0 d t)(hx:x.Ok)(hk:a17 t x){a b:Int}:a0E 111 [d,.agg x.row,.int .i64 (f:Int),.int .i64 a,.int .i64 b] λr=>r=true->∀i,f<=i->i<x.kids.length->a<=(nd t (x.aE i)).kind/\(nd t (x.aE i)).kind<=b:=by
 refine a0N ?_;have o1:=FL.one hx.w;have o2:=FL.one hx.n;have o3:=FL.one hx.k;have hlen:=FI.len hx.k;have hz:=hx.fz;unfold Nd.row;refine W4 (vf:=b3U) rfl ?_;unfold b3U;refine zE ?_;try refine zW (V4 o1 o2 o3) ?_
 refine a1l (Q:=a0u 0 _) (λn env s=>∃i:Nat,f<=i/\n=x.kids.length-i/\(∀j,f<=j->j<i->j<x.kids.length->a<=(nd t (x.aE j)).kind/\(nd t (x.aE j)).kind<=b)/\s.get 0=some (.cells [.int .i64 x.kind,x.dw,x.dn,x.dk,.int .i64 x.pos])/\(env.get 0=d/\env.get 3=.int .i64 a/\env.get 4=.int .i64 b/\env.get 6=.ptr 0 0/\env.get 11=.int .i64 (i:Int))) ?_ (x.kids.length-f) _ _ ⟨f,oJ,rfl,λj _ h=>by omega,W8 rfl,by simp[k6.get,a0n.at];rfl⟩;rintro n env s ⟨i,hi,rfl,iR,hg,hE⟩;by_cases c3:i<x.kids.length
 .have jm:((i:Int)<(x.kids.length:Int))=True:=FR oJ
  have hs:=a5K c3 hx.kl;have kK:=hk _ (Fp c3);have h1:=b6z hT hx c3 kK.1 kK.2;unfold Nd.row at h1;have h2:=b1L (k:=(nd t (x.aE i)).kind) (a:=a) (b:=b);cases hr:inR (nd t (x.aE i)).kind a b
  .rw[hr]at h2
   repeat first
   |(apply V2 h1 rfl;(focus(simp only[k6.aR,k6.ev,k6.get,Nat.reduceEqDiff,↓reduceIte,hE]));(focus exact Y6 hT.fz hz U2))
   |(apply V2 h2 rfl;(focus(simp only[k6.aR,k6.ev,k6.get,Nat.reduceEqDiff,↓reduceIte,hE]));(focus rfl))
   |refine zW (X0 hE hg o1 o2 o3 hlen jm) ?_
   exact⟨.inr trivial,_,rR,_,rfl,sJ⟩
  .rw[hr]at h2
   repeat first
   |(apply V2 h1 rfl;(focus(simp only[k6.aR,k6.ev,k6.get,Nat.reduceEqDiff,↓reduceIte,hE]));(focus exact Y6 hT.fz hz U2))
   |(apply V2 h2 rfl;(focus(simp only[k6.aR,k6.ev,k6.get,Nat.reduceEqDiff,↓reduceIte,hE]));(focus rfl))
   |refine zW (U0 hE hg o1 o2 o3 hlen jm hs) ?_
   refine⟨x.kids.length-(i+1),oJ,i+1,oJ,rfl,λj h1 h2 h3=>?_,hg,(rG hE)⟩;by_cases e:j=i
   .subst e;exact b3Z.1 hr
   .exact iR j h1 oJ h3
 .have jm:((i:Int)<(x.kids.length:Int))=False:=FH oJ
  try refine zW (X0 hE hg o1 o2 o3 hlen jm) ?_
  exact⟨.inr trivial,_,rR,_,rfl,λ_ j h1 h2=>iR j h1 oJ h2⟩
theorem a6r(hT:Z0 d t)(hx:x.Ok)(hk:a17 t x){l m:Nat}(hf:f<=2)(hl:l<=1)(hm:m<=800):a0E 114 [d,.agg x.row,.int .i64 (f:Int),.int .i64 (l:Int),.int .i64 (m:Int)] λr=>r=true->f+l<=x.kids.length/\x.kids.length<=f+m/\∀i,i<x.kids.length->(i<f->17<=(nd t (x.aE i)).kind/\(nd t (x.aE i)).kind<=22)/\(f<=i->(nd t (x.aE i)).kind=16):=by
 refine a0N ?_;have o1:=FL.one hx.w;have o2:=FL.one hx.n;have o3:=FL.one hx.k;have hlen:=FI.len hx.k;have hz:=hx.fz;have e1:IntKind.i64.wrap ((f:Int)+(l:Int))=((f+l:Nat):Int):=by rw[Z9 oJ oJ];omega
 have e2:IntKind.i64.wrap ((f:Int)+(m:Int))=((f+m:Nat):Int):=by rw[Z9 oJ oJ];omega
 unfold Nd.row;refine W4 (vf:=b3C) rfl ?_;unfold b3C;refine zE ?_;try refine zW (V1 o1 o2 o3 hlen) ?_
 refine a1l (Q:=a0u 0 _) (λn env s=>∃i:Nat,i<=x.kids.length/\n=x.kids.length-i/\(∀j,j<i->(j<f->17<=(nd t (x.aE j)).kind/\(nd t (x.aE j)).kind<=22)/\(f<=j->(nd t (x.aE j)).kind=16))/\s.get 0=some (.cells [.int .i64 x.kind,x.dw,x.dn,x.dk,.int .i64 x.pos])/\(env.get 0=d/\env.get 2=.int .i64 (f:Int)/\env.get 3=.int .i64 (l:Int)/\env.get 4=.int .i64 (m:Int)/\env.get 6=.ptr 0 0/\env.get 11=.int .i64 (x.kids.length:Int)/\env.get 12=.int .i64 (i:Int))) ?_ x.kids.length _ _ ⟨0,oJ,rfl,λj h=>by omega,W8 rfl,by simp[k6.get,a0n.at];rfl⟩;rintro n env s ⟨i,hi,rfl,iR,hg,hE⟩;by_cases c3:i<x.kids.length
 .have jm:((i:Int)<(x.kids.length:Int))=True:=FR oJ
  have hs:=a5K c3 hx.kl;have kK:=hk _ (Fp c3);have h1:=b6z hT hx c3 kK.1 kK.2;unfold Nd.row at h1;have h2:=b1L (k:=(nd t (x.aE i)).kind) (a:=17) (b:=22);by_cases c4:i<f
  .have kD:((i:Int)<(f:Int))=True:=FR oJ
   have pC:((f:Int)<=(i:Int))=False:=FH oJ;cases hr:inR (nd t (x.aE i)).kind 17 22
   .rw[hr]at h2
    repeat first
    |(apply V2 h1 rfl;(focus(simp only[k6.aR,k6.ev,k6.get,Nat.reduceEqDiff,↓reduceIte,hE]));(focus exact Y6 hT.fz hz U2))
    |(apply V2 h2 rfl;(focus(simp only[k6.aR,k6.ev,k6.get,Nat.reduceEqDiff,↓reduceIte,hE]));(focus rfl))
    |refine zW (U0 hE hg o1 o2 o3 hlen jm (aN kD pC)) ?_
    exact⟨.inr trivial,_,rR,_,rfl,sJ⟩
   .rw[hr]at h2
    repeat first
    |(apply V2 h1 rfl;(focus(simp only[k6.aR,k6.ev,k6.get,Nat.reduceEqDiff,↓reduceIte,hE]));(focus exact Y6 hT.fz hz U2))
    |(apply V2 h2 rfl;(focus(simp only[k6.aR,k6.ev,k6.get,Nat.reduceEqDiff,↓reduceIte,hE]));(focus rfl))
    |refine zW (U0 hE hg o1 o2 o3 hlen jm (V4 kD pC hs)) ?_
    refine⟨x.kids.length-(i+1),oJ,i+1,oJ,rfl,λj h=>?_,hg,(rG hE)⟩;by_cases e:j=i
    .subst e;exact⟨λ_=>b3Z.1 hr,fJ⟩
    .exact iR j oJ
  .have kD:((i:Int)<(f:Int))=False:=FH oJ
   have pC:((f:Int)<=(i:Int))=True:=FR oJ;by_cases c6:(nd t (x.aE i)).kind=16
   .have Cy:((nd t (x.aE i)).kind != 16)=false:=by rw[c6];rfl
    repeat first
    |(apply V2 h1 rfl;(focus(simp only[k6.aR,k6.ev,k6.get,Nat.reduceEqDiff,↓reduceIte,hE]));(focus exact Y6 hT.fz hz U2))
    |(apply V2 h2 rfl;(focus(simp only[k6.aR,k6.ev,k6.get,Nat.reduceEqDiff,↓reduceIte,hE]));(focus rfl))
    |refine zW (U0 hE hg o1 o2 o3 hlen jm (V1 kD pC Cy hs)) ?_
    refine⟨x.kids.length-(i+1),oJ,i+1,oJ,rfl,λj h=>?_,hg,(rG hE)⟩;by_cases e:j=i
    .subst e;exact⟨fJ,λ_=>c6⟩
    .exact iR j oJ
   .have Cy:((nd t (x.aE i)).kind != 16)=true:=by rw[Hm];exact c6
    repeat first
    |(apply V2 h1 rfl;(focus(simp only[k6.aR,k6.ev,k6.get,Nat.reduceEqDiff,↓reduceIte,hE]));(focus exact Y6 hT.fz hz U2))
    |(apply V2 h2 rfl;(focus(simp only[k6.aR,k6.ev,k6.get,Nat.reduceEqDiff,↓reduceIte,hE]));(focus rfl))
    |refine zW (U0 hE hg o1 o2 o3 hlen jm (V4 kD pC Cy)) ?_
    exact⟨.inr trivial,_,rR,_,rfl,sJ⟩
 .have jm:((i:Int)<(x.kids.length:Int))=False:=FH oJ
  by_cases c7:f+l<=x.kids.length
  .have AL:(((f+l:Nat):Int)<=(x.kids.length:Int))=True:=FR oJ
   by_cases c8:x.kids.length<=f+m
   .have BY:((x.kids.length:Int)<=((f+m:Nat):Int))=True:=FR oJ
    try refine zW (U0 hE hg o1 o2 o3 hlen jm (V1 e1 e2 AL BY)) ?_
    exact⟨.inr trivial,_,rR,_,rfl,λ_=>⟨c7,c8,λj h=>iR j oJ⟩⟩
   .have BY:((x.kids.length:Int)<=((f+m:Nat):Int))=False:=FH oJ
    try refine zW (U0 hE hg o1 o2 o3 hlen jm (V1 e1 e2 AL BY)) ?_
    exact⟨.inr trivial,_,rR,_,rfl,sJ⟩
  .have AL:(((f+l:Nat):Int)<=(x.kids.length:Int))=False:=FH oJ
   try refine zW (U0 hE hg o1 o2 o3 hlen jm (V4 e1 e2 AL)) ?_
   exact⟨.inr trivial,_,rR,_,rfl,sJ⟩
theorem node_0{x:Nd}(hT:Z0 d t)(hx:x.Ok)(hk:a17 t x)(hK:x.kind=0):a0E 68 [d,.agg x.row] λb=>b=true->(x.words.length:Int)=0/\((x.aI.length:Int)=0/\∀n∈x.aI,0<=n/\n<=0)/\∀i,0<=i->i<x.kids.length->1<=(nd t (x.aE i)).kind/\(nd t (x.aE i)).kind<=5:=by
 refine a0N ?_;have o1:=FL.one hx.w;have o2:=FL.one hx.n;have o3:=FL.one hx.k;have hlen:=FI.len hx.k;have hz:=hx.fz;have iS:x.row=[.int .i64 0,x.dw,x.dn,x.dk,.int .i64 x.pos]:=by unfold Nd.row;rw[hK]
 obtain⟨b1,h1,p1⟩:=a2t hx (c:=0);obtain⟨b2,h2,p2⟩:=a2M hx (c:=0) (m:=0);obtain⟨b3,h3,p3⟩:=b4n hT hx hk (f:=0) (a:=1) (b:=5);rw[iS]at h1 h2 hz h3⊢;cases b1<;>cases b2
 all_goals
  refine W4 (vf:=a0g) rfl ?_;unfold a0g;refine zE ?_;repeat first
  |(apply V2 h1 rfl rfl (Y7 hz U2))
  |(apply V2 h2 rfl rfl (Y6 hz U2 U2))
  |(apply V2 h3 rfl rfl (gD hT.fz hz U2 U2 U2))
  |refine zW (V1 o1 o2 o3 hlen) ?_
  first
   |exact⟨.inr trivial,_,rR,_,rfl,λh=>⟨p1 rfl,p2 rfl,p3 h⟩⟩
   |exact⟨.inr trivial,_,rR,_,rfl,sJ⟩
theorem node_4{x:Nd}(hT:Z0 d t)(hx:x.Ok)(hk:a17 t x)(hK:x.kind=4):a0E 68 [d,.agg x.row] λb=>b=true->(x.words.length:Int)=0/\((x.aI.length:Int)=0/\∀n∈x.aI,0<=n/\n<=0)/\1<=x.kids.length/\x.kids.length<=1/\∀i,i<x.kids.length->(i<1->17<=(nd t (x.aE i)).kind/\(nd t (x.aE i)).kind<=22)/\(1<=i->(nd t (x.aE i)).kind=16):=by
 refine a0N ?_;have o1:=FL.one hx.w;have o2:=FL.one hx.n;have o3:=FL.one hx.k;have hlen:=FI.len hx.k;have hz:=hx.fz;have iS:x.row=[.int .i64 4,x.dw,x.dn,x.dk,.int .i64 x.pos]:=by unfold Nd.row;rw[hK]
 obtain⟨b1,h1,p1⟩:=a2t hx (c:=0);obtain⟨b2,h2,p2⟩:=a2M hx (c:=0) (m:=0);obtain⟨b3,h3,p3⟩:=a6r hT hx hk (f:=1) (l:=0) (m:=0) oJ oJ oJ;rw[iS]at h1 h2 hz h3⊢;cases b1<;>cases b2
 all_goals
  refine W4 (vf:=a0g) rfl ?_;unfold a0g;refine zE ?_;repeat first
  |(apply V2 h1 rfl rfl (Y7 hz U2))
  |(apply V2 h2 rfl rfl (Y6 hz U2 U2))
  |(apply V2 h3 rfl rfl (gD hT.fz hz U2 U2 U2))
  |refine zW (V1 o1 o2 o3 hlen) ?_
  first
   |exact⟨.inr trivial,_,rR,_,rfl,λh=>⟨p1 rfl,p2 rfl,p3 h⟩⟩
   |exact⟨.inr trivial,_,rR,_,rfl,sJ⟩
theorem node_5{x:Nd}(hT:Z0 d t)(hx:x.Ok)(hk:a17 t x)(hK:x.kind=5):a0E 68 [d,.agg x.row] λb=>b=true->(x.words.length:Int)=0/\((x.aI.length:Int)=0/\∀n∈x.aI,0<=n/\n<=0)/\x.kids=[]:=by
 refine a0N ?_;have o1:=FL.one hx.w;have o2:=FL.one hx.n;have o3:=FL.one hx.k;have hlen:=FI.len hx.k;have hz:=hx.fz;have iS:x.row=[.int .i64 5,x.dw,x.dn,x.dk,.int .i64 x.pos]:=by unfold Nd.row;rw[hK]
 obtain⟨b1,h1,p1⟩:=a2t hx (c:=0);obtain⟨b2,h2,p2⟩:=a2M hx (c:=0) (m:=0);rw[iS]at h1 h2 hz⊢;have mf:((x.kids.length:Int)==0)=decide (x.kids=[]):=by
  rw[FV,HK,Fy,<- Ge];omega
 cases b1<;>cases b2
 all_goals
  refine W4 (vf:=a0g) rfl ?_;unfold a0g;refine zE ?_;repeat first
  |(apply V2 h1 rfl rfl (Y7 hz U2))
  |(apply V2 h2 rfl rfl (Y6 hz U2 U2))
  |refine zW (W0 o1 o2 o3 hlen mf) ?_
  first
   |exact⟨.inr trivial,_,rR,_,rfl,λh=>⟨p1 rfl,p2 rfl,Gp h⟩⟩
   |exact⟨.inr trivial,_,rR,_,rfl,sJ⟩
theorem node_6{x:Nd}(hT:Z0 d t)(hx:x.Ok)(hk:a17 t x)(hK:x.kind=6):a0E 68 [d,.agg x.row] λb=>b=true->(x.words.length:Int)=1/\((x.aI.length:Int)=0/\∀n∈x.aI,0<=n/\n<=0)/\1<=x.kids.length/\x.kids.length<=1/\∀i,i<x.kids.length->(i<1->17<=(nd t (x.aE i)).kind/\(nd t (x.aE i)).kind<=22)/\(1<=i->(nd t (x.aE i)).kind=16):=by
 refine a0N ?_;have o1:=FL.one hx.w;have o2:=FL.one hx.n;have o3:=FL.one hx.k;have hlen:=FI.len hx.k;have hz:=hx.fz;have iS:x.row=[.int .i64 6,x.dw,x.dn,x.dk,.int .i64 x.pos]:=by unfold Nd.row;rw[hK]
 obtain⟨b1,h1,p1⟩:=a2t hx (c:=1);obtain⟨b2,h2,p2⟩:=a2M hx (c:=0) (m:=0);obtain⟨b3,h3,p3⟩:=a6r hT hx hk (f:=1) (l:=0) (m:=0) oJ oJ oJ;rw[iS]at h1 h2 hz h3⊢;cases b1<;>cases b2
 all_goals
  refine W4 (vf:=a0g) rfl ?_;unfold a0g;refine zE ?_;repeat first
  |(apply V2 h1 rfl rfl (Y7 hz U2))
  |(apply V2 h2 rfl rfl (Y6 hz U2 U2))
  |(apply V2 h3 rfl rfl (gD hT.fz hz U2 U2 U2))
  |refine zW (V1 o1 o2 o3 hlen) ?_
  first
   |exact⟨.inr trivial,_,rR,_,rfl,λh=>⟨p1 rfl,p2 rfl,p3 h⟩⟩
   |exact⟨.inr trivial,_,rR,_,rfl,sJ⟩
theorem node_7{x:Nd}(hT:Z0 d t)(hx:x.Ok)(hk:a17 t x)(hK:x.kind=7):a0E 68 [d,.agg x.row] λb=>b=true->(x.words.length:Int)=1/\((x.aI.length:Int)=0/\∀n∈x.aI,0<=n/\n<=0)/\1<=x.kids.length/\x.kids.length<=1/\∀i,i<x.kids.length->(i<1->17<=(nd t (x.aE i)).kind/\(nd t (x.aE i)).kind<=22)/\(1<=i->(nd t (x.aE i)).kind=16):=by
 refine a0N ?_;have o1:=FL.one hx.w;have o2:=FL.one hx.n;have o3:=FL.one hx.k;have hlen:=FI.len hx.k;have hz:=hx.fz;have iS:x.row=[.int .i64 7,x.dw,x.dn,x.dk,.int .i64 x.pos]:=by unfold Nd.row;rw[hK]
 obtain⟨b1,h1,p1⟩:=a2t hx (c:=1);obtain⟨b2,h2,p2⟩:=a2M hx (c:=0) (m:=0);obtain⟨b3,h3,p3⟩:=a6r hT hx hk (f:=1) (l:=0) (m:=0) oJ oJ oJ;rw[iS]at h1 h2 hz h3⊢;cases b1<;>cases b2
 all_goals
  refine W4 (vf:=a0g) rfl ?_;unfold a0g;refine zE ?_;repeat first
  |(apply V2 h1 rfl rfl (Y7 hz U2))
  |(apply V2 h2 rfl rfl (Y6 hz U2 U2))
  |(apply V2 h3 rfl rfl (gD hT.fz hz U2 U2 U2))
  |refine zW (V1 o1 o2 o3 hlen) ?_
  first
   |exact⟨.inr trivial,_,rR,_,rfl,λh=>⟨p1 rfl,p2 rfl,p3 h⟩⟩
   |exact⟨.inr trivial,_,rR,_,rfl,sJ⟩
theorem node_8{x:Nd}(hT:Z0 d t)(hx:x.Ok)(hk:a17 t x)(hK:x.kind=8):a0E 68 [d,.agg x.row] λb=>b=true->(x.words.length:Int)=2/\((x.aI.length:Int)=1/\∀n∈x.aI,0<=n/\n<=1)/\x.kids=[]:=by
 refine a0N ?_;have o1:=FL.one hx.w;have o2:=FL.one hx.n;have o3:=FL.one hx.k;have hlen:=FI.len hx.k;have hz:=hx.fz;have iS:x.row=[.int .i64 8,x.dw,x.dn,x.dk,.int .i64 x.pos]:=by unfold Nd.row;rw[hK]
 obtain⟨b1,h1,p1⟩:=a2t hx (c:=2);obtain⟨b2,h2,p2⟩:=a2M hx (c:=1) (m:=1);rw[iS]at h1 h2 hz⊢;have mf:((x.kids.length:Int)==0)=decide (x.kids=[]):=by
  rw[FV,HK,Fy,<- Ge];omega
 cases b1<;>cases b2
 all_goals
  refine W4 (vf:=a0g) rfl ?_;unfold a0g;refine zE ?_;repeat first
  |(apply V2 h1 rfl rfl (Y7 hz U2))
  |(apply V2 h2 rfl rfl (Y6 hz U2 U2))
  |refine zW (W0 o1 o2 o3 hlen mf) ?_
  first
   |exact⟨.inr trivial,_,rR,_,rfl,λh=>⟨p1 rfl,p2 rfl,Gp h⟩⟩
   |exact⟨.inr trivial,_,rR,_,rfl,sJ⟩
theorem node_9{x:Nd}(hT:Z0 d t)(hx:x.Ok)(hk:a17 t x)(hK:x.kind=9):a0E 68 [d,.agg x.row] λb=>b=true->(x.words.length:Int)=0/\((x.aI.length:Int)=1/\∀n∈x.aI,0<=n/\n<=1)/\1<=x.kids.length/\x.kids.length<=1/\∀i,i<x.kids.length->(i<1->17<=(nd t (x.aE i)).kind/\(nd t (x.aE i)).kind<=22)/\(1<=i->(nd t (x.aE i)).kind=16):=by
 refine a0N ?_;have o1:=FL.one hx.w;have o2:=FL.one hx.n;have o3:=FL.one hx.k;have hlen:=FI.len hx.k;have hz:=hx.fz;have iS:x.row=[.int .i64 9,x.dw,x.dn,x.dk,.int .i64 x.pos]:=by unfold Nd.row;rw[hK]
 obtain⟨b1,h1,p1⟩:=a2t hx (c:=0);obtain⟨b2,h2,p2⟩:=a2M hx (c:=1) (m:=1);obtain⟨b3,h3,p3⟩:=a6r hT hx hk (f:=1) (l:=0) (m:=0) oJ oJ oJ;rw[iS]at h1 h2 hz h3⊢;cases b1<;>cases b2
 all_goals
  refine W4 (vf:=a0g) rfl ?_;unfold a0g;refine zE ?_;repeat first
  |(apply V2 h1 rfl rfl (Y7 hz U2))
  |(apply V2 h2 rfl rfl (Y6 hz U2 U2))
  |(apply V2 h3 rfl rfl (gD hT.fz hz U2 U2 U2))
  |refine zW (V1 o1 o2 o3 hlen) ?_
  first
   |exact⟨.inr trivial,_,rR,_,rfl,λh=>⟨p1 rfl,p2 rfl,p3 h⟩⟩
   |exact⟨.inr trivial,_,rR,_,rfl,sJ⟩
theorem c4e{x:Nd}(hT:Z0 d t)(hx:x.Ok)(hk:a17 t x)(hK:x.kind=10):a0E 68 [d,.agg x.row] λb=>b=true->(x.words.length:Int)=0/\((x.aI.length:Int)=1/\∀n∈x.aI,0<=n/\n<=1)/\1<=x.kids.length/\x.kids.length<=800/\∀i,i<x.kids.length->(i<0->17<=(nd t (x.aE i)).kind/\(nd t (x.aE i)).kind<=22)/\(0<=i->(nd t (x.aE i)).kind=16):=by
 refine a0N ?_;have o1:=FL.one hx.w;have o2:=FL.one hx.n;have o3:=FL.one hx.k;have hlen:=FI.len hx.k;have hz:=hx.fz;have iS:x.row=[.int .i64 10,x.dw,x.dn,x.dk,.int .i64 x.pos]:=by unfold Nd.row;rw[hK]
 obtain⟨b1,h1,p1⟩:=a2t hx (c:=0);obtain⟨b2,h2,p2⟩:=a2M hx (c:=1) (m:=1);obtain⟨b3,h3,p3⟩:=a6r hT hx hk (f:=0) (l:=1) (m:=800) oJ oJ oJ;rw[iS]at h1 h2 hz h3⊢;cases b1<;>cases b2
 all_goals
  refine W4 (vf:=a0g) rfl ?_;unfold a0g;refine zE ?_;repeat first
  |(apply V2 h1 rfl rfl (Y7 hz U2))
  |(apply V2 h2 rfl rfl (Y6 hz U2 U2))
  |(apply V2 h3 rfl rfl (gD hT.fz hz U2 U2 U2))
  |refine zW (V1 o1 o2 o3 hlen) ?_
  first
   |exact⟨.inr trivial,_,rR,_,rfl,λh=>⟨p1 rfl,p2 rfl,p3 h⟩⟩
   |exact⟨.inr trivial,_,rR,_,rfl,sJ⟩
theorem c6P{x:Nd}(hT:Z0 d t)(hx:x.Ok)(hk:a17 t x)(hK:x.kind=11):a0E 68 [d,.agg x.row] λb=>b=true->(x.words.length:Int)=0/\((x.aI.length:Int)=0/\∀n∈x.aI,0<=n/\n<=0)/\2<=x.kids.length/\x.kids.length<=3/\∀i,i<x.kids.length->(i<1->17<=(nd t (x.aE i)).kind/\(nd t (x.aE i)).kind<=22)/\(1<=i->(nd t (x.aE i)).kind=16):=by
 refine a0N ?_;have o1:=FL.one hx.w;have o2:=FL.one hx.n;have o3:=FL.one hx.k;have hlen:=FI.len hx.k;have hz:=hx.fz;have iS:x.row=[.int .i64 11,x.dw,x.dn,x.dk,.int .i64 x.pos]:=by unfold Nd.row;rw[hK]
 obtain⟨b1,h1,p1⟩:=a2t hx (c:=0);obtain⟨b2,h2,p2⟩:=a2M hx (c:=0) (m:=0);obtain⟨b3,h3,p3⟩:=a6r hT hx hk (f:=1) (l:=1) (m:=2) oJ oJ oJ;rw[iS]at h1 h2 hz h3⊢;cases b1<;>cases b2
 all_goals
  refine W4 (vf:=a0g) rfl ?_;unfold a0g;refine zE ?_;repeat first
  |(apply V2 h1 rfl rfl (Y7 hz U2))
  |(apply V2 h2 rfl rfl (Y6 hz U2 U2))
  |(apply V2 h3 rfl rfl (gD hT.fz hz U2 U2 U2))
  |refine zW (V1 o1 o2 o3 hlen) ?_
  first
   |exact⟨.inr trivial,_,rR,_,rfl,λh=>⟨p1 rfl,p2 rfl,p3 h⟩⟩
   |exact⟨.inr trivial,_,rR,_,rfl,sJ⟩
theorem c2L{x:Nd}(hT:Z0 d t)(hx:x.Ok)(hk:a17 t x)(hK:x.kind=12):a0E 68 [d,.agg x.row] λb=>b=true->(x.words.length:Int)=0/\((x.aI.length:Int)=0/\∀n∈x.aI,0<=n/\n<=0)/\2<=x.kids.length/\x.kids.length<=2/\∀i,i<x.kids.length->(i<1->17<=(nd t (x.aE i)).kind/\(nd t (x.aE i)).kind<=22)/\(1<=i->(nd t (x.aE i)).kind=16):=by
 refine a0N ?_;have o1:=FL.one hx.w;have o2:=FL.one hx.n;have o3:=FL.one hx.k;have hlen:=FI.len hx.k;have hz:=hx.fz;have iS:x.row=[.int .i64 12,x.dw,x.dn,x.dk,.int .i64 x.pos]:=by unfold Nd.row;rw[hK]
 obtain⟨b1,h1,p1⟩:=a2t hx (c:=0);obtain⟨b2,h2,p2⟩:=a2M hx (c:=0) (m:=0);obtain⟨b3,h3,p3⟩:=a6r hT hx hk (f:=1) (l:=1) (m:=1) oJ oJ oJ;rw[iS]at h1 h2 hz h3⊢;cases b1<;>cases b2
 all_goals
  refine W4 (vf:=a0g) rfl ?_;unfold a0g;refine zE ?_;repeat first
  |(apply V2 h1 rfl rfl (Y7 hz U2))
  |(apply V2 h2 rfl rfl (Y6 hz U2 U2))
  |(apply V2 h3 rfl rfl (gD hT.fz hz U2 U2 U2))
  |refine zW (V1 o1 o2 o3 hlen) ?_
  first
   |exact⟨.inr trivial,_,rR,_,rfl,λh=>⟨p1 rfl,p2 rfl,p3 h⟩⟩
   |exact⟨.inr trivial,_,rR,_,rfl,sJ⟩
theorem c6e{x:Nd}(hT:Z0 d t)(hx:x.Ok)(hk:a17 t x)(hK:x.kind=13):a0E 68 [d,.agg x.row] λb=>b=true->(x.words.length:Int)=0/\((x.aI.length:Int)=0/\∀n∈x.aI,0<=n/\n<=0)/\1<=x.kids.length/\x.kids.length<=1/\∀i,i<x.kids.length->(i<0->17<=(nd t (x.aE i)).kind/\(nd t (x.aE i)).kind<=22)/\(0<=i->(nd t (x.aE i)).kind=16):=by
 refine a0N ?_;have o1:=FL.one hx.w;have o2:=FL.one hx.n;have o3:=FL.one hx.k;have hlen:=FI.len hx.k;have hz:=hx.fz;have iS:x.row=[.int .i64 13,x.dw,x.dn,x.dk,.int .i64 x.pos]:=by unfold Nd.row;rw[hK]
 obtain⟨b1,h1,p1⟩:=a2t hx (c:=0);obtain⟨b2,h2,p2⟩:=a2M hx (c:=0) (m:=0);obtain⟨b3,h3,p3⟩:=a6r hT hx hk (f:=0) (l:=1) (m:=1) oJ oJ oJ;rw[iS]at h1 h2 hz h3⊢;cases b1<;>cases b2
 all_goals
  refine W4 (vf:=a0g) rfl ?_;unfold a0g;refine zE ?_;repeat first
  |(apply V2 h1 rfl rfl (Y7 hz U2))
  |(apply V2 h2 rfl rfl (Y6 hz U2 U2))
  |(apply V2 h3 rfl rfl (gD hT.fz hz U2 U2 U2))
  |refine zW (V1 o1 o2 o3 hlen) ?_
  first
   |exact⟨.inr trivial,_,rR,_,rfl,λh=>⟨p1 rfl,p2 rfl,p3 h⟩⟩
   |exact⟨.inr trivial,_,rR,_,rfl,sJ⟩
theorem c5s{x:Nd}(hT:Z0 d t)(hx:x.Ok)(hk:a17 t x)(hK:x.kind=14):a0E 68 [d,.agg x.row] λb=>b=true->(x.words.length:Int)=0/\((x.aI.length:Int)=0/\∀n∈x.aI,0<=n/\n<=0)/\x.kids=[]:=by
 refine a0N ?_;have o1:=FL.one hx.w;have o2:=FL.one hx.n;have o3:=FL.one hx.k;have hlen:=FI.len hx.k;have hz:=hx.fz;have iS:x.row=[.int .i64 14,x.dw,x.dn,x.dk,.int .i64 x.pos]:=by unfold Nd.row;rw[hK]
 obtain⟨b1,h1,p1⟩:=a2t hx (c:=0);obtain⟨b2,h2,p2⟩:=a2M hx (c:=0) (m:=0);rw[iS]at h1 h2 hz⊢;have mf:((x.kids.length:Int)==0)=decide (x.kids=[]):=by
  rw[FV,HK,Fy,<- Ge];omega
 cases b1<;>cases b2
 all_goals
  refine W4 (vf:=a0g) rfl ?_;unfold a0g;refine zE ?_;repeat first
  |(apply V2 h1 rfl rfl (Y7 hz U2))
  |(apply V2 h2 rfl rfl (Y6 hz U2 U2))
  |refine zW (W0 o1 o2 o3 hlen mf) ?_
  first
   |exact⟨.inr trivial,_,rR,_,rfl,λh=>⟨p1 rfl,p2 rfl,Gp h⟩⟩
   |exact⟨.inr trivial,_,rR,_,rfl,sJ⟩
theorem c4d{x:Nd}(hT:Z0 d t)(hx:x.Ok)(hk:a17 t x)(hK:x.kind=15):a0E 68 [d,.agg x.row] λb=>b=true->(x.words.length:Int)=0/\((x.aI.length:Int)=0/\∀n∈x.aI,0<=n/\n<=0)/\x.kids=[]:=by
 refine a0N ?_;have o1:=FL.one hx.w;have o2:=FL.one hx.n;have o3:=FL.one hx.k;have hlen:=FI.len hx.k;have hz:=hx.fz;have iS:x.row=[.int .i64 15,x.dw,x.dn,x.dk,.int .i64 x.pos]:=by unfold Nd.row;rw[hK]
 obtain⟨b1,h1,p1⟩:=a2t hx (c:=0);obtain⟨b2,h2,p2⟩:=a2M hx (c:=0) (m:=0);rw[iS]at h1 h2 hz⊢;have mf:((x.kids.length:Int)==0)=decide (x.kids=[]):=by
  rw[FV,HK,Fy,<- Ge];omega
 cases b1<;>cases b2
 all_goals
  refine W4 (vf:=a0g) rfl ?_;unfold a0g;refine zE ?_;repeat first
  |(apply V2 h1 rfl rfl (Y7 hz U2))
  |(apply V2 h2 rfl rfl (Y6 hz U2 U2))
  |refine zW (W0 o1 o2 o3 hlen mf) ?_
  first
   |exact⟨.inr trivial,_,rR,_,rfl,λh=>⟨p1 rfl,p2 rfl,Gp h⟩⟩
   |exact⟨.inr trivial,_,rR,_,rfl,sJ⟩
theorem c4h{x:Nd}(hT:Z0 d t)(hx:x.Ok)(hk:a17 t x)(hK:x.kind=16):a0E 68 [d,.agg x.row] λb=>b=true->(x.words.length:Int)=0/\((x.aI.length:Int)=0/\∀n∈x.aI,0<=n/\n<=0)/\∀i,0<=i->i<x.kids.length->6<=(nd t (x.aE i)).kind/\(nd t (x.aE i)).kind<=15:=by
 refine a0N ?_;have o1:=FL.one hx.w;have o2:=FL.one hx.n;have o3:=FL.one hx.k;have hlen:=FI.len hx.k;have hz:=hx.fz;have iS:x.row=[.int .i64 16,x.dw,x.dn,x.dk,.int .i64 x.pos]:=by unfold Nd.row;rw[hK]
 obtain⟨b1,h1,p1⟩:=a2t hx (c:=0);obtain⟨b2,h2,p2⟩:=a2M hx (c:=0) (m:=0);obtain⟨b3,h3,p3⟩:=b4n hT hx hk (f:=0) (a:=6) (b:=15);rw[iS]at h1 h2 hz h3⊢;cases b1<;>cases b2
 all_goals
  refine W4 (vf:=a0g) rfl ?_;unfold a0g;refine zE ?_;repeat first
  |(apply V2 h1 rfl rfl (Y7 hz U2))
  |(apply V2 h2 rfl rfl (Y6 hz U2 U2))
  |(apply V2 h3 rfl rfl (gD hT.fz hz U2 U2 U2))
  |refine zW (V1 o1 o2 o3 hlen) ?_
  first
   |exact⟨.inr trivial,_,rR,_,rfl,λh=>⟨p1 rfl,p2 rfl,p3 h⟩⟩
   |exact⟨.inr trivial,_,rR,_,rfl,sJ⟩
theorem c6Q{x:Nd}(hT:Z0 d t)(hx:x.Ok)(hk:a17 t x)(hK:x.kind=17):a0E 68 [d,.agg x.row] λb=>b=true->(x.words.length:Int)=0/\((x.aI.length:Int)=1/\∀n∈x.aI,0<=n/\n<=999999)/\x.kids=[]:=by
 refine a0N ?_;have o1:=FL.one hx.w;have o2:=FL.one hx.n;have o3:=FL.one hx.k;have hlen:=FI.len hx.k;have hz:=hx.fz;have iS:x.row=[.int .i64 17,x.dw,x.dn,x.dk,.int .i64 x.pos]:=by unfold Nd.row;rw[hK]
 obtain⟨b1,h1,p1⟩:=a2t hx (c:=0);obtain⟨b2,h2,p2⟩:=a2M hx (c:=1) (m:=999999);rw[iS]at h1 h2 hz⊢;have mf:((x.kids.length:Int)==0)=decide (x.kids=[]):=by
  rw[FV,HK,Fy,<- Ge];omega
 cases b1<;>cases b2
 all_goals
  refine W4 (vf:=a0g) rfl ?_;unfold a0g;refine zE ?_;repeat first
  |(apply V2 h1 rfl rfl (Y7 hz U2))
  |(apply V2 h2 rfl rfl (Y6 hz U2 U2))
  |refine zW (W0 o1 o2 o3 hlen mf) ?_
  first
   |exact⟨.inr trivial,_,rR,_,rfl,λh=>⟨p1 rfl,p2 rfl,Gp h⟩⟩
   |exact⟨.inr trivial,_,rR,_,rfl,sJ⟩
theorem c7f{x:Nd}(hT:Z0 d t)(hx:x.Ok)(hk:a17 t x)(hK:x.kind=18):a0E 68 [d,.agg x.row] λb=>b=true->(x.words.length:Int)=1/\((x.aI.length:Int)=0/\∀n∈x.aI,0<=n/\n<=0)/\x.kids=[]:=by
 refine a0N ?_;have o1:=FL.one hx.w;have o2:=FL.one hx.n;have o3:=FL.one hx.k;have hlen:=FI.len hx.k;have hz:=hx.fz;have iS:x.row=[.int .i64 18,x.dw,x.dn,x.dk,.int .i64 x.pos]:=by unfold Nd.row;rw[hK]
 obtain⟨b1,h1,p1⟩:=a2t hx (c:=1);obtain⟨b2,h2,p2⟩:=a2M hx (c:=0) (m:=0);rw[iS]at h1 h2 hz⊢;have mf:((x.kids.length:Int)==0)=decide (x.kids=[]):=by
  rw[FV,HK,Fy,<- Ge];omega
 cases b1<;>cases b2
 all_goals
  refine W4 (vf:=a0g) rfl ?_;unfold a0g;refine zE ?_;repeat first
  |(apply V2 h1 rfl rfl (Y7 hz U2))
  |(apply V2 h2 rfl rfl (Y6 hz U2 U2))
  |refine zW (W0 o1 o2 o3 hlen mf) ?_
  first
   |exact⟨.inr trivial,_,rR,_,rfl,λh=>⟨p1 rfl,p2 rfl,Gp h⟩⟩
   |exact⟨.inr trivial,_,rR,_,rfl,sJ⟩
theorem c4x{x:Nd}(hT:Z0 d t)(hx:x.Ok)(hk:a17 t x)(hK:x.kind=19):a0E 68 [d,.agg x.row] λb=>b=true->(x.words.length:Int)=1/\((x.aI.length:Int)=0/\∀n∈x.aI,0<=n/\n<=0)/\x.kids=[]:=by
 refine a0N ?_;have o1:=FL.one hx.w;have o2:=FL.one hx.n;have o3:=FL.one hx.k;have hlen:=FI.len hx.k;have hz:=hx.fz;have iS:x.row=[.int .i64 19,x.dw,x.dn,x.dk,.int .i64 x.pos]:=by unfold Nd.row;rw[hK]
 obtain⟨b1,h1,p1⟩:=a2t hx (c:=1);obtain⟨b2,h2,p2⟩:=a2M hx (c:=0) (m:=0);rw[iS]at h1 h2 hz⊢;have mf:((x.kids.length:Int)==0)=decide (x.kids=[]):=by
  rw[FV,HK,Fy,<- Ge];omega
 cases b1<;>cases b2
 all_goals
  refine W4 (vf:=a0g) rfl ?_;unfold a0g;refine zE ?_;repeat first
  |(apply V2 h1 rfl rfl (Y7 hz U2))
  |(apply V2 h2 rfl rfl (Y6 hz U2 U2))
  |refine zW (W0 o1 o2 o3 hlen mf) ?_
  first
   |exact⟨.inr trivial,_,rR,_,rfl,λh=>⟨p1 rfl,p2 rfl,Gp h⟩⟩
   |exact⟨.inr trivial,_,rR,_,rfl,sJ⟩
theorem c9b{x:Nd}(hT:Z0 d t)(hx:x.Ok)(hk:a17 t x)(hK:x.kind=20):a0E 68 [d,.agg x.row] λb=>b=true->(x.words.length:Int)=0/\((x.aI.length:Int)=0/\∀n∈x.aI,0<=n/\n<=0)/\1<=x.kids.length/\x.kids.length<=1/\∀i,i<x.kids.length->(i<1->17<=(nd t (x.aE i)).kind/\(nd t (x.aE i)).kind<=22)/\(1<=i->(nd t (x.aE i)).kind=16):=by
 refine a0N ?_;have o1:=FL.one hx.w;have o2:=FL.one hx.n;have o3:=FL.one hx.k;have hlen:=FI.len hx.k;have hz:=hx.fz;have iS:x.row=[.int .i64 20,x.dw,x.dn,x.dk,.int .i64 x.pos]:=by unfold Nd.row;rw[hK]
 obtain⟨b1,h1,p1⟩:=a2t hx (c:=0);obtain⟨b2,h2,p2⟩:=a2M hx (c:=0) (m:=0);obtain⟨b3,h3,p3⟩:=a6r hT hx hk (f:=1) (l:=0) (m:=0) oJ oJ oJ;rw[iS]at h1 h2 hz h3⊢;cases b1<;>cases b2
 all_goals
  refine W4 (vf:=a0g) rfl ?_;unfold a0g;refine zE ?_;repeat first
  |(apply V2 h1 rfl rfl (Y7 hz U2))
  |(apply V2 h2 rfl rfl (Y6 hz U2 U2))
  |(apply V2 h3 rfl rfl (gD hT.fz hz U2 U2 U2))
  |refine zW (V1 o1 o2 o3 hlen) ?_
  first
   |exact⟨.inr trivial,_,rR,_,rfl,λh=>⟨p1 rfl,p2 rfl,p3 h⟩⟩
   |exact⟨.inr trivial,_,rR,_,rfl,sJ⟩
theorem c2t{x:Nd}(hT:Z0 d t)(hx:x.Ok)(hk:a17 t x)(hK:x.kind=21):a0E 68 [d,.agg x.row] λb=>b=true->(x.words.length:Int)=0/\((x.aI.length:Int)=0/\∀n∈x.aI,0<=n/\n<=0)/\1<=x.kids.length/\x.kids.length<=1/\∀i,i<x.kids.length->(i<1->17<=(nd t (x.aE i)).kind/\(nd t (x.aE i)).kind<=22)/\(1<=i->(nd t (x.aE i)).kind=16):=by
 refine a0N ?_;have o1:=FL.one hx.w;have o2:=FL.one hx.n;have o3:=FL.one hx.k;have hlen:=FI.len hx.k;have hz:=hx.fz;have iS:x.row=[.int .i64 21,x.dw,x.dn,x.dk,.int .i64 x.pos]:=by unfold Nd.row;rw[hK]
 obtain⟨b1,h1,p1⟩:=a2t hx (c:=0);obtain⟨b2,h2,p2⟩:=a2M hx (c:=0) (m:=0);obtain⟨b3,h3,p3⟩:=a6r hT hx hk (f:=1) (l:=0) (m:=0) oJ oJ oJ;rw[iS]at h1 h2 hz h3⊢;cases b1<;>cases b2
 all_goals
  refine W4 (vf:=a0g) rfl ?_;unfold a0g;refine zE ?_;repeat first
  |(apply V2 h1 rfl rfl (Y7 hz U2))
  |(apply V2 h2 rfl rfl (Y6 hz U2 U2))
  |(apply V2 h3 rfl rfl (gD hT.fz hz U2 U2 U2))
  |refine zW (V1 o1 o2 o3 hlen) ?_
  first
   |exact⟨.inr trivial,_,rR,_,rfl,λh=>⟨p1 rfl,p2 rfl,p3 h⟩⟩
   |exact⟨.inr trivial,_,rR,_,rfl,sJ⟩
theorem c77{x:Nd}(hT:Z0 d t)(hx:x.Ok)(hk:a17 t x)(hK:x.kind=22):a0E 68 [d,.agg x.row] λb=>b=true->(x.words.length:Int)=0/\((x.aI.length:Int)=1/\∀n∈x.aI,0<=n/\n<=8)/\2<=x.kids.length/\x.kids.length<=2/\∀i,i<x.kids.length->(i<2->17<=(nd t (x.aE i)).kind/\(nd t (x.aE i)).kind<=22)/\(2<=i->(nd t (x.aE i)).kind=16):=by
 refine a0N ?_;have o1:=FL.one hx.w;have o2:=FL.one hx.n;have o3:=FL.one hx.k;have hlen:=FI.len hx.k;have hz:=hx.fz;have iS:x.row=[.int .i64 22,x.dw,x.dn,x.dk,.int .i64 x.pos]:=by unfold Nd.row;rw[hK]
 obtain⟨b1,h1,p1⟩:=a2t hx (c:=0);obtain⟨b2,h2,p2⟩:=a2M hx (c:=1) (m:=8);obtain⟨b3,h3,p3⟩:=a6r hT hx hk (f:=2) (l:=0) (m:=0) oJ oJ oJ;rw[iS]at h1 h2 hz h3⊢;cases b1<;>cases b2
 all_goals
  refine W4 (vf:=a0g) rfl ?_;unfold a0g;refine zE ?_;repeat first
  |(apply V2 h1 rfl rfl (Y7 hz U2))
  |(apply V2 h2 rfl rfl (Y6 hz U2 U2))
  |(apply V2 h3 rfl rfl (gD hT.fz hz U2 U2 U2))
  |refine zW (V1 o1 o2 o3 hlen) ?_
  first
   |exact⟨.inr trivial,_,rR,_,rfl,λh=>⟨p1 rfl,p2 rfl,p3 h⟩⟩
   |exact⟨.inr trivial,_,rR,_,rfl,sJ⟩
theorem c0A:((x.kids.length:Int)==0)=decide (x.kids=[]):=by
 rw[FV,HK,Fy,<- Ge];omega
theorem node_1{x:Nd}(hT:Z0 d t)(hx:x.Ok)(hk:a17 t x)(hK:x.kind=1):a0E 68 [d,.agg x.row] λb=>b=true->(x.words.length:Int)=1/\((x.aI.length:Int)=4/\∀n∈x.aI,0<=n/\n<=999999)/\x.num 2<=1/\x.num 3<=1/\x.kids=[]:=by
 refine a0N ?_;have o1:=FL.one hx.w;have o2:=FL.one hx.n;have o3:=FL.one hx.k;have hlen:=FI.len hx.k;have hz:=hx.fz;have iS:x.row=[.int .i64 1,x.dw,x.dn,x.dk,.int .i64 x.pos]:=by unfold Nd.row;rw[hK]
 have mf:=c0A (x:=x);obtain⟨b1,h1,p1⟩:=a2t hx (c:=1);obtain⟨b2,h2,p2⟩:=a2M hx (c:=4) (m:=999999);rw[iS]at h1 h2 hz⊢;cases b1
 .refine W4 (vf:=a0g) rfl ?_
  unfold a0g;refine zE ?_;repeat first
  |(apply V2 h1 rfl rfl (Y7 hz U2))
  |(apply V2 h2 rfl rfl (Y6 hz U2 U2))
  |refine zW (V1 o1 o2 o3 hlen) ?_
  exact⟨.inr trivial,_,rR,_,rfl,sJ⟩
 cases b2
 .refine W4 (vf:=a0g) rfl ?_
  unfold a0g;refine zE ?_;repeat first
  |(apply V2 h1 rfl rfl (Y7 hz U2))
  |(apply V2 h2 rfl rfl (Y6 hz U2 U2))
  |refine zW (V1 o1 o2 o3 hlen) ?_
  exact⟨.inr trivial,_,rR,_,rfl,sJ⟩
 have q2:=p2 rfl;have l4:x.aI.length=4:=oJ;have i2:W7 1 x.dn (.int .i64 2)=some (.fp [.int .i64 (x.num 2)] 0):=by rw[a8h oJ];exact FI.idx hx.n (i:=2) oJ
 have i3:W7 1 x.dn (.int .i64 3)=some (.fp [.int .i64 (x.num 3)] 0):=by rw[a8h oJ];exact FI.idx hx.n (i:=3) oJ
 by_cases c2:x.num 2<=1
 .by_cases c3:x.num 3<=1
  .refine W4 (vf:=a0g) rfl ?_
   unfold a0g;refine zE ?_;repeat first
   |(apply V2 h1 rfl rfl (Y7 hz U2))
   |(apply V2 h2 rfl rfl (Y6 hz U2 U2))
   |refine zW (U0 o1 o2 o3 hlen i2 i3 c2 (aN c3 mf)) ?_
   exact⟨.inr trivial,_,rR,_,rfl,λh=>⟨p1 rfl,q2,c2,c3,sU h⟩⟩
  .refine W4 (vf:=a0g) rfl ?_
   unfold a0g;refine zE ?_;repeat first
   |(apply V2 h1 rfl rfl (Y7 hz U2))
   |(apply V2 h2 rfl rfl (Y6 hz U2 U2))
   |refine zW (U0 o1 o2 o3 hlen i2 i3 c2 (aN c3 mf)) ?_
   exact⟨.inr trivial,_,rR,_,rfl,sJ⟩
 .refine W4 (vf:=a0g) rfl ?_
  unfold a0g;refine zE ?_;repeat first
  |(apply V2 h1 rfl rfl (Y7 hz U2))
  |(apply V2 h2 rfl rfl (Y6 hz U2 U2))
  |refine zW (U0 o1 o2 o3 hlen i2 i3 c2 mf) ?_
  exact⟨.inr trivial,_,rR,_,rfl,sJ⟩
theorem node_2(hT:Z0 d t)(hx:x.Ok)(hk:a17 t x)(hK:x.kind=2):a0E 68 [d,.agg x.row] λb=>b=true->(x.words.length:Int)=1/\x.aI.length=2/\-999999<=x.num 1/\x.num 1<=999999/\x.kids=[]:=by
 refine a0N ?_;have o1:=FL.one hx.w;have o2:=FL.one hx.n;have o3:=FL.one hx.k;have hlen:=FI.len hx.k;have qD:=FI.len hx.n;have hz:=hx.fz;have iS:x.row=[.int .i64 2,x.dw,x.dn,x.dk,.int .i64 x.pos]:=by unfold Nd.row;rw[hK]
 have mf:=c0A (x:=x);obtain⟨b1,h1,p1⟩:=a2t hx (c:=1);rw[iS]at h1 hz⊢;cases b1
 .refine W4 (vf:=a0g) rfl ?_
  unfold a0g;refine zE ?_;repeat first
  |(apply V2 h1 rfl rfl (Y7 hz U2))
  |refine zW (V1 o1 o2 o3 hlen) ?_
  exact⟨.inr trivial,_,rR,_,rfl,sJ⟩
 by_cases l2:x.aI.length=2
 .have tx:((x.aI.length:Int)==2)=true:=by rw[l2];rfl
  have i0:W7 1 x.dn (.int .i64 0)=some (.fp [.int .i64 (x.num 0)] 0):=by rw[a8h oJ];exact FI.idx hx.n (i:=0) oJ
  have i1:W7 1 x.dn (.int .i64 1)=some (.fp [.int .i64 (x.num 1)] 0):=by rw[a8h oJ];exact FI.idx hx.n (i:=1) oJ
  have g0:=b1L (k:=x.num 0) (a:=0) (b:=999999);have g1:=b1L (k:=x.num 1) (a:=-999999) (b:=999999);cases r0:inR (x.num 0) 0 999999
  .rw[r0]at g0
   refine W4 (vf:=a0g) rfl ?_;unfold a0g;refine zE ?_;repeat first
   |(apply V2 h1 rfl rfl (Y7 hz U2))
   |(apply V2 g0 rfl rfl rfl)
   |(apply V2 g1 rfl rfl rfl)
   |refine zW (U0 o1 o2 o3 hlen qD tx i0 (aN i1 mf)) ?_
   exact⟨.inr trivial,_,rR,_,rfl,sJ⟩
  .rw[r0]at g0
   cases r1:inR (x.num 1) (-999999) 999999
   .rw[r1]at g1
    refine W4 (vf:=a0g) rfl ?_;unfold a0g;refine zE ?_;repeat first
    |(apply V2 h1 rfl rfl (Y7 hz U2))
    |(apply V2 g0 rfl rfl rfl)
    |(apply V2 g1 rfl rfl rfl)
    |refine zW (U0 o1 o2 o3 hlen qD tx i0 (aN i1 mf)) ?_
    exact⟨.inr trivial,_,rR,_,rfl,sJ⟩
   .rw[r1]at g1
    have r1:=b3Z.1 r1;refine W4 (vf:=a0g) rfl ?_;unfold a0g;refine zE ?_;repeat first
    |(apply V2 h1 rfl rfl (Y7 hz U2))
    |(apply V2 g0 rfl rfl rfl)
    |(apply V2 g1 rfl rfl rfl)
    |refine zW (U0 o1 o2 o3 hlen qD tx i0 (aN i1 mf)) ?_
    exact⟨.inr trivial,_,rR,_,rfl,λh=>⟨p1 rfl,l2,r1.1,r1.2,sU h⟩⟩
 .have tx:((x.aI.length:Int)==2)=false:=by rw[FA];omega
  refine W4 (vf:=a0g) rfl ?_;unfold a0g;refine zE ?_;repeat first
  |(apply V2 h1 rfl rfl (Y7 hz U2))
  |refine zW (X0 o1 o2 o3 hlen qD tx mf) ?_
  exact⟨.inr trivial,_,rR,_,rfl,sJ⟩
theorem node_3{x:Nd}(hT:Z0 d t)(hx:x.Ok)(hk:a17 t x)(hK:x.kind=3):a0E 68 [d,.agg x.row] λb=>b=true->(x.words.length:Int)=1/\((x.aI.length:Int)=1/\∀n∈x.aI,0<=n/\n<=999999)/\∃v,v<=x.kids.length/\(∀i,i<v->(nd t (x.aE i)).kind=2)/\∀i,v<=i->i<x.kids.length->6<=(nd t (x.aE i)).kind/\(nd t (x.aE i)).kind<=15:=by
 refine a0N ?_;have o1:=FL.one hx.w;have o2:=FL.one hx.n;have o3:=FL.one hx.k;have hlen:=FI.len hx.k;have hz:=hx.fz;have iS:x.row=[.int .i64 3,x.dw,x.dn,x.dk,.int .i64 x.pos]:=by unfold Nd.row;rw[hK]
 obtain⟨b1,h1,p1⟩:=a2t hx (c:=1);obtain⟨b2,h2,p2⟩:=a2M hx (c:=1) (m:=999999);rw[iS]at h1 h2 hz⊢;refine W4 (vf:=a0g) rfl ?_;unfold a0g;refine zE ?_;try refine zW (V1 o1 o2 o3 hlen) ?_
 refine a1l (Q:=a0u 1 _) (λn env s=>∃i:Nat,i<=x.kids.length/\n=x.kids.length-i/\(∀j,j<i->(nd t (x.aE j)).kind=2)/\s.get 0=some (.cells [.int .i64 3,x.dw,x.dn,x.dk,.int .i64 x.pos])/\(env.get 0=d/\env.get 3=.ptr 0 0/\env.get 5=.int .i64 (x.kids.length:Int)/\env.get 6=.int .i64 (i:Int))) ?_ x.kids.length _ _ ⟨0,oJ,rfl,λj h=>by omega,W8 rfl,by simp[k6.get,a0n.at];rfl⟩;rintro n env s ⟨i,hi,rfl,iR,hg,hE⟩;have fin:∀(env:k6)(s:k4),s.get 0=some (.cells [.int .i64 3,x.dw,x.dn,x.dk,.int .i64 x.pos])->(env.get 0=d/\env.get 3=.ptr 0 0/\env.get 6=.int .i64 (i:Int))->True:=λ_ _ _ _=>trivial
 obtain⟨b3,h3,p3⟩:=b4n hT hx hk (f:=i) (a:=6) (b:=15);rw[iS]at h3;by_cases c3:i<x.kids.length
 .have jm:((i:Int)<(x.kids.length:Int))=True:=FR oJ
  have hs:=a5K c3 hx.kl;have kK:=hk _ (Fp c3);have h4:=b6z hT hx c3 kK.1 kK.2;rw[iS]at h4;by_cases c4:(nd t (x.aE i)).kind=2
  .have kD:((nd t (x.aE i)).kind==2)=true:=by rw[c4];rfl
   repeat first
   |(apply V2 h4 rfl;(focus(simp only[k6.aR,k6.ev,k6.get,Nat.reduceEqDiff,↓reduceIte,hE]));(focus exact Y6 hT.fz hz U2))
   |refine zW (U0 hE hg o1 o2 o3 hlen jm (aN kD hs)) ?_
   refine⟨x.kids.length-(i+1),oJ,i+1,oJ,rfl,λj h=>?_,hg,(rG hE)⟩;by_cases e:j=i
   .subst e;exact c4
   .exact iR j oJ
  .have kD:((nd t (x.aE i)).kind==2)=false:=by rw[FA];exact c4
   cases b1
   .repeat first
    |(apply V2 h4 rfl;(focus(simp only[k6.aR,k6.ev,k6.get,Nat.reduceEqDiff,↓reduceIte,hE]));(focus exact Y6 hT.fz hz U2))
    |(apply V2 h1 rfl rfl (Y7 hz U2))
    |refine zW (U0 hE hg o1 o2 o3 hlen jm kD) ?_
    exact⟨.inr trivial,_,rR,_,rfl,sJ⟩
   cases b2
   .repeat first
    |(apply V2 h4 rfl;(focus(simp only[k6.aR,k6.ev,k6.get,Nat.reduceEqDiff,↓reduceIte,hE]));(focus exact Y6 hT.fz hz U2))
    |(apply V2 h1 rfl rfl (Y7 hz U2))
    |(apply V2 h2 rfl rfl (Y6 hz U2 U2))
    |refine zW (U0 hE hg o1 o2 o3 hlen jm kD) ?_
    exact⟨.inr trivial,_,rR,_,rfl,sJ⟩
   repeat first
   |(apply V2 h4 rfl;(focus(simp only[k6.aR,k6.ev,k6.get,Nat.reduceEqDiff,↓reduceIte,hE]));(focus exact Y6 hT.fz hz U2))
   |(apply V2 h1 rfl rfl (Y7 hz U2))
   |(apply V2 h2 rfl rfl (Y6 hz U2 U2))
   |(apply V2 h3 rfl;(focus(simp only[k6.aR,k6.ev,k6.get,Nat.reduceEqDiff,↓reduceIte,hE]));(focus exact gD hT.fz hz U2 U2 U2))
   |refine zW (U0 hE hg o1 o2 o3 hlen jm kD) ?_
   exact⟨.inr trivial,_,rR,_,rfl,λh=>⟨p1 rfl,p2 rfl,i,hi,iR,p3 h⟩⟩
 .have jm:((i:Int)<(x.kids.length:Int))=False:=FH oJ
  cases b1
  .repeat first
   |(apply V2 h1 rfl rfl (Y7 hz U2))
   |refine zW (X0 hE hg o1 o2 o3 hlen jm) ?_
   exact⟨.inr trivial,_,rR,_,rfl,sJ⟩
  cases b2
  .repeat first
   |(apply V2 h1 rfl rfl (Y7 hz U2))
   |(apply V2 h2 rfl rfl (Y6 hz U2 U2))
   |refine zW (X0 hE hg o1 o2 o3 hlen jm) ?_
   exact⟨.inr trivial,_,rR,_,rfl,sJ⟩
  repeat first
  |(apply V2 h1 rfl rfl (Y7 hz U2))
  |(apply V2 h2 rfl rfl (Y6 hz U2 U2))
  |(apply V2 h3 rfl;(focus(simp only[k6.aR,k6.ev,k6.get,Nat.reduceEqDiff,↓reduceIte,hE]));(focus exact gD hT.fz hz U2 U2 U2))
  |refine zW (X0 hE hg o1 o2 o3 hlen jm) ?_
  exact⟨.inr trivial,_,rR,_,rfl,λh=>⟨p1 rfl,p2 rfl,i,hi,iR,p3 h⟩⟩
theorem node_x(hT:Z0 d t)(hx:x.Ok)(hK:x.kind<0\/22<x.kind):a0E 68 [d,.agg x.row] λb=>b=false:=by
 refine a0N ?_;have o1:=FL.one hx.w;have o2:=FL.one hx.n;have o3:=FL.one hx.k;have hlen:=FI.len hx.k;have ne:∀c:Int,0<=c->c<=22->(x.kind==c)=false:=λc h1 h2=>by rw[FA];omega
 have n0:=ne 0 oJ oJ;have n1:=ne 1 oJ oJ;have n2:=ne 2 oJ oJ;have n3:=ne 3 oJ oJ;have n4:=ne 4 oJ oJ;have n5:=ne 5 oJ oJ;have n6:=ne 6 oJ oJ;have n7:=ne 7 oJ oJ;have n8:=ne 8 oJ oJ;have n9:=ne 9 oJ oJ;have n10:=ne 10 oJ oJ;have n11:=ne 11 oJ oJ;have n12:=ne 12 oJ oJ;have Ce:=ne 13 oJ oJ;have n14:=ne 14 oJ oJ;have n15:=ne 15 oJ oJ;have n16:=ne 16 oJ oJ;have n17:=ne 17 oJ oJ;have n18:=ne 18 oJ oJ;have n19:=ne 19 oJ oJ;have n20:=ne 20 oJ oJ;have n21:=ne 21 oJ oJ;have n22:=ne 22 oJ oJ;unfold Nd.row;refine W4 (vf:=a0g) rfl ?_;unfold a0g;refine zE ?_;try refine zW (U0 o1 o2 o3 hlen n0 n1 n2 (U0 n3 n4 n5 n6 n7 n8 n9 (U0 n10 n11 n12 Ce n14 n15 n16 (X4 n17 n18 n19 n20 n21 n22)))) ?_
 exact⟨.inr trivial,_,rR,_,rfl,rfl⟩
end Go.Proofs.YtigbmclkjknnjaaGreat
