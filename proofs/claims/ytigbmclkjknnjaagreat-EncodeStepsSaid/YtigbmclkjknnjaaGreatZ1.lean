/- Texts one behind the other. -/
import Derived.Test.YtigbmclkjknnjaaGreatZ0
import Derived.ProofKit
import Derived.OpenShut
import Derived.ShutString
import Derived.ChangeOld
import Derived.Below
import Derived.Carry
import Derived.Handed
import Derived.KernelRfl
set_option linter.all false
set_option maxRecDepth 100000
set_option maxHeartbeats 8000000
namespace Go.V
def Ji:=@ChangeShapes.trodAll_cons
def Jv:=@ChangeShapes.trodAll_nil
inductive Ty where
 |bool
 |int (k:IntKind)
 |str
 |slice (sz:Nat) (e:Ty)
 |struct (fs:List Ty)
 |arr (n:Nat) (e:Ty)
mutual
def a1H:Ty->List D->Prop
 |.bool,cs=>∃b,cs=[.bool b]
 |.int k,cs=>∃n,cs=[.int k n]/\(Lit.int k n).wf=true
 |.str,cs=>∃s:ByteArray,cs=[.str s]/\s.size<=maxLen
 |.slice sz e,cs=>cs=[.ag]\/∃xs,cs=[.bu sz xs]/\xs.length<=maxLen/\∀x∈xs,a1H e x
 |.struct fs,cs=>fq fs cs
 |.arr n e,cs=>∃gs:List (List D),gs.length=n/\cs=gs.flatten/\∀g∈gs,a1H e g
def fq:List Ty->List D->Prop
 |[],cs=>cs=[]
 |t::ts,cs=>∃a b,cs=a++b/\a1H t a/\fq ts b
end
mutual
def a3H(P:Program):Ty->TypeId->Bool
 |.bool,t=>match P.underlying t with|some .bool=>true|_=>false
 |.int k,t=>match P.underlying t with|some (.int k')=>decide (k=k')|_=>false
 |.str,t=>match P.underlying t with|some .string=>true|_=>false
 |.slice sz e,t=>match P.underlying t with|some (.slice u)=>decide (P.cellsOf u=sz)&&decide (0<sz)&&a3H P e u|_=>false
 |.struct fs,t=>match P.underlying t with|some (.struct gs)=>bV P fs 0 gs.toList (P.cellsOf t)|_=>false
 |.arr n e,t=>match P.underlying t with|some (.array m u)=>decide (m=n)&&decide (P.cellsOf t=n*P.cellsOf u)&&a3H P e u|_=>false
def bV(P:Program):List Ty->Nat->List Field->Nat->Bool
 |[],off,[],n=>decide (off=n)
 |y::ys,off,f::fs,n=>decide (f.offset=off)&&a3H P y f.type&&bV P ys (off+P.cellsOf f.type) fs n
 |_,_,_,_=>false
end
section
variable{H:Type}{enc:TypeId×Value->H}{P:Program}{W:World}{sp:Nat->Bool}{held:Bool}
theorem b2j{α β:Type}{f:α->Option β}:∀{l:List α}{r:List β},l.mapM f=some r->r.length=l.length/\∀(i:Nat)x,l[i]?=some x->∃y,r[i]?=some y/\f x=some y
 |[],r,h=>by grind
 |a::l,r,h=>by
  rw[List.mapM_cons]at h;cases ha:f a with
  |none=>simp[ha]at h
  |some y =>
   cases hl:l.mapM f with
   |none=>simp[ha,hl]at h
   |some ys =>
    simp[ha,hl]at h;subst h;obtain⟨h1,h2⟩:=b2j hl;grind
theorem c2e:∀{ds:List D}{cs:List Value}{b o:Nat},bm (λb=>W.heap[b]?) ds cs->ds.all V5=true->(∀i u,cs[i]?=some u->W.cell? ⟨b,o+i,none⟩=some u)->RC (λb=>W.heap[b]?) ds b o
 |[],_,_,_,_,_,_=>by simp only[RC]
 |d::ds,cs,b,o,h,ho,hc=>by
  simp only[bm]at h;obtain⟨u,us,rfl,h1,h2⟩:=h;simp only[RC];simp only[HH,Fo]at ho;refine⟨⟨ho.1,u,?_,h1⟩,c2e h2 ho.2 λi x hi=>?_⟩
  .have:=hc 0 u sJ
   assumption
  .have:=hc (i+1) x (sU hi)
   grind
theorem c0h:∀(sz:Nat)(xs:List (List D))(b o:Nat),(∀i x,xs[i]?=some x->x.length=sz/\RC (λb=>W.heap[b]?) x b (o+i*sz))->RG (λb=>W.heap[b]?) sz xs b o
 |_,[],_,_,_=>by simp only[RG]
 |sz,x::xs,b,o,h=>by
  simp only[RG];obtain⟨h1,h2⟩:=h 0 x sJ;refine⟨h1,sU h2,c0h sz xs b (o+sz) λi y hi=>?_⟩;obtain⟨h3,h4⟩:=h (i+1) y (sU hi);grind
theorem c1P{Φ:W9}:∀{ds:List D}{vs:List Value},bm Φ ds vs->vs.length=ds.length
 |[],vs,h=>by grind[bm]
 |d::ds,vs,h=>by
  simp only[bm]at h;obtain⟨u,us,rfl,_,h2⟩:=h;simp[c1P h2]
theorem b4t{Φ:W9}:∀{ds es:List D}{vs us:List Value},bm Φ ds vs->bm Φ es us->bm Φ (ds++es) (vs++us)
 |[],es,vs,us,h,k=>by grind[bm]
 |d::ds,es,vs,us,h,k=>by
  simp only[bm]at h;obtain⟨u,yQ,rfl,h1,h2⟩:=h;simp only[Fx,bm];exact⟨u,yQ++us,rfl,h1,b4t h2 k⟩
theorem c3M{a:Addr}{n:Nat}{cs:List Value}(h:W.cells? 0 a n=some cs):cs.length=n/\∀i u,cs[i]?=some u->W.cell? (a.add i)=some u:=by
 simp only[World.cells?,KB,FG]at h;obtain⟨h1,h2⟩:=b2j h;simp_all[Hx]
theorem b8H{α β:Type}{Q:α->β->Prop}:∀(l:List α),(∀(i:Nat)x,l[i]?=some x->∃y,Q x y)->∃r:List β,r.length=l.length/\∀(i:Nat)x y,l[i]?=some x->r[i]?=some y->Q x y
 |[],_=>⟨[],rfl,sJ⟩
 |a::l,h=>by
  obtain⟨y,hy⟩:=h 0 a sJ;obtain⟨r,h1,h2⟩:=b8H l λi x hi=>h (i+1) x (sU hi)
  refine⟨y::r,by simp[h1],λi x z hx hz=>?_⟩;grind
theorem a85{Φ:W9}{d:D}{v:Value}(h:RP Φ d v):bm Φ [d] [v]:=by
 simp only[bm];grind
mutual
theorem b24:∀(ty:Ty)(fuel:Nat)(t:TypeId)(cs:List Value)(x:DataW H×List MemPlace),a3H P ty t=true->DataW.trod enc P W 0 (λ_=>true) held fuel t cs=some x ->
 ∃ds,bm (λb=>W.heap[b]?) ds cs/\ds.all V5=true/\a1H ty ds
 |_,0,t,cs,x,_,h=>by simp[DataW.trod]at h
 |.bool,fuel+1,t,cs,x,hk,h=>by
  simp only[a3H]at hk;split at hk
  case h_2=>cases hk
  rename_i hu;unfold DataW.trod at h;rw[hu]at h;split at h<;>simp_all
  rename_i b;exact⟨[.bool b],a85 (by simp only[RP]),by simp[V5],by simp[a1H]⟩
 |.int k,fuel+1,t,cs,x,hk,h=>by
  simp only[a3H]at hk;split at hk
  case h_2=>cases hk
  rename_i k' hu;have kC:k=k':=sU hk;subst kC;unfold DataW.trod at h;rw[hu]at h;split at h<;>simp_all
  rename_i kk nn hh;obtain⟨⟨h1,h2⟩,_⟩:=h;subst h1;exact⟨[.int kk nn],a85 (by simp only[RP]),by simp[V5],by simp only[a1H];exact⟨nn,rfl,h2⟩⟩
 |.str,fuel+1,t,cs,x,hk,h=>by
  simp only[a3H]at hk;split at hk
  case h_2=>cases hk
  rename_i hu;unfold DataW.trod at h;rw[hu]at h;split at h<;>simp_all
  rename_i s;exact⟨[.str s],a85 (by simp only[RP]),by simp[V5],by simp only[a1H];exact⟨s,rfl,h.1⟩⟩
 |.slice sz e,fuel+1,t,cs,x,hk,h=>by
  simp only[a3H]at hk;split at hk
  case h_2=>cases hk
  rename_i u hu;simp only[Fo,Fy]at hk;obtain⟨⟨lB,uz⟩,hk⟩:=hk;unfold DataW.trod at h;rw[hu]at h;split at h<;>(try(simp_all;done))
  .exact⟨[.ag],a85 (by simp only[RP]),by simp[V5],by simp[a1H]⟩
  .rename_i e' a len cap hue
   cases hue;dsimp only at h
   split at h
   case isFalse=>cases h
   rename_i hc;obtain⟨_,ly,hcap⟩:=hc;cases hm:(List.range len).mapM (λi=>(W.cells? 0 (a.add (i*P.cellsOf u)) (P.cellsOf u)).bind (DataW.trod enc P W 0 (λ_=>true) held fuel u))with
   |none=>grind
   |some els =>
    obtain⟨Bq,yf⟩:=b2j hm;have key:∀(i:Nat)k,(List.range len)[i]?=some k->∃ds:List D,ds.length=sz/\(∀(j:Nat),j<sz->∃v,W.cell? ((a.add (k*sz)).add j)=some v)/\ds.all V5=true/\a1H e ds /\
     ∃cc,bm (λb=>W.heap[b]?) ds cc/\∀(j:Nat)v,cc[j]?=some v->W.cell? ((a.add (k*sz)).add j)=some v:=by
     intro i k hi;obtain⟨y,_,hy⟩:=yf i k hi;cases vW:W.cells? 0 (a.add (k*P.cellsOf u)) (P.cellsOf u)with
     |none=>simp[vW]at hy
     |some cc =>
      simp only[vW,Option.bind_some]at hy;obtain⟨ds,h1,h2,h3⟩:=b24 e fuel u cc y hk hy;obtain⟨h4,h5⟩:=c3M vW;rw[lB]at h4 h5;refine⟨ds,by grind[c1P],λj hj=>⟨cc[j],h5 j _ (GY oJ)⟩,h2,h3,cc,h1,h5⟩
    obtain⟨r,ji,hr2⟩:=b8H (List.range len) key;have tQ:r.length=len:=sU ji;have BV:∀(i:Nat)ds,r[i]?=some ds->_:=λi ds hi=>hr2 i i ds (IU (by grind)) hi
    obtain⟨b,o,spot⟩:=a;by_cases hz:len=0
    .subst hz
     have:=Gi tQ;subst this;refine⟨[.bu sz []],a85 ?_,by simp[V5],?_⟩
     .simp[RP,RG]
     .simp only[a1H]
      simp
    .have hspot:spot=none:=by
      obtain⟨ds,hd⟩:∃ds,r[0]?=some ds:=⟨r[0],GY oJ⟩
      obtain⟨_,h2,_⟩:=BV 0 ds hd;obtain⟨v,hv⟩:=h2 0 oJ;simpa[Addr.add]using World.cell?_spot hv
     subst hspot;refine⟨[.bu sz r],a85 ?_,by simp[V5],?_⟩
     .simp only[RP]
      refine⟨b,o,cap,none,by rw[tQ],oJ,.inl rfl,c0h sz r b o λi ds hi=>?_⟩;grind[c2e,a5Q]
     .simp only[a1H]
      refine .inr ⟨r,rfl,oJ,λds hd=>?_⟩;grind[List.getElem?_of_mem]
 |.struct fs,fuel+1,t,cs,x,hk,h=>by
  simp only[a3H]at hk;split at hk
  case h_2=>cases hk
  rename_i gs hu;unfold DataW.trod at h;rw[hu]at h;split at h<;>(try(simp_all;done))
  rename_i cs _ _ gs' hue;have wE:gs'=gs:=by grind
  rw[wE]at h;split at h
  case isFalse=>cases h
  rename_i hl;cases hm:gs.toList.mapM (λf=>DataW.trod enc P W 0 (λ_=>true) held fuel f.type ((cs.drop f.offset).take (P.cellsOf f.type)))with
  |none=>grind
  |some xs =>
   simp only[a1H];have:=fN fs fuel 0 gs.toList (P.cellsOf t) cs xs hk hl hm;simpa using this
 |.arr n e,fuel+1,t,cs,x,hk,h=>by
  simp only[a3H]at hk;split at hk
  case h_2=>cases hk
  rename_i m u hu;simp only[Fo,Fy]at hk;obtain⟨⟨rfl,lB⟩,hk⟩:=hk;unfold DataW.trod at h;rw[hu]at h;split at h<;>(try(simp_all;done))
  rename_i cs _ _ n' e' hue;have wE:n'=m/\e'=u:=by grind
  rw[wE.1,wE.2]at h;split at h
  case isFalse=>cases h
  rename_i hl;cases hm:(List.range m).mapM (λi=>DataW.trod enc P W 0 (λ_=>true) held fuel u ((cs.drop (i*P.cellsOf u)).take (P.cellsOf u)))with
  |none=>grind
  |some xs =>
   obtain⟨Bq,yf⟩:=b2j hm;have key:∀k,k<=m->∃gs:List (List D),gs.length=k/\bm (λb=>W.heap[b]?) gs.flatten (cs.drop ((m-k)*P.cellsOf u))/\gs.flatten.all V5=true/\∀g∈gs,a1H e g:=by
    intro k;induction k with
    |zero =>
     intro _;refine⟨[],rfl,?_,sJ,sJ⟩;have:cs.drop (m*P.cellsOf u)=[]:=HG oJ;simp[this,bm]
    |succ k ih =>
     intro Bl;obtain⟨gs,h1,h2,h3,h4⟩:=ih oJ;obtain⟨y,_,hy⟩:=yf (m-(k+1)) (m-(k+1)) (IU oJ);obtain⟨ds,d1,d2,d3⟩:=b24 e fuel u _ y hk hy;refine⟨ds::gs,by simp[h1],?_,?_,?_⟩
     .have e1:cs.drop ((m-(k+1))*P.cellsOf u)=(cs.drop ((m-(k+1))*P.cellsOf u)).take (P.cellsOf u)++cs.drop ((m-k)*P.cellsOf u):=by
       have:(m-k)*P.cellsOf u=(m-(k+1))*P.cellsOf u+P.cellsOf u:=by
        have:m-k=(m-(k+1))+1:=oJ;rw[this,HX];omega
       rw[this,<- Ih,Hi]
      rw[e1,GF];exact b4t d1 h2
     .rw[GF,IQ,d2,h3];rfl
     .intro g hg
      rcases Fi.1 hg with rfl|hg
      .exact d3
      .exact h4 g hg
   obtain⟨gs,h1,h2,h3,h4⟩:=key m (sm _);simp only[a1H];grind
theorem fN:∀(ys:List Ty)(fuel off:Nat)(fs:List Field)(n:Nat)(cs:List Value)(xs:List (DataW H×List MemPlace)),bV P ys off fs n=true->cs.length=n ->
 fs.mapM (λf=>DataW.trod enc P W 0 (λ_=>true) held fuel f.type ((cs.drop f.offset).take (P.cellsOf f.type)))=some xs ->
 ∃ds,bm (λb=>W.heap[b]?) ds (cs.drop off)/\ds.all V5=true/\fq ys ds
 |[],fuel,off,fs,n,cs,xs,hk,hl,h=>by
  cases fs with
  |cons f fs=>grind[bV]
  |nil =>
   simp_all[bV,fq,bm]
 |y::ys,fuel,off,fs,n,cs,xs,hk,hl,h=>by
  cases fs with
  |nil=>grind[bV]
  |cons f fs =>
   simp only[bV,Fo,Fy]at hk;obtain⟨⟨h1,h2⟩,h3⟩:=hk;rw[List.mapM_cons]at h;cases ha:DataW.trod enc P W 0 (λ_=>true) held fuel f.type ((cs.drop f.offset).take (P.cellsOf f.type))with
   |none=>simp[ha]at h
   |some z =>
    cases hr:fs.mapM (λf=>DataW.trod enc P W 0 (λ_=>true) held fuel f.type ((cs.drop f.offset).take (P.cellsOf f.type)))with
    |none=>simp[ha,hr]at h
    |some zs =>
     obtain⟨ds,d1,d2,d3⟩:=b24 y fuel f.type _ z h2 ha;obtain⟨es,e1,e2,e3⟩:=fN ys fuel _ fs n cs zs h3 hl hr;refine⟨ds++es,?_,by rw[IQ,d2,e2];rfl,by simp only[fq];exact⟨ds,es,rfl,d3,e3⟩⟩;grind[b4t,List.drop_drop,List.take_append_drop]
end
def a9u:Ty->D->Prop
 |.struct fs,d=>∃ds,d=.agg ds/\a1H (.struct fs) ds
 |.arr n e,d=>∃ds,d=.agg ds/\a1H (.arr n e) ds
 |ty,d=>a1H ty [d]
def a9m:List Ty->List D->Prop
 |[],xs=>xs=[]
 |y::ys,xs=>∃d ds,xs=d::ds/\a9u y d/\a9m ys ds
theorem c8L{Φ:W9}{ds:List D}{v:Value}(h:bm Φ ds [v]):∃d,ds=[d]/\RP Φ d v:=by
 cases ds with
 |nil=>simp[bm]at h
 |cons d ds =>
  simp only[bm]at h;obtain⟨u,us,e,h1,h2⟩:=h;cases e;cases ds with
  |nil=>grind
  |cons d' ds=>simp[bm]at h2
open Go.WideShapes in
theorem c40{ty:Ty}{t:TypeId}{v:Value}{d:DataW H}{ps:List MemPlace}{base:Nat}(hk:a3H P ty t=true)(kM:Value.okWide P W .any base t v)
 (h:DataW.Trod enc P W 0 (λ_=>true) held t v d ps):∃x,RP (λb=>W.heap[b]?) x v/\a9u ty x:=by
 have hT:=h;obtain⟨fuel,hf⟩:=h;obtain⟨ds,h1,h2,h3⟩:=b24 ty fuel t _ _ hk hf;have one:v.cells=#[v]->∃x,RP (λb=>W.heap[b]?) x v/\a1H ty [x]:=by grind[c8L]
 have many:∀cs,v=.agg cs->∃x,RP (λb=>W.heap[b]?) x v/\∃ds,x=.agg ds/\a1H ty ds:=by
  intro cs e;subst e;simp only[Value.cells]at h1;refine⟨.agg ds,?_,ds,rfl,h3⟩;simp only[RP];exact⟨cs.toList,rfl,h1⟩
 cases ty with
 |bool =>
  simp only[a3H]at hk;split at hk
  case h_2=>cases hk
  rename_i hu;refine one ?_;obtain⟨b,rfl,_⟩:=RowKit.open_bool hu kM hT;rfl
 |int k =>
  simp only[a3H]at hk;split at hk
  case h_2=>cases hk
  rename_i hu;refine one ?_;obtain⟨b,rfl⟩:=okWide_int hu kM;rfl
 |str =>
  simp only[a3H]at hk;split at hk
  case h_2=>cases hk
  rename_i hu;refine one ?_;obtain⟨b,rfl⟩:=okWide_string hu kM;rfl
 |slice sz e =>
  simp only[a3H]at hk;split at hk
  case h_2=>cases hk
  rename_i hu;refine one ?_;obtain⟨a,l,c,rfl⟩:=okWide_slice hu kM;rfl
 |struct fs =>
  simp only[a3H]at hk;split at hk
  case h_2=>cases hk
  rename_i hu;simp only[Value.okWide,hu]at kM;obtain⟨cs,e,_⟩:=kM;exact many cs e
 |arr n e =>
  simp only[a3H]at hk;split at hk
  case h_2=>cases hk
  rename_i hu;simp only[Value.okWide,hu]at kM;obtain⟨cs,e,_⟩:=kM;exact many cs e
def a8I(P:Program):List Ty->List TypeId->Bool
 |[],[]=>true
 |y::ys,t::ts=>a3H P y t&&a8I P ys ts
 |_,_=>false
theorem b7p{base:Nat}:∀{xM:List Ty}{ts:List TypeId}{vs:List Value}{ds:List (DataW H)}{ps:List MemPlace},a8I P xM ts=true ->
 (∀(j:Nat)t v,ts[j]?=some t->vs[j]?=some v->Value.okWide P W .any base t v)->DataW.TrodAll enc P W 0 (λ_=>true) held ts vs ds ps ->
 ds.length=xM.length/\∃xs,bm (λb=>W.heap[b]?) xs vs/\a9m xM xs
 |[],[],vs,ds,ps,_,_,h=>by
  obtain⟨rfl,rfl,rfl⟩:=Jv h;exact⟨rfl,[],by simp only[bm],by simp only[a9m]⟩
 |[],_::_,_,_,_,hk,_,_=>by simp[a8I]at hk
 |_::_,[],_,_,_,hk,_,_=>by simp[a8I]at hk
 |y::ys,t::ts,vs,ds,ps,hk,hv,h=>by
  simp only[a8I,Fo]at hk;obtain⟨v,yQ,d,DW,p,q,rfl,rfl,rfl,h1,h2⟩:=Ji h;obtain⟨x,x1,x2⟩:=c40 hk.1 (hv 0 t v rfl rfl) h1;obtain⟨hl,xs,x3,x4⟩:=b7p hk.2 (λj u w hj hw=>hv (j+1) u w (sU hj) (sU hw)) h2;refine⟨by simp[hl],x::xs,?_,?_⟩
  .simp only[bm];grind
  .simp only[a9m];grind
theorem b9r(hl:laidOutB P=true){W':World}(hb:RowKit.Below W.heap.size W W'):∀{ts:List TypeId}{vs:List Value}{ds:List (DataW H)}{ps:List MemPlace},
 ts.all (λt=>P.readableRec t&&decide (t<P.types.size))=true->DataW.TrodAll enc P W 0 (λ_=>true) true ts vs ds ps ->
 DataW.TrodAll enc P W' 0 (λb=>decide (b<W.heap.size)) true ts vs ds ps
 |[],vs,ds,ps,_,h=>by
  obtain⟨rfl,rfl,rfl⟩:=Jv h;assumption
 |t::ts,vs,ds,ps,hr,h=>by
  simp only[HH,Fo,Fy]at hr;obtain⟨v,yQ,d,DW,p,q,rfl,rfl,rfl,h1,h2⟩:=Ji h;refine⟨p,q,?_,b9r hl hb hr.2 h2,rfl⟩;have lt:∀x∈p,x.block<W.heap.size:=by obtain⟨m,hm⟩:=h1;exact DataW.trod_lt m _ _ _ hm
  grind[RowKit.Below.trod]
theorem lifted{C:Checked}{os:Os}{f:FuncId}{fn:Func}{s:ChangeSpec}{conds:List PathCond}{fs:Nat->Option U4}{tb:TypeId}
 (own:ownKnob C.prog.godebug=none)(started:os.Started)(noInit:C.prog.inits.idxOf? f=none)(nu:C.prog.funcs[f]?=some fn)
 (witness:∃(w:World)(tape:Tape)(i:Input),w.os=os/\(w.forCall tape i).Shaped C.prog/\i.vars=[]/\Input.okWide C.prog (w.forCall tape i) .any w.heap.size f i /\
  s.pre6 enc C.prog fn conds false (w.forCall tape i).memory i.args/\({}:Assume).holds C.prog (lone (Frame.enter C.prog f i.args .normal) [] (w.forCall tape i)))
 (laid:laidOutB C.prog=true) (vV:s.vars=[]) (xM:List Ty) (htys:a8I C.prog xM fn.params.toList=true)
 (hread:fn.params.toList.all (λt=>C.prog.readableRec t&&decide (t<C.prog.types.size))=true)
 (iN:fn.resultTypes=#[tb]) (Fc:C.prog.underlying tb=some .bool)
 (wG:∀ds:List (DataW H),ds.length=xM.length->s.fn H ds={ results:=[.lit (.bool true)],args:=ds })
 (kn:b0b C.prog fs) (law:∀xs,a9m xM xs->∃n s',a84 fs n f xs k4.empty=some (.bool true,s')) :
 ReturnsInHanded {} C os f .any (s.pre6 enc C.prog fn conds false) (s.post enc C.prog fn false true false false):=by
 refine returnsInHanded_of_change own started noInit nu witness ?_;intro W base args ds gs before kM hW xH _;have xA:=hW;obtain⟨p,q,hA,hV,rfl,hfz,tG⟩:=hW;rw[vV]at hV;obtain⟨rfl,rfl⟩:=ChangeShapes.trodVars_none hV;obtain⟨hlen,xs,x1,x2⟩:=b7p htys (λj t v hj hv=>kM j t v (sU hj) (sU hv)) hA;obtain⟨n,s',hn⟩:=law xs x2;have:=c9z kn C.mixed hn x1;refine this.mono ?_;rintro e W' ⟨v,μ',Φ',rfl,hv,bel⟩;simp only[R]at hv;subst hv;refine⟨_,rfl,ds,[],_,[],p,[],xA,?_,?_,?_,bel.frame _,λh=>by cases h⟩
 .rw[Fl,wG ds hlen,iN]
  exact ChangeShapes.trodAll_mk1 (RowKit.shut_bool Fc _)
 .grind[b9r]
 .rw[vV,Fl,wG ds hlen]
  rfl
end
end Go.V
namespace Go.V
def a1s.le(C C':a1s):Prop:=∀f a s r,C f a s=some r->C' f a s=some r
variable{C C':a1s}
theorem c5X(h:C.le C'){md f args s r}(e:a3c C md f args s=some r):a3c C' md f args s=some r:=by
 unfold a3c at *;split at e
 .split at e
  .exact h _ _ _ _ e
  .split at e
   .cases e
   .rename_i mD ha
    split at e
    .cases e
    .rename_i r' s1 hc
     simp only[ha,h _ _ _ _ hc];exact e
 .cases e
theorem c4o(h:C.le C'){env s o r}(e:cO C env s o=some r):cO C' env s o=some r:=by
 cases o<;>simp only[cO]at*<;>grind[c5X]
theorem b8S(h:C.le C'){env s o r}(e:a0y C env s o=some r):a0y C' env s o=some r:=by
 cases o<;>simp only[a0y]at*<;>grind[c4o]
theorem b2f{C C':a1s}(h:C.le C'){af}:∀{ops tr env s r},a1z C af ops tr env s=some r->a1z C' af ops tr env s=some r
 |[],tr,env,s,r,e=>by assumption
 |(i,o)::rest,tr,env,s,r,e=>by
  simp only[a1z]at e⊢;split at e
  .cases e
  .rename_i hw
   try simp only[hw]
   exact b2f h e
  .rename_i hw
   try simp only[hw]
   split at e
   .cases e
   .rename_i d s' hr
    simp only[b8S h hr];split at e
    .rename_i hp
     rw[Fk hp];exact b2f h e
    .cases e
theorem b0Z{fs}{ex ex':List Nat->a1w->k6->k4->Option Out}(h:∀v c e s r,ex v c e s=some r->ex' v c e s=some r):a1s.le (a2H fs ex) (a2H fs ex'):=by
 intro f a s r e;grind[a2H]
theorem c6w{fs}:∀n v c e s r,a0q fs n v c e s=some r->a0q fs (n+1) v c e s=some r:=by
 intro n;induction n with
 |zero=>simp[a0q]
 |succ n ih =>
  intro v c e s r h;cases c with
  |skip=>assumption
  |region rg =>
   rw[a0q]at h⊢;split at h
   .rename_i e' s' hr
    rw[b2f (b0Z ih) hr];exact h
   .cases h
  |seq a b =>
   grind[a0q]
  |cond c x y =>
   grind[a0q]
  |block id b =>
   grind[a0q]
  |loop b =>
   grind[a0q]
  |exit id=>assumption
  |ret=>assumption
theorem a8J{fs}{n m:Nat}(rL:n<=m){v c e s r}(h:a0q fs n v c e s=some r):a0q fs m v c e s=some r:=by
 induction rL with
 |refl=>exact h
 |step _ ih=>grind[c6w]
variable{fs:FuncId->Option U4}
def Ev(fs:FuncId->Option U4)(f:FuncId)(args:List D)(s:k4)(d:D)(s':k4):Prop:=∃n,a84 fs n f args s=some (d,s')
def WP(fs:FuncId->Option U4)(vars:List Nat)(c:a1w)(env:k6)(s:k4)(Q:a1G->k6->k4->Prop):Prop:=∃n e iO s',a0q fs n vars c env s=some (e,iO,s')/\Q e iO s'
def WO(fs:FuncId->Option U4)(af:List (Nat×Nat))(ops:List (Nat×a0f))(tr:List Tr)(env:k6)(s:k4)(Q:k6->k4->Prop):Prop :=
 ∃n iO s',a1z (a2H fs (a0q fs n)) af ops tr env s=some (iO,s')/\Q iO s'
theorem b8X{vars env s Q}(h:Q .normal env s):WP fs vars .skip env s Q:=⟨1,_,_,_,rfl,h⟩
variable{Q:a1G->k6->k4->Prop}
theorem b7W{vars env s id}(h:Q (.exit id) env s):WP fs vars (.exit id) env s Q:=⟨1,_,_,_,rfl,h⟩
theorem b8e{vars env s}(h:Q .ret env s):WP fs vars .ret env s Q:=⟨1,_,_,_,rfl,h⟩
theorem b4k{vars r env s Q}(h:WO fs r.af r.ops [] env s λiO s'=>Q .normal (iO.aG vars) s'):WP fs vars (.region r) env s Q:=by
 obtain⟨n,iO,s',h1,h2⟩:=h;exact⟨n+1,_,_,_,by rw[a0q,h1],h2⟩
def a2w(fs:FuncId->Option U4)(vars:List Nat)(b:a1w)(Q:a1G->k6->k4->Prop):a1G->k6->k4->Prop
 |.normal,env,s=>WP fs vars b env s Q
 |e,env,s=>Q e env s
theorem b98{vars a b env s Q}(h:WP fs vars a env s (a2w fs vars b Q)):WP fs vars (.seq a b) env s Q:=by
 obtain⟨n,e,iO,s',h1,h2⟩:=h;cases e with
 |normal =>
  obtain⟨m,e2,env2,s2,h3,h4⟩:=h2;exact⟨max n m+1,e2,env2,s2,by grind[a0q,a8J,Nat.le_max_right],h4⟩
 |exit id=>exact⟨n+1,_,_,_,by rw[a0q,h1],h2⟩
 |ret=>exact⟨n+1,_,_,_,by rw[a0q,h1],h2⟩
theorem c3L{vars c x y env s Q}(b:Bool)(hc:env.ev c=.bool b)(h:WP fs vars (if b then x else y) env s Q):WP fs vars (.cond c x y) env s Q:=by
 obtain⟨n,e,iO,s',h1,h2⟩:=h;refine⟨n+1,e,iO,s',?_,h2⟩;grind[a0q]
def a0u(id:Nat)(Q:a1G->k6->k4->Prop):a1G->k6->k4->Prop
 |.exit jl,env,s=>if jl=id then Q .normal env s else Q (.exit jl) env s
 |e,env,s=>Q e env s
theorem c06{vars id b env s Q}(h:WP fs vars b env s (a0u id Q)):WP fs vars (.block id b) env s Q:=by
 obtain⟨n,e,iO,s',h1,h2⟩:=h;cases e with
 |normal=>exact⟨n+1,_,_,_,by rw[a0q,h1],h2⟩
 |ret=>exact⟨n+1,_,_,_,by rw[a0q,h1],h2⟩
 |exit i =>
  simp only[a0u]at h2;by_cases hi:i=id
  .rw[Fk hi]at h2
   exact⟨n+1,_,_,_,by simp_all[a0q],h2⟩
  .rw[so hi]at h2
   exact⟨n+1,_,_,_,by simp_all[a0q],h2⟩
theorem b4K{vars b env s Q}(h:WP fs vars b env s (a2w fs vars (.loop b) Q)):WP fs vars (.loop b) env s Q:=by
 obtain⟨n,e,iO,s',h1,h2⟩:=h;cases e with
 |normal =>
  obtain⟨m,e2,env2,s2,h3,h4⟩:=h2;exact⟨max n m+1,e2,env2,s2,by grind[a0q,a8J,Nat.le_max_right],h4⟩
 |exit id=>exact⟨n+1,_,_,_,by rw[a0q,h1],h2⟩
 |ret=>exact⟨n+1,_,_,_,by rw[a0q,h1],h2⟩
theorem WP.mono{vars c env s}{Q':a1G->k6->k4->Prop}(h:WP fs vars c env s Q)(hq:∀e iO s',Q e iO s'->Q' e iO s'):WP fs vars c env s Q':=by
 obtain⟨n,e,iO,s',h1,h2⟩:=h;exact⟨n,e,iO,s',h1,hq _ _ _ h2⟩
theorem a1l{vars b Q}(I:Nat->k6->k4->Prop) (step:∀n env s,I n env s->WP fs vars b env s λe iO s'=>match e with
 |.normal=>∃m,m<n/\I m iO s'
 |e=>Q e iO s'):∀n env s,I n env s->WP fs vars (.loop b) env s Q:=by
 intro n;induction n using Nat.strongRecOn with
 |_ n ih =>
  intro env s h;refine b4K ((step n env s h).mono λe iO s' hq=>?_);cases e with
  |normal=>obtain⟨m,hm,hi⟩:=hq;exact ih m hm iO s' hi
  |exit id=>exact hq
  |ret=>exact hq
theorem c03{af tr env s Q}(h:Q env s):WO fs af [] tr env s Q:=⟨0,_,_,rfl,h⟩
theorem b88{af i o rest tr env s Q}(hw:a2v env o.guard=some false)(h:WO fs af rest tr (env.put o.dst (.aT [])) s Q):WO fs af ((i,o)::rest) tr env s Q:=by
 obtain⟨n,iO,s',h1,h2⟩:=h;exact⟨n,iO,s',by grind[a1z],h2⟩
def a40(tr:List Tr):Prop:=∀t∈tr,t.pre=t.post
theorem b9o(s:k4)(r:Option Nat):a2s s s r=true:=by
 cases r with
 |none=>rfl
 |some id=>simp[a2s,b1i]
theorem a7U{af:List (Nat×Nat)}{j:Tr}(hj:j.pre=j.post):∀{tr:List Tr},a40 tr->a1D af j tr=true
 |[],_=>rfl
 |i::r,h=>by
  have hi:=h i sJ;simp only[a1D,hj,hi,b9o,HR,JD,Gd];exact a7U hj λt ht=>h t (by simp[ht])
theorem b2v{j:Tr}:∀{tr:List Tr},a1D [] j tr=true
 |[]=>rfl
 |i::r=>by simp only[a1D,List.contains_nil,Fw,FF,Gd];exact b2v
theorem a9a:a40 []:=by simp[a40]
theorem c6Z{af:List (Nat×Nat)}{tr:List Tr}{t:Tr}(h:a40 tr)(ht:t.pre=t.post):a40 (if af.isEmpty then tr else t::tr):=by
 split
 .exact h
 .intro x hx
  rcases Fi.1 hx with rfl|hx
  .exact ht
  .exact h x hx
def WQ(fs:FuncId->Option U4)(af:List (Nat×Nat))(ops:List (Nat×a0f))(env:k6)(s:k4)(Q:k6->k4->Prop):Prop:=∀tr,a40 tr->WO fs af ops tr env s Q
theorem c5b{vars r env s Q}(h:WQ fs r.af r.ops env s λiO s'=>Q .normal (iO.aG vars) s'):WP fs vars (.region r) env s Q:=b4k (h [] a9a)
theorem b9X{af env s Q}(h:Q env s):WQ fs af [] env s Q:=λ_ _=>c03 h
theorem b9I{af i o rest env s Q}(hw:a2v env o.guard=some false)(h:WQ fs af rest (env.put o.dst (.aT [])) s Q):WQ fs af ((i,o)::rest) env s Q :=
 λtr ht=>b88 hw (h tr ht)
theorem a42{af i o rest tr env s Q}(hw:a2v env o.guard=some true){d s'}(m:Nat)(hr:a0y (a2H fs (a0q fs m)) env s o.op=some (d,s'))(hp:a1D af ⟨i,a1O env o.op,s,s'⟩ tr=true)
 (h:WO fs af rest (if af.isEmpty then tr else⟨i,a1O env o.op,s,s'⟩::tr) (env.put o.dst d) s' Q):WO fs af ((i,o)::rest) tr env s Q:=by
 obtain⟨n,iO,s2,h1,h2⟩:=h;have m1:a1s.le (a2H fs (a0q fs m)) (a2H fs (a0q fs (max m n))):=b0Z λv c e s r h=>a8J (Nat.le_max_left m n) h
 have m2:a1s.le (a2H fs (a0q fs n)) (a2H fs (a0q fs (max m n))):=b0Z λv c e s r h=>a8J (Nat.le_max_right m n) h
 refine⟨max m n,iO,s2,?_,h2⟩;simp only[a1z,hw,b8S m1 hr,hp,FG];exact b2f m2 h1
theorem b0l{af i o rest env s Q}(hw:a2v env o.guard=some true){d}(m:Nat)(hr:a0y (a2H fs (a0q fs m)) env s o.op=some (d,s))
 (h:WQ fs af rest (env.put o.dst d) s Q):WQ fs af ((i,o)::rest) env s Q :=
 λtr ht=>a42 hw m hr (a7U rfl ht) (h _ (c6Z ht rfl))
theorem c2q{vars ops af dr env s Q}(h:WQ fs af ops env s λiO s'=>Q .normal (iO.aG vars) s'):WP fs vars (.region ⟨ops,af,dr⟩) env s Q:=c5b h
variable{env:k6}{d:D}
theorem b1U{af i t o rest s Q}(hr:bY env o=some d)(h:WQ fs af rest ((t,d)::env) s Q):WQ fs af ((i,⟨some t,.p o,none⟩)::rest) env s Q :=
 b0l rfl 0 (by grind[a0y]) h
theorem vq_r{af i t o rest s Q}(hr:dE env s.get o=some d)(h:WQ fs af rest ((t,d)::env) s Q):WQ fs af ((i,⟨some t,.r o,none⟩)::rest) env s Q :=
 b0l rfl 0 (by grind[a0y]) h
theorem vq_yes{af i t o r b rest s Q}(hw:env.get r=.bool b)(h:WQ fs af ((i,⟨t,o,none⟩)::rest) env s Q):WQ fs af ((i,⟨t,o,some (r,b)⟩)::rest) env s Q:=by
 intro tr ht;obtain⟨n,iO,s',h1,h2⟩:=h tr ht;refine⟨n,iO,s',?_,h2⟩;simp_all[a1z,a2v]
theorem vq_not{af i t o r b rest s Q}(hw:env.get r=.bool (!b))(h:WQ fs af rest (env.put t (.aT [])) s Q):WQ fs af ((i,⟨t,o,some (r,b)⟩)::rest) env s Q :=
 b9I (by simp_all[a2v]) h
theorem vq_tup{af i t o r b rest s Q}(hw:env.get r=.aT [])(h:WQ fs af rest (env.put t (.aT [])) s Q):WQ fs af ((i,⟨t,o,some (r,b)⟩)::rest) env s Q :=
 b9I (by grind[a2v]) h
theorem c4P{af i t f args rest s Q}(hr:Ev fs f (env.aR args) s d s)
 (h:WQ fs af rest ((t,d)::env) s Q):WQ fs af ((i,⟨some t,.m (.call .raw (.aL (.fn f [])) args),none⟩)::rest) env s Q:=by
 obtain⟨n,hn⟩:=hr;exact b0l rfl n (by simp only[a0y,cO,a3c,k6.ev,Fl];exact hn) h
variable{f:FuncId}
theorem c3v{af i t fo args rest s Q}{iX:List D}(hf:env.ev fo=.fn f iX)(hr:Ev fs f (env.aR args++iX) s d s)
 (h:WQ fs af rest ((t,d)::env) s Q):WQ fs af ((i,⟨some t,.m (.call .raw fo args),none⟩)::rest) env s Q:=by
 obtain⟨n,hn⟩:=hr;exact b0l rfl n (by simp only[a0y,cO,a3c,hf];exact hn) h
variable{s1:k4}
theorem b7n{af i t f args rest s Q}{mD:List D}{r:D}(ha:X8 (aK s.get 20) (env.aR args)=some mD)
 (hr:Ev fs f mD k4.empty r s1)(hi:aK s1.get 20 r=some d)(hs:(a2B d||aM (env.aR args))=true)
 (h:WQ fs af rest ((t,d)::env) s Q):WQ fs af ((i,⟨some t,.m (.call .gu (.aL (.fn f [])) args),none⟩)::rest) env s Q:=by
 obtain⟨n,hn⟩:=hr;refine b0l rfl n ?_ h;have mz:a2H fs (a0q fs n) f mD k4.empty=some (r,s1):=hn;simp_all[a0y,cO,a3c,k6.ev]
variable{m:a0n}{ob:Z7}
theorem vq_a{i t o rest s Q}(hr:eO env o=some (ob,m))(h:WQ fs [] rest ((t,m.at s.next)::env) (s.push ob) Q):WQ fs [] ((i,⟨some t,.a o,none⟩)::rest) env s Q:=by
 intro tr ht;refine a42 rfl 0 (d:=m.at s.next) (s':=s.push ob) (by grind[a0y]) ?_ (h tr ht);exact b2v
variable{id:Nat}
theorem b12{i n a v rest s Q}(hr:ei env s.get n a v=some (id,ob))(h:WQ fs [] rest env (s.set id (some ob)) Q):WQ fs [] ((i,⟨none,.w n a v,none⟩)::rest) env s Q:=by
 intro tr ht;refine a42 rfl 0 (d:=.aT []) (s':=s.set id (some ob)) (by grind[a0y]) ?_ (h tr ht);exact b2v
variable{s':k4}
theorem b2o{i t o rest s Q}(hr:∃n,cO (a2H fs (a0q fs n)) env s o=some (d,s'))(h:WQ fs [] rest ((t,d)::env) s' Q):WQ fs [] ((i,⟨some t,.m o,none⟩)::rest) env s Q:=by
 intro tr ht;obtain⟨n,hn⟩:=hr;refine a42 rfl n (d:=d) (s':=s') (by assumption) ?_ (h tr ht);exact b2v
theorem c5v{i t f args rest s Q}(hr:Ev fs f (env.aR args) s d s')
 (h:WQ fs [] rest ((t,d)::env) s' Q):WQ fs [] ((i,⟨some t,.m (.call .raw (.aL (.fn f [])) args),none⟩)::rest) env s Q:=by
 obtain⟨n,hn⟩:=hr;exact b2o ⟨n,by simp only[cO,a3c,k6.ev,Fl];exact hn⟩ h
theorem b3x{i t sz bytes a x rest s Q}(hr:a0e sz bytes (env.ev a) (env.ev x) s=some (d,s'))
 (h:WQ fs [] rest ((t,d)::env) s' Q):WQ fs [] ((i,⟨some t,.m (.append sz bytes a x),none⟩)::rest) env s Q :=
 b2o ⟨0,by assumption⟩ h
theorem b4p{i t sz bytes a x rest s Q}{da dx:D}(ha:env.ev a=da)(hx:env.ev x=dx)(hr:a0e sz bytes da dx s=some (d,s'))
 (h:WQ fs [] rest ((t,d)::env) s' Q):WQ fs [] ((i,⟨some t,.m (.append sz bytes a x),none⟩)::rest) env s Q :=
 b3x (by grind) h
variable{l:List D}
theorem c3r{af i t f args rest s Q}(ha:env.aR args=l)(hr:Ev fs f l s d s)
 (h:WQ fs af rest ((t,d)::env) s Q):WQ fs af ((i,⟨some t,.m (.call .raw (.aL (.fn f [])) args),none⟩)::rest) env s Q:=c4P (ha▸hr) h
theorem a5Y{af i t f args rest s Q}{l':List D}{r:D}(hl:env.aR args=l)(ha:X8 (aK s.get 20) l=some l')
 (hr:Ev fs f l' k4.empty r s1)(hi:aK s1.get 20 r=some d)(hs:(a2B d||aM l)=true)
 (h:WQ fs af rest ((t,d)::env) s Q):WQ fs af ((i,⟨some t,.m (.call .gu (.aL (.fn f [])) args),none⟩)::rest) env s Q :=
 b7n (hl▸ha) hr hi (hl▸hs) h
def Way(d:D)(b:Bool)(A B:Prop):Prop:=match d with
 |.bool c=>if c=b then A else B
 |.aT []=>B
 |_=>False
theorem vq_g{af i t o r b rest s Q}(hw:env.get r=d)
 (h:Way d b (WQ fs af ((i,⟨t,o,none⟩)::rest) env s Q) (WQ fs af rest (env.put t (.aT [])) s Q)):WQ fs af ((i,⟨t,o,some (r,b)⟩)::rest) env s Q:=by
 unfold Way at h;split at h
 .rename_i c
  by_cases hc:c=b
  .rw[Fk hc]at h;subst hc;exact vq_yes hw h
  .rw[so hc]at h
   exact vq_not (by rw[hw];congr 1;cases c<;>cases b<;>simp_all) h
 .exact vq_tup hw h
 .exact h.elim
def a5I(d:D)(A B:Prop):Prop:=match d with
 |.bool c=>if c then A else B
 |_=>False
variable{A B:Prop}
theorem wayc_f(h:B):a5I (.bool false) A B:=by
 assumption
theorem b6J{vars c x y env s Q}(hc:env.ev c=d)(h:a5I d (WP fs vars x env s Q) (WP fs vars y env s Q)):WP fs vars (.cond c x y) env s Q:=by
 unfold a5I at h;split at h
 .rename_i b
  refine c3L b hc ?_;cases b<;>exact h
 .exact h.elim
theorem b7O{af:List (Nat×Nat)}{j:Tr}(hp:(af.all λp=>p.2 != j.idx)=true):∀{tr:List Tr},a1D af j tr=true
 |[]=>rfl
 |i::r=>by
  have hc:af.contains (i.idx,j.idx)=false:=by grind
  simp only[a1D,hc,Fw,FF,Gd];exact b7O hp
theorem a73{C:a1s}{af:List (Nat×Nat)}:∀{ops:List (Nat×a0f)}{tr tr':List Tr}{env:k6}{s:k4}{r:k6×k4},(ops.all λo=>af.all λp=>p.2 != o.1)=true ->
 a1z C [] ops tr' env s=some r->a1z C af ops tr env s=some r
 |[],_,_,_,_,_,_,e=>by assumption
 |(i,o)::rest,tr,tr',env,s,r,hp,e=>by
  simp only[HH,Fo]at hp;simp only[a1z]at e⊢;split at e
  .cases e
  .rename_i hw
   try simp only[hw]
   exact a73 hp.2 e
  .rename_i hw
   try simp only[hw]
   split at e
   .cases e
   .rename_i d s' hr
    try simp only[hr]
    split at e
    .rw[Fk (b7O hp.1)]
     exact a73 hp.2 e
    .cases e
theorem c4W{af ops env s Q}(hp:(ops.all λo=>af.all λp=>p.2 != o.1)=true)(h:WQ fs [] ops env s Q):WQ fs af ops env s Q:=by
 intro tr _;obtain⟨n,iO,s',h1,h2⟩:=h [] a9a;exact⟨n,iO,s',a73 hp h1,h2⟩
theorem b29{p af ops env s Q}(hp:(ops.all λo=>(p::af).all λp=>p.2 != o.1)=true)(h:WQ fs [] ops env s Q):WQ fs (p::af) ops env s Q:=c4W hp h
variable{vf:U4}{args:List D}
theorem b0p{s:k4}(hf:fs f=some vf)(h:WP fs vf.vars vf.code (vf.vars.map λt=>(t,args.getD t .undef)) s λe env s2=>(e=.normal\/e=.ret)/\s2=s'/\a03 env s2 vf.res=some d):Ev fs f args s d s':=by
 obtain⟨n,e,env,s2,h1,he,rfl,h2⟩:=h;refine⟨n,?_⟩;unfold a84 a2H;grind
def Y4(fs:FuncId->Option U4)(f:FuncId)(args:List D)(s:k4)(P:D->k4->Prop):Prop:=∃d s',Ev fs f args s d s'/\P d s'
variable{P:D->k4->Prop}
theorem W4{s:k4}(hf:fs f=some vf)(h:WP fs vf.vars vf.code (vf.vars.map λt=>(t,args.getD t .undef)) s λe env s2=>(e=.normal\/e=.ret)/\∃d,a03 env s2 vf.res=some d/\P d s2):Y4 fs f args s P:=by
 obtain⟨n,e,env,s2,h1,he,d,h2,h3⟩:=h;exact⟨d,s2,b0p hf ⟨n,e,env,s2,h1,he,rfl,h2⟩,h3⟩
theorem a09{i t f args rest s Q}(hr:Y4 fs f l s P)(ha:env.aR args=l)
 (h:∀d s',P d s'->WQ fs [] rest ((t,d)::env) s' Q):WQ fs [] ((i,⟨some t,.m (.call .raw (.aL (.fn f [])) args),none⟩)::rest) env s Q:=by
 subst ha;obtain⟨d,s',h1,h2⟩:=hr;exact c5v h1 (h d s' h2)
theorem Y4.mono{f args s}{P':D->k4->Prop}(h:Y4 fs f args s P)(hp:∀d s',P d s'->P' d s'):Y4 fs f args s P':=by
 obtain⟨d,s',h1,h2⟩:=h;exact⟨d,s',h1,hp _ _ h2⟩
theorem Ev.det{f args s d s' d2 s2}(h:Ev fs f args s d s')(k:Ev fs f args s d2 s2):d=d2/\s'=s2:=by
 obtain⟨n,hn⟩:=h;obtain⟨m,hm⟩:=k;have a1:=b0Z (fs:=fs) (λv c e s r h=>a8J (Nat.le_max_left n m) h) _ _ _ _ hn;have a2:=b0Z (fs:=fs) (λv c e s r h=>a8J (Nat.le_max_right n m) h) _ _ _ _ hm;grind
def bF(g:a0v)(n:Option Nat):D->Option D
 |.ptr id off=>match g id with
  |some (.cells cs)=>a2V n off cs
  |_=>none
 |.fp cs off=>a2V n off cs
 |_=>none
variable{n:Option Nat}{g:a0v}
theorem b0u{x:Z1}:dE env g (.load n x)=bF g n (env.ev x):=by
 simp only[dE];cases env.ev x<;>rfl
theorem ld_ptr{id off:Nat}:bF g n (.ptr id off)=(match g id with|some (.cells cs)=>a2V n off cs|_=>none):=rfl
theorem ld_fp{off:Nat}{cs:List D}:bF g n (.fp cs off)=a2V n off cs:=rfl
variable{n:Int}{k:IntKind}
theorem c2P:V5 (.int k n)=true:=rfl
theorem c9D:cellsOf (.int k n)=[.int k n]:=rfl
variable{b:Bool}
theorem c7R:V5 (.bool b)=true:=rfl
theorem c7i:cellsOf (.bool b)=[.bool b]:=rfl
variable{t:ByteArray}
theorem c7q:V5 (.str t)=true:=rfl
theorem c6h:cellsOf (.str t)=[.str t]:=rfl
theorem c7N:V5 .bG=true:=rfl
theorem c7m:cellsOf .bG=[.bG]:=rfl
variable{i o:Nat}
theorem c2B:V5 (.ptr i o)=true:=rfl
theorem c59:cellsOf (.ptr i o)=[.ptr i o]:=rfl
theorem one_fp:V5 (.fp l o)=true:=rfl
theorem c2D:cellsOf (.fp l o)=[.fp l o]:=rfl
theorem c8m:V5 .ag=true:=rfl
theorem c7Z:cellsOf .ag=[.ag]:=rfl
theorem c8g{ll:List (List D)}:V5 (.bu o ll)=true:=rfl
theorem c7G{ll:List (List D)}:cellsOf (.bu o ll)=[.bu o ll]:=rfl
variable{p q:Nat}
theorem c4B:V5 (.arr i o p q)=true:=rfl
theorem c5o:cellsOf (.arr i o p q)=[.arr i o p q]:=rfl
theorem one_fn:V5 (.fn f l)=true:=rfl
theorem c5n:cellsOf (.fn f l)=[.fn f l]:=rfl
theorem c5L:V5 .bR=true:=rfl
theorem c5I:cellsOf .bR=[.bR]:=rfl
theorem c74:V5 .bS=true:=rfl
theorem c55:cellsOf .bS=[.bS]:=rfl
theorem c2u:V5 (.map i)=true:=rfl
theorem c5l:cellsOf (.map i)=[.map i]:=rfl
theorem c7w:V5 (.agg l)=false:=rfl
theorem c6l:cellsOf (.agg l)=l:=rfl
theorem b8L(h:V5 d=true):cellsOf d=[d]:=by cases d<;>first|rfl|grind[V5]
theorem c7V:a0x false .ag=some (.int .i64 0):=rfl
theorem c8S{ll:List (List D)}:a0x false (.bu o ll)=some (.int .i64 (ll.length:Int)):=rfl
theorem c3E:a0x false (.arr i o p q)=some (.int .i64 (p:Int)):=rfl
theorem c8O:a0x true (.str t)=some (.int .i64 (t.size:Int)):=rfl
theorem nil_0:a4n .p .bG=some true:=rfl
theorem nil_1:a4n .p (.ptr i o)=some false:=rfl
theorem nil_2:a4n .p (.fp l o)=some false:=rfl
theorem nil_3:a4n .s .ag=some true:=rfl
theorem nil_4{ll:List (List D)}:a4n .s (.bu o ll)=some false:=rfl
theorem nil_5:a4n .s (.arr i o p q)=some false:=rfl
theorem nil_6:a4n .m .bS=some true:=rfl
theorem nil_7:a4n .m (.map i)=some false:=rfl
theorem nil_8:a4n .f .bR=some true:=rfl
theorem nil_9:a4n .f (.fn f l)=some false:=rfl
theorem mm_min{k':IntKind}{a b:Int}:a6T false (.int k a) [.int k' b]=some (.int k (min a b)):=by
 simp only[a6T];grind
theorem mm_max{k':IntKind}{a b:Int}:a6T true (.int k a) [.int k' b]=some (.int k (max a b)):=by
 simp only[a6T];grind
theorem c5Z{a b:Nat}:((a:Int)==(b:Int))=decide (a=b):=by grind
theorem c2J{a:Nat}:((a:Int)==0)=decide (a=0):=by grind
theorem c7T{a:Nat}:((a:Int)==1)=decide (a=1):=by grind
theorem c7U{i o p q z:Nat}(h0:q=z)(h1:0<=n)(h2:n<p):W7 z (.arr i o p q) (.int k n)=some (.ptr i (o+n.toNat*z)):=by
 simp_all[W7]
def a8G(k:IntKind)(x y:Int):Int:=(BitVec.ofInt k.bits x &&& BitVec.ofInt k.bits y).toNat
def orI(k:IntKind)(x y:Int):Int:=(BitVec.ofInt k.bits x ||| BitVec.ofInt k.bits y).toNat
def xorI(k:IntKind)(x y:Int):Int:=(BitVec.ofInt k.bits x ^^^ BitVec.ofInt k.bits y).toNat
def b0r(k:IntKind)(x y:Int):Int:=(BitVec.ofInt k.bits x &&& ~~~ BitVec.ofInt k.bits y).toNat
variable{x y:Int}
theorem bi_add:a3K .add k x y=some (.int k (k.wrap (x+y))):=rfl
theorem bi_sub:a3K .sub k x y=some (.int k (k.wrap (x-y))):=rfl
theorem bi_mul:a3K .mul k x y=some (.int k (k.wrap (x*y))):=rfl
theorem bi_quo:a3K .quo k x y=if y=0 then none else some (.int k (k.wrap (x.tdiv y))):=rfl
theorem bi_rem:a3K .rem k x y=if y=0 then none else some (.int k (x.tmod y)):=rfl
theorem bi_and:a3K .and k x y=some (.int k (k.wrap (a8G k x y))):=rfl
theorem bi_or:a3K .or k x y=some (.int k (k.wrap (orI k x y))):=rfl
theorem bi_xor:a3K .xor k x y=some (.int k (k.wrap (xorI k x y))):=rfl
theorem bi_clr:a3K .andNot k x y=some (.int k (k.wrap (b0r k x y))):=rfl
theorem bi_eql:a3K .eql k x y=some (.bool (x==y)):=rfl
theorem bi_neq:a3K .neq k x y=some (.bool (x != y)):=rfl
theorem bi_lss:a3K .lss k x y=some (.bool (x<y)):=rfl
theorem bi_leq:a3K .leq k x y=some (.bool (x<=y)):=rfl
theorem bi_gtr:a3K .gtr k x y=some (.bool (x>y)):=rfl
theorem bi_geq:a3K .geq k x y=some (.bool (x >= y)):=rfl
attribute [go_sem] bY b0u dE.eq_2 dE.eq_3 ld_ptr b0K ld_fp c2P c9D c7R c7i c7q c6h c7N c7m c2B c59 one_fp c2D c8m c7Z c8g c7G c4B c5o one_fn c5n c5L c5I c74 c55 c2u c5l c7w c6l b8L c7V c8S c3E c8O nil_0 nil_1 nil_2 nil_3 nil_4 nil_5 nil_6 nil_7 nil_8 nil_9 eO ei k6.aR k6.evO b13 bi_add bi_sub bi_mul bi_quo bi_rem bi_and bi_or bi_xor bi_clr bi_eql bi_neq bi_lss bi_leq bi_gtr bi_geq unV a2V c7U a3y a2m mm_min mm_max c5Z c2J c7T a2v a5z a5Z a3l a0n.at Option.map_some Option.map List.getElem?_cons_zero List.getElem?_cons_succ List.getElem?_nil List.all_cons List.all_nil List.length_cons List.length_nil List.take List.drop List.map List.append List.cons_append List.nil_append List.append_nil Nat.zero_add Nat.add_zero Nat.zero_mul Nat.mul_one Int.toNat_natCast decide_true decide_false Bool.not_true Bool.not_false Bool.and_true Bool.true_and Bool.and_self and_self and_true true_and Bool.false_eq_true ge_iff_le gt_iff_lt beq_self_eq_true Nat.zero_le Nat.le_refl Nat.lt_irrefl k4.aj k4.au
attribute [go_sem] Nat.reduceEqDiff Nat.reduceAdd Nat.reduceMul Nat.reduceLeDiff reduceCtorEq Int.reduceEq Int.reduceLT Int.reduceLE Int.reduceAdd Int.reduceSub Int.reduceMul Int.reduceNeg Int.reduceToNat Int.reduceBEq Int.reduceBNe
theorem vA{vars a b env s Q}(h:WP fs vars a env s (a2w fs vars b Q)):WP fs vars (.seq a b) env s Q:=b98 h
theorem vB{vars id b env s Q}(h:WP fs vars b env s (a0u id Q)):WP fs vars (.block id b) env s Q:=c06 h
theorem vC{vars ops af dr env s Q}(h:WQ fs af ops env s λiO s'=>Q .normal (iO.aG vars) s'):WP fs vars (.region ⟨ops,af,dr⟩) env s Q:=c2q h
theorem vD{p af ops env s Q}(hp:(ops.all λo=>(p::af).all λp=>p.2 != o.1)=true)(h:WQ fs [] ops env s Q):WQ fs (p::af) ops env s Q:=b29 hp h
theorem vE{af env s Q}(h:Q env s):WQ fs af [] env s Q:=b9X h
theorem vF{vars env s Q}(h:Q .normal env s):WP fs vars .skip env s Q:=b8X h
theorem vG{vars env s id}(h:Q (.exit id) env s):WP fs vars (.exit id) env s Q:=b7W h
theorem vH{vars env s}(h:Q .ret env s):WP fs vars .ret env s Q:=b8e h
theorem vI{af i t o rest s Q}(hr:bY env o=some d)(h:WQ fs af rest ((t,d)::env) s Q):WQ fs af ((i,⟨some t,.p o,none⟩)::rest) env s Q:=b1U hr h
theorem vJ{af i t o rest s Q}(hr:dE env s.get o=some d)(h:WQ fs af rest ((t,d)::env) s Q):WQ fs af ((i,⟨some t,.r o,none⟩)::rest) env s Q:=vq_r hr h
theorem vK{i t o rest s Q}(hr:eO env o=some (ob,m))(h:WQ fs [] rest ((t,m.at s.next)::env) (s.push ob) Q):WQ fs [] ((i,⟨some t,.a o,none⟩)::rest) env s Q:=vq_a hr h
theorem vL{i n a v rest s Q}(hr:ei env s.get n a v=some (id,ob))(h:WQ fs [] rest env (s.set id (some ob)) Q):WQ fs [] ((i,⟨none,.w n a v,none⟩)::rest) env s Q:=b12 hr h
theorem vM{af i t o r b rest s Q}(hw:env.get r=d)
 (h:Way d b (WQ fs af ((i,⟨t,o,none⟩)::rest) env s Q) (WQ fs af rest (env.put t (.aT [])) s Q)):WQ fs af ((i,⟨t,o,some (r,b)⟩)::rest) env s Q:=vq_g hw h
theorem vN{vars c x y env s Q}(hc:env.ev c=d)(h:a5I d (WP fs vars x env s Q) (WP fs vars y env s Q)):WP fs vars (.cond c x y) env s Q:=b6J hc h
theorem vO(h:A):Way (.bool true) true A B:=h
theorem vP(h:A):Way (.bool false) false A B:=h
theorem vQ(h:A):a5I (.bool true) A B:=h
theorem vR(h:B):a5I (.bool false) A B:=wayc_f h
theorem vS(h:B):Way (.bool true) false A B:=h
theorem vT(h:B):Way (.bool false) true A B:=h
theorem vU(h:B):Way (.aT []) b A B:=h
theorem aN{a b:Prop}(x:a)(y:b):a/\b:=⟨x,y⟩
variable{a0 a1 a2:Prop}
theorem V4(x0:a0)(x1:a1)(x2:a2):a0/\a1/\a2:=⟨x0,x1,x2⟩
variable{a3:Prop}
theorem V1(x0:a0)(x1:a1)(x2:a2)(x3:a3):a0/\a1/\a2/\a3:=⟨x0,x1,x2,x3⟩
variable{a4:Prop}
theorem W0(x0:a0)(x1:a1)(x2:a2)(x3:a3)(x4:a4):a0/\a1/\a2/\a3/\a4:=⟨x0,x1,x2,x3,x4⟩
theorem X4{a5:Prop}(x0:a0)(x1:a1)(x2:a2)(x3:a3)(x4:a4)(x5:a5):a0/\a1/\a2/\a3/\a4/\a5:=⟨x0,x1,x2,x3,x4,x5⟩
theorem X0{a5 a6:Prop}(x0:a0)(x1:a1)(x2:a2)(x3:a3)(x4:a4)(x5:a5)(x6:a6):a0/\a1/\a2/\a3/\a4/\a5/\a6:=⟨x0,x1,x2,x3,x4,x5,x6⟩
theorem U0{a5 a6 a7:Prop}(x0:a0)(x1:a1)(x2:a2)(x3:a3)(x4:a4)(x5:a5)(x6:a6)(x7:a7):a0/\a1/\a2/\a3/\a4/\a5/\a6/\a7:=⟨x0,x1,x2,x3,x4,x5,x6,x7⟩
variable{Q P:Prop}
theorem cR(k:Q) (h:Q->P:=by
 intro k
 (first|(with_reducible first|apply vA|apply vB|apply vC)|((with_reducible apply vD);(focus rfl))|((with_reducible first|apply vE|apply vF|apply vG|apply vH);simp only[k6.aG,k6.get,k6.ev,List.map,Nat.reduceEqDiff,↓reduceIte,a2w,a0u])|((with_reducible first|apply vI|apply vJ|apply vK|apply vL|apply vM|apply vN);(focus(simp(disch:=(first|with_reducible assumption|omega|((repeat(first|rw[nP]|rw[nS]))<;>omega)|fail)) only[go_sem,k6.ev,k6.get,↓reduceIte]<;>rfl));(first|(with_reducible (first|apply vO|apply vP|apply vQ|apply vR|apply vS|apply vT|apply vU);try simp only[k6.put])|with_reducible refine(?_:WQ _ _ _ _ _ _))))
 repeat(first|(with_reducible first|apply vA|apply vB|apply vC)|((with_reducible apply vD);(focus rfl))|((with_reducible first|apply vE|apply vF|apply vG|apply vH);simp only[k6.aG,k6.get,k6.ev,List.map,Nat.reduceEqDiff,↓reduceIte,a2w,a0u])|((with_reducible first|apply vI|apply vJ|apply vK|apply vL|apply vM|apply vN);(focus(simp(disch:=(first|with_reducible assumption|omega|((repeat(first|rw[nP]|rw[nS]))<;>omega)|fail)) only[go_sem,k6.ev,k6.get,↓reduceIte]<;>rfl));(first|(with_reducible (first|apply vO|apply vP|apply vQ|apply vR|apply vS|apply vT|apply vU);try simp only[k6.put])|with_reducible refine(?_:WQ _ _ _ _ _ _))))
 exact k):P:=h k
theorem zW{F:Prop}(f:F)(k:Q) (h:F->Q->P:=by
 intro f k
 (first|(with_reducible first|apply vA|apply vB|apply vC)|((with_reducible apply vD);(focus rfl))|((with_reducible first|apply vE|apply vF|apply vG|apply vH);simp only[k6.aG,k6.get,k6.ev,List.map,Nat.reduceEqDiff,↓reduceIte,a2w,a0u])|((with_reducible first|apply vI|apply vJ|apply vK|apply vL|apply vM|apply vN);(focus(simp(disch:=(first|with_reducible assumption|omega|((repeat(first|rw[nP]|rw[nS]))<;>omega)|fail)) only[go_sem,k6.ev,k6.get,↓reduceIte,f]<;>rfl));(first|(with_reducible (first|apply vO|apply vP|apply vQ|apply vR|apply vS|apply vT|apply vU);try simp only[k6.put])|with_reducible refine(?_:WQ _ _ _ _ _ _))))
 repeat(first|(with_reducible first|apply vA|apply vB|apply vC)|((with_reducible apply vD);(focus rfl))|((with_reducible first|apply vE|apply vF|apply vG|apply vH);simp only[k6.aG,k6.get,k6.ev,List.map,Nat.reduceEqDiff,↓reduceIte,a2w,a0u])|((with_reducible first|apply vI|apply vJ|apply vK|apply vL|apply vM|apply vN);(focus(simp(disch:=(first|with_reducible assumption|omega|((repeat(first|rw[nP]|rw[nS]))<;>omega)|fail)) only[go_sem,k6.ev,k6.get,↓reduceIte,f]<;>rfl));(first|(with_reducible (first|apply vO|apply vP|apply vQ|apply vR|apply vS|apply vT|apply vU);try simp only[k6.put])|with_reducible refine(?_:WQ _ _ _ _ _ _))))
 exact k):P:=h f k
theorem rR(h:P:=by simp only[a03,a08,a1t,k6.get,Nat.reduceEqDiff,↓reduceIte]<;>rfl):P:=h
theorem rG{F:Prop}(f:F)(h:F->P:=by intro f;simp only[k6.get,Nat.reduceEqDiff,↓reduceIte,f,HN]):P:=h f
theorem nP(s:k4)(o:Z7):(s.push o).next=s.next+1:=rfl
theorem nS(s:k4)(i:Nat)(o:Option Z7):(s.set i o).next=s.next:=rfl
def xq(i t:Nat)(o:gw):Nat×a0f:=(i,⟨some t,.p o,none⟩)
def xg(i t:Nat)(o:gw)(g:Nat)(b:Bool):Nat×a0f:=(i,⟨some t,.p o,some (g,b)⟩)
def xm(i t x:Nat):Nat×a0f:=(i,⟨some t,.p (.mov (.tmp x)),none⟩)
def xmg(i t x g:Nat)(b:Bool):Nat×a0f:=(i,⟨some t,.p (.mov (.tmp x)),some (g,b)⟩)
def xc(i t:Nat)(d:D):Nat×a0f:=(i,⟨some t,.p (.mov (.aL d)),none⟩)
def xl(i t:Nat)(n:Option Nat)(x:Nat):Nat×a0f:=(i,⟨some t,.r (.load n (.tmp x)),none⟩)
def xlg(i t:Nat)(n:Option Nat)(x g:Nat)(b:Bool):Nat×a0f:=(i,⟨some t,.r (.load n (.tmp x)),some (g,b)⟩)
def xf(i t off x:Nat):Nat×a0f:=(i,⟨some t,.p (.cT off (.tmp x)),none⟩)
def xfg(i t off x g:Nat)(b:Bool):Nat×a0f:=(i,⟨some t,.p (.cT off (.tmp x)),some (g,b)⟩)
def xw(i n a:Nat)(v:Z1):Nat×a0f:=(i,⟨none,.w n (.tmp a) v,none⟩)
def xa(i t:Nat)(o:AOp):Nat×a0f:=(i,⟨some t,.a o,none⟩)
def xk(i t f:Nat)(l:List Z1):Nat×a0f:=(i,⟨some t,.m (.call .raw (.aL (.fn f [])) l),none⟩)
def xi(i t f:Nat)(l:List Z1):Nat×a0f:=(i,⟨some t,.m (.call .gu (.aL (.fn f [])) l),none⟩)
def bt(i t f:Nat)(l:List Z1)(g:Nat)(b:Bool):Nat×a0f:=(i,⟨some t,.m (.call .gu (.aL (.fn f [])) l),some (g,b)⟩)
def xo(i:Nat)(t:Option Nat)(o:fV)(g:Option (Nat×Bool)):Nat×a0f:=(i,⟨t,o,g⟩)
def xr(l:List (Nat×a0f)):a1w:=.region ⟨l,[],false⟩
def xrp(l:List (Nat×a0f))(p:List (Nat×Nat))(b:Bool):a1w:=.region ⟨l,p,b⟩
def bs(l:List Nat):ByteArray:=⟨(l.map UInt8.ofNat).toArray⟩
def xn(n:Int):Z1:=.aL (.int .i64 n)
abbrev U9:=Nat->Nat->List (Nat×a0f)×Nat×Nat
def N8:List Nat->List Nat
 |a::b::l=>List.range' a b++N8 l
 |_=>[]
def N7:Nat->Nat->List U9->List (Nat×a0f)
 |_,_,[]=>[]
 |i,p,f::l=>(f i p).1++N7 (f i p).2.1 (f i p).2.2 l
def j0(x:Nat):Z1:=.tmp x
def t5(a b:a1w):a1w:=.seq a b
def t4(x:Nat)(a b:a1w):a1w:=.cond (.tmp x) a b
def M9:List D:=[.ag,.int .i64 0,.ag,.ag,.ag,.ag,.bool false]
def M8:List D:=[.ag,.ag,.ag,.int .i64 0]
def M7:List D:=[.int .i64 0,.int .i64 0,.int .i64 0,.int .i64 0]
def M6:List D:=[.int .i64 0,.int .i64 0,.int .i64 0,.int .i64 0,.int .i64 0,.int .i64 0,.bool false,.int .i64 0]
def M5:List D:=[.str (bs []),.int .i64 0,.ag,.int .i64 0,.ag,.ag,.ag,.ag]
def M4:List D:=[.int .i64 0,.ag,.ag,.ag,.int .i64 0]
def M3:D:=.bool false
def M1:D:=.bool true
def N9:D:=.int .i64 0
def N6(p:Nat)(l:List U9):a1w:=xr (N7 0 p l)
def N5(p:Nat)(l:List U9)(c:a1w):a1w:=.seq (xr (N7 0 p l)) c
def N4(p:Nat)(l:List U9)(q:List (Nat×Nat))(b:Bool):a1w:=xrp (N7 0 p l) q b
def N3(k v n t u:Nat)(b:a1w):a1w:=.block k (.loop (.seq (xr [xq 0 t (.bin .lss (.tmp v) (.tmp n))]) (.seq (.cond (.tmp t) .skip (.exit k)) (.seq (.block (k+1) b) (xr [xq 0 u (.bin .add (.tmp v) (xn 1)),xm 1 v u])))))
def N2(x:Nat):U9:=λi p=>([xm i (p+1) x],i+1,p+1)
def N1(d:Nat):U9:=λi p=>([xm i d p],i+1,p)
def O9(d x:Nat):U9:=λi p=>([xm i d x],i+1,p)
def O8:U9:=λi p=>([xq i (p+1) (.aV (.tmp p))],i+1,p+1)
def O7(k:Nat):U9:=λi p=>([xf i (p+1) k p],i+1,p+1)
def O6(k x:Nat):U9:=λi p=>([xf i (p+1) k x],i+1,p+1)
def O5:U9:=λi p=>([xl i (p+1) none p],i+1,p+1)
def O4(k:Nat):U9:=λi p=>([xl i (p+1) (some k) p],i+1,p+1)
def O3(x:Nat):U9:=λi p=>([xl i (p+1) none x],i+1,p+1)
def O2(k x:Nat):U9:=λi p=>([xl i (p+1) (some k) x],i+1,p+1)
def O1:U9:=λi p=>([xq i (p+1) (.len false (.tmp p))],i+1,p+1)
def O0(o:gw):U9:=λi p=>([xq i (p+1) o],i+1,p+1)
def P9(k:Nat):U9:=λi p=>([xq i (p+1) (.az k (.tmp (p-1)) (.tmp p))],i+1,p+1)
def P8(k x y:Nat):U9:=λi p=>([xq i (p+1) (.az k (.tmp x) (.tmp y))],i+1,p+1)
def P7(o:BinOp):U9:=λi p=>([xq i (p+1) (.bin o (.tmp (p-1)) (.tmp p))],i+1,p+1)
def P6(o:BinOp)(x y:Nat):U9:=λi p=>([xq i (p+1) (.bin o (.tmp x) (.tmp y))],i+1,p+1)
def P5(o:BinOp)(k:Int):U9:=λi p=>([xq i (p+1) (.bin o (.tmp p) (xn k))],i+1,p+1)
def P4(o:BinOp)(x:Nat)(k:Int):U9:=λi p=>([xq i (p+1) (.bin o (.tmp x) (xn k))],i+1,p+1)
def P3:U9:=λi p=>([xq i (p+1) (.un .not (.tmp p))],i+1,p+1)
def P2(x y:Nat):U9:=λi p=>([xq i (p+1) (.pick (.tmp x) (.tmp y) (.aL (.bool false)))],i+1,p+1)
def P1(x y:Nat):U9:=λi p=>([xq i (p+1) (.pick (.tmp x) (.aL (.bool true)) (.tmp y))],i+1,p+1)
def P0(x k:Nat):U9:=λi p=>([xq i (p+1) (.extract (.tmp x) k)],i+1,p+1)
def Q9(d:D):U9:=λi p=>([xc i (p+1) d],i+1,p+1)
def Q8(t:Nat)(d:D):U9:=λi p=>([xc i t d],i+1,p)
def Q7(o:AOp):U9:=λi p=>([xa i (p+1) o],i+1,p+1)
def Q6(t:Nat)(o:AOp):U9:=λi p=>([xa i t o],i+1,p)
def Q5(x:Nat):U9:=λi p=>([xa i (p+1) (.aD 1 1 [.int .i64 0] [(0,.tmp x)])],i+1,p+1)
def Q4(x:Nat):U9:=λi p=>([xw i 1 p (.tmp x)],i+1,p)
def Q3(k x:Nat)(o:Z1):U9:=λi p=>([xw i k x o],i+1,p)
def Q2(f:Nat)(l:List Z1):U9:=λi p=>([xk i (p+1) f l],i+1,p+1)
def Q1(f:Nat)(l:List Nat):U9:=λi p=>([xk i (p+1) f (l.map .tmp)],i+1,p+1)
def Q0(f:Nat)(l:List Z1):U9:=λi p=>([xi i (p+1) f l],i+1,p+1)
def S9(f:Nat)(l:List Nat):U9:=λi p=>([xi i (p+1) f (l.map .tmp)],i+1,p+1)
def S8(a b x y:Nat):U9:=λi p=>([xo i (.some (p+1)) (.m (.append a b (.tmp x) (.tmp y))) none],i+1,p+1)
def S7(x g:Nat)(b:Bool):U9:=λi p=>([xmg i (p+1) x g b],i+1,p+1)
def S6(k x g:Nat)(b:Bool):U9:=λi p=>([xfg i (p+1) k x g b],i+1,p+1)
def S5(k:Option Nat)(x g:Nat)(b:Bool):U9:=λi p=>([xlg i (p+1) k x g b],i+1,p+1)
def S4(o:gw)(g:Nat)(b:Bool):U9:=λi p=>([xg i (p+1) o g b],i+1,p+1)
def S2(F:Nat->Nat->Nat×a0f):U9:=λi p=>([F i (p+1)],i+1,p+1)
def S1(F:Nat->Nat×a0f):U9:=λi p=>([F i],i+1,p)
def S0(x k:Nat):U9:=λi p=>([xm i (p+1) x,xq (i+1) (p+2) (.aV (.tmp (p+1))),xf (i+2) (p+3) k (p+2),xl (i+3) (p+4) none (p+3)],i+4,p+4)
def T9(x j k:Nat):U9:=λi p=>([xm i (p+1) x,xq (i+1) (p+2) (.aV (.tmp (p+1))),xf (i+2) (p+3) j (p+2),xf (i+3) (p+4) k (p+3),xl (i+4) (p+5) none (p+4)],i+5,p+5)
def T8(k x y:Nat):U9:=λi p=>([xm i (p+1) x,xm (i+1) (p+2) y,xq (i+2) (p+3) (.az k (.tmp (p+1)) (.tmp (p+2))),xl (i+3) (p+4) none (p+3)],i+4,p+4)
def T0(x k:Nat):U9:=λi p=>([xf i (p+1) k x,xl (i+1) (p+2) none (p+1)],i+2,p+2)
theorem zE(k:Q) (h:P=Q:=by
 simp only[xq,xg,xm,xmg,xc,xl,xlg,xf,xfg,xw,xa,xk,xi,bt,xo,xr,xrp,xn,j0,t5,t4,M9,M8,M7,M6,M5,M4,M3,M1,N9,N8,N7,N6,N5,N4,N3,N2,N1,O9,O8,O7,O6,O5,O4,O3,O2,O1,O0,P9,P8,P7,P6,P5,P4,P3,P2,P1,P0,Q9,Q8,Q7,Q6,Q5,Q4,Q3,Q2,Q1,Q0,S9,S8,S7,S6,S5,S4,S2,S1,S0,T9,T8,T0,Fx,Fv,Fl,FJ,HZ,II,List.range'_zero,Nat.reduceAdd,Nat.reduceSub,List.map,List.getD,JE,JF,List.getElem?_nil,Option.getD];exact rfl):P:=h.mpr k
end Go.V
namespace Go.V
abbrev Z2:=List.range
noncomputable def a0Z(P:Program)(l:List Nat)(jM:iw)(vars:List Nat)(fn:Func):U4:=match a62 P (a92 l) jM vars fn with
 |some v=>v
 |none=>⟨[],.skip,[]⟩
variable{P:Program}{jM:iw}{vars:List Nat}{fn:Func}
theorem c52{md:FuncId->a16}{v:U4}(h:a62 P md jM vars fn=some v):v.vars=vars:=by
 unfold a62 at h;split at h
 .cases h
 .split at h
  .split at h
   .cases h
   .cases h;rfl
  .cases h
variable{f:Nat}
theorem okG{l:List Nat}(hf:P.funcs[f]?=some fn)(h:(a62 P (a92 l) jM vars fn).isSome=true:=by kernel_rfl):∃fn' md ann',P.funcs[f]?=some fn'/\a62 P md ann' (a0Z P l jM vars fn).vars fn'=some (a0Z P l jM vars fn):=by
 obtain⟨v,hv⟩:=Jt.1 h;have e:a0Z P l jM vars fn=v:=by unfold a0Z;rw[hv]
 rw[e,c52 hv];exact⟨fn,a92 l,jM,hf,hv⟩
theorem V7{vf:U4}(l:List Nat)(jM:iw)(hf:P.funcs[f]?=some fn)(h:a62 P (a92 l) jM vf.vars fn=some vf:=by kernel_rfl):∃fn' md ann',P.funcs[f]?=some fn'/\a62 P md ann' vf.vars fn'=some vf:=⟨fn,a92 l,jM,hf,h⟩
end Go.V
