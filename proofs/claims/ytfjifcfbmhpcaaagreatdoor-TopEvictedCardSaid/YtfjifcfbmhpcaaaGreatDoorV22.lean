/-
  A part of the proof of TopEvicted.
-/
import Derived.Test.YtfjifcfbmhpcaaaGreatDoorV20
import Derived.Test.YtfjifcfbmhpcaaaGreatDoorV21
import Derived.Test.YtfjifcfbmhpcaaaGreatDoorV03
import Derived.Test.YtfjifcfbmhpcaaaGreatDoorV14
import Derived.BigCall
import Derived.Test.YtfjifcfbmhpcaaaGreatDoorV02
import Derived.Test.YtfjifcfbmhpcaaaGreatDoorV00
set_option linter.defProp false
set_option linter.unusedVariables false
set_option linter.unusedSimpArgs false
namespace Go.Proofs.YtfjifcfbmhpcaaaGreatDoor
open Go
open Go.Proofs.Tryz renaming prog → Zp
open Go.IntKind renaming i64 → Zk, wrap → Zw
open Go.Value renaming int → Zi, pointer → Zq, bool → Zb, tuple → Zt, slice → Zl
open _root_.List renaming getElem?_eq_some_iff->A0,getElem?_set->A2,mem_map->A3,mem_cons->A4,map_append->A5,perm_append_comm->A6,length_cons->A8,filter_eq_self->Aa,pairwise_cons->Ab,getElem?_map->Ac,mem_cons_of_mem->Ad,perm_middle->Ae,getElem?_append_left->Af,map_cons->Ag,nodup_cons->Ah,mem_cons_self->Ai,flatMap_cons->Aj,length_set->Ao,length_map->Ap,length_nil->Aq,flatMap->Ar,length_append->Au,getElem?_eq_getElem->Ax,map_set->Az,filter_eq_nil_iff->B0,set_getElem_self->B1,getElem?_of_mem->B2,mem_of_getElem?->B3,filter_sublist->B4,filter_append->B5,append_assoc->B7,map_map->Ba
open _root_.Option renaming some->A1,none->A7
open _root_.Prod.mk renaming injEq->A9
open Go renaming Value->Ak,World->Av,Addr->B9
open _root_.Int renaming toNat->Am
open _root_.Nat renaming le_refl->An,eq_zero_or_pos->As,le_trans->B6,sub_zero->Bb,lt_or_ge->Bc
open _root_.Bool renaming true->Aw,false->Ay
section
namespace Cn
open Go Go.Proofs.YtfjifcfbmhpcaaaGreatDoor
def All_spec{W w:Av}{F:List Asn}{t:Nat}{T:CT}(f:T.L.length<=1000000)(d:St W (TabA t T::F) w):qb Zp 50 #[qc t] w λv w'=>∃p c,v=Zl p T.L.length c/\St W (qi 3 1 p T.L.length c ((q91 leI (T.L.map (·.1))).map (Zi Zk))::TabA t T::F) w':=by
 obtain⟨m,d⟩:=TabA.open_ d;refine F50_of (z7 (zv 0 d rfl rfl ?_));obtain⟨bs,e,g⟩:=z1d d.p1;have a:(qx (Prod.fst (α:=Nat) (β:=CnD)) bs).length=T.L.length:=by rw[q46,<-e,q46]
 have b:(qx (Prod.fst (α:=Nat) (β:=CnD)) bs).map (·.1)=T.L.map (·.1):=by rw[qx5,<-e,qx5]
 refine q3y (by rw[a];exact f) 0 g rfl λp c w' h=>⟨_,_,_,rfl,p,c,by rw[a],?_⟩;rw[a,b]at h;have i:=(z19 (A:=ConnA) bs e (zf 0 2 h rfl)).p1;exact(TabA.shut m (zf 1 0 (zf 0 2 i rfl) rfl):St W (TabA t T::qi 3 1 p T.L.length c ((q91 leI (T.L.map (·.1))).map (Zi Zk))::F) w').p1
end Cn
end
section
namespace Ck
def mrow(P:Program)(t:TypeId)(name:String):Option (Nat×Option (FuncId×Bool)):=(P.info? t).bind λi=>(i.methods.find? (·.name==name)).map λm=>(m.path.size,m.func)
def mLen:mrow Zp 318 "Len"=A1 (0,A1 (429,Ay)):=by decide+kernel
def uP:Zp.underlying 318=A1 (.pointer 185):=Tryz.underlying318
def uL:Zp.underlying 185=A1 (.slice 316):=Tryz.underlying185
section
variable{P:Program}{w:World}{t l e:TypeId}{name:String}{f:FuncId}{vs:List Value}{K:Value->World->Prop}
def meth_row(c:0<P.types.size){b:Bool}(h:mrow P t name=A1 (0,A1 (f,b))):∃k i m,P.types.size+Made.depth=k+1/\P.info? t=A1 i/\i.methods.find? (·.name==name)=A1 m/\m.path=#[]/\m.func=A1 (f,b):=by unfold mrow at h;obtain⟨i,w,h⟩:=Option.bind_eq_some_iff.1 h;obtain⟨m,a,h⟩:=Option.map_eq_some_iff.1 h;simp only[A9]at h;exact⟨P.types.size+Made.depth - 1,i,m,by omega,w,a,Array.eq_empty_of_size_eq_zero h.1,h.2⟩
def inv_val0{a:B9}{p:Option B9}{n c:Nat}(y:0<P.types.size)(x:P.underlying t=A1 (.pointer l))(r:P.underlying l=A1 (.slice e))(s:mrow P t name=A1 (0,A1 (f,Ay)))(z:q33 P f=Aw)(g:w.cell? a=A1 (Zl p n c))
 (h:qb P f (Zl p n c::vs).toArray w K):q6d P name (.iface t (Zq (A1 a))) vs w K:=by
 obtain⟨k,i,m,q,v,u,b,j⟩:=meth_row y s;have A:∀(o:String) (w:Av),(Builtin.ssaWrapNilChk_ #[t] t #[Zq (A1 a),strVal "",strVal o]).run P w=.ok (Zq (A1 a)) w:=λ_ _=>rfl;have d:(load a).run P w=.ok (Zl p n c) w:=by unfold load;simp[Sem.run,g]
 refine⟨f,(Zl p n c::vs).toArray,?_,h⟩;simp[invoke,callMethod,q,method,typeInfo,v,u,b,follow,j,receiverAt,run_underlying x,Place.get,A,asAddr,loadVar,isAgg,run_underlying r,d,g,q04 z]
def inv_ptr0{a:Option B9}(o:0<P.types.size)(n:P.underlying t=A1 (.pointer l))(e:mrow P t name=A1 (0,A1 (f,Aw)))(p:q33 P f=Aw)
 (h:qb P f (Zq a::vs).toArray w K):q6d P name (.iface t (Zq a)) vs w K:=by
 obtain⟨k,i,m,d,j,g,b,c⟩:=meth_row o e;refine⟨f,(Zq a::vs).toArray,?_,h⟩;simp[invoke,callMethod,d,method,typeInfo,j,g,b,follow,c,receiverAt,run_underlying n,Place.get,q04 p]
end
def types0:0<Zp.types.size:=by decide+kernel
def inv_val{w:Av}{a:B9}{name:String}{f:FuncId}{vs:List Ak}{p:Option B9}{n c:Nat}{K:Ak->Av->Prop}(d:mrow Zp 318 name=A1 (0,A1 (f,Ay)))(b:q33 Zp f=Aw)(e:w.cell? a=A1 (Zl p n c))
 (h:qb Zp f (Zl p n c::vs).toArray w K):q6d Zp name (.iface 318 (Zq (A1 a))) vs w K:=inv_val0 types0 uP uL d b e h
def inv_ptr{w:Av}{a:Option B9}{name:String}{f:FuncId}{vs:List Ak}{K:Ak->Av->Prop}(c:mrow Zp 318 name=A1 (0,A1 (f,Aw)))(b:q33 Zp f=Aw)
 (h:qb Zp f (Zq a::vs).toArray w K):q6d Zp name (.iface 318 (Zq a)) vs w K:=inv_ptr0 types0 uP c b h
end Ck
end
section
namespace Ck
section
variable{α:Type}(le:α->α->Prop)
def par(k:Nat):Nat:=(k - 1)/2
def HeapF(n:Nat)(f:Nat->α):Prop:=∀k,0<k->k<n->le (f (par k)) (f k)
def UpI(n:Nat)(f:Nat->α)(j:Nat):Prop:=(∀k,0<k->k<n->k≠j->le (f (par k)) (f k))/\(∀k,0<k->k<n->par k=j->0<j->le (f (par j)) (f k))
def HoleI(n:Nat)(f:Nat->α)(i:Nat):Prop:=(∀k,0<k->k<n->k≠i->par k≠i->le (f (par k)) (f k))/\(∀k,0<k->k<n->par k=i->0<i->le (f (par i)) (f k))
def DnI(n:Nat)(f:Nat->α)(i:Nat):Prop:=(∀k,0<k->k<n->par k≠i->le (f (par k)) (f k))/\(∀k,0<k->k<n->par k=i->0<i->le (f (par i)) (f k))
def sw(f:Nat->α)(i j:Nat):Nat->α:=λk=>if k=i then f j else if k=j then f i else f k
structure Order:Prop where
 trans:∀a b c,le a b->le b c->le a c
 total:∀a b,le a b\/le b a
def par_lt{k:Nat}(h:0<k):par k<k:=by unfold par;omega
variable{le}{n i j:Nat}{f:Nat->α}
def UpI.step(i:Order le)(h:UpI le n f j)(m:0<j)(u:j<n)(s:¬le (f (par j)) (f j)):UpI le n (sw f (par j) j) (par j):=by
 have t:=par_lt m;have a:le (f j) (f (par j)):=(i.total _ _).resolve_right s;refine⟨λk w c r=>?_,λk w c q b=>?_⟩
 .unfold sw;by_cases e:k=j
  .subst e;rw[yB rfl,yA (by omega),yB rfl];exact a
  .rw[yA r,yA e];by_cases d:par k=par j
   .rw[yB d];have:=h.1 k w c e;rw[d]at this;exact i.trans _ _ _ a this
   .rw[yA d];by_cases l:par k=j
    .rw[yB l];exact h.2 k w c l m
    .rw[yA l];exact h.1 k w c e
 .have o:=par_lt b;unfold sw;have g:k≠par j:=λe=>by rw[<-e]at q;have:=par_lt w;omega
  rw[yA (by omega:par (par j)≠par j),yA (by omega:par (par j)≠j),yA g];have p:=h.1 (par j) b (by omega) (by omega);by_cases e:k=j;.subst e;rw[yB rfl];exact p
  .rw[yA e];have:=h.1 k w c e;rw[q]at this;exact i.trans _ _ _ p this
def UpI.done0(h:UpI le n f 0):HeapF le n f:=λk w a=>h.1 k w a (by omega)
def UpI.done(h:UpI le n f j)(w:le (f (par j)) (f j)):HeapF le n f:=λk a b=>by
 by_cases e:k=j;.subst e;exact w
 .exact h.1 k a b e
def DnI.hole(h:DnI le n f i):HoleI le n f i:=⟨λk a b _ w=>h.1 k a b w,h.2⟩
def HoleI.step(q:Order le)(h:HoleI le n f i)(m:par j=i)(c:0<j)(t:j<n)(d:∀k,0<k->k<n->par k=i->le (f j) (f k))(s:¬le (f i) (f j)):DnI le n (sw f i j) j:=by
 have r:i<j:=by have:=par_lt c;omega
 have l:le (f j) (f i):=(q.total _ _).resolve_right s;refine⟨λk w g p=>?_,λk w g u _=>?_⟩
 .unfold sw;by_cases e:k=i
  .subst e;have o:=par_lt w;rw[yA (by omega:par k≠k),yA p,yB rfl];exact h.2 j c t m w
  .rw[yA e];by_cases a:par k=i
   .rw[yB a];by_cases b:k=j;.subst b;rw[yB rfl];exact l
    .rw[yA b];exact d k w g a
   .rw[yA a,yA p];by_cases b:k=j;.subst b;exact(a m).elim
    .rw[yA b];exact h.1 k w g e a
 .have o:=par_lt w;unfold sw;rw[m,yB rfl,yA (by omega:k≠i),yA (by omega:k≠j)];have:=h.1 k w g (by omega) (by omega);rw[u]at this;exact this
def HoleI.up(h:HoleI le n f i)(c:∀k,0<k->k<n->par k=i->le (f i) (f k)):UpI le n f i:=⟨λk w a b=>by
 by_cases e:par k=i;.rw[e];exact c k w a e
 .exact h.1 k w a b e,h.2⟩
def DnI.done(h:DnI le n f i)(b:∀k,0<k->k<n->par k=i->le (f i) (f k)):HeapF le n f:=λk w a=>by
 by_cases e:par k=i;.rw[e];exact b k w a e
 .exact h.1 k w a e
def HeapF.hole(l:Order le)(h:HeapF le n f){g:Nat->α}(o:i<n)(c:∀k,k≠i->g k=f k):HoleI le n g i:=⟨λk d j m e=>by rw[c _ e,c _ m];exact h k d j,λk d j e w=>by have a:=h k d j;have b:=h i w o;have:=par_lt d;have:=par_lt w;rw[e]at a;rw[c _ (by omega),c _ (by omega)];exact l.trans _ _ _ b a⟩
def HeapF.least(a:Order le)(h:HeapF le n f):∀k,k<n->le (f 0) (f k):=by
 intro k;induction k using Nat.strongRecOn with
 |ind k b=>
  intro c;rcases As k with rfl|w;.exact(a.total _ _).elim id id
  .have:=par_lt w;exact a.trans _ _ _ (b (par k) this (by omega)) (h k w c)
def HeapF.less{m:Nat}(h:HeapF le n f)(a:m<=n):HeapF le m f:=λk w b=>h k w (by omega)
def HeapF.congr{g:Nat->α}(h:HeapF le n f)(a:∀k,k<n->g k=f k):HeapF le n g:=λk w b=>by have:=par_lt w;rw[a _ (by omega),a _ b];exact h k w b
def HeapF.push{g:Nat->α}(h:HeapF le n f)(a:∀k,k<n->g k=f k):UpI le (n+1) g n:=⟨λk w b c=>by have:=par_lt w;rw[a _ (by omega),a _ (by omega)];exact h k w (by omega),λk w b d _=>by have:=par_lt w;omega⟩
end
end Ck
end
namespace Ck
abbrev Al:=Int×Int
def leA(x y:Al):Prop:=x.2<y.2\/x.2=y.2/\x.1<=y.1
instance (x y:Al):Decidable (leA x y):=by unfold leA;infer_instance
def leA_ord:Order leA:=⟨λa b c w h=>by unfold leA at*;omega,λa b=>by unfold leA;omega⟩
def leA_anti{x y:Al}(w:leA x y)(h:leA y x):x=y:=by unfold leA at*;exact Prod.ext (by omega) (by omega)
def Srt(l:List Al):Prop:=l.Pairwise leA/\(l.map (·.1)).Nodup
structure ClG where
 now:Int
 al:List Al
def delA(l:List Al)(id:Int):List Al:=l.filter λx=>decide (x.1≠id)
def insA(x:Al):List Al->List Al
 |[]=>[x]
 |y::r=>if leA x y then x::y::r else y::insA x r
def getA(l:List Al)(id:Int):Option Int:=(l.find? λx=>decide (x.1=id)).map (·.2)
def maxN:Int:=1099511627776
def cSet(G:ClG)(id tm:Int):ClG×Int:=
 if tm<=G.now\/tm>2199023255552 then(G,1)
 else if(getA G.al id).isNone/\G.al.length>=1024 then(G,2)
 else(⟨G.now,insA (id,tm) (delA G.al id)⟩,0)
def cDrop(G:ClG)(id:Int):ClG×Bool:=(⟨G.now,delA G.al id⟩,(getA G.al id).isSome)
def cTick(G:ClG)(n:Int):ClG×List Int×Int:=
 if n<0\/n>maxN - G.now then(G,[],1)
 else(⟨G.now+n,G.al.filter λx=>decide (¬x.2<=G.now+n)⟩,(G.al.filter λx=>decide (x.2<=G.now+n)).map (·.1),0)
structure COk(G:ClG):Prop where
 srt:Srt G.al
 now0:0<=G.now
 now1:G.now<=maxN
 late:∀x∈G.al,G.now<x.2/\x.2<=2199023255552
 many:G.al.length<=1024
def COk.new:COk ⟨0,[]⟩:=⟨⟨.nil,.nil⟩,by simp,by simp[maxN],by simp,by simp⟩
def delA_sub(l:List Al)(id:Int):(delA l id).Sublist l:=B4
def delA_srt{l:List Al}(h:Srt l)(id:Int):Srt (delA l id):=⟨h.1.sublist (delA_sub l id),h.2.sublist ((delA_sub l id).map _)⟩
def delA_mem{l:List Al}{id:Int}{x:Al}:x∈delA l id↔x∈l/\x.1≠id:=by unfold delA;simp
def insA_perm(x:Al)(l:List Al):(insA x l).Perm (x::l):=by
 induction l with
 |nil=>exact .refl _
 |cons y r ih=>
  simp only[insA];split;.exact .refl _
  .exact(ih.cons y).trans (List.Perm.swap _ _ _)
def insA_mem{x y:Al}{l:List Al}:y∈insA x l↔y=x\/y∈l:=by rw[(insA_perm x l).mem_iff,A4]
def insA_srt{x:Al}{l:List Al}(h:Srt l)(c:∀y∈l,y.1≠x.1):Srt (insA x l):=by
 refine⟨?_,?_⟩
 .have d:=h.1;clear c h;induction l with
  |nil=>simp[insA]
  |cons y r i=>
   simp only[insA];have b:=Ab.1 d;split
   .rename_i a;refine Ab.2 ⟨λz w=>?_,d⟩;rcases A4.1 w with rfl|w;.exact a
    .exact leA_ord.trans _ _ _ a (b.1 z w)
   .rename_i a;refine Ab.2 ⟨λz w=>?_,i b.2⟩;rcases insA_mem.1 w with rfl|w;.exact(leA_ord.total _ _).resolve_right a
    .exact b.1 z w
 .rw[((insA_perm x l).map _).nodup_iff,Ag,Ah];refine⟨λf=>?_,h.2⟩;obtain⟨y,g,e⟩:=A3.1 f;exact c y g e
def find_mem{l:List Al}{id tm:Int}(w:(l.map (·.1)).Nodup):getA l id=A1 tm↔(id,tm)∈l:=by
 unfold getA;induction l with
 |nil=>simp
 |cons y r a=>
  simp only[Ag,Ah]at w;rw[List.find?_cons];by_cases e:y.1=id
  .simp only[e,decide_true,Option.map_some,Option.some.injEq,A4];constructor;.rintro rfl;exact .inl (by rw[<-e])
   .rintro(h|h);.rw[<-h]
    .exact yI (A3.2 ⟨_,h,rfl⟩) (by rw[<-e]at*;exact w.1)
  .simp only[e,decide_false,a w.2,A4];constructor;.exact .inr
   .rintro(h|h);.exact yI (by rw[<-h]) e
    .exact h
def get_none{l:List Al}{id:Int}:getA l id=A7↔∀x∈l,x.1≠id:=by unfold getA;rw[Option.map_eq_none_iff,List.find?_eq_none];simp
def delA_none{l:List Al}{id:Int}(h:getA l id=A7):delA l id=l:=by unfold delA;rw[Aa];intro x w;simpa using get_none.1 h x w
def COk.set{G:ClG}(h:COk G)(id tm:Int):COk (cSet G id tm).1:=by
 unfold cSet;split;.exact h
 .rename_i f;split;.exact h
  .rename_i a;refine⟨insA_srt (delA_srt h.srt id) λy d=>(delA_mem.1 d).2,h.now0,h.now1,λx w=>?_,?_⟩
   .rcases insA_mem.1 w with rfl|w;.dsimp only;omega
    .exact h.late x (delA_mem.1 w).1
   .dsimp only;rw[(insA_perm _ _).length_eq,A8];have e:=(delA_sub G.al id).length_le;cases hg:getA G.al id with
    |none=>rw[hg]at a;have:¬G.al.length>=1024:=λb=>a ⟨rfl,b⟩;omega
    |some t=>
     have c:=(find_mem h.srt.2).1 hg;have:(delA G.al id).length<G.al.length:=by unfold delA;exact List.length_filter_lt_length_iff_exists.2 ⟨_,c,by simp⟩
     have:=h.many;omega
def COk.drop{G:ClG}(h:COk G)(id:Int):COk (cDrop G id).1:=⟨delA_srt h.srt id,h.now0,h.now1,λx w=>h.late x (delA_mem.1 w).1,B6 (delA_sub G.al id).length_le h.many⟩
def COk.tick{G:ClG}(h:COk G)(n:Int):COk (cTick G n).1:=by
 unfold cTick;split;.exact h
 .rename_i d;have w:(G.al.filter λx=>decide (¬x.2<=G.now+n)).Sublist G.al:=B4;refine⟨⟨h.srt.1.sublist w,h.srt.2.sublist (w.map _)⟩,?_,?_,λx b=>?_,B6 w.length_le h.many⟩;.have:=h.now0;dsimp only;omega
  .dsimp only;omega
  .obtain⟨c,a⟩:=List.mem_filter.1 b;have:=h.late x c;have a:¬x.2<=G.now+n:=by simpa using a
   dsimp only;omega
end Ck
section
namespace Ck
def w64{n:Int}(h: -9223372036854775808<=n:=by omega)(w:n<=9223372036854775807:=by omega):Zw Zk n=n:=IntWalk.i64_in _ ⟨h,w⟩
def zn{b:Bool}{A B:Prop}(h:b=Aw)(a:A):Bif b A B:=za (λ_=>a) λw=>by rw[h]at w;cases w
def zm{b:Bool}{A B:Prop}(h:b=Ay)(a:B):Bif b A B:=za (λw=>by rw[h]at w;cases w) λ_=>a
def iPt:Zp.info? 316=A1 Tryz.t316:=by kernel_rfl
def sPt:Tryz.t316.size=1:=rfl
def zPt:Tryz.t316.zero=A1 (Zq A7):=rfl
def bPt:Tryz.t316.bytes=8:=rfl
def mLess:mrow Zp 318 "Less"=A1 (0,A1 (430,Ay)):=by decide+kernel
def mSwap:mrow Zp 318 "Swap"=A1 (0,A1 (431,Ay)):=by decide+kernel
def mPop:mrow Zp 318 "Pop"=A1 (0,A1 (432,Aw)):=by decide+kernel
def mPush:mrow Zp 318 "Push"=A1 (0,A1 (433,Aw)):=by decide+kernel
structure AD where
 b:Nat
 id:Int
 tm:Int
 pl:Int
def cellsD(d:AD):List Ak:=[Zi Zk d.id,Zi Zk d.tm,Zi Zk d.pl]
def rowD(d:AD):Asn:=Row d.b 315 (cellsD d)
def ptD(d:AD):List Ak:=[Zq (A1 ⟨d.b,0,A7⟩)]
def keyD(d:AD):Al:=(d.id,d.tm)
def coreD(d:AD):Nat×Al:=(d.b,d.id,d.tm)
def pt1(d:AD):(ptD d).length=1:=rfl
def ptn(d:AD):∀v∈ptD d,qn1 v:=λv h=>by simp[ptD]at h;subst h;trivial
def erase_perm{α:Type}:∀(l:List α) (i:Nat) {x:α},l[i]?=A1 x->l.Perm (x::l.eraseIdx i)
 |[],i,x,h=>by simp at h
 |y::r,0,x,h=>by simp at h;subst h;exact .refl _
 |y::r,i+1,x,h=>((erase_perm r i (by simpa using h)).cons y).trans (List.Perm.swap _ _ _)
def set_erase{α:Type}:∀(l:List α) (i:Nat) (y:α),i<l.length->(l.set i y).Perm (y::l.eraseIdx i)
 |[],i,y,h=>by simp at h
 |x::r,0,y,h=>.refl _
 |x::r,i+1,y,h=>((set_erase r i y (by simpa using h)).cons x).trans (List.Perm.swap _ _ _)
def alsA(l:List AD):Asn:=qz (l.map rowD)
section
variable{W w:World}{F:List Asn}{l:List AD}{i:Nat}{d:AD}
def alsA.take(h:St W (alsA l::F) w)(b:l[i]?=A1 d):St W (rowD d::alsA (l.eraseIdx i)::F) w:=by have e:St W (l.map rowD++F) w:=h.of_sep;have c:St W ((d::l.eraseIdx i).map rowD++F) w:=e.perm (((erase_perm l i b).map rowD).append_right F);exact(zj (l:=(l.eraseIdx i).map rowD) (z0b c (by simp only[Ag,List.cons_append];exact(Ae (l₁:=(l.eraseIdx i).map rowD) (a:=rowD d) (l₂:=F)).symm))).p1
def alsA.give{y:AD}(a:i<l.length)(h:St W (rowD y::alsA (l.eraseIdx i)::F) w):St W (alsA (l.set i y)::F) w:=by have b:St W ((l.eraseIdx i).map rowD++(rowD y::F)) w:=St.of_sep h.p1;refine zj (z0b b ?_);exact Ae.trans (((set_erase l i y a).symm.map rowD).append_right F)
def alsA.cell(h:St W (alsA l::F) w)(a:l[i]?=A1 d){j:Nat}{v:Ak}(b:(cellsD d)[j]?=A1 v):w.cell? ⟨d.b,j,A7⟩=A1 v:=(alsA.take h a).ld b
def alsA.put{F':Av->Prop}(h:St W (alsA l::F) w)(c:l[i]?=A1 d){j:Nat}{v:Ak}{y:AD}(g:j<3)(e:y.b=d.b)(k:(cellsD d).set j v=cellsD y)(f:∀w',St W (alsA (l.set i y)::F) w'->F' w'):St1 ⟨d.b,j,A7⟩ v w F':=by have a:=(A0.1 c).1;refine St1.i (alsA.take h c) g λw' b=>f w' (alsA.give a ?_);rw[k]at b;unfold rowD;rw[e];exact b
end
abbrev HL(c:Nat)(now:Int)(m:Option Nat)(p:Option B9)(cap:Nat)(l:List AD)(F:List Asn):List Asn:=
 Row c 187 [Zi Zk now,Zl p l.length cap,.map m]::SlA 316 1 ptD p cap l::alsA l::F
section
variable{W w:World}{F:List Asn}{c:Nat}{now:Int}{m:Option Nat}{p:Option Addr}{cap:Nat}{l:List AD}
def HL.cell(h:St W (HL c now m p cap l F) w):w.cell? ⟨c,1,A7⟩=A1 (Zl p l.length cap):=h.cell 0 rfl rfl
def HL.rd:Rd (HL c now m p cap l F) p (l.flatMap ptD):=z06 1 rfl λF=>z0g F
def ltD(x y:AD):Bool:=decide (¬leA (keyD y) (keyD x))
def QtP.at{C:Cls}{a:B9}{x:Option B9}(h:∀G w,C.p G w->w.cell? a=A1 (Zq x)):Qt C (Zq x) λw K=>LdP a w λx=>K (Zq x) w:=λG w b=>LdP.at (h G w b) ⟨rfl,b⟩
def z0h{C:Cls}{a:B9}{k:IntKind}{x:Int}(h:∀G w,C.p G w->w.cell? a=A1 (.int k x)):Qt C (.int k x) λw K=>LdI k a w λx=>K (.int k x) w:=λG w b=>zt (h G w b) ⟨rfl,b⟩
def HL.al{G:List (Nat×Obj)}{C:Cls}(h:Is W C (HL c now m p cap l F))(b:C.p G w){i:Nat}{d:AD}(e:l[i]?=A1 d){j:Nat}{v:Ak}(a:(cellsD d)[j]?=A1 v):w.cell? ⟨d.b,j,A7⟩=A1 v:=
 alsA.cell (h.at 2 rfl b) e a
def Less_spec{i k:Nat}{x y:AD}(e:l[i]?=A1 x)(d:l[k]?=A1 y)(hid:i≠k->x.id≠y.id)(b:St W (HL c now m p cap l F) w):
 qb Zp 430 #[Zl p l.length cap,Zi Zk i,Zi Zk k] w λv w'=>v=Zb (ltD x y)/\St W (HL c now m p cap l F) w':=by
 have q:=(A0.1 e).1;have o:=(A0.1 d).1;have a:=z6 W (HL c now m p cap l F);refine F430_of ⟨StC W _,zd b,z0d a pt1 (by decide) HL.rd b rfl q e λt n=>z0d a pt1 (by decide) HL.rd b rfl o d λr g=>?_⟩;refine⟨_,QtP.at λG w h=>n h 0 _ rfl,z7 ⟨_,z0h λG w h=>HL.al a h e (j:=1) rfl,_,QtP.at λG w h=>g h 0 _ rfl,z7 ⟨_,z0h λG w h=>HL.al a h d (j:=1) rfl,λG w h=>?_⟩⟩⟩;have b:=zb h;refine za (λf=>?_) λs=>?_
 .have f:x.tm≠y.tm:=by simpa using f
  refine⟨StC W _,zd b,z0d a pt1 (by decide) HL.rd b rfl q e λt n=>z0d a pt1 (by decide) HL.rd b rfl o d λr g=>?_⟩;refine⟨_,QtP.at λG w h=>n h 0 _ rfl,z7 ⟨_,z0h λG w h=>HL.al a h e (j:=1) rfl,_,QtP.at λG w h=>g h 0 _ rfl,z7 ⟨_,z0h λG w h=>HL.al a h d (j:=1) rfl,λG w h=>⟨?_,zb h⟩⟩⟩⟩;congr 1;unfold ltD;rw[decide_eq_decide];unfold leA keyD;dsimp only;omega
 .have s:x.tm=y.tm:=by simpa using s
  refine⟨StC W _,zd b,z0d a pt1 (by decide) HL.rd b rfl q e λt n=>z0d a pt1 (by decide) HL.rd b rfl o d λr g=>?_⟩;refine⟨_,QtP.at λG w h=>n h 0 _ rfl,z7 ⟨_,z0h λG w h=>HL.al a h e (j:=0) rfl,_,QtP.at λG w h=>g h 0 _ rfl,z7 ⟨_,z0h λG w h=>HL.al a h d (j:=0) rfl,λG w h=>⟨?_,zb h⟩⟩⟩⟩;congr 1;unfold ltD;rw[decide_eq_decide];unfold leA keyD;dsimp only;omega
def swL(l:List AD)(i k:Nat)(x y:AD):List AD:=(l.set i { y with pl:=i}).set k { x with pl:=k}
def flat_set{α:Type}{f:α->List Ak}(h:∀x,(f x).length=1)(l:List α)(i:Nat)(y:α)(v:Ak)(w:f y=[v]):(l.flatMap f).set i v=(l.set i y).flatMap f:=by
 induction l generalizing i with
 |nil=>simp
 |cons x r ih=>
  cases i with
  |zero=>
   have:=h x;rw[List.set_cons_zero,Aj,Aj,w]
   match hfx:f x,this with
   |[u],_=>rfl
  |succ i=>
   have:=h x;rw[List.set_cons_succ,Aj,Aj,<-ih]
   match hfx:f x,this with
   |[u],_=>rfl
def SlA.put{F:List Asn}{F':Av->Prop}{i:Nat}{y:AD}{l:List AD}(h:St W (SlA 316 1 ptD p cap l::F) w)(d:i<l.length)(c:∀w',St W (SlA 316 1 ptD p cap (l.set i y)::F) w'->F' w'):∃a,p=A1 a/\St1 (a.add i) (Zq (A1 ⟨y.b,0,A7⟩)) w F':=by refine qi.set h (by omega) _ λw' b=>c w' ?_;rw[flat_set pt1 l i y _ rfl]at b;unfold SlA;rw[Ao];exact b
def alsA.perm{l l':List AD}{F:List Asn}(h:St W (alsA l::F) w)(a:l.Perm l'):St W (alsA l'::F) w:=zj (z0b h.of_sep ((a.map rowD).append_right F))
def IxP.pa{L:List Asn}{K:B9->Prop}{i:Int}{k n:Nat}{x:AD}{l:List AD}(c:Rd L p (l.flatMap ptD))(h:St W L w)(d:i=(k:Int))(g:k<n)(e:l[k]?=A1 x)(m:∀a,p=A1 a->K (a.add k)):IxP p n i 1 K:=by have f:(l.flatMap ptD)[k*1]?=A1 (Zq (A1 ⟨x.b,0,A7⟩)):=qn9 pt1 (j:=0) e rfl;refine IxP.i c h d g f λa b=>?_;rw[Nat.mul_one];exact m a b
def sw_perm{l:List AD}{i k:Nat}{x y x' y':AD}(a:l[i]?=A1 x)(w:l[k]?=A1 y)(h:i≠k):((l.set k y').set i x').Perm ((l.set i y').set k x'):=by
 have c:=(A0.1 a).1;have b:=(A0.1 w).1;have g:((l.set k y').set i x').Perm (x'::(l.set k y').eraseIdx i):=set_erase _ _ _ (by simpa using c);have a2:((l.set i y').set k x').Perm (x'::(l.set i y').eraseIdx k):=set_erase _ _ _ (by simpa using b);have d:(x::(l.set k y').eraseIdx i).Perm (y'::l.eraseIdx k):=(erase_perm (l.set k y') i (by rw[A2,yA (Ne.symm h),a])).symm.trans (set_erase l k y' b);have f:(y::(l.set i y').eraseIdx k).Perm (y'::l.eraseIdx i):=(erase_perm (l.set i y') k (by rw[A2,yA h,w])).symm.trans (set_erase l i y' c);have c1:(x::l.eraseIdx i).Perm (y::l.eraseIdx k):=(erase_perm l i a).symm.trans (erase_perm l k w);have e:(y::x::(l.set k y').eraseIdx i).Perm (y::x::(l.set i y').eraseIdx k):=
  (d.cons y).trans ((List.Perm.swap _ _ _).trans ((c1.symm.cons y').trans ((List.Perm.swap _ _ _).trans ((f.symm.cons x).trans (List.Perm.swap _ _ _)))))
 exact g.trans ((e.cons_inv.cons_inv.cons x').trans a2.symm)
def sw_pt{l:List AD}{i k:Nat}{x y x' y':AD}(h:x'.b=x.b)(w:y'.b=y.b):((l.set i y').set k x').flatMap ptD=((l.set i y).set k x).flatMap ptD:=by
 have e:∀l:List AD,l.flatMap ptD=(l.map (·.b)).map λb=>Zq (A1 ⟨b,0,A7⟩):=λl=>by rw[Ba];have:=qt6 (λd:AD=>Zq (A1 ⟨d.b,0,A7⟩)) l;exact this
 rw[e,e];congr 1;simp only[Az,h,w]
def swL_len(l:List AD)(i k:Nat)(x y:AD):(swL l i k x y).length=l.length:=by simp[swL]
def Swap_spec{i k:Nat}{x y:AD}(g:l[i]?=A1 x)(f:l[k]?=A1 y)(b:St W (HL c now m p cap l F) w):
 qb Zp 431 #[Zl p l.length cap,Zi Zk i,Zi Zk k] w λv w'=>v=Zt #[]/\St W (HL c now m p cap (swL l i k x y) F) w':=by
 have u:=(A0.1 g).1;have q:=(A0.1 f).1;have s:=z6 W (HL c now m p cap l F);refine F431_of ⟨StC W _,zd b,z0d s pt1 (by decide) HL.rd b rfl q f λT Q=>z0d s pt1 (by decide) HL.rd b rfl u g λR O=>?_⟩;refine⟨_,QtP.at λG w n=>Q n 0 _ rfl,_,QtP.at λG w n=>O n 0 _ rfl,IxP.pa HL.rd b rfl u g λa D=>?_⟩;refine Ef.n (α:=Unit) (V:=λ_=>Zt #[]) (B:=λ_=>[SlA 316 1 ptD p cap (l.set i y)]) () 1 s rfl (λG w h=>?_) λ_=>⟨rfl,trivial,IxP.pa HL.rd b rfl q f λM d=>?_⟩
 .obtain⟨M,d,o⟩:=SlA.put (F':=λw'=>∃x:Unit,Zt #[]=Zt #[]/\St W (Go.Proofs.YtfjifcfbmhpcaaaGreatDoor.put (HL c now m p cap l F) 1 [SlA 316 1 ptD p cap (l.set i y)]++pts G) w') h u λw' r=>⟨(),rfl,z17 1 rfl (B:=[_]) r⟩;rw[D]at d;cases d;exact o
 rw[D]at d;cases d;refine Ef.n (α:=Unit) (V:=λ_=>Zt #[]) (B:=λ_=>[SlA 316 1 ptD p cap ((l.set i y).set k x)]) () 1 ir rfl (λG w h=>?_) λ_=>⟨rfl,trivial,λG w h=>?_⟩
 .obtain⟨M,d,o⟩:=SlA.put (y:=x) (F':=λw'=>∃z:Unit,Zt #[]=Zt #[]/\St W (Go.Proofs.YtfjifcfbmhpcaaaGreatDoor.put (Go.Proofs.YtfjifcfbmhpcaaaGreatDoor.put (HL c now m p cap l F) 1 [SlA 316 1 ptD p cap (l.set i y)]) 1 [SlA 316 1 ptD p cap ((l.set i y).set k x)]++pts G) w') h (by simpa using q) λw' r=>⟨(),rfl,z17 1 rfl (B:=[_]) r⟩;rw[D]at d;cases d;exact o
 have b:=zb h;have b:St W (Row c 187 [Zi Zk now,Zl p l.length cap,.map m]::SlA 316 1 ptD p cap ((l.set i y).set k x)::alsA l::F) w:=b;have E:((l.set i y).set k x)[i]?=A1 y:=by
  rw[A2];by_cases e:k=i
  .subst e;rw[g]at f;cases f;rw[yB rfl,yB (by simpa using q)]
  .rw[yA e,A2,yB rfl,yB u]
 have C:((l.set i y).set k x)[k]?=A1 x:=by rw[A2,yB rfl,yB (by simpa using q)]
 have N:Rd (Row c 187 [Zi Zk now,Zl p l.length cap,.map m]::SlA 316 1 ptD p cap ((l.set i y).set k x)::alsA l::F) p (((l.set i y).set k x).flatMap ptD):=z06 1 rfl λF=>z0g F;have s:=z6 W (Row c 187 [Zi Zk now,Zl p l.length cap,.map m]::SlA 316 1 ptD p cap ((l.set i y).set k x)::alsA l::F);refine⟨StC W _,zd b,z0d s pt1 (by decide) N b rfl u E λa31 K=>z0d s pt1 (by decide) N b rfl q C λP I=>?_⟩;refine⟨_,QtP.at λG w n=>K n 0 _ rfl,_,QtP.at λG w n=>I n 0 _ rfl,z7 ?_⟩;have H:(l.set k { y with pl:=i})[i]?=A1 (if i=k then { y with pl:=(i:Int)}else x):=by
  rw[A2];by_cases e:k=i;.subst e;rw[yB rfl,yB q,yB rfl]
  .rw[yA e,g,yA (Ne.symm e)]
 refine Ef.n (α:=Unit) (V:=λ_=>Zt #[]) (B:=λ_=>[alsA (l.set k { y with pl:=i})]) () 2 s rfl (λG w h=>?_) λ_=>⟨rfl,trivial,z7 ?_⟩;.exact alsA.put (y:={ y with pl:=i}) h f (j:=2) (by decide) rfl rfl λw' r=>⟨(),rfl,z17 2 rfl (B:=[_]) r⟩
 have A:(if i=k then({ y with pl:=(i:Int)}:AD)else x).b=x.b:=by
  by_cases e:i=k;.subst e;rw[g]at f;cases f;rw[yB rfl]
  .rw[yA e]
 have L:(cellsD (if i=k then({ y with pl:=(i:Int)}:AD)else x)).set 2 (Zi Zk k)=cellsD { x with pl:=k}:=by
  by_cases e:i=k;.subst e;rw[g]at f;cases f;rw[yB rfl];rfl
  .rw[yA e];rfl
 refine Ef.n (α:=Unit) (V:=λ_=>Zt #[]) (B:=λ_=>[alsA ((l.set k { y with pl:=i}).set i { x with pl:=k})]) () 2 ir rfl (λG w h=>?_) λ_=>⟨rfl,trivial,λG w h=>⟨rfl,?_⟩⟩
 .have:=alsA.put (y:={ x with pl:=k}) (F':=λw'=>∃z:Unit,Zt #[]=Zt #[]/\St W (Go.Proofs.YtfjifcfbmhpcaaaGreatDoor.put (Go.Proofs.YtfjifcfbmhpcaaaGreatDoor.put (Row c 187 [Zi Zk now,Zl p l.length cap,.map m]::SlA 316 1 ptD p cap ((l.set i y).set k x)::alsA l::F) 2 [alsA (l.set k { y with pl:=i})]) 2 [alsA ((l.set k { y with pl:=i}).set i { x with pl:=k})]++pts G) w') h H (j:=2) (v:=Zi Zk k) (by decide) A.symm L λw' r=>⟨(),rfl,z17 2 rfl (B:=[_]) r⟩;rw[A]at this;exact this
 have b:=zb h;have b:St W (Row c 187 [Zi Zk now,Zl p l.length cap,.map m]::SlA 316 1 ptD p cap ((l.set i y).set k x)::alsA ((l.set k { y with pl:=i}).set i { x with pl:=k})::F) w:=b;have t:((l.set k ({ y with pl:=(i:Int)}:AD)).set i { x with pl:=(k:Int)}).Perm (swL l i k x y):=by
  by_cases e:i=k
  .subst e;unfold swL;rw[List.set_set]
  .exact sw_perm g f e
 have b:=(alsA.perm b.p2 t);unfold HL;rw[swL_len];have J:SlA 316 1 ptD p cap ((l.set i y).set k x)=SlA 316 1 ptD p cap (swL l i k x y):=by unfold SlA swL;rw[sw_pt (x:=x) (y:=y) (x':={ x with pl:=(k:Int)}) (y':={ y with pl:=(i:Int)}) rfl rfl];simp only[Ao]
 rw[J]at b;exact b.p2.p2
end
end Ck
end
section
namespace Ck
def fK(l:List AD)(i:Nat):Al:=((l[i]?).map keyD).getD (0,0)
def fK_at{l:List AD}{i:Nat}{d:AD}(h:l[i]?=A1 d):fK l i=keyD d:=by unfold fK;rw[h];rfl
structure HOk(l:List AD):Prop where
 pl:∀(i:Nat) d,l[i]?=A1 d->d.pl=(i:Int)
 nd:(l.map (·.id)).Nodup
 small:l.length<=2000
structure HRel(N:Nat)(l l':List AD):Prop where
 len:l'.length=l.length
 core:(l'.map coreD).Perm (l.map coreD)
 tail:∀k,N<=k->l'[k]?=l[k]?
def HRel.refl(N:Nat)(l:List AD):HRel N l l:=⟨rfl,.refl _,λ_ _=>rfl⟩
def HRel.trans{N:Nat}{a b c:List AD}(h:HRel N a b)(k:HRel N b c):HRel N a c:=⟨k.len.trans h.len,k.core.trans h.core,λj w=>(k.tail j w).trans (h.tail j w)⟩
def swap_perm{α:Type}{l:List α}{i k:Nat}{x y:α}(a:l[i]?=A1 x)(w:l[k]?=A1 y)(h:i≠k):((l.set i y).set k x).Perm l:=by have c:=(A0.1 a).1;have b:=(A0.1 w).1;have a2:((l.set i y).set k x).Perm (x::(l.set i y).eraseIdx k):=set_erase _ _ _ (by simpa using b);have d:(y::(l.set i y).eraseIdx k).Perm (y::l.eraseIdx i):=(erase_perm (l.set i y) k (by rw[A2,yA h,w])).symm.trans (set_erase l i y c);exact a2.trans ((d.cons_inv.cons x).trans (erase_perm l i a).symm)
section
variable{l:List AD}{i k N:Nat}{x y:AD}
def swL_get(e:l[i]?=A1 x)(c:l[k]?=A1 y)(a:i≠k)(j:Nat):(swL l i k x y)[j]?=if j=i then A1 { y with pl:=i}else if j=k then A1 { x with pl:=k}else l[j]?:=by
 have d:=(A0.1 e).1;have b:=(A0.1 c).1;unfold swL;rw[A2,A2];by_cases h:j=i
 .subst h;rw[yA (Ne.symm a),yB rfl,yB d,yB rfl]
 .by_cases w:j=k
  .subst w;rw[yB rfl,yB (by simpa using b),yA h,yB rfl]
  .rw[yA (Ne.symm w),yA (Ne.symm h),yA h,yA w]
def swL_fK(c:l[i]?=A1 x)(b:l[k]?=A1 y)(a:i≠k):fK (swL l i k x y)=sw (fK l) i k:=by
 funext j;unfold sw;rw[fK_at c,fK_at b];unfold fK;rw[swL_get c b a];by_cases h:j=i;.rw[yB h,yB h];rfl
 .by_cases w:j=k;.rw[yA h,yB w,yA h,yB w];rfl
  .rw[yA h,yA w,yA h,yA w]
def swL_rel(a:l[i]?=A1 x)(w:l[k]?=A1 y)(h:i≠k)(c:i<N)(b:k<N):HRel N l (swL l i k x y):=by
 refine⟨swL_len _ _ _ _ _,?_,λj d=>?_⟩
 .unfold swL;rw[Az,Az];exact swap_perm (by rw[Ac,a];rfl) (by rw[Ac,w];rfl) h
 .rw[swL_get a w h,yA (by omega),yA (by omega)]
def ids_core(l:List AD):l.map (·.id)=(l.map coreD).map (λc=>c.2.1):=by rw[Ba];rfl
def HOk.sw(h:HOk l)(f:l[i]?=A1 x)(e:l[k]?=A1 y)(a:i≠k):HOk (swL l i k x y):=by
 refine⟨λj d w=>?_,?_,by rw[swL_len];exact h.small⟩
 .rw[swL_get f e a]at w;by_cases b:j=i;.rw[yB b]at w;cases w;rw[b]
  .by_cases c:j=k;.rw[yA b,yB c]at w;cases w;rw[c]
   .rw[yA b,yA c]at w;exact h.pl j d w
 .have g:=(swL_rel (N:=i+k+1) f e a (by omega) (by omega)).core;rw[ids_core,(g.map _).nodup_iff,<-ids_core];exact h.nd
def HOk.ne(h:HOk l)(f:l[i]?=A1 x)(d:l[k]?=A1 y)(a:i≠k):x.id≠y.id:=λe=>by
 have b:(l.map (·.id))[i]?=A1 x.id:=by rw[Ac,f];rfl
 have c:(l.map (·.id))[k]?=A1 y.id:=by rw[Ac,d];rfl
 have w:=(A0.1 b).1;exact a ((List.getElem?_inj w h.nd).1 (by rw[b,c,e]))
end
def bLess:q33 Zp 430=Aw:=by kernel_rfl
def bSwap:q33 Zp 431=Aw:=by kernel_rfl
def bLen:q33 Zp 429=Aw:=by kernel_rfl
abbrev hV(c:Nat):Ak:=.iface 318 (Zq (A1 ⟨c,1,A7⟩))
section
variable{W w:World}{F:List Asn}{c:Nat}{now:Int}{m:Option Nat}{p:Option Addr}{cap:Nat}{l:List AD}
def iLen{K:Ak->Av->Prop}(h:St W (HL c now m p cap l F) w)(a:K (Zi Zk (l.length:Int)) w):q6d Zp "Len" (hV c) [] w K:=
 inv_val mLen bLen (HL.cell h) (F429_of a)
def iLess{i k:Nat}{x y:AD}{K:Ak->Av->Prop}{a b:Int}(j:a=(i:Int))(r:b=(k:Int))(g:l[i]?=A1 x)(f:l[k]?=A1 y)(n:HOk l)(d:St W (HL c now m p cap l F) w)
 (q:∀w',St W (HL c now m p cap l F) w'->K (Zb (ltD x y)) w'):q6d Zp "Less" (hV c) [Zi Zk a,Zi Zk b] w K:=by
 subst j;subst r;exact inv_val mLess bLess (HL.cell d) ((Less_spec g f (λe=>n.ne g f e) d).of λv w' ⟨o,h⟩=>by subst o;exact q w' h)
def iSwap{i k:Nat}{x y:AD}{K:Ak->Av->Prop}{a b:Int}(e:a=(i:Int))(o:b=(k:Int))(j:l[i]?=A1 x)(f:l[k]?=A1 y)(d:St W (HL c now m p cap l F) w)
 (n:∀w',St W (HL c now m p cap (swL l i k x y) F) w'->K (Zt #[]) w'):q6d Zp "Swap" (hV c) [Zi Zk a,Zi Zk b] w K:=by
 subst e;subst o;exact inv_val mSwap bSwap (HL.cell d) ((Swap_spec j f d).of λv w' ⟨g,h⟩=>by subst g;exact n w' h)
def get_of{l:List AD}{i:Nat}(h:i<l.length):∃x,l[i]?=A1 x:=⟨l[i],Ax h⟩
def lt_le{x y:AD}:ltD x y=Ay↔leA (keyD y) (keyD x):=by unfold ltD;simp
def up_spec{j N:Nat}(q:j<N)(D:N<=l.length)(t:HOk l)(k:UpI leA N (fK l) j)(d:St W (HL c now m p cap l F) w):
 qb Zp 281 #[hV c,Zi Zk j] w λv w'=>v=Zt #[]/\∃l',HOk l'/\HRel N l l'/\HeapF leA N (fK l')/\St W (HL c now m p cap l' F) w':=by
 refine F281_of ⟨λvs w=>∃(j:Nat) (l':List AD),vs=[Zi Zk j]/\j<N/\HOk l'/\HRel N l l'/\UpI leA N (fK l') j/\St W (HL c now m p cap l' F) w,λvs _=>match vs with|[.int _ i]=>i.toNat|_=>0,⟨j,l,rfl,q,t,HRel.refl _ _,k,d⟩,λx w s=>?_⟩;obtain⟨j,l',A,q,b,o,k,d⟩:=s;cases A;have z:=b.small;have C:=o.len;refine⟨by decide,?_⟩;rcases As j with rfl|r
 .refine zn (by decide) ⟨rfl,l',b,o,k.done0,d⟩
 have B:Zw Zk (Int.tdiv (Zw Zk ((j:Int) - 1)) 2)=((par j:Nat):Int):=by unfold par;rw[w64 (n:=(j:Int) - 1) (by omega) (by omega),Int.tdiv_eq_ediv_of_nonneg (by omega),w64];omega
 have u:=par_lt r;rw[B];refine zm ?_ ?_
 .have:((par j:Nat):Int)≠(j:Int):=by omega
  simpa using this
 obtain⟨x,g⟩:=get_of (l:=l') (i:=par j) (by omega);obtain⟨y,e⟩:=get_of (l:=l') (i:=j) (by omega);refine iLess rfl rfl e g b d λw d=>⟨_,rfl,za (λa=>?_) λa=>?_⟩
 .have a:ltD y x=Ay:=by simpa using a
  have f:=lt_le.1 a;refine⟨rfl,l',b,o,k.done ?_,d⟩;rw[fK_at g,fK_at e];exact f
 .have a:ltD y x=Aw:=by simpa using a
  have f:¬leA (fK l' (par j)) (fK l' j):=by rw[fK_at g,fK_at e];intro h;rw[lt_le.2 h]at a;cases a
  refine iSwap rfl rfl g e d λw d=>⟨rfl,⟨par j,_,rfl,by omega,b.sw g e (by omega),o.trans (swL_rel g e (by omega) (by omega) q),?_,d⟩,by show(((par j:Nat):Int)).toNat<((j:Int)).toNat;omega⟩;rw[swL_fK g e (by omega)];exact k.step leA_ord r q f
def down_spec{i0 n:Nat}(hn:n<=l.length)(ho:HOk l)(Y:HoleI leA n (fK l) i0)(R:i0<=n)(d:St W (HL c now m p cap l F) w):
 qb Zp 277 #[hV c,Zi Zk i0,Zi Zk n] w λv w'=>∃b l',v=Zb b/\HOk l'/\HRel n l l'/\(b=Aw->HeapF leA n (fK l'))/\(b=Ay->l'=l/\∀k,0<k->k<n->par k=i0->leA (fK l i0) (fK l k))/\St W (HL c now m p cap l' F) w':=by
 refine F277_of ⟨λvs w=>∃(i:Nat) (l':List AD),vs=[Zi Zk i]/\i0<=i/\i<=n/\HOk l'/\HRel n l l'/\HoleI leA n (fK l') i/\(i=i0->l'=l)/\(i0<i->DnI leA n (fK l') i)/\St W (HL c now m p cap l' F) w,λvs _=>match vs with|[.int _ i]=>n - i.toNat|_=>0,⟨i0,l,rfl,An _,R,ho,HRel.refl _ _,Y,λ_=>rfl,λh=>yI h (by omega),d⟩,λx w hI=>?_⟩;obtain⟨i,l',N,V,Z,q,Q,hH,C,hD,d⟩:=hI;cases N;have hsm:=q.small;have hl:=Q.len;have e1:Zw Zk ((Zw Zk (2*(i:Int)))+1)=((2*i+1:Nat):Int):=by rw[w64 (n:=2*(i:Int)) (by omega) (by omega),w64];omega
 have e2:Zw Zk (((2*i+1:Nat):Int)+1)=((2*i+2:Nat):Int):=by rw[w64];omega
 rw[e1,e2];have f:∀k,0<k->par k=i->k=2*i+1\/k=2*i+2:=λk s h=>by unfold par at h;omega
 have J:∀w,St W (HL c now m p cap l' F) w->(∀k,0<k->k<n->par k=i->leA (fK l' i) (fK l' k))->∃b r,Zb (decide ((i:Int)>(i0:Int)))=Zb b/\HOk r/\HRel n l r/\(b=Aw->HeapF leA n (fK r))/\(b=Ay->r=l/\∀k,0<k->k<n->par k=i0->leA (fK l i0) (fK l k))/\St W (HL c now m p cap r F) w:=λw d X=>by
  refine⟨_,l',rfl,q,Q,λh=>?_,λh=>?_,d⟩
  .have h:=yC h;exact(hD (by omega)).done X
  .have h:=yD h;have H:i=i0:=by omega
   have g:=C H;subst H;subst g;exact⟨rfl,X⟩
 refine za (λG=>?_) λz=>?_
 .have G:=yC G;exact J w d λk s L t=>by have:=f k s t;omega
 have z:2*i+1<n:=by have:=yD z;omega
 refine zm (yH (by omega)) ?_;obtain⟨x,B⟩:=get_of (l:=l') (i:=i) (by omega);obtain⟨O,o⟩:=get_of (l:=l') (i:=2*i+1) (by omega);refine⟨λvs w=>∃(j:Nat) (y:AD),vs=[Zi Zk j]/\(j=2*i+1\/j=2*i+2)/\j<n/\l'[j]?=A1 y/\(∀k,0<k->k<n->par k=i->leA (fK l' j) (fK l' k))/\St W (HL c now m p cap l' F) w,za (λE=>?_) λE=>?_,λj w hJ=>?_⟩
 .have E:2*i+2<n:=by have:=yC E;omega
  obtain⟨U,u⟩:=get_of (l:=l') (i:=2*i+2) (by omega);refine iLess rfl rfl u o q d λw d=>⟨_,rfl,za (λa=>?_) λa=>?_⟩
  .refine⟨2*i+2,U,rfl,.inr rfl,E,u,λk s L t=>?_,d⟩;have P:¬leA (keyD O) (keyD U):=λh=>by rw[lt_le.2 h]at a;cases a
   rcases f k s t with rfl|rfl;.rw[fK_at u,fK_at o];exact(leA_ord.total _ _).resolve_right P
   .exact(leA_ord.total _ _).elim id id
  .refine⟨2*i+1,O,rfl,.inl rfl,z,o,λk s L t=>?_,d⟩;have g:=lt_le.1 a;rcases f k s t with rfl|rfl;.exact(leA_ord.total _ _).elim id id
   .rw[fK_at u,fK_at o];exact g
 .have E:¬2*i+2<n:=by have:=yD E;omega
  refine⟨2*i+1,O,rfl,.inl rfl,z,o,λk s L t=>?_,d⟩;rcases f k s t with rfl|rfl;.exact(leA_ord.total _ _).elim id id
  .omega
 obtain⟨j,y,N,T,K,D,A,d⟩:=hJ;cases N;refine iLess rfl rfl D B q d λw d=>⟨_,rfl,za (λa=>?_) λa=>?_⟩
 .have a:ltD y x=Ay:=by simpa using a
  have g:=lt_le.1 a;refine J w d λk s L t=>leA_ord.trans _ _ _ ?_ (A k s L t);rw[fK_at B,fK_at D];exact g
 .have a:ltD y x=Aw:=by simpa using a
  have I:¬leA (fK l' i) (fK l' j):=by rw[fK_at B,fK_at D];intro h;rw[lt_le.2 h]at a;cases a
  have M:par j=i:=by unfold par;omega
  have e:=hH.step leA_ord M (by omega) K A I;rw[<-swL_fK B D (by omega)]at e;refine iSwap rfl rfl B D d λw d=>⟨rfl,⟨j,_,rfl,by omega,by omega,q.sw B D (by omega),Q.trans (swL_rel B D (by omega) (by omega) K),e.hole,λh=>yI h (by omega),λ_=>e,d⟩,by show n -((j:Int)).toNat<n -((i:Int)).toNat;omega⟩
end
end Ck
end
section
namespace Ck
def uPt:Zp.underlying 316=A1 (.pointer 315):=Tryz.underlying316
def bPop:q33 Zp 432=Aw:=by kernel_rfl
def bPush:q33 Zp 433=Aw:=by kernel_rfl
def assert_pt(v:Ak)(w:Av):Sem.run Zp (Instr.typeAssert (.iface 316 v) 20 316 Ay) w=.ok v w:=by simp[Instr.typeAssert,run_underlying uPt]
section
variable{W w:World}{F:List Asn}{c:Nat}{now:Int}{m:Option Nat}{p:Option Addr}{cap:Nat}{l:List AD}{d:AD}
def alsA.snoc(h:St W (rowD d::alsA l::F) w):St W (alsA (l++[d])::F) w:=by have a:St W (l.map rowD++(rowD d::F)) w:=St.of_sep h.p1;refine zj (z0b a ?_);rw[A5,B7];exact .refl _
def alsA.pop(h:St W (alsA (l++[d])::F) w):St W (rowD d::alsA l::F) w:=by have a:St W ((l++[d]).map rowD++F) w:=h.of_sep;rw[A5,B7]at a;exact(zj (l:=l.map rowD) a).p1
def SlA.shrink(h:St W (SlA 316 1 ptD p cap (l++[d])::F) w):∃q,p=A1 ⟨q,0,A7⟩/\0<cap/\St W (SlA 316 1 ptD p cap l::F) w:=by
 obtain⟨i,g,m,⟨n,o,k⟩,e⟩:=h;have c:(l++[d]).length=l.length+1:=by simp
 rcases k with rfl|⟨q,all,rfl,f,a,b⟩;.omega
 .refine⟨q,rfl,by omega,z0x f (by omega) ?_ (show St W (Row q 316 all::F) w from⟨i,g,m,b,e⟩)⟩;have r:=qh3 ptD 1 pt1 l;have j:(l++[d]).flatMap ptD=l.flatMap ptD++ptD d:=by simp
  rw[j]at a;have:=yE (List.take (l.length*1)) a;rw[List.take_take,List.take_append_of_le_length (by omega),List.take_of_length_le (show(l.flatMap ptD).length<=l.length*1 by omega),Nat.min_eq_left (by rw[c];omega)]at this;exact this
def PopM_spec(r:l.length<=2000)(b:St W (HL c now m p cap (l++[d]) F) w):
 qb Zp 432 #[Zq (A1 ⟨c,1,A7⟩)] w λv w'=>v=.iface 316 (Zq (A1 ⟨d.b,0,A7⟩))/\St W (rowD d::HL c now m p cap l F) w':=by
 have o:(l++[d]).length=l.length+1:=by simp
 have k:(l++[d])[l.length]?=A1 d:=by simp
 have h:=HL.cell b;obtain⟨q,n,g,f⟩:=SlA.shrink b.p1;have en:Zw Zk ((((l++[d]).length:Nat):Int) - 1)=((l.length:Nat):Int):=by rw[w64];omega
 refine F432_of (z7 (LdL.at h (z7 (LdL.at h ?_))));rw[en];refine z0e pt1 (by decide) HL.rd b rfl (by omega) k λa i=>LdP.at (i 0 _ rfl) (z7 (LdL.at h ⟨⟨by omega,by omega,by have:=SlA.le b.p1;omega⟩,z7 ?_⟩));have j:(if cap=Am 0 then p else p.map (·.add (Am 0*1)))=p:=by subst n;split<;>rfl
 have e:St W (Row c 187 [Zi Zk now,Zl p (l++[d]).length cap,.map m]::SlA 316 1 ptD p cap l::alsA (l++[d])::F) w:=f.p1;refine z0n (k0:=1) 0 e rfl (by simp) λw b=>⟨rfl,?_⟩;have b:St W (Row c 187 [Zi Zk now,.slice (if cap=Am 0 then p else p.map (·.add (Am 0*1))) ((Am (l.length:Int)) - Am 0) (cap - Am 0),.map m]::SlA 316 1 ptD p cap l::alsA (l++[d])::F) w:=b;rw[j,Int.toNat_natCast,show Am 0=0 from rfl,Bb,Bb]at b;exact(alsA.pop b.p2).perm (List.Perm.cons _ ((Ae (l₁:=[_,_]) (a:=alsA l) (l₂:=F)).symm))
def PushM_spec(n:l.length<=2000)(h:St W (rowD d::HL c now m p cap l F) w):
 qb Zp 433 #[Zq (A1 ⟨c,1,A7⟩),.iface 316 (Zq (A1 ⟨d.b,0,A7⟩))] w λv w'=>v=Zt #[]/\∃b i,St W (HL c now m b i (l++[{ d with pl:=l.length}]) F) w':=by
 have e:=HL.cell h.drop;refine F433_of ⟨_,assert_pt _,_,rfl,z7 (LdL.at e (z7 ?_))⟩;refine z0n (k0:=2) 0 h rfl (by simp[cellsD]) λw h=>?_;have h:St W (rowD { d with pl:=l.length}::HL c now m p cap l F) w:=h;refine z7 (LdL.at (HL.cell h.drop) (zh h λf w h=>?_));have h:St W (Row f 316 (Ar ptD [{ d with pl:=l.length}])::rowD { d with pl:=l.length}::HL c now m p cap l F) w:=h;refine qf3 (os:=l) (xs:=[{ d with pl:=(l.length:Int)}]) pt1 Tryz.underlying185 (.inr ⟨_,Tryz.underlying185⟩) iPt sPt zPt rfl 3 h rfl (z0m) rfl ptn (by rw[bPt];simp;omega) (by simp;omega) λb g w h=>⟨_,_,_,rfl,z7 ?_⟩;have h:St W (Row f 316 (Ar ptD [{ d with pl:=(l.length:Int)}])::rowD { d with pl:=l.length}::Row c 187 [Zi Zk now,Zl p l.length cap,.map m]::SlA 316 1 ptD b g (l++[{ d with pl:=(l.length:Int)}])::alsA l::F) w:=h;refine z0n (k0:=1) 2 h rfl (by simp) λw h=>⟨rfl,b,g,?_⟩;have h:St W (Row f 316 (Ar ptD [{ d with pl:=(l.length:Int)}])::rowD { d with pl:=l.length}::Row c 187 [Zi Zk now,.slice b (l++[{ d with pl:=(l.length:Int)}]).length g,.map m]::SlA 316 1 ptD b g (l++[{ d with pl:=(l.length:Int)}])::alsA l::F) w:=h;have j:=h.drop;have k:St W (rowD { d with pl:=l.length}::alsA l::Row c 187 [Zi Zk now,.slice b (l++[{ d with pl:=(l.length:Int)}]).length g,.map m]::SlA 316 1 ptD b g (l++[{ d with pl:=(l.length:Int)}])::F) w:=j.perm (List.Perm.cons _ (Ae (l₁:=[_,_]) (a:=alsA l) (l₂:=F)));exact(alsA.snoc k).perm ((Ae (l₁:=[_,_]) (a:=alsA _) (l₂:=F)).symm)
end
def HoleI.congr{α:Type}{le:α->α->Prop}{n i:Nat}{f g:Nat->α}(h:HoleI le n f i)(b:∀k,k<n->g k=f k):HoleI le n g i:=⟨λk w a d c=>by
 have:=par_lt w;rw[b _ (by omega),b _ a];exact h.1 k w a d c,λk w a d c=>by
 have:=par_lt w;have:=par_lt c;rw[b _ (by omega),b _ a];exact h.2 k w a d c⟩
def fK_app{l:List AD}{d:AD}{k:Nat}(h:k<l.length):fK (l++[d]) k=fK l k:=by unfold fK;rw[Af h]
def snoc_of{l:List AD}{n:Nat}{d:AD}(w:l.length=n+1)(a:l[n]?=A1 d):∃l0,l=l0++[d]/\l0.length=n:=by
 refine⟨l.dropLast,?_,by simp[w]⟩;have h:l≠[]:=λe=>by subst e;simp at w
 have b:=List.dropLast_concat_getLast h;have c:l.getLast h=d:=by
  rw[List.getLast_eq_getElem];rw[Ax (by omega)]at a;have:l.length - 1=n:=by omega
  simp only[this];exact Option.some.inj a
 rw[c]at b;exact b.symm
def HOk.init{l:List AD}{d:AD}(h:HOk (l++[d])):HOk l:=⟨λi x w=>h.pl i x (by rw[Af (A0.1 w).1];exact w),h.nd.sublist ((List.sublist_append_left l [d]).map _),by have:=h.small;simp at this;omega⟩
section
variable{W w:World}{F:List Asn}{c:Nat}{now:Int}{m:Option Nat}{p:Option Addr}{cap:Nat}{l:List AD}{d:AD}
def Push_spec(s:HOk l)(z:HeapF leA l.length (fK l))(hid:∀x∈l,x.id≠d.id)(I:l.length<1500)(g:St W (rowD d::HL c now m p cap l F) w):
 qb Zp 271 #[hV c,.iface 316 (Zq (A1 ⟨d.b,0,A7⟩))] w λv w'=>v=Zt #[]/\∃G j l',HOk l'/\HeapF leA l'.length (fK l')/\(l'.map coreD).Perm (coreD d::l.map coreD)/\St W (HL c now m G j l' F) w':=by
 refine F271_of (inv_ptr mPush bPush ((PushM_spec (by omega) g).of λv w ⟨q,H,c1,g⟩=>⟨q,iLen g ⟨_,rfl,?_⟩⟩));have B:(l++[{ d with pl:=(l.length:Int)}]).length=l.length+1:=by simp
 have r:HOk (l++[{ d with pl:=(l.length:Int)}]):=by
  refine⟨λi x f=>?_,?_,by omega⟩
  .rcases Bc i l.length with h|h;.rw[Af h]at f;exact s.pl i x f
   .rw[List.getElem?_append_right h]at f;have:i=l.length:=by
     rcases Bc (i - l.length) 1 with y|y;.omega
     .rw[List.getElem?_eq_none (by simpa using y)]at f;cases f
    subst this;simp at f;rw[<-f]
  .rw[A5];refine List.nodup_append.2 ⟨s.nd,by simp,λa C b u e=>?_⟩;obtain⟨x,f,rfl⟩:=A3.1 C;simp at u;exact hid x f (by rw[e,u])
 have D:UpI leA (l.length+1) (fK (l++[{ d with pl:=(l.length:Int)}])) l.length:=z.push λk A=>fK_app A;have E:Zw Zk ((((l++[{ d with pl:=(l.length:Int)}]).length:Nat):Int) - 1)=((l.length:Nat):Int):=by rw[w64];omega
 dsimp only;rw[E];refine(up_spec (by omega) (by omega) r D g).of λv w ⟨q,l',n,t,o,g⟩=>⟨q,rfl,H,c1,l',n,?_,?_,g⟩;.rw[t.len,B];exact o
 .refine t.core.trans ?_;rw[A5];exact A6
def fix_spec{i n:Nat}{K:Av->Prop}(y:n<=l.length)(C:HOk l)(u:HoleI leA n (fK l) i)(G:i<n)(o:St W (HL c now m p cap l F) w)
 (z:∀l' w',HOk l'->HRel n l l'->HeapF leA n (fK l')->St W (HL c now m p cap l' F) w'->K w'):
 qb Zp 277 #[hV c,Zi Zk i,Zi Zk n] w λv w'=>AsB v λx=>Bif (!x) (qb Zp 281 #[hV c,Zi Zk i] w' λj k=>j=(Zt #[])/\K k) (K w'):=by
 refine(down_spec y C u (by omega) o).of λv w1 ⟨b,A,s,a,r,t,q,d⟩=>⟨b,s,za (λh=>?_) λh=>?_⟩
 .have h:b=Ay:=by simpa using h
  obtain⟨rfl,H⟩:=q h;refine(up_spec G y a (u.up H) d).of λv D B=>?_;obtain⟨s,E,e,g,f,o⟩:=B;exact⟨s,z E D e g f o⟩
 .have h:b=Aw:=by simpa using h
  exact z A w1 a r (t h) d
def Fix_spec{i:Nat}(f:HOk l)(e:HoleI leA l.length (fK l) i)(g:i<l.length)(a:St W (HL c now m p cap l F) w):
 qb Zp 270 #[hV c,Zi Zk i] w λv w'=>v=Zt #[]/\∃l',HOk l'/\HeapF leA l'.length (fK l')/\(l'.map coreD).Perm (l.map coreD)/\St W (HL c now m p cap l' F) w':=by
 refine F270_of (iLen a ⟨_,rfl,?_⟩);exact fix_spec (An _) f e g a λl' w' d h b a=>⟨rfl,l',d,by rw[h.len];exact b,h.core,a⟩
def iPop{n:Nat}{K:Ak->Av->Prop}(f:l.length=n+1)(j:l[n]?=A1 d)(a:HOk l)(e:HeapF leA n (fK l))(b:St W (HL c now m p cap l F) w)
 (q:∀l' w',HOk l'->HeapF leA l'.length (fK l')->l=l'++[d]->St W (rowD d::HL c now m p cap l' F) w'->K (.iface 316 (Zq (A1 ⟨d.b,0,A7⟩))) w'):
 q6d Zp "Pop" (hV c) [] w K:=by
 obtain⟨l0,rfl,o⟩:=snoc_of f j;have g:=a.small;refine inv_ptr mPop bPop ((PopM_spec (by omega) b).of λv w' ⟨i,h⟩=>?_);subst i;refine q l0 w' a.init ?_ rfl h;rw[o];exact e.congr λk r=>(fK_app (by omega)).symm
def Remove_spec{i:Nat}(A:HOk l)(H:HeapF leA l.length (fK l))(b:l[i]?=A1 d)(a:St W (HL c now m p cap l F) w):
 qb Zp 222 #[hV c,Zi Zk i] w λv w'=>∃J l',coreD J=coreD d/\v=.iface 316 (Zq (A1 ⟨d.b,0,A7⟩))/\HOk l'/\HeapF leA l'.length (fK l')/\(l.map coreD).Perm (coreD d::l'.map coreD)/\St W (rowD J::HL c now m p cap l' F) w':=by
 have Q:=(A0.1 b).1;have R:=A.small;obtain⟨n,M⟩:∃n,l.length=n+1:=⟨l.length - 1,by omega⟩;obtain⟨y,q⟩:=get_of (l:=l) (i:=n) (by omega);refine F222_of (iLen a ⟨_,rfl,?_⟩);have en:Zw Zk (((l.length:Nat):Int) - 1)=((n:Nat):Int):=by rw[w64];omega
 dsimp only;rw[en];refine za (λr=>?_) λI=>?_
 .have r:(n:Int)≠(i:Int):=by simpa using r
  have h:i≠n:=by omega
  refine iSwap rfl rfl b q a λw a=>⟨rfl,?_⟩;have t:=A.sw b q h;have x:(swL l i n d y).length=n+1:=by rw[swL_len,M]
  have G:=swL_rel (N:=n+1) b q h (by omega) (by omega);have E:(swL l i n d y)[n]?=A1 { d with pl:=n}:=by rw[swL_get b q h,yA (Ne.symm h),yB rfl]
  have C:=swL_fK b q h;have s:HoleI leA n (fK (swL l i n d y)) i:=by
   refine HoleI.congr (f:=λk=>if k=i then fK l n else fK l k) ((H.less (m:=n) (by omega)).hole leA_ord (by omega) λk L=>by rw[yA L]) λk L=>?_;rw[C];unfold sw;by_cases e:k=i;.rw[yB e,yB e]
   .rw[yA e,yA e,yA (by omega)]
  refine fix_spec (K:=λw=>q6d Zp "Pop" (hV c) [] w _) (by omega) t s (by omega) a λT w' u g z a=>?_;refine iPop (d:={ d with pl:=(n:Int)}) (by rw[g.len,x]) (by rw[g.tail n (An _),E]) u z a λB P j o D a=>⟨{ d with pl:=(n:Int)},B,rfl,rfl,j,o,?_,a⟩;have O:=(g.core.trans G.core).symm;rw[D,A5]at O;exact O.trans A6
 .have I:(n:Int)=(i:Int):=by
   have:¬(n:Int)≠(i:Int):=by simpa using I
   omega
  have h:i=n:=by omega
  subst h;rw[b]at q;cases q;refine iPop M b A (H.less (by omega)) a λB P j o D a=>⟨d,B,rfl,rfl,j,o,?_,a⟩;rw[D,A5];exact A6
def Pop_spec(Q:HOk l)(V:HeapF leA l.length (fK l))(g:l[0]?=A1 d)(j:St W (HL c now m p cap l F) w):
 qb Zp 197 #[hV c] w λv w'=>∃R l',coreD R=coreD d/\v=.iface 316 (Zq (A1 ⟨d.b,0,A7⟩))/\HOk l'/\HeapF leA l'.length (fK l')/\(l.map coreD).Perm (coreD d::l'.map coreD)/\St W (rowD R::HL c now m p cap l' F) w':=by
 have h2:=(A0.1 g).1;have h3:=Q.small;obtain⟨n,I⟩:∃n,l.length=n+1:=⟨l.length - 1,by omega⟩;obtain⟨y,z⟩:=get_of (l:=l) (i:=n) (by omega);refine F197_of (iLen j ⟨_,rfl,?_⟩);have en:Zw Zk (((l.length:Nat):Int) - 1)=((n:Nat):Int):=by rw[w64];omega
 dsimp only;rw[en];refine iSwap (i:=0) rfl rfl g z j λw j=>⟨rfl,?_⟩;rcases As n with rfl|h0
 .rw[g]at z;cases z;have X:swL l 0 0 d d=[{ d with pl:=0}]:=by
   match l,I,g with
   |[x],_,g=>simp at g;subst g;rfl
  have e0:l=[d]:=by
   match l,I,g with
   |[x],_,g=>simp at g;subst g;rfl
  rw[X]at j;have r:HOk [{ d with pl:=0}]:=⟨λi x C=>by
   match i,C with
   |0,C=>simp at C;subst C;rfl,by simp,by simp⟩
  refine(down_spec (n:=0) (i0:=0) (l:=[{ d with pl:=0}]) (by simp) r ⟨λk _ h=>yI h (by omega),λk _ h=>yI h (by omega)⟩ (An _) j).of λv w ⟨b,l1,P,s,a,B,A,j⟩=>⟨b,P,?_⟩;have M:=a.len;refine iPop (n:=0) (d:={ d with pl:=0}) M (by rw[a.tail 0 (An _)];rfl) s (λk _ h=>yI h (by omega)) j λH Y t u K j=>⟨{ d with pl:=0},H,rfl,rfl,t,u,?_,j⟩;have D:=a.core.symm;rw[K,A5]at D;rw[e0];exact D.trans A6
 .have o:0≠n:=by omega
  have r:=Q.sw g z o;have E:(swL l 0 n d y).length=n+1:=by rw[swL_len,I]
  have O:=swL_rel (N:=n+1) g z o (by omega) (by omega);have L:(swL l 0 n d y)[n]?=A1 { d with pl:=n}:=by rw[swL_get g z o,yA (Ne.symm o),yB rfl]
  have J:=swL_fK g z o;have q:HoleI leA n (fK (swL l 0 n d y)) 0:=by
   refine HoleI.congr (f:=λk=>if k=0 then fK l n else fK l k) ((V.less (m:=n) (by omega)).hole leA_ord (by omega) λk T=>by rw[yA T]) λk T=>?_;rw[J];unfold sw;by_cases e:k=0;.rw[yB e,yB e]
   .rw[yA e,yA e,yA (by omega)]
  refine(down_spec (n:=n) (i0:=0) (by omega) r q (by omega) j).of λv w ⟨b,Z,P,s,a,B,A,j⟩=>⟨b,P,?_⟩;have G:HeapF leA n (fK Z):=by
   cases b with
   |true=>exact B rfl
   |false=>obtain⟨rfl,D⟩:=A rfl;exact(q.up D).done0
  refine iPop (d:={ d with pl:=(n:Int)}) (by rw[a.len,E]) (by rw[a.tail n (An _),L]) s G j λH Y t u K j=>⟨{ d with pl:=(n:Int)},H,rfl,rfl,t,u,?_,j⟩;have U:=(a.core.trans O.core).symm;rw[K,A5]at U;exact U.trans A6
end
end Ck
end
section
namespace Ck
def uInt:Zp.underlying 3=A1 (.int Zk):=Tryz.underlying3
def uIs:Zp.underlying 28=A1 (.slice 3):=Tryz.underlying28
def iInt:Zp.info? 3=A1 Tryz.t3:=by kernel_rfl
def sInt:Tryz.t3.size=1:=rfl
def zInt:Tryz.t3.zero=A1 (Zi Zk 0):=rfl
def bInt:Tryz.t3.bytes=8:=rfl
def uM:Zp.underlying 183=A1 (.map 3 316):=Tryz.underlying183
def kI:qw2 Zp 3 (Zi Zk):=qw2.i64 uInt
def iV1(x:Int):(iV x).length=1:=rfl
def iVn(x:Int):∀v∈iV x,qn1 v:=λv h=>by simp[iV]at h;subst h;trivial
def gnone{l:List Al}{id:Int}:getA l id=A7↔∀x∈l,x.1≠id:=get_none
def ptV(b:Nat):Ak:=Zq (A1 ⟨b,0,A7⟩)
structure CRep(l:List AD)(D:List (Int×Nat))(al:List Al):Prop where
 ok:HOk l
 heap:HeapF leA l.length (fK l)
 keys:((l.map coreD).map (·.2)).Perm al
 srt:Srt al
 many:al.length<=1024
 dm:∀id b,qe D id=A1 b↔∃tm,(b,id,tm)∈l.map coreD
def ClockA(c:Nat)(G:ClG):Asn:=exA λx:Nat×Option B9×Nat×List AD×List (Int×Nat)=>qz [
 prA (CRep x.2.2.2.1 x.2.2.2.2 G.al/\COk G),Row c 187 [Zi Zk G.now,.slice x.2.1 x.2.2.2.1.length x.2.2.1,.map (A1 x.1)],SlA 316 1 ptD x.2.1 x.2.2.1 x.2.2.2.1,alsA x.2.2.2.1,qg (Zi Zk) ptV x.1 x.2.2.2.2]
section
variable{W w:World}{F:List Asn}{c m:Nat}{p:Option Addr}{cap:Nat}{l:List AD}{D:List (Int×Nat)}{G:ClG}{al:List Al}
def ClockA.open_(h:St W (ClockA c G::F) w):∃m p cap l D,CRep l D G.al/\COk G/\St W (HL c G.now (A1 m) p cap l (qg (Zi Zk) ptV m D::F)) w:=by obtain⟨⟨m,p,cap,l,D⟩,h⟩:=h.of_ex;obtain⟨⟨b,a⟩,h⟩:=h.of_sep.of_pr;exact⟨m,p,cap,l,D,b,a,h⟩
def ClockA.shut(b:CRep l D G.al)(a:COk G)(h:St W (HL c G.now (A1 m) p cap l (qg (Zi Zk) ptV m D::F)) w):St W (ClockA c G::F) w:=
 z00 (m,p,cap,l,D) (zj (l:=[_,_,_,_,_]) (z01 ⟨b,a⟩ h))
def ClockA.ok(h:St W (ClockA c G::F) w):COk G:=by obtain⟨m,p,cap,l,D,_,a,_⟩:=ClockA.open_ h;exact a
def CRep.nil:CRep [] [] []:=⟨⟨λi d h=>by simp at h,by simp,by simp⟩,λk _ h=>by simp at h,.refl _,⟨.nil,.nil⟩,by simp,λid b=>by simp[qe]⟩
def CRep.len(h:CRep l D al):l.length=al.length:=by have:=h.keys.length_eq;simpa using this
def core_mem{l:List AD}{b:Nat}{id tm:Int}:(b,id,tm)∈l.map coreD↔∃(i:Nat) (d:AD),l[i]?=A1 d/\coreD d=(b,id,tm):=by
 rw[A3];constructor
 .rintro⟨d,w,e⟩;obtain⟨i,h⟩:=B2 w;exact⟨i,d,h,e⟩
 .rintro⟨i,d,h,e⟩;exact⟨d,B3 h,e⟩
def CRep.get_some(h:CRep l D al){id:Int}{b:Nat}(j:qe D id=A1 b):∃(i:Nat) (d:AD),l[i]?=A1 d/\d.b=b/\d.id=id/\getA al id=A1 d.tm:=by obtain⟨tm,w⟩:=(h.dm id b).1 j;obtain⟨i,d,f,e⟩:=core_mem.1 w;simp only[coreD,A9]at e;obtain⟨g,a,c⟩:=e;refine⟨i,d,f,g,a,(find_mem h.srt.2).2 ?_⟩;rw[<-h.keys.mem_iff];exact A3.2 ⟨_,w,by rw[c]⟩
def CRep.get_none(h:CRep l D al){id:Int}(a:qe D id=A7):getA al id=A7:=by
 cases hg:getA al id with
 |none=>rfl
 |some tm=>have w:=(find_mem h.srt.2).1 hg;rw[<-h.keys.mem_iff]at w;obtain⟨⟨b,x⟩,c,e⟩:=A3.1 w;simp only at e;subst e;have:=(h.dm id b).2 ⟨tm,c⟩;rw[a]at this;cases this
def CRep.isSome(h:CRep l D al)(id:Int):(qe D id).isSome=(getA al id).isSome:=by
 cases hb:qe D id with
 |none=>rw[h.get_none hb];rfl
 |some b=>obtain⟨i,d,_,_,_,w⟩:=h.get_some hb;rw[w];rfl
def del_cons{al E:List Al}{id tm:Int}(w:((id,tm)::E).Perm al)(f:(al.map (·.1)).Nodup):(delA al id).Perm E:=by
 have a:(delA ((id,tm)::E) id).Perm (delA al id):=w.filter _;have b:delA ((id,tm)::E) id=delA E id:=by unfold delA;simp
 have c:delA E id=E:=by unfold delA;rw[Aa];intro x d;have h:(((id,tm)::E).map (·.1)).Nodup:=(w.map (λx:Al=>x.1)).nodup_iff.2 f;simp only[Ag,Ah]at h;have:x.1≠id:=λe=>h.1 (by rw[<-e];exact A3.2 ⟨x,d,rfl⟩);simpa using this
 rw[b,c]at a;exact a.symm
def CRep.del{l':List AD}{d:AD}(n:(D.map (·.1)).Nodup)(h:CRep l D al)(m:HOk l')(k:HeapF leA l'.length (fK l'))(j:(l.map coreD).Perm (coreD d::l'.map coreD)):CRep l' (qp D d.id) (delA al d.id):=by
 have a:((d.id,d.tm)::(l'.map coreD).map (·.2)).Perm al:=((j.map (λc:Nat×Al=>c.2)).symm.trans h.keys);have f:=h.srt.2;refine⟨m,k,(del_cons a f).symm,delA_srt h.srt _,B6 (delA_sub al _).length_le h.many,λid b=>?_⟩;rw[qaa n];have g:(((d.id,d.tm)::(l'.map coreD).map (·.2)).map (·.1)).Nodup:=(a.map (λx:Al=>x.1)).nodup_iff.2 f;simp only[Ag,Ah]at g;by_cases e:d.id=id
 .rw[yB e];constructor;.intro h;cases h
  .rintro⟨tm,w⟩;exact yI (A3.2 ⟨(id,tm),A3.2 ⟨_,w,rfl⟩,e.symm⟩) g.1
 .rw[yA e,h.dm];constructor
  .rintro⟨tm,w⟩;rcases A4.1 (j.mem_iff.1 w)with i|i
   .simp only[coreD,A9]at i;exact yI i.2.1.symm e
   .exact⟨tm,i⟩
  .rintro⟨tm,w⟩;exact⟨tm,j.mem_iff.2 (Ad _ w)⟩
def CRep.reset{l':List AD}{d:AD}{i:Nat}{tm:Int}(h:CRep l D al)(m:l[i]?=A1 d)(o:HOk l')(n:HeapF leA l'.length (fK l'))(s:(l'.map coreD).Perm ((l.set i { d with tm:=tm}).map coreD)):CRep l' D (insA (d.id,tm) (delA al d.id)):=by
 have g:=(A0.1 m).1;have u:((l.set i { d with tm:=tm}).map coreD).Perm ((d.b,d.id,tm)::(l.eraseIdx i).map coreD):=(set_erase l i { d with tm:=tm} g).map coreD;have a:(l.map coreD).Perm (coreD d::(l.eraseIdx i).map coreD):=(erase_perm l i m).map coreD;have k:((d.id,d.tm)::((l.eraseIdx i).map coreD).map (·.2)).Perm al:=((a.map (λc:Nat×Al=>c.2)).symm.trans h.keys);have q:=del_cons k h.srt.2;have w:=s.trans u;have f:((l'.map coreD).map (·.2)).Perm (insA (d.id,tm) (delA al d.id)):=(w.map (λc:Nat×Al=>c.2)).trans ((q.symm.cons _).trans (insA_perm _ _).symm);refine⟨o,n,f,insA_srt (delA_srt h.srt _) λy p=>(delA_mem.1 p).2,?_,λid b=>?_⟩
 .have r:=f.length_eq;have a2:=w.length_eq;have a3:=a.length_eq;have a4:=h.keys.length_eq;have a5:=h.many;simp only[Ap,A8]at r a2 a3 a4;omega
 .rw[h.dm];constructor
  .rintro⟨t,j⟩;rcases A4.1 (a.mem_iff.1 j)with e|e
   .simp only[coreD,A9]at e;exact⟨tm,w.mem_iff.2 (by rw[e.1,e.2.1];exact Ai)⟩
   .exact⟨t,w.mem_iff.2 (Ad _ e)⟩
  .rintro⟨t,j⟩;rcases A4.1 (w.mem_iff.1 j)with e|e
   .simp only[A9]at e;exact⟨d.tm,a.mem_iff.2 (by rw[e.1,e.2.1];exact Ai)⟩
   .exact⟨t,a.mem_iff.2 (Ad _ e)⟩
def CRep.add{l':List AD}{d:AD}(h:CRep l D al)(g:getA al d.id=A7)(k:al.length<1024)(n:HOk l')(m:HeapF leA l'.length (fK l'))(f:(l'.map coreD).Perm (coreD d::l.map coreD)):CRep l' (qk D d.id d.b) (insA (d.id,d.tm) (delA al d.id)):=by
 rw[delA_none g];have j:((l'.map coreD).map (·.2)).Perm (insA (d.id,d.tm) al):=(f.map (λc:Nat×Al=>c.2)).trans ((h.keys.cons _).trans (insA_perm _ _).symm);refine⟨n,m,j,insA_srt h.srt λy o=>gnone.1 g y o,by rw[(insA_perm _ _).length_eq,A8];omega,λid b=>?_⟩;rw[qh2];have i:∀b tm,(b,d.id,tm)∉l.map coreD:=λb tm a=>by have:=(h.keys.mem_iff).1 (A3.2 ⟨_,a,rfl⟩);exact gnone.1 g _ this rfl
 by_cases e:d.id=id
 .rw[yB e];subst e;constructor
  .intro w;cases w;exact⟨d.tm,f.mem_iff.2 Ai⟩
  .rintro⟨tm,a⟩;rcases A4.1 (f.mem_iff.1 a)with w|w
   .simp only[coreD,A9]at w;rw[w.1]
   .exact yI w (i _ _)
 .rw[yA e,h.dm];constructor
  .rintro⟨tm,a⟩;exact⟨tm,f.mem_iff.2 (Ad _ a)⟩
  .rintro⟨tm,a⟩;rcases A4.1 (f.mem_iff.1 a)with w|w
   .simp only[coreD,A9]at w;exact yI w.2.1.symm e
   .exact⟨tm,w⟩
def CRep.idIn(h:CRep l D al){id:Int}(a:getA al id=A7):∀x∈l,x.id≠id:=λx w e=>by have:=(h.keys.mem_iff).1 (A3.2 ⟨coreD x,A3.2 ⟨x,w,rfl⟩,rfl⟩);exact gnone.1 a _ this e
def New_spec(h:St W F w):qb Zp 43 #[] w λv w'=>∃c,v=Zq (A1 ⟨c,0,A7⟩)/\St W (ClockA c ⟨0,[]⟩::F) w':=by
 refine F43_of (qs5.n (Zi Zk) ptV h λm w1 h=>zh h λc a h=>⟨c,rfl,?_⟩);have b:St W (Row c 187 [Zi Zk 0,Zl A7 0 0,.map (A1 m)]::qg (Zi Zk) ptV m []::F) a:=by refine h.perm (List.Perm.cons _ A6)
 refine ClockA.shut (m:=m) (l:=[]) (D:=[]) (p:=A7) (cap:=0) CRep.nil COk.new ?_;have d:St W (alsA []::Row c 187 [Zi Zk 0,Zl A7 0 0,.map (A1 m)]::qg (Zi Zk) ptV m []::F) a:=zj (l:=[]) b;have g:=z09 (α:=AD) (e:=316) (size:=1) (f:=ptD) (p:=A7) d;exact g.p2
def Now_spec(h:St W (ClockA c G::F) w):qb Zp 60 #[Zq (A1 ⟨c,0,A7⟩)] w λv w'=>v=Zi Zk G.now/\St W (ClockA c G::F) w':=by obtain⟨m,p,cap,l,D,b,a,h⟩:=ClockA.open_ h;exact F60_of (z7 (z8 0 h rfl rfl ⟨rfl,ClockA.shut b a h⟩))
def Set_spec(id tm:Int)(a:St W (ClockA c G::F) w):
 qb Zp 187 #[Zq (A1 ⟨c,0,A7⟩),Zi Zk id,Zi Zk tm] w λv w'=>v=Zi Zk (cSet G id tm).2/\St W (ClockA c (cSet G id tm).1::F) w':=by
 obtain⟨m,p,cap,l,D,g,N,a⟩:=ClockA.open_ a;have R:=g.len;have I:=g.many;refine F187_of (z7 (zv 0 a rfl rfl (qq1 kI uM iPt zPt 3 a rfl id Aw ?_)));rw[yB rfl];refine⟨((qe D id).map λb=>(⟨b,0,A7⟩:B9)),(qe D id).isSome,by cases qe D id<;>rfl,z7 (z8 0 a rfl rfl ?_)⟩;refine⟨λvs w=>vs=[Zb (decide (tm<=G.now\/tm>2199023255552))]/\St W (HL c G.now (A1 m) p cap l (qg (Zi Zk) ptV m D::F)) w,za (λh=>⟨?_,a⟩) λh=>⟨?_,a⟩,λb w hJ=>?_⟩
 .have n:=yC h;rw[h,yG (.inl n)]
 .have n:=yD h;congr 2;rw[decide_eq_decide];constructor;.exact .inr
  .rintro(o|o);.exact yI o n
   .exact o
 obtain⟨T,a⟩:=hJ;cases T;refine za (λh=>?_) λh=>?_
 .have h:=yC h;unfold cSet;rw[yB h];exact⟨rfl,ClockA.shut g N a⟩
 have h:=yD h;have f:=N.set id tm;unfold cSet at f⊢;rw[yA h]at f⊢;have Y:=g.isSome id;cases hb:qe D id with
 |some b=>
  obtain⟨i,d,r,rfl,rfl,z⟩:=g.get_some hb;have q:=(A0.1 r).1;rw[z]at f⊢;rw[yA (by simp)]at f⊢;refine zn rfl (z7 ?_);refine alsA.put (y:={ d with tm:=tm}) (a.at 2 rfl) r (j:=1) (by decide) rfl rfl λw Z=>?_;have a:St W (HL c G.now (A1 m) p cap l (qg (Zi Zk) ptV m D::F)) w\/True:=.inr trivial;have a:St W (Row c 187 [Zi Zk G.now,Zl p l.length cap,.map (A1 m)]::SlA 316 1 ptD p cap l::alsA (l.set i { d with tm:=tm})::qg (Zi Zk) ptV m D::F) w:=Z.p2.p2;have E:SlA 316 1 ptD p cap l=SlA 316 1 ptD p cap (l.set i { d with tm:=tm}):=by
   unfold SlA;rw[Ao,<-flat_set pt1 l i { d with tm:=tm} (Zq (A1 ⟨d.b,0,A7⟩)) rfl];have H:(l.flatMap ptD)[i]?=A1 (Zq (A1 ⟨d.b,0,A7⟩)):=by have:=qn9 pt1 (i:=i) (j:=0) r (v:=Zq (A1 ⟨d.b,0,A7⟩)) rfl;simpa using this
   obtain⟨n,o⟩:=A0.1 H;rw[<-o,B1]
  rw[E]at a;have C:(l.set i { d with tm:=tm}).length=l.length:=Ao;rw[<-C]at a;have u:(l.set i { d with tm:=tm})[i]?=A1 { d with tm:=tm}:=by rw[A2,yB rfl,yB q]
  have A:HoleI leA (l.set i { d with tm:=tm}).length (fK (l.set i { d with tm:=tm})) i:=by rw[C];refine g.heap.hole leA_ord q λk X=>?_;unfold fK;rw[A2,yA (Ne.symm X)]
  have O:HOk (l.set i { d with tm:=tm}):=by
   refine⟨λk x t=>?_,?_,by rw[C];exact g.ok.small⟩
   .rw[A2]at t;by_cases e:i=k
    .rw[yB e,yB q]at t;cases t;rw[<-e];exact g.ok.pl i d r
    .rw[yA e]at t;exact g.ok.pl k x t
   .have e:(l.set i { d with tm:=tm}).map (·.id)=l.map (·.id):=by
     rw[Az];have H:(l.map (·.id))[i]?=A1 d.id:=by rw[Ac,r];rfl
     obtain⟨n,o⟩:=A0.1 H;show(l.map (·.id)).set i d.id=_;rw[<-o,B1]
    rw[e];exact g.ok.nd
  have J:=O.pl i _ u;have P:=z6 W (HL c G.now (A1 m) p cap (l.set i { d with tm:=tm}) (qg (Zi Zk) ptV m D::F));refine⟨StC W _,zd a,z7 (z7 ⟨(i:Int),z0h λK w U=>?_,?_⟩)⟩
  .have:=HL.al P U u (j:=2) (v:=Zi Zk d.pl) rfl;rw[show d.pl=(i:Int)from J]at this;exact this
  refine zk (α:=List AD) (V:=λ_=>Zt #[]) (B:=λl'=>prA (HOk l'/\HeapF leA l'.length (fK l')/\(l'.map coreD).Perm ((l.set i { d with tm:=tm}).map coreD))::HL c G.now (A1 m) p cap l' (qg (Zi Zk) ptV m D::F)) [] P (λK w h=>?_) λl'=>⟨rfl,trivial,λK w h=>⟨rfl,?_⟩⟩;.exact(Fix_spec (F:=qg (Zi Zk) ptV m D::(F++pts K)) O A (by rw[C];exact q) h).of λv w' ⟨M,l',n,o,s,L⟩=>⟨M,l',rfl,z01 ⟨n,o,s⟩ L⟩
  obtain⟨⟨n,o,s⟩,a⟩:=(zb h).of_pr;exact ClockA.shut (G:=⟨G.now,insA (d.id,tm) (delA G.al d.id)⟩) (g.reset r n o s) f a
 |none=>
  have z:=g.get_none hb;rw[z]at f⊢;refine zm rfl (z7 (zr 0 a rfl rfl (za (λn=>?_) λn=>?_)))
  .have n:(l.length:Int)=1024:=by simpa using n
   rw[yB ⟨rfl,by omega⟩];exact⟨rfl,ClockA.shut g N a⟩
  .have n:¬(l.length:Int)=1024:=by simpa using n
   rw[yA (by rintro⟨_,o⟩;omega)]at f⊢;refine zh a λb w a=>z7 ?_;have a:St W (rowD ⟨b,id,tm,0⟩::HL c G.now (A1 m) p cap l (qg (Zi Zk) ptV m D::F)) w:=a;refine zv 1 a rfl rfl (qh1 kI uM 4 a rfl id b λw a=>z7 ?_);have a:St W (rowD ⟨b,id,tm,0⟩::HL c G.now (A1 m) p cap l (qg (Zi Zk) ptV m (qk D id b)::F)) w:=a;refine(Push_spec (d:=⟨b,id,tm,0⟩) g.ok g.heap (g.idIn z) (by omega) a).of λv w ⟨M,p',Q,l',o,s,L,a⟩=>⟨M,rfl,?_⟩;exact ClockA.shut (G:=⟨G.now,insA (id,tm) (delA G.al id)⟩) (g.add (d:=⟨b,id,tm,0⟩) z (by omega) o s L) f a
def Drop_spec(id:Int)(a:St W (ClockA c G::F) w):
 qb Zp 144 #[Zq (A1 ⟨c,0,A7⟩),Zi Zk id] w λv w'=>v=Zb (cDrop G id).2/\St W (ClockA c (cDrop G id).1::F) w':=by
 obtain⟨m,p,cap,l,D,e,u,a⟩:=ClockA.open_ a;have z:=z18 kI (a.at 3 rfl);refine F144_of (z7 (zv 0 a rfl rfl (qq1 kI uM iPt zPt 3 a rfl id Aw ?_)));rw[yB rfl];have f:=u.drop id;unfold cDrop at f⊢;cases hb:qe D id with
 |none=>have g:=e.get_none hb;refine⟨A7,Ay,rfl,zm rfl ?_⟩;rw[g,delA_none g];exact⟨rfl,ClockA.shut e u a⟩
 |some b=>
  obtain⟨i,d,q,rfl,rfl,g⟩:=e.get_some hb;have k:=e.ok.pl i d q;have t:=z6 W (HL c G.now (A1 m) p cap l (qg (Zi Zk) ptV m D::F));refine⟨A1 ⟨d.b,0,A7⟩,Aw,rfl,zn rfl ⟨StC W _,zd a,z7 (z7 ⟨(i:Int),z0h λr w E=>?_,?_⟩)⟩⟩
  .have:=HL.al t E q (j:=2) (v:=Zi Zk d.pl) rfl;rw[k]at this;exact this
  refine zk (α:=AD×List AD) (V:=λ_=>.iface 316 (Zq (A1 ⟨d.b,0,A7⟩))) (B:=λx=>prA (HOk x.2/\HeapF leA x.2.length (fK x.2)/\(l.map coreD).Perm (coreD d::x.2.map coreD))::rowD x.1::HL c G.now (A1 m) p cap x.2 (qg (Zi Zk) ptV m D::F)) (d,[]) t (λr w h=>?_) λx=>⟨trivial,λr w h=>z7 ?_⟩;.exact(Remove_spec (F:=qg (Zi Zk) ptV m D::(F++pts r)) e.ok e.heap q h).of λv w' ⟨y,l',H,A,s,n,o,C⟩=>⟨(y,l'),A,z01 ⟨s,n,o⟩ C⟩
  obtain⟨⟨s,n,o⟩,a⟩:=(zb h).of_pr;refine zv 1 a rfl rfl (qc5 kI uM 4 a rfl d.id λw a=>⟨?_,?_⟩);.rw[g];rfl
  .have a:St W (rowD x.1::HL c G.now (A1 m) p cap x.2 (qg (Zi Zk) ptV m (qp D d.id)::F)) w:=a;exact ClockA.shut (G:=⟨G.now,delA G.al d.id⟩) (e.del z s n o) f a.drop
end
end Ck
end
section
namespace Ck
def leftZ(n:Nat):List Ak->Av->Nat:=λvs _=>match vs.head? with
 |some (.slice _ i _)=>n - i
 |_=>0
def filt_split{t:Int}{done rest:List Al}(a:∀x∈done,x.2<=t)(w:∀x∈rest,¬x.2<=t):((done++rest).filter λx=>decide (x.2<=t))=done/\((done++rest).filter λx=>decide (¬x.2<=t))=rest:=by
 constructor;.rw[B5,Aa.2 (λx h=>by simpa using a x h),B0.2 (λx h=>by simpa using w x h),List.append_nil]
 .rw[B5,B0.2 (λx h=>by simpa using a x h),Aa.2 (λx h=>by simpa using w x h),List.nil_append]
section
variable{W w:World}{F:List Asn}{c m:Nat}{p:Option Addr}{cap:Nat}{l:List AD}{D:List (Int×Nat)}{G:ClG}{al:List Al}
def CRep.head{x:Al}{r:List Al}{d:AD}(h:CRep l D (x::r))(w:l[0]?=A1 d):keyD d=x:=by
 have b:=(A0.1 w).1;have f:keyD d∈x::r:=by rw[<-h.keys.mem_iff];exact A3.2 ⟨coreD d,A3.2 ⟨d,B3 w,rfl⟩,rfl⟩
 have m:leA x (keyD d):=by
  rcases A4.1 f with e|e;.rw[e];exact(leA_ord.total _ _).elim id id
  .exact(Ab.1 h.srt.1).1 _ e
 have j:x∈(l.map coreD).map (·.2):=h.keys.mem_iff.2 Ai;obtain⟨n,i,e⟩:=A3.1 j;obtain⟨y,g,rfl⟩:=A3.1 i;obtain⟨k,a⟩:=B2 g;have c:leA (keyD d) x:=by have:=h.heap.least leA_ord k (A0.1 a).1;rw[fK_at w,fK_at a]at this;rw[<-e];exact this
 exact leA_anti c m
def delA_head{x:Al}{r:List Al}(h:((x::r).map (·.1)).Nodup):delA (x::r) x.1=r:=by simp only[Ag,Ah]at h;unfold delA;rw[List.filter_cons_of_neg (by simp),Aa];intro y w;have:y.1≠x.1:=λe=>h.1 (by rw[<-e];exact A3.2 ⟨y,w,rfl⟩);simpa using this
def Tick_spec(n:Int)(hn: -9223372036854775808<=n/\n<=9223372036854775807)(a:St W (ClockA c G::F) w):
 qb Zp 127 #[Zq (A1 ⟨c,0,A7⟩),Zi Zk n] w λv w'=>∃C A,v=Zt #[.slice C (cTick G n).2.1.length A,Zi Zk (cTick G n).2.2]/\St W (ClockA c (cTick G n).1::SlA 3 1 iV C A (cTick G n).2.1::F) w':=by
 have hG:=ClockA.ok a;have hn0:=hG.now0;have hn1:=hG.now1;have hmn:maxN=1099511627776:=rfl;have i:=hG.tick n;have M:n<0\/n>maxN - G.now->∀w,St W (ClockA c G::F) w->∃C A,Zt #[Zl A7 0 0,Zi Zk 1]=Zt #[.slice C (cTick G n).2.1.length A,Zi Zk (cTick G n).2.2]/\St W (ClockA c (cTick G n).1::SlA 3 1 iV C A (cTick G n).2.1::F) w:=λh w a=>by unfold cTick;rw[yB h];exact⟨A7,0,rfl,(z09 a).p1⟩
 refine F127_of (za (λh=>M (.inl (yC h)) w a) λh=>?_);have h:=yD h;have Q:=a;obtain⟨m,p,cap,l,D,k,_,a⟩:=ClockA.open_ a;refine z7 (z8 0 a rfl rfl ?_);rw[w64 (n:=1099511627776 - G.now) (by omega) (by omega)];refine za (λh2=>M (.inr (yC h2)) w Q) λh2=>?_;have h2:=yD h2;clear Q;have hnc:¬(n<0\/n>maxN - G.now):=by omega
 unfold cTick at i⊢;rw[yA hnc]at i⊢;dsimp only at i⊢;refine z7 (z8 0 a rfl rfl (z7 ?_));rw[w64 (n:=G.now+n) (by omega) (by omega)];refine St1.zz 0 a rfl λw a=>?_;have a:St W (HL c (G.now+n) (A1 m) p cap l (qg (Zi Zk) ptV m D::F)) w:=a;generalize ht:G.now+n=t at a i⊢;have a:St W (HL c t (A1 m) p cap l (qg (Zi Zk) ptV m D::SlA 3 1 iV A7 0 (List.map (·.1) ([]:List Al))::F)) w:=zf 0 4 (z09 (α:=Int) (e:=3) (size:=1) (f:=iV) (p:=A7) a) rfl;refine⟨λvs w=>∃p cap l D done b p1 c1,vs=[Zl p1 (done.map (λx:Al=>x.1)).length c1]/\G.al=done++b/\(∀x∈done,x.2<=t)/\CRep l D b/\St W (HL c t (A1 m) p cap l (qg (Zi Zk) ptV m D::SlA 3 1 iV p1 c1 (done.map (λx:Al=>x.1))::F)) w,leftZ (G.al.length+1),⟨p,cap,l,D,[],G.al,A7,0,rfl,rfl,by simp,k,a⟩,λE n2 J w hI=>?_⟩;clear k a;obtain⟨p,cap,l,D,done,b,p1,c1,he,z,o,k,a⟩:=hI;cases he;have Y:=k.len;have hmany:=hG.many;have T:∀w,(∀x∈b,¬x.2<=t)->St W (HL c t (A1 m) p cap l (qg (Zi Zk) ptV m D::SlA 3 1 iV E J (done.map (λx:Al=>x.1))::F)) w->∃C A,Zt #[Zl E (done.map (λx:Al=>x.1)).length J,Zi Zk 0]=Zt #[.slice C ((G.al.filter λx=>decide (x.2<=t)).map (λx:Al=>x.1)).length A,Zi Zk 0]/\St W (ClockA c ⟨t,G.al.filter λx=>decide (¬x.2<=t)⟩::SlA 3 1 iV C A ((G.al.filter λx=>decide (x.2<=t)).map (λx:Al=>x.1))::F) w:=λw K a=>by obtain⟨e1,e2⟩:=filt_split o K;rw[z]at i⊢;rw[e1,e2];rw[e2]at i;exact⟨E,J,rfl,ClockA.shut (G:=⟨t,b⟩) k i a⟩
 have R:=z6 W (HL c t (A1 m) p cap l (qg (Zi Zk) ptV m D::SlA 3 1 iV E J (done.map (λx:Al=>x.1))::F));refine⟨StC W _,zd a,z7 ⟨_,_,_,QtL.a 0 R rfl rfl,za (λu=>?_) λL=>?_⟩⟩
 .have u:0<l.length:=by have:=yC u;omega
  obtain⟨d,hd⟩:=get_of u;obtain⟨x,r,rfl⟩:∃x r,b=x::r:=by
   cases b with
   |nil=>rw[Aq]at Y;omega
   |cons x r=>exact⟨x,r,rfl⟩
  have Z:=k.head hd;refine z7 (z7 ⟨_,_,_,QtL.a 0 R rfl rfl,z0d R pt1 (by decide) HL.rd a rfl u hd λa26 h26=>⟨_,QtP.at λG w N=>h26 N 0 _ rfl,z7 ⟨_,z0h λG w N=>HL.al R N hd (j:=1) rfl,_,zi 0 R rfl rfl,λG' w N=>?_⟩⟩⟩);have a:=zb N;have I:d.tm=x.2:=by rw[<-Z];rfl
  have X:d.id=x.1:=by rw[<-Z];rfl
  refine za (λg=>?_) λg=>?_
  .have g:=yC g;have hk:=z18 kI (a.at 3 rfl);refine z7 ((Pop_spec k.ok k.heap hd a).of λv w ⟨d',l',O,hv,ho,hh,hp,a⟩=>?_);subst hv;obtain⟨b',id',tm',s⟩:=d';simp only[coreD,A9]at O;obtain⟨rfl,rfl,rfl⟩:=O;have H:=z6 W (rowD ⟨d.b,d.id,d.tm,s⟩::HL c t (A1 m) p cap l' (qg (Zi Zk) ptV m D::SlA 3 1 iV E J (done.map (λx:Al=>x.1))::F));refine⟨_,assert_pt _,_,rfl,StC W _,zd a,z7 (z7 ⟨_,z0a 1 H rfl rfl,_,zi 0 H rfl rfl,?_⟩)⟩;refine Ef.n (α:=Unit) (V:=λ_=>Zt #[]) (B:=λ_=>[qg (Zi Zk) ptV m (qp D d.id)]) () 4 H rfl (λG' w h=>qc5 kI uM 0 h rfl d.id λw' h=>⟨(),rfl,?_⟩) λ_=>⟨rfl,trivial,λG' w h=>z7 ?_⟩;.exact z17 4 rfl (B:=[_]) h
   have a:=zb h;have a:St W (rowD ⟨d.b,d.id,d.tm,s⟩::HL c t (A1 m) p cap l' (qg (Zi Zk) ptV m (qp D d.id)::SlA 3 1 iV E J (done.map (λx:Al=>x.1))::F)) w:=a;refine z8 0 a rfl rfl (zh a λU w a=>?_);have a:St W (Row U 3 (Ar iV [d.id])::rowD ⟨d.b,d.id,d.tm,s⟩::HL c t (A1 m) p cap l' (qg (Zi Zk) ptV m (qp D d.id)::SlA 3 1 iV E J (done.map (λx:Al=>x.1))::F)) w:=a;have hdl:(done.map (λx:Al=>x.1)).length<=1024:=by have:=yE List.length z;rw[Au]at this;rw[Ap];omega
   have hal':G.al.length=done.length+1+r.length:=by rw[z,Au,A8];omega
   refine qf3 (os:=done.map (λx:Al=>x.1)) (xs:=[d.id]) iV1 uIs (.inr ⟨_,uIs⟩) iInt sInt zInt rfl 6 a rfl (z0m) rfl iVn (by rw[bInt];simp only[A8,Aq];omega) (by simp only[A8,Aq];omega) λp3 c3 w a=>⟨_,_,_,rfl,?_⟩;have a:St W (Row U 3 (Ar iV [d.id])::rowD ⟨d.b,d.id,d.tm,s⟩::HL c t (A1 m) p cap l' (qg (Zi Zk) ptV m (qp D d.id)::SlA 3 1 iV p3 c3 (done.map (λx:Al=>x.1)++[d.id])::F)) w:=a;have a:=a.drop.drop;have ed:done.map (λx:Al=>x.1)++[d.id]=(done++[x]).map (λx:Al=>x.1):=by rw[A5,X];rfl
   rw[ed]at a⊢;have P:=k.del (d:=d) hk ho hh hp;rw[show delA (x::r) d.id=r by rw[X];exact delA_head k.srt.2]at P;refine⟨⟨p,cap,l',_,done++[x],r,p3,c3,rfl,by rw[z];simp,λy q=>?_,P,a⟩,?_⟩
   .rcases List.mem_append.1 q with q|q;.exact o y q
    .simp at q;subst q;rw[<-I];exact g
   .show G.al.length+1 -((done++[x]).map (λx:Al=>x.1)).length<G.al.length+1 -(done.map (λx:Al=>x.1)).length;rw[Ap,Ap,Au,A8,Aq];omega
  .have g:¬d.tm<=t:=yD g;refine T w (λy q=>?_) a;rcases A4.1 q with rfl|q;.rw[<-I];exact g
   .have h3:x.2<y.2\/(x.2=y.2/\x.1<=y.1):=(Ab.1 k.srt.1).1 y q;have h4:d.tm<=y.2:=by rw[I];rcases h3 with h3|h3<;>omega
    exact λh5=>g (Int.le_trans h4 h5)
 .have L:=yD L;have h0:b=[]:=List.eq_nil_of_length_eq_zero (by omega);subst h0;exact λG' w h=>T w (by simp) (zb h)
end
end Ck
end
end Go.Proofs.YtfjifcfbmhpcaaaGreatDoor
