/-
  A part of the proof of TopEcho.
-/
import Derived.Test.YtfjifcfbmhpcaaaGreatDoorE21
import Derived.Test.YtfjifcfbmhpcaaaGreatDoorE20
import Derived.Test.YtfjifcfbmhpcaaaGreatDoorE03
import Derived.Test.YtfjifcfbmhpcaaaGreatDoorE14
import Derived.BigCall
import Derived.Test.YtfjifcfbmhpcaaaGreatDoorE02
import Derived.Test.YtfjifcfbmhpcaaaGreatDoorE00
set_option linter.defProp false
set_option linter.unusedVariables false
set_option linter.unusedSimpArgs false
namespace Go.Proofs.YtfjifcfbmhpcaaaGreatDoor
open Go
open Go.Proofs.Tryz renaming prog → Zp
open Go.IntKind renaming i64 → Zk, wrap → Zw
open Go.Value renaming int → Zi, pointer → Zq, bool → Zb, tuple → Zt, slice → Zl, agg → Zg
open _root_.List renaming getElem?_eq_some_iff->A0,map_append->A2,getElem?_set->A3,perm_append_comm->A5,perm_middle->A6,getElem?_append_left->A7,filter_append->A8,flatMap_cons->A9,getElem?_map->Aa,mem_cons->Ac,pairwise_cons->Aj,getElem?_eq_getElem->Ak,length_cons->Am,length_filter_le->Ap,filter_sublist->Aq,map_cons->Ar,length_append->As,mem_singleton->Au,mem_map->Av,map_set->Aw,append_assoc->Ax,flatMap->Ay,length_map->B0,length_nil->B1,mem_append->B2,nodup_cons->B3,length_set->B4,map_map->B5,filter->B9,map->Ba
open _root_.Option renaming some->A1,none->Ag
open Go.Lib renaming compareInt->A4
open _root_.Int renaming toNat->Ab
open Go renaming World->Ad,Value->Ae,Addr->Az
open _root_.Nat renaming le_refl->Af,eq_zero_or_pos->Ai,le_trans->Ao,sub_zero->B6,lt_or_ge->B7
open _root_.Bool renaming false->Ah,true->An
section
def qlp(x:Int)(w:Ad):qb Zp 153 #[Zi Zk x] w λv w'=>v=Zb Ah/\w'=w:=by refine F153_of ?_;simp
def ql01(x y:Int)(w:Ad):qb Zp 88 #[Zi Zk x,Zi Zk y] w λv w'=>v=Zi Zk (A4 x y)/\w'=w:=by
 unfold A4;refine F88_of ((qlp x w).of λv w1 ⟨b,d⟩=>⟨_,b,(qlp y w1).of λv e ⟨b,a⟩=>⟨_,b,zl rfl (zl rfl (za (λh=>⟨?_,a.trans d⟩) λh=>za (λc=>⟨?_,a.trans d⟩) λc=>⟨?_,a.trans d⟩))⟩⟩);.rw[yB (yC h)]
 .rw[yA (yD h),yB (yC c)]
 .rw[yA (yD h),yA (yD c)]
def qfz(x h y a:Int)(w:Ad):qb Zp 87 #[Zg #[Zi Zk x,Zi Zk h],Zg #[Zi Zk y,Zi Zk a]] w λv w'=>v=Zi Zk (A4 x y)/\∃q os,w'=Sort.grow (w.drewN q) os:=by refine F87_of ?_;unfold qh;have c:=(St.refl w).allocRow #[Zi Zk x,Zi Zk h] 122;have b:=c.allocRow #[Zi Zk y,Zi Zk a] 122;refine z8 1 b rfl rfl (z8 0 b rfl rfl ((ql01 x y _).of λv w' ⟨d,e⟩=>⟨_,d,rfl,0,#[.cells #[Zi Zk x,Zi Zk h] 122,.cells #[Zi Zk y,Zi Zk a] 122],?_⟩));rw[e,Sort.alloc_eq_grow,Sort.alloc_eq_grow,Sort.grow_grow];rfl
def q52(oth:Int->Int)(v:Int):List Ae:=[Zi Zk v,Zi Zk (oth v)]
def qc9(oth:Int->Int)(v:Int):(q52 oth v).length=2:=rfl
def qyy(oth:Int->Int)(x:Int):∀v∈q52 oth x,qn1 v:=λv h=>by simp only[q52,Ac,List.not_mem_nil,yK]at h;rcases h with rfl|rfl<;>trivial
def qrs:Zp.underlying 50=A1 (.slice 122):=Tryz.underlying50
def qc01:Zp.info? 122=A1 Tryz.t122:=by kernel_rfl
def qs01:Tryz.t122.size=2:=rfl
def q601:Tryz.t122.bytes<=100:=by decide+kernel
def qm01:∃z,Tryz.t122.zero=A1 z/\z.cells.size=2:=⟨_,rfl,rfl⟩
def qzk(x y:Int):(!(ltOf A4) y x)=decide (x<=y):=by
 unfold ltOf A4;by_cases w:y<x;.rw[yB w];simp;omega
 .rw[yA w];by_cases h:y>x;.rw[yB h];simp;omega
  .rw[yA h];simp;omega
def q5z:Sort.SWO (ltOf A4):=by
 have h:∀x y:Int,ltOf A4 x y=decide (x<y):=λx y=>by
  have:=qzk y x;rw[Bool.eq_iff_iff]at this⊢;simp only[Bool.not_eq_true',yJ]at this⊢;by_cases b:x<y
  .constructor;.intro _;exact b
   .intro _;cases a:ltOf A4 x y with
    |true=>rfl
    |false=>have:=this.1 a;omega
  .constructor
   .intro a;have w:=this.2 (by omega);rw[a]at w;cases w
   .intro h;exact yI h b
 refine⟨λx=>by rw[h];simp,λx y z c w=>?_,λx y z c w=>?_⟩;.rw[h]at*;simp at*;omega
 .rw[h]at*;simp at*;omega
section
variable{W w:World}{F:List Asn}{oth:Int->Int}
def qmr{p:Option Az}{c:Nat}{zs:List Int}(K:zs.length<=1000000)(i:St W (SlA 122 2 (q52 oth) p c zs::F) w):
 qb Zp 86 #[Zl p zs.length c,.func (.func 87) #[] #[]] w λv w'=>v=Zt #[]/\St W (SlA 122 2 (q52 oth) p c (q91 leI zs)::F) w':=by
 by_cases z:zs=[]
 .subst z;have key:=AnyF.slices_SortFunc_none Tryz.sortPair p c (.func (.func 87) #[] #[]) w;exact Calls.mono key λe w' ⟨b,f⟩=>⟨_,b,rfl,by subst f;exact i⟩
 have d:0<zs.length:=by cases zs with|nil=>exact yI rfl z|cons _ _=>simp
 have j:zs.length<=c:=SlA.le i;obtain⟨q,all,G,a,s,r⟩:=qi.opened d i;clear i;subst G;have B:=qh3 (q52 oth) 2 (qc9 oth) zs;have H:=q2v (k:=2) (qc9 oth) (by omega) r s (by rw[a];omega);have A:∀args w,(callFunc 87 args).run Zp w=.ok (.enter 87 args) w:=enters_of Tryz.func87 (by kernel_rfl) rfl;have key:=AnyQ.slices_SortFunc_total Tryz.sortPair 2 (λw=>by kernel_rfl) (λw=>by kernel_rfl) (q52 oth) (qc9 oth) (λx v g=>by simp[q52]at g;rcases g with rfl|rfl<;>rfl) A4 q5z 87 #[] q 0 c zs.toArray w A
  (λm os dk J x y=>Calls.mono (qfz x (oth x) y (oth y) _) λe w' ⟨v,b,g,f⟩=>⟨by rw[b,g],f⟩) H (q5j r) (by simp;omega) (λx y E C=>by have u:=qzk y x;have t:=qzk x y;rw[E]at u;rw[C]at t;have I:=yC u.symm;have a2:=yC t.symm;omega)
 have e:(zs.toArray.toList.mergeSort λx y=>!(ltOf A4) y x)=q91 leI zs:=by rw[show(λx y:Int=>!(ltOf A4) y x)=λx y=>decide (x<=y)from funext λx=>funext λy=>qzk x y];exact qee (List.Perm.refl _)
 rw[e]at key;have l:zs.toArray.size=zs.length:=by simp
 rw[l]at key;refine Calls.mono key λe w' ⟨b,n,os,f⟩=>⟨_,b,rfl,?_⟩;subst f;have o:(q91 leI zs).length=zs.length:=(qv1 leI zs).length_eq;have h:=qh3 (q52 oth) 2 (qc9 oth) (q91 leI zs);have D:St W (Row q 122 ((q91 leI zs).flatMap (q52 oth)++all.drop ((q91 leI zs).flatMap (q52 oth)).length)::F) (sortWorldK (q52 oth) 2 w q 0 n (q91 leI zs).toArray os):=by unfold sortWorldK Sort.putRowK;rw[qnl (qc9 oth) (by omega)];exact r.putRow_id (by rw[h,a];omega) n os
 refine z0v (all:=(q91 leI zs).flatMap (q52 oth)++all.drop ((q91 leI zs).flatMap (q52 oth)).length) ?_ (by rw[o];exact j) (by rw[<-h,List.take_left' rfl]) D;rw[As,List.length_drop,h,a];omega
end
section
variable{W w:World}{F:List Asn}{t:Nat}{P:qd6}
def qfk(hl:P.ends.length<=1000000)(a:St W (q13 t P::F) w):qb Zp 47 #[qc t] w λv w'=>∃p c,v=Zl p (qw4 P).length c/\St W (SlA 122 2 (q52 (qb4 P)) p c (qw4 P)::q13 t P::F) w':=by
 obtain⟨m1,m2,a⟩:=q13.open_ a;have B:=z18 kI (zf 1 0 a rfl);refine F47_of (z7 (zv 0 a rfl rfl (qg9 uM1 1 a rfl λg w a=>?_)));have a:St W (qd1 (Zi Zk) qy4 m1 g P.ends []::SlA 122 2 (q52 (qb4 P)) Ag 0 []::Row t 179 [.map (A1 m1),.map (A1 m2)]::qg (Zi Zk) (Zi Zk) m2 P.ever::F) w:=zf 0 1 (z0a (zf 1 0 a rfl)) rfl;refine⟨λvs w=>∃(V:List (Int×(Int×Bool))) (p:Option Az) (c:Nat),vs=[Zl p ((V.filter λx=>x.2.2).map (·.1)).length c]/\V.length<=P.ends.length/\(∀x∈V,x∈P.ends)/\St W (qd1 (Zi Zk) qy4 m1 g P.ends V::SlA 122 2 (q52 (qb4 P)) p c ((V.filter λx=>x.2.2).map (·.1))::Row t 179 [.map (A1 m1),.map (A1 m2)]::qg (Zi Zk) (Zi Zk) m2 P.ever::F) w,λ_ w=>q74 g P.ends.length w,⟨[],Ag,0,rfl,by simp,by simp,a⟩,λop on n w0 R=>?_⟩;obtain⟨V,p,c,X,hVl,q,u⟩:=R;cases X;have r:=qd1.left u P.ends.length;refine qqb kI 0 u rfl (λy M o w a=>?_) λx d Y w a=>qp9 0 a rfl λa=>?_
 .have hp:V.Perm P.ends:=(List.perm_ext_iff_of_nodup M (ql4 (·.1) B)).2 λx=>⟨o x,y x⟩;have A:((V.filter λx=>x.2.2).map (·.1)).Perm ((P.ends.filter λx=>x.2.2).map (·.1)):=(hp.filter _).map _;have a:St W (SlA 122 2 (q52 (qb4 P)) op n ((V.filter λx=>x.2.2).map (·.1))::qg (Zi Zk) qy4 m1 P.ends::Row t 179 [.map (A1 m1),.map (A1 m2)]::qg (Zi Zk) (Zi Zk) m2 P.ever::F) w:=zf 0 1 a rfl;have H:((V.filter λx=>x.2.2).map (·.1)).length<=1000000:=by rw[B0];exact Ao (Ap _ _) (by omega)
  refine(qmr H a).of λv w ⟨Z,a⟩=>⟨Z,op,n,?_,?_⟩
  .unfold qw4;rw[(qv1 leI _).length_eq,A.length_eq]
  .rw[q88 A]at a;exact(q13.shut m1 m2 (zo 4 [2,1,3,0] a rfl) |> λh=>St.p1 h)
 .obtain⟨k,e⟩:=x;have E:qe P.ends k=A1 e:=q24 B d;have C:qb4 P k=e.1:=by unfold qb4;rw[E];rfl
  refine⟨_,_,_,rfl,zh a λb w a=>St1.zz 0 a rfl λw a=>St1.zz 0 a rfl λw a=>zw 0 a rfl rfl ?_⟩;have a:St W (Row b 195 [Zi Zk e.1,Zb e.2]::qd1 (Zi Zk) qy4 m1 g P.ends (V++[(k,e)])::SlA 122 2 (q52 (qb4 P)) op n ((V.filter λx=>x.2.2).map (·.1))::Row t 179 [.map (A1 m1),.map (A1 m2)]::qg (Zi Zk) (Zi Zk) m2 P.ever::F) w:=a;have h0:V.length<P.ends.length:=by have U:St W (Row b 195 [Zi Zk e.1,Zb e.2]::SlA 122 2 (q52 (qb4 P)) op n ((V.filter λx=>x.2.2).map (·.1))::qd1 (Zi Zk) qy4 m1 g P.ends (V++[(k,e)])::Row t 179 [.map (A1 m1),.map (A1 m2)]::qg (Zi Zk) (Zi Zk) m2 P.ever::F) w:=zf 1 2 a rfl;exact q58 kI U
  have l:∀(w':Ad) (G:List Asn),St W (qd1 (Zi Zk) qy4 m1 g P.ends (V++[(k,e)])::G) w'->q74 g P.ends.length w'<q74 g P.ends.length w0:=λw' G h=>by rw[r,qd1.left h P.ends.length,As,List.length_singleton];omega
  refine za (λh=>z8 0 a rfl rfl (zh a λj w a=>?_)) λh=>⟨⟨V++[(k,e)],op,n,?_,by simp;omega,λx d=>?_,?_⟩,l w _ a.drop⟩
  .obtain⟨z,T,K⟩:=qm01;have Q:((V.filter λx=>x.2.2).map (·.1)).length<=V.length:=by rw[B0];exact Ap _ _
   have J:∀(j:Nat) (G:List Asn),Rd (Row j 122 [Zi Zk k,Zi Zk e.1]::G) (A1 ⟨j,0,Ag⟩) ([k].flatMap (q52 (qb4 P))):=λj G=>z0x 0 λi v h=>by
    have s:[k].flatMap (q52 (qb4 P))=[Zi Zk k,Zi Zk e.1]:=by simp[q52,C]
    rw[s]at h;rw[Nat.zero_add];exact h
   have L:(((V.filter λx=>x.2.2).map (·.1)).length+[k].length)*Tryz.t122.bytes<=140737488355328:=by have:=q601;simp only[Am,B1];exact Ao (Nat.mul_le_mul_left _ this) (by omega)
   have D:((V.filter λx=>x.2.2).map (·.1)).length+[k].length<=9223372036854775807:=by simp only[Am,B1];omega
   have a:St W (Row j 122 [Zi Zk k,Zi Zk e.1]::Row b 195 [Zi Zk e.1,Zb e.2]::qd1 (Zi Zk) qy4 m1 g P.ends (V++[(k,e)])::SlA 122 2 (q52 (qb4 P)) op n ((V.filter λx=>x.2.2).map (·.1))::Row t 179 [.map (A1 m1),.map (A1 m2)]::qg (Zi Zk) (Zi Zk) m2 P.ever::F) w:=a;have key:=λFF hb I=>qf3 (P:=Zp) (ty:=50) (F:=FF) (sT:=50) (xT:=50) (m:=1) (sc:=1) (sp:=A1 ⟨j,0,Ag⟩) (f:=q52 (qb4 P)) (os:=(V.filter λx=>x.2.2).map (·.1)) (xs:=[k]) (qc9 (qb4 P)) qrs (.inr ⟨_,qrs⟩) qc01 qs01 T K 3 a rfl (J j _) rfl (qyy (qb4 P)) hb I;refine key _ L D λN O w a=>?_;have a:St W (Row j 122 [Zi Zk k,Zi Zk e.1]::Row b 195 [Zi Zk e.1,Zb e.2]::qd1 (Zi Zk) qy4 m1 g P.ends (V++[(k,e)])::SlA 122 2 (q52 (qb4 P)) N O (((V.filter λx=>x.2.2).map (·.1))++[k])::Row t 179 [.map (A1 m1),.map (A1 m2)]::qg (Zi Zk) (Zi Zk) m2 P.ever::F) w:=a;refine⟨_,_,_,rfl,⟨V++[(k,e)],N,O,?_,by simp;omega,λx d=>?_,?_⟩,l w _ (zf 2 0 a rfl)⟩;.rw[A8,A2];simp[show e.2=An from h]
   .rcases B2.1 d with d|d;.exact q x d
    .rw[Au.1 d];assumption
   .rw[A8,A2];have s:Ba (·.1) (B9 (λx:Int×(Int×Bool)=>x.2.2) [(k,e)])=[k]:=by simp[show e.2=An from h]
    rw[s];exact zo 6 [2,3,4,5] a rfl
  .rw[A8,A2];simp[show e.2=Ah from h]
  .rcases B2.1 d with d|d;.exact q x d
   .rw[Au.1 d];assumption
  .rw[A8,A2];have s:Ba (·.1) (B9 (λx:Int×(Int×Bool)=>x.2.2) [(k,e)])=[]:=by simp[show e.2=Ah from h]
   rw[s,List.append_nil];exact a.drop
end
end
section
namespace Cn
open Go Go.Proofs.YtfjifcfbmhpcaaaGreatDoor
def All_spec{W w:Ad}{F:List Asn}{t:Nat}{T:CT}(i:T.L.length<=1000000)(d:St W (TabA t T::F) w):qb Zp 50 #[qc t] w λv w'=>∃p c,v=Zl p T.L.length c/\St W (qi 3 1 p T.L.length c ((q91 leI (T.L.map (·.1))).map (Zi Zk))::TabA t T::F) w':=by
 obtain⟨m,d⟩:=TabA.open_ d;refine F50_of (z7 (zv 0 d rfl rfl ?_));obtain⟨bs,e,g⟩:=z1e d.p1;have a:(qx (Prod.fst (α:=Nat) (β:=CnD)) bs).length=T.L.length:=by rw[q46,<-e,q46]
 have b:(qx (Prod.fst (α:=Nat) (β:=CnD)) bs).map (·.1)=T.L.map (·.1):=by rw[qx5,<-e,qx5]
 refine q3y (by rw[a];exact i) 0 g rfl λp c w' h=>⟨_,_,_,rfl,p,c,by rw[a],?_⟩;rw[a,b]at h;have f:=(z19 (A:=ConnA) bs e (zf 0 2 h rfl)).p1;exact(TabA.shut m (zf 1 0 (zf 0 2 f rfl) rfl):St W (TabA t T::qi 3 1 p T.L.length c ((q91 leI (T.L.map (·.1))).map (Zi Zk))::F) w').p1
end Cn
end
section
namespace Ck
def mrow(P:Program)(t:TypeId)(name:String):Option (Nat×Option (FuncId×Bool)):=(P.info? t).bind λi=>(i.methods.find? (·.name==name)).map λm=>(m.path.size,m.func)
def mLen:mrow Zp 318 "Len"=A1 (0,A1 (429,Ah)):=by decide+kernel
def uP:Zp.underlying 318=A1 (.pointer 185):=Tryz.underlying318
def uL:Zp.underlying 185=A1 (.slice 316):=Tryz.underlying185
section
variable{P:Program}{w:World}{t l e:TypeId}{name:String}{f:FuncId}{vs:List Value}{K:Value->World->Prop}
def meth_row(c:0<P.types.size){b:Bool}(h:mrow P t name=A1 (0,A1 (f,b))):∃k i m,P.types.size+Made.depth=k+1/\P.info? t=A1 i/\i.methods.find? (·.name==name)=A1 m/\m.path=#[]/\m.func=A1 (f,b):=by unfold mrow at h;obtain⟨i,w,h⟩:=Option.bind_eq_some_iff.1 h;obtain⟨m,a,h⟩:=Option.map_eq_some_iff.1 h;simp only[Prod.mk.injEq]at h;exact⟨P.types.size+Made.depth - 1,i,m,by omega,w,a,Array.eq_empty_of_size_eq_zero h.1,h.2⟩
def inv_val0{a:Az}{p:Option Az}{n c:Nat}(z:0<P.types.size)(y:P.underlying t=A1 (.pointer l))(u:P.underlying l=A1 (.slice e))(o:mrow P t name=A1 (0,A1 (f,Ah)))(q:q33 P f=An)(g:w.cell? a=A1 (Zl p n c))
 (h:qb P f (Zl p n c::vs).toArray w K):q6d P name (.iface t (Zq (A1 a))) vs w K:=by
 obtain⟨k,i,m,j,s,A,b,r⟩:=meth_row z o;have x:∀(v:String) (w:Ad),(Builtin.ssaWrapNilChk_ #[t] t #[Zq (A1 a),strVal "",strVal v]).run P w=.ok (Zq (A1 a)) w:=λ_ _=>rfl;have d:(load a).run P w=.ok (Zl p n c) w:=by unfold load;simp[Sem.run,g]
 refine⟨f,(Zl p n c::vs).toArray,?_,h⟩;simp[invoke,callMethod,j,method,typeInfo,s,A,b,follow,r,receiverAt,run_underlying y,Place.get,x,asAddr,loadVar,isAgg,run_underlying u,d,g,q04 q]
def inv_ptr0{a:Option Az}(o:0<P.types.size)(n:P.underlying t=A1 (.pointer l))(d:mrow P t name=A1 (0,A1 (f,An)))(e:q33 P f=An)
 (h:qb P f (Zq a::vs).toArray w K):q6d P name (.iface t (Zq a)) vs w K:=by
 obtain⟨k,i,m,c,j,p,b,g⟩:=meth_row o d;refine⟨f,(Zq a::vs).toArray,?_,h⟩;simp[invoke,callMethod,c,method,typeInfo,j,p,b,follow,g,receiverAt,run_underlying n,Place.get,q04 e]
end
def types0:0<Zp.types.size:=by decide+kernel
def inv_val{w:Ad}{a:Az}{name:String}{f:FuncId}{vs:List Ae}{p:Option Az}{n c:Nat}{K:Ae->Ad->Prop}(e:mrow Zp 318 name=A1 (0,A1 (f,Ah)))(b:q33 Zp f=An)(d:w.cell? a=A1 (Zl p n c))
 (h:qb Zp f (Zl p n c::vs).toArray w K):q6d Zp name (.iface 318 (Zq (A1 a))) vs w K:=inv_val0 types0 uP uL e b d h
def inv_ptr{w:Ad}{a:Option Az}{name:String}{f:FuncId}{vs:List Ae}{K:Ae->Ad->Prop}(c:mrow Zp 318 name=A1 (0,A1 (f,An)))(b:q33 Zp f=An)
 (h:qb Zp f (Zq a::vs).toArray w K):q6d Zp name (.iface 318 (Zq a)) vs w K:=inv_ptr0 types0 uP c b h
end Ck
end
section
namespace Ck
section
variable{α:Type}(le:α->α->Prop)
def par(k:Nat):Nat:=(k - 1)/2
def HeapF(n:Nat)(f:Nat->α):Prop:=∀k,0<k->k<n->le (f (par k)) (f k)
def UpI(n:Nat)(f:Nat->α)(j:Nat):Prop:=(∀k,0<k->k<n->k≠j->le (f (par k)) (f k))/\(∀k,0<k->k<n->par k=j->0<j->le (f (par j)) (f k))
def HoleI(n:Nat)(f:Nat->α)(i:Nat):Prop:=(∀k,0<k->k<n->k≠i->par k≠i->le (f (par k)) (f k))/\(∀k,0<k->k<n->par k=i->0<i->le (f (par i)) (f k))
def DnI(n:Nat)(f:Nat->α)(i:Nat):Prop:=(∀k,0<k->k<n->par k≠i->le (f (par k)) (f k))/\(∀k,0<k->k<n->par k=i->0<i->le (f (par i)) (f k))
def sw(f:Nat->α)(i j:Nat):Nat->α:=λk=>if k=i then f j else if k=j then f i else f k
structure Order:Prop where
 trans:∀a b c,le a b->le b c->le a c
 total:∀a b,le a b\/le b a
def par_lt{k:Nat}(h:0<k):par k<k:=by unfold par;omega
variable{le}{n i j:Nat}{f:Nat->α}
def UpI.step(d:Order le)(h:UpI le n f j)(o:0<j)(u:j<n)(t:¬le (f (par j)) (f j)):UpI le n (sw f (par j) j) (par j):=by
 have r:=par_lt o;have a:le (f j) (f (par j)):=(d.total _ _).resolve_right t;refine⟨λk w b s=>?_,λk w b q c=>?_⟩
 .unfold sw;by_cases e:k=j
  .subst e;rw[yB rfl,yA (by omega),yB rfl];exact a
  .rw[yA s,yA e];by_cases l:par k=par j
   .rw[yB l];have:=h.1 k w b e;rw[l]at this;exact d.trans _ _ _ a this
   .rw[yA l];by_cases i:par k=j
    .rw[yB i];exact h.2 k w b i o
    .rw[yA i];exact h.1 k w b e
 .have m:=par_lt c;unfold sw;have g:k≠par j:=λe=>by rw[<-e]at q;have:=par_lt w;omega
  rw[yA (by omega:par (par j)≠par j),yA (by omega:par (par j)≠j),yA g];have p:=h.1 (par j) c (by omega) (by omega);by_cases e:k=j;.subst e;rw[yB rfl];exact p
  .rw[yA e];have:=h.1 k w b e;rw[q]at this;exact d.trans _ _ _ p this
def UpI.done0(h:UpI le n f 0):HeapF le n f:=λk w a=>h.1 k w a (by omega)
def UpI.done(h:UpI le n f j)(a:le (f (par j)) (f j)):HeapF le n f:=λk w b=>by
 by_cases e:k=j;.subst e;exact a
 .exact h.1 k w b e
def DnI.hole(h:DnI le n f i):HoleI le n f i:=⟨λk a b _ w=>h.1 k a b w,h.2⟩
def HoleI.step(q:Order le)(h:HoleI le n f i)(m:par j=i)(a:0<j)(u:j<n)(d:∀k,0<k->k<n->par k=i->le (f j) (f k))(r:¬le (f i) (f j)):DnI le n (sw f i j) j:=by
 have t:i<j:=by have:=par_lt a;omega
 have o:le (f j) (f i):=(q.total _ _).resolve_right r;refine⟨λk w g p=>?_,λk w g s _=>?_⟩
 .unfold sw;by_cases e:k=i
  .subst e;have l:=par_lt w;rw[yA (by omega:par k≠k),yA p,yB rfl];exact h.2 j a u m w
  .rw[yA e];by_cases c:par k=i
   .rw[yB c];by_cases b:k=j;.subst b;rw[yB rfl];exact o
    .rw[yA b];exact d k w g c
   .rw[yA c,yA p];by_cases b:k=j;.subst b;exact(c m).elim
    .rw[yA b];exact h.1 k w g e c
 .have l:=par_lt w;unfold sw;rw[m,yB rfl,yA (by omega:k≠i),yA (by omega:k≠j)];have:=h.1 k w g (by omega) (by omega);rw[s]at this;exact this
def HoleI.up(h:HoleI le n f i)(c:∀k,0<k->k<n->par k=i->le (f i) (f k)):UpI le n f i:=⟨λk w a b=>by
 by_cases e:par k=i;.rw[e];exact c k w a e
 .exact h.1 k w a b e,h.2⟩
def DnI.done(h:DnI le n f i)(b:∀k,0<k->k<n->par k=i->le (f i) (f k)):HeapF le n f:=λk w a=>by
 by_cases e:par k=i;.rw[e];exact b k w a e
 .exact h.1 k w a e
def HeapF.hole(l:Order le)(h:HeapF le n f){g:Nat->α}(o:i<n)(c:∀k,k≠i->g k=f k):HoleI le n g i:=⟨λk d e m j=>by rw[c _ j,c _ m];exact h k d e,λk d e j w=>by have a:=h k d e;have b:=h i w o;have:=par_lt d;have:=par_lt w;rw[j]at a;rw[c _ (by omega),c _ (by omega)];exact l.trans _ _ _ b a⟩
def HeapF.least(w:Order le)(h:HeapF le n f):∀k,k<n->le (f 0) (f k):=by
 intro k;induction k using Nat.strongRecOn with
 |ind k c=>
  intro b;rcases Ai k with rfl|a;.exact(w.total _ _).elim id id
  .have:=par_lt a;exact w.trans _ _ _ (c (par k) this (by omega)) (h k a b)
def HeapF.less{m:Nat}(h:HeapF le n f)(b:m<=n):HeapF le m f:=λk w a=>h k w (by omega)
def HeapF.congr{g:Nat->α}(h:HeapF le n f)(w:∀k,k<n->g k=f k):HeapF le n g:=λk a b=>by have:=par_lt a;rw[w _ (by omega),w _ b];exact h k a b
def HeapF.push{g:Nat->α}(h:HeapF le n f)(a:∀k,k<n->g k=f k):UpI le (n+1) g n:=⟨λk w b c=>by have:=par_lt w;rw[a _ (by omega),a _ (by omega)];exact h k w (by omega),λk w b d _=>by have:=par_lt w;omega⟩
end
end Ck
end
namespace Ck
abbrev Al:=Int×Int
def leA(x y:Al):Prop:=x.2<y.2\/x.2=y.2/\x.1<=y.1
instance (x y:Al):Decidable (leA x y):=by unfold leA;infer_instance
def leA_ord:Order leA:=⟨λa b c w h=>by unfold leA at*;omega,λa b=>by unfold leA;omega⟩
def leA_anti{x y:Al}(w:leA x y)(h:leA y x):x=y:=by unfold leA at*;exact Prod.ext (by omega) (by omega)
def Srt(l:List Al):Prop:=l.Pairwise leA/\(l.map (·.1)).Nodup
structure ClG where
 now:Int
 al:List Al
def delA(l:List Al)(id:Int):List Al:=l.filter λx=>decide (x.1≠id)
def insA(x:Al):List Al->List Al
 |[]=>[x]
 |y::r=>if leA x y then x::y::r else y::insA x r
def getA(l:List Al)(id:Int):Option Int:=(l.find? λx=>decide (x.1=id)).map (·.2)
def maxN:Int:=1099511627776
def cSet(G:ClG)(id tm:Int):ClG×Int:=
 if tm<=G.now\/tm>2199023255552 then(G,1)
 else if(getA G.al id).isNone/\G.al.length>=1024 then(G,2)
 else(⟨G.now,insA (id,tm) (delA G.al id)⟩,0)
def cDrop(G:ClG)(id:Int):ClG×Bool:=(⟨G.now,delA G.al id⟩,(getA G.al id).isSome)
def cTick(G:ClG)(n:Int):ClG×List Int×Int:=
 if n<0\/n>maxN - G.now then(G,[],1)
 else(⟨G.now+n,G.al.filter λx=>decide (¬x.2<=G.now+n)⟩,(G.al.filter λx=>decide (x.2<=G.now+n)).map (·.1),0)
structure COk(G:ClG):Prop where
 srt:Srt G.al
 now0:0<=G.now
 now1:G.now<=maxN
 late:∀x∈G.al,G.now<x.2/\x.2<=2199023255552
 many:G.al.length<=1024
def COk.new:COk ⟨0,[]⟩:=⟨⟨.nil,.nil⟩,by simp,by simp[maxN],by simp,by simp⟩
def delA_sub(l:List Al)(id:Int):(delA l id).Sublist l:=Aq
def delA_srt{l:List Al}(h:Srt l)(id:Int):Srt (delA l id):=⟨h.1.sublist (delA_sub l id),h.2.sublist ((delA_sub l id).map _)⟩
def delA_mem{l:List Al}{id:Int}{x:Al}:x∈delA l id↔x∈l/\x.1≠id:=by unfold delA;simp
def insA_perm(x:Al)(l:List Al):(insA x l).Perm (x::l):=by
 induction l with
 |nil=>exact .refl _
 |cons y r ih=>
  simp only[insA];split;.exact .refl _
  .exact(ih.cons y).trans (List.Perm.swap _ _ _)
def insA_mem{x y:Al}{l:List Al}:y∈insA x l↔y=x\/y∈l:=by rw[(insA_perm x l).mem_iff,Ac]
def insA_srt{x:Al}{l:List Al}(h:Srt l)(d:∀y∈l,y.1≠x.1):Srt (insA x l):=by
 refine⟨?_,?_⟩
 .have c:=h.1;clear d h;induction l with
  |nil=>simp[insA]
  |cons y r g=>
   simp only[insA];have b:=Aj.1 c;split
   .rename_i a;refine Aj.2 ⟨λz w=>?_,c⟩;rcases Ac.1 w with rfl|w;.exact a
    .exact leA_ord.trans _ _ _ a (b.1 z w)
   .rename_i a;refine Aj.2 ⟨λz w=>?_,g b.2⟩;rcases insA_mem.1 w with rfl|w;.exact(leA_ord.total _ _).resolve_right a
    .exact b.1 z w
 .rw[((insA_perm x l).map _).nodup_iff,Ar,B3];refine⟨λf=>?_,h.2⟩;obtain⟨y,i,e⟩:=Av.1 f;exact d y i e
def find_mem{l:List Al}{id tm:Int}(w:(l.map (·.1)).Nodup):getA l id=A1 tm↔(id,tm)∈l:=by
 unfold getA;induction l with
 |nil=>simp
 |cons y r a=>
  simp only[Ar,B3]at w;rw[List.find?_cons];by_cases e:y.1=id
  .simp only[e,decide_true,Option.map_some,Option.some.injEq,Ac];constructor;.rintro rfl;exact .inl (by rw[<-e])
   .rintro(h|h);.rw[<-h]
    .exact yI (Av.2 ⟨_,h,rfl⟩) (by rw[<-e]at*;exact w.1)
  .simp only[e,decide_false,a w.2,Ac];constructor;.exact .inr
   .rintro(h|h);.exact yI (by rw[<-h]) e
    .exact h
def get_none{l:List Al}{id:Int}:getA l id=Ag↔∀x∈l,x.1≠id:=by unfold getA;rw[Option.map_eq_none_iff,List.find?_eq_none];simp
def delA_none{l:List Al}{id:Int}(h:getA l id=Ag):delA l id=l:=by unfold delA;rw[List.filter_eq_self];intro x w;simpa using get_none.1 h x w
def COk.set{G:ClG}(h:COk G)(id tm:Int):COk (cSet G id tm).1:=by
 unfold cSet;split;.exact h
 .rename_i f;split;.exact h
  .rename_i a;refine⟨insA_srt (delA_srt h.srt id) λy d=>(delA_mem.1 d).2,h.now0,h.now1,λx w=>?_,?_⟩
   .rcases insA_mem.1 w with rfl|w;.dsimp only;omega
    .exact h.late x (delA_mem.1 w).1
   .dsimp only;rw[(insA_perm _ _).length_eq,Am];have e:=(delA_sub G.al id).length_le;cases hg:getA G.al id with
    |none=>rw[hg]at a;have:¬G.al.length>=1024:=λc=>a ⟨rfl,c⟩;omega
    |some t=>
     have b:=(find_mem h.srt.2).1 hg;have:(delA G.al id).length<G.al.length:=by unfold delA;exact List.length_filter_lt_length_iff_exists.2 ⟨_,b,by simp⟩
     have:=h.many;omega
def COk.drop{G:ClG}(h:COk G)(id:Int):COk (cDrop G id).1:=⟨delA_srt h.srt id,h.now0,h.now1,λx w=>h.late x (delA_mem.1 w).1,Ao (delA_sub G.al id).length_le h.many⟩
def COk.tick{G:ClG}(h:COk G)(n:Int):COk (cTick G n).1:=by
 unfold cTick;split;.exact h
 .rename_i d;have w:(G.al.filter λx=>decide (¬x.2<=G.now+n)).Sublist G.al:=Aq;refine⟨⟨h.srt.1.sublist w,h.srt.2.sublist (w.map _)⟩,?_,?_,λx b=>?_,Ao w.length_le h.many⟩;.have:=h.now0;dsimp only;omega
  .dsimp only;omega
  .obtain⟨c,a⟩:=List.mem_filter.1 b;have:=h.late x c;have a:¬x.2<=G.now+n:=by simpa using a
   dsimp only;omega
end Ck
section
namespace Ck
def w64{n:Int}(h: -9223372036854775808<=n:=by omega)(w:n<=9223372036854775807:=by omega):Zw Zk n=n:=IntWalk.i64_in _ ⟨h,w⟩
def zm{b:Bool}{A B:Prop}(h:b=An)(a:A):Bif b A B:=za (λ_=>a) λw=>by rw[h]at w;cases w
def zl{b:Bool}{A B:Prop}(h:b=Ah)(a:B):Bif b A B:=za (λw=>by rw[h]at w;cases w) λ_=>a
def iPt:Zp.info? 316=A1 Tryz.t316:=by kernel_rfl
def sPt:Tryz.t316.size=1:=rfl
def zPt:Tryz.t316.zero=A1 (Zq Ag):=rfl
def bPt:Tryz.t316.bytes=8:=rfl
def mLess:mrow Zp 318 "Less"=A1 (0,A1 (430,Ah)):=by decide+kernel
def mSwap:mrow Zp 318 "Swap"=A1 (0,A1 (431,Ah)):=by decide+kernel
def mPop:mrow Zp 318 "Pop"=A1 (0,A1 (432,An)):=by decide+kernel
def mPush:mrow Zp 318 "Push"=A1 (0,A1 (433,An)):=by decide+kernel
structure AD where
 b:Nat
 id:Int
 tm:Int
 pl:Int
def cellsD(d:AD):List Ae:=[Zi Zk d.id,Zi Zk d.tm,Zi Zk d.pl]
def rowD(d:AD):Asn:=Row d.b 315 (cellsD d)
def ptD(d:AD):List Ae:=[Zq (A1 ⟨d.b,0,Ag⟩)]
def keyD(d:AD):Al:=(d.id,d.tm)
def coreD(d:AD):Nat×Al:=(d.b,d.id,d.tm)
def pt1(d:AD):(ptD d).length=1:=rfl
def ptn(d:AD):∀v∈ptD d,qn1 v:=λv h=>by simp[ptD]at h;subst h;trivial
def erase_perm{α:Type}:∀(l:List α) (i:Nat) {x:α},l[i]?=A1 x->l.Perm (x::l.eraseIdx i)
 |[],i,x,h=>by simp at h
 |y::r,0,x,h=>by simp at h;subst h;exact .refl _
 |y::r,i+1,x,h=>((erase_perm r i (by simpa using h)).cons y).trans (List.Perm.swap _ _ _)
def set_erase{α:Type}:∀(l:List α) (i:Nat) (y:α),i<l.length->(l.set i y).Perm (y::l.eraseIdx i)
 |[],i,y,h=>by simp at h
 |x::r,0,y,h=>.refl _
 |x::r,i+1,y,h=>((set_erase r i y (by simpa using h)).cons x).trans (List.Perm.swap _ _ _)
def alsA(l:List AD):Asn:=qz (l.map rowD)
section
variable{W w:World}{F:List Asn}{l:List AD}{i:Nat}{d:AD}
def alsA.take(h:St W (alsA l::F) w)(c:l[i]?=A1 d):St W (rowD d::alsA (l.eraseIdx i)::F) w:=by have e:St W (l.map rowD++F) w:=h.of_sep;have b:St W ((d::l.eraseIdx i).map rowD++F) w:=e.perm (((erase_perm l i c).map rowD).append_right F);exact(zk (l:=(l.eraseIdx i).map rowD) (z0c b (by simp only[Ar,List.cons_append];exact(A6 (l₁:=(l.eraseIdx i).map rowD) (a:=rowD d) (l₂:=F)).symm))).p1
def alsA.give{y:AD}(a:i<l.length)(h:St W (rowD y::alsA (l.eraseIdx i)::F) w):St W (alsA (l.set i y)::F) w:=by have b:St W ((l.eraseIdx i).map rowD++(rowD y::F)) w:=St.of_sep h.p1;refine zk (z0c b ?_);exact A6.trans (((set_erase l i y a).symm.map rowD).append_right F)
def alsA.cell(h:St W (alsA l::F) w)(b:l[i]?=A1 d){j:Nat}{v:Ae}(a:(cellsD d)[j]?=A1 v):w.cell? ⟨d.b,j,Ag⟩=A1 v:=(alsA.take h b).ld a
def alsA.put{F':Ad->Prop}(h:St W (alsA l::F) w)(c:l[i]?=A1 d){j:Nat}{v:Ae}{y:AD}(e:j<3)(g:y.b=d.b)(f:(cellsD d).set j v=cellsD y)(k:∀w',St W (alsA (l.set i y)::F) w'->F' w'):St1 ⟨d.b,j,Ag⟩ v w F':=by have a:=(A0.1 c).1;refine St1.i (alsA.take h c) e λw' b=>k w' (alsA.give a ?_);rw[f]at b;unfold rowD;rw[g];exact b
end
abbrev HL(c:Nat)(now:Int)(m:Option Nat)(p:Option Az)(cap:Nat)(l:List AD)(F:List Asn):List Asn:=
 Row c 187 [Zi Zk now,Zl p l.length cap,.map m]::SlA 316 1 ptD p cap l::alsA l::F
section
variable{W w:World}{F:List Asn}{c:Nat}{now:Int}{m:Option Nat}{p:Option Addr}{cap:Nat}{l:List AD}
def HL.cell(h:St W (HL c now m p cap l F) w):w.cell? ⟨c,1,Ag⟩=A1 (Zl p l.length cap):=h.cell 0 rfl rfl
def HL.rd:Rd (HL c now m p cap l F) p (l.flatMap ptD):=z07 1 rfl λF=>z0l F
def ltD(x y:AD):Bool:=decide (¬leA (keyD y) (keyD x))
def QtP.at{C:Cls}{a:Az}{x:Option Az}(h:∀G w,C.p G w->w.cell? a=A1 (Zq x)):Qt C (Zq x) λw K=>LdP a w λx=>K (Zq x) w:=λG w b=>LdP.at (h G w b) ⟨rfl,b⟩
def z0g{C:Cls}{a:Az}{k:IntKind}{x:Int}(h:∀G w,C.p G w->w.cell? a=A1 (.int k x)):Qt C (.int k x) λw K=>LdI k a w λx=>K (.int k x) w:=λG w b=>zy (h G w b) ⟨rfl,b⟩
def HL.al{G:List (Nat×Obj)}{C:Cls}(h:Is W C (HL c now m p cap l F))(e:C.p G w){i:Nat}{d:AD}(b:l[i]?=A1 d){j:Nat}{v:Ae}(a:(cellsD d)[j]?=A1 v):w.cell? ⟨d.b,j,Ag⟩=A1 v:=
 alsA.cell (h.at 2 rfl e) b a
def Less_spec{i k:Nat}{x y:AD}(d:l[i]?=A1 x)(e:l[k]?=A1 y)(hid:i≠k->x.id≠y.id)(b:St W (HL c now m p cap l F) w):
 qb Zp 430 #[Zl p l.length cap,Zi Zk i,Zi Zk k] w λv w'=>v=Zb (ltD x y)/\St W (HL c now m p cap l F) w':=by
 have q:=(A0.1 d).1;have o:=(A0.1 e).1;have a:=z6 W (HL c now m p cap l F);refine F430_of ⟨StC W _,zd b,z10 a pt1 (by decide) HL.rd b rfl q d λt f=>z10 a pt1 (by decide) HL.rd b rfl o e λr n=>?_⟩;refine⟨_,QtP.at λG w h=>f h 0 _ rfl,z7 ⟨_,z0g λG w h=>HL.al a h d (j:=1) rfl,_,QtP.at λG w h=>n h 0 _ rfl,z7 ⟨_,z0g λG w h=>HL.al a h e (j:=1) rfl,λG w h=>?_⟩⟩⟩;have b:=zb h;refine za (λg=>?_) λs=>?_
 .have g:x.tm≠y.tm:=by simpa using g
  refine⟨StC W _,zd b,z10 a pt1 (by decide) HL.rd b rfl q d λt f=>z10 a pt1 (by decide) HL.rd b rfl o e λr n=>?_⟩;refine⟨_,QtP.at λG w h=>f h 0 _ rfl,z7 ⟨_,z0g λG w h=>HL.al a h d (j:=1) rfl,_,QtP.at λG w h=>n h 0 _ rfl,z7 ⟨_,z0g λG w h=>HL.al a h e (j:=1) rfl,λG w h=>⟨?_,zb h⟩⟩⟩⟩;congr 1;unfold ltD;rw[decide_eq_decide];unfold leA keyD;dsimp only;omega
 .have s:x.tm=y.tm:=by simpa using s
  refine⟨StC W _,zd b,z10 a pt1 (by decide) HL.rd b rfl q d λt f=>z10 a pt1 (by decide) HL.rd b rfl o e λr n=>?_⟩;refine⟨_,QtP.at λG w h=>f h 0 _ rfl,z7 ⟨_,z0g λG w h=>HL.al a h d (j:=0) rfl,_,QtP.at λG w h=>n h 0 _ rfl,z7 ⟨_,z0g λG w h=>HL.al a h e (j:=0) rfl,λG w h=>⟨?_,zb h⟩⟩⟩⟩;congr 1;unfold ltD;rw[decide_eq_decide];unfold leA keyD;dsimp only;omega
def swL(l:List AD)(i k:Nat)(x y:AD):List AD:=(l.set i { y with pl:=i}).set k { x with pl:=k}
def flat_set{α:Type}{f:α->List Ae}(h:∀x,(f x).length=1)(l:List α)(i:Nat)(y:α)(v:Ae)(w:f y=[v]):(l.flatMap f).set i v=(l.set i y).flatMap f:=by
 induction l generalizing i with
 |nil=>simp
 |cons x r ih=>
  cases i with
  |zero=>
   have:=h x;rw[List.set_cons_zero,A9,A9,w]
   match hfx:f x,this with
   |[u],_=>rfl
  |succ i=>
   have:=h x;rw[List.set_cons_succ,A9,A9,<-ih]
   match hfx:f x,this with
   |[u],_=>rfl
def SlA.put{F:List Asn}{F':Ad->Prop}{i:Nat}{y:AD}{l:List AD}(h:St W (SlA 316 1 ptD p cap l::F) w)(d:i<l.length)(c:∀w',St W (SlA 316 1 ptD p cap (l.set i y)::F) w'->F' w'):∃a,p=A1 a/\St1 (a.add i) (Zq (A1 ⟨y.b,0,Ag⟩)) w F':=by refine qi.set h (by omega) _ λw' b=>c w' ?_;rw[flat_set pt1 l i y _ rfl]at b;unfold SlA;rw[B4];exact b
def alsA.perm{l l':List AD}{F:List Asn}(h:St W (alsA l::F) w)(a:l.Perm l'):St W (alsA l'::F) w:=zk (z0c h.of_sep ((a.map rowD).append_right F))
def IxP.pa{L:List Asn}{K:Az->Prop}{i:Int}{k n:Nat}{x:AD}{l:List AD}(e:Rd L p (l.flatMap ptD))(c:St W L w)(f:i=(k:Int))(m:k<n)(h:l[k]?=A1 x)(d:∀a,p=A1 a->K (a.add k)):IxP p n i 1 K:=by have b:(l.flatMap ptD)[k*1]?=A1 (Zq (A1 ⟨x.b,0,Ag⟩)):=qn9 pt1 (j:=0) h rfl;refine IxP.i e c f m b λa g=>?_;rw[Nat.mul_one];exact d a g
def sw_perm{l:List AD}{i k:Nat}{x y x' y':AD}(w:l[i]?=A1 x)(a:l[k]?=A1 y)(h:i≠k):((l.set k y').set i x').Perm ((l.set i y').set k x'):=by
 have c:=(A0.1 w).1;have b:=(A0.1 a).1;have d:((l.set k y').set i x').Perm (x'::(l.set k y').eraseIdx i):=set_erase _ _ _ (by simpa using c);have a2:((l.set i y').set k x').Perm (x'::(l.set i y').eraseIdx k):=set_erase _ _ _ (by simpa using b);have g:(x::(l.set k y').eraseIdx i).Perm (y'::l.eraseIdx k):=(erase_perm (l.set k y') i (by rw[A3,yA (Ne.symm h),w])).symm.trans (set_erase l k y' b);have e:(y::(l.set i y').eraseIdx k).Perm (y'::l.eraseIdx i):=(erase_perm (l.set i y') k (by rw[A3,yA h,a])).symm.trans (set_erase l i y' c);have c1:(x::l.eraseIdx i).Perm (y::l.eraseIdx k):=(erase_perm l i w).symm.trans (erase_perm l k a);have f:(y::x::(l.set k y').eraseIdx i).Perm (y::x::(l.set i y').eraseIdx k):=
  (g.cons y).trans ((List.Perm.swap _ _ _).trans ((c1.symm.cons y').trans ((List.Perm.swap _ _ _).trans ((e.symm.cons x).trans (List.Perm.swap _ _ _)))))
 exact d.trans ((f.cons_inv.cons_inv.cons x').trans a2.symm)
def sw_pt{l:List AD}{i k:Nat}{x y x' y':AD}(h:x'.b=x.b)(w:y'.b=y.b):((l.set i y').set k x').flatMap ptD=((l.set i y).set k x).flatMap ptD:=by
 have e:∀l:List AD,l.flatMap ptD=(l.map (·.b)).map λb=>Zq (A1 ⟨b,0,Ag⟩):=λl=>by rw[B5];have:=qt6 (λd:AD=>Zq (A1 ⟨d.b,0,Ag⟩)) l;exact this
 rw[e,e];congr 1;simp only[Aw,h,w]
def swL_len(l:List AD)(i k:Nat)(x y:AD):(swL l i k x y).length=l.length:=by simp[swL]
def Swap_spec{i k:Nat}{x y:AD}(g:l[i]?=A1 x)(f:l[k]?=A1 y)(b:St W (HL c now m p cap l F) w):
 qb Zp 431 #[Zl p l.length cap,Zi Zk i,Zi Zk k] w λv w'=>v=Zt #[]/\St W (HL c now m p cap (swL l i k x y) F) w':=by
 have u:=(A0.1 g).1;have q:=(A0.1 f).1;have o:=z6 W (HL c now m p cap l F);refine F431_of ⟨StC W _,zd b,z10 o pt1 (by decide) HL.rd b rfl q f λT O=>z10 o pt1 (by decide) HL.rd b rfl u g λR P=>?_⟩;refine⟨_,QtP.at λG w s=>O s 0 _ rfl,_,QtP.at λG w s=>P s 0 _ rfl,IxP.pa HL.rd b rfl u g λa L=>?_⟩;refine Ef.n (α:=Unit) (V:=λ_=>Zt #[]) (B:=λ_=>[SlA 316 1 ptD p cap (l.set i y)]) () 1 o rfl (λG w h=>?_) λ_=>⟨rfl,trivial,IxP.pa HL.rd b rfl q f λN d=>?_⟩
 .obtain⟨N,d,n⟩:=SlA.put (F':=λw'=>∃x:Unit,Zt #[]=Zt #[]/\St W (Go.Proofs.YtfjifcfbmhpcaaaGreatDoor.put (HL c now m p cap l F) 1 [SlA 316 1 ptD p cap (l.set i y)]++pts G) w') h u λw' r=>⟨(),rfl,z17 1 rfl (B:=[_]) r⟩;rw[L]at d;cases d;exact n
 rw[L]at d;cases d;refine Ef.n (α:=Unit) (V:=λ_=>Zt #[]) (B:=λ_=>[SlA 316 1 ptD p cap ((l.set i y).set k x)]) () 1 ir rfl (λG w h=>?_) λ_=>⟨rfl,trivial,λG w h=>?_⟩
 .obtain⟨N,d,n⟩:=SlA.put (y:=x) (F':=λw'=>∃z:Unit,Zt #[]=Zt #[]/\St W (Go.Proofs.YtfjifcfbmhpcaaaGreatDoor.put (Go.Proofs.YtfjifcfbmhpcaaaGreatDoor.put (HL c now m p cap l F) 1 [SlA 316 1 ptD p cap (l.set i y)]) 1 [SlA 316 1 ptD p cap ((l.set i y).set k x)]++pts G) w') h (by simpa using q) λw' r=>⟨(),rfl,z17 1 rfl (B:=[_]) r⟩;rw[L]at d;cases d;exact n
 have b:=zb h;have b:St W (Row c 187 [Zi Zk now,Zl p l.length cap,.map m]::SlA 316 1 ptD p cap ((l.set i y).set k x)::alsA l::F) w:=b;have J:((l.set i y).set k x)[i]?=A1 y:=by
  rw[A3];by_cases e:k=i
  .subst e;rw[g]at f;cases f;rw[yB rfl,yB (by simpa using q)]
  .rw[yA e,A3,yB rfl,yB u]
 have C:((l.set i y).set k x)[k]?=A1 x:=by rw[A3,yB rfl,yB (by simpa using q)]
 have M:Rd (Row c 187 [Zi Zk now,Zl p l.length cap,.map m]::SlA 316 1 ptD p cap ((l.set i y).set k x)::alsA l::F) p (((l.set i y).set k x).flatMap ptD):=z07 1 rfl λF=>z0l F;have o:=z6 W (Row c 187 [Zi Zk now,Zl p l.length cap,.map m]::SlA 316 1 ptD p cap ((l.set i y).set k x)::alsA l::F);refine⟨StC W _,zd b,z10 o pt1 (by decide) M b rfl u J λa31 E=>z10 o pt1 (by decide) M b rfl q C λQ K=>?_⟩;refine⟨_,QtP.at λG w s=>E s 0 _ rfl,_,QtP.at λG w s=>K s 0 _ rfl,z7 ?_⟩;have D:(l.set k { y with pl:=i})[i]?=A1 (if i=k then { y with pl:=(i:Int)}else x):=by
  rw[A3];by_cases e:k=i;.subst e;rw[yB rfl,yB q,yB rfl]
  .rw[yA e,g,yA (Ne.symm e)]
 refine Ef.n (α:=Unit) (V:=λ_=>Zt #[]) (B:=λ_=>[alsA (l.set k { y with pl:=i})]) () 2 o rfl (λG w h=>?_) λ_=>⟨rfl,trivial,z7 ?_⟩;.exact alsA.put (y:={ y with pl:=i}) h f (j:=2) (by decide) rfl rfl λw' r=>⟨(),rfl,z17 2 rfl (B:=[_]) r⟩
 have t:(if i=k then({ y with pl:=(i:Int)}:AD)else x).b=x.b:=by
  by_cases e:i=k;.subst e;rw[g]at f;cases f;rw[yB rfl]
  .rw[yA e]
 have H:(cellsD (if i=k then({ y with pl:=(i:Int)}:AD)else x)).set 2 (Zi Zk k)=cellsD { x with pl:=k}:=by
  by_cases e:i=k;.subst e;rw[g]at f;cases f;rw[yB rfl];rfl
  .rw[yA e];rfl
 refine Ef.n (α:=Unit) (V:=λ_=>Zt #[]) (B:=λ_=>[alsA ((l.set k { y with pl:=i}).set i { x with pl:=k})]) () 2 ir rfl (λG w h=>?_) λ_=>⟨rfl,trivial,λG w h=>⟨rfl,?_⟩⟩
 .have:=alsA.put (y:={ x with pl:=k}) (F':=λw'=>∃z:Unit,Zt #[]=Zt #[]/\St W (Go.Proofs.YtfjifcfbmhpcaaaGreatDoor.put (Go.Proofs.YtfjifcfbmhpcaaaGreatDoor.put (Row c 187 [Zi Zk now,Zl p l.length cap,.map m]::SlA 316 1 ptD p cap ((l.set i y).set k x)::alsA l::F) 2 [alsA (l.set k { y with pl:=i})]) 2 [alsA ((l.set k { y with pl:=i}).set i { x with pl:=k})]++pts G) w') h D (j:=2) (v:=Zi Zk k) (by decide) t.symm H λw' r=>⟨(),rfl,z17 2 rfl (B:=[_]) r⟩;rw[t]at this;exact this
 have b:=zb h;have b:St W (Row c 187 [Zi Zk now,Zl p l.length cap,.map m]::SlA 316 1 ptD p cap ((l.set i y).set k x)::alsA ((l.set k { y with pl:=i}).set i { x with pl:=k})::F) w:=b;have A:((l.set k ({ y with pl:=(i:Int)}:AD)).set i { x with pl:=(k:Int)}).Perm (swL l i k x y):=by
  by_cases e:i=k
  .subst e;unfold swL;rw[List.set_set]
  .exact sw_perm g f e
 have b:=(alsA.perm b.p2 A);unfold HL;rw[swL_len];have I:SlA 316 1 ptD p cap ((l.set i y).set k x)=SlA 316 1 ptD p cap (swL l i k x y):=by unfold SlA swL;rw[sw_pt (x:=x) (y:=y) (x':={ x with pl:=(k:Int)}) (y':={ y with pl:=(i:Int)}) rfl rfl];simp only[B4]
 rw[I]at b;exact b.p2.p2
end
end Ck
end
section
namespace Ck
def fK(l:List AD)(i:Nat):Al:=((l[i]?).map keyD).getD (0,0)
def fK_at{l:List AD}{i:Nat}{d:AD}(h:l[i]?=A1 d):fK l i=keyD d:=by unfold fK;rw[h];rfl
structure HOk(l:List AD):Prop where
 pl:∀(i:Nat) d,l[i]?=A1 d->d.pl=(i:Int)
 nd:(l.map (·.id)).Nodup
 small:l.length<=2000
structure HRel(N:Nat)(l l':List AD):Prop where
 len:l'.length=l.length
 core:(l'.map coreD).Perm (l.map coreD)
 tail:∀k,N<=k->l'[k]?=l[k]?
def HRel.refl(N:Nat)(l:List AD):HRel N l l:=⟨rfl,.refl _,λ_ _=>rfl⟩
def HRel.trans{N:Nat}{a b c:List AD}(h:HRel N a b)(k:HRel N b c):HRel N a c:=⟨k.len.trans h.len,k.core.trans h.core,λj w=>(k.tail j w).trans (h.tail j w)⟩
def swap_perm{α:Type}{l:List α}{i k:Nat}{x y:α}(w:l[i]?=A1 x)(a:l[k]?=A1 y)(h:i≠k):((l.set i y).set k x).Perm l:=by have d:=(A0.1 w).1;have c:=(A0.1 a).1;have a2:((l.set i y).set k x).Perm (x::(l.set i y).eraseIdx k):=set_erase _ _ _ (by simpa using c);have b:(y::(l.set i y).eraseIdx k).Perm (y::l.eraseIdx i):=(erase_perm (l.set i y) k (by rw[A3,yA h,a])).symm.trans (set_erase l i y d);exact a2.trans ((b.cons_inv.cons x).trans (erase_perm l i w).symm)
section
variable{l:List AD}{i k N:Nat}{x y:AD}
def swL_get(b:l[i]?=A1 x)(e:l[k]?=A1 y)(w:i≠k)(j:Nat):(swL l i k x y)[j]?=if j=i then A1 { y with pl:=i}else if j=k then A1 { x with pl:=k}else l[j]?:=by
 have d:=(A0.1 b).1;have c:=(A0.1 e).1;unfold swL;rw[A3,A3];by_cases h:j=i
 .subst h;rw[yA (Ne.symm w),yB rfl,yB d,yB rfl]
 .by_cases a:j=k
  .subst a;rw[yB rfl,yB (by simpa using c),yA h,yB rfl]
  .rw[yA (Ne.symm a),yA (Ne.symm h),yA h,yA a]
def swL_fK(b:l[i]?=A1 x)(c:l[k]?=A1 y)(a:i≠k):fK (swL l i k x y)=sw (fK l) i k:=by
 funext j;unfold sw;rw[fK_at b,fK_at c];unfold fK;rw[swL_get b c a];by_cases h:j=i;.rw[yB h,yB h];rfl
 .by_cases w:j=k;.rw[yA h,yB w,yA h,yB w];rfl
  .rw[yA h,yA w,yA h,yA w]
def swL_rel(w:l[i]?=A1 x)(a:l[k]?=A1 y)(h:i≠k)(d:i<N)(b:k<N):HRel N l (swL l i k x y):=by
 refine⟨swL_len _ _ _ _ _,?_,λj c=>?_⟩
 .unfold swL;rw[Aw,Aw];exact swap_perm (by rw[Aa,w];rfl) (by rw[Aa,a];rfl) h
 .rw[swL_get w a h,yA (by omega),yA (by omega)]
def ids_core(l:List AD):l.map (·.id)=(l.map coreD).map (λc=>c.2.1):=by rw[B5];rfl
def HOk.sw(h:HOk l)(e:l[i]?=A1 x)(f:l[k]?=A1 y)(a:i≠k):HOk (swL l i k x y):=by
 refine⟨λj d w=>?_,?_,by rw[swL_len];exact h.small⟩
 .rw[swL_get e f a]at w;by_cases b:j=i;.rw[yB b]at w;cases w;rw[b]
  .by_cases c:j=k;.rw[yA b,yB c]at w;cases w;rw[c]
   .rw[yA b,yA c]at w;exact h.pl j d w
 .have g:=(swL_rel (N:=i+k+1) e f a (by omega) (by omega)).core;rw[ids_core,(g.map _).nodup_iff,<-ids_core];exact h.nd
def HOk.ne(h:HOk l)(c:l[i]?=A1 x)(f:l[k]?=A1 y)(w:i≠k):x.id≠y.id:=λe=>by
 have b:(l.map (·.id))[i]?=A1 x.id:=by rw[Aa,c];rfl
 have d:(l.map (·.id))[k]?=A1 y.id:=by rw[Aa,f];rfl
 have a:=(A0.1 b).1;exact w ((List.getElem?_inj a h.nd).1 (by rw[b,d,e]))
end
def bLess:q33 Zp 430=An:=by kernel_rfl
def bSwap:q33 Zp 431=An:=by kernel_rfl
def bLen:q33 Zp 429=An:=by kernel_rfl
abbrev hV(c:Nat):Ae:=.iface 318 (Zq (A1 ⟨c,1,Ag⟩))
section
variable{W w:World}{F:List Asn}{c:Nat}{now:Int}{m:Option Nat}{p:Option Addr}{cap:Nat}{l:List AD}
def iLen{K:Ae->Ad->Prop}(h:St W (HL c now m p cap l F) w)(a:K (Zi Zk (l.length:Int)) w):q6d Zp "Len" (hV c) [] w K:=
 inv_val mLen bLen (HL.cell h) (F429_of a)
def iLess{i k:Nat}{x y:AD}{K:Ae->Ad->Prop}{a b:Int}(r:a=(i:Int))(q:b=(k:Int))(d:l[i]?=A1 x)(g:l[k]?=A1 y)(j:HOk l)(f:St W (HL c now m p cap l F) w)
 (o:∀w',St W (HL c now m p cap l F) w'->K (Zb (ltD x y)) w'):q6d Zp "Less" (hV c) [Zi Zk a,Zi Zk b] w K:=by
 subst r;subst q;exact inv_val mLess bLess (HL.cell f) ((Less_spec d g (λe=>j.ne d g e) f).of λv w' ⟨n,h⟩=>by subst n;exact o w' h)
def iSwap{i k:Nat}{x y:AD}{K:Ae->Ad->Prop}{a b:Int}(n:a=(i:Int))(j:b=(k:Int))(e:l[i]?=A1 x)(o:l[k]?=A1 y)(d:St W (HL c now m p cap l F) w)
 (g:∀w',St W (HL c now m p cap (swL l i k x y) F) w'->K (Zt #[]) w'):q6d Zp "Swap" (hV c) [Zi Zk a,Zi Zk b] w K:=by
 subst n;subst j;exact inv_val mSwap bSwap (HL.cell d) ((Swap_spec e o d).of λv w' ⟨f,h⟩=>by subst f;exact g w' h)
def get_of{l:List AD}{i:Nat}(h:i<l.length):∃x,l[i]?=A1 x:=⟨l[i],Ak h⟩
def lt_le{x y:AD}:ltD x y=Ah↔leA (keyD y) (keyD x):=by unfold ltD;simp
def up_spec{j N:Nat}(o:j<N)(C:N<=l.length)(t:HOk l)(k:UpI leA N (fK l) j)(d:St W (HL c now m p cap l F) w):
 qb Zp 281 #[hV c,Zi Zk j] w λv w'=>v=Zt #[]/\∃l',HOk l'/\HRel N l l'/\HeapF leA N (fK l')/\St W (HL c now m p cap l' F) w':=by
 refine F281_of ⟨λvs w=>∃(j:Nat) (l':List AD),vs=[Zi Zk j]/\j<N/\HOk l'/\HRel N l l'/\UpI leA N (fK l') j/\St W (HL c now m p cap l' F) w,λvs _=>match vs with|[.int _ i]=>i.toNat|_=>0,⟨j,l,rfl,o,t,HRel.refl _ _,k,d⟩,λx w u=>?_⟩;obtain⟨j,l',A,o,b,q,k,d⟩:=u;cases A;have B:=b.small;have D:=q.len;refine⟨by decide,?_⟩;rcases Ai j with rfl|r
 .refine zm (by decide) ⟨rfl,l',b,q,k.done0,d⟩
 have s:Zw Zk (Int.tdiv (Zw Zk ((j:Int) - 1)) 2)=((par j:Nat):Int):=by unfold par;rw[w64 (n:=(j:Int) - 1) (by omega) (by omega),Int.tdiv_eq_ediv_of_nonneg (by omega),w64];omega
 have z:=par_lt r;rw[s];refine zl ?_ ?_
 .have:((par j:Nat):Int)≠(j:Int):=by omega
  simpa using this
 obtain⟨x,e⟩:=get_of (l:=l') (i:=par j) (by omega);obtain⟨y,g⟩:=get_of (l:=l') (i:=j) (by omega);refine iLess rfl rfl g e b d λw d=>⟨_,rfl,za (λa=>?_) λa=>?_⟩
 .have a:ltD y x=Ah:=by simpa using a
  have f:=lt_le.1 a;refine⟨rfl,l',b,q,k.done ?_,d⟩;rw[fK_at e,fK_at g];exact f
 .have a:ltD y x=An:=by simpa using a
  have f:¬leA (fK l' (par j)) (fK l' j):=by rw[fK_at e,fK_at g];intro h;rw[lt_le.2 h]at a;cases a
  refine iSwap rfl rfl e g d λw d=>⟨rfl,⟨par j,_,rfl,by omega,b.sw e g (by omega),q.trans (swL_rel e g (by omega) (by omega) o),?_,d⟩,by show(((par j:Nat):Int)).toNat<((j:Int)).toNat;omega⟩;rw[swL_fK e g (by omega)];exact k.step leA_ord r o f
def down_spec{i0 n:Nat}(hn:n<=l.length)(Y:HOk l)(hh:HoleI leA n (fK l) i0)(Q:i0<=n)(d:St W (HL c now m p cap l F) w):
 qb Zp 277 #[hV c,Zi Zk i0,Zi Zk n] w λv w'=>∃b l',v=Zb b/\HOk l'/\HRel n l l'/\(b=An->HeapF leA n (fK l'))/\(b=Ah->l'=l/\∀k,0<k->k<n->par k=i0->leA (fK l i0) (fK l k))/\St W (HL c now m p cap l' F) w':=by
 refine F277_of ⟨λvs w=>∃(i:Nat) (l':List AD),vs=[Zi Zk i]/\i0<=i/\i<=n/\HOk l'/\HRel n l l'/\HoleI leA n (fK l') i/\(i=i0->l'=l)/\(i0<i->DnI leA n (fK l') i)/\St W (HL c now m p cap l' F) w,λvs _=>match vs with|[.int _ i]=>n - i.toNat|_=>0,⟨i0,l,rfl,Af _,Q,Y,HRel.refl _ _,hh,λ_=>rfl,λh=>yI h (by omega),d⟩,λx w Z=>?_⟩;obtain⟨i,l',N,U,hin,g,M,hH,D,hD,d⟩:=Z;cases N;have hsm:=g.small;have hl:=M.len;have e1:Zw Zk ((Zw Zk (2*(i:Int)))+1)=((2*i+1:Nat):Int):=by rw[w64 (n:=2*(i:Int)) (by omega) (by omega),w64];omega
 have e2:Zw Zk (((2*i+1:Nat):Int)+1)=((2*i+2:Nat):Int):=by rw[w64];omega
 rw[e1,e2];have f:∀k,0<k->par k=i->k=2*i+1\/k=2*i+2:=λk s h=>by unfold par at h;omega
 have K:∀w,St W (HL c now m p cap l' F) w->(∀k,0<k->k<n->par k=i->leA (fK l' i) (fK l' k))->∃b q,Zb (decide ((i:Int)>(i0:Int)))=Zb b/\HOk q/\HRel n l q/\(b=An->HeapF leA n (fK q))/\(b=Ah->q=l/\∀k,0<k->k<n->par k=i0->leA (fK l i0) (fK l k))/\St W (HL c now m p cap q F) w:=λw d T=>by
  refine⟨_,l',rfl,g,M,λh=>?_,λh=>?_,d⟩
  .have h:=yC h;exact(hD (by omega)).done T
  .have h:=yD h;have L:i=i0:=by omega
   have o:=D L;subst L;subst o;exact⟨rfl,T⟩
 refine za (λG=>?_) λz=>?_
 .have G:=yC G;exact K w d λk s J u=>by have:=f k s u;omega
 have z:2*i+1<n:=by have:=yD z;omega
 refine zl (yH (by omega)) ?_;obtain⟨x,B⟩:=get_of (l:=l') (i:=i) (by omega);obtain⟨R,r⟩:=get_of (l:=l') (i:=2*i+1) (by omega);refine⟨λvs w=>∃(j:Nat) (y:AD),vs=[Zi Zk j]/\(j=2*i+1\/j=2*i+2)/\j<n/\l'[j]?=A1 y/\(∀k,0<k->k<n->par k=i->leA (fK l' j) (fK l' k))/\St W (HL c now m p cap l' F) w,za (λE=>?_) λE=>?_,λj w hJ=>?_⟩
 .have E:2*i+2<n:=by have:=yC E;omega
  obtain⟨V,t⟩:=get_of (l:=l') (i:=2*i+2) (by omega);refine iLess rfl rfl t r g d λw d=>⟨_,rfl,za (λa=>?_) λa=>?_⟩
  .refine⟨2*i+2,V,rfl,.inr rfl,E,t,λk s J u=>?_,d⟩;have O:¬leA (keyD R) (keyD V):=λh=>by rw[lt_le.2 h]at a;cases a
   rcases f k s u with rfl|rfl;.rw[fK_at t,fK_at r];exact(leA_ord.total _ _).resolve_right O
   .exact(leA_ord.total _ _).elim id id
  .refine⟨2*i+1,R,rfl,.inl rfl,z,r,λk s J u=>?_,d⟩;have o:=lt_le.1 a;rcases f k s u with rfl|rfl;.exact(leA_ord.total _ _).elim id id
   .rw[fK_at t,fK_at r];exact o
 .have E:¬2*i+2<n:=by have:=yD E;omega
  refine⟨2*i+1,R,rfl,.inl rfl,z,r,λk s J u=>?_,d⟩;rcases f k s u with rfl|rfl;.exact(leA_ord.total _ _).elim id id
  .omega
 obtain⟨j,y,N,X,I,C,A,d⟩:=hJ;cases N;refine iLess rfl rfl C B g d λw d=>⟨_,rfl,za (λa=>?_) λa=>?_⟩
 .have a:ltD y x=Ah:=by simpa using a
  have o:=lt_le.1 a;refine K w d λk s J u=>leA_ord.trans _ _ _ ?_ (A k s J u);rw[fK_at B,fK_at C];exact o
 .have a:ltD y x=An:=by simpa using a
  have H:¬leA (fK l' i) (fK l' j):=by rw[fK_at B,fK_at C];intro h;rw[lt_le.2 h]at a;cases a
  have P:par j=i:=by unfold par;omega
  have e:=hH.step leA_ord P (by omega) I A H;rw[<-swL_fK B C (by omega)]at e;refine iSwap rfl rfl B C d λw d=>⟨rfl,⟨j,_,rfl,by omega,by omega,g.sw B C (by omega),M.trans (swL_rel B C (by omega) (by omega) I),e.hole,λh=>yI h (by omega),λ_=>e,d⟩,by show n -((j:Int)).toNat<n -((i:Int)).toNat;omega⟩
end
end Ck
end
section
namespace Ck
def uPt:Zp.underlying 316=A1 (.pointer 315):=Tryz.underlying316
def bPop:q33 Zp 432=An:=by kernel_rfl
def bPush:q33 Zp 433=An:=by kernel_rfl
def assert_pt(v:Ae)(w:Ad):Sem.run Zp (Instr.typeAssert (.iface 316 v) 20 316 Ah) w=.ok v w:=by simp[Instr.typeAssert,run_underlying uPt]
section
variable{W w:World}{F:List Asn}{c:Nat}{now:Int}{m:Option Nat}{p:Option Addr}{cap:Nat}{l:List AD}{d:AD}
def alsA.snoc(h:St W (rowD d::alsA l::F) w):St W (alsA (l++[d])::F) w:=by have a:St W (l.map rowD++(rowD d::F)) w:=St.of_sep h.p1;refine zk (z0c a ?_);rw[A2,Ax];exact .refl _
def alsA.pop(h:St W (alsA (l++[d])::F) w):St W (rowD d::alsA l::F) w:=by have a:St W ((l++[d]).map rowD++F) w:=h.of_sep;rw[A2,Ax]at a;exact(zk (l:=l.map rowD) a).p1
def SlA.shrink(h:St W (SlA 316 1 ptD p cap (l++[d])::F) w):∃q,p=A1 ⟨q,0,Ag⟩/\0<cap/\St W (SlA 316 1 ptD p cap l::F) w:=by
 obtain⟨k,g,e,⟨o,n,c⟩,b⟩:=h;have j:(l++[d]).length=l.length+1:=by simp
 rcases c with rfl|⟨q,all,rfl,f,a,i⟩;.omega
 .refine⟨q,rfl,by omega,z0v f (by omega) ?_ (show St W (Row q 316 all::F) w from⟨k,g,e,i,b⟩)⟩;have r:=qh3 ptD 1 pt1 l;have m:(l++[d]).flatMap ptD=l.flatMap ptD++ptD d:=by simp
  rw[m]at a;have:=yE (List.take (l.length*1)) a;rw[List.take_take,List.take_append_of_le_length (by omega),List.take_of_length_le (show(l.flatMap ptD).length<=l.length*1 by omega),Nat.min_eq_left (by rw[j];omega)]at this;exact this
def PopM_spec(o:l.length<=2000)(b:St W (HL c now m p cap (l++[d]) F) w):
 qb Zp 432 #[Zq (A1 ⟨c,1,Ag⟩)] w λv w'=>v=.iface 316 (Zq (A1 ⟨d.b,0,Ag⟩))/\St W (rowD d::HL c now m p cap l F) w':=by
 have r:(l++[d]).length=l.length+1:=by simp
 have i:(l++[d])[l.length]?=A1 d:=by simp
 have h:=HL.cell b;obtain⟨q,j,g,e⟩:=SlA.shrink b.p1;have en:Zw Zk ((((l++[d]).length:Nat):Int) - 1)=((l.length:Nat):Int):=by rw[w64];omega
 refine F432_of (z7 (LdL.at h (z7 (LdL.at h ?_))));rw[en];refine z0j pt1 (by decide) HL.rd b rfl (by omega) i λa n=>LdP.at (n 0 _ rfl) (z7 (LdL.at h ⟨⟨by omega,by omega,by have:=SlA.le b.p1;omega⟩,z7 ?_⟩));have k:(if cap=Ab 0 then p else p.map (·.add (Ab 0*1)))=p:=by subst j;split<;>rfl
 have f:St W (Row c 187 [Zi Zk now,Zl p (l++[d]).length cap,.map m]::SlA 316 1 ptD p cap l::alsA (l++[d])::F) w:=e.p1;refine z0m (k0:=1) 0 f rfl (by simp) λw b=>⟨rfl,?_⟩;have b:St W (Row c 187 [Zi Zk now,.slice (if cap=Ab 0 then p else p.map (·.add (Ab 0*1))) ((Ab (l.length:Int)) - Ab 0) (cap - Ab 0),.map m]::SlA 316 1 ptD p cap l::alsA (l++[d])::F) w:=b;rw[k,Int.toNat_natCast,show Ab 0=0 from rfl,B6,B6]at b;exact(alsA.pop b.p2).perm (List.Perm.cons _ ((A6 (l₁:=[_,_]) (a:=alsA l) (l₂:=F)).symm))
def PushM_spec(n:l.length<=2000)(h:St W (rowD d::HL c now m p cap l F) w):
 qb Zp 433 #[Zq (A1 ⟨c,1,Ag⟩),.iface 316 (Zq (A1 ⟨d.b,0,Ag⟩))] w λv w'=>v=Zt #[]/\∃b i,St W (HL c now m b i (l++[{ d with pl:=l.length}]) F) w':=by
 have f:=HL.cell h.drop;refine F433_of ⟨_,assert_pt _,_,rfl,z7 (LdL.at f (z7 ?_))⟩;refine z0m (k0:=2) 0 h rfl (by simp[cellsD]) λw h=>?_;have h:St W (rowD { d with pl:=l.length}::HL c now m p cap l F) w:=h;refine z7 (LdL.at (HL.cell h.drop) (zh h λe w h=>?_));have h:St W (Row e 316 (Ay ptD [{ d with pl:=l.length}])::rowD { d with pl:=l.length}::HL c now m p cap l F) w:=h;refine qf3 (os:=l) (xs:=[{ d with pl:=(l.length:Int)}]) pt1 Tryz.underlying185 (.inr ⟨_,Tryz.underlying185⟩) iPt sPt zPt rfl 3 h rfl (z0k) rfl ptn (by rw[bPt];simp;omega) (by simp;omega) λb g w h=>⟨_,_,_,rfl,z7 ?_⟩;have h:St W (Row e 316 (Ay ptD [{ d with pl:=(l.length:Int)}])::rowD { d with pl:=l.length}::Row c 187 [Zi Zk now,Zl p l.length cap,.map m]::SlA 316 1 ptD b g (l++[{ d with pl:=(l.length:Int)}])::alsA l::F) w:=h;refine z0m (k0:=1) 2 h rfl (by simp) λw h=>⟨rfl,b,g,?_⟩;have h:St W (Row e 316 (Ay ptD [{ d with pl:=(l.length:Int)}])::rowD { d with pl:=l.length}::Row c 187 [Zi Zk now,.slice b (l++[{ d with pl:=(l.length:Int)}]).length g,.map m]::SlA 316 1 ptD b g (l++[{ d with pl:=(l.length:Int)}])::alsA l::F) w:=h;have k:=h.drop;have j:St W (rowD { d with pl:=l.length}::alsA l::Row c 187 [Zi Zk now,.slice b (l++[{ d with pl:=(l.length:Int)}]).length g,.map m]::SlA 316 1 ptD b g (l++[{ d with pl:=(l.length:Int)}])::F) w:=k.perm (List.Perm.cons _ (A6 (l₁:=[_,_]) (a:=alsA l) (l₂:=F)));exact(alsA.snoc j).perm ((A6 (l₁:=[_,_]) (a:=alsA _) (l₂:=F)).symm)
end
def HoleI.congr{α:Type}{le:α->α->Prop}{n i:Nat}{f g:Nat->α}(h:HoleI le n f i)(b:∀k,k<n->g k=f k):HoleI le n g i:=⟨λk a w d c=>by
 have:=par_lt a;rw[b _ (by omega),b _ w];exact h.1 k a w d c,λk a w d c=>by
 have:=par_lt a;have:=par_lt c;rw[b _ (by omega),b _ w];exact h.2 k a w d c⟩
def fK_app{l:List AD}{d:AD}{k:Nat}(h:k<l.length):fK (l++[d]) k=fK l k:=by unfold fK;rw[A7 h]
def snoc_of{l:List AD}{n:Nat}{d:AD}(b:l.length=n+1)(w:l[n]?=A1 d):∃l0,l=l0++[d]/\l0.length=n:=by
 refine⟨l.dropLast,?_,by simp[b]⟩;have h:l≠[]:=λe=>by subst e;simp at b
 have a:=List.dropLast_concat_getLast h;have c:l.getLast h=d:=by
  rw[List.getLast_eq_getElem];rw[Ak (by omega)]at w;have:l.length - 1=n:=by omega
  simp only[this];exact Option.some.inj w
 rw[c]at a;exact a.symm
def HOk.init{l:List AD}{d:AD}(h:HOk (l++[d])):HOk l:=⟨λi x w=>h.pl i x (by rw[A7 (A0.1 w).1];exact w),h.nd.sublist ((List.sublist_append_left l [d]).map _),by have:=h.small;simp at this;omega⟩
section
variable{W w:World}{F:List Asn}{c:Nat}{now:Int}{m:Option Nat}{p:Option Addr}{cap:Nat}{l:List AD}{d:AD}
def Push_spec(s:HOk l)(B:HeapF leA l.length (fK l))(hid:∀x∈l,x.id≠d.id)(I:l.length<1500)(g:St W (rowD d::HL c now m p cap l F) w):
 qb Zp 271 #[hV c,.iface 316 (Zq (A1 ⟨d.b,0,Ag⟩))] w λv w'=>v=Zt #[]/\∃G j l',HOk l'/\HeapF leA l'.length (fK l')/\(l'.map coreD).Perm (coreD d::l.map coreD)/\St W (HL c now m G j l' F) w':=by
 refine F271_of (inv_ptr mPush bPush ((PushM_spec (by omega) g).of λv w ⟨r,H,c1,g⟩=>⟨r,iLen g ⟨_,rfl,?_⟩⟩));have D:(l++[{ d with pl:=(l.length:Int)}]).length=l.length+1:=by simp
 have n:HOk (l++[{ d with pl:=(l.length:Int)}]):=by
  refine⟨λi x f=>?_,?_,by omega⟩
  .rcases B7 i l.length with h|h;.rw[A7 h]at f;exact s.pl i x f
   .rw[List.getElem?_append_right h]at f;have:i=l.length:=by
     rcases B7 (i - l.length) 1 with u|u;.omega
     .rw[List.getElem?_eq_none (by simpa using u)]at f;cases f
    subst this;simp at f;rw[<-f]
  .rw[A2];refine List.nodup_append.2 ⟨s.nd,by simp,λa C b y e=>?_⟩;obtain⟨x,f,rfl⟩:=Av.1 C;simp at y;exact hid x f (by rw[e,y])
 have E:UpI leA (l.length+1) (fK (l++[{ d with pl:=(l.length:Int)}])) l.length:=B.push λk A=>fK_app A;have z:Zw Zk ((((l++[{ d with pl:=(l.length:Int)}]).length:Nat):Int) - 1)=((l.length:Nat):Int):=by rw[w64];omega
 dsimp only;rw[z];refine(up_spec (by omega) (by omega) n E g).of λv w ⟨r,l',o,t,q,g⟩=>⟨r,rfl,H,c1,l',o,?_,?_,g⟩;.rw[t.len,D];exact q
 .refine t.core.trans ?_;rw[A2];exact A5
def fix_spec{i n:Nat}{K:Ad->Prop}(z:n<=l.length)(A:HOk l)(y:HoleI leA n (fK l) i)(G:i<n)(q:St W (HL c now m p cap l F) w)
 (u:∀l' w',HOk l'->HRel n l l'->HeapF leA n (fK l')->St W (HL c now m p cap l' F) w'->K w'):
 qb Zp 277 #[hV c,Zi Zk i,Zi Zk n] w λv w'=>AsB v λx=>Bif (!x) (qb Zp 281 #[hV c,Zi Zk i] w' λe f=>e=(Zt #[])/\K f) (K w'):=by
 refine(down_spec z A y (by omega) q).of λv w1 ⟨b,H,k,a,t,r,o,d⟩=>⟨b,k,za (λh=>?_) λh=>?_⟩
 .have h:b=Ah:=by simpa using h
  obtain⟨rfl,C⟩:=o h;refine(up_spec G z a (y.up C) d).of λv E B=>?_;obtain⟨k,D,g,s,j,q⟩:=B;exact⟨k,u D E g s j q⟩
 .have h:b=An:=by simpa using h
  exact u H w1 a t (r h) d
def Fix_spec{i:Nat}(e:HOk l)(g:HoleI leA l.length (fK l) i)(f:i<l.length)(a:St W (HL c now m p cap l F) w):
 qb Zp 270 #[hV c,Zi Zk i] w λv w'=>v=Zt #[]/\∃l',HOk l'/\HeapF leA l'.length (fK l')/\(l'.map coreD).Perm (l.map coreD)/\St W (HL c now m p cap l' F) w':=by
 refine F270_of (iLen a ⟨_,rfl,?_⟩);exact fix_spec (Af _) e g f a λl' w' b h d a=>⟨rfl,l',b,by rw[h.len];exact d,h.core,a⟩
def iPop{n:Nat}{K:Ae->Ad->Prop}(i:l.length=n+1)(b:l[n]?=A1 d)(a:HOk l)(j:HeapF leA n (fK l))(e:St W (HL c now m p cap l F) w)
 (g:∀l' w',HOk l'->HeapF leA l'.length (fK l')->l=l'++[d]->St W (rowD d::HL c now m p cap l' F) w'->K (.iface 316 (Zq (A1 ⟨d.b,0,Ag⟩))) w'):
 q6d Zp "Pop" (hV c) [] w K:=by
 obtain⟨l0,rfl,q⟩:=snoc_of i b;have o:=a.small;refine inv_ptr mPop bPop ((PopM_spec (by omega) e).of λv w' ⟨f,h⟩=>?_);subst f;refine g l0 w' a.init ?_ rfl h;rw[q];exact j.congr λk r=>(fK_app (by omega)).symm
def Remove_spec{i:Nat}(u:HOk l)(J:HeapF leA l.length (fK l))(b:l[i]?=A1 d)(a:St W (HL c now m p cap l F) w):
 qb Zp 222 #[hV c,Zi Zk i] w λv w'=>∃O l',coreD O=coreD d/\v=.iface 316 (Zq (A1 ⟨d.b,0,Ag⟩))/\HOk l'/\HeapF leA l'.length (fK l')/\(l.map coreD).Perm (coreD d::l'.map coreD)/\St W (rowD O::HL c now m p cap l' F) w':=by
 have Q:=(A0.1 b).1;have P:=u.small;obtain⟨n,L⟩:∃n,l.length=n+1:=⟨l.length - 1,by omega⟩;obtain⟨y,g⟩:=get_of (l:=l) (i:=n) (by omega);refine F222_of (iLen a ⟨_,rfl,?_⟩);have en:Zw Zk (((l.length:Nat):Int) - 1)=((n:Nat):Int):=by rw[w64];omega
 dsimp only;rw[en];refine za (λr=>?_) λH=>?_
 .have r:(n:Int)≠(i:Int):=by simpa using r
  have h:i≠n:=by omega
  refine iSwap rfl rfl b g a λw a=>⟨rfl,?_⟩;have t:=u.sw b g h;have C:(swL l i n d y).length=n+1:=by rw[swL_len,L]
  have G:=swL_rel (N:=n+1) b g h (by omega) (by omega);have D:(swL l i n d y)[n]?=A1 { d with pl:=n}:=by rw[swL_get b g h,yA (Ne.symm h),yB rfl]
  have x:=swL_fK b g h;have s:HoleI leA n (fK (swL l i n d y)) i:=by
   refine HoleI.congr (f:=λk=>if k=i then fK l n else fK l k) ((J.less (m:=n) (by omega)).hole leA_ord (by omega) λk I=>by rw[yA I]) λk I=>?_;rw[x];unfold sw;by_cases e:k=i;.rw[yB e,yB e]
   .rw[yA e,yA e,yA (by omega)]
  refine fix_spec (K:=λw=>q6d Zp "Pop" (hV c) [] w _) (by omega) t s (by omega) a λT w' z q A a=>?_;refine iPop (d:={ d with pl:=(n:Int)}) (by rw[q.len,C]) (by rw[q.tail n (Af _),D]) z A a λE R o j B a=>⟨{ d with pl:=(n:Int)},E,rfl,rfl,o,j,?_,a⟩;have M:=(q.core.trans G.core).symm;rw[B,A2]at M;exact M.trans A5
 .have H:(n:Int)=(i:Int):=by
   have:¬(n:Int)≠(i:Int):=by simpa using H
   omega
  have h:i=n:=by omega
  subst h;rw[b]at g;cases g;refine iPop L b u (J.less (by omega)) a λE R o j B a=>⟨d,E,rfl,rfl,o,j,?_,a⟩;rw[B,A2];exact A5
def Pop_spec(Q:HOk l)(X:HeapF leA l.length (fK l))(a:l[0]?=A1 d)(j:St W (HL c now m p cap l F) w):
 qb Zp 197 #[hV c] w λv w'=>∃U l',coreD U=coreD d/\v=.iface 316 (Zq (A1 ⟨d.b,0,Ag⟩))/\HOk l'/\HeapF leA l'.length (fK l')/\(l.map coreD).Perm (coreD d::l'.map coreD)/\St W (rowD U::HL c now m p cap l' F) w':=by
 have h2:=(A0.1 a).1;have Z:=Q.small;obtain⟨n,I⟩:∃n,l.length=n+1:=⟨l.length - 1,by omega⟩;obtain⟨y,t⟩:=get_of (l:=l) (i:=n) (by omega);refine F197_of (iLen j ⟨_,rfl,?_⟩);have en:Zw Zk (((l.length:Nat):Int) - 1)=((n:Nat):Int):=by rw[w64];omega
 dsimp only;rw[en];refine iSwap (i:=0) rfl rfl a t j λw j=>⟨rfl,?_⟩;rcases Ai n with rfl|h0
 .rw[a]at t;cases t;have V:swL l 0 0 d d=[{ d with pl:=0}]:=by
   match l,I,a with
   |[x],_,a=>simp at a;subst a;rfl
  have e0:l=[d]:=by
   match l,I,a with
   |[x],_,a=>simp at a;subst a;rfl
  rw[V]at j;have r:HOk [{ d with pl:=0}]:=⟨λi x C=>by
   match i,C with
   |0,C=>simp at C;subst C;rfl,by simp,by simp⟩
  refine(down_spec (n:=0) (i0:=0) (l:=[{ d with pl:=0}]) (by simp) r ⟨λk _ h=>yI h (by omega),λk _ h=>yI h (by omega)⟩ (Af _) j).of λv w ⟨b,l1,H,s,g,B,A,j⟩=>⟨b,H,?_⟩;have P:=g.len;refine iPop (n:=0) (d:={ d with pl:=0}) P (by rw[g.tail 0 (Af _)];rfl) s (λk _ h=>yI h (by omega)) j λL w3 z u J j=>⟨{ d with pl:=0},L,rfl,rfl,z,u,?_,j⟩;have D:=g.core.symm;rw[J,A2]at D;rw[e0];exact D.trans A5
 .have o:0≠n:=by omega
  have r:=Q.sw a t o;have K:(swL l 0 n d y).length=n+1:=by rw[swL_len,I]
  have O:=swL_rel (N:=n+1) a t o (by omega) (by omega);have M:(swL l 0 n d y)[n]?=A1 { d with pl:=n}:=by rw[swL_get a t o,yA (Ne.symm o),yB rfl]
  have E:=swL_fK a t o;have q:HoleI leA n (fK (swL l 0 n d y)) 0:=by
   refine HoleI.congr (f:=λk=>if k=0 then fK l n else fK l k) ((X.less (m:=n) (by omega)).hole leA_ord (by omega) λk R=>by rw[yA R]) λk R=>?_;rw[E];unfold sw;by_cases e:k=0;.rw[yB e,yB e]
   .rw[yA e,yA e,yA (by omega)]
  refine(down_spec (n:=n) (i0:=0) (by omega) r q (by omega) j).of λv w ⟨b,Y,H,s,g,B,A,j⟩=>⟨b,H,?_⟩;have G:HeapF leA n (fK Y):=by
   cases b with
   |true=>exact B rfl
   |false=>obtain⟨rfl,D⟩:=A rfl;exact(q.up D).done0
  refine iPop (d:={ d with pl:=(n:Int)}) (by rw[g.len,K]) (by rw[g.tail n (Af _),M]) s G j λL w3 z u J j=>⟨{ d with pl:=(n:Int)},L,rfl,rfl,z,u,?_,j⟩;have T:=(g.core.trans O.core).symm;rw[J,A2]at T;exact T.trans A5
end
end Ck
end
end Go.Proofs.YtfjifcfbmhpcaaaGreatDoor
