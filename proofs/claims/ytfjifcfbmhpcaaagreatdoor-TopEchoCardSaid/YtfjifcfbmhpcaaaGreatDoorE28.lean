/-
  A part of the proof of TopEcho.
-/
import Derived.Test.YtfjifcfbmhpcaaaGreatDoorE27
import Derived.Test.YtfjifcfbmhpcaaaGreatDoorE21
import Derived.Test.YtfjifcfbmhpcaaaGreatDoorE16
import Derived.Test.YtfjifcfbmhpcaaaGreatDoorE22
import Derived.Test.YtfjifcfbmhpcaaaGreatDoorE02
import Derived.OrdersIn
import Derived.Test.YtfjifcfbmhpcaaaGreatDoorE00
set_option linter.defProp false
set_option linter.unusedVariables false
set_option linter.unusedSimpArgs false
namespace Go.Proofs.YtfjifcfbmhpcaaaGreatDoor
open Go
open Go.Proofs.Tryz renaming prog → Zp
open Go.IntKind renaming i64 → Zk, wrap → Zw
open Go.Value renaming int → Zi, bool → Zb, tuple → Zt, slice → Zl
open _root_.List renaming length_map->A0,getElem?_map->A1,mem_map->A3,map_cons->A4,map_append->A5,map_map->A6,getElem?_eq_getElem->A8,perm_middle->A9,getElem?_of_mem->Aa,mem_of_getElem?->Ab,append_of_mem->Ad,mem_cons_self->Ae,all_eq_true->Ag
open Go.Proofs renaming ltOf->A2
open Go.Sort renaming putRow->A7,grow->Af,ahead->Ah
open _root_.Option renaming some->Ac
section
def GrC(w0:World):Cls where
 p:=λG w=>∃q os,w=Af (w0.drewN q) os
 drew:=λG w h=>by obtain⟨q,os,rfl⟩:=h;exact⟨q+1,os,rfl⟩
 new:=λG w o h=>by obtain⟨q,os,rfl⟩:=h;exact⟨q,os++#[o],by rw[Sort.alloc_eq_grow,Sort.grow_grow]⟩
 perm:=λa h=>h
def qru{c:World}{a b:Nat}{d f:Int}(k:c.cell? ⟨a,0,none⟩=Ac (Zi Zk d))(j:c.cell? ⟨b,0,none⟩=Ac (Zi Zk f))(i:a<c.heap.size)(e:b<c.heap.size):
 qb Zp 101 #[qc a,qc b] c λv w'=>v=Zi Zk (Zw Zk (d - f))/\∃q os,w'=Af (c.drewN q) os:=by
 refine F101_of ⟨GrC c,⟨0,#[],by rw[Sort.grow_empty];rfl⟩,z7 (z7 ⟨_,(λG w g=>?_),_,(λG w g=>?_),λG w h=>⟨rfl,h⟩⟩)⟩
 .obtain⟨q,os,rfl⟩:=g;rw[qi1];exact⟨d,cell_grown i k q os,rfl,q,os,rfl⟩
 .obtain⟨q,os,rfl⟩:=g;rw[qi1];exact⟨f,cell_grown e j q os,rfl,q,os,rfl⟩
section
variable{W w:World}{F l:List Asn}
abbrev LnT(bs:List (Int×Nat×qn)):={ y:Int×Nat×qn//y∈bs}
def lnE{bs:List (Int×Nat×qn)}(y:LnT bs):Value:=qc y.1.2.1
def qe3{bs:List (Int×Nat×qn)}(y:LnT bs):Int:=y.1.2.2.no
def leN{bs:List (Int×Nat×qn)}(x y:LnT bs):Bool:=decide (qe3 x<=qe3 y)
def qri{bs:List (Int×Nat×qn)}{y:Int×Nat×qn}(c:y∈bs)(h:St W (qz (bs.map λy:Int×Nat×qn=>qp1 y.2.1 y.2.2)::F) w):w.cell? ⟨y.2.1,0,none⟩=Ac (Zi Zk y.2.2.no)/\y.2.1<w.heap.size:=by
 obtain⟨s,t,rfl⟩:=Ad c;have b:=qf5 (X:=qp1 y.2.1 y.2.2) (r:=(s++t).map λy:Int×Nat×qn=>qp1 y.2.1 y.2.2) (by rw[A5,A5,A4];exact A9) h
 obtain⟨d,e,g,f,a⟩:=qp1.open_ b;exact⟨a.ld rfl,q5j a⟩
def qih{α:Type}[Inhabited α](enc:α->Value)(w:World)(q:Nat)(d:Array α):A7 enc w q 0 d=A7 id w q 0 (d.map enc):=by
 unfold A7;congr 1;funext c;unfold Sort.putCells;apply Array.ext;.simp
 .intro i b a;simp only[Array.getElem_mapIdx,Array.size_map,Nat.zero_le,yL,Nat.zero_add,Nat.sub_zero,id];by_cases h:i<d.size;.simp[h]
  .simp[h]
set_option maxHeartbeats 1000000 in
def qqr{bs:List (Int×Nat×qn)}{p:Option Addr}{c:Nat}{zs:List (LnT bs)}(hl:zs.length<=1000000)(N:(bs.map λy=>y.2.2.no).Nodup)(u:∀y∈bs,0<=y.2.2.no/\y.2.2.no<=1000000)
 (K:St W (qi 75 1 p zs.length c (zs.map lnE)::qz (bs.map λy:Int×Nat×qn=>qp1 y.2.1 y.2.2)::F) w):
 qb Zp 162 #[Zl p zs.length c,.func (.func 101) #[] #[]] w λv w'=>v=Zt #[]/\St W (qi 75 1 p zs.length c ((q91 leN zs).map lnE)::qz (bs.map λy:Int×Nat×qn=>qp1 y.2.1 y.2.2)::F) w':=by
 by_cases U:zs=[]
 .subst U;have key:=AnyF.slices_SortFunc_none { Tryz.sortLine with} p c (.func (.func 101) #[] #[]) w;exact Calls.mono key λe w' ⟨B,H⟩=>⟨_,B,rfl,by subst H;exact K⟩
 have C:0<zs.length:=by cases zs with|nil=>exact yI rfl U|cons _ _=>simp
 haveI:Inhabited (LnT bs):=⟨zs[0]⟩
 have s:zs.length<=c:=(qi.le K).2;obtain⟨q,all,hp,o,J,I⟩:=qi.opened C K;clear K;subst hp;rw[Nat.mul_one]at o J;have hH:Sort.Holds lnE w q 0 zs.toArray:=λj D=>by
  have t:j<zs.length:=by simpa using D
  have V:zs[j]?=Ac zs[j]:=A8 t;have Z:all[j]?=Ac (lnE zs[j]):=by
   have k:(all.take zs.length)[j]?=Ac (lnE zs[j]):=by rw[J,A1,V];rfl
   rw[List.getElem?_take,yB t]at k;exact k
  have l:=I.st (i:=j) (by omega) (Zb true);have L:=I.ld Z;rw[Nat.zero_add];refine⟨?_,l.1.2⟩;rw[L];congr 1;simp[getElem!_pos,t]
 have X:∀args w,(callFunc 101 args).run Zp w=.ok (.enter 101 args) w:=enters_of Tryz.func101 (by kernel_rfl) rfl;have g:∀x y:LnT bs,A2 (λx y:LnT bs=>Zw Zk (qe3 x - qe3 y)) x y=decide (qe3 x<qe3 y):=λx y=>by
  have k:=u _ x.2;have l:=u _ y.2;unfold A2;have e:Zw Zk (qe3 x - qe3 y)=qe3 x - qe3 y:=by unfold qe3;exact w64
  have L:((λx y:LnT bs=>Zw Zk (qe3 x - qe3 y)) x y<0)↔qe3 x<qe3 y:=by show Zw Zk (qe3 x - qe3 y)<0↔_;rw[e];omega
  exact decide_eq_decide.2 L
 have E:Sort.SWO (A2 (λx y:LnT bs=>Zw Zk (qe3 x - qe3 y))):=by
  refine⟨λx=>by rw[g];simp,λx y z k l=>?_,λx y z k l=>?_⟩;.rw[g]at*;simp at*;omega
  .rw[g]at*;simp at*;omega
 have r:∀x y:LnT bs,qe3 x=qe3 y->x=y:=λx y h=>by
  obtain⟨i,T⟩:=Aa x.2;obtain⟨j,D⟩:=Aa y.2;have Q:(bs.map λy=>y.2.2.no)[i]?=Ac (qe3 x):=by rw[A1,T];rfl
  have A:(bs.map λy=>y.2.2.no)[j]?=Ac (qe3 x):=by rw[A1,D,h];rfl
  have d:=(List.getElem?_eq_some_iff.1 Q).1;have:=(List.getElem?_inj d N).1 (Q.trans A.symm);subst this;rw[T]at D;exact Subtype.ext (Option.some.inj D)
 have key:=Any.slices_SortFunc_total Tryz.sortLine (α:=LnT bs) lnE (λx=>rfl) (λx y=>Zw Zk (qe3 x - qe3 y)) E 101 #[] q 0 c zs.toArray w X
  (λm os dk hs x y=>?_) hH (q5j I) (by simp;omega) (λx y k l=>by rw[g]at k l;have a1:=yD k;have a2:=yD l;exact r x y (by omega))
 .have e:(zs.toArray.toList.mergeSort λx y=>!(A2 (λx y:LnT bs=>Zw Zk (qe3 x - qe3 y))) y x)=q91 leN zs:=by
   rw[show(λx y:LnT bs=>!(A2 (λx y:LnT bs=>Zw Zk (qe3 x - qe3 y))) y x)=leN from funext λx=>funext λy=>by rw[g];unfold leN;rw[Bool.eq_iff_iff];simp]
   exact qij (le:=leN) (λa b c k l=>by unfold leN at*;simp only[yJ]at*;omega) (λa b=>by unfold leN;simp only[Bool.or_eq_true,yJ];omega) (λa b k l=>by unfold leN at*;simp only[yJ]at*;exact r a b (by omega)) (List.Perm.refl _)
  rw[e]at key;have M:zs.toArray.size=zs.length:=by simp
  rw[M]at key;refine Calls.mono key λe w' ⟨B,n,os,H⟩=>⟨_,B,rfl,?_⟩;subst H;have d:(q91 leN zs).length=zs.length:=(qv1 leN zs).length_eq;have G:=I.putRow_id (vs:=(q91 leN zs).map lnE) (by rw[A0,d,o];exact s) n os;have A:sortWorld lnE w q 0 n (q91 leN zs).toArray os=Af (A7 id (Ah w n) q 0 ((q91 leN zs).map lnE).toArray) os:=by unfold sortWorld;rw[qih];simp
  rw[A];refine z0v (all:=(q91 leN zs).map lnE++all.drop ((q91 leN zs).map lnE).length) ?_ s (by rw[Nat.mul_one,<-d,<-A0 (f:=lnE),List.take_left' rfl]) G;rw[List.length_append,List.length_drop,A0,d,o];omega
 .have O:dk.toList.length=zs.length:=by rw[Array.length_toList,hs];simp
  have G:=I.putRow_id (vs:=dk.toList.map lnE) (by rw[A0,O,o];exact s) m os;have A:sortWorld lnE w q 0 m dk os=Af (A7 id (Ah w m) q 0 (dk.toList.map lnE).toArray) os:=by unfold sortWorld;rw[qih,<-Array.toList_map]
  rw[<-A]at G;have R:=qri x.2 G.drop;have P:=qri y.2 G.drop;exact Calls.mono (qru R.1 P.1 R.2 P.2) λe w' ⟨v,B,Y,H⟩=>⟨by rw[B,Y];rfl,H⟩
end
end
section
section
variable{W w:World}{F l:List Asn}{c:qy}{P:qe1}{x b:Nat}{q:qb5}{rp:Option Addr}{rc n:Nat}{v v':Wd}{e:EvD}{L:qn}{o:List (Int×Nat)}{k:Int}{m:Nat}{Ls:List (Int×qn)}{res:Bool}
def qsv{p:Option Addr}{s:Nat}{ps:List (Int×Nat)}(l:∀y∈ps,y∈o)(D:ps.length<=1000000)(z:Rd F p (ps.map λy=>qc y.2))(B:ql1 F c)(b:v.anyA c n (ps.map (·.1))=Ac (v',res))(e:St W (wld o c P x q rp rc v F) w):
 qb Zp 164 #[Zl p ps.length s,.func (.func 103) #[qc x] #[]] w λr w'=>∃i,r=Zi Zk i/\decide (i>=0)=res/\∃rp rc,St W (wld o c P x q rp rc v' F) w':=by
 refine F164_of ⟨λvs w=>∃(i:Nat) (u:Wd) (rp:Option Addr) (rc:Nat),vs=[Zi Zk i]/\i<=ps.length/\u.anyA c n ((ps.drop i).map (·.1))=Ac (v',res)/\St W (wld o c P x q rp rc u F) w,leftN ps.length,⟨0,v,rp,rc,rfl,by omega,b,e⟩,λx w m=>?_⟩;clear e b;obtain⟨i,u,rp,rc,A,E,b,e⟩:=m;cases A;refine za (λd=>?_) λj=>?_
 .have d:i<ps.length:=by have:=yC d;omega
  have g:=A8 d;rw[List.drop_eq_getElem_cons d,A4]at b;generalize ps[i]=y at g b;refine z0f z.w6 e rfl d (v:=qc y.2) (by rw[A1,g];rfl) λa f=>LdP.at f ?_;unfold Wd.anyA at b;cases f:u.answer c n y.1 with
  |none=>rw[f]at b;cases b
  |some r2=>
  obtain⟨u2,C⟩:=r2;rw[f]at b;dsimp only at b;refine zx (by kernel_rfl) ((q1o (l _ (Ab g)) B f e).of λr w ⟨t,rp,rc,e⟩=>⟨_,t,za (λh=>?_) λh=>?_⟩)
  .rw[yB h]at b;cases b;exact⟨_,rfl,by simp,rp,rc,e⟩
  .rw[yA (by rw[h];simp)]at b;rw[up d (by omega)];exact⟨⟨i+1,u2,rp,rc,rfl,by omega,b,e⟩,by show ps.length -(i+1)<ps.length - i;omega⟩
 have k:i=ps.length:=by have:=yD j;omega
 subst k;rw[List.drop_length]at b;cases b;exact⟨_,rfl,rfl,rp,rc,e⟩
def qng{α β:Type}(l:List α)(f:α->β):(l.attach.map λy:{ y//y∈l}=>f y.1)=l.map f:=by simp
def qye{α β:Type}{g:α->Option β}{f:α->β}:∀l:List α,(∀y∈l,g y=Ac (f y))->l.filterMap g=l.map f
 |[],_=>rfl
 |a::r,h=>by rw[List.filterMap_cons,h a Ae,A4,qye r λy w=>h y (List.mem_cons_of_mem _ w)]
def q9f{α β:Type}(f:α->β):∀(l:List β) (m:List α),l.Perm (m.map f)->∃z:List α,z.Perm m/\z.map f=l
 |[],m,h=>by
  have:=h.nil_eq;cases m with
  |nil=>exact⟨[],.refl _,rfl⟩
  |cons _ _=>cases this
 |a::r,m,h=>by
  obtain⟨y,c,rfl⟩:=A3.1 (h.subset Ae);obtain⟨s,t,rfl⟩:=Ad c;have w:r.Perm ((s++t).map f):=by rw[A5,A4]at h;have:=h.trans A9;rw[A5];exact List.Perm.cons_inv this
  obtain⟨z,d,b⟩:=q9f f r _ w;exact⟨y::z,(d.cons y).trans A9.symm,by rw[A4,b]⟩
set_option maxHeartbeats 1000000 in
def q9t(Z:ql1 F c)(m:v.back c n=Ac (v',res))(d:St W (wld [] c P x q rp rc v F) w):
 qb Zp 61 #[qc x] w λr w'=>r=Zb res/\∃rp rc,St W (wld [] c P x q rp rc v' F) w':=by
 unfold Wd.back at m;by_cases D:¬v.nos.Nodup\/1000000<v.lines.length\/v.nos.all (λn=>decide (0<=n/\n<=1000000))=false;.rw[yB D]at m;cases m
 rw[yA D]at m;rw[not_or,not_or]at D;obtain⟨j,O,l⟩:=D;have j:v.nos.Nodup:=Classical.not_not.1 j;have l:∀n∈v.nos,0<=n/\n<=1000000:=λn V=>by
  have X:v.nos.all (λn=>decide (0<=n/\n<=1000000))=true:=by
   cases h:v.nos.all (λn=>decide (0<=n/\n<=1000000))with
   |true=>rfl
   |false=>exact yI h l
  simpa using Ag.1 X n V
 obtain⟨bs,⟨E,_⟩,d⟩:=wld.open_ d;have s:(bs.map (·.1)).Nodup:=by have:=z18 kI (d.at 3 rfl);rwa[qx5]at this
 have f:v.nos=bs.map λy=>y.2.2.no:=by unfold Wd.nos;rw[<-E];unfold qx;rw[A6];rfl
 have g:bs.length=v.lines.length:=by rw[<-E,q46]
 refine F61_of (z7 (zv 0 d rfl rfl (F100_of (zh d λcap w d=>?_))));have d:St W (Row cap 78 [.map (Ac q.ml)]::qg (Zi Zk) qc q.ml (qx (Prod.fst (α:=Nat) (β:=qn)) bs)::Row x 81 (qb8 q rp rc v.row.length v.draw)::qb2 c q.bx q.p v.b::AgW q.a P v.g::q51 38 4 rp v.row.length rc (v.row.flatMap q21)::qg (Zi Zk) qr1 q.ms v.S::qz (bs.map λy:Int×Nat×qn=>qp1 y.2.1 y.2.2)::F) w:=zo 8 [0,4,1,2,3,5,6,7] d rfl;refine F99_of (F161_of ((AppL.AppSeq_spec (by kernel_rfl) (by rw[q46,g];omega) (qps (Nat.le_refl _)) d).of λr w ⟨L,p,N,A,o,d⟩=>⟨_,_,_,A,_,_,_,rfl,?_⟩));have I:L.Perm (bs.attach.map λy:LnT bs=>y.1.2.1):=by
  have e:(bs.attach.map λy:LnT bs=>y.1.2.1)=(qx (Prod.fst (α:=Nat) (β:=qn)) bs).map (·.2):=by unfold qx;rw[A6,qng bs (λy=>y.2.1)];rfl
  rw[e];exact o
 obtain⟨zs,M,rfl⟩:=q9f _ _ _ I;have G:zs.length=bs.length:=by rw[M.length_eq,List.length_attach]
 have d:St W (qi 75 1 p (zs.map λy:LnT bs=>y.1.2.1).length N ((zs.map λy:LnT bs=>y.1.2.1).flatMap λx=>[qc x])::Row cap 78 [.map (Ac q.ml)]::qg (Zi Zk) qc q.ml (qx (Prod.fst (α:=Nat) (β:=qn)) bs)::Row x 81 (qb8 q rp rc v.row.length v.draw)::qb2 c q.bx q.p v.b::AgW q.a P v.g::q51 38 4 rp v.row.length rc (v.row.flatMap q21)::qg (Zi Zk) qr1 q.ms v.S::qz (bs.map λy:Int×Nat×qn=>qp1 y.2.1 y.2.2)::F) w:=d;rw[qt6,A6,A0]at d;have d:=zf 8 1 d rfl;rw[A0];refine(qqr (zs:=zs) (by omega) (by rw[<-f];exact j) (λy z=>l _ (by rw[f];exact A3.2 ⟨y,z,rfl⟩)) d).of λr w ⟨A,d⟩=>⟨A,_,_,_,rfl,?_⟩;have t:∀y∈(q91 leN zs).map (λy:LnT bs=>(y.1.1,y.1.2.1)),y∈bs.map λy=>(y.1,y.2.1):=λy z=>by obtain⟨u,_,rfl⟩:=A3.1 z;exact A3.2 ⟨u.1,u.2,rfl⟩
 have H:(q91 leN zs).length=zs.length:=(qv1 leN zs).length_eq;have K:v.byNo=((q91 leN zs).map (λy:LnT bs=>(y.1.1,y.1.2.1))).map (·.1):=by
  unfold Wd.byNo;have R:q91 leI v.nos=(q91 leN zs).map qe3:=by rw[q5a qe3 (le:=leN) (le':=leI) (λa b=>rfl)];refine q88 ?_;rw[f];have:=(M.map qe3).symm;have Q:bs.attach.map qe3=bs.map λy=>y.2.2.no:=qng bs (λy=>y.2.2.no);rw[Q]at this;exact this
  rw[R,List.filterMap_map,A6];refine qye _ (λy _=>?_);have U:(y.1.1,y.1.2.2)∈v.lines:=by rw[<-E];exact A3.2 ⟨y.1,y.2,rfl⟩
  have:=q8p (by exact j) U;show(v.find (qe3 y)).map (·.1)=Ac y.1.1;unfold Wd.find qe3;rw[this];rfl
 rw[K]at m;generalize k:(q91 leN zs).map (λy:LnT bs=>(y.1.1,y.1.2.1))=ps at t m;have B:ps.length=zs.length:=by rw[<-k,A0,H]
 have C:(q91 leN zs).map lnE=ps.map λy=>qc y.2:=by rw[<-k,A6];rfl
 rw[C]at d;have d:St W (wld (bs.map λy=>(y.1,y.2.1)) c P x q rp rc v (qi 75 1 p zs.length N (ps.map λy=>qc y.2)::F)) w:=
  wld.shut E (λy z=>by obtain⟨u,hu,rfl⟩:=A3.1 z;exact⟨u.2.2,q24 s hu⟩) (zo 9 [4,5,6,3,7,8,1,0] d rfl)
 rw[<-B]at d⊢;refine F102_of ((qsv t (by rw[B,G,g];omega) (z0i _) (Z.cons _) m d).of λr w ⟨i,A,Y,rp,rc,d⟩=>⟨_,A,_,by rw[Y],rfl,rp,rc,?_⟩);have d:=d.del 6 rfl;obtain⟨T,⟨J,_⟩,d⟩:=wld.open_ d;exact wld.shut J (by simp) d
end
end
section
variable{dfr:List Deferred}
def qq4{F:Fence}(m:qx4 F){P:Program}{l:Array Oper}{b:List Nat}{Q:Act->World->Prop}{y:Exit->Act->World->Prop}(e:∀(i:Nat) (o:Oper),l[i]?=Ac o->∀c,o.op≠.defer c)(p:∀a w,Q a w->y .normal a w):
 ∀(f:Nat) (pend:qc1) (d:Array Bool) (a:Act) (C:Cls) (G:List (Nat×Obj)) (w:World),C.p G w->AnyC P l b Q pend f d a C->wpAnyIn F 0 P .any l y f d a w
 |0,_,_,_,_,G,w,n,h=>⟨h.1,p _ _ (h.2 G w n)⟩
 |f+1,pend,d,a,C,G,w,n,h=>⟨λE=>p _ _ (h.1 E G w n),λj D=>by
  have g:=h.2 j D;unfold OpC at g;unfold wpOpIn;split;.rename_i q;simp only[q]at g;exact qq4 m e p f _ _ _ C G w n g
  .rename_i o q;simp only[q]at g;cases hwt:Region.wanted o (yielded l a.tmps)with
   |false=>simp only[hwt]at g;rw[yA (by simp)];exact⟨λf _=>m.fn f,qq4 m e p f _ _ _ C G w n g⟩
   |true=>
    simp only[hwt]at g;rw[yB rfl];split at g
    .obtain⟨t,mk,r,s⟩:=g;have u:qz1 P o a w λv w'=>v=mk w.heap.size/\w'=w.alloc t:=by unfold qz1;rw[newOf_run r w];exact⟨rfl,rfl⟩
     refine u.wpIn m (.inr (e _ _ q)) λv w' ⟨x,k⟩=>?_;subst x;subst k;exact qq4 m e p f _ _ _ _ G _ (C.new G w t n) (s w.heap.size)
    .obtain⟨v,r,s⟩:=g;have u:qz1 P o a w λA w'=>A=v/\w'=w:=by unfold qz1;rw[r w];exact⟨rfl,rfl⟩
     refine u.wpIn m (.inr (e _ _ q)) λA w' ⟨x,k⟩=>?_;subst x;subst k;exact qq4 m e p f _ _ _ C G _ n s
    .obtain⟨X,r,s⟩:=g;refine(r G w n).wpIn m (.inr (e _ _ q)) λv w' ⟨z,B,k⟩=>?_;exact qq4 m e p f _ _ _ z G w' k (s v z B).2⟩
def QJ(sl:List (Nat×Ty))(J:List Value->World->Prop)(R:Value->World->Prop):qh4:=λx e w=>match x with
 |.normal=>qa2 sl e λvs=>J vs w
 |.ret=>R (.tuple #[]) w
 |_=>False
def qzx{F:Fence}(L:qx4 F){P:Program}{n f id:Nat}{b:Array Oper}{ord:List (Nat×Bool)}{Q:qh4}{p:Exit->Act->World->Prop}{e:Env}{w:World}{a:Act}(I:P.follows .mixedOrders=true)(K:Region.noSelect b=true)(B:Nat.ble ord.length b.size=true)(u:b.toList.all (λo=>!q7d o)=true)
 (h:qx8 P n (f+2) [.region id b true] (.draw ord .nil) Q e w) (J:q71 dfr n e a) (D:∀e' c w',Q .normal e' w'->q71 dfr n e' c->p .normal c w') (z:drawOk P b (qna b.toList []) ord (Array.replicate b.size false)=true:=by kernel_rfl):(Code.region id b true).wpIn F 0 P p a w:=by
 simp only[qx8,qa8]at h;simp only[Ann.ord,Ann.rest,Ann.two]at h;obtain⟨C,E,A⟩:=h;rw[<-drawC_eq _ _ z]at A;have B:=Nat.le_of_ble_eq_true B;have g:∀(l:List Oper) (i:Nat) (o:Oper),l[i]?=Ac o->∀t,q83 (quc l) t=false->q83 o.dst.toList t=false:=by
  intro l;induction l with
  |nil=>intro i o h;simp at h
  |cons x r ih=>
   intro i o h t q;simp only[quc]at q;cases i with
   |zero=>simp at h;subst h;exact qr2 q
   |succ i=>exact ih i o (by simpa using h) t (qyc q)
 have v:q37 b (Array.replicate b.size false):=λj o d G=>by
  rcases Nat.lt_or_ge j b.size with y|y;.simp[y]at G
  .simp[Array.getElem?_eq_none y]at d
 have key:=drawC_sound (Q:=λc w'=>p .normal c w') qsc K (quc b.toList) a (λi o d=>g b.toList i o (by simpa using d))
  (λe' c w' H s k=>D e' c w' H s) ord (b.size - ord.length) _ [] [] e C a A J (z16 _ _) v trivial (λx m=>by cases m) (λx m=>by cases m)
 rw[show ord.length+(b.size - ord.length)=b.size by omega]at key;refine wpIn_region_any I (qq4 L (λi o d=>q1e ?_) (λa w h=>h) _ _ _ _ C [] _ (C.drew _ _ E) key);have:=Ag.1 u o (by simpa using Ab (l:=b.toList) (by simpa using d));simpa using this
end
end Go.Proofs.YtfjifcfbmhpcaaaGreatDoor
