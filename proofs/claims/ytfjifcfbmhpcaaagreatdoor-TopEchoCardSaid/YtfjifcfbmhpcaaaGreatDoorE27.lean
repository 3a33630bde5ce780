/-
  A part of the proof of TopEcho.
-/
import Derived.Test.YtfjifcfbmhpcaaaGreatDoorE26
import Derived.Test.YtfjifcfbmhpcaaaGreatDoorE24
import Derived.Test.YtfjifcfbmhpcaaaGreatDoorE15
import Derived.Test.YtfjifcfbmhpcaaaGreatDoorE03
import Derived.Test.YtfjifcfbmhpcaaaGreatDoorE00
set_option linter.defProp false
set_option linter.unusedVariables false
set_option linter.unusedSimpArgs false
namespace Go.Proofs.YtfjifcfbmhpcaaaGreatDoor
open Go
open Go.Proofs.Tryz renaming prog → Zp
open Go.IntKind renaming i64 → Zk, wrap → Zw
open Go.Addr renaming add → Za
open Go.Value renaming int → Zi, string → Zs, pointer → Zq, bool → Zb, tuple → Zt, slice → Zl, agg → Zg
open _root_.Option renaming some->A0,none->A2,isSome_map->An,isNone_map->Az,map_some->B4
open _root_.Prod renaming fst->A1,snd->A5
open _root_.List renaming length_append->A3,take_append_drop->A6,length_take->A7,take_of_length_le->Aa,length_drop->Ab,eq_nil_of_length_eq_zero->Ad,take_append_of_le_length->Af,length_nil->Ag,mem_map->Aj,drop_eq_getElem_cons->Am,getElem?_eq_getElem->Ao,length_cons->Ap,find?_cons->Aq,mem_cons->Au,mem_cons_self->Aw,append_assoc->Ax,drop_length->B0,append_nil->B2,mem_append->B3,drop_zero->B5,map_cons->B7
open _root_.Bool renaming false->A4,true->Ai
open Go renaming Addr->A8,Value->Ac,World->As,TypeId->Bc
open _root_.Option.some renaming inj->A9
open _root_.Nat renaming add_mul->Ae,mul_le_mul_right->Ar,lt_of_le_of_lt->Av,zero_mul->Ay,le_refl->B1,zero_add->B9,le_zero->Ba,sub_mul->Bb
open Go.Builtin renaming append_->Ah,firstCells->Ak,lenOf->B6
section
def qp5(t:Int)(X:List UInt8):List (Int×q81):=if X.isEmpty=Ai then []else [(t,⟨t,mkS X,A4,A4⟩)]
def qs3(t:Int)(X:List UInt8):List q81:=if X.isEmpty=Ai then []else [⟨t,mkS X,A4,A4⟩]
def q9q(t:Int)(X:List UInt8){Z:List UInt8}(c:Z≠[]):qe6 (qp5 t X) t Z A4 A4=qp5 t (X++Z):=by
 unfold qe6;have b:Z.isEmpty=A4:=by
  cases Z with
  |nil=>exact yI rfl c
  |cons a r=>rfl
 have w:(X++Z).isEmpty=A4:=by
  cases X with
  |nil=>exact b
  |cons a r=>rfl
 rw[b,Bool.false_and,yA (by decide)];unfold qp5;rw[w,yA (show ¬(A4=Ai)by decide)];cases X with
 |nil=>
  simp only[List.isEmpty_nil,if_true];show [(t,(⟨t,e0++mkS Z,_,_⟩:q81))]=_;have:e0++mkS Z=mkS Z:=by have h:=q2b [] Z;exact h
  rw[this];rfl
 |cons a r=>rw[yA (λh=>by cases h)];unfold qk qe;simp only[if_true];rw[<-q2b];simp[qk]
def CrB(s:Bk)(ps:List (Int×Int×Nat))(C:Nat):Prop:=∀y∈ps,∀d,qe s.N.L y.1=A0 d\/qe s.N.L y.2.1=A0 d->(C:Int)<=d.credit
section
variable{c:qy}{s s':Bk}{ps:List (Int×Int×Nat)}{f t:Int}{i:Nat}{Y:List UInt8}{C:Nat}
def qmh:∀(n:Nat) {s:Bk} {Y X:List UInt8} {C:Nat},qja s ps f t i Y C->Y.length<=C->Y.length+255<256*n->s.S=qp5 t X->∃s',s.rounds c n=A0 s'/\qja s' ps f t i [] (C - Y.length)/\q1b s s' f t/\s'.S=qp5 t (X++Y)
 |0,s,Y,X,C,h,d,y,b=>by omega
 |n+1,s,Y,X,C,h,d,y,b=>by
  unfold Bk.rounds;by_cases w:Y=[]
  .subst w;rw[h.idle.round];exact⟨s,rfl,by rw[Ag,Nat.sub_zero];exact h,q1b.refl _ _ _,by rw[B2];exact b⟩
  .obtain⟨A,m,u,p,j⟩:=h.round (c:=c) w d;rw[m];simp only[if_true];have z:(Y.take 256).length+(Y.drop 256).length=Y.length:=by rw[<-A3,A6]
   have x:(Y.take 256).length=min 256 Y.length:=A7;have v:Y.take 256≠[]:=by
    cases Y with
    |nil=>exact yI rfl w
    |cons a r=>simp
   have g:0<Y.length:=List.length_pos_iff.2 w;obtain⟨q,e,k,o,l⟩:=qmh n (X:=X++Y.take 256) u (by omega) (by omega) (by rw[p,b,q9q _ _ v]);refine⟨q,e,?_,j.trans o,by rw[l,Ax,A6]⟩;have:C - Y.length=C -(Y.take 256).length -(Y.drop 256).length:=by omega
   rw[this];exact k
def q4i(t:Int)(X:List UInt8):(q91 leI ((qp5 t X).map (·.1))).map (λid=>(qe (qp5 t X) id).getD q93)=qs3 t X:=by
 unfold qp5 qs3;cases X with
 |nil=>rfl
 |cons a r=>rw[yA (λh=>by cases h),yA (λh=>by cases h)];simp[q91,qgb,qe]
def qnj{bs:ByteArray}{e:EvD}{n:Nat}(h:q0b s ps)(N:CrB s ps C)(T:(f,t,i)∈ps\/(t,f,i)∈ps)(hk:e.kind=2)(W:e.conn=f)(hb:e.b=bs)(hl:512<=C)(hn:3<=n):
 ∃s',s.step c n e=A0 (s',⟨0,0,((min bs.size 512:Nat):Int),qs3 t ((qm bs).take 512)⟩)/\q0b s' ps/\CrB s' ps (C - min bs.size 512)/\s'.P=s.P:=by
 obtain⟨p,x,o,F⟩:∃p,(p=(f,t,i)\/p=(t,f,i))/\p∈ps/\p.2.2=i:=T.elim (λh=>⟨_,.inl rfl,h,rfl⟩) λh=>⟨_,.inr rfl,h,rfl⟩;have z:=h.oth p o;have g:∃d,qe s.N.L f=A0 d/\qv9 d:=x.elim (λe=>by subst e;exact z.dv) λe=>by subst e;exact z.dk
 have l:∃d,qe s.N.L t=A0 d/\qv9 d:=x.elim (λe=>by subst e;exact z.dk) λe=>by subst e;exact z.dv
 have v:∃r,qe s.roles f=A0 r/\r.kind=4:=x.elim (λe=>by subst e;obtain⟨r,q⟩:=z.rv;exact⟨r,q.get,q.kind⟩) λe=>by subst e;obtain⟨r,q⟩:=z.rk;exact⟨r,q.get,q.kind⟩
 obtain⟨df,g,Z⟩:=g;obtain⟨dt,l,ti⟩:=l;obtain⟨rf,v,hkf⟩:=v;have R:(C:Int)<=df.credit:=N p o df (x.elim (λe=>by subst e;exact .inl g) λe=>by subst e;exact .inr g);have O:(C:Int)<=dt.credit:=N p o dt (x.elim (λe=>by subst e;exact .inr l) λe=>by subst e;exact .inl l);have hA:=h.act (bs:=qm bs) T l O (λd w=>by rw[g]at w;cases w;exact R) [];have B:(qm bs).length=bs.size:=by simp[qm]
 have hX:((qm bs).take 512).length=min bs.size 512:=by rw[A7,B,Nat.min_comm]
 obtain⟨H,h1,K,U,Q⟩:=qmh (c:=c) (X:=[]) n hA (by omega) (by omega) rfl;rw[List.nil_append]at Q;rw[hX]at K;refine⟨H,?_,K.idle,λy k d w=>?_,U.P⟩
 .unfold Bk.step;rw[yA (by omega),yA (by intro hh;have E:=hh.2.2;unfold Bk.ask at E;rw[W,q54 g]at E;cases E)]
  have G:Bk.act c n { s with S:=[]} e=A0 (({ s with S:=[]}:Bk).upd f (Cn.gFeed (qm bs)),0,0,((min bs.size 512:Nat):Int)):=by
   unfold Bk.act;rw[yA (by omega),yB hk,W,hb];obtain⟨m,rfl⟩:∃m,n=m+1:=⟨n - 1,by omega⟩;have q:Bk.read c (m+1) (({ s with S:=[]}:Bk).upd f (Cn.gFeed (qm bs))) f e.draw=A0 (({ s with S:=[]}:Bk).upd f (Cn.gFeed (qm bs))):=by
    unfold Bk.read;have:Bk.talks (({ s with S:=[]}:Bk).upd f (Cn.gFeed (qm bs))) f=A2:=by unfold Bk.talks;have q:qe (({ s with S:=[]}:Bk).upd f (Cn.gFeed (qm bs))).roles f=A0 rf:=v;rw[q];simp only;rw[yA (by omega)]
    rw[this]
   rw[q];have:Bk.ask { s with S:=[]} f 0 (Cn.rFeed (qm bs))=((min bs.size 512:Nat):Int):=by unfold Bk.ask;have w:qe ({ s with S:=[]}:Bk).N.L f=A0 df:=g;rw[q54 w];unfold Cn.rFeed;rw[yA (by rw[Z.ended];decide),Z.inb,B];rfl
   rw[this]
  rw[G];simp only;rw[yA (by decide),h1];simp only;rw[yA (by rw[Q];unfold qp5;split<;>simp)]
  unfold Bk.outs;rw[Q,q4i]
 .by_cases A:y.2.2=i
  .have:=qfd h.ndz k o (A.trans F.symm);subst this;have E:∀d,qe H.N.L f=A0 d\/qe H.N.L t=A0 d->((C - min bs.size 512:Nat):Int)<=d.credit:=λd w=>by
    obtain⟨d1,L,_,_,_,_,_,J⟩:=K.df;obtain⟨d2,M,_,I⟩:=K.dt;rcases w with w|w;.rw[L]at w;cases w;exact J
    .rw[M]at w;cases w;exact I
   exact E d (x.elim (λe=>by subst e;exact w) λe=>by subst e;exact w.symm)
  .obtain⟨a,b,D⟩:=List.append_of_mem o;have P:y∈a++b:=by
    have k:=k;rw[D]at k;rcases B3.1 k with k|k;.exact List.mem_append_left _ k
    .rcases Au.1 k with k|k;.exact yI (by rw[k];exact F) A
     .exact List.mem_append_right _ k
   obtain⟨L,J,M,I⟩:=qwd h.nd D y P;have u:y.1≠f/\y.1≠t/\y.2.1≠f/\y.2.1≠t:=x.elim (λe=>by subst e;exact⟨L,J,M,I⟩) λe=>by subst e;exact⟨J,L,I,M⟩
   have Y:∀j,j≠f->j≠t->qe H.N.L j=qe s.N.L j:=λj V k2=>by rw[U.N j V k2];show qe (s.N.upd f _).L j=_;rw[ql3,yA (λe=>V e.symm)]
   rw[Y _ u.1 u.2.1,Y _ u.2.2.1 u.2.2.2]at w;have:=N y k d w;omega
end
end
structure qn where
 no:Int
 conn:Int
 came:List UInt8
 back:List UInt8
 en:Bool
 raw:Bool
structure Wd where
 b:Bk
 g:AG
 lines:List (Int×qn)
 row:List q81
 S:List (Int×q81)
 draw:ByteArray
def evZ:EvD:=⟨0,0,0,e0,0,e0,e0,e0⟩
namespace Wd
def takeS(v:Wd)(s:q81):Option Wd:=
 if(qe v.lines s.conn).isSome=Ai then(if 1000000<v.row.length then A2 else A0 { v with row:=v.row++[s]})
 else if 4611686018427387904<((qe v.S s.conn).getD q93).b.size+s.b.size then A2
 else A0 { v with S:=qk v.S s.conn ⟨s.conn,((qe v.S s.conn).getD q93).b++s.b,((qe v.S s.conn).getD q93).e||s.e,((qe v.S s.conn).getD q93).c||s.c⟩}
def event(c:qy)(n:Nat)(v:Wd)(e:EvD):Option (Wd×qra):=match v.b.step c n { e with draw:=v.draw}with
 |none=>A2
 |some (b,o)=>match qw1 takeS { v with b:=b} o.sent with
  |none=>A2
  |some v=>A0 (v,o)
def setL(v:Wd)(k:Int)(l:qn):Wd:={ v with lines:=qk v.lines k l}
def open_(c:qy)(n:Nat)(v:Wd)(no:Int):Option Wd:=match v.event c n { evZ with kind:=1}with
 |none=>A2
 |some (v,o)=>if o.err≠0 then A0 v else if(qe v.lines o.conn).isSome=Ai then A2 else
  match (v.setL o.conn ⟨no,o.conn,[],[],A4,A4⟩).event c n { evZ with kind:=3,conn:=o.conn,n:=1073741824}with
  |none=>A2
  |some (v,_)=>A0 v
def nos(v:Wd):List Int:=v.lines.map λy=>y.2.no
def find(v:Wd)(no:Int):Option (Int×qn):=v.lines.find? λy=>decide (y.2.no=no)
def doA(c:qy)(n:Nat)(v:Wd)(a:qm6):Option Wd:=
 if ¬v.nos.Nodup then A2 else
 if a.k=1 then v.open_ c n a.line else
 match v.find a.line with
 |none=>A0 v
 |some (k,l)=>match v.event c n { evZ with kind:=2,conn:=l.conn,b:=mkS (Fr.putP (q0d a.m))}with
  |none=>A2
  |some (v,_)=>A0 (v.setL k { l with raw:=l.raw||(a.m.k==12)})
def does(c:qy)(n:Nat)(v:Wd)(l:List qm6):Option Wd:=qw1 (doA c n) v l
def msgs(c:qy)(n:Nat)(P:qe1):Nat->Wd->Int->Option Wd
 |0,_,_=>A2
 |f+1,v,k=>match qe v.lines k with
  |none=>A2
  |some l=>if l.raw=Ai then A0 v else if 1000000<l.came.length then A2 else
   if(Fr.firstP l.came).2.1=0 then A0 v else
   let v:=v.setL k { l with came:=l.came.drop (Fr.firstP l.came).2.1}
   match qxg (Fr.firstP l.came).1 with
   |(m,h)=>if h=A4 then msgs c n P f v k else
    match does c n { v with g:=(q22 P v.g l.no m v.b.K.now 0).1} (q22 P v.g l.no m v.b.K.now 0).2 with
    |none=>A2
    |some v=>msgs c n P f v k
def hear(c:qy)(n:Nat)(P:qe1)(v:Wd)(s:q81):Option Wd:=match qe v.lines s.conn with
 |none=>A0 v
 |some l=>if 1000000<l.came.length+s.b.size then A2 else
  match (v.setL s.conn { l with came:=l.came++qm s.b}).msgs c n P n s.conn with
  |none=>A2
  |some v=>match qe v.lines s.conn with
   |none=>A2
   |some l=>if 1000000<l.back.length+l.came.length then A2 else
    let l:=if l.raw=Ai then { l with back:=l.back++l.came,came:=[]}else l
    if s.c=Ai then A0 { v with lines:=qp v.lines s.conn,g:=(qn6 v.g l.no).1}
    else A0 (v.setL s.conn { l with en:=l.en||s.e})
def answer(c:qy)(n:Nat)(v:Wd)(k:Int):Option (Wd×Bool):=match qe v.lines k with
 |none=>A2
 |some l=>if l.raw=A4 then A0 (v,A4)else
  if l.back.length>0 then(match v.event c n { evZ with kind:=2,conn:=l.conn,b:=mkS l.back}with
   |none=>A2
   |some (v,o)=>if o.took<0\/(l.back.length:Int)<o.took then A2 else A0 (v.setL k { l with back:=l.back.drop o.took.toNat},decide (o.took>0)))
  else if l.en=Ai then(match (v.setL k { l with en:=A4}).event c n { evZ with kind:=4,conn:=l.conn}with
   |none=>A2
   |some (v,_)=>A0 (v,Ai))
  else A0 (v,A4)
def anyA(c:qy)(n:Nat):Wd->List Int->Option (Wd×Bool)
 |v,[]=>A0 (v,A4)
 |v,k::r=>match v.answer c n k with
  |none=>A2
  |some (v,b)=>if b=Ai then A0 (v,Ai)else anyA c n v r
def byNo(v:Wd):List Int:=(q91 leI v.nos).filterMap λno=>(v.find no).map (·.1)
def back(c:qy)(n:Nat)(v:Wd):Option (Wd×Bool):=if ¬v.nos.Nodup\/1000000<v.lines.length\/v.nos.all (λn=>decide (0<=n/\n<=1000000))=A4 then A2 else v.anyA c n v.byNo
def drain(c:qy)(n:Nat)(P:qe1):Nat->Wd->Option Wd
 |0,_=>A2
 |f+1,v=>match v.row with
  |[]=>A0 v
  |s::r=>match { v with row:=r}.hear c n P s with
   |none=>A2
   |some v=>drain c n P f v
def run(c:qy)(n:Nat)(P:qe1):Nat->Wd->Option Wd
 |0,_=>A2
 |f+1,v=>match v.drain c n P n with
  |none=>A2
  |some v=>match v.back c n with
   |none=>A2
   |some (v,b)=>if(b||decide (v.row.length>0))=Ai then run c n P f v else A0 v
def new(c:qy)(n:Nat)(P:qe1)(b:Bk):Option Wd:=
 match does c n ⟨b,(qo3 P ⟨A4,0,0,1,[]⟩ 0).1,[],[],[],e0⟩ (qo3 P ⟨A4,0,0,1,[]⟩ 0).2 with
 |none=>A2
 |some v=>v.run c n P n
def outs(v:Wd):List q81:=(q91 leI (v.S.map (·.1))).map λid=>(qe v.S id).getD q93
def step(c:qy)(n:Nat)(P:qe1)(v:Wd)(e:EvD):Option (Wd×qra):=
 if e.kind<1\/6<e.kind\/((qe v.lines e.conn).isSome=Ai/\e.kind>=2/\e.kind<=5)then A0 (v,⟨1,0,0,[]⟩)else
 match { v with S:=[],draw:=e.draw}.event c n e with
 |none=>A2
 |some (v,o)=>if o.err≠0 then A0 (v,⟨o.err,0,0,[]⟩)else
  match (if e.kind=6 then does c n { v with g:=(qd3 P v.g v.b.K.now 0).1} (qd3 P v.g v.b.K.now 0).2 else A0 v)with
  |none=>A2
  |some v=>match v.run c n P n with
   |none=>A2
   |some v=>if 1000000<v.S.length then A2 else A0 (v,⟨0,o.conn,o.took,v.outs⟩)
end Wd
section
def q51(t:Bc)(size:Nat)(p:Option A8)(n c:Nat)(cs:List Ac):Asn:=λh=>
 cs.length=n*size/\n<=c/\(c=0\/∃q o all,p=A0 ⟨q,o,A2⟩/\all.length=o+c*size/\(all.drop o).take (n*size)=cs/\Row q t all h)
section
variable{t:TypeId}{size:Nat}{p:Option Addr}{n c:Nat}{cs:List Value}{W w:World}{l:List Asn}
def q51.nil(t:Bc)(size:Nat)(p:Option A8)(h:St W l w):St W (q51 t size p 0 0 []::l) w:=
 ⟨h.1,λ_=>A2,λb o a=>by(cases a),⟨by simp,B1 _,.inl rfl⟩,h.2⟩
def q51.of_row{q o:Nat}{all:List Ac}(d:all.length=o+c*size)(b:n<=c)(a:(all.drop o).take (n*size)=cs)(h:St W (Row q t all::l) w):St W (q51 t size (A0 ⟨q,o,A2⟩) n c cs::l) w:=
 h.imp λh e=>⟨by rw[<-a,A7,Ab,d,Nat.add_sub_cancel_left];exact Nat.min_eq_left (Ar _ b),b,.inr ⟨q,o,all,rfl,d,a,e⟩⟩
def q51.rd(F:List Asn):Rd (q51 t size p n c cs::F) p cs:=λH a i v h=>by
 obtain⟨g,b,⟨f,k,e⟩,_⟩:=a;rcases e with rfl|⟨q,o,all,rfl,l,j,d⟩
 .have:cs=[]:=Ad (by rw[f,Ba.1 k,Ay]);subst this;simp at h
 .have w:all[o+i]?=A0 v:=by
   subst j;rw[List.getElem?_take]at h;split at h;.rwa[List.getElem?_drop]at h
   .cases h
  exact⟨_,rfl,by rw[qi1];exact q26 b (d.cell w)⟩
def q51.le(h:St W (q51 t size p n c cs::l) w):cs.length=n*size/\n<=c:=by obtain⟨_,g,_,⟨b,a,_⟩,_⟩:=h;exact⟨b,a⟩
def q51.from_{k:Nat}(j:k<=n)(h:St W (q51 t size p n c cs::l) w):St W (q51 t size (if c=k then p else p.map (·.add (k*size))) (n - k) (c - k) (cs.drop (k*size))::l) w:=by
 refine h.imp λh ⟨b,m,d⟩=>⟨by rw[Ab,b,Bb],by omega,?_⟩;by_cases a:c=k;.exact .inl (by omega)
 rw[yA a];rcases d with r|⟨q,o,all,g,e,i,f⟩;.omega
 refine .inr ⟨q,o+k*size,all,by rw[g,B4,qi1],?_,?_,f⟩
 .rw[e,Nat.add_assoc,<-Ae];congr 2;omega
 .rw[<-i,List.drop_take,List.drop_drop,Bb]
end
section
variable{P:Program}{W w:World}{r:List Asn}{sT xT ty e:TypeId}{inf:TypeInfo}{z:Value}{size:Nat}{p:Option Addr}{n c m:Nat}{cs xs:List Value}{x:Value}
def qrl(h w xs:List Ac)(k:Nat):qm1 (h++w) (h.length+k) xs=h++qm1 w k xs:=by unfold qm1;rw[List.take_append,List.drop_append];have b:h.take (h.length+k)=h:=Aa (by omega);have a:h.drop (h.length+k+xs.length)=[]:=List.drop_eq_nil_of_le (by omega);rw[b,a,show h.length+k - h.length=k by omega,show h.length+k+xs.length - h.length=k+xs.length by omega];simp[Ax]
def qik(R:P.underlying sT=A0 (.slice e))(C:Src P xT)(Q:P.info? e=A0 inf)(M:inf.size=size)(hz:inf.zero=A0 z)(L:z.cells.size=size){F:Ac->As->Prop}
 (B:St W (q51 e size p n c cs::r) w) (d:∀s,(B6 x).run P s=.ok m s) (i:∀s:As,s.heap=w.heap->(Ak size m x).run P s=.ok xs.toArray s) (b:xs.length=m*size)
 (I:∀v∈xs,qn1 v) (hb:(n+m)*inf.bytes<=140737488355328) (K:((n+m:Nat):Int)<=9223372036854775807)
 (T:∀p' c' w',St W (q51 e size p' (n+m) c' (cs++xs)::r) w'->F (.slice p' (n+m) c') w'):
 Run P (Ah #[sT,xT] ty #[Zl p n c,x]) w F:=by
 have k:=q51.le B;by_cases h:n+m<=c
 .obtain⟨h0,g,O,⟨J,Z,h4⟩,h5⟩:=B;rcases h4 with rfl|⟨q,o,all,rfl,hc,ht,hr⟩
  .have U:n=0:=by omega
   have V:m=0:=by omega
   subst U;subst V;have E:xs=[]:=Ad (by rw[b,Ay]);subst E;have:=q84 (P:=P) (w:=w) (w':=w) (p:=p) (n:=0) (m:=0) (c:=0) (xs:=[]) (ty:=ty) R C Q M (B1 _) d (i w rfl) (by cases p with|none=>exact .inl ⟨rfl,rfl⟩|some a=>exact .inr ⟨a,rfl,rfl⟩);exact⟨_,w,this,T p 0 w ⟨h0,g,O,⟨by simpa using J,B1 _,.inl rfl⟩,h5⟩⟩
  .have A:St W (Row q e all::r) w:=⟨h0,g,O,hr,h5⟩;have Y:n*size+xs.length<=c*size:=by rw[b,<-Ae];exact Ar _ h
   have t:o+n*size+xs.length<=all.length:=by omega
   obtain⟨w',G,f⟩:=qu4 (P:=P) (o:=o+n*size) xs 0 all w A (by omega) I;rw[Nat.add_zero,qo8 _ _ _ t]at f;have hsp:all=all.take o++all.drop o:=(A6 o all).symm;have y:(all.take o).length=o:=by rw[A7];omega
   have l:qm1 all (o+n*size) xs=all.take o++qm1 (all.drop o) (n*size) xs:=by have:=qrl (all.take o) (all.drop o) xs (n*size);rwa[y,A6]at this
   have:=q84 (P:=P) (w:=w) (w':=w') (p:=A0 ⟨q,o,A2⟩) (n:=n) (m:=m) (c:=c) (ty:=ty) R C Q M h d (i w rfl) (.inr ⟨_,rfl,by rw[qi1];exact G⟩);refine⟨_,w',this,T _ c w' (q51.of_row ?_ h ?_ f)⟩;.rw[q94 _ _ _ t,hc]
   .rw[l,List.drop_left' y];have hdl:(all.drop o).length=c*size:=by rw[Ab];omega
    unfold qm1;have H:(n+m)*size=n*size+xs.length:=by rw[b,Ae]
    have l1:((all.drop o).take (n*size)).length=n*size:=by rw[A7];omega
    rw[H,<-ht,Af (by rw[A3];omega),Aa (by rw[A3];omega)]
 .have u:(Ak size n (Zl p n c)).run P w.drew=.ok cs.toArray w.drew:=by
   refine qw3 (λj v hj=>?_) k.1 λhp=>?_;.exact(q51.rd r).of B.draws hj
   .obtain⟨_,g,_,⟨O,J,Z⟩,_⟩:=B;rcases Z with rfl|⟨q,o,all,X,_⟩;.rw[Ba.1 J,Ay]
    .rw[hp]at X;cases X
  have:=qo6 (P:=P) (w:=w) (x:=x) (n:=n) (m:=m) (c:=c) (ty:=ty) R C Q M hz h d (i w.drew rfl) u K (growslice_fits (by omega) hb);have D:=grownCap_ge w (n+m) c e;have f:=St.allocRow (St.draws B).drop (cs.toArray++xs.toArray++Builtin.zeroCells z.cells (grownCap w (n+m) c e -(n+m))) e;refine⟨_,_,this,T _ _ _ (q51.of_row ?_ D ?_ f)⟩
  .have N:=qm5 z.cells (grownCap w (n+m) c e -(n+m));simp only[Array.toList_append,A3,k.1,b,Array.length_toList,N,L];rw[<-Ae,<-Ae,B9];congr 1;omega
  .have H:(n+m)*size=(cs++xs).length:=by rw[A3,k.1,b,Ae]
   rw[H,B5];simp only[Array.toList_append];rw[Af (by simp),Aa (by simp)]
def q5i(D:P.underlying sT=A0 (.slice e))(t:Src P xT)(C:P.info? e=A0 inf)(B:inf.size=size)(u:inf.zero=A0 z)(g:z.cells.size=size){sp:Option A8}{sc:Nat}{F:Ac->As->Prop}
 (k:St W (q51 e size p n c cs::r) w) (l:Rd r sp xs) (h:xs.length=m*size)
 (d:∀v∈xs,qn1 v) (G:(n+m)*inf.bytes<=140737488355328) (f:((n+m:Nat):Int)<=9223372036854775807)
 (E:∀q o w',St W (q51 e size q (n+m) o (cs++xs)::r) w'->F (.slice q (n+m) o) w'):
 Run P (Ah #[sT,xT] ty #[Zl p n c,Zl sp m sc]) w F:=
 qik D t C B u g k (λs=>rfl) (λs A=>qw3 (λj v y=>by
  obtain⟨a,b,x⟩:=(l.cons _).of k y;exact⟨a,b,by rw[<-x];unfold World.cell?;rw[A]⟩) h (λH=>by
  rcases xs with _|⟨v,xs⟩;.simpa using h.symm
  .obtain⟨a,b,_⟩:=(l.cons _).of k (i:=0) (v:=v) rfl;rw[H]at b;cases b)) h d G f E
def q8o(o:P.underlying sT=A0 (.slice e))(f:P.underlying xT=A0 .string)(m:P.info? e=A0 inf)(g:inf.size=1)(j:inf.zero=A0 z)(h:z.cells.size=1){l:List UInt8}{F:Ac->As->Prop}
 (i:St W (q51 e 1 p n c cs::r) w) (k:(n+l.length)*inf.bytes<=140737488355328) (a:((n+l.length:Nat):Int)<=9223372036854775807)
 (t:∀b d w',St W (q51 e 1 b (n+l.length) d (cs++l.map qd)::r) w'->F (.slice b (n+l.length) d) w'):
 Run P (Ah #[sT,xT] ty #[Zl p n c,Zs (mkS l)]) w F:=
 qik o (.inl f) m g j h i (λs=>by simp[B6,qf1]) (λs u=>by
  have q:(mkS l).extract 0 l.length=mkS l:=by apply ByteArray.ext;simp[mkS,ByteArray.data_extract]
  simp only[Ak,q,Sem.run_pure];congr 1;apply Array.ext';simp[mkS,qd,Function.comp_def]) (by simp) q82 k a t
end
end
section
def erL(d:LD):LD:={ d with b:=0}
def erG(G:AG):AG:={ G with L:=G.L.map erL}
def q9p(no:Int):∀L:List LD,(L.map erL).find? (λd=>decide (d.no=no))=(L.find? λd=>decide (d.no=no)).map erL
 |[]=>rfl
 |d::r=>by rw[B7,Aq,Aq,q9p no r];show(match decide (d.no=no)with|true=>A0 (erL d)|false=>_)=_;cases decide (d.no=no)<;>rfl
def qga(G:AG)(no:Int):qg2 (erG G) no=(qg2 G no).map erL:=q9p no G.L
def qpg(G:AG)(no:Int)(st:Nat):erG (setSt G no st)=setSt (erG G) no st:=by
 unfold erG setSt;simp only[List.map_map];congr 1;refine List.map_congr_left λd _=>?_;show erL (if d.no=no then { d with st:=st}else d)=if(erL d).no=no then { erL d with st:=st}else erL d
 by_cases h:d.no=no;.rw[yB h,yB (show(erL d).no=no from h)];rfl
 .rw[yA h,yA (show ¬(erL d).no=no from h)]
def qcn(P:qe1)(G:AG)(no:Int)(tk:ByteArray)(b:Nat):(erG (qp4 P G no tk b).1,(qp4 P G no tk b).2)=qp4 P (erG G) no tk 0:=by unfold qp4 erG;simp[erL]
def q7k(P:qe1)(G:AG)(b:Nat):(erG (qo3 P G b).1,(qo3 P G b).2)=qo3 P (erG G) 0:=by
 unfold qo3;rw[qga,An];split;.rfl
 .exact qcn _ _ _ _ _
def qtq(P:qe1)(G:AG)(m:qk1)(now:Int)(b:Nat):(erG (qe2 P G m now b).1,(qe2 P G m now b).2)=qe2 P (erG G) m now 0:=by
 obtain⟨held,epoch,last,next,L⟩:=G;unfold qe2;simp only[show(erG ⟨held,epoch,last,next,L⟩).held=held from rfl,show(erG ⟨held,epoch,last,next,L⟩).epoch=epoch from rfl,show(erG ⟨held,epoch,last,next,L⟩).next=next from rfl];by_cases w:m.A=P.nam/\m.k=7;.simp only[yB w];rfl
 simp only[yA w];by_cases h:m.A=P.nam/\m.k=10/\held=Ai/\m.N=epoch;.simp only[yB h];rfl
 simp only[yA h];by_cases a:m.A=P.nam/\m.k=11/\next<1000
 .simp only[yB a];exact qcn P ⟨held,epoch,last,next+1,L⟩ _ _ _
 .simp only[yA a]
def qcx(P:qe1)(G:AG)(no:Int)(m:qk1)(now:Int)(b:Nat):(erG (q22 P G no m now b).1,(q22 P G no m now b).2)=q22 P (erG G) no m now 0:=by
 unfold q22;rw[qga];cases qg2 G no with
 |none=>rfl
 |some d=>
  simp only[B4,erL];split;.rfl
  split
  .split;.rw[qpg]
   .rfl
  split
  .split
   .split;.rw[qpg]
    .rw[qpg]
   .rfl
  .exact qtq _ _ _ _ _
def qio(G:AG)(no:Int):qh5 (erG G) no=qh5 G no:=by unfold qh5;rw[qga];cases qg2 G no<;>rfl
def qdv(P:qe1)(G:AG)(now:Int)(b:Nat):(erG (qd3 P G now b).1,(qd3 P G now b).2)=qd3 P (erG G) now 0:=by
 unfold qd3;rw[qga,qio,Az];split;.exact q7k _ _ _
 .simp only[show(erG G).held=G.held from rfl,show(erG G).last=G.last from rfl];by_cases h:qh5 G 0=Ai/\G.held=Ai/\q14 now/\¬now - G.last<P.every;.simp only[yB h];rfl
  .simp only[yA h]
def qbv(G:AG)(no:Int):(erG (qn6 G no).1,(qn6 G no).2)=qn6 (erG G) no:=by
 unfold qn6;rw[qga,Az];split;.rfl
 .split;.rfl
  .unfold erG;simp only[List.filter_map];rfl
def AgW(a:Nat)(P:qe1)(g:AG):Asn:=exA λG:AG=>qz [prA (erG G=g),qv a P G]
def qb2(c:qy)(x:Nat)(p:qm3)(s:Bk):Asn:=exA λy:List Nat×Option Nat=>qz (brk c x p y.1 y.2 s [])
section
variable{W w:World}{F l:List Asn}{c:qy}{x a n:Nat}{p:qm3}{s s':Bk}{e:EvD}{P:qe1}{g:AG}{out:qra}
def qb2.open_(h:St W (qb2 c x p s::F) w):∃pl a,St W (brk c x p pl a s F) w:=by obtain⟨y,h⟩:=h.of_ex;exact⟨y.1,y.2,h.of_sep⟩
def qb2.shut{pl:List Nat}{a:Option Nat}(h:St W (brk c x p pl a s F) w):St W (qb2 c x p s::F) w:=z01 (pl,a) (zk (l:=brk c x p pl a s []) h)
def qar(g:ql1 F c)(i: -9223372036854775808<=e.n/\e.n<=9223372036854775807)(b:s.step c n e=A0 (s',out))(h:St W (qb2 c x p s::F) w):qb Zp 15 #[qc x,Zg (evV e).toArray] w λv w'=>
 ∃q a,v=Zg #[Zi Zk out.err,Zi Zk out.conn,Zi Zk out.took,Zl q out.sent.length a]/\St W (SlA 38 4 q21 q a out.sent::qb2 c x p s'::F) w':=by
 obtain⟨pl,j,h⟩:=qb2.open_ h;refine(qau g i b h).of λv w ⟨pl,j,q,a,d,h⟩=>⟨q,a,d,?_⟩;have f:=qb2.shut h;exact f.p1
def qxj(h:St W (qb2 c x p s::F) w):qb Zp 31 #[qc x] w λv w'=>v=Zi Zk s.K.now/\St W (qb2 c x p s::F) w':=by obtain⟨pl,b,h⟩:=qb2.open_ h;exact(qws h).of λv w ⟨a,h⟩=>⟨a,qb2.shut h⟩
def qdo(d:s.P.ends.length<=1000000)(h:St W (qb2 c x p s::F) w):qb Zp 16 #[qc x] w λv w'=>∃q a,v=Zl q (qw4 s.P).length a/\St W (SlA 122 2 (q52 (qb4 s.P)) q a (qw4 s.P)::qb2 c x p s::F) w':=by obtain⟨pl,e,h⟩:=qb2.open_ h;exact(qlo d h).of λv w ⟨q,a,b,h⟩=>⟨q,a,b,(qb2.shut h).p1⟩
def AgW.open_(h:St W (AgW a P g::F) w):∃G,erG G=g/\St W (qv a P G::F) w:=by obtain⟨G,h⟩:=h.of_ex;obtain⟨c,b⟩:=h.of_sep.of_pr;exact⟨G,c,b⟩
def AgW.shut{G:AG}(b:erG G=g)(h:St W (qv a P G::F) w):St W (AgW a P g::F) w:=z01 G (zk (l:=[_,_]) (z02 b h))
def qrq(P:qe1)(b:qv8 P)(h:St W F w):qb Zp 51 #[Zg #[Zs P.ten,Zs P.tok,Zs P.sec,Zs P.nam,Zi Zk P.ttl,Zi Zk P.every]] w λv w'=>∃a,v=qc a/\St W (AgW a P ⟨A4,0,0,1,[]⟩::F) w':=
 (New_spec P b h).of λv w ⟨a,c,h⟩=>⟨a,c,AgW.shut rfl h⟩
def qeo(h:St W (AgW a P g::F) w):qb Zp 52 #[qc a] w λv w'=>∃q c,v=Zl q (qo3 P g 0).2.length c/\St W (qm2 q c (qo3 P g 0).2::AgW a P (qo3 P g 0).1::F) w':=by obtain⟨G,k,j⟩:=AgW.open_ h;clear h;subst k;refine(qii j).of λv w ⟨q,c,b,i,h⟩=>?_;have e:=q7k P G b;have f:=yE A1 e;have d:=yE A5 e;simp only at f d;rw[<-d];exact⟨q,c,i,(AgW.shut f h.p1).p1⟩
def qzp(no:Int)(m:qk1)(now:Int)(h:St W (AgW a P g::F) w):qb Zp 105 #[qc a,Zi Zk no,ql2 m,Zi Zk now] w λv w'=>∃q c,v=Zl q (q22 P g no m now 0).2.length c/\St W (qm2 q c (q22 P g no m now 0).2::AgW a P (q22 P g no m now 0).1::F) w':=by obtain⟨G,k,j⟩:=AgW.open_ h;clear h;subst k;refine(qus no m now j).of λv w ⟨q,c,b,i,h⟩=>?_;have e:=qcx P G no m now b;have f:=yE A1 e;have d:=yE A5 e;simp only at f d;rw[<-d];exact⟨q,c,i,(AgW.shut f h.p1).p1⟩
def qpr(now:Int)(h:St W (AgW a P g::F) w):qb Zp 30 #[qc a,Zi Zk now] w λv w'=>∃q c,v=Zl q (qd3 P g now 0).2.length c/\St W (qm2 q c (qd3 P g now 0).2::AgW a P (qd3 P g now 0).1::F) w':=by obtain⟨G,k,j⟩:=AgW.open_ h;clear h;subst k;refine(Tick_spec now j).of λv w ⟨q,c,b,i,h⟩=>?_;have e:=qdv P G now b;have f:=yE A1 e;have d:=yE A5 e;simp only at f d;rw[<-d];exact⟨q,c,i,(AgW.shut f h.p1).p1⟩
def q0q(no:Int)(h:St W (AgW a P g::F) w):qb Zp 106 #[qc a,Zi Zk no] w λv w'=>v=Zb (qn6 g no).2/\St W (AgW a P (qn6 g no).1::F) w':=by obtain⟨G,i,f⟩:=AgW.open_ h;clear h;subst i;refine(q8t no f).of λv w ⟨d,h⟩=>?_;have e:=qbv G no;have c:=yE A1 e;have b:=yE A5 e;simp only at c b;rw[<-b];exact⟨d,AgW.shut c h⟩
end
end
section
def lnC(l:qn)(b:Option A8)(w:Nat)(h:Option A8)(a:Nat):List Ac:=[Zi Zk l.no,Zi Zk l.conn,Zl b l.came.length w,Zl h l.back.length a,Zb l.en,Zb l.raw]
def qp1(b:Nat)(l:qn):Asn:=exA λy:Option A8×Nat×Option A8×Nat=>qz [Row b 140 (lnC l y.1 y.2.1 y.2.2.1 y.2.2.2),q51 5 1 y.1 l.came.length y.2.1 (l.came.map qd),q51 5 1 y.2.2.1 l.back.length y.2.2.2 (l.back.map qd)]
structure qb5 where
 bx:Nat
 a:Nat
 ml:Nat
 ms:Nat
 p:qm3
def qb8(q:qb5)(rp:Option A8)(rc n:Nat)(draw:ByteArray):List Ac:=[qc q.bx,qc q.a,.map (A0 q.ml),Zl rp n rc,.map (A0 q.ms),Zs draw]
@[reducible] def q6h (h:Asn) (c:qy) (P:qe1) (x:Nat) (q:qb5) (rp:Option A8) (rc:Nat) (v:Wd) (F:List Asn):List Asn:=
 Row x 81 (qb8 q rp rc v.row.length v.draw)::qb2 c q.bx q.p v.b::AgW q.a P v.g::h::q51 38 4 rp v.row.length rc (v.row.flatMap q21)::qg (Zi Zk) qr1 q.ms v.S::F
def qx1(o:List (Int×Nat))(m:Nat)(L:List (Int×qn)):Asn:=exA λbs:List (Int×Nat×qn)=>qz [prA (qx (A5 (α:=Nat) (β:=qn)) bs=L/\∀y∈o,∃d,qe bs y.1=A0 (y.2,d)),qg (Zi Zk) qc m (qx (A1 (α:=Nat) (β:=qn)) bs),qz (bs.map λy=>qp1 y.2.1 y.2.2)]
def ql5(o:List (Int×Nat))(m:Nat)(L:List (Int×qn))(k:Int)(b:Nat):Asn:=exA λbs:List (Int×Nat×qn)=>qz [prA (qx (A5 (α:=Nat) (β:=qn)) bs=L/\(∀y∈o,∃d,qe bs y.1=A0 (y.2,d))/\∃d,qe bs k=A0 (b,d)),qg (Zi Zk) qc m (qx (A1 (α:=Nat) (β:=qn)) bs),qz ((qp bs k).map λy=>qp1 y.2.1 y.2.2)]
@[reducible] def wld (o:List (Int×Nat)) (c:qy) (P:qe1) (x:Nat) (q:qb5) (rp:Option A8) (rc:Nat) (v:Wd) (F:List Asn):List Asn:=q6h (qx1 o q.ml v.lines) c P x q rp rc v F
@[reducible] def qj9 (o:List (Int×Nat)) (k:Int) (b:Nat) (c:qy) (P:qe1) (x:Nat) (q:qb5) (rp:Option A8) (rc:Nat) (v:Wd) (F:List Asn):List Asn:=q6h (ql5 o q.ml v.lines k b) c P x q rp rc v F
def q1j:Zp.underlying 78=A0 (.map 3 75):=Tryz.underlying78
def qwv:Zp.info? 75=A0 Tryz.t75:=by kernel_rfl
def q8x:Tryz.t75.zero=A0 (Zq A2):=rfl
section
variable{W w:World}{F l:List Asn}{c:qy}{P:qe1}{x b:Nat}{q:qb5}{rp:Option Addr}{rc n:Nat}{v v':Wd}{e:EvD}{out_:qra}{L:qn}
def qp1.open_(h:St W (qp1 b L::F) w):∃e c a d,St W (Row b 140 (lnC L e c a d)::q51 5 1 e L.came.length c (L.came.map qd)::q51 5 1 a L.back.length d (L.back.map qd)::F) w:=by obtain⟨⟨e,c,a,d⟩,h⟩:=h.of_ex;exact⟨e,c,a,d,h.of_sep⟩
def qp1.shut{e c:Option A8}{a d:Nat}(h:St W (Row b 140 (lnC L e a c d)::q51 5 1 e L.came.length a (L.came.map qd)::q51 5 1 c L.back.length d (L.back.map qd)::F) w):St W (qp1 b L::F) w:=
 z01 (e,a,c,d) (zk (l:=[_,_,_]) h)
variable{o:List (Int×Nat)}{m:Nat}{k:Int}{Ls:List (Int×qn)}
def qx1.open_(h:St W (qx1 o m Ls::F) w):∃bs:List (Int×Nat×qn),(qx (A5 (α:=Nat) (β:=qn)) bs=Ls/\∀y∈o,∃d,qe bs y.1=A0 (y.2,d))/\St W (qg (Zi Zk) qc m (qx (A1 (α:=Nat) (β:=qn)) bs)::qz (bs.map λy=>qp1 y.2.1 y.2.2)::F) w:=by obtain⟨bs,h⟩:=h.of_ex;exact⟨bs,h.of_sep.of_pr⟩
def qx1.shut{bs:List (Int×Nat×qn)}(b:qx (A5 (α:=Nat) (β:=qn)) bs=Ls)(a:∀y∈o,∃d,qe bs y.1=A0 (y.2,d))(h:St W (qg (Zi Zk) qc m (qx (A1 (α:=Nat) (β:=qn)) bs)::qz (bs.map λy=>qp1 y.2.1 y.2.2)::F) w):St W (qx1 o m Ls::F) w:=
 z01 bs (zk (l:=[_,_,_]) (z02 ⟨b,a⟩ h))
def ql5.open_(h:St W (ql5 o m Ls k b::F) w):∃bs:List (Int×Nat×qn),(qx (A5 (α:=Nat) (β:=qn)) bs=Ls/\(∀y∈o,∃d,qe bs y.1=A0 (y.2,d))/\∃d,qe bs k=A0 (b,d))/\St W (qg (Zi Zk) qc m (qx (A1 (α:=Nat) (β:=qn)) bs)::qz ((qp bs k).map λy=>qp1 y.2.1 y.2.2)::F) w:=by obtain⟨bs,h⟩:=h.of_ex;exact⟨bs,h.of_sep.of_pr⟩
def ql5.shut{bs:List (Int×Nat×qn)}(e:qx (A5 (α:=Nat) (β:=qn)) bs=Ls)(c:∀y∈o,∃d,qe bs y.1=A0 (y.2,d))(a:∃d,qe bs k=A0 (b,d))(h:St W (qg (Zi Zk) qc m (qx (A1 (α:=Nat) (β:=qn)) bs)::qz ((qp bs k).map λy=>qp1 y.2.1 y.2.2)::F) w):St W (ql5 o m Ls k b::F) w:=
 z01 bs (zk (l:=[_,_,_]) (z02 ⟨e,c,a⟩ h))
def qx1.forget{y:Int×Nat}(h:St W (qx1 (y::o) m Ls::F) w):St W (qx1 o m Ls::F) w:=by obtain⟨bs,⟨c,b⟩,h⟩:=qx1.open_ h;exact qx1.shut c (λz a=>b z (List.mem_cons_of_mem _ a)) h
def qx1.take(f:(k,b)∈o)(c:qe Ls k=A0 L)(h:St W (qx1 o m Ls::F) w):St W (qp1 b L::ql5 o m Ls k b::F) w:=by obtain⟨bs,⟨j,e⟩,l⟩:=qx1.open_ h;clear h;subst j;obtain⟨d,a⟩:=e _ f;rw[q62,a]at c;cases c;have h:=l;have g:=qf5 ((Go.Proofs.YtfjifcfbmhpcaaaGreatDoor.aget_perm a).map λy:Int×Nat×qn=>qp1 y.2.1 y.2.2) h.p1;have i:St W (qg (Zi Zk) qc m (qx (A1 (α:=Nat) (β:=qn)) bs)::qz ((qp bs k).map λy=>qp1 y.2.1 y.2.2)::qp1 b d::F) w:=zo 3 [2,1,0] g rfl;exact(ql5.shut rfl e ⟨d,a⟩ i).p1
def ql5.give(h:St W (qp1 b L::ql5 o m Ls k b::F) w):St W (qx1 o m (qk Ls k L)::F) w:=by
 obtain⟨bs,⟨j,a,d,f⟩,n⟩:=ql5.open_ h.p1;clear h;subst j;have h:=n;have e:qx (A1 (α:=Nat) (β:=qn)) (qk bs k (b,L))=qx (A1 (α:=Nat) (β:=qn)) bs:=by rw[<-qt2];exact qt1 (by rw[q62,f];rfl)
 refine qx1.shut (bs:=qk bs k (b,L)) (qt2 (A5 (α:=Nat) (β:=qn)) bs k (b,L)).symm (λy g=>?_) ?_
 .rw[qh2];split
  .rename_i p;obtain⟨q,c⟩:=a y g;rw[<-p,f]at c;exact⟨L,by cases c;rfl⟩
  .exact a y g
 .rw[e];have i:St W (qp1 b L::qz ((qp bs k).map λy=>qp1 y.2.1 y.2.2)::qg (Zi Zk) qc m (qx (A1 (α:=Nat) (β:=qn)) bs)::F) w:=zo 3 [2,1,0] h rfl;refine(q95 (l:=(qk bs k (b,L)).map λy=>qp1 y.2.1 y.2.2) ?_ i).p1;have:=(Go.Proofs.YtfjifcfbmhpcaaaGreatDoor.aget_perm (qj1 bs k (b,L))).map λy:Int×Nat×qn=>qp1 y.2.1 y.2.2;rw[adel_aset]at this;exact this.symm
def q2r{α:Type}{Pr:Program}{sT xT ty d:Bc}{a:TypeInfo}{z:Ac}{size:Nat}{f:α->List Ac}{p sp:Option A8}{n sc m:Nat}{os xs:List α}{K:Ac->As->Prop}(u:∀x,(f x).length=size)(D:Pr.underlying sT=A0 (.slice d))(e:Src Pr xT)(C:Pr.info? d=A0 a)(y:a.size=size)(o:a.zero=A0 z)(i:z.cells.size=size)
 (k:Nat) (A:St W l w) (j:nth l k=A0 (q51 d size p os.length n (os.flatMap f))) (q:Rd (del l k) sp (xs.flatMap f)) (s:m=xs.length) (g:∀x,∀v∈f x,qn1 v)
 (F:(os.length+xs.length)*a.bytes<=140737488355328) (t:os.length+xs.length<=9223372036854775807)
 (E:∀c b w',St W (put l k [q51 d size c (os++xs).length b ((os++xs).flatMap f)]) w'->K (.slice c (os++xs).length b) w'):
 Run Pr (Ah #[sT,xT] ty #[Zl p os.length n,Zl sp m sc]) w K:=by
 subst s;refine q5i D e C y o i (A.at k j) q (qh3 f size u xs) (λv r=>?_) F (by omega) λc b w' h=>?_
 .obtain⟨x,_,e⟩:=List.mem_flatMap.1 r;exact g x v e
 .rw[<-List.flatMap_append,<-A3]at h;have:=E c b w' (z06 k j (B:=[_]) h);rwa[A3]at this
def Ef.outd{C:Cls}{K:Ac->Cls->Prop}{b:Nat}{a0 d a2:Int}{p:Option A8}{n c:Nat}(k:Nat)(e:Is W C l)(f:K (Zt #[]) (StC W (ins k (Row b 32 [Zi Zk a0,Zi Zk d,Zi Zk a2,Zl p n c]) l))):
 Ef (Cls.push C (b,.cells #[(Zi Zk 0),(Zi Zk 0),(Zi Zk 0),(Zl A2 0 0)] 32)) (λw K=>
  St1 (Za ⟨b,0,A2⟩ 0) (Zi Zk a0) w λw=>St1 (Za ⟨b,0,A2⟩ 1) (Zi Zk d) w λw=>St1 (Za ⟨b,0,A2⟩ 2) (Zi Zk a2) w λw=>
  St1 (Za ⟨b,0,A2⟩ 3) (Zl p n c) w λw=>K (Zt #[]) w) K:=
 zn (α:=Unit) (V:=λ_=>Zt #[]) (B:=λ_=>ins k (Row b 32 [Zi Zk a0,Zi Zk d,Zi Zk a2,Zl p n c]) l) () (e.push b _) (λG w h=>by have a:=h.imp z0d;exact St1.zz 0 a rfl λw a=>St1.zz 0 a rfl λw a=>St1.zz 0 a rfl λw a=>St1.zz 0 a rfl λw a=>⟨(),rfl,by have a:St W (Row b 32 [Zi Zk a0,Zi Zk d,Zi Zk a2,Zl p n c]::l++pts G) w:=a;exact a.perm ((qh7 k _ l).append_right _)⟩) λ_=>f
def Ef.sent{C:Cls}{K:Ac->Cls->Prop}{b:Nat}(k:Nat)(c:Is W C l)(d:q81)(e:K (Zt #[]) (StC W (ins k (Row b 38 (q21 d)) l))):
 Ef (Cls.push C (b,.cells #[(Zi Zk 0),(Zs ⟨#[]⟩),(Zb A4),(Zb A4)] 38)) (λw K=>
  St1 (Za ⟨b,0,A2⟩ 0) (Zi Zk d.conn) w λw=>St1 (Za ⟨b,0,A2⟩ 1) (Zs d.b) w λw=>St1 (Za ⟨b,0,A2⟩ 2) (Zb d.e) w λw=>
  St1 (Za ⟨b,0,A2⟩ 3) (Zb d.c) w λw=>K (Zt #[]) w) K:=
 zn (α:=Unit) (V:=λ_=>Zt #[]) (B:=λ_=>ins k (Row b 38 (q21 d)) l) () (c.push b _) (λG w h=>by have a:=h.imp z0d;exact St1.zz 0 a rfl λw a=>St1.zz 0 a rfl λw a=>St1.zz 0 a rfl λw a=>St1.zz 0 a rfl λw a=>⟨(),rfl,by have a:St W (Row b 38 (q21 d)::l++pts G) w:=a;exact a.perm ((qh7 k _ l).append_right _)⟩) λ_=>e
def aggE{C:Cls}{l:List Asn}{b t:Nat}{e:EvD}(k:Nat)(d:Is W C l)(o:nth l k=A0 (Row b t (evV e))):
 Qt C (Zg (evV e).toArray) λw K=>LdI Zk (Za ⟨b,0,A2⟩ 0) w λm=>LdI Zk (Za ⟨b,0,A2⟩ 1) w λf=>LdI .u32 (Za ⟨b,0,A2⟩ 2) w λi=>LdS (Za ⟨b,0,A2⟩ 3) w λp=>LdI Zk (Za ⟨b,0,A2⟩ 4) w λn=>LdS (Za ⟨b,0,A2⟩ 5) w λg=>LdS (Za ⟨b,0,A2⟩ 6) w λc=>LdS (Za ⟨b,0,A2⟩ 7) w λj=>K (Zg #[Zi Zk m,Zi Zk f,Zi .u32 i,Zs p,Zi Zk n,Zs g,Zs c,Zs j]) w:=λG w h=>by
 have a:=d.at k o h;exact z8 0 a rfl rfl (z8 0 a rfl rfl (z8 0 a rfl rfl (zg 0 a rfl rfl (z8 0 a rfl rfl (zg 0 a rfl rfl (zg 0 a rfl rfl (zg 0 a rfl rfl ⟨rfl,h⟩)))))))
def aggS{C:Cls}{l:List Asn}{b t:Nat}{d:q81}(k:Nat)(c:Is W C l)(i:nth l k=A0 (Row b t (q21 d))):
 Qt C (Zg (q21 d).toArray) λw K=>LdI Zk (Za ⟨b,0,A2⟩ 0) w λg=>LdS (Za ⟨b,0,A2⟩ 1) w λe=>LdB (Za ⟨b,0,A2⟩ 2) w λf=>LdB (Za ⟨b,0,A2⟩ 3) w λj=>K (Zg #[Zi Zk g,Zs e,Zb f,Zb j]) w:=λG w h=>by
 have a:=c.at k i h;exact z8 0 a rfl rfl (zg 0 a rfl rfl (zw 0 a rfl rfl (zw 0 a rfl rfl ⟨rfl,h⟩)))
end
end
section
section
variable{W w:World}{F l:List Asn}{c:qy}{P:qe1}{x b:Nat}{q:qb5}{rp:Option Addr}{rc n:Nat}{v v':Wd}{e:EvD}{out:qra}{L:qn}
variable{o:List (Int×Nat)}{k:Int}
def wld.open_(h:St W (wld o c P x q rp rc v F) w):∃bs:List (Int×Nat×qn),(qx (A5 (α:=Nat) (β:=qn)) bs=v.lines/\∀y∈o,∃d,qe bs y.1=A0 (y.2,d))/\St W (q6h (qg (Zi Zk) qc q.ml (qx (A1 (α:=Nat) (β:=qn)) bs)) c P x q rp rc v (qz (bs.map λy=>qp1 y.2.1 y.2.2)::F)) w:=by obtain⟨bs,a,h⟩:=qx1.open_ (zf 3 0 h rfl);exact⟨bs,a,zo 7 [2,3,4,0,5,6,1] h rfl⟩
def wld.shut{bs:List (Int×Nat×qn)}(b:qx (A5 (α:=Nat) (β:=qn)) bs=v.lines)(a:∀y∈o,∃d,qe bs y.1=A0 (y.2,d))(h:St W (q6h (qg (Zi Zk) qc q.ml (qx (A1 (α:=Nat) (β:=qn)) bs)) c P x q rp rc v (qz (bs.map λy=>qp1 y.2.1 y.2.2)::F)) w):St W (wld o c P x q rp rc v F) w:=
 zo 6 [1,2,3,0,4,5] (qx1.shut b a (zo 7 [3,6,0,1,2,4,5] h rfl)) rfl
def wld.forget{y:Int×Nat}(h:St W (wld (y::o) c P x q rp rc v F) w):St W (wld o c P x q rp rc v F) w:=
 zo 6 [1,2,3,0,4,5] (qx1.forget (zf 3 0 h rfl)) rfl
def wld.take(i:(k,b)∈o)(g:qe v.lines k=A0 L)(h:St W (wld o c P x q rp rc v F) w):∃a d f e,St W (qj9 o k b c P x q rp rc v (Row b 140 (lnC L a d f e)::q51 5 1 a L.came.length d (L.came.map qd)::q51 5 1 f L.back.length e (L.back.map qd)::F)) w:=by obtain⟨a,d,f,e,h⟩:=qp1.open_ (qx1.take i g (zf 3 0 h rfl));exact⟨a,d,f,e,zo 9 [4,5,6,3,7,8,0,1,2] h rfl⟩
def wld.give{f d:Option A8}{a e:Nat}(h:St W (qj9 o k b c P x q rp rc v (Row b 140 (lnC L f a d e)::q51 5 1 f L.came.length a (L.came.map qd)::q51 5 1 d L.back.length e (L.back.map qd)::F)) w):St W (wld o c P x q rp rc (v.setL k L) F) w:=
 zo 6 [1,2,3,0,4,5] (ql5.give (qp1.shut (zo 9 [6,7,8,3,0,1,2,4,5] h rfl))) rfl
def qns(h:qe v.lines k=A0 L):v.setL k L=v:=by unfold Wd.setL;rw[qt1 h]
def wld.back{a f:Option A8}{d e:Nat}(g:qe v.lines k=A0 L)(h:St W (qj9 o k b c P x q rp rc v (Row b 140 (lnC L a d f e)::q51 5 1 a L.came.length d (L.came.map qd)::q51 5 1 f L.back.length e (L.back.map qd)::F)) w):St W (wld o c P x q rp rc v F) w:=by have:=wld.give h;rwa[qns g]at this
def q5h(y:Option Nat):(y.map qc).getD (Zq A2)=Zq (y.elim A2 λb=>A0 ⟨b,0,A2⟩):=by cases y<;>rfl
def qvw{s a:Bk}(w:s.step c n e=A0 (a,out)):out.sent.length<=1000000:=by
 unfold Bk.step at w;split at w;.cases w;simp
 split at w;.cases w;simp
 split at w;.cases w
 split at w;.cases w;simp
 split at w;.cases w
 split at w;.cases w
 rename_i h;cases w;simp only;rw[q0m];omega
set_option maxHeartbeats 2000000 in
def qu7(hO:ql1 F c)(hn: -9223372036854775808<=e.n/\e.n<=9223372036854775807)(U:v.event c n e=A0 (v',out))(a:St W (wld o c P x q rp rc v F) w):qb Zp 28 #[qc x,Zg (evV e).toArray] w λr w'=>
 ∃qq g Z h0,r=Zg #[Zi Zk out.err,Zi Zk out.conn,Zi Zk out.took,Zl qq out.sent.length g]/\St W (SlA 38 4 q21 qq g out.sent::wld o c P x q Z h0 v' F) w':=by
 unfold Wd.event at U;cases I:v.b.step c n { e with draw:=v.draw}with
 |none=>rw[I]at U;cases U
 |some r=>
 obtain⟨bb,ou⟩:=r;rw[I]at U;dsimp only at U;cases H:qw1 Wd.takeS { v with b:=bb} ou.sent with
 |none=>rw[H]at U;cases U
 |some u=>
 rw[H]at U;cases U;suffices hh:∀R:Ac->As->Prop,(∀r w',(∃qq g Z h0,r=Zg #[Zi Zk out.err,Zi Zk out.conn,Zi Zk out.took,Zl qq out.sent.length g]/\St W (SlA 38 4 q21 qq g out.sent::wld o c P x q Z h0 v' F) w')->R r w')->qb Zp 28 #[qc x,Zg (evV e).toArray] w R from hh _ λ_ _ h=>h
 intro R hR;refine F28_of (z09 6 a λl w a=>z09 7 a λp w a=>z7 (zg 0 a rfl rfl (St1.zz 6 a rfl λw a=>?_)));have a:St W (wld o c P x q rp rc v (evR l { e with draw:=v.draw}::qb1 p 0 0 0::F)) w:=a;refine⟨StC W _,zd a,z7 ⟨_,zq 0 ir rfl rfl,_,_,_,_,_,_,_,_,aggE 6 ir rfl,?_⟩⟩;refine Ef.sl 1 ir rfl (λG w h=>qar ((hO.app (pts G)).pre [_,_,_,_,_,_,_]) hn I h) (λ_ _ _ _ h=>⟨_,_,_,_,_,_,rfl,h⟩) λC g=>⟨_,_,_,_,_,_,rfl,trivial,λA=>?_⟩;refine Ef.outd 0 ir ⟨rfl,trivial,λG w h=>?_⟩;have a:St W (wld o c P x q rp rc { v with b:=bb} (SlA 38 4 q21 C g out.sent::Row A 32 [Zi Zk out.err,Zi Zk out.conn,Zi Zk out.took,Zl C out.sent.length g]::evR l { e with draw:=v.draw}::qb1 p 0 0 0::F)) w:=zo 10 [2,3,4,5,6,7,1,0,8,9] (zb h) rfl;have hsl:=qvw I;clear h I;generalize { v with b:=bb}=v0 at a H;generalize { e with draw:=v.draw}=e at a;obtain⟨err,conn,took,sent⟩:=out;dsimp only at a H hR hsl⊢;refine zt 7 a rfl rfl ?_;refine qt3 (λn vs w=>∃(k:Nat) (u:Wd) (rp:Option A8) (rc:Nat),k+n=sent.length/\vs=[Zi Zk (k:Int)]/\qw1 Wd.takeS u (sent.drop k)=A0 v'/\St W (wld o c P x q rp rc u (SlA 38 4 q21 C g sent::Row A 32 [Zi Zk err,Zi Zk conn,Zi Zk took,Zl C sent.length g]::evR l e::qb1 p 0 0 0::F)) w) λμ h1 h2=>⟨⟨sent.length,0,v0,rp,rc,by omega,rfl,by rw[B5];exact H,a⟩,λj w hI=>?_⟩;clear a H;obtain⟨k,u,rp,rc,hk,he,H,a⟩:=h2 _ _ hI;generalize μ _ _=m at hk⊢;cases he;refine za (λh=>?_) λh=>?_
 .have X:k<sent.length:=by have:=yC h;omega
  have hx:=Ao X;rw[Am X]at H;generalize sent[k]=d at H hx;unfold qw1 at H;cases E:Wd.takeS u d with
  |none=>rw[E]at H;cases H
  |some u'=>
  rw[E]at H;dsimp only at H;refine z0j q89 (by decide) (z07 6 rfl λF=>z0l F) a rfl X hx λad ha=>zy (ha 0 _ rfl) (z0y (ha 1 _ rfl) (LdB.at (ha 2 _ rfl) (LdB.at (ha 3 _ rfl) (z09 6 a λM w a=>St1.zz 6 a rfl λw a=>St1.zz 6 a rfl λw a=>St1.zz 6 a rfl λw a=>St1.zz 6 a rfl λw a=>?_))));have a:St W (wld o c P x q rp rc u (Row M 38 (q21 d)::SlA 38 4 q21 C g sent::Row A 32 [Zi Zk err,Zi Zk conn,Zi Zk took,Zl C sent.length g]::evR l e::qb1 p 0 0 0::F)) w:=a;have O:∀(rp:Option A8) (rc:Nat) (w:As),St W (wld o c P x q rp rc u' (Row M 38 (q21 d)::SlA 38 4 q21 C g sent::Row A 32 [Zi Zk err,Zi Zk conn,Zi Zk took,Zl C sent.length g]::evR l e::qb1 p 0 0 0::F)) w->
   (∃n,∃(k':Nat) (u:Wd) (rp:Option A8) (rc:Nat),k'+n=sent.length/\[Zi Zk (Zw Zk ((k:Int)+1))]=[Zi Zk (k':Int)]/\qw1 Wd.takeS u (sent.drop k')=A0 v'/\St W (wld o c P x q rp rc u (SlA 38 4 q21 C g sent::Row A 32 [Zi Zk err,Zi Zk conn,Zi Zk took,Zl C sent.length g]::evR l e::qb1 p 0 0 0::F)) w)/\μ [Zi Zk (Zw Zk ((k:Int)+1))] w<m:=λrp rc w a=>by
   have hI':∃(k':Nat) (u:Wd) (rp:Option A8) (rc:Nat),k'+(m - 1)=sent.length/\[Zi Zk (Zw Zk ((k:Int)+1))]=[Zi Zk (k':Int)]/\qw1 Wd.takeS u (sent.drop k')=A0 v'/\St W (wld o c P x q rp rc u (SlA 38 4 q21 C g sent::Row A 32 [Zi Zk err,Zi Zk conn,Zi Zk took,Zl C sent.length g]::evR l e::qb1 p 0 0 0::F)) w:=⟨k+1,u',rp,rc,by omega,by rw[up X (by omega)],H,a.del 6 rfl⟩;exact⟨⟨_,hI'⟩,Av (h1 _ _ _ hI') (by omega)⟩
  unfold Wd.takeS at E;obtain⟨bs,⟨hp,ho⟩,a⟩:=wld.open_ a;have Q:(qe (qx (A1 (α:=Nat) (β:=qn)) bs) d.conn).isSome=(qe u.lines d.conn).isSome:=by rw[<-hp,q62,q62,An,An]
  refine⟨StC W _,zd a,z7 ⟨_,z0b 0 ir rfl rfl,_,zj 7 ir rfl rfl,(qe (qx (A1 (α:=Nat) (β:=qn)) bs) d.conn).elim A2 (λb=>A0 ⟨b,0,A2⟩),_,(λG w hw=>qq1 kI q1j qwv q8x 3 hw rfl d.conn Ai (by rw[yB rfl,q5h];exact⟨_,_,rfl,rfl,hw⟩)),λG w h=>?_⟩⟩
  have a:=wld.shut hp ho (zb h);rw[Q];clear h Q hp ho;cases hL:qe u.lines d.conn with
  |some L=>
   rw[hL,yB (show(A0 L).isSome=Ai from rfl)]at E;by_cases D:1000000<u.row.length;.rw[yB D]at E;cases E
   rw[yA D]at E;have E:=A9 E;refine zm rfl ⟨StC W _,zd a,z7 ⟨_,_,_,QtL.a 0 ir rfl rfl,_,_,_,_,aggS 6 ir rfl,λN=>?_⟩⟩;have hbd:(u.row.length+[d].length)*Tryz.t38.bytes<=140737488355328:=by have:=bSe;simp only[Ap,Ag];exact Nat.le_trans (Nat.mul_le_mul_left _ this) (by omega)
   obtain⟨z,hz,hzs⟩:=qkw;refine zn (α:=Option A8×Nat) (V:=λy=>.slice y.1 (u.row++[d]).length y.2) (B:=λy=>Row N 38 (q21 d)::Row x 81 (qb8 q rp rc u.row.length u.draw)::qb2 c q.bx q.p u.b::AgW q.a P u.g::qx1 o q.ml u.lines::q51 38 4 y.1 (u.row++[d]).length y.2 ((u.row++[d]).flatMap q21)::qg (Zi Zk) qr1 q.ms u.S::Row M 38 (q21 d)::SlA 38 4 q21 C g sent::Row A 32 [Zi Zk err,Zi Zk conn,Zi Zk took,Zl C sent.length g]::evR l e::qb1 p 0 0 0::F) (A2,0) (ir.push N _) (λG w h=>?_) λy=>⟨_,_,_,rfl,trivial,z7 ?_⟩
   .have a:=h.imp z0d;have key:=λFF hb h63=>q2r (Pr:=Zp) (ty:=30) (K:=FF) (sT:=30) (xT:=30) (m:=1) (sc:=1) (sp:=A0 ⟨N,0,A2⟩) (f:=q21) (os:=u.row) (xs:=[d]) q89 qlj (.inr ⟨_,qlj⟩) iSe sSe hz hzs 5 a rfl (z0x 0 λi v h=>by rw[B9];simp only[List.flatMap_cons,List.flatMap_nil,B2]at h;exact h) rfl qkm hb h63;exact key _ hbd (by simp only[Ap,Ag];omega) λp4 c4 w a=>⟨_,_,_,rfl,(p4,c4),rfl,a⟩
   .refine z0o 1 ir rfl (by simp[qb8]) ⟨rfl,trivial,λG w h=>?_⟩;refine O y.1 y.2 w ?_;rw[<-E];exact(zb h).drop
  |none=>
   rw[hL,yA (by simp)]at E;by_cases D:4611686018427387904<((qe u.S d.conn).getD q93).b.size+d.b.size;.rw[yB D]at E;cases E
   rw[yA D]at E;have E:=A9 E;refine zl rfl ⟨StC W _,zd a,z7 ⟨_,z0b 0 ir rfl rfl,_,zj 6 ir rfl rfl,_,_,_,_,(λG w hw=>qq1 kI uMs iSe zSe 5 hw rfl d.conn A4 (by rw[yA (by simp),qre];exact⟨_,_,_,_,rfl,rfl,hw⟩)),λY=>?_⟩⟩;generalize (qe u.S d.conn).getD q93=was at D E⊢;refine Ef.sent 6 ir was ⟨rfl,trivial,λG w h=>?_⟩;have a:St W (wld o c P x q rp rc u (Row Y 38 (q21 was)::Row M 38 (q21 d)::SlA 38 4 q21 C g sent::Row A 32 [Zi Zk err,Zi Zk conn,Zi Zk took,Zl C sent.length g]::evR l e::qb1 p 0 0 0::F)) w:=zb h;clear h;have J:∀(s t:Bool) (w:As),(was.e||d.e)=s->(was.c||d.c)=t->St W (Row x 81 (qb8 q rp rc u.row.length u.draw)::qb2 c q.bx q.p u.b::AgW q.a P u.g::qx1 o q.ml u.lines::q51 38 4 rp u.row.length rc (u.row.flatMap q21)::qg (Zi Zk) qr1 q.ms (qk u.S d.conn ⟨d.conn,was.b++d.b,s,t⟩)::Row Y 38 (q21 was)::Row M 38 (q21 d)::SlA 38 4 q21 C g sent::Row A 32 [Zi Zk err,Zi Zk conn,Zi Zk took,Zl C sent.length g]::evR l e::qb1 p 0 0 0::F) w->St W (wld o c P x q rp rc u' (Row M 38 (q21 d)::SlA 38 4 q21 C g sent::Row A 32 [Zi Zk err,Zi Zk conn,Zi Zk took,Zl C sent.length g]::evR l e::qb1 p 0 0 0::F)) w:=λs t w hu T h=>by rw[<-E,hu,T];exact h.del 6 rfl
   refine⟨StC W _,zd a,z7 ⟨_,z0b 0 ir rfl rfl,_,zj 7 ir rfl rfl,_,zj 7 ir rfl rfl,_,zu 6 ir rfl rfl,_,zu 7 ir rfl rfl,⟨by omega,?_⟩⟩⟩;refine⟨_,z0s 6 ir rfl rfl,za (λhu=>⟨_,z0s 6 ir rfl rfl,za (λT=>?_) λT=>⟨_,z0s 7 ir rfl rfl,?_⟩⟩) λhu=>⟨_,z0s 7 ir rfl rfl,_,z0s 6 ir rfl rfl,za (λT=>?_) λT=>⟨_,z0s 7 ir rfl rfl,?_⟩⟩⟩;.exact Ef.mu (vl:=qr1) kI uMs 5 ir rfl d.conn ⟨d.conn,was.b++d.b,Ai,Ai⟩ ⟨rfl,trivial,λG w h=>O rp rc w (J _ _ _ (by rw[hu];rfl) (by rw[T];rfl) (zb h))⟩
   .exact Ef.mu (vl:=qr1) kI uMs 5 ir rfl d.conn ⟨d.conn,was.b++d.b,Ai,d.c⟩ ⟨rfl,trivial,λG w h=>O rp rc w (J _ _ _ (by rw[hu];rfl) (by rw[T];rfl) (zb h))⟩
   .exact Ef.mu (vl:=qr1) kI uMs 5 ir rfl d.conn ⟨d.conn,was.b++d.b,d.e,Ai⟩ ⟨rfl,trivial,λG w h=>O rp rc w (J _ _ _ (by rw[hu];rfl) (by rw[T];rfl) (zb h))⟩
   .exact Ef.mu (vl:=qr1) kI uMs 5 ir rfl d.conn ⟨d.conn,was.b++d.b,d.e,d.c⟩ ⟨rfl,trivial,λG w h=>O rp rc w (J _ _ _ (by rw[hu];rfl) (by rw[T];rfl) (zb h))⟩
 have hk2:k=sent.length:=by have:=yD h;omega
 rw[hk2,B0]at H;have I:=A9 H;subst I;refine z8 7 a rfl rfl (z8 7 a rfl rfl (z8 7 a rfl rfl (zt 7 a rfl rfl ?_)));refine St1.zz 9 a rfl λw a=>St1.zz 9 a rfl λw a=>St1.zz 9 a rfl λw a=>St1.zz 9 a rfl λw a=>?_;refine z8 9 a rfl rfl (z8 9 a rfl rfl (z8 9 a rfl rfl (zt 9 a rfl rfl (hR _ _ ⟨C,g,rp,rc,rfl,?_⟩))));have a:=((a.del 7 rfl).del 7 rfl).del 7 rfl;exact zf 6 0 a rfl
end
end
section
section
variable{W w:World}{F l:List Asn}{c:qy}{P:qe1}{x b:Nat}{q:qb5}{rp:Option Addr}{rc n:Nat}{v v':Wd}{e:EvD}{L:qn}{o:List (Int×Nat)}{k:Int}{m:Nat}{Ls:List (Int×qn)}
def qx1.add{K:As->Prop}(c:qe Ls k=A2)(j:St W (qp1 b L::qx1 o m Ls::F) w)(n:∀w',St W (qx1 o m (qk Ls k L)::F) w'->K w'):qt8 Zp (Instr.mapUpdate 78 (.map (A0 m)) (Zi Zk k) (qc b)) w K:=by
 obtain⟨bs,⟨g,i⟩,h⟩:=qx1.open_ j.p1;have f:qe bs k=A2:=by rw[<-g,q62,Option.map_eq_none_iff]at c;exact c
 refine qh1 kI q1j 0 h rfl k b λw' h=>n w' (qx1.shut (bs:=qk bs k (b,L)) (by rw[<-g,<-qt2]) (λy q=>?_) ?_)
 .obtain⟨d,a⟩:=i y q;refine⟨d,?_⟩;rw[qh2,yA (λe=>by rw[<-e,f]at a;cases a)];exact a
 .have h:St W (qg (Zi Zk) qc m (qk (qx (A1 (α:=Nat) (β:=qn)) bs) k b)::qz (bs.map λy:Int×Nat×qn=>qp1 y.2.1 y.2.2)::qp1 b L::F) w':=h;have e:qk (qx (A1 (α:=Nat) (β:=qn)) bs) k b=qx (A1 (α:=Nat) (β:=qn)) (qk bs k (b,L)):=qt2 (A1 (α:=Nat) (β:=qn)) bs k (b,L);rw[e]at h;rw[qbc f]at h⊢;have p:St W (qp1 b L::qz (bs.map λy:Int×Nat×qn=>qp1 y.2.1 y.2.2)::qg (Zi Zk) qc m (qx (A1 (α:=Nat) (β:=qn)) (bs++[(k,b,L)]))::F) w':=zo 3 [2,1,0] h rfl;refine(q95 (l:=(bs++[(k,b,L)]).map λy=>qp1 y.2.1 y.2.2) ?_ p).p1;rw[List.map_append];exact(List.perm_append_singleton _ _).symm
def q3s{u:Wd}{d:q81}(h:v.takeS d=A0 u):u.lines=v.lines/\u.g=v.g/\u.draw=v.draw/\u.b=v.b:=by
 unfold Wd.takeS at h;split at h
 .split at h;.cases h
  .cases h;exact⟨rfl,rfl,rfl,rfl⟩
 .split at h;.cases h
  .cases h;exact⟨rfl,rfl,rfl,rfl⟩
def qgh:∀(l:List q81) {u v:Wd},qw1 Wd.takeS v l=A0 u->u.lines=v.lines/\u.g=v.g/\u.draw=v.draw/\u.b=v.b
 |[],u,v,h=>by cases h;exact⟨rfl,rfl,rfl,rfl⟩
 |d::r,u,v,h=>by
  unfold qw1 at h;cases hd:v.takeS d with
  |none=>rw[hd]at h;cases h
  |some t=>rw[hd]at h;obtain⟨c,g,e,a⟩:=qgh r h;obtain⟨i,f,w,b⟩:=q3s hd;exact⟨c.trans i,g.trans f,e.trans w,a.trans b⟩
def quh{out:qra}(h:v.event c n e=A0 (v',out)):v'.lines=v.lines/\v'.g=v.g/\v'.draw=v.draw:=by
 unfold Wd.event at h;split at h;.cases h
 .split at h;.cases h
  .rename_i d;cases h;obtain⟨b,w,a,_⟩:=qgh _ d;exact⟨b,w,a⟩
def qqh(no:Int)(l:ql1 F c)(d:v.open_ c n no=A0 v')(a:St W (wld o c P x q rp rc v F) w):qb Zp 56 #[qc x,Zi Zk no] w λr w'=>r=Zt #[]/\∃rp rc,St W (wld o c P x q rp rc v' F) w':=by
 unfold Wd.open_ at d;cases he:v.event c n { evZ with kind:=1}with
 |none=>rw[he]at d;cases d
 |some r=>
 obtain⟨f,b⟩:=r;rw[he]at d;dsimp only at d;refine F56_of ((qu7 l ⟨by decide,by decide⟩ he a).of λr w ⟨i,j,rp,rc,k,a⟩=>⟨_,_,_,_,_,_,k,?_⟩);have a:=a.drop;refine z09 6 a λe w a=>St1.zz 6 a rfl λw a=>St1.zz 6 a rfl λw a=>St1.zz 6 a rfl λw a=>St1.zz 6 a rfl λw a=>z8 6 a rfl rfl (za (λh=>?_) λh=>?_)
 .rw[yB (by simpa using h)]at d;cases d;exact⟨rfl,rp,rc,a.del 6 rfl⟩
 rw[yA (by simpa using h)]at d;cases hL:qe f.lines b.conn with
 |some L=>rw[hL,yB (show(A0 L).isSome=Ai from rfl)]at d;cases d
 |none=>
 rw[hL,yA (by simp)]at d;have a:St W (wld o c P x q rp rc f (Row e 32 [Zi Zk b.err,Zi Zk b.conn,Zi Zk b.took,Zl i b.sent.length j]::F)) w:=a;refine⟨StC W _,zd a,z7 ⟨_,z0b 0 ir rfl rfl,_,zj 6 ir rfl rfl,_,zj 6 ir rfl rfl,λg=>?_⟩⟩;refine zn (α:=Unit) (V:=λ_=>Zt #[]) (B:=λ_=>wld o c P x q rp rc (f.setL b.conn ⟨no,b.conn,[],[],A4,A4⟩) (Row e 32 [Zi Zk b.err,Zi Zk b.conn,Zi Zk b.took,Zl i b.sent.length j]::F)) () (ir.push g _) (λG w h=>?_) λ_=>⟨rfl,trivial,λG w h=>?_⟩
 .have a:=h.imp z0d;have m:=q51.nil 5 1 A2 (q51.nil 5 1 A2 a);have p:St W (qp1 g ⟨no,b.conn,[],[],A4,A4⟩::wld o c P x q rp rc f (Row e 32 [Zi Zk b.err,Zi Zk b.conn,Zi Zk b.took,Zl i b.sent.length j]::F++pts G)) w:=qp1.shut (zo 3 [2,0,1] m rfl);exact qx1.add hL (zf 4 1 p rfl) λw' h=>⟨(),rfl,zo 6 [1,2,3,0,4,5] h rfl⟩
 have a:=zb h;clear h;refine z8 6 a rfl rfl ?_;cases he2:(f.setL b.conn ⟨no,b.conn,[],[],A4,A4⟩).event c n { evZ with kind:=3,conn:=b.conn,n:=1073741824}with
 |none=>rw[he2]at d;cases d
 |some r2=>
 obtain⟨v2,s⟩:=r2;rw[he2]at d;cases d;exact(qu7 (l.cons _) ⟨by show(-9223372036854775808:Int)<=1073741824;decide,by show(1073741824:Int)<=9223372036854775807;decide⟩ he2 a).of λr w ⟨i,j,rp,rc,k,a⟩=>⟨_,_,_,_,_,_,k,rfl,rp,rc,(a.drop).del 6 rfl⟩
def qd1.map{κ ν:Type}{enc:κ->Ac}{vl:ν->Ac}{m b:Nat}{L V:List (κ×ν)}(h:St W (qd1 enc vl m b L V::F) w):St W (qg enc vl m L::F) w:=by obtain⟨⟨es,a,seen,d⟩,h⟩:=h.of_ex;obtain⟨c,h⟩:=h.of_sep.of_pr;have h:St W (Pt m (.map es a)::Pt b (.mapIter (A0 m) a seen d)::F) w:=h;exact qg.shut c.st c.ent h.p1.drop
def q8p{L:List (Int×qn)}(w:(L.map λy=>y.2.no).Nodup){y:Int×qn}(b:y∈L):L.find? (λz=>decide (z.2.no=y.2.no))=A0 y:=by
 induction L with
 |nil=>cases b
 |cons a r ih=>
  rw[B7,List.nodup_cons]at w;rw[Aq];rcases Au.1 b with h|h;.subst h;simp
  .have:¬a.2.no=y.2.no:=λe=>w.1 (Aj.2 ⟨y,h,e.symm⟩);simp only[this,decide_false];exact ih w.2 h
def q701(W:As)(o:List (Int×Nat))(c:qy)(P:qe1)(x:Nat)(q:qb5)(rp:Option A8)(rc:Nat)(v:Wd)(F:List Asn)(no:Int)(a:Option A8)(w:As):Prop:=
 (v.find no=A2/\a=A2/\St W (wld o c P x q rp rc v F) w)\/∃k L b,v.find no=A0 (k,L)/\qe v.lines k=A0 L/\a=A0 ⟨b,0,A2⟩/\St W (wld ((k,b)::o) c P x q rp rc v F) w
def q2s(no:Int)(B:v.nos.Nodup)(d:St W (wld o c P x q rp rc v F) w):qb Zp 55 #[qc x,Zi Zk no] w λr w'=>∃a,r=Zq a/\q701 W o c P x q rp rc v F no a w':=by
 obtain⟨bs,⟨m,D⟩,d⟩:=wld.open_ d;have d:St W (qg (Zi Zk) qc q.ml (qx (A1 (α:=Nat) (β:=qn)) bs)::qz (bs.map λy:Int×Nat×qn=>qp1 y.2.1 y.2.2)::Row x 81 (qb8 q rp rc v.row.length v.draw)::qb2 c q.bx q.p v.b::AgW q.a P v.g::q51 38 4 rp v.row.length rc (v.row.flatMap q21)::qg (Zi Zk) qr1 q.ms v.S::F) w:=zo 7 [3,6,0,1,2,4,5] d rfl;have f:(bs.map (·.1)).Nodup:=by have:=z18 kI d;rwa[qx5]at this
 refine F55_of (z7 (zv 2 d rfl rfl (qg9 q1j 0 d rfl λi w d=>⟨λvs w=>∃V:List (Int×Nat),vs=[]/\(∀y∈V,∀L,qe bs y.1=A0 (y.2,L)->L.no≠no)/\St W (qd1 (Zi Zk) qc q.ml i (qx (A1 (α:=Nat) (β:=qn)) bs) V::qz (bs.map λy:Int×Nat×qn=>qp1 y.2.1 y.2.2)::Row x 81 (qb8 q rp rc v.row.length v.draw)::qb2 c q.bx q.p v.b::AgW q.a P v.g::q51 38 4 rp v.row.length rc (v.row.flatMap q21)::qg (Zi Zk) qr1 q.ms v.S::F) w,λ_ w=>q74 i (qx (A1 (α:=Nat) (β:=qn)) bs).length w,⟨[],rfl,by simp,d⟩,λw I=>?_⟩)));clear d;obtain⟨V,_,hV,d⟩:=I;have p:=qd1.left d (qx (A1 (α:=Nat) (β:=qn)) bs).length;refine qqb kI 0 d rfl (λl H E w' d=>⟨A2,rfl,.inl ⟨?_,rfl,wld.shut m D (zo 7 [2,3,4,0,5,6,1] d rfl)⟩⟩) λz J C w' d=>qp9 0 d rfl λd=>⟨_,_,rfl,?_⟩
 .unfold Wd.find;rw[List.find?_eq_none];intro y e;rw[<-m]at e;obtain⟨u,n,rfl⟩:=Aj.1 e;have A:=l (u.1,u.2.1) (Aj.2 ⟨u,n,rfl⟩);have s:=hV _ A u.2.2 (q24 f n);simpa using s
 obtain⟨u,n,rfl⟩:=Aj.1 J;have j:qe bs u.1=A0 (u.2.1,u.2.2):=q24 f n;obtain⟨k,b,L⟩:=u;dsimp only at j d C⊢;have d:St W (qd1 (Zi Zk) qc q.ml i (qx (A1 (α:=Nat) (β:=qn)) bs) (V++[(k,b)])::qz (bs.map λy:Int×Nat×qn=>qp1 y.2.1 y.2.2)::Row x 81 (qb8 q rp rc v.row.length v.draw)::qb2 c q.bx q.p v.b::AgW q.a P v.g::q51 38 4 rp v.row.length rc (v.row.flatMap q21)::qg (Zi Zk) qr1 q.ms v.S::F) w':=d;have A:=qf5 ((Go.Proofs.YtfjifcfbmhpcaaaGreatDoor.aget_perm j).map λy:Int×Nat×qn=>qp1 y.2.1 y.2.2) d.p1;obtain⟨Q,R,U,T,s⟩:=qp1.open_ A;refine z7 (z8 0 s rfl rfl ?_);have K:St W (qp1 b L::qz ((qp bs k).map λy:Int×Nat×qn=>qp1 y.2.1 y.2.2)::qd1 (Zi Zk) qc q.ml i (qx (A1 (α:=Nat) (β:=qn)) bs) (V++[(k,b)])::Row x 81 (qb8 q rp rc v.row.length v.draw)::qb2 c q.bx q.p v.b::AgW q.a P v.g::q51 38 4 rp v.row.length rc (v.row.flatMap q21)::qg (Zi Zk) qr1 q.ms v.S::F) w':=qp1.shut s;have d:=(q95 ((Go.Proofs.YtfjifcfbmhpcaaaGreatDoor.aget_perm j).map λy:Int×Nat×qn=>qp1 y.2.1 y.2.2).symm K).p1;refine za (λh=>⟨_,rfl,.inr ⟨k,L,b,?_,?_,rfl,?_⟩⟩) λh=>⟨⟨V++[(k,b)],rfl,λy e O g=>?_,d⟩,?_⟩
 .have t:L.no=no:=by simpa using h
  have M:(k,L)∈v.lines:=by rw[<-m];exact Aj.2 ⟨_,n,rfl⟩
  have:=q8p B M;rw[t]at this;exact this
 .rw[<-m,q62,j];rfl
 .refine wld.shut m (λy e=>?_) (zo 7 [2,3,4,0,5,6,1] (qd1.map d) rfl);rcases Au.1 e with rfl|e;.exact⟨L,j⟩
  .exact D y e
 .rcases B3.1 e with e|e;.exact hV y e O g
  .simp only[List.mem_singleton]at e;subst e;rw[j]at g;cases g;simpa using h
 .have N:=qd1.left d (qx (A1 (α:=Nat) (β:=qn)) bs).length;have G:=qd1.part d;show q74 i _ _<q74 i _ _;rw[N,p,A3];rw[A3]at G;simp only[Ap,Ag]at G⊢;omega
end
end
section
section
variable{W w:World}{F l:List Asn}{c:qy}{P:qe1}{x b:Nat}{q:qb5}{rp:Option Addr}{rc n:Nat}{v v':Wd}{e:EvD}{L:qn}{o:List (Int×Nat)}{k:Int}{m:Nat}{Ls:List (Int×qn)}
def aggM{C:Cls}{l:List Asn}{b t:Nat}{a:qm6}(k:Nat)(d:Is W C l)(j:nth l k=A0 (Row b t (qia a))):
 Qt C (Zg #[Zi Zk a.m.k,Zs a.m.A,Zs a.m.B,Zi Zk a.m.N,Zi Zk a.m.M]) λw K=>LdI Zk (Za (Za ⟨b,0,A2⟩ 2) 0) w λg=>LdS (Za (Za ⟨b,0,A2⟩ 2) 1) w λe=>LdS (Za (Za ⟨b,0,A2⟩ 2) 2) w λf=>LdI Zk (Za (Za ⟨b,0,A2⟩ 2) 3) w λm=>LdI Zk (Za (Za ⟨b,0,A2⟩ 2) 4) w λi=>K (Zg #[Zi Zk g,Zs e,Zs f,Zi Zk m,Zi Zk i]) w:=λG w h=>by
 have c:=d.at k j h;rw[show Za ⟨b,0,A2⟩ 2=⟨b,2,A2⟩from qi1 b 0 2];exact z8 0 c rfl rfl (zg 0 c rfl rfl (zg 0 c rfl rfl (z8 0 c rfl rfl (z8 0 c rfl rfl ⟨rfl,h⟩))))
def Rd.w6{p:Option A8}{cs:List Ac}{a0 w a2 a3 a4 a5:Asn}(h:Rd F p cs):Rd (a0::w::a2::a3::a4::a5::F) p cs:=(((((h.cons _).cons _).cons _).cons _).cons _).cons _
set_option maxHeartbeats 2000000 in
def qbj{ap:Option A8}{ac:Nat}{e:List qm6}(Q:ql1 F c)(H:Rd F ap (e.flatMap qia))(hl:e.length<=1000000)(N:v.does c n e=A0 v')(d:St W (wld o c P x q rp rc v F) w):
 qb Zp 29 #[qc x,Zl ap e.length ac] w λr w'=>r=Zt #[]/\∃rp rc,St W (wld o c P x q rp rc v' F) w':=by
 unfold Wd.does at N;refine F29_of (qt3 (λI vs w=>∃(k:Nat) (u:Wd) (rp:Option A8) (rc:Nat),k+I=e.length/\vs=[Zi Zk (k:Int)]/\qw1 (Wd.doA c n) u (e.drop k)=A0 v'/\St W (wld o c P x q rp rc u F) w) λμ h1 h2=>⟨⟨e.length,0,v,rp,rc,by omega,rfl,N,d⟩,λj w hI=>?_⟩);clear d N;obtain⟨i,u,rp,rc,hk,he,m,d⟩:=h2 _ _ hI;generalize μ _ _=mm at hk⊢;cases he;refine za (λh=>?_) λh=>?_
 .have p:i<e.length:=by have:=yC h;omega
  have hx:=Ao p;rw[Am p]at m;generalize e[i]=a at m hx;unfold qw1 at m;cases f:Wd.doA c n u a with
  |none=>rw[f]at m;cases m
  |some D=>
  rw[f]at m;dsimp only at m;unfold Wd.doA at f;by_cases z:u.nos.Nodup;case neg=>rw[yB z]at f;cases f
  rw[yA (λhh=>hh z)]at f;refine z0j q8l (by decide) H.w6 d rfl p hx λad t=>zy (t 0 _ rfl) (zy (t 1 _ rfl) (zy (t 2 _ rfl) (z0y (t 3 _ rfl) (z0y (t 4 _ rfl) (zy (t 5 _ rfl) (zy (t 6 _ rfl) (z09 6 d λg w d=>?_)))))));refine St1.zz 6 d rfl λw d=>St1.zz 6 d rfl λw d=>St1.zz 6 d rfl λw d=>St1.zz 6 d rfl λw d=>St1.zz 6 d rfl λw d=>St1.zz 6 d rfl λw d=>St1.zz 6 d rfl λw d=>?_;have d:St W (wld o c P x q rp rc u (Row g 136 (qia a)::F)) w:=d;have l:∀(rp:Option A8) (rc:Nat) (w:As),St W (wld o c P x q rp rc D (Row g 136 (qia a)::F)) w->
   (∃I,∃(k:Nat) (u:Wd) (rp:Option A8) (rc:Nat),k+I=e.length/\[Zi Zk (Zw Zk ((i:Int)+1))]=[Zi Zk (k:Int)]/\qw1 (Wd.doA c n) u (e.drop k)=A0 v'/\St W (wld o c P x q rp rc u F) w)/\μ [Zi Zk (Zw Zk ((i:Int)+1))] w<mm:=λrp rc w d=>by
   have A:∃(k:Nat) (u:Wd) (rp:Option A8) (rc:Nat),k+(mm - 1)=e.length/\[Zi Zk (Zw Zk ((i:Int)+1))]=[Zi Zk (k:Int)]/\qw1 (Wd.doA c n) u (e.drop k)=A0 v'/\St W (wld o c P x q rp rc u F) w:=⟨i+1,D,rp,rc,by omega,by rw[up p (by omega)],m,d.del 6 rfl⟩;exact⟨⟨_,A⟩,Av (h1 _ _ _ A) (by omega)⟩
  refine z8 6 d rfl rfl ((q2s a.line z d).of λr w ⟨la,Y,hR⟩=>⟨_,Y,?_⟩);rcases hR with ⟨s,rfl,d⟩|⟨k,L,b,s,R,rfl,d⟩
  .refine z8 6 d rfl rfl (za (λh=>z8 6 d rfl rfl ?_) λh=>zl rfl ?_)
   .rw[yB (by simpa using h)]at f;exact(qqh a.line (Q.cons _) f d).of λr w ⟨M,rp,rc,d⟩=>⟨M,l rp rc w d⟩
   .rw[yA (by simpa using h),s]at f;cases f;exact l rp rc w d
  refine z8 6 d rfl rfl (za (λh=>z8 6 d rfl rfl ?_) λh=>zm rfl ?_)
  .rw[yB (by simpa using h)]at f;exact(qqh a.line (Q.cons _) f d).of λr w ⟨M,rp,rc,d⟩=>⟨M,l rp rc w (wld.forget d)⟩
  rw[yA (by simpa using h),s]at f;dsimp only at f;cases hev:u.event c n { evZ with kind:=2,conn:=L.conn,b:=mkS (Fr.putP (q0d a.m))}with
  |none=>rw[hev]at f;cases f
  |some r2=>
  obtain⟨u2,out⟩:=r2;rw[hev]at f;have f:=A9 f;obtain⟨E,C,T,O,d⟩:=wld.take Aw R d;refine⟨StC W _,zd d,z7 ⟨_,zj 6 ir rfl rfl,_,_,_,_,_,aggM 9 ir rfl,?_⟩⟩;refine Ef.sw ir (λG w h=>q1f a.m h) (λ_ _ _ _ h=>⟨_,_,_,rfl,h⟩) λp1 c1=>⟨_,_,_,rfl,zj 7 ir rfl rfl,?_⟩;refine Ef.sw ir (λG w h=>Fr.Put_spec (z0i _) rfl h) (λ_ _ _ _ h=>⟨_,_,_,rfl,h⟩) λp2 c2=>⟨_,_,_,rfl,zj 8 ir rfl rfl,_,Go.Proofs.YtfjifcfbmhpcaaaGreatDoor.q731 ir (z0i _) rfl,?_⟩;refine zn (α:=(Option A8×Nat)×(Option A8×Nat)) (V:=λy=>Zg #[Zi Zk out.err,Zi Zk out.conn,Zi Zk out.took,.slice y.1.1 out.sent.length y.1.2]) (B:=λy=>wld ((k,b)::o) c P x q y.2.1 y.2.2 u2 (Row g 136 (qia a)::F)) ((A2,0),(A2,0)) ir (λG w h=>?_) λy=>⟨_,_,_,_,_,_,rfl,trivial,λG w h=>?_⟩
  .have h3:St W (qj9 ((k,b)::o) k b c P x q rp rc u (Row b 140 (lnC L E C T O)::q51 5 1 E L.came.length C (L.came.map qd)::q51 5 1 T L.back.length O (L.back.map qd)::Row g 136 (qia a)::F++pts G)) w:=z0e [_,_] h;exact(qu7 ((Q.app (pts G)).cons _) ⟨by show(-9223372036854775808:Int)<=0;decide,by show(0:Int)<=9223372036854775807;decide⟩ hev (wld.back R h3)).of λr w ⟨qq,C,rp,rc,H,d⟩=>by subst H;exact⟨_,_,_,_,_,_,rfl,((qq,C),(rp,rc)),rfl,d.drop⟩
  obtain⟨Z,_⟩:=quh hev;have U:qe u2.lines k=A0 L:=by rw[Z];exact R
  obtain⟨E,C,T,O,d⟩:=wld.take Aw U (zb h);clear h;refine z7 (zw 6 d rfl rfl (za (λh=>z7 (St1.zz 6 d rfl λw d=>l y.2.1 y.2.2 w ?_)) λh=>?_))
  .have K:D=u2.setL k { L with raw:=Ai}:=by rw[<-f,h];rfl
   rw[K];exact wld.forget (wld.give d)
  .rw[show Za ⟨g,0,A2⟩ 2=⟨g,2,A2⟩from qi1 g 0 2];refine z8 9 d rfl rfl (z7 (St1.zz 6 d rfl λw d=>l y.2.1 y.2.2 w ?_));have K:D=u2.setL k { L with raw:=(a.m.k==12)}:=by rw[<-f,h];rfl
   rw[K];exact wld.forget (wld.give d)
 have X:i=e.length:=by have:=yD h;omega
 rw[X,B0]at m;have J:=A9 m;subst J;exact⟨rfl,rp,rc,d⟩
end
end
section
section
variable{W w:World}{F l:List Asn}{c:qy}{P:qe1}{x b:Nat}{q:qb5}{rp:Option Addr}{rc n:Nat}{v v':Wd}{e:EvD}{L:qn}{o:List (Int×Nat)}{k:Int}{m:Nat}{Ls:List (Int×qn)}{res:Bool}
def SlP.own{t:Bc}{size h b a:Nat}{p:Option A8}{cs:List Ac}{k j:Int}{K:Option A8->Nat->Nat->Prop}(i:Nat)(g:St W l w)(e:nth l i=A0 (q51 t size p h b cs))(c:k=(a:Int))(d:j=(h:Int))(o:a<=h)
 (n:∀f,St W (put l i [q51 t size f (h - a) (b - a) (cs.drop (a*size))]) w->K f (h - a) (b - a)):SlP p h b size k j K:=by
 subst c d;have m:=q51.le (g.at i e);refine⟨⟨by omega,by omega,by omega⟩,?_⟩;rw[Int.toNat_natCast,Int.toNat_natCast];exact n _ (z06 i e (B:=[_]) (q51.from_ o (g.at i e)))
set_option maxHeartbeats 2000000 in
def q1o(A:(k,b)∈o)(C:ql1 F c)(d:v.answer c n k=A0 (v',res))(e:St W (wld o c P x q rp rc v F) w):
 qb Zp 103 #[qc x,qc b] w λr w'=>r=Zb res/\∃rp rc,St W (wld o c P x q rp rc v' F) w':=by
 unfold Wd.answer at d;cases hL:qe v.lines k with
 |none=>rw[hL]at d;cases d
 |some L=>
 rw[hL]at d;dsimp only at d;obtain⟨j,g,E,s,e⟩:=wld.take A hL e;refine F103_of (z7 (zw 6 e rfl rfl (za (λh=>?_) λh=>?_)))
 .rw[yB (by simpa using h)]at d;cases d;exact⟨rfl,rp,rc,wld.back hL e⟩
 rw[yA (by simpa using h)]at d;refine z7 (zt 6 e rfl rfl (za (λh=>?_) λh=>z7 (zw 6 e rfl rfl (za (λp=>?_) λp=>?_))))
 .have h:0<L.back.length:=by have:=yC h;omega
  rw[yB h]at d;cases hev:v.event c n { evZ with kind:=2,conn:=L.conn,b:=mkS L.back}with
  |none=>rw[hev]at d;cases d
  |some r2=>
  obtain⟨u2,out⟩:=r2;rw[hev]at d;dsimp only at d;by_cases D:out.took<0\/(L.back.length:Int)<out.took;.rw[yB D]at d;cases d
  rw[yA D]at d;cases d;refine⟨StC W _,zd e,z7 (z7 ⟨_,zj 6 ir rfl rfl,_,_,_,QtL.a 6 ir rfl rfl,_,Go.Proofs.YtfjifcfbmhpcaaaGreatDoor.q731 ir (z07 8 rfl λF=>q51.rd F) rfl,?_⟩)⟩;refine zn (α:=(Option A8×Nat)×(Option A8×Nat)) (V:=λy=>Zg #[Zi Zk out.err,Zi Zk out.conn,Zi Zk out.took,.slice y.1.1 out.sent.length y.1.2]) (B:=λy=>wld o c P x q y.2.1 y.2.2 u2 F) ((A2,0),(A2,0)) ir (λG w h=>?_) λy=>⟨_,_,_,_,_,_,rfl,trivial,λG w h=>?_⟩
  .exact(qu7 (C.app (pts G)) ⟨by show(-9223372036854775808:Int)<=0;decide,by show(0:Int)<=9223372036854775807;decide⟩ hev (wld.back hL h)).of λr w ⟨z,g,rp,rc,m,e⟩=>by subst m;exact⟨_,_,_,_,_,_,rfl,((z,g),(rp,rc)),rfl,e.drop⟩
  obtain⟨t,_⟩:=quh hev;have l:qe u2.lines k=A0 L:=by rw[t];exact hL
  obtain⟨j,g,E,s,e⟩:=wld.take A l (zb h);clear h;refine z7 (zt 6 e rfl rfl (SlP.own (a:=out.took.toNat) 8 e rfl (by omega) rfl (by omega) λu e=>z7 (St1.zz 6 e rfl λw e=>⟨rfl,y.2.1,y.2.2,?_⟩)));have i:(L.back.drop out.took.toNat).length=L.back.length - out.took.toNat:=Ab;have f:St W (qj9 o k b c P x q y.2.1 y.2.2 u2 (Row b 140 [Zi Zk L.no,Zi Zk L.conn,Zl j L.came.length g,.slice u (L.back.length - out.took.toNat) (s - out.took.toNat),Zb L.en,Zb L.raw]::q51 5 1 j L.came.length g (L.came.map qd)::q51 5 1 u (L.back.length - out.took.toNat) (s - out.took.toNat) ((L.back.map qd).drop (out.took.toNat*1))::F)) w:=e;rw[Nat.mul_one,<-List.map_drop,<-i]at f;exact wld.give (L:={ L with back:=L.back.drop out.took.toNat}) f
 all_goals
  have h:¬0<L.back.length:=by have:=yD h;omega
  rw[yA h]at d
 .rw[yB p]at d;cases hev:(v.setL k { L with en:=A4}).event c n { evZ with kind:=4,conn:=L.conn}with
  |none=>rw[hev]at d;cases d
  |some r2=>
  obtain⟨u2,out⟩:=r2;rw[hev]at d;cases d;refine z7 (St1.zz 6 e rfl λw e=>z7 (z8 6 e rfl rfl ?_));have f:=wld.give (L:={ L with en:=A4}) e;exact(qu7 C ⟨by show(-9223372036854775808:Int)<=0;decide,by show(0:Int)<=9223372036854775807;decide⟩ hev f).of λr w ⟨z,g,rp,rc,m,e⟩=>⟨_,_,_,_,_,_,m,rfl,rp,rc,e.drop⟩
 .rw[yA (by rw[p];simp)]at d;cases d;exact⟨rfl,rp,rc,wld.back hL e⟩
end
end
end Go.Proofs.YtfjifcfbmhpcaaaGreatDoor
