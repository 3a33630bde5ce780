/-
  A part of the proof of TopEvicted.
-/
import Derived.Test.YtfjifcfbmhpcaaaGreatDoorV34
import Derived.Test.YtfjifcfbmhpcaaaGreatDoorV33
import Derived.Lib.LaidTab
import Derived.LaidSub
import Derived.LaidMore
import Derived.LaidLaws
import Derived.Lay
import Derived.MakeChecks
import Derived.Test.YtfjifcfbmhpcaaaGreatDoorV00
set_option linter.defProp false
set_option linter.unusedVariables false
set_option linter.unusedSimpArgs false
namespace Go.Proofs.YtfjifcfbmhpcaaaGreatDoor
open Go
open Go.Proofs.Tryz renaming prog → Zp
open Go.IntKind renaming i64 → Zk, wrap → Zw
open Go.Value renaming int → Zi, string → Zs, bool → Zb, slice → Zl, agg → Zg
open _root_.List renaming nodup_nil->A0,getElem?_eq_getElem->A1,mem_cons_of_mem->A2,mem_cons_self->A3,any_eq_false->Aa,getElem_mem->Ab,length_map->Ad
open _root_.Option renaming some->A4,isSome_iff_exists->A5
open _root_.Bool renaming true->A6,and_eq_true->A7,false->A8
open _root_.Nat renaming le_refl->A9,zero_le->Ac
section
structure PQ(s:Bk):Prop where
 rel:∀p∈qtc s.P,∃rv rk,qe s.roles p.1=A4 rv/\qe s.roles p.2=A4 rk/\(∃i z,RQ s rv rk i z)/\∃i z,RQ s rk rv i z
 flu:∀id r,(qe s.P.ends id).isSome=A6->qe s.roles id=A4 r->FQ s r
 end_:∀p∈qtc s.P,∃rv,qe s.roles p.1=A4 rv/\(rv.said=A8\/∃rk,qe s.roles p.2=A4 rk/\rk.said=A8)
structure PSm(s s':Bk):Prop where
 P:s'.P=s.P
 pumps:s'.pumps=s.pumps
 R:∀id,(qe s.P.ends id).isSome=A6->qe s'.roles id=qe s.roles id
 N:∀id,(qe s.P.ends id).isSome=A6->qe s'.N.L id=qe s.N.L id
def PSm.refl(s:Bk):PSm s s:=⟨rfl,rfl,λ_ _=>rfl,λ_ _=>rfl⟩
def PSm.trans{s t u:Bk}(h:PSm s t)(k:PSm t u):PSm s u:=⟨k.P.trans h.P,k.pumps.trans h.pumps,λid hi=>(k.R id (by rw[h.P];exact hi)).trans (h.R id hi),λid hi=>(k.N id (by rw[h.P];exact hi)).trans (h.N id hi)⟩
def qo11{N w:Cn.CT}{id:Int}(h:qe w.L id=qe N.L id){α:Type}(z:α)(r:Cn.CnD->α):w.ask id z r=N.ask id z r:=by unfold Cn.CT.ask;rw[h]
section
variable{m:Int}{s s':Bk}{c:qy}{id:Int}{f t r:q31}{i:Nat}{z:Ri.PS}
def RQ.same(h:RQ s f t i z)(b:s'.pumps=s.pumps)(w:qe s'.N.L f.conn=qe s.N.L f.conn)(a:qe s'.N.L t.conn=qe s.N.L t.conn):RQ s' f t i z:=
 ⟨h.pump,by rw[b];exact h.at_,h.ok,by rw[qo11 w];exact h.inn,by rw[qo11 w,qo11 w];exact h.zz,by rw[qo11 a];exact h.out,by rw[qo11 a];exact h.en⟩
def FQ.same(h:FQ s r)(w:qe s'.N.L r.conn=qe s.N.L r.conn):FQ s' r:=⟨by rw[qo11 w];exact h.went,by rw[qo11 w];exact h.en⟩
def q721(h:s.Str m){p:Int×Int}(g:p∈qtc s.P):p.1≠p.2/\((qe s.P.ends p.1).isSome=A6/\(qe s.P.ends p.2).isSome=A6)/\∃rv w,qe s.roles p.1=A4 rv/\rv.conn=p.1/\qe s.roles p.2=A4 w/\w.conn=p.2:=by obtain⟨b,f⟩:=qz11 h p g;obtain⟨k,a,rv,i,c,n,_⟩:=h.pair _ _ _ f;obtain⟨_,_,w,j,d,l,_⟩:=h.pair _ _ _ a;exact⟨λe=>k e.symm,⟨by rw[f];rfl,by rw[a];rfl⟩,rv,w,c,(h.role _ _ c).conn,d,(h.role _ _ d).conn⟩
def PQ.same(b:PQ s)(h:s.Str m)(k:PSm s s'):PQ s':=by
 refine⟨λp w=>?_,λid r hi hr=>?_,λp w=>?_⟩
 .rw[k.P]at w;obtain⟨_,⟨a,i2⟩,rv,c,l,t,g,v⟩:=q721 h w;obtain⟨x,o,d,f,⟨i,z,n⟩,j,y,q⟩:=b.rel p w;rw[l]at d;cases d;rw[g]at f;cases f;have e:qe s'.N.L rv.conn=qe s.N.L rv.conn:=by rw[t];exact k.N _ a
  have nk:qe s'.N.L c.conn=qe s.N.L c.conn:=by rw[v];exact k.N _ i2
  exact⟨rv,c,(k.R _ a).trans l,(k.R _ i2).trans g,⟨i,z,n.same k.pumps e nk⟩,j,y,q.same k.pumps nk e⟩
 .rw[k.P]at hi;rw[k.R _ hi]at hr;have u:=(h.role _ _ hr).conn;exact(b.flu id r hi hr).same (by rw[u];exact k.N _ hi)
 .rw[k.P]at w;obtain⟨_,⟨a,i2⟩,_⟩:=q721 h w;rw[k.R _ a,k.R _ i2];exact b.end_ p w
def qj11.pq(w:qj11 s)(h:s.Str m):PQ s:=⟨w.rel,λid r _ b=>by have hid:id∈s.ids:=(qv1 leI _).mem_iff.2 (q201.1 (by rw[<-h.same,b];rfl));obtain⟨r',a,c⟩:=w.flu id hid;rw[b]at a;cases a;exact c,w.end_⟩
def PQ.relays(w:PQ s)(h:s.Str m):∀(l:List (Int×Int)) (fl:Bool),(∀p∈l,p∈qtc s.P)->qw1 (Bk.relays c) (s,fl) l=A4 (s,fl)
 |[],fl,_=>rfl
 |p::l,fl,f=>by
  have d:=f p A3;obtain⟨a,_⟩:=q721 h d;obtain⟨rv,o,b,g,⟨i,z,k⟩,j,y,n⟩:=w.rel p d;have e:Bk.relays c (s,fl) p=A4 (s,fl):=by unfold Bk.relays;rw[yA a];simp only;rw[b,g];simp only;rw[k.relay];simp only;rw[n.relay];simp only[Bk.put];rw[qt1 g,qt1 b];simp
  rw[qme,e];exact PQ.relays w h l fl λq w=>f q (A2 _ w)
def q661(i:PQ s)(h:s.Str m){a:Bool}(w:s.flush id=A4 (s',a)):PSm s s':=by
 cases hr:qe s.roles id with
 |none=>unfold Bk.flush at w;rw[hr]at w;cases w
 |some r=>
 have f:=(h.role _ _ hr).conn;by_cases b:(qe s.P.ends id).isSome=A6
 .rw[(i.flu id r b hr).flush (λd g=>h.cred _ _ g) hr]at w;cases w;exact PSm.refl s
 .unfold Bk.flush at w;rw[hr]at w;simp only[Option.some.injEq,Prod.mk.injEq]at w;obtain⟨rfl,_⟩:=w;refine⟨rfl,rfl,λj c=>?_,λj c=>?_⟩
  .show qe (qk s.roles id _) j=_;rw[qh2,yA (λe=>b (by rw[e];exact c))]
  .show qe (s.N.upd r.conn Cn.gFlush).L j=_;rw[ql3,yA (λe=>b (by rw[<-f,e];exact c))]
def qr31:∀(l:List Int) (s:Bk) (fl:Bool) (s':Bk) (w:Bool),PQ s->s.Str m->(∀id∈l,(qe s.N.L id).isSome=A6)->qw1 Bk.flushes (s,fl) l=A4 (s',w)->PSm s s'
 |[],s,fl,s',w,_,_,_,b=>by cases b;exact PSm.refl _
 |a::l,s,fl,s',w,i,h,c,b=>by
  obtain⟨f,j,g,n,o,k⟩:=ql41 h (c a A3);have d:=q661 i h g;have e:Bk.flushes (s,fl) a=A4 (f,j||fl):=by unfold Bk.flushes;rw[g]
  rw[qme,e]at b;exact d.trans (qr31 l f _ s' w (i.same h d) n (λid hid=>by rw[k];exact c id (A2 _ hid)) b)
def PQ.ends(a:PQ s)(h:s.Str m):∀(l:List (Int×Int)) (fl:Bool),(∀p∈l,p∈qtc s.P)->qw1 Bk.ends (s,fl) l=A4 (s,fl)
 |[],fl,_=>rfl
 |p::l,fl,c=>by
  have d:=c p A3;obtain⟨b,_⟩:=q721 h d;obtain⟨k,f,w⟩:=a.end_ p d;have e:Bk.ends (s,fl) p=A4 (s,fl):=by
   unfold Bk.ends;rw[yA b];simp only;rw[f];simp only;split;.rfl
   .rename_i j;rcases w with w|⟨i,w,g⟩;.exact yI w j
    .rw[w];simp only;rw[yA (by rw[g];simp)]
  rw[qme,e];exact PQ.ends a h l fl λq a=>c q (A2 _ a)
def qe61(w:PQ s)(h:s.Str m)(l:m<=1000000){fl:Bool}(g:s.round c=A4 (s',fl)):PSm s s'/\Sim s.roles s'.roles/\PQ s'/\s'.Str m:=by obtain⟨o,q,n,r,j,_,k,b,d,e⟩:=qi41 (c:=c) h l;rw[w.relays h _ _ λp a=>a]at j;cases j;have i:=qr31 _ _ _ _ _ w h (λid hid=>q201.2 ((qv1 leI _).mem_iff.1 hid)) k;have f:=w.same h i;rw[e,<-d.P,f.ends b _ _ λp a=>a]at g;cases g;exact⟨i,d.sim,f,b⟩
def qn41(b:m<=1000000):∀(n:Nat) (s:Bk),PQ s->s.Str m->Bk.rounds c n s=A4 s'->s'.P=s.P/\Sim s.roles s'.roles
 |0,s,_,_,w=>by cases w
 |n+1,s,k,h,w=>by
  unfold Bk.rounds at w;cases e:s.round c with
  |none=>rw[e]at w;cases w
  |some x=>
   obtain⟨g,fl⟩:=x;rw[e]at w;simp only at w;obtain⟨a,d,f,i⟩:=qe61 k h b e;split at w
   .obtain⟨l,j⟩:=qn41 b n g f i w;exact⟨l.trans a.P,d.trans j⟩
   .cases w;exact⟨a.P,d⟩
def q571(c:qy)(a:qa6 c.lease=A6):Inv 0 (Bk.new c):=by
 have f:∀{κ ν:Type} [DecidableEq κ] (k:κ),qe ([]:List (κ×ν)) k=none:=λk=>rfl;refine⟨?_,?_,λj r d e=>(by cases e),⟨λp w=>(by cases w),λid hid=>(by cases hid),λp w=>(by cases w)⟩⟩;.exact { nN:=A0,nR:=A0,nP:=A0,nS:=A0,nT:=A0,same:=λid=>rfl,role:=λid r h=>(by cases h),pair:=λid o b h=>(by cases h),que:=λy h=>(by cases h),tick:=λt h=>(by cases h),last0:=Int.le_refl _,last1:=Int.le_refl _,key:=λid h=>(by cases h),sk:=λid h=>(by cases h),cred:=λid d h=>(by cases h),mov:=λz h=>(by cases h)}
 .exact⟨A0,λk d h=>(by cases h),λk d h=>(by cases h),a,rfl⟩
end
end
section
def qm11(s:Bk)(name:ByteArray):Bool:=(q3h s.B.L).any λd=>decide (d.name=name)&&d.held
section
variable{m:Int}{s s':Bk}{c:qy}{id x:Int}{r:q31}{e:EvD}
def qz51(I:Inv m s)(hm:m+1<=1000000)(hk:e.kind=8):∃n s' o,s.step c n e=A4 (s',o)/\Inv (m+1) s'/\s'.P=s.P/\
 (qm11 s e.name=A6/\o.err=0/\(∀d∈q3h s'.B.L,d.name≠e.name)/\Qu.gL s'.Q e.name=[]\/qm11 s e.name=A8/\o.err=3):=by
 have A:=I.book;obtain⟨w,f⟩:∃w:Bk,w={ s with S:=[]}:=⟨_,rfl⟩
 have E:∀n,s.step c n e=(match qlb w.B e.name w.K.now with
  |(B,x,N)=>if N=A8 then A4 (({ w with B:=B}:Bk),(⟨3,0,0,[]⟩:qra))else
   match (({ w with B:=B}:Bk).gone x).rounds c n with
   |none=>none
   |some s=>if 1000000<s.S.length then none else A4 (s,⟨0,0,0,s.outs⟩)):=λn=>by
  unfold Bk.step;rw[yA (by omega),yA (by omega)];unfold Bk.act;rw[yA (by omega),yA (by omega),yA (by omega),yA (by omega),yA (by omega),yA (by omega),yA (by omega),<-f];generalize qlb w.B e.name w.K.now=y;obtain⟨B,x,N⟩:=y;cases N<;>rfl
 have F:w.B=s.B:=by rw[f]
 have eK:w.K=s.K:=by rw[f]
 have eP:w.P=s.P:=by rw[f]
 have eR:w.roles=s.roles:=by rw[f]
 have h:w.Str m:=by rw[f];exact Str.clear I.str
 have g:w.Book:=Book.keep A F (by rw[eK]) λj hj=>by rw[eR];exact hj
 have hq:qj11 w:=by rw[f];exact qj11.same I.quiet rfl rfl rfl rfl
 have ht:ql11 w:=by rw[f];exact I.talk
 have no:qlb w.B e.name w.K.now=(w.B,zeL,A8)->qm11 s e.name=A8->∃n s' o,s.step c n e=A4 (s',o)/\Inv (m+1) s'/\s'.P=s.P/\
  (qm11 s e.name=A6/\o.err=0/\(∀d∈q3h s'.B.L,d.name≠e.name)/\Qu.gL s'.Q e.name=[]\/qm11 s e.name=A8/\o.err=3):=λhK hh=>by
  refine⟨0,w,⟨3,0,0,[]⟩,?_,⟨qr5.more h,g,ht,hq⟩,eP,.inr ⟨hh,rfl⟩⟩;rw[E,hK];rfl
 cases r:qe w.B.L e.name with
 |none=>refine no (by unfold qlb;rw[r]) ?_;unfold qm11;rw[Aa];intro d l;obtain⟨k,a,_⟩:=qc21 (so:=λ_=>A6) (df:=λd=>d) A.nB l;have:=A.name k d a;rw[A7,yJ];rintro⟨Q,_⟩;rw[<-this,Q,<-F,r]at a;cases a
 |some d=>
  by_cases G:qv4 w.B.grace d w.K.now=2
  .have Y:qlb w.B e.name w.K.now=({ w.B with L:=qp w.B.L e.name},d,A6):=by unfold qlb;rw[r];simp only;rw[yB G,yB g.clock]
   obtain⟨h3,h4⟩:=qz31 G;have hn:=g.name _ _ r;have ha:=(g.held e.name d r h3).2;obtain⟨u,z⟩:∃u:Bk,u={ w with B:={ w.B with L:=qp w.B.L e.name} }:=⟨_,rfl⟩;have p:u.Str m:=by rw[z];exact h
   have W:u.Book:=by rw[z];exact qv31 g (q2a _ _)
   have O:qj11 u:=by rw[z];exact qj11.same hq rfl rfl rfl rfl
   have hur:u.roles=w.roles:=by rw[z]
   have hux:∀q,qe u.roles d.conn=A4 q->q.kind≠4:=by rw[hur];exact qp21 ha
   obtain⟨K,t,V⟩:=qq21 p d hux;rw[hn]at V;obtain⟨v,hv⟩:∃v:Bk,v=u.gone d:=⟨_,rfl⟩;rw[<-hv]at K t V;have pm:PSm u v:=⟨t.P,t.pumps,λid hid=>by
    obtain⟨⟨o,b⟩,U⟩:=A5.1 hid;obtain⟨_,_,q,i,C,D,_⟩:=p.pair id o b U;rw[C];exact t.stays C (by omega),λid hid=>by
    obtain⟨⟨o,b⟩,U⟩:=A5.1 hid;obtain⟨_,_,q,i,C,D,_⟩:=p.pair id o b U;exact t.N id q C D⟩
   have pq:=(O.pq p).same p pm;obtain⟨R,T,k0⟩:=qa41 (c:=c) (m:=m+1) hm (bkM v) v (A9 _) (qr5.more K);obtain⟨C,D,H,k4⟩:=k0 R (A9 _);have hl:=Str.lenS D hm;obtain⟨p1,p2⟩:=qn41 hm R v pq (qr5.more K) C;refine⟨R,T,⟨0,0,0,T.outs⟩,?_,⟨D,Rn.book (Book.vis W t) H,?_,k4⟩,?_,.inl ⟨?_,rfl,?_,?_⟩⟩
   .rw[E,Y];simp only;rw[yA (by simp),<-z,<-hv,C];simp only;rw[yA (by omega)]
   .refine Rn.talk0 H (t.less.talk0 ?_);rw[z];exact ht
   .rw[p1,t.P,z];exact eP
   .unfold qm11;rw[List.any_eq_true];refine⟨d,qm41 (so:=λ_=>A6) (df:=λd=>d) A.nB (k:=e.name) (by rw[<-F];exact r) rfl,?_⟩;rw[hn,h3];simp
   .intro P l J;have Z:T.B.L=qp w.B.L e.name:=by rw[H.B,t.B,z]
    rw[Z]at l;have M:((qp w.B.L e.name).map (·.1)).Nodup:=qph g.nB _;obtain⟨k,a,_⟩:=qc21 (so:=λ_=>A6) (df:=λd=>d) M l;rw[qaa g.nB]at a;split at a;.cases a
    .rename_i h0;exact h0 (by rw[<-g.name k P a,J])
   .rw[H.Q];exact V
  .refine no (by unfold qlb;rw[r];simp only;rw[yA G]) ?_;unfold qm11;rw[Aa];intro P l;obtain⟨k,a,_⟩:=qc21 (so:=λ_=>A6) (df:=λd=>d) A.nB l;have X:=A.name k P a;rw[A7,yJ];rintro⟨Q,J⟩;rw[<-X,Q,<-F,r]at a;cases a;have:=(A.held e.name d (by rw[<-F];exact r) J).1;apply G;unfold qv4;rw[J,yB rfl,eK,yB this]
end
end
section
def qa61(name:ByteArray):EvD:=⟨8,0,0,⟨#[]⟩,0,name,⟨#[]⟩,⟨#[]⟩⟩
def qs61{α:Type}{l:List α}{i:Nat}{x:α}(f:α->Bool)(h:l[i]?=A4 x):(l.take (i+1)).any f=((l.take i).any f||f x):=by rw[List.take_add_one,h,List.any_append];simp
def qh41(so:LeD->Bool)(df:LeD->LeD):∀(l:List ByteArray) (s:LeL×List LeD),(l.foldl (q64 so df) s).2.length<=s.2.length+l.length
 |[],s=>A9 _
 |a::r,s=>by
  rw[List.foldl_cons];have w:=qh41 so df r (q64 so df s a);have h:(q64 so df s a).2.length<=s.2.length+1:=by
   unfold q64;split;.omega
   .split;.rw[List.length_append];exact A9 _
    .omega
  simp only[List.length_cons];omega
def qx41(L:LeL):(q3h L).length<=L.length:=by have h:=qh41 (λ_=>A6) (λd=>d) (q91 leS (L.map λy:ByteArray×LeD=>y.1)) (L,[]);rw[(qv1 leS _).length_eq,Ad]at h;have e:([]:List LeD).length=0:=rfl;rw[e,Nat.zero_add]at h;exact h
def qh61(P:qd6):(qw4 P).length<=P.ends.length:=by unfold qw4;rw[(qv1 leI _).length_eq,Ad];exact List.length_filter_le _ _
section
variable{W w:World}{F:List Asn}{c:qy}
def ql1.b13{a0 e a2 a3 a4 a5 d b f a9 w a:Asn}(h:ql1 F c):ql1 (a0::e::a2::a3::a4::a5::d::b::f::a9::w::a::F) c:=(((((((((((h.cons _).cons _).cons _).cons _).cons _).cons _).cons _).cons _).cons _).cons _).cons _).cons _
def qv51{x m:Nat}{p:qm3}{os:List EvD}{i:Nat}{s:Bk}{pl:List Nat}{b:Option Nat}{e:EvD}(u:ql1 F c)(z:Inv (m:Int) s)(A:m+1<=1000000)(r:EvOk e)(f:St W (brk c x p pl b s F) w):
 qb Zp 15 #[qc x,Zg (evV e).toArray] w λv w'=>∃k l j d h a,v=Zg #[Zi Zk k,Zi Zk l,Zi Zk j,Zl d h a]/\∃s' pl b,Inv ((m+1:Nat):Int) s'/\St W (brk c x p pl b s' F) w':=by
 obtain⟨n,s',o,g,t⟩:=qx61 (c:=c) (e:=e) z (by omega);refine(qau u r g f).of λv w ⟨pl,b,q,B,y,f⟩=>⟨_,_,_,_,_,_,y,s',pl,b,t,f.del 12 rfl⟩
set_option maxRecDepth 100000 in
set_option maxHeartbeats 4000000 in
def qv41{c:qy}{p:Option Addr}{os:List EvD}{cc:Nat}(hT:qc4 [q65 W])(U:qc4 [q65 W]->ql1 [q65 W] c)(hr:Rd [q65 W] p (os.flatMap evV))(hc:os.length<=cc)(hcm:cc<=9223372036854775807)(hok:∀o∈os,EvOk o)(name:ByteArray)(_hn:name.size<=9223372036854775807):
 qb Zp 4 #[Zg (qx3 c).toArray,Zl p os.length cc,Zs name] W λv w'=>v=Zb A6/\∃r,St W (q65 W::r) w':=by
 have U:=U hT;refine F4_of (zh (St.base W) λb w h=>?_);have h:St W (Row b 44 (qx3 c)::[q65 W]) w:=h;have hT:=hT.cons (Row b 44 (qx3 c));have U:=U.cons (Row b 44 (qx3 c));have hr:=hr.cons (Row b 44 (qx3 c));refine(qyu hT h).of λv w ⟨f,h⟩=>⟨_,f,?_⟩;refine z8 0 h rfl rfl (z8 0 h rfl rfl (z8 0 h rfl rfl (z8 0 h rfl rfl (zr 0 h rfl rfl ?_))));have t:∀{l:List Asn} w,St W (l++[q65 W]) w->∃r,St W (q65 W::r) w:=λw h=>⟨_,z0f _ h⟩;refine(qwt U h).of λv w f=>?_;rcases f with ⟨_,f,h⟩|⟨M,x,G,f,h⟩
 .exact⟨_,f,zn rfl ⟨rfl,t (l:=[_]) w h⟩⟩
 refine⟨_,f,zm rfl ?_⟩;have Y:∀{pl k s} w,St W (brk c x G pl k s (Row b 44 (qx3 c)::[q65 W])) w->∃r,St W (q65 W::r) w:=λw h=>t (l:=[_,_,_,_,_,_,_,_,_,_,_,_,_]) w h;refine z8 12 h rfl rfl (z8 12 h rfl rfl (z8 12 h rfl rfl (z8 12 h rfl rfl (zr 12 h rfl rfl ?_))));refine(qa51 U.b13 h).of λv w ⟨g,f,h⟩=>⟨_,f,za (λ_=>⟨rfl,Y w h⟩) λ_=>?_⟩;refine(qc51 hr.b12 (by omega) h).of λv w ⟨g,f,Q,h⟩=>⟨_,f,za (λ_=>⟨rfl,Y w h⟩) λhg=>?_⟩;have Q:=Q hg;refine za (λ_=>⟨rfl,Y w h⟩) λ_=>?_;have hi0:Inv ((0:Nat):Int) (Bk.new c):=q571 c (by have:=q3r M;rw[A7]at this;exact this.2)
 refine⟨λvs w=>∃(i:Nat) (s:Bk) (pl:List Nat) (k:Option Nat),vs=[Zi Zk i]/\i<=os.length/\Inv (i:Int) s/\St W (brk c x G pl k s (Row b 44 (qx3 c)::[q65 W])) w,qq11 os.length,⟨0,_,_,_,rfl,Ac _,hi0,h⟩,λi w hI=>?_⟩;clear h;obtain⟨i,s,pl,k,he,hi,D,h⟩:=hI;cases he;refine za (λa=>?_) λy=>?_
 .have a:i<os.length:=by have:=yC a;omega
  have H:=A1 a;have hoe:=hok os[i] (Ab a);generalize os[i]=e at H hoe;refine z0e evV8 (by decide) hr.b12 h rfl a H λad u=>zt (u 0 _ rfl) (zt (u 1 _ rfl) (zt (u 2 _ rfl) (z0p (u 3 _ rfl) (zt (u 4 _ rfl) (z0p (u 5 _ rfl) (z0p (u 6 _ rfl) (z0p (u 7 _ rfl) ?_)))))));refine(qv51 (os:=os) (i:=i) (m:=i) U D (by omega) hoe h).of λv w ⟨x1,x2,x3,x4,x5,x6,f,s',pl,k,V,h⟩=>⟨_,_,_,_,_,_,f,?_⟩;rw[up a (by omega)];exact⟨⟨i+1,s',pl,k,rfl,a,V,h⟩,by show os.length -(i+1)<os.length - i;omega⟩
 clear y;have hmi:(i:Int)+1<=1000000:=by omega
 have hlP:=Str.lenP D.str (by omega);refine(qlo hlP h).of λv w ⟨L,N,f,h⟩=>⟨_,_,_,f,?_⟩;refine(qxz h).of λv w ⟨J,K,f,h⟩=>⟨_,_,_,f,?_⟩;have Z:(q3h s.B.L).length<=9223372036854775807:=by obtain⟨_,h64,_⟩:=z0s (h.at 3 rfl);have:=qx41 s.B.L;omega
 refine⟨λvs w=>∃j:Nat,vs=[Zb (((q3h s.B.L).take j).any λd=>decide (d.name=name)&&d.held),Zi Zk j]/\j<=(q3h s.B.L).length/\St W (brk c x G pl k s (SlA 55 6 leV J K (q3h s.B.L)::SlA 122 2 (q52 (qb4 s.P)) L N (qw4 s.P)::Row b 44 (qx3 c)::[q65 W])) w,qq11 (q3h s.B.L).length,⟨0,rfl,Ac _,h⟩,λheld j w hI=>?_⟩;clear h;obtain⟨j,he,hj,h⟩:=hI;cases he;have X:∀A,Rd (brk c x G pl k s (SlA 55 6 leV J K (q3h s.B.L)::A)) J ((q3h s.B.L).flatMap leV):=λA=>z06 12 rfl λF=>z0g F;refine za (λa=>?_) λy=>?_
 .have a:j<(q3h s.B.L).length:=by have:=yC a;omega
  have H:=A1 a;generalize (q3h s.B.L)[j]=d at H;have hs:=qs61 (λd:LeD=>decide (d.name=name)&&d.held) H;have z:∀b',((((q3h s.B.L).take j).any λd=>decide (d.name=name)&&d.held)||(decide (d.name=name)&&d.held))=b'->(∃B:Nat,[Zb b',Zi Zk (Zw Zk ((j:Int)+1))]=[Zb (((q3h s.B.L).take B).any λd=>decide (d.name=name)&&d.held),Zi Zk B]/\B<=(q3h s.B.L).length/\St W (brk c x G pl k s (SlA 55 6 leV J K (q3h s.B.L)::SlA 122 2 (q52 (qb4 s.P)) L N (qw4 s.P)::Row b 44 (qx3 c)::[q65 W])) w)/\qq11 (q3h s.B.L).length [Zb b',Zi Zk (Zw Zk ((j:Int)+1))] w<qq11 (q3h s.B.L).length [Zb (((q3h s.B.L).take j).any λd=>decide (d.name=name)&&d.held),Zi Zk (j:Int)] w:=λb' hb=>by rw[up a Z];exact⟨⟨j+1,by rw[hs,hb],a,h⟩,by show(q3h s.B.L).length -(j+1)<(q3h s.B.L).length - j;omega⟩
  refine za (λC=>z A6 (by rw[C];rfl)) λC=>?_;refine z0e qhw (by decide) (X _) h rfl a H λad u=>z0p (u 0 _ rfl) ?_;rw[qv3];refine za (λhn=>z0e qhw (by decide) (X _) h rfl a H λad u=>LdB.at (u 5 _ rfl) (z d.held (by rw[C,hn];simp))) λhn=>z A8 (by rw[C,hn];rfl)
 have T:((q3h s.B.L).take j).any (λd=>decide (d.name=name)&&d.held)=qm11 s name:=by have:¬(j:Int)<((q3h s.B.L).length:Int):=yD y;rw[List.take_of_length_le (by omega)];rfl
 rw[T];clear y T X;obtain⟨n,s',o,hst,V,hP',E⟩:=qz51 (c:=c) (e:=qa61 name) D hmi rfl;refine(qau (e:=qa61 name) ((U.cons _).cons _) ⟨by show(-9223372036854775808:Int)<=0;decide,by show(0:Int)<=9223372036854775807;decide⟩ hst h).of λv w ⟨pl,k,P,O,f,h⟩=>⟨_,_,_,_,_,_,f,?_⟩;refine zh h λb4 w h=>St1.zz 0 h rfl λw h=>St1.zz 0 h rfl λw h=>St1.zz 0 h rfl λw h=>St1.zz 0 h rfl λw h=>?_;have h:St W (Row b4 32 [Zi Zk o.err,Zi Zk o.conn,Zi Zk o.took,Zl P o.sent.length O]::brk c x G pl k s' (SlA 38 4 q21 P O o.sent::SlA 55 6 leV J K (q3h s.B.L)::SlA 122 2 (q52 (qb4 s.P)) L N (qw4 s.P)::Row b 44 (qx3 c)::[q65 W])) w:=h;have hhe:(qm11 s name=A6/\o.err=0)\/(qm11 s name=A8/\o.err=3):=by
  rcases E with ⟨q,I,_⟩|⟨q,I⟩
  .exact .inl ⟨q,I⟩
  .exact .inr ⟨q,I⟩
 have same:∀w,St W (Row b4 32 [Zi Zk o.err,Zi Zk o.conn,Zi Zk o.took,Zl P o.sent.length O]::brk c x G pl k s' (SlA 38 4 q21 P O o.sent::SlA 55 6 leV J K (q3h s.B.L)::SlA 122 2 (q52 (qb4 s.P)) L N (qw4 s.P)::Row b 44 (qx3 c)::[q65 W])) w->
  qb Zp 16 #[qc x] w λv84 w84=>AsL v84 λx85p h5 h0=>qb Zp 18 #[Zl x85p h5 h0,Zl L (qw4 s.P).length N] w84 λv86 w87=>AsB v86 λx88=>Bif (!x88) ((Zb A8=Zb A6/\∃r,St W (q65 W::r) w87)) (([]:List Value)=[]/\St W (brk c x G pl k s' (SlA 38 4 q21 P O o.sent::SlA 55 6 leV J K (q3h s.B.L)::SlA 122 2 (q52 (qb4 s.P)) L N (qw4 s.P)::Row b 44 (qx3 c)::[q65 W])) w87):=λw h=>by
  have h:=h.drop;have hvl:(qw4 s.P).length<=9223372036854775807:=by have:=qh61 s.P;omega
  refine(qlo (Str.lenP V.str (by omega)) h).of λv w ⟨q4,k4,f,h⟩=>⟨_,_,_,f,?_⟩;rw[hP']at h⊢;refine(qp51 hvl (z06 12 rfl λF=>z0g F) (z06 15 rfl λF=>z0g F) h).of λv w ⟨f,h⟩=>⟨_,f,zm rfl ⟨rfl,h.del 12 rfl⟩⟩
 refine⟨λvs w=>vs=[]/\St W (brk c x G pl k s' (SlA 38 4 q21 P O o.sent::SlA 55 6 leV J K (q3h s.B.L)::SlA 122 2 (q52 (qb4 s.P)) L N (qw4 s.P)::Row b 44 (qx3 c)::[q65 W])) w,?_,λw hJ=>?_⟩
 .refine z8 0 h rfl rfl (zm (by rcases hhe with ⟨q,I⟩|⟨q,I⟩<;>rw[q,I]<;>rfl) (z8 0 h rfl rfl (za (λhb=>z8 0 h rfl rfl (zm (by
   rcases hhe with ⟨q,I⟩|⟨q,I⟩
   .rw[I]at hb;cases hb
   .rw[I];rfl) (same w h))) λ_=>same w h)))
 clear h same;obtain⟨_,h⟩:=hJ;refine(qxz h).of λv w ⟨q5,k5,f,h⟩=>⟨_,_,_,f,?_⟩;have hl5:(q3h s'.B.L).length<=9223372036854775807:=by obtain⟨_,h64,_⟩:=z0s (h.at 3 rfl);have:=qx41 s'.B.L;omega
 refine⟨λvs w=>∃j:Nat,vs=[Zi Zk j]/\j<=(q3h s'.B.L).length/\St W (brk c x G pl k s' (SlA 55 6 leV q5 k5 (q3h s'.B.L)::SlA 38 4 q21 P O o.sent::SlA 55 6 leV J K (q3h s.B.L)::SlA 122 2 (q52 (qb4 s.P)) L N (qw4 s.P)::Row b 44 (qx3 c)::[q65 W])) w,qq11 (q3h s'.B.L).length,⟨0,rfl,Ac _,h⟩,λj w hI=>?_⟩;clear h;obtain⟨j,he,hj,h⟩:=hI;cases he;refine za (λa=>?_) λ_=>?_
 .have a:j<(q3h s'.B.L).length:=by have:=yC a;omega
  have H:=A1 a;have R:=Ab a;generalize (q3h s'.B.L)[j]=d at H R;have z:(∃B:Nat,[Zi Zk (Zw Zk ((j:Int)+1))]=[Zi Zk B]/\B<=(q3h s'.B.L).length/\St W (brk c x G pl k s' (SlA 55 6 leV q5 k5 (q3h s'.B.L)::SlA 38 4 q21 P O o.sent::SlA 55 6 leV J K (q3h s.B.L)::SlA 122 2 (q52 (qb4 s.P)) L N (qw4 s.P)::Row b 44 (qx3 c)::[q65 W])) w)/\qq11 (q3h s'.B.L).length [Zi Zk (Zw Zk ((j:Int)+1))] w<qq11 (q3h s'.B.L).length [Zi Zk (j:Int)] w:=by rw[up a hl5];exact⟨⟨j+1,rfl,a,h⟩,by show(q3h s'.B.L).length -(j+1)<(q3h s'.B.L).length - j;omega⟩
  refine za (λC=>?_) λ_=>z;refine z0e qhw (by decide) (z06 12 rfl λF=>z0g F) h rfl a H λad u=>z0p (u 0 _ rfl) ?_;rw[qv3];refine za (λhn=>?_) λ_=>z;rcases E with ⟨_,_,h3,_⟩|⟨q,_⟩
  .exact yI (yC hn) (h3 d R)
  .have q:qm11 s name=A8:=q;rw[q]at C;cases C
 refine zn rfl (za (λ_=>⟨rfl,t (l:=[_,_,_,_,_,_,_,_,_,_,_,_,_,_,_,_,_]) w h⟩) λC=>?_);have C:qm11 s name=A6:=by simpa using C
 refine(qxy name h).of λv w ⟨q6,k6,f,h⟩=>⟨_,_,_,f,?_,t (l:=[_,_,_,_,_,_,_,_,_,_,_,_,_,_,_,_,_,_]) w h⟩;rcases E with ⟨_,_,_,h4⟩|⟨q,_⟩
 .have h4:Qu.gL s'.Q name=[]:=h4;rw[h4];rfl
 .have q:qm11 s name=A8:=q;rw[q]at C;cases C
end
end
def tabL:List (String×DataW Unit):=[("internal/strconv.uint64pow10",Lib.tabData .u64 Lib.pow10Tab)]
def tab_base{W:World}(h:laidMetH Zp Rows.topEvictedRow.laid W):qc4 [q65 W]:=by
 have b:=laidMetH.filter (λx=>x.1== "internal/strconv.uint64pow10") h;have e:Rows.topEvictedRow.laid.filter (λx=>x.1== "internal/strconv.uint64pow10")=tabL:=by kernel_rfl
 rw[e,MakeChecks.laidMetH_plain _ _ _ (by kernel_rfl)]at b;have a:Zp.globalNamed "internal/strconv.uint64pow10"=A4 0:=by kernel_rfl
 have w:Lib.TabIs Zp W "internal/strconv.uint64pow10" .u64 Lib.pow10Tab:=Lib.tabIs_of_head a (t:=486) (e:=291) (n:=20) (by kernel_rfl) Tryz.underlying486 Tryz.underlying291 (by kernel_rfl) (by kernel_rfl) b;intro H d;obtain⟨g,j,i,_⟩:=d;unfold Lib.TabIs World.var? at w;rw[a,Option.bind_some]at w;split at w
 .rename_i cs t c f;cases w;exact⟨t,c,j _ _ (i _ _ f)⟩
 .cases w
end Go.Proofs.YtfjifcfbmhpcaaaGreatDoor
