/-
  A part of the proof of TopEvicted.
-/
import Derived.Test.YtfjifcfbmhpcaaaGreatDoorV24
import Derived.Test.YtfjifcfbmhpcaaaGreatDoorV05
import Derived.Test.YtfjifcfbmhpcaaaGreatDoorV00
set_option linter.defProp false
set_option linter.unusedVariables false
set_option linter.unusedSimpArgs false
namespace Go.Proofs.YtfjifcfbmhpcaaaGreatDoor
open Go
open Go.Proofs.Tryz renaming prog → Zp
open Go.IntKind renaming i64 → Zk, wrap → Zw
open Go.Addr renaming add → Za
open Go.Value renaming int → Zi, string → Zs, pointer → Zq, bool → Zb, tuple → Zt, slice → Zl, agg → Zg
open _root_.Option renaming some->A0,none->Aa
open _root_.List renaming getElem?_eq_getElem->A1,length_map->A5,take_of_length_le->A6,getElem?_map->A7,getElem?_eq_some_iff->A8,drop_eq_getElem_cons->A9,drop_length->Ab,length_filter_le->Af,length_take->Ak,length_cons->Am,cons_append->An,length_nil->Ao,nil_append->Ap,map_cons->Aq
open _root_.Option.some renaming inj->A2,injEq->Ai
open _root_.Nat renaming lt_of_le_of_lt->A3,zero_le->Ag,zero_add->Aj,reduceAdd->Ar,le_trans->As
open _root_.Bool renaming false->A4,true->Ae
open Go renaming World->Ac,Value->Ad
open _root_.Prod renaming fst->Ah,snd->Au
section
def qb3.next{N:Cn.CT}{S:List (Int×q81)}(h:qb3 N S)(id:Int):qb3 (Cn.nextT N id).1 S:=by
 unfold Cn.nextT;split;.exact h
 .rename_i d a;refine⟨h.1,λy w=>?_⟩;rcases qh8 w with rfl|w
  .have:=h.2 _ (qg3 a);exact this
  .exact h.2 y w
section
variable{W w:World}{F l:List Asn}{ro:Asn}{c:qy}{x m2 q pb:Nat}{p:qm3}{pl:List Nat}{ps:List Ri.PS}{sn:Option Nat}{s s':Bk}{id:Int}{cs:List Value}{r:q31}
def qyk(W:Ac)(c:qy)(x m2:Nat)(p:qm3)(pl:List Nat)(s:Bk)(id:Int)(F:List Asn)(vs:List Ad)(w:Ac):Prop:=
 (∃(r:q31) (q:Nat) (sb:Option Nat),s.talks id=A0 r/\vs=[qc q,Zb Ae]/\(∀i,r.pump=A0 i->i<pl.length)/\St W (q32 c x p pl (A0 m2) s id q (Row q 127 (qs pl sb r)::q02 p.v sb r.sh::F)) w)\/
 (s.talks id=Aa/\∃a,vs=[Zq a,Zb A4]/\St W (brk c x p pl (A0 m2) s F) w)
def q4t(h:s.talks id=A0 r):qe s.roles id=A0 r:=by
 unfold Bk.talks at h;split at h;.cases h
 .split at h;.cases h;assumption
  .cases h
def qcg(e:St W (brk c x p pl (A0 m2) s F) w):qb Zp 191 #[qc x,Zi Zk id] w λv w'=>∃a b,v=Zt #[Zq a,Zb b]/\qyk W c x m2 p pl s id F [Zq a,Zb b] w':=by
 unfold qyk;cases hd:qe s.roles id with
 |none=>
  have j:s.talks id=Aa:=by unfold Bk.talks;rw[hd]
  refine F191_of (z7 (zv 0 e rfl rfl (z0y kI uMr iPr zPr 9 e rfl hd Ae ?_)));rw[yB rfl];exact⟨_,_,rfl,StC W _,zd e,zm rfl λG w h=>⟨_,_,rfl,.inr ⟨j,_,rfl,zb h⟩⟩⟩
 |some d=>
  obtain⟨q,sb,i,e⟩:=brk.open_ hd e;refine F191_of (z7 (zv 0 e rfl rfl (z0i kI uMr iPr zPr 9 e rfl Ae ?_)));rw[yB rfl];refine⟨_,_,rfl,StC W _,zd e,zn rfl (z7 ⟨_,zi 12 ir rfl rfl,za (λh=>λG w g=>⟨_,_,rfl,.inl ⟨d,q,sb,?_,rfl,i,zb g⟩⟩) λh=>z7 ⟨_,zi 12 ir rfl rfl,λG w g=>⟨_,_,rfl,?_⟩⟩⟩)⟩
  .unfold Bk.talks;rw[hd];exact yB (.inl (by simpa using h))
  .have e:=zb g;have k:d.kind≠1:=by simpa using h
   by_cases f:d.kind=2
   .refine .inl ⟨d,q,sb,?_,?_,i,e⟩
    .unfold Bk.talks;rw[hd];exact yB (.inr f)
    .rw[f];rfl
   .refine .inr ⟨?_,A0 ⟨q,0,Aa⟩,?_,z07 i hd e⟩
    .unfold Bk.talks;rw[hd];exact yA (by intro h;rcases h with h|h;exact k h;exact f h)
    .rw[show(d.kind==2)=A4 from by simpa using f]
set_option maxHeartbeats 1000000 in
def qhk{n:Nat}(draw:ByteArray)(T:ql1 F c)(g:s.read c n id draw=A0 s')(f:St W (brk c x p pl (A0 m2) s F) w):
 qb Zp 124 #[qc x,Zi Zk id,Zs draw] w λv w'=>v=Zt #[]/\∃E,St W (brk c x p E (A0 m2) s' F) w':=by
 refine F124_of ((qcg f).of λv w ⟨a,b,i,o⟩=>⟨_,_,i,qt3 (λn vs w=>∃s pl,Bk.read c n s id draw=A0 s'/\qyk W c x m2 p pl s id F vs w) λμ X P=>⟨⟨n,s,pl,g,o⟩,λY Z w R=>?_⟩⟩);clear f o g;obtain⟨s,pl,g,o⟩:=P _ _ R;generalize μ _ _=n at g⊢;cases n with
 |zero=>cases g
 |succ n=>
 unfold Bk.read at g;rcases o with ⟨r,q,sb,B,J,D,f⟩|⟨B,a,J,f⟩
 .cases J;rw[B]at g;have k:=q4t B;dsimp only at g;by_cases A:r.conn≠id;.rw[yB A]at g;cases g
  rw[yA A]at g;have A:r.conn=id:=by simpa using A
  refine zn rfl (z7 (z0k 0 f rfl rfl ((Cn.Next_spec (id:=id) (f.at 7 rfl)).of λv w ⟨t,y,i,f⟩=>⟨_,_,_,_,_,i,?_⟩)));have L:St W (qua (qw (Zi Zk) p.m (qo2 p.v pl) s.roles id q) (qs2 (A0 m2) s.N s.S) c x p pl (A0 m2) { s with N:=(Cn.nextT s.N id).1} (Row q 127 (qs pl sb r)::q02 p.v sb r.sh::qi 5 1 t (Cn.nextT s.N id).2.1.length y ((Cn.nextT s.N id).2.1.map qd)::F)) w:=z0v 14 (zf 1 8 f rfl);have f:St W (q32 c x p pl (A0 m2) { s with N:=(Cn.nextT s.N id).1} id q (Row q 127 (qs pl sb r)::q02 p.v sb r.sh::qi 5 1 t (Cn.nextT s.N id).2.1.length y ((Cn.nextT s.N id).2.1.map qd)::F)) w:=z12 10 L rfl (z1f λh=>h.next id);clear L;generalize Cn.nextT s.N id=nx at f g⊢;obtain⟨N,b,z,e⟩:=nx;dsimp only at f g⊢;have k:qe ({ s with N:=N}:Bk).roles id=A0 r:=k;generalize { s with N:=N}=s at f g k;refine⟨λ_ w=>¬(e=0/\z=A4)/\St W (q32 c x p pl (A0 m2) s id q (Row q 127 (qs pl sb r)::q02 p.v sb r.sh::qi 5 1 t b.length y (b.map qd)::F)) w,za (λh=>za (λC=>?_) λC=>⟨λj=>(by rw[j.2]at C;cases C),f⟩) λh=>⟨λj=>(by rw[j.1]at h;cases h),f⟩,λw Q=>?_⟩
  .rw[yB ⟨by simpa using h,by simpa using C⟩]at g;refine z7 (z0k 0 f rfl rfl (qb.p 7 f rfl (λh=>Cn.Ended_spec (id:=id) h) λw f=>⟨_,rfl,za (λl=>?_) λl=>?_⟩))
   .have l:s.ask id A4 (λd=>d.ended)=Ae:=l;rw[yB l]at g;rw[<-A2 g];exact(q9a (z07 D k f)).of λv w ⟨i,f⟩=>⟨i,rfl,pl,f.del 12 rfl⟩
   .have l:s.ask id A4 (λd=>d.ended)=A4:=l;rw[yA (by rw[l];simp)]at g;rw[<-A2 g];exact⟨rfl,pl,(z07 D k f).del 12 rfl⟩
  clear f;obtain⟨O,f⟩:=Q;rw[yA O]at g;clear O;have H:∀G,Rd (q32 c x p pl (A0 m2) s id q (Row q 127 (qs pl sb r)::q02 p.v sb r.sh::qi 5 1 t b.length y (b.map qd)::G)) t (b.map qd):=λG=>z06 14 rfl λF=>z0j F;have I:=(qi.le (f.at 14 rfl)).2;refine(qtj (H F) I f).of λv w ⟨i,f⟩=>⟨_,_,_,_,_,_,i,?_⟩;generalize qxg b=gm at g⊢;obtain⟨m,M⟩:=gm;dsimp only at g⊢;refine z08 14 f λV w f=>St1.zz 14 f rfl λw f=>St1.zz 14 f rfl λw f=>St1.zz 14 f rfl λw f=>St1.zz 14 f rfl λw f=>St1.zz 14 f rfl λw f=>?_;have f:St W (q32 c x p pl (A0 m2) s id q (Row q 127 (qs pl sb r)::q02 p.v sb r.sh::qf7 V m::qi 5 1 t b.length y (b.map qd)::F)) w:=f;refine za (λh=>?_) λh=>?_
  .rw[yB (by simpa using h)]at g;rw[<-A2 g];exact(q18 61 (z07 D k f)).of λv w ⟨i,f⟩=>⟨i,rfl,pl,(f.del 12 rfl).del 12 rfl⟩
  .rw[yA (by simpa using h)]at g;refine z8 14 f rfl rfl (zg 14 f rfl rfl (zg 14 f rfl rfl (z8 14 f rfl rfl (z8 14 f rfl rfl ?_))));cases j:s.hear c id r m draw with
   |none=>rw[j]at g;cases g
   |some U=>
   rw[j]at g;refine(qzt m draw ((T.cons _).cons _) A D k j f).of λv w ⟨i,K,f⟩=>⟨i,?_⟩;refine(qcg ((f.del 12 rfl).del 12 rfl)).of λv w ⟨a,b,i,o⟩=>⟨_,_,i,?_⟩;have u:∃s pl,Bk.read c n s id draw=A0 s'/\qyk W c x m2 p pl s id F [Zq a,Zb b] w:=⟨U,K,g,o⟩;exact⟨⟨n,u⟩,A3 (X _ _ _ u) (by omega)⟩
 .cases J;rw[B]at g;rw[<-A2 g];exact zm rfl ⟨rfl,pl,f⟩
end
end
section
def qxc{α:Type}:∀{l:List α} {i:Nat} {x:α},l[i]?=A0 x->l.Perm (x::l.eraseIdx i)
 |y::l,0,x,h=>by simp at h;subst h;exact .refl _
 |y::l,i+1,x,h=>by simp at h;exact((qxc h).cons y).trans (List.Perm.swap _ _ _)
def q3p{α β:Type}:∀(l:List α) (m:List β) (i:Nat) {x:α} (y:β),l[i]?=A0 x->l.zip (m.set i y)=(l.zip m).set i (x,y)
 |[],m,i,x,y,h=>by simp at h
 |a::l,[],i,x,y,h=>by simp
 |a::l,b::m,0,x,y,h=>by simp at h;subst h;rfl
 |a::l,b::m,i+1,x,y,h=>by simp at h;simp[q3p l m i y h]
def qwh{α:Type}:∀(l:List α) (i:Nat) (y:α),(l.set i y).eraseIdx i=l.eraseIdx i
 |[],i,y=>rfl
 |a::l,0,y=>rfl
 |a::l,i+1,y=>by simp[qwh l i y]
section
variable{W w:World}{F l:List Asn}{pl:List Nat}{ps:List Ri.PS}{pb i:Nat}{z:Ri.PS}
def q8a(pl:List Nat)(ps:List Ri.PS)(i pb:Nat):Asn:=qz [prA (pl.length=ps.length/\pl[i]?=A0 pb),qz (((pl.zip ps).eraseIdx i).map λx=>Ri.PumpA x.1 256 x.2)]
def qa5.take(d:ps[i]?=A0 z)(h:St W (qa5 pl ps::F) w):∃pb,pl[i]?=A0 pb/\St W (Ri.PumpA pb 256 z::q8a pl ps i pb::F) w:=by
 obtain⟨c,h⟩:=h.of_sep.of_pr;have a:i<pl.length:=by rw[c];exact(A8.1 d).1
 have b:pl[i]?=A0 pl[i]:=A1 a;have e:(pl.zip ps)[i]?=A0 (pl[i],z):=by rw[List.getElem?_zip_eq_some];exact⟨b,d⟩
 refine⟨pl[i],b,?_⟩;have f:=qf5 (X:=Ri.PumpA pl[i] 256 z) ((qxc e).map λx=>Ri.PumpA x.1 256 x.2) h;exact(zj (l:=[_,_]) (z01 ⟨c,b⟩ f.p1)).p1
def qa5.give(h:St W (Ri.PumpA pb 256 z::q8a pl ps i pb::F) w):St W (qa5 pl (ps.set i z)::F) w:=by
 obtain⟨⟨c,b⟩,h⟩:=h.p1.of_sep.of_pr;refine zj (l:=[_,_]) (z01 (by rw[List.length_set];exact c) ?_);rw[q3p pl ps i z b];have a:i<(pl.zip ps).length:=by rw[List.length_zip];have:=(A8.1 b).1;omega
 have e:St W (Ri.PumpA pb 256 z::qz (((pl.zip ps).eraseIdx i).map λx=>Ri.PumpA x.1 256 x.2)::F) w:=St.p1 h;have d:((pl.zip ps).set i (pb,z))[i]?=A0 (pb,z):=by rw[List.getElem?_set_self a]
 have:=(qxc d).map λx=>Ri.PumpA x.1 256 x.2;rw[qwh]at this;exact q95 this.symm e
def q0v:Ri.capOf 256=256:=by decide
def q6s(n:Int)(h:St W (Ri.PumpA pb 256 z::F) w):qb Zp 133 #[qc pb,Zi Zk n] w λv w'=>v=Zi Zk (z.room 256 n:Nat)/\St W (Ri.PumpA pb 256 z::F) w':=by have:=Ri.PRoom_spec n h;rwa[q0v]at this
def qax{xs:List UInt8}{p:Option Addr}{c:Nat}(n:Int)(b:Rd F p (xs.map qd))(a:xs.length<=c)(h:St W (Ri.PumpA pb 256 z::F) w):qb Zp 134 #[qc pb,Zi Zk n,Zl p xs.length c] w λv w'=>v=Zi Zk (z.inN 256 n xs:Nat)/\St W (Ri.PumpA pb 256 (z.in_ 256 n xs)::F) w':=by have:=Ri.PIn_spec n b a h;rwa[q0v]at this
def qyx(z:Ri.PS)(n k:Int):(z.outB n k).length<=k.toNat:=by
 unfold Ri.PS.outB;split;.rw[Ak];omega
 .exact Ag _
def qdy(z:Ri.PS)(n:Int):z.room 256 n<=256:=by unfold Ri.PS.room;split<;>omega
end
section
variable{W w:World}{F l:List Asn}{ro:Asn}{c:qy}{x m2 qf qt:Nat}{p:qm3}{pl:List Nat}{sn sbf sbt:Option Nat}{s s':Bk}{id:Int}{f t t':q31}{res:Bool}
@[reducible] def qzi (ro so pu:Asn) (c:qy) (x:Nat) (p:qm3) (sn:Option Nat) (s:Bk) (F:List Asn):List Asn:=
 Row x 108 (brV c p sn)::qg1 p.v c s.R::qg5 c p.g s.O::q41 p.l s.B::Qu.QueueA p.q s.Q::q03 p.t s.T::q13 p.p s.P::Cn.TabA p.n s.N::Ck.ClockA p.k s.K::ro::so::pu::F
set_option maxHeartbeats 1000000 in
def qoh(T:∀i,t.pump=A0 i->i<pl.length)(j:s.relay c f t=A0 (s',t',res))(a:St W (qy1 ro c x p pl sn s (Row qf 127 (qs pl sbf f)::Row qt 127 (qs pl sbt t)::F)) w):
 qb Zp 83 #[qc x,qc qf,qc qt] w λv w'=>v=Zb res/\St W (qy1 ro c x p pl sn s' (Row qf 127 (qs pl sbf f)::Row qt 127 (qs pl sbt t')::F)) w':=by
 unfold Bk.relay at j;cases hpu:f.pump with
 |none=>rw[hpu]at j;cases j
 |some i=>
 rw[hpu]at j;dsimp only at j;cases hps:s.pumps[i]? with
 |none=>rw[hps]at j;cases j
 |some z0=>
 rw[hps]at j;dsimp only at j;obtain⟨pb,Q,a⟩:=qa5.take hps (a.at 11 rfl);have l:∀(k:Nat),k=8->(qs pl sbf f)[k]?=A0 (Zq (A0 ⟨pb,0,Aa⟩)):=λk O=>by subst O;show A0 (qnc pl f.pump)=_;rw[hpu];unfold qnc;simp only;rw[Q];rfl
 have a:St W (qzi ro (qs2 sn s.N s.S) (q8a pl s.pumps i pb) c x p sn s (Row qf 127 (qs pl sbf f)::Row qt 127 (qs pl sbt t)::Ri.PumpA pb 256 z0::F)) w:=zf 0 14 (zf 1 12 a rfl) rfl;refine F83_of ⟨StC W _,zd a,z7 (z7 (z7 (z7 ⟨_,zo 0 ir rfl rfl,_,zi 12 ir rfl rfl,_,zo 12 ir rfl (l _ rfl),_,zi 12 ir rfl rfl,?_⟩)))⟩;refine z04 14 ir rfl (λG w h=>q6s f.side h) (λ_ _ h=>⟨_,rfl,h⟩) ⟨_,rfl,⟨zi 12 ir rfl rfl,zo 0 ir rfl rfl⟩,?_⟩;refine Ef.sl 7 ir rfl (λG w h=>Cn.Rest_spec (id:=f.conn) ((z0.room 256 f.side:Nat):Int) h) (λ_ _ _ _ h=>⟨_,_,_,rfl,h⟩) λq m=>⟨_,_,_,rfl,trivial,λG w h=>?_⟩;have M:(s.N.ask f.conn [] λd=>d.inb.take ((z0.room 256 f.side:Nat):Int).toNat).length<=256:=by
  unfold Cn.CT.ask;split;.exact Ag _
  .rw[Ak];have:=qdy z0 f.side;omega
 have A:St W (qzi ro (qs2 sn s.N s.S) (q8a pl s.pumps i pb) c x p sn (s.upd f.conn (Cn.gRest ((z0.room 256 f.side:Nat):Int))) (Row qf 127 (qs pl sbf f)::Row qt 127 (qs pl sbt t)::Ri.PumpA pb 256 z0::qi 5 1 q (s.N.ask f.conn [] λd=>d.inb.take ((z0.room 256 f.side:Nat):Int).toNat).length m ((s.N.ask f.conn [] λd=>d.inb.take ((z0.room 256 f.side:Nat):Int).toNat).map qd)::F)) w:=z0v 15 (zb h);have a:=z12 10 A rfl (z1f λh=>qb3.upd h f.conn (g:=Cn.gRest ((z0.room 256 f.side:Nat):Int)) λd=>rfl);clear h A;generalize (s.N.ask f.conn [] λd=>d.inb.take ((z0.room 256 f.side:Nat):Int).toNat)=inn at a j M⊢;unfold Bk.relayA at j;obtain⟨e,y⟩:∃e,e=s.upd f.conn (Cn.gRest ((z0.room 256 f.side:Nat):Int)):=⟨_,rfl⟩;rw[<-y]at j;have a:St W (qzi ro (qs2 sn e.N e.S) (q8a pl e.pumps i pb) c x p sn e (Row qf 127 (qs pl sbf f)::Row qt 127 (qs pl sbt t)::Ri.PumpA pb 256 z0::qi 5 1 q inn.length m (inn.map qd)::F)) w:=by rw[y];exact a
 clear y;have N:=(qi.le (a.at 15 rfl)).2;refine⟨StC W _,zd a,z7 (z7 ⟨_,zo 12 ir rfl (l _ rfl),_,zi 12 ir rfl rfl,?_⟩)⟩;refine z04 14 ir rfl (λG w h=>qax f.side (z06 14 rfl λF=>z0j F) N h) (λ_ _ h=>⟨_,rfl,h⟩) ⟨_,rfl,trivial,λG w h=>?_⟩;have a:St W (qzi ro (qs2 sn e.N e.S) (q8a pl e.pumps i pb) c x p sn e (Row qf 127 (qs pl sbf f)::Row qt 127 (qs pl sbt t)::Ri.PumpA pb 256 (z0.in_ 256 f.side inn)::qi 5 1 q inn.length m (inn.map qd)::F)) w:=zb h;clear h;generalize z0.in_ 256 f.side inn=z1 at a j;unfold Bk.relayB at j;obtain⟨D,z⟩:∃D,D=(e.N.ask f.conn 0 (λd=>(d.inb.length:Int))==0):=⟨_,rfl⟩;obtain⟨H,u⟩:∃H,H=e.N.ask f.conn A4 λd=>d.ended:=⟨_,rfl⟩;rw[<-z,<-u]at j;refine⟨λvs w=>vs=[Zb ((D&&H)&&z1.hears f.side)]/\St W (qzi ro (qs2 sn e.N e.S) (q8a pl e.pumps i pb) c x p sn e (Row qf 127 (qs pl sbf f)::Row qt 127 (qs pl sbt t)::Ri.PumpA pb 256 (if(D&&H)=Ae then z1.end_ f.side else z1)::qi 5 1 q inn.length m (inn.map qd)::F)) w,?_,λended w X=>?_⟩
 .refine⟨StC W _,zd a,z7 (z7 ⟨_,zo 0 ir rfl rfl,_,zi 12 ir rfl rfl,?_⟩)⟩;refine z04 7 ir rfl (λG w h=>Cn.Came_spec (id:=f.conn) h) (λ_ _ h=>⟨_,rfl,h⟩) ⟨_,rfl,trivial,?_⟩;rw[<-z];refine za (λA=>z7 (z7 ⟨_,zo 0 ir rfl rfl,_,zi 12 ir rfl rfl,?_⟩)) λA=>λG w h=>?_
  .refine z04 7 ir rfl (λG w h=>Cn.Ended_spec (id:=f.conn) h) (λ_ _ h=>⟨_,rfl,h⟩) ⟨_,rfl,trivial,?_⟩;rw[<-u];refine za (λr=>z7 (z7 ⟨_,zo 12 ir rfl (l _ rfl),_,zi 12 ir rfl rfl,?_⟩)) λr=>λG w h=>?_
   .refine z04 14 ir rfl (λG w h=>Ri.PEnd_spec f.side h) (λ_ _ h=>⟨_,rfl,h⟩) ⟨_,rfl,trivial,λG w h=>?_⟩;rw[A,r];exact⟨rfl,zb h⟩
   .rw[A,r];exact⟨rfl,zb h⟩
  .rw[A];exact⟨rfl,zb h⟩
 clear a;obtain⟨U,a⟩:=X;cases U;clear z u;unfold Bk.relayC at j;generalize (D&&H)=zz at a j⊢;generalize (if zz=Ae then z1.end_ f.side else z1)=z2 at a j;generalize (zz&&z1.hears f.side)=ended at j⊢;refine⟨StC W _,zd a,z7 (z7 (z7 (z7 ⟨_,zo 12 ir rfl (l _ rfl),_,zi 13 ir rfl rfl,_,zo 0 ir rfl rfl,_,zi 13 ir rfl rfl,?_⟩)))⟩;refine z04 7 ir rfl (λG w h=>Cn.Room_spec (id:=t.conn) h) (λ_ _ h=>⟨_,rfl,h⟩) ⟨_,rfl,⟨zi 13 ir rfl rfl,zo 12 ir rfl (l _ rfl)⟩,?_⟩;have O:(e.N.ask t.conn 0 λd=>((1024 - d.out.length:Nat):Int))<=1024:=by
  unfold Cn.CT.ask;split;.decide
  .dsimp only;omega
 generalize (e.N.ask t.conn 0 λd=>((1024 - d.out.length:Nat):Int))=k at O j⊢;have P:=qyx z2 t.side k;unfold Bk.relayD at j;refine Ef.sl 14 ir rfl (λG w h=>Ri.POut_spec t.side k h) (λ_ _ _ _ h=>⟨_,_,_,_,rfl,h⟩) λJ L=>⟨_,_,_,_,rfl,trivial,λG w h=>?_⟩;have a:St W (qzi ro (qs2 sn e.N e.S) (q8a pl e.pumps i pb) c x p sn e (Row qf 127 (qs pl sbf f)::Row qt 127 (qs pl sbt t)::Ri.PumpA pb 256 (z2.out t.side k)::qi 5 1 q inn.length m (inn.map qd)::qi 5 1 J (z2.outB t.side k).length L ((z2.outB t.side k).map qd)::F)) w:=z0v 16 (zb h);clear h;generalize z2.outB t.side k=o at a j P⊢;generalize z2.outE t.side k=en at j⊢;generalize z2.out t.side k=z3 at a j;have I:=(qi.le (a.at 16 rfl)).2;refine⟨StC W _,zd a,z7 (z7 ⟨_,zo 0 ir rfl rfl,_,zi 13 ir rfl rfl,?_⟩)⟩;refine z04 7 ir rfl (λG w h=>Cn.Say_spec (id:=t.conn) (xs:=o) (z06 15 rfl λF=>z0j F) I h) (λ_ _ h=>⟨_,rfl,h⟩) ⟨_,rfl,trivial,λG w h=>?_⟩;have a:=z12 10 (zb h) rfl (z1f λh=>qb3.upd h t.conn (g:=Cn.gSay o) λd=>by unfold Cn.gSay;split<;>rfl);clear h;have a:=qa5.give (zf 12 1 (zf 14 0 a rfl) rfl);have a:St W (qy1 ro c x p pl sn { e.upd t.conn (Cn.gSay o)with pumps:=e.pumps.set i z3} (Row qf 127 (qs pl sbf f)::Row qt 127 (qs pl sbt t)::qi 5 1 q inn.length m (inn.map qd)::qi 5 1 J o.length L (o.map qd)::F)) w:=zf 0 11 a rfl;unfold Bk.relayE at j;simp only[Ai,Prod.mk.injEq]at j;obtain⟨B,E,C⟩:=j;rw[<-B,<-E,<-C];clear B E C;refine⟨λ_ w=>St W (qy1 ro c x p pl sn { e.upd t.conn (Cn.gSay o)with pumps:=e.pumps.set i z3} (Row qf 127 (qs pl sbf f)::Row qt 127 (qs pl sbt { t with due:=t.due||en})::qi 5 1 q inn.length m (inn.map qd)::qi 5 1 J o.length L (o.map qd)::F)) w,?_,λw a=>?_⟩;.exact z7 (zx 13 a rfl rfl (za (λh=>z7 (St1.zz 13 a rfl λw a=>(by dsimp only;rw[h];exact a))) λh=>z7 (St1.zz 13 a rfl λw a=>(by dsimp only;rw[h];exact a))))
 rw[w64 (n:=(inn.length:Int)+(o.length:Int)) (by omega) (by omega)];generalize decide ((inn.length:Int)+(o.length:Int)>0)=V;refine⟨λ_ w=>St W (qy1 ro c x p pl sn { e.upd t.conn (Cn.gSay o)with pumps:=e.pumps.set i z3,K:=if V=Ae then q5c e.K c.idle [f.conn,t.conn]else e.K} (Row qf 127 (qs pl sbf f)::Row qt 127 (qs pl sbt { t with due:=t.due||en})::qi 5 1 q inn.length m (inn.map qd)::qi 5 1 J o.length L (o.map qd)::F)) w,za (λR=>?_) λR=>?_,λw a=>?_⟩
 .refine⟨StC W _,zd a,z7 (z7 (z7 ⟨_,zi 0 ir rfl rfl,_,zi 12 ir rfl rfl,_,zi 13 ir rfl rfl,λb=>?_⟩))⟩;refine Ef.alarm [f.conn,t.conn] (by simp) ir ⟨rfl,trivial,λG w h=>?_⟩;dsimp only;rw[yB R];exact zb h
 .dsimp only;rw[yA (by rw[R];simp)];exact a
 .exact za (λh=>⟨by rw[h];rfl,(a.del 14 rfl).del 14 rfl⟩) λh=>za (λr=>⟨by rw[h,r];rfl,(a.del 14 rfl).del 14 rfl⟩) λr=>⟨by rw[h,r];rfl,(a.del 14 rfl).del 14 rfl⟩
end
end
section
section
variable{κ δ:Type}[DecidableEq κ]{P:Program}{kt et mt:TypeId}{enc:κ->Value}{m b b2:Nat}{A:Nat->δ->Asn}{L:List (κ×δ)}{k j:κ}{W w:World}{F l:List Asn}
def qe4(enc:κ->Ad)(m:Nat)(A:Nat->δ->Asn)(L:List (κ×δ))(k:κ)(b:Nat)(j:κ)(b2:Nat):Asn:=exA λbs:List (κ×Nat×δ)=>qz [prA (qx (Au (α:=Nat) (β:=δ)) bs=L/\(∃d,qe bs k=A0 (b,d))/\∃d,qe bs j=A0 (b2,d)),qg enc qc m (qx (Ah (α:=Nat) (β:=δ)) bs),qz ((qp (qp bs k) j).map λy=>A y.2.1 y.2.2)]
def qgn{α:Type}(L:List (κ×α)){j k:κ}(h:j≠k):qe (qp L k) j=qe L j:=by
 induction L with
 |nil=>rfl
 |cons x r b=>
  by_cases a:x.1=k
  .have w:¬x.1=j:=λe=>h (e ▸ a);simp only[qp,yB a,qe,yA w]
  .by_cases w:x.1=j;.simp only[qp,yA a,qe,yB w]
   .simp only[qp,yA a,qe,yA w,b]
def qw.take{d:δ}(e:j≠k)(f:qe L j=A0 d)(h:St W (qw enc m A L k b::F) w):∃b2,St W (A b2 d::qe4 enc m A L k b j b2::F) w:=by
 obtain⟨bs,⟨p,d0,o⟩,n⟩:=qw.open_ h;subst p;rw[q62]at f;obtain⟨⟨b2,c⟩,a,rfl⟩:=Option.map_eq_some_iff.1 f;refine⟨b2,?_⟩;have i:qe (qp bs k) j=A0 (b2,c):=by rw[qgn _ e];exact a
 have q:=qf5 ((Go.Proofs.YtfjifcfbmhpcaaaGreatDoor.aget_perm i).map λy:κ×Nat×δ=>A y.2.1 y.2.2) n.p1;have g:St W (qg enc qc m (qx (Ah (α:=Nat) (β:=δ)) bs)::qz ((qp (qp bs k) j).map λy=>A y.2.1 y.2.2)::A b2 c::F) w:=zf 1 2 (zf 2 0 q rfl) rfl;exact(z00 bs (zj (l:=[_,_,_]) (z01 ⟨rfl,⟨d0,o⟩,c,a⟩ g))).p1
def qe4.give{d:δ}(a:j≠k)(h:St W (A b2 d::qe4 enc m A L k b j b2::F) w):St W (qw enc m A (qk L j d) k b::F) w:=by
 obtain⟨bs,f⟩:=h.p1.of_ex;obtain⟨⟨n,⟨d0,i⟩,p,c⟩,o⟩:=f.of_sep.of_pr;clear h f;subst n;have h:St W (qg enc qc m (qx (Ah (α:=Nat) (β:=δ)) bs)::qz ((qp (qp bs k) j).map λy=>A y.2.1 y.2.2)::A b2 d::F) w:=o;refine qw.shut (qk bs j (b2,d)) ⟨(qt2 (Au (α:=Nat) (β:=δ)) bs j (b2,d)).symm,d0,by rw[qh2,yA a];exact i⟩ ?_;have e:qx (Ah (α:=Nat) (β:=δ)) (qk bs j (b2,d))=qx (Ah (α:=Nat) (β:=δ)) bs:=by rw[<-qt2];exact qt1 (by rw[q62,c];rfl)
 rw[e,q4f _ a];have g:St W (A b2 d::qz ((qp (qp bs k) j).map λy=>A y.2.1 y.2.2)::qg enc qc m (qx (Ah (α:=Nat) (β:=δ)) bs)::F) w:=zf 1 2 (zf 2 0 h rfl) rfl;refine(q95 (l:=(qk (qp bs k) j (b2,d)).map λy=>A y.2.1 y.2.2) ?_ g).p1;have:=(Go.Proofs.YtfjifcfbmhpcaaaGreatDoor.aget_perm (qj1 (qp bs k) j (b2,d))).map λy:κ×Nat×δ=>A y.2.1 y.2.2;rw[adel_aset]at this;exact this.symm
def qe4.one_i(d:qw2 P kt enc)(e:P.underlying mt=A0 (.map kt et)){a:TypeInfo}(f:P.info? et=A0 a)(q:a.zero=A0 (Zq Aa)){K:Ad->Ac->Prop}(n:Nat)(c:St W l w)(i:nth l n=A0 (qe4 enc m A L k b j b2))
 (o:K (qc b) w):Run P (Instr.lookup mt (.map (A0 m)) (enc k) A4) w K:=by
 obtain⟨bs,h⟩:=(c.at n i).of_ex;obtain⟨⟨s,⟨d0,p⟩,r,g⟩,h⟩:=h.of_sep.of_pr;refine qq1 d e f q 0 h rfl k A4 ?_;rw[q62,p];exact o
def qe4.two_i(e:qw2 P kt enc)(f:P.underlying mt=A0 (.map kt et)){a:TypeInfo}(g:P.info? et=A0 a)(p:a.zero=A0 (Zq Aa)){K:Ad->Ac->Prop}(n:Nat)(d:St W l w)(i:nth l n=A0 (qe4 enc m A L k b j b2))
 (o:K (qc b2) w):Run P (Instr.lookup mt (.map (A0 m)) (enc j) A4) w K:=by
 obtain⟨bs,h⟩:=(d.at n i).of_ex;obtain⟨⟨s,⟨d0,r⟩,q,c⟩,h⟩:=h.of_sep.of_pr;refine qq1 e f g p 0 h rfl j A4 ?_;rw[q62,c];exact o
end
section
variable{W w:World}{F l:List Asn}{ro:Asn}{c:qy}{x m2 q:Nat}{p:qm3}{pl:List Nat}{sn sb:Option Nat}{s s':Bk}{id:Int}{r:q31}{res:Bool}
def q0s(a:St W (qy1 ro c x p pl (A0 m2) s (Row q 127 (qs pl sb r)::F)) w):
 qb Zp 84 #[qc x,qc q] w λv w'=>v=Zb (decide (((s.N.ask r.conn [] Cn.rFlush).length:Int)>0)||s.flushE r)/\St W (qy1 ro c x p pl (A0 m2) (s.flushS r (s.flushE r)) (Row q 127 (qs pl sb (Bk.flushR r (s.flushE r)))::F)) w':=by
 have d:=TabA.keys (zf 7 0 a rfl);obtain⟨c1,n,j⟩:=(qs2.cr 10 a rfl).flush d r.conn;refine F84_of ⟨StC W _,zd a,z7 (z7 ⟨_,zo 0 ir rfl rfl,_,zi 12 ir rfl rfl,?_⟩)⟩;refine Ef.sl 7 ir rfl (λG w h=>Cn.Flush_spec (id:=r.conn) h) (λ_ _ _ _ h=>⟨_,_,_,rfl,h⟩) λg f=>⟨_,_,_,rfl,trivial,λG w h=>?_⟩;have a:=z12 10 (z0v 13 (zb h)) rfl (z1f λ_=>c1);clear h;unfold Bk.flushS;have a:St W (qy1 ro c x p pl (A0 m2) (s.upd r.conn Cn.gFlush) (Row q 127 (qs pl sb r)::qi 5 1 g (s.N.ask r.conn [] Cn.rFlush).length f ((s.N.ask r.conn [] Cn.rFlush).map qd)::F)) w:=a;obtain⟨en,b⟩:∃en,en=s.flushE r:=⟨_,rfl⟩;rw[<-b];refine⟨λvs w=>vs=[Zb en]/\St W (qy1 ro c x p pl (A0 m2) (s.upd r.conn Cn.gFlush) (Row q 127 (qs pl sb r)::qi 5 1 g (s.N.ask r.conn [] Cn.rFlush).length f ((s.N.ask r.conn [] Cn.rFlush).map qd)::F)) w,?_,λe w o=>?_⟩
 .refine⟨StC W _,zd a,z7 ⟨_,z0t 12 ir rfl rfl,za (λi=>z7 (z7 ⟨_,zo 0 ir rfl rfl,_,zi 12 ir rfl rfl,?_⟩)) λi=>λG w h=>?_⟩⟩
  .refine z04 7 ir rfl (λG w h=>Cn.Waits_spec (id:=r.conn) h) (λ_ _ h=>⟨_,rfl,h⟩) ⟨_,rfl,trivial,λG w h=>⟨?_,zb h⟩⟩;rw[b];unfold Bk.flushE;rw[i];rfl
  .refine⟨?_,zb h⟩;rw[b];unfold Bk.flushE;rw[i];rfl
 clear a;obtain⟨l,a⟩:=o;cases l;clear b;refine⟨λ_ w=>St W (qy1 ro c x p pl (A0 m2) (s.upd r.conn Cn.gFlush) (Row q 127 (qs pl sb (Bk.flushR r en))::qi 5 1 g (s.N.ask r.conn [] Cn.rFlush).length f ((s.N.ask r.conn [] Cn.rFlush).map qd)::F)) w,?_,λw a=>?_⟩
 .refine za (λh=>z7 (St1.zz 12 a rfl λw a=>z7 (St1.zz 12 a rfl λw a=>?_))) λh=>?_
  .dsimp only;unfold Bk.flushR;rw[yB h];exact a
  .dsimp only;unfold Bk.flushR;rw[yA (by rw[h];simp)];exact a
 have m:(Bk.flushR r en).conn=r.conn:=by unfold Bk.flushR;split<;>rfl
 refine z7 (z8 12 a rfl (rv0 m) ?_);refine(qkk (s:=s.upd r.conn Cn.gFlush) ((z0j _).cons _) n (j en A4) a).of λv w ⟨k,a⟩=>⟨k,za (λh=>⟨by rw[h];rfl,a.del 13 rfl⟩) λh=>⟨by rw[h];rfl,a.del 13 rfl⟩⟩
end
end
section
def qvh{c:qy}{s s':Bk}{f t w:q31}{a:Bool}(h:s.relay c f t=A0 (s',w,a)):s'.roles=s.roles/\w.pump=t.pump/\w.sh=t.sh/\w.said=t.said:=by
 unfold Bk.relay at h;split at h;.cases h
 .split at h;.cases h
  .simp only[Ai,Bk.relayA,Bk.relayB,Bk.relayC,Bk.relayD,Bk.relayE,Prod.mk.injEq]at h;obtain⟨rfl,rfl,_⟩:=h;exact⟨rfl,rfl,rfl,rfl⟩
def qxn(r:q31)(en:Bool):(Bk.flushR r en).pump=r.pump/\(Bk.flushR r en).sh=r.sh:=by unfold Bk.flushR;split<;>exact⟨rfl,rfl⟩
section
variable{W w:World}{F l:List Asn}{c:qy}{x m2 q q2:Nat}{p:qm3}{pl:List Nat}{sn sb sb2:Option Nat}{s s':Bk}{id j:Int}{d d2:q31}{res:Bool}
def brk.take2(b:j≠id)(k:qe s.roles id=A0 d)(a:qe s.roles j=A0 d2)(h:St W (brk c x p pl sn s F) w):∃q q2 sb sb2,(∀i,d.pump=A0 i->i<pl.length)/\(∀i,d2.pump=A0 i->i<pl.length)/\
 St W (qy1 (qe4 (Zi Zk) p.m (qo2 p.v pl) s.roles id q j q2) c x p pl sn s (Row q 127 (qs pl sb d)::Row q2 127 (qs pl sb2 d2)::q02 p.v sb d.sh::q02 p.v sb2 d2.sh::F)) w:=by
 obtain⟨q,n⟩:=z15 k (zf 9 0 h rfl);obtain⟨q2,f⟩:=qw.take b a n.p1;obtain⟨sb2,e,g⟩:=qo2.open_ f;obtain⟨sb,m,l⟩:=qo2.open_ (zf 3 0 g rfl);exact⟨q,q2,sb,sb2,m,e,zl 16 [5,6,7,8,9,10,11,12,13,4,14,15,0,2,1,3] l rfl⟩
def brk.give2{L:List (Int×q31)}(a:j≠id)(g:∀i,d.pump=A0 i->i<pl.length)(b:∀i,d2.pump=A0 i->i<pl.length)(f:s.roles=L)
 (h:St W (qy1 (qe4 (Zi Zk) p.m (qo2 p.v pl) L id q j q2) c x p pl sn s (Row q 127 (qs pl sb d)::Row q2 127 (qs pl sb2 d2)::q02 p.v sb d.sh::q02 p.v sb2 d2.sh::F)) w):St W (brk c x p pl sn ((s.put j d2).put id d) F) w:=by
 subst f;have k:=qo2.shut sb g (zl 16 [12,14,13,15,9,0,1,2,3,4,5,6,7,8,10,11] h rfl);have e:=qe4.give a (qo2.shut sb2 b (zf 0 3 k rfl));exact zf 0 9 (z0o e.p1) rfl
set_option maxHeartbeats 2000000 in
def round_spec(m:s.round c=A0 (s',res))(d:St W (brk c x p pl (A0 m2) s F) w):qb Zp 46 #[qc x] w λv w'=>v=Zb res/\St W (brk c x p pl (A0 m2) s' F) w':=by
 unfold Bk.round at m;by_cases M:1000000<s.P.ends.length;.rw[yB M]at m;cases m
 rw[yA M]at m;cases i:qw1 (Bk.relays c) (s,A4) (qtc s.P)with
 |none=>rw[i]at m;cases m
 |some st1=>
 rw[i]at m;dsimp only at m;by_cases Z:1000000<st1.1.N.L.length;.rw[yB Z]at m;cases m
 rw[yA Z]at m;cases l:qw1 Bk.flushes st1 st1.1.ids with
 |none=>rw[l]at m;cases m
 |some st2=>
 rw[l]at m;dsimp only at m;refine F46_of (z7 (z0k 0 d rfl rfl ((qfk (by omega) (d.at 6 rfl)).of λv w ⟨H,E,t,d⟩=>⟨_,_,_,t,?_⟩)));have d:St W (brk c x p pl (A0 m2) s (SlA 122 2 (q52 (qb4 s.P)) H E (qw4 s.P)::F)) w:=z0v 12 (zf 1 7 d rfl);have h4:(qw4 s.P).length<=1000000:=by unfold qw4;rw[(qv1 leI _).length_eq,A5];exact As (Af _ _) (by omega)
 unfold qtc at i m;generalize qw4 s.P=vis at d h4 i m⊢;generalize qb4 s.P=e at d i m;refine qt3 (λn vs w=>∃(k:Nat) (st:Bk×Bool),k+n=vis.length/\vs=[Zb st.2,Zi Zk (k:Int)]/\qw1 (Bk.relays c) st ((vis.drop k).map λv=>(v,e v))=A0 st1/\St W (brk c x p pl (A0 m2) st.1 (SlA 122 2 (q52 e) H E vis::F)) w) λμ L R=>⟨⟨vis.length,0,(s,A4),by omega,rfl,i,d⟩,λa0 j w X=>?_⟩;clear d i;obtain⟨k,st,Y,M,i,d⟩:=R _ _ X;generalize μ _ _=n at Y⊢;cases M;refine za (λh=>?_) λh=>?_
 .have o:k<vis.length:=by have:=yC h;omega
  have O:=A1 o;rw[A9 o,Aq]at i;generalize vis[k]=y at i O;unfold qw1 at i;cases hr:Bk.relays c st (y,e y)with
  |none=>rw[hr]at i;cases i
  |some B=>
  rw[hr]at i;dsimp only at i;unfold Bk.relays at hr;dsimp only at hr;by_cases z:y=e y;.rw[yB z]at hr;cases hr
  rw[yA z]at hr;cases t:qe st.1.roles y with
  |none=>rw[t]at hr;cases hr
  |some rv=>
  cases A:qe st.1.roles (e y)with
  |none=>rw[t,A]at hr;cases hr
  |some rk=>
  rw[t,A]at hr;dsimp only at hr;cases hr1:st.1.relay c rv rk with
  |none=>rw[hr1]at hr;cases hr
  |some t1=>
  obtain⟨s2,U,a⟩:=t1;rw[hr1]at hr;dsimp only at hr;cases hr2:s2.relay c U rv with
  |none=>rw[hr2]at hr;cases hr
  |some t2=>
  obtain⟨s3,h0,b⟩:=t2;rw[hr2]at hr;dsimp only at hr;have g:=A2 hr;clear hr;obtain⟨k1,k2,k3,_⟩:=qvh hr1;obtain⟨k4,k5,k6,_⟩:=qvh hr2;obtain⟨q,q2,sb,sb2,Q,P,d⟩:=brk.take2 (Ne.symm z) t A d;refine z0e (qc9 e) (by decide) (z06 16 rfl λF=>z0g F) d rfl o O λad N=>zt (N 0 _ rfl) (zt (N 1 _ rfl) (z08 16 d λK w d=>St1.zz 16 d rfl λw d=>St1.zz 16 d rfl λw d=>?_));refine⟨StC W _,zd d,z7 (z7 ⟨_,z0a 0 ir rfl rfl,_,zi 16 ir rfl rfl,A0 ⟨q,0,Aa⟩,(λG w C=>qe4.one_i kI uMr iPr zPr 9 C rfl ⟨_,rfl,rfl,C⟩),_,z0a 0 ir rfl rfl,_,zi 16 ir rfl rfl,A0 ⟨q2,0,Aa⟩,(λG w C=>qe4.two_i kI uMr iPr zPr 9 C rfl ⟨_,rfl,rfl,C⟩),λG w h=>?_⟩)⟩;have d:St W (qy1 (qe4 (Zi Zk) p.m (qo2 p.v pl) st.1.roles y q (e y) q2) c x p pl (A0 m2) st.1 (Row q 127 (qs pl sb rv)::Row q2 127 (qs pl sb2 rk)::q02 p.v sb rv.sh::q02 p.v sb2 rk.sh::Row K 122 [Zi Zk y,Zi Zk (e y)]::SlA 122 2 (q52 e) H E vis::F)) w:=zb h;refine⟨λvs w=>vs=[Zb (a||st.2)]/\St W (qy1 (qe4 (Zi Zk) p.m (qo2 p.v pl) st.1.roles y q (e y) q2) c x p pl (A0 m2) s2 (Row q 127 (qs pl sb rv)::Row q2 127 (qs pl sb2 U)::q02 p.v sb rv.sh::q02 p.v sb2 rk.sh::Row K 122 [Zi Zk y,Zi Zk (e y)]::SlA 122 2 (q52 e) H E vis::F)) w,?_,λa1 w hJ=>?_⟩;.exact(qoh P hr1 d).of λv w ⟨t,d⟩=>⟨_,t,za (λh=>⟨by rw[h];rfl,d⟩) λh=>⟨by rw[h];rfl,d⟩⟩
  clear d h;obtain⟨M,d⟩:=hJ;cases M;refine(qoh Q hr2 (zf 12 13 d rfl)).of λv w ⟨t,d⟩=>⟨_,t,?_⟩;have d:St W (qy1 (qe4 (Zi Zk) p.m (qo2 p.v pl) st.1.roles y q (e y) q2) c x p pl (A0 m2) s3 (Row q 127 (qs pl sb h0)::Row q2 127 (qs pl sb2 U)::q02 p.v sb rv.sh::q02 p.v sb2 rk.sh::SlA 122 2 (q52 e) H E vis::F)) w:=(zf 13 12 d rfl |> λh=>z03 16 h rfl);rw[<-k6,<-k3]at d;have d:=brk.give2 (Ne.symm z) (by rw[k5];exact Q) (by rw[k2];exact P) (k4.trans k1) d;have f:∃(J:Nat) (u:Bk×Bool),J+(n - 1)=vis.length/\[Zb (b||(a||st.2)),Zi Zk (Zw Zk ((k:Int)+1))]=[Zb u.2,Zi Zk (J:Int)]/\qw1 (Bk.relays c) u ((vis.drop J).map λv=>(v,e v))=A0 st1/\St W (brk c x p pl (A0 m2) u.1 (SlA 122 2 (q52 e) H E vis::F)) w:=⟨k+1,B,by omega,by rw[up o (by omega),<-g],i,by rw[<-g];exact d⟩;exact za (λh=>⟨⟨_,by rw[h]at f;exact f⟩,A3 (L _ _ _ (by rw[h]at f;exact f)) (by omega)⟩) λh=>⟨⟨_,by rw[h]at f;exact f⟩,A3 (L _ _ _ (by rw[h]at f;exact f)) (by omega)⟩
 have I:k=vis.length:=by have:=yD h;omega
 rw[I,Ab]at i;have g:st=st1:=A2 i;subst g;clear i h L R X;refine z7 (z0k 0 d rfl rfl ((Cn.All_spec (by omega) (d.at 7 rfl)).of λv w ⟨V,T,t,d⟩=>⟨_,_,_,t,?_⟩));have h3:st.1.ids.length=st.1.N.L.length:=by unfold Bk.ids;rw[(qv1 leI _).length_eq,A5]
 rw[<-h3]at d Z⊢;have d:St W (brk c x p pl (A0 m2) st.1 (qi 3 1 V st.1.ids.length T (st.1.ids.map (Zi Zk))::SlA 122 2 (q52 e) H E vis::F)) w:=z0v 12 (zf 1 8 d rfl);generalize st.1.ids=ids at d l Z⊢;refine qt3 (λn vs w=>∃(k:Nat) (st:Bk×Bool),k+n=ids.length/\vs=[Zb st.2,Zi Zk (k:Int)]/\qw1 Bk.flushes st (ids.drop k)=A0 st2/\St W (brk c x p pl (A0 m2) st.1 (qi 3 1 V ids.length T (ids.map (Zi Zk))::SlA 122 2 (q52 e) H E vis::F)) w) λμ L R=>⟨⟨ids.length,0,st,by omega,rfl,l,d⟩,λa0 j w X=>?_⟩;clear d l;obtain⟨k,st,Y,M,l,d⟩:=R _ _ X;generalize μ _ _=n at Y⊢;cases M;refine za (λh=>?_) λh=>?_
 .have o:k<ids.length:=by have:=yC h;omega
  have O:=A1 o;rw[A9 o]at l;generalize ids[k]=y at l O;unfold qw1 at l;cases hr:Bk.flushes st y with
  |none=>rw[hr]at l;cases l
  |some B=>
  rw[hr]at l;dsimp only at l;unfold Bk.flushes Bk.flush at hr;cases t:qe st.1.roles y with
  |none=>rw[t]at hr;cases hr
  |some r=>
  rw[t]at hr;have g:=A2 hr;clear hr;obtain⟨kp,ks⟩:=qxn r (st.1.flushE r);obtain⟨q,sb,Q,d⟩:=brk.open_ t d;refine z0l (z06 14 rfl λF=>z0j F) d rfl o (v:=Zi Zk y) (by rw[A7,O];rfl) λad N=>zt N (z7 (zv 0 d rfl rfl (z0i kI uMr iPr zPr 9 d rfl A4 ?_)));rw[yA (by simp)];refine⟨_,rfl,(q0s d).of λv w ⟨t,d⟩=>⟨_,t,?_⟩⟩;rw[<-ks]at d;have d:=brk.set (s:=st.1.flushS r (st.1.flushE r)) (by rw[kp];exact Q) d;have f:∃(J:Nat) (u:Bk×Bool),J+(n - 1)=ids.length/\[Zb ((decide (((st.1.N.ask r.conn [] Cn.rFlush).length:Int)>0)||st.1.flushE r)||st.2),Zi Zk (Zw Zk ((k:Int)+1))]=[Zb u.2,Zi Zk (J:Int)]/\qw1 Bk.flushes u (ids.drop J)=A0 st2/\St W (brk c x p pl (A0 m2) u.1 (qi 3 1 V ids.length T (ids.map (Zi Zk))::SlA 122 2 (q52 e) H E vis::F)) w:=⟨k+1,B,by omega,by rw[up o (by omega),<-g],l,by rw[<-g];exact d⟩;generalize (decide (((st.1.N.ask r.conn [] Cn.rFlush).length:Int)>0)||st.1.flushE r)=b at f⊢;exact za (λh=>⟨⟨_,by rw[h]at f;exact f⟩,A3 (L _ _ _ (by rw[h]at f;exact f)) (by omega)⟩) λh=>⟨⟨_,by rw[h]at f;exact f⟩,A3 (L _ _ _ (by rw[h]at f;exact f)) (by omega)⟩
 have I:k=ids.length:=by have:=yD h;omega
 rw[I,Ab]at l;have g:st=st2:=A2 l;subst g;clear l h L R X;have d:=d.del 12 rfl;refine qt3 (λn vs w=>∃(k:Nat) (st:Bk×Bool),k+n=vis.length/\vs=[Zb st.2,Zi Zk (k:Int)]/\qw1 Bk.ends st ((vis.drop k).map λv=>(v,e v))=A0 (s',res)/\St W (brk c x p pl (A0 m2) st.1 (SlA 122 2 (q52 e) H E vis::F)) w) λμ L R=>⟨⟨vis.length,0,st,by omega,rfl,m,d⟩,λa0 j w X=>?_⟩;clear d m;obtain⟨k,st,Y,M,m,d⟩:=R _ _ X;generalize μ _ _=n at Y⊢;cases M;refine za (λh=>?_) λh=>?_
 .have o:k<vis.length:=by have:=yC h;omega
  have O:=A1 o;rw[A9 o,Aq]at m;generalize vis[k]=y at m O;unfold qw1 at m;cases hr:Bk.ends st (y,e y)with
  |none=>rw[hr]at m;cases m
  |some B=>
  rw[hr]at m;dsimp only at m;unfold Bk.ends at hr;dsimp only at hr;by_cases z:y=e y;.rw[yB z]at hr;cases hr
  rw[yA z]at hr;cases t:qe st.1.roles y with
  |none=>rw[t]at hr;cases hr
  |some rv=>
  rw[t]at hr;dsimp only at hr;have back:∀(w:Ac),St W (brk c x p pl (A0 m2) B.1 (SlA 122 2 (q52 e) H E vis::F)) w->∃(J:Nat) (u:Bk×Bool),J+(n - 1)=vis.length/\[Zb B.2,Zi Zk (Zw Zk ((k:Int)+1))]=[Zb u.2,Zi Zk (J:Int)]/\qw1 Bk.ends u ((vis.drop J).map λv=>(v,e v))=A0 (s',res)/\St W (brk c x p pl (A0 m2) u.1 (SlA 122 2 (q52 e) H E vis::F)) w:=λw d=>⟨k+1,B,by omega,by rw[up o (by omega)],m,d⟩;by_cases D:rv.said=A4
  .rw[yB D]at hr;have g:=A2 hr;obtain⟨q,sb,Q,d⟩:=brk.open_ t d;refine z0e (qc9 e) (by decide) (z06 14 rfl λF=>z0g F) d rfl o O λad N=>zt (N 0 _ rfl) (zt (N 1 _ rfl) (z08 14 d λK w d=>St1.zz 14 d rfl λw d=>St1.zz 14 d rfl λw d=>?_));refine⟨StC W _,zd d,z7 ⟨_,z0a 0 ir rfl rfl,_,zi 14 ir rfl rfl,A0 ⟨q,0,Aa⟩,(λG w C=>z0i kI uMr iPr zPr 9 C rfl A4 (by rw[yA (by simp)];exact⟨_,rfl,rfl,C⟩)),z7 ⟨_,z0t 12 ir rfl rfl,zm D λG w h=>?_⟩⟩⟩;have d:=(z07 Q t (z03 14 (zb h) rfl));have f:=back w (by rw[<-g];exact d);rw[<-g]at f;exact⟨⟨_,f⟩,A3 (L _ _ _ f) (by omega)⟩
  have D:rv.said=Ae:=by simpa using D
  rw[yA (by rw[D];simp)]at hr;cases A:qe st.1.roles (e y)with
  |none=>rw[A]at hr;cases hr
  |some rk=>
  rw[A]at hr;dsimp only at hr;obtain⟨q,q2,sb,sb2,Q,P,d⟩:=brk.take2 (Ne.symm z) t A d;refine z0e (qc9 e) (by decide) (z06 16 rfl λF=>z0g F) d rfl o O λad N=>zt (N 0 _ rfl) (zt (N 1 _ rfl) (z08 16 d λK w d=>St1.zz 16 d rfl λw d=>St1.zz 16 d rfl λw d=>?_));refine⟨StC W _,zd d,z7 ⟨_,z0a 0 ir rfl rfl,_,zi 16 ir rfl rfl,A0 ⟨q,0,Aa⟩,(λG w C=>qe4.one_i kI uMr iPr zPr 9 C rfl ⟨_,rfl,rfl,C⟩),z7 ⟨_,z0t 12 ir rfl rfl,zn D (z7 ⟨_,z0a 0 ir rfl rfl,_,zi 16 ir rfl rfl,A0 ⟨q2,0,Aa⟩,(λG w C=>qe4.two_i kI uMr iPr zPr 9 C rfl ⟨_,rfl,rfl,C⟩),z7 ⟨_,z0t 13 ir rfl rfl,λG w h=>?_⟩⟩)⟩⟩⟩;have d:St W (qy1 (qe4 (Zi Zk) p.m (qo2 p.v pl) st.1.roles y q (e y) q2) c x p pl (A0 m2) st.1 (Row q 127 (qs pl sb rv)::Row q2 127 (qs pl sb2 rk)::q02 p.v sb rv.sh::q02 p.v sb2 rk.sh::Row K 122 [Zi Zk y,Zi Zk (e y)]::SlA 122 2 (q52 e) H E vis::F)) w:=zb h;have d:=brk.give2 (Ne.symm z) Q P rfl d;rw[qah A,qah t]at d;refine za (λh=>?_) λh=>?_
  .rw[yB h]at hr;have g:=A2 hr;refine z8 12 d rfl rfl ((q9a d).of λv w ⟨t,d⟩=>⟨t,?_⟩);have f:=back w (by rw[<-g];exact d.del 12 rfl);rw[<-g]at f;exact⟨⟨_,f⟩,A3 (L _ _ _ f) (by omega)⟩
  .rw[yA (by rw[h];simp)]at hr;have g:=A2 hr;have f:=back w (by rw[<-g];exact d.del 12 rfl);rw[<-g]at f;exact⟨⟨_,f⟩,A3 (L _ _ _ f) (by omega)⟩
 have I:k=vis.length:=by have:=yD h;omega
 rw[I,Ab]at m;have g:=A2 m;subst g;exact⟨rfl,d.del 12 rfl⟩
end
end
section
def evV(e:EvD):List Ad:=[Zi Zk e.kind,Zi Zk e.conn,Zi .u32 e.addr,Zs e.b,Zi Zk e.n,Zs e.name,Zs e.token,Zs e.draw]
abbrev evR(b:Nat)(e:EvD):Asn:=Row b 36 (evV e)
abbrev qb1(o:Nat)(err conn took:Int):Asn:=Row o 32 [Zi Zk err,Zi Zk conn,Zi Zk took,Zl Aa 0 0]
def qb3.open_{N:Cn.CT}{S:List (Int×q81)}(h:qb3 N S)(addr:Int):qb3 (Cn.openT N addr).1 S:=by
 unfold Cn.openT;split;.exact h
 .refine⟨h.1,λy w=>?_⟩;rcases qh8 w with rfl|w
  .have:=h.1 (Zw Zk (N.last+1));exact⟨by simp,by simp only;omega⟩
  .exact h.2 y w
section
variable{W w:World}{F l:List Asn}{c:qy}{x m2 o:Nat}{p:qm3}{pl:List Nat}{s s':Bk}{e:EvD}{bad conn took:Int}{n:Nat}
def qpl(l:e.kind=1)(d:s.act c n e=A0 (s',bad,conn,took))(a:St W (brk c x p pl (A0 m2) s (qb1 o 0 0 0::F)) w):
 qb Zp 73 #[qc x,Zg (evV e).toArray,qc o] w λv w'=>v=Zi Zk bad/\∃g,St W (brk c x p g (A0 m2) s' (qb1 o 0 conn took::F)) w':=by
 unfold Bk.act at d;rw[yB l]at d;refine F73_of (z08 13 a λb w a=>⟨StC W _,zd a,z7 ⟨_,zo 0 ir rfl rfl,_,zi 13 ir rfl rfl,?_⟩⟩);refine z04 7 ir rfl (λG w h=>Cn.Open_spec e.addr h) (λ_ _ h=>⟨_,_,rfl,h⟩) ⟨_,_,rfl,trivial,λG w h=>?_⟩;have a:=z12 10 (zb h) rfl (z1f λh=>h.open_ e.addr);clear h;have a:St W (brk c x p pl (A0 m2) { s with N:=(Cn.openT s.N e.addr).1} (qb1 o 0 0 0::evR b e::F)) w:=a;generalize Cn.openT s.N e.addr=op at a d⊢;obtain⟨N,id,t⟩:=op;dsimp only at a d⊢;refine za (λh=>?_) λh=>?_
 .rw[yB (by simpa using h)]at d;cases d;exact⟨rfl,pl,a.del 13 rfl⟩
 rw[yA (by simpa using h)]at d;generalize ({ s with N:=N}:Bk)=s1 at a d;cases d;refine⟨StC W _,zd a,z7 (z7 ⟨_,z0a 0 ir rfl rfl,_,zo 0 ir rfl rfl,?_⟩)⟩;refine zk (α:=Nat) (V:=λb=>qc b) (B:=λf=>qx2 p.v f ⟨0,e0,e0,e0,A4⟩::brk c x p pl (A0 m2) s1 (qb1 o 0 0 0::evR b e::F)) 0 ir (λG w h=>(q7r (vb:=p.v) h).of λv w ⟨f,j,h⟩=>⟨_,j,f,rfl,h⟩) λf=>⟨_,rfl,z0a 1 ir rfl rfl,λk=>?_⟩;refine zk (α:=Unit) (V:=λ_=>Zt #[]) (B:=λ_=>brk c x p pl (A0 m2) (s1.put conn (q9l conn)) (qb1 o 0 0 0::evR b e::F)) () (ir.push k _) (λG w h=>?_) λ_=>⟨rfl,trivial,λG w h=>?_⟩
 .have r:St W (qo2 p.v pl k (q9l conn)::(brk c x p pl (A0 m2) s1 (qb1 o 0 0 0::evR b e::F)++pts G)) w:=qo2.shut (A0 f) (λi m=>by cases m) (h.imp z0c);exact qr.set_i kI uMr 0 9 r rfl rfl λw h=>⟨(),rfl,h⟩
 have a:=zb h;refine z7 (z8 0 a rfl rfl (z08 12 a λq w a=>?_));have a:St W (brk c x p pl (A0 m2) (s1.put conn (q9l conn)) (Row q 3 ([conn].map (Zi Zk))::qb1 o 0 0 0::evR b e::F)) w:=a;refine(q7i (ids:=[conn]) (after:=c.wait) (z0z 0 λi v h=>by rw[Aj];exact h) (by simp) a).of λv w ⟨j,a⟩=>⟨j,z7 (St1.zz 13 a rfl λw a=>⟨rfl,pl,?_⟩)⟩;exact(z03 12 a rfl).del 13 rfl
def qqq(q:ql1 F c)(m:e.kind=2)(j:s.act c n e=A0 (s',bad,conn,took))(a:St W (brk c x p pl (A0 m2) s (qb1 o 0 0 0::F)) w):
 qb Zp 74 #[qc x,Zg (evV e).toArray,qc o] w λv w'=>v=Zi Zk bad/\∃f,St W (brk c x p f (A0 m2) s' (qb1 o 0 conn took::F)) w':=by
 unfold Bk.act at j;rw[yA (by omega),yB m]at j;cases hr:(s.upd e.conn (Cn.gFeed (qm e.b))).read c n e.conn e.draw with
 |none=>rw[hr]at j;cases j
 |some s1=>
 rw[hr]at j;cases j;have k:e.b=mkS (qm e.b):=(qd5 _).symm;refine F74_of (z08 13 a λb w a=>⟨StC W _,zd a,z7 ⟨_,zo 0 ir rfl rfl,_,zi 13 ir rfl rfl,_,zu 13 ir rfl rfl,?_⟩⟩);refine zk (α:=Nat×Nat) (V:=λy=>.slice (A0 ⟨y.1,0,Aa⟩) (qm e.b).length y.2) (B:=λy=>prA ((qm e.b).length<=y.2)::Row y.1 5 ((qm e.b).map qd++List.replicate (y.2 -(qm e.b).length) (Zi .u8 0))::brk c x p pl (A0 m2) s (qb1 o 0 0 0::evR b e::F)) (0,0) ir (λG w h=>?_) λy=>⟨_,_,_,rfl,⟨zi 15 ir rfl rfl,zo 2 ir rfl rfl⟩,?_⟩
 .rw[k];have z:(qm (mkS (qm e.b))).length=(qm e.b).length:=by rw[<-k]
  refine qcb uS uB uU8 h λt u w l h=>⟨_,_,_,rfl,(t,u),?_,?_⟩;.rw[<-k]
  .rw[<-k];exact z01 l h
 refine z04 (X:=Zi Zk (s.N.ask e.conn 0 (Cn.rFeed (qm e.b)))) (B:=Cn.TabA p.n (s.N.upd e.conn (Cn.gFeed (qm e.b)))) 9 ir rfl (λG w h=>?_) (λ_ _ h=>⟨_,rfl,h⟩) ⟨_,rfl,trivial,z7 ?_⟩;.exact Cn.Feed_spec (id:=e.conn) (xs:=qm e.b) (z06 1 rfl λF=>z0z 0 λi v h=>by rw[Aj,List.getElem?_append_left (A8.1 h).1];exact h) (St.of_pr (zf 1 0 h rfl)).1 h
 refine z0q 14 ir rfl (by simp) ⟨rfl,trivial,λG w h=>?_⟩;have a:=z12 10 (z0f [_,_] (zb h)) rfl (z1f λh=>qb3.upd h e.conn (g:=Cn.gFeed (qm e.b)) λd=>by unfold Cn.gFeed;split<;>rfl);refine z8 13 a rfl rfl (zg 13 a rfl rfl ?_);have a:St W (brk c x p pl (A0 m2) (s.upd e.conn (Cn.gFeed (qm e.b))) (qb1 o 0 0 (s.ask e.conn 0 (Cn.rFeed (qm e.b)))::evR b e::F)) w:=a;exact(qhk e.draw ((q.cons _).cons _) hr a).of λv w ⟨r,f,a⟩=>⟨r,rfl,f,a.del 13 rfl⟩
def qb3.budget{N:Cn.CT}(h:qb3 N [])(id n:Int):qb3 (N.upd id (Cn.gBudget n)) []:=by
 refine⟨h.1,λy w=>?_⟩;unfold Cn.CT.upd at w;split at w;.exact h.2 y w
 .rename_i d b;rcases qh8 w with rfl|w
  .have a:=h.2 _ (qg3 b);rw[qsf]at a⊢;simp only at a⊢;unfold Cn.gBudget;split;.exact a
   .rename_i e;have c:Zw Zk (d.credit+n)=d.credit+n:=w64;simp only;rw[c];split<;>omega
  .exact h.2 y w
def qwn(g:e.kind=3)(i:s.S=[])(f:s.act c n e=A0 (s',bad,conn,took))(a:St W (brk c x p pl (A0 m2) s (qb1 o 0 0 0::F)) w):
 qb Zp 75 #[qc x,Zg (evV e).toArray,qc o] w λv w'=>v=Zi Zk bad/\∃d,St W (brk c x p d (A0 m2) s' (qb1 o 0 conn took::F)) w':=by
 unfold Bk.act at f;rw[yA (by omega),yA (by omega),yB g]at f;cases f;refine F75_of (z08 13 a λb w a=>⟨StC W _,zd a,z7 ⟨_,zo 0 ir rfl rfl,_,zi 13 ir rfl rfl,_,zi 13 ir rfl rfl,?_⟩⟩);refine z04 7 ir rfl (λG w h=>Cn.Budget_spec (id:=e.conn) e.n h) (λ_ _ h=>⟨_,rfl,h⟩) ⟨_,rfl,trivial,λG w h=>?_⟩;have a:=z12 10 (zb h) rfl (z1f λh=>by rw[i]at h⊢;exact qb3.budget h e.conn e.n);have a:St W (brk c x p pl (A0 m2) (s.upd e.conn (Cn.gBudget e.n)) (qb1 o 0 0 0::F)) w:=a.del 13 rfl;refine za (λh=>⟨?_,pl,a⟩) λh=>⟨?_,pl,a⟩;.rw[yA (by have h:(!s.ask e.conn A4 (Cn.rBudget e.n))=Ae:=h;simpa using h)]
 .rw[yB (by have h:(!s.ask e.conn A4 (Cn.rBudget e.n))=A4:=h;simpa using h)]
def q9u(k:ql1 F c)(j:e.kind=4)(f:s.act c n e=A0 (s',bad,conn,took))(a:St W (brk c x p pl (A0 m2) s (qb1 o 0 0 0::F)) w):
 qb Zp 76 #[qc x,Zg (evV e).toArray,qc o] w λv w'=>v=Zi Zk bad/\∃i,St W (brk c x p i (A0 m2) s' (qb1 o 0 conn took::F)) w':=by
 unfold Bk.act at f;rw[yA (by omega),yA (by omega),yA (by omega),yB j]at f;refine F76_of (z08 13 a λb w a=>⟨StC W _,zd a,z7 ⟨_,zo 0 ir rfl rfl,_,zi 13 ir rfl rfl,?_⟩⟩);refine z04 7 ir rfl (λG w h=>Cn.Half_spec (id:=e.conn) h) (λ_ _ h=>⟨_,rfl,h⟩) ⟨_,rfl,trivial,λG w h=>?_⟩;have a:=z12 10 (zb h) rfl (z1f λh=>qb3.upd h e.conn (g:=Cn.gHalf) λd=>rfl);have a:St W (brk c x p pl (A0 m2) (s.upd e.conn Cn.gHalf) (qb1 o 0 0 0::evR b e::F)) w:=a;refine za (λh=>?_) λh=>?_
 .have h:(!s.ask e.conn A4 (λd=>!d.ended))=Ae:=h;rw[yB (by simpa using h)]at f;cases f;exact⟨rfl,pl,a.del 13 rfl⟩
 .have h:(!s.ask e.conn A4 (λd=>!d.ended))=A4:=h;rw[yA (by simpa using h)]at f;cases hr:(s.upd e.conn Cn.gHalf).read c n e.conn e.draw with
  |none=>rw[hr]at f;cases f
  |some s1=>
  rw[hr]at f;cases f;refine z8 13 a rfl rfl (zg 13 a rfl rfl ?_);exact(qhk e.draw ((k.cons _).cons _) hr a).of λv w ⟨l,i,a⟩=>⟨l,rfl,i,a.del 13 rfl⟩
def qxr(f:e.kind=5)(d:s.act c n e=A0 (s',bad,conn,took))(h:St W (brk c x p pl (A0 m2) s (qb1 o 0 0 0::F)) w):
 qb Zp 77 #[qc x,Zg (evV e).toArray,qc o] w λv w'=>v=Zi Zk bad/\∃a,St W (brk c x p a (A0 m2) s' (qb1 o 0 conn took::F)) w':=by
 unfold Bk.act at d;rw[yA (by omega),yA (by omega),yA (by omega),yA (by omega),yB f]at d;cases d;exact F77_of (z08 13 h λb w h=>z8 13 h rfl rfl ((q9a h).of λv w ⟨g,h⟩=>⟨g,rfl,pl,h.del 13 rfl⟩))
def q4s(j:e.kind=8)(d:s.act c n e=A0 (s',bad,conn,took))(a:St W (brk c x p pl (A0 m2) s (qb1 o 0 0 0::F)) w):
 qb Zp 80 #[qc x,Zg (evV e).toArray,qc o] w λv w'=>v=Zi Zk bad/\∃f,St W (brk c x p f (A0 m2) s' (qb1 o 0 conn took::F)) w':=by
 unfold Bk.act at d;rw[yA (by omega),yA (by omega),yA (by omega),yA (by omega),yA (by omega),yA (by omega),yA (by omega)]at d;refine F80_of (z08 13 a λb w a=>⟨StC W _,zd a,z7 (z7 ⟨_,zo 0 ir rfl rfl,_,zu 13 ir rfl rfl,_,zo 0 ir rfl rfl,?_⟩)⟩);refine z04 8 ir rfl (λG w h=>Ck.Now_spec h) (λ_ _ h=>⟨_,rfl,h⟩) ⟨_,rfl,⟨zu 13 ir rfl rfl,zo 0 ir rfl rfl⟩,?_⟩;refine z04 3 ir rfl (λG w h=>q9r (name:=e.name) (now:=s.K.now) h) (λ_ _ h=>⟨_,_,_,_,_,_,_,rfl,h⟩) ⟨_,_,_,_,_,_,_,rfl,trivial,λi=>?_⟩;refine Ef.le ir (qlb s.B e.name s.K.now).2.1 ⟨rfl,trivial,λG w h=>?_⟩;have a:=zb h;clear h;generalize qlb s.B e.name s.K.now=cl at a d⊢;obtain⟨B,y,k⟩:=cl;have a:St W (Row i 55 (leV y)::brk c x p pl (A0 m2) { s with B:=B} (qb1 o 0 0 0::evR b e::F)) w:=a;dsimp only at d⊢;refine za (λh=>?_) λh=>?_
 .rw[yB (by simpa using h)]at d;cases d;exact⟨rfl,pl,a.drop.del 13 rfl⟩
 .rw[yA (by simpa using h)]at d;cases d;refine zg 0 a rfl rfl (zg 0 a rfl rfl (z8 0 a rfl rfl (z8 0 a rfl rfl (z8 0 a rfl rfl (zx 0 a rfl rfl ?_)))));exact(qdf y a.drop).of λv w ⟨g,a⟩=>⟨g,rfl,pl,a.del 13 rfl⟩
end
end
section
def q6u(B:qi3)(now:Int):(qm7 B now).2.length<=B.L.length:=by
 unfold qm7;split;.exact Ag _
 .exact qze _ _ _
section
variable{W w:World}{F l:List Asn}{c:qy}{x m2 o:Nat}{p:qm3}{pl:List Nat}{s s':Bk}{e:EvD}{bad conn took:Int}{n:Nat}
def qz5{I:Nat->List Ad->Ac->Prop}{μ:List Ad->Ac->Nat}(b:∀vs w n,I n vs w->μ vs w<=n){vs:List Ad}{w:Ac}{n k:Nat}(a:n<k)(h:I n vs w):(∃n,I n vs w)/\μ vs w<k:=⟨⟨n,h⟩,A3 (b _ _ _ h) a⟩
set_option maxHeartbeats 1000000 in
def qtu(C:e.kind=6)(U: -9223372036854775808<=e.n/\e.n<=9223372036854775807)(i:s.act c n e=A0 (s',bad,conn,took))(d:St W (brk c x p pl (A0 m2) s (qb1 o 0 0 0::F)) w):
 qb Zp 78 #[qc x,Zg (evV e).toArray,qc o] w λv w'=>v=Zi Zk bad/\∃O,St W (brk c x p O (A0 m2) s' (qb1 o 0 conn took::F)) w':=by
 unfold Bk.act at i;rw[yA (by omega),yA (by omega),yA (by omega),yA (by omega),yA (by omega),yB C]at i;have Q:=Ck.ClockA.ok (zf 8 0 d rfl);refine F78_of (z08 13 d λb w d=>⟨StC W _,zd d,z7 ⟨_,zo 0 ir rfl rfl,_,zi 13 ir rfl rfl,?_⟩⟩);refine Ef.sl 8 ir rfl (λG w h=>(Ck.Tick_spec e.n U h).of λv w ⟨p,c,A,d⟩=>⟨p,c,A,d.p1⟩) (λ_ _ _ _ h=>⟨_,_,_,_,rfl,h⟩) λq r=>⟨_,_,_,_,rfl,trivial,λG w h=>?_⟩;have d:St W (brk c x p pl (A0 m2) { s with K:=(Ck.cTick s.K e.n).1} (qb1 o 0 0 0::evR b e::SlA 3 1 iV q r (Ck.cTick s.K e.n).2.1::F)) w:=z0v 14 (zb h);clear h;have H:(Ck.cTick s.K e.n).2.1.length<=s.K.al.length:=by
  unfold Ck.cTick;split;.exact Ag _
  .rw[A5];exact Af _ _
 have R:=Q.many;generalize Ck.cTick s.K e.n=ck at d i H⊢;obtain⟨K,al,Y⟩:=ck;dsimp only at d i H⊢;refine za (λh=>?_) λh=>?_
 .rw[yB (by simpa using h)]at i;cases i;exact⟨rfl,pl,(d.del 13 rfl).del 13 rfl⟩
 rw[yA (by simpa using h)]at i;clear h;have V:s.B.L.length<=64:=by obtain⟨_,h,_⟩:=z0s (zf 3 0 d rfl);exact h
 refine⟨StC W _,zd d,z7 (z7 ⟨_,zo 0 ir rfl rfl,_,zo 0 ir rfl rfl,?_⟩)⟩;refine z04 8 ir rfl (λG w h=>Ck.Now_spec h) (λ_ _ h=>⟨_,rfl,h⟩) ⟨_,rfl,zo 0 ir rfl rfl,?_⟩;refine Ef.sl 3 ir rfl (λG w h=>(qqp (now:=K.now) h).of λv w ⟨p,c,A,_,d⟩=>⟨p,c,A,d⟩) (λ_ _ _ _ h=>⟨_,_,_,rfl,h⟩) λJ L=>⟨_,_,_,rfl,trivial,λG w h=>?_⟩;have d:St W (brk c x p pl (A0 m2) { s with K:=K,B:=(qm7 s.B K.now).1} (SlA 55 6 leV J L (qm7 s.B K.now).2::qb1 o 0 0 0::evR b e::SlA 3 1 iV q r al::F)) w:=z0v 12 (zb h);clear h;have E:=q6u s.B K.now;generalize qm7 s.B K.now=lp at d i E⊢;obtain⟨B,l⟩:=lp;dsimp only at d i E⊢;generalize ({ s with K:=K,B:=B}:Bk)=s1 at d i;cases i;refine qt3 (λn vs w=>∃k:Nat,k+n=l.length/\vs=[Zi Zk (k:Int)]/\St W (brk c x p pl (A0 m2) ((l.take k).foldl Bk.gone s1) (SlA 55 6 leV J L l::qb1 o 0 0 0::evR b e::SlA 3 1 iV q r al::F)) w) λμ N I=>⟨⟨l.length,0,by omega,rfl,d⟩,λj w M=>?_⟩;clear d;obtain⟨k,C,P,d⟩:=I _ _ M;generalize μ _ _=m at C⊢;cases P;refine za (λh=>?_) λh=>?_
 .have g:k<l.length:=by have:=yC h;omega
  have D:=A1 g;refine z0e qhw (by decide) (Rd.b12 (z0g _)) d rfl g D λa t=>z0p (t 0 _ rfl) (z0p (t 1 _ rfl) (zt (t 2 _ rfl) (zt (t 3 _ rfl) (zt (t 4 _ rfl) (LdB.at (t 5 _ rfl) (z08 12 d λX w d=>?_))))));refine St1.zz 12 d rfl λw d=>St1.zz 12 d rfl λw d=>St1.zz 12 d rfl λw d=>St1.zz 12 d rfl λw d=>St1.zz 12 d rfl λw d=>St1.zz 12 d rfl λw d=>?_;refine zg 12 d rfl rfl (zg 12 d rfl rfl (z8 12 d rfl rfl (z8 12 d rfl rfl (z8 12 d rfl rfl (zx 12 d rfl rfl ?_)))));have d:St W (brk c x p pl (A0 m2) ((l.take k).foldl Bk.gone s1) (Row X 55 (leV l[k])::SlA 55 6 leV J L l::qb1 o 0 0 0::evR b e::SlA 3 1 iV q r al::F)) w:=d;refine(qdf l[k] d).of λv w ⟨A,d⟩=>⟨A,?_⟩;have z:∃y:Nat,y+(m - 1)=l.length/\[Zi Zk (Zw Zk ((k:Int)+1))]=[Zi Zk (y:Int)]/\St W (brk c x p pl (A0 m2) ((l.take y).foldl Bk.gone s1) (SlA 55 6 leV J L l::qb1 o 0 0 0::evR b e::SlA 3 1 iV q r al::F)) w:=⟨k+1,by omega,by rw[up g (by omega)],by rw[q29 _ _ D];exact d.del 12 rfl⟩;exact qz5 N (by omega) z
 have u:l.take k=l:=A6 (by have:=yD h;omega);rw[u]at d;clear h N I M C;have d:=d.del 12 rfl;generalize l.foldl Bk.gone s1=s1 at d;refine qt3 (λn vs w=>∃k:Nat,k+n=al.length/\vs=[Zi Zk (k:Int)]/\St W (brk c x p pl (A0 m2) ((al.take k).foldl Bk.shut s1) (qb1 o 0 0 0::evR b e::SlA 3 1 iV q r al::F)) w) λμ N I=>⟨⟨al.length,0,by omega,rfl,d⟩,λj w M=>?_⟩;clear d;obtain⟨k,C,P,d⟩:=I _ _ M;generalize μ _ _=m at C⊢;cases P;refine za (λh=>?_) λh=>?_
 .have g:k<al.length:=by have:=yC h;omega
  have D:=A1 g;have T:∀G,Rd (SlA 3 1 iV q r al::G) q (al.map (Zi Zk)):=λG=>by have:=z0g (e:=3) (size:=1) (f:=iV) (p:=q) (c:=r) (os:=al) G;rwa[show al.flatMap iV=al.map (Zi Zk)from qt6 _ _]at this
  refine z0l (z06 14 rfl T) d rfl g (v:=Zi Zk al[k]) (by rw[A7,D];rfl) λa t=>zt t ((q9a d).of λv w ⟨A,d⟩=>⟨A,?_⟩);have z:∃y:Nat,y+(m - 1)=al.length/\[Zi Zk (Zw Zk ((k:Int)+1))]=[Zi Zk (y:Int)]/\St W (brk c x p pl (A0 m2) ((al.take y).foldl Bk.shut s1) (qb1 o 0 0 0::evR b e::SlA 3 1 iV q r al::F)) w:=⟨k+1,by omega,by rw[up g (by omega)],by rw[q29 _ _ D];exact d⟩;exact qz5 N (by omega) z
 have u:al.take k=al:=A6 (by have:=yD h;omega);rw[u]at d;exact⟨rfl,pl,(d.del 13 rfl).del 13 rfl⟩
def qr8(e:EvD)(s:Bk)(id:Int):Bk:=match qe s.roles id with
 |none=>s
 |some r=>if(r.kind==2&&(decide (r.ten=e.name)&&decide (r.token=e.token)))=Ae then s.shut id else s
set_option maxHeartbeats 1000000 in
def qho(U:ql1 F c)(L:e.kind=7)(f:s.act c n e=A0 (s',bad,conn,took))(d:St W (brk c x p pl (A0 m2) s (qb1 o 0 0 0::F)) w):
 qb Zp 79 #[qc x,Zg (evV e).toArray,qc o] w λv w'=>v=Zi Zk bad/\∃g,St W (brk c x p g (A0 m2) s' (qb1 o 0 conn took::F)) w':=by
 unfold Bk.act at f;rw[yA (by omega),yA (by omega),yA (by omega),yA (by omega),yA (by omega),yA (by omega),yB L]at f;refine F79_of (z08 13 d λb w d=>⟨StC W _,zd d,z7 ⟨_,zo 0 ir rfl rfl,_,zu 13 ir rfl rfl,_,zu 13 ir rfl rfl,?_⟩⟩);refine z04 1 ir rfl (λG w h=>q7o (ten:=e.name) (tok:=e.token) ((U.app (pts G)).pre [_,_,_,_,_,_,_,_,_,_,_,_,_]) h) (λ_ _ h=>⟨_,rfl,h⟩) ⟨_,rfl,trivial,λG w h=>?_⟩;have d:St W (brk c x p pl (A0 m2) { s with R:=(qv7 c s.R e.name e.token).1} (qb1 o 0 0 0::evR b e::F)) w:=zb h;clear h;generalize qv7 c s.R e.name e.token=rv at d f⊢;obtain⟨R,V⟩:=rv;dsimp only at d f⊢;refine za (λh=>?_) λh=>?_
 .rw[yB (by simpa using h)]at f;cases f;exact⟨rfl,pl,d.del 13 rfl⟩
 rw[yA (by simpa using h)]at f;clear h;by_cases i:1000000<s.N.L.length;.rw[yB i]at f;cases f
 rw[yA i]at f;have i:¬1000000<({ s with R:=R}:Bk).N.L.length:=i;generalize ({ s with R:=R}:Bk)=s1 at d f i;cases f;refine z7 (z0k 0 d rfl rfl ((Cn.All_spec (by omega) (d.at 7 rfl)).of λv w ⟨C,B,N,d⟩=>⟨_,_,_,N,?_⟩));have H:s1.ids.length=s1.N.L.length:=by unfold Bk.ids;rw[(qv1 leI _).length_eq,A5]
 rw[<-H]at d i⊢;have d:St W (brk c x p pl (A0 m2) s1 (qi 3 1 C s1.ids.length B (s1.ids.map (Zi Zk))::qb1 o 0 0 0::evR b e::F)) w:=z0v 12 (zf 1 8 d rfl);generalize s1.ids=ids at d i⊢;have M:∀w,St W (brk c x p pl (A0 m2) (ids.foldl (qr8 e) s1) (qi 3 1 C ids.length B (ids.map (Zi Zk))::qb1 o 0 0 0::evR b e::F)) w->∃g,St W (brk c x p g (A0 m2) (ids.foldl (qr8 e) s1) (qb1 o 0 0 0::F)) w:=λw d=>⟨pl,(d.del 12 rfl).del 13 rfl⟩;refine qt3 (λn vs w=>∃k:Nat,k+n=ids.length/\vs=[Zi Zk (k:Int)]/\St W (brk c x p pl (A0 m2) ((ids.take k).foldl (qr8 e) s1) (qi 3 1 C ids.length B (ids.map (Zi Zk))::qb1 o 0 0 0::evR b e::F)) w) λμ D O=>⟨⟨ids.length,0,by omega,rfl,d⟩,λj w T=>?_⟩;clear d;obtain⟨k,L,P,d⟩:=O _ _ T;generalize μ _ _=m at L⊢;cases P;refine za (λh=>?_) λh=>?_
 .have l:k<ids.length:=by have:=yC h;omega
  have K:=A1 l;have u:=q29 (qr8 e) s1 K;generalize (ids.take k).foldl (qr8 e) s1=s2 at d u;generalize ids[k]=y at K u;have back:∀w,St W (brk c x p pl (A0 m2) (qr8 e s2 y) (qi 3 1 C ids.length B (ids.map (Zi Zk))::qb1 o 0 0 0::evR b e::F)) w->∃J:Nat,J+(m - 1)=ids.length/\[Zi Zk (Zw Zk ((k:Int)+1))]=[Zi Zk (J:Int)]/\St W (brk c x p pl (A0 m2) ((ids.take J).foldl (qr8 e) s1) (qi 3 1 C ids.length B (ids.map (Zi Zk))::qb1 o 0 0 0::evR b e::F)) w:=λw d=>⟨k+1,by omega,by rw[up l (by omega)],by rw[u];exact d⟩;refine z0l (z06 12 rfl λF=>z0j F) d rfl l (v:=Zi Zk y) (by rw[A7,K];rfl) λa Q=>zt Q (z7 (zv 0 d rfl rfl ?_));unfold qr8 at back;cases hd:qe s2.roles y with
  |none=>rw[hd]at back;refine z0y kI uMr iPr zPr 9 d rfl hd Ae ?_;rw[yB rfl];exact⟨_,_,rfl,StC W _,zd d,zm rfl λG w h=>qz5 D (by omega) (back w (zb h))⟩
  |some r=>
   rw[hd]at back;dsimp only at back;obtain⟨q,sb,E,d⟩:=brk.open_ hd d;refine z0i kI uMr iPr zPr 9 d rfl Ae ?_;rw[yB rfl];refine⟨_,_,rfl,StC W _,zd d,zn rfl (z7 ⟨_,zi 12 ir rfl rfl,za (λz=>z7 ⟨_,zu 12 ir rfl rfl,_,zu 16 ir rfl rfl,za (λt=>z7 ⟨_,zu 12 ir rfl rfl,_,zu 16 ir rfl rfl,λG w h=>za (λA=>?_) λA=>?_⟩) λt=>λG w h=>?_⟩) λz=>λG w h=>?_⟩)⟩
   .rw[qrc]at t A;rw[z,t,A]at back;exact(q9a (z07 E hd (zb h))).of λv w ⟨N,d⟩=>⟨N,qz5 D (by omega) (back w d)⟩
   .rw[qrc]at t A;rw[z,t,A]at back;exact qz5 D (by omega) (back w (z07 E hd (zb h)))
   .rw[qrc]at t;rw[z,t]at back;exact qz5 D (by omega) (back w (z07 E hd (zb h)))
   .rw[z]at back;exact qz5 D (by omega) (back w (z07 E hd (zb h)))
 have I:ids.take k=ids:=A6 (by have:=yD h;omega);rw[I]at d;exact⟨rfl,M w d⟩
end
end
section
def q8d:List (Int×Nat):=[(1,73),(2,74),(3,75),(4,76),(5,77),(6,78),(7,79),(8,80)]
def uMe:Zp.underlying 117=A0 (.map 3 115):=Tryz.underlying117
def iFe:Zp.info? 115=A0 Tryz.t115:=by kernel_rfl
def zFe:Tryz.t115.zero=A0 .nilFunc:=rfl
def q6o{W w:Ac}{l:List Asn}(h:St W l w):qb Zp 44 #[] w λv w'=>∃m,v=.map (A0 m)/\St W (qg (Zi Zk) fnV m q8d::l) w':=by refine F44_of (qs5.f (ν:=Nat) (Zi Zk) fnV h λm w h=>?_);refine qh1 (vl:=fnV) kI uMe 0 h rfl 1 73 λw h=>qh1 (vl:=fnV) kI uMe 0 h rfl 2 74 λw h=>qh1 (vl:=fnV) kI uMe 0 h rfl 3 75 λw h=>qh1 (vl:=fnV) kI uMe 0 h rfl 4 76 λw h=>qh1 (vl:=fnV) kI uMe 0 h rfl 5 77 λw h=>qh1 (vl:=fnV) kI uMe 0 h rfl 6 78 λw h=>qh1 (vl:=fnV) kI uMe 0 h rfl 7 79 λw h=>qh1 (vl:=fnV) kI uMe 0 h rfl 8 80 λw h=>⟨m,rfl,?_⟩;exact h
def q5s{k:Int}(h:k<1\/8<k):qe q8d k=Aa:=by unfold q8d;simp only[qe];rw[yA (by omega),yA (by omega),yA (by omega),yA (by omega),yA (by omega),yA (by omega),yA (by omega),yA (by omega)]
def qoi{k:Int}(h:¬(k<1\/8<k)):k=1\/k=2\/k=3\/k=4\/k=5\/k=6\/k=7\/k=8:=by omega
section
variable{W w:World}{F l:List Asn}{c:qy}{x m2 o:Nat}{p:qm3}{pl:List Nat}{sn:Option Nat}{s s':Bk}{e:EvD}{bad conn took:Int}{n:Nat}
def q1w(g:ql1 F c)(k: -9223372036854775808<=e.n/\e.n<=9223372036854775807)(i:¬(e.kind<1\/8<e.kind))(j:s.S=[])(b:s.act c n e=A0 (s',bad,conn,took))(a:St W (brk c x p pl (A0 m2) s (qb1 o 0 0 0::F)) w):
 ∃f,qe q8d e.kind=A0 f/\q33 Zp f=Ae/\qb Zp f #[qc x,Zg (evV e).toArray,qc o] w λv w'=>v=Zi Zk bad/\∃d,St W (brk c x p d (A0 m2) s' (qb1 o 0 conn took::F)) w':=by
 rcases qoi i with h|h|h|h|h|h|h|h;.exact⟨73,by rw[h];rfl,by kernel_rfl,qpl h b a⟩
 .exact⟨74,by rw[h];rfl,by kernel_rfl,qqq g h b a⟩
 .exact⟨75,by rw[h];rfl,by kernel_rfl,qwn h j b a⟩
 .exact⟨76,by rw[h];rfl,by kernel_rfl,q9u g h b a⟩
 .exact⟨77,by rw[h];rfl,by kernel_rfl,qxr h b a⟩
 .exact⟨78,by rw[h];rfl,by kernel_rfl,qtu h k b a⟩
 .exact⟨79,by rw[h];rfl,by kernel_rfl,qho g h b a⟩
 .exact⟨80,by rw[h];rfl,by kernel_rfl,q4s h b a⟩
def qkq(w:¬(e.kind<1\/8<e.kind)):∃f,qe q8d e.kind=A0 f:=by rcases qoi w with h|h|h|h|h|h|h|h<;>exact⟨_,by rw[h];rfl⟩
def q21(d:q81):List Ad:=[Zi Zk d.conn,Zs d.b,Zb d.e,Zb d.c]
def q89(d:q81):(q21 d).length=4:=rfl
def qkm(d:q81):∀v∈q21 d,qn1 v:=λv h=>by simp only[q21,List.mem_cons,List.not_mem_nil,yK]at h;rcases h with rfl|rfl|rfl|rfl<;>trivial
def qlj:Zp.underlying 30=A0 (.slice 38):=Tryz.underlying30
def sSe:Tryz.t38.size=4:=rfl
def bSe:Tryz.t38.bytes<=1000:=by decide+kernel
def qkw:∃z,Tryz.t38.zero=A0 z/\z.cells.size=4:=⟨_,rfl,rfl⟩
def qdz(W:Ac)(c:qy)(x:Nat)(p:qm3)(s:Bk)(out:qra)(F:List Asn)(v:Ad)(w:Ac):Prop:=
 ∃pl sn q h,v=Zg #[Zi Zk out.err,Zi Zk out.conn,Zi Zk out.took,Zl q out.sent.length h]/\St W (brk c x p pl sn s (SlA 38 4 q21 q h out.sent::F)) w
def q7j{b:Nat}{e0 conn took:Int}{q:Option Addr}{j i:Nat}{R:Ad->Ac->Prop}{l:List Asn}(k:Nat){bad:Int}(h:St W l w)(a:nth l k=A0 (Row b 32 [Zi Zk e0,Zi Zk conn,Zi Zk took,Zl q j i]))
 (c:∀w,St W (put l k [qb1 b bad 0 0]) w->R (Zg #[Zi Zk bad,Zi Zk 0,Zi Zk 0,Zl Aa 0 0]) w):
 St1 (Za ⟨b,0,Aa⟩ 0) (Zi Zk bad) w λw=>St1 (Za ⟨b,0,Aa⟩ 1) (Zi Zk 0) w λw=>St1 (Za ⟨b,0,Aa⟩ 2) (Zi Zk 0) w λw=>St1 (Za ⟨b,0,Aa⟩ 3) (Zl Aa 0 0) w λw=>
  LdI Zk (Za ⟨b,0,Aa⟩ 0) w λe=>LdI Zk (Za ⟨b,0,Aa⟩ 1) w λm=>LdI Zk (Za ⟨b,0,Aa⟩ 2) w λg=>LdL (Za ⟨b,0,Aa⟩ 3) w λf n d=>R (Zg #[Zi Zk e,Zi Zk m,Zi Zk g,Zl f n d]) w:=by
 have h:=h.at k a;refine St1.zz 0 h rfl λw h=>St1.zz 0 h rfl λw h=>St1.zz 0 h rfl λw h=>St1.zz 0 h rfl λw h=>?_;exact z8 0 h rfl rfl (z8 0 h rfl rfl (z8 0 h rfl rfl (zr 0 h rfl rfl (c w (z05 k a (B:=[_]) h)))))
end
end
section
section
variable{W w:World}{F l:List Asn}{c:qy}{x m2 o:Nat}{p:qm3}{pl:List Nat}{sn:Option Nat}{s s':Bk}{e:EvD}{bad conn took:Int}{n:Nat}{out:qra}
def q0m(s:Bk):s.outs.length=s.S.length:=by unfold Bk.outs;rw[A5,(qv1 leI _).length_eq,A5]
set_option maxHeartbeats 2000000 in
def qau(hO:ql1 F c)(hn: -9223372036854775808<=e.n/\e.n<=9223372036854775807)(t:s.step c n e=A0 (s',out))(a:St W (brk c x p pl sn s F) w):qb Zp 15 #[qc x,Zg (evV e).toArray] w λv w'=>qdz W c x p s' out F v w':=by
 unfold Bk.step at t;suffices H:∀R:Ad->Ac->Prop,(∀v w,qdz W c x p s' out F v w->R v w)->qb Zp 15 #[qc x,Zg (evV e).toArray] w R from H _ λv w h=>h
 intro R U;refine F15_of (z08 12 a λr w a=>z08 13 a λo w a=>⟨StC W _,zd a,_,zi 12 ir rfl rfl,?_⟩);refine zk (α:=Nat) (V:=λT=>.map (A0 T)) (B:=λT=>qg (Zi Zk) fnV T q8d::brk c x p pl sn s (evR r e::qb1 o 0 0 0::F)) 0 ir (λG w h=>(q6o h).of λv w ⟨T,hv,h⟩=>⟨_,hv,T,rfl,h⟩) λT=>⟨_,rfl,zi 13 ir rfl rfl,_,_,(λG w X=>qq1 kI uMe iFe zFe 0 X rfl e.kind Ae (by rw[yB rfl];exact⟨_,_,rfl,rfl,X⟩)),λG w h=>?_⟩;have a:St W (brk c x p pl sn s (evR r e::qb1 o 0 0 0::F)) w:=(zb h).drop;clear h;by_cases N:e.kind<1\/8<e.kind
 .rw[yB N]at t;cases t;rw[q5s N];refine zn rfl (q7j 13 a rfl λw a=>U _ _ ⟨pl,sn,Aa,0,rfl,?_⟩);exact z0v 12 (z09 ((z03 12 a rfl).del 12 rfl))
 rw[yA N]at t;obtain⟨f,hf⟩:=qkq N;rw[hf];refine zm rfl ⟨λ_ w=>¬(e.kind>=2/\e.kind<=5/\s.ask e.conn A4 (λ_=>Ae)=A4)/\St W (brk c x p pl sn s (evR r e::qb1 o 0 0 0::F)) w,?_,λw hJ=>?_⟩
 .refine⟨StC W _,zd a,_,zi 12 ir rfl rfl,za (λM=>⟨_,zi 12 ir rfl rfl,za (λI=>z7 ⟨_,zo 0 ir rfl rfl,_,zi 12 ir rfl rfl,?_⟩) λI=>λG w h=>⟨λH=>?_,zb h⟩⟩) λM=>λG w h=>⟨λH=>?_,zb h⟩⟩
  .refine z04 7 ir rfl (λG w h=>Cn.Has_spec (id:=e.conn) h) (λ_ _ h=>⟨_,rfl,h⟩) ⟨_,rfl,trivial,λG w h=>?_⟩;have a:=zb h;refine za (λJ=>?_) λJ=>⟨λH=>?_,a⟩
   .have J:(!s.ask e.conn A4 λ_=>Ae)=Ae:=J;rw[yB ⟨yC M,yC I,by simpa using J⟩]at t;cases t;refine q7j 13 a rfl λw a=>U _ _ ⟨pl,sn,Aa,0,rfl,?_⟩;exact z0v 12 (z09 ((z03 12 a rfl).del 12 rfl))
   .have J:(!s.ask e.conn A4 λ_=>Ae)=A4:=J;rw[H.2.2]at J;cases J
  .have:=yD I;omega
  .have:=yD M;omega
 clear a;obtain⟨H,a⟩:=hJ;rw[yA H]at t;clear H;cases ha:Bk.act c n { s with S:=[]} e with
 |none=>rw[ha]at t;cases t
 |some r1=>
 obtain⟨D,bad,conn,took⟩:=r1;rw[ha]at t;dsimp only at t;have E:=qs2.cr 10 a rfl;refine qs5.f (ν:=q81) (Zi Zk) qr1 a λm w a=>z7 (St1.zz 1 a rfl λw a=>?_);have a:=z12 10 (zf 0 10 (z03 11 a rfl) rfl) rfl (qs2.of (E.fresh));refine z08 12 a λu w a=>?_;have a:St W (brk c x p pl (A0 m) { s with S:=[]} (qb1 u 0 0 0::evR r e::qb1 o 0 0 0::F)) w:=a;refine z8 13 a rfl rfl (z8 13 a rfl rfl (z8 13 a rfl rfl (zg 13 a rfl rfl (z8 13 a rfl rfl (zg 13 a rfl rfl (zg 13 a rfl rfl (zg 13 a rfl rfl ?_)))))));obtain⟨f2,Y,hb,K⟩:=q1w ((hO.cons _).cons _) hn N rfl ha a;rw[hf]at Y;cases Y;refine zw hb (K.of λv w ⟨hv,b,a⟩=>⟨_,hv,?_⟩);clear K E;refine za (λh=>?_) λh=>?_
 .rw[yB (by simpa using h)]at t;cases t;refine q7j 14 a rfl λw a=>U _ _ ⟨b,A0 m,Aa,0,rfl,?_⟩;exact z0v 12 (z09 (((z03 12 a rfl).del 12 rfl).del 12 rfl))
 rw[yA (by simpa using h)]at t;clear h;cases g:D.rounds c n with
 |none=>rw[g]at t;cases t
 |some s2=>
 rw[g]at t;dsimp only at t;by_cases hl:1000000<s2.S.length;.rw[yB hl]at t;cases t
 rw[yA hl]at t;cases t;refine qt3 (λn vs w=>vs=[]/\∃D b,Bk.rounds c n D=A0 s'/\St W (brk c x p b (A0 m) D (qb1 u 0 conn took::evR r e::qb1 o 0 0 0::F)) w) λμ M I=>⟨⟨n,rfl,D,b,g,a⟩,λw hI=>?_⟩;clear a g;obtain⟨_,D,b,g,a⟩:=I _ _ hI;generalize μ _ _=k at g⊢;cases k with
 |zero=>cases g
 |succ k=>
 unfold Bk.rounds at g;cases hr:D.round c with
 |none=>rw[hr]at g;cases g
 |some r2=>
 obtain⟨l,again⟩:=r2;rw[hr]at g;dsimp only at g;refine(round_spec hr a).of λv w ⟨hv,a⟩=>⟨_,hv,za (λh=>?_) λh=>?_⟩
 .rw[yB h]at g;have O:([]:List Ad)=[]/\∃D b,Bk.rounds c k D=A0 s'/\St W (brk c x p b (A0 m) D (qb1 u 0 conn took::evR r e::qb1 o 0 0 0::F)) w:=⟨rfl,l,b,g,a⟩;exact qz5 M (by omega) O
 rw[yA (by rw[h];simp)]at g;have e3:=A2 g;subst e3;clear M I hI g h hr;have hol:=q0m l;obtain⟨E,a⟩:=brk.sent a;refine z7 (zv 0 a rfl rfl (qkn (by omega) 10 a rfl λp3 Z w a=>⟨_,_,_,rfl,?_⟩));have L:(q91 leI (l.S.map (·.1))).length=l.S.length:=by rw[(qv1 leI _).length_eq,A5]
 have ho:l.outs=(q91 leI (l.S.map (·.1))).map λid=>(qe l.S id).getD q93:=rfl;generalize q91 leI (l.S.map (·.1))=ids at a L ho;rw[<-L]at a⊢;generalize hS2:l.outs=os at U ho hol;obtain⟨z,hz,hzs⟩:=qkw;have a:St W (qua (roles p b l) (qg (Zi Zk) qr1 m l.S) c x p b (A0 m) l (qi 3 1 p3 ids.length Z (ids.map (Zi Zk))::Row u 32 [Zi Zk 0,Zi Zk conn,Zi Zk took,Zl Aa (os.take 0).length 0]::evR r e::qb1 o 0 0 0::SlA 38 4 q21 Aa 0 (os.take 0)::F)) w:=zf 0 16 (z09 (zf 0 12 a rfl)) rfl;refine qt3 (λn vs w=>∃(k:Nat) (q:Option Addr) (C:Nat),k+n=ids.length/\vs=[Zi Zk (k:Int)]/\St W (qua (roles p b l) (qg (Zi Zk) qr1 m l.S) c x p b (A0 m) l (qi 3 1 p3 ids.length Z (ids.map (Zi Zk))::Row u 32 [Zi Zk 0,Zi Zk conn,Zi Zk took,Zl q (os.take k).length C]::evR r e::qb1 o 0 0 0::SlA 38 4 q21 q C (os.take k)::F)) w) λμ M I=>⟨⟨ids.length,0,Aa,0,by omega,rfl,a⟩,λj w hI=>?_⟩;clear a;obtain⟨k,q,C,N,he,a⟩:=I _ _ hI;generalize μ _ _=n at N⊢;cases he;refine za (λh=>?_) λh=>?_
 .have Q:k<ids.length:=by have:=yC h;omega
  have hx:=A1 Q;generalize ids[k]=y at hx;have hoy:os[k]?=A0 ((qe l.S y).getD q93):=by rw[ho,A7,hx];rfl
  have het:os.take (k+1)=os.take k++[(qe l.S y).getD q93]:=by rw[List.take_add_one,hoy];rfl
  refine z0l (z06 12 rfl λF=>z0j F) a rfl Q (v:=Zi Zk y) (by rw[A7,hx];rfl) λad ha=>zt ha ⟨StC W _,zd a,z7 ⟨_,_,_,QtL.a 13 ir rfl rfl,_,z0a 0 ir rfl rfl,_,_,_,_,(λG w X=>qq1 kI uMs iSe zSe 10 X rfl y A4 (by rw[yA (by simp),qre];exact⟨_,_,_,_,rfl,rfl,X⟩)),λA=>?_⟩⟩;generalize (qe l.S y).getD q93=d at het;have hle:=List.length_take_le k os;have hbd:((os.take k).length+[d].length)*Tryz.t38.bytes<=140737488355328:=by have:=bSe;simp only[Am,Ao];exact As (Nat.mul_le_mul_left _ this) (by omega)
  have hbn:(os.take k).length+[d].length<=9223372036854775807:=by simp only[Am,Ao];omega
  refine zk (α:=Option Addr×Nat) (V:=λy=>.slice y.1 (os.take k++[d]).length y.2) (B:=λy=>Row A 38 (q21 d)::qua (roles p b l) (qg (Zi Zk) qr1 m l.S) c x p b (A0 m) l (qi 3 1 p3 ids.length Z (ids.map (Zi Zk))::Row u 32 [Zi Zk 0,Zi Zk conn,Zi Zk took,Zl q (os.take k).length C]::evR r e::qb1 o 0 0 0::SlA 38 4 q21 y.1 y.2 (os.take k++[d])::F)) (Aa,0) (ir.push A _) (λG w h=>?_) λy=>⟨_,_,_,rfl,trivial,?_⟩
  .have a:St W (Row A 38 (q21 d)::qua (roles p b l) (qg (Zi Zk) qr1 m l.S) c x p b (A0 m) l (qi 3 1 p3 ids.length Z (ids.map (Zi Zk))::Row u 32 [Zi Zk 0,Zi Zk conn,Zi Zk took,Zl q (os.take k).length C]::evR r e::qb1 o 0 0 0::SlA 38 4 q21 q C (os.take k)::F++pts G)) w:=h.imp z0c;have key:=λFF hb h63=>qf3 (P:=Zp) (ty:=30) (F:=FF) (sT:=30) (xT:=30) (m:=1) (sc:=1) (sp:=A0 ⟨A,0,Aa⟩) (f:=q21) (os:=os.take k) (xs:=[d]) q89 qlj (.inr ⟨_,qlj⟩) iSe sSe hz hzs 17 a rfl (z0z 0 λi v h=>by rw[Aj];simpa using h) rfl qkm hb h63;exact key _ hbd hbn λp4 c4 w a=>⟨_,_,_,rfl,(p4,c4),rfl,a⟩
  .refine z0q 14 ir rfl (by simp) ⟨rfl,trivial,λG w h=>?_⟩;have O:∃(k':Nat) (q:Option Addr) (C:Nat),k'+(n - 1)=ids.length/\[Zi Zk (Zw Zk ((k:Int)+1))]=[Zi Zk (k':Int)]/\St W (qua (roles p b l) (qg (Zi Zk) qr1 m l.S) c x p b (A0 m) l (qi 3 1 p3 ids.length Z (ids.map (Zi Zk))::Row u 32 [Zi Zk 0,Zi Zk conn,Zi Zk took,Zl q (os.take k').length C]::evR r e::qb1 o 0 0 0::SlA 38 4 q21 q C (os.take k')::F)) w:=⟨k+1,y.1,y.2,by omega,by rw[up Q (by omega)],by rw[het];exact(zb h).drop⟩;exact qz5 M (by omega) O
 have hk2:os.take k=os:=A6 (by have:=yD h;omega);rw[hk2]at a;refine z8 13 a rfl rfl (z8 13 a rfl rfl (z8 13 a rfl rfl (zr 13 a rfl rfl ?_)));refine St1.zz 15 a rfl λw a=>St1.zz 15 a rfl λw a=>St1.zz 15 a rfl λw a=>St1.zz 15 a rfl λw a=>?_;refine z8 15 a rfl rfl (z8 15 a rfl rfl (z8 15 a rfl rfl (zr 15 a rfl rfl (U _ _ ⟨b,A0 m,q,C,rfl,?_⟩))));have a:=z12 10 a rfl (qs2.of E);exact(((a.del 12 rfl).del 12 rfl).del 12 rfl).del 12 rfl
end
end
section
set_option maxRecDepth 100000
namespace Nr
def TX:(((Ck 48 [.b .slice]/\Ck 13 [.b .bool]/\Ck 14 [.b .bool]/\(qu3 Zp #[45]=A4)/\(∀ty q n c K,qj Zp (Builtin.len_ #[45] ty #[(Zl q n c)]) K=K (Zi Zk (n:Int)))/\Un 45 (.slice 36)/\Sz 36 8)/\(Ck 17 [.b .slice]/\(∀g i K,qj Zp (Instr.build 36 #[(0,(Zi Zk g)),(5,(Zs i))]) K=K (Zg #[(Zi Zk g),(Zi Zk 0),(Zi .u32 0),(Zs ⟨#[]⟩),(Zi Zk 0),(Zs i),(Zs ⟨#[]⟩),(Zs ⟨#[]⟩)]))/\(q85 Zp 4=.bool)/\(∀x y m n K,qj Zp (do eqGuard .neq 4 x y (Zb m) (Zb n);binOp .neq 4 (Zb m) (Zb n)) K=K (Zb (!(m==n))))/\Ck 18 [.b .bool]/\Ck 19 [.b .slice]/\Ck 20 [.b .slice]))/\(((qu3 Zp #[59]=A4)/\(∀ty q n c K,qj Zp (Builtin.len_ #[59] ty #[(Zl q n c)]) K=K (Zi Zk (n:Int)))/\Un 59 (.slice 62)/\Sz 62 5/\Ld 62 [.int Zk,.int Zk,.str,.str,.int Zk]/\Ze 62 (Zg #[Zi Zk 0,Zi Zk 0,(Zs ⟨#[]⟩),(Zs ⟨#[]⟩),Zi Zk 0])/\Ck 21 [.agg [.int Zk,.int Zk,.int Zk,.slice]])/\(Ck 22 [.b (.int Zk)]/\Re 62 [.agg [.int Zk,.int Zk,.str,.str,.int Zk]]/\(q85 Zp 62=.other)/\Re 110 [.b .slice]/\Re 122 [.agg [.int Zk,.int Zk]]/\(q85 Zp 122=.other)/\(∀e a d f h w K,qu5 Zp 59 1 [(0,(Zg #[(Zi Zk e),(Zi Zk a),(Zs d),(Zs f),(Zi Zk h)]))] w K=qh #[(Zi Zk e),(Zi Zk a),(Zs d),(Zs f),(Zi Zk h)] 62 w λb w=>K (.slice (A0 ⟨b,0,Aa⟩) 1 1) w)/\Re 59 [.b .slice]))):=by
 and_intros;all_goals
  repeat intro _
  show _=_;kernel_rfl
end Nr
end
section
set_option maxRecDepth 100000
namespace Nr
set_option maxHeartbeats 100000000 in
def FAx:=by
 have h:=(yF (yF (yF (λa b R=>call_n Tryz.func17 .nil [Zq a] b R)
 (λa b c R=>call_n Tryz.func19 .nil [Zq a,Zs b] c R))
 (yF (λa b c d e f g h i j k l R=>call_n Tryz.func4 (.sk 6 (.step (.loop [(9,ti)] (rg [36,4,42,6,40,2,9,1]) .nil) .nil (.sk 4 (.step (.loop [(11,tb),(13,ti)] (rg [52,4,58,17,11,1,56,2,13,1]) .nil) .nil (.sk 1 (.join 2 [] (rg [79,22,6,1]) .nil (.sk 2 (.step (.loop [(16,ti)] (rg [103,4,109,10,6,1,107,2,16,1]) .nil) .nil .nil)))))))) [Zg #[Zi Zk a,Zi Zk b,Zi Zk c,Zi Zk d,Zl e f g],Zl h i j,Zs k] l R)
 (yF (λa b c d e f g h i j k l m R=>call_n Tryz.func5 (.sk 6 (.step (.loop [(11,ti)] (rg [39,4,45,6,43,2,11,1]) .nil) .nil (.sk 4 (.join 2 [] (rg [65,9,8,1]) .nil (.sk 6 (.step (.loop [(17,ti)] (rg [95,4,18,2,101,4,107,12,18,1,105,2,19,1,119,20,8,1,99,2,17,1]) (.sk 2 (.step (.sk 2 (.step (.loop [(18,tb),(19,ti)] (rg [101,4,107,12,18,1,105,2,19,1]) (.sk 2 (.step (.draw (od [0,5,6,3,5,1,9,4]) .nil) .nil .nil))) .nil (.draw (od [0,4,5,1,4,1,6,14]) .nil))) .nil .nil))) .nil .nil)))))) [Zg #[Zi Zk a,Zi Zk b,Zi Zk c,Zi Zk d,Zl e f g],Zl h i j,Zi .u8 k,Zs l] m R)
 (λa b c d e f g h R=>call_n Tryz.func13 (.sk 3 (.step (.loop [(3,ti),(4,ti)] (rg [10,9,21,5,5,1,26,14,3,1,6,1,40,9,51,19,3,1,49,2,6,1,19,2,4,1]) (.sk 2 (.step (.sk 3 (.step (.loop [(3,ti),(6,ti)] (rg [40,9,51,19,3,1,49,2,6,1]) (.sk 2 (.step (.draw (od [0,2,3,1,10,1,12,1,2,1,4,6,11,1,13,7]) .nil) .nil .nil))) .nil .nil)) .nil .nil))) .nil .nil)) [Zg #[Zi Zk a,Zi Zk b,Zi Zk c,Zi Zk d,Zl e f g]] h R))))
 (yF (yF (λa b c d R=>call_n Tryz.func14 (.sk 3 (.join 1 [(3,ti)] (rg [7,8,17,31,3,1,15,2,4,1]) (.step (.loop [(3,ti),(4,ti)] (rg [7,8,17,31,3,1,15,2,4,1]) (.sk 2 (.step (.draw (od [0,5,9,4,15,4,22,4,5,4,13,2,19,3,26,6]) .nil) .nil .nil))) .nil .nil) .nil)) [Zl a b c] d R)
 (λa b c d e f g R=>call_n Tryz.func18 (.sk 4 (.step (.loop [(5,ti)] (rg [11,4,17,9,4,1,15,2,5,1]) (.sk 2 (.step (.draw (od [0,3,4,3,3,1,7,2]) .nil) .nil .nil))) .nil .nil)) [Zl a b c,Zl d e f] g R))
 (yF (λa b R=>call_n Tryz.func20 (.sk 3 (.step (.loop [(3,tl),(12,ti)] (rg [13,3,5,1,16,12,3,1,28,1,12,1]) .nil) .nil .nil)) [Zq a] b R)
 (yF (λa b c d R=>call_n Tryz.func21 .nil [Zq a,Zi Zk b,Zs c] d R)
 (λa b c R=>call_n Tryz.func22 (.sk 3 (.step (.loop [(6,ti)] (rg [9,4,15,12,4,1,13,2,6,1]) .nil) .nil .nil)) [Zq a,Zi Zk b] c R)))))
 simp -implicitDefEqProofs (maxSteps:=100000000) only[nlB,fl_seq,fl_reg,fl_cond,fl_block,fl_loop,fl_exit,fl_ret,fl_skip,An,Ap,qf4,AE.sk,ra,rg,ro,od,ti,tb,ts,tp,tl,tm,tv,Ar,Nat.reduceMod,Nat.reduceDiv,Nat.reduceBEq,Tryz.f17,Tryz.f19,Tryz.f4,Tryz.f5,Tryz.f13,Tryz.f14,Tryz.f18,Tryz.f20,Tryz.f21,Tryz.f22]at h;simp -implicitDefEqProofs (maxSteps:=100000000) only[↓n_nil0,↓n_nil1,↓n_skip0,↓n_skip1,↓n_reg0,↓n_reg1,↓n_dr,↓n_dr2,↓n_cond0,↓n_cond1,↓n_block0,↓n_block1,↓n_loop,↓n_exit0,↓n_exit1,↓n_ret0,↓n_ret1,↓n_j1,↓n_j2,↓q_t0,↓q_t1,↓q_t2,↓q_b0,↓q_b1,↓q_b2,↓q_f0,↓q_f1,↓s_0,↓s_1,↓oe_0,↓oe_1,↓oe_2,↓de_0,↓de_1,↓se_1,↓s2_1,↓ne_0,↓ne_1,↓ne_2,↓ne_3,↓nt_0,↓nt_1,↓nt_2,↓nt_3,↓nt_4,↓rb_2,↓g_0,↓g_1,↓e_c,↓e_put,↓e_puts,↓v_c,↓v_t,↓v_g,↓v_f,↓nil_s,↓k_ptr,↓k_fun,↓k_ifc,↓bif_t,↓bif_f,↓isn_s,↓isn_n,↓un_not,↓un_neg,↓un_xor,↓mf,↓b_0,↓b_1,↓d_0,↓d_1,↓al_0,↓al_1,↓wl_a,↓wp_a,↓en_1,↓x1_0,↓x2_0,↓x2_1,↓x3_0,↓x3_1,↓x3_2,↓x4_0,↓x4_1,↓x4_2,↓x4_3,↓t_0,↓t_1,↓opR,↓opX,↓opW,↓opP,↓qi7,↓qb9,↓qe8,↓q09,↓qsa,↓ixK,↓q3c,↓slK,↓qc7,↓qj3,↓q86,↓qvc,↓qa2.asT',↓qwa,↓q66,↓asR,↓asT,↓as0,↓exR,↓qta,↓exT,↓exL,↓ex0,↓alT,↓alL,↓al0,↓ld0,↓ldL,↓st0,↓stL,↓exO,a_0,a_1,decide_true,decide_false,cl_a,cl_i,cl_b,cl_s,cl_p,cl_l,cl_m,cl_f,gs,kd,Two.kd,qn4,tup,qqc,qo5,q72,tys,q49,q68,q96,An,Ap,List.append_nil,Option.getD,Ar,undef,Int.cast_ofNat_Int,rep,↓T0,↓T1,↓T2,↓T3,↓T4,↓T5,↓T6,↓T7,↓T8,↓T9,↓T10,↓T11,↓T12,↓TX]at h;exact h
end Nr
def F17_of{a b R}:=Nr.FAx.1.1.1 a b R
def F19_of{a b c R}:=Nr.FAx.1.1.2 a b c R
def F4_of{a b c d e f g h i j k l R}:=Nr.FAx.1.2.1 a b c d e f g h i j k l R
def F13_of{a b c d e f g h R}:=Nr.FAx.1.2.2.2 a b c d e f g h R
def F14_of{a b c d R}:=Nr.FAx.2.1.1 a b c d R
def F18_of{a b c d e f g R}:=Nr.FAx.2.1.2 a b c d e f g R
end
end Go.Proofs.YtfjifcfbmhpcaaaGreatDoor
