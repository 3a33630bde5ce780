/-
  A part of the proof of TopEvicted.
-/
import Derived.Test.YtfjifcfbmhpcaaaGreatDoorV18
import Derived.Test.YtfjifcfbmhpcaaaGreatDoorV14
import Derived.Test.YtfjifcfbmhpcaaaGreatDoorV16
import Derived.Test.YtfjifcfbmhpcaaaGreatDoorV00
set_option linter.defProp false
set_option linter.unusedVariables false
set_option linter.unusedSimpArgs false
namespace Go.Proofs.YtfjifcfbmhpcaaaGreatDoor
open Go
open Go.Proofs.Tryz renaming prog → Zp
open Go.IntKind renaming i64 → Zk, wrap → Zw
open Go.Addr renaming add → Za
open Go.Value renaming int → Zi, string → Zs, pointer → Zq, bool → Zb, tuple → Zt, slice → Zl, agg → Zg
open _root_.Option renaming some->A0,none->A1
open _root_.Bool renaming true->A2,false->A3
open Go renaming Value->A4,World->A9,MapEntry->Af,Addr->Ak,Operand->Ao
open _root_.Nat renaming mul_one->A5,le_refl->Ac,zero_add->An
open _root_.List renaming mem_map->A6,take_of_length_le->A8,length_drop->Ab,getElem?_eq_getElem->Ad,filter_cons->Ae,map_drop->Ag,foldl_append->Ah,map_append->Ai,map_cons->Am
open Go.Value renaming nilFunc->A7
open _root_.Array renaming contains_eq_mem->Aa,mem_push->Aj
def slV(x:Option Ak×List UInt8×Nat):A4:=.slice x.1 x.2.1.length x.2.2
def qyo{W w:A9}{F:List Asn}(s:ByteArray)(h:s.size<=64)(a:St W F w):
 qb Zp 96 #[Zs s] w λv w'=>∃p c,v=Zl p (q25 (qm s)).length c/\St W (qi 5 1 p (q25 (qm s)).length c ((q25 (qm s)).map qd)::F) w':=by
 have:=qlk (qm s) (by rw[qfe];omega) a;rw[<-qch s]at this;exact this
def q1f{W w:A9}{F:List Asn}(m:qk1)(a:St W F w):
 qb Zp 54 #[ql2 m] w λv w'=>∃p c,v=Zl p (q0d m).length c/\St W (qi 5 1 p (q0d m).length c ((q0d m).map qd)::F) w':=by
 refine F54_of (zh a λf w a=>z8 0 a rfl rfl (zg 0 a rfl rfl (zg 0 a rfl rfl (z8 0 a rfl rfl (z8 0 a rfl rfl ((qti m a).of λv w ⟨q,a⟩=>⟨_,q,?_⟩))))));unfold q0d;refine za (λh=>?_) λh=>?_
 .have h:qz6 m=A3:=by simpa using h
  rw[h];exact⟨A1,0,rfl,z1a _ _ _ a.drop⟩
 have h:qz6 m=A2:=by simpa using h
 rw[yB h];have D:=q8i h;have O:=q2n h;obtain⟨R,hB⟩:=q6p h;refine z8 0 a rfl rfl (zh a λb w a=>?_);rw[q2i]at a;have a:St W (Row b 5 [qd (qi5 m.k)]::Row f 74 (q61 m)::F) w:=a;have a:St W (qi 5 1 (A0 ⟨b,0,A1⟩) 1 1 [qd (qi5 m.k)]::Row f 74 (q61 m)::F) w:=qi.whole rfl a;have g:=z6 W (qi 5 1 (A0 ⟨b,0,A1⟩) 1 1 [qd (qi5 m.k)]::Row f 74 (q61 m)::F);refine⟨StC W _,zd a,m.A,zu 1 g rfl rfl,m.B,zu 1 g rfl rfl,m.N,zi 1 g rfl rfl,m.M,zi 1 g rfl rfl,?_⟩;refine zk (α:=Option Ak×Nat) (V:=λy=>.slice y.1 (qa1 m 0).length y.2) (B:=λy=>qi 5 1 y.1 (qa1 m 0).length y.2 ((qa1 m 0).map qd)::qi 5 1 (A0 ⟨b,0,A1⟩) 1 1 [qd (qi5 m.k)]::Row f 74 (q61 m)::F) (A1,0) g (λG w h=>(qyo m.A R h).of λv w' ⟨p,c,q,h⟩=>⟨_,_,_,q,(p,c),rfl,h⟩) λd=>?_;have g:=z6 W (qi 5 1 d.1 (qa1 m 0).length d.2 ((qa1 m 0).map qd)::qi 5 1 (A0 ⟨b,0,A1⟩) 1 1 [qd (qi5 m.k)]::Row f 74 (q61 m)::F);refine⟨_,_,_,rfl,⟨zi 2 g rfl rfl,zi 2 g rfl rfl,zu 2 g rfl rfl⟩,?_⟩;refine zk (α:=Option Ak×Nat) (V:=λy=>.slice y.1 (qa1 m 1).length y.2) (B:=λy=>qi 5 1 y.1 (qa1 m 1).length y.2 ((qa1 m 1).map qd)::qi 5 1 d.1 (qa1 m 0).length d.2 ((qa1 m 0).map qd)::qi 5 1 (A0 ⟨b,0,A1⟩) 1 1 [qd (qi5 m.k)]::Row f 74 (q61 m)::F) (A1,0) g (λG w h=>(qyo m.B hB h).of λv w' ⟨p,c,q,h⟩=>⟨_,_,_,q,(p,c),rfl,h⟩) λn=>?_;have g:=z6 W (qi 5 1 n.1 (qa1 m 1).length n.2 ((qa1 m 1).map qd)::qi 5 1 d.1 (qa1 m 0).length d.2 ((qa1 m 0).map qd)::qi 5 1 (A0 ⟨b,0,A1⟩) 1 1 [qd (qi5 m.k)]::Row f 74 (q61 m)::F);refine⟨_,_,_,rfl,⟨zi 3 g rfl rfl,zi 3 g rfl rfl⟩,?_⟩;refine zk (α:=Option Ak×Nat) (V:=λy=>.slice y.1 (qa1 m 2).length y.2) (B:=λy=>qi 5 1 y.1 (qa1 m 2).length y.2 ((qa1 m 2).map qd)::qi 5 1 n.1 (qa1 m 1).length n.2 ((qa1 m 1).map qd)::qi 5 1 d.1 (qa1 m 0).length d.2 ((qa1 m 0).map qd)::qi 5 1 (A0 ⟨b,0,A1⟩) 1 1 [qd (qi5 m.k)]::Row f 74 (q61 m)::F) (A1,0) g (λG w h=>(q1k m.N h).of λv w' ⟨p,c,q,h⟩=>⟨_,_,_,q,(p,c),rfl,h⟩) λr=>?_;have g:=z6 W (qi 5 1 r.1 (qa1 m 2).length r.2 ((qa1 m 2).map qd)::qi 5 1 n.1 (qa1 m 1).length n.2 ((qa1 m 1).map qd)::qi 5 1 d.1 (qa1 m 0).length d.2 ((qa1 m 0).map qd)::qi 5 1 (A0 ⟨b,0,A1⟩) 1 1 [qd (qi5 m.k)]::Row f 74 (q61 m)::F);refine⟨_,_,_,rfl,zi 4 g rfl rfl,?_⟩;refine zk (α:=Option Ak×Nat) (V:=λy=>.slice y.1 (qa1 m 3).length y.2) (B:=λy=>qi 5 1 y.1 (qa1 m 3).length y.2 ((qa1 m 3).map qd)::qi 5 1 r.1 (qa1 m 2).length r.2 ((qa1 m 2).map qd)::qi 5 1 n.1 (qa1 m 1).length n.2 ((qa1 m 1).map qd)::qi 5 1 d.1 (qa1 m 0).length d.2 ((qa1 m 0).map qd)::qi 5 1 (A0 ⟨b,0,A1⟩) 1 1 [qd (qi5 m.k)]::Row f 74 (q61 m)::F) (A1,0) g (λG w h=>(q1k m.M h).of λv w' ⟨p,c,q,h⟩=>⟨_,_,_,q,(p,c),rfl,h⟩) λA=>?_;refine⟨_,_,_,rfl,trivial,λe G w h=>?_⟩;obtain⟨T,E⟩:∃T,T=qi 5 1 A.1 (qa1 m 3).length A.2 ((qa1 m 3).map qd)::qi 5 1 r.1 (qa1 m 2).length r.2 ((qa1 m 2).map qd)::qi 5 1 n.1 (qa1 m 1).length n.2 ((qa1 m 1).map qd)::qi 5 1 d.1 (qa1 m 0).length d.2 ((qa1 m 0).map qd)::([]:List Asn):=⟨_,rfl⟩;obtain⟨P,I⟩:∃P:List (Option Ak×List UInt8×Nat),P=[(d.1,qa1 m 0,d.2),(n.1,qa1 m 1,n.2),(r.1,qa1 m 2,r.2),(A.1,qa1 m 3,A.2)]:=⟨_,rfl⟩;have a:St W (Row e 22 (P.map slV)::(T++(qi 5 1 (A0 ⟨b,0,A1⟩) 1 1 [qd (qi5 m.k)]::Row f 74 (q61 m)::F))) w:=by subst E;subst I;have Y:=zb (l:=Pt e _::(qi 5 1 A.1 (qa1 m 3).length A.2 ((qa1 m 3).map qd)::qi 5 1 r.1 (qa1 m 2).length r.2 ((qa1 m 2).map qd)::qi 5 1 n.1 (qa1 m 1).length n.2 ((qa1 m 1).map qd)::qi 5 1 d.1 (qa1 m 0).length d.2 ((qa1 m 0).map qd)::qi 5 1 (A0 ⟨b,0,A1⟩) 1 1 [qd (qi5 m.k)]::Row f 74 (q61 m)::F)) (StC.pushed h);exact Y.imp z0c
 have N:∀(F':List Asn) (i:Nat) x,P[i]?=A0 x->x.2.1=qa1 m i/\Rd (Row e 22 (P.map slV)::(T++F')) x.1 (x.2.1.map qd):=λF' i x t=>by
  subst E;subst I
  match i with
  |0=>cases t;exact⟨rfl,z06 4 rfl λF=>z0j F⟩
  |1=>cases t;exact⟨rfl,z06 3 rfl λF=>z0j F⟩
  |2=>cases t;exact⟨rfl,z06 2 rfl λF=>z0j F⟩
  |3=>cases t;exact⟨rfl,z06 1 rfl λF=>z0j F⟩
  |i+4=>simp at t
 have h3:P.length=4:=by subst I;rfl
 clear g h;have e0:St W (qi 5 1 (A0 ⟨b,0,A1⟩) (qq3 m 0).length 1 ((qq3 m 0).map qd)::Row e 22 (P.map slV)::(T++(Row f 74 (q61 m)::F))) w:=z0b a (by show(Row e 22 (P.map slV)::(T++_)).Perm _;exact(List.Perm.cons _ List.perm_middle).trans (List.Perm.swap _ _ _))
 have e4:Row e 22 [Zl d.1 (qa1 m 0).length d.2]=Row e 22 [Zl d.1 (qa1 m 0).length d.2]:=rfl;refine⟨λvs w=>∃p i c,vs=[Zl p (qq3 m i).length c,Zi Zk ((i:Nat):Int)]/\i<=4/\St W (qi 5 1 p (qq3 m i).length c ((qq3 m i).map qd)::Row e 22 (P.map slV)::(T++(Row f 74 (q61 m)::F))) w,leftN 4,⟨A0 ⟨b,0,A1⟩,0,1,rfl,by omega,e0⟩,λC n1 c1 x w hI=>?_⟩;clear a e0;obtain⟨p2,i,c2,X,hi,a⟩:=hI;cases X;refine za (λu=>?_) λH=>?_
 .have u:i<4:=by have:=yC u;omega
  have t:P[i]?=A0 (P[i]'(by omega)):=Ad _;generalize P[i]'(by omega)=x at t;obtain⟨s,K⟩:=N (Row f 74 (q61 m)::F) i x t;refine IxP.row rfl u (LdL.n 1 a rfl (p:=x.1) (m:=x.2.1.length) (c:=x.2.2) (by rw[List.getElem?_map,t];rfl) ?_);have hm:∃k,nth (qi 5 1 C (qq3 m i).length c1 ((qq3 m i).map qd)::Row e 22 (P.map slV)::(T++(Row f 74 (q61 m)::F))) k=A0 (Row f 74 (q61 m)):=by subst E;exact⟨6,rfl⟩
  obtain⟨k7,L⟩:=hm;refine z8 k7 a L rfl ((qlf m.k a).of λv w ⟨q,a⟩=>⟨_,q,by omega,?_⟩);have Q:=up u (by omega);rw[Q];have o:=qkg m i;refine za (λz=>?_) λz=>?_
  .have z:q2h (qj4 m.k) i=A2:=z;rw[yB z]at o;have h1:=D i;have U:=O i;rw[<-s]at U;refine qp8 uB (.inr ⟨_,uB⟩) iU8 sU8 zU8 rfl a (xs:=x.2.1.map qd) (m:=x.2.1.length) K (by simp) q82 (by rw[bU8];omega) (by omega) λp3 Z w' h=>⟨_,_,_,rfl,?_⟩;rw[<-Ai,s,<-o]at h;have J:(qq3 m i).length+x.2.1.length=(qq3 m (i+1)).length:=by rw[o,s,List.length_append]
   rw[J];rw[s]at J;rw[J]at h;exact⟨⟨p3,i+1,Z,rfl,by omega,h⟩,by show 4 -(i+1)<4 - i;omega⟩
  .have z:q2h (qj4 m.k) i=A3:=z;rw[yA (by rw[z];simp)]at o;have:=(⟨⟨C,i+1,c1,by rw[o],by omega,by rw[o];exact a⟩,by show 4 -(i+1)<4 - i;omega⟩:(∃p j c,[Zl C (qq3 m i).length c1,Zi Zk ((i+1:Nat):Int)]=[Zl p (qq3 m j).length c,Zi Zk ((j:Nat):Int)]/\j<=4/\St W (qi 5 1 p (qq3 m j).length c ((qq3 m j).map qd)::Row e 22 (P.map slV)::(T++(Row f 74 (q61 m)::F))) w)/\leftN 4 [Zl C (qq3 m i).length c1,Zi Zk ((i+1:Nat):Int)] w<leftN 4 [Zl C (qq3 m i).length c1,Zi Zk (i:Int)] w);exact this
 have M:i=4:=by have:=yD H;omega
 subst M;refine⟨C,c1,rfl,?_⟩;subst E;exact z03 1 (z03 1 (z03 1 (z03 1 (z03 1 (z03 1 a rfl) rfl) rfl) rfl) rfl) rfl
def q3x(b:List UInt8):(qr3 b).2.1<=b.length:=by
 unfold qr3;split;.simp
 .split;.simp
  .dsimp only;omega
def qvx(b:List UInt8):(q05 b).2.1<=b.length:=by
 unfold q05;split;.simp
 .rename_i e h;have:=(List.findIdx?_eq_some_iff_getElem.1 h).1;rw[List.length_take]at this;split;.simp
  .split;.simp
   .dsimp only;omega
def qyi{W w:A9}{F:List Asn}{d:List UInt8}{p:Option Ak}{c:Nat}(s:Rd F p (d.map qd))(u:d.length<=c){i g f j:Nat}{e:Bool}{ms:List A4}(A:j<ms.length)
 (m:St W (Row i 22 [Zl p d.length c]::Row g 4 [Zb e]::Row f 74 ms::F) w):
 qb Zp 245 #[Zq (A0 ⟨f,j,A1⟩),Zq (A0 ⟨i,0,A1⟩),Zq (A0 ⟨g,0,A1⟩)] w λv w'=>v=Zt #[]/\∃l t,Rd F l ((d.drop (qr3 d).2.1).map qd)/\(d.drop (qr3 d).2.1).length<=t/\
  St W (Row i 22 [.slice l (d.drop (qr3 d).2.1).length t]::Row g 4 [Zb (e&&(qr3 d).2.2)]::Row f 74 (ms.set j (Zs (mkS (qr3 d).1)))::F) w':=by
 refine F245_of (LdL.n 0 m rfl rfl ((qlr (((s.cons _).cons _).cons _) u m).of λv w ⟨z,m⟩=>⟨_,_,_,z,?_⟩));have n:=q3x d;have o:=z6 W (Row i 22 [Zl p d.length c]::Row g 4 [Zb e]::Row f 74 ms::F);refine⟨StC W _,zd m,z7 ⟨_,_,_,QtL.n 0 o rfl rfl,SlP.i (a:=(qr3 d).2.1) (b:=d.length) s (by simp) u rfl rfl n (Ac _) λl k=>⟨e,QtB.n 1 o rfl rfl,?_⟩⟩⟩;have x:((d.map qd).drop ((qr3 d).2.1*1)).take ((d.length -(qr3 d).2.1)*1)=(d.drop (qr3 d).2.1).map qd:=by rw[A5,A5,<-Ag,A8 (by simp)]
 rw[x]at k;have y:d.length -(qr3 d).2.1=(d.drop (qr3 d).2.1).length:=by rw[Ab]
 rw[y];have q:(d.drop (qr3 d).2.1).length<=c -(qr3 d).2.1:=by rw[Ab];omega
 refine za (λr=>?_) λr=>?_<;>refine Ef.st 2 o rfl A ⟨rfl,QtL.n 0 ir rfl rfl,Ef.st 0 ir rfl (by simp) ⟨rfl,trivial,Ef.st 1 ir rfl (by simp) ⟨rfl,trivial,λG w h=>⟨rfl,l,_,k,q,?_⟩⟩⟩⟩<;>rw[r];.exact zb h
 .exact zb h
def qqj{W w:A9}{F:List Asn}{d:List UInt8}{p:Option Ak}{c:Nat}(s:Rd F p (d.map qd))(u:d.length<=c){i g f j:Nat}{e:Bool}{ms:List A4}(A:j<ms.length)
 (m:St W (Row i 22 [Zl p d.length c]::Row g 4 [Zb e]::Row f 74 ms::F) w):
 qb Zp 247 #[Zq (A0 ⟨f,j,A1⟩),Zq (A0 ⟨i,0,A1⟩),Zq (A0 ⟨g,0,A1⟩)] w λv w'=>v=Zt #[]/\∃l t,Rd F l ((d.drop (q05 d).2.1).map qd)/\(d.drop (q05 d).2.1).length<=t/\
  St W (Row i 22 [.slice l (d.drop (q05 d).2.1).length t]::Row g 4 [Zb (e&&(q05 d).2.2)]::Row f 74 (ms.set j (Zi Zk (q05 d).1))::F) w':=by
 refine F247_of (LdL.n 0 m rfl rfl ((qat (((s.cons _).cons _).cons _) u m).of λv w ⟨z,m⟩=>⟨_,_,_,z,?_⟩));have n:=qvx d;have o:=z6 W (Row i 22 [Zl p d.length c]::Row g 4 [Zb e]::Row f 74 ms::F);refine⟨StC W _,zd m,z7 ⟨_,_,_,QtL.n 0 o rfl rfl,SlP.i (a:=(q05 d).2.1) (b:=d.length) s (by simp) u rfl rfl n (Ac _) λl k=>⟨e,QtB.n 1 o rfl rfl,?_⟩⟩⟩;have x:((d.map qd).drop ((q05 d).2.1*1)).take ((d.length -(q05 d).2.1)*1)=(d.drop (q05 d).2.1).map qd:=by rw[A5,A5,<-Ag,A8 (by simp)]
 rw[x]at k;have y:d.length -(q05 d).2.1=(d.drop (q05 d).2.1).length:=by rw[Ab]
 rw[y];have q:(d.drop (q05 d).2.1).length<=c -(q05 d).2.1:=by rw[Ab];omega
 refine za (λr=>?_) λr=>?_<;>refine Ef.st 2 o rfl A ⟨rfl,QtL.n 0 ir rfl rfl,Ef.st 0 ir rfl (by simp) ⟨rfl,trivial,Ef.st 1 ir rfl (by simp) ⟨rfl,trivial,λG w h=>⟨rfl,l,_,k,q,?_⟩⟩⟩⟩<;>rw[r];.exact zb h
 .exact zb h
def zM:qk1:=⟨0,e0,e0,0,0⟩
abbrev GSt:=qk1×List UInt8×Bool
def qqf(k:Int)(s:GSt)(i:Nat):GSt:=
 if q2h k i=A2 then
  match i with
  |0=>({ s.1 with A:=mkS (qr3 s.2.1).1},s.2.1.drop (qr3 s.2.1).2.1,s.2.2&&(qr3 s.2.1).2.2)
  |1=>({ s.1 with B:=mkS (qr3 s.2.1).1},s.2.1.drop (qr3 s.2.1).2.1,s.2.2&&(qr3 s.2.1).2.2)
  |2=>({ s.1 with N:=(q05 s.2.1).1},s.2.1.drop (q05 s.2.1).2.1,s.2.2&&(q05 s.2.1).2.2)
  |_=>({ s.1 with M:=(q05 s.2.1).1},s.2.1.drop (q05 s.2.1).2.1,s.2.2&&(q05 s.2.1).2.2)
 else s
def qc6(x:UInt8)(r:List UInt8)(i:Nat):GSt:=(List.range i).foldl (qqf (qj4 (x.toNat:Int))) (⟨(x.toNat:Int),e0,e0,0,0⟩,r,A2)
def qxg(b:List UInt8):qk1×Bool:=
 match b with
 |[]=>(zM,A3)
 |x::r=>if(qc6 x r 4).2.2=A2/\(qc6 x r 4).2.1=[]/\qz6 (qc6 x r 4).1=A2 then((qc6 x r 4).1,A2)else(zM,A3)
def qdi(x:UInt8)(r:List UInt8)(i:Nat):qc6 x r (i+1)=qqf (qj4 (x.toNat:Int)) (qc6 x r i) i:=by unfold qc6;rw[List.range_succ,Ah];rfl
def qdp(x:UInt8)(r:List UInt8):∀i,(qc6 x r i).1.k=(x.toNat:Int)
 |0=>rfl
 |i+1=>by
  rw[qdi];have:=qdp x r i;unfold qqf;split;.split<;>exact this
  .exact this
def fnT(i b c:Nat):A4:=.func (.func (match i with|0=>249|1=>250|2=>251|_=>252)) #[] #[Zq (A0 ⟨b,0,A1⟩),Zq (A0 ⟨c,0,A1⟩)]
def qtj{W w:A9}{F:List Asn}{p:Option Ak}{c:Nat}{b:List UInt8}(hr:Rd F p (b.map qd))(hc:b.length<=c)(d:St W F w):
 qb Zp 167 #[Zl p b.length c] w λv w'=>v=Zt #[ql2 (qxg b).1,Zb (qxg b).2]/\St W F w':=by
 refine F167_of (zh d λM w d=>za (λh=>?_) λh=>?_)
 .have G:b=[]:=by simpa using h
  subst G;refine St1.zz 0 d rfl λw d=>St1.zz 0 d rfl λw d=>St1.zz 0 d rfl λw d=>St1.zz 0 d rfl λw d=>St1.zz 0 d rfl λw d=>?_;exact z8 0 d rfl rfl (zg 0 d rfl rfl (zg 0 d rfl rfl (z8 0 d rfl rfl (z8 0 d rfl rfl ⟨rfl,d.drop⟩))))
 cases b with
 |nil=>simp at h
 |cons x r=>
 have hx:x.toNat<256:=x.toNat_lt;refine z0l (hr.cons _) d rfl (k:=0) (by simp) (v:=qd x) rfl λa ha=>zt ha (zh d λe w d=>?_);rw[w64 (n:=(x.toNat:Int)) (by omega) (by omega)];refine St1.zz 0 d rfl λw d=>St1.zz 0 d rfl λw d=>St1.zz 0 d rfl λw d=>St1.zz 0 d rfl λw d=>St1.zz 0 d rfl λw d=>?_;refine SlP.i (a:=1) (b:=(x::r).length) hr (by simp) hc rfl rfl (by simp) (Ac _) λY N=>?_;have e1:(((x::r).map qd).drop (1*1)).take (((x::r).length - 1)*1)=r.map qd:=by rw[A5,A5,<-Ag,A8 (by simp)];rfl
 rw[e1]at N;have e2:(x::r).length - 1=r.length:=by simp
 rw[e2];have X:r.length<=c - 1:=by simp at hc;omega
 refine zh d λm w d=>zh d λl w d=>z0n 1 d rfl (by simp) λw d=>z0n 0 d rfl (by simp) λw d=>zh d λf w d=>⟨trivial,z0n 0 d rfl (by simp) λw d=>zh d λg w d=>⟨trivial,z0n 0 d rfl (by simp) λw d=>zh d λu w d=>?_⟩⟩;have d:St W (Row m 22 [Zl Y r.length (c - 1)]::Row l 4 [Zb A2]::Row e 74 (q61 ⟨(x.toNat:Int),e0,e0,0,0⟩)::(Row u 1 [fnT 0 f e,fnT 1 f e,fnT 2 g e,fnT 3 g e]::Row g 363 [.func (.func 247) #[] #[Zq (A0 ⟨m,0,A1⟩),Zq (A0 ⟨l,0,A1⟩)]]::Row f 359 [.func (.func 245) #[] #[Zq (A0 ⟨m,0,A1⟩),Zq (A0 ⟨l,0,A1⟩)]]::Row M 74 (q61 zM)::F)) w:=zf 5 2 (zf 4 1 (zf 4 0 d rfl) rfl) rfl;refine⟨λvs w=>∃(i:Nat) (H:Option Ak) (c1:Nat),vs=[Zi Zk i]/\i<=4/\Rd (Row u 1 [fnT 0 f e,fnT 1 f e,fnT 2 g e,fnT 3 g e]::Row g 363 [.func (.func 247) #[] #[Zq (A0 ⟨m,0,A1⟩),Zq (A0 ⟨l,0,A1⟩)]]::Row f 359 [.func (.func 245) #[] #[Zq (A0 ⟨m,0,A1⟩),Zq (A0 ⟨l,0,A1⟩)]]::Row M 74 (q61 zM)::F) H ((qc6 x r i).2.1.map qd)/\(qc6 x r i).2.1.length<=c1/\St W (Row m 22 [Zl H (qc6 x r i).2.1.length c1]::Row l 4 [Zb (qc6 x r i).2.2]::Row e 74 (q61 (qc6 x r i).1)::(Row u 1 [fnT 0 f e,fnT 1 f e,fnT 2 g e,fnT 3 g e]::Row g 363 [.func (.func 247) #[] #[Zq (A0 ⟨m,0,A1⟩),Zq (A0 ⟨l,0,A1⟩)]]::Row f 359 [.func (.func 245) #[] #[Zq (A0 ⟨m,0,A1⟩),Zq (A0 ⟨l,0,A1⟩)]]::Row M 74 (q61 zM)::F)) w,leftN 4,⟨0,Y,c - 1,rfl,by omega,(((N.cons _).cons _).cons _).cons _,X,d⟩,λy w hI=>?_⟩;clear d N;obtain⟨i,H,c1,he,hi,A,t,d⟩:=hI;cases he;have R:=qdp x r i;have o:=qdi x r i;refine za (λB=>?_) λQ=>?_
 .have B:i<4:=by have:=yC B;omega
  have U:[fnT 0 f e,fnT 1 f e,fnT 2 g e,fnT 3 g e][i]?=A0 (fnT i (if i<2 then f else g) e):=by
   match i,B with
   |0,_=>rfl
   |1,_=>rfl
   |2,_=>rfl
   |3,_=>rfl
  have V:=up B (by omega);refine IxP.row rfl B (LdV.n 3 d rfl U (z8 2 d rfl rfl ((qlf (qc6 x r i).1.k d).of λv P ⟨D,q⟩=>⟨_,D,by omega,?_⟩)));clear d;rw[V,R];have C:∀Z wb,leftN 4 [Zi Zk ((i+1:Nat):Int)] Z<leftN 4 [Zi Zk (i:Int)] wb:=λZ wb=>by show 4 -(i+1)<4 - i;omega
  generalize qc6 x r i=s at A t q o R;unfold qqf at o;refine za (λG=>?_) λG=>?_
  .have G:q2h (qj4 (x.toNat:Int)) i=A2:=G;rw[yB G]at o;have big:∀{rest:List UInt8},True:=λ{_}=>trivial
   match i,B with
   |0,_=>
    refine zw (by kernel_rfl) ?_;refine F249_of (cap1:=⟨f,0,A1⟩) (cap2:=⟨e,0,A1⟩) ?_;have z:P.cell? ⟨f,0,A1⟩=A0 (.func (.func 245) #[] #[Zq (A0 ⟨m,0,A1⟩),Zq (A0 ⟨l,0,A1⟩)]):=q.cell 5 rfl rfl;refine⟨_,z,?_⟩;rw[qi1];refine zw (by kernel_rfl) ((qyi (j:=0+1) A t (by simp[q61]) q).of λv w ⟨D,J,O,I,K,d⟩=>⟨D,rfl,⟨1,J,O,rfl,by omega,?_,?_,?_⟩,C _ _⟩)<;>rw[o];.exact I
    .exact K
    .exact d
   |1,_=>
    refine zw (by kernel_rfl) ?_;refine F250_of (cap1:=⟨f,0,A1⟩) (cap2:=⟨e,0,A1⟩) ?_;have z:P.cell? ⟨f,0,A1⟩=A0 (.func (.func 245) #[] #[Zq (A0 ⟨m,0,A1⟩),Zq (A0 ⟨l,0,A1⟩)]):=q.cell 5 rfl rfl;refine⟨_,z,?_⟩;rw[qi1];refine zw (by kernel_rfl) ((qyi (j:=0+2) A t (by simp[q61]) q).of λv w ⟨D,J,O,I,K,d⟩=>⟨D,rfl,⟨2,J,O,rfl,by omega,?_,?_,?_⟩,C _ _⟩)<;>rw[o];.exact I
    .exact K
    .exact d
   |2,_=>
    refine zw (by kernel_rfl) ?_;refine F251_of (cap1:=⟨g,0,A1⟩) (cap2:=⟨e,0,A1⟩) ?_;have z:P.cell? ⟨g,0,A1⟩=A0 (.func (.func 247) #[] #[Zq (A0 ⟨m,0,A1⟩),Zq (A0 ⟨l,0,A1⟩)]):=q.cell 4 rfl rfl;refine⟨_,z,?_⟩;rw[qi1];refine zw (by kernel_rfl) ((qqj (j:=0+3) A t (by simp[q61]) q).of λv w ⟨D,J,O,I,K,d⟩=>⟨D,rfl,⟨3,J,O,rfl,by omega,?_,?_,?_⟩,C _ _⟩)<;>rw[o];.exact I
    .exact K
    .exact d
   |3,_=>
    refine zw (by kernel_rfl) ?_;refine F252_of (cap1:=⟨g,0,A1⟩) (cap2:=⟨e,0,A1⟩) ?_;have z:P.cell? ⟨g,0,A1⟩=A0 (.func (.func 247) #[] #[Zq (A0 ⟨m,0,A1⟩),Zq (A0 ⟨l,0,A1⟩)]):=q.cell 4 rfl rfl;refine⟨_,z,?_⟩;rw[qi1];refine zw (by kernel_rfl) ((qqj (j:=0+4) A t (by simp[q61]) q).of λv w ⟨D,J,O,I,K,d⟩=>⟨D,rfl,⟨4,J,O,rfl,by omega,?_,?_,?_⟩,C _ _⟩)<;>rw[o];.exact I
    .exact K
    .exact d
  .have G:q2h (qj4 (x.toNat:Int)) i=A3:=G;rw[yA (by rw[G];simp)]at o;exact⟨⟨i+1,H,c1,rfl,by omega,by rw[o];exact A,by rw[o];exact t,by rw[o];exact q⟩,C _ _⟩
 have T:i=4:=by have:=yD Q;omega
 subst T;unfold qxg;dsimp only;generalize qc6 x r 4=s at A t d R;refine LdB.n 1 d rfl rfl (za (λL=>?_) λL=>?_)
 .have L:¬s.2.2=A2:=by simpa using L
  rw[yA (λh=>L h.1)];refine St1.zz 6 d rfl λw d=>St1.zz 6 d rfl λw d=>St1.zz 6 d rfl λw d=>St1.zz 6 d rfl λw d=>St1.zz 6 d rfl λw d=>?_;have d:St W (Row m 22 [Zl H s.2.1.length c1]::Row l 4 [Zb s.2.2]::Row e 74 (q61 s.1)::(Row u 1 [fnT 0 f e,fnT 1 f e,fnT 2 g e,fnT 3 g e]::Row g 363 [.func (.func 247) #[] #[Zq (A0 ⟨m,0,A1⟩),Zq (A0 ⟨l,0,A1⟩)]]::Row f 359 [.func (.func 245) #[] #[Zq (A0 ⟨m,0,A1⟩),Zq (A0 ⟨l,0,A1⟩)]]::Row M 74 (q61 zM)::F)) w:=d;exact z8 6 d rfl rfl (zg 6 d rfl rfl (zg 6 d rfl rfl (z8 6 d rfl rfl (z8 6 d rfl rfl ⟨rfl,z0f [_,_,_,_,_,_,_] d⟩))))
 have L:s.2.2=A2:=by simpa using L
 refine LdL.n 0 d rfl rfl (za (λE=>?_) λE=>?_)
 .have E:=yC E;rw[yA (λh=>by rw[h.2.1]at E;simp at E)];refine St1.zz 6 d rfl λw d=>St1.zz 6 d rfl λw d=>St1.zz 6 d rfl λw d=>St1.zz 6 d rfl λw d=>St1.zz 6 d rfl λw d=>?_;have d:St W (Row m 22 [Zl H s.2.1.length c1]::Row l 4 [Zb s.2.2]::Row e 74 (q61 s.1)::(Row u 1 [fnT 0 f e,fnT 1 f e,fnT 2 g e,fnT 3 g e]::Row g 363 [.func (.func 247) #[] #[Zq (A0 ⟨m,0,A1⟩),Zq (A0 ⟨l,0,A1⟩)]]::Row f 359 [.func (.func 245) #[] #[Zq (A0 ⟨m,0,A1⟩),Zq (A0 ⟨l,0,A1⟩)]]::Row M 74 (q61 zM)::F)) w:=d;exact z8 6 d rfl rfl (zg 6 d rfl rfl (zg 6 d rfl rfl (z8 6 d rfl rfl (z8 6 d rfl rfl ⟨rfl,z0f [_,_,_,_,_,_,_] d⟩))))
 have E:=yD E;have E:s.2.1=[]:=List.length_eq_zero_iff.1 (by omega);refine z8 2 d rfl rfl (zg 2 d rfl rfl (zg 2 d rfl rfl (z8 2 d rfl rfl (z8 2 d rfl rfl ((qti s.1 d).of λv w ⟨D,d⟩=>⟨_,D,za (λC=>?_) λC=>?_⟩)))))
 .have C:¬qz6 s.1=A2:=by simpa using C
  rw[yA (λh=>C h.2.2)];refine St1.zz 6 d rfl λw d=>St1.zz 6 d rfl λw d=>St1.zz 6 d rfl λw d=>St1.zz 6 d rfl λw d=>St1.zz 6 d rfl λw d=>?_;have d:St W (Row m 22 [Zl H s.2.1.length c1]::Row l 4 [Zb s.2.2]::Row e 74 (q61 s.1)::(Row u 1 [fnT 0 f e,fnT 1 f e,fnT 2 g e,fnT 3 g e]::Row g 363 [.func (.func 247) #[] #[Zq (A0 ⟨m,0,A1⟩),Zq (A0 ⟨l,0,A1⟩)]]::Row f 359 [.func (.func 245) #[] #[Zq (A0 ⟨m,0,A1⟩),Zq (A0 ⟨l,0,A1⟩)]]::Row M 74 (q61 zM)::F)) w:=d;exact z8 6 d rfl rfl (zg 6 d rfl rfl (zg 6 d rfl rfl (z8 6 d rfl rfl (z8 6 d rfl rfl ⟨rfl,z0f [_,_,_,_,_,_,_] d⟩))))
 have C:qz6 s.1=A2:=by simpa using C
 rw[yB ⟨L,E,C⟩];refine z8 2 d rfl rfl (zg 2 d rfl rfl (zg 2 d rfl rfl (z8 2 d rfl rfl (z8 2 d rfl rfl ?_))));refine St1.zz 6 d rfl λw d=>St1.zz 6 d rfl λw d=>St1.zz 6 d rfl λw d=>St1.zz 6 d rfl λw d=>St1.zz 6 d rfl λw d=>?_;have d:St W (Row m 22 [Zl H s.2.1.length c1]::Row l 4 [Zb s.2.2]::Row e 74 (q61 s.1)::(Row u 1 [fnT 0 f e,fnT 1 f e,fnT 2 g e,fnT 3 g e]::Row g 363 [.func (.func 247) #[] #[Zq (A0 ⟨m,0,A1⟩),Zq (A0 ⟨l,0,A1⟩)]]::Row f 359 [.func (.func 245) #[] #[Zq (A0 ⟨m,0,A1⟩),Zq (A0 ⟨l,0,A1⟩)]]::Row M 74 (q61 s.1)::F)) w:=d;exact z8 6 d rfl rfl (zg 6 d rfl rfl (zg 6 d rfl rfl (z8 6 d rfl rfl (z8 6 d rfl rfl ⟨rfl,z0f [_,_,_,_,_,_,_] d⟩))))
section
structure qw6 where
 st:Nat
 ten:ByteArray
 tok:ByteArray
 nonce:ByteArray
 known:Bool
def qjh(b st:Nat):A4:=match st with|0=>.func (.func 186) #[qc b] #[]|1=>.func (.func 269) #[qc b] #[]|_=>.nilFunc
def shV(vb b:Nat)(d:qw6):List A4:=[qc vb,qjh b d.st,Zs d.ten,Zs d.tok,Zs d.nonce,Zb d.known]
def qx2(vb b:Nat)(d:qw6):Asn:=Row b 304 (shV vb b d)
def qhx(s:ByteArray):ByteArray:=s.extract 0 (Int.toNat (if 64<(s.size:Int)then 64 else(s.size:Int)))
def qe9(e:Int):qk1:=⟨5,e0,e0,e,0⟩
def q0f(d:qw6)(m:qk1)(nonce:ByteArray):qw6×qk1:=
 if m.k≠1 then({ d with st:=2},qe9 1)else({ d with ten:=m.A,tok:=m.B,nonce:=qhx nonce,st:=1},⟨2,qhx nonce,e0,0,0⟩)
def qkf(c:qy)(R:qva)(d:qw6)(m:qk1)(now:Int):qw6×qk1:=
 if m.k≠3 then({ d with st:=2},qe9 1)else
 if qfb c R d.ten d.tok d.nonce m.A now≠0 then({ d with st:=2},qe9 (qfb c R d.ten d.tok d.nonce m.A now))else({ d with st:=2,known:=A2},⟨4,e0,e0,0,0⟩)
def q75(c:qy)(R:qva)(d:qw6)(m:qk1)(now:Int)(nonce:ByteArray):qw6×qk1×Bool:=
 match d.st with
 |0=>((q0f d m nonce).1,(q0f d m nonce).2,A2)
 |1=>((qkf c R d m now).1,(qkf c R d m now).2,A2)
 |_=>(d,zM,A3)
section
variable{W w:World}{F:List Asn}{b vb:Nat}{c:qy}{R:qva}{d:qw6}{m:qk1}{now:Int}{nonce:ByteArray}
def q7r(h:St W F w):qb Zp 121 #[qc vb] w λv w'=>∃b,v=qc b/\St W (qx2 vb b ⟨0,e0,e0,e0,A3⟩::F) w':=
 F121_of (zh h λb w h=>⟨trivial,St1.zz 0 h rfl λw h=>⟨b,rfl,h⟩⟩)
def qpa{e:Int}(h:St W (qx2 vb b d::F) w):qb Zp 268 #[qc b,Zi Zk e] w λv w'=>v=ql2 (qe9 e)/\St W (qx2 vb b { d with st:=2}::F) w':=by refine F268_of (zh h λa w h=>z7 ⟨trivial,?_⟩);have h:St W (Row a 74 [Zi Zk 0,Zs ⟨#[]⟩,Zs ⟨#[]⟩,Zi Zk 0,Zi Zk 0]::Row b 304 (shV vb b d)::F) w:=h;refine St1.zz 1 h rfl λw h=>St1.zz 0 h rfl λw h=>St1.zz 0 h rfl λw h=>St1.zz 0 h rfl λw h=>St1.zz 0 h rfl λw h=>St1.zz 0 h rfl λw h=>?_;exact z8 0 h rfl rfl (zg 0 h rfl rfl (zg 0 h rfl rfl (z8 0 h rfl rfl (z8 0 h rfl rfl ⟨rfl,h.drop⟩))))
def q6m(j:d.st=0)(a:St W (qx2 vb b d::F) w):qb Zp 186 #[qc b,ql2 m,Zi Zk now,Zs nonce] w λv w'=>v=ql2 (q0f d m nonce).2/\St W (qx2 vb b (q0f d m nonce).1::F) w':=by
 unfold q0f;refine F186_of (zh a λg w a=>zh a λf w a=>z8 1 a rfl rfl (za (λh=>?_) λh=>?_))
 .have h:m.k≠1:=by simpa using h
  rw[yB h];refine(qpa (e:=1) (d:=d) (zf 2 0 a rfl)).of λv w ⟨i,a⟩=>⟨_,_,_,_,_,i,?_⟩;refine St1.zz 1 a rfl λw a=>St1.zz 1 a rfl λw a=>St1.zz 1 a rfl λw a=>St1.zz 1 a rfl λw a=>St1.zz 1 a rfl λw a=>?_;exact z8 1 a rfl rfl (zg 1 a rfl rfl (zg 1 a rfl rfl (z8 1 a rfl rfl (z8 1 a rfl rfl ⟨rfl,zl 3 [0] a rfl⟩))))
 have h:¬m.k≠1:=by simpa using h
 rw[yA h];have a:St W (Row f 74 [Zi Zk 0,Zs ⟨#[]⟩,Zs ⟨#[]⟩,Zi Zk 0,Zi Zk 0]::Row g 74 [Zi Zk m.k,Zs m.A,Zs m.B,Zi Zk m.N,Zi Zk m.M]::Row b 304 (shV vb b d)::F) w:=a;have c:=z6 W (Row f 74 [Zi Zk 0,Zs ⟨#[]⟩,Zs ⟨#[]⟩,Zi Zk 0,Zi Zk 0]::Row g 74 [Zi Zk m.k,Zs m.A,Zs m.B,Zi Zk m.N,Zi Zk m.M]::Row b 304 (shV vb b d)::F);refine⟨StC W _,zd a,⟨by omega,by split<;>omega,by split<;>omega⟩,?_⟩;refine⟨_,zu 1 c rfl rfl,z7 ⟨_,zu 1 c rfl rfl,z0q 2 c rfl (by simp[shV]) ⟨rfl,zu 1 ir rfl rfl,z7 (z0q 2 ir rfl (by simp[shV]) ⟨rfl,trivial,z7 (z0q 2 ir rfl (by simp[shV]) ⟨rfl,trivial,λG w h=>z7 ⟨trivial,?_⟩⟩)⟩)⟩⟩⟩;have a:=zb h;refine St1.zz 2 a rfl λw a=>z7 (zg 2 a rfl rfl ?_);refine St1.zz 0 a rfl λw a=>St1.zz 0 a rfl λw a=>St1.zz 0 a rfl λw a=>St1.zz 0 a rfl λw a=>St1.zz 0 a rfl λw a=>?_;exact z8 0 a rfl rfl (zg 0 a rfl rfl (zg 0 a rfl rfl (z8 0 a rfl rfl (z8 0 a rfl rfl ⟨rfl,zl 3 [2] a rfl⟩))))
def qwl(k:ql1 F c)(l:d.st=1)(a:St W (qx2 vb b d::qg1 vb c R::F) w):qb Zp 269 #[qc b,ql2 m,Zi Zk now,Zs nonce] w λv w'=>v=ql2 (qkf c R d m now).2/\St W (qx2 vb b (qkf c R d m now).1::qg1 vb c R::F) w':=by
 unfold qkf;refine F269_of (zh a λj w a=>zh a λi w a=>z8 1 a rfl rfl (za (λh=>?_) λh=>?_))
 .have h:m.k≠3:=by simpa using h
  rw[yB h];refine(qpa (e:=1) (d:=d) (zf 2 0 a rfl)).of λv w ⟨g,a⟩=>⟨_,_,_,_,_,g,?_⟩;refine St1.zz 1 a rfl λw a=>St1.zz 1 a rfl λw a=>St1.zz 1 a rfl λw a=>St1.zz 1 a rfl λw a=>St1.zz 1 a rfl λw a=>?_;exact z8 1 a rfl rfl (zg 1 a rfl rfl (zg 1 a rfl rfl (z8 1 a rfl rfl (z8 1 a rfl rfl ⟨rfl,zl 4 [0,3] a rfl⟩))))
 have h:¬m.k≠3:=by simpa using h
 rw[yA h];have a:St W (qg1 vb c R::Row i 74 [Zi Zk 0,Zs ⟨#[]⟩,Zs ⟨#[]⟩,Zi Zk 0,Zi Zk 0]::Row j 74 [Zi Zk m.k,Zs m.A,Zs m.B,Zi Zk m.N,Zi Zk m.M]::Row b 304 (shV vb b d)::F) w:=zf 3 0 a rfl;have f:=z6 W (qg1 vb c R::Row i 74 [Zi Zk 0,Zs ⟨#[]⟩,Zs ⟨#[]⟩,Zi Zk 0,Zi Zk 0]::Row j 74 [Zi Zk m.k,Zs m.A,Zs m.B,Zi Zk m.N,Zi Zk m.M]::Row b 304 (shV vb b d)::F);refine⟨StC W _,zd a,z7 (z7 (z7 (z7 ⟨_,zo 3 f rfl rfl,_,zu 3 f rfl rfl,_,zu 3 f rfl rfl,_,zu 3 f rfl rfl,_,zu 2 f rfl rfl,?_⟩)))⟩;refine zk (α:=Unit) (V:=λ_=>Zi Zk (qfb c R d.ten d.tok d.nonce m.A now)) (B:=λ_=>qg1 vb c R::Row i 74 [Zi Zk 0,Zs ⟨#[]⟩,Zs ⟨#[]⟩,Zi Zk 0,Zi Zk 0]::Row j 74 [Zi Zk m.k,Zs m.A,Zs m.B,Zi Zk m.N,Zi Zk m.M]::Row b 304 (shV vb b d)::F) () f (λG w h=>(qup ((((k.cons _).cons _).cons _).app _) h).of λv w' ⟨g,h⟩=>⟨_,g,(),rfl,h⟩) λ_=>⟨_,rfl,trivial,λG w h=>?_⟩;have a:=zb h;refine za (λh=>?_) λh=>?_
 .have h:qfb c R d.ten d.tok d.nonce m.A now≠0:=by simpa using h
  rw[yB h];have a:St W (qx2 vb b d::qg1 vb c R::Row i 74 [Zi Zk 0,Zs ⟨#[]⟩,Zs ⟨#[]⟩,Zi Zk 0,Zi Zk 0]::Row j 74 [Zi Zk m.k,Zs m.A,Zs m.B,Zi Zk m.N,Zi Zk m.M]::F) w:=zf 3 0 a rfl;refine(qpa a).of λv w ⟨g,a⟩=>⟨_,_,_,_,_,g,?_⟩;refine St1.zz 2 a rfl λw a=>St1.zz 2 a rfl λw a=>St1.zz 2 a rfl λw a=>St1.zz 2 a rfl λw a=>St1.zz 2 a rfl λw a=>?_;exact z8 2 a rfl rfl (zg 2 a rfl rfl (zg 2 a rfl rfl (z8 2 a rfl rfl (z8 2 a rfl rfl ⟨rfl,zl 4 [0,1] a rfl⟩))))
 have h:¬qfb c R d.ten d.tok d.nonce m.A now≠0:=by simpa using h
 rw[yA h];refine z7 ⟨trivial,St1.zz 3 a rfl λw a=>z7 (St1.zz 3 a rfl λw a=>?_)⟩;refine St1.zz 1 a rfl λw a=>St1.zz 1 a rfl λw a=>St1.zz 1 a rfl λw a=>St1.zz 1 a rfl λw a=>St1.zz 1 a rfl λw a=>?_;exact z8 1 a rfl rfl (zg 1 a rfl rfl (zg 1 a rfl rfl (z8 1 a rfl rfl (z8 1 a rfl rfl ⟨rfl,zl 4 [3,0] a rfl⟩))))
def qvl(a:St W (qx2 vb b d::F) w):qb Zp 316 #[qc b] w λv w'=>v=Zt #[Zs (if d.known=A2 then d.ten else e0),Zb d.known]/\St W (qx2 vb b d::F) w':=by
 refine F316_of (z7 (zx 0 a rfl rfl (za (λh=>?_) λh=>?_)))
 .have h:d.known=A3:=by simpa using h
  rw[h];exact⟨rfl,a⟩
 .have h:d.known=A2:=by simpa using h
  rw[h];exact z7 (zg 0 a rfl rfl ⟨rfl,a⟩)
end
end
section
def qlx:∃a b c,Zp.underlying 302=A0 (.func a b c):=⟨_,_,_,Tryz.underlying302⟩
def q2o(d:Nat)(f:Fn)(x y:Array A4)(w:A9):(Op.equalIn (d+1) 302 (.func f x y) .nilFunc).run Zp w=.ok A3 w:=by obtain⟨a,b,c,h⟩:=qlx;simp[Op.equalIn,run_underlying h]
def qro(d:Nat)(w:A9):(Op.equalIn (d+1) 302 .nilFunc .nilFunc).run Zp w=.ok A2 w:=by obtain⟨a,b,c,h⟩:=qlx;simp[Op.equalIn,run_underlying h]
def qog{h d:Ao}{x:A4}(c:(∃f a b,x=.func f a b)\/x=.nilFunc)(w:A9):(eqGuard .eql 302 h d x .nilFunc).run Zp w=.ok () w:=by rcases c with ⟨f,a,b,rfl⟩|rfl<;>rfl
def q001{h a:Ao}(f:Fn)(x y:Array A4)(w:A9):Sem.run Zp (do eqGuard .eql 302 h a (.func f x y) A7;binOp .eql 302 (.func f x y) A7) w=.ok (Zb A3) w:=by simp only[Sem.run_bind,qog (.inl ⟨f,x,y,rfl⟩) w,Result.andThen_ok,qce _ _ _ (.inl ⟨f,x,y,rfl⟩) rfl];rw[show(10000:Nat)=9999+1 from rfl,q2o];rfl
def q5y{h a:Ao}(w:A9):Sem.run Zp (do eqGuard .eql 302 h a A7 A7;binOp .eql 302 A7 A7) w=.ok (Zb A2) w:=by simp only[Sem.run_bind,qog (.inr rfl) w,Result.andThen_ok,qce _ _ _ (.inr rfl) rfl];rw[show(10000:Nat)=9999+1 from rfl,qro];rfl
section
variable{W w:World}{F:List Asn}{b vb:Nat}{c:qy}{R:qva}{d:qw6}{m:qk1}{now:Int}{nonce:ByteArray}
def qfs{K:A4->A9->Prop}(g:ql1 F c)(i:d.st<2)(h:St W (qx2 vb b d::qg1 vb c R::F) w)
 (f:∀w',St W (qx2 vb b (q75 c R d m now nonce).1::qg1 vb c R::F) w'->K (ql2 (q75 c R d m now nonce).2.1) w'):qn5 Zp 74 (qjh b d.st) [ql2 m,Zi Zk now,Zs nonce] w K:=by
 obtain⟨st,ten,tok,a,known⟩:=d
 match st,i with
 |0,_=>exact qn5.lit1 (by kernel_rfl) ((q6m (d:=⟨0,ten,tok,a,known⟩) rfl h).of λv w' ⟨e,h⟩=>by subst e;exact f w' h)
 |1,_=>exact qn5.lit1 (by kernel_rfl) ((qwl (d:=⟨1,ten,tok,a,known⟩) g rfl h).of λv w' ⟨e,h⟩=>by subst e;exact f w' h)
def qyn(n:ql1 F c)(a:St W (qx2 vb b d::qg1 vb c R::F) w):qb Zp 315 #[qc b,ql2 m,Zi Zk now,Zs nonce] w λv w'=>v=Zt #[ql2 (q75 c R d m now nonce).2.1,Zb (q75 c R d m now nonce).2.2]/\St W (qx2 vb b (q75 c R d m now nonce).1::qg1 vb c R::F) w':=by
 refine F315_of (zh a λk w a=>zh a λg w a=>z7 ?_);have a:St W (Row g 74 [Zi Zk 0,Zs ⟨#[]⟩,Zs ⟨#[]⟩,Zi Zk 0,Zi Zk 0]::Row k 74 [Zi Zk m.k,Zs m.A,Zs m.B,Zi Zk m.N,Zi Zk m.M]::Row b 304 (shV vb b d)::qg1 vb c R::F) w:=a;refine LdV.a 2 a rfl rfl ?_;by_cases l:d.st<2
 .have j:∃f,qjh b d.st=.func f #[qc b] #[]:=by
   match d.st,l with
   |0,_=>exact⟨_,rfl⟩
   |1,_=>exact⟨_,rfl⟩
  obtain⟨f,j⟩:=j;refine⟨Zb A3,λw=>by rw[j];exact q001 f _ _ w,_,rfl,zm rfl ?_⟩;have i:(q75 c R d m now nonce).2.2=A2:=by
   unfold q75
   match d.st,l with
   |0,_=>rfl
   |1,_=>rfl
  rw[i];have e:=z6 W (Row g 74 [Zi Zk 0,Zs ⟨#[]⟩,Zs ⟨#[]⟩,Zi Zk 0,Zi Zk 0]::Row k 74 [Zi Zk m.k,Zs m.A,Zs m.B,Zi Zk m.N,Zi Zk m.M]::Row b 304 (shV vb b d)::qg1 vb c R::F);refine⟨StC W _,zd a,z7 ⟨_,QtV.a 2 e rfl rfl,_,_,_,_,_,λG w h=>z8 1 ((e G w).1 h) rfl rfl (zg 1 ((e G w).1 h) rfl rfl (zg 1 ((e G w).1 h) rfl rfl (z8 1 ((e G w).1 h) rfl rfl (z8 1 ((e G w).1 h) rfl rfl ⟨rfl,h⟩)))),?_⟩⟩;refine zk (α:=Unit) (V:=λ_=>ql2 (q75 c R d m now nonce).2.1) (B:=λ_=>qx2 vb b (q75 c R d m now nonce).1::qg1 vb c R::Row g 74 [Zi Zk 0,Zs ⟨#[]⟩,Zs ⟨#[]⟩,Zi Zk 0,Zi Zk 0]::F) () e (λG w h=>?_) λ_=>⟨_,_,_,_,_,rfl,trivial,?_⟩
  .have h:St W (Row g 74 [Zi Zk 0,Zs ⟨#[]⟩,Zs ⟨#[]⟩,Zi Zk 0,Zi Zk 0]::Row k 74 [Zi Zk m.k,Zs m.A,Zs m.B,Zi Zk m.N,Zi Zk m.M]::Row b 304 (shV vb b d)::qg1 vb c R::(F++pts G)) w:=h;refine qfs (F:=Row g 74 [Zi Zk 0,Zs ⟨#[]⟩,Zs ⟨#[]⟩,Zi Zk 0,Zi Zk 0]::(F++pts G)) ((n.app _).cons _) l (zl 4 [2,3,0] h rfl) λw h=>⟨_,_,_,_,_,rfl,(),rfl,h⟩
  .refine⟨Unit,(),λ_=>Zt #[],λ_=>StC W (qx2 vb b (q75 c R d m now nonce).1::qg1 vb c R::Row g 74 [Zi Zk (q75 c R d m now nonce).2.1.k,Zs (q75 c R d m now nonce).2.1.A,Zs (q75 c R d m now nonce).2.1.B,Zi Zk (q75 c R d m now nonce).2.1.N,Zi Zk (q75 c R d m now nonce).2.1.M]::F),λG w h=>?_,λ_=>⟨rfl,trivial,λG w h=>?_⟩⟩
   .have h:=(ir G w).1 h;exact St1.zz 2 h rfl λw h=>St1.zz 2 h rfl λw h=>St1.zz 2 h rfl λw h=>St1.zz 2 h rfl λw h=>St1.zz 2 h rfl λw h=>⟨(),rfl,h⟩
   .have a:=zb h;exact z8 2 a rfl rfl (zg 2 a rfl rfl (zg 2 a rfl rfl (z8 2 a rfl rfl (z8 2 a rfl rfl ⟨rfl,zl 3 [0,1] a rfl⟩))))
 .have o:qjh b d.st=.nilFunc:=by
   unfold qjh;split;.omega
   .omega
   .rfl
  have i:q75 c R d m now nonce=(d,zM,A3):=by
   unfold q75;split;.omega
   .omega
   .rfl
  rw[i];refine⟨Zb A2,λw=>by rw[o];exact q5y w,_,rfl,zn rfl ?_⟩;refine St1.zz 0 a rfl λw a=>St1.zz 0 a rfl λw a=>St1.zz 0 a rfl λw a=>St1.zz 0 a rfl λw a=>St1.zz 0 a rfl λw a=>?_;exact z8 0 a rfl rfl (zg 0 a rfl rfl (zg 0 a rfl rfl (z8 0 a rfl rfl (z8 0 a rfl rfl ⟨rfl,zl 4 [2,3] a rfl⟩))))
end
end
section
structure qz7 where
 t:qa4
 u1:Int
 u2:Int
 m1:Int
 m2:Int
abbrev qz8:=List (ByteArray×qz7)
def qd8(d:qz7):List A4:=[Zs d.t.name,Zi Zk d.t.names,Zi Zk d.t.visitors,.slice d.t.np d.t.nets.length d.t.nc,.slice d.t.tp d.t.toks.length d.t.tc,Zi Zk 0,Zi Zk d.u1,Zi Zk d.u2,Zi Zk 0,Zi Zk d.m1,Zi Zk d.m2]
def qy2(b:Nat)(d:qz7):Asn:=Row b 165 (qd8 d)
def qv2(b:Nat)(O:qz8):Asn:=exA λm:Nat=>qz [Row b 161 [.map (A0 m)],qr Zs m qy2 O]
def uMo:Zp.underlying 159=A0 (.map 9 162):=Tryz.underlying159
def iPo:Zp.info? 162=A0 Tryz.t162:=by kernel_rfl
def zPo:Tryz.t162.zero=A0 (Zq A1):=rfl
def qhd(t:qa4):qz7:=⟨t,0,0,t.names,t.visitors⟩
def q39(ts:List qa4):qz8:=ts.foldl (λO t=>qk O t.name (qhd t)) []
def qz7.used(d:qz7)(h:Int):Int:=if h=1 then d.u1 else d.u2
def qz7.most(d:qz7)(h:Int):Int:=if h=1 then d.m1 else d.m2
def qz7.put(d:qz7)(h:Int)(n:Int):qz7:=if h=1 then { d with u1:=n}else { d with u2:=n}
def qxk(O:qz8)(s:ByteArray)(h:Int):Int:=match qe O s with|none=>0|some d=>d.used h
def qq5(O:qz8)(s:ByteArray)(h:Int):qz8×Int:=match qe O s with
 |none=>(O,3)
 |some d=>if d.used h=d.most h then(O,112)else(qk O s (d.put h (Zw Zk (d.used h+1))),0)
def qjc(O:qz8)(s:ByteArray)(h:Int):qz8×Bool:=match qe O s with
 |none=>(O,A3)
 |some d=>if d.used h=0 then(O,A3)else(qk O s (d.put h (Zw Zk (d.used h - 1))),A2)
def qgf(O:qz8)(s:ByteArray)(addr:Int):Int:=match qe O s with
 |none=>3
 |some d=>if d.t.nets=[]then 0 else if d.t.nets.any (λx=>inN x.1 x.2 addr)=A2 then 0 else 111
section
variable{W w:World}{F:List Asn}{b:Nat}{c:qy}{O:qz8}
def qv2.open_(h:St W (qv2 b O::F) w):∃m,St W (Row b 161 [.map (A0 m)]::qr Zs m qy2 O::F) w:=by obtain⟨m,h⟩:=h.of_ex;exact⟨m,h.of_sep⟩
def qv2.shut(m:Nat)(h:St W (Row b 161 [.map (A0 m)]::qr Zs m qy2 O::F) w):St W (qv2 b O::F) w:=z00 m (zj (l:=[_,_]) h)
def qhb{h:Int}(b:h=1\/h=2)(a:St W F w):qb Zp 282 #[Zi Zk h] w λv w'=>v=Zb A2/\St W F w':=by
 refine F282_of ?_;rcases b with rfl|rfl;.exact zn rfl ⟨rfl,a⟩
 .exact zm rfl ⟨rfl,a⟩
def q1h{d:qz7}{h:Int}(w:h=1\/h=2):∃k:Nat,h=(k:Int)/\k<3/\(qd8 d)[5+k]?=A0 (Zi Zk (d.used h))/\(qd8 d)[8+k]?=A0 (Zi Zk (d.most h))/\∀n,(qd8 d).set (5+k) (Zi Zk n)=qd8 (d.put h n):=by
 rcases w with rfl|rfl;.exact⟨1,rfl,by omega,rfl,rfl,λn=>rfl⟩
 .exact⟨2,rfl,by omega,rfl,rfl,λn=>rfl⟩
def qmk{s:ByteArray}{h:Int}(c:h=1\/h=2)(a:St W (qv2 b O::F) w):qb Zp 225 #[qc b,Zs s,Zi Zk h] w λv w'=>v=Zi Zk (qxk O s h)/\St W (qv2 b O::F) w':=by
 obtain⟨m,a⟩:=qv2.open_ a;unfold qxk;refine F225_of (z7 (zv 0 a rfl rfl ?_));cases hd:qe O s with
 |none=>exact z0y kS uMo iPo zPo 1 a rfl hd A2 ⟨_,_,rfl,zn rfl ⟨rfl,qv2.shut m a⟩⟩
 |some d=>
  obtain⟨q,a⟩:=z15 hd a.p1;refine z0i kS uMo iPo zPo 1 a rfl A2 ⟨_,_,rfl,zm rfl ((qhb c a).of λv w ⟨g,a⟩=>⟨_,g,zm rfl (z7 ?_)⟩)⟩;obtain⟨k,l,f,i,j,n⟩:=q1h (d:=d) c;refine⟨_,rfl,⟨by omega,by omega⟩,?_⟩;have a:St W (Row q 165 (qd8 d)::qw Zs m qy2 O s q::Row b 161 [.map (A0 m)]::F) w:=a;have e:(Int.toNat h)=k:=by omega
  rw[qi1,e,A5,qi1];refine z13 0 a rfl (by rw[An];exact i) ⟨rfl,qv2.shut m ?_⟩;have:=z0o (A:=qy2) a;rw[qt1 hd]at this;exact this.p1
def IxP.own{q o k:Nat}{w:Int}{K:Ak->Prop}(a:w=(k:Int))(b:k<3)(h:K ⟨q,o+k,A1⟩):IxP (A0 (Za ⟨q,0,A1⟩ o)) 3 w 1 K:=by
 refine⟨_,rfl,⟨by omega,by omega⟩,?_⟩;have e:(Int.toNat w)=k:=by omega
 rw[qi1,e,A5,qi1,An];exact h
def Take_spec{s:ByteArray}{a:Int}(j:a=1\/a=2)(c:St W (qv2 b O::F) w):qb Zp 353 #[qc b,Zs s,Zi Zk a] w λv w'=>v=Zi Zk (qq5 O s a).2/\St W (qv2 b (qq5 O s a).1::F) w':=by
 obtain⟨m,c⟩:=qv2.open_ c;unfold qq5;refine F353_of (z7 (zv 0 c rfl rfl ?_));cases hd:qe O s with
 |none=>exact z0y kS uMo iPo zPo 1 c rfl hd A2 ⟨_,_,rfl,(qhb j c).of λv w ⟨i,c⟩=>⟨_,i,zm rfl (zn rfl ⟨rfl,qv2.shut m c⟩)⟩⟩
 |some d=>
  obtain⟨q,c⟩:=z15 hd c.p1;refine z0i kS uMo iPo zPo 1 c rfl A2 ⟨_,_,rfl,(qhb j c).of λv w ⟨i,c⟩=>⟨_,i,zm rfl (zm rfl ?_)⟩⟩;obtain⟨k,f,e,l,n,o⟩:=q1h (d:=d) j;have c:St W (Row q 165 (qd8 d)::qw Zs m qy2 O s q::Row b 161 [.map (A0 m)]::F) w:=c;have g:=z6 W (Row q 165 (qd8 d)::qw Zs m qy2 O s q::Row b 161 [.map (A0 m)]::F);refine⟨StC W _,zd c,z7 (IxP.own f e (z7 (IxP.own f e ⟨_,z02 0 g rfl l,_,z02 0 g rfl n,λG w h=>?_⟩)))⟩;have c:=zb h;refine za (λh=>?_) λh=>?_
  .have h:d.used a=d.most a:=by simpa using h
   dsimp only;rw[yB h];refine⟨rfl,qv2.shut m ?_⟩;have:=z0o (A:=qy2) c;rw[qt1 hd]at this;exact this.p1
  have h:¬d.used a=d.most a:=by simpa using h
  dsimp only;rw[yA h];refine⟨StC W _,zd c,z7 (IxP.own f e (z7 ⟨_,z02 0 g rfl l,IxP.own f e (Ef.st 0 g rfl (by show 5+k<11;omega) ⟨rfl,trivial,λG w h=>⟨rfl,qv2.shut m ?_⟩⟩)⟩))⟩;have c:=zb h;have c:St W (Row q 165 ((qd8 d).set (5+k) (Zi Zk (Zw Zk (d.used a+1))))::qw Zs m qy2 O s q::Row b 161 [.map (A0 m)]::F) w:=c;rw[o]at c;exact(z0o (A:=qy2) c).p1
def qnt{s:ByteArray}{a:Int}(i:a=1\/a=2)(c:St W (qv2 b O::F) w):qb Zp 147 #[qc b,Zs s,Zi Zk a] w λv w'=>v=Zb (qjc O s a).2/\St W (qv2 b (qjc O s a).1::F) w':=by
 refine F147_of ((qmk i c).of λv w ⟨j,c⟩=>⟨_,j,?_⟩);unfold qjc qxk;cases hd:qe O s with
 |none=>exact zn rfl ⟨rfl,c⟩
 |some d=>
  obtain⟨m,c⟩:=qv2.open_ c;refine za (λh=>?_) λh=>?_
  .have h:d.used a=0:=by simpa using h
   dsimp only;rw[yB h];exact⟨rfl,qv2.shut m c⟩
  have h:¬d.used a=0:=by simpa using h
  dsimp only;rw[yA h];obtain⟨q,c⟩:=z15 hd c.p1;obtain⟨k,g,e,n,o,l⟩:=q1h (d:=d) i;have c:St W (Row q 165 (qd8 d)::qw Zs m qy2 O s q::Row b 161 [.map (A0 m)]::F) w:=c;have f:=z6 W (Row q 165 (qd8 d)::qw Zs m qy2 O s q::Row b 161 [.map (A0 m)]::F);refine⟨StC W _,zd c,z7 ⟨_,z0a 2 f rfl rfl,A0 ⟨q,0,A1⟩,λG w h=>z0i kS uMo iPo zPo 1 ((f G w).1 h) rfl A3 ⟨_,rfl,rfl,h⟩,z7 (IxP.own g e (z7 ⟨_,z02 0 f rfl n,IxP.own g e (Ef.st 0 f rfl (by show 5+k<11;omega) ⟨rfl,trivial,λG w h=>⟨rfl,qv2.shut m ?_⟩⟩)⟩))⟩⟩;have c:=zb h;have c:St W (Row q 165 ((qd8 d).set (5+k) (Zi Zk (Zw Zk (d.used a - 1))))::qw Zs m qy2 O s q::Row b 161 [.map (A0 m)]::F) w:=c;rw[l]at c;exact(z0o (A:=qy2) c).p1
def qmu{x:Int×Int}{q:Nat}{addr:Int}{G:List Asn}{K:A4->A9->Prop}(h:St W (Row q 34 [Zi .u32 addr]::G) w)(d:∀w',St W (Row q 34 [Zi .u32 addr]::G) w'->K (Zb (inN x.1 x.2 addr)) w'):q01 Zp 4 (.func (.func 398) #[] #[Zq (A0 ⟨q,0,A1⟩)]) [Zg (qje x).toArray] w K:=by
 have a:qb Zp 398 #[Zg #[Zi .u32 x.1,Zi Zk x.2],Zq (A0 ⟨q,0,A1⟩)] w K:=
  F398_of (zh h λb w h=>z8 0 h rfl rfl (z8 0 h rfl rfl (z13 1 h rfl rfl ((qsx x.1 x.2 addr h).of λv w ⟨c,h⟩=>⟨_,c,d w h.drop⟩))))
 exact zw (by kernel_rfl) a
def q2q{s:ByteArray}{addr:Int}(g:∀x∈O,qg6 F x.2.t)(a:St W (qv2 b O::F) w):qb Zp 382 #[qc b,Zs s,Zi .u32 addr] w λv w'=>v=Zi Zk (qgf O s addr)/\St W (qv2 b O::F) w':=by
 obtain⟨m,a⟩:=qv2.open_ a;unfold qgf;refine F382_of (zh a λf w a=>z7 (zv 1 a rfl rfl ?_));cases hd:qe O s with
 |none=>exact z0y kS uMo iPo zPo 2 a rfl hd A2 ⟨_,_,rfl,zn rfl ⟨rfl,qv2.shut m a.drop⟩⟩
 |some d=>
  have e:=g _ (qg3 hd);obtain⟨q,a⟩:=z15 hd (zf 2 0 a rfl);have a:St W (Row q 165 (qd8 d)::qw Zs m qy2 O s q::Row f 34 [Zi .u32 addr]::Row b 161 [.map (A0 m)]::F) w:=a;have c:∀w,St W (Row q 165 (qd8 d)::qw Zs m qy2 O s q::Row f 34 [Zi .u32 addr]::Row b 161 [.map (A0 m)]::F) w->St W (qv2 b O::F) w:=λw h=>qv2.shut m (by have:=z0o (A:=qy2) h;rw[qt1 hd]at this;exact zl 3 [2,0] this rfl)
  refine z0i kS uMo iPo zPo 1 a rfl A2 ⟨_,_,rfl,zm rfl (z7 (zr 0 a rfl rfl (za (λh=>zn h ?_) λh=>?_)))⟩
  .have h:d.t.nets=[]:=by simpa using h
   dsimp only;rw[yB h];exact⟨rfl,c w a⟩
  have h:¬d.t.nets=[]:=by simpa using h
  dsimp only;rw[yA h];refine z7 (zr 0 a rfl rfl ?_);have a:=zf 2 0 a rfl;refine(qnn (λx=>inN x.1 x.2 addr) ((((e.nr.cons _).cons _).cons _).cons _) e.nb (λx _ w K a j=>qmu a j) a).of λv w ⟨i,a⟩=>⟨_,i,za (λh=>?_) λh=>?_⟩;.rw[yB h];exact⟨rfl,c w (zf 0 2 a rfl)⟩
  .rw[yA (by rw[h];simp)];exact⟨rfl,c w (zf 0 2 a rfl)⟩
def qbu(r:ql1 F c)(d:St W F w):qb Zp 37 #[Zg (qx3 c).toArray] w λv w'=>(qj6 c=A3/\v=Zq A1/\St W F w')\/(qj6 c=A2/\∃b,v=qc b/\St W (qv2 b (q39 c.tens)::F) w'):=by
 refine F37_of (zh d λb w d=>z8 0 d rfl rfl (z8 0 d rfl rfl (z8 0 d rfl rfl (z8 0 d rfl rfl (zr 0 d rfl rfl ?_)))));refine(q4d (r.cons _) d).of λv w ⟨D,d⟩=>⟨_,D,za (λh=>?_) λh=>?_⟩;.exact .inl ⟨by simpa using h,rfl,d.drop⟩
 have n:qj6 c=A2:=by simpa using h
 refine qs5.f (ν:=Nat) Zs qc d λm w d=>zh d λj w d=>zr 2 d rfl rfl ?_;have d:St W (Row j 161 [.map (A0 m)]::qg Zs qc m (qx (Prod.fst (α:=Nat) (β:=qz7)) ([]:List (ByteArray×Nat×qz7)))::F) w:=zl 3 [0,1] d rfl;have d:St W (Row j 161 [.map (A0 m)]::qr Zs m qy2 (q39 (c.tens.take 0))::F) w:=(z19 (A:=qy2) [] rfl (zf 0 1 (zj (l:=[]) (zf 1 0 d rfl)) rfl)).p1;refine⟨λvs w=>∃k:Nat,vs=[Zi Zk (k:Int)]/\k<=c.tens.length/\St W (Row j 161 [.map (A0 m)]::qr Zs m qy2 (q39 (c.tens.take k))::F) w,leftN c.tens.length,⟨0,rfl,by omega,d⟩,λx w z=>?_⟩;obtain⟨k,E,H,d⟩:=z;cases E;refine za (λg=>?_) λp=>?_
 .have g:k<c.tens.length:=by have:=yC g;omega
  have t:c.tens[k]?=A0 (c.tens[k]'g):=Ad _;generalize c.tens[k]'g=y at t;refine z0e (f:=q43) (size:=5) (λ_=>rfl) (by omega) ((r.tr.cons _).cons _) d rfl g t λa o=>⟨_,o 0 _ rfl,⟨_,o 1 _ rfl,⟨_,o 2 _ rfl,⟨_,_,_,o 3 _ rfl,⟨_,_,_,o 4 _ rfl,?_⟩⟩⟩⟩⟩;refine zh d λq w d=>St1.zz 0 d rfl λw d=>St1.zz 0 d rfl λw d=>St1.zz 0 d rfl λw d=>St1.zz 0 d rfl λw d=>St1.zz 0 d rfl λw d=>?_;have d:St W (Row q 112 (q43 y)::Row j 161 [.map (A0 m)]::qr Zs m qy2 (q39 (c.tens.take k))::F) w:=d;have i:=z6 W (Row q 112 (q43 y)::Row j 161 [.map (A0 m)]::qr Zs m qy2 (q39 (c.tens.take k))::F);refine⟨StC W _,zd d,_,z0a 1 i rfl rfl,_,zu 0 i rfl rfl,_,_,_,_,_,_,_,_,_,λG w h=>zg 0 ((i G w).1 h) rfl rfl (z8 0 ((i G w).1 h) rfl rfl (z8 0 ((i G w).1 h) rfl rfl (zr 0 ((i G w).1 h) rfl rfl (zr 0 ((i G w).1 h) rfl rfl ⟨rfl,h⟩)))),_,zi 0 i rfl rfl,_,zi 0 i rfl rfl,λu=>?_⟩;refine zk (α:=Unit) (V:=λ_=>Zt #[]) (B:=λ_=>Row j 161 [.map (A0 m)]::qr Zs m qy2 (qk (q39 (c.tens.take k)) y.name (qhd y))::F) () (ir.push u _) (λG w h=>?_) λ_=>⟨rfl,trivial,λG w h=>?_⟩
  .have h:St W (Pt u (.cells (qd8 (qhd y)).toArray 165)::Row q 112 (q43 y)::Row j 161 [.map (A0 m)]::qr Zs m qy2 (q39 (c.tens.take k))::(F++pts G)) w:=h;have C:St W (qy2 u (qhd y)::Row j 161 [.map (A0 m)]::qr Zs m qy2 (q39 (c.tens.take k))::(F++pts G)) w:=(h.imp z0c).p1.drop;exact qr.set_i kS uMo 0 1 C rfl rfl λw' h=>⟨(),rfl,h⟩
  .have e:q39 (c.tens.take (k+1))=qk (q39 (c.tens.take k)) y.name (qhd y):=by unfold q39;rw[List.take_add_one,t,Option.toList_some,Ah];rfl
   rw[up g r.tb];refine⟨⟨k+1,rfl,by omega,?_⟩,by show c.tens.length -(k+1)<c.tens.length - k;omega⟩;rw[e];exact zb h
 .have s:k=c.tens.length:=by have:=yD p;omega
  subst s;rw[List.take_length]at d;exact .inr ⟨n,j,rfl,qv2.shut m d⟩
end
def z1e:=@qv2.shut
end
section
open Go Go.MapKept Go.Maps
def q9c{α:Type}{p q:α->Bool}:∀(l:List α),(∀x∈l,p x=A2->q x=A2)->(l.filter p).length<=(l.filter q).length
 |[],_=>by simp
 |x::r,h=>by
  have a:=q9c r λy b=>h y (.tail _ b);simp only[Ae];by_cases w:p x=A2;.rw[yB w,yB (h x (.head _) w)];simpa using a
  .rw[yA w];split;.simp;omega
   .exact a
def qla{α:Type}{p q:α->Bool}{x:α}:∀(l:List α),(∀x∈l,p x=A2->q x=A2)->x∈l->p x=A3->q x=A2->(l.filter p).length<(l.filter q).length
 |[],_,a,_,_=>by cases a
 |y::r,h,a,w,c=>by
  simp only[Ae];rcases List.mem_cons.1 a with rfl|a
  .rw[yA (by rw[w];simp),yB c];have:=q9c (p:=p) (q:=q) r λy b=>h y (.tail _ b);simp;omega
  .have d:=qla r (λy b=>h y (.tail _ b)) a w c;by_cases w:p y=A2;.rw[yB w,yB (h y (.head _) w)];simpa using d
   .rw[yA w];split;.simp;omega
    .exact d
section
variable{κ ν:Type}{P:Program}{kt et mt:TypeId}{enc:κ->Value}{vl:ν->Value}
structure q9j(enc:κ->A4)(vl:ν->A4)(L:List (κ×ν))(S:List κ)(es:Array Af)(clock:Nat)(seen:Array Nat)(c0:Nat):Prop where
 st:Stamped es clock
 ent:es.toList.map (λe=>(e.key,e.val))=qk3 enc vl L
 old:clock<=c0
 seen:∀e∈es.toList,seen.contains e.born=A2↔e.key∈S.map enc
def qn2(enc:κ->A4)(vl:ν->A4)(m it:Nat)(L:List (κ×ν))(S:List κ):Asn:=exA λx:Array Af×Nat×Array Nat×Nat=>qz [
 prA (q9j enc vl L S x.1 x.2.1 x.2.2.1 x.2.2.2),Pt m (.map x.1 x.2.1),Pt it (.mapIter (A0 m) x.2.1 x.2.2.1 x.2.2.2)]
variable{W w:World}{l F:List Asn}{m it:Nat}{L:List (κ×ν)}{S:List κ}
def qn2.open_(h:St W (qn2 enc vl m it L S::F) w):∃es clock seen a,q9j enc vl L S es clock seen a/\St W (Pt m (.map es clock)::Pt it (.mapIter (A0 m) clock seen a)::F) w:=by obtain⟨⟨es,clock,seen,a⟩,h⟩:=h.of_ex;obtain⟨b,h⟩:=h.of_sep.of_pr;exact⟨es,clock,seen,a,b,h⟩
def qn2.shut{es:Array Af}{clock a:Nat}{seen:Array Nat}(b:q9j enc vl L S es clock seen a)(h:St W (Pt m (.map es clock)::Pt it (.mapIter (A0 m) clock seen a)::F) w):St W (qn2 enc vl m it L S::F) w:=
 z00 (es,clock,seen,a) (zj (l:=[_,_,_]) (z01 b h))
def q7y(d:P.underlying mt=A0 (.map kt et)){K:A4->A9->Prop}(n:Nat)(b:St W l w)(a:nth l n=A0 (qg enc vl m L))
 (f:∀it w',St W (put l n [qn2 enc vl m it L []]) w'->K (.pointer (A0 ⟨it,0,A1⟩)) w'):Run P (Instr.range mt (.map (A0 m))) w K:=by
 obtain⟨es,clock,i,c,h⟩:=z1c (b.at n a);have g:=(h.turn (o':=.map #[] 0)).1;have e:=h.alloc (.mapIter (A0 m) clock #[] clock);exact⟨_,_,run_range_map w mt kt et m es clock d g,f _ _ (z05 n a (B:=[_]) (qn2.shut ⟨i,c,Ac _,by simp⟩ e.p1))⟩
def qx9(m it:Nat)(w:A9):Nat:=match w.heap[it]?,w.heap[m]? with
 |some (.mapIter _ _ seen _),A0 (.map es _)=>(es.toList.filter λe=>!seen.contains e.born).length
 |_,_=>0
def q1c{es:Array Af}{clock a:Nat}{seen:Array Nat}(h:St W (Pt m (.map es clock)::Pt it (.mapIter (A0 m) clock seen a)::F) w):qx9 m it w=(es.toList.filter λe=>!seen.contains e.born).length:=by unfold qx9;rw[h.p1.pt,h.pt]
def q9z(E:qw2 P kt enc){ty:TypeId}{A:A9->Prop}{B:A4->A4->A9->Prop}(R:St W (qn2 enc vl m it L S::F) w)
 (H:(∀x∈L,x.1∈S)->∀w',St W (qg enc vl m L::F) w'->A w')
 (U:∀x,x∈L->x.1∉S->∀w',St W (qn2 enc vl m it L (S++[x.1])::F) w'->qx9 m it w'<qx9 m it w->(Instr.entry (.pointer (A0 ⟨it,0,A1⟩))).run P w'=.ok (.tuple #[enc x.1,vl x.2]) w'->B (enc x.1) (vl x.2) w'):q8g P (Instr.next (.pointer (A0 ⟨it,0,A1⟩)) A3 ty) w A B:=by
 obtain⟨es,clock,seen,G,b,h⟩:=qn2.open_ R;have Q:=h.pt;have M:=h.p1.pt;have J:=qg.nodup E b.st b.ent;have p:=q1c h;rcases run_next_at (P:=P) w ty it m clock G seen es clock M Q (λx n=>b.st.1 x n) b.old with ⟨Z,c⟩|⟨e,g,w1,z,c⟩
 .refine⟨_,_,c,.inl ⟨rfl,H (λx n=>?_) _ (qg.shut b.st b.ent (h.p1.drop))⟩⟩;have D:enc x.1∈es.toList.map (·.key):=by rw[qdb b.ent];exact A6.2 ⟨_,A6.2 ⟨x,n,rfl⟩,rfl⟩
  obtain⟨e,g,q⟩:=A6.1 D;have o:seen.contains e.born=A2:=by
   cases hc:seen.contains e.born with
   |true=>rfl
   |false=>
    have:e∈leftOf es seen:=by unfold leftOf;rw[Array.mem_filter];exact⟨by simpa using g,by rw[hc];rfl⟩
    have Y:=Array.size_pos_of_mem this;omega
  obtain⟨y,V,u⟩:=A6.1 ((b.seen e g).1 o);have:y=x.1:=E.inj _ _ (u.trans q);rw[<-this];exact V
 .have a:e∈es.toList/\seen.contains e.born=A3:=by unfold leftOf at g;rw[Array.toList_filter,List.mem_filter]at g;exact⟨g.1,by simpa using g.2⟩
  obtain⟨j,X⟩:=List.getElem?_of_mem a.1;obtain⟨k,v,N,r,T⟩:=qeb b.ent X;have s:k∉S:=λt=>by have:=(b.seen e a.1).2 (by rw[r];exact A6.2 ⟨k,t,rfl⟩);rw[a.2]at this;cases this
  refine⟨_,_,c,.inr ⟨_,_,rfl,?_⟩⟩;have K:St W (Pt m (.map es clock)::Pt it (.mapIter (A0 m) clock seen G)::F) w1:=by
   rcases z with rfl|rfl;.exact h
   .exact h.draws
  have O:=(K.p1.turn (o':=.mapIter (A0 m) clock (seen.push e.born) clock)).2.p1;have d:St W (Pt m (.map es clock)::Pt it (.mapIter (A0 m) clock (seen.push e.born) clock)::F) _:=O;have f:=run_entry_at (P:=P) _ it m clock seen es clock e d.p1.pt d.pt a.1 b.st.2.1;rw[r,T]at f⊢;refine U (k,v) (List.mem_of_getElem? N) s _ (qn2.shut ⟨b.st,b.ent,Ac _,λe' l=>?_⟩ d) ?_ f
  .have i:=qcp b.st l a.1;have o:=b.seen e' l;simp only[Aa,yJ]at o;simp only[Aa,Aj,Ai,List.mem_append,Am,List.map_nil,List.mem_singleton,yJ];rw[o,<-r,i.1,i.2]
  .have C:=q1c d;refine Nat.lt_of_le_of_lt (Nat.le_of_eq C) ?_;rw[p];refine qla _ (λx n h=>?_) a.1 (by simp) (by rw[a.2];rfl);simp only[Aa,Aj,Bool.not_eq_true',decide_eq_false_iff_not]at h⊢;exact λI=>h (.inl I)
end
section
variable{κ ν:Type}[DecidableEq κ]{P:Program}{kt et mt:TypeId}{enc:κ->Value}{vl:ν->Value}
variable{W w:World}{l F:List Asn}{m it:Nat}{L:List (κ×ν)}{S:List κ}
def qww(d:qw2 P kt enc)(e:P.underlying mt=A0 (.map kt et)){z:A4}{a:TypeInfo}(g:P.info? et=A0 a)(j:a.zero=A0 z){K:A4->A9->Prop}(n:Nat)(c:St W l w)(i:nth l n=A0 (qn2 enc vl m it L S))(k:κ)(ok:Bool)
 (f:K (if ok=A2 then .tuple #[((qe L k).map vl).getD z,.bool (qe L k).isSome]else((qe L k).map vl).getD z) w):Run P (Instr.lookup mt (.map (A0 m)) (enc k) ok) w K:=by
 obtain⟨es,clock,seen,o,b,h⟩:=qn2.open_ (c.at n i);exact qq1 d e g j 0 (qg.shut b.st b.ent h) rfl k ok f
def q6v(q:qw2 P kt enc)(t:P.underlying mt=A0 (.map kt et)){ty:TypeId}{K:A4->A9->Prop}(y:St W (qn2 enc vl m it L S::F) w)(k:κ)
 (z:∀w',St W (qn2 enc vl m it (qp L k) S::F) w'->qx9 m it w'<=qx9 m it w->K (.tuple #[]) w'):Run P (Builtin.delete_ #[mt,kt] ty #[.map (A0 m),enc k]) w K:=by
 obtain⟨es,clock,seen,C,a,c⟩:=qn2.open_ y;obtain⟨d,f,b⟩:=q.kind;have p:=q1c c;have l:∀h,Stamped h clock->h.toList.map (λe=>(e.key,e.val))=qk3 enc vl (qp L k)->h.toList.Sublist es.toList->K (.tuple #[]) { w with heap:=w.heap.setIfInBounds m (.map h clock)}:=λh n i g=>by have u:=(c.turn (o':=.map h clock)).2;refine z _ (qn2.shut ⟨n,i,a.old,λe v=>a.seen e (g.subset v)⟩ u) ?_;rw[p,q1c u];exact(g.filter _).length_le
 have o:=(c.turn (o':=.map #[] 0)).1;rcases quf q a.st a.ent k f b with ⟨n,i,g⟩|⟨j,e,v0,n,i,g,x,A,B⟩
 .refine⟨_,_,?_,l es a.st (by rw[ql6 n];exact a.ent) (List.Sublist.refl _)⟩;simp[Builtin.delete_,run_underlying t,MapKept.run_getObj_map o,run_checkKey f (b k),run_findKey f i,run_setObj_map _ o]
 .have r:j<es.size:=by simpa using (List.getElem?_eq_some_iff.1 g).1
  have s:(es.eraseIdxIfInBounds j).toList=es.toList.eraseIdx j:=by unfold Array.eraseIdxIfInBounds;rw[dif_pos r,Array.toList_eraseIdx]
  refine⟨_,_,?_,l (es.eraseIdxIfInBounds j) (stamped_erase a.st j) ?_ (by rw[s];exact List.eraseIdx_sublist _ _)⟩;.simp[Builtin.delete_,run_underlying t,MapKept.run_getObj_map o,run_checkKey f (b k),run_findKey f i,run_setObj_map _ o]
  .rw[q5p (qg.nodup q a.st a.ent) x,s,qea,a.ent];unfold qk3;rw[qea]
def qpc(S:List κ)(k:κ):Bool:=S.any λs=>decide (s=k)
def qnb{S:List κ}{k:κ}:qpc S k=A2↔k∈S:=by unfold qpc;rw[List.any_eq_true];exact⟨λ⟨x,w,e⟩=>(yC e) ▸ w,λh=>⟨k,h,yG rfl⟩⟩
def qkl(i:∀a b,enc a=enc b->a=b){p:Af->Bool}:∀(es:List Af) (L:List (κ×ν)),es.map (λe=>(e.key,e.val))=qk3 enc vl L->(∀e∈es,p e=A2↔¬e.key∈S.map enc)->(es.filter p).length=(L.filter λx=>!qpc S x.1).length
 |[],[],_,_=>rfl
 |[],_::_,h,_=>by simp[qk3]at h
 |_::_,[],h,_=>by simp[qk3]at h
 |e::es,x::L,h,g=>by
  simp only[qk3,Am,List.cons.injEq,Prod.mk.injEq]at h;have j:=qkl i es L h.2 λy f=>g y (.tail _ f);have w:=g e (.head _);have k:e.key∈S.map enc↔qpc S x.1=A2:=by rw[qnb,h.1.1];exact⟨λd=>by obtain⟨y,f,e⟩:=A6.1 d;rw[<-i _ _ e];exact f,λd=>A6.2 ⟨_,d,rfl⟩⟩
  rw[k]at w;simp only[Ae];by_cases c:qpc S x.1=A2;.rw[yA (λh=>(w.1 h) c),yA (by rw[c];simp),j]
  .rw[yB (w.2 c),yB (by simpa using c)];simpa using j
def qn2.left(c:qw2 P kt enc)(h:St W (qn2 enc vl m it L S::F) w):qx9 m it w=(L.filter λx=>!qpc S x.1).length:=by obtain⟨es,clock,seen,d,a,h⟩:=qn2.open_ h;rw[q1c h];refine qkl c.inj _ _ a.ent λe b=>?_;rw[<-a.seen e b];simp
end
end
section
structure LeD where
 name:ByteArray
 ten:ByteArray
 conn:Int
 epoch:Int
 til:Int
 held:Bool
abbrev LeL:=List (ByteArray×LeD)
structure qi3 where
 grace:Int
 most:Int
 epoch:Int
 L:LeL
def leV(d:LeD):List A4:=[Zs d.name,Zs d.ten,Zi Zk d.conn,Zi Zk d.epoch,Zi Zk d.til,Zb d.held]
def zeL:LeD:=⟨⟨#[]⟩,⟨#[]⟩,0,0,0,A3⟩
def qu(q:Nat)(d:LeD):Asn:=Row q 55 (leV d)
def bkV(B:qi3)(m:Nat):List A4:=[Zi Zk B.grace,Zi Zk B.most,Zi Zk B.epoch,.map (A0 m)]
def q41(b:Nat)(B:qi3):Asn:=exA λm:Nat=>qz [prA (B.L.length<=64),Row b 168 (bkV B m),qr Zs m qu B.L]
def uMl:Zp.underlying 166=A0 (.map 9 200):=Tryz.underlying166
def iPl:Zp.info? 200=A0 Tryz.t200:=by kernel_rfl
def zPl:Tryz.t200.zero=A0 (Zq A1):=rfl
def qa6(n:Int):Bool:=decide (n>0)&&decide (n<=1073741824)
def q79(n:Int):Bool:=decide (n>=0)&&decide (n<=1099511627776)
def qv4(g:Int)(d:LeD)(now:Int):Int:=if d.held=A2 then(if now<d.til then 2 else if now<Zw Zk (d.til+g)then 1 else 0)else if now<d.til then 1 else 0
def q78(d:LeD)(til:Int):LeD:={ d with held:=A3,til:=til}
section
variable{W w:World}{F:List Asn}{b m:Nat}{B:qi3}{name:ByteArray}{now:Int}
def q41.open_(h:St W (q41 b B::F) w):∃m,B.L.length<=64/\St W (Row b 168 (bkV B m)::qr Zs m qu B.L::F) w:=by obtain⟨m,h⟩:=h.of_ex;obtain⟨a,h⟩:=h.of_sep.of_pr;exact⟨m,a,h⟩
def q41.shut(m:Nat)(a:B.L.length<=64)(h:St W (Row b 168 (bkV B m)::qr Zs m qu B.L::F) w):St W (q41 b B::F) w:=z00 m (zj (l:=[_,_,_]) (z01 a h))
def q41.back{d:LeD}{q:Nat}(c:B.L.length<=64)(e:qe B.L name=A0 d)(h:St W (qu q d::qw Zs m qu B.L name q::Row b 168 (bkV B m)::F) w):St W (q41 b B::F) w:=by have a:=z0o (A:=qu) h;rw[qt1 e]at a;exact q41.shut m c a.p1
def q5b(n:Int)(a:St W F w):qb Zp 72 #[Zi Zk n] w λv w'=>v=Zb (qa6 n)/\St W F w':=by unfold qa6;exact F72_of (za (λh=>by rw[h];exact⟨rfl,a⟩) λh=>by rw[h];exact⟨rfl,a⟩)
def q57(n:Int)(a:St W F w):qb Zp 198 #[Zi Zk n] w λv w'=>v=Zb (q79 n)/\St W F w':=by unfold q79;exact F198_of (za (λh=>by rw[h];exact⟨rfl,a⟩) λh=>by rw[h];exact⟨rfl,a⟩)
def qst(g c:Int)(a:St W F w):qb Zp 38 #[Zi Zk g,Zi Zk c] w λv w'=>((qa6 g&&qa6 c)=A3/\v=Zq A1/\St W F w')\/((qa6 g&&qa6 c)=A2/\∃b,v=qc b/\St W (q41 b ⟨g,c,0,[]⟩::F) w'):=by
 refine F38_of ((q5b g a).of λv w ⟨e,a⟩=>⟨_,e,za (λh=>?_) λh=>?_⟩)
 .have h:qa6 g=A3:=by simpa using h
  exact .inl ⟨by rw[h];rfl,rfl,a⟩
 have h:qa6 g=A2:=by simpa using h
 refine(q5b c a).of λv w ⟨e,a⟩=>⟨_,e,za (λd=>?_) λd=>?_⟩
 .have d:qa6 c=A3:=by simpa using d
  exact .inl ⟨by rw[h,d];rfl,rfl,a⟩
 have d:qa6 c=A2:=by simpa using d
 refine qs5.f (ν:=Nat) Zs qc a λm w a=>zh a λb w a=>.inr ⟨by rw[h,d];rfl,b,rfl,?_⟩;have a:St W (Row b 168 (bkV ⟨g,c,0,[]⟩ m)::qg Zs qc m (qx (Prod.fst (α:=Nat) (β:=LeD)) ([]:List (ByteArray×Nat×LeD)))::F) w:=a;exact q41.shut m (by simp) (z19 (A:=qu) [] rfl (zf 0 1 (zj (l:=[]) (zf 1 0 a rfl)) rfl)).p1
def qhy(a:qe B.L name=A1)(h:St W (Row b 168 (bkV B m)::qr Zs m qu B.L::F) w):qb Zp 204 #[qc b,Zs name,Zi Zk now] w λv w'=>
 v=Zt #[Zq A1,Zi Zk 0]/\St W (Row b 168 (bkV B m)::qr Zs m qu B.L::F) w':=
 F204_of (z7 (zv 0 h rfl rfl (z0y kS uMl iPl zPl 1 h rfl a A2 ⟨_,_,rfl,zn rfl ⟨rfl,h⟩⟩)))
def qhp{q:Nat}{d:LeD}(e:∀K:A4->A9->Prop,K (Zt #[qc q,Zb A2]) w->Run Zp (Instr.lookup 166 (.map (A0 m)) (Zs name) A2) w K)(a:St W (qu q d::Row b 168 (bkV B m)::F) w):qb Zp 204 #[qc b,Zs name,Zi Zk now] w λv w'=>
 v=Zt #[qc q,Zi Zk (qv4 B.grace d now)]/\St W (qu q d::Row b 168 (bkV B m)::F) w':=by
 refine F204_of (z7 (zv 1 a rfl rfl (e _ ⟨_,_,rfl,zm rfl (z7 ?_)⟩)));obtain⟨i,l,k,j,ti,held⟩:=d;have a:St W (Row q 55 (leV ⟨i,l,k,j,ti,held⟩)::Row b 168 (bkV B m)::F) w:=a;have f:=z6 W (Row q 55 (leV ⟨i,l,k,j,ti,held⟩)::Row b 168 (bkV B m)::F);refine zx 0 a rfl rfl ?_;unfold qv4;cases held
 .refine zm rfl ⟨StC W _,zd a,z7 ⟨_,z0t 0 f rfl rfl,zm rfl λG w c=>z7 (zx 0 (zb c) rfl rfl (zn rfl (z7 (z8 0 (zb c) rfl rfl (za (λh=>⟨?_,zb c⟩) λh=>⟨?_,zb c⟩)))))⟩⟩;.rw[yA (by simp),yB (yC h)];rfl
  .rw[yA (by simp),yA (yD h)];rfl
 .refine zn rfl (z7 (z8 0 a rfl rfl (za (λh=>⟨?_,a⟩) λh=>⟨StC W _,zd a,z7 ⟨_,z0t 0 f rfl rfl,zn rfl (z7 (z7 ⟨_,zi 0 f rfl rfl,_,zi 1 f rfl rfl,λG w c=>za (λg=>zn g ⟨?_,zb c⟩) λg=>z7 (zx 0 (zb c) rfl rfl (zm rfl ⟨?_,zb c⟩))⟩))⟩⟩)));.rw[yB rfl,yB (yC h)];rfl
  .rw[yB rfl,yA (yD h),yB (yC g)];rfl
  .rw[yB rfl,yA (yD h),yA (yD g)];rfl
def q0g(a:St W (Row b 168 (bkV B m)::qr Zs m qu B.L::F) w):qb Zp 204 #[qc b,Zs name,Zi Zk now] w λv w'=>
 (qe B.L name=A1/\v=Zt #[Zq A1,Zi Zk 0]/\St W (Row b 168 (bkV B m)::qr Zs m qu B.L::F) w')\/
 ∃d q,qe B.L name=A0 d/\v=Zt #[qc q,Zi Zk (qv4 B.grace d now)]/\St W (qu q d::qw Zs m qu B.L name q::Row b 168 (bkV B m)::F) w':=by
 cases hd:qe B.L name with
 |none=>exact(qhy hd a).of λv w h=>.inl ⟨rfl,h⟩
 |some d=>obtain⟨q,a⟩:=z15 hd a.p1;exact(qhp (λK e=>z0i kS uMl iPl zPl 1 a rfl A2 e) (zf 2 1 a rfl)).of λv w ⟨c,a⟩=>.inr ⟨d,q,rfl,c,zf 1 2 a rfl⟩
def q6f{q:Nat}{d:LeD}{u:Int}(h:St W (qu q d::F) w):qb Zp 201 #[qc q,Zi Zk u] w λv w'=>v=Zt #[]/\St W (qu q (q78 d u)::F) w':=by have h:St W (Row q 55 (leV d)::F) w:=h;exact F201_of (z7 (St1.zz 0 h rfl λw h=>z7 (St1.zz 0 h rfl λw h=>⟨rfl,h⟩)))
def q06(B:qi3)(name:ByteArray)(now:Int):LeD×Bool:=match qe B.L name with
 |none=>(zeL,A3)
 |some d=>if qv4 B.grace d now=2 then(d,A2)else(zeL,A3)
def qeg(a:St W (q41 b B::F) w):qb Zp 357 #[qc b,Zs name,Zi Zk now] w λv w'=>v=Zt #[Zg (leV (q06 B name now).1).toArray,Zb (q06 B name now).2]/\St W (q41 b B::F) w':=by
 obtain⟨m,e,a⟩:=q41.open_ a;unfold q06;refine F357_of (zh a λg w a=>?_);have a:St W (Row b 168 (bkV B m)::qr Zs m qu B.L::Row g 55 (leV zeL)::F) w:=zf 0 2 a rfl;refine(q0g a).of λv w h=>?_;rcases h with ⟨c,f,a⟩|⟨d,q,c,f,a⟩
 .rw[c];refine⟨_,_,f,zn rfl ?_⟩;refine St1.zz 2 a rfl λw a=>St1.zz 2 a rfl λw a=>St1.zz 2 a rfl λw a=>St1.zz 2 a rfl λw a=>St1.zz 2 a rfl λw a=>St1.zz 2 a rfl λw a=>?_;exact zg 2 a rfl rfl (zg 2 a rfl rfl (z8 2 a rfl rfl (z8 2 a rfl rfl (z8 2 a rfl rfl (zx 2 a rfl rfl (⟨rfl,q41.shut m e (zl 3 [0,1] a rfl)⟩))))))
 .rw[c];dsimp only;refine⟨_,_,f,za (λh=>?_) λh=>?_⟩
  .rw[yA (by simpa using h)];refine St1.zz 3 a rfl λw a=>St1.zz 3 a rfl λw a=>St1.zz 3 a rfl λw a=>St1.zz 3 a rfl λw a=>St1.zz 3 a rfl λw a=>St1.zz 3 a rfl λw a=>?_;exact zg 3 a rfl rfl (zg 3 a rfl rfl (z8 3 a rfl rfl (z8 3 a rfl rfl (z8 3 a rfl rfl (zx 3 a rfl rfl (⟨rfl,q41.back e c (zl 4 [0,1,2] a rfl)⟩))))))
  .rw[yB (by simpa using h)];refine z7 ?_;have a:St W (Row q 55 (leV d)::qw Zs m qu B.L name q::Row b 168 (bkV B m)::Row g 55 (leV zeL)::F) w:=a;refine zg 0 a rfl rfl (zg 0 a rfl rfl (z8 0 a rfl rfl (z8 0 a rfl rfl (z8 0 a rfl rfl (zx 0 a rfl rfl (?_))))));refine St1.zz 3 a rfl λw a=>St1.zz 3 a rfl λw a=>St1.zz 3 a rfl λw a=>St1.zz 3 a rfl λw a=>St1.zz 3 a rfl λw a=>St1.zz 3 a rfl λw a=>?_;exact zg 3 a rfl rfl (zg 3 a rfl rfl (z8 3 a rfl rfl (z8 3 a rfl rfl (z8 3 a rfl rfl (zx 3 a rfl rfl (⟨rfl,q41.back e c (zl 4 [0,1,2] a rfl)⟩))))))
def qlb(B:qi3)(name:ByteArray)(now:Int):qi3×LeD×Bool:=match qe B.L name with
 |none=>(B,zeL,A3)
 |some d=>if qv4 B.grace d now=2 then if q79 now=A2 then({ B with L:=qp B.L name},d,A2)else(B,zeL,A3)else(B,zeL,A3)
def qqn{κ ν:Type}[DecidableEq κ](L:List (κ×ν))(k:κ):(qp L k).length<=L.length:=(q2a L k).length_le
def q9r(a:St W (q41 b B::F) w):qb Zp 131 #[qc b,Zs name,Zi Zk now] w λv w'=>v=Zt #[Zg (leV (qlb B name now).2.1).toArray,Zb (qlb B name now).2.2]/\St W (q41 b (qlb B name now).1::F) w':=by
 obtain⟨m,f,a⟩:=q41.open_ a;unfold qlb;refine F131_of (zh a λi w a=>?_);have a:St W (Row b 168 (bkV B m)::qr Zs m qu B.L::Row i 55 (leV zeL)::F) w:=zf 0 2 a rfl;refine(q0g a).of λv w h=>?_;rcases h with ⟨e,c,a⟩|⟨d,q,e,c,a⟩
 .rw[e];refine⟨_,_,c,zn rfl ?_⟩;refine St1.zz 2 a rfl λw a=>St1.zz 2 a rfl λw a=>St1.zz 2 a rfl λw a=>St1.zz 2 a rfl λw a=>St1.zz 2 a rfl λw a=>St1.zz 2 a rfl λw a=>?_;exact zg 2 a rfl rfl (zg 2 a rfl rfl (z8 2 a rfl rfl (z8 2 a rfl rfl (z8 2 a rfl rfl (zx 2 a rfl rfl (⟨rfl,q41.shut m f (zl 3 [0,1] a rfl)⟩))))))
 .rw[e];dsimp only;refine⟨_,_,c,za (λh=>?_) λh=>?_⟩
  .rw[yA (by simpa using h)];refine St1.zz 3 a rfl λw a=>St1.zz 3 a rfl λw a=>St1.zz 3 a rfl λw a=>St1.zz 3 a rfl λw a=>St1.zz 3 a rfl λw a=>St1.zz 3 a rfl λw a=>?_;exact zg 3 a rfl rfl (zg 3 a rfl rfl (z8 3 a rfl rfl (z8 3 a rfl rfl (z8 3 a rfl rfl (zx 3 a rfl rfl (⟨rfl,q41.back f e (zl 4 [0,1,2] a rfl)⟩))))))
  rw[yB (by simpa using h)];refine(q57 now a).of λv w ⟨c,a⟩=>⟨_,c,za (λg=>?_) λg=>?_⟩
  .rw[yA (by simpa using g)];refine St1.zz 3 a rfl λw a=>St1.zz 3 a rfl λw a=>St1.zz 3 a rfl λw a=>St1.zz 3 a rfl λw a=>St1.zz 3 a rfl λw a=>St1.zz 3 a rfl λw a=>?_;exact zg 3 a rfl rfl (zg 3 a rfl rfl (z8 3 a rfl rfl (z8 3 a rfl rfl (z8 3 a rfl rfl (zx 3 a rfl rfl (⟨rfl,q41.back f e (zl 4 [0,1,2] a rfl)⟩))))))
  .rw[yB (by simpa using g)];have a:St W (Row q 55 (leV d)::qw Zs m qu B.L name q::Row b 168 (bkV B m)::Row i 55 (leV zeL)::F) w:=a;refine z7 (zv 2 a rfl rfl (qw.del_i kS uMl 1 a rfl λw a=>z7 ?_));refine zg 0 a rfl rfl (zg 0 a rfl rfl (z8 0 a rfl rfl (z8 0 a rfl rfl (z8 0 a rfl rfl (zx 0 a rfl rfl (?_))))));refine St1.zz 3 a rfl λw a=>St1.zz 3 a rfl λw a=>St1.zz 3 a rfl λw a=>St1.zz 3 a rfl λw a=>St1.zz 3 a rfl λw a=>St1.zz 3 a rfl λw a=>?_;exact zg 3 a rfl rfl (zg 3 a rfl rfl (z8 3 a rfl rfl (z8 3 a rfl rfl (z8 3 a rfl rfl (zx 3 a rfl rfl (⟨rfl,q41.shut (B:={ B with L:=qp B.L name}) m (Nat.le_trans (qqn _ _) f) (zl 4 [2,1] a rfl)⟩))))))
end
def z0s:=@q41.open_
def z0u:=@q41.shut
def z1g:=@q41.back
end
end Go.Proofs.YtfjifcfbmhpcaaaGreatDoor
