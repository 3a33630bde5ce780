/-
  A part of the proof of TopEvicted.
-/
import Derived.Test.YtfjifcfbmhpcaaaGreatDoorV02
import Derived.Test.YtfjifcfbmhpcaaaGreatDoorV14
import Derived.Test.YtfjifcfbmhpcaaaGreatDoorV03
import Derived.Test.YtfjifcfbmhpcaaaGreatDoorV16
import Derived.Test.YtfjifcfbmhpcaaaGreatDoorV19
import Derived.Test.YtfjifcfbmhpcaaaGreatDoorV00
set_option linter.defProp false
set_option linter.unusedVariables false
set_option linter.unusedSimpArgs false
namespace Go.Proofs.YtfjifcfbmhpcaaaGreatDoor
open Go
open Go.Proofs.Tryz renaming prog → Zp
open Go.IntKind renaming i64 → Zk, wrap → Zw
open Go.Value renaming int → Zi, string → Zs, pointer → Zq, bool → Zb, tuple → Zt, slice → Zl, agg → Zg
open _root_.Option renaming some->A0,none->A1
open _root_.List renaming getElem?_take_of_lt->A2,length_cons->A3,replicate->A6,getElem?_drop->A7,take_of_length_le->A8,length_map->Ab,getElem?_take->Ad,drop_eq_nil_of_le->Af,eq_nil_of_length_eq_zero->Ai,getElem?_append_right->Aj,set_cons_succ->Ak,set_cons_zero->Am,getElem?_append_left->An,getElem?_map->Ao,map_take->Ap,take_length->As,append_nil->Au,getElem?_eq_none->Av,take_zero->Ax,length_drop->B2,nil_append->B4,map_append->B5,length_nil->B7,length->Bb
open Go renaming World->A4,Value->A5,Addr->Bc
open _root_.Int renaming toNat_natCast->A9,le_refl->B3
open _root_.UInt8 renaming ofNat->Aa
open _root_.Nat renaming min_eq_left->Ac,mul_one->Ae,min_eq_right->Ah,add_sub_cancel_left->Aq,mod_eq_of_lt->Ar,mod_lt->Ay,eq_zero_or_pos->Az,lt_or_ge->B0,le_total->B1,min_le_left->B6,zero_add->B9,le_refl->Ba
open _root_.Bool renaming false->Ag,true->Aw
namespace Ri
def uB:Zp.underlying 22=A0 (.slice 5):=Tryz.underlying22
def iU8:Zp.info? 5=A0 Tryz.t5:=by kernel_rfl
def sU8:Tryz.t5.size=1:=rfl
def w64{n:Int}(h: -9223372036854775808<=n:=by omega)(w:n<=9223372036854775807:=by omega):Zw Zk n=n:=IntWalk.i64_in _ ⟨h,w⟩
def ringRow(q m at_ many:Nat):List A5:=[.slice (A0 ⟨q,0,A1⟩) m m,Zi Zk at_,Zi Zk many]
def parts_spec{W w:A4}{F:List Asn}{e q m f g:Nat}(a n:Int)(A N:Nat)(i:a=A)(s:n=N)(d:St W (Row e 382 (ringRow q m f g)::F) w)(l:0<m)(r:m<=65536)(u:A<=1000000)(x:N<=m):
 qb Zp 272 #[Zq (A0 ⟨e,0,A1⟩),Zi Zk a,Zi Zk n] w λv w'=>
  v=Zt #[.slice (A0 ⟨q,A%m,A1⟩) (min N (m - A%m)) (m - A%m),.slice (A0 ⟨q,0,A1⟩) (N - min N (m - A%m)) m]/\St W (Row e 382 (ringRow q m f g)::F) w':=by
 subst i;subst s;refine F272_of ?_;have j:A%m<m:=Ay _ l;have c:Int.tmod (A:Int) (m:Int)=((A%m:Nat):Int):=by rw[Int.tmod_eq_emod_of_nonneg (by omega)];omega
 refine z7 (LdL.i d rfl ?_);refine za (λh=>by simp at h;omega) λ_=>?_;refine z7 (LdL.i d rfl ⟨by omega,z7 (LdL.i d rfl ⟨StC W _,zd d,z7 (z7 ?_)⟩)⟩);rw[c];have t:Zw Zk ((m:Int) -((A%m:Nat):Int))=((m - A%m:Nat):Int):=by rw[w64];omega
 rw[t];have k:(if((m - A%m:Nat):Int)<(N:Int)then((m - A%m:Nat):Int)else(N:Int))=((min N (m - A%m):Nat):Int):=by split<;>omega
 rw[k];have o:Zw Zk (((A%m:Nat):Int)+((min N (m - A%m):Nat):Int))=((A%m+min N (m - A%m):Nat):Int):=by rw[w64];omega
 have p:Zw Zk ((N:Int) -((min N (m - A%m):Nat):Int))=((N - min N (m - A%m):Nat):Int):=by rw[w64];omega
 rw[o,p];refine⟨_,_,_,λG w1 b=>LdL.i b rfl ⟨rfl,b⟩,⟨by omega,?_⟩⟩;refine⟨_,_,_,λG w1 b=>LdL.i b rfl ⟨rfl,b⟩,⟨by omega,?_⟩⟩;intro G w1 b;refine⟨?_,zb b⟩;rw[yA (by omega),yA (by omega)];simp only[Option.map_some,qi1,A9,Ae,Int.toNat_zero,Nat.zero_mul];congr 3;.rw[B9,Aq]
def RingA(h m:Nat)(bs:List UInt8):Asn:=exA λx:Nat×Nat×List UInt8=>qz [
 prA (x.2.2.length=m/\m<=65536/\bs.length<=m/\(x.2.1<m\/m=0/\x.2.1=0)/\∀i,i<bs.length->x.2.2[(x.2.1+i)%m]?=bs[i]?),
 Row h 382 (ringRow x.1 m x.2.1 bs.length),Row x.1 5 (x.2.2.map qd)]
def RingA.open_{W w:A4}{F:List Asn}{a m:Nat}{bs:List UInt8}(h:St W (RingA a m bs::F) w):
 ∃(q at_:Nat) (row:List UInt8),row.length=m/\m<=65536/\bs.length<=m/\(at_<m\/m=0/\at_=0)/\(∀i,i<bs.length->row[(at_+i)%m]?=bs[i]?)/\St W (Row a 382 (ringRow q m at_ bs.length)::Row q 5 (row.map qd)::F) w:=by
 obtain⟨⟨q,at_,row⟩,h⟩:=h.of_ex;obtain⟨⟨f,b,d,c,e⟩,h⟩:=h.of_sep.of_pr;exact⟨q,at_,row,f,b,d,c,e,h⟩
def RingA.shut{W w:A4}{F:List Asn}{a m q at_ k:Nat}{bs row:List UInt8}(d:k=bs.length)(g:row.length=m)(b:m<=65536)(e:bs.length<=m)(c:at_<m\/m=0/\at_=0)(f:∀i,i<bs.length->row[(at_+i)%m]?=bs[i]?)
 (h:St W (Row a 382 (ringRow q m at_ k)::Row q 5 (row.map qd)::F) w):St W (RingA a m bs::F) w:=by
 subst d;exact z00 (q,at_,row) (zj (l:=[_,_,_]) (z01 ⟨g,b,e,c,f⟩ h))
def RingA.le{W w:A4}{F:List Asn}{b m:Nat}{bs:List UInt8}(h:St W (RingA b m bs::F) w):bs.length<=m/\m<=65536:=by obtain⟨_,_,_,_,a,c,_⟩:=RingA.open_ h;exact⟨c,a⟩
def Many_spec{W w:A4}{F:List Asn}{a m:Nat}{bs:List UInt8}(h:St W (RingA a m bs::F) w):
 qb Zp 214 #[Zq (A0 ⟨a,0,A1⟩)] w λv w'=>v=Zi Zk bs.length/\St W (RingA a m bs::F) w':=by
 obtain⟨q,at_,row,f,b,d,c,e,h⟩:=RingA.open_ h;refine F214_of (z7 (LdI.i h rfl ⟨rfl,RingA.shut rfl f b d c e h⟩))
def Room_spec{W w:A4}{F:List Asn}{b m:Nat}{bs:List UInt8}(a:St W (RingA b m bs::F) w):
 qb Zp 212 #[Zq (A0 ⟨b,0,A1⟩)] w λv w'=>v=Zi Zk ((m - bs.length:Nat):Int)/\St W (RingA b m bs::F) w':=by
 obtain⟨q,at_,row,h,c,e,d,f,a⟩:=RingA.open_ a;refine F212_of ⟨StC W _,zd a,z7 (z7 ⟨_,_,_,λG w1 h=>LdL.i h rfl ⟨rfl,h⟩,_,λG w1 h=>LdI.i h rfl ⟨rfl,h⟩,λG w1 g=>⟨?_,RingA.shut rfl h c e d f (zb g)⟩⟩)⟩;rw[w64];congr 1;omega
def parts_zero{W w:A4}{F:List Asn}{b q e d:Nat}(a n:Int)(c:St W (Row b 382 (ringRow q 0 e d)::F) w):
 qb Zp 272 #[Zq (A0 ⟨b,0,A1⟩),Zi Zk a,Zi Zk n] w λv w'=>v=Zt #[Zl A1 0 0,Zl A1 0 0]/\St W (Row b 382 (ringRow q 0 e d)::F) w':=by
 refine F272_of (z7 (LdL.i c rfl (za (λ_=>⟨rfl,c⟩) λh=>by simp at h)))
def clamp_eq(most:Int):(if 65536<(if 0>most then 0 else most)then 65536 else(if 0>most then 0 else most))=((min most.toNat 65536:Nat):Int):=by split<;>split at*<;>omega
def New_spec{W w:A4}{F:List Asn}(most:Int)(c:St W F w):
 qb Zp 185 #[Zi Zk most] w λv w'=>∃a,v=Zq (A0 ⟨a,0,A1⟩)/\St W (RingA a (min most.toNat 65536) []::F) w':=by
 refine F185_of ?_;rw[clamp_eq];refine MkS.i c (by omega) (B3 _) (by omega) (by omega) λb w1 e=>zh e λd f h=>⟨d,rfl,?_⟩;refine RingA.shut (q:=b) (at_:=0) (k:=0) (row:=A6 (min most.toNat 65536) 0) rfl (by simp) (by omega) (by simp) (by omega) (by simp) ?_;simp only[A9]at h;simpa [ringRow,qd]using h
def mod2{x m:Nat}(h:x<2*m):x%m=if x<m then x else x - m:=by
 split;.exact Ar ‹_›
 .rw[Nat.mod_eq_sub_mod (by omega),Ar (by omega)]
def mod2'{x m:Nat}(h:x<2*m):x%m=x/\x<m\/x%m=x - m/\m<=x:=by rw[mod2 h];split<;>omega
def map_get{l:List UInt8}{i:Nat}{v:A5}(h:(l.map qd)[i]?=A0 v):∃x,l[i]?=A0 x/\v=qd x:=by
 rw[Ao]at h;cases hx:l[i]? with
 |none=>simp[hx]at h
 |some x=>simp[hx]at h;exact⟨x,rfl,h.symm⟩
def first_bytes{m at_ N:Nat}{bs row:List UInt8}(g:row.length=m)(e:bs.length<=m)(d:0<m)(w:at_<m)(c:∀i,i<bs.length->row[(at_+i)%m]?=bs[i]?)(f:N<=bs.length):
 (row.drop (at_%m)).take (min N (m - at_%m))++row.take (N - min N (m - at_%m))=bs.take N:=by
 rw[Ar w];refine List.ext_getElem? λi=>?_;have b:((row.drop at_).take (min N (m - at_))).length=min N (m - at_):=by simp;omega
 rcases B0 i N with a|a
 .rw[A2 a,<-c i (by omega),mod2 (by omega)];rcases B0 i (min N (m - at_))with h|h;.rw[An (by omega),A2 h,A7,yB (by omega)]
  .rw[Aj (by omega),b,A2 (by omega),yA (by omega)];congr 1;omega
 .rw[Av (by simp;omega),Av (by simp;omega)]
def one_piece{N:Nat}{z:A5}{X:List A5}(h:X.length=N):qm1 (A6 N z) 0 X=X:=by unfold qm1;rw[Ax,B4,Af (by simp;omega),Au]
def two_pieces{N k:Nat}{z:A5}{X Y:List A5}(h:X.length=k)(w:k+Y.length=N):qm1 (qm1 (A6 N z) 0 X) k Y=X++Y:=by
 have e:qm1 (A6 N z) 0 X=X++A6 (N - k) z:=by unfold qm1;rw[Ax,B4,List.drop_replicate,B9,h]
 rw[e];unfold qm1;rw[List.take_append_of_le_length (by omega),A8 (by omega),Af (by simp;omega),Au]
def first_spec{W w:A4}{F:List Asn}{y m:Nat}{bs:List UInt8}(n:Int)(N:Nat)(H:n=N)(B:N<=bs.length)(h:St W (RingA y m bs::F) w):
 qb Zp 280 #[Zq (A0 ⟨y,0,A1⟩),Zi Zk n] w λv w'=>∃b,v=.slice (A0 ⟨b,0,A1⟩) N N/\St W (Row b 5 ((bs.take N).map qd)::RingA y m bs::F) w':=by
 subst H;obtain⟨q,at_,row,k,l,d,p,g,h⟩:=RingA.open_ h;refine F280_of (z7 (LdI.i h rfl ?_));rcases Az m with c|c
 ·
  subst c;have z:N=0:=by omega
  subst z;refine(parts_zero _ _ h).of λv w1 ⟨s,h⟩=>⟨_,_,_,_,_,_,s,?_⟩;refine MkS.i h (by omega) (B3 _) (by omega) (by omega) λb E r=>?_;refine q6a uB iU8 sU8 (by omega) ⟨_,rfl,?_⟩;refine⟨by omega,?_⟩;refine q6a uB iU8 sU8 (by omega) ⟨_,rfl,?_⟩;exact⟨b,rfl,(RingA.shut rfl k l d p g (z0w [_,_] r)).p1⟩
 .have f:at_<m:=by omega
  refine(parts_spec _ _ at_ N rfl rfl h c l (by omega) (by omega)).of λv w1 ⟨s,h⟩=>⟨_,_,_,_,_,_,s,?_⟩;refine MkS.i h (by omega) (B3 _) (by omega) (by omega) λb E h=>?_;simp only[A9]at h⊢;have I:at_%m<m:=Ay _ c;have C:((row.drop (at_%m)).take (min N (m - at_%m))).length=min N (m - at_%m):=by simp;omega
  have L:(row.take (N - min N (m - at_%m))).length=N - min N (m - at_%m):=by simp;omega
  refine q0a (cs:=((row.drop (at_%m)).take (min N (m - at_%m))).map qd) uB iU8 sU8 h (by simp) (λj v t=>(z0z (at_%m) λi u o=>?_).of h.p2 t) (by rw[Ab,C];omega) q82 λK h=>?_
  .obtain⟨x,a,rfl⟩:=map_get o;rw[Ad]at a;split at a;.rw[A7]at a;simp[a]
   .cases a
  rw[Ac (show min N (m - at_%m)<=N by omega)];refine⟨_,rfl,⟨by omega,?_⟩⟩;have D:(if N=min N (m - at_%m)then(A0 ⟨b,0,A1⟩:Option Bc)else(A0 ⟨b,0,A1⟩:Option Bc).map (·.add (min N (m - at_%m)*1)))=if N=min N (m - at_%m)then A0 ⟨b,0,A1⟩else A0 ⟨b,min N (m - at_%m),A1⟩:=by simp[qi1]
  simp only[A9];rw[D];by_cases A:N=min N (m - at_%m)
  ·
   rw[yB A];refine q6a uB iU8 sU8 (by omega) ⟨_,rfl,b,rfl,?_⟩;have e:qm1 (A6 N (Zi .u8 0)) 0 (((row.drop (at_%m)).take (min N (m - at_%m))).map qd)=(bs.take N).map qd:=by
    rw[one_piece (by simp;omega),<-first_bytes k d c f g B];have G:N - min N (m - at_%m)=0:=by omega
    rw[G];simp
   rw[e]at h;exact(RingA.shut rfl k l d p g (z0w [_,_] h)).p1
  .rw[yA A];refine q0a (cs:=(row.take (N - min N (m - at_%m))).map qd) uB iU8 sU8 h (by simp[qm1];omega) (λj v t=>(z0z 0 λi u o=>?_).of h.p2 t) (by simp;omega) q82 λJ h=>⟨_,rfl,b,rfl,?_⟩
   .obtain⟨x,a,rfl⟩:=map_get o;rw[Ad]at a;split at a;.simp[a]
    .cases a
   have e:qm1 (qm1 (A6 N (Zi .u8 0)) 0 (((row.drop (at_%m)).take (min N (m - at_%m))).map qd)) (min N (m - at_%m)) ((row.take (N - min N (m - at_%m))).map qd)=(bs.take N).map qd:=by rw[two_pieces (by simp;omega) (by simp;omega),<-first_bytes k d c f g B,B5]
   rw[e]at h;exact(RingA.shut rfl k l d p g (z0w [_,_] h)).p1
def Look_spec{W w:A4}{F:List Asn}{a m:Nat}{bs:List UInt8}(d:St W (RingA a m bs::F) w):
 qb Zp 273 #[Zq (A0 ⟨a,0,A1⟩)] w λv w'=>∃b,v=.slice (A0 ⟨b,0,A1⟩) bs.length bs.length/\St W (Row b 5 (bs.map qd)::RingA a m bs::F) w':=by
 obtain⟨q,at_,row,k,f,i,g,j,c⟩:=RingA.open_ d;refine F273_of (z7 (LdI.i c rfl ?_));refine(first_spec _ bs.length rfl (Ba _) d).of λv w1 ⟨b,e,h⟩=>⟨_,_,_,e,b,rfl,?_⟩;rwa[As]at h
def Take_spec{W w:A4}{F:List Asn}{j m:Nat}{bs:List UInt8}(n:Int)(a:St W (RingA j m bs::F) w):
 qb Zp 210 #[Zq (A0 ⟨j,0,A1⟩),Zi Zk n] w λv w'=>∃b,v=.slice (A0 ⟨b,0,A1⟩) (bs.take n.toNat).length (bs.take n.toNat).length/\St W (Row b 5 ((bs.take n.toNat).map qd)::RingA j m (bs.drop n.toNat)::F) w':=by
 obtain⟨q,at_,row,u,l,B,c,p,s⟩:=RingA.open_ a;refine F210_of (z7 (LdI.i s rfl ?_));have e:(if(bs.length:Int)<(if 0>n then 0 else n)then(bs.length:Int)else(if 0>n then 0 else n))=((min bs.length n.toNat:Nat):Int):=by split<;>split at*<;>omega
 rw[e];have x:bs.take (min bs.length n.toNat)=bs.take n.toNat:=by
  rcases B1 bs.length n.toNat with h|h;.rw[Ac h,As,A8 h]
  .rw[Ah h]
 have y:bs.drop (min bs.length n.toNat)=bs.drop n.toNat:=by
  rcases B1 bs.length n.toNat with h|h;.rw[Ac h,List.drop_length,Af h]
  .rw[Ah h]
 have z:(bs.take n.toNat).length=min bs.length n.toNat:=by simp;omega
 have A:min bs.length n.toNat<=bs.length:=B6 _ _;generalize min bs.length n.toNat=k at x y z A⊢;rw[z,<-x,<-y];refine(first_spec _ k rfl A a).of λv w1 ⟨b,C,a⟩=>⟨_,_,_,C,z7 ?_⟩;obtain⟨q,at_,row,u,l,B,c,p,a⟩:=RingA.open_ a.p1;refine LdI.i a rfl (z7 (St1.i a (by simp[ringRow]) λI a=>?_));rw[w64]at a;refine z7 (LdI.i a rfl (z7 (St1.i a (by simp[ringRow]) λH a=>?_)));rw[w64]at a;refine⟨StC W _,zd a,z7 (z7 ⟨_,λG g c=>LdI.i c rfl ⟨rfl,c⟩,_,_,_,λG g c=>LdL.i c rfl ⟨rfl,c⟩,λG g a=>?_⟩)⟩;have a:=zb a;refine za (λd=>?_) λf=>?_
 .have d:(m:Int)<=(at_:Int)+(k:Int):=by simpa using d
  refine⟨StC W _,zd a,z7 (z7 ⟨_,λG g c=>LdI.i c rfl ⟨rfl,c⟩,_,_,_,λG g c=>LdL.i c rfl ⟨rfl,c⟩,z7 ⟨Unit,(),λ_=>Zt #[],λ_=>StC W (Row j 382 [.slice (A0 ⟨q,0,A1⟩) m m,Zi Zk (Zw Zk ((at_:Int)+(k:Int) -(m:Int))),Zi Zk ((bs.length:Int) -(k:Int))]::Row q 5 (row.map qd)::Row b 5 ((bs.take k).map qd)::F),λG E a=>St1.i a (by simp[ringRow]) λJ a=>⟨(),rfl,a⟩,λ_=>⟨rfl,trivial,λG D a=>?_⟩⟩⟩)⟩;rw[w64]at a;have a:=zb a;refine⟨b,rfl,(RingA.shut (q:=q) (at_:=at_+k - m) (k:=bs.length - k) (by simp) u l (by simp;omega) (by omega) ?_ (by
   have o:((bs.length - k:Nat):Int)=(bs.length:Int) -(k:Int):=by omega
   have t:((at_+k - m:Nat):Int)=(at_:Int)+(k:Int) -(m:Int):=by omega
   simpa only[ringRow,Ak,Am,o,t]using a)).p1⟩
  intro i r;simp only[B2]at r;rw[A7,<-p (k+i) (by omega)];congr 1;rw[show at_+(k+i)=at_+k - m+i+m by omega,Nat.add_mod_right]
 .have f:(at_:Int)+(k:Int)<(m:Int):=by simpa using f
  refine⟨b,rfl,(RingA.shut (q:=q) (at_:=at_+k) (k:=bs.length - k) (by simp) u l (by simp;omega) (by omega) ?_ (by
   have o:((bs.length - k:Nat):Int)=(bs.length:Int) -(k:Int):=by omega
   have t:((at_+k:Nat):Int)=(at_:Int)+(k:Int):=by omega
   simpa only[ringRow,Ak,Am,o,t]using a)).p1⟩
  intro i r;simp only[B2]at r;rw[A7,<-p (k+i) (by omega)];congr 1;rw[show at_+(k+i)=at_+k+i by omega]
def add_bytes{m at_ N:Nat}{bs xs row:List UInt8}(s:row.length=m)(j:0<m)(n:at_<m)(l:∀i,i<bs.length->row[(at_+i)%m]?=bs[i]?)(r:N<=m - bs.length)(q:N<=xs.length)(p:bs.length<=m):
 ∀i,i<(bs++xs.take N).length->(qm1 (qm1 row ((at_+bs.length)%m) (xs.take (min N (m -(at_+bs.length)%m)))) 0 ((xs.drop (min N (m -(at_+bs.length)%m))).take (N - min N (m -(at_+bs.length)%m))))[(at_+i)%m]?=(bs++xs.take N)[i]?:=by
 intro i k;have g:(at_+bs.length)%m<m:=Ay _ j;have c:(xs.take (min N (m -(at_+bs.length)%m))).length=min N (m -(at_+bs.length)%m):=by simp;omega
 have f:((xs.drop (min N (m -(at_+bs.length)%m))).take (N - min N (m -(at_+bs.length)%m))).length=N - min N (m -(at_+bs.length)%m):=by simp;omega
 have o:i<bs.length+N:=by simp at k;omega
 rw[q0e _ _ _ _ (by rw[q94 _ _ _ (by omega)];omega),q0e _ _ _ _ (by omega),c,f,Nat.sub_zero];have d:=mod2' (x:=at_+i) (m:=m) (by omega);have e:=mod2' (x:=at_+bs.length) (m:=m) (by omega);have a:=l i;generalize (at_+i)%m=X at d a⊢;generalize (at_+bs.length)%m=A at e g c f⊢;have w:min N (m - A)=N/\N<=m - A\/min N (m - A)=m - A/\m - A<=N:=by omega
 generalize min N (m - A)=M at w c f⊢;rcases B0 i bs.length with b|b;.rw[An b,yA (by omega),yA (by omega),a b]
 .rw[Aj b,A2 (show i - bs.length<N by omega)];by_cases h:0<=X/\X<0+(N - M)
  .rw[yB h,A2 (show X<N - M by omega),A7];congr 1;omega
  .rw[yA h,yB (by omega),A2 (show X - A<M by omega)];congr 1;omega
def cut_get{xs:List UInt8}{k j:Nat}{v:A5}(h:((xs.take k).map qd)[j]?=A0 v):(xs.map qd)[j]?=A0 v:=by
 rw[Ap,Ad]at h;split at h;.exact h
 .cases h
def cut_get2{xs:List UInt8}{k m j:Nat}{v:A5}(h:((xs.take k).map qd)[j]?=A0 v)(w:k<=m):((xs.take m).map qd)[j]?=A0 v:=by
 rw[Ap,Ad]at h⊢;split at h;.rw[yB (by omega)];exact h
 .cases h
def Room_raw{W w:A4}{F:List Asn}{a q m A B:Nat}(d:m<=65536)(e:B<=m)(b:St W (Row a 382 (ringRow q m A B)::F) w):
 qb Zp 212 #[Zq (A0 ⟨a,0,A1⟩)] w λv w'=>v=Zi Zk ((m - B:Nat):Int)/\St W (Row a 382 (ringRow q m A B)::F) w':=by
 refine F212_of ⟨StC W _,zd b,z7 (z7 ⟨_,_,_,λG w1 h=>LdL.i h rfl ⟨rfl,h⟩,_,λG w1 h=>LdI.i h rfl ⟨rfl,h⟩,λG w1 c=>⟨?_,zb c⟩⟩)⟩;rw[w64];congr 1;omega
def Add_spec{W w:A4}{F:List Asn}{o m c:Nat}{bs xs:List UInt8}{p:Option Bc}(x:Rd F p (xs.map qd))(M:xs.length<=c)(d:St W (RingA o m bs::F) w):
 qb Zp 190 #[Zq (A0 ⟨o,0,A1⟩),Zl p xs.length c] w λv w'=>v=Zi Zk (min xs.length (m - bs.length):Nat)/\St W (RingA o m (bs++xs.take (m - bs.length))::F) w':=by
 obtain⟨q,at_,row,E,r,t,f,s,z⟩:=RingA.open_ d;have V:bs++xs.take (m - bs.length)=bs++xs.take (min xs.length (m - bs.length)):=by
  rcases B1 xs.length (m - bs.length)with h|h;.rw[Ac h,As,A8 h]
  .rw[Ah h]
 rw[V];refine F190_of ⟨StC W _,zd z,z7 (z7 ⟨(at_:Int),λG J f=>LdI.i f rfl ⟨rfl,f⟩,(bs.length:Int),λG J f=>LdI.i f rfl ⟨rfl,f⟩,((m - bs.length:Nat):Int),λG J e=>?_,?_⟩)⟩;.exact(Room_raw r t e).of λv I ⟨i,s⟩=>⟨_,i,rfl,s⟩
 have eN:(if((m - bs.length:Nat):Int)<(xs.length:Int)then((m - bs.length:Nat):Int)else(xs.length:Int))=((min xs.length (m - bs.length):Nat):Int):=by split<;>omega
 rw[eN,w64];have L:min xs.length (m - bs.length)<=m - bs.length:=Nat.min_le_right _ _;have K:min xs.length (m - bs.length)<=xs.length:=B6 _ _;generalize min xs.length (m - bs.length)=N at L K;have Z:((at_:Int)+(bs.length:Int))=((at_+bs.length:Nat):Int):=by omega
 rw[Z];rcases Az m with g|g
 ·
  subst g;have D:N=0:=by omega
  subst D;refine⟨Unit,(),λ_=>Zt #[Zl A1 0 0,Zl A1 0 0],λ_=>StC W (Row o 382 (ringRow q 0 at_ bs.length)::Row q 5 (row.map qd)::F),λG I e=>?_,λ_=>⟨_,_,_,_,_,_,rfl,trivial,λG P e=>?_⟩⟩;.refine(parts_zero _ _ e).of λv T ⟨i,C⟩=>⟨_,_,_,_,_,_,i,(),rfl,C⟩
  have d:=zb e;refine q6a uB iU8 sU8 (by omega) ⟨_,rfl,?_⟩;refine SlP.i (a:=0) (b:=xs.length) x (by simp) M rfl rfl (by omega) (by omega) λp' _=>?_;refine q6a uB iU8 sU8 (by omega) ⟨_,rfl,?_⟩;refine z7 (LdI.i d rfl (z7 (St1.i d (by simp[ringRow]) λY d=>?_)));rw[w64 (n:=((0:Nat):Int)+((0:Nat):Int)) (by omega) (by omega)]at d⊢;refine⟨rfl,?_⟩;rw[Ax,Au];rw[w64]at d;refine RingA.shut (q:=q) rfl E r t f s ?_;simpa [ringRow]using d
 .have u:at_<m:=by omega
  have y:(at_+bs.length)%m<m:=Ay _ g;have H:=add_bytes E g u s L K t;refine⟨Unit,(),λ_=>Zt #[.slice (A0 ⟨q,(at_+bs.length)%m,A1⟩) (min N (m -(at_+bs.length)%m)) (m -(at_+bs.length)%m),.slice (A0 ⟨q,0,A1⟩) (N - min N (m -(at_+bs.length)%m)) m],λ_=>StC W (Row o 382 (ringRow q m at_ bs.length)::Row q 5 (row.map qd)::F),λG I e=>?_,λ_=>⟨_,_,_,_,_,_,rfl,trivial,λG P e=>?_⟩⟩;.refine(parts_spec _ _ (at_+bs.length) N rfl rfl e g r (by omega) (by omega)).of λv T ⟨i,C⟩=>⟨_,_,_,_,_,_,i,(),rfl,C⟩
  have d:=(zb e).p1;generalize Q:(at_+bs.length)%m=A at y H d⊢;have O:(xs.take (min N (m - A))).length=min N (m - A):=by simp;omega
  have X:((xs.drop (min N (m - A))).take (N - min N (m - A))).length=N - min N (m - A):=by simp;omega
  refine q0a (cs:=(xs.take (min N (m - A))).map qd) uB iU8 sU8 d (by simp;omega) (λj v B=>((x.cons _).cons _).of d (cut_get B)) (by rw[Ab,O];omega) q82 λY d=>⟨_,rfl,?_⟩;rw[Ah (show min N (m - A)<=xs.length by omega),qya]at*;refine SlP.i (a:=min N (m - A)) (b:=xs.length) x (by simp) M rfl rfl (by omega) (by omega) λp' l=>?_;rw[Ae,Ae,<-List.map_drop,<-Ap]at l;refine q0a (cs:=((xs.drop (min N (m - A))).take (N - min N (m - A))).map qd) uB iU8 sU8 d (by simp[q94 _ _ _ (show A+(xs.take (min N (m - A))).length<=row.length by omega)];omega) (λj v B=>((l.cons _).cons _).of d (cut_get2 B (by omega))) (by rw[Ab,X];omega) q82 λw9 d=>⟨_,rfl,?_⟩;rw[qya]at d;have R:(((min N (m - A):Nat):Int)+((min (xs.length - min N (m - A)) (N - min N (m - A)):Nat):Int))=(N:Int):=by omega
  refine z7 (LdI.i d.p1 rfl (z7 (St1.i d.p1 (by simp[ringRow]) λU d=>?_)));rw[R,w64 (n:=(N:Int)) (by omega) (by omega)]at d⊢;rw[w64]at d;refine⟨rfl,?_⟩;refine RingA.shut (q:=q) (at_:=at_) (k:=bs.length+N) (by simp;omega) ?_ r (by simp;omega) f H ?_;.rw[q94 _ _ _ (by rw[q94 _ _ _ (by omega)];omega),q94 _ _ _ (by omega)];exact E
  .have e2:((bs.length+N:Nat):Int)=(bs.length:Int)+(N:Int):=by omega
   simpa only[ringRow,Ak,Am,e2]using d
end Ri
namespace Fr
def firstP:List UInt8->List UInt8×Nat×Int
 |[]=>([],0,0)
 |a::r=>if a.toNat≠170 then([],0,61)else match r with
  |[]=>([],0,0)
  |b::s=>if b.toNat=0\/b.toNat>200 then([],0,61)else if s.length<b.toNat then([],0,0)else(s.take b.toNat,2+b.toNat,0)
def Fine(x:List UInt8):Prop:=0<x.length/\x.length<=200
instance (x:List UInt8):Decidable (Fine x):=by unfold Fine;infer_instance
def putP(x:List UInt8):List UInt8:=if Fine x then 170::Aa x.length::x else []
def putP_fine{x:List UInt8}(h:Fine x):putP x=170::Aa x.length::x:=by unfold putP;rw[yB h]
def putP_not{x:List UInt8}(h:¬Fine x):putP x=[]:=by unfold putP;rw[yA h]
def ofLen{n:Nat}(h:n<=200):(Aa n).toNat=n:=UInt8.toNat_ofNat_of_lt' (by show n<256;omega)
end Fr
namespace Fr
def w64{n:Int}(h: -9223372036854775808<=n:=by omega)(w:n<=9223372036854775807:=by omega):Zw Zk n=n:=IntWalk.i64_in _ ⟨h,w⟩
def byte_get{bs:List UInt8}{i:Nat}{x:UInt8}(h:bs[i]?=A0 x):(bs.map qd)[i]?=A0 (Zi .u8 x.toNat):=by rw[Ao,h];rfl
def Rd.nonePtr{W w:A4}{F:List Asn}{bs:List UInt8}(c:Rd F A1 (bs.map qd))(h:St W F w):bs=[]:=by
 cases bs with
 |nil=>rfl
 |cons x r=>obtain⟨a,b,_⟩:=c.of h (i:=0) (v:=qd x) rfl;cases b
def map_get{k:IntKind}{xs:List Int}{i:Nat}{x:Int}(h:xs[i]?=A0 x):(xs.map (Zi k))[i]?=A0 (.int k x):=by rw[Ao,h];rfl
def z0l{W w:A4}{l:List Asn}{p:Option Bc}{cs:List A5}{n k:Nat}{i:Int}{v:A5}{K:Bc->Prop}(b:Rd l p cs)(h:St W l w)(e:i=(k:Int))(g:k<n)(f:cs[k]?=A0 v)
 (j:∀a,w.cell? a=A0 v->K a):IxP p n i 1 K:=by
 have c:cs[k*1]?=A0 v:=by rw[Ae,f]
 refine IxP.i b h e g c λa d=>j _ ?_;exact b.at1 h d c
end Fr
section
namespace Fr
def uB:Zp.underlying 22=A0 (.slice 5):=Tryz.underlying22
def iU8:Zp.info? 5=A0 Tryz.t5:=by kernel_rfl
def sU8:Tryz.t5.size=1:=rfl
def zU8:Tryz.t5.zero=A0 (Zi .u8 0):=rfl
def bU8:Tryz.t5.bytes=1:=rfl
abbrev OwnB(p:Option Bc)(c:Nat)(bs:List UInt8):Asn:=qi 5 1 p bs.length c (bs.map qd)
section
variable{W w:World}{F:List Asn}{p:Option Addr}{n c:Nat}{bs:List UInt8}
def append_b{q sp:Option Bc}{d m sc:Nat}{xs a:List UInt8}{R:A5->A4->Prop}(g:St W (OwnB q d xs::F) w)(i:Rd F sp (a.map qd))(f:a.length=m)(k:xs.length+a.length<=1000000)
 (j:∀c b w',St W (OwnB c b (xs++a)::F) w'->R (.slice c (xs++a).length b) w'):
 Run Zp (Builtin.append_ #[22,22] 22 #[Zl q xs.length d,Zl sp m sc]) w R:=by
 refine qp8 uB (.inr ⟨_,uB⟩) iU8 sU8 zU8 rfl g i (by rw[Ab,f,Ae]) q82 (by rw[bU8];omega) (by omega) λc b w' h=>?_;have e:xs.length+m=(xs++a).length:=by rw[List.length_append,f]
 rw[e,<-B5]at h;rw[e];exact j c b w' h
def OwnB.of_new{b:Nat}(h:St W (Row b 5 (bs.map qd)::F) w):St W (OwnB (A0 ⟨b,0,A1⟩) bs.length bs::F) w:=
 qi.whole (by simp) h
def Clone_spec(g:Rd F p (bs.map qd))(i:bs.length=n)(k:n<=1000000)(d:St W F w):
 qb Zp 244 #[Zl p n c] w λv w'=>∃f e,v=.slice f bs.length e/\St W (OwnB f e bs::F) w':=by
 subst i;refine F244_of (za (λh=>?_) λh=>zh d λb w d=>?_)
 .cases p with
  |some a=>cases h
  |none=>have j:=(Rd.nonePtr g) d;subst j;exact⟨A1,0,rfl,z1a _ _ _ d⟩
 .have d:St W (OwnB (A0 ⟨b,0,A1⟩) 0 []::F) w:=OwnB.of_new (bs:=[]) d;exact append_b (xs:=[]) d g rfl (by simp only[B7];omega) λf e w' h=>⟨_,_,_,rfl,f,e,rfl,h⟩
def First_spec(z:Rd F p (bs.map qd))(I:bs.length=n)(C:n<=c)(B:n<=1000000)(g:St W F w):
 qb Zp 166 #[Zl p n c] w λv w'=>∃u x,v=Zt #[.slice u (firstP bs).1.length x,Zi Zk (firstP bs).2.1,Zi Zk (firstP bs).2.2]/\St W (OwnB u x (firstP bs).1::F) w':=by
 subst I;have f:∀(e:Int) (w:A4),firstP bs=([],0,e)->St W F w->∃u x,Zt #[Zl A1 0 0,Zi Zk 0,Zi Zk e]=Zt #[.slice u (firstP bs).1.length x,Zi Zk (firstP bs).2.1,Zi Zk (firstP bs).2.2]/\St W (OwnB u x (firstP bs).1::F) w:=λe w h g=>by rw[h];exact⟨A1,0,rfl,z1a _ _ _ g⟩
 refine F166_of (za (λh=>?_) λh=>?_)
 .have h:bs.length=0:=by have:(bs.length:Int)=0:=(by simpa using h);omega
  have A:=Ai h;subst A;exact f 0 w rfl g
 cases bs with
 |nil=>simp at h
 |cons a r=>
  refine z0l z g (k:=0) rfl (by simp) (byte_get (i:=0) rfl) λa3 D=>zt D (za (λm=>?_) λm=>?_)
  .have m:a.toNat≠170:=by have:(a.toNat:Int)≠170:=(by simpa using m);omega
   exact f 61 w (by simp only[firstP];rw[yB m]) g
  have m:¬a.toNat≠170:=by have:(a.toNat:Int)=170:=(by simpa using m);omega
  refine za (λo=>?_) λo=>?_
  .have o:=yC o;rw[A3]at o;have A:=Ai (l:=r) (by omega);subst A;exact f 0 w (by simp only[firstP];rw[yA m]) g
  have o:=yD o;rw[A3]at o C B;cases r with
  |nil=>simp at o
  |cons b s=>
   rw[A3]at o C B;have L:b.toNat<256:=b.toNat_lt;refine z0l z g (k:=1) rfl (by simp) (byte_get (i:=1) rfl) λa5 J=>zt J ?_;rw[w64 (n:=(b.toNat:Int)) (by omega) (by omega),w64 (n:=2+(b.toNat:Int)) (by omega) (by omega)];refine⟨λvs w=>vs=[Zb (decide (b.toNat=0\/b.toNat>200))]/\St W F w,za (λj=>⟨?_,g⟩) λj=>⟨?_,g⟩,λN w K=>?_⟩
   .have t:(b.toNat:Int)=0:=by simpa using j
    rw[j,yG (.inl (by omega))]
   .have t:¬(b.toNat:Int)=0:=by simpa using j
    congr 2;rw[decide_eq_decide];omega
   obtain⟨G,g⟩:=K;cases G;refine za (λj=>?_) λj=>?_
   .have j:=yC j;exact f 61 w (by simp only[firstP];rw[yA m,yB j]) g
   have j:=yD j;refine za (λt=>?_) λt=>?_
   .have t:=yC t;exact f 0 w (by simp only[firstP];rw[yA m,yA j,yB (by simp only[A3]at t;omega)]) g
   have t:=yD t;simp only[A3]at t;have E:firstP (a::b::s)=(s.take b.toNat,2+b.toNat,0):=by simp only[firstP];rw[yA m,yA j,yA (by omega)]
   rw[E];refine SlP.i (a:=2) (b:=2+b.toNat) z (by simp) (by simp only[A3];omega) rfl (by omega) (by omega) (by simp only[A3];omega) λu y=>?_;have H:List.take ((2+b.toNat - 2)*1) (List.drop (2*1) ((a::b::s).map qd))=(s.take b.toNat).map qd:=by rw[Ae,Ae,Aq,Ap];rfl
   rw[H]at y;refine(Clone_spec y (by rw[List.length_take];omega) (by omega) g).of λv w ⟨q,d,M,g⟩=>⟨_,_,_,M,q,d,?_,g⟩;congr 3
def Put_spec(j:Rd F p (bs.map qd))(k:bs.length=n)(a:St W F w):
 qb Zp 53 #[Zl p n c] w λv w'=>∃g f,v=.slice g (putP bs).length f/\St W (OwnB g f (putP bs)::F) w':=by
 subst k;refine F53_of (za (λh=>?_) λh=>za (λe=>?_) λe=>zh a λb w a=>?_)
 .have h:(bs.length:Int)=0:=by simpa using h
  rw[putP_not (λd=>by have:=d.1;omega)];exact⟨A1,0,rfl,z1a _ _ _ a⟩
 .have e:=yC e;rw[putP_not (λd=>by have:=d.2;omega)];exact⟨A1,0,rfl,z1a _ _ _ a⟩
 .have h:¬(bs.length:Int)=0:=by simpa using h
  have e:=yD e;have d:Fine bs:=⟨by omega,by omega⟩;rw[putP_fine d];have l:Zw .u8 (bs.length:Int)=((Aa bs.length).toNat:Int):=by rw[ofLen d.2];exact IntWalk.u8_in _ ⟨by omega,by omega⟩
  have a:St W (OwnB (A0 ⟨b,0,A1⟩) 2 [170,Aa bs.length]::F) w:=by
   refine OwnB.of_new (bs:=[170,Aa bs.length]) ?_;have i:[170,Aa bs.length].map qd=[Zi .u8 170,Zi .u8 (Zw .u8 (bs.length:Int))]:=by rw[l];rfl
   rw[i];exact a
  exact append_b (xs:=[170,Aa bs.length]) a j rfl (by simp only[A3,B7];omega) λg f w' h=>⟨_,_,_,rfl,g,f,rfl,h⟩
end
end Fr
end
section
namespace Cn
open Go Go.Proofs.YtfjifcfbmhpcaaaGreatDoor
structure CnD where
 addr:Int
 inb:List UInt8
 out:List UInt8
 credit:Int
 ended:Bool
structure CT where
 L:List (Int×CnD)
 last:Int
def connC(d:CnD)(h ro:Nat):List A5:=[Zi .u32 d.addr,qc h,qc ro,Zi Zk d.credit,Zb d.ended]
def ConnA(b:Nat)(d:CnD):Asn:=exA λx:Nat×Nat=>qz [Row b 300 (connC d x.1 x.2),Ri.RingA x.1 512 d.inb,Ri.RingA x.2 1024 d.out]
def TabA(t:Nat)(T:CT):Asn:=exA λm:Nat=>qz [Row t 182 [.map (A0 m),Zi Zk T.last],qr (Zi Zk) m ConnA T.L]
def uMc:Zp.underlying 180=A0 (.map 3 190):=Tryz.underlying180
def iPc:Zp.info? 190=A0 Tryz.t190:=by kernel_rfl
def zPc:Tryz.t190.zero=A0 (Zq A1):=rfl
section
variable{W w:World}{F:List Asn}{t b:Nat}{T:CT}{d:CnD}{id:Int}
def ConnA.open_(h:St W (ConnA b d::F) w):∃a ro,St W (Row b 300 (connC d a ro)::Ri.RingA a 512 d.inb::Ri.RingA ro 1024 d.out::F) w:=by obtain⟨⟨a,ro⟩,h⟩:=h.of_ex;exact⟨a,ro,h.of_sep⟩
def ConnA.shut(a ro:Nat)(h:St W (Row b 300 (connC d a ro)::Ri.RingA a 512 d.inb::Ri.RingA ro 1024 d.out::F) w):St W (ConnA b d::F) w:=z00 (a,ro) (zj (l:=[_,_,_]) h)
def TabA.open_(h:St W (TabA t T::F) w):∃m,St W (Row t 182 [.map (A0 m),Zi Zk T.last]::qr (Zi Zk) m ConnA T.L::F) w:=by obtain⟨m,h⟩:=h.of_ex;exact⟨m,h.of_sep⟩
def TabA.shut(m:Nat)(h:St W (Row t 182 [.map (A0 m),Zi Zk T.last]::qr (Zi Zk) m ConnA T.L::F) w):St W (TabA t T::F) w:=z00 m (zj (l:=[_,_]) h)
def CT.ask{α:Type}(T:CT)(id:Int)(z:α)(r:CnD->α):α:=match qe T.L id with|none=>z|some d=>r d
def CT.upd(T:CT)(id:Int)(g:CnD->CnD):CT:=match qe T.L id with|none=>T|some d=>{ T with L:=qk T.L id (g d)}
def CT.upd_id(T:CT)(id:Int):T.upd id (λd=>d)=T:=by
 unfold CT.upd;split;.rfl
 .rename_i d h;rw[qt1 h]
def New_spec(a:St W F w):qb Zp 42 #[] w λv w'=>∃t,v=qc t/\St W (TabA t ⟨[],0⟩::F) w':=by
 refine F42_of (qs5.n (ν:=Nat) (Zi Zk) qc a λm w a=>zh a λt w a=>⟨t,rfl,TabA.shut m ?_⟩);have h:St W (Row t 182 [.map (A0 m),Zi Zk 0]::(F++[qg (Zi Zk) qc m ([]:List (Int×Nat))])) w:=a;have b:St W (qg (Zi Zk) qc m ([]:List (Int×Nat))::Row t 182 [.map (A0 m),Zi Zk 0]::F) w:=h.perm ((List.perm_append_singleton (qg (Zi Zk) qc m ([]:List (Int×Nat))) (Row t 182 [.map (A0 m),Zi Zk 0]::F)));have c:St W (Row t 182 [.map (A0 m),Zi Zk 0]::qg (Zi Zk) qc m (qx (Prod.fst (α:=Nat) (β:=CnD)) ([]:List (Int×Nat×CnD)))::qz []::F) w:=b.p1 |> λh=>(zf 0 2 (zj (l:=[]) h) rfl)
 exact(z19 (A:=ConnA) [] rfl (zf 0 2 c rfl)).p1
def ofB_spec{ask:A5}(r:CnD->Bool)(g:CnD->CnD)(a:∀(b:Nat) (d:CnD) (e c:Asn) (w:A4) (K:A5->A4->Prop),St W (ConnA b d::e::c::F) w->(∀w',St W (ConnA b (g d)::e::c::F) w'->K (Zb (r d)) w')->q01 Zp 4 ask [qc b] w K)
 (h:St W (TabA t T::F) w):qb Zp 81 #[qc t,Zi Zk id,ask] w λv w'=>v=Zb (T.ask id Ag r)/\St W (TabA t (T.upd id g)::F) w':=by
 obtain⟨m,h⟩:=TabA.open_ h;unfold CT.ask CT.upd;refine F81_of (z7 (zv 0 h rfl rfl ?_));cases hd:qe T.L id with
 |none=>exact z0y kI uMc iPc zPc 1 h rfl hd Aw ⟨_,_,rfl,zm rfl ⟨rfl,TabA.shut m h⟩⟩
 |some d=>obtain⟨b,h⟩:=z15 hd h.p1;refine z0i kI uMc iPc zPc 1 h rfl Aw ⟨_,_,rfl,zn rfl (a b d _ _ _ _ h λw' h=>⟨_,rfl,rfl,TabA.shut m ?_⟩)⟩;exact(z0o h).p1
def ofI_spec{ask:A5}(r:CnD->Int)(g:CnD->CnD)(a:∀(b:Nat) (d:CnD) (e c:Asn) (w:A4) (K:A5->A4->Prop),St W (ConnA b d::e::c::F) w->(∀w',St W (ConnA b (g d)::e::c::F) w'->K (Zi Zk (r d)) w')->q01 Zp 3 ask [qc b] w K)
 (h:St W (TabA t T::F) w):qb Zp 188 #[qc t,Zi Zk id,ask] w λv w'=>v=Zi Zk (T.ask id 0 r)/\St W (TabA t (T.upd id g)::F) w':=by
 obtain⟨m,h⟩:=TabA.open_ h;unfold CT.ask CT.upd;refine F188_of (z7 (zv 0 h rfl rfl ?_));cases hd:qe T.L id with
 |none=>exact z0y kI uMc iPc zPc 1 h rfl hd Aw ⟨_,_,rfl,zm rfl ⟨rfl,TabA.shut m h⟩⟩
 |some d=>obtain⟨b,h⟩:=z15 hd h.p1;refine z0i kI uMc iPc zPc 1 h rfl Aw ⟨_,_,rfl,zn rfl (a b d _ _ _ _ h λw' h=>⟨_,rfl,rfl,TabA.shut m ?_⟩)⟩;exact(z0o h).p1
def ofU_spec{ask:A5}(r:CnD->Int)(g:CnD->CnD)(a:∀(b:Nat) (d:CnD) (e c:Asn) (w:A4) (K:A5->A4->Prop),St W (ConnA b d::e::c::F) w->(∀w',St W (ConnA b (g d)::e::c::F) w'->K (Zi .u32 (r d)) w')->q01 Zp 34 ask [qc b] w K)
 (h:St W (TabA t T::F) w):qb Zp 400 #[qc t,Zi Zk id,ask] w λv w'=>v=Zi .u32 (T.ask id 0 r)/\St W (TabA t (T.upd id g)::F) w':=by
 obtain⟨m,h⟩:=TabA.open_ h;unfold CT.ask CT.upd;refine F400_of (z7 (zv 0 h rfl rfl ?_));cases hd:qe T.L id with
 |none=>exact z0y kI uMc iPc zPc 1 h rfl hd Aw ⟨_,_,rfl,zm rfl ⟨rfl,TabA.shut m h⟩⟩
 |some d=>obtain⟨b,h⟩:=z15 hd h.p1;refine z0i kI uMc iPc zPc 1 h rfl Aw ⟨_,_,rfl,zn rfl (a b d _ _ _ _ h λw' h=>⟨_,rfl,rfl,TabA.shut m ?_⟩)⟩;exact(z0o h).p1
def ofY_spec{ask:A5}(r:CnD->List UInt8)(g:CnD->CnD)(a:∀(b:Nat) (d:CnD) (e f:Asn) (w:A4) (K:A5->A4->Prop),St W (ConnA b d::e::f::F) w->(∀p c w',St W (qi 5 1 p (r d).length c ((r d).map qd)::ConnA b (g d)::e::f::F) w'->K (Zl p (r d).length c) w')->q01 Zp 22 ask [qc b] w K)
 (h:St W (TabA t T::F) w):qb Zp 208 #[qc t,Zi Zk id,ask] w λv w'=>∃p c,v=Zl p (T.ask id [] r).length c/\St W (qi 5 1 p (T.ask id [] r).length c ((T.ask id [] r).map qd)::TabA t (T.upd id g)::F) w':=by
 obtain⟨m,h⟩:=TabA.open_ h;unfold CT.ask CT.upd;refine F208_of (z7 (zv 0 h rfl rfl ?_));cases hd:qe T.L id with
 |none=>exact z0y kI uMc iPc zPc 1 h rfl hd Aw ⟨_,_,rfl,zm rfl ⟨A1,0,rfl,z1a _ _ _ (TabA.shut m h)⟩⟩
 |some d=>obtain⟨b,h⟩:=z15 hd h.p1;refine z0i kI uMc iPc zPc 1 h rfl Aw ⟨_,_,rfl,zn rfl (a b d _ _ _ _ h λp c w' h=>⟨_,_,_,rfl,p,c,rfl,?_⟩)⟩;have j:St W (ConnA b (g d)::qw (Zi Zk) m ConnA T.L id b::qi 5 1 p (r d).length c ((r d).map qd)::Row t 182 [.map (A0 m),Zi Zk T.last]::F) w':=zf 0 2 h rfl;have i:=zf 2 0 (z0o j) rfl;exact(TabA.shut (T:={ T with L:=qk T.L id (g d)}) m i).p1
end
end Cn
end
section
namespace Cn
open Go Go.Proofs.YtfjifcfbmhpcaaaGreatDoor
def gFeed(xs:List UInt8)(d:CnD):CnD:=if d.ended=Aw then d else { d with inb:=d.inb++xs.take (512 - d.inb.length)}
def rFeed(xs:List UInt8)(d:CnD):Int:=if d.ended=Aw then 0 else((min xs.length (512 - d.inb.length):Nat):Int)
def gRest(n:Int)(d:CnD):CnD:={ d with inb:=d.inb.drop n.toNat}
def rSay(xs:List UInt8)(d:CnD):Bool:=decide (xs.length<=1024 - d.out.length)
def gSay(xs:List UInt8)(d:CnD):CnD:=if xs.length<=1024 - d.out.length then { d with out:=d.out++xs}else d
def rBudget(n:Int)(d:CnD):Bool:=!(decide (n<0)||decide (n>1073741824))
def gBudget(n:Int)(d:CnD):CnD:=if n<0\/n>1073741824 then d else { d with credit:=if(1073741824:Int)<Zw Zk (d.credit+n)then(1073741824:Int)else Zw Zk (d.credit+n)}
def rFlush(d:CnD):List UInt8:=d.out.take d.credit.toNat
def gFlush(d:CnD):CnD:={ d with out:=d.out.drop d.credit.toNat,credit:=Zw Zk (d.credit -((rFlush d).length:Int))}
def gHalf(d:CnD):CnD:={ d with ended:=Aw}
section
variable{W w:World}{F:List Asn}{t b:Nat}{T:CT}{d:CnD}{id:Int}
def has_call{K:A5->A4->Prop}(h:K (Zb Aw) w):q01 Zp 4 (.func (.func 82) #[] #[]) [qc b] w K:=by have a:qb Zp 82 #[Zq (A0 ⟨b,0,A1⟩)] w K:=F82_of h;exact zw (by kernel_rfl) a
def Has_spec(h:St W (TabA t T::F) w):qb Zp 45 #[qc t,Zi Zk id] w λv w'=>v=Zb (T.ask id Ag λ_=>Aw)/\St W (TabA t T::F) w':=by refine F45_of ((ofB_spec (id:=id) (λ_=>Aw) (λd=>d) (λb d e f w K h c=>has_call (c w h)) h).of λv w ⟨a,h⟩=>⟨_,a,rfl,by rw[CT.upd_id]at h;exact h⟩)
def Addr_spec(h:St W (TabA t T::F) w):qb Zp 383 #[qc t,Zi Zk id] w λv w'=>v=Zi .u32 (T.ask id 0 λd=>d.addr)/\St W (TabA t T::F) w':=by refine F383_of ((ofU_spec (id:=id) (λd=>d.addr) (λd=>d) (λb d f g w K h e=>?_) h).of λv w ⟨c,h⟩=>⟨_,c,rfl,by rw[CT.upd_id]at h;exact h⟩);obtain⟨a,ro,h⟩:=ConnA.open_ h;exact zw (by kernel_rfl) (F401_of (c1:=A0 ⟨b,0,A1⟩) (z7 (z8 0 h rfl rfl (e w (ConnA.shut a ro h)))))
def Ended_spec(h:St W (TabA t T::F) w):qb Zp 136 #[qc t,Zi Zk id] w λv w'=>v=Zb (T.ask id Ag λd=>d.ended)/\St W (TabA t T::F) w':=by refine F136_of ((ofB_spec (id:=id) (λd=>d.ended) (λd=>d) (λb d f g w K h e=>?_) h).of λv w ⟨c,h⟩=>⟨_,c,rfl,by rw[CT.upd_id]at h;exact h⟩);obtain⟨a,ro,h⟩:=ConnA.open_ h;exact zw (by kernel_rfl) (F215_of (c1:=A0 ⟨b,0,A1⟩) (z7 (zx 0 h rfl rfl (e w (ConnA.shut a ro h)))))
def Half_spec(h:St W (TabA t T::F) w):qb Zp 126 #[qc t,Zi Zk id] w λv w'=>v=Zb (T.ask id Ag λd=>!d.ended)/\St W (TabA t (T.upd id gHalf)::F) w':=by refine F126_of ((ofB_spec (id:=id) (λd=>!d.ended) gHalf (λb d f g w K h e=>?_) h).of λv w ⟨c,h⟩=>⟨_,c,rfl,h⟩);obtain⟨a,ro,h⟩:=ConnA.open_ h;exact zw (by kernel_rfl) (F196_of (c1:=A0 ⟨b,0,A1⟩) (z7 (zx 0 h rfl rfl (z7 (St1.zz 0 h rfl λw h=>e w (ConnA.shut (d:=gHalf d) a ro h))))))
def Came_spec(h:St W (TabA t T::F) w):qb Zp 135 #[qc t,Zi Zk id] w λv w'=>v=Zi Zk (T.ask id 0 λd=>(d.inb.length:Int))/\St W (TabA t T::F) w':=by refine F135_of ((ofI_spec (id:=id) (λd=>(d.inb.length:Int)) (λd=>d) (λb d f g w K h e=>?_) h).of λv w ⟨a,h⟩=>⟨_,a,rfl,by rw[CT.upd_id]at h;exact h⟩);obtain⟨c,ro,h⟩:=ConnA.open_ h;exact zw (by kernel_rfl) (F213_of (c1:=A0 ⟨b,0,A1⟩) (z7 (z0k 0 h rfl rfl ((Ri.Many_spec h.p1).of λv w ⟨a,h⟩=>⟨_,a,e w (ConnA.shut c ro h.p1)⟩))))
def Waits_spec(h:St W (TabA t T::F) w):qb Zp 142 #[qc t,Zi Zk id] w λv w'=>v=Zi Zk (T.ask id 0 λd=>(d.out.length:Int))/\St W (TabA t T::F) w':=by refine F142_of ((ofI_spec (id:=id) (λd=>(d.out.length:Int)) (λd=>d) (λb d f g w K h e=>?_) h).of λv w ⟨a,h⟩=>⟨_,a,rfl,by rw[CT.upd_id]at h;exact h⟩);obtain⟨c,ro,h⟩:=ConnA.open_ h;exact zw (by kernel_rfl) (F221_of (c1:=A0 ⟨b,0,A1⟩) (z7 (z0k 0 h rfl rfl ((Ri.Many_spec (zf 2 0 h rfl)).of λv w ⟨a,h⟩=>⟨_,a,e w (ConnA.shut c ro (zf 0 2 h rfl))⟩))))
def Room_spec(h:St W (TabA t T::F) w):qb Zp 139 #[qc t,Zi Zk id] w λv w'=>v=Zi Zk (T.ask id 0 λd=>((1024 - d.out.length:Nat):Int))/\St W (TabA t T::F) w':=by refine F139_of ((ofI_spec (id:=id) (λd=>((1024 - d.out.length:Nat):Int)) (λd=>d) (λb d f g w K h e=>?_) h).of λv w ⟨a,h⟩=>⟨_,a,rfl,by rw[CT.upd_id]at h;exact h⟩);obtain⟨c,ro,h⟩:=ConnA.open_ h;exact zw (by kernel_rfl) (F218_of (c1:=A0 ⟨b,0,A1⟩) (z7 (z0k 0 h rfl rfl ((Ri.Room_spec (zf 2 0 h rfl)).of λv w ⟨a,h⟩=>⟨_,a,e w (ConnA.shut c ro (zf 0 2 h rfl))⟩))))
def Flush_spec(a:St W (TabA t T::F) w):qb Zp 141 #[qc t,Zi Zk id] w λv w'=>∃p c,v=Zl p (T.ask id [] rFlush).length c/\St W (qi 5 1 p (T.ask id [] rFlush).length c ((T.ask id [] rFlush).map qd)::TabA t (T.upd id gFlush)::F) w':=by
 refine F141_of ((ofY_spec (id:=id) rFlush gFlush (λb d f g w K a l=>?_) a).of λv w ⟨p,c,j,a⟩=>⟨_,_,_,j,p,c,rfl,a⟩);obtain⟨e,ro,a⟩:=ConnA.open_ a;refine zw (by kernel_rfl) (F220_of (c1:=A0 ⟨b,0,A1⟩) ?_);have i:=z6 W (Row b 300 (connC d e ro)::Ri.RingA e 512 d.inb::Ri.RingA ro 1024 d.out::f::g::F);refine⟨StC W _,zd a,z7 (z7 ⟨_,zo 0 i rfl rfl,_,zi 0 i rfl rfl,?_⟩)⟩;refine zk (α:=Nat) (V:=λq=>.slice (A0 ⟨q,0,A1⟩) (rFlush d).length (rFlush d).length) (B:=λq=>Row q 5 ((rFlush d).map qd)::Ri.RingA ro 1024 (d.out.drop d.credit.toNat)::Row b 300 (connC d e ro)::Ri.RingA e 512 d.inb::f::g::F) 0 i (λG w h=>(Ri.Take_spec d.credit (zf 2 0 h rfl)).of λv w' ⟨q,j,h⟩=>⟨_,_,_,j,q,rfl,h⟩) λq=>⟨_,_,_,rfl,trivial,λG w h=>?_⟩;have a:=zb h;refine z7 (z8 2 a rfl rfl (z7 (St1.zz 2 a rfl λw a=>l _ _ w ?_)));have a:St W (Row q 5 ((rFlush d).map qd)::Ri.RingA ro 1024 (d.out.drop d.credit.toNat)::Row b 300 (connC (gFlush d) e ro)::Ri.RingA e 512 d.inb::f::g::F) w:=a;have k:St W (Row b 300 (connC (gFlush d) e ro)::Ri.RingA e 512 d.inb::Ri.RingA ro 1024 (d.out.drop d.credit.toNat)::Row q 5 ((rFlush d).map qd)::f::g::F) w:=zf 0 3 (zf 0 3 a rfl) rfl |> λh=>zf 2 3 h rfl
 exact(qi.whole (by simp) (zf 1 0 (ConnA.shut (d:=gFlush d) e ro k) rfl))
def Rest_spec(n:Int)(a:St W (TabA t T::F) w):qb Zp 132 #[qc t,Zi Zk id,Zi Zk n] w λv w'=>∃p c,v=Zl p (T.ask id [] λd=>d.inb.take n.toNat).length c/\St W (qi 5 1 p (T.ask id [] λd=>d.inb.take n.toNat).length c ((T.ask id [] λd=>d.inb.take n.toNat).map qd)::TabA t (T.upd id (gRest n))::F) w':=by refine F132_of (zh a λf w a=>?_);have a:St W (TabA t T::Row f 3 [Zi Zk n]::F) w:=a.p1;refine(ofY_spec (id:=id) (λd=>d.inb.take n.toNat) (gRest n) (λb d j k w K a m=>?_) a).of λv w ⟨p,c,i,a⟩=>⟨_,_,_,i,p,c,rfl,z03 2 a rfl⟩;obtain⟨e,ro,a⟩:=ConnA.open_ a;refine zw (by kernel_rfl) (F209_of (c1:=A0 ⟨b,0,A1⟩) (cap2:=⟨f,0,A1⟩) ?_);have g:=z6 W (Row b 300 (connC d e ro)::Ri.RingA e 512 d.inb::Ri.RingA ro 1024 d.out::j::k::Row f 3 [Zi Zk n]::F);refine⟨StC W _,zd a,z7 ⟨_,zo 0 g rfl rfl,n,z02 5 g rfl rfl,?_⟩⟩;refine zk (α:=Nat) (V:=λq=>.slice (A0 ⟨q,0,A1⟩) (d.inb.take n.toNat).length (d.inb.take n.toNat).length) (B:=λq=>Row q 5 ((d.inb.take n.toNat).map qd)::Ri.RingA e 512 (d.inb.drop n.toNat)::Row b 300 (connC d e ro)::Ri.RingA ro 1024 d.out::j::k::Row f 3 [Zi Zk n]::F) 0 g (λG w h=>(Ri.Take_spec n (zf 1 0 h rfl)).of λv w' ⟨q,i,h⟩=>⟨_,_,_,i,q,rfl,h⟩) λq=>⟨_,_,_,rfl,trivial,λG w h=>m _ _ w ?_⟩;have a:=zb h;have l:St W (Row b 300 (connC (gRest n d) e ro)::Ri.RingA e 512 (d.inb.drop n.toNat)::Ri.RingA ro 1024 d.out::Row q 5 ((d.inb.take n.toNat).map qd)::j::k::Row f 3 [Zi Zk n]::F) w:=zf 0 1 (zf 0 3 a rfl) rfl;exact(qi.whole (by simp) (zf 1 0 (ConnA.shut (d:=gRest n d) e ro l) rfl))
def Feed_spec{p:Option Go.Addr}{c:Nat}{xs:List UInt8}(n:Rd F p (xs.map qd))(o:xs.length<=c)(a:St W (TabA t T::F) w):qb Zp 123 #[qc t,Zi Zk id,Zl p xs.length c] w λv w'=>v=Zi Zk (T.ask id 0 (rFeed xs))/\St W (TabA t (T.upd id (gFeed xs))::F) w':=by
 refine F123_of (zh a λg w a=>?_);have a:St W (TabA t T::Row g 22 [Zl p xs.length c]::F) w:=a.p1;refine(ofI_spec (id:=id) (rFeed xs) (gFeed xs) (λb d k m w K a l=>?_) a).of λv w ⟨j,a⟩=>⟨_,j,rfl,z03 1 a rfl⟩;obtain⟨e,ro,a⟩:=ConnA.open_ a;refine zw (by kernel_rfl) (F189_of (c1:=A0 ⟨b,0,A1⟩) (cap2:=⟨g,0,A1⟩) (z7 (zx 0 a rfl rfl (za (λf=>?_) λf=>?_))))
 .have:=l w (by unfold gFeed;rw[yB f];exact ConnA.shut e ro a);unfold rFeed at this;rw[yB f]at this;exact this
 have i:=z6 W (Row b 300 (connC d e ro)::Ri.RingA e 512 d.inb::Ri.RingA ro 1024 d.out::k::m::Row g 22 [Zl p xs.length c]::F);refine⟨StC W _,zd a,z7 ⟨_,zo 0 i rfl rfl,_,_,_,QtL.n 5 i rfl rfl,?_⟩⟩;refine zk (α:=Unit) (V:=λ_=>Zi Zk ((min xs.length (512 - d.inb.length):Nat):Int)) (B:=λ_=>Ri.RingA e 512 (d.inb++xs.take (512 - d.inb.length))::Row b 300 (connC d e ro)::Ri.RingA ro 1024 d.out::k::m::Row g 22 [Zl p xs.length c]::F) () i (λG w h=>(Ri.Add_spec (((((n.cons _).cons _).cons _).cons _).cons _ |>.app (pts G)) o (zf 1 0 h rfl)).of λv w' ⟨j,h⟩=>⟨_,j,(),rfl,h⟩) λ_=>⟨_,rfl,trivial,λG w h=>?_⟩;have a:=(zb h).p1;have:=l w (by unfold gFeed;rw[yA (by rw[f];simp)];exact ConnA.shut (d:={ d with inb:=d.inb++xs.take (512 - d.inb.length)}) e ro a);unfold rFeed at this;rw[yA (by rw[f];simp)]at this;exact this
def Budget_spec(n:Int)(a:St W (TabA t T::F) w):qb Zp 125 #[qc t,Zi Zk id,Zi Zk n] w λv w'=>v=Zb (T.ask id Ag (rBudget n))/\St W (TabA t (T.upd id (gBudget n))::F) w':=by
 refine F125_of (zh a λi w a=>?_);have a:St W (TabA t T::Row i 3 [Zi Zk n]::F) w:=a.p1;refine(ofB_spec (id:=id) (rBudget n) (gBudget n) (λb d k l w K a c=>?_) a).of λv w ⟨j,a⟩=>⟨_,j,rfl,z03 1 a rfl⟩;obtain⟨f,ro,a⟩:=ConnA.open_ a;unfold rBudget gBudget at c;refine zw (by kernel_rfl) (F195_of (c1:=A0 ⟨b,0,A1⟩) (cap2:=⟨i,0,A1⟩) (z13 5 a rfl rfl (za (λh=>?_) λh=>z13 5 a rfl rfl (za (λe=>?_) λe=>?_))))
 .rw[h,yB (.inl (yC h))]at c;exact c w (ConnA.shut f ro a)
 .rw[h,e,yB (.inr (yC e))]at c;exact c w (ConnA.shut f ro a)
 rw[h,e,yA (by have h:=yD h;have e:=yD e;omega)]at c;have g:=z6 W (Row b 300 (connC d f ro)::Ri.RingA f 512 d.inb::Ri.RingA ro 1024 d.out::k::l::Row i 3 [Zi Zk n]::F);refine⟨StC W _,zd a,z7 ⟨_,zi 0 g rfl rfl,n,z02 5 g rfl rfl,z7 (z0q 0 g rfl (by simp[connC]) ⟨rfl,trivial,λG w h=>?_⟩)⟩⟩;exact c w (ConnA.shut (d:={ d with credit:=if(1073741824:Int)<Zw Zk (d.credit+n)then(1073741824:Int)else Zw Zk (d.credit+n)}) f ro (zb h))
end
end Cn
end
section
def mlen_i{P:Program}{W w:A4}{l:List Asn}{κ ν:Type}{enc:κ->A5}{vl:ν->A5}{mt kt et ty:TypeId}{m:Nat}{L:List (κ×ν)}(d:P.underlying mt=A0 (.map kt et)){K:A5->A4->Prop}(n:Nat)(b:St W l w)(e:nth l n=A0 (qg enc vl m L))
 (f:K (Zi Zk (L.length:Int)) w):Run P (Builtin.len_ #[mt] ty #[.map (A0 m)]) w K:=by
 obtain⟨es,clock,i,c,h⟩:=z1c (b.at n e);have g:=(h.turn (o':=.map #[] 0)).1;have a:=yE Bb c;simp[qk3]at a;refine⟨_,w,?_,f⟩;simp[Builtin.len_,run_underlying d,MapKept.run_getObj_map g,a,goInt]
def qr.mlen_i{P:Program}{W w:A4}{l:List Asn}{κ δ:Type}{enc:κ->A5}{A:Nat->δ->Asn}{mt kt et ty:TypeId}{m:Nat}{L:List (κ×δ)}(a:P.underlying mt=A0 (.map kt et)){K:A5->A4->Prop}(n:Nat)(h:St W l w)(c:nth l n=A0 (qr enc m A L))
 (d:K (Zi Zk (L.length:Int)) w):Run P (Builtin.len_ #[mt] ty #[.map (A0 m)]) w K:=by
 obtain⟨bs,e,b⟩:=z1d (h.at n c);refine Go.Proofs.YtfjifcfbmhpcaaaGreatDoor.mlen_i a 0 b rfl ?_;have:(qx (Prod.fst (α:=Nat) (β:=δ)) bs).length=L.length:=by rw[q46,<-e,q46]
 rw[this];exact d
namespace Cn
section
variable{W w:World}{F:List Asn}{t b:Nat}{T:CT}{d:CnD}{id:Int}
def Say_spec{p:Option Go.Addr}{c:Nat}{xs:List UInt8}(n:Rd F p (xs.map qd))(o:xs.length<=c)(e:St W (TabA t T::F) w):qb Zp 140 #[qc t,Zi Zk id,Zl p xs.length c] w λv w'=>v=Zb (T.ask id Ag (rSay xs))/\St W (TabA t (T.upd id (gSay xs))::F) w':=by
 refine F140_of (zh e λk w e=>?_);have e:St W (TabA t T::Row k 22 [Zl p xs.length c]::F) w:=e.p1;refine(ofB_spec (id:=id) (rSay xs) (gSay xs) (λb d l m w K e j=>?_) e).of λv w ⟨i,e⟩=>⟨_,i,rfl,z03 1 e rfl⟩;obtain⟨f,ro,e⟩:=ConnA.open_ e;unfold rSay gSay at j;refine zw (by kernel_rfl) (F219_of (c1:=A0 ⟨b,0,A1⟩) (cap2:=⟨k,0,A1⟩) ?_);have g:=z6 W (Row b 300 (connC d f ro)::Ri.RingA f 512 d.inb::Ri.RingA ro 1024 d.out::l::m::Row k 22 [Zl p xs.length c]::F);refine⟨StC W _,zd e,z7 ⟨_,_,_,QtL.n 5 g rfl rfl,_,zo 0 g rfl rfl,((1024 - d.out.length:Nat):Int),λG w q=>(Ri.Room_spec (zf 2 0 q rfl)).of λv w ⟨i,h⟩=>⟨_,i,rfl,zf 0 2 h rfl⟩,za (λa=>?_) λa=>λG w h=>?_⟩⟩
 .have a:=yC a;have a:xs.length<=1024 - d.out.length:=by omega
  rw[yG a,yB a]at j;refine z7 ⟨_,zo 0 g rfl rfl,_,_,_,QtL.n 5 g rfl rfl,_,_,_,QtL.n 5 g rfl rfl,?_⟩;refine zk (α:=Unit) (V:=λ_=>Zi Zk (xs.length:Int)) (B:=λ_=>Ri.RingA ro 1024 (d.out++xs)::Row b 300 (connC d f ro)::Ri.RingA f 512 d.inb::l::m::Row k 22 [Zl p xs.length c]::F) () g (λG w h=>(Ri.Add_spec (((((n.cons _).cons _).cons _).cons _).cons _ |>.app (pts G)) o (zf 2 0 h rfl)).of λv w' ⟨i,h⟩=>⟨_,i,(),?_,?_⟩) λ_=>⟨_,rfl,QtL.n 5 ir rfl rfl,λG w h=>?_⟩;.rw[Ac a]
  .rw[A8 a]at h;exact h
  .have:=j w (ConnA.shut (d:={ d with out:=d.out++xs}) f ro (zf 0 2 (zb h) rfl));rw[show((xs.length:Int)==(xs.length:Int))=Aw from beq_self_eq_true _];exact this
 .have a:=yD a;have a:¬xs.length<=1024 - d.out.length:=by omega
  rw[yH a,yA a]at j;exact j w (ConnA.shut f ro (zb h))
def nextT(T:CT)(id:Int):CT×List UInt8×Bool×Int:=
 match qe T.L id with
 |none=>(T,[],Ag,0)
 |some d=>({ T with L:=qk T.L id { d with inb:=d.inb.drop (Fr.firstP d.inb).2.1} },(Fr.firstP d.inb).1,decide (0<(Fr.firstP d.inb).2.1),(Fr.firstP d.inb).2.2)
def Next_spec(a:St W (TabA t T::F) w):qb Zp 192 #[qc t,Zi Zk id] w λv w'=>∃p c,v=Zt #[Zl p (nextT T id).2.1.length c,Zb (nextT T id).2.2.1,Zi Zk (nextT T id).2.2.2]/\St W (qi 5 1 p (nextT T id).2.1.length c ((nextT T id).2.1.map qd)::TabA t (nextT T id).1::F) w':=by
 obtain⟨m,a⟩:=TabA.open_ a;unfold nextT;refine F192_of (z7 (zv 0 a rfl rfl ?_));cases hd:qe T.L id with
 |none=>exact z0y kI uMc iPc zPc 1 a rfl hd Aw ⟨_,_,rfl,zn rfl ⟨A1,0,rfl,z1a _ _ _ (TabA.shut m a)⟩⟩
 |some d=>
  obtain⟨b,a⟩:=z15 hd a.p1;refine z0i kI uMc iPc zPc 1 a rfl Aw ⟨_,_,rfl,zm rfl ?_⟩;obtain⟨f,ro,a⟩:=ConnA.open_ a;have i:=(Ri.RingA.le a.p1).1;refine z7 (z0k 0 a rfl rfl ((Ri.Look_spec a.p1).of λv w ⟨q,g,a⟩=>⟨_,_,_,g,?_⟩));refine(Fr.First_spec (bs:=d.inb) z0m rfl (Ba _) (by omega) a).of λv w ⟨p,c,g,a⟩=>⟨_,_,_,_,_,g,?_⟩;have a:St W (Fr.OwnB p c (Fr.firstP d.inb).1::Row q 5 (d.inb.map qd)::Ri.RingA f 512 d.inb::Row b 300 (connC d f ro)::Ri.RingA ro 1024 d.out::qw (Zi Zk) m ConnA T.L id b::Row t 182 [.map (A0 m),Zi Zk T.last]::F) w:=a;refine z7 (z0k 3 a rfl rfl ((Ri.Take_spec ((Fr.firstP d.inb).2.1:Nat) (zf 2 0 a rfl)).of λv w ⟨l,g,a⟩=>⟨_,_,_,g,?_⟩));rw[A9]at a;have a:St W (Row b 300 (connC d f ro)::Ri.RingA f 512 (d.inb.drop (Fr.firstP d.inb).2.1)::Ri.RingA ro 1024 d.out::qw (Zi Zk) m ConnA T.L id b::Row t 182 [.map (A0 m),Zi Zk T.last]::Fr.OwnB p c (Fr.firstP d.inb).1::F) w:=zf 2 5 (zf 2 0 (z03 2 a.drop rfl) rfl) rfl;have j:=z0o (ConnA.shut (d:={ d with inb:=d.inb.drop (Fr.firstP d.inb).2.1}) f ro a);have k:=(TabA.shut (T:={ T with L:=qk T.L id { d with inb:=d.inb.drop (Fr.firstP d.inb).2.1} }) m j.p1).p1;have e:(decide (((Fr.firstP d.inb).2.1:Int)>0))=decide (0<(Fr.firstP d.inb).2.1):=by
   by_cases h:0<(Fr.firstP d.inb).2.1;.rw[yG h,yG (by omega)]
   .rw[yH h,yH (by omega)]
  rw[e];exact⟨p,c,rfl,k⟩
def openT(T:CT)(addr:Int):CT×Int×Int:=
 if T.L.length=64 then(T,0,2)else(⟨qk T.L (Zw Zk (T.last+1)) ⟨addr,[],[],0,Ag⟩,Zw Zk (T.last+1)⟩,Zw Zk (T.last+1),0)
def Open_spec(addr:Int)(b:St W (TabA t T::F) w):qb Zp 120 #[qc t,Zi .u32 addr] w λv w'=>v=Zt #[Zi Zk (openT T addr).2.1,Zi Zk (openT T addr).2.2]/\St W (TabA t (openT T addr).1::F) w':=by
 obtain⟨m,b⟩:=TabA.open_ b;unfold openT;refine F120_of (z7 (zv 0 b rfl rfl (qr.mlen_i uMc 1 b rfl ⟨_,rfl,za (λh=>?_) λh=>?_⟩)))
 .have h:(T.L.length:Int)=64:=by simpa using h
  rw[yB (by omega)];exact⟨rfl,TabA.shut m b⟩
 have h:¬(T.L.length:Int)=64:=by simpa using h
 rw[yA (by omega)];obtain⟨a,e⟩:∃a,Zw Zk (T.last+1)=a:=⟨_,rfl⟩;rw[e];refine z7 (z8 0 b rfl rfl (z7 (St1.zz 0 b rfl λw b=>?_)));have b:St W (Row t 182 [.map (A0 m),Zi Zk (Zw Zk (T.last+1))]::qr (Zi Zk) m ConnA T.L::F) w:=b;rw[e]at b;have g:=z6 W (Row t 182 [.map (A0 m),Zi Zk a]::qr (Zi Zk) m ConnA T.L::F);refine⟨StC W _,zd b,z7 (z7 ⟨_,z0a 0 g rfl rfl,a,zi 0 g rfl rfl,?_⟩)⟩;refine zk (α:=Nat) (V:=qc) (B:=λc=>Ri.RingA c 512 []::Row t 182 [.map (A0 m),Zi Zk a]::qr (Zi Zk) m ConnA T.L::F) 0 g (λG w h=>(Ri.New_spec 512 h).of λv w' ⟨c,i,h⟩=>⟨_,i,c,rfl,h⟩) λc=>⟨_,rfl,⟨zi 1 ir rfl rfl,z0a 1 ir rfl rfl⟩,?_⟩;refine zk (α:=Nat) (V:=qc) (B:=λro=>Ri.RingA ro 1024 []::Ri.RingA c 512 []::Row t 182 [.map (A0 m),Zi Zk a]::qr (Zi Zk) m ConnA T.L::F) 0 ir (λG w h=>(Ri.New_spec 1024 h).of λv w' ⟨ro,i,h⟩=>⟨_,i,ro,rfl,h⟩) λro=>⟨_,rfl,⟨zi 2 ir rfl rfl,z0a 2 ir rfl rfl⟩,λf=>?_⟩;refine zk (α:=Unit) (V:=λ_=>Zt #[]) (B:=λ_=>Row t 182 [.map (A0 m),Zi Zk a]::qr (Zi Zk) m ConnA (qk T.L a ⟨addr,[],[],0,Ag⟩)::F) () (ir.push f _) (λG w h=>?_) λ_=>⟨rfl,trivial,λG w h=>z7 (z8 0 (zb h) rfl rfl ⟨rfl,TabA.shut (T:=⟨qk T.L a ⟨addr,[],[],0,Ag⟩,a⟩) m (zb h)⟩)⟩;have h:St W (Pt f (.cells #[Zi .u32 addr,qc c,qc ro,Zi Zk 0,Zb Ag] 300)::Ri.RingA ro 1024 []::Ri.RingA c 512 []::Row t 182 [.map (A0 m),Zi Zk a]::qr (Zi Zk) m ConnA T.L::(F++pts G)) w:=h;have j:=ConnA.shut (d:=⟨addr,[],[],0,Ag⟩) c ro (zf 1 2 (h.imp z0c) rfl);exact qr.set_i kI uMc 0 1 j rfl rfl λw' h=>⟨(),rfl,h⟩
def Close_spec(h:St W (TabA t T::F) w):qb Zp 145 #[qc t,Zi Zk id] w λv w'=>v=Zb (T.ask id Ag λ_=>Aw)/\St W (TabA t { T with L:=qp T.L id}::F) w':=by refine F145_of ((Has_spec h).of λv w ⟨a,h⟩=>⟨_,a,?_⟩);obtain⟨m,h⟩:=TabA.open_ h;refine z7 (zv 0 h rfl rfl (qr.deln_i kI uMc 1 h rfl λw h=>⟨rfl,TabA.shut (T:={ T with L:=qp T.L id}) m h⟩))
end
end Cn
end
section
def qi9(B:qi3)(ten name:ByteArray)(epoch now:Int):Int:=if q79 now=Ag then 1 else match qe B.L name with
 |none=>3
 |some d=>if qv4 B.grace d now≠2 then 3 else if d.ten≠ten then 131 else if d.epoch≠epoch then 132 else 0
def q2f(a b:Int):Int:=if a<b then a else b
def qpb(B:qi3)(ten name:ByteArray)(epoch now ttl:Int):qi3×LeD×Int:=
 if qa6 ttl=Ag then(B,zeL,1)else
 if qi9 B ten name epoch now=0 then match qe B.L name with
  |none=>(B,zeL,0)
  |some d=>({ B with L:=qk B.L name { d with til:=Zw Zk (now+q2f B.most ttl)} },{ d with til:=Zw Zk (now+q2f B.most ttl)},0)
 else(B,zeL,qi9 B ten name epoch now)
def qmb(B:qi3)(ten name:ByteArray)(epoch now:Int):qi3×Int:=
 if qi9 B ten name epoch now=0 then match qe B.L name with
  |none=>(B,0)
  |some d=>({ B with L:=qk B.L name (q78 d (Zw Zk (now+B.grace)))},0)
 else(B,qi9 B ten name epoch now)
def q4e{κ ν:Type}[DecidableEq κ](L:List (κ×ν))(k:κ)(v:ν):(qk L k v).length=if qe L k=A1 then L.length+1 else L.length:=by have:=yE Bb (qha L k v);rw[Ab]at this;rw[this];split<;>simp
section
variable{W w:World}{F:List Asn}{b m:Nat}{B:qi3}{name:ByteArray}{now:Int}
variable{ten:ByteArray}{epoch ttl conn:Int}
def qpm{n:A5}{Q:A4->Prop}(g:B.L.length<=64)
 (c:∀(d:LeD) (q:Nat),qe B.L name=A0 d->qi9 B ten name epoch now=0->∀(w:A4) (K:A5->A4->Prop),St W (qu q d::qw Zs m qu B.L name q::Row b 168 (bkV B m)::F) w->(∀w',Q w'->K (Zt #[]) w')->q01 Zp 0 n [qc q] w K)
 (a:St W (Row b 168 (bkV B m)::qr Zs m qu B.L::F) w):qb Zp 385 #[qc b,Zs ten,Zs name,Zi Zk epoch,Zi Zk now,n] w λv w'=>
 v=Zi Zk (qi9 B ten name epoch now)/\(qi9 B ten name epoch now=0->Q w')/\(qi9 B ten name epoch now≠0->St W (q41 b B::F) w'):=by
 refine F385_of ((q0g a).of λv w h=>?_);rcases h with ⟨e,f,a⟩|⟨d,q,e,f,a⟩
 .refine⟨_,_,f,(q57 now a).of λv w ⟨f,a⟩=>⟨_,f,?_⟩⟩;unfold qi9;rw[e];refine za (λh=>?_) λh=>zn rfl ?_
  .rw[yB (by simpa using h)];exact⟨rfl,λh=>by simp at h,λ_=>z0u m g a⟩
  .rw[yA (by simpa using h)];exact⟨rfl,λh=>by simp at h,λ_=>z0u m g a⟩
 .refine⟨_,_,f,(q57 now a).of λv w ⟨f,a⟩=>⟨_,f,?_⟩⟩;have i:qi9 B ten name epoch now=if q79 now=Ag then 1 else if qv4 B.grace d now≠2 then 3 else if d.ten≠ten then 131 else if d.epoch≠epoch then 132 else 0:=by unfold qi9;rw[e]
  have c:=c d q e;rw[i]at c⊢;have a:St W (Row q 55 (leV d)::qw Zs m qu B.L name q::Row b 168 (bkV B m)::F) w:=a;refine za (λh=>?_) λh=>za (λk=>?_) λk=>z7 (zg 0 a rfl rfl ?_)
  .rw[yB (by simpa using h)];exact⟨rfl,λh=>by simp at h,λ_=>z1g g e a⟩
  .rw[yA (by simpa using h),yB (by simpa using k)];exact⟨rfl,λh=>by simp at h,λ_=>z1g g e a⟩
  rw[yA (by simpa using h),yA (by simpa using k)]at c⊢;rw[qrc];refine za (λj=>?_) λj=>z7 (z8 0 a rfl rfl (za (λl=>?_) λl=>?_))
  .rw[yB (by simpa using j)];exact⟨rfl,λh=>by simp at h,λ_=>z1g g e a⟩
  .rw[yA (by simpa using j),yB (by simpa using l)];exact⟨rfl,λh=>by simp at h,λ_=>z1g g e a⟩
  rw[yA (by simpa using j),yA (by simpa using l)]at c⊢;exact c rfl w _ a λw' o=>⟨rfl,rfl,λ_=>o,λh=>yI rfl h⟩
def qfq(a:St W (q41 b B::F) w):qb Zp 356 #[qc b,Zs ten,Zs name,Zi Zk epoch,Zi Zk now,Zi Zk ttl] w λv w'=>
 v=Zt #[Zg (leV (qpb B ten name epoch now ttl).2.1).toArray,Zi Zk (qpb B ten name epoch now ttl).2.2]/\St W (q41 b (qpb B ten name epoch now ttl).1::F) w':=by
 unfold qpb;refine F356_of (zh a λi w a=>zh a λg w a=>zh a λf w a=>zh a λe w a=>z13 1 a rfl rfl ((q5b ttl a).of λv w ⟨o,a⟩=>⟨_,o,za (λh=>?_) λh=>?_⟩))
 .rw[yB (by simpa using h)];have a:St W (Row e 55 (leV zeL)::Row f 2 [Zi Zk ttl]::Row g 2 [Zi Zk now]::Row i 94 [qc b]::q41 b B::F) w:=a;refine St1.zz 0 a rfl λw a=>St1.zz 0 a rfl λw a=>St1.zz 0 a rfl λw a=>St1.zz 0 a rfl λw a=>St1.zz 0 a rfl λw a=>St1.zz 0 a rfl λw a=>?_;exact zg 0 a rfl rfl (zg 0 a rfl rfl (z8 0 a rfl rfl (z8 0 a rfl rfl (z8 0 a rfl rfl (zx 0 a rfl rfl (⟨rfl,zl 5 [4] a rfl⟩))))))
 rw[yA (by simpa using h)];refine zh a λc w a=>?_;have a:St W (q41 b B::Row c 55 (leV zeL)::Row e 55 (leV zeL)::Row f 2 [Zi Zk ttl]::Row g 2 [Zi Zk now]::Row i 94 [qc b]::F) w:=zf 5 0 a rfl;obtain⟨m,p,a⟩:=z0s a;refine LdP.n 6 a rfl rfl (z13 5 a rfl rfl ?_);refine(qpm (ten:=ten) (epoch:=epoch) (now:=now) (Q:=λw=>∃d,qe B.L name=A0 d/\St W (Row c 55 (leV { d with til:=Zw Zk (now+q2f B.most ttl)})::q41 b { B with L:=qk B.L name { d with til:=Zw Zk (now+q2f B.most ttl)} }::Row e 55 (leV zeL)::F) w) p (λd q n _ w K a r=>?_) a).of λv w ⟨o,s,j⟩=>⟨_,o,?_⟩
 .have a:St W (Row q 55 (leV d)::qw Zs m qu B.L name q::Row b 168 (bkV B m)::Row c 55 (leV zeL)::Row e 55 (leV zeL)::Row f 2 [Zi Zk ttl]::Row g 2 [Zi Zk now]::Row i 94 [qc b]::F) w:=a;have k:=z6 W (Row q 55 (leV d)::qw Zs m qu B.L name q::Row b 168 (bkV B m)::Row c 55 (leV zeL)::Row e 55 (leV zeL)::Row f 2 [Zi Zk ttl]::Row g 2 [Zi Zk now]::Row i 94 [qc b]::F);have j:qb Zp 386 #[qc q,qc g,qc f,qc i,qc c] w K:=by refine F386_of ⟨StC W _,zd a,_,z02 6 k rfl rfl,_,z02 5 k rfl rfl,_,zy 7 k rfl rfl,z7 ⟨_,zi 2 k rfl rfl,z7 (z0q 0 k rfl (by simp[leV]) ⟨rfl,trivial,λG w h=>z7 ?_⟩)⟩⟩;have a:=zb h;have a:St W (Row q 55 (leV { d with til:=Zw Zk (now+q2f B.most ttl)})::qw Zs m qu B.L name q::Row b 168 (bkV B m)::Row c 55 (leV zeL)::Row e 55 (leV zeL)::Row f 2 [Zi Zk ttl]::Row g 2 [Zi Zk now]::Row i 94 [qc b]::F) w:=a;refine zg 0 a rfl rfl (zg 0 a rfl rfl (z8 0 a rfl rfl (z8 0 a rfl rfl (z8 0 a rfl rfl (zx 0 a rfl rfl (?_))))));refine St1.zz 3 a rfl λw a=>St1.zz 3 a rfl λw a=>St1.zz 3 a rfl λw a=>St1.zz 3 a rfl λw a=>St1.zz 3 a rfl λw a=>St1.zz 3 a rfl λw a=>r w ⟨d,n,?_⟩;have j:=z0o (A:=qu) (d:={ d with til:=Zw Zk (now+q2f B.most ttl)}) a;exact(z0u (B:={ B with L:=qk B.L name { d with til:=Zw Zk (now+q2f B.most ttl)} }) m (by rw[q4e,n];simpa using p) (zl 7 [1,0,2,3] j rfl)).p1
  exact zw (by kernel_rfl) j
 by_cases l:qi9 B ten name epoch now=0
 .obtain⟨d,n,a⟩:=s l;rw[yB l,n,l];refine zg 0 a rfl rfl (zg 0 a rfl rfl (z8 0 a rfl rfl (z8 0 a rfl rfl (z8 0 a rfl rfl (zx 0 a rfl rfl (?_))))));refine St1.zz 2 a rfl λw a=>St1.zz 2 a rfl λw a=>St1.zz 2 a rfl λw a=>St1.zz 2 a rfl λw a=>St1.zz 2 a rfl λw a=>St1.zz 2 a rfl λw a=>?_;exact zg 2 a rfl rfl (zg 2 a rfl rfl (z8 2 a rfl rfl (z8 2 a rfl rfl (z8 2 a rfl rfl (zx 2 a rfl rfl (⟨rfl,zl 3 [1] a rfl⟩))))))
 .have a:=j l;rw[yA l];refine zg 1 a rfl rfl (zg 1 a rfl rfl (z8 1 a rfl rfl (z8 1 a rfl rfl (z8 1 a rfl rfl (zx 1 a rfl rfl (?_))))));refine St1.zz 2 a rfl λw a=>St1.zz 2 a rfl λw a=>St1.zz 2 a rfl λw a=>St1.zz 2 a rfl λw a=>St1.zz 2 a rfl λw a=>St1.zz 2 a rfl λw a=>?_;exact zg 2 a rfl rfl (zg 2 a rfl rfl (z8 2 a rfl rfl (z8 2 a rfl rfl (z8 2 a rfl rfl (zx 2 a rfl rfl (⟨rfl,zl 6 [0] a rfl⟩))))))
def q4m(a:St W (q41 b B::F) w):qb Zp 358 #[qc b,Zs ten,Zs name,Zi Zk epoch,Zi Zk now] w λv w'=>
 v=Zi Zk (qmb B ten name epoch now).2/\St W (q41 b (qmb B ten name epoch now).1::F) w':=by
 unfold qmb;refine F358_of (zh a λg w a=>zh a λc w a=>?_);have a:St W (q41 b B::Row c 2 [Zi Zk now]::Row g 94 [qc b]::F) w:=zf 2 0 a rfl;obtain⟨m,l,a⟩:=z0s a;refine LdP.n 3 a rfl rfl (z13 2 a rfl rfl ?_);refine(qpm (ten:=ten) (epoch:=epoch) (now:=now) (Q:=λw=>∃d,qe B.L name=A0 d/\St W (q41 b { B with L:=qk B.L name (q78 d (Zw Zk (now+B.grace)))}::F) w) l (λd q j _ w K a n=>?_) a).of λv w ⟨k,o,e⟩=>⟨_,k,?_⟩
 .have i:=z6 W (qu q d::qw Zs m qu B.L name q::Row b 168 (bkV B m)::Row c 2 [Zi Zk now]::Row g 94 [qc b]::F);have e:qb Zp 387 #[qc q,qc c,qc g] w K:=by refine F387_of ⟨StC W _,zd a,_,z02 3 i rfl rfl,_,zy 4 i rfl rfl,z7 ⟨_,zi 2 i rfl rfl,zk (α:=Unit) (V:=λ_=>Zt #[]) (B:=λ_=>qu q (q78 d (Zw Zk (now+B.grace)))::qw Zs m qu B.L name q::Row b 168 (bkV B m)::Row c 2 [Zi Zk now]::Row g 94 [qc b]::F) () i (λG w h=>(q6f h).of λv w' ⟨k,h⟩=>⟨k,(),rfl,h⟩) λ_=>⟨rfl,trivial,λG w h=>n w ⟨d,j,?_⟩⟩⟩⟩;have e:=z0o (A:=qu) (d:=q78 d (Zw Zk (now+B.grace))) (zb h);exact z0u (B:={ B with L:=qk B.L name (q78 d (Zw Zk (now+B.grace)))}) m (by rw[q4e,j];simpa using l) (zl 4 [1,0] e rfl)
  exact zw (by kernel_rfl) e
 by_cases f:qi9 B ten name epoch now=0
 .obtain⟨d,j,a⟩:=o f;rw[yB f,j,f];exact⟨rfl,a⟩
 .rw[yA f];exact⟨rfl,zl 3 [0] (e f) rfl⟩
def qy9(B:qi3)(ten name:ByteArray)(conn now ttl:Int):LeD:=⟨name,ten,conn,Zw Zk (B.epoch+1),Zw Zk (now+q2f B.most ttl),Aw⟩
def q38(B:qi3)(ten name:ByteArray)(now ttl:Int):Int:=
 if q1a ten=Ag then 1 else if q1a name=Ag then 1 else if q79 now=Ag then 1 else if qa6 ttl=Ag then 1 else
 match qe B.L name with
 |none=>if B.L.length=64 then 2 else 0
 |some d=>if qv4 B.grace d now>0/\d.ten≠ten then 131 else if qv4 B.grace d now=2 then 4 else 0
def qk5(B:qi3)(ten name:ByteArray)(conn now ttl:Int):qi3×LeD×Int:=
 if q38 B ten name now ttl=0 then({ B with epoch:=Zw Zk (B.epoch+1),L:=qk B.L name (qy9 B ten name conn now ttl)},qy9 B ten name conn now ttl,0)else(B,zeL,q38 B ten name now ttl)
def qir(a:St W (q41 b B::F) w):qb Zp 354 #[qc b,Zs ten,Zs name,Zi Zk conn,Zi Zk now,Zi Zk ttl] w λv w'=>
 v=Zt #[Zg (leV (qk5 B ten name conn now ttl).2.1).toArray,Zi Zk (qk5 B ten name conn now ttl).2.2]/\St W (q41 b (qk5 B ten name conn now ttl).1::F) w':=by
 have f:∀(e:Int),e≠0->q38 B ten name now ttl=e->∀c w,St W (q41 b B::Row c 55 (leV zeL)::F) w->Zt #[Zg (leV zeL).toArray,Zi Zk e]=Zt #[Zg (leV (qk5 B ten name conn now ttl).2.1).toArray,Zi Zk (qk5 B ten name conn now ttl).2.2]/\St W (q41 b (qk5 B ten name conn now ttl).1::F) w:=λe t C c w h=>by unfold qk5;rw[C,yA t];exact⟨rfl,h.p1.drop⟩
 unfold q38 at f;refine F354_of (zh a λc w a=>?_);have a:St W (q41 b B::Row c 55 (leV zeL)::F) w:=a.p1;refine(qoc ten a).of λv w ⟨i,a⟩=>⟨_,i,za (λh=>?_) λc1=>?_⟩
 .refine St1.zz 1 a rfl λw a=>St1.zz 1 a rfl λw a=>St1.zz 1 a rfl λw a=>St1.zz 1 a rfl λw a=>St1.zz 1 a rfl λw a=>St1.zz 1 a rfl λw a=>?_;exact zg 1 a rfl rfl (zg 1 a rfl rfl (z8 1 a rfl rfl (z8 1 a rfl rfl (z8 1 a rfl rfl (zx 1 a rfl rfl (f 1 (by simp) (by rw[yB (by simpa using h)]) c _ a))))))
 rw[yA (by simpa using c1)]at f;refine(qoc name a).of λv w ⟨i,a⟩=>⟨_,i,za (λh=>?_) λH=>?_⟩
 .refine St1.zz 1 a rfl λw a=>St1.zz 1 a rfl λw a=>St1.zz 1 a rfl λw a=>St1.zz 1 a rfl λw a=>St1.zz 1 a rfl λw a=>St1.zz 1 a rfl λw a=>?_;exact zg 1 a rfl rfl (zg 1 a rfl rfl (z8 1 a rfl rfl (z8 1 a rfl rfl (z8 1 a rfl rfl (zx 1 a rfl rfl (f 1 (by simp) (by rw[yB (by simpa using h)]) c _ a))))))
 rw[yA (by simpa using H)]at f;refine(q57 now a).of λv w ⟨i,a⟩=>⟨_,i,za (λh=>?_) λJ=>?_⟩
 .refine St1.zz 1 a rfl λw a=>St1.zz 1 a rfl λw a=>St1.zz 1 a rfl λw a=>St1.zz 1 a rfl λw a=>St1.zz 1 a rfl λw a=>St1.zz 1 a rfl λw a=>?_;exact zg 1 a rfl rfl (zg 1 a rfl rfl (z8 1 a rfl rfl (z8 1 a rfl rfl (z8 1 a rfl rfl (zx 1 a rfl rfl (f 1 (by simp) (by rw[yB (by simpa using h)]) c _ a))))))
 rw[yA (by simpa using J)]at f;refine(q5b ttl a).of λv w ⟨i,a⟩=>⟨_,i,za (λh=>?_) λM=>?_⟩
 .refine St1.zz 1 a rfl λw a=>St1.zz 1 a rfl λw a=>St1.zz 1 a rfl λw a=>St1.zz 1 a rfl λw a=>St1.zz 1 a rfl λw a=>St1.zz 1 a rfl λw a=>?_;exact zg 1 a rfl rfl (zg 1 a rfl rfl (z8 1 a rfl rfl (z8 1 a rfl rfl (z8 1 a rfl rfl (zx 1 a rfl rfl (f 1 (by simp) (by rw[yB (by simpa using h)]) c _ a))))))
 rw[yA (by simpa using M)]at f;obtain⟨m,D,a⟩:=z0s a;refine(q0g a).of λv w h=>?_;have y:∃s p,v=Zt #[Zq s,Zi Zk p]/\((s=A1/\p=0/\qe B.L name=A1/\St W (Row b 168 (bkV B m)::qr Zs m qu B.L::Row c 55 (leV zeL)::F) w)\/
  ∃(d:LeD) (q:Nat),s=A0 ⟨q,0,A1⟩/\p=qv4 B.grace d now/\qe B.L name=A0 d/\St W (Row q 55 (leV d)::qw Zs m qu B.L name q::Row b 168 (bkV B m)::Row c 55 (leV zeL)::F) w):=by
  rcases h with ⟨n,i,a⟩|⟨d,q,n,i,a⟩
  .exact⟨_,_,i,.inl ⟨rfl,rfl,n,a⟩⟩
  .exact⟨_,_,i,.inr ⟨d,q,rfl,rfl,n,a⟩⟩
 clear h a;obtain⟨s,p,i,y⟩:=y;have g:∀(e:Int),e≠0->q38 B ten name now ttl=e->∀c w,St W (q41 b B::Row c 55 (leV zeL)::F) w->Zt #[Zg (leV zeL).toArray,Zi Zk e]=Zt #[Zg (leV (qk5 B ten name conn now ttl).2.1).toArray,Zi Zk (qk5 B ten name conn now ttl).2.2]/\St W (q41 b (qk5 B ten name conn now ttl).1::F) w:=λe t C c w h=>by unfold qk5;rw[C,yA t];exact⟨rfl,h.p1.drop⟩
 have o:q38 B ten name now ttl=match qe B.L name with
  |none=>if B.L.length=64 then 2 else 0
  |some d=>if qv4 B.grace d now>0/\d.ten≠ten then 131 else if qv4 B.grace d now=2 then 4 else 0:=by
  unfold q38;rw[yA (by simpa using c1),yA (by simpa using H),yA (by simpa using J),yA (by simpa using M)]
 refine⟨_,_,i,⟨λ_ w=>q38 B ten name now ttl=0/\(qe B.L name=A1->B.L.length<64)/\St W (Row b 168 (bkV B m)::qr Zs m qu B.L::Row c 55 (leV zeL)::F) w,?_,λw N=>?_⟩⟩
 .rcases y with ⟨rfl,rfl,n,a⟩|⟨d,q,rfl,rfl,n,a⟩
  .rw[n]at o;refine zm rfl (zm rfl (zn rfl (z7 (zv 0 a rfl rfl (qr.mlen_i uMl 1 a rfl ⟨_,rfl,za (λh=>?_) λh=>?_⟩)))))
   .have h:(B.L.length:Int)=64:=by simpa using h
    refine St1.zz 2 a rfl λw a=>St1.zz 2 a rfl λw a=>St1.zz 2 a rfl λw a=>St1.zz 2 a rfl λw a=>St1.zz 2 a rfl λw a=>St1.zz 2 a rfl λw a=>?_;exact zg 2 a rfl rfl (zg 2 a rfl rfl (z8 2 a rfl rfl (z8 2 a rfl rfl (z8 2 a rfl rfl (zx 2 a rfl rfl (g 2 (by simp) (by rw[o];exact yB (by omega)) c _ (z0u m D a)))))))
   .have h:¬(B.L.length:Int)=64:=by simpa using h
    exact⟨by rw[o];exact yA (by omega),λ_=>by omega,a⟩
  .rw[n]at o;dsimp only at o;have K:∀w,St W (Row q 55 (leV d)::qw Zs m qu B.L name q::Row b 168 (bkV B m)::Row c 55 (leV zeL)::F) w->St W (q41 b B::Row c 55 (leV zeL)::F) w:=λw h=>z1g D n h;have ok:∀w,q38 B ten name now ttl=0->St W (Row q 55 (leV d)::qw Zs m qu B.L name q::Row b 168 (bkV B m)::Row c 55 (leV zeL)::F) w->q38 B ten name now ttl=0/\(qe B.L name=A1->B.L.length<64)/\St W (Row b 168 (bkV B m)::qr Zs m qu B.L::Row c 55 (leV zeL)::F) w:=λw t h=>by refine⟨t,λz=>(by rw[n]at z;cases z),?_⟩;have j:=z0o (A:=qu) h;rw[qt1 n]at j;exact j.p1
   refine za (λh=>z7 (zg 0 a rfl rfl ?_)) λh=>za (λk=>?_) λk=>zm rfl (ok w ?_ a)
   .have h:=yC h;rw[qrc];refine za (λj=>?_) λj=>za (λk=>?_) λk=>zm rfl (ok w ?_ a)
    .refine St1.zz 3 a rfl λw a=>St1.zz 3 a rfl λw a=>St1.zz 3 a rfl λw a=>St1.zz 3 a rfl λw a=>St1.zz 3 a rfl λw a=>St1.zz 3 a rfl λw a=>?_;exact zg 3 a rfl rfl (zg 3 a rfl rfl (z8 3 a rfl rfl (z8 3 a rfl rfl (z8 3 a rfl rfl (zx 3 a rfl rfl (g 131 (by simp) (by rw[o,yB ⟨h,by simpa using j⟩]) c _ (K _ a)))))))
    .refine St1.zz 3 a rfl λw a=>St1.zz 3 a rfl λw a=>St1.zz 3 a rfl λw a=>St1.zz 3 a rfl λw a=>St1.zz 3 a rfl λw a=>St1.zz 3 a rfl λw a=>?_;exact zg 3 a rfl rfl (zg 3 a rfl rfl (z8 3 a rfl rfl (z8 3 a rfl rfl (z8 3 a rfl rfl (zx 3 a rfl rfl (g 4 (by simp) (by rw[o,yA (λx=>by simp at j;exact x.2 j),yB (by simpa using k)]) c _ (K _ a)))))))
    .rw[o,yA (λx=>by simp at j;exact x.2 j),yA (by simpa using k)]
   .have h:=yD h;have k:qv4 B.grace d now=2:=by simpa using k
    omega
   .have h:=yD h;rw[o,yA (λx=>h x.1),yA (by simpa using k)]
 .obtain⟨t,E,a⟩:=N;clear f g y o;unfold qk5;rw[yB t];refine z7 (z8 0 a rfl rfl (z7 (St1.zz 0 a rfl λw a=>?_)));have a:St W (Row b 168 (bkV { B with epoch:=Zw Zk (B.epoch+1)} m)::qr Zs m qu B.L::Row c 55 (leV zeL)::F) w:=a;have I:=z6 W (Row b 168 (bkV { B with epoch:=Zw Zk (B.epoch+1)} m)::qr Zs m qu B.L::Row c 55 (leV zeL)::F);refine⟨StC W _,zd a,z7 (z7 ⟨_,zi 0 I rfl rfl,_,zi 0 I rfl rfl,λu G w h=>z7 ?_⟩)⟩;have j:St W (Pt u (.cells (leV (qy9 B ten name conn now ttl)).toArray 55)::Row b 168 (bkV { B with epoch:=Zw Zk (B.epoch+1)} m)::qr Zs m qu B.L::Row c 55 (leV zeL)::(F++pts G)) w:=StC.pushed h;have a:St W (qu u (qy9 B ten name conn now ttl)::Row b 168 (bkV { B with epoch:=Zw Zk (B.epoch+1)} m)::qr Zs m qu B.L::Row c 55 (leV zeL)::F) w:=St.dropR (l:=qu u (qy9 B ten name conn now ttl)::Row b 168 (bkV { B with epoch:=Zw Zk (B.epoch+1)} m)::qr Zs m qu B.L::Row c 55 (leV zeL)::F) (r:=pts G) (j.imp z0c);refine zv 1 a rfl rfl (qr.setH_i (A:=qu) kS uMl 1 a rfl λw a=>?_);have a:St W (Row u 55 (leV (qy9 B ten name conn now ttl))::Row b 168 (bkV { B with epoch:=Zw Zk (B.epoch+1)} m)::qw Zs m qu (qk B.L name (qy9 B ten name conn now ttl)) name u::Row c 55 (leV zeL)::F) w:=a;refine zg 0 a rfl rfl (zg 0 a rfl rfl (z8 0 a rfl rfl (z8 0 a rfl rfl (z8 0 a rfl rfl (zx 0 a rfl rfl (?_))))));refine St1.zz 3 a rfl λw a=>St1.zz 3 a rfl λw a=>St1.zz 3 a rfl λw a=>St1.zz 3 a rfl λw a=>St1.zz 3 a rfl λw a=>St1.zz 3 a rfl λw a=>?_;refine zg 3 a rfl rfl (zg 3 a rfl rfl (z8 3 a rfl rfl (z8 3 a rfl rfl (z8 3 a rfl rfl (zx 3 a rfl rfl (⟨rfl,z0u (B:={ B with epoch:=Zw Zk (B.epoch+1),L:=qk B.L name (qy9 B ten name conn now ttl)}) m ?_ ?_⟩))))))
  .show(qk B.L name (qy9 B ten name conn now ttl)).length<=64;rw[q4e];split
   .rename_i z;have:=E z;omega
   .exact D
  .have k:=z0o (A:=qu) (d:=qy9 B ten name conn now ttl) (zf 1 2 a rfl);rw[qe7]at k;exact zl 3 [1,0] k rfl
end
end
end Go.Proofs.YtfjifcfbmhpcaaaGreatDoor
