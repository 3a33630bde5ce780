/-
  A part of the proof of TopEcho.
-/
import Derived.Test.YtfjifcfbmhpcaaaGreatDoorE34
import Derived.Test.YtfjifcfbmhpcaaaGreatDoorE14
import Derived.Test.YtfjifcfbmhpcaaaGreatDoorE00
set_option linter.defProp false
set_option linter.unusedVariables false
set_option linter.unusedSimpArgs false
namespace Go.Proofs.YtfjifcfbmhpcaaaGreatDoor
open Go
open Go.Proofs.Tryz renaming prog → Zp
open Go.IntKind renaming i64 → Zk, wrap → Zw
open Go.Value renaming int → Zi, string → Zs, bool → Zb, slice → Zl, agg → Zg
open _root_.List renaming getElem?_eq_getElem->A0,getElem?_map->A1,take_append_drop->A2,map_append->A3,sum_append->A4,mem_map->A5
section
def cS:Zp.cellsOf 9=1:=by kernel_rfl
set_option maxRecDepth 100000 in
def qxu{H:Type}{enc:TypeId×Value->H}{W:World}{b m:Nat}{w:Nat->Bool}{held:Bool}{r:_root_.Go.Reach}{v:Value}{d:DataW H}{ps:List MemPlace}(e:Value.okWide Zp W r m 23 v)(h:DataW.Trod enc Zp W b w held 23 v d ps):
 ∃(p:Option Addr) (os:List ByteArray) (c:Nat),v=Zl p os.length c/\os.length<=c/\c<=9223372036854775807/\Rd [q65 W] p (os.map Zs)/\∀o∈os,o.size<=9223372036854775807:=by
 obtain⟨a,len,cap,rfl⟩:=WideShapes.okWide_slice Tryz.underlying23 e;obtain⟨qma,u⟩:=h;obtain⟨p,xs,c,f,q,l,i,g⟩:=qju (λx=>[Zs x]) (λx=>x.size<=9223372036854775807) Tryz.underlying23 cS (by decide) (λ_=>rfl) (λn k y z t=>by obtain⟨s,rfl,j⟩:=qbp uS t;exact⟨s,rfl,j⟩) u
 simp[Value.cells]at f;obtain⟨rfl,rfl,rfl⟩:=f;exact⟨_,xs,_,rfl,q,l,by rwa[qt6]at i,g⟩
def qj8(l:List ByteArray):Nat:=(l.map λs=>min s.size 20000).sum
def quj{l:List ByteArray}{i:Nat}{s:ByteArray}(h:l[i]?=some s):qj8 (l.take (i+1))=qj8 (l.take i)+min s.size 20000:=by unfold qj8;rw[List.take_add_one,h,A3,A4];simp
def qty(l:List ByteArray)(i:Nat):qj8 (l.take i)<=qj8 l:=by
 have:qj8 l=qj8 (l.take i)+qj8 (l.drop i):=by unfold qj8;rw[<-A4,<-A3,A2]
 omega
def q7l(n:Nat):List Value->World->Nat:=λvs _=>match vs.getLast? with
 |some (.int _ i)=>n - i.toNat
 |_=>0
section
variable{W w:World}{F l:List Asn}
def qnu{b a2 a3 id:Int}{p:Option Addr}{c:Nat}{os:List q81}(g:os=[]\/∃d,os=[d]/\d.conn=id)(e:Rd F p (os.flatMap q21))(h:St W F w):
 qb Zp 10 #[Zg #[Zi Zk b,Zi Zk a2,Zi Zk a3,Zl p os.length c],Zi Zk id] w λr w'=>r=Zg (q21 ((os.head?).getD q93)).toArray/\St W F w':=by
 refine F10_of (zh h λn w h=>zh h λm w h=>?_);refine⟨λvs w=>vs=[Zi Zk 0]/\St W (Row m 38 [Zi Zk 0,Zs ⟨#[]⟩,Zb false,Zb false]::Row n 32 [Zi Zk b,Zi Zk a2,Zi Zk a3,Zl p os.length c]::F) w,λ_ _=>0,⟨rfl,h⟩,λi w j=>?_⟩;clear h;obtain⟨l,h⟩:=j;cases l;refine zt 1 h rfl rfl ?_;rcases g with rfl|⟨d,rfl,f⟩
 .refine zl rfl (St1.zz 0 h rfl λw h=>St1.zz 0 h rfl λw h=>St1.zz 0 h rfl λw h=>St1.zz 0 h rfl λw h=>?_);exact z8 0 h rfl rfl (zg 0 h rfl rfl (zw 0 h rfl rfl (zw 0 h rfl rfl ⟨rfl,h.drop.drop⟩)))
 .refine zm rfl (zt 1 h rfl rfl (z0j (x:=d) (k:=0) q89 (by decide) ((e.cons _).cons _) h rfl (by simp) rfl λad a=>zy (a 0 _ rfl) (zm (by simp[f]) ?_)));refine zt 1 h rfl rfl (z0j (x:=d) (k:=0) q89 (by decide) ((e.cons _).cons _) h rfl (by simp) rfl λad a=>zy (a 0 _ rfl) (z0y (a 1 _ rfl) (LdB.at (a 2 _ rfl) (LdB.at (a 3 _ rfl) ?_))));refine St1.zz 0 h rfl λw h=>St1.zz 0 h rfl λw h=>St1.zz 0 h rfl λw h=>St1.zz 0 h rfl λw h=>?_;exact z8 0 h rfl rfl (zg 0 h rfl rfl (zw 0 h rfl rfl (zw 0 h rfl rfl ⟨rfl,h.drop.drop⟩)))
def Rd.pre6{p:Option Addr}{cs:List Value}(h:Rd F p cs)(A B C D E G:Asn):Rd (A::B::C::D::E::G::F) p cs:=(((((h.cons _).cons _).cons _).cons _).cons _).cons _
def qoy(t:Int)(X:List UInt8):(((qs3 t X).head?).getD q93).b=mkS X:=by
 unfold qs3;cases X with
 |nil=>rfl
 |cons a r=>rfl
def qct(t:Int)(X:List UInt8):(qs3 t X).length=if X.length=0 then 0 else 1:=by
 unfold qs3;cases X with
 |nil=>rfl
 |cons a r=>rfl
def qys(t:Int)(X:List UInt8):qs3 t X=[]\/∃d,qs3 t X=[d]/\d.conn=t:=by
 unfold qs3;split;.exact .inl rfl
 .exact .inr ⟨_,rfl,rfl⟩
def qwx(a b:List UInt8):(mkS (a++b)).extract 0 a.length=mkS a:=by rw[<-q2b,<-qf1 a,ByteArray.extract_append_eq_left rfl]
set_option maxRecDepth 100000 in
set_option maxHeartbeats 2000000 in
def qss{p q:Option Addr}{us:List UInt8}{l:List ByteArray}{c d:Nat}(hT:qc4 [q65 W])(hr:Rd [q65 W] p (us.map qd))(hc:us.length<=c)(hcm:c<=9223372036854775807)(O:Rd [q65 W] q (l.map Zs))(hd:l.length<=d)(hdm:d<=9223372036854775807)(_hok:∀o∈l,o.size<=9223372036854775807):
 qb Zp 3 #[Zl p us.length c,Zl q l.length d] W λv w'=>v=Zb true/\∃r,St W (q65 W::r) w':=by
 have hk:∀a b c d,∃v0 v1 v2 v3 x y z,w0W a b c d=some v0/\q16 (qy3 a b c d) 64 PP v0 100000=some (v1,x)/\q16 (qy3 a b c d) 64 PP v1 100000=some (v2,y)/\q16 (qy3 a b c d) 64 PP v2 100000=some (v3,z)/\qyf v3 (q7x v3.b) 90000/\qw4 v3.b.P=[x,y,z]/\0<x/\0<y/\0<z:=λa b c d=>by
  have h:=qu01 a b c d;unfold qhz ecW at h;cases h0:w0W a b c d with
  |none=>rw[h0]at h;cases h
  |some v0=>
  rw[h0]at h;dsimp only at h;cases h1:q16 (qy3 a b c d) 64 PP v0 100000 with
  |none=>rw[h1]at h;cases h
  |some r1=>
  obtain⟨v1,x⟩:=r1;rw[h1]at h;dsimp only at h;cases Y:q16 (qy3 a b c d) 64 PP v1 100000 with
  |none=>rw[Y]at h;cases h
  |some r2=>
  obtain⟨v2,y⟩:=r2;rw[Y]at h;dsimp only at h;cases h3:q16 (qy3 a b c d) 64 PP v2 100000 with
  |none=>rw[h3]at h;cases h
  |some r3=>
  obtain⟨v3,z⟩:=r3;rw[h3]at h;simp only[Bool.and_eq_true,yJ]at h;exact⟨v0,v1,v2,v3,x,y,z,rfl,h1,Y,h3,qyv h.1,h.2.1,h.2.2.1,h.2.2.2.1,h.2.2.2.2⟩
 refine F3_of ((qyu hT (St.base W)).of λv w ⟨R,f⟩=>⟨_,R,?_⟩);refine(qdk (n:=64) (vf:=λa b c d=>(w0W a b c d).getD ⟨Bk.new (qy3 a b c d),⟨false,0,0,1,[]⟩,[],[],[],e0⟩) hT (λa b c d=>by obtain⟨v,_,_,_,_,_,_,h0,_⟩:=hk a b c d;rw[h0];exact h0) f).of λr w ⟨a,b,c2,Z,x,q0,E,D,R,f⟩=>⟨_,R,?_⟩
 obtain⟨v0,v1,v2,v3,H,J,I,h0,h1,Y,h3,T,hP3,hx1,hx2,hx3⟩:=hk a b c2 Z;rw[h0]at f;have f:St W (wld [] (qy3 a b c2 Z) PP x q0 E D v0 (qie a b c2 Z [q65 W])) w:=f;have hO:=q3n (a:=a) (b:=b) (c:=c2) (d:=Z) hT;have hr:Rd (qie a b c2 Z [q65 W]) p (us.map qd):=(((hr.cons _).cons _).cons _).cons _;have O:Rd (qie a b c2 Z [q65 W]) q (l.map Zs):=(((O.cons _).cons _).cons _).cons _;have hfin:∀w,St W (qie a b c2 Z [q65 W]) w->∃r,St W (q65 W::r) w:=λw f=>⟨_,z0e [_,_,_,_] f⟩;generalize qie a b c2 Z [q65 W]=F at hO f hr O hfin;generalize qy3 a b c2 Z=cc at hO f h1 Y h3;have U:∀{q E D v w},St W (wld [] cc PP x q E D v F) w->∃r,St W (q65 W::r) w:=λf=>hfin _ (z0e [_,_,_,_,_,_] f)
 -- the sum of lengths
 refine⟨λvs w=>∃k:Nat,vs=[Zi Zk k]/\(20000<=k\/k=l.length+qj8 l)/\k<100000/\St W (wld [] cc PP x q0 E D v0 F) w,?_,λn w hJ=>?_⟩
 .refine⟨λvs w=>∃i k:Nat,vs=[Zi Zk k,Zi Zk i]/\i<=l.length/\k=i+qj8 (l.take i)/\k<100000/\St W (wld [] cc PP x q0 E D v0 F) w,q7l l.length,⟨0,0,rfl,Nat.zero_le _,rfl,by decide,f⟩,λn i w hI=>?_⟩;clear f;obtain⟨i,k,he,hi,hk2,hkl,f⟩:=hI;cases he;refine za (λm=>?_) λhge=>?_
  .have m:i<l.length:=by have:=yC m;omega
   refine za (λN=>?_) λN=>⟨k,rfl,.inl (by have:=yD N;omega),hkl,f⟩;have N:k<20000:=by have:=yC N;omega
   have hx:=A0 m;generalize l[i]=s at hx;refine z0f (O.pre6 _ _ _ _ _ _) f rfl m (v:=Zs s) (by rw[A1,hx];rfl) λad ha=>z0y ha ?_;have hm:(if(20000:Int)<(s.size:Int)then(20000:Int)else(s.size:Int))=((min s.size 20000:Nat):Int):=by split<;>omega
   rw[hm,w64 (n:=(k:Int)+1) (by omega) (by omega),w64,up m (by omega)];exact⟨⟨i+1,k+1+min s.size 20000,rfl,by omega,by rw[quj hx];omega,by omega,f⟩,by show l.length -(i+1)<l.length - i;omega⟩
  .have hge:l.length<=i:=by have:=yD hge;omega
   exact⟨k,rfl,.inr (by rw[hk2,List.take_of_length_le hge];omega),hkl,f⟩
 clear f;obtain⟨k,he,N,hkl,f⟩:=hJ;cases he;refine zl rfl (za (λ_=>zm rfl ⟨rfl,U f⟩) λhk4=>za (λ_=>zm rfl ⟨rfl,U f⟩) λ_=>za (λ_=>zm rfl ⟨rfl,U f⟩) λ_=>?_);have hk4:k<20000:=by have:=yD hk4;omega
 have hsum:l.length+qj8 l<20000:=by omega
 clear N hkl hk4;refine(qbb ⟨by decide,by decide⟩ hO h1 f).of λr w ⟨R,q1,E,D,f⟩=>⟨_,R,?_⟩;refine(qbb ⟨by decide,by decide⟩ hO Y f).of λr w ⟨R,q2,E,D,f⟩=>⟨_,R,?_⟩;refine(qbb ⟨by decide,by decide⟩ hO h3 f).of λr w ⟨R,q3,E,D,f⟩=>⟨_,R,?_⟩;refine z09 6 f λV w f=>IxP.row (k:=0) rfl (by decide) (z0q 6 f rfl rfl (zl (by simp;omega) (IxP.row (k:=1) rfl (by decide) (z0q 6 f rfl rfl (zl (by simp;omega) (IxP.row (k:=2) rfl (by decide) (z0q 6 f rfl rfl (zl (by simp;omega) ?_))))))));obtain⟨ps,hps⟩:∃ps,ps=q7x v3.b:=⟨_,rfl⟩;rw[<-hps]at T;obtain⟨P3,L⟩:∃P3,P3=v3.b.P:=⟨_,rfl⟩;rw[<-L]at hP3;have hin:∀id,id∈[H,J,I]->∃t i,(id,t,i)∈ps:=λid hid=>by have h1:=T.b.all;rw[<-L]at h1;have Y:(id,qb4 P3 id)∈qtc P3:=A5.2 ⟨id,by rw[hP3];exact hid,rfl⟩;rw[h1]at Y;obtain⟨y,hy,e⟩:=A5.1 Y;obtain⟨y1,y2,y3⟩:=y;have e1:y1=id:=yE Prod.fst e;subst e1;exact⟨_,_,hy⟩
 -- what is said
 refine⟨λ_ w=>∃g E D v,v.b.P=P3/\St W (wld [] cc PP x g E D v (Row V 3 [Zi Zk H,Zi Zk J,Zi Zk I]::F)) w,?_,λw hJ=>?_⟩
 .refine⟨λvs w=>∃(i C:Nat) (g:qb5) (E:Option Addr) (D:Nat) (v:Wd),vs=[Zi Zk i]/\i<=l.length/\qyf v ps C/\90000<=C+2*qj8 (l.take i)/\v.b.P=P3/\St W (wld [] cc PP x g E D v (Row V 3 [Zi Zk H,Zi Zk J,Zi Zk I]::F)) w,q7l l.length,⟨0,90000,q3,E,D,v3,rfl,Nat.zero_le _,T,by simp[qj8],L.symm,f⟩,λi w hI=>?_⟩;clear f;obtain⟨i,C,g,E,D,v,he,hi,hI,hC,M,f⟩:=hI;cases he;refine za (λm=>?_) λ_=>⟨g,E,D,v,M,f⟩;refine za (λK=>?_) λ_=>⟨g,E,D,v,M,f⟩;have m:i<l.length:=by have:=yC m;omega
  have K:i<us.length:=by have:=yC K;omega
  have hx:=A0 m;have hu:=A0 K;generalize l[i]=s at hx;generalize us[i]=u at hu;refine z0f ((hr.cons _).pre6 _ _ _ _ _ _) f rfl K (v:=qd u) (by rw[A1,hu];rfl) λad ha=>zy ha ⟨by decide,?_⟩;have hu255:u.toNat<256:=u.toNat_lt;rw[w64 (n:=(u.toNat:Int)) (by omega) (by omega)];have hmod:Int.tmod (u.toNat:Int) 3=((u.toNat%3:Nat):Int):=rfl;rw[hmod];obtain⟨j,hj⟩:∃j,j=u.toNat%3:=⟨_,rfl⟩;rw[<-hj];have hj3:j<3:=by omega
  obtain⟨id,hid,hidc⟩:∃id,id∈[H,J,I]/\[Zi Zk H,Zi Zk J,Zi Zk I][j]?=some (Zi Zk id):=by
   match j,hj3 with
   |0,_=>exact⟨H,by simp,rfl⟩
   |1,_=>exact⟨J,by simp,rfl⟩
   |2,_=>exact⟨I,by simp,rfl⟩
  obtain⟨t,pi,htp⟩:=hin id hid;refine IxP.row rfl hj3 (z0q 6 f rfl hidc (z0f ((O.cons _).pre6 _ _ _ _ _ _) f rfl m (v:=Zs s) (by rw[A1,hx];rfl) λad2 ha2=>z0y ha2 ?_));have hsn:=quj hx;have hsl:=qty l (i+1);obtain⟨v',hst,hI',hP'⟩:=qlq (c:=cc) (P:=PP) (B:=s) (n:=64) hI htp (by omega) (by decide);obtain⟨X,hX⟩:∃X,X=(qm s).take 512:=⟨_,rfl⟩;rw[<-hX]at hst;have hXl:X.length=min s.size 512:=by rw[hX,List.length_take];simp[qm];omega
  have hXs:mkS X=s.extract 0 (min s.size 512):=by
   rw[hX];have:=qwx ((qm s).take 512) ((qm s).drop 512);rw[A2]at this;have e:mkS (qm s)=s:=by simp[mkS,qm]
   rw[e,<-hX,hXl]at this;rw[<-hX];exact this.symm
  refine(qy8 (hO.cons _) ⟨by show(-9223372036854775808:Int)<=0;decide,by show(0:Int)<=9223372036854775807;decide⟩ hst f).of λr w ⟨q',qq,c5,rp',rc',Q,f⟩=>⟨_,_,_,_,_,_,Q,?_⟩;refine zh f λb54 w f=>St1.zz 0 f rfl λw f=>St1.zz 0 f rfl λw f=>St1.zz 0 f rfl λw f=>St1.zz 0 f rfl λw f=>?_;have hrq:∀A B,Rd (A::B::wld [] cc PP x q' rp' rc' v' (Row V 3 [Zi Zk H,Zi Zk J,Zi Zk I]::F)) q (l.map Zs):=λA B=>(((O.cons _).pre6 _ _ _ _ _ _).cons _).cons _;have hsx:(l.map Zs)[i]?=some (Zs s):=by rw[A1,hx];rfl
  have hhi:(if(s.size:Int)<(if(0:Int)>((min s.size 512:Nat):Int)then 0 else((min s.size 512:Nat):Int))then(s.size:Int)else(if(0:Int)>((min s.size 512:Nat):Int)then 0 else((min s.size 512:Nat):Int)))=((min s.size 512:Nat):Int):=by rw[yA (show ¬(0:Int)>((min s.size 512:Nat):Int)by omega)];split<;>omega
  refine⟨StC W _,zd f,IxP.oneC ir (hrq _ _) f rfl m hsx λad3 ha3=>IxP.oneC ir (hrq _ _) f rfl m hsx λad4 ha4=>⟨s,z1b ha3,_,zj 0 ir rfl rfl,s,z1b ha4,?_⟩⟩;show SlS s 0 (if(s.size:Int)<(if(0:Int)>((min s.size 512:Nat):Int)then 0 else((min s.size 512:Nat):Int))then(s.size:Int)else(if(0:Int)>((min s.size 512:Nat):Int)then 0 else((min s.size 512:Nat):Int))) _;rw[hhi];refine⟨⟨by omega,by omega,by omega⟩,?_⟩;rw[Int.toNat_natCast,show Int.toNat 0=0 from rfl,<-hXs];refine λG w h=>?_;have f:=zb h;clear h;have hlen:=qct id X;refine z8 0 f rfl rfl (zl rfl (z0f (hrq _ _) f rfl m hsx λad5 ha5=>z0y ha5 (zl (yH ?_) (z8 0 f rfl rfl (z8 0 f rfl rfl (z8 0 f rfl rfl (zt 0 f rfl rfl ?_)))))))
  .rw[qf1,hXl];split<;>omega
  refine(qnu (qys id X) (z07 1 rfl λF=>z0l F) f).of λr w ⟨Q,f⟩=>⟨_,_,_,_,Q,?_⟩;refine zl (by rw[qoy];simp) (zt 0 f rfl rfl (zl (yH (by rw[hlen];split<;>decide)) ?_));have nxt:(∃(i' C:Nat) (g:qb5) (E:Option Addr) (D:Nat) (v:Wd),[Zi Zk (Zw Zk ((i:Int)+1))]=[Zi Zk i']/\i'<=l.length/\qyf v ps C/\90000<=C+2*qj8 (l.take i')/\v.b.P=P3/\St W (wld [] cc PP x g E D v (Row V 3 [Zi Zk H,Zi Zk J,Zi Zk I]::F)) w)/\q7l l.length [Zi Zk (Zw Zk ((i:Int)+1))] w<q7l l.length [Zi Zk (i:Int)] w:=by rw[up m (by omega)];exact⟨⟨i+1,C - 2*min s.size 512,q',rp',rc',v',rfl,m,hI',by rw[hsn];omega,hP'.trans M,f.drop.drop⟩,by show l.length -(i+1)<l.length - i;omega⟩
  refine za (λh=>zt 0 f rfl rfl (zl ?_ nxt)) λ_=>nxt;have h:=yC h;rw[qf1]at h;rw[hlen,yA (by omega)];rfl
 clear f;obtain⟨g,E,D,v,M,f⟩:=hJ;refine zm rfl ((q3d (by rw[M,L];exact T.b.lenP) f).of λr w ⟨Q,f⟩=>⟨_,Q,?_⟩);refine⟨?_,U (f.del 6 rfl)⟩;rw[M,hP3];rfl
end
end
end Go.Proofs.YtfjifcfbmhpcaaaGreatDoor
