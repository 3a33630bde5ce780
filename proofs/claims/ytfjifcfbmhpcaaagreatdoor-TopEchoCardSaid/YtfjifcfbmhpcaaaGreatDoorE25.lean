/-
  A part of the proof of TopEcho.
-/
import Derived.Test.YtfjifcfbmhpcaaaGreatDoorE24
import Derived.Test.YtfjifcfbmhpcaaaGreatDoorE00
set_option linter.defProp false
set_option linter.unusedVariables false
set_option linter.unusedSimpArgs false
namespace Go.Proofs.YtfjifcfbmhpcaaaGreatDoor
open Go
open Go.Proofs.Tryz renaming prog → Zp
open Go.IntKind renaming i64 → Zk, wrap → Zw
open Go.Addr renaming add → Za
open Go.Value renaming int → Zi, string → Zs, pointer → Zq, bool → Zb, tuple → Zt, slice → Zl, agg → Zg
open _root_.Option renaming some->A0,none->Aa
open _root_.Option.some renaming inj->A1,injEq->Ai
open _root_.Nat renaming lt_of_le_of_lt->A2,zero_add->Ap,le_trans->Aq,zero_le->Ar
open _root_.List renaming getElem?_eq_getElem->A3,getElem?_eq_some_iff->A6,drop_eq_getElem_cons->A7,getElem?_append_left->A9,length_take->Ab,drop_length->Ac,take_of_length_le->Ad,length_append->Ag,length_map->Ak,replicate->Am,map_cons->Ao
open _root_.Prod renaming fst->A4,snd->Ah
open _root_.Bool renaming false->A5,true->An
open _root_.Array renaming length_toList->A8
open _root_.Int renaming toNat->Ae
open Go renaming World->Af,Value->Aj
section
section
variable{κ δ:Type}[DecidableEq κ]
def qw.put{enc:κ->Aj}{m b:Nat}{A:Nat->δ->Asn}{L:List (κ×δ)}{k:κ}{W w:Af}{F:List Asn}(d:δ)(h:St W (qw enc m A L k b::F) w):St W (qw enc m A (qk L k d) k b::F) w:=by
 obtain⟨bs,⟨f,d0,a⟩,c⟩:=qw.open_ h;subst f;refine qw.shut (qk bs k (b,d)) ⟨(qt2 (Ah (α:=Nat) (β:=δ)) bs k (b,d)).symm,d,qj1 _ _ _⟩ ?_;have e:qx (A4 (α:=Nat) (β:=δ)) (qk bs k (b,d))=qx (A4 (α:=Nat) (β:=δ)) bs:=by rw[<-qt2];exact qt1 (by rw[q62,a];rfl)
 rw[e,adel_aset];exact c
end
section
variable{W w:World}{F l:List Asn}{ro:Asn}{c:qy}{x m2 q:Nat}{p:qm3}{pl:List Nat}{sn:Option Nat}{s:Bk}{id:Int}{cs:List Value}{r:q31}
def q32.put(r:q31)(h:St W (q32 c x p pl sn s id q F) w):St W (q32 c x p pl sn (s.put id r) id q F) w:=zf 0 9 (qw.put r (zf 9 0 h rfl)) rfl
def Ef.msg{C:Cls}{K:Aj->Cls->Prop}{b:Nat}(k:Nat)(c:Is W C l)(y:qk1)(d:K (Zt #[]) (StC W (ins k (Row b 74 [Zi Zk y.k,Zs y.A,Zs y.B,Zi Zk y.N,Zi Zk y.M]) l))):
 Ef (Cls.push C (b,.cells #[(Zi Zk 0),(Zs ⟨#[]⟩),(Zs ⟨#[]⟩),(Zi Zk 0),(Zi Zk 0)] 74)) (λw K=>
  St1 (Za ⟨b,0,Aa⟩ 0) (Zi Zk y.k) w λw=>St1 (Za ⟨b,0,Aa⟩ 1) (Zs y.A) w λw=>St1 (Za ⟨b,0,Aa⟩ 2) (Zs y.B) w λw=>
  St1 (Za ⟨b,0,Aa⟩ 3) (Zi Zk y.N) w λw=>St1 (Za ⟨b,0,Aa⟩ 4) (Zi Zk y.M) w λw=>K (Zt #[]) w) K:=
 zn (α:=Unit) (V:=λ_=>Zt #[]) (B:=λ_=>ins k (Row b 74 [Zi Zk y.k,Zs y.A,Zs y.B,Zi Zk y.N,Zi Zk y.M]) l) () (c.push b _) (λG w h=>by have a:=h.imp z0d;exact St1.zz 0 a rfl λw a=>St1.zz 0 a rfl λw a=>St1.zz 0 a rfl λw a=>St1.zz 0 a rfl λw a=>St1.zz 0 a rfl λw a=>⟨(),rfl,by have a:St W (Row b 74 [Zi Zk y.k,Zs y.A,Zs y.B,Zi Zk y.N,Zi Zk y.M]::l++pts G) w:=a;exact a.perm ((qh7 k _ l).append_right _)⟩) λ_=>d
def Ef.alarm{C:Cls}{K:Aj->Cls->Prop}{b:Nat}{after:Int}(ids:List Int)(g:ids.length<=1000000)(d:Is W C (qy1 ro c x p pl sn s F))(f:K (Zt #[]) (StC W (qy1 ro c x p pl sn (s.alarm after ids) F))):
 Ef (Cls.push C (b,.cells (ids.map (Zi Zk)).toArray 3)) (λw K=>qb Zp 122 #[qc x,Zi Zk after,.slice (A0 ⟨b,0,Aa⟩) ids.length ids.length] w λv w'=>v=Zt #[]/\K (Zt #[]) w') K:=
 zn (α:=Unit) (V:=λ_=>Zt #[]) (B:=λ_=>qy1 ro c x p pl sn (s.alarm after ids) F) () (d.push b _) (λG w h=>by have a:St W (qy1 ro c x p pl sn s (Row b 3 (ids.map (Zi Zk))::F++pts G)) w:=zf 0 12 (h.imp z0d) rfl;refine(q7i (z0x 0 λi v h=>by rw[Ap];exact h) g a).of λv w ⟨e,a⟩=>⟨e,(),rfl,?_⟩;exact a.del 12 rfl) λ_=>f
def q6r{sb:Option Nat}(name draw:ByteArray)(k:ql1 F c)(l:r.conn=id)(j:∀i,r.pump=A0 i->i<pl.length)(g:qe s.roles id=A0 r)(a:St W (q32 c x p pl (A0 m2) s id q (Row q 127 (qs pl sb r)::q02 p.v sb r.sh::F)) w):
 qb Zp 314 #[qc x,qc q,Zs name,Zs draw] w λv w'=>v=Zt #[]/\St W (brk c x p pl (A0 m2) (s.reach c id r name draw) F) w':=by
 subst l;unfold Bk.reach;refine F314_of (z7 (z8 12 a rfl rfl ((qvk name ((k.cons _).cons _) a).of λv w ⟨f,a⟩=>⟨_,_,_,_,_,_,_,f,z09 14 a λb w a=>?_⟩)));refine St1.zz 14 a rfl λw a=>St1.zz 14 a rfl λw a=>St1.zz 14 a rfl λw a=>St1.zz 14 a rfl λw a=>St1.zz 14 a rfl λw a=>St1.zz 14 a rfl λw a=>?_;have a:St W (q32 c x p pl (A0 m2) (s.admitted r.conn name) r.conn q (Row q 127 (qs pl sb r)::q02 p.v sb r.sh::Row b 55 (leV (s.held name))::F)) w:=a;generalize s.admE r.conn name=e;refine za (λh=>?_) λh=>?_
 .rw[yB (by simpa using h)];refine z7 (z8 12 a rfl rfl ?_);have a:=z08 (s:=s.admitted r.conn name) j g a;exact(q18 e a).of λv w ⟨f,a⟩=>⟨f,rfl,a.del 12 rfl⟩
 rw[yA (by simpa using h)];have g:qe (s.admitted r.conn name).roles r.conn=A0 r:=g;generalize s.admitted r.conn name=s1 at a g⊢;generalize s.held name=y at a⊢;refine⟨StC W _,zd a,z7 ⟨_,zj 12 ir rfl rfl,_,zu 14 ir rfl rfl,_,zj 14 ir rfl rfl,z7 ?_⟩⟩;refine zn (α:=Unit) (V:=λ_=>Zt #[]) (B:=λ_=>q32 c x p pl (A0 m2) s1 r.conn q (Row q 127 (qs pl sb { r with kind:=3,ten:=y.ten,name:=name,epoch:=y.epoch})::q02 p.v sb r.sh::Row b 55 (leV y)::F)) () ir (λG w a=>St1.zz 12 a rfl λw a=>St1.zz 12 a rfl λw a=>St1.zz 12 a rfl λw a=>St1.zz 12 a rfl λw a=>St1.zz 12 a rfl λw a=>⟨(),rfl,a⟩) λ_=>⟨rfl,trivial,λG w h=>?_⟩;have a:=zb h;clear h;refine⟨StC W _,zd a,z7 (z7 ⟨_,zj 0 ir rfl rfl,_,zj 12 ir rfl rfl,λm=>?_⟩)⟩;refine Ef.alarm [r.conn] (by simp) ir ⟨rfl,trivial,λG w h=>?_⟩;have a:=zb h;clear h;refine⟨StC W _,zd a,z7 (z7 ⟨_,zq 0 ir rfl rfl,_,zj 12 ir rfl rfl,_,zu 14 ir rfl rfl,_,zj 14 ir rfl rfl,?_⟩)⟩;refine z05 5 ir rfl (λG w h=>q1q (p:=⟨r.conn,name,y.ten,y.epoch⟩) (drawn:=draw) ((k.tab.app (pts G)).pre [_,_,_,_,_,_,_,_,_,_,_,_,_,_]) h) (λ_ _ h=>⟨_,_,rfl,h⟩) ⟨_,_,rfl,trivial,λG w h=>?_⟩;have a:=zb h;clear h;refine z8 14 a rfl rfl ?_;have a:St W (q32 c x p pl (A0 m2) {(s1.alarm c.wait [r.conn])with T:=(qca s1.T ⟨r.conn,name,y.ten,y.epoch⟩ draw).1} r.conn q (Row q 127 (qs pl sb { r with kind:=3,ten:=y.ten,name:=name,epoch:=y.epoch})::q02 p.v sb r.sh::Row b 55 (leV y)::F)) w:=a;refine(qba ⟨11,name,(qca s1.T ⟨r.conn,name,y.ten,y.epoch⟩ draw).2.1,0,0⟩ a).of λv w ⟨f,a⟩=>⟨f,rfl,?_⟩;exact(brk.set (d:={ r with kind:=3,ten:=y.ten,name:=name,epoch:=y.epoch}) j a).del 12 rfl
end
end
section
def qok(bs:List UInt8)(k:Nat):(bytesRow (mkS bs) ((mkS bs).size+k)).toList=bs.map qd++Am k (Zi .u8 0):=by unfold bytesRow;rw[qf1];simp[mkS,qd,Function.comp_def]
def qpw{b k:Nat}{y:ByteArray}{e:TypeId}:∀h,Pt b ((Two.rowB y e).1 k) h->Row b e ((qm y).map qd++Am k (Zi .u8 0)) h:=λh c=>by
 obtain⟨bs,rfl⟩:∃bs,y=mkS bs:=⟨qm y,(qd5 y).symm⟩;have a:=qok bs k;have f:qm (mkS bs)=bs:=by simp[qm,mkS]
 rw[f,<-a];exact⟨_,_,c,rfl,λi w d=>by rw[A8]at w;exact Nat.lt_irrefl _ (Nat.lt_of_lt_of_le w d.1)⟩
def qqz(s:ByteArray)(n:Nat):qm (s.extract 0 (Ae (if(n:Int)<(s.size:Int)then(n:Int)else(s.size:Int))))=(qm s).take n:=by
 unfold qm;rw[ByteArray.data_extract,Array.toList_extract];have w:s.data.toList.length=s.size:=A8;split;.simp
 .rename_i h;rw[Int.toNat_natCast];simp only[List.extract,List.drop_zero,Nat.sub_zero];rw[Ad (by omega),Ad (by omega)]
section
variable{W w:World}{F l:List Asn}{ro:Asn}{c:qy}{x m2 q:Nat}{p:qm3}{pl:List Nat}{sn:Option Nat}{s s':Bk}{id:Int}{cs:List Value}{r:q31}
set_option maxHeartbeats 1000000 in
def qur{sb:Option Nat}(m:qk1)(draw:ByteArray)(X:ql1 F c)(Z:r.conn=id)(Q:∀i,r.pump=A0 i->i<pl.length)(t:qe s.roles id=A0 r)(j:s.greet c id r m draw=A0 s')(a:St W (q32 c x p pl (A0 m2) s id q (Row q 127 (qs pl sb r)::q02 p.v sb r.sh::F)) w):
 qb Zp 275 #[qc x,qc q,ql2 m,Zs draw] w λv w'=>v=Zt #[]/\St W (brk c x p pl (A0 m2) s' F) w':=by
 subst Z;unfold Bk.greet at j;refine F275_of (z09 14 a λb w a=>⟨λ_ w=>(m.k==14&&!r.heard)=A5/\St W (q32 c x p pl (A0 m2) s r.conn q (Row q 127 (qs pl sb r)::q02 p.v sb r.sh::Row b 74 [Zi Zk m.k,Zs m.A,Zs m.B,Zi Zk m.N,Zi Zk m.M]::F)) w,z8 14 a rfl rfl (za (λh=>z7 (zw 12 a rfl rfl (za (λN=>zg 14 a rfl rfl ?_) λN=>⟨by rw[h,N];rfl,a⟩))) λh=>⟨by rw[h];rfl,a⟩),λw C=>?_⟩)
 .rw[yB (by rw[h,N];rfl)]at j;cases j;exact(q6r m.A draw (X.cons (Row b 74 [Zi Zk m.k,Zs m.A,Zs m.B,Zi Zk m.N,Zi Zk m.M])) rfl Q t a).of λv w ⟨u,a⟩=>⟨u,rfl,a.del 12 rfl⟩
 obtain⟨Y,a⟩:=C;rw[yA (by rw[Y];simp)]at j;clear Y;obtain⟨f,o⟩:∃f,f=if r.heard=An then r else { r with heard:=An,token:=m.B}:=⟨_,rfl⟩
 rw[<-o]at j;dsimp only at j;have H:f.conn=r.conn:=by rw[o];split<;>rfl
 have P:∀i,f.pump=A0 i->i<pl.length:=by rw[o];split<;>exact Q
 have O:f.sh=r.sh:=by rw[o];split<;>rfl
 refine z7 (zw 12 a rfl rfl ⟨λ_ w=>St W (q32 c x p pl (A0 m2) s r.conn q (Row q 127 (qs pl sb f)::q02 p.v sb f.sh::Row b 74 [Zi Zk m.k,Zs m.A,Zs m.B,Zi Zk m.N,Zi Zk m.M]::F)) w,?_,λw a=>?_⟩)
 .refine za (λh=>?_) λh=>?_
  .rw[o,yA (by simpa using h)];refine⟨StC W _,zd a,z7 ⟨_,zu 14 ir rfl rfl,?_⟩⟩;refine z0o 12 ir rfl (by simp[qs]) ⟨rfl,zu 14 ir rfl rfl,z7 ?_⟩;exact z0o 12 ir rfl (by simp[qs]) ⟨rfl,trivial,λG w h=>zb h⟩
  .rw[o,yB (by simpa using h)];exact a
 rename_i L;clear L;rw[<-H]at a t;rw[<-H]at j;have a:=q32.put f a;have t:qe (s.put f.conn f).roles f.conn=A0 f:=qj1 _ _ _;clear o Q O;cases hsh:f.sh with
 |none=>rw[hsh]at j;cases j
 |some d=>
 rw[hsh]at j a;dsimp only at j;cases sb with
 |none=>exact yI (St.of_pr (p:=False) (zf 13 0 a rfl)).1 id
 |some b2=>
 have a:St W (q32 c x p pl (A0 m2) (s.put f.conn f) f.conn q (Row q 127 (qs pl (A0 b2) f)::qx2 p.v b2 d::Row b 74 [Zi Zk m.k,Zs m.A,Zs m.B,Zi Zk m.N,Zi Zk m.M]::F)) w:=a;have K:∀g,((s.put f.conn f).put f.conn g)=s.put f.conn g:=λg=>by unfold Bk.put;simp only[qe7]
 refine⟨StC W _,zd a,z7 (z7 ⟨⟨by omega,by split<;>omega,by split<;>omega⟩,?_⟩)⟩;have z:qm (draw.extract (Ae 0) (Ae (if(16:Int)<(draw.size:Int)then 16 else(draw.size:Int))))=(qm draw).take 16:=qqz draw 16;generalize draw.extract (Ae 0) (Ae (if(16:Int)<(draw.size:Int)then 16 else(draw.size:Int)))=y at z⊢;refine⟨_,zq 12 ir rfl rfl,_,_,_,_,_,qpn 14 ir rfl,_,zq 0 ir rfl rfl,?_⟩;refine z05 8 ir rfl (λG w h=>Ck.Now_spec h) (λ_ _ h=>⟨_,rfl,h⟩) ⟨_,rfl,⟨qpn 14 ir rfl,zq 12 ir rfl rfl⟩,λk b3=>?_⟩;have hl:y.size=(qm y).length:=A8.symm;have hl2:(qm y).length<=16:=by rw[z,Ab];omega
 rw[hl];refine zn (α:=Unit) (V:=λ_=>Zs (Bk.nonce draw)) (B:=λ_=>q32 c x p pl (A0 m2) (s.put f.conn f) f.conn q (Row q 127 (qs pl (A0 b2) f)::qx2 p.v b2 d::Row b 74 [Zi Zk m.k,Zs m.A,Zs m.B,Zi Zk m.N,Zi Zk m.M]::F)) () (ir.push b3 _) (λG w h=>?_) λ_=>⟨_,rfl,⟨qpn 14 ir rfl,zq 12 ir rfl rfl⟩,?_⟩
 .have a:=h.imp qpw;refine(q8m (bs:=qm y) (z0x 0 λi v h=>by rw[Ap,A9 (A6.1 h).1];exact h) (by omega) a).of λv w ⟨u,a⟩=>⟨_,u,(),?_,a.drop⟩;unfold Bk.nonce;rw[z]
 generalize J:q75 c s.R d m s.K.now (Bk.nonce draw)=res at j;obtain⟨l,said,ok⟩:=res;refine zn (α:=Unit) (V:=λ_=>Zt #[ql2 said,Zb ok]) (B:=λ_=>q32 c x p pl (A0 m2) (s.put f.conn f) f.conn q (Row q 127 (qs pl (A0 b2) f)::qx2 p.v b2 l::Row b 74 [Zi Zk m.k,Zs m.A,Zs m.B,Zi Zk m.N,Zi Zk m.M]::F)) () ir (λG w h=>?_) λ_=>⟨_,_,_,_,_,_,rfl,trivial,λk2 D=>?_⟩
 .have U:=qyn (c:=c) (R:=s.R) (m:=m) (now:=s.K.now) (nonce:=Bk.nonce draw) ((X.app (pts G)).pre [_,_,_,_,_,_,_,_,_,_,_,_,_]) (zf 2 1 (zf 13 0 h rfl) rfl);rw[J]at U;exact U.of λv w ⟨u,a⟩=>⟨_,_,_,_,_,_,u,(),rfl,zf 0 13 (zf 1 2 a rfl) rfl⟩
 refine Ef.msg 15 ir said ⟨rfl,trivial,λG w h=>?_⟩;have a:St W (q32 c x p pl (A0 m2) (s.put f.conn f) f.conn q (Row q 127 (qs pl (A0 b2) { f with sh:=A0 l})::qx2 p.v b2 l::Row b 74 [Zi Zk m.k,Zs m.A,Zs m.B,Zi Zk m.N,Zi Zk m.M]::Row D 74 [Zi Zk said.k,Zs said.A,Zs said.B,Zi Zk said.N,Zi Zk said.M]::F)) w:=zb h;clear h;have a:=q32.put { f with sh:=A0 l} a;rw[K]at a;have t:qe (s.put f.conn { f with sh:=A0 l}).roles f.conn=A0 { f with sh:=A0 l}:=qj1 _ _ _;obtain⟨g,A⟩:∃g,g=({ f with sh:=A0 l}:q31):=⟨_,rfl⟩;have M:g.conn=f.conn:=by rw[A]
 have I:∀i,g.pump=A0 i->i<pl.length:=by rw[A];exact P
 have E:g.sh=A0 l:=by rw[A]
 rw[<-A]at a t j;generalize s.put f.conn g=s1 at a t j;rw[<-M]at a t j;refine⟨StC W _,zd a,z7 ⟨_,zj 12 ir rfl rfl,_,_,_,_,_,qpn 15 ir rfl,?_⟩⟩;refine Ef.al (l':=q32 c x p pl (A0 m2) (s1.tell g.conn said) g.conn q (Row q 127 (qs pl (A0 b2) g)::qx2 p.v b2 l::Row b 74 [Zi Zk m.k,Zs m.A,Zs m.B,Zi Zk m.N,Zi Zk m.M]::Row D 74 [Zi Zk said.k,Zs said.A,Zs said.B,Zi Zk said.N,Zi Zk said.M]::F)) ir (λG w h=>qba (F:=Row q 127 (qs pl (A0 b2) g)::qx2 p.v b2 l::Row b 74 [Zi Zk m.k,Zs m.A,Zs m.B,Zi Zk m.N,Zi Zk m.M]::Row D 74 [Zi Zk said.k,Zs said.A,Zs said.B,Zi Zk said.N,Zi Zk said.M]::F++pts G) said h) (λ_ _ h=>⟨rfl,h⟩) ⟨rfl,trivial,λG w h=>?_⟩;have a:=zb h;clear h;have t:qe (s1.tell g.conn said).roles g.conn=A0 g:=t;generalize s1.tell g.conn said=s2 at a t j;refine z8 15 a rfl rfl ⟨λ_ w=>if said.k=5 then St W (brk c x p pl (A0 m2) (s2.shut g.conn) (Row q 127 (qs pl (A0 b2) g)::qx2 p.v b2 l::Row b 74 [Zi Zk m.k,Zs m.A,Zs m.B,Zi Zk m.N,Zi Zk m.M]::Row D 74 [Zi Zk said.k,Zs said.A,Zs said.B,Zi Zk said.N,Zi Zk said.M]::F)) w else St W (q32 c x p pl (A0 m2) s2 g.conn q (Row q 127 (qs pl (A0 b2) g)::qx2 p.v b2 l::Row b 74 [Zi Zk m.k,Zs m.A,Zs m.B,Zi Zk m.N,Zi Zk m.M]::Row D 74 [Zi Zk said.k,Zs said.A,Zs said.B,Zi Zk said.N,Zi Zk said.M]::F)) w,za (λh=>?_) λh=>?_,λw C=>?_⟩
 .refine z7 (z8 12 a rfl rfl ((qsn (n:=s2.roles.length) (q7h _) rfl rfl t (Nat.lt_succ_self _) a).of λv w ⟨u,a⟩=>⟨u,?_⟩));have e:s2.shut g.conn=Bk.after (λs i=>Bk.shutB s2.roles.length s i) (s2.out g.conn) g.conn g:=by unfold Bk.shut;simp only[Bk.shutB,t]
  dsimp only;rw[yB (by simpa using h),e];exact a
 .dsimp only;rw[yA (by simpa using h)];exact a
 clear a;dsimp only at C;by_cases T:said.k=5
 .rw[yB T]at C j;cases j;refine z7 (z0r 12 C rfl rfl ((qvl (C.at 13 rfl)).of λv w ⟨u,a⟩=>⟨_,_,u,za (λh=>?_) λh=>?_⟩))
  .have a:=z12 13 a;exact z7 (St1.zz 12 a rfl λw a=>z7 (St1.zz 12 a rfl λw a=>⟨rfl,(((z04 12 a rfl).del 12 rfl).del 12 rfl).del 12 rfl⟩))
  .have a:=z12 13 a;exact⟨rfl,(((z04 12 a rfl).del 12 rfl).del 12 rfl).del 12 rfl⟩
 .rw[yA T]at C j;refine z7 (z0r 12 C rfl rfl ((qvl (C.at 13 rfl)).of λv w ⟨u,a⟩=>⟨_,_,u,za (λh=>?_) λh=>?_⟩))
  .have a:=z12 13 a;rw[yB h]at j⊢;cases j;refine z7 (St1.zz 12 a rfl λw a=>z7 (St1.zz 12 a rfl λw a=>⟨rfl,?_⟩));have a:St W (q32 c x p pl (A0 m2) s2 g.conn q (Row q 127 (qs pl (A0 b2) { g with kind:=2,ten:=l.ten})::q02 p.v (A0 b2) (A0 l)::Row b 74 [Zi Zk m.k,Zs m.A,Zs m.B,Zi Zk m.N,Zi Zk m.M]::Row D 74 [Zi Zk said.k,Zs said.A,Zs said.B,Zi Zk said.N,Zi Zk said.M]::F)) w:=a;rw[<-E]at a;have a:=((brk.set (d:={ g with kind:=2,ten:=l.ten}) I a).del 12 rfl).del 12 rfl;subst A;exact a
  .have a:=z12 13 a;rw[yA (by rw[h];simp)]at j;rw[<-A1 j];have a:St W (q32 c x p pl (A0 m2) s2 g.conn q (Row q 127 (qs pl (A0 b2) g)::q02 p.v (A0 b2) (A0 l)::Row b 74 [Zi Zk m.k,Zs m.A,Zs m.B,Zi Zk m.N,Zi Zk m.M]::Row D 74 [Zi Zk said.k,Zs said.A,Zs said.B,Zi Zk said.N,Zi Zk said.M]::F)) w:=a;rw[<-E]at a;exact⟨rfl,((z08 I t a).del 12 rfl).del 12 rfl⟩
end
end
section
section
variable{κ δ:Type}[DecidableEq κ]
def q4f(L:List (κ×δ)){j k:κ}(h:j≠k)(v:δ):qp (qk L j v) k=qk (qp L k) j v:=by
 induction L with
 |nil=>simp[qk,qp,h]
 |cons x r b=>
  by_cases a:x.1=j
  .have w:¬x.1=k:=λe=>h (a ▸ e);simp only[qk,yB a,qp,yA h,yA w]
  .by_cases w:x.1=k;.simp only[qk,yA a,qp,yB w]
   .simp only[qk,yA a,qp,yA w,b]
variable{P:Program}{kt et mt:TypeId}{enc:κ->Value}{m b b2:Nat}{A A':Nat->δ->Asn}{L:List (κ×δ)}{k j:κ}{W w:World}{F l:List Asn}
def qfy{d:δ}(M:List (κ×Nat×δ))(h:St W (A b d::qz (M.map λy=>A y.2.1 y.2.2)::F) w):St W (qz ((qk M j (b,d)).map λy=>A y.2.1 y.2.2)::F) w:=by
 have a:St W (A b d::qz ((qp M j).map λy=>A y.2.1 y.2.2)::F) w:=by
  cases hg:qe M j with
  |none=>rw[ql6 hg];exact h
  |some v=>exact(((qf5 ((Go.Proofs.YtfjifcfbmhpcaaaGreatDoor.aget_perm hg).map λy:κ×Nat×δ=>A y.2.1 y.2.2) h.p1).drop).p1)
 refine q95 ?_ a;have:=(Go.Proofs.YtfjifcfbmhpcaaaGreatDoor.aget_perm (qj1 M j (b,d))).map λy:κ×Nat×δ=>A y.2.1 y.2.2;rw[adel_aset]at this;exact this.symm
def qw.imp(f:∀b d H,A b d H->A' b d H)(h:St W (qw enc m A L k b::F) w):St W (qw enc m A' L k b::F) w:=by
 obtain⟨bs,i,j⟩:=qw.open_ h;refine qw.shut bs i (z11 1 j rfl ?_);generalize qp bs k=M;have key:∀(M:List (κ×Nat×δ)) (H:Hp),Own (M.map λy=>A y.2.1 y.2.2) H->Own (M.map λy=>A' y.2.1 y.2.2) H:=λM=>by
  induction M with
  |nil=>exact λH h=>h
  |cons y r l=>exact λH ⟨g,a,e,c⟩=>⟨g,a,f _ _ _ e,l _ c⟩
 exact key M
def qw.set_ne(e:qw2 P kt enc)(g:P.underlying mt=A0 (.map kt et)){K:Af->Prop}{d:δ}(a:j≠k)(c:St W (A b2 d::qw enc m A L k b::F) w)
 (f:∀w',St W (qw enc m A (qk L j d) k b::F) w'->K w'):qt8 P (Instr.mapUpdate mt (.map (A0 m)) (enc j) (qc b2)) w K:=by
 obtain⟨bs,⟨n,d0,i⟩,o⟩:=qw.open_ c.p1;subst n;refine qh1 e g 0 o rfl j b2 λw' h=>f w' ?_;have h:St W (qg enc qc m (qk (qx (A4 (α:=Nat) (β:=δ)) bs) j b2)::qz ((qp bs k).map λy=>A y.2.1 y.2.2)::A b2 d::F) w':=h;refine qw.shut (qk bs j (b2,d)) ⟨(qt2 (Ah (α:=Nat) (β:=δ)) bs j (b2,d)).symm,d0,by rw[qh2,yA a];exact i⟩ ?_;rw[<-qt2,q4f _ a];have l:St W (A b2 d::qz ((qp bs k).map λy=>A y.2.1 y.2.2)::qg enc qc m (qk (qx (A4 (α:=Nat) (β:=δ)) bs) j b2)::F) w':=zf 1 2 (zf 2 0 h rfl) rfl;exact(qfy _ l).p1
def qw.set_eq(c:qw2 P kt enc)(f:P.underlying mt=A0 (.map kt et)){K:Af->Prop}{d:δ}(a:St W (A b2 d::qw enc m A L k b::F) w)
 (e:∀w',St W (qr enc m A (qk L k d)::F) w'->K w'):qt8 P (Instr.mapUpdate mt (.map (A0 m)) (enc k) (qc b2)) w K:=by
 obtain⟨bs,⟨i,d0,n⟩,j⟩:=qw.open_ a.p1;subst i;refine qh1 c f 0 j rfl k b2 λw' h=>e w' ?_;have h:St W (qg enc qc m (qk (qx (A4 (α:=Nat) (β:=δ)) bs) k b2)::qz ((qp bs k).map λy=>A y.2.1 y.2.2)::A b2 d::F) w':=h;refine z19 (qk bs k (b2,d)) (qt2 (Ah (α:=Nat) (β:=δ)) bs k (b2,d)).symm ?_;have g:St W (A b2 d::qz ((qp bs k).map λy=>A y.2.1 y.2.2)::qg enc qc m (qk (qx (A4 (α:=Nat) (β:=δ)) bs) k b2)::F) w':=zf 1 2 (zf 2 0 h rfl) rfl;rw[<-qt2];refine(q95 (l:=(qk bs k (b2,d)).map λy=>A y.2.1 y.2.2) ?_ g).p1;have:=(Go.Proofs.YtfjifcfbmhpcaaaGreatDoor.aget_perm (qj1 bs k (b2,d))).map λy:κ×Nat×δ=>A y.2.1 y.2.2;rw[adel_aset]at this;exact this.symm
end
section
variable{W w:World}{F l:List Asn}{ro:Asn}{c:qy}{x m2 q pb:Nat}{p:qm3}{pl:List Nat}{ps:List Ri.PS}{sn:Option Nat}{s s':Bk}{id:Int}{cs:List Value}{r:q31}
def qa5.len(h:St W (qa5 pl ps::F) w):pl.length=ps.length:=(h.of_sep.of_pr).1
def qa5.add{z:Ri.PS}(h:St W (Ri.PumpA pb 256 z::qa5 pl ps::F) w):St W (qa5 (pl++[pb]) (ps++[z])::F) w:=by
 obtain⟨b,a⟩:=h.p1.of_sep.of_pr;have a:St W (qz ((pl.zip ps).map λx=>Ri.PumpA x.1 256 x.2)::Ri.PumpA pb 256 z::F) w:=a;refine zk (l:=[_,_]) (z02 (by simp[b]) ?_);have e:(pl++[pb]).zip (ps++[z])=pl.zip ps++[(pb,z)]:=by rw[List.zip_append b];rfl
 rw[e,List.map_append];exact q95 (X:=Ri.PumpA pb 256 z) (List.perm_append_singleton _ _).symm a.p1
def q2t{o:Option Nat}(h:∀i,o=A0 i->i<pl.length):qnc (pl++[pb]) o=qnc pl o:=by
 cases o with
 |none=>rfl
 |some i=>have:=h i rfl;unfold qnc;simp only;rw[A9 this]
def qo2.app{v b:Nat}{d:q31}:∀H,qo2 v pl b d H->qo2 v (pl++[pb]) b d H:=by
 rintro H ⟨sb,g,c,w,a⟩;have e:qs (pl++[pb]) sb d=qs pl sb d:=by unfold qs;rw[q2t w]
 exact⟨sb,g,c,λi h=>by rw[Ag];have:=w i h;omega,by rw[e];exact a⟩
abbrev qf7(b:Nat)(m:qk1):Asn:=Row b 74 [Zi Zk m.k,Zs m.A,Zs m.B,Zi Zk m.N,Zi Zk m.M]
def qsw{y:LeD}{sb:Option Nat}{i a:Nat}{K:Aj->Af->Prop}{l:List Asn}(j:l=q32 c x p pl sn s id q (Row q 127 (qs pl sb r)::q02 p.v sb r.sh::Row i 46 [qc x]::Row a 128 [qc q]::F))(f:St W l w)
 (g:∀w',St W l w'->K (Zb (Bk.holds r.conn s.K.now y)) w'):q01 Zp 4 (.func (.func 359) #[] #[qc a,qc i]) [Zg (leV y).toArray] w K:=by
 subst j;have d:qb Zp 359 #[Zg (leV y).toArray,qc a,qc i] w K:=by
  refine F359_of (zh f λb w f=>⟨StC W _,zd f,_,zj 0 ir rfl rfl,_,z00 16 ir rfl rfl,z7 ⟨_,zj 13 ir rfl rfl,za (λe=>⟨_,z0s 0 ir rfl rfl,za (λd=>⟨_,z00 15 ir rfl rfl,z7 ⟨_,zq 1 ir rfl rfl,_,zj 0 ir rfl rfl,?_⟩⟩) λd=>λG w h=>?_⟩) λe=>λG w h=>?_⟩⟩)
  .refine z05 9 ir rfl (λG w h=>Ck.Now_spec h) (λ_ _ h=>⟨_,rfl,h⟩) ⟨_,rfl,zj 0 ir rfl rfl,λG w h=>?_⟩;have:=g w (zb h).drop;unfold Bk.holds at this;rw[e,d]at this;exact this
  .have:=g w (zb h).drop;unfold Bk.holds at this;rw[e,d]at this;exact this
  .have:=g w (zb h).drop;unfold Bk.holds at this;rw[e]at this;exact this
 exact zx (by kernel_rfl) d
end
end
section
section
variable{W w:World}{F l:List Asn}{ro:Asn}{c:qy}{x m2 q pb:Nat}{p:qm3}{pl:List Nat}{ps:List Ri.PS}{sn:Option Nat}{s s':Bk}{id:Int}{cs:List Value}{r:q31}
set_option maxHeartbeats 1000000 in
def qsk{sb:Option Nat}(m:qk1)(hc:r.conn=id)(hp:∀i,r.pump=A0 i->i<pl.length)(I:qe s.roles id=A0 r)(t:s.callback c id r m=A0 s')(a:St W (q32 c x p pl (A0 m2) s id q (Row q 127 (qs pl sb r)::q02 p.v sb r.sh::F)) w):
 qb Zp 321 #[qc x,qc q,ql2 m] w λv w'=>v=Zt #[]/\∃R,St W (brk c x p R (A0 m2) s' F) w':=by
 subst hc;unfold Bk.callback at t;refine F321_of (z09 14 a λu w a=>z09 15 a λf w a=>z09 16 a λg w a=>LdP.n 14 a rfl rfl (z7 (z0r 0 a rfl rfl ((qzj (a.at 3 rfl)).of λv w ⟨pp,cc,E,a⟩=>⟨_,_,_,E,?_⟩))));have hbl:(q3h s.B.L).length<=64:=by obtain⟨_,h,_⟩:=z13 (zf 1 0 a rfl);exact Aq (qze _ _ _) h
 have a:St W (q32 c x p pl (A0 m2) s r.conn q (Row q 127 (qs pl sb r)::q02 p.v sb r.sh::Row u 46 [qc x]::Row f 128 [qc q]::qf7 g m::SlA 55 6 leV pp cc (q3h s.B.L)::F)) w:=z12 17 (zf 1 4 a rfl);refine(qqv (Bk.holds r.conn s.K.now) (z07 17 rfl λF=>z0l F) (by omega) (λy _ w K a hK=>qsw rfl a hK) a).of λv w ⟨E,a⟩=>⟨_,E,?_⟩;have a:St W (q32 c x p pl (A0 m2) s r.conn q (Row q 127 (qs pl sb r)::q02 p.v sb r.sh::Row u 46 [qc x]::Row f 128 [qc q]::qf7 g m::F)) w:=a.del 17 rfl;refine za (λh=>?_) λh=>?_
 .rw[yB h]at t;rw[<-A1 t];refine⟨StC W _,zd a,_,z00 14 ir rfl rfl,_,z00 15 ir rfl rfl,z7 ⟨_,zj 12 ir rfl rfl,?_⟩⟩;refine Ef.al (l':=brk c x p pl (A0 m2) (s.refuse r.conn 1) (Row u 46 [qc x]::Row f 128 [qc q]::qf7 g m::F)) ir (λG w h=>?_) (λ_ _ h=>⟨rfl,h⟩) ⟨rfl,trivial,λG w h=>⟨rfl,pl,(((zb h).del 12 rfl).del 12 rfl).del 12 rfl⟩⟩;have O:=z08 (F:=Row u 46 [qc x]::Row f 128 [qc q]::qf7 g m::F++pts G) hp I h;exact q18 1 O
 rw[yA (by rw[h];simp)]at t;clear h;refine⟨StC W _,zd a,_,z00 14 ir rfl rfl,z7 ⟨_,zq 0 ir rfl rfl,_,zu 16 ir rfl rfl,_,z00 15 ir rfl rfl,z7 ⟨_,zu 12 ir rfl rfl,?_⟩⟩⟩;generalize L:qw7 s.T m.B r.ten=res at t;obtain⟨T,d,e⟩:=res;dsimp only at t;refine z05 (X:=Zt #[Zg (q12 d).toArray,Zi Zk e]) (B:=q03 p.t T) 5 ir rfl (λG w h=>by have:=q3o (text:=m.B) (ten:=r.ten) h;rw[L]at this;exact this) (λ_ _ h=>⟨_,_,_,_,_,rfl,h⟩) ⟨_,_,_,_,_,rfl,trivial,λl=>?_⟩
 refine zn (α:=Unit) (V:=λ_=>Zt #[]) (B:=λ_=>q32 c x p pl (A0 m2) { s with T:=T} r.conn q (Row q 127 (qs pl sb r)::q02 p.v sb r.sh::Row u 46 [qc x]::Row f 128 [qc q]::qf7 g m::Row l 344 (q12 d)::F)) () (ir.push l _) (λG w h=>?_) λ_=>⟨rfl,trivial,λG w h=>?_⟩
 .have a:=zf 0 17 (h.imp z0d) rfl;exact St1.zz 17 a rfl λw a=>St1.zz 17 a rfl λw a=>St1.zz 17 a rfl λw a=>St1.zz 17 a rfl λw a=>⟨(),rfl,a⟩
 have a:=zb h;clear h;have I:qe ({ s with T:=T}:Bk).roles r.conn=A0 r:=I;generalize { s with T:=T}=o at a I t;refine za (λh=>?_) λh=>?_
 .rw[yB (by simpa using h)]at t;rw[<-A1 t];refine⟨StC W _,zd a,_,z00 14 ir rfl rfl,_,z00 15 ir rfl rfl,z7 ⟨_,zj 12 ir rfl rfl,?_⟩⟩;refine Ef.al (l':=brk c x p pl (A0 m2) (o.refuse r.conn e) (Row u 46 [qc x]::Row f 128 [qc q]::qf7 g m::Row l 344 (q12 d)::F)) ir (λG w h=>?_) (λ_ _ h=>⟨rfl,h⟩) ⟨rfl,trivial,λG w h=>⟨rfl,pl,((((zb h).del 12 rfl).del 12 rfl).del 12 rfl).del 12 rfl⟩⟩;have O:=z08 (F:=Row u 46 [qc x]::Row f 128 [qc q]::qf7 g m::Row l 344 (q12 d)::F++pts G) hp I h;exact q18 e O
 rw[yA (by simpa using h)]at t;clear h;by_cases E:d.vis=r.conn;.rw[yB E]at t;cases t
 rw[yA E]at t;rw[<-A1 t];clear t;refine⟨StC W _,zd a,_,z00 14 ir rfl rfl,z7 ⟨_,zq 0 ir rfl rfl,_,zj 17 ir rfl rfl,?_⟩⟩;refine z05 4 ir rfl (λG w h=>Qu.Drop_spec d.vis h) (λ_ _ h=>⟨_,rfl,h⟩) ⟨_,rfl,trivial,λG w h=>?_⟩;have a:=zb h;clear h;refine⟨StC W _,zd a,_,z00 14 ir rfl rfl,z7 ⟨_,zq 0 ir rfl rfl,_,zj 17 ir rfl rfl,_,z00 15 ir rfl rfl,z7 ⟨_,zj 12 ir rfl rfl,?_⟩⟩⟩;refine z05 6 ir rfl (λG w h=>qot (v:=d.vis) (c:=r.conn) h) (λ_ _ h=>⟨_,rfl,h⟩) ⟨_,rfl,trivial,λG w h=>?_⟩;have a:=zb h;clear h;refine(Ri.PNew_spec 256 a).of λv w ⟨pb,Y,a⟩=>⟨_,Y,?_⟩;have C:pl.length=o.pumps.length:=qa5.len (zf 12 0 a rfl);have a:=qa5.add (zf 12 1 a rfl);have a:=qw.imp (A':=qo2 p.v (pl++[pb])) (λ_ _=>qo2.app) (zf 10 0 a rfl);obtain⟨A,D⟩:∃A,A=({ o with Q:=Qu.gDrop o.Q d.vis,P:=(q4g o.P d.vis r.conn).1,pumps:=o.pumps++[Ri.PS.new]}:Bk):=⟨_,rfl⟩;have a:St W (q32 c x p (pl++[pb]) (A0 m2) A r.conn q (Row q 127 (qs pl sb r)::q02 p.v sb r.sh::Row u 46 [qc x]::Row f 128 [qc q]::qf7 g m::Row l 344 (q12 d)::F)) w:=by rw[D];exact zf 0 9 (zf 1 11 a rfl) rfl
 have J:qnc (pl++[pb]) (A0 o.pumps.length)=qc pb:=by unfold qnc;rw[<-C];simp
 have M:∀(id side:Int),qs (pl++[pb]) Aa (qq7 id d o.pumps.length side)=[Zi Zk id,Zi Zk 4,Zs d.ten,Zs d.name,Zi Zk d.epoch,Zs ⟨#[]⟩,Zq Aa,Zb A5,qc pb,Zi Zk side,Zb A5,Zb A5]:=λid side=>by unfold qs qq7;dsimp only;rw[J];rfl
 have N:∀(id side:Int) (b:Nat) (G:List Asn) (w:Af),St W (Row b 127 [Zi Zk id,Zi Zk 4,Zs d.ten,Zs d.name,Zi Zk d.epoch,Zs ⟨#[]⟩,Zq Aa,Zb A5,qc pb,Zi Zk side,Zb A5,Zb A5]::G) w->St W (qo2 p.v (pl++[pb]) b (qq7 id d o.pumps.length side)::G) w:=λid side b G w h=>by rw[<-M]at h;exact qo2.shut Aa (λi hi=>by cases hi;rw[Ag,C,List.length_singleton];omega) (z02 trivial h).p1
 have Z:o.paired c r.conn d=((A.put d.vis (qq7 d.vis d o.pumps.length 0)).put r.conn (qq7 r.conn d o.pumps.length 1)).alarm c.idle [d.vis,r.conn]:=by rw[D];rfl
 rw[Z];clear Z D M J;refine⟨StC W _,zd a,_,zj 17 ir rfl rfl,_,z00 15 ir rfl rfl,z7 ⟨_,zj 12 ir rfl rfl,λn G w h=>?_⟩⟩;have a:=zf 0 18 (((ir.push n _).ends h).imp z0d) rfl;clear h;have w1:Zw Zk ((0:Int)+1)=1:=by decide
 have w2:Zw Zk ((1:Int)+1)=2:=by decide
 refine⟨λvs w=>(vs=[Zi Zk 0]/\St W (q32 c x p (pl++[pb]) (A0 m2) A r.conn q (Row q 127 (qs pl sb r)::q02 p.v sb r.sh::Row u 46 [qc x]::Row f 128 [qc q]::qf7 g m::Row l 344 (q12 d)::Row n 3 [Zi Zk d.vis,Zi Zk r.conn]::F)) w)\/
  (vs=[Zi Zk 1]/\St W (q32 c x p (pl++[pb]) (A0 m2) (A.put d.vis (qq7 d.vis d o.pumps.length 0)) r.conn q (Row q 127 (qs pl sb r)::q02 p.v sb r.sh::Row u 46 [qc x]::Row f 128 [qc q]::qf7 g m::Row l 344 (q12 d)::Row n 3 [Zi Zk d.vis,Zi Zk r.conn]::F)) w)\/
  (vs=[Zi Zk 2]/\St W (brk c x p (pl++[pb]) (A0 m2) ((A.put d.vis (qq7 d.vis d o.pumps.length 0)).put r.conn (qq7 r.conn d o.pumps.length 1)) (Row q 127 (qs pl sb r)::q02 p.v sb r.sh::Row u 46 [qc x]::Row f 128 [qc q]::qf7 g m::Row l 344 (q12 d)::Row n 3 [Zi Zk d.vis,Zi Zk r.conn]::F)) w),leftN 2,.inl ⟨rfl,a⟩,λj w hI=>?_⟩
 clear a;rcases hI with ⟨H,a⟩|⟨H,a⟩|⟨H,a⟩
 .cases H;refine zm rfl (IxP.row (k:=0) rfl (by omega) (z0q 18 a rfl rfl ⟨StC W _,zd a,_,z00 14 ir rfl rfl,z7 ⟨_,z0b 0 ir rfl rfl,_,zu 17 ir rfl rfl,_,zu 17 ir rfl rfl,_,zj 17 ir rfl rfl,λz=>?_⟩⟩));refine zn (α:=Unit) (V:=λ_=>Zt #[]) (B:=λ_=>q32 c x p (pl++[pb]) (A0 m2) (A.put d.vis (qq7 d.vis d o.pumps.length 0)) r.conn q (Row q 127 (qs pl sb r)::q02 p.v sb r.sh::Row u 46 [qc x]::Row f 128 [qc q]::qf7 g m::Row l 344 (q12 d)::Row n 3 [Zi Zk d.vis,Zi Zk r.conn]::F)) () (ir.push z _) (λG w h=>?_) λ_=>⟨rfl,trivial,λG w h=>⟨.inr (.inl ⟨by rw[w1],zb h⟩),by rw[w1];show 2 - 1<2 - 0;omega⟩⟩;have U:=N _ _ _ _ _ (h.imp z0d);exact qw.set_ne kI uMr E (zf 10 1 U rfl) λw h=>⟨(),rfl,zf 0 9 h rfl⟩
 .cases H;refine zm rfl (IxP.row (k:=1) rfl (by omega) (z0q 18 a rfl rfl ⟨StC W _,zd a,_,z00 14 ir rfl rfl,z7 ⟨_,z0b 0 ir rfl rfl,_,zu 17 ir rfl rfl,_,zu 17 ir rfl rfl,_,zj 17 ir rfl rfl,λz=>?_⟩⟩));refine zn (α:=Unit) (V:=λ_=>Zt #[]) (B:=λ_=>brk c x p (pl++[pb]) (A0 m2) ((A.put d.vis (qq7 d.vis d o.pumps.length 0)).put r.conn (qq7 r.conn d o.pumps.length 1)) (Row q 127 (qs pl sb r)::q02 p.v sb r.sh::Row u 46 [qc x]::Row f 128 [qc q]::qf7 g m::Row l 344 (q12 d)::Row n 3 [Zi Zk d.vis,Zi Zk r.conn]::F)) () (ir.push z _) (λG w h=>?_) λ_=>⟨rfl,trivial,λG w h=>⟨.inr (.inr ⟨by rw[w2],zb h⟩),by rw[w2];show 2 - 2<2 - 1;omega⟩⟩;have U:=N _ _ _ _ _ (h.imp z0d);exact qw.set_eq kI uMr (zf 10 1 U rfl) λw h=>⟨(),rfl,zf 0 9 h rfl⟩
 .cases H;refine zl rfl ⟨StC W _,zd a,_,z00 14 ir rfl rfl,_,z00 14 ir rfl rfl,z7 ⟨_,zj 0 ir rfl rfl,_,zj 17 ir rfl rfl,_,z00 15 ir rfl rfl,z7 ⟨_,zj 12 ir rfl rfl,λb265=>?_⟩⟩⟩;exact Ef.alarm [d.vis,r.conn] (by simp) ir ⟨rfl,trivial,λG w h=>⟨rfl,pl++[pb],((((((z04 12 (zb h) rfl).del 12 rfl).del 12 rfl).del 12 rfl).del 12 rfl).del 12 rfl).del 12 rfl⟩⟩
end
end
section
def fnV(f:Nat):Aj:=.func (.func f) #[] #[]
def qw8:List (Int×Nat):=[(6,317),(8,318),(9,319),(13,320),(12,321)]
def uMh:Zp.underlying 391=A0 (.map 3 389):=Tryz.underlying391
def iFh:Zp.info? 389=A0 Tryz.t389:=by kernel_rfl
def zFh:Tryz.t389.zero=A0 .nilFunc:=rfl
def qfv(k:Int):(k=6/\qe qw8 k=A0 317)\/(k=8/\qe qw8 k=A0 318)\/(k=9/\qe qw8 k=A0 319)\/(k=13/\qe qw8 k=A0 320)\/(k=12/\qe qw8 k=A0 321)\/((k≠6/\k≠8/\k≠9/\k≠13/\k≠12)/\qe qw8 k=Aa):=by
 by_cases a:k=6;.subst a;exact .inl ⟨rfl,rfl⟩
 by_cases c:k=8;.subst c;exact .inr (.inl ⟨rfl,rfl⟩)
 by_cases b:k=9;.subst b;exact .inr (.inr (.inl ⟨rfl,rfl⟩))
 by_cases w:k=13;.subst w;exact .inr (.inr (.inr (.inl ⟨rfl,rfl⟩)))
 by_cases h:k=12;.subst h;exact .inr (.inr (.inr (.inr (.inl ⟨rfl,rfl⟩))))
 refine .inr (.inr (.inr (.inr (.inr ⟨⟨a,c,b,w,h⟩,?_⟩))));unfold qw8;simp only[qe];rw[yA (Ne.symm a),yA (Ne.symm c),yA (Ne.symm b),yA (Ne.symm w),yA (Ne.symm h)]
def q8s{W w:Af}{l:List Asn}(h:St W l w):qb Zp 276 #[] w λv w'=>∃m,v=.map (A0 m)/\St W (qg (Zi Zk) fnV m qw8::l) w':=by refine F276_of (qs5.f (ν:=Nat) (Zi Zk) fnV h λm w h=>?_);refine qh1 (vl:=fnV) kI uMh 0 h rfl 6 317 λw h=>qh1 (vl:=fnV) kI uMh 0 h rfl 8 318 λw h=>qh1 (vl:=fnV) kI uMh 0 h rfl 9 319 λw h=>qh1 (vl:=fnV) kI uMh 0 h rfl 13 320 λw h=>qh1 (vl:=fnV) kI uMh 0 h rfl 12 321 λw h=>⟨m,rfl,?_⟩;exact h
namespace Bk
def granted_roles(s:Bk)(id:Int)(x:LeD)(e:Int):(s.granted id x e).roles=s.roles:=rfl
def claim_roles(s:Bk)(id:Int)(r:q31)(m:qk1):(s.claim id r m).roles=s.roles:=by
 unfold claim;split;.rfl
 .unfold claim1;split;rw[granted_roles];split<;>rfl
def renew_roles(s:Bk)(id:Int)(r:q31)(m:qk1):(s.renew id r m).roles=s.roles:=rfl
end Bk
section
variable{W w:World}{F l:List Asn}{ro:Asn}{c:qy}{x m2 q pb:Nat}{p:qm3}{pl:List Nat}{ps:List Ri.PS}{sn:Option Nat}{s s':Bk}{id:Int}{cs:List Value}{r:q31}
set_option maxHeartbeats 1000000 in
def qzt{sb:Option Nat}(m:qk1)(draw:ByteArray)(z:ql1 F c)(y:r.conn=id)(n:∀i,r.pump=A0 i->i<pl.length)(k:qe s.roles id=A0 r)(e:s.hear c id r m draw=A0 s')(a:St W (q32 c x p pl (A0 m2) s id q (Row q 127 (qs pl sb r)::q02 p.v sb r.sh::F)) w):
 qb Zp 194 #[qc x,qc q,ql2 m,Zs draw] w λv w'=>v=Zt #[]/\∃d,St W (brk c x p d (A0 m2) s' F) w':=by
 subst y;unfold Bk.hear at e;dsimp only at e;refine F194_of (z09 14 a λb w a=>⟨StC W _,zd a,z7 (z7 ⟨_,zj 0 ir rfl rfl,_,zj 12 ir rfl rfl,λu=>?_⟩)⟩);refine Ef.alarm [r.conn] (by simp) ir ⟨rfl,trivial,λG w h=>?_⟩;have a:St W (q32 c x p pl (A0 m2) (s.alarm c.idle [r.conn]) r.conn q (Row q 127 (qs pl sb r)::q02 p.v sb r.sh::qf7 b m::F)) w:=zb h;clear h;have k:qe (s.alarm c.idle [r.conn]).roles r.conn=A0 r:=k;generalize s.alarm c.idle [r.conn]=s at a k e;refine z7 (z8 12 a rfl rfl (za (λh=>?_) λh=>?_))
 .rw[yB (by simpa using h)]at e;refine z8 14 a rfl rfl (zg 14 a rfl rfl (zg 14 a rfl rfl (z8 14 a rfl rfl (z8 14 a rfl rfl ?_))));exact(qur m draw (z.cons _) rfl n k e a).of λv w ⟨g,a⟩=>⟨g,rfl,pl,a.del 12 rfl⟩
 rw[yA (by simpa using h)]at e;clear h;refine⟨StC W _,zd a,_,zj 14 ir rfl rfl,?_⟩;refine zn (α:=Nat) (V:=λo=>.map (A0 o)) (B:=λo=>qg (Zi Zk) fnV o qw8::q32 c x p pl (A0 m2) s r.conn q (Row q 127 (qs pl sb r)::q02 p.v sb r.sh::qf7 b m::F)) 0 ir (λG w h=>(q8s h).of λv w ⟨o,g,h⟩=>⟨_,g,o,rfl,h⟩) λo=>⟨_,rfl,zj 15 ir rfl rfl,_,_,(λG w t=>qq1 kI uMh iFh zFh 0 t rfl m.k An (by rw[yB rfl];exact⟨_,_,rfl,rfl,t⟩)),λG w h=>?_⟩;have a:St W (q32 c x p pl (A0 m2) s r.conn q (Row q 127 (qs pl sb r)::q02 p.v sb r.sh::qf7 b m::F)) w:=(zb h).drop;clear h;rcases qfv m.k with ⟨f,j⟩|⟨f,j⟩|⟨f,j⟩|⟨f,j⟩|⟨f,j⟩|⟨f,j⟩
 .rw[j];rw[yB f]at e;rw[<-A1 e];refine zl rfl (z8 14 a rfl rfl (zg 14 a rfl rfl (zg 14 a rfl rfl (z8 14 a rfl rfl (z8 14 a rfl rfl ?_)))));have l:=(q0o (id:=r.conn) (r:=r) m rfl rfl a).of (R':=λv w'=>v=Zt #[]/\(λv w'=>v=Zt #[]/\∃d,St W (brk c x p d (A0 m2) (s.claim r.conn r m) F) w') (Zt #[]) w') λv w ⟨g,a⟩=>⟨g,rfl,pl,by rw[show s.roles=(s.claim r.conn r m).roles from(Bk.claim_roles _ _ _ _).symm]at a;exact(z08 (s:=s.claim r.conn r m) n (by rw[Bk.claim_roles];exact k) a).del 12 rfl⟩
  exact zx (by kernel_rfl) l
 .rw[j];rw[yA (by omega),yB f]at e;rw[<-A1 e];refine zl rfl (z8 14 a rfl rfl (zg 14 a rfl rfl (zg 14 a rfl rfl (z8 14 a rfl rfl (z8 14 a rfl rfl ?_)))));have l:=(qmo (id:=r.conn) (r:=r) m rfl rfl a).of (R':=λv w'=>v=Zt #[]/\(λv w'=>v=Zt #[]/\∃d,St W (brk c x p d (A0 m2) (s.renew r.conn r m) F) w') (Zt #[]) w') λv w ⟨g,a⟩=>⟨g,rfl,pl,by rw[show s.roles=(s.renew r.conn r m).roles from(Bk.renew_roles _ _ _ _).symm]at a;exact(z08 (s:=s.renew r.conn r m) n (by rw[Bk.renew_roles];exact k) a).del 12 rfl⟩
  exact zx (by kernel_rfl) l
 .rw[j];rw[yA (by omega),yA (by omega),yB f]at e;rw[<-A1 e];refine zl rfl (z8 14 a rfl rfl (zg 14 a rfl rfl (zg 14 a rfl rfl (z8 14 a rfl rfl (z8 14 a rfl rfl ?_)))));have l:=(qwk m rfl n k a).of (R':=λv w'=>v=Zt #[]/\(λv w'=>v=Zt #[]/\∃d,St W (brk c x p d (A0 m2) (s.release r.conn r m) F) w') (Zt #[]) w') λv w ⟨g,a⟩=>⟨g,rfl,pl,a.del 12 rfl⟩;exact zx (by kernel_rfl) l
 .rw[j];rw[yA (by omega),yA (by omega),yA (by omega),yB f]at e;rw[<-A1 e];refine zl rfl (z8 14 a rfl rfl (zg 14 a rfl rfl (zg 14 a rfl rfl (z8 14 a rfl rfl (z8 14 a rfl rfl ?_)))));have l:=(qmq (x:=x) (q:=q) m a).of (R':=λv w'=>v=Zt #[]/\(λv w'=>v=Zt #[]/\∃d,St W (brk c x p d (A0 m2) s F) w') (Zt #[]) w') λv w ⟨g,a⟩=>⟨g,rfl,pl,(z08 n k a).del 12 rfl⟩;exact zx (by kernel_rfl) l
 .rw[j];rw[yA (by omega),yA (by omega),yA (by omega),yA (by omega),yB f]at e;refine zl rfl (z8 14 a rfl rfl (zg 14 a rfl rfl (zg 14 a rfl rfl (z8 14 a rfl rfl (z8 14 a rfl rfl ?_)))));have l:=(qsk m rfl n k e a).of (R':=λv w'=>v=Zt #[]/\(λv w'=>v=Zt #[]/\∃d,St W (brk c x p d (A0 m2) s' F) w') (Zt #[]) w') λv w ⟨g,d,a⟩=>⟨g,rfl,d,a.del 12 rfl⟩;exact zx (by kernel_rfl) l
 .rw[j];rw[yA f.1,yA f.2.1,yA f.2.2.1,yA f.2.2.2.1,yA f.2.2.2.2]at e;rw[<-A1 e];refine zm rfl (z7 (z8 12 a rfl rfl ?_));exact(q18 1 (z08 n k a)).of λv w ⟨g,a⟩=>⟨g,rfl,pl,a.del 12 rfl⟩
end
end
section
def qb3.next{N:Cn.CT}{S:List (Int×q81)}(h:qb3 N S)(id:Int):qb3 (Cn.nextT N id).1 S:=by
 unfold Cn.nextT;split;.exact h
 .rename_i d a;refine⟨h.1,λy w=>?_⟩;rcases qh8 w with rfl|w
  .have:=h.2 _ (qg3 a);exact this
  .exact h.2 y w
section
variable{W w:World}{F l:List Asn}{ro:Asn}{c:qy}{x m2 q pb:Nat}{p:qm3}{pl:List Nat}{ps:List Ri.PS}{sn:Option Nat}{s s':Bk}{id:Int}{cs:List Value}{r:q31}
def qyk(W:Af)(c:qy)(x m2:Nat)(p:qm3)(pl:List Nat)(s:Bk)(id:Int)(F:List Asn)(vs:List Aj)(w:Af):Prop:=
 (∃(r:q31) (q:Nat) (sb:Option Nat),s.talks id=A0 r/\vs=[qc q,Zb An]/\(∀i,r.pump=A0 i->i<pl.length)/\St W (q32 c x p pl (A0 m2) s id q (Row q 127 (qs pl sb r)::q02 p.v sb r.sh::F)) w)\/
 (s.talks id=Aa/\∃a,vs=[Zq a,Zb A5]/\St W (brk c x p pl (A0 m2) s F) w)
def q4t(h:s.talks id=A0 r):qe s.roles id=A0 r:=by
 unfold Bk.talks at h;split at h;.cases h
 .split at h;.cases h;assumption
  .cases h
def qcg(e:St W (brk c x p pl (A0 m2) s F) w):qb Zp 191 #[qc x,Zi Zk id] w λv w'=>∃a b,v=Zt #[Zq a,Zb b]/\qyk W c x m2 p pl s id F [Zq a,Zb b] w':=by
 unfold qyk;cases hd:qe s.roles id with
 |none=>
  have k:s.talks id=Aa:=by unfold Bk.talks;rw[hd]
  refine F191_of (z7 (zv 0 e rfl rfl (z0w kI uMr iPr zPr 9 e rfl hd An ?_)));rw[yB rfl];exact⟨_,_,rfl,StC W _,zd e,zl rfl λG w h=>⟨_,_,rfl,.inr ⟨k,_,rfl,zb h⟩⟩⟩
 |some d=>
  obtain⟨q,sb,i,e⟩:=brk.open_ hd e;refine F191_of (z7 (zv 0 e rfl rfl (z0h kI uMr iPr zPr 9 e rfl An ?_)));rw[yB rfl];refine⟨_,_,rfl,StC W _,zd e,zm rfl (z7 ⟨_,zj 12 ir rfl rfl,za (λh=>λG w g=>⟨_,_,rfl,.inl ⟨d,q,sb,?_,rfl,i,zb g⟩⟩) λh=>z7 ⟨_,zj 12 ir rfl rfl,λG w g=>⟨_,_,rfl,?_⟩⟩⟩)⟩
  .unfold Bk.talks;rw[hd];exact yB (.inl (by simpa using h))
  .have e:=zb g;have j:d.kind≠1:=by simpa using h
   by_cases f:d.kind=2
   .refine .inl ⟨d,q,sb,?_,?_,i,e⟩
    .unfold Bk.talks;rw[hd];exact yB (.inr f)
    .rw[f];rfl
   .refine .inr ⟨?_,A0 ⟨q,0,Aa⟩,?_,z08 i hd e⟩
    .unfold Bk.talks;rw[hd];exact yA (by intro h;rcases h with h|h;exact j h;exact f h)
    .rw[show(d.kind==2)=A5 from by simpa using f]
set_option maxHeartbeats 1000000 in
def qhk{n:Nat}(draw:ByteArray)(V:ql1 F c)(g:s.read c n id draw=A0 s')(f:St W (brk c x p pl (A0 m2) s F) w):
 qb Zp 124 #[qc x,Zi Zk id,Zs draw] w λv w'=>v=Zt #[]/\∃J,St W (brk c x p J (A0 m2) s' F) w':=by
 refine F124_of ((qcg f).of λv w ⟨a,b,i,o⟩=>⟨_,_,i,qt3 (λn vs w=>∃s pl,Bk.read c n s id draw=A0 s'/\qyk W c x m2 p pl s id F vs w) λμ U T=>⟨⟨n,s,pl,g,o⟩,λY Z w P=>?_⟩⟩);clear f o g;obtain⟨s,pl,g,o⟩:=T _ _ P;generalize μ _ _=n at g⊢;cases n with
 |zero=>cases g
 |succ n=>
 unfold Bk.read at g;rcases o with ⟨r,q,sb,B,E,D,f⟩|⟨B,a,E,f⟩
 .cases E;rw[B]at g;have j:=q4t B;dsimp only at g;by_cases y:r.conn≠id;.rw[yB y]at g;cases g
  rw[yA y]at g;have y:r.conn=id:=by simpa using y
  refine zm rfl (z7 (z0r 0 f rfl rfl ((Cn.Next_spec (id:=id) (f.at 7 rfl)).of λv w ⟨t,A,i,f⟩=>⟨_,_,_,_,_,i,?_⟩)));have L:St W (qua (qw (Zi Zk) p.m (qo2 p.v pl) s.roles id q) (qs2 (A0 m2) s.N s.S) c x p pl (A0 m2) { s with N:=(Cn.nextT s.N id).1} (Row q 127 (qs pl sb r)::q02 p.v sb r.sh::qi 5 1 t (Cn.nextT s.N id).2.1.length A ((Cn.nextT s.N id).2.1.map qd)::F)) w:=z12 14 (zf 1 8 f rfl);have f:St W (q32 c x p pl (A0 m2) { s with N:=(Cn.nextT s.N id).1} id q (Row q 127 (qs pl sb r)::q02 p.v sb r.sh::qi 5 1 t (Cn.nextT s.N id).2.1.length A ((Cn.nextT s.N id).2.1.map qd)::F)) w:=z11 10 L rfl (z1g λh=>h.next id);clear L;generalize Cn.nextT s.N id=nx at f g⊢;obtain⟨N,b,z,e⟩:=nx;dsimp only at f g⊢;have j:qe ({ s with N:=N}:Bk).roles id=A0 r:=j;generalize { s with N:=N}=s at f g j;refine⟨λ_ w=>¬(e=0/\z=A5)/\St W (q32 c x p pl (A0 m2) s id q (Row q 127 (qs pl sb r)::q02 p.v sb r.sh::qi 5 1 t b.length A (b.map qd)::F)) w,za (λh=>za (λC=>?_) λC=>⟨λk=>(by rw[k.2]at C;cases C),f⟩) λh=>⟨λk=>(by rw[k.1]at h;cases h),f⟩,λw X=>?_⟩
  .rw[yB ⟨by simpa using h,by simpa using C⟩]at g;refine z7 (z0r 0 f rfl rfl (qb.p 7 f rfl (λh=>Cn.Ended_spec (id:=id) h) λw f=>⟨_,rfl,za (λl=>?_) λl=>?_⟩))
   .have l:s.ask id A5 (λd=>d.ended)=An:=l;rw[yB l]at g;rw[<-A1 g];exact(q9a (z08 D j f)).of λv w ⟨i,f⟩=>⟨i,rfl,pl,f.del 12 rfl⟩
   .have l:s.ask id A5 (λd=>d.ended)=A5:=l;rw[yA (by rw[l];simp)]at g;rw[<-A1 g];exact⟨rfl,pl,(z08 D j f).del 12 rfl⟩
  clear f;obtain⟨O,f⟩:=X;rw[yA O]at g;clear O;have I:∀G,Rd (q32 c x p pl (A0 m2) s id q (Row q 127 (qs pl sb r)::q02 p.v sb r.sh::qi 5 1 t b.length A (b.map qd)::G)) t (b.map qd):=λG=>z07 14 rfl λF=>z0i F;have H:=(qi.le (f.at 14 rfl)).2;refine(qtj (I F) H f).of λv w ⟨i,f⟩=>⟨_,_,_,_,_,_,i,?_⟩;generalize qxg b=gm at g⊢;obtain⟨m,M⟩:=gm;dsimp only at g⊢;refine z09 14 f λQ w f=>St1.zz 14 f rfl λw f=>St1.zz 14 f rfl λw f=>St1.zz 14 f rfl λw f=>St1.zz 14 f rfl λw f=>St1.zz 14 f rfl λw f=>?_;have f:St W (q32 c x p pl (A0 m2) s id q (Row q 127 (qs pl sb r)::q02 p.v sb r.sh::qf7 Q m::qi 5 1 t b.length A (b.map qd)::F)) w:=f;refine za (λh=>?_) λh=>?_
  .rw[yB (by simpa using h)]at g;rw[<-A1 g];exact(q18 61 (z08 D j f)).of λv w ⟨i,f⟩=>⟨i,rfl,pl,(f.del 12 rfl).del 12 rfl⟩
  .rw[yA (by simpa using h)]at g;refine z8 14 f rfl rfl (zg 14 f rfl rfl (zg 14 f rfl rfl (z8 14 f rfl rfl (z8 14 f rfl rfl ?_))));cases k:s.hear c id r m draw with
   |none=>rw[k]at g;cases g
   |some R=>
   rw[k]at g;refine(qzt m draw ((V.cons _).cons _) y D j k f).of λv w ⟨i,K,f⟩=>⟨i,?_⟩;refine(qcg ((f.del 12 rfl).del 12 rfl)).of λv w ⟨a,b,i,o⟩=>⟨_,_,i,?_⟩;have u:∃s pl,Bk.read c n s id draw=A0 s'/\qyk W c x m2 p pl s id F [Zq a,Zb b] w:=⟨R,K,g,o⟩;exact⟨⟨n,u⟩,A2 (U _ _ _ u) (by omega)⟩
 .cases E;rw[B]at g;rw[<-A1 g];exact zl rfl ⟨rfl,pl,f⟩
end
end
section
def qxc{α:Type}:∀{l:List α} {i:Nat} {x:α},l[i]?=A0 x->l.Perm (x::l.eraseIdx i)
 |y::l,0,x,h=>by simp at h;subst h;exact .refl _
 |y::l,i+1,x,h=>by simp at h;exact((qxc h).cons y).trans (List.Perm.swap _ _ _)
def q3p{α β:Type}:∀(l:List α) (m:List β) (i:Nat) {x:α} (y:β),l[i]?=A0 x->l.zip (m.set i y)=(l.zip m).set i (x,y)
 |[],m,i,x,y,h=>by simp at h
 |a::l,[],i,x,y,h=>by simp
 |a::l,b::m,0,x,y,h=>by simp at h;subst h;rfl
 |a::l,b::m,i+1,x,y,h=>by simp at h;simp[q3p l m i y h]
def qwh{α:Type}:∀(l:List α) (i:Nat) (y:α),(l.set i y).eraseIdx i=l.eraseIdx i
 |[],i,y=>rfl
 |a::l,0,y=>rfl
 |a::l,i+1,y=>by simp[qwh l i y]
section
variable{W w:World}{F l:List Asn}{pl:List Nat}{ps:List Ri.PS}{pb i:Nat}{z:Ri.PS}
def q8a(pl:List Nat)(ps:List Ri.PS)(i pb:Nat):Asn:=qz [prA (pl.length=ps.length/\pl[i]?=A0 pb),qz (((pl.zip ps).eraseIdx i).map λx=>Ri.PumpA x.1 256 x.2)]
def qa5.take(c:ps[i]?=A0 z)(h:St W (qa5 pl ps::F) w):∃pb,pl[i]?=A0 pb/\St W (Ri.PumpA pb 256 z::q8a pl ps i pb::F) w:=by
 obtain⟨d,h⟩:=h.of_sep.of_pr;have b:i<pl.length:=by rw[d];exact(A6.1 c).1
 have a:pl[i]?=A0 pl[i]:=A3 b;have e:(pl.zip ps)[i]?=A0 (pl[i],z):=by rw[List.getElem?_zip_eq_some];exact⟨a,c⟩
 refine⟨pl[i],a,?_⟩;have f:=qf5 (X:=Ri.PumpA pl[i] 256 z) ((qxc e).map λx=>Ri.PumpA x.1 256 x.2) h;exact(zk (l:=[_,_]) (z02 ⟨d,a⟩ f.p1)).p1
def qa5.give(h:St W (Ri.PumpA pb 256 z::q8a pl ps i pb::F) w):St W (qa5 pl (ps.set i z)::F) w:=by
 obtain⟨⟨e,b⟩,h⟩:=h.p1.of_sep.of_pr;refine zk (l:=[_,_]) (z02 (by rw[List.length_set];exact e) ?_);rw[q3p pl ps i z b];have a:i<(pl.zip ps).length:=by rw[List.length_zip];have:=(A6.1 b).1;omega
 have d:St W (Ri.PumpA pb 256 z::qz (((pl.zip ps).eraseIdx i).map λx=>Ri.PumpA x.1 256 x.2)::F) w:=St.p1 h;have c:((pl.zip ps).set i (pb,z))[i]?=A0 (pb,z):=by rw[List.getElem?_set_self a]
 have:=(qxc c).map λx=>Ri.PumpA x.1 256 x.2;rw[qwh]at this;exact q95 this.symm d
def q0v:Ri.capOf 256=256:=by decide
def q6s(n:Int)(h:St W (Ri.PumpA pb 256 z::F) w):qb Zp 133 #[qc pb,Zi Zk n] w λv w'=>v=Zi Zk (z.room 256 n:Nat)/\St W (Ri.PumpA pb 256 z::F) w':=by have:=Ri.PRoom_spec n h;rwa[q0v]at this
def qax{xs:List UInt8}{p:Option Addr}{c:Nat}(n:Int)(h:Rd F p (xs.map qd))(b:xs.length<=c)(a:St W (Ri.PumpA pb 256 z::F) w):qb Zp 134 #[qc pb,Zi Zk n,Zl p xs.length c] w λv w'=>v=Zi Zk (z.inN 256 n xs:Nat)/\St W (Ri.PumpA pb 256 (z.in_ 256 n xs)::F) w':=by have:=Ri.PIn_spec n h b a;rwa[q0v]at this
def qyx(z:Ri.PS)(n k:Int):(z.outB n k).length<=k.toNat:=by
 unfold Ri.PS.outB;split;.rw[Ab];omega
 .exact Ar _
def qdy(z:Ri.PS)(n:Int):z.room 256 n<=256:=by unfold Ri.PS.room;split<;>omega
end
section
variable{W w:World}{F l:List Asn}{ro:Asn}{c:qy}{x m2 qf qt:Nat}{p:qm3}{pl:List Nat}{sn sbf sbt:Option Nat}{s s':Bk}{id:Int}{f t t':q31}{res:Bool}
@[reducible] def qzi (ro so pu:Asn) (c:qy) (x:Nat) (p:qm3) (sn:Option Nat) (s:Bk) (F:List Asn):List Asn:=
 Row x 108 (brV c p sn)::qg1 p.v c s.R::qg5 c p.g s.O::q41 p.l s.B::Qu.QueueA p.q s.Q::q03 p.t s.T::q13 p.p s.P::Cn.TabA p.n s.N::Ck.ClockA p.k s.K::ro::so::pu::F
set_option maxHeartbeats 1000000 in
def qoh(U:∀i,t.pump=A0 i->i<pl.length)(j:s.relay c f t=A0 (s',t',res))(a:St W (qy1 ro c x p pl sn s (Row qf 127 (qs pl sbf f)::Row qt 127 (qs pl sbt t)::F)) w):
 qb Zp 83 #[qc x,qc qf,qc qt] w λv w'=>v=Zb res/\St W (qy1 ro c x p pl sn s' (Row qf 127 (qs pl sbf f)::Row qt 127 (qs pl sbt t')::F)) w':=by
 unfold Bk.relay at j;cases hpu:f.pump with
 |none=>rw[hpu]at j;cases j
 |some i=>
 rw[hpu]at j;dsimp only at j;cases hps:s.pumps[i]? with
 |none=>rw[hps]at j;cases j
 |some z0=>
 rw[hps]at j;dsimp only at j;obtain⟨pb,N,a⟩:=qa5.take hps (a.at 11 rfl);have l:∀(k:Nat),k=8->(qs pl sbf f)[k]?=A0 (Zq (A0 ⟨pb,0,Aa⟩)):=λk O=>by subst O;show A0 (qnc pl f.pump)=_;rw[hpu];unfold qnc;simp only;rw[N];rfl
 have a:St W (qzi ro (qs2 sn s.N s.S) (q8a pl s.pumps i pb) c x p sn s (Row qf 127 (qs pl sbf f)::Row qt 127 (qs pl sbt t)::Ri.PumpA pb 256 z0::F)) w:=zf 0 14 (zf 1 12 a rfl) rfl;refine F83_of ⟨StC W _,zd a,z7 (z7 (z7 (z7 ⟨_,zq 0 ir rfl rfl,_,zj 12 ir rfl rfl,_,zq 12 ir rfl (l _ rfl),_,zj 12 ir rfl rfl,?_⟩)))⟩;refine z05 14 ir rfl (λG w h=>q6s f.side h) (λ_ _ h=>⟨_,rfl,h⟩) ⟨_,rfl,⟨zj 12 ir rfl rfl,zq 0 ir rfl rfl⟩,?_⟩;refine Ef.sl 7 ir rfl (λG w h=>Cn.Rest_spec (id:=f.conn) ((z0.room 256 f.side:Nat):Int) h) (λ_ _ _ _ h=>⟨_,_,_,rfl,h⟩) λq m=>⟨_,_,_,rfl,trivial,λG w h=>?_⟩;have R:(s.N.ask f.conn [] λd=>d.inb.take ((z0.room 256 f.side:Nat):Int).toNat).length<=256:=by
  unfold Cn.CT.ask;split;.exact Ar _
  .rw[Ab];have:=qdy z0 f.side;omega
 have y:St W (qzi ro (qs2 sn s.N s.S) (q8a pl s.pumps i pb) c x p sn (s.upd f.conn (Cn.gRest ((z0.room 256 f.side:Nat):Int))) (Row qf 127 (qs pl sbf f)::Row qt 127 (qs pl sbt t)::Ri.PumpA pb 256 z0::qi 5 1 q (s.N.ask f.conn [] λd=>d.inb.take ((z0.room 256 f.side:Nat):Int).toNat).length m ((s.N.ask f.conn [] λd=>d.inb.take ((z0.room 256 f.side:Nat):Int).toNat).map qd)::F)) w:=z12 15 (zb h);have a:=z11 10 y rfl (z1g λh=>qb3.upd h f.conn (g:=Cn.gRest ((z0.room 256 f.side:Nat):Int)) λd=>rfl);clear h y;generalize (s.N.ask f.conn [] λd=>d.inb.take ((z0.room 256 f.side:Nat):Int).toNat)=inn at a j R⊢;unfold Bk.relayA at j;obtain⟨e,z⟩:∃e,e=s.upd f.conn (Cn.gRest ((z0.room 256 f.side:Nat):Int)):=⟨_,rfl⟩;rw[<-z]at j;have a:St W (qzi ro (qs2 sn e.N e.S) (q8a pl e.pumps i pb) c x p sn e (Row qf 127 (qs pl sbf f)::Row qt 127 (qs pl sbt t)::Ri.PumpA pb 256 z0::qi 5 1 q inn.length m (inn.map qd)::F)) w:=by rw[z];exact a
 clear z;have P:=(qi.le (a.at 15 rfl)).2;refine⟨StC W _,zd a,z7 (z7 ⟨_,zq 12 ir rfl (l _ rfl),_,zj 12 ir rfl rfl,?_⟩)⟩;refine z05 14 ir rfl (λG w h=>qax f.side (z07 14 rfl λF=>z0i F) P h) (λ_ _ h=>⟨_,rfl,h⟩) ⟨_,rfl,trivial,λG w h=>?_⟩;have a:St W (qzi ro (qs2 sn e.N e.S) (q8a pl e.pumps i pb) c x p sn e (Row qf 127 (qs pl sbf f)::Row qt 127 (qs pl sbt t)::Ri.PumpA pb 256 (z0.in_ 256 f.side inn)::qi 5 1 q inn.length m (inn.map qd)::F)) w:=zb h;clear h;generalize z0.in_ 256 f.side inn=z1 at a j;unfold Bk.relayB at j;obtain⟨E,A⟩:∃E,E=(e.N.ask f.conn 0 (λd=>(d.inb.length:Int))==0):=⟨_,rfl⟩;obtain⟨I,u⟩:∃I,I=e.N.ask f.conn A5 λd=>d.ended:=⟨_,rfl⟩;rw[<-A,<-u]at j;refine⟨λvs w=>vs=[Zb ((E&&I)&&z1.hears f.side)]/\St W (qzi ro (qs2 sn e.N e.S) (q8a pl e.pumps i pb) c x p sn e (Row qf 127 (qs pl sbf f)::Row qt 127 (qs pl sbt t)::Ri.PumpA pb 256 (if(E&&I)=An then z1.end_ f.side else z1)::qi 5 1 q inn.length m (inn.map qd)::F)) w,?_,λended w X=>?_⟩
 .refine⟨StC W _,zd a,z7 (z7 ⟨_,zq 0 ir rfl rfl,_,zj 12 ir rfl rfl,?_⟩)⟩;refine z05 7 ir rfl (λG w h=>Cn.Came_spec (id:=f.conn) h) (λ_ _ h=>⟨_,rfl,h⟩) ⟨_,rfl,trivial,?_⟩;rw[<-A];refine za (λy=>z7 (z7 ⟨_,zq 0 ir rfl rfl,_,zj 12 ir rfl rfl,?_⟩)) λy=>λG w h=>?_
  .refine z05 7 ir rfl (λG w h=>Cn.Ended_spec (id:=f.conn) h) (λ_ _ h=>⟨_,rfl,h⟩) ⟨_,rfl,trivial,?_⟩;rw[<-u];refine za (λr=>z7 (z7 ⟨_,zq 12 ir rfl (l _ rfl),_,zj 12 ir rfl rfl,?_⟩)) λr=>λG w h=>?_
   .refine z05 14 ir rfl (λG w h=>Ri.PEnd_spec f.side h) (λ_ _ h=>⟨_,rfl,h⟩) ⟨_,rfl,trivial,λG w h=>?_⟩;rw[y,r];exact⟨rfl,zb h⟩
   .rw[y,r];exact⟨rfl,zb h⟩
  .rw[y];exact⟨rfl,zb h⟩
 clear a;obtain⟨V,a⟩:=X;cases V;clear A u;unfold Bk.relayC at j;generalize (E&&I)=zz at a j⊢;generalize (if zz=An then z1.end_ f.side else z1)=z2 at a j;generalize (zz&&z1.hears f.side)=ended at j⊢;refine⟨StC W _,zd a,z7 (z7 (z7 (z7 ⟨_,zq 12 ir rfl (l _ rfl),_,zj 13 ir rfl rfl,_,zq 0 ir rfl rfl,_,zj 13 ir rfl rfl,?_⟩)))⟩;refine z05 7 ir rfl (λG w h=>Cn.Room_spec (id:=t.conn) h) (λ_ _ h=>⟨_,rfl,h⟩) ⟨_,rfl,⟨zj 13 ir rfl rfl,zq 12 ir rfl (l _ rfl)⟩,?_⟩;have O:(e.N.ask t.conn 0 λd=>((1024 - d.out.length:Nat):Int))<=1024:=by
  unfold Cn.CT.ask;split;.decide
  .dsimp only;omega
 generalize (e.N.ask t.conn 0 λd=>((1024 - d.out.length:Nat):Int))=k at O j⊢;have M:=qyx z2 t.side k;unfold Bk.relayD at j;refine Ef.sl 14 ir rfl (λG w h=>Ri.POut_spec t.side k h) (λ_ _ _ _ h=>⟨_,_,_,_,rfl,h⟩) λJ L=>⟨_,_,_,_,rfl,trivial,λG w h=>?_⟩;have a:St W (qzi ro (qs2 sn e.N e.S) (q8a pl e.pumps i pb) c x p sn e (Row qf 127 (qs pl sbf f)::Row qt 127 (qs pl sbt t)::Ri.PumpA pb 256 (z2.out t.side k)::qi 5 1 q inn.length m (inn.map qd)::qi 5 1 J (z2.outB t.side k).length L ((z2.outB t.side k).map qd)::F)) w:=z12 16 (zb h);clear h;generalize z2.outB t.side k=o at a j M⊢;generalize z2.outE t.side k=en at j⊢;generalize z2.out t.side k=z3 at a j;have H:=(qi.le (a.at 16 rfl)).2;refine⟨StC W _,zd a,z7 (z7 ⟨_,zq 0 ir rfl rfl,_,zj 13 ir rfl rfl,?_⟩)⟩;refine z05 7 ir rfl (λG w h=>Cn.Say_spec (id:=t.conn) (xs:=o) (z07 15 rfl λF=>z0i F) H h) (λ_ _ h=>⟨_,rfl,h⟩) ⟨_,rfl,trivial,λG w h=>?_⟩;have a:=z11 10 (zb h) rfl (z1g λh=>qb3.upd h t.conn (g:=Cn.gSay o) λd=>by unfold Cn.gSay;split<;>rfl);clear h;have a:=qa5.give (zf 12 1 (zf 14 0 a rfl) rfl);have a:St W (qy1 ro c x p pl sn { e.upd t.conn (Cn.gSay o)with pumps:=e.pumps.set i z3} (Row qf 127 (qs pl sbf f)::Row qt 127 (qs pl sbt t)::qi 5 1 q inn.length m (inn.map qd)::qi 5 1 J o.length L (o.map qd)::F)) w:=zf 0 11 a rfl;unfold Bk.relayE at j;simp only[Ai,Prod.mk.injEq]at j;obtain⟨C,D,B⟩:=j;rw[<-C,<-D,<-B];clear C D B;refine⟨λ_ w=>St W (qy1 ro c x p pl sn { e.upd t.conn (Cn.gSay o)with pumps:=e.pumps.set i z3} (Row qf 127 (qs pl sbf f)::Row qt 127 (qs pl sbt { t with due:=t.due||en})::qi 5 1 q inn.length m (inn.map qd)::qi 5 1 J o.length L (o.map qd)::F)) w,?_,λw a=>?_⟩;.exact z7 (zw 13 a rfl rfl (za (λh=>z7 (St1.zz 13 a rfl λw a=>(by dsimp only;rw[h];exact a))) λh=>z7 (St1.zz 13 a rfl λw a=>(by dsimp only;rw[h];exact a))))
 rw[w64 (n:=(inn.length:Int)+(o.length:Int)) (by omega) (by omega)];generalize decide ((inn.length:Int)+(o.length:Int)>0)=T;refine⟨λ_ w=>St W (qy1 ro c x p pl sn { e.upd t.conn (Cn.gSay o)with pumps:=e.pumps.set i z3,K:=if T=An then q5c e.K c.idle [f.conn,t.conn]else e.K} (Row qf 127 (qs pl sbf f)::Row qt 127 (qs pl sbt { t with due:=t.due||en})::qi 5 1 q inn.length m (inn.map qd)::qi 5 1 J o.length L (o.map qd)::F)) w,za (λQ=>?_) λQ=>?_,λw a=>?_⟩
 .refine⟨StC W _,zd a,z7 (z7 (z7 ⟨_,zj 0 ir rfl rfl,_,zj 12 ir rfl rfl,_,zj 13 ir rfl rfl,λb=>?_⟩))⟩;refine Ef.alarm [f.conn,t.conn] (by simp) ir ⟨rfl,trivial,λG w h=>?_⟩;dsimp only;rw[yB Q];exact zb h
 .dsimp only;rw[yA (by rw[Q];simp)];exact a
 .exact za (λh=>⟨by rw[h];rfl,(a.del 14 rfl).del 14 rfl⟩) λh=>za (λr=>⟨by rw[h,r];rfl,(a.del 14 rfl).del 14 rfl⟩) λr=>⟨by rw[h,r];rfl,(a.del 14 rfl).del 14 rfl⟩
end
end
section
section
variable{κ δ:Type}[DecidableEq κ]{P:Program}{kt et mt:TypeId}{enc:κ->Value}{m b b2:Nat}{A:Nat->δ->Asn}{L:List (κ×δ)}{k j:κ}{W w:World}{F l:List Asn}
def qe4(enc:κ->Aj)(m:Nat)(A:Nat->δ->Asn)(L:List (κ×δ))(k:κ)(b:Nat)(j:κ)(b2:Nat):Asn:=exA λbs:List (κ×Nat×δ)=>qz [prA (qx (Ah (α:=Nat) (β:=δ)) bs=L/\(∃d,qe bs k=A0 (b,d))/\∃d,qe bs j=A0 (b2,d)),qg enc qc m (qx (A4 (α:=Nat) (β:=δ)) bs),qz ((qp (qp bs k) j).map λy=>A y.2.1 y.2.2)]
def qgn{α:Type}(L:List (κ×α)){j k:κ}(h:j≠k):qe (qp L k) j=qe L j:=by
 induction L with
 |nil=>rfl
 |cons x r b=>
  by_cases a:x.1=k
  .have w:¬x.1=j:=λe=>h (e ▸ a);simp only[qp,yB a,qe,yA w]
  .by_cases w:x.1=j;.simp only[qp,yA a,qe,yB w]
   .simp only[qp,yA a,qe,yA w,b]
def qw.take{d:δ}(c:j≠k)(f:qe L j=A0 d)(h:St W (qw enc m A L k b::F) w):∃b2,St W (A b2 d::qe4 enc m A L k b j b2::F) w:=by
 obtain⟨bs,⟨p,d0,n⟩,q⟩:=qw.open_ h;subst p;rw[q62]at f;obtain⟨⟨b2,e⟩,a,rfl⟩:=Option.map_eq_some_iff.1 f;refine⟨b2,?_⟩;have i:qe (qp bs k) j=A0 (b2,e):=by rw[qgn _ c];exact a
 have g:=qf5 ((Go.Proofs.YtfjifcfbmhpcaaaGreatDoor.aget_perm i).map λy:κ×Nat×δ=>A y.2.1 y.2.2) q.p1;have o:St W (qg enc qc m (qx (A4 (α:=Nat) (β:=δ)) bs)::qz ((qp (qp bs k) j).map λy=>A y.2.1 y.2.2)::A b2 e::F) w:=zf 1 2 (zf 2 0 g rfl) rfl;exact(z01 bs (zk (l:=[_,_,_]) (z02 ⟨rfl,⟨d0,n⟩,e,a⟩ o))).p1
def qe4.give{d:δ}(a:j≠k)(h:St W (A b2 d::qe4 enc m A L k b j b2::F) w):St W (qw enc m A (qk L j d) k b::F) w:=by
 obtain⟨bs,f⟩:=h.p1.of_ex;obtain⟨⟨o,⟨d0,i⟩,p,c⟩,g⟩:=f.of_sep.of_pr;clear h f;subst o;have h:St W (qg enc qc m (qx (A4 (α:=Nat) (β:=δ)) bs)::qz ((qp (qp bs k) j).map λy=>A y.2.1 y.2.2)::A b2 d::F) w:=g;refine qw.shut (qk bs j (b2,d)) ⟨(qt2 (Ah (α:=Nat) (β:=δ)) bs j (b2,d)).symm,d0,by rw[qh2,yA a];exact i⟩ ?_;have e:qx (A4 (α:=Nat) (β:=δ)) (qk bs j (b2,d))=qx (A4 (α:=Nat) (β:=δ)) bs:=by rw[<-qt2];exact qt1 (by rw[q62,c];rfl)
 rw[e,q4f _ a];have n:St W (A b2 d::qz ((qp (qp bs k) j).map λy=>A y.2.1 y.2.2)::qg enc qc m (qx (A4 (α:=Nat) (β:=δ)) bs)::F) w:=zf 1 2 (zf 2 0 h rfl) rfl;refine(q95 (l:=(qk (qp bs k) j (b2,d)).map λy=>A y.2.1 y.2.2) ?_ n).p1;have:=(Go.Proofs.YtfjifcfbmhpcaaaGreatDoor.aget_perm (qj1 (qp bs k) j (b2,d))).map λy:κ×Nat×δ=>A y.2.1 y.2.2;rw[adel_aset]at this;exact this.symm
def qe4.one_i(f:qw2 P kt enc)(g:P.underlying mt=A0 (.map kt et)){a:TypeInfo}(p:P.info? et=A0 a)(e:a.zero=A0 (Zq Aa)){K:Aj->Af->Prop}(n:Nat)(d:St W l w)(q:nth l n=A0 (qe4 enc m A L k b j b2))
 (i:K (qc b) w):Run P (Instr.lookup mt (.map (A0 m)) (enc k) A5) w K:=by
 obtain⟨bs,h⟩:=(d.at n q).of_ex;obtain⟨⟨r,⟨d0,o⟩,s,c⟩,h⟩:=h.of_sep.of_pr;refine qq1 f g p e 0 h rfl k A5 ?_;rw[q62,o];exact i
def qe4.two_i(f:qw2 P kt enc)(g:P.underlying mt=A0 (.map kt et)){a:TypeInfo}(o:P.info? et=A0 a)(e:a.zero=A0 (Zq Aa)){K:Aj->Af->Prop}(n:Nat)(d:St W l w)(p:nth l n=A0 (qe4 enc m A L k b j b2))
 (i:K (qc b2) w):Run P (Instr.lookup mt (.map (A0 m)) (enc j) A5) w K:=by
 obtain⟨bs,h⟩:=(d.at n p).of_ex;obtain⟨⟨r,⟨d0,q⟩,s,c⟩,h⟩:=h.of_sep.of_pr;refine qq1 f g o e 0 h rfl j A5 ?_;rw[q62,c];exact i
end
section
variable{W w:World}{F l:List Asn}{ro:Asn}{c:qy}{x m2 q:Nat}{p:qm3}{pl:List Nat}{sn sb:Option Nat}{s s':Bk}{id:Int}{r:q31}{res:Bool}
def q0s(a:St W (qy1 ro c x p pl (A0 m2) s (Row q 127 (qs pl sb r)::F)) w):
 qb Zp 84 #[qc x,qc q] w λv w'=>v=Zb (decide (((s.N.ask r.conn [] Cn.rFlush).length:Int)>0)||s.flushE r)/\St W (qy1 ro c x p pl (A0 m2) (s.flushS r (s.flushE r)) (Row q 127 (qs pl sb (Bk.flushR r (s.flushE r)))::F)) w':=by
 have d:=TabA.keys (zf 7 0 a rfl);obtain⟨c1,o,l⟩:=(qs2.cr 10 a rfl).flush d r.conn;refine F84_of ⟨StC W _,zd a,z7 (z7 ⟨_,zq 0 ir rfl rfl,_,zj 12 ir rfl rfl,?_⟩)⟩;refine Ef.sl 7 ir rfl (λG w h=>Cn.Flush_spec (id:=r.conn) h) (λ_ _ _ _ h=>⟨_,_,_,rfl,h⟩) λi f=>⟨_,_,_,rfl,trivial,λG w h=>?_⟩;have a:=z11 10 (z12 13 (zb h)) rfl (z1g λ_=>c1);clear h;unfold Bk.flushS;have a:St W (qy1 ro c x p pl (A0 m2) (s.upd r.conn Cn.gFlush) (Row q 127 (qs pl sb r)::qi 5 1 i (s.N.ask r.conn [] Cn.rFlush).length f ((s.N.ask r.conn [] Cn.rFlush).map qd)::F)) w:=a;obtain⟨en,b⟩:∃en,en=s.flushE r:=⟨_,rfl⟩;rw[<-b];refine⟨λvs w=>vs=[Zb en]/\St W (qy1 ro c x p pl (A0 m2) (s.upd r.conn Cn.gFlush) (Row q 127 (qs pl sb r)::qi 5 1 i (s.N.ask r.conn [] Cn.rFlush).length f ((s.N.ask r.conn [] Cn.rFlush).map qd)::F)) w,?_,λe w k=>?_⟩
 .refine⟨StC W _,zd a,z7 ⟨_,z0s 12 ir rfl rfl,za (λg=>z7 (z7 ⟨_,zq 0 ir rfl rfl,_,zj 12 ir rfl rfl,?_⟩)) λg=>λG w h=>?_⟩⟩
  .refine z05 7 ir rfl (λG w h=>Cn.Waits_spec (id:=r.conn) h) (λ_ _ h=>⟨_,rfl,h⟩) ⟨_,rfl,trivial,λG w h=>⟨?_,zb h⟩⟩;rw[b];unfold Bk.flushE;rw[g];rfl
  .refine⟨?_,zb h⟩;rw[b];unfold Bk.flushE;rw[g];rfl
 clear a;obtain⟨n,a⟩:=k;cases n;clear b;refine⟨λ_ w=>St W (qy1 ro c x p pl (A0 m2) (s.upd r.conn Cn.gFlush) (Row q 127 (qs pl sb (Bk.flushR r en))::qi 5 1 i (s.N.ask r.conn [] Cn.rFlush).length f ((s.N.ask r.conn [] Cn.rFlush).map qd)::F)) w,?_,λw a=>?_⟩
 .refine za (λh=>z7 (St1.zz 12 a rfl λw a=>z7 (St1.zz 12 a rfl λw a=>?_))) λh=>?_
  .dsimp only;unfold Bk.flushR;rw[yB h];exact a
  .dsimp only;unfold Bk.flushR;rw[yA (by rw[h];simp)];exact a
 have m:(Bk.flushR r en).conn=r.conn:=by unfold Bk.flushR;split<;>rfl
 refine z7 (z8 12 a rfl (rv0 m) ?_);refine(qkk (s:=s.upd r.conn Cn.gFlush) ((z0i _).cons _) o (l en A5) a).of λv w ⟨j,a⟩=>⟨j,za (λh=>⟨by rw[h];rfl,a.del 13 rfl⟩) λh=>⟨by rw[h];rfl,a.del 13 rfl⟩⟩
end
end
section
def qvh{c:qy}{s s':Bk}{f t w:q31}{a:Bool}(h:s.relay c f t=A0 (s',w,a)):s'.roles=s.roles/\w.pump=t.pump/\w.sh=t.sh/\w.said=t.said:=by
 unfold Bk.relay at h;split at h;.cases h
 .split at h;.cases h
  .simp only[Ai,Bk.relayA,Bk.relayB,Bk.relayC,Bk.relayD,Bk.relayE,Prod.mk.injEq]at h;obtain⟨rfl,rfl,_⟩:=h;exact⟨rfl,rfl,rfl,rfl⟩
def qxn(r:q31)(en:Bool):(Bk.flushR r en).pump=r.pump/\(Bk.flushR r en).sh=r.sh:=by unfold Bk.flushR;split<;>exact⟨rfl,rfl⟩
section
variable{W w:World}{F l:List Asn}{c:qy}{x m2 q q2:Nat}{p:qm3}{pl:List Nat}{sn sb sb2:Option Nat}{s s':Bk}{id j:Int}{d d2:q31}{res:Bool}
def brk.take2(a:j≠id)(f:qe s.roles id=A0 d)(e:qe s.roles j=A0 d2)(h:St W (brk c x p pl sn s F) w):∃q q2 sb sb2,(∀i,d.pump=A0 i->i<pl.length)/\(∀i,d2.pump=A0 i->i<pl.length)/\
 St W (qy1 (qe4 (Zi Zk) p.m (qo2 p.v pl) s.roles id q j q2) c x p pl sn s (Row q 127 (qs pl sb d)::Row q2 127 (qs pl sb2 d2)::q02 p.v sb d.sh::q02 p.v sb2 d2.sh::F)) w:=by
 obtain⟨q,k⟩:=z15 f (zf 9 0 h rfl);obtain⟨q2,m⟩:=qw.take a e k.p1;obtain⟨sb2,b,l⟩:=qo2.open_ m;obtain⟨sb,n,g⟩:=qo2.open_ (zf 3 0 l rfl);exact⟨q,q2,sb,sb2,n,b,zo 16 [5,6,7,8,9,10,11,12,13,4,14,15,0,2,1,3] g rfl⟩
def brk.give2{L:List (Int×q31)}(a:j≠id)(g:∀i,d.pump=A0 i->i<pl.length)(b:∀i,d2.pump=A0 i->i<pl.length)(k:s.roles=L)
 (h:St W (qy1 (qe4 (Zi Zk) p.m (qo2 p.v pl) L id q j q2) c x p pl sn s (Row q 127 (qs pl sb d)::Row q2 127 (qs pl sb2 d2)::q02 p.v sb d.sh::q02 p.v sb2 d2.sh::F)) w):St W (brk c x p pl sn ((s.put j d2).put id d) F) w:=by
 subst k;have e:=qo2.shut sb g (zo 16 [12,14,13,15,9,0,1,2,3,4,5,6,7,8,10,11] h rfl);have f:=qe4.give a (qo2.shut sb2 b (zf 0 3 e rfl));exact zf 0 9 (z0n f.p1) rfl
set_option maxHeartbeats 2000000 in
def round_spec(l:s.round c=A0 (s',res))(d:St W (brk c x p pl (A0 m2) s F) w):qb Zp 46 #[qc x] w λv w'=>v=Zb res/\St W (brk c x p pl (A0 m2) s' F) w':=by
 unfold Bk.round at l;by_cases L:1000000<s.P.ends.length;.rw[yB L]at l;cases l
 rw[yA L]at l;cases g:qw1 (Bk.relays c) (s,A5) (qtc s.P)with
 |none=>rw[g]at l;cases l
 |some st1=>
 rw[g]at l;dsimp only at l;by_cases Y:1000000<st1.1.N.L.length;.rw[yB Y]at l;cases l
 rw[yA Y]at l;cases i:qw1 Bk.flushes st1 st1.1.ids with
 |none=>rw[i]at l;cases l
 |some st2=>
 rw[i]at l;dsimp only at l;refine F46_of (z7 (z0r 0 d rfl rfl ((qfk (by omega) (d.at 6 rfl)).of λv w ⟨E,D,o,d⟩=>⟨_,_,_,o,?_⟩)));have d:St W (brk c x p pl (A0 m2) s (SlA 122 2 (q52 (qb4 s.P)) E D (qw4 s.P)::F)) w:=z12 12 (zf 1 7 d rfl);have Z:(qw4 s.P).length<=1000000:=by unfold qw4;rw[(qv1 leI _).length_eq,Ak];exact Aq (List.length_filter_le _ _) (by omega)
 unfold qtc at g l;generalize qw4 s.P=vis at d Z g l⊢;generalize qb4 s.P=oth at d g l;refine qt3 (λn vs w=>∃(k:Nat) (st:Bk×Bool),k+n=vis.length/\vs=[Zb st.2,Zi Zk (k:Int)]/\qw1 (Bk.relays c) st ((vis.drop k).map λv=>(v,oth v))=A0 st1/\St W (brk c x p pl (A0 m2) st.1 (SlA 122 2 (q52 oth) E D vis::F)) w) λμ I T=>⟨⟨vis.length,0,(s,A5),by omega,rfl,g,d⟩,λa0 j w Q=>?_⟩;clear d g;obtain⟨k,st,X,L,g,d⟩:=T _ _ Q;generalize μ _ _=n at X⊢;cases L;refine za (λh=>?_) λh=>?_
 .have m:k<vis.length:=by have:=yC h;omega
  have N:=A3 m;rw[A7 m,Ao]at g;generalize vis[k]=y at g N;unfold qw1 at g;cases hr:Bk.relays c st (y,oth y)with
  |none=>rw[hr]at g;cases g
  |some A=>
  rw[hr]at g;dsimp only at g;unfold Bk.relays at hr;dsimp only at hr;by_cases u:y=oth y;.rw[yB u]at hr;cases hr
  rw[yA u]at hr;cases o:qe st.1.roles y with
  |none=>rw[o]at hr;cases hr
  |some rv=>
  cases z:qe st.1.roles (oth y)with
  |none=>rw[o,z]at hr;cases hr
  |some rk=>
  rw[o,z]at hr;dsimp only at hr;cases hr1:st.1.relay c rv rk with
  |none=>rw[hr1]at hr;cases hr
  |some t1=>
  obtain⟨s2,R,a⟩:=t1;rw[hr1]at hr;dsimp only at hr;cases hr2:s2.relay c R rv with
  |none=>rw[hr2]at hr;cases hr
  |some t2=>
  obtain⟨s3,h0,b⟩:=t2;rw[hr2]at hr;dsimp only at hr;have f:=A1 hr;clear hr;obtain⟨k1,k2,k3,_⟩:=qvh hr1;obtain⟨k4,k5,k6,_⟩:=qvh hr2;obtain⟨q,q2,sb,sb2,P,O,d⟩:=brk.take2 (Ne.symm u) o z d;refine z0j (qc9 oth) (by decide) (z07 16 rfl λF=>z0l F) d rfl m N λad M=>zy (M 0 _ rfl) (zy (M 1 _ rfl) (z09 16 d λJ w d=>St1.zz 16 d rfl λw d=>St1.zz 16 d rfl λw d=>?_));refine⟨StC W _,zd d,z7 (z7 ⟨_,z0b 0 ir rfl rfl,_,zj 16 ir rfl rfl,A0 ⟨q,0,Aa⟩,(λG w B=>qe4.one_i kI uMr iPr zPr 9 B rfl ⟨_,rfl,rfl,B⟩),_,z0b 0 ir rfl rfl,_,zj 16 ir rfl rfl,A0 ⟨q2,0,Aa⟩,(λG w B=>qe4.two_i kI uMr iPr zPr 9 B rfl ⟨_,rfl,rfl,B⟩),λG w h=>?_⟩)⟩;have d:St W (qy1 (qe4 (Zi Zk) p.m (qo2 p.v pl) st.1.roles y q (oth y) q2) c x p pl (A0 m2) st.1 (Row q 127 (qs pl sb rv)::Row q2 127 (qs pl sb2 rk)::q02 p.v sb rv.sh::q02 p.v sb2 rk.sh::Row J 122 [Zi Zk y,Zi Zk (oth y)]::SlA 122 2 (q52 oth) E D vis::F)) w:=zb h;refine⟨λvs w=>vs=[Zb (a||st.2)]/\St W (qy1 (qe4 (Zi Zk) p.m (qo2 p.v pl) st.1.roles y q (oth y) q2) c x p pl (A0 m2) s2 (Row q 127 (qs pl sb rv)::Row q2 127 (qs pl sb2 R)::q02 p.v sb rv.sh::q02 p.v sb2 rk.sh::Row J 122 [Zi Zk y,Zi Zk (oth y)]::SlA 122 2 (q52 oth) E D vis::F)) w,?_,λa1 w hJ=>?_⟩;.exact(qoh O hr1 d).of λv w ⟨o,d⟩=>⟨_,o,za (λh=>⟨by rw[h];rfl,d⟩) λh=>⟨by rw[h];rfl,d⟩⟩
  clear d h;obtain⟨L,d⟩:=hJ;cases L;refine(qoh P hr2 (zf 12 13 d rfl)).of λv w ⟨o,d⟩=>⟨_,o,?_⟩;have d:St W (qy1 (qe4 (Zi Zk) p.m (qo2 p.v pl) st.1.roles y q (oth y) q2) c x p pl (A0 m2) s3 (Row q 127 (qs pl sb h0)::Row q2 127 (qs pl sb2 R)::q02 p.v sb rv.sh::q02 p.v sb2 rk.sh::SlA 122 2 (q52 oth) E D vis::F)) w:=(zf 13 12 d rfl |> λh=>z04 16 h rfl);rw[<-k6,<-k3]at d;have d:=brk.give2 (Ne.symm u) (by rw[k5];exact P) (by rw[k2];exact O) (k4.trans k1) d;have e:∃(H:Nat) (t:Bk×Bool),H+(n - 1)=vis.length/\[Zb (b||(a||st.2)),Zi Zk (Zw Zk ((k:Int)+1))]=[Zb t.2,Zi Zk (H:Int)]/\qw1 (Bk.relays c) t ((vis.drop H).map λv=>(v,oth v))=A0 st1/\St W (brk c x p pl (A0 m2) t.1 (SlA 122 2 (q52 oth) E D vis::F)) w:=⟨k+1,A,by omega,by rw[up m (by omega),<-f],g,by rw[<-f];exact d⟩;exact za (λh=>⟨⟨_,by rw[h]at e;exact e⟩,A2 (I _ _ _ (by rw[h]at e;exact e)) (by omega)⟩) λh=>⟨⟨_,by rw[h]at e;exact e⟩,A2 (I _ _ _ (by rw[h]at e;exact e)) (by omega)⟩
 have K:k=vis.length:=by have:=yD h;omega
 rw[K,Ac]at g;have f:st=st1:=A1 g;subst f;clear g h I T Q;refine z7 (z0r 0 d rfl rfl ((Cn.All_spec (by omega) (d.at 7 rfl)).of λv w ⟨V,U,o,d⟩=>⟨_,_,_,o,?_⟩));have h3:st.1.ids.length=st.1.N.L.length:=by unfold Bk.ids;rw[(qv1 leI _).length_eq,Ak]
 rw[<-h3]at d Y⊢;have d:St W (brk c x p pl (A0 m2) st.1 (qi 3 1 V st.1.ids.length U (st.1.ids.map (Zi Zk))::SlA 122 2 (q52 oth) E D vis::F)) w:=z12 12 (zf 1 8 d rfl);generalize st.1.ids=ids at d i Y⊢;refine qt3 (λn vs w=>∃(k:Nat) (st:Bk×Bool),k+n=ids.length/\vs=[Zb st.2,Zi Zk (k:Int)]/\qw1 Bk.flushes st (ids.drop k)=A0 st2/\St W (brk c x p pl (A0 m2) st.1 (qi 3 1 V ids.length U (ids.map (Zi Zk))::SlA 122 2 (q52 oth) E D vis::F)) w) λμ I T=>⟨⟨ids.length,0,st,by omega,rfl,i,d⟩,λa0 j w Q=>?_⟩;clear d i;obtain⟨k,st,X,L,i,d⟩:=T _ _ Q;generalize μ _ _=n at X⊢;cases L;refine za (λh=>?_) λh=>?_
 .have m:k<ids.length:=by have:=yC h;omega
  have N:=A3 m;rw[A7 m]at i;generalize ids[k]=y at i N;unfold qw1 at i;cases hr:Bk.flushes st y with
  |none=>rw[hr]at i;cases i
  |some A=>
  rw[hr]at i;dsimp only at i;unfold Bk.flushes Bk.flush at hr;cases o:qe st.1.roles y with
  |none=>rw[o]at hr;cases hr
  |some r=>
  rw[o]at hr;have f:=A1 hr;clear hr;obtain⟨kp,ks⟩:=qxn r (st.1.flushE r);obtain⟨q,sb,P,d⟩:=brk.open_ o d;refine z0f (z07 14 rfl λF=>z0i F) d rfl m (v:=Zi Zk y) (by rw[List.getElem?_map,N];rfl) λad M=>zy M (z7 (zv 0 d rfl rfl (z0h kI uMr iPr zPr 9 d rfl A5 ?_)));rw[yA (by simp)];refine⟨_,rfl,(q0s d).of λv w ⟨o,d⟩=>⟨_,o,?_⟩⟩;rw[<-ks]at d;have d:=brk.set (s:=st.1.flushS r (st.1.flushE r)) (by rw[kp];exact P) d;have e:∃(H:Nat) (t:Bk×Bool),H+(n - 1)=ids.length/\[Zb ((decide (((st.1.N.ask r.conn [] Cn.rFlush).length:Int)>0)||st.1.flushE r)||st.2),Zi Zk (Zw Zk ((k:Int)+1))]=[Zb t.2,Zi Zk (H:Int)]/\qw1 Bk.flushes t (ids.drop H)=A0 st2/\St W (brk c x p pl (A0 m2) t.1 (qi 3 1 V ids.length U (ids.map (Zi Zk))::SlA 122 2 (q52 oth) E D vis::F)) w:=⟨k+1,A,by omega,by rw[up m (by omega),<-f],i,by rw[<-f];exact d⟩;generalize (decide (((st.1.N.ask r.conn [] Cn.rFlush).length:Int)>0)||st.1.flushE r)=b at e⊢;exact za (λh=>⟨⟨_,by rw[h]at e;exact e⟩,A2 (I _ _ _ (by rw[h]at e;exact e)) (by omega)⟩) λh=>⟨⟨_,by rw[h]at e;exact e⟩,A2 (I _ _ _ (by rw[h]at e;exact e)) (by omega)⟩
 have K:k=ids.length:=by have:=yD h;omega
 rw[K,Ac]at i;have f:st=st2:=A1 i;subst f;clear i h I T Q;have d:=d.del 12 rfl;refine qt3 (λn vs w=>∃(k:Nat) (st:Bk×Bool),k+n=vis.length/\vs=[Zb st.2,Zi Zk (k:Int)]/\qw1 Bk.ends st ((vis.drop k).map λv=>(v,oth v))=A0 (s',res)/\St W (brk c x p pl (A0 m2) st.1 (SlA 122 2 (q52 oth) E D vis::F)) w) λμ I T=>⟨⟨vis.length,0,st,by omega,rfl,l,d⟩,λa0 j w Q=>?_⟩;clear d l;obtain⟨k,st,X,L,l,d⟩:=T _ _ Q;generalize μ _ _=n at X⊢;cases L;refine za (λh=>?_) λh=>?_
 .have m:k<vis.length:=by have:=yC h;omega
  have N:=A3 m;rw[A7 m,Ao]at l;generalize vis[k]=y at l N;unfold qw1 at l;cases hr:Bk.ends st (y,oth y)with
  |none=>rw[hr]at l;cases l
  |some A=>
  rw[hr]at l;dsimp only at l;unfold Bk.ends at hr;dsimp only at hr;by_cases u:y=oth y;.rw[yB u]at hr;cases hr
  rw[yA u]at hr;cases o:qe st.1.roles y with
  |none=>rw[o]at hr;cases hr
  |some rv=>
  rw[o]at hr;dsimp only at hr;have back:∀(w:Af),St W (brk c x p pl (A0 m2) A.1 (SlA 122 2 (q52 oth) E D vis::F)) w->∃(H:Nat) (t:Bk×Bool),H+(n - 1)=vis.length/\[Zb A.2,Zi Zk (Zw Zk ((k:Int)+1))]=[Zb t.2,Zi Zk (H:Int)]/\qw1 Bk.ends t ((vis.drop H).map λv=>(v,oth v))=A0 (s',res)/\St W (brk c x p pl (A0 m2) t.1 (SlA 122 2 (q52 oth) E D vis::F)) w:=λw d=>⟨k+1,A,by omega,by rw[up m (by omega)],l,d⟩;by_cases C:rv.said=A5
  .rw[yB C]at hr;have f:=A1 hr;obtain⟨q,sb,P,d⟩:=brk.open_ o d;refine z0j (qc9 oth) (by decide) (z07 14 rfl λF=>z0l F) d rfl m N λad M=>zy (M 0 _ rfl) (zy (M 1 _ rfl) (z09 14 d λJ w d=>St1.zz 14 d rfl λw d=>St1.zz 14 d rfl λw d=>?_));refine⟨StC W _,zd d,z7 ⟨_,z0b 0 ir rfl rfl,_,zj 14 ir rfl rfl,A0 ⟨q,0,Aa⟩,(λG w B=>z0h kI uMr iPr zPr 9 B rfl A5 (by rw[yA (by simp)];exact⟨_,rfl,rfl,B⟩)),z7 ⟨_,z0s 12 ir rfl rfl,zl C λG w h=>?_⟩⟩⟩;have d:=(z08 P o (z04 14 (zb h) rfl));have e:=back w (by rw[<-f];exact d);rw[<-f]at e;exact⟨⟨_,e⟩,A2 (I _ _ _ e) (by omega)⟩
  have C:rv.said=An:=by simpa using C
  rw[yA (by rw[C];simp)]at hr;cases z:qe st.1.roles (oth y)with
  |none=>rw[z]at hr;cases hr
  |some rk=>
  rw[z]at hr;dsimp only at hr;obtain⟨q,q2,sb,sb2,P,O,d⟩:=brk.take2 (Ne.symm u) o z d;refine z0j (qc9 oth) (by decide) (z07 16 rfl λF=>z0l F) d rfl m N λad M=>zy (M 0 _ rfl) (zy (M 1 _ rfl) (z09 16 d λJ w d=>St1.zz 16 d rfl λw d=>St1.zz 16 d rfl λw d=>?_));refine⟨StC W _,zd d,z7 ⟨_,z0b 0 ir rfl rfl,_,zj 16 ir rfl rfl,A0 ⟨q,0,Aa⟩,(λG w B=>qe4.one_i kI uMr iPr zPr 9 B rfl ⟨_,rfl,rfl,B⟩),z7 ⟨_,z0s 12 ir rfl rfl,zm C (z7 ⟨_,z0b 0 ir rfl rfl,_,zj 16 ir rfl rfl,A0 ⟨q2,0,Aa⟩,(λG w B=>qe4.two_i kI uMr iPr zPr 9 B rfl ⟨_,rfl,rfl,B⟩),z7 ⟨_,z0s 13 ir rfl rfl,λG w h=>?_⟩⟩)⟩⟩⟩;have d:St W (qy1 (qe4 (Zi Zk) p.m (qo2 p.v pl) st.1.roles y q (oth y) q2) c x p pl (A0 m2) st.1 (Row q 127 (qs pl sb rv)::Row q2 127 (qs pl sb2 rk)::q02 p.v sb rv.sh::q02 p.v sb2 rk.sh::Row J 122 [Zi Zk y,Zi Zk (oth y)]::SlA 122 2 (q52 oth) E D vis::F)) w:=zb h;have d:=brk.give2 (Ne.symm u) P O rfl d;rw[qah z,qah o]at d;refine za (λh=>?_) λh=>?_
  .rw[yB h]at hr;have f:=A1 hr;refine z8 12 d rfl rfl ((q9a d).of λv w ⟨o,d⟩=>⟨o,?_⟩);have e:=back w (by rw[<-f];exact d.del 12 rfl);rw[<-f]at e;exact⟨⟨_,e⟩,A2 (I _ _ _ e) (by omega)⟩
  .rw[yA (by rw[h];simp)]at hr;have f:=A1 hr;have e:=back w (by rw[<-f];exact d.del 12 rfl);rw[<-f]at e;exact⟨⟨_,e⟩,A2 (I _ _ _ e) (by omega)⟩
 have K:k=vis.length:=by have:=yD h;omega
 rw[K,Ac]at l;have f:=A1 l;subst f;exact⟨rfl,d.del 12 rfl⟩
end
end
end Go.Proofs.YtfjifcfbmhpcaaaGreatDoor
