/-
  A part of the proof of TopEvicted.
-/
import Derived.Test.YtfjifcfbmhpcaaaGreatDoorV30
import Derived.Test.YtfjifcfbmhpcaaaGreatDoorV00
set_option linter.defProp false
set_option linter.unusedVariables false
set_option linter.unusedSimpArgs false
namespace Go.Proofs.YtfjifcfbmhpcaaaGreatDoor
open Go
open Go.Proofs.Tryz renaming prog → Zp
open Go.IntKind renaming i64 → Zk, wrap → Zw
open Go.Value renaming int → Zi, string → Zs, slice → Zl, agg → Zg
open _root_.Nat renaming le_of_ble_eq_true->A0,le_refl->A1
section
def qez:ByteArray:=⟨#[97,110,110]⟩
def nbob:ByteArray:=⟨#[98,111,98]⟩
def nk:ByteArray:=⟨#[107]⟩
def qnw:ByteArray:=⟨#[119,101,98]⟩
def PP:qe1:=⟨qez,nk,⟨#[115]⟩,qnw,50,10⟩
def qy3(a b c d:Nat):qy:=⟨20,5,30,50,some ⟨d,0,none⟩,2,[⟨qez,2,3,none,0,[],some ⟨a,0,none⟩,1,[⟨nk,⟨#[115]⟩,1000⟩]⟩,⟨nbob,1,1,some ⟨b,0,none⟩,1,[(167772160,8)],some ⟨c,0,none⟩,1,[⟨nk,⟨#[116]⟩,40⟩]⟩]⟩
@[reducible] def qie (a b c d:Nat) (F:List Asn):List Asn:=Row d 112 ((qy3 a b c d).tens.flatMap q43)::Row c 114 (q44 ⟨nk,⟨#[116]⟩,40⟩)::Row b 132 (qje (167772160,8))::Row a 114 (q44 ⟨nk,⟨#[115]⟩,1000⟩)::F
def evk(k conn addr:Int)(b:ByteArray)(n:Int)(draw:ByteArray):EvD:=⟨k,conn,addr,b,n,e0,e0,draw⟩
def qsr:ByteArray:=⟨#[100,114,97,119]⟩
def qzu:ByteArray:=mkS (Fr.putP (q0d ⟨14,qnw,e0,0,0⟩))
def q16(c:qy)(n:Nat)(P:qe1)(v:Wd)(credit:Int):Option (Wd×Int):=
 match v.step c n P (evk 1 0 9 e0 0 e0)with
 |none=>none
 |some (w,h)=>match w.step c n P (evk 3 h.conn 0 e0 credit e0)with
  |none=>none
  |some (v2,_)=>if 1000000<v2.b.P.ends.length then none else match v2.step c n P (evk 2 h.conn 0 qzu 0 qsr)with
   |none=>none
   |some (v3,_)=>if 1000000<v3.b.P.ends.length then none else some (v3,if(qw4 v3.b.P).length≠(qw4 v2.b.P).length+1 then 0 else h.conn)
section
variable{W w:World}{F l:List Asn}{c:qy}{P:qe1}{x:Nat}{q:qb5}{rp:Option Addr}{rc n:Nat}{v v':Wd}
def q3n{a b c d:Nat}(e:qc4 F):ql1 (qie a b c d F) (qy3 a b c d) where
 tr:=z06 0 rfl λF=>z0m
 tl:=A1 _
 tb:=A0 rfl
 ok:=λt w=>by
  simp only[qy3,List.mem_cons,List.not_mem_nil,yK]at w;rcases w with rfl|rfl
  .exact⟨Rd.nil _ _,A1 _,A0 rfl,z06 3 rfl λF=>z0m,A1 _,A0 rfl,λy h=>by simp only[List.mem_singleton]at h;subst h;decide⟩
  .exact⟨z06 2 rfl λF=>z0m,A1 _,A0 rfl,z06 1 rfl λF=>z0m,A1 _,A0 rfl,λy h=>by simp only[List.mem_singleton]at h;subst h;decide⟩
 tab:=(((e.cons _).cons _).cons _).cons _
def qhv(h:St W F w):qb Zp 24 #[] w λr w'=>∃a b c d,r=Zg (qx3 (qy3 a b c d)).toArray/\St W (qie a b c d F) w':=by refine F24_of (zh h λe w h=>zh h λa w h=>zh h λb w h=>zh h λc w h=>zh h λd w h=>?_);refine St1.zz 4 h rfl λw h=>St1.zz 4 h rfl λw h=>St1.zz 4 h rfl λw h=>St1.zz 4 h rfl λw h=>St1.zz 4 h rfl λw h=>?_;exact z8 4 h rfl rfl (z8 4 h rfl rfl (z8 4 h rfl rfl (z8 4 h rfl rfl (zr 4 h rfl rfl ⟨a,b,c,d,rfl,h.del 4 rfl⟩))))
def qer(h:St W F w):qb Zp 25 #[] w λv w'=>v=Zg #[Zs PP.ten,Zs PP.tok,Zs PP.sec,Zs PP.nam,Zi Zk PP.ttl,Zi Zk PP.every]/\St W F w':=by refine F25_of (zh h λa w h=>St1.zz 0 h rfl λw h=>St1.zz 0 h rfl λw h=>St1.zz 0 h rfl λw h=>St1.zz 0 h rfl λw h=>St1.zz 0 h rfl λw h=>St1.zz 0 h rfl λw h=>?_);exact zg 0 h rfl rfl (zg 0 h rfl rfl (zg 0 h rfl rfl (zg 0 h rfl rfl (z8 0 h rfl rfl (z8 0 h rfl rfl ⟨rfl,h.drop⟩)))))
def qoo(m:qk1)(h:St W F w):qb Zp 27 #[ql2 m] w λv w'=>v=Zs (mkS (Fr.putP (q0d m)))/\St W F w':=by refine F27_of (zh h λb w h=>z8 0 h rfl rfl (zg 0 h rfl rfl (zg 0 h rfl rfl (z8 0 h rfl rfl (z8 0 h rfl rfl ((q1f m h).of λv w ⟨p,d,a,h⟩=>⟨_,_,_,a,(Fr.Put_spec (z0j _) rfl h).of λv w ⟨c,e,a,h⟩=>⟨_,_,_,a,?_⟩⟩))))));exact qbi uB uU8 uS h (z0j _) rfl ⟨_,rfl,rfl,h.drop.drop.drop⟩
def qdk{vf:Nat->Nat->Nat->Nat->Wd}(g:qc4 F)(f:∀a b c d,Wd.new (qy3 a b c d) n PP (Bk.new (qy3 a b c d))=some (vf a b c d))(h:St W F w):qb Zp 7 #[] w λr w'=>∃a b c d x q rp rc,r=qc x/\St W (wld [] (qy3 a b c d) PP x q rp rc (vf a b c d) (qie a b c d F)) w':=by refine F7_of ((qhv h).of λr w ⟨a,b,c,d,e,h⟩=>⟨_,_,_,_,_,_,_,e,(qer h).of λr w ⟨e,h⟩=>⟨_,_,_,_,_,_,e,?_⟩⟩);exact(qft (q3n g) (by kernel_rfl) (by unfold qv8;decide) (f a b c d) h).of λr w ⟨x,q,rp,rc,e,h⟩=>⟨_,e,a,b,c,d,x,q,rp,rc,rfl,h⟩
def qyj(P:qd6):(qw4 P).length<=P.ends.length:=by unfold qw4;rw[(qv1 leI _).length_eq,List.length_map];exact List.length_filter_le _ _
def qvu{id:Int}{s:ByteArray}{out:qra}(j:ql1 F c)(g:v.step c n P (evk 2 id 0 s 0 qsr)=some (v',out))(h:St W (wld [] c P x q rp rc v F) w):qb Zp 26 #[qc x,Zi Zk id,Zs s] w λr w'=>
 ∃f d e a b,r=Zg #[Zi Zk out.err,Zi Zk out.conn,Zi Zk out.took,Zl d out.sent.length e]/\St W (SlA 38 4 q21 d e out.sent::wld [] c P x f a b v' F) w':=by
 refine F26_of (z08 6 h λk w h=>(qy8 (j.cons _) ⟨by show(-9223372036854775808:Int)<=0;decide,by show(0:Int)<=9223372036854775807;decide⟩ g h).of λr w ⟨f,d,e,a,b,i,h⟩=>⟨_,_,_,_,_,_,i,?_⟩);refine St1.zz 7 h rfl λw h=>St1.zz 7 h rfl λw h=>St1.zz 7 h rfl λw h=>St1.zz 7 h rfl λw h=>?_;exact z8 7 h rfl rfl (z8 7 h rfl rfl (z8 7 h rfl rfl (zr 7 h rfl rfl ⟨f,d,e,a,b,rfl,h.del 7 rfl⟩)))
def qbb{credit id:Int}(J: -9223372036854775808<=credit/\credit<=9223372036854775807)(o:ql1 F c)(b:q16 c n P v credit=some (v',id))(a:St W (wld [] c P x q rp rc v F) w):qb Zp 8 #[qc x,Zi Zk credit] w λr w'=>
 r=Zi Zk id/\∃q rp rc,St W (wld [] c P x q rp rc v' F) w':=by
 unfold q16 at b;cases h1:v.step c n P (evk 1 0 9 e0 0 e0)with
 |none=>rw[h1]at b;cases b
 |some r1=>
 obtain⟨t,d⟩:=r1;rw[h1]at b;dsimp only at b;cases h2:t.step c n P (evk 3 d.conn 0 e0 credit e0)with
 |none=>rw[h2]at b;cases b
 |some r2=>
 obtain⟨v2,L⟩:=r2;rw[h2]at b;dsimp only at b;by_cases g:1000000<v2.b.P.ends.length;.rw[yB g]at b;cases b
 rw[yA g]at b;cases h3:v2.step c n P (evk 2 d.conn 0 qzu 0 qsr)with
 |none=>rw[h3]at b;cases b
 |some r3=>
 obtain⟨v3,i⟩:=r3;rw[h3]at b;dsimp only at b;by_cases f:1000000<v3.b.P.ends.length;.rw[yB f]at b;cases b
 rw[yA f]at b;cases b;have C: -9223372036854775808<=(0:Int)/\(0:Int)<=9223372036854775807:=⟨by decide,by decide⟩;refine F8_of ((qy8 o C h1 a).of λr w ⟨q,E,H,rp,rc,e,a⟩=>⟨_,_,_,_,_,_,e,?_⟩);refine z08 6 a.drop λm w a=>St1.zz 6 a rfl λw a=>St1.zz 6 a rfl λw a=>St1.zz 6 a rfl λw a=>St1.zz 6 a rfl λw a=>z8 6 a rfl rfl ?_;refine(qy8 (o.cons _) J h2 a).of λr w ⟨q,D,u,rp,rc,e,a⟩=>⟨_,_,_,_,_,_,e,?_⟩;refine(q3d (by omega) a.drop).of λr w ⟨p,a⟩=>⟨_,p,?_⟩;refine⟨StC W _,zd a,_,zi 6 ir rfl rfl,?_⟩;refine Ef.al ir (λG w h=>qoo ⟨14,qnw,e0,0,0⟩ h) (λ_ _ h=>⟨_,rfl,h⟩) ⟨_,rfl,zi 6 ir rfl rfl,?_⟩;refine zk (α:=(Option Addr×Nat)×(qb5×Option Addr×Nat)) (V:=λy=>Zg #[Zi Zk i.err,Zi Zk i.conn,Zi Zk i.took,.slice y.1.1 i.sent.length y.1.2]) (B:=λy=>wld [] c P x y.2.1 y.2.2.1 y.2.2.2 v' (Row m 32 [Zi Zk d.err,Zi Zk d.conn,Zi Zk d.took,Zl E d.sent.length H]::F)) ((none,0),(q,none,0)) ir (λG w h=>?_) λy=>⟨_,_,_,_,_,_,rfl,trivial,λG w h=>?_⟩
 .exact(qvu ((o.app (pts G)).cons _) h3 h).of λr w ⟨I,l,s,j,k,e,a⟩=>by subst e;exact⟨_,_,_,_,_,_,rfl,((l,s),(I,j,k)),rfl,a.drop⟩
 have a:=zb h;clear h;have K:=qyj v2.b.P;have A:=qyj v'.b.P;have z:Zw Zk (((qw4 v2.b.P).length:Nat)+1:Int)=((qw4 v2.b.P).length+1:Nat):=by rw[w64];omega
 refine(q3d (by omega) a).of λr w ⟨p,a⟩=>⟨_,p,?_⟩;rw[z];refine za (λh=>?_) λh=>?_
 .have h:¬(((qw4 v'.b.P).length:Nat):Int)=((qw4 v2.b.P).length+1:Nat):=by simpa using h
  rw[yB (by omega)];exact⟨rfl,y.2.1,y.2.2.1,y.2.2.2,a.del 6 rfl⟩
 .have h:(((qw4 v'.b.P).length:Nat):Int)=((qw4 v2.b.P).length+1:Nat):=by simpa using h
  rw[yA (by omega)];exact z8 6 a rfl rfl ⟨rfl,y.2.1,y.2.2.1,y.2.2.2,a.del 6 rfl⟩
end
end
end Go.Proofs.YtfjifcfbmhpcaaaGreatDoor
