/-
  A part of the proof of TopEcho.
-/
import Derived.Test.YtfjifcfbmhpcaaaGreatDoorE31
import Derived.Test.YtfjifcfbmhpcaaaGreatDoorE27
import Derived.Test.YtfjifcfbmhpcaaaGreatDoorE00
set_option linter.defProp false
set_option linter.unusedVariables false
set_option linter.unusedSimpArgs false
namespace Go.Proofs.YtfjifcfbmhpcaaaGreatDoor
open Go
open Go.Proofs.Tryz renaming prog → Zp
open Go.IntKind renaming i64 → Zk, wrap → Zw
open Go.Value renaming int → Zi, string → Zs, slice → Zl, agg → Zg
open _root_.Bool renaming and_eq_true->A0,not_eq_true'->A3,false->A5,true->A7
open _root_.Option renaming some->A1,none->A9
open _root_.Nat renaming le_of_ble_eq_true->A2,le_refl->A6
open _root_.List renaming isEmpty_iff->A4,all_eq_true->A8,mem_cons_of_mem->Aa,mem_cons->Ab,map_cons->Ac,mem_singleton->Ad,mem_filterMap->Ae,mem_cons_self->Af,mem_map->Ag,length_nil->Ah
section
def qez:ByteArray:=⟨#[97,110,110]⟩
def nbob:ByteArray:=⟨#[98,111,98]⟩
def nk:ByteArray:=⟨#[107]⟩
def qnw:ByteArray:=⟨#[119,101,98]⟩
def PP:qe1:=⟨qez,nk,⟨#[115]⟩,qnw,50,10⟩
def qy3(a b c d:Nat):qy:=⟨20,5,30,50,A1 ⟨d,0,A9⟩,2,[⟨qez,2,3,A9,0,[],A1 ⟨a,0,A9⟩,1,[⟨nk,⟨#[115]⟩,1000⟩]⟩,⟨nbob,1,1,A1 ⟨b,0,A9⟩,1,[(167772160,8)],A1 ⟨c,0,A9⟩,1,[⟨nk,⟨#[116]⟩,40⟩]⟩]⟩
@[reducible] def qie (a b c d:Nat) (F:List Asn):List Asn:=Row d 112 ((qy3 a b c d).tens.flatMap q43)::Row c 114 (q44 ⟨nk,⟨#[116]⟩,40⟩)::Row b 132 (qje (167772160,8))::Row a 114 (q44 ⟨nk,⟨#[115]⟩,1000⟩)::F
def evk(k conn addr:Int)(b:ByteArray)(n:Int)(draw:ByteArray):EvD:=⟨k,conn,addr,b,n,e0,e0,draw⟩
def qsr:ByteArray:=⟨#[100,114,97,119]⟩
def qzu:ByteArray:=mkS (Fr.putP (q0d ⟨14,qnw,e0,0,0⟩))
def q16(c:qy)(n:Nat)(P:qe1)(v:Wd)(credit:Int):Option (Wd×Int):=
 match v.step c n P (evk 1 0 9 e0 0 e0)with
 |none=>A9
 |some (w,h)=>match w.step c n P (evk 3 h.conn 0 e0 credit e0)with
  |none=>A9
  |some (v2,_)=>if 1000000<v2.b.P.ends.length then A9 else match v2.step c n P (evk 2 h.conn 0 qzu 0 qsr)with
   |none=>A9
   |some (v3,_)=>if 1000000<v3.b.P.ends.length then A9 else A1 (v3,if(qw4 v3.b.P).length≠(qw4 v2.b.P).length+1 then 0 else h.conn)
section
variable{W w:World}{F l:List Asn}{c:qy}{P:qe1}{x:Nat}{q:qb5}{rp:Option Addr}{rc n:Nat}{v v':Wd}
def q3n{a b c d:Nat}(e:qc4 F):ql1 (qie a b c d F) (qy3 a b c d) where
 tr:=z07 0 rfl λF=>z0k
 tl:=A6 _
 tb:=A2 rfl
 ok:=λt w=>by
  simp only[qy3,Ab,List.not_mem_nil,yK]at w;rcases w with rfl|rfl
  .exact⟨Rd.nil _ _,A6 _,A2 rfl,z07 3 rfl λF=>z0k,A6 _,A2 rfl,λy h=>by simp only[Ad]at h;subst h;decide⟩
  .exact⟨z07 2 rfl λF=>z0k,A6 _,A2 rfl,z07 1 rfl λF=>z0k,A6 _,A2 rfl,λy h=>by simp only[Ad]at h;subst h;decide⟩
 tab:=(((e.cons _).cons _).cons _).cons _
def qhv(h:St W F w):qb Zp 24 #[] w λr w'=>∃a b c d,r=Zg (qx3 (qy3 a b c d)).toArray/\St W (qie a b c d F) w':=by refine F24_of (zh h λe w h=>zh h λa w h=>zh h λb w h=>zh h λc w h=>zh h λd w h=>?_);refine St1.zz 4 h rfl λw h=>St1.zz 4 h rfl λw h=>St1.zz 4 h rfl λw h=>St1.zz 4 h rfl λw h=>St1.zz 4 h rfl λw h=>?_;exact z8 4 h rfl rfl (z8 4 h rfl rfl (z8 4 h rfl rfl (z8 4 h rfl rfl (zt 4 h rfl rfl ⟨a,b,c,d,rfl,h.del 4 rfl⟩))))
def qer(h:St W F w):qb Zp 25 #[] w λv w'=>v=Zg #[Zs PP.ten,Zs PP.tok,Zs PP.sec,Zs PP.nam,Zi Zk PP.ttl,Zi Zk PP.every]/\St W F w':=by refine F25_of (zh h λa w h=>St1.zz 0 h rfl λw h=>St1.zz 0 h rfl λw h=>St1.zz 0 h rfl λw h=>St1.zz 0 h rfl λw h=>St1.zz 0 h rfl λw h=>St1.zz 0 h rfl λw h=>?_);exact zg 0 h rfl rfl (zg 0 h rfl rfl (zg 0 h rfl rfl (zg 0 h rfl rfl (z8 0 h rfl rfl (z8 0 h rfl rfl ⟨rfl,h.drop⟩)))))
def qoo(m:qk1)(h:St W F w):qb Zp 27 #[ql2 m] w λv w'=>v=Zs (mkS (Fr.putP (q0d m)))/\St W F w':=by refine F27_of (zh h λe w h=>z8 0 h rfl rfl (zg 0 h rfl rfl (zg 0 h rfl rfl (z8 0 h rfl rfl (z8 0 h rfl rfl ((q1f m h).of λv w ⟨p,b,a,h⟩=>⟨_,_,_,a,(Fr.Put_spec (z0i _) rfl h).of λv w ⟨c,d,a,h⟩=>⟨_,_,_,a,?_⟩⟩))))));exact qbi uB uU8 uS h (z0i _) rfl ⟨_,rfl,rfl,h.drop.drop.drop⟩
def qdk{vf:Nat->Nat->Nat->Nat->Wd}(g:qc4 F)(f:∀a b c d,Wd.new (qy3 a b c d) n PP (Bk.new (qy3 a b c d))=A1 (vf a b c d))(h:St W F w):qb Zp 7 #[] w λr w'=>∃a b c d x q rp rc,r=qc x/\St W (wld [] (qy3 a b c d) PP x q rp rc (vf a b c d) (qie a b c d F)) w':=by refine F7_of ((qhv h).of λr w ⟨a,b,c,d,e,h⟩=>⟨_,_,_,_,_,_,_,e,(qer h).of λr w ⟨e,h⟩=>⟨_,_,_,_,_,_,e,?_⟩⟩);exact(qft (q3n g) (by kernel_rfl) (by unfold qv8;decide) (f a b c d) h).of λr w ⟨x,q,rp,rc,e,h⟩=>⟨_,e,a,b,c,d,x,q,rp,rc,rfl,h⟩
def qyj(P:qd6):(qw4 P).length<=P.ends.length:=by unfold qw4;rw[(qv1 leI _).length_eq,List.length_map];exact List.length_filter_le _ _
def qvu{id:Int}{s:ByteArray}{out:qra}(j:ql1 F c)(g:v.step c n P (evk 2 id 0 s 0 qsr)=A1 (v',out))(h:St W (wld [] c P x q rp rc v F) w):qb Zp 26 #[qc x,Zi Zk id,Zs s] w λr w'=>
 ∃f d e b a,r=Zg #[Zi Zk out.err,Zi Zk out.conn,Zi Zk out.took,Zl d out.sent.length e]/\St W (SlA 38 4 q21 d e out.sent::wld [] c P x f b a v' F) w':=by
 refine F26_of (z09 6 h λk w h=>(qy8 (j.cons _) ⟨by show(-9223372036854775808:Int)<=0;decide,by show(0:Int)<=9223372036854775807;decide⟩ g h).of λr w ⟨f,d,e,b,a,i,h⟩=>⟨_,_,_,_,_,_,i,?_⟩);refine St1.zz 7 h rfl λw h=>St1.zz 7 h rfl λw h=>St1.zz 7 h rfl λw h=>St1.zz 7 h rfl λw h=>?_;exact z8 7 h rfl rfl (z8 7 h rfl rfl (z8 7 h rfl rfl (zt 7 h rfl rfl ⟨f,d,e,b,a,rfl,h.del 7 rfl⟩)))
def qbb{credit id:Int}(A: -9223372036854775808<=credit/\credit<=9223372036854775807)(s:ql1 F c)(b:q16 c n P v credit=A1 (v',id))(a:St W (wld [] c P x q rp rc v F) w):qb Zp 8 #[qc x,Zi Zk credit] w λr w'=>
 r=Zi Zk id/\∃q rp rc,St W (wld [] c P x q rp rc v' F) w':=by
 unfold q16 at b;cases h1:v.step c n P (evk 1 0 9 e0 0 e0)with
 |none=>rw[h1]at b;cases b
 |some r1=>
 obtain⟨z,d⟩:=r1;rw[h1]at b;dsimp only at b;cases h2:z.step c n P (evk 3 d.conn 0 e0 credit e0)with
 |none=>rw[h2]at b;cases b
 |some r2=>
 obtain⟨v2,L⟩:=r2;rw[h2]at b;dsimp only at b;by_cases g:1000000<v2.b.P.ends.length;.rw[yB g]at b;cases b
 rw[yA g]at b;cases h3:v2.step c n P (evk 2 d.conn 0 qzu 0 qsr)with
 |none=>rw[h3]at b;cases b
 |some r3=>
 obtain⟨v3,i⟩:=r3;rw[h3]at b;dsimp only at b;by_cases f:1000000<v3.b.P.ends.length;.rw[yB f]at b;cases b
 rw[yA f]at b;cases b;have E: -9223372036854775808<=(0:Int)/\(0:Int)<=9223372036854775807:=⟨by decide,by decide⟩;refine F8_of ((qy8 s E h1 a).of λr w ⟨q,t,I,rp,rc,e,a⟩=>⟨_,_,_,_,_,_,e,?_⟩);refine z09 6 a.drop λm w a=>St1.zz 6 a rfl λw a=>St1.zz 6 a rfl λw a=>St1.zz 6 a rfl λw a=>St1.zz 6 a rfl λw a=>z8 6 a rfl rfl ?_;refine(qy8 (s.cons _) A h2 a).of λr w ⟨q,u,H,rp,rc,e,a⟩=>⟨_,_,_,_,_,_,e,?_⟩;refine(q3d (by omega) a.drop).of λr w ⟨k,a⟩=>⟨_,k,?_⟩;refine⟨StC W _,zd a,_,zj 6 ir rfl rfl,?_⟩;refine Ef.al ir (λG w h=>qoo ⟨14,qnw,e0,0,0⟩ h) (λ_ _ h=>⟨_,rfl,h⟩) ⟨_,rfl,zj 6 ir rfl rfl,?_⟩;refine zn (α:=(Option Addr×Nat)×(qb5×Option Addr×Nat)) (V:=λy=>Zg #[Zi Zk i.err,Zi Zk i.conn,Zi Zk i.took,.slice y.1.1 i.sent.length y.1.2]) (B:=λy=>wld [] c P x y.2.1 y.2.2.1 y.2.2.2 v' (Row m 32 [Zi Zk d.err,Zi Zk d.conn,Zi Zk d.took,Zl t d.sent.length I]::F)) ((A9,0),(q,A9,0)) ir (λG w h=>?_) λy=>⟨_,_,_,_,_,_,rfl,trivial,λG w h=>?_⟩
 .exact(qvu ((s.app (pts G)).cons _) h3 h).of λr w ⟨K,p,o,j,l,e,a⟩=>by subst e;exact⟨_,_,_,_,_,_,rfl,((p,o),(K,j,l)),rfl,a.drop⟩
 have a:=zb h;clear h;have J:=qyj v2.b.P;have D:=qyj v'.b.P;have C:Zw Zk (((qw4 v2.b.P).length:Nat)+1:Int)=((qw4 v2.b.P).length+1:Nat):=by rw[w64];omega
 refine(q3d (by omega) a).of λr w ⟨k,a⟩=>⟨_,k,?_⟩;rw[C];refine za (λh=>?_) λh=>?_
 .have h:¬(((qw4 v'.b.P).length:Nat):Int)=((qw4 v2.b.P).length+1:Nat):=by simpa using h
  rw[yB (by omega)];exact⟨rfl,y.2.1,y.2.2.1,y.2.2.2,a.del 6 rfl⟩
 .have h:(((qw4 v'.b.P).length:Nat):Int)=((qw4 v2.b.P).length+1:Nat):=by simpa using h
  rw[yA (by omega)];exact z8 6 a rfl rfl ⟨rfl,y.2.1,y.2.2.1,y.2.2.2,a.del 6 rfl⟩
end
end
section
structure qy6(L:List (Int×qn))(ps:List (Int×Int×Nat)):Prop where
 nk:(L.map (·.1)).Nodup
 nno:(L.map λy=>y.2.no).Nodup
 len:L.length<=1000000
 ran:∀y∈L,0<=y.2.no/\y.2.no<=1000000
 vis:∀y∈ps,qe L y.1=A9
 raw:∀y∈ps,∃l,qe L y.2.1=A1 l/\l.raw=A7/\l.conn=y.2.1/\l.came=[]
def qjd(l:qn):Prop:=l.raw=A7->l.back=[]/\l.en=A5
structure qyf(v:Wd)(ps:List (Int×Int×Nat))(C:Nat):Prop where
 b:q0b v.b ps
 cr:CrB v.b ps C
 L:qy6 v.lines ps
 q:∀k l,qe v.lines k=A1 l->qjd l
 row:v.row=[]
section
variable{c:qy}{P:qe1}{n:Nat}{v v':Wd}{ps:List (Int×Int×Nat)}{f t k:Int}{i:Nat}{X:List UInt8}{C:Nat}{L:List (Int×qn)}{l l':qn}
def q7n:∀{L:List (Int×qn)} {k:Int} {l l':qn},qe L k=A1 l->l'.no=l.no->(qk L k l').map (λy=>y.2.no)=L.map λy=>y.2.no
 |[],k,l,l',h,e=>by cases h
 |x::r,k,l,l',h,e=>by
  unfold qk;unfold qe at h;split
  .rename_i w;rw[yB w]at h;cases h;simp[e]
  .rename_i w;rw[yA w]at h;rw[Ac,Ac,q7n h e]
def qy6.set(h:qy6 L ps)(a:qe L k=A1 l)(f:l'.no=l.no)(m:l'.raw=l.raw)(j:l'.conn=l.conn)(i:l.came=[]->l'.came=[]):qy6 (qk L k l') ps where
 nk:=qr7 h.nk _ _
 nno:=by rw[q7n a f];exact h.nno
 len:=by rw[q4e,yA (by rw[a];simp)];exact h.len
 ran:=λy w=>by
  rcases qh8 w with rfl|w;.rw[f];exact h.ran _ (qg3 a)
  .exact h.ran _ w
 vis:=λy w=>by rw[qh2,yA (λe=>by have:=h.vis y w;rw[<-e,a]at this;cases this)];exact h.vis y w
 raw:=λy w=>by
  obtain⟨l0,b,d,g,c⟩:=h.raw y w;rw[qh2];split
  .rename_i e;rw[<-e,a]at b;cases b;exact⟨l',rfl,by rw[m];exact d,by rw[j];exact g,i c⟩
  .exact⟨l0,b,d,g,c⟩
def qjg(d:qe v.lines k=A1 l)(w:qjd l):v.answer c n k=A1 (v,A5):=by
 unfold Wd.answer;rw[d];simp only;by_cases h:l.raw=A5;.rw[yB h]
 .obtain⟨a,b⟩:=w (by simpa using h);rw[yA h,a,yA (by simp),b,yA (by simp)]
def qhl(h:qy6 v.lines ps)(w:k∈v.byNo):∃l,qe v.lines k=A1 l:=by unfold Wd.byNo at w;obtain⟨no,_,c⟩:=Ae.1 w;obtain⟨⟨d,l⟩,b,a⟩:=Option.map_eq_some_iff.1 c;cases a;exact⟨l,q24 h.nk (List.mem_of_find?_eq_some b)⟩
def q7p:∀{L:List (Int×qn)} {y:Int×qn},(L.map λy=>y.2.no).Nodup->y∈L->(L.find? λx=>decide (x.2.no=y.2.no))=A1 y
 |[],y,_,h=>by cases h
 |a::r,y,w,h=>by
  rw[Ac,List.nodup_cons]at w;rw[List.find?_cons];rcases Ab.1 h with rfl|h;.simp
  .have:a.2.no≠y.2.no:=λe=>w.1 (Ag.2 ⟨y,h,e.symm⟩);rw[yH this];exact q7p w.2 h
def qjw(h:qy6 v.lines ps)(a:qe v.lines k=A1 l):k∈v.byNo:=by unfold Wd.byNo;have w:=qg3 a;refine Ae.2 ⟨l.no,(qv1 leI _).mem_iff.2 (Ag.2 ⟨_,w,rfl⟩),?_⟩;unfold Wd.find;rw[q7p h.nno w];rfl
def qrj:∀(w:List Int),(∀k∈w,v.answer c n k=A1 (v,A5))->Wd.anyA c n v w=A1 (v,A5)
 |[],_=>rfl
 |a::r,h=>by unfold Wd.anyA;rw[h a Af];exact qrj r λk b=>h k (Aa _ b)
def qum(d:v.answer c n t=A1 (v',A7)):∀(w:List Int),t∈w->(∀k∈w,k≠t->v.answer c n k=A1 (v,A5))->Wd.anyA c n v w=A1 (v',A7)
 |[],b,_=>by cases b
 |a::r,b,h=>by
  unfold Wd.anyA;by_cases e:a=t;.rw[e,d];rfl
  .rw[h a Af e];exact qum d r ((Ab.1 b).resolve_left λg=>e g.symm) λk f=>h k (Aa _ f)
def q2p(h:qy6 v.lines ps):v.back c n=v.anyA c n v.byNo:=by
 unfold Wd.back;rw[yA (λw=>?_)];rcases w with w|w|w;.exact w h.nno
 .have:=h.len;omega
 .have:v.nos.all (λn=>decide (0<=n/\n<=1000000))=A7:=by rw[A8];intro z a;obtain⟨y,b,rfl⟩:=Ag.1 a;exact yG (h.ran y b)
  rw[this]at w;cases w
def q1v(h:qy6 v.lines ps)(b:∀k l,qe v.lines k=A1 l->qjd l):v.back c n=A1 (v,A5):=by rw[q2p h];exact qrj _ λk a=>by obtain⟨l,w⟩:=qhl h a;exact qjg w (b k l w)
def qgv(h:qy6 v.lines ps)(d:∀k l,qe v.lines k=A1 l->k≠t->qjd l)(w:qe v.lines t=A1 l)(e:v.answer c n t=A1 (v',A7)):v.back c n=A1 (v',A7):=by rw[q2p h];exact qum e _ (qjw h w) λk b a=>by obtain⟨l,w⟩:=qhl h b;exact qjg w (d k l w a)
def qtp(w:qe v.lines t=A1 l)(h:v.row=[]):qw1 Wd.takeS v (qs3 t X)=A1 { v with row:=qs3 t X}:=by
 unfold qs3;split
 .show A1 v=_;rw[<-h]
 .have:Wd.takeS v ⟨t,mkS X,A5,A5⟩=A1 { v with row:=[⟨t,mkS X,A5,A5⟩]}:=by unfold Wd.takeS;simp only;rw[w,yB (show(A1 l).isSome=A7 from rfl),h,yA (by simp)];rfl
  rw[qme,this];rfl
def qou(b:qe v.lines f=A9)(h:v.S=[])(c:X.length<=512):qw1 Wd.takeS v (qs3 f X)=A1 { v with S:=qp5 f X}:=by
 unfold qs3 qp5;split
 .show A1 v=_;rw[<-h]
 .have:Wd.takeS v ⟨f,mkS X,A5,A5⟩=A1 { v with S:=[(f,⟨f,mkS X,A5,A5⟩)]}:=by
   unfold Wd.takeS;simp only;rw[b,yA (by simp),h];have w:((qe ([]:List (Int×q81)) f).getD q93).b.size+(mkS X).size=X.length:=by rw[qf1];show(0:Nat)+_=_;omega
   rw[w,yA (by omega)];have a:((qe ([]:List (Int×q81)) f).getD q93).b++mkS X=mkS X:=q2b [] X;rw[a];rfl
  rw[qme,this];rfl
def qji(h:v.row=[])(m:Nat)(w:0<m):v.drain c n P m=A1 v:=by obtain⟨j,rfl⟩:∃j,m=j+1:=⟨m - 1,by omega⟩;unfold Wd.drain;rw[h]
def qll(h:qy6 v.lines ps)(b:∀k l,qe v.lines k=A1 l->qjd l)(w:v.row=[])(a:0<n)(m:Nat)(d:0<m):v.run c n P m=A1 v:=by obtain⟨j,rfl⟩:∃j,m=j+1:=⟨m - 1,by omega⟩;unfold Wd.run;rw[qji w n a];simp only;rw[q1v h b];simp only;rw[w,yA (by simp)]
def qlq{B:ByteArray}(h:qyf v ps C)(K:(f,t,i)∈ps)(hl:1024<=C)(hn:3<=n):
 ∃v',v.step c n P (evk 2 f 0 B 0 e0)=A1 (v',⟨0,0,((min B.size 512:Nat):Int),qs3 f ((qm B).take 512)⟩)/\qyf v' ps (C - 2*min B.size 512)/\v'.b.P=v.b.P:=by
 obtain⟨X,hX⟩:∃X,X=(qm B).take 512:=⟨_,rfl⟩;have U:(qm B).length=B.size:=by simp[qm]
 have s:X.length=min B.size 512:=by rw[hX,List.length_take,U,Nat.min_comm]
 have y:qe v.lines f=A9:=h.L.vis _ K;obtain⟨l,a,g,x,m⟩:=h.L.raw _ K;simp only at a x;have hq:=h.q t l a g;obtain⟨no,a2,a3,a4,a5,a6⟩:=l;obtain⟨H,F⟩:=hq;dsimp only at g x m H F;subst g m H F;obtain rfl:t=a2:=x.symm;obtain⟨q,e1,i1,c1,p1⟩:=qnj (c:=c) (e:=evk 2 f 0 B 0 e0) (bs:=B) (n:=n) h.b h.cr (.inl K) rfl rfl rfl (by omega) hn;rw[<-hX]at e1;have O:Wd.event c n { v with S:=[],draw:=e0} (evk 2 f 0 B 0 e0)=A1 ({ v with b:=q,S:=[],draw:=e0,row:=qs3 t X},⟨0,0,((min B.size 512:Nat):Int),qs3 t X⟩):=by unfold Wd.event;show(match Bk.step c n v.b (evk 2 f 0 B 0 e0)with|none=>A9|some (b,o)=>_)=_;rw[e1];simp only;rw[qtp (v:={ v with b:=q,S:=[],draw:=e0}) a h.row]
 have u:∀v2,Wd.run c n P n { v with b:=q,S:=[],draw:=e0,row:=qs3 t X}=A1 v2->v2.S=qp5 f X->v.step c n P (evk 2 f 0 B 0 e0)=A1 (v2,⟨0,0,((min B.size 512:Nat):Int),qs3 f X⟩):=λv2 h2 I=>by
  unfold Wd.step;rw[yA (by
   show ¬((2:Int)<1\/(6:Int)<2\/((qe v.lines f).isSome=A7/\_));rw[y];rintro(h|h|h);.omega
   .omega
   .cases h.1)]
  show(match Wd.event c n { v with S:=[],draw:=e0} (evk 2 f 0 B 0 e0)with|none=>A9|some (v,o)=>_)=_;rw[O];simp only;rw[yA (by simp),yA (by show ¬((2:Int)=6);decide)];simp only;rw[h2];simp only;rw[yA (by rw[I];unfold qp5;split<;>simp)]
  unfold Wd.outs;rw[I,q4i]
 rw[<-hX];cases p:X with
 |nil=>
  have hz:min B.size 512=0:=by rw[<-s,p];rfl
  rw[p]at u;refine⟨_,u _ (qll (v:={ v with b:=q,S:=[],draw:=e0,row:=qs3 t []}) (ps:=ps) h.L h.q rfl (by omega) n (by omega)) rfl,⟨i1,?_,h.L,h.q,rfl⟩,p1⟩;rw[hz]at c1⊢;exact c1
 |cons x0 X0=>
  have N:0<X.length:=by rw[p];simp
  rw[<-p];have M:∀z,qs3 z X=[⟨z,mkS X,A5,A5⟩]:=λz=>by unfold qs3;rw[p];rfl
  -- the line hears it
  obtain⟨d,w⟩:∃d:Wd,d={ v with b:=q,S:=[],draw:=e0,row:=[],lines:=qk v.lines t ⟨no,t,[],X,A5,A7⟩}:=⟨_,rfl⟩;have T:Wd.drain c n P n { v with b:=q,S:=[],draw:=e0,row:=qs3 t X}=A1 d:=by
   obtain⟨j,rfl⟩:∃j,n=j+2:=⟨n - 2,by omega⟩;unfold Wd.drain;rw[M];simp only;have hh:Wd.hear c (j+2) P { v with b:=q,S:=[],draw:=e0,row:=[]} ⟨t,mkS X,A5,A5⟩=A1 d:=by
    unfold Wd.hear;simp only;rw[a];simp only;have Y:qm (mkS X)=X:=by simp[qm,mkS]
    rw[Ah,qf1,yA (by omega),Y,List.nil_append];unfold Wd.msgs Wd.setL;simp only;rw[qj1];simp only[if_true];rw[qj1];simp only[Ah,Nat.zero_add,if_true];rw[yA (by omega)];simp only[Bool.false_eq_true,if_false];rw[qe7,w];rfl
   rw[hh];exact qji (by rw[w]) _ (by omega)
  have r:qe d.lines t=A1 ⟨no,t,[],X,A5,A7⟩:=by rw[w];exact qj1 _ _ _
  have Z:qy6 d.lines ps:=by rw[w];exact h.L.set a rfl rfl rfl λh=>h
  obtain⟨A,Q,i2,L,p2⟩:=qnj (c:=c) (e:={ evZ with kind:=2,conn:=t,b:=mkS X,draw:=e0}) (bs:=mkS X) (n:=n) i1 c1 (f:=t) (t:=f) (i:=i) (.inr K) rfl rfl rfl (by omega) hn;have R:(qm (mkS X)).take 512=X:=by
   have:qm (mkS X)=X:=by simp[qm,mkS]
   rw[this];exact List.take_of_length_le (by omega)
  rw[R,qf1]at Q;rw[qf1]at L;have E:min X.length 512=X.length:=by omega
  rw[E]at Q L;have G:d.answer c n t=A1 ({ v with b:=A,S:=qp5 f X,draw:=e0,row:=[]},A7):=by
   unfold Wd.answer;rw[r];simp only;rw[yA (by simp),yB N];have D:d.event c n { evZ with kind:=2,conn:=t,b:=mkS X}=A1 ({ d with b:=A,S:=qp5 f X},⟨0,0,(X.length:Int),qs3 f X⟩):=by
    unfold Wd.event;have hd:d.draw=e0:=by rw[w]
    have Y:d.b=q:=by rw[w]
    rw[hd,Y,Q];simp only;rw[qou (by rw[w];show qe (qk v.lines t _) f=A9;rw[qh2,yA (λe=>by rw[e,y]at a;cases a)];exact y) (by rw[w]) (by omega)]
   rw[D];simp only;rw[yA (by omega)];unfold Wd.setL;rw[w];simp only;rw[qe7];rw[Int.toNat_natCast,List.drop_of_length_le (A6 _),qt1 a,yG (by omega)]
  have W:=qgv (c:=c) (n:=n) (t:=t) Z (λk l2 J V=>by rw[w]at J;simp only at J;rw[qh2,yA (λe=>V e.symm)]at J;exact h.q k l2 J) r G
  refine⟨{ v with b:=A,S:=qp5 f X,draw:=e0,row:=[]},u _ ?_ rfl,⟨i2,?_,h.L,h.q,rfl⟩,p2.trans p1⟩
  .obtain⟨j,hj⟩:∃j,n=j+2:=⟨n - 2,by omega⟩;have e:Wd.run c n P n { v with b:=q,S:=[],draw:=e0,row:=qs3 t X}=Wd.run c n P (j+1) { v with b:=A,S:=qp5 f X,draw:=e0,row:=[]}:=by
    conv=>lhs;rw[show Wd.run c n P n=Wd.run c n P (j+1+1)by rw[hj]]
    rw[Wd.run];rw[T];simp only;rw[W];simp only;rw[yB (by simp)]
   rw[e];exact qll (v:={ v with b:=A,S:=qp5 f X,draw:=e0,row:=[]}) (ps:=ps) h.L h.q rfl (by omega) _ (by omega)
  .rw[<-s];rw[<-s]at L;have:C - 2*X.length=C - X.length - X.length:=by omega
   rw[this];exact L
end
end
def q5d{α:Type}(o:Option α)(p:α->Bool):Bool:=match o with
 |none=>A5
 |some x=>p x
def q4h{α:Type}{o:Option α}{p:α->Bool}:q5d o p=A7↔∃x,o=A1 x/\p x=A7:=by
 cases o with
 |none=>simp[q5d]
 |some x=>simp[q5d]
def q3i(d:Cn.CnD):Bool:=d.inb.isEmpty&&(d.out.isEmpty&&(!d.ended&&(decide (0<=d.credit)&&decide (d.credit<=1073741824))))
def q9i(w:Ri.Way):Bool:=w.bs.isEmpty&&(!w.ended&&(!w.told&&decide (Zw Zk w.moved=w.moved)))
def qsl(z:Ri.PS):Bool:=q9i z.w0&&(q9i z.w1&&!z.broken)
def qmi(id side:Int)(i:Nat)(r:q31):Bool:=decide (r.conn=id)&&(decide (r.kind=4)&&(decide (r.pump=A1 i)&&(decide (r.side=side)&&(!r.due&&!r.said))))
def qfn(s:Bk)(C:Nat)(y:Int×Int×Nat):Bool:=
 q5d (qe s.roles y.1) (qmi y.1 0 y.2.2)&&(q5d (qe s.roles y.2.1) (qmi y.2.1 1 y.2.2)&&(q5d (qe s.N.L y.1) (λd=>q3i d&&decide ((C:Int)<=d.credit))&&(q5d (qe s.N.L y.2.1) (λd=>q3i d&&decide ((C:Int)<=d.credit))&&q5d s.pumps[y.2.2]? qsl)))
def fqB(s:Bk)(id:Int):Bool:=q5d (qe s.roles id) λr=>decide (r.conn=id)&&((s.N.ask r.conn [] Cn.rFlush).isEmpty&&!(r.due&&(s.N.ask r.conn 0 (λd=>(d.out.length:Int))==0)))
def qzm(s:Bk)(C:Nat)(ps:List (Int×Int×Nat)):Bool:=
 decide (qtc s.P=ps.map λy=>(y.1,y.2.1))&&(decide (s.P.ends.length<=1000000)&&(decide (s.N.L.length<=1000000)&&(decide (s.N.L.map (·.1)).Nodup&&(decide (ps.flatMap λy=>[y.1,y.2.1]).Nodup&&(decide (ps.map (·.2.2)).Nodup&&(ps.all (qfn s C)&&((s.N.L.map (·.1)).all (fqB s)&&s.N.L.all λy=>decide (0<=y.2.credit)&&decide (y.2.credit<=1073741824))))))))
def qdl(L:List (Int×qn))(ps:List (Int×Int×Nat)):Bool:=
 decide (L.map (·.1)).Nodup&&(decide (L.map λy=>y.2.no).Nodup&&(decide (L.length<=1000000)&&(L.all (λy=>decide (0<=y.2.no)&&decide (y.2.no<=1000000))&&(ps.all (λy=>(qe L y.1).isNone)&&(ps.all (λy=>q5d (qe L y.2.1) λl=>l.raw&&(decide (l.conn=y.2.1)&&l.came.isEmpty))&&L.all λy=>!y.2.raw||(y.2.back.isEmpty&&!y.2.en))))))
def qwm(v:Wd)(C:Nat)(ps:List (Int×Int×Nat)):Bool:=qzm v.b C ps&&(qdl v.lines ps&&v.row.isEmpty)
def q7x(s:Bk):List (Int×Int×Nat):=(qtc s.P).map λp=>(p.1,p.2,match qe s.roles p.1 with|none=>0|some r=>r.pump.getD 0)
def qdm{d:Cn.CnD}(h:q3i d=A7):qv9 d:=by unfold q3i at h;simp only[A0,A4,A3,yJ]at h;exact⟨h.1,h.2.1,h.2.2.1,h.2.2.2.1,h.2.2.2.2⟩
def qjl{w:Ri.Way}(h:q9i w=A7):qlh w:=by unfold q9i at h;simp only[A0,A4,A3,yJ]at h;exact⟨h.1,h.2.1,h.2.2.1,h.2.2.2⟩
def q1x{z:Ri.PS}(h:qsl z=A7):qb7 z:=by unfold qsl at h;simp only[A0,A3]at h;exact⟨qjl h.1,qjl h.2.1,h.2.2⟩
def qfl{s:Bk}{id side:Int}{i:Nat}{r:q31}(w:qe s.roles id=A1 r)(h:qmi id side i r=A7):qz9 s id side i r:=by unfold qmi at h;simp only[A0,A3,yJ]at h;exact⟨w,h.1,h.2.1,h.2.2.1,h.2.2.2.1,h.2.2.2.2.1,h.2.2.2.2.2⟩
def q8n{s:Bk}{C:Nat}{y:Int×Int×Nat}(h:qfn s C y=A7):qlc s y.1 y.2.1 y.2.2/\∀d,qe s.N.L y.1=A1 d\/qe s.N.L y.2.1=A1 d->(C:Int)<=d.credit:=by
 unfold qfn at h;simp only[A0,q4h,yJ]at h;obtain⟨⟨q,k,n⟩,⟨p,m,i⟩,⟨r,e,j,l⟩,⟨g,f,o,c⟩,z,a,b⟩:=h;refine⟨⟨⟨q,qfl k n⟩,⟨p,qfl m i⟩,⟨r,e,qdm j⟩,⟨g,f,qdm o⟩,z,a,q1x b⟩,λd w=>?_⟩;rcases w with w|w;.rw[e]at w;cases w;exact l
 .rw[f]at w;cases w;exact c
def qcm{s:Bk}{C:Nat}{ps:List (Int×Int×Nat)}(h:qzm s C ps=A7):q0b s ps/\CrB s ps C:=by
 unfold qzm at h;simp only[A0,yJ,A8]at h;obtain⟨j,n,k,e,b,f,a,g,o⟩:=h;refine⟨⟨j,n,k,e,b,f,λy w=>(q8n (a y w)).1,λid hid=>?_,λid d hd=>?_⟩,λy w=>(q8n (a y w)).2⟩
 .have:=g id hid;unfold fqB at this;simp only[q4h,A0,yJ,A4,A3]at this;obtain⟨r,l,i,m,c⟩:=this;exact⟨r,l,i,m,c⟩
 .exact o _ (qg3 hd)
def qyl{L:List (Int×qn)}{ps:List (Int×Int×Nat)}(h:qdl L ps=A7):qy6 L ps/\∀k l,qe L k=A1 l->qjd l:=by
 unfold qdl at h;simp only[A0,yJ,A8,q4h,A4,Option.isNone_iff_eq_none,Bool.or_eq_true,A3]at h;obtain⟨c,g,e,a,w,b,d⟩:=h;refine⟨⟨c,g,e,a,w,λy j=>b y j⟩,λk l i f=>?_⟩;rcases d _ (qg3 i)with h|h;.rw[f]at h;cases h
 .exact h
def qyv{v:Wd}{C:Nat}{ps:List (Int×Int×Nat)}(h:qwm v C ps=A7):qyf v ps C:=by unfold qwm at h;simp only[A0,A4]at h;obtain⟨a,w,b⟩:=h;exact⟨(qcm a).1,(qcm a).2,(qyl w).1,(qyl w).2,b⟩
end Go.Proofs.YtfjifcfbmhpcaaaGreatDoor
