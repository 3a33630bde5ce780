/-
  A part of the proof of TopEvicted.
-/
import Derived.Test.YtfjifcfbmhpcaaaGreatDoorV23
import Derived.Test.YtfjifcfbmhpcaaaGreatDoorV00
set_option linter.defProp false
set_option linter.unusedVariables false
set_option linter.unusedSimpArgs false
namespace Go.Proofs.YtfjifcfbmhpcaaaGreatDoor
open Go
open Go.Proofs.Tryz renaming prog → Zp
open Go.IntKind renaming i64 → Zk, wrap → Zw
open Go.Addr renaming add → Za
open Go.Value renaming int → Zi, string → Zs, pointer → Zq, bool → Zb, tuple → Zt, slice → Zl, agg → Zg
open _root_.Option renaming some->A0,none->A4
open _root_.Option.some renaming inj->A1
open _root_.List renaming take_of_length_le->A2,getElem?_eq_getElem->A3,getElem?_eq_some_iff->Ab,getElem?_append_left->Ac,mem_cons_of_mem->Ae,length_append->Ai,take_add_one->Aj,getElem?_map->Ak,length_cons->Am,length_take->An,foldl_cons->Ap,replicate->Aq,mem_cons->Ar
open _root_.Nat renaming lt_of_le_of_lt->A5,le_trans->A7,le_refl->A9,lt_succ_self->Ao,zero_add->As
open Go renaming World->A6,Value->Ad
open _root_.Bool renaming false->A8,true->Ah
open _root_.Array renaming length_toList->Aa
open _root_.Prod renaming fst->Af,snd->Au
open _root_.Int renaming toNat->Ag
section
section
variable{W w:World}{F:List Asn}{ro:Asn}{c:qy}{x:Nat}{p:qm3}{pl:List Nat}{sn:Option Nat}{s:Bk}{id:Int}
def qpn{C:Cls}{l:List Asn}{b t:Nat}{a0 a3 a4:Int}{c a2:ByteArray}(k:Nat)(d:Is W C l)(i:nth l k=A0 (Row b t [Zi Zk a0,Zs c,Zs a2,Zi Zk a3,Zi Zk a4])):
 Qt C (Zg #[Zi Zk a0,Zs c,Zs a2,Zi Zk a3,Zi Zk a4]) λw K=>LdI Zk (Za ⟨b,0,A4⟩ 0) w λe=>LdS (Za ⟨b,0,A4⟩ 1) w λj=>LdS (Za ⟨b,0,A4⟩ 2) w λg=>LdI Zk (Za ⟨b,0,A4⟩ 3) w λf=>LdI Zk (Za ⟨b,0,A4⟩ 4) w λm=>K (Zg #[Zi Zk e,Zs j,Zs g,Zi Zk f,Zi Zk m]) w:=λG w h=>by
 have a:=d.at k i h;exact z8 0 a rfl rfl (zg 0 a rfl rfl (zg 0 a rfl rfl (z8 0 a rfl rfl (z8 0 a rfl rfl ⟨rfl,h⟩))))
def qba(m:qk1)(a:St W (qy1 ro c x p pl sn s F) w):qb Zp 205 #[qc x,Zi Zk id,ql2 m] w λv w'=>v=Zt #[]/\St W (qy1 ro c x p pl sn (s.tell id m) F) w':=by refine F205_of (zh a λb w a=>⟨StC W _,zd a,z7 ⟨_,zo 1 ir rfl rfl,_,_,_,_,_,qpn 0 ir rfl,?_⟩⟩);refine Ef.sw ir (λG w h=>q1f m h) (λ_ _ _ _ h=>⟨_,_,_,rfl,h⟩) λg c1=>⟨_,_,_,rfl,zo 2 ir rfl rfl,?_⟩;refine Ef.sw ir (λG w h=>Fr.Put_spec (z0j _) rfl h) (λ_ _ _ _ h=>⟨_,_,_,rfl,h⟩) λe f=>⟨_,_,_,rfl,zo 3 ir rfl rfl,?_⟩;refine z04 10 ir rfl (λG w h=>Cn.Say_spec (id:=id) (xs:=Fr.putP (q0d m)) (z0j _) (qi.le (h.drop)).2 h) (λ_ _ h=>⟨_,rfl,h⟩) ⟨_,rfl,trivial,λG w h=>⟨rfl,?_⟩⟩;have a:=z0f [_,_,_] (zb h);exact z12 10 a rfl (z1f λh=>h.upd id λd=>by unfold Cn.gSay;split<;>rfl)
def qyq(K:Ck.ClG)(after:Int)(ids:List Int){k:Nat}{id:Int}(h:ids[k]?=A0 id):q5c K after (ids.take (k+1))=(Ck.cSet (q5c K after (ids.take k)) id (Zw Zk ((q5c K after (ids.take k)).now+after))).1:=by unfold q5c;rw[Aj,h];simp
def q7i{i:Option Addr}{t:Nat}{ids:List Int}{after:Int}(q:Rd F i (ids.map (Zi Zk)))(z:ids.length<=1000000)(b:St W (qy1 ro c x p pl sn s F) w):qb Zp 122 #[qc x,Zi Zk after,Zl i ids.length t] w λv w'=>v=Zt #[]/\St W (qy1 ro c x p pl sn (s.alarm after ids) F) w':=by
 refine F122_of (qt3 (λn vs w=>∃k:Nat,k+n=ids.length/\vs=[Zi Zk (k:Int)]/\St W (qy1 ro c x p pl sn (s.alarm after (ids.take k)) F) w) λμ y l=>⟨⟨ids.length,0,by omega,rfl,b⟩,λj w m=>?_⟩);clear b;obtain⟨k,r,u,b⟩:=l _ _ m;generalize μ _ _=n at r⊢;cases u;refine za (λh=>?_) λh=>?_
 .have d:k<ids.length:=by have:=yC h;omega
  have g:=A3 d;refine z0l q.b12 b rfl d (v:=Zi Zk ids[k]) (by rw[Ak,g];rfl) λa o=>zt o ⟨StC W _,zd b,z7 (z7 ⟨_,zo 0 ir rfl rfl,_,zo 0 ir rfl rfl,?_⟩)⟩;refine z04 8 ir rfl (λG w h=>Ck.Now_spec h) (λ_ _ h=>⟨_,rfl,h⟩) ⟨_,rfl,zo 0 ir rfl rfl,?_⟩;refine z04 8 ir rfl (λG w h=>Ck.Set_spec ids[k] _ h) (λ_ _ h=>⟨_,rfl,h⟩) ⟨_,rfl,trivial,λG w h=>?_⟩;have b:=zb h;have e:∃f:Nat,f+(n - 1)=ids.length/\[Zi Zk (Zw Zk ((k:Int)+1))]=[Zi Zk (f:Int)]/\St W (qy1 ro c x p pl sn (s.alarm after (ids.take f)) F) w:=⟨k+1,by omega,by rw[up d (by omega)],by unfold Bk.alarm;rw[qyq _ _ _ g];exact b⟩
  exact⟨⟨_,e⟩,A5 (y _ _ _ e) (by omega)⟩
 .have:ids.take k=ids:=A2 (by have:=yD h;omega);rw[this]at b;exact⟨rfl,b⟩
def fSe:(Zp.fieldsOf 38).toList.map qhm=[(Ah,3,0),(Ah,9,1),(Ah,4,2),(Ah,4,3)]:=by kernel_rfl
def uSe:Zp.underlying 38=A0 (.struct (Zp.fieldsOf 38)):=by kernel_rfl
def hSe:Zp.stoodInHeld 38=A8:=by kernel_rfl
def gSe:Zp.eqGuardType Zp.depth 38=A8:=by kernel_rfl
def qmx:Zp.plainKey 4=Ah:=by kernel_rfl
def qq01:Zp.underlying 4=A0 .bool:=Tryz.underlying4
def sp0(a:q81)(w:A6):(part 3 #[Zi Zk a.conn,Zs a.b,Zb a.e,Zb a.c] 0).run Zp w=.ok (Zi Zk a.conn) w:=run_part_plain w qjr rfl
def sp1(a:q81)(w:A6):(part 9 #[Zi Zk a.conn,Zs a.b,Zb a.e,Zb a.c] 1).run Zp w=.ok (Zs a.b) w:=run_part_plain w pS rfl
def sp2(a:q81)(w:A6):(part 4 #[Zi Zk a.conn,Zs a.b,Zb a.e,Zb a.c] 2).run Zp w=.ok (Zb a.e) w:=run_part_plain w qmx rfl
def sp3(a:q81)(w:A6):(part 4 #[Zi Zk a.conn,Zs a.b,Zb a.e,Zb a.c] 3).run Zp w=.ok (Zb a.c) w:=run_part_plain w qmx rfl
def qaq(d:Nat)(a b:q81)(w:A6):(Op.equalIn (d+2) 38 (qr1 a) (qr1 b)).run Zp w=.ok (decide (a=b)) w:=by
 unfold qr1;rw[show d+2=(d+1)+1 from rfl,run_equalIn_struct w (d+1) _ _ _ uSe hSe,qhh,fSe];simp only[eqF,Sem.run_bind,sp0,sp1,sp2,sp3,Result.andThen_ok,run_equalIn_int w d 3 Zk Zk _ _ uInt,run_equalIn_string w d 9 _ _ uS,run_equalIn_bool' w d 4 _ _ qq01,qv3,qow,Sem.run_ite,Sem.run_pure];obtain⟨k,A,e,c⟩:=a;obtain⟨j,A',e',l⟩:=b;by_cases h:k=j
 .by_cases f:A=A'
  .by_cases g:e=e'
   .by_cases i:c=l;.simp[h,f,g,i]
    .simp[h,f,g,i]
   .simp[h,f,g]
  .simp[h,f]
 .simp[h]
def q8u{h c:Operand}(a b:q81)(w:A6):Sem.run Zp (do eqGuard .eql 38 h c (qr1 a) (qr1 b);binOp .eql 38 (qr1 a) (qr1 b)) w=.ok (Zb (decide (a=b))) w:=by unfold qr1;simp only[Sem.run_bind,run_eqGuard_agg w .eql 38 h c _ _ gSe,Result.andThen_ok,run_eql_struct];have:=qaq 9998 a b w;unfold qr1 at this;rw[show(10000:Nat)=9998+2 from rfl,this];rfl
def qav(id:Int)(bs:List UInt8)(e w:Bool):decide ((⟨id,mkS bs,e,w⟩:q81)=⟨id,⟨#[]⟩,A8,A8⟩)=(bs.isEmpty&&(!e&&!w)):=by
 have a:mkS bs=⟨#[]⟩↔bs=[]:=by
  unfold mkS;constructor
  .intro h;have:=yE (λb:ByteArray=>b.data.toList) h;simpa using this
  .intro h;rw[h]
 rw[Bool.eq_iff_iff,yJ,q81.mk.injEq,a];cases bs<;>cases e<;>cases w<;>simp
def qkk{n:Option Addr}{q m2:Nat}{bs:List UInt8}{e b:Bool}(o:Rd F n (bs.map qd))(k:szS s.S id+bs.length<=1073741824)(d:qb3 s.N (qe6 s.S id bs e b))(a:St W (qy1 ro c x p pl (A0 m2) s F) w):
 qb Zp 143 #[qc x,Zi Zk id,Zl n bs.length q,Zb e,Zb b] w λv w'=>v=Zt #[]/\St W (qy1 ro c x p pl (A0 m2) (s.send id bs e b) F) w':=by
 unfold Bk.send qe6 at*;refine F143_of (qox uB uU8 uS (λj v r=>o.b12.of a r) rfl ⟨_,rfl,zh a λl w a=>St1.zz 0 a rfl λw a=>St1.zz 0 a rfl λw a=>St1.zz 0 a rfl λw a=>St1.zz 0 a rfl λw a=>z8 0 a rfl rfl (zg 0 a rfl rfl (zx 0 a rfl rfl (zx 0 a rfl rfl ⟨_,λw=>q8u ⟨id,mkS bs,e,b⟩ ⟨id,⟨#[]⟩,A8,A8⟩ w,_,rfl,?_⟩)))⟩);rw[qav];refine za (λh=>?_) λh=>?_
 .rw[yB h];exact⟨rfl,a.drop⟩
 rw[yA (by rw[h];simp)]at d⊢;have a:St W (Row l 38 [Zi Zk id,Zs (mkS bs),Zb e,Zb b]::qy1 ro c x p pl (A0 m2) s F) w:=a;obtain⟨_,a⟩:=brk.sent (a.to 12);have a:St W (Row l 38 [Zi Zk id,Zs (mkS bs),Zb e,Zb b]::qua ro (qg (Zi Zk) qr1 m2 s.S) c x p pl (A0 m2) s F) w:=zf 12 0 a rfl;refine z7 (zv 1 a rfl rfl (qq1 kI uMs iSe zSe 11 a rfl id A8 ?_));rw[yA (by simp),qre];unfold szS at k;generalize (qe s.S id).getD q93=was at k d⊢;refine⟨_,_,_,_,rfl,zh a λm w a=>St1.zz 0 a rfl λw a=>St1.zz 0 a rfl λw a=>St1.zz 0 a rfl λw a=>St1.zz 0 a rfl λw a=>?_⟩;have a:St W (Row m 38 [Zi Zk was.conn,Zs was.b,Zb was.e,Zb was.c]::Row l 38 [Zi Zk id,Zs (mkS bs),Zb e,Zb b]::qua ro (qg (Zi Zk) qr1 m2 s.S) c x p pl (A0 m2) s F) w:=a;refine⟨StC W _,zd a,z7 ⟨_,z0a 2 ir rfl rfl,_,zu 0 ir rfl rfl,_,zu 1 ir rfl rfl,⟨by rw[qf1];omega,?_⟩⟩⟩;have g:∀(u v:Bool) (w:A6),(was.e||e)=u->(was.c||b)=v->St W (Row m 38 [Zi Zk was.conn,Zs was.b,Zb was.e,Zb was.c]::Row l 38 [Zi Zk id,Zs (mkS bs),Zb e,Zb b]::qua ro (qg (Zi Zk) qr1 m2 (qk s.S id ⟨id,was.b++mkS bs,u,v⟩)) c x p pl (A0 m2) s F) w->St W (qy1 ro c x p pl (A0 m2) { s with S:=qk s.S id ⟨id,was.b++mkS bs,was.e||e,was.c||b⟩} F) w:=λu v w i f h=>by rw[i,f]at d⊢;exact z12 10 h.drop.drop rfl (qs2.of d)
 refine⟨_,z0t 0 ir rfl rfl,za (λi=>⟨_,z0t 0 ir rfl rfl,za (λf=>?_) λf=>⟨_,z0t 1 ir rfl rfl,?_⟩⟩) λi=>⟨_,z0t 1 ir rfl rfl,_,z0t 0 ir rfl rfl,za (λf=>?_) λf=>⟨_,z0t 1 ir rfl rfl,?_⟩⟩⟩;.exact Ef.mu (vl:=qr1) kI uMs 12 ir rfl id ⟨id,was.b++mkS bs,Ah,Ah⟩ ⟨rfl,trivial,λG w h=>⟨rfl,g _ _ _ (by rw[i];rfl) (by rw[f];rfl) (zb h)⟩⟩
 .exact Ef.mu (vl:=qr1) kI uMs 12 ir rfl id ⟨id,was.b++mkS bs,Ah,b⟩ ⟨rfl,trivial,λG w h=>⟨rfl,g _ _ _ (by rw[i];rfl) (by rw[f];rfl) (zb h)⟩⟩
 .exact Ef.mu (vl:=qr1) kI uMs 12 ir rfl id ⟨id,was.b++mkS bs,e,Ah⟩ ⟨rfl,trivial,λG w h=>⟨rfl,g _ _ _ (by rw[i];rfl) (by rw[f];rfl) (zb h)⟩⟩
 .exact Ef.mu (vl:=qr1) kI uMs 12 ir rfl id ⟨id,was.b++mkS bs,e,b⟩ ⟨rfl,trivial,λG w h=>⟨rfl,g _ _ _ (by rw[i];rfl) (by rw[f];rfl) (zb h)⟩⟩
def qvf(e:Int)(h:St W (qy1 ro c x p pl sn s F) w):qb Zp 274 #[qc x,Zi Zk id,Zi Zk e] w λv w'=>v=Zt #[]/\St W (qy1 ro c x p pl sn (s.no id e) F) w':=
 F274_of ((qba (qe9 e) h).of λv w ⟨a,h⟩=>⟨a,rfl,h⟩)
end
end
section
section
variable{κ ν:Type}[DecidableEq κ]
def qck{L:List (κ×ν)}(w:(L.map (·.1)).Nodup){k:κ}{v:ν}{y:κ×ν}(h:y∈qk L k v):y=(k,v)\/(y∈L/\y.1≠k):=by
 induction L with
 |nil=>simp only[qk,List.mem_singleton]at h;exact .inl h
 |cons z r ih=>
  simp only[List.map_cons,List.nodup_cons]at w;simp only[qk]at h;split at h
  .rename_i e;rcases Ar.1 h with h|h;.exact .inl h
   .exact .inr ⟨Ae _ h,λa=>w.1 (by rw[e,<-a];exact List.mem_map_of_mem h)⟩
  .rename_i e;rcases Ar.1 h with h|h;.subst h;exact .inr ⟨List.mem_cons_self,e⟩
   .rcases ih w.2 h with h|h;.exact .inl h
    .exact .inr ⟨Ae _ h.1,h.2⟩
def q9s{L:List (κ×ν)}{k:κ}{v:ν}(h:qe L k=A0 v):(qp L k).length<L.length:=by have:=(Go.Proofs.YtfjifcfbmhpcaaaGreatDoor.aget_perm h).length_eq;rw[this,Am];omega
end
def q29{α σ:Type}(f:σ->α->σ)(s:σ){l:List α}{k:Nat}{x:α}(h:l[k]?=A0 x):(l.take (k+1)).foldl f s=f ((l.take k).foldl f s) x:=by rw[Aj,h,List.foldl_append];rfl
def qsd(S:List (Int×q81))(id j:Int)(bs:List UInt8)(e w:Bool):szS (qe6 S id bs e w) j=if id=j then szS S id+bs.length else szS S j:=by
 unfold qe6 szS;split
 .rename_i h;have:bs=[]:=by cases bs with|nil=>rfl|cons _ _=>simp at h
  subst this;split;.rename_i h;subst h;rfl
  .rfl
 .rw[qh2];split
  .rename_i h;subst h;simp[qf1,ByteArray.size_append]
  .rfl
def qb3.flush{N:Cn.CT}{S:List (Int×q81)}(f:(N.L.map (·.1)).Nodup)(h:qb3 N S)(id:Int):qb3 (N.upd id Cn.gFlush) S/\szS S id+(N.ask id [] Cn.rFlush).length<=1073741824/\∀e b,qb3 (N.upd id Cn.gFlush) (qe6 S id (N.ask id [] Cn.rFlush) e b):=by
 unfold Cn.CT.upd Cn.CT.ask;cases hd:qe N.L id with
 |none=>
  refine⟨h,by simpa using h.1 id,λe b=>⟨λj=>?_,λy w=>?_⟩⟩
  .rw[qsd];split;.simpa using h.1 id
   .exact h.1 j
  .rw[qsd];split;.rename_i i;rw[i];simpa using h.2 y w
   .exact h.2 y w
 |some d=>
  have g:=h.2 _ (qg3 hd);simp only at g⊢;have k:(Cn.rFlush d).length<=d.credit.toNat:=by unfold Cn.rFlush;rw[An];omega
  have c:(Cn.gFlush d).credit=d.credit -((Cn.rFlush d).length:Int):=by show Zw Zk _=_;exact w64
  refine⟨⟨h.1,λy w=>?_⟩,by omega,λe b=>⟨λj=>?_,λy w=>?_⟩⟩
  .rcases qck f w with rfl|⟨w,_⟩;.simp only;rw[c];omega
   .exact h.2 y w
  .rw[qsd];split;.omega
   .exact h.1 j
  .rw[qsd];rcases qck f w with rfl|⟨w,a⟩;.simp only[if_true];rw[c];omega
   .rw[yA (λe=>a e.symm)];exact h.2 y w
namespace Bk
def shutB_len:∀(n:Nat) (s:Bk) (id:Int),(shutB n s id).roles.length<=s.roles.length
 |0,s,id=>A9 _
 |n+1,s,id=>by
  have d:=shutB_len n;have b:∀(s:Bk) (name:ByteArray),(emptyW (λs i=>shutB n s i) s name).roles.length<=s.roles.length:=λs name=>by
   unfold emptyW;generalize Qu.gL s.Q name=l;induction l generalizing s with
   |nil=>exact A9 _
   |cons a l h=>exact A7 (h _) (d (s.no a 3) a)
  have c:∀(l:List LeD) (s:Bk),(leaveW (λs i=>shutB n s i) s l).roles.length<=s.roles.length:=λl=>by
   unfold leaveW;induction l with
   |nil=>exact λs=>A9 _
   |cons a l h=>exact λs=>A7 (h _) (b (s.give a.ten 1) a.name)
  unfold shutB;split;.exact A9 _
  .rename_i r e;have w:(s.out id).roles.length<=s.roles.length:=qqn _ _;unfold after;split;.exact A7 (c _ _) w
   .split;.exact w
    .split
     .split;.exact A7 (d _ _) w
      .exact w
     .exact w
def emptyW_len{f:Bk->Int->Bk}(w:∀s id,(f s id).roles.length<=s.roles.length)(s:Bk)(name:ByteArray):(emptyW f s name).roles.length<=s.roles.length:=by
 unfold emptyW;generalize Qu.gL s.Q name=l;induction l generalizing s with
 |nil=>exact A9 _
 |cons a l h=>exact A7 (h _) (w (s.no a 3) a)
end Bk
section
variable{W w:World}{F:List Asn}{ro:Asn}{c:qy}{x m2:Nat}{p:qm3}{pl:List Nat}{sn:Option Nat}{s:Bk}{id:Int}
def q7f(W:A6)(c:qy)(x m2:Nat)(p:qm3)(pl:List Nat)(Q:Bk->Prop)(f:Bk->Int->Bk):Prop:=
 (∀s id,Q s->Q (f s id))/\∀(s:Bk) (id:Int) (F:List Asn) (w:A6),Q s->St W (brk c x p pl (A0 m2) s F) w->qb Zp 85 #[qc x,Zi Zk id] w λv w'=>v=Zt #[]/\St W (brk c x p pl (A0 m2) (f s id) F) w'
variable{Q:Bk->Prop}{f:Bk->Int->Bk}
def qak(e:Int)(d:q7f W c x m2 p pl Q f)(b:Q (s.no id e))(h:St W (brk c x p pl (A0 m2) s F) w):qb Zp 193 #[qc x,Zi Zk id,Zi Zk e] w λv w'=>v=Zt #[]/\St W (brk c x p pl (A0 m2) (f (s.no id e) id) F) w':=
 F193_of ((qvf e h).of λv w ⟨a,h⟩=>⟨a,(d.2 (s.no id e) id F w b h).of λv w ⟨a,h⟩=>⟨a,rfl,h⟩⟩)
def qim(name:ByteArray)(t:q7f W c x m2 p pl Q f)(i:∀s id e,Q s->Q (s.no id e))(o:Q s)(b:St W (brk c x p pl (A0 m2) s F) w):qb Zp 148 #[qc x,Zs name] w λv w'=>v=Zt #[]/\St W (brk c x p pl (A0 m2) (s.emptyW f name) F) w':=by
 have G:=(Qu.QueueA.ok (zf 4 0 b rfl)).row name;refine F148_of (z7 (z0k 0 b rfl rfl ((Qu.List_spec name (b.at 4 rfl)).of λv w ⟨g,m,r,b⟩=>⟨_,_,_,r,?_⟩)));have b:St W (brk c x p pl (A0 m2) s (SlA 3 1 iV g m (Qu.gL s.Q name)::F)) w:=z0v 12 (zf 1 5 b rfl);unfold Bk.emptyW;generalize Qu.gL s.Q name=ids at G b⊢;refine qt3 (λn vs w=>∃k:Nat,k+n=ids.length/\vs=[Zi Zk (k:Int)]/\Q ((ids.take k).foldl (λs id=>f (s.no id 3) id) s)/\St W (brk c x p pl (A0 m2) ((ids.take k).foldl (λs id=>f (s.no id 3) id) s) (SlA 3 1 iV g m ids::F)) w) λμ H z=>⟨⟨ids.length,0,by omega,rfl,o,b⟩,λj w E=>?_⟩;clear b;obtain⟨k,B,A,o,b⟩:=z _ _ E;generalize μ _ _=n at B⊢;cases A;refine za (λh=>?_) λh=>?_
 .have d:k<ids.length:=by have:=yC h;omega
  have u:=A3 d;have C:Rd (SlA 3 1 iV g m ids::F) g (ids.map (Zi Zk)):=by have:=z0g (e:=3) (size:=1) (f:=iV) (p:=g) (c:=m) (os:=ids) F;rwa[show ids.flatMap iV=ids.map (Zi Zk)from qt6 _ _]at this
  refine z0l C.b12 b rfl d (v:=Zi Zk ids[k]) (by rw[Ak,u];rfl) λa D=>zt D ((qak 3 t (i _ _ _ o) b).of λv w ⟨r,b⟩=>⟨r,?_⟩);have y:(ids.take (k+1)).foldl (λs id=>f (s.no id 3) id) s=f (((ids.take k).foldl (λs id=>f (s.no id 3) id) s).no ids[k] 3) ids[k]:=by rw[q29 _ _ u]
  have l:∃q:Nat,q+(n - 1)=ids.length/\[Zi Zk (Zw Zk ((k:Int)+1))]=[Zi Zk (q:Int)]/\Q ((ids.take q).foldl (λs id=>f (s.no id 3) id) s)/\St W (brk c x p pl (A0 m2) ((ids.take q).foldl (λs id=>f (s.no id 3) id) s) (SlA 3 1 iV g m ids::F)) w:=⟨k+1,by omega,by rw[up d (by omega)],by rw[y];exact t.1 _ _ (i _ _ _ o),by rw[y];exact b⟩;exact⟨⟨_,l⟩,A5 (H _ _ _ l) (by omega)⟩
 .have:ids.take k=ids:=A2 (by have:=yD h;omega);rw[this]at b;exact⟨rfl,b.del 12 rfl⟩
end
end
section
def qbl(so:LeD->Bool)(df:LeD->LeD):∀(l:List ByteArray) (s:LeL×List LeD),(l.foldl (q64 so df) s).2.length<=s.2.length+l.length
 |[],s=>A9 _
 |a::l,s=>by
  have w:=qbl so df l (q64 so df s a);have h:(q64 so df s a).2.length<=s.2.length+1:=by
   unfold q64;split;.omega
   .split;.simp
    .simp
  rw[Ap,Am];omega
def qze(so:LeD->Bool)(df:LeD->LeD)(L:LeL):(qk4 so df L).2.length<=L.length:=by have:=qbl so df (q91 leS (L.map (·.1))) (L,[]);rw[(qv1 leS _).length_eq,List.length_map]at this;unfold qk4;simpa using this
section
variable{W w:World}{F:List Asn}{c:qy}{x m2:Nat}{p:qm3}{pl:List Nat}{s:Bk}{id:Int}
def TabA.keys{t:Nat}{T:Cn.CT}(h:St W (Cn.TabA t T::F) w):(T.L.map (·.1)).Nodup:=by obtain⟨m,h⟩:=Cn.TabA.open_ h;exact qr.keys kI (zf 1 0 h rfl)
variable{Q:Bk->Prop}{f:Bk->Int->Bk}
def qqt(B:qi3)(conn now:Int):(qe5 B conn now).2.length<=B.L.length:=by
 unfold qe5;split;.exact Nat.zero_le _
 .exact qze _ _ _
set_option maxHeartbeats 1000000 in
def qsn{n q:Nat}{cs:List Ad}{d:q31}(K:q7f W c x m2 p pl (λs=>s.roles.length<n) (λs i=>Bk.shutB n s i))(E:cs[1]?=A0 (Zi Zk d.kind))(M:cs[2]?=A0 (Zs d.ten))(Q:qe s.roles id=A0 d)(X:s.roles.length<n+1)
 (f:St W (q32 c x p pl (A0 m2) s id q (Row q 127 cs::F)) w):qb Zp 85 #[qc x,Zi Zk id] w λv w'=>v=Zt #[]/\St W (brk c x p pl (A0 m2) (Bk.after (λs i=>Bk.shutB n s i) (s.out id) id d) (Row q 127 cs::F)) w':=by
 have y:=TabA.keys (zf 7 0 f rfl);obtain⟨c1,T,U⟩:=(qs2.cr 10 f rfl).flush y id;refine F85_of (z7 (zv 0 f rfl rfl (z0i kI uMr iPr zPr 9 f rfl Ah ?_)));rw[yB rfl];refine⟨_,_,rfl,zm rfl (z7 (z0k 0 f rfl rfl ((Cn.Flush_spec (f.at 7 rfl)).of λv w ⟨t,r,o,f⟩=>⟨_,_,_,o,?_⟩)))⟩;have J:St W (qua (qw (Zi Zk) p.m (qo2 p.v pl) s.roles id q) (qs2 (A0 m2) s.N s.S) c x p pl (A0 m2) (s.upd id Cn.gFlush) (qi 5 1 t (s.N.ask id [] Cn.rFlush).length r ((s.N.ask id [] Cn.rFlush).map qd)::Row q 127 cs::F)) w:=z0v 12 (zf 1 8 f rfl);have f:St W (q32 c x p pl (A0 m2) (s.upd id Cn.gFlush) id q (qi 5 1 t (s.N.ask id [] Cn.rFlush).length r ((s.N.ask id [] Cn.rFlush).map qd)::Row q 127 cs::F)) w:=z12 10 J rfl (z1f λ_=>c1);refine(qkk (s:=s.upd id Cn.gFlush) (z0j _) T (U A8 Ah) f).of λv w ⟨o,f⟩=>⟨o,?_⟩;have f:St W (q32 c x p pl (A0 m2) ((s.upd id Cn.gFlush).send id (s.N.ask id [] Cn.rFlush) A8 Ah) id q (Row q 127 cs::F)) w:=f.del 12 rfl;refine z7 (z0k 0 f rfl rfl (qb.p 8 f rfl (λh=>Ck.Drop_spec id h) λw f=>⟨_,rfl,?_⟩));refine z7 (z0k 0 f rfl rfl (qb.p 7 f rfl (λh=>Cn.Close_spec h) λw f=>⟨_,rfl,?_⟩));have f:=z12 10 f rfl (z1f λh=>qb3.del h id);refine z7 (zv 0 f rfl rfl (qw.del_i kI uMr 9 f rfl λw f=>?_));have f:St W (brk c x p pl (A0 m2) (s.out id) (Row q 127 cs::F)) w:=f;refine z7 (z8 12 f rfl E ?_);have g:(s.out id).roles.length<n:=by have:=q9s Q;show(qp s.roles id).length<n;omega
 generalize s.out id=s at f g⊢;unfold Bk.after;refine za (λh=>?_) λh=>?_
 .rw[yB (by simpa using h)];have I:s.B.L.length<=64:=by obtain⟨_,h,_⟩:=z0s (zf 3 0 f rfl);exact h
  refine⟨StC W _,zd f,z7 (z7 ⟨_,zo 0 ir rfl rfl,_,zo 0 ir rfl rfl,?_⟩)⟩;refine z04 8 ir rfl (λG w h=>Ck.Now_spec h) (λ_ _ h=>⟨_,rfl,h⟩) ⟨_,rfl,zo 0 ir rfl rfl,?_⟩;refine Ef.sl 3 ir rfl (λG w h=>(q3q h).of λv w ⟨p,c,o,_,f⟩=>⟨p,c,o,f⟩) (λ_ _ _ _ h=>⟨_,_,_,rfl,h⟩) λt r=>⟨_,_,_,rfl,trivial,λG w h=>?_⟩;have f:St W (brk c x p pl (A0 m2) { s with B:=(qe5 s.B id s.K.now).1} (SlA 55 6 leV t r (qe5 s.B id s.K.now).2::Row q 127 cs::F)) w:=z0v 12 (zb h);have R:(qe5 s.B id s.K.now).2.length<=64:=A7 (qqt _ _ _) I;have g:({ s with B:=(qe5 s.B id s.K.now).1}:Bk).roles.length<n:=g;generalize (qe5 s.B id s.K.now).2=l at R f⊢;generalize { s with B:=(qe5 s.B id s.K.now).1}=s at f g⊢;unfold Bk.leaveW;refine qt3 (λm vs w=>∃k:Nat,k+m=l.length/\vs=[Zi Zk (k:Int)]/\(Bk.leaveW (λs i=>Bk.shutB n s i) s (l.take k)).roles.length<n/\St W (brk c x p pl (A0 m2) (Bk.leaveW (λs i=>Bk.shutB n s i) s (l.take k)) (SlA 55 6 leV t r l::Row q 127 cs::F)) w) λμ J N=>⟨⟨l.length,0,by omega,rfl,g,f⟩,λj w V=>?_⟩;clear f;obtain⟨k,E,O,D,f⟩:=N _ _ V;generalize μ _ _=m at E⊢;cases O;refine za (λh=>?_) λh=>?_
  .have u:k<l.length:=by have:=yC h;omega
   have L:=A3 u;have H:Bk.leaveW (λs i=>Bk.shutB n s i) s (l.take (k+1))=((Bk.leaveW (λs i=>Bk.shutB n s i) s (l.take k)).give l[k].ten 1).emptyW (λs i=>Bk.shutB n s i) l[k].name:=by unfold Bk.leaveW;rw[q29 _ _ L]
   generalize Bk.leaveW (λs i=>Bk.shutB n s i) s (l.take k)=s1 at f D H;refine z0e qhw (by decide) (Rd.b12 (z0g _)) f rfl u L λa z=>z0p (z 0 _ rfl) (z0p (z 1 _ rfl) (zt (z 2 _ rfl) (zt (z 3 _ rfl) (zt (z 4 _ rfl) (LdB.at (z 5 _ rfl) (zh f λb w f=>?_))))));refine St1.zz 0 f rfl λw f=>St1.zz 0 f rfl λw f=>St1.zz 0 f rfl λw f=>St1.zz 0 f rfl λw f=>St1.zz 0 f rfl λw f=>St1.zz 0 f rfl λw f=>?_;have f:St W (Row b 55 (leV l[k])::brk c x p pl (A0 m2) s1 (SlA 55 6 leV t r l::Row q 127 cs::F)) w:=f;refine⟨StC W _,zd f,z7 ⟨_,zo 1 ir rfl rfl,_,zu 0 ir rfl rfl,?_⟩⟩;refine z04 3 ir rfl (λG w h=>qx7 (.inl rfl) h) (λ_ _ h=>⟨_,rfl,h⟩) ⟨_,rfl,trivial,λG w h=>?_⟩;have f:=zb h;refine zg 0 f rfl rfl ?_;have f:St W (brk c x p pl (A0 m2) (s1.give l[k].ten 1) (Row b 55 (leV l[k])::SlA 55 6 leV t r l::Row q 127 cs::F)) w:=zf 0 12 f rfl;refine(qim (s:=s1.give l[k].ten 1) l[k].name K (λs id e h=>h) D f).of λv w ⟨o,f⟩=>⟨o,?_⟩;have f:=f.del 12 rfl;have A:∃C:Nat,C+(m - 1)=l.length/\[Zi Zk (Zw Zk ((k:Int)+1))]=[Zi Zk (C:Int)]/\(Bk.leaveW (λs i=>Bk.shutB n s i) s (l.take C)).roles.length<n/\St W (brk c x p pl (A0 m2) (Bk.leaveW (λs i=>Bk.shutB n s i) s (l.take C)) (SlA 55 6 leV t r l::Row q 127 cs::F)) w:=⟨k+1,by omega,by rw[up u (by omega)],by rw[H];exact A5 (Bk.emptyW_len (Bk.shutB_len n) _ _) D,by rw[H];exact f⟩;exact⟨⟨_,A⟩,A5 (J _ _ _ A) (by omega)⟩
  .have:l.take k=l:=A2 (by have:=yD h;omega);rw[this]at f;exact⟨rfl,f.del 12 rfl⟩
 rw[yA (by simpa using h)];refine za (λh=>?_) λh=>?_
 .rw[yB (by simpa using h)];refine z7 (z0k 0 f rfl rfl (qb.p 4 f rfl (λh=>Qu.Drop_spec id h) λw f=>⟨_,rfl,?_⟩));refine z7 (z0k 0 f rfl rfl (qb.p 5 f rfl (λh=>qcs h) λw f=>⟨_,rfl,?_⟩));refine⟨StC W _,zd f,z7 (z7 ⟨_,zo 0 ir rfl rfl,_,zu 12 ir rfl M,?_⟩)⟩;exact z04 2 ir rfl (λG w h=>qx7 (.inr rfl) h) (λ_ _ h=>⟨_,rfl,h⟩) ⟨_,rfl,trivial,λG w h=>⟨rfl,zb h⟩⟩
 rw[yA (by simpa using h)];refine za (λh=>?_) λh=>?_
 .rw[yB (by simpa using h)];refine z7 (z0k 0 f rfl rfl (qb.p 6 f rfl (λh=>q4v h) λw f=>⟨_,_,rfl,za (λh=>?_) λh=>?_⟩))
  .rw[yB h];refine⟨StC W _,zd f,z7 (z7 ⟨_,zo 0 ir rfl rfl,_,zu 12 ir rfl M,?_⟩)⟩;refine z04 2 ir rfl (λG w h=>qx7 (.inr rfl) h) (λ_ _ h=>⟨_,rfl,h⟩) ⟨_,rfl,trivial,λG w h=>?_⟩;have f:St W (brk c x p pl (A0 m2) (({ s with P:=qxf s.P id}:Bk).give d.ten 2) (Row q 127 cs::F)) w:=zb h;exact(K.2 (({ s with P:=qxf s.P id}:Bk).give d.ten 2) _ _ _ g f).of λv w ⟨o,f⟩=>⟨o,rfl,f⟩
  .rw[yA (by rw[h];simp)];exact⟨rfl,f⟩
 .rw[yA (by simpa using h)];exact⟨rfl,f⟩
def q7h:∀n,q7f W c x m2 p pl (λs=>s.roles.length<n) (λs i=>Bk.shutB n s i)
 |0=>⟨λs id h=>yI h (by simp),λs id F w h=>yI h (by simp)⟩
 |n+1=>⟨λs id h=>A5 (Bk.shutB_len _ _ _) h,λs id F w b a=>by
  have f:=q7h n;have b:s.roles.length<n+1:=b;show qb _ _ _ _ λv w'=>v=Zt #[]/\St W (brk c x p pl (A0 m2) (Bk.shutB (n+1) s id) F) w';unfold Bk.shutB;cases hd:qe s.roles id with
  |none=>refine F85_of (z7 (zv 0 a rfl rfl (z0y kI uMr iPr zPr 9 a rfl hd Ah ?_)));rw[yB rfl];exact⟨_,_,rfl,zn rfl ⟨rfl,a⟩⟩
  |some d=>obtain⟨q,a⟩:=brk.take hd a;obtain⟨sb,g,a⟩:=qo2.open_ a;have a:St W (q32 c x p pl (A0 m2) s id q (Row q 127 (qs pl sb d)::q02 p.v sb d.sh::F)) w:=zf 0 12 (zf 1 13 a rfl) rfl;exact(qsn f rfl rfl hd b a).of λv w ⟨e,a⟩=>⟨e,(a.del 12 rfl).del 12 rfl⟩⟩
def qdj:q7f W c x m2 p pl (λ_=>True) Bk.shut:=⟨λ_ _ _=>trivial,λs id F w _ hS=>(q7h (s.roles.length+1)).2 s id F w (Ao _) hS⟩
def q9a(h:St W (brk c x p pl (A0 m2) s F) w):qb Zp 85 #[qc x,Zi Zk id] w λv w'=>v=Zt #[]/\St W (brk c x p pl (A0 m2) (s.shut id) F) w':=qdj.2 s id F w trivial h
def q18(e:Int)(h:St W (brk c x p pl (A0 m2) s F) w):qb Zp 193 #[qc x,Zi Zk id,Zi Zk e] w λv w'=>v=Zt #[]/\St W (brk c x p pl (A0 m2) (s.refuse id e) F) w':=qak e qdj trivial h
def qhq(name:ByteArray)(h:St W (brk c x p pl (A0 m2) s F) w):qb Zp 148 #[qc x,Zs name] w λv w'=>v=Zt #[]/\St W (brk c x p pl (A0 m2) (s.empty name) F) w':=qim name qdj (λ_ _ _ _=>trivial) trivial h
def qdf(y:LeD)(a:St W (brk c x p pl (A0 m2) s F) w):qb Zp 129 #[qc x,Zg (leV y).toArray] w λv w'=>v=Zt #[]/\St W (brk c x p pl (A0 m2) (s.gone y) F) w':=by refine F129_of (zh a λb w a=>⟨StC W _,zd a,z7 ⟨_,zo 1 ir rfl rfl,_,zu 0 ir rfl rfl,?_⟩⟩);refine z04 3 ir rfl (λG w h=>qx7 (.inl rfl) h) (λ_ _ h=>⟨_,rfl,h⟩) ⟨_,rfl,trivial,λG w h=>?_⟩;have a:St W (brk c x p pl (A0 m2) (s.give y.ten 1) (Row b 55 (leV y)::F)) w:=zf 0 12 (zb h) rfl;refine z8 12 a rfl rfl (zg 12 a rfl rfl (z8 12 a rfl rfl ((qba ⟨10,y.name,e0,y.epoch,0⟩ a).of λv w ⟨d,a⟩=>⟨d,zg 12 a rfl rfl ?_⟩)));exact(qhq y.name a).of λv w ⟨d,a⟩=>⟨d,rfl,a.del 12 rfl⟩
end
end
section
section
variable{W w:World}{F l:List Asn}{ro:Asn}{c:qy}{x m2 q:Nat}{p:qm3}{pl:List Nat}{sn:Option Nat}{s:Bk}{id:Int}{cs:List Value}{r:q31}
def Ef.le{C:Cls}{K:Ad->Cls->Prop}{b:Nat}(c:Is W C l)(y:LeD)(d:K (Zt #[]) (StC W (Row b 55 (leV y)::l))):
 Ef (Cls.push C (b,.cells #[(Zs ⟨#[]⟩),(Zs ⟨#[]⟩),(Zi Zk 0),(Zi Zk 0),(Zi Zk 0),(Zb A8)] 55)) (λw K=>
  St1 (Za ⟨b,0,A4⟩ 0) (Zs y.name) w λw=>St1 (Za ⟨b,0,A4⟩ 1) (Zs y.ten) w λw=>St1 (Za ⟨b,0,A4⟩ 2) (Zi Zk y.conn) w λw=>
  St1 (Za ⟨b,0,A4⟩ 3) (Zi Zk y.epoch) w λw=>St1 (Za ⟨b,0,A4⟩ 4) (Zi Zk y.til) w λw=>St1 (Za ⟨b,0,A4⟩ 5) (Zb y.held) w λw=>K (Zt #[]) w) K:=
 zk (α:=Unit) (V:=λ_=>Zt #[]) (B:=λ_=>Row b 55 (leV y)::l) () (c.push b _) (λG w h=>by have a:=h.imp z0c;exact St1.zz 0 a rfl λw a=>St1.zz 0 a rfl λw a=>St1.zz 0 a rfl λw a=>St1.zz 0 a rfl λw a=>St1.zz 0 a rfl λw a=>St1.zz 0 a rfl λw a=>⟨(),rfl,a⟩) λ_=>d
def cpL{a b:Nat}{y:LeD}{m u1:ByteArray}{u2 o p e:Int}{n:Bool}{R:Ad->A6->Prop}(h:St W (Row a 55 (leV y)::Row b 55 [Zs m,Zs u1,Zi Zk u2,Zi Zk o,Zi Zk p,Zb n]::l) w)
 (k:∀w,St W l w->R (Zt #[Zg (leV y).toArray,Zi Zk e]) w):
 LdS (Za ⟨a,0,A4⟩ 0) w λd=>LdS (Za ⟨a,0,A4⟩ 1) w λi=>LdI Zk (Za ⟨a,0,A4⟩ 2) w λg=>LdI Zk (Za ⟨a,0,A4⟩ 3) w λf=>LdI Zk (Za ⟨a,0,A4⟩ 4) w λj=>LdB (Za ⟨a,0,A4⟩ 5) w λc=>
 St1 (Za ⟨b,0,A4⟩ 0) (Zs d) w λw=>St1 (Za ⟨b,0,A4⟩ 1) (Zs i) w λw=>St1 (Za ⟨b,0,A4⟩ 2) (Zi Zk g) w λw=>
 St1 (Za ⟨b,0,A4⟩ 3) (Zi Zk f) w λw=>St1 (Za ⟨b,0,A4⟩ 4) (Zi Zk j) w λw=>St1 (Za ⟨b,0,A4⟩ 5) (Zb c) w λw=>
 LdS (Za ⟨b,0,A4⟩ 0) w λd=>LdS (Za ⟨b,0,A4⟩ 1) w λi=>LdI Zk (Za ⟨b,0,A4⟩ 2) w λg=>LdI Zk (Za ⟨b,0,A4⟩ 3) w λf=>LdI Zk (Za ⟨b,0,A4⟩ 4) w λj=>LdB (Za ⟨b,0,A4⟩ 5) w λc=>
 R (Zt #[Zg #[Zs d,Zs i,Zi Zk g,Zi Zk f,Zi Zk j,Zb c],Zi Zk e]) w:=
 zg 0 h rfl rfl (zg 0 h rfl rfl (z8 0 h rfl rfl (z8 0 h rfl rfl (z8 0 h rfl rfl (zx 0 h rfl rfl
  (St1.zz 1 h rfl λw h=>St1.zz 1 h rfl λw h=>St1.zz 1 h rfl λw h=>St1.zz 1 h rfl λw h=>St1.zz 1 h rfl λw h=>St1.zz 1 h rfl λw h=>
  zg 1 h rfl rfl (zg 1 h rfl rfl (z8 1 h rfl rfl (z8 1 h rfl rfl (z8 1 h rfl rfl (zx 1 h rfl rfl (k _ (z0f [_,_] h)))))))))))))
def qvk(name:ByteArray)(i:ql1 F c)(d:St W (qy1 ro c x p pl sn s F) w):qb Zp 351 #[qc x,Zi Zk id,Zs name] w λv w'=>v=Zt #[Zg (leV (s.held name)).toArray,Zi Zk (s.admE id name)]/\St W (qy1 ro c x p pl sn (s.admitted id name) F) w':=by
 unfold Bk.admitted Bk.admE Bk.held;suffices g:∀R:Ad->A6->Prop,(∀w',St W (qy1 ro c x p pl sn { s with O:=(s.admR id name (q06 s.B name s.K.now).1 (q06 s.B name s.K.now).2).1,Q:=(s.admR id name (q06 s.B name s.K.now).1 (q06 s.B name s.K.now).2).2.1} F) w'->R (Zt #[Zg (leV (q06 s.B name s.K.now).1).toArray,Zi Zk (s.admR id name (q06 s.B name s.K.now).1 (q06 s.B name s.K.now).2).2.2]) w')->qb Zp 351 #[qc x,Zi Zk id,Zs name] w R from g _ λw' h=>⟨rfl,h⟩
 intro R a;refine F351_of (zh d λb w d=>⟨StC W _,zd d,z7 (z7 ⟨_,zo 1 ir rfl rfl,_,zo 1 ir rfl rfl,?_⟩)⟩);refine z04 9 ir rfl (λG w h=>Ck.Now_spec h) (λ_ _ h=>⟨_,rfl,h⟩) ⟨_,rfl,zo 1 ir rfl rfl,?_⟩;refine z04 4 ir rfl (λG w h=>qeg (name:=name) (now:=s.K.now) h) (λ_ _ h=>⟨_,_,_,_,_,_,_,rfl,h⟩) ⟨_,_,_,_,_,_,_,rfl,trivial,λe=>?_⟩;generalize q06 s.B name s.K.now=hy at a⊢;obtain⟨y,j⟩:=hy;refine Ef.le ir y ⟨rfl,trivial,λG w h=>?_⟩;have d:St W (Row e 55 (leV y)::Row b 55 [Zs ⟨#[]⟩,Zs ⟨#[]⟩,Zi Zk 0,Zi Zk 0,Zi Zk 0,Zb A8]::qy1 ro c x p pl sn s F) w:=zb h;clear h;unfold Bk.admR at a;dsimp only at a;refine za (λh=>?_) λh=>?_
 .rw[yB (by simpa using h)]at a;exact cpL d a
 rw[yA (by simpa using h)]at a;refine⟨StC W _,zd d,z7 (z7 ⟨_,zo 2 ir rfl rfl,_,zu 0 ir rfl rfl,_,zo 2 ir rfl rfl,?_⟩)⟩;refine z04 9 ir rfl (λG w h=>Cn.Addr_spec (id:=id) h) (λ_ _ h=>⟨_,rfl,h⟩) ⟨_,rfl,⟨zu 0 ir rfl rfl,zo 2 ir rfl rfl⟩,?_⟩;refine z04 4 ir rfl (λG w h=>qvo (s:=y.ten) (((((((((((((i.app (pts G)).cons _).cons _).cons _).cons _).cons _).cons _).cons _).cons _).cons _).cons _).cons _).cons _ |>.cons _) h) (λ_ _ h=>⟨_,rfl,h⟩) ⟨_,rfl,trivial,λG w h=>?_⟩;have d:St W (Row e 55 (leV y)::Row b 55 [Zs ⟨#[]⟩,Zs ⟨#[]⟩,Zi Zk 0,Zi Zk 0,Zi Zk 0,Zb A8]::qy1 ro c x p pl sn s F) w:=zb h;clear h;unfold Bk.ask at a;refine za (λh=>?_) λh=>?_
 .rw[yB (by simpa using h)]at a;exact cpL d a
 rw[yA (by simpa using h)]at a;refine⟨StC W _,zd d,z7 ⟨_,zo 2 ir rfl rfl,_,zu 0 ir rfl rfl,?_⟩⟩;refine z04 4 ir rfl (λG w h=>qyh (s:=y.ten) (.inr rfl) h) (λ_ _ h=>⟨_,rfl,h⟩) ⟨_,rfl,trivial,λG w h=>?_⟩;have d:=zb h;clear h;refine za (λh=>?_) λh=>?_
 .rw[yB (by simpa using h)]at a;exact cpL d a
 rw[yA (by simpa using h)]at a;refine z7 (z0k 2 d rfl rfl (qb.p 6 d rfl (λh=>Qu.Put_spec name id h) λw d=>⟨_,rfl,za (λh=>?_) λh=>?_⟩))
 .rw[yB (by simpa using h)]at a;refine⟨StC W _,zd d,z7 ⟨_,zo 2 ir rfl rfl,_,zu 0 ir rfl rfl,?_⟩⟩;refine z04 4 ir rfl (λG w h=>qx7 (s:=y.ten) (.inr rfl) h) (λ_ _ h=>⟨_,rfl,h⟩) ⟨_,rfl,trivial,λG w h=>?_⟩;exact cpL (zb h) a
 .have f:(Qu.gPut s.Q name id).2=0:=by simpa using h
  rw[yA (by rw[f];simp)]at a;rw[f];exact cpL d a
def qrb(y:LeD)(e:Int)(d:cs[0]?=A0 (Zi Zk id))(a:St W (qy1 ro c x p pl sn s (Row q 127 cs::F)) w):qb Zp 355 #[qc x,qc q,Zg (leV y).toArray,Zi Zk e] w λv w'=>v=Zt #[]/\St W (qy1 ro c x p pl sn (s.granted id y e) (Row q 127 cs::F)) w':=by
 unfold Bk.granted;refine F355_of (z08 12 a λb w a=>za (λh=>?_) λh=>?_)
 .have a:St W (qy1 ro c x p pl sn s (Row b 55 (leV y)::Row q 127 cs::F)) w:=a;rw[yB (by simpa using h)];exact z7 (z8 13 a rfl d ((qvf e a).of λv w ⟨f,a⟩=>⟨f,rfl,a.del 12 rfl⟩))
 .have a:St W (qy1 ro c x p pl sn s (Row b 55 (leV y)::Row q 127 cs::F)) w:=a;rw[yA (by simpa using h)];refine⟨StC W _,zd a,z7 ⟨_,zi 13 ir rfl d,_,zu 12 ir rfl rfl,_,zi 12 ir rfl rfl,_,zi 12 ir rfl rfl,?_⟩⟩;refine Ef.al (l':=qy1 ro c x p pl sn (s.tell id ⟨7,y.name,e0,y.epoch,y.til⟩) (Row b 55 (leV y)::Row q 127 cs::F)) ir (λG w h=>qba (F:=Row b 55 (leV y)::Row q 127 cs::F++pts G) ⟨7,y.name,e0,y.epoch,y.til⟩ h) (λ_ _ h=>⟨rfl,h⟩) ⟨rfl,trivial,λG w h=>⟨rfl,(zb h).del 12 rfl⟩⟩
end
end
section
def qrv{W w:A6}{F:List Asn}{p:Option Addr}{c:Nat}{xs:List LeD}{r:Ad}(g:LeD->Bool)(u:Rd F p (xs.flatMap leV))(B:xs.length<=9223372036854775807)
 (t:∀(x:LeD),x∈xs->∀(w:A6) (K:Ad->A6->Prop),St W F w->(∀w',St W F w'->K (Zb (g x)) w')->q01 Zp 4 r [Zg (leV x).toArray] w K) (d:St W F w):
 qb Zp 388 #[Zl p xs.length c,r] w λv w'=>v=Zi Zk (qt4 g xs)/\St W F w':=by
 refine F388_of ⟨λvs w=>∃i:Nat,vs=[Zi Zk i]/\i<=xs.length/\(∀j y,j<i->xs[j]?=A0 y->g y=A8)/\St W F w,leftN xs.length,⟨0,rfl,by omega,λj y h=>by omega,d⟩,λx w s=>?_⟩;obtain⟨i,A,C,o,d⟩:=s;cases A;refine za (λb=>?_) λm=>?_
 .have b:i<xs.length:=by have:=yC b;omega
  have l:xs[i]?=A0 (xs[i]'b):=A3 _;generalize xs[i]'b=y at l;refine z0e (f:=leV) (size:=6) (λ_=>rfl) (by omega) u d rfl b l λa k=>⟨_,k 0 _ rfl,⟨_,k 1 _ rfl,⟨_,k 2 _ rfl,⟨_,k 3 _ rfl,⟨_,k 4 _ rfl,⟨_,k 5 _ rfl,t y (List.mem_of_getElem? l) w _ d λw' d=>⟨_,rfl,?_⟩⟩⟩⟩⟩⟩⟩;cases hy:g y with
  |true=>exact⟨by rw[qs8 l hy o],d⟩
  |false=>
   rw[up b B];exact⟨⟨i+1,rfl,by omega,λj z D q=>by
    by_cases e:j=i;.subst e;rw[l]at q;cases q;exact hy
    .exact o j z (by omega) q,d⟩,by show xs.length -(i+1)<xs.length - i;omega⟩
 have n:i=xs.length:=by have:=yD m;omega
 subst n;exact⟨by rw[qq8 λj y h=>o j y (Ab.1 h).1 h],d⟩
def qqv{W w:A6}{F:List Asn}{p:Option Addr}{c:Nat}{xs:List LeD}{a:Ad}(g:LeD->Bool)(d:Rd F p (xs.flatMap leV))(f:xs.length<=9223372036854775807)
 (b:∀(x:LeD),x∈xs->∀(w:A6) (K:Ad->A6->Prop),St W F w->(∀w',St W F w'->K (Zb (g x)) w')->q01 Zp 4 a [Zg (leV x).toArray] w K) (h:St W F w):
 qb Zp 360 #[Zl p xs.length c,a] w λv w'=>v=Zb (xs.any g)/\St W F w':=
 F360_of ((qrv g d f b h).of λv w ⟨e,h⟩=>⟨_,e,by rw[qkd],h⟩)
def q4y(so:LeD->Bool)(l:List ByteArray)(s:LeL×List LeD):(l.foldl (q64 so λd=>d) s).1=s.1:=by
 induction l generalizing s with
 |nil=>rfl
 |cons a l w=>
  rw[Ap,w];unfold q64;split;.rfl
  .rename_i d h;split;.exact qt1 h
   .rfl
def qmv(so:LeD->Bool)(L:LeL):(qk4 so (λd=>d) L).1=L:=q4y so _ _
def qzj{W w:A6}{F:List Asn}{b:Nat}{B:qi3}(h:St W (q41 b B::F) w):qb Zp 48 #[qc b] w λv w'=>∃p c,v=Zl p (q3h B.L).length c/\St W (SlA 55 6 leV p c (q3h B.L)::q41 b B::F) w':=
 (All_spec h).of λv w ⟨p,c,a,_,h⟩=>by rw[qmv]at h;exact⟨p,c,a,h⟩
def rv0{pl:List Nat}{sb:Option Nat}{d:q31}{id:Int}(h:d.conn=id):(qs pl sb d)[0]?=A0 (Zi Zk id):=by subst h;rfl
section
variable{W w:World}{F l:List Asn}{ro:Asn}{c:qy}{x m2 q:Nat}{p:qm3}{pl:List Nat}{sn:Option Nat}{s:Bk}{id:Int}{cs:List Value}{r:q31}
def q0o(m:qk1)(f:cs[0]?=A0 (Zi Zk id))(g:cs[2]?=A0 (Zs r.ten))(a:St W (qy1 ro c x p pl sn s (Row q 127 cs::F)) w):qb Zp 317 #[qc x,qc q,ql2 m] w λv w'=>v=Zt #[]/\St W (qy1 ro c x p pl sn (s.claim id r m) (Row q 127 cs::F)) w':=by
 unfold Bk.claim;refine F317_of (z08 13 a λb w a=>⟨StC W _,zd a,z7 (z7 ⟨_,zo 0 ir rfl rfl,_,zu 12 ir rfl g,?_⟩)⟩);refine z04 2 ir rfl (λG w h=>qyh (s:=r.ten) (.inl rfl) h) (λ_ _ h=>⟨_,rfl,h⟩) ⟨_,rfl,trivial,λG w h=>?_⟩;have a:St W (qy1 ro c x p pl sn { s with O:=(qq5 s.O r.ten 1).1} (Row q 127 cs::Row b 74 [Zi Zk m.k,Zs m.A,Zs m.B,Zi Zk m.N,Zi Zk m.M]::F)) w:=zb h;clear h;refine za (λh=>?_) λh=>?_
 .rw[yB (by simpa using h)];exact z7 (z8 12 a rfl f ((qvf (qq5 s.O r.ten 1).2 a).of λv w ⟨d,a⟩=>⟨d,rfl,a.del 13 rfl⟩))
 rw[yA (by simpa using h)];generalize { s with O:=(qq5 s.O r.ten 1).1}=s at a⊢;unfold Bk.claim1;refine⟨StC W _,zd a,z7 (z7 (z7 (z7 ⟨_,zo 0 ir rfl rfl,_,zu 12 ir rfl g,_,zu 13 ir rfl rfl,_,zi 12 ir rfl f,_,zo 0 ir rfl rfl,_,zi 13 ir rfl rfl,?_⟩)))⟩;refine z04 8 ir rfl (λG w h=>Ck.Now_spec h) (λ_ _ h=>⟨_,rfl,h⟩) ⟨_,rfl,⟨zi 13 ir rfl rfl,zi 12 ir rfl f,zu 13 ir rfl rfl,zu 12 ir rfl g,zo 0 ir rfl rfl⟩,?_⟩;refine z04 3 ir rfl (λG w h=>qir (ten:=r.ten) (name:=m.A) (conn:=id) (now:=s.K.now) (ttl:=m.N) h) (λ_ _ h=>⟨_,_,_,_,_,_,_,rfl,h⟩) ⟨_,_,_,_,_,_,_,rfl,trivial,λi=>?_⟩;refine Ef.le ir (qk5 s.B r.ten m.A id s.K.now m.N).2.1 ⟨rfl,trivial,λG w h=>?_⟩;have a:=zb h;clear h;generalize qk5 s.B r.ten m.A id s.K.now m.N=cl at a⊢;obtain⟨B,y,e⟩:=cl;have a:St W (Row i 55 (leV y)::qy1 ro c x p pl sn { s with B:=B} (Row q 127 cs::Row b 74 [Zi Zk m.k,Zs m.A,Zs m.B,Zi Zk m.N,Zi Zk m.M]::F)) w:=a;dsimp only;refine za (λh=>?_) λh=>?_
 .rw[yB (by simpa using h)];refine⟨StC W _,zd a,z7 (z7 ⟨_,zo 1 ir rfl rfl,_,zu 13 ir rfl g,?_⟩)⟩;refine z04 3 ir rfl (λG w h=>qx7 (s:=r.ten) (.inl rfl) h) (λ_ _ h=>⟨_,rfl,h⟩) ⟨_,rfl,trivial,λG w h=>?_⟩;have a:=zb h;refine zg 0 a rfl rfl (zg 0 a rfl rfl (z8 0 a rfl rfl (z8 0 a rfl rfl (z8 0 a rfl rfl (zx 0 a rfl rfl ?_)))));have a:St W (qy1 ro c x p pl sn (({ s with B:=B}:Bk).give r.ten 1) (Row q 127 cs::Row i 55 (leV y)::Row b 74 [Zi Zk m.k,Zs m.A,Zs m.B,Zi Zk m.N,Zi Zk m.M]::F)) w:=zf 0 13 a rfl;exact(qrb (s:=({ s with B:=B}:Bk).give r.ten 1) y e f a).of λv w ⟨d,a⟩=>⟨d,rfl,(a.del 13 rfl).del 13 rfl⟩
 .rw[yA (by simpa using h)];refine zg 0 a rfl rfl (zg 0 a rfl rfl (z8 0 a rfl rfl (z8 0 a rfl rfl (z8 0 a rfl rfl (zx 0 a rfl rfl ?_)))));have a:St W (qy1 ro c x p pl sn { s with B:=B} (Row q 127 cs::Row i 55 (leV y)::Row b 74 [Zi Zk m.k,Zs m.A,Zs m.B,Zi Zk m.N,Zi Zk m.M]::F)) w:=zf 0 13 a rfl;exact(qrb (s:={ s with B:=B}) y e f a).of λv w ⟨d,a⟩=>⟨d,rfl,(a.del 13 rfl).del 13 rfl⟩
def qmo(m:qk1)(i:cs[0]?=A0 (Zi Zk id))(f:cs[2]?=A0 (Zs r.ten))(a:St W (qy1 ro c x p pl sn s (Row q 127 cs::F)) w):qb Zp 318 #[qc x,qc q,ql2 m] w λv w'=>v=Zt #[]/\St W (qy1 ro c x p pl sn (s.renew id r m) (Row q 127 cs::F)) w':=by unfold Bk.renew;refine F318_of (z08 13 a λb w a=>⟨StC W _,zd a,z7 (z7 (z7 ⟨_,zo 0 ir rfl rfl,_,zu 12 ir rfl f,_,zu 13 ir rfl rfl,_,zi 13 ir rfl rfl,_,zo 0 ir rfl rfl,_,zi 13 ir rfl rfl,?_⟩))⟩);refine z04 8 ir rfl (λG w h=>Ck.Now_spec h) (λ_ _ h=>⟨_,rfl,h⟩) ⟨_,rfl,⟨zi 13 ir rfl rfl,zi 13 ir rfl rfl,zu 13 ir rfl rfl,zu 12 ir rfl f,zo 0 ir rfl rfl⟩,?_⟩;refine z04 3 ir rfl (λG w h=>qfq (ten:=r.ten) (name:=m.A) (epoch:=m.N) (now:=s.K.now) (ttl:=m.M) h) (λ_ _ h=>⟨_,_,_,_,_,_,_,rfl,h⟩) ⟨_,_,_,_,_,_,_,rfl,trivial,λd=>?_⟩;refine Ef.le ir (qpb s.B r.ten m.A m.N s.K.now m.M).2.1 ⟨rfl,trivial,λG w h=>?_⟩;have a:=zb h;clear h;generalize qpb s.B r.ten m.A m.N s.K.now m.M=cl at a⊢;obtain⟨B,y,e⟩:=cl;have a:St W (Row d 55 (leV y)::qy1 ro c x p pl sn { s with B:=B} (Row q 127 cs::Row b 74 [Zi Zk m.k,Zs m.A,Zs m.B,Zi Zk m.N,Zi Zk m.M]::F)) w:=a;dsimp only;refine zg 0 a rfl rfl (zg 0 a rfl rfl (z8 0 a rfl rfl (z8 0 a rfl rfl (z8 0 a rfl rfl (zx 0 a rfl rfl ?_)))));have a:St W (qy1 ro c x p pl sn { s with B:=B} (Row q 127 cs::Row d 55 (leV y)::Row b 74 [Zi Zk m.k,Zs m.A,Zs m.B,Zi Zk m.N,Zi Zk m.M]::F)) w:=zf 0 13 a rfl;exact(qrb (s:={ s with B:=B}) y e i a).of λv w ⟨g,a⟩=>⟨g,rfl,(a.del 13 rfl).del 13 rfl⟩
def qmq(m:qk1)(h:St W l w):qb Zp 320 #[qc x,qc q,ql2 m] w λv w'=>v=Zt #[]/\St W l w':=
 F320_of (zh h λb w h=>⟨rfl,h.drop⟩)
def qwk{sb:Option Nat}(m:qk1)(k:r.conn=id)(j:∀i,r.pump=A0 i->i<pl.length)(g:qe s.roles id=A0 r)(a:St W (q32 c x p pl (A0 m2) s id q (Row q 127 (qs pl sb r)::q02 p.v sb r.sh::F)) w):
 qb Zp 319 #[qc x,qc q,ql2 m] w λv w'=>v=Zt #[]/\St W (brk c x p pl (A0 m2) (s.release id r m) F) w':=by
 unfold Bk.release;refine F319_of (z08 14 a λb w a=>⟨StC W _,zd a,z7 (z7 ⟨_,zo 0 ir rfl rfl,_,zu 14 ir rfl rfl,_,zo 0 ir rfl rfl,?_⟩)⟩);refine z04 8 ir rfl (λG w h=>Ck.Now_spec h) (λ_ _ h=>⟨_,rfl,h⟩) ⟨_,rfl,⟨zu 14 ir rfl rfl,zo 0 ir rfl rfl⟩,?_⟩;refine z04 3 ir rfl (λG w h=>qeg (name:=m.A) (now:=s.K.now) h) (λ_ _ h=>⟨_,_,_,_,_,_,_,rfl,h⟩) ⟨_,_,_,_,_,_,_,rfl,trivial,λf=>?_⟩;generalize q06 s.B m.A s.K.now=hy;obtain⟨y,l⟩:=hy;refine Ef.le ir y ⟨rfl,trivial,λG w h=>?_⟩;have a:St W (Row f 55 (leV y)::q32 c x p pl (A0 m2) s id q (Row q 127 (qs pl sb r)::q02 p.v sb r.sh::Row b 74 [Zi Zk m.k,Zs m.A,Zs m.B,Zi Zk m.N,Zi Zk m.M]::F)) w:=zb h;clear h;refine⟨StC W _,zd a,z7 (z7 (z7 ⟨_,zo 1 ir rfl rfl,_,zu 13 ir rfl rfl,_,zu 15 ir rfl rfl,_,zi 15 ir rfl rfl,_,zo 1 ir rfl rfl,?_⟩))⟩;refine z04 9 ir rfl (λG w h=>Ck.Now_spec h) (λ_ _ h=>⟨_,rfl,h⟩) ⟨_,rfl,⟨zi 15 ir rfl rfl,zu 15 ir rfl rfl,zu 13 ir rfl rfl,zo 1 ir rfl rfl⟩,?_⟩;refine z04 4 ir rfl (λG w h=>q4m (ten:=r.ten) (name:=m.A) (epoch:=m.N) (now:=s.K.now) h) (λ_ _ h=>⟨_,rfl,h⟩) ⟨_,rfl,trivial,λG w h=>?_⟩;have a:=zb h;clear h;generalize qmb s.B r.ten m.A m.N s.K.now=cl at a⊢;obtain⟨B,e⟩:=cl;have a:St W (Row f 55 (leV y)::q32 c x p pl (A0 m2) { s with B:=B} id q (Row q 127 (qs pl sb r)::q02 p.v sb r.sh::Row b 74 [Zi Zk m.k,Zs m.A,Zs m.B,Zi Zk m.N,Zi Zk m.M]::F)) w:=a;dsimp only;refine za (λh=>?_) λh=>?_
 .rw[yB (by simpa using h)];refine z7 (z8 13 a rfl (rv0 k) ?_);have a:St W (q32 c x p pl (A0 m2) { s with B:=B} id q (Row f 55 (leV y)::Row q 127 (qs pl sb r)::q02 p.v sb r.sh::Row b 74 [Zi Zk m.k,Zs m.A,Zs m.B,Zi Zk m.N,Zi Zk m.M]::F)) w:=zf 0 12 a rfl;exact(qvf (s:={ s with B:=B}) e a).of λv w ⟨d,a⟩=>⟨d,rfl,z07 (s:=({ s with B:=B}:Bk).no id e) j g ((a.del 12 rfl).del 14 rfl)⟩
 .rw[yA (by simpa using h)];refine zg 0 a rfl rfl (zg 0 a rfl rfl (z8 0 a rfl rfl (z8 0 a rfl rfl (z8 0 a rfl rfl (zx 0 a rfl rfl ?_)))));have a:=z07 (s:={ s with B:=B}) j g (zf 0 14 a rfl);exact(qdf (s:={ s with B:=B}) y a).of λv w ⟨d,a⟩=>⟨d,rfl,(a.del 12 rfl).del 12 rfl⟩
end
end
section
section
variable{κ δ:Type}[DecidableEq κ]
def qw.put{enc:κ->Ad}{m b:Nat}{A:Nat->δ->Asn}{L:List (κ×δ)}{k:κ}{W w:A6}{F:List Asn}(d:δ)(h:St W (qw enc m A L k b::F) w):St W (qw enc m A (qk L k d) k b::F) w:=by
 obtain⟨bs,⟨f,d0,a⟩,c⟩:=qw.open_ h;subst f;refine qw.shut (qk bs k (b,d)) ⟨(qt2 (Au (α:=Nat) (β:=δ)) bs k (b,d)).symm,d,qj1 _ _ _⟩ ?_;have e:qx (Af (α:=Nat) (β:=δ)) (qk bs k (b,d))=qx (Af (α:=Nat) (β:=δ)) bs:=by rw[<-qt2];exact qt1 (by rw[q62,a];rfl)
 rw[e,adel_aset];exact c
end
section
variable{W w:World}{F l:List Asn}{ro:Asn}{c:qy}{x m2 q:Nat}{p:qm3}{pl:List Nat}{sn:Option Nat}{s:Bk}{id:Int}{cs:List Value}{r:q31}
def q32.put(r:q31)(h:St W (q32 c x p pl sn s id q F) w):St W (q32 c x p pl sn (s.put id r) id q F) w:=zf 0 9 (qw.put r (zf 9 0 h rfl)) rfl
def Ef.msg{C:Cls}{K:Ad->Cls->Prop}{b:Nat}(k:Nat)(c:Is W C l)(y:qk1)(d:K (Zt #[]) (StC W (ins k (Row b 74 [Zi Zk y.k,Zs y.A,Zs y.B,Zi Zk y.N,Zi Zk y.M]) l))):
 Ef (Cls.push C (b,.cells #[(Zi Zk 0),(Zs ⟨#[]⟩),(Zs ⟨#[]⟩),(Zi Zk 0),(Zi Zk 0)] 74)) (λw K=>
  St1 (Za ⟨b,0,A4⟩ 0) (Zi Zk y.k) w λw=>St1 (Za ⟨b,0,A4⟩ 1) (Zs y.A) w λw=>St1 (Za ⟨b,0,A4⟩ 2) (Zs y.B) w λw=>
  St1 (Za ⟨b,0,A4⟩ 3) (Zi Zk y.N) w λw=>St1 (Za ⟨b,0,A4⟩ 4) (Zi Zk y.M) w λw=>K (Zt #[]) w) K:=
 zk (α:=Unit) (V:=λ_=>Zt #[]) (B:=λ_=>ins k (Row b 74 [Zi Zk y.k,Zs y.A,Zs y.B,Zi Zk y.N,Zi Zk y.M]) l) () (c.push b _) (λG w h=>by have a:=h.imp z0c;exact St1.zz 0 a rfl λw a=>St1.zz 0 a rfl λw a=>St1.zz 0 a rfl λw a=>St1.zz 0 a rfl λw a=>St1.zz 0 a rfl λw a=>⟨(),rfl,by have a:St W (Row b 74 [Zi Zk y.k,Zs y.A,Zs y.B,Zi Zk y.N,Zi Zk y.M]::l++pts G) w:=a;exact a.perm ((qh7 k _ l).append_right _)⟩) λ_=>d
def Ef.alarm{C:Cls}{K:Ad->Cls->Prop}{b:Nat}{after:Int}(ids:List Int)(f:ids.length<=1000000)(d:Is W C (qy1 ro c x p pl sn s F))(g:K (Zt #[]) (StC W (qy1 ro c x p pl sn (s.alarm after ids) F))):
 Ef (Cls.push C (b,.cells (ids.map (Zi Zk)).toArray 3)) (λw K=>qb Zp 122 #[qc x,Zi Zk after,.slice (A0 ⟨b,0,A4⟩) ids.length ids.length] w λv w'=>v=Zt #[]/\K (Zt #[]) w') K:=
 zk (α:=Unit) (V:=λ_=>Zt #[]) (B:=λ_=>qy1 ro c x p pl sn (s.alarm after ids) F) () (d.push b _) (λG w h=>by have a:St W (qy1 ro c x p pl sn s (Row b 3 (ids.map (Zi Zk))::F++pts G)) w:=zf 0 12 (h.imp z0c) rfl;refine(q7i (z0z 0 λi v h=>by rw[As];exact h) f a).of λv w ⟨e,a⟩=>⟨e,(),rfl,?_⟩;exact a.del 12 rfl) λ_=>g
def q6r{sb:Option Nat}(name draw:ByteArray)(j:ql1 F c)(l:r.conn=id)(k:∀i,r.pump=A0 i->i<pl.length)(g:qe s.roles id=A0 r)(a:St W (q32 c x p pl (A0 m2) s id q (Row q 127 (qs pl sb r)::q02 p.v sb r.sh::F)) w):
 qb Zp 314 #[qc x,qc q,Zs name,Zs draw] w λv w'=>v=Zt #[]/\St W (brk c x p pl (A0 m2) (s.reach c id r name draw) F) w':=by
 subst l;unfold Bk.reach;refine F314_of (z7 (z8 12 a rfl rfl ((qvk name ((j.cons _).cons _) a).of λv w ⟨f,a⟩=>⟨_,_,_,_,_,_,_,f,z08 14 a λb w a=>?_⟩)));refine St1.zz 14 a rfl λw a=>St1.zz 14 a rfl λw a=>St1.zz 14 a rfl λw a=>St1.zz 14 a rfl λw a=>St1.zz 14 a rfl λw a=>St1.zz 14 a rfl λw a=>?_;have a:St W (q32 c x p pl (A0 m2) (s.admitted r.conn name) r.conn q (Row q 127 (qs pl sb r)::q02 p.v sb r.sh::Row b 55 (leV (s.held name))::F)) w:=a;generalize s.admE r.conn name=e;refine za (λh=>?_) λh=>?_
 .rw[yB (by simpa using h)];refine z7 (z8 12 a rfl rfl ?_);have a:=z07 (s:=s.admitted r.conn name) k g a;exact(q18 e a).of λv w ⟨f,a⟩=>⟨f,rfl,a.del 12 rfl⟩
 rw[yA (by simpa using h)];have g:qe (s.admitted r.conn name).roles r.conn=A0 r:=g;generalize s.admitted r.conn name=s1 at a g⊢;generalize s.held name=y at a⊢;refine⟨StC W _,zd a,z7 ⟨_,zi 12 ir rfl rfl,_,zu 14 ir rfl rfl,_,zi 14 ir rfl rfl,z7 ?_⟩⟩;refine zk (α:=Unit) (V:=λ_=>Zt #[]) (B:=λ_=>q32 c x p pl (A0 m2) s1 r.conn q (Row q 127 (qs pl sb { r with kind:=3,ten:=y.ten,name:=name,epoch:=y.epoch})::q02 p.v sb r.sh::Row b 55 (leV y)::F)) () ir (λG w a=>St1.zz 12 a rfl λw a=>St1.zz 12 a rfl λw a=>St1.zz 12 a rfl λw a=>St1.zz 12 a rfl λw a=>St1.zz 12 a rfl λw a=>⟨(),rfl,a⟩) λ_=>⟨rfl,trivial,λG w h=>?_⟩;have a:=zb h;clear h;refine⟨StC W _,zd a,z7 (z7 ⟨_,zi 0 ir rfl rfl,_,zi 12 ir rfl rfl,λm=>?_⟩)⟩;refine Ef.alarm [r.conn] (by simp) ir ⟨rfl,trivial,λG w h=>?_⟩;have a:=zb h;clear h;refine⟨StC W _,zd a,z7 (z7 ⟨_,zo 0 ir rfl rfl,_,zi 12 ir rfl rfl,_,zu 14 ir rfl rfl,_,zi 14 ir rfl rfl,?_⟩)⟩;refine z04 5 ir rfl (λG w h=>q1q (p:=⟨r.conn,name,y.ten,y.epoch⟩) (drawn:=draw) ((j.tab.app (pts G)).pre [_,_,_,_,_,_,_,_,_,_,_,_,_,_]) h) (λ_ _ h=>⟨_,_,rfl,h⟩) ⟨_,_,rfl,trivial,λG w h=>?_⟩;have a:=zb h;clear h;refine z8 14 a rfl rfl ?_;have a:St W (q32 c x p pl (A0 m2) {(s1.alarm c.wait [r.conn])with T:=(qca s1.T ⟨r.conn,name,y.ten,y.epoch⟩ draw).1} r.conn q (Row q 127 (qs pl sb { r with kind:=3,ten:=y.ten,name:=name,epoch:=y.epoch})::q02 p.v sb r.sh::Row b 55 (leV y)::F)) w:=a;refine(qba ⟨11,name,(qca s1.T ⟨r.conn,name,y.ten,y.epoch⟩ draw).2.1,0,0⟩ a).of λv w ⟨f,a⟩=>⟨f,rfl,?_⟩;exact(brk.set (d:={ r with kind:=3,ten:=y.ten,name:=name,epoch:=y.epoch}) k a).del 12 rfl
end
end
section
def qok(bs:List UInt8)(k:Nat):(bytesRow (mkS bs) ((mkS bs).size+k)).toList=bs.map qd++Aq k (Zi .u8 0):=by unfold bytesRow;rw[qf1];simp[mkS,qd,Function.comp_def]
def qpw{b k:Nat}{y:ByteArray}{e:TypeId}:∀h,Pt b ((Two.rowB y e).1 k) h->Row b e ((qm y).map qd++Aq k (Zi .u8 0)) h:=λh d=>by
 obtain⟨bs,rfl⟩:∃bs,y=mkS bs:=⟨qm y,(qd5 y).symm⟩;have f:=qok bs k;have c:qm (mkS bs)=bs:=by simp[qm,mkS]
 rw[c,<-f];exact⟨_,_,d,rfl,λi w a=>by rw[Aa]at w;exact Nat.lt_irrefl _ (Nat.lt_of_lt_of_le w a.1)⟩
def qqz(s:ByteArray)(n:Nat):qm (s.extract 0 (Ag (if(n:Int)<(s.size:Int)then(n:Int)else(s.size:Int))))=(qm s).take n:=by
 unfold qm;rw[ByteArray.data_extract,Array.toList_extract];have w:s.data.toList.length=s.size:=Aa;split;.simp
 .rename_i h;rw[Int.toNat_natCast];simp only[List.extract,List.drop_zero,Nat.sub_zero];rw[A2 (by omega),A2 (by omega)]
section
variable{W w:World}{F l:List Asn}{ro:Asn}{c:qy}{x m2 q:Nat}{p:qm3}{pl:List Nat}{sn:Option Nat}{s s':Bk}{id:Int}{cs:List Value}{r:q31}
set_option maxHeartbeats 1000000 in
def qur{sb:Option Nat}(m:qk1)(draw:ByteArray)(X:ql1 F c)(hc:r.conn=id)(Q:∀i,r.pump=A0 i->i<pl.length)(t:qe s.roles id=A0 r)(j:s.greet c id r m draw=A0 s')(a:St W (q32 c x p pl (A0 m2) s id q (Row q 127 (qs pl sb r)::q02 p.v sb r.sh::F)) w):
 qb Zp 275 #[qc x,qc q,ql2 m,Zs draw] w λv w'=>v=Zt #[]/\St W (brk c x p pl (A0 m2) s' F) w':=by
 subst hc;unfold Bk.greet at j;refine F275_of (z08 14 a λb w a=>⟨λ_ w=>(m.k==14&&!r.heard)=A8/\St W (q32 c x p pl (A0 m2) s r.conn q (Row q 127 (qs pl sb r)::q02 p.v sb r.sh::Row b 74 [Zi Zk m.k,Zs m.A,Zs m.B,Zi Zk m.N,Zi Zk m.M]::F)) w,z8 14 a rfl rfl (za (λh=>z7 (zx 12 a rfl rfl (za (λK=>zg 14 a rfl rfl ?_) λK=>⟨by rw[h,K];rfl,a⟩))) λh=>⟨by rw[h];rfl,a⟩),λw C=>?_⟩)
 .rw[yB (by rw[h,K];rfl)]at j;cases j;exact(q6r m.A draw (X.cons (Row b 74 [Zi Zk m.k,Zs m.A,Zs m.B,Zi Zk m.N,Zi Zk m.M])) rfl Q t a).of λv w ⟨A,a⟩=>⟨A,rfl,a.del 12 rfl⟩
 obtain⟨U,a⟩:=C;rw[yA (by rw[U];simp)]at j;clear U;obtain⟨f,o⟩:∃f,f=if r.heard=Ah then r else { r with heard:=Ah,token:=m.B}:=⟨_,rfl⟩
 rw[<-o]at j;dsimp only at j;have H:f.conn=r.conn:=by rw[o];split<;>rfl
 have M:∀i,f.pump=A0 i->i<pl.length:=by rw[o];split<;>exact Q
 have O:f.sh=r.sh:=by rw[o];split<;>rfl
 refine z7 (zx 12 a rfl rfl ⟨λ_ w=>St W (q32 c x p pl (A0 m2) s r.conn q (Row q 127 (qs pl sb f)::q02 p.v sb f.sh::Row b 74 [Zi Zk m.k,Zs m.A,Zs m.B,Zi Zk m.N,Zi Zk m.M]::F)) w,?_,λw a=>?_⟩)
 .refine za (λh=>?_) λh=>?_
  .rw[o,yA (by simpa using h)];refine⟨StC W _,zd a,z7 ⟨_,zu 14 ir rfl rfl,?_⟩⟩;refine z0q 12 ir rfl (by simp[qs]) ⟨rfl,zu 14 ir rfl rfl,z7 ?_⟩;exact z0q 12 ir rfl (by simp[qs]) ⟨rfl,trivial,λG w h=>zb h⟩
  .rw[o,yB (by simpa using h)];exact a
 rename_i N;clear N;rw[<-H]at a t;rw[<-H]at j;have a:=q32.put f a;have t:qe (s.put f.conn f).roles f.conn=A0 f:=qj1 _ _ _;clear o Q O;cases hsh:f.sh with
 |none=>rw[hsh]at j;cases j
 |some d=>
 rw[hsh]at j a;dsimp only at j;cases sb with
 |none=>exact yI (St.of_pr (p:=False) (zf 13 0 a rfl)).1 id
 |some b2=>
 have a:St W (q32 c x p pl (A0 m2) (s.put f.conn f) f.conn q (Row q 127 (qs pl (A0 b2) f)::qx2 p.v b2 d::Row b 74 [Zi Zk m.k,Zs m.A,Zs m.B,Zi Zk m.N,Zi Zk m.M]::F)) w:=a;have L:∀g,((s.put f.conn f).put f.conn g)=s.put f.conn g:=λg=>by unfold Bk.put;simp only[qe7]
 refine⟨StC W _,zd a,z7 (z7 ⟨⟨by omega,by split<;>omega,by split<;>omega⟩,?_⟩)⟩;have z:qm (draw.extract (Ag 0) (Ag (if(16:Int)<(draw.size:Int)then 16 else(draw.size:Int))))=(qm draw).take 16:=qqz draw 16;generalize draw.extract (Ag 0) (Ag (if(16:Int)<(draw.size:Int)then 16 else(draw.size:Int)))=y at z⊢;refine⟨_,zo 12 ir rfl rfl,_,_,_,_,_,qpn 14 ir rfl,_,zo 0 ir rfl rfl,?_⟩;refine z04 8 ir rfl (λG w h=>Ck.Now_spec h) (λ_ _ h=>⟨_,rfl,h⟩) ⟨_,rfl,⟨qpn 14 ir rfl,zo 12 ir rfl rfl⟩,λk Z=>?_⟩;have hl:y.size=(qm y).length:=Aa.symm;have hl2:(qm y).length<=16:=by rw[z,An];omega
 rw[hl];refine zk (α:=Unit) (V:=λ_=>Zs (Bk.nonce draw)) (B:=λ_=>q32 c x p pl (A0 m2) (s.put f.conn f) f.conn q (Row q 127 (qs pl (A0 b2) f)::qx2 p.v b2 d::Row b 74 [Zi Zk m.k,Zs m.A,Zs m.B,Zi Zk m.N,Zi Zk m.M]::F)) () (ir.push Z _) (λG w h=>?_) λ_=>⟨_,rfl,⟨qpn 14 ir rfl,zo 12 ir rfl rfl⟩,?_⟩
 .have a:=h.imp qpw;refine(q8m (bs:=qm y) (z0z 0 λi v h=>by rw[As,Ac (Ab.1 h).1];exact h) (by omega) a).of λv w ⟨A,a⟩=>⟨_,A,(),?_,a.drop⟩;unfold Bk.nonce;rw[z]
 generalize E:q75 c s.R d m s.K.now (Bk.nonce draw)=res at j;obtain⟨l,said,ok⟩:=res;refine zk (α:=Unit) (V:=λ_=>Zt #[ql2 said,Zb ok]) (B:=λ_=>q32 c x p pl (A0 m2) (s.put f.conn f) f.conn q (Row q 127 (qs pl (A0 b2) f)::qx2 p.v b2 l::Row b 74 [Zi Zk m.k,Zs m.A,Zs m.B,Zi Zk m.N,Zi Zk m.M]::F)) () ir (λG w h=>?_) λ_=>⟨_,_,_,_,_,_,rfl,trivial,λk2 D=>?_⟩
 .have Y:=qyn (c:=c) (R:=s.R) (m:=m) (now:=s.K.now) (nonce:=Bk.nonce draw) ((X.app (pts G)).pre [_,_,_,_,_,_,_,_,_,_,_,_,_]) (zf 2 1 (zf 13 0 h rfl) rfl);rw[E]at Y;exact Y.of λv w ⟨A,a⟩=>⟨_,_,_,_,_,_,A,(),rfl,zf 0 13 (zf 1 2 a rfl) rfl⟩
 refine Ef.msg 15 ir said ⟨rfl,trivial,λG w h=>?_⟩;have a:St W (q32 c x p pl (A0 m2) (s.put f.conn f) f.conn q (Row q 127 (qs pl (A0 b2) { f with sh:=A0 l})::qx2 p.v b2 l::Row b 74 [Zi Zk m.k,Zs m.A,Zs m.B,Zi Zk m.N,Zi Zk m.M]::Row D 74 [Zi Zk said.k,Zs said.A,Zs said.B,Zi Zk said.N,Zi Zk said.M]::F)) w:=zb h;clear h;have a:=q32.put { f with sh:=A0 l} a;rw[L]at a;have t:qe (s.put f.conn { f with sh:=A0 l}).roles f.conn=A0 { f with sh:=A0 l}:=qj1 _ _ _;obtain⟨g,u⟩:∃g,g=({ f with sh:=A0 l}:q31):=⟨_,rfl⟩;have P:g.conn=f.conn:=by rw[u]
 have J:∀i,g.pump=A0 i->i<pl.length:=by rw[u];exact M
 have I:g.sh=A0 l:=by rw[u]
 rw[<-u]at a t j;generalize s.put f.conn g=s1 at a t j;rw[<-P]at a t j;refine⟨StC W _,zd a,z7 ⟨_,zi 12 ir rfl rfl,_,_,_,_,_,qpn 15 ir rfl,?_⟩⟩;refine Ef.al (l':=q32 c x p pl (A0 m2) (s1.tell g.conn said) g.conn q (Row q 127 (qs pl (A0 b2) g)::qx2 p.v b2 l::Row b 74 [Zi Zk m.k,Zs m.A,Zs m.B,Zi Zk m.N,Zi Zk m.M]::Row D 74 [Zi Zk said.k,Zs said.A,Zs said.B,Zi Zk said.N,Zi Zk said.M]::F)) ir (λG w h=>qba (F:=Row q 127 (qs pl (A0 b2) g)::qx2 p.v b2 l::Row b 74 [Zi Zk m.k,Zs m.A,Zs m.B,Zi Zk m.N,Zi Zk m.M]::Row D 74 [Zi Zk said.k,Zs said.A,Zs said.B,Zi Zk said.N,Zi Zk said.M]::F++pts G) said h) (λ_ _ h=>⟨rfl,h⟩) ⟨rfl,trivial,λG w h=>?_⟩;have a:=zb h;clear h;have t:qe (s1.tell g.conn said).roles g.conn=A0 g:=t;generalize s1.tell g.conn said=s2 at a t j;refine z8 15 a rfl rfl ⟨λ_ w=>if said.k=5 then St W (brk c x p pl (A0 m2) (s2.shut g.conn) (Row q 127 (qs pl (A0 b2) g)::qx2 p.v b2 l::Row b 74 [Zi Zk m.k,Zs m.A,Zs m.B,Zi Zk m.N,Zi Zk m.M]::Row D 74 [Zi Zk said.k,Zs said.A,Zs said.B,Zi Zk said.N,Zi Zk said.M]::F)) w else St W (q32 c x p pl (A0 m2) s2 g.conn q (Row q 127 (qs pl (A0 b2) g)::qx2 p.v b2 l::Row b 74 [Zi Zk m.k,Zs m.A,Zs m.B,Zi Zk m.N,Zi Zk m.M]::Row D 74 [Zi Zk said.k,Zs said.A,Zs said.B,Zi Zk said.N,Zi Zk said.M]::F)) w,za (λh=>?_) λh=>?_,λw C=>?_⟩
 .refine z7 (z8 12 a rfl rfl ((qsn (n:=s2.roles.length) (q7h _) rfl rfl t (Ao _) a).of λv w ⟨A,a⟩=>⟨A,?_⟩));have e:s2.shut g.conn=Bk.after (λs i=>Bk.shutB s2.roles.length s i) (s2.out g.conn) g.conn g:=by unfold Bk.shut;simp only[Bk.shutB,t]
  dsimp only;rw[yB (by simpa using h),e];exact a
 .dsimp only;rw[yA (by simpa using h)];exact a
 clear a;dsimp only at C;by_cases T:said.k=5
 .rw[yB T]at C j;cases j;refine z7 (z0k 12 C rfl rfl ((qvl (C.at 13 rfl)).of λv w ⟨A,a⟩=>⟨_,_,A,za (λh=>?_) λh=>?_⟩))
  .have a:=z0v 13 a;exact z7 (St1.zz 12 a rfl λw a=>z7 (St1.zz 12 a rfl λw a=>⟨rfl,(((z03 12 a rfl).del 12 rfl).del 12 rfl).del 12 rfl⟩))
  .have a:=z0v 13 a;exact⟨rfl,(((z03 12 a rfl).del 12 rfl).del 12 rfl).del 12 rfl⟩
 .rw[yA T]at C j;refine z7 (z0k 12 C rfl rfl ((qvl (C.at 13 rfl)).of λv w ⟨A,a⟩=>⟨_,_,A,za (λh=>?_) λh=>?_⟩))
  .have a:=z0v 13 a;rw[yB h]at j⊢;cases j;refine z7 (St1.zz 12 a rfl λw a=>z7 (St1.zz 12 a rfl λw a=>⟨rfl,?_⟩));have a:St W (q32 c x p pl (A0 m2) s2 g.conn q (Row q 127 (qs pl (A0 b2) { g with kind:=2,ten:=l.ten})::q02 p.v (A0 b2) (A0 l)::Row b 74 [Zi Zk m.k,Zs m.A,Zs m.B,Zi Zk m.N,Zi Zk m.M]::Row D 74 [Zi Zk said.k,Zs said.A,Zs said.B,Zi Zk said.N,Zi Zk said.M]::F)) w:=a;rw[<-I]at a;have a:=((brk.set (d:={ g with kind:=2,ten:=l.ten}) J a).del 12 rfl).del 12 rfl;subst u;exact a
  .have a:=z0v 13 a;rw[yA (by rw[h];simp)]at j;rw[<-A1 j];have a:St W (q32 c x p pl (A0 m2) s2 g.conn q (Row q 127 (qs pl (A0 b2) g)::q02 p.v (A0 b2) (A0 l)::Row b 74 [Zi Zk m.k,Zs m.A,Zs m.B,Zi Zk m.N,Zi Zk m.M]::Row D 74 [Zi Zk said.k,Zs said.A,Zs said.B,Zi Zk said.N,Zi Zk said.M]::F)) w:=a;rw[<-I]at a;exact⟨rfl,((z07 J t a).del 12 rfl).del 12 rfl⟩
end
end
section
section
variable{κ δ:Type}[DecidableEq κ]
def q4f(L:List (κ×δ)){j k:κ}(h:j≠k)(v:δ):qp (qk L j v) k=qk (qp L k) j v:=by
 induction L with
 |nil=>simp[qk,qp,h]
 |cons x r b=>
  by_cases a:x.1=j
  .have w:¬x.1=k:=λe=>h (a ▸ e);simp only[qk,yB a,qp,yA h,yA w]
  .by_cases w:x.1=k;.simp only[qk,yA a,qp,yB w]
   .simp only[qk,yA a,qp,yA w,b]
variable{P:Program}{kt et mt:TypeId}{enc:κ->Value}{m b b2:Nat}{A A':Nat->δ->Asn}{L:List (κ×δ)}{k j:κ}{W w:World}{F l:List Asn}
def qfy{d:δ}(M:List (κ×Nat×δ))(h:St W (A b d::qz (M.map λy=>A y.2.1 y.2.2)::F) w):St W (qz ((qk M j (b,d)).map λy=>A y.2.1 y.2.2)::F) w:=by
 have a:St W (A b d::qz ((qp M j).map λy=>A y.2.1 y.2.2)::F) w:=by
  cases hg:qe M j with
  |none=>rw[ql6 hg];exact h
  |some v=>exact(((qf5 ((Go.Proofs.YtfjifcfbmhpcaaaGreatDoor.aget_perm hg).map λy:κ×Nat×δ=>A y.2.1 y.2.2) h.p1).drop).p1)
 refine q95 ?_ a;have:=(Go.Proofs.YtfjifcfbmhpcaaaGreatDoor.aget_perm (qj1 M j (b,d))).map λy:κ×Nat×δ=>A y.2.1 y.2.2;rw[adel_aset]at this;exact this.symm
def qw.imp(e:∀b d H,A b d H->A' b d H)(h:St W (qw enc m A L k b::F) w):St W (qw enc m A' L k b::F) w:=by
 obtain⟨bs,j,f⟩:=qw.open_ h;refine qw.shut bs j (z12 1 f rfl ?_);generalize qp bs k=M;have key:∀(M:List (κ×Nat×δ)) (H:Hp),Own (M.map λy=>A y.2.1 y.2.2) H->Own (M.map λy=>A' y.2.1 y.2.2) H:=λM=>by
  induction M with
  |nil=>exact λH h=>h
  |cons y r i=>exact λH ⟨g,l,a,c⟩=>⟨g,l,e _ _ _ a,i _ c⟩
 exact key M
def qw.set_ne(f:qw2 P kt enc)(g:P.underlying mt=A0 (.map kt et)){K:A6->Prop}{d:δ}(a:j≠k)(c:St W (A b2 d::qw enc m A L k b::F) w)
 (l:∀w',St W (qw enc m A (qk L j d) k b::F) w'->K w'):qt8 P (Instr.mapUpdate mt (.map (A0 m)) (enc j) (qc b2)) w K:=by
 obtain⟨bs,⟨o,d0,n⟩,i⟩:=qw.open_ c.p1;subst o;refine qh1 f g 0 i rfl j b2 λw' h=>l w' ?_;have h:St W (qg enc qc m (qk (qx (Af (α:=Nat) (β:=δ)) bs) j b2)::qz ((qp bs k).map λy=>A y.2.1 y.2.2)::A b2 d::F) w':=h;refine qw.shut (qk bs j (b2,d)) ⟨(qt2 (Au (α:=Nat) (β:=δ)) bs j (b2,d)).symm,d0,by rw[qh2,yA a];exact n⟩ ?_;rw[<-qt2,q4f _ a];have e:St W (A b2 d::qz ((qp bs k).map λy=>A y.2.1 y.2.2)::qg enc qc m (qk (qx (Af (α:=Nat) (β:=δ)) bs) j b2)::F) w':=zf 1 2 (zf 2 0 h rfl) rfl;exact(qfy _ e).p1
def qw.set_eq(e:qw2 P kt enc)(f:P.underlying mt=A0 (.map kt et)){K:A6->Prop}{d:δ}(a:St W (A b2 d::qw enc m A L k b::F) w)
 (i:∀w',St W (qr enc m A (qk L k d)::F) w'->K w'):qt8 P (Instr.mapUpdate mt (.map (A0 m)) (enc k) (qc b2)) w K:=by
 obtain⟨bs,⟨j,d0,n⟩,g⟩:=qw.open_ a.p1;subst j;refine qh1 e f 0 g rfl k b2 λw' h=>i w' ?_;have h:St W (qg enc qc m (qk (qx (Af (α:=Nat) (β:=δ)) bs) k b2)::qz ((qp bs k).map λy=>A y.2.1 y.2.2)::A b2 d::F) w':=h;refine z19 (qk bs k (b2,d)) (qt2 (Au (α:=Nat) (β:=δ)) bs k (b2,d)).symm ?_;have c:St W (A b2 d::qz ((qp bs k).map λy=>A y.2.1 y.2.2)::qg enc qc m (qk (qx (Af (α:=Nat) (β:=δ)) bs) k b2)::F) w':=zf 1 2 (zf 2 0 h rfl) rfl;rw[<-qt2];refine(q95 (l:=(qk bs k (b2,d)).map λy=>A y.2.1 y.2.2) ?_ c).p1;have:=(Go.Proofs.YtfjifcfbmhpcaaaGreatDoor.aget_perm (qj1 bs k (b2,d))).map λy:κ×Nat×δ=>A y.2.1 y.2.2;rw[adel_aset]at this;exact this.symm
end
section
variable{W w:World}{F l:List Asn}{ro:Asn}{c:qy}{x m2 q pb:Nat}{p:qm3}{pl:List Nat}{ps:List Ri.PS}{sn:Option Nat}{s s':Bk}{id:Int}{cs:List Value}{r:q31}
def qa5.len(h:St W (qa5 pl ps::F) w):pl.length=ps.length:=(h.of_sep.of_pr).1
def qa5.add{z:Ri.PS}(h:St W (Ri.PumpA pb 256 z::qa5 pl ps::F) w):St W (qa5 (pl++[pb]) (ps++[z])::F) w:=by
 obtain⟨b,a⟩:=h.p1.of_sep.of_pr;have a:St W (qz ((pl.zip ps).map λx=>Ri.PumpA x.1 256 x.2)::Ri.PumpA pb 256 z::F) w:=a;refine zj (l:=[_,_]) (z01 (by simp[b]) ?_);have e:(pl++[pb]).zip (ps++[z])=pl.zip ps++[(pb,z)]:=by rw[List.zip_append b];rfl
 rw[e,List.map_append];exact q95 (X:=Ri.PumpA pb 256 z) (List.perm_append_singleton _ _).symm a.p1
def q2t{o:Option Nat}(h:∀i,o=A0 i->i<pl.length):qnc (pl++[pb]) o=qnc pl o:=by
 cases o with
 |none=>rfl
 |some i=>have:=h i rfl;unfold qnc;simp only;rw[Ac this]
def qo2.app{v b:Nat}{d:q31}:∀H,qo2 v pl b d H->qo2 v (pl++[pb]) b d H:=by
 rintro H ⟨sb,g,a,w,c⟩;have e:qs (pl++[pb]) sb d=qs pl sb d:=by unfold qs;rw[q2t w]
 exact⟨sb,g,a,λi h=>by rw[Ai];have:=w i h;omega,by rw[e];exact c⟩
abbrev qf7(b:Nat)(m:qk1):Asn:=Row b 74 [Zi Zk m.k,Zs m.A,Zs m.B,Zi Zk m.N,Zi Zk m.M]
def qsw{y:LeD}{sb:Option Nat}{g a:Nat}{K:Ad->A6->Prop}{l:List Asn}(j:l=q32 c x p pl sn s id q (Row q 127 (qs pl sb r)::q02 p.v sb r.sh::Row g 46 [qc x]::Row a 128 [qc q]::F))(f:St W l w)
 (i:∀w',St W l w'->K (Zb (Bk.holds r.conn s.K.now y)) w'):q01 Zp 4 (.func (.func 359) #[] #[qc a,qc g]) [Zg (leV y).toArray] w K:=by
 subst j;have d:qb Zp 359 #[Zg (leV y).toArray,qc a,qc g] w K:=by
  refine F359_of (zh f λb w f=>⟨StC W _,zd f,_,zi 0 ir rfl rfl,_,zy 16 ir rfl rfl,z7 ⟨_,zi 13 ir rfl rfl,za (λe=>⟨_,z0t 0 ir rfl rfl,za (λd=>⟨_,zy 15 ir rfl rfl,z7 ⟨_,zo 1 ir rfl rfl,_,zi 0 ir rfl rfl,?_⟩⟩) λd=>λG w h=>?_⟩) λe=>λG w h=>?_⟩⟩)
  .refine z04 9 ir rfl (λG w h=>Ck.Now_spec h) (λ_ _ h=>⟨_,rfl,h⟩) ⟨_,rfl,zi 0 ir rfl rfl,λG w h=>?_⟩;have:=i w (zb h).drop;unfold Bk.holds at this;rw[e,d]at this;exact this
  .have:=i w (zb h).drop;unfold Bk.holds at this;rw[e,d]at this;exact this
  .have:=i w (zb h).drop;unfold Bk.holds at this;rw[e]at this;exact this
 exact zw (by kernel_rfl) d
end
end
section
section
variable{W w:World}{F l:List Asn}{ro:Asn}{c:qy}{x m2 q pb:Nat}{p:qm3}{pl:List Nat}{ps:List Ri.PS}{sn:Option Nat}{s s':Bk}{id:Int}{cs:List Value}{r:q31}
set_option maxHeartbeats 1000000 in
def qsk{sb:Option Nat}(m:qk1)(hc:r.conn=id)(hp:∀i,r.pump=A0 i->i<pl.length)(I:qe s.roles id=A0 r)(t:s.callback c id r m=A0 s')(a:St W (q32 c x p pl (A0 m2) s id q (Row q 127 (qs pl sb r)::q02 p.v sb r.sh::F)) w):
 qb Zp 321 #[qc x,qc q,ql2 m] w λv w'=>v=Zt #[]/\∃R,St W (brk c x p R (A0 m2) s' F) w':=by
 subst hc;unfold Bk.callback at t;refine F321_of (z08 14 a λu w a=>z08 15 a λg w a=>z08 16 a λf w a=>LdP.n 14 a rfl rfl (z7 (z0k 0 a rfl rfl ((qzj (a.at 3 rfl)).of λv w ⟨pp,cc,E,a⟩=>⟨_,_,_,E,?_⟩))));have hbl:(q3h s.B.L).length<=64:=by obtain⟨_,h,_⟩:=z0s (zf 1 0 a rfl);exact A7 (qze _ _ _) h
 have a:St W (q32 c x p pl (A0 m2) s r.conn q (Row q 127 (qs pl sb r)::q02 p.v sb r.sh::Row u 46 [qc x]::Row g 128 [qc q]::qf7 f m::SlA 55 6 leV pp cc (q3h s.B.L)::F)) w:=z0v 17 (zf 1 4 a rfl);refine(qqv (Bk.holds r.conn s.K.now) (z06 17 rfl λF=>z0g F) (by omega) (λy _ w K a hK=>qsw rfl a hK) a).of λv w ⟨E,a⟩=>⟨_,E,?_⟩;have a:St W (q32 c x p pl (A0 m2) s r.conn q (Row q 127 (qs pl sb r)::q02 p.v sb r.sh::Row u 46 [qc x]::Row g 128 [qc q]::qf7 f m::F)) w:=a.del 17 rfl;refine za (λh=>?_) λh=>?_
 .rw[yB h]at t;rw[<-A1 t];refine⟨StC W _,zd a,_,zy 14 ir rfl rfl,_,zy 15 ir rfl rfl,z7 ⟨_,zi 12 ir rfl rfl,?_⟩⟩;refine Ef.al (l':=brk c x p pl (A0 m2) (s.refuse r.conn 1) (Row u 46 [qc x]::Row g 128 [qc q]::qf7 f m::F)) ir (λG w h=>?_) (λ_ _ h=>⟨rfl,h⟩) ⟨rfl,trivial,λG w h=>⟨rfl,pl,(((zb h).del 12 rfl).del 12 rfl).del 12 rfl⟩⟩;have O:=z07 (F:=Row u 46 [qc x]::Row g 128 [qc q]::qf7 f m::F++pts G) hp I h;exact q18 1 O
 rw[yA (by rw[h];simp)]at t;clear h;refine⟨StC W _,zd a,_,zy 14 ir rfl rfl,z7 ⟨_,zo 0 ir rfl rfl,_,zu 16 ir rfl rfl,_,zy 15 ir rfl rfl,z7 ⟨_,zu 12 ir rfl rfl,?_⟩⟩⟩;generalize H:qw7 s.T m.B r.ten=res at t;obtain⟨T,d,e⟩:=res;dsimp only at t;refine z04 (X:=Zt #[Zg (q12 d).toArray,Zi Zk e]) (B:=q03 p.t T) 5 ir rfl (λG w h=>by have:=q3o (text:=m.B) (ten:=r.ten) h;rw[H]at this;exact this) (λ_ _ h=>⟨_,_,_,_,_,rfl,h⟩) ⟨_,_,_,_,_,rfl,trivial,λl=>?_⟩
 refine zk (α:=Unit) (V:=λ_=>Zt #[]) (B:=λ_=>q32 c x p pl (A0 m2) { s with T:=T} r.conn q (Row q 127 (qs pl sb r)::q02 p.v sb r.sh::Row u 46 [qc x]::Row g 128 [qc q]::qf7 f m::Row l 344 (q12 d)::F)) () (ir.push l _) (λG w h=>?_) λ_=>⟨rfl,trivial,λG w h=>?_⟩
 .have a:=zf 0 17 (h.imp z0c) rfl;exact St1.zz 17 a rfl λw a=>St1.zz 17 a rfl λw a=>St1.zz 17 a rfl λw a=>St1.zz 17 a rfl λw a=>⟨(),rfl,a⟩
 have a:=zb h;clear h;have I:qe ({ s with T:=T}:Bk).roles r.conn=A0 r:=I;generalize { s with T:=T}=o at a I t;refine za (λh=>?_) λh=>?_
 .rw[yB (by simpa using h)]at t;rw[<-A1 t];refine⟨StC W _,zd a,_,zy 14 ir rfl rfl,_,zy 15 ir rfl rfl,z7 ⟨_,zi 12 ir rfl rfl,?_⟩⟩;refine Ef.al (l':=brk c x p pl (A0 m2) (o.refuse r.conn e) (Row u 46 [qc x]::Row g 128 [qc q]::qf7 f m::Row l 344 (q12 d)::F)) ir (λG w h=>?_) (λ_ _ h=>⟨rfl,h⟩) ⟨rfl,trivial,λG w h=>⟨rfl,pl,((((zb h).del 12 rfl).del 12 rfl).del 12 rfl).del 12 rfl⟩⟩;have O:=z07 (F:=Row u 46 [qc x]::Row g 128 [qc q]::qf7 f m::Row l 344 (q12 d)::F++pts G) hp I h;exact q18 e O
 rw[yA (by simpa using h)]at t;clear h;by_cases E:d.vis=r.conn;.rw[yB E]at t;cases t
 rw[yA E]at t;rw[<-A1 t];clear t;refine⟨StC W _,zd a,_,zy 14 ir rfl rfl,z7 ⟨_,zo 0 ir rfl rfl,_,zi 17 ir rfl rfl,?_⟩⟩;refine z04 4 ir rfl (λG w h=>Qu.Drop_spec d.vis h) (λ_ _ h=>⟨_,rfl,h⟩) ⟨_,rfl,trivial,λG w h=>?_⟩;have a:=zb h;clear h;refine⟨StC W _,zd a,_,zy 14 ir rfl rfl,z7 ⟨_,zo 0 ir rfl rfl,_,zi 17 ir rfl rfl,_,zy 15 ir rfl rfl,z7 ⟨_,zi 12 ir rfl rfl,?_⟩⟩⟩;refine z04 6 ir rfl (λG w h=>qot (v:=d.vis) (c:=r.conn) h) (λ_ _ h=>⟨_,rfl,h⟩) ⟨_,rfl,trivial,λG w h=>?_⟩;have a:=zb h;clear h;refine(Ri.PNew_spec 256 a).of λv w ⟨pb,U,a⟩=>⟨_,U,?_⟩;have C:pl.length=o.pumps.length:=qa5.len (zf 12 0 a rfl);have a:=qa5.add (zf 12 1 a rfl);have a:=qw.imp (A':=qo2 p.v (pl++[pb])) (λ_ _=>qo2.app) (zf 10 0 a rfl);obtain⟨A,D⟩:∃A,A=({ o with Q:=Qu.gDrop o.Q d.vis,P:=(q4g o.P d.vis r.conn).1,pumps:=o.pumps++[Ri.PS.new]}:Bk):=⟨_,rfl⟩;have a:St W (q32 c x p (pl++[pb]) (A0 m2) A r.conn q (Row q 127 (qs pl sb r)::q02 p.v sb r.sh::Row u 46 [qc x]::Row g 128 [qc q]::qf7 f m::Row l 344 (q12 d)::F)) w:=by rw[D];exact zf 0 9 (zf 1 11 a rfl) rfl
 have N:qnc (pl++[pb]) (A0 o.pumps.length)=qc pb:=by unfold qnc;rw[<-C];simp
 have M:∀(id side:Int),qs (pl++[pb]) A4 (qq7 id d o.pumps.length side)=[Zi Zk id,Zi Zk 4,Zs d.ten,Zs d.name,Zi Zk d.epoch,Zs ⟨#[]⟩,Zq A4,Zb A8,qc pb,Zi Zk side,Zb A8,Zb A8]:=λid side=>by unfold qs qq7;dsimp only;rw[N];rfl
 have L:∀(id side:Int) (b:Nat) (G:List Asn) (w:A6),St W (Row b 127 [Zi Zk id,Zi Zk 4,Zs d.ten,Zs d.name,Zi Zk d.epoch,Zs ⟨#[]⟩,Zq A4,Zb A8,qc pb,Zi Zk side,Zb A8,Zb A8]::G) w->St W (qo2 p.v (pl++[pb]) b (qq7 id d o.pumps.length side)::G) w:=λid side b G w h=>by rw[<-M]at h;exact qo2.shut A4 (λi hi=>by cases hi;rw[Ai,C,List.length_singleton];omega) (z01 trivial h).p1
 have e3:o.paired c r.conn d=((A.put d.vis (qq7 d.vis d o.pumps.length 0)).put r.conn (qq7 r.conn d o.pumps.length 1)).alarm c.idle [d.vis,r.conn]:=by rw[D];rfl
 rw[e3];clear e3 D M N;refine⟨StC W _,zd a,_,zi 17 ir rfl rfl,_,zy 15 ir rfl rfl,z7 ⟨_,zi 12 ir rfl rfl,λn G w h=>?_⟩⟩;have a:=zf 0 18 (((ir.push n _).ends h).imp z0c) rfl;clear h;have w1:Zw Zk ((0:Int)+1)=1:=by decide
 have w2:Zw Zk ((1:Int)+1)=2:=by decide
 refine⟨λvs w=>(vs=[Zi Zk 0]/\St W (q32 c x p (pl++[pb]) (A0 m2) A r.conn q (Row q 127 (qs pl sb r)::q02 p.v sb r.sh::Row u 46 [qc x]::Row g 128 [qc q]::qf7 f m::Row l 344 (q12 d)::Row n 3 [Zi Zk d.vis,Zi Zk r.conn]::F)) w)\/
  (vs=[Zi Zk 1]/\St W (q32 c x p (pl++[pb]) (A0 m2) (A.put d.vis (qq7 d.vis d o.pumps.length 0)) r.conn q (Row q 127 (qs pl sb r)::q02 p.v sb r.sh::Row u 46 [qc x]::Row g 128 [qc q]::qf7 f m::Row l 344 (q12 d)::Row n 3 [Zi Zk d.vis,Zi Zk r.conn]::F)) w)\/
  (vs=[Zi Zk 2]/\St W (brk c x p (pl++[pb]) (A0 m2) ((A.put d.vis (qq7 d.vis d o.pumps.length 0)).put r.conn (qq7 r.conn d o.pumps.length 1)) (Row q 127 (qs pl sb r)::q02 p.v sb r.sh::Row u 46 [qc x]::Row g 128 [qc q]::qf7 f m::Row l 344 (q12 d)::Row n 3 [Zi Zk d.vis,Zi Zk r.conn]::F)) w),leftN 2,.inl ⟨rfl,a⟩,λj w hI=>?_⟩
 clear a;rcases hI with ⟨J,a⟩|⟨J,a⟩|⟨J,a⟩
 .cases J;refine zn rfl (IxP.row (k:=0) rfl (by omega) (z13 18 a rfl rfl ⟨StC W _,zd a,_,zy 14 ir rfl rfl,z7 ⟨_,z0a 0 ir rfl rfl,_,zu 17 ir rfl rfl,_,zu 17 ir rfl rfl,_,zi 17 ir rfl rfl,λz=>?_⟩⟩));refine zk (α:=Unit) (V:=λ_=>Zt #[]) (B:=λ_=>q32 c x p (pl++[pb]) (A0 m2) (A.put d.vis (qq7 d.vis d o.pumps.length 0)) r.conn q (Row q 127 (qs pl sb r)::q02 p.v sb r.sh::Row u 46 [qc x]::Row g 128 [qc q]::qf7 f m::Row l 344 (q12 d)::Row n 3 [Zi Zk d.vis,Zi Zk r.conn]::F)) () (ir.push z _) (λG w h=>?_) λ_=>⟨rfl,trivial,λG w h=>⟨.inr (.inl ⟨by rw[w1],zb h⟩),by rw[w1];show 2 - 1<2 - 0;omega⟩⟩;have Y:=L _ _ _ _ _ (h.imp z0c);exact qw.set_ne kI uMr E (zf 10 1 Y rfl) λw h=>⟨(),rfl,zf 0 9 h rfl⟩
 .cases J;refine zn rfl (IxP.row (k:=1) rfl (by omega) (z13 18 a rfl rfl ⟨StC W _,zd a,_,zy 14 ir rfl rfl,z7 ⟨_,z0a 0 ir rfl rfl,_,zu 17 ir rfl rfl,_,zu 17 ir rfl rfl,_,zi 17 ir rfl rfl,λz=>?_⟩⟩));refine zk (α:=Unit) (V:=λ_=>Zt #[]) (B:=λ_=>brk c x p (pl++[pb]) (A0 m2) ((A.put d.vis (qq7 d.vis d o.pumps.length 0)).put r.conn (qq7 r.conn d o.pumps.length 1)) (Row q 127 (qs pl sb r)::q02 p.v sb r.sh::Row u 46 [qc x]::Row g 128 [qc q]::qf7 f m::Row l 344 (q12 d)::Row n 3 [Zi Zk d.vis,Zi Zk r.conn]::F)) () (ir.push z _) (λG w h=>?_) λ_=>⟨rfl,trivial,λG w h=>⟨.inr (.inr ⟨by rw[w2],zb h⟩),by rw[w2];show 2 - 2<2 - 1;omega⟩⟩;have Y:=L _ _ _ _ _ (h.imp z0c);exact qw.set_eq kI uMr (zf 10 1 Y rfl) λw h=>⟨(),rfl,zf 0 9 h rfl⟩
 .cases J;refine zm rfl ⟨StC W _,zd a,_,zy 14 ir rfl rfl,_,zy 14 ir rfl rfl,z7 ⟨_,zi 0 ir rfl rfl,_,zi 17 ir rfl rfl,_,zy 15 ir rfl rfl,z7 ⟨_,zi 12 ir rfl rfl,λZ=>?_⟩⟩⟩;exact Ef.alarm [d.vis,r.conn] (by simp) ir ⟨rfl,trivial,λG w h=>⟨rfl,pl++[pb],((((((z03 12 (zb h) rfl).del 12 rfl).del 12 rfl).del 12 rfl).del 12 rfl).del 12 rfl).del 12 rfl⟩⟩
end
end
section
def fnV(f:Nat):Ad:=.func (.func f) #[] #[]
def qw8:List (Int×Nat):=[(6,317),(8,318),(9,319),(13,320),(12,321)]
def uMh:Zp.underlying 391=A0 (.map 3 389):=Tryz.underlying391
def iFh:Zp.info? 389=A0 Tryz.t389:=by kernel_rfl
def zFh:Tryz.t389.zero=A0 .nilFunc:=rfl
def qfv(k:Int):(k=6/\qe qw8 k=A0 317)\/(k=8/\qe qw8 k=A0 318)\/(k=9/\qe qw8 k=A0 319)\/(k=13/\qe qw8 k=A0 320)\/(k=12/\qe qw8 k=A0 321)\/((k≠6/\k≠8/\k≠9/\k≠13/\k≠12)/\qe qw8 k=A4):=by
 by_cases c:k=6;.subst c;exact .inl ⟨rfl,rfl⟩
 by_cases h:k=8;.subst h;exact .inr (.inl ⟨rfl,rfl⟩)
 by_cases w:k=9;.subst w;exact .inr (.inr (.inl ⟨rfl,rfl⟩))
 by_cases b:k=13;.subst b;exact .inr (.inr (.inr (.inl ⟨rfl,rfl⟩)))
 by_cases a:k=12;.subst a;exact .inr (.inr (.inr (.inr (.inl ⟨rfl,rfl⟩))))
 refine .inr (.inr (.inr (.inr (.inr ⟨⟨c,h,w,b,a⟩,?_⟩))));unfold qw8;simp only[qe];rw[yA (Ne.symm c),yA (Ne.symm h),yA (Ne.symm w),yA (Ne.symm b),yA (Ne.symm a)]
def q8s{W w:A6}{l:List Asn}(h:St W l w):qb Zp 276 #[] w λv w'=>∃m,v=.map (A0 m)/\St W (qg (Zi Zk) fnV m qw8::l) w':=by refine F276_of (qs5.f (ν:=Nat) (Zi Zk) fnV h λm w h=>?_);refine qh1 (vl:=fnV) kI uMh 0 h rfl 6 317 λw h=>qh1 (vl:=fnV) kI uMh 0 h rfl 8 318 λw h=>qh1 (vl:=fnV) kI uMh 0 h rfl 9 319 λw h=>qh1 (vl:=fnV) kI uMh 0 h rfl 13 320 λw h=>qh1 (vl:=fnV) kI uMh 0 h rfl 12 321 λw h=>⟨m,rfl,?_⟩;exact h
namespace Bk
def granted_roles(s:Bk)(id:Int)(x:LeD)(e:Int):(s.granted id x e).roles=s.roles:=rfl
def claim_roles(s:Bk)(id:Int)(r:q31)(m:qk1):(s.claim id r m).roles=s.roles:=by
 unfold claim;split;.rfl
 .unfold claim1;split;rw[granted_roles];split<;>rfl
def renew_roles(s:Bk)(id:Int)(r:q31)(m:qk1):(s.renew id r m).roles=s.roles:=rfl
end Bk
section
variable{W w:World}{F l:List Asn}{ro:Asn}{c:qy}{x m2 q pb:Nat}{p:qm3}{pl:List Nat}{ps:List Ri.PS}{sn:Option Nat}{s s':Bk}{id:Int}{cs:List Value}{r:q31}
set_option maxHeartbeats 1000000 in
def qzt{sb:Option Nat}(m:qk1)(draw:ByteArray)(u:ql1 F c)(y:r.conn=id)(n:∀i,r.pump=A0 i->i<pl.length)(k:qe s.roles id=A0 r)(e:s.hear c id r m draw=A0 s')(a:St W (q32 c x p pl (A0 m2) s id q (Row q 127 (qs pl sb r)::q02 p.v sb r.sh::F)) w):
 qb Zp 194 #[qc x,qc q,ql2 m,Zs draw] w λv w'=>v=Zt #[]/\∃d,St W (brk c x p d (A0 m2) s' F) w':=by
 subst y;unfold Bk.hear at e;dsimp only at e;refine F194_of (z08 14 a λb w a=>⟨StC W _,zd a,z7 (z7 ⟨_,zi 0 ir rfl rfl,_,zi 12 ir rfl rfl,λz=>?_⟩)⟩);refine Ef.alarm [r.conn] (by simp) ir ⟨rfl,trivial,λG w h=>?_⟩;have a:St W (q32 c x p pl (A0 m2) (s.alarm c.idle [r.conn]) r.conn q (Row q 127 (qs pl sb r)::q02 p.v sb r.sh::qf7 b m::F)) w:=zb h;clear h;have k:qe (s.alarm c.idle [r.conn]).roles r.conn=A0 r:=k;generalize s.alarm c.idle [r.conn]=s at a k e;refine z7 (z8 12 a rfl rfl (za (λh=>?_) λh=>?_))
 .rw[yB (by simpa using h)]at e;refine z8 14 a rfl rfl (zg 14 a rfl rfl (zg 14 a rfl rfl (z8 14 a rfl rfl (z8 14 a rfl rfl ?_))));exact(qur m draw (u.cons _) rfl n k e a).of λv w ⟨g,a⟩=>⟨g,rfl,pl,a.del 12 rfl⟩
 rw[yA (by simpa using h)]at e;clear h;refine⟨StC W _,zd a,_,zi 14 ir rfl rfl,?_⟩;refine zk (α:=Nat) (V:=λo=>.map (A0 o)) (B:=λo=>qg (Zi Zk) fnV o qw8::q32 c x p pl (A0 m2) s r.conn q (Row q 127 (qs pl sb r)::q02 p.v sb r.sh::qf7 b m::F)) 0 ir (λG w h=>(q8s h).of λv w ⟨o,g,h⟩=>⟨_,g,o,rfl,h⟩) λo=>⟨_,rfl,zi 15 ir rfl rfl,_,_,(λG w t=>qq1 kI uMh iFh zFh 0 t rfl m.k Ah (by rw[yB rfl];exact⟨_,_,rfl,rfl,t⟩)),λG w h=>?_⟩;have a:St W (q32 c x p pl (A0 m2) s r.conn q (Row q 127 (qs pl sb r)::q02 p.v sb r.sh::qf7 b m::F)) w:=(zb h).drop;clear h;rcases qfv m.k with ⟨f,j⟩|⟨f,j⟩|⟨f,j⟩|⟨f,j⟩|⟨f,j⟩|⟨f,j⟩
 .rw[j];rw[yB f]at e;rw[<-A1 e];refine zm rfl (z8 14 a rfl rfl (zg 14 a rfl rfl (zg 14 a rfl rfl (z8 14 a rfl rfl (z8 14 a rfl rfl ?_)))));have l:=(q0o (id:=r.conn) (r:=r) m rfl rfl a).of (R':=λv w'=>v=Zt #[]/\(λv w'=>v=Zt #[]/\∃d,St W (brk c x p d (A0 m2) (s.claim r.conn r m) F) w') (Zt #[]) w') λv w ⟨g,a⟩=>⟨g,rfl,pl,by rw[show s.roles=(s.claim r.conn r m).roles from(Bk.claim_roles _ _ _ _).symm]at a;exact(z07 (s:=s.claim r.conn r m) n (by rw[Bk.claim_roles];exact k) a).del 12 rfl⟩
  exact zw (by kernel_rfl) l
 .rw[j];rw[yA (by omega),yB f]at e;rw[<-A1 e];refine zm rfl (z8 14 a rfl rfl (zg 14 a rfl rfl (zg 14 a rfl rfl (z8 14 a rfl rfl (z8 14 a rfl rfl ?_)))));have l:=(qmo (id:=r.conn) (r:=r) m rfl rfl a).of (R':=λv w'=>v=Zt #[]/\(λv w'=>v=Zt #[]/\∃d,St W (brk c x p d (A0 m2) (s.renew r.conn r m) F) w') (Zt #[]) w') λv w ⟨g,a⟩=>⟨g,rfl,pl,by rw[show s.roles=(s.renew r.conn r m).roles from(Bk.renew_roles _ _ _ _).symm]at a;exact(z07 (s:=s.renew r.conn r m) n (by rw[Bk.renew_roles];exact k) a).del 12 rfl⟩
  exact zw (by kernel_rfl) l
 .rw[j];rw[yA (by omega),yA (by omega),yB f]at e;rw[<-A1 e];refine zm rfl (z8 14 a rfl rfl (zg 14 a rfl rfl (zg 14 a rfl rfl (z8 14 a rfl rfl (z8 14 a rfl rfl ?_)))));have l:=(qwk m rfl n k a).of (R':=λv w'=>v=Zt #[]/\(λv w'=>v=Zt #[]/\∃d,St W (brk c x p d (A0 m2) (s.release r.conn r m) F) w') (Zt #[]) w') λv w ⟨g,a⟩=>⟨g,rfl,pl,a.del 12 rfl⟩;exact zw (by kernel_rfl) l
 .rw[j];rw[yA (by omega),yA (by omega),yA (by omega),yB f]at e;rw[<-A1 e];refine zm rfl (z8 14 a rfl rfl (zg 14 a rfl rfl (zg 14 a rfl rfl (z8 14 a rfl rfl (z8 14 a rfl rfl ?_)))));have l:=(qmq (x:=x) (q:=q) m a).of (R':=λv w'=>v=Zt #[]/\(λv w'=>v=Zt #[]/\∃d,St W (brk c x p d (A0 m2) s F) w') (Zt #[]) w') λv w ⟨g,a⟩=>⟨g,rfl,pl,(z07 n k a).del 12 rfl⟩;exact zw (by kernel_rfl) l
 .rw[j];rw[yA (by omega),yA (by omega),yA (by omega),yA (by omega),yB f]at e;refine zm rfl (z8 14 a rfl rfl (zg 14 a rfl rfl (zg 14 a rfl rfl (z8 14 a rfl rfl (z8 14 a rfl rfl ?_)))));have l:=(qsk m rfl n k e a).of (R':=λv w'=>v=Zt #[]/\(λv w'=>v=Zt #[]/\∃d,St W (brk c x p d (A0 m2) s' F) w') (Zt #[]) w') λv w ⟨g,d,a⟩=>⟨g,rfl,d,a.del 12 rfl⟩;exact zw (by kernel_rfl) l
 .rw[j];rw[yA f.1,yA f.2.1,yA f.2.2.1,yA f.2.2.2.1,yA f.2.2.2.2]at e;rw[<-A1 e];refine zn rfl (z7 (z8 12 a rfl rfl ?_));exact(q18 1 (z07 n k a)).of λv w ⟨g,a⟩=>⟨g,rfl,pl,a.del 12 rfl⟩
end
end
end Go.Proofs.YtfjifcfbmhpcaaaGreatDoor
