/-
  A part of the proof of TopBad.
-/
import Derived.Test.YtfjifcfbmhpcaaaGreatDoorB11
import Derived.Test.YtfjifcfbmhpcaaaGreatDoorB05
import Derived.Test.YtfjifcfbmhpcaaaGreatDoorB03
import Derived.Test.YtfjifcfbmhpcaaaGreatDoorB08
import Derived.Test.YtfjifcfbmhpcaaaGreatDoorB02
import Derived.OrdersIn
import Derived.Test.YtfjifcfbmhpcaaaGreatDoorB00
set_option linter.all false
namespace Go.Proofs.YtfjifcfbmhpcaaaGreatDoor
open Go
open Go.Proofs.Tryz renaming prog → Zp
open Go.IntKind renaming i64 → Zk, wrap → Zw
open Go.Addr renaming add → Za
open Go.Value renaming int → Zi, string → Zs, pointer → Zq, bool → Zb, tuple → Zt, slice → Zl, agg → Zg
open _root_.Option renaming some->A0,none->A4,isSome_map->Bc,isNone_map->Bw,map_some->C7
open _root_.Option.some renaming inj->A1,injEq->Bu
open _root_.List renaming getElem?_eq_getElem->A2,take_of_length_le->A6,length_map->A7,length_append->A9,getElem?_map->Ac,getElem?_eq_some_iff->Ad,drop_eq_getElem_cons->Ae,map_cons->Af,mem_map->Ag,length_cons->Ak,length_take->Am,mem_cons_self->An,mem_cons_of_mem->Ao,drop_length->Au,map_append->Av,length_drop->Aw,getElem?_append_left->Ax,length_nil->Ay,map_map->Az,mem_cons->B1,mem_of_getElem?->B3,eq_nil_of_length_eq_zero->B4,take_append_of_le_length->B6,perm_append_singleton->B9,perm_middle->Be,find?_cons->Bf,length_filter_le->Bg,take_append_drop->Bh,replicate->Bi,drop_zero->Bj,getElem?_of_mem->Bm,mem_singleton->Bq,getElem?_take->Br,append_of_mem->Bs,take_add_one->Bt,cons_append->By,all_eq_true->C1,nodup_cons->C3,foldl_cons->C4,nil_append->C5,append_nil->C6
open _root_.Prod renaming fst->A3,snd->Ah
open _root_.Nat renaming lt_of_le_of_lt->A5,le_trans->Aj,le_refl->Ap,zero_add->Ar,zero_le->B2,add_mul->B5,mul_le_mul_right->Bl,mul_le_mul_left->Bo,zero_mul->Bv,lt_succ_self->Bx,mul_one->C2,reduceAdd->C9,sub_zero->Cc,le_zero->Cg,sub_mul->Ch
open _root_.Bool renaming false->A8,true->Ai,and_eq_true->Bz
open Go renaming World->Aa,Value->Ab,Addr->Aq,TypeId->Cb,Program->Ce,TypeInfo->Cf
open _root_.Array renaming length_toList->As,toList_append->Bp,replicate->C8
open Go.Proofs renaming ltOf->B0
open Go.Builtin renaming append_->B7,firstCells->Ba,lenOf->Ca,len_->Cd
open _root_.Int renaming toNat_natCast->Bb,toNat->Bn
open Go.Sort renaming putRow->Bd,grow->C0,ahead->Ci
section
section
variable{κ ν:Type}[DecidableEq κ]
def qck{L:List (κ×ν)}(w:(L.map (·.1)).Nodup){k:κ}{v:ν}{y:κ×ν}(h:y∈qk L k v):y=(k,v)\/(y∈L/\y.1≠k):=by
 induction L with
 |nil=>simp only[qk,Bq]at h;exact .inl h
 |cons z r ih=>
  simp only[Af,C3]at w;simp only[qk]at h;split at h
  .rename_i e;rcases B1.1 h with h|h;.exact .inl h
   .exact .inr ⟨Ao _ h,λa=>w.1 (by rw[e,<-a];exact List.mem_map_of_mem h)⟩
  .rename_i e;rcases B1.1 h with h|h;.subst h;exact .inr ⟨An,e⟩
   .rcases ih w.2 h with h|h;.exact .inl h
    .exact .inr ⟨Ao _ h.1,h.2⟩
def q9s{L:List (κ×ν)}{k:κ}{v:ν}(h:qe L k=A0 v):(qp L k).length<L.length:=by have:=(Go.Proofs.YtfjifcfbmhpcaaaGreatDoor.aget_perm h).length_eq;rw[this,Ak];omega
end
def q29{α σ:Type}(f:σ->α->σ)(s:σ){l:List α}{k:Nat}{x:α}(h:l[k]?=A0 x):(l.take (k+1)).foldl f s=f ((l.take k).foldl f s) x:=by rw[Bt,h,List.foldl_append];rfl
def qsd(S:List (Int×q81))(id j:Int)(bs:List UInt8)(e w:Bool):szS (qe6 S id bs e w) j=if id=j then szS S id+bs.length else szS S j:=by
 unfold qe6 szS;split
 .rename_i h;have:bs=[]:=by cases bs with|nil=>rfl|cons _ _=>simp at h
  subst this;split;.rename_i h;subst h;rfl
  .rfl
 .rw[qh2];split
  .rename_i h;subst h;simp[qf1,ByteArray.size_append]
  .rfl
def qb3.flush{N:Cn.CT}{S:List (Int×q81)}(f:(N.L.map (·.1)).Nodup)(h:qb3 N S)(id:Int):qb3 (N.upd id Cn.gFlush) S/\szS S id+(N.ask id [] Cn.rFlush).length<=1073741824/\∀e b,qb3 (N.upd id Cn.gFlush) (qe6 S id (N.ask id [] Cn.rFlush) e b):=by
 unfold Cn.CT.upd Cn.CT.ask;cases hd:qe N.L id with
 |none=>
  refine⟨h,by simpa using h.1 id,λe b=>⟨λj=>?_,λy w=>?_⟩⟩
  .rw[qsd];split;.simpa using h.1 id
   .exact h.1 j
  .rw[qsd];split;.rename_i i;rw[i];simpa using h.2 y w
   .exact h.2 y w
 |some d=>
  have g:=h.2 _ (qg3 hd);simp only at g⊢;have k:(Cn.rFlush d).length<=d.credit.toNat:=by unfold Cn.rFlush;rw[Am];omega
  have c:(Cn.gFlush d).credit=d.credit -((Cn.rFlush d).length:Int):=by show Zw Zk _=_;exact w64
  refine⟨⟨h.1,λy w=>?_⟩,by omega,λe b=>⟨λj=>?_,λy w=>?_⟩⟩
  .rcases qck f w with rfl|⟨w,_⟩;.simp only;rw[c];omega
   .exact h.2 y w
  .rw[qsd];split;.omega
   .exact h.1 j
  .rw[qsd];rcases qck f w with rfl|⟨w,a⟩;.simp only[if_true];rw[c];omega
   .rw[yA (λe=>a e.symm)];exact h.2 y w
namespace Bk
def shutB_len:∀(n:Nat) (s:Bk) (id:Int),(shutB n s id).roles.length<=s.roles.length
 |0,s,id=>Ap _
 |n+1,s,id=>by
  have d:=shutB_len n;have b:∀(s:Bk) (name:ByteArray),(emptyW (λs i=>shutB n s i) s name).roles.length<=s.roles.length:=λs name=>by
   unfold emptyW;generalize Qu.gL s.Q name=l;induction l generalizing s with
   |nil=>exact Ap _
   |cons a l h=>exact Aj (h _) (d (s.no a 3) a)
  have c:∀(l:List LeD) (s:Bk),(leaveW (λs i=>shutB n s i) s l).roles.length<=s.roles.length:=λl=>by
   unfold leaveW;induction l with
   |nil=>exact λs=>Ap _
   |cons a l h=>exact λs=>Aj (h _) (b (s.give a.ten 1) a.name)
  unfold shutB;split;.exact Ap _
  .rename_i r e;have w:(s.out id).roles.length<=s.roles.length:=qqn _ _;unfold after;split;.exact Aj (c _ _) w
   .split;.exact w
    .split
     .split;.exact Aj (d _ _) w
      .exact w
     .exact w
def emptyW_len{f:Bk->Int->Bk}(w:∀s id,(f s id).roles.length<=s.roles.length)(s:Bk)(name:ByteArray):(emptyW f s name).roles.length<=s.roles.length:=by
 unfold emptyW;generalize Qu.gL s.Q name=l;induction l generalizing s with
 |nil=>exact Ap _
 |cons a l h=>exact Aj (h _) (w (s.no a 3) a)
end Bk
section
variable{W w:World}{F:List Asn}{ro:Asn}{c:qy}{x m2:Nat}{p:qm3}{pl:List Nat}{sn:Option Nat}{s:Bk}{id:Int}
def q7f(W:Aa)(c:qy)(x m2:Nat)(p:qm3)(pl:List Nat)(Q:Bk->Prop)(f:Bk->Int->Bk):Prop:=
 (∀s id,Q s->Q (f s id))/\∀(s:Bk) (id:Int) (F:List Asn) (w:Aa),Q s->St W (brk c x p pl (A0 m2) s F) w->qb Zp 85 #[qc x,Zi Zk id] w λv w'=>v=Zt #[]/\St W (brk c x p pl (A0 m2) (f s id) F) w'
variable{Q:Bk->Prop}{f:Bk->Int->Bk}
def qak(e:Int)(b:q7f W c x m2 p pl Q f)(d:Q (s.no id e))(h:St W (brk c x p pl (A0 m2) s F) w):qb Zp 193 #[qc x,Zi Zk id,Zi Zk e] w λv w'=>v=Zt #[]/\St W (brk c x p pl (A0 m2) (f (s.no id e) id) F) w':=
 F193_of ((qvf e h).of λv w ⟨a,h⟩=>⟨a,(b.2 (s.no id e) id F w d h).of λv w ⟨a,h⟩=>⟨a,rfl,h⟩⟩)
def qim(name:ByteArray)(t:q7f W c x m2 p pl Q f)(m:∀s id e,Q s->Q (s.no id e))(o:Q s)(b:St W (brk c x p pl (A0 m2) s F) w):qb Zp 148 #[qc x,Zs name] w λv w'=>v=Zt #[]/\St W (brk c x p pl (A0 m2) (s.emptyW f name) F) w':=by
 have z:=(Qu.QueueA.ok (zf 4 0 b yR)).row name;refine F148_of (z7 (z0n 0 b yR yR ((Qu.List_spec name (b.at 4 yR)).of λv w ⟨g,i,r,b⟩=>⟨_,_,_,r,?_⟩)));have b:St W (brk c x p pl (A0 m2) s (SlA 3 1 iV g i (Qu.gL s.Q name)::F)) w:=z0s 12 (zf 1 5 b yR);unfold Bk.emptyW;generalize Qu.gL s.Q name=ids at z b⊢;refine qt3 (λn vs w=>∃k:Nat,k+n=ids.length/\vs=[Zi Zk (k:Int)]/\Q ((ids.take k).foldl (λs id=>f (s.no id 3) id) s)/\St W (brk c x p pl (A0 m2) ((ids.take k).foldl (λs id=>f (s.no id 3) id) s) (SlA 3 1 iV g i ids::F)) w) λμ B E=>⟨⟨ids.length,0,by omega,rfl,o,b⟩,λj w D=>?_⟩;clear b;obtain⟨k,A,G,o,b⟩:=E _ _ D;generalize μ _ _=n at A⊢;cases G;refine za (λh=>?_) λh=>?_
 .have d:k<ids.length:=by have:=yC h;omega
  have u:=A2 d;have H:Rd (SlA 3 1 iV g i ids::F) g (ids.map (Zi Zk)):=by have:=z0e (e:=3) (size:=1) (f:=iV) (p:=g) (c:=i) (os:=ids) F;rwa[show ids.flatMap iV=ids.map (Zi Zk)from qt6 _ _]at this
  refine z0l H.b12 b yR d (v:=Zi Zk ids[k]) (by rw[Ac,u];rfl) λa C=>zq C ((qak 3 t (m _ _ _ o) b).of λv w ⟨r,b⟩=>⟨r,?_⟩);have y:(ids.take (k+1)).foldl (λs id=>f (s.no id 3) id) s=f (((ids.take k).foldl (λs id=>f (s.no id 3) id) s).no ids[k] 3) ids[k]:=by rw[q29 _ _ u]
  have l:∃q:Nat,q+(n - 1)=ids.length/\[Zi Zk (Zw Zk ((k:Int)+1))]=[Zi Zk (q:Int)]/\Q ((ids.take q).foldl (λs id=>f (s.no id 3) id) s)/\St W (brk c x p pl (A0 m2) ((ids.take q).foldl (λs id=>f (s.no id 3) id) s) (SlA 3 1 iV g i ids::F)) w:=⟨k+1,by omega,by rw[up d (by omega)],by rw[y];exact t.1 _ _ (m _ _ _ o),by rw[y];exact b⟩;exact⟨⟨_,l⟩,A5 (B _ _ _ l) (by omega)⟩
 .have:ids.take k=ids:=A6 (by have:=yD h;omega);rw[this]at b;exact⟨rfl,b.del 12 yR⟩
end
end
section
def qbl(so:LeD->Bool)(df:LeD->LeD):∀(l:List ByteArray) (s:LeL×List LeD),(l.foldl (q64 so df) s).2.length<=s.2.length+l.length
 |[],s=>Ap _
 |a::l,s=>by
  have w:=qbl so df l (q64 so df s a);have h:(q64 so df s a).2.length<=s.2.length+1:=by
   unfold q64;split;.omega
   .split;.simp
    .simp
  rw[C4,Ak];omega
def qze(so:LeD->Bool)(df:LeD->LeD)(L:LeL):(qk4 so df L).2.length<=L.length:=by have:=qbl so df (q91 leS (L.map (·.1))) (L,[]);rw[(qv1 leS _).length_eq,A7]at this;unfold qk4;simpa using this
section
variable{W w:World}{F:List Asn}{c:qy}{x m2:Nat}{p:qm3}{pl:List Nat}{s:Bk}{id:Int}
def TabA.keys{t:Nat}{T:Cn.CT}(h:St W (Cn.TabA t T::F) w):(T.L.map (·.1)).Nodup:=by obtain⟨m,h⟩:=Cn.TabA.open_ h;exact qr.keys kI (zf 1 0 h yR)
variable{Q:Bk->Prop}{f:Bk->Int->Bk}
def qqt(B:qi3)(conn now:Int):(qe5 B conn now).2.length<=B.L.length:=by
 unfold qe5;split;.exact B2 _
 .exact qze _ _ _
set_option maxHeartbeats 1000000 in
def qsn{n q:Nat}{cs:List Ab}{d:q31}(K:q7f W c x m2 p pl (λs=>s.roles.length<n) (λs i=>Bk.shutB n s i))(E:cs[1]?=A0 (Zi Zk d.kind))(M:cs[2]?=A0 (Zs d.ten))(V:qe s.roles id=A0 d)(X:s.roles.length<n+1)
 (f:St W (q32 c x p pl (A0 m2) s id q (Row q 127 cs::F)) w):qb Zp 85 #[qc x,Zi Zk id] w λv w'=>v=Zt #[]/\St W (brk c x p pl (A0 m2) (Bk.after (λs i=>Bk.shutB n s i) (s.out id) id d) (Row q 127 cs::F)) w':=by
 have u:=TabA.keys (zf 7 0 f yR);obtain⟨c1,T,N⟩:=(qs2.cr 10 f yR).flush u id;refine F85_of (z7 (zv 0 f yR yR (z0g kI uMr iPr zPr 9 f yR Ai ?_)));rw[yB yR];refine⟨_,_,rfl,zn yR (z7 (z0n 0 f yR yR ((Cn.Flush_spec (f.at 7 yR)).of λv w ⟨t,r,o,f⟩=>⟨_,_,_,o,?_⟩)))⟩;have H:St W (qua (qw (Zi Zk) p.m (qo2 p.v pl) s.roles id q) (qs2 (A0 m2) s.N s.S) c x p pl (A0 m2) (s.upd id Cn.gFlush) (qi 5 1 t (s.N.ask id [] Cn.rFlush).length r ((s.N.ask id [] Cn.rFlush).map qd)::Row q 127 cs::F)) w:=z0s 12 (zf 1 8 f yR);have f:St W (q32 c x p pl (A0 m2) (s.upd id Cn.gFlush) id q (qi 5 1 t (s.N.ask id [] Cn.rFlush).length r ((s.N.ask id [] Cn.rFlush).map qd)::Row q 127 cs::F)) w:=z11 10 H yR (z1f λ_=>c1);refine(qkk (s:=s.upd id Cn.gFlush) (z0k _) T (N A8 Ai) f).of λv w ⟨o,f⟩=>⟨o,?_⟩;have f:St W (q32 c x p pl (A0 m2) ((s.upd id Cn.gFlush).send id (s.N.ask id [] Cn.rFlush) A8 Ai) id q (Row q 127 cs::F)) w:=f.del 12 yR;refine z7 (z0n 0 f yR yR (qb.p 8 f yR (λh=>Ck.Drop_spec id h) λw f=>⟨_,rfl,?_⟩));refine z7 (z0n 0 f yR yR (qb.p 7 f yR (λh=>Cn.Close_spec h) λw f=>⟨_,rfl,?_⟩));have f:=z11 10 f yR (z1f λh=>qb3.del h id);refine z7 (zv 0 f yR yR (qw.del_i kI uMr 9 f yR λw f=>?_));have f:St W (brk c x p pl (A0 m2) (s.out id) (Row q 127 cs::F)) w:=f;refine z7 (z8 12 f yR E ?_);have g:(s.out id).roles.length<n:=by have:=q9s V;show(qp s.roles id).length<n;omega
 generalize s.out id=s at f g⊢;unfold Bk.after;refine za (λh=>?_) λh=>?_
 .rw[yB (by simpa using h)];have I:s.B.L.length<=64:=by obtain⟨_,h,_⟩:=z13 (zf 3 0 f yR);exact h
  refine⟨StC W _,zd f,z7 (z7 ⟨_,zo 0 ir yR yR,_,zo 0 ir yR yR,?_⟩)⟩;refine z05 8 ir yR (λG w h=>Ck.Now_spec h) (λ_ _ h=>⟨_,rfl,h⟩) ⟨_,rfl,zo 0 ir yR yR,?_⟩;refine Ef.sl 3 ir yR (λG w h=>(q3q h).of λv w ⟨p,c,o,_,f⟩=>⟨p,c,o,f⟩) (λ_ _ _ _ h=>⟨_,_,_,rfl,h⟩) λt r=>⟨_,_,_,rfl,trivial,λG w h=>?_⟩;have f:St W (brk c x p pl (A0 m2) { s with B:=(qe5 s.B id s.K.now).1} (SlA 55 6 leV t r (qe5 s.B id s.K.now).2::Row q 127 cs::F)) w:=z0s 12 (zb h);have Q:(qe5 s.B id s.K.now).2.length<=64:=Aj (qqt _ _ _) I;have g:({ s with B:=(qe5 s.B id s.K.now).1}:Bk).roles.length<n:=g;generalize (qe5 s.B id s.K.now).2=l at Q f⊢;generalize { s with B:=(qe5 s.B id s.K.now).1}=s at f g⊢;unfold Bk.leaveW;refine qt3 (λm vs w=>∃k:Nat,k+m=l.length/\vs=[Zi Zk (k:Int)]/\(Bk.leaveW (λs i=>Bk.shutB n s i) s (l.take k)).roles.length<n/\St W (brk c x p pl (A0 m2) (Bk.leaveW (λs i=>Bk.shutB n s i) s (l.take k)) (SlA 55 6 leV t r l::Row q 127 cs::F)) w) λμ H R=>⟨⟨l.length,0,by omega,rfl,g,f⟩,λj w O=>?_⟩;clear f;obtain⟨k,E,U,D,f⟩:=R _ _ O;generalize μ _ _=m at E⊢;cases U;refine za (λh=>?_) λh=>?_
  .have y:k<l.length:=by have:=yC h;omega
   have L:=A2 y;have J:Bk.leaveW (λs i=>Bk.shutB n s i) s (l.take (k+1))=((Bk.leaveW (λs i=>Bk.shutB n s i) s (l.take k)).give l[k].ten 1).emptyW (λs i=>Bk.shutB n s i) l[k].name:=by unfold Bk.leaveW;rw[q29 _ _ L]
   generalize Bk.leaveW (λs i=>Bk.shutB n s i) s (l.take k)=s1 at f D J;refine z0f qhw (by decide) (Rd.b12 (z0e _)) f yR y L λa z=>z0i (z 0 _ rfl) (z0i (z 1 _ rfl) (zq (z 2 _ rfl) (zq (z 3 _ rfl) (zq (z 4 _ rfl) (LdB.at (z 5 _ rfl) (zh f λb w f=>?_))))));refine St1.zz 0 f yR λw f=>St1.zz 0 f yR λw f=>St1.zz 0 f yR λw f=>St1.zz 0 f yR λw f=>St1.zz 0 f yR λw f=>St1.zz 0 f yR λw f=>?_;have f:St W (Row b 55 (leV l[k])::brk c x p pl (A0 m2) s1 (SlA 55 6 leV t r l::Row q 127 cs::F)) w:=f;refine⟨StC W _,zd f,z7 ⟨_,zo 1 ir yR yR,_,zu 0 ir yR yR,?_⟩⟩;refine z05 3 ir yR (λG w h=>qx7 (.inl yR) h) (λ_ _ h=>⟨_,rfl,h⟩) ⟨_,rfl,trivial,λG w h=>?_⟩;have f:=zb h;refine zg 0 f yR yR ?_;have f:St W (brk c x p pl (A0 m2) (s1.give l[k].ten 1) (Row b 55 (leV l[k])::SlA 55 6 leV t r l::Row q 127 cs::F)) w:=zf 0 12 f yR;refine(qim (s:=s1.give l[k].ten 1) l[k].name K (λs id e h=>h) D f).of λv w ⟨o,f⟩=>⟨o,?_⟩;have f:=f.del 12 yR;have A:∃C:Nat,C+(m - 1)=l.length/\[Zi Zk (Zw Zk ((k:Int)+1))]=[Zi Zk (C:Int)]/\(Bk.leaveW (λs i=>Bk.shutB n s i) s (l.take C)).roles.length<n/\St W (brk c x p pl (A0 m2) (Bk.leaveW (λs i=>Bk.shutB n s i) s (l.take C)) (SlA 55 6 leV t r l::Row q 127 cs::F)) w:=⟨k+1,by omega,by rw[up y (by omega)],by rw[J];exact A5 (Bk.emptyW_len (Bk.shutB_len n) _ _) D,by rw[J];exact f⟩;exact⟨⟨_,A⟩,A5 (H _ _ _ A) (by omega)⟩
  .have:l.take k=l:=A6 (by have:=yD h;omega);rw[this]at f;exact⟨rfl,f.del 12 yR⟩
 rw[yA (by simpa using h)];refine za (λh=>?_) λh=>?_
 .rw[yB (by simpa using h)];refine z7 (z0n 0 f yR yR (qb.p 4 f yR (λh=>Qu.Drop_spec id h) λw f=>⟨_,rfl,?_⟩));refine z7 (z0n 0 f yR yR (qb.p 5 f yR (λh=>qcs h) λw f=>⟨_,rfl,?_⟩));refine⟨StC W _,zd f,z7 (z7 ⟨_,zo 0 ir yR yR,_,zu 12 ir yR M,?_⟩)⟩;exact z05 2 ir yR (λG w h=>qx7 (.inr yR) h) (λ_ _ h=>⟨_,rfl,h⟩) ⟨_,rfl,trivial,λG w h=>⟨rfl,zb h⟩⟩
 rw[yA (by simpa using h)];refine za (λh=>?_) λh=>?_
 .rw[yB (by simpa using h)];refine z7 (z0n 0 f yR yR (qb.p 6 f yR (λh=>q4v h) λw f=>⟨_,_,rfl,za (λh=>?_) λh=>?_⟩))
  .rw[yB h];refine⟨StC W _,zd f,z7 (z7 ⟨_,zo 0 ir yR yR,_,zu 12 ir yR M,?_⟩)⟩;refine z05 2 ir yR (λG w h=>qx7 (.inr yR) h) (λ_ _ h=>⟨_,rfl,h⟩) ⟨_,rfl,trivial,λG w h=>?_⟩;have f:St W (brk c x p pl (A0 m2) (({ s with P:=qxf s.P id}:Bk).give d.ten 2) (Row q 127 cs::F)) w:=zb h;exact(K.2 (({ s with P:=qxf s.P id}:Bk).give d.ten 2) _ _ _ g f).of λv w ⟨o,f⟩=>⟨o,rfl,f⟩
  .rw[yA (by rw[h];simp)];exact⟨rfl,f⟩
 .rw[yA (by simpa using h)];exact⟨rfl,f⟩
def q7h:∀n,q7f W c x m2 p pl (λs=>s.roles.length<n) (λs i=>Bk.shutB n s i)
 |0=>⟨λs id h=>yI h (by simp),λs id F w h=>yI h (by simp)⟩
 |n+1=>⟨λs id h=>A5 (Bk.shutB_len _ _ _) h,λs id F w b a=>by
  have e:=q7h n;have b:s.roles.length<n+1:=b;show qb _ _ _ _ λv w'=>v=Zt #[]/\St W (brk c x p pl (A0 m2) (Bk.shutB (n+1) s id) F) w';unfold Bk.shutB;cases hd:qe s.roles id with
  |none=>refine F85_of (z7 (zv 0 a yR yR (z0y kI uMr iPr zPr 9 a yR hd Ai ?_)));rw[yB yR];exact⟨_,_,rfl,zm yR ⟨rfl,a⟩⟩
  |some d=>obtain⟨q,a⟩:=brk.take hd a;obtain⟨sb,g,a⟩:=qo2.open_ a;have a:St W (q32 c x p pl (A0 m2) s id q (Row q 127 (qs pl sb d)::q02 p.v sb d.sh::F)) w:=zf 0 12 (zf 1 13 a yR) yR;exact(qsn e yR yR hd b a).of λv w ⟨f,a⟩=>⟨f,(a.del 12 yR).del 12 yR⟩⟩
def qdj:q7f W c x m2 p pl (λ_=>True) Bk.shut:=⟨λ_ _ _=>trivial,λs id F w _ hS=>(q7h (s.roles.length+1)).2 s id F w (Bx _) hS⟩
def q9a(h:St W (brk c x p pl (A0 m2) s F) w):qb Zp 85 #[qc x,Zi Zk id] w λv w'=>v=Zt #[]/\St W (brk c x p pl (A0 m2) (s.shut id) F) w':=qdj.2 s id F w trivial h
def q18(e:Int)(h:St W (brk c x p pl (A0 m2) s F) w):qb Zp 193 #[qc x,Zi Zk id,Zi Zk e] w λv w'=>v=Zt #[]/\St W (brk c x p pl (A0 m2) (s.refuse id e) F) w':=qak e qdj trivial h
def qhq(name:ByteArray)(h:St W (brk c x p pl (A0 m2) s F) w):qb Zp 148 #[qc x,Zs name] w λv w'=>v=Zt #[]/\St W (brk c x p pl (A0 m2) (s.empty name) F) w':=qim name qdj (λ_ _ _ _=>trivial) trivial h
def qdf(y:LeD)(a:St W (brk c x p pl (A0 m2) s F) w):qb Zp 129 #[qc x,Zg (leV y).toArray] w λv w'=>v=Zt #[]/\St W (brk c x p pl (A0 m2) (s.gone y) F) w':=by refine F129_of (zh a λb w a=>⟨StC W _,zd a,z7 ⟨_,zo 1 ir yR yR,_,zu 0 ir yR yR,?_⟩⟩);refine z05 3 ir yR (λG w h=>qx7 (.inl yR) h) (λ_ _ h=>⟨_,rfl,h⟩) ⟨_,rfl,trivial,λG w h=>?_⟩;have a:St W (brk c x p pl (A0 m2) (s.give y.ten 1) (Row b 55 (leV y)::F)) w:=zf 0 12 (zb h) yR;refine z8 12 a yR yR (zg 12 a yR yR (z8 12 a yR yR ((qba ⟨10,y.name,e0,y.epoch,0⟩ a).of λv w ⟨d,a⟩=>⟨d,zg 12 a yR yR ?_⟩)));exact(qhq y.name a).of λv w ⟨d,a⟩=>⟨d,rfl,a.del 12 yR⟩
end
end
section
section
variable{W w:World}{F l:List Asn}{ro:Asn}{c:qy}{x m2 q:Nat}{p:qm3}{pl:List Nat}{sn:Option Nat}{s:Bk}{id:Int}{cs:List Value}{r:q31}
def Ef.le{C:Cls}{K:Ab->Cls->Prop}{b:Nat}(c:Is W C l)(y:LeD)(d:K (Zt #[]) (StC W (Row b 55 (leV y)::l))):
 Ef (Cls.push C (b,.cells #[(Zs ⟨#[]⟩),(Zs ⟨#[]⟩),(Zi Zk 0),(Zi Zk 0),(Zi Zk 0),(Zb A8)] 55)) (λw K=>
  St1 (Za ⟨b,0,A4⟩ 0) (Zs y.name) w λw=>St1 (Za ⟨b,0,A4⟩ 1) (Zs y.ten) w λw=>St1 (Za ⟨b,0,A4⟩ 2) (Zi Zk y.conn) w λw=>
  St1 (Za ⟨b,0,A4⟩ 3) (Zi Zk y.epoch) w λw=>St1 (Za ⟨b,0,A4⟩ 4) (Zi Zk y.til) w λw=>St1 (Za ⟨b,0,A4⟩ 5) (Zb y.held) w λw=>K (Zt #[]) w) K:=
 zk (α:=Unit) (V:=λ_=>Zt #[]) (B:=λ_=>Row b 55 (leV y)::l) () (c.push b _) (λG w h=>by have a:=h.imp z0d;exact St1.zz 0 a yR λw a=>St1.zz 0 a yR λw a=>St1.zz 0 a yR λw a=>St1.zz 0 a yR λw a=>St1.zz 0 a yR λw a=>St1.zz 0 a yR λw a=>⟨(),rfl,a⟩) λ_=>d
def cpL{a b:Nat}{y:LeD}{p u1:ByteArray}{u2 m n e:Int}{k:Bool}{R:Ab->Aa->Prop}(h:St W (Row a 55 (leV y)::Row b 55 [Zs p,Zs u1,Zi Zk u2,Zi Zk m,Zi Zk n,Zb k]::l) w)
 (o:∀w,St W l w->R (Zt #[Zg (leV y).toArray,Zi Zk e]) w):
 LdS (Za ⟨a,0,A4⟩ 0) w λd=>LdS (Za ⟨a,0,A4⟩ 1) w λg=>LdI Zk (Za ⟨a,0,A4⟩ 2) w λc=>LdI Zk (Za ⟨a,0,A4⟩ 3) w λf=>LdI Zk (Za ⟨a,0,A4⟩ 4) w λi=>LdB (Za ⟨a,0,A4⟩ 5) w λj=>
 St1 (Za ⟨b,0,A4⟩ 0) (Zs d) w λw=>St1 (Za ⟨b,0,A4⟩ 1) (Zs g) w λw=>St1 (Za ⟨b,0,A4⟩ 2) (Zi Zk c) w λw=>
 St1 (Za ⟨b,0,A4⟩ 3) (Zi Zk f) w λw=>St1 (Za ⟨b,0,A4⟩ 4) (Zi Zk i) w λw=>St1 (Za ⟨b,0,A4⟩ 5) (Zb j) w λw=>
 LdS (Za ⟨b,0,A4⟩ 0) w λd=>LdS (Za ⟨b,0,A4⟩ 1) w λg=>LdI Zk (Za ⟨b,0,A4⟩ 2) w λc=>LdI Zk (Za ⟨b,0,A4⟩ 3) w λf=>LdI Zk (Za ⟨b,0,A4⟩ 4) w λi=>LdB (Za ⟨b,0,A4⟩ 5) w λj=>
 R (Zt #[Zg #[Zs d,Zs g,Zi Zk c,Zi Zk f,Zi Zk i,Zb j],Zi Zk e]) w:=
 zg 0 h yR yR (zg 0 h yR yR (z8 0 h yR yR (z8 0 h yR yR (z8 0 h yR yR (zx 0 h yR yR
  (St1.zz 1 h yR λw h=>St1.zz 1 h yR λw h=>St1.zz 1 h yR λw h=>St1.zz 1 h yR λw h=>St1.zz 1 h yR λw h=>St1.zz 1 h yR λw h=>
  zg 1 h yR yR (zg 1 h yR yR (z8 1 h yR yR (z8 1 h yR yR (z8 1 h yR yR (zx 1 h yR yR (o _ (z0h [_,_] h)))))))))))))
def qvk(name:ByteArray)(g:ql1 F c)(d:St W (qy1 ro c x p pl sn s F) w):qb Zp 351 #[qc x,Zi Zk id,Zs name] w λv w'=>v=Zt #[Zg (leV (s.held name)).toArray,Zi Zk (s.admE id name)]/\St W (qy1 ro c x p pl sn (s.admitted id name) F) w':=by
 unfold Bk.admitted Bk.admE Bk.held;suffices i:∀R:Ab->Aa->Prop,(∀w',St W (qy1 ro c x p pl sn { s with O:=(s.admR id name (q06 s.B name s.K.now).1 (q06 s.B name s.K.now).2).1,Q:=(s.admR id name (q06 s.B name s.K.now).1 (q06 s.B name s.K.now).2).2.1} F) w'->R (Zt #[Zg (leV (q06 s.B name s.K.now).1).toArray,Zi Zk (s.admR id name (q06 s.B name s.K.now).1 (q06 s.B name s.K.now).2).2.2]) w')->qb Zp 351 #[qc x,Zi Zk id,Zs name] w R from i _ λw' h=>⟨rfl,h⟩
 intro R a;refine F351_of (zh d λb w d=>⟨StC W _,zd d,z7 (z7 ⟨_,zo 1 ir yR yR,_,zo 1 ir yR yR,?_⟩)⟩);refine z05 9 ir yR (λG w h=>Ck.Now_spec h) (λ_ _ h=>⟨_,rfl,h⟩) ⟨_,rfl,zo 1 ir yR yR,?_⟩;refine z05 4 ir yR (λG w h=>qeg (name:=name) (now:=s.K.now) h) (λ_ _ h=>⟨_,_,_,_,_,_,_,rfl,h⟩) ⟨_,_,_,_,_,_,_,rfl,trivial,λf=>?_⟩;generalize q06 s.B name s.K.now=hy at a⊢;obtain⟨y,j⟩:=hy;refine Ef.le ir y ⟨rfl,trivial,λG w h=>?_⟩;have d:St W (Row f 55 (leV y)::Row b 55 [Zs ⟨#[]⟩,Zs ⟨#[]⟩,Zi Zk 0,Zi Zk 0,Zi Zk 0,Zb A8]::qy1 ro c x p pl sn s F) w:=zb h;clear h;unfold Bk.admR at a;dsimp only at a;refine za (λh=>?_) λh=>?_
 .rw[yB (by simpa using h)]at a;exact cpL d a
 rw[yA (by simpa using h)]at a;refine⟨StC W _,zd d,z7 (z7 ⟨_,zo 2 ir yR yR,_,zu 0 ir yR yR,_,zo 2 ir yR yR,?_⟩)⟩;refine z05 9 ir yR (λG w h=>Cn.Addr_spec (id:=id) h) (λ_ _ h=>⟨_,rfl,h⟩) ⟨_,rfl,⟨zu 0 ir yR yR,zo 2 ir yR yR⟩,?_⟩;refine z05 4 ir yR (λG w h=>qvo (s:=y.ten) (((((((((((((g.app (pts G)).cons _).cons _).cons _).cons _).cons _).cons _).cons _).cons _).cons _).cons _).cons _).cons _ |>.cons _) h) (λ_ _ h=>⟨_,rfl,h⟩) ⟨_,rfl,trivial,λG w h=>?_⟩;have d:St W (Row f 55 (leV y)::Row b 55 [Zs ⟨#[]⟩,Zs ⟨#[]⟩,Zi Zk 0,Zi Zk 0,Zi Zk 0,Zb A8]::qy1 ro c x p pl sn s F) w:=zb h;clear h;unfold Bk.ask at a;refine za (λh=>?_) λh=>?_
 .rw[yB (by simpa using h)]at a;exact cpL d a
 rw[yA (by simpa using h)]at a;refine⟨StC W _,zd d,z7 ⟨_,zo 2 ir yR yR,_,zu 0 ir yR yR,?_⟩⟩;refine z05 4 ir yR (λG w h=>qyh (s:=y.ten) (.inr yR) h) (λ_ _ h=>⟨_,rfl,h⟩) ⟨_,rfl,trivial,λG w h=>?_⟩;have d:=zb h;clear h;refine za (λh=>?_) λh=>?_
 .rw[yB (by simpa using h)]at a;exact cpL d a
 rw[yA (by simpa using h)]at a;refine z7 (z0n 2 d yR yR (qb.p 6 d yR (λh=>Qu.Put_spec name id h) λw d=>⟨_,rfl,za (λh=>?_) λh=>?_⟩))
 .rw[yB (by simpa using h)]at a;refine⟨StC W _,zd d,z7 ⟨_,zo 2 ir yR yR,_,zu 0 ir yR yR,?_⟩⟩;refine z05 4 ir yR (λG w h=>qx7 (s:=y.ten) (.inr yR) h) (λ_ _ h=>⟨_,rfl,h⟩) ⟨_,rfl,trivial,λG w h=>?_⟩;exact cpL (zb h) a
 .have e:(Qu.gPut s.Q name id).2=0:=by simpa using h
  rw[yA (by rw[e];simp)]at a;rw[e];exact cpL d a
def qrb(y:LeD)(e:Int)(d:cs[0]?=A0 (Zi Zk id))(a:St W (qy1 ro c x p pl sn s (Row q 127 cs::F)) w):qb Zp 355 #[qc x,qc q,Zg (leV y).toArray,Zi Zk e] w λv w'=>v=Zt #[]/\St W (qy1 ro c x p pl sn (s.granted id y e) (Row q 127 cs::F)) w':=by
 unfold Bk.granted;refine F355_of (z0a 12 a λb w a=>za (λh=>?_) λh=>?_)
 .have a:St W (qy1 ro c x p pl sn s (Row b 55 (leV y)::Row q 127 cs::F)) w:=a;rw[yB (by simpa using h)];exact z7 (z8 13 a yR d ((qvf e a).of λv w ⟨f,a⟩=>⟨f,rfl,a.del 12 yR⟩))
 .have a:St W (qy1 ro c x p pl sn s (Row b 55 (leV y)::Row q 127 cs::F)) w:=a;rw[yA (by simpa using h)];refine⟨StC W _,zd a,z7 ⟨_,zi 13 ir yR d,_,zu 12 ir yR yR,_,zi 12 ir yR yR,_,zi 12 ir yR yR,?_⟩⟩;refine Ef.al (l':=qy1 ro c x p pl sn (s.tell id ⟨7,y.name,e0,y.epoch,y.til⟩) (Row b 55 (leV y)::Row q 127 cs::F)) ir (λG w h=>qba (F:=Row b 55 (leV y)::Row q 127 cs::F++pts G) ⟨7,y.name,e0,y.epoch,y.til⟩ h) (λ_ _ h=>⟨rfl,h⟩) ⟨rfl,trivial,λG w h=>⟨rfl,(zb h).del 12 yR⟩⟩
end
end
section
def qrv{W w:Aa}{F:List Asn}{p:Option Aq}{c:Nat}{xs:List LeD}{r:Ab}(g:LeD->Bool)(A:Rd F p (xs.flatMap leV))(t:xs.length<=9223372036854775807)
 (u:∀(x:LeD),x∈xs->∀(w:Aa) (K:Ab->Aa->Prop),St W F w->(∀w',St W F w'->K (Zb (g x)) w')->q01 Zp 4 r [Zg (leV x).toArray] w K) (d:St W F w):
 qb Zp 388 #[Zl p xs.length c,r] w λv w'=>v=Zi Zk (qt4 g xs)/\St W F w':=by
 refine F388_of ⟨λvs w=>∃i:Nat,vs=[Zi Zk i]/\i<=xs.length/\(∀j y,j<i->xs[j]?=A0 y->g y=A8)/\St W F w,leftN xs.length,⟨0,rfl,by omega,λj y h=>by omega,d⟩,λx w B=>?_⟩;obtain⟨i,s,D,m,d⟩:=B;cases s;refine za (λb=>?_) λn=>?_
 .have b:i<xs.length:=by have:=yC b;omega
  have l:xs[i]?=A0 (xs[i]'b):=A2 _;generalize xs[i]'b=y at l;refine z0f (f:=leV) (size:=6) (λ_=>rfl) (by omega) A d yR b l λa k=>⟨_,k 0 _ rfl,⟨_,k 1 _ rfl,⟨_,k 2 _ rfl,⟨_,k 3 _ rfl,⟨_,k 4 _ rfl,⟨_,k 5 _ rfl,u y (B3 l) w _ d λw' d=>⟨_,rfl,?_⟩⟩⟩⟩⟩⟩⟩;cases hy:g y with
  |true=>exact⟨by rw[qs8 l hy m],d⟩
  |false=>
   rw[up b t];exact⟨⟨i+1,rfl,by omega,λj z C o=>by
    by_cases e:j=i;.subst e;rw[l]at o;cases o;exact hy
    .exact m j z (by omega) o,d⟩,by show xs.length -(i+1)<xs.length - i;omega⟩
 have q:i=xs.length:=by have:=yD n;omega
 subst q;exact⟨by rw[qq8 λj y h=>m j y (Ad.1 h).1 h],d⟩
def qqv{W w:Aa}{F:List Asn}{p:Option Aq}{c:Nat}{xs:List LeD}{a:Ab}(g:LeD->Bool)(e:Rd F p (xs.flatMap leV))(b:xs.length<=9223372036854775807)
 (d:∀(x:LeD),x∈xs->∀(w:Aa) (K:Ab->Aa->Prop),St W F w->(∀w',St W F w'->K (Zb (g x)) w')->q01 Zp 4 a [Zg (leV x).toArray] w K) (h:St W F w):
 qb Zp 360 #[Zl p xs.length c,a] w λv w'=>v=Zb (xs.any g)/\St W F w':=
 F360_of ((qrv g e b d h).of λv w ⟨f,h⟩=>⟨_,f,by rw[qkd],h⟩)
def q4y(so:LeD->Bool)(l:List ByteArray)(s:LeL×List LeD):(l.foldl (q64 so λd=>d) s).1=s.1:=by
 induction l generalizing s with
 |nil=>rfl
 |cons a l h=>
  rw[C4,h];unfold q64;split;.rfl
  .rename_i d w;split;.exact qt1 w
   .rfl
def qmv(so:LeD->Bool)(L:LeL):(qk4 so (λd=>d) L).1=L:=q4y so _ _
def qzj{W w:Aa}{F:List Asn}{b:Nat}{B:qi3}(h:St W (q41 b B::F) w):qb Zp 48 #[qc b] w λv w'=>∃p c,v=Zl p (q3h B.L).length c/\St W (SlA 55 6 leV p c (q3h B.L)::q41 b B::F) w':=
 (All_spec h).of λv w ⟨p,c,a,_,h⟩=>by rw[qmv]at h;exact⟨p,c,a,h⟩
def rv0{pl:List Nat}{sb:Option Nat}{d:q31}{id:Int}(h:d.conn=id):(qs pl sb d)[0]?=A0 (Zi Zk id):=by subst h;rfl
section
variable{W w:World}{F l:List Asn}{ro:Asn}{c:qy}{x m2 q:Nat}{p:qm3}{pl:List Nat}{sn:Option Nat}{s:Bk}{id:Int}{cs:List Value}{r:q31}
def q0o(m:qk1)(d:cs[0]?=A0 (Zi Zk id))(g:cs[2]?=A0 (Zs r.ten))(a:St W (qy1 ro c x p pl sn s (Row q 127 cs::F)) w):qb Zp 317 #[qc x,qc q,ql2 m] w λv w'=>v=Zt #[]/\St W (qy1 ro c x p pl sn (s.claim id r m) (Row q 127 cs::F)) w':=by
 unfold Bk.claim;refine F317_of (z0a 13 a λb w a=>⟨StC W _,zd a,z7 (z7 ⟨_,zo 0 ir yR yR,_,zu 12 ir yR g,?_⟩)⟩);refine z05 2 ir yR (λG w h=>qyh (s:=r.ten) (.inl yR) h) (λ_ _ h=>⟨_,rfl,h⟩) ⟨_,rfl,trivial,λG w h=>?_⟩;have a:St W (qy1 ro c x p pl sn { s with O:=(qq5 s.O r.ten 1).1} (Row q 127 cs::Row b 74 [Zi Zk m.k,Zs m.A,Zs m.B,Zi Zk m.N,Zi Zk m.M]::F)) w:=zb h;clear h;refine za (λh=>?_) λh=>?_
 .rw[yB (by simpa using h)];exact z7 (z8 12 a yR d ((qvf (qq5 s.O r.ten 1).2 a).of λv w ⟨f,a⟩=>⟨f,rfl,a.del 13 yR⟩))
 rw[yA (by simpa using h)];generalize { s with O:=(qq5 s.O r.ten 1).1}=s at a⊢;unfold Bk.claim1;refine⟨StC W _,zd a,z7 (z7 (z7 (z7 ⟨_,zo 0 ir yR yR,_,zu 12 ir yR g,_,zu 13 ir yR yR,_,zi 12 ir yR d,_,zo 0 ir yR yR,_,zi 13 ir yR yR,?_⟩)))⟩;refine z05 8 ir yR (λG w h=>Ck.Now_spec h) (λ_ _ h=>⟨_,rfl,h⟩) ⟨_,rfl,⟨zi 13 ir yR yR,zi 12 ir yR d,zu 13 ir yR yR,zu 12 ir yR g,zo 0 ir yR yR⟩,?_⟩;refine z05 3 ir yR (λG w h=>qir (ten:=r.ten) (name:=m.A) (conn:=id) (now:=s.K.now) (ttl:=m.N) h) (λ_ _ h=>⟨_,_,_,_,_,_,_,rfl,h⟩) ⟨_,_,_,_,_,_,_,rfl,trivial,λi=>?_⟩;refine Ef.le ir (qk5 s.B r.ten m.A id s.K.now m.N).2.1 ⟨rfl,trivial,λG w h=>?_⟩;have a:=zb h;clear h;generalize qk5 s.B r.ten m.A id s.K.now m.N=cl at a⊢;obtain⟨B,y,e⟩:=cl;have a:St W (Row i 55 (leV y)::qy1 ro c x p pl sn { s with B:=B} (Row q 127 cs::Row b 74 [Zi Zk m.k,Zs m.A,Zs m.B,Zi Zk m.N,Zi Zk m.M]::F)) w:=a;dsimp only;refine za (λh=>?_) λh=>?_
 .rw[yB (by simpa using h)];refine⟨StC W _,zd a,z7 (z7 ⟨_,zo 1 ir yR yR,_,zu 13 ir yR g,?_⟩)⟩;refine z05 3 ir yR (λG w h=>qx7 (s:=r.ten) (.inl yR) h) (λ_ _ h=>⟨_,rfl,h⟩) ⟨_,rfl,trivial,λG w h=>?_⟩;have a:=zb h;refine zg 0 a yR yR (zg 0 a yR yR (z8 0 a yR yR (z8 0 a yR yR (z8 0 a yR yR (zx 0 a yR yR ?_)))));have a:St W (qy1 ro c x p pl sn (({ s with B:=B}:Bk).give r.ten 1) (Row q 127 cs::Row i 55 (leV y)::Row b 74 [Zi Zk m.k,Zs m.A,Zs m.B,Zi Zk m.N,Zi Zk m.M]::F)) w:=zf 0 13 a yR;exact(qrb (s:=({ s with B:=B}:Bk).give r.ten 1) y e d a).of λv w ⟨f,a⟩=>⟨f,rfl,(a.del 13 yR).del 13 yR⟩
 .rw[yA (by simpa using h)];refine zg 0 a yR yR (zg 0 a yR yR (z8 0 a yR yR (z8 0 a yR yR (z8 0 a yR yR (zx 0 a yR yR ?_)))));have a:St W (qy1 ro c x p pl sn { s with B:=B} (Row q 127 cs::Row i 55 (leV y)::Row b 74 [Zi Zk m.k,Zs m.A,Zs m.B,Zi Zk m.N,Zi Zk m.M]::F)) w:=zf 0 13 a yR;exact(qrb (s:={ s with B:=B}) y e d a).of λv w ⟨f,a⟩=>⟨f,rfl,(a.del 13 yR).del 13 yR⟩
def qmo(m:qk1)(g:cs[0]?=A0 (Zi Zk id))(f:cs[2]?=A0 (Zs r.ten))(a:St W (qy1 ro c x p pl sn s (Row q 127 cs::F)) w):qb Zp 318 #[qc x,qc q,ql2 m] w λv w'=>v=Zt #[]/\St W (qy1 ro c x p pl sn (s.renew id r m) (Row q 127 cs::F)) w':=by unfold Bk.renew;refine F318_of (z0a 13 a λb w a=>⟨StC W _,zd a,z7 (z7 (z7 ⟨_,zo 0 ir yR yR,_,zu 12 ir yR f,_,zu 13 ir yR yR,_,zi 13 ir yR yR,_,zo 0 ir yR yR,_,zi 13 ir yR yR,?_⟩))⟩);refine z05 8 ir yR (λG w h=>Ck.Now_spec h) (λ_ _ h=>⟨_,rfl,h⟩) ⟨_,rfl,⟨zi 13 ir yR yR,zi 13 ir yR yR,zu 13 ir yR yR,zu 12 ir yR f,zo 0 ir yR yR⟩,?_⟩;refine z05 3 ir yR (λG w h=>qfq (ten:=r.ten) (name:=m.A) (epoch:=m.N) (now:=s.K.now) (ttl:=m.M) h) (λ_ _ h=>⟨_,_,_,_,_,_,_,rfl,h⟩) ⟨_,_,_,_,_,_,_,rfl,trivial,λd=>?_⟩;refine Ef.le ir (qpb s.B r.ten m.A m.N s.K.now m.M).2.1 ⟨rfl,trivial,λG w h=>?_⟩;have a:=zb h;clear h;generalize qpb s.B r.ten m.A m.N s.K.now m.M=cl at a⊢;obtain⟨B,y,e⟩:=cl;have a:St W (Row d 55 (leV y)::qy1 ro c x p pl sn { s with B:=B} (Row q 127 cs::Row b 74 [Zi Zk m.k,Zs m.A,Zs m.B,Zi Zk m.N,Zi Zk m.M]::F)) w:=a;dsimp only;refine zg 0 a yR yR (zg 0 a yR yR (z8 0 a yR yR (z8 0 a yR yR (z8 0 a yR yR (zx 0 a yR yR ?_)))));have a:St W (qy1 ro c x p pl sn { s with B:=B} (Row q 127 cs::Row d 55 (leV y)::Row b 74 [Zi Zk m.k,Zs m.A,Zs m.B,Zi Zk m.N,Zi Zk m.M]::F)) w:=zf 0 13 a yR;exact(qrb (s:={ s with B:=B}) y e g a).of λv w ⟨i,a⟩=>⟨i,rfl,(a.del 13 yR).del 13 yR⟩
def qmq(m:qk1)(h:St W l w):qb Zp 320 #[qc x,qc q,ql2 m] w λv w'=>v=Zt #[]/\St W l w':=
 F320_of (zh h λb w h=>⟨rfl,h.drop⟩)
def qwk{sb:Option Nat}(m:qk1)(k:r.conn=id)(g:∀i,r.pump=A0 i->i<pl.length)(j:qe s.roles id=A0 r)(a:St W (q32 c x p pl (A0 m2) s id q (Row q 127 (qs pl sb r)::q02 p.v sb r.sh::F)) w):
 qb Zp 319 #[qc x,qc q,ql2 m] w λv w'=>v=Zt #[]/\St W (brk c x p pl (A0 m2) (s.release id r m) F) w':=by
 unfold Bk.release;refine F319_of (z0a 14 a λb w a=>⟨StC W _,zd a,z7 (z7 ⟨_,zo 0 ir yR yR,_,zu 14 ir yR yR,_,zo 0 ir yR yR,?_⟩)⟩);refine z05 8 ir yR (λG w h=>Ck.Now_spec h) (λ_ _ h=>⟨_,rfl,h⟩) ⟨_,rfl,⟨zu 14 ir yR yR,zo 0 ir yR yR⟩,?_⟩;refine z05 3 ir yR (λG w h=>qeg (name:=m.A) (now:=s.K.now) h) (λ_ _ h=>⟨_,_,_,_,_,_,_,rfl,h⟩) ⟨_,_,_,_,_,_,_,rfl,trivial,λd=>?_⟩;generalize q06 s.B m.A s.K.now=hy;obtain⟨y,l⟩:=hy;refine Ef.le ir y ⟨rfl,trivial,λG w h=>?_⟩;have a:St W (Row d 55 (leV y)::q32 c x p pl (A0 m2) s id q (Row q 127 (qs pl sb r)::q02 p.v sb r.sh::Row b 74 [Zi Zk m.k,Zs m.A,Zs m.B,Zi Zk m.N,Zi Zk m.M]::F)) w:=zb h;clear h;refine⟨StC W _,zd a,z7 (z7 (z7 ⟨_,zo 1 ir yR yR,_,zu 13 ir yR yR,_,zu 15 ir yR yR,_,zi 15 ir yR yR,_,zo 1 ir yR yR,?_⟩))⟩;refine z05 9 ir yR (λG w h=>Ck.Now_spec h) (λ_ _ h=>⟨_,rfl,h⟩) ⟨_,rfl,⟨zi 15 ir yR yR,zu 15 ir yR yR,zu 13 ir yR yR,zo 1 ir yR yR⟩,?_⟩;refine z05 4 ir yR (λG w h=>q4m (ten:=r.ten) (name:=m.A) (epoch:=m.N) (now:=s.K.now) h) (λ_ _ h=>⟨_,rfl,h⟩) ⟨_,rfl,trivial,λG w h=>?_⟩;have a:=zb h;clear h;generalize qmb s.B r.ten m.A m.N s.K.now=cl at a⊢;obtain⟨B,e⟩:=cl;have a:St W (Row d 55 (leV y)::q32 c x p pl (A0 m2) { s with B:=B} id q (Row q 127 (qs pl sb r)::q02 p.v sb r.sh::Row b 74 [Zi Zk m.k,Zs m.A,Zs m.B,Zi Zk m.N,Zi Zk m.M]::F)) w:=a;dsimp only;refine za (λh=>?_) λh=>?_
 .rw[yB (by simpa using h)];refine z7 (z8 13 a yR (rv0 k) ?_);have a:St W (q32 c x p pl (A0 m2) { s with B:=B} id q (Row d 55 (leV y)::Row q 127 (qs pl sb r)::q02 p.v sb r.sh::Row b 74 [Zi Zk m.k,Zs m.A,Zs m.B,Zi Zk m.N,Zi Zk m.M]::F)) w:=zf 0 12 a yR;exact(qvf (s:={ s with B:=B}) e a).of λv w ⟨f,a⟩=>⟨f,rfl,z08 (s:=({ s with B:=B}:Bk).no id e) g j ((a.del 12 yR).del 14 yR)⟩
 .rw[yA (by simpa using h)];refine zg 0 a yR yR (zg 0 a yR yR (z8 0 a yR yR (z8 0 a yR yR (z8 0 a yR yR (zx 0 a yR yR ?_)))));have a:=z08 (s:={ s with B:=B}) g j (zf 0 14 a yR);exact(qdf (s:={ s with B:=B}) y a).of λv w ⟨f,a⟩=>⟨f,rfl,(a.del 12 yR).del 12 yR⟩
end
end
section
section
variable{κ δ:Type}[DecidableEq κ]
def qw.put{enc:κ->Ab}{m b:Nat}{A:Nat->δ->Asn}{L:List (κ×δ)}{k:κ}{W w:Aa}{F:List Asn}(d:δ)(h:St W (qw enc m A L k b::F) w):St W (qw enc m A (qk L k d) k b::F) w:=by
 obtain⟨bs,⟨a,d0,f⟩,c⟩:=qw.open_ h;subst a;refine qw.shut (qk bs k (b,d)) ⟨(qt2 (Ah (α:=Nat) (β:=δ)) bs k (b,d)).symm,d,qj1 _ _ _⟩ ?_;have e:qx (A3 (α:=Nat) (β:=δ)) (qk bs k (b,d))=qx (A3 (α:=Nat) (β:=δ)) bs:=by rw[<-qt2];exact qt1 (by rw[q62,f];rfl)
 rw[e,adel_aset];exact c
end
section
variable{W w:World}{F l:List Asn}{ro:Asn}{c:qy}{x m2 q:Nat}{p:qm3}{pl:List Nat}{sn:Option Nat}{s:Bk}{id:Int}{cs:List Value}{r:q31}
def q32.put(r:q31)(h:St W (q32 c x p pl sn s id q F) w):St W (q32 c x p pl sn (s.put id r) id q F) w:=zf 0 9 (qw.put r (zf 9 0 h yR)) yR
def Ef.msg{C:Cls}{K:Ab->Cls->Prop}{b:Nat}(k:Nat)(c:Is W C l)(y:qk1)(d:K (Zt #[]) (StC W (ins k (Row b 74 [Zi Zk y.k,Zs y.A,Zs y.B,Zi Zk y.N,Zi Zk y.M]) l))):
 Ef (Cls.push C (b,.cells #[(Zi Zk 0),(Zs ⟨#[]⟩),(Zs ⟨#[]⟩),(Zi Zk 0),(Zi Zk 0)] 74)) (λw K=>
  St1 (Za ⟨b,0,A4⟩ 0) (Zi Zk y.k) w λw=>St1 (Za ⟨b,0,A4⟩ 1) (Zs y.A) w λw=>St1 (Za ⟨b,0,A4⟩ 2) (Zs y.B) w λw=>
  St1 (Za ⟨b,0,A4⟩ 3) (Zi Zk y.N) w λw=>St1 (Za ⟨b,0,A4⟩ 4) (Zi Zk y.M) w λw=>K (Zt #[]) w) K:=
 zk (α:=Unit) (V:=λ_=>Zt #[]) (B:=λ_=>ins k (Row b 74 [Zi Zk y.k,Zs y.A,Zs y.B,Zi Zk y.N,Zi Zk y.M]) l) () (c.push b _) (λG w h=>by have a:=h.imp z0d;exact St1.zz 0 a yR λw a=>St1.zz 0 a yR λw a=>St1.zz 0 a yR λw a=>St1.zz 0 a yR λw a=>St1.zz 0 a yR λw a=>⟨(),rfl,by have a:St W (Row b 74 [Zi Zk y.k,Zs y.A,Zs y.B,Zi Zk y.N,Zi Zk y.M]::l++pts G) w:=a;exact a.perm ((qh7 k _ l).append_right _)⟩) λ_=>d
def Ef.alarm{C:Cls}{K:Ab->Cls->Prop}{b:Nat}{after:Int}(ids:List Int)(d:ids.length<=1000000)(f:Is W C (qy1 ro c x p pl sn s F))(e:K (Zt #[]) (StC W (qy1 ro c x p pl sn (s.alarm after ids) F))):
 Ef (Cls.push C (b,.cells (ids.map (Zi Zk)).toArray 3)) (λw K=>qb Zp 122 #[qc x,Zi Zk after,.slice (A0 ⟨b,0,A4⟩) ids.length ids.length] w λv w'=>v=Zt #[]/\K (Zt #[]) w') K:=
 zk (α:=Unit) (V:=λ_=>Zt #[]) (B:=λ_=>qy1 ro c x p pl sn (s.alarm after ids) F) () (f.push b _) (λG w h=>by have a:St W (qy1 ro c x p pl sn s (Row b 3 (ids.map (Zi Zk))::F++pts G)) w:=zf 0 12 (h.imp z0d) yR;refine(q7i (z0t 0 λi v h=>by rw[Ar];exact h) d a).of λv w ⟨g,a⟩=>⟨g,(),rfl,?_⟩;exact a.del 12 yR) λ_=>e
def q6r{sb:Option Nat}(name draw:ByteArray)(k:ql1 F c)(l:r.conn=id)(j:∀i,r.pump=A0 i->i<pl.length)(g:qe s.roles id=A0 r)(a:St W (q32 c x p pl (A0 m2) s id q (Row q 127 (qs pl sb r)::q02 p.v sb r.sh::F)) w):
 qb Zp 314 #[qc x,qc q,Zs name,Zs draw] w λv w'=>v=Zt #[]/\St W (brk c x p pl (A0 m2) (s.reach c id r name draw) F) w':=by
 subst l;unfold Bk.reach;refine F314_of (z7 (z8 12 a yR yR ((qvk name ((k.cons _).cons _) a).of λv w ⟨f,a⟩=>⟨_,_,_,_,_,_,_,f,z0a 14 a λb w a=>?_⟩)));refine St1.zz 14 a yR λw a=>St1.zz 14 a yR λw a=>St1.zz 14 a yR λw a=>St1.zz 14 a yR λw a=>St1.zz 14 a yR λw a=>St1.zz 14 a yR λw a=>?_;have a:St W (q32 c x p pl (A0 m2) (s.admitted r.conn name) r.conn q (Row q 127 (qs pl sb r)::q02 p.v sb r.sh::Row b 55 (leV (s.held name))::F)) w:=a;generalize s.admE r.conn name=e;refine za (λh=>?_) λh=>?_
 .rw[yB (by simpa using h)];refine z7 (z8 12 a yR yR ?_);have a:=z08 (s:=s.admitted r.conn name) j g a;exact(q18 e a).of λv w ⟨f,a⟩=>⟨f,rfl,a.del 12 yR⟩
 rw[yA (by simpa using h)];have g:qe (s.admitted r.conn name).roles r.conn=A0 r:=g;generalize s.admitted r.conn name=s1 at a g⊢;generalize s.held name=y at a⊢;refine⟨StC W _,zd a,z7 ⟨_,zi 12 ir yR yR,_,zu 14 ir yR yR,_,zi 14 ir yR yR,z7 ?_⟩⟩;refine zk (α:=Unit) (V:=λ_=>Zt #[]) (B:=λ_=>q32 c x p pl (A0 m2) s1 r.conn q (Row q 127 (qs pl sb { r with kind:=3,ten:=y.ten,name:=name,epoch:=y.epoch})::q02 p.v sb r.sh::Row b 55 (leV y)::F)) () ir (λG w a=>St1.zz 12 a yR λw a=>St1.zz 12 a yR λw a=>St1.zz 12 a yR λw a=>St1.zz 12 a yR λw a=>St1.zz 12 a yR λw a=>⟨(),rfl,a⟩) λ_=>⟨rfl,trivial,λG w h=>?_⟩;have a:=zb h;clear h;refine⟨StC W _,zd a,z7 (z7 ⟨_,zi 0 ir yR yR,_,zi 12 ir yR yR,λm=>?_⟩)⟩;refine Ef.alarm [r.conn] (by simp) ir ⟨rfl,trivial,λG w h=>?_⟩;have a:=zb h;clear h;refine⟨StC W _,zd a,z7 (z7 ⟨_,zo 0 ir yR yR,_,zi 12 ir yR yR,_,zu 14 ir yR yR,_,zi 14 ir yR yR,?_⟩)⟩;refine z05 5 ir yR (λG w h=>q1q (p:=⟨r.conn,name,y.ten,y.epoch⟩) (drawn:=draw) ((k.tab.app (pts G)).pre [_,_,_,_,_,_,_,_,_,_,_,_,_,_]) h) (λ_ _ h=>⟨_,_,rfl,h⟩) ⟨_,_,rfl,trivial,λG w h=>?_⟩;have a:=zb h;clear h;refine z8 14 a yR yR ?_;have a:St W (q32 c x p pl (A0 m2) {(s1.alarm c.wait [r.conn])with T:=(qca s1.T ⟨r.conn,name,y.ten,y.epoch⟩ draw).1} r.conn q (Row q 127 (qs pl sb { r with kind:=3,ten:=y.ten,name:=name,epoch:=y.epoch})::q02 p.v sb r.sh::Row b 55 (leV y)::F)) w:=a;refine(qba ⟨11,name,(qca s1.T ⟨r.conn,name,y.ten,y.epoch⟩ draw).2.1,0,0⟩ a).of λv w ⟨f,a⟩=>⟨f,rfl,?_⟩;exact(brk.set (d:={ r with kind:=3,ten:=y.ten,name:=name,epoch:=y.epoch}) j a).del 12 yR
end
end
section
def qok(bs:List UInt8)(k:Nat):(bytesRow (mkS bs) ((mkS bs).size+k)).toList=bs.map qd++Bi k (Zi .u8 0):=by unfold bytesRow;rw[qf1];simp[mkS,qd,Function.comp_def]
def qpw{b k:Nat}{y:ByteArray}{e:Cb}:∀h,Pt b ((Two.rowB y e).1 k) h->Row b e ((qm y).map qd++Bi k (Zi .u8 0)) h:=λh a=>by
 obtain⟨bs,rfl⟩:∃bs,y=mkS bs:=⟨qm y,(qd5 y).symm⟩;have c:=qok bs k;have d:qm (mkS bs)=bs:=by simp[qm,mkS]
 rw[d,<-c];exact⟨_,_,a,rfl,λi w f=>by rw[As]at w;exact Nat.lt_irrefl _ (Nat.lt_of_lt_of_le w f.1)⟩
def qqz(s:ByteArray)(n:Nat):qm (s.extract 0 (Bn (if(n:Int)<(s.size:Int)then(n:Int)else(s.size:Int))))=(qm s).take n:=by
 unfold qm;rw[ByteArray.data_extract,Array.toList_extract];have w:s.data.toList.length=s.size:=As;split;.simp
 .rename_i h;rw[Bb];simp only[List.extract,Bj,Cc];rw[A6 (by omega),A6 (by omega)]
section
variable{W w:World}{F l:List Asn}{ro:Asn}{c:qy}{x m2 q:Nat}{p:qm3}{pl:List Nat}{sn:Option Nat}{s s':Bk}{id:Int}{cs:List Value}{r:q31}
set_option maxHeartbeats 1000000 in
def qur{sb:Option Nat}(m:qk1)(draw:ByteArray)(U:ql1 F c)(Z:r.conn=id)(K:∀i,r.pump=A0 i->i<pl.length)(t:qe s.roles id=A0 r)(j:s.greet c id r m draw=A0 s')(a:St W (q32 c x p pl (A0 m2) s id q (Row q 127 (qs pl sb r)::q02 p.v sb r.sh::F)) w):
 qb Zp 275 #[qc x,qc q,ql2 m,Zs draw] w λv w'=>v=Zt #[]/\St W (brk c x p pl (A0 m2) s' F) w':=by
 subst Z;unfold Bk.greet at j;refine F275_of (z0a 14 a λb w a=>⟨λ_ w=>(m.k==14&&!r.heard)=A8/\St W (q32 c x p pl (A0 m2) s r.conn q (Row q 127 (qs pl sb r)::q02 p.v sb r.sh::Row b 74 [Zi Zk m.k,Zs m.A,Zs m.B,Zi Zk m.N,Zi Zk m.M]::F)) w,z8 14 a yR yR (za (λh=>z7 (zx 12 a yR yR (za (λP=>zg 14 a yR yR ?_) λP=>⟨by rw[h,P];rfl,a⟩))) λh=>⟨by rw[h];rfl,a⟩),λw C=>?_⟩)
 .rw[yB (by rw[h,P];rfl)]at j;cases j;exact(q6r m.A draw (U.cons (Row b 74 [Zi Zk m.k,Zs m.A,Zs m.B,Zi Zk m.N,Zi Zk m.M])) yR K t a).of λv w ⟨A,a⟩=>⟨A,rfl,a.del 12 yR⟩
 obtain⟨Y,a⟩:=C;rw[yA (by rw[Y];simp)]at j;clear Y;obtain⟨f,o⟩:∃f,f=if r.heard=Ai then r else { r with heard:=Ai,token:=m.B}:=⟨_,rfl⟩
 rw[<-o]at j;dsimp only at j;have H:f.conn=r.conn:=by rw[o];split<;>rfl
 have L:∀i,f.pump=A0 i->i<pl.length:=by rw[o];split<;>exact K
 have O:f.sh=r.sh:=by rw[o];split<;>rfl
 refine z7 (zx 12 a yR yR ⟨λ_ w=>St W (q32 c x p pl (A0 m2) s r.conn q (Row q 127 (qs pl sb f)::q02 p.v sb f.sh::Row b 74 [Zi Zk m.k,Zs m.A,Zs m.B,Zi Zk m.N,Zi Zk m.M]::F)) w,?_,λw a=>?_⟩)
 .refine za (λh=>?_) λh=>?_
  .rw[o,yA (by simpa using h)];refine⟨StC W _,zd a,z7 ⟨_,zu 14 ir yR yR,?_⟩⟩;refine z0q 12 ir yR (by simp[qs]) ⟨rfl,zu 14 ir yR yR,z7 ?_⟩;exact z0q 12 ir yR (by simp[qs]) ⟨rfl,trivial,λG w h=>zb h⟩
  .rw[o,yB (by simpa using h)];exact a
 rename_i Q;clear Q;rw[<-H]at a t;rw[<-H]at j;have a:=q32.put f a;have t:qe (s.put f.conn f).roles f.conn=A0 f:=qj1 _ _ _;clear o K O;cases hsh:f.sh with
 |none=>rw[hsh]at j;cases j
 |some d=>
 rw[hsh]at j a;dsimp only at j;cases sb with
 |none=>exact yI (St.of_pr (p:=False) (zf 13 0 a yR)).1 id
 |some b2=>
 have a:St W (q32 c x p pl (A0 m2) (s.put f.conn f) f.conn q (Row q 127 (qs pl (A0 b2) f)::qx2 p.v b2 d::Row b 74 [Zi Zk m.k,Zs m.A,Zs m.B,Zi Zk m.N,Zi Zk m.M]::F)) w:=a;have M:∀g,((s.put f.conn f).put f.conn g)=s.put f.conn g:=λg=>by unfold Bk.put;simp only[qe7]
 refine⟨StC W _,zd a,z7 (z7 ⟨⟨by omega,by split<;>omega,by split<;>omega⟩,?_⟩)⟩;have u:qm (draw.extract (Bn 0) (Bn (if(16:Int)<(draw.size:Int)then 16 else(draw.size:Int))))=(qm draw).take 16:=qqz draw 16;generalize draw.extract (Bn 0) (Bn (if(16:Int)<(draw.size:Int)then 16 else(draw.size:Int)))=y at u⊢;refine⟨_,zo 12 ir yR yR,_,_,_,_,_,qpn 14 ir yR,_,zo 0 ir yR yR,?_⟩;refine z05 8 ir yR (λG w h=>Ck.Now_spec h) (λ_ _ h=>⟨_,rfl,h⟩) ⟨_,rfl,⟨qpn 14 ir yR,zo 12 ir yR yR⟩,λk b3=>?_⟩;have hl:y.size=(qm y).length:=As.symm;have hl2:(qm y).length<=16:=by rw[u,Am];omega
 rw[hl];refine zk (α:=Unit) (V:=λ_=>Zs (Bk.nonce draw)) (B:=λ_=>q32 c x p pl (A0 m2) (s.put f.conn f) f.conn q (Row q 127 (qs pl (A0 b2) f)::qx2 p.v b2 d::Row b 74 [Zi Zk m.k,Zs m.A,Zs m.B,Zi Zk m.N,Zi Zk m.M]::F)) () (ir.push b3 _) (λG w h=>?_) λ_=>⟨_,rfl,⟨qpn 14 ir yR,zo 12 ir yR yR⟩,?_⟩
 .have a:=h.imp qpw;refine(q8m (bs:=qm y) (z0t 0 λi v h=>by rw[Ar,Ax (Ad.1 h).1];exact h) (by omega) a).of λv w ⟨A,a⟩=>⟨_,A,(),?_,a.drop⟩;unfold Bk.nonce;rw[u]
 generalize E:q75 c s.R d m s.K.now (Bk.nonce draw)=res at j;obtain⟨l,said,ok⟩:=res;refine zk (α:=Unit) (V:=λ_=>Zt #[ql2 said,Zb ok]) (B:=λ_=>q32 c x p pl (A0 m2) (s.put f.conn f) f.conn q (Row q 127 (qs pl (A0 b2) f)::qx2 p.v b2 l::Row b 74 [Zi Zk m.k,Zs m.A,Zs m.B,Zi Zk m.N,Zi Zk m.M]::F)) () ir (λG w h=>?_) λ_=>⟨_,_,_,_,_,_,rfl,trivial,λk2 D=>?_⟩
 .have X:=qyn (c:=c) (R:=s.R) (m:=m) (now:=s.K.now) (nonce:=Bk.nonce draw) ((U.app (pts G)).pre [_,_,_,_,_,_,_,_,_,_,_,_,_]) (zf 2 1 (zf 13 0 h yR) yR);rw[E]at X;exact X.of λv w ⟨A,a⟩=>⟨_,_,_,_,_,_,A,(),rfl,zf 0 13 (zf 1 2 a yR) yR⟩
 refine Ef.msg 15 ir said ⟨rfl,trivial,λG w h=>?_⟩;have a:St W (q32 c x p pl (A0 m2) (s.put f.conn f) f.conn q (Row q 127 (qs pl (A0 b2) { f with sh:=A0 l})::qx2 p.v b2 l::Row b 74 [Zi Zk m.k,Zs m.A,Zs m.B,Zi Zk m.N,Zi Zk m.M]::Row D 74 [Zi Zk said.k,Zs said.A,Zs said.B,Zi Zk said.N,Zi Zk said.M]::F)) w:=zb h;clear h;have a:=q32.put { f with sh:=A0 l} a;rw[M]at a;have t:qe (s.put f.conn { f with sh:=A0 l}).roles f.conn=A0 { f with sh:=A0 l}:=qj1 _ _ _;obtain⟨g,z⟩:∃g,g=({ f with sh:=A0 l}:q31):=⟨_,rfl⟩;have N:g.conn=f.conn:=by rw[z]
 have I:∀i,g.pump=A0 i->i<pl.length:=by rw[z];exact L
 have J:g.sh=A0 l:=by rw[z]
 rw[<-z]at a t j;generalize s.put f.conn g=s1 at a t j;rw[<-N]at a t j;refine⟨StC W _,zd a,z7 ⟨_,zi 12 ir yR yR,_,_,_,_,_,qpn 15 ir yR,?_⟩⟩;refine Ef.al (l':=q32 c x p pl (A0 m2) (s1.tell g.conn said) g.conn q (Row q 127 (qs pl (A0 b2) g)::qx2 p.v b2 l::Row b 74 [Zi Zk m.k,Zs m.A,Zs m.B,Zi Zk m.N,Zi Zk m.M]::Row D 74 [Zi Zk said.k,Zs said.A,Zs said.B,Zi Zk said.N,Zi Zk said.M]::F)) ir (λG w h=>qba (F:=Row q 127 (qs pl (A0 b2) g)::qx2 p.v b2 l::Row b 74 [Zi Zk m.k,Zs m.A,Zs m.B,Zi Zk m.N,Zi Zk m.M]::Row D 74 [Zi Zk said.k,Zs said.A,Zs said.B,Zi Zk said.N,Zi Zk said.M]::F++pts G) said h) (λ_ _ h=>⟨rfl,h⟩) ⟨rfl,trivial,λG w h=>?_⟩;have a:=zb h;clear h;have t:qe (s1.tell g.conn said).roles g.conn=A0 g:=t;generalize s1.tell g.conn said=s2 at a t j;refine z8 15 a yR yR ⟨λ_ w=>if said.k=5 then St W (brk c x p pl (A0 m2) (s2.shut g.conn) (Row q 127 (qs pl (A0 b2) g)::qx2 p.v b2 l::Row b 74 [Zi Zk m.k,Zs m.A,Zs m.B,Zi Zk m.N,Zi Zk m.M]::Row D 74 [Zi Zk said.k,Zs said.A,Zs said.B,Zi Zk said.N,Zi Zk said.M]::F)) w else St W (q32 c x p pl (A0 m2) s2 g.conn q (Row q 127 (qs pl (A0 b2) g)::qx2 p.v b2 l::Row b 74 [Zi Zk m.k,Zs m.A,Zs m.B,Zi Zk m.N,Zi Zk m.M]::Row D 74 [Zi Zk said.k,Zs said.A,Zs said.B,Zi Zk said.N,Zi Zk said.M]::F)) w,za (λh=>?_) λh=>?_,λw C=>?_⟩
 .refine z7 (z8 12 a yR yR ((qsn (n:=s2.roles.length) (q7h _) yR yR t (Bx _) a).of λv w ⟨A,a⟩=>⟨A,?_⟩));have e:s2.shut g.conn=Bk.after (λs i=>Bk.shutB s2.roles.length s i) (s2.out g.conn) g.conn g:=by unfold Bk.shut;simp only[Bk.shutB,t]
  dsimp only;rw[yB (by simpa using h),e];exact a
 .dsimp only;rw[yA (by simpa using h)];exact a
 clear a;dsimp only at C;by_cases T:said.k=5
 .rw[yB T]at C j;cases j;refine z7 (z0n 12 C yR yR ((qvl (C.at 13 yR)).of λv w ⟨A,a⟩=>⟨_,_,A,za (λh=>?_) λh=>?_⟩))
  .have a:=z0s 13 a;exact z7 (St1.zz 12 a yR λw a=>z7 (St1.zz 12 a yR λw a=>⟨rfl,(((z03 12 a yR).del 12 yR).del 12 yR).del 12 yR⟩))
  .have a:=z0s 13 a;exact⟨rfl,(((z03 12 a yR).del 12 yR).del 12 yR).del 12 yR⟩
 .rw[yA T]at C j;refine z7 (z0n 12 C yR yR ((qvl (C.at 13 yR)).of λv w ⟨A,a⟩=>⟨_,_,A,za (λh=>?_) λh=>?_⟩))
  .have a:=z0s 13 a;rw[yB h]at j⊢;cases j;refine z7 (St1.zz 12 a yR λw a=>z7 (St1.zz 12 a yR λw a=>⟨rfl,?_⟩));have a:St W (q32 c x p pl (A0 m2) s2 g.conn q (Row q 127 (qs pl (A0 b2) { g with kind:=2,ten:=l.ten})::q02 p.v (A0 b2) (A0 l)::Row b 74 [Zi Zk m.k,Zs m.A,Zs m.B,Zi Zk m.N,Zi Zk m.M]::Row D 74 [Zi Zk said.k,Zs said.A,Zs said.B,Zi Zk said.N,Zi Zk said.M]::F)) w:=a;rw[<-J]at a;have a:=((brk.set (d:={ g with kind:=2,ten:=l.ten}) I a).del 12 yR).del 12 yR;subst z;exact a
  .have a:=z0s 13 a;rw[yA (by rw[h];simp)]at j;rw[<-A1 j];have a:St W (q32 c x p pl (A0 m2) s2 g.conn q (Row q 127 (qs pl (A0 b2) g)::q02 p.v (A0 b2) (A0 l)::Row b 74 [Zi Zk m.k,Zs m.A,Zs m.B,Zi Zk m.N,Zi Zk m.M]::Row D 74 [Zi Zk said.k,Zs said.A,Zs said.B,Zi Zk said.N,Zi Zk said.M]::F)) w:=a;rw[<-J]at a;exact⟨rfl,((z08 I t a).del 12 yR).del 12 yR⟩
end
end
section
section
variable{κ δ:Type}[DecidableEq κ]
def q4f(L:List (κ×δ)){j k:κ}(h:j≠k)(v:δ):qp (qk L j v) k=qk (qp L k) j v:=by
 induction L with
 |nil=>simp[qk,qp,h]
 |cons x r b=>
  by_cases a:x.1=j
  .have w:¬x.1=k:=λe=>h (a ▸ e);simp only[qk,yB a,qp,yA h,yA w]
  .by_cases w:x.1=k;.simp only[qk,yA a,qp,yB w]
   .simp only[qk,yA a,qp,yA w,b]
variable{P:Program}{kt et mt:TypeId}{enc:κ->Value}{m b b2:Nat}{A A':Nat->δ->Asn}{L:List (κ×δ)}{k j:κ}{W w:World}{F l:List Asn}
def qfy{d:δ}(M:List (κ×Nat×δ))(h:St W (A b d::qz (M.map λy=>A y.2.1 y.2.2)::F) w):St W (qz ((qk M j (b,d)).map λy=>A y.2.1 y.2.2)::F) w:=by
 have a:St W (A b d::qz ((qp M j).map λy=>A y.2.1 y.2.2)::F) w:=by
  cases hg:qe M j with
  |none=>rw[ql6 hg];exact h
  |some v=>exact(((qf5 ((Go.Proofs.YtfjifcfbmhpcaaaGreatDoor.aget_perm hg).map λy:κ×Nat×δ=>A y.2.1 y.2.2) h.p1).drop).p1)
 refine q95 ?_ a;have:=(Go.Proofs.YtfjifcfbmhpcaaaGreatDoor.aget_perm (qj1 M j (b,d))).map λy:κ×Nat×δ=>A y.2.1 y.2.2;rw[adel_aset]at this;exact this.symm
def qw.imp(i:∀b d H,A b d H->A' b d H)(h:St W (qw enc m A L k b::F) w):St W (qw enc m A' L k b::F) w:=by
 obtain⟨bs,a,f⟩:=qw.open_ h;refine qw.shut bs a (z11 1 f yR ?_);generalize qp bs k=M;have key:∀(M:List (κ×Nat×δ)) (H:Hp),Own (M.map λy=>A y.2.1 y.2.2) H->Own (M.map λy=>A' y.2.1 y.2.2) H:=λM=>by
  induction M with
  |nil=>exact λH h=>h
  |cons y r e=>exact λH ⟨g,l,c,j⟩=>⟨g,l,i _ _ _ c,e _ j⟩
 exact key M
def qw.set_ne(o:qw2 P kt enc)(g:P.underlying mt=A0 (.map kt et)){K:Aa->Prop}{d:δ}(a:j≠k)(i:St W (A b2 d::qw enc m A L k b::F) w)
 (l:∀w',St W (qw enc m A (qk L j d) k b::F) w'->K w'):qt8 P (Instr.mapUpdate mt (.map (A0 m)) (enc j) (qc b2)) w K:=by
 obtain⟨bs,⟨c,d0,e⟩,n⟩:=qw.open_ i.p1;subst c;refine qh1 o g 0 n yR j b2 λw' h=>l w' ?_;have h:St W (qg enc qc m (qk (qx (A3 (α:=Nat) (β:=δ)) bs) j b2)::qz ((qp bs k).map λy=>A y.2.1 y.2.2)::A b2 d::F) w':=h;refine qw.shut (qk bs j (b2,d)) ⟨(qt2 (Ah (α:=Nat) (β:=δ)) bs j (b2,d)).symm,d0,by rw[qh2,yA a];exact e⟩ ?_;rw[<-qt2,q4f _ a];have f:St W (A b2 d::qz ((qp bs k).map λy=>A y.2.1 y.2.2)::qg enc qc m (qk (qx (A3 (α:=Nat) (β:=δ)) bs) j b2)::F) w':=zf 1 2 (zf 2 0 h yR) yR;exact(qfy _ f).p1
def qw.set_eq(j:qw2 P kt enc)(e:P.underlying mt=A0 (.map kt et)){K:Aa->Prop}{d:δ}(f:St W (A b2 d::qw enc m A L k b::F) w)
 (g:∀w',St W (qr enc m A (qk L k d)::F) w'->K w'):qt8 P (Instr.mapUpdate mt (.map (A0 m)) (enc k) (qc b2)) w K:=by
 obtain⟨bs,⟨a,d0,n⟩,i⟩:=qw.open_ f.p1;subst a;refine qh1 j e 0 i yR k b2 λw' h=>g w' ?_;have h:St W (qg enc qc m (qk (qx (A3 (α:=Nat) (β:=δ)) bs) k b2)::qz ((qp bs k).map λy=>A y.2.1 y.2.2)::A b2 d::F) w':=h;refine z19 (qk bs k (b2,d)) (qt2 (Ah (α:=Nat) (β:=δ)) bs k (b2,d)).symm ?_;have c:St W (A b2 d::qz ((qp bs k).map λy=>A y.2.1 y.2.2)::qg enc qc m (qk (qx (A3 (α:=Nat) (β:=δ)) bs) k b2)::F) w':=zf 1 2 (zf 2 0 h yR) yR;rw[<-qt2];refine(q95 (l:=(qk bs k (b2,d)).map λy=>A y.2.1 y.2.2) ?_ c).p1;have:=(Go.Proofs.YtfjifcfbmhpcaaaGreatDoor.aget_perm (qj1 bs k (b2,d))).map λy:κ×Nat×δ=>A y.2.1 y.2.2;rw[adel_aset]at this;exact this.symm
end
section
variable{W w:World}{F l:List Asn}{ro:Asn}{c:qy}{x m2 q pb:Nat}{p:qm3}{pl:List Nat}{ps:List Ri.PS}{sn:Option Nat}{s s':Bk}{id:Int}{cs:List Value}{r:q31}
def qa5.len(h:St W (qa5 pl ps::F) w):pl.length=ps.length:=(h.of_sep.of_pr).1
def qa5.add{z:Ri.PS}(h:St W (Ri.PumpA pb 256 z::qa5 pl ps::F) w):St W (qa5 (pl++[pb]) (ps++[z])::F) w:=by
 obtain⟨b,a⟩:=h.p1.of_sep.of_pr;have a:St W (qz ((pl.zip ps).map λx=>Ri.PumpA x.1 256 x.2)::Ri.PumpA pb 256 z::F) w:=a;refine zj (l:=[_,_]) (z01 (by simp[b]) ?_);have e:(pl++[pb]).zip (ps++[z])=pl.zip ps++[(pb,z)]:=by rw[List.zip_append b];rfl
 rw[e,Av];exact q95 (X:=Ri.PumpA pb 256 z) (B9 _ _).symm a.p1
def q2t{o:Option Nat}(h:∀i,o=A0 i->i<pl.length):qnc (pl++[pb]) o=qnc pl o:=by
 cases o with
 |none=>rfl
 |some i=>have:=h i yR;unfold qnc;simp only;rw[Ax this]
def qo2.app{v b:Nat}{d:q31}:∀H,qo2 v pl b d H->qo2 v (pl++[pb]) b d H:=by
 rintro H ⟨sb,g,a,w,c⟩;have e:qs (pl++[pb]) sb d=qs pl sb d:=by unfold qs;rw[q2t w]
 exact⟨sb,g,a,λi h=>by rw[A9];have:=w i h;omega,by rw[e];exact c⟩
abbrev qf7(b:Nat)(m:qk1):Asn:=Row b 74 [Zi Zk m.k,Zs m.A,Zs m.B,Zi Zk m.N,Zi Zk m.M]
def qsw{y:LeD}{sb:Option Nat}{f a:Nat}{K:Ab->Aa->Prop}{l:List Asn}(j:l=q32 c x p pl sn s id q (Row q 127 (qs pl sb r)::q02 p.v sb r.sh::Row f 46 [qc x]::Row a 128 [qc q]::F))(g:St W l w)
 (i:∀w',St W l w'->K (Zb (Bk.holds r.conn s.K.now y)) w'):q01 Zp 4 (.func (.func 359) #[] #[qc a,qc f]) [Zg (leV y).toArray] w K:=by
 subst j;have d:qb Zp 359 #[Zg (leV y).toArray,qc a,qc f] w K:=by
  refine F359_of (zh g λb w g=>⟨StC W _,zd g,_,zi 0 ir yR yR,_,zy 16 ir yR yR,z7 ⟨_,zi 13 ir yR yR,za (λe=>⟨_,z0u 0 ir yR yR,za (λd=>⟨_,zy 15 ir yR yR,z7 ⟨_,zo 1 ir yR yR,_,zi 0 ir yR yR,?_⟩⟩) λd=>λG w h=>?_⟩) λe=>λG w h=>?_⟩⟩)
  .refine z05 9 ir yR (λG w h=>Ck.Now_spec h) (λ_ _ h=>⟨_,rfl,h⟩) ⟨_,rfl,zi 0 ir yR yR,λG w h=>?_⟩;have:=i w (zb h).drop;unfold Bk.holds at this;rw[e,d]at this;exact this
  .have:=i w (zb h).drop;unfold Bk.holds at this;rw[e,d]at this;exact this
  .have:=i w (zb h).drop;unfold Bk.holds at this;rw[e]at this;exact this
 exact zw (by kernel_rfl) d
end
end
section
section
variable{W w:World}{F l:List Asn}{ro:Asn}{c:qy}{x m2 q pb:Nat}{p:qm3}{pl:List Nat}{ps:List Ri.PS}{sn:Option Nat}{s s':Bk}{id:Int}{cs:List Value}{r:q31}
set_option maxHeartbeats 1000000 in
def qsk{sb:Option Nat}(m:qk1)(hc:r.conn=id)(Z:∀i,r.pump=A0 i->i<pl.length)(N:qe s.roles id=A0 r)(t:s.callback c id r m=A0 s')(a:St W (q32 c x p pl (A0 m2) s id q (Row q 127 (qs pl sb r)::q02 p.v sb r.sh::F)) w):
 qb Zp 321 #[qc x,qc q,ql2 m] w λv w'=>v=Zt #[]/\∃U,St W (brk c x p U (A0 m2) s' F) w':=by
 subst hc;unfold Bk.callback at t;refine F321_of (z0a 14 a λu w a=>z0a 15 a λf w a=>z0a 16 a λg w a=>LdP.n 14 a yR yR (z7 (z0n 0 a yR yR ((qzj (a.at 3 yR)).of λv w ⟨pp,cc,D,a⟩=>⟨_,_,_,D,?_⟩))));have hbl:(q3h s.B.L).length<=64:=by obtain⟨_,h,_⟩:=z13 (zf 1 0 a yR);exact Aj (qze _ _ _) h
 have a:St W (q32 c x p pl (A0 m2) s r.conn q (Row q 127 (qs pl sb r)::q02 p.v sb r.sh::Row u 46 [qc x]::Row f 128 [qc q]::qf7 g m::SlA 55 6 leV pp cc (q3h s.B.L)::F)) w:=z0s 17 (zf 1 4 a yR);refine(qqv (Bk.holds r.conn s.K.now) (z04 17 yR λF=>z0e F) (by omega) (λy _ w K a hK=>qsw yR a hK) a).of λv w ⟨D,a⟩=>⟨_,D,?_⟩;have a:St W (q32 c x p pl (A0 m2) s r.conn q (Row q 127 (qs pl sb r)::q02 p.v sb r.sh::Row u 46 [qc x]::Row f 128 [qc q]::qf7 g m::F)) w:=a.del 17 yR;refine za (λh=>?_) λh=>?_
 .rw[yB h]at t;rw[<-A1 t];refine⟨StC W _,zd a,_,zy 14 ir yR yR,_,zy 15 ir yR yR,z7 ⟨_,zi 12 ir yR yR,?_⟩⟩;refine Ef.al (l':=brk c x p pl (A0 m2) (s.refuse r.conn 1) (Row u 46 [qc x]::Row f 128 [qc q]::qf7 g m::F)) ir (λG w h=>?_) (λ_ _ h=>⟨rfl,h⟩) ⟨rfl,trivial,λG w h=>⟨rfl,pl,(((zb h).del 12 yR).del 12 yR).del 12 yR⟩⟩;have R:=z08 (F:=Row u 46 [qc x]::Row f 128 [qc q]::qf7 g m::F++pts G) Z N h;exact q18 1 R
 rw[yA (by rw[h];simp)]at t;clear h;refine⟨StC W _,zd a,_,zy 14 ir yR yR,z7 ⟨_,zo 0 ir yR yR,_,zu 16 ir yR yR,_,zy 15 ir yR yR,z7 ⟨_,zu 12 ir yR yR,?_⟩⟩⟩;generalize I:qw7 s.T m.B r.ten=res at t;obtain⟨T,d,e⟩:=res;dsimp only at t;refine z05 (X:=Zt #[Zg (q12 d).toArray,Zi Zk e]) (B:=q03 p.t T) 5 ir yR (λG w h=>by have:=q3o (text:=m.B) (ten:=r.ten) h;rw[I]at this;exact this) (λ_ _ h=>⟨_,_,_,_,_,rfl,h⟩) ⟨_,_,_,_,_,rfl,trivial,λl=>?_⟩
 refine zk (α:=Unit) (V:=λ_=>Zt #[]) (B:=λ_=>q32 c x p pl (A0 m2) { s with T:=T} r.conn q (Row q 127 (qs pl sb r)::q02 p.v sb r.sh::Row u 46 [qc x]::Row f 128 [qc q]::qf7 g m::Row l 344 (q12 d)::F)) () (ir.push l _) (λG w h=>?_) λ_=>⟨rfl,trivial,λG w h=>?_⟩
 .have a:=zf 0 17 (h.imp z0d) yR;exact St1.zz 17 a yR λw a=>St1.zz 17 a yR λw a=>St1.zz 17 a yR λw a=>St1.zz 17 a yR λw a=>⟨(),rfl,a⟩
 have a:=zb h;clear h;have N:qe ({ s with T:=T}:Bk).roles r.conn=A0 r:=N;generalize { s with T:=T}=o at a N t;refine za (λh=>?_) λh=>?_
 .rw[yB (by simpa using h)]at t;rw[<-A1 t];refine⟨StC W _,zd a,_,zy 14 ir yR yR,_,zy 15 ir yR yR,z7 ⟨_,zi 12 ir yR yR,?_⟩⟩;refine Ef.al (l':=brk c x p pl (A0 m2) (o.refuse r.conn e) (Row u 46 [qc x]::Row f 128 [qc q]::qf7 g m::Row l 344 (q12 d)::F)) ir (λG w h=>?_) (λ_ _ h=>⟨rfl,h⟩) ⟨rfl,trivial,λG w h=>⟨rfl,pl,((((zb h).del 12 yR).del 12 yR).del 12 yR).del 12 yR⟩⟩;have R:=z08 (F:=Row u 46 [qc x]::Row f 128 [qc q]::qf7 g m::Row l 344 (q12 d)::F++pts G) Z N h;exact q18 e R
 rw[yA (by simpa using h)]at t;clear h;by_cases D:d.vis=r.conn;.rw[yB D]at t;cases t
 rw[yA D]at t;rw[<-A1 t];clear t;refine⟨StC W _,zd a,_,zy 14 ir yR yR,z7 ⟨_,zo 0 ir yR yR,_,zi 17 ir yR yR,?_⟩⟩;refine z05 4 ir yR (λG w h=>Qu.Drop_spec d.vis h) (λ_ _ h=>⟨_,rfl,h⟩) ⟨_,rfl,trivial,λG w h=>?_⟩;have a:=zb h;clear h;refine⟨StC W _,zd a,_,zy 14 ir yR yR,z7 ⟨_,zo 0 ir yR yR,_,zi 17 ir yR yR,_,zy 15 ir yR yR,z7 ⟨_,zi 12 ir yR yR,?_⟩⟩⟩;refine z05 6 ir yR (λG w h=>qot (v:=d.vis) (c:=r.conn) h) (λ_ _ h=>⟨_,rfl,h⟩) ⟨_,rfl,trivial,λG w h=>?_⟩;have a:=zb h;clear h;refine(Ri.PNew_spec 256 a).of λv w ⟨pb,Y,a⟩=>⟨_,Y,?_⟩;have C:pl.length=o.pumps.length:=qa5.len (zf 12 0 a yR);have a:=qa5.add (zf 12 1 a yR);have a:=qw.imp (A':=qo2 p.v (pl++[pb])) (λ_ _=>qo2.app) (zf 10 0 a yR);obtain⟨A,E⟩:∃A,A=({ o with Q:=Qu.gDrop o.Q d.vis,P:=(q4g o.P d.vis r.conn).1,pumps:=o.pumps++[Ri.PS.new]}:Bk):=⟨_,rfl⟩;have a:St W (q32 c x p (pl++[pb]) (A0 m2) A r.conn q (Row q 127 (qs pl sb r)::q02 p.v sb r.sh::Row u 46 [qc x]::Row f 128 [qc q]::qf7 g m::Row l 344 (q12 d)::F)) w:=by rw[E];exact zf 0 9 (zf 1 11 a yR) yR
 have H:qnc (pl++[pb]) (A0 o.pumps.length)=qc pb:=by unfold qnc;rw[<-C];simp
 have J:∀(id side:Int),qs (pl++[pb]) A4 (qq7 id d o.pumps.length side)=[Zi Zk id,Zi Zk 4,Zs d.ten,Zs d.name,Zi Zk d.epoch,Zs ⟨#[]⟩,Zq A4,Zb A8,qc pb,Zi Zk side,Zb A8,Zb A8]:=λid side=>by unfold qs qq7;dsimp only;rw[H];rfl
 have L:∀(id side:Int) (b:Nat) (G:List Asn) (w:Aa),St W (Row b 127 [Zi Zk id,Zi Zk 4,Zs d.ten,Zs d.name,Zi Zk d.epoch,Zs ⟨#[]⟩,Zq A4,Zb A8,qc pb,Zi Zk side,Zb A8,Zb A8]::G) w->St W (qo2 p.v (pl++[pb]) b (qq7 id d o.pumps.length side)::G) w:=λid side b G w h=>by rw[<-J]at h;exact qo2.shut A4 (λi hi=>by cases hi;rw[A9,C,List.length_singleton];omega) (z01 trivial h).p1
 have e3:o.paired c r.conn d=((A.put d.vis (qq7 d.vis d o.pumps.length 0)).put r.conn (qq7 r.conn d o.pumps.length 1)).alarm c.idle [d.vis,r.conn]:=by rw[E];rfl
 rw[e3];clear e3 E J H;refine⟨StC W _,zd a,_,zi 17 ir yR yR,_,zy 15 ir yR yR,z7 ⟨_,zi 12 ir yR yR,λn G w h=>?_⟩⟩;have a:=zf 0 18 (((ir.push n _).ends h).imp z0d) yR;clear h;have w1:Zw Zk ((0:Int)+1)=1:=by decide
 have w2:Zw Zk ((1:Int)+1)=2:=by decide
 refine⟨λvs w=>(vs=[Zi Zk 0]/\St W (q32 c x p (pl++[pb]) (A0 m2) A r.conn q (Row q 127 (qs pl sb r)::q02 p.v sb r.sh::Row u 46 [qc x]::Row f 128 [qc q]::qf7 g m::Row l 344 (q12 d)::Row n 3 [Zi Zk d.vis,Zi Zk r.conn]::F)) w)\/
  (vs=[Zi Zk 1]/\St W (q32 c x p (pl++[pb]) (A0 m2) (A.put d.vis (qq7 d.vis d o.pumps.length 0)) r.conn q (Row q 127 (qs pl sb r)::q02 p.v sb r.sh::Row u 46 [qc x]::Row f 128 [qc q]::qf7 g m::Row l 344 (q12 d)::Row n 3 [Zi Zk d.vis,Zi Zk r.conn]::F)) w)\/
  (vs=[Zi Zk 2]/\St W (brk c x p (pl++[pb]) (A0 m2) ((A.put d.vis (qq7 d.vis d o.pumps.length 0)).put r.conn (qq7 r.conn d o.pumps.length 1)) (Row q 127 (qs pl sb r)::q02 p.v sb r.sh::Row u 46 [qc x]::Row f 128 [qc q]::qf7 g m::Row l 344 (q12 d)::Row n 3 [Zi Zk d.vis,Zi Zk r.conn]::F)) w),leftN 2,.inl ⟨rfl,a⟩,λj w hI=>?_⟩
 clear a;rcases hI with ⟨M,a⟩|⟨M,a⟩|⟨M,a⟩
 .cases M;refine zm yR (IxP.row (k:=0) yR (by omega) (z12 18 a yR yR ⟨StC W _,zd a,_,zy 14 ir yR yR,z7 ⟨_,z0b 0 ir yR yR,_,zu 17 ir yR yR,_,zu 17 ir yR yR,_,zi 17 ir yR yR,λz=>?_⟩⟩));refine zk (α:=Unit) (V:=λ_=>Zt #[]) (B:=λ_=>q32 c x p (pl++[pb]) (A0 m2) (A.put d.vis (qq7 d.vis d o.pumps.length 0)) r.conn q (Row q 127 (qs pl sb r)::q02 p.v sb r.sh::Row u 46 [qc x]::Row f 128 [qc q]::qf7 g m::Row l 344 (q12 d)::Row n 3 [Zi Zk d.vis,Zi Zk r.conn]::F)) () (ir.push z _) (λG w h=>?_) λ_=>⟨rfl,trivial,λG w h=>⟨.inr (.inl ⟨by rw[w1],zb h⟩),by rw[w1];show 2 - 1<2 - 0;omega⟩⟩;have O:=L _ _ _ _ _ (h.imp z0d);exact qw.set_ne kI uMr D (zf 10 1 O yR) λw h=>⟨(),rfl,zf 0 9 h yR⟩
 .cases M;refine zm yR (IxP.row (k:=1) yR (by omega) (z12 18 a yR yR ⟨StC W _,zd a,_,zy 14 ir yR yR,z7 ⟨_,z0b 0 ir yR yR,_,zu 17 ir yR yR,_,zu 17 ir yR yR,_,zi 17 ir yR yR,λz=>?_⟩⟩));refine zk (α:=Unit) (V:=λ_=>Zt #[]) (B:=λ_=>brk c x p (pl++[pb]) (A0 m2) ((A.put d.vis (qq7 d.vis d o.pumps.length 0)).put r.conn (qq7 r.conn d o.pumps.length 1)) (Row q 127 (qs pl sb r)::q02 p.v sb r.sh::Row u 46 [qc x]::Row f 128 [qc q]::qf7 g m::Row l 344 (q12 d)::Row n 3 [Zi Zk d.vis,Zi Zk r.conn]::F)) () (ir.push z _) (λG w h=>?_) λ_=>⟨rfl,trivial,λG w h=>⟨.inr (.inr ⟨by rw[w2],zb h⟩),by rw[w2];show 2 - 2<2 - 1;omega⟩⟩;have O:=L _ _ _ _ _ (h.imp z0d);exact qw.set_eq kI uMr (zf 10 1 O yR) λw h=>⟨(),rfl,zf 0 9 h yR⟩
 .cases M;refine zn yR ⟨StC W _,zd a,_,zy 14 ir yR yR,_,zy 14 ir yR yR,z7 ⟨_,zi 0 ir yR yR,_,zi 17 ir yR yR,_,zy 15 ir yR yR,z7 ⟨_,zi 12 ir yR yR,λb265=>?_⟩⟩⟩;exact Ef.alarm [d.vis,r.conn] (by simp) ir ⟨rfl,trivial,λG w h=>⟨rfl,pl++[pb],((((((z03 12 (zb h) yR).del 12 yR).del 12 yR).del 12 yR).del 12 yR).del 12 yR).del 12 yR⟩⟩
end
end
section
def fnV(f:Nat):Ab:=.func (.func f) #[] #[]
def qw8:List (Int×Nat):=[(6,317),(8,318),(9,319),(13,320),(12,321)]
def uMh:Zp.underlying 391=A0 (.map 3 389):=Tryz.underlying391
def iFh:Zp.info? 389=A0 Tryz.t389:=by kernel_rfl
def zFh:Tryz.t389.zero=A0 .nilFunc:=rfl
def qfv(k:Int):(k=6/\qe qw8 k=A0 317)\/(k=8/\qe qw8 k=A0 318)\/(k=9/\qe qw8 k=A0 319)\/(k=13/\qe qw8 k=A0 320)\/(k=12/\qe qw8 k=A0 321)\/((k≠6/\k≠8/\k≠9/\k≠13/\k≠12)/\qe qw8 k=A4):=by
 by_cases c:k=6;.subst c;exact .inl ⟨rfl,rfl⟩
 by_cases h:k=8;.subst h;exact .inr (.inl ⟨rfl,rfl⟩)
 by_cases a:k=9;.subst a;exact .inr (.inr (.inl ⟨rfl,rfl⟩))
 by_cases b:k=13;.subst b;exact .inr (.inr (.inr (.inl ⟨rfl,rfl⟩)))
 by_cases w:k=12;.subst w;exact .inr (.inr (.inr (.inr (.inl ⟨rfl,rfl⟩))))
 refine .inr (.inr (.inr (.inr (.inr ⟨⟨c,h,a,b,w⟩,?_⟩))));unfold qw8;simp only[qe];rw[yA (Ne.symm c),yA (Ne.symm h),yA (Ne.symm a),yA (Ne.symm b),yA (Ne.symm w)]
def q8s{W w:Aa}{l:List Asn}(h:St W l w):qb Zp 276 #[] w λv w'=>∃m,v=.map (A0 m)/\St W (qg (Zi Zk) fnV m qw8::l) w':=by refine F276_of (qs5.f (ν:=Nat) (Zi Zk) fnV h λm w h=>?_);refine qh1 (vl:=fnV) kI uMh 0 h yR 6 317 λw h=>qh1 (vl:=fnV) kI uMh 0 h yR 8 318 λw h=>qh1 (vl:=fnV) kI uMh 0 h yR 9 319 λw h=>qh1 (vl:=fnV) kI uMh 0 h yR 13 320 λw h=>qh1 (vl:=fnV) kI uMh 0 h yR 12 321 λw h=>⟨m,rfl,?_⟩;exact h
namespace Bk
def granted_roles(s:Bk)(id:Int)(x:LeD)(e:Int):(s.granted id x e).roles=s.roles:=rfl
def claim_roles(s:Bk)(id:Int)(r:q31)(m:qk1):(s.claim id r m).roles=s.roles:=by
 unfold claim;split;.rfl
 .unfold claim1;split;rw[granted_roles];split<;>rfl
def renew_roles(s:Bk)(id:Int)(r:q31)(m:qk1):(s.renew id r m).roles=s.roles:=rfl
end Bk
section
variable{W w:World}{F l:List Asn}{ro:Asn}{c:qy}{x m2 q pb:Nat}{p:qm3}{pl:List Nat}{ps:List Ri.PS}{sn:Option Nat}{s s':Bk}{id:Int}{cs:List Value}{r:q31}
set_option maxHeartbeats 1000000 in
def qzt{sb:Option Nat}(m:qk1)(draw:ByteArray)(y:ql1 F c)(u:r.conn=id)(n:∀i,r.pump=A0 i->i<pl.length)(k:qe s.roles id=A0 r)(e:s.hear c id r m draw=A0 s')(a:St W (q32 c x p pl (A0 m2) s id q (Row q 127 (qs pl sb r)::q02 p.v sb r.sh::F)) w):
 qb Zp 194 #[qc x,qc q,ql2 m,Zs draw] w λv w'=>v=Zt #[]/\∃d,St W (brk c x p d (A0 m2) s' F) w':=by
 subst u;unfold Bk.hear at e;dsimp only at e;refine F194_of (z0a 14 a λb w a=>⟨StC W _,zd a,z7 (z7 ⟨_,zi 0 ir yR yR,_,zi 12 ir yR yR,λz=>?_⟩)⟩);refine Ef.alarm [r.conn] (by simp) ir ⟨rfl,trivial,λG w h=>?_⟩;have a:St W (q32 c x p pl (A0 m2) (s.alarm c.idle [r.conn]) r.conn q (Row q 127 (qs pl sb r)::q02 p.v sb r.sh::qf7 b m::F)) w:=zb h;clear h;have k:qe (s.alarm c.idle [r.conn]).roles r.conn=A0 r:=k;generalize s.alarm c.idle [r.conn]=s at a k e;refine z7 (z8 12 a yR yR (za (λh=>?_) λh=>?_))
 .rw[yB (by simpa using h)]at e;refine z8 14 a yR yR (zg 14 a yR yR (zg 14 a yR yR (z8 14 a yR yR (z8 14 a yR yR ?_))));exact(qur m draw (y.cons _) yR n k e a).of λv w ⟨g,a⟩=>⟨g,rfl,pl,a.del 12 yR⟩
 rw[yA (by simpa using h)]at e;clear h;refine⟨StC W _,zd a,_,zi 14 ir yR yR,?_⟩;refine zk (α:=Nat) (V:=λo=>.map (A0 o)) (B:=λo=>qg (Zi Zk) fnV o qw8::q32 c x p pl (A0 m2) s r.conn q (Row q 127 (qs pl sb r)::q02 p.v sb r.sh::qf7 b m::F)) 0 ir (λG w h=>(q8s h).of λv w ⟨o,g,h⟩=>⟨_,g,o,rfl,h⟩) λo=>⟨_,rfl,zi 15 ir yR yR,_,_,(λG w t=>qq1 kI uMh iFh zFh 0 t yR m.k Ai (by rw[yB yR];exact⟨_,_,rfl,rfl,t⟩)),λG w h=>?_⟩;have a:St W (q32 c x p pl (A0 m2) s r.conn q (Row q 127 (qs pl sb r)::q02 p.v sb r.sh::qf7 b m::F)) w:=(zb h).drop;clear h;rcases qfv m.k with ⟨f,j⟩|⟨f,j⟩|⟨f,j⟩|⟨f,j⟩|⟨f,j⟩|⟨f,j⟩
 .rw[j];rw[yB f]at e;rw[<-A1 e];refine zn yR (z8 14 a yR yR (zg 14 a yR yR (zg 14 a yR yR (z8 14 a yR yR (z8 14 a yR yR ?_)))));have l:=(q0o (id:=r.conn) (r:=r) m yR yR a).of (R':=λv w'=>v=Zt #[]/\(λv w'=>v=Zt #[]/\∃d,St W (brk c x p d (A0 m2) (s.claim r.conn r m) F) w') (Zt #[]) w') λv w ⟨g,a⟩=>⟨g,rfl,pl,by rw[show s.roles=(s.claim r.conn r m).roles from(Bk.claim_roles _ _ _ _).symm]at a;exact(z08 (s:=s.claim r.conn r m) n (by rw[Bk.claim_roles];exact k) a).del 12 yR⟩
  exact zw (by kernel_rfl) l
 .rw[j];rw[yA (by omega),yB f]at e;rw[<-A1 e];refine zn yR (z8 14 a yR yR (zg 14 a yR yR (zg 14 a yR yR (z8 14 a yR yR (z8 14 a yR yR ?_)))));have l:=(qmo (id:=r.conn) (r:=r) m yR yR a).of (R':=λv w'=>v=Zt #[]/\(λv w'=>v=Zt #[]/\∃d,St W (brk c x p d (A0 m2) (s.renew r.conn r m) F) w') (Zt #[]) w') λv w ⟨g,a⟩=>⟨g,rfl,pl,by rw[show s.roles=(s.renew r.conn r m).roles from(Bk.renew_roles _ _ _ _).symm]at a;exact(z08 (s:=s.renew r.conn r m) n (by rw[Bk.renew_roles];exact k) a).del 12 yR⟩
  exact zw (by kernel_rfl) l
 .rw[j];rw[yA (by omega),yA (by omega),yB f]at e;rw[<-A1 e];refine zn yR (z8 14 a yR yR (zg 14 a yR yR (zg 14 a yR yR (z8 14 a yR yR (z8 14 a yR yR ?_)))));have l:=(qwk m yR n k a).of (R':=λv w'=>v=Zt #[]/\(λv w'=>v=Zt #[]/\∃d,St W (brk c x p d (A0 m2) (s.release r.conn r m) F) w') (Zt #[]) w') λv w ⟨g,a⟩=>⟨g,rfl,pl,a.del 12 yR⟩;exact zw (by kernel_rfl) l
 .rw[j];rw[yA (by omega),yA (by omega),yA (by omega),yB f]at e;rw[<-A1 e];refine zn yR (z8 14 a yR yR (zg 14 a yR yR (zg 14 a yR yR (z8 14 a yR yR (z8 14 a yR yR ?_)))));have l:=(qmq (x:=x) (q:=q) m a).of (R':=λv w'=>v=Zt #[]/\(λv w'=>v=Zt #[]/\∃d,St W (brk c x p d (A0 m2) s F) w') (Zt #[]) w') λv w ⟨g,a⟩=>⟨g,rfl,pl,(z08 n k a).del 12 yR⟩;exact zw (by kernel_rfl) l
 .rw[j];rw[yA (by omega),yA (by omega),yA (by omega),yA (by omega),yB f]at e;refine zn yR (z8 14 a yR yR (zg 14 a yR yR (zg 14 a yR yR (z8 14 a yR yR (z8 14 a yR yR ?_)))));have l:=(qsk m yR n k e a).of (R':=λv w'=>v=Zt #[]/\(λv w'=>v=Zt #[]/\∃d,St W (brk c x p d (A0 m2) s' F) w') (Zt #[]) w') λv w ⟨g,d,a⟩=>⟨g,rfl,d,a.del 12 yR⟩;exact zw (by kernel_rfl) l
 .rw[j];rw[yA f.1,yA f.2.1,yA f.2.2.1,yA f.2.2.2.1,yA f.2.2.2.2]at e;rw[<-A1 e];refine zm yR (z7 (z8 12 a yR yR ?_));exact(q18 1 (z08 n k a)).of λv w ⟨g,a⟩=>⟨g,rfl,pl,a.del 12 yR⟩
end
end
section
def qb3.next{N:Cn.CT}{S:List (Int×q81)}(h:qb3 N S)(id:Int):qb3 (Cn.nextT N id).1 S:=by
 unfold Cn.nextT;split;.exact h
 .rename_i d a;refine⟨h.1,λy w=>?_⟩;rcases qh8 w with rfl|w
  .have:=h.2 _ (qg3 a);exact this
  .exact h.2 y w
section
variable{W w:World}{F l:List Asn}{ro:Asn}{c:qy}{x m2 q pb:Nat}{p:qm3}{pl:List Nat}{ps:List Ri.PS}{sn:Option Nat}{s s':Bk}{id:Int}{cs:List Value}{r:q31}
def qyk(W:Aa)(c:qy)(x m2:Nat)(p:qm3)(pl:List Nat)(s:Bk)(id:Int)(F:List Asn)(vs:List Ab)(w:Aa):Prop:=
 (∃(r:q31) (q:Nat) (sb:Option Nat),s.talks id=A0 r/\vs=[qc q,Zb Ai]/\(∀i,r.pump=A0 i->i<pl.length)/\St W (q32 c x p pl (A0 m2) s id q (Row q 127 (qs pl sb r)::q02 p.v sb r.sh::F)) w)\/
 (s.talks id=A4/\∃a,vs=[Zq a,Zb A8]/\St W (brk c x p pl (A0 m2) s F) w)
def q4t(h:s.talks id=A0 r):qe s.roles id=A0 r:=by
 unfold Bk.talks at h;split at h;.cases h
 .split at h;.cases h;assumption
  .cases h
def qcg(e:St W (brk c x p pl (A0 m2) s F) w):qb Zp 191 #[qc x,Zi Zk id] w λv w'=>∃a b,v=Zt #[Zq a,Zb b]/\qyk W c x m2 p pl s id F [Zq a,Zb b] w':=by
 unfold qyk;cases hd:qe s.roles id with
 |none=>
  have j:s.talks id=A4:=by unfold Bk.talks;rw[hd]
  refine F191_of (z7 (zv 0 e yR yR (z0y kI uMr iPr zPr 9 e yR hd Ai ?_)));rw[yB yR];exact⟨_,_,rfl,StC W _,zd e,zn yR λG w h=>⟨_,_,rfl,.inr ⟨j,_,rfl,zb h⟩⟩⟩
 |some d=>
  obtain⟨q,sb,g,e⟩:=brk.open_ hd e;refine F191_of (z7 (zv 0 e yR yR (z0g kI uMr iPr zPr 9 e yR Ai ?_)));rw[yB yR];refine⟨_,_,rfl,StC W _,zd e,zm yR (z7 ⟨_,zi 12 ir yR yR,za (λh=>λG w i=>⟨_,_,rfl,.inl ⟨d,q,sb,?_,rfl,g,zb i⟩⟩) λh=>z7 ⟨_,zi 12 ir yR yR,λG w i=>⟨_,_,rfl,?_⟩⟩⟩)⟩
  .unfold Bk.talks;rw[hd];exact yB (.inl (by simpa using h))
  .have e:=zb i;have k:d.kind≠1:=by simpa using h
   by_cases f:d.kind=2
   .refine .inl ⟨d,q,sb,?_,?_,g,e⟩
    .unfold Bk.talks;rw[hd];exact yB (.inr f)
    .rw[f];rfl
   .refine .inr ⟨?_,A0 ⟨q,0,A4⟩,?_,z08 g hd e⟩
    .unfold Bk.talks;rw[hd];exact yA (by intro h;rcases h with h|h;exact k h;exact f h)
    .rw[show(d.kind==2)=A8 from by simpa using f]
set_option maxHeartbeats 1000000 in
def qhk{n:Nat}(draw:ByteArray)(P:ql1 F c)(g:s.read c n id draw=A0 s')(f:St W (brk c x p pl (A0 m2) s F) w):
 qb Zp 124 #[qc x,Zi Zk id,Zs draw] w λv w'=>v=Zt #[]/\∃H,St W (brk c x p H (A0 m2) s' F) w':=by
 refine F124_of ((qcg f).of λv w ⟨a,b,i,t⟩=>⟨_,_,i,qt3 (λn vs w=>∃s pl,Bk.read c n s id draw=A0 s'/\qyk W c x m2 p pl s id F vs w) λμ Q U=>⟨⟨n,s,pl,g,t⟩,λY Z w T=>?_⟩⟩);clear f t g;obtain⟨s,pl,g,t⟩:=U _ _ T;generalize μ _ _=n at g⊢;cases n with
 |zero=>cases g
 |succ n=>
 unfold Bk.read at g;rcases t with ⟨r,q,sb,D,K,B,f⟩|⟨D,a,K,f⟩
 .cases K;rw[D]at g;have l:=q4t D;dsimp only at g;by_cases z:r.conn≠id;.rw[yB z]at g;cases g
  rw[yA z]at g;have z:r.conn=id:=by simpa using z
  refine zm yR (z7 (z0n 0 f yR yR ((Cn.Next_spec (id:=id) (f.at 7 yR)).of λv w ⟨o,u,i,f⟩=>⟨_,_,_,_,_,i,?_⟩)));have L:St W (qua (qw (Zi Zk) p.m (qo2 p.v pl) s.roles id q) (qs2 (A0 m2) s.N s.S) c x p pl (A0 m2) { s with N:=(Cn.nextT s.N id).1} (Row q 127 (qs pl sb r)::q02 p.v sb r.sh::qi 5 1 o (Cn.nextT s.N id).2.1.length u ((Cn.nextT s.N id).2.1.map qd)::F)) w:=z0s 14 (zf 1 8 f yR);have f:St W (q32 c x p pl (A0 m2) { s with N:=(Cn.nextT s.N id).1} id q (Row q 127 (qs pl sb r)::q02 p.v sb r.sh::qi 5 1 o (Cn.nextT s.N id).2.1.length u ((Cn.nextT s.N id).2.1.map qd)::F)) w:=z11 10 L yR (z1f λh=>h.next id);clear L;generalize Cn.nextT s.N id=nx at f g⊢;obtain⟨N,b,A,e⟩:=nx;dsimp only at f g⊢;have l:qe ({ s with N:=N}:Bk).roles id=A0 r:=l;generalize { s with N:=N}=s at f g l;refine⟨λ_ w=>¬(e=0/\A=A8)/\St W (q32 c x p pl (A0 m2) s id q (Row q 127 (qs pl sb r)::q02 p.v sb r.sh::qi 5 1 o b.length u (b.map qd)::F)) w,za (λh=>za (λC=>?_) λC=>⟨λk=>(by rw[k.2]at C;cases C),f⟩) λh=>⟨λk=>(by rw[k.1]at h;cases h),f⟩,λw X=>?_⟩
  .rw[yB ⟨by simpa using h,by simpa using C⟩]at g;refine z7 (z0n 0 f yR yR (qb.p 7 f yR (λh=>Cn.Ended_spec (id:=id) h) λw f=>⟨_,rfl,za (λj=>?_) λj=>?_⟩))
   .have j:s.ask id A8 (λd=>d.ended)=Ai:=j;rw[yB j]at g;rw[<-A1 g];exact(q9a (z08 B l f)).of λv w ⟨i,f⟩=>⟨i,rfl,pl,f.del 12 yR⟩
   .have j:s.ask id A8 (λd=>d.ended)=A8:=j;rw[yA (by rw[j];simp)]at g;rw[<-A1 g];exact⟨rfl,pl,(z08 B l f).del 12 yR⟩
  clear f;obtain⟨M,f⟩:=X;rw[yA M]at g;clear M;have E:∀G,Rd (q32 c x p pl (A0 m2) s id q (Row q 127 (qs pl sb r)::q02 p.v sb r.sh::qi 5 1 o b.length u (b.map qd)::G)) o (b.map qd):=λG=>z04 14 yR λF=>z0k F;have I:=(qi.le (f.at 14 yR)).2;refine(qtj (E F) I f).of λv w ⟨i,f⟩=>⟨_,_,_,_,_,_,i,?_⟩;generalize qxg b=gm at g⊢;obtain⟨m,O⟩:=gm;dsimp only at g⊢;refine z0a 14 f λV w f=>St1.zz 14 f yR λw f=>St1.zz 14 f yR λw f=>St1.zz 14 f yR λw f=>St1.zz 14 f yR λw f=>St1.zz 14 f yR λw f=>?_;have f:St W (q32 c x p pl (A0 m2) s id q (Row q 127 (qs pl sb r)::q02 p.v sb r.sh::qf7 V m::qi 5 1 o b.length u (b.map qd)::F)) w:=f;refine za (λh=>?_) λh=>?_
  .rw[yB (by simpa using h)]at g;rw[<-A1 g];exact(q18 61 (z08 B l f)).of λv w ⟨i,f⟩=>⟨i,rfl,pl,(f.del 12 yR).del 12 yR⟩
  .rw[yA (by simpa using h)]at g;refine z8 14 f yR yR (zg 14 f yR yR (zg 14 f yR yR (z8 14 f yR yR (z8 14 f yR yR ?_))));cases k:s.hear c id r m draw with
   |none=>rw[k]at g;cases g
   |some R=>
   rw[k]at g;refine(qzt m draw ((P.cons _).cons _) z B l k f).of λv w ⟨i,J,f⟩=>⟨i,?_⟩;refine(qcg ((f.del 12 yR).del 12 yR)).of λv w ⟨a,b,i,t⟩=>⟨_,_,i,?_⟩;have y:∃s pl,Bk.read c n s id draw=A0 s'/\qyk W c x m2 p pl s id F [Zq a,Zb b] w:=⟨R,J,g,t⟩;exact⟨⟨n,y⟩,A5 (Q _ _ _ y) (by omega)⟩
 .cases K;rw[D]at g;rw[<-A1 g];exact zn yR ⟨rfl,pl,f⟩
end
end
section
def qxc{α:Type}:∀{l:List α} {i:Nat} {x:α},l[i]?=A0 x->l.Perm (x::l.eraseIdx i)
 |y::l,0,x,h=>by simp at h;subst h;exact .refl _
 |y::l,i+1,x,h=>by simp at h;exact((qxc h).cons y).trans (List.Perm.swap _ _ _)
def q3p{α β:Type}:∀(l:List α) (m:List β) (i:Nat) {x:α} (y:β),l[i]?=A0 x->l.zip (m.set i y)=(l.zip m).set i (x,y)
 |[],m,i,x,y,h=>by simp at h
 |a::l,[],i,x,y,h=>by simp
 |a::l,b::m,0,x,y,h=>by simp at h;subst h;rfl
 |a::l,b::m,i+1,x,y,h=>by simp at h;simp[q3p l m i y h]
def qwh{α:Type}:∀(l:List α) (i:Nat) (y:α),(l.set i y).eraseIdx i=l.eraseIdx i
 |[],i,y=>rfl
 |a::l,0,y=>rfl
 |a::l,i+1,y=>by simp[qwh l i y]
section
variable{W w:World}{F l:List Asn}{pl:List Nat}{ps:List Ri.PS}{pb i:Nat}{z:Ri.PS}
def q8a(pl:List Nat)(ps:List Ri.PS)(i pb:Nat):Asn:=qz [prA (pl.length=ps.length/\pl[i]?=A0 pb),qz (((pl.zip ps).eraseIdx i).map λx=>Ri.PumpA x.1 256 x.2)]
def qa5.take(c:ps[i]?=A0 z)(h:St W (qa5 pl ps::F) w):∃pb,pl[i]?=A0 pb/\St W (Ri.PumpA pb 256 z::q8a pl ps i pb::F) w:=by
 obtain⟨d,h⟩:=h.of_sep.of_pr;have b:i<pl.length:=by rw[d];exact(Ad.1 c).1
 have a:pl[i]?=A0 pl[i]:=A2 b;have e:(pl.zip ps)[i]?=A0 (pl[i],z):=by rw[List.getElem?_zip_eq_some];exact⟨a,c⟩
 refine⟨pl[i],a,?_⟩;have f:=qf5 (X:=Ri.PumpA pl[i] 256 z) ((qxc e).map λx=>Ri.PumpA x.1 256 x.2) h;exact(zj (l:=[_,_]) (z01 ⟨d,a⟩ f.p1)).p1
def qa5.give(h:St W (Ri.PumpA pb 256 z::q8a pl ps i pb::F) w):St W (qa5 pl (ps.set i z)::F) w:=by
 obtain⟨⟨e,b⟩,h⟩:=h.p1.of_sep.of_pr;refine zj (l:=[_,_]) (z01 (by rw[List.length_set];exact e) ?_);rw[q3p pl ps i z b];have a:i<(pl.zip ps).length:=by rw[List.length_zip];have:=(Ad.1 b).1;omega
 have d:St W (Ri.PumpA pb 256 z::qz (((pl.zip ps).eraseIdx i).map λx=>Ri.PumpA x.1 256 x.2)::F) w:=St.p1 h;have c:((pl.zip ps).set i (pb,z))[i]?=A0 (pb,z):=by rw[List.getElem?_set_self a]
 have:=(qxc c).map λx=>Ri.PumpA x.1 256 x.2;rw[qwh]at this;exact q95 this.symm d
def q0v:Ri.capOf 256=256:=by decide
def q6s(n:Int)(h:St W (Ri.PumpA pb 256 z::F) w):qb Zp 133 #[qc pb,Zi Zk n] w λv w'=>v=Zi Zk (z.room 256 n:Nat)/\St W (Ri.PumpA pb 256 z::F) w':=by have:=Ri.PRoom_spec n h;rwa[q0v]at this
def qax{xs:List UInt8}{p:Option Aq}{c:Nat}(n:Int)(a:Rd F p (xs.map qd))(h:xs.length<=c)(b:St W (Ri.PumpA pb 256 z::F) w):qb Zp 134 #[qc pb,Zi Zk n,Zl p xs.length c] w λv w'=>v=Zi Zk (z.inN 256 n xs:Nat)/\St W (Ri.PumpA pb 256 (z.in_ 256 n xs)::F) w':=by have:=Ri.PIn_spec n a h b;rwa[q0v]at this
def qyx(z:Ri.PS)(n k:Int):(z.outB n k).length<=k.toNat:=by
 unfold Ri.PS.outB;split;.rw[Am];omega
 .exact B2 _
def qdy(z:Ri.PS)(n:Int):z.room 256 n<=256:=by unfold Ri.PS.room;split<;>omega
end
section
variable{W w:World}{F l:List Asn}{ro:Asn}{c:qy}{x m2 qf qt:Nat}{p:qm3}{pl:List Nat}{sn sbf sbt:Option Nat}{s s':Bk}{id:Int}{f t t':q31}{res:Bool}
@[reducible] def qzi (ro so pu:Asn) (c:qy) (x:Nat) (p:qm3) (sn:Option Nat) (s:Bk) (F:List Asn):List Asn:=
 Row x 108 (brV c p sn)::qg1 p.v c s.R::qg5 c p.g s.O::q41 p.l s.B::Qu.QueueA p.q s.Q::q03 p.t s.T::q13 p.p s.P::Cn.TabA p.n s.N::Ck.ClockA p.k s.K::ro::so::pu::F
set_option maxHeartbeats 1000000 in
def qoh(U:∀i,t.pump=A0 i->i<pl.length)(j:s.relay c f t=A0 (s',t',res))(a:St W (qy1 ro c x p pl sn s (Row qf 127 (qs pl sbf f)::Row qt 127 (qs pl sbt t)::F)) w):
 qb Zp 83 #[qc x,qc qf,qc qt] w λv w'=>v=Zb res/\St W (qy1 ro c x p pl sn s' (Row qf 127 (qs pl sbf f)::Row qt 127 (qs pl sbt t')::F)) w':=by
 unfold Bk.relay at j;cases hpu:f.pump with
 |none=>rw[hpu]at j;cases j
 |some i=>
 rw[hpu]at j;dsimp only at j;cases hps:s.pumps[i]? with
 |none=>rw[hps]at j;cases j
 |some z0=>
 rw[hps]at j;dsimp only at j;obtain⟨pb,O,a⟩:=qa5.take hps (a.at 11 yR);have l:∀(k:Nat),k=8->(qs pl sbf f)[k]?=A0 (Zq (A0 ⟨pb,0,A4⟩)):=λk N=>by subst N;show A0 (qnc pl f.pump)=_;rw[hpu];unfold qnc;simp only;rw[O];rfl
 have a:St W (qzi ro (qs2 sn s.N s.S) (q8a pl s.pumps i pb) c x p sn s (Row qf 127 (qs pl sbf f)::Row qt 127 (qs pl sbt t)::Ri.PumpA pb 256 z0::F)) w:=zf 0 14 (zf 1 12 a yR) yR;refine F83_of ⟨StC W _,zd a,z7 (z7 (z7 (z7 ⟨_,zo 0 ir yR yR,_,zi 12 ir yR yR,_,zo 12 ir yR (l _ rfl),_,zi 12 ir yR yR,?_⟩)))⟩;refine z05 14 ir yR (λG w h=>q6s f.side h) (λ_ _ h=>⟨_,rfl,h⟩) ⟨_,rfl,⟨zi 12 ir yR yR,zo 0 ir yR yR⟩,?_⟩;refine Ef.sl 7 ir yR (λG w h=>Cn.Rest_spec (id:=f.conn) ((z0.room 256 f.side:Nat):Int) h) (λ_ _ _ _ h=>⟨_,_,_,rfl,h⟩) λq m=>⟨_,_,_,rfl,trivial,λG w h=>?_⟩;have Q:(s.N.ask f.conn [] λd=>d.inb.take ((z0.room 256 f.side:Nat):Int).toNat).length<=256:=by
  unfold Cn.CT.ask;split;.exact B2 _
  .rw[Am];have:=qdy z0 f.side;omega
 have u:St W (qzi ro (qs2 sn s.N s.S) (q8a pl s.pumps i pb) c x p sn (s.upd f.conn (Cn.gRest ((z0.room 256 f.side:Nat):Int))) (Row qf 127 (qs pl sbf f)::Row qt 127 (qs pl sbt t)::Ri.PumpA pb 256 z0::qi 5 1 q (s.N.ask f.conn [] λd=>d.inb.take ((z0.room 256 f.side:Nat):Int).toNat).length m ((s.N.ask f.conn [] λd=>d.inb.take ((z0.room 256 f.side:Nat):Int).toNat).map qd)::F)) w:=z0s 15 (zb h);have a:=z11 10 u yR (z1f λh=>qb3.upd h f.conn (g:=Cn.gRest ((z0.room 256 f.side:Nat):Int)) λd=>rfl);clear h u;generalize (s.N.ask f.conn [] λd=>d.inb.take ((z0.room 256 f.side:Nat):Int).toNat)=inn at a j Q⊢;unfold Bk.relayA at j;obtain⟨e,y⟩:∃e,e=s.upd f.conn (Cn.gRest ((z0.room 256 f.side:Nat):Int)):=⟨_,rfl⟩;rw[<-y]at j;have a:St W (qzi ro (qs2 sn e.N e.S) (q8a pl e.pumps i pb) c x p sn e (Row qf 127 (qs pl sbf f)::Row qt 127 (qs pl sbt t)::Ri.PumpA pb 256 z0::qi 5 1 q inn.length m (inn.map qd)::F)) w:=by rw[y];exact a
 clear y;have P:=(qi.le (a.at 15 yR)).2;refine⟨StC W _,zd a,z7 (z7 ⟨_,zo 12 ir yR (l _ rfl),_,zi 12 ir yR yR,?_⟩)⟩;refine z05 14 ir yR (λG w h=>qax f.side (z04 14 yR λF=>z0k F) P h) (λ_ _ h=>⟨_,rfl,h⟩) ⟨_,rfl,trivial,λG w h=>?_⟩;have a:St W (qzi ro (qs2 sn e.N e.S) (q8a pl e.pumps i pb) c x p sn e (Row qf 127 (qs pl sbf f)::Row qt 127 (qs pl sbt t)::Ri.PumpA pb 256 (z0.in_ 256 f.side inn)::qi 5 1 q inn.length m (inn.map qd)::F)) w:=zb h;clear h;generalize z0.in_ 256 f.side inn=z1 at a j;unfold Bk.relayB at j;obtain⟨I,r⟩:∃I,I=(e.N.ask f.conn 0 (λd=>(d.inb.length:Int))==0):=⟨_,rfl⟩;obtain⟨H,A⟩:∃H,H=e.N.ask f.conn A8 λd=>d.ended:=⟨_,rfl⟩;rw[<-r,<-A]at j;refine⟨λvs w=>vs=[Zb ((I&&H)&&z1.hears f.side)]/\St W (qzi ro (qs2 sn e.N e.S) (q8a pl e.pumps i pb) c x p sn e (Row qf 127 (qs pl sbf f)::Row qt 127 (qs pl sbt t)::Ri.PumpA pb 256 (if(I&&H)=Ai then z1.end_ f.side else z1)::qi 5 1 q inn.length m (inn.map qd)::F)) w,?_,λended w V=>?_⟩
 .refine⟨StC W _,zd a,z7 (z7 ⟨_,zo 0 ir yR yR,_,zi 12 ir yR yR,?_⟩)⟩;refine z05 7 ir yR (λG w h=>Cn.Came_spec (id:=f.conn) h) (λ_ _ h=>⟨_,rfl,h⟩) ⟨_,rfl,trivial,?_⟩;rw[<-r];refine za (λu=>z7 (z7 ⟨_,zo 0 ir yR yR,_,zi 12 ir yR yR,?_⟩)) λu=>λG w h=>?_
  .refine z05 7 ir yR (λG w h=>Cn.Ended_spec (id:=f.conn) h) (λ_ _ h=>⟨_,rfl,h⟩) ⟨_,rfl,trivial,?_⟩;rw[<-A];refine za (λz=>z7 (z7 ⟨_,zo 12 ir yR (l _ rfl),_,zi 12 ir yR yR,?_⟩)) λz=>λG w h=>?_
   .refine z05 14 ir yR (λG w h=>Ri.PEnd_spec f.side h) (λ_ _ h=>⟨_,rfl,h⟩) ⟨_,rfl,trivial,λG w h=>?_⟩;rw[u,z];exact⟨rfl,zb h⟩
   .rw[u,z];exact⟨rfl,zb h⟩
  .rw[u];exact⟨rfl,zb h⟩
 clear a;obtain⟨X,a⟩:=V;cases X;clear r A;unfold Bk.relayC at j;generalize (I&&H)=zz at a j⊢;generalize (if zz=Ai then z1.end_ f.side else z1)=z2 at a j;generalize (zz&&z1.hears f.side)=ended at j⊢;refine⟨StC W _,zd a,z7 (z7 (z7 (z7 ⟨_,zo 12 ir yR (l _ rfl),_,zi 13 ir yR yR,_,zo 0 ir yR yR,_,zi 13 ir yR yR,?_⟩)))⟩;refine z05 7 ir yR (λG w h=>Cn.Room_spec (id:=t.conn) h) (λ_ _ h=>⟨_,rfl,h⟩) ⟨_,rfl,⟨zi 13 ir yR yR,zo 12 ir yR (l _ rfl)⟩,?_⟩;have N:(e.N.ask t.conn 0 λd=>((1024 - d.out.length:Nat):Int))<=1024:=by
  unfold Cn.CT.ask;split;.decide
  .dsimp only;omega
 generalize (e.N.ask t.conn 0 λd=>((1024 - d.out.length:Nat):Int))=k at N j⊢;have R:=qyx z2 t.side k;unfold Bk.relayD at j;refine Ef.sl 14 ir yR (λG w h=>Ri.POut_spec t.side k h) (λ_ _ _ _ h=>⟨_,_,_,_,rfl,h⟩) λJ L=>⟨_,_,_,_,rfl,trivial,λG w h=>?_⟩;have a:St W (qzi ro (qs2 sn e.N e.S) (q8a pl e.pumps i pb) c x p sn e (Row qf 127 (qs pl sbf f)::Row qt 127 (qs pl sbt t)::Ri.PumpA pb 256 (z2.out t.side k)::qi 5 1 q inn.length m (inn.map qd)::qi 5 1 J (z2.outB t.side k).length L ((z2.outB t.side k).map qd)::F)) w:=z0s 16 (zb h);clear h;generalize z2.outB t.side k=o at a j R⊢;generalize z2.outE t.side k=en at j⊢;generalize z2.out t.side k=z3 at a j;have B:=(qi.le (a.at 16 yR)).2;refine⟨StC W _,zd a,z7 (z7 ⟨_,zo 0 ir yR yR,_,zi 13 ir yR yR,?_⟩)⟩;refine z05 7 ir yR (λG w h=>Cn.Say_spec (id:=t.conn) (xs:=o) (z04 15 yR λF=>z0k F) B h) (λ_ _ h=>⟨_,rfl,h⟩) ⟨_,rfl,trivial,λG w h=>?_⟩;have a:=z11 10 (zb h) yR (z1f λh=>qb3.upd h t.conn (g:=Cn.gSay o) λd=>by unfold Cn.gSay;split<;>rfl);clear h;have a:=qa5.give (zf 12 1 (zf 14 0 a yR) yR);have a:St W (qy1 ro c x p pl sn { e.upd t.conn (Cn.gSay o)with pumps:=e.pumps.set i z3} (Row qf 127 (qs pl sbf f)::Row qt 127 (qs pl sbt t)::qi 5 1 q inn.length m (inn.map qd)::qi 5 1 J o.length L (o.map qd)::F)) w:=zf 0 11 a yR;unfold Bk.relayE at j;simp only[Bu,Prod.mk.injEq]at j;obtain⟨D,C,E⟩:=j;rw[<-D,<-C,<-E];clear D C E;refine⟨λ_ w=>St W (qy1 ro c x p pl sn { e.upd t.conn (Cn.gSay o)with pumps:=e.pumps.set i z3} (Row qf 127 (qs pl sbf f)::Row qt 127 (qs pl sbt { t with due:=t.due||en})::qi 5 1 q inn.length m (inn.map qd)::qi 5 1 J o.length L (o.map qd)::F)) w,?_,λw a=>?_⟩;.exact z7 (zx 13 a yR yR (za (λh=>z7 (St1.zz 13 a yR λw a=>(by dsimp only;rw[h];exact a))) λh=>z7 (St1.zz 13 a yR λw a=>(by dsimp only;rw[h];exact a))))
 rw[w64 (n:=(inn.length:Int)+(o.length:Int)) (by omega) (by omega)];generalize decide ((inn.length:Int)+(o.length:Int)>0)=T;refine⟨λ_ w=>St W (qy1 ro c x p pl sn { e.upd t.conn (Cn.gSay o)with pumps:=e.pumps.set i z3,K:=if T=Ai then q5c e.K c.idle [f.conn,t.conn]else e.K} (Row qf 127 (qs pl sbf f)::Row qt 127 (qs pl sbt { t with due:=t.due||en})::qi 5 1 q inn.length m (inn.map qd)::qi 5 1 J o.length L (o.map qd)::F)) w,za (λM=>?_) λM=>?_,λw a=>?_⟩
 .refine⟨StC W _,zd a,z7 (z7 (z7 ⟨_,zi 0 ir yR yR,_,zi 12 ir yR yR,_,zi 13 ir yR yR,λb=>?_⟩))⟩;refine Ef.alarm [f.conn,t.conn] (by simp) ir ⟨rfl,trivial,λG w h=>?_⟩;dsimp only;rw[yB M];exact zb h
 .dsimp only;rw[yA (by rw[M];simp)];exact a
 .exact za (λh=>⟨by rw[h];rfl,(a.del 14 yR).del 14 yR⟩) λh=>za (λz=>⟨by rw[h,z];rfl,(a.del 14 yR).del 14 yR⟩) λz=>⟨by rw[h,z];rfl,(a.del 14 yR).del 14 yR⟩
end
end
section
section
variable{κ δ:Type}[DecidableEq κ]{P:Program}{kt et mt:TypeId}{enc:κ->Value}{m b b2:Nat}{A:Nat->δ->Asn}{L:List (κ×δ)}{k j:κ}{W w:World}{F l:List Asn}
def qe4(enc:κ->Ab)(m:Nat)(A:Nat->δ->Asn)(L:List (κ×δ))(k:κ)(b:Nat)(j:κ)(b2:Nat):Asn:=exA λbs:List (κ×Nat×δ)=>qz [prA (qx (Ah (α:=Nat) (β:=δ)) bs=L/\(∃d,qe bs k=A0 (b,d))/\∃d,qe bs j=A0 (b2,d)),qg enc qc m (qx (A3 (α:=Nat) (β:=δ)) bs),qz ((qp (qp bs k) j).map λy=>A y.2.1 y.2.2)]
def qgn{α:Type}(L:List (κ×α)){j k:κ}(h:j≠k):qe (qp L k) j=qe L j:=by
 induction L with
 |nil=>rfl
 |cons x r b=>
  by_cases a:x.1=k
  .have w:¬x.1=j:=λe=>h (e ▸ a);simp only[qp,yB a,qe,yA w]
  .by_cases w:x.1=j;.simp only[qp,yA a,qe,yB w]
   .simp only[qp,yA a,qe,yA w,b]
def qw.take{d:δ}(c:j≠k)(f:qe L j=A0 d)(h:St W (qw enc m A L k b::F) w):∃b2,St W (A b2 d::qe4 enc m A L k b j b2::F) w:=by
 obtain⟨bs,⟨g,d0,i⟩,o⟩:=qw.open_ h;subst g;rw[q62]at f;obtain⟨⟨b2,e⟩,a,rfl⟩:=Option.map_eq_some_iff.1 f;refine⟨b2,?_⟩;have p:qe (qp bs k) j=A0 (b2,e):=by rw[qgn _ c];exact a
 have q:=qf5 ((Go.Proofs.YtfjifcfbmhpcaaaGreatDoor.aget_perm p).map λy:κ×Nat×δ=>A y.2.1 y.2.2) o.p1;have n:St W (qg enc qc m (qx (A3 (α:=Nat) (β:=δ)) bs)::qz ((qp (qp bs k) j).map λy=>A y.2.1 y.2.2)::A b2 e::F) w:=zf 1 2 (zf 2 0 q yR) yR;exact(z00 bs (zj (l:=[_,_,_]) (z01 ⟨rfl,⟨d0,i⟩,e,a⟩ n))).p1
def qe4.give{d:δ}(a:j≠k)(h:St W (A b2 d::qe4 enc m A L k b j b2::F) w):St W (qw enc m A (qk L j d) k b::F) w:=by
 obtain⟨bs,f⟩:=h.p1.of_ex;obtain⟨⟨g,⟨d0,i⟩,p,c⟩,o⟩:=f.of_sep.of_pr;clear h f;subst g;have h:St W (qg enc qc m (qx (A3 (α:=Nat) (β:=δ)) bs)::qz ((qp (qp bs k) j).map λy=>A y.2.1 y.2.2)::A b2 d::F) w:=o;refine qw.shut (qk bs j (b2,d)) ⟨(qt2 (Ah (α:=Nat) (β:=δ)) bs j (b2,d)).symm,d0,by rw[qh2,yA a];exact i⟩ ?_;have e:qx (A3 (α:=Nat) (β:=δ)) (qk bs j (b2,d))=qx (A3 (α:=Nat) (β:=δ)) bs:=by rw[<-qt2];exact qt1 (by rw[q62,c];rfl)
 rw[e,q4f _ a];have n:St W (A b2 d::qz ((qp (qp bs k) j).map λy=>A y.2.1 y.2.2)::qg enc qc m (qx (A3 (α:=Nat) (β:=δ)) bs)::F) w:=zf 1 2 (zf 2 0 h yR) yR;refine(q95 (l:=(qk (qp bs k) j (b2,d)).map λy=>A y.2.1 y.2.2) ?_ n).p1;have:=(Go.Proofs.YtfjifcfbmhpcaaaGreatDoor.aget_perm (qj1 (qp bs k) j (b2,d))).map λy:κ×Nat×δ=>A y.2.1 y.2.2;rw[adel_aset]at this;exact this.symm
def qe4.one_i(q:qw2 P kt enc)(g:P.underlying mt=A0 (.map kt et)){a:Cf}(p:P.info? et=A0 a)(c:a.zero=A0 (Zq A4)){K:Ab->Aa->Prop}(n:Nat)(i:St W l w)(f:nth l n=A0 (qe4 enc m A L k b j b2))
 (o:K (qc b) w):Run P (Instr.lookup mt (.map (A0 m)) (enc k) A8) w K:=by
 obtain⟨bs,h⟩:=(i.at n f).of_ex;obtain⟨⟨r,⟨d0,d⟩,s,e⟩,h⟩:=h.of_sep.of_pr;refine qq1 q g p c 0 h yR k A8 ?_;rw[q62,d];exact o
def qe4.two_i(p:qw2 P kt enc)(f:P.underlying mt=A0 (.map kt et)){a:Cf}(o:P.info? et=A0 a)(d:a.zero=A0 (Zq A4)){K:Ab->Aa->Prop}(n:Nat)(g:St W l w)(e:nth l n=A0 (qe4 enc m A L k b j b2))
 (i:K (qc b2) w):Run P (Instr.lookup mt (.map (A0 m)) (enc j) A8) w K:=by
 obtain⟨bs,h⟩:=(g.at n e).of_ex;obtain⟨⟨q,⟨d0,r⟩,s,c⟩,h⟩:=h.of_sep.of_pr;refine qq1 p f o d 0 h yR j A8 ?_;rw[q62,c];exact i
end
section
variable{W w:World}{F l:List Asn}{ro:Asn}{c:qy}{x m2 q:Nat}{p:qm3}{pl:List Nat}{sn sb:Option Nat}{s s':Bk}{id:Int}{r:q31}{res:Bool}
def q0s(a:St W (qy1 ro c x p pl (A0 m2) s (Row q 127 (qs pl sb r)::F)) w):
 qb Zp 84 #[qc x,qc q] w λv w'=>v=Zb (decide (((s.N.ask r.conn [] Cn.rFlush).length:Int)>0)||s.flushE r)/\St W (qy1 ro c x p pl (A0 m2) (s.flushS r (s.flushE r)) (Row q 127 (qs pl sb (Bk.flushR r (s.flushE r)))::F)) w':=by
 have d:=TabA.keys (zf 7 0 a yR);obtain⟨c1,k,o⟩:=(qs2.cr 10 a yR).flush d r.conn;refine F84_of ⟨StC W _,zd a,z7 (z7 ⟨_,zo 0 ir yR yR,_,zi 12 ir yR yR,?_⟩)⟩;refine Ef.sl 7 ir yR (λG w h=>Cn.Flush_spec (id:=r.conn) h) (λ_ _ _ _ h=>⟨_,_,_,rfl,h⟩) λf g=>⟨_,_,_,rfl,trivial,λG w h=>?_⟩;have a:=z11 10 (z0s 13 (zb h)) yR (z1f λ_=>c1);clear h;unfold Bk.flushS;have a:St W (qy1 ro c x p pl (A0 m2) (s.upd r.conn Cn.gFlush) (Row q 127 (qs pl sb r)::qi 5 1 f (s.N.ask r.conn [] Cn.rFlush).length g ((s.N.ask r.conn [] Cn.rFlush).map qd)::F)) w:=a;obtain⟨en,b⟩:∃en,en=s.flushE r:=⟨_,rfl⟩;rw[<-b];refine⟨λvs w=>vs=[Zb en]/\St W (qy1 ro c x p pl (A0 m2) (s.upd r.conn Cn.gFlush) (Row q 127 (qs pl sb r)::qi 5 1 f (s.N.ask r.conn [] Cn.rFlush).length g ((s.N.ask r.conn [] Cn.rFlush).map qd)::F)) w,?_,λe w j=>?_⟩
 .refine⟨StC W _,zd a,z7 ⟨_,z0u 12 ir yR yR,za (λi=>z7 (z7 ⟨_,zo 0 ir yR yR,_,zi 12 ir yR yR,?_⟩)) λi=>λG w h=>?_⟩⟩
  .refine z05 7 ir yR (λG w h=>Cn.Waits_spec (id:=r.conn) h) (λ_ _ h=>⟨_,rfl,h⟩) ⟨_,rfl,trivial,λG w h=>⟨?_,zb h⟩⟩;rw[b];unfold Bk.flushE;rw[i];rfl
  .refine⟨?_,zb h⟩;rw[b];unfold Bk.flushE;rw[i];rfl
 clear a;obtain⟨l,a⟩:=j;cases l;clear b;refine⟨λ_ w=>St W (qy1 ro c x p pl (A0 m2) (s.upd r.conn Cn.gFlush) (Row q 127 (qs pl sb (Bk.flushR r en))::qi 5 1 f (s.N.ask r.conn [] Cn.rFlush).length g ((s.N.ask r.conn [] Cn.rFlush).map qd)::F)) w,?_,λw a=>?_⟩
 .refine za (λh=>z7 (St1.zz 12 a yR λw a=>z7 (St1.zz 12 a yR λw a=>?_))) λh=>?_
  .dsimp only;unfold Bk.flushR;rw[yB h];exact a
  .dsimp only;unfold Bk.flushR;rw[yA (by rw[h];simp)];exact a
 have m:(Bk.flushR r en).conn=r.conn:=by unfold Bk.flushR;split<;>rfl
 refine z7 (z8 12 a yR (rv0 m) ?_);refine(qkk (s:=s.upd r.conn Cn.gFlush) ((z0k _).cons _) k (o en A8) a).of λv w ⟨n,a⟩=>⟨n,za (λh=>⟨by rw[h];rfl,a.del 13 yR⟩) λh=>⟨by rw[h];rfl,a.del 13 yR⟩⟩
end
end
section
def qvh{c:qy}{s s':Bk}{f t w:q31}{a:Bool}(h:s.relay c f t=A0 (s',w,a)):s'.roles=s.roles/\w.pump=t.pump/\w.sh=t.sh/\w.said=t.said:=by
 unfold Bk.relay at h;split at h;.cases h
 .split at h;.cases h
  .simp only[Bu,Bk.relayA,Bk.relayB,Bk.relayC,Bk.relayD,Bk.relayE,Prod.mk.injEq]at h;obtain⟨rfl,rfl,_⟩:=h;exact⟨rfl,rfl,rfl,rfl⟩
def qxn(r:q31)(en:Bool):(Bk.flushR r en).pump=r.pump/\(Bk.flushR r en).sh=r.sh:=by unfold Bk.flushR;split<;>exact⟨rfl,rfl⟩
section
variable{W w:World}{F l:List Asn}{c:qy}{x m2 q q2:Nat}{p:qm3}{pl:List Nat}{sn sb sb2:Option Nat}{s s':Bk}{id j:Int}{d d2:q31}{res:Bool}
def brk.take2(e:j≠id)(k:qe s.roles id=A0 d)(b:qe s.roles j=A0 d2)(h:St W (brk c x p pl sn s F) w):∃q q2 sb sb2,(∀i,d.pump=A0 i->i<pl.length)/\(∀i,d2.pump=A0 i->i<pl.length)/\
 St W (qy1 (qe4 (Zi Zk) p.m (qo2 p.v pl) s.roles id q j q2) c x p pl sn s (Row q 127 (qs pl sb d)::Row q2 127 (qs pl sb2 d2)::q02 p.v sb d.sh::q02 p.v sb2 d2.sh::F)) w:=by
 obtain⟨q,n⟩:=z15 k (zf 9 0 h yR);obtain⟨q2,f⟩:=qw.take e b n.p1;obtain⟨sb2,a,l⟩:=qo2.open_ f;obtain⟨sb,g,m⟩:=qo2.open_ (zf 3 0 l yR);exact⟨q,q2,sb,sb2,g,a,zl 16 [5,6,7,8,9,10,11,12,13,4,14,15,0,2,1,3] m yR⟩
def brk.give2{L:List (Int×q31)}(b:j≠id)(e:∀i,d.pump=A0 i->i<pl.length)(a:∀i,d2.pump=A0 i->i<pl.length)(g:s.roles=L)
 (h:St W (qy1 (qe4 (Zi Zk) p.m (qo2 p.v pl) L id q j q2) c x p pl sn s (Row q 127 (qs pl sb d)::Row q2 127 (qs pl sb2 d2)::q02 p.v sb d.sh::q02 p.v sb2 d2.sh::F)) w):St W (brk c x p pl sn ((s.put j d2).put id d) F) w:=by
 subst g;have k:=qo2.shut sb e (zl 16 [12,14,13,15,9,0,1,2,3,4,5,6,7,8,10,11] h yR);have f:=qe4.give b (qo2.shut sb2 a (zf 0 3 k yR));exact zf 0 9 (z0p f.p1) yR
set_option maxHeartbeats 2000000 in
def round_spec(l:s.round c=A0 (s',res))(d:St W (brk c x p pl (A0 m2) s F) w):qb Zp 46 #[qc x] w λv w'=>v=Zb res/\St W (brk c x p pl (A0 m2) s' F) w':=by
 unfold Bk.round at l;by_cases M:1000000<s.P.ends.length;.rw[yB M]at l;cases l
 rw[yA M]at l;cases g:qw1 (Bk.relays c) (s,A8) (qtc s.P)with
 |none=>rw[g]at l;cases l
 |some st1=>
 rw[g]at l;dsimp only at l;by_cases Y:1000000<st1.1.N.L.length;.rw[yB Y]at l;cases l
 rw[yA Y]at l;cases i:qw1 Bk.flushes st1 st1.1.ids with
 |none=>rw[i]at l;cases l
 |some st2=>
 rw[i]at l;dsimp only at l;refine F46_of (z7 (z0n 0 d yR yR ((qfk (by omega) (d.at 6 yR)).of λv w ⟨E,D,o,d⟩=>⟨_,_,_,o,?_⟩)));have d:St W (brk c x p pl (A0 m2) s (SlA 122 2 (q52 (qb4 s.P)) E D (qw4 s.P)::F)) w:=z0s 12 (zf 1 7 d yR);have Z:(qw4 s.P).length<=1000000:=by unfold qw4;rw[(qv1 leI _).length_eq,A7];exact Aj (Bg _ _) (by omega)
 unfold qtc at g l;generalize qw4 s.P=vis at d Z g l⊢;generalize qb4 s.P=oth at d g l;refine qt3 (λn vs w=>∃(k:Nat) (st:Bk×Bool),k+n=vis.length/\vs=[Zb st.2,Zi Zk (k:Int)]/\qw1 (Bk.relays c) st ((vis.drop k).map λv=>(v,oth v))=A0 st1/\St W (brk c x p pl (A0 m2) st.1 (SlA 122 2 (q52 oth) E D vis::F)) w) λμ H T=>⟨⟨vis.length,0,(s,A8),by omega,rfl,g,d⟩,λa0 j w R=>?_⟩;clear d g;obtain⟨k,st,X,M,g,d⟩:=T _ _ R;generalize μ _ _=n at X⊢;cases M;refine za (λh=>?_) λh=>?_
 .have m:k<vis.length:=by have:=yC h;omega
  have N:=A2 m;rw[Ae m,Af]at g;generalize vis[k]=y at g N;unfold qw1 at g;cases hr:Bk.relays c st (y,oth y)with
  |none=>rw[hr]at g;cases g
  |some A=>
  rw[hr]at g;dsimp only at g;unfold Bk.relays at hr;dsimp only at hr;by_cases u:y=oth y;.rw[yB u]at hr;cases hr
  rw[yA u]at hr;cases o:qe st.1.roles y with
  |none=>rw[o]at hr;cases hr
  |some rv=>
  cases z:qe st.1.roles (oth y)with
  |none=>rw[o,z]at hr;cases hr
  |some rk=>
  rw[o,z]at hr;dsimp only at hr;cases hr1:st.1.relay c rv rk with
  |none=>rw[hr1]at hr;cases hr
  |some t1=>
  obtain⟨s2,U,a⟩:=t1;rw[hr1]at hr;dsimp only at hr;cases hr2:s2.relay c U rv with
  |none=>rw[hr2]at hr;cases hr
  |some t2=>
  obtain⟨s3,h0,b⟩:=t2;rw[hr2]at hr;dsimp only at hr;have f:=A1 hr;clear hr;obtain⟨k1,k2,k3,_⟩:=qvh hr1;obtain⟨k4,k5,k6,_⟩:=qvh hr2;obtain⟨q,q2,sb,sb2,P,O,d⟩:=brk.take2 (Ne.symm u) o z d;refine z0f (qc9 oth) (by decide) (z04 16 yR λF=>z0e F) d yR m N λad L=>zq (L 0 _ rfl) (zq (L 1 _ rfl) (z0a 16 d λI w d=>St1.zz 16 d yR λw d=>St1.zz 16 d yR λw d=>?_));refine⟨StC W _,zd d,z7 (z7 ⟨_,z0b 0 ir yR yR,_,zi 16 ir yR yR,A0 ⟨q,0,A4⟩,(λG w B=>qe4.one_i kI uMr iPr zPr 9 B yR ⟨_,rfl,rfl,B⟩),_,z0b 0 ir yR yR,_,zi 16 ir yR yR,A0 ⟨q2,0,A4⟩,(λG w B=>qe4.two_i kI uMr iPr zPr 9 B yR ⟨_,rfl,rfl,B⟩),λG w h=>?_⟩)⟩;have d:St W (qy1 (qe4 (Zi Zk) p.m (qo2 p.v pl) st.1.roles y q (oth y) q2) c x p pl (A0 m2) st.1 (Row q 127 (qs pl sb rv)::Row q2 127 (qs pl sb2 rk)::q02 p.v sb rv.sh::q02 p.v sb2 rk.sh::Row I 122 [Zi Zk y,Zi Zk (oth y)]::SlA 122 2 (q52 oth) E D vis::F)) w:=zb h;refine⟨λvs w=>vs=[Zb (a||st.2)]/\St W (qy1 (qe4 (Zi Zk) p.m (qo2 p.v pl) st.1.roles y q (oth y) q2) c x p pl (A0 m2) s2 (Row q 127 (qs pl sb rv)::Row q2 127 (qs pl sb2 U)::q02 p.v sb rv.sh::q02 p.v sb2 rk.sh::Row I 122 [Zi Zk y,Zi Zk (oth y)]::SlA 122 2 (q52 oth) E D vis::F)) w,?_,λa1 w hJ=>?_⟩;.exact(qoh O hr1 d).of λv w ⟨o,d⟩=>⟨_,o,za (λh=>⟨by rw[h];rfl,d⟩) λh=>⟨by rw[h];rfl,d⟩⟩
  clear d h;obtain⟨M,d⟩:=hJ;cases M;refine(qoh P hr2 (zf 12 13 d yR)).of λv w ⟨o,d⟩=>⟨_,o,?_⟩;have d:St W (qy1 (qe4 (Zi Zk) p.m (qo2 p.v pl) st.1.roles y q (oth y) q2) c x p pl (A0 m2) s3 (Row q 127 (qs pl sb h0)::Row q2 127 (qs pl sb2 U)::q02 p.v sb rv.sh::q02 p.v sb2 rk.sh::SlA 122 2 (q52 oth) E D vis::F)) w:=(zf 13 12 d yR |> λh=>z03 16 h yR);rw[<-k6,<-k3]at d;have d:=brk.give2 (Ne.symm u) (by rw[k5];exact P) (by rw[k2];exact O) (k4.trans k1) d;have e:∃(K:Nat) (t:Bk×Bool),K+(n - 1)=vis.length/\[Zb (b||(a||st.2)),Zi Zk (Zw Zk ((k:Int)+1))]=[Zb t.2,Zi Zk (K:Int)]/\qw1 (Bk.relays c) t ((vis.drop K).map λv=>(v,oth v))=A0 st1/\St W (brk c x p pl (A0 m2) t.1 (SlA 122 2 (q52 oth) E D vis::F)) w:=⟨k+1,A,by omega,by rw[up m (by omega),<-f],g,by rw[<-f];exact d⟩;exact za (λh=>⟨⟨_,by rw[h]at e;exact e⟩,A5 (H _ _ _ (by rw[h]at e;exact e)) (by omega)⟩) λh=>⟨⟨_,by rw[h]at e;exact e⟩,A5 (H _ _ _ (by rw[h]at e;exact e)) (by omega)⟩
 have J:k=vis.length:=by have:=yD h;omega
 rw[J,Au]at g;have f:st=st1:=A1 g;subst f;clear g h H T R;refine z7 (z0n 0 d yR yR ((Cn.All_spec (by omega) (d.at 7 yR)).of λv w ⟨Q,V,o,d⟩=>⟨_,_,_,o,?_⟩));have h3:st.1.ids.length=st.1.N.L.length:=by unfold Bk.ids;rw[(qv1 leI _).length_eq,A7]
 rw[<-h3]at d Y⊢;have d:St W (brk c x p pl (A0 m2) st.1 (qi 3 1 Q st.1.ids.length V (st.1.ids.map (Zi Zk))::SlA 122 2 (q52 oth) E D vis::F)) w:=z0s 12 (zf 1 8 d yR);generalize st.1.ids=ids at d i Y⊢;refine qt3 (λn vs w=>∃(k:Nat) (st:Bk×Bool),k+n=ids.length/\vs=[Zb st.2,Zi Zk (k:Int)]/\qw1 Bk.flushes st (ids.drop k)=A0 st2/\St W (brk c x p pl (A0 m2) st.1 (qi 3 1 Q ids.length V (ids.map (Zi Zk))::SlA 122 2 (q52 oth) E D vis::F)) w) λμ H T=>⟨⟨ids.length,0,st,by omega,rfl,i,d⟩,λa0 j w R=>?_⟩;clear d i;obtain⟨k,st,X,M,i,d⟩:=T _ _ R;generalize μ _ _=n at X⊢;cases M;refine za (λh=>?_) λh=>?_
 .have m:k<ids.length:=by have:=yC h;omega
  have N:=A2 m;rw[Ae m]at i;generalize ids[k]=y at i N;unfold qw1 at i;cases hr:Bk.flushes st y with
  |none=>rw[hr]at i;cases i
  |some A=>
  rw[hr]at i;dsimp only at i;unfold Bk.flushes Bk.flush at hr;cases o:qe st.1.roles y with
  |none=>rw[o]at hr;cases hr
  |some r=>
  rw[o]at hr;have f:=A1 hr;clear hr;obtain⟨kp,ks⟩:=qxn r (st.1.flushE r);obtain⟨q,sb,P,d⟩:=brk.open_ o d;refine z0l (z04 14 yR λF=>z0k F) d yR m (v:=Zi Zk y) (by rw[Ac,N];rfl) λad L=>zq L (z7 (zv 0 d yR yR (z0g kI uMr iPr zPr 9 d yR A8 ?_)));rw[yA (by simp)];refine⟨_,rfl,(q0s d).of λv w ⟨o,d⟩=>⟨_,o,?_⟩⟩;rw[<-ks]at d;have d:=brk.set (s:=st.1.flushS r (st.1.flushE r)) (by rw[kp];exact P) d;have e:∃(K:Nat) (t:Bk×Bool),K+(n - 1)=ids.length/\[Zb ((decide (((st.1.N.ask r.conn [] Cn.rFlush).length:Int)>0)||st.1.flushE r)||st.2),Zi Zk (Zw Zk ((k:Int)+1))]=[Zb t.2,Zi Zk (K:Int)]/\qw1 Bk.flushes t (ids.drop K)=A0 st2/\St W (brk c x p pl (A0 m2) t.1 (qi 3 1 Q ids.length V (ids.map (Zi Zk))::SlA 122 2 (q52 oth) E D vis::F)) w:=⟨k+1,A,by omega,by rw[up m (by omega),<-f],i,by rw[<-f];exact d⟩;generalize (decide (((st.1.N.ask r.conn [] Cn.rFlush).length:Int)>0)||st.1.flushE r)=b at e⊢;exact za (λh=>⟨⟨_,by rw[h]at e;exact e⟩,A5 (H _ _ _ (by rw[h]at e;exact e)) (by omega)⟩) λh=>⟨⟨_,by rw[h]at e;exact e⟩,A5 (H _ _ _ (by rw[h]at e;exact e)) (by omega)⟩
 have J:k=ids.length:=by have:=yD h;omega
 rw[J,Au]at i;have f:st=st2:=A1 i;subst f;clear i h H T R;have d:=d.del 12 yR;refine qt3 (λn vs w=>∃(k:Nat) (st:Bk×Bool),k+n=vis.length/\vs=[Zb st.2,Zi Zk (k:Int)]/\qw1 Bk.ends st ((vis.drop k).map λv=>(v,oth v))=A0 (s',res)/\St W (brk c x p pl (A0 m2) st.1 (SlA 122 2 (q52 oth) E D vis::F)) w) λμ H T=>⟨⟨vis.length,0,st,by omega,rfl,l,d⟩,λa0 j w R=>?_⟩;clear d l;obtain⟨k,st,X,M,l,d⟩:=T _ _ R;generalize μ _ _=n at X⊢;cases M;refine za (λh=>?_) λh=>?_
 .have m:k<vis.length:=by have:=yC h;omega
  have N:=A2 m;rw[Ae m,Af]at l;generalize vis[k]=y at l N;unfold qw1 at l;cases hr:Bk.ends st (y,oth y)with
  |none=>rw[hr]at l;cases l
  |some A=>
  rw[hr]at l;dsimp only at l;unfold Bk.ends at hr;dsimp only at hr;by_cases u:y=oth y;.rw[yB u]at hr;cases hr
  rw[yA u]at hr;cases o:qe st.1.roles y with
  |none=>rw[o]at hr;cases hr
  |some rv=>
  rw[o]at hr;dsimp only at hr;have back:∀(w:Aa),St W (brk c x p pl (A0 m2) A.1 (SlA 122 2 (q52 oth) E D vis::F)) w->∃(K:Nat) (t:Bk×Bool),K+(n - 1)=vis.length/\[Zb A.2,Zi Zk (Zw Zk ((k:Int)+1))]=[Zb t.2,Zi Zk (K:Int)]/\qw1 Bk.ends t ((vis.drop K).map λv=>(v,oth v))=A0 (s',res)/\St W (brk c x p pl (A0 m2) t.1 (SlA 122 2 (q52 oth) E D vis::F)) w:=λw d=>⟨k+1,A,by omega,by rw[up m (by omega)],l,d⟩;by_cases C:rv.said=A8
  .rw[yB C]at hr;have f:=A1 hr;obtain⟨q,sb,P,d⟩:=brk.open_ o d;refine z0f (qc9 oth) (by decide) (z04 14 yR λF=>z0e F) d yR m N λad L=>zq (L 0 _ rfl) (zq (L 1 _ rfl) (z0a 14 d λI w d=>St1.zz 14 d yR λw d=>St1.zz 14 d yR λw d=>?_));refine⟨StC W _,zd d,z7 ⟨_,z0b 0 ir yR yR,_,zi 14 ir yR yR,A0 ⟨q,0,A4⟩,(λG w B=>z0g kI uMr iPr zPr 9 B yR A8 (by rw[yA (by simp)];exact⟨_,rfl,rfl,B⟩)),z7 ⟨_,z0u 12 ir yR yR,zn C λG w h=>?_⟩⟩⟩;have d:=(z08 P o (z03 14 (zb h) yR));have e:=back w (by rw[<-f];exact d);rw[<-f]at e;exact⟨⟨_,e⟩,A5 (H _ _ _ e) (by omega)⟩
  have C:rv.said=Ai:=by simpa using C
  rw[yA (by rw[C];simp)]at hr;cases z:qe st.1.roles (oth y)with
  |none=>rw[z]at hr;cases hr
  |some rk=>
  rw[z]at hr;dsimp only at hr;obtain⟨q,q2,sb,sb2,P,O,d⟩:=brk.take2 (Ne.symm u) o z d;refine z0f (qc9 oth) (by decide) (z04 16 yR λF=>z0e F) d yR m N λad L=>zq (L 0 _ rfl) (zq (L 1 _ rfl) (z0a 16 d λI w d=>St1.zz 16 d yR λw d=>St1.zz 16 d yR λw d=>?_));refine⟨StC W _,zd d,z7 ⟨_,z0b 0 ir yR yR,_,zi 16 ir yR yR,A0 ⟨q,0,A4⟩,(λG w B=>qe4.one_i kI uMr iPr zPr 9 B yR ⟨_,rfl,rfl,B⟩),z7 ⟨_,z0u 12 ir yR yR,zm C (z7 ⟨_,z0b 0 ir yR yR,_,zi 16 ir yR yR,A0 ⟨q2,0,A4⟩,(λG w B=>qe4.two_i kI uMr iPr zPr 9 B yR ⟨_,rfl,rfl,B⟩),z7 ⟨_,z0u 13 ir yR yR,λG w h=>?_⟩⟩)⟩⟩⟩;have d:St W (qy1 (qe4 (Zi Zk) p.m (qo2 p.v pl) st.1.roles y q (oth y) q2) c x p pl (A0 m2) st.1 (Row q 127 (qs pl sb rv)::Row q2 127 (qs pl sb2 rk)::q02 p.v sb rv.sh::q02 p.v sb2 rk.sh::Row I 122 [Zi Zk y,Zi Zk (oth y)]::SlA 122 2 (q52 oth) E D vis::F)) w:=zb h;have d:=brk.give2 (Ne.symm u) P O yR d;rw[qah z,qah o]at d;refine za (λh=>?_) λh=>?_
  .rw[yB h]at hr;have f:=A1 hr;refine z8 12 d yR yR ((q9a d).of λv w ⟨o,d⟩=>⟨o,?_⟩);have e:=back w (by rw[<-f];exact d.del 12 yR);rw[<-f]at e;exact⟨⟨_,e⟩,A5 (H _ _ _ e) (by omega)⟩
  .rw[yA (by rw[h];simp)]at hr;have f:=A1 hr;have e:=back w (by rw[<-f];exact d.del 12 yR);rw[<-f]at e;exact⟨⟨_,e⟩,A5 (H _ _ _ e) (by omega)⟩
 have J:k=vis.length:=by have:=yD h;omega
 rw[J,Au]at l;have f:=A1 l;subst f;exact⟨rfl,d.del 12 yR⟩
end
end
section
def evV(e:EvD):List Ab:=[Zi Zk e.kind,Zi Zk e.conn,Zi .u32 e.addr,Zs e.b,Zi Zk e.n,Zs e.name,Zs e.token,Zs e.draw]
abbrev evR(b:Nat)(e:EvD):Asn:=Row b 36 (evV e)
abbrev qb1(o:Nat)(err conn took:Int):Asn:=Row o 32 [Zi Zk err,Zi Zk conn,Zi Zk took,Zl A4 0 0]
def qb3.open_{N:Cn.CT}{S:List (Int×q81)}(h:qb3 N S)(addr:Int):qb3 (Cn.openT N addr).1 S:=by
 unfold Cn.openT;split;.exact h
 .refine⟨h.1,λy w=>?_⟩;rcases qh8 w with rfl|w
  .have:=h.1 (Zw Zk (N.last+1));exact⟨by simp,by simp only;omega⟩
  .exact h.2 y w
section
variable{W w:World}{F l:List Asn}{c:qy}{x m2 o:Nat}{p:qm3}{pl:List Nat}{s s':Bk}{e:EvD}{bad conn took:Int}{n:Nat}
def qpl(r:e.kind=1)(d:s.act c n e=A0 (s',bad,conn,took))(a:St W (brk c x p pl (A0 m2) s (qb1 o 0 0 0::F)) w):
 qb Zp 73 #[qc x,Zg (evV e).toArray,qc o] w λv w'=>v=Zi Zk bad/\∃g,St W (brk c x p g (A0 m2) s' (qb1 o 0 conn took::F)) w':=by
 unfold Bk.act at d;rw[yB r]at d;refine F73_of (z0a 13 a λb w a=>⟨StC W _,zd a,z7 ⟨_,zo 0 ir yR yR,_,zi 13 ir yR yR,?_⟩⟩);refine z05 7 ir yR (λG w h=>Cn.Open_spec e.addr h) (λ_ _ h=>⟨_,_,rfl,h⟩) ⟨_,_,rfl,trivial,λG w h=>?_⟩;have a:=z11 10 (zb h) yR (z1f λh=>h.open_ e.addr);clear h;have a:St W (brk c x p pl (A0 m2) { s with N:=(Cn.openT s.N e.addr).1} (qb1 o 0 0 0::evR b e::F)) w:=a;generalize Cn.openT s.N e.addr=op at a d⊢;obtain⟨N,id,t⟩:=op;dsimp only at a d⊢;refine za (λh=>?_) λh=>?_
 .rw[yB (by simpa using h)]at d;cases d;exact⟨rfl,pl,a.del 13 yR⟩
 rw[yA (by simpa using h)]at d;generalize ({ s with N:=N}:Bk)=s1 at a d;cases d;refine⟨StC W _,zd a,z7 (z7 ⟨_,z0b 0 ir yR yR,_,zo 0 ir yR yR,?_⟩)⟩;refine zk (α:=Nat) (V:=λb=>qc b) (B:=λf=>qx2 p.v f ⟨0,e0,e0,e0,A8⟩::brk c x p pl (A0 m2) s1 (qb1 o 0 0 0::evR b e::F)) 0 ir (λG w h=>(q7r (vb:=p.v) h).of λv w ⟨f,j,h⟩=>⟨_,j,f,rfl,h⟩) λf=>⟨_,rfl,z0b 1 ir yR yR,λk=>?_⟩;refine zk (α:=Unit) (V:=λ_=>Zt #[]) (B:=λ_=>brk c x p pl (A0 m2) (s1.put conn (q9l conn)) (qb1 o 0 0 0::evR b e::F)) () (ir.push k _) (λG w h=>?_) λ_=>⟨rfl,trivial,λG w h=>?_⟩
 .have l:St W (qo2 p.v pl k (q9l conn)::(brk c x p pl (A0 m2) s1 (qb1 o 0 0 0::evR b e::F)++pts G)) w:=qo2.shut (A0 f) (λi q=>by cases q) (h.imp z0d);exact qr.set_i kI uMr 0 9 l yR yR λw h=>⟨(),rfl,h⟩
 have a:=zb h;refine z7 (z8 0 a yR yR (z0a 12 a λm w a=>?_));have a:St W (brk c x p pl (A0 m2) (s1.put conn (q9l conn)) (Row m 3 ([conn].map (Zi Zk))::qb1 o 0 0 0::evR b e::F)) w:=a;refine(q7i (ids:=[conn]) (after:=c.wait) (z0t 0 λi v h=>by rw[Ar];exact h) (by simp) a).of λv w ⟨j,a⟩=>⟨j,z7 (St1.zz 13 a yR λw a=>⟨rfl,pl,?_⟩)⟩;exact(z03 12 a yR).del 13 yR
def qqq(t:ql1 F c)(q:e.kind=2)(j:s.act c n e=A0 (s',bad,conn,took))(a:St W (brk c x p pl (A0 m2) s (qb1 o 0 0 0::F)) w):
 qb Zp 74 #[qc x,Zg (evV e).toArray,qc o] w λv w'=>v=Zi Zk bad/\∃f,St W (brk c x p f (A0 m2) s' (qb1 o 0 conn took::F)) w':=by
 unfold Bk.act at j;rw[yA (by omega),yB q]at j;cases hr:(s.upd e.conn (Cn.gFeed (qm e.b))).read c n e.conn e.draw with
 |none=>rw[hr]at j;cases j
 |some s1=>
 rw[hr]at j;cases j;have k:e.b=mkS (qm e.b):=(qd5 _).symm;refine F74_of (z0a 13 a λb w a=>⟨StC W _,zd a,z7 ⟨_,zo 0 ir yR yR,_,zi 13 ir yR yR,_,zu 13 ir yR yR,?_⟩⟩);refine zk (α:=Nat×Nat) (V:=λy=>.slice (A0 ⟨y.1,0,A4⟩) (qm e.b).length y.2) (B:=λy=>prA ((qm e.b).length<=y.2)::Row y.1 5 ((qm e.b).map qd++Bi (y.2 -(qm e.b).length) (Zi .u8 0))::brk c x p pl (A0 m2) s (qb1 o 0 0 0::evR b e::F)) (0,0) ir (λG w h=>?_) λy=>⟨_,_,_,rfl,⟨zi 15 ir yR yR,zo 2 ir yR yR⟩,?_⟩
 .rw[k];have z:(qm (mkS (qm e.b))).length=(qm e.b).length:=by rw[<-k]
  refine qcb uS uB uU8 h λr m w l h=>⟨_,_,_,rfl,(r,m),?_,?_⟩;.rw[<-k]
  .rw[<-k];exact z01 l h
 refine z05 (X:=Zi Zk (s.N.ask e.conn 0 (Cn.rFeed (qm e.b)))) (B:=Cn.TabA p.n (s.N.upd e.conn (Cn.gFeed (qm e.b)))) 9 ir yR (λG w h=>?_) (λ_ _ h=>⟨_,rfl,h⟩) ⟨_,rfl,trivial,z7 ?_⟩;.exact Cn.Feed_spec (id:=e.conn) (xs:=qm e.b) (z04 1 yR λF=>z0t 0 λi v h=>by rw[Ar,Ax (Ad.1 h).1];exact h) (St.of_pr (zf 1 0 h yR)).1 h
 refine z0q 14 ir yR (by simp) ⟨rfl,trivial,λG w h=>?_⟩;have a:=z11 10 (z0h [_,_] (zb h)) yR (z1f λh=>qb3.upd h e.conn (g:=Cn.gFeed (qm e.b)) λd=>by unfold Cn.gFeed;split<;>rfl);refine z8 13 a yR yR (zg 13 a yR yR ?_);have a:St W (brk c x p pl (A0 m2) (s.upd e.conn (Cn.gFeed (qm e.b))) (qb1 o 0 0 (s.ask e.conn 0 (Cn.rFeed (qm e.b)))::evR b e::F)) w:=a;exact(qhk e.draw ((t.cons _).cons _) hr a).of λv w ⟨u,f,a⟩=>⟨u,rfl,f,a.del 13 yR⟩
def qb3.budget{N:Cn.CT}(h:qb3 N [])(id n:Int):qb3 (N.upd id (Cn.gBudget n)) []:=by
 refine⟨h.1,λy w=>?_⟩;unfold Cn.CT.upd at w;split at w;.exact h.2 y w
 .rename_i d b;rcases qh8 w with rfl|w
  .have a:=h.2 _ (qg3 b);rw[qsf]at a⊢;simp only at a⊢;unfold Cn.gBudget;split;.exact a
   .rename_i e;have c:Zw Zk (d.credit+n)=d.credit+n:=w64;simp only;rw[c];split<;>omega
  .exact h.2 y w
def qwn(i:e.kind=3)(g:s.S=[])(f:s.act c n e=A0 (s',bad,conn,took))(a:St W (brk c x p pl (A0 m2) s (qb1 o 0 0 0::F)) w):
 qb Zp 75 #[qc x,Zg (evV e).toArray,qc o] w λv w'=>v=Zi Zk bad/\∃d,St W (brk c x p d (A0 m2) s' (qb1 o 0 conn took::F)) w':=by
 unfold Bk.act at f;rw[yA (by omega),yA (by omega),yB i]at f;cases f;refine F75_of (z0a 13 a λb w a=>⟨StC W _,zd a,z7 ⟨_,zo 0 ir yR yR,_,zi 13 ir yR yR,_,zi 13 ir yR yR,?_⟩⟩);refine z05 7 ir yR (λG w h=>Cn.Budget_spec (id:=e.conn) e.n h) (λ_ _ h=>⟨_,rfl,h⟩) ⟨_,rfl,trivial,λG w h=>?_⟩;have a:=z11 10 (zb h) yR (z1f λh=>by rw[g]at h⊢;exact qb3.budget h e.conn e.n);have a:St W (brk c x p pl (A0 m2) (s.upd e.conn (Cn.gBudget e.n)) (qb1 o 0 0 0::F)) w:=a.del 13 yR;refine za (λh=>⟨?_,pl,a⟩) λh=>⟨?_,pl,a⟩;.rw[yA (by have h:(!s.ask e.conn A8 (Cn.rBudget e.n))=Ai:=h;simpa using h)]
 .rw[yB (by have h:(!s.ask e.conn A8 (Cn.rBudget e.n))=A8:=h;simpa using h)]
def q9u(k:ql1 F c)(j:e.kind=4)(f:s.act c n e=A0 (s',bad,conn,took))(a:St W (brk c x p pl (A0 m2) s (qb1 o 0 0 0::F)) w):
 qb Zp 76 #[qc x,Zg (evV e).toArray,qc o] w λv w'=>v=Zi Zk bad/\∃i,St W (brk c x p i (A0 m2) s' (qb1 o 0 conn took::F)) w':=by
 unfold Bk.act at f;rw[yA (by omega),yA (by omega),yA (by omega),yB j]at f;refine F76_of (z0a 13 a λb w a=>⟨StC W _,zd a,z7 ⟨_,zo 0 ir yR yR,_,zi 13 ir yR yR,?_⟩⟩);refine z05 7 ir yR (λG w h=>Cn.Half_spec (id:=e.conn) h) (λ_ _ h=>⟨_,rfl,h⟩) ⟨_,rfl,trivial,λG w h=>?_⟩;have a:=z11 10 (zb h) yR (z1f λh=>qb3.upd h e.conn (g:=Cn.gHalf) λd=>rfl);have a:St W (brk c x p pl (A0 m2) (s.upd e.conn Cn.gHalf) (qb1 o 0 0 0::evR b e::F)) w:=a;refine za (λh=>?_) λh=>?_
 .have h:(!s.ask e.conn A8 (λd=>!d.ended))=Ai:=h;rw[yB (by simpa using h)]at f;cases f;exact⟨rfl,pl,a.del 13 yR⟩
 .have h:(!s.ask e.conn A8 (λd=>!d.ended))=A8:=h;rw[yA (by simpa using h)]at f;cases hr:(s.upd e.conn Cn.gHalf).read c n e.conn e.draw with
  |none=>rw[hr]at f;cases f
  |some s1=>
  rw[hr]at f;cases f;refine z8 13 a yR yR (zg 13 a yR yR ?_);exact(qhk e.draw ((k.cons _).cons _) hr a).of λv w ⟨l,i,a⟩=>⟨l,rfl,i,a.del 13 yR⟩
def qxr(f:e.kind=5)(d:s.act c n e=A0 (s',bad,conn,took))(h:St W (brk c x p pl (A0 m2) s (qb1 o 0 0 0::F)) w):
 qb Zp 77 #[qc x,Zg (evV e).toArray,qc o] w λv w'=>v=Zi Zk bad/\∃a,St W (brk c x p a (A0 m2) s' (qb1 o 0 conn took::F)) w':=by
 unfold Bk.act at d;rw[yA (by omega),yA (by omega),yA (by omega),yA (by omega),yB f]at d;cases d;exact F77_of (z0a 13 h λb w h=>z8 13 h yR yR ((q9a h).of λv w ⟨g,h⟩=>⟨g,rfl,pl,h.del 13 yR⟩))
def q4s(j:e.kind=8)(d:s.act c n e=A0 (s',bad,conn,took))(a:St W (brk c x p pl (A0 m2) s (qb1 o 0 0 0::F)) w):
 qb Zp 80 #[qc x,Zg (evV e).toArray,qc o] w λv w'=>v=Zi Zk bad/\∃f,St W (brk c x p f (A0 m2) s' (qb1 o 0 conn took::F)) w':=by
 unfold Bk.act at d;rw[yA (by omega),yA (by omega),yA (by omega),yA (by omega),yA (by omega),yA (by omega),yA (by omega)]at d;refine F80_of (z0a 13 a λb w a=>⟨StC W _,zd a,z7 (z7 ⟨_,zo 0 ir yR yR,_,zu 13 ir yR yR,_,zo 0 ir yR yR,?_⟩)⟩);refine z05 8 ir yR (λG w h=>Ck.Now_spec h) (λ_ _ h=>⟨_,rfl,h⟩) ⟨_,rfl,⟨zu 13 ir yR yR,zo 0 ir yR yR⟩,?_⟩;refine z05 3 ir yR (λG w h=>q9r (name:=e.name) (now:=s.K.now) h) (λ_ _ h=>⟨_,_,_,_,_,_,_,rfl,h⟩) ⟨_,_,_,_,_,_,_,rfl,trivial,λg=>?_⟩;refine Ef.le ir (qlb s.B e.name s.K.now).2.1 ⟨rfl,trivial,λG w h=>?_⟩;have a:=zb h;clear h;generalize qlb s.B e.name s.K.now=cl at a d⊢;obtain⟨B,y,k⟩:=cl;have a:St W (Row g 55 (leV y)::brk c x p pl (A0 m2) { s with B:=B} (qb1 o 0 0 0::evR b e::F)) w:=a;dsimp only at d⊢;refine za (λh=>?_) λh=>?_
 .rw[yB (by simpa using h)]at d;cases d;exact⟨rfl,pl,a.drop.del 13 yR⟩
 .rw[yA (by simpa using h)]at d;cases d;refine zg 0 a yR yR (zg 0 a yR yR (z8 0 a yR yR (z8 0 a yR yR (z8 0 a yR yR (zx 0 a yR yR ?_)))));exact(qdf y a.drop).of λv w ⟨i,a⟩=>⟨i,rfl,pl,a.del 13 yR⟩
end
end
section
def q6u(B:qi3)(now:Int):(qm7 B now).2.length<=B.L.length:=by
 unfold qm7;split;.exact B2 _
 .exact qze _ _ _
section
variable{W w:World}{F l:List Asn}{c:qy}{x m2 o:Nat}{p:qm3}{pl:List Nat}{s s':Bk}{e:EvD}{bad conn took:Int}{n:Nat}
def qz5{I:Nat->List Ab->Aa->Prop}{μ:List Ab->Aa->Nat}(b:∀vs w n,I n vs w->μ vs w<=n){vs:List Ab}{w:Aa}{n k:Nat}(a:n<k)(h:I n vs w):(∃n,I n vs w)/\μ vs w<k:=⟨⟨n,h⟩,A5 (b _ _ _ h) a⟩
set_option maxHeartbeats 1000000 in
def qtu(C:e.kind=6)(T: -9223372036854775808<=e.n/\e.n<=9223372036854775807)(i:s.act c n e=A0 (s',bad,conn,took))(d:St W (brk c x p pl (A0 m2) s (qb1 o 0 0 0::F)) w):
 qb Zp 78 #[qc x,Zg (evV e).toArray,qc o] w λv w'=>v=Zi Zk bad/\∃P,St W (brk c x p P (A0 m2) s' (qb1 o 0 conn took::F)) w':=by
 unfold Bk.act at i;rw[yA (by omega),yA (by omega),yA (by omega),yA (by omega),yA (by omega),yB C]at i;have O:=Ck.ClockA.ok (zf 8 0 d yR);refine F78_of (z0a 13 d λb w d=>⟨StC W _,zd d,z7 ⟨_,zo 0 ir yR yR,_,zi 13 ir yR yR,?_⟩⟩);refine Ef.sl 8 ir yR (λG w h=>(Ck.Tick_spec e.n T h).of λv w ⟨p,c,y,d⟩=>⟨p,c,y,d.p1⟩) (λ_ _ _ _ h=>⟨_,_,_,_,rfl,h⟩) λq r=>⟨_,_,_,_,rfl,trivial,λG w h=>?_⟩;have d:St W (brk c x p pl (A0 m2) { s with K:=(Ck.cTick s.K e.n).1} (qb1 o 0 0 0::evR b e::SlA 3 1 iV q r (Ck.cTick s.K e.n).2.1::F)) w:=z0s 14 (zb h);clear h;have D:(Ck.cTick s.K e.n).2.1.length<=s.K.al.length:=by
  unfold Ck.cTick;split;.exact B2 _
  .rw[A7];exact Bg _ _
 have R:=O.many;generalize Ck.cTick s.K e.n=ck at d i D⊢;obtain⟨K,al,Y⟩:=ck;dsimp only at d i D⊢;refine za (λh=>?_) λh=>?_
 .rw[yB (by simpa using h)]at i;cases i;exact⟨rfl,pl,(d.del 13 yR).del 13 yR⟩
 rw[yA (by simpa using h)]at i;clear h;have U:s.B.L.length<=64:=by obtain⟨_,h,_⟩:=z13 (zf 3 0 d yR);exact h
 refine⟨StC W _,zd d,z7 (z7 ⟨_,zo 0 ir yR yR,_,zo 0 ir yR yR,?_⟩)⟩;refine z05 8 ir yR (λG w h=>Ck.Now_spec h) (λ_ _ h=>⟨_,rfl,h⟩) ⟨_,rfl,zo 0 ir yR yR,?_⟩;refine Ef.sl 3 ir yR (λG w h=>(qqp (now:=K.now) h).of λv w ⟨p,c,y,_,d⟩=>⟨p,c,y,d⟩) (λ_ _ _ _ h=>⟨_,_,_,rfl,h⟩) λJ N=>⟨_,_,_,rfl,trivial,λG w h=>?_⟩;have d:St W (brk c x p pl (A0 m2) { s with K:=K,B:=(qm7 s.B K.now).1} (SlA 55 6 leV J N (qm7 s.B K.now).2::qb1 o 0 0 0::evR b e::SlA 3 1 iV q r al::F)) w:=z0s 12 (zb h);clear h;have E:=q6u s.B K.now;generalize qm7 s.B K.now=lp at d i E⊢;obtain⟨B,l⟩:=lp;dsimp only at d i E⊢;generalize ({ s with K:=K,B:=B}:Bk)=s1 at d i;cases i;refine qt3 (λn vs w=>∃k:Nat,k+n=l.length/\vs=[Zi Zk (k:Int)]/\St W (brk c x p pl (A0 m2) ((l.take k).foldl Bk.gone s1) (SlA 55 6 leV J N l::qb1 o 0 0 0::evR b e::SlA 3 1 iV q r al::F)) w) λμ I M=>⟨⟨l.length,0,by omega,rfl,d⟩,λj w L=>?_⟩;clear d;obtain⟨k,C,Q,d⟩:=M _ _ L;generalize μ _ _=m at C⊢;cases Q;refine za (λh=>?_) λh=>?_
 .have g:k<l.length:=by have:=yC h;omega
  have H:=A2 g;refine z0f qhw (by decide) (Rd.b12 (z0e _)) d yR g H λa t=>z0i (t 0 _ rfl) (z0i (t 1 _ rfl) (zq (t 2 _ rfl) (zq (t 3 _ rfl) (zq (t 4 _ rfl) (LdB.at (t 5 _ rfl) (z0a 12 d λV w d=>?_))))));refine St1.zz 12 d yR λw d=>St1.zz 12 d yR λw d=>St1.zz 12 d yR λw d=>St1.zz 12 d yR λw d=>St1.zz 12 d yR λw d=>St1.zz 12 d yR λw d=>?_;refine zg 12 d yR yR (zg 12 d yR yR (z8 12 d yR yR (z8 12 d yR yR (z8 12 d yR yR (zx 12 d yR yR ?_)))));have d:St W (brk c x p pl (A0 m2) ((l.take k).foldl Bk.gone s1) (Row V 55 (leV l[k])::SlA 55 6 leV J N l::qb1 o 0 0 0::evR b e::SlA 3 1 iV q r al::F)) w:=d;refine(qdf l[k] d).of λv w ⟨y,d⟩=>⟨y,?_⟩;have u:∃A:Nat,A+(m - 1)=l.length/\[Zi Zk (Zw Zk ((k:Int)+1))]=[Zi Zk (A:Int)]/\St W (brk c x p pl (A0 m2) ((l.take A).foldl Bk.gone s1) (SlA 55 6 leV J N l::qb1 o 0 0 0::evR b e::SlA 3 1 iV q r al::F)) w:=⟨k+1,by omega,by rw[up g (by omega)],by rw[q29 _ _ H];exact d.del 12 yR⟩;exact qz5 I (by omega) u
 have z:l.take k=l:=A6 (by have:=yD h;omega);rw[z]at d;clear h I M L C;have d:=d.del 12 yR;generalize l.foldl Bk.gone s1=s1 at d;refine qt3 (λn vs w=>∃k:Nat,k+n=al.length/\vs=[Zi Zk (k:Int)]/\St W (brk c x p pl (A0 m2) ((al.take k).foldl Bk.shut s1) (qb1 o 0 0 0::evR b e::SlA 3 1 iV q r al::F)) w) λμ I M=>⟨⟨al.length,0,by omega,rfl,d⟩,λj w L=>?_⟩;clear d;obtain⟨k,C,Q,d⟩:=M _ _ L;generalize μ _ _=m at C⊢;cases Q;refine za (λh=>?_) λh=>?_
 .have g:k<al.length:=by have:=yC h;omega
  have H:=A2 g;have X:∀G,Rd (SlA 3 1 iV q r al::G) q (al.map (Zi Zk)):=λG=>by have:=z0e (e:=3) (size:=1) (f:=iV) (p:=q) (c:=r) (os:=al) G;rwa[show al.flatMap iV=al.map (Zi Zk)from qt6 _ _]at this
  refine z0l (z04 14 yR X) d yR g (v:=Zi Zk al[k]) (by rw[Ac,H];rfl) λa t=>zq t ((q9a d).of λv w ⟨y,d⟩=>⟨y,?_⟩);have u:∃A:Nat,A+(m - 1)=al.length/\[Zi Zk (Zw Zk ((k:Int)+1))]=[Zi Zk (A:Int)]/\St W (brk c x p pl (A0 m2) ((al.take A).foldl Bk.shut s1) (qb1 o 0 0 0::evR b e::SlA 3 1 iV q r al::F)) w:=⟨k+1,by omega,by rw[up g (by omega)],by rw[q29 _ _ H];exact d⟩;exact qz5 I (by omega) u
 have z:al.take k=al:=A6 (by have:=yD h;omega);rw[z]at d;exact⟨rfl,pl,(d.del 13 yR).del 13 yR⟩
def qr8(e:EvD)(s:Bk)(id:Int):Bk:=match qe s.roles id with
 |none=>s
 |some r=>if(r.kind==2&&(decide (r.ten=e.name)&&decide (r.token=e.token)))=Ai then s.shut id else s
set_option maxHeartbeats 1000000 in
def qho(O:ql1 F c)(I:e.kind=7)(f:s.act c n e=A0 (s',bad,conn,took))(d:St W (brk c x p pl (A0 m2) s (qb1 o 0 0 0::F)) w):
 qb Zp 79 #[qc x,Zg (evV e).toArray,qc o] w λv w'=>v=Zi Zk bad/\∃i,St W (brk c x p i (A0 m2) s' (qb1 o 0 conn took::F)) w':=by
 unfold Bk.act at f;rw[yA (by omega),yA (by omega),yA (by omega),yA (by omega),yA (by omega),yA (by omega),yB I]at f;refine F79_of (z0a 13 d λb w d=>⟨StC W _,zd d,z7 ⟨_,zo 0 ir yR yR,_,zu 13 ir yR yR,_,zu 13 ir yR yR,?_⟩⟩);refine z05 1 ir yR (λG w h=>q7o (ten:=e.name) (tok:=e.token) ((O.app (pts G)).pre [_,_,_,_,_,_,_,_,_,_,_,_,_]) h) (λ_ _ h=>⟨_,rfl,h⟩) ⟨_,rfl,trivial,λG w h=>?_⟩;have d:St W (brk c x p pl (A0 m2) { s with R:=(qv7 c s.R e.name e.token).1} (qb1 o 0 0 0::evR b e::F)) w:=zb h;clear h;generalize qv7 c s.R e.name e.token=rv at d f⊢;obtain⟨R,V⟩:=rv;dsimp only at d f⊢;refine za (λh=>?_) λh=>?_
 .rw[yB (by simpa using h)]at f;cases f;exact⟨rfl,pl,d.del 13 yR⟩
 rw[yA (by simpa using h)]at f;clear h;by_cases g:1000000<s.N.L.length;.rw[yB g]at f;cases f
 rw[yA g]at f;have g:¬1000000<({ s with R:=R}:Bk).N.L.length:=g;generalize ({ s with R:=R}:Bk)=s1 at d f g;cases f;refine z7 (z0n 0 d yR yR ((Cn.All_spec (by omega) (d.at 7 yR)).of λv w ⟨C,z,K,d⟩=>⟨_,_,_,K,?_⟩));have M:s1.ids.length=s1.N.L.length:=by unfold Bk.ids;rw[(qv1 leI _).length_eq,A7]
 rw[<-M]at d g⊢;have d:St W (brk c x p pl (A0 m2) s1 (qi 3 1 C s1.ids.length z (s1.ids.map (Zi Zk))::qb1 o 0 0 0::evR b e::F)) w:=z0s 12 (zf 1 8 d yR);generalize s1.ids=ids at d g⊢;have H:∀w,St W (brk c x p pl (A0 m2) (ids.foldl (qr8 e) s1) (qi 3 1 C ids.length z (ids.map (Zi Zk))::qb1 o 0 0 0::evR b e::F)) w->∃i,St W (brk c x p i (A0 m2) (ids.foldl (qr8 e) s1) (qb1 o 0 0 0::F)) w:=λw d=>⟨pl,(d.del 12 yR).del 13 yR⟩;refine qt3 (λn vs w=>∃k:Nat,k+n=ids.length/\vs=[Zi Zk (k:Int)]/\St W (brk c x p pl (A0 m2) ((ids.take k).foldl (qr8 e) s1) (qi 3 1 C ids.length z (ids.map (Zi Zk))::qb1 o 0 0 0::evR b e::F)) w) λμ A T=>⟨⟨ids.length,0,by omega,rfl,d⟩,λj w Q=>?_⟩;clear d;obtain⟨k,I,U,d⟩:=T _ _ Q;generalize μ _ _=m at I⊢;cases U;refine za (λh=>?_) λh=>?_
 .have u:k<ids.length:=by have:=yC h;omega
  have J:=A2 u;have l:=q29 (qr8 e) s1 J;generalize (ids.take k).foldl (qr8 e) s1=s2 at d l;generalize ids[k]=y at J l;have back:∀w,St W (brk c x p pl (A0 m2) (qr8 e s2 y) (qi 3 1 C ids.length z (ids.map (Zi Zk))::qb1 o 0 0 0::evR b e::F)) w->∃N:Nat,N+(m - 1)=ids.length/\[Zi Zk (Zw Zk ((k:Int)+1))]=[Zi Zk (N:Int)]/\St W (brk c x p pl (A0 m2) ((ids.take N).foldl (qr8 e) s1) (qi 3 1 C ids.length z (ids.map (Zi Zk))::qb1 o 0 0 0::evR b e::F)) w:=λw d=>⟨k+1,by omega,by rw[up u (by omega)],by rw[l];exact d⟩;refine z0l (z04 12 yR λF=>z0k F) d yR u (v:=Zi Zk y) (by rw[Ac,J];rfl) λa P=>zq P (z7 (zv 0 d yR yR ?_));unfold qr8 at back;cases hd:qe s2.roles y with
  |none=>rw[hd]at back;refine z0y kI uMr iPr zPr 9 d yR hd Ai ?_;rw[yB yR];exact⟨_,_,rfl,StC W _,zd d,zn yR λG w h=>qz5 A (by omega) (back w (zb h))⟩
  |some r=>
   rw[hd]at back;dsimp only at back;obtain⟨q,sb,E,d⟩:=brk.open_ hd d;refine z0g kI uMr iPr zPr 9 d yR Ai ?_;rw[yB yR];refine⟨_,_,rfl,StC W _,zd d,zm yR (z7 ⟨_,zi 12 ir yR yR,za (λD=>z7 ⟨_,zu 12 ir yR yR,_,zu 16 ir yR yR,za (λt=>z7 ⟨_,zu 12 ir yR yR,_,zu 16 ir yR yR,λG w h=>za (λB=>?_) λB=>?_⟩) λt=>λG w h=>?_⟩) λD=>λG w h=>?_⟩)⟩
   .rw[qrc]at t B;rw[D,t,B]at back;exact(q9a (z08 E hd (zb h))).of λv w ⟨K,d⟩=>⟨K,qz5 A (by omega) (back w d)⟩
   .rw[qrc]at t B;rw[D,t,B]at back;exact qz5 A (by omega) (back w (z08 E hd (zb h)))
   .rw[qrc]at t;rw[D,t]at back;exact qz5 A (by omega) (back w (z08 E hd (zb h)))
   .rw[D]at back;exact qz5 A (by omega) (back w (z08 E hd (zb h)))
 have L:ids.take k=ids:=A6 (by have:=yD h;omega);rw[L]at d;exact⟨rfl,H w d⟩
end
end
section
def q8d:List (Int×Nat):=[(1,73),(2,74),(3,75),(4,76),(5,77),(6,78),(7,79),(8,80)]
def uMe:Zp.underlying 117=A0 (.map 3 115):=Tryz.underlying117
def iFe:Zp.info? 115=A0 Tryz.t115:=by kernel_rfl
def zFe:Tryz.t115.zero=A0 .nilFunc:=rfl
def q6o{W w:Aa}{l:List Asn}(h:St W l w):qb Zp 44 #[] w λv w'=>∃m,v=.map (A0 m)/\St W (qg (Zi Zk) fnV m q8d::l) w':=by refine F44_of (qs5.f (ν:=Nat) (Zi Zk) fnV h λm w h=>?_);refine qh1 (vl:=fnV) kI uMe 0 h yR 1 73 λw h=>qh1 (vl:=fnV) kI uMe 0 h yR 2 74 λw h=>qh1 (vl:=fnV) kI uMe 0 h yR 3 75 λw h=>qh1 (vl:=fnV) kI uMe 0 h yR 4 76 λw h=>qh1 (vl:=fnV) kI uMe 0 h yR 5 77 λw h=>qh1 (vl:=fnV) kI uMe 0 h yR 6 78 λw h=>qh1 (vl:=fnV) kI uMe 0 h yR 7 79 λw h=>qh1 (vl:=fnV) kI uMe 0 h yR 8 80 λw h=>⟨m,rfl,?_⟩;exact h
def q5s{k:Int}(h:k<1\/8<k):qe q8d k=A4:=by unfold q8d;simp only[qe];rw[yA (by omega),yA (by omega),yA (by omega),yA (by omega),yA (by omega),yA (by omega),yA (by omega),yA (by omega)]
def qoi{k:Int}(h:¬(k<1\/8<k)):k=1\/k=2\/k=3\/k=4\/k=5\/k=6\/k=7\/k=8:=by omega
section
variable{W w:World}{F l:List Asn}{c:qy}{x m2 o:Nat}{p:qm3}{pl:List Nat}{sn:Option Nat}{s s':Bk}{e:EvD}{bad conn took:Int}{n:Nat}
def q1w(g:ql1 F c)(i: -9223372036854775808<=e.n/\e.n<=9223372036854775807)(k:¬(e.kind<1\/8<e.kind))(j:s.S=[])(b:s.act c n e=A0 (s',bad,conn,took))(a:St W (brk c x p pl (A0 m2) s (qb1 o 0 0 0::F)) w):
 ∃f,qe q8d e.kind=A0 f/\q33 Zp f=Ai/\qb Zp f #[qc x,Zg (evV e).toArray,qc o] w λv w'=>v=Zi Zk bad/\∃d,St W (brk c x p d (A0 m2) s' (qb1 o 0 conn took::F)) w':=by
 rcases qoi k with h|h|h|h|h|h|h|h;.exact⟨73,by rw[h];rfl,by kernel_rfl,qpl h b a⟩
 .exact⟨74,by rw[h];rfl,by kernel_rfl,qqq g h b a⟩
 .exact⟨75,by rw[h];rfl,by kernel_rfl,qwn h j b a⟩
 .exact⟨76,by rw[h];rfl,by kernel_rfl,q9u g h b a⟩
 .exact⟨77,by rw[h];rfl,by kernel_rfl,qxr h b a⟩
 .exact⟨78,by rw[h];rfl,by kernel_rfl,qtu h i b a⟩
 .exact⟨79,by rw[h];rfl,by kernel_rfl,qho g h b a⟩
 .exact⟨80,by rw[h];rfl,by kernel_rfl,q4s h b a⟩
def qkq(w:¬(e.kind<1\/8<e.kind)):∃f,qe q8d e.kind=A0 f:=by rcases qoi w with h|h|h|h|h|h|h|h<;>exact⟨_,by rw[h];rfl⟩
def q21(d:q81):List Ab:=[Zi Zk d.conn,Zs d.b,Zb d.e,Zb d.c]
def q89(d:q81):(q21 d).length=4:=rfl
def qkm(d:q81):∀v∈q21 d,qn1 v:=λv h=>by simp only[q21,B1,List.not_mem_nil,yK]at h;rcases h with rfl|rfl|rfl|rfl<;>trivial
def qlj:Zp.underlying 30=A0 (.slice 38):=Tryz.underlying30
def sSe:Tryz.t38.size=4:=rfl
def bSe:Tryz.t38.bytes<=1000:=by decide+kernel
def qkw:∃z,Tryz.t38.zero=A0 z/\z.cells.size=4:=⟨_,rfl,rfl⟩
def qdz(W:Aa)(c:qy)(x:Nat)(p:qm3)(s:Bk)(out:qra)(F:List Asn)(v:Ab)(w:Aa):Prop:=
 ∃pl sn q h,v=Zg #[Zi Zk out.err,Zi Zk out.conn,Zi Zk out.took,Zl q out.sent.length h]/\St W (brk c x p pl sn s (SlA 38 4 q21 q h out.sent::F)) w
def q7j{b:Nat}{e0 conn took:Int}{q:Option Aq}{i m:Nat}{R:Ab->Aa->Prop}{l:List Asn}(k:Nat){bad:Int}(h:St W l w)(a:nth l k=A0 (Row b 32 [Zi Zk e0,Zi Zk conn,Zi Zk took,Zl q i m]))
 (j:∀w,St W (put l k [qb1 b bad 0 0]) w->R (Zg #[Zi Zk bad,Zi Zk 0,Zi Zk 0,Zl A4 0 0]) w):
 St1 (Za ⟨b,0,A4⟩ 0) (Zi Zk bad) w λw=>St1 (Za ⟨b,0,A4⟩ 1) (Zi Zk 0) w λw=>St1 (Za ⟨b,0,A4⟩ 2) (Zi Zk 0) w λw=>St1 (Za ⟨b,0,A4⟩ 3) (Zl A4 0 0) w λw=>
  LdI Zk (Za ⟨b,0,A4⟩ 0) w λe=>LdI Zk (Za ⟨b,0,A4⟩ 1) w λg=>LdI Zk (Za ⟨b,0,A4⟩ 2) w λc=>LdL (Za ⟨b,0,A4⟩ 3) w λf d n=>R (Zg #[Zi Zk e,Zi Zk g,Zi Zk c,Zl f d n]) w:=by
 have h:=h.at k a;refine St1.zz 0 h yR λw h=>St1.zz 0 h yR λw h=>St1.zz 0 h yR λw h=>St1.zz 0 h yR λw h=>?_;exact z8 0 h yR yR (z8 0 h yR yR (z8 0 h yR yR (zt 0 h yR yR (j w (z06 k a (B:=[_]) h)))))
end
end
section
section
variable{W w:World}{F l:List Asn}{c:qy}{x m2 o:Nat}{p:qm3}{pl:List Nat}{sn:Option Nat}{s s':Bk}{e:EvD}{bad conn took:Int}{n:Nat}{out:qra}
def q0m(s:Bk):s.outs.length=s.S.length:=by unfold Bk.outs;rw[A7,(qv1 leI _).length_eq,A7]
set_option maxHeartbeats 2000000 in
def qau(hO:ql1 F c)(hn: -9223372036854775808<=e.n/\e.n<=9223372036854775807)(t:s.step c n e=A0 (s',out))(a:St W (brk c x p pl sn s F) w):qb Zp 15 #[qc x,Zg (evV e).toArray] w λv w'=>qdz W c x p s' out F v w':=by
 unfold Bk.step at t;suffices J:∀R:Ab->Aa->Prop,(∀v w,qdz W c x p s' out F v w->R v w)->qb Zp 15 #[qc x,Zg (evV e).toArray] w R from J _ λv w h=>h
 intro R hR;refine F15_of (z0a 12 a λo w a=>z0a 13 a λr w a=>⟨StC W _,zd a,_,zi 12 ir yR yR,?_⟩);refine zk (α:=Nat) (V:=λT=>.map (A0 T)) (B:=λT=>qg (Zi Zk) fnV T q8d::brk c x p pl sn s (evR o e::qb1 r 0 0 0::F)) 0 ir (λG w h=>(q6o h).of λv w ⟨T,hv,h⟩=>⟨_,hv,T,rfl,h⟩) λT=>⟨_,rfl,zi 13 ir yR yR,_,_,(λG w hw=>qq1 kI uMe iFe zFe 0 hw yR e.kind Ai (by rw[yB yR];exact⟨_,_,rfl,rfl,hw⟩)),λG w h=>?_⟩;have a:St W (brk c x p pl sn s (evR o e::qb1 r 0 0 0::F)) w:=(zb h).drop;clear h;by_cases N:e.kind<1\/8<e.kind
 .rw[yB N]at t;cases t;rw[q5s N];refine zm yR (q7j 13 a yR λw a=>hR _ _ ⟨pl,sn,A4,0,rfl,?_⟩);exact z0s 12 (z09 ((z03 12 a yR).del 12 yR))
 rw[yA N]at t;obtain⟨f,hf⟩:=qkq N;rw[hf];refine zn yR ⟨λ_ w=>¬(e.kind>=2/\e.kind<=5/\s.ask e.conn A8 (λ_=>Ai)=A8)/\St W (brk c x p pl sn s (evR o e::qb1 r 0 0 0::F)) w,?_,λw hJ=>?_⟩
 .refine⟨StC W _,zd a,_,zi 12 ir yR yR,za (λI=>⟨_,zi 12 ir yR yR,za (λK=>z7 ⟨_,zo 0 ir yR yR,_,zi 12 ir yR yR,?_⟩) λK=>λG w h=>⟨λJ=>?_,zb h⟩⟩) λI=>λG w h=>⟨λJ=>?_,zb h⟩⟩
  .refine z05 7 ir yR (λG w h=>Cn.Has_spec (id:=e.conn) h) (λ_ _ h=>⟨_,rfl,h⟩) ⟨_,rfl,trivial,λG w h=>?_⟩;have a:=zb h;refine za (λH=>?_) λH=>⟨λJ=>?_,a⟩
   .have H:(!s.ask e.conn A8 λ_=>Ai)=Ai:=H;rw[yB ⟨yC I,yC K,by simpa using H⟩]at t;cases t;refine q7j 13 a yR λw a=>hR _ _ ⟨pl,sn,A4,0,rfl,?_⟩;exact z0s 12 (z09 ((z03 12 a yR).del 12 yR))
   .have H:(!s.ask e.conn A8 λ_=>Ai)=A8:=H;rw[J.2.2]at H;cases H
  .have:=yD K;omega
  .have:=yD I;omega
 clear a;obtain⟨J,a⟩:=hJ;rw[yA J]at t;clear J;cases ha:Bk.act c n { s with S:=[]} e with
 |none=>rw[ha]at t;cases t
 |some r1=>
 obtain⟨D,bad,conn,took⟩:=r1;rw[ha]at t;dsimp only at t;have E:=qs2.cr 10 a yR;refine qs5.f (ν:=q81) (Zi Zk) qr1 a λm w a=>z7 (St1.zz 1 a yR λw a=>?_);have a:=z11 10 (zf 0 10 (z03 11 a yR) yR) yR (qs2.of (E.fresh));refine z0a 12 a λu w a=>?_;have a:St W (brk c x p pl (A0 m) { s with S:=[]} (qb1 u 0 0 0::evR o e::qb1 r 0 0 0::F)) w:=a;refine z8 13 a yR yR (z8 13 a yR yR (z8 13 a yR yR (zg 13 a yR yR (z8 13 a yR yR (zg 13 a yR yR (zg 13 a yR yR (zg 13 a yR yR ?_)))))));obtain⟨f2,X,hb,L⟩:=q1w ((hO.cons _).cons _) hn N yR ha a;rw[hf]at X;cases X;refine zw hb (L.of λv w ⟨hv,b,a⟩=>⟨_,hv,?_⟩);clear L E;refine za (λh=>?_) λh=>?_
 .rw[yB (by simpa using h)]at t;cases t;refine q7j 14 a yR λw a=>hR _ _ ⟨b,A0 m,A4,0,rfl,?_⟩;exact z0s 12 (z09 (((z03 12 a yR).del 12 yR).del 12 yR))
 rw[yA (by simpa using h)]at t;clear h;cases g:D.rounds c n with
 |none=>rw[g]at t;cases t
 |some s2=>
 rw[g]at t;dsimp only at t;by_cases hl:1000000<s2.S.length;.rw[yB hl]at t;cases t
 rw[yA hl]at t;cases t;refine qt3 (λn vs w=>vs=[]/\∃D b,Bk.rounds c n D=A0 s'/\St W (brk c x p b (A0 m) D (qb1 u 0 conn took::evR o e::qb1 r 0 0 0::F)) w) λμ I K=>⟨⟨n,rfl,D,b,g,a⟩,λw hI=>?_⟩;clear a g;obtain⟨_,D,b,g,a⟩:=K _ _ hI;generalize μ _ _=k at g⊢;cases k with
 |zero=>cases g
 |succ k=>
 unfold Bk.rounds at g;cases hr:D.round c with
 |none=>rw[hr]at g;cases g
 |some r2=>
 obtain⟨l,again⟩:=r2;rw[hr]at g;dsimp only at g;refine(round_spec hr a).of λv w ⟨hv,a⟩=>⟨_,hv,za (λh=>?_) λh=>?_⟩
 .rw[yB h]at g;have O:([]:List Ab)=[]/\∃D b,Bk.rounds c k D=A0 s'/\St W (brk c x p b (A0 m) D (qb1 u 0 conn took::evR o e::qb1 r 0 0 0::F)) w:=⟨rfl,l,b,g,a⟩;exact qz5 I (by omega) O
 rw[yA (by rw[h];simp)]at g;have e3:=A1 g;subst e3;clear I K hI g h hr;have hol:=q0m l;obtain⟨E,a⟩:=brk.sent a;refine z7 (zv 0 a yR yR (qkn (by omega) 10 a yR λY U w a=>⟨_,_,_,rfl,?_⟩));have M:(q91 leI (l.S.map (·.1))).length=l.S.length:=by rw[(qv1 leI _).length_eq,A7]
 have ho:l.outs=(q91 leI (l.S.map (·.1))).map λid=>(qe l.S id).getD q93:=rfl;generalize q91 leI (l.S.map (·.1))=ids at a M ho;rw[<-M]at a⊢;generalize hS2:l.outs=os at hR ho hol;obtain⟨z,hz,hzs⟩:=qkw;have a:St W (qua (roles p b l) (qg (Zi Zk) qr1 m l.S) c x p b (A0 m) l (qi 3 1 Y ids.length U (ids.map (Zi Zk))::Row u 32 [Zi Zk 0,Zi Zk conn,Zi Zk took,Zl A4 (os.take 0).length 0]::evR o e::qb1 r 0 0 0::SlA 38 4 q21 A4 0 (os.take 0)::F)) w:=zf 0 16 (z09 (zf 0 12 a yR)) yR;refine qt3 (λn vs w=>∃(k:Nat) (q:Option Aq) (C:Nat),k+n=ids.length/\vs=[Zi Zk (k:Int)]/\St W (qua (roles p b l) (qg (Zi Zk) qr1 m l.S) c x p b (A0 m) l (qi 3 1 Y ids.length U (ids.map (Zi Zk))::Row u 32 [Zi Zk 0,Zi Zk conn,Zi Zk took,Zl q (os.take k).length C]::evR o e::qb1 r 0 0 0::SlA 38 4 q21 q C (os.take k)::F)) w) λμ I K=>⟨⟨ids.length,0,A4,0,by omega,rfl,a⟩,λj w hI=>?_⟩;clear a;obtain⟨k,q,C,N,he,a⟩:=K _ _ hI;generalize μ _ _=n at N⊢;cases he;refine za (λh=>?_) λh=>?_
 .have Q:k<ids.length:=by have:=yC h;omega
  have hx:=A2 Q;generalize ids[k]=y at hx;have hoy:os[k]?=A0 ((qe l.S y).getD q93):=by rw[ho,Ac,hx];rfl
  have Z:os.take (k+1)=os.take k++[(qe l.S y).getD q93]:=by rw[Bt,hoy];rfl
  refine z0l (z04 12 yR λF=>z0k F) a yR Q (v:=Zi Zk y) (by rw[Ac,hx];rfl) λad ha=>zq ha ⟨StC W _,zd a,z7 ⟨_,_,_,QtL.a 13 ir yR yR,_,z0b 0 ir yR yR,_,_,_,_,(λG w hw=>qq1 kI uMs iSe zSe 10 hw yR y A8 (by rw[yA (by simp),qre];exact⟨_,_,_,_,rfl,rfl,hw⟩)),λA=>?_⟩⟩;generalize (qe l.S y).getD q93=d at Z;have hle:=List.length_take_le k os;have hbd:((os.take k).length+[d].length)*Tryz.t38.bytes<=140737488355328:=by have:=bSe;simp only[Ak,Ay];exact Aj (Bo _ this) (by omega)
  have hbn:(os.take k).length+[d].length<=9223372036854775807:=by simp only[Ak,Ay];omega
  refine zk (α:=Option Aq×Nat) (V:=λy=>.slice y.1 (os.take k++[d]).length y.2) (B:=λy=>Row A 38 (q21 d)::qua (roles p b l) (qg (Zi Zk) qr1 m l.S) c x p b (A0 m) l (qi 3 1 Y ids.length U (ids.map (Zi Zk))::Row u 32 [Zi Zk 0,Zi Zk conn,Zi Zk took,Zl q (os.take k).length C]::evR o e::qb1 r 0 0 0::SlA 38 4 q21 y.1 y.2 (os.take k++[d])::F)) (A4,0) (ir.push A _) (λG w h=>?_) λy=>⟨_,_,_,rfl,trivial,?_⟩
  .have a:St W (Row A 38 (q21 d)::qua (roles p b l) (qg (Zi Zk) qr1 m l.S) c x p b (A0 m) l (qi 3 1 Y ids.length U (ids.map (Zi Zk))::Row u 32 [Zi Zk 0,Zi Zk conn,Zi Zk took,Zl q (os.take k).length C]::evR o e::qb1 r 0 0 0::SlA 38 4 q21 q C (os.take k)::F++pts G)) w:=h.imp z0d;have key:=λFF hb h63=>qf3 (P:=Zp) (ty:=30) (F:=FF) (sT:=30) (xT:=30) (m:=1) (sc:=1) (sp:=A0 ⟨A,0,A4⟩) (f:=q21) (os:=os.take k) (xs:=[d]) q89 qlj (.inr ⟨_,qlj⟩) iSe sSe hz hzs 17 a yR (z0t 0 λi v h=>by rw[Ar];simpa using h) yR qkm hb h63;exact key _ hbd hbn λp4 c4 w a=>⟨_,_,_,rfl,(p4,c4),rfl,a⟩
  .refine z0q 14 ir yR (by simp) ⟨rfl,trivial,λG w h=>?_⟩;have O:∃(k':Nat) (q:Option Aq) (C:Nat),k'+(n - 1)=ids.length/\[Zi Zk (Zw Zk ((k:Int)+1))]=[Zi Zk (k':Int)]/\St W (qua (roles p b l) (qg (Zi Zk) qr1 m l.S) c x p b (A0 m) l (qi 3 1 Y ids.length U (ids.map (Zi Zk))::Row u 32 [Zi Zk 0,Zi Zk conn,Zi Zk took,Zl q (os.take k').length C]::evR o e::qb1 r 0 0 0::SlA 38 4 q21 q C (os.take k')::F)) w:=⟨k+1,y.1,y.2,by omega,by rw[up Q (by omega)],by rw[Z];exact(zb h).drop⟩;exact qz5 I (by omega) O
 have hk2:os.take k=os:=A6 (by have:=yD h;omega);rw[hk2]at a;refine z8 13 a yR yR (z8 13 a yR yR (z8 13 a yR yR (zt 13 a yR yR ?_)));refine St1.zz 15 a yR λw a=>St1.zz 15 a yR λw a=>St1.zz 15 a yR λw a=>St1.zz 15 a yR λw a=>?_;refine z8 15 a yR yR (z8 15 a yR yR (z8 15 a yR yR (zt 15 a yR yR (hR _ _ ⟨b,A0 m,q,C,rfl,?_⟩))));have a:=z11 10 a yR (qs2.of E);exact(((a.del 12 yR).del 12 yR).del 12 yR).del 12 yR
end
end
section
set_option maxRecDepth 100000
namespace Nr
def TX:(((Ck 48 [.b .slice]/\Ck 13 [.b .bool]/\Ck 14 [.b .bool]/\(qu3 Zp #[45]=A8)/\(∀ty q n c K,qj Zp (Cd #[45] ty #[(Zl q n c)]) K=K (Zi Zk (n:Int)))/\Un 45 (.slice 36)/\Sz 36 8)/\(Ck 17 [.b .slice]/\(∀g i K,qj Zp (Instr.build 36 #[(0,(Zi Zk g)),(5,(Zs i))]) K=K (Zg #[(Zi Zk g),(Zi Zk 0),(Zi .u32 0),(Zs ⟨#[]⟩),(Zi Zk 0),(Zs i),(Zs ⟨#[]⟩),(Zs ⟨#[]⟩)]))/\(q85 Zp 4=.bool)/\(∀x y m n K,qj Zp (do eqGuard .neq 4 x y (Zb m) (Zb n);binOp .neq 4 (Zb m) (Zb n)) K=K (Zb (!(m==n))))/\Ck 18 [.b .bool]/\Ck 19 [.b .slice]/\Ck 20 [.b .slice]))/\(((qu3 Zp #[59]=A8)/\(∀ty q n c K,qj Zp (Cd #[59] ty #[(Zl q n c)]) K=K (Zi Zk (n:Int)))/\Un 59 (.slice 62)/\Sz 62 5/\Ld 62 [.int Zk,.int Zk,.str,.str,.int Zk]/\Ze 62 (Zg #[Zi Zk 0,Zi Zk 0,(Zs ⟨#[]⟩),(Zs ⟨#[]⟩),Zi Zk 0])/\Ck 21 [.agg [.int Zk,.int Zk,.int Zk,.slice]])/\(Ck 22 [.b (.int Zk)]/\Re 62 [.agg [.int Zk,.int Zk,.str,.str,.int Zk]]/\(q85 Zp 62=.other)/\Re 110 [.b .slice]/\Re 122 [.agg [.int Zk,.int Zk]]/\(q85 Zp 122=.other)/\(∀d a h e f w K,qu5 Zp 59 1 [(0,(Zg #[(Zi Zk d),(Zi Zk a),(Zs h),(Zs e),(Zi Zk f)]))] w K=qh #[(Zi Zk d),(Zi Zk a),(Zs h),(Zs e),(Zi Zk f)] 62 w λb w=>K (.slice (A0 ⟨b,0,A4⟩) 1 1) w)/\Re 59 [.b .slice]))):=by
 and_intros;all_goals
  repeat intro _
  show _=_;kernel_rfl
end Nr
end
section
set_option maxRecDepth 100000
namespace Nr
set_option maxHeartbeats 100000000 in
def FAx:=by
 have h:=(yF (yF (yF (λa b R=>call_n Tryz.func17 .nil [Zq a] b R)
 (λa b c R=>call_n Tryz.func19 .nil [Zq a,Zs b] c R))
 (yF (λa b c d e f g h i j k l R=>call_n Tryz.func4 (.sk 6 (.step (.loop [(9,ti)] (rg [36,4,42,6,40,2,9,1]) .nil) .nil (.sk 4 (.step (.loop [(11,tb),(13,ti)] (rg [52,4,58,17,11,1,56,2,13,1]) .nil) .nil (.sk 1 (.join 2 [] (rg [79,22,6,1]) .nil (.sk 2 (.step (.loop [(16,ti)] (rg [103,4,109,10,6,1,107,2,16,1]) .nil) .nil .nil)))))))) [Zg #[Zi Zk a,Zi Zk b,Zi Zk c,Zi Zk d,Zl e f g],Zl h i j,Zs k] l R)
 (yF (λa b c d e f g h i j k l m R=>call_n Tryz.func5 (.sk 6 (.step (.loop [(11,ti)] (rg [39,4,45,6,43,2,11,1]) .nil) .nil (.sk 4 (.join 2 [] (rg [65,9,8,1]) .nil (.sk 6 (.step (.loop [(17,ti)] (rg [95,4,18,2,101,4,107,12,18,1,105,2,19,1,119,20,8,1,99,2,17,1]) (.sk 2 (.step (.sk 2 (.step (.loop [(18,tb),(19,ti)] (rg [101,4,107,12,18,1,105,2,19,1]) (.sk 2 (.step (.draw (od [0,5,6,3,5,1,9,4]) .nil) .nil .nil))) .nil (.draw (od [0,4,5,1,4,1,6,14]) .nil))) .nil .nil))) .nil .nil)))))) [Zg #[Zi Zk a,Zi Zk b,Zi Zk c,Zi Zk d,Zl e f g],Zl h i j,Zi .u8 k,Zs l] m R)
 (λa b c d e f g h R=>call_n Tryz.func13 (.sk 3 (.step (.loop [(3,ti),(4,ti)] (rg [10,9,21,5,5,1,26,14,3,1,6,1,40,9,51,19,3,1,49,2,6,1,19,2,4,1]) (.sk 2 (.step (.sk 3 (.step (.loop [(3,ti),(6,ti)] (rg [40,9,51,19,3,1,49,2,6,1]) (.sk 2 (.step (.draw (od [0,2,3,1,10,1,12,1,2,1,4,6,11,1,13,7]) .nil) .nil .nil))) .nil .nil)) .nil .nil))) .nil .nil)) [Zg #[Zi Zk a,Zi Zk b,Zi Zk c,Zi Zk d,Zl e f g]] h R))))
 (yF (yF (λa b c d R=>call_n Tryz.func14 (.sk 3 (.join 1 [(3,ti)] (rg [7,8,17,31,3,1,15,2,4,1]) (.step (.loop [(3,ti),(4,ti)] (rg [7,8,17,31,3,1,15,2,4,1]) (.sk 2 (.step (.draw (od [0,5,9,4,15,4,22,4,5,4,13,2,19,3,26,6]) .nil) .nil .nil))) .nil .nil) .nil)) [Zl a b c] d R)
 (λa b c d e f g R=>call_n Tryz.func18 (.sk 4 (.step (.loop [(5,ti)] (rg [11,4,17,9,4,1,15,2,5,1]) (.sk 2 (.step (.draw (od [0,3,4,3,3,1,7,2]) .nil) .nil .nil))) .nil .nil)) [Zl a b c,Zl d e f] g R))
 (yF (λa b R=>call_n Tryz.func20 (.sk 3 (.step (.loop [(3,tl),(12,ti)] (rg [13,3,5,1,16,12,3,1,28,1,12,1]) .nil) .nil .nil)) [Zq a] b R)
 (yF (λa b c d R=>call_n Tryz.func21 .nil [Zq a,Zi Zk b,Zs c] d R)
 (λa b c R=>call_n Tryz.func22 (.sk 3 (.step (.loop [(6,ti)] (rg [9,4,15,12,4,1,13,2,6,1]) .nil) .nil .nil)) [Zq a,Zi Zk b] c R)))))
 simp -implicitDefEqProofs (maxSteps:=100000000) only[nlB,fl_seq,fl_reg,fl_cond,fl_block,fl_loop,fl_exit,fl_ret,fl_skip,By,C5,qf4,AE.sk,ra,rg,ro,od,ti,tb,ts,tp,tl,tm,tv,C9,Nat.reduceMod,Nat.reduceDiv,Nat.reduceBEq,Tryz.f17,Tryz.f19,Tryz.f4,Tryz.f5,Tryz.f13,Tryz.f14,Tryz.f18,Tryz.f20,Tryz.f21,Tryz.f22]at h;simp -implicitDefEqProofs (maxSteps:=100000000) only[↓n_nil0,↓n_nil1,↓n_skip0,↓n_skip1,↓n_reg0,↓n_reg1,↓n_dr,↓n_dr2,↓n_cond0,↓n_cond1,↓n_block0,↓n_block1,↓n_loop,↓n_exit0,↓n_exit1,↓n_ret0,↓n_ret1,↓n_j1,↓n_j2,↓q_t0,↓q_t1,↓q_t2,↓q_b0,↓q_b1,↓q_b2,↓q_f0,↓q_f1,↓s_0,↓s_1,↓oe_0,↓oe_1,↓oe_2,↓de_0,↓de_1,↓se_1,↓s2_1,↓ne_0,↓ne_1,↓ne_2,↓ne_3,↓nt_0,↓nt_1,↓nt_2,↓nt_3,↓nt_4,↓rb_2,↓g_0,↓g_1,↓e_c,↓e_put,↓e_puts,↓v_c,↓v_t,↓v_g,↓v_f,↓nil_s,↓k_ptr,↓k_fun,↓k_ifc,↓bif_t,↓bif_f,↓isn_s,↓isn_n,↓un_not,↓un_neg,↓un_xor,↓mf,↓b_0,↓b_1,↓d_0,↓d_1,↓al_0,↓al_1,↓wl_a,↓wp_a,↓en_1,↓x1_0,↓x2_0,↓x2_1,↓x3_0,↓x3_1,↓x3_2,↓x4_0,↓x4_1,↓x4_2,↓x4_3,↓t_0,↓t_1,↓opR,↓opX,↓opW,↓opP,↓qi7,↓qb9,↓qe8,↓q09,↓qsa,↓ixK,↓q3c,↓slK,↓qc7,↓qj3,↓q86,↓qvc,↓qa2.asT',↓qwa,↓q66,↓asR,↓asT,↓as0,↓exR,↓qta,↓exT,↓exL,↓ex0,↓alT,↓alL,↓al0,↓ld0,↓ldL,↓st0,↓stL,↓exO,a_0,a_1,decide_true,decide_false,cl_a,cl_i,cl_b,cl_s,cl_p,cl_l,cl_m,cl_f,gs,kd,Two.kd,qn4,tup,qqc,qo5,q72,tys,q49,q68,q96,By,C5,C6,Option.getD,C9,undef,Int.cast_ofNat_Int,rep,↓T0,↓T1,↓T2,↓T3,↓T4,↓T5,↓T6,↓T7,↓T8,↓T9,↓T10,↓T11,↓T12,↓TX]at h;exact h
end Nr
def F5_of{a b c d e f g h i j k l m R}:=Nr.FAx.1.2.2.1 a b c d e f g h i j k l m R
def F13_of{a b c d e f g h R}:=Nr.FAx.1.2.2.2 a b c d e f g h R
def F14_of{a b c d R}:=Nr.FAx.2.1.1 a b c d R
def F18_of{a b c d e f g R}:=Nr.FAx.2.1.2 a b c d e f g R
def F20_of{a b R}:=Nr.FAx.2.2.1 a b R
def F21_of{a b c d R}:=Nr.FAx.2.2.2.1 a b c d R
def F22_of{a b c R}:=Nr.FAx.2.2.2.2 a b c R
end
section
def qfm:List UInt8:=[115,117,98,119,97,121]
def Bk.new(c:qy):Bk:=⟨[],q39 c.tens,⟨c.grace,c.lease,0,[]⟩,[],⟨qfm,0,[]⟩,⟨[],[]⟩,⟨[],0⟩,⟨0,[]⟩,[],[],[]⟩
def q9x(ts:List qa4):∀y∈q39 ts,y.2.t∈ts:=by
 have key:∀(l:List qa4) (O:qz8) (P:qa4->Prop),(∀y∈O,P y.2.t)->(∀t∈l,P t)->∀y∈l.foldl (λO t=>qk O t.name (qhd t)) O,P y.2.t:=λl=>by
  induction l with
  |nil=>exact λO P h _=>h
  |cons t l ih=>
   intro O P c b;refine ih _ P (λy w=>?_) λt a=>b t (Ao _ a);rcases qh8 w with rfl|w;.exact b t An
   .exact c y w
 exact key ts [] (·∈ts) (λy w=>by cases w) λt a=>a
def q3r{c:qy}(h:qj6 c=Ai):(qa6 c.grace&&qa6 c.lease)=Ai:=by
 unfold qj6 at h;by_cases w:(q28 c).all (λn=>q17 n 1 1073741824)=Ai
 .unfold q28 q17 at w;simp only[Bz,List.all_cons,yJ]at w;unfold qa6;simp only[Bz,yJ];omega
 .rw[yB (by simpa using w)]at h;cases h
section
variable{W w:World}{F l:List Asn}{c:qy}{x m2 o:Nat}{p:qm3}{pl:List Nat}{sn:Option Nat}{s s':Bk}
def qoa{C:Cls}{l:List Asn}{b t:Nat}(k:Nat)(n:Is W C l)(g:nth l k=A0 (Row b t (qx3 c))):
 Qt C (Zg (qx3 c).toArray) λw K=>LdI Zk (Za ⟨b,0,A4⟩ 0) w λe=>LdI Zk (Za ⟨b,0,A4⟩ 1) w λi=>LdI Zk (Za ⟨b,0,A4⟩ 2) w λd=>LdI Zk (Za ⟨b,0,A4⟩ 3) w λf=>LdL (Za ⟨b,0,A4⟩ 4) w λm o j=>K (Zg #[Zi Zk e,Zi Zk i,Zi Zk d,Zi Zk f,Zl m o j]) w:=λG w h=>by
 have a:=n.at k g h;exact z8 0 a yR yR (z8 0 a yR yR (z8 0 a yR yR (z8 0 a yR yR (zt 0 a yR yR ⟨rfl,h⟩))))
def Ef.mk{P:Ce}{f:FuncId}{args:Array Ab}{C:Cls}{Φ:Ab->Aa->(Ab->Aa->Prop)->Prop}{K:Ab->Cls->Prop}{A:Nat->Asn}(e:Is W C l)
 (a:∀G w,St W (l++pts G) w->qb P f args w λv w'=>∃b,v=qc b/\St W (A b::(l++pts G)) w')
 (c:∀b w' (K:Ab->Aa->Prop),K (qc b) w'->Φ (qc b) w' K) (d:∀b,K (qc b) (StC W (A b::l))):Ef C (λw K=>qb P f args w λv w'=>Φ v w' K) K:=
 zk (α:=Nat) (V:=λb=>qc b) (B:=λb=>A b::l) 0 e (λG w h=>(a G w h).of λv w' ⟨b,g,h⟩=>by subst g;exact c b w' _ ⟨b,rfl,h⟩) d
set_option maxHeartbeats 1000000 in
def qwt(i:ql1 F c)(a:St W F w):qb Zp 12 #[Zg (qx3 c).toArray] w λv w'=>(qj6 c=A8/\v=Zq A4/\St W F w')\/(qj6 c=Ai/\∃x p,v=qc x/\St W (brk c x p [] A4 (Bk.new c) F) w'):=by
 refine F12_of (zh a λB w a=>z8 0 a yR yR (z8 0 a yR yR (z8 0 a yR yR (z8 0 a yR yR (zt 0 a yR yR ((q4d (i.cons _) a).of λv w ⟨d,a⟩=>⟨_,d,za (λh=>.inl ⟨by simpa using h,rfl,a.drop⟩) λh=>?_⟩))))));have f:qj6 c=Ai:=by simpa using h
 refine⟨StC W _,zd a,_,_,_,_,_,_,_,qoa 0 ir yR,_,_,_,_,_,_,_,qoa 0 ir yR,_,_,_,_,_,_,_,qoa 0 ir yR,_,zi 0 ir yR yR,_,zi 0 ir yR yR,?_⟩;refine Ef.mk (A:=λb=>qg1 b c []) ir (λG w h=>(q4u ((i.app (pts G)).cons _) h).of λv w d=>?_) (λ_ _ _ h=>⟨_,rfl,h⟩) λj=>⟨_,rfl,⟨zi 1 ir yR yR,zi 1 ir yR yR,qoa 1 ir yR,qoa 1 ir yR⟩,?_⟩
 .rcases d with ⟨e,_⟩|⟨_,b,d,h⟩
  .rw[f]at e;cases e
  .exact⟨b,d,h⟩
 refine Ef.mk (A:=λb=>qv2 b (q39 c.tens)) ir (λG w h=>(qbu (((i.app (pts G)).cons _).cons _) h).of λv w d=>?_) (λ_ _ _ h=>⟨_,rfl,h⟩) λt=>⟨_,rfl,⟨zi 2 ir yR yR,zi 2 ir yR yR,qoa 2 ir yR⟩,?_⟩
 .rcases d with ⟨e,_⟩|⟨_,b,d,h⟩
  .rw[f]at e;cases e
  .exact⟨b,d,h⟩
 refine Ef.mk (A:=λb=>q41 b ⟨c.grace,c.lease,0,[]⟩) ir (λG w h=>(qst c.grace c.lease h).of λv w d=>?_) (λ_ _ _ h=>⟨_,rfl,h⟩) λs=>⟨_,rfl,qoa 3 ir yR,?_⟩
 .rcases d with ⟨e,_⟩|⟨_,b,d,h⟩
  .rw[q3r f]at e;cases e
  .exact⟨b,d,h⟩
 refine Ef.mk (A:=λb=>Qu.QueueA b []) ir (λG w h=>Qu.New_spec h) (λ_ _ _ h=>⟨_,rfl,h⟩) λo=>⟨_,rfl,qoa 4 ir yR,?_⟩;refine Ef.mk (A:=λb=>q03 b ⟨qfm,0,[]⟩) ir (λG w h=>q5t qfm (by decide) h) (λ_ _ _ h=>⟨_,rfl,h⟩) λr=>⟨_,rfl,qoa 5 ir yR,?_⟩;refine Ef.mk (A:=λb=>q13 b ⟨[],[]⟩) ir (λG w h=>PNew_spec h) (λ_ _ _ h=>⟨_,rfl,h⟩) λn=>⟨_,rfl,qoa 6 ir yR,?_⟩;refine Ef.mk (A:=λb=>Cn.TabA b ⟨[],0⟩) ir (λG w h=>Cn.New_spec h) (λ_ _ _ h=>⟨_,rfl,h⟩) λm=>⟨_,rfl,qoa 7 ir yR,?_⟩;refine Ef.mk (A:=λb=>Ck.ClockA b ⟨0,[]⟩) ir (λG w h=>Ck.New_spec h) (λ_ _ _ h=>⟨_,rfl,h⟩) λq=>⟨_,rfl,qoa 8 ir yR,λk bx G w h=>?_⟩;have a:=((ir.push k _).push bx _).ends h;clear h;have a:=a.imp z0d;refine .inr ⟨f,bx,⟨j,t,s,o,r,n,m,q,k⟩,rfl,?_⟩;have a:=zl 11 [1,0,9,8,7,6,5,4,3,2] a yR;have a:=(a.imp λh z=>qg.of_pt (ν:=Nat) (Zi Zk) qc z);have a:=z19 (A:=qo2 j []) (L:=[]) [] yR (zj (l:=[]) a).p1;have a:=qg5.shut (q9x c.tens) (zf 3 0 a yR);have a:St W (qa5 [] []::_) w:=zj (l:=[_,_]) (z01 yR (zj (l:=[]) a));have g:qb3 ⟨[],0⟩ []:=⟨λid=>by rw[qsf];omega,λy u=>by cases u⟩;have a:St W (qs2 A4 ⟨[],0⟩ []::_) w:=zj (l:=[_,_]) (z01 g (z01 yR a));exact zl 12 [4,5,2,6,7,8,9,10,11,3,0,1] a yR
def qlo(d:s.P.ends.length<=1000000)(a:St W (brk c x p pl sn s F) w):qb Zp 16 #[qc x] w λv w'=>∃q h,v=Zl q (qw4 s.P).length h/\St W (brk c x p pl sn s (SlA 122 2 (q52 (qb4 s.P)) q h (qw4 s.P)::F)) w':=
 F16_of (z7 (z0n 0 a yR yR ((qfk d (a.at 6 yR)).of λv w ⟨q,h,b,a⟩=>⟨_,_,_,b,q,h,rfl,z0s 12 (zf 1 7 a yR)⟩)))
def qws(a:St W (brk c x p pl sn s F) w):qb Zp 31 #[qc x] w λv w'=>v=Zi Zk s.K.now/\St W (brk c x p pl sn s F) w':=
 F31_of (z7 (z0n 0 a yR yR (qb.p 8 a yR (λh=>Ck.Now_spec h) λw a=>⟨_,rfl,rfl,a⟩)))
end
end
section
def q51(t:Cb)(size:Nat)(p:Option Aq)(n c:Nat)(cs:List Ab):Asn:=λh=>
 cs.length=n*size/\n<=c/\(c=0\/∃q o all,p=A0 ⟨q,o,A4⟩/\all.length=o+c*size/\(all.drop o).take (n*size)=cs/\Row q t all h)
section
variable{t:TypeId}{size:Nat}{p:Option Addr}{n c:Nat}{cs:List Value}{W w:World}{l:List Asn}
def q51.nil(t:Cb)(size:Nat)(p:Option Aq)(h:St W l w):St W (q51 t size p 0 0 []::l) w:=
 ⟨h.1,λ_=>A4,λb o a=>by(cases a),⟨by simp,Ap _,.inl yR⟩,h.2⟩
def q51.of_row{q o:Nat}{all:List Ab}(a:all.length=o+c*size)(b:n<=c)(d:(all.drop o).take (n*size)=cs)(h:St W (Row q t all::l) w):St W (q51 t size (A0 ⟨q,o,A4⟩) n c cs::l) w:=
 h.imp λh e=>⟨by rw[<-d,Am,Aw,a,Nat.add_sub_cancel_left];exact Nat.min_eq_left (Bl _ b),b,.inr ⟨q,o,all,rfl,a,d,e⟩⟩
def q51.rd(F:List Asn):Rd (q51 t size p n c cs::F) p cs:=λH d i v h=>by
 obtain⟨g,j,⟨k,b,a⟩,_⟩:=d;rcases a with rfl|⟨q,o,all,rfl,l,f,e⟩
 .have:cs=[]:=B4 (by rw[k,Cg.1 b,Bv]);subst this;simp at h
 .have w:all[o+i]?=A0 v:=by
   subst f;rw[Br]at h;split at h;.rwa[List.getElem?_drop]at h
   .cases h
  exact⟨_,rfl,by rw[qi1];exact q26 j (e.cell w)⟩
def q51.le(h:St W (q51 t size p n c cs::l) w):cs.length=n*size/\n<=c:=by obtain⟨_,g,_,⟨b,a,_⟩,_⟩:=h;exact⟨b,a⟩
def q51.from_{k:Nat}(r:k<=n)(h:St W (q51 t size p n c cs::l) w):St W (q51 t size (if c=k then p else p.map (·.add (k*size))) (n - k) (c - k) (cs.drop (k*size))::l) w:=by
 refine h.imp λh ⟨i,j,e⟩=>⟨by rw[Aw,i,Ch],by omega,?_⟩;by_cases a:c=k;.exact .inl (by omega)
 rw[yA a];rcases e with m|⟨q,o,all,b,d,g,f⟩;.omega
 refine .inr ⟨q,o+k*size,all,by rw[b,C7,qi1],?_,?_,f⟩
 .rw[d,Nat.add_assoc,<-B5];congr 2;omega
 .rw[<-g,List.drop_take,List.drop_drop,Ch]
end
section
variable{P:Program}{W w:World}{r:List Asn}{sT xT ty e:TypeId}{inf:TypeInfo}{z:Value}{size:Nat}{p:Option Addr}{n c m:Nat}{cs xs:List Value}{x:Value}
def qrl(h w xs:List Ab)(k:Nat):qm1 (h++w) (h.length+k) xs=h++qm1 w k xs:=by unfold qm1;rw[List.take_append,List.drop_append];have a:h.take (h.length+k)=h:=A6 (by omega);have b:h.drop (h.length+k+xs.length)=[]:=List.drop_eq_nil_of_le (by omega);rw[a,b,show h.length+k - h.length=k by omega,show h.length+k+xs.length - h.length=k+xs.length by omega];simp[List.append_assoc]
def qik(H:P.underlying sT=A0 (.slice e))(Q:Src P xT)(K:P.info? e=A0 inf)(E:inf.size=size)(hz:inf.zero=A0 z)(M:z.cells.size=size){F:Ab->Aa->Prop}
 (B:St W (q51 e size p n c cs::r) w) (b:∀s,(Ca x).run P s=.ok m s) (k:∀s:Aa,s.heap=w.heap->(Ba size m x).run P s=.ok xs.toArray s) (d:xs.length=m*size)
 (U:∀v∈xs,qn1 v) (hb:(n+m)*inf.bytes<=140737488355328) (I:((n+m:Nat):Int)<=9223372036854775807)
 (J:∀p' Y w',St W (q51 e size p' (n+m) Y (cs++xs)::r) w'->F (.slice p' (n+m) Y) w'):
 Run P (B7 #[sT,xT] ty #[Zl p n c,x]) w F:=by
 have i:=q51.le B;by_cases h:n+m<=c
 .obtain⟨h0,g,G,⟨N,h3,h4⟩,X⟩:=B;rcases h4 with rfl|⟨q,o,all,rfl,hc,ht,hr⟩
  .have L:n=0:=by omega
   have R:m=0:=by omega
   subst L;subst R;have V:xs=[]:=B4 (by rw[d,Bv]);subst V;have:=q84 (P:=P) (w:=w) (w':=w) (p:=p) (n:=0) (m:=0) (c:=0) (xs:=[]) (ty:=ty) H Q K E (Ap _) b (k w yR) (by cases p with|none=>exact .inl ⟨rfl,rfl⟩|some a=>exact .inr ⟨a,rfl,rfl⟩);exact⟨_,w,this,J p 0 w ⟨h0,g,G,⟨by simpa using N,Ap _,.inl yR⟩,X⟩⟩
  .have l:St W (Row q e all::r) w:=⟨h0,g,G,hr,X⟩;have hle0:n*size+xs.length<=c*size:=by rw[d,<-B5];exact Bl _ h
   have y:o+n*size+xs.length<=all.length:=by omega
   obtain⟨w',C,f⟩:=qu4 (P:=P) (o:=o+n*size) xs 0 all w l (by omega) U;rw[Nat.add_zero,qo8 _ _ _ y]at f;have hsp:all=all.take o++all.drop o:=(Bh o all).symm;have A:(all.take o).length=o:=by rw[Am];omega
   have u:qm1 all (o+n*size) xs=all.take o++qm1 (all.drop o) (n*size) xs:=by have:=qrl (all.take o) (all.drop o) xs (n*size);rwa[A,Bh]at this
   have:=q84 (P:=P) (w:=w) (w':=w') (p:=A0 ⟨q,o,A4⟩) (n:=n) (m:=m) (c:=c) (ty:=ty) H Q K E h b (k w yR) (.inr ⟨_,rfl,by rw[qi1];exact C⟩);refine⟨_,w',this,J _ c w' (q51.of_row ?_ h ?_ f)⟩;.rw[q94 _ _ _ y,hc]
   .rw[u,List.drop_left' A];have hdl:(all.drop o).length=c*size:=by rw[Aw];omega
    unfold qm1;have D:(n+m)*size=n*size+xs.length:=by rw[d,B5]
    have l1:((all.drop o).take (n*size)).length=n*size:=by rw[Am];omega
    rw[D,<-ht,B6 (by rw[A9];omega),A6 (by rw[A9];omega)]
 .have t:(Ba size n (Zl p n c)).run P w.drew=.ok cs.toArray w.drew:=by
   refine qw3 (λj v hj=>?_) i.1 λhp=>?_;.exact(q51.rd r).of B.draws hj
   .obtain⟨_,g,_,⟨G,N,h3⟩,_⟩:=B;rcases h3 with rfl|⟨q,o,all,Z,_⟩;.rw[Cg.1 N,Bv]
    .rw[hp]at Z;cases Z
  have:=qo6 (P:=P) (w:=w) (x:=x) (n:=n) (m:=m) (c:=c) (ty:=ty) H Q K E hz h b (k w.drew yR) t I (growslice_fits (by omega) hb);have O:=grownCap_ge w (n+m) c e;have f:=St.allocRow (St.draws B).drop (cs.toArray++xs.toArray++Builtin.zeroCells z.cells (grownCap w (n+m) c e -(n+m))) e;refine⟨_,_,this,J _ _ _ (q51.of_row ?_ O ?_ f)⟩
  .have T:=qm5 z.cells (grownCap w (n+m) c e -(n+m));simp only[Bp,A9,i.1,d,As,T,M];rw[<-B5,<-B5,Ar];congr 1;omega
  .have D:(n+m)*size=(cs++xs).length:=by rw[A9,i.1,d,B5]
   rw[D,Bj];simp only[Bp];rw[B6 (by simp),A6 (by simp)]
def q5i(x:P.underlying sT=A0 (.slice e))(E:Src P xT)(D:P.info? e=A0 inf)(t:inf.size=size)(G:inf.zero=A0 z)(f:z.cells.size=size){sp:Option Aq}{sc:Nat}{F:Ab->Aa->Prop}
 (k:St W (q51 e size p n c cs::r) w) (q:Rd r sp xs) (h:xs.length=m*size)
 (g:∀v∈xs,qn1 v) (y:(n+m)*inf.bytes<=140737488355328) (d:((n+m:Nat):Int)<=9223372036854775807)
 (B:∀o l w',St W (q51 e size o (n+m) l (cs++xs)::r) w'->F (.slice o (n+m) l) w'):
 Run P (B7 #[sT,xT] ty #[Zl p n c,Zl sp m sc]) w F:=
 qik x E D t G f k (λs=>rfl) (λs u=>qw3 (λj v H=>by
  obtain⟨a,b,A⟩:=(q.cons _).of k H;exact⟨a,b,by rw[<-A];unfold World.cell?;rw[u]⟩) h (λC=>by
  rcases xs with _|⟨v,xs⟩;.simpa using h.symm
  .obtain⟨a,b,_⟩:=(q.cons _).of k (i:=0) (v:=v) yR;rw[C]at b;cases b)) h g y d B
def q8o(t:P.underlying sT=A0 (.slice e))(i:P.underlying xT=A0 .string)(o:P.info? e=A0 inf)(q:inf.size=1)(g:inf.zero=A0 z)(a:z.cells.size=1){l:List UInt8}{F:Ab->Aa->Prop}
 (j:St W (q51 e 1 p n c cs::r) w) (f:(n+l.length)*inf.bytes<=140737488355328) (h:((n+l.length:Nat):Int)<=9223372036854775807)
 (k:∀b d w',St W (q51 e 1 b (n+l.length) d (cs++l.map qd)::r) w'->F (.slice b (n+l.length) d) w'):
 Run P (B7 #[sT,xT] ty #[Zl p n c,Zs (mkS l)]) w F:=
 qik t (.inl i) o q g a j (λs=>by simp[Ca,qf1]) (λs u=>by
  have m:(mkS l).extract 0 l.length=mkS l:=by apply ByteArray.ext;simp[mkS,ByteArray.data_extract]
  simp only[Ba,m,Sem.run_pure];congr 1;apply Array.ext';simp[mkS,qd,Function.comp_def]) (by simp) q82 f h k
end
end
section
def erL(d:LD):LD:={ d with b:=0}
def erG(G:AG):AG:={ G with L:=G.L.map erL}
def q9p(no:Int):∀L:List LD,(L.map erL).find? (λd=>decide (d.no=no))=(L.find? λd=>decide (d.no=no)).map erL
 |[]=>rfl
 |d::r=>by rw[Af,Bf,Bf,q9p no r];show(match decide (d.no=no)with|true=>A0 (erL d)|false=>_)=_;cases decide (d.no=no)<;>rfl
def qga(G:AG)(no:Int):qg2 (erG G) no=(qg2 G no).map erL:=q9p no G.L
def qpg(G:AG)(no:Int)(st:Nat):erG (setSt G no st)=setSt (erG G) no st:=by
 unfold erG setSt;simp only[Az];congr 1;refine List.map_congr_left λd _=>?_;show erL (if d.no=no then { d with st:=st}else d)=if(erL d).no=no then { erL d with st:=st}else erL d
 by_cases h:d.no=no;.rw[yB h,yB (show(erL d).no=no from h)];rfl
 .rw[yA h,yA (show ¬(erL d).no=no from h)]
def qcn(P:qe1)(G:AG)(no:Int)(tk:ByteArray)(b:Nat):(erG (qp4 P G no tk b).1,(qp4 P G no tk b).2)=qp4 P (erG G) no tk 0:=by unfold qp4 erG;simp[erL]
def q7k(P:qe1)(G:AG)(b:Nat):(erG (qo3 P G b).1,(qo3 P G b).2)=qo3 P (erG G) 0:=by
 unfold qo3;rw[qga,Bc];split;.rfl
 .exact qcn _ _ _ _ _
def qtq(P:qe1)(G:AG)(m:qk1)(now:Int)(b:Nat):(erG (qe2 P G m now b).1,(qe2 P G m now b).2)=qe2 P (erG G) m now 0:=by
 obtain⟨held,epoch,last,next,L⟩:=G;unfold qe2;simp only[show(erG ⟨held,epoch,last,next,L⟩).held=held from rfl,show(erG ⟨held,epoch,last,next,L⟩).epoch=epoch from rfl,show(erG ⟨held,epoch,last,next,L⟩).next=next from rfl];by_cases w:m.A=P.nam/\m.k=7;.simp only[yB w];rfl
 simp only[yA w];by_cases h:m.A=P.nam/\m.k=10/\held=Ai/\m.N=epoch;.simp only[yB h];rfl
 simp only[yA h];by_cases a:m.A=P.nam/\m.k=11/\next<1000
 .simp only[yB a];exact qcn P ⟨held,epoch,last,next+1,L⟩ _ _ _
 .simp only[yA a]
def qcx(P:qe1)(G:AG)(no:Int)(m:qk1)(now:Int)(b:Nat):(erG (q22 P G no m now b).1,(q22 P G no m now b).2)=q22 P (erG G) no m now 0:=by
 unfold q22;rw[qga];cases qg2 G no with
 |none=>rfl
 |some d=>
  simp only[C7,erL];split;.rfl
  split
  .split;.rw[qpg]
   .rfl
  split
  .split
   .split;.rw[qpg]
    .rw[qpg]
   .rfl
  .exact qtq _ _ _ _ _
def qio(G:AG)(no:Int):qh5 (erG G) no=qh5 G no:=by unfold qh5;rw[qga];cases qg2 G no<;>rfl
def qdv(P:qe1)(G:AG)(now:Int)(b:Nat):(erG (qd3 P G now b).1,(qd3 P G now b).2)=qd3 P (erG G) now 0:=by
 unfold qd3;rw[qga,qio,Bw];split;.exact q7k _ _ _
 .simp only[show(erG G).held=G.held from rfl,show(erG G).last=G.last from rfl];by_cases h:qh5 G 0=Ai/\G.held=Ai/\q14 now/\¬now - G.last<P.every;.simp only[yB h];rfl
  .simp only[yA h]
def qbv(G:AG)(no:Int):(erG (qn6 G no).1,(qn6 G no).2)=qn6 (erG G) no:=by
 unfold qn6;rw[qga,Bw];split;.rfl
 .split;.rfl
  .unfold erG;simp only[List.filter_map];rfl
def AgW(a:Nat)(P:qe1)(g:AG):Asn:=exA λG:AG=>qz [prA (erG G=g),qv a P G]
def qb2(c:qy)(x:Nat)(p:qm3)(s:Bk):Asn:=exA λy:List Nat×Option Nat=>qz (brk c x p y.1 y.2 s [])
section
variable{W w:World}{F l:List Asn}{c:qy}{x a n:Nat}{p:qm3}{s s':Bk}{e:EvD}{P:qe1}{g:AG}{out:qra}
def qb2.open_(h:St W (qb2 c x p s::F) w):∃pl a,St W (brk c x p pl a s F) w:=by obtain⟨y,h⟩:=h.of_ex;exact⟨y.1,y.2,h.of_sep⟩
def qb2.shut{pl:List Nat}{a:Option Nat}(h:St W (brk c x p pl a s F) w):St W (qb2 c x p s::F) w:=z00 (pl,a) (zj (l:=brk c x p pl a s []) h)
def qar(d:ql1 F c)(f: -9223372036854775808<=e.n/\e.n<=9223372036854775807)(i:s.step c n e=A0 (s',out))(h:St W (qb2 c x p s::F) w):qb Zp 15 #[qc x,Zg (evV e).toArray] w λv w'=>
 ∃q a,v=Zg #[Zi Zk out.err,Zi Zk out.conn,Zi Zk out.took,Zl q out.sent.length a]/\St W (SlA 38 4 q21 q a out.sent::qb2 c x p s'::F) w':=by
 obtain⟨pl,g,h⟩:=qb2.open_ h;refine(qau d f i h).of λv w ⟨pl,g,q,a,j,h⟩=>⟨q,a,j,?_⟩;have b:=qb2.shut h;exact b.p1
def qxj(h:St W (qb2 c x p s::F) w):qb Zp 31 #[qc x] w λv w'=>v=Zi Zk s.K.now/\St W (qb2 c x p s::F) w':=by obtain⟨pl,b,h⟩:=qb2.open_ h;exact(qws h).of λv w ⟨a,h⟩=>⟨a,qb2.shut h⟩
def qdo(d:s.P.ends.length<=1000000)(h:St W (qb2 c x p s::F) w):qb Zp 16 #[qc x] w λv w'=>∃q a,v=Zl q (qw4 s.P).length a/\St W (SlA 122 2 (q52 (qb4 s.P)) q a (qw4 s.P)::qb2 c x p s::F) w':=by obtain⟨pl,e,h⟩:=qb2.open_ h;exact(qlo d h).of λv w ⟨q,a,b,h⟩=>⟨q,a,b,(qb2.shut h).p1⟩
def AgW.open_(h:St W (AgW a P g::F) w):∃G,erG G=g/\St W (qv a P G::F) w:=by obtain⟨G,h⟩:=h.of_ex;obtain⟨c,b⟩:=h.of_sep.of_pr;exact⟨G,c,b⟩
def AgW.shut{G:AG}(b:erG G=g)(h:St W (qv a P G::F) w):St W (AgW a P g::F) w:=z00 G (zj (l:=[_,_]) (z01 b h))
def qrq(P:qe1)(c:qv8 P)(h:St W F w):qb Zp 51 #[Zg #[Zs P.ten,Zs P.tok,Zs P.sec,Zs P.nam,Zi Zk P.ttl,Zi Zk P.every]] w λv w'=>∃a,v=qc a/\St W (AgW a P ⟨A8,0,0,1,[]⟩::F) w':=
 (New_spec P c h).of λv w ⟨a,b,h⟩=>⟨a,b,AgW.shut yR h⟩
def qeo(h:St W (AgW a P g::F) w):qb Zp 52 #[qc a] w λv w'=>∃q c,v=Zl q (qo3 P g 0).2.length c/\St W (qm2 q c (qo3 P g 0).2::AgW a P (qo3 P g 0).1::F) w':=by obtain⟨G,i,k⟩:=AgW.open_ h;clear h;subst i;refine(qii k).of λv w ⟨q,c,b,j,h⟩=>?_;have e:=q7k P G b;have d:=yE A3 e;have f:=yE Ah e;simp only at d f;rw[<-f];exact⟨q,c,j,(AgW.shut d h.p1).p1⟩
def qzp(no:Int)(m:qk1)(now:Int)(h:St W (AgW a P g::F) w):qb Zp 105 #[qc a,Zi Zk no,ql2 m,Zi Zk now] w λv w'=>∃q c,v=Zl q (q22 P g no m now 0).2.length c/\St W (qm2 q c (q22 P g no m now 0).2::AgW a P (q22 P g no m now 0).1::F) w':=by obtain⟨G,i,k⟩:=AgW.open_ h;clear h;subst i;refine(qus no m now k).of λv w ⟨q,c,b,j,h⟩=>?_;have e:=qcx P G no m now b;have d:=yE A3 e;have f:=yE Ah e;simp only at d f;rw[<-f];exact⟨q,c,j,(AgW.shut d h.p1).p1⟩
def qpr(now:Int)(h:St W (AgW a P g::F) w):qb Zp 30 #[qc a,Zi Zk now] w λv w'=>∃q c,v=Zl q (qd3 P g now 0).2.length c/\St W (qm2 q c (qd3 P g now 0).2::AgW a P (qd3 P g now 0).1::F) w':=by obtain⟨G,i,k⟩:=AgW.open_ h;clear h;subst i;refine(Tick_spec now k).of λv w ⟨q,c,b,j,h⟩=>?_;have e:=qdv P G now b;have d:=yE A3 e;have f:=yE Ah e;simp only at d f;rw[<-f];exact⟨q,c,j,(AgW.shut d h.p1).p1⟩
def q0q(no:Int)(h:St W (AgW a P g::F) w):qb Zp 106 #[qc a,Zi Zk no] w λv w'=>v=Zb (qn6 g no).2/\St W (AgW a P (qn6 g no).1::F) w':=by obtain⟨G,d,f⟩:=AgW.open_ h;clear h;subst d;refine(q8t no f).of λv w ⟨i,h⟩=>?_;have e:=qbv G no;have b:=yE A3 e;have c:=yE Ah e;simp only at b c;rw[<-c];exact⟨i,AgW.shut b h⟩
end
end
section
def lnC(l:qn)(w:Option Aq)(h:Nat)(a:Option Aq)(b:Nat):List Ab:=[Zi Zk l.no,Zi Zk l.conn,Zl w l.came.length h,Zl a l.back.length b,Zb l.en,Zb l.raw]
def qp1(b:Nat)(l:qn):Asn:=exA λy:Option Aq×Nat×Option Aq×Nat=>qz [Row b 140 (lnC l y.1 y.2.1 y.2.2.1 y.2.2.2),q51 5 1 y.1 l.came.length y.2.1 (l.came.map qd),q51 5 1 y.2.2.1 l.back.length y.2.2.2 (l.back.map qd)]
structure qb5 where
 bx:Nat
 a:Nat
 ml:Nat
 ms:Nat
 p:qm3
def qb8(q:qb5)(rp:Option Aq)(rc n:Nat)(draw:ByteArray):List Ab:=[qc q.bx,qc q.a,.map (A0 q.ml),Zl rp n rc,.map (A0 q.ms),Zs draw]
@[reducible] def q6h (h:Asn) (c:qy) (P:qe1) (x:Nat) (q:qb5) (rp:Option Aq) (rc:Nat) (v:Wd) (F:List Asn):List Asn:=
 Row x 81 (qb8 q rp rc v.row.length v.draw)::qb2 c q.bx q.p v.b::AgW q.a P v.g::h::q51 38 4 rp v.row.length rc (v.row.flatMap q21)::qg (Zi Zk) qr1 q.ms v.S::F
def qx1(o:List (Int×Nat))(m:Nat)(L:List (Int×qn)):Asn:=exA λbs:List (Int×Nat×qn)=>qz [prA (qx (Ah (α:=Nat) (β:=qn)) bs=L/\∀y∈o,∃d,qe bs y.1=A0 (y.2,d)),qg (Zi Zk) qc m (qx (A3 (α:=Nat) (β:=qn)) bs),qz (bs.map λy=>qp1 y.2.1 y.2.2)]
def ql5(o:List (Int×Nat))(m:Nat)(L:List (Int×qn))(k:Int)(b:Nat):Asn:=exA λbs:List (Int×Nat×qn)=>qz [prA (qx (Ah (α:=Nat) (β:=qn)) bs=L/\(∀y∈o,∃d,qe bs y.1=A0 (y.2,d))/\∃d,qe bs k=A0 (b,d)),qg (Zi Zk) qc m (qx (A3 (α:=Nat) (β:=qn)) bs),qz ((qp bs k).map λy=>qp1 y.2.1 y.2.2)]
@[reducible] def wld (o:List (Int×Nat)) (c:qy) (P:qe1) (x:Nat) (q:qb5) (rp:Option Aq) (rc:Nat) (v:Wd) (F:List Asn):List Asn:=q6h (qx1 o q.ml v.lines) c P x q rp rc v F
@[reducible] def qj9 (o:List (Int×Nat)) (k:Int) (b:Nat) (c:qy) (P:qe1) (x:Nat) (q:qb5) (rp:Option Aq) (rc:Nat) (v:Wd) (F:List Asn):List Asn:=q6h (ql5 o q.ml v.lines k b) c P x q rp rc v F
def q1j:Zp.underlying 78=A0 (.map 3 75):=Tryz.underlying78
def qwv:Zp.info? 75=A0 Tryz.t75:=by kernel_rfl
def q8x:Tryz.t75.zero=A0 (Zq A4):=rfl
section
variable{W w:World}{F l:List Asn}{c:qy}{P:qe1}{x b:Nat}{q:qb5}{rp:Option Addr}{rc n:Nat}{v v':Wd}{e:EvD}{out_:qra}{L:qn}
def qp1.open_(h:St W (qp1 b L::F) w):∃c a d e,St W (Row b 140 (lnC L c a d e)::q51 5 1 c L.came.length a (L.came.map qd)::q51 5 1 d L.back.length e (L.back.map qd)::F) w:=by obtain⟨⟨c,a,d,e⟩,h⟩:=h.of_ex;exact⟨c,a,d,e,h.of_sep⟩
def qp1.shut{c d:Option Aq}{a e:Nat}(h:St W (Row b 140 (lnC L c a d e)::q51 5 1 c L.came.length a (L.came.map qd)::q51 5 1 d L.back.length e (L.back.map qd)::F) w):St W (qp1 b L::F) w:=
 z00 (c,a,d,e) (zj (l:=[_,_,_]) h)
variable{o:List (Int×Nat)}{m:Nat}{k:Int}{Ls:List (Int×qn)}
def qx1.open_(h:St W (qx1 o m Ls::F) w):∃bs:List (Int×Nat×qn),(qx (Ah (α:=Nat) (β:=qn)) bs=Ls/\∀y∈o,∃d,qe bs y.1=A0 (y.2,d))/\St W (qg (Zi Zk) qc m (qx (A3 (α:=Nat) (β:=qn)) bs)::qz (bs.map λy=>qp1 y.2.1 y.2.2)::F) w:=by obtain⟨bs,h⟩:=h.of_ex;exact⟨bs,h.of_sep.of_pr⟩
def qx1.shut{bs:List (Int×Nat×qn)}(a:qx (Ah (α:=Nat) (β:=qn)) bs=Ls)(b:∀y∈o,∃d,qe bs y.1=A0 (y.2,d))(h:St W (qg (Zi Zk) qc m (qx (A3 (α:=Nat) (β:=qn)) bs)::qz (bs.map λy=>qp1 y.2.1 y.2.2)::F) w):St W (qx1 o m Ls::F) w:=
 z00 bs (zj (l:=[_,_,_]) (z01 ⟨a,b⟩ h))
def ql5.open_(h:St W (ql5 o m Ls k b::F) w):∃bs:List (Int×Nat×qn),(qx (Ah (α:=Nat) (β:=qn)) bs=Ls/\(∀y∈o,∃d,qe bs y.1=A0 (y.2,d))/\∃d,qe bs k=A0 (b,d))/\St W (qg (Zi Zk) qc m (qx (A3 (α:=Nat) (β:=qn)) bs)::qz ((qp bs k).map λy=>qp1 y.2.1 y.2.2)::F) w:=by obtain⟨bs,h⟩:=h.of_ex;exact⟨bs,h.of_sep.of_pr⟩
def ql5.shut{bs:List (Int×Nat×qn)}(a:qx (Ah (α:=Nat) (β:=qn)) bs=Ls)(e:∀y∈o,∃d,qe bs y.1=A0 (y.2,d))(c:∃d,qe bs k=A0 (b,d))(h:St W (qg (Zi Zk) qc m (qx (A3 (α:=Nat) (β:=qn)) bs)::qz ((qp bs k).map λy=>qp1 y.2.1 y.2.2)::F) w):St W (ql5 o m Ls k b::F) w:=
 z00 bs (zj (l:=[_,_,_]) (z01 ⟨a,e,c⟩ h))
def qx1.forget{y:Int×Nat}(h:St W (qx1 (y::o) m Ls::F) w):St W (qx1 o m Ls::F) w:=by obtain⟨bs,⟨a,c⟩,h⟩:=qx1.open_ h;exact qx1.shut a (λz b=>c z (Ao _ b)) h
def qx1.take(j:(k,b)∈o)(c:qe Ls k=A0 L)(h:St W (qx1 o m Ls::F) w):St W (qp1 b L::ql5 o m Ls k b::F) w:=by obtain⟨bs,⟨f,e⟩,i⟩:=qx1.open_ h;clear h;subst f;obtain⟨d,a⟩:=e _ j;rw[q62,a]at c;cases c;have h:=i;have l:=qf5 ((Go.Proofs.YtfjifcfbmhpcaaaGreatDoor.aget_perm a).map λy:Int×Nat×qn=>qp1 y.2.1 y.2.2) h.p1;have g:St W (qg (Zi Zk) qc m (qx (A3 (α:=Nat) (β:=qn)) bs)::qz ((qp bs k).map λy=>qp1 y.2.1 y.2.2)::qp1 b d::F) w:=zl 3 [2,1,0] l yR;exact(ql5.shut yR e ⟨d,a⟩ g).p1
def ql5.give(h:St W (qp1 b L::ql5 o m Ls k b::F) w):St W (qx1 o m (qk Ls k L)::F) w:=by
 obtain⟨bs,⟨i,g,d,a⟩,n⟩:=ql5.open_ h.p1;clear h;subst i;have h:=n;have e:qx (A3 (α:=Nat) (β:=qn)) (qk bs k (b,L))=qx (A3 (α:=Nat) (β:=qn)) bs:=by rw[<-qt2];exact qt1 (by rw[q62,a];rfl)
 refine qx1.shut (bs:=qk bs k (b,L)) (qt2 (Ah (α:=Nat) (β:=qn)) bs k (b,L)).symm (λy c=>?_) ?_
 .rw[qh2];split
  .rename_i p;obtain⟨q,f⟩:=g y c;rw[<-p,a]at f;exact⟨L,by cases f;rfl⟩
  .exact g y c
 .rw[e];have j:St W (qp1 b L::qz ((qp bs k).map λy=>qp1 y.2.1 y.2.2)::qg (Zi Zk) qc m (qx (A3 (α:=Nat) (β:=qn)) bs)::F) w:=zl 3 [2,1,0] h yR;refine(q95 (l:=(qk bs k (b,L)).map λy=>qp1 y.2.1 y.2.2) ?_ j).p1;have:=(Go.Proofs.YtfjifcfbmhpcaaaGreatDoor.aget_perm (qj1 bs k (b,L))).map λy:Int×Nat×qn=>qp1 y.2.1 y.2.2;rw[adel_aset]at this;exact this.symm
def q2r{α:Type}{Pr:Ce}{sT xT ty c:Cb}{a:Cf}{z:Ab}{size:Nat}{f:α->List Ab}{p sp:Option Aq}{n sc m:Nat}{os xs:List α}{K:Ab->Aa->Prop}(s:∀x,(f x).length=size)(r:Pr.underlying sT=A0 (.slice c))(g:Src Pr xT)(A:Pr.info? c=A0 a)(q:a.size=size)(D:a.zero=A0 z)(e:z.cells.size=size)
 (k:Nat) (E:St W l w) (j:nth l k=A0 (q51 c size p os.length n (os.flatMap f))) (F:Rd (del l k) sp (xs.flatMap f)) (o:m=xs.length) (i:∀x,∀v∈f x,qn1 v)
 (t:(os.length+xs.length)*a.bytes<=140737488355328) (u:os.length+xs.length<=9223372036854775807)
 (y:∀d b w',St W (put l k [q51 c size d (os++xs).length b ((os++xs).flatMap f)]) w'->K (.slice d (os++xs).length b) w'):
 Run Pr (B7 #[sT,xT] ty #[Zl p os.length n,Zl sp m sc]) w K:=by
 subst o;refine q5i r g A q D e (E.at k j) F (qh3 f size s xs) (λv C=>?_) t (by omega) λd b w' h=>?_
 .obtain⟨x,_,g⟩:=List.mem_flatMap.1 C;exact i x v g
 .rw[<-List.flatMap_append,<-A9]at h;have:=y d b w' (z06 k j (B:=[_]) h);rwa[A9]at this
def Ef.outd{C:Cls}{K:Ab->Cls->Prop}{b:Nat}{a0 d a2:Int}{p:Option Aq}{n c:Nat}(k:Nat)(e:Is W C l)(f:K (Zt #[]) (StC W (ins k (Row b 32 [Zi Zk a0,Zi Zk d,Zi Zk a2,Zl p n c]) l))):
 Ef (Cls.push C (b,.cells #[(Zi Zk 0),(Zi Zk 0),(Zi Zk 0),(Zl A4 0 0)] 32)) (λw K=>
  St1 (Za ⟨b,0,A4⟩ 0) (Zi Zk a0) w λw=>St1 (Za ⟨b,0,A4⟩ 1) (Zi Zk d) w λw=>St1 (Za ⟨b,0,A4⟩ 2) (Zi Zk a2) w λw=>
  St1 (Za ⟨b,0,A4⟩ 3) (Zl p n c) w λw=>K (Zt #[]) w) K:=
 zk (α:=Unit) (V:=λ_=>Zt #[]) (B:=λ_=>ins k (Row b 32 [Zi Zk a0,Zi Zk d,Zi Zk a2,Zl p n c]) l) () (e.push b _) (λG w h=>by have a:=h.imp z0d;exact St1.zz 0 a yR λw a=>St1.zz 0 a yR λw a=>St1.zz 0 a yR λw a=>St1.zz 0 a yR λw a=>⟨(),rfl,by have a:St W (Row b 32 [Zi Zk a0,Zi Zk d,Zi Zk a2,Zl p n c]::l++pts G) w:=a;exact a.perm ((qh7 k _ l).append_right _)⟩) λ_=>f
def Ef.sent{C:Cls}{K:Ab->Cls->Prop}{b:Nat}(k:Nat)(c:Is W C l)(d:q81)(e:K (Zt #[]) (StC W (ins k (Row b 38 (q21 d)) l))):
 Ef (Cls.push C (b,.cells #[(Zi Zk 0),(Zs ⟨#[]⟩),(Zb A8),(Zb A8)] 38)) (λw K=>
  St1 (Za ⟨b,0,A4⟩ 0) (Zi Zk d.conn) w λw=>St1 (Za ⟨b,0,A4⟩ 1) (Zs d.b) w λw=>St1 (Za ⟨b,0,A4⟩ 2) (Zb d.e) w λw=>
  St1 (Za ⟨b,0,A4⟩ 3) (Zb d.c) w λw=>K (Zt #[]) w) K:=
 zk (α:=Unit) (V:=λ_=>Zt #[]) (B:=λ_=>ins k (Row b 38 (q21 d)) l) () (c.push b _) (λG w h=>by have a:=h.imp z0d;exact St1.zz 0 a yR λw a=>St1.zz 0 a yR λw a=>St1.zz 0 a yR λw a=>St1.zz 0 a yR λw a=>⟨(),rfl,by have a:St W (Row b 38 (q21 d)::l++pts G) w:=a;exact a.perm ((qh7 k _ l).append_right _)⟩) λ_=>e
def aggE{C:Cls}{l:List Asn}{b t:Nat}{e:EvD}(k:Nat)(o:Is W C l)(g:nth l k=A0 (Row b t (evV e))):
 Qt C (Zg (evV e).toArray) λw K=>LdI Zk (Za ⟨b,0,A4⟩ 0) w λd=>LdI Zk (Za ⟨b,0,A4⟩ 1) w λi=>LdI .u32 (Za ⟨b,0,A4⟩ 2) w λc=>LdS (Za ⟨b,0,A4⟩ 3) w λf=>LdI Zk (Za ⟨b,0,A4⟩ 4) w λn=>LdS (Za ⟨b,0,A4⟩ 5) w λp=>LdS (Za ⟨b,0,A4⟩ 6) w λm=>LdS (Za ⟨b,0,A4⟩ 7) w λj=>K (Zg #[Zi Zk d,Zi Zk i,Zi .u32 c,Zs f,Zi Zk n,Zs p,Zs m,Zs j]) w:=λG w h=>by
 have a:=o.at k g h;exact z8 0 a yR yR (z8 0 a yR yR (z8 0 a yR yR (zg 0 a yR yR (z8 0 a yR yR (zg 0 a yR yR (zg 0 a yR yR (zg 0 a yR yR ⟨rfl,h⟩)))))))
def aggS{C:Cls}{l:List Asn}{b t:Nat}{d:q81}(k:Nat)(j:Is W C l)(g:nth l k=A0 (Row b t (q21 d))):
 Qt C (Zg (q21 d).toArray) λw K=>LdI Zk (Za ⟨b,0,A4⟩ 0) w λe=>LdS (Za ⟨b,0,A4⟩ 1) w λi=>LdB (Za ⟨b,0,A4⟩ 2) w λc=>LdB (Za ⟨b,0,A4⟩ 3) w λf=>K (Zg #[Zi Zk e,Zs i,Zb c,Zb f]) w:=λG w h=>by
 have a:=j.at k g h;exact z8 0 a yR yR (zg 0 a yR yR (zx 0 a yR yR (zx 0 a yR yR ⟨rfl,h⟩)))
end
end
section
section
variable{W w:World}{F l:List Asn}{c:qy}{P:qe1}{x b:Nat}{q:qb5}{rp:Option Addr}{rc n:Nat}{v v':Wd}{e:EvD}{out:qra}{L:qn}
variable{o:List (Int×Nat)}{k:Int}
def wld.open_(h:St W (wld o c P x q rp rc v F) w):∃bs:List (Int×Nat×qn),(qx (Ah (α:=Nat) (β:=qn)) bs=v.lines/\∀y∈o,∃d,qe bs y.1=A0 (y.2,d))/\St W (q6h (qg (Zi Zk) qc q.ml (qx (A3 (α:=Nat) (β:=qn)) bs)) c P x q rp rc v (qz (bs.map λy=>qp1 y.2.1 y.2.2)::F)) w:=by obtain⟨bs,a,h⟩:=qx1.open_ (zf 3 0 h yR);exact⟨bs,a,zl 7 [2,3,4,0,5,6,1] h yR⟩
def wld.shut{bs:List (Int×Nat×qn)}(a:qx (Ah (α:=Nat) (β:=qn)) bs=v.lines)(b:∀y∈o,∃d,qe bs y.1=A0 (y.2,d))(h:St W (q6h (qg (Zi Zk) qc q.ml (qx (A3 (α:=Nat) (β:=qn)) bs)) c P x q rp rc v (qz (bs.map λy=>qp1 y.2.1 y.2.2)::F)) w):St W (wld o c P x q rp rc v F) w:=
 zl 6 [1,2,3,0,4,5] (qx1.shut a b (zl 7 [3,6,0,1,2,4,5] h yR)) yR
def wld.forget{y:Int×Nat}(h:St W (wld (y::o) c P x q rp rc v F) w):St W (wld o c P x q rp rc v F) w:=
 zl 6 [1,2,3,0,4,5] (qx1.forget (zf 3 0 h yR)) yR
def wld.take(i:(k,b)∈o)(g:qe v.lines k=A0 L)(h:St W (wld o c P x q rp rc v F) w):∃f e a d,St W (qj9 o k b c P x q rp rc v (Row b 140 (lnC L f e a d)::q51 5 1 f L.came.length e (L.came.map qd)::q51 5 1 a L.back.length d (L.back.map qd)::F)) w:=by obtain⟨f,e,a,d,h⟩:=qp1.open_ (qx1.take i g (zf 3 0 h yR));exact⟨f,e,a,d,zl 9 [4,5,6,3,7,8,0,1,2] h yR⟩
def wld.give{d e:Option Aq}{a f:Nat}(h:St W (qj9 o k b c P x q rp rc v (Row b 140 (lnC L d a e f)::q51 5 1 d L.came.length a (L.came.map qd)::q51 5 1 e L.back.length f (L.back.map qd)::F)) w):St W (wld o c P x q rp rc (v.setL k L) F) w:=
 zl 6 [1,2,3,0,4,5] (ql5.give (qp1.shut (zl 9 [6,7,8,3,0,1,2,4,5] h yR))) yR
def qns(h:qe v.lines k=A0 L):v.setL k L=v:=by unfold Wd.setL;rw[qt1 h]
def wld.back{f a:Option Aq}{e d:Nat}(g:qe v.lines k=A0 L)(h:St W (qj9 o k b c P x q rp rc v (Row b 140 (lnC L f e a d)::q51 5 1 f L.came.length e (L.came.map qd)::q51 5 1 a L.back.length d (L.back.map qd)::F)) w):St W (wld o c P x q rp rc v F) w:=by have:=wld.give h;rwa[qns g]at this
def q5h(y:Option Nat):(y.map qc).getD (Zq A4)=Zq (y.elim A4 λb=>A0 ⟨b,0,A4⟩):=by cases y<;>rfl
def qvw{s s':Bk}(w:s.step c n e=A0 (s',out)):out.sent.length<=1000000:=by
 unfold Bk.step at w;split at w;.cases w;simp
 split at w;.cases w;simp
 split at w;.cases w
 split at w;.cases w;simp
 split at w;.cases w
 split at w;.cases w
 rename_i h;cases w;simp only;rw[q0m];omega
set_option maxHeartbeats 2000000 in
def qu7(hO:ql1 F c)(hn: -9223372036854775808<=e.n/\e.n<=9223372036854775807)(T:v.event c n e=A0 (v',out))(a:St W (wld o c P x q rp rc v F) w):qb Zp 28 #[qc x,Zg (evV e).toArray] w λr w'=>
 ∃qq g Z rc',r=Zg #[Zi Zk out.err,Zi Zk out.conn,Zi Zk out.took,Zl qq out.sent.length g]/\St W (SlA 38 4 q21 qq g out.sent::wld o c P x q Z rc' v' F) w':=by
 unfold Wd.event at T;cases I:v.b.step c n { e with draw:=v.draw}with
 |none=>rw[I]at T;cases T
 |some r=>
 obtain⟨bb,ou⟩:=r;rw[I]at T;dsimp only at T;cases H:qw1 Wd.takeS { v with b:=bb} ou.sent with
 |none=>rw[H]at T;cases T
 |some u=>
 rw[H]at T;cases T;suffices hh:∀R:Ab->Aa->Prop,(∀r w',(∃qq g Z rc',r=Zg #[Zi Zk out.err,Zi Zk out.conn,Zi Zk out.took,Zl qq out.sent.length g]/\St W (SlA 38 4 q21 qq g out.sent::wld o c P x q Z rc' v' F) w')->R r w')->qb Zp 28 #[qc x,Zg (evV e).toArray] w R from hh _ λ_ _ h=>h
 intro R hR;refine F28_of (z0a 6 a λl w a=>z0a 7 a λp w a=>z7 (zg 0 a yR yR (St1.zz 6 a yR λw a=>?_)));have a:St W (wld o c P x q rp rc v (evR l { e with draw:=v.draw}::qb1 p 0 0 0::F)) w:=a;refine⟨StC W _,zd a,z7 ⟨_,zo 0 ir yR yR,_,_,_,_,_,_,_,_,aggE 6 ir yR,?_⟩⟩;refine Ef.sl 1 ir yR (λG w h=>qar ((hO.app (pts G)).pre [_,_,_,_,_,_,_]) hn I h) (λ_ _ _ _ h=>⟨_,_,_,_,_,_,rfl,h⟩) λA g=>⟨_,_,_,_,_,_,rfl,trivial,λC=>?_⟩;refine Ef.outd 0 ir ⟨rfl,trivial,λG w h=>?_⟩;have a:St W (wld o c P x q rp rc { v with b:=bb} (SlA 38 4 q21 A g out.sent::Row C 32 [Zi Zk out.err,Zi Zk out.conn,Zi Zk out.took,Zl A out.sent.length g]::evR l { e with draw:=v.draw}::qb1 p 0 0 0::F)) w:=zl 10 [2,3,4,5,6,7,1,0,8,9] (zb h) yR;have hsl:=qvw I;clear h I;generalize { v with b:=bb}=v0 at a H;generalize { e with draw:=v.draw}=e at a;obtain⟨err,conn,took,sent⟩:=out;dsimp only at a H hR hsl⊢;refine zt 7 a yR yR ?_;refine qt3 (λn vs w=>∃(k:Nat) (u:Wd) (rp:Option Aq) (rc:Nat),k+n=sent.length/\vs=[Zi Zk (k:Int)]/\qw1 Wd.takeS u (sent.drop k)=A0 v'/\St W (wld o c P x q rp rc u (SlA 38 4 q21 A g sent::Row C 32 [Zi Zk err,Zi Zk conn,Zi Zk took,Zl A sent.length g]::evR l e::qb1 p 0 0 0::F)) w) λμ h1 h2=>⟨⟨sent.length,0,v0,rp,rc,by omega,rfl,by rw[Bj];exact H,a⟩,λj w hI=>?_⟩;clear a H;obtain⟨k,u,rp,rc,hk,he,H,a⟩:=h2 _ _ hI;generalize μ _ _=m at hk⊢;cases he;refine za (λh=>?_) λh=>?_
 .have X:k<sent.length:=by have:=yC h;omega
  have hx:=A2 X;rw[Ae X]at H;generalize sent[k]=d at H hx;unfold qw1 at H;cases E:Wd.takeS u d with
  |none=>rw[E]at H;cases H
  |some u'=>
  rw[E]at H;dsimp only at H;refine z0f q89 (by decide) (z04 6 yR λF=>z0e F) a yR X hx λad ha=>zq (ha 0 _ rfl) (z0i (ha 1 _ rfl) (LdB.at (ha 2 _ rfl) (LdB.at (ha 3 _ rfl) (z0a 6 a λM w a=>St1.zz 6 a yR λw a=>St1.zz 6 a yR λw a=>St1.zz 6 a yR λw a=>St1.zz 6 a yR λw a=>?_))));have a:St W (wld o c P x q rp rc u (Row M 38 (q21 d)::SlA 38 4 q21 A g sent::Row C 32 [Zi Zk err,Zi Zk conn,Zi Zk took,Zl A sent.length g]::evR l e::qb1 p 0 0 0::F)) w:=a;have N:∀(rp:Option Aq) (rc:Nat) (w:Aa),St W (wld o c P x q rp rc u' (Row M 38 (q21 d)::SlA 38 4 q21 A g sent::Row C 32 [Zi Zk err,Zi Zk conn,Zi Zk took,Zl A sent.length g]::evR l e::qb1 p 0 0 0::F)) w->
   (∃n,∃(k':Nat) (u:Wd) (rp:Option Aq) (rc:Nat),k'+n=sent.length/\[Zi Zk (Zw Zk ((k:Int)+1))]=[Zi Zk (k':Int)]/\qw1 Wd.takeS u (sent.drop k')=A0 v'/\St W (wld o c P x q rp rc u (SlA 38 4 q21 A g sent::Row C 32 [Zi Zk err,Zi Zk conn,Zi Zk took,Zl A sent.length g]::evR l e::qb1 p 0 0 0::F)) w)/\μ [Zi Zk (Zw Zk ((k:Int)+1))] w<m:=λrp rc w a=>by
   have hI':∃(k':Nat) (u:Wd) (rp:Option Aq) (rc:Nat),k'+(m - 1)=sent.length/\[Zi Zk (Zw Zk ((k:Int)+1))]=[Zi Zk (k':Int)]/\qw1 Wd.takeS u (sent.drop k')=A0 v'/\St W (wld o c P x q rp rc u (SlA 38 4 q21 A g sent::Row C 32 [Zi Zk err,Zi Zk conn,Zi Zk took,Zl A sent.length g]::evR l e::qb1 p 0 0 0::F)) w:=⟨k+1,u',rp,rc,by omega,by rw[up X (by omega)],H,a.del 6 yR⟩;exact⟨⟨_,hI'⟩,A5 (h1 _ _ _ hI') (by omega)⟩
  unfold Wd.takeS at E;obtain⟨bs,⟨hp,ho⟩,a⟩:=wld.open_ a;have O:(qe (qx (A3 (α:=Nat) (β:=qn)) bs) d.conn).isSome=(qe u.lines d.conn).isSome:=by rw[<-hp,q62,q62,Bc,Bc]
  refine⟨StC W _,zd a,z7 ⟨_,z0b 0 ir yR yR,_,zi 7 ir yR yR,(qe (qx (A3 (α:=Nat) (β:=qn)) bs) d.conn).elim A4 (λb=>A0 ⟨b,0,A4⟩),_,(λG w hw=>qq1 kI q1j qwv q8x 3 hw yR d.conn Ai (by rw[yB yR,q5h];exact⟨_,_,rfl,rfl,hw⟩)),λG w h=>?_⟩⟩
  have a:=wld.shut hp ho (zb h);rw[O];clear h O hp ho;cases hL:qe u.lines d.conn with
  |some L=>
   rw[hL,yB (show(A0 L).isSome=Ai from rfl)]at E;by_cases D:1000000<u.row.length;.rw[yB D]at E;cases E
   rw[yA D]at E;have E:=A1 E;refine zm yR ⟨StC W _,zd a,z7 ⟨_,_,_,QtL.a 0 ir yR yR,_,_,_,_,aggS 6 ir yR,λQ=>?_⟩⟩;have hbd:(u.row.length+[d].length)*Tryz.t38.bytes<=140737488355328:=by have:=bSe;simp only[Ak,Ay];exact Aj (Bo _ this) (by omega)
   obtain⟨z,hz,hzs⟩:=qkw;refine zk (α:=Option Aq×Nat) (V:=λy=>.slice y.1 (u.row++[d]).length y.2) (B:=λy=>Row Q 38 (q21 d)::Row x 81 (qb8 q rp rc u.row.length u.draw)::qb2 c q.bx q.p u.b::AgW q.a P u.g::qx1 o q.ml u.lines::q51 38 4 y.1 (u.row++[d]).length y.2 ((u.row++[d]).flatMap q21)::qg (Zi Zk) qr1 q.ms u.S::Row M 38 (q21 d)::SlA 38 4 q21 A g sent::Row C 32 [Zi Zk err,Zi Zk conn,Zi Zk took,Zl A sent.length g]::evR l e::qb1 p 0 0 0::F) (A4,0) (ir.push Q _) (λG w h=>?_) λy=>⟨_,_,_,rfl,trivial,z7 ?_⟩
   .have a:=h.imp z0d;have key:=λFF hb h63=>q2r (Pr:=Zp) (ty:=30) (K:=FF) (sT:=30) (xT:=30) (m:=1) (sc:=1) (sp:=A0 ⟨Q,0,A4⟩) (f:=q21) (os:=u.row) (xs:=[d]) q89 qlj (.inr ⟨_,qlj⟩) iSe sSe hz hzs 5 a yR (z0t 0 λi v h=>by rw[Ar];simp only[List.flatMap_cons,List.flatMap_nil,C6]at h;exact h) yR qkm hb h63;exact key _ hbd (by simp only[Ak,Ay];omega) λp4 c4 w a=>⟨_,_,_,rfl,(p4,c4),rfl,a⟩
   .refine z0q 1 ir yR (by simp[qb8]) ⟨rfl,trivial,λG w h=>?_⟩;refine N y.1 y.2 w ?_;rw[<-E];exact(zb h).drop
  |none=>
   rw[hL,yA (by simp)]at E;by_cases D:4611686018427387904<((qe u.S d.conn).getD q93).b.size+d.b.size;.rw[yB D]at E;cases E
   rw[yA D]at E;have E:=A1 E;refine zn yR ⟨StC W _,zd a,z7 ⟨_,z0b 0 ir yR yR,_,zi 6 ir yR yR,_,_,_,_,(λG w hw=>qq1 kI uMs iSe zSe 5 hw yR d.conn A8 (by rw[yA (by simp),qre];exact⟨_,_,_,_,rfl,rfl,hw⟩)),λY=>?_⟩⟩;generalize (qe u.S d.conn).getD q93=was at D E⊢;refine Ef.sent 6 ir was ⟨rfl,trivial,λG w h=>?_⟩;have a:St W (wld o c P x q rp rc u (Row Y 38 (q21 was)::Row M 38 (q21 d)::SlA 38 4 q21 A g sent::Row C 32 [Zi Zk err,Zi Zk conn,Zi Zk took,Zl A sent.length g]::evR l e::qb1 p 0 0 0::F)) w:=zb h;clear h;have J:∀(s t:Bool) (w:Aa),(was.e||d.e)=s->(was.c||d.c)=t->St W (Row x 81 (qb8 q rp rc u.row.length u.draw)::qb2 c q.bx q.p u.b::AgW q.a P u.g::qx1 o q.ml u.lines::q51 38 4 rp u.row.length rc (u.row.flatMap q21)::qg (Zi Zk) qr1 q.ms (qk u.S d.conn ⟨d.conn,was.b++d.b,s,t⟩)::Row Y 38 (q21 was)::Row M 38 (q21 d)::SlA 38 4 q21 A g sent::Row C 32 [Zi Zk err,Zi Zk conn,Zi Zk took,Zl A sent.length g]::evR l e::qb1 p 0 0 0::F) w->St W (wld o c P x q rp rc u' (Row M 38 (q21 d)::SlA 38 4 q21 A g sent::Row C 32 [Zi Zk err,Zi Zk conn,Zi Zk took,Zl A sent.length g]::evR l e::qb1 p 0 0 0::F)) w:=λs t w hu U h=>by rw[<-E,hu,U];exact h.del 6 yR
   refine⟨StC W _,zd a,z7 ⟨_,z0b 0 ir yR yR,_,zi 7 ir yR yR,_,zi 7 ir yR yR,_,zu 6 ir yR yR,_,zu 7 ir yR yR,⟨by omega,?_⟩⟩⟩;refine⟨_,z0u 6 ir yR yR,za (λhu=>⟨_,z0u 6 ir yR yR,za (λU=>?_) λU=>⟨_,z0u 7 ir yR yR,?_⟩⟩) λhu=>⟨_,z0u 7 ir yR yR,_,z0u 6 ir yR yR,za (λU=>?_) λU=>⟨_,z0u 7 ir yR yR,?_⟩⟩⟩;.exact Ef.mu (vl:=qr1) kI uMs 5 ir yR d.conn ⟨d.conn,was.b++d.b,Ai,Ai⟩ ⟨rfl,trivial,λG w h=>N rp rc w (J _ _ _ (by rw[hu];rfl) (by rw[U];rfl) (zb h))⟩
   .exact Ef.mu (vl:=qr1) kI uMs 5 ir yR d.conn ⟨d.conn,was.b++d.b,Ai,d.c⟩ ⟨rfl,trivial,λG w h=>N rp rc w (J _ _ _ (by rw[hu];rfl) (by rw[U];rfl) (zb h))⟩
   .exact Ef.mu (vl:=qr1) kI uMs 5 ir yR d.conn ⟨d.conn,was.b++d.b,d.e,Ai⟩ ⟨rfl,trivial,λG w h=>N rp rc w (J _ _ _ (by rw[hu];rfl) (by rw[U];rfl) (zb h))⟩
   .exact Ef.mu (vl:=qr1) kI uMs 5 ir yR d.conn ⟨d.conn,was.b++d.b,d.e,d.c⟩ ⟨rfl,trivial,λG w h=>N rp rc w (J _ _ _ (by rw[hu];rfl) (by rw[U];rfl) (zb h))⟩
 have hk2:k=sent.length:=by have:=yD h;omega
 rw[hk2,Au]at H;have I:=A1 H;subst I;refine z8 7 a yR yR (z8 7 a yR yR (z8 7 a yR yR (zt 7 a yR yR ?_)));refine St1.zz 9 a yR λw a=>St1.zz 9 a yR λw a=>St1.zz 9 a yR λw a=>St1.zz 9 a yR λw a=>?_;refine z8 9 a yR yR (z8 9 a yR yR (z8 9 a yR yR (zt 9 a yR yR (hR _ _ ⟨A,g,rp,rc,rfl,?_⟩))));have a:=((a.del 7 yR).del 7 yR).del 7 yR;exact zf 6 0 a yR
end
end
section
section
variable{W w:World}{F l:List Asn}{c:qy}{P:qe1}{x b:Nat}{q:qb5}{rp:Option Addr}{rc n:Nat}{v v':Wd}{e:EvD}{L:qn}{o:List (Int×Nat)}{k:Int}{m:Nat}{Ls:List (Int×qn)}
def qx1.add{K:Aa->Prop}(g:qe Ls k=A4)(j:St W (qp1 b L::qx1 o m Ls::F) w)(p:∀w',St W (qx1 o m (qk Ls k L)::F) w'->K w'):qt8 Zp (Instr.mapUpdate 78 (.map (A0 m)) (Zi Zk k) (qc b)) w K:=by
 obtain⟨bs,⟨c,q⟩,h⟩:=qx1.open_ j.p1;have f:qe bs k=A4:=by rw[<-c,q62,Option.map_eq_none_iff]at g;exact g
 refine qh1 kI q1j 0 h yR k b λw' h=>p w' (qx1.shut (bs:=qk bs k (b,L)) (by rw[<-c,<-qt2]) (λy n=>?_) ?_)
 .obtain⟨d,a⟩:=q y n;refine⟨d,?_⟩;rw[qh2,yA (λe=>by rw[<-e,f]at a;cases a)];exact a
 .have h:St W (qg (Zi Zk) qc m (qk (qx (A3 (α:=Nat) (β:=qn)) bs) k b)::qz (bs.map λy:Int×Nat×qn=>qp1 y.2.1 y.2.2)::qp1 b L::F) w':=h;have e:qk (qx (A3 (α:=Nat) (β:=qn)) bs) k b=qx (A3 (α:=Nat) (β:=qn)) (qk bs k (b,L)):=qt2 (A3 (α:=Nat) (β:=qn)) bs k (b,L);rw[e]at h;rw[qbc f]at h⊢;have i:St W (qp1 b L::qz (bs.map λy:Int×Nat×qn=>qp1 y.2.1 y.2.2)::qg (Zi Zk) qc m (qx (A3 (α:=Nat) (β:=qn)) (bs++[(k,b,L)]))::F) w':=zl 3 [2,1,0] h yR;refine(q95 (l:=(bs++[(k,b,L)]).map λy=>qp1 y.2.1 y.2.2) ?_ i).p1;rw[Av];exact(B9 _ _).symm
def q3s{u:Wd}{d:q81}(h:v.takeS d=A0 u):u.lines=v.lines/\u.g=v.g/\u.draw=v.draw/\u.b=v.b:=by
 unfold Wd.takeS at h;split at h
 .split at h;.cases h
  .cases h;exact⟨rfl,rfl,rfl,rfl⟩
 .split at h;.cases h
  .cases h;exact⟨rfl,rfl,rfl,rfl⟩
def qgh:∀(l:List q81) {u v:Wd},qw1 Wd.takeS v l=A0 u->u.lines=v.lines/\u.g=v.g/\u.draw=v.draw/\u.b=v.b
 |[],u,v,h=>by cases h;exact⟨rfl,rfl,rfl,rfl⟩
 |d::r,u,v,h=>by
  unfold qw1 at h;cases hd:v.takeS d with
  |none=>rw[hd]at h;cases h
  |some t=>rw[hd]at h;obtain⟨i,w,g,f⟩:=qgh r h;obtain⟨a,b,c,e⟩:=q3s hd;exact⟨i.trans a,w.trans b,g.trans c,f.trans e⟩
def quh{out:qra}(h:v.event c n e=A0 (v',out)):v'.lines=v.lines/\v'.g=v.g/\v'.draw=v.draw:=by
 unfold Wd.event at h;split at h;.cases h
 .split at h;.cases h
  .rename_i w;cases h;obtain⟨b,a,d,_⟩:=qgh _ w;exact⟨b,a,d⟩
def qqh(no:Int)(l:ql1 F c)(d:v.open_ c n no=A0 v')(a:St W (wld o c P x q rp rc v F) w):qb Zp 56 #[qc x,Zi Zk no] w λr w'=>r=Zt #[]/\∃rp rc,St W (wld o c P x q rp rc v' F) w':=by
 unfold Wd.open_ at d;cases he:v.event c n { evZ with kind:=1}with
 |none=>rw[he]at d;cases d
 |some r=>
 obtain⟨f,b⟩:=r;rw[he]at d;dsimp only at d;refine F56_of ((qu7 l ⟨by decide,by decide⟩ he a).of λr w ⟨j,i,rp,rc,k,a⟩=>⟨_,_,_,_,_,_,k,?_⟩);have a:=a.drop;refine z0a 6 a λe w a=>St1.zz 6 a yR λw a=>St1.zz 6 a yR λw a=>St1.zz 6 a yR λw a=>St1.zz 6 a yR λw a=>z8 6 a yR yR (za (λh=>?_) λh=>?_)
 .rw[yB (by simpa using h)]at d;cases d;exact⟨rfl,rp,rc,a.del 6 yR⟩
 rw[yA (by simpa using h)]at d;cases hL:qe f.lines b.conn with
 |some L=>rw[hL,yB (show(A0 L).isSome=Ai from rfl)]at d;cases d
 |none=>
 rw[hL,yA (by simp)]at d;have a:St W (wld o c P x q rp rc f (Row e 32 [Zi Zk b.err,Zi Zk b.conn,Zi Zk b.took,Zl j b.sent.length i]::F)) w:=a;refine⟨StC W _,zd a,z7 ⟨_,z0b 0 ir yR yR,_,zi 6 ir yR yR,_,zi 6 ir yR yR,λg=>?_⟩⟩;refine zk (α:=Unit) (V:=λ_=>Zt #[]) (B:=λ_=>wld o c P x q rp rc (f.setL b.conn ⟨no,b.conn,[],[],A8,A8⟩) (Row e 32 [Zi Zk b.err,Zi Zk b.conn,Zi Zk b.took,Zl j b.sent.length i]::F)) () (ir.push g _) (λG w h=>?_) λ_=>⟨rfl,trivial,λG w h=>?_⟩
 .have a:=h.imp z0d;have p:=q51.nil 5 1 A4 (q51.nil 5 1 A4 a);have m:St W (qp1 g ⟨no,b.conn,[],[],A8,A8⟩::wld o c P x q rp rc f (Row e 32 [Zi Zk b.err,Zi Zk b.conn,Zi Zk b.took,Zl j b.sent.length i]::F++pts G)) w:=qp1.shut (zl 3 [2,0,1] p yR);exact qx1.add hL (zf 4 1 m yR) λw' h=>⟨(),rfl,zl 6 [1,2,3,0,4,5] h yR⟩
 have a:=zb h;clear h;refine z8 6 a yR yR ?_;cases he2:(f.setL b.conn ⟨no,b.conn,[],[],A8,A8⟩).event c n { evZ with kind:=3,conn:=b.conn,n:=1073741824}with
 |none=>rw[he2]at d;cases d
 |some r2=>
 obtain⟨v2,s⟩:=r2;rw[he2]at d;cases d;exact(qu7 (l.cons _) ⟨by show(-9223372036854775808:Int)<=1073741824;decide,by show(1073741824:Int)<=9223372036854775807;decide⟩ he2 a).of λr w ⟨j,i,rp,rc,k,a⟩=>⟨_,_,_,_,_,_,k,rfl,rp,rc,(a.drop).del 6 yR⟩
def qd1.map{κ ν:Type}{enc:κ->Ab}{vl:ν->Ab}{m b:Nat}{L V:List (κ×ν)}(h:St W (qd1 enc vl m b L V::F) w):St W (qg enc vl m L::F) w:=by obtain⟨⟨es,clock,seen,c⟩,h⟩:=h.of_ex;obtain⟨a,h⟩:=h.of_sep.of_pr;have h:St W (Pt m (.map es clock)::Pt b (.mapIter (A0 m) clock seen c)::F) w:=h;exact qg.shut a.st a.ent h.p1.drop
def q8p{L:List (Int×qn)}(w:(L.map λy=>y.2.no).Nodup){y:Int×qn}(b:y∈L):L.find? (λz=>decide (z.2.no=y.2.no))=A0 y:=by
 induction L with
 |nil=>cases b
 |cons a r ih=>
  rw[Af,C3]at w;rw[Bf];rcases B1.1 b with h|h;.subst h;simp
  .have:¬a.2.no=y.2.no:=λe=>w.1 (Ag.2 ⟨y,h,e.symm⟩);simp only[this,decide_false];exact ih w.2 h
def q701(W:Aa)(o:List (Int×Nat))(c:qy)(P:qe1)(x:Nat)(q:qb5)(rp:Option Aq)(rc:Nat)(v:Wd)(F:List Asn)(no:Int)(a:Option Aq)(w:Aa):Prop:=
 (v.find no=A4/\a=A4/\St W (wld o c P x q rp rc v F) w)\/∃k L b,v.find no=A0 (k,L)/\qe v.lines k=A0 L/\a=A0 ⟨b,0,A4⟩/\St W (wld ((k,b)::o) c P x q rp rc v F) w
def q2s(no:Int)(B:v.nos.Nodup)(d:St W (wld o c P x q rp rc v F) w):qb Zp 55 #[qc x,Zi Zk no] w λr w'=>∃a,r=Zq a/\q701 W o c P x q rp rc v F no a w':=by
 obtain⟨bs,⟨l,G⟩,d⟩:=wld.open_ d;have d:St W (qg (Zi Zk) qc q.ml (qx (A3 (α:=Nat) (β:=qn)) bs)::qz (bs.map λy:Int×Nat×qn=>qp1 y.2.1 y.2.2)::Row x 81 (qb8 q rp rc v.row.length v.draw)::qb2 c q.bx q.p v.b::AgW q.a P v.g::q51 38 4 rp v.row.length rc (v.row.flatMap q21)::qg (Zi Zk) qr1 q.ms v.S::F) w:=zl 7 [3,6,0,1,2,4,5] d yR;have f:(bs.map (·.1)).Nodup:=by have:=z18 kI d;rwa[qx5]at this
 refine F55_of (z7 (zv 2 d yR yR (qg9 q1j 0 d yR λj w d=>⟨λvs w=>∃V:List (Int×Nat),vs=[]/\(∀y∈V,∀L,qe bs y.1=A0 (y.2,L)->L.no≠no)/\St W (qd1 (Zi Zk) qc q.ml j (qx (A3 (α:=Nat) (β:=qn)) bs) V::qz (bs.map λy:Int×Nat×qn=>qp1 y.2.1 y.2.2)::Row x 81 (qb8 q rp rc v.row.length v.draw)::qb2 c q.bx q.p v.b::AgW q.a P v.g::q51 38 4 rp v.row.length rc (v.row.flatMap q21)::qg (Zi Zk) qr1 q.ms v.S::F) w,λ_ w=>q74 j (qx (A3 (α:=Nat) (β:=qn)) bs).length w,⟨[],rfl,by simp,d⟩,λw N=>?_⟩)));clear d;obtain⟨V,_,hV,d⟩:=N;have p:=qd1.left d (qx (A3 (α:=Nat) (β:=qn)) bs).length;refine qqb kI 0 d yR (λn E H w' d=>⟨A4,rfl,.inl ⟨?_,rfl,wld.shut l G (zl 7 [2,3,4,0,5,6,1] d yR)⟩⟩) λz O C w' d=>qp9 0 d yR λd=>⟨_,_,rfl,?_⟩
 .unfold Wd.find;rw[List.find?_eq_none];intro y e;rw[<-l]at e;obtain⟨u,m,rfl⟩:=Ag.1 e;have t:=n (u.1,u.2.1) (Ag.2 ⟨u,m,rfl⟩);have s:=hV _ t u.2.2 (q24 f m);simpa using s
 obtain⟨u,m,rfl⟩:=Ag.1 O;have i:qe bs u.1=A0 (u.2.1,u.2.2):=q24 f m;obtain⟨k,b,L⟩:=u;dsimp only at i d C⊢;have d:St W (qd1 (Zi Zk) qc q.ml j (qx (A3 (α:=Nat) (β:=qn)) bs) (V++[(k,b)])::qz (bs.map λy:Int×Nat×qn=>qp1 y.2.1 y.2.2)::Row x 81 (qb8 q rp rc v.row.length v.draw)::qb2 c q.bx q.p v.b::AgW q.a P v.g::q51 38 4 rp v.row.length rc (v.row.flatMap q21)::qg (Zi Zk) qr1 q.ms v.S::F) w':=d;have t:=qf5 ((Go.Proofs.YtfjifcfbmhpcaaaGreatDoor.aget_perm i).map λy:Int×Nat×qn=>qp1 y.2.1 y.2.2) d.p1;obtain⟨R,Q,U,T,s⟩:=qp1.open_ t;refine z7 (z8 0 s yR yR ?_);have K:St W (qp1 b L::qz ((qp bs k).map λy:Int×Nat×qn=>qp1 y.2.1 y.2.2)::qd1 (Zi Zk) qc q.ml j (qx (A3 (α:=Nat) (β:=qn)) bs) (V++[(k,b)])::Row x 81 (qb8 q rp rc v.row.length v.draw)::qb2 c q.bx q.p v.b::AgW q.a P v.g::q51 38 4 rp v.row.length rc (v.row.flatMap q21)::qg (Zi Zk) qr1 q.ms v.S::F) w':=qp1.shut s;have d:=(q95 ((Go.Proofs.YtfjifcfbmhpcaaaGreatDoor.aget_perm i).map λy:Int×Nat×qn=>qp1 y.2.1 y.2.2).symm K).p1;refine za (λh=>⟨_,rfl,.inr ⟨k,L,b,?_,?_,rfl,?_⟩⟩) λh=>⟨⟨V++[(k,b)],rfl,λy e M g=>?_,d⟩,?_⟩
 .have A:L.no=no:=by simpa using h
  have J:(k,L)∈v.lines:=by rw[<-l];exact Ag.2 ⟨_,m,rfl⟩
  have:=q8p B J;rw[A]at this;exact this
 .rw[<-l,q62,i];rfl
 .refine wld.shut l (λy e=>?_) (zl 7 [2,3,4,0,5,6,1] (qd1.map d) yR);rcases B1.1 e with rfl|e;.exact⟨L,i⟩
  .exact G y e
 .rcases List.mem_append.1 e with e|e;.exact hV y e M g
  .simp only[Bq]at e;subst e;rw[i]at g;cases g;simpa using h
 .have I:=qd1.left d (qx (A3 (α:=Nat) (β:=qn)) bs).length;have D:=qd1.part d;show q74 j _ _<q74 j _ _;rw[I,p,A9];rw[A9]at D;simp only[Ak,Ay]at D⊢;omega
end
end
section
section
variable{W w:World}{F l:List Asn}{c:qy}{P:qe1}{x b:Nat}{q:qb5}{rp:Option Addr}{rc n:Nat}{v v':Wd}{e:EvD}{L:qn}{o:List (Int×Nat)}{k:Int}{m:Nat}{Ls:List (Int×qn)}
def aggM{C:Cls}{l:List Asn}{b t:Nat}{a:qm6}(k:Nat)(m:Is W C l)(g:nth l k=A0 (Row b t (qia a))):
 Qt C (Zg #[Zi Zk a.m.k,Zs a.m.A,Zs a.m.B,Zi Zk a.m.N,Zi Zk a.m.M]) λw K=>LdI Zk (Za (Za ⟨b,0,A4⟩ 2) 0) w λe=>LdS (Za (Za ⟨b,0,A4⟩ 2) 1) w λi=>LdS (Za (Za ⟨b,0,A4⟩ 2) 2) w λd=>LdI Zk (Za (Za ⟨b,0,A4⟩ 2) 3) w λf=>LdI Zk (Za (Za ⟨b,0,A4⟩ 2) 4) w λj=>K (Zg #[Zi Zk e,Zs i,Zs d,Zi Zk f,Zi Zk j]) w:=λG w h=>by
 have c:=m.at k g h;rw[show Za ⟨b,0,A4⟩ 2=⟨b,2,A4⟩from qi1 b 0 2];exact z8 0 c yR yR (zg 0 c yR yR (zg 0 c yR yR (z8 0 c yR yR (z8 0 c yR yR ⟨rfl,h⟩))))
def Rd.w6{p:Option Aq}{cs:List Ab}{a0 w a2 a3 a4 a5:Asn}(h:Rd F p cs):Rd (a0::w::a2::a3::a4::a5::F) p cs:=(((((h.cons _).cons _).cons _).cons _).cons _).cons _
set_option maxHeartbeats 2000000 in
def qbj{ap:Option Aq}{ac:Nat}{e:List qm6}(K:ql1 F c)(Z:Rd F ap (e.flatMap qia))(hl:e.length<=1000000)(H:v.does c n e=A0 v')(d:St W (wld o c P x q rp rc v F) w):
 qb Zp 29 #[qc x,Zl ap e.length ac] w λr w'=>r=Zt #[]/\∃rp rc,St W (wld o c P x q rp rc v' F) w':=by
 unfold Wd.does at H;refine F29_of (qt3 (λQ vs w=>∃(k:Nat) (u:Wd) (rp:Option Aq) (rc:Nat),k+Q=e.length/\vs=[Zi Zk (k:Int)]/\qw1 (Wd.doA c n) u (e.drop k)=A0 v'/\St W (wld o c P x q rp rc u F) w) λμ h1 h2=>⟨⟨e.length,0,v,rp,rc,by omega,rfl,H,d⟩,λj w hI=>?_⟩);clear d H;obtain⟨i,u,rp,rc,hk,he,m,d⟩:=h2 _ _ hI;generalize μ _ _=mm at hk⊢;cases he;refine za (λh=>?_) λh=>?_
 .have p:i<e.length:=by have:=yC h;omega
  have hx:=A2 p;rw[Ae p]at m;generalize e[i]=a at m hx;unfold qw1 at m;cases f:Wd.doA c n u a with
  |none=>rw[f]at m;cases m
  |some D=>
  rw[f]at m;dsimp only at m;unfold Wd.doA at f;by_cases z:u.nos.Nodup;case neg=>rw[yB z]at f;cases f
  rw[yA (λhh=>hh z)]at f;refine z0f q8l (by decide) Z.w6 d yR p hx λad s=>zq (s 0 _ rfl) (zq (s 1 _ rfl) (zq (s 2 _ rfl) (z0i (s 3 _ rfl) (z0i (s 4 _ rfl) (zq (s 5 _ rfl) (zq (s 6 _ rfl) (z0a 6 d λg w d=>?_)))))));refine St1.zz 6 d yR λw d=>St1.zz 6 d yR λw d=>St1.zz 6 d yR λw d=>St1.zz 6 d yR λw d=>St1.zz 6 d yR λw d=>St1.zz 6 d yR λw d=>St1.zz 6 d yR λw d=>?_;have d:St W (wld o c P x q rp rc u (Row g 136 (qia a)::F)) w:=d;have l:∀(rp:Option Aq) (rc:Nat) (w:Aa),St W (wld o c P x q rp rc D (Row g 136 (qia a)::F)) w->
   (∃Q,∃(k:Nat) (u:Wd) (rp:Option Aq) (rc:Nat),k+Q=e.length/\[Zi Zk (Zw Zk ((i:Int)+1))]=[Zi Zk (k:Int)]/\qw1 (Wd.doA c n) u (e.drop k)=A0 v'/\St W (wld o c P x q rp rc u F) w)/\μ [Zi Zk (Zw Zk ((i:Int)+1))] w<mm:=λrp rc w d=>by
   have A:∃(k:Nat) (u:Wd) (rp:Option Aq) (rc:Nat),k+(mm - 1)=e.length/\[Zi Zk (Zw Zk ((i:Int)+1))]=[Zi Zk (k:Int)]/\qw1 (Wd.doA c n) u (e.drop k)=A0 v'/\St W (wld o c P x q rp rc u F) w:=⟨i+1,D,rp,rc,by omega,by rw[up p (by omega)],m,d.del 6 yR⟩;exact⟨⟨_,A⟩,A5 (h1 _ _ _ A) (by omega)⟩
  refine z8 6 d yR yR ((q2s a.line z d).of λr w ⟨la,U,hR⟩=>⟨_,U,?_⟩);rcases hR with ⟨t,rfl,d⟩|⟨k,L,b,t,J,rfl,d⟩
  .refine z8 6 d yR yR (za (λh=>z8 6 d yR yR ?_) λh=>zn yR ?_)
   .rw[yB (by simpa using h)]at f;exact(qqh a.line (K.cons _) f d).of λr w ⟨X,rp,rc,d⟩=>⟨X,l rp rc w d⟩
   .rw[yA (by simpa using h),t]at f;cases f;exact l rp rc w d
  refine z8 6 d yR yR (za (λh=>z8 6 d yR yR ?_) λh=>zm yR ?_)
  .rw[yB (by simpa using h)]at f;exact(qqh a.line (K.cons _) f d).of λr w ⟨X,rp,rc,d⟩=>⟨X,l rp rc w (wld.forget d)⟩
  rw[yA (by simpa using h),t]at f;dsimp only at f;cases hev:u.event c n { evZ with kind:=2,conn:=L.conn,b:=mkS (Fr.putP (q0d a.m))}with
  |none=>rw[hev]at f;cases f
  |some r2=>
  obtain⟨u2,out⟩:=r2;rw[hev]at f;have f:=A1 f;obtain⟨M,C,T,O,d⟩:=wld.take An J d;refine⟨StC W _,zd d,z7 ⟨_,zi 6 ir yR yR,_,_,_,_,_,aggM 9 ir yR,?_⟩⟩;refine Ef.sw ir (λG w h=>q1f a.m h) (λ_ _ _ _ h=>⟨_,_,_,rfl,h⟩) λp1 c1=>⟨_,_,_,rfl,zi 7 ir yR yR,?_⟩;refine Ef.sw ir (λG w h=>Fr.Put_spec (z0k _) yR h) (λ_ _ _ _ h=>⟨_,_,_,rfl,h⟩) λp2 c2=>⟨_,_,_,rfl,zi 8 ir yR yR,_,Go.Proofs.YtfjifcfbmhpcaaaGreatDoor.q731 ir (z0k _) yR,?_⟩;refine zk (α:=(Option Aq×Nat)×(Option Aq×Nat)) (V:=λy=>Zg #[Zi Zk out.err,Zi Zk out.conn,Zi Zk out.took,.slice y.1.1 out.sent.length y.1.2]) (B:=λy=>wld ((k,b)::o) c P x q y.2.1 y.2.2 u2 (Row g 136 (qia a)::F)) ((A4,0),(A4,0)) ir (λG w h=>?_) λy=>⟨_,_,_,_,_,_,rfl,trivial,λG w h=>?_⟩
  .have h3:St W (qj9 ((k,b)::o) k b c P x q rp rc u (Row b 140 (lnC L M C T O)::q51 5 1 M L.came.length C (L.came.map qd)::q51 5 1 T L.back.length O (L.back.map qd)::Row g 136 (qia a)::F++pts G)) w:=z0h [_,_] h;exact(qu7 ((K.app (pts G)).cons _) ⟨by show(-9223372036854775808:Int)<=0;decide,by show(0:Int)<=9223372036854775807;decide⟩ hev (wld.back J h3)).of λr w ⟨qq,C,rp,rc,Z,d⟩=>by subst Z;exact⟨_,_,_,_,_,_,rfl,((qq,C),(rp,rc)),rfl,d.drop⟩
  obtain⟨R,_⟩:=quh hev;have N:qe u2.lines k=A0 L:=by rw[R];exact J
  obtain⟨M,C,T,O,d⟩:=wld.take An N (zb h);clear h;refine z7 (zx 6 d yR yR (za (λh=>z7 (St1.zz 6 d yR λw d=>l y.2.1 y.2.2 w ?_)) λh=>?_))
  .have I:D=u2.setL k { L with raw:=Ai}:=by rw[<-f,h];rfl
   rw[I];exact wld.forget (wld.give d)
  .rw[show Za ⟨g,0,A4⟩ 2=⟨g,2,A4⟩from qi1 g 0 2];refine z8 9 d yR yR (z7 (St1.zz 6 d yR λw d=>l y.2.1 y.2.2 w ?_));have I:D=u2.setL k { L with raw:=(a.m.k==12)}:=by rw[<-f,h];rfl
   rw[I];exact wld.forget (wld.give d)
 have Y:i=e.length:=by have:=yD h;omega
 rw[Y,Au]at m;have E:=A1 m;subst E;exact⟨rfl,rp,rc,d⟩
end
end
section
section
variable{W w:World}{F l:List Asn}{c:qy}{P:qe1}{x b:Nat}{q:qb5}{rp:Option Addr}{rc n:Nat}{v v':Wd}{e:EvD}{L:qn}{o:List (Int×Nat)}{k:Int}{m:Nat}{Ls:List (Int×qn)}{res:Bool}
def SlP.own{t:Cb}{size h b a:Nat}{p:Option Aq}{cs:List Ab}{f k:Int}{K:Option Aq->Nat->Nat->Prop}(i:Nat)(j:St W l w)(c:nth l i=A0 (q51 t size p h b cs))(e:f=(a:Int))(d:k=(h:Int))(m:a<=h)
 (o:∀g,St W (put l i [q51 t size g (h - a) (b - a) (cs.drop (a*size))]) w->K g (h - a) (b - a)):SlP p h b size f k K:=by
 subst e d;have n:=q51.le (j.at i c);refine⟨⟨by omega,by omega,by omega⟩,?_⟩;rw[Bb,Bb];exact o _ (z06 i c (B:=[_]) (q51.from_ m (j.at i c)))
set_option maxHeartbeats 2000000 in
def q1o(A:(k,b)∈o)(D:ql1 F c)(d:v.answer c n k=A0 (v',res))(e:St W (wld o c P x q rp rc v F) w):
 qb Zp 103 #[qc x,qc b] w λr w'=>r=Zb res/\∃rp rc,St W (wld o c P x q rp rc v' F) w':=by
 unfold Wd.answer at d;cases hL:qe v.lines k with
 |none=>rw[hL]at d;cases d
 |some L=>
 rw[hL]at d;dsimp only at d;obtain⟨s,g,E,m,e⟩:=wld.take A hL e;refine F103_of (z7 (zx 6 e yR yR (za (λh=>?_) λh=>?_)))
 .rw[yB (by simpa using h)]at d;cases d;exact⟨rfl,rp,rc,wld.back hL e⟩
 rw[yA (by simpa using h)]at d;refine z7 (zt 6 e yR yR (za (λh=>?_) λh=>z7 (zx 6 e yR yR (za (λj=>?_) λj=>?_))))
 .have h:0<L.back.length:=by have:=yC h;omega
  rw[yB h]at d;cases hev:v.event c n { evZ with kind:=2,conn:=L.conn,b:=mkS L.back}with
  |none=>rw[hev]at d;cases d
  |some r2=>
  obtain⟨u2,out⟩:=r2;rw[hev]at d;dsimp only at d;by_cases C:out.took<0\/(L.back.length:Int)<out.took;.rw[yB C]at d;cases d
  rw[yA C]at d;cases d;refine⟨StC W _,zd e,z7 (z7 ⟨_,zi 6 ir yR yR,_,_,_,QtL.a 6 ir yR yR,_,Go.Proofs.YtfjifcfbmhpcaaaGreatDoor.q731 ir (z04 8 yR λF=>q51.rd F) yR,?_⟩)⟩;refine zk (α:=(Option Aq×Nat)×(Option Aq×Nat)) (V:=λy=>Zg #[Zi Zk out.err,Zi Zk out.conn,Zi Zk out.took,.slice y.1.1 out.sent.length y.1.2]) (B:=λy=>wld o c P x q y.2.1 y.2.2 u2 F) ((A4,0),(A4,0)) ir (λG w h=>?_) λy=>⟨_,_,_,_,_,_,rfl,trivial,λG w h=>?_⟩
  .exact(qu7 (D.app (pts G)) ⟨by show(-9223372036854775808:Int)<=0;decide,by show(0:Int)<=9223372036854775807;decide⟩ hev (wld.back hL h)).of λr w ⟨z,g,rp,rc,p,e⟩=>by subst p;exact⟨_,_,_,_,_,_,rfl,((z,g),(rp,rc)),rfl,e.drop⟩
  obtain⟨l,_⟩:=quh hev;have t:qe u2.lines k=A0 L:=by rw[l];exact hL
  obtain⟨s,g,E,m,e⟩:=wld.take A t (zb h);clear h;refine z7 (zt 6 e yR yR (SlP.own (a:=out.took.toNat) 8 e yR (by omega) yR (by omega) λu e=>z7 (St1.zz 6 e yR λw e=>⟨rfl,y.2.1,y.2.2,?_⟩)));have i:(L.back.drop out.took.toNat).length=L.back.length - out.took.toNat:=Aw;have f:St W (qj9 o k b c P x q y.2.1 y.2.2 u2 (Row b 140 [Zi Zk L.no,Zi Zk L.conn,Zl s L.came.length g,.slice u (L.back.length - out.took.toNat) (m - out.took.toNat),Zb L.en,Zb L.raw]::q51 5 1 s L.came.length g (L.came.map qd)::q51 5 1 u (L.back.length - out.took.toNat) (m - out.took.toNat) ((L.back.map qd).drop (out.took.toNat*1))::F)) w:=e;rw[C2,<-List.map_drop,<-i]at f;exact wld.give (L:={ L with back:=L.back.drop out.took.toNat}) f
 all_goals
  have h:¬0<L.back.length:=by have:=yD h;omega
  rw[yA h]at d
 .rw[yB j]at d;cases hev:(v.setL k { L with en:=A8}).event c n { evZ with kind:=4,conn:=L.conn}with
  |none=>rw[hev]at d;cases d
  |some r2=>
  obtain⟨u2,out⟩:=r2;rw[hev]at d;cases d;refine z7 (St1.zz 6 e yR λw e=>z7 (z8 6 e yR yR ?_));have f:=wld.give (L:={ L with en:=A8}) e;exact(qu7 D ⟨by show(-9223372036854775808:Int)<=0;decide,by show(0:Int)<=9223372036854775807;decide⟩ hev f).of λr w ⟨z,g,rp,rc,p,e⟩=>⟨_,_,_,_,_,_,p,rfl,rp,rc,e.drop⟩
 .rw[yA (by rw[j];simp)]at d;cases d;exact⟨rfl,rp,rc,wld.back hL e⟩
end
end
section
def GrC(w0:Aa):Cls where
 p:=λG w=>∃q os,w=C0 (w0.drewN q) os
 drew:=λG w h=>by obtain⟨q,os,rfl⟩:=h;exact⟨q+1,os,rfl⟩
 new:=λG w o h=>by obtain⟨q,os,rfl⟩:=h;exact⟨q,os++#[o],by rw[Sort.alloc_eq_grow,Sort.grow_grow]⟩
 perm:=λa h=>h
def qru{c:Aa}{a b:Nat}{d i:Int}(k:c.cell? ⟨a,0,A4⟩=A0 (Zi Zk d))(j:c.cell? ⟨b,0,A4⟩=A0 (Zi Zk i))(f:a<c.heap.size)(e:b<c.heap.size):
 qb Zp 101 #[qc a,qc b] c λv w'=>v=Zi Zk (Zw Zk (d - i))/\∃q os,w'=C0 (c.drewN q) os:=by
 refine F101_of ⟨GrC c,⟨0,#[],by rw[Sort.grow_empty];rfl⟩,z7 (z7 ⟨_,(λG w g=>?_),_,(λG w g=>?_),λG w h=>⟨rfl,h⟩⟩)⟩
 .obtain⟨q,os,rfl⟩:=g;rw[qi1];exact⟨d,cell_grown f k q os,rfl,q,os,rfl⟩
 .obtain⟨q,os,rfl⟩:=g;rw[qi1];exact⟨i,cell_grown e j q os,rfl,q,os,rfl⟩
section
variable{W w:World}{F l:List Asn}
abbrev LnT(bs:List (Int×Nat×qn)):={ y:Int×Nat×qn//y∈bs}
def lnE{bs:List (Int×Nat×qn)}(y:LnT bs):Ab:=qc y.1.2.1
def qe3{bs:List (Int×Nat×qn)}(y:LnT bs):Int:=y.1.2.2.no
def leN{bs:List (Int×Nat×qn)}(x y:LnT bs):Bool:=decide (qe3 x<=qe3 y)
def qri{bs:List (Int×Nat×qn)}{y:Int×Nat×qn}(b:y∈bs)(h:St W (qz (bs.map λy:Int×Nat×qn=>qp1 y.2.1 y.2.2)::F) w):w.cell? ⟨y.2.1,0,A4⟩=A0 (Zi Zk y.2.2.no)/\y.2.1<w.heap.size:=by
 obtain⟨s,t,rfl⟩:=Bs b;have c:=qf5 (X:=qp1 y.2.1 y.2.2) (r:=(s++t).map λy:Int×Nat×qn=>qp1 y.2.1 y.2.2) (by rw[Av,Av,Af];exact Be) h
 obtain⟨g,f,d,e,a⟩:=qp1.open_ c;exact⟨a.ld yR,q5j a⟩
def qih{α:Type}[Inhabited α](enc:α->Ab)(w:Aa)(q:Nat)(d:Array α):Bd enc w q 0 d=Bd id w q 0 (d.map enc):=by
 unfold Bd;congr 1;funext c;unfold Sort.putCells;apply Array.ext;.simp
 .intro i b a;simp only[Array.getElem_mapIdx,Array.size_map,B2,yL,Ar,Cc,id];by_cases h:i<d.size;.simp[h]
  .simp[h]
set_option maxHeartbeats 1000000 in
def qqr{bs:List (Int×Nat×qn)}{p:Option Aq}{c:Nat}{zs:List (LnT bs)}(hl:zs.length<=1000000)(O:(bs.map λy=>y.2.2.no).Nodup)(C:∀y∈bs,0<=y.2.2.no/\y.2.2.no<=1000000)
 (L:St W (qi 75 1 p zs.length c (zs.map lnE)::qz (bs.map λy:Int×Nat×qn=>qp1 y.2.1 y.2.2)::F) w):
 qb Zp 162 #[Zl p zs.length c,.func (.func 101) #[] #[]] w λv w'=>v=Zt #[]/\St W (qi 75 1 p zs.length c ((q91 leN zs).map lnE)::qz (bs.map λy:Int×Nat×qn=>qp1 y.2.1 y.2.2)::F) w':=by
 by_cases U:zs=[]
 .subst U;have key:=AnyF.slices_SortFunc_none { Tryz.sortLine with} p c (.func (.func 101) #[] #[]) w;exact Calls.mono key λe w' ⟨G,J⟩=>⟨_,G,rfl,by subst J;exact L⟩
 have A:0<zs.length:=by cases zs with|nil=>exact yI yR U|cons _ _=>simp
 haveI:Inhabited (LnT bs):=⟨zs[0]⟩
 have t:zs.length<=c:=(qi.le L).2;obtain⟨q,all,X,l,u,I⟩:=qi.opened A L;clear L;subst X;rw[C2]at l u;have Y:Sort.Holds lnE w q 0 zs.toArray:=λj H=>by
  have s:j<zs.length:=by simpa using H
  have hx:zs[j]?=A0 zs[j]:=A2 s;have ha:all[j]?=A0 (lnE zs[j]):=by
   have k:(all.take zs.length)[j]?=A0 (lnE zs[j]):=by rw[u,Ac,hx];rfl
   rw[Br,yB s]at k;exact k
  have o:=I.st (i:=j) (by omega) (Zb Ai);have M:=I.ld ha;rw[Ar];refine⟨?_,o.1.2⟩;rw[M];congr 1;simp[getElem!_pos,s]
 have eg:∀args w,(callFunc 101 args).run Zp w=.ok (.enter 101 args) w:=enters_of Tryz.func101 (by kernel_rfl) yR;have g:∀x y:LnT bs,B0 (λx y:LnT bs=>Zw Zk (qe3 x - qe3 y)) x y=decide (qe3 x<qe3 y):=λx y=>by
  have k:=C _ x.2;have o:=C _ y.2;unfold B0;have e:Zw Zk (qe3 x - qe3 y)=qe3 x - qe3 y:=by unfold qe3;exact w64
  have M:((λx y:LnT bs=>Zw Zk (qe3 x - qe3 y)) x y<0)↔qe3 x<qe3 y:=by show Zw Zk (qe3 x - qe3 y)<0↔_;rw[e];omega
  exact decide_eq_decide.2 M
 have D:Sort.SWO (B0 (λx y:LnT bs=>Zw Zk (qe3 x - qe3 y))):=by
  refine⟨λx=>by rw[g];simp,λx y z k o=>?_,λx y z k o=>?_⟩;.rw[g]at*;simp at*;omega
  .rw[g]at*;simp at*;omega
 have r:∀x y:LnT bs,qe3 x=qe3 y->x=y:=λx y h=>by
  obtain⟨i,V⟩:=Bm x.2;obtain⟨j,H⟩:=Bm y.2;have R:(bs.map λy=>y.2.2.no)[i]?=A0 (qe3 x):=by rw[Ac,V];rfl
  have B:(bs.map λy=>y.2.2.no)[j]?=A0 (qe3 x):=by rw[Ac,H,h];rfl
  have d:=(Ad.1 R).1;have:=(List.getElem?_inj d O).1 (R.trans B.symm);subst this;rw[V]at H;exact Subtype.ext (A1 H)
 have key:=Any.slices_SortFunc_total Tryz.sortLine (α:=LnT bs) lnE (λx=>rfl) (λx y=>Zw Zk (qe3 x - qe3 y)) D 101 #[] q 0 c zs.toArray w eg
  (λm os K Z x y=>?_) Y (q5j I) (by simp;omega) (λx y k o=>by rw[g]at k o;have a1:=yD k;have a2:=yD o;exact r x y (by omega))
 .have e:(zs.toArray.toList.mergeSort λx y=>!(B0 (λx y:LnT bs=>Zw Zk (qe3 x - qe3 y))) y x)=q91 leN zs:=by
   rw[show(λx y:LnT bs=>!(B0 (λx y:LnT bs=>Zw Zk (qe3 x - qe3 y))) y x)=leN from funext λx=>funext λy=>by rw[g];unfold leN;rw[Bool.eq_iff_iff];simp]
   exact qij (le:=leN) (λa b c k o=>by unfold leN at*;simp only[yJ]at*;omega) (λa b=>by unfold leN;simp only[Bool.or_eq_true,yJ];omega) (λa b k o=>by unfold leN at*;simp only[yJ]at*;exact r a b (by omega)) (List.Perm.refl _)
  rw[e]at key;have P:zs.toArray.size=zs.length:=by simp
  rw[P]at key;refine Calls.mono key λe w' ⟨G,n,os,J⟩=>⟨_,G,rfl,?_⟩;subst J;have d:(q91 leN zs).length=zs.length:=(qv1 leN zs).length_eq;have E:=I.putRow_id (vs:=(q91 leN zs).map lnE) (by rw[A7,d,l];exact t) n os;have B:sortWorld lnE w q 0 n (q91 leN zs).toArray os=C0 (Bd id (Ci w n) q 0 ((q91 leN zs).map lnE).toArray) os:=by unfold sortWorld;rw[qih];simp
  rw[B];refine z0x (all:=(q91 leN zs).map lnE++all.drop ((q91 leN zs).map lnE).length) ?_ t (by rw[C2,<-d,<-A7 (f:=lnE),List.take_left' yR]) E;rw[A9,Aw,A7,d,l];omega
 .have N:K.toList.length=zs.length:=by rw[As,Z];simp
  have E:=I.putRow_id (vs:=K.toList.map lnE) (by rw[A7,N,l];exact t) m os;have B:sortWorld lnE w q 0 m K os=C0 (Bd id (Ci w m) q 0 (K.toList.map lnE).toArray) os:=by unfold sortWorld;rw[qih,<-Array.toList_map]
  rw[<-B]at E;have Q:=qri x.2 E.drop;have T:=qri y.2 E.drop;exact Calls.mono (qru Q.1 T.1 Q.2 T.2) λe w' ⟨v,G,hv,J⟩=>⟨by rw[G,hv];rfl,J⟩
end
end
section
section
variable{W w:World}{F l:List Asn}{c:qy}{P:qe1}{x b:Nat}{q:qb5}{rp:Option Addr}{rc n:Nat}{v v':Wd}{e:EvD}{L:qn}{o:List (Int×Nat)}{k:Int}{m:Nat}{Ls:List (Int×qn)}{res:Bool}
def qsv{p:Option Aq}{t:Nat}{d:List (Int×Nat)}(k:∀y∈d,y∈o)(E:d.length<=1000000)(C:Rd F p (d.map λy=>qc y.2))(s:ql1 F c)(b:v.anyA c n (d.map (·.1))=A0 (v',res))(f:St W (wld o c P x q rp rc v F) w):
 qb Zp 164 #[Zl p d.length t,.func (.func 103) #[qc x] #[]] w λr w'=>∃i,r=Zi Zk i/\decide (i>=0)=res/\∃rp rc,St W (wld o c P x q rp rc v' F) w':=by
 refine F164_of ⟨λvs w=>∃(i:Nat) (u:Wd) (rp:Option Aq) (rc:Nat),vs=[Zi Zk i]/\i<=d.length/\u.anyA c n ((d.drop i).map (·.1))=A0 (v',res)/\St W (wld o c P x q rp rc u F) w,leftN d.length,⟨0,v,rp,rc,rfl,by omega,b,f⟩,λx w z=>?_⟩;clear f b;obtain⟨i,u,rp,rc,B,D,b,f⟩:=z;cases B;refine za (λe=>?_) λl=>?_
 .have e:i<d.length:=by have:=yC e;omega
  have m:=A2 e;rw[Ae e,Af]at b;generalize d[i]=y at m b;refine z0l C.w6 f yR e (v:=qc y.2) (by rw[Ac,m];rfl) λa g=>LdP.at g ?_;unfold Wd.anyA at b;cases g:u.answer c n y.1 with
  |none=>rw[g]at b;cases b
  |some r2=>
  obtain⟨u2,G⟩:=r2;rw[g]at b;dsimp only at b;refine zw (by kernel_rfl) ((q1o (k _ (B3 m)) s g f).of λr w ⟨A,rp,rc,f⟩=>⟨_,A,za (λh=>?_) λh=>?_⟩)
  .rw[yB h]at b;cases b;exact⟨_,rfl,by simp,rp,rc,f⟩
  .rw[yA (by rw[h];simp)]at b;rw[up e (by omega)];exact⟨⟨i+1,u2,rp,rc,rfl,by omega,b,f⟩,by show d.length -(i+1)<d.length - i;omega⟩
 have j:i=d.length:=by have:=yD l;omega
 subst j;rw[Au]at b;cases b;exact⟨_,rfl,rfl,rp,rc,f⟩
def qng{α β:Type}(l:List α)(f:α->β):(l.attach.map λy:{ y//y∈l}=>f y.1)=l.map f:=by simp
def qye{α β:Type}{g:α->Option β}{f:α->β}:∀l:List α,(∀y∈l,g y=A0 (f y))->l.filterMap g=l.map f
 |[],_=>rfl
 |a::r,h=>by rw[List.filterMap_cons,h a An,Af,qye r λy w=>h y (Ao _ w)]
def q9f{α β:Type}(f:α->β):∀(l:List β) (m:List α),l.Perm (m.map f)->∃z:List α,z.Perm m/\z.map f=l
 |[],m,h=>by
  have:=h.nil_eq;cases m with
  |nil=>exact⟨[],.refl _,rfl⟩
  |cons _ _=>cases this
 |a::r,m,h=>by
  obtain⟨y,w,rfl⟩:=Ag.1 (h.subset An);obtain⟨s,t,rfl⟩:=Bs w;have c:r.Perm ((s++t).map f):=by rw[Av,Af]at h;have:=h.trans Be;rw[Av];exact List.Perm.cons_inv this
  obtain⟨z,b,d⟩:=q9f f r _ c;exact⟨y::z,(b.cons y).trans Be.symm,by rw[Af,d]⟩
set_option maxHeartbeats 1000000 in
def q9t(X:ql1 F c)(l:v.back c n=A0 (v',res))(d:St W (wld [] c P x q rp rc v F) w):
 qb Zp 61 #[qc x] w λr w'=>r=Zb res/\∃rp rc,St W (wld [] c P x q rp rc v' F) w':=by
 unfold Wd.back at l;by_cases E:¬v.nos.Nodup\/1000000<v.lines.length\/v.nos.all (λn=>decide (0<=n/\n<=1000000))=A8;.rw[yB E]at l;cases l
 rw[yA E]at l;rw[not_or,not_or]at E;obtain⟨j,O,m⟩:=E;have j:v.nos.Nodup:=Classical.not_not.1 j;have m:∀n∈v.nos,0<=n/\n<=1000000:=λn Q=>by
  have Y:v.nos.all (λn=>decide (0<=n/\n<=1000000))=Ai:=by
   cases h:v.nos.all (λn=>decide (0<=n/\n<=1000000))with
   |true=>rfl
   |false=>exact yI h m
  simpa using C1.1 Y n Q
 obtain⟨bs,⟨D,_⟩,d⟩:=wld.open_ d;have s:(bs.map (·.1)).Nodup:=by have:=z18 kI (d.at 3 yR);rwa[qx5]at this
 have f:v.nos=bs.map λy=>y.2.2.no:=by unfold Wd.nos;rw[<-D];unfold qx;rw[Az];rfl
 have g:bs.length=v.lines.length:=by rw[<-D,q46]
 refine F61_of (z7 (zv 0 d yR yR (F100_of (zh d λcap w d=>?_))));have d:St W (Row cap 78 [.map (A0 q.ml)]::qg (Zi Zk) qc q.ml (qx (A3 (α:=Nat) (β:=qn)) bs)::Row x 81 (qb8 q rp rc v.row.length v.draw)::qb2 c q.bx q.p v.b::AgW q.a P v.g::q51 38 4 rp v.row.length rc (v.row.flatMap q21)::qg (Zi Zk) qr1 q.ms v.S::qz (bs.map λy:Int×Nat×qn=>qp1 y.2.1 y.2.2)::F) w:=zl 8 [0,4,1,2,3,5,6,7] d yR;refine F99_of (F161_of ((AppL.AppSeq_spec (by kernel_rfl) (by rw[q46,g];omega) (qps (Ap _)) d).of λr w ⟨L,p,M,A,o,d⟩=>⟨_,_,_,A,_,_,_,rfl,?_⟩));have G:L.Perm (bs.attach.map λy:LnT bs=>y.1.2.1):=by
  have e:(bs.attach.map λy:LnT bs=>y.1.2.1)=(qx (A3 (α:=Nat) (β:=qn)) bs).map (·.2):=by unfold qx;rw[Az,qng bs (λy=>y.2.1)];rfl
  rw[e];exact o
 obtain⟨zs,N,rfl⟩:=q9f _ _ _ G;have I:zs.length=bs.length:=by rw[N.length_eq,List.length_attach]
 have d:St W (qi 75 1 p (zs.map λy:LnT bs=>y.1.2.1).length M ((zs.map λy:LnT bs=>y.1.2.1).flatMap λx=>[qc x])::Row cap 78 [.map (A0 q.ml)]::qg (Zi Zk) qc q.ml (qx (A3 (α:=Nat) (β:=qn)) bs)::Row x 81 (qb8 q rp rc v.row.length v.draw)::qb2 c q.bx q.p v.b::AgW q.a P v.g::q51 38 4 rp v.row.length rc (v.row.flatMap q21)::qg (Zi Zk) qr1 q.ms v.S::qz (bs.map λy:Int×Nat×qn=>qp1 y.2.1 y.2.2)::F) w:=d;rw[qt6,Az,A7]at d;have d:=zf 8 1 d yR;rw[A7];refine(qqr (zs:=zs) (by omega) (by rw[<-f];exact j) (λy C=>m _ (by rw[f];exact Ag.2 ⟨y,C,rfl⟩)) d).of λr w ⟨A,d⟩=>⟨A,_,_,_,rfl,?_⟩;have z:∀y∈(q91 leN zs).map (λy:LnT bs=>(y.1.1,y.1.2.1)),y∈bs.map λy=>(y.1,y.2.1):=λy C=>by obtain⟨u,_,rfl⟩:=Ag.1 C;exact Ag.2 ⟨u.1,u.2,rfl⟩
 have K:(q91 leN zs).length=zs.length:=(qv1 leN zs).length_eq;have H:v.byNo=((q91 leN zs).map (λy:LnT bs=>(y.1.1,y.1.2.1))).map (·.1):=by
  unfold Wd.byNo;have T:q91 leI v.nos=(q91 leN zs).map qe3:=by rw[q5a qe3 (le:=leN) (le':=leI) (λa b=>rfl)];refine q88 ?_;rw[f];have:=(N.map qe3).symm;have U:bs.attach.map qe3=bs.map λy=>y.2.2.no:=qng bs (λy=>y.2.2.no);rw[U]at this;exact this
  rw[T,List.filterMap_map,Az];refine qye _ (λy _=>?_);have R:(y.1.1,y.1.2.2)∈v.lines:=by rw[<-D];exact Ag.2 ⟨y.1,y.2,rfl⟩
  have:=q8p (by exact j) R;show(v.find (qe3 y)).map (·.1)=A0 y.1.1;unfold Wd.find qe3;rw[this];rfl
 rw[H]at l;generalize k:(q91 leN zs).map (λy:LnT bs=>(y.1.1,y.1.2.1))=ps at z l;have B:ps.length=zs.length:=by rw[<-k,A7,K]
 have t:(q91 leN zs).map lnE=ps.map λy=>qc y.2:=by rw[<-k,Az];rfl
 rw[t]at d;have d:St W (wld (bs.map λy=>(y.1,y.2.1)) c P x q rp rc v (qi 75 1 p zs.length M (ps.map λy=>qc y.2)::F)) w:=
  wld.shut D (λy C=>by obtain⟨u,Z,rfl⟩:=Ag.1 C;exact⟨u.2.2,q24 s Z⟩) (zl 9 [4,5,6,3,7,8,1,0] d yR)
 rw[<-B]at d⊢;refine F102_of ((qsv z (by rw[B,I,g];omega) (z0k _) (X.cons _) l d).of λr w ⟨i,A,hi,rp,rc,d⟩=>⟨_,A,_,by rw[hi],rfl,rp,rc,?_⟩);have d:=d.del 6 yR;obtain⟨V,⟨J,_⟩,d⟩:=wld.open_ d;exact wld.shut J (by simp) d
end
end
section
variable{dfr:List Deferred}
def qq4{F:Fence}(m:qx4 F){P:Ce}{l:Array Oper}{b:List Nat}{Q:Act->Aa->Prop}{A:Exit->Act->Aa->Prop}(e:∀(i:Nat) (o:Oper),l[i]?=A0 o->∀c,o.op≠.defer c)(p:∀a w,Q a w->A .normal a w):
 ∀(f:Nat) (pend:qc1) (d:Array Bool) (a:Act) (C:Cls) (G:List (Nat×Obj)) (w:Aa),C.p G w->AnyC P l b Q pend f d a C->wpAnyIn F 0 P .any l A f d a w
 |0,_,_,_,_,G,w,n,h=>⟨h.1,p _ _ (h.2 G w n)⟩
 |f+1,pend,d,a,C,G,w,n,h=>⟨λB=>p _ _ (h.1 B G w n),λj E=>by
  have k:=h.2 j E;unfold OpC at k;unfold wpOpIn;split;.rename_i q;simp only[q]at k;exact qq4 m e p f _ _ _ C G w n k
  .rename_i o q;simp only[q]at k;cases hwt:Region.wanted o (yielded l a.tmps)with
   |false=>simp only[hwt]at k;rw[yA (by simp)];exact⟨λf _=>m.fn f,qq4 m e p f _ _ _ C G w n k⟩
   |true=>
    simp only[hwt]at k;rw[yB yR];split at k
    .obtain⟨s,mk,r,t⟩:=k;have x:qz1 P o a w λv w'=>v=mk w.heap.size/\w'=w.alloc s:=by unfold qz1;rw[newOf_run r w];exact⟨rfl,rfl⟩
     refine x.wpIn m (.inr (e _ _ q)) λv w' ⟨u,g⟩=>?_;subst u;subst g;exact qq4 m e p f _ _ _ _ G _ (C.new G w s n) (t w.heap.size)
    .obtain⟨v,r,t⟩:=k;have x:qz1 P o a w λz w'=>z=v/\w'=w:=by unfold qz1;rw[r w];exact⟨rfl,rfl⟩
     refine x.wpIn m (.inr (e _ _ q)) λz w' ⟨u,g⟩=>?_;subst u;subst g;exact qq4 m e p f _ _ _ C G _ n t
    .obtain⟨X,r,t⟩:=k;refine(r G w n).wpIn m (.inr (e _ _ q)) λv w' ⟨y,D,g⟩=>?_;exact qq4 m e p f _ _ _ y G w' g (t v y D).2⟩
def QJ(sl:List (Nat×Ty))(J:List Ab->Aa->Prop)(R:Ab->Aa->Prop):qh4:=λx e w=>match x with
 |.normal=>qa2 sl e λvs=>J vs w
 |.ret=>R (.tuple #[]) w
 |_=>False
def qzx{F:Fence}(K:qx4 F){P:Ce}{n f id:Nat}{b:Array Oper}{ord:List (Nat×Bool)}{Q:qh4}{z:Exit->Act->Aa->Prop}{e:Env}{w:Aa}{a:Act}(E:P.follows .mixedOrders=Ai)(G:Region.noSelect b=Ai)(A:Nat.ble ord.length b.size=Ai)(v:b.toList.all (λo=>!q7d o)=Ai)
 (h:qx8 P n (f+2) [.region id b Ai] (.draw ord .nil) Q e w) (J:q71 dfr n e a) (D:∀e' c w',Q .normal e' w'->q71 dfr n e' c->z .normal c w') (k:drawOk P b (qna b.toList []) ord (C8 b.size A8)=Ai:=by kernel_rfl):(Code.region id b Ai).wpIn F 0 P z a w:=by
 simp only[qx8,qa8]at h;simp only[Ann.ord,Ann.rest,Ann.two]at h;obtain⟨C,I,B⟩:=h;rw[<-drawC_eq _ _ k]at B;have A:=Nat.le_of_ble_eq_true A;have d:∀(l:List Oper) (i:Nat) (o:Oper),l[i]?=A0 o->∀t,q83 (quc l) t=A8->q83 o.dst.toList t=A8:=by
  intro l;induction l with
  |nil=>intro i o h;simp at h
  |cons x r ih=>
   intro i o h t u;simp only[quc]at u;cases i with
   |zero=>simp at h;subst h;exact qr2 u
   |succ i=>exact ih i o (by simpa using h) t (qyc u)
 have p:q37 b (C8 b.size A8):=λj o g L=>by
  rcases Nat.lt_or_ge j b.size with y|y;.simp[y]at L
  .simp[Array.getElem?_eq_none y]at g
 have key:=drawC_sound (Q:=λc w'=>z .normal c w') qsc G (quc b.toList) a (λi o g=>d b.toList i o (by simpa using g))
  (λe' c w' H m s=>D e' c w' H m) ord (b.size - ord.length) _ [] [] e C a B J (z16 _ _) p trivial (λx q=>by cases q) (λx q=>by cases q)
 rw[show ord.length+(b.size - ord.length)=b.size by omega]at key;refine wpIn_region_any E (qq4 K (λi o g=>q1e ?_) (λa w h=>h) _ _ _ _ C [] _ (C.drew _ _ I) key);have:=C1.1 v o (by simpa using B3 (l:=b.toList) (by simpa using g));simpa using this
end
end Go.Proofs.YtfjifcfbmhpcaaaGreatDoor
