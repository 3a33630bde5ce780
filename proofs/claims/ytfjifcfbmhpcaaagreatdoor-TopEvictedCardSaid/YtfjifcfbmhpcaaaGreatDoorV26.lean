/-
  A part of the proof of TopEvicted.
-/
import Derived.Test.YtfjifcfbmhpcaaaGreatDoorV25
import Derived.Test.YtfjifcfbmhpcaaaGreatDoorV03
import Derived.Test.YtfjifcfbmhpcaaaGreatDoorV23
import Derived.Test.YtfjifcfbmhpcaaaGreatDoorV15
import Derived.Test.YtfjifcfbmhpcaaaGreatDoorV21
import Derived.Test.YtfjifcfbmhpcaaaGreatDoorV16
import Derived.Test.YtfjifcfbmhpcaaaGreatDoorV00
set_option linter.defProp false
set_option linter.unusedVariables false
set_option linter.unusedSimpArgs false
namespace Go.Proofs.YtfjifcfbmhpcaaaGreatDoor
open Go
open Go.Proofs.Tryz renaming prog → Zp
open Go.IntKind renaming i64 → Zk, wrap → Zw
open Go.Addr renaming add → Za
open Go.Value renaming int → Zi, string → Zs, pointer → Zq, bool → Zb, tuple → Zt, slice → Zl, agg → Zg
open _root_.Prod renaming fst->A0,snd->A8
open _root_.Option renaming some->A1,none->A3,isSome_map->As,isNone_map->Bd,map_some->Bh
open _root_.List renaming length_append->A2,mem_map->A4,length_map->A5,getElem?_eq_getElem->A6,mem_cons_self->A7,map_cons->Aa,length_drop->Ad,drop_eq_getElem_cons->Ae,map_append->Af,take_of_length_le->Ag,map_map->Ah,getElem?_map->Ai,mem_cons_of_mem->Ak,eq_nil_of_length_eq_zero->An,take_append_of_le_length->Ap,length_take->Aw,length_cons->Ax,drop_length->Ay,perm_middle->Az,find?_cons->B1,length_nil->B2,take_append_drop->B3,getElem?_of_mem->B7,getElem?_take->B9,append_of_mem->Bb,drop_zero->Bi,mem_cons->Bl
open _root_.Option.some renaming inj->A9
open Go renaming Addr->Ab,Value->Ac,World->Am,TypeId->Bo
open Go.Proofs renaming ltOf->Aj
open _root_.Nat renaming add_mul->Ao,zero_add->B0,le_refl->B5,mul_le_mul_right->B6,lt_of_le_of_lt->Ba,zero_mul->Bc,mul_one->Bg,le_zero->Bm,sub_mul->Bn
open Go.Builtin renaming append_->Aq,firstCells->Ar,lenOf->Bj
open Go.Sort renaming putRow->Au,grow->Bf,ahead->Bp
open _root_.Bool renaming false->Av,true->B4,and_eq_true->Be
section
def qfm:List UInt8:=[115,117,98,119,97,121]
def Bk.new(c:qy):Bk:=⟨[],q39 c.tens,⟨c.grace,c.lease,0,[]⟩,[],⟨qfm,0,[]⟩,⟨[],[]⟩,⟨[],0⟩,⟨0,[]⟩,[],[],[]⟩
def q9x(ts:List qa4):∀y∈q39 ts,y.2.t∈ts:=by
 have key:∀(l:List qa4) (O:qz8) (P:qa4->Prop),(∀y∈O,P y.2.t)->(∀t∈l,P t)->∀y∈l.foldl (λO t=>qk O t.name (qhd t)) O,P y.2.t:=λl=>by
  induction l with
  |nil=>exact λO P h _=>h
  |cons t l ih=>
   intro O P c b;refine ih _ P (λy w=>?_) λt a=>b t (Ak _ a);rcases qh8 w with rfl|w;.exact b t A7
   .exact c y w
 exact key ts [] (·∈ts) (λy w=>by cases w) λt a=>a
def q3r{c:qy}(h:qj6 c=B4):(qa6 c.grace&&qa6 c.lease)=B4:=by
 unfold qj6 at h;by_cases w:(q28 c).all (λn=>q17 n 1 1073741824)=B4
 .unfold q28 q17 at w;simp only[Be,List.all_cons,yJ]at w;unfold qa6;simp only[Be,yJ];omega
 .rw[yB (by simpa using w)]at h;cases h
section
variable{W w:World}{F l:List Asn}{c:qy}{x m2 o:Nat}{p:qm3}{pl:List Nat}{sn:Option Nat}{s s':Bk}
def qoa{C:Cls}{l:List Asn}{b t:Nat}(k:Nat)(e:Is W C l)(m:nth l k=A1 (Row b t (qx3 c))):
 Qt C (Zg (qx3 c).toArray) λw K=>LdI Zk (Za ⟨b,0,A3⟩ 0) w λg=>LdI Zk (Za ⟨b,0,A3⟩ 1) w λn=>LdI Zk (Za ⟨b,0,A3⟩ 2) w λj=>LdI Zk (Za ⟨b,0,A3⟩ 3) w λi=>LdL (Za ⟨b,0,A3⟩ 4) w λo d f=>K (Zg #[Zi Zk g,Zi Zk n,Zi Zk j,Zi Zk i,Zl o d f]) w:=λG w h=>by
 have a:=e.at k m h;exact z8 0 a rfl rfl (z8 0 a rfl rfl (z8 0 a rfl rfl (z8 0 a rfl rfl (zr 0 a rfl rfl ⟨rfl,h⟩))))
def Ef.mk{P:Program}{f:FuncId}{args:Array Ac}{C:Cls}{Φ:Ac->Am->(Ac->Am->Prop)->Prop}{K:Ac->Cls->Prop}{A:Nat->Asn}(c:Is W C l)
 (a:∀G w,St W (l++pts G) w->qb P f args w λv w'=>∃b,v=qc b/\St W (A b::(l++pts G)) w')
 (d:∀b w' (K:Ac->Am->Prop),K (qc b) w'->Φ (qc b) w' K) (g:∀b,K (qc b) (StC W (A b::l))):Ef C (λw K=>qb P f args w λv w'=>Φ v w' K) K:=
 zk (α:=Nat) (V:=λb=>qc b) (B:=λb=>A b::l) 0 c (λG w h=>(a G w h).of λv w' ⟨b,e,h⟩=>by subst e;exact d b w' _ ⟨b,rfl,h⟩) g
set_option maxHeartbeats 1000000 in
def qwt(g:ql1 F c)(a:St W F w):qb Zp 12 #[Zg (qx3 c).toArray] w λv w'=>(qj6 c=Av/\v=Zq A3/\St W F w')\/(qj6 c=B4/\∃x p,v=qc x/\St W (brk c x p [] A3 (Bk.new c) F) w'):=by
 refine F12_of (zh a λB w a=>z8 0 a rfl rfl (z8 0 a rfl rfl (z8 0 a rfl rfl (z8 0 a rfl rfl (zr 0 a rfl rfl ((q4d (g.cons _) a).of λv w ⟨d,a⟩=>⟨_,d,za (λh=>.inl ⟨by simpa using h,rfl,a.drop⟩) λh=>?_⟩))))));have f:qj6 c=B4:=by simpa using h
 refine⟨StC W _,zd a,_,_,_,_,_,_,_,qoa 0 ir rfl,_,_,_,_,_,_,_,qoa 0 ir rfl,_,_,_,_,_,_,_,qoa 0 ir rfl,_,zi 0 ir rfl rfl,_,zi 0 ir rfl rfl,?_⟩;refine Ef.mk (A:=λb=>qg1 b c []) ir (λG w h=>(q4u ((g.app (pts G)).cons _) h).of λv w d=>?_) (λ_ _ _ h=>⟨_,rfl,h⟩) λk=>⟨_,rfl,⟨zi 1 ir rfl rfl,zi 1 ir rfl rfl,qoa 1 ir rfl,qoa 1 ir rfl⟩,?_⟩
 .rcases d with ⟨e,_⟩|⟨_,b,d,h⟩
  .rw[f]at e;cases e
  .exact⟨b,d,h⟩
 refine Ef.mk (A:=λb=>qv2 b (q39 c.tens)) ir (λG w h=>(qbu (((g.app (pts G)).cons _).cons _) h).of λv w d=>?_) (λ_ _ _ h=>⟨_,rfl,h⟩) λz=>⟨_,rfl,⟨zi 2 ir rfl rfl,zi 2 ir rfl rfl,qoa 2 ir rfl⟩,?_⟩
 .rcases d with ⟨e,_⟩|⟨_,b,d,h⟩
  .rw[f]at e;cases e
  .exact⟨b,d,h⟩
 refine Ef.mk (A:=λb=>q41 b ⟨c.grace,c.lease,0,[]⟩) ir (λG w h=>(qst c.grace c.lease h).of λv w d=>?_) (λ_ _ _ h=>⟨_,rfl,h⟩) λq=>⟨_,rfl,qoa 3 ir rfl,?_⟩
 .rcases d with ⟨e,_⟩|⟨_,b,d,h⟩
  .rw[q3r f]at e;cases e
  .exact⟨b,d,h⟩
 refine Ef.mk (A:=λb=>Qu.QueueA b []) ir (λG w h=>Qu.New_spec h) (λ_ _ _ h=>⟨_,rfl,h⟩) λu=>⟨_,rfl,qoa 4 ir rfl,?_⟩;refine Ef.mk (A:=λb=>q03 b ⟨qfm,0,[]⟩) ir (λG w h=>q5t qfm (by decide) h) (λ_ _ _ h=>⟨_,rfl,h⟩) λn=>⟨_,rfl,qoa 5 ir rfl,?_⟩;refine Ef.mk (A:=λb=>q13 b ⟨[],[]⟩) ir (λG w h=>PNew_spec h) (λ_ _ _ h=>⟨_,rfl,h⟩) λo=>⟨_,rfl,qoa 6 ir rfl,?_⟩;refine Ef.mk (A:=λb=>Cn.TabA b ⟨[],0⟩) ir (λG w h=>Cn.New_spec h) (λ_ _ _ h=>⟨_,rfl,h⟩) λs=>⟨_,rfl,qoa 7 ir rfl,?_⟩;refine Ef.mk (A:=λb=>Ck.ClockA b ⟨0,[]⟩) ir (λG w h=>Ck.New_spec h) (λ_ _ _ h=>⟨_,rfl,h⟩) λt=>⟨_,rfl,qoa 8 ir rfl,λj bx G w h=>?_⟩;have a:=((ir.push j _).push bx _).ends h;clear h;have a:=a.imp z0c;refine .inr ⟨f,bx,⟨k,z,q,u,n,o,s,t,j⟩,rfl,?_⟩;have a:=zl 11 [1,0,9,8,7,6,5,4,3,2] a rfl;have a:=(a.imp λh m=>qg.of_pt (ν:=Nat) (Zi Zk) qc m);have a:=z19 (A:=qo2 k []) (L:=[]) [] rfl (zj (l:=[]) a).p1;have a:=qg5.shut (q9x c.tens) (zf 3 0 a rfl);have a:St W (qa5 [] []::_) w:=zj (l:=[_,_]) (z01 rfl (zj (l:=[]) a));have i:qb3 ⟨[],0⟩ []:=⟨λid=>by rw[qsf];omega,λy r=>by cases r⟩;have a:St W (qs2 A3 ⟨[],0⟩ []::_) w:=zj (l:=[_,_]) (z01 i (z01 rfl a));exact zl 12 [4,5,2,6,7,8,9,10,11,3,0,1] a rfl
def qlo(b:s.P.ends.length<=1000000)(h:St W (brk c x p pl sn s F) w):qb Zp 16 #[qc x] w λv w'=>∃q a,v=Zl q (qw4 s.P).length a/\St W (brk c x p pl sn s (SlA 122 2 (q52 (qb4 s.P)) q a (qw4 s.P)::F)) w':=
 F16_of (z7 (z0k 0 h rfl rfl ((qfk b (h.at 6 rfl)).of λv w ⟨q,a,d,h⟩=>⟨_,_,_,d,q,a,rfl,z0v 12 (zf 1 7 h rfl)⟩)))
def qxz(h:St W (brk c x p pl sn s F) w):qb Zp 17 #[qc x] w λv w'=>∃q a,v=Zl q (q3h s.B.L).length a/\St W (brk c x p pl sn s (SlA 55 6 leV q a (q3h s.B.L)::F)) w':=
 F17_of (z7 (z0k 0 h rfl rfl ((qzj (h.at 3 rfl)).of λv w ⟨q,a,b,h⟩=>⟨_,_,_,b,q,a,rfl,z0v 12 (zf 1 4 h rfl)⟩)))
def qws(a:St W (brk c x p pl sn s F) w):qb Zp 31 #[qc x] w λv w'=>v=Zi Zk s.K.now/\St W (brk c x p pl sn s F) w':=
 F31_of (z7 (z0k 0 a rfl rfl (qb.p 8 a rfl (λh=>Ck.Now_spec h) λw a=>⟨_,rfl,rfl,a⟩)))
def qxy(name:ByteArray)(h:St W (brk c x p pl sn s F) w):qb Zp 19 #[qc x,Zs name] w λv w'=>∃q a,v=Zl q (Qu.gL s.Q name).length a/\St W (brk c x p pl sn s (SlA 3 1 iV q a (Qu.gL s.Q name)::F)) w':=
 F19_of (z7 (z0k 0 h rfl rfl ((Qu.List_spec name (h.at 4 rfl)).of λv w ⟨q,a,b,h⟩=>⟨_,_,_,b,q,a,rfl,z0v 12 (zf 1 5 h rfl)⟩)))
end
end
section
def q51(t:Bo)(size:Nat)(p:Option Ab)(n c:Nat)(cs:List Ac):Asn:=λh=>
 cs.length=n*size/\n<=c/\(c=0\/∃q o all,p=A1 ⟨q,o,A3⟩/\all.length=o+c*size/\(all.drop o).take (n*size)=cs/\Row q t all h)
section
variable{t:TypeId}{size:Nat}{p:Option Addr}{n c:Nat}{cs:List Value}{W w:World}{l:List Asn}
def q51.nil(t:Bo)(size:Nat)(p:Option Ab)(h:St W l w):St W (q51 t size p 0 0 []::l) w:=
 ⟨h.1,λ_=>A3,λb o a=>by(cases a),⟨by simp,B5 _,.inl rfl⟩,h.2⟩
def q51.of_row{q o:Nat}{all:List Ac}(a:all.length=o+c*size)(d:n<=c)(b:(all.drop o).take (n*size)=cs)(h:St W (Row q t all::l) w):St W (q51 t size (A1 ⟨q,o,A3⟩) n c cs::l) w:=
 h.imp λh e=>⟨by rw[<-b,Aw,Ad,a,Nat.add_sub_cancel_left];exact Nat.min_eq_left (B6 _ d),d,.inr ⟨q,o,all,rfl,a,b,e⟩⟩
def q51.rd(F:List Asn):Rd (q51 t size p n c cs::F) p cs:=λH e i v h=>by
 obtain⟨g,k,⟨d,j,a⟩,_⟩:=e;rcases a with rfl|⟨q,o,all,rfl,l,f,b⟩
 .have:cs=[]:=An (by rw[d,Bm.1 j,Bc]);subst this;simp at h
 .have w:all[o+i]?=A1 v:=by
   subst f;rw[B9]at h;split at h;.rwa[List.getElem?_drop]at h
   .cases h
  exact⟨_,rfl,by rw[qi1];exact q26 k (b.cell w)⟩
def q51.le(h:St W (q51 t size p n c cs::l) w):cs.length=n*size/\n<=c:=by obtain⟨_,g,_,⟨b,a,_⟩,_⟩:=h;exact⟨b,a⟩
def q51.from_{k:Nat}(m:k<=n)(h:St W (q51 t size p n c cs::l) w):St W (q51 t size (if c=k then p else p.map (·.add (k*size))) (n - k) (c - k) (cs.drop (k*size))::l) w:=by
 refine h.imp λh ⟨i,j,d⟩=>⟨by rw[Ad,i,Bn],by omega,?_⟩;by_cases a:c=k;.exact .inl (by omega)
 rw[yA a];rcases d with r|⟨q,o,all,g,e,f,b⟩;.omega
 refine .inr ⟨q,o+k*size,all,by rw[g,Bh,qi1],?_,?_,b⟩
 .rw[e,Nat.add_assoc,<-Ao];congr 2;omega
 .rw[<-f,List.drop_take,List.drop_drop,Bn]
end
section
variable{P:Program}{W w:World}{r:List Asn}{sT xT ty e:TypeId}{inf:TypeInfo}{z:Value}{size:Nat}{p:Option Addr}{n c m:Nat}{cs xs:List Value}{x:Value}
def qrl(h w xs:List Ac)(k:Nat):qm1 (h++w) (h.length+k) xs=h++qm1 w k xs:=by unfold qm1;rw[List.take_append,List.drop_append];have a:h.take (h.length+k)=h:=Ag (by omega);have b:h.drop (h.length+k+xs.length)=[]:=List.drop_eq_nil_of_le (by omega);rw[a,b,show h.length+k - h.length=k by omega,show h.length+k+xs.length - h.length=k+xs.length by omega];simp[List.append_assoc]
def qik(O:P.underlying sT=A1 (.slice e))(H:Src P xT)(Q:P.info? e=A1 inf)(U:inf.size=size)(hz:inf.zero=A1 z)(R:z.cells.size=size){F:Ac->Am->Prop}
 (A:St W (q51 e size p n c cs::r) w) (d:∀s,(Bj x).run P s=.ok m s) (i:∀s:Am,s.heap=w.heap->(Ar size m x).run P s=.ok xs.toArray s) (b:xs.length=m*size)
 (N:∀v∈xs,qn1 v) (hb:(n+m)*inf.bytes<=140737488355328) (K:((n+m:Nat):Int)<=9223372036854775807)
 (E:∀p' c' w',St W (q51 e size p' (n+m) c' (cs++xs)::r) w'->F (.slice p' (n+m) c') w'):
 Run P (Aq #[sT,xT] ty #[Zl p n c,x]) w F:=by
 have k:=q51.le A;by_cases h:n+m<=c
 .obtain⟨Z,g,V,⟨C,X,h4⟩,Y⟩:=A;rcases h4 with rfl|⟨q,o,all,rfl,hc,ht,hr⟩
  .have G:n=0:=by omega
   have M:m=0:=by omega
   subst G;subst M;have T:xs=[]:=An (by rw[b,Bc]);subst T;have:=q84 (P:=P) (w:=w) (w':=w) (p:=p) (n:=0) (m:=0) (c:=0) (xs:=[]) (ty:=ty) O H Q U (B5 _) d (i w rfl) (by cases p with|none=>exact .inl ⟨rfl,rfl⟩|some a=>exact .inr ⟨a,rfl,rfl⟩);exact⟨_,w,this,E p 0 w ⟨Z,g,V,⟨by simpa using C,B5 _,.inl rfl⟩,Y⟩⟩
  .have u:St W (Row q e all::r) w:=⟨Z,g,V,hr,Y⟩;have hle0:n*size+xs.length<=c*size:=by rw[b,<-Ao];exact B6 _ h
   have t:o+n*size+xs.length<=all.length:=by omega
   obtain⟨w',J,f⟩:=qu4 (P:=P) (o:=o+n*size) xs 0 all w u (by omega) N;rw[Nat.add_zero,qo8 _ _ _ t]at f;have hsp:all=all.take o++all.drop o:=(B3 o all).symm;have B:(all.take o).length=o:=by rw[Aw];omega
   have y:qm1 all (o+n*size) xs=all.take o++qm1 (all.drop o) (n*size) xs:=by have:=qrl (all.take o) (all.drop o) xs (n*size);rwa[B,B3]at this
   have:=q84 (P:=P) (w:=w) (w':=w') (p:=A1 ⟨q,o,A3⟩) (n:=n) (m:=m) (c:=c) (ty:=ty) O H Q U h d (i w rfl) (.inr ⟨_,rfl,by rw[qi1];exact J⟩);refine⟨_,w',this,E _ c w' (q51.of_row ?_ h ?_ f)⟩;.rw[q94 _ _ _ t,hc]
   .rw[y,List.drop_left' B];have hdl:(all.drop o).length=c*size:=by rw[Ad];omega
    unfold qm1;have I:(n+m)*size=n*size+xs.length:=by rw[b,Ao]
    have l1:((all.drop o).take (n*size)).length=n*size:=by rw[Aw];omega
    rw[I,<-ht,Ap (by rw[A2];omega),Ag (by rw[A2];omega)]
 .have l:(Ar size n (Zl p n c)).run P w.drew=.ok cs.toArray w.drew:=by
   refine qw3 (λj v hj=>?_) k.1 λhp=>?_;.exact(q51.rd r).of A.draws hj
   .obtain⟨_,g,_,⟨V,C,X⟩,_⟩:=A;rcases X with rfl|⟨q,o,all,hq,_⟩;.rw[Bm.1 C,Bc]
    .rw[hp]at hq;cases hq
  have:=qo6 (P:=P) (w:=w) (x:=x) (n:=n) (m:=m) (c:=c) (ty:=ty) O H Q U hz h d (i w.drew rfl) l K (growslice_fits (by omega) hb);have D:=grownCap_ge w (n+m) c e;have f:=St.allocRow (St.draws A).drop (cs.toArray++xs.toArray++Builtin.zeroCells z.cells (grownCap w (n+m) c e -(n+m))) e;refine⟨_,_,this,E _ _ _ (q51.of_row ?_ D ?_ f)⟩
  .have L:=qm5 z.cells (grownCap w (n+m) c e -(n+m));simp only[Array.toList_append,A2,k.1,b,Array.length_toList,L,R];rw[<-Ao,<-Ao,B0];congr 1;omega
  .have I:(n+m)*size=(cs++xs).length:=by rw[A2,k.1,b,Ao]
   rw[I,Bi];simp only[Array.toList_append];rw[Ap (by simp),Ag (by simp)]
def q5i(C:P.underlying sT=A1 (.slice e))(x:Src P xT)(D:P.info? e=A1 inf)(H:inf.size=size)(B:inf.zero=A1 z)(g:z.cells.size=size){sp:Option Ab}{sc:Nat}{F:Ac->Am->Prop}
 (k:St W (q51 e size p n c cs::r) w) (l:Rd r sp xs) (h:xs.length=m*size)
 (f:∀v∈xs,qn1 v) (A:(n+m)*inf.bytes<=140737488355328) (d:((n+m:Nat):Int)<=9223372036854775807)
 (u:∀q o w',St W (q51 e size q (n+m) o (cs++xs)::r) w'->F (.slice q (n+m) o) w'):
 Run P (Aq #[sT,xT] ty #[Zl p n c,Zl sp m sc]) w F:=
 qik C x D H B g k (λs=>rfl) (λs t=>qw3 (λj v E=>by
  obtain⟨a,b,G⟩:=(l.cons _).of k E;exact⟨a,b,by rw[<-G];unfold World.cell?;rw[t]⟩) h (λy=>by
  rcases xs with _|⟨v,xs⟩;.simpa using h.symm
  .obtain⟨a,b,_⟩:=(l.cons _).of k (i:=0) (v:=v) rfl;rw[y]at b;cases b)) h f A d u
def q8o(i:P.underlying sT=A1 (.slice e))(o:P.underlying xT=A1 .string)(j:P.info? e=A1 inf)(t:inf.size=1)(m:inf.zero=A1 z)(a:z.cells.size=1){l:List UInt8}{F:Ac->Am->Prop}
 (f:St W (q51 e 1 p n c cs::r) w) (q:(n+l.length)*inf.bytes<=140737488355328) (h:((n+l.length:Nat):Int)<=9223372036854775807)
 (g:∀d b w',St W (q51 e 1 d (n+l.length) b (cs++l.map qd)::r) w'->F (.slice d (n+l.length) b) w'):
 Run P (Aq #[sT,xT] ty #[Zl p n c,Zs (mkS l)]) w F:=
 qik i (.inl o) j t m a f (λs=>by simp[Bj,qf1]) (λs u=>by
  have k:(mkS l).extract 0 l.length=mkS l:=by apply ByteArray.ext;simp[mkS,ByteArray.data_extract]
  simp only[Ar,k,Sem.run_pure];congr 1;apply Array.ext';simp[mkS,qd,Function.comp_def]) (by simp) q82 q h g
end
end
section
def erL(d:LD):LD:={ d with b:=0}
def erG(G:AG):AG:={ G with L:=G.L.map erL}
def q9p(no:Int):∀L:List LD,(L.map erL).find? (λd=>decide (d.no=no))=(L.find? λd=>decide (d.no=no)).map erL
 |[]=>rfl
 |d::r=>by rw[Aa,B1,B1,q9p no r];show(match decide (d.no=no)with|true=>A1 (erL d)|false=>_)=_;cases decide (d.no=no)<;>rfl
def qga(G:AG)(no:Int):qg2 (erG G) no=(qg2 G no).map erL:=q9p no G.L
def qpg(G:AG)(no:Int)(st:Nat):erG (setSt G no st)=setSt (erG G) no st:=by
 unfold erG setSt;simp only[Ah];congr 1;refine List.map_congr_left λd _=>?_;show erL (if d.no=no then { d with st:=st}else d)=if(erL d).no=no then { erL d with st:=st}else erL d
 by_cases h:d.no=no;.rw[yB h,yB (show(erL d).no=no from h)];rfl
 .rw[yA h,yA (show ¬(erL d).no=no from h)]
def qcn(P:qe1)(G:AG)(no:Int)(tk:ByteArray)(b:Nat):(erG (qp4 P G no tk b).1,(qp4 P G no tk b).2)=qp4 P (erG G) no tk 0:=by unfold qp4 erG;simp[erL]
def q7k(P:qe1)(G:AG)(b:Nat):(erG (qo3 P G b).1,(qo3 P G b).2)=qo3 P (erG G) 0:=by
 unfold qo3;rw[qga,As];split;.rfl
 .exact qcn _ _ _ _ _
def qtq(P:qe1)(G:AG)(m:qk1)(now:Int)(b:Nat):(erG (qe2 P G m now b).1,(qe2 P G m now b).2)=qe2 P (erG G) m now 0:=by
 obtain⟨held,epoch,last,next,L⟩:=G;unfold qe2;simp only[show(erG ⟨held,epoch,last,next,L⟩).held=held from rfl,show(erG ⟨held,epoch,last,next,L⟩).epoch=epoch from rfl,show(erG ⟨held,epoch,last,next,L⟩).next=next from rfl];by_cases a:m.A=P.nam/\m.k=7;.simp only[yB a];rfl
 simp only[yA a];by_cases w:m.A=P.nam/\m.k=10/\held=B4/\m.N=epoch;.simp only[yB w];rfl
 simp only[yA w];by_cases h:m.A=P.nam/\m.k=11/\next<1000
 .simp only[yB h];exact qcn P ⟨held,epoch,last,next+1,L⟩ _ _ _
 .simp only[yA h]
def qcx(P:qe1)(G:AG)(no:Int)(m:qk1)(now:Int)(b:Nat):(erG (q22 P G no m now b).1,(q22 P G no m now b).2)=q22 P (erG G) no m now 0:=by
 unfold q22;rw[qga];cases qg2 G no with
 |none=>rfl
 |some d=>
  simp only[Bh,erL];split;.rfl
  split
  .split;.rw[qpg]
   .rfl
  split
  .split
   .split;.rw[qpg]
    .rw[qpg]
   .rfl
  .exact qtq _ _ _ _ _
def qio(G:AG)(no:Int):qh5 (erG G) no=qh5 G no:=by unfold qh5;rw[qga];cases qg2 G no<;>rfl
def qdv(P:qe1)(G:AG)(now:Int)(b:Nat):(erG (qd3 P G now b).1,(qd3 P G now b).2)=qd3 P (erG G) now 0:=by
 unfold qd3;rw[qga,qio,Bd];split;.exact q7k _ _ _
 .simp only[show(erG G).held=G.held from rfl,show(erG G).last=G.last from rfl];by_cases h:qh5 G 0=B4/\G.held=B4/\q14 now/\¬now - G.last<P.every;.simp only[yB h];rfl
  .simp only[yA h]
def qbv(G:AG)(no:Int):(erG (qn6 G no).1,(qn6 G no).2)=qn6 (erG G) no:=by
 unfold qn6;rw[qga,Bd];split;.rfl
 .split;.rfl
  .unfold erG;simp only[List.filter_map];rfl
def AgW(a:Nat)(P:qe1)(g:AG):Asn:=exA λG:AG=>qz [prA (erG G=g),qv a P G]
def qb2(c:qy)(x:Nat)(p:qm3)(s:Bk):Asn:=exA λy:List Nat×Option Nat=>qz (brk c x p y.1 y.2 s [])
section
variable{W w:World}{F l:List Asn}{c:qy}{x a n:Nat}{p:qm3}{s s':Bk}{e:EvD}{P:qe1}{g:AG}{out:qra}
def qb2.open_(h:St W (qb2 c x p s::F) w):∃pl a,St W (brk c x p pl a s F) w:=by obtain⟨y,h⟩:=h.of_ex;exact⟨y.1,y.2,h.of_sep⟩
def qb2.shut{pl:List Nat}{a:Option Nat}(h:St W (brk c x p pl a s F) w):St W (qb2 c x p s::F) w:=z00 (pl,a) (zj (l:=brk c x p pl a s []) h)
def qar(f:ql1 F c)(i: -9223372036854775808<=e.n/\e.n<=9223372036854775807)(d:s.step c n e=A1 (s',out))(h:St W (qb2 c x p s::F) w):qb Zp 15 #[qc x,Zg (evV e).toArray] w λv w'=>
 ∃q a,v=Zg #[Zi Zk out.err,Zi Zk out.conn,Zi Zk out.took,Zl q out.sent.length a]/\St W (SlA 38 4 q21 q a out.sent::qb2 c x p s'::F) w':=by
 obtain⟨pl,j,h⟩:=qb2.open_ h;refine(qau f i d h).of λv w ⟨pl,j,q,a,g,h⟩=>⟨q,a,g,?_⟩;have b:=qb2.shut h;exact b.p1
def qxj(h:St W (qb2 c x p s::F) w):qb Zp 31 #[qc x] w λv w'=>v=Zi Zk s.K.now/\St W (qb2 c x p s::F) w':=by obtain⟨pl,b,h⟩:=qb2.open_ h;exact(qws h).of λv w ⟨a,h⟩=>⟨a,qb2.shut h⟩
def qdo(b:s.P.ends.length<=1000000)(h:St W (qb2 c x p s::F) w):qb Zp 16 #[qc x] w λv w'=>∃q a,v=Zl q (qw4 s.P).length a/\St W (SlA 122 2 (q52 (qb4 s.P)) q a (qw4 s.P)::qb2 c x p s::F) w':=by obtain⟨pl,e,h⟩:=qb2.open_ h;exact(qlo b h).of λv w ⟨q,a,d,h⟩=>⟨q,a,d,(qb2.shut h).p1⟩
def AgW.open_(h:St W (AgW a P g::F) w):∃G,erG G=g/\St W (qv a P G::F) w:=by obtain⟨G,h⟩:=h.of_ex;obtain⟨c,b⟩:=h.of_sep.of_pr;exact⟨G,c,b⟩
def AgW.shut{G:AG}(b:erG G=g)(h:St W (qv a P G::F) w):St W (AgW a P g::F) w:=z00 G (zj (l:=[_,_]) (z01 b h))
def qrq(P:qe1)(c:qv8 P)(h:St W F w):qb Zp 51 #[Zg #[Zs P.ten,Zs P.tok,Zs P.sec,Zs P.nam,Zi Zk P.ttl,Zi Zk P.every]] w λv w'=>∃a,v=qc a/\St W (AgW a P ⟨Av,0,0,1,[]⟩::F) w':=
 (New_spec P c h).of λv w ⟨a,b,h⟩=>⟨a,b,AgW.shut rfl h⟩
def qeo(h:St W (AgW a P g::F) w):qb Zp 52 #[qc a] w λv w'=>∃q c,v=Zl q (qo3 P g 0).2.length c/\St W (qm2 q c (qo3 P g 0).2::AgW a P (qo3 P g 0).1::F) w':=by obtain⟨G,j,k⟩:=AgW.open_ h;clear h;subst j;refine(qii k).of λv w ⟨q,c,b,i,h⟩=>?_;have e:=q7k P G b;have f:=yE A0 e;have d:=yE A8 e;simp only at f d;rw[<-d];exact⟨q,c,i,(AgW.shut f h.p1).p1⟩
def qzp(no:Int)(m:qk1)(now:Int)(h:St W (AgW a P g::F) w):qb Zp 105 #[qc a,Zi Zk no,ql2 m,Zi Zk now] w λv w'=>∃q c,v=Zl q (q22 P g no m now 0).2.length c/\St W (qm2 q c (q22 P g no m now 0).2::AgW a P (q22 P g no m now 0).1::F) w':=by obtain⟨G,j,k⟩:=AgW.open_ h;clear h;subst j;refine(qus no m now k).of λv w ⟨q,c,b,i,h⟩=>?_;have e:=qcx P G no m now b;have f:=yE A0 e;have d:=yE A8 e;simp only at f d;rw[<-d];exact⟨q,c,i,(AgW.shut f h.p1).p1⟩
def qpr(now:Int)(h:St W (AgW a P g::F) w):qb Zp 30 #[qc a,Zi Zk now] w λv w'=>∃q c,v=Zl q (qd3 P g now 0).2.length c/\St W (qm2 q c (qd3 P g now 0).2::AgW a P (qd3 P g now 0).1::F) w':=by obtain⟨G,j,k⟩:=AgW.open_ h;clear h;subst j;refine(Tick_spec now k).of λv w ⟨q,c,b,i,h⟩=>?_;have e:=qdv P G now b;have f:=yE A0 e;have d:=yE A8 e;simp only at f d;rw[<-d];exact⟨q,c,i,(AgW.shut f h.p1).p1⟩
def q0q(no:Int)(h:St W (AgW a P g::F) w):qb Zp 106 #[qc a,Zi Zk no] w λv w'=>v=Zb (qn6 g no).2/\St W (AgW a P (qn6 g no).1::F) w':=by obtain⟨G,f,i⟩:=AgW.open_ h;clear h;subst f;refine(q8t no i).of λv w ⟨d,h⟩=>?_;have e:=qbv G no;have c:=yE A0 e;have b:=yE A8 e;simp only at c b;rw[<-b];exact⟨d,AgW.shut c h⟩
end
end
section
def lnC(l:qn)(w:Option Ab)(h:Nat)(b:Option Ab)(a:Nat):List Ac:=[Zi Zk l.no,Zi Zk l.conn,Zl w l.came.length h,Zl b l.back.length a,Zb l.en,Zb l.raw]
def qp1(b:Nat)(l:qn):Asn:=exA λy:Option Ab×Nat×Option Ab×Nat=>qz [Row b 140 (lnC l y.1 y.2.1 y.2.2.1 y.2.2.2),q51 5 1 y.1 l.came.length y.2.1 (l.came.map qd),q51 5 1 y.2.2.1 l.back.length y.2.2.2 (l.back.map qd)]
structure qb5 where
 bx:Nat
 a:Nat
 ml:Nat
 ms:Nat
 p:qm3
def qb8(q:qb5)(rp:Option Ab)(rc n:Nat)(draw:ByteArray):List Ac:=[qc q.bx,qc q.a,.map (A1 q.ml),Zl rp n rc,.map (A1 q.ms),Zs draw]
@[reducible] def q6h (h:Asn) (c:qy) (P:qe1) (x:Nat) (q:qb5) (rp:Option Ab) (rc:Nat) (v:Wd) (F:List Asn):List Asn:=
 Row x 81 (qb8 q rp rc v.row.length v.draw)::qb2 c q.bx q.p v.b::AgW q.a P v.g::h::q51 38 4 rp v.row.length rc (v.row.flatMap q21)::qg (Zi Zk) qr1 q.ms v.S::F
def qx1(o:List (Int×Nat))(m:Nat)(L:List (Int×qn)):Asn:=exA λbs:List (Int×Nat×qn)=>qz [prA (qx (A8 (α:=Nat) (β:=qn)) bs=L/\∀y∈o,∃d,qe bs y.1=A1 (y.2,d)),qg (Zi Zk) qc m (qx (A0 (α:=Nat) (β:=qn)) bs),qz (bs.map λy=>qp1 y.2.1 y.2.2)]
def ql5(o:List (Int×Nat))(m:Nat)(L:List (Int×qn))(k:Int)(b:Nat):Asn:=exA λbs:List (Int×Nat×qn)=>qz [prA (qx (A8 (α:=Nat) (β:=qn)) bs=L/\(∀y∈o,∃d,qe bs y.1=A1 (y.2,d))/\∃d,qe bs k=A1 (b,d)),qg (Zi Zk) qc m (qx (A0 (α:=Nat) (β:=qn)) bs),qz ((qp bs k).map λy=>qp1 y.2.1 y.2.2)]
@[reducible] def wld (o:List (Int×Nat)) (c:qy) (P:qe1) (x:Nat) (q:qb5) (rp:Option Ab) (rc:Nat) (v:Wd) (F:List Asn):List Asn:=q6h (qx1 o q.ml v.lines) c P x q rp rc v F
@[reducible] def qj9 (o:List (Int×Nat)) (k:Int) (b:Nat) (c:qy) (P:qe1) (x:Nat) (q:qb5) (rp:Option Ab) (rc:Nat) (v:Wd) (F:List Asn):List Asn:=q6h (ql5 o q.ml v.lines k b) c P x q rp rc v F
def q1j:Zp.underlying 78=A1 (.map 3 75):=Tryz.underlying78
def qwv:Zp.info? 75=A1 Tryz.t75:=by kernel_rfl
def q8x:Tryz.t75.zero=A1 (Zq A3):=rfl
section
variable{W w:World}{F l:List Asn}{c:qy}{P:qe1}{x b:Nat}{q:qb5}{rp:Option Addr}{rc n:Nat}{v v':Wd}{e:EvD}{out_:qra}{L:qn}
def qp1.open_(h:St W (qp1 b L::F) w):∃c a e d,St W (Row b 140 (lnC L c a e d)::q51 5 1 c L.came.length a (L.came.map qd)::q51 5 1 e L.back.length d (L.back.map qd)::F) w:=by obtain⟨⟨c,a,e,d⟩,h⟩:=h.of_ex;exact⟨c,a,e,d,h.of_sep⟩
def qp1.shut{c e:Option Ab}{a d:Nat}(h:St W (Row b 140 (lnC L c a e d)::q51 5 1 c L.came.length a (L.came.map qd)::q51 5 1 e L.back.length d (L.back.map qd)::F) w):St W (qp1 b L::F) w:=
 z00 (c,a,e,d) (zj (l:=[_,_,_]) h)
variable{o:List (Int×Nat)}{m:Nat}{k:Int}{Ls:List (Int×qn)}
def qx1.open_(h:St W (qx1 o m Ls::F) w):∃bs:List (Int×Nat×qn),(qx (A8 (α:=Nat) (β:=qn)) bs=Ls/\∀y∈o,∃d,qe bs y.1=A1 (y.2,d))/\St W (qg (Zi Zk) qc m (qx (A0 (α:=Nat) (β:=qn)) bs)::qz (bs.map λy=>qp1 y.2.1 y.2.2)::F) w:=by obtain⟨bs,h⟩:=h.of_ex;exact⟨bs,h.of_sep.of_pr⟩
def qx1.shut{bs:List (Int×Nat×qn)}(b:qx (A8 (α:=Nat) (β:=qn)) bs=Ls)(a:∀y∈o,∃d,qe bs y.1=A1 (y.2,d))(h:St W (qg (Zi Zk) qc m (qx (A0 (α:=Nat) (β:=qn)) bs)::qz (bs.map λy=>qp1 y.2.1 y.2.2)::F) w):St W (qx1 o m Ls::F) w:=
 z00 bs (zj (l:=[_,_,_]) (z01 ⟨b,a⟩ h))
def ql5.open_(h:St W (ql5 o m Ls k b::F) w):∃bs:List (Int×Nat×qn),(qx (A8 (α:=Nat) (β:=qn)) bs=Ls/\(∀y∈o,∃d,qe bs y.1=A1 (y.2,d))/\∃d,qe bs k=A1 (b,d))/\St W (qg (Zi Zk) qc m (qx (A0 (α:=Nat) (β:=qn)) bs)::qz ((qp bs k).map λy=>qp1 y.2.1 y.2.2)::F) w:=by obtain⟨bs,h⟩:=h.of_ex;exact⟨bs,h.of_sep.of_pr⟩
def ql5.shut{bs:List (Int×Nat×qn)}(c:qx (A8 (α:=Nat) (β:=qn)) bs=Ls)(a:∀y∈o,∃d,qe bs y.1=A1 (y.2,d))(e:∃d,qe bs k=A1 (b,d))(h:St W (qg (Zi Zk) qc m (qx (A0 (α:=Nat) (β:=qn)) bs)::qz ((qp bs k).map λy=>qp1 y.2.1 y.2.2)::F) w):St W (ql5 o m Ls k b::F) w:=
 z00 bs (zj (l:=[_,_,_]) (z01 ⟨c,a,e⟩ h))
def qx1.forget{y:Int×Nat}(h:St W (qx1 (y::o) m Ls::F) w):St W (qx1 o m Ls::F) w:=by obtain⟨bs,⟨c,b⟩,h⟩:=qx1.open_ h;exact qx1.shut c (λz a=>b z (Ak _ a)) h
def qx1.take(g:(k,b)∈o)(e:qe Ls k=A1 L)(h:St W (qx1 o m Ls::F) w):St W (qp1 b L::ql5 o m Ls k b::F) w:=by obtain⟨bs,⟨j,c⟩,i⟩:=qx1.open_ h;clear h;subst j;obtain⟨d,a⟩:=c _ g;rw[q62,a]at e;cases e;have h:=i;have l:=qf5 ((Go.Proofs.YtfjifcfbmhpcaaaGreatDoor.aget_perm a).map λy:Int×Nat×qn=>qp1 y.2.1 y.2.2) h.p1;have f:St W (qg (Zi Zk) qc m (qx (A0 (α:=Nat) (β:=qn)) bs)::qz ((qp bs k).map λy=>qp1 y.2.1 y.2.2)::qp1 b d::F) w:=zl 3 [2,1,0] l rfl;exact(ql5.shut rfl c ⟨d,a⟩ f).p1
def ql5.give(h:St W (qp1 b L::ql5 o m Ls k b::F) w):St W (qx1 o m (qk Ls k L)::F) w:=by
 obtain⟨bs,⟨p,a,d,f⟩,n⟩:=ql5.open_ h.p1;clear h;subst p;have h:=n;have e:qx (A0 (α:=Nat) (β:=qn)) (qk bs k (b,L))=qx (A0 (α:=Nat) (β:=qn)) bs:=by rw[<-qt2];exact qt1 (by rw[q62,f];rfl)
 refine qx1.shut (bs:=qk bs k (b,L)) (qt2 (A8 (α:=Nat) (β:=qn)) bs k (b,L)).symm (λy c=>?_) ?_
 .rw[qh2];split
  .rename_i j;obtain⟨q,g⟩:=a y c;rw[<-j,f]at g;exact⟨L,by cases g;rfl⟩
  .exact a y c
 .rw[e];have i:St W (qp1 b L::qz ((qp bs k).map λy=>qp1 y.2.1 y.2.2)::qg (Zi Zk) qc m (qx (A0 (α:=Nat) (β:=qn)) bs)::F) w:=zl 3 [2,1,0] h rfl;refine(q95 (l:=(qk bs k (b,L)).map λy=>qp1 y.2.1 y.2.2) ?_ i).p1;have:=(Go.Proofs.YtfjifcfbmhpcaaaGreatDoor.aget_perm (qj1 bs k (b,L))).map λy:Int×Nat×qn=>qp1 y.2.1 y.2.2;rw[adel_aset]at this;exact this.symm
def q2r{α:Type}{Pr:Program}{sT xT ty b:Bo}{a:TypeInfo}{z:Ac}{size:Nat}{f:α->List Ac}{p sp:Option Ab}{n sc m:Nat}{os xs:List α}{K:Ac->Am->Prop}(q:∀x,(f x).length=size)(y:Pr.underlying sT=A1 (.slice b))(e:Src Pr xT)(A:Pr.info? b=A1 a)(F:a.size=size)(u:a.zero=A1 z)(i:z.cells.size=size)
 (k:Nat) (C:St W l w) (j:nth l k=A1 (q51 b size p os.length n (os.flatMap f))) (r:Rd (del l k) sp (xs.flatMap f)) (D:m=xs.length) (g:∀x,∀v∈f x,qn1 v)
 (t:(os.length+xs.length)*a.bytes<=140737488355328) (s:os.length+xs.length<=9223372036854775807)
 (o:∀d c w',St W (put l k [q51 b size d (os++xs).length c ((os++xs).flatMap f)]) w'->K (.slice d (os++xs).length c) w'):
 Run Pr (Aq #[sT,xT] ty #[Zl p os.length n,Zl sp m sc]) w K:=by
 subst D;refine q5i y e A F u i (C.at k j) r (qh3 f size q xs) (λv E=>?_) t (by omega) λd c w' h=>?_
 .obtain⟨x,_,e⟩:=List.mem_flatMap.1 E;exact g x v e
 .rw[<-List.flatMap_append,<-A2]at h;have:=o d c w' (z05 k j (B:=[_]) h);rwa[A2]at this
def Ef.outd{C:Cls}{K:Ac->Cls->Prop}{b:Nat}{a0 d a2:Int}{p:Option Ab}{n c:Nat}(k:Nat)(e:Is W C l)(f:K (Zt #[]) (StC W (ins k (Row b 32 [Zi Zk a0,Zi Zk d,Zi Zk a2,Zl p n c]) l))):
 Ef (Cls.push C (b,.cells #[(Zi Zk 0),(Zi Zk 0),(Zi Zk 0),(Zl A3 0 0)] 32)) (λw K=>
  St1 (Za ⟨b,0,A3⟩ 0) (Zi Zk a0) w λw=>St1 (Za ⟨b,0,A3⟩ 1) (Zi Zk d) w λw=>St1 (Za ⟨b,0,A3⟩ 2) (Zi Zk a2) w λw=>
  St1 (Za ⟨b,0,A3⟩ 3) (Zl p n c) w λw=>K (Zt #[]) w) K:=
 zk (α:=Unit) (V:=λ_=>Zt #[]) (B:=λ_=>ins k (Row b 32 [Zi Zk a0,Zi Zk d,Zi Zk a2,Zl p n c]) l) () (e.push b _) (λG w h=>by have a:=h.imp z0c;exact St1.zz 0 a rfl λw a=>St1.zz 0 a rfl λw a=>St1.zz 0 a rfl λw a=>St1.zz 0 a rfl λw a=>⟨(),rfl,by have a:St W (Row b 32 [Zi Zk a0,Zi Zk d,Zi Zk a2,Zl p n c]::l++pts G) w:=a;exact a.perm ((qh7 k _ l).append_right _)⟩) λ_=>f
def Ef.sent{C:Cls}{K:Ac->Cls->Prop}{b:Nat}(k:Nat)(c:Is W C l)(d:q81)(e:K (Zt #[]) (StC W (ins k (Row b 38 (q21 d)) l))):
 Ef (Cls.push C (b,.cells #[(Zi Zk 0),(Zs ⟨#[]⟩),(Zb Av),(Zb Av)] 38)) (λw K=>
  St1 (Za ⟨b,0,A3⟩ 0) (Zi Zk d.conn) w λw=>St1 (Za ⟨b,0,A3⟩ 1) (Zs d.b) w λw=>St1 (Za ⟨b,0,A3⟩ 2) (Zb d.e) w λw=>
  St1 (Za ⟨b,0,A3⟩ 3) (Zb d.c) w λw=>K (Zt #[]) w) K:=
 zk (α:=Unit) (V:=λ_=>Zt #[]) (B:=λ_=>ins k (Row b 38 (q21 d)) l) () (c.push b _) (λG w h=>by have a:=h.imp z0c;exact St1.zz 0 a rfl λw a=>St1.zz 0 a rfl λw a=>St1.zz 0 a rfl λw a=>St1.zz 0 a rfl λw a=>⟨(),rfl,by have a:St W (Row b 38 (q21 d)::l++pts G) w:=a;exact a.perm ((qh7 k _ l).append_right _)⟩) λ_=>e
def aggE{C:Cls}{l:List Asn}{b t:Nat}{e:EvD}(k:Nat)(d:Is W C l)(m:nth l k=A1 (Row b t (evV e))):
 Qt C (Zg (evV e).toArray) λw K=>LdI Zk (Za ⟨b,0,A3⟩ 0) w λg=>LdI Zk (Za ⟨b,0,A3⟩ 1) w λn=>LdI .u32 (Za ⟨b,0,A3⟩ 2) w λj=>LdS (Za ⟨b,0,A3⟩ 3) w λi=>LdI Zk (Za ⟨b,0,A3⟩ 4) w λp=>LdS (Za ⟨b,0,A3⟩ 5) w λc=>LdS (Za ⟨b,0,A3⟩ 6) w λf=>LdS (Za ⟨b,0,A3⟩ 7) w λo=>K (Zg #[Zi Zk g,Zi Zk n,Zi .u32 j,Zs i,Zi Zk p,Zs c,Zs f,Zs o]) w:=λG w h=>by
 have a:=d.at k m h;exact z8 0 a rfl rfl (z8 0 a rfl rfl (z8 0 a rfl rfl (zg 0 a rfl rfl (z8 0 a rfl rfl (zg 0 a rfl rfl (zg 0 a rfl rfl (zg 0 a rfl rfl ⟨rfl,h⟩)))))))
def aggS{C:Cls}{l:List Asn}{b t:Nat}{d:q81}(k:Nat)(c:Is W C l)(i:nth l k=A1 (Row b t (q21 d))):
 Qt C (Zg (q21 d).toArray) λw K=>LdI Zk (Za ⟨b,0,A3⟩ 0) w λe=>LdS (Za ⟨b,0,A3⟩ 1) w λj=>LdB (Za ⟨b,0,A3⟩ 2) w λg=>LdB (Za ⟨b,0,A3⟩ 3) w λf=>K (Zg #[Zi Zk e,Zs j,Zb g,Zb f]) w:=λG w h=>by
 have a:=c.at k i h;exact z8 0 a rfl rfl (zg 0 a rfl rfl (zx 0 a rfl rfl (zx 0 a rfl rfl ⟨rfl,h⟩)))
end
end
section
section
variable{W w:World}{F l:List Asn}{c:qy}{P:qe1}{x b:Nat}{q:qb5}{rp:Option Addr}{rc n:Nat}{v v':Wd}{e:EvD}{out:qra}{L:qn}
variable{o:List (Int×Nat)}{k:Int}
def wld.open_(h:St W (wld o c P x q rp rc v F) w):∃bs:List (Int×Nat×qn),(qx (A8 (α:=Nat) (β:=qn)) bs=v.lines/\∀y∈o,∃d,qe bs y.1=A1 (y.2,d))/\St W (q6h (qg (Zi Zk) qc q.ml (qx (A0 (α:=Nat) (β:=qn)) bs)) c P x q rp rc v (qz (bs.map λy=>qp1 y.2.1 y.2.2)::F)) w:=by obtain⟨bs,a,h⟩:=qx1.open_ (zf 3 0 h rfl);exact⟨bs,a,zl 7 [2,3,4,0,5,6,1] h rfl⟩
def wld.shut{bs:List (Int×Nat×qn)}(b:qx (A8 (α:=Nat) (β:=qn)) bs=v.lines)(a:∀y∈o,∃d,qe bs y.1=A1 (y.2,d))(h:St W (q6h (qg (Zi Zk) qc q.ml (qx (A0 (α:=Nat) (β:=qn)) bs)) c P x q rp rc v (qz (bs.map λy=>qp1 y.2.1 y.2.2)::F)) w):St W (wld o c P x q rp rc v F) w:=
 zl 6 [1,2,3,0,4,5] (qx1.shut b a (zl 7 [3,6,0,1,2,4,5] h rfl)) rfl
def wld.forget{y:Int×Nat}(h:St W (wld (y::o) c P x q rp rc v F) w):St W (wld o c P x q rp rc v F) w:=
 zl 6 [1,2,3,0,4,5] (qx1.forget (zf 3 0 h rfl)) rfl
def wld.take(g:(k,b)∈o)(i:qe v.lines k=A1 L)(h:St W (wld o c P x q rp rc v F) w):∃f e d a,St W (qj9 o k b c P x q rp rc v (Row b 140 (lnC L f e d a)::q51 5 1 f L.came.length e (L.came.map qd)::q51 5 1 d L.back.length a (L.back.map qd)::F)) w:=by obtain⟨f,e,d,a,h⟩:=qp1.open_ (qx1.take g i (zf 3 0 h rfl));exact⟨f,e,d,a,zl 9 [4,5,6,3,7,8,0,1,2] h rfl⟩
def wld.give{d f:Option Ab}{a e:Nat}(h:St W (qj9 o k b c P x q rp rc v (Row b 140 (lnC L d a f e)::q51 5 1 d L.came.length a (L.came.map qd)::q51 5 1 f L.back.length e (L.back.map qd)::F)) w):St W (wld o c P x q rp rc (v.setL k L) F) w:=
 zl 6 [1,2,3,0,4,5] (ql5.give (qp1.shut (zl 9 [6,7,8,3,0,1,2,4,5] h rfl))) rfl
def qns(h:qe v.lines k=A1 L):v.setL k L=v:=by unfold Wd.setL;rw[qt1 h]
def wld.back{f d:Option Ab}{e a:Nat}(g:qe v.lines k=A1 L)(h:St W (qj9 o k b c P x q rp rc v (Row b 140 (lnC L f e d a)::q51 5 1 f L.came.length e (L.came.map qd)::q51 5 1 d L.back.length a (L.back.map qd)::F)) w):St W (wld o c P x q rp rc v F) w:=by have:=wld.give h;rwa[qns g]at this
def q5h(y:Option Nat):(y.map qc).getD (Zq A3)=Zq (y.elim A3 λb=>A1 ⟨b,0,A3⟩):=by cases y<;>rfl
def qvw{s s':Bk}(w:s.step c n e=A1 (s',out)):out.sent.length<=1000000:=by
 unfold Bk.step at w;split at w;.cases w;simp
 split at w;.cases w;simp
 split at w;.cases w
 split at w;.cases w;simp
 split at w;.cases w
 split at w;.cases w
 rename_i h;cases w;simp only;rw[q0m];omega
set_option maxHeartbeats 2000000 in
def qu7(hO:ql1 F c)(hn: -9223372036854775808<=e.n/\e.n<=9223372036854775807)(T:v.event c n e=A1 (v',out))(a:St W (wld o c P x q rp rc v F) w):qb Zp 28 #[qc x,Zg (evV e).toArray] w λr w'=>
 ∃qq g Z h0,r=Zg #[Zi Zk out.err,Zi Zk out.conn,Zi Zk out.took,Zl qq out.sent.length g]/\St W (SlA 38 4 q21 qq g out.sent::wld o c P x q Z h0 v' F) w':=by
 unfold Wd.event at T;cases I:v.b.step c n { e with draw:=v.draw}with
 |none=>rw[I]at T;cases T
 |some r=>
 obtain⟨bb,ou⟩:=r;rw[I]at T;dsimp only at T;cases H:qw1 Wd.takeS { v with b:=bb} ou.sent with
 |none=>rw[H]at T;cases T
 |some u=>
 rw[H]at T;cases T;suffices hh:∀R:Ac->Am->Prop,(∀r w',(∃qq g Z h0,r=Zg #[Zi Zk out.err,Zi Zk out.conn,Zi Zk out.took,Zl qq out.sent.length g]/\St W (SlA 38 4 q21 qq g out.sent::wld o c P x q Z h0 v' F) w')->R r w')->qb Zp 28 #[qc x,Zg (evV e).toArray] w R from hh _ λ_ _ h=>h
 intro R hR;refine F28_of (z08 6 a λp w a=>z08 7 a λl w a=>z7 (zg 0 a rfl rfl (St1.zz 6 a rfl λw a=>?_)));have a:St W (wld o c P x q rp rc v (evR p { e with draw:=v.draw}::qb1 l 0 0 0::F)) w:=a;refine⟨StC W _,zd a,z7 ⟨_,zo 0 ir rfl rfl,_,_,_,_,_,_,_,_,aggE 6 ir rfl,?_⟩⟩;refine Ef.sl 1 ir rfl (λG w h=>qar ((hO.app (pts G)).pre [_,_,_,_,_,_,_]) hn I h) (λ_ _ _ _ h=>⟨_,_,_,_,_,_,rfl,h⟩) λC g=>⟨_,_,_,_,_,_,rfl,trivial,λA=>?_⟩;refine Ef.outd 0 ir ⟨rfl,trivial,λG w h=>?_⟩;have a:St W (wld o c P x q rp rc { v with b:=bb} (SlA 38 4 q21 C g out.sent::Row A 32 [Zi Zk out.err,Zi Zk out.conn,Zi Zk out.took,Zl C out.sent.length g]::evR p { e with draw:=v.draw}::qb1 l 0 0 0::F)) w:=zl 10 [2,3,4,5,6,7,1,0,8,9] (zb h) rfl;have hsl:=qvw I;clear h I;generalize { v with b:=bb}=v0 at a H;generalize { e with draw:=v.draw}=e at a;obtain⟨err,conn,took,sent⟩:=out;dsimp only at a H hR hsl⊢;refine zr 7 a rfl rfl ?_;refine qt3 (λn vs w=>∃(k:Nat) (u:Wd) (rp:Option Ab) (rc:Nat),k+n=sent.length/\vs=[Zi Zk (k:Int)]/\qw1 Wd.takeS u (sent.drop k)=A1 v'/\St W (wld o c P x q rp rc u (SlA 38 4 q21 C g sent::Row A 32 [Zi Zk err,Zi Zk conn,Zi Zk took,Zl C sent.length g]::evR p e::qb1 l 0 0 0::F)) w) λμ h1 h2=>⟨⟨sent.length,0,v0,rp,rc,by omega,rfl,by rw[Bi];exact H,a⟩,λj w hI=>?_⟩;clear a H;obtain⟨k,u,rp,rc,hk,he,H,a⟩:=h2 _ _ hI;generalize μ _ _=m at hk⊢;cases he;refine za (λh=>?_) λh=>?_
 .have U:k<sent.length:=by have:=yC h;omega
  have hx:=A6 U;rw[Ae U]at H;generalize sent[k]=d at H hx;unfold qw1 at H;cases E:Wd.takeS u d with
  |none=>rw[E]at H;cases H
  |some u'=>
  rw[E]at H;dsimp only at H;refine z0e q89 (by decide) (z06 6 rfl λF=>z0g F) a rfl U hx λad ha=>zt (ha 0 _ rfl) (z0p (ha 1 _ rfl) (LdB.at (ha 2 _ rfl) (LdB.at (ha 3 _ rfl) (z08 6 a λM w a=>St1.zz 6 a rfl λw a=>St1.zz 6 a rfl λw a=>St1.zz 6 a rfl λw a=>St1.zz 6 a rfl λw a=>?_))));have a:St W (wld o c P x q rp rc u (Row M 38 (q21 d)::SlA 38 4 q21 C g sent::Row A 32 [Zi Zk err,Zi Zk conn,Zi Zk took,Zl C sent.length g]::evR p e::qb1 l 0 0 0::F)) w:=a;have Q:∀(rp:Option Ab) (rc:Nat) (w:Am),St W (wld o c P x q rp rc u' (Row M 38 (q21 d)::SlA 38 4 q21 C g sent::Row A 32 [Zi Zk err,Zi Zk conn,Zi Zk took,Zl C sent.length g]::evR p e::qb1 l 0 0 0::F)) w->
   (∃n,∃(k':Nat) (u:Wd) (rp:Option Ab) (rc:Nat),k'+n=sent.length/\[Zi Zk (Zw Zk ((k:Int)+1))]=[Zi Zk (k':Int)]/\qw1 Wd.takeS u (sent.drop k')=A1 v'/\St W (wld o c P x q rp rc u (SlA 38 4 q21 C g sent::Row A 32 [Zi Zk err,Zi Zk conn,Zi Zk took,Zl C sent.length g]::evR p e::qb1 l 0 0 0::F)) w)/\μ [Zi Zk (Zw Zk ((k:Int)+1))] w<m:=λrp rc w a=>by
   have hI':∃(k':Nat) (u:Wd) (rp:Option Ab) (rc:Nat),k'+(m - 1)=sent.length/\[Zi Zk (Zw Zk ((k:Int)+1))]=[Zi Zk (k':Int)]/\qw1 Wd.takeS u (sent.drop k')=A1 v'/\St W (wld o c P x q rp rc u (SlA 38 4 q21 C g sent::Row A 32 [Zi Zk err,Zi Zk conn,Zi Zk took,Zl C sent.length g]::evR p e::qb1 l 0 0 0::F)) w:=⟨k+1,u',rp,rc,by omega,by rw[up U (by omega)],H,a.del 6 rfl⟩;exact⟨⟨_,hI'⟩,Ba (h1 _ _ _ hI') (by omega)⟩
  unfold Wd.takeS at E;obtain⟨bs,⟨hp,ho⟩,a⟩:=wld.open_ a;have N:(qe (qx (A0 (α:=Nat) (β:=qn)) bs) d.conn).isSome=(qe u.lines d.conn).isSome:=by rw[<-hp,q62,q62,As,As]
  refine⟨StC W _,zd a,z7 ⟨_,z0a 0 ir rfl rfl,_,zi 7 ir rfl rfl,(qe (qx (A0 (α:=Nat) (β:=qn)) bs) d.conn).elim A3 (λb=>A1 ⟨b,0,A3⟩),_,(λG w hw=>qq1 kI q1j qwv q8x 3 hw rfl d.conn B4 (by rw[yB rfl,q5h];exact⟨_,_,rfl,rfl,hw⟩)),λG w h=>?_⟩⟩
  have a:=wld.shut hp ho (zb h);rw[N];clear h N hp ho;cases hL:qe u.lines d.conn with
  |some L=>
   rw[hL,yB (show(A1 L).isSome=B4 from rfl)]at E;by_cases D:1000000<u.row.length;.rw[yB D]at E;cases E
   rw[yA D]at E;have E:=A9 E;refine zn rfl ⟨StC W _,zd a,z7 ⟨_,_,_,QtL.a 0 ir rfl rfl,_,_,_,_,aggS 6 ir rfl,λO=>?_⟩⟩;have hbd:(u.row.length+[d].length)*Tryz.t38.bytes<=140737488355328:=by have:=bSe;simp only[Ax,B2];exact Nat.le_trans (Nat.mul_le_mul_left _ this) (by omega)
   obtain⟨z,hz,hzs⟩:=qkw;refine zk (α:=Option Ab×Nat) (V:=λy=>.slice y.1 (u.row++[d]).length y.2) (B:=λy=>Row O 38 (q21 d)::Row x 81 (qb8 q rp rc u.row.length u.draw)::qb2 c q.bx q.p u.b::AgW q.a P u.g::qx1 o q.ml u.lines::q51 38 4 y.1 (u.row++[d]).length y.2 ((u.row++[d]).flatMap q21)::qg (Zi Zk) qr1 q.ms u.S::Row M 38 (q21 d)::SlA 38 4 q21 C g sent::Row A 32 [Zi Zk err,Zi Zk conn,Zi Zk took,Zl C sent.length g]::evR p e::qb1 l 0 0 0::F) (A3,0) (ir.push O _) (λG w h=>?_) λy=>⟨_,_,_,rfl,trivial,z7 ?_⟩
   .have a:=h.imp z0c;have key:=λFF hb h63=>q2r (Pr:=Zp) (ty:=30) (K:=FF) (sT:=30) (xT:=30) (m:=1) (sc:=1) (sp:=A1 ⟨O,0,A3⟩) (f:=q21) (os:=u.row) (xs:=[d]) q89 qlj (.inr ⟨_,qlj⟩) iSe sSe hz hzs 5 a rfl (z0z 0 λi v h=>by rw[B0];simp only[List.flatMap_cons,List.flatMap_nil,List.append_nil]at h;exact h) rfl qkm hb h63;exact key _ hbd (by simp only[Ax,B2];omega) λp4 c4 w a=>⟨_,_,_,rfl,(p4,c4),rfl,a⟩
   .refine z0q 1 ir rfl (by simp[qb8]) ⟨rfl,trivial,λG w h=>?_⟩;refine Q y.1 y.2 w ?_;rw[<-E];exact(zb h).drop
  |none=>
   rw[hL,yA (by simp)]at E;by_cases D:4611686018427387904<((qe u.S d.conn).getD q93).b.size+d.b.size;.rw[yB D]at E;cases E
   rw[yA D]at E;have E:=A9 E;refine zm rfl ⟨StC W _,zd a,z7 ⟨_,z0a 0 ir rfl rfl,_,zi 6 ir rfl rfl,_,_,_,_,(λG w hw=>qq1 kI uMs iSe zSe 5 hw rfl d.conn Av (by rw[yA (by simp),qre];exact⟨_,_,_,_,rfl,rfl,hw⟩)),λY=>?_⟩⟩;generalize (qe u.S d.conn).getD q93=was at D E⊢;refine Ef.sent 6 ir was ⟨rfl,trivial,λG w h=>?_⟩;have a:St W (wld o c P x q rp rc u (Row Y 38 (q21 was)::Row M 38 (q21 d)::SlA 38 4 q21 C g sent::Row A 32 [Zi Zk err,Zi Zk conn,Zi Zk took,Zl C sent.length g]::evR p e::qb1 l 0 0 0::F)) w:=zb h;clear h;have J:∀(s t:Bool) (w:Am),(was.e||d.e)=s->(was.c||d.c)=t->St W (Row x 81 (qb8 q rp rc u.row.length u.draw)::qb2 c q.bx q.p u.b::AgW q.a P u.g::qx1 o q.ml u.lines::q51 38 4 rp u.row.length rc (u.row.flatMap q21)::qg (Zi Zk) qr1 q.ms (qk u.S d.conn ⟨d.conn,was.b++d.b,s,t⟩)::Row Y 38 (q21 was)::Row M 38 (q21 d)::SlA 38 4 q21 C g sent::Row A 32 [Zi Zk err,Zi Zk conn,Zi Zk took,Zl C sent.length g]::evR p e::qb1 l 0 0 0::F) w->St W (wld o c P x q rp rc u' (Row M 38 (q21 d)::SlA 38 4 q21 C g sent::Row A 32 [Zi Zk err,Zi Zk conn,Zi Zk took,Zl C sent.length g]::evR p e::qb1 l 0 0 0::F)) w:=λs t w hu X h=>by rw[<-E,hu,X];exact h.del 6 rfl
   refine⟨StC W _,zd a,z7 ⟨_,z0a 0 ir rfl rfl,_,zi 7 ir rfl rfl,_,zi 7 ir rfl rfl,_,zu 6 ir rfl rfl,_,zu 7 ir rfl rfl,⟨by omega,?_⟩⟩⟩;refine⟨_,z0t 6 ir rfl rfl,za (λhu=>⟨_,z0t 6 ir rfl rfl,za (λX=>?_) λX=>⟨_,z0t 7 ir rfl rfl,?_⟩⟩) λhu=>⟨_,z0t 7 ir rfl rfl,_,z0t 6 ir rfl rfl,za (λX=>?_) λX=>⟨_,z0t 7 ir rfl rfl,?_⟩⟩⟩;.exact Ef.mu (vl:=qr1) kI uMs 5 ir rfl d.conn ⟨d.conn,was.b++d.b,B4,B4⟩ ⟨rfl,trivial,λG w h=>Q rp rc w (J _ _ _ (by rw[hu];rfl) (by rw[X];rfl) (zb h))⟩
   .exact Ef.mu (vl:=qr1) kI uMs 5 ir rfl d.conn ⟨d.conn,was.b++d.b,B4,d.c⟩ ⟨rfl,trivial,λG w h=>Q rp rc w (J _ _ _ (by rw[hu];rfl) (by rw[X];rfl) (zb h))⟩
   .exact Ef.mu (vl:=qr1) kI uMs 5 ir rfl d.conn ⟨d.conn,was.b++d.b,d.e,B4⟩ ⟨rfl,trivial,λG w h=>Q rp rc w (J _ _ _ (by rw[hu];rfl) (by rw[X];rfl) (zb h))⟩
   .exact Ef.mu (vl:=qr1) kI uMs 5 ir rfl d.conn ⟨d.conn,was.b++d.b,d.e,d.c⟩ ⟨rfl,trivial,λG w h=>Q rp rc w (J _ _ _ (by rw[hu];rfl) (by rw[X];rfl) (zb h))⟩
 have hk2:k=sent.length:=by have:=yD h;omega
 rw[hk2,Ay]at H;have I:=A9 H;subst I;refine z8 7 a rfl rfl (z8 7 a rfl rfl (z8 7 a rfl rfl (zr 7 a rfl rfl ?_)));refine St1.zz 9 a rfl λw a=>St1.zz 9 a rfl λw a=>St1.zz 9 a rfl λw a=>St1.zz 9 a rfl λw a=>?_;refine z8 9 a rfl rfl (z8 9 a rfl rfl (z8 9 a rfl rfl (zr 9 a rfl rfl (hR _ _ ⟨C,g,rp,rc,rfl,?_⟩))));have a:=((a.del 7 rfl).del 7 rfl).del 7 rfl;exact zf 6 0 a rfl
end
end
section
section
variable{W w:World}{F l:List Asn}{c:qy}{P:qe1}{x b:Nat}{q:qb5}{rp:Option Addr}{rc n:Nat}{v v':Wd}{e:EvD}{L:qn}{o:List (Int×Nat)}{k:Int}{m:Nat}{Ls:List (Int×qn)}
def qx1.add{K:Am->Prop}(c:qe Ls k=A3)(i:St W (qp1 b L::qx1 o m Ls::F) w)(q:∀w',St W (qx1 o m (qk Ls k L)::F) w'->K w'):qt8 Zp (Instr.mapUpdate 78 (.map (A1 m)) (Zi Zk k) (qc b)) w K:=by
 obtain⟨bs,⟨g,n⟩,h⟩:=qx1.open_ i.p1;have f:qe bs k=A3:=by rw[<-g,q62,Option.map_eq_none_iff]at c;exact c
 refine qh1 kI q1j 0 h rfl k b λw' h=>q w' (qx1.shut (bs:=qk bs k (b,L)) (by rw[<-g,<-qt2]) (λy p=>?_) ?_)
 .obtain⟨d,a⟩:=n y p;refine⟨d,?_⟩;rw[qh2,yA (λe=>by rw[<-e,f]at a;cases a)];exact a
 .have h:St W (qg (Zi Zk) qc m (qk (qx (A0 (α:=Nat) (β:=qn)) bs) k b)::qz (bs.map λy:Int×Nat×qn=>qp1 y.2.1 y.2.2)::qp1 b L::F) w':=h;have e:qk (qx (A0 (α:=Nat) (β:=qn)) bs) k b=qx (A0 (α:=Nat) (β:=qn)) (qk bs k (b,L)):=qt2 (A0 (α:=Nat) (β:=qn)) bs k (b,L);rw[e]at h;rw[qbc f]at h⊢;have j:St W (qp1 b L::qz (bs.map λy:Int×Nat×qn=>qp1 y.2.1 y.2.2)::qg (Zi Zk) qc m (qx (A0 (α:=Nat) (β:=qn)) (bs++[(k,b,L)]))::F) w':=zl 3 [2,1,0] h rfl;refine(q95 (l:=(bs++[(k,b,L)]).map λy=>qp1 y.2.1 y.2.2) ?_ j).p1;rw[Af];exact(List.perm_append_singleton _ _).symm
def q3s{u:Wd}{d:q81}(h:v.takeS d=A1 u):u.lines=v.lines/\u.g=v.g/\u.draw=v.draw/\u.b=v.b:=by
 unfold Wd.takeS at h;split at h
 .split at h;.cases h
  .cases h;exact⟨rfl,rfl,rfl,rfl⟩
 .split at h;.cases h
  .cases h;exact⟨rfl,rfl,rfl,rfl⟩
def qgh:∀(l:List q81) {u v:Wd},qw1 Wd.takeS v l=A1 u->u.lines=v.lines/\u.g=v.g/\u.draw=v.draw/\u.b=v.b
 |[],u,v,h=>by cases h;exact⟨rfl,rfl,rfl,rfl⟩
 |d::r,u,v,h=>by
  unfold qw1 at h;cases hd:v.takeS d with
  |none=>rw[hd]at h;cases h
  |some t=>rw[hd]at h;obtain⟨i,w,c,f⟩:=qgh r h;obtain⟨g,e,a,b⟩:=q3s hd;exact⟨i.trans g,w.trans e,c.trans a,f.trans b⟩
def quh{out:qra}(h:v.event c n e=A1 (v',out)):v'.lines=v.lines/\v'.g=v.g/\v'.draw=v.draw:=by
 unfold Wd.event at h;split at h;.cases h
 .split at h;.cases h
  .rename_i d;cases h;obtain⟨b,a,w,_⟩:=qgh _ d;exact⟨b,a,w⟩
def qqh(no:Int)(l:ql1 F c)(d:v.open_ c n no=A1 v')(a:St W (wld o c P x q rp rc v F) w):qb Zp 56 #[qc x,Zi Zk no] w λr w'=>r=Zt #[]/\∃rp rc,St W (wld o c P x q rp rc v' F) w':=by
 unfold Wd.open_ at d;cases he:v.event c n { evZ with kind:=1}with
 |none=>rw[he]at d;cases d
 |some r=>
 obtain⟨f,b⟩:=r;rw[he]at d;dsimp only at d;refine F56_of ((qu7 l ⟨by decide,by decide⟩ he a).of λr w ⟨i,j,rp,rc,k,a⟩=>⟨_,_,_,_,_,_,k,?_⟩);have a:=a.drop;refine z08 6 a λe w a=>St1.zz 6 a rfl λw a=>St1.zz 6 a rfl λw a=>St1.zz 6 a rfl λw a=>St1.zz 6 a rfl λw a=>z8 6 a rfl rfl (za (λh=>?_) λh=>?_)
 .rw[yB (by simpa using h)]at d;cases d;exact⟨rfl,rp,rc,a.del 6 rfl⟩
 rw[yA (by simpa using h)]at d;cases hL:qe f.lines b.conn with
 |some L=>rw[hL,yB (show(A1 L).isSome=B4 from rfl)]at d;cases d
 |none=>
 rw[hL,yA (by simp)]at d;have a:St W (wld o c P x q rp rc f (Row e 32 [Zi Zk b.err,Zi Zk b.conn,Zi Zk b.took,Zl i b.sent.length j]::F)) w:=a;refine⟨StC W _,zd a,z7 ⟨_,z0a 0 ir rfl rfl,_,zi 6 ir rfl rfl,_,zi 6 ir rfl rfl,λg=>?_⟩⟩;refine zk (α:=Unit) (V:=λ_=>Zt #[]) (B:=λ_=>wld o c P x q rp rc (f.setL b.conn ⟨no,b.conn,[],[],Av,Av⟩) (Row e 32 [Zi Zk b.err,Zi Zk b.conn,Zi Zk b.took,Zl i b.sent.length j]::F)) () (ir.push g _) (λG w h=>?_) λ_=>⟨rfl,trivial,λG w h=>?_⟩
 .have a:=h.imp z0c;have p:=q51.nil 5 1 A3 (q51.nil 5 1 A3 a);have m:St W (qp1 g ⟨no,b.conn,[],[],Av,Av⟩::wld o c P x q rp rc f (Row e 32 [Zi Zk b.err,Zi Zk b.conn,Zi Zk b.took,Zl i b.sent.length j]::F++pts G)) w:=qp1.shut (zl 3 [2,0,1] p rfl);exact qx1.add hL (zf 4 1 m rfl) λw' h=>⟨(),rfl,zl 6 [1,2,3,0,4,5] h rfl⟩
 have a:=zb h;clear h;refine z8 6 a rfl rfl ?_;cases he2:(f.setL b.conn ⟨no,b.conn,[],[],Av,Av⟩).event c n { evZ with kind:=3,conn:=b.conn,n:=1073741824}with
 |none=>rw[he2]at d;cases d
 |some r2=>
 obtain⟨v2,s⟩:=r2;rw[he2]at d;cases d;exact(qu7 (l.cons _) ⟨by show(-9223372036854775808:Int)<=1073741824;decide,by show(1073741824:Int)<=9223372036854775807;decide⟩ he2 a).of λr w ⟨i,j,rp,rc,k,a⟩=>⟨_,_,_,_,_,_,k,rfl,rp,rc,(a.drop).del 6 rfl⟩
def qd1.map{κ ν:Type}{enc:κ->Ac}{vl:ν->Ac}{m a:Nat}{L V:List (κ×ν)}(h:St W (qd1 enc vl m a L V::F) w):St W (qg enc vl m L::F) w:=by obtain⟨⟨es,clock,seen,c⟩,h⟩:=h.of_ex;obtain⟨b,h⟩:=h.of_sep.of_pr;have h:St W (Pt m (.map es clock)::Pt a (.mapIter (A1 m) clock seen c)::F) w:=h;exact qg.shut b.st b.ent h.p1.drop
def q8p{L:List (Int×qn)}(w:(L.map λy=>y.2.no).Nodup){y:Int×qn}(b:y∈L):L.find? (λz=>decide (z.2.no=y.2.no))=A1 y:=by
 induction L with
 |nil=>cases b
 |cons a r ih=>
  rw[Aa,List.nodup_cons]at w;rw[B1];rcases Bl.1 b with h|h;.subst h;simp
  .have:¬a.2.no=y.2.no:=λe=>w.1 (A4.2 ⟨y,h,e.symm⟩);simp only[this,decide_false];exact ih w.2 h
def q701(W:Am)(o:List (Int×Nat))(c:qy)(P:qe1)(x:Nat)(q:qb5)(rp:Option Ab)(rc:Nat)(v:Wd)(F:List Asn)(no:Int)(a:Option Ab)(w:Am):Prop:=
 (v.find no=A3/\a=A3/\St W (wld o c P x q rp rc v F) w)\/∃k L b,v.find no=A1 (k,L)/\qe v.lines k=A1 L/\a=A1 ⟨b,0,A3⟩/\St W (wld ((k,b)::o) c P x q rp rc v F) w
def q2s(no:Int)(t:v.nos.Nodup)(d:St W (wld o c P x q rp rc v F) w):qb Zp 55 #[qc x,Zi Zk no] w λr w'=>∃a,r=Zq a/\q701 W o c P x q rp rc v F no a w':=by
 obtain⟨bs,⟨n,D⟩,d⟩:=wld.open_ d;have d:St W (qg (Zi Zk) qc q.ml (qx (A0 (α:=Nat) (β:=qn)) bs)::qz (bs.map λy:Int×Nat×qn=>qp1 y.2.1 y.2.2)::Row x 81 (qb8 q rp rc v.row.length v.draw)::qb2 c q.bx q.p v.b::AgW q.a P v.g::q51 38 4 rp v.row.length rc (v.row.flatMap q21)::qg (Zi Zk) qr1 q.ms v.S::F) w:=zl 7 [3,6,0,1,2,4,5] d rfl;have f:(bs.map (·.1)).Nodup:=by have:=z18 kI d;rwa[qx5]at this
 refine F55_of (z7 (zv 2 d rfl rfl (qg9 q1j 0 d rfl λi w d=>⟨λvs w=>∃V:List (Int×Nat),vs=[]/\(∀y∈V,∀L,qe bs y.1=A1 (y.2,L)->L.no≠no)/\St W (qd1 (Zi Zk) qc q.ml i (qx (A0 (α:=Nat) (β:=qn)) bs) V::qz (bs.map λy:Int×Nat×qn=>qp1 y.2.1 y.2.2)::Row x 81 (qb8 q rp rc v.row.length v.draw)::qb2 c q.bx q.p v.b::AgW q.a P v.g::q51 38 4 rp v.row.length rc (v.row.flatMap q21)::qg (Zi Zk) qr1 q.ms v.S::F) w,λ_ w=>q74 i (qx (A0 (α:=Nat) (β:=qn)) bs).length w,⟨[],rfl,by simp,d⟩,λw N=>?_⟩)));clear d;obtain⟨V,_,hV,d⟩:=N;have p:=qd1.left d (qx (A0 (α:=Nat) (β:=qn)) bs).length;refine qqb kI 0 d rfl (λm E G w' d=>⟨A3,rfl,.inl ⟨?_,rfl,wld.shut n D (zl 7 [2,3,4,0,5,6,1] d rfl)⟩⟩) λz M B w' d=>qp9 0 d rfl λd=>⟨_,_,rfl,?_⟩
 .unfold Wd.find;rw[List.find?_eq_none];intro y e;rw[<-n]at e;obtain⟨u,l,rfl⟩:=A4.1 e;have C:=m (u.1,u.2.1) (A4.2 ⟨u,l,rfl⟩);have s:=hV _ C u.2.2 (q24 f l);simpa using s
 obtain⟨u,l,rfl⟩:=A4.1 M;have j:qe bs u.1=A1 (u.2.1,u.2.2):=q24 f l;obtain⟨k,b,L⟩:=u;dsimp only at j d B⊢;have d:St W (qd1 (Zi Zk) qc q.ml i (qx (A0 (α:=Nat) (β:=qn)) bs) (V++[(k,b)])::qz (bs.map λy:Int×Nat×qn=>qp1 y.2.1 y.2.2)::Row x 81 (qb8 q rp rc v.row.length v.draw)::qb2 c q.bx q.p v.b::AgW q.a P v.g::q51 38 4 rp v.row.length rc (v.row.flatMap q21)::qg (Zi Zk) qr1 q.ms v.S::F) w':=d;have C:=qf5 ((Go.Proofs.YtfjifcfbmhpcaaaGreatDoor.aget_perm j).map λy:Int×Nat×qn=>qp1 y.2.1 y.2.2) d.p1;obtain⟨T,U,R,Q,s⟩:=qp1.open_ C;refine z7 (z8 0 s rfl rfl ?_);have I:St W (qp1 b L::qz ((qp bs k).map λy:Int×Nat×qn=>qp1 y.2.1 y.2.2)::qd1 (Zi Zk) qc q.ml i (qx (A0 (α:=Nat) (β:=qn)) bs) (V++[(k,b)])::Row x 81 (qb8 q rp rc v.row.length v.draw)::qb2 c q.bx q.p v.b::AgW q.a P v.g::q51 38 4 rp v.row.length rc (v.row.flatMap q21)::qg (Zi Zk) qr1 q.ms v.S::F) w':=qp1.shut s;have d:=(q95 ((Go.Proofs.YtfjifcfbmhpcaaaGreatDoor.aget_perm j).map λy:Int×Nat×qn=>qp1 y.2.1 y.2.2).symm I).p1;refine za (λh=>⟨_,rfl,.inr ⟨k,L,b,?_,?_,rfl,?_⟩⟩) λh=>⟨⟨V++[(k,b)],rfl,λy e J g=>?_,d⟩,?_⟩
 .have A:L.no=no:=by simpa using h
  have O:(k,L)∈v.lines:=by rw[<-n];exact A4.2 ⟨_,l,rfl⟩
  have:=q8p t O;rw[A]at this;exact this
 .rw[<-n,q62,j];rfl
 .refine wld.shut n (λy e=>?_) (zl 7 [2,3,4,0,5,6,1] (qd1.map d) rfl);rcases Bl.1 e with rfl|e;.exact⟨L,j⟩
  .exact D y e
 .rcases List.mem_append.1 e with e|e;.exact hV y e J g
  .simp only[List.mem_singleton]at e;subst e;rw[j]at g;cases g;simpa using h
 .have K:=qd1.left d (qx (A0 (α:=Nat) (β:=qn)) bs).length;have H:=qd1.part d;show q74 i _ _<q74 i _ _;rw[K,p,A2];rw[A2]at H;simp only[Ax,B2]at H⊢;omega
end
end
section
section
variable{W w:World}{F l:List Asn}{c:qy}{P:qe1}{x b:Nat}{q:qb5}{rp:Option Addr}{rc n:Nat}{v v':Wd}{e:EvD}{L:qn}{o:List (Int×Nat)}{k:Int}{m:Nat}{Ls:List (Int×qn)}
def aggM{C:Cls}{l:List Asn}{b t:Nat}{a:qm6}(k:Nat)(d:Is W C l)(i:nth l k=A1 (Row b t (qia a))):
 Qt C (Zg #[Zi Zk a.m.k,Zs a.m.A,Zs a.m.B,Zi Zk a.m.N,Zi Zk a.m.M]) λw K=>LdI Zk (Za (Za ⟨b,0,A3⟩ 2) 0) w λe=>LdS (Za (Za ⟨b,0,A3⟩ 2) 1) w λj=>LdS (Za (Za ⟨b,0,A3⟩ 2) 2) w λg=>LdI Zk (Za (Za ⟨b,0,A3⟩ 2) 3) w λf=>LdI Zk (Za (Za ⟨b,0,A3⟩ 2) 4) w λm=>K (Zg #[Zi Zk e,Zs j,Zs g,Zi Zk f,Zi Zk m]) w:=λG w h=>by
 have c:=d.at k i h;rw[show Za ⟨b,0,A3⟩ 2=⟨b,2,A3⟩from qi1 b 0 2];exact z8 0 c rfl rfl (zg 0 c rfl rfl (zg 0 c rfl rfl (z8 0 c rfl rfl (z8 0 c rfl rfl ⟨rfl,h⟩))))
def Rd.w6{p:Option Ab}{cs:List Ac}{a0 w a2 a3 a4 a5:Asn}(h:Rd F p cs):Rd (a0::w::a2::a3::a4::a5::F) p cs:=(((((h.cons _).cons _).cons _).cons _).cons _).cons _
set_option maxHeartbeats 2000000 in
def qbj{ap:Option Ab}{ac:Nat}{e:List qm6}(Y:ql1 F c)(M:Rd F ap (e.flatMap qia))(hl:e.length<=1000000)(K:v.does c n e=A1 v')(d:St W (wld o c P x q rp rc v F) w):
 qb Zp 29 #[qc x,Zl ap e.length ac] w λr w'=>r=Zt #[]/\∃rp rc,St W (wld o c P x q rp rc v' F) w':=by
 unfold Wd.does at K;refine F29_of (qt3 (λR vs w=>∃(k:Nat) (u:Wd) (rp:Option Ab) (rc:Nat),k+R=e.length/\vs=[Zi Zk (k:Int)]/\qw1 (Wd.doA c n) u (e.drop k)=A1 v'/\St W (wld o c P x q rp rc u F) w) λμ h1 h2=>⟨⟨e.length,0,v,rp,rc,by omega,rfl,K,d⟩,λj w hI=>?_⟩);clear d K;obtain⟨i,u,rp,rc,hk,he,m,d⟩:=h2 _ _ hI;generalize μ _ _=mm at hk⊢;cases he;refine za (λh=>?_) λh=>?_
 .have p:i<e.length:=by have:=yC h;omega
  have hx:=A6 p;rw[Ae p]at m;generalize e[i]=a at m hx;unfold qw1 at m;cases f:Wd.doA c n u a with
  |none=>rw[f]at m;cases m
  |some D=>
  rw[f]at m;dsimp only at m;unfold Wd.doA at f;by_cases s:u.nos.Nodup;case neg=>rw[yB s]at f;cases f
  rw[yA (λhh=>hh s)]at f;refine z0e q8l (by decide) M.w6 d rfl p hx λad z=>zt (z 0 _ rfl) (zt (z 1 _ rfl) (zt (z 2 _ rfl) (z0p (z 3 _ rfl) (z0p (z 4 _ rfl) (zt (z 5 _ rfl) (zt (z 6 _ rfl) (z08 6 d λg w d=>?_)))))));refine St1.zz 6 d rfl λw d=>St1.zz 6 d rfl λw d=>St1.zz 6 d rfl λw d=>St1.zz 6 d rfl λw d=>St1.zz 6 d rfl λw d=>St1.zz 6 d rfl λw d=>St1.zz 6 d rfl λw d=>?_;have d:St W (wld o c P x q rp rc u (Row g 136 (qia a)::F)) w:=d;have l:∀(rp:Option Ab) (rc:Nat) (w:Am),St W (wld o c P x q rp rc D (Row g 136 (qia a)::F)) w->
   (∃R,∃(k:Nat) (u:Wd) (rp:Option Ab) (rc:Nat),k+R=e.length/\[Zi Zk (Zw Zk ((i:Int)+1))]=[Zi Zk (k:Int)]/\qw1 (Wd.doA c n) u (e.drop k)=A1 v'/\St W (wld o c P x q rp rc u F) w)/\μ [Zi Zk (Zw Zk ((i:Int)+1))] w<mm:=λrp rc w d=>by
   have A:∃(k:Nat) (u:Wd) (rp:Option Ab) (rc:Nat),k+(mm - 1)=e.length/\[Zi Zk (Zw Zk ((i:Int)+1))]=[Zi Zk (k:Int)]/\qw1 (Wd.doA c n) u (e.drop k)=A1 v'/\St W (wld o c P x q rp rc u F) w:=⟨i+1,D,rp,rc,by omega,by rw[up p (by omega)],m,d.del 6 rfl⟩;exact⟨⟨_,A⟩,Ba (h1 _ _ _ A) (by omega)⟩
  refine z8 6 d rfl rfl ((q2s a.line s d).of λr w ⟨la,T,hR⟩=>⟨_,T,?_⟩);rcases hR with ⟨t,rfl,d⟩|⟨k,L,b,t,N,rfl,d⟩
  .refine z8 6 d rfl rfl (za (λh=>z8 6 d rfl rfl ?_) λh=>zm rfl ?_)
   .rw[yB (by simpa using h)]at f;exact(qqh a.line (Y.cons _) f d).of λr w ⟨Z,rp,rc,d⟩=>⟨Z,l rp rc w d⟩
   .rw[yA (by simpa using h),t]at f;cases f;exact l rp rc w d
  refine z8 6 d rfl rfl (za (λh=>z8 6 d rfl rfl ?_) λh=>zn rfl ?_)
  .rw[yB (by simpa using h)]at f;exact(qqh a.line (Y.cons _) f d).of λr w ⟨Z,rp,rc,d⟩=>⟨Z,l rp rc w (wld.forget d)⟩
  rw[yA (by simpa using h),t]at f;dsimp only at f;cases hev:u.event c n { evZ with kind:=2,conn:=L.conn,b:=mkS (Fr.putP (q0d a.m))}with
  |none=>rw[hev]at f;cases f
  |some r2=>
  obtain⟨u2,out⟩:=r2;rw[hev]at f;have f:=A9 f;obtain⟨Q,C,O,J,d⟩:=wld.take A7 N d;refine⟨StC W _,zd d,z7 ⟨_,zi 6 ir rfl rfl,_,_,_,_,_,aggM 9 ir rfl,?_⟩⟩;refine Ef.sw ir (λG w h=>q1f a.m h) (λ_ _ _ _ h=>⟨_,_,_,rfl,h⟩) λp1 c1=>⟨_,_,_,rfl,zi 7 ir rfl rfl,?_⟩;refine Ef.sw ir (λG w h=>Fr.Put_spec (z0j _) rfl h) (λ_ _ _ _ h=>⟨_,_,_,rfl,h⟩) λp2 c2=>⟨_,_,_,rfl,zi 8 ir rfl rfl,_,Go.Proofs.YtfjifcfbmhpcaaaGreatDoor.q731 ir (z0j _) rfl,?_⟩;refine zk (α:=(Option Ab×Nat)×(Option Ab×Nat)) (V:=λy=>Zg #[Zi Zk out.err,Zi Zk out.conn,Zi Zk out.took,.slice y.1.1 out.sent.length y.1.2]) (B:=λy=>wld ((k,b)::o) c P x q y.2.1 y.2.2 u2 (Row g 136 (qia a)::F)) ((A3,0),(A3,0)) ir (λG w h=>?_) λy=>⟨_,_,_,_,_,_,rfl,trivial,λG w h=>?_⟩
  .have h3:St W (qj9 ((k,b)::o) k b c P x q rp rc u (Row b 140 (lnC L Q C O J)::q51 5 1 Q L.came.length C (L.came.map qd)::q51 5 1 O L.back.length J (L.back.map qd)::Row g 136 (qia a)::F++pts G)) w:=z0f [_,_] h;exact(qu7 ((Y.app (pts G)).cons _) ⟨by show(-9223372036854775808:Int)<=0;decide,by show(0:Int)<=9223372036854775807;decide⟩ hev (wld.back N h3)).of λr w ⟨qq,C,rp,rc,M,d⟩=>by subst M;exact⟨_,_,_,_,_,_,rfl,((qq,C),(rp,rc)),rfl,d.drop⟩
  obtain⟨X,_⟩:=quh hev;have U:qe u2.lines k=A1 L:=by rw[X];exact N
  obtain⟨Q,C,O,J,d⟩:=wld.take A7 U (zb h);clear h;refine z7 (zx 6 d rfl rfl (za (λh=>z7 (St1.zz 6 d rfl λw d=>l y.2.1 y.2.2 w ?_)) λh=>?_))
  .have H:D=u2.setL k { L with raw:=B4}:=by rw[<-f,h];rfl
   rw[H];exact wld.forget (wld.give d)
  .rw[show Za ⟨g,0,A3⟩ 2=⟨g,2,A3⟩from qi1 g 0 2];refine z8 9 d rfl rfl (z7 (St1.zz 6 d rfl λw d=>l y.2.1 y.2.2 w ?_));have H:D=u2.setL k { L with raw:=(a.m.k==12)}:=by rw[<-f,h];rfl
   rw[H];exact wld.forget (wld.give d)
 have E:i=e.length:=by have:=yD h;omega
 rw[E,Ay]at m;have I:=A9 m;subst I;exact⟨rfl,rp,rc,d⟩
end
end
section
section
variable{W w:World}{F l:List Asn}{c:qy}{P:qe1}{x b:Nat}{q:qb5}{rp:Option Addr}{rc n:Nat}{v v':Wd}{e:EvD}{L:qn}{o:List (Int×Nat)}{k:Int}{m:Nat}{Ls:List (Int×qn)}{res:Bool}
def SlP.own{t:Bo}{size h b a:Nat}{p:Option Ab}{cs:List Ac}{g j:Int}{K:Option Ab->Nat->Nat->Prop}(i:Nat)(f:St W l w)(d:nth l i=A1 (q51 t size p h b cs))(e:g=(a:Int))(c:j=(h:Int))(m:a<=h)
 (o:∀k,St W (put l i [q51 t size k (h - a) (b - a) (cs.drop (a*size))]) w->K k (h - a) (b - a)):SlP p h b size g j K:=by
 subst e c;have n:=q51.le (f.at i d);refine⟨⟨by omega,by omega,by omega⟩,?_⟩;rw[Int.toNat_natCast,Int.toNat_natCast];exact o _ (z05 i d (B:=[_]) (q51.from_ m (f.at i d)))
set_option maxHeartbeats 2000000 in
def q1o(u:(k,b)∈o)(A:ql1 F c)(d:v.answer c n k=A1 (v',res))(e:St W (wld o c P x q rp rc v F) w):
 qb Zp 103 #[qc x,qc b] w λr w'=>r=Zb res/\∃rp rc,St W (wld o c P x q rp rc v' F) w':=by
 unfold Wd.answer at d;cases hL:qe v.lines k with
 |none=>rw[hL]at d;cases d
 |some L=>
 rw[hL]at d;dsimp only at d;obtain⟨s,g,E,l,e⟩:=wld.take u hL e;refine F103_of (z7 (zx 6 e rfl rfl (za (λh=>?_) λh=>?_)))
 .rw[yB (by simpa using h)]at d;cases d;exact⟨rfl,rp,rc,wld.back hL e⟩
 rw[yA (by simpa using h)]at d;refine z7 (zr 6 e rfl rfl (za (λh=>?_) λh=>z7 (zx 6 e rfl rfl (za (λj=>?_) λj=>?_))))
 .have h:0<L.back.length:=by have:=yC h;omega
  rw[yB h]at d;cases hev:v.event c n { evZ with kind:=2,conn:=L.conn,b:=mkS L.back}with
  |none=>rw[hev]at d;cases d
  |some r2=>
  obtain⟨u2,out⟩:=r2;rw[hev]at d;dsimp only at d;by_cases C:out.took<0\/(L.back.length:Int)<out.took;.rw[yB C]at d;cases d
  rw[yA C]at d;cases d;refine⟨StC W _,zd e,z7 (z7 ⟨_,zi 6 ir rfl rfl,_,_,_,QtL.a 6 ir rfl rfl,_,Go.Proofs.YtfjifcfbmhpcaaaGreatDoor.q731 ir (z06 8 rfl λF=>q51.rd F) rfl,?_⟩)⟩;refine zk (α:=(Option Ab×Nat)×(Option Ab×Nat)) (V:=λy=>Zg #[Zi Zk out.err,Zi Zk out.conn,Zi Zk out.took,.slice y.1.1 out.sent.length y.1.2]) (B:=λy=>wld o c P x q y.2.1 y.2.2 u2 F) ((A3,0),(A3,0)) ir (λG w h=>?_) λy=>⟨_,_,_,_,_,_,rfl,trivial,λG w h=>?_⟩
  .exact(qu7 (A.app (pts G)) ⟨by show(-9223372036854775808:Int)<=0;decide,by show(0:Int)<=9223372036854775807;decide⟩ hev (wld.back hL h)).of λr w ⟨z,g,rp,rc,m,e⟩=>by subst m;exact⟨_,_,_,_,_,_,rfl,((z,g),(rp,rc)),rfl,e.drop⟩
  obtain⟨p,_⟩:=quh hev;have t:qe u2.lines k=A1 L:=by rw[p];exact hL
  obtain⟨s,g,E,l,e⟩:=wld.take u t (zb h);clear h;refine z7 (zr 6 e rfl rfl (SlP.own (a:=out.took.toNat) 8 e rfl (by omega) rfl (by omega) λD e=>z7 (St1.zz 6 e rfl λw e=>⟨rfl,y.2.1,y.2.2,?_⟩)));have i:(L.back.drop out.took.toNat).length=L.back.length - out.took.toNat:=Ad;have f:St W (qj9 o k b c P x q y.2.1 y.2.2 u2 (Row b 140 [Zi Zk L.no,Zi Zk L.conn,Zl s L.came.length g,.slice D (L.back.length - out.took.toNat) (l - out.took.toNat),Zb L.en,Zb L.raw]::q51 5 1 s L.came.length g (L.came.map qd)::q51 5 1 D (L.back.length - out.took.toNat) (l - out.took.toNat) ((L.back.map qd).drop (out.took.toNat*1))::F)) w:=e;rw[Bg,<-List.map_drop,<-i]at f;exact wld.give (L:={ L with back:=L.back.drop out.took.toNat}) f
 all_goals
  have h:¬0<L.back.length:=by have:=yD h;omega
  rw[yA h]at d
 .rw[yB j]at d;cases hev:(v.setL k { L with en:=Av}).event c n { evZ with kind:=4,conn:=L.conn}with
  |none=>rw[hev]at d;cases d
  |some r2=>
  obtain⟨u2,out⟩:=r2;rw[hev]at d;cases d;refine z7 (St1.zz 6 e rfl λw e=>z7 (z8 6 e rfl rfl ?_));have f:=wld.give (L:={ L with en:=Av}) e;exact(qu7 A ⟨by show(-9223372036854775808:Int)<=0;decide,by show(0:Int)<=9223372036854775807;decide⟩ hev f).of λr w ⟨z,g,rp,rc,m,e⟩=>⟨_,_,_,_,_,_,m,rfl,rp,rc,e.drop⟩
 .rw[yA (by rw[j];simp)]at d;cases d;exact⟨rfl,rp,rc,wld.back hL e⟩
end
end
section
def GrC(w0:Am):Cls where
 p:=λG w=>∃q os,w=Bf (w0.drewN q) os
 drew:=λG w h=>by obtain⟨q,os,rfl⟩:=h;exact⟨q+1,os,rfl⟩
 new:=λG w o h=>by obtain⟨q,os,rfl⟩:=h;exact⟨q,os++#[o],by rw[Sort.alloc_eq_grow,Sort.grow_grow]⟩
 perm:=λa h=>h
def qru{c:Am}{a b:Nat}{d i:Int}(j:c.cell? ⟨a,0,A3⟩=A1 (Zi Zk d))(k:c.cell? ⟨b,0,A3⟩=A1 (Zi Zk i))(e:a<c.heap.size)(f:b<c.heap.size):
 qb Zp 101 #[qc a,qc b] c λv w'=>v=Zi Zk (Zw Zk (d - i))/\∃q os,w'=Bf (c.drewN q) os:=by
 refine F101_of ⟨GrC c,⟨0,#[],by rw[Sort.grow_empty];rfl⟩,z7 (z7 ⟨_,(λG w g=>?_),_,(λG w g=>?_),λG w h=>⟨rfl,h⟩⟩)⟩
 .obtain⟨q,os,rfl⟩:=g;rw[qi1];exact⟨d,cell_grown e j q os,rfl,q,os,rfl⟩
 .obtain⟨q,os,rfl⟩:=g;rw[qi1];exact⟨i,cell_grown f k q os,rfl,q,os,rfl⟩
section
variable{W w:World}{F l:List Asn}
abbrev LnT(bs:List (Int×Nat×qn)):={ y:Int×Nat×qn//y∈bs}
def lnE{bs:List (Int×Nat×qn)}(y:LnT bs):Ac:=qc y.1.2.1
def qe3{bs:List (Int×Nat×qn)}(y:LnT bs):Int:=y.1.2.2.no
def leN{bs:List (Int×Nat×qn)}(x y:LnT bs):Bool:=decide (qe3 x<=qe3 y)
def qri{bs:List (Int×Nat×qn)}{y:Int×Nat×qn}(b:y∈bs)(h:St W (qz (bs.map λy:Int×Nat×qn=>qp1 y.2.1 y.2.2)::F) w):w.cell? ⟨y.2.1,0,A3⟩=A1 (Zi Zk y.2.2.no)/\y.2.1<w.heap.size:=by
 obtain⟨s,t,rfl⟩:=Bb b;have c:=qf5 (X:=qp1 y.2.1 y.2.2) (r:=(s++t).map λy:Int×Nat×qn=>qp1 y.2.1 y.2.2) (by rw[Af,Af,Aa];exact Az) h
 obtain⟨g,f,e,d,a⟩:=qp1.open_ c;exact⟨a.ld rfl,q5j a⟩
def qih{α:Type}[Inhabited α](enc:α->Ac)(w:Am)(q:Nat)(d:Array α):Au enc w q 0 d=Au id w q 0 (d.map enc):=by
 unfold Au;congr 1;funext c;unfold Sort.putCells;apply Array.ext;.simp
 .intro i b a;simp only[Array.getElem_mapIdx,Array.size_map,Nat.zero_le,yL,B0,Nat.sub_zero,id];by_cases h:i<d.size;.simp[h]
  .simp[h]
set_option maxHeartbeats 1000000 in
def qqr{bs:List (Int×Nat×qn)}{p:Option Ab}{c:Nat}{zs:List (LnT bs)}(hl:zs.length<=1000000)(N:(bs.map λy=>y.2.2.no).Nodup)(B:∀y∈bs,0<=y.2.2.no/\y.2.2.no<=1000000)
 (L:St W (qi 75 1 p zs.length c (zs.map lnE)::qz (bs.map λy:Int×Nat×qn=>qp1 y.2.1 y.2.2)::F) w):
 qb Zp 162 #[Zl p zs.length c,.func (.func 101) #[] #[]] w λv w'=>v=Zt #[]/\St W (qi 75 1 p zs.length c ((q91 leN zs).map lnE)::qz (bs.map λy:Int×Nat×qn=>qp1 y.2.1 y.2.2)::F) w':=by
 by_cases T:zs=[]
 .subst T;have key:=AnyF.slices_SortFunc_none { Tryz.sortLine with} p c (.func (.func 101) #[] #[]) w;exact Calls.mono key λe w' ⟨A,C⟩=>⟨_,A,rfl,by subst C;exact L⟩
 have D:0<zs.length:=by cases zs with|nil=>exact yI rfl T|cons _ _=>simp
 haveI:Inhabited (LnT bs):=⟨zs[0]⟩
 have s:zs.length<=c:=(qi.le L).2;obtain⟨q,all,hp,o,H,u⟩:=qi.opened D L;clear L;subst hp;rw[Bg]at o H;have hH:Sort.Holds lnE w q 0 zs.toArray:=λj J=>by
  have t:j<zs.length:=by simpa using J
  have Y:zs[j]?=A1 zs[j]:=A6 t;have Z:all[j]?=A1 (lnE zs[j]):=by
   have k:(all.take zs.length)[j]?=A1 (lnE zs[j]):=by rw[H,Ai,Y];rfl
   rw[B9,yB t]at k;exact k
  have l:=u.st (i:=j) (by omega) (Zb B4);have O:=u.ld Z;rw[B0];refine⟨?_,l.1.2⟩;rw[O];congr 1;simp[getElem!_pos,t]
 have X:∀args w,(callFunc 101 args).run Zp w=.ok (.enter 101 args) w:=enters_of Tryz.func101 (by kernel_rfl) rfl;have g:∀x y:LnT bs,Aj (λx y:LnT bs=>Zw Zk (qe3 x - qe3 y)) x y=decide (qe3 x<qe3 y):=λx y=>by
  have k:=B _ x.2;have l:=B _ y.2;unfold Aj;have e:Zw Zk (qe3 x - qe3 y)=qe3 x - qe3 y:=by unfold qe3;exact w64
  have O:((λx y:LnT bs=>Zw Zk (qe3 x - qe3 y)) x y<0)↔qe3 x<qe3 y:=by show Zw Zk (qe3 x - qe3 y)<0↔_;rw[e];omega
  exact decide_eq_decide.2 O
 have E:Sort.SWO (Aj (λx y:LnT bs=>Zw Zk (qe3 x - qe3 y))):=by
  refine⟨λx=>by rw[g];simp,λx y z k l=>?_,λx y z k l=>?_⟩;.rw[g]at*;simp at*;omega
  .rw[g]at*;simp at*;omega
 have r:∀x y:LnT bs,qe3 x=qe3 y->x=y:=λx y h=>by
  obtain⟨i,U⟩:=B7 x.2;obtain⟨j,J⟩:=B7 y.2;have Q:(bs.map λy=>y.2.2.no)[i]?=A1 (qe3 x):=by rw[Ai,U];rfl
  have I:(bs.map λy=>y.2.2.no)[j]?=A1 (qe3 x):=by rw[Ai,J,h];rfl
  have d:=(List.getElem?_eq_some_iff.1 Q).1;have:=(List.getElem?_inj d N).1 (Q.trans I.symm);subst this;rw[U]at J;exact Subtype.ext (A9 J)
 have key:=Any.slices_SortFunc_total Tryz.sortLine (α:=LnT bs) lnE (λx=>rfl) (λx y=>Zw Zk (qe3 x - qe3 y)) E 101 #[] q 0 c zs.toArray w X
  (λm os K hs x y=>?_) hH (q5j u) (by simp;omega) (λx y k l=>by rw[g]at k l;have a1:=yD k;have a2:=yD l;exact r x y (by omega))
 .have e:(zs.toArray.toList.mergeSort λx y=>!(Aj (λx y:LnT bs=>Zw Zk (qe3 x - qe3 y))) y x)=q91 leN zs:=by
   rw[show(λx y:LnT bs=>!(Aj (λx y:LnT bs=>Zw Zk (qe3 x - qe3 y))) y x)=leN from funext λx=>funext λy=>by rw[g];unfold leN;rw[Bool.eq_iff_iff];simp]
   exact qij (le:=leN) (λa b c k l=>by unfold leN at*;simp only[yJ]at*;omega) (λa b=>by unfold leN;simp only[Bool.or_eq_true,yJ];omega) (λa b k l=>by unfold leN at*;simp only[yJ]at*;exact r a b (by omega)) (List.Perm.refl _)
  rw[e]at key;have M:zs.toArray.size=zs.length:=by simp
  rw[M]at key;refine Calls.mono key λe w' ⟨A,n,os,C⟩=>⟨_,A,rfl,?_⟩;subst C;have d:(q91 leN zs).length=zs.length:=(qv1 leN zs).length_eq;have G:=u.putRow_id (vs:=(q91 leN zs).map lnE) (by rw[A5,d,o];exact s) n os;have I:sortWorld lnE w q 0 n (q91 leN zs).toArray os=Bf (Au id (Bp w n) q 0 ((q91 leN zs).map lnE).toArray) os:=by unfold sortWorld;rw[qih];simp
  rw[I];refine z0x (all:=(q91 leN zs).map lnE++all.drop ((q91 leN zs).map lnE).length) ?_ s (by rw[Bg,<-d,<-A5 (f:=lnE),List.take_left' rfl]) G;rw[A2,Ad,A5,d,o];omega
 .have P:K.toList.length=zs.length:=by rw[Array.length_toList,hs];simp
  have G:=u.putRow_id (vs:=K.toList.map lnE) (by rw[A5,P,o];exact s) m os;have I:sortWorld lnE w q 0 m K os=Bf (Au id (Bp w m) q 0 (K.toList.map lnE).toArray) os:=by unfold sortWorld;rw[qih,<-Array.toList_map]
  rw[<-I]at G;have R:=qri x.2 G.drop;have V:=qri y.2 G.drop;exact Calls.mono (qru R.1 V.1 R.2 V.2) λe w' ⟨v,A,hv,C⟩=>⟨by rw[A,hv];rfl,C⟩
end
end
section
section
variable{W w:World}{F l:List Asn}{c:qy}{P:qe1}{x b:Nat}{q:qb5}{rp:Option Addr}{rc n:Nat}{v v':Wd}{e:EvD}{L:qn}{o:List (Int×Nat)}{k:Int}{m:Nat}{Ls:List (Int×qn)}{res:Bool}
def qsv{p:Option Ab}{z:Nat}{d:List (Int×Nat)}(l:∀y∈d,y∈o)(D:d.length<=1000000)(t:Rd F p (d.map λy=>qc y.2))(B:ql1 F c)(b:v.anyA c n (d.map (·.1))=A1 (v',res))(f:St W (wld o c P x q rp rc v F) w):
 qb Zp 164 #[Zl p d.length z,.func (.func 103) #[qc x] #[]] w λr w'=>∃i,r=Zi Zk i/\decide (i>=0)=res/\∃rp rc,St W (wld o c P x q rp rc v' F) w':=by
 refine F164_of ⟨λvs w=>∃(i:Nat) (u:Wd) (rp:Option Ab) (rc:Nat),vs=[Zi Zk i]/\i<=d.length/\u.anyA c n ((d.drop i).map (·.1))=A1 (v',res)/\St W (wld o c P x q rp rc u F) w,leftN d.length,⟨0,v,rp,rc,rfl,by omega,b,f⟩,λx w A=>?_⟩;clear f b;obtain⟨i,u,rp,rc,s,E,b,f⟩:=A;cases s;refine za (λe=>?_) λj=>?_
 .have e:i<d.length:=by have:=yC e;omega
  have k:=A6 e;rw[Ae e,Aa]at b;generalize d[i]=y at k b;refine z0l t.w6 f rfl e (v:=qc y.2) (by rw[Ai,k];rfl) λa g=>LdP.at g ?_;unfold Wd.anyA at b;cases g:u.answer c n y.1 with
  |none=>rw[g]at b;cases b
  |some r2=>
  obtain⟨u2,G⟩:=r2;rw[g]at b;dsimp only at b;refine zw (by kernel_rfl) ((q1o (l _ (List.mem_of_getElem? k)) B g f).of λr w ⟨C,rp,rc,f⟩=>⟨_,C,za (λh=>?_) λh=>?_⟩)
  .rw[yB h]at b;cases b;exact⟨_,rfl,by simp,rp,rc,f⟩
  .rw[yA (by rw[h];simp)]at b;rw[up e (by omega)];exact⟨⟨i+1,u2,rp,rc,rfl,by omega,b,f⟩,by show d.length -(i+1)<d.length - i;omega⟩
 have m:i=d.length:=by have:=yD j;omega
 subst m;rw[Ay]at b;cases b;exact⟨_,rfl,rfl,rp,rc,f⟩
def qng{α β:Type}(l:List α)(f:α->β):(l.attach.map λy:{ y//y∈l}=>f y.1)=l.map f:=by simp
def qye{α β:Type}{g:α->Option β}{f:α->β}:∀l:List α,(∀y∈l,g y=A1 (f y))->l.filterMap g=l.map f
 |[],_=>rfl
 |a::r,h=>by rw[List.filterMap_cons,h a A7,Aa,qye r λy w=>h y (Ak _ w)]
def q9f{α β:Type}(f:α->β):∀(l:List β) (m:List α),l.Perm (m.map f)->∃z:List α,z.Perm m/\z.map f=l
 |[],m,h=>by
  have:=h.nil_eq;cases m with
  |nil=>exact⟨[],.refl _,rfl⟩
  |cons _ _=>cases this
 |a::r,m,h=>by
  obtain⟨y,c,rfl⟩:=A4.1 (h.subset A7);obtain⟨s,t,rfl⟩:=Bb c;have w:r.Perm ((s++t).map f):=by rw[Af,Aa]at h;have:=h.trans Az;rw[Af];exact List.Perm.cons_inv this
  obtain⟨z,b,d⟩:=q9f f r _ w;exact⟨y::z,(b.cons y).trans Az.symm,by rw[Aa,d]⟩
set_option maxHeartbeats 1000000 in
def q9t(Z:ql1 F c)(m:v.back c n=A1 (v',res))(d:St W (wld [] c P x q rp rc v F) w):
 qb Zp 61 #[qc x] w λr w'=>r=Zb res/\∃rp rc,St W (wld [] c P x q rp rc v' F) w':=by
 unfold Wd.back at m;by_cases D:¬v.nos.Nodup\/1000000<v.lines.length\/v.nos.all (λn=>decide (0<=n/\n<=1000000))=Av;.rw[yB D]at m;cases m
 rw[yA D]at m;rw[not_or,not_or]at D;obtain⟨j,O,l⟩:=D;have j:v.nos.Nodup:=Classical.not_not.1 j;have l:∀n∈v.nos,0<=n/\n<=1000000:=λn T=>by
  have h1:v.nos.all (λn=>decide (0<=n/\n<=1000000))=B4:=by
   cases h:v.nos.all (λn=>decide (0<=n/\n<=1000000))with
   |true=>rfl
   |false=>exact yI h l
  simpa using List.all_eq_true.1 h1 n T
 obtain⟨bs,⟨E,_⟩,d⟩:=wld.open_ d;have s:(bs.map (·.1)).Nodup:=by have:=z18 kI (d.at 3 rfl);rwa[qx5]at this
 have g:v.nos=bs.map λy=>y.2.2.no:=by unfold Wd.nos;rw[<-E];unfold qx;rw[Ah];rfl
 have f:bs.length=v.lines.length:=by rw[<-E,q46]
 refine F61_of (z7 (zv 0 d rfl rfl (F100_of (zh d λcap w d=>?_))));have d:St W (Row cap 78 [.map (A1 q.ml)]::qg (Zi Zk) qc q.ml (qx (A0 (α:=Nat) (β:=qn)) bs)::Row x 81 (qb8 q rp rc v.row.length v.draw)::qb2 c q.bx q.p v.b::AgW q.a P v.g::q51 38 4 rp v.row.length rc (v.row.flatMap q21)::qg (Zi Zk) qr1 q.ms v.S::qz (bs.map λy:Int×Nat×qn=>qp1 y.2.1 y.2.2)::F) w:=zl 8 [0,4,1,2,3,5,6,7] d rfl;refine F99_of (F161_of ((AppL.AppSeq_spec (by kernel_rfl) (by rw[q46,f];omega) (qps (B5 _)) d).of λr w ⟨L,p,N,B,o,d⟩=>⟨_,_,_,B,_,_,_,rfl,?_⟩));have J:L.Perm (bs.attach.map λy:LnT bs=>y.1.2.1):=by
  have e:(bs.attach.map λy:LnT bs=>y.1.2.1)=(qx (A0 (α:=Nat) (β:=qn)) bs).map (·.2):=by unfold qx;rw[Ah,qng bs (λy=>y.2.1)];rfl
  rw[e];exact o
 obtain⟨zs,M,rfl⟩:=q9f _ _ _ J;have H:zs.length=bs.length:=by rw[M.length_eq,List.length_attach]
 have d:St W (qi 75 1 p (zs.map λy:LnT bs=>y.1.2.1).length N ((zs.map λy:LnT bs=>y.1.2.1).flatMap λx=>[qc x])::Row cap 78 [.map (A1 q.ml)]::qg (Zi Zk) qc q.ml (qx (A0 (α:=Nat) (β:=qn)) bs)::Row x 81 (qb8 q rp rc v.row.length v.draw)::qb2 c q.bx q.p v.b::AgW q.a P v.g::q51 38 4 rp v.row.length rc (v.row.flatMap q21)::qg (Zi Zk) qr1 q.ms v.S::qz (bs.map λy:Int×Nat×qn=>qp1 y.2.1 y.2.2)::F) w:=d;rw[qt6,Ah,A5]at d;have d:=zf 8 1 d rfl;rw[A5];refine(qqr (zs:=zs) (by omega) (by rw[<-g];exact j) (λy C=>l _ (by rw[g];exact A4.2 ⟨y,C,rfl⟩)) d).of λr w ⟨B,d⟩=>⟨B,_,_,_,rfl,?_⟩;have t:∀y∈(q91 leN zs).map (λy:LnT bs=>(y.1.1,y.1.2.1)),y∈bs.map λy=>(y.1,y.2.1):=λy C=>by obtain⟨u,_,rfl⟩:=A4.1 C;exact A4.2 ⟨u.1,u.2,rfl⟩
 have G:(q91 leN zs).length=zs.length:=(qv1 leN zs).length_eq;have I:v.byNo=((q91 leN zs).map (λy:LnT bs=>(y.1.1,y.1.2.1))).map (·.1):=by
  unfold Wd.byNo;have Q:q91 leI v.nos=(q91 leN zs).map qe3:=by rw[q5a qe3 (le:=leN) (le':=leI) (λa b=>rfl)];refine q88 ?_;rw[g];have:=(M.map qe3).symm;have X:bs.attach.map qe3=bs.map λy=>y.2.2.no:=qng bs (λy=>y.2.2.no);rw[X]at this;exact this
  rw[Q,List.filterMap_map,Ah];refine qye _ (λy _=>?_);have Y:(y.1.1,y.1.2.2)∈v.lines:=by rw[<-E];exact A4.2 ⟨y.1,y.2,rfl⟩
  have:=q8p (by exact j) Y;show(v.find (qe3 y)).map (·.1)=A1 y.1.1;unfold Wd.find qe3;rw[this];rfl
 rw[I]at m;generalize k:(q91 leN zs).map (λy:LnT bs=>(y.1.1,y.1.2.1))=ps at t m;have z:ps.length=zs.length:=by rw[<-k,A5,G]
 have A:(q91 leN zs).map lnE=ps.map λy=>qc y.2:=by rw[<-k,Ah];rfl
 rw[A]at d;have d:St W (wld (bs.map λy=>(y.1,y.2.1)) c P x q rp rc v (qi 75 1 p zs.length N (ps.map λy=>qc y.2)::F)) w:=
  wld.shut E (λy C=>by obtain⟨u,U,rfl⟩:=A4.1 C;exact⟨u.2.2,q24 s U⟩) (zl 9 [4,5,6,3,7,8,1,0] d rfl)
 rw[<-z]at d⊢;refine F102_of ((qsv t (by rw[z,H,f];omega) (z0j _) (Z.cons _) m d).of λr w ⟨i,B,V,rp,rc,d⟩=>⟨_,B,_,by rw[V],rfl,rp,rc,?_⟩);have d:=d.del 6 rfl;obtain⟨R,⟨K,_⟩,d⟩:=wld.open_ d;exact wld.shut K (by simp) d
end
end
end Go.Proofs.YtfjifcfbmhpcaaaGreatDoor
