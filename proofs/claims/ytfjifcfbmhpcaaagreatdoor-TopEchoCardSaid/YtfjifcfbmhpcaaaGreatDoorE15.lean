/-
  A part of the proof of TopEcho.
-/
import Derived.Test.YtfjifcfbmhpcaaaGreatDoorE14
import Derived.Test.YtfjifcfbmhpcaaaGreatDoorE02
import Derived.Test.YtfjifcfbmhpcaaaGreatDoorE00
set_option linter.defProp false
set_option linter.unusedVariables false
set_option linter.unusedSimpArgs false
namespace Go.Proofs.YtfjifcfbmhpcaaaGreatDoor
open Go
open Go.Proofs.Tryz renaming prog → Zp
open Go.IntKind renaming i64 → Zk, wrap → Zw
open Go.Addr renaming add → Za
open Go.Value renaming int → Zi, string → Zs, pointer → Zq, bool → Zb, tuple → Zt, slice → Zl, agg → Zg
open _root_.Option renaming none->A0,some->A1
open Go.IntKind renaming bits->A2
open Go renaming Value->A3,World->A4,Addr->Aw,FuncId->B3,LoopState->B5,Code->Bd,TypeId->Bj,Operand->Bl,Program->Bm
open _root_.List renaming getElem?_eq_some_iff->A5,map_cons->A6,getElem?_of_mem->A9,getElem?_eq_getElem->Ab,replicate->Ac,not_mem_nil->Ad,map_append->Af,findIdx?_eq_some_iff_getElem->Ag,length_cons->Ah,length_take->Ai,mem_cons->Aj,length_nil->Ak,map_congr_left->Am,mem_map->An,getElem?_map->As,take_of_length_le->Au,find?_cons->Av,perm_append_comm->Ax,map_take->Ay,append_assoc->B0,foldl_append->B1,perm_middle->B2,mem_append->B7,mem_filter->B9,nodup_cons->Ba,drop_zero->Bc,map_map->Be,flatMap->Bg
open _root_.Bool renaming false->A7,true->A8,and_eq_true->B4
open _root_.BitVec renaming ofInt->Aa
open Go.Value renaming nilFunc->Ae
open _root_.Nat renaming sub_zero->Ao,add_sub_cancel->Az,mul_one->B6,zero_mul->Bf,le_refl->Bi
open _root_.Array renaming getD_eq_getD_getElem?->Ap,getElem?_append_left->Ar,replicate->Bb
open Go.Op renaming equalIn->Aq,eqFields->Bh
structure qk1 where
 k:Int
 A:ByteArray
 B:ByteArray
 N:Int
 M:Int
deriving DecidableEq,Inhabited
structure qm6 where
 k:Int
 line:Int
 m:qk1
deriving DecidableEq,Inhabited
abbrev ql2(m:qk1):A3:=Zg #[Zi Zk m.k,Zs m.A,Zs m.B,Zi Zk m.N,Zi Zk m.M]
def qia(a:qm6):List A3:=[Zi Zk a.k,Zi Zk a.line,Zi Zk a.m.k,Zs a.m.A,Zs a.m.B,Zi Zk a.m.N,Zi Zk a.m.M]
def uInt:Zp.underlying 3=A1 (.int Zk):=Tryz.underlying3
def eqF(d:Nat)(xs h:Array A3):List (Bool×Bj×Nat)->Sem Bool
 |[]=>pure A8
 |f::fs=>match f.1 with
  |true=>do
   let a <-part f.2.1 xs f.2.2;let b <-part f.2.1 h f.2.2;let r <-Aq d f.2.1 a b
   if(!r)=A8 then pure A7 else eqF d xs h fs
  |false=>eqF d xs h fs
def qhm(f:Field):Bool×Bj×Nat:=(decide (f.name≠ "_"),f.type,f.offset)
def qhh(d:Nat)(xs a:Array A3):∀w:List Field,Bh d xs a w=eqF d xs a (w.map qhm)
 |[]=>rfl
 |f::w=>by
  have b:=qhh d xs a w;simp only[Bh,A6,eqF,qhm];by_cases h:f.name≠ "_"
  .rw[yB h,yG h];simp only[b]
  .rw[yA h,yH h,b]
def qjr:Zp.plainKey 3=A8:=by kernel_rfl
def pS:Zp.plainKey 9=A8:=by kernel_rfl
def qow(a b:Int):(a==b)=decide (a=b):=by rw[Bool.eq_iff_iff];simp
def qex:∃a b c,Zp.underlying 211=A1 (.func a b c):=⟨_,_,_,Tryz.underlying211⟩
def qce(t:Bj)(x y:A3)(h:(∃f a b,x=.func f a b)\/x=.nilFunc)(c:y=.nilFunc)(w:A4):(binOp .eql t x y).run Zp w=((Aq 10000 t x y).run Zp w).andThen λb w'=>.ok (Zb b) w':=by subst c;rcases h with ⟨f,a,b,rfl⟩|rfl<;>(simp only[binOp];simp[Op.equal,Op.maxDepth])
def qbr(d:Nat)(f:Fn)(x y:Array A3)(w:A4):(Aq (d+1) 211 (.func f x y) .nilFunc).run Zp w=.ok A7 w:=by obtain⟨a,b,c,h⟩:=qex;simp[Aq,run_underlying h]
def q7s(d:Nat)(w:A4):(Aq (d+1) 211 .nilFunc .nilFunc).run Zp w=.ok A8 w:=by obtain⟨a,b,c,h⟩:=qex;simp[Aq,run_underlying h]
def q6i{d h:Bl}{x:A3}(c:(∃f a b,x=.func f a b)\/x=.nilFunc)(w:A4):(eqGuard .eql 211 d h x .nilFunc).run Zp w=.ok () w:=by rcases c with ⟨f,a,b,rfl⟩|rfl<;>rfl
def qv01{a h:Bl}(f:Fn)(x y:Array A3)(w:A4):Sem.run Zp (do eqGuard .eql 211 a h (.func f x y) Ae;binOp .eql 211 (.func f x y) Ae) w=.ok (Zb A7) w:=by simp only[Sem.run_bind,q6i (.inl ⟨f,x,y,rfl⟩) w,Result.andThen_ok,qce _ _ _ (.inl ⟨f,x,y,rfl⟩) rfl];rw[show(10000:Nat)=9999+1 from rfl,qbr];rfl
def qbz{a h:Bl}(w:A4):Sem.run Zp (do eqGuard .eql 211 a h Ae Ae;binOp .eql 211 Ae Ae) w=.ok (Zb A8) w:=by simp only[Sem.run_bind,q6i (.inr rfl) w,Result.andThen_ok,qce _ _ _ (.inr rfl) rfl];rw[show(10000:Nat)=9999+1 from rfl,q7s];rfl
structure qe1 where
 ten:ByteArray
 tok:ByteArray
 sec:ByteArray
 nam:ByteArray
 ttl:Int
 every:Int
structure LD where
 b:Nat
 no:Int
 tk:ByteArray
 st:Nat
structure AG where
 held:Bool
 epoch:Int
 last:Int
 next:Int
 L:List LD
def e0:ByteArray:=⟨#[]⟩
def qm(s:ByteArray):List UInt8:=s.data.toList
def qt7(P:qe1)(x:ByteArray):ByteArray:=mkS (q07 (qm P.sec) [qm P.ten,qm P.tok,qm x])
def q73(no:Int)(m:qk1):qm6:=⟨2,no,m⟩
def qwf(no:Int):qm6:=⟨1,no,⟨0,e0,e0,0,0⟩⟩
def q7a(P:qe1):qk1:=⟨1,P.ten,P.tok,0,0⟩
def q27(P:qe1):qk1:=⟨6,P.nam,e0,P.ttl,0⟩
def maxN:Int:=1099511627776
def q14(now:Int):Prop:=0<=now/\now<=maxN
instance (n:Int):Decidable (q14 n):=by unfold q14;infer_instance
def qg2(G:AG)(no:Int):Option LD:=G.L.find? λd=>decide (d.no=no)
def setSt(G:AG)(no:Int)(st:Nat):AG:={ G with L:=G.L.map λd=>if d.no=no then { d with st:=st}else d}
def qp4(P:qe1)(G:AG)(no:Int)(tk:ByteArray)(b:Nat):AG×List qm6:=({ G with L:=G.L++[⟨b,no,tk,0⟩]},[qwf no,q73 no (q7a P)])
def qo3(P:qe1)(G:AG)(b:Nat):AG×List qm6:=if(qg2 G 0).isSome then(G,[])else qp4 P G 0 e0 b
def qe2(P:qe1)(G:AG)(m:qk1)(now:Int)(b:Nat):AG×List qm6:=
 if m.A=P.nam/\m.k=7 then({ G with held:=A8,epoch:=m.N,last:=now},[])
 else if m.A=P.nam/\m.k=10/\G.held=A8/\m.N=G.epoch then({ G with held:=A7,epoch:=0},[q73 0 (q27 P)])
 else if m.A=P.nam/\m.k=11/\G.next<1000 then qp4 P { G with next:=G.next+1} G.next m.B b
 else(G,[])
def q22(P:qe1)(G:AG)(no:Int)(m:qk1)(now:Int)(b:Nat):AG×List qm6:=
 match qg2 G no with
 |none=>(G,[])
 |some d=>
  if d.st=3\/¬q14 now then(G,[])
  else if d.st=0 then(if m.k=2 then(setSt G no 1,[q73 no ⟨3,qt7 P m.A,e0,0,0⟩])else(G,[]))
  else if d.st=1 then(if m.k=4 then(if no=0 then(setSt G no 2,[q73 0 (q27 P)])else(setSt G no 3,[q73 no ⟨12,e0,d.tk,0,0⟩]))else(G,[]))
  else qe2 P G m now b
def qh5(G:AG)(no:Int):Bool:=match qg2 G no with
 |none=>A7
 |some d=>decide (2<=d.st)
def qd3(P:qe1)(G:AG)(now:Int)(b:Nat):AG×List qm6:=
 if(qg2 G 0).isNone then qo3 P G b
 else if qh5 G 0=A8/\G.held=A8/\q14 now/\¬now - G.last<P.every then({ G with last:=now},[q73 0 ⟨8,P.nam,e0,G.epoch,P.ttl⟩])
 else(G,[])
def qn6(G:AG)(no:Int):AG×Bool:=
 if(qg2 G no).isNone then(G,A7)
 else if no=0 then({ G with L:=[],held:=A7,epoch:=0},A8)
 else({ G with L:=G.L.filter λd=>decide (d.no≠no)},A8)
structure AOk(G:AG):Prop where
 nod:(G.L.map (·.no)).Nodup
 nos:∀d∈G.L,0<=d.no/\d.no<G.next
 sts:∀d∈G.L,d.st<=3/\(d.st=2->d.no=0)/\(d.st=3->d.no≠0)
 next:1<=G.next/\G.next<=1000
 last:q14 G.last
def AOk.new:AOk ⟨A7,0,0,1,[]⟩:=⟨.nil,by simp,by simp,by simp,by decide⟩
def q36{G:AG}{no:Int}{d:LD}(h:qg2 G no=A1 d):d∈G.L/\d.no=no:=by unfold qg2 at h;exact⟨List.mem_of_find?_eq_some h,by simpa using List.find?_some h⟩
def qwc{G:AG}{no:Int}:qg2 G no=A0↔∀d∈G.L,d.no≠no:=by unfold qg2;rw[List.find?_eq_none];simp
def q5u(G:AG)(no:Int)(st:Nat):(setSt G no st).L.map (·.no)=G.L.map (·.no):=by unfold setSt;rw[Be];refine Am λd _=>?_;simp only[Function.comp_apply];split<;>rfl
def qpj{G:AG}{no:Int}{st:Nat}{d:LD}(h:d∈(setSt G no st).L):∃d0∈G.L,d.no=d0.no/\d.tk=d0.tk/\((d0.no=no/\d.st=st)\/(d0.no≠no/\d=d0)):=by
 unfold setSt at h;obtain⟨d0,w,rfl⟩:=An.1 h;refine⟨d0,w,?_⟩;split;.rename_i e;exact⟨rfl,rfl,.inl ⟨e,rfl⟩⟩
 .rename_i e;exact⟨rfl,rfl,.inr ⟨e,rfl⟩⟩
def AOk.setSt{G:AG}(h:AOk G){no:Int}{st:Nat}(g:st<=3)(i:st=2->no=0)(f:st=3->no≠0):AOk (setSt G no st):=by
 refine⟨by rw[q5u];exact h.nod,λd w=>?_,λd w=>?_,h.next,h.last⟩
 .obtain⟨d0,b,e,_⟩:=qpj w;rw[e];exact h.nos d0 b
 .obtain⟨d0,b,e,_,⟨c,a⟩|⟨c,a⟩⟩:=qpj w;.rw[a,e,c];exact⟨g,i,f⟩
  .rw[a];exact h.sts d0 b
def AOk.open_{P:qe1}{G:AG}(h:AOk G){no:Int}{tk:ByteArray}{b:Nat}(g:0<=no)(e:no<G.next)(f:qg2 G no=A0):AOk (qp4 P G no tk b).1:=by
 unfold qp4;refine⟨?_,λd w=>?_,λd w=>?_,h.next,h.last⟩
 .dsimp only;rw[Af,List.nodup_append];refine⟨h.nod,by simp,λx c y a=>?_⟩;simp at a;obtain⟨d,w,rfl⟩:=An.1 c;rw[a];exact qwc.1 f d w
 .rcases B7.1 w with w|w;.exact h.nos d w
  .simp at w;subst w;exact⟨g,e⟩
 .rcases B7.1 w with w|w;.exact h.sts d w
  .simp at w;subst w;simp
def AOk.lost{G:AG}(h:AOk G)(no:Int):AOk (qn6 G no).1:=by
 unfold qn6;split;.exact h
 .split;.exact⟨.nil,by simp,by simp,h.next,h.last⟩
  .refine⟨h.nod.sublist (List.Sublist.map _ List.filter_sublist),λd w=>h.nos d (B9.1 w).1,λd w=>h.sts d (B9.1 w).1,h.next,h.last⟩
section
def add0(a:Aw):Za a 0=a:=rfl
def kI:qw2 Zp 3 (Zi Zk):=qw2.i64 uInt
def uM:Zp.underlying 143=A1 (.map 3 141):=Tryz.underlying143
def iPt:Zp.info? 141=A1 Tryz.t141:=by kernel_rfl
def zPt:Tryz.t141.zero=A1 (Zq A0):=rfl
def qix:Zp.underlying 83=A1 (.slice 136):=Tryz.underlying83
def iAct:Zp.info? 136=A1 Tryz.t136:=by kernel_rfl
def sAct:Tryz.t136.size=7:=rfl
def zAct:∃z,Tryz.t136.zero=A1 z/\z.cells.size=7:=⟨_,rfl,rfl⟩
def bAct:Tryz.t136.bytes<=100:=by decide+kernel
def q8l(a:qm6):(qia a).length=7:=rfl
def qr01(a:qm6):∀v∈qia a,qn1 v:=λv h=>by simp[qia]at h;rcases h with rfl|rfl|rfl|rfl|rfl|rfl|rfl<;>trivial
def qc(a:Nat):A3:=Zq (A1 ⟨a,0,A0⟩)
def qec(a:Nat):Nat->A3
 |0=>.func (.func 157) #[qc a] #[]
 |1=>.func (.func 240) #[qc a] #[]
 |2=>.func (.func 290) #[qc a] #[]
 |_=>.nilFunc
def q98(a:Nat)(d:LD):List A3:=[Zi Zk d.no,Zs d.tk,qec a d.st,Zb (decide (2<=d.st))]
def qz4(a:Nat)(d:LD):Asn:=Row d.b 213 (q98 a d)
def q92(a:Nat)(L:List LD):Asn:=qz (L.map (qz4 a))
def keyD(L:List LD):List (Int×Nat):=L.map λd=>(d.no,d.b)
def agC(P:qe1)(m:Nat)(G:AG):List A3:=[Zs P.ten,Zs P.tok,Zs P.sec,Zs P.nam,Zi Zk P.ttl,Zi Zk P.every,.map (A1 m),Zb G.held,Zi Zk G.epoch,Zi Zk G.last,Zi Zk G.next]
def qv8(P:qe1):Prop:=P.sec.size<=9223372036854775807
abbrev AgL(a:Nat)(P:qe1)(m:Nat)(G:AG)(F:List Asn):List Asn:=Row a 145 (agC P m G)::qg (Zi Zk) qc m (keyD G.L)::q92 a G.L::F
def qv(a:Nat)(P:qe1)(G:AG):Asn:=exA λm:Nat=>qz [prA (AOk G/\qv8 P),Row a 145 (agC P m G),qg (Zi Zk) qc m (keyD G.L),q92 a G.L]
def erase_perm{α:Type}:∀(l:List α) (i:Nat) {x:α},l[i]?=A1 x->l.Perm (x::l.eraseIdx i)
 |[],i,x,h=>by simp at h
 |y::r,0,x,h=>by simp at h;subst h;exact .refl _
 |y::r,i+1,x,h=>((erase_perm r i (by simpa using h)).cons y).trans (List.Perm.swap _ _ _)
def set_erase{α:Type}:∀(l:List α) (i:Nat) (y:α),i<l.length->(l.set i y).Perm (y::l.eraseIdx i)
 |[],i,y,h=>by simp at h
 |x::r,0,y,h=>.refl _
 |x::r,i+1,y,h=>((set_erase r i y (by simpa using h)).cons x).trans (List.Perm.swap _ _ _)
def qiw(L:List LD)(no:Int):qe (keyD L) no=(L.find? λd=>decide (d.no=no)).map (·.b):=by
 induction L with
 |nil=>rfl
 |cons d r w=>
  unfold keyD at w⊢;simp only[A6,qe,Av];by_cases h:d.no=no;.simp[h]
  .simp[h,w]
def qj7(G:AG)(no:Int):qe (keyD G.L) no=(qg2 G no).map (·.b):=qiw G.L no
def set_eq{L:List LD}{i:Nat}{d:LD}{no:Int}{st:Nat}(a:(L.map (·.no)).Nodup)(w:L[i]?=A1 d)(b:d.no=no):L.set i { d with st:=st}=L.map λd=>if d.no=no then { d with st:=st}else d:=by
 induction L generalizing i with
 |nil=>simp at w
 |cons x r c=>
  simp only[A6,Ba]at a;cases i with
  |zero=>simp at w;subst w;rw[List.set_cons_zero,A6,yB b];congr 1;refine(List.map_id _).symm.trans (Am λy f=>?_);have:y.no≠no:=λe=>a.1 (by rw[b,<-e];exact An.2 ⟨y,f,rfl⟩);rw[yA this];rfl
  |succ i=>
   have h:r[i]?=A1 d:=by simpa using w
   have:x.no≠no:=λe=>a.1 (by rw[e,<-b];exact An.2 ⟨d,List.mem_of_getElem? h,rfl⟩);rw[List.set_cons_succ,A6,yA this,c a.2 h]
section
variable{W w:World}{F:List Asn}{a m:Nat}{P:qe1}{G:AG}{L:List LD}{i:Nat}{d:LD}
def q92.take(h:St W (q92 a L::F) w)(c:L[i]?=A1 d):St W (qz4 a d::q92 a (L.eraseIdx i)::F) w:=by have e:St W (L.map (qz4 a)++F) w:=h.of_sep;have b:St W ((d::L.eraseIdx i).map (qz4 a)++F) w:=e.perm (((erase_perm L i c).map (qz4 a)).append_right F);exact(zk (l:=(L.eraseIdx i).map (qz4 a)) (z0c b (by simp only[A6,List.cons_append];exact(B2 (l₁:=(L.eraseIdx i).map (qz4 a)) (a:=qz4 a d) (l₂:=F)).symm))).p1
def q92.give{y:LD}(b:i<L.length)(h:St W (qz4 a y::q92 a (L.eraseIdx i)::F) w):St W (q92 a (L.set i y)::F) w:=by have c:St W ((L.eraseIdx i).map (qz4 a)++(qz4 a y::F)) w:=St.of_sep h.p1;refine zk (z0c c ?_);exact B2.trans (((set_erase L i y b).symm.map (qz4 a)).append_right F)
def q92.cell(h:St W (q92 a L::F) w)(c:L[i]?=A1 d){j:Nat}{v:A3}(b:(q98 a d)[j]?=A1 v):w.cell? ⟨d.b,j,A0⟩=A1 v:=(q92.take h c).ld b
def q92.cut{p:LD->Bool}(h:St W (q92 a L::F) w):St W (q92 a (L.filter p)::F) w:=by
 have c:St W (L.map (qz4 a)++F) w:=h.of_sep;have b:(L.map (qz4 a)++F).Perm ((L.filter λx=>!p x).map (qz4 a)++((L.filter p).map (qz4 a)++F)):=by rw[<-B0,<-Af];exact(((Ax.trans (List.filter_append_perm p L)).symm).map _).append_right F
 exact zk (z0e _ (c.perm b))
def q92.add(h:St W (qz4 a d::q92 a L::F) w):St W (q92 a (L++[d])::F) w:=by have b:St W (L.map (qz4 a)++(qz4 a d::F)) w:=St.of_sep h.p1;refine zk ?_;rw[Af,B0];exact b
def qv.open_(h:St W (qv a P G::F) w):∃m,AOk G/\qv8 P/\St W (AgL a P m G F) w:=by obtain⟨m,h⟩:=h.of_ex;obtain⟨⟨c,b⟩,h⟩:=h.of_sep.of_pr;exact⟨m,c,b,h⟩
def qv.shut(c:AOk G)(b:qv8 P)(h:St W (AgL a P m G F) w):St W (qv a P G::F) w:=
 z01 m (zk (l:=[_,_,_,_]) (z02 ⟨c,b⟩ h))
def qv.ok(h:St W (qv a P G::F) w):AOk G/\qv8 P:=by obtain⟨m,c,b,_⟩:=qv.open_ h;exact⟨c,b⟩
abbrev qm2(p:Option Aw)(c:Nat)(l:List qm6):Asn:=SlA 136 7 qia p c l
def qsb(no:Int)(x:qk1)(h:St W F w):qb Zp 59 #[Zi Zk no,ql2 x] w λv w'=>∃p c,v=Zl p 1 c/\St W (qm2 p c [q73 no x]::F) w':=by refine F59_of (zh h λb w h=>z8 0 h rfl rfl (zg 0 h rfl rfl (zg 0 h rfl rfl (z8 0 h rfl rfl (z8 0 h rfl rfl (zh h λa w h=>⟨_,_,rfl,?_⟩))))));have h:St W (Row a 136 ([q73 no x].flatMap qia)::Row b 74 [Zi Zk x.k,Zs x.A,Zs x.B,Zi Zk x.N,Zi Zk x.M]::F) w:=h;exact(SlA.of_row (os:=[q73 no x]) q8l h).p1.drop
def qgk(now:Int)(b:St W F w):qb Zp 58 #[Zi Zk now] w λv w'=>v=Zb (decide (q14 now))/\St W F w':=by
 refine F58_of (za (λh=>⟨?_,b⟩) λh=>⟨?_,b⟩)
 .have h:=yC h;congr 1;rw[decide_eq_decide];exact⟨λa=>⟨h,a⟩,λa=>a.2⟩
 .have h:=yD h;rw[yH (λa:q14 now=>h a.1)]
def qrh(b:St W (qv a P G::F) w):qb Zp 291 #[qc a] w λv w'=>∃p c,v=Zl p 1 c/\St W (qm2 p c [q73 0 (q27 P)]::qv a P G::F) w':=by obtain⟨m,g,f,b⟩:=qv.open_ b;refine F291_of ?_;simp only[add0];have d:=z6 W (AgL a P m G F);refine⟨StC W _,zd b,z7 (z7 ⟨_,zu 0 d rfl rfl,_,zj 0 d rfl rfl,?_⟩)⟩;refine zn (α:=Option Aw×Nat) (V:=λy=>.slice y.1 1 y.2) (B:=λy=>qm2 y.1 y.2 [q73 0 (q27 P)]::AgL a P m G F) (A0,0) d (λi w h=>(qsb 0 (q27 P) h).of λv w' ⟨p,c,e,h⟩=>⟨_,_,_,e,(p,c),rfl,h⟩) λy=>⟨_,_,_,rfl,trivial,λi w h=>⟨_,_,rfl,?_⟩⟩;exact(qv.shut g f (zf 0 3 (zb h) rfl)).p1 |> λh=>h.p1.p1
def New_spec(P:qe1)(c:qv8 P)(h:St W F w):qb Zp 51 #[Zg #[Zs P.ten,Zs P.tok,Zs P.sec,Zs P.nam,Zi Zk P.ttl,Zi Zk P.every]] w λv w'=>∃a,v=qc a/\St W (qv a P ⟨A7,0,0,1,[]⟩::F) w':=by refine F51_of (zh h λe w h=>zg 0 h rfl rfl (zg 0 h rfl rfl (zg 0 h rfl rfl (zg 0 h rfl rfl (z8 0 h rfl rfl (z8 0 h rfl rfl (qs5.n (Zi Zk) qc h λm w1 h=>zh h λa w h=>⟨a,rfl,?_⟩)))))));have d:St W (Row a 145 (agC P m ⟨A7,0,0,1,[]⟩)::qg (Zi Zk) qc m []::Row e 69 [Zs P.ten,Zs P.tok,Zs P.sec,Zs P.nam,Zi Zk P.ttl,Zi Zk P.every]::F) w:=h.perm (List.Perm.cons _ Ax);have b:St W (q92 a []::Row a 145 (agC P m ⟨A7,0,0,1,[]⟩)::qg (Zi Zk) qc m []::F) w:=zk (l:=[]) (z04 2 d rfl);exact qv.shut AOk.new c (zf 0 2 b rfl)
def qjk(no:Int)(tk:ByteArray)(I:0<=no)(D:no<G.next)(r:qg2 G no=A0)(d:St W (qv a P G::F) w):
 qb Zp 94 #[qc a,Zi Zk no,Zs tk] w λv w'=>∃p c b,v=Zl p 2 c/\St W (qm2 p c (qp4 P G no tk b).2::qv a P (qp4 P G no tk b).1::F) w':=by
 obtain⟨m,C,x,d⟩:=qv.open_ d;refine F94_of ?_;unfold F94;simp only[add0];refine z7 (zv 0 d rfl rfl (zh d λb w d=>?_));have d:St W (qz4 a ⟨b,no,tk,0⟩::AgL a P m G F) w:=d;have A:qe (keyD G.L) no=A0:=by rw[qj7,r];rfl
 refine qh1 kI uM 2 d rfl no b λw d=>?_;rw[qbc A]at d;have j:AOk (qp4 P G no tk b).1:=C.open_ I D r;have d:St W (AgL a P m (qp4 P G no tk b).1 F) w:=by
  have e:keyD G.L++[(no,b)]=keyD (qp4 P G no tk b).1.L:=by unfold keyD qp4;rw[Af];rfl
  rw[e]at d;have l:St W (qz4 a ⟨b,no,tk,0⟩::q92 a G.L::Row a 145 (agC P m G)::qg (Zi Zk) qc m (keyD (qp4 P G no tk b).1.L)::F) w:=zf 3 1 d rfl;exact zf 0 2 (q92.add l) rfl
 generalize q:(qp4 P G no tk b).1=i at d j;have f:(qp4 P G no tk b).2=[qwf no,q73 no (q7a P)]:=rfl;have k:=z6 W (AgL a P m i F);refine⟨StC W _,zd d,z7 (z7 ⟨_,QtS.n 0 k rfl rfl,_,zu 0 k rfl rfl,?_⟩)⟩;refine zn (α:=Option Aw×Nat) (V:=λy=>.slice y.1 1 y.2) (B:=λy=>qm2 y.1 y.2 [q73 no (q7a P)]::AgL a P m i F) (A0,0) k (λi w h=>(qsb no (q7a P) h).of λv w' ⟨p,c,t,h⟩=>⟨_,_,_,t,(p,c),rfl,h⟩) λy=>⟨_,_,_,rfl,trivial,λg=>?_⟩;refine zn (α:=Option Aw×Nat) (V:=λz=>.slice z.1 2 z.2) (B:=λz=>qm2 z.1 z.2 [qwf no,q73 no (q7a P)]::AgL a P m i F) (A0,0) (ir.push g _) (λn w h=>?_) λz=>⟨_,_,_,rfl,trivial,λn w h=>⟨_,_,b,rfl,?_⟩⟩
 .have h:St W (Pt g (.cells #[(Zi Zk 1),(Zi Zk no),(Zi Zk 0),(Zs ⟨#[]⟩),(Zs ⟨#[]⟩),(Zi Zk 0),(Zi Zk 0)] 136)::qm2 y.1 y.2 [q73 no (q7a P)]::(AgL a P m i F++pts n)) w:=h;have l:St W (Row g 136 ([qwf no].flatMap qia)::qm2 y.1 y.2 [q73 no (q7a P)]::(AgL a P m i F++pts n)) w:=h.imp z0d;have u:=SlA.of_row (os:=[qwf no]) q8l l;obtain⟨z,s,o⟩:=zAct;have J:=bAct;refine qf3 (os:=[qwf no]) (xs:=[q73 no (q7a P)]) q8l qix (.inr ⟨_,qix⟩) iAct sAct s o 0 u rfl (z07 0 rfl λF=>z0l F) rfl qr01 (by simp only[Ah,Ak];omega) (by simp only[Ah,Ak];omega) λH E w' h=>⟨_,_,_,rfl,(H,E),rfl,?_⟩;exact z04 1 h rfl
 .have d:=zb h;rw[f,q];exact(qv.shut j x (zf 0 3 d rfl)).p1.p1.p1
def qii(e:St W (qv a P G::F) w):qb Zp 52 #[qc a] w λv w'=>∃p c b,v=Zl p (qo3 P G b).2.length c/\St W (qm2 p c (qo3 P G b).2::qv a P (qo3 P G b).1::F) w':=by
 have j:=qv.ok e;have i:=e;obtain⟨m,f,g,e⟩:=qv.open_ e;refine F52_of (z7 (zv 0 e rfl rfl (qq1 kI uM iPt zPt 1 e rfl 0 A8 ?_)));rw[yB rfl,qj7];unfold qo3;cases hl:qg2 G 0 with
 |some d=>refine⟨A1 ⟨d.b,0,A0⟩,A8,rfl,zm rfl ⟨A0,0,0,rfl,?_⟩⟩;exact z0a (qv.shut f g e)
 |none=>refine⟨A0,A7,rfl,zl rfl ?_⟩;exact(qjk 0 e0 (Int.le_refl _) (by have:=f.next;omega) hl (qv.shut f g e)).of λv w' ⟨p,c,b,k,h⟩=>⟨_,_,_,k,p,c,b,rfl,h⟩
def qgl(no:Int)(h:St W (qv a P G::F) w):qb Zp 57 #[qc a,Zi Zk no] w λv w'=>v=Zb (qh5 G no)/\St W (qv a P G::F) w':=by
 obtain⟨m,c,b,h⟩:=qv.open_ h;refine F57_of (z7 (zv 0 h rfl rfl (qq1 kI uM iPt zPt 1 h rfl no A8 ?_)));rw[yB rfl,qj7];unfold qh5;cases hl:qg2 G no with
 |some d=>obtain⟨i,e⟩:=A9 (q36 hl).1;exact⟨A1 ⟨d.b,0,A0⟩,A8,rfl,zm rfl (z7 (LdB.at (q92.cell (h.at 2 rfl) e (j:=3) rfl) ⟨rfl,qv.shut c b h⟩))⟩
 |none=>exact⟨A0,A7,rfl,zl rfl ⟨rfl,qv.shut c b h⟩⟩
def qrw(L:List LD)(w:(L.map (·.no)).Nodup)(no:Int):qp (keyD L) no=keyD (L.filter λd=>decide (d.no≠no)):=by
 induction L with
 |nil=>rfl
 |cons d r a=>
  simp only[A6,Ba]at w;unfold keyD at a⊢;simp only[A6,qp];by_cases h:d.no=no
  .rw[yB h,List.filter_cons_of_neg (by simpa using h),List.filter_eq_self.2];intro x b;have:x.no≠no:=λe=>w.1 (by rw[h,<-e];exact An.2 ⟨x,b,rfl⟩);simpa using this
  .rw[yA h,List.filter_cons_of_pos (by simpa using h),a w.2];rfl
def q8t(no:Int)(h:St W (qv a P G::F) w):qb Zp 106 #[qc a,Zi Zk no] w λv w'=>v=Zb (qn6 G no).2/\St W (qv a P (qn6 G no).1::F) w':=by
 obtain⟨m,e,f,h⟩:=qv.open_ h;have b:=e.lost no;refine F106_of (z7 (zv 0 h rfl rfl (qq1 kI uM iPt zPt 1 h rfl no A8 ?_)));rw[yB rfl,qj7];unfold qn6 at b⊢;cases g:qg2 G no with
 |none=>
  refine⟨A0,A7,rfl,z7 (zv 0 h rfl rfl (qc5 kI uM 1 h rfl no λw h=>zl rfl ⟨rfl,?_⟩))⟩;have i:qe (keyD G.L) no=A0:=by rw[qj7,g];rfl
  rw[ql6 i]at h;exact qv.shut e f h
 |some d=>
  rw[g]at b;refine⟨A1 ⟨d.b,0,A0⟩,A8,rfl,z7 (zv 0 h rfl rfl (qc5 kI uM 1 h rfl no λw h=>zm rfl ?_))⟩;rw[yA (by simp)]at b⊢;by_cases c:no=0
  .rw[yB c]at b⊢;refine zm (by rw[c];rfl) (z7 (zv 0 h rfl rfl (qmy uM 1 h rfl λw h=>z7 (St1.zz 0 h rfl λw h=>z7 (St1.zz 0 h rfl λw h=>⟨rfl,?_⟩)))));have h:St W (Row a 145 (agC P m { G with L:=[],held:=A7,epoch:=0})::qg (Zi Zk) qc m []::q92 a G.L::F) w:=h;exact qv.shut b f (zf 0 2 (zk (l:=[]) (z04 2 h rfl)) rfl)
  .rw[yA c]at b⊢;refine zl (by simpa using c) ⟨rfl,?_⟩;have h:St W (Row a 145 (agC P m G)::qg (Zi Zk) qc m (qp (keyD G.L) no)::q92 a G.L::F) w:=h;rw[qrw _ e.nod]at h;exact qv.shut b f (zf 0 2 (q92.cut (zf 2 0 h rfl)) rfl)
end
def z14:=@qv.open_
end
section
def QtS.at{C:Cls}{a:Aw}{x:ByteArray}(h:∀G w,C.p G w->w.cell? a=A1 (Zs x)):Qt C (Zs x) λw K=>LdS a w λx=>K (Zs x) w:=λG w b=>z0y (h G w b) ⟨rfl,b⟩
def QtB.at{C:Cls}{a:Aw}{x:Bool}(h:∀G w,C.p G w->w.cell? a=A1 (Zb x)):Qt C (Zb x) λw K=>LdB a w λx=>K (Zb x) w:=λG w b=>LdB.at (h G w b) ⟨rfl,b⟩
def q61(x:qk1):List A3:=[Zi Zk x.k,Zs x.A,Zs x.B,Zi Zk x.N,Zi Zk x.M]
def q0n(G:AG)(no:Int)(st:Nat):keyD (setSt G no st).L=keyD G.L:=by unfold keyD setSt;rw[Be];refine Am λd _=>?_;simp only[Function.comp_apply];split<;>rfl
def qsh{G:AG}{no:Int}{st:Nat}{d:LD}(h:qg2 G no=A1 d):qg2 (setSt G no st) no=A1 { d with st:=st}:=by
 unfold qg2 setSt at*;dsimp only at h⊢;generalize G.L=L at h;induction L with
 |nil=>simp at h
 |cons x r ih=>
  rw[Av]at h;rw[A6,Av];by_cases w:x.no=no
  .simp only[w,decide_true,Option.some.injEq]at h;subst h;simp[w]
  .simp only[w,decide_false]at h;simp only[w,if_false,decide_false];exact ih h
section
variable{W w:World}{F:List Asn}{a m:Nat}{P:qe1}{G:AG}{no:Int}{d:LD}{x:qk1}{now:Int}
def AgL.step{st:Nat}{K:A4->Prop}(p:qg2 G no=A1 d)(q:(G.L.map (·.no)).Nodup)(b:decide (2<=st)=decide (2<=d.st))(l:St W (AgL a P m G F) w)(n:∀w',St W (AgL a P m (setSt G no st) F) w'->K w'):St1 ⟨d.b,2,A0⟩ (qec a st) w K:=by
 obtain⟨o,f⟩:=q36 p;obtain⟨i,g⟩:=A9 o;have c:=(A5.1 g).1;refine z0m 0 (q92.take (zf 2 0 l rfl) g) rfl (by simp[q98]) λw' h=>n w' ?_;have e:(q98 a d).set 2 (qec a st)=q98 a { d with st:=st}:=by unfold q98;rw[b];rfl
 have h:St W (qz4 a { d with st:=st}::q92 a (G.L.eraseIdx i)::Row a 145 (agC P m G)::qg (Zi Zk) qc m (keyD G.L)::F) w':=by unfold qz4;rw[<-e];exact h
 have k:=q92.give c h;rw[set_eq q g f]at k;have j:St W (Row a 145 (agC P m G)::qg (Zi Zk) qc m (keyD G.L)::q92 a (setSt G no st).L::F) w':=zf 0 2 k rfl;rw[<-q0n G no st]at j;exact j
def AgL.pass{st:Nat}{K:A4->Prop}(r:qg2 G no=A1 d)(s:(G.L.map (·.no)).Nodup)(j:2<=st)(o:St W (AgL a P m G F) w)(p:∀w',St W (AgL a P m (setSt G no st) F) w'->K w')
 {k:A4->Prop} (c:∀w1,w1.cell? ⟨d.b,0,A0⟩=A1 (Zi Zk d.no)->St1 ⟨d.b,2,A0⟩ (qec a st) w1 K->k w1):St1 ⟨d.b,3,A0⟩ (Zb A8) w k:=by
 obtain⟨q,f⟩:=q36 r;obtain⟨i,g⟩:=A9 q;have b:=(A5.1 g).1;refine z0m 0 (q92.take (zf 2 0 o rfl) g) rfl (by simp[q98]) λw1 h=>c w1 (h.ld rfl) ?_;refine z0m 0 h rfl (by simp[q98]) λw' h=>p w' ?_;have e:((q98 a d).set 3 (Zb A8)).set 2 (qec a st)=q98 a { d with st:=st}:=by unfold q98;rw[yG j];rfl
 have h:St W (qz4 a { d with st:=st}::q92 a (G.L.eraseIdx i)::Row a 145 (agC P m G)::qg (Zi Zk) qc m (keyD G.L)::F) w':=by unfold qz4;rw[<-e];exact h
 have l:=q92.give b h;rw[set_eq s g f]at l;have n:St W (Row a 145 (agC P m G)::qg (Zi Zk) qc m (keyD G.L)::q92 a (setSt G no st).L::F) w':=zf 0 2 l rfl;rw[<-q0n G no st]at n;exact n
def AgL.line{l0:List Asn}(e:qg2 G no=A1 d)(h:St W (AgL a P m G F) w){j:Nat}{v:A3}(b:(q98 a d)[j]?=A1 v):w.cell? ⟨d.b,j,A0⟩=A1 v:=by obtain⟨i,c⟩:=A9 (q36 e).1;exact q92.cell (h.at 2 rfl) c b
def qg8{F':List Asn}(h:St W F' w):St W (qm2 A0 0 []::F') w:=z0a h
def qch(s:ByteArray):Zs s=Zs (mkS (qm s)):=by unfold qm;rw[qd5]
def qfe(s:ByteArray):(qm s).length=s.size:=rfl
def qcq(N:qg2 G no=A1 d)(D:d.st=0)(l:St W (qv a P G::F) w):
 qb Zp 157 #[qc a,qc d.b,ql2 x,Zi Zk now] w λv w'=>∃p c,v=Zl p (if x.k=2 then(setSt G no 1,[q73 no ⟨3,qt7 P x.A,e0,0,0⟩])else(G,[])).2.length c/\
  St W (qm2 p c (if x.k=2 then(setSt G no 1,[q73 no ⟨3,qt7 P x.A,e0,0,0⟩])else(G,[])).2::qv a P (if x.k=2 then(setSt G no 1,[q73 no ⟨3,qt7 P x.A,e0,0,0⟩])else(G,[])).1::F) w':=by
 obtain⟨m,L,I,l⟩:=z14 l;obtain⟨R,J⟩:=q36 N;refine F157_of (zh l λf w l=>z8 0 l rfl rfl (za (λr=>?_) λr=>?_))
 .have r:¬x.k=2:=by simpa using r
  rw[yA r];exact⟨A0,0,rfl,qg8 (qv.shut L I l.drop)⟩
 have r:x.k=2:=by simpa using r
 rw[yB r];have u:AOk (setSt G no 1):=L.setSt (by omega) (by omega) (by omega);have l:St W (AgL a P m G (Row f 74 (q61 x)::F)) w:=zf 0 3 l rfl;refine z7 ⟨trivial,AgL.step (st:=1) N L.nod (by rw[D];rfl) l λw l=>?_⟩;have o:=qsh (st:=1) N;have A:P.sec.size<=9223372036854775807:=I;have s:∀{F':List Asn} {w:A4} {K:A3->A4->Prop},St W F' w->(∀b c w',(qm P.sec).length<=c->St W (Row b 5 ((qm P.sec).map qd++Ac (c -(qm P.sec).length) (Zi .u8 0))::F') w'->K (.slice (A1 ⟨b,0,A0⟩) (qm P.sec).length c) w')->Run Zp (convert 9 22 (Zs P.sec)) w K:=λ{F' w K} h hK=>by rw[qch];exact qcb uS uB uU8 h hK
 generalize T:setSt G no 1=G1 at l u o;have t:=z6 W (AgL a P m G1 (Row f 74 (q61 x)::F));refine⟨StC W _,zd l,z7 (z7 (z7 (z7 ⟨d.no,z0g λk w g=>?_,P.sec,QtS.at λk w g=>t.cell 0 rfl rfl g,P.ten,QtS.at λk w g=>t.cell 0 rfl rfl g,P.tok,QtS.at λk w g=>t.cell 0 rfl rfl g,x.A,QtS.at λk w g=>t.cell 3 rfl rfl g,?_⟩)))⟩;.exact AgL.line (l0:=[]) o ((t k w).1 g) (j:=0) rfl
 refine zn (α:={ y:Nat×Nat//(qm P.sec).length<=y.2}) (V:=λy=>.slice (A1 ⟨y.1.1,0,A0⟩) (qm P.sec).length y.1.2) (B:=λy=>Row y.1.1 5 ((qm P.sec).map qd++Ac (y.1.2 -(qm P.sec).length) (Zi .u8 0))::AgL a P m G1 (Row f 74 (q61 x)::F)) ⟨(0,(qm P.sec).length),Bi _⟩ t (λk w h=>s h λb c w' E h=>⟨_,_,_,rfl,⟨(b,c),E⟩,rfl,h⟩) λy=>?_;have n:=z6 W (Row y.1.1 5 ((qm P.sec).map qd++Ac (y.1.2 -(qm P.sec).length) (Zi .u8 0))::AgL a P m G1 (Row f 74 (q61 x)::F));refine⟨_,_,_,rfl,⟨QtS.at λk w g=>n.cell 4 rfl rfl g,QtS.at λk w g=>n.cell 1 rfl rfl g,QtS.at λk w g=>n.cell 1 rfl rfl g,z0g λk w g=>AgL.line (l0:=[]) o ((n k w).1 g).drop (j:=0) rfl⟩,λq=>?_⟩;have C:qt7 P x.A=mkS (q07 (qm P.sec) [qm P.ten,qm P.tok,qm x.A]):=rfl;refine zn (α:=Unit) (V:=λ_=>Zs (qt7 P x.A)) (B:=λ_=>AgL a P m G1 (Row f 74 (q61 x)::F)) () (n.push q _) (λk w h=>?_) λ_=>⟨_,rfl,z0g λk w g=>AgL.line (l0:=[]) o g (j:=0) rfl,?_⟩
 .have Q:St W (Row q 9 ([qm P.ten,qm P.tok,qm x.A].map qc8)::Row y.1.1 5 ((qm P.sec).map qd++Ac (y.1.2 -(qm P.sec).length) (Zi .u8 0))::(AgL a P m G1 (Row f 74 (q61 x)::F)++pts k)) w:=by
   have e:[qm P.ten,qm P.tok,qm x.A].map qc8=[Zs P.ten,Zs P.tok,Zs x.A]:=by simp only[A6,List.map_nil,qc8];rw[<-qch,<-qch,<-qch]
   rw[e];have h:St W (Pt q (.cells #[(Zs P.ten),(Zs P.tok),(Zs x.A)] 9)::Row y.1.1 5 ((qm P.sec).map qd++Ac (y.1.2 -(qm P.sec).length) (Zi .u8 0))::(AgL a P m G1 (Row f 74 (q61 x)::F)++pts k)) w:=h;exact h.imp z0d
  have M:Rd (Row q 9 ([qm P.ten,qm P.tok,qm x.A].map qc8)::Row y.1.1 5 ((qm P.sec).map qd++Ac (y.1.2 -(qm P.sec).length) (Zi .u8 0))::(AgL a P m G1 (Row f 74 (q61 x)::F)++pts k)) (A1 ⟨y.1.1,0,A0⟩) ((qm P.sec).map qd):=by refine Rd.cons (z0x 0 λi v O=>?_) _;rw[Nat.zero_add,List.getElem?_append_left (A5.1 O).1];exact O
  exact(qqe M y.2 (by rw[qfe];exact A) z0k (by simp) Q).of λv w' ⟨H,h⟩=>⟨_,H,(),by rw[C],h.drop.drop⟩
 refine zn (α:=Option Aw×Nat) (V:=λz=>.slice z.1 1 z.2) (B:=λz=>qm2 z.1 z.2 [q73 no ⟨3,qt7 P x.A,e0,0,0⟩]::AgL a P m G1 (Row f 74 (q61 x)::F)) (A0,0) ir (λk w h=>(qsb d.no ⟨3,qt7 P x.A,e0,0,0⟩ h).of λv w' ⟨p,c,H,h⟩=>⟨_,_,_,H,(p,c),rfl,by rw[J]at h;exact h⟩) λz=>⟨_,_,_,rfl,trivial,λk w h=>⟨_,_,rfl,?_⟩⟩;have l:=zb h;exact(qv.shut u I (zf 0 3 (z04 4 l rfl) rfl)).p1
def qun(t:qg2 G no=A1 d)(H:d.st=1)(b:St W (qv a P G::F) w):
 qb Zp 240 #[qc a,qc d.b,ql2 x,Zi Zk now] w λv w'=>∃p c,v=Zl p (if x.k=4 then(if no=0 then(setSt G no 2,[q73 0 (q27 P)])else(setSt G no 3,[q73 no ⟨12,e0,d.tk,0,0⟩]))else(G,[])).2.length c/\
  St W (qm2 p c (if x.k=4 then(if no=0 then(setSt G no 2,[q73 0 (q27 P)])else(setSt G no 3,[q73 no ⟨12,e0,d.tk,0,0⟩]))else(G,[])).2::qv a P (if x.k=4 then(if no=0 then(setSt G no 2,[q73 0 (q27 P)])else(setSt G no 3,[q73 no ⟨12,e0,d.tk,0,0⟩]))else(G,[])).1::F) w':=by
 obtain⟨m,o,C,b⟩:=z14 b;obtain⟨I,k⟩:=q36 t;refine F240_of (zh b λi w b=>z8 0 b rfl rfl (za (λg=>?_) λg=>?_))
 .have g:¬x.k=4:=by simpa using g
  rw[yA g];exact⟨A0,0,rfl,qg8 (qv.shut o C b.drop)⟩
 have g:x.k=4:=by simpa using g
 rw[yB g];have b:St W (AgL a P m G (Row i 74 (q61 x)::F)) w:=zf 0 3 b rfl;by_cases l:no=0
 .rw[yB l];have e:AOk (setSt G no 2):=o.setSt (by omega) (λ_=>l) (by omega);refine z7 (AgL.pass (st:=2) (K:=λw'=>qb Zp 291 #[qc a] w' λv w'=>AsL v λq s r=>∃p c,Zl q s r=.slice p [q73 0 (q27 P)].length c/\St W (qm2 p c [q73 0 (q27 P)]::qv a P (setSt G no 2)::F) w') t o.nod (by omega) b (λw' b=>?_) λw1 u D=>z7 (zy u (zm (by rw[k,l];rfl) (z7 ⟨trivial,D⟩))));exact(qrh (qv.shut e C b)).of λv w' ⟨p,c,A,h⟩=>⟨_,_,_,A,p,c,rfl,z04 2 h rfl⟩
 .rw[yA l];have e:AOk (setSt G no 3):=o.setSt (by omega) (by omega) (λ_=>l);refine z7 ?_;have f:=qsh (st:=3) t;refine AgL.pass (st:=3) t o.nod (by omega) b ?_ (λw1 u D=>z7 (zy u (zl (by rw[k];simpa using l) (z7 ⟨trivial,D⟩))));intro w' b;generalize J:setSt G no 3=G1 at b e f;have y:=z6 W (AgL a P m G1 (Row i 74 (q61 x)::F));refine⟨StC W _,zd b,z7 (z7 ⟨d.no,z0g λn w E=>AgL.line (l0:=[]) f ((y n w).1 E) (j:=0) rfl,d.tk,QtS.at λn w E=>AgL.line (l0:=[]) f ((y n w).1 E) (j:=1) rfl,?_⟩)⟩;refine zn (α:=Option Aw×Nat) (V:=λz=>.slice z.1 1 z.2) (B:=λz=>qm2 z.1 z.2 [q73 no ⟨12,e0,d.tk,0,0⟩]::AgL a P m G1 (Row i 74 (q61 x)::F)) (A0,0) y (λn w h=>(qsb d.no ⟨12,e0,d.tk,0,0⟩ h).of λv w' ⟨p,c,A,h⟩=>⟨_,_,_,A,(p,c),rfl,by rw[k]at h;exact h⟩) λz=>⟨_,_,_,rfl,trivial,λn w h=>⟨_,_,rfl,?_⟩⟩;have b:=zb h;exact(qv.shut e C (zf 0 3 (z04 4 b rfl) rfl)).p1
end
def z1b:=@QtS.at
end
section
section
variable{W w:World}{F:List Asn}{a m:Nat}{P:qe1}{G:AG}{no:Int}{d:LD}{x:qk1}{now:Int}
def qgs{f:Nat}{R:A3->A4->Prop}(g:¬(x.A=P.nam/\x.k=7))(j:¬(x.A=P.nam/\x.k=10/\G.held=A8/\x.N=G.epoch))(D:AOk G)(hP:qv8 P)(l:St W (Row f 74 (q61 x)::AgL a P m G F) w)
 (hR:∀v w',(∃p c b,v=Zl p (qe2 P G x now b).2.length c/\St W (qm2 p c (qe2 P G x now b).2::qv a P (qe2 P G x now b).1::F) w')->R v w'):
 Bif (ByteArray.toList x.A==ByteArray.toList P.nam) (
  LdI Zk (Za ⟨f,0,A0⟩ 0) w λh5=>
  Bif (h5==11) (
  qa (A1 ⟨a,0,A0⟩) λa82=>
  LdI Zk (Za a82 10) w λx83=>
  Bif (decide (x83<1000)) (
  qa (A1 ⟨a,0,A0⟩) λh0=>
  LdI Zk (Za h0 10) w λZ=>
  qa (A1 ⟨a,0,A0⟩) λa86=>
  St1 (Za a86 10) (Zi Zk (Zw Zk (Z+1))) w λh4=>
  ∃(k:Cls),Cls.p k [] h4/\
  qa (A1 ⟨a,0,A0⟩) λa89=>
  ∃(K:Int),Qt k (Zi Zk K) (λI K92=>
  LdI Zk (Za a89 10) I λh6=>
  K92 (Zi Zk h6) I)/\
  ∃(H:ByteArray),Qt k (Zs H) (λN h7=>
  LdS (Za ⟨f,0,A0⟩ 2) N λx97=>
  h7 (Zs x97) N)/\
  Ef k (λX E=>
  qb Zp 94 #[(Zq (A1 ⟨a,0,A0⟩)),(Zi Zk (Zw Zk (K - 1))),(Zs H)] X λM T=>
  AsL M λs C r=>
  E (Zl s C r) T) λQ h1=>
  AsL Q λq u z=>
  (True)/\
  ∀U o,Cls.p h1 U o->
  R (Zl q u z) o) (
  R (Zl A0 0 0) w)) (
  R (Zl A0 0 0) w)) (
  R (Zl A0 0 0) w):=by
 have hnx:=D.next;have A:¬(x.A=P.nam/\x.k=11/\G.next<1000)->R (Zl A0 0 0) w:=λh3=>by
  refine hR _ _ ⟨A0,0,0,?_,?_⟩;.unfold qe2;rw[yA g,yA j,yA h3];rfl
  .unfold qe2;rw[yA g,yA j,yA h3];exact qg8 (qv.shut D hP l.drop)
 rw[qv3];refine za (λO=>z8 0 l rfl rfl (za (λJ=>z7 (z8 1 l rfl rfl (za (λL=>?_) λL=>A (λh=>(yD L) h.2.2)))) λJ=>A (λh=>yI h.2.1 (by simpa using J)))) λO=>A (λh=>(yD O) h.1);have O:=yC O;have J:x.k=11:=by simpa using J
 have L:=yC L;refine z7 (z8 1 l rfl rfl (z7 ?_));rw[w64 (n:=G.next+1) (by omega) (by omega)];refine St1.zz 1 l rfl λw l=>?_;have l:St W (Row f 74 (q61 x)::AgL a P m { G with next:=G.next+1} F) w:=l;have h2:AOk { G with next:=G.next+1}:=⟨D.nod,λd hd=>by have:=D.nos d hd;exact⟨this.1,by show d.no<G.next+1;omega⟩,D.sts,⟨by show 1<=G.next+1;omega,by show G.next+1<=1000;omega⟩,D.last⟩;have t:qg2 { G with next:=G.next+1} G.next=A0:=qwc.2 λd hd e=>by have:=(D.nos d hd).2;omega
 have i:∀b,qe2 P G x now b=qp4 P { G with next:=G.next+1} G.next x.B b:=λb=>by unfold qe2;rw[yA g,yA j,yB ⟨O,J,L⟩]
 have hC:=z6 W (Row f 74 (q61 x)::AgL a P m { G with next:=G.next+1} F);refine⟨StC W _,zd l,z7 ⟨_,z0g λY w hw=>hC.cell 1 rfl rfl hw,x.B,z1b λY w hw=>hC.cell 0 rfl rfl hw,?_⟩⟩;have e1:Zw Zk (({ G with next:=G.next+1}:AG).next - 1)=G.next:=by show Zw Zk (G.next+1 - 1)=G.next;rw[w64];omega
 rw[e1];refine zn (α:=Option Aw×Nat×Nat) (V:=λy=>.slice y.1 2 y.2.1) (B:=λy=>qm2 y.1 y.2.1 (qe2 P G x now y.2.2).2::qv a P (qe2 P G x now y.2.2).1::Row f 74 (q61 x)::F) (A0,0,0) hC (λY w h=>?_) λy=>⟨_,_,_,rfl,trivial,λY w h=>hR _ _ ⟨y.1,y.2.1,y.2.2,?_,?_⟩⟩
 .refine(qjk (P:=P) G.next x.B (by omega) (by show G.next<G.next+1;omega) t (qv.shut h2 hP (zf 0 3 h rfl))).of λv w' ⟨p,c,b,hv,h⟩=>⟨_,_,_,hv,(p,c,b),rfl,?_⟩;show St W (qm2 p c (qe2 P G x now b).2::qv a P (qe2 P G x now b).1::Row f 74 (q61 x)::(F++pts Y)) w';rw[i];exact h
 .rw[i];rfl
 .exact z04 2 (zb h) rfl
def qno(y:q14 now)(d:St W (qv a P G::F) w)(l:Option Aw):
 qb Zp 290 #[qc a,Zq l,ql2 x,Zi Zk now] w λv w'=>∃p c b,v=Zl p (qe2 P G x now b).2.length c/\St W (qm2 p c (qe2 P G x now b).2::qv a P (qe2 P G x now b).1::F) w':=by
 obtain⟨m,n,t,d⟩:=z14 d;refine F290_of (zh d λj w d=>?_);have d:St W (Row j 74 (q61 x)::AgL a P m G F) w:=d;have q:=z6 W (Row j 74 (q61 x)::AgL a P m G F);refine⟨StC W _,zd d,z7 ⟨x.A,z1b λi w g=>q.cell 0 rfl rfl g,P.nam,z1b λi w g=>q.cell 1 rfl rfl g,λi w h=>?_⟩⟩;have d:=zb h;have tail:¬(x.A=P.nam/\x.k=7)->¬(x.A=P.nam/\x.k=10/\G.held=A8/\x.N=G.epoch)->∀{w:A4},St W (Row j 74 (q61 x)::AgL a P m G F) w->_:=λz B {w} d=>qgs (now:=now) z B n t d λv w' h=>h;rw[qv3];refine za (λk=>z8 0 d rfl rfl (za (λf=>?_) λf=>?_)) λk=>?_
 .have k:=yC k;have f:x.k=7:=by simpa using f
  have e:∀b,qe2 P G x now b=({ G with held:=A8,epoch:=x.N,last:=now},[]):=λb=>by unfold qe2;rw[yB ⟨k,f⟩]
  refine⟨StC W _,zd d,z7 ⟨x.N,z0g λi w g=>q.cell 0 rfl rfl g,?_⟩⟩;refine z0o 1 q rfl (by simp[agC]) ⟨rfl,zj 0 ir rfl rfl,z7 ?_⟩;refine z0o 1 ir rfl (by simp[agC]) ⟨rfl,trivial,z7 ?_⟩;refine z0o 1 ir rfl (by simp[agC]) ⟨rfl,trivial,λi w h=>⟨A0,0,0,by rw[e];rfl,?_⟩⟩;have d:=zb h;rw[e];have d:St W (Row j 74 (q61 x)::AgL a P m { G with held:=A8,epoch:=x.N,last:=now} F) w:=d;exact qg8 (qv.shut ⟨n.nod,n.nos,n.sts,n.next,y⟩ t d.drop)
 .have k:=yC k;have o:¬x.k=7:=by simpa using f
  refine⟨StC W _,zd d,zm (yG k) ⟨x.k,z0g λi w g=>q.cell 0 rfl rfl g,za (λf=>z7 ⟨G.held,QtB.at λi w g=>q.cell 1 rfl rfl g,za (λu=>z7 ⟨x.N,z0g λi w g=>q.cell 0 rfl rfl g,G.epoch,z0g λi w g=>q.cell 1 rfl rfl g,λi w h=>?_⟩) λu=>λi w h=>?_⟩) λf=>λi w h=>?_⟩⟩
  .have d:=zb h;have f:x.k=10:=by simpa using f
   refine za (λr=>?_) λr=>?_
   .have r:x.N=G.epoch:=by simpa using r
    have e:∀b,qe2 P G x now b=({ G with held:=A7,epoch:=0},[q73 0 (q27 P)]):=λb=>by unfold qe2;rw[yA (λh=>o h.2),yB ⟨k,f,u,r⟩]
    refine z7 (St1.zz 1 d rfl λw d=>z7 (St1.zz 1 d rfl λw d=>?_));have d:St W (Row j 74 (q61 x)::AgL a P m { G with held:=A7,epoch:=0} F) w:=d;refine(qrh (qv.shut (G:={ G with held:=A7,epoch:=0}) ⟨n.nod,n.nos,n.sts,n.next,n.last⟩ t d.drop)).of λv w' ⟨p,c,A,h⟩=>⟨_,_,_,A,p,c,0,by rw[e];rfl,?_⟩;rw[e];exact h
   .have r:¬x.N=G.epoch:=by simpa using r
    have:=tail (λh=>o h.2) (λh=>r h.2.2.2) d;rw[qv3]at this;exact this
  .have:=tail (λh=>o h.2) (λh=>by rw[u]at h;cases h.2.2.1) (zb h);rw[qv3]at this;exact this
  .have f:¬x.k=10:=by simpa using f
   have:=tail (λh=>o h.2) (λh=>f h.2.1) (zb h);rw[qv3]at this;exact this
 .have s:=yD k;refine⟨StC W _,zd d,zl k λi w h=>?_⟩;have:=tail (λh=>s h.1) (λh=>s h.1) (zb h);rw[qv3]at this;exact this
def qus(no:Int)(x:qk1)(now:Int)(g:St W (qv a P G::F) w):
 qb Zp 105 #[qc a,Zi Zk no,ql2 x,Zi Zk now] w λv w'=>∃p c b,v=Zl p (q22 P G no x now b).2.length c/\St W (qm2 p c (q22 P G no x now b).2::qv a P (q22 P G no x now b).1::F) w':=by
 obtain⟨m,u,A,g⟩:=z14 g;refine F105_of (zh g λe w g=>z7 (zv 1 g rfl rfl (qq1 kI uM iPt zPt 2 g rfl no A8 ?_)));rw[yB rfl,qj7];cases hl:qg2 G no with
 |none=>
  refine⟨A0,A7,rfl,zm rfl ⟨A0,0,0,?_,?_⟩⟩;.unfold q22;rw[hl];rfl
  .unfold q22;rw[hl];exact qg8 (qv.shut u A g.drop)
 |some d=>
  have g:St W (Row e 74 (q61 x)::AgL a P m G F) w:=g;obtain⟨C,H⟩:=q36 hl;have E:=(u.sts d C).1;refine⟨A1 ⟨d.b,0,A0⟩,A8,rfl,zl rfl (z7 ⟨qec a d.st,AgL.line (l0:=[]) hl g.drop (j:=2) rfl,?_⟩)⟩;have o:d.st=3\/¬q14 now->∀w,St W (Row e 74 (q61 x)::AgL a P m G F) w->∃p c b,Zl A0 0 0=Zl p (q22 P G no x now b).2.length c/\St W (qm2 p c (q22 P G no x now b).2::qv a P (q22 P G no x now b).1::F) w:=λh w g=>by
   refine⟨A0,0,0,?_,?_⟩;.unfold q22;rw[hl];dsimp only;rw[yB h];rfl
   .unfold q22;rw[hl];dsimp only;rw[yB h];exact qg8 (qv.shut u A g.drop)
  by_cases z:d.st=3
  .rw[z];exact⟨_,λw=>qbz w,_,rfl,zm rfl (o (.inl z) w g)⟩
  have t:∃f,qec a d.st=.func f #[qc a] #[]:=by
   have:d.st=0\/d.st=1\/d.st=2:=by omega
   rcases this with h|h|h<;>rw[h]<;>exact⟨_,rfl⟩
  obtain⟨f,I⟩:=t;refine⟨Zb A7,λw=>by rw[I];exact qv01 f _ _ w,_,rfl,zl rfl ?_⟩;refine(qgk now g).of λv w ⟨r,g⟩=>⟨_,r,za (λl=>?_) λl=>?_⟩
  .have l:¬q14 now:=by simpa using l
   exact o (.inr l) w g
  have l:q14 now:=by simpa using l
  have s:∀b,q22 P G no x now b=if d.st=0 then(if x.k=2 then(setSt G no 1,[q73 no ⟨3,qt7 P x.A,e0,0,0⟩])else(G,[]))else if d.st=1 then(if x.k=4 then(if no=0 then(setSt G no 2,[q73 0 (q27 P)])else(setSt G no 3,[q73 no ⟨12,e0,d.tk,0,0⟩]))else(G,[]))else qe2 P G x now b:=λb=>by unfold q22;rw[hl];dsimp only;rw[yA (by rintro(h|h);exact z h;exact h l)]
  have q:=z6 W (Row e 74 (q61 x)::AgL a P m G F);refine⟨StC W _,zd g,z7 ⟨qec a d.st,λn w k=>⟨_,AgL.line (l0:=[]) hl ((q n w).1 k).drop (j:=2) rfl,rfl,k⟩,x.k,x.A,x.B,x.N,x.M,λn w k=>zy (q.cell 0 rfl rfl k) (z0y (q.cell 0 rfl rfl k) (z0y (q.cell 0 rfl rfl k) (zy (q.cell 0 rfl rfl k) (zy (q.cell 0 rfl rfl k) ⟨rfl,k⟩)))),?_⟩⟩;refine zn (α:=Option Aw×Nat×Nat) (V:=λy=>.slice y.1 (q22 P G no x now y.2.2).2.length y.2.1) (B:=λy=>qm2 y.1 y.2.1 (q22 P G no x now y.2.2).2::qv a P (q22 P G no x now y.2.2).1::Row e 74 (q61 x)::F) (A0,0,0) q (λn w h=>?_) λy=>⟨_,_,_,rfl,trivial,λn w h=>⟨_,_,_,rfl,z04 2 (zb h) rfl⟩⟩;have D:St W (qv a P G::Row e 74 (q61 x)::(F++pts n)) w:=qv.shut u A (zf 0 3 h rfl);have:d.st=0\/d.st=1\/d.st=2:=by omega
  rcases this with i|i|i
  .rw[i];refine qn5.lit1 (by kernel_rfl) ((qcq (now:=now) (x:=x) hl i D).of λv w' ⟨p,c,r,h⟩=>⟨_,_,_,r,(p,c,0),?_,?_⟩);.rw[s,yB i]
   .show St W (qm2 p c (q22 P G no x now 0).2::qv a P (q22 P G no x now 0).1::Row e 74 (q61 x)::(F++pts n)) w';rw[s,yB i];exact h
  .rw[i];refine qn5.lit1 (by kernel_rfl) ((qun (now:=now) (x:=x) hl i D).of λv w' ⟨p,c,r,h⟩=>⟨_,_,_,r,(p,c,0),?_,?_⟩);.rw[s,yA (show ¬d.st=0 by omega),yB i]
   .show St W (qm2 p c (q22 P G no x now 0).2::qv a P (q22 P G no x now 0).1::Row e 74 (q61 x)::(F++pts n)) w';rw[s,yA (show ¬d.st=0 by omega),yB i];exact h
  .rw[i];refine qn5.lit1 (by kernel_rfl) ((qno (x:=x) l D _).of λv w' ⟨p,c,b,r,h⟩=>⟨_,_,_,r,(p,c,b),?_,?_⟩);.rw[s,yA (show ¬d.st=0 by omega),yA (show ¬d.st=1 by omega)]
   .show St W (qm2 p c (q22 P G no x now b).2::qv a P (q22 P G no x now b).1::Row e 74 (q61 x)::(F++pts n)) w';rw[s,yA (show ¬d.st=0 by omega),yA (show ¬d.st=1 by omega)];exact h
def Tick_spec(now:Int)(e:St W (qv a P G::F) w):
 qb Zp 30 #[qc a,Zi Zk now] w λv w'=>∃p c b,v=Zl p (qd3 P G now b).2.length c/\St W (qm2 p c (qd3 P G now b).2::qv a P (qd3 P G now b).1::F) w':=by
 obtain⟨m,i,o,e⟩:=z14 e;refine F30_of (z7 (zv 0 e rfl rfl (qq1 kI uM iPt zPt 1 e rfl 0 A8 ?_)));rw[yB rfl,qj7];cases hl:qg2 G 0 with
 |none=>
  refine⟨A0,A7,rfl,zm rfl ?_⟩;refine(qii (qv.shut i o e)).of λv w' ⟨p,c,b,r,h⟩=>⟨_,_,_,r,p,c,b,?_,?_⟩;.unfold qd3;rw[yB (by rw[hl];rfl)]
  .unfold qd3;rw[yB (by rw[hl];rfl)];exact h
 |some d=>
  have H:=qv.shut i o e;have D:∀b,qd3 P G now b=if qh5 G 0=A8/\G.held=A8/\q14 now/\¬now - G.last<P.every then({ G with last:=now},[q73 0 ⟨8,P.nam,e0,G.epoch,P.ttl⟩])else(G,[]):=λb=>by unfold qd3;rw[yA (by rw[hl];simp)]
  have f:¬(qh5 G 0=A8/\G.held=A8/\q14 now/\¬now - G.last<P.every)->∀w,St W (qv a P G::F) w->∃p c b,Zl A0 0 0=Zl p (qd3 P G now b).2.length c/\St W (qm2 p c (qd3 P G now b).2::qv a P (qd3 P G now b).1::F) w:=λh w e=>by
   refine⟨A0,0,0,?_,?_⟩;.rw[D,yA h];rfl
   .rw[D,yA h];exact qg8 e
  refine⟨A1 ⟨d.b,0,A0⟩,A8,rfl,zl rfl ⟨StC W _,zd e,?_⟩⟩;refine zn (α:=Nat) (V:=λ_=>Zb (qh5 G 0)) (B:=λm=>AgL a P m G F) m ir (λg w h=>(qgl 0 (qv.shut i o h)).of λv w' ⟨r,h⟩=>⟨_,r,?_⟩) λm=>⟨_,rfl,trivial,?_⟩
  .obtain⟨E,_,_,h⟩:=z14 h;exact⟨E,rfl,h⟩
  have A:=z6 W (AgL a P m G F);refine za (λu=>λg w h=>f (λs=>by rw[s.1]at u;cases u) w (qv.shut i o (zb h))) λu=>z7 ⟨G.held,QtB.at λg w j=>A.cell 0 rfl rfl j,za (λt=>λg w h=>f (λs=>by rw[s.2.1]at t;cases t) w (qv.shut i o (zb h))) λt=>?_⟩;refine zn (α:=Unit) (V:=λ_=>Zb (decide (q14 now))) (B:=λ_=>AgL a P m G F) () A (λg w h=>(qgk now h).of λv w' ⟨r,h⟩=>⟨_,r,(),rfl,h⟩) λ_=>⟨_,rfl,trivial,?_⟩;refine za (λl=>λg w h=>f (λs=>by rw[yG s.2.2.1]at l;cases l) w (qv.shut i o (zb h))) λl=>z7 (z7 ⟨G.last,z0g λg w j=>A.cell 0 rfl rfl j,P.every,z0g λg w j=>A.cell 0 rfl rfl j,λg w h=>?_⟩);have e:=zb h;have u:qh5 G 0=A8:=by simpa using u
  have t:G.held=A8:=by simpa using t
  have l:q14 now:=by simpa using l
  have q:=i.last;unfold q14 maxN at q;have C:=l;unfold q14 maxN at C;rw[w64 (n:=now - G.last) (by omega) (by omega)];refine za (λx=>f (λs=>s.2.2.2 (yC x)) w (qv.shut i o e)) λx=>?_;have x:=yD x;have y:∀b,qd3 P G now b=({ G with last:=now},[q73 0 ⟨8,P.nam,e0,G.epoch,P.ttl⟩]):=λb=>by rw[D,yB ⟨u,t,l,x⟩]
  refine z7 (St1.zz 0 e rfl λw e=>?_);have e:St W (AgL a P m { G with last:=now} F) w:=e;have k:=z6 W (AgL a P m { G with last:=now} F);refine⟨StC W _,zd e,z7 (z7 (z7 ⟨P.nam,z1b λg w j=>k.cell 0 rfl rfl j,G.epoch,z0g λg w j=>k.cell 0 rfl rfl j,P.ttl,z0g λg w j=>k.cell 0 rfl rfl j,?_⟩))⟩;refine zn (α:=Option Aw×Nat) (V:=λz=>.slice z.1 1 z.2) (B:=λz=>qm2 z.1 z.2 [q73 0 ⟨8,P.nam,e0,G.epoch,P.ttl⟩]::AgL a P m { G with last:=now} F) (A0,0) k (λg w h=>(qsb 0 ⟨8,P.nam,e0,G.epoch,P.ttl⟩ h).of λv w' ⟨p,c,r,h⟩=>⟨_,_,_,r,(p,c),rfl,h⟩) λz=>⟨_,_,_,rfl,trivial,λg w h=>⟨_,_,0,by rw[y];rfl,?_⟩⟩;have e:=zb h;rw[y];exact(qv.shut (G:={ G with last:=now}) ⟨i.nod,i.nos,i.sts,i.next,l⟩ o (zf 0 3 e rfl)).p1
end
end
def qi5(x:Int):UInt8:=UInt8.ofNat (x%256).toNat
def q2i(x:Int):Zi .u8 (Zw .u8 x)=qd (qi5 x):=by unfold qd qi5;rw[UInt8.toNat_ofNat'];have h:Zw .u8 x=x%256:=rfl;rw[h];congr 1;have a:0<=x%256:=Int.emod_nonneg _ (by decide);have w:x%256<256:=Int.emod_lt_of_pos _ (by decide);omega
def qry(x:Int):Zw .u8 x=((qi5 x).toNat:Int):=by have:=q2i x;unfold qd at this;exact Value.int.inj this |>.2
def qvg(n:Int)(i:Nat):Int:=Zw Zk ↑((Aa (A2 Zk) (Int.fdiv n (2 ^ min (Int.toNat (Zw Zk (7*(Zw Zk (5 -(i:Int)))))) (A2 Zk)))&&& Aa (A2 Zk) 127).toNat)
def qcr(x:UInt8):UInt8:=qi5 ↑((Aa (A2 .u8) (x.toNat:Int)|||BitVec.ofInt (A2 .u8) 128).toNat)
def q6l(x:UInt8):UInt8:=qi5 ↑((Aa (A2 .u8) (x.toNat:Int)&&& Aa (A2 .u8) 127).toNat)
def q1g(n:Int)(out:List UInt8)(i:Nat):List UInt8:=if 0<(qi5 (qvg n i)).toNat\/0<out.length then out++[qcr (qi5 (qvg n i))]else out
def q42(n:Int)(i:Nat):List UInt8:=(List.range i).foldl (q1g n) []
def qzc(n:Int):List UInt8:=
 if n<0\/n>1099511627776 then []else
 match (q42 n 6).getLast? with
 |none=>[0]
 |some x=>(q42 n 6).dropLast++[q6l x]
def qqi(n:Int)(i:Nat):q42 n (i+1)=q1g n (q42 n i) i:=by unfold q42;rw[List.range_succ,B1];rfl
def qnf(n:Int):∀i,(q42 n i).length<=i
 |0=>by simp[q42]
 |i+1=>by
  rw[qqi];have:=qnf n i;unfold q1g;split;.simp;omega
  .omega
def qxw{α:Type}(l:List α)(y:α)(h:l≠[]):l.set (l.length - 1) y=l.dropLast++[y]:=by
 rcases List.eq_nil_or_concat l with e|⟨L,x,rfl⟩;.exact(h e).elim
 .simp
def q1k{W w:A4}{F:List Asn}(n:Int)(d:St W F w):
 qb Zp 97 #[Zi Zk n] w λv w'=>∃p c,v=Zl p (qzc n).length c/\St W (qi 5 1 p (qzc n).length c ((qzc n).map qd)::F) w':=by
 refine F97_of (za (λh=>?_) λh=>za (λq=>?_) λq=>?_)
 .have h:=yC h;unfold qzc;rw[yB (.inl h)];exact⟨A0,0,rfl,z1a _ _ _ d⟩
 .have q:=yC q;unfold qzc;rw[yB (.inr q)];exact⟨A0,0,rfl,z1a _ _ _ d⟩
 have h:=yD h;have q:=yD q;refine⟨λvs w=>∃p i c,vs=[Zl p (q42 n i).length c,Zi Zk ((i:Nat):Int)]/\i<=6/\St W (qi 5 1 p (q42 n i).length c ((q42 n i).map qd)::F) w,leftN 6,⟨A0,0,0,rfl,by omega,z1a _ _ _ d⟩,λu U c1 x w O=>?_⟩;obtain⟨R,i,Y,C,X,d⟩:=O;cases C;have L:=qnf n i;refine za (λo=>?_) λy=>?_
 .have o:i<6:=by have:=yC o;omega
  have H:=up o (by omega);have s:∀{w:A4} {K:A3->A4->Prop},q42 n (i+1)=q42 n i++[qcr (qi5 (qvg n i))]->St W (qi 5 1 u (q42 n i).length c1 ((q42 n i).map qd)::F) w->
   (∀p c w',St W (qi 5 1 p (q42 n (i+1)).length c ((q42 n (i+1)).map qd)::F) w'->K (Zl p (q42 n (i+1)).length c) w')->
   qh #[(Zi .u8 (Zw .u8 ↑((Aa (A2 .u8) ((qi5 (qvg n i)).toNat:Int)|||BitVec.ofInt (A2 .u8) 128).toNat)))] 5 w λb w1=>Run Zp (Builtin.append_ #[22,22] 22 #[(Zl u (q42 n i).length c1),(Zl (A1 ⟨b,0,A0⟩) 1 1)]) w1 K:=λ{w K} e d hK=>by
   refine zh d λb w d=>?_;rw[q2i]at d;refine qp8 uB (.inr ⟨_,uB⟩) iU8 sU8 zU8 rfl d.p1 (xs:=[qcr (qi5 (qvg n i))].map qd) (m:=1) z0k rfl q82 (by rw[bU8];omega) (by omega) λT V w' h=>?_;have h:=h.p1.drop;rw[<-Af,<-e]at h;have D:(q42 n i).length+1=(q42 n (i+1)).length:=by rw[e];simp
   rw[D]at h⊢;exact hK _ _ _ h
  have l:∀{p c w'},St W (qi 5 1 p (q42 n (i+1)).length c ((q42 n (i+1)).map qd)::F) w'->(∃N j M,[Zl p (q42 n (i+1)).length c,Zi Zk ((i+1:Nat):Int)]=[.slice N (q42 n j).length M,Zi Zk ((j:Nat):Int)]/\j<=6/\St W (qi 5 1 N (q42 n j).length M ((q42 n j).map qd)::F) w')/\leftN 6 [Zl p (q42 n (i+1)).length c,Zi Zk ((i+1:Nat):Int)] w'<leftN 6 [Zl u (q42 n i).length c1,Zi Zk (i:Int)] w:=λ{p c w'} h=>⟨⟨p,i+1,c,rfl,by omega,h⟩,by show 6 -(i+1)<6 - i;omega⟩;have E:Zw Zk (7*(Zw Zk (5 -(i:Int))))=7*(5 -(i:Int)):=by rw[w64 (n:=5 -(i:Int)) (by omega) (by omega),w64]
  refine⟨by rw[E];omega,?_⟩;rw[H];obtain⟨z,B⟩:∃z,z=qvg n i:=⟨_,rfl⟩;have G:=B;unfold qvg at B;rw[<-B,qry z,G];have f:=qqi n i;unfold q1g at f;refine za (λt=>?_) λt=>za (λr=>?_) λr=>?_
  .have t:=yC t;rw[yB (.inl (by omega))]at f;exact s f d (λp c w' h=>⟨_,_,_,rfl,l h⟩)
  .have r:=yC r;rw[yB (.inr (by omega))]at f;exact s f d (λp c w' h=>⟨_,_,_,rfl,l h⟩)
  .have t:=yD t;have r:=yD r;rw[yA (by omega)]at f;have:=l (p:=u) (c:=c1) (w':=w) (by rw[f];exact d);rw[f]at this;exact this
 have A:i=6:=by have:=yD y;omega
 subst A;unfold qzc;rw[yA (by omega)];cases hl:(q42 n 6).getLast? with
 |none=>have C:q42 n 6=[]:=List.getLast?_eq_none_iff.1 hl;rw[C]at d⊢;refine zm rfl (zh d.drop λb w d=>⟨_,_,rfl,?_⟩);exact qi.whole rfl d
 |some x=>
  have k:q42 n 6≠[]:=λe=>by rw[e]at hl;cases hl
  have I:0<(q42 n 6).length:=List.length_pos_iff.2 k;have g:(q42 n 6)[(q42 n 6).length - 1]?=A1 x:=by rw[<-List.getLast?_eq_getElem?];exact hl
  have D:Zw Zk (((q42 n 6).length:Int) - 1)=(((q42 n 6).length - 1:Nat):Int):=by rw[w64];omega
  refine zl (by simpa using k) ?_;rw[D];refine z0f (z0i F) d rfl (by omega) (v:=qd x) (by rw[As,g];rfl) λa Q=>zy Q ?_;rw[q2i];refine qi.ix d (by omega) _ λw h=>?_;have P:((q42 n 6).map qd).set ((q42 n 6).length - 1) (qd (q6l x))=((q42 n 6).dropLast++[q6l x]).map qd:=by rw[<-List.map_set,qxw _ _ k]
  have J:((q42 n 6).dropLast++[q6l x]).length=(q42 n 6).length:=by simp;omega
  dsimp only;refine⟨u,c1,by rw[J],?_⟩;rw[J,<-P];exact h
def qr3(b:List UInt8):List UInt8×Nat×Bool:=
 match b with
 |[]=>([],0,A7)
 |x::r=>if x.toNat+1>b.length then([],0,A7)else(r.take x.toNat,x.toNat+1,A8)
def qlr{W w:A4}{F:List Asn}{p:Option Aw}{c:Nat}{b:List UInt8}(g:Rd F p (b.map qd))(i:b.length<=c)(d:St W F w):
 qb Zp 246 #[Zl p b.length c] w λv w'=>v=Zt #[Zs (mkS (qr3 b).1),Zi Zk ((qr3 b).2.1:Nat),Zb (qr3 b).2.2]/\St W F w':=by
 refine F246_of ?_;cases b with
 |nil=>exact zm rfl ⟨rfl,d⟩
 |cons x r=>
  have q:x.toNat<256:=x.toNat_lt;refine zl (by simp;omega) (z0f g d rfl (k:=0) (by simp) (v:=qd x) rfl λa l=>zy l ?_);have m:Zw Zk ((Zw Zk (x.toNat:Int))+1)=((x.toNat+1:Nat):Int):=by rw[w64 (n:=(x.toNat:Int)) (by omega) (by omega),w64];omega
  rw[m];refine za (λh=>?_) λh=>?_
  .have h:=yC h;have e:qr3 (x::r)=([],0,A7):=yB (by omega);rw[e];exact⟨rfl,d⟩
  have h:=yD h;have e:qr3 (x::r)=(r.take x.toNat,x.toNat+1,A8):=yA (by omega);rw[e];refine SlP.i (a:=1) (b:=x.toNat+1) g (by simp) i rfl rfl (by omega) (by omega) λo f=>?_;rw[Nat.one_mul,B6,Az,<-List.map_drop,<-Ay]at f;rw[Az];have j:(List.take x.toNat (List.drop 1 (x::r))).length=x.toNat:=by simp at h⊢;omega
  exact qbi uB uU8 uS d f j ⟨_,rfl,rfl,d⟩
def q01.fn{P:Bm}{t:Bj}{f:B3}{first cap:Array A3}{args:List A3}{w:A4}{K:A3->A4->Prop}(a:q33 P f=A8)(h:qb P f (first++args.toArray++cap) w K):q01 P t (.func (.func f) first cap) args w K:=
 .inl ⟨f,first,cap,rfl,a,h⟩
def qt4{α:Type}(g:α->Bool)(xs:List α):Int:=match xs.findIdx? g with|some i=>(i:Int)|none=>-1
def qs8{α:Type}{g:α->Bool}{xs:List α}{i:Nat}{x:α}(h:xs[i]?=A1 x)(c:g x=A8)(b:∀j y,j<i->xs[j]?=A1 y->g y=A7):qt4 g xs=(i:Int):=by unfold qt4;have w:=(A5.1 h).1;rw[Ag.2 ⟨w,by rw[Ab w]at h;cases h;exact c,λj a=>by have:=b j _ a (Ab (by omega));simp[this]⟩]
def qq8{α:Type}{g:α->Bool}{xs:List α}(h:∀(j:Nat) y,xs[j]?=A1 y->g y=A7):qt4 g xs= -1:=by unfold qt4;rw[List.findIdx?_eq_none_iff.2 λy a=>by obtain⟨j,w⟩:=A9 a;exact h j y w]
def q9w{W w:A4}{F:List Asn}{p:Option Aw}{c:Nat}{xs:List UInt8}{o:A3}(g:UInt8->Bool)(s:Rd F p (xs.map qd))(A:xs.length<=9223372036854775807)
 (q:∀(x:UInt8) (w:A4) (K:A3->A4->Prop),St W F w->(∀w',St W F w'->K (Zb (g x)) w')->q01 Zp 4 o [qd x] w K) (d:St W F w):
 qb Zp 302 #[Zl p xs.length c,o] w λv w'=>v=Zi Zk (qt4 g xs)/\St W F w':=by
 refine F302_of ⟨λvs w=>∃i:Nat,vs=[Zi Zk i]/\i<=xs.length/\(∀j y,j<i->xs[j]?=A1 y->g y=A7)/\St W F w,leftN xs.length,⟨0,rfl,by omega,λj y h=>by omega,d⟩,λx w r=>?_⟩;obtain⟨i,u,C,n,d⟩:=r;cases u;refine za (λb=>?_) λk=>?_
 .have b:i<xs.length:=by have:=yC b;omega
  have f:xs[i]?=A1 (xs[i]'b):=Ab _;generalize xs[i]'b=y at f;refine z0f s d rfl b (v:=qd y) (by rw[As,f];rfl) λa t=>zy t (q y w _ d λw' d=>⟨_,rfl,?_⟩);cases hy:g y with
  |true=>exact⟨by rw[qs8 f hy n],d⟩
  |false=>
   rw[up b A];exact⟨⟨i+1,rfl,by omega,λj z B l=>by
    by_cases e:j=i;.subst e;rw[f]at l;cases l;exact hy
    .exact n j z (by omega) l,d⟩,by show xs.length -(i+1)<xs.length - i;omega⟩
 have m:i=xs.length:=by have:=yD k;omega
 subst m;exact⟨by rw[qq8 λj y h=>n j y (A5.1 h).1 h],d⟩
def q7g(n:Int)(x:UInt8):Int:=Zw Zk ↑((Aa (A2 Zk) (Zw Zk (n*2 ^ min (Int.toNat 7) (A2 Zk)))|||BitVec.ofInt (A2 Zk) (Zw Zk (Zw .u8 ↑((Aa (A2 .u8) (x.toNat:Int)&&& Aa (A2 .u8) 127).toNat)))).toNat)
def qfi(x:UInt8):Bool:=decide ((x.toNat:Int)<128)
def q05(b:List UInt8):Int×Nat×Bool:=
 match (b.take 6).findIdx? qfi with
 |none=>(0,0,A7)
 |some e=>
  if((b.headD 0).toNat:Int)=128 then(0,0,A7)else
  if(b.take (e+1)).foldl q7g 0>1099511627776 then(0,0,A7)else((b.take (e+1)).foldl q7g 0,e+1,A8)
def qxt{W w:A4}{F:List Asn}{x:UInt8}{K:A3->A4->Prop}(a:St W F w)(c:∀w',St W F w'->K (Zb (qfi x)) w'):q01 Zp 4 (.func (.func 303) #[] #[]) [qd x] w K:=by have h:=c w a;unfold qfi at h;have b:qb Zp 303 #[Zi .u8 (x.toNat:Int)] w K:=F303_of h;exact q01.fn (by kernel_rfl) b
def qat{W w:A4}{F:List Asn}{p:Option Aw}{c:Nat}{b:List UInt8}(t:Rd F p (b.map qd))(B:b.length<=c)(d:St W F w):
 qb Zp 248 #[Zl p b.length c] w λv w'=>v=Zt #[Zi Zk (q05 b).1,Zi Zk ((q05 b).2.1:Nat),Zb (q05 b).2.2]/\St W F w':=by
 refine F248_of ?_;have em:(if(6:Int)<(b.length:Int)then(6:Int)else(b.length:Int))=((min 6 b.length:Nat):Int):=by split<;>omega
 rw[em];refine SlP.i (a:=0) (b:=min 6 b.length) t (by simp) B rfl rfl (by omega) (by omega) λN j=>?_;rw[Bf,Bc,B6,Ao,<-Ay]at j;rw[Ao,Ao];have I:b.take (min 6 b.length)=b.take 6:=by
  rcases Nat.le_total 6 b.length with h|h;.rw[Nat.min_eq_left h]
  .rw[Nat.min_eq_right h,Au (Bi _),Au h]
 rw[I]at j;have J:min 6 b.length=(b.take 6).length:=by rw[Ai]
 rw[J];refine(q9w qfi j (by rw[Ai];omega) (λx w K d H=>qxt d H) d).of λv w ⟨G,d⟩=>⟨_,G,?_⟩;unfold q05 qt4;cases hf:(b.take 6).findIdx? qfi with
 |none=>exact zm rfl ⟨rfl,d⟩
 |some e=>
  have C:e<(b.take 6).length:=(Ag.1 hf).1;rw[Ai]at C;dsimp only;refine zl (yH (by omega)) ?_;cases b with
  |nil=>simp at C
  |cons x r=>
   refine z0f t d rfl (k:=0) (by simp) (v:=qd x) rfl λa z=>zy z ?_;have D:Zw Zk ((e:Int)+1)=((e+1:Nat):Int):=by rw[w64];omega
   refine za (λh=>?_) λh=>?_
   .have h:(x.toNat:Int)=128:=by simpa using h
    rw[yB (by exact h)];exact⟨rfl,d⟩
   have h:¬(x.toNat:Int)=128:=by simpa using h
   rw[yA (by exact h),D];refine SlP.i (a:=0) (b:=e+1) t (by simp) B rfl rfl (by omega) (by omega) λL g=>?_;rw[Bf,Bc,B6,Ao,<-Ay]at g;simp only[Ao];have m:((x::r).take (e+1)).length=e+1:=by rw[Ai];omega
   generalize (x::r).take (e+1)=l at g m⊢;rw[<-m]at D⊢;refine⟨λvs w=>∃i:Nat,vs=[Zi Zk ((l.take i).foldl q7g 0),Zi Zk i]/\i<=l.length/\St W F w,leftN l.length,⟨0,rfl,by omega,d⟩,λn y w E=>?_⟩;obtain⟨i,s,M,d⟩:=E;cases s;refine za (λf=>?_) λo=>?_
   .have f:i<l.length:=by have:=yC f;omega
    have q:l[i]?=A1 (l[i]'f):=Ab _;generalize l[i]'f=y at q;refine z0f g d rfl (by omega) (v:=qd y) (by rw[As,q];rfl) λa z=>zy z ⟨by decide,?_⟩;rw[up f (by omega)];have u:(l.take (i+1)).foldl q7g 0=q7g ((l.take i).foldl q7g 0) y:=by rw[List.take_add_one,q,B1];rfl
    exact⟨⟨i+1,by rw[u];rfl,by omega,d⟩,by show l.length -(i+1)<l.length - i;omega⟩
   have A:i=l.length:=by have:=yD o;omega
   subst A;rw[List.take_length];refine za (λh=>?_) λh=>?_;.rw[yB (yC h)];exact⟨rfl,d⟩
   .rw[yA (yD h)];exact⟨rfl,d⟩
def zx:=@q01.fn
def qjp{F:Fence}(t:qx4 F){P:Bm}{n:Nat}{i:Array Oper}{w:A4}{K:Env->A4->Prop}{Q:Exit->Act->A4->Prop}{d:List Deferred}(q:∀e' g,K e' w->qs1 n e' (qi6 g)->g.defers=d->Q .normal g w):
 ∀(l:List Oper) (e:Env) (a:Act),l.all qv5=A8->q5f P n l e w K->qs1 n e (qi6 a)->a.defers=d->wpListIn F 0 P i Q l a w
 |[],e,a,_,h,c,j=>q e a h c j
 |o::r,e,a,s,h,c,j=>by
  simp only[List.all_cons,B4]at s;obtain⟨f,C⟩:=s;unfold qv5 at f;simp only[B4,Bool.not_eq_true',Option.isNone_iff_eq_none]at f;obtain⟨v,A,x⟩:=qwo (a:=qi6 a) h c;obtain⟨y,B,b,_⟩:=qn3 A c;have D:(qi6 a).put o.dst v=qi6 (a.put o.dst v):=by cases o.dst<;>rfl
  rw[D]at b;have p:(execOp a.eval o).run P w=.ok (.value v) w:=x;refine wpListIn_plain f.1 λE k=>qz1.wpIn t (R:=λu w'=>u=v/\w'=w) (qd2 p ⟨rfl,rfl⟩) (.inr (q1e f.2)) λu w' ⟨z,m⟩=>?_;subst z;subst m;exact k _ _ (qjp t q r y _ C B b ((Act.put_defers' ..).trans j))
def qmj{F:Fence}(i:qx4 F){P:Bm}{n id:Nat}{b:Array Oper}{Q:Exit->Act->A4->Prop}{K:Env->A4->Prop}{e:Env}{w:A4}{a:Act}(f:b.toList.all qv5=A8)(h:q5f P n b.toList e w K)(g:qs1 n e (qi6 a))
 (d:∀e' c,K e' w->qs1 n e' (qi6 c)->c.defers=a.defers->Q .normal c w):(Code.region id b A7).wpIn F 0 P Q a w:=
 wpIn_region_list (qjp i d _ _ _ f h g rfl)
def qo1:Bd->Array Oper
 |.region _ ops _=>ops
 |_=>#[]
def q7q:Bd->Bd
 |.block _ (.rangeFunc _ _ a _)=>a
 |_=>.skip
def qzq:Bd->Bd
 |.block _ (.rangeFunc _ _ _ b)=>b
 |_=>.skip
def inB:Bd->Bd
 |.block _ b=>b
 |_=>.skip
def q47:∀{e:Env} {t:Nat} {v:A3},q23 e t=A1 v->(t,v)∈e
 |(s,u)::r,t,v,h=>by
  simp only[q23]at h;cases hb:Nat.beq s t with
  |true=>rw[hb]at h;simp only[cond_true,Option.some.injEq]at h;have:=Nat.eq_of_beq_eq_true hb;subst this;subst h;exact List.mem_cons_self
  |false=>rw[hb]at h;exact List.mem_cons_of_mem _ (q47 h)
def qs1.pick{n:Nat}{e e':Env}{a:Act}(w:qs1 n e a)(h:∀x∈e',q23 e x.1=A1 x.2):qs1 n e' a:=
 ⟨w.defers,w.size,λt v b=>w.val t v (h (t,v) (q47 b))⟩
def qs1.put1{n d:Nat}{e:Env}{a:Act}(v:A3)(f:qs1 n e a)(w:d<n):qs1 n ((d,v)::e) (a.put (A1 d) v):=by
 obtain⟨e',b,h,_⟩:=qn3 (n:=n) (d:=A1 d) (v:=v) (e:=e) (k:=λe'=>e'=(d,v)::e) (by have c:Nat.blt d n=A8:=Nat.ble_eq_true_of_le w;simp only[qc2,c]) f
 rw[b]at h;exact h
def mixed:Zp.follows .mixedOrders=A8:=by kernel_rfl
def q7b{κ:Type}(W:A4)(ev:κ->A3)(h:B3)(cap:A3)(M:List Asn)(N:Nat)(G:List κ->Prop):Prop:=
 ∀(B:List κ->Asn) (a:A3) (w:A4),(∀(X:List Asn) (l:List κ) (x:κ) (w:A4) (K:A3->A4->Prop),l.length<N->St W (B l::X) w->(∀w',St W (B (l++[x])::X) w'->K (.bool A8) w')->q01 Zp 4 a [ev x] w K)->
  St W (B []::M) w->qb Zp h #[a,cap] w λv w'=>v=.tuple #[]/\∃l,G l/\St W (B l::M) w'
section
set_option maxRecDepth 100000
namespace AppI
open Go Go.Proofs.YtfjifcfbmhpcaaaGreatDoor
abbrev ev:Int->A3:=Zi Zk
abbrev eV(x:Int):List A3:=[ev x]
def eV1(x:Int):(eV x).length=1:=rfl
def eVn(x:Int):∀v∈eV x,qn1 v:=λv h=>by simp only[eV,Aj,Ad,yK]at h;subst h;trivial
def uSl:Zp.underlying 28=A1 (.slice 3):=Tryz.underlying28
def iE:Zp.info? 3=A1 Tryz.t3:=by kernel_rfl
def sE:Tryz.t3.size=1:=rfl
def zE:∃z,Tryz.t3.zero=A1 z/\z.cells.size=1:=⟨_,rfl,rfl⟩
def bE:Tryz.t3.bytes<=100:=by decide+kernel
noncomputable def apC:Bd:=Tryz.f107.body.getD .skip
noncomputable def cR(i:Nat):Bd:=(q63 apC).getD i .skip
noncomputable def apA:Bd:=q7q (cR 2)
noncomputable def apB:Bd:=qzq (cR 2)
def ap_body:Tryz.f107.body=A1 apC:=by kernel_rfl
def ap_n:Tryz.f107.ntmps=13:=by kernel_rfl
def ap_eq:apC=.seq (.region 0 (qo1 (cR 0)) A7) (.seq (.seq (.region 1 (qo1 (cR 1)) A7) (.block 0 (.rangeFunc (.tmp 6) #[7] apA apB))) (.seq (.region 4 (qo1 (cR 3)) A7) .ret)):=by kernel_rfl
def apA_eq:apA=.region 2 (qo1 apA) A7:=by kernel_rfl
def apB_eq:apB=.block 1 (.region 3 (qo1 (inB apB)) A7):=by kernel_rfl
def tame0:(qo1 (cR 0)).toList.all qv5=A8:=by kernel_rfl
def tame1:(qo1 (cR 1)).toList.all qv5=A8:=by kernel_rfl
def tame2:(qo1 apA).toList.all qv5=A8:=by kernel_rfl
def tame3:(qo1 (inB apB)).toList.all qv5=A8:=by kernel_rfl
def tame4:(qo1 (cR 3)).toList.all qv5=A8:=by kernel_rfl
section
variable(p:Option Addr)(n c:Nat)(w:World)(K:Env->World->Prop)(b2:Nat)(s:Value)
def ops_0:qy7 Zp 13 (qo1 (cR 0)).toList [(1,s),(0,Zl p n c)] w K=(qh #[Zl p n c] 28 w λb w=>K [(4,Zl A0 0 0),(2,Zq (A1 ⟨b,0,A0⟩)),(1,s),(0,Zl p n c)] w):=by kernel_rfl
def ops_1(e:Env):qy7 Zp 13 (qo1 (cR 1)).toList ((4,Zl A0 0 0)::(2,Zq (A1 ⟨b2,0,A0⟩))::(1,s)::e) w K=K ((6,s)::(4,Zl A0 0 0)::(2,Zq (A1 ⟨b2,0,A0⟩))::(1,s)::e) w:=by kernel_rfl
def ops_2(x:Int)(e:Env):qy7 Zp 13 (qo1 apA).toList ((7,ev x)::e) w K=K ((5,ev x)::(7,ev x)::e) w:=by kernel_rfl
def ops_3(x:Int):qy7 Zp 13 (qo1 (inB apB)).toList [(5,ev x),(2,Zq (A1 ⟨b2,0,A0⟩))] w K=
 LdL ⟨b2,0,A0⟩ w λq m d=>qh #[ev x] 3 w λb w=>Run Zp (Builtin.append_ #[28,28] 28 #[Zl q m d,.slice (A1 ⟨b,0,A0⟩) 1 1]) w λv w=>AsL v λc h a=>
  St1 ⟨b2,0,A0⟩ (.slice c h a) w λw=>K [(11,.slice c h a),(10,.slice (A1 ⟨b,0,A0⟩) 1 1),(9,ev x),(8,Zl q m d),(5,ev x),(2,Zq (A1 ⟨b2,0,A0⟩))] w:=by kernel_rfl
def ops_4:q5f Zp 13 (qo1 (cR 3)).toList [(2,Zq (A1 ⟨b2,0,A0⟩))] w K=
 LdL ⟨b2,0,A0⟩ w λq m d=>K [(4,Zl q m d),(12,Zl q m d),(2,Zq (A1 ⟨b2,0,A0⟩))] w:=by kernel_rfl
def ap_res(q:Option Aw)(m d:Nat)(e:Env)(K:List A3->Prop):q66 Zp Tryz.f107.results.toList ((4,Zl q m d)::e) w K=K [Zl q m d]:=by kernel_rfl
end
noncomputable def recC(fn:B3)(tmps:Array A3)(D:Nat)(s:B5):Loop:={ state:=s,pending:=A0,fn:=fn,tmps:=tmps,params:=#[7],assign:=apA,body:=apB,defers:=D}
def BufA(fn:B3)(tmps:Array A3)(s:B5)(l D b2:Nat)(L:List Int):Asn:=exA λy:Option Aw×Nat=>qz [Pt l (.loop (recC fn tmps D s)),Pt D (.deferred (A1 [])),Row b2 28 [.slice y.1 L.length y.2],SlA 3 1 eV y.1 y.2 L]
def BufA.open_{W w:A4}{F:List Asn}{fn:B3}{tmps:Array A3}{s:B5}{l D b2:Nat}{L:List Int}(h:St W (BufA fn tmps s l D b2 L::F) w):
 ∃p c,St W (Pt l (.loop (recC fn tmps D s))::Pt D (.deferred (A1 []))::Row b2 28 [Zl p L.length c]::SlA 3 1 eV p c L::F) w:=by
 obtain⟨⟨p,c⟩,h⟩:=h.of_ex;exact⟨p,c,h.of_sep⟩
def BufA.shut{W w:A4}{F:List Asn}{fn:B3}{tmps:Array A3}{s:B5}{l D b2:Nat}{L:List Int}(p:Option Aw)(c:Nat)(h:St W (Pt l (.loop (recC fn tmps D s))::Pt D (.deferred (A1 []))::Row b2 28 [Zl p L.length c]::SlA 3 1 eV p c L::F) w):St W (BufA fn tmps s l D b2 L::F) w:=
 z01 (p,c) (zk (l:=[_,_,_,_]) h)
def fold_one(tmps:Array A3)(a:A3):(Array.zip (#[7]:Array Tmp) [a].toArray).foldl (λtmps (t,a)=>tmps.setIfInBounds t a) tmps=tmps.setIfInBounds 7 a:=by simp
section
variable{W w:World}{F M:List Asn}{fn:FuncId}{tmps:Array Value}{l D b2:Nat}{L:List Int}
def round_spec(x:Int)(s:qs1 13 [(2,Zq (A1 ⟨b2,0,A0⟩))] { tmps:=tmps,defers:=[]})(q:L.length<=1000000)
 (h:St W (BufA fn tmps .ready l D b2 L::F) w):
 RoundIn Fence.wide 0 Zp l fn (tmps.setIfInBounds 7 (ev x)) apA apB w λt w'=>∃v,t=.returned v/\v=Zb A8/\St W (BufA fn tmps .ready l D b2 (L++[x])::F) w':=by
 obtain⟨p,c,h⟩:=BufA.open_ h;refine roundIn_of_wpIn trivial ?_;have n:qx4 (Fence.wide.inRound l):=.inr ⟨l,rfl⟩;have u:qs1 13 [(7,ev x),(2,Zq (A1 ⟨b2,0,A0⟩))] { tmps:=tmps.setIfInBounds 7 (ev x),defers:=[]}:=s.put1 (d:=7) (ev x) (by decide);rw[apA_eq];refine qk6 n tame2 (K:=λe' w'=>e'=[(5,ev x),(7,ev x),(2,Zq (A1 ⟨b2,0,A0⟩))]/\w'=w) (by rw[ops_2];exact⟨rfl,rfl⟩) u ?_;rintro A a2 B ⟨rfl,rfl⟩ ha2;have f:qs1 13 [(5,ev x),(2,Zq (A1 ⟨b2,0,A0⟩))] a2:=ha2.pick λy o=>by simp only[Aj,Ad,yK]at o;rcases o with rfl|rfl<;>rfl
 obtain⟨k,h⟩:=h.turn (o':=.loop (recC fn tmps D .busy));refine⟨_,run_beginRound k rfl,?_⟩;rw[apB_eq];refine wpIn_block (qk6 n tame3 (K:=λe' w'=>∃a e,St W (Pt l (.loop (recC fn tmps D .busy))::Pt D (.deferred (A1 []))::Row b2 28 [Zl a (L++[x]).length e]::SlA 3 1 eV a e (L++[x])::F) w') ?_ f ?_)
 .rw[ops_3];refine LdL.n 2 h rfl rfl (zh h λb w h=>?_);have h:St W (Row b 3 (Bg eV [x])::Pt l (.loop (recC fn tmps D .busy))::Pt D (.deferred (A1 []))::Row b2 28 [Zl p L.length c]::SlA 3 1 eV p c L::F) w:=h;obtain⟨z,r,i⟩:=zE;have m:=bE;refine qf3 (os:=L) (xs:=[x]) eV1 uSl (.inr ⟨_,uSl⟩) iE sE r i 4 h rfl (z07 0 rfl λF=>z0k) rfl eVn (by simp only[Ah,Ak];exact Nat.le_trans (Nat.mul_le_mul_left _ m) (by omega)) (by simp only[Ah,Ak];omega) λg j w h=>⟨_,_,_,rfl,?_⟩;refine z0m 3 h rfl (by simp) λw h=>⟨g,j,?_⟩;have h:St W (Row b 3 (Bg eV [x])::Pt l (.loop (recC fn tmps D .busy))::Pt D (.deferred (A1 []))::Row b2 28 [Zl g (L++[x]).length j]::SlA 3 1 eV g j (L++[x])::F) w:=h;exact h.drop
 .rintro C a3 E ⟨a,e,h⟩ _;obtain⟨k,h⟩:=h.turn (o':=.loop (recC fn tmps D .ready));exact⟨_,_,run_endRound A0 k,_,rfl,rfl,BufA.shut a e h⟩
def AppSeq_spec{d:B3}{cap:A3}{N:Nat}{G:List Int->Prop}(O:q33 Zp d=A8)(V:N<=1000000)(m:q7b W ev d cap M N G)(g:St W M w):
 qb Zp 107 #[Zl A0 0 0,.func (.func d) #[] #[cap]] w λv w'=>∃L p c,v=Zl p (List.length L) c/\G L/\St W (SlA 3 1 eV p c L::M) w':=by
 refine(callsIn_wide (n:=0)).1 (callsIn_of_wp_marks Tryz.func107 ap_body trivial ?_);have q:qx4 Fence.wide:=.inl rfl;have i:qs1 13 [(1,.func (.func d) #[] #[cap]),(0,Zl A0 0 0)] { tmps:=#[Zl A0 0 0,.func (.func d) #[] #[cap]]++Bb (Tryz.f107.ntmps -(#[Zl A0 0 0,.func (.func d) #[] #[cap]]).size) undef,defers:=[]}:=by
  rw[ap_n];refine⟨rfl,by simp,λt v u=>?_⟩;have:=q47 u;simp only[Aj,Ad,yK,Prod.mk.injEq]at this;rcases this with ⟨rfl,rfl⟩|⟨rfl,rfl⟩
  .rw[Ap,Ar (by simp)];rfl
  .rw[Ap,Ar (by simp)];rfl
 generalize ({ tmps:=#[Zl A0 0 0,.func (.func d) #[] #[cap]]++Bb (Tryz.f107.ntmps -(#[Zl A0 0 0,.func (.func d) #[] #[cap]]).size) undef,defers:=[]}:Act)=a at i;rw[ap_eq];refine wpIn_seq (qk6 q tame0 (K:=λe' w'=>∃b2,e'=[(4,Zl A0 0 0),(2,Zq (A1 ⟨b2,0,A0⟩)),(1,.func (.func d) #[] #[cap]),(0,Zl A0 0 0)]/\St W (Row b2 28 [Zl A0 0 0]::M) w') (by rw[ops_0];exact zh g λb w g=>⟨b,rfl,g⟩) i ?_);clear g;rintro z r w ⟨b2,rfl,g⟩ i;refine wpIn_seq (wpIn_seq (qk6 q tame1 (K:=λe' w'=>e'=[(6,.func (.func d) #[] #[cap]),(4,Zl A0 0 0),(2,Zq (A1 ⟨b2,0,A0⟩)),(1,.func (.func d) #[] #[cap]),(0,Zl A0 0 0)]/\w'=w) (by rw[ops_1];exact⟨rfl,rfl⟩) i ?_));rintro z a w ⟨rfl,rfl⟩ i;refine wpIn_block (wpIn_rangeFunc λfn _=>?_);have E:a.eval (.tmp 6)=.func (.func d) #[] #[cap]:=i.val 6 _ rfl;have k:=(g.alloc (.deferred (A1 []))).alloc (.loop (recC fn a.tmps w.heap.size .ready));rw[World.size_alloc]at k;refine⟨w.heap.size+1,[{ target:=.collected w.heap.size,args:=#[]}],(w.alloc (.deferred (A1 []))).alloc (.loop (recC fn a.tmps w.heap.size .ready)),{ target:=.fn (.func d) #[cap],args:=#[.func (.yield (w.heap.size+1)) #[] #[]]},(w.alloc (.deferred (A1 []))).alloc (.loop (recC fn a.tmps w.heap.size .ready)),d,
  #[.func (.yield (w.heap.size+1)) #[] #[],cap],(w.alloc (.deferred (A1 []))).alloc (.loop (recC fn a.tmps w.heap.size .ready)),run_enterLoop_outer _ _ _ _ _,?_,λ_ _=>trivial,?_,(λh=>by cases h),?_⟩
 .simp only[resolve,E];simp[go_sem]
 .simp only[invoke];exact q04 O _ _
 generalize w.heap.size=D at k;generalize D+1=l at k;generalize (w.alloc (.deferred (A1 []))).alloc (.loop (recC fn a.tmps D .ready))=w1 at k;clear g E;have g:St W (BufA fn a.tmps .ready l D b2 []::M) w1:=BufA.shut A0 0 (zf 0 3 (z0a (f:=eV) (e:=3) (size:=1) (p:=A0) k) rfl);have u:qs1 13 [(2,Zq (A1 ⟨b2,0,A0⟩))] { tmps:=a.tmps,defers:=[]}:=by
  have:=i.pick (e':=[(2,Zq (A1 ⟨b2,0,A0⟩))]) λy j=>by simp only[Aj,Ad,yK]at j;rcases j with rfl;rfl
  exact⟨rfl,this.size,this.val⟩
 have j:∀(X:List Asn) (L:List Int) (x:Int) (w:A4) (K:A3->A4->Prop),L.length<N->St W (BufA fn a.tmps .ready l D b2 L::X) w->(∀w',St W (BufA fn a.tmps .ready l D b2 (L++[x])::X) w'->K (Zb A8) w')->q01 Zp 4 (.func (.yield l) #[] #[]) [ev x] w K:=λX L x w K Z g I=>by obtain⟨p,c,T⟩:=BufA.open_ g;refine .inr ⟨l,recC fn a.tmps D .ready,rfl,T.pt,rfl,?_⟩;have key:=round_spec x u (by omega) g;rw[<-fold_one]at key;exact RoundIn.mono key λz w' ⟨v,k,H,g⟩=>⟨v,k,by subst H;exact I _ g⟩
 refine qx4.calls q (Calls.mono (m _ _ _ j g) λe Y ⟨v,F,C,L,U,g⟩=>?_);subst F;obtain⟨p,c,g⟩:=BufA.open_ g;obtain⟨A,g⟩:=g.turn (o':=.loop (recC fn a.tmps D .exhausted));refine⟨A0,_,run_endLoop A (by simp[recC]),?_⟩;have B:a.defers=[]:=i.defers;have s:qs1 13 [(2,Zq (A1 ⟨b2,0,A0⟩))] (qi6 { a with defers:=[{ target:=.collected D,args:=#[]}]++a.defers}):=by
  have:=i.pick (e':=[(2,Zq (A1 ⟨b2,0,A0⟩))]) λy j=>by simp only[Aj,Ad,yK]at j;rcases j with rfl;rfl
  exact⟨rfl,this.size,this.val⟩
 refine wpIn_seq (qmj q tame4 (K:=λe' w'=>∃e0,e'=(4,Zl p L.length c)::e0) (by rw[ops_4];exact LdL.n 2 g rfl rfl ⟨_,rfl⟩) s ?_)
 rintro z r ⟨e0,rfl⟩ ha1 hd1;refine wpIn_ret ?_;show LeavesInM Fence.wide 0 Zp Tryz.f107 r.tmps _ r.defers .returning _;rw[hd1,B];obtain⟨Q,g⟩:=(St.p1 g).turn (o':=.deferred A0);refine⟨by simp,.inl ⟨D,_,rfl,run_takeDeferred Q,?_⟩⟩;have o:=λw=>q77 (P:=Zp) (fn:=Tryz.f107) (a:=qi6 r) (R:=λv w'=>v=Zl p L.length c) (w:=w) (by rw[ap_res];rfl) ha1;obtain⟨v,C,J⟩:=o _;refine⟨v,C,v,rfl,L,p,c,J,U,?_⟩;exact g.drop.drop.drop
end
end AppI
end
end Go.Proofs.YtfjifcfbmhpcaaaGreatDoor
