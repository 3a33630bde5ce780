/-
  A part of the proof of TopEcho.
-/
import Derived.Test.YtfjifcfbmhpcaaaGreatDoorE19
import Derived.Test.YtfjifcfbmhpcaaaGreatDoorE21
import Derived.Test.YtfjifcfbmhpcaaaGreatDoorE22
import Derived.Test.YtfjifcfbmhpcaaaGreatDoorE23
import Derived.Test.YtfjifcfbmhpcaaaGreatDoorE03
import Derived.Test.YtfjifcfbmhpcaaaGreatDoorE02
import Derived.Test.YtfjifcfbmhpcaaaGreatDoorE00
set_option linter.defProp false
set_option linter.unusedVariables false
set_option linter.unusedSimpArgs false
namespace Go.Proofs.YtfjifcfbmhpcaaaGreatDoor
open Go
open Go.Proofs.Tryz renaming prog → Zp
open Go.IntKind renaming i64 → Zk, wrap → Zw
open Go.Addr renaming add → Za
open Go.Value renaming int → Zi, string → Zs, pointer → Zq, bool → Zb, tuple → Zt, slice → Zl, agg → Zg
open _root_.Option renaming some->A0,none->A1
open _root_.Bool renaming false->A2,true->A9
open Go renaming World->A3,Value->A4,Addr->Ak
open _root_.List renaming getElem?_eq_getElem->A5,append_assoc->A7,mem_cons_of_mem->A8,take_of_length_le->Aa,mem_cons->Ad,mem_singleton->Ae,mem_cons_self->Af,take_add_one->Ag,getElem?_map->Ah,length_cons->Ai,foldl_cons->Aj
open _root_.Nat renaming lt_of_le_of_lt->A6,le_trans->Ab,le_refl->Ac
structure q31 where
 conn:Int
 kind:Int
 ten:ByteArray
 name:ByteArray
 epoch:Int
 token:ByteArray
 sh:Option qw6
 heard:Bool
 pump:Option Nat
 side:Int
 due:Bool
 said:Bool
structure q81 where
 conn:Int
 b:ByteArray
 e:Bool
 c:Bool
 deriving DecidableEq
structure EvD where
 kind:Int
 conn:Int
 addr:Int
 b:ByteArray
 n:Int
 name:ByteArray
 token:ByteArray
 draw:ByteArray
structure qra where
 err:Int
 conn:Int
 took:Int
 sent:List q81
structure Bk where
 R:qva
 O:qz8
 B:qi3
 Q:Qu.QG
 T:TkB
 P:qd6
 N:Cn.CT
 K:Ck.ClG
 roles:List (Int×q31)
 S:List (Int×q81)
 pumps:List Ri.PS
def q3h(L:LeL):List LeD:=(qk4 (λ_=>A9) (λd=>d) L).2
def q93:q81:=⟨0,e0,A2,A2⟩
def qw1{α σ:Type}(f:σ->α->Option σ):σ->List α->Option σ
 |s,[]=>A0 s
 |s,x::r=>match f s x with|none=>A1|some s=>qw1 f s r
def q9l(id:Int):q31:=⟨id,1,e0,e0,0,e0,A0 ⟨0,e0,e0,e0,A2⟩,A2,A1,0,A2,A2⟩
def qq7(id:Int)(p:qac)(i:Nat)(side:Int):q31:=⟨id,4,p.ten,p.name,p.epoch,e0,A1,A2,A0 i,side,A2,A2⟩
def qe6(S:List (Int×q81))(id:Int)(went:List UInt8)(e h:Bool):List (Int×q81):=
 if(went.isEmpty&&(!e&&!h))=A9 then S else
 qk S id ⟨id,((qe S id).getD q93).b++mkS went,((qe S id).getD q93).e||e,((qe S id).getD q93).c||h⟩
def q5c(K:Ck.ClG)(after:Int)(ids:List Int):Ck.ClG:=ids.foldl (λK id=>(Ck.cSet K id (Zw Zk (K.now+after))).1) K
namespace Bk
def ask{α:Type}(s:Bk)(id:Int)(z:α)(r:Cn.CnD->α):α:=s.N.ask id z r
def upd(s:Bk)(id:Int)(g:Cn.CnD->Cn.CnD):Bk:={ s with N:=s.N.upd id g}
def send(s:Bk)(id:Int)(went:List UInt8)(e h:Bool):Bk:={ s with S:=qe6 s.S id went e h}
def alarm(s:Bk)(after:Int)(ids:List Int):Bk:={ s with K:=q5c s.K after ids}
def tell(s:Bk)(id:Int)(m:qk1):Bk:=s.upd id (Cn.gSay (Fr.putP (q0d m)))
def no(s:Bk)(id e:Int):Bk:=s.tell id (qe9 e)
def give(s:Bk)(ten:ByteArray)(h:Int):Bk:={ s with O:=(qjc s.O ten h).1}
def emptyW(f:Bk->Int->Bk)(s:Bk)(name:ByteArray):Bk:=(Qu.gL s.Q name).foldl (λs id=>f (s.no id 3) id) s
def leaveW(f:Bk->Int->Bk)(s:Bk)(l:List LeD):Bk:=l.foldl (λs x=>emptyW f (s.give x.ten 1) x.name) s
def out(s:Bk)(id:Int):Bk:=
 let s:=(s.upd id Cn.gFlush).send id (s.ask id [] Cn.rFlush) A2 A9
 { s with K:=(Ck.cDrop s.K id).1,N:={ s.N with L:=qp s.N.L id},roles:=qp s.roles id}
def after(f:Bk->Int->Bk)(s:Bk)(id:Int)(r:q31):Bk:=
 if r.kind=2 then leaveW f { s with B:=(qe5 s.B id s.K.now).1} (qe5 s.B id s.K.now).2
 else if r.kind=3 then give { s with Q:=Qu.gDrop s.Q id,T:=(q5l s.T id).1} r.ten 2
 else if r.kind=4 then(if(qe s.P.ends id).isSome=A9 then f (give { s with P:=qxf s.P id} r.ten 2) (qb4 s.P id)else { s with P:=qxf s.P id})
 else s
def shutB:Nat->Bk->Int->Bk
 |0,s,_=>s
 |n+1,s,id=>match qe s.roles id with
  |none=>s
  |some r=>after (λs i=>shutB n s i) (s.out id) id r
def shut(s:Bk)(id:Int):Bk:=shutB (s.roles.length+1) s id
def refuse(s:Bk)(id e:Int):Bk:=(s.no id e).shut id
def empty(s:Bk)(name:ByteArray):Bk:=emptyW shut s name
def gone(s:Bk)(x:LeD):Bk:=((s.give x.ten 1).tell x.conn ⟨10,x.name,e0,x.epoch,0⟩).empty x.name
def admR(s:Bk)(id:Int)(name:ByteArray)(x:LeD)(h:Bool):qz8×Qu.QG×Int:=
 if h=A2 then(s.O,s.Q,3)else
 if qgf s.O x.ten (s.ask id 0 λd=>d.addr)≠0 then(s.O,s.Q,qgf s.O x.ten (s.ask id 0 λd=>d.addr))else
 if(qq5 s.O x.ten 2).2≠0 then((qq5 s.O x.ten 2).1,s.Q,(qq5 s.O x.ten 2).2)else
 if(Qu.gPut s.Q name id).2≠0 then((qjc (qq5 s.O x.ten 2).1 x.ten 2).1,(Qu.gPut s.Q name id).1,(Qu.gPut s.Q name id).2)else
 ((qq5 s.O x.ten 2).1,(Qu.gPut s.Q name id).1,0)
def held(s:Bk)(name:ByteArray):LeD:=(q06 s.B name s.K.now).1
def admE(s:Bk)(id:Int)(name:ByteArray):Int:=(s.admR id name (s.held name) (q06 s.B name s.K.now).2).2.2
def admitted(s:Bk)(id:Int)(name:ByteArray):Bk:={ s with O:=(s.admR id name (s.held name) (q06 s.B name s.K.now).2).1,Q:=(s.admR id name (s.held name) (q06 s.B name s.K.now).2).2.1}
def put(s:Bk)(id:Int)(r:q31):Bk:={ s with roles:=qk s.roles id r}
def reach(c:qy)(s:Bk)(id:Int)(r:q31)(name draw:ByteArray):Bk:=
 if s.admE id name≠0 then(s.admitted id name).refuse id (s.admE id name)else
 let x:=s.held name;let s:=((s.admitted id name).put id { r with kind:=3,ten:=x.ten,name:=name,epoch:=x.epoch}).alarm c.wait [id]
 { s with T:=(qca s.T ⟨id,name,x.ten,x.epoch⟩ draw).1}.tell x.conn ⟨11,name,(qca s.T ⟨id,name,x.ten,x.epoch⟩ draw).2.1,0,0⟩
def nonce(draw:ByteArray):ByteArray:=mkS (q45 ((qm draw).take 16))
def greet(c:qy)(s:Bk)(id:Int)(r:q31)(m:qk1)(draw:ByteArray):Option Bk:=
 if(m.k==14&&!r.heard)=A9 then A0 (s.reach c id r m.A draw)else
 let r:=if r.heard=A9 then r else { r with heard:=A9,token:=m.B}
 match r.sh with
 |none=>A1
 |some d=>
  let (d,said,_):=q75 c s.R d m s.K.now (nonce draw);let r:={ r with sh:=A0 d};let s:=(s.put id r).tell id said
  if said.k=5 then A0 (s.shut id)else
  if d.known=A9 then A0 (s.put id { r with kind:=2,ten:=d.ten})else A0 s
def granted(s:Bk)(id:Int)(x:LeD)(e:Int):Bk:=s.tell id (if e≠0 then qe9 e else⟨7,x.name,e0,x.epoch,x.til⟩)
def claim1(s:Bk)(id:Int)(r:q31)(m:qk1):Bk:=
 let (B,x,e):=qk5 s.B r.ten m.A id s.K.now m.N
 (if e≠0 then { s with B:=B}.give r.ten 1 else { s with B:=B}).granted id x e
def claim(s:Bk)(id:Int)(r:q31)(m:qk1):Bk:=
 if(qq5 s.O r.ten 1).2≠0 then { s with O:=(qq5 s.O r.ten 1).1}.no id (qq5 s.O r.ten 1).2 else
 { s with O:=(qq5 s.O r.ten 1).1}.claim1 id r m
def renew(s:Bk)(id:Int)(r:q31)(m:qk1):Bk:=
 let (B,x,e):=qpb s.B r.ten m.A m.N s.K.now m.M
 { s with B:=B}.granted id x e
def release(s:Bk)(id:Int)(r:q31)(m:qk1):Bk:=
 let x:=(q06 s.B m.A s.K.now).1;let (B,e):=qmb s.B r.ten m.A m.N s.K.now;let s:={ s with B:=B}
 if e≠0 then s.no id e else s.gone x
def holds(id now:Int)(x:LeD):Bool:=(x.conn==id)&&(x.held&&decide (now<x.til))
def paired(c:qy)(s:Bk)(id:Int)(p:qac):Bk:=
 (({ s with Q:=Qu.gDrop s.Q p.vis,P:=(q4g s.P p.vis id).1,pumps:=s.pumps++[Ri.PS.new]}.put p.vis (qq7 p.vis p s.pumps.length 0)).put id (qq7 id p s.pumps.length 1)).alarm c.idle [p.vis,id]
def callback(c:qy)(s:Bk)(id:Int)(r:q31)(m:qk1):Option Bk:=
 if((q3h s.B.L).any (holds id s.K.now))=A9 then A0 (s.refuse id 1)else
 match qw7 s.T m.B r.ten with
 |(T,p,e)=>if e≠0 then A0 ({ s with T:=T}.refuse id e)else
  if p.vis=id then A1 else A0 ({ s with T:=T}.paired c id p)
def hear(c:qy)(s:Bk)(id:Int)(r:q31)(m:qk1)(draw:ByteArray):Option Bk:=
 let s:=s.alarm c.idle [id]
 if r.kind=1 then s.greet c id r m draw else
 if m.k=6 then A0 (s.claim id r m)else
 if m.k=8 then A0 (s.renew id r m)else
 if m.k=9 then A0 (s.release id r m)else
 if m.k=13 then A0 s else
 if m.k=12 then s.callback c id r m else
 A0 (s.refuse id 1)
def talks(s:Bk)(id:Int):Option q31:=match qe s.roles id with
 |none=>A1
 |some r=>if r.kind=1\/r.kind=2 then A0 r else A1
def read(c:qy):Nat->Bk->Int->ByteArray->Option Bk
 |0,_,_,_=>A1
 |n+1,s,id,draw=>match s.talks id with
  |none=>A0 s
  |some r=>if r.conn≠id then A1 else
   let (N,x,w,e):=Cn.nextT s.N id;let s:={ s with N:=N}
   if e=0/\w=A2 then(if s.ask id A2 (λd=>d.ended)=A9 then A0 (s.shut id)else A0 s)else
   let (m,h):=qxg x
   if h=A2 then A0 (s.refuse id 61)else
   match s.hear c id r m draw with
   |none=>A1
   |some s=>read c n s id draw
def relayE(c:qy)(s:Bk)(f t:q31)(i:Nat)(inn o:List UInt8)(ended en:Bool)(z:Ri.PS):Bk×q31×Bool:=
 ({ s.upd t.conn (Cn.gSay o)with pumps:=s.pumps.set i z,K:=if decide ((inn.length:Int)+(o.length:Int)>0)=A9 then q5c s.K c.idle [f.conn,t.conn]else s.K},{ t with due:=t.due||en},decide ((inn.length:Int)+(o.length:Int)>0)||(ended||en))
def relayD(c:qy)(s:Bk)(f t:q31)(i:Nat)(inn:List UInt8)(ended:Bool)(z:Ri.PS)(k:Int):Bk×q31×Bool:=relayE c s f t i inn (z.outB t.side k) ended (z.outE t.side k) (z.out t.side k)
def relayC(c:qy)(s:Bk)(f t:q31)(i:Nat)(inn:List UInt8)(z:Ri.PS)(zz:Bool):Bk×q31×Bool:=
 relayD c s f t i inn (zz&&z.hears f.side) (if zz=A9 then z.end_ f.side else z) (s.N.ask t.conn 0 λd=>((1024 - d.out.length:Nat):Int))
def relayB(c:qy)(s:Bk)(f t:q31)(i:Nat)(inn:List UInt8)(z:Ri.PS):Bk×q31×Bool:=
 relayC c s f t i inn z ((s.N.ask f.conn 0 (λd=>(d.inb.length:Int))==0)&&s.N.ask f.conn A2 λd=>d.ended)
def relayA(c:qy)(s:Bk)(f t:q31)(i:Nat)(z:Ri.PS)(inn:List UInt8):Bk×q31×Bool:=
 relayB c (s.upd f.conn (Cn.gRest ((z.room 256 f.side:Nat):Int))) f t i inn (z.in_ 256 f.side inn)
def relay(c:qy)(s:Bk)(f t:q31):Option (Bk×q31×Bool):=
 match f.pump with
 |none=>A1
 |some i=>match s.pumps[i]? with
  |none=>A1
  |some z=>A0 (relayA c s f t i z (s.N.ask f.conn [] λd=>d.inb.take ((z.room 256 f.side:Nat):Int).toNat))
def flushR(r:q31)(en:Bool):q31:=if en=A9 then { r with due:=A2,said:=A9}else r
def flushE(s:Bk)(r:q31):Bool:=r.due&&((s.N.upd r.conn Cn.gFlush).ask r.conn 0 (λd=>(d.out.length:Int))==0)
def flushS(s:Bk)(r:q31)(en:Bool):Bk:=(s.upd r.conn Cn.gFlush).send r.conn (s.N.ask r.conn [] Cn.rFlush) en A2
def flush(s:Bk)(id:Int):Option (Bk×Bool):=match qe s.roles id with
 |none=>A1
 |some r=>A0 ((s.flushS r (s.flushE r)).put id (flushR r (s.flushE r)),decide (((s.N.ask r.conn [] Cn.rFlush).length:Int)>0)||s.flushE r)
def relays(c:qy)(st:Bk×Bool)(p:Int×Int):Option (Bk×Bool):=
 if p.1=p.2 then A1 else
 match qe st.1.roles p.1,qe st.1.roles p.2 with
 |some v,A0 k=>match st.1.relay c v k with
  |none=>A1
  |some (s,k,a)=>match s.relay c k v with
   |none=>A1
   |some (s,v,b)=>A0 ((s.put p.2 k).put p.1 v,b||(a||st.2))
 |_,_=>A1
def flushes(st:Bk×Bool)(id:Int):Option (Bk×Bool):=match st.1.flush id with
 |none=>A1
 |some (s,a)=>A0 (s,a||st.2)
def ends(st:Bk×Bool)(p:Int×Int):Option (Bk×Bool):=
 if p.1=p.2 then A1 else
 match qe st.1.roles p.1 with
 |none=>A1
 |some v=>if v.said=A2 then A0 st else match qe st.1.roles p.2 with
  |none=>A1
  |some k=>if k.said=A9 then A0 (st.1.shut p.1,A9)else A0 st
def ids(s:Bk):List Int:=q91 leI (s.N.L.map (·.1))
def round(c:qy)(s:Bk):Option (Bk×Bool):=
 if 1000000<s.P.ends.length then A1 else
 match qw1 (relays c) (s,A2) (qtc s.P)with
 |none=>A1
 |some st=>if 1000000<st.1.N.L.length then A1 else
  match qw1 flushes st st.1.ids with
  |none=>A1
  |some st2=>qw1 ends st2 (qtc s.P)
def rounds(c:qy):Nat->Bk->Option Bk
 |0,_=>A1
 |n+1,s=>match s.round c with
  |none=>A1
  |some (s,h)=>if h=A9 then rounds c n s else A0 s
def act(c:qy)(n:Nat)(s:Bk)(e:EvD):Option (Bk×Int×Int×Int):=
 if e.kind=1 then
  let (N,id,h):=Cn.openT s.N e.addr;let s:={ s with N:=N}
  if h≠0 then A0 (s,h,0,0)else A0 ((s.put id (q9l id)).alarm c.wait [id],0,id,0)
 else if e.kind=2 then(match (s.upd e.conn (Cn.gFeed (qm e.b))).read c n e.conn e.draw with
  |none=>A1
  |some a=>A0 (a,0,0,s.ask e.conn 0 (Cn.rFeed (qm e.b))))
 else if e.kind=3 then A0 (s.upd e.conn (Cn.gBudget e.n),if s.ask e.conn A2 (Cn.rBudget e.n)=A9 then 0 else 1,0,0)
 else if e.kind=4 then(if s.ask e.conn A2 (λd=>!d.ended)=A2 then A0 (s.upd e.conn Cn.gHalf,1,0,0)else
  match (s.upd e.conn Cn.gHalf).read c n e.conn e.draw with
  |none=>A1
  |some s=>A0 (s,0,0,0))
 else if e.kind=5 then A0 (s.shut e.conn,0,0,0)
 else if e.kind=6 then
  let (K,al,h):=Ck.cTick s.K e.n;let s:={ s with K:=K}
  if h≠0 then A0 (s,h,0,0)else
  let (B,l):=qm7 s.B s.K.now
  A0 (al.foldl shut (l.foldl gone { s with B:=B}),0,0,0)
 else if e.kind=7 then
  let (R,w):=qv7 c s.R e.name e.token;let s:={ s with R:=R}
  if w=A2 then A0 (s,3,0,0)else if 1000000<s.N.L.length then A1 else
  A0 (s.ids.foldl (λs id=>match qe s.roles id with
   |none=>s
   |some r=>if(r.kind==2&&(decide (r.ten=e.name)&&decide (r.token=e.token)))=A9 then s.shut id else s) s,0,0,0)
 else
  let (B,x,w):=qlb s.B e.name s.K.now;let s:={ s with B:=B}
  if w=A2 then A0 (s,3,0,0)else A0 (s.gone x,0,0,0)
def outs(s:Bk):List q81:=(q91 leI (s.S.map (·.1))).map λid=>(qe s.S id).getD q93
def step(c:qy)(n:Nat)(s:Bk)(e:EvD):Option (Bk×qra):=
 if e.kind<1\/8<e.kind then A0 (s,⟨1,0,0,[]⟩)else
 if e.kind>=2/\e.kind<=5/\s.ask e.conn A2 (λ_=>A9)=A2 then A0 (s,⟨3,0,0,[]⟩)else
 match { s with S:=[]}.act c n e with
 |none=>A1
 |some (s,h,conn,took)=>if h≠0 then A0 (s,⟨h,0,0,[]⟩)else
  match s.rounds c n with
  |none=>A1
  |some s=>if 1000000<s.S.length then A1 else A0 (s,⟨0,conn,took,s.outs⟩)
end Bk
section
structure qm3 where
 v:Nat
 g:Nat
 l:Nat
 q:Nat
 t:Nat
 p:Nat
 n:Nat
 k:Nat
 m:Nat
def qnc(pl:List Nat):Option Nat->A4
 |none=>Zq A1
 |some i=>match pl[i]? with|none=>Zq A1|some b=>qc b
def shP(sb:Option Nat):Option Ak:=sb.map λb=>⟨b,0,A1⟩
def qs(pl:List Nat)(sb:Option Nat)(d:q31):List A4:=[Zi Zk d.conn,Zi Zk d.kind,Zs d.ten,Zs d.name,Zi Zk d.epoch,Zs d.token,Zq (shP sb),Zb d.heard,qnc pl d.pump,Zi Zk d.side,Zb d.due,Zb d.said]
def q02(vb:Nat):Option Nat->Option qw6->Asn
 |some b,A0 d=>qx2 vb b d
 |none,A1=>prA True
 |_,_=>prA False
def qo2(vb:Nat)(pl:List Nat)(q:Nat)(d:q31):Asn:=exA λsb:Option Nat=>qz [prA (∀i,d.pump=A0 i->i<pl.length),Row q 127 (qs pl sb d),q02 vb sb d.sh]
def qr1(d:q81):A4:=Zg #[Zi Zk d.conn,Zs d.b,Zb d.e,Zb d.c]
def szS(S:List (Int×q81))(id:Int):Nat:=((qe S id).getD q93).b.size
def qb3(N:Cn.CT)(S:List (Int×q81)):Prop:=(∀id,szS S id<=1073741824)/\∀y∈N.L,0<=y.2.credit/\(szS S y.1:Int)+y.2.credit<=1073741824
def qs2(sn:Option Nat)(N:Cn.CT)(S:List (Int×q81)):Asn:=qz [prA (qb3 N S),match sn with|none=>prA (S=[])|some m=>qg (Zi Zk) qr1 m S]
def qa5(pl:List Nat)(ps:List Ri.PS):Asn:=qz [prA (pl.length=ps.length),qz ((pl.zip ps).map λx=>Ri.PumpA x.1 256 x.2)]
def qg5(c:qy)(b:Nat)(O:qz8):Asn:=qz [prA (∀y∈O,y.2.t∈c.tens),qv2 b O]
def brV(c:qy)(p:qm3)(sn:Option Nat):List A4:=qx3 c++[qc p.v,qc p.g,qc p.l,qc p.q,qc p.t,qc p.p,qc p.n,qc p.k,.map (A0 p.m),.map sn]
@[reducible] def qua (ro so:Asn) (c:qy) (x:Nat) (p:qm3) (pl:List Nat) (sn:Option Nat) (s:Bk) (F:List Asn):List Asn:=
 Row x 108 (brV c p sn)::qg1 p.v c s.R::qg5 c p.g s.O::q41 p.l s.B::Qu.QueueA p.q s.Q::q03 p.t s.T::q13 p.p s.P::Cn.TabA p.n s.N::Ck.ClockA p.k s.K::ro::so::qa5 pl s.pumps::F
@[reducible] def qy1 (ro:Asn) (c:qy) (x:Nat) (p:qm3) (pl:List Nat) (sn:Option Nat) (s:Bk) (F:List Asn):List Asn:=qua ro (qs2 sn s.N s.S) c x p pl sn s F
@[reducible] def roles (p:qm3) (pl:List Nat) (s:Bk):Asn:=qr (Zi Zk) p.m (qo2 p.v pl) s.roles
@[reducible] def brk (c:qy) (x:Nat) (p:qm3) (pl:List Nat) (sn:Option Nat) (s:Bk) (F:List Asn):List Asn:=qy1 (roles p pl s) c x p pl sn s F
@[reducible] def q32 (c:qy) (x:Nat) (p:qm3) (pl:List Nat) (sn:Option Nat) (s:Bk) (id:Int) (q:Nat) (F:List Asn):List Asn:=qy1 (qw (Zi Zk) p.m (qo2 p.v pl) s.roles id q) c x p pl sn s F
def uMr:Zp.underlying 106=A0 (.map 3 128):=Tryz.underlying106
def iPr:Zp.info? 128=A0 Tryz.t128:=by kernel_rfl
def zPr:Tryz.t128.zero=A0 (Zq A1):=rfl
def uMs:Zp.underlying 79=A0 (.map 3 38):=Tryz.underlying79
def iSe:Zp.info? 38=A0 Tryz.t38:=by kernel_rfl
def zSe:Tryz.t38.zero=A0 (qr1 q93):=rfl
section
variable{W w:World}{F:List Asn}{c:qy}{x:Nat}{p:qm3}{pl:List Nat}{sn:Option Nat}{s:Bk}{id:Int}{d:q31}{q vb:Nat}
def qo2.open_(h:St W (qo2 vb pl q d::F) w):∃sb,(∀i,d.pump=A0 i->i<pl.length)/\St W (Row q 127 (qs pl sb d)::q02 vb sb d.sh::F) w:=by obtain⟨sb,h⟩:=h.of_ex;obtain⟨a,h⟩:=h.of_sep.of_pr;exact⟨sb,a,h⟩
def qo2.shut(sb:Option Nat)(a:∀i,d.pump=A0 i->i<pl.length)(h:St W (Row q 127 (qs pl sb d)::q02 vb sb d.sh::F) w):St W (qo2 vb pl q d::F) w:=
 z01 sb (zk (l:=[_,_,_]) (z02 a h))
def brk.take(a:qe s.roles id=A0 d)(h:St W (brk c x p pl sn s F) w):∃q,St W (qo2 p.v pl q d::q32 c x p pl sn s id q F) w:=by obtain⟨q,h⟩:=z15 a (zf 9 0 h rfl);exact⟨q,zf 1 10 h rfl⟩
def brk.give(h:St W (qo2 p.v pl q d::q32 c x p pl sn s id q F) w):St W (brk c x p pl sn (s.put id d) F) w:=by have a:=z0n (zf 10 1 h rfl);exact zf 0 9 a rfl
def qah(h:qe s.roles id=A0 d):s.put id d=s:=by unfold Bk.put;rw[qt1 h]
def brk.back(a:qe s.roles id=A0 d)(h:St W (qo2 p.v pl q d::q32 c x p pl sn s id q F) w):St W (brk c x p pl sn s F) w:=by have:=brk.give h;rwa[qah a]at this
def qh8{κ ν:Type}[DecidableEq κ]{L:List (κ×ν)}{k:κ}{v:ν}{y:κ×ν}(h:y∈qk L k v):y=(k,v)\/y∈L:=by
 induction L with
 |nil=>simp only[qk,Ae]at h;exact .inl h
 |cons z r ih=>
  simp only[qk]at h;split at h
  .rcases Ad.1 h with h|h;.exact .inl h
   .exact .inr (A8 _ h)
  .rcases Ad.1 h with h|h;.exact .inr (h ▸ Af)
   .rcases ih h with h|h;.exact .inl h
    .exact .inr (A8 _ h)
def qb3.upd{N:Cn.CT}{S:List (Int×q81)}(h:qb3 N S)(id:Int){g:Cn.CnD->Cn.CnD}(a:∀d,(g d).credit=d.credit):qb3 (N.upd id g) S:=by
 refine⟨h.1,λy w=>?_⟩;unfold Cn.CT.upd at w;split at w;.exact h.2 y w
 .rename_i d b;rcases qh8 w with rfl|w
  .have:=h.2 _ (qg3 b);exact⟨by rw[a];exact this.1,by rw[a];exact this.2⟩
  .exact h.2 y w
def qb3.del{N:Cn.CT}{S:List (Int×q81)}(h:qb3 N S)(id:Int):qb3 { N with L:=qp N.L id} S:=⟨h.1,λy w=>h.2 y ((q2a _ _).subset w)⟩
def qsf(id:Int):szS [] id=0:=rfl
def qb3.fresh{N:Cn.CT}{S:List (Int×q81)}(h:qb3 N S):qb3 N []:=⟨λid=>by rw[qsf];omega,λy w=>⟨(h.2 y w).1,by have:=(h.2 y w).2;rw[qsf];omega⟩⟩
def St.repl{W w:A3}{l:List Asn}{A B:Asn}(k:Nat)(b:St W l w)(a:nth l k=A0 A)(h:∀H,A H->B H):St W (put l k [B]) w:=z06 k a (B:=[B]) ((b.at k a).imp h)
section
variable{W w:World}{F:List Asn}{c:qy}{b:Nat}{O:qz8}{s:ByteArray}{what:Int}
def qg5.open_(h:St W (qg5 c b O::F) w):(∀y∈O,y.2.t∈c.tens)/\St W (qv2 b O::F) w:=h.of_sep.of_pr
def qg5.shut(a:∀y∈O,y.2.t∈c.tens)(h:St W (qv2 b O::F) w):St W (qg5 c b O::F) w:=zk (l:=[_,_]) (z02 a h)
def qgx{d:qz7}{n:Int}(w:∀y∈O,y.2.t∈c.tens)(a:qe O s=A0 d):∀y∈qk O s (d.put what n),y.2.t∈c.tens:=λy h=>by
 rcases qh8 h with rfl|h
 .have:=w _ (qg3 a);unfold qz7.put;split<;>exact this
 .exact w y h
def qx7(e:what=1\/what=2)(h:St W (qg5 c b O::F) w):qb Zp 147 #[qc b,Zs s,Zi Zk what] w λv w'=>v=Zb (qjc O s what).2/\St W (qg5 c b (qjc O s what).1::F) w':=by
 obtain⟨a,h⟩:=qg5.open_ h;refine(qnt e h).of λv w ⟨d,h⟩=>⟨d,qg5.shut ?_ h⟩;unfold qjc;split;.exact a
 .split;.exact a
  .exact qgx a (by assumption)
def qyh(e:what=1\/what=2)(h:St W (qg5 c b O::F) w):qb Zp 353 #[qc b,Zs s,Zi Zk what] w λv w'=>v=Zi Zk (qq5 O s what).2/\St W (qg5 c b (qq5 O s what).1::F) w':=by
 obtain⟨a,h⟩:=qg5.open_ h;refine(Take_spec e h).of λv w ⟨d,h⟩=>⟨d,qg5.shut ?_ h⟩;unfold qq5;split;.exact a
 .split;.exact a
  .exact qgx a (by assumption)
def qvo{addr:Int}(e:ql1 F c)(h:St W (qg5 c b O::F) w):qb Zp 382 #[qc b,Zs s,Zi .u32 addr] w λv w'=>v=Zi Zk (qgf O s addr)/\St W (qg5 c b O::F) w':=by obtain⟨a,h⟩:=qg5.open_ h;exact(q2q (λy f=>e.ok _ (a y f)) h).of λv w ⟨d,h⟩=>⟨d,qg5.shut a h⟩
end
def qzz{p:Prop}{A:Asn}{H:Hp}(a:p)(h:A H):qz [prA p,A] H:=⟨λ_=>A1,λb o w=>(by cases w),a,H,λb o w=>(by unfold qh6;exact w),h,trivial⟩
def qs2.of{m:Nat}{N:Cn.CT}{S:List (Int×q81)}(h:qb3 N S):∀H,qg (Zi Zk) qr1 m S H->qs2 (A0 m) N S H:=λH w=>qzz h w
def qs2.imp{sn:Option Nat}{N w:Cn.CT}{S:List (Int×q81)}(h:qb3 N S->qb3 w S):∀H,qs2 sn N S H->qs2 sn w S H:=by rintro H ⟨g,b,a,c⟩;exact⟨g,b,h a,c⟩
def qs2.cr{W w:A3}{l:List Asn}{sn:Option Nat}{N:Cn.CT}{S:List (Int×q81)}(k:Nat)(h:St W l w)(a:nth l k=A0 (qs2 sn N S)):qb3 N S:=((h.at k a).of_sep.of_pr).1
def brk.sent{W w:A3}{F:List Asn}{ro:Asn}{c:qy}{x:Nat}{p:qm3}{pl:List Nat}{s:Bk}{m:Nat}(h:St W (qy1 ro c x p pl (A0 m) s F) w):qb3 s.N s.S/\St W (qua ro (qg (Zi Zk) qr1 m s.S) c x p pl (A0 m) s F) w:=by obtain⟨b,a⟩:=(h.at 10 rfl).of_sep.of_pr;exact⟨b,a.perm (qh7 10 _ _)⟩
def Rd.b12{F:List Asn}{q:Option Ak}{cs:List A4}{a0 b a2 a3 a4 a5 e c d a9 a w:Asn}(h:Rd F q cs):Rd (a0::b::a2::a3::a4::a5::e::c::d::a9::a::w::F) q cs:=(((((((((((h.cons _).cons _).cons _).cons _).cons _).cons _).cons _).cons _).cons _).cons _).cons _).cons _
def brk.open_(a:qe s.roles id=A0 d)(h:St W (brk c x p pl sn s F) w):∃q sb,(∀i,d.pump=A0 i->i<pl.length)/\St W (q32 c x p pl sn s id q (Row q 127 (qs pl sb d)::q02 p.v sb d.sh::F)) w:=by obtain⟨q,h⟩:=brk.take a h;obtain⟨sb,b,h⟩:=qo2.open_ h;exact⟨q,sb,b,zf 0 12 (zf 1 13 h rfl) rfl⟩
def brk.set{sb:Option Nat}(a:∀i,d.pump=A0 i->i<pl.length)(h:St W (q32 c x p pl sn s id q (Row q 127 (qs pl sb d)::q02 p.v sb d.sh::F)) w):St W (brk c x p pl sn (s.put id d) F) w:=
 brk.give (qo2.shut sb a (zf 13 1 (zf 12 0 h rfl) rfl))
def brk.close{sb:Option Nat}(b:∀i,d.pump=A0 i->i<pl.length)(a:qe s.roles id=A0 d)(h:St W (q32 c x p pl sn s id q (Row q 127 (qs pl sb d)::q02 p.v sb d.sh::F)) w):St W (brk c x p pl sn s F) w:=
 brk.back a (qo2.shut sb b (zf 13 1 (zf 12 0 h rfl) rfl))
def qre(L:List (Int×q81))(id:Int):((qe L id).map qr1).getD (qr1 q93)=qr1 ((qe L id).getD q93):=by cases qe L id<;>rfl
end
def z08:=@brk.close
def z11:=@St.repl
def z1g:=@qs2.imp
end
section
section
variable{P:Program}{f:FuncId}{args:Array Value}{W w:World}{l:List Asn}{C:Cls}{A B:Asn}{X:Value}
def qb.p{R:A4->A3->Prop}(k:Nat)(c:St W l w)(b:nth l k=A0 A)
 (a:St W (A::del l k) w->qb P f args w λv w'=>v=X/\St W (B::del l k) w') (e:∀w',St W (put l k [B]) w'->R X w'):qb P f args w R:=
 (a (c.at k b)).of λv w' ⟨d,h⟩=>by subst d;exact e w' (z06 k b (B:=[B]) h)
variable{Φ:Value->World->(Value->World->Prop)->Prop}{K:Value->Cls->Prop}
def Ef.c(k:Nat)(d:Is W C l)(b:nth l k=A0 A)
 (a:∀G w,St W (A::(del l k++pts G)) w->qb P f args w λv w'=>v=X/\St W (B::(del l k++pts G)) w')
 (c:∀w' (K:A4->A3->Prop),K X w'->Φ X w' K) (g:K X (StC W (put l k [B]))):Ef C (λw K=>qb P f args w λv w'=>Φ v w' K) K:=
 Ef.n (α:=Unit) (V:=λ_=>X) (B:=λ_=>[B]) () k d b (λG w h=>(a G w h).of λv w' ⟨e,h⟩=>by subst e;exact c w' _ ⟨(),rfl,z17 k b (B:=[B]) h⟩) λ_=>g
def Ef.al{l':List Asn}(c:Is W C l)(a:∀G w,St W (l++pts G) w->qb P f args w λv w'=>v=X/\St W (l'++pts G) w')
 (b:∀w' (K:A4->A3->Prop),K X w'->Φ X w' K) (e:K X (StC W l')):Ef C (λw K=>qb P f args w λv w'=>Φ v w' K) K:=
 zn (α:=Unit) (V:=λ_=>X) (B:=λ_=>l') () c (λG w h=>(a G w h).of λv w' ⟨d,h⟩=>by subst d;exact b w' _ ⟨(),rfl,h⟩) λ_=>e
def Ef.sl{a:Option Ak->Nat->Asn}{Y:Option Ak->Nat->A4}(k:Nat)(m:Is W C l)(d:nth l k=A0 A)
 (b:∀G w,St W (A::(del l k++pts G)) w->qb P f args w λv w'=>∃p c,v=Y p c/\St W (a p c::B::(del l k++pts G)) w')
 (j:∀p c w' (K:A4->A3->Prop),K (Y p c) w'->Φ (Y p c) w' K) (q:∀p c,K (Y p c) (StC W (a p c::put l k [B]))):Ef C (λw K=>qb P f args w λv w'=>Φ v w' K) K:=
 zn (α:=Option Ak×Nat) (V:=λx=>Y x.1 x.2) (B:=λx=>a x.1 x.2::put l k [B]) (A1,0) m (λG w h=>by
  have e:=h.at k (qr4 (pts G) d).1;rw[(qr4 (pts G) d).2.1]at e;exact(b G w e).of λv w' ⟨p,c,n,h⟩=>by
   subst n;refine j p c w' _ ⟨(p,c),rfl,?_⟩;have o:St W (B::(del l k++pts G)++[a p c]) w':=h.last;have i:St W ([B]++((del l k++pts G)++[a p c])) w':=o;rw[A7,<-A7,<-A7]at i;have g:St W (put l k [B]++(pts G++[a p c])) w':=by refine i.perm ?_;rw[A7];exact(qrg [B] d).append_right _
   rw[<-A7]at g;exact g.perm (List.perm_append_singleton _ _)) λx=>q x.1 x.2
def Ef.sw{b:Option Ak->Nat->Asn}{Y:Option Ak->Nat->A4}(e:Is W C l)
 (a:∀G w,St W (l++pts G) w->qb P f args w λv w'=>∃p c,v=Y p c/\St W (b p c::(l++pts G)) w')
 (d:∀p c w' (K:A4->A3->Prop),K (Y p c) w'->Φ (Y p c) w' K) (i:∀p c,K (Y p c) (StC W (b p c::l))):Ef C (λw K=>qb P f args w λv w'=>Φ v w' K) K:=
 zn (α:=Option Ak×Nat) (V:=λx=>Y x.1 x.2) (B:=λx=>b x.1 x.2::l) (A1,0) e (λG w h=>(a G w h).of λv w' ⟨p,c,g,h⟩=>by subst g;exact d p c w' _ ⟨(p,c),rfl,h⟩) λx=>i x.1 x.2
end
def Ef.mu{P:Program}{W:A3}{l:List Asn}{C:Cls}{K:A4->Cls->Prop}{κ ν:Type}[DecidableEq κ]{b e mt:TypeId}{enc:κ->A4}{vl:ν->A4}{m:Nat}{L:List (κ×ν)}(d:qw2 P b enc)(f:P.underlying mt=A0 (.map b e))(k:Nat)(c:Is W C l)(a:nth l k=A0 (qg enc vl m L))(key:κ)(v:ν)
 (g:K (Zt #[]) (StC W (put l k [qg enc vl m (qk L key v)]))):Ef C (λw K=>qt8 P (Instr.mapUpdate mt (.map (A0 m)) (enc key) (vl v)) w λw'=>K (Zt #[]) w') K:=
 Ef.n (α:=Unit) (V:=λ_=>Zt #[]) (B:=λ_=>[qg enc vl m (qk L key v)]) () k c a (λG w h=>qh1 d f 0 h rfl key v λw' i=>⟨(),rfl,z17 k a (B:=[_]) i⟩) λ_=>g
def qh.k{W w:A3}{l:List Asn}{c:Array A4}{e:TypeId}{F:Nat->A3->Prop}(k:Nat)(a:St W l w)(d:∀b w',St W (ins k (Row b e c.toList) l) w'->F b w'):qh c e w F:=
 zh a λb w' h=>d b w' (h.perm (qh7 k _ _))
def St.to{W w:A3}{A:Asn}{l:List Asn}(k:Nat)(h:St W (A::l) w):St W (ins k A l) w:=h.perm (qh7 k A l)
def z05:=@Ef.c
def z09:=@qh.k
def z12:=@St.to
end
def q5x{P:Nat->Prop}:∀n,P n->∃m,P m/\∀k,P k->m<=k:=by
 intro n;induction n using Nat.strongRecOn with
 |ind n d=>
  intro h;by_cases a:∃k,k<n/\P k
  .obtain⟨k,w,b⟩:=a;exact d k w b
  .refine⟨n,h,λk c=>?_⟩;rcases Nat.lt_or_ge k n with w|w;.exact yI ⟨k,w,c⟩ a
   .exact w
def qma(I:Nat->List A4->A3->Prop):∃μ:List A4->A3->Nat,(∀vs w n,I n vs w->μ vs w<=n)/\∀vs w,(∃n,I n vs w)->I (μ vs w) vs w:=by
 have h:∀vs w,∃m,(∀n,I n vs w->m<=n)/\((∃n,I n vs w)->I m vs w):=λvs w=>by
  by_cases a:∃n,I n vs w
  .obtain⟨n,b⟩:=a;obtain⟨m,c,d⟩:=q5x (P:=λn=>I n vs w) n b;exact⟨m,d,λ_=>c⟩
  .exact⟨0,λn b=>yI ⟨n,b⟩ a,λh=>yI h a⟩
 refine⟨λvs w=>Classical.choose (h vs w),λvs w=>(Classical.choose_spec (h vs w)).1,λvs w=>(Classical.choose_spec (h vs w)).2⟩
def qt3{F:(List A4->A3->Prop)->(List A4->A3->Nat)->Prop}(I:Nat->List A4->A3->Prop)
 (h:∀μ:List A4->A3->Nat,(∀vs w n,I n vs w->μ vs w<=n)->(∀vs w,(∃n,I n vs w)->I (μ vs w) vs w)->F (λvs w=>∃n,I n vs w) μ):∃I μ,F I μ:=by
 obtain⟨μ,b,a⟩:=qma I;exact⟨_,μ,h μ b a⟩
section
section
variable{W w:World}{F:List Asn}{ro:Asn}{c:qy}{x:Nat}{p:qm3}{pl:List Nat}{sn:Option Nat}{s:Bk}{id:Int}
def qpn{C:Cls}{l:List Asn}{b t:Nat}{a0 a3 a4:Int}{c a2:ByteArray}(k:Nat)(d:Is W C l)(j:nth l k=A0 (Row b t [Zi Zk a0,Zs c,Zs a2,Zi Zk a3,Zi Zk a4])):
 Qt C (Zg #[Zi Zk a0,Zs c,Zs a2,Zi Zk a3,Zi Zk a4]) λw K=>LdI Zk (Za ⟨b,0,A1⟩ 0) w λg=>LdS (Za ⟨b,0,A1⟩ 1) w λe=>LdS (Za ⟨b,0,A1⟩ 2) w λf=>LdI Zk (Za ⟨b,0,A1⟩ 3) w λm=>LdI Zk (Za ⟨b,0,A1⟩ 4) w λi=>K (Zg #[Zi Zk g,Zs e,Zs f,Zi Zk m,Zi Zk i]) w:=λG w h=>by
 have a:=d.at k j h;exact z8 0 a rfl rfl (zg 0 a rfl rfl (zg 0 a rfl rfl (z8 0 a rfl rfl (z8 0 a rfl rfl ⟨rfl,h⟩))))
def qba(m:qk1)(a:St W (qy1 ro c x p pl sn s F) w):qb Zp 205 #[qc x,Zi Zk id,ql2 m] w λv w'=>v=Zt #[]/\St W (qy1 ro c x p pl sn (s.tell id m) F) w':=by refine F205_of (zh a λb w a=>⟨StC W _,zd a,z7 ⟨_,zq 1 ir rfl rfl,_,_,_,_,_,qpn 0 ir rfl,?_⟩⟩);refine Ef.sw ir (λG w h=>q1f m h) (λ_ _ _ _ h=>⟨_,_,_,rfl,h⟩) λg c1=>⟨_,_,_,rfl,zq 2 ir rfl rfl,?_⟩;refine Ef.sw ir (λG w h=>Fr.Put_spec (z0i _) rfl h) (λ_ _ _ _ h=>⟨_,_,_,rfl,h⟩) λf e=>⟨_,_,_,rfl,zq 3 ir rfl rfl,?_⟩;refine z05 10 ir rfl (λG w h=>Cn.Say_spec (id:=id) (xs:=Fr.putP (q0d m)) (z0i _) (qi.le (h.drop)).2 h) (λ_ _ h=>⟨_,rfl,h⟩) ⟨_,rfl,trivial,λG w h=>⟨rfl,?_⟩⟩;have a:=z0e [_,_,_] (zb h);exact z11 10 a rfl (z1g λh=>h.upd id λd=>by unfold Cn.gSay;split<;>rfl)
def qyq(K:Ck.ClG)(after:Int)(ids:List Int){k:Nat}{id:Int}(h:ids[k]?=A0 id):q5c K after (ids.take (k+1))=(Ck.cSet (q5c K after (ids.take k)) id (Zw Zk ((q5c K after (ids.take k)).now+after))).1:=by unfold q5c;rw[Ag,h];simp
def q7i{i:Option Ak}{o:Nat}{ids:List Int}{after:Int}(r:Rd F i (ids.map (Zi Zk)))(z:ids.length<=1000000)(b:St W (qy1 ro c x p pl sn s F) w):qb Zp 122 #[qc x,Zi Zk after,Zl i ids.length o] w λv w'=>v=Zt #[]/\St W (qy1 ro c x p pl sn (s.alarm after ids) F) w':=by
 refine F122_of (qt3 (λn vs w=>∃k:Nat,k+n=ids.length/\vs=[Zi Zk (k:Int)]/\St W (qy1 ro c x p pl sn (s.alarm after (ids.take k)) F) w) λμ q t=>⟨⟨ids.length,0,by omega,rfl,b⟩,λj w l=>?_⟩);clear b;obtain⟨k,m,y,b⟩:=t _ _ l;generalize μ _ _=n at m⊢;cases y;refine za (λh=>?_) λh=>?_
 .have d:k<ids.length:=by have:=yC h;omega
  have g:=A5 d;refine z0f r.b12 b rfl d (v:=Zi Zk ids[k]) (by rw[Ah,g];rfl) λa u=>zy u ⟨StC W _,zd b,z7 (z7 ⟨_,zq 0 ir rfl rfl,_,zq 0 ir rfl rfl,?_⟩)⟩;refine z05 8 ir rfl (λG w h=>Ck.Now_spec h) (λ_ _ h=>⟨_,rfl,h⟩) ⟨_,rfl,zq 0 ir rfl rfl,?_⟩;refine z05 8 ir rfl (λG w h=>Ck.Set_spec ids[k] _ h) (λ_ _ h=>⟨_,rfl,h⟩) ⟨_,rfl,trivial,λG w h=>?_⟩;have b:=zb h;have e:∃f:Nat,f+(n - 1)=ids.length/\[Zi Zk (Zw Zk ((k:Int)+1))]=[Zi Zk (f:Int)]/\St W (qy1 ro c x p pl sn (s.alarm after (ids.take f)) F) w:=⟨k+1,by omega,by rw[up d (by omega)],by unfold Bk.alarm;rw[qyq _ _ _ g];exact b⟩
  exact⟨⟨_,e⟩,A6 (q _ _ _ e) (by omega)⟩
 .have:ids.take k=ids:=Aa (by have:=yD h;omega);rw[this]at b;exact⟨rfl,b⟩
def fSe:(Zp.fieldsOf 38).toList.map qhm=[(A9,3,0),(A9,9,1),(A9,4,2),(A9,4,3)]:=by kernel_rfl
def uSe:Zp.underlying 38=A0 (.struct (Zp.fieldsOf 38)):=by kernel_rfl
def hSe:Zp.stoodInHeld 38=A2:=by kernel_rfl
def gSe:Zp.eqGuardType Zp.depth 38=A2:=by kernel_rfl
def qmx:Zp.plainKey 4=A9:=by kernel_rfl
def qq01:Zp.underlying 4=A0 .bool:=Tryz.underlying4
def sp0(a:q81)(w:A3):(part 3 #[Zi Zk a.conn,Zs a.b,Zb a.e,Zb a.c] 0).run Zp w=.ok (Zi Zk a.conn) w:=run_part_plain w qjr rfl
def sp1(a:q81)(w:A3):(part 9 #[Zi Zk a.conn,Zs a.b,Zb a.e,Zb a.c] 1).run Zp w=.ok (Zs a.b) w:=run_part_plain w pS rfl
def sp2(a:q81)(w:A3):(part 4 #[Zi Zk a.conn,Zs a.b,Zb a.e,Zb a.c] 2).run Zp w=.ok (Zb a.e) w:=run_part_plain w qmx rfl
def sp3(a:q81)(w:A3):(part 4 #[Zi Zk a.conn,Zs a.b,Zb a.e,Zb a.c] 3).run Zp w=.ok (Zb a.c) w:=run_part_plain w qmx rfl
def qaq(d:Nat)(a b:q81)(w:A3):(Op.equalIn (d+2) 38 (qr1 a) (qr1 b)).run Zp w=.ok (decide (a=b)) w:=by
 unfold qr1;rw[show d+2=(d+1)+1 from rfl,run_equalIn_struct w (d+1) _ _ _ uSe hSe,qhh,fSe];simp only[eqF,Sem.run_bind,sp0,sp1,sp2,sp3,Result.andThen_ok,run_equalIn_int w d 3 Zk Zk _ _ uInt,run_equalIn_string w d 9 _ _ uS,run_equalIn_bool' w d 4 _ _ qq01,qv3,qow,Sem.run_ite,Sem.run_pure];obtain⟨k,A,e,c⟩:=a;obtain⟨l,A',e',j⟩:=b;by_cases h:k=l
 .by_cases f:A=A'
  .by_cases g:e=e'
   .by_cases i:c=j;.simp[h,f,g,i]
    .simp[h,f,g,i]
   .simp[h,f,g]
  .simp[h,f]
 .simp[h]
def q8u{c h:Operand}(a b:q81)(w:A3):Sem.run Zp (do eqGuard .eql 38 c h (qr1 a) (qr1 b);binOp .eql 38 (qr1 a) (qr1 b)) w=.ok (Zb (decide (a=b))) w:=by unfold qr1;simp only[Sem.run_bind,run_eqGuard_agg w .eql 38 c h _ _ gSe,Result.andThen_ok,run_eql_struct];have:=qaq 9998 a b w;unfold qr1 at this;rw[show(10000:Nat)=9998+2 from rfl,this];rfl
def qav(id:Int)(bs:List UInt8)(e w:Bool):decide ((⟨id,mkS bs,e,w⟩:q81)=⟨id,⟨#[]⟩,A2,A2⟩)=(bs.isEmpty&&(!e&&!w)):=by
 have a:mkS bs=⟨#[]⟩↔bs=[]:=by
  unfold mkS;constructor
  .intro h;have:=yE (λb:ByteArray=>b.data.toList) h;simpa using this
  .intro h;rw[h]
 rw[Bool.eq_iff_iff,yJ,q81.mk.injEq,a];cases bs<;>cases e<;>cases w<;>simp
def qkk{n:Option Ak}{o m2:Nat}{bs:List UInt8}{e b:Bool}(r:Rd F n (bs.map qd))(k:szS s.S id+bs.length<=1073741824)(f:qb3 s.N (qe6 s.S id bs e b))(a:St W (qy1 ro c x p pl (A0 m2) s F) w):
 qb Zp 143 #[qc x,Zi Zk id,Zl n bs.length o,Zb e,Zb b] w λv w'=>v=Zt #[]/\St W (qy1 ro c x p pl (A0 m2) (s.send id bs e b) F) w':=by
 unfold Bk.send qe6 at*;refine F143_of (qox uB uU8 uS (λj v q=>r.b12.of a q) rfl ⟨_,rfl,zh a λl w a=>St1.zz 0 a rfl λw a=>St1.zz 0 a rfl λw a=>St1.zz 0 a rfl λw a=>St1.zz 0 a rfl λw a=>z8 0 a rfl rfl (zg 0 a rfl rfl (zw 0 a rfl rfl (zw 0 a rfl rfl ⟨_,λw=>q8u ⟨id,mkS bs,e,b⟩ ⟨id,⟨#[]⟩,A2,A2⟩ w,_,rfl,?_⟩)))⟩);rw[qav];refine za (λh=>?_) λh=>?_
 .rw[yB h];exact⟨rfl,a.drop⟩
 rw[yA (by rw[h];simp)]at f⊢;have a:St W (Row l 38 [Zi Zk id,Zs (mkS bs),Zb e,Zb b]::qy1 ro c x p pl (A0 m2) s F) w:=a;obtain⟨_,a⟩:=brk.sent (a.to 12);have a:St W (Row l 38 [Zi Zk id,Zs (mkS bs),Zb e,Zb b]::qua ro (qg (Zi Zk) qr1 m2 s.S) c x p pl (A0 m2) s F) w:=zf 12 0 a rfl;refine z7 (zv 1 a rfl rfl (qq1 kI uMs iSe zSe 11 a rfl id A2 ?_));rw[yA (by simp),qre];unfold szS at k;generalize (qe s.S id).getD q93=was at k f⊢;refine⟨_,_,_,_,rfl,zh a λm w a=>St1.zz 0 a rfl λw a=>St1.zz 0 a rfl λw a=>St1.zz 0 a rfl λw a=>St1.zz 0 a rfl λw a=>?_⟩;have a:St W (Row m 38 [Zi Zk was.conn,Zs was.b,Zb was.e,Zb was.c]::Row l 38 [Zi Zk id,Zs (mkS bs),Zb e,Zb b]::qua ro (qg (Zi Zk) qr1 m2 s.S) c x p pl (A0 m2) s F) w:=a;refine⟨StC W _,zd a,z7 ⟨_,z0b 2 ir rfl rfl,_,zu 0 ir rfl rfl,_,zu 1 ir rfl rfl,⟨by rw[qf1];omega,?_⟩⟩⟩;have g:∀(u v:Bool) (w:A3),(was.e||e)=u->(was.c||b)=v->St W (Row m 38 [Zi Zk was.conn,Zs was.b,Zb was.e,Zb was.c]::Row l 38 [Zi Zk id,Zs (mkS bs),Zb e,Zb b]::qua ro (qg (Zi Zk) qr1 m2 (qk s.S id ⟨id,was.b++mkS bs,u,v⟩)) c x p pl (A0 m2) s F) w->St W (qy1 ro c x p pl (A0 m2) { s with S:=qk s.S id ⟨id,was.b++mkS bs,was.e||e,was.c||b⟩} F) w:=λu v w i d h=>by rw[i,d]at f⊢;exact z11 10 h.drop.drop rfl (qs2.of f)
 refine⟨_,z0s 0 ir rfl rfl,za (λi=>⟨_,z0s 0 ir rfl rfl,za (λd=>?_) λd=>⟨_,z0s 1 ir rfl rfl,?_⟩⟩) λi=>⟨_,z0s 1 ir rfl rfl,_,z0s 0 ir rfl rfl,za (λd=>?_) λd=>⟨_,z0s 1 ir rfl rfl,?_⟩⟩⟩;.exact Ef.mu (vl:=qr1) kI uMs 12 ir rfl id ⟨id,was.b++mkS bs,A9,A9⟩ ⟨rfl,trivial,λG w h=>⟨rfl,g _ _ _ (by rw[i];rfl) (by rw[d];rfl) (zb h)⟩⟩
 .exact Ef.mu (vl:=qr1) kI uMs 12 ir rfl id ⟨id,was.b++mkS bs,A9,b⟩ ⟨rfl,trivial,λG w h=>⟨rfl,g _ _ _ (by rw[i];rfl) (by rw[d];rfl) (zb h)⟩⟩
 .exact Ef.mu (vl:=qr1) kI uMs 12 ir rfl id ⟨id,was.b++mkS bs,e,A9⟩ ⟨rfl,trivial,λG w h=>⟨rfl,g _ _ _ (by rw[i];rfl) (by rw[d];rfl) (zb h)⟩⟩
 .exact Ef.mu (vl:=qr1) kI uMs 12 ir rfl id ⟨id,was.b++mkS bs,e,b⟩ ⟨rfl,trivial,λG w h=>⟨rfl,g _ _ _ (by rw[i];rfl) (by rw[d];rfl) (zb h)⟩⟩
def qvf(e:Int)(h:St W (qy1 ro c x p pl sn s F) w):qb Zp 274 #[qc x,Zi Zk id,Zi Zk e] w λv w'=>v=Zt #[]/\St W (qy1 ro c x p pl sn (s.no id e) F) w':=
 F274_of ((qba (qe9 e) h).of λv w ⟨a,h⟩=>⟨a,rfl,h⟩)
end
end
section
section
variable{κ ν:Type}[DecidableEq κ]
def qck{L:List (κ×ν)}(w:(L.map (·.1)).Nodup){k:κ}{v:ν}{y:κ×ν}(h:y∈qk L k v):y=(k,v)\/(y∈L/\y.1≠k):=by
 induction L with
 |nil=>simp only[qk,Ae]at h;exact .inl h
 |cons z r ih=>
  simp only[List.map_cons,List.nodup_cons]at w;simp only[qk]at h;split at h
  .rename_i e;rcases Ad.1 h with h|h;.exact .inl h
   .exact .inr ⟨A8 _ h,λa=>w.1 (by rw[e,<-a];exact List.mem_map_of_mem h)⟩
  .rename_i e;rcases Ad.1 h with h|h;.subst h;exact .inr ⟨Af,e⟩
   .rcases ih w.2 h with h|h;.exact .inl h
    .exact .inr ⟨A8 _ h.1,h.2⟩
def q9s{L:List (κ×ν)}{k:κ}{v:ν}(h:qe L k=A0 v):(qp L k).length<L.length:=by have:=(Go.Proofs.YtfjifcfbmhpcaaaGreatDoor.aget_perm h).length_eq;rw[this,Ai];omega
end
def q29{α σ:Type}(f:σ->α->σ)(s:σ){l:List α}{k:Nat}{x:α}(h:l[k]?=A0 x):(l.take (k+1)).foldl f s=f ((l.take k).foldl f s) x:=by rw[Ag,h,List.foldl_append];rfl
def qsd(S:List (Int×q81))(id j:Int)(bs:List UInt8)(e w:Bool):szS (qe6 S id bs e w) j=if id=j then szS S id+bs.length else szS S j:=by
 unfold qe6 szS;split
 .rename_i h;have:bs=[]:=by cases bs with|nil=>rfl|cons _ _=>simp at h
  subst this;split;.rename_i h;subst h;rfl
  .rfl
 .rw[qh2];split
  .rename_i h;subst h;simp[qf1,ByteArray.size_append]
  .rfl
def qb3.flush{N:Cn.CT}{S:List (Int×q81)}(f:(N.L.map (·.1)).Nodup)(h:qb3 N S)(id:Int):qb3 (N.upd id Cn.gFlush) S/\szS S id+(N.ask id [] Cn.rFlush).length<=1073741824/\∀e b,qb3 (N.upd id Cn.gFlush) (qe6 S id (N.ask id [] Cn.rFlush) e b):=by
 unfold Cn.CT.upd Cn.CT.ask;cases hd:qe N.L id with
 |none=>
  refine⟨h,by simpa using h.1 id,λe b=>⟨λj=>?_,λy w=>?_⟩⟩
  .rw[qsd];split;.simpa using h.1 id
   .exact h.1 j
  .rw[qsd];split;.rename_i i;rw[i];simpa using h.2 y w
   .exact h.2 y w
 |some d=>
  have g:=h.2 _ (qg3 hd);simp only at g⊢;have k:(Cn.rFlush d).length<=d.credit.toNat:=by unfold Cn.rFlush;rw[List.length_take];omega
  have c:(Cn.gFlush d).credit=d.credit -((Cn.rFlush d).length:Int):=by show Zw Zk _=_;exact w64
  refine⟨⟨h.1,λy w=>?_⟩,by omega,λe b=>⟨λj=>?_,λy w=>?_⟩⟩
  .rcases qck f w with rfl|⟨w,_⟩;.simp only;rw[c];omega
   .exact h.2 y w
  .rw[qsd];split;.omega
   .exact h.1 j
  .rw[qsd];rcases qck f w with rfl|⟨w,a⟩;.simp only[if_true];rw[c];omega
   .rw[yA (λe=>a e.symm)];exact h.2 y w
namespace Bk
def shutB_len:∀(n:Nat) (s:Bk) (id:Int),(shutB n s id).roles.length<=s.roles.length
 |0,s,id=>Ac _
 |n+1,s,id=>by
  have d:=shutB_len n;have b:∀(s:Bk) (name:ByteArray),(emptyW (λs i=>shutB n s i) s name).roles.length<=s.roles.length:=λs name=>by
   unfold emptyW;generalize Qu.gL s.Q name=l;induction l generalizing s with
   |nil=>exact Ac _
   |cons a l h=>exact Ab (h _) (d (s.no a 3) a)
  have c:∀(l:List LeD) (s:Bk),(leaveW (λs i=>shutB n s i) s l).roles.length<=s.roles.length:=λl=>by
   unfold leaveW;induction l with
   |nil=>exact λs=>Ac _
   |cons a l h=>exact λs=>Ab (h _) (b (s.give a.ten 1) a.name)
  unfold shutB;split;.exact Ac _
  .rename_i r e;have w:(s.out id).roles.length<=s.roles.length:=qqn _ _;unfold after;split;.exact Ab (c _ _) w
   .split;.exact w
    .split
     .split;.exact Ab (d _ _) w
      .exact w
     .exact w
def emptyW_len{f:Bk->Int->Bk}(w:∀s id,(f s id).roles.length<=s.roles.length)(s:Bk)(name:ByteArray):(emptyW f s name).roles.length<=s.roles.length:=by
 unfold emptyW;generalize Qu.gL s.Q name=l;induction l generalizing s with
 |nil=>exact Ac _
 |cons a l h=>exact Ab (h _) (w (s.no a 3) a)
end Bk
section
variable{W w:World}{F:List Asn}{ro:Asn}{c:qy}{x m2:Nat}{p:qm3}{pl:List Nat}{sn:Option Nat}{s:Bk}{id:Int}
def q7f(W:A3)(c:qy)(x m2:Nat)(p:qm3)(pl:List Nat)(Q:Bk->Prop)(f:Bk->Int->Bk):Prop:=
 (∀s id,Q s->Q (f s id))/\∀(s:Bk) (id:Int) (F:List Asn) (w:A3),Q s->St W (brk c x p pl (A0 m2) s F) w->qb Zp 85 #[qc x,Zi Zk id] w λv w'=>v=Zt #[]/\St W (brk c x p pl (A0 m2) (f s id) F) w'
variable{Q:Bk->Prop}{f:Bk->Int->Bk}
def qak(e:Int)(d:q7f W c x m2 p pl Q f)(b:Q (s.no id e))(h:St W (brk c x p pl (A0 m2) s F) w):qb Zp 193 #[qc x,Zi Zk id,Zi Zk e] w λv w'=>v=Zt #[]/\St W (brk c x p pl (A0 m2) (f (s.no id e) id) F) w':=
 F193_of ((qvf e h).of λv w ⟨a,h⟩=>⟨a,(d.2 (s.no id e) id F w b h).of λv w ⟨a,h⟩=>⟨a,rfl,h⟩⟩)
def qim(name:ByteArray)(u:q7f W c x m2 p pl Q f)(l:∀s id e,Q s->Q (s.no id e))(q:Q s)(b:St W (brk c x p pl (A0 m2) s F) w):qb Zp 148 #[qc x,Zs name] w λv w'=>v=Zt #[]/\St W (brk c x p pl (A0 m2) (s.emptyW f name) F) w':=by
 have A:=(Qu.QueueA.ok (zf 4 0 b rfl)).row name;refine F148_of (z7 (z0r 0 b rfl rfl ((Qu.List_spec name (b.at 4 rfl)).of λv w ⟨g,m,r,b⟩=>⟨_,_,_,r,?_⟩)));have b:St W (brk c x p pl (A0 m2) s (SlA 3 1 iV g m (Qu.gL s.Q name)::F)) w:=z12 12 (zf 1 5 b rfl);unfold Bk.emptyW;generalize Qu.gL s.Q name=ids at A b⊢;refine qt3 (λn vs w=>∃k:Nat,k+n=ids.length/\vs=[Zi Zk (k:Int)]/\Q ((ids.take k).foldl (λs id=>f (s.no id 3) id) s)/\St W (brk c x p pl (A0 m2) ((ids.take k).foldl (λs id=>f (s.no id 3) id) s) (SlA 3 1 iV g m ids::F)) w) λμ H E=>⟨⟨ids.length,0,by omega,rfl,q,b⟩,λj w z=>?_⟩;clear b;obtain⟨k,D,C,q,b⟩:=E _ _ z;generalize μ _ _=n at D⊢;cases C;refine za (λh=>?_) λh=>?_
 .have d:k<ids.length:=by have:=yC h;omega
  have t:=A5 d;have B:Rd (SlA 3 1 iV g m ids::F) g (ids.map (Zi Zk)):=by have:=z0l (e:=3) (size:=1) (f:=iV) (p:=g) (c:=m) (os:=ids) F;rwa[show ids.flatMap iV=ids.map (Zi Zk)from qt6 _ _]at this
  refine z0f B.b12 b rfl d (v:=Zi Zk ids[k]) (by rw[Ah,t];rfl) λa G=>zy G ((qak 3 u (l _ _ _ q) b).of λv w ⟨r,b⟩=>⟨r,?_⟩);have y:(ids.take (k+1)).foldl (λs id=>f (s.no id 3) id) s=f (((ids.take k).foldl (λs id=>f (s.no id 3) id) s).no ids[k] 3) ids[k]:=by rw[q29 _ _ t]
  have i:∃o:Nat,o+(n - 1)=ids.length/\[Zi Zk (Zw Zk ((k:Int)+1))]=[Zi Zk (o:Int)]/\Q ((ids.take o).foldl (λs id=>f (s.no id 3) id) s)/\St W (brk c x p pl (A0 m2) ((ids.take o).foldl (λs id=>f (s.no id 3) id) s) (SlA 3 1 iV g m ids::F)) w:=⟨k+1,by omega,by rw[up d (by omega)],by rw[y];exact u.1 _ _ (l _ _ _ q),by rw[y];exact b⟩;exact⟨⟨_,i⟩,A6 (H _ _ _ i) (by omega)⟩
 .have:ids.take k=ids:=Aa (by have:=yD h;omega);rw[this]at b;exact⟨rfl,b.del 12 rfl⟩
end
end
section
def qbl(h:LeD->Bool)(df:LeD->LeD):∀(l:List ByteArray) (s:LeL×List LeD),(l.foldl (q64 h df) s).2.length<=s.2.length+l.length
 |[],s=>Ac _
 |a::l,s=>by
  have b:=qbl h df l (q64 h df s a);have w:(q64 h df s a).2.length<=s.2.length+1:=by
   unfold q64;split;.omega
   .split;.simp
    .simp
  rw[Aj,Ai];omega
def qze(h:LeD->Bool)(df:LeD->LeD)(L:LeL):(qk4 h df L).2.length<=L.length:=by have:=qbl h df (q91 leS (L.map (·.1))) (L,[]);rw[(qv1 leS _).length_eq,List.length_map]at this;unfold qk4;simpa using this
section
variable{W w:World}{F:List Asn}{c:qy}{x m2:Nat}{p:qm3}{pl:List Nat}{s:Bk}{id:Int}
def TabA.keys{t:Nat}{T:Cn.CT}(h:St W (Cn.TabA t T::F) w):(T.L.map (·.1)).Nodup:=by obtain⟨m,h⟩:=Cn.TabA.open_ h;exact qr.keys kI (zf 1 0 h rfl)
variable{Q:Bk->Prop}{f:Bk->Int->Bk}
def qqt(B:qi3)(conn now:Int):(qe5 B conn now).2.length<=B.L.length:=by
 unfold qe5;split;.exact Nat.zero_le _
 .exact qze _ _ _
set_option maxHeartbeats 1000000 in
def qsn{n q:Nat}{cs:List A4}{d:q31}(M:q7f W c x m2 p pl (λs=>s.roles.length<n) (λs i=>Bk.shutB n s i))(D:cs[1]?=A0 (Zi Zk d.kind))(L:cs[2]?=A0 (Zs d.ten))(Q:qe s.roles id=A0 d)(X:s.roles.length<n+1)
 (f:St W (q32 c x p pl (A0 m2) s id q (Row q 127 cs::F)) w):qb Zp 85 #[qc x,Zi Zk id] w λv w'=>v=Zt #[]/\St W (brk c x p pl (A0 m2) (Bk.after (λs i=>Bk.shutB n s i) (s.out id) id d) (Row q 127 cs::F)) w':=by
 have y:=TabA.keys (zf 7 0 f rfl);obtain⟨c1,V,T⟩:=(qs2.cr 10 f rfl).flush y id;refine F85_of (z7 (zv 0 f rfl rfl (z0h kI uMr iPr zPr 9 f rfl A9 ?_)));rw[yB rfl];refine⟨_,_,rfl,zl rfl (z7 (z0r 0 f rfl rfl ((Cn.Flush_spec (f.at 7 rfl)).of λv w ⟨t,r,o,f⟩=>⟨_,_,_,o,?_⟩)))⟩;have E:St W (qua (qw (Zi Zk) p.m (qo2 p.v pl) s.roles id q) (qs2 (A0 m2) s.N s.S) c x p pl (A0 m2) (s.upd id Cn.gFlush) (qi 5 1 t (s.N.ask id [] Cn.rFlush).length r ((s.N.ask id [] Cn.rFlush).map qd)::Row q 127 cs::F)) w:=z12 12 (zf 1 8 f rfl);have f:St W (q32 c x p pl (A0 m2) (s.upd id Cn.gFlush) id q (qi 5 1 t (s.N.ask id [] Cn.rFlush).length r ((s.N.ask id [] Cn.rFlush).map qd)::Row q 127 cs::F)) w:=z11 10 E rfl (z1g λ_=>c1);refine(qkk (s:=s.upd id Cn.gFlush) (z0i _) V (T A2 A9) f).of λv w ⟨o,f⟩=>⟨o,?_⟩;have f:St W (q32 c x p pl (A0 m2) ((s.upd id Cn.gFlush).send id (s.N.ask id [] Cn.rFlush) A2 A9) id q (Row q 127 cs::F)) w:=f.del 12 rfl;refine z7 (z0r 0 f rfl rfl (qb.p 8 f rfl (λh=>Ck.Drop_spec id h) λw f=>⟨_,rfl,?_⟩));refine z7 (z0r 0 f rfl rfl (qb.p 7 f rfl (λh=>Cn.Close_spec h) λw f=>⟨_,rfl,?_⟩));have f:=z11 10 f rfl (z1g λh=>qb3.del h id);refine z7 (zv 0 f rfl rfl (qw.del_i kI uMr 9 f rfl λw f=>?_));have f:St W (brk c x p pl (A0 m2) (s.out id) (Row q 127 cs::F)) w:=f;refine z7 (z8 12 f rfl D ?_);have g:(s.out id).roles.length<n:=by have:=q9s Q;show(qp s.roles id).length<n;omega
 generalize s.out id=s at f g⊢;unfold Bk.after;refine za (λh=>?_) λh=>?_
 .rw[yB (by simpa using h)];have J:s.B.L.length<=64:=by obtain⟨_,h,_⟩:=z13 (zf 3 0 f rfl);exact h
  refine⟨StC W _,zd f,z7 (z7 ⟨_,zq 0 ir rfl rfl,_,zq 0 ir rfl rfl,?_⟩)⟩;refine z05 8 ir rfl (λG w h=>Ck.Now_spec h) (λ_ _ h=>⟨_,rfl,h⟩) ⟨_,rfl,zq 0 ir rfl rfl,?_⟩;refine Ef.sl 3 ir rfl (λG w h=>(q3q h).of λv w ⟨p,c,o,_,f⟩=>⟨p,c,o,f⟩) (λ_ _ _ _ h=>⟨_,_,_,rfl,h⟩) λt r=>⟨_,_,_,rfl,trivial,λG w h=>?_⟩;have f:St W (brk c x p pl (A0 m2) { s with B:=(qe5 s.B id s.K.now).1} (SlA 55 6 leV t r (qe5 s.B id s.K.now).2::Row q 127 cs::F)) w:=z12 12 (zb h);have U:(qe5 s.B id s.K.now).2.length<=64:=Ab (qqt _ _ _) J;have g:({ s with B:=(qe5 s.B id s.K.now).1}:Bk).roles.length<n:=g;generalize (qe5 s.B id s.K.now).2=l at U f⊢;generalize { s with B:=(qe5 s.B id s.K.now).1}=s at f g⊢;unfold Bk.leaveW;refine qt3 (λm vs w=>∃k:Nat,k+m=l.length/\vs=[Zi Zk (k:Int)]/\(Bk.leaveW (λs i=>Bk.shutB n s i) s (l.take k)).roles.length<n/\St W (brk c x p pl (A0 m2) (Bk.leaveW (λs i=>Bk.shutB n s i) s (l.take k)) (SlA 55 6 leV t r l::Row q 127 cs::F)) w) λμ E R=>⟨⟨l.length,0,by omega,rfl,g,f⟩,λj w N=>?_⟩;clear f;obtain⟨k,D,O,H,f⟩:=R _ _ N;generalize μ _ _=m at D⊢;cases O;refine za (λh=>?_) λh=>?_
  .have u:k<l.length:=by have:=yC h;omega
   have K:=A5 u;have I:Bk.leaveW (λs i=>Bk.shutB n s i) s (l.take (k+1))=((Bk.leaveW (λs i=>Bk.shutB n s i) s (l.take k)).give l[k].ten 1).emptyW (λs i=>Bk.shutB n s i) l[k].name:=by unfold Bk.leaveW;rw[q29 _ _ K]
   generalize Bk.leaveW (λs i=>Bk.shutB n s i) s (l.take k)=s1 at f H I;refine z0j qhw (by decide) (Rd.b12 (z0l _)) f rfl u K λa z=>z0y (z 0 _ rfl) (z0y (z 1 _ rfl) (zy (z 2 _ rfl) (zy (z 3 _ rfl) (zy (z 4 _ rfl) (LdB.at (z 5 _ rfl) (zh f λb w f=>?_))))));refine St1.zz 0 f rfl λw f=>St1.zz 0 f rfl λw f=>St1.zz 0 f rfl λw f=>St1.zz 0 f rfl λw f=>St1.zz 0 f rfl λw f=>St1.zz 0 f rfl λw f=>?_;have f:St W (Row b 55 (leV l[k])::brk c x p pl (A0 m2) s1 (SlA 55 6 leV t r l::Row q 127 cs::F)) w:=f;refine⟨StC W _,zd f,z7 ⟨_,zq 1 ir rfl rfl,_,zu 0 ir rfl rfl,?_⟩⟩;refine z05 3 ir rfl (λG w h=>qx7 (.inl rfl) h) (λ_ _ h=>⟨_,rfl,h⟩) ⟨_,rfl,trivial,λG w h=>?_⟩;have f:=zb h;refine zg 0 f rfl rfl ?_;have f:St W (brk c x p pl (A0 m2) (s1.give l[k].ten 1) (Row b 55 (leV l[k])::SlA 55 6 leV t r l::Row q 127 cs::F)) w:=zf 0 12 f rfl;refine(qim (s:=s1.give l[k].ten 1) l[k].name M (λs id e h=>h) H f).of λv w ⟨o,f⟩=>⟨o,?_⟩;have f:=f.del 12 rfl;have A:∃C:Nat,C+(m - 1)=l.length/\[Zi Zk (Zw Zk ((k:Int)+1))]=[Zi Zk (C:Int)]/\(Bk.leaveW (λs i=>Bk.shutB n s i) s (l.take C)).roles.length<n/\St W (brk c x p pl (A0 m2) (Bk.leaveW (λs i=>Bk.shutB n s i) s (l.take C)) (SlA 55 6 leV t r l::Row q 127 cs::F)) w:=⟨k+1,by omega,by rw[up u (by omega)],by rw[I];exact A6 (Bk.emptyW_len (Bk.shutB_len n) _ _) H,by rw[I];exact f⟩;exact⟨⟨_,A⟩,A6 (E _ _ _ A) (by omega)⟩
  .have:l.take k=l:=Aa (by have:=yD h;omega);rw[this]at f;exact⟨rfl,f.del 12 rfl⟩
 rw[yA (by simpa using h)];refine za (λh=>?_) λh=>?_
 .rw[yB (by simpa using h)];refine z7 (z0r 0 f rfl rfl (qb.p 4 f rfl (λh=>Qu.Drop_spec id h) λw f=>⟨_,rfl,?_⟩));refine z7 (z0r 0 f rfl rfl (qb.p 5 f rfl (λh=>qcs h) λw f=>⟨_,rfl,?_⟩));refine⟨StC W _,zd f,z7 (z7 ⟨_,zq 0 ir rfl rfl,_,zu 12 ir rfl L,?_⟩)⟩;exact z05 2 ir rfl (λG w h=>qx7 (.inr rfl) h) (λ_ _ h=>⟨_,rfl,h⟩) ⟨_,rfl,trivial,λG w h=>⟨rfl,zb h⟩⟩
 rw[yA (by simpa using h)];refine za (λh=>?_) λh=>?_
 .rw[yB (by simpa using h)];refine z7 (z0r 0 f rfl rfl (qb.p 6 f rfl (λh=>q4v h) λw f=>⟨_,_,rfl,za (λh=>?_) λh=>?_⟩))
  .rw[yB h];refine⟨StC W _,zd f,z7 (z7 ⟨_,zq 0 ir rfl rfl,_,zu 12 ir rfl L,?_⟩)⟩;refine z05 2 ir rfl (λG w h=>qx7 (.inr rfl) h) (λ_ _ h=>⟨_,rfl,h⟩) ⟨_,rfl,trivial,λG w h=>?_⟩;have f:St W (brk c x p pl (A0 m2) (({ s with P:=qxf s.P id}:Bk).give d.ten 2) (Row q 127 cs::F)) w:=zb h;exact(M.2 (({ s with P:=qxf s.P id}:Bk).give d.ten 2) _ _ _ g f).of λv w ⟨o,f⟩=>⟨o,rfl,f⟩
  .rw[yA (by rw[h];simp)];exact⟨rfl,f⟩
 .rw[yA (by simpa using h)];exact⟨rfl,f⟩
def q7h:∀n,q7f W c x m2 p pl (λs=>s.roles.length<n) (λs i=>Bk.shutB n s i)
 |0=>⟨λs id h=>yI h (by simp),λs id F w h=>yI h (by simp)⟩
 |n+1=>⟨λs id h=>A6 (Bk.shutB_len _ _ _) h,λs id F w b a=>by
  have f:=q7h n;have b:s.roles.length<n+1:=b;show qb _ _ _ _ λv w'=>v=Zt #[]/\St W (brk c x p pl (A0 m2) (Bk.shutB (n+1) s id) F) w';unfold Bk.shutB;cases hd:qe s.roles id with
  |none=>refine F85_of (z7 (zv 0 a rfl rfl (z0w kI uMr iPr zPr 9 a rfl hd A9 ?_)));rw[yB rfl];exact⟨_,_,rfl,zm rfl ⟨rfl,a⟩⟩
  |some d=>obtain⟨q,a⟩:=brk.take hd a;obtain⟨sb,g,a⟩:=qo2.open_ a;have a:St W (q32 c x p pl (A0 m2) s id q (Row q 127 (qs pl sb d)::q02 p.v sb d.sh::F)) w:=zf 0 12 (zf 1 13 a rfl) rfl;exact(qsn f rfl rfl hd b a).of λv w ⟨e,a⟩=>⟨e,(a.del 12 rfl).del 12 rfl⟩⟩
def qdj:q7f W c x m2 p pl (λ_=>True) Bk.shut:=⟨λ_ _ _=>trivial,λs id F w _ hS=>(q7h (s.roles.length+1)).2 s id F w (Nat.lt_succ_self _) hS⟩
def q9a(h:St W (brk c x p pl (A0 m2) s F) w):qb Zp 85 #[qc x,Zi Zk id] w λv w'=>v=Zt #[]/\St W (brk c x p pl (A0 m2) (s.shut id) F) w':=qdj.2 s id F w trivial h
def q18(e:Int)(h:St W (brk c x p pl (A0 m2) s F) w):qb Zp 193 #[qc x,Zi Zk id,Zi Zk e] w λv w'=>v=Zt #[]/\St W (brk c x p pl (A0 m2) (s.refuse id e) F) w':=qak e qdj trivial h
def qhq(name:ByteArray)(h:St W (brk c x p pl (A0 m2) s F) w):qb Zp 148 #[qc x,Zs name] w λv w'=>v=Zt #[]/\St W (brk c x p pl (A0 m2) (s.empty name) F) w':=qim name qdj (λ_ _ _ _=>trivial) trivial h
def qdf(y:LeD)(a:St W (brk c x p pl (A0 m2) s F) w):qb Zp 129 #[qc x,Zg (leV y).toArray] w λv w'=>v=Zt #[]/\St W (brk c x p pl (A0 m2) (s.gone y) F) w':=by refine F129_of (zh a λb w a=>⟨StC W _,zd a,z7 ⟨_,zq 1 ir rfl rfl,_,zu 0 ir rfl rfl,?_⟩⟩);refine z05 3 ir rfl (λG w h=>qx7 (.inl rfl) h) (λ_ _ h=>⟨_,rfl,h⟩) ⟨_,rfl,trivial,λG w h=>?_⟩;have a:St W (brk c x p pl (A0 m2) (s.give y.ten 1) (Row b 55 (leV y)::F)) w:=zf 0 12 (zb h) rfl;refine z8 12 a rfl rfl (zg 12 a rfl rfl (z8 12 a rfl rfl ((qba ⟨10,y.name,e0,y.epoch,0⟩ a).of λv w ⟨d,a⟩=>⟨d,zg 12 a rfl rfl ?_⟩)));exact(qhq y.name a).of λv w ⟨d,a⟩=>⟨d,rfl,a.del 12 rfl⟩
end
end
section
section
variable{W w:World}{F l:List Asn}{ro:Asn}{c:qy}{x m2 q:Nat}{p:qm3}{pl:List Nat}{sn:Option Nat}{s:Bk}{id:Int}{cs:List Value}{r:q31}
def Ef.le{C:Cls}{K:A4->Cls->Prop}{b:Nat}(c:Is W C l)(y:LeD)(d:K (Zt #[]) (StC W (Row b 55 (leV y)::l))):
 Ef (Cls.push C (b,.cells #[(Zs ⟨#[]⟩),(Zs ⟨#[]⟩),(Zi Zk 0),(Zi Zk 0),(Zi Zk 0),(Zb A2)] 55)) (λw K=>
  St1 (Za ⟨b,0,A1⟩ 0) (Zs y.name) w λw=>St1 (Za ⟨b,0,A1⟩ 1) (Zs y.ten) w λw=>St1 (Za ⟨b,0,A1⟩ 2) (Zi Zk y.conn) w λw=>
  St1 (Za ⟨b,0,A1⟩ 3) (Zi Zk y.epoch) w λw=>St1 (Za ⟨b,0,A1⟩ 4) (Zi Zk y.til) w λw=>St1 (Za ⟨b,0,A1⟩ 5) (Zb y.held) w λw=>K (Zt #[]) w) K:=
 zn (α:=Unit) (V:=λ_=>Zt #[]) (B:=λ_=>Row b 55 (leV y)::l) () (c.push b _) (λG w h=>by have a:=h.imp z0d;exact St1.zz 0 a rfl λw a=>St1.zz 0 a rfl λw a=>St1.zz 0 a rfl λw a=>St1.zz 0 a rfl λw a=>St1.zz 0 a rfl λw a=>St1.zz 0 a rfl λw a=>⟨(),rfl,a⟩) λ_=>d
def cpL{a b:Nat}{y:LeD}{m u1:ByteArray}{u2 n k e:Int}{o:Bool}{R:A4->A3->Prop}(h:St W (Row a 55 (leV y)::Row b 55 [Zs m,Zs u1,Zi Zk u2,Zi Zk n,Zi Zk k,Zb o]::l) w)
 (p:∀w,St W l w->R (Zt #[Zg (leV y).toArray,Zi Zk e]) w):
 LdS (Za ⟨a,0,A1⟩ 0) w λg=>LdS (Za ⟨a,0,A1⟩ 1) w λc=>LdI Zk (Za ⟨a,0,A1⟩ 2) w λf=>LdI Zk (Za ⟨a,0,A1⟩ 3) w λj=>LdI Zk (Za ⟨a,0,A1⟩ 4) w λi=>LdB (Za ⟨a,0,A1⟩ 5) w λd=>
 St1 (Za ⟨b,0,A1⟩ 0) (Zs g) w λw=>St1 (Za ⟨b,0,A1⟩ 1) (Zs c) w λw=>St1 (Za ⟨b,0,A1⟩ 2) (Zi Zk f) w λw=>
 St1 (Za ⟨b,0,A1⟩ 3) (Zi Zk j) w λw=>St1 (Za ⟨b,0,A1⟩ 4) (Zi Zk i) w λw=>St1 (Za ⟨b,0,A1⟩ 5) (Zb d) w λw=>
 LdS (Za ⟨b,0,A1⟩ 0) w λg=>LdS (Za ⟨b,0,A1⟩ 1) w λc=>LdI Zk (Za ⟨b,0,A1⟩ 2) w λf=>LdI Zk (Za ⟨b,0,A1⟩ 3) w λj=>LdI Zk (Za ⟨b,0,A1⟩ 4) w λi=>LdB (Za ⟨b,0,A1⟩ 5) w λd=>
 R (Zt #[Zg #[Zs g,Zs c,Zi Zk f,Zi Zk j,Zi Zk i,Zb d],Zi Zk e]) w:=
 zg 0 h rfl rfl (zg 0 h rfl rfl (z8 0 h rfl rfl (z8 0 h rfl rfl (z8 0 h rfl rfl (zw 0 h rfl rfl
  (St1.zz 1 h rfl λw h=>St1.zz 1 h rfl λw h=>St1.zz 1 h rfl λw h=>St1.zz 1 h rfl λw h=>St1.zz 1 h rfl λw h=>St1.zz 1 h rfl λw h=>
  zg 1 h rfl rfl (zg 1 h rfl rfl (z8 1 h rfl rfl (z8 1 h rfl rfl (z8 1 h rfl rfl (zw 1 h rfl rfl (p _ (z0e [_,_] h)))))))))))))
def qvk(name:ByteArray)(i:ql1 F c)(d:St W (qy1 ro c x p pl sn s F) w):qb Zp 351 #[qc x,Zi Zk id,Zs name] w λv w'=>v=Zt #[Zg (leV (s.held name)).toArray,Zi Zk (s.admE id name)]/\St W (qy1 ro c x p pl sn (s.admitted id name) F) w':=by
 unfold Bk.admitted Bk.admE Bk.held;suffices g:∀R:A4->A3->Prop,(∀w',St W (qy1 ro c x p pl sn { s with O:=(s.admR id name (q06 s.B name s.K.now).1 (q06 s.B name s.K.now).2).1,Q:=(s.admR id name (q06 s.B name s.K.now).1 (q06 s.B name s.K.now).2).2.1} F) w'->R (Zt #[Zg (leV (q06 s.B name s.K.now).1).toArray,Zi Zk (s.admR id name (q06 s.B name s.K.now).1 (q06 s.B name s.K.now).2).2.2]) w')->qb Zp 351 #[qc x,Zi Zk id,Zs name] w R from g _ λw' h=>⟨rfl,h⟩
 intro R a;refine F351_of (zh d λb w d=>⟨StC W _,zd d,z7 (z7 ⟨_,zq 1 ir rfl rfl,_,zq 1 ir rfl rfl,?_⟩)⟩);refine z05 9 ir rfl (λG w h=>Ck.Now_spec h) (λ_ _ h=>⟨_,rfl,h⟩) ⟨_,rfl,zq 1 ir rfl rfl,?_⟩;refine z05 4 ir rfl (λG w h=>qeg (name:=name) (now:=s.K.now) h) (λ_ _ h=>⟨_,_,_,_,_,_,_,rfl,h⟩) ⟨_,_,_,_,_,_,_,rfl,trivial,λe=>?_⟩;generalize q06 s.B name s.K.now=hy at a⊢;obtain⟨y,j⟩:=hy;refine Ef.le ir y ⟨rfl,trivial,λG w h=>?_⟩;have d:St W (Row e 55 (leV y)::Row b 55 [Zs ⟨#[]⟩,Zs ⟨#[]⟩,Zi Zk 0,Zi Zk 0,Zi Zk 0,Zb A2]::qy1 ro c x p pl sn s F) w:=zb h;clear h;unfold Bk.admR at a;dsimp only at a;refine za (λh=>?_) λh=>?_
 .rw[yB (by simpa using h)]at a;exact cpL d a
 rw[yA (by simpa using h)]at a;refine⟨StC W _,zd d,z7 (z7 ⟨_,zq 2 ir rfl rfl,_,zu 0 ir rfl rfl,_,zq 2 ir rfl rfl,?_⟩)⟩;refine z05 9 ir rfl (λG w h=>Cn.Addr_spec (id:=id) h) (λ_ _ h=>⟨_,rfl,h⟩) ⟨_,rfl,⟨zu 0 ir rfl rfl,zq 2 ir rfl rfl⟩,?_⟩;refine z05 4 ir rfl (λG w h=>qvo (s:=y.ten) (((((((((((((i.app (pts G)).cons _).cons _).cons _).cons _).cons _).cons _).cons _).cons _).cons _).cons _).cons _).cons _ |>.cons _) h) (λ_ _ h=>⟨_,rfl,h⟩) ⟨_,rfl,trivial,λG w h=>?_⟩;have d:St W (Row e 55 (leV y)::Row b 55 [Zs ⟨#[]⟩,Zs ⟨#[]⟩,Zi Zk 0,Zi Zk 0,Zi Zk 0,Zb A2]::qy1 ro c x p pl sn s F) w:=zb h;clear h;unfold Bk.ask at a;refine za (λh=>?_) λh=>?_
 .rw[yB (by simpa using h)]at a;exact cpL d a
 rw[yA (by simpa using h)]at a;refine⟨StC W _,zd d,z7 ⟨_,zq 2 ir rfl rfl,_,zu 0 ir rfl rfl,?_⟩⟩;refine z05 4 ir rfl (λG w h=>qyh (s:=y.ten) (.inr rfl) h) (λ_ _ h=>⟨_,rfl,h⟩) ⟨_,rfl,trivial,λG w h=>?_⟩;have d:=zb h;clear h;refine za (λh=>?_) λh=>?_
 .rw[yB (by simpa using h)]at a;exact cpL d a
 rw[yA (by simpa using h)]at a;refine z7 (z0r 2 d rfl rfl (qb.p 6 d rfl (λh=>Qu.Put_spec name id h) λw d=>⟨_,rfl,za (λh=>?_) λh=>?_⟩))
 .rw[yB (by simpa using h)]at a;refine⟨StC W _,zd d,z7 ⟨_,zq 2 ir rfl rfl,_,zu 0 ir rfl rfl,?_⟩⟩;refine z05 4 ir rfl (λG w h=>qx7 (s:=y.ten) (.inr rfl) h) (λ_ _ h=>⟨_,rfl,h⟩) ⟨_,rfl,trivial,λG w h=>?_⟩;exact cpL (zb h) a
 .have f:(Qu.gPut s.Q name id).2=0:=by simpa using h
  rw[yA (by rw[f];simp)]at a;rw[f];exact cpL d a
def qrb(y:LeD)(e:Int)(d:cs[0]?=A0 (Zi Zk id))(a:St W (qy1 ro c x p pl sn s (Row q 127 cs::F)) w):qb Zp 355 #[qc x,qc q,Zg (leV y).toArray,Zi Zk e] w λv w'=>v=Zt #[]/\St W (qy1 ro c x p pl sn (s.granted id y e) (Row q 127 cs::F)) w':=by
 unfold Bk.granted;refine F355_of (z09 12 a λb w a=>za (λh=>?_) λh=>?_)
 .have a:St W (qy1 ro c x p pl sn s (Row b 55 (leV y)::Row q 127 cs::F)) w:=a;rw[yB (by simpa using h)];exact z7 (z8 13 a rfl d ((qvf e a).of λv w ⟨f,a⟩=>⟨f,rfl,a.del 12 rfl⟩))
 .have a:St W (qy1 ro c x p pl sn s (Row b 55 (leV y)::Row q 127 cs::F)) w:=a;rw[yA (by simpa using h)];refine⟨StC W _,zd a,z7 ⟨_,zj 13 ir rfl d,_,zu 12 ir rfl rfl,_,zj 12 ir rfl rfl,_,zj 12 ir rfl rfl,?_⟩⟩;refine Ef.al (l':=qy1 ro c x p pl sn (s.tell id ⟨7,y.name,e0,y.epoch,y.til⟩) (Row b 55 (leV y)::Row q 127 cs::F)) ir (λG w h=>qba (F:=Row b 55 (leV y)::Row q 127 cs::F++pts G) ⟨7,y.name,e0,y.epoch,y.til⟩ h) (λ_ _ h=>⟨rfl,h⟩) ⟨rfl,trivial,λG w h=>⟨rfl,(zb h).del 12 rfl⟩⟩
end
end
section
def qrv{W w:A3}{F:List Asn}{p:Option Ak}{c:Nat}{xs:List LeD}{r:A4}(g:LeD->Bool)(u:Rd F p (xs.flatMap leV))(B:xs.length<=9223372036854775807)
 (s:∀(x:LeD),x∈xs->∀(w:A3) (K:A4->A3->Prop),St W F w->(∀w',St W F w'->K (Zb (g x)) w')->q01 Zp 4 r [Zg (leV x).toArray] w K) (d:St W F w):
 qb Zp 388 #[Zl p xs.length c,r] w λv w'=>v=Zi Zk (qt4 g xs)/\St W F w':=by
 refine F388_of ⟨λvs w=>∃i:Nat,vs=[Zi Zk i]/\i<=xs.length/\(∀j y,j<i->xs[j]?=A0 y->g y=A2)/\St W F w,leftN xs.length,⟨0,rfl,by omega,λj y h=>by omega,d⟩,λx w t=>?_⟩;obtain⟨i,A,D,q,d⟩:=t;cases A;refine za (λb=>?_) λm=>?_
 .have b:i<xs.length:=by have:=yC b;omega
  have l:xs[i]?=A0 (xs[i]'b):=A5 _;generalize xs[i]'b=y at l;refine z0j (f:=leV) (size:=6) (λ_=>rfl) (by omega) u d rfl b l λa k=>⟨_,k 0 _ rfl,⟨_,k 1 _ rfl,⟨_,k 2 _ rfl,⟨_,k 3 _ rfl,⟨_,k 4 _ rfl,⟨_,k 5 _ rfl,s y (List.mem_of_getElem? l) w _ d λw' d=>⟨_,rfl,?_⟩⟩⟩⟩⟩⟩⟩;cases hy:g y with
  |true=>exact⟨by rw[qs8 l hy q],d⟩
  |false=>
   rw[up b B];exact⟨⟨i+1,rfl,by omega,λj z C n=>by
    by_cases e:j=i;.subst e;rw[l]at n;cases n;exact hy
    .exact q j z (by omega) n,d⟩,by show xs.length -(i+1)<xs.length - i;omega⟩
 have o:i=xs.length:=by have:=yD m;omega
 subst o;exact⟨by rw[qq8 λj y h=>q j y (List.getElem?_eq_some_iff.1 h).1 h],d⟩
def qqv{W w:A3}{F:List Asn}{p:Option Ak}{c:Nat}{xs:List LeD}{a:A4}(g:LeD->Bool)(e:Rd F p (xs.flatMap leV))(f:xs.length<=9223372036854775807)
 (b:∀(x:LeD),x∈xs->∀(w:A3) (K:A4->A3->Prop),St W F w->(∀w',St W F w'->K (Zb (g x)) w')->q01 Zp 4 a [Zg (leV x).toArray] w K) (h:St W F w):
 qb Zp 360 #[Zl p xs.length c,a] w λv w'=>v=Zb (xs.any g)/\St W F w':=
 F360_of ((qrv g e f b h).of λv w ⟨d,h⟩=>⟨_,d,by rw[qkd],h⟩)
def q4y(b:LeD->Bool)(l:List ByteArray)(s:LeL×List LeD):(l.foldl (q64 b λd=>d) s).1=s.1:=by
 induction l generalizing s with
 |nil=>rfl
 |cons a l w=>
  rw[Aj,w];unfold q64;split;.rfl
  .rename_i d h;split;.exact qt1 h
   .rfl
def qmv(h:LeD->Bool)(L:LeL):(qk4 h (λd=>d) L).1=L:=q4y h _ _
def qzj{W w:A3}{F:List Asn}{b:Nat}{B:qi3}(h:St W (q41 b B::F) w):qb Zp 48 #[qc b] w λv w'=>∃p c,v=Zl p (q3h B.L).length c/\St W (SlA 55 6 leV p c (q3h B.L)::q41 b B::F) w':=
 (All_spec h).of λv w ⟨p,c,a,_,h⟩=>by rw[qmv]at h;exact⟨p,c,a,h⟩
def rv0{pl:List Nat}{sb:Option Nat}{d:q31}{id:Int}(h:d.conn=id):(qs pl sb d)[0]?=A0 (Zi Zk id):=by subst h;rfl
section
variable{W w:World}{F l:List Asn}{ro:Asn}{c:qy}{x m2 q:Nat}{p:qm3}{pl:List Nat}{sn:Option Nat}{s:Bk}{id:Int}{cs:List Value}{r:q31}
def q0o(m:qk1)(f:cs[0]?=A0 (Zi Zk id))(g:cs[2]?=A0 (Zs r.ten))(a:St W (qy1 ro c x p pl sn s (Row q 127 cs::F)) w):qb Zp 317 #[qc x,qc q,ql2 m] w λv w'=>v=Zt #[]/\St W (qy1 ro c x p pl sn (s.claim id r m) (Row q 127 cs::F)) w':=by
 unfold Bk.claim;refine F317_of (z09 13 a λb w a=>⟨StC W _,zd a,z7 (z7 ⟨_,zq 0 ir rfl rfl,_,zu 12 ir rfl g,?_⟩)⟩);refine z05 2 ir rfl (λG w h=>qyh (s:=r.ten) (.inl rfl) h) (λ_ _ h=>⟨_,rfl,h⟩) ⟨_,rfl,trivial,λG w h=>?_⟩;have a:St W (qy1 ro c x p pl sn { s with O:=(qq5 s.O r.ten 1).1} (Row q 127 cs::Row b 74 [Zi Zk m.k,Zs m.A,Zs m.B,Zi Zk m.N,Zi Zk m.M]::F)) w:=zb h;clear h;refine za (λh=>?_) λh=>?_
 .rw[yB (by simpa using h)];exact z7 (z8 12 a rfl f ((qvf (qq5 s.O r.ten 1).2 a).of λv w ⟨d,a⟩=>⟨d,rfl,a.del 13 rfl⟩))
 rw[yA (by simpa using h)];generalize { s with O:=(qq5 s.O r.ten 1).1}=s at a⊢;unfold Bk.claim1;refine⟨StC W _,zd a,z7 (z7 (z7 (z7 ⟨_,zq 0 ir rfl rfl,_,zu 12 ir rfl g,_,zu 13 ir rfl rfl,_,zj 12 ir rfl f,_,zq 0 ir rfl rfl,_,zj 13 ir rfl rfl,?_⟩)))⟩;refine z05 8 ir rfl (λG w h=>Ck.Now_spec h) (λ_ _ h=>⟨_,rfl,h⟩) ⟨_,rfl,⟨zj 13 ir rfl rfl,zj 12 ir rfl f,zu 13 ir rfl rfl,zu 12 ir rfl g,zq 0 ir rfl rfl⟩,?_⟩;refine z05 3 ir rfl (λG w h=>qir (ten:=r.ten) (name:=m.A) (conn:=id) (now:=s.K.now) (ttl:=m.N) h) (λ_ _ h=>⟨_,_,_,_,_,_,_,rfl,h⟩) ⟨_,_,_,_,_,_,_,rfl,trivial,λi=>?_⟩;refine Ef.le ir (qk5 s.B r.ten m.A id s.K.now m.N).2.1 ⟨rfl,trivial,λG w h=>?_⟩;have a:=zb h;clear h;generalize qk5 s.B r.ten m.A id s.K.now m.N=cl at a⊢;obtain⟨B,y,e⟩:=cl;have a:St W (Row i 55 (leV y)::qy1 ro c x p pl sn { s with B:=B} (Row q 127 cs::Row b 74 [Zi Zk m.k,Zs m.A,Zs m.B,Zi Zk m.N,Zi Zk m.M]::F)) w:=a;dsimp only;refine za (λh=>?_) λh=>?_
 .rw[yB (by simpa using h)];refine⟨StC W _,zd a,z7 (z7 ⟨_,zq 1 ir rfl rfl,_,zu 13 ir rfl g,?_⟩)⟩;refine z05 3 ir rfl (λG w h=>qx7 (s:=r.ten) (.inl rfl) h) (λ_ _ h=>⟨_,rfl,h⟩) ⟨_,rfl,trivial,λG w h=>?_⟩;have a:=zb h;refine zg 0 a rfl rfl (zg 0 a rfl rfl (z8 0 a rfl rfl (z8 0 a rfl rfl (z8 0 a rfl rfl (zw 0 a rfl rfl ?_)))));have a:St W (qy1 ro c x p pl sn (({ s with B:=B}:Bk).give r.ten 1) (Row q 127 cs::Row i 55 (leV y)::Row b 74 [Zi Zk m.k,Zs m.A,Zs m.B,Zi Zk m.N,Zi Zk m.M]::F)) w:=zf 0 13 a rfl;exact(qrb (s:=({ s with B:=B}:Bk).give r.ten 1) y e f a).of λv w ⟨d,a⟩=>⟨d,rfl,(a.del 13 rfl).del 13 rfl⟩
 .rw[yA (by simpa using h)];refine zg 0 a rfl rfl (zg 0 a rfl rfl (z8 0 a rfl rfl (z8 0 a rfl rfl (z8 0 a rfl rfl (zw 0 a rfl rfl ?_)))));have a:St W (qy1 ro c x p pl sn { s with B:=B} (Row q 127 cs::Row i 55 (leV y)::Row b 74 [Zi Zk m.k,Zs m.A,Zs m.B,Zi Zk m.N,Zi Zk m.M]::F)) w:=zf 0 13 a rfl;exact(qrb (s:={ s with B:=B}) y e f a).of λv w ⟨d,a⟩=>⟨d,rfl,(a.del 13 rfl).del 13 rfl⟩
def qmo(m:qk1)(i:cs[0]?=A0 (Zi Zk id))(f:cs[2]?=A0 (Zs r.ten))(a:St W (qy1 ro c x p pl sn s (Row q 127 cs::F)) w):qb Zp 318 #[qc x,qc q,ql2 m] w λv w'=>v=Zt #[]/\St W (qy1 ro c x p pl sn (s.renew id r m) (Row q 127 cs::F)) w':=by unfold Bk.renew;refine F318_of (z09 13 a λb w a=>⟨StC W _,zd a,z7 (z7 (z7 ⟨_,zq 0 ir rfl rfl,_,zu 12 ir rfl f,_,zu 13 ir rfl rfl,_,zj 13 ir rfl rfl,_,zq 0 ir rfl rfl,_,zj 13 ir rfl rfl,?_⟩))⟩);refine z05 8 ir rfl (λG w h=>Ck.Now_spec h) (λ_ _ h=>⟨_,rfl,h⟩) ⟨_,rfl,⟨zj 13 ir rfl rfl,zj 13 ir rfl rfl,zu 13 ir rfl rfl,zu 12 ir rfl f,zq 0 ir rfl rfl⟩,?_⟩;refine z05 3 ir rfl (λG w h=>qfq (ten:=r.ten) (name:=m.A) (epoch:=m.N) (now:=s.K.now) (ttl:=m.M) h) (λ_ _ h=>⟨_,_,_,_,_,_,_,rfl,h⟩) ⟨_,_,_,_,_,_,_,rfl,trivial,λd=>?_⟩;refine Ef.le ir (qpb s.B r.ten m.A m.N s.K.now m.M).2.1 ⟨rfl,trivial,λG w h=>?_⟩;have a:=zb h;clear h;generalize qpb s.B r.ten m.A m.N s.K.now m.M=cl at a⊢;obtain⟨B,y,e⟩:=cl;have a:St W (Row d 55 (leV y)::qy1 ro c x p pl sn { s with B:=B} (Row q 127 cs::Row b 74 [Zi Zk m.k,Zs m.A,Zs m.B,Zi Zk m.N,Zi Zk m.M]::F)) w:=a;dsimp only;refine zg 0 a rfl rfl (zg 0 a rfl rfl (z8 0 a rfl rfl (z8 0 a rfl rfl (z8 0 a rfl rfl (zw 0 a rfl rfl ?_)))));have a:St W (qy1 ro c x p pl sn { s with B:=B} (Row q 127 cs::Row d 55 (leV y)::Row b 74 [Zi Zk m.k,Zs m.A,Zs m.B,Zi Zk m.N,Zi Zk m.M]::F)) w:=zf 0 13 a rfl;exact(qrb (s:={ s with B:=B}) y e i a).of λv w ⟨g,a⟩=>⟨g,rfl,(a.del 13 rfl).del 13 rfl⟩
def qmq(m:qk1)(h:St W l w):qb Zp 320 #[qc x,qc q,ql2 m] w λv w'=>v=Zt #[]/\St W l w':=
 F320_of (zh h λb w h=>⟨rfl,h.drop⟩)
def qwk{sb:Option Nat}(m:qk1)(k:r.conn=id)(j:∀i,r.pump=A0 i->i<pl.length)(g:qe s.roles id=A0 r)(a:St W (q32 c x p pl (A0 m2) s id q (Row q 127 (qs pl sb r)::q02 p.v sb r.sh::F)) w):
 qb Zp 319 #[qc x,qc q,ql2 m] w λv w'=>v=Zt #[]/\St W (brk c x p pl (A0 m2) (s.release id r m) F) w':=by
 unfold Bk.release;refine F319_of (z09 14 a λb w a=>⟨StC W _,zd a,z7 (z7 ⟨_,zq 0 ir rfl rfl,_,zu 14 ir rfl rfl,_,zq 0 ir rfl rfl,?_⟩)⟩);refine z05 8 ir rfl (λG w h=>Ck.Now_spec h) (λ_ _ h=>⟨_,rfl,h⟩) ⟨_,rfl,⟨zu 14 ir rfl rfl,zq 0 ir rfl rfl⟩,?_⟩;refine z05 3 ir rfl (λG w h=>qeg (name:=m.A) (now:=s.K.now) h) (λ_ _ h=>⟨_,_,_,_,_,_,_,rfl,h⟩) ⟨_,_,_,_,_,_,_,rfl,trivial,λd=>?_⟩;generalize q06 s.B m.A s.K.now=hy;obtain⟨y,l⟩:=hy;refine Ef.le ir y ⟨rfl,trivial,λG w h=>?_⟩;have a:St W (Row d 55 (leV y)::q32 c x p pl (A0 m2) s id q (Row q 127 (qs pl sb r)::q02 p.v sb r.sh::Row b 74 [Zi Zk m.k,Zs m.A,Zs m.B,Zi Zk m.N,Zi Zk m.M]::F)) w:=zb h;clear h;refine⟨StC W _,zd a,z7 (z7 (z7 ⟨_,zq 1 ir rfl rfl,_,zu 13 ir rfl rfl,_,zu 15 ir rfl rfl,_,zj 15 ir rfl rfl,_,zq 1 ir rfl rfl,?_⟩))⟩;refine z05 9 ir rfl (λG w h=>Ck.Now_spec h) (λ_ _ h=>⟨_,rfl,h⟩) ⟨_,rfl,⟨zj 15 ir rfl rfl,zu 15 ir rfl rfl,zu 13 ir rfl rfl,zq 1 ir rfl rfl⟩,?_⟩;refine z05 4 ir rfl (λG w h=>q4m (ten:=r.ten) (name:=m.A) (epoch:=m.N) (now:=s.K.now) h) (λ_ _ h=>⟨_,rfl,h⟩) ⟨_,rfl,trivial,λG w h=>?_⟩;have a:=zb h;clear h;generalize qmb s.B r.ten m.A m.N s.K.now=cl at a⊢;obtain⟨B,e⟩:=cl;have a:St W (Row d 55 (leV y)::q32 c x p pl (A0 m2) { s with B:=B} id q (Row q 127 (qs pl sb r)::q02 p.v sb r.sh::Row b 74 [Zi Zk m.k,Zs m.A,Zs m.B,Zi Zk m.N,Zi Zk m.M]::F)) w:=a;dsimp only;refine za (λh=>?_) λh=>?_
 .rw[yB (by simpa using h)];refine z7 (z8 13 a rfl (rv0 k) ?_);have a:St W (q32 c x p pl (A0 m2) { s with B:=B} id q (Row d 55 (leV y)::Row q 127 (qs pl sb r)::q02 p.v sb r.sh::Row b 74 [Zi Zk m.k,Zs m.A,Zs m.B,Zi Zk m.N,Zi Zk m.M]::F)) w:=zf 0 12 a rfl;exact(qvf (s:={ s with B:=B}) e a).of λv w ⟨f,a⟩=>⟨f,rfl,z08 (s:=({ s with B:=B}:Bk).no id e) j g ((a.del 12 rfl).del 14 rfl)⟩
 .rw[yA (by simpa using h)];refine zg 0 a rfl rfl (zg 0 a rfl rfl (z8 0 a rfl rfl (z8 0 a rfl rfl (z8 0 a rfl rfl (zw 0 a rfl rfl ?_)))));have a:=z08 (s:={ s with B:=B}) j g (zf 0 14 a rfl);exact(qdf (s:={ s with B:=B}) y a).of λv w ⟨f,a⟩=>⟨f,rfl,(a.del 12 rfl).del 12 rfl⟩
end
end
end Go.Proofs.YtfjifcfbmhpcaaaGreatDoor
