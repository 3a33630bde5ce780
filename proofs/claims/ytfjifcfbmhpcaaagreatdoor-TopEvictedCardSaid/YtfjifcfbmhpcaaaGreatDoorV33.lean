/-
  A part of the proof of TopEvicted.
-/
import Derived.Test.YtfjifcfbmhpcaaaGreatDoorV32
import Derived.Test.YtfjifcfbmhpcaaaGreatDoorV14
import Derived.Test.YtfjifcfbmhpcaaaGreatDoorV26
import Derived.Test.YtfjifcfbmhpcaaaGreatDoorV00
set_option linter.defProp false
set_option linter.unusedVariables false
set_option linter.unusedSimpArgs false
namespace Go.Proofs.YtfjifcfbmhpcaaaGreatDoor
open Go
open Go.Proofs.Tryz renaming prog → Zp
open Go.IntKind renaming i64 → Zk, wrap → Zw
open Go.Value renaming int → Zi, bool → Zb, slice → Zl, agg → Zg
open _root_.Option renaming some->A0,none->Ab,isSome_iff_exists->Ad,map_eq_some_iff->Aj,isSome_map->Aq
open Go.DataW renaming trod->A1,trod_struct->A9,Trod->Aw
open _root_.List renaming getElem?_eq_getElem->A2,mem_cons_self->A5,mem_cons_of_mem->A7,eq_nil_of_length_eq_zero->A8,mem_map->Af,mem_cons->Ag,mem_of_getElem?->Ah,mem_filter->Ai,foldl_cons->Ak,getElem?_map->Ar,length_set->As
open _root_.Bool renaming false->A3,true->A4,or_eq_false_iff->Ac,true_and->Ao
open _root_.Option.some renaming inj->A6
open _root_.Int renaming toNat_natCast->Aa
open _root_.List.cons renaming injEq->Ae
open Go renaming MemPlace->Am,Value->Au,DataW->Av,World->Ax
open _root_.Nat renaming zero_le->An,le_trans->Ap
section
set_option maxRecDepth 100000
def oS:Zp.cellsOf 9=1:=by kernel_rfl
def oI:Zp.cellsOf 3=1:=by kernel_rfl
def oI64:Zp.cellsOf 2=1:=by kernel_rfl
def oU32:Zp.cellsOf 34=1:=by kernel_rfl
def oNet:Zp.cellsOf 132=2:=by kernel_rfl
def oTok:Zp.cellsOf 114=3:=by kernel_rfl
def oTen:Zp.cellsOf 112=5:=by kernel_rfl
def qe71:Zp.cellsOf 109=1:=by kernel_rfl
def qh71:Zp.cellsOf 110=1:=by kernel_rfl
def qg71:Zp.cellsOf 42=1:=by kernel_rfl
def oCfg:Zp.cellsOf 44=5:=by kernel_rfl
def oEv:Zp.cellsOf 36=8:=by kernel_rfl
instance:Inhabited q97:=⟨⟨⟨#[]⟩,⟨#[]⟩,0⟩⟩
instance:Inhabited qa4:=⟨⟨⟨#[]⟩,0,0,Ab,0,[],Ab,0,[]⟩⟩
instance:Inhabited EvD:=⟨⟨0,0,0,⟨#[]⟩,0,⟨#[]⟩,⟨#[]⟩,⟨#[]⟩⟩⟩
section
variable{H:Type}{enc:TypeId×Value->H}{W:World}{base b0 qma:Nat}{spare:Nat->Bool}{held:Bool}{cs:List Value}{x:DataW H×List MemPlace}
def qz61(n:Nat)(cs:List Au)(y:Av H×List Am)(a:cs.length=2)(h:A1 enc Zp W base spare held n 132 cs=A0 y):∃o:Int×Int,cs=qje o/\True:=by
 obtain⟨xs,n,_,rfl,a,w,b⟩:=A9 Tryz.underlying132 h
 match cs,a,xs,w with
 |[c0,c1],_,[y0,i],_=>
  have f:A1 enc Zp W base spare held n 34 [c0]=A0 y0:=by simpa [oU32]using b 0 _ rfl
  have g:A1 enc Zp W base spare held n 3 [c1]=A0 i:=by simpa [oI]using b 1 _ rfl
  obtain⟨e,a0,_⟩:=qw21 Tryz.underlying34 f;obtain⟨d,c,_⟩:=qw21 Tryz.underlying3 g;simp only[Ae,yM]at a0 c;exact⟨⟨e,d⟩,by rw[a0,c];rfl,trivial⟩
def q471(n:Nat)(cs:List Au)(y:Av H×List Am)(b:cs.length=3)(h:A1 enc Zp W base spare held n 114 cs=A0 y):∃o:q97,cs=q44 o/\o.secret.size<=9223372036854775807:=by
 obtain⟨xs,n,_,rfl,b,w,a⟩:=A9 Tryz.underlying114 h
 match cs,b,xs,w with
 |[c0,c1,k],_,[y0,p,l],_=>
  have j:A1 enc Zp W base spare held n 9 [c0]=A0 y0:=by simpa [oS]using a 0 _ rfl
  have m:A1 enc Zp W base spare held n 9 [c1]=A0 p:=by simpa [oS]using a 1 _ rfl
  have e:A1 enc Zp W base spare held n 2 [k]=A0 l:=by simpa [oI64]using a 2 _ rfl
  obtain⟨f,a0,_⟩:=qbp Tryz.underlying9 j;obtain⟨g,c,d⟩:=qbp Tryz.underlying9 m;obtain⟨i,a2,_⟩:=qw21 Tryz.underlying2 e;simp only[Ae,yM]at a0 c a2;exact⟨⟨f,g,i⟩,by rw[a0,c,a2];rfl,d⟩
def q271(n:Nat)(cs:List Au)(y:Av H×List Am)(c:cs.length=5)(h:A1 enc Zp W base spare held n 112 cs=A0 y):∃o:qa4,cs=q43 o/\qg6 [q65 W] o:=by
 obtain⟨xs,n,_,rfl,c,a,w⟩:=A9 Tryz.underlying112 h
 match cs,c,xs,a with
 |[c0,c1,s,B,K],_,[y0,k,u,v,A],_=>
  have r:A1 enc Zp W base spare held n 9 [c0]=A0 y0:=by simpa [oS]using w 0 _ rfl
  have L:A1 enc Zp W base spare held n 3 [c1]=A0 k:=by simpa [oI]using w 1 _ rfl
  have f:A1 enc Zp W base spare held n 3 [s]=A0 u:=by simpa [oI]using w 2 _ rfl
  have j:A1 enc Zp W base spare held n 109 [B]=A0 v:=by simpa [qe71]using w 3 _ rfl
  have D:A1 enc Zp W base spare held n 110 [K]=A0 A:=by simpa [qh71]using w 4 _ rfl
  obtain⟨i,a0,_⟩:=qbp Tryz.underlying9 r;obtain⟨F,e,_⟩:=qw21 Tryz.underlying3 L;obtain⟨l,a2,_⟩:=qw21 Tryz.underlying3 f;obtain⟨G,q,g,a3,b,C,E,_⟩:=qju qje (λ_=>True) Tryz.underlying109 oNet (by decide) (λ_=>rfl) qz61 j;obtain⟨J,m,p,a4,d,x,I,z⟩:=qju q44 (λt=>t.secret.size<=9223372036854775807) Tryz.underlying110 oTok (by decide) (λ_=>rfl) q471 D;simp only[Ae,yM]at a0 e a2 a3 a4;exact⟨⟨i,F,l,G,g,q,J,p,m⟩,by rw[a0,e,a2,a3,a4];rfl,⟨E,b,Ap b C,I,d,Ap d x,z⟩⟩
def q371(h:A1 enc Zp W base spare held qma 44 cs=A0 x):∃c:qy,cs=qx3 c/\(qc4 [q65 W]->ql1 [q65 W] c):=by
 obtain⟨xs,n,_,rfl,b,a,w⟩:=A9 Tryz.underlying44 h;rw[oCfg]at b
 match cs,b,xs,a with
 |[c0,c1,o,v,E],_,[y0,i,p,q,u],_=>
  have m:A1 enc Zp W base spare held n 2 [c0]=A0 y0:=by simpa [oI64]using w 0 _ rfl
  have F:A1 enc Zp W base spare held n 2 [c1]=A0 i:=by simpa [oI64]using w 1 _ rfl
  have f:A1 enc Zp W base spare held n 2 [o]=A0 p:=by simpa [oI64]using w 2 _ rfl
  have g:A1 enc Zp W base spare held n 2 [v]=A0 q:=by simpa [oI64]using w 3 _ rfl
  have y:A1 enc Zp W base spare held n 42 [E]=A0 u:=by simpa [qg71]using w 4 _ rfl
  obtain⟨A,a0,_⟩:=qw21 Tryz.underlying2 m;obtain⟨z,e,_⟩:=qw21 Tryz.underlying2 F;obtain⟨j,a2,_⟩:=qw21 Tryz.underlying2 f;obtain⟨B,a3,_⟩:=qw21 Tryz.underlying2 g;obtain⟨D,k,l,a4,d,r,C,s⟩:=qju q43 (qg6 [q65 W]) Tryz.underlying42 oTen (by decide) (λ_=>rfl) q271 y;simp only[Ae,yM]at a0 e a2 a3 a4;exact⟨⟨A,z,j,B,D,l,k⟩,by rw[a0,e,a2,a3,a4];rfl,λt=>⟨C,d,Ap d r,s,t⟩⟩
def qg61{r:_root_.Go.Reach}{v:Au}{d:Av H}{e:List Am}(w:Value.okWide Zp W r b0 44 v)(h:Aw enc Zp W base spare held 44 v d e):
 ∃c:qy,v=.agg (qx3 c).toArray/\(qc4 [q65 W]->ql1 [q65 W] c):=by
 obtain⟨cs,rfl,_⟩:=WideShapes.okWide_struct Tryz.underlying44 w;obtain⟨qma,b⟩:=h;obtain⟨c,f,a⟩:=q371 b;refine⟨c,?_,a⟩;have:cs=(qx3 c).toArray:=by apply Array.ext';simpa [Value.cells]using f
 rw[this]
def EvOk(e:EvD):Prop:=-9223372036854775808<=e.n/\e.n<=9223372036854775807
def qa71(n:Nat)(cs:List Au)(y:Av H×List Am)(d:cs.length=8)(h:A1 enc Zp W base spare held n 36 cs=A0 y):∃o:EvD,cs=evV o/\EvOk o:=by
 obtain⟨xs,n,_,rfl,d,a,w⟩:=A9 Tryz.underlying36 h
 match cs,d,xs,a with
 |[c0,c1,s,D,M,G,E,t],_,[y0,l,u,v,C,L,A,I],_=>
  have r:A1 enc Zp W base spare held n 3 [c0]=A0 y0:=by simpa [oI]using w 0 _ rfl
  have O:A1 enc Zp W base spare held n 3 [c1]=A0 l:=by simpa [oI]using w 1 _ rfl
  have i:A1 enc Zp W base spare held n 34 [s]=A0 u:=by simpa [oU32]using w 2 _ rfl
  have j:A1 enc Zp W base spare held n 9 [D]=A0 v:=by simpa [oS]using w 3 _ rfl
  have F:A1 enc Zp W base spare held n 2 [M]=A0 C:=by simpa [oI64]using w 4 _ rfl
  have q:A1 enc Zp W base spare held n 9 [G]=A0 L:=by simpa [oS]using w 5 _ rfl
  have N:A1 enc Zp W base spare held n 9 [E]=A0 A:=by simpa [oS]using w 6 _ rfl
  have k:A1 enc Zp W base spare held n 9 [t]=A0 I:=by simpa [oS]using w 7 _ rfl
  obtain⟨K,a0,_⟩:=qw21 Tryz.underlying3 r;obtain⟨J,e,_⟩:=qw21 Tryz.underlying3 O;obtain⟨m,a2,_⟩:=qw21 Tryz.underlying34 i;obtain⟨B,a3,_⟩:=qbp Tryz.underlying9 j;obtain⟨c,a4,b⟩:=qw21 Tryz.underlying2 F;obtain⟨p,a5,_⟩:=qbp Tryz.underlying9 q;obtain⟨x,g,_⟩:=qbp Tryz.underlying9 N;obtain⟨z,f,_⟩:=qbp Tryz.underlying9 k;simp only[Ae,yM]at a0 e a2 a3 a4 a5 g f;refine⟨⟨K,J,m,B,c,p,x,z⟩,by rw[a0,e,a2,a3,a4,a5,g,f];rfl,?_⟩;have b: -9223372036854775808<=c/\c<=9223372036854775807:=by simpa [Lit.wf,IntKind.min,IntKind.max,IntKind.signed,IntKind.bits]using b
  exact b
def qq61{r:_root_.Go.Reach}{v:Au}{d:Av H}{g:List Am}(w:Value.okWide Zp W r b0 45 v)(h:Aw enc Zp W base spare held 45 v d g):
 ∃(p:Option Addr) (os:List EvD) (c:Nat),v=.slice p os.length c/\os.length<=c/\c<=9223372036854775807/\Rd [q65 W] p (os.flatMap evV)/\∀o∈os,EvOk o:=by
 obtain⟨a,len,cap,rfl⟩:=WideShapes.okWide_slice Tryz.underlying45 w;obtain⟨qma,f⟩:=h;obtain⟨p,xs,c,b,e⟩:=qju evV EvOk Tryz.underlying45 oEv (by decide) (λ_=>rfl) qa71 f;simp[Value.cells]at b;obtain⟨rfl,rfl,rfl⟩:=b;exact⟨_,xs,_,rfl,e⟩
end
end
section
def qq11(n:Nat):List Au->Ax->Nat:=λvs _=>match vs.getLast? with
 |some (.int _ i)=>n - i.toNat
 |_=>0
def evV8(e:EvD):(evV e).length=8:=rfl
def qd71(t:qa4):(q43 t).length=5:=rfl
def qt61(t:q97):(q44 t).length=3:=rfl
section
variable{W w:World}{F:List Asn}{c:qy}
set_option maxHeartbeats 1000000 in
def qa51(s:ql1 F c)(a:St W F w):qb Zp 13 #[Zg (qx3 c).toArray] w λv w'=>∃b,v=Zb b/\St W F w':=by
 refine F13_of (zh a λb w a=>zr 0 a rfl rfl ?_);refine⟨λvs w=>∃(n:Int) (i:Nat),vs=[Zi Zk n,Zi Zk i]/\i<=c.tens.length/\St W (Row b 44 (qx3 c)::F) w,qq11 c.tens.length,⟨_,0,rfl,An _,a⟩,λn i w r=>?_⟩;clear a;obtain⟨n,i,l,D,a⟩:=r;cases l;refine zr 0 a rfl rfl (za (λe=>za (λ_=>zr 0 a rfl rfl ?_) λ_=>⟨_,rfl,a.drop⟩) λ_=>⟨_,rfl,a.drop⟩);have e:i<c.tens.length:=by have:=yC e;omega
 have o:=A2 e;have z:=s.tb;generalize c.tens[i]=t at o;have p:=s.ok t (Ah o);refine z0e qd71 (by decide) (s.tr.cons _) a rfl e o λad f=>z0p (f 0 _ rfl) (zt (f 1 _ rfl) (zt (f 2 _ rfl) (LdL.at (f 3 _ rfl) (LdL.at (f 4 _ rfl) ?_))));refine zh a λx w a=>St1.zz 0 a rfl λw a=>St1.zz 0 a rfl λw a=>St1.zz 0 a rfl λw a=>St1.zz 0 a rfl λw a=>St1.zz 0 a rfl λw a=>?_;have a:St W (Row x 112 (q43 t)::Row b 44 (qx3 c)::F) w:=a;refine zg 0 a rfl rfl (zr 0 a rfl rfl (zr 0 a rfl rfl ?_));have j:∀(m:Int) w,St W (Row x 112 (q43 t)::Row b 44 (qx3 c)::F) w->(∃(n:Int) (g:Nat),[Zi Zk m,Zi Zk (Zw Zk ((i:Int)+1))]=[Zi Zk n,Zi Zk g]/\g<=c.tens.length/\St W (Row b 44 (qx3 c)::F) w)/\qq11 c.tens.length [Zi Zk m,Zi Zk (Zw Zk ((i:Int)+1))] w<qq11 c.tens.length [Zi Zk n,Zi Zk (i:Int)] w:=λm w a=>by rw[up e (by omega)];exact⟨⟨m,i+1,rfl,e,a.drop⟩,by show c.tens.length -(i+1)<c.tens.length - i;omega⟩
 refine⟨λvs w=>∃(n:Int) (k:Nat),vs=[Zi Zk n,Zi Zk k]/\k<=t.toks.length/\St W (Row x 112 (q43 t)::Row b 44 (qx3 c)::F) w,qq11 t.toks.length,⟨_,0,rfl,An _,a⟩,λm k w r=>?_⟩;clear a;obtain⟨m,k,l,C,a⟩:=r;cases l;refine zr 0 a rfl rfl (za (λd=>za (λ_=>?_) λ_=>j m w a) λ_=>j m w a);have d:k<t.toks.length:=by have:=yC d;omega
 have u:=A2 d;have B:=p.tb;generalize t.toks[k]=y at u;refine⟨StC W _,zd a,_,_,_,QtL.a 0 ir rfl rfl,z0d ir qt61 (by decide) ((p.tr.cons _).cons _) a rfl d u λad f=>⟨_,z10 (λG w h=>f h 0 _ rfl),_,_,_,QtL.a 0 ir rfl rfl,z0d ir qt61 (by decide) ((p.tr.cons _).cons _) a rfl d u λA q=>⟨_,z10 (λG w h=>q h 1 _ rfl),λG w h=>?_⟩⟩⟩;have a:=zb h;rw[up d (by omega)];exact⟨⟨_,k+1,rfl,d,a⟩,by show t.toks.length -(k+1)<t.toks.length - k;omega⟩
def qc51{p:Option Addr}{o:Nat}{l:List EvD}(f:Rd F p (l.flatMap evV))(x:l.length<=9223372036854775807)(c:St W F w):qb Zp 14 #[Zl p l.length o] w λv w'=>∃b,v=Zb b/\(b=A3->l.length<=300)/\St W F w':=by
 refine F14_of ⟨λvs w=>∃n:Int,vs=[Zi Zk n]/\St W F w,?_,λn w r=>?_⟩
 .refine⟨λvs w=>∃(n:Int) (i:Nat),vs=[Zi Zk n,Zi Zk i]/\i<=l.length/\St W F w,qq11 l.length,⟨_,0,rfl,An _,c⟩,λn i w j=>?_⟩;clear c;obtain⟨n,i,g,u,c⟩:=j;cases g;refine za (λa=>za (λ_=>?_) λ_=>⟨_,rfl,c⟩) λ_=>⟨_,rfl,c⟩;have a:i<l.length:=by have:=yC a;omega
  have d:=A2 a;generalize l[i]=e at d;refine⟨StC W _,zd c,z0d ir evV8 (by decide) f c rfl a d λt s=>z0d ir evV8 (by decide) f c rfl a d λa2 k=>z0d ir evV8 (by decide) f c rfl a d λa3 m=>z0d ir evV8 (by decide) f c rfl a d λa4 q=>⟨_,z10 (λG w h=>s h 3 _ rfl),_,z10 (λG w h=>k h 5 _ rfl),_,z10 (λG w h=>m h 6 _ rfl),_,z10 (λG w h=>q h 7 _ rfl),λG w h=>?_⟩⟩;have c:=zb h;rw[up a (by omega)];exact⟨⟨_,i+1,rfl,a,c⟩,by show l.length -(i+1)<l.length - i;omega⟩
 .obtain⟨n,g,c⟩:=r;exact za (λ_=>⟨A4,rfl,λh=>(by cases h),c⟩) λ_=>⟨_,rfl,λh=>(by have:=yD h;omega),c⟩
def fPa:(Zp.fieldsOf 122).toList.map qhm=[(A4,3,0),(A4,3,1)]:=by kernel_rfl
def uPa:Zp.underlying 122=A0 (.struct (Zp.fieldsOf 122)):=by kernel_rfl
def hPa:Zp.stoodInHeld 122=A3:=by kernel_rfl
def gPa:Zp.eqGuardType Zp.depth 122=A3:=by kernel_rfl
def pp0(a b:Int)(w:Ax):(part 3 #[Zi Zk a,Zi Zk b] 0).run Zp w=.ok (Zi Zk a) w:=run_part_plain w qjr rfl
def pp1(a b:Int)(w:Ax):(part 3 #[Zi Zk a,Zi Zk b] 1).run Zp w=.ok (Zi Zk b) w:=run_part_plain w qjr rfl
def qm61(d:Nat)(a b:Int)(w:Ax):(Op.equalIn (d+2) 122 (Zg #[Zi Zk a,Zi Zk b]) (Zg #[Zi Zk a,Zi Zk b])).run Zp w=.ok A4 w:=by rw[show d+2=(d+1)+1 from rfl,run_equalIn_struct w (d+1) _ _ _ uPa hPa,qhh,fPa];simp[eqF,Sem.run_bind,pp0,pp1,Result.andThen_ok,run_equalIn_int w d 3 Zk Zk _ _ uInt,qow,Sem.run_ite,Sem.run_pure]
def nePa{h c:Operand}(a b:Int)(w:Ax):Sem.run Zp (do eqGuard .neq 122 h c (Zg #[Zi Zk a,Zi Zk b]) (Zg #[Zi Zk a,Zi Zk b]);binOp .neq 122 (Zg #[Zi Zk a,Zi Zk b]) (Zg #[Zi Zk a,Zi Zk b])) w=.ok (Zb A3) w:=by simp only[Sem.run_bind,run_eqGuard_agg w .neq 122 h c _ _ gPa,Result.andThen_ok,run_neq_struct];rw[show(10000:Nat)=9998+2 from rfl,qm61];rfl
def qp51{p q:Option Addr}{c1 m:Nat}{f:Int->Int}{l:List Int}(s:l.length<=9223372036854775807)(n:Rd F p (l.flatMap (q52 f)))(g:Rd F q (l.flatMap (q52 f)))(b:St W F w):
 qb Zp 18 #[Zl p l.length c1,Zl q l.length m] w λv w'=>v=Zb A4/\St W F w':=by
 refine F18_of (zm (by simp) ?_);refine⟨λvs w=>∃i:Nat,vs=[Zi Zk i]/\i<=l.length/\St W F w,qq11 l.length,⟨0,rfl,An _,b⟩,λi w j=>?_⟩;clear b;obtain⟨i,k,r,b⟩:=j;cases k;refine za (λa=>?_) λ_=>⟨rfl,b⟩;have a:i<l.length:=by have:=yC a;omega
 have c:=A2 a;generalize l[i]=v at c;refine⟨StC W _,zd b,z0d ir (qc9 f) (by decide) n b rfl a c λo d=>z0d ir (qc9 f) (by decide) g b rfl a c λa2 e=>⟨v,f v,λG w h=>zt (d h 0 _ rfl) (zt (d h 1 _ rfl) ⟨rfl,h⟩),v,f v,λG w h=>zt (e h 0 _ rfl) (zt (e h 1 _ rfl) ⟨rfl,h⟩),_,λw=>nePa v (f v) w,_,rfl,λG w h=>zm rfl ?_⟩⟩;have b:=zb h;rw[up a (by omega)];exact⟨⟨i+1,rfl,a,b⟩,by show l.length -(i+1)<l.length - i;omega⟩
end
end
section
def qcc(R:List (Int×q31))(id:Int):Prop:=∃r,qe R id=A0 r/\r.kind=3
def qli(R:List (Int×q31))(id:Int):Prop:=∃r,qe R id=A0 r/\r.kind=2
structure quz(id:Int)(r:q31):Prop where
 conn:r.conn=id
 kind:r.kind=1/\r.sh.isSome=A4\/r.kind=2\/r.kind=3\/r.kind=4
def qal(w:Ri.Way):Prop:=Zw Zk w.moved=w.moved
def qrr(z:Ri.PS):Prop:=qal z.w0/\qal z.w1
structure qr5(m:Int)(N:Cn.CT)(R:List (Int×q31))(P:qd6)(ps:List Ri.PS)(Q:Qu.QG)(T:TkB)(S:List (Int×q81)):Prop where
 nN:(N.L.map (·.1)).Nodup
 nR:(R.map (·.1)).Nodup
 nP:(P.ends.map (·.1)).Nodup
 nS:(S.map (·.1)).Nodup
 nT:(T.good.map (·.p.vis)).Nodup
 same:∀id,(qe R id).isSome=(qe N.L id).isSome
 role:∀id r,qe R id=A0 r->quz id r
 pair:∀id o b,qe P.ends id=A0 (o,b)->o≠id/\qe P.ends o=A0 (id,!b)/\∃r i,qe R id=A0 r/\r.kind=4/\r.pump=A0 i/\i<ps.length
 que:∀y∈Q,qcc R y.2
 tick:∀t∈T.good,qcc R t.p.vis
 last0:0<=N.last
 last1:N.last<=m
 key:∀id,(qe N.L id).isSome=A4->1<=id/\id<=N.last
 sk:∀id,(qe S id).isSome=A4->1<=id/\id<=N.last
 cred:∀id d,qe N.L id=A0 d->0<=d.credit/\d.credit<=1073741824
 mov:∀z∈ps,qrr z
abbrev Bk.Str(m:Int)(s:Bk):Prop:=qr5 m s.N s.roles s.P s.pumps s.Q s.T s.S
structure q401(B:qi3)(now:Int)(R:List (Int×q31)):Prop where
 nB:(B.L.map (·.1)).Nodup
 name:∀k d,qe B.L k=A0 d->d.name=k
 held:∀k d,qe B.L k=A0 d->d.held=A4->now<d.til/\qli R d.conn
 most:qa6 B.most=A4
 clock:q79 now=A4
abbrev Bk.Book(s:Bk):Prop:=q401 s.B s.K.now s.roles
section
variable{κ ν:Type}[DecidableEq κ]
def q201{L:List (κ×ν)}{k:κ}:(qe L k).isSome=A4↔k∈L.map (·.1):=by
 cases h:qe L k with
 |none=>rw[qm8]at h;refine⟨λh=>(by cases h),λw=>?_⟩;obtain⟨x,a,e⟩:=Af.1 w;exact yI e (h x a)
 |some v=>exact⟨λ_=>Af.2 ⟨_,qg3 h,rfl⟩,λ_=>rfl⟩
end
def q811:∀(n:Nat) (l:List Int),l.Nodup->(∀x∈l,1<=x/\x<=(n:Int))->l.length<=n:=by
 intro n;induction n with
 |zero=>
  intro l _ h;cases l with
  |nil=>exact Nat.le_refl _
  |cons a r=>have:=h a A5;omega
 |succ n ih=>
  intro l c h;have d:=ih (l.erase ((n+1:Nat):Int)) (c.erase _) λx b=>by
   have:=h x (List.mem_of_mem_erase b);have f:x≠((n+1:Nat):Int):=λe=>by rw[e]at b;exact(List.Nodup.not_mem_erase c) b
   omega
  have:=List.length_erase_le (a:=((n+1:Nat):Int)) (l:=l);by_cases w:((n+1:Nat):Int)∈l
  .rw[List.length_erase_of_mem w]at d;have:0<l.length:=List.length_pos_of_mem w;omega
  .rw[List.erase_of_not_mem w]at d;omega
def qit(S:List (Int×q81))(id j:Int)(bs:List UInt8)(e w:Bool)(h:(qe (qe6 S id bs e w) j).isSome=A4):j=id\/(qe S j).isSome=A4:=by
 unfold qe6 at h;split at h;.exact .inr h
 .rw[qh2]at h;split at h;.rename_i e;exact .inl e.symm
  .exact .inr h
def q9o{S:List (Int×q81)}(h:(S.map (·.1)).Nodup)(id:Int)(bs:List UInt8)(e w:Bool):((qe6 S id bs e w).map (·.1)).Nodup:=by
 unfold qe6;split;.exact h
 .exact qr7 h _ _
def ql3(N:Cn.CT)(id j:Int)(g:Cn.CnD->Cn.CnD):qe (N.upd id g).L j=if id=j then(qe N.L j).map g else qe N.L j:=by
 unfold Cn.CT.upd;cases h:qe N.L id with
 |none=>
  simp only;split;.rename_i e;subst e;rw[h];rfl
  .rfl
 |some d=>
  simp only;rw[qh2];split;.rename_i e;subst e;rw[h];rfl
  .rfl
def qoe(N:Cn.CT)(id:Int)(g:Cn.CnD->Cn.CnD):(N.upd id g).last=N.last:=by unfold Cn.CT.upd;split<;>rfl
def qjt{N:Cn.CT}(h:(N.L.map (·.1)).Nodup)(id:Int)(g:Cn.CnD->Cn.CnD):((N.upd id g).L.map (·.1)).Nodup:=by
 unfold Cn.CT.upd;split;.exact h
 .exact qr7 h _ _
def upd_id{N:Cn.CT}{id:Int}{g:Cn.CnD->Cn.CnD}(h:∀d,qe N.L id=A0 d->g d=d):N.upd id g=N:=by
 unfold Cn.CT.upd;split;.rfl
 .rename_i d w;rw[h d w,qt1 w]
section
variable{m:Int}{N:Cn.CT}{R:List (Int×q31)}{P:qd6}{ps:List Ri.PS}{Q:Qu.QG}{T:TkB}{S:List (Int×q81)}{id:Int}
def qcc.of{R R':List (Int×q31)}{id:Int}(h:qcc R id)(e:qe R' id=qe R id):qcc R' id:=by unfold qcc at*;rw[e];exact h
def qli.of{R R':List (Int×q31)}{id:Int}(h:qli R id)(e:qe R' id=qe R id):qli R' id:=by unfold qli at*;rw[e];exact h
def qr5.upd(h:qr5 m N R P ps Q T S)(id:Int){g:Cn.CnD->Cn.CnD}(c:∀d,0<=d.credit/\d.credit<=1073741824->0<=(g d).credit/\(g d).credit<=1073741824):qr5 m (N.upd id g) R P ps Q T S:=by
 have b:∀j,(qe (N.upd id g).L j).isSome=(qe N.L j).isSome:=λj=>by
  rw[ql3];split;.rw[Aq]
  .rfl
 refine { nN:=qjt h.nN _ _,nR:=h.nR,nP:=h.nP,nS:=h.nS,nT:=h.nT,same:=λj=>by rw[b];exact h.same j,role:=h.role,pair:=h.pair,que:=h.que,tick:=h.tick,last0:=by rw[qoe];exact h.last0,last1:=by rw[qoe];exact h.last1,key:=λj w=>by rw[b]at w;rw[qoe];exact h.key j w,sk:=λj w=>by rw[qoe];exact h.sk j w,mov:=h.mov,cred:=λj d a=>?_};rw[ql3]at a;split at a
 .obtain⟨d0,e,rfl⟩:=Aj.1 a;exact c _ (h.cred _ _ e)
 .exact h.cred _ _ a
def qr5.tell(h:qr5 m N R P ps Q T S)(id:Int)(xs:List UInt8):qr5 m (N.upd id (Cn.gSay xs)) R P ps Q T S:=
 h.upd id λd w=>by unfold Cn.gSay;split<;>exact w
def qub{d:Cn.CnD}(w:0<=d.credit/\d.credit<=1073741824):(Cn.gFlush d).credit=d.credit -((Cn.rFlush d).length:Int)/\((Cn.rFlush d).length:Int)<=d.credit:=by
 have h:(Cn.rFlush d).length<=d.credit.toNat:=by unfold Cn.rFlush;rw[List.length_take];omega
 refine⟨?_,by omega⟩;show Zw Zk _=_;exact w64
def qr5.flush(h:qr5 m N R P ps Q T S)(id:Int):qr5 m (N.upd id Cn.gFlush) R P ps Q T S:=
 h.upd id λd w=>by obtain⟨a,b⟩:=qub w;rw[a];omega
def qr5.put(h:qr5 m N R P ps Q T S){r r':q31}(f:qe R id=A0 r)(F:r'.conn=r.conn)(s:r'.kind=r.kind)(d:r'.sh.isSome=r.sh.isSome)(A:r'.pump=r.pump):qr5 m N (qk R id r') P ps Q T S:=by
 have v:∀j q,qe R j=A0 q->∃a,qe (qk R id r') j=A0 a/\a.kind=q.kind/\a.pump=q.pump:=λj q w=>by
  rw[qh2];split;.rename_i e;subst e;rw[f]at w;cases w;exact⟨_,rfl,s,A⟩
  .exact⟨_,w,rfl,rfl⟩
 have u:∀j,qcc R j->qcc (qk R id r') j:=λj ⟨q,w,d⟩=>by obtain⟨a,k,p,_⟩:=v j q w;exact⟨a,k,by rw[p];exact d⟩
 refine { nN:=h.nN,nR:=qr7 h.nR _ _,nP:=h.nP,nS:=h.nS,nT:=h.nT,same:=λj=>?_,role:=λj q w=>?_,pair:=λj o b D=>?_,que:=λy C=>u _ (h.que y C),tick:=λt z=>u _ (h.tick t z),last0:=h.last0,last1:=h.last1,key:=h.key,sk:=h.sk,cred:=h.cred,mov:=h.mov}
 .rw[qh2];split;.rename_i e;subst e;rw[<-h.same,f];rfl
  .exact h.same j
 .rw[qh2]at w;split at w
  .rename_i e;subst e;cases w;have:=h.role _ _ f;exact⟨by rw[F];exact this.conn,by rw[s,d];exact this.kind⟩
  .exact h.role _ _ w
 .obtain⟨k,p,q,i,x,B,E,g⟩:=h.pair j o b D;obtain⟨a,c,l,n⟩:=v j q x;exact⟨k,p,a,i,c,by rw[l];exact B,by rw[n];exact E,g⟩
def qr5.send(h:qr5 m N R P ps Q T S)(hid:(qe N.L id).isSome=A4)(bs:List UInt8)(e a:Bool):qr5 m N R P ps Q T (qe6 S id bs e a):=
 { h with nS:=q9o h.nS _ _ _ _,sk:=λj w=>(qit _ _ _ _ _ _ w).elim (λe=>by rw[e];exact h.key _ hid) λw=>h.sk j w}
def qr5.que_sub(h:qr5 m N R P ps Q T S){w:Qu.QG}(b:∀y∈w,y∈Q):qr5 m N R P ps w T S:={ h with que:=λy a=>h.que y (b y a)}
def qr5.cut(h:qr5 m N R P ps Q T S){k:Cn.CT}{R':List (Int×q31)}{q:qd6}{E:Qu.QG}{u:TkB}{z:List (Int×q81)}(D:Int->Prop)
 (nN:(k.L.map (·.1)).Nodup) (nR:(R'.map (·.1)).Nodup) (nP:(q.ends.map (·.1)).Nodup) (nS:(z.map (·.1)).Nodup) (p:k.last=N.last)
 (A:∀j,D j->qe k.L j=Ab) (c:∀j,¬D j->qe k.L j=qe N.L j) (F:∀j,D j->qe R' j=Ab) (a:∀j,¬D j->qe R' j=qe R j)
 (K:∀j,D j->qe q.ends j=Ab) (l:∀j,¬D j->qe q.ends j=qe P.ends j) (x:∀j o b,¬D j->qe P.ends j=A0 (o,b)->¬D o)
 (G:∀y∈E,y∈Q/\¬D y.2) (C:u.good.Sublist T.good) (v:∀t∈u.good,¬D t.p.vis) (J:∀j,(qe z j).isSome=A4->(qe S j).isSome=A4\/(qe N.L j).isSome=A4):qr5 m k R' q ps E u z where
 nN:=nN
 nR:=nR
 nP:=nP
 nS:=nS
 nT:=h.nT.sublist (C.map _)
 same:=λj=>by
  by_cases w:D j;.rw[F j w,A j w];rfl
  .rw[a j w,c j w];exact h.same j
 role:=λj r n=>by
  by_cases w:D j;.rw[F j w]at n;cases n
  .rw[a j w]at n;exact h.role j r n
 pair:=λj o b g=>by
  by_cases w:D j;.rw[K j w]at g;cases g
  .rw[l j w]at g;obtain⟨f,s,r,i,H,I⟩:=h.pair j o b g;exact⟨f,by rw[l o (x j o b w g)];exact s,r,i,by rw[a j w];exact H,I⟩
 que:=λy L=>by obtain⟨f,s⟩:=G y L;exact(h.que y f).of (a _ s)
 tick:=λt B=>(h.tick t (C.subset B)).of (a _ (v t B))
 last0:=by rw[p];exact h.last0
 last1:=by rw[p];exact h.last1
 key:=λj w=>by
  by_cases e:D j;.rw[A j e]at w;cases w
  .rw[c j e]at w;rw[p];exact h.key j w
 sk:=λj w=>by
  rw[p];rcases J j w with f|f;.exact h.sk j f
  .exact h.key j f
 cred:=λj d e=>by
  by_cases w:D j;.rw[A j w]at e;cases e
  .rw[c j w]at e;exact h.cred j d e
 mov:=h.mov
end
end
section
structure Vis(s s':Bk):Prop where
 P:s'.P=s.P
 pumps:s'.pumps=s.pumps
 B:s'.B=s.B
 now:s'.K.now=s.K.now
 Q:∀y∈s'.Q,y∈s.Q
 R:∀id,qe s'.roles id=qe s.roles id\/qe s'.roles id=Ab/\qcc s.roles id
 N:∀id r,qe s.roles id=A0 r->r.kind=4->qe s'.N.L id=qe s.N.L id
 E:∀id d',qe s'.N.L id=A0 d'->∃d,qe s.N.L id=A0 d/\d'.ended=d.ended/\d'.inb=d.inb
 last:s'.N.last=s.N.last
structure Less(s s':Bk):Prop where
 pumps:s'.pumps=s.pumps
 now:s'.K.now=s.K.now
 R:∀id,qe s'.roles id=qe s.roles id\/qe s'.roles id=Ab
 E:∀id d',qe s'.N.L id=A0 d'->∃d,qe s.N.L id=A0 d/\d'.ended=d.ended/\d'.inb=d.inb
 last:s'.N.last=s.N.last
def Vis.less{s s':Bk}(h:Vis s s'):Less s s':=⟨h.pumps,h.now,λid=>(h.R id).imp (λh=>h) λh=>h.1,h.E,h.last⟩
def Vis.refl(s:Bk):Vis s s:=⟨rfl,rfl,rfl,rfl,λy h=>h,λid=>.inl rfl,λid r _ _=>rfl,λid d h=>⟨d,h,rfl,rfl⟩,rfl⟩
def Less.refl(s:Bk):Less s s:=(Vis.refl s).less
def Less.trans{s t u:Bk}(h:Less s t)(k:Less t u):Less s u where
 pumps:=k.pumps.trans h.pumps
 now:=k.now.trans h.now
 R:=λid=>by
  rcases k.R id with w|w;.rw[w];exact h.R id
  .exact .inr w
 E:=λid d hd=>by obtain⟨c,w,a,b⟩:=k.E id d hd;obtain⟨d0,g,e,f⟩:=h.E id c w;exact⟨d0,g,a.trans e,b.trans f⟩
 last:=k.last.trans h.last
def qcc.back{s t:Bk}(h:Vis s t){id:Int}(a:qcc t.roles id):qcc s.roles id:=by
 rcases h.R id with w|⟨w,_⟩;.exact a.of w.symm
 .obtain⟨r,b,_⟩:=a;rw[w]at b;cases b
def Vis.stays{s t:Bk}(h:Vis s t){id:Int}{r:q31}(a:qe s.roles id=A0 r)(c:r.kind≠3):qe t.roles id=A0 r:=by
 rcases h.R id with b|⟨b,q,w,d⟩;.rw[b,a]
 .rw[a]at w;cases w;exact yI d c
def Vis.trans{s t u:Bk}(h:Vis s t)(k:Vis t u):Vis s u where
 P:=k.P.trans h.P
 pumps:=k.pumps.trans h.pumps
 B:=k.B.trans h.B
 now:=k.now.trans h.now
 Q:=λy b=>h.Q y (k.Q y b)
 R:=λid=>by
  rcases k.R id with w|⟨w,a⟩;.rw[w];exact h.R id
  .exact .inr ⟨w,qcc.back h a⟩
 N:=λid r hr hk=>(k.N id r (h.stays hr (by omega)) hk).trans (h.N id r hr hk)
 E:=(h.less.trans k.less).E
 last:=k.last.trans h.last
def Book.vis{s t:Bk}(h:s.Book)(k:Vis s t):t.Book:=by have w:=k.B;have b:=k.now;refine⟨by rw[w];exact h.nB,by rw[w];exact h.name,λkey d a c=>?_,by rw[w];exact h.most,by rw[b];exact h.clock⟩;rw[w]at a;obtain⟨g,r,e,f⟩:=h.held key d a c;exact⟨by rw[b];exact g,r,k.stays e (by omega),f⟩
def qg11(K:Ck.ClG)(after:Int)(ids:List Int):(q5c K after ids).now=K.now:=by
 unfold q5c;induction ids generalizing K with
 |nil=>rfl
 |cons a r h=>
  rw[Ak,h];unfold Ck.cSet;split;.rfl
  .split<;>rfl
section
variable{m:Int}{s:Bk}{id:Int}
def Vis.tell(a:qk1)(hid:∀r,qe s.roles id=A0 r->r.kind≠4):Vis s (s.tell id a) where
 P:=rfl
 pumps:=rfl
 B:=rfl
 now:=rfl
 Q:=λy h=>h
 R:=λid=>.inl rfl
 N:=λj r c b=>by show qe (s.N.upd id _).L j=_;rw[ql3,yA (λe=>hid r (by rw[e];exact c) b)]
 E:=λj d w=>by
  change qe (s.N.upd id _).L j=_ at w;rw[ql3]at w;split at w
  .obtain⟨d0,f,rfl⟩:=Aj.1 w;refine⟨d0,f,?_⟩;unfold Cn.gSay;split<;>exact⟨rfl,rfl⟩
  .exact⟨d,w,rfl,rfl⟩
 last:=qoe _ _ _
def Str.tell(h:s.Str m)(id:Int)(w:qk1):(s.tell id w).Str m:=qr5.tell h id _
def qt31(s:Bk)(ten:ByteArray)(w:Int):Vis s (s.give ten w):=⟨rfl,rfl,rfl,rfl,λy h=>h,λid=>.inl rfl,λid r _ _=>rfl,λid d h=>⟨d,h,rfl,rfl⟩,rfl⟩
def qw51(s:Bk)(after:Int)(ids:List Int):Vis s (s.alarm after ids):=⟨rfl,rfl,rfl,qg11 _ _ _,λy h=>h,λid=>.inl rfl,λid r _ _=>rfl,λid d h=>⟨d,h,rfl,rfl⟩,rfl⟩
def qx11(s:Bk)(id:Int):(s.out id).N.last=s.N.last:=qoe s.N id _
def q121(h:s.Str m)(id j:Int):qe (s.out id).N.L j=if id=j then Ab else qe s.N.L j:=by
 show qe (qp (s.N.upd id Cn.gFlush).L id) j=_;rw[qaa (qjt h.nN _ _)];split;.rfl
 .rename_i e;rw[ql3,yA e]
def qf11(h:s.Str m)(id j:Int):qe (s.out id).roles j=if id=j then Ab else qe s.roles j:=qaa h.nR id j
def qm51(id j:Int)(h:(qe (s.out id).S j).isSome=A4):(qe s.S j).isSome=A4\/j=id:=by
 rcases qit _ _ _ _ _ _ h with h|h;.exact .inr h
 .exact .inl h
def qa21(h:s.Str m){r:q31}(d:qe s.roles id=A0 r)(a:r.kind≠4):qe s.P.ends id=Ab:=by
 cases he:qe s.P.ends id with
 |none=>rfl
 |some x=>obtain⟨o,b⟩:=x;obtain⟨_,_,q,i,w,c,_⟩:=h.pair id o b he;rw[d]at w;cases w;exact yI c a
def qp61(T:TkB)(id:Int):(q5l T id).1.good.Sublist T.good:=by
 unfold q5l;split;.exact List.eraseIdx_sublist _ _
 .exact List.Sublist.refl _
def q561{T:TkB}(u:(T.good.map (·.p.vis)).Nodup)(id:Int):∀t∈(q5l T id).1.good,t.p.vis≠id:=by
 intro t w;unfold q5l ofT at w;rcases q0j (g:=λt:TkD=>t.p.vis==id) (xs:=T.good)with ⟨o,a⟩|⟨i,x,o,a,r⟩
 .rw[yA (by omega)]at w;intro e;have:=List.find?_eq_none.1 a t w;simp[e]at this
 .rw[o,yB (by omega)]at w;simp only[Aa]at w;have s:x.p.vis=id:=by simpa using List.find?_some r
  have d:i<T.good.length:=by
   rcases Nat.lt_or_ge i T.good.length with h|h;.exact h
   .rw[List.getElem?_eq_none h]at a;cases a
  obtain⟨j,n,c⟩:=List.getElem_of_mem w;intro e;rw[List.getElem_eraseIdx]at c;have b:∀k (l:k<T.good.length),k≠i->T.good[k].p.vis≠id:=λk l m ev=>by
   have v:(T.good.map (·.p.vis))[k]?=A0 id:=by rw[Ar,A2 l,<-ev];rfl
   have p:(T.good.map (·.p.vis))[i]?=A0 id:=by rw[Ar,a,<-s];rfl
   exact m ((List.getElem?_inj (by simpa using l) u).1 (v.trans p.symm))
  have q:j<T.good.length - 1:=by rw[List.length_eraseIdx_of_lt d]at n;exact n
  split at c
  .rename_i f;refine b j (by omega) (by omega) ?_;rw[c];exact e
  .rename_i f;refine b (j+1) (by omega) (by omega) ?_;rw[c];exact e
def Str.out{r:q31}(h:s.Str m)(d:qe s.roles id=A0 r)(n:r.kind=1\/r.kind=2):(s.out id).Str m:=by
 have g:=qa21 h d (by omega);have i:∀j,qcc s.roles j->j≠id:=λj ⟨q,a,c⟩ e=>by subst e;rw[d]at a;cases a;omega
 refine qr5.cut h (λj=>id=j) ((qph (qjt h.nN _ _) _)) (qph h.nR _) h.nP (q9o h.nS _ _ _ _) (qx11 s id) (λj w=>by rw[q121 h,yB w]) (λj w=>by rw[q121 h,yA w]) (λj w=>by rw[qf11 h,yB w]) (λj w=>by rw[qf11 h,yA w])
  (λj w=>by subst w;exact g) (λj _=>rfl) (λj o b w l e=>?_) (λy f=>⟨f,λe=>i _ (h.que y f) e.symm⟩) (List.Sublist.refl _) (λt k e=>i _ (h.tick t k) e.symm) λj w=>?_
 .obtain⟨_,c,_⟩:=h.pair j o b l;rw[<-e,g]at c;cases c
 .rcases qm51 id j w with a|a;.exact .inl a
  .subst a;rw[<-h.same,d];exact .inr rfl
def Less.out(h:s.Str m)(id:Int):Less s (s.out id) where
 pumps:=rfl
 now:=rfl
 R:=λj=>by rw[qf11 h];split;exact .inr rfl;exact .inl rfl
 E:=λj d w=>by
  rw[q121 h]at w;split at w;.cases w
  .exact⟨d,w,rfl,rfl⟩
 last:=qx11 s id
def ql51(n:Nat)(h:s.Str m)(d:qe s.roles id=Ab\/qcc s.roles id):(Bk.shutB (n+1) s id).Str m/\Vis s (Bk.shutB (n+1) s id)/\qe (Bk.shutB (n+1) s id).roles id=Ab:=by
 unfold Bk.shutB;rcases d with d|⟨r,c,i⟩;.rw[d];exact⟨h,Vis.refl s,d⟩
 rw[c];simp only;unfold Bk.after;rw[yA (by omega),yB i];have k:=qa21 h c (by omega);refine⟨?_,⟨rfl,rfl,rfl,rfl,λy a=>(Ai.1 a).1,λj=>?_,λj q l p=>?_,(Less.out h id).E,qx11 s id⟩,?_⟩
 .refine qr5.cut h (λj=>id=j) ((qph (qjt h.nN _ _) _)) (qph h.nR _) h.nP (q9o h.nS _ _ _ _) (qx11 s id) (λj w=>(q121 h id j).trans (yB w)) (λj w=>(q121 h id j).trans (yA w)) (λj w=>(qf11 h id j).trans (yB w)) (λj w=>(qf11 h id j).trans (yA w))
   (λj w=>by subst w;exact k) (λj _=>rfl) (λj o b w v e=>?_) (λy a=>?_) (qp61 _ _) (λt u e=>q561 h.nT id t u e.symm) λj w=>?_
  .obtain⟨_,g,_⟩:=h.pair j o b v;rw[<-e,k]at g;cases g
  .have a:=Ai.1 a;exact⟨a.1,λe=>by simpa [e]using a.2⟩
  .rcases qm51 id j w with f|f;.exact .inl f
   .subst f;rw[<-h.same,c];exact .inr rfl
 .show qe (s.out id).roles j=_\/_;rw[qf11 h];split;.rename_i e;subst e;exact .inr ⟨(qf11 h _ _).trans (yB rfl),r,c,i⟩
  .exact .inl rfl
 .show qe (s.out id).N.L j=_;rw[q121 h,yA (λe=>by subst e;rw[c]at l;cases l;omega)]
 .show qe (s.out id).roles id=Ab;rw[qf11 h,yB rfl]
def q541(f:Bk->Int->Bk):Prop:=∀s i,∃n,f s i=Bk.shutB (n+1) s i
def qf71:q541 Bk.shut:=λs i=>⟨_,rfl⟩
def qr41(n:Nat):q541 (λs i=>Bk.shutB (n+1) s i):=λs i=>⟨_,rfl⟩
def qt41{f:Bk->Int->Bk}(j:q541 f):∀(l:List Int) (s:Bk),s.Str m->(∀id∈l,qe s.roles id=Ab\/qcc s.roles id)->(l.foldl (λs id=>f (s.no id 3) id) s).Str m/\Vis s (l.foldl (λs id=>f (s.no id 3) id) s)/\∀id∈l,qe (l.foldl (λs id=>f (s.no id 3) id) s).roles id=Ab
 |[],s,h,_=>⟨h,Vis.refl s,by simp⟩
 |a::r,s,h,g=>by
  rw[Ak];have w:=g a A5;have x:(s.no a 3).Str m:=Str.tell h a _;have p:Vis s (s.no a 3):=Vis.tell _ λq c=>by
   rcases w with w|⟨y,b,d⟩;.rw[w]at c;cases c
   .rw[b]at c;cases c;omega
  obtain⟨n,v⟩:=j (s.no a 3) a;obtain⟨b,d,k⟩:=ql51 n x (id:=a) w;rw[<-v]at b d k;have o:=p.trans d;obtain⟨u,i,t⟩:=qt41 j r _ b λid hid=>by
   rcases o.R id with e|⟨e,_⟩
   .rcases g id (A7 _ hid)with h|h;.exact .inl (e.trans h)
    .exact .inr (h.of e)
   .exact .inl e
  refine⟨u,o.trans i,λid hid=>?_⟩;rcases Ag.1 hid with rfl|hid
  .rcases i.R id with e|⟨e,_⟩;.rw[e,k]
   .exact e
  .exact t id hid
def q841{f:Bk->Int->Bk}(e:q541 f)(h:s.Str m)(name:ByteArray):(Bk.emptyW f s name).Str m/\Vis s (Bk.emptyW f s name)/\Qu.gL (Bk.emptyW f s name).Q name=[]:=by unfold Bk.emptyW;obtain⟨c,w,d⟩:=qt41 e (Qu.gL s.Q name) s h λid hid=>.inr (h.que _ (Qu.mem_gL.1 hid));refine⟨c,w,List.eq_nil_iff_forall_not_mem.2 λid hid=>?_⟩;have b:=Qu.mem_gL.1 hid;obtain⟨r,a,_⟩:=c.que _ b;rw[d id (Qu.mem_gL.2 (w.Q _ b))]at a;cases a
def q421{f:Bk->Int->Bk}(w:q541 f):∀(l:List LeD) (s:Bk),s.Str m->(Bk.leaveW f s l).Str m/\Vis s (Bk.leaveW f s l)
 |[],s,h=>⟨h,Vis.refl s⟩
 |x::r,s,h=>by obtain⟨d,a,_⟩:=q841 w (s:=s.give x.ten 1) h x.name;obtain⟨b,c⟩:=q421 w r _ d;exact⟨b,((qt31 s x.ten 1).trans a).trans c⟩
def qc61(h:s.Str m)(name:ByteArray):(s.empty name).Str m/\Vis s (s.empty name)/\Qu.gL (s.empty name).Q name=[]:=q841 qf71 h name
def qq21(h:s.Str m)(x:LeD)(b:∀r,qe s.roles x.conn=A0 r->r.kind≠4):(s.gone x).Str m/\Vis s (s.gone x)/\Qu.gL (s.gone x).Q x.name=[]:=by have d:((s.give x.ten 1).tell x.conn ⟨10,x.name,e0,x.epoch,0⟩).Str m:=Str.tell (s:=s.give x.ten 1) h _ _;obtain⟨w,a,c⟩:=qc61 d x.name;exact⟨w,((qt31 s x.ten 1).trans (Vis.tell _ b)).trans a,c⟩
end
end
section
section
variable{m:Int}{N:Cn.CT}{R:List (Int×q31)}{P:qd6}{ps:List Ri.PS}{Q:Qu.QG}{T:TkB}{S:List (Int×q81)}{id:Int}{s:Bk}
def qr5.cut2(h:qr5 m N R P ps Q T S){g:Cn.CT}{R':List (Int×q31)}{n:qd6}{A:Qu.QG}{q:TkB}{u:List (Int×q81)}(D:Int->Prop)
 (nN:(g.L.map (·.1)).Nodup) (nR:(R'.map (·.1)).Nodup) (nP:(n.ends.map (·.1)).Nodup) (nS:(u.map (·.1)).Nodup) (l:g.last=N.last)
 (v:∀j,D j->qe g.L j=Ab) (c:∀j,¬D j->qe g.L j=qe N.L j) (B:∀j,D j->qe R' j=Ab) (a:∀j,¬D j->qe R' j=qe R j)
 (F:∀j o b,qe n.ends j=A0 (o,b)->¬D j/\qe P.ends j=A0 (o,b)/\qe n.ends o=A0 (j,!b))
 (C:∀y∈A,y∈Q/\¬D y.2) (z:q.good.Sublist T.good) (s:∀t∈q.good,¬D t.p.vis) (J:∀j,(qe u j).isSome=A4->(qe S j).isSome=A4\/(qe N.L j).isSome=A4):qr5 m g R' n ps A q u where
 nN:=nN
 nR:=nR
 nP:=nP
 nS:=nS
 nT:=h.nT.sublist (z.map _)
 same:=λj=>by
  by_cases w:D j;.rw[B j w,v j w];rfl
  .rw[a j w,c j w];exact h.same j
 role:=λj r k=>by
  by_cases w:D j;.rw[B j w]at k;cases k
  .rw[a j w]at k;exact h.role j r k
 pair:=λj o b H=>by obtain⟨f,p,E⟩:=F j o b H;obtain⟨I,_,r,i,G,L⟩:=h.pair j o b p;exact⟨I,E,r,i,by rw[a j f];exact G,L⟩
 que:=λy K=>by obtain⟨f,p⟩:=C y K;exact(h.que y f).of (a _ p)
 tick:=λt x=>(h.tick t (z.subset x)).of (a _ (s t x))
 last0:=by rw[l];exact h.last0
 last1:=by rw[l];exact h.last1
 key:=λj w=>by
  by_cases e:D j;.rw[v j e]at w;cases w
  .rw[c j e]at w;rw[l];exact h.key j w
 sk:=λj w=>by
  rw[l];rcases J j w with f|f;.exact h.sk j f
  .exact h.key j f
 cred:=λj d e=>by
  by_cases w:D j;.rw[v j w]at e;cases e
  .rw[c j w]at e;exact h.cred j d e
 mov:=h.mov
def q241(h:(P.ends.map (·.1)).Nodup)(id:Int):((qxf P id).ends.map (·.1)).Nodup:=by
 unfold qxf;split;.exact qph (qph h _) _
 .exact h
def qr11(c:(P.ends.map (·.1)).Nodup)(id j:Int):qe (qxf P id).ends j=if j=id\/((qe P.ends id).isSome=A4/\j=qb4 P id)then Ab else qe P.ends j:=by
 unfold qxf;split
 .rename_i a;show qe (qp (qp P.ends id) (qb4 P id)) j=_;rw[qaa (qph c _),qaa c];by_cases b:j=qb4 P id;.rw[yB b.symm,yB (.inr ⟨a,b⟩)]
  .rw[yA (λe=>b e.symm)];by_cases w:j=id;.rw[yB w.symm,yB (.inl w)]
   .rw[yA (λe=>w e.symm),yA (by rintro(h|h);exact w h;exact b h.2)]
 .rename_i a;by_cases w:j=id
  .rw[yB (.inl w),w];simpa using a
  .rw[yA (by rintro(h|h);exact w h;exact a h.1)]
def Str.part{r:q31}(h:s.Str m)(i:qe s.roles id=A0 r)(D:r.kind=4):({ s.out id with P:=qxf s.P id}:Bk).Str m:=by
 have u:∀j,qcc s.roles j->j≠id:=λj ⟨q,a,z⟩ e=>by subst e;rw[i]at a;cases a;omega
 refine qr5.cut2 h (λj=>id=j) ((qph (qjt h.nN _ _) _)) (qph h.nR _) (q241 h.nP _) (q9o h.nS _ _ _ _) (qx11 s id) (λj w=>(q121 h id j).trans (yB w)) (λj w=>(q121 h id j).trans (yA w)) (λj w=>(qf11 h id j).trans (yB w)) (λj w=>(qf11 h id j).trans (yA w))
  (λj o b f=>?_) (λy k=>⟨k,λe=>u _ (h.que y k) e.symm⟩) (List.Sublist.refl _) (λt C e=>u _ (h.tick t C) e.symm) λj w=>?_
 .have f:qe (qxf s.P id).ends j=A0 (o,b):=f;rw[qr11 h.nP]at f;split at f;.cases f
  .rename_i p;have a:j≠id:=λe=>p (.inl e);obtain⟨z,g,_⟩:=h.pair j o b f;have d:∀x c,qe s.P.ends id=A0 (x,c)->qb4 s.P id=x:=λx c e=>by unfold qb4;rw[e];rfl
   refine⟨λe=>a e.symm,f,?_⟩;show qe (qxf s.P id).ends o=_;rw[qr11 h.nP,yA,g];rintro(e|⟨B,v⟩)
   .rw[e]at g;exact p (.inr ⟨by rw[g];rfl,(d _ _ g).symm⟩)
   .obtain⟨⟨x,c⟩,n⟩:=Ad.1 B;have A:=d _ _ n;obtain⟨_,l,_⟩:=h.pair id x c n;rw[<-A,<-v,g]at l;exact a (Prod.mk.inj (A6 l)).1
 .rcases qm51 id j w with a|a;.exact .inl a
  .subst a;rw[<-h.same,i];exact .inr rfl
def Less.part{r:q31}(h:s.Str m)(id:Int)(P:qd6):Less s { s.out id with P:=P}:=let k:=Less.out h id;⟨k.pumps,k.now,k.R,k.E,k.last⟩
def Less.give(s:Bk)(ten:ByteArray)(h:Int):Less s (s.give ten h):=(qt31 s ten h).less
def qi61(n:Nat)(h:s.Str m):(Bk.shutB (n+2) s id).Str m/\Less s (Bk.shutB (n+2) s id)/\qe (Bk.shutB (n+2) s id).roles id=Ab:=by
 cases a:qe s.roles id with
 |none=>
  have e:Bk.shutB (n+2) s id=s:=by unfold Bk.shutB;rw[a]
  rw[e];exact⟨h,Less.refl s,a⟩
 |some r=>
 have w:qe (s.out id).roles id=Ab:=by rw[qf11 h,yB rfl]
 by_cases G:r.kind=3
 .obtain⟨l,g,H⟩:=ql51 (n+1) h (.inr ⟨r,a,G⟩);exact⟨l,g.less,H⟩
 by_cases A:r.kind=4
 .have y:=Str.part h a A;have c:=Less.part (s:=s) (r:=r) h id (qxf s.P id);have step:∀(k:Nat),qe s.P.ends id=Ab->Bk.shutB (k+1) s id={ s.out id with P:=qxf s.P id}:=λk z=>by unfold Bk.shutB;rw[a];simp only;unfold Bk.after;rw[yA (by omega),yA (by omega),yB A];have:qe (s.out id).P.ends id=Ab:=z;rw[this];rfl
  by_cases z:qe s.P.ends id=Ab
  .rw[step _ z];exact⟨y,c,w⟩
  .obtain⟨⟨o,b⟩,x⟩:=Option.ne_none_iff_exists'.1 z;obtain⟨l,g,H⟩:=h.pair id o b x;have d:qb4 s.P id=o:=by unfold qb4;rw[x];rfl
   have e:Bk.shutB (n+2) s id=Bk.shutB (n+1) (Bk.give { s.out id with P:=qxf s.P id} r.ten 2) o:=by show Bk.shutB ((n+1)+1) s id=_;rw[Bk.shutB,a];simp only;unfold Bk.after;rw[yA (by omega),yA (by omega),yB A];have F:qe (s.out id).P.ends id=A0 (o,b):=x;have p:(s.out id).P=s.P:=rfl;rw[F,yB (show(A0 (o,b)).isSome=A4 from rfl),p,d]
   rw[e];obtain⟨u,j⟩:∃u,u=Bk.give { s.out id with P:=qxf s.P id} r.ten 2:=⟨_,rfl⟩;rw[<-j];have f:u.Str m:=by rw[j];exact y
   have E:Less s u:=by rw[j];exact c.trans (Less.give _ _ _)
   have C:qe u.roles id=Ab:=by rw[j];exact w
   obtain⟨q,i,K,v,_⟩:=h.pair o id (!b) g |>.2.2
   have t:qe u.roles o=A0 q:=by rw[j];show qe (s.out id).roles o=_;rw[qf11 h,yA (λe=>l e.symm)];exact K
   have D:qe u.P.ends o=Ab:=by rw[j];show qe (qxf s.P id).ends o=Ab;rw[qr11 h.nP,yB (.inr ⟨by rw[x];rfl,d.symm⟩)]
   have J:Bk.shutB (n+1) u o={ u.out o with P:=qxf u.P o}:=by rw[Bk.shutB,t];simp only;unfold Bk.after;rw[yA (by omega),yA (by omega),yB v];have:qe (u.out o).P.ends o=Ab:=D;rw[this];rfl
   rw[J];refine⟨Str.part f t v,E.trans (Less.part (r:=q) f o _),?_⟩;show qe (u.out o).roles id=Ab;rw[qf11 f];split;.rfl
   .exact C
 by_cases p:r.kind=2
 .have e:Bk.shutB (n+2) s id=Bk.leaveW (λs i=>Bk.shutB (n+1) s i) { s.out id with B:=(qe5 (s.out id).B id (s.out id).K.now).1} (qe5 (s.out id).B id (s.out id).K.now).2:=by show Bk.shutB ((n+1)+1) s id=_;rw[Bk.shutB,a];simp only;unfold Bk.after;rw[yB p]
  rw[e];have y:=Str.out h a (.inr p);have L:Bk.Str m { s.out id with B:=(qe5 (s.out id).B id (s.out id).K.now).1}:=y;obtain⟨l,g⟩:=q421 (qr41 n) (qe5 (s.out id).B id (s.out id).K.now).2 _ L;have c:=Less.out h id;have I:Less s { s.out id with B:=(qe5 (s.out id).B id (s.out id).K.now).1}:=⟨c.pumps,c.now,c.R,c.E,c.last⟩;refine⟨l,I.trans g.less,?_⟩;rcases g.R id with k|⟨k,_⟩;.rw[k];exact w
  .exact k
 .have F:r.kind=1:=by have:=(h.role id r a).kind;omega
  have e:Bk.shutB (n+2) s id=s.out id:=by show Bk.shutB ((n+1)+1) s id=_;rw[Bk.shutB,a];simp only;unfold Bk.after;rw[yA p,yA G,yA A]
  rw[e];exact⟨Str.out h a (.inl F),Less.out h id,w⟩
def qk11(h:s.Str m)(id:Int):(s.shut id).Str m/\Less s (s.shut id)/\qe (s.shut id).roles id=Ab:=by
 unfold Bk.shut;cases hl:s.roles with
 |nil=>
  have w:qe s.roles id=Ab:=by rw[hl];rfl
  have e:Bk.shutB (([]:List (Int×q31)).length+1) s id=s:=by unfold Bk.shutB;rw[w]
  rw[e];exact⟨h,Less.refl s,w⟩
 |cons x r=>exact qi61 r.length h
end
end
section
def qi8{α:Type}:∀{l:List α} {k:Nat},l.take k=[]->l.drop k=l
 |[],k,_=>by simp
 |a::r,0,_=>rfl
 |a::r,k+1,h=>by simp at h
structure RQ(s:Bk)(f t:q31)(i:Nat)(z:Ri.PS):Prop where
 pump:f.pump=A0 i
 at_:s.pumps[i]?=A0 z
 ok:qrr z
 inn:(s.N.ask f.conn [] λd=>d.inb.take (z.room 256 f.side))=[]
 zz:(((s.N.ask f.conn 0 (λd=>(d.inb.length:Int))==0)&&s.N.ask f.conn A3 λd=>d.ended)&&z.hears f.side)=A3
 out:z.outB t.side (s.N.ask t.conn 0 λd=>((1024 - d.out.length:Nat):Int))=[]
 en:z.outE t.side (s.N.ask t.conn 0 λd=>((1024 - d.out.length:Nat):Int))=A3
def qdg(w:Ri.Way)(m:Nat):w.add m []=w:=by unfold Ri.Way.add;simp
def qds(z:Ri.PS)(m:Nat)(n:Int):z.in_ m n []=z:=by
 unfold Ri.PS.in_;split
 .rw[qdg,qdg];split<;>rfl
 .rfl
def qig{w:Ri.Way}{k:Int}(b:qal w)(h:w.bs.take k.toNat=[])(a:w.end_ k=A3):w.out k=w:=by
 unfold Ri.Way.out;rw[h,a,qi8 h];have:Zw Zk (w.moved+((([]:List UInt8).length:Nat):Int))=w.moved:=by rw[List.length_nil];exact(by rw[show w.moved+((0:Nat):Int)=w.moved by omega];exact b)
 rw[this,Bool.or_false]
def q4q{z:Ri.PS}{n k:Int}(d:qrr z)(a:z.outB n k=[])(w:z.outE n k=A3):z.out n k=z:=by
 unfold Ri.PS.out;unfold Ri.PS.outB at a;unfold Ri.PS.outE at w;split
 .rename_i h;rw[yB h]at a;simp only[h,Ao]at w;have c:z.broken=A3:=by
   have:(!z.broken)=A4:=by rw[Bool.and_eq_true]at h;exact h.2
   simpa using this
  unfold Ri.PS.to at a w;split
  .rename_i b;rw[yB b]at a w;rw[qig d.2 a w,<-c]
  .rename_i b;rw[yA b]at a w;rw[qig d.1 a w,<-c]
 .rfl
def qwe{α:Type}:∀{l:List α} {i:Nat} {z:α},l[i]?=A0 z->l.set i z=l
 |[],i,z,h=>by simp at h
 |a::r,0,z,h=>by simp at h;subst h;rfl
 |a::r,i+1,z,h=>by
  have:r[i]?=A0 z:=by simpa using h
  rw[List.set_cons_succ,qwe this]
def qvv(d:Cn.CnD):Cn.gSay [] d=d:=by
 unfold Cn.gSay;split;.rw[List.append_nil]
 .rfl
def qyg(s:Bk)(id:Int){g:Cn.CnD->Cn.CnD}(h:∀d,qe s.N.L id=A0 d->g d=d):s.upd id g=s:=by unfold Bk.upd;rw[upd_id h]
def q54{N:Cn.CT}{id:Int}{α:Type}{z:α}{r:Cn.CnD->α}{d:Cn.CnD}(h:qe N.L id=A0 d):N.ask id z r=r d:=by unfold Cn.CT.ask;rw[h]
section
variable{c:qy}{s s':Bk}{f t t':q31}{i:Nat}{z:Ri.PS}{r:q31}{id:Int}{a:Bool}
def RQ.relay(h:RQ s f t i z):s.relay c f t=A0 (s,t,A3):=by
 unfold Bk.relay;rw[h.pump];dsimp only;rw[h.at_];dsimp only;rw[Aa,h.inn];unfold Bk.relayA;have w:s.upd f.conn (Cn.gRest ((z.room 256 f.side:Nat):Int))=s:=qyg s _ λd b=>by have:=h.inn;rw[q54 b]at this;unfold Cn.gRest;rw[Aa,qi8 this]
 rw[w,qds];unfold Bk.relayB Bk.relayC;rw[h.zz];have e:(if((s.N.ask f.conn 0 (λd=>(d.inb.length:Int))==0)&&s.N.ask f.conn A3 λd=>d.ended)=A4 then z.end_ f.side else z)=z:=by
  split
  .rename_i a;have:=h.zz;rw[a,Ao]at this;unfold Ri.PS.end_;rw[yA (by rw[this];simp)]
  .rfl
 rw[e];unfold Bk.relayD;rw[h.out,h.en,q4q h.ok h.out h.en];unfold Bk.relayE;rw[qyg s t.conn (λd _=>qvv d),qwe h.at_];simp
structure FQ(s:Bk)(r:q31):Prop where
 went:s.N.ask r.conn [] Cn.rFlush=[]
 en:(r.due&&(s.N.ask r.conn 0 (λd=>(d.out.length:Int))==0))=A3
def qbo{d:Cn.CnD}(e:0<=d.credit/\d.credit<=1073741824)(h:Cn.rFlush d=[]):Cn.gFlush d=d:=by have w:=(qub e).1;rw[h]at w;obtain⟨ad,g,c,f,en⟩:=d;have b:c.take f.toNat=[]:=h;have a:=qi8 b;unfold Cn.gFlush at w⊢;rw[h];rw[h]at w;simp only at w a⊢;rw[a,w];simp
def FQ.flush(h:FQ s r)(f:∀d,qe s.N.L r.conn=A0 d->0<=d.credit/\d.credit<=1073741824)(w:qe s.roles id=A0 r):s.flush id=A0 (s,A3):=by
 have b:s.upd r.conn Cn.gFlush=s:=qyg s _ λd a=>qbo (f d a) (by have:=h.went;rwa[q54 a]at this)
 have c:s.flushE r=A3:=by have:=h.en;unfold Bk.flushE;have e:s.N.upd r.conn Cn.gFlush=s.N:=yE Bk.N b;rw[e];exact this
 unfold Bk.flush;rw[w];simp only;rw[c,h.went];unfold Bk.flushS Bk.send;rw[b,h.went];unfold Bk.put Bk.flushR;rw[yA (by simp),qt1 w];rfl
end
end
def q0u(n:Int):Zw Zk (Zw Zk n)=Zw Zk n:=by
 have h: -9223372036854775808<=Zw Zk n/\Zw Zk n<=9223372036854775807:=by unfold Zw;simp only[IntKind.signed,IntKind.bits];simp;split<;>omega
 exact w64 h.1 h.2
section
section
variable{m:Int}{N:Cn.CT}{R:List (Int×q31)}{P:qd6}{ps:List Ri.PS}{Q:Qu.QG}{T:TkB}{S:List (Int×q81)}{id:Int}{s s':Bk}{c:qy}{f t t':q31}{z:Ri.PS}
def q161{w:Ri.Way}(h:qal w)(k:Nat)(xs:List UInt8):qal (w.add k xs):=by unfold Ri.Way.add;exact h
def qf51(w:Ri.Way)(k:Int):qal (w.out k):=by unfold Ri.Way.out qal;exact q0u _
def qv61(h:qrr z)(k:Nat)(n:Int)(xs:List UInt8):qrr (z.in_ k n xs):=by
 unfold Ri.PS.in_;split
 .split;.exact⟨q161 h.1 _ _,h.2⟩
  .exact⟨h.1,q161 h.2 _ _⟩
 .exact h
def qc71(h:qrr z)(n:Int):qrr (z.end_ n):=by
 unfold Ri.PS.end_;split
 .split;.exact⟨h.1,h.2⟩
  .exact⟨h.1,h.2⟩
 .exact h
def q871(h:qrr z)(n k:Int):qrr (z.out n k):=by
 unfold Ri.PS.out;split
 .split;.exact⟨h.1,qf51 _ _⟩
  .exact⟨qf51 _ _,h.2⟩
 .exact h
def qr5.pumps(h:qr5 m N R P ps Q T S){w:List Ri.PS}(c:w.length=ps.length)(d:∀z∈w,qrr z):qr5 m N R P w Q T S:=by
 have k:∀id o b,qe P.ends id=A0 (o,b)->o≠id/\qe P.ends o=A0 (id,!b)/\∃r i,qe R id=A0 r/\r.kind=4/\r.pump=A0 i/\i<w.length:=λid o b hb=>by obtain⟨l,a,r,i,e,j,f,g⟩:=h.pair id o b hb;exact⟨l,a,r,i,e,j,f,by rw[c];exact g⟩
 exact { h with mov:=d,pair:=k}
def qj51{i:Nat}{inn o:List UInt8}{ended en:Bool}(h:s.Str m)(a:qrr z):
 (Bk.relayE c s f t i inn o ended en z).1.Str m/\((Bk.relayE c s f t i inn o ended en z).1.roles=s.roles/\(Bk.relayE c s f t i inn o ended en z).1.P=s.P/\(Bk.relayE c s f t i inn o ended en z).1.B=s.B/\(Bk.relayE c s f t i inn o ended en z).1.Q=s.Q/\(Bk.relayE c s f t i inn o ended en z).1.K.now=s.K.now/\(Bk.relayE c s f t i inn o ended en z).1.pumps.length=s.pumps.length)/\(Bk.relayE c s f t i inn o ended en z).2.1={ t with due:=t.due||en}:=by
 unfold Bk.relayE;refine⟨qr5.pumps (qr5.tell h t.conn o) (As ..) λy w=>?_,⟨rfl,rfl,rfl,rfl,?_,As ..⟩,rfl⟩
 .rcases List.mem_or_eq_of_mem_set w with w|rfl;.exact h.mov y w
  .exact a
 .show(if decide ((inn.length:Int)+(o.length:Int)>0)=A4 then q5c s.K c.idle [f.conn,t.conn]else s.K).now=s.K.now;split;.exact qg11 _ _ _
  .rfl
def qd61{i:Nat}{inn o:List UInt8}{ended en a:Bool}(h:s.Str m)(w:qrr z)(b:Bk.relayE c s f t i inn o ended en z=(s',t',a)):
 s'.Str m/\(s'.roles=s.roles/\s'.P=s.P/\s'.B=s.B/\s'.Q=s.Q/\s'.K.now=s.K.now/\s'.pumps.length=s.pumps.length)/\t'={ t with due:=t.due||en}:=by
 have k:=qj51 (c:=c) (f:=f) (t:=t) (i:=i) (inn:=inn) (o:=o) (ended:=ended) (en:=en) h w;rw[b]at k;exact k
def qf41{a:Bool}(h:s.Str m)(w:s.relay c f t=A0 (s',t',a)):s'.Str m/\(s'.roles=s.roles/\s'.P=s.P/\s'.B=s.B/\s'.Q=s.Q/\s'.K.now=s.K.now/\s'.pumps.length=s.pumps.length)/\∃b,t'={ t with due:=b}:=by
 unfold Bk.relay at w;cases hp:f.pump with
 |none=>rw[hp]at w;cases w
 |some i=>
 rw[hp]at w;dsimp only at w;cases hz:s.pumps[i]? with
 |none=>rw[hz]at w;cases w
 |some z=>
 rw[hz]at w;dsimp only at w;have e:qrr z:=h.mov z (Ah hz);generalize s.N.ask f.conn [] (λd=>d.inb.take ((z.room 256 f.side:Nat):Int).toNat)=inn at w;have n:(s.upd f.conn (Cn.gRest ((z.room 256 f.side:Nat):Int))).Str m:=qr5.upd h f.conn λd j=>j;unfold Bk.relayA Bk.relayB Bk.relayC Bk.relayD at w;have w:=A6 w;generalize l:((s.upd f.conn (Cn.gRest ((z.room 256 f.side:Nat):Int))).N.ask f.conn 0 (λd=>(d.inb.length:Int))==0&&(s.upd f.conn (Cn.gRest ((z.room 256 f.side:Nat):Int))).N.ask f.conn A3 λd=>d.ended)=zz at w;have g:qrr (if zz=A4 then(z.in_ 256 f.side inn).end_ f.side else z.in_ 256 f.side inn):=by
  split;.exact qc71 (qv61 e _ _ _) _
  .exact qv61 e _ _ _
 have k:=qd61 n (q871 g _ _) w;exact⟨k.1,k.2.1,_,k.2.2⟩
def q341{i:Nat}(w:f.pump=A0 i)(h:i<s.pumps.length):∃s' t' a,s.relay c f t=A0 (s',t',a):=by unfold Bk.relay;rw[w];dsimp only;rw[A2 h];exact⟨_,_,_,rfl⟩
def Sim(R R':List (Int×q31)):Prop:=∀id,(qe R id=Ab->qe R' id=Ab)/\∀r,qe R id=A0 r->∃b d,qe R' id=A0 { r with due:=b,said:=d}
def Sim.refl(R:List (Int×q31)):Sim R R:=λid=>⟨λh=>h,λr h=>⟨r.due,r.said,h⟩⟩
def Sim.trans{A B C:List (Int×q31)}(h:Sim A B)(k:Sim B C):Sim A C:=λid=>⟨λe=>(k id).1 ((h id).1 e),λr e=>by obtain⟨b,d,w⟩:=(h id).2 r e;obtain⟨a,c,f⟩:=(k id).2 _ w;exact⟨a,c,f⟩⟩
def Sim.put{R:List (Int×q31)}{r:q31}(a:qe R id=A0 r)(b d:Bool):Sim R (qk R id { r with due:=b,said:=d}):=λj=>by
 rw[qh2];split
 .rename_i e;subst e;exact⟨λh=>(by rw[a]at h;cases h),λq w=>(by rw[a]at w;cases w;exact⟨b,d,rfl⟩)⟩
 .exact⟨λh=>h,λq w=>⟨q.due,q.said,w⟩⟩
structure Rnd(s s':Bk):Prop where
 P:s'.P=s.P
 B:s'.B=s.B
 Q:s'.Q=s.Q
 now:s'.K.now=s.K.now
 len:s'.pumps.length=s.pumps.length
 sim:Sim s.roles s'.roles
def Rnd.refl(s:Bk):Rnd s s:=⟨rfl,rfl,rfl,rfl,rfl,Sim.refl _⟩
def Rnd.trans{s t u:Bk}(h:Rnd s t)(k:Rnd t u):Rnd s u:=⟨k.P.trans h.P,k.B.trans h.B,k.Q.trans h.Q,k.now.trans h.now,k.len.trans h.len,h.sim.trans k.sim⟩
def qr51{v k:Int}{fl:Bool}{b:Bool}(h:s.Str m)(I:qe s.P.ends v=A0 (k,b)):∃s' u,Bk.relays c (s,fl) (v,k)=A0 (s',u)/\s'.Str m/\Rnd s s':=by
 obtain⟨z,F,rv,i,o,h4,N,Y⟩:=h.pair v k b I;obtain⟨_,_,n,j,p,h8,Z,q⟩:=h.pair k v (!b) F;unfold Bk.relays;rw[yA (λe=>z e.symm)];simp only;rw[o,p];simp only;obtain⟨W,g,a1,B⟩:=q341 (c:=c) (s:=s) (f:=rv) (t:=n) N Y;rw[B];obtain⟨E,⟨R,K,M,O,g6,A⟩,C,a⟩:=qf41 h B;simp only;have x:g.pump=A0 j:=by rw[a];exact Z
 obtain⟨l,G,a2,D⟩:=q341 (c:=c) (s:=W) (f:=g) (t:=rv) x (by rw[A];exact q);rw[D];obtain⟨U,⟨H,L,Q,V,T,P⟩,J,d⟩:=qf41 E D;simp only;have w:l.roles=s.roles:=H.trans R;have hs:Sim s.roles (qk (qk l.roles k g) v G):=by
  rw[w,a,d];have y:=Sim.put p C n.said;have X:qe (qk s.roles k { n with due:=C}) v=A0 rv:=by rw[qh2,yA z];exact o
  exact y.trans (Sim.put X J rv.said)
 refine⟨_,_,rfl,?_,⟨L.trans K,Q.trans M,V.trans O,T.trans g6,P.trans A,hs⟩⟩;have y:((l.put k g)).Str m:=qr5.put U (r:=n) (by rw[w];exact p) (by rw[a]) (by rw[a]) (by rw[a]) (by rw[a]);exact qr5.put y (r:=rv) (by show qe (qk l.roles k g) v=_;rw[qh2,yA z,w];exact o) (by rw[d]) (by rw[d]) (by rw[d]) (by rw[d])
end
end
def qme{α σ:Type}(f:σ->α->Option σ)(s:σ)(a:α)(l:List α):qw1 f s (a::l)=match f s a with|none=>Ab|some s=>qw1 f s l:=rfl
section
section
variable{m:Int}{s s':Bk}{c:qy}{id:Int}
def ql41(h:s.Str m)(hid:(qe s.N.L id).isSome=A4):∃s' a,s.flush id=A0 (s',a)/\s'.Str m/\Rnd s s'/\∀j,(qe s'.N.L j).isSome=(qe s.N.L j).isSome:=by
 have f:(qe s.roles id).isSome=A4:=by rw[h.same];exact hid
 obtain⟨r,w⟩:=Ad.1 f;have k:=(h.role id r w).conn;unfold Bk.flush;rw[w];simp only;have l:(s.upd r.conn Cn.gFlush).Str m:=qr5.flush h r.conn;have g:∀j,(qe (s.N.upd r.conn Cn.gFlush).L j).isSome=(qe s.N.L j).isSome:=λj=>by
  rw[ql3];split;.rw[Aq]
  .rfl
 have i:(s.flushS r (s.flushE r)).Str m:=qr5.send l (id:=r.conn) (by show(qe (s.N.upd r.conn Cn.gFlush).L r.conn).isSome=A4;rw[g,k];exact hid) _ _ _;have c:∃b d,Bk.flushR r (s.flushE r)={ r with due:=b,said:=d}:=by
  unfold Bk.flushR;split;.exact⟨_,_,rfl⟩
  .exact⟨r.due,r.said,rfl⟩
 obtain⟨b,d,c⟩:=c;refine⟨_,_,rfl,?_,⟨rfl,rfl,rfl,rfl,rfl,?_⟩,g⟩;.exact qr5.put i (r:=r) w (by show(Bk.flushR r _).conn=_;unfold Bk.flushR;split<;>rfl) (by show(Bk.flushR r _).kind=_;unfold Bk.flushR;split<;>rfl) (by show(Bk.flushR r _).sh.isSome=_;unfold Bk.flushR;split<;>rfl) (by show(Bk.flushR r _).pump=_;unfold Bk.flushR;split<;>rfl)
 .show Sim s.roles (qk s.roles id (Bk.flushR r (s.flushE r)));have e:Bk.flushR r (s.flushE r)={ r with due:=b,said:=d}:=c;rw[e];exact Sim.put w b d
def qp31:∀(l:List Int) (s:Bk) (fl:Bool),s.Str m->(∀id∈l,(qe s.N.L id).isSome=A4)->∃s' w,qw1 Bk.flushes (s,fl) l=A0 (s',w)/\s'.Str m/\Rnd s s'/\∀j,(qe s'.N.L j).isSome=(qe s.N.L j).isSome
 |[],s,fl,h,_=>⟨s,fl,rfl,h,Rnd.refl s,λ_=>rfl⟩
 |a::r,s,fl,h,b=>by
  obtain⟨c,d,o,t,k,e⟩:=ql41 h (b a A5);obtain⟨f,q,g,i,n,p⟩:=qp31 r c (d||fl) t λid hid=>by rw[e];exact b id (A7 _ hid)
  refine⟨f,q,?_,i,k.trans n,λj=>(p j).trans (e j)⟩;have:Bk.flushes (s,fl) a=A0 (c,d||fl):=by unfold Bk.flushes;rw[o]
  rw[qme,this];exact g
def qe21:∀(l:List (Int×Int)) (s:Bk) (fl:Bool),s.Str m->(∀p∈l,∃b,qe s.P.ends p.1=A0 (p.2,b))->∃s' w,qw1 (Bk.relays c) (s,fl) l=A0 (s',w)/\s'.Str m/\Rnd s s'
 |[],s,fl,h,_=>⟨s,fl,rfl,h,Rnd.refl s⟩
 |a::r,s,fl,h,e=>by
  obtain⟨b,q⟩:=e a A5;obtain⟨f,g,o,v,d⟩:=qr51 (c:=c) (fl:=fl) h q;obtain⟨i,u,j,k,n⟩:=qe21 r f g v λp t=>by rw[d.P];exact e p (A7 _ t)
  refine⟨i,u,?_,k,d.trans n⟩;have:Bk.relays c (s,fl) a=A0 (f,g):=o;rw[qme,this];exact j
def qz11(h:s.Str m):∀p∈qtc s.P,∃b,qe s.P.ends p.1=A0 (p.2,b):=λp c=>by obtain⟨v,a,rfl⟩:=Af.1 c;obtain⟨x,w,rfl⟩:=Af.1 ((qv1 leI _).mem_iff.1 a);have w:=(Ai.1 w).1;have e:=q24 h.nP w;exact⟨x.2.2,by rw[e];unfold qb4;rw[e];rfl⟩
end
end
section
section
variable{m:Int}{s s':Bk}{c:qy}{id:Int}
def qx31{α:Type}{L:List (Int×α)}(w:(L.map (·.1)).Nodup)(a:∀id,(qe L id).isSome=A4->1<=id/\id<=1000000):L.length<=1000000:=by have:=q811 1000000 (L.map (·.1)) w λx h=>a x (q201.2 h);rwa[List.length_map]at this
def Str.lenN(h:s.Str m)(w:m<=1000000):s.N.L.length<=1000000:=qx31 h.nN λid hid=>by have b:=h.key id hid;have a:=h.last1;omega
def Str.lenS(h:s.Str m)(w:m<=1000000):s.S.length<=1000000:=qx31 h.nS λid hid=>by have b:=h.sk id hid;have a:=h.last1;omega
def Str.lenP(h:s.Str m)(d:m<=1000000):s.P.ends.length<=1000000:=qx31 h.nP λid hid=>by obtain⟨⟨o,b⟩,w⟩:=Ad.1 hid;obtain⟨_,_,r,i,a,_⟩:=h.pair id o b w;have e:=h.key id (by rw[<-h.same,a];rfl);have c:=h.last1;omega
def qi41(h:s.Str m)(f:m<=1000000):∃w b a d,qw1 (Bk.relays c) (s,A3) (qtc s.P)=A0 (w,b)/\¬1000000<w.N.L.length/\qw1 Bk.flushes (w,b) w.ids=A0 (a,d)/\a.Str m/\Rnd s a/\s.round c=qw1 Bk.ends (a,d) (qtc s.P):=by obtain⟨w,b,g,i,k⟩:=qe21 (c:=c) (qtc s.P) s A3 h (qz11 h);have n:=Str.lenN i f;obtain⟨a,d,e,j,l,_⟩:=qp31 w.ids w b i λid hid=>q201.2 ((qv1 leI _).mem_iff.1 hid);refine⟨w,b,a,d,g,by omega,e,j,k.trans l,?_⟩;unfold Bk.round;rw[yA (by have:=Str.lenP h f;omega),g];simp only;rw[yA (by omega),e]
end
end
section
section
variable{m:Int}{s s':Bk}{c:qy}{id o:Int}{b:Bool}{r:q31}
def qs11(n:Nat)(h:s.Str m)(c:qe s.P.ends id=A0 (o,b))(l:qe s.roles id=A0 r):
 Bk.shutB (n+2) s id={(Bk.give { s.out id with P:=qxf s.P id} r.ten 2).out o with P:=qxf (qxf s.P id) o}:=by
 obtain⟨t,x,A,i0,a,j,_⟩:=h.pair id o b c;rw[l]at a;cases a;have w:qb4 s.P id=o:=by unfold qb4;rw[c];rfl
 have e:Bk.shutB (n+2) s id=Bk.shutB (n+1) (Bk.give { s.out id with P:=qxf s.P id} r.ten 2) o:=by show Bk.shutB ((n+1)+1) s id=_;rw[Bk.shutB,l];simp only;unfold Bk.after;rw[yA (by omega),yA (by omega),yB j];have z:qe (s.out id).P.ends id=A0 (o,b):=c;have v:(s.out id).P=s.P:=rfl;rw[z,yB (show(A0 (o,b)).isSome=A4 from rfl),v,w]
 rw[e];obtain⟨q,i,y,g,_⟩:=h.pair o id (!b) x |>.2.2
 obtain⟨u,d⟩:∃u,u=Bk.give { s.out id with P:=qxf s.P id} r.ten 2:=⟨_,rfl⟩;have k:qe u.roles o=A0 q:=by rw[d];show qe (s.out id).roles o=_;rw[qf11 h,yA (λe=>t e.symm)];exact y
 have p:u.P=qxf s.P id:=by rw[d];rfl
 have f:qe u.P.ends o=Ab:=by rw[p,qr11 h.nP,yB (.inr ⟨by rw[c];rfl,w.symm⟩)]
 rw[<-d,Bk.shutB,k];simp only;unfold Bk.after;rw[yA (by omega),yA (by omega),yB g];have:qe (u.out o).P.ends o=Ab:=f;rw[this,<-p];rfl
def qn31(h:s.Str m)(c:qe s.P.ends id=A0 (o,b)):(s.shut id).B=s.B/\(s.shut id).Q=s.Q/\∀j,j≠id->j≠o->qe (s.shut id).P.ends j=qe s.P.ends j/\qe (s.shut id).roles j=qe s.roles j:=by
 obtain⟨z,A,r,i0,d,i,_⟩:=h.pair id o b c;have w:qb4 s.P id=o:=by unfold qb4;rw[c];rfl
 have q:∃n,s.roles.length+1=n+2:=by
  cases hs:s.roles with
  |nil=>rw[hs]at d;cases d
  |cons x y=>exact⟨y.length,rfl⟩
 obtain⟨n,v⟩:=q;have e:s.shut id={(Bk.give { s.out id with P:=qxf s.P id} r.ten 2).out o with P:=qxf (qxf s.P id) o}:=by rw[<-qs11 n h c d,<-v];rfl
 have t:=Str.part h d i;obtain⟨u,a⟩:∃u,u=Bk.give { s.out id with P:=qxf s.P id} r.ten 2:=⟨_,rfl⟩;have f:u.Str m:=by rw[a];exact t
 rw[<-a]at e;rw[e];refine⟨by rw[a];rfl,by rw[a];rfl,λj p g=>⟨?_,?_⟩⟩
 .show qe (qxf (qxf s.P id) o).ends j=_;have l:=q241 h.nP id;rw[qr11 l,yA,qr11 h.nP,yA]
  .rintro(k|⟨_,k⟩);.exact p k
   .exact g (k.trans w)
  .rintro(k|⟨k,_⟩);.exact g k
   .rw[qr11 h.nP,yB (.inr ⟨by rw[c];rfl,w.symm⟩)]at k;cases k
 .show qe (u.out o).roles j=_;rw[qf11 f,yA (λk=>g k.symm),a];show qe (s.out id).roles j=_;rw[qf11 h,yA (λk=>p k.symm)]
def qo51(p q:Int×Int):Prop:=q.1≠p.1/\q.1≠p.2/\q.2≠p.1/\q.2≠p.2
def qj41:∀(l:List (Int×Int)) (s:Bk) (fl:Bool),s.Str m->(∀p∈l,∃b,qe s.P.ends p.1=A0 (p.2,b))->l.Pairwise qo51->∃s' u,qw1 Bk.ends (s,fl) l=A0 (s',u)/\s'.Str m/\s'.B=s.B/\s'.Q=s.Q/\Less s s'
 |[],s,fl,h,_,_=>⟨s,fl,rfl,h,rfl,rfl,Less.refl s⟩
 |a::r,s,fl,h,v,c=>by
  obtain⟨d,q⟩:=List.pairwise_cons.1 c;obtain⟨b,x⟩:=v a A5;obtain⟨J,y,rv,i,A,_⟩:=h.pair a.1 a.2 b x;obtain⟨_,_,K,j,F,_⟩:=h.pair a.2 a.1 (!b) y;have step:∃w g,Bk.ends (s,fl) a=A0 (w,g)/\w.Str m/\w.B=s.B/\w.Q=s.Q/\Less s w/\∀p∈r,qe w.P.ends p.1=qe s.P.ends p.1:=by
   unfold Bk.ends;rw[yA (λe=>J e.symm)];simp only;rw[A];simp only;split;.exact⟨s,fl,rfl,h,rfl,rfl,Less.refl s,λ_ _=>rfl⟩
   .rw[F];simp only;split
    .obtain⟨f,t,_⟩:=qk11 h a.1;obtain⟨k,n,o⟩:=qn31 h x;exact⟨_,_,rfl,f,k,n,t,λp c=>(o p.1 (d p c).1 (d p c).2.1).1⟩
    .exact⟨s,fl,rfl,h,rfl,rfl,Less.refl s,λ_ _=>rfl⟩
  obtain⟨w,g,C,f,t,k,n,o⟩:=step;obtain⟨D,I,G,H,B,z,E⟩:=qj41 r w g f (λp c=>by rw[o p c];exact v p (A7 _ c)) q;exact⟨D,I,by rw[qme,C];exact G,H,B.trans t,z.trans k,n.trans E⟩
def q941(h:s.Str m):(qtc s.P).Pairwise qo51:=by
 have b:(qw4 s.P).Nodup:=(qv1 leI _).nodup_iff.2 ((List.filter_sublist.map _).nodup h.nP);have j:∀v∈qw4 s.P,∃k,qe s.P.ends v=A0 (k,A4)/\qb4 s.P v=k/\qe s.P.ends k=A0 (v,A3):=λv b=>by obtain⟨x,d,rfl⟩:=Af.1 ((qv1 leI _).mem_iff.1 b);obtain⟨d,o⟩:=Ai.1 d;have e:=q24 h.nP d;obtain⟨u,n,y⟩:=x;simp only at o e⊢;subst o;obtain⟨_,g,_⟩:=h.pair u n A4 e;exact⟨n,e,by unfold qb4;rw[e];rfl,g⟩
 unfold qtc;rw[List.pairwise_map];refine List.Pairwise.imp_of_mem ?_ b;intro v w b p a;obtain⟨k,t,q,f⟩:=j v b;obtain⟨l,i,r,c⟩:=j w p;show w≠v/\w≠qb4 s.P v/\qb4 s.P w≠v/\qb4 s.P w≠qb4 s.P v;rw[q,r];refine⟨λe=>a e.symm,λe=>?_,λe=>?_,λe=>?_⟩;.rw[e,f]at i;cases i
 .rw[e,t]at c;cases c
 .rw[e,f]at c;cases c;exact a rfl
end
end
section
section
variable{m:Int}{s s':Bk}{c:qy}{f t t':q31}{id:Int}
def qs31(p:∀z∈s.pumps,qrr z)(h:s.relay c f t=A0 (s',t',A3)):s'=s/\t'=t/\∃i z,RQ s f t i z:=by
 have k:=h;unfold Bk.relay at h;cases n:f.pump with
 |none=>rw[n]at h;cases h
 |some i=>
 rw[n]at h;dsimp only at h;cases g:s.pumps[i]? with
 |none=>rw[g]at h;cases h
 |some z=>
 rw[g]at h;dsimp only at h;generalize w:s.N.ask f.conn [] (λd=>d.inb.take ((z.room 256 f.side:Nat):Int).toNat)=inn at h;have key:(Bk.relayA c s f t i z inn).2.2=A3:=by rw[A6 h]
 unfold Bk.relayA Bk.relayB Bk.relayC Bk.relayD Bk.relayE at key;simp only[Ac,decide_eq_false_iff_not]at key;obtain⟨m,b,e⟩:=key;have r:inn=[]:=by apply A8;omega
 subst r;have a:(s.N.ask f.conn [] λd=>d.inb.take (z.room 256 f.side))=[]:=by rw[Aa]at w;exact w
 have v:s.upd f.conn (Cn.gRest ((z.room 256 f.side:Nat):Int))=s:=qyg s _ λd u=>by rw[q54 u]at a;unfold Cn.gRest;rw[Aa,qi8 a]
 rw[v,qds]at m b e;generalize j:(s.N.ask f.conn 0 (λd=>(d.inb.length:Int))==0&&s.N.ask f.conn A3 λd=>d.ended)=zz at m b e;have o:(if zz=A4 then z.end_ f.side else z)=z:=by
  split
  .rename_i l;rw[l,Ao]at b;unfold Ri.PS.end_;rw[yA (by rw[b];simp)]
  .rfl
 rw[o]at m e;have q:RQ s f t i z:=⟨n,g,p z (Ah g),a,by rw[j];exact b,by apply A8;omega,e⟩
 have:=q.relay (c:=c);rw[k]at this;cases this;exact⟨rfl,rfl,i,z,q⟩
def q551(g:∀d,qe s.N.L id=A0 d->0<=d.credit/\d.credit<=1073741824)(b:∀r,qe s.roles id=A0 r->r.conn=id)(h:s.flush id=A0 (s',A3)):s'=s/\∃r,qe s.roles id=A0 r/\FQ s r:=by
 have c:=h;unfold Bk.flush at h;cases hg:qe s.roles id with
 |none=>rw[hg]at h;cases h
 |some r=>
 rw[hg]at h;simp only at h;have key:=yE Prod.snd (A6 h);simp only[Ac,decide_eq_false_iff_not]at key;obtain⟨k,e⟩:=key;have w:=b r hg;have f:s.N.ask r.conn [] Cn.rFlush=[]:=by apply A8;omega
 have j:s.upd r.conn Cn.gFlush=s:=qyg s _ λd a=>qbo (g d (by rw[<-w];exact a)) (by rwa[q54 a]at f);have q:FQ s r:=⟨f,by unfold Bk.flushE at e;have i:s.N.upd r.conn Cn.gFlush=s.N:=yE Bk.N j;rw[i]at e;exact e⟩
 have:=q.flush (λd a=>g d (by rw[<-w];exact a)) hg;rw[c]at this;cases this;exact⟨rfl,r,rfl,q⟩
def q251{fl:Bool}{p:Int×Int}(d:∀z∈s.pumps,qrr z)(h:Bk.relays c (s,fl) p=A0 (s',A3)):fl=A3/\s'=s/\∃rv w,qe s.roles p.1=A0 rv/\qe s.roles p.2=A0 w/\(∃i z,RQ s rv w i z)/\∃i z,RQ s w rv i z:=by
 unfold Bk.relays at h;split at h;.cases h
 simp only at h;cases h1:qe s.roles p.1 with
 |none=>rw[h1]at h;cases h
 |some rv=>
 cases a:qe s.roles p.2 with
 |none=>rw[h1,a]at h;cases h
 |some w=>
 rw[h1,a]at h;simp only at h;cases e1:s.relay c rv w with
 |none=>rw[e1]at h;cases h
 |some x=>
 obtain⟨n,q,y⟩:=x;rw[e1]at h;simp only at h;cases e2:n.relay c q rv with
 |none=>rw[e2]at h;cases h
 |some x=>
 obtain⟨v,u,a2⟩:=x;rw[e2]at h;simp only at h;have h:=A6 h;have b:=yE Prod.snd h;have e:=yE Prod.fst h;simp only[Ac]at b e;obtain⟨t,g,o⟩:=b;subst t g;obtain⟨f,m,j⟩:=qs31 d e1;subst f m;obtain⟨k,l,r⟩:=qs31 d e2;subst k l;refine⟨o,?_,_,_,rfl,rfl,j,r⟩;rw[<-e];simp only[Bk.put];rw[qt1 a,qt1 h1]
def qh31:∀(l:List (Int×Int)) {fl:Bool},(∀z∈s.pumps,qrr z)->qw1 (Bk.relays c) (s,fl) l=A0 (s',A3)->fl=A3/\s'=s/\∀p∈l,∃rv g,qe s.roles p.1=A0 rv/\qe s.roles p.2=A0 g/\(∃i z,RQ s rv g i z)/\∃i z,RQ s g rv i z
 |[],fl,f,h=>by cases h;exact⟨rfl,rfl,λp w=>by cases w⟩
 |a::r,fl,f,h=>by
  rw[qme]at h;cases e:Bk.relays c (s,fl) a with
  |none=>rw[e]at h;cases h
  |some x=>
  obtain⟨m,t⟩:=x;rw[e]at h;simp only at h;cases t with
  |true=>
   exfalso;clear e;have key:∀(l:List (Int×Int)) (u:Bk),qw1 (Bk.relays c) (u,A4) l≠A0 (s',A3):=by
    intro l;induction l with
    |nil=>intro u h;cases h
    |cons b q ih=>
     intro u h;rw[qme]at h;cases e:Bk.relays c (u,A4) b with
     |none=>rw[e]at h;cases h
     |some y=>
     obtain⟨u1,d⟩:=y;rw[e]at h;simp only at h;have:d=A4:=by
      unfold Bk.relays at e;split at e;.cases e
      split at e
      .split at e;.cases e
       .split at e;.cases e
        .cases e;simp
      .cases e
     subst this;exact ih u1 h
   exact key r m h
  |false=>obtain⟨d,n,k⟩:=q251 f e;rw[n]at h;obtain⟨_,o,j⟩:=qh31 r f h;exact⟨d,o,λp w=>(Ag.1 w).elim (λe=>by rw[e];exact k) λw=>j p w⟩
def qg31:∀(l:List Int) (u:Bk),qw1 Bk.flushes (u,A4) l≠A0 (s',A3)
 |[],u,h=>by cases h
 |a::r,u,h=>by
  rw[qme]at h;unfold Bk.flushes at h;cases e:u.flush a with
  |none=>simp only[e]at h;cases h
  |some y=>obtain⟨u1,x⟩:=y;simp only[e,Bool.or_true]at h;exact qg31 r u1 h
def qr21:∀(l:List Int) {fl:Bool},(∀id d,qe s.N.L id=A0 d->0<=d.credit/\d.credit<=1073741824)->(∀id r,qe s.roles id=A0 r->r.conn=id)->qw1 Bk.flushes (s,fl) l=A0 (s',A3)->fl=A3/\s'=s/\∀id∈l,∃r,qe s.roles id=A0 r/\FQ s r
 |[],fl,f,b,h=>by cases h;exact⟨rfl,rfl,λp w=>by cases w⟩
 |a::r,fl,f,b,h=>by
  rw[qme]at h;cases e:Bk.flushes (s,fl) a with
  |none=>rw[e]at h;cases h
  |some x=>
  obtain⟨j,t⟩:=x;rw[e]at h;simp only at h;cases t with
  |true=>exact yI h (qg31 r j)
  |false=>
   unfold Bk.flushes at e;cases e2:s.flush a with
   |none=>simp only[e2]at e;cases e
   |some y=>
   obtain⟨u1,x⟩:=y;simp only[e2]at e;have c:=yE Prod.snd (A6 e);have es:=yE Prod.fst (A6 e);simp only[Ac]at c es;rw[c.1]at e2;obtain⟨g,k⟩:=q551 (λd m=>f a d m) (λq o=>b a q o) e2;rw[<-es,g]at h;obtain⟨_,n,i⟩:=qr21 r f b h;exact⟨c.2,n,λp w=>(Ag.1 w).elim (λe=>by rw[e];exact k) λw=>i p w⟩
def q351{fl:Bool}{p:Int×Int}{u:Bk}{x:Bk×Bool}(h:Bk.ends (u,fl) p=A0 x):x.2=A4\/(x=(u,fl)/\∃rv,qe u.roles p.1=A0 rv/\(rv.said=A3\/∃w,qe u.roles p.2=A0 w/\w.said=A3)):=by
 unfold Bk.ends at h;split at h;.cases h
 simp only at h;cases h1:qe u.roles p.1 with
 |none=>rw[h1]at h;cases h
 |some rv=>
 rw[h1]at h;simp only at h;split at h
 .rename_i a;cases h;exact .inr ⟨rfl,rv,rfl,.inl a⟩
 .cases h2:qe u.roles p.2 with
  |none=>rw[h2]at h;cases h
  |some w=>
  rw[h2]at h;simp only at h;split at h;.cases h;exact .inl rfl
  .rename_i a;cases h;exact .inr ⟨rfl,rv,rfl,.inr ⟨w,rfl,by simpa using a⟩⟩
def qk41:∀(l:List (Int×Int)) (u:Bk),qw1 Bk.ends (u,A4) l≠A0 (s',A3)
 |[],u,h=>by cases h
 |a::r,u,h=>by
  rw[qme]at h;cases e:Bk.ends (u,A4) a with
  |none=>rw[e]at h;cases h
  |some x=>
  rw[e]at h;simp only at h;have w:x=(x.1,A4):=by
   rcases q351 e with k|⟨k,_⟩;.rw[<-k]
   .rw[k]
  rw[w]at h;exact qk41 r _ h
def q441:∀(l:List (Int×Int)) {fl:Bool},qw1 Bk.ends (s,fl) l=A0 (s',A3)->fl=A3/\s'=s/\∀p∈l,∃rv,qe s.roles p.1=A0 rv/\(rv.said=A3\/∃b,qe s.roles p.2=A0 b/\b.said=A3)
 |[],fl,h=>by cases h;exact⟨rfl,rfl,λp w=>by cases w⟩
 |a::r,fl,h=>by
  rw[qme]at h;cases e:Bk.ends (s,fl) a with
  |none=>rw[e]at h;cases h
  |some x=>
  rw[e]at h;simp only at h;rcases q351 e with k|⟨k,i⟩
  .have g:x=(x.1,A4):=by rw[<-k]
   rw[g]at h;exact yI h (qk41 r _)
  .rw[k]at h;obtain⟨c,f,d⟩:=q441 r h;exact⟨c,f,λp w=>(Ag.1 w).elim (λe=>by rw[e];exact i) λw=>d p w⟩
structure qj11(s:Bk):Prop where
 rel:∀p∈qtc s.P,∃rv rk,qe s.roles p.1=A0 rv/\qe s.roles p.2=A0 rk/\(∃i z,RQ s rv rk i z)/\∃i z,RQ s rk rv i z
 flu:∀id∈s.ids,∃r,qe s.roles id=A0 r/\FQ s r
 end_:∀p∈qtc s.P,∃rv,qe s.roles p.1=A0 rv/\(rv.said=A3\/∃rk,qe s.roles p.2=A0 rk/\rk.said=A3)
def qq31(h:s.Str m)(w:s.round c=A0 (s',A3)):s'=s/\qj11 s:=by
 unfold Bk.round at w;split at w;.cases w
 cases e1:qw1 (Bk.relays c) (s,A3) (qtc s.P)with
 |none=>rw[e1]at w;cases w
 |some x=>
 obtain⟨b,p⟩:=x;rw[e1]at w;simp only at w;split at w;.cases w
 cases e2:qw1 Bk.flushes (b,p) b.ids with
 |none=>rw[e2]at w;cases w
 |some x=>
 obtain⟨t,v⟩:=x;rw[e2]at w;simp only at w;obtain⟨j,f,e⟩:=q441 _ w;subst j;obtain⟨o,l,i,a,u⟩:=qe21 (c:=c) (qtc s.P) s A3 h (qz11 h);rw[e1]at i;cases i;obtain⟨q,g,d⟩:=qr21 b.ids a.cred (λid r w=>(a.role id r w).conn) e2;subst q;obtain⟨_,k,n⟩:=qh31 _ h.mov e1;rw[k]at g d;rw[g]at f e;exact⟨f,n,d,e⟩
end
end
section
open Classical in
def qj31(so:LeD->Bool)(df:LeD->LeD):∀(l:List ByteArray) (s:LeL×List LeD) (k:ByteArray),l.Nodup->qe (l.foldl (q64 so df) s).1 k=if k∈l then(qe s.1 k).map (λd=>if so d=A4 then df d else d)else qe s.1 k
 |[],s,k,_=>by simp
 |a::r,s,k,g=>by
  obtain⟨b,f⟩:=List.nodup_cons.1 g;rw[Ak,qj31 so df r _ k f];have step:qe (q64 so df s a).1 k=if k=a then(qe s.1 k).map (λd=>if so d=A4 then df d else d)else qe s.1 k:=by
   unfold q64;by_cases e:k=a
   .subst e;rw[yB rfl];cases h:qe s.1 k with
    |none=>simp only[h,Option.map_none]
    |some d=>
     simp only[Option.map_some];split;.rw[qh2,yB rfl]
     .exact h
   .rw[yA e];cases h:qe s.1 a with
    |none=>rfl
    |some d=>
     simp only;split;.rw[qh2,yA (λc=>e c.symm)]
     .rfl
  rw[step];by_cases e:k=a
  .subst e;rw[yA b,yB rfl,yB A5]
  .rw[yA e];by_cases w:k∈r;.rw[yB w,yB (A7 _ w)]
   .rw[yA w,yA (λh=>(Ag.1 h).elim e w)]
open Classical in
def qb61(so:LeD->Bool)(df:LeD->LeD){L:LeL}(w:(L.map (·.1)).Nodup)(k:ByteArray):qe (qk4 so df L).1 k=(qe L k).map λd=>if so d=A4 then df d else d:=by
 unfold qk4;rw[qj31 so df _ _ k ((qv1 leS _).nodup_iff.2 w)];split;.rfl
 .rename_i h;have:qe L k=Ab:=by
   cases e:qe L k with
   |none=>rfl
   |some d=>exact yI ((qv1 leS _).mem_iff.2 (Af.2 ⟨_,qg3 e,rfl⟩)) h
  rw[this];rfl
end
end Go.Proofs.YtfjifcfbmhpcaaaGreatDoor
