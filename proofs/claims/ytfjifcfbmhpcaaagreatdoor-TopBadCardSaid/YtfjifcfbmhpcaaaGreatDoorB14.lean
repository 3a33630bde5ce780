/-
  A part of the proof of TopBad.
-/
import Derived.Test.YtfjifcfbmhpcaaaGreatDoorB13
import Derived.Test.YtfjifcfbmhpcaaaGreatDoorB08
import Derived.Test.YtfjifcfbmhpcaaaGreatDoorB12
import Derived.Lib.LaidTab
import Derived.LaidSub
import Derived.LaidMore
import Derived.LaidLaws
import Derived.Lay
import Derived.MakeChecks
import Derived.Test.YtfjifcfbmhpcaaaGreatDoorB00
set_option linter.all false
namespace Go.Proofs.YtfjifcfbmhpcaaaGreatDoor
open Go
open Go.Proofs.Tryz renaming prog → Zp
open Go.IntKind renaming i64 → Zk, wrap → Zw
open Go.Value renaming int → Zi, string → Zs, bool → Zb, slice → Zl, agg → Zg
open _root_.Option renaming some->A0,isSome_iff_exists->A6,map_eq_some_iff->A9,none->Ab,isSome_map->Bl
open _root_.List renaming mem_cons_of_mem->A1,mem_cons_self->A3,getElem?_eq_getElem->A5,mem_map->Af,foldl_cons->Ag,mem_of_getElem?->Ah,mem_cons->Aj,length_take->Ak,nodup_nil->Am,eq_nil_of_length_eq_zero->An,mem_filter->Ao,map_cons->Ap,length_cons->Au,sum_cons->Av,nodup_cons->Ax,pairwise_cons->Ay,length_append->Az,getElem?_map->B1,eraseIdx_sublist->B2,length_drop->B3,length_map->B5,mem_append->B6,length_erase_of_mem->B7,any_eq_true->Ba,length_pos_of_mem->Bd,take_of_length_le->Be,length_nil->Bf,filter_sublist->Bh,set_cons_succ->Bj,getElem?_set->Bm,any_eq_false->Bn,take_add_one->Bo,length_set->Br
open _root_.Bool renaming false->A2,true->A4,and_eq_true->Aa,or_eq_false_iff->As,true_and->B4,or_assoc->Bi,false_and->Bu,or_false->Bv
open Go.DataW renaming trod->A7,trod_struct->Aq,Trod->Bz
open _root_.Option.some renaming injEq->A8,inj->Ac
open _root_.Prod.mk renaming injEq->Ad
open _root_.Nat renaming zero_le->Ae,le_refl->Ai,le_trans->Bb,le_max_right->Bp,le_max_left->Bs
open _root_.Int renaming toNat_natCast->Ar,le_refl->Bq
open _root_.List.cons renaming injEq->Aw
open Go.Result renaming andThen_ok->B0
open Go renaming World->B9,MemPlace->Bg,Value->Bt,DataW->Bw
open Go.Sem renaming run_bind->Bc,run_pure->Bx,run_ite->By
section
set_option maxRecDepth 100000
def oS:Zp.cellsOf 9=1:=by kernel_rfl
def oI:Zp.cellsOf 3=1:=by kernel_rfl
def oI64:Zp.cellsOf 2=1:=by kernel_rfl
def oU32:Zp.cellsOf 34=1:=by kernel_rfl
def oNet:Zp.cellsOf 132=2:=by kernel_rfl
def oTok:Zp.cellsOf 114=3:=by kernel_rfl
def oTen:Zp.cellsOf 112=5:=by kernel_rfl
def qe71:Zp.cellsOf 109=1:=by kernel_rfl
def qh71:Zp.cellsOf 110=1:=by kernel_rfl
def qg71:Zp.cellsOf 42=1:=by kernel_rfl
def oCfg:Zp.cellsOf 44=5:=by kernel_rfl
def oEv:Zp.cellsOf 36=8:=by kernel_rfl
instance:Inhabited q97:=⟨⟨⟨#[]⟩,⟨#[]⟩,0⟩⟩
instance:Inhabited qa4:=⟨⟨⟨#[]⟩,0,0,Ab,0,[],Ab,0,[]⟩⟩
instance:Inhabited EvD:=⟨⟨0,0,0,⟨#[]⟩,0,⟨#[]⟩,⟨#[]⟩,⟨#[]⟩⟩⟩
section
variable{H:Type}{enc:TypeId×Value->H}{W:World}{base b0 qma:Nat}{spare:Nat->Bool}{held:Bool}{cs:List Value}{x:DataW H×List MemPlace}
def qz61(n:Nat)(cs:List Bt)(y:Bw H×List Bg)(c:cs.length=2)(h:A7 enc Zp W base spare held n 132 cs=A0 y):∃o:Int×Int,cs=qje o/\True:=by
 obtain⟨xs,n,_,rfl,c,w,a⟩:=Aq Tryz.underlying132 h
 match cs,c,xs,w with
 |[c0,c1],_,[y0,e],_=>
  have g:A7 enc Zp W base spare held n 34 [c0]=A0 y0:=by simpa [oU32]using a 0 _ rfl
  have i:A7 enc Zp W base spare held n 3 [c1]=A0 e:=by simpa [oI]using a 1 _ rfl
  obtain⟨f,a0,_⟩:=qw21 Tryz.underlying34 g;obtain⟨d,b,_⟩:=qw21 Tryz.underlying3 i;simp only[Aw,yM]at a0 b;exact⟨⟨f,d⟩,by rw[a0,b];rfl,trivial⟩
def q471(n:Nat)(cs:List Bt)(y:Bw H×List Bg)(c:cs.length=3)(h:A7 enc Zp W base spare held n 114 cs=A0 y):∃o:q97,cs=q44 o/\o.secret.size<=9223372036854775807:=by
 obtain⟨xs,n,_,rfl,c,w,a⟩:=Aq Tryz.underlying114 h
 match cs,c,xs,w with
 |[c0,c1,e],_,[y0,f,l],_=>
  have k:A7 enc Zp W base spare held n 9 [c0]=A0 y0:=by simpa [oS]using a 0 _ rfl
  have m:A7 enc Zp W base spare held n 9 [c1]=A0 f:=by simpa [oS]using a 1 _ rfl
  have d:A7 enc Zp W base spare held n 2 [e]=A0 l:=by simpa [oI64]using a 2 _ rfl
  obtain⟨i,a0,_⟩:=qbp Tryz.underlying9 k;obtain⟨g,b,j⟩:=qbp Tryz.underlying9 m;obtain⟨p,a2,_⟩:=qw21 Tryz.underlying2 d;simp only[Aw,yM]at a0 b a2;exact⟨⟨i,g,p⟩,by rw[a0,b,a2];rfl,j⟩
def q271(n:Nat)(cs:List Bt)(y:Bw H×List Bg)(c:cs.length=5)(h:A7 enc Zp W base spare held n 112 cs=A0 y):∃o:qa4,cs=q43 o/\qg6 [q65 W] o:=by
 obtain⟨xs,n,_,rfl,c,a,w⟩:=Aq Tryz.underlying112 h
 match cs,c,xs,a with
 |[c0,c1,B,q,g],_,[y0,r,k,p,s],_=>
  have u:A7 enc Zp W base spare held n 9 [c0]=A0 y0:=by simpa [oS]using w 0 _ rfl
  have l:A7 enc Zp W base spare held n 3 [c1]=A0 r:=by simpa [oI]using w 1 _ rfl
  have A:A7 enc Zp W base spare held n 3 [B]=A0 k:=by simpa [oI]using w 2 _ rfl
  have j:A7 enc Zp W base spare held n 109 [q]=A0 p:=by simpa [qe71]using w 3 _ rfl
  have I:A7 enc Zp W base spare held n 110 [g]=A0 s:=by simpa [qh71]using w 4 _ rfl
  obtain⟨D,a0,_⟩:=qbp Tryz.underlying9 u;obtain⟨m,b,_⟩:=qw21 Tryz.underlying3 l;obtain⟨K,a2,_⟩:=qw21 Tryz.underlying3 A;obtain⟨v,E,i,a3,e,C,z,_⟩:=qju qje (λ_=>True) Tryz.underlying109 oNet (by decide) (λ_=>rfl) qz61 j;obtain⟨f,L,F,a4,d,x,G,J⟩:=qju q44 (λt=>t.secret.size<=9223372036854775807) Tryz.underlying110 oTok (by decide) (λ_=>rfl) q471 I;simp only[Aw,yM]at a0 b a2 a3 a4;exact⟨⟨D,m,K,v,i,E,f,F,L⟩,by rw[a0,b,a2,a3,a4];rfl,⟨z,e,Bb e C,G,d,Bb d x,J⟩⟩
def q371(h:A7 enc Zp W base spare held qma 44 cs=A0 x):∃c:qy,cs=qx3 c/\(qc4 [q65 W]->ql1 [q65 W] c):=by
 obtain⟨xs,n,_,rfl,d,a,w⟩:=Aq Tryz.underlying44 h;rw[oCfg]at d
 match cs,d,xs,a with
 |[c0,c1,u,o,g],_,[y0,p,j,m,q],_=>
  have r:A7 enc Zp W base spare held n 2 [c0]=A0 y0:=by simpa [oI64]using w 0 _ rfl
  have k:A7 enc Zp W base spare held n 2 [c1]=A0 p:=by simpa [oI64]using w 1 _ rfl
  have t:A7 enc Zp W base spare held n 2 [u]=A0 j:=by simpa [oI64]using w 2 _ rfl
  have i:A7 enc Zp W base spare held n 2 [o]=A0 m:=by simpa [oI64]using w 3 _ rfl
  have B:A7 enc Zp W base spare held n 42 [g]=A0 q:=by simpa [qg71]using w 4 _ rfl
  obtain⟨z,a0,_⟩:=qw21 Tryz.underlying2 r;obtain⟨l,b,_⟩:=qw21 Tryz.underlying2 k;obtain⟨D,a2,_⟩:=qw21 Tryz.underlying2 t;obtain⟨v,a3,_⟩:=qw21 Tryz.underlying2 i;obtain⟨f,E,y,a4,e,s,A,C⟩:=qju q43 (qg6 [q65 W]) Tryz.underlying42 oTen (by decide) (λ_=>rfl) q271 B;simp only[Aw,yM]at a0 b a2 a3 a4;exact⟨⟨z,l,D,v,f,y,E⟩,by rw[a0,b,a2,a3,a4];rfl,λF=>⟨A,e,Bb e s,C,F⟩⟩
def qg61{r:_root_.Go.Reach}{v:Bt}{d:Bw H}{e:List Bg}(w:Value.okWide Zp W r b0 44 v)(h:Bz enc Zp W base spare held 44 v d e):
 ∃c:qy,v=.agg (qx3 c).toArray/\(qc4 [q65 W]->ql1 [q65 W] c):=by
 obtain⟨cs,rfl,_⟩:=WideShapes.okWide_struct Tryz.underlying44 w;obtain⟨qma,a⟩:=h;obtain⟨c,f,b⟩:=q371 a;refine⟨c,?_,b⟩;have:cs=(qx3 c).toArray:=by apply Array.ext';simpa [Value.cells]using f
 rw[this]
def EvOk(e:EvD):Prop:=-9223372036854775808<=e.n/\e.n<=9223372036854775807
def qa71(n:Nat)(cs:List Bt)(y:Bw H×List Bg)(f:cs.length=8)(h:A7 enc Zp W base spare held n 36 cs=A0 y):∃o:EvD,cs=evV o/\EvOk o:=by
 obtain⟨xs,n,_,rfl,f,a,w⟩:=Aq Tryz.underlying36 h
 match cs,f,xs,a with
 |[c0,c1,F,x,j,M,G,C],_,[y0,z,p,v,A,K,k,D],_=>
  have B:A7 enc Zp W base spare held n 3 [c0]=A0 y0:=by simpa [oI]using w 0 _ rfl
  have r:A7 enc Zp W base spare held n 3 [c1]=A0 z:=by simpa [oI]using w 1 _ rfl
  have E:A7 enc Zp W base spare held n 34 [F]=A0 p:=by simpa [oU32]using w 2 _ rfl
  have m:A7 enc Zp W base spare held n 9 [x]=A0 v:=by simpa [oS]using w 3 _ rfl
  have J:A7 enc Zp W base spare held n 2 [j]=A0 A:=by simpa [oI64]using w 4 _ rfl
  have i:A7 enc Zp W base spare held n 9 [M]=A0 K:=by simpa [oS]using w 5 _ rfl
  have t:A7 enc Zp W base spare held n 9 [G]=A0 k:=by simpa [oS]using w 6 _ rfl
  have q:A7 enc Zp W base spare held n 9 [C]=A0 D:=by simpa [oS]using w 7 _ rfl
  obtain⟨I,a0,_⟩:=qw21 Tryz.underlying3 B;obtain⟨u,d,_⟩:=qw21 Tryz.underlying3 r;obtain⟨L,a2,_⟩:=qw21 Tryz.underlying34 E;obtain⟨N,a3,_⟩:=qbp Tryz.underlying9 m;obtain⟨c,a4,b⟩:=qw21 Tryz.underlying2 J;obtain⟨s,a5,_⟩:=qbp Tryz.underlying9 i;obtain⟨l,e,_⟩:=qbp Tryz.underlying9 t;obtain⟨O,g,_⟩:=qbp Tryz.underlying9 q;simp only[Aw,yM]at a0 d a2 a3 a4 a5 e g;refine⟨⟨I,u,L,N,c,s,l,O⟩,by rw[a0,d,a2,a3,a4,a5,e,g];rfl,?_⟩;have b: -9223372036854775808<=c/\c<=9223372036854775807:=by simpa [Lit.wf,IntKind.min,IntKind.max,IntKind.signed,IntKind.bits]using b
  exact b
def qq61{r:_root_.Go.Reach}{v:Bt}{d:Bw H}{g:List Bg}(w:Value.okWide Zp W r b0 45 v)(h:Bz enc Zp W base spare held 45 v d g):
 ∃(p:Option Addr) (os:List EvD) (c:Nat),v=.slice p os.length c/\os.length<=c/\c<=9223372036854775807/\Rd [q65 W] p (os.flatMap evV)/\∀o∈os,EvOk o:=by
 obtain⟨a,len,cap,rfl⟩:=WideShapes.okWide_slice Tryz.underlying45 w;obtain⟨qma,e⟩:=h;obtain⟨p,xs,c,b,f⟩:=qju evV EvOk Tryz.underlying45 oEv (by decide) (λ_=>rfl) qa71 e;simp[Value.cells]at b;obtain⟨rfl,rfl,rfl⟩:=b;exact⟨_,xs,_,rfl,f⟩
end
end
section
def qq11(n:Nat):List Bt->B9->Nat:=λvs _=>match vs.getLast? with
 |some (.int _ i)=>n - i.toNat
 |_=>0
def evV8(e:EvD):(evV e).length=8:=rfl
def qd71(t:qa4):(q43 t).length=5:=rfl
def qt61(t:q97):(q44 t).length=3:=rfl
section
variable{W w:World}{F:List Asn}{c:qy}
set_option maxHeartbeats 1000000 in
def qa51(o:ql1 F c)(a:St W F w):qb Zp 13 #[Zg (qx3 c).toArray] w λv w'=>∃b,v=Zb b/\St W F w':=by
 refine F13_of (zh a λb w a=>zt 0 a yR yR ?_);refine⟨λvs w=>∃(n:Int) (i:Nat),vs=[Zi Zk n,Zi Zk i]/\i<=c.tens.length/\St W (Row b 44 (qx3 c)::F) w,qq11 c.tens.length,⟨_,0,rfl,Ae _,a⟩,λn i w p=>?_⟩;clear a;obtain⟨n,i,s,D,a⟩:=p;cases s;refine zt 0 a yR yR (za (λe=>za (λ_=>zt 0 a yR yR ?_) λ_=>⟨_,rfl,a.drop⟩) λ_=>⟨_,rfl,a.drop⟩);have e:i<c.tens.length:=by have:=yC e;omega
 have q:=A5 e;have z:=o.tb;generalize c.tens[i]=t at q;have u:=o.ok t (Ah q);refine z0f qd71 (by decide) (o.tr.cons _) a yR e q λad f=>z0i (f 0 _ rfl) (zq (f 1 _ rfl) (zq (f 2 _ rfl) (LdL.at (f 3 _ rfl) (LdL.at (f 4 _ rfl) ?_))));refine zh a λr w a=>St1.zz 0 a yR λw a=>St1.zz 0 a yR λw a=>St1.zz 0 a yR λw a=>St1.zz 0 a yR λw a=>St1.zz 0 a yR λw a=>?_;have a:St W (Row r 112 (q43 t)::Row b 44 (qx3 c)::F) w:=a;refine zg 0 a yR yR (zt 0 a yR yR (zt 0 a yR yR ?_));have g:∀(m:Int) w,St W (Row r 112 (q43 t)::Row b 44 (qx3 c)::F) w->(∃(n:Int) (j:Nat),[Zi Zk m,Zi Zk (Zw Zk ((i:Int)+1))]=[Zi Zk n,Zi Zk j]/\j<=c.tens.length/\St W (Row b 44 (qx3 c)::F) w)/\qq11 c.tens.length [Zi Zk m,Zi Zk (Zw Zk ((i:Int)+1))] w<qq11 c.tens.length [Zi Zk n,Zi Zk (i:Int)] w:=λm w a=>by rw[up e (by omega)];exact⟨⟨m,i+1,rfl,e,a.drop⟩,by show c.tens.length -(i+1)<c.tens.length - i;omega⟩
 refine⟨λvs w=>∃(n:Int) (k:Nat),vs=[Zi Zk n,Zi Zk k]/\k<=t.toks.length/\St W (Row r 112 (q43 t)::Row b 44 (qx3 c)::F) w,qq11 t.toks.length,⟨_,0,rfl,Ae _,a⟩,λm k w p=>?_⟩;clear a;obtain⟨m,k,s,C,a⟩:=p;cases s;refine zt 0 a yR yR (za (λd=>za (λ_=>?_) λ_=>g m w a) λ_=>g m w a);have d:k<t.toks.length:=by have:=yC d;omega
 have x:=A5 d;have A:=u.tb;generalize t.toks[k]=y at x;refine⟨StC W _,zd a,_,_,_,QtL.a 0 ir yR yR,z07 ir qt61 (by decide) ((u.tr.cons _).cons _) a yR d x λad f=>⟨_,z0z (λG w h=>f h 0 _ rfl),_,_,_,QtL.a 0 ir yR yR,z07 ir qt61 (by decide) ((u.tr.cons _).cons _) a yR d x λB l=>⟨_,z0z (λG w h=>l h 1 _ rfl),λG w h=>?_⟩⟩⟩;have a:=zb h;rw[up d (by omega)];exact⟨⟨_,k+1,rfl,d,a⟩,by show t.toks.length -(k+1)<t.toks.length - k;omega⟩
def qc51{p:Option Addr}{q:Nat}{l:List EvD}(f:Rd F p (l.flatMap evV))(t:l.length<=9223372036854775807)(c:St W F w):qb Zp 14 #[Zl p l.length q] w λv w'=>∃b,v=Zb b/\(b=A2->l.length<=300)/\St W F w':=by
 refine F14_of ⟨λvs w=>∃n:Int,vs=[Zi Zk n]/\St W F w,?_,λn w j=>?_⟩
 .refine⟨λvs w=>∃(n:Int) (i:Nat),vs=[Zi Zk n,Zi Zk i]/\i<=l.length/\St W F w,qq11 l.length,⟨_,0,rfl,Ae _,c⟩,λn i w s=>?_⟩;clear c;obtain⟨n,i,g,x,c⟩:=s;cases g;refine za (λa=>za (λ_=>?_) λ_=>⟨_,rfl,c⟩) λ_=>⟨_,rfl,c⟩;have a:i<l.length:=by have:=yC a;omega
  have d:=A5 a;generalize l[i]=e at d;refine⟨StC W _,zd c,z07 ir evV8 (by decide) f c yR a d λu r=>z07 ir evV8 (by decide) f c yR a d λa2 k=>z07 ir evV8 (by decide) f c yR a d λa3 m=>z07 ir evV8 (by decide) f c yR a d λa4 o=>⟨_,z0z (λG w h=>r h 3 _ rfl),_,z0z (λG w h=>k h 5 _ rfl),_,z0z (λG w h=>m h 6 _ rfl),_,z0z (λG w h=>o h 7 _ rfl),λG w h=>?_⟩⟩;have c:=zb h;rw[up a (by omega)];exact⟨⟨_,i+1,rfl,a,c⟩,by show l.length -(i+1)<l.length - i;omega⟩
 .obtain⟨n,g,c⟩:=j;exact za (λ_=>⟨A4,rfl,λh=>(by cases h),c⟩) λ_=>⟨_,rfl,λh=>(by have:=yD h;omega),c⟩
def fPa:(Zp.fieldsOf 122).toList.map qhm=[(A4,3,0),(A4,3,1)]:=by kernel_rfl
def uPa:Zp.underlying 122=A0 (.struct (Zp.fieldsOf 122)):=by kernel_rfl
def hPa:Zp.stoodInHeld 122=A2:=by kernel_rfl
def gPa:Zp.eqGuardType Zp.depth 122=A2:=by kernel_rfl
def pp0(a b:Int)(w:B9):(part 3 #[Zi Zk a,Zi Zk b] 0).run Zp w=.ok (Zi Zk a) w:=run_part_plain w qjr yR
def pp1(a b:Int)(w:B9):(part 3 #[Zi Zk a,Zi Zk b] 1).run Zp w=.ok (Zi Zk b) w:=run_part_plain w qjr yR
def qm61(d:Nat)(a b:Int)(w:B9):(Op.equalIn (d+2) 122 (Zg #[Zi Zk a,Zi Zk b]) (Zg #[Zi Zk a,Zi Zk b])).run Zp w=.ok A4 w:=by rw[show d+2=(d+1)+1 from rfl,run_equalIn_struct w (d+1) _ _ _ uPa hPa,qhh,fPa];simp[eqF,Bc,pp0,pp1,B0,run_equalIn_int w d 3 Zk Zk _ _ uInt,qow,By,Bx]
def nePa{c h:Operand}(a b:Int)(w:B9):Sem.run Zp (do eqGuard .neq 122 c h (Zg #[Zi Zk a,Zi Zk b]) (Zg #[Zi Zk a,Zi Zk b]);binOp .neq 122 (Zg #[Zi Zk a,Zi Zk b]) (Zg #[Zi Zk a,Zi Zk b])) w=.ok (Zb A2) w:=by simp only[Bc,run_eqGuard_agg w .neq 122 c h _ _ gPa,B0,run_neq_struct];rw[show(10000:Nat)=9998+2 from rfl,qm61];rfl
def qp51{p q:Option Addr}{c1 j:Nat}{f:Int->Int}{l:List Int}(o:l.length<=9223372036854775807)(m:Rd F p (l.flatMap (q52 f)))(g:Rd F q (l.flatMap (q52 f)))(b:St W F w):
 qb Zp 18 #[Zl p l.length c1,Zl q l.length j] w λv w'=>v=Zb A4/\St W F w':=by
 refine F18_of (zn (by simp) ?_);refine⟨λvs w=>∃i:Nat,vs=[Zi Zk i]/\i<=l.length/\St W F w,qq11 l.length,⟨0,rfl,Ae _,b⟩,λi w n=>?_⟩;clear b;obtain⟨i,k,s,b⟩:=n;cases k;refine za (λa=>?_) λ_=>⟨rfl,b⟩;have a:i<l.length:=by have:=yC a;omega
 have c:=A5 a;generalize l[i]=v at c;refine⟨StC W _,zd b,z07 ir (qc9 f) (by decide) m b yR a c λr e=>z07 ir (qc9 f) (by decide) g b yR a c λa2 d=>⟨v,f v,λG w h=>zq (e h 0 _ rfl) (zq (e h 1 _ rfl) ⟨rfl,h⟩),v,f v,λG w h=>zq (d h 0 _ rfl) (zq (d h 1 _ rfl) ⟨rfl,h⟩),_,λw=>nePa v (f v) w,_,rfl,λG w h=>zn yR ?_⟩⟩;have b:=zb h;rw[up a (by omega)];exact⟨⟨i+1,rfl,a,b⟩,by show l.length -(i+1)<l.length - i;omega⟩
end
end
section
def qcc(R:List (Int×q31))(id:Int):Prop:=∃r,qe R id=A0 r/\r.kind=3
def qli(R:List (Int×q31))(id:Int):Prop:=∃r,qe R id=A0 r/\r.kind=2
structure quz(id:Int)(r:q31):Prop where
 conn:r.conn=id
 kind:r.kind=1/\r.sh.isSome=A4\/r.kind=2\/r.kind=3\/r.kind=4
def qal(w:Ri.Way):Prop:=Zw Zk w.moved=w.moved
def qrr(z:Ri.PS):Prop:=qal z.w0/\qal z.w1
structure qr5(m:Int)(N:Cn.CT)(R:List (Int×q31))(P:qd6)(ps:List Ri.PS)(Q:Qu.QG)(T:TkB)(S:List (Int×q81)):Prop where
 nN:(N.L.map (·.1)).Nodup
 nR:(R.map (·.1)).Nodup
 nP:(P.ends.map (·.1)).Nodup
 nS:(S.map (·.1)).Nodup
 nT:(T.good.map (·.p.vis)).Nodup
 same:∀id,(qe R id).isSome=(qe N.L id).isSome
 role:∀id r,qe R id=A0 r->quz id r
 pair:∀id o b,qe P.ends id=A0 (o,b)->o≠id/\qe P.ends o=A0 (id,!b)/\∃r i,qe R id=A0 r/\r.kind=4/\r.pump=A0 i/\i<ps.length
 que:∀y∈Q,qcc R y.2
 tick:∀t∈T.good,qcc R t.p.vis
 last0:0<=N.last
 last1:N.last<=m
 key:∀id,(qe N.L id).isSome=A4->1<=id/\id<=N.last
 sk:∀id,(qe S id).isSome=A4->1<=id/\id<=N.last
 cred:∀id d,qe N.L id=A0 d->0<=d.credit/\d.credit<=1073741824
 mov:∀z∈ps,qrr z
abbrev Bk.Str(m:Int)(s:Bk):Prop:=qr5 m s.N s.roles s.P s.pumps s.Q s.T s.S
structure q401(B:qi3)(now:Int)(R:List (Int×q31)):Prop where
 nB:(B.L.map (·.1)).Nodup
 name:∀k d,qe B.L k=A0 d->d.name=k
 held:∀k d,qe B.L k=A0 d->d.held=A4->now<d.til/\qli R d.conn
 most:qa6 B.most=A4
 clock:q79 now=A4
abbrev Bk.Book(s:Bk):Prop:=q401 s.B s.K.now s.roles
section
variable{κ ν:Type}[DecidableEq κ]
def q201{L:List (κ×ν)}{k:κ}:(qe L k).isSome=A4↔k∈L.map (·.1):=by
 cases h:qe L k with
 |none=>rw[qm8]at h;refine⟨λh=>(by cases h),λa=>?_⟩;obtain⟨x,w,e⟩:=Af.1 a;exact yI e (h x w)
 |some v=>exact⟨λ_=>Af.2 ⟨_,qg3 h,rfl⟩,λ_=>rfl⟩
end
def q811:∀(n:Nat) (l:List Int),l.Nodup->(∀x∈l,1<=x/\x<=(n:Int))->l.length<=n:=by
 intro n;induction n with
 |zero=>
  intro l _ h;cases l with
  |nil=>exact Ai _
  |cons a r=>have:=h a A3;omega
 |succ n ih=>
  intro l c h;have d:=ih (l.erase ((n+1:Nat):Int)) (c.erase _) λx w=>by
   have:=h x (List.mem_of_mem_erase w);have f:x≠((n+1:Nat):Int):=λe=>by rw[e]at w;exact(List.Nodup.not_mem_erase c) w
   omega
  have:=List.length_erase_le (a:=((n+1:Nat):Int)) (l:=l);by_cases b:((n+1:Nat):Int)∈l
  .rw[B7 b]at d;have:0<l.length:=Bd b;omega
  .rw[List.erase_of_not_mem b]at d;omega
def qux{α:Type}[DecidableEq α]:∀(l m:List α),l.Nodup->(∀x∈l,x∈m)->l.length<=m.length:=by
 intro l;induction l with
 |nil=>intro m _ _;exact Ae _
 |cons a r ih=>intro m w h;rw[Ax]at w;have c:=h a A3;have:=ih (m.erase a) w.2 λx b=>(List.mem_erase_of_ne (λe=>w.1 (by rw[<-e];exact b))).2 (h x (A1 _ b));rw[B7 c]at this;have:=Bd c;simp only[Au];omega
def qz21{α:Type}[DecidableEq α]{l m:List α}{a:α}(c:l.Nodup)(h:∀x∈l,x∈m)(d:a∈m)(w:a∉l):l.length<m.length:=by
 have:=qux (a::l) m (Ax.2 ⟨w,c⟩) λx b=>by
  rcases Aj.1 b with rfl|b;.exact d
  .exact h x b
 simp only[Au]at this;omega
def qit(S:List (Int×q81))(id j:Int)(bs:List UInt8)(e w:Bool)(h:(qe (qe6 S id bs e w) j).isSome=A4):j=id\/(qe S j).isSome=A4:=by
 unfold qe6 at h;split at h;.exact .inr h
 .rw[qh2]at h;split at h;.rename_i e;exact .inl e.symm
  .exact .inr h
def q9o{S:List (Int×q81)}(h:(S.map (·.1)).Nodup)(id:Int)(bs:List UInt8)(e w:Bool):((qe6 S id bs e w).map (·.1)).Nodup:=by
 unfold qe6;split;.exact h
 .exact qr7 h _ _
def ql3(N:Cn.CT)(id j:Int)(g:Cn.CnD->Cn.CnD):qe (N.upd id g).L j=if id=j then(qe N.L j).map g else qe N.L j:=by
 unfold Cn.CT.upd;cases h:qe N.L id with
 |none=>
  simp only;split;.rename_i e;subst e;rw[h];rfl
  .rfl
 |some d=>
  simp only;rw[qh2];split;.rename_i e;subst e;rw[h];rfl
  .rfl
def qoe(N:Cn.CT)(id:Int)(g:Cn.CnD->Cn.CnD):(N.upd id g).last=N.last:=by unfold Cn.CT.upd;split<;>rfl
def qjt{N:Cn.CT}(h:(N.L.map (·.1)).Nodup)(id:Int)(g:Cn.CnD->Cn.CnD):((N.upd id g).L.map (·.1)).Nodup:=by
 unfold Cn.CT.upd;split;.exact h
 .exact qr7 h _ _
def upd_id{N:Cn.CT}{id:Int}{g:Cn.CnD->Cn.CnD}(h:∀d,qe N.L id=A0 d->g d=d):N.upd id g=N:=by
 unfold Cn.CT.upd;split;.rfl
 .rename_i d w;rw[h d w,qt1 w]
section
variable{m:Int}{N:Cn.CT}{R:List (Int×q31)}{P:qd6}{ps:List Ri.PS}{Q:Qu.QG}{T:TkB}{S:List (Int×q81)}{id:Int}
def qcc.of{R R':List (Int×q31)}{id:Int}(h:qcc R id)(e:qe R' id=qe R id):qcc R' id:=by unfold qcc at*;rw[e];exact h
def qli.of{R R':List (Int×q31)}{id:Int}(h:qli R id)(e:qe R' id=qe R id):qli R' id:=by unfold qli at*;rw[e];exact h
def qr5.upd(h:qr5 m N R P ps Q T S)(id:Int){g:Cn.CnD->Cn.CnD}(e:∀d,0<=d.credit/\d.credit<=1073741824->0<=(g d).credit/\(g d).credit<=1073741824):qr5 m (N.upd id g) R P ps Q T S:=by
 have b:∀j,(qe (N.upd id g).L j).isSome=(qe N.L j).isSome:=λj=>by
  rw[ql3];split;.rw[Bl]
  .rfl
 refine { nN:=qjt h.nN _ _,nR:=h.nR,nP:=h.nP,nS:=h.nS,nT:=h.nT,same:=λj=>by rw[b];exact h.same j,role:=h.role,pair:=h.pair,que:=h.que,tick:=h.tick,last0:=by rw[qoe];exact h.last0,last1:=by rw[qoe];exact h.last1,key:=λj w=>by rw[b]at w;rw[qoe];exact h.key j w,sk:=λj w=>by rw[qoe];exact h.sk j w,mov:=h.mov,cred:=λj d a=>?_};rw[ql3]at a;split at a
 .obtain⟨d0,c,rfl⟩:=A9.1 a;exact e _ (h.cred _ _ c)
 .exact h.cred _ _ a
def qr5.tell(h:qr5 m N R P ps Q T S)(id:Int)(xs:List UInt8):qr5 m (N.upd id (Cn.gSay xs)) R P ps Q T S:=
 h.upd id λd w=>by unfold Cn.gSay;split<;>exact w
def qub{d:Cn.CnD}(w:0<=d.credit/\d.credit<=1073741824):(Cn.gFlush d).credit=d.credit -((Cn.rFlush d).length:Int)/\((Cn.rFlush d).length:Int)<=d.credit:=by
 have h:(Cn.rFlush d).length<=d.credit.toNat:=by unfold Cn.rFlush;rw[Ak];omega
 refine⟨?_,by omega⟩;show Zw Zk _=_;exact w64
def qr5.flush(h:qr5 m N R P ps Q T S)(id:Int):qr5 m (N.upd id Cn.gFlush) R P ps Q T S:=
 h.upd id λd a=>by obtain⟨w,b⟩:=qub a;rw[w];omega
def qr5.put(h:qr5 m N R P ps Q T S){r r':q31}(p:qe R id=A0 r)(z:r'.conn=r.conn)(u:r'.kind=r.kind)(d:r'.sh.isSome=r.sh.isSome)(B:r'.pump=r.pump):qr5 m N (qk R id r') P ps Q T S:=by
 have s:∀j q,qe R j=A0 q->∃a,qe (qk R id r') j=A0 a/\a.kind=q.kind/\a.pump=q.pump:=λj q w=>by
  rw[qh2];split;.rename_i e;subst e;rw[p]at w;cases w;exact⟨_,rfl,u,B⟩
  .exact⟨_,w,rfl,rfl⟩
 have v:∀j,qcc R j->qcc (qk R id r') j:=λj ⟨q,w,d⟩=>by obtain⟨a,c,f,_⟩:=s j q w;exact⟨a,c,by rw[f];exact d⟩
 refine { nN:=h.nN,nR:=qr7 h.nR _ _,nP:=h.nP,nS:=h.nS,nT:=h.nT,same:=λj=>?_,role:=λj q w=>?_,pair:=λj o b E=>?_,que:=λy F=>v _ (h.que y F),tick:=λt C=>v _ (h.tick t C),last0:=h.last0,last1:=h.last1,key:=h.key,sk:=h.sk,cred:=h.cred,mov:=h.mov}
 .rw[qh2];split;.rename_i e;subst e;rw[<-h.same,p];rfl
  .exact h.same j
 .rw[qh2]at w;split at w
  .rename_i e;subst e;cases w;have:=h.role _ _ p;exact⟨by rw[z];exact this.conn,by rw[u,d];exact this.kind⟩
  .exact h.role _ _ w
 .obtain⟨c,f,q,i,x,D,A,g⟩:=h.pair j o b E;obtain⟨a,k,l,n⟩:=s j q x;exact⟨c,f,a,i,k,by rw[l];exact D,by rw[n];exact A,g⟩
def qr5.send(h:qr5 m N R P ps Q T S)(hid:(qe N.L id).isSome=A4)(bs:List UInt8)(e a:Bool):qr5 m N R P ps Q T (qe6 S id bs e a):=
 { h with nS:=q9o h.nS _ _ _ _,sk:=λj w=>(qit _ _ _ _ _ _ w).elim (λe=>by rw[e];exact h.key _ hid) λw=>h.sk j w}
def qr5.que_sub(h:qr5 m N R P ps Q T S){w:Qu.QG}(a:∀y∈w,y∈Q):qr5 m N R P ps w T S:={ h with que:=λy b=>h.que y (a y b)}
def qr5.cut(h:qr5 m N R P ps Q T S){l:Cn.CT}{R':List (Int×q31)}{n:qd6}{F:Qu.QG}{v:TkB}{A:List (Int×q81)}(D:Int->Prop)
 (nN:(l.L.map (·.1)).Nodup) (nR:(R'.map (·.1)).Nodup) (nP:(n.ends.map (·.1)).Nodup) (nS:(A.map (·.1)).Nodup) (p:l.last=N.last)
 (s:∀j,D j->qe l.L j=Ab) (e:∀j,¬D j->qe l.L j=qe N.L j) (B:∀j,D j->qe R' j=Ab) (a:∀j,¬D j->qe R' j=qe R j)
 (I:∀j,D j->qe n.ends j=Ab) (k:∀j,¬D j->qe n.ends j=qe P.ends j) (x:∀j o b,¬D j->qe P.ends j=A0 (o,b)->¬D o)
 (G:∀y∈F,y∈Q/\¬D y.2) (E:v.good.Sublist T.good) (z:∀t∈v.good,¬D t.p.vis) (K:∀j,(qe A j).isSome=A4->(qe S j).isSome=A4\/(qe N.L j).isSome=A4):qr5 m l R' n ps F v A where
 nN:=nN
 nR:=nR
 nP:=nP
 nS:=nS
 nT:=h.nT.sublist (E.map _)
 same:=λj=>by
  by_cases w:D j;.rw[B j w,s j w];rfl
  .rw[a j w,e j w];exact h.same j
 role:=λj r q=>by
  by_cases w:D j;.rw[B j w]at q;cases q
  .rw[a j w]at q;exact h.role j r q
 pair:=λj o b g=>by
  by_cases w:D j;.rw[I j w]at g;cases g
  .rw[k j w]at g;obtain⟨c,u,r,i,H,J⟩:=h.pair j o b g;exact⟨c,by rw[k o (x j o b w g)];exact u,r,i,by rw[a j w];exact H,J⟩
 que:=λy L=>by obtain⟨c,u⟩:=G y L;exact(h.que y c).of (a _ u)
 tick:=λt C=>(h.tick t (E.subset C)).of (a _ (z t C))
 last0:=by rw[p];exact h.last0
 last1:=by rw[p];exact h.last1
 key:=λj w=>by
  by_cases f:D j;.rw[s j f]at w;cases w
  .rw[e j f]at w;rw[p];exact h.key j w
 sk:=λj w=>by
  rw[p];rcases K j w with c|c;.exact h.sk j c
  .exact h.key j c
 cred:=λj d f=>by
  by_cases w:D j;.rw[s j w]at f;cases f
  .rw[e j w]at f;exact h.cred j d f
 mov:=h.mov
end
end
section
structure Vis(s s':Bk):Prop where
 P:s'.P=s.P
 pumps:s'.pumps=s.pumps
 B:s'.B=s.B
 now:s'.K.now=s.K.now
 Q:∀y∈s'.Q,y∈s.Q
 R:∀id,qe s'.roles id=qe s.roles id\/qe s'.roles id=Ab/\qcc s.roles id
 N:∀id r,qe s.roles id=A0 r->r.kind=4->qe s'.N.L id=qe s.N.L id
 E:∀id d',qe s'.N.L id=A0 d'->∃d,qe s.N.L id=A0 d/\d'.ended=d.ended/\d'.inb=d.inb
 last:s'.N.last=s.N.last
structure Less(s s':Bk):Prop where
 pumps:s'.pumps=s.pumps
 now:s'.K.now=s.K.now
 R:∀id,qe s'.roles id=qe s.roles id\/qe s'.roles id=Ab
 E:∀id d',qe s'.N.L id=A0 d'->∃d,qe s.N.L id=A0 d/\d'.ended=d.ended/\d'.inb=d.inb
 last:s'.N.last=s.N.last
def Vis.less{s s':Bk}(h:Vis s s'):Less s s':=⟨h.pumps,h.now,λid=>(h.R id).imp (λh=>h) λh=>h.1,h.E,h.last⟩
def Vis.refl(s:Bk):Vis s s:=⟨rfl,rfl,rfl,rfl,λy h=>h,λid=>.inl yR,λid r _ _=>rfl,λid d h=>⟨d,h,rfl,rfl⟩,rfl⟩
def Less.refl(s:Bk):Less s s:=(Vis.refl s).less
def Less.trans{s t u:Bk}(h:Less s t)(k:Less t u):Less s u where
 pumps:=k.pumps.trans h.pumps
 now:=k.now.trans h.now
 R:=λid=>by
  rcases k.R id with w|w;.rw[w];exact h.R id
  .exact .inr w
 E:=λid d hd=>by obtain⟨e,w,a,f⟩:=k.E id d hd;obtain⟨d0,g,c,b⟩:=h.E id e w;exact⟨d0,g,a.trans c,f.trans b⟩
 last:=k.last.trans h.last
def qcc.back{s t:Bk}(h:Vis s t){id:Int}(a:qcc t.roles id):qcc s.roles id:=by
 rcases h.R id with w|⟨w,_⟩;.exact a.of w.symm
 .obtain⟨r,b,_⟩:=a;rw[w]at b;cases b
def Vis.stays{s t:Bk}(h:Vis s t){id:Int}{r:q31}(a:qe s.roles id=A0 r)(d:r.kind≠3):qe t.roles id=A0 r:=by
 rcases h.R id with b|⟨b,q,w,c⟩;.rw[b,a]
 .rw[a]at w;cases w;exact yI c d
def Vis.trans{s t u:Bk}(h:Vis s t)(k:Vis t u):Vis s u where
 P:=k.P.trans h.P
 pumps:=k.pumps.trans h.pumps
 B:=k.B.trans h.B
 now:=k.now.trans h.now
 Q:=λy a=>h.Q y (k.Q y a)
 R:=λid=>by
  rcases k.R id with w|⟨w,b⟩;.rw[w];exact h.R id
  .exact .inr ⟨w,qcc.back h b⟩
 N:=λid r hr hk=>(k.N id r (h.stays hr (by omega)) hk).trans (h.N id r hr hk)
 E:=(h.less.trans k.less).E
 last:=k.last.trans h.last
def Book.vis{s t:Bk}(h:s.Book)(k:Vis s t):t.Book:=by have w:=k.B;have a:=k.now;refine⟨by rw[w];exact h.nB,by rw[w];exact h.name,λkey d b g=>?_,by rw[w];exact h.most,by rw[a];exact h.clock⟩;rw[w]at b;obtain⟨f,r,c,e⟩:=h.held key d b g;exact⟨by rw[a];exact f,r,k.stays c (by omega),e⟩
def qg11(K:Ck.ClG)(after:Int)(ids:List Int):(q5c K after ids).now=K.now:=by
 unfold q5c;induction ids generalizing K with
 |nil=>rfl
 |cons a r h=>
  rw[Ag,h];unfold Ck.cSet;split;.rfl
  .split<;>rfl
section
variable{m:Int}{s:Bk}{id:Int}
def Vis.tell(a:qk1)(hid:∀r,qe s.roles id=A0 r->r.kind≠4):Vis s (s.tell id a) where
 P:=rfl
 pumps:=rfl
 B:=rfl
 now:=rfl
 Q:=λy h=>h
 R:=λid=>.inl yR
 N:=λj r f c=>by show qe (s.N.upd id _).L j=_;rw[ql3,yA (λe=>hid r (by rw[e];exact f) c)]
 E:=λj d w=>by
  change qe (s.N.upd id _).L j=_ at w;rw[ql3]at w;split at w
  .obtain⟨d0,b,rfl⟩:=A9.1 w;refine⟨d0,b,?_⟩;unfold Cn.gSay;split<;>exact⟨rfl,rfl⟩
  .exact⟨d,w,rfl,rfl⟩
 last:=qoe _ _ _
def Str.tell(h:s.Str m)(id:Int)(w:qk1):(s.tell id w).Str m:=qr5.tell h id _
def qt31(s:Bk)(ten:ByteArray)(w:Int):Vis s (s.give ten w):=⟨rfl,rfl,rfl,rfl,λy h=>h,λid=>.inl yR,λid r _ _=>rfl,λid d h=>⟨d,h,rfl,rfl⟩,rfl⟩
def qw51(s:Bk)(after:Int)(ids:List Int):Vis s (s.alarm after ids):=⟨rfl,rfl,rfl,qg11 _ _ _,λy h=>h,λid=>.inl yR,λid r _ _=>rfl,λid d h=>⟨d,h,rfl,rfl⟩,rfl⟩
def qx11(s:Bk)(id:Int):(s.out id).N.last=s.N.last:=qoe s.N id _
def q121(h:s.Str m)(id j:Int):qe (s.out id).N.L j=if id=j then Ab else qe s.N.L j:=by
 show qe (qp (s.N.upd id Cn.gFlush).L id) j=_;rw[qaa (qjt h.nN _ _)];split;.rfl
 .rename_i e;rw[ql3,yA e]
def qf11(h:s.Str m)(id j:Int):qe (s.out id).roles j=if id=j then Ab else qe s.roles j:=qaa h.nR id j
def qm51(id j:Int)(h:(qe (s.out id).S j).isSome=A4):(qe s.S j).isSome=A4\/j=id:=by
 rcases qit _ _ _ _ _ _ h with h|h;.exact .inr h
 .exact .inl h
def qa21(h:s.Str m){r:q31}(d:qe s.roles id=A0 r)(c:r.kind≠4):qe s.P.ends id=Ab:=by
 cases he:qe s.P.ends id with
 |none=>rfl
 |some x=>obtain⟨o,b⟩:=x;obtain⟨_,_,q,i,w,a,_⟩:=h.pair id o b he;rw[d]at w;cases w;exact yI a c
def qp61(T:TkB)(id:Int):(q5l T id).1.good.Sublist T.good:=by
 unfold q5l;split;.exact B2 _ _
 .exact List.Sublist.refl _
def q561{T:TkB}(p:(T.good.map (·.p.vis)).Nodup)(id:Int):∀t∈(q5l T id).1.good,t.p.vis≠id:=by
 intro t w;unfold q5l ofT at w;rcases q0j (g:=λt:TkD=>t.p.vis==id) (xs:=T.good)with ⟨o,a⟩|⟨i,x,o,a,s⟩
 .rw[yA (by omega)]at w;intro e;have:=List.find?_eq_none.1 a t w;simp[e]at this
 .rw[o,yB (by omega)]at w;simp only[Ar]at w;have q:x.p.vis=id:=by simpa using List.find?_some s
  have f:i<T.good.length:=by
   rcases Nat.lt_or_ge i T.good.length with h|h;.exact h
   .rw[List.getElem?_eq_none h]at a;cases a
  obtain⟨j,n,c⟩:=List.getElem_of_mem w;intro e;rw[List.getElem_eraseIdx]at c;have b:∀k (l:k<T.good.length),k≠i->T.good[k].p.vis≠id:=λk l m ev=>by
   have r:(T.good.map (·.p.vis))[k]?=A0 id:=by rw[B1,A5 l,<-ev];rfl
   have u:(T.good.map (·.p.vis))[i]?=A0 id:=by rw[B1,a,<-q];rfl
   exact m ((List.getElem?_inj (by simpa using l) p).1 (r.trans u.symm))
  have v:j<T.good.length - 1:=by rw[List.length_eraseIdx_of_lt f]at n;exact n
  split at c
  .rename_i d;refine b j (by omega) (by omega) ?_;rw[c];exact e
  .rename_i d;refine b (j+1) (by omega) (by omega) ?_;rw[c];exact e
def Str.out{r:q31}(h:s.Str m)(d:qe s.roles id=A0 r)(n:r.kind=1\/r.kind=2):(s.out id).Str m:=by
 have f:=qa21 h d (by omega);have i:∀j,qcc s.roles j->j≠id:=λj ⟨q,a,c⟩ e=>by subst e;rw[d]at a;cases a;omega
 refine qr5.cut h (λj=>id=j) ((qph (qjt h.nN _ _) _)) (qph h.nR _) h.nP (q9o h.nS _ _ _ _) (qx11 s id) (λj w=>by rw[q121 h,yB w]) (λj w=>by rw[q121 h,yA w]) (λj w=>by rw[qf11 h,yB w]) (λj w=>by rw[qf11 h,yA w])
  (λj w=>by subst w;exact f) (λj _=>rfl) (λj o b w k e=>?_) (λy g=>⟨g,λe=>i _ (h.que y g) e.symm⟩) (List.Sublist.refl _) (λt l e=>i _ (h.tick t l) e.symm) λj w=>?_
 .obtain⟨_,c,_⟩:=h.pair j o b k;rw[<-e,f]at c;cases c
 .rcases qm51 id j w with a|a;.exact .inl a
  .subst a;rw[<-h.same,d];exact .inr yR
def Less.out(h:s.Str m)(id:Int):Less s (s.out id) where
 pumps:=rfl
 now:=rfl
 R:=λj=>by rw[qf11 h];split;exact .inr yR;exact .inl yR
 E:=λj d w=>by
  rw[q121 h]at w;split at w;.cases w
  .exact⟨d,w,rfl,rfl⟩
 last:=qx11 s id
def ql51(n:Nat)(h:s.Str m)(d:qe s.roles id=Ab\/qcc s.roles id):(Bk.shutB (n+1) s id).Str m/\Vis s (Bk.shutB (n+1) s id)/\qe (Bk.shutB (n+1) s id).roles id=Ab:=by
 unfold Bk.shutB;rcases d with d|⟨r,c,l⟩;.rw[d];exact⟨h,Vis.refl s,d⟩
 rw[c];simp only;unfold Bk.after;rw[yA (by omega),yB l];have i:=qa21 h c (by omega);refine⟨?_,⟨rfl,rfl,rfl,rfl,λy a=>(Ao.1 a).1,λj=>?_,λj q k u=>?_,(Less.out h id).E,qx11 s id⟩,?_⟩
 .refine qr5.cut h (λj=>id=j) ((qph (qjt h.nN _ _) _)) (qph h.nR _) h.nP (q9o h.nS _ _ _ _) (qx11 s id) (λj w=>(q121 h id j).trans (yB w)) (λj w=>(q121 h id j).trans (yA w)) (λj w=>(qf11 h id j).trans (yB w)) (λj w=>(qf11 h id j).trans (yA w))
   (λj w=>by subst w;exact i) (λj _=>rfl) (λj o b w p e=>?_) (λy a=>?_) (qp61 _ _) (λt v e=>q561 h.nT id t v e.symm) λj w=>?_
  .obtain⟨_,g,_⟩:=h.pair j o b p;rw[<-e,i]at g;cases g
  .have a:=Ao.1 a;exact⟨a.1,λe=>by simpa [e]using a.2⟩
  .rcases qm51 id j w with f|f;.exact .inl f
   .subst f;rw[<-h.same,c];exact .inr yR
 .show qe (s.out id).roles j=_\/_;rw[qf11 h];split;.rename_i e;subst e;exact .inr ⟨(qf11 h _ _).trans (yB yR),r,c,l⟩
  .exact .inl yR
 .show qe (s.out id).N.L j=_;rw[q121 h,yA (λe=>by subst e;rw[c]at k;cases k;omega)]
 .show qe (s.out id).roles id=Ab;rw[qf11 h,yB yR]
def q541(f:Bk->Int->Bk):Prop:=∀s i,∃n,f s i=Bk.shutB (n+1) s i
def qf71:q541 Bk.shut:=λs i=>⟨_,rfl⟩
def qr41(n:Nat):q541 (λs i=>Bk.shutB (n+1) s i):=λs i=>⟨_,rfl⟩
def qt41{f:Bk->Int->Bk}(g:q541 f):∀(l:List Int) (s:Bk),s.Str m->(∀id∈l,qe s.roles id=Ab\/qcc s.roles id)->(l.foldl (λs id=>f (s.no id 3) id) s).Str m/\Vis s (l.foldl (λs id=>f (s.no id 3) id) s)/\∀id∈l,qe (l.foldl (λs id=>f (s.no id 3) id) s).roles id=Ab
 |[],s,h,_=>⟨h,Vis.refl s,by simp⟩
 |a::r,s,h,o=>by
  rw[Ag];have w:=o a A3;have x:(s.no a 3).Str m:=Str.tell h a _;have p:Vis s (s.no a 3):=Vis.tell _ λq b=>by
   rcases w with w|⟨y,c,d⟩;.rw[w]at b;cases b
   .rw[c]at b;cases b;omega
  obtain⟨n,u⟩:=g (s.no a 3) a;obtain⟨c,d,i⟩:=ql51 n x (id:=a) w;rw[<-u]at c d i;have j:=p.trans d;obtain⟨v,k,t⟩:=qt41 g r _ c λid hid=>by
   rcases j.R id with e|⟨e,_⟩
   .rcases o id (A1 _ hid)with h|h;.exact .inl (e.trans h)
    .exact .inr (h.of e)
   .exact .inl e
  refine⟨v,j.trans k,λid hid=>?_⟩;rcases Aj.1 hid with rfl|hid
  .rcases k.R id with e|⟨e,_⟩;.rw[e,i]
   .exact e
  .exact t id hid
def q841{f:Bk->Int->Bk}(d:q541 f)(h:s.Str m)(name:ByteArray):(Bk.emptyW f s name).Str m/\Vis s (Bk.emptyW f s name)/\Qu.gL (Bk.emptyW f s name).Q name=[]:=by unfold Bk.emptyW;obtain⟨c,w,e⟩:=qt41 d (Qu.gL s.Q name) s h λid hid=>.inr (h.que _ (Qu.mem_gL.1 hid));refine⟨c,w,List.eq_nil_iff_forall_not_mem.2 λid hid=>?_⟩;have a:=Qu.mem_gL.1 hid;obtain⟨r,b,_⟩:=c.que _ a;rw[e id (Qu.mem_gL.2 (w.Q _ a))]at b;cases b
def q421{f:Bk->Int->Bk}(w:q541 f):∀(l:List LeD) (s:Bk),s.Str m->(Bk.leaveW f s l).Str m/\Vis s (Bk.leaveW f s l)
 |[],s,h=>⟨h,Vis.refl s⟩
 |x::r,s,h=>by obtain⟨d,a,_⟩:=q841 w (s:=s.give x.ten 1) h x.name;obtain⟨b,c⟩:=q421 w r _ d;exact⟨b,((qt31 s x.ten 1).trans a).trans c⟩
def qc61(h:s.Str m)(name:ByteArray):(s.empty name).Str m/\Vis s (s.empty name)/\Qu.gL (s.empty name).Q name=[]:=q841 qf71 h name
def qq21(h:s.Str m)(x:LeD)(a:∀r,qe s.roles x.conn=A0 r->r.kind≠4):(s.gone x).Str m/\Vis s (s.gone x)/\Qu.gL (s.gone x).Q x.name=[]:=by have d:((s.give x.ten 1).tell x.conn ⟨10,x.name,e0,x.epoch,0⟩).Str m:=Str.tell (s:=s.give x.ten 1) h _ _;obtain⟨w,b,c⟩:=qc61 d x.name;exact⟨w,((qt31 s x.ten 1).trans (Vis.tell _ a)).trans b,c⟩
end
end
section
section
variable{m:Int}{N:Cn.CT}{R:List (Int×q31)}{P:qd6}{ps:List Ri.PS}{Q:Qu.QG}{T:TkB}{S:List (Int×q81)}{id:Int}{s:Bk}
def qr5.cut2(h:qr5 m N R P ps Q T S){g:Cn.CT}{R':List (Int×q31)}{k:qd6}{B:Qu.QG}{s:TkB}{v:List (Int×q81)}(D:Int->Prop)
 (nN:(g.L.map (·.1)).Nodup) (nR:(R'.map (·.1)).Nodup) (nP:(k.ends.map (·.1)).Nodup) (nS:(v.map (·.1)).Nodup) (l:g.last=N.last)
 (p:∀j,D j->qe g.L j=Ab) (e:∀j,¬D j->qe g.L j=qe N.L j) (x:∀j,D j->qe R' j=Ab) (a:∀j,¬D j->qe R' j=qe R j)
 (G:∀j o b,qe k.ends j=A0 (o,b)->¬D j/\qe P.ends j=A0 (o,b)/\qe k.ends o=A0 (j,!b))
 (E:∀y∈B,y∈Q/\¬D y.2) (A:s.good.Sublist T.good) (u:∀t∈s.good,¬D t.p.vis) (K:∀j,(qe v j).isSome=A4->(qe S j).isSome=A4\/(qe N.L j).isSome=A4):qr5 m g R' k ps B s v where
 nN:=nN
 nR:=nR
 nP:=nP
 nS:=nS
 nT:=h.nT.sublist (A.map _)
 same:=λj=>by
  by_cases w:D j;.rw[x j w,p j w];rfl
  .rw[a j w,e j w];exact h.same j
 role:=λj r n=>by
  by_cases w:D j;.rw[x j w]at n;cases n
  .rw[a j w]at n;exact h.role j r n
 pair:=λj o b H=>by obtain⟨c,q,F⟩:=G j o b H;obtain⟨J,_,r,i,C,I⟩:=h.pair j o b q;exact⟨J,F,r,i,by rw[a j c];exact C,I⟩
 que:=λy L=>by obtain⟨c,q⟩:=E y L;exact(h.que y c).of (a _ q)
 tick:=λt z=>(h.tick t (A.subset z)).of (a _ (u t z))
 last0:=by rw[l];exact h.last0
 last1:=by rw[l];exact h.last1
 key:=λj w=>by
  by_cases f:D j;.rw[p j f]at w;cases w
  .rw[e j f]at w;rw[l];exact h.key j w
 sk:=λj w=>by
  rw[l];rcases K j w with c|c;.exact h.sk j c
  .exact h.key j c
 cred:=λj d f=>by
  by_cases w:D j;.rw[p j w]at f;cases f
  .rw[e j w]at f;exact h.cred j d f
 mov:=h.mov
def q241(h:(P.ends.map (·.1)).Nodup)(id:Int):((qxf P id).ends.map (·.1)).Nodup:=by
 unfold qxf;split;.exact qph (qph h _) _
 .exact h
def qr11(c:(P.ends.map (·.1)).Nodup)(id j:Int):qe (qxf P id).ends j=if j=id\/((qe P.ends id).isSome=A4/\j=qb4 P id)then Ab else qe P.ends j:=by
 unfold qxf;split
 .rename_i b;show qe (qp (qp P.ends id) (qb4 P id)) j=_;rw[qaa (qph c _),qaa c];by_cases a:j=qb4 P id;.rw[yB a.symm,yB (.inr ⟨b,a⟩)]
  .rw[yA (λe=>a e.symm)];by_cases w:j=id;.rw[yB w.symm,yB (.inl w)]
   .rw[yA (λe=>w e.symm),yA (by rintro(h|h);exact w h;exact a h.2)]
 .rename_i b;by_cases w:j=id
  .rw[yB (.inl w),w];simpa using b
  .rw[yA (by rintro(h|h);exact w h;exact b h.1)]
def Str.part{r:q31}(h:s.Str m)(u:qe s.roles id=A0 r)(D:r.kind=4):({ s.out id with P:=qxf s.P id}:Bk).Str m:=by
 have p:∀j,qcc s.roles j->j≠id:=λj ⟨q,a,v⟩ e=>by subst e;rw[u]at a;cases a;omega
 refine qr5.cut2 h (λj=>id=j) ((qph (qjt h.nN _ _) _)) (qph h.nR _) (q241 h.nP _) (q9o h.nS _ _ _ _) (qx11 s id) (λj w=>(q121 h id j).trans (yB w)) (λj w=>(q121 h id j).trans (yA w)) (λj w=>(qf11 h id j).trans (yB w)) (λj w=>(qf11 h id j).trans (yA w))
  (λj o b f=>?_) (λy n=>⟨n,λe=>p _ (h.que y n) e.symm⟩) (List.Sublist.refl _) (λt A e=>p _ (h.tick t A) e.symm) λj w=>?_
 .have f:qe (qxf s.P id).ends j=A0 (o,b):=f;rw[qr11 h.nP]at f;split at f;.cases f
  .rename_i k;have a:j≠id:=λe=>k (.inl e);obtain⟨v,g,_⟩:=h.pair j o b f;have d:∀x c,qe s.P.ends id=A0 (x,c)->qb4 s.P id=x:=λx c e=>by unfold qb4;rw[e];rfl
   refine⟨λe=>a e.symm,f,?_⟩;show qe (qxf s.P id).ends o=_;rw[qr11 h.nP,yA,g];rintro(e|⟨z,B⟩)
   .rw[e]at g;exact k (.inr ⟨by rw[g];rfl,(d _ _ g).symm⟩)
   .obtain⟨⟨x,c⟩,l⟩:=A6.1 z;have C:=d _ _ l;obtain⟨_,i,_⟩:=h.pair id x c l;rw[<-C,<-B,g]at i;exact a (Prod.mk.inj (Ac i)).1
 .rcases qm51 id j w with a|a;.exact .inl a
  .subst a;rw[<-h.same,u];exact .inr yR
def Less.part{r:q31}(h:s.Str m)(id:Int)(P:qd6):Less s { s.out id with P:=P}:=let k:=Less.out h id;⟨k.pumps,k.now,k.R,k.E,k.last⟩
def Less.give(s:Bk)(ten:ByteArray)(h:Int):Less s (s.give ten h):=(qt31 s ten h).less
def qi61(n:Nat)(h:s.Str m):(Bk.shutB (n+2) s id).Str m/\Less s (Bk.shutB (n+2) s id)/\qe (Bk.shutB (n+2) s id).roles id=Ab:=by
 cases a:qe s.roles id with
 |none=>
  have e:Bk.shutB (n+2) s id=s:=by unfold Bk.shutB;rw[a]
  rw[e];exact⟨h,Less.refl s,a⟩
 |some r=>
 have w:qe (s.out id).roles id=Ab:=by rw[qf11 h,yB yR]
 by_cases G:r.kind=3
 .obtain⟨t,j,H⟩:=ql51 (n+1) h (.inr ⟨r,a,G⟩);exact⟨t,j.less,H⟩
 by_cases z:r.kind=4
 .have x:=Str.part h a z;have d:=Less.part (s:=s) (r:=r) h id (qxf s.P id);have step:∀(k:Nat),qe s.P.ends id=Ab->Bk.shutB (k+1) s id={ s.out id with P:=qxf s.P id}:=λk y=>by unfold Bk.shutB;rw[a];simp only;unfold Bk.after;rw[yA (by omega),yA (by omega),yB z];have:qe (s.out id).P.ends id=Ab:=y;rw[this];rfl
  by_cases y:qe s.P.ends id=Ab
  .rw[step _ y];exact⟨x,d,w⟩
  .obtain⟨⟨o,b⟩,A⟩:=Option.ne_none_iff_exists'.1 y;obtain⟨t,j,H⟩:=h.pair id o b A;have c:qb4 s.P id=o:=by unfold qb4;rw[A];rfl
   have e:Bk.shutB (n+2) s id=Bk.shutB (n+1) (Bk.give { s.out id with P:=qxf s.P id} r.ten 2) o:=by show Bk.shutB ((n+1)+1) s id=_;rw[Bk.shutB,a];simp only;unfold Bk.after;rw[yA (by omega),yA (by omega),yB z];have D:qe (s.out id).P.ends id=A0 (o,b):=A;have p:(s.out id).P=s.P:=rfl;rw[D,yB (show(A0 (o,b)).isSome=A4 from rfl),p,c]
   rw[e];obtain⟨u,g⟩:∃u,u=Bk.give { s.out id with P:=qxf s.P id} r.ten 2:=⟨_,rfl⟩;rw[<-g];have f:u.Str m:=by rw[g];exact x
   have C:Less s u:=by rw[g];exact d.trans (Less.give _ _ _)
   have E:qe u.roles id=Ab:=by rw[g];exact w
   obtain⟨q,i,I,v,_⟩:=h.pair o id (!b) j |>.2.2
   have l:qe u.roles o=A0 q:=by rw[g];show qe (s.out id).roles o=_;rw[qf11 h,yA (λe=>t e.symm)];exact I
   have F:qe u.P.ends o=Ab:=by rw[g];show qe (qxf s.P id).ends o=Ab;rw[qr11 h.nP,yB (.inr ⟨by rw[A];rfl,c.symm⟩)]
   have K:Bk.shutB (n+1) u o={ u.out o with P:=qxf u.P o}:=by rw[Bk.shutB,l];simp only;unfold Bk.after;rw[yA (by omega),yA (by omega),yB v];have:qe (u.out o).P.ends o=Ab:=F;rw[this];rfl
   rw[K];refine⟨Str.part f l v,C.trans (Less.part (r:=q) f o _),?_⟩;show qe (u.out o).roles id=Ab;rw[qf11 f];split;.rfl
   .exact E
 by_cases p:r.kind=2
 .have e:Bk.shutB (n+2) s id=Bk.leaveW (λs i=>Bk.shutB (n+1) s i) { s.out id with B:=(qe5 (s.out id).B id (s.out id).K.now).1} (qe5 (s.out id).B id (s.out id).K.now).2:=by show Bk.shutB ((n+1)+1) s id=_;rw[Bk.shutB,a];simp only;unfold Bk.after;rw[yB p]
  rw[e];have x:=Str.out h a (.inr p);have L:Bk.Str m { s.out id with B:=(qe5 (s.out id).B id (s.out id).K.now).1}:=x;obtain⟨t,j⟩:=q421 (qr41 n) (qe5 (s.out id).B id (s.out id).K.now).2 _ L;have d:=Less.out h id;have J:Less s { s.out id with B:=(qe5 (s.out id).B id (s.out id).K.now).1}:=⟨d.pumps,d.now,d.R,d.E,d.last⟩;refine⟨t,J.trans j.less,?_⟩;rcases j.R id with k|⟨k,_⟩;.rw[k];exact w
  .exact k
 .have D:r.kind=1:=by have:=(h.role id r a).kind;omega
  have e:Bk.shutB (n+2) s id=s.out id:=by show Bk.shutB ((n+1)+1) s id=_;rw[Bk.shutB,a];simp only;unfold Bk.after;rw[yA p,yA G,yA z]
  rw[e];exact⟨Str.out h a (.inl D),Less.out h id,w⟩
def qk11(h:s.Str m)(id:Int):(s.shut id).Str m/\Less s (s.shut id)/\qe (s.shut id).roles id=Ab:=by
 unfold Bk.shut;cases hl:s.roles with
 |nil=>
  have w:qe s.roles id=Ab:=by rw[hl];rfl
  have e:Bk.shutB (([]:List (Int×q31)).length+1) s id=s:=by unfold Bk.shutB;rw[w]
  rw[e];exact⟨h,Less.refl s,w⟩
 |cons x r=>exact qi61 r.length h
end
end
section
def qi8{α:Type}:∀{l:List α} {k:Nat},l.take k=[]->l.drop k=l
 |[],k,_=>by simp
 |a::r,0,_=>rfl
 |a::r,k+1,h=>by simp at h
structure RQ(s:Bk)(f t:q31)(i:Nat)(z:Ri.PS):Prop where
 pump:f.pump=A0 i
 at_:s.pumps[i]?=A0 z
 ok:qrr z
 inn:(s.N.ask f.conn [] λd=>d.inb.take (z.room 256 f.side))=[]
 zz:(((s.N.ask f.conn 0 (λd=>(d.inb.length:Int))==0)&&s.N.ask f.conn A2 λd=>d.ended)&&z.hears f.side)=A2
 out:z.outB t.side (s.N.ask t.conn 0 λd=>((1024 - d.out.length:Nat):Int))=[]
 en:z.outE t.side (s.N.ask t.conn 0 λd=>((1024 - d.out.length:Nat):Int))=A2
def qdg(w:Ri.Way)(m:Nat):w.add m []=w:=by unfold Ri.Way.add;simp
def qds(z:Ri.PS)(m:Nat)(n:Int):z.in_ m n []=z:=by
 unfold Ri.PS.in_;split
 .rw[qdg,qdg];split<;>rfl
 .rfl
def qig{w:Ri.Way}{k:Int}(b:qal w)(h:w.bs.take k.toNat=[])(a:w.end_ k=A2):w.out k=w:=by
 unfold Ri.Way.out;rw[h,a,qi8 h];have:Zw Zk (w.moved+((([]:List UInt8).length:Nat):Int))=w.moved:=by rw[Bf];exact(by rw[show w.moved+((0:Nat):Int)=w.moved by omega];exact b)
 rw[this,Bv]
def q4q{z:Ri.PS}{n k:Int}(c:qrr z)(a:z.outB n k=[])(w:z.outE n k=A2):z.out n k=z:=by
 unfold Ri.PS.out;unfold Ri.PS.outB at a;unfold Ri.PS.outE at w;split
 .rename_i h;rw[yB h]at a;simp only[h,B4]at w;have d:z.broken=A2:=by
   have:(!z.broken)=A4:=by rw[Aa]at h;exact h.2
   simpa using this
  unfold Ri.PS.to at a w;split
  .rename_i b;rw[yB b]at a w;rw[qig c.2 a w,<-d]
  .rename_i b;rw[yA b]at a w;rw[qig c.1 a w,<-d]
 .rfl
def qwe{α:Type}:∀{l:List α} {i:Nat} {z:α},l[i]?=A0 z->l.set i z=l
 |[],i,z,h=>by simp at h
 |a::r,0,z,h=>by simp at h;subst h;rfl
 |a::r,i+1,z,h=>by
  have:r[i]?=A0 z:=by simpa using h
  rw[Bj,qwe this]
def qvv(d:Cn.CnD):Cn.gSay [] d=d:=by
 unfold Cn.gSay;split;.rw[List.append_nil]
 .rfl
def qyg(s:Bk)(id:Int){g:Cn.CnD->Cn.CnD}(h:∀d,qe s.N.L id=A0 d->g d=d):s.upd id g=s:=by unfold Bk.upd;rw[upd_id h]
def q54{N:Cn.CT}{id:Int}{α:Type}{z:α}{r:Cn.CnD->α}{d:Cn.CnD}(h:qe N.L id=A0 d):N.ask id z r=r d:=by unfold Cn.CT.ask;rw[h]
section
variable{c:qy}{s s':Bk}{f t t':q31}{i:Nat}{z:Ri.PS}{r:q31}{id:Int}{a:Bool}
def RQ.relay(h:RQ s f t i z):s.relay c f t=A0 (s,t,A2):=by
 unfold Bk.relay;rw[h.pump];dsimp only;rw[h.at_];dsimp only;rw[Ar,h.inn];unfold Bk.relayA;have a:s.upd f.conn (Cn.gRest ((z.room 256 f.side:Nat):Int))=s:=qyg s _ λd e=>by have:=h.inn;rw[q54 e]at this;unfold Cn.gRest;rw[Ar,qi8 this]
 rw[a,qds];unfold Bk.relayB Bk.relayC;rw[h.zz];have b:(if((s.N.ask f.conn 0 (λd=>(d.inb.length:Int))==0)&&s.N.ask f.conn A2 λd=>d.ended)=A4 then z.end_ f.side else z)=z:=by
  split
  .rename_i w;have:=h.zz;rw[w,B4]at this;unfold Ri.PS.end_;rw[yA (by rw[this];simp)]
  .rfl
 rw[b];unfold Bk.relayD;rw[h.out,h.en,q4q h.ok h.out h.en];unfold Bk.relayE;rw[qyg s t.conn (λd _=>qvv d),qwe h.at_];simp
structure FQ(s:Bk)(r:q31):Prop where
 went:s.N.ask r.conn [] Cn.rFlush=[]
 en:(r.due&&(s.N.ask r.conn 0 (λd=>(d.out.length:Int))==0))=A2
def qbo{d:Cn.CnD}(c:0<=d.credit/\d.credit<=1073741824)(h:Cn.rFlush d=[]):Cn.gFlush d=d:=by have w:=(qub c).1;rw[h]at w;obtain⟨ad,g,f,e,en⟩:=d;have b:f.take e.toNat=[]:=h;have a:=qi8 b;unfold Cn.gFlush at w⊢;rw[h];rw[h]at w;simp only at w a⊢;rw[a,w];simp
def FQ.flush(h:FQ s r)(c:∀d,qe s.N.L r.conn=A0 d->0<=d.credit/\d.credit<=1073741824)(b:qe s.roles id=A0 r):s.flush id=A0 (s,A2):=by
 have a:s.upd r.conn Cn.gFlush=s:=qyg s _ λd w=>qbo (c d w) (by have:=h.went;rwa[q54 w]at this)
 have e:s.flushE r=A2:=by have:=h.en;unfold Bk.flushE;have f:s.N.upd r.conn Cn.gFlush=s.N:=yE Bk.N a;rw[f];exact this
 unfold Bk.flush;rw[b];simp only;rw[e,h.went];unfold Bk.flushS Bk.send;rw[a,h.went];unfold Bk.put Bk.flushR;rw[yA (by simp),qt1 b];rfl
end
end
def q0u(n:Int):Zw Zk (Zw Zk n)=Zw Zk n:=by
 have h: -9223372036854775808<=Zw Zk n/\Zw Zk n<=9223372036854775807:=by unfold Zw;simp only[IntKind.signed,IntKind.bits];simp;split<;>omega
 exact w64 h.1 h.2
section
section
variable{m:Int}{N:Cn.CT}{R:List (Int×q31)}{P:qd6}{ps:List Ri.PS}{Q:Qu.QG}{T:TkB}{S:List (Int×q81)}{id:Int}{s s':Bk}{c:qy}{f t t':q31}{z:Ri.PS}
def q161{w:Ri.Way}(h:qal w)(k:Nat)(xs:List UInt8):qal (w.add k xs):=by unfold Ri.Way.add;exact h
def qf51(w:Ri.Way)(k:Int):qal (w.out k):=by unfold Ri.Way.out qal;exact q0u _
def qv61(h:qrr z)(k:Nat)(n:Int)(xs:List UInt8):qrr (z.in_ k n xs):=by
 unfold Ri.PS.in_;split
 .split;.exact⟨q161 h.1 _ _,h.2⟩
  .exact⟨h.1,q161 h.2 _ _⟩
 .exact h
def qc71(h:qrr z)(n:Int):qrr (z.end_ n):=by
 unfold Ri.PS.end_;split
 .split;.exact⟨h.1,h.2⟩
  .exact⟨h.1,h.2⟩
 .exact h
def q871(h:qrr z)(n k:Int):qrr (z.out n k):=by
 unfold Ri.PS.out;split
 .split;.exact⟨h.1,qf51 _ _⟩
  .exact⟨qf51 _ _,h.2⟩
 .exact h
def qr5.pumps(h:qr5 m N R P ps Q T S){w:List Ri.PS}(l:w.length=ps.length)(f:∀z∈w,qrr z):qr5 m N R P w Q T S:=by
 have a:∀id o b,qe P.ends id=A0 (o,b)->o≠id/\qe P.ends o=A0 (id,!b)/\∃r i,qe R id=A0 r/\r.kind=4/\r.pump=A0 i/\i<w.length:=λid o b hb=>by obtain⟨k,c,r,i,g,j,d,e⟩:=h.pair id o b hb;exact⟨k,c,r,i,g,j,d,by rw[l];exact e⟩
 exact { h with mov:=f,pair:=a}
def qj51{i:Nat}{inn o:List UInt8}{ended en:Bool}(h:s.Str m)(a:qrr z):
 (Bk.relayE c s f t i inn o ended en z).1.Str m/\((Bk.relayE c s f t i inn o ended en z).1.roles=s.roles/\(Bk.relayE c s f t i inn o ended en z).1.P=s.P/\(Bk.relayE c s f t i inn o ended en z).1.B=s.B/\(Bk.relayE c s f t i inn o ended en z).1.Q=s.Q/\(Bk.relayE c s f t i inn o ended en z).1.K.now=s.K.now/\(Bk.relayE c s f t i inn o ended en z).1.pumps.length=s.pumps.length)/\(Bk.relayE c s f t i inn o ended en z).2.1={ t with due:=t.due||en}:=by
 unfold Bk.relayE;refine⟨qr5.pumps (qr5.tell h t.conn o) (Br ..) λy w=>?_,⟨rfl,rfl,rfl,rfl,?_,Br ..⟩,rfl⟩
 .rcases List.mem_or_eq_of_mem_set w with w|rfl;.exact h.mov y w
  .exact a
 .show(if decide ((inn.length:Int)+(o.length:Int)>0)=A4 then q5c s.K c.idle [f.conn,t.conn]else s.K).now=s.K.now;split;.exact qg11 _ _ _
  .rfl
def qd61{i:Nat}{inn o:List UInt8}{ended en a:Bool}(h:s.Str m)(w:qrr z)(b:Bk.relayE c s f t i inn o ended en z=(s',t',a)):
 s'.Str m/\(s'.roles=s.roles/\s'.P=s.P/\s'.B=s.B/\s'.Q=s.Q/\s'.K.now=s.K.now/\s'.pumps.length=s.pumps.length)/\t'={ t with due:=t.due||en}:=by
 have k:=qj51 (c:=c) (f:=f) (t:=t) (i:=i) (inn:=inn) (o:=o) (ended:=ended) (en:=en) h w;rw[b]at k;exact k
def qf41{a:Bool}(h:s.Str m)(w:s.relay c f t=A0 (s',t',a)):s'.Str m/\(s'.roles=s.roles/\s'.P=s.P/\s'.B=s.B/\s'.Q=s.Q/\s'.K.now=s.K.now/\s'.pumps.length=s.pumps.length)/\∃b,t'={ t with due:=b}:=by
 unfold Bk.relay at w;cases hp:f.pump with
 |none=>rw[hp]at w;cases w
 |some i=>
 rw[hp]at w;dsimp only at w;cases hz:s.pumps[i]? with
 |none=>rw[hz]at w;cases w
 |some z=>
 rw[hz]at w;dsimp only at w;have e:qrr z:=h.mov z (Ah hz);generalize s.N.ask f.conn [] (λd=>d.inb.take ((z.room 256 f.side:Nat):Int).toNat)=inn at w;have n:(s.upd f.conn (Cn.gRest ((z.room 256 f.side:Nat):Int))).Str m:=qr5.upd h f.conn λd l=>l;unfold Bk.relayA Bk.relayB Bk.relayC Bk.relayD at w;have w:=Ac w;generalize j:((s.upd f.conn (Cn.gRest ((z.room 256 f.side:Nat):Int))).N.ask f.conn 0 (λd=>(d.inb.length:Int))==0&&(s.upd f.conn (Cn.gRest ((z.room 256 f.side:Nat):Int))).N.ask f.conn A2 λd=>d.ended)=zz at w;have g:qrr (if zz=A4 then(z.in_ 256 f.side inn).end_ f.side else z.in_ 256 f.side inn):=by
  split;.exact qc71 (qv61 e _ _ _) _
  .exact qv61 e _ _ _
 have k:=qd61 n (q871 g _ _) w;exact⟨k.1,k.2.1,_,k.2.2⟩
def q341{i:Nat}(h:f.pump=A0 i)(w:i<s.pumps.length):∃s' t' a,s.relay c f t=A0 (s',t',a):=by unfold Bk.relay;rw[h];dsimp only;rw[A5 w];exact⟨_,_,_,rfl⟩
def Sim(R R':List (Int×q31)):Prop:=∀id,(qe R id=Ab->qe R' id=Ab)/\∀r,qe R id=A0 r->∃b d,qe R' id=A0 { r with due:=b,said:=d}
def Sim.refl(R:List (Int×q31)):Sim R R:=λid=>⟨λh=>h,λr h=>⟨r.due,r.said,h⟩⟩
def Sim.trans{A B C:List (Int×q31)}(h:Sim A B)(k:Sim B C):Sim A C:=λid=>⟨λe=>(k id).1 ((h id).1 e),λr e=>by obtain⟨b,d,w⟩:=(h id).2 r e;obtain⟨f,a,c⟩:=(k id).2 _ w;exact⟨f,a,c⟩⟩
def Sim.put{R:List (Int×q31)}{r:q31}(a:qe R id=A0 r)(b d:Bool):Sim R (qk R id { r with due:=b,said:=d}):=λj=>by
 rw[qh2];split
 .rename_i e;subst e;exact⟨λh=>(by rw[a]at h;cases h),λq w=>(by rw[a]at w;cases w;exact⟨b,d,rfl⟩)⟩
 .exact⟨λh=>h,λq w=>⟨q.due,q.said,w⟩⟩
structure Rnd(s s':Bk):Prop where
 P:s'.P=s.P
 B:s'.B=s.B
 Q:s'.Q=s.Q
 now:s'.K.now=s.K.now
 len:s'.pumps.length=s.pumps.length
 sim:Sim s.roles s'.roles
def Rnd.refl(s:Bk):Rnd s s:=⟨rfl,rfl,rfl,rfl,rfl,Sim.refl _⟩
def Rnd.trans{s t u:Bk}(h:Rnd s t)(k:Rnd t u):Rnd s u:=⟨k.P.trans h.P,k.B.trans h.B,k.Q.trans h.Q,k.now.trans h.now,k.len.trans h.len,h.sim.trans k.sim⟩
def qr51{v k:Int}{fl:Bool}{b:Bool}(h:s.Str m)(W:qe s.P.ends v=A0 (k,b)):∃s' fl',Bk.relays c (s,fl) (v,k)=A0 (s',fl')/\s'.Str m/\Rnd s s':=by
 obtain⟨u,O,rv,i,p,h4,E,J⟩:=h.pair v k b W;obtain⟨_,_,l,j,q,h8,R,x⟩:=h.pair k v (!b) O;unfold Bk.relays;rw[yA (λe=>u e.symm)];simp only;rw[p,q];simp only;obtain⟨L,g,a1,z⟩:=q341 (c:=c) (s:=s) (f:=rv) (t:=l) E J;rw[z];obtain⟨Y,⟨X,K,N,g5,D,B⟩,C,a⟩:=qf41 h z;simp only;have y:g.pump=A0 j:=by rw[a];exact R
 obtain⟨n,M,a2,A⟩:=q341 (c:=c) (s:=L) (f:=g) (t:=rv) y (by rw[B];exact x);rw[A];obtain⟨F,⟨P,G,U,Z,T,H⟩,Q,d⟩:=qf41 Y A;simp only;have w:n.roles=s.roles:=P.trans X;have I:Sim s.roles (qk (qk n.roles k g) v M):=by
  rw[w,a,d];have o:=Sim.put q C l.said;have V:qe (qk s.roles k { l with due:=C}) v=A0 rv:=by rw[qh2,yA u];exact p
  exact o.trans (Sim.put V Q rv.said)
 refine⟨_,_,rfl,?_,⟨G.trans K,U.trans N,Z.trans g5,T.trans D,H.trans B,I⟩⟩;have o:((n.put k g)).Str m:=qr5.put F (r:=l) (by rw[w];exact q) (by rw[a]) (by rw[a]) (by rw[a]) (by rw[a]);exact qr5.put o (r:=rv) (by show qe (qk n.roles k g) v=_;rw[qh2,yA u,w];exact p) (by rw[d]) (by rw[d]) (by rw[d]) (by rw[d])
end
end
def qme{α σ:Type}(f:σ->α->Option σ)(s:σ)(a:α)(l:List α):qw1 f s (a::l)=match f s a with|none=>Ab|some s=>qw1 f s l:=rfl
section
section
variable{m:Int}{s s':Bk}{c:qy}{id:Int}
def ql41(h:s.Str m)(hid:(qe s.N.L id).isSome=A4):∃s' a,s.flush id=A0 (s',a)/\s'.Str m/\Rnd s s'/\∀j,(qe s'.N.L j).isSome=(qe s.N.L j).isSome:=by
 have f:(qe s.roles id).isSome=A4:=by rw[h.same];exact hid
 obtain⟨r,w⟩:=A6.1 f;have k:=(h.role id r w).conn;unfold Bk.flush;rw[w];simp only;have l:(s.upd r.conn Cn.gFlush).Str m:=qr5.flush h r.conn;have g:∀j,(qe (s.N.upd r.conn Cn.gFlush).L j).isSome=(qe s.N.L j).isSome:=λj=>by
  rw[ql3];split;.rw[Bl]
  .rfl
 have i:(s.flushS r (s.flushE r)).Str m:=qr5.send l (id:=r.conn) (by show(qe (s.N.upd r.conn Cn.gFlush).L r.conn).isSome=A4;rw[g,k];exact hid) _ _ _;have c:∃b d,Bk.flushR r (s.flushE r)={ r with due:=b,said:=d}:=by
  unfold Bk.flushR;split;.exact⟨_,_,rfl⟩
  .exact⟨r.due,r.said,rfl⟩
 obtain⟨b,d,c⟩:=c;refine⟨_,_,rfl,?_,⟨rfl,rfl,rfl,rfl,rfl,?_⟩,g⟩;.exact qr5.put i (r:=r) w (by show(Bk.flushR r _).conn=_;unfold Bk.flushR;split<;>rfl) (by show(Bk.flushR r _).kind=_;unfold Bk.flushR;split<;>rfl) (by show(Bk.flushR r _).sh.isSome=_;unfold Bk.flushR;split<;>rfl) (by show(Bk.flushR r _).pump=_;unfold Bk.flushR;split<;>rfl)
 .show Sim s.roles (qk s.roles id (Bk.flushR r (s.flushE r)));have e:Bk.flushR r (s.flushE r)={ r with due:=b,said:=d}:=c;rw[e];exact Sim.put w b d
def qp31:∀(l:List Int) (s:Bk) (fl:Bool),s.Str m->(∀id∈l,(qe s.N.L id).isSome=A4)->∃s' fl',qw1 Bk.flushes (s,fl) l=A0 (s',fl')/\s'.Str m/\Rnd s s'/\∀j,(qe s'.N.L j).isSome=(qe s.N.L j).isSome
 |[],s,fl,h,_=>⟨s,fl,rfl,h,Rnd.refl s,λ_=>rfl⟩
 |a::r,s,fl,h,d=>by
  obtain⟨w,b,k,p,o,c⟩:=ql41 h (d a A3);obtain⟨g,q,n,e,f,i⟩:=qp31 r w (b||fl) p λid hid=>by rw[c];exact d id (A1 _ hid)
  refine⟨g,q,?_,e,o.trans f,λj=>(i j).trans (c j)⟩;have:Bk.flushes (s,fl) a=A0 (w,b||fl):=by unfold Bk.flushes;rw[k]
  rw[qme,this];exact n
def qe21:∀(l:List (Int×Int)) (s:Bk) (fl:Bool),s.Str m->(∀p∈l,∃b,qe s.P.ends p.1=A0 (p.2,b))->∃s' fl',qw1 (Bk.relays c) (s,fl) l=A0 (s',fl')/\s'.Str m/\Rnd s s'
 |[],s,fl,h,_=>⟨s,fl,rfl,h,Rnd.refl s⟩
 |a::r,s,fl,h,f=>by
  obtain⟨b,g⟩:=f a A3;obtain⟨d,w,o,t,e⟩:=qr51 (c:=c) (fl:=fl) h g;obtain⟨n,u,q,i,k⟩:=qe21 r d w t λp j=>by rw[e.P];exact f p (A1 _ j)
  refine⟨n,u,?_,i,e.trans k⟩;have:Bk.relays c (s,fl) a=A0 (d,w):=o;rw[qme,this];exact q
def qz11(h:s.Str m):∀p∈qtc s.P,∃b,qe s.P.ends p.1=A0 (p.2,b):=λp a=>by obtain⟨v,c,rfl⟩:=Af.1 a;obtain⟨x,w,rfl⟩:=Af.1 ((qv1 leI _).mem_iff.1 c);have w:=(Ao.1 w).1;have e:=q24 h.nP w;exact⟨x.2.2,by rw[e];unfold qb4;rw[e];rfl⟩
end
end
section
section
variable{m:Int}{s s':Bk}{c:qy}{id:Int}
def qx31{α:Type}{L:List (Int×α)}(h:(L.map (·.1)).Nodup)(a:∀id,(qe L id).isSome=A4->1<=id/\id<=1000000):L.length<=1000000:=by have:=q811 1000000 (L.map (·.1)) h λx w=>a x (q201.2 w);rwa[B5]at this
def Str.lenN(h:s.Str m)(b:m<=1000000):s.N.L.length<=1000000:=qx31 h.nN λid hid=>by have a:=h.key id hid;have w:=h.last1;omega
def Str.lenS(h:s.Str m)(b:m<=1000000):s.S.length<=1000000:=qx31 h.nS λid hid=>by have a:=h.sk id hid;have w:=h.last1;omega
def Str.lenP(h:s.Str m)(d:m<=1000000):s.P.ends.length<=1000000:=qx31 h.nP λid hid=>by obtain⟨⟨o,b⟩,a⟩:=A6.1 hid;obtain⟨_,_,r,i,w,_⟩:=h.pair id o b a;have e:=h.key id (by rw[<-h.same,w];rfl);have c:=h.last1;omega
def qi41(h:s.Str m)(e:m<=1000000):∃w b a d,qw1 (Bk.relays c) (s,A2) (qtc s.P)=A0 (w,b)/\¬1000000<w.N.L.length/\qw1 Bk.flushes (w,b) w.ids=A0 (a,d)/\a.Str m/\Rnd s a/\s.round c=qw1 Bk.ends (a,d) (qtc s.P):=by obtain⟨w,b,f,i,l⟩:=qe21 (c:=c) (qtc s.P) s A2 h (qz11 h);have n:=Str.lenN i e;obtain⟨a,d,g,j,k,_⟩:=qp31 w.ids w b i λid hid=>q201.2 ((qv1 leI _).mem_iff.1 hid);refine⟨w,b,a,d,f,by omega,g,j,l.trans k,?_⟩;unfold Bk.round;rw[yA (by have:=Str.lenP h e;omega),f];simp only;rw[yA (by omega),g]
end
end
section
section
variable{m:Int}{s s':Bk}{c:qy}{id o:Int}{b:Bool}{r:q31}
def qs11(n:Nat)(h:s.Str m)(c:qe s.P.ends id=A0 (o,b))(p:qe s.roles id=A0 r):
 Bk.shutB (n+2) s id={(Bk.give { s.out id with P:=qxf s.P id} r.ten 2).out o with P:=qxf (qxf s.P id) o}:=by
 obtain⟨y,x,A,i0,a,f,_⟩:=h.pair id o b c;rw[p]at a;cases a;have w:qb4 s.P id=o:=by unfold qb4;rw[c];rfl
 have e:Bk.shutB (n+2) s id=Bk.shutB (n+1) (Bk.give { s.out id with P:=qxf s.P id} r.ten 2) o:=by show Bk.shutB ((n+1)+1) s id=_;rw[Bk.shutB,p];simp only;unfold Bk.after;rw[yA (by omega),yA (by omega),yB f];have z:qe (s.out id).P.ends id=A0 (o,b):=c;have t:(s.out id).P=s.P:=rfl;rw[z,yB (show(A0 (o,b)).isSome=A4 from rfl),t,w]
 rw[e];obtain⟨q,i,v,d,_⟩:=h.pair o id (!b) x |>.2.2
 obtain⟨u,k⟩:∃u,u=Bk.give { s.out id with P:=qxf s.P id} r.ten 2:=⟨_,rfl⟩;have g:qe u.roles o=A0 q:=by rw[k];show qe (s.out id).roles o=_;rw[qf11 h,yA (λe=>y e.symm)];exact v
 have l:u.P=qxf s.P id:=by rw[k];rfl
 have j:qe u.P.ends o=Ab:=by rw[l,qr11 h.nP,yB (.inr ⟨by rw[c];rfl,w.symm⟩)]
 rw[<-k,Bk.shutB,g];simp only;unfold Bk.after;rw[yA (by omega),yA (by omega),yB d];have:qe (u.out o).P.ends o=Ab:=j;rw[this,<-l];rfl
def qn31(h:s.Str m)(d:qe s.P.ends id=A0 (o,b)):(s.shut id).B=s.B/\(s.shut id).Q=s.Q/\∀j,j≠id->j≠o->qe (s.shut id).P.ends j=qe s.P.ends j/\qe (s.shut id).roles j=qe s.roles j:=by
 obtain⟨A,z,r,i0,c,g,_⟩:=h.pair id o b d;have w:qb4 s.P id=o:=by unfold qb4;rw[d];rfl
 have v:∃n,s.roles.length+1=n+2:=by
  cases hs:s.roles with
  |nil=>rw[hs]at c;cases c
  |cons x y=>exact⟨y.length,rfl⟩
 obtain⟨n,t⟩:=v;have e:s.shut id={(Bk.give { s.out id with P:=qxf s.P id} r.ten 2).out o with P:=qxf (qxf s.P id) o}:=by rw[<-qs11 n h d c,<-t];rfl
 have q:=Str.part h c g;obtain⟨u,a⟩:∃u,u=Bk.give { s.out id with P:=qxf s.P id} r.ten 2:=⟨_,rfl⟩;have i:u.Str m:=by rw[a];exact q
 rw[<-a]at e;rw[e];refine⟨by rw[a];rfl,by rw[a];rfl,λj p f=>⟨?_,?_⟩⟩
 .show qe (qxf (qxf s.P id) o).ends j=_;have l:=q241 h.nP id;rw[qr11 l,yA,qr11 h.nP,yA]
  .rintro(k|⟨_,k⟩);.exact p k
   .exact f (k.trans w)
  .rintro(k|⟨k,_⟩);.exact f k
   .rw[qr11 h.nP,yB (.inr ⟨by rw[d];rfl,w.symm⟩)]at k;cases k
 .show qe (u.out o).roles j=_;rw[qf11 i,yA (λk=>f k.symm),a];show qe (s.out id).roles j=_;rw[qf11 h,yA (λk=>p k.symm)]
def qo51(p q:Int×Int):Prop:=q.1≠p.1/\q.1≠p.2/\q.2≠p.1/\q.2≠p.2
def qj41:∀(l:List (Int×Int)) (s:Bk) (fl:Bool),s.Str m->(∀p∈l,∃b,qe s.P.ends p.1=A0 (p.2,b))->l.Pairwise qo51->∃s' fl',qw1 Bk.ends (s,fl) l=A0 (s',fl')/\s'.Str m/\s'.B=s.B/\s'.Q=s.Q/\Less s s'
 |[],s,fl,h,_,_=>⟨s,fl,rfl,h,rfl,rfl,Less.refl s⟩
 |a::r,s,fl,h,v,c=>by
  obtain⟨d,f⟩:=Ay.1 c;obtain⟨b,u⟩:=v a A3;obtain⟨B,D,rv,i,y,_⟩:=h.pair a.1 a.2 b u;obtain⟨_,_,J,j,H,_⟩:=h.pair a.2 a.1 (!b) D;have step:∃w n,Bk.ends (s,fl) a=A0 (w,n)/\w.Str m/\w.B=s.B/\w.Q=s.Q/\Less s w/\∀p∈r,qe w.P.ends p.1=qe s.P.ends p.1:=by
   unfold Bk.ends;rw[yA (λe=>B e.symm)];simp only;rw[y];simp only;split;.exact⟨s,fl,rfl,h,rfl,rfl,Less.refl s,λ_ _=>rfl⟩
   .rw[H];simp only;split
    .obtain⟨q,o,_⟩:=qk11 h a.1;obtain⟨g,k,t⟩:=qn31 h u;exact⟨_,_,rfl,q,g,k,o,λp c=>(t p.1 (d p c).1 (d p c).2.1).1⟩
    .exact⟨s,fl,rfl,h,rfl,rfl,Less.refl s,λ_ _=>rfl⟩
  obtain⟨w,n,z,q,o,g,k,t⟩:=step;obtain⟨E,C,A,I,F,x,G⟩:=qj41 r w n q (λp c=>by rw[t p c];exact v p (A1 _ c)) f;exact⟨E,C,by rw[qme,z];exact A,I,F.trans o,x.trans g,k.trans G⟩
def q941(h:s.Str m):(qtc s.P).Pairwise qo51:=by
 have b:(qw4 s.P).Nodup:=(qv1 leI _).nodup_iff.2 ((Bh.map _).nodup h.nP);have f:∀v∈qw4 s.P,∃k,qe s.P.ends v=A0 (k,A4)/\qb4 s.P v=k/\qe s.P.ends k=A0 (v,A2):=λv b=>by obtain⟨x,d,rfl⟩:=Af.1 ((qv1 leI _).mem_iff.1 b);obtain⟨d,n⟩:=Ao.1 d;have e:=q24 h.nP d;obtain⟨q,i,y⟩:=x;simp only at n e⊢;subst n;obtain⟨_,g,_⟩:=h.pair q i A4 e;exact⟨i,e,by unfold qb4;rw[e];rfl,g⟩
 unfold qtc;rw[List.pairwise_map];refine List.Pairwise.imp_of_mem ?_ b;intro v w b u a;obtain⟨k,r,t,o⟩:=f v b;obtain⟨l,j,p,c⟩:=f w u;show w≠v/\w≠qb4 s.P v/\qb4 s.P w≠v/\qb4 s.P w≠qb4 s.P v;rw[t,p];refine⟨λe=>a e.symm,λe=>?_,λe=>?_,λe=>?_⟩;.rw[e,o]at j;cases j
 .rw[e,r]at c;cases c
 .rw[e,o]at c;cases c;exact a yR
def qo81(h:s.Str m)(f:m<=1000000):∃s' fl,s.round c=A0 (s',fl)/\s'.Str m/\s'.B=s.B/\s'.Q=s.Q/\s'.K.now=s.K.now:=by obtain⟨t,r,d,o,_,_,_,a,w,e⟩:=qi41 (c:=c) h f;obtain⟨j,k,q,l,n,g,i⟩:=qj41 (qtc s.P) d o a (λp b=>by rw[w.P];exact qz11 h p b) (q941 h);exact⟨j,k,e.trans q,l,n.trans w.B,g.trans w.Q,i.now.trans w.now⟩
end
end
section
section
variable{m:Int}{s s':Bk}{c:qy}{f t t':q31}{id:Int}
def qs31(o:∀z∈s.pumps,qrr z)(h:s.relay c f t=A0 (s',t',A2)):s'=s/\t'=t/\∃i z,RQ s f t i z:=by
 have l:=h;unfold Bk.relay at h;cases j:f.pump with
 |none=>rw[j]at h;cases h
 |some i=>
 rw[j]at h;dsimp only at h;cases e:s.pumps[i]? with
 |none=>rw[e]at h;cases h
 |some z=>
 rw[e]at h;dsimp only at h;generalize w:s.N.ask f.conn [] (λd=>d.inb.take ((z.room 256 f.side:Nat):Int).toNat)=inn at h;have key:(Bk.relayA c s f t i z inn).2.2=A2:=by rw[Ac h]
 unfold Bk.relayA Bk.relayB Bk.relayC Bk.relayD Bk.relayE at key;simp only[As,decide_eq_false_iff_not]at key;obtain⟨n,b,g⟩:=key;have u:inn=[]:=by apply An;omega
 subst u;have a:(s.N.ask f.conn [] λd=>d.inb.take (z.room 256 f.side))=[]:=by rw[Ar]at w;exact w
 have r:s.upd f.conn (Cn.gRest ((z.room 256 f.side:Nat):Int))=s:=qyg s _ λd p=>by rw[q54 p]at a;unfold Cn.gRest;rw[Ar,qi8 a]
 rw[r,qds]at n b g;generalize m:(s.N.ask f.conn 0 (λd=>(d.inb.length:Int))==0&&s.N.ask f.conn A2 λd=>d.ended)=zz at n b g;have v:(if zz=A4 then z.end_ f.side else z)=z:=by
  split
  .rename_i k;rw[k,B4]at b;unfold Ri.PS.end_;rw[yA (by rw[b];simp)]
  .rfl
 rw[v]at n g;have q:RQ s f t i z:=⟨j,e,o z (Ah e),a,by rw[m];exact b,by apply An;omega,g⟩
 have:=q.relay (c:=c);rw[l]at this;cases this;exact⟨rfl,rfl,i,z,q⟩
def q551(f:∀d,qe s.N.L id=A0 d->0<=d.credit/\d.credit<=1073741824)(e:∀r,qe s.roles id=A0 r->r.conn=id)(h:s.flush id=A0 (s',A2)):s'=s/\∃r,qe s.roles id=A0 r/\FQ s r:=by
 have b:=h;unfold Bk.flush at h;cases hg:qe s.roles id with
 |none=>rw[hg]at h;cases h
 |some r=>
 rw[hg]at h;simp only at h;have key:=yE Prod.snd (Ac h);simp only[As,decide_eq_false_iff_not]at key;obtain⟨k,c⟩:=key;have w:=e r hg;have g:s.N.ask r.conn [] Cn.rFlush=[]:=by apply An;omega
 have i:s.upd r.conn Cn.gFlush=s:=qyg s _ λd a=>qbo (f d (by rw[<-w];exact a)) (by rwa[q54 a]at g);have q:FQ s r:=⟨g,by unfold Bk.flushE at c;have j:s.N.upd r.conn Cn.gFlush=s.N:=yE Bk.N i;rw[j]at c;exact c⟩
 have:=q.flush (λd a=>f d (by rw[<-w];exact a)) hg;rw[b]at this;cases this;exact⟨rfl,r,rfl,q⟩
def q251{fl:Bool}{p:Int×Int}(b:∀z∈s.pumps,qrr z)(h:Bk.relays c (s,fl) p=A0 (s',A2)):fl=A2/\s'=s/\∃rv w,qe s.roles p.1=A0 rv/\qe s.roles p.2=A0 w/\(∃i z,RQ s rv w i z)/\∃i z,RQ s w rv i z:=by
 unfold Bk.relays at h;split at h;.cases h
 simp only at h;cases h1:qe s.roles p.1 with
 |none=>rw[h1]at h;cases h
 |some rv=>
 cases a:qe s.roles p.2 with
 |none=>rw[h1,a]at h;cases h
 |some w=>
 rw[h1,a]at h;simp only at h;cases e1:s.relay c rv w with
 |none=>rw[e1]at h;cases h
 |some x=>
 obtain⟨k,r,u⟩:=x;rw[e1]at h;simp only at h;cases e2:k.relay c r rv with
 |none=>rw[e2]at h;cases h
 |some x=>
 obtain⟨y,v,a2⟩:=x;rw[e2]at h;simp only at h;have h:=Ac h;have e:=yE Prod.snd h;have d:=yE Prod.fst h;simp only[As]at e d;obtain⟨g,m,n⟩:=e;subst g m;obtain⟨q,o,j⟩:=qs31 b e1;subst q o;obtain⟨l,t,f⟩:=qs31 b e2;subst l t;refine⟨n,?_,_,_,rfl,rfl,j,f⟩;rw[<-d];simp only[Bk.put];rw[qt1 a,qt1 h1]
def qh31:∀(l:List (Int×Int)) {fl:Bool},(∀z∈s.pumps,qrr z)->qw1 (Bk.relays c) (s,fl) l=A0 (s',A2)->fl=A2/\s'=s/\∀p∈l,∃rv g,qe s.roles p.1=A0 rv/\qe s.roles p.2=A0 g/\(∃i z,RQ s rv g i z)/\∃i z,RQ s g rv i z
 |[],fl,d,h=>by cases h;exact⟨rfl,rfl,λp w=>by cases w⟩
 |a::r,fl,d,h=>by
  rw[qme]at h;cases e:Bk.relays c (s,fl) a with
  |none=>rw[e]at h;cases h
  |some x=>
  obtain⟨m,k⟩:=x;rw[e]at h;simp only at h;cases k with
  |true=>
   exfalso;clear e;have key:∀(l:List (Int×Int)) (u:Bk),qw1 (Bk.relays c) (u,A4) l≠A0 (s',A2):=by
    intro l;induction l with
    |nil=>intro u h;cases h
    |cons b q ih=>
     intro u h;rw[qme]at h;cases e:Bk.relays c (u,A4) b with
     |none=>rw[e]at h;cases h
     |some y=>
     obtain⟨u1,f⟩:=y;rw[e]at h;simp only at h;have:f=A4:=by
      unfold Bk.relays at e;split at e;.cases e
      split at e
      .split at e;.cases e
       .split at e;.cases e
        .cases e;simp
      .cases e
     subst this;exact ih u1 h
   exact key r m h
  |false=>obtain⟨f,o,j⟩:=q251 d e;rw[o]at h;obtain⟨_,t,n⟩:=qh31 r d h;exact⟨f,t,λp w=>(Aj.1 w).elim (λe=>by rw[e];exact j) λw=>n p w⟩
def qg31:∀(l:List Int) (u:Bk),qw1 Bk.flushes (u,A4) l≠A0 (s',A2)
 |[],u,h=>by cases h
 |a::r,u,h=>by
  rw[qme]at h;unfold Bk.flushes at h;cases e:u.flush a with
  |none=>simp only[e]at h;cases h
  |some y=>obtain⟨u1,x⟩:=y;simp only[e,Bool.or_true]at h;exact qg31 r u1 h
def qr21:∀(l:List Int) {fl:Bool},(∀id d,qe s.N.L id=A0 d->0<=d.credit/\d.credit<=1073741824)->(∀id r,qe s.roles id=A0 r->r.conn=id)->qw1 Bk.flushes (s,fl) l=A0 (s',A2)->fl=A2/\s'=s/\∀id∈l,∃r,qe s.roles id=A0 r/\FQ s r
 |[],fl,c,f,h=>by cases h;exact⟨rfl,rfl,λp w=>by cases w⟩
 |a::r,fl,c,f,h=>by
  rw[qme]at h;cases e:Bk.flushes (s,fl) a with
  |none=>rw[e]at h;cases h
  |some x=>
  obtain⟨j,i⟩:=x;rw[e]at h;simp only at h;cases i with
  |true=>exact yI h (qg31 r j)
  |false=>
   unfold Bk.flushes at e;cases e2:s.flush a with
   |none=>simp only[e2]at e;cases e
   |some y=>
   obtain⟨u1,x⟩:=y;simp only[e2]at e;have b:=yE Prod.snd (Ac e);have es:=yE Prod.fst (Ac e);simp only[As]at b es;rw[b.1]at e2;obtain⟨n,m⟩:=q551 (λd k=>c a d k) (λq g=>f a q g) e2;rw[<-es,n]at h;obtain⟨_,o,t⟩:=qr21 r c f h;exact⟨b.2,o,λp w=>(Aj.1 w).elim (λe=>by rw[e];exact m) λw=>t p w⟩
def q351{fl:Bool}{p:Int×Int}{u:Bk}{x:Bk×Bool}(h:Bk.ends (u,fl) p=A0 x):x.2=A4\/(x=(u,fl)/\∃rv,qe u.roles p.1=A0 rv/\(rv.said=A2\/∃w,qe u.roles p.2=A0 w/\w.said=A2)):=by
 unfold Bk.ends at h;split at h;.cases h
 simp only at h;cases h1:qe u.roles p.1 with
 |none=>rw[h1]at h;cases h
 |some rv=>
 rw[h1]at h;simp only at h;split at h
 .rename_i a;cases h;exact .inr ⟨rfl,rv,rfl,.inl a⟩
 .cases h2:qe u.roles p.2 with
  |none=>rw[h2]at h;cases h
  |some w=>
  rw[h2]at h;simp only at h;split at h;.cases h;exact .inl yR
  .rename_i a;cases h;exact .inr ⟨rfl,rv,rfl,.inr ⟨w,rfl,by simpa using a⟩⟩
def qk41:∀(l:List (Int×Int)) (u:Bk),qw1 Bk.ends (u,A4) l≠A0 (s',A2)
 |[],u,h=>by cases h
 |a::r,u,h=>by
  rw[qme]at h;cases e:Bk.ends (u,A4) a with
  |none=>rw[e]at h;cases h
  |some x=>
  rw[e]at h;simp only at h;have w:x=(x.1,A4):=by
   rcases q351 e with k|⟨k,_⟩;.rw[<-k]
   .rw[k]
  rw[w]at h;exact qk41 r _ h
def q441:∀(l:List (Int×Int)) {fl:Bool},qw1 Bk.ends (s,fl) l=A0 (s',A2)->fl=A2/\s'=s/\∀p∈l,∃rv,qe s.roles p.1=A0 rv/\(rv.said=A2\/∃b,qe s.roles p.2=A0 b/\b.said=A2)
 |[],fl,h=>by cases h;exact⟨rfl,rfl,λp w=>by cases w⟩
 |a::r,fl,h=>by
  rw[qme]at h;cases e:Bk.ends (s,fl) a with
  |none=>rw[e]at h;cases h
  |some x=>
  rw[e]at h;simp only at h;rcases q351 e with k|⟨k,f⟩
  .have d:x=(x.1,A4):=by rw[<-k]
   rw[d]at h;exact yI h (qk41 r _)
  .rw[k]at h;obtain⟨g,i,c⟩:=q441 r h;exact⟨g,i,λp w=>(Aj.1 w).elim (λe=>by rw[e];exact f) λw=>c p w⟩
structure qj11(s:Bk):Prop where
 rel:∀p∈qtc s.P,∃rv rk,qe s.roles p.1=A0 rv/\qe s.roles p.2=A0 rk/\(∃i z,RQ s rv rk i z)/\∃i z,RQ s rk rv i z
 flu:∀id∈s.ids,∃r,qe s.roles id=A0 r/\FQ s r
 end_:∀p∈qtc s.P,∃rv,qe s.roles p.1=A0 rv/\(rv.said=A2\/∃rk,qe s.roles p.2=A0 rk/\rk.said=A2)
def qq31(h:s.Str m)(w:s.round c=A0 (s',A2)):s'=s/\qj11 s:=by
 unfold Bk.round at w;split at w;.cases w
 cases e1:qw1 (Bk.relays c) (s,A2) (qtc s.P)with
 |none=>rw[e1]at w;cases w
 |some x=>
 obtain⟨b,n⟩:=x;rw[e1]at w;simp only at w;split at w;.cases w
 cases e2:qw1 Bk.flushes (b,n) b.ids with
 |none=>rw[e2]at w;cases w
 |some x=>
 obtain⟨t,v⟩:=x;rw[e2]at w;simp only at w;obtain⟨q,e,d⟩:=q441 _ w;subst q;obtain⟨l,k,i,a,u⟩:=qe21 (c:=c) (qtc s.P) s A2 h (qz11 h);rw[e1]at i;cases i;obtain⟨p,f,g⟩:=qr21 b.ids a.cred (λid r w=>(a.role id r w).conn) e2;subst p;obtain⟨_,j,o⟩:=qh31 _ h.mov e1;rw[j]at f g;rw[f]at e d;exact⟨e,o,g,d⟩
end
end
section
open Classical in
def qj31(so:LeD->Bool)(df:LeD->LeD):∀(l:List ByteArray) (s:LeL×List LeD) (k:ByteArray),l.Nodup->qe (l.foldl (q64 so df) s).1 k=if k∈l then(qe s.1 k).map (λd=>if so d=A4 then df d else d)else qe s.1 k
 |[],s,k,_=>by simp
 |a::r,s,k,c=>by
  obtain⟨b,g⟩:=Ax.1 c;rw[Ag,qj31 so df r _ k g];have step:qe (q64 so df s a).1 k=if k=a then(qe s.1 k).map (λd=>if so d=A4 then df d else d)else qe s.1 k:=by
   unfold q64;by_cases e:k=a
   .subst e;rw[yB yR];cases h:qe s.1 k with
    |none=>simp only[h,Option.map_none]
    |some d=>
     simp only[Option.map_some];split;.rw[qh2,yB yR]
     .exact h
   .rw[yA e];cases h:qe s.1 a with
    |none=>rfl
    |some d=>
     simp only;split;.rw[qh2,yA (λf=>e f.symm)]
     .rfl
  rw[step];by_cases e:k=a
  .subst e;rw[yA b,yB yR,yB A3]
  .rw[yA e];by_cases w:k∈r;.rw[yB w,yB (A1 _ w)]
   .rw[yA w,yA (λh=>(Aj.1 h).elim e w)]
open Classical in
def qb61(so:LeD->Bool)(df:LeD->LeD){L:LeL}(w:(L.map (·.1)).Nodup)(k:ByteArray):qe (qk4 so df L).1 k=(qe L k).map λd=>if so d=A4 then df d else d:=by
 unfold qk4;rw[qj31 so df _ _ k ((qv1 leS _).nodup_iff.2 w)];split;.rfl
 .rename_i h;have:qe L k=Ab:=by
   cases e:qe L k with
   |none=>rfl
   |some d=>exact yI ((qv1 leS _).mem_iff.2 (Af.2 ⟨_,qg3 e,rfl⟩)) h
  rw[this];rfl
end
section
def sumV{κ ν:Type}(f:ν->Nat)(L:List (κ×ν)):Nat:=(L.map λx=>f x.2).sum
section
variable{κ ν:Type}[DecidableEq κ]
def qn11(f:ν->Nat):∀{L:List (κ×ν)} {k:κ} {v:ν} (w:ν),qe L k=A0 v->sumV f (qk L k w)+f v=sumV f L+f w
 |[],k,v,w,h=>by cases h
 |x::r,k,v,w,h=>by
  simp only[qe]at h;simp only[qk];split
  .rename_i e;rw[yB e]at h;cases h;simp only[sumV,Ap,Av];omega
  .rename_i e;rw[yA e]at h;have:=qn11 f w h;simp only[sumV,Ap,Av]at this⊢;omega
def qm31(f:ν->Nat):∀(L:List (κ×ν)) (k:κ),sumV f (qp L k)<=sumV f L
 |[],k=>Ai _
 |x::r,k=>by
  simp only[qp];split
  .simp only[sumV,Ap,Av];omega
  .have:=qm31 f r k;simp only[sumV,Ap,Av]at this⊢;omega
end
def qe51{α:Type}(f:α->Nat):∀{l:List α} {i:Nat} {z:α} (w:α),l[i]?=A0 z->((l.set i w).map f).sum+f z=(l.map f).sum+f w
 |[],i,z,w,h=>by simp at h
 |a::r,0,z,w,h=>by simp at h;subst h;simp only[List.set_cons_zero,Ap,Av];omega
 |a::r,i+1,z,w,h=>by
  have h:r[i]?=A0 z:=by simpa using h
  have:=qe51 f w h;simp only[Bj,Ap,Av];omega
def bM(b:Bool):Nat:=if b=A4 then 1 else 0
def wayM(w:Ri.Way):Nat:=2*w.bs.length+bM (!w.ended)+2*bM (!w.told)
def psM(z:Ri.PS):Nat:=wayM z.w0+wayM z.w1
def cnM(d:Cn.CnD):Nat:=3*d.inb.length+d.out.length
def roM(r:q31):Nat:=bM r.due
def m0(s:Bk):Nat:=sumV cnM s.N.L+(s.pumps.map psM).sum
def bkM(s:Bk):Nat:=m0 s+sumV roM s.roles+s.P.ends.length
def updM(N:Cn.CT)(id:Int)(g:Cn.CnD->Cn.CnD)(k:Nat)(h:∀d,cnM (g d)<=cnM d+k):sumV cnM (N.upd id g).L<=sumV cnM N.L+k:=by
 unfold Cn.CT.upd;split;.omega
 .rename_i d w;have:=qn11 cnM (g d) w;have:=h d;simp only;omega
def qi71(N:Cn.CT)(id:Int)(n:Nat):sumV cnM (N.upd id (Cn.gRest ((n:Nat):Int))).L+3*(N.ask id [] λd=>d.inb.take ((n:Nat):Int).toNat).length<=sumV cnM N.L:=by
 unfold Cn.CT.upd Cn.CT.ask;cases hd:qe N.L id with
 |none=>simp
 |some d=>simp only;have:=qn11 cnM (Cn.gRest ((n:Nat):Int) d) hd;simp only[cnM,Cn.gRest,B3,Ak]at this⊢;omega
def q361(N:Cn.CT)(id:Int):sumV cnM (N.upd id Cn.gFlush).L+(N.ask id [] Cn.rFlush).length<=sumV cnM N.L:=by
 unfold Cn.CT.upd Cn.CT.ask;cases hd:qe N.L id with
 |none=>simp
 |some d=>simp only;have:=qn11 cnM (Cn.gFlush d) hd;simp only[cnM,Cn.gFlush,Cn.rFlush,B3,Ak]at this⊢;omega
def sayM(o:List UInt8)(d:Cn.CnD):cnM (Cn.gSay o d)<=cnM d+o.length:=by
 unfold Cn.gSay cnM;split;.simp only[Az];omega
 .omega
def inM(z:Ri.PS)(k:Nat)(n:Int)(xs:List UInt8):psM (z.in_ k n xs)<=psM z+2*xs.length:=by
 have h:∀w:Ri.Way,wayM (w.add k xs)<=wayM w+2*xs.length:=λw=>by unfold Ri.Way.add wayM;simp only[Az,Ak];omega
 unfold Ri.PS.in_ psM;split
 .split;.have:=h z.w0;simp only;omega
  .have:=h z.w1;simp only;omega
 .omega
def endM(z:Ri.PS)(n:Int):psM (z.end_ n)+bM (z.hears n)<=psM z:=by
 unfold Ri.PS.end_;split
 .rename_i h;rw[h];unfold Ri.PS.hears Ri.PS.at at h;simp only[Aa]at h;split
  .rename_i e;have w:=h.2;rw[yB e]at w;simp only[psM,wayM,w,bM];simp;omega
  .rename_i e;have w:=h.2;rw[yA e]at w;simp only[psM,wayM,w,bM];simp;omega
 .rename_i h;rw[show z.hears n=A2 by simpa using h];simp[bM]
def qg51(w:Ri.Way)(k:Int):wayM (w.out k)+2*(w.bs.take k.toNat).length+2*bM (w.end_ k)<=wayM w:=by
 unfold Ri.Way.out wayM;simp only[B3,Ak];cases he:w.end_ k with
 |false=>simp only[Bv,bM];simp;omega
 |true=>
  unfold Ri.Way.end_ at he;simp only[Aa]at he;have h:=he.1.2;have a:w.told=A2:=by simpa using h
  simp only[a,bM];simp;omega
def outM(z:Ri.PS)(n k:Int):psM (z.out n k)+2*(z.outB n k).length+2*bM (z.outE n k)<=psM z:=by
 unfold Ri.PS.out Ri.PS.outB Ri.PS.outE Ri.PS.to;split
 .rename_i h;simp only[h,B4];split
  .have:=qg51 z.w1 k;simp only[psM];omega
  .have:=qg51 z.w0 k;simp only[psM];omega
 .rename_i h;have h:(Ri.sideB n&&!z.broken)=A2:=by simpa using h
  simp only[h,Bu,bM];simp
section
variable{m:Int}{s s':Bk}{c:qy}{f t t':q31}{id:Int}
def q651{i:Nat}{inn o:List UInt8}{ended en a:Bool}{z z0:Ri.PS}(w:s.pumps[i]?=A0 z0)(h:Bk.relayE c s f t i inn o ended en z=(s',t',a)):
 (m0 s'+psM z0<=m0 s+psM z+o.length)/\roM t'<=roM t+bM en/\bM a<=inn.length+o.length+bM ended+bM en/\s'.P=s.P/\s'.roles=s.roles:=by
 unfold Bk.relayE at h;simp only[Ad]at h;obtain⟨rfl,rfl,rfl⟩:=h;refine⟨?_,?_,?_,rfl,rfl⟩
 .have b:=qe51 psM z w;have d:=updM s.N t.conn (Cn.gSay o) o.length (sayM o);simp only[m0,Bk.upd]at b⊢;omega
 .unfold roM bM;cases t.due<;>cases en<;>simp
 .unfold bM;cases ended<;>cases en<;>simp;split<;>omega
def q741{a:Bool}(h:s.relay c f t=A0 (s',t',a)):m0 s'+roM t'+bM a<=m0 s+roM t/\s'.P=s.P/\s'.roles=s.roles:=by
 unfold Bk.relay at h;cases hp:f.pump with
 |none=>rw[hp]at h;cases h
 |some i=>
 rw[hp]at h;dsimp only at h;cases hz:s.pumps[i]? with
 |none=>rw[hz]at h;cases h
 |some z=>
 rw[hz]at h;dsimp only at h;have w:=qi71 s.N f.conn (z.room 256 f.side);generalize s.N.ask f.conn [] (λd=>d.inb.take ((z.room 256 f.side:Nat):Int).toNat)=inn at h w;unfold Bk.relayA Bk.relayB Bk.relayC Bk.relayD at h;have h:=Ac h;generalize b:((s.upd f.conn (Cn.gRest ((z.room 256 f.side:Nat):Int))).N.ask f.conn 0 (λd=>(d.inb.length:Int))==0&&(s.upd f.conn (Cn.gRest ((z.room 256 f.side:Nat):Int))).N.ask f.conn A2 λd=>d.ended)=zz at h;obtain⟨p,n,o,e,g⟩:=q651 (s:=s.upd f.conn (Cn.gRest ((z.room 256 f.side:Nat):Int))) (z0:=z) hz h;have k:=inM z 256 f.side inn;have j:=endM (z.in_ 256 f.side inn) f.side;generalize z.in_ 256 f.side inn=z1 at*;have q:psM (if zz=A4 then z1.end_ f.side else z1)+bM (zz&&z1.hears f.side)<=psM z1:=by
  cases zz with
  |true=>simpa using j
  |false=>simp[bM]
 generalize (if zz=A4 then z1.end_ f.side else z1)=z2 at*;have m:=outM z2 t.side ((s.upd f.conn (Cn.gRest ((z.room 256 f.side:Nat):Int))).N.ask t.conn 0 λd=>((1024 - d.out.length:Nat):Int));refine⟨?_,e,g⟩;have l:m0 (s.upd f.conn (Cn.gRest ((z.room 256 f.side:Nat):Int)))+3*inn.length<=m0 s:=by simp only[m0,Bk.upd]at w⊢;omega
 omega
def q851{fl fl':Bool}{p:Int×Int}(h:Bk.relays c (s,fl) p=A0 (s',fl')):∃a,fl'=(a||fl)/\bkM s'+bM a<=bkM s:=by
 unfold Bk.relays at h;split at h;.cases h
 rename_i f;simp only at h;cases h1:qe s.roles p.1 with
 |none=>rw[h1]at h;cases h
 |some rv=>
 cases i:qe s.roles p.2 with
 |none=>rw[h1,i]at h;cases h
 |some rk=>
 rw[h1,i]at h;simp only at h;cases e1:s.relay c rv rk with
 |none=>rw[e1]at h;cases h
 |some x=>
 obtain⟨n,w,b⟩:=x;rw[e1]at h;simp only at h;cases e2:n.relay c w rv with
 |none=>rw[e2]at h;cases h
 |some x=>
 obtain⟨d,g,a2⟩:=x;rw[e2]at h;simp only[A8,Ad]at h;obtain⟨rfl,rfl⟩:=h;obtain⟨B,q,m⟩:=q741 e1;obtain⟨z,t,j⟩:=q741 e2;refine⟨a2||b,by rw[Bi],?_⟩;have r:d.roles=s.roles:=j.trans m;have l:d.P=s.P:=t.trans q;have u:=qn11 roM w i;have A:=qn11 roM (L:=qk s.roles p.2 w) (k:=p.1) (v:=rv) g (by rw[qh2,yA (λe=>f e.symm)];exact h1);have y:bM (a2||b)<=bM a2+bM b:=by cases a2<;>cases b<;>simp[bM]
 have o:bkM ((d.put p.2 w).put p.1 g)=m0 d+sumV roM (qk (qk s.roles p.2 w) p.1 g)+s.P.ends.length:=by simp only[bkM,Bk.put,r,l];rfl
 rw[o];unfold bkM;omega
def qy41{fl fl':Bool}(w:Bk.flushes (s,fl) id=A0 (s',fl')):∃a,fl'=(a||fl)/\bkM s'+bM a<=bkM s:=by
 unfold Bk.flushes at w;cases e:s.flush id with
 |none=>simp only[e]at w;cases w
 |some x=>
 obtain⟨g,a⟩:=x;simp only[e,A8,Ad]at w;obtain⟨rfl,rfl⟩:=w;refine⟨a,rfl,?_⟩;unfold Bk.flush at e;cases hg:qe s.roles id with
 |none=>rw[hg]at e;cases e
 |some r=>
 rw[hg]at e;simp only[A8,Ad]at e;obtain⟨rfl,rfl⟩:=e;have j:=q361 s.N r.conn;have f:=qn11 roM (Bk.flushR r (s.flushE r)) hg;have i:roM (Bk.flushR r (s.flushE r))+bM (s.flushE r)<=roM r:=by
  unfold Bk.flushR;split
  .rename_i h;rw[h];unfold Bk.flushE at h;simp only[Aa]at h;simp[roM,bM,h.1]
  .rename_i h;rw[show s.flushE r=A2 by simpa using h];simp[bM]
 have c:∀(n:Nat) (b:Bool),bM (decide ((n:Int)>0)||b)<=n+bM b:=λn b=>by cases b<;>simp[bM];split<;>omega
 have c:=c (s.N.ask r.conn [] Cn.rFlush).length (s.flushE r);have d:bkM ((s.flushS r (s.flushE r)).put id (Bk.flushR r (s.flushE r)))=sumV cnM (s.N.upd r.conn Cn.gFlush).L+(s.pumps.map psM).sum+sumV roM (qk s.roles id (Bk.flushR r (s.flushE r)))+s.P.ends.length:=rfl;rw[d];simp only[bkM,m0];omega
def qk31{α:Type}{g:Bk×Bool->α->Option (Bk×Bool)}(w:∀s fl x s' fl',g (s,fl) x=A0 (s',fl')->∃a,fl'=(a||fl)/\bkM s'+bM a<=bkM s):∀(l:List α) (s:Bk) (fl:Bool) (s':Bk) (fl':Bool),qw1 g (s,fl) l=A0 (s',fl')->∃a,fl'=(a||fl)/\bkM s'+bM a<=bkM s
 |[],s,fl,s',fl',h=>by cases h;exact⟨A2,rfl,by simp[bM]⟩
 |x::r,s,fl,s',fl',h=>by
  rw[qme]at h;cases e:g (s,fl) x with
  |none=>rw[e]at h;cases h
  |some y=>
  obtain⟨i,f⟩:=y;rw[e]at h;obtain⟨a,rfl,j⟩:=w _ _ _ _ _ e;obtain⟨b,rfl,c⟩:=qk31 w r _ _ _ _ h;refine⟨b||a,by rw[Bi],?_⟩;have d:bM (b||a)<=bM b+bM a:=by cases b<;>cases a<;>simp[bM]
  omega
end
end
section
structure Rn(s s':Bk):Prop where
 B:s'.B=s.B
 Q:s'.Q=s.Q
 now:s'.K.now=s.K.now
 R:∀j r,qe s.roles j=A0 r->r.kind≠4->∃b d,qe s'.roles j=A0 { r with due:=b,said:=d}
 K:∀j r',qe s'.roles j=A0 r'->∃r,qe s.roles j=A0 r/\r'.kind=r.kind
 E:∀j d',qe s'.N.L j=A0 d'->∃d,qe s.N.L j=A0 d/\d'.ended=d.ended
 last:s'.N.last=s.N.last
def Rn.refl(s:Bk):Rn s s:=⟨rfl,rfl,rfl,λj r h _=>⟨r.due,r.said,h⟩,λj r h=>⟨r,h,rfl⟩,λj d h=>⟨d,h,rfl⟩,rfl⟩
def Rn.trans{s t u:Bk}(h:Rn s t)(k:Rn t u):Rn s u where
 B:=k.B.trans h.B
 Q:=k.Q.trans h.Q
 now:=k.now.trans h.now
 R:=λj r f g=>by obtain⟨b,d,a⟩:=h.R j r f g;obtain⟨o,i,w⟩:=k.R j _ a g;exact⟨o,i,w⟩
 K:=λj r f=>by obtain⟨p,a,w⟩:=k.K j r f;obtain⟨l,c,e⟩:=h.K j p a;exact⟨l,c,w.trans e⟩
 E:=λj d n=>by obtain⟨m,a,w⟩:=k.E j d n;obtain⟨d0,c,e⟩:=h.E j m a;exact⟨d0,c,w.trans e⟩
 last:=k.last.trans h.last
def EK(N h:Cn.CT):Prop:=(∀j w,qe h.L j=A0 w->∃d,qe N.L j=A0 d/\w.ended=d.ended)/\h.last=N.last
def EK.refl(N:Cn.CT):EK N N:=⟨λj d h=>⟨d,h,rfl⟩,rfl⟩
def EK.trans{A B C:Cn.CT}(h:EK A B)(k:EK B C):EK A C:=⟨λj d b=>by obtain⟨a,f,w⟩:=k.1 j d b;obtain⟨d0,c,e⟩:=h.1 j a f;exact⟨d0,c,w.trans e⟩,k.2.trans h.2⟩
def EK.upd(N:Cn.CT)(id:Int){g:Cn.CnD->Cn.CnD}(a:∀d,(g d).ended=d.ended):EK N (N.upd id g):=⟨λj d h=>by
 rw[ql3]at h;split at h
 .obtain⟨d0,w,rfl⟩:=A9.1 h;exact⟨d0,w,a d0⟩
 .exact⟨d,h,rfl⟩,qoe _ _ _⟩
def qk51(o:List UInt8)(d:Cn.CnD):(Cn.gSay o d).ended=d.ended:=by unfold Cn.gSay;split<;>rfl
section
variable{m:Int}{s s':Bk}{c:qy}{f t t':q31}{id o:Int}{b:Bool}
def q451{a:Bool}(h:s.relay c f t=A0 (s',t',a)):EK s.N s'.N:=by
 unfold Bk.relay at h;split at h;.cases h
 split at h;.cases h
 unfold Bk.relayA Bk.relayB Bk.relayC Bk.relayD Bk.relayE at h;simp only[A8,Ad]at h;obtain⟨rfl,_⟩:=h;have key:∀(n:Int) (o:List UInt8),EK s.N ((s.N.upd f.conn (Cn.gRest n)).upd t.conn (Cn.gSay o)):=λn o=>(EK.upd s.N f.conn (g:=Cn.gRest n) λd=>rfl).trans (EK.upd _ t.conn (g:=Cn.gSay o) λd=>qk51 o d);exact key _ _
def q861{fl fl':Bool}{p:Int×Int}(h:Bk.relays c (s,fl) p=A0 (s',fl')):EK s.N s'.N:=by
 unfold Bk.relays at h;split at h;.cases h
 split at h
 .split at h;.cases h
  rename_i a;split at h;.cases h
  rename_i b;simp only[A8,Ad]at h;obtain⟨rfl,_⟩:=h;have d:=q451 a;have w:=q451 b;exact d.trans w
 .cases h
def qq51{fl fl':Bool}(h:Bk.flushes (s,fl) id=A0 (s',fl')):EK s.N s'.N:=by
 unfold Bk.flushes at h;split at h;.cases h
 rename_i e;simp only[A8,Ad]at h;obtain⟨rfl,_⟩:=h;unfold Bk.flush at e;split at e;.cases e
 simp only[A8,Ad]at e;obtain⟨rfl,_⟩:=e;exact EK.upd _ _ λd=>rfl
def qd41{α:Type}{g:Bk×Bool->α->Option (Bk×Bool)}(w:∀s fl x s' fl',g (s,fl) x=A0 (s',fl')->EK s.N s'.N):∀(l:List α) (s:Bk) (fl:Bool) (s':Bk) (fl':Bool),qw1 g (s,fl) l=A0 (s',fl')->EK s.N s'.N
 |[],s,fl,s',fl',h=>by cases h;exact EK.refl _
 |x::r,s,fl,s',fl',h=>by
  rw[qme]at h;cases e:g (s,fl) x with
  |none=>rw[e]at h;cases h
  |some y=>
  obtain⟨b,a⟩:=y;rw[e]at h;exact(w _ _ _ _ _ e).trans (qd41 w r _ _ _ _ h)
def outK(s:Bk)(id:Int):m0 (s.out id)<=m0 s/\sumV roM (s.out id).roles<=sumV roM s.roles:=by have w:=qm31 cnM (s.N.upd id Cn.gFlush).L id;have h:=q361 s.N id;refine⟨?_,qm31 roM s.roles id⟩;show sumV cnM (qp (s.N.upd id Cn.gFlush).L id)+(s.pumps.map psM).sum<=_;unfold m0;omega
def qx51(P:qd6)(id:Int):(qxf P id).ends.length<=P.ends.length:=by
 unfold qxf;split
 .have w:=qqn (qp P.ends id) (qb4 P id);have h:=qqn P.ends id;simp only;omega
 .exact Ai _
def qi51{P:qd6}(h:(qe P.ends id).isSome=A4):(qxf P id).ends.length<P.ends.length:=by unfold qxf;rw[yB h];obtain⟨v,w⟩:=A6.1 h;have a:=qqn (qp P.ends id) (qb4 P id);have b:=q9s w;simp only;omega
def qy51(h:s.Str m)(a:qe s.P.ends id=A0 (o,b)):bkM (s.shut id)+1<=bkM s:=by
 obtain⟨u,t,r,i0,w,d,_⟩:=h.pair id o b a;have k:∃n,s.roles.length+1=n+2:=by
  cases hs:s.roles with
  |nil=>rw[hs]at w;cases w
  |cons x y=>exact⟨y.length,rfl⟩
 obtain⟨n,c⟩:=k;have e:s.shut id={(Bk.give { s.out id with P:=qxf s.P id} r.ten 2).out o with P:=qxf (qxf s.P id) o}:=by rw[<-qs11 n h a w,<-c];rfl
 rw[e];obtain⟨v,l⟩:=outK s id;obtain⟨g,i⟩:=outK (Bk.give { s.out id with P:=qxf s.P id} r.ten 2) o;have q:=qx51 (qxf s.P id) o;have p:=qi51 (P:=s.P) (id:=id) (by rw[a];rfl);have f:m0 (Bk.give { s.out id with P:=qxf s.P id} r.ten 2)=m0 (s.out id):=rfl;have j:(Bk.give { s.out id with P:=qxf s.P id} r.ten 2).roles=(s.out id).roles:=rfl;rw[f]at g;rw[j]at i;show m0 ((Bk.give { s.out id with P:=qxf s.P id} r.ten 2).out o)+sumV roM ((Bk.give { s.out id with P:=qxf s.P id} r.ten 2).out o).roles+(qxf (qxf s.P id) o).ends.length+1<=_;unfold bkM;omega
def qb41:∀(l:List (Int×Int)) (s:Bk) (fl:Bool) (s':Bk) (fl':Bool),s.Str m->(∀p∈l,∃b,qe s.P.ends p.1=A0 (p.2,b))->l.Pairwise qo51->qw1 Bk.ends (s,fl) l=A0 (s',fl')->
 ∃a,fl'=(a||fl)/\bkM s'+bM a<=bkM s/\∀j r,qe s.roles j=A0 r->r.kind≠4->qe s'.roles j=A0 r
 |[],s,fl,s',fl',h,_,_,w=>by cases w;exact⟨A2,rfl,by simp[bM],λj r h _=>h⟩
 |a::r,s,fl,s',fl',h,A,c,w=>by
  obtain⟨k,u⟩:=Ay.1 c;obtain⟨b,n⟩:=A a A3;obtain⟨E,F,rv,i,z,v,_⟩:=h.pair a.1 a.2 b n;obtain⟨_,_,N,j,B,t,_⟩:=h.pair a.2 a.1 (!b) F;rw[qme]at w;cases e:Bk.ends (s,fl) a with
  |none=>rw[e]at w;cases w
  |some y=>
  obtain⟨g,G⟩:=y;rw[e]at w;simp only at w;have step:∃q,G=(q||fl)/\bkM g+bM q<=bkM s/\g.Str m/\(∀j r,qe s.roles j=A0 r->r.kind≠4->qe g.roles j=A0 r)/\∀p∈r,qe g.P.ends p.1=qe s.P.ends p.1:=by
   unfold Bk.ends at e;rw[yA (λe=>E e.symm)]at e;simp only at e;rw[z]at e;simp only at e;split at e
   .cases e;exact⟨A2,rfl,by simp[bM],h,λj r h _=>h,λ_ _=>rfl⟩
   .rw[B]at e;simp only at e;split at e
    .cases e;obtain⟨K,Q,_⟩:=qk11 h a.1;obtain⟨M,O,C⟩:=qn31 h n;refine⟨A4,by simp,by have:=qy51 h n;simpa [bM]using this,K,λj q d f=>?_,λp c=>(C p.1 (k p c).1 (k p c).2.1).1⟩;rw[(C j (λe=>f (by rw[e,z]at d;cases d;exact v)) λe=>f (by rw[e,B]at d;cases d;exact t)).2];exact d
    .cases e;exact⟨A2,rfl,by simp[bM],h,λj r h _=>h,λ_ _=>rfl⟩
  obtain⟨q,rfl,R,I,D,J⟩:=step;obtain⟨o,rfl,P,L⟩:=qb41 r g _ s' fl' I (λp c=>by rw[J p c];exact A p (A1 _ c)) u w;refine⟨o||q,by rw[Bi],?_,λj x H f=>L j x (D j x H f) f⟩;have n:bM (o||q)<=bM o+bM q:=by cases o<;>cases q<;>simp[bM]
  omega
def qu41(h:s.Str m)(B:m<=1000000):∃s' fl,s.round c=A0 (s',fl)/\s'.Str m/\Rn s s'/\bkM s'+bM fl<=bkM s:=by
 obtain⟨U,V,y,t,n,_,o,v,w,e⟩:=qi41 (c:=c) h B;obtain⟨A,z,u,E,Q,C,f⟩:=qj41 (qtc s.P) y t v (λp i=>by rw[w.P];exact qz11 h p i) (q941 h);obtain⟨k,P,W⟩:=qk31 (λs fl x s' fl'=>q851 (c:=c)) _ _ _ _ _ n;obtain⟨a2,D,X⟩:=qk31 (λs fl x s' fl'=>qy41) _ _ _ _ _ o;obtain⟨a3,K,Y,R⟩:=qb41 (m:=m) (qtc s.P) y t A z v (λp i=>by rw[w.P];exact qz11 h p i) (q941 h) u;have L:=qd41 (λs fl x s' fl'=>q861 (c:=c)) _ _ _ _ _ n;have I:=qd41 (λs fl x s' fl'=>qq51) _ _ _ _ _ o;have x:=L.trans I;refine⟨A,z,e.trans u,E,⟨Q.trans w.B,C.trans w.Q,f.now.trans w.now,λj r O F=>?_,λj q a=>?_,λj d M=>?_,f.last.trans x.2⟩,?_⟩
 .obtain⟨b,d,g⟩:=(w.sim j).2 r O;exact⟨b,d,R j _ g F⟩
 .rcases f.R j with g|g
  .rw[g]at a;cases h0:qe s.roles j with
   |none=>rw[(w.sim j).1 h0]at a;cases a
   |some r=>obtain⟨b,d,l⟩:=(w.sim j).2 r h0;rw[l]at a;cases a;exact⟨r,rfl,rfl⟩
  .rw[g]at a;cases a
 .obtain⟨J,l,N,_⟩:=f.E j d M;obtain⟨d0,G,H⟩:=x.1 j J l;exact⟨d0,G,N.trans H⟩
 .subst K D P;have T:bM (a3||(a2||(k||A2)))<=bM a3+bM a2+bM k:=by cases a3<;>cases a2<;>cases k<;>simp[bM]
  omega
def qa41(i:m<=1000000):∀(k:Nat) (s:Bk),bkM s<=k->s.Str m->∃n s',∀w,n<=w->Bk.rounds c w s=A0 s'/\s'.Str m/\Rn s s'/\qj11 s':=by
 intro k;induction k with
 |zero=>
  intro s r h;obtain⟨a,fl,e,l,j,d⟩:=qu41 (c:=c) h i;cases fl with
  |true=>simp[bM]at d;omega
  |false=>obtain⟨rfl,b⟩:=qq31 h e;refine⟨1,a,λw f=>⟨?_,h,Rn.refl _,b⟩⟩;obtain⟨w,rfl⟩:∃x,w=x+1:=⟨w - 1,by omega⟩;unfold Bk.rounds;rw[e];rfl
 |succ k ih=>
  intro s r h;obtain⟨a,fl,e,l,j,d⟩:=qu41 (c:=c) h i;cases fl with
  |true=>simp[bM]at d;obtain⟨n,s',g⟩:=ih a (by omega) l;refine⟨n+1,s',λw f=>?_⟩;obtain⟨w,rfl⟩:∃x,w=x+1:=⟨w - 1,by omega⟩;obtain⟨q,p,o,t⟩:=g w (by omega);refine⟨?_,p,j.trans o,t⟩;unfold Bk.rounds;rw[e];simp only[yB];exact q
  |false=>obtain⟨rfl,b⟩:=qq31 h e;refine⟨1,a,λw f=>⟨?_,h,Rn.refl _,b⟩⟩;obtain⟨w,rfl⟩:∃x,w=x+1:=⟨w - 1,by omega⟩;unfold Bk.rounds;rw[e];rfl
end
end
section
section
variable{m:Int}{s s':Bk}{c:qy}{id x:Int}
def Book.keep(h:s.Book)(w:s'.B=s.B)(b:s'.K.now=s.K.now)(e:∀j,qli s.roles j->qli s'.roles j):s'.Book:=by refine⟨by rw[w];exact h.nB,by rw[w];exact h.name,λkey d a g=>?_,by rw[w];exact h.most,by rw[b];exact h.clock⟩;rw[w]at a;obtain⟨f,c⟩:=h.held key d a g;exact⟨by rw[b];exact f,e _ c⟩
def Rn.book(w:s.Book)(h:Rn s s'):s'.Book:=Book.keep w h.B h.now λj ⟨r,c,a⟩=>by obtain⟨b,d,e⟩:=h.R j r c (by omega);exact⟨_,e,a⟩
def qu51(so:LeD->Bool)(df:LeD->LeD)(L:LeL):(qk4 so df L).1.map (·.1)=L.map (·.1):=by
 have key:∀(l:List ByteArray) (s:LeL×List LeD),(l.foldl (q64 so df) s).1.map (·.1)=s.1.map (·.1):=by
  intro l;induction l with
  |nil=>intro s;rfl
  |cons a r h=>intro s;rw[Ag,h,qwy]
 exact key _ _
def Book.turn(i:s.Book){so:LeD->Bool}{df:LeD->LeD}(g:∀d,(df d).held=A2/\(df d).name=d.name)(w:Int)(j:q79 w=A4){R':List (Int×q31)}
 (l:∀k d,qe s.B.L k=A0 d->d.held=A4->so d=A2->w<d.til/\qli R' d.conn):q401 { s.B with L:=(qk4 so df s.B.L).1} w R':=by
 have get:∀k d,qe (qk4 so df s.B.L).1 k=A0 d->∃d0,qe s.B.L k=A0 d0/\(so d0=A4/\d=df d0\/so d0=A2/\d=d0):=λk d c=>by
  rw[qb61 so df i.nB k]at c;obtain⟨d0,f,e⟩:=A9.1 c;refine⟨d0,f,?_⟩;cases h:so d0 with
  |true=>rw[h,yB yR]at e;exact .inl ⟨rfl,e.symm⟩
  |false=>rw[h,yA (by simp)]at e;exact .inr ⟨rfl,e.symm⟩
 refine⟨by rw[qu51];exact i.nB,λk d c=>?_,λk d c a=>?_,i.most,j⟩
 .obtain⟨d0,f,b|b⟩:=get k d c;.rw[b.2,(g d0).2];exact i.name k d0 f
  .rw[b.2];exact i.name k d0 f
 .obtain⟨d0,f,b|b⟩:=get k d c;.rw[b.2,(g d0).1]at a;cases a
  .rw[b.2]at a⊢;exact l k d0 f a b.1
def qs51(h:s.Book)(l:∀j,j≠id->qe s'.roles j=qe s.roles j)(a:s'.B=(qe5 s.B id s.K.now).1)(g:s'.K.now=s.K.now):s'.Book:=by unfold qe5 at a;rw[yA (by rw[h.clock];simp)]at a;unfold Bk.Book;rw[a,g];refine Book.turn h (so:=qid id s.K.now) (df:=λd=>q78 d (Zw Zk (s.K.now+s.B.grace))) (λd=>⟨rfl,rfl⟩) _ h.clock λk d i b w=>?_;obtain⟨c,f⟩:=h.held k d i b;refine⟨c,f.of (l _ λe=>?_)⟩;unfold qid at w;rw[b,e,yG c]at w;simp at w
def q021(h:s.Str m)(d:s.Book)(id:Int):(s.shut id).Book:=by
 unfold Bk.shut;cases hl:s.roles with
 |nil=>
  have a:qe s.roles id=Ab:=by rw[hl];rfl
  have e:Bk.shutB (([]:List (Int×q31)).length+1) s id=s:=by unfold Bk.shutB;rw[a]
  rw[e];exact d
 |cons D r0=>
 have e0:(D::r0).length+1=r0.length+2:=rfl;rw[e0];generalize r0.length=n;cases a:qe s.roles id with
 |none=>
  have e:Bk.shutB (n+2) s id=s:=by unfold Bk.shutB;rw[a]
  rw[e];exact d
 |some r=>
 have f:∀j,qli s.roles j->r.kind≠2->j≠id:=λj ⟨q,t,g⟩ p e=>by subst e;rw[a]at t;cases t;exact p g
 have c:∀j,j≠id->qe (s.out id).roles j=qe s.roles j:=λj w=>by rw[qf11 h,yA (λe=>w e.symm)]
 by_cases x:r.kind=3;.exact Book.vis d (ql51 (n+1) h (.inr ⟨r,a,x⟩)).2.1
 by_cases A:r.kind=4
 .cases ho:qe s.P.ends id with
  |none=>
   have e:Bk.shutB (n+2) s id={ s.out id with P:=qxf s.P id}:=by show Bk.shutB ((n+1)+1) s id=_;rw[Bk.shutB,a];simp only;unfold Bk.after;rw[yA (by omega),yA (by omega),yB A];have:qe (s.out id).P.ends id=Ab:=ho;rw[this];rfl
   rw[e];exact Book.keep d yR yR λj w=>w.of (c j (f j w (by omega)))
  |some y=>
   obtain⟨o,b⟩:=y;obtain⟨_,_,q,_,C,G,_⟩:=h.pair o id (!b) (h.pair id o b ho).2.1;have e:Bk.shutB (n+2) s id=s.shut id:=by have u:∃k,s.roles.length+1=k+2:=⟨r0.length,by rw[hl];rfl⟩;obtain⟨k,p⟩:=u;unfold Bk.shut;rw[p,qs11 n h ho a,qs11 k h ho a]
   rw[e];obtain⟨F,I,E⟩:=qn31 h ho;refine Book.keep d F (qk11 h id).2.1.now λj w=>w.of (E j (f j w (by omega)) λe=>?_).2;obtain⟨H,v,z⟩:=w;rw[e,C]at v;cases v;omega
 by_cases g:r.kind=2
 .have e:Bk.shutB (n+2) s id=Bk.leaveW (λs i=>Bk.shutB (n+1) s i) { s.out id with B:=(qe5 (s.out id).B id (s.out id).K.now).1} (qe5 (s.out id).B id (s.out id).K.now).2:=by show Bk.shutB ((n+1)+1) s id=_;rw[Bk.shutB,a];simp only;unfold Bk.after;rw[yB g]
  rw[e];have z:Bk.Str m { s.out id with B:=(qe5 (s.out id).B id (s.out id).K.now).1}:=Str.out h a (.inr g);have l:Bk.Book { s.out id with B:=(qe5 (s.out id).B id (s.out id).K.now).1}:=qs51 (id:=id) d (λj w=>c j w) yR yR;exact Book.vis l (q421 (qr41 n) _ _ z).2
 .have t:r.kind=1:=by have:=(h.role id r a).kind;omega
  have e:Bk.shutB (n+2) s id=s.out id:=by show Bk.shutB ((n+1)+1) s id=_;rw[Bk.shutB,a];simp only;unfold Bk.after;rw[yA g,yA x,yA A]
  rw[e];exact Book.keep d yR yR λj w=>w.of (c j (f j w g))
def Talk(x:Int)(s:Bk):Prop:=∀j r d,j≠x->qe s.roles j=A0 r->(r.kind=1\/r.kind=2)->qe s.N.L j=A0 d->d.ended=A2
end
end
section
structure Hv(x:Int)(s s':Bk):Prop where
 P:s'.P=s.P
 pumps:s'.pumps=s.pumps
 now:s'.K.now=s.K.now
 last:s'.N.last=s.N.last
 R:∀j,j≠x->qe s'.roles j=qe s.roles j\/qe s'.roles j=Ab/\qcc s.roles j
 N:∀j r,j≠x->qe s.roles j=A0 r->r.kind=4->qe s'.N.L j=qe s.N.L j
 E:∀j d',qe s'.N.L j=A0 d'->∃d,qe s.N.L j=A0 d/\d'.ended=d.ended/\d'.inb=d.inb
structure New(x v:Int)(s s':Bk):Prop where
 P:s'.P=(q4g s.P v x).1
 pumps:s'.pumps=s.pumps++[Ri.PS.new]
 now:s'.K.now=s.K.now
 N:s'.N=s.N
 R:∀j,j≠x->j≠v->qe s'.roles j=qe s.roles j
 rv:∃p,qe s'.roles v=A0 (qq7 v p s.pumps.length 0)
 rx:∃p,qe s'.roles x=A0 (qq7 x p s.pumps.length 1)
 ne:v≠x
 vis:qcc s.roles v
def qu61(x:Int)(s s':Bk):Prop:=Hv x s s'\/∃v,New x v s s'
def Vis.hv{s s':Bk}(h:Vis s s')(x:Int):Hv x s s':=⟨h.P,h.pumps,h.now,h.last,λj _=>h.R j,λj r _ a w=>h.N j r a w,h.E⟩
def Hv.refl(x:Int)(s:Bk):Hv x s s:=(Vis.refl s).hv x
def Hv.trans{x:Int}{s t u:Bk}(h:Hv x s t)(k:Hv x t u):Hv x s u where
 P:=k.P.trans h.P
 pumps:=k.pumps.trans h.pumps
 now:=k.now.trans h.now
 last:=k.last.trans h.last
 R:=λj w=>by
  rcases k.R j w with c|⟨c,r,e,f⟩;.rw[c];exact h.R j w
  .rcases h.R j w with a|⟨a,b⟩;.exact .inr ⟨c,r,by rw[<-a];exact e,f⟩
   .exact .inr ⟨c,b⟩
 N:=λj r w e f=>by
  refine(k.N j r w ?_ f).trans (h.N j r w e f);rcases h.R j w with a|⟨_,q,b,g⟩;.rw[a];exact e
  .rw[e]at b;cases b;omega
 E:=λj d n=>by obtain⟨m,c,a,b⟩:=k.E j d n;obtain⟨d0,g,l,i⟩:=h.E j m c;exact⟨d0,g,a.trans l,b.trans i⟩
section
variable{m:Int}{N:Cn.CT}{R:List (Int×q31)}{P:qd6}{ps:List Ri.PS}{Q:Qu.QG}{T:TkB}{S:List (Int×q81)}{s s':Bk}{c:qy}{id x:Int}{r r':q31}
def Hv.talk(h:Hv x s s')(g:Talk x s):Talk x s':=λj q d a w f c=>by
 obtain⟨d0,i,b,_⟩:=h.E j d c;rw[b];rcases h.R j a with e|⟨e,_⟩;.rw[e]at w;exact g j q d0 a w f i
 .rw[e]at w;cases w
def qr5.set(h:qr5 m N R P ps Q T S)(c:qe R id=A0 r)(z:r.kind=1\/r.kind=2)(x:quz id r'):qr5 m N (qk R id r') P ps Q T S:=by
 have f:∀j,qcc R j->qcc (qk R id r') j:=λj ⟨q,w,s⟩=>by refine⟨q,?_,s⟩;rw[qh2,yA (λe=>by subst e;rw[c]at w;cases w;omega)];exact w
 refine { nN:=h.nN,nR:=qr7 h.nR _ _,nP:=h.nP,nS:=h.nS,nT:=h.nT,same:=λj=>?_,role:=λj q w=>?_,pair:=λj o b l=>?_,que:=λy p=>f _ (h.que y p),tick:=λt u=>f _ (h.tick t u),last0:=h.last0,last1:=h.last1,key:=h.key,sk:=h.sk,cred:=h.cred,mov:=h.mov}
 .rw[qh2];split;.rename_i e;subst e;rw[<-h.same,c];rfl
  .exact h.same j
 .rw[qh2]at w;split at w;.rename_i e;subst e;cases w;exact x
  .exact h.role _ _ w
 .obtain⟨k,g,q,i,d,v,n,a⟩:=h.pair j o b l;refine⟨k,g,q,i,?_,v,n,a⟩;rw[qh2,yA (λe=>by subst e;rw[c]at d;cases d;omega)];exact d
def q051(s:Bk)(x:Int)(r':q31):Hv x s (s.put x r'):=⟨rfl,rfl,rfl,rfl,λj w=>.inl (by show qe (qk s.roles x r') j=_;rw[qh2,yA (λe=>w e.symm)]),λ_ _ _ _ _=>rfl,λj d h=>⟨d,h,rfl,rfl⟩⟩
def qf21(s:Bk)(x:Int)(w:qk1):Hv x s (s.tell x w):=⟨rfl,rfl,rfl,qoe _ _ _,λj _=>.inl yR,λj q a _ _=>by show qe (s.N.upd x _).L j=_;rw[ql3,yA (λe=>a e.symm)],λj d h=>by
 change qe (s.N.upd x _).L j=_ at h;rw[ql3]at h;split at h
 .obtain⟨d0,b,rfl⟩:=A9.1 h;refine⟨d0,b,?_⟩;unfold Cn.gSay;split<;>exact⟨rfl,rfl⟩
 .exact⟨d,h,rfl,rfl⟩⟩
def q061(c:qe s.roles id=A0 r)(b:r.kind≠2){j:Int}(h:qli s.roles j):j≠id:=λe=>by obtain⟨q,w,a⟩:=h;subst e;rw[c]at w;cases w;exact b a
def qw31(w:s.Book)(b:qe s.roles id=A0 r)(a:r.kind≠2)(r':q31):(s.put id r').Book:=Book.keep w yR yR λj h=>h.of (by show qe (qk s.roles id r') j=_;rw[qh2,yA (λe=>q061 b a h e.symm)])
def qe41(h:s.Str m)(b:qe s.roles x=A0 r)(a:r.kind=1\/r.kind=2):Hv x s (s.shut x):=by
 have w:Hv x s (s.out x):=⟨rfl,rfl,rfl,qx11 s x,λj c=>.inl (by rw[qf11 h,yA (λe=>c e.symm)]),λj q c _ _=>by rw[q121 h,yA (λe=>c e.symm)],(Less.out h x).E⟩;unfold Bk.shut;cases hl:s.roles with
 |nil=>rw[hl]at b;cases b
 |cons f r0=>
 rw[show(f::r0).length+1=r0.length+2 from rfl];generalize r0.length=n;have e:Bk.shutB (n+2) s x=Bk.after (λs i=>Bk.shutB (n+1) s i) (s.out x) x r:=by show Bk.shutB ((n+1)+1) s x=_;rw[Bk.shutB,b]
 rw[e];unfold Bk.after;rcases a with a|a
 .rw[yA (by omega),yA (by omega),yA (by omega)];exact w
 .rw[yB a];have d:Bk.Str m { s.out x with B:=(qe5 (s.out x).B x (s.out x).K.now).1}:=Str.out h b (.inr a);have g:Hv x s { s.out x with B:=(qe5 (s.out x).B x (s.out x).K.now).1}:=⟨w.P,w.pumps,w.now,w.last,w.R,w.N,w.E⟩;exact g.trans ((q421 (qr41 n) _ _ d).2.hv x)
def qy11(h:s.Str m)(a:s.Book)(i:qe s.roles id=A0 r)(g:r.kind=1\/r.kind=2)(e:Int):(s.refuse id e).Str m/\(s.refuse id e).Book/\Hv id s (s.refuse id e)/\qe (s.refuse id e).roles id=Ab:=by have w:(s.no id e).Str m:=Str.tell h id _;have b:(s.no id e).Book:=Book.keep a yR yR λj c=>c;obtain⟨f,_,d⟩:=qk11 w id;exact⟨f,q021 w b id,(qf21 s id _).trans (qe41 w (r:=r) i g),d⟩
def qs41(a:s.Book){name:ByteArray}(h:(q06 s.B name s.K.now).2=A4):qli s.roles (q06 s.B name s.K.now).1.conn:=by
 unfold q06 at h⊢;cases hd:qe s.B.L name with
 |none=>simp only[hd]at h;cases h
 |some d=>
  simp only[hd]at h⊢;split at h
  .rename_i w;rw[yB w];unfold qv4 at w;cases hh:d.held with
   |true=>exact(a.held name d hd hh).2
   |false=>rw[hh,yA (by simp)]at w;split at w<;>cases w
  .cases h
def qw61{G:Qu.QG}{n:ByteArray}{id:Int}(h:(Qu.gPut G n id).2≠0):(Qu.gPut G n id).1=G:=by
 unfold Qu.gPut at h⊢;split;.rfl
 .rename_i a;rw[yA a]at h;split;.rfl
  .rename_i w;rw[yA w]at h;exact yI yR h
def qo61{G:Qu.QG}{n:ByteArray}{id:Int}(h:¬(Qu.gPut G n id).2≠0):(Qu.gPut G n id).1=G++[(n,id)]:=by
 unfold Qu.gPut at h⊢;split
 .rename_i w;rw[yB w]at h;exact yI (show(4:Int)≠0 by decide) h
 .rename_i w;rw[yA w]at h;split
  .rename_i a;rw[yB a]at h;exact yI (show(2:Int)≠0 by decide) h
  .rfl
def q171{name:ByteArray}(h:s.admE id name≠0):(s.admitted id name).Q=s.Q:=by
 unfold Bk.admE at h;unfold Bk.admitted;unfold Bk.admR at h⊢;simp only at h⊢;split;.rfl
 .rename_i b;rw[yA b]at h;split;.rfl
  .rename_i a;rw[yA a]at h;split;.rfl
   .rename_i c;rw[yA c]at h;split
    .rename_i w;exact qw61 w
    .rename_i w;rw[yA w]at h;exact yI yR h
def qf61{name:ByteArray}(h:¬s.admE id name≠0):(s.admitted id name).Q=s.Q++[(name,id)]/\(q06 s.B name s.K.now).2=A4:=by
 unfold Bk.admE at h;unfold Bk.admitted;unfold Bk.admR at h⊢;simp only at h⊢;split
 .rename_i c;rw[yB c]at h;exact yI (show(3:Int)≠0 by decide) h
 .rename_i c;rw[yA c]at h;have d:(q06 s.B name s.K.now).2=A4:=by simpa using c
  split
  .rename_i w;rw[yB w]at h;exact yI w h
  .rename_i w;rw[yA w]at h;split
   .rename_i a;rw[yB a]at h;exact yI a h
   .rename_i a;rw[yA a]at h;split
    .rename_i b;rw[yB b]at h;exact yI b h
    .rename_i b;exact⟨qo61 b,d⟩
def qh51(T:TkB)(p:qac)(draw:ByteArray):(qca T p draw).1.good=T.good\/∃t,(qca T p draw).1.good=T.good++[⟨p,t⟩]:=by
 unfold qca;split;.exact .inl yR
 .split;.exact .inl yR
  .exact .inr ⟨_,rfl⟩
def qr61(h:s.Str m)(v:s.Book)(p:qe s.roles id=A0 r)(O:r.kind=1)(name draw:ByteArray):(s.reach c id r name draw).Str m/\(s.reach c id r name draw).Book/\Hv id s (s.reach c id r name draw):=by
 have B:Hv id s (s.admitted id name):=⟨rfl,rfl,rfl,rfl,λj _=>.inl yR,λ_ _ _ _ _=>rfl,λj d h=>⟨d,h,rfl,rfl⟩⟩;have A:(s.admitted id name).Book:=Book.keep v yR yR λj J=>J;unfold Bk.reach;split
 .rename_i I;have n:(s.admitted id name).Str m:=qr5.que_sub h λy i=>by rw[q171 I]at i;exact i
  obtain⟨W,V,Q,_⟩:=qy11 n A (r:=r) p (.inl O) (s.admE id name);exact⟨W,V,B.trans Q⟩
 .rename_i I;obtain⟨k,P⟩:=qf61 I;have z:=qs41 v P;have u:s.held name=(q06 s.B name s.K.now).1:=rfl;rw[u];generalize (q06 s.B name s.K.now).1=xl at z;simp only;generalize (⟨11,name,_,0,0⟩:qk1)=msg;have U:=h.role id r p;obtain⟨w,l⟩:∃w:q31,w={ r with kind:=3,ten:=xl.ten,name:=name,epoch:=xl.epoch}:=⟨_,rfl⟩;have F:quz id w:=⟨by rw[l];exact U.conn,by rw[l];exact .inr (.inr (.inl yR))⟩;rw[<-l];have n:=qr5.set (r':=w) h p (.inl O) F;have o:qcc (qk s.roles id w) id:=⟨w,by rw[qh2,yB yR],by rw[l]⟩;have E:∀t∈s.T.good,t.p.vis≠id:=λt f e=>by obtain⟨q,k,R⟩:=h.tick t f;rw[e,p]at k;cases k;omega
  generalize K:(qca ((((s.admitted id name).put id w).alarm c.wait [id]).T) ⟨id,name,xl.ten,xl.epoch⟩ draw).1=T';have L:(((s.admitted id name).put id w).alarm c.wait [id]).T=s.T:=rfl;rw[L]at K;have x:(T'.good.map (·.p.vis)).Nodup/\∀t∈T'.good,qcc (qk s.roles id w) t.p.vis:=by
   rcases qh51 s.T ⟨id,name,xl.ten,xl.epoch⟩ draw with e|⟨X,e⟩
   .rw[K]at e;rw[e];exact⟨n.nT,n.tick⟩
   .rw[K]at e;rw[e];refine⟨?_,λt f=>?_⟩
    .rw[List.map_append,List.nodup_append];refine⟨n.nT,by simp,λa z b v e=>?_⟩;obtain⟨t,f,rfl⟩:=Af.1 z;simp at v;exact E t f (e.trans v)
    .rcases B6.1 f with f|f;.exact n.tick t f
     .simp at f;subst f;exact o
  have C:∀y∈(s.admitted id name).Q,qcc (qk s.roles id w) y.2:=λy i=>by
   rw[k]at i;rcases B6.1 i with i|i;.exact n.que y i
   .simp at i;subst i;exact o
  have H:qr5 m s.N (qk s.roles id w) s.P s.pumps (s.admitted id name).Q T' s.S:={ n with que:=C,nT:=x.1,tick:=x.2};have H:Bk.Str m {((s.admitted id name).put id w).alarm c.wait [id]with T:=T'}:=H;have M:∀q,qe ({((s.admitted id name).put id w).alarm c.wait [id]with T:=T'}:Bk).roles xl.conn=A0 q->q.kind≠4:=λq k=>by have k:qe (qk s.roles id w) xl.conn=A0 q:=k;rw[qh2,yA (λe=>q061 p (by omega) z e.symm)]at k;obtain⟨Z,N,Y⟩:=z;rw[k]at N;cases N;omega
  have v2:=Vis.tell (s:={((s.admitted id name).put id w).alarm c.wait [id]with T:=T'}) msg M;have D:Hv id s {((s.admitted id name).put id w).alarm c.wait [id]with T:=T'}:=by have g:=(B.trans (q051 (s.admitted id name) id w)).trans ((qw51 ((s.admitted id name).put id w) c.wait [id]).hv id);exact⟨g.P,g.pumps,g.now,g.last,g.R,g.N,g.E⟩
  have G:Bk.Book {((s.admitted id name).put id w).alarm c.wait [id]with T:=T'}:=Book.keep (qw31 A (r:=r) p (by omega) w) yR (qg11 _ _ _) λj J=>J;exact⟨Str.tell H _ _,Book.vis G v2,D.trans (v2.hv id)⟩
def qn61(h:s.Str m)(x:s.Book)(l:qe s.roles id=A0 r)(o:r.kind=1)(a:qk1)(draw:ByteArray):∃s',s.greet c id r a draw=A0 s'/\s'.Str m/\s'.Book/\Hv id s s':=by
 unfold Bk.greet;split;.exact⟨_,rfl,qr61 h x l o _ _⟩
 .have u:=h.role id r l;have p:r.sh.isSome=A4:=by
   rcases u.kind with k|k|k|k;.exact k.2
   .omega
   .omega
   .omega
  obtain⟨b,f⟩:∃b:q31,b=if r.heard=A4 then r else { r with heard:=A4,token:=a.B}:=⟨_,rfl⟩
  have n:b.conn=r.conn/\b.kind=r.kind/\b.sh=r.sh:=by rw[f];split<;>exact⟨rfl,rfl,rfl⟩
  rw[<-f];simp only;rw[n.2.2];obtain⟨d,D⟩:=A6.1 p;rw[D];simp only;generalize q75 c s.R d a s.K.now (Bk.nonce draw)=hs;obtain⟨y,said,z⟩:=hs;simp only;obtain⟨w,g⟩:∃w:q31,w={ b with sh:=A0 y}:=⟨_,rfl⟩;rw[<-g];have i:w.conn=id/\w.kind=1/\w.sh=A0 y:=by rw[g];exact⟨n.1.trans u.conn,n.2.1.trans o,rfl⟩
  have t:quz id w:=⟨i.1,.inl ⟨i.2.1,by rw[i.2.2];rfl⟩⟩;have A:(s.put id w).Str m:=qr5.set h l (.inl o) t;have B:=qw31 x l (by omega) w;have e:((s.put id w).tell id said).Str m:=Str.tell A id said;have v:((s.put id w).tell id said).Book:=Book.keep B yR yR λj C=>C;have v3:Hv id s ((s.put id w).tell id said):=(q051 s id w).trans (qf21 _ _ _);have q:qe ((s.put id w).tell id said).roles id=A0 w:=by show qe (qk s.roles id w) id=_;rw[qh2,yB yR]
  split;.exact⟨_,rfl,(qk11 e id).1,q021 e v id,v3.trans (qe41 e q (.inl i.2.1))⟩
  .split;.exact⟨_,rfl,qr5.set e q (.inl i.2.1) ⟨n.1.trans u.conn,.inr (.inl yR)⟩,qw31 v q (by omega) _,v3.trans (q051 _ _ _)⟩
   .exact⟨_,rfl,e,v,v3⟩
end
end
section
def q621(so:LeD->Bool)(df:LeD->LeD)(i:LeL):∀(l:List ByteArray) (s:LeL×List LeD),l.Nodup->(∀k∈l,qe s.1 k=qe i k)->
 (∀x∈(l.foldl (q64 so df) s).2,x∈s.2\/∃k,qe i k=A0 x/\so x=A4)/\(∀x∈s.2,x∈(l.foldl (q64 so df) s).2)/\∀k∈l,∀d,qe i k=A0 d->so d=A4->d∈(l.foldl (q64 so df) s).2
 |[],s,_,_=>⟨λx h=>.inl h,λx h=>h,λk h=>by cases h⟩
 |a::r,s,p,h=>by
  obtain⟨t,B⟩:=Ax.1 p;rw[Ag];have f:(∀k∈r,qe (q64 so df s a).1 k=qe i k)/\(∀x∈(q64 so df s a).2,x∈s.2\/∃k,qe i k=A0 x/\so x=A4)/\(∀x∈s.2,x∈(q64 so df s a).2)/\∀d,qe i a=A0 d->so d=A4->d∈(q64 so df s a).2:=by
   have m:=h a A3;unfold q64;cases g:qe s.1 a with
   |none=>exact⟨λk c=>h k (A1 _ c),λx w=>.inl w,λx w=>w,λd b=>by rw[<-m,g]at b;cases b⟩
   |some d=>
    simp only;split
    .rename_i j;refine⟨λk c=>?_,λx w=>?_,λx w=>List.mem_append_left _ w,λy b _=>?_⟩
     .rw[qh2,yA (λe=>t (by rw[e];exact c))];exact h k (A1 _ c)
     .rcases B6.1 w with w|w;.exact .inl w
      .simp at w;subst w;exact .inr ⟨a,by rw[<-m,g],j⟩
     .rw[<-m,g]at b;cases b;exact List.mem_append_right _ (by simp)
    .rename_i j;exact⟨λk c=>h k (A1 _ c),λx w=>.inl w,λx w=>w,λy b n=>by rw[<-m,g]at b;cases b;exact yI n j⟩
  obtain⟨A,z,u,v⟩:=f;obtain⟨C,o,q⟩:=q621 so df i r _ B A;refine⟨λx w=>?_,λx w=>o x (u x w),λk c d g j=>?_⟩
  .rcases C x w with w|w;.exact z x w
   .exact .inr w
  .rcases Aj.1 c with rfl|c;.exact o d (v d g j)
   .exact q k c d g j
def qc21{so:LeD->Bool}{df:LeD->LeD}{L:LeL}(w:(L.map (·.1)).Nodup){x:LeD}(h:x∈(qk4 so df L).2):∃k,qe L k=A0 x/\so x=A4:=by
 have k:=(q621 so df L (q91 leS (L.map λy:ByteArray×LeD=>y.1)) (L,[]) ((qv1 leS _).nodup_iff.2 w) λ_ _=>rfl).1 x h;rcases k with k|k;.cases k
 .exact k
def qm41{so:LeD->Bool}{df:LeD->LeD}{L:LeL}(w:(L.map (·.1)).Nodup){k:ByteArray}{d:LeD}(h:qe L k=A0 d)(a:so d=A4):d∈(qk4 so df L).2:=
 (q621 so df L (q91 leS (L.map λy:ByteArray×LeD=>y.1)) (L,[]) ((qv1 leS _).nodup_iff.2 w) λ_ _=>rfl).2.2 k ((qv1 leS _).mem_iff.2 (Af.2 ⟨_,qg3 h,rfl⟩)) d h a
section
variable{m:Int}{s s':Bk}{c:qy}{id x:Int}{r r':q31}{B:qi3}{ten name:ByteArray}{epoch now ttl conn:Int}
def Hv.same(x:Int)(b:s'.P=s.P)(c:s'.pumps=s.pumps)(e:s'.K.now=s.K.now)(w:s'.N=s.N)(a:s'.roles=s.roles):Hv x s s':=
 ⟨b,c,e,by rw[w],λj _=>.inl (by rw[a]),λj r _ _ _=>by rw[w],λj d h=>⟨d,by rw[<-w];exact h,rfl,rfl⟩⟩
def qz31{g:Int}{d:LeD}(h:qv4 g d now=2):d.held=A4/\now<d.til:=by
 unfold qv4 at h;cases hh:d.held with
 |true=>
  rw[hh,yB yR]at h;split at h;.rename_i w;exact⟨rfl,w⟩
  .split at h<;>cases h
 |false=>rw[hh,yA (by simp)]at h;split at h<;>cases h
def q761(h:qa6 ttl=A4):0<ttl/\ttl<=1073741824:=by unfold qa6 at h;simp only[Aa,yJ]at h;exact h
def qd51(h:q79 now=A4):0<=now/\now<=1099511627776:=by unfold q79 at h;simp only[Aa,yJ]at h;exact h
def q961(w:q79 now=A4)(h:qa6 B.most=A4)(a:qa6 ttl=A4):now<Zw Zk (now+q2f B.most ttl):=by
 have:=qd51 w;have:=q761 h;have:=q761 a;have b:0<q2f B.most ttl/\q2f B.most ttl<=1073741824:=by unfold q2f;split<;>omega
 rw[w64];omega
def q141{R:List (Int×q31)}(w:q401 B now R){d:LeD}(b:d.name=name)(c:d.held=A4->now<d.til/\qli R d.conn)(e:Int):q401 { B with epoch:=e,L:=qk B.L name d} now R:=by
 refine⟨qr7 w.nB _ _,λk q h=>?_,λk q h a=>?_,w.most,w.clock⟩
 .change qe (qk B.L name d) k=A0 q at h;rw[qh2]at h;split at h;.rename_i e;subst e;cases h;exact b
  .exact w.name k q h
 .change qe (qk B.L name d) k=A0 q at h;rw[qh2]at h;split at h;.cases h;exact c a
  .exact w.held k q h a
def qb51{R:List (Int×q31)}(a:q401 B now R)(c:qli R conn):q401 (qk5 B ten name conn now ttl).1 now R:=by
 unfold qk5;split
 .rename_i w;have b:qa6 ttl=A4:=by
   unfold q38 at w;split at w;.exact yI w (by decide)
   split at w;.exact yI w (by decide)
   split at w;.exact yI w (by decide)
   split at w;.exact yI w (by decide)
   rename_i h;simpa using h
  exact q141 (d:=qy9 B ten name conn now ttl) a yR (λ_=>⟨q961 a.clock a.most b,c⟩) _
 .exact a
def qf31(h:qi9 B ten name epoch now=0):∃d,qe B.L name=A0 d/\qv4 B.grace d now=2:=by
 unfold qi9 at h;split at h;.exact yI h (by decide)
 split at h;.exact yI h (by decide)
 .rename_i d a;refine⟨d,a,?_⟩;split at h;.exact yI h (by decide)
  .rename_i w;exact Decidable.not_not.1 w
def q751{R:List (Int×q31)}(h:q401 B now R):q401 (qpb B ten name epoch now ttl).1 now R:=by
 unfold qpb;split;.exact h
 rename_i e;split
 .rename_i b;obtain⟨d,w,a⟩:=qf31 b;rw[w];simp only;obtain⟨c,f⟩:=qz31 a;exact q141 (d:={ d with til:=Zw Zk (now+q2f B.most ttl)}) h (h.name name d w) (λ_=>⟨q961 h.clock h.most (by simpa using e),(h.held name d w c).2⟩) B.epoch
 .exact h
def qp41{R:List (Int×q31)}(w:q401 B now R):q401 (qmb B ten name epoch now).1 now R:=by
 unfold qmb;split
 .rename_i b;obtain⟨d,a,c⟩:=qf31 b;rw[a];exact q141 (d:=q78 d (Zw Zk (now+B.grace))) w (w.name name d a) (λh=>by cases h) B.epoch
 .exact w
def qq41(h:¬(qmb B ten name epoch now).2≠0):(q06 B name now).2=A4:=by
 have w:qi9 B ten name epoch now=0:=by
  have h:=Decidable.not_not.1 h;unfold qmb at h;split at h;.rename_i w;exact w
  .exact h
 obtain⟨d,b,a⟩:=qf31 w;unfold q06;rw[b];simp only;rw[yB a]
def qm21(h:s.Str m)(a:s.Book)(w:LeD)(e:Int):(s.granted id w e).Str m/\(s.granted id w e).Book/\Hv id s (s.granted id w e):=
 ⟨Str.tell h id _,Book.keep a yR yR λj b=>b,qf21 s id _⟩
def qj61(h:s.Str m)(g:s.Book)(i:qli s.roles id)(r:q31)(w:qk1):(s.claim id r w).Str m/\(s.claim id r w).Book/\Hv id s (s.claim id r w):=by
 have key:∀s:Bk,s.Str m->s.Book->qli s.roles id->(s.claim1 id r w).Str m/\(s.claim1 id r w).Book/\Hv id s (s.claim1 id r w):=by
  intro s h g i;unfold Bk.claim1;have f:=qb51 (ten:=r.ten) (name:=w.A) (ttl:=w.N) g i;generalize qk5 s.B r.ten w.A id s.K.now w.N=y at f;obtain⟨B,l,e⟩:=y;simp only at f⊢;split
  .obtain⟨d,c,a⟩:=qm21 (s:=Bk.give { s with B:=B} r.ten 1) (id:=id) h f l e;exact⟨d,c,(Hv.same (s:=s) (s':=Bk.give { s with B:=B} r.ten 1) id rfl yR yR yR yR).trans a⟩
  .obtain⟨d,c,a⟩:=qm21 (s:={ s with B:=B}) (id:=id) h f l e;exact⟨d,c,(Hv.same (s:=s) (s':={ s with B:=B}) id rfl yR yR yR yR).trans a⟩
 have n:Hv id s { s with O:=(qq5 s.O r.ten 1).1}:=Hv.same id rfl yR yR yR yR;have b:Bk.Book { s with O:=(qq5 s.O r.ten 1).1}:=Book.keep g yR yR λj k=>k;unfold Bk.claim;split;.exact⟨Str.tell (s:={ s with O:=(qq5 s.O r.ten 1).1}) h id _,Book.keep b yR yR λj k=>k,n.trans (qf21 _ id _)⟩
 .obtain⟨d,c,a⟩:=key { s with O:=(qq5 s.O r.ten 1).1} h b i;exact⟨d,c,n.trans a⟩
def qk61(h:s.Str m)(b:s.Book)(r:q31)(w:qk1):(s.renew id r w).Str m/\(s.renew id r w).Book/\Hv id s (s.renew id r w):=by unfold Bk.renew;have a:=q751 (ten:=r.ten) (name:=w.A) (epoch:=w.N) (ttl:=w.M) b;generalize qpb s.B r.ten w.A w.N s.K.now w.M=y at a;obtain⟨B,f,e⟩:=y;simp only at a⊢;obtain⟨g,d,c⟩:=qm21 (s:={ s with B:=B}) (id:=id) h a f e;exact⟨g,d,(Hv.same (s:=s) (s':={ s with B:=B}) id rfl yR yR yR yR).trans c⟩
def qp21{R:List (Int×q31)}{j:Int}(h:qli R j):∀q,qe R j=A0 q->q.kind≠4:=λq a=>by obtain⟨b,w,c⟩:=h;rw[a]at w;cases w;omega
def qt51(h:s.Str m)(c:s.Book)(r:q31)(w:qk1):(s.release id r w).Str m/\(s.release id r w).Book/\Hv id s (s.release id r w):=by
 unfold Bk.release;have b:=qp41 (ten:=r.ten) (name:=w.A) (epoch:=w.N) c;have a:=qq41 (B:=s.B) (ten:=r.ten) (name:=w.A) (epoch:=w.N) (now:=s.K.now);have f:=qs41 c (name:=w.A);generalize (q06 s.B w.A s.K.now)=hd at a f;generalize qmb s.B r.ten w.A w.N s.K.now=y at b a;obtain⟨B,e⟩:=y;simp only at b a⊢;have g:Hv id s { s with B:=B}:=Hv.same id rfl yR yR yR yR;split;.exact⟨Str.tell (s:={ s with B:=B}) h id _,Book.keep (s:={ s with B:=B}) b yR yR λj l=>l,g.trans (qf21 _ id _)⟩
 .rename_i i;have k:=f (a i);obtain⟨n,d,_⟩:=qq21 (s:={ s with B:=B}) h hd.1 (qp21 k);exact⟨n,Book.vis (s:={ s with B:=B}) b d,g.trans (d.hv id)⟩
def qz41(T:TkB)(text ten:ByteArray):((qw7 T text ten).2.2≠0/\(qw7 T text ten).1=T)\/∃i t,T.good[i]?=A0 t/\qw7 T text ten=({ T with good:=T.good.eraseIdx i},t.p,0):=by
 unfold qw7;split;.exact .inl ⟨show(151:Int)≠0 by decide,rfl⟩
 .rename_i t h;split;.exact .inl ⟨show(151:Int)≠0 by decide,rfl⟩
  .split;.exact .inl ⟨show(131:Int)≠0 by decide,rfl⟩
   .exact .inr ⟨_,t,h,rfl⟩
def q641(P:qd6)(v c:Int):(q4g P v c).1=P\/(q4g P v c).1.ends=qk (qk P.ends v (c,A4)) c (v,A2):=by
 unfold q4g;split;.exact .inl yR
 .split;.exact .inl yR
  .exact .inr yR
def q261{l:List TkD}(w:(l.map (·.p.vis)).Nodup){i:Nat}{t:TkD}(a:l[i]?=A0 t):∀u∈l.eraseIdx i,u.p.vis≠t.p.vis:=λu b e=>by have h:=(qxc a).map (·.p.vis);rw[Ap]at h;have:=Ax.1 (h.nodup_iff.1 w);exact this.1 (by rw[<-e];exact Af.2 ⟨u,b,rfl⟩)
end
end
section
structure Hw(x:Int)(s s':Bk):Prop where
 P:s'.P=s.P
 pumps:s'.pumps=s.pumps
 now:s'.K.now=s.K.now
 last:s'.N.last=s.N.last
 R:∀j,j≠x->qe s'.roles j=qe s.roles j\/qe s'.roles j=Ab/\qcc s.roles j
 N:∀j r,j≠x->qe s.roles j=A0 r->r.kind=4->qe s'.N.L j=qe s.N.L j
 E:∀j d',qe s'.N.L j=A0 d'->∃d,qe s.N.L j=A0 d/\d'.ended=d.ended
def Hv.hw{x:Int}{s s':Bk}(h:Hv x s s'):Hw x s s':=⟨h.P,h.pumps,h.now,h.last,h.R,h.N,λj d b=>by obtain⟨d0,a,w,_⟩:=h.E j d b;exact⟨d0,a,w⟩⟩
def Hw.trans{x:Int}{s t u:Bk}(h:Hw x s t)(k:Hw x t u):Hw x s u where
 P:=k.P.trans h.P
 pumps:=k.pumps.trans h.pumps
 now:=k.now.trans h.now
 last:=k.last.trans h.last
 R:=λj w=>by
  rcases k.R j w with b|⟨b,r,c,f⟩;.rw[b];exact h.R j w
  .rcases h.R j w with a|⟨a,e⟩;.exact .inr ⟨b,r,by rw[<-a];exact c,f⟩
   .exact .inr ⟨b,e⟩
 N:=λj r w c f=>by
  refine(k.N j r w ?_ f).trans (h.N j r w c f);rcases h.R j w with a|⟨_,q,e,g⟩;.rw[a];exact c
  .rw[c]at e;cases e;omega
 E:=λj d m=>by obtain⟨l,b,a⟩:=k.E j d m;obtain⟨d0,g,i⟩:=h.E j l b;exact⟨d0,g,a.trans i⟩
section
variable{m:Int}{s s' t:Bk}{c:qy}{id x v:Int}{r r':q31}
def Hw.talk(h:Hw x s s')(g:Talk x s):Talk x s':=λj q d a w f c=>by
 obtain⟨d0,i,b⟩:=h.E j d c;rw[b];rcases h.R j a with e|⟨e,_⟩;.rw[e]at w;exact g j q d0 a w f i
 .rw[e]at w;cases w
def New.talk(h:New x v s s')(g:Talk x s):Talk x s':=λj q d b w a c=>by
 rw[h.N]at c;by_cases e:j=v
 .obtain⟨p,f⟩:=h.rv;rw[e,f]at w;cases w;have a:(4:Int)=1\/(4:Int)=2:=a;omega
 .rw[h.R j b e]at w;exact g j q d b w a c
def q461(h:s.Str m)(H:s.Book)(N:qe s.roles id=A0 r)(hk:r.kind=2)(Q:∀k d,qe s.B.L k=A0 d->d.held=A4->s.K.now<d.til->d.conn≠id){i:Nat}{t:TkD}(Z:s.T.good[i]?=A0 t):
 t.p.vis≠id/\(Bk.paired c { s with T:={ s.T with good:=s.T.good.eraseIdx i} } id t.p).Str m/\(Bk.paired c { s with T:={ s.T with good:=s.T.good.eraseIdx i} } id t.p).Book/\New id t.p.vis s (Bk.paired c { s with T:={ s.T with good:=s.T.good.eraseIdx i} } id t.p):=by
 have J:=h.tick t (Ah Z);obtain⟨q,C,V⟩:=J;have n:t.p.vis≠id:=λe=>by rw[e,N]at C;cases C;omega
 obtain⟨rv,v⟩:∃rv,rv=qq7 t.p.vis t.p s.pumps.length 0:=⟨_,rfl⟩;obtain⟨rx,x⟩:∃rx,rx=qq7 id t.p s.pumps.length 1:=⟨_,rfl⟩;have get:∀j,qe (qk (qk s.roles t.p.vis rv) id rx) j=if id=j then A0 rx else if t.p.vis=j then A0 rv else qe s.roles j:=λj=>by rw[qh2,qh2]
 have old:∀j,j≠id->j≠t.p.vis->qe (qk (qk s.roles t.p.vis rv) id rx) j=qe s.roles j:=λj f a=>by rw[get,yA (λe=>f e.symm),yA (λe=>a e.symm)]
 have l:∀j,qcc s.roles j->j≠t.p.vis->qcc (qk (qk s.roles t.p.vis rv) id rx) j:=λj w U=>w.of (old j (λe=>by obtain⟨R,f,a⟩:=w;rw[e,N]at f;cases f;omega) U)
 have pv:qe s.P.ends t.p.vis=Ab:=qa21 h C (by omega);have px:qe s.P.ends id=Ab:=qa21 h N (by omega);have p:∀j o b,qe s.P.ends j=A0 (o,b)->o≠j/\(j≠id/\j≠t.p.vis)/\(o≠id/\o≠t.p.vis)/\qe s.P.ends o=A0 (j,!b)/\∃r i,qe s.roles j=A0 r/\r.kind=4/\r.pump=A0 i/\i<(s.pumps++[Ri.PS.new]).length:=λj o b w=>by
  obtain⟨f,a,I,i2,A,D,F,K⟩:=h.pair j o b w;refine⟨f,⟨λe=>?_,λe=>?_⟩,⟨λe=>?_,λe=>?_⟩,a,I,i2,A,D,F,by rw[Az];omega⟩;.rw[e,px]at w;cases w
  .rw[e,pv]at w;cases w
  .rw[e,px]at a;cases a
  .rw[e,pv]at a;cases a
 have hS:qr5 m s.N (qk (qk s.roles t.p.vis rv) id rx) (q4g s.P t.p.vis id).1 (s.pumps++[Ri.PS.new]) (Qu.gDrop s.Q t.p.vis) { s.T with good:=s.T.good.eraseIdx i} s.S:=by
  refine { nN:=h.nN,nR:=qr7 (qr7 h.nR _ _) _ _,nS:=h.nS,nT:=h.nT.sublist ((B2 _ _).map _),nP:=?_,pair:=?_,same:=λj=>?_,role:=λj R g=>?_,que:=λy M=>?_,tick:=λu Y=>?_,last0:=h.last0,last1:=h.last1,key:=h.key,sk:=h.sk,cred:=h.cred,mov:=λz E=>?_}
  .rcases q641 s.P t.p.vis id with e|e;.rw[e];exact h.nP
   .rw[e];exact qr7 (qr7 h.nP _ _) _ _
  .rw[get];split;.rename_i e;subst e;rw[<-h.same,N];rfl
   .split;.rename_i e;subst e;rw[<-h.same,C];rfl
    .exact h.same j
  .rw[get]at g;split at g;.rename_i e;subst e;cases g;rw[x];exact⟨rfl,.inr (.inr (.inr yR))⟩
   .split at g;.rename_i e;subst e;cases g;rw[v];exact⟨rfl,.inr (.inr (.inr yR))⟩
    .exact h.role j R g
  .intro j o b w;rcases q641 s.P t.p.vis id with e|e
   .rw[e]at w⊢;obtain⟨f,a,A,D,I,i2,F,K,P,W⟩:=p j o b w;exact⟨f,D,I,i2,by rw[old j a.1 a.2];exact F,K,P,W⟩
   .rw[e]at w⊢;have L:∀j,qe (qk (qk s.P.ends t.p.vis (id,A4)) id (t.p.vis,A2)) j=if id=j then A0 (t.p.vis,A2)else if t.p.vis=j then A0 (id,A4)else qe s.P.ends j:=λj=>by rw[qh2,qh2]
    have B:s.pumps.length<(s.pumps++[Ri.PS.new]).length:=by rw[Az];exact Nat.lt_succ_self _
    rw[L]at w;by_cases G:id=j
    .rw[yB G]at w;cases w;subst G;refine⟨n,by rw[L,yA (λe=>n e.symm),yB yR];rfl,rx,s.pumps.length,by rw[get,yB yR],by rw[x];rfl,by rw[x];rfl,B⟩
    .rw[yA G]at w;by_cases O:t.p.vis=j
     .rw[yB O]at w;cases w;subst O;refine⟨G,by rw[L,yB yR];rfl,rv,s.pumps.length,by rw[get,yA G,yB yR],by rw[v];rfl,by rw[v];rfl,B⟩
     .rw[yA O]at w;obtain⟨f,a,A,D,I,i2,F,K,P,W⟩:=p j o b w;refine⟨f,by rw[L,yA (λe=>A.1 e.symm),yA (λe=>A.2 e.symm)];exact D,I,i2,by rw[old j a.1 a.2];exact F,K,P,W⟩
  .have M:=Ao.1 M;exact l _ (h.que y M.1) (by simpa using M.2)
  .exact l _ (h.tick u ((B2 _ _).subset Y)) (q261 h.nT Z u Y)
  .rcases B6.1 E with E|E;.exact h.mov z E
   .simp at E;subst E;exact⟨rfl,rfl⟩
 subst v x;refine⟨n,hS,?_,⟨rfl,rfl,qg11 _ _ _,rfl,λj f a=>old j f a,⟨t.p,?_⟩,⟨t.p,?_⟩,n,q,C,V⟩⟩
 .refine⟨H.nB,H.name,λk d hd X=>?_,H.most,?_⟩
  .obtain⟨f,a⟩:=H.held k d hd X;have hn:=Q k d hd X f;have e:(Bk.paired c { s with T:={ s.T with good:=s.T.good.eraseIdx i} } id t.p).K.now=s.K.now:=qg11 _ _ _;rw[e];refine⟨f,a.of (old _ hn λe=>?_)⟩;obtain⟨R,A,D⟩:=a;rw[e,C]at A;cases A;omega
  .have e:(Bk.paired c { s with T:={ s.T with good:=s.T.good.eraseIdx i} } id t.p).K.now=s.K.now:=qg11 _ _ _;rw[e];exact H.clock
 .exact(get _).trans (by rw[yA (λe=>n e.symm),yB yR])
 .exact(get _).trans (by rw[yB yR])
def q951(h:s.Str m)(j:s.Book)(o:qe s.roles id=A0 r)(n:r.kind=2)(w:qk1):∃s',s.callback c id r w=A0 s'/\s'.Str m/\s'.Book/\qu61 id s s':=by
 unfold Bk.callback;split
 .obtain⟨g,f,b,_⟩:=qy11 h j o (.inr n) 1;exact⟨_,rfl,g,f,.inl b⟩
 .rename_i v;have l:∀k d,qe s.B.L k=A0 d->d.held=A4->s.K.now<d.til->d.conn≠id:=λk d x A q e=>by apply v;rw[Ba];refine⟨d,qm41 j.nB x yR,?_⟩;unfold Bk.holds;rw[e,A,yG q];simp
  rcases qz41 s.T w.B r.ten with ⟨u,a⟩|⟨i,t,q,a⟩
  .generalize qw7 s.T w.B r.ten=y at u a;obtain⟨T,p,e⟩:=y;simp only at u a⊢;rw[yB u];subst a;obtain⟨g,f,b,_⟩:=qy11 h j o (.inr n) e;exact⟨_,rfl,g,f,.inl b⟩
  .rw[a];simp only;rw[yA (by simp)];obtain⟨g,f,b,z⟩:=q461 (c:=c) h j o n l q;rw[yA g];exact⟨_,rfl,f,b,.inr ⟨_,z⟩⟩
def q671(h:s.Str m)(z:s.Book)(D:qe s.roles id=A0 r)(E:r.kind=1\/r.kind=2)(d:qk1)(draw:ByteArray):∃s',s.hear c id r d draw=A0 s'/\s'.Str m/\s'.Book/\qu61 id s s':=by
 obtain⟨u,i⟩:∃u,u=s.alarm c.idle [id]:=⟨_,rfl⟩;have x:u.P=s.P:=by rw[i];rfl
 have o:u.pumps=s.pumps:=by rw[i];rfl
 have q:u.K.now=s.K.now:=by rw[i];exact qg11 _ _ _
 have y:u.N=s.N:=by rw[i];rfl
 have n:u.roles=s.roles:=by rw[i];rfl
 have B:u.B=s.B:=by rw[i];rfl
 have a:u.Str m:=by rw[i];exact h
 have b:u.Book:=Book.keep z B q λj C=>by rw[n];exact C
 have k:Hv id s u:=Hv.same id x o q y n;have g:qe u.roles id=A0 r:=by rw[n];exact D
 unfold Bk.hear;simp only;rw[<-i];split
 .rename_i p;obtain⟨s',t,f,e,w⟩:=qn61 (c:=c) a b g p d draw;exact⟨s',t,f,e,.inl (k.trans w)⟩
 rename_i p;have l:r.kind=2:=by omega
 split
 .obtain⟨f,e,w⟩:=qj61 a b ⟨r,g,l⟩ r d;exact⟨_,rfl,f,e,.inl (k.trans w)⟩
 split
 .obtain⟨f,e,w⟩:=qk61 (id:=id) a b r d;exact⟨_,rfl,f,e,.inl (k.trans w)⟩
 split
 .obtain⟨f,e,w⟩:=qt51 (id:=id) a b r d;exact⟨_,rfl,f,e,.inl (k.trans w)⟩
 split;.exact⟨_,rfl,a,b,.inl k⟩
 split
 .obtain⟨s',t,f,e,w⟩:=q951 (c:=c) a b g l d;refine⟨s',t,f,e,?_⟩;rcases w with w|⟨v,w⟩;.exact .inl (k.trans w)
  .exact .inr ⟨v,by rw[w.P,x],by rw[w.pumps,o],by rw[w.now,q],by rw[w.N,y],λj p A=>by rw[w.R j p A,n],by rw[<-o];exact w.rv,by rw[<-o];exact w.rx,w.ne,by rw[<-n];exact w.vis⟩
 .obtain⟨f,e,w,_⟩:=qy11 a b g (.inr l) 1;exact⟨_,rfl,f,e,.inl (k.trans w)⟩
def qn51(x:Int)(s s':Bk):Prop:=Hw x s s'\/∃v t,Hw x s t/\New x v t s'
def ql11(s:Bk):Prop:=∀j r d,qe s.roles j=A0 r->(r.kind=1\/r.kind=2)->qe s.N.L j=A0 d->d.ended=A2
def ql61(T:Cn.CT)(id:Int):(Cn.nextT T id).1=T.upd id λd=>{ d with inb:=d.inb.drop (Fr.firstP d.inb).2.1}:=by unfold Cn.nextT Cn.CT.upd;cases qe T.L id<;>rfl
def first_err{l:List UInt8}(h:(Fr.firstP l).2.2≠0):(Fr.firstP l).1=[]:=by
 unfold Fr.firstP at h⊢;split;.rfl
 .rename_i a r;simp only at h;split;.rfl
  .rename_i c;rw[yA c]at h;split;.rfl
   .rename_i b q;simp only at h;split;.rfl
    .rename_i w;rw[yA w]at h;split;.rfl
     .rename_i d;rw[yA d]at h;exact yI yR h
def first_le(l:List UInt8):(Fr.firstP l).2.1<=l.length:=by
 unfold Fr.firstP;split;.exact Ai _
 .split;.exact Ae _
  .split;.exact Ae _
   .split;.exact Ae _
    .split;.exact Ae _
     .simp only[Au];omega
def Hw.refl(x:Int)(s:Bk):Hw x s s:=(Hv.refl x s).hw
def q071(draw:ByteArray):∀(k:Nat) (s:Bk),(∀d,qe s.N.L id=A0 d->d.inb.length<k)->s.Str m->s.Book->Talk id s->
 ∃n s',(∀w,n<=w->Bk.read c w s id draw=A0 s')/\s'.Str m/\s'.Book/\ql11 s'/\qn51 id s s':=by
 have stop:∀s:Bk,s.Str m->s.Book->Talk id s->s.talks id=Ab->∃n s',(∀w,n<=w->Bk.read c w s id draw=A0 s')/\s'.Str m/\s'.Book/\ql11 s'/\qn51 id s s':=by
  intro s h O Q A;refine⟨1,s,λw E=>?_,h,O,λj r d R u g=>?_,.inl (Hw.refl id s)⟩
  .obtain⟨w,rfl⟩:∃x,w=x+1:=⟨w - 1,by omega⟩;unfold Bk.read;rw[A]
  .by_cases e:j=id
   .subst e;unfold Bk.talks at A;rw[R]at A;simp only at A;rw[yB u]at A;cases A
   .exact Q j r d e R u g
 intro k;induction k with
 |zero=>
  intro s Z h O Q;refine stop s h O Q ?_;have hN:qe s.N.L id=Ab:=by
   cases g:qe s.N.L id with
   |none=>rfl
   |some d=>exact yI (Z d g) (by omega)
  have hR:qe s.roles id=Ab:=by have:=h.same id;rw[hN]at this;simpa using this
  unfold Bk.talks;rw[hR]
 |succ k ih=>
  intro s Z h O Q;cases a:s.talks id with
  |none=>exact stop s h O Q a
  |some r=>
  obtain⟨R,u⟩:qe s.roles id=A0 r/\(r.kind=1\/r.kind=2):=by
   unfold Bk.talks at a;cases y:qe s.roles id with
   |none=>rw[y]at a;cases a
   |some r2=>
    rw[y]at a;simp only at a;split at a;.cases a;rename_i P;exact⟨rfl,P⟩
    .cases a
  have hc:=(h.role id r R).conn;obtain⟨d0,M⟩:∃d,qe s.N.L id=A0 d:=A6.1 (by rw[<-h.same,R];rfl);have hlen:=Z d0 M;have hu:=ql61 s.N id;have i:(Cn.nextT s.N id).2.2.1=decide (0<(Fr.firstP d0.inb).2.1)/\(Cn.nextT s.N id).2.2.2=(Fr.firstP d0.inb).2.2/\(Cn.nextT s.N id).2.1=(Fr.firstP d0.inb).1:=by unfold Cn.nextT;rw[M];exact⟨rfl,rfl,rfl⟩
  obtain⟨b,f⟩:∃b:Bk,b={ s with N:=(Cn.nextT s.N id).1}:=⟨_,rfl⟩;have B:b.N=s.N.upd id λd=>{ d with inb:=d.inb.drop (Fr.firstP d.inb).2.1}:=by rw[f];exact hu
  have J:b.roles=s.roles:=by rw[f]
  have y:b.Str m:=by rw[f];unfold Bk.Str;rw[hu];exact qr5.upd h id λd g=>g
  have D:b.Book:=Book.keep O (by rw[f]) (by rw[f]) λj hj=>by rw[J];exact hj
  have l:Hw id s b:=⟨by rw[f],by rw[f],by rw[f],by rw[B];exact qoe _ _ _,λj _=>.inl (by rw[J]),λj q hj _ _=>by rw[B,ql3,yA (λe=>hj e.symm)],λj d g=>by
   rw[B,ql3]at g;split at g
   .obtain⟨d2,P,rfl⟩:=A9.1 g;exact⟨d2,P,rfl⟩
   .exact⟨d,g,rfl⟩⟩
  have F:=Hw.talk l Q;have H:qe b.roles id=A0 r:=by rw[J];exact R
  have h0:qe b.N.L id=A0 { d0 with inb:=d0.inb.drop (Fr.firstP d0.inb).2.1}:=by rw[B,ql3,yB yR,M];rfl
  have Y:∀n,Bk.read c (n+1) s id draw=if(Fr.firstP d0.inb).2.2=0/\decide (0<(Fr.firstP d0.inb).2.1)=A2 then(if b.ask id A2 (λd=>d.ended)=A4 then A0 (b.shut id)else A0 b)else
   (if(qxg (Fr.firstP d0.inb).1).2=A2 then A0 (b.refuse id 61)else match b.hear c id r (qxg (Fr.firstP d0.inb).1).1 draw with
    |none=>Ab
    |some s=>Bk.read c n s id draw):=λn=>by
   rw[Bk.read,a];simp only;rw[yA (by rw[hc];simp),<-i.1,<-i.2.1,<-i.2.2,f];rfl
  have gone:∀o:Bk,o.Str m->o.Book->Hw id b o->qe o.roles id=Ab->(∀n,Bk.read c (n+1) s id draw=A0 o)->∃n s',(∀w,n<=w->Bk.read c w s id draw=A0 s')/\s'.Str m/\s'.Book/\ql11 s'/\qn51 id s s':=by
   intro o K L G C g5;refine⟨1,o,λw E=>?_,K,L,λj q d V u g=>?_,.inl (l.trans G)⟩
   .obtain⟨w,rfl⟩:∃x,w=x+1:=⟨w - 1,by omega⟩;exact g5 w
   .by_cases e:j=id;.rw[e,C]at V;cases V
    .exact Hw.talk G F j q d e V u g
  by_cases c1:(Fr.firstP d0.inb).2.2=0/\decide (0<(Fr.firstP d0.inb).2.1)=A2
  .cases hen:b.ask id A2 (λd=>d.ended)with
   |true=>exact gone _ (qk11 y id).1 (q021 y D id) (qe41 y H u).hw (qk11 y id).2.2 λn=>by rw[Y,yB c1,yB hen]
   |false=>
    refine⟨1,b,λw E=>?_,y,D,λj q d V u g=>?_,.inl l⟩
    .obtain⟨w,rfl⟩:∃x,w=x+1:=⟨w - 1,by omega⟩;rw[Y,yB c1,yA (by rw[hen];simp)]
    .by_cases e:j=id
     .subst e;have:b.N.ask j A2 (λd=>d.ended)=A2:=hen;rw[q54 g]at this;exact this
     .exact F j q d e V u g
  by_cases W:(qxg (Fr.firstP d0.inb).1).2=A2
  .obtain⟨K,L,G,C⟩:=qy11 y D H u 61;exact gone _ K L G.hw C λn=>by rw[Y,yA c1,yB W]
  have he:(Fr.firstP d0.inb).2.2=0:=by apply Decidable.byContradiction;intro I;rw[first_err I]at W;exact W yR
  have hpos:0<(Fr.firstP d0.inb).2.1:=by apply Decidable.byContradiction;intro I;exact c1 ⟨he,yH I⟩
  have hle:=first_le d0.inb;obtain⟨o,e2,P,T,z⟩:=q671 (c:=c) y D H u (qxg (Fr.firstP d0.inb).1).1 draw;have U:∀n,Bk.read c (n+1) s id draw=Bk.read c n o id draw:=λn=>by rw[Y,yA c1,yA W,e2]
  rcases z with z|⟨v,z⟩
  .obtain⟨n,s',X,K,L,G,C⟩:=ih o (λd g=>by obtain⟨d2,h3,_,h4⟩:=z.E id d g;rw[h0]at h3;cases h3;rw[h4];simp only[B3];omega) P T (Hv.talk z F)
   refine⟨n+1,s',λw E=>?_,K,L,G,?_⟩
   .obtain⟨w,rfl⟩:∃x,w=x+1:=⟨w - 1,by omega⟩;rw[U];exact X w (by omega)
   .rcases C with C|⟨v,t,C,g5⟩;.exact .inl ((l.trans z.hw).trans C)
    .exact .inr ⟨v,t,(l.trans z.hw).trans C,g5⟩
  .obtain⟨p,hp⟩:=z.rx;have A:o.talks id=Ab:=by unfold Bk.talks;rw[hp];rfl
   obtain⟨n,s',X,K,L,G,_⟩:=stop o P T (New.talk z F) A;have hs':s'=o:=by have:=X (n+1) (by omega);rw[Bk.read,A]at this;exact(Ac this).symm
   subst hs';refine⟨n+1,s',λw E=>?_,K,L,G,.inr ⟨v,b,l,z⟩⟩;obtain⟨w,rfl⟩:∃x,w=x+1:=⟨w - 1,by omega⟩;rw[U];exact X w (by omega)
end
end
section
structure Inv(m:Int)(s:Bk):Prop where
 str:s.Str m
 book:s.Book
 talk:ql11 s
 quiet:qj11 s
section
variable{m:Int}{s s' t:Bk}{c:qy}{id x v:Int}{r r':q31}{e:EvD}
def Less.talk0(h:Less s s')(f:ql11 s):ql11 s':=λj r d w c b=>by
 obtain⟨d0,g,a,_⟩:=h.E j d b;rcases h.R j with e|e
 .rw[e]at w;rw[a];exact f j r d0 w c g
 .rw[e]at w;cases w
def Rn.talk0(h:Rn s s')(e:ql11 s):ql11 s':=λj r d c i a=>by obtain⟨d0,f,w⟩:=h.E j d a;obtain⟨q,b,g⟩:=h.K j r c;rw[w];exact e j q d0 b (by omega) f
def qj11.same(h:qj11 s)(d:s'.P=s.P)(n:s'.pumps=s.pumps)(w:s'.N=s.N)(b:s'.roles=s.roles):qj11 s':=by
 have e:∀{f t i z},RQ s f t i z->RQ s' f t i z:=λk=>⟨k.pump,by rw[n];exact k.at_,k.ok,by rw[w];exact k.inn,by rw[w];exact k.zz,by rw[w];exact k.out,by rw[w];exact k.en⟩;have l:∀{r},FQ s r->FQ s' r:=λk=>⟨by rw[w];exact k.went,by rw[w];exact k.en⟩;have m:s'.ids=s.ids:=by unfold Bk.ids;rw[w]
 refine⟨?_,?_,?_⟩
 .rw[d,b];intro p g;obtain⟨rv,o,c,a,⟨i,z,q⟩,j,y,u⟩:=h.rel p g;exact⟨rv,o,c,a,⟨i,z,e q⟩,j,y,e u⟩
 .rw[m,b];intro id hid;obtain⟨r,c,a⟩:=h.flu id hid;exact⟨r,c,l a⟩
 .rw[d,b];exact h.end_
def qr5.more{N:Cn.CT}{R:List (Int×q31)}{P:qd6}{w:List Ri.PS}{Q:Qu.QG}{T:TkB}{S:List (Int×q81)}(h:qr5 m N R P w Q T S):qr5 (m+1) N R P w Q T S:={ h with last1:=by have:=h.last1;omega}
def Str.clear(h:s.Str m):Bk.Str m { s with S:=[]}:={ h with nS:=Am,sk:=λid h=>by cases h}
def qy61(h:s.Str m)(z:s.Book)(q:ql11 s)(H:m+1<=1000000)(addr:Int):(Cn.openT s.N addr).2.2≠0/\(Cn.openT s.N addr).1=s.N\/(Cn.openT s.N addr).2.2=0/\
 Bk.Str (m+1) ((({ s with N:=(Cn.openT s.N addr).1} :Bk).put (Cn.openT s.N addr).2.1 (q9l (Cn.openT s.N addr).2.1)).alarm c.wait [(Cn.openT s.N addr).2.1])/\
 Bk.Book ((({ s with N:=(Cn.openT s.N addr).1} :Bk).put (Cn.openT s.N addr).2.1 (q9l (Cn.openT s.N addr).2.1)).alarm c.wait [(Cn.openT s.N addr).2.1])/\
 ql11 ((({ s with N:=(Cn.openT s.N addr).1} :Bk).put (Cn.openT s.N addr).2.1 (q9l (Cn.openT s.N addr).2.1)).alarm c.wait [(Cn.openT s.N addr).2.1]):=by
 have A:=h.last0;have C:=h.last1;have F:Zw Zk (s.N.last+1)=s.N.last+1:=w64;unfold Cn.openT;split;.exact .inl ⟨show(2:Int)≠0 by decide,rfl⟩
 rw[F];refine .inr ⟨rfl,?_⟩;generalize G:s.N.last+1=n;have u:qe s.N.L n=Ab:=by
  cases f:qe s.N.L n with
  |none=>rfl
  |some d=>have:=h.key n (by rw[f];rfl);omega
 have D:qe s.roles n=Ab:=by have:=h.same n;rw[u]at this;simpa using this
 have p:∀j,qe (qk s.N.L n ⟨addr,[],[],0,A2⟩) j=if n=j then A0 ⟨addr,[],[],0,A2⟩else qe s.N.L j:=λj=>qh2 _ _ _ _
 have l:∀j,qe (qk s.roles n (q9l n)) j=if n=j then A0 (q9l n)else qe s.roles j:=λj=>qh2 _ _ _ _
 have k:∀j r,qe s.roles j=A0 r->n≠j:=λj r w e=>by rw[<-e,D]at w;cases w
 have g:∀j,qcc s.roles j->qcc (qk s.roles n (q9l n)) j:=λj a=>a.of (by obtain⟨r,w,_⟩:=a;rw[l,yA (k j r w)])
 refine⟨?_,?_,?_⟩
 .exact { nN:=qr7 h.nN _ _,nR:=qr7 h.nR _ _,nP:=h.nP,nS:=h.nS,nT:=h.nT
          same:=λj=>by
           show(qe (qk s.roles n (q9l n)) j).isSome=(qe (qk s.N.L n ⟨addr,[],[],0,A2⟩) j).isSome;rw[p,l];split;.rfl
           .exact h.same j
          role:=λj r w=>by
           change qe (qk s.roles n (q9l n)) j=A0 r at w;rw[l]at w;split at w;.rename_i e;subst e;cases w;exact⟨rfl,.inl ⟨rfl,rfl⟩⟩
           .exact h.role j r w
          pair:=λj o b a=>by obtain⟨x,h2,r,i,h3,B⟩:=h.pair j o b a;exact⟨x,h2,r,i,by show qe (qk s.roles n (q9l n)) j=_;rw[l,yA (k j r h3)];exact h3,B⟩
          que:=λy E=>g _ (h.que y E),tick:=λt q=>g _ (h.tick t q)
          last0:=by show 0<=n;omega
          last1:=by show n<=m+1;omega
          key:=λj a=>by
           have a:(qe (qk s.N.L n ⟨addr,[],[],0,A2⟩) j).isSome=A4:=a;show 1<=j/\j<=n;rw[p]at a;split at a;.omega
           .have:=h.key j a;omega
          sk:=λj a=>by have:=h.sk j a;show 1<=j/\j<=n;omega
          cred:=λj d f=>by
           change qe (qk s.N.L n ⟨addr,[],[],0,A2⟩) j=A0 d at f;rw[p]at f;split at f;.cases f;exact⟨Bq 0,show(0:Int)<=1073741824 by decide⟩
           .exact h.cred j d f
          mov:=h.mov}
 .exact Book.keep z yR (qg11 _ _ _) λj a=>a.of (by obtain⟨r,w,_⟩:=a;show qe (qk s.roles n (q9l n)) j=_;rw[l,yA (k j r w)])
 .intro j r d w v f;have w:qe (qk s.roles n (q9l n)) j=A0 r:=w;have f:qe (qk s.N.L n ⟨addr,[],[],0,A2⟩) j=A0 d:=f;rw[l]at w;rw[p]at f;split at f;.cases f;rfl
  .rename_i e;rw[yA e]at w;exact q j r d w v f
def qg41:∀(l:List LeD) (s:Bk),s.Str m->(∀x∈l,qli s.roles x.conn)->(l.foldl Bk.gone s).Str m/\Vis s (l.foldl Bk.gone s)
 |[],s,h,_=>⟨h,Vis.refl s⟩
 |a::r,s,h,b=>by
  rw[Ag];obtain⟨f,w,_⟩:=qq21 h a (qp21 (b a A3));obtain⟨d,g⟩:=qg41 r _ f λx e=>by obtain⟨q,i,c⟩:=b x (A1 _ e);exact⟨q,w.stays i (by omega),c⟩
  exact⟨d,w.trans g⟩
def qi31{f:Bk->Int->Bk}(b:∀s i,f s i=s\/f s i=s.shut i):∀(l:List Int) (s:Bk),s.Str m->s.Book->(l.foldl f s).Str m/\(l.foldl f s).Book/\Less s (l.foldl f s)
 |[],s,h,w=>⟨h,w,Less.refl s⟩
 |a::r,s,h,w=>by
  rw[Ag];have key:(f s a).Str m/\(f s a).Book/\Less s (f s a):=by
   rcases b s a with e|e;.rw[e];exact⟨h,w,Less.refl s⟩
   .rw[e];exact⟨(qk11 h a).1,q021 h w a,(qk11 h a).2.1⟩
  obtain⟨g,d,c⟩:=qi31 b r _ key.1 key.2.1;exact⟨g,d,key.2.2.trans c⟩
def qv31{B:qi3}{now:Int}{R:List (Int×q31)}(h:q401 B now R){L:LeL}(a:L.Sublist B.L):q401 { B with L:=L} now R:=by have b:(L.map (·.1)).Nodup:=h.nB.sublist (a.map _);have get:∀k d,qe L k=A0 d->qe B.L k=A0 d:=λk d w=>q24 h.nB (a.subset (qg3 w));exact⟨b,λk d w=>h.name k d (get k d w),λk d w=>h.held k d (get k d w),h.most,h.clock⟩
def q771(W:Inv m s)(hm:m+1<=1000000):∃n s' Q conn took,(∀o,n<=o->Bk.act c o { s with S:=[]} e=A0 (s',Q,conn,took))/\s'.Str (m+1)/\s'.Book/\ql11 s'/\(Q≠0->qj11 s'):=by
 obtain⟨w,z⟩:∃w:Bk,w={ s with S:=[]}:=⟨_,rfl⟩;have h:w.Str m:=by rw[z];exact Str.clear W.str
 have u:w.Book:=Book.keep W.book (by rw[z]) (by rw[z]) λj E=>by rw[z];exact E
 have C:ql11 w:=by rw[z];exact W.talk
 have H:qj11 w:=by rw[z];exact qj11.same W.quiet yR yR yR yR
 rw[<-z];unfold Bk.act;by_cases k1:e.kind=1
 .simp only[yB k1];rcases qy61 (c:=c) h u C hm e.addr with ⟨v,q⟩|⟨v,q,D,Z⟩
  .exact⟨0,{ w with N:=(Cn.openT w.N e.addr).1},_,0,0,λo _=>by rw[yB v],by unfold Bk.Str;rw[q];exact qr5.more h,Book.keep u yR yR λj E=>E,by intro j r d P O b;rw[q]at b;exact C j r d P O b,λ_=>qj11.same H yR yR q yR⟩
  .exact⟨0,_,0,_,0,λo _=>by rw[yA (by rw[v];simp)],q,D,Z,λh=>yI yR h⟩
 simp only[yA k1];have rd:∀(g:Cn.CnD->Cn.CnD),(∀d,(g d).credit=d.credit)->∃n s',(∀o,n<=o->Bk.read c o (w.upd e.conn g) e.conn e.draw=A0 s')/\s'.Str (m+1)/\s'.Book/\ql11 s':=by
  intro g hg;have Y:(w.upd e.conn g).Str m:=qr5.upd h e.conn λd b=>by rw[hg];exact b
  have h5:(w.upd e.conn g).Book:=Book.keep u yR yR λj E=>E;have h7:Talk e.conn (w.upd e.conn g):=λj r d X P O b=>by change qe (w.N.upd e.conn g).L j=_ at b;rw[ql3,yA (λe=>X e.symm)]at b;exact C j r d P O b
  obtain⟨n,s',T,v,q,D,_⟩:=q071 (c:=c) e.draw (((w.upd e.conn g).N.ask e.conn 0 λd=>d.inb.length)+1) (w.upd e.conn g) (λd b=>by rw[q54 b];omega) Y h5 h7;exact⟨n,s',T,qr5.more v,q,D⟩
 by_cases k2:e.kind=2
 .simp only[yB k2];obtain⟨n,s',T,v,q,D⟩:=rd (Cn.gFeed (qm e.b)) λd=>by unfold Cn.gFeed;split<;>rfl
  exact⟨n,s',0,0,_,λo V=>by rw[T o V],v,q,D,λh=>yI yR h⟩
 simp only[yA k2];by_cases k3:e.kind=3
 .simp only[yB k3];refine⟨0,_,_,_,_,λo _=>rfl,qr5.more (qr5.upd h e.conn λd b=>?_),Book.keep u yR yR λj E=>E,λj r d P O b=>?_,λt=>?_⟩
  .unfold Cn.gBudget;split;.exact b
   .rename_i V;have:0<=e.n/\e.n<=1073741824:=by omega
    rw[w64];simp only;split<;>omega
  .change qe (w.N.upd e.conn _).L j=_ at b;rw[ql3]at b;split at b
   .obtain⟨d0,h0,rfl⟩:=A9.1 b;have:=C j r d0 P O h0;unfold Cn.gBudget;split<;>exact this
   .exact C j r d P O b
  .have a:w.upd e.conn (Cn.gBudget e.n)=w:=qyg w _ λd b=>by
    have:w.ask e.conn A2 (Cn.rBudget e.n)=Cn.rBudget e.n d:=q54 b;rw[this]at t;unfold Cn.gBudget;cases hb2:Cn.rBudget e.n d with
    |true=>rw[hb2,yB yR]at t;exact yI yR t
    |false=>unfold Cn.rBudget at hb2;simp only[Bool.not_eq_false',Bool.or_eq_true,yJ]at hb2;rw[yB hb2]
   rw[a];exact H
 simp only[yA k3];by_cases k4:e.kind=4
 .simp only[yB k4];by_cases G:w.ask e.conn A2 (λd=>!d.ended)=A2
  .simp only[yB G];have a:w.upd e.conn Cn.gHalf=w:=qyg w _ λd b=>by
    have:w.ask e.conn A2 (λd=>!d.ended)=!d.ended:=q54 b;rw[this]at G;have:d.ended=A4:=by simpa using G
    unfold Cn.gHalf;rw[<-this]
   exact⟨0,_,_,_,_,λo _=>rfl,by rw[a];exact qr5.more h,by rw[a];exact u,by rw[a];exact C,λ_=>by rw[a];exact H⟩
  .simp only[yA G];obtain⟨n,s',T,v,q,D⟩:=rd Cn.gHalf λd=>rfl;exact⟨n,s',0,0,0,λo V=>by rw[T o V],v,q,D,λh=>yI yR h⟩
 simp only[yA k4];by_cases k5:e.kind=5
 .simp only[yB k5];obtain⟨v,q,_⟩:=qk11 h e.conn;exact⟨0,_,_,_,_,λo _=>rfl,qr5.more v,q021 h u e.conn,q.talk0 C,λh=>yI yR h⟩
 simp only[yA k5];by_cases k6:e.kind=6
 .simp only[yB k6];unfold Ck.cTick;by_cases t:e.n<0\/e.n>Ck.maxN - w.K.now
  .simp only[yB t];exact⟨0,_,_,_,_,λo _=>by rw[yB (by decide)],qr5.more h,u,C,λ_=>H⟩
  .simp only[yA t];have hc:=qd51 u.clock;have U:q79 (w.K.now+e.n)=A4:=by have:Ck.maxN=1099511627776:=rfl;unfold q79;simp only[Aa,yJ];omega
   generalize (w.K.al.filter λx=>decide (x.2<=w.K.now+e.n)).map (·.1)=al;generalize hK:(⟨w.K.now+e.n,w.K.al.filter λx=>decide (¬x.2<=w.K.now+e.n)⟩:Ck.ClG)=K';have A:K'.now=w.K.now+e.n:=by rw[<-hK]
   have hB:=Book.turn u (so:=qad K'.now) (df:=q9d w.B.grace) (λd=>⟨rfl,rfl⟩) K'.now (by rw[A];exact U) (R':=w.roles) λk d b hh hs=>by refine⟨?_,(u.held k d b hh).2⟩;unfold qad at hs;rw[hh,B4,decide_eq_false_iff_not]at hs;omega
   have hl:qm7 w.B K'.now=({ w.B with L:=(qk4 (qad K'.now) (q9d w.B.grace) w.B.L).1.filter λx=>!(qv4 w.B.grace x.2 K'.now==0)},(qk4 (qad K'.now) (q9d w.B.grace) w.B.L).2):=by unfold qm7;rw[yA (by rw[A,U];simp)]
   have h6:=qv31 hB (Bh (p:=λx:ByteArray×LeD=>!(qv4 w.B.grace x.2 K'.now==0)));have I:∀x∈(qm7 w.B (w.K.now+e.n)).2,qli w.roles x.conn:=λx X=>by rw[<-A,hl]at X;obtain⟨k,Y,F⟩:=qc21 u.nB X;unfold qad at F;simp only[Aa]at F;exact(u.held k x Y F.1).2
   have J:q401 (qm7 w.B (w.K.now+e.n)).1 K'.now w.roles:=by rw[<-A,hl];exact h6
   generalize qm7 w.B (w.K.now+e.n)=y at I J;obtain⟨B,l⟩:=y;simp only at I J⊢;have F:Bk.Str m {{ w with K:=K'}with B:=B}:=h;obtain⟨v,q⟩:=qg41 l {{ w with K:=K'}with B:=B} F I;have D:=Book.vis (s:={{ w with K:=K'}with B:=B}) J q;obtain⟨Z,g5,g6⟩:=qi31 (f:=Bk.shut) (λs i=>.inr yR) al _ v D;exact⟨0,_,_,_,_,λo _=>by rw[yA (by simp)],qr5.more Z,g5,(q.less.trans g6).talk0 (s:={{ w with K:=K'}with B:=B}) C,λh=>yI yR h⟩
 simp only[yA k6];by_cases k7:e.kind=7
 .simp only[yB k7];generalize qv7 c w.R e.name e.token=y;obtain⟨R,is⟩:=y;simp only;cases is with
  |false=>exact⟨0,{ w with R:=R},3,0,0,λo _=>by rw[yB yR],qr5.more h,Book.keep u yR yR λj E=>E,C,λ_=>qj11.same H yR yR yR yR⟩
  |true=>
   have hlen:=Str.lenN h (by omega)
   obtain⟨v,q,D⟩:=qi31 (m:=m) (f:=λs id=>match qe s.roles id with
    |none=>s
    |some r=>if(r.kind==2&&(decide (r.ten=e.name)&&decide (r.token=e.token)))=A4 then s.shut id else s) (λs i=>by
     split;.exact .inl yR
     .split;.exact .inr yR
      .exact .inl yR) (Bk.ids { w with R:=R}) { w with R:=R} h (Book.keep u yR yR λj E=>E)
   have M:¬1000000<({ w with R:=R}:Bk).N.L.length:=by show ¬1000000<w.N.L.length;omega
   exact⟨0,_,0,0,0,λo _=>by rw[yA (by simp),yA M];rfl,qr5.more v,q,D.talk0 (s:={ w with R:=R}) C,λh=>yI yR h⟩
 simp only[yA k7];unfold qlb;cases b:qe w.B.L e.name with
 |none=>exact⟨0,_,_,_,_,λo _=>by simp only;rw[yB trivial],qr5.more h,u,C,λ_=>H⟩
 |some d=>
  simp only;by_cases F:qv4 w.B.grace d w.K.now=2
  .rw[yB F,yB u.clock];simp only;obtain⟨h3,h4⟩:=qz31 F;have ha:=(u.held e.name d b h3).2;obtain⟨v,q,_⟩:=qq21 (s:={ w with B:={ w.B with L:=qp w.B.L e.name} }) h d (qp21 ha);exact⟨0,_,_,_,_,λo _=>by rw[yA (by simp)],qr5.more v,Book.vis (s:={ w with B:={ w.B with L:=qp w.B.L e.name} }) (qv31 u (q2a _ _)) q,q.less.talk0 (s:={ w with B:={ w.B with L:=qp w.B.L e.name} }) C,λh=>yI yR h⟩
  .rw[yA F];exact⟨0,_,_,_,_,λo _=>by simp only;rw[yB trivial],qr5.more h,u,C,λ_=>H⟩
def qx61(w:Inv m s)(d:m+1<=1000000):∃n s' o,s.step c n e=A0 (s',o)/\Inv (m+1) s':=by
 unfold Bk.step;split;.exact⟨0,s,_,rfl,qr5.more w.str,w.book,w.talk,w.quiet⟩
 split;.exact⟨0,s,_,rfl,qr5.more w.str,w.book,w.talk,w.quiet⟩
 obtain⟨b,f,a,conn,took,q,l,k,i,u⟩:=q771 (c:=c) (e:=e) w d;by_cases h:a=0
 .obtain⟨r,g,k0⟩:=qa41 (c:=c) (m:=m+1) d (bkM f) f (Ai _) l;obtain⟨v,p,j,t⟩:=k0 (max b r) (Bp _ _);have x:=Str.lenS p d;refine⟨max b r,g,⟨0,conn,took,g.outs⟩,?_,p,Rn.book k j,Rn.talk0 j i,t⟩;rw[q _ (Bs _ _)];simp only;rw[yA (by rw[h];simp),v];simp only;rw[yA (by omega)]
 .refine⟨b,f,⟨a,0,0,[]⟩,?_,l,k,i,u h⟩;rw[q _ (Ai _)];simp only;rw[yB h]
end
end
section
structure PQ(s:Bk):Prop where
 rel:∀p∈qtc s.P,∃rv rk,qe s.roles p.1=A0 rv/\qe s.roles p.2=A0 rk/\(∃i z,RQ s rv rk i z)/\∃i z,RQ s rk rv i z
 flu:∀id r,(qe s.P.ends id).isSome=A4->qe s.roles id=A0 r->FQ s r
 end_:∀p∈qtc s.P,∃rv,qe s.roles p.1=A0 rv/\(rv.said=A2\/∃rk,qe s.roles p.2=A0 rk/\rk.said=A2)
structure PSm(s s':Bk):Prop where
 P:s'.P=s.P
 pumps:s'.pumps=s.pumps
 R:∀id,(qe s.P.ends id).isSome=A4->qe s'.roles id=qe s.roles id
 N:∀id,(qe s.P.ends id).isSome=A4->qe s'.N.L id=qe s.N.L id
def PSm.refl(s:Bk):PSm s s:=⟨rfl,rfl,λ_ _=>rfl,λ_ _=>rfl⟩
def PSm.trans{s t u:Bk}(h:PSm s t)(k:PSm t u):PSm s u:=⟨k.P.trans h.P,k.pumps.trans h.pumps,λid hi=>(k.R id (by rw[h.P];exact hi)).trans (h.R id hi),λid hi=>(k.N id (by rw[h.P];exact hi)).trans (h.N id hi)⟩
def qo11{N w:Cn.CT}{id:Int}(h:qe w.L id=qe N.L id){α:Type}(z:α)(r:Cn.CnD->α):w.ask id z r=N.ask id z r:=by unfold Cn.CT.ask;rw[h]
section
variable{m:Int}{s s':Bk}{c:qy}{id:Int}{f t r:q31}{i:Nat}{z:Ri.PS}
def RQ.same(h:RQ s f t i z)(b:s'.pumps=s.pumps)(w:qe s'.N.L f.conn=qe s.N.L f.conn)(a:qe s'.N.L t.conn=qe s.N.L t.conn):RQ s' f t i z:=
 ⟨h.pump,by rw[b];exact h.at_,h.ok,by rw[qo11 w];exact h.inn,by rw[qo11 w,qo11 w];exact h.zz,by rw[qo11 a];exact h.out,by rw[qo11 a];exact h.en⟩
def FQ.same(h:FQ s r)(w:qe s'.N.L r.conn=qe s.N.L r.conn):FQ s' r:=⟨by rw[qo11 w];exact h.went,by rw[qo11 w];exact h.en⟩
def q721(h:s.Str m){p:Int×Int}(g:p∈qtc s.P):p.1≠p.2/\((qe s.P.ends p.1).isSome=A4/\(qe s.P.ends p.2).isSome=A4)/\∃rv w,qe s.roles p.1=A0 rv/\rv.conn=p.1/\qe s.roles p.2=A0 w/\w.conn=p.2:=by obtain⟨b,c⟩:=qz11 h p g;obtain⟨k,a,rv,i,f,n,_⟩:=h.pair _ _ _ c;obtain⟨_,_,w,j,d,l,_⟩:=h.pair _ _ _ a;exact⟨λe=>k e.symm,⟨by rw[c];rfl,by rw[a];rfl⟩,rv,w,f,(h.role _ _ f).conn,d,(h.role _ _ d).conn⟩
def PQ.same(b:PQ s)(h:s.Str m)(k:PSm s s'):PQ s':=by
 refine⟨λp w=>?_,λid r hi hr=>?_,λp w=>?_⟩
 .rw[k.P]at w;obtain⟨_,⟨a,i2⟩,rv,c,l,u,g,n⟩:=q721 h w;obtain⟨x,q,e,d,⟨i,z,o⟩,j,y,v⟩:=b.rel p w;rw[l]at e;cases e;rw[g]at d;cases d;have f:qe s'.N.L rv.conn=qe s.N.L rv.conn:=by rw[u];exact k.N _ a
  have nk:qe s'.N.L c.conn=qe s.N.L c.conn:=by rw[n];exact k.N _ i2
  exact⟨rv,c,(k.R _ a).trans l,(k.R _ i2).trans g,⟨i,z,o.same k.pumps f nk⟩,j,y,v.same k.pumps nk f⟩
 .rw[k.P]at hi;rw[k.R _ hi]at hr;have t:=(h.role _ _ hr).conn;exact(b.flu id r hi hr).same (by rw[t];exact k.N _ hi)
 .rw[k.P]at w;obtain⟨_,⟨a,i2⟩,_⟩:=q721 h w;rw[k.R _ a,k.R _ i2];exact b.end_ p w
def qj11.pq(w:qj11 s)(h:s.Str m):PQ s:=⟨w.rel,λid r _ b=>by have hid:id∈s.ids:=(qv1 leI _).mem_iff.2 (q201.1 (by rw[<-h.same,b];rfl));obtain⟨r',a,c⟩:=w.flu id hid;rw[b]at a;cases a;exact c,w.end_⟩
def PQ.relays(w:PQ s)(h:s.Str m):∀(l:List (Int×Int)) (fl:Bool),(∀p∈l,p∈qtc s.P)->qw1 (Bk.relays c) (s,fl) l=A0 (s,fl)
 |[],fl,_=>rfl
 |p::l,fl,g=>by
  have b:=g p A3;obtain⟨a,_⟩:=q721 h b;obtain⟨rv,o,f,d,⟨i,z,k⟩,j,y,n⟩:=w.rel p b;have e:Bk.relays c (s,fl) p=A0 (s,fl):=by unfold Bk.relays;rw[yA a];simp only;rw[f,d];simp only;rw[k.relay];simp only;rw[n.relay];simp only[Bk.put];rw[qt1 d,qt1 f];simp
  rw[qme,e];exact PQ.relays w h l fl λq w=>g q (A1 _ w)
def q661(g:PQ s)(h:s.Str m){a:Bool}(w:s.flush id=A0 (s',a)):PSm s s':=by
 cases hr:qe s.roles id with
 |none=>unfold Bk.flush at w;rw[hr]at w;cases w
 |some r=>
 have f:=(h.role _ _ hr).conn;by_cases c:(qe s.P.ends id).isSome=A4
 .rw[(g.flu id r c hr).flush (λd i=>h.cred _ _ i) hr]at w;cases w;exact PSm.refl s
 .unfold Bk.flush at w;rw[hr]at w;simp only[A8,Ad]at w;obtain⟨rfl,_⟩:=w;refine⟨rfl,rfl,λj b=>?_,λj b=>?_⟩
  .show qe (qk s.roles id _) j=_;rw[qh2,yA (λe=>c (by rw[e];exact b))]
  .show qe (s.N.upd r.conn Cn.gFlush).L j=_;rw[ql3,yA (λe=>c (by rw[<-f,e];exact b))]
def qr31:∀(l:List Int) (s:Bk) (fl:Bool) (s':Bk) (fl':Bool),PQ s->s.Str m->(∀id∈l,(qe s.N.L id).isSome=A4)->qw1 Bk.flushes (s,fl) l=A0 (s',fl')->PSm s s'
 |[],s,fl,s',fl',_,_,_,w=>by cases w;exact PSm.refl _
 |a::l,s,fl,s',fl',c,h,g,w=>by
  obtain⟨d,i,f,k,n,j⟩:=ql41 h (g a A3);have b:=q661 c h f;have e:Bk.flushes (s,fl) a=A0 (d,i||fl):=by unfold Bk.flushes;rw[f]
  rw[qme,e]at w;exact b.trans (qr31 l d _ s' fl' (c.same h b) k (λid hid=>by rw[j];exact g id (A1 _ hid)) w)
def PQ.ends(a:PQ s)(h:s.Str m):∀(l:List (Int×Int)) (fl:Bool),(∀p∈l,p∈qtc s.P)->qw1 Bk.ends (s,fl) l=A0 (s,fl)
 |[],fl,_=>rfl
 |p::l,fl,d=>by
  have c:=d p A3;obtain⟨b,_⟩:=q721 h c;obtain⟨f,j,w⟩:=a.end_ p c;have e:Bk.ends (s,fl) p=A0 (s,fl):=by
   unfold Bk.ends;rw[yA b];simp only;rw[j];simp only;split;.rfl
   .rename_i k;rcases w with w|⟨i,w,g⟩;.exact yI w k
    .rw[w];simp only;rw[yA (by rw[g];simp)]
  rw[qme,e];exact PQ.ends a h l fl λq a=>d q (A1 _ a)
def qe61(a:PQ s)(h:s.Str m)(k:m<=1000000){fl:Bool}(j:s.round c=A0 (s',fl)):PSm s s'/\Sim s.roles s'.roles/\PQ s'/\s'.Str m:=by obtain⟨q,o,n,r,i,_,l,b,f,e⟩:=qi41 (c:=c) h k;rw[a.relays h _ _ λp w=>w]at i;cases i;have g:=qr31 _ _ _ _ _ a h (λid hid=>q201.2 ((qv1 leI _).mem_iff.1 hid)) l;have d:=a.same h g;rw[e,<-f.P,d.ends b _ _ λp w=>w]at j;cases j;exact⟨g,f.sim,d,b⟩
def qn41(a:m<=1000000):∀(n:Nat) (s:Bk),PQ s->s.Str m->Bk.rounds c n s=A0 s'->s'.P=s.P/\Sim s.roles s'.roles
 |0,s,_,_,w=>by cases w
 |n+1,s,g,h,w=>by
  unfold Bk.rounds at w;cases e:s.round c with
  |none=>rw[e]at w;cases w
  |some x=>
   obtain⟨i,fl⟩:=x;rw[e]at w;simp only at w;obtain⟨d,b,f,l⟩:=qe61 g h a e;split at w
   .obtain⟨j,k⟩:=qn41 a n i f l w;exact⟨j.trans d.P,b.trans k⟩
   .cases w;exact⟨d.P,b⟩
def q571(c:qy)(a:qa6 c.lease=A4):Inv 0 (Bk.new c):=by
 have f:∀{κ ν:Type} [DecidableEq κ] (k:κ),qe ([]:List (κ×ν)) k=Ab:=λk=>rfl;refine⟨?_,?_,λj r d e=>(by cases e),⟨λp w=>(by cases w),λid hid=>(by cases hid),λp w=>(by cases w)⟩⟩;.exact { nN:=Am,nR:=Am,nP:=Am,nS:=Am,nT:=Am,same:=λid=>rfl,role:=λid r h=>(by cases h),pair:=λid o b h=>(by cases h),que:=λy h=>(by cases h),tick:=λt h=>(by cases h),last0:=Bq _,last1:=Bq _,key:=λid h=>(by cases h),sk:=λid h=>(by cases h),cred:=λid d h=>(by cases h),mov:=λz h=>(by cases h)}
 .exact⟨Am,λk d h=>(by cases h),λk d h=>(by cases h),a,rfl⟩
end
end
section
structure NW(v x:Int)(i:Nat)(s:Bk):Prop where
 ne:v≠x
 pv:qe s.P.ends v=A0 (x,A4)
 px:qe s.P.ends x=A0 (v,A2)
 rv:∃r,qe s.roles v=A0 r/\r.pump=A0 i/\r.side=0/\r.due=A2/\r.said=A2
 rx:∃r,qe s.roles x=A0 r/\r.pump=A0 i/\r.side=1
 dx:∀d,qe s.N.L x=A0 d->d.ended=A2
 z:∀z,s.pumps[i]?=A0 z->z.w1.ended=A2
 oth:∀j o b r,qe s.P.ends j=A0 (o,b)->j≠v->j≠x->qe s.roles j=A0 r->r.pump≠A0 i
section
variable{m:Int}{s s':Bk}{c:qy}{id v x:Int}{f t t' r:q31}{i j:Nat}{z:Ri.PS}
def q691(k:Nat)(n:Int)(xs:List UInt8):(z.in_ k n xs).w1.ended=z.w1.ended:=by
 unfold Ri.PS.in_;split;.split<;>rfl
 .rfl
def qz81(n:Int)(h:n=0\/False):(z.end_ n).w1.ended=z.w1.ended:=by
 rcases h with h|h
 .subst h;unfold Ri.PS.end_;split;.rw[yB yR]
  .rfl
 .exact h.elim
def q291(n k:Int):(z.out n k).w1.ended=z.w1.ended:=by
 unfold Ri.PS.out;split;.split<;>rfl
 .rfl
def qh81{a:Bool}(h:s.relay c f t=A0 (s',t',a))(v:f.pump=A0 j)(g:f.side=0\/s.N.ask f.conn A2 (λd=>d.ended)=A2)(o:∀z,s.pumps[i]?=A0 z->z.w1.ended=A2):
 (∀z,s'.pumps[i]?=A0 z->z.w1.ended=A2)/\(j=i->t.side=0->t.due=A2->t'.due=A2):=by
 unfold Bk.relay at h;rw[v]at h;dsimp only at h;cases w:s.pumps[j]? with
 |none=>rw[w]at h;cases h
 |some z0=>
 rw[w]at h;dsimp only at h;generalize s.N.ask f.conn [] (λd=>d.inb.take ((z0.room 256 f.side:Nat):Int).toNat)=inn at h;unfold Bk.relayA Bk.relayB Bk.relayC Bk.relayD at h;have h:=Ac h;generalize l:((s.upd f.conn (Cn.gRest ((z0.room 256 f.side:Nat):Int))).N.ask f.conn 0 (λd=>(d.inb.length:Int))==0&&(s.upd f.conn (Cn.gRest ((z0.room 256 f.side:Nat):Int))).N.ask f.conn A2 λd=>d.ended)=zz at h;have q:f.side=0\/zz=A2:=by
  rcases g with g|g;.exact .inl g
  .refine .inr ?_;have:(s.upd f.conn (Cn.gRest ((z0.room 256 f.side:Nat):Int))).N.ask f.conn A2 (λd=>d.ended)=s.N.ask f.conn A2 λd=>d.ended:=by show(s.N.upd f.conn _).ask f.conn A2 _=_;unfold Cn.CT.ask;rw[ql3,yB yR];cases qe s.N.L f.conn<;>rfl
   rw[this,g,Bool.and_false]at l;exact l.symm
 obtain⟨n,m⟩:∃n,n=(if zz=A4 then(z0.in_ 256 f.side inn).end_ f.side else z0.in_ 256 f.side inn):=⟨_,rfl⟩;have r:n.w1.ended=z0.w1.ended:=by
  rw[m];split
  .rename_i u;rcases q with p|p;.rw[qz81 _ (.inl p),q691]
   .rw[p]at u;cases u
  .rw[q691]
 rw[<-m]at h;generalize (s.upd f.conn (Cn.gRest ((z0.room 256 f.side:Nat):Int))).N.ask t.conn 0 (λd=>((1024 - d.out.length:Nat):Int))=k at h;unfold Bk.relayE at h;simp only[Ad]at h;obtain⟨rfl,rfl,_⟩:=h;refine⟨λy b=>?_,λe A x=>?_⟩
 .change (s.pumps.set j _)[i]?=A0 y at b;rw[Bm]at b;split at b
  .rename_i e;subst e;split at b
   .cases b;rw[q291,r];exact o z0 w
   .cases b
  .exact o y b
 .subst e;show(t.due||n.outE t.side k)=A2;rw[x,A];unfold Ri.PS.outE Ri.PS.to Ri.Way.end_;rw[yB yR,r,o z0 w];simp
def qf81{fl fl':Bool}{p:Int×Int}(h:s.Str m)(g:NW v x i s)(R:∃b,qe s.P.ends p.1=A0 (p.2,b))(Z:p=(v,x)\/(p.1≠v/\p.1≠x/\p.2≠v/\p.2≠x))(w:Bk.relays c (s,fl) p=A0 (s',fl')):NW v x i s':=by
 obtain⟨b,hb⟩:=R;obtain⟨h1,h2,rv,i1,H,h34,G,h36⟩:=h.pair _ _ _ hb;obtain⟨_,_,rk,j1,M,h44,K,h46⟩:=h.pair _ _ _ h2;have cv:=(h.role _ _ H).conn;have ck:=(h.role _ _ M).conn;have V:=q861 w;unfold Bk.relays at w;rw[yA (λe=>h1 e.symm)]at w;simp only at w;rw[H,M]at w;simp only at w;cases e1:s.relay c rv rk with
 |none=>rw[e1]at w;cases w
 |some y=>
 obtain⟨U,k,a1⟩:=y;rw[e1]at w;simp only at w;cases e2:U.relay c k rv with
 |none=>rw[e2]at w;cases w
 |some y=>
 obtain⟨l,B,a2⟩:=y;rw[e2]at w;simp only[A8,Ad]at w;obtain⟨rfl,_⟩:=w;obtain⟨g1,⟨g2,g3,_⟩,d1,E⟩:=qf41 h e1;obtain⟨q1,⟨q2,q3,_⟩,d2,P⟩:=qf41 g1 e2;have Y:k.pump=A0 j1:=by rw[E];exact K
 have I:l.P=s.P:=q3.trans g3;have hR:l.roles=s.roles:=q2.trans g2;have get:∀j,qe (qk (qk l.roles p.2 k) p.1 B) j=if p.1=j then A0 B else if p.2=j then A0 k else qe s.roles j:=λj=>by rw[qh2,qh2,hR]
 have L:∀d,qe l.N.L x=A0 d->d.ended=A2:=λd hd=>by obtain⟨d0,k,X⟩:=V.1 x d hd;rw[X];exact g.dx d0 k
 have u:∀j o b r,qe l.P.ends j=A0 (o,b)->j≠v->j≠x->qe (qk (qk l.roles p.2 k) p.1 B) j=A0 r->r.pump≠A0 i:=λj o b r n C F w=>by
  rw[I]at n;rw[get]at w;split at w;.rename_i e;subst e;cases w;rw[P];exact g.oth _ _ _ rv n C F H
  .split at w;.rename_i e;subst e;cases w;rw[E];exact g.oth _ _ _ rk n C F M
   .exact g.oth _ _ _ _ n C F w
 rcases Z with rfl|⟨C,F,n3,n4⟩
 .obtain⟨N,q,D,W,r4,r5⟩:=g.rv;have q:qe s.roles v=A0 N:=q;rw[H]at q;cases q;obtain⟨y0,y1,y2,y3⟩:=g.rx;rw[M]at y1;cases y1;have hxn:U.N.ask k.conn A2 (λd=>d.ended)=A2:=by
   have ec:k.conn=x:=by rw[E];exact ck
   rw[ec];unfold Cn.CT.ask;cases hd:qe U.N.L x with
   |none=>rfl
   |some d=>obtain⟨d0,k,X⟩:=(q451 e1).1 x d hd;show d.ended=A2;rw[X];exact g.dx d0 k
  have w1:=qh81 e1 D (.inl W) g.z;have O:=qh81 e2 (j:=i) (by rw[E];exact y2) (.inr hxn) w1.1;have J:=O.2 yR W r4;refine⟨g.ne,by rw[show(Bk.put (Bk.put l x k) v B).P=l.P from rfl,I];exact g.pv,by rw[show(Bk.put (Bk.put l x k) v B).P=l.P from rfl,I];exact g.px,⟨B,?_,by rw[P];exact D,by rw[P];exact W,J,by rw[P];exact r5⟩,⟨k,?_,by rw[E];exact y2,by rw[E];exact y3⟩,L,O.1,u⟩;.exact(get v).trans (yB yR)
  .exact(get x).trans (by rw[yA g.ne,yB yR])
 .have h0:i1≠i:=λe=>g.oth _ _ _ _ hb C F H (by rw[G,e]);have T:j1≠i:=λe=>g.oth _ _ _ _ h2 n3 n4 M (by rw[K,e]);have A:∀{s s':Bk} {f t t':q31} {a:Bool} {j:Nat},s.relay c f t=A0 (s',t',a)->f.pump=A0 j->j≠i->(∀z,s.pumps[i]?=A0 z->z.w1.ended=A2)->∀z,s'.pumps[i]?=A0 z->z.w1.ended=A2:=λ{s s' f t t' a j} w R n hz=>by
   unfold Bk.relay at w;rw[R]at w;dsimp only at w;split at w;.cases w
   unfold Bk.relayA Bk.relayB Bk.relayC Bk.relayD Bk.relayE at w;simp only[A8,Ad]at w;obtain⟨rfl,_⟩:=w;intro y Q;have Q:(s.pumps.set j _)[i]?=A0 y:=Q;rw[Bm,yA n]at Q;exact hz y Q
  have w1:=A e1 G h0 g.z;have O:=A e2 Y T w1;have old:∀j,j=v\/j=x->qe (qk (qk l.roles p.2 k) p.1 B) j=qe s.roles j:=λj n=>by
   rw[get,yA,yA]
   .rintro rfl;rcases n with e|e;.exact n3 e
    .exact n4 e
   .rintro rfl;rcases n with e|e;.exact C e
    .exact F e
  refine⟨g.ne,?_,?_,?_,?_,L,O,u⟩;.show qe l.P.ends v=_;rw[I];exact g.pv
  .show qe l.P.ends x=_;rw[I];exact g.px
  .obtain⟨N,q,D⟩:=g.rv;exact⟨N,(old v (.inl yR)).trans q,D⟩
  .obtain⟨N,q,D⟩:=g.rx;exact⟨N,(old x (.inr yR)).trans q,D⟩
def qq81(h:s.Str m)(a:NW v x i s):∀p∈qtc s.P,p=(v,x)\/(p.1≠v/\p.1≠x/\p.2≠v/\p.2≠x):=λp k=>by
 obtain⟨u,n,rfl⟩:=Af.1 k;obtain⟨y,c,rfl⟩:=Af.1 ((qv1 leI _).mem_iff.1 n);obtain⟨c,j⟩:=Ao.1 c;have e:=q24 h.nP c;obtain⟨b,f,o⟩:=y;simp only at j e;subst j;obtain⟨_,g,_⟩:=h.pair b f A4 e;have l:qb4 s.P b=f:=by unfold qb4;rw[e];rfl
 simp only[l];by_cases d:b=v
 .subst d;rw[a.pv]at e;cases e;exact .inl yR
 .refine .inr ⟨d,λw=>?_,λw=>?_,λw=>?_⟩;.rw[w,a.px]at e;cases e
  .rw[w,a.pv]at g;cases g
  .rw[w,a.px]at g;cases g;exact d yR
def q391:∀(l:List (Int×Int)) (s:Bk) (fl:Bool) (s':Bk) (fl':Bool),s.Str m->NW v x i s->(∀p∈l,p∈qtc s.P)->qw1 (Bk.relays c) (s,fl) l=A0 (s',fl')->NW v x i s'
 |[],s,fl,s',fl',_,w,_,d=>by cases d;exact w
 |p::l,s,fl,s',fl',h,w,k,d=>by have e:=k p A3;obtain⟨b,f⟩:=qz11 h p e;obtain⟨j,g,a,r,o⟩:=qr51 (c:=c) (fl:=fl) h f;have a:Bk.relays c (s,fl) p=A0 (j,g):=a;rw[qme,a]at d;exact q391 l j g s' fl' r (qf81 h w ⟨b,f⟩ (qq81 h w p e) a) (λq n=>by rw[o.P];exact k q (A1 _ n)) d
def qg81{a:Bool}(h:s.Str m)(c:NW v x i s)(g:s.flush id=A0 (s',a)):NW v x i s':=by
 have t:EK s.N s'.N:=qq51 (fl:=A2) (fl':=a||A2) (id:=id) (by unfold Bk.flushes;rw[g]);unfold Bk.flush at g;cases hr:qe s.roles id with
 |none=>rw[hr]at g;cases g
 |some r=>
 rw[hr]at g;simp only[A8,Ad]at g;obtain⟨rfl,_⟩:=g;have w:(Bk.flushR r (s.flushE r)).pump=r.pump/\(Bk.flushR r (s.flushE r)).side=r.side:=by unfold Bk.flushR;split<;>exact⟨rfl,rfl⟩
 have k:r.due=A2->Bk.flushR r (s.flushE r)=r:=λu=>by unfold Bk.flushR Bk.flushE;rw[u,Bu,yA (by simp)]
 obtain⟨K,n,C,B,l,D⟩:=c.rv;obtain⟨I,p,y,A⟩:=c.rx;have get:∀j,qe (qk s.roles id (Bk.flushR r (s.flushE r))) j=if id=j then A0 (Bk.flushR r (s.flushE r))else qe s.roles j:=λj=>qh2 _ _ _ _
 refine⟨c.ne,c.pv,c.px,?_,?_,λd u=>?_,c.z,λj o b q F z E G=>?_⟩
 .by_cases e:id=v
  .subst e;rw[hr]at n;cases n;exact⟨_,(get id).trans (yB yR),by rw[w.1];exact C,by rw[w.2];exact B,by rw[k l];exact l,by rw[k l];exact D⟩
  .exact⟨K,(get v).trans ((yA e).trans n),C,B,l,D⟩
 .by_cases e:id=x
  .subst e;rw[hr]at p;cases p;exact⟨_,(get id).trans (yB yR),by rw[w.1];exact y,by rw[w.2];exact A⟩
  .exact⟨I,(get x).trans ((yA e).trans p),y,A⟩
 .obtain⟨d0,L,J⟩:=t.1 x d u;rw[J];exact c.dx d0 L
 .have f:(if id=j then A0 (Bk.flushR r (s.flushE r))else qe s.roles j)=A0 q:=(get j).symm.trans G;by_cases e:id=j
  .rw[yB e]at f;have H:=Ac f;rw[<-H,w.1];exact c.oth j o b r F z E (by rw[<-e];exact hr)
  .rw[yA e]at f;exact c.oth j o b q F z E f
def qv81:∀(l:List Int) (s:Bk) (fl:Bool) (s':Bk) (fl':Bool),s.Str m->NW v x i s->(∀id∈l,(qe s.N.L id).isSome=A4)->qw1 Bk.flushes (s,fl) l=A0 (s',fl')->NW v x i s'
 |[],s,fl,s',fl',_,w,_,k=>by cases k;exact w
 |a::l,s,fl,s',fl',h,w,f,b=>by
  obtain⟨c,j,d,n,o,g⟩:=ql41 h (f a A3);have e:Bk.flushes (s,fl) a=A0 (c,j||fl):=by unfold Bk.flushes;rw[d]
  rw[qme,e]at b;exact qv81 l c _ s' fl' n (qg81 h w d) (λid hid=>by rw[g];exact f id (A1 _ hid)) b
def qn81:∀(l:List (Int×Int)) (s:Bk) (fl:Bool) (s':Bk) (fl':Bool),s.Str m->NW v x i s->(∀p∈l,(∃b,qe s.P.ends p.1=A0 (p.2,b))/\(p=(v,x)\/(p.1≠v/\p.1≠x/\p.2≠v/\p.2≠x)))->l.Pairwise qo51->qw1 Bk.ends (s,fl) l=A0 (s',fl')->NW v x i s'
 |[],s,fl,s',fl',_,w,_,_,hr=>by cases hr;exact w
 |p::l,s,fl,s',fl',h,w,L,B,f=>by
  obtain⟨g,C⟩:=Ay.1 B;obtain⟨⟨b,D⟩,G⟩:=L p A3;obtain⟨V,M,rv,i1,J,h34,_⟩:=h.pair _ _ _ D;obtain⟨_,_,rk,j1,h4,Q,_⟩:=h.pair _ _ _ M;rw[qme]at f;cases e:Bk.ends (s,fl) p with
  |none=>rw[e]at f;cases f
  |some y=>
  obtain⟨u,Z⟩:=y;rw[e]at f;simp only at f;have step:u.Str m/\NW v x i u/\∀q∈l,qe u.P.ends q.1=qe s.P.ends q.1:=by
   unfold Bk.ends at e;rw[yA (λe=>V e.symm)]at e;simp only at e;rw[J]at e;simp only at e;split at e;.cases e;exact⟨h,w,λ_ _=>rfl⟩
   .rename_i U;rw[h4]at e;simp only at e;split at e
    .cases e;rcases G with rfl|⟨W,n2,n3,X⟩
     .obtain⟨r,c,_,_,_,r5⟩:=w.rv;have c:qe s.roles v=A0 r:=c;rw[J]at c;cases c;exact yI r5 U
     .obtain⟨g1,H,_⟩:=qk11 h p.1;obtain⟨_,_,A⟩:=qn31 h D;have N:=A v (λe=>W e.symm) λe=>n3 e.symm;have P:=A x (λe=>n2 e.symm) λe=>X e.symm;refine⟨g1,⟨w.ne,N.1.trans w.pv,P.1.trans w.px,?_,?_,λd hd=>?_,λz hz=>w.z z (by rw[<-H.pumps];exact hz),λj o b q O t n a=>?_⟩,λq a=>(A q.1 (g q a).1 (g q a).2.1).1⟩
      .obtain⟨r,c,F⟩:=w.rv;exact⟨r,N.2.trans c,F⟩
      .obtain⟨r,c,F⟩:=w.rx;exact⟨r,P.2.trans c,F⟩
      .obtain⟨d0,t,n,_⟩:=H.E x d hd;rw[n];exact w.dx d0 t
      .rcases H.R j with k|k
       .rw[k]at a;obtain⟨o',b',E⟩:∃o b,qe s.P.ends j=A0 (o,b):=by
         by_cases I:j=p.1;.rw[I];exact⟨_,_,D⟩
         .by_cases K:j=p.2;.rw[K];exact⟨_,_,M⟩
          .rw[(A j I K).1]at O;exact⟨_,_,O⟩
        exact w.oth _ _ _ _ E t n a
       .rw[k]at a;cases a
    .cases e;exact⟨h,w,λ_ _=>rfl⟩
  obtain⟨t,n,T⟩:=step;exact qn81 l u Z s' fl' t n (λq a=>by obtain⟨R,Y⟩:=L q (A1 _ a);exact⟨by rw[T q a];exact R,Y⟩) C f
def q891(h:s.Str m)(g:m<=1000000)(b:NW v x i s){fl:Bool}(f:s.round c=A0 (s',fl)):NW v x i s':=by obtain⟨z,B,A,y,d,_,j,o,q,e⟩:=qi41 (c:=c) h g;obtain⟨t,n,w,k,u⟩:=qe21 (c:=c) (qtc s.P) s A2 h (qz11 h);rw[d]at w;cases w;have l:=q391 _ _ _ _ _ h b (λp a=>a) d;have r:=qv81 _ _ _ _ _ k l (λid hid=>q201.2 ((qv1 leI _).mem_iff.1 hid)) j;rw[e]at f;exact qn81 _ _ _ _ _ o r (λp a=>⟨by rw[q.P];exact qz11 h p a,qq81 h b p a⟩) (q941 h) f
def qi81(h:s.Str m)(A:m<=1000000)(i:qe s.P.ends x=Ab)(w:(qe s.roles x).isSome=A4){fl:Bool}(t:s.round c=A0 (s',fl)):qe s'.P.ends x=Ab/\(qe s'.roles x).isSome=A4:=by
 obtain⟨C,D,N,K,I,_,J,g,o,e⟩:=qi41 (c:=c) h A;rw[e]at t;have key:∀(l:List (Int×Int)) (s:Bk) (fl:Bool) (s':Bk) (fl':Bool),s.Str m->(∀p∈l,∃b,qe s.P.ends p.1=A0 (p.2,b))->l.Pairwise qo51->qe s.P.ends x=Ab->(qe s.roles x).isSome=A4->qw1 Bk.ends (s,fl) l=A0 (s',fl')->qe s'.P.ends x=Ab/\(qe s'.roles x).isSome=A4:=by
  intro l;induction l with
  |nil=>intro s fl s' fl' _ _ _ n g he;cases he;exact⟨n,g⟩
  |cons p l ih=>
   intro s fl s' fl' h hl hap i w he;obtain⟨k,f⟩:=Ay.1 hap;obtain⟨b,j⟩:=hl p A3;obtain⟨n,g,rv,H,B,G,_⟩:=h.pair _ _ _ j;obtain⟨_,_,M,L,E,v,_⟩:=h.pair _ _ _ g;rw[qme]at he;cases e:Bk.ends (s,fl) p with
   |none=>rw[e]at he;cases he
   |some y=>
   obtain⟨C,D⟩:=y;rw[e]at he;simp only at he;unfold Bk.ends at e;rw[yA (λe=>n e.symm)]at e;simp only at e;rw[B]at e;simp only at e;split at e;.cases e;exact ih _ _ _ _ h (λq a=>hl q (A1 _ a)) f i w he
   .rw[E]at e;simp only at e;split at e
    .cases e;obtain⟨F,_,_⟩:=qk11 h p.1;obtain⟨_,_,u⟩:=qn31 h j;have r:=u x (λe=>by rw[<-e,i]at j;cases j) λe=>by rw[<-e,i]at g;cases g
     exact ih _ _ _ _ F (λq a=>by rw[(u q.1 (k q a).1 (k q a).2.1).1];exact hl q (A1 _ a)) f (r.1.trans i) (by rw[r.2];exact w) he
    .cases e;exact ih _ _ _ _ h (λq a=>hl q (A1 _ a)) f i w he
 refine key _ _ _ _ _ g (λp z=>by rw[o.P];exact qz11 h p z) (q941 h) (by rw[o.P];exact i) ?_ t;obtain⟨q,a⟩:=A6.1 w;obtain⟨b,d,j⟩:=(o.sim x).2 q a;rw[j];rfl
def qu81(a:m<=1000000):∀(n:Nat) (s:Bk),s.Str m->((∃v i,NW v x i s)\/qe s.P.ends x=Ab/\(qe s.roles x).isSome=A4)->Bk.rounds c n s=A0 s'->(qe s'.roles x).isSome=A4
 |0,s,_,_,w=>by cases w
 |n+1,s,h,o,w=>by
  unfold Bk.rounds at w;cases e:s.round c with
  |none=>rw[e]at w;cases w
  |some y=>
   obtain⟨b,fl⟩:=y;rw[e]at w;simp only at w;obtain⟨j,fl',e',p,_⟩:=qo81 (c:=c) h a;rw[e]at e';cases e';have k:(∃v i,NW v x i b)\/qe b.P.ends x=Ab/\(qe b.roles x).isSome=A4:=by
    rcases o with ⟨v,i,d⟩|⟨g,f⟩
    .exact .inl ⟨v,i,q891 h a d e⟩
    .exact .inr (qi81 h a g f e)
   split at w;.exact qu81 a n b p k w
   .cases w;rcases k with ⟨v,i,d⟩|⟨_,f⟩
    .obtain⟨q,l,_⟩:=d.rx;rw[l];rfl
    .exact f
end
end
section
def qm11(s:Bk)(name:ByteArray):Bool:=(q3h s.B.L).any λd=>decide (d.name=name)&&d.held
section
variable{m:Int}{s s':Bk}{c:qy}{id x:Int}{r:q31}{e:EvD}
def qz51(I:Inv m s)(M:m+1<=1000000)(hk:e.kind=8):∃n s' o,s.step c n e=A0 (s',o)/\Inv (m+1) s'/\s'.P=s.P/\
 (qm11 s e.name=A4/\o.err=0/\(∀d∈q3h s'.B.L,d.name≠e.name)/\Qu.gL s'.Q e.name=[]\/qm11 s e.name=A2/\o.err=3):=by
 have A:=I.book;obtain⟨w,f⟩:∃w:Bk,w={ s with S:=[]}:=⟨_,rfl⟩
 have D:∀n,s.step c n e=(match qlb w.B e.name w.K.now with
  |(B,x,T)=>if T=A2 then A0 (({ w with B:=B}:Bk),(⟨3,0,0,[]⟩:qra))else
   match (({ w with B:=B}:Bk).gone x).rounds c n with
   |none=>Ab
   |some s=>if 1000000<s.S.length then Ab else A0 (s,⟨0,0,0,s.outs⟩)):=λn=>by
  unfold Bk.step;rw[yA (by omega),yA (by omega)];unfold Bk.act;rw[yA (by omega),yA (by omega),yA (by omega),yA (by omega),yA (by omega),yA (by omega),yA (by omega),<-f];generalize qlb w.B e.name w.K.now=y;obtain⟨B,x,T⟩:=y;cases T<;>rfl
 have E:w.B=s.B:=by rw[f]
 have eK:w.K=s.K:=by rw[f]
 have eP:w.P=s.P:=by rw[f]
 have eR:w.roles=s.roles:=by rw[f]
 have h:w.Str m:=by rw[f];exact Str.clear I.str
 have g:w.Book:=Book.keep A E (by rw[eK]) λj hj=>by rw[eR];exact hj
 have hq:qj11 w:=by rw[f];exact qj11.same I.quiet yR yR yR yR
 have ht:ql11 w:=by rw[f];exact I.talk
 have no:qlb w.B e.name w.K.now=(w.B,zeL,A2)->qm11 s e.name=A2->∃n s' o,s.step c n e=A0 (s',o)/\Inv (m+1) s'/\s'.P=s.P/\
  (qm11 s e.name=A4/\o.err=0/\(∀d∈q3h s'.B.L,d.name≠e.name)/\Qu.gL s'.Q e.name=[]\/qm11 s e.name=A2/\o.err=3):=λhK hh=>by
  refine⟨0,w,⟨3,0,0,[]⟩,?_,⟨qr5.more h,g,ht,hq⟩,eP,.inr ⟨hh,rfl⟩⟩;rw[D,hK];rfl
 cases r:qe w.B.L e.name with
 |none=>refine no (by unfold qlb;rw[r]) ?_;unfold qm11;rw[Bn];intro d l;obtain⟨k,a,_⟩:=qc21 (so:=λ_=>A4) (df:=λd=>d) A.nB l;have:=A.name k d a;rw[Aa,yJ];rintro⟨N,_⟩;rw[<-this,N,<-E,r]at a;cases a
 |some d=>
  by_cases J:qv4 w.B.grace d w.K.now=2
  .have X:qlb w.B e.name w.K.now=({ w.B with L:=qp w.B.L e.name},d,A4):=by unfold qlb;rw[r];simp only;rw[yB J,yB g.clock]
   obtain⟨h3,h4⟩:=qz31 J;have hn:=g.name _ _ r;have ha:=(g.held e.name d r h3).2;obtain⟨u,z⟩:∃u:Bk,u={ w with B:={ w.B with L:=qp w.B.L e.name} }:=⟨_,rfl⟩;have p:u.Str m:=by rw[z];exact h
   have U:u.Book:=by rw[z];exact qv31 g (q2a _ _)
   have huq:qj11 u:=by rw[z];exact qj11.same hq yR yR yR yR
   have P:u.roles=w.roles:=by rw[z]
   have Y:∀q,qe u.roles d.conn=A0 q->q.kind≠4:=by rw[P];exact qp21 ha
   obtain⟨g1,t,Q⟩:=qq21 p d Y;rw[hn]at Q;obtain⟨v,hv⟩:∃v:Bk,v=u.gone d:=⟨_,rfl⟩;rw[<-hv]at g1 t Q;have pm:PSm u v:=⟨t.P,t.pumps,λid hid=>by
    obtain⟨⟨o,b⟩,ho⟩:=A6.1 hid;obtain⟨_,_,q,i,C,F,_⟩:=p.pair id o b ho;rw[C];exact t.stays C (by omega),λid hid=>by
    obtain⟨⟨o,b⟩,ho⟩:=A6.1 hid;obtain⟨_,_,q,i,C,F,_⟩:=p.pair id o b ho;exact t.N id q C F⟩
   have pq:=(huq.pq p).same p pm;obtain⟨n2,W,k0⟩:=qa41 (c:=c) (m:=m+1) M (bkM v) v (Ai _) (qr5.more g1);obtain⟨C,F,G,k4⟩:=k0 n2 (Ai _);have hl:=Str.lenS F M;obtain⟨p1,p2⟩:=qn41 M n2 v pq (qr5.more g1) C;refine⟨n2,W,⟨0,0,0,W.outs⟩,?_,⟨F,Rn.book (Book.vis U t) G,?_,k4⟩,?_,.inl ⟨?_,rfl,?_,?_⟩⟩
   .rw[D,X];simp only;rw[yA (by simp),<-z,<-hv,C];simp only;rw[yA (by omega)]
   .refine Rn.talk0 G (t.less.talk0 ?_);rw[z];exact ht
   .rw[p1,t.P,z];exact eP
   .unfold qm11;rw[Ba];refine⟨d,qm41 (so:=λ_=>A4) (df:=λd=>d) A.nB (k:=e.name) (by rw[<-E];exact r) yR,?_⟩;rw[hn,h3];simp
   .intro V l H;have O:W.B.L=qp w.B.L e.name:=by rw[G.B,t.B,z]
    rw[O]at l;have Z:((qp w.B.L e.name).map (·.1)).Nodup:=qph g.nB _;obtain⟨k,a,_⟩:=qc21 (so:=λ_=>A4) (df:=λd=>d) Z l;rw[qaa g.nB]at a;split at a;.cases a
    .rename_i R;exact R (by rw[<-g.name k V a,H])
   .rw[G.Q];exact Q
  .refine no (by unfold qlb;rw[r];simp only;rw[yA J]) ?_;unfold qm11;rw[Bn];intro V l;obtain⟨k,a,_⟩:=qc21 (so:=λ_=>A4) (df:=λd=>d) A.nB l;have K:=A.name k V a;rw[Aa,yJ];rintro⟨N,H⟩;rw[<-K,N,<-E,r]at a;cases a;have:=(A.held e.name d (by rw[<-E];exact r) H).1;apply J;unfold qv4;rw[H,yB yR,eK,yB this]
def ql81(P:qd6)(v x:Int)(b:v≠x)(px:qe P.ends x=Ab):qe (q4g P v x).1.ends x=Ab/\(q4g P v x).1=P\/qe (q4g P v x).1.ends v=A0 (x,A4)/\qe (q4g P v x).1.ends x=A0 (v,A2)/\∀j,j≠v->j≠x->qe (q4g P v x).1.ends j=qe P.ends j:=by
 rcases q641 P v x with h|h;.exact .inl ⟨by rw[h];exact px,h⟩
 .rw[h];refine .inr ⟨?_,?_,λj w a=>?_⟩;.rw[qh2,yA (λe=>b e.symm),qh2,yB yR]
  .rw[qh2,yB yR]
  .rw[qh2,yA (λe=>a e.symm),qh2,yA (λe=>w e.symm)]
def q491(y:Inv m s)(hm:m+1<=1000000)(hk:e.kind=2)(hr:qe s.roles e.conn=A0 r)(hrk:r.kind=1\/r.kind=2):∃n s' o,s.step c n e=A0 (s',o)/\Inv (m+1) s'/\o.err=0/\(qe s'.roles e.conn=Ab->
 s'.P=s.P/\(∀j r,j≠e.conn->qe s.roles j=A0 r->r.kind≠3->∃b d,qe s'.roles j=A0 { r with due:=b,said:=d})/\∀j,(qe s'.N.L j).isSome=A4->(qe s.N.L j).isSome=A4):=by
 have hN:(qe s.N.L e.conn).isSome=A4:=by rw[<-y.str.same,hr];rfl
 obtain⟨dx,J⟩:=A6.1 hN;have hdn:=y.talk _ _ _ hr hrk J;obtain⟨l,w⟩:∃l:Bk,l={ s with S:=[]}:=⟨_,rfl⟩;have eB:l.B=s.B:=by rw[w]
 have eK:l.K=s.K:=by rw[w]
 have eP:l.P=s.P:=by rw[w]
 have eR:l.roles=s.roles:=by rw[w]
 have eN:l.N=s.N:=by rw[w]
 have ep:l.pumps=s.pumps:=by rw[w]
 have h:l.Str m:=by rw[w];exact Str.clear y.str
 have hb:l.Book:=Book.keep y.book eB (by rw[eK]) λj A=>by rw[eR];exact A
 have f:qj11 l:=by rw[w];exact qj11.same y.quiet yR yR yR yR
 have ht:ql11 l:=by rw[w];exact y.talk
 have hst:∀n,s.step c n e=(match (l.upd e.conn (Cn.gFeed (qm e.b))).read c n e.conn e.draw with
  |none=>Ab
  |some s=>match s.rounds c n with
   |none=>Ab
   |some s=>if 1000000<s.S.length then Ab else A0 (s,⟨0,0,l.ask e.conn 0 (Cn.rFeed (qm e.b)),s.outs⟩)):=λn=>by
  unfold Bk.step;rw[yA (by omega),yA (λh=>by have O:=h.2.2;unfold Bk.ask at O;rw[q54 J]at O;cases O)]
  unfold Bk.act;rw[yA (by omega),yB hk,<-w];cases (l.upd e.conn (Cn.gFeed (qm e.b))).read c n e.conn e.draw<;>rfl
 obtain⟨g,hg⟩:∃g,g=Cn.gFeed (qm e.b):=⟨_,rfl⟩;have gc:∀d,(g d).credit=d.credit/\(g d).ended=d.ended:=λd=>by rw[hg];unfold Cn.gFeed;split<;>exact⟨rfl,rfl⟩
 obtain⟨u,N⟩:∃u:Bk,u=l.upd e.conn g:=⟨_,rfl⟩;have T:u.P=s.P:=by rw[N];exact eP
 have U:u.pumps=s.pumps:=by rw[N];exact ep
 have p:u.roles=s.roles:=by rw[N];exact eR
 have K:∀j,qe u.N.L j=if e.conn=j then(qe s.N.L j).map g else qe s.N.L j:=λj=>by rw[N];show qe (l.N.upd e.conn g).L j=_;rw[ql3,eN]
 have hus:u.Str m:=by rw[N];exact qr5.upd h e.conn λd F=>by rw[(gc d).1];exact F
 have hub:u.Book:=by rw[N];exact Book.keep hb yR yR λj A=>A
 have hut:Talk e.conn u:=λj q d hx f hk F=>by rw[K,yA (λe=>hx e.symm)]at F;rw[p]at f;exact y.talk j q d f hk F
 have I:qe s.P.ends e.conn=Ab:=qa21 y.str hr (by omega);obtain⟨Z,M,g0,g1,g2,g3,g4⟩:=q071 (c:=c) e.draw ((u.N.ask e.conn 0 λd=>d.inb.length)+1) u (λd F=>by rw[q54 F];omega) hus hub hut;obtain⟨Y,s2,k0⟩:=qa41 (c:=c) (m:=m+1) hm (bkM M) M (Ai _) (qr5.more g1);obtain⟨R,V,k3,k4⟩:=k0 (max Z Y) (Bp _ _);have hl:=Str.lenS V hm;refine⟨max Z Y,s2,⟨0,0,l.ask e.conn 0 (Cn.rFeed (qm e.b)),s2.outs⟩,?_,⟨V,Rn.book g2 k3,Rn.talk0 k3 g3,k4⟩,rfl,λhx=>?_⟩
 .rw[hst,<-hg,<-N,g0 _ (Bs _ _)];simp only;rw[R];simp only;rw[yA (by omega)]
 have W:∀id,(qe s.P.ends id).isSome=A4->id≠e.conn/\∃q,qe s.roles id=A0 q/\q.kind=4:=λid hid=>by refine⟨λe=>(by rw[e,I]at hid;cases hid),?_⟩;obtain⟨⟨o,b⟩,ho⟩:=A6.1 hid;obtain⟨_,_,q,i,R,V,_⟩:=y.str.pair id o b ho;exact⟨q,R,V⟩
 rcases g4 with E|⟨v,t,E,B⟩
 ·
  have G:∀j q,j≠e.conn->qe s.roles j=A0 q->q.kind≠3->qe M.roles j=A0 q:=λj q A f L=>by
   rcases E.R j A with k|⟨k,q2,k5,k6⟩;.rw[k,p];exact f
   .rw[p,f]at k5;cases k5;exact yI k6 L
  have pm:PSm s M:=⟨E.P.trans T,E.pumps.trans U,λid hid=>by
   obtain⟨C,q,H,O⟩:=W id hid;rw[H];exact G id q C H (by omega),λid hid=>by
   obtain⟨C,q,H,O⟩:=W id hid;rw[E.N id q C (by rw[p];exact H) O,K,yA (λe=>C e.symm)]⟩
  have pq:=(y.quiet.pq y.str).same y.str pm;obtain⟨p1,p2⟩:=qn41 hm (max Z Y) M pq (qr5.more g1) R;refine⟨p1.trans pm.P,λj q A f L=>(p2 j).2 q (G j q A f L),λj A=>?_⟩;by_cases ej:j=e.conn;.rw[ej];exact hN
  rw[<-V.same]at A;rw[<-y.str.same];cases C:qe M.roles j with
  |none=>rw[(p2 j).1 C]at A;cases A
  |some q=>
   rcases E.R j ej with k|⟨k,_⟩;.rw[<-p,<-k,C];rfl
   .rw[k]at C;cases C
 ·
  exfalso;have Q:t.P=s.P:=E.P.trans T;have htp:t.pumps=s.pumps:=E.pumps.trans U;have D:=qu81 (c:=c) (x:=e.conn) hm (max Z Y) M (qr5.more g1) ?_ R;.rw[hx]at D;cases D
  obtain⟨pv,hpv⟩:=B.rv;obtain⟨px,P⟩:=B.rx;have hv0:qe s.P.ends v=Ab:=by
   obtain⟨q,f,hq3⟩:=B.vis;rcases E.R v B.ne with k|⟨k,_⟩
   .rw[k,p]at f;exact qa21 y.str f (by omega)
   .rw[k]at f;cases f
  rcases ql81 t.P v e.conn B.ne (by rw[Q];exact I)with ⟨j1,j2⟩|⟨j1,j2,j3⟩
  .exact .inr ⟨by rw[B.P];exact j1,by rw[P];rfl⟩
  .refine .inl ⟨v,t.pumps.length,B.ne,by rw[B.P];exact j1,by rw[B.P];exact j2,⟨_,hpv,rfl,rfl,rfl,rfl⟩,⟨_,P,rfl,rfl⟩,λd F=>?_,λz hz=>?_,λj o b q A C H f=>?_⟩
   .rw[B.N]at F;obtain⟨d0,X,e2⟩:=E.E _ d F;rw[K,yB yR,J]at X;cases X;rw[e2,(gc dx).2];exact hdn
   .rw[B.pumps,List.getElem?_append_right (Ai _)]at hz;simp at hz;subst hz;rfl
   .rw[B.P,j3 j C H,Q]at A;obtain⟨_,_,q2,i2,X,e2,e3,e4⟩:=y.str.pair j o b A;rw[B.R j H C]at f;rcases E.R j H with k|⟨k,_⟩
    .rw[k,p,X]at f;cases f;rw[e3,htp];intro e5;cases e5;omega
    .rw[k]at f;cases f
end
end
section
def qs61{α:Type}{l:List α}{i:Nat}{x:α}(f:α->Bool)(h:l[i]?=A0 x):(l.take (i+1)).any f=((l.take i).any f||f x):=by rw[Bo,h,List.any_append];simp
def qh61(P:qd6):(qw4 P).length<=P.ends.length:=by unfold qw4;rw[(qv1 leI _).length_eq,B5];exact List.length_filter_le _ _
section
variable{W w:World}{F:List Asn}{c:qy}
def ql1.b13{a0 b a2 a3 a4 a5 f d e a9 w a:Asn}(h:ql1 F c):ql1 (a0::b::a2::a3::a4::a5::f::d::e::a9::w::a::F) c:=(((((((((((h.cons _).cons _).cons _).cons _).cons _).cons _).cons _).cons _).cons _).cons _).cons _).cons _
def qv51{x m:Nat}{p:qm3}{os:List EvD}{i:Nat}{s:Bk}{pl:List Nat}{a:Option Nat}{e:EvD}(z:ql1 F c)(y:Inv (m:Int) s)(B:m+1<=1000000)(t:EvOk e)(l:St W (brk c x p pl a s F) w):
 qb Zp 15 #[qc x,Zg (evV e).toArray] w λv w'=>∃k f r d b h,v=Zg #[Zi Zk k,Zi Zk f,Zi Zk r,Zl d b h]/\∃s' pl a,Inv ((m+1:Nat):Int) s'/\St W (brk c x p pl a s' F) w':=by
 obtain⟨n,s',o,j,g⟩:=qx61 (c:=c) (e:=e) y (by omega);refine(qau z t j l).of λv w ⟨pl,a,q,A,u,l⟩=>⟨_,_,_,_,_,_,u,s',pl,a,g,l.del 12 yR⟩
end
end
section
def ro5(d:q31):List Bt:=[Zi Zk d.conn,Zi Zk d.kind,Zs d.ten,Zs d.name,Zi Zk d.epoch]
def ro55(d:q31):(ro5 d).length=5:=rfl
def ro5n(d:q31):∀v∈ro5 d,qn1 v:=λv h=>by simp only[ro5,Aj,List.not_mem_nil,yK]at h;rcases h with rfl|rfl|rfl|rfl|rfl<;>trivial
def qc11(s:Bk):List q31:=s.ids.map λid=>(qe s.roles id).getD (q9l 0)
def qs71(s:Bk)(id:Int):Int:=match qe s.roles id with|some r=>r.kind|none=>0
def q281:Zp.underlying 59=A0 (.slice 62):=Tryz.underlying59
def qd81:Zp.info? 62=A0 Tryz.t62:=by kernel_rfl
def qk81:Tryz.t62.size=5:=rfl
def qe81:Tryz.t62.bytes<=1000:=by decide+kernel
def qj81:∃z,Tryz.t62.zero=A0 z/\z.cells.size=5:=⟨_,rfl,rfl⟩
section
variable{W w:World}{F:List Asn}{c:qy}{x n:Nat}{p:qm3}{pl:List Nat}{sn:Option Nat}{s s':Bk}{m:Int}{o:qra}
def ql71(s:Bk):s.ids.length=s.N.L.length:=by unfold Bk.ids;rw[(qv1 leI _).length_eq,B5]
def qd21(s:Bk):(qc11 s).length=s.ids.length:=by unfold qc11;rw[B5]
def qc41{id:Int}:id∈s.ids↔(qe s.N.L id).isSome=A4:=(qv1 leI _).mem_iff.trans q201.symm
def q151(h:s.Str m){i:Nat}{r:q31}(b:(qc11 s)[i]?=A0 r):∃id,s.ids[i]?=A0 id/\qe s.roles id=A0 r/\r.conn=id:=by
 unfold qc11 at b;rw[B1]at b;obtain⟨id,c,w⟩:=A9.1 b;have d:(qe s.roles id).isSome=A4:=by rw[h.same];exact qc41.1 (Ah c)
 obtain⟨q,a⟩:=A6.1 d;rw[a]at w;have w:q=r:=w;subst w;exact⟨id,c,a,(h.role _ _ a).conn⟩
def qp71(h:s.Str m){id:Int}{r:q31}(w:qe s.roles id=A0 r):r∈qc11 s:=by unfold qc11;exact Af.2 ⟨id,qc41.2 (by rw[<-h.same,w];rfl),by rw[w];rfl⟩
set_option maxHeartbeats 2000000 in
def qb71(h:s.Str m)(I:m<=1000000)(a:St W (brk c x p pl sn s F) w):qb Zp 20 #[qc x] w λv w'=>∃q g,v=Zl q (qc11 s).length g/\St W (brk c x p pl sn s (SlA 62 5 ro5 q g (qc11 s)::F)) w':=by
 obtain⟨z,M,B⟩:=qj81;have j:=Str.lenN h I;refine F20_of (z7 (z0n 0 a yR yR ((Cn.All_spec j (a.at 7 yR)).of λv w ⟨t,o,L,a⟩=>⟨_,_,_,L,?_⟩)));rw[<-ql71]at a j⊢;have a:St W (brk c x p pl sn s (qi 3 1 t s.ids.length o (s.ids.map (Zi Zk))::F)) w:=z0s 12 (zf 1 8 a yR);have a:St W (brk c x p pl sn s (SlA 62 5 ro5 Ab 0 ((qc11 s).take 0)::qi 3 1 t s.ids.length o (s.ids.map (Zi Zk))::F)) w:=z0s 12 (z09 a);refine⟨λvs w=>∃(i:Nat) (q:Option Addr) (g:Nat),vs=[Zl q ((qc11 s).take i).length g,Zi Zk i]/\i<=s.ids.length/\St W (brk c x p pl sn s (SlA 62 5 ro5 q g ((qc11 s).take i)::qi 3 1 t s.ids.length o (s.ids.map (Zi Zk))::F)) w,qq11 s.ids.length,⟨0,Ab,0,rfl,Ae _,a⟩,λU T R i w J=>?_⟩;clear a;obtain⟨i,q,g,N,Q,a⟩:=J;cases N;refine za (λd=>?_) λn=>?_
 .have d:i<s.ids.length:=by have:=yC d;omega
  have e:=A5 (l:=qc11 s) (i:=i) (by rw[qd21];exact d);generalize (qc11 s)[i]'(by rw[qd21];exact d)=r at e;obtain⟨y,O,G,_⟩:=q151 h e;have k:(qc11 s).take (i+1)=(qc11 s).take i++[r]:=by rw[Bo,e];rfl
  have K:((qc11 s).take i).length<=s.ids.length:=by rw[Ak,qd21];omega
  obtain⟨D,sb,H,a⟩:=brk.open_ G a;refine z0l (z04 15 yR λF=>z0k F) a yR d (v:=Zi Zk y) (by rw[B1,O];rfl) λad ha=>zq ha (z7 (zv 0 a yR yR (z0g kI uMr iPr zPr 9 a yR A2 ?_)));rw[yA (by simp)];refine⟨_,rfl,z7 (z8 12 a yR yR (z8 12 a yR yR (zg 12 a yR yR (zg 12 a yR yR (z8 12 a yR yR ?_)))))⟩;refine zh a λb w a=>?_;have u:(((qc11 s).take i).length+[r].length)*Tryz.t62.bytes<=140737488355328:=by have:=qe81;simp only[Au,Bf];exact Bb (Nat.mul_le_mul_left _ this) (by omega)
  have A:((qc11 s).take i).length+[r].length<=9223372036854775807:=by simp only[Au,Bf];omega
  refine qf3 (P:=Zp) (ty:=59) (sT:=59) (xT:=59) (m:=1) (sc:=1) (sp:=A0 ⟨b,0,Ab⟩) (f:=ro5) (os:=(qc11 s).take i) (xs:=[r]) ro55 q281 (.inr ⟨_,q281⟩) qd81 qk81 M B 15 a yR (z0t 0 λi v h=>by rw[Nat.zero_add];simpa [ro5]using h) yR ro5n u A λC E w a=>⟨_,_,_,rfl,?_⟩;rw[up d (by omega)];have a:St W (q32 c x p pl sn s y D (Row D 127 (qs pl sb r)::q02 p.v sb r.sh::SlA 62 5 ro5 C E ((qc11 s).take (i+1))::qi 3 1 t s.ids.length o (s.ids.map (Zi Zk))::F)) w:=by rw[k];exact a.drop
  rw[<-k];exact⟨⟨i+1,C,E,rfl,d,z08 H G a⟩,by show s.ids.length -(i+1)<s.ids.length - i;omega⟩
 .have:¬(i:Int)<(s.ids.length:Int):=yD n;rw[Be (by rw[qd21];omega)]at a⊢;exact⟨_,_,rfl,a.del 13 yR⟩
def q381{id:Int}(h:s.Str m)(u:m<=1000000)(b:St W (brk c x p pl sn s F) w):qb Zp 22 #[qc x,Zi Zk id] w λv w'=>v=Zi Zk (qs71 s id)/\St W (brk c x p pl sn s F) w':=by
 have B:=Str.lenN h u;have A:=qd21 s;have I:=ql71 s;refine F22_of ((qb71 h u b).of λv w ⟨q,z,G,b⟩=>⟨_,_,_,G,?_⟩);refine⟨λvs w=>∃i:Nat,vs=[Zi Zk i]/\i<=(qc11 s).length/\(∀k r,k<i->(qc11 s)[k]?=A0 r->r.conn≠id)/\St W (brk c x p pl sn s (SlA 62 5 ro5 q z (qc11 s)::F)) w,qq11 (qc11 s).length,⟨0,rfl,Ae _,λk r d=>yI d (Nat.not_lt_zero _),b⟩,λi w E=>?_⟩;clear b;obtain⟨i,H,J,j,b⟩:=E;cases H;have l:Rd (brk c x p pl sn s (SlA 62 5 ro5 q z (qc11 s)::F)) q ((qc11 s).flatMap ro5):=z04 12 yR λF=>z0e F;refine za (λa=>?_) λe=>?_
 .have a:i<(qc11 s).length:=by have:=yC a;omega
  have n:=A5 a;generalize (qc11 s)[i]=r at n;refine z0f ro55 (by decide) l b yR a n λad t=>zq (t 0 _ rfl) (za (λg=>z0f ro55 (by decide) l b yR a n λad t=>zq (t 1 _ rfl) ⟨?_,b.del 12 yR⟩) λg=>?_)
  .obtain⟨y,_,o,C⟩:=q151 h n;have g:r.conn=id:=by simpa using g
   unfold qs71;rw[<-g,C,o]
  .rw[up a (by omega)];refine⟨⟨i+1,rfl,a,λk r' d f=>?_,b⟩,by show(qc11 s).length -(i+1)<(qc11 s).length - i;omega⟩;rcases Nat.lt_succ_iff_lt_or_eq.1 d with d|rfl;.exact j k r' d f
   .rw[n]at f;cases f;simpa using g
 .have e:¬(i:Int)<((qc11 s).length:Int):=yD e;refine⟨?_,b.del 12 yR⟩;unfold qs71;cases o:qe s.roles id with
  |none=>rfl
  |some r=>obtain⟨k,d⟩:=List.getElem?_of_mem (qp71 h o);have D:=(List.getElem?_eq_some_iff.1 d).1;exact yI (h.role _ _ o).conn (j k r (by omega) d)
def qb81:ByteArray:=⟨#[115,111,109,101,116,104,105,110,103,32,100,114,97,119,110]⟩
def sayE(id:Int)(b:ByteArray):EvD:=⟨2,id,0,b,0,⟨#[]⟩,⟨#[]⟩,qb81⟩
def q481{id:Int}{b:ByteArray}(f:ql1 F c)(a:s.step c n (sayE id b)=A0 (s',o))(h:St W (brk c x p pl sn s F) w):
 qb Zp 21 #[qc x,Zi Zk id,Zs b] w λv w'=>qdz W c x p s' o F v w':=by
 refine F21_of (z0a 12 h λi w h=>(qau (e:=sayE id b) (f.cons _) ⟨by show(-9223372036854775808:Int)<=0;decide,by show(0:Int)<=9223372036854775807;decide⟩ a h).of λv w ⟨pl,sn,q,d,g,h⟩=>⟨_,_,_,_,_,_,g,?_⟩);refine St1.zz 13 h yR λw h=>St1.zz 13 h yR λw h=>St1.zz 13 h yR λw h=>St1.zz 13 h yR λw h=>?_;exact z8 13 h yR yR (z8 13 h yR yR (z8 13 h yR yR (zt 13 h yR yR ⟨pl,sn,q,d,rfl,h.del 13 yR⟩)))
end
end
def eqRB(a b:q31):Bool:=decide (a.conn=b.conn/\a.kind=b.kind/\a.ten=b.ten/\a.name=b.name/\a.epoch=b.epoch)
def fRo:(Zp.fieldsOf 62).toList.map qhm=[(A4,3,0),(A4,3,1),(A4,9,2),(A4,9,3),(A4,2,4)]:=by kernel_rfl
def uRo:Zp.underlying 62=A0 (.struct (Zp.fieldsOf 62)):=by kernel_rfl
def hRo:Zp.stoodInHeld 62=A2:=by kernel_rfl
def gRo:Zp.eqGuardType Zp.depth 62=A2:=by kernel_rfl
def rq0(a:q31)(w:B9):(part 3 (ro5 a).toArray 0).run Zp w=.ok (Zi Zk a.conn) w:=run_part_plain w qjr yR
def rq1(a:q31)(w:B9):(part 3 (ro5 a).toArray 1).run Zp w=.ok (Zi Zk a.kind) w:=run_part_plain w qjr yR
def rq2(a:q31)(w:B9):(part 9 (ro5 a).toArray 2).run Zp w=.ok (Zs a.ten) w:=run_part_plain w pS yR
def rq3(a:q31)(w:B9):(part 9 (ro5 a).toArray 3).run Zp w=.ok (Zs a.name) w:=run_part_plain w pS yR
def rq4(a:q31)(w:B9):(part 2 (ro5 a).toArray 4).run Zp w=.ok (Zi Zk a.epoch) w:=run_part_plain w qtz yR
def q681(d:Nat)(a b:q31)(w:B9):(Op.equalIn (d+2) 62 (Zg (ro5 a).toArray) (Zg (ro5 b).toArray)).run Zp w=.ok (eqRB a b) w:=by
 rw[show d+2=(d+1)+1 from rfl,run_equalIn_struct w (d+1) _ _ _ uRo hRo,qhh,fRo];simp only[eqF,Bc,rq0,rq1,rq2,rq3,rq4,B0,run_equalIn_int w d 3 Zk Zk _ _ uInt,run_equalIn_int w d 2 Zk Zk _ _ uI64,run_equalIn_string w d 9 _ _ uS,qv3,qow,By,Bx];unfold eqRB;by_cases h:a.conn=b.conn
 .by_cases c:a.kind=b.kind
  .by_cases e:a.ten=b.ten
   .by_cases f:a.name=b.name
    .by_cases g:a.epoch=b.epoch;.simp[h,c,e,f,g]
     .simp[h,c,e,f,g]
    .simp[h,c,e,f]
   .simp[h,c,e]
  .simp[h,c]
 .simp[h]
def eqRo{c h:Operand}(a b:q31)(w:B9):Sem.run Zp (do eqGuard .eql 62 c h (Zg (ro5 a).toArray) (Zg (ro5 b).toArray);binOp .eql 62 (Zg (ro5 a).toArray) (Zg (ro5 b).toArray)) w=.ok (Zb (eqRB a b)) w:=by simp only[Bc,run_eqGuard_agg w .eql 62 c h _ _ gRo,B0,run_eql_struct];rw[show(10000:Nat)=9998+2 from rfl,q681];rfl
def q181{s:Bk}{m id:Int}(h:s.Str m)(w:qs71 s id=0):qe s.roles id=Ab:=by
 unfold qs71 at w;cases hr:qe s.roles id with
 |none=>rfl
 |some r=>rw[hr]at w;have w:r.kind=0:=w;rcases(h.role _ _ hr).kind with ⟨k,_⟩|k|k|k<;>rw[k]at w<;>cases w
def q981{a:Int}{n:Nat}(h:(Lit.int .u8 a).wf=A4):Int.tmod (Zw Zk a) (n:Int)=((a.toNat%n:Nat):Int):=by
 have w:0<=a/\a<=255:=by simpa [Lit.wf,IntKind.min,IntKind.max,IntKind.signed,IntKind.bits]using h
 rw[w64];obtain⟨k,rfl⟩:=Int.eq_ofNat_of_zero_le w.1;exact Int.ofNat_tmod k n |>.symm ▸ rfl
set_option maxRecDepth 100000 in
set_option maxHeartbeats 4000000 in
def q781{W:B9}{c:qy}{p:Option Addr}{os:List EvD}{cc:Nat}(hT:qc4 [q65 W])(Q:qc4 [q65 W]->ql1 [q65 W] c)(hr:Rd [q65 W] p (os.flatMap evV))(hc:os.length<=cc)(hcm:cc<=9223372036854775807)(hok:∀o∈os,EvOk o)(a:Int)(wa:(Lit.int .u8 a).wf=A4)(b8:ByteArray)(_hn:b8.size<=9223372036854775807):
 qb Zp 5 #[Zg (qx3 c).toArray,Zl p os.length cc,Zi .u8 a,Zs b8] W λv w'=>v=Zb A4/\∃r,St W (q65 W::r) w':=by
 have Q:=Q hT;refine F5_of (zh (St.base W) λb w f=>?_);have f:St W (Row b 44 (qx3 c)::[q65 W]) w:=f;have hT:=hT.cons (Row b 44 (qx3 c));have Q:=Q.cons (Row b 44 (qx3 c));have hr:=hr.cons (Row b 44 (qx3 c));refine(qyu hT f).of λv w ⟨z,f⟩=>⟨_,z,?_⟩;refine z8 0 f yR yR (z8 0 f yR yR (z8 0 f yR yR (z8 0 f yR yR (zt 0 f yR yR ?_))));have B:∀{l:List Asn} w,St W (l++[q65 W]) w->∃r,St W (q65 W::r) w:=λw f=>⟨_,z0h _ f⟩;refine(qwt Q f).of λv w z=>?_;rcases z with ⟨_,z,f⟩|⟨N,x,T,z,f⟩
 .exact⟨_,z,zm yR ⟨rfl,B (l:=[_]) w f⟩⟩
 refine⟨_,z,zn yR ?_⟩;have hfb:∀{pl E s} w,St W (brk c x T pl E s (Row b 44 (qx3 c)::[q65 W])) w->∃r,St W (q65 W::r) w:=λw f=>B (l:=[_,_,_,_,_,_,_,_,_,_,_,_,_]) w f;refine z8 12 f yR yR (z8 12 f yR yR (z8 12 f yR yR (z8 12 f yR yR (zt 12 f yR yR ?_))));refine(qa51 Q.b13 f).of λv w ⟨g,z,f⟩=>⟨_,z,za (λ_=>⟨rfl,hfb w f⟩) λ_=>?_⟩;refine(qc51 hr.b12 (by omega) f).of λv w ⟨g,z,U,f⟩=>⟨_,z,za (λ_=>⟨rfl,hfb w f⟩) λhg=>?_⟩;have U:=U hg;refine za (λ_=>⟨rfl,hfb w f⟩) λP=>?_;have P:b8.size<=400:=by have:=yD P;omega
 have hi0:Inv ((0:Nat):Int) (Bk.new c):=q571 c (by have:=q3r N;rw[Aa]at this;exact this.2)
 refine⟨λvs w=>∃(i:Nat) (s:Bk) (pl:List Nat) (E:Option Nat),vs=[Zi Zk i]/\i<=os.length/\Inv (i:Int) s/\St W (brk c x T pl E s (Row b 44 (qx3 c)::[q65 W])) w,qq11 os.length,⟨0,_,_,_,rfl,Ae _,hi0,f⟩,λi w hI=>?_⟩;clear f;obtain⟨i,s,pl,E,he,hi,u,f⟩:=hI;cases he;refine za (λt=>?_) λL=>?_
 .have t:i<os.length:=by have:=yC t;omega
  have R:=A5 t;have hoe:=hok os[i] (List.getElem_mem t);generalize os[i]=e at R hoe;refine z0f evV8 (by decide) hr.b12 f yR t R λad D=>zq (D 0 _ rfl) (zq (D 1 _ rfl) (zq (D 2 _ rfl) (z0i (D 3 _ rfl) (zq (D 4 _ rfl) (z0i (D 5 _ rfl) (z0i (D 6 _ rfl) (z0i (D 7 _ rfl) ?_)))))));refine(qv51 (os:=os) (i:=i) (m:=i) Q u (by omega) hoe f).of λv w ⟨x1,x2,x3,x4,x5,x6,z,s',pl,E,A,f⟩=>⟨_,_,_,_,_,_,z,?_⟩;rw[up t (by omega)];exact⟨⟨i+1,s',pl,E,rfl,t,A,f⟩,by show os.length -(i+1)<os.length - i;omega⟩
 clear L;have J:(i:Int)+1<=1000000:=by omega
 refine(qb71 u.str (by omega) f).of λv w ⟨X,k1,z,f⟩=>⟨_,_,_,z,?_⟩;have hwl:(qc11 s).length<=1000000:=by rw[qd21,ql71];exact Str.lenN u.str (by omega)
 refine za (λ_=>⟨rfl,B (l:=[_,_,_,_,_,_,_,_,_,_,_,_,_,_]) w f⟩) λI=>?_;have hpos:0<(qc11 s).length:=by
  have:((qc11 s).length:Int)≠0:=by simpa using I
  omega
 refine⟨by omega,?_⟩;have O:a.toNat%(qc11 s).length<(qc11 s).length:=Nat.mod_lt _ hpos;have h0:=A5 O;generalize (qc11 s)[a.toNat%(qc11 s).length]=r at h0;obtain⟨rid,hrid,hrr,hrc⟩:=q151 u.str h0;refine z0f ro55 (by decide) (z04 12 yR λF=>z0e F) f (q981 wa) O h0 λad D=>zq (D 0 _ rfl) (zq (D 1 _ rfl) (z0i (D 2 _ rfl) (z0i (D 3 _ rfl) (zq (D 4 _ rfl) ?_))));refine zh f λbx w f=>St1.zz 0 f yR λw f=>St1.zz 0 f yR λw f=>St1.zz 0 f yR λw f=>St1.zz 0 f yR λw f=>St1.zz 0 f yR λw f=>?_;have f:St W (Row bx 62 (ro5 r)::brk c x T pl E s (SlA 62 5 ro5 X k1 (qc11 s)::Row b 44 (qx3 c)::[q65 W])) w:=f;have f:St W (brk c x T pl E s (Row bx 62 (ro5 r)::SlA 62 5 ro5 X k1 (qc11 s)::Row b 44 (qx3 c)::[q65 W])) w:=z0s 12 f;refine⟨λvs w=>vs=[]/\(r.kind=1\/r.kind=2)/\St W (brk c x T pl E s (Row bx 62 (ro5 r)::SlA 62 5 ro5 X k1 (qc11 s)::Row b 44 (qx3 c)::[q65 W])) w,?_,λw hJ=>?_⟩;.refine z8 12 f yR yR (za (λh1=>z8 12 f yR yR (za (λh2=>⟨rfl,B (l:=[_,_,_,_,_,_,_,_,_,_,_,_,_,_,_]) w f⟩) λh2=>⟨rfl,.inr (by simpa using h2),f⟩)) λh1=>⟨rfl,.inl (by simpa using h1),f⟩)
 clear f;obtain⟨_,hkind,f⟩:=hJ;refine(qlo (Str.lenP u.str (by omega)) f).of λv w ⟨q2,k2,z,f⟩=>⟨_,_,_,z,z8 13 f yR yR ⟨by show 1+b8.size<=_;omega,?_⟩⟩;obtain⟨n,s',o,hst,A,V,K⟩:=q491 (c:=c) (e:=sayE r.conn (⟨#[0]⟩++b8)) u J yR (show qe s.roles r.conn=A0 r by rw[hrc];exact hrr) hkind;have K:qe s'.roles r.conn=Ab->s'.P=s.P/\(∀j q,j≠r.conn->qe s.roles j=A0 q->q.kind≠3->∃b d,qe s'.roles j=A0 { q with due:=b,said:=d})/\∀j,(qe s'.N.L j).isSome=A4->(qe s.N.L j).isSome=A4:=K;refine(q481 (((Q.cons _).cons _).cons _) hst f).of λv w ⟨pl,E,q3,k3,z,f⟩=>⟨_,_,_,_,_,_,z,?_⟩;refine zh f λb4 w f=>St1.zz 0 f yR λw f=>St1.zz 0 f yR λw f=>St1.zz 0 f yR λw f=>St1.zz 0 f yR λw f=>?_;have f:St W (Row b4 32 [Zi Zk o.err,Zi Zk o.conn,Zi Zk o.took,Zl q3 o.sent.length k3]::brk c x T pl E s' (SlA 38 4 q21 q3 k3 o.sent::SlA 122 2 (q52 (qb4 s.P)) q2 k2 (qw4 s.P)::Row bx 62 (ro5 r)::SlA 62 5 ro5 X k1 (qc11 s)::Row b 44 (qx3 c)::[q65 W])) w:=f;have f:St W (brk c x T pl E s' (Row b4 32 [Zi Zk o.err,Zi Zk o.conn,Zi Zk o.took,Zl q3 o.sent.length k3]::SlA 38 4 q21 q3 k3 o.sent::SlA 122 2 (q52 (qb4 s.P)) q2 k2 (qw4 s.P)::Row bx 62 (ro5 r)::SlA 62 5 ro5 X k1 (qc11 s)::Row b 44 (qx3 c)::[q65 W])) w:=z0s 12 f;refine z8 15 f yR yR ((q381 A.str J f).of λv w ⟨z,f⟩=>⟨_,z,?_⟩);refine za (λ_=>zm yR (z8 12 f yR yR ⟨by rw[V];rfl,B (l:=[_,_,_,_,_,_,_,_,_,_,_,_,_,_,_,_,_,_]) w f⟩)) λC=>?_;have C:qe s'.roles r.conn=Ab:=q181 A.str (by simpa using C);obtain⟨hP',hrest,hsub⟩:=K C;refine(qb71 A.str J f).of λv w ⟨q4,k4,z,f⟩=>⟨_,_,_,z,?_⟩;have hnl:(qc11 s').length<=1000000:=by rw[qd21,ql71];exact Str.lenN A.str J
 obtain⟨Z,hZ⟩:∃Z,Z=brk c x T pl E s' (SlA 62 5 ro5 q4 k4 (qc11 s')::Row b4 32 [Zi Zk o.err,Zi Zk o.conn,Zi Zk o.took,Zl q3 o.sent.length k3]::SlA 38 4 q21 q3 k3 o.sent::SlA 122 2 (q52 (qb4 s.P)) q2 k2 (qw4 s.P)::Row bx 62 (ro5 r)::SlA 62 5 ro5 X k1 (qc11 s)::Row b 44 (qx3 c)::[q65 W]):=⟨_,rfl⟩;have Y:Rd Z X ((qc11 s).flatMap ro5):=by rw[hZ];exact z04 17 yR λF=>z0e F
 have hrn:Rd Z q4 ((qc11 s').flatMap ro5):=by rw[hZ];exact z04 12 yR λF=>z0e F
 have hzx:nth Z 16=A0 (Row bx 62 (ro5 r)):=by rw[hZ];rfl
 rw[<-hZ]at f;refine⟨λvs w=>∃i:Nat,vs=[Zi Zk i]/\i<=(qc11 s).length/\St W Z w,qq11 (qc11 s).length,⟨0,rfl,Ae _,f⟩,λi w hI=>?_⟩;clear f;obtain⟨i,he,hil,f⟩:=hI;cases he;refine za (λt=>?_) λ_=>?_
 .have t:i<(qc11 s).length:=by have:=yC t;omega
  have R:=A5 t;generalize (qc11 s)[i]=q at R;obtain⟨y,_,hqr,hqc⟩:=q151 u.str R;refine⟨λvs w=>∃k:Nat,vs=[Zb (((qc11 s').take k).any λd=>eqRB d q),Zi Zk k]/\k<=(qc11 s').length/\St W Z w,qq11 (qc11 s').length,⟨0,rfl,Ae _,f⟩,λthere k w hI=>?_⟩;clear f;obtain⟨k,he,hk,f⟩:=hI;cases he;refine za (λH=>?_) λL=>?_
  .have H:k<(qc11 s').length:=by have:=yC H;omega
   have hy:=A5 H;generalize (qc11 s')[k]=d at hy;have hs:=qs61 (λd:q31=>eqRB d q) hy;have M:∀b' w,((((qc11 s').take k).any λd=>eqRB d q)||eqRB d q)=b'->St W Z w->(∃k_1:Nat,[Zb b',Zi Zk (Zw Zk ((k:Int)+1))]=[Zb (((qc11 s').take k_1).any λd=>eqRB d q),Zi Zk k_1]/\k_1<=(qc11 s').length/\St W Z w)/\∀w1 w2,qq11 (qc11 s').length [Zb b',Zi Zk (Zw Zk ((k:Int)+1))] w1<qq11 (qc11 s').length [Zb (((qc11 s').take k).any λd=>eqRB d q),Zi Zk (k:Int)] w2:=λb' w hb f=>by rw[up H (by omega)];exact⟨⟨k+1,by rw[hs,hb],H,f⟩,λ_ _=>by show(qc11 s').length -(k+1)<(qc11 s').length - k;omega⟩
   refine⟨StC W _,zd f,za (λhh G w h=>⟨(M A4 w (by rw[hh];rfl) (zb h)).1,(M A4 w (by rw[hh];rfl) (zb h)).2 _ _⟩) λhh=>?_⟩;refine z07 ir ro55 (by decide) hrn f yR H hy λa1 g1=>z07 ir ro55 (by decide) Y f yR t R λa2 g2=>?_;refine⟨d.conn,d.kind,d.ten,d.name,d.epoch,λG w h=>zq (g1 h 0 _ rfl) (zq (g1 h 1 _ rfl) (z0i (g1 h 2 _ rfl) (z0i (g1 h 3 _ rfl) (zq (g1 h 4 _ rfl) ⟨rfl,h⟩)))),q.conn,q.kind,q.ten,q.name,q.epoch,λG w h=>zq (g2 h 0 _ rfl) (zq (g2 h 1 _ rfl) (z0i (g2 h 2 _ rfl) (z0i (g2 h 3 _ rfl) (zq (g2 h 4 _ rfl) ⟨rfl,h⟩)))),_,λw=>eqRo d q w,_,rfl,λG w h=>?_⟩;exact⟨(M _ w (by rw[hh];rfl) (zb h)).1,(M _ w (by rw[hh];rfl) (zb h)).2 _ _⟩
  have hall:((qc11 s').take k)=qc11 s':=Be (by have:=yD L;omega);have nx:∀w,St W Z w->(∃i_1:Nat,[Zi Zk (Zw Zk ((i:Int)+1))]=[Zi Zk i_1]/\i_1<=(qc11 s).length/\St W Z w)/\∀w1 w2,qq11 (qc11 s).length [Zi Zk (Zw Zk ((i:Int)+1))] w1<qq11 (qc11 s).length [Zi Zk (i:Int)] w2:=λw f=>by rw[up t (by omega)];exact⟨⟨i+1,rfl,t,f⟩,λ_ _=>by show(qc11 s).length -(i+1)<(qc11 s).length - i;omega⟩
  rw[hall];refine⟨StC W _,zd f,z07 ir ro55 (by decide) Y f yR t R λa1 g1=>⟨q.conn,λG w h=>zq (g1 h 0 _ rfl) ⟨rfl,h⟩,_,zi 16 ir hzx yR,za (λI=>za (λhno=>z07 ir ro55 (by decide) Y f yR t R λa2 g2=>⟨q.kind,λG w h=>zq (g2 h 1 _ rfl) ⟨rfl,h⟩,λG w h=>za (λhk3=>?_) λ_=>⟨(nx w (zb h)).1,(nx w (zb h)).2 _ _⟩⟩) λ_ G w h=>⟨(nx w (zb h)).1,(nx w (zb h)).2 _ _⟩) λ_ G w h=>⟨(nx w (zb h)).1,(nx w (zb h)).2 _ _⟩⟩⟩;have I:y≠r.conn:=by rw[<-hqc];simpa using I
  obtain⟨bd,sd,hin⟩:=hrest y q I hqr (by simpa using hk3);have hmem:=qp71 A.str hin;have:(qc11 s').any (λd=>eqRB d q)=A4:=Ba.2 ⟨_,hmem,by unfold eqRB;simp⟩;rw[this]at hno;cases hno
 refine zm yR ?_;rw[hZ]at f;refine(qlo (Str.lenP A.str J) f).of λv w ⟨q5,k5,z,f⟩=>⟨_,_,_,z,?_⟩;have hvl:(qw4 s.P).length<=9223372036854775807:=by have h1:=qh61 s.P;have h2:=Str.lenP u.str (by omega);omega
 rw[hP']at f⊢;refine(qp51 hvl (z04 12 yR λF=>z0e F) (z04 16 yR λF=>z0e F) f).of λv w ⟨z,f⟩=>⟨_,z,zm yR (zm ?_ (z8 14 f yR yR ⟨by rw[V];rfl,B (l:=[_,_,_,_,_,_,_,_,_,_,_,_,_,_,_,_,_,_,_,_]) w f⟩))⟩;have hnd:s'.ids.Nodup:=(qv1 leI _).nodup_iff.2 A.str.nN;have:=qz21 (a:=r.conn) hnd (λj hj=>qc41.2 (hsub j (qc41.1 hj))) (qc41.2 (by rw[<-u.str.same,hrc,hrr];rfl)) (λh=>by have:=qc41.1 h;rw[<-A.str.same,C]at this;cases this)
 rw[qd21,qd21];exact yG (by omega)
def tabL:List (String×Bw Unit):=[("internal/strconv.uint64pow10",Lib.tabData .u64 Lib.pow10Tab)]
def tab_base{W:B9}(h:laidMetH Zp Rows.topBadRow.laid W):qc4 [q65 W]:=by
 have b:=laidMetH.filter (λx=>x.1== "internal/strconv.uint64pow10") h;have e:Rows.topBadRow.laid.filter (λx=>x.1== "internal/strconv.uint64pow10")=tabL:=by kernel_rfl
 rw[e,MakeChecks.laidMetH_plain _ _ _ (by kernel_rfl)]at b;have a:Zp.globalNamed "internal/strconv.uint64pow10"=A0 0:=by kernel_rfl
 have w:Lib.TabIs Zp W "internal/strconv.uint64pow10" .u64 Lib.pow10Tab:=Lib.tabIs_of_head a (t:=486) (e:=291) (n:=20) (by kernel_rfl) Tryz.underlying486 Tryz.underlying291 (by kernel_rfl) (by kernel_rfl) b;intro H i;obtain⟨g,j,c,_⟩:=i;unfold Lib.TabIs World.var? at w;rw[a,Option.bind_some]at w;split at w
 .rename_i cs t f d;cases w;exact⟨t,f,j _ _ (c _ _ d)⟩
 .cases w
end Go.Proofs.YtfjifcfbmhpcaaaGreatDoor
