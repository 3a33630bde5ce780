/-
  A part of the proof of TopEvicted.
-/
import Derived.Test.YtfjifcfbmhpcaaaGreatDoorV06
import Derived.Test.YtfjifcfbmhpcaaaGreatDoorV07
import Derived.Test.YtfjifcfbmhpcaaaGreatDoorV08
import Derived.Test.YtfjifcfbmhpcaaaGreatDoorV09
import Derived.Test.YtfjifcfbmhpcaaaGreatDoorV10
import Derived.Test.YtfjifcfbmhpcaaaGreatDoorV11
import Derived.Test.YtfjifcfbmhpcaaaGreatDoorV12
import Derived.Test.YtfjifcfbmhpcaaaGreatDoorV13
import Derived.Test.YtfjifcfbmhpcaaaGreatDoorV03
import Derived.ChangeKeysEq
import Derived.Laws.StructEq
import Derived.Lib.Bytealg
import Derived.BigCall
import Derived.BigGuard
import Derived.Deep.Draws
import Derived.Laws.Strings3
import Derived.Test.YtfjifcfbmhpcaaaGreatDoorRows
import Derived.ProofKit
import Derived.OpenShut
import Derived.Carry
import Derived.Deep.Slices
import Derived.Deep.Strs
import Derived.JoinedCond
import Derived.Test.YtfjifcfbmhpcaaaGreatDoorV00
set_option linter.defProp false
set_option linter.unusedVariables false
set_option linter.unusedSimpArgs false
namespace Go.Proofs.YtfjifcfbmhpcaaaGreatDoor
open Go
open Go.Proofs.Tryz renaming prog → Zp
open Go.IntKind renaming i64 → Zk, wrap → Zw
open Go.Value renaming int → Zi, string → Zs, bool → Zb, tuple → Zt, slice → Zl, agg → Zg
open _root_.List renaming replicate->A0,length_append->A1,length_map->A3,getElem?_eq_getElem->A4,length_replicate->A5,take_of_length_le->A6,getElem?_eq_none->A8,set_append_right->A9,getElem?_map->Aa,length_take->Af,append_nil->Ai,take_add_one->Aj,getD_eq_getElem?_getD->Ak,length_drop->Ap,getElem?_append_left->Aq,getElem?_range->Ar,set_cons_zero->Aw,take_zero->Az,map_set->B0,append_assoc->B1,replicate_append_replicate->B2,take_append_of_le_length->B5,mem_append_left->B6,replicate_succ->B9,getElem?_append_right->Ba,mem_cons_self->Bb,drop_eq_getElem_cons->Bd,getElem?_eq_some_iff->Be,ext_getElem?->Bf,map_take->Bh,getElem?_replicate->Bj,length_cons->Bm,mem_map->Bn,map_append->Bs,mem_append->Bt,mem_append_right->Bu,mem_cons_of_mem->Bx,drop_replicate->By,map_drop->Bz,getElem?_drop->C0,cons_append->C5,take_length->C6,nil_append->C8,mem_filter->C9,range->Ca,drop_zero->Cb,map_cons->Cd
open _root_.Option renaming some->A7,isSome_iff_exists->Bi,none->C4
open Go renaming World->Ab,Value->Ae,Addr->B4,TypeId->B7,MemPlace->Bw,Program->Cf,DataW->Ch,Operand->Cj
open _root_.Nat renaming le_refl->Ac,mul_one->Ag,sub_self->Ao,reduceMul->As,reducePow->Au,lt_or_ge->Ay,sub_zero->Bo,min_eq_left->Bq,zero_add->C3,add_mul->C7,zero_mul->Ce
open Go.IntKind renaming bits->Ad
open _root_.Bool renaming true->Ah,false->Bv
open _root_.Int renaming tdiv_eq_ediv_of_nonneg->Am,toNat_natCast->Bg,toNat->Bl,fdiv->Cc,tdiv->Cg
open _root_.BitVec renaming ofInt->An,ofNat->Bp,toNat_ofNat->C1
open Go.Value renaming nilFunc->Av
open Go.Builtin renaming firstCells->Ax,append_->Br
open Go.DataW renaming TrodAll->B3,trod->C2
open Go.Op renaming equalIn->Bc,eqFields->Ci
def uB:Zp.underlying 22=A7 (.slice 5):=Tryz.underlying22
def uU8:Zp.underlying 5=A7 (.int .u8):=Tryz.underlying5
def iU8:Zp.info? 5=A7 Tryz.t5:=by kernel_rfl
def sU8:Tryz.t5.size=1:=rfl
def zU8:Tryz.t5.zero=A7 (Zi .u8 0):=rfl
def bU8:Tryz.t5.bytes=1:=rfl
def iU32:Zp.info? 34=A7 Tryz.t34:=by kernel_rfl
def sU32:Tryz.t34.size=1:=rfl
def w64{n:Int}(h: -9223372036854775808<=n:=by omega)(w:n<=9223372036854775807:=by omega):Zw Zk n=n:=IntWalk.i64_in _ ⟨h,w⟩
def up{k n:Nat}(h:k<n)(w:n<=9223372036854775807):Zw Zk ((k:Int)+1)=((k+1:Nat):Int):=by rw[w64];omega
def leftN(n:Nat):List Ae->Ab->Nat:=λvs _=>match vs.getLast? with
 |some (.int _ i)=>n - i.toNat
 |_=>0
def qy5(ws:List B32):∀v∈ws.map uV,qn1 v:=λv h=>by obtain⟨x,_,rfl⟩:=Bn.1 h;trivial
def qm4(ws:List B32):Array Ae:=(ws.map uV).toArray
def qof(ws:List B32):(qm4 ws).size=ws.length:=by simp[qm4]
def qg01:∀k:Fin 32,0<k.val->Zw .u64 ↑((An (Ad .u64) (Zw .u64 (Zw Zk (0 -(k.val:Int))))&&& An (Ad .u64) 31).toNat)=((32 - k.val:Nat):Int)/\Zw .u64 (32 -((32 - k.val:Nat):Int))=(k.val:Int):=by decide+kernel
def qtg{W w:Ab}{F:List Asn}(x:B32)(k:Nat)(c:0<k)(d:k<32)(b:St W F w):qb Zp 406 #[uV x,Zi Zk (Zw Zk (0 -(k:Int)))] w λv w'=>v=uV (qv6 x k)/\St W F w':=by obtain⟨a,h⟩:=qg01 ⟨k,d⟩ c;dsimp only at a h;refine F406_of ?_;rw[a,h];refine⟨by omega,by omega,?_,b⟩;rw[qzo x _ (by omega),q6j x _ (by omega),q4n];unfold qv6 uV;rw[BitVec.or_comm]
def q4b{W w:Ab}{F:List Asn}(x:B32)(a b c:Nat)(d:Bool)(j:0<a/\a<32)(n:0<b/\b<32)(l:0<c/\c<32)(e:St W F w):
 qb Zp 404 #[uV x,Zg #[Zi Zk a,Zi Zk b,Zi Zk c],Zb d] w λv w'=>v=uV (qv6 x a ^^^ qv6 x b ^^^(if d=Ah then x >>> c else qv6 x c))/\St W F w':=by
 refine F404_of (zh e λi w e=>?_);have e:St W (Row i 163 [Zi Zk a,Zi Zk b,Zi Zk c]::F) w:=e;refine IxP.row (k:=2) rfl (by decide) (z13 0 e rfl rfl ((qtg x c l.1 l.2 e).of λv w ⟨g,e⟩=>⟨_,g,?_⟩));refine⟨λvs w=>vs=[uV (if d=Ah then x >>> c else qv6 x c)]/\St W (Row i 163 [Zi Zk a,Zi Zk b,Zi Zk c]::F) w,za (λh=>?_) λh=>⟨by rw[yA (by simp[h])];rfl,e⟩,λlast w o=>?_⟩
 .refine IxP.row (k:=2) rfl (by decide) (z13 0 e rfl rfl ⟨by omega,?_,e⟩);rw[q6j x c (by omega),yB h];rfl
 obtain⟨m,e⟩:=o;generalize (if d=Ah then x >>> c else qv6 x c)=z at m⊢;cases m;have f:=z6 W (Row i 163 [Zi Zk a,Zi Zk b,Zi Zk c]::F);refine⟨StC W _,zd e,IxP.row (k:=0) rfl (by decide) (IxP.row (k:=1) rfl (by decide) ⟨_,z02 0 f rfl rfl,_,z02 0 f rfl rfl,?_⟩)⟩;refine zk (α:=Unit) (V:=λ_=>uV (qv6 x a)) (B:=λ_=>Row i 163 [Zi Zk a,Zi Zk b,Zi Zk c]::F) () f (λG w h=>(qtg x a j.1 j.2 h).of λv w' ⟨g,h⟩=>⟨_,g,(),rfl,h⟩) λ_=>⟨_,rfl,z02 0 f rfl rfl,?_⟩;refine zk (α:=Unit) (V:=λ_=>uV (qv6 x b)) (B:=λ_=>Row i 163 [Zi Zk a,Zi Zk b,Zi Zk c]::F) () f (λG w h=>(qtg x b n.1 n.2 h).of λv w' ⟨g,h⟩=>⟨_,g,(),rfl,h⟩) λ_=>⟨_,rfl,trivial,λG w h=>⟨?_,(zb h).drop⟩⟩;rw[qkj,qkj];rfl
def qxp{W w:Ab}{F:List Asn}(h:St W F w):qb Zp 403 #[] w λv w'=>v=Zg (qm4 K64)/\St W F w':=by
 refine F403_of (zh h λb w h=>⟨rfl,StA.r 0 h rfl rfl (λv a=>?_) λw h=>LdA.r 0 h rfl rfl ⟨?_,h.drop⟩⟩);.exact qy5 K64 v a
 .kernel_rfl
def q5q{W w:Ab}{F:List Asn}(h:St W F w):qb Zp 392 #[] w λv w'=>v=Zg (qm4 H0.l)/\St W F w':=by
 refine F392_of (zh h λb w h=>⟨rfl,StA.r 0 h rfl rfl (λv a=>?_) λw h=>LdA.r 0 h rfl rfl ⟨?_,h.drop⟩⟩);.exact qy5 H0.l v a
 .kernel_rfl
def qdr(l:List UInt8)(c:UInt8)(a:B32):qfc (l++[c]) a=qfc l a <<< 8|||c.toBitVec.setWidth 32:=by
 induction l generalizing a with
 |nil=>rfl
 |cons x r ih=>exact ih _
def wAt(bs:List UInt8)(i j:Nat):B32:=qfc ((bs.drop (4*j)).take (min 4 (i - 4*j))) 0
def q4c(bs:List UInt8)(i:Nat):List B32:=(Ca 64).map (wAt bs i)
def qm9(bs:List UInt8)(i:Nat):(q4c bs i).length=64:=by simp[q4c]
def qxb(bs:List UInt8)(i j:Nat)(h:j<64):(q4c bs i)[j]?=A7 (wAt bs i j):=by unfold q4c;rw[Aa,Ar h];rfl
def qew(bs:List UInt8)(i:Nat){c:UInt8}(w:bs[i]?=A7 c):wAt bs (i+1) (i/4)=wAt bs i (i/4) <<< 8|||c.toBitVec.setWidth 32:=by
 unfold wAt;have h:min 4 (i+1 - 4*(i/4))=(i - 4*(i/4))+1:=by omega
 have a:min 4 (i - 4*(i/4))=i - 4*(i/4):=by omega
 rw[h,a,Aj,C0,show 4*(i/4)+(i - 4*(i/4))=i by omega,w];exact qdr _ _ _
def qlu(bs:List UInt8)(i j:Nat)(h:j≠i/4):wAt bs (i+1) j=wAt bs i j:=by unfold wAt;rw[show min 4 (i+1 - 4*j)=min 4 (i - 4*j)by omega]
def qis(bs:List UInt8)(i:Nat){c:UInt8}(w:bs[i]?=A7 c)(a:i<64):q4c bs (i+1)=(q4c bs i).set (i/4) (wAt bs i (i/4) <<< 8|||c.toBitVec.setWidth 32):=by
 refine Bf λj=>?_;rw[List.getElem?_set];rcases Ay j 64 with h|h
 .rw[qxb bs _ j h,qxb bs _ j h];by_cases e:i/4=j
  .subst e;rw[yB rfl,yB (by rw[qm9];exact h),qew bs i w]
  .rw[yA e,qlu bs i j (λk=>e k.symm)]
 .rw[A8 (by rw[qm9];exact h),A8 (by rw[qm9];exact h),yA (by omega)]
def qet(bs:List UInt8):q4c bs 0=A0 64 0:=by
 refine Bf λj=>?_;rcases Ay j 64 with h|h
 .rw[qxb bs _ j h,Bj,yB h];unfold wAt;rw[Nat.zero_sub,Nat.min_zero,Az];rfl
 .rw[A8 (by rw[qm9];exact h),A8 (by simpa using h)]
def q1u(bs:List UInt8):q4c bs 64=w16 bs++A0 48 0:=by
 have a:(w16 bs).length=16:=by simp[w16]
 refine Bf λj=>?_;rcases Ay j 64 with h|h
 .rw[qxb bs _ j h];rcases Ay j 16 with w|w
  .rw[Aq (by omega)];unfold w16;rw[Aa,Ar w];unfold wAt;rw[show min 4 (64 - 4*j)=4 by omega];rfl
  .rw[Ba (by omega),Bj,yB (by omega)];unfold wAt;rw[show min 4 (64 - 4*j)=0 by omega,Az];rfl
 .rw[A8 (by rw[qm9];exact h),A8 (by simp[a];omega)]
def q08(bs:List UInt8)(m:Nat):List B32:=q53 (w16 bs) m++A0 (48 - m) 0
def q67(bs:List UInt8):(w16 bs).length=16:=by simp[w16]
def qym(bs:List UInt8)(m:Nat)(h:m<=48):(q08 bs m).length=64:=by unfold q08;rw[A1,q55,q67,A5];omega
def qbt(bs:List UInt8)(m:Nat)(h:m<48):q08 bs (m+1)=(q08 bs m).set (m+16) (q1l (q53 (w16 bs) m)):=by
 have w:(q53 (w16 bs) m).length=m+16:=by rw[q55,q67];omega
 unfold q08;rw[A9 _ _ (by omega),w,Ao,show 48 - m=(48 -(m+1))+1 by omega,B9,Aw];simp[q53]
def qbw(bs:List UInt8)(m j:Nat)(h:j<m+16):(q08 bs m)[j]?=A7 ((q53 (w16 bs) m).getD j 0):=by
 have w:(q53 (w16 bs) m).length=m+16:=by rw[q55,q67];omega
 unfold q08;rw[Aq (by omega),Ak,A4 (by omega)];rfl
def qln(bs:List UInt8)(m:Nat):q1l (q53 (w16 bs) m)=quq ((q53 (w16 bs) m).getD (m+14) 0)+(q53 (w16 bs) m).getD (m+9) 0+qvp ((q53 (w16 bs) m).getD (m+1) 0)+(q53 (w16 bs) m).getD m 0:=by
 unfold q1l;have h:(q53 (w16 bs) m).length=m+16:=by rw[q55,q67];omega
 rw[h];rfl
def q6c{ws:List B32}{j:Nat}{x:B32}(h:ws[j]?=A7 x):(ws.map uV)[j]?=A7 (Zi .u32 (nI x)):=by rw[Aa,h];rfl
def qtl(ws:List B32)(j:Nat)(x:B32):(ws.map uV).set j (uV x)=(ws.set j x).map uV:=by rw[B0]
def IxP.by_{W w:Ab}{l:List Asn}{p:Option B4}{bs:List UInt8}{n k:Nat}{i:Int}{x:UInt8}{K:B4->Prop}(b:Rd l p (bs.map qd))(h:St W l w)(e:i=(k:Int))(g:k<n)(f:bs[k]?=A7 x)
 (j:∀a,w.cell? a=A7 (qd x)->K a):IxP p n i 1 K:=by
 have c:(bs.map qd)[k*1]?=A7 (qd x):=by rw[Ag,Aa,f];rfl
 refine IxP.i b h e g c λa d=>j _ ?_;exact b.at1 h d c
def qwp{W w:Ab}{F:List Asn}{p:Option B4}{c:Nat}{bs:List UInt8}(K:Rd F p (bs.map qd))(R:bs.length<=c)(z:64<=bs.length)(d:St W F w):
 qb Zp 394 #[Zl p bs.length c] w λv w'=>v=Zg (qm4 (qi4 (bs.take 64)))/\St W F w':=by
 refine F394_of (zh d λn w1 d=>zh d λo L d=>SlP.i (a:=0) (b:=64) K (by simp) R rfl rfl (by omega) z λY s=>?_);rw[Ce,Ag,Cb,Bo,<-Bh]at s;have d:St W (Row o 503 ((q4c (bs.take 64) 0).map uV)::Row n 503 ((A0 64 (0:B32)).map uV)::F) L:=by rw[qet];exact d
 generalize T:bs.take 64=q at s d⊢;have I:q.length=64:=by rw[<-T];simp;omega
 refine⟨λvs w=>∃i:Nat,vs=[Zi Zk i]/\i<=64/\St W (Row o 503 ((q4c q i).map uV)::Row n 503 ((A0 64 (0:B32)).map uV)::F) w,leftN 64,⟨0,rfl,by omega,d⟩,λx w C=>?_⟩;obtain⟨i,y,X,d⟩:=C;cases y;refine za (λf=>?_) λr=>?_
 .have f:i<64:=by have:=yC f;omega
  have E:q[i]?=A7 (q[i]'(by omega)):=A4 _;have N:Zw Zk (Cg (i:Int) 4)=((i/4:Nat):Int):=by rw[Am (by omega),w64];omega
  rw[N];refine IxP.by_ ((s.cons _).cons _) d rfl (by omega) E λa M=>zt M ⟨by decide,by decide,?_⟩;refine IxP.row rfl (by omega) (z13 0 d rfl (q6c (qxb q i (i/4) (by omega))) ⟨by decide,IxP.row rfl (by omega) (z0n 0 d rfl (by rw[A3,qm9];omega) λJ d=>?_)⟩);have H:=qzo (wAt q i (i/4)) 8 (by omega);rw[show(Bl ((8:Nat):Int))=Bl 8 from rfl]at H;have O:Zw .u32 ((q[i]'(by omega)).toNat:Int)=nI ((q[i]'(by omega)).toBitVec.setWidth 32):=qny _;rw[H,O,q4n]at d;have d:St W (Row o 503 ((q4c q (i+1)).map uV)::Row n 503 ((A0 64 (0:B32)).map uV)::F) J:=by rw[qis q i E f,<-qtl];exact d
  rw[up f (by omega)];exact⟨⟨i+1,rfl,by omega,d⟩,by show 64 -(i+1)<64 - i;omega⟩
 .have D:i=64:=by have:=yD r;omega
  subst D;have d:St W (Row o 503 ((q08 q 0).map uV)::Row n 503 ((A0 64 (0:B32)).map uV)::F) w:=by rw[q1u]at d;exact d
  refine⟨λvs w=>∃m:Nat,vs=[Zi Zk ((m+16:Nat):Int)]/\m<=48/\St W (Row o 503 ((q08 q m).map uV)::Row n 503 ((A0 64 (0:B32)).map uV)::F) w,leftN 64,⟨0,rfl,by omega,d⟩,λx w C=>?_⟩;obtain⟨m,y,P,d⟩:=C;cases y;refine za (λf=>?_) λr=>?_
  .have f:m<48:=by have:=yC f;omega
   have l:=z6 W (Row o 503 ((q08 q m).map uV)::Row n 503 ((A0 64 (0:B32)).map uV)::F);have g:∀j,j<m+16->((q08 q m).map uV)[j]?=A7 (Zi .u32 (nI ((q53 (w16 q) m).getD j 0))):=λj Q=>q6c (qbw q m j Q);refine⟨StC W _,zd d,?_⟩;refine IxP.row (k:=m+14) (by rw[w64];omega) (by omega) (IxP.row (k:=m+9) (by rw[w64];omega) (by omega) (IxP.row (k:=m+1) (by rw[w64];omega) (by omega) (IxP.row (k:=m) (by rw[w64];omega) (by omega) ?_)));refine⟨_,z02 0 l rfl (g _ (by omega)),_,z02 0 l rfl (g _ (by omega)),_,z02 0 l rfl (g _ (by omega)),_,z02 0 l rfl (g _ (by omega)),?_⟩;refine zk (α:=Unit) (V:=λ_=>uV (quq ((q53 (w16 q) m).getD (m+14) 0))) (B:=λ_=>Row o 503 ((q08 q m).map uV)::Row n 503 ((A0 64 (0:B32)).map uV)::F) () l (λG w h=>(q4b _ 17 19 10 Ah (by decide) (by decide) (by decide) h).of λv w' ⟨u,h⟩=>⟨_,u,(),rfl,h⟩) λ_=>⟨_,rfl,⟨z02 0 l rfl (g _ (by omega)),z02 0 l rfl (g _ (by omega)),z02 0 l rfl (g _ (by omega))⟩,?_⟩;refine zk (α:=Unit) (V:=λ_=>uV (qvp ((q53 (w16 q) m).getD (m+1) 0))) (B:=λ_=>Row o 503 ((q08 q m).map uV)::Row n 503 ((A0 64 (0:B32)).map uV)::F) () l (λG w h=>(q4b _ 7 18 3 Ah (by decide) (by decide) (by decide) h).of λv w' ⟨u,h⟩=>⟨_,u,(),rfl,h⟩) λ_=>⟨_,rfl,⟨z02 0 l rfl (g _ (by omega)),z02 0 l rfl (g _ (by omega))⟩,?_⟩;refine IxP.row rfl (by omega) (Ef.st 0 l rfl (by rw[A3,qym q m P];omega) ⟨rfl,trivial,λG w h=>?_⟩);have d:=zb h;rw[qcd,qcd,qcd,<-qln]at d;have d:St W (Row o 503 ((q08 q (m+1)).map uV)::Row n 503 ((A0 64 (0:B32)).map uV)::F) w:=by rw[qbt q m f,<-qtl];exact d
   rw[w64];exact⟨⟨m+1,by rw[show((m+16:Nat):Int)+1=((m+1+16:Nat):Int)by omega],by omega,d⟩,by show 64 -(((m+16:Nat):Int)+1).toNat<64 -(m+16);omega⟩
  .have A:m=48:=by have:=yD r;omega
   subst A;have e:q08 q 48=qi4 q:=by unfold q08 qi4;simp
   rw[e]at d;have t:(qi4 q).length=64:=by rw[<-e];exact qym q 48 (by omega)
   generalize qi4 q=ws at d t⊢;refine LdA.r 0 d rfl (by rw[A3,t]) ⟨by simp[t],StA.r 1 d rfl (by simp[t]) (λv u=>qy5 ws v (by simpa using u)) λU d=>LdA.r 1 d rfl (by simp[t]) ⟨rfl,?_⟩⟩;exact St.drop (St.drop d)
def uL32:Zp.underlying 511=A7 (.slice 34):=Tryz.underlying511
def qap{α:Type}(A B:List α)(i:Nat)(h:i<A.length)(w:i<B.length):(A.take i++B.drop i).set i A[i]=A.take (i+1)++B.drop (i+1):=by rw[A9 _ _ (by rw[Af];omega),Af,Bq (by omega),Ao,Bd w,Aw,List.take_succ_eq_append_getElem h,B1];rfl
def qgp{α:Type}(A B:List α)(i:Nat)(h:i<=A.length):(A.take i++B.drop i)[i]?=B[i]?:=by rw[Ba (by rw[Af];omega),Af,Bq h,Ao,C0,Nat.add_zero]
def q4p{α:Type}(A B:List α)(i:Nat)(h:A.length=B.length):(A.take i++B.drop i).length=B.length:=by simp;omega
def qgj{α:Type}(A B:List α)(i:Nat)(h:A.length<=i)(w:B.length<=i):A.take i++B.drop i=A:=by rw[A6 h,List.drop_eq_nil_of_le w,Ai]
def qpd(s:S8)(K ws:List B32)(i:Nat):S8:=q1d s ((K.zip ws).take i)
def qlt(s:S8)(K ws:List B32)(i:Nat){k x:B32}(w:K[i]?=A7 k)(h:ws[i]?=A7 x):qpd s K ws (i+1)=rnd (qpd s K ws i) k x:=by
 unfold qpd;rw[Aj,q0x];have:(K.zip ws)[i]?=A7 (k,x):=by rw[List.getElem?_zip_eq_some];exact⟨w,h⟩
 rw[this];rfl
def qzw(h s:S8)(i:Nat)(d:i<8):∃a b c,h.l[i]?=A7 a/\s.l[i]?=A7 b/\(qa7 h s).l[i]?=A7 c/\c=b+a:=by
 have:∀i,i<8->((qa7 h s).l[i]?=(h.l[i]?.bind λa=>s.l[i]?.map λb=>b+a))/\(h.l[i]?).isSome/\(s.l[i]?).isSome:=by intro i d;rcases i with _|_|_|_|_|_|_|_|i;all_goals first|omega|exact⟨by simp[S8.l,qa7,BitVec.add_comm],rfl,rfl⟩
 obtain⟨f,g,j⟩:=this i d;obtain⟨a,w⟩:=Bi.1 g;obtain⟨b,e⟩:=Bi.1 j;rw[w,e]at f;exact⟨a,b,_,w,e,f,rfl⟩
def q5o{W w:Ab}{F:List Asn}(f:S8)(ws:List B32)(hw:ws.length=64)(d:St W F w):
 qb Zp 393 #[Zg (qm4 f.l),Zg (qm4 ws)] w λv w'=>v=Zg (qm4 (qa7 f (q1d f (K64.zip ws))).l)/\St W F w':=by
 have M:K64.length=64:=rfl;refine F393_of (zh d λu w5 d=>zh d λr w7 d=>zh d λt w9 d=>?_);have d:St W (Row t 500 ((A0 8 (0:B32)).map uV)::Row r 503 (ws.map uV)::Row u 500 (f.l.map uV)::F) w9:=d;have m:=z6 W (Row t 500 ((A0 8 (0:B32)).map uV)::Row r 503 (ws.map uV)::Row u 500 (f.l.map uV)::F);refine⟨StC W _,zd d,qm4 f.l,rfl,QtA.r 2 m rfl rfl,?_⟩;refine zk (α:=Unit) (V:=λ_=>Zg (qm4 K64)) (B:=λ_=>Row t 500 ((A0 8 (0:B32)).map uV)::Row r 503 (ws.map uV)::Row u 500 (f.l.map uV)::F) () m (λG w h=>(qxp h).of λv w' ⟨z,h⟩=>⟨qm4 K64,rfl,z,(),rfl,h⟩) λ_=>⟨qm4 K64,rfl,rfl,QtA.r 2 m rfl rfl,λg n=>?_⟩;generalize K64=K at M⊢;refine Ef.stP 1 ((m.push g _).push n _) rfl rfl rfl (qy5 f.l) ⟨rfl,trivial,?_⟩;refine Ef.stP 0 ir rfl (by simp[qm4,M]) (by rw[qof,M];rfl) (λv z=>qy5 K v (by simpa [qm4]using z)) ⟨rfl,trivial,λG w h=>?_⟩;have d:=zb h;have d:St W (Row n 503 (K.map uV)::Row g 500 ((qpd f K ws 0).l.map uV)::Row t 500 ((A0 8 (0:B32)).map uV)::Row r 503 (ws.map uV)::Row u 500 (f.l.map uV)::F) w:=d;clear h m;refine⟨λvs w=>∃i:Nat,vs=[Zi Zk i]/\i<=64/\St W (Row n 503 (K.map uV)::Row g 500 ((qpd f K ws i).l.map uV)::Row t 500 ((A0 8 (0:B32)).map uV)::Row r 503 (ws.map uV)::Row u 500 (f.l.map uV)::F) w,leftN 64,⟨0,rfl,by omega,d⟩,λx w Q=>?_⟩;obtain⟨i,N,hi,d⟩:=Q;cases N;refine za (λl=>?_) λC=>?_
 .have l:i<64:=by have:=yC l;omega
  have H:K[i]?=A7 (K[i]'(by omega)):=A4 _;have E:ws[i]?=A7 (ws[i]'(by omega)):=A4 _;have J:=qlt f K ws i H E;generalize qpd f K ws i=s at d J;generalize K[i]'(by omega)=k at H J;generalize ws[i]'(by omega)=x at E J;have H:=q6c H;have E:=q6c E;generalize y:(Row n 503 (K.map uV)::Row g 500 (s.l.map uV)::Row t 500 ((A0 8 (0:B32)).map uV)::Row r 503 (ws.map uV)::Row u 500 (f.l.map uV)::F)=L at d;have m:=z6 W L;have X:nth L 0=A7 (Row n 503 (K.map uV)):=by rw[<-y];rfl
  have p:nth L 1=A7 (Row g 500 (s.l.map uV)):=by rw[<-y];rfl
  have Y:nth L 3=A7 (Row r 503 (ws.map uV)):=by rw[<-y];rfl
  refine⟨StC W L,zd d,IxP.row (k:=0) rfl (by decide) (IxP.row (k:=1) rfl (by decide) (IxP.row (k:=2) rfl (by decide) (IxP.row (k:=4) rfl (by decide) ?_)))⟩;refine⟨nI s.a,z02 1 m p rfl,nI s.b,z02 1 m p rfl,nI s.c,z02 1 m p rfl,nI s.e,z02 1 m p rfl,λG w h=>?_⟩;have d:=zb h;refine⟨StC W L,zd d,IxP.row (k:=7) rfl (by decide) (IxP.row (k:=6) rfl (by decide) (IxP.row (k:=5) rfl (by decide) (IxP.row (k:=6) rfl (by decide) (IxP.row (k:=i) rfl l (IxP.row (k:=i) rfl l ?_)))))⟩;refine⟨nI s.h,z02 1 m p rfl,nI s.g,z02 1 m p rfl,nI s.f,z02 1 m p rfl,nI s.g,z02 1 m p rfl,nI k,z02 0 m X H,nI x,z02 3 m Y E,?_⟩;refine zk (α:=Unit) (V:=λ_=>uV (q9v s.e)) (B:=λ_=>L) () m (λG w h=>(q4b s.e 6 11 25 Bv (by decide) (by decide) (by decide) h).of λv w' ⟨z,h⟩=>⟨_,z,(),rfl,h⟩) λ_=>⟨nI (q9v s.e),rfl,⟨z02 3 m Y E,z02 0 m X H,z02 1 m p rfl,z02 1 m p rfl,z02 1 m p rfl,z02 1 m p rfl⟩,λG w h=>?_⟩;have d:=zb h;refine(q4b s.a 2 13 22 Bv (by decide) (by decide) (by decide) d).of λv w ⟨z,d⟩=>⟨nI (qsz s.a),z,?_⟩;refine⟨StC W L,zd d,⟨⟨by decide,by decide,by decide⟩,⟨⟨by decide,by decide,by decide⟩,?_⟩⟩⟩;refine Ef.n (α:=Unit) (V:=λ_=>Zi Zk ((min 7 7:Nat):Int)) (B:=λ_=>[Row g 500 ([s.a,s.a,s.b,s.c,s.d,s.e,s.f,s.g].map uV)]) () 1 m p (λG w h=>?_) λ_=>⟨_,rfl,trivial,λG w h=>?_⟩
  .refine q0a (q:=g) (o:=1) (cs:=[s.a,s.b,s.c,s.d,s.e,s.f,s.g].map uV) uL32 iU32 sU32 h (Nat.le_of_ble_eq_true rfl) (λj v R=>⟨⟨g,0,C4⟩,rfl,?_⟩) rfl (qy5 _) λw' h'=>⟨_,rfl,(),rfl,z17 1 p (B:=[_]) h'⟩;rw[qi1,C3];refine h.ld ?_;have P:j<7:=by
    rcases Ay j 7 with h|h;.exact h
    .rw[A8 (by simpa using h)]at R;cases R
   have e:(List.map uV s.l)=[s.a,s.b,s.c,s.d,s.e,s.f,s.g].map uV++[uV s.h]:=rfl;rw[e,Aq (by simpa using P)];exact R
  have d:=zb h;rw[<-y]at d;have d:St W (Row n 503 (K.map uV)::Row g 500 ([s.a,s.a,s.b,s.c,s.d,s.e,s.f,s.g].map uV)::Row t 500 ((A0 8 (0:B32)).map uV)::Row r 503 (ws.map uV)::Row u 500 (f.l.map uV)::F) w:=d;refine IxP.row (k:=4) rfl (by decide) (z13 (x:=nI s.d) 1 d rfl rfl (IxP.row (k:=0) rfl (by decide) (z0n 1 d rfl (by simp) λw d=>IxP.row (k:=4) rfl (by decide) (z0n 1 d rfl (by simp) λw d=>?_))));simp only[qcd,qkj,q0y,q4n,q301,qnz]at d;have d:St W (Row n 503 (K.map uV)::Row g 500 ((qpd f K ws (i+1)).l.map uV)::Row t 500 ((A0 8 (0:B32)).map uV)::Row r 503 (ws.map uV)::Row u 500 (f.l.map uV)::F) w:=by rw[J];exact d
  rw[up l (by omega)];exact⟨⟨i+1,rfl,by omega,d⟩,by show 64 -(i+1)<64 - i;omega⟩
 .have D:i=64:=by have:=yD C;omega
  subst D;have e:qpd f K ws 64=q1d f (K.zip ws):=by unfold qpd;rw[A6 (by simp[M,hw])]
  rw[e]at d;generalize q1d f (K.zip ws)=s at d⊢;have d:St W (Row n 503 (K.map uV)::Row g 500 (((qa7 f s).l.take 0++s.l.drop 0).map uV)::Row t 500 ((A0 8 (0:B32)).map uV)::Row r 503 (ws.map uV)::Row u 500 (f.l.map uV)::F) w:=d;refine⟨λvs w=>∃i:Nat,vs=[Zi Zk i]/\i<=8/\St W (Row n 503 (K.map uV)::Row g 500 (((qa7 f s).l.take i++s.l.drop i).map uV)::Row t 500 ((A0 8 (0:B32)).map uV)::Row r 503 (ws.map uV)::Row u 500 (f.l.map uV)::F) w,leftN 8,⟨0,rfl,by omega,d⟩,λx w Q=>?_⟩;obtain⟨i,N,hi,d⟩:=Q;cases N;refine za (λl=>?_) λC=>?_
  .have l:i<8:=by have:=yC l;omega
   obtain⟨a,b,c,h1,h2,T,h4⟩:=qzw f s i l;have l1:(qa7 f s).l.length=8:=rfl;have l2:s.l.length=8:=rfl;have U:(((qa7 f s).l.take i++s.l.drop i).map uV)[i]?=A7 (Zi .u32 (nI b)):=q6c (by rw[qgp _ _ _ (by omega),h2]);have g1:=q6c h1;have em:((qa7 f s).l.take i++s.l.drop i).set i c=(qa7 f s).l.take (i+1)++s.l.drop (i+1):=by rw[<-qap _ _ i (by omega) (by omega)];congr 1;rw[A4 (by omega)]at T;exact(Option.some.inj T).symm
   have Z:=q4p (qa7 f s).l s.l i rfl;generalize (qa7 f s).l.take i++s.l.drop i=A at d U em Z;generalize O:(qa7 f s).l.take (i+1)++s.l.drop (i+1)=A2 at em;have m:=z6 W (Row n 503 (K.map uV)::Row g 500 (A.map uV)::Row t 500 ((A0 8 (0:B32)).map uV)::Row r 503 (ws.map uV)::Row u 500 (f.l.map uV)::F);refine⟨StC W _,zd d,IxP.row (k:=i) rfl l (IxP.row (k:=i) rfl l ⟨nI b,z02 1 m rfl U,nI a,z02 4 m rfl g1,IxP.row (k:=i) rfl l ?_⟩)⟩;refine Ef.st 1 m rfl (by rw[A3,Z];exact l) ⟨rfl,trivial,λG w h=>?_⟩;have d:=zb h;rw[qcd,<-h4]at d;have d:St W (Row n 503 (K.map uV)::Row g 500 (A2.map uV)::Row t 500 ((A0 8 (0:B32)).map uV)::Row r 503 (ws.map uV)::Row u 500 (f.l.map uV)::F) w:=by rw[<-em,<-qtl];exact d
   subst O;rw[up l (by omega)];exact⟨⟨i+1,rfl,by omega,d⟩,by show 8 -(i+1)<8 - i;omega⟩
  .have D:i=8:=by have:=yD C;omega
   subst D;rw[qgj (qa7 f s).l s.l 8 (Ac 8) (Ac 8)]at d;have I:(qa7 f s).l.length=8:=rfl;generalize (qa7 f s).l=A at d I⊢;refine LdA.r 1 d rfl (by rw[A3,I]) ⟨by simp[I],StA.r 2 d rfl (by simp[I]) (λv z=>qy5 A v (by simpa using z)) λw4 d=>LdA.r 2 d rfl (by simp[I]) ⟨rfl,?_⟩⟩;exact z0f [_,_,_,_,_] d
def qx6(n:Nat):Nat:=64*(n/64)
def qc3(n:Nat):Nat:=if n%64+9>64 then 128 else 64
def qob(n:Nat):n%64+zs n+9=qc3 n:=by unfold zs qc3;split<;>omega
def qf6(bs:List UInt8):List UInt8:=bs.drop (qx6 bs.length)
def q3a(bs:List UInt8):(qf6 bs).length=bs.length%64:=by unfold qf6 qx6;rw[Ap];omega
def qgo(n:Nat):qiq n=n/64+qc3 n/64:=by
 have h:=qob n;have w:qc3 n=64\/qc3 n=128:=by unfold qc3;split<;>simp
 unfold qiq;rcases w with e|e<;>rw[e]at h⊢<;>omega
def qqu(bs:List UInt8):qqm bs=qt5 (qt5 H0 (bs.length/64) bs) (qc3 bs.length/64) (qf6 bs++qud bs.length):=by unfold qqm qgr;rw[qgo,qov,qom _ _ _ _ (by omega),List.drop_append_of_le_length (by omega)];rfl
def qf8(bs:List UInt8)(i:Nat):List UInt8:=qf6 bs++(128::(A0 (zs bs.length) 0++(A0 (8 - i) 0++(qqa bs.length).drop (8 - i))))++A0 (128 - qc3 bs.length) 0
def qf9(n:Nat):(qqa n).length=8:=rfl
def qhn(n:Nat):qc3 n<=128:=by unfold qc3;split<;>omega
def qdn(bs:List UInt8)(i:Nat)(h:i<=8):(qf8 bs i).length=128:=by have b:=qob bs.length;have w:=q3a bs;have a:=qhn bs.length;unfold qf8;simp only[A1,Bm,A5,Ap,qf9,w];omega
def q4z(bs:List UInt8):(qf8 bs 8).take (qc3 bs.length)=qf6 bs++qud bs.length:=by
 have w:=qob bs.length;have h:=q3a bs;have e:qf8 bs 8=(qf6 bs++qud bs.length)++A0 (128 - qc3 bs.length) 0:=by unfold qf8 qud;simp
 rw[e,B5 (by rw[A1,qeh,h];omega),A6 (by rw[A1,qeh,h];omega)]
def qbs(bs:List UInt8)(i:Nat)(h:i<8):qf8 bs (i+1)=(qf8 bs i).set (qc3 bs.length - 1 - i) ((qqa bs.length).getD (7 - i) 0):=by
 have a:=qob bs.length;have w:=q3a bs;have e:qc3 bs.length - 1 - i=(qf6 bs).length+(1+zs bs.length+(7 - i)):=by omega
 unfold qf8;rw[List.set_append_left _ _ (by simp only[A1,Bm,A5,Ap,qf9];omega)];congr 1;rw[e,A9 _ _ (by omega),show(qf6 bs).length+(1+zs bs.length+(7 - i)) -(qf6 bs).length=(zs bs.length+(7 - i))+1 by omega,List.set_cons_succ];congr 2;rw[A9 _ _ (by rw[A5];omega),A5,show zs bs.length+(7 - i) - zs bs.length=7 - i by omega];congr 1;rw[show 8 - i=(7 - i)+1 by omega,List.replicate_succ',B1,A9 _ _ (by simp),A5,Ao,C5,Aw,show 8 -(i+1)=7 - i by omega];congr 1;rw[Bd (by rw[qf9];omega),Ak,A4 (by rw[qf9];omega)];rfl
def qaw(n i:Nat)(h:i<8):(qqa n).getD (7 - i) 0=ofB (Bp 8 (8*n/2 ^(8*i))):=by rcases i with _|_|_|_|_|_|_|_|i;all_goals first|omega|rfl
def qzy(bs:List UInt8):qf8 bs 0=(qf6 bs++A0 (128 - bs.length%64) 0).set (bs.length%64) 128:=by
 have b:=qob bs.length;have h:=q3a bs;have a:=qhn bs.length;unfold qf8;have w:A0 (128 - bs.length%64) (0:UInt8)=0::A0 (127 - bs.length%64) 0:=by rw[show 128 - bs.length%64=(127 - bs.length%64)+1 by omega,B9]
 rw[A9 _ _ (by omega),h,Ao,w,Aw,B1,C5];congr 2;have:(qqa bs.length).drop (8 - 0)=[]:=by simp[qqa]
 rw[this,Ai,B1,B2,B2];congr 1;omega
def qmc(b:UInt8)(r:List UInt8):q45 (b::r)=qd9 (b.toNat/16)::qd9 (b.toNat%16)::q45 r:=rfl
def qnv(a b:List UInt8):q45 (a++b)=q45 a++q45 b:=by
 induction a with
 |nil=>rfl
 |cons x r h=>simp[qmc,h]
def qyb(a:List UInt8):(q45 a).length=2*a.length:=by
 induction a with
 |nil=>rfl
 |cons x r h=>simp[qmc,h];omega
def qz2(l:List UInt8):Array Ae:=(l.map qd).toArray
def ql7(l:List UInt8):(qz2 l).size=l.length:=by simp[qz2]
def q56(l:List UInt8):∀v∈(qz2 l).toList,qn1 v:=λv h=>q82 v (by simpa [qz2]using h)
def uS:Zp.underlying 9=A7 .string:=Tryz.underlying9
def qht(q:List UInt8):(qi4 q).length=64:=by unfold qi4;rw[q55,q67]
def qkz(s:S8)(q:List UInt8):blk s q=qa7 s (q1d s (K64.zip (qi4 q))):=rfl
def qmn{W:Ab}{L:List Asn}{C:Cls}{b i c:Nat}{p:Option B4}{q:List UInt8}{s:S8}{R:Ab->Prop}(hC:Is W C L)(P:nth L i=A7 (Row b 500 (s.l.map uV)))(D:Rd L p (q.map qd))(hc:q.length<=c)(I:64<=q.length)
 (hR:∀w,St W (put L i [Row b 500 ((blk s (q.take 64)).l.map uV)]) w->R w):
 ∃(d:Array Ae),d.size=8/\Qt C (Zg d) (λm x=>LdA Zp 8 ⟨b,0,C4⟩ m λz=>x (Zg z) m)/\
 Ef C (λt E=>qb Zp 394 #[(Zl p q.length c)] t λZ J=>∃(j:Array Ae),j.size=64/\Z=(Zg j)/\E (Zg j) J) λv25 k=>
 ∃(f:Array Ae),f.size=64/\v25=(Zg f)/\
 (Qt k (Zg d) (λl h0=>LdA Zp 8 ⟨b,0,C4⟩ l λM=>h0 (Zg M) l))/\
 Ef k (λX N=>qb Zp 393 #[(Zg d),(Zg f)] X λY O=>∃(g:Array Ae),g.size=8/\Y=(Zg g)/\N (Zg g) O) λv37 u=>
 ∃(a:Array Ae),a.size=8/\v37=(Zg a)/\(True)/\
 Ef u (λH y=>Array.size a=8/\StA Zp ⟨b,0,C4⟩ a H λU=>y (Zt #[]) U) λv45 r=>
 v45=(Zt #[])/\(True)/\∀A n,Cls.p r A n->R n:=by
 obtain⟨T,Q⟩:∃T,T=blk s (q.take 64):=⟨_,rfl⟩;obtain⟨ws,e⟩:∃ws,ws=qi4 (q.take 64):=⟨_,rfl⟩;rw[<-Q]at hR;have K:ws.length=64:=by rw[e,qht]
 have hw:∀{F:List Asn} {w:Ab},Rd F p (q.map qd)->St W F w->qb Zp 394 #[Zl p q.length c] w λv w'=>v=Zg (qm4 ws)/\St W F w':=λD h=>by rw[e];exact qwp D hc I h
 have hb:∀{F:List Asn} {w:Ab},St W F w->qb Zp 393 #[Zg (qm4 s.l),Zg (qm4 ws)] w λv w'=>v=Zg (qm4 T.l)/\St W F w':=λh=>by rw[Q,qkz,<-e];exact q5o s ws K h
 clear Q e;refine⟨qm4 s.l,rfl,QtA.r i hC P rfl,?_⟩;refine zk (α:=Unit) (V:=λ_=>Zg (qm4 ws)) (B:=λ_=>L) () hC (λG w h=>(hw (D.app (pts G)) h).of λv w' ⟨o,h⟩=>⟨qm4 ws,by rw[qof,K],o,(),rfl,h⟩) λ_=>⟨qm4 ws,by rw[qof,K],rfl,QtA.r i (z6 W L) P rfl,?_⟩;refine zk (α:=Unit) (V:=λ_=>Zg (qm4 T.l)) (B:=λ_=>L) () (z6 W L) (λG w h=>(hb h).of λv w' ⟨o,h⟩=>⟨qm4 T.l,rfl,o,(),rfl,h⟩) λ_=>⟨qm4 T.l,rfl,rfl,trivial,?_⟩;refine Ef.stA i (z6 W L) P rfl rfl (λv o=>qy5 T.l v o) ⟨rfl,trivial,λG w h=>hR w (zb h)⟩
def qdw(s:S8)(i:Nat):Zw .u8 (Cc (nI (s.l.getD (i/4) 0)) (2 ^ min (Bl ((24 - 8*(i%4):Nat):Int)) (Ad .u32)))=nI ((s.l.getD (i/4) 0 >>>(24 - 8*(i%4))).setWidth 8):=by rw[q6j _ _ (by omega),qky]
def q3w(s:S8)(i:Nat)(h:i<32):(qxa s)[i]?=A7 (outB s i):=by unfold qxa;rw[Aa,Ar h];rfl
def qfh(s:S8):(qxa s).length=32:=by simp[qxa]
def zB(n:Nat):List UInt8:=A0 n 0
def qlm(A B:List UInt8)(i:Nat){x:UInt8}(h:A[i]?=A7 x)(w:i<B.length):(((A.take i++B.drop i).map qd).set i (qd x))=(A.take (i+1)++B.drop (i+1)).map qd:=by have a:=(Be.1 h).1;rw[<-B0,<-qap A B i a w];congr 2;exact((Be.1 h).2).symm
def qev(m i:Nat):Zw .u8 (Cc (m:Nat) (2 ^(8*i)))=nI ((Bp 8 (m/2 ^(8*i)))):=by
 have h:(2:Int) ^(8*i)=((2 ^(8*i):Nat):Int):=by norm_cast
 rw[h,Int.fdiv_eq_ediv_of_nonneg _ (Int.natCast_nonneg _),show((m:Nat):Int)/((2 ^(8*i):Nat):Int)=((m/2 ^(8*i):Nat):Int)by norm_cast,qtf]
def qd01(n i:Nat)(h:i<8):Bp 8 (n%2 ^ 64/2 ^(8*i))=Bp 8 (n/2 ^(8*i)):=by
 apply BitVec.eq_of_toNat_eq;rw[C1,C1]
 match i,h with
 |0,_=>simp only[Nat.mul_zero,Nat.pow_zero,Nat.div_one];omega
 |1,_=>simp only[Ag];omega
 |2,_=>simp only[As,Au];omega
 |3,_=>simp only[As,Au];omega
 |4,_=>simp only[As,Au];omega
 |5,_=>simp only[As,Au];omega
 |6,_=>simp only[As,Au];omega
 |7,_=>simp only[As,Au];omega
def q4w{W w:Ab}{F:List Asn}{p:Option B4}{c:Nat}{bs:List UInt8}(T:Rd F p (bs.map qd))(Z:bs.length<=c)(hn:bs.length<=9223372036854775807)(d:St W F w):
 qb Zp 368 #[Zl p bs.length c] w λv w'=>v=Zg (qz2 (sha bs))/\St W F w':=by
 have P:Zw Zk ((Zw Zk (Cg (bs.length:Int) 64))*64)=((qx6 bs.length:Nat):Int):=by rw[Am (by omega),w64 (n:=(bs.length:Int)/64) (by omega) (by omega),w64];unfold qx6;omega
 refine F368_of (zh d λr w d=>(q5q d).of λv w ⟨M,d⟩=>⟨qm4 H0.l,rfl,M,zh d λu w d=>⟨rfl,StA.r 0 d rfl rfl (λv M=>qy5 H0.l v M) λw d=>⟨by decide,?_⟩⟩⟩);rw[P];have d:St W (Row u 500 ((qt5 H0 0 bs).l.map uV)::Row r 411 ((zB 32).map qd)::F) w:=d;refine⟨λvs w=>∃k:Nat,vs=[Zi Zk ((64*k:Nat):Int)]/\k<=bs.length/64/\St W (Row u 500 ((qt5 H0 k bs).l.map uV)::Row r 411 ((zB 32).map qd)::F) w,leftN (bs.length+64),⟨0,rfl,by omega,d⟩,λx w D=>?_⟩;obtain⟨k,A,hk,d⟩:=D;cases A;refine za (λf=>?_) λm=>?_
 .have f:64*k<qx6 bs.length:=by have:=yC f;omega
  have y:64*k+64<=bs.length:=by unfold qx6 at f;omega
  refine⟨StC W _,zd d,SlP.i (a:=64*k) (b:=bs.length) T (by simp) Z rfl rfl (by omega) (Ac _) λR l=>?_⟩;rw[Ag,Ag,<-Bz,<-Bh,A6 (by simp)]at l;have e:bs.length - 64*k=(bs.drop (64*k)).length:=Ap.symm;rw[e];refine qmn ir (i:=0) rfl ((l.cons _).cons _) (by rw[<-e];omega) (by rw[<-e];omega) λw d=>?_;rw[<-q5k]at d;rw[w64];exact⟨⟨k+1,by rw[show((64*k:Nat):Int)+64=((64*(k+1):Nat):Int)by omega],by unfold qx6 at f;omega,d⟩,by show bs.length+64 -(((64*k:Nat):Int)+64).toNat<bs.length+64 -(64*k);omega⟩
 have y:k=bs.length/64:=by have:=yD m;unfold qx6 at this;omega
 subst y;generalize hH:qt5 H0 (bs.length/64) bs=H at d;refine zh d λg w d=>?_;have d:St W (Row g 505 ((zB 128).map qd)::Row u 500 (H.l.map uV)::Row r 411 ((zB 32).map qd)::F) w:=d;refine⟨StC W _,zd d,⟨⟨by decide,by decide,by decide⟩,SlP.i (a:=qx6 bs.length) (b:=bs.length) T (by simp) Z rfl rfl (by unfold qx6;omega) (Ac _) λR l=>?_⟩⟩;rw[Ag,Ag,<-Bz,<-Bh,A6 (by simp)]at l;have l:Rd F R ((qf6 bs).map qd):=l;have C:=q3a bs;have Y:min (bs.length - qx6 bs.length) 128=bs.length%64:=by unfold qx6;omega
 have hC:=z6 W (Row g 505 ((zB 128).map qd)::Row u 500 (H.l.map uV)::Row r 411 ((zB 32).map qd)::F);refine Ef.n (α:=Unit) (V:=λ_=>Zi Zk ((bs.length%64:Nat):Int)) (B:=λ_=>[Row g 505 ((qf6 bs++zB (128 - bs.length%64)).map qd)]) () 0 hC rfl (λG w h=>?_) λ_=>⟨_,rfl,trivial,λG w h=>?_⟩
 .refine q0a (q:=g) (o:=0) (cs:=(qf6 bs).map qd) uB iU8 sU8 h (by simp[zB]) (λj v hj=>((((l.cons _).cons _).app (pts G)).cons _).of h hj) (by rw[A3,C];exact Y.symm) q82 λw' U=>⟨_,rfl,(),by rw[<-Y];rfl,?_⟩;have e:qm1 ((zB 128).map qd) 0 ((qf6 bs).map qd)=(qf6 bs++zB (128 - bs.length%64)).map qd:=by rw[qya];unfold qm1 zB;rw[Az,C8,C3,By,C]
  rw[e]at U;exact z17 0 rfl (B:=[_]) U
 have d:=zb h;have d:St W (Row g 505 ((qf6 bs++zB (128 - bs.length%64)).map qd)::Row u 500 (H.l.map uV)::Row r 411 ((zB 32).map qd)::F) w:=d;refine IxP.row (k:=bs.length%64) rfl (by omega) (z0n 0 d rfl (by simp[C,zB];omega) λw d=>?_);have d:St W (Row g 505 ((qf8 bs 0).map qd)::Row u 500 (H.l.map uV)::Row r 411 ((zB 32).map qd)::F) w:=by rw[qzy,B0];exact d
 refine⟨λvs w=>vs=[Zi Zk ((qc3 bs.length:Nat):Int)]/\St W (Row g 505 ((qf8 bs 0).map qd)::Row u 500 (H.l.map uV)::Row r 411 ((zB 32).map qd)::F) w,za (λh=>?_) λh=>?_,λlast w hJ=>?_⟩
 .have h:=yC h;rw[w64 (n:=((bs.length%64:Nat):Int)+1) (by omega) (by omega),w64]at h;exact⟨by unfold qc3;rw[yB (by omega)];rfl,d⟩
 .have h:=yD h;rw[w64 (n:=((bs.length%64:Nat):Int)+1) (by omega) (by omega),w64]at h;exact⟨by unfold qc3;rw[yA (by omega)];rfl,d⟩
 obtain⟨A,d⟩:=hJ;cases A;have Q:qc3 bs.length=64\/qc3 bs.length=128:=by unfold qc3;split<;>simp
 refine⟨λvs w=>∃i:Nat,vs=[Zi Zk i]/\i<=8/\St W (Row g 505 ((qf8 bs i).map qd)::Row u 500 (H.l.map uV)::Row r 411 ((zB 32).map qd)::F) w,leftN 8,⟨0,rfl,by omega,d⟩,λx w D=>?_⟩;obtain⟨i,A,X,d⟩:=D;cases A;refine za (λf=>?_) λm=>?_
 .have f:i<8:=by have:=yC f;omega
  have e8:Zw Zk (8*(i:Int))=((8*i:Nat):Int):=by rw[w64];omega
  rw[e8];refine⟨by omega,IxP.row (k:=qc3 bs.length - 1 - i) (by rw[w64 (n:=((qc3 bs.length:Nat):Int) - 1) (by omega) (by omega),w64];omega) (by omega) (z0n 0 d rfl (by rw[A3,qdn bs i X];omega) λw d=>?_)⟩;have ev:Zi .u8 (Zw .u8 (Cc (Zw .u64 ((Zw .u64 (bs.length:Int))*8)) (2 ^ min (Bl ((8*i:Nat):Int)) (Ad .u64))))=qd ((qqa bs.length).getD (7 - i) 0):=by
   have N:Zw .u64 (bs.length:Int)=(bs.length:Int):=by show(bs.length:Int)%(2 ^ 64:Int)=_;omega
   have e2:Zw .u64 ((bs.length:Int)*8)=((8*bs.length%2 ^ 64:Nat):Int):=by show((bs.length:Int)*8)%(2 ^ 64:Int)=_;omega
   have e3:min (Bl ((8*i:Nat):Int)) (Ad .u64)=8*i:=by rw[Bg];exact Bq (by show 8*i<=64;omega)
   rw[N,e2,e3,qev,qd01 _ _ f,qaw _ _ f];rfl
  have d:St W (Row g 505 ((qf8 bs (i+1)).map qd)::Row u 500 (H.l.map uV)::Row r 411 ((zB 32).map qd)::F) w:=by rw[qbs bs i f,B0,<-ev];exact d
  rw[up f (by omega)];exact⟨⟨i+1,rfl,by omega,d⟩,by show 8 -(i+1)<8 - i;omega⟩
 have I:i=8:=by have:=yD m;omega
 subst I;have z:=qdn bs 8 (by omega);have L:=q4z bs;generalize hE:qf8 bs 8=E at d z L;refine⟨λvs w=>∃k:Nat,vs=[Zi Zk ((64*k:Nat):Int)]/\64*k<=qc3 bs.length/\St W (Row g 505 (E.map qd)::Row u 500 ((qt5 H k E).l.map uV)::Row r 411 ((zB 32).map qd)::F) w,leftN 256,⟨0,rfl,by omega,d⟩,λx w D=>?_⟩;obtain⟨k,A,hk,d⟩:=D;cases A;refine za (λf=>?_) λm=>?_
 .have f:64*k<qc3 bs.length:=by have:=yC f;omega
  have y:64*k+64<=128:=by omega
  refine⟨StC W _,zd d,SlP.i (n:=128) (c:=128) (a:=64*k) (b:=128) (z0m (b:=g) (t:=505) (all:=E.map qd) (F:=Row u 500 ((qt5 H k E).l.map uV)::Row r 411 ((zB 32).map qd)::F)) (by simp[z]) (Ac _) rfl rfl (by omega) (Ac _) λR l=>?_⟩;rw[Ag,Ag,<-Bz,<-Bh,A6 (by simp[z])]at l;have e:128 - 64*k=(E.drop (64*k)).length:=by rw[Ap,z]
  rw[e];refine qmn ir (i:=1) rfl l (Ac _) (by rw[<-e];omega) λw d=>?_;rw[<-q5k]at d;rw[w64];exact⟨⟨k+1,by rw[show((64*k:Nat):Int)+64=((64*(k+1):Nat):Int)by omega],by omega,d⟩,by show 256 -(((64*k:Nat):Int)+64).toNat<256 -(64*k);omega⟩
 have y:k=qc3 bs.length/64:=by have:=yD m;omega
 subst y;have J:qt5 H (qc3 bs.length/64) E=qqm bs:=by rw[qqu,hH,<-L];have N:E=E.take (qc3 bs.length)++E.drop (qc3 bs.length):=(List.take_append_drop _ _).symm;rw[N,qom _ _ _ _ (by rw[Af,z];omega),<-N]
 rw[J]at d;generalize hs:qqm bs=s at d;refine zh d λb w d=>?_;have d:St W (Row b 411 (((qxa s).take 0++(zB 32).drop 0).map qd)::Row g 505 (E.map qd)::Row u 500 (s.l.map uV)::Row r 411 ((zB 32).map qd)::F) w:=d;refine⟨λvs w=>∃i:Nat,vs=[Zi Zk i]/\i<=32/\St W (Row b 411 (((qxa s).take i++(zB 32).drop i).map qd)::Row g 505 (E.map qd)::Row u 500 (s.l.map uV)::Row r 411 ((zB 32).map qd)::F) w,leftN 32,⟨0,rfl,by omega,d⟩,λx w D=>?_⟩;obtain⟨i,A,X,d⟩:=D;cases A;refine za (λf=>?_) λm=>?_
 .have f:i<32:=by have:=yC f;omega
  have ed:Zw Zk (Cg (i:Int) 4)=((i/4:Nat):Int):=by rw[Am (by omega),w64];omega
  have em:Zw Zk (24 -(Zw Zk ((Int.tmod (i:Int) 4)*8)))=((24 - 8*(i%4):Nat):Int):=by rw[Int.tmod_eq_emod_of_nonneg (by omega),w64 (n:=(i:Int)%4*8) (by omega) (by omega),w64];omega
  have hg:(s.l.map uV)[i/4]?=A7 (Zi .u32 (nI (s.l.getD (i/4) 0))):=by refine q6c ?_;rw[Ak,A4 (by show i/4<8;omega)];rfl
  rw[ed,em];refine⟨by decide,IxP.row rfl (by omega) (z13 2 d rfl hg ⟨by decide,by omega,IxP.row (k:=i) rfl f (z0n 0 d rfl (by simp[qfh,zB];omega) λw d=>?_)⟩)⟩;rw[qdw]at d;have d:St W (Row b 411 (((qxa s).take (i+1)++(zB 32).drop (i+1)).map qd)::Row g 505 (E.map qd)::Row u 500 (s.l.map uV)::Row r 411 ((zB 32).map qd)::F) w:=by rw[<-qlm (qxa s) (zB 32) i (q3w s i f) (by simpa [zB]using f)];exact d
  rw[up f (by omega)];exact⟨⟨i+1,rfl,by omega,d⟩,by show 32 -(i+1)<32 - i;omega⟩
 have I:i=32:=by have:=yD m;omega
 subst I;rw[qgj (qxa s) (zB 32) 32 (by rw[qfh];omega) (by simp[zB])]at d;have O:=qfh s;have K:sha bs=qxa s:=by unfold sha;rw[hs]
 rw[K];refine LdA.r 0 d rfl (by rw[A3,O]) ⟨by simp[O],StA.r 3 d rfl (by simp[O,zB]) (λv M=>q82 v (by simpa using M)) λw4 d=>LdA.r 3 d rfl (by simp[O]) ⟨rfl,?_⟩⟩;exact z0f [_,_,_,_] d
def IxP.byC{W w:Ab}{C:Cls}{l:List Asn}{p:Option B4}{bs:List UInt8}{n k:Nat}{i:Int}{x:UInt8}{K:B4->Prop}(e:Is W C l)(h:Rd l p (bs.map qd))(c:St W l w)(f:i=(k:Int))(j:k<n)(g:bs[k]?=A7 x)
 (m:∀a,(∀G w,C.p G w->w.cell? a=A7 (qd x))->K a):IxP p n i 1 K:=by
 have b:(bs.map qd)[k*1]?=A7 (qd x):=by rw[Ag,Aa,g];rfl
 refine IxP.i h c f j b λa d=>m _ λG w o=>?_;exact(h.app (pts G)).at1 ((e G w).1 o) d b
def QtI.at{C:Cls}{a:B4}{k:IntKind}{x:Int}(h:∀G w,C.p G w->w.cell? a=A7 (.int k x)):Qt C (.int k x) λw K=>LdI k a w λx=>K (.int k x) w:=λG w b=>zt (h G w b) ⟨rfl,b⟩
def z0h:=@QtI.at
def leftZ(n:Nat):List Ae->Ab->Nat:=λvs _=>match vs.head? with
 |some (.slice _ i _)=>n - i
 |_=>0
def q5w:ByteArray:=⟨#[48,49,50,51,52,53,54,55,56,57,97,98,99,100,101,102]⟩
def qjy:∀k:Fin 16,q5w.get! k.val=qd9 k.val:=by decide+kernel
def IxS.hex{i:Int}{k:Nat}{K:UInt8->Prop}(h:i=(k:Int))(a:k<16)(w:K (qd9 k)):IxS q5w i K:=by subst h;refine⟨⟨by omega,by show(k:Int)<16;omega⟩,?_⟩;rw[Bg,qjy ⟨k,a⟩];exact w
def qb01:∀x:Fin 256,Zw .u8 ↑((An (Ad .u8) (x.val:Int)&&& An (Ad .u8) 15).toNat)=((x.val%16:Nat):Int):=by decide+kernel
def shr4:∀x:Fin 256,Cc (x.val:Int) (2 ^ min (Bl 4) (Ad .u8))=((x.val/16:Nat):Int):=by decide+kernel
def set2(A:List UInt8)(m:Nat)(x y:UInt8):((((A++zB (m+2)).map qd).set A.length (qd x)).set (A.length+1) (qd y))=(A++[x,y]++zB m).map qd:=by rw[<-B0,<-B0];congr 1;unfold zB;rw[A9 _ _ (Ac _),Ao,A9 _ _ (by omega),show A.length+1 - A.length=1 by omega];simp[B9]
def qcu(bs:List UInt8)(i:Nat){x:UInt8}(h:bs[i]?=A7 x):q45 (bs.take (i+1))=q45 (bs.take i)++[qd9 (x.toNat/16),qd9 (x.toNat%16)]:=by rw[Aj,h,qnv];rfl
def q8m{W w:Ab}{F:List Asn}{p:Option B4}{c:Nat}{bs:List UInt8}(t:Rd F p (bs.map qd))(D:bs.length<=1000000)(d:St W F w):
 qb Zp 293 #[Zl p bs.length c] w λv w'=>v=Zs (mkS (q45 bs))/\St W F w':=by
 have q:Zw Zk (2*(bs.length:Int))=((2*bs.length:Nat):Int):=by rw[w64];omega
 refine F293_of ?_;rw[q];refine MkS.i d (by omega) (Int.le_refl _) (by omega) (by omega) λb w d=>?_;rw[Bg]at d⊢;have d:St W (Row b 5 ((q45 (bs.take 0)++zB (2*(bs.length - 0))).map qd)::F) w:=by rw[Az,show(q45 []++zB (2*(bs.length - 0))).map qd=A0 (2*bs.length) (Zi .u8 0)by unfold zB q45;simp[qd]];exact d
 refine⟨λvs w=>∃i:Nat,vs=[Zi Zk i]/\i<=bs.length/\St W (Row b 5 ((q45 (bs.take i)++zB (2*(bs.length - i))).map qd)::F) w,leftN bs.length,⟨0,rfl,by omega,d⟩,λx w r=>?_⟩;obtain⟨i,y,C,d⟩:=r;cases y;have g:(q45 (bs.take i)).length=2*i:=by rw[qyb,Af];omega
 refine za (λe=>?_) λj=>?_
 .have e:i<bs.length:=by have:=yC e;omega
  have l:bs[i]?=A7 (bs[i]'e):=A4 _;generalize bs[i]'e=x at l;have o:=qcu bs i l;have f:x.toNat<256:=x.toNat_lt;have z:2*(bs.length - i)=2*(bs.length -(i+1))+2:=by omega
  rw[z]at d;generalize B:q45 (bs.take i)=A at d g o;refine IxP.by_ (t.cons _) d rfl e l λa s=>zt s ?_;have u:=z6 W (Row b 5 ((A++zB (2*(bs.length -(i+1))+2)).map qd)::F);refine⟨StC W _,zd d,by decide,IxS.hex (shr4 ⟨x.toNat,f⟩) (by dsimp only;omega) (IxS.hex (qb01 ⟨x.toNat,f⟩) (by dsimp only;omega) (IxP.row (k:=2*i) (by rw[w64];omega) (by omega) ?_))⟩;refine Ef.st 0 u rfl (by rw[A3,A1,g];unfold zB;rw[A5];omega) ⟨rfl,trivial,IxP.row (k:=2*i+1) (by rw[w64 (n:=2*(i:Int)) (by omega) (by omega),w64];omega) (by omega) ?_⟩;refine Ef.st 0 ir rfl (by rw[List.length_set,A3,A1,g];unfold zB;rw[A5];omega) ⟨rfl,trivial,λG w h=>?_⟩;have d:=zb h;have d:St W (Row b 5 ((q45 (bs.take (i+1))++zB (2*(bs.length -(i+1)))).map qd)::F) w:=by rw[o,<-set2,g];exact d
  rw[up e (by omega)];exact⟨⟨i+1,rfl,by omega,d⟩,by show bs.length -(i+1)<bs.length - i;omega⟩
 have m:i=bs.length:=by have:=yD j;omega
 subst m;rw[Ao,C6]at d;have d:St W (Row b 5 ((q45 bs).map qd)::F) w:=by simpa [zB]using d
 exact qbi uB uU8 uS d z0m (qyb bs) ⟨_,rfl,rfl,d.drop⟩
section
section
variable{P:Program}{W w:World}{r:List Asn}{sT xT ty e:TypeId}{inf:TypeInfo}{z:Value}{size:Nat}{p:Option Addr}{n c m:Nat}{cs xs:List Value}{x:Value}
def qth(i:P.underlying sT=A7 (.slice e))(o:P.underlying xT=A7 .string)(j:P.info? e=A7 inf)(t:inf.size=1)(m:inf.zero=A7 z)(a:z.cells.size=1){l:List UInt8}{F:Ae->Ab->Prop}
 (f:St W (qi e 1 p n c cs::r) w) (q:(n+l.length)*inf.bytes<=140737488355328) (h:((n+l.length:Nat):Int)<=9223372036854775807)
 (g:∀d b w',St W (qi e 1 d (n+l.length) b (cs++l.map qd)::r) w'->F (.slice d (n+l.length) b) w'):
 Run P (Br #[sT,xT] ty #[Zl p n c,Zs (mkS l)]) w F:=
 qgm i (.inl o) j t m a f (λs=>by simp[Builtin.lenOf,qf1]) (λs u=>by
  have k:(mkS l).extract 0 l.length=mkS l:=by apply ByteArray.ext;simp[mkS,ByteArray.data_extract]
  simp only[Ax,k,Sem.run_pure];congr 1;apply Array.ext';simp[mkS,qd,Function.comp_def]) (by simp) q82 q h g
end
end
def Bif.yes{b:Bool}{A B:Prop}(h:b=Ah)(a:A):Bif b A B:=za (λ_=>a) λw=>by rw[h]at w;cases w
def Bif.no{b:Bool}{A B:Prop}(h:b=Bv)(a:B):Bif b A B:=za (λw=>by rw[h]at w;cases w) λ_=>a
def SlP.all{F:List Asn}{p:Option B4}{bs:List UInt8}{n c:Nat}{f:Int}{K:Option B4->Nat->Nat->Prop}(g:Rd F p (bs.map qd))(d:bs.length=n)(i:n<=c)(w:f=(n:Int))(j:∀e,Rd F e (bs.map qd)->K e bs.length c):SlP p n c 1 0 f K:=by refine SlP.i (a:=0) (b:=n) g (by simp[d]) i rfl w (Nat.zero_le _) (Ac _) λe h=>?_;rw[Ce,Cb,Bo,Ag,A6 (by simp[d])]at h;rw[Bo,Bo,<-d];exact j _ h
def SlP.allS{W w:Ab}{l:List Asn}{A:Asn}{p:Option B4}{bs:List UInt8}{n c:Nat}{b:Int}{K:Option B4->Nat->Nat->Prop}(k:Nat)(j:St W l w)(e:nth l k=A7 A)(h:∀F,Rd (A::F) p (bs.map qd))(f:bs.length=n)(g:n<=c)(a:b=(n:Int))(i:∀d,Rd l d (bs.map qd)->K d bs.length c):SlP p n c 1 0 b K:=
 SlP.all (z06 k e h) f g a i
def q7u{W w:Ab}{F:List Asn}{p:Option B4}{c n:Nat}{bs s:List UInt8}(d:sha bs=s)(a:Rd F p (bs.map qd))(b:bs.length=n)(e:n<=c)(f:n<=9223372036854775807)(h:St W F w):
 qb Zp 368 #[Zl p n c] w λv w'=>v=Zg (qz2 s)/\St W F w':=by rw[<-d,<-b];exact q4w a (by omega) (by omega) h
def q731{W:Ab}{C:Cls}{l:List Asn}{p:Option B4}{bs:List UInt8}{n c:Nat}(a:Is W C l)(d:Rd l p (bs.map qd))(b:bs.length=n):
 Qt C (Zs (mkS bs)) (λw K=>Run Zp (convert 22 9 (Zl p n c)) w λv w'=>AsS v λx=>K (Zs x) w'):=λG w h=>
 qbi uB uU8 uS ((a G w).1 h) (d.app (pts G)) b ⟨_,rfl,rfl,h⟩
def IxP.one{W w:Ab}{l:List Asn}{p:Option B4}{cs:List Ae}{n k:Nat}{i:Int}{v:Ae}{K:B4->Prop}(b:Rd l p cs)(h:St W l w)(e:i=(k:Int))(g:k<n)(f:cs[k]?=A7 v)
 (j:∀a,w.cell? a=A7 v->K a):IxP p n i 1 K:=by
 have c:cs[k*1]?=A7 v:=by rw[Ag,f]
 refine IxP.i b h e g c λa d=>j _ ?_;exact b.at1 h d c
def append_none{P:Cf}{w:Ab}{sT xT ty e:B7}{h:TypeInfo}{p sp:Option B4}{n c sc:Nat}{F:Ae->Ab->Prop}(d:P.underlying sT=A7 (.slice e))(g:Src P xT)(f:P.info? e=A7 h)(i:n<=c)
 (b:F (Zl p n c) w):Run P (Br #[sT,xT] ty #[Zl p n c,Zl sp 0 sc]) w F:=by
 have j:(Ax h.size 0 (Zl sp 0 sc)).run P w=.ok (List.toArray []) w:=by
  cases sp with
  |none=>rfl
  |some a=>simp[Ax];rfl
 have:=q84 (P:=P) (w:=w) (w':=w) (p:=p) (n:=n) (m:=0) (c:=c) (xs:=[]) (x:=Zl sp 0 sc) (ty:=ty) d g f rfl i (λs=>rfl) j (by cases p with|none=>exact .inl ⟨rfl,rfl⟩|some a=>exact .inr ⟨a,rfl,rfl⟩);exact⟨_,w,this,b⟩
def append_new{P:Cf}{W w:Ab}{r:List Asn}{sT xT ty e:B7}{h:TypeInfo}{z:Ae}{size:Nat}{p sp:Option B4}{n c m sc:Nat}{cs xs:List Ae}{F:Ae->Ab->Prop}(M:P.underlying sT=A7 (.slice e))(G:Src P xT)(N:P.info? e=A7 h)(Q:h.size=size)(L:h.zero=A7 z)(u:z.cells.size=size)
 (A:St W r w) (R:Rd r p cs) (d:cs.length=n*size) (I:Rd r sp xs) (b:xs.length=m*size) (g:¬n+m<=c) (K:(n+m)*h.bytes<=140737488355328) (o:((n+m:Nat):Int)<=9223372036854775807)
 (E:∀D B w',St W (qi e size D (n+m) B (cs++xs)::r) w'->F (.slice D (n+m) B) w'):
 Run P (Br #[sT,xT] ty #[Zl p n c,Zl sp m sc]) w F:=by
 have rd:∀{q:Option B4} {k c:Nat} {f:List Ae},Rd r q f->f.length=k*size->(Ax size k (Zl q k c)).run P w.drew=.ok f.toArray w.drew:=λ{q k c f} hq hl=>by
  refine qw3 (λj v O=>hq.of A.draws O) hl λJ=>?_;rcases f with _|⟨v,f⟩;.simpa using hl.symm
  .obtain⟨a,C,_⟩:=hq.of A (i:=0) (v:=v) rfl;rw[J]at C;cases C
 have:=qo6 (P:=P) (w:=w) (x:=Zl sp m sc) (n:=n) (m:=m) (c:=c) (ty:=ty) M G N Q L g (λs=>rfl) (rd I b) (rd R d) o (growslice_fits (by omega) K);have l:=grownCap_ge w (n+m) c e;have y:=St.allocRow (St.draws A) (cs.toArray++xs.toArray++Builtin.zeroCells z.cells (grownCap w (n+m) c e -(n+m))) e;refine⟨_,_,this,E _ _ _ (z0x ?_ l ?_ y)⟩
 .have t:=qm5 z.cells (grownCap w (n+m) c e -(n+m));simp only[Array.toList_append,A1,d,b,Array.length_toList,t,u];rw[<-C7,<-C7];congr 1;omega
 .have H:(n+m)*size=(cs++xs).length:=by rw[A1,d,b,C7]
  rw[H];simp only[Array.toList_append];rw[B5 (by simp),A6 (by simp)]
def zm:=@Bif.no
def zn:=@Bif.yes
def z0l:=@IxP.one
def qd4(c:UInt8)(l:List UInt8):List UInt8:=l.map λx=>x ^^^ c
def qn5.lit0{P:Cf}{t:B7}{f:FuncId}{args:List Ae}{w:Ab}{K:Ae->Ab->Prop}(a:q33 P f=Ah)(h:qb P f args.toArray w K):qn5 P t (.func (.func f) #[] #[]) args w K:=
 ⟨f,#[],#[],rfl,a,by simpa using h⟩
def qn5.lit1{P:Cf}{t:B7}{f:FuncId}{x:Ae}{args:List Ae}{w:Ab}{K:Ae->Ab->Prop}(a:q33 P f=Ah)(h:qb P f (x::args).toArray w K):qn5 P t (.func (.func f) #[x] #[]) args w K:=
 ⟨f,#[x],#[],rfl,a,by simpa using h⟩
def q2x(c:UInt8)(l:List UInt8):(qd4 c l).length=l.length:=by simp[qd4]
def qej(k:List UInt8):List UInt8:=if k.length>64 then sha k else k
def qp6(k:List UInt8):List UInt8:=qej k++zB (64 -(qej k).length)
def qbe(k b:List UInt8):List UInt8:=sha (qd4 92 (qp6 k)++sha (qd4 54 (qp6 k)++b))
def q7v(k:List UInt8):(qej k).length<=64:=by
 unfold qej;split;.rw[qgd];omega
 .omega
def qin(k:List UInt8):(qp6 k).length=64:=by have:=q7v k;unfold qp6 zB;rw[A1,A5];omega
def qke(k b:List UInt8):(qbe k b).length=32:=qgd _
def qjz(x c:UInt8):Zw .u8 ↑((An (Ad .u8) (x.toNat:Int) ^^^ An (Ad .u8) (c.toNat:Int)).toNat)=((x ^^^ c).toNat:Int):=qaz x.toBitVec c.toBitVec
def orV(x c:UInt8):Zw .u8 ↑((An (Ad .u8) (x.toNat:Int)|||BitVec.ofInt (Ad .u8) (c.toNat:Int)).toNat)=((x|||c).toNat:Int):=qa01 x.toBitVec c.toBitVec
def qjv{P:List UInt8}{i:Nat}{x c:UInt8}(h:P[i]?=A7 x):(qd4 c P)[i]?=A7 (x ^^^ c):=by unfold qd4;rw[Aa,h];rfl
def qlg{W w:Ab}{F:List Asn}{p:Option B4}{d:Nat}{P b:List UInt8}(c:UInt8)(T:P.length=64)(K:Rd F p (b.map qd))(R:b.length<=d)(U:b.length<=500000)(a:St W F w):
 qb Zp 334 #[Zg (qz2 P),Zi .u8 (c.toNat:Int),Zl p b.length d] w λv w'=>v=Zg (qz2 (sha (qd4 c P++b)))/\St W F w':=by
 have G:=qgd (qd4 c P++b);obtain⟨s,H⟩:∃s,sha (qd4 c P++b)=s:=⟨_,rfl⟩;rw[H]at G⊢;have z:(qz2 s).size=32:=by rw[ql7,G]
 have M:=q2x c P;refine F334_of (zh a λn w a=>zh a λj w a=>?_);have a:St W (Row j 411 ((zB 32).map qd)::Row n 450 (((qd4 c P).take 0++P.drop 0).map qd)::F) w:=a;refine⟨λvs w=>∃i:Nat,vs=[Zi Zk i]/\i<=64/\St W (Row j 411 ((zB 32).map qd)::Row n 450 (((qd4 c P).take i++P.drop i).map qd)::F) w,leftN 64,⟨0,rfl,by omega,a⟩,λx w O=>?_⟩;obtain⟨i,A,V,a⟩:=O;cases A;refine za (λf=>?_) λy=>?_
 .have f:i<64:=by have:=yC f;omega
  have B:P[i]?=A7 (P[i]'(by omega)):=A4 _;generalize P[i]'(by omega)=x at B;have J:(((qd4 c P).take i++P.drop i).map qd)[i]?=A7 (qd x):=by rw[Aa,qgp _ _ _ (by omega),B];rfl
  refine IxP.row (k:=i) rfl f (z13 1 a rfl J (IxP.row (k:=i) rfl f (z0n 1 a rfl (by rw[A3,q4p _ _ _ M];omega) λw a=>?_)));rw[qjz]at a;have a:St W (Row j 411 ((zB 32).map qd)::Row n 450 (((qd4 c P).take (i+1)++P.drop (i+1)).map qd)::F) w:=by rw[<-qlm (qd4 c P) P i (qjv B) (by omega)];exact a
  rw[up f (by omega)];exact⟨⟨i+1,rfl,by omega,a⟩,by show 64 -(i+1)<64 - i;omega⟩
 have E:i=64:=by have:=yD y;omega
 subst E;rw[qgj (qd4 c P) P 64 (by omega) (by omega)]at a;refine SlP.allS 1 a rfl (λF=>z0m) (by omega) (Ac _) rfl λN t=>?_;have m:∀{L:List Asn} {q:Option B4} {e:Nat} {w:Ab},Rd (L++Row j 411 ((zB 32).map qd)::Row n 450 ((qd4 c P).map qd)::F) q ((qd4 c P++b).map qd)->(qd4 c P++b).length<=e->St W (L++Row j 411 ((zB 32).map qd)::Row n 450 ((qd4 c P).map qd)::F) w->
  qb Zp 368 #[Zl q (qd4 c P++b).length e] w λC D=>∃(g:Array Ae),g.size=32/\C=(Zg g)/\Array.size g=32/\StA Zp ⟨j,0,C4⟩ g D λo=>LdA Zp 32 ⟨j,0,C4⟩ o λl=>(λv w'=>v=Zg (qz2 s)/\St W F w') (Zg l) o:=λ{L q e w} hq A a=>by
  refine(q7u H hq rfl A (by rw[A1];omega) a).of λv w ⟨Q,a⟩=>⟨_,z,Q,z,?_⟩;have a:St W (Row j 411 ((zB 32).map qd)::Row n 450 ((qd4 c P).map qd)::F) w:=z0f L a;exact StA.r 0 a rfl (by rw[z];rfl) (q56 _) λw a=>LdA.r 0 a rfl (by rw[Array.length_toList,z]) ⟨rfl,(St.drop (St.drop a))⟩
 have I:(qd4 c P).length+b.length=(qd4 c P++b).length:=by rw[A1]
 by_cases r:b=[]
 .subst r;refine append_none uB (.inr ⟨_,uB⟩) iU8 (by omega) ⟨_,_,_,rfl,?_⟩;have:=m (L:=[]) (q:=N) (e:=64) (by rw[Ai];exact t) (by rw[Ai];omega) a;rw[Ai]at this;rw[Ai]at m;exact this
 .have u:¬(qd4 c P).length+b.length<=64:=by have:b.length≠0:=λh=>r (List.eq_nil_of_length_eq_zero h);omega
  refine append_new uB (.inr ⟨_,uB⟩) iU8 sU8 zU8 rfl a (cs:=(qd4 c P).map qd) (xs:=b.map qd) t (by simp) ((K.cons _).cons _) (by simp) u (by rw[bU8];omega) (by omega) λq e w a=>⟨_,_,_,rfl,?_⟩;rw[<-Bs,I]at a;rw[I];exact m (L:=[_]) (z0j _) (qi.le a).2 a
def qrt(k:List UInt8)(h:k.length<=64):qm1 ((zB 64).map qd) 0 (k.map qd)=(k++zB (64 - k.length)).map qd:=by rw[qya];unfold qm1 zB;rw[Az,C8,C3,By]
def q9y{W w:Ab}{F:List Asn}{p:Option B4}{d:Nat}{k:List UInt8}(A:Rd F p (k.map qd))(C:k.length<=d)(G:k.length<=9223372036854775807)(a:St W F w):
 qb Zp 335 #[Zl p k.length d] w λv w'=>v=Zg (qz2 (qp6 k))/\St W F w':=by
 refine F335_of (zh a λf w a=>zh a λb w a=>?_);have a:St W (Row b 450 ((zB 64).map qd)::Row f 450 ((zB 64).map qd)::F) w:=a;have c:=qin k;have l:∀{L:List Asn} {w:Ab},St W (Row b 450 ((qp6 k).map qd)::(L++Row f 450 ((zB 64).map qd)::F)) w->
  LdA Zp 64 ⟨b,0,C4⟩ w λg=>Array.size g=64/\StA Zp ⟨f,0,C4⟩ g w λm=>LdA Zp 64 ⟨f,0,C4⟩ m λe=>(λv w'=>v=Zg (qz2 (qp6 k))/\St W F w') (Zg e) m:=λ{L w} a=>by
  have y:(qz2 (qp6 k)).size=64:=by rw[ql7,c]
  refine LdA.r 0 a rfl (by rw[A3,c]) ⟨y,?_⟩;have a:=z0f L a.drop;exact StA.r 0 a rfl (y.trans (by simp[zB])) (q56 _) λw a=>LdA.r 0 a rfl (by simp[c]) ⟨rfl,a.drop⟩
 refine za (λh=>?_) λh=>?_
 .have h:=yC h;have n:=qgd k;have r:qp6 k=sha k++zB (64 -(sha k).length):=by unfold qp6 qej;rw[yB (by omega)]
  obtain⟨s,B⟩:∃s,sha k=s:=⟨_,rfl⟩;rw[B]at n r;have z:(qz2 s).size=32:=by rw[ql7,n]
  refine(q7u B ((A.cons _).cons _) rfl C (by omega) a).of λv w ⟨E,a⟩=>⟨_,z,E,zh a λi w a=>⟨z,StA.r 0 a rfl (by rw[z];rfl) (q56 _) λw a=>?_⟩⟩;have a:St W (Row i 411 (s.map qd)::Row b 450 ((zB 64).map qd)::Row f 450 ((zB 64).map qd)::F) w:=a;refine SlP.allS 0 a rfl (λF=>z0m) n (Ac _) rfl λD u=>⟨⟨by decide,by decide,by decide⟩,?_⟩;have t:Rd (Row b 450 ((zB 64).map qd)::Row i 411 (s.map qd)::Row f 450 ((zB 64).map qd)::F) D (s.map qd):=u.perm (List.Perm.swap _ _ _);refine q0a (q:=b) (o:=0) (cs:=s.map qd) uB iU8 sU8 a.p1 (by simp[zB]) (λj v x=>t.of a.p1 x) (by rw[A3,n];rfl) q82 λw' a=>⟨_,rfl,?_⟩;rw[qrt s (by omega),<-r]at a;exact l (L:=[_]) a
 .have h:=yD h;have r:qp6 k=k++zB (64 - k.length):=by unfold qp6 qej;rw[yA (by omega)]
  refine⟨⟨by decide,by decide,by decide⟩,?_⟩;refine q0a (q:=b) (o:=0) (cs:=k.map qd) uB iU8 sU8 a (by simp[zB]) (λj v x=>((A.cons _).cons _).of a x) (by rw[A3];show k.length=min k.length 64;omega) q82 λw' a=>⟨_,rfl,?_⟩;rw[qrt k (by omega),<-r]at a;exact l (L:=[]) a
def qtw{W w:Ab}{F:List Asn}{p q:Option B4}{d e:Nat}{k b:List UInt8}(r:Rd F p (k.map qd))(I:k.length<=d)(J:k.length<=9223372036854775807)(E:Rd F q (b.map qd))(z:b.length<=e)(K:b.length<=500000)(a:St W F w):
 qb Zp 292 #[Zl p k.length d,Zl q b.length e] w λv w'=>v=Zg (qz2 (qbe k b))/\St W F w':=by
 have c:=qin k;have l:=qgd (qd4 54 (qp6 k)++b);obtain⟨f,g⟩:∃s,sha (qd4 54 (qp6 k)++b)=s:=⟨_,rfl⟩;rw[g]at l;have H:qbe k b=sha (qd4 92 (qp6 k)++f):=by unfold qbe;rw[g]
 have n:=qke k b;have A:(qz2 f).size=32:=by rw[ql7,l]
 have z2:(qz2 (qbe k b)).size=32:=by rw[ql7,n]
 have x:(qz2 (qp6 k)).size=64:=by rw[ql7,c]
 have y:∀{F:List Asn} {w:Ab},Rd F q (b.map qd)->St W F w->qb Zp 334 #[Zg (qz2 (qp6 k)),Zi .u8 54,Zl q b.length e] w λv w'=>v=Zg (qz2 f)/\St W F w':=λr h=>by rw[<-g];exact qlg 54 c r z K h
 have j:∀{F:List Asn} {w:Ab} {q:Option B4} {e:Nat},Rd F q (f.map qd)->f.length<=e->St W F w->qb Zp 334 #[Zg (qz2 (qp6 k)),Zi .u8 92,Zl q f.length e] w λv w'=>v=Zg (qz2 (qbe k b))/\St W F w':=λr z h=>by rw[H];exact qlg 92 c r z (by omega) h
 generalize qbe k b=m at n z2 j⊢;clear H g;refine F292_of (zh a λt w a=>(q9y (r.cons _) I J a).of λv w ⟨u,a⟩=>⟨_,x,u,zh a λo w a=>⟨x,StA.r 0 a rfl (by rw[x];rfl) (q56 _) λw a=>?_⟩⟩);generalize qp6 k=P at*;have a:St W (Row o 450 (P.map qd)::Row t 411 ((zB 32).map qd)::F) w:=a;refine LdA.r 0 a rfl (by rw[A3,c]) ?_;refine .inl (qn5.lit0 (by kernel_rfl) ?_);refine(y ((E.cons _).cons _) a).of λv w ⟨u,a⟩=>⟨_,A,u,zh a λi w a=>⟨A,StA.r 0 a rfl (by rw[A];rfl) (q56 _) λw a=>?_⟩⟩;have a:St W (Row i 411 (f.map qd)::Row o 450 (P.map qd)::Row t 411 ((zB 32).map qd)::F) w:=a;have C:=z6 W (Row i 411 (f.map qd)::Row o 450 (P.map qd)::Row t 411 ((zB 32).map qd)::F);refine⟨StC W _,zd a,SlP.allS 0 a rfl (λF=>z0m) l (Ac _) rfl λL D=>⟨qz2 P,x,QtA.r 1 C rfl (by rw[A3,c]),?_⟩⟩;refine zk (α:=Unit) (V:=λ_=>Zg (qz2 m)) (B:=λ_=>Row i 411 (f.map qd)::Row o 450 (P.map qd)::Row t 411 ((zB 32).map qd)::F) () C (λG w h=>qn5.lit0 (by kernel_rfl) ((j (D.app (pts G)) (by omega) h).of λv w' ⟨u,h⟩=>⟨_,z2,u,(),rfl,h⟩)) λ_=>⟨_,z2,rfl,trivial,?_⟩;refine Ef.stA 2 C rfl z2 (by rw[z2];rfl) (q56 _) ⟨rfl,trivial,λG w h=>?_⟩;have a:=zb h;have a:St W (Row i 411 (f.map qd)::Row o 450 (P.map qd)::Row t 411 (m.map qd)::F) w:=a;exact LdA.r 2 a rfl (by rw[A3,n]) ⟨rfl,z0f [_,_,_] a⟩
section
open Go Go.ChangeShapes Go.WideShapes Go.ChangeAt Go.RowKit
def laid:laidOutB Zp=Ah:=by kernel_rfl
section
variable{H:Type}{enc:TypeId×Value->H}{P:Program}{W:World}{base:Nat}{spare:Nat->Bool}{held:Bool}
def qju{α:Type}[Inhabited α](f:α->List Ae)(Ok:α->Prop){t e:B7}{k qma:Nat}{cs:List Ae}{x:Ch H×List Bw}(L:P.underlying t=A7 (.slice e))(l:P.cellsOf e=k)(F:0<k)(K:∀x,(f x).length=k)
 (q:∀n d y,d.length=k->C2 enc P W base spare held n e d=A7 y->∃o,d=f o/\Ok o) (h:C2 enc P W base spare held qma t cs=A7 x):
 ∃(p:Option B4) (os:List α) (c:Nat),cs=[.slice p os.length c]/\os.length<=c/\c<=9223372036854775807/\Rd [q65 W] p (os.flatMap f)/\∀o∈os,Ok o:=by
 rcases Deep.open_slice L h with ⟨rfl,rfl⟩|⟨a,len,cap,m,n,D,V,rfl,_,A,B,R,rfl,u⟩
 .exact⟨C4,[],0,rfl,Ac _,by omega,Rd.nil _ _,λo w=>by cases w⟩
 .have M:len<=m:=by rw[R];split<;>omega
  obtain⟨g,E⟩:=Deep.choose_lt (n:=len) (p:=λi o=>(∀j,j<k->W.cell? ((a.add (i*k)).add j)=(f o)[j]?)/\Ok o) λi s=>by obtain⟨d,z,J⟩:=u i (by omega);obtain⟨_,C,Q⟩:=World.cells?_some z;rw[l]at C;obtain⟨o,rfl,w⟩:=q _ _ _ C J;exact⟨o,λj U=>by have:=Q j (by rw[l];exact U);rwa[l]at this,w⟩
  have G:((Ca len).map g).length=len:=by simp
  refine⟨A7 a,(Ca len).map g,cap,by rw[G],by rw[G];exact A,B,?_,λo w=>?_⟩
  .intro Hp hH i v s;refine⟨a,rfl,?_⟩;rw[qrd f k F K]at s;obtain⟨o,w,T⟩:=Option.bind_eq_some_iff.1 s;rw[Aa]at w;have r:i/k<len:=by
    rcases Ay (i/k) len with h|h;.exact h
    .rw[A8 (by simpa using h)]at w;cases w
   rw[Ar r]at w;cases w;have z:=(E _ r).1 (i%k) (Nat.mod_lt _ F);rw[T,Addr.add_add,show i/k*k+i%k=i by rw[Nat.mul_comm];exact Nat.div_add_mod i k]at z;obtain⟨X,I,O,_⟩:=hH;exact q26 I (q26 (h:=qff W) (λb o N=>O b o N) z)
  .obtain⟨i,s,rfl⟩:=Bn.1 w;exact(E i (by simpa using s)).2
def qw21{k:IntKind}{t:B7}{qma:Nat}{cs:List Ae}{x:Ch H×List Bw}(a:P.underlying t=A7 (.int k))(h:C2 enc P W base spare held qma t cs=A7 x):∃n,cs=[.int k n]/\(Lit.int k n).wf=Ah:=by obtain⟨x,b,_,w⟩:=DataW.trod_int a h;exact⟨x,b,w⟩
def qbp{t:B7}{qma:Nat}{cs:List Ae}{x:Ch H×List Bw}(a:P.underlying t=A7 .string)(h:C2 enc P W base spare held qma t cs=A7 x):∃s,cs=[.string s]/\s.size<=9223372036854775807:=by obtain⟨s,b,_,w⟩:=DataW.trod_string a h;exact⟨s,b,w⟩
def qt11{r:_root_.Go.Reach}{c:Nat}{t:B7}{v:Ae}{d:Ch H}{f:List Bw}(a:P.underlying t=A7 .string)(w:Value.okWide P W r c t v)(h:DataW.Trod enc P W base spare held t v d f):
 ∃s,v=.string s/\s.size<=9223372036854775807:=by
 obtain⟨s,rfl⟩:=okWide_string a w;obtain⟨qma,e⟩:=h;obtain⟨s',b,g⟩:=qbp a e;simp[Value.cells]at b;subst b;exact⟨s,rfl,g⟩
end
section
variable{H:Type}{enc:TypeId×Value->H}{P:Program}
def qvj(f:laidOutB P=Ah){W g:Ab}{sp:Nat->Bool}(i:Below W.heap.size W g):∀{ts:List B7} {vs:List Ae} {c:List (Ch H)} {a:List Bw},(∀t∈ts,P.readableRec t=Ah/\t<P.types.size)->(∀x∈a,x.block<W.heap.size)->(∀x∈a,sp x.block=Ah)->
 B3 enc P W 0 (λ_=>Ah) Ah ts vs c a->B3 enc P g 0 sp Ah ts vs c a
 |[],vs,c,a,_,_,_,h=>by obtain⟨rfl,rfl,rfl⟩:=trodAll_nil h;exact rfl
 |t::ts,vs,c,a,e,b,j,h=>by
  obtain⟨v,l,d,n,p,q,rfl,rfl,rfl,o,k⟩:=trodAll_cons h;exact trodAll_cons_mk (WideElems.Trod_stays f (e t Bb).1 (e t Bb).2 o (λx w=>i.same (b x (B6 _ w))) λx w=>j x (B6 _ w))
   (qvj f i (λt m=>e t (Bx _ m)) (λx w=>b x (Bu _ w)) (λx w=>j x (Bu _ w)) k)
def quw(M:laidOutB P=Ah){f:Func}{s:ChangeSpec}{tb:B7}{c i a j:Bool}{W u:Ab}{args:Array Ae}{g gs:List (Ch H)}{d:List Bw}
 (I:DataW.Whole enc P f.params.toList s.vars c W args.toList g gs d) (w:s.vars=[]) (F:∀o,o=[]->s.fn H (g++o)={ results:=[.lit (.bool Ah)],args:=g}) (e:f.resultTypes=#[tb]) (l:P.underlying tb=A7 .bool)
 (A:∀t∈f.params.toList,P.readableRec t=Ah/\t<P.types.size) (G:Below W.heap.size W u):s.post enc P f c i a j W args (.bool Ah) u:=by
 have r:=I.lt;have J:=I;obtain⟨p,q,L,hV,rfl,B,C⟩:=I;rw[w]at hV;obtain⟨rfl,rfl⟩:=trodVars_none hV;have D:B3 enc P W 0 (λ_=>Ah) Ah f.params.toList args.toList g p:=L;have h:=F [] rfl;have v:∀x∈p,x.block<W.heap.size:=λx m=>r x (B6 _ m);have y:∀(b:Nat) (sp:Nat->Bool) (K:Bool),B3 enc P u b sp K f.resultTypes.toList ((Zb Ah).resultList f.resultTypes.size) (s.fn H (g++[])).results []:=λb sp K=>by rw[h,e];exact trodAll_cons_mk (shut_bool l _) trodAll_mk0
 have arg:∀sp:Nat->Bool,(∀x∈p,sp x.block=Ah)->B3 enc P u 0 sp Ah f.params.toList args.toList (s.fn H (g++[])).args p:=λsp E=>by rw[h];exact qvj M G A v E D
 have k:∀sp:Nat->Bool,DataW.TrodVars enc P u sp s.vars (s.fn H (g++[])).vars []:=λsp=>by rw[h,w];exact rfl
 refine⟨g,[],p++[],[],p,[],J,y _ _ _,arg _ (λx m=>by simpa using v x m),k _,G.frame _,λ_=>⟨ok_one e rfl (okWide_bool_mk l _),_,_,([]++p)++[],⟨[]++p,[],trodAll_append (arg _ (λ_ _=>rfl)) (y _ _ _),k _,rfl,?_,?_⟩,?_⟩⟩
 .intro b z O;have n:MemPlace.cell b z∈p++[]:=by simpa using O
  have:=r _ n;rw[G.frozen this];exact B b z n
 .intro N;have:=C N;simpa using this
 .intro x m _;simpa using m
end
end
def qc8(s:List UInt8):Ae:=Zs (mkS s)
def q25(s:List UInt8):List UInt8:=UInt8.ofNat s.length::s
def qj5(ws:List (List UInt8)):List UInt8:=ws.flatMap q25
def qib(ws:List (List UInt8)):Bool:=ws.all λs=>decide (s.length<=255)
def q07(k:List UInt8)(ws:List (List UInt8)):List UInt8:=if qib ws=Ah then q45 (qbe k (qj5 ws))else []
def qb6(ws:List (List UInt8)):Nat:=(ws.map λs=>s.length+1).sum
def q1i(ws:List (List UInt8)):(qj5 ws).length=qb6 ws:=by
 induction ws with
 |nil=>rfl
 |cons s r h=>unfold qj5 qb6 at*;rw[List.flatMap_cons,A1,h];simp[q25]
def qpo(ws:List (List UInt8))(i:Nat){s:List UInt8}(h:ws[i]?=A7 s):qj5 (ws.take (i+1))=qj5 (ws.take i)++q25 s:=by unfold qj5;rw[Aj,h,List.flatMap_append];simp
def qrx(l:List UInt8)(h:l.length<=255):Zi .u8 (Zw .u8 (l.length:Int))=qd (UInt8.ofNat l.length):=by unfold qd;rw[UInt8.toNat_ofNat_of_lt' (by show l.length<256;omega)];congr 1;show(l.length:Int)%(2 ^ 8:Int)=_;omega
def qlk{W w:Ab}{F:List Asn}(l:List UInt8)(h:l.length<=255)(a:St W F w):
 qb Zp 96 #[Zs (mkS l)] w λv w'=>∃p c,v=Zl p (q25 l).length c/\St W (qi 5 1 p (q25 l).length c ((q25 l).map qd)::F) w':=by
 refine F96_of ?_;rw[qf1,qrx l h];refine zm (yH (by omega)) (zh a λb w a=>?_);have a:St W (qi 5 1 (A7 ⟨b,0,C4⟩) 1 1 [qd (UInt8.ofNat l.length)]::F) w:=qi.whole rfl a;refine qth uB uS iU8 sU8 zU8 rfl a (by rw[bU8];omega) (by omega) λp c w a=>⟨_,_,_,rfl,p,c,?_,?_⟩;.rw[show(q25 l).length=1+l.length by simp[q25];omega]
 .rw[show(q25 l).length=1+l.length by simp[q25];omega];exact a
def qjo{ws:List (List UInt8)}{i:Nat}{s:List UInt8}(h:ws[i]?=A7 s)(w:¬s.length<=255):qib ws=Bv:=by unfold qib;rw[List.all_eq_false];exact⟨s,List.mem_of_getElem? h,by simpa using w⟩
def qxh{ws:List (List UInt8)}(h:∀s∈ws,s.length<=255):qib ws=Ah:=by unfold qib;rw[List.all_eq_true];intro s w;simpa using h s w
def qql{ws:List (List UInt8)}{i:Nat}{s:List UInt8}(h:ws[i]?=A7 s)(a:∀s∈ws.take i,s.length<=255)(b:s.length<=255):∀s∈ws.take (i+1),s.length<=255:=λx w=>by
 rw[Aj,h]at w;rcases Bt.1 w with w|w;.exact a x w
 .simp at w;subst w;exact b
def q8v{ws:List (List UInt8)}{i:Nat}{s:List UInt8}(h:ws[i]?=A7 s):(ws.map qc8)[i]?=A7 (Zs (mkS s)):=by rw[Aa,h];rfl
def q8e:∀{ws:List (List UInt8)},(∀s∈ws,s.length<=255)->qb6 ws<=256*ws.length
 |[],_=>by simp[qb6]
 |s::r,h=>by have a:=q8e (ws:=r) λx w=>h x (Bx _ w);have b:=h s Bb;unfold qb6 at a⊢;simp only[Cd,List.sum_cons,Bm];omega
def qqe{W w:Ab}{F:List Asn}{p q:Option B4}{d e:Nat}{k:List UInt8}{ws:List (List UInt8)}(K:Rd F p (k.map qd))(J:k.length<=d)(R:k.length<=9223372036854775807)(A:Rd F q (ws.map qc8))(P:ws.length<=1000)(f:St W F w):
 qb Zp 241 #[Zl p k.length d,Zl q ws.length e] w λv w'=>v=Zs (mkS (q07 k ws))/\St W F w':=by
 refine F241_of ⟨λvs w=>∃p i c,vs=[Zl p (qj5 (ws.take i)).length c,Zi Zk ((i:Nat):Int)]/\i<=ws.length/\(∀s∈ws.take i,s.length<=255)/\St W (qi 5 1 p (qj5 (ws.take i)).length c ((qj5 (ws.take i)).map qd)::F) w,leftN ws.length,⟨C4,0,0,rfl,by omega,by simp,z1a _ _ _ f⟩,λO Y c1 x w L=>?_⟩;obtain⟨Q,i,T,I,V,r,f⟩:=L;cases I;have C:=q1i (ws.take i);have t:=q8e r;rw[Af]at t;refine za (λg=>?_) λy=>?_
 .have g:i<ws.length:=by have:=yC g;omega
  have j:ws[i]?=A7 (ws[i]'g):=A4 _;generalize ws[i]'g=s at j;refine z0l (A.cons _) f rfl g (q8v j) λa D=>z0p D ?_;rw[qf1];refine za (λh=>?_) λh=>?_
  .have h:=yC h;unfold q07;rw[qjo j (by omega)];exact⟨rfl,f.drop⟩
  have h:=yD h;refine(qlk s (by omega) f).of λv w ⟨Z,U,l,f⟩=>⟨_,_,_,l,?_⟩;have u:=qpo ws i j;have H:=q1i (ws.take (i+1));have o:=q8e (qql j r (by omega));rw[Af]at o;have n:(qj5 (ws.take (i+1))).length=(qj5 (ws.take i)).length+(q25 s).length:=by rw[u,A1]
  refine qp8 uB (.inr ⟨_,uB⟩) iU8 sU8 zU8 rfl f.p1 (xs:=(q25 s).map qd) (z0j F) (by simp) q82 (by rw[bU8];omega) (by omega) λM N w f=>⟨_,_,_,rfl,?_⟩;rw[<-Bs,<-u,<-n]at f;rw[up g (by omega),<-n];exact⟨⟨M,i+1,N,rfl,by omega,qql j r (by omega),f.p1.drop⟩,by show ws.length -(i+1)<ws.length - i;omega⟩
 have G:i=ws.length:=by have:=yD y;omega
 subst G;rw[C6]at f r C t⊢;have B:=qke k (qj5 ws);refine(qtw (K.cons _) J (by omega) (z0j F) (qi.le f).2 (by omega) f).of λv w ⟨l,f⟩=>?_;unfold q07;rw[yB (qxh r)];generalize qbe k (qj5 ws)=m at B l⊢;have z:(qz2 m).size=32:=by rw[ql7,B]
 refine⟨_,z,l,zh f λb w f=>⟨z,StA.r 0 f rfl (by rw[z];rfl) (q56 _) λw f=>?_⟩⟩;have f:St W (Row b 411 (m.map qd)::qi 5 1 O (qj5 ws).length c1 ((qj5 ws).map qd)::F) w:=f;refine SlP.allS 0 f rfl (λF=>z0m) B (Ac _) rfl λX E=>?_;exact(q8m E (by omega) f).of λv w ⟨l,f⟩=>⟨_,l,rfl,z0f [_,_] f⟩
structure qk1 where
 k:Int
 A:ByteArray
 B:ByteArray
 N:Int
 M:Int
deriving DecidableEq,Inhabited
structure qm6 where
 k:Int
 line:Int
 m:qk1
deriving DecidableEq,Inhabited
abbrev ql2(m:qk1):Ae:=Zg #[Zi Zk m.k,Zs m.A,Zs m.B,Zi Zk m.N,Zi Zk m.M]
def qia(a:qm6):List Ae:=[Zi Zk a.k,Zi Zk a.line,Zi Zk a.m.k,Zs a.m.A,Zs a.m.B,Zi Zk a.m.N,Zi Zk a.m.M]
def uInt:Zp.underlying 3=A7 (.int Zk):=Tryz.underlying3
def eqF(d:Nat)(xs h:Array Ae):List (Bool×B7×Nat)->Sem Bool
 |[]=>pure Ah
 |f::fs=>match f.1 with
  |true=>do
   let a <-part f.2.1 xs f.2.2;let b <-part f.2.1 h f.2.2;let r <-Bc d f.2.1 a b
   if(!r)=Ah then pure Bv else eqF d xs h fs
  |false=>eqF d xs h fs
def qhm(f:Field):Bool×B7×Nat:=(decide (f.name≠ "_"),f.type,f.offset)
def qhh(d:Nat)(xs a:Array Ae):∀w:List Field,Ci d xs a w=eqF d xs a (w.map qhm)
 |[]=>rfl
 |f::w=>by
  have b:=qhh d xs a w;simp only[Ci,Cd,eqF,qhm];by_cases h:f.name≠ "_"
  .rw[yB h,yG h];simp only[b]
  .rw[yA h,yH h,b]
def qjr:Zp.plainKey 3=Ah:=by kernel_rfl
def pS:Zp.plainKey 9=Ah:=by kernel_rfl
def qow(a b:Int):(a==b)=decide (a=b):=by rw[Bool.eq_iff_iff];simp
def qex:∃a b c,Zp.underlying 211=A7 (.func a b c):=⟨_,_,_,Tryz.underlying211⟩
def qce(t:B7)(x y:Ae)(h:(∃f a b,x=.func f a b)\/x=.nilFunc)(c:y=.nilFunc)(w:Ab):(binOp .eql t x y).run Zp w=((Bc 10000 t x y).run Zp w).andThen λb w'=>.ok (Zb b) w':=by subst c;rcases h with ⟨f,a,b,rfl⟩|rfl<;>(simp only[binOp];simp[Op.equal,Op.maxDepth])
def qbr(d:Nat)(f:Fn)(x y:Array Ae)(w:Ab):(Bc (d+1) 211 (.func f x y) .nilFunc).run Zp w=.ok Bv w:=by obtain⟨a,b,c,h⟩:=qex;simp[Bc,run_underlying h]
def q7s(d:Nat)(w:Ab):(Bc (d+1) 211 .nilFunc .nilFunc).run Zp w=.ok Ah w:=by obtain⟨a,b,c,h⟩:=qex;simp[Bc,run_underlying h]
def q6i{h d:Cj}{x:Ae}(c:(∃f a b,x=.func f a b)\/x=.nilFunc)(w:Ab):(eqGuard .eql 211 h d x .nilFunc).run Zp w=.ok () w:=by rcases c with ⟨f,a,b,rfl⟩|rfl<;>rfl
def qv01{h a:Cj}(f:Fn)(x y:Array Ae)(w:Ab):Sem.run Zp (do eqGuard .eql 211 h a (.func f x y) Av;binOp .eql 211 (.func f x y) Av) w=.ok (Zb Bv) w:=by simp only[Sem.run_bind,q6i (.inl ⟨f,x,y,rfl⟩) w,Result.andThen_ok,qce _ _ _ (.inl ⟨f,x,y,rfl⟩) rfl];rw[show(10000:Nat)=9999+1 from rfl,qbr];rfl
def qbz{h a:Cj}(w:Ab):Sem.run Zp (do eqGuard .eql 211 h a Av Av;binOp .eql 211 Av Av) w=.ok (Zb Ah) w:=by simp only[Sem.run_bind,q6i (.inr rfl) w,Result.andThen_ok,qce _ _ _ (.inr rfl) rfl];rw[show(10000:Nat)=9999+1 from rfl,q7s];rfl
structure qe1 where
 ten:ByteArray
 tok:ByteArray
 sec:ByteArray
 nam:ByteArray
 ttl:Int
 every:Int
structure LD where
 b:Nat
 no:Int
 tk:ByteArray
 st:Nat
structure AG where
 held:Bool
 epoch:Int
 last:Int
 next:Int
 L:List LD
def e0:ByteArray:=⟨#[]⟩
def qm(s:ByteArray):List UInt8:=s.data.toList
def qt7(P:qe1)(x:ByteArray):ByteArray:=mkS (q07 (qm P.sec) [qm P.ten,qm P.tok,qm x])
def q73(no:Int)(m:qk1):qm6:=⟨2,no,m⟩
def qwf(no:Int):qm6:=⟨1,no,⟨0,e0,e0,0,0⟩⟩
def q7a(P:qe1):qk1:=⟨1,P.ten,P.tok,0,0⟩
def q27(P:qe1):qk1:=⟨6,P.nam,e0,P.ttl,0⟩
def maxN:Int:=1099511627776
def q14(now:Int):Prop:=0<=now/\now<=maxN
instance (n:Int):Decidable (q14 n):=by unfold q14;infer_instance
def qg2(G:AG)(no:Int):Option LD:=G.L.find? λd=>decide (d.no=no)
def setSt(G:AG)(no:Int)(st:Nat):AG:={ G with L:=G.L.map λd=>if d.no=no then { d with st:=st}else d}
def qp4(P:qe1)(G:AG)(no:Int)(tk:ByteArray)(b:Nat):AG×List qm6:=({ G with L:=G.L++[⟨b,no,tk,0⟩]},[qwf no,q73 no (q7a P)])
def qo3(P:qe1)(G:AG)(b:Nat):AG×List qm6:=if(qg2 G 0).isSome then(G,[])else qp4 P G 0 e0 b
def qe2(P:qe1)(G:AG)(m:qk1)(now:Int)(b:Nat):AG×List qm6:=
 if m.A=P.nam/\m.k=7 then({ G with held:=Ah,epoch:=m.N,last:=now},[])
 else if m.A=P.nam/\m.k=10/\G.held=Ah/\m.N=G.epoch then({ G with held:=Bv,epoch:=0},[q73 0 (q27 P)])
 else if m.A=P.nam/\m.k=11/\G.next<1000 then qp4 P { G with next:=G.next+1} G.next m.B b
 else(G,[])
def q22(P:qe1)(G:AG)(no:Int)(m:qk1)(now:Int)(b:Nat):AG×List qm6:=
 match qg2 G no with
 |none=>(G,[])
 |some d=>
  if d.st=3\/¬q14 now then(G,[])
  else if d.st=0 then(if m.k=2 then(setSt G no 1,[q73 no ⟨3,qt7 P m.A,e0,0,0⟩])else(G,[]))
  else if d.st=1 then(if m.k=4 then(if no=0 then(setSt G no 2,[q73 0 (q27 P)])else(setSt G no 3,[q73 no ⟨12,e0,d.tk,0,0⟩]))else(G,[]))
  else qe2 P G m now b
def qh5(G:AG)(no:Int):Bool:=match qg2 G no with
 |none=>Bv
 |some d=>decide (2<=d.st)
def qd3(P:qe1)(G:AG)(now:Int)(b:Nat):AG×List qm6:=
 if(qg2 G 0).isNone then qo3 P G b
 else if qh5 G 0=Ah/\G.held=Ah/\q14 now/\¬now - G.last<P.every then({ G with last:=now},[q73 0 ⟨8,P.nam,e0,G.epoch,P.ttl⟩])
 else(G,[])
def qn6(G:AG)(no:Int):AG×Bool:=
 if(qg2 G no).isNone then(G,Bv)
 else if no=0 then({ G with L:=[],held:=Bv,epoch:=0},Ah)
 else({ G with L:=G.L.filter λd=>decide (d.no≠no)},Ah)
structure AOk(G:AG):Prop where
 nod:(G.L.map (·.no)).Nodup
 nos:∀d∈G.L,0<=d.no/\d.no<G.next
 sts:∀d∈G.L,d.st<=3/\(d.st=2->d.no=0)/\(d.st=3->d.no≠0)
 next:1<=G.next/\G.next<=1000
 last:q14 G.last
def AOk.new:AOk ⟨Bv,0,0,1,[]⟩:=⟨.nil,by simp,by simp,by simp,by decide⟩
def q36{G:AG}{no:Int}{d:LD}(h:qg2 G no=A7 d):d∈G.L/\d.no=no:=by unfold qg2 at h;exact⟨List.mem_of_find?_eq_some h,by simpa using List.find?_some h⟩
def qwc{G:AG}{no:Int}:qg2 G no=C4↔∀d∈G.L,d.no≠no:=by unfold qg2;rw[List.find?_eq_none];simp
def q5u(G:AG)(no:Int)(st:Nat):(setSt G no st).L.map (·.no)=G.L.map (·.no):=by unfold setSt;rw[List.map_map];refine List.map_congr_left λd _=>?_;simp only[Function.comp_apply];split<;>rfl
def qpj{G:AG}{no:Int}{st:Nat}{d:LD}(h:d∈(setSt G no st).L):∃d0∈G.L,d.no=d0.no/\d.tk=d0.tk/\((d0.no=no/\d.st=st)\/(d0.no≠no/\d=d0)):=by
 unfold setSt at h;obtain⟨d0,w,rfl⟩:=Bn.1 h;refine⟨d0,w,?_⟩;split;.rename_i e;exact⟨rfl,rfl,.inl ⟨e,rfl⟩⟩
 .rename_i e;exact⟨rfl,rfl,.inr ⟨e,rfl⟩⟩
def AOk.setSt{G:AG}(h:AOk G){no:Int}{st:Nat}(g:st<=3)(f:st=2->no=0)(i:st=3->no≠0):AOk (setSt G no st):=by
 refine⟨by rw[q5u];exact h.nod,λd a=>?_,λd a=>?_,h.next,h.last⟩
 .obtain⟨d0,b,e,_⟩:=qpj a;rw[e];exact h.nos d0 b
 .obtain⟨d0,b,e,_,⟨c,w⟩|⟨c,w⟩⟩:=qpj a;.rw[w,e,c];exact⟨g,f,i⟩
  .rw[w];exact h.sts d0 b
def AOk.open_{P:qe1}{G:AG}(h:AOk G){no:Int}{tk:ByteArray}{b:Nat}(c:0<=no)(g:no<G.next)(f:qg2 G no=C4):AOk (qp4 P G no tk b).1:=by
 unfold qp4;refine⟨?_,λd w=>?_,λd w=>?_,h.next,h.last⟩
 .dsimp only;rw[Bs,List.nodup_append];refine⟨h.nod,by simp,λx e y a=>?_⟩;simp at a;obtain⟨d,w,rfl⟩:=Bn.1 e;rw[a];exact qwc.1 f d w
 .rcases Bt.1 w with w|w;.exact h.nos d w
  .simp at w;subst w;exact⟨c,g⟩
 .rcases Bt.1 w with w|w;.exact h.sts d w
  .simp at w;subst w;simp
def AOk.lost{G:AG}(h:AOk G)(no:Int):AOk (qn6 G no).1:=by
 unfold qn6;split;.exact h
 .split;.exact⟨.nil,by simp,by simp,h.next,h.last⟩
  .refine⟨h.nod.sublist (List.Sublist.map _ List.filter_sublist),λd w=>h.nos d (C9.1 w).1,λd w=>h.sts d (C9.1 w).1,h.next,h.last⟩
end Go.Proofs.YtfjifcfbmhpcaaaGreatDoor
