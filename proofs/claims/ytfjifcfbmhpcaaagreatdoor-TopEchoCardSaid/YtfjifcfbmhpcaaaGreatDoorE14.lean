/-
  A part of the proof of TopEcho.
-/
import Derived.Test.YtfjifcfbmhpcaaaGreatDoorE06
import Derived.Test.YtfjifcfbmhpcaaaGreatDoorE07
import Derived.Test.YtfjifcfbmhpcaaaGreatDoorE08
import Derived.Test.YtfjifcfbmhpcaaaGreatDoorE09
import Derived.Test.YtfjifcfbmhpcaaaGreatDoorE10
import Derived.Test.YtfjifcfbmhpcaaaGreatDoorE11
import Derived.Test.YtfjifcfbmhpcaaaGreatDoorE12
import Derived.Test.YtfjifcfbmhpcaaaGreatDoorE13
import Derived.Test.YtfjifcfbmhpcaaaGreatDoorE03
import Derived.ChangeKeysEq
import Derived.Laws.StructEq
import Derived.Lib.Bytealg
import Derived.BigCall
import Derived.BigGuard
import Derived.Deep.Draws
import Derived.Laws.Strings3
import Derived.Test.YtfjifcfbmhpcaaaGreatDoorRows
import Derived.ProofKit
import Derived.OpenShut
import Derived.Carry
import Derived.Deep.Slices
import Derived.Deep.Strs
import Derived.JoinedCond
import Derived.Test.YtfjifcfbmhpcaaaGreatDoorE00
set_option linter.defProp false
set_option linter.unusedVariables false
set_option linter.unusedSimpArgs false
namespace Go.Proofs.YtfjifcfbmhpcaaaGreatDoor
open Go
open Go.Proofs.Tryz renaming prog → Zp
open Go.IntKind renaming i64 → Zk, wrap → Zw
open Go.Value renaming int → Zi, string → Zs, bool → Zb, tuple → Zt, slice → Zl, agg → Zg
open _root_.List renaming replicate->A0,length_append->A1,length_map->A3,getElem?_eq_getElem->A4,length_replicate->A5,take_of_length_le->A7,getElem?_eq_none->A8,set_append_right->A9,getElem?_map->Aa,length_take->Af,append_nil->Ah,take_add_one->Ai,getD_eq_getElem?_getD->Aj,length_drop->Ao,getElem?_append_left->Ap,getElem?_range->Aq,set_cons_zero->Au,take_zero->Ay,map_set->Az,append_assoc->B0,replicate_append_replicate->B1,take_append_of_le_length->B3,mem_append_left->B4,replicate_succ->B6,getElem?_append_right->B7,mem_cons_self->B9,drop_eq_getElem_cons->Ba,getElem?_eq_some_iff->Bb,ext_getElem?->Bc,map_take->Bf,getElem?_replicate->Bj,length_cons->Bm,mem_append_right->Bt,mem_cons_of_mem->Bu,drop_replicate->Bv,map_drop->Bw,getElem?_drop->Bx,cons_append->C0,take_length->C1,nil_append->C3,map_append->C4,range->C5,drop_zero->C6,mem_map->Ca
open _root_.Option renaming some->A6,isSome_iff_exists->Bg,none->C7
open Go.IntKind renaming bits->Ab
open _root_.Nat renaming le_refl->Ac,mul_one->Ae,sub_self->An,reduceMul->Ar,reducePow->As,lt_or_ge->Ax,sub_zero->Bo,min_eq_left->Br,zero_add->Bz,add_mul->C2,zero_mul->Cb
open Go renaming World->Ad,Value->Ag,Addr->Aw,TypeId->Bh,MemPlace->Bn,DataW->C9,Program->Cc
open _root_.Int renaming tdiv_eq_ediv_of_nonneg->Ak,toNat_natCast->Bd,toNat->Bl,fdiv->C8,tdiv->Cd
open _root_.BitVec renaming ofInt->Am,ofNat->Bp,toNat_ofNat->By
open Go.Builtin renaming firstCells->Av,append_->Bs
open Go.DataW renaming TrodAll->B2,trod->Bq
open _root_.Bool renaming true->B5
open _root_.UInt8 renaming ofNat->Be,toNat_ofNat_of_lt'->Bi
def uB:Zp.underlying 22=A6 (.slice 5):=Tryz.underlying22
def uU8:Zp.underlying 5=A6 (.int .u8):=Tryz.underlying5
def iU8:Zp.info? 5=A6 Tryz.t5:=by kernel_rfl
def sU8:Tryz.t5.size=1:=rfl
def zU8:Tryz.t5.zero=A6 (Zi .u8 0):=rfl
def bU8:Tryz.t5.bytes=1:=rfl
def iU32:Zp.info? 34=A6 Tryz.t34:=by kernel_rfl
def sU32:Tryz.t34.size=1:=rfl
def w64{n:Int}(h: -9223372036854775808<=n:=by omega)(w:n<=9223372036854775807:=by omega):Zw Zk n=n:=IntWalk.i64_in _ ⟨h,w⟩
def up{k n:Nat}(h:k<n)(w:n<=9223372036854775807):Zw Zk ((k:Int)+1)=((k+1:Nat):Int):=by rw[w64];omega
def leftN(n:Nat):List Ag->Ad->Nat:=λvs _=>match vs.getLast? with
 |some (.int _ i)=>n - i.toNat
 |_=>0
def qy5(ws:List B32):∀v∈ws.map uV,qn1 v:=λv h=>by obtain⟨x,_,rfl⟩:=Ca.1 h;trivial
def qm4(ws:List B32):Array Ag:=(ws.map uV).toArray
def qof(ws:List B32):(qm4 ws).size=ws.length:=by simp[qm4]
def qg01:∀k:Fin 32,0<k.val->Zw .u64 ↑((Am (Ab .u64) (Zw .u64 (Zw Zk (0 -(k.val:Int))))&&& Am (Ab .u64) 31).toNat)=((32 - k.val:Nat):Int)/\Zw .u64 (32 -((32 - k.val:Nat):Int))=(k.val:Int):=by decide+kernel
def qtg{W w:Ad}{F:List Asn}(x:B32)(k:Nat)(d:0<k)(c:k<32)(b:St W F w):qb Zp 406 #[uV x,Zi Zk (Zw Zk (0 -(k:Int)))] w λv w'=>v=uV (qv6 x k)/\St W F w':=by obtain⟨a,h⟩:=qg01 ⟨k,c⟩ d;dsimp only at a h;refine F406_of ?_;rw[a,h];refine⟨by omega,by omega,?_,b⟩;rw[qzo x _ (by omega),q6j x _ (by omega),q4n];unfold qv6 uV;rw[BitVec.or_comm]
def q4b{W w:Ad}{F:List Asn}(x:B32)(a b c:Nat)(d:Bool)(n:0<a/\a<32)(l:0<b/\b<32)(j:0<c/\c<32)(e:St W F w):
 qb Zp 404 #[uV x,Zg #[Zi Zk a,Zi Zk b,Zi Zk c],Zb d] w λv w'=>v=uV (qv6 x a ^^^ qv6 x b ^^^(if d=B5 then x >>> c else qv6 x c))/\St W F w':=by
 refine F404_of (zh e λf w e=>?_);have e:St W (Row f 163 [Zi Zk a,Zi Zk b,Zi Zk c]::F) w:=e;refine IxP.row (k:=2) rfl (by decide) (z0q 0 e rfl rfl ((qtg x c j.1 j.2 e).of λv w ⟨i,e⟩=>⟨_,i,?_⟩));refine⟨λvs w=>vs=[uV (if d=B5 then x >>> c else qv6 x c)]/\St W (Row f 163 [Zi Zk a,Zi Zk b,Zi Zk c]::F) w,za (λh=>?_) λh=>⟨by rw[yA (by simp[h])];rfl,e⟩,λlast w o=>?_⟩
 .refine IxP.row (k:=2) rfl (by decide) (z0q 0 e rfl rfl ⟨by omega,?_,e⟩);rw[q6j x c (by omega),yB h];rfl
 obtain⟨m,e⟩:=o;generalize (if d=B5 then x >>> c else qv6 x c)=z at m⊢;cases m;have g:=z6 W (Row f 163 [Zi Zk a,Zi Zk b,Zi Zk c]::F);refine⟨StC W _,zd e,IxP.row (k:=0) rfl (by decide) (IxP.row (k:=1) rfl (by decide) ⟨_,z03 0 g rfl rfl,_,z03 0 g rfl rfl,?_⟩)⟩;refine zn (α:=Unit) (V:=λ_=>uV (qv6 x a)) (B:=λ_=>Row f 163 [Zi Zk a,Zi Zk b,Zi Zk c]::F) () g (λG w h=>(qtg x a n.1 n.2 h).of λv w' ⟨i,h⟩=>⟨_,i,(),rfl,h⟩) λ_=>⟨_,rfl,z03 0 g rfl rfl,?_⟩;refine zn (α:=Unit) (V:=λ_=>uV (qv6 x b)) (B:=λ_=>Row f 163 [Zi Zk a,Zi Zk b,Zi Zk c]::F) () g (λG w h=>(qtg x b l.1 l.2 h).of λv w' ⟨i,h⟩=>⟨_,i,(),rfl,h⟩) λ_=>⟨_,rfl,trivial,λG w h=>⟨?_,(zb h).drop⟩⟩;rw[qkj,qkj];rfl
def qxp{W w:Ad}{F:List Asn}(h:St W F w):qb Zp 403 #[] w λv w'=>v=Zg (qm4 K64)/\St W F w':=by
 refine F403_of (zh h λb w h=>⟨rfl,StA.r 0 h rfl rfl (λv a=>?_) λw h=>LdA.r 0 h rfl rfl ⟨?_,h.drop⟩⟩);.exact qy5 K64 v a
 .kernel_rfl
def q5q{W w:Ad}{F:List Asn}(h:St W F w):qb Zp 392 #[] w λv w'=>v=Zg (qm4 H0.l)/\St W F w':=by
 refine F392_of (zh h λb w h=>⟨rfl,StA.r 0 h rfl rfl (λv a=>?_) λw h=>LdA.r 0 h rfl rfl ⟨?_,h.drop⟩⟩);.exact qy5 H0.l v a
 .kernel_rfl
def qdr(l:List UInt8)(c:UInt8)(a:B32):qfc (l++[c]) a=qfc l a <<< 8|||c.toBitVec.setWidth 32:=by
 induction l generalizing a with
 |nil=>rfl
 |cons x r ih=>exact ih _
def wAt(bs:List UInt8)(i j:Nat):B32:=qfc ((bs.drop (4*j)).take (min 4 (i - 4*j))) 0
def q4c(bs:List UInt8)(i:Nat):List B32:=(C5 64).map (wAt bs i)
def qm9(bs:List UInt8)(i:Nat):(q4c bs i).length=64:=by simp[q4c]
def qxb(bs:List UInt8)(i j:Nat)(h:j<64):(q4c bs i)[j]?=A6 (wAt bs i j):=by unfold q4c;rw[Aa,Aq h];rfl
def qew(bs:List UInt8)(i:Nat){c:UInt8}(a:bs[i]?=A6 c):wAt bs (i+1) (i/4)=wAt bs i (i/4) <<< 8|||c.toBitVec.setWidth 32:=by
 unfold wAt;have w:min 4 (i+1 - 4*(i/4))=(i - 4*(i/4))+1:=by omega
 have h:min 4 (i - 4*(i/4))=i - 4*(i/4):=by omega
 rw[w,h,Ai,Bx,show 4*(i/4)+(i - 4*(i/4))=i by omega,a];exact qdr _ _ _
def qlu(bs:List UInt8)(i j:Nat)(h:j≠i/4):wAt bs (i+1) j=wAt bs i j:=by unfold wAt;rw[show min 4 (i+1 - 4*j)=min 4 (i - 4*j)by omega]
def qis(bs:List UInt8)(i:Nat){c:UInt8}(w:bs[i]?=A6 c)(a:i<64):q4c bs (i+1)=(q4c bs i).set (i/4) (wAt bs i (i/4) <<< 8|||c.toBitVec.setWidth 32):=by
 refine Bc λj=>?_;rw[List.getElem?_set];rcases Ax j 64 with h|h
 .rw[qxb bs _ j h,qxb bs _ j h];by_cases e:i/4=j
  .subst e;rw[yB rfl,yB (by rw[qm9];exact h),qew bs i w]
  .rw[yA e,qlu bs i j (λk=>e k.symm)]
 .rw[A8 (by rw[qm9];exact h),A8 (by rw[qm9];exact h),yA (by omega)]
def qet(bs:List UInt8):q4c bs 0=A0 64 0:=by
 refine Bc λj=>?_;rcases Ax j 64 with h|h
 .rw[qxb bs _ j h,Bj,yB h];unfold wAt;rw[Nat.zero_sub,Nat.min_zero,Ay];rfl
 .rw[A8 (by rw[qm9];exact h),A8 (by simpa using h)]
def q1u(bs:List UInt8):q4c bs 64=w16 bs++A0 48 0:=by
 have a:(w16 bs).length=16:=by simp[w16]
 refine Bc λj=>?_;rcases Ax j 64 with h|h
 .rw[qxb bs _ j h];rcases Ax j 16 with w|w
  .rw[Ap (by omega)];unfold w16;rw[Aa,Aq w];unfold wAt;rw[show min 4 (64 - 4*j)=4 by omega];rfl
  .rw[B7 (by omega),Bj,yB (by omega)];unfold wAt;rw[show min 4 (64 - 4*j)=0 by omega,Ay];rfl
 .rw[A8 (by rw[qm9];exact h),A8 (by simp[a];omega)]
def q08(bs:List UInt8)(m:Nat):List B32:=q53 (w16 bs) m++A0 (48 - m) 0
def q67(bs:List UInt8):(w16 bs).length=16:=by simp[w16]
def qym(bs:List UInt8)(m:Nat)(h:m<=48):(q08 bs m).length=64:=by unfold q08;rw[A1,q55,q67,A5];omega
def qbt(bs:List UInt8)(m:Nat)(h:m<48):q08 bs (m+1)=(q08 bs m).set (m+16) (q1l (q53 (w16 bs) m)):=by
 have w:(q53 (w16 bs) m).length=m+16:=by rw[q55,q67];omega
 unfold q08;rw[A9 _ _ (by omega),w,An,show 48 - m=(48 -(m+1))+1 by omega,B6,Au];simp[q53]
def qbw(bs:List UInt8)(m j:Nat)(h:j<m+16):(q08 bs m)[j]?=A6 ((q53 (w16 bs) m).getD j 0):=by
 have w:(q53 (w16 bs) m).length=m+16:=by rw[q55,q67];omega
 unfold q08;rw[Ap (by omega),Aj,A4 (by omega)];rfl
def qln(bs:List UInt8)(m:Nat):q1l (q53 (w16 bs) m)=quq ((q53 (w16 bs) m).getD (m+14) 0)+(q53 (w16 bs) m).getD (m+9) 0+qvp ((q53 (w16 bs) m).getD (m+1) 0)+(q53 (w16 bs) m).getD m 0:=by
 unfold q1l;have h:(q53 (w16 bs) m).length=m+16:=by rw[q55,q67];omega
 rw[h];rfl
def q6c{ws:List B32}{j:Nat}{x:B32}(h:ws[j]?=A6 x):(ws.map uV)[j]?=A6 (Zi .u32 (nI x)):=by rw[Aa,h];rfl
def qtl(ws:List B32)(j:Nat)(x:B32):(ws.map uV).set j (uV x)=(ws.set j x).map uV:=by rw[Az]
def IxP.by_{W w:Ad}{l:List Asn}{p:Option Aw}{bs:List UInt8}{n k:Nat}{i:Int}{x:UInt8}{K:Aw->Prop}(b:Rd l p (bs.map qd))(h:St W l w)(f:i=(k:Int))(j:k<n)(d:bs[k]?=A6 x)
 (e:∀a,w.cell? a=A6 (qd x)->K a):IxP p n i 1 K:=by
 have c:(bs.map qd)[k*1]?=A6 (qd x):=by rw[Ae,Aa,d];rfl
 refine IxP.i b h f j c λa g=>e _ ?_;exact b.at1 h g c
def qwp{W w:Ad}{F:List Asn}{p:Option Aw}{c:Nat}{bs:List UInt8}(K:Rd F p (bs.map qd))(J:bs.length<=c)(z:64<=bs.length)(d:St W F w):
 qb Zp 394 #[Zl p bs.length c] w λv w'=>v=Zg (qm4 (qi4 (bs.take 64)))/\St W F w':=by
 refine F394_of (zh d λo w1 d=>zh d λn R d=>SlP.i (a:=0) (b:=64) K (by simp) J rfl rfl (by omega) z λY s=>?_);rw[Cb,Ae,C6,Bo,<-Bf]at s;have d:St W (Row n 503 ((q4c (bs.take 64) 0).map uV)::Row o 503 ((A0 64 (0:B32)).map uV)::F) R:=by rw[qet];exact d
 generalize I:bs.take 64=q at s d⊢;have M:q.length=64:=by rw[<-I];simp;omega
 refine⟨λvs w=>∃i:Nat,vs=[Zi Zk i]/\i<=64/\St W (Row n 503 ((q4c q i).map uV)::Row o 503 ((A0 64 (0:B32)).map uV)::F) w,leftN 64,⟨0,rfl,by omega,d⟩,λx w y=>?_⟩;obtain⟨i,A,U,d⟩:=y;cases A;refine za (λf=>?_) λr=>?_
 .have f:i<64:=by have:=yC f;omega
  have E:q[i]?=A6 (q[i]'(by omega)):=A4 _;have Q:Zw Zk (Cd (i:Int) 4)=((i/4:Nat):Int):=by rw[Ak (by omega),w64];omega
  rw[Q];refine IxP.by_ ((s.cons _).cons _) d rfl (by omega) E λa P=>zy P ⟨by decide,by decide,?_⟩;refine IxP.row rfl (by omega) (z0q 0 d rfl (q6c (qxb q i (i/4) (by omega))) ⟨by decide,IxP.row rfl (by omega) (z0m 0 d rfl (by rw[A3,qm9];omega) λT d=>?_)⟩);have H:=qzo (wAt q i (i/4)) 8 (by omega);rw[show(Bl ((8:Nat):Int))=Bl 8 from rfl]at H;have L:Zw .u32 ((q[i]'(by omega)).toNat:Int)=nI ((q[i]'(by omega)).toBitVec.setWidth 32):=qny _;rw[H,L,q4n]at d;have d:St W (Row n 503 ((q4c q (i+1)).map uV)::Row o 503 ((A0 64 (0:B32)).map uV)::F) T:=by rw[qis q i E f,<-qtl];exact d
  rw[up f (by omega)];exact⟨⟨i+1,rfl,by omega,d⟩,by show 64 -(i+1)<64 - i;omega⟩
 .have D:i=64:=by have:=yD r;omega
  subst D;have d:St W (Row n 503 ((q08 q 0).map uV)::Row o 503 ((A0 64 (0:B32)).map uV)::F) w:=by rw[q1u]at d;exact d
  refine⟨λvs w=>∃m:Nat,vs=[Zi Zk ((m+16:Nat):Int)]/\m<=48/\St W (Row n 503 ((q08 q m).map uV)::Row o 503 ((A0 64 (0:B32)).map uV)::F) w,leftN 64,⟨0,rfl,by omega,d⟩,λx w y=>?_⟩;obtain⟨m,A,O,d⟩:=y;cases A;refine za (λf=>?_) λr=>?_
  .have f:m<48:=by have:=yC f;omega
   have l:=z6 W (Row n 503 ((q08 q m).map uV)::Row o 503 ((A0 64 (0:B32)).map uV)::F);have g:∀j,j<m+16->((q08 q m).map uV)[j]?=A6 (Zi .u32 (nI ((q53 (w16 q) m).getD j 0))):=λj N=>q6c (qbw q m j N);refine⟨StC W _,zd d,?_⟩;refine IxP.row (k:=m+14) (by rw[w64];omega) (by omega) (IxP.row (k:=m+9) (by rw[w64];omega) (by omega) (IxP.row (k:=m+1) (by rw[w64];omega) (by omega) (IxP.row (k:=m) (by rw[w64];omega) (by omega) ?_)));refine⟨_,z03 0 l rfl (g _ (by omega)),_,z03 0 l rfl (g _ (by omega)),_,z03 0 l rfl (g _ (by omega)),_,z03 0 l rfl (g _ (by omega)),?_⟩;refine zn (α:=Unit) (V:=λ_=>uV (quq ((q53 (w16 q) m).getD (m+14) 0))) (B:=λ_=>Row n 503 ((q08 q m).map uV)::Row o 503 ((A0 64 (0:B32)).map uV)::F) () l (λG w h=>(q4b _ 17 19 10 B5 (by decide) (by decide) (by decide) h).of λv w' ⟨t,h⟩=>⟨_,t,(),rfl,h⟩) λ_=>⟨_,rfl,⟨z03 0 l rfl (g _ (by omega)),z03 0 l rfl (g _ (by omega)),z03 0 l rfl (g _ (by omega))⟩,?_⟩;refine zn (α:=Unit) (V:=λ_=>uV (qvp ((q53 (w16 q) m).getD (m+1) 0))) (B:=λ_=>Row n 503 ((q08 q m).map uV)::Row o 503 ((A0 64 (0:B32)).map uV)::F) () l (λG w h=>(q4b _ 7 18 3 B5 (by decide) (by decide) (by decide) h).of λv w' ⟨t,h⟩=>⟨_,t,(),rfl,h⟩) λ_=>⟨_,rfl,⟨z03 0 l rfl (g _ (by omega)),z03 0 l rfl (g _ (by omega))⟩,?_⟩;refine IxP.row rfl (by omega) (Ef.st 0 l rfl (by rw[A3,qym q m O];omega) ⟨rfl,trivial,λG w h=>?_⟩);have d:=zb h;rw[qcd,qcd,qcd,<-qln]at d;have d:St W (Row n 503 ((q08 q (m+1)).map uV)::Row o 503 ((A0 64 (0:B32)).map uV)::F) w:=by rw[qbt q m f,<-qtl];exact d
   rw[w64];exact⟨⟨m+1,by rw[show((m+16:Nat):Int)+1=((m+1+16:Nat):Int)by omega],by omega,d⟩,by show 64 -(((m+16:Nat):Int)+1).toNat<64 -(m+16);omega⟩
  .have C:m=48:=by have:=yD r;omega
   subst C;have e:q08 q 48=qi4 q:=by unfold q08 qi4;simp
   rw[e]at d;have u:(qi4 q).length=64:=by rw[<-e];exact qym q 48 (by omega)
   generalize qi4 q=ws at d u⊢;refine LdA.r 0 d rfl (by rw[A3,u]) ⟨by simp[u],StA.r 1 d rfl (by simp[u]) (λv t=>qy5 ws v (by simpa using t)) λX d=>LdA.r 1 d rfl (by simp[u]) ⟨rfl,?_⟩⟩;exact St.drop (St.drop d)
def que:Zp.underlying 511=A6 (.slice 34):=Tryz.underlying511
def qap{α:Type}(A B:List α)(i:Nat)(w:i<A.length)(h:i<B.length):(A.take i++B.drop i).set i A[i]=A.take (i+1)++B.drop (i+1):=by rw[A9 _ _ (by rw[Af];omega),Af,Br (by omega),An,Ba h,Au,List.take_succ_eq_append_getElem w,B0];rfl
def qgp{α:Type}(A B:List α)(i:Nat)(h:i<=A.length):(A.take i++B.drop i)[i]?=B[i]?:=by rw[B7 (by rw[Af];omega),Af,Br h,An,Bx,Nat.add_zero]
def q4p{α:Type}(A B:List α)(i:Nat)(h:A.length=B.length):(A.take i++B.drop i).length=B.length:=by simp;omega
def qgj{α:Type}(A B:List α)(i:Nat)(w:A.length<=i)(h:B.length<=i):A.take i++B.drop i=A:=by rw[A7 w,List.drop_eq_nil_of_le h,Ah]
def qpd(s:S8)(K ws:List B32)(i:Nat):S8:=q1d s ((K.zip ws).take i)
def qlt(s:S8)(K ws:List B32)(i:Nat){k x:B32}(h:K[i]?=A6 k)(w:ws[i]?=A6 x):qpd s K ws (i+1)=rnd (qpd s K ws i) k x:=by
 unfold qpd;rw[Ai,q0x];have:(K.zip ws)[i]?=A6 (k,x):=by rw[List.getElem?_zip_eq_some];exact⟨h,w⟩
 rw[this];rfl
def qzw(h s:S8)(i:Nat)(e:i<8):∃a b c,h.l[i]?=A6 a/\s.l[i]?=A6 b/\(qa7 h s).l[i]?=A6 c/\c=b+a:=by
 have:∀i,i<8->((qa7 h s).l[i]?=(h.l[i]?.bind λa=>s.l[i]?.map λb=>b+a))/\(h.l[i]?).isSome/\(s.l[i]?).isSome:=by intro i e;rcases i with _|_|_|_|_|_|_|_|i;all_goals first|omega|exact⟨by simp[S8.l,qa7,BitVec.add_comm],rfl,rfl⟩
 obtain⟨w,j,g⟩:=this i e;obtain⟨a,f⟩:=Bg.1 j;obtain⟨b,d⟩:=Bg.1 g;rw[f,d]at w;exact⟨a,b,_,f,d,w,rfl⟩
def q5o{W w:Ad}{F:List Asn}(f:S8)(ws:List B32)(hw:ws.length=64)(d:St W F w):
 qb Zp 393 #[Zg (qm4 f.l),Zg (qm4 ws)] w λv w'=>v=Zg (qm4 (qa7 f (q1d f (K64.zip ws))).l)/\St W F w':=by
 have J:K64.length=64:=rfl;refine F393_of (zh d λt w5 d=>zh d λr w7 d=>zh d λu w9 d=>?_);have d:St W (Row u 500 ((A0 8 (0:B32)).map uV)::Row r 503 (ws.map uV)::Row t 500 (f.l.map uV)::F) w9:=d;have m:=z6 W (Row u 500 ((A0 8 (0:B32)).map uV)::Row r 503 (ws.map uV)::Row t 500 (f.l.map uV)::F);refine⟨StC W _,zd d,qm4 f.l,rfl,QtA.r 2 m rfl rfl,?_⟩;refine zn (α:=Unit) (V:=λ_=>Zg (qm4 K64)) (B:=λ_=>Row u 500 ((A0 8 (0:B32)).map uV)::Row r 503 (ws.map uV)::Row t 500 (f.l.map uV)::F) () m (λG w h=>(qxp h).of λv w' ⟨y,h⟩=>⟨qm4 K64,rfl,y,(),rfl,h⟩) λ_=>⟨qm4 K64,rfl,rfl,QtA.r 2 m rfl rfl,λg n=>?_⟩;generalize K64=K at J⊢;refine Ef.stP 1 ((m.push g _).push n _) rfl rfl rfl (qy5 f.l) ⟨rfl,trivial,?_⟩;refine Ef.stP 0 ir rfl (by simp[qm4,J]) (by rw[qof,J];rfl) (λv y=>qy5 K v (by simpa [qm4]using y)) ⟨rfl,trivial,λG w h=>?_⟩;have d:=zb h;have d:St W (Row n 503 (K.map uV)::Row g 500 ((qpd f K ws 0).l.map uV)::Row u 500 ((A0 8 (0:B32)).map uV)::Row r 503 (ws.map uV)::Row t 500 (f.l.map uV)::F) w:=d;clear h m;refine⟨λvs w=>∃i:Nat,vs=[Zi Zk i]/\i<=64/\St W (Row n 503 (K.map uV)::Row g 500 ((qpd f K ws i).l.map uV)::Row u 500 ((A0 8 (0:B32)).map uV)::Row r 503 (ws.map uV)::Row t 500 (f.l.map uV)::F) w,leftN 64,⟨0,rfl,by omega,d⟩,λx w N=>?_⟩;obtain⟨i,P,hi,d⟩:=N;cases P;refine za (λl=>?_) λC=>?_
 .have l:i<64:=by have:=yC l;omega
  have H:K[i]?=A6 (K[i]'(by omega)):=A4 _;have E:ws[i]?=A6 (ws[i]'(by omega)):=A4 _;have M:=qlt f K ws i H E;generalize qpd f K ws i=s at d M;generalize K[i]'(by omega)=k at H M;generalize ws[i]'(by omega)=x at E M;have H:=q6c H;have E:=q6c E;generalize z:(Row n 503 (K.map uV)::Row g 500 (s.l.map uV)::Row u 500 ((A0 8 (0:B32)).map uV)::Row r 503 (ws.map uV)::Row t 500 (f.l.map uV)::F)=L at d;have m:=z6 W L;have Y:nth L 0=A6 (Row n 503 (K.map uV)):=by rw[<-z];rfl
  have p:nth L 1=A6 (Row g 500 (s.l.map uV)):=by rw[<-z];rfl
  have T:nth L 3=A6 (Row r 503 (ws.map uV)):=by rw[<-z];rfl
  refine⟨StC W L,zd d,IxP.row (k:=0) rfl (by decide) (IxP.row (k:=1) rfl (by decide) (IxP.row (k:=2) rfl (by decide) (IxP.row (k:=4) rfl (by decide) ?_)))⟩;refine⟨nI s.a,z03 1 m p rfl,nI s.b,z03 1 m p rfl,nI s.c,z03 1 m p rfl,nI s.e,z03 1 m p rfl,λG w h=>?_⟩;have d:=zb h;refine⟨StC W L,zd d,IxP.row (k:=7) rfl (by decide) (IxP.row (k:=6) rfl (by decide) (IxP.row (k:=5) rfl (by decide) (IxP.row (k:=6) rfl (by decide) (IxP.row (k:=i) rfl l (IxP.row (k:=i) rfl l ?_)))))⟩;refine⟨nI s.h,z03 1 m p rfl,nI s.g,z03 1 m p rfl,nI s.f,z03 1 m p rfl,nI s.g,z03 1 m p rfl,nI k,z03 0 m Y H,nI x,z03 3 m T E,?_⟩;refine zn (α:=Unit) (V:=λ_=>uV (q9v s.e)) (B:=λ_=>L) () m (λG w h=>(q4b s.e 6 11 25 false (by decide) (by decide) (by decide) h).of λv w' ⟨y,h⟩=>⟨_,y,(),rfl,h⟩) λ_=>⟨nI (q9v s.e),rfl,⟨z03 3 m T E,z03 0 m Y H,z03 1 m p rfl,z03 1 m p rfl,z03 1 m p rfl,z03 1 m p rfl⟩,λG w h=>?_⟩;have d:=zb h;refine(q4b s.a 2 13 22 false (by decide) (by decide) (by decide) d).of λv w ⟨y,d⟩=>⟨nI (qsz s.a),y,?_⟩;refine⟨StC W L,zd d,⟨⟨by decide,by decide,by decide⟩,⟨⟨by decide,by decide,by decide⟩,?_⟩⟩⟩;refine Ef.n (α:=Unit) (V:=λ_=>Zi Zk ((min 7 7:Nat):Int)) (B:=λ_=>[Row g 500 ([s.a,s.a,s.b,s.c,s.d,s.e,s.f,s.g].map uV)]) () 1 m p (λG w h=>?_) λ_=>⟨_,rfl,trivial,λG w h=>?_⟩
  .refine q0a (q:=g) (o:=1) (cs:=[s.a,s.b,s.c,s.d,s.e,s.f,s.g].map uV) que iU32 sU32 h (Nat.le_of_ble_eq_true rfl) (λj v R=>⟨⟨g,0,C7⟩,rfl,?_⟩) rfl (qy5 _) λw' h'=>⟨_,rfl,(),rfl,z17 1 p (B:=[_]) h'⟩;rw[qi1,Bz];refine h.ld ?_;have Q:j<7:=by
    rcases Ax j 7 with h|h;.exact h
    .rw[A8 (by simpa using h)]at R;cases R
   have e:(List.map uV s.l)=[s.a,s.b,s.c,s.d,s.e,s.f,s.g].map uV++[uV s.h]:=rfl;rw[e,Ap (by simpa using Q)];exact R
  have d:=zb h;rw[<-z]at d;have d:St W (Row n 503 (K.map uV)::Row g 500 ([s.a,s.a,s.b,s.c,s.d,s.e,s.f,s.g].map uV)::Row u 500 ((A0 8 (0:B32)).map uV)::Row r 503 (ws.map uV)::Row t 500 (f.l.map uV)::F) w:=d;refine IxP.row (k:=4) rfl (by decide) (z0q (x:=nI s.d) 1 d rfl rfl (IxP.row (k:=0) rfl (by decide) (z0m 1 d rfl (by simp) λw d=>IxP.row (k:=4) rfl (by decide) (z0m 1 d rfl (by simp) λw d=>?_))));simp only[qcd,qkj,q0y,q4n,q301,qnz]at d;have d:St W (Row n 503 (K.map uV)::Row g 500 ((qpd f K ws (i+1)).l.map uV)::Row u 500 ((A0 8 (0:B32)).map uV)::Row r 503 (ws.map uV)::Row t 500 (f.l.map uV)::F) w:=by rw[M];exact d
  rw[up l (by omega)];exact⟨⟨i+1,rfl,by omega,d⟩,by show 64 -(i+1)<64 - i;omega⟩
 .have D:i=64:=by have:=yD C;omega
  subst D;have e:qpd f K ws 64=q1d f (K.zip ws):=by unfold qpd;rw[A7 (by simp[J,hw])]
  rw[e]at d;generalize q1d f (K.zip ws)=s at d⊢;have d:St W (Row n 503 (K.map uV)::Row g 500 (((qa7 f s).l.take 0++s.l.drop 0).map uV)::Row u 500 ((A0 8 (0:B32)).map uV)::Row r 503 (ws.map uV)::Row t 500 (f.l.map uV)::F) w:=d;refine⟨λvs w=>∃i:Nat,vs=[Zi Zk i]/\i<=8/\St W (Row n 503 (K.map uV)::Row g 500 (((qa7 f s).l.take i++s.l.drop i).map uV)::Row u 500 ((A0 8 (0:B32)).map uV)::Row r 503 (ws.map uV)::Row t 500 (f.l.map uV)::F) w,leftN 8,⟨0,rfl,by omega,d⟩,λx w N=>?_⟩;obtain⟨i,P,hi,d⟩:=N;cases P;refine za (λl=>?_) λC=>?_
  .have l:i<8:=by have:=yC l;omega
   obtain⟨a,b,c,h1,h2,X,h4⟩:=qzw f s i l;have l1:(qa7 f s).l.length=8:=rfl;have l2:s.l.length=8:=rfl;have U:(((qa7 f s).l.take i++s.l.drop i).map uV)[i]?=A6 (Zi .u32 (nI b)):=q6c (by rw[qgp _ _ _ (by omega),h2]);have g1:=q6c h1;have em:((qa7 f s).l.take i++s.l.drop i).set i c=(qa7 f s).l.take (i+1)++s.l.drop (i+1):=by rw[<-qap _ _ i (by omega) (by omega)];congr 1;rw[A4 (by omega)]at X;exact(Option.some.inj X).symm
   have Z:=q4p (qa7 f s).l s.l i rfl;generalize (qa7 f s).l.take i++s.l.drop i=A at d U em Z;generalize O:(qa7 f s).l.take (i+1)++s.l.drop (i+1)=A2 at em;have m:=z6 W (Row n 503 (K.map uV)::Row g 500 (A.map uV)::Row u 500 ((A0 8 (0:B32)).map uV)::Row r 503 (ws.map uV)::Row t 500 (f.l.map uV)::F);refine⟨StC W _,zd d,IxP.row (k:=i) rfl l (IxP.row (k:=i) rfl l ⟨nI b,z03 1 m rfl U,nI a,z03 4 m rfl g1,IxP.row (k:=i) rfl l ?_⟩)⟩;refine Ef.st 1 m rfl (by rw[A3,Z];exact l) ⟨rfl,trivial,λG w h=>?_⟩;have d:=zb h;rw[qcd,<-h4]at d;have d:St W (Row n 503 (K.map uV)::Row g 500 (A2.map uV)::Row u 500 ((A0 8 (0:B32)).map uV)::Row r 503 (ws.map uV)::Row t 500 (f.l.map uV)::F) w:=by rw[<-em,<-qtl];exact d
   subst O;rw[up l (by omega)];exact⟨⟨i+1,rfl,by omega,d⟩,by show 8 -(i+1)<8 - i;omega⟩
  .have D:i=8:=by have:=yD C;omega
   subst D;rw[qgj (qa7 f s).l s.l 8 (Ac 8) (Ac 8)]at d;have I:(qa7 f s).l.length=8:=rfl;generalize (qa7 f s).l=A at d I⊢;refine LdA.r 1 d rfl (by rw[A3,I]) ⟨by simp[I],StA.r 2 d rfl (by simp[I]) (λv y=>qy5 A v (by simpa using y)) λw4 d=>LdA.r 2 d rfl (by simp[I]) ⟨rfl,?_⟩⟩;exact z0e [_,_,_,_,_] d
def qx6(n:Nat):Nat:=64*(n/64)
def qc3(n:Nat):Nat:=if n%64+9>64 then 128 else 64
def qob(n:Nat):n%64+zs n+9=qc3 n:=by unfold zs qc3;split<;>omega
def qf6(bs:List UInt8):List UInt8:=bs.drop (qx6 bs.length)
def q3a(bs:List UInt8):(qf6 bs).length=bs.length%64:=by unfold qf6 qx6;rw[Ao];omega
def qgo(n:Nat):qiq n=n/64+qc3 n/64:=by
 have h:=qob n;have w:qc3 n=64\/qc3 n=128:=by unfold qc3;split<;>simp
 unfold qiq;rcases w with e|e<;>rw[e]at h⊢<;>omega
def qqu(bs:List UInt8):qqm bs=qt5 (qt5 H0 (bs.length/64) bs) (qc3 bs.length/64) (qf6 bs++qud bs.length):=by unfold qqm qgr;rw[qgo,qov,qom _ _ _ _ (by omega),List.drop_append_of_le_length (by omega)];rfl
def qf8(bs:List UInt8)(i:Nat):List UInt8:=qf6 bs++(128::(A0 (zs bs.length) 0++(A0 (8 - i) 0++(qqa bs.length).drop (8 - i))))++A0 (128 - qc3 bs.length) 0
def qf9(n:Nat):(qqa n).length=8:=rfl
def qhn(n:Nat):qc3 n<=128:=by unfold qc3;split<;>omega
def qdn(bs:List UInt8)(i:Nat)(h:i<=8):(qf8 bs i).length=128:=by have a:=qob bs.length;have w:=q3a bs;have b:=qhn bs.length;unfold qf8;simp only[A1,Bm,A5,Ao,qf9,w];omega
def q4z(bs:List UInt8):(qf8 bs 8).take (qc3 bs.length)=qf6 bs++qud bs.length:=by
 have w:=qob bs.length;have h:=q3a bs;have e:qf8 bs 8=(qf6 bs++qud bs.length)++A0 (128 - qc3 bs.length) 0:=by unfold qf8 qud;simp
 rw[e,B3 (by rw[A1,qeh,h];omega),A7 (by rw[A1,qeh,h];omega)]
def qbs(bs:List UInt8)(i:Nat)(h:i<8):qf8 bs (i+1)=(qf8 bs i).set (qc3 bs.length - 1 - i) ((qqa bs.length).getD (7 - i) 0):=by
 have a:=qob bs.length;have w:=q3a bs;have e:qc3 bs.length - 1 - i=(qf6 bs).length+(1+zs bs.length+(7 - i)):=by omega
 unfold qf8;rw[List.set_append_left _ _ (by simp only[A1,Bm,A5,Ao,qf9];omega)];congr 1;rw[e,A9 _ _ (by omega),show(qf6 bs).length+(1+zs bs.length+(7 - i)) -(qf6 bs).length=(zs bs.length+(7 - i))+1 by omega,List.set_cons_succ];congr 2;rw[A9 _ _ (by rw[A5];omega),A5,show zs bs.length+(7 - i) - zs bs.length=7 - i by omega];congr 1;rw[show 8 - i=(7 - i)+1 by omega,List.replicate_succ',B0,A9 _ _ (by simp),A5,An,C0,Au,show 8 -(i+1)=7 - i by omega];congr 1;rw[Ba (by rw[qf9];omega),Aj,A4 (by rw[qf9];omega)];rfl
def qaw(n i:Nat)(h:i<8):(qqa n).getD (7 - i) 0=ofB (Bp 8 (8*n/2 ^(8*i))):=by rcases i with _|_|_|_|_|_|_|_|i;all_goals first|omega|rfl
def qzy(bs:List UInt8):qf8 bs 0=(qf6 bs++A0 (128 - bs.length%64) 0).set (bs.length%64) 128:=by
 have a:=qob bs.length;have h:=q3a bs;have b:=qhn bs.length;unfold qf8;have w:A0 (128 - bs.length%64) (0:UInt8)=0::A0 (127 - bs.length%64) 0:=by rw[show 128 - bs.length%64=(127 - bs.length%64)+1 by omega,B6]
 rw[A9 _ _ (by omega),h,An,w,Au,B0,C0];congr 2;have:(qqa bs.length).drop (8 - 0)=[]:=by simp[qqa]
 rw[this,Ah,B0,B1,B1];congr 1;omega
def qmc(b:UInt8)(r:List UInt8):q45 (b::r)=qd9 (b.toNat/16)::qd9 (b.toNat%16)::q45 r:=rfl
def qnv(a b:List UInt8):q45 (a++b)=q45 a++q45 b:=by
 induction a with
 |nil=>rfl
 |cons x r h=>simp[qmc,h]
def qyb(a:List UInt8):(q45 a).length=2*a.length:=by
 induction a with
 |nil=>rfl
 |cons x r h=>simp[qmc,h];omega
def qz2(l:List UInt8):Array Ag:=(l.map qd).toArray
def ql7(l:List UInt8):(qz2 l).size=l.length:=by simp[qz2]
def q56(l:List UInt8):∀v∈(qz2 l).toList,qn1 v:=λv h=>q82 v (by simpa [qz2]using h)
def uS:Zp.underlying 9=A6 .string:=Tryz.underlying9
def qht(q:List UInt8):(qi4 q).length=64:=by unfold qi4;rw[q55,q67]
def qkz(s:S8)(q:List UInt8):blk s q=qa7 s (q1d s (K64.zip (qi4 q))):=rfl
def qmn{W:Ad}{L:List Asn}{C:Cls}{b i c:Nat}{p:Option Aw}{q:List UInt8}{s:S8}{R:Ad->Prop}(hC:Is W C L)(I:nth L i=A6 (Row b 500 (s.l.map uV)))(x:Rd L p (q.map qd))(hc:q.length<=c)(t:64<=q.length)
 (hR:∀w,St W (put L i [Row b 500 ((blk s (q.take 64)).l.map uV)]) w->R w):
 ∃(e:Array Ag),e.size=8/\Qt C (Zg e) (λm Q=>LdA Zp 8 ⟨b,0,C7⟩ m λY=>Q (Zg Y) m)/\
 Ef C (λO K=>qb Zp 394 #[(Zl p q.length c)] O λH y=>∃(f:Array Ag),f.size=64/\H=(Zg f)/\K (Zg f) y) λv25 k=>
 ∃(g:Array Ag),g.size=64/\v25=(Zg g)/\
 (Qt k (Zg e) (λn A=>LdA Zp 8 ⟨b,0,C7⟩ n λD=>A (Zg D) n))/\
 Ef k (λM P=>qb Zp 393 #[(Zg e),(Zg g)] M λz X=>∃(j:Array Ag),j.size=8/\z=(Zg j)/\P (Zg j) X) λv37 U=>
 ∃(d:Array Ag),d.size=8/\v37=(Zg d)/\(True)/\
 Ef U (λJ E=>Array.size d=8/\StA Zp ⟨b,0,C7⟩ d J λZ=>E (Zt #[]) Z) λv45 r=>
 v45=(Zt #[])/\(True)/\∀h0 o,Cls.p r h0 o->R o:=by
 obtain⟨T,u⟩:∃T,T=blk s (q.take 64):=⟨_,rfl⟩;obtain⟨ws,a⟩:∃ws,ws=qi4 (q.take 64):=⟨_,rfl⟩;rw[<-u]at hR;have N:ws.length=64:=by rw[a,qht]
 have hw:∀{F:List Asn} {w:Ad},Rd F p (q.map qd)->St W F w->qb Zp 394 #[Zl p q.length c] w λv w'=>v=Zg (qm4 ws)/\St W F w':=λx h=>by rw[a];exact qwp x hc t h
 have hb:∀{F:List Asn} {w:Ad},St W F w->qb Zp 393 #[Zg (qm4 s.l),Zg (qm4 ws)] w λv w'=>v=Zg (qm4 T.l)/\St W F w':=λh=>by rw[u,qkz,<-a];exact q5o s ws N h
 clear u a;refine⟨qm4 s.l,rfl,QtA.r i hC I rfl,?_⟩;refine zn (α:=Unit) (V:=λ_=>Zg (qm4 ws)) (B:=λ_=>L) () hC (λG w h=>(hw (x.app (pts G)) h).of λv w' ⟨l,h⟩=>⟨qm4 ws,by rw[qof,N],l,(),rfl,h⟩) λ_=>⟨qm4 ws,by rw[qof,N],rfl,QtA.r i (z6 W L) I rfl,?_⟩;refine zn (α:=Unit) (V:=λ_=>Zg (qm4 T.l)) (B:=λ_=>L) () (z6 W L) (λG w h=>(hb h).of λv w' ⟨l,h⟩=>⟨qm4 T.l,rfl,l,(),rfl,h⟩) λ_=>⟨qm4 T.l,rfl,rfl,trivial,?_⟩;refine Ef.stA i (z6 W L) I rfl rfl (λv l=>qy5 T.l v l) ⟨rfl,trivial,λG w h=>hR w (zb h)⟩
def qdw(s:S8)(i:Nat):Zw .u8 (C8 (nI (s.l.getD (i/4) 0)) (2 ^ min (Bl ((24 - 8*(i%4):Nat):Int)) (Ab .u32)))=nI ((s.l.getD (i/4) 0 >>>(24 - 8*(i%4))).setWidth 8):=by rw[q6j _ _ (by omega),qky]
def q3w(s:S8)(i:Nat)(h:i<32):(qxa s)[i]?=A6 (outB s i):=by unfold qxa;rw[Aa,Aq h];rfl
def qfh(s:S8):(qxa s).length=32:=by simp[qxa]
def zB(n:Nat):List UInt8:=A0 n 0
def qlm(A B:List UInt8)(i:Nat){x:UInt8}(h:A[i]?=A6 x)(w:i<B.length):(((A.take i++B.drop i).map qd).set i (qd x))=(A.take (i+1)++B.drop (i+1)).map qd:=by have a:=(Bb.1 h).1;rw[<-Az,<-qap A B i a w];congr 2;exact((Bb.1 h).2).symm
def qev(m i:Nat):Zw .u8 (C8 (m:Nat) (2 ^(8*i)))=nI ((Bp 8 (m/2 ^(8*i)))):=by
 have h:(2:Int) ^(8*i)=((2 ^(8*i):Nat):Int):=by norm_cast
 rw[h,Int.fdiv_eq_ediv_of_nonneg _ (Int.natCast_nonneg _),show((m:Nat):Int)/((2 ^(8*i):Nat):Int)=((m/2 ^(8*i):Nat):Int)by norm_cast,qtf]
def qd01(n i:Nat)(h:i<8):Bp 8 (n%2 ^ 64/2 ^(8*i))=Bp 8 (n/2 ^(8*i)):=by
 apply BitVec.eq_of_toNat_eq;rw[By,By]
 match i,h with
 |0,_=>simp only[Nat.mul_zero,Nat.pow_zero,Nat.div_one];omega
 |1,_=>simp only[Ae];omega
 |2,_=>simp only[Ar,As];omega
 |3,_=>simp only[Ar,As];omega
 |4,_=>simp only[Ar,As];omega
 |5,_=>simp only[Ar,As];omega
 |6,_=>simp only[Ar,As];omega
 |7,_=>simp only[Ar,As];omega
def q4w{W w:Ad}{F:List Asn}{p:Option Aw}{c:Nat}{bs:List UInt8}(U:Rd F p (bs.map qd))(T:bs.length<=c)(hn:bs.length<=9223372036854775807)(d:St W F w):
 qb Zp 368 #[Zl p bs.length c] w λv w'=>v=Zg (qz2 (sha bs))/\St W F w':=by
 have R:Zw Zk ((Zw Zk (Cd (bs.length:Int) 64))*64)=((qx6 bs.length:Nat):Int):=by rw[Ak (by omega),w64 (n:=(bs.length:Int)/64) (by omega) (by omega),w64];unfold qx6;omega
 refine F368_of (zh d λr w d=>(q5q d).of λv w ⟨K,d⟩=>⟨qm4 H0.l,rfl,K,zh d λu w d=>⟨rfl,StA.r 0 d rfl rfl (λv K=>qy5 H0.l v K) λw d=>⟨by decide,?_⟩⟩⟩);rw[R];have d:St W (Row u 500 ((qt5 H0 0 bs).l.map uV)::Row r 411 ((zB 32).map qd)::F) w:=d;refine⟨λvs w=>∃k:Nat,vs=[Zi Zk ((64*k:Nat):Int)]/\k<=bs.length/64/\St W (Row u 500 ((qt5 H0 k bs).l.map uV)::Row r 411 ((zB 32).map qd)::F) w,leftN (bs.length+64),⟨0,rfl,by omega,d⟩,λx w C=>?_⟩;obtain⟨k,A,hk,d⟩:=C;cases A;refine za (λf=>?_) λm=>?_
 .have f:64*k<qx6 bs.length:=by have:=yC f;omega
  have z:64*k+64<=bs.length:=by unfold qx6 at f;omega
  refine⟨StC W _,zd d,SlP.i (a:=64*k) (b:=bs.length) U (by simp) T rfl rfl (by omega) (Ac _) λQ l=>?_⟩;rw[Ae,Ae,<-Bw,<-Bf,A7 (by simp)]at l;have e:bs.length - 64*k=(bs.drop (64*k)).length:=Ao.symm;rw[e];refine qmn ir (i:=0) rfl ((l.cons _).cons _) (by rw[<-e];omega) (by rw[<-e];omega) λw d=>?_;rw[<-q5k]at d;rw[w64];exact⟨⟨k+1,by rw[show((64*k:Nat):Int)+64=((64*(k+1):Nat):Int)by omega],by unfold qx6 at f;omega,d⟩,by show bs.length+64 -(((64*k:Nat):Int)+64).toNat<bs.length+64 -(64*k);omega⟩
 have z:k=bs.length/64:=by have:=yD m;unfold qx6 at this;omega
 subst z;generalize hH:qt5 H0 (bs.length/64) bs=H at d;refine zh d λg w d=>?_;have d:St W (Row g 505 ((zB 128).map qd)::Row u 500 (H.l.map uV)::Row r 411 ((zB 32).map qd)::F) w:=d;refine⟨StC W _,zd d,⟨⟨by decide,by decide,by decide⟩,SlP.i (a:=qx6 bs.length) (b:=bs.length) U (by simp) T rfl rfl (by unfold qx6;omega) (Ac _) λQ l=>?_⟩⟩;rw[Ae,Ae,<-Bw,<-Bf,A7 (by simp)]at l;have l:Rd F Q ((qf6 bs).map qd):=l;have D:=q3a bs;have X:min (bs.length - qx6 bs.length) 128=bs.length%64:=by unfold qx6;omega
 have hC:=z6 W (Row g 505 ((zB 128).map qd)::Row u 500 (H.l.map uV)::Row r 411 ((zB 32).map qd)::F);refine Ef.n (α:=Unit) (V:=λ_=>Zi Zk ((bs.length%64:Nat):Int)) (B:=λ_=>[Row g 505 ((qf6 bs++zB (128 - bs.length%64)).map qd)]) () 0 hC rfl (λG w h=>?_) λ_=>⟨_,rfl,trivial,λG w h=>?_⟩
 .refine q0a (q:=g) (o:=0) (cs:=(qf6 bs).map qd) uB iU8 sU8 h (by simp[zB]) (λj v hj=>((((l.cons _).cons _).app (pts G)).cons _).of h hj) (by rw[A3,D];exact X.symm) q82 λw' Z=>⟨_,rfl,(),by rw[<-X];rfl,?_⟩;have e:qm1 ((zB 128).map qd) 0 ((qf6 bs).map qd)=(qf6 bs++zB (128 - bs.length%64)).map qd:=by rw[qya];unfold qm1 zB;rw[Ay,C3,Bz,Bv,D]
  rw[e]at Z;exact z17 0 rfl (B:=[_]) Z
 have d:=zb h;have d:St W (Row g 505 ((qf6 bs++zB (128 - bs.length%64)).map qd)::Row u 500 (H.l.map uV)::Row r 411 ((zB 32).map qd)::F) w:=d;refine IxP.row (k:=bs.length%64) rfl (by omega) (z0m 0 d rfl (by simp[D,zB];omega) λw d=>?_);have d:St W (Row g 505 ((qf8 bs 0).map qd)::Row u 500 (H.l.map uV)::Row r 411 ((zB 32).map qd)::F) w:=by rw[qzy,Az];exact d
 refine⟨λvs w=>vs=[Zi Zk ((qc3 bs.length:Nat):Int)]/\St W (Row g 505 ((qf8 bs 0).map qd)::Row u 500 (H.l.map uV)::Row r 411 ((zB 32).map qd)::F) w,za (λh=>?_) λh=>?_,λlast w hJ=>?_⟩
 .have h:=yC h;rw[w64 (n:=((bs.length%64:Nat):Int)+1) (by omega) (by omega),w64]at h;exact⟨by unfold qc3;rw[yB (by omega)];rfl,d⟩
 .have h:=yD h;rw[w64 (n:=((bs.length%64:Nat):Int)+1) (by omega) (by omega),w64]at h;exact⟨by unfold qc3;rw[yA (by omega)];rfl,d⟩
 obtain⟨A,d⟩:=hJ;cases A;have P:qc3 bs.length=64\/qc3 bs.length=128:=by unfold qc3;split<;>simp
 refine⟨λvs w=>∃i:Nat,vs=[Zi Zk i]/\i<=8/\St W (Row g 505 ((qf8 bs i).map qd)::Row u 500 (H.l.map uV)::Row r 411 ((zB 32).map qd)::F) w,leftN 8,⟨0,rfl,by omega,d⟩,λx w C=>?_⟩;obtain⟨i,A,Y,d⟩:=C;cases A;refine za (λf=>?_) λm=>?_
 .have f:i<8:=by have:=yC f;omega
  have e8:Zw Zk (8*(i:Int))=((8*i:Nat):Int):=by rw[w64];omega
  rw[e8];refine⟨by omega,IxP.row (k:=qc3 bs.length - 1 - i) (by rw[w64 (n:=((qc3 bs.length:Nat):Int) - 1) (by omega) (by omega),w64];omega) (by omega) (z0m 0 d rfl (by rw[A3,qdn bs i Y];omega) λw d=>?_)⟩;have ev:Zi .u8 (Zw .u8 (C8 (Zw .u64 ((Zw .u64 (bs.length:Int))*8)) (2 ^ min (Bl ((8*i:Nat):Int)) (Ab .u64))))=qd ((qqa bs.length).getD (7 - i) 0):=by
   have N:Zw .u64 (bs.length:Int)=(bs.length:Int):=by show(bs.length:Int)%(2 ^ 64:Int)=_;omega
   have e2:Zw .u64 ((bs.length:Int)*8)=((8*bs.length%2 ^ 64:Nat):Int):=by show((bs.length:Int)*8)%(2 ^ 64:Int)=_;omega
   have e3:min (Bl ((8*i:Nat):Int)) (Ab .u64)=8*i:=by rw[Bd];exact Br (by show 8*i<=64;omega)
   rw[N,e2,e3,qev,qd01 _ _ f,qaw _ _ f];rfl
  have d:St W (Row g 505 ((qf8 bs (i+1)).map qd)::Row u 500 (H.l.map uV)::Row r 411 ((zB 32).map qd)::F) w:=by rw[qbs bs i f,Az,<-ev];exact d
  rw[up f (by omega)];exact⟨⟨i+1,rfl,by omega,d⟩,by show 8 -(i+1)<8 - i;omega⟩
 have I:i=8:=by have:=yD m;omega
 subst I;have y:=qdn bs 8 (by omega);have M:=q4z bs;generalize hE:qf8 bs 8=E at d y M;refine⟨λvs w=>∃k:Nat,vs=[Zi Zk ((64*k:Nat):Int)]/\64*k<=qc3 bs.length/\St W (Row g 505 (E.map qd)::Row u 500 ((qt5 H k E).l.map uV)::Row r 411 ((zB 32).map qd)::F) w,leftN 256,⟨0,rfl,by omega,d⟩,λx w C=>?_⟩;obtain⟨k,A,hk,d⟩:=C;cases A;refine za (λf=>?_) λm=>?_
 .have f:64*k<qc3 bs.length:=by have:=yC f;omega
  have z:64*k+64<=128:=by omega
  refine⟨StC W _,zd d,SlP.i (n:=128) (c:=128) (a:=64*k) (b:=128) (z0k (b:=g) (t:=505) (all:=E.map qd) (F:=Row u 500 ((qt5 H k E).l.map uV)::Row r 411 ((zB 32).map qd)::F)) (by simp[y]) (Ac _) rfl rfl (by omega) (Ac _) λQ l=>?_⟩;rw[Ae,Ae,<-Bw,<-Bf,A7 (by simp[y])]at l;have e:128 - 64*k=(E.drop (64*k)).length:=by rw[Ao,y]
  rw[e];refine qmn ir (i:=1) rfl l (Ac _) (by rw[<-e];omega) λw d=>?_;rw[<-q5k]at d;rw[w64];exact⟨⟨k+1,by rw[show((64*k:Nat):Int)+64=((64*(k+1):Nat):Int)by omega],by omega,d⟩,by show 256 -(((64*k:Nat):Int)+64).toNat<256 -(64*k);omega⟩
 have z:k=qc3 bs.length/64:=by have:=yD m;omega
 subst z;have J:qt5 H (qc3 bs.length/64) E=qqm bs:=by rw[qqu,hH,<-M];have N:E=E.take (qc3 bs.length)++E.drop (qc3 bs.length):=(List.take_append_drop _ _).symm;rw[N,qom _ _ _ _ (by rw[Af,y];omega),<-N]
 rw[J]at d;generalize hs:qqm bs=s at d;refine zh d λb w d=>?_;have d:St W (Row b 411 (((qxa s).take 0++(zB 32).drop 0).map qd)::Row g 505 (E.map qd)::Row u 500 (s.l.map uV)::Row r 411 ((zB 32).map qd)::F) w:=d;refine⟨λvs w=>∃i:Nat,vs=[Zi Zk i]/\i<=32/\St W (Row b 411 (((qxa s).take i++(zB 32).drop i).map qd)::Row g 505 (E.map qd)::Row u 500 (s.l.map uV)::Row r 411 ((zB 32).map qd)::F) w,leftN 32,⟨0,rfl,by omega,d⟩,λx w C=>?_⟩;obtain⟨i,A,Y,d⟩:=C;cases A;refine za (λf=>?_) λm=>?_
 .have f:i<32:=by have:=yC f;omega
  have ed:Zw Zk (Cd (i:Int) 4)=((i/4:Nat):Int):=by rw[Ak (by omega),w64];omega
  have em:Zw Zk (24 -(Zw Zk ((Int.tmod (i:Int) 4)*8)))=((24 - 8*(i%4):Nat):Int):=by rw[Int.tmod_eq_emod_of_nonneg (by omega),w64 (n:=(i:Int)%4*8) (by omega) (by omega),w64];omega
  have hg:(s.l.map uV)[i/4]?=A6 (Zi .u32 (nI (s.l.getD (i/4) 0))):=by refine q6c ?_;rw[Aj,A4 (by show i/4<8;omega)];rfl
  rw[ed,em];refine⟨by decide,IxP.row rfl (by omega) (z0q 2 d rfl hg ⟨by decide,by omega,IxP.row (k:=i) rfl f (z0m 0 d rfl (by simp[qfh,zB];omega) λw d=>?_)⟩)⟩;rw[qdw]at d;have d:St W (Row b 411 (((qxa s).take (i+1)++(zB 32).drop (i+1)).map qd)::Row g 505 (E.map qd)::Row u 500 (s.l.map uV)::Row r 411 ((zB 32).map qd)::F) w:=by rw[<-qlm (qxa s) (zB 32) i (q3w s i f) (by simpa [zB]using f)];exact d
  rw[up f (by omega)];exact⟨⟨i+1,rfl,by omega,d⟩,by show 32 -(i+1)<32 - i;omega⟩
 have I:i=32:=by have:=yD m;omega
 subst I;rw[qgj (qxa s) (zB 32) 32 (by rw[qfh];omega) (by simp[zB])]at d;have O:=qfh s;have L:sha bs=qxa s:=by unfold sha;rw[hs]
 rw[L];refine LdA.r 0 d rfl (by rw[A3,O]) ⟨by simp[O],StA.r 3 d rfl (by simp[O,zB]) (λv K=>q82 v (by simpa using K)) λw4 d=>LdA.r 3 d rfl (by simp[O]) ⟨rfl,?_⟩⟩;exact z0e [_,_,_,_] d
def IxP.byC{W w:Ad}{C:Cls}{l:List Asn}{p:Option Aw}{bs:List UInt8}{n k:Nat}{i:Int}{x:UInt8}{K:Aw->Prop}(d:Is W C l)(h:Rd l p (bs.map qd))(e:St W l w)(g:i=(k:Int))(o:k<n)(c:bs[k]?=A6 x)
 (f:∀a,(∀G w,C.p G w->w.cell? a=A6 (qd x))->K a):IxP p n i 1 K:=by
 have b:(bs.map qd)[k*1]?=A6 (qd x):=by rw[Ae,Aa,c];rfl
 refine IxP.i h e g o b λa j=>f _ λG w m=>?_;exact(h.app (pts G)).at1 ((d G w).1 m) j b
def QtI.at{C:Cls}{a:Aw}{k:IntKind}{x:Int}(h:∀G w,C.p G w->w.cell? a=A6 (.int k x)):Qt C (.int k x) λw K=>LdI k a w λx=>K (.int k x) w:=λG w b=>zy (h G w b) ⟨rfl,b⟩
def z0g:=@QtI.at
def leftZ(n:Nat):List Ag->Ad->Nat:=λvs _=>match vs.head? with
 |some (.slice _ i _)=>n - i
 |_=>0
def q5w:ByteArray:=⟨#[48,49,50,51,52,53,54,55,56,57,97,98,99,100,101,102]⟩
def qjy:∀k:Fin 16,q5w.get! k.val=qd9 k.val:=by decide+kernel
def IxS.hex{i:Int}{k:Nat}{K:UInt8->Prop}(w:i=(k:Int))(h:k<16)(a:K (qd9 k)):IxS q5w i K:=by subst w;refine⟨⟨by omega,by show(k:Int)<16;omega⟩,?_⟩;rw[Bd,qjy ⟨k,h⟩];exact a
def qb01:∀x:Fin 256,Zw .u8 ↑((Am (Ab .u8) (x.val:Int)&&& Am (Ab .u8) 15).toNat)=((x.val%16:Nat):Int):=by decide+kernel
def shr4:∀x:Fin 256,C8 (x.val:Int) (2 ^ min (Bl 4) (Ab .u8))=((x.val/16:Nat):Int):=by decide+kernel
def set2(A:List UInt8)(m:Nat)(x y:UInt8):((((A++zB (m+2)).map qd).set A.length (qd x)).set (A.length+1) (qd y))=(A++[x,y]++zB m).map qd:=by rw[<-Az,<-Az];congr 1;unfold zB;rw[A9 _ _ (Ac _),An,A9 _ _ (by omega),show A.length+1 - A.length=1 by omega];simp[B6]
def qcu(bs:List UInt8)(i:Nat){x:UInt8}(h:bs[i]?=A6 x):q45 (bs.take (i+1))=q45 (bs.take i)++[qd9 (x.toNat/16),qd9 (x.toNat%16)]:=by rw[Ai,h,qnv];rfl
def q8m{W w:Ad}{F:List Asn}{p:Option Aw}{c:Nat}{bs:List UInt8}(s:Rd F p (bs.map qd))(D:bs.length<=1000000)(d:St W F w):
 qb Zp 293 #[Zl p bs.length c] w λv w'=>v=Zs (mkS (q45 bs))/\St W F w':=by
 have t:Zw Zk (2*(bs.length:Int))=((2*bs.length:Nat):Int):=by rw[w64];omega
 refine F293_of ?_;rw[t];refine MkS.i d (by omega) (Int.le_refl _) (by omega) (by omega) λb w d=>?_;rw[Bd]at d⊢;have d:St W (Row b 5 ((q45 (bs.take 0)++zB (2*(bs.length - 0))).map qd)::F) w:=by rw[Ay,show(q45 []++zB (2*(bs.length - 0))).map qd=A0 (2*bs.length) (Zi .u8 0)by unfold zB q45;simp[qd]];exact d
 refine⟨λvs w=>∃i:Nat,vs=[Zi Zk i]/\i<=bs.length/\St W (Row b 5 ((q45 (bs.take i)++zB (2*(bs.length - i))).map qd)::F) w,leftN bs.length,⟨0,rfl,by omega,d⟩,λx w q=>?_⟩;obtain⟨i,u,C,d⟩:=q;cases u;have g:(q45 (bs.take i)).length=2*i:=by rw[qyb,Af];omega
 refine za (λe=>?_) λl=>?_
 .have e:i<bs.length:=by have:=yC e;omega
  have j:bs[i]?=A6 (bs[i]'e):=A4 _;generalize bs[i]'e=x at j;have o:=qcu bs i j;have f:x.toNat<256:=x.toNat_lt;have z:2*(bs.length - i)=2*(bs.length -(i+1))+2:=by omega
  rw[z]at d;generalize B:q45 (bs.take i)=A at d g o;refine IxP.by_ (s.cons _) d rfl e j λa y=>zy y ?_;have r:=z6 W (Row b 5 ((A++zB (2*(bs.length -(i+1))+2)).map qd)::F);refine⟨StC W _,zd d,by decide,IxS.hex (shr4 ⟨x.toNat,f⟩) (by dsimp only;omega) (IxS.hex (qb01 ⟨x.toNat,f⟩) (by dsimp only;omega) (IxP.row (k:=2*i) (by rw[w64];omega) (by omega) ?_))⟩;refine Ef.st 0 r rfl (by rw[A3,A1,g];unfold zB;rw[A5];omega) ⟨rfl,trivial,IxP.row (k:=2*i+1) (by rw[w64 (n:=2*(i:Int)) (by omega) (by omega),w64];omega) (by omega) ?_⟩;refine Ef.st 0 ir rfl (by rw[List.length_set,A3,A1,g];unfold zB;rw[A5];omega) ⟨rfl,trivial,λG w h=>?_⟩;have d:=zb h;have d:St W (Row b 5 ((q45 (bs.take (i+1))++zB (2*(bs.length -(i+1)))).map qd)::F) w:=by rw[o,<-set2,g];exact d
  rw[up e (by omega)];exact⟨⟨i+1,rfl,by omega,d⟩,by show bs.length -(i+1)<bs.length - i;omega⟩
 have m:i=bs.length:=by have:=yD l;omega
 subst m;rw[An,C1]at d;have d:St W (Row b 5 ((q45 bs).map qd)::F) w:=by simpa [zB]using d
 exact qbi uB uU8 uS d z0k (qyb bs) ⟨_,rfl,rfl,d.drop⟩
section
section
variable{P:Program}{W w:World}{r:List Asn}{sT xT ty e:TypeId}{inf:TypeInfo}{z:Value}{size:Nat}{p:Option Addr}{n c m:Nat}{cs xs:List Value}{x:Value}
def qth(o:P.underlying sT=A6 (.slice e))(f:P.underlying xT=A6 .string)(m:P.info? e=A6 inf)(g:inf.size=1)(j:inf.zero=A6 z)(h:z.cells.size=1){l:List UInt8}{F:Ag->Ad->Prop}
 (i:St W (qi e 1 p n c cs::r) w) (k:(n+l.length)*inf.bytes<=140737488355328) (a:((n+l.length:Nat):Int)<=9223372036854775807)
 (t:∀b d w',St W (qi e 1 b (n+l.length) d (cs++l.map qd)::r) w'->F (.slice b (n+l.length) d) w'):
 Run P (Bs #[sT,xT] ty #[Zl p n c,Zs (mkS l)]) w F:=
 qgm o (.inl f) m g j h i (λs=>by simp[Builtin.lenOf,qf1]) (λs u=>by
  have q:(mkS l).extract 0 l.length=mkS l:=by apply ByteArray.ext;simp[mkS,ByteArray.data_extract]
  simp only[Av,q,Sem.run_pure];congr 1;apply Array.ext';simp[mkS,qd,Function.comp_def]) (by simp) q82 k a t
end
end
def cU8:Zp.cellsOf 5=1:=by kernel_rfl
def Bif.yes{b:Bool}{A B:Prop}(h:b=B5)(a:A):Bif b A B:=za (λ_=>a) λw=>by rw[h]at w;cases w
def Bif.no{b:Bool}{A B:Prop}(h:b=false)(a:B):Bif b A B:=za (λw=>by rw[h]at w;cases w) λ_=>a
def SlP.all{F:List Asn}{p:Option Aw}{bs:List UInt8}{n c:Nat}{f:Int}{K:Option Aw->Nat->Nat->Prop}(i:Rd F p (bs.map qd))(d:bs.length=n)(j:n<=c)(e:f=(n:Int))(g:∀w,Rd F w (bs.map qd)->K w bs.length c):SlP p n c 1 0 f K:=by refine SlP.i (a:=0) (b:=n) i (by simp[d]) j rfl e (Nat.zero_le _) (Ac _) λw h=>?_;rw[Cb,C6,Bo,Ae,A7 (by simp[d])]at h;rw[Bo,Bo,<-d];exact g _ h
def SlP.allS{W w:Ad}{l:List Asn}{A:Asn}{p:Option Aw}{bs:List UInt8}{n c:Nat}{d:Int}{K:Option Aw->Nat->Nat->Prop}(k:Nat)(j:St W l w)(e:nth l k=A6 A)(h:∀F,Rd (A::F) p (bs.map qd))(g:bs.length=n)(i:n<=c)(a:d=(n:Int))(f:∀b,Rd l b (bs.map qd)->K b bs.length c):SlP p n c 1 0 d K:=
 SlP.all (z07 k e h) g i a f
def q7u{W w:Ad}{F:List Asn}{p:Option Aw}{c n:Nat}{bs s:List UInt8}(h:sha bs=s)(b:Rd F p (bs.map qd))(d:bs.length=n)(e:n<=c)(f:n<=9223372036854775807)(a:St W F w):
 qb Zp 368 #[Zl p n c] w λv w'=>v=Zg (qz2 s)/\St W F w':=by rw[<-h,<-d];exact q4w b (by omega) (by omega) a
def q731{W:Ad}{C:Cls}{l:List Asn}{p:Option Aw}{bs:List UInt8}{n c:Nat}(a:Is W C l)(d:Rd l p (bs.map qd))(b:bs.length=n):
 Qt C (Zs (mkS bs)) (λw K=>Run Zp (convert 22 9 (Zl p n c)) w λv w'=>AsS v λx=>K (Zs x) w'):=λG w h=>
 qbi uB uU8 uS ((a G w).1 h) (d.app (pts G)) b ⟨_,rfl,rfl,h⟩
def IxP.one{W w:Ad}{l:List Asn}{p:Option Aw}{cs:List Ag}{n k:Nat}{i:Int}{v:Ag}{K:Aw->Prop}(b:Rd l p cs)(h:St W l w)(f:i=(k:Int))(j:k<n)(d:cs[k]?=A6 v)
 (e:∀a,w.cell? a=A6 v->K a):IxP p n i 1 K:=by
 have c:cs[k*1]?=A6 v:=by rw[Ae,d]
 refine IxP.i b h f j c λa g=>e _ ?_;exact b.at1 h g c
def IxP.oneC{W w:Ad}{C:Cls}{l:List Asn}{p:Option Aw}{cs:List Ag}{n k:Nat}{i:Int}{v:Ag}{K:Aw->Prop}(d:Is W C l)(h:Rd l p cs)(e:St W l w)(g:i=(k:Int))(o:k<n)(c:cs[k]?=A6 v)
 (f:∀a,(∀G w,C.p G w->w.cell? a=A6 v)->K a):IxP p n i 1 K:=by
 have b:cs[k*1]?=A6 v:=by rw[Ae,c]
 refine IxP.i h e g o b λa j=>f _ λG w m=>?_;exact(h.app (pts G)).at1 ((d G w).1 m) j b
def append_none{P:Cc}{w:Ad}{sT xT ty e:Bh}{h:TypeInfo}{p sp:Option Aw}{n c sc:Nat}{F:Ag->Ad->Prop}(g:P.underlying sT=A6 (.slice e))(b:Src P xT)(f:P.info? e=A6 h)(i:n<=c)
 (j:F (Zl p n c) w):Run P (Bs #[sT,xT] ty #[Zl p n c,Zl sp 0 sc]) w F:=by
 have d:(Av h.size 0 (Zl sp 0 sc)).run P w=.ok (List.toArray []) w:=by
  cases sp with
  |none=>rfl
  |some a=>simp[Av];rfl
 have:=q84 (P:=P) (w:=w) (w':=w) (p:=p) (n:=n) (m:=0) (c:=c) (xs:=[]) (x:=Zl sp 0 sc) (ty:=ty) g b f rfl i (λs=>rfl) d (by cases p with|none=>exact .inl ⟨rfl,rfl⟩|some a=>exact .inr ⟨a,rfl,rfl⟩);exact⟨_,w,this,j⟩
def append_new{P:Cc}{W w:Ad}{r:List Asn}{sT xT ty e:Bh}{h:TypeInfo}{z:Ag}{size:Nat}{p sp:Option Aw}{n c m sc:Nat}{cs xs:List Ag}{F:Ag->Ad->Prop}(N:P.underlying sT=A6 (.slice e))(E:Src P xT)(L:P.info? e=A6 h)(K:h.size=size)(G:h.zero=A6 z)(t:z.cells.size=size)
 (u:St W r w) (M:Rd r p cs) (b:cs.length=n*size) (H:Rd r sp xs) (d:xs.length=m*size) (g:¬n+m<=c) (Q:(n+m)*h.bytes<=140737488355328) (o:((n+m:Nat):Int)<=9223372036854775807)
 (O:∀D C w',St W (qi e size D (n+m) C (cs++xs)::r) w'->F (.slice D (n+m) C) w'):
 Run P (Bs #[sT,xT] ty #[Zl p n c,Zl sp m sc]) w F:=by
 have rd:∀{q:Option Aw} {k c:Nat} {f:List Ag},Rd r q f->f.length=k*size->(Av size k (Zl q k c)).run P w.drew=.ok f.toArray w.drew:=λ{q k c f} hq hl=>by
  refine qw3 (λj v J=>hq.of u.draws J) hl λR=>?_;rcases f with _|⟨v,f⟩;.simpa using hl.symm
  .obtain⟨a,B,_⟩:=hq.of u (i:=0) (v:=v) rfl;rw[R]at B;cases B
 have:=qo6 (P:=P) (w:=w) (x:=Zl sp m sc) (n:=n) (m:=m) (c:=c) (ty:=ty) N E L K G g (λs=>rfl) (rd H d) (rd M b) o (growslice_fits (by omega) Q);have l:=grownCap_ge w (n+m) c e;have A:=St.allocRow (St.draws u) (cs.toArray++xs.toArray++Builtin.zeroCells z.cells (grownCap w (n+m) c e -(n+m))) e;refine⟨_,_,this,O _ _ _ (z0v ?_ l ?_ A)⟩
 .have y:=qm5 z.cells (grownCap w (n+m) c e -(n+m));simp only[Array.toList_append,A1,b,d,Array.length_toList,y,t];rw[<-C2,<-C2];congr 1;omega
 .have I:(n+m)*size=(cs++xs).length:=by rw[A1,b,d,C2]
  rw[I];simp only[Array.toList_append];rw[B3 (by simp),A7 (by simp)]
def zl:=@Bif.no
def zm:=@Bif.yes
def z0f:=@IxP.one
def qd4(c:UInt8)(l:List UInt8):List UInt8:=l.map λx=>x ^^^ c
def qn5.lit0{P:Cc}{t:Bh}{f:FuncId}{args:List Ag}{w:Ad}{K:Ag->Ad->Prop}(a:q33 P f=B5)(h:qb P f args.toArray w K):qn5 P t (.func (.func f) #[] #[]) args w K:=
 ⟨f,#[],#[],rfl,a,by simpa using h⟩
def qn5.lit1{P:Cc}{t:Bh}{f:FuncId}{x:Ag}{args:List Ag}{w:Ad}{K:Ag->Ad->Prop}(a:q33 P f=B5)(h:qb P f (x::args).toArray w K):qn5 P t (.func (.func f) #[x] #[]) args w K:=
 ⟨f,#[x],#[],rfl,a,by simpa using h⟩
def q2x(c:UInt8)(l:List UInt8):(qd4 c l).length=l.length:=by simp[qd4]
def qej(k:List UInt8):List UInt8:=if k.length>64 then sha k else k
def qp6(k:List UInt8):List UInt8:=qej k++zB (64 -(qej k).length)
def qbe(k b:List UInt8):List UInt8:=sha (qd4 92 (qp6 k)++sha (qd4 54 (qp6 k)++b))
def q7v(k:List UInt8):(qej k).length<=64:=by
 unfold qej;split;.rw[qgd];omega
 .omega
def qin(k:List UInt8):(qp6 k).length=64:=by have:=q7v k;unfold qp6 zB;rw[A1,A5];omega
def qke(k b:List UInt8):(qbe k b).length=32:=qgd _
def qjz(x c:UInt8):Zw .u8 ↑((Am (Ab .u8) (x.toNat:Int) ^^^ Am (Ab .u8) (c.toNat:Int)).toNat)=((x ^^^ c).toNat:Int):=qaz x.toBitVec c.toBitVec
def orV(x c:UInt8):Zw .u8 ↑((Am (Ab .u8) (x.toNat:Int)|||BitVec.ofInt (Ab .u8) (c.toNat:Int)).toNat)=((x|||c).toNat:Int):=qa01 x.toBitVec c.toBitVec
def qjv{P:List UInt8}{i:Nat}{x c:UInt8}(h:P[i]?=A6 x):(qd4 c P)[i]?=A6 (x ^^^ c):=by unfold qd4;rw[Aa,h];rfl
def qlg{W w:Ad}{F:List Asn}{p:Option Aw}{d:Nat}{P b:List UInt8}(c:UInt8)(T:P.length=64)(K:Rd F p (b.map qd))(R:b.length<=d)(V:b.length<=500000)(a:St W F w):
 qb Zp 334 #[Zg (qz2 P),Zi .u8 (c.toNat:Int),Zl p b.length d] w λv w'=>v=Zg (qz2 (sha (qd4 c P++b)))/\St W F w':=by
 have H:=qgd (qd4 c P++b);obtain⟨s,G⟩:∃s,sha (qd4 c P++b)=s:=⟨_,rfl⟩;rw[G]at H⊢;have z:(qz2 s).size=32:=by rw[ql7,H]
 have Q:=q2x c P;refine F334_of (zh a λn w a=>zh a λj w a=>?_);have a:St W (Row j 411 ((zB 32).map qd)::Row n 450 (((qd4 c P).take 0++P.drop 0).map qd)::F) w:=a;refine⟨λvs w=>∃i:Nat,vs=[Zi Zk i]/\i<=64/\St W (Row j 411 ((zB 32).map qd)::Row n 450 (((qd4 c P).take i++P.drop i).map qd)::F) w,leftN 64,⟨0,rfl,by omega,a⟩,λx w J=>?_⟩;obtain⟨i,B,U,a⟩:=J;cases B;refine za (λf=>?_) λA=>?_
 .have f:i<64:=by have:=yC f;omega
  have y:P[i]?=A6 (P[i]'(by omega)):=A4 _;generalize P[i]'(by omega)=x at y;have N:(((qd4 c P).take i++P.drop i).map qd)[i]?=A6 (qd x):=by rw[Aa,qgp _ _ _ (by omega),y];rfl
  refine IxP.row (k:=i) rfl f (z0q 1 a rfl N (IxP.row (k:=i) rfl f (z0m 1 a rfl (by rw[A3,q4p _ _ _ Q];omega) λw a=>?_)));rw[qjz]at a;have a:St W (Row j 411 ((zB 32).map qd)::Row n 450 (((qd4 c P).take (i+1)++P.drop (i+1)).map qd)::F) w:=by rw[<-qlm (qd4 c P) P i (qjv y) (by omega)];exact a
  rw[up f (by omega)];exact⟨⟨i+1,rfl,by omega,a⟩,by show 64 -(i+1)<64 - i;omega⟩
 have D:i=64:=by have:=yD A;omega
 subst D;rw[qgj (qd4 c P) P 64 (by omega) (by omega)]at a;refine SlP.allS 1 a rfl (λF=>z0k) (by omega) (Ac _) rfl λO u=>?_;have m:∀{L:List Asn} {q:Option Aw} {e:Nat} {w:Ad},Rd (L++Row j 411 ((zB 32).map qd)::Row n 450 ((qd4 c P).map qd)::F) q ((qd4 c P++b).map qd)->(qd4 c P++b).length<=e->St W (L++Row j 411 ((zB 32).map qd)::Row n 450 ((qd4 c P).map qd)::F) w->
  qb Zp 368 #[Zl q (qd4 c P++b).length e] w λC E=>∃(g:Array Ag),g.size=32/\C=(Zg g)/\Array.size g=32/\StA Zp ⟨j,0,C7⟩ g E λt=>LdA Zp 32 ⟨j,0,C7⟩ t λl=>(λv w'=>v=Zg (qz2 s)/\St W F w') (Zg l) t:=λ{L q e w} hq B a=>by
  refine(q7u G hq rfl B (by rw[A1];omega) a).of λv w ⟨M,a⟩=>⟨_,z,M,z,?_⟩;have a:St W (Row j 411 ((zB 32).map qd)::Row n 450 ((qd4 c P).map qd)::F) w:=z0e L a;exact StA.r 0 a rfl (by rw[z];rfl) (q56 _) λw a=>LdA.r 0 a rfl (by rw[Array.length_toList,z]) ⟨rfl,(St.drop (St.drop a))⟩
 have I:(qd4 c P).length+b.length=(qd4 c P++b).length:=by rw[A1]
 by_cases o:b=[]
 .subst o;refine append_none uB (.inr ⟨_,uB⟩) iU8 (by omega) ⟨_,_,_,rfl,?_⟩;have:=m (L:=[]) (q:=O) (e:=64) (by rw[Ah];exact u) (by rw[Ah];omega) a;rw[Ah]at this;rw[Ah]at m;exact this
 .have r:¬(qd4 c P).length+b.length<=64:=by have:b.length≠0:=λh=>o (List.eq_nil_of_length_eq_zero h);omega
  refine append_new uB (.inr ⟨_,uB⟩) iU8 sU8 zU8 rfl a (cs:=(qd4 c P).map qd) (xs:=b.map qd) u (by simp) ((K.cons _).cons _) (by simp) r (by rw[bU8];omega) (by omega) λq e w a=>⟨_,_,_,rfl,?_⟩;rw[<-C4,I]at a;rw[I];exact m (L:=[_]) (z0i _) (qi.le a).2 a
def qrt(k:List UInt8)(h:k.length<=64):qm1 ((zB 64).map qd) 0 (k.map qd)=(k++zB (64 - k.length)).map qd:=by rw[qya];unfold qm1 zB;rw[Ay,C3,Bz,Bv]
def q9y{W w:Ad}{F:List Asn}{p:Option Aw}{d:Nat}{k:List UInt8}(y:Rd F p (k.map qd))(C:k.length<=d)(G:k.length<=9223372036854775807)(a:St W F w):
 qb Zp 335 #[Zl p k.length d] w λv w'=>v=Zg (qz2 (qp6 k))/\St W F w':=by
 refine F335_of (zh a λf w a=>zh a λe w a=>?_);have a:St W (Row e 450 ((zB 64).map qd)::Row f 450 ((zB 64).map qd)::F) w:=a;have b:=qin k;have i:∀{L:List Asn} {w:Ad},St W (Row e 450 ((qp6 k).map qd)::(L++Row f 450 ((zB 64).map qd)::F)) w->
  LdA Zp 64 ⟨e,0,C7⟩ w λm=>Array.size m=64/\StA Zp ⟨f,0,C7⟩ m w λl=>LdA Zp 64 ⟨f,0,C7⟩ l λc=>(λv w'=>v=Zg (qz2 (qp6 k))/\St W F w') (Zg c) l:=λ{L w} a=>by
  have A:(qz2 (qp6 k)).size=64:=by rw[ql7,b]
  refine LdA.r 0 a rfl (by rw[A3,b]) ⟨A,?_⟩;have a:=z0e L a.drop;exact StA.r 0 a rfl (A.trans (by simp[zB])) (q56 _) λw a=>LdA.r 0 a rfl (by simp[b]) ⟨rfl,a.drop⟩
 refine za (λh=>?_) λh=>?_
 .have h:=yC h;have r:=qgd k;have n:qp6 k=sha k++zB (64 -(sha k).length):=by unfold qp6 qej;rw[yB (by omega)]
  obtain⟨s,B⟩:∃s,sha k=s:=⟨_,rfl⟩;rw[B]at r n;have z:(qz2 s).size=32:=by rw[ql7,r]
  refine(q7u B ((y.cons _).cons _) rfl C (by omega) a).of λv w ⟨D,a⟩=>⟨_,z,D,zh a λg w a=>⟨z,StA.r 0 a rfl (by rw[z];rfl) (q56 _) λw a=>?_⟩⟩;have a:St W (Row g 411 (s.map qd)::Row e 450 ((zB 64).map qd)::Row f 450 ((zB 64).map qd)::F) w:=a;refine SlP.allS 0 a rfl (λF=>z0k) r (Ac _) rfl λE x=>⟨⟨by decide,by decide,by decide⟩,?_⟩;have u:Rd (Row e 450 ((zB 64).map qd)::Row g 411 (s.map qd)::Row f 450 ((zB 64).map qd)::F) E (s.map qd):=x.perm (List.Perm.swap _ _ _);refine q0a (q:=e) (o:=0) (cs:=s.map qd) uB iU8 sU8 a.p1 (by simp[zB]) (λj v t=>u.of a.p1 t) (by rw[A3,r];rfl) q82 λw' a=>⟨_,rfl,?_⟩;rw[qrt s (by omega),<-n]at a;exact i (L:=[_]) a
 .have h:=yD h;have n:qp6 k=k++zB (64 - k.length):=by unfold qp6 qej;rw[yA (by omega)]
  refine⟨⟨by decide,by decide,by decide⟩,?_⟩;refine q0a (q:=e) (o:=0) (cs:=k.map qd) uB iU8 sU8 a (by simp[zB]) (λj v t=>((y.cons _).cons _).of a t) (by rw[A3];show k.length=min k.length 64;omega) q82 λw' a=>⟨_,rfl,?_⟩;rw[qrt k (by omega),<-n]at a;exact i (L:=[]) a
def qtw{W w:Ad}{F:List Asn}{p q:Option Aw}{d e:Nat}{k b:List UInt8}(o:Rd F p (k.map qd))(I:k.length<=d)(J:k.length<=9223372036854775807)(C:Rd F q (b.map qd))(y:b.length<=e)(K:b.length<=500000)(a:St W F w):
 qb Zp 292 #[Zl p k.length d,Zl q b.length e] w λv w'=>v=Zg (qz2 (qbe k b))/\St W F w':=by
 have c:=qin k;have l:=qgd (qd4 54 (qp6 k)++b);obtain⟨f,g⟩:∃s,sha (qd4 54 (qp6 k)++b)=s:=⟨_,rfl⟩;rw[g]at l;have H:qbe k b=sha (qd4 92 (qp6 k)++f):=by unfold qbe;rw[g]
 have n:=qke k b;have A:(qz2 f).size=32:=by rw[ql7,l]
 have z2:(qz2 (qbe k b)).size=32:=by rw[ql7,n]
 have x:(qz2 (qp6 k)).size=64:=by rw[ql7,c]
 have D:∀{F:List Asn} {w:Ad},Rd F q (b.map qd)->St W F w->qb Zp 334 #[Zg (qz2 (qp6 k)),Zi .u8 54,Zl q b.length e] w λv w'=>v=Zg (qz2 f)/\St W F w':=λo h=>by rw[<-g];exact qlg 54 c o y K h
 have j:∀{F:List Asn} {w:Ad} {q:Option Aw} {e:Nat},Rd F q (f.map qd)->f.length<=e->St W F w->qb Zp 334 #[Zg (qz2 (qp6 k)),Zi .u8 92,Zl q f.length e] w λv w'=>v=Zg (qz2 (qbe k b))/\St W F w':=λo y h=>by rw[H];exact qlg 92 c o y (by omega) h
 generalize qbe k b=m at n z2 j⊢;clear H g;refine F292_of (zh a λt w a=>(q9y (o.cons _) I J a).of λv w ⟨r,a⟩=>⟨_,x,r,zh a λu w a=>⟨x,StA.r 0 a rfl (by rw[x];rfl) (q56 _) λw a=>?_⟩⟩);generalize qp6 k=P at*;have a:St W (Row u 450 (P.map qd)::Row t 411 ((zB 32).map qd)::F) w:=a;refine LdA.r 0 a rfl (by rw[A3,c]) ?_;refine .inl (qn5.lit0 (by kernel_rfl) ?_);refine(D ((C.cons _).cons _) a).of λv w ⟨r,a⟩=>⟨_,A,r,zh a λi w a=>⟨A,StA.r 0 a rfl (by rw[A];rfl) (q56 _) λw a=>?_⟩⟩;have a:St W (Row i 411 (f.map qd)::Row u 450 (P.map qd)::Row t 411 ((zB 32).map qd)::F) w:=a;have z:=z6 W (Row i 411 (f.map qd)::Row u 450 (P.map qd)::Row t 411 ((zB 32).map qd)::F);refine⟨StC W _,zd a,SlP.allS 0 a rfl (λF=>z0k) l (Ac _) rfl λL E=>⟨qz2 P,x,QtA.r 1 z rfl (by rw[A3,c]),?_⟩⟩;refine zn (α:=Unit) (V:=λ_=>Zg (qz2 m)) (B:=λ_=>Row i 411 (f.map qd)::Row u 450 (P.map qd)::Row t 411 ((zB 32).map qd)::F) () z (λG w h=>qn5.lit0 (by kernel_rfl) ((j (E.app (pts G)) (by omega) h).of λv w' ⟨r,h⟩=>⟨_,z2,r,(),rfl,h⟩)) λ_=>⟨_,z2,rfl,trivial,?_⟩;refine Ef.stA 2 z rfl z2 (by rw[z2];rfl) (q56 _) ⟨rfl,trivial,λG w h=>?_⟩;have a:=zb h;have a:St W (Row i 411 (f.map qd)::Row u 450 (P.map qd)::Row t 411 (m.map qd)::F) w:=a;exact LdA.r 2 a rfl (by rw[A3,n]) ⟨rfl,z0e [_,_,_] a⟩
section
open Go Go.ChangeShapes Go.WideShapes Go.ChangeAt Go.RowKit
def laid:laidOutB Zp=B5:=by kernel_rfl
section
variable{H:Type}{enc:TypeId×Value->H}{P:Program}{W:World}{base:Nat}{spare:Nat->Bool}{held:Bool}
def qju{α:Type}[Inhabited α](f:α->List Ag)(Ok:α->Prop){t e:Bh}{k qma:Nat}{cs:List Ag}{x:C9 H×List Bn}(I:P.underlying t=A6 (.slice e))(q:P.cellsOf e=k)(C:0<k)(O:∀x,(f x).length=k)
 (l:∀n d y,d.length=k->Bq enc P W base spare held n e d=A6 y->∃o,d=f o/\Ok o) (h:Bq enc P W base spare held qma t cs=A6 x):
 ∃(p:Option Aw) (os:List α) (c:Nat),cs=[.slice p os.length c]/\os.length<=c/\c<=9223372036854775807/\Rd [q65 W] p (os.flatMap f)/\∀o∈os,Ok o:=by
 rcases Deep.open_slice I h with ⟨rfl,rfl⟩|⟨a,len,cap,m,n,D,X,rfl,_,B,A,M,rfl,r⟩
 .exact⟨C7,[],0,rfl,Ac _,by omega,Rd.nil _ _,λo w=>by cases w⟩
 .have R:len<=m:=by rw[M];split<;>omega
  obtain⟨g,F⟩:=Deep.choose_lt (n:=len) (p:=λi o=>(∀j,j<k->W.cell? ((a.add (i*k)).add j)=(f o)[j]?)/\Ok o) λi s=>by obtain⟨d,z,N⟩:=r i (by omega);obtain⟨_,E,Q⟩:=World.cells?_some z;rw[q]at E;obtain⟨o,rfl,w⟩:=l _ _ _ E N;exact⟨o,λj K=>by have:=Q j (by rw[q];exact K);rwa[q]at this,w⟩
  have G:((C5 len).map g).length=len:=by simp
  refine⟨A6 a,(C5 len).map g,cap,by rw[G],by rw[G];exact B,A,?_,λo w=>?_⟩
  .intro Hp hH i v s;refine⟨a,rfl,?_⟩;rw[qrd f k C O]at s;obtain⟨o,w,L⟩:=Option.bind_eq_some_iff.1 s;rw[Aa]at w;have u:i/k<len:=by
    rcases Ax (i/k) len with h|h;.exact h
    .rw[A8 (by simpa using h)]at w;cases w
   rw[Aq u]at w;cases w;have z:=(F _ u).1 (i%k) (Nat.mod_lt _ C);rw[L,Addr.add_add,show i/k*k+i%k=i by rw[Nat.mul_comm];exact Nat.div_add_mod i k]at z;obtain⟨V,T,J,_⟩:=hH;exact q26 T (q26 (h:=qff W) (λb o U=>J b o U) z)
  .obtain⟨i,s,rfl⟩:=Ca.1 w;exact(F i (by simpa using s)).2
def quy{e:Bh}(a:P.underlying e=A6 (.int .u8)):∀n w (y:C9 H×List Bn),w.length=1->Bq enc P W base spare held n e w=A6 y->∃o:UInt8,w=[qd o]/\True:=λn w y _ h=>by
 obtain⟨x,rfl,_,b⟩:=DataW.trod_int a h;have d:0<=x/\x<=255:=by simpa [Lit.wf,IntKind.min,IntKind.max,IntKind.signed,Ab]using b
 refine⟨Be x.toNat,?_,trivial⟩;unfold qd;have c:((Be x.toNat).toNat:Int)=x:=by rw[Bi (by show x.toNat<256;omega)];omega
 rw[c]
def qxs{t e:Bh}{qma:Nat}{cs:List Ag}{x:C9 H×List Bn}(i:P.underlying t=A6 (.slice e))(g:P.underlying e=A6 (.int .u8))(w:P.cellsOf e=1)(h:Bq enc P W base spare held qma t cs=A6 x):
 ∃(p:Option Aw) (xs:List UInt8) (c:Nat),cs=[.slice p xs.length c]/\xs.length<=c/\c<=9223372036854775807/\Rd [q65 W] p (xs.map qd):=by
 obtain⟨p,xs,c,b,f,d,a,_⟩:=qju (λx=>[qd x]) (λ_=>True) i w (by decide) (λ_=>rfl) (quy g) h;refine⟨p,xs,c,b,f,d,?_⟩;rwa[qt6]at a
def qbp{t:Bh}{qma:Nat}{cs:List Ag}{x:C9 H×List Bn}(w:P.underlying t=A6 .string)(h:Bq enc P W base spare held qma t cs=A6 x):∃s,cs=[.string s]/\s.size<=9223372036854775807:=by obtain⟨s,a,_,b⟩:=DataW.trod_string w h;exact⟨s,a,b⟩
def qxq{r:_root_.Go.Reach}{i:Nat}{t e:Bh}{v:Ag}{d:C9 H}{ps:List Bn}(g:P.underlying t=A6 (.slice e))(k:P.underlying e=A6 (.int .u8))(b:P.cellsOf e=1)(w:Value.okWide P W r i t v)(h:DataW.Trod enc P W base spare held t v d ps):
 ∃(p:Option Aw) (xs:List UInt8) (c:Nat),v=.slice p xs.length c/\xs.length<=c/\c<=9223372036854775807/\Rd [q65 W] p (xs.map qd):=by
 obtain⟨a,len,cap,rfl⟩:=okWide_slice g w;obtain⟨qma,l⟩:=h;obtain⟨p,xs,c,f,j⟩:=qxs g k b l;simp[Value.cells]at f;obtain⟨rfl,rfl,rfl⟩:=f;exact⟨_,xs,_,rfl,j⟩
end
section
variable{H:Type}{enc:TypeId×Value->H}{P:Program}
def qvj(i:laidOutB P=B5){W g:Ad}{sp:Nat->Bool}(f:Below W.heap.size W g):∀{ts:List Bh} {vs:List Ag} {b:List (C9 H)} {ps:List Bn},(∀t∈ts,P.readableRec t=B5/\t<P.types.size)->(∀x∈ps,x.block<W.heap.size)->(∀x∈ps,sp x.block=B5)->
 B2 enc P W 0 (λ_=>B5) B5 ts vs b ps->B2 enc P g 0 sp B5 ts vs b ps
 |[],vs,b,ps,_,_,_,h=>by obtain⟨rfl,rfl,rfl⟩:=trodAll_nil h;exact rfl
 |t::ts,vs,b,ps,c,a,e,h=>by
  obtain⟨v,k,d,n,p,q,rfl,rfl,rfl,j,l⟩:=trodAll_cons h;exact trodAll_cons_mk (WideElems.Trod_stays i (c t B9).1 (c t B9).2 j (λx w=>f.same (a x (B4 _ w))) λx w=>e x (B4 _ w))
   (qvj i f (λt m=>c t (Bu _ m)) (λx w=>a x (Bt _ w)) (λx w=>e x (Bt _ w)) l)
def quw(M:laidOutB P=B5){f:Func}{s:ChangeSpec}{tb:Bh}{c j w i:Bool}{W m:Ad}{args:Array Ag}{e gs:List (C9 H)}{d:List Bn}
 (B:DataW.Whole enc P f.params.toList s.vars c W args.toList e gs d) (h:s.vars=[]) (C:∀y,y=[]->s.fn H (e++y)={ results:=[.lit (.bool B5)],args:=e}) (g:f.resultTypes=#[tb]) (z:P.underlying tb=A6 .bool)
 (A:∀t∈f.params.toList,P.readableRec t=B5/\t<P.types.size) (I:Below W.heap.size W m):s.post enc P f c j w i W args (.bool B5) m:=by
 have v:=B.lt;have J:=B;obtain⟨p,q,O,hV,rfl,E,G⟩:=B;rw[h]at hV;obtain⟨rfl,rfl⟩:=trodVars_none hV;have F:B2 enc P W 0 (λ_=>B5) B5 f.params.toList args.toList e p:=O;have a:=C [] rfl;have n:∀x∈p,x.block<W.heap.size:=λx k=>v x (B4 _ k);have l:∀(b:Nat) (sp:Nat->Bool) (K:Bool),B2 enc P m b sp K f.resultTypes.toList ((Zb B5).resultList f.resultTypes.size) (s.fn H (e++[])).results []:=λb sp K=>by rw[a,g];exact trodAll_cons_mk (shut_bool z _) trodAll_mk0
 have arg:∀sp:Nat->Bool,(∀x∈p,sp x.block=B5)->B2 enc P m 0 sp B5 f.params.toList args.toList (s.fn H (e++[])).args p:=λsp D=>by rw[a];exact qvj M I A n D F
 have r:∀sp:Nat->Bool,DataW.TrodVars enc P m sp s.vars (s.fn H (e++[])).vars []:=λsp=>by rw[a,h];exact rfl
 refine⟨e,[],p++[],[],p,[],J,l _ _ _,arg _ (λx k=>by simpa using n x k),r _,I.frame _,λ_=>⟨ok_one g rfl (okWide_bool_mk z _),_,_,([]++p)++[],⟨[]++p,[],trodAll_append (arg _ (λ_ _=>rfl)) (l _ _ _),r _,rfl,?_,?_⟩,?_⟩⟩
 .intro b u N;have o:MemPlace.cell b u∈p++[]:=by simpa using N
  have:=v _ o;rw[I.frozen this];exact E b u o
 .intro L;have:=G L;simpa using this
 .intro x k _;simpa using k
end
end
def qc8(s:List UInt8):Ag:=Zs (mkS s)
def q25(s:List UInt8):List UInt8:=Be s.length::s
def qj5(ws:List (List UInt8)):List UInt8:=ws.flatMap q25
def qib(ws:List (List UInt8)):Bool:=ws.all λs=>decide (s.length<=255)
def q07(k:List UInt8)(ws:List (List UInt8)):List UInt8:=if qib ws=B5 then q45 (qbe k (qj5 ws))else []
def qb6(ws:List (List UInt8)):Nat:=(ws.map λs=>s.length+1).sum
def q1i(ws:List (List UInt8)):(qj5 ws).length=qb6 ws:=by
 induction ws with
 |nil=>rfl
 |cons s r h=>unfold qj5 qb6 at*;rw[List.flatMap_cons,A1,h];simp[q25]
def qpo(ws:List (List UInt8))(i:Nat){s:List UInt8}(h:ws[i]?=A6 s):qj5 (ws.take (i+1))=qj5 (ws.take i)++q25 s:=by unfold qj5;rw[Ai,h,List.flatMap_append];simp
def qrx(l:List UInt8)(h:l.length<=255):Zi .u8 (Zw .u8 (l.length:Int))=qd (Be l.length):=by unfold qd;rw[Bi (by show l.length<256;omega)];congr 1;show(l.length:Int)%(2 ^ 8:Int)=_;omega
def qlk{W w:Ad}{F:List Asn}(l:List UInt8)(h:l.length<=255)(a:St W F w):
 qb Zp 96 #[Zs (mkS l)] w λv w'=>∃p c,v=Zl p (q25 l).length c/\St W (qi 5 1 p (q25 l).length c ((q25 l).map qd)::F) w':=by
 refine F96_of ?_;rw[qf1,qrx l h];refine zl (yH (by omega)) (zh a λb w a=>?_);have a:St W (qi 5 1 (A6 ⟨b,0,C7⟩) 1 1 [qd (Be l.length)]::F) w:=qi.whole rfl a;refine qth uB uS iU8 sU8 zU8 rfl a (by rw[bU8];omega) (by omega) λp c w a=>⟨_,_,_,rfl,p,c,?_,?_⟩;.rw[show(q25 l).length=1+l.length by simp[q25];omega]
 .rw[show(q25 l).length=1+l.length by simp[q25];omega];exact a
def qjo{ws:List (List UInt8)}{i:Nat}{s:List UInt8}(h:ws[i]?=A6 s)(w:¬s.length<=255):qib ws=false:=by unfold qib;rw[List.all_eq_false];exact⟨s,List.mem_of_getElem? h,by simpa using w⟩
def qxh{ws:List (List UInt8)}(h:∀s∈ws,s.length<=255):qib ws=B5:=by unfold qib;rw[List.all_eq_true];intro s w;simpa using h s w
def qql{ws:List (List UInt8)}{i:Nat}{s:List UInt8}(h:ws[i]?=A6 s)(a:∀s∈ws.take i,s.length<=255)(b:s.length<=255):∀s∈ws.take (i+1),s.length<=255:=λx w=>by
 rw[Ai,h]at w;rcases List.mem_append.1 w with w|w;.exact a x w
 .simp at w;subst w;exact b
def q8v{ws:List (List UInt8)}{i:Nat}{s:List UInt8}(h:ws[i]?=A6 s):(ws.map qc8)[i]?=A6 (Zs (mkS s)):=by rw[Aa,h];rfl
def q8e:∀{ws:List (List UInt8)},(∀s∈ws,s.length<=255)->qb6 ws<=256*ws.length
 |[],_=>by simp[qb6]
 |s::r,h=>by have a:=q8e (ws:=r) λx w=>h x (Bu _ w);have b:=h s B9;unfold qb6 at a⊢;simp only[List.map_cons,List.sum_cons,Bm];omega
def qqe{W w:Ad}{F:List Asn}{p q:Option Aw}{d e:Nat}{k:List UInt8}{ws:List (List UInt8)}(J:Rd F p (k.map qd))(L:k.length<=d)(T:k.length<=9223372036854775807)(A:Rd F q (ws.map qc8))(O:ws.length<=1000)(f:St W F w):
 qb Zp 241 #[Zl p k.length d,Zl q ws.length e] w λv w'=>v=Zs (mkS (q07 k ws))/\St W F w':=by
 refine F241_of ⟨λvs w=>∃p i c,vs=[Zl p (qj5 (ws.take i)).length c,Zi Zk ((i:Nat):Int)]/\i<=ws.length/\(∀s∈ws.take i,s.length<=255)/\St W (qi 5 1 p (qj5 (ws.take i)).length c ((qj5 (ws.take i)).map qd)::F) w,leftN ws.length,⟨C7,0,0,rfl,by omega,by simp,z1a _ _ _ f⟩,λP U c1 x w I=>?_⟩;obtain⟨Q,i,Z,K,X,r,f⟩:=I;cases K;have E:=q1i (ws.take i);have n:=q8e r;rw[Af]at n;refine za (λg=>?_) λy=>?_
 .have g:i<ws.length:=by have:=yC g;omega
  have j:ws[i]?=A6 (ws[i]'g):=A4 _;generalize ws[i]'g=s at j;refine z0f (A.cons _) f rfl g (q8v j) λa B=>z0y B ?_;rw[qf1];refine za (λh=>?_) λh=>?_
  .have h:=yC h;unfold q07;rw[qjo j (by omega)];exact⟨rfl,f.drop⟩
  have h:=yD h;refine(qlk s (by omega) f).of λv w ⟨R,V,l,f⟩=>⟨_,_,_,l,?_⟩;have t:=qpo ws i j;have H:=q1i (ws.take (i+1));have u:=q8e (qql j r (by omega));rw[Af]at u;have o:(qj5 (ws.take (i+1))).length=(qj5 (ws.take i)).length+(q25 s).length:=by rw[t,A1]
  refine qp8 uB (.inr ⟨_,uB⟩) iU8 sU8 zU8 rfl f.p1 (xs:=(q25 s).map qd) (z0i F) (by simp) q82 (by rw[bU8];omega) (by omega) λN M w f=>⟨_,_,_,rfl,?_⟩;rw[<-C4,<-t,<-o]at f;rw[up g (by omega),<-o];exact⟨⟨N,i+1,M,rfl,by omega,qql j r (by omega),f.p1.drop⟩,by show ws.length -(i+1)<ws.length - i;omega⟩
 have C:i=ws.length:=by have:=yD y;omega
 subst C;rw[C1]at f r E n⊢;have D:=qke k (qj5 ws);refine(qtw (J.cons _) L (by omega) (z0i F) (qi.le f).2 (by omega) f).of λv w ⟨l,f⟩=>?_;unfold q07;rw[yB (qxh r)];generalize qbe k (qj5 ws)=m at D l⊢;have z:(qz2 m).size=32:=by rw[ql7,D]
 refine⟨_,z,l,zh f λb w f=>⟨z,StA.r 0 f rfl (by rw[z];rfl) (q56 _) λw f=>?_⟩⟩;have f:St W (Row b 411 (m.map qd)::qi 5 1 P (qj5 ws).length c1 ((qj5 ws).map qd)::F) w:=f;refine SlP.allS 0 f rfl (λF=>z0k) D (Ac _) rfl λY G=>?_;exact(q8m G (by omega) f).of λv w ⟨l,f⟩=>⟨_,l,rfl,z0e [_,_] f⟩
end Go.Proofs.YtfjifcfbmhpcaaaGreatDoor
