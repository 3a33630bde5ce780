/-
  A part of the proof of TopBad.
-/
import Derived.Test.YtfjifcfbmhpcaaaGreatDoorB03
import Derived.Test.YtfjifcfbmhpcaaaGreatDoorB07
import Derived.ChangeKeysEq
import Derived.Laws.StructEq
import Derived.Lib.Bytealg
import Derived.BigCall
import Derived.BigGuard
import Derived.Deep.Draws
import Derived.Laws.Strings3
import Derived.Test.YtfjifcfbmhpcaaaGreatDoorRows
import Derived.ProofKit
import Derived.OpenShut
import Derived.Carry
import Derived.Deep.Slices
import Derived.Deep.Strs
import Derived.JoinedCond
import Derived.Test.YtfjifcfbmhpcaaaGreatDoorB02
import Derived.Test.YtfjifcfbmhpcaaaGreatDoorB00
set_option linter.all false
namespace Go.Proofs.YtfjifcfbmhpcaaaGreatDoor
open Go
open Go.Proofs.Tryz renaming prog → Zp
open Go.IntKind renaming i64 → Zk, wrap → Zw
open Go.Addr renaming add → Za
open Go.Value renaming int → Zi, string → Zs, pointer → Zq, bool → Zb, tuple → Zt, slice → Zl, agg → Zg
open _root_.Option renaming some->A0,none->A3,isSome_iff_exists->Cw,map_some->E4
open _root_.List renaming replicate->A1,getElem?_eq_getElem->A6,length_append->A7,getElem?_map->A8,length_map->A9,length_cons->Ab,not_mem_nil->Ad,take_of_length_le->Ae,getElem?_eq_some_iff->Af,getElem?_eq_none->Ag,length_replicate->Ah,length_nil->Ai,length_take->Aj,mem_cons->Ak,map_append->An,map_cons->Ao,set_append_right->Aq,perm_ext_iff_of_nodup->Ay,getElem?_of_mem->Az,append_assoc->B0,mem_map->B2,perm_append_singleton->B5,getElem?_append_left->B6,take_add_one->B9,ext_getElem?->Ba,getElem?_range->Bc,set_cons_zero->Bf,append_nil->Bh,map_take->Bj,perm_append_comm->Bn,range->Bq,getD_eq_getElem?_getD->Br,map_set->Bv,length_drop->Bw,mem_cons_self->C1,findIdx?_eq_some_iff_getElem->C2,take_zero->C4,flatMap->C6,replicate_append_replicate->C8,perm_middle->Cc,take_append_of_le_length->Cg,mem_append_left->Ch,mem_cons_of_mem->Ci,mem_append->Cl,mem_filter->Cm,replicate_succ->Co,map_congr_left->Cp,getElem?_append_right->Cs,drop_zero->Ct,drop_eq_getElem_cons->Cu,map_drop->Cx,getElem?_replicate->Cy,cons_append->Cz,take_length->D0,find?_cons->D4,take_append_drop->D5,mem_append_right->D6,mem_of_getElem?->Db,drop_replicate->De,getElem?_drop->Di,set_cons_succ->Dj,getElem?_set->Do,nodup_append->Dr,foldl_append->Ds,all_eq_true->Du,nodup_range->Dx,length->Dz,nil_append->E0,nodup_cons->E1,map_map->E9
open Go renaming Value->A4,World->A5,Addr->B1,LoopState->Bd,TypeId->Bg,FuncId->Bm,MapEntry->C7,Program->Ce,Code->D7,TypeInfo->D8,MemPlace->D9,LeavesInM->E8,DataW->Ec,Operand->Eh,RoundIn->Ei
open Go.IntKind renaming bits->Aa
open _root_.Bool renaming true->Ac,false->Ap,and_eq_true->Cd,not_eq_true->Dv
open _root_.BitVec renaming ofInt->Am,ofNat->D3,toNat_ofNat->Dk
open _root_.Array renaming getD_eq_getD_getElem?->Ar,getElem?_append_left->Au,replicate->Bi,getElem?_toList->Bo,getElem?_modify->Ca,toList_append->Df,length_toList->Dg,size->E5,zip->E7
open _root_.Nat renaming le_refl->As,mul_one->Aw,sub_zero->Bb,sub_self->Bu,reduceMul->Bx,reducePow->By,lt_or_ge->C3,zero_add->C5,le_of_ble_eq_true->C9,min_eq_left->Cj,mul_le_mul_left->Cq,zero_mul->D2,add_sub_cancel->Dm,le_trans->Dt,add_mul->Dy
open _root_.Prod renaming fst->Av,snd->Dc
open Go.Result renaming andThen->Ax,andThen_ok->Dq
open Go.MapKept renaming run_getObj_map->B3,bytes_beq->Bp
open Go.Fence renaming wide->B4
open Go.Builtin renaming append_->B7,firstCells->C0,delete_->E2
open Go.Instr renaming findAsking->Be,findKey->Bl,lookup->Cr,mapEntry->Dd,findNow->Dh,keyThatStays->Dn,entryStore->Dw,mapUpdate->E3,checkKey->E6
open _root_.Int renaming tdiv_eq_ediv_of_nonneg->Bs,toNat->Cb,toNat_natCast->Cv,fdiv->Dp,tdiv->Ea,le_refl->Eb
open Go.Op renaming equalIn->Bt,eqFields->Ed,equal->Ee,maxDepth->Eg
open Go.Value renaming nilFunc->Bz
open Go.DataW renaming TrodAll->Cf,trod->Dl
open Go.World renaming size_alloc->D1
open _root_.UInt8 renaming ofNat->Da
def uB:Zp.underlying 22=A0 (.slice 5):=Tryz.underlying22
def uU8:Zp.underlying 5=A0 (.int .u8):=Tryz.underlying5
def iU8:Zp.info? 5=A0 Tryz.t5:=by kernel_rfl
def sU8:Tryz.t5.size=1:=rfl
def zU8:Tryz.t5.zero=A0 (Zi .u8 0):=rfl
def bU8:Tryz.t5.bytes=1:=rfl
def iU32:Zp.info? 34=A0 Tryz.t34:=by kernel_rfl
def sU32:Tryz.t34.size=1:=rfl
def w64{n:Int}(w: -9223372036854775808<=n:=by omega)(h:n<=9223372036854775807:=by omega):Zw Zk n=n:=IntWalk.i64_in _ ⟨w,h⟩
def up{k n:Nat}(h:k<n)(w:n<=9223372036854775807):Zw Zk ((k:Int)+1)=((k+1:Nat):Int):=by rw[w64];omega
def leftN(n:Nat):List A4->A5->Nat:=λvs _=>match vs.getLast? with
 |some (.int _ i)=>n - i.toNat
 |_=>0
def qy5(ws:List B32):∀v∈ws.map uV,qn1 v:=λv h=>by obtain⟨x,_,rfl⟩:=B2.1 h;trivial
def qm4(ws:List B32):Array A4:=(ws.map uV).toArray
def qof(ws:List B32):(qm4 ws).size=ws.length:=by simp[qm4]
def qg01:∀k:Fin 32,0<k.val->Zw .u64 ↑((Am (Aa .u64) (Zw .u64 (Zw Zk (0 -(k.val:Int))))&&& Am (Aa .u64) 31).toNat)=((32 - k.val:Nat):Int)/\Zw .u64 (32 -((32 - k.val:Nat):Int))=(k.val:Int):=by decide+kernel
def qtg{W w:A5}{F:List Asn}(x:B32)(k:Nat)(c:0<k)(d:k<32)(b:St W F w):qb Zp 406 #[uV x,Zi Zk (Zw Zk (0 -(k:Int)))] w λv w'=>v=uV (qv6 x k)/\St W F w':=by obtain⟨a,h⟩:=qg01 ⟨k,d⟩ c;dsimp only at a h;refine F406_of ?_;rw[a,h];refine⟨by omega,by omega,?_,b⟩;rw[qzo x _ (by omega),q6j x _ (by omega),q4n];unfold qv6 uV;rw[BitVec.or_comm]
def q4b{W w:A5}{F:List Asn}(x:B32)(a b c:Nat)(d:Bool)(m:0<a/\a<32)(j:0<b/\b<32)(n:0<c/\c<32)(e:St W F w):
 qb Zp 404 #[uV x,Zg #[Zi Zk a,Zi Zk b,Zi Zk c],Zb d] w λv w'=>v=uV (qv6 x a ^^^ qv6 x b ^^^(if d=Ac then x >>> c else qv6 x c))/\St W F w':=by
 refine F404_of (zh e λf w e=>?_);have e:St W (Row f 163 [Zi Zk a,Zi Zk b,Zi Zk c]::F) w:=e;refine IxP.row (k:=2) yR (by decide) (z12 0 e yR yR ((qtg x c n.1 n.2 e).of λv w ⟨i,e⟩=>⟨_,i,?_⟩));refine⟨λvs w=>vs=[uV (if d=Ac then x >>> c else qv6 x c)]/\St W (Row f 163 [Zi Zk a,Zi Zk b,Zi Zk c]::F) w,za (λh=>?_) λh=>⟨by rw[yA (by simp[h])];rfl,e⟩,λlast w o=>?_⟩
 .refine IxP.row (k:=2) yR (by decide) (z12 0 e yR yR ⟨by omega,?_,e⟩);rw[q6j x c (by omega),yB h];rfl
 obtain⟨l,e⟩:=o;generalize (if d=Ac then x >>> c else qv6 x c)=z at l⊢;cases l;have g:=z6 W (Row f 163 [Zi Zk a,Zi Zk b,Zi Zk c]::F);refine⟨StC W _,zd e,IxP.row (k:=0) yR (by decide) (IxP.row (k:=1) yR (by decide) ⟨_,z02 0 g yR yR,_,z02 0 g yR yR,?_⟩)⟩;refine zk (α:=Unit) (V:=λ_=>uV (qv6 x a)) (B:=λ_=>Row f 163 [Zi Zk a,Zi Zk b,Zi Zk c]::F) () g (λG w h=>(qtg x a m.1 m.2 h).of λv w' ⟨i,h⟩=>⟨_,i,(),rfl,h⟩) λ_=>⟨_,rfl,z02 0 g yR yR,?_⟩;refine zk (α:=Unit) (V:=λ_=>uV (qv6 x b)) (B:=λ_=>Row f 163 [Zi Zk a,Zi Zk b,Zi Zk c]::F) () g (λG w h=>(qtg x b j.1 j.2 h).of λv w' ⟨i,h⟩=>⟨_,i,(),rfl,h⟩) λ_=>⟨_,rfl,trivial,λG w h=>⟨?_,(zb h).drop⟩⟩;rw[qkj,qkj];rfl
def qxp{W w:A5}{F:List Asn}(h:St W F w):qb Zp 403 #[] w λv w'=>v=Zg (qm4 K64)/\St W F w':=by
 refine F403_of (zh h λb w h=>⟨rfl,StA.r 0 h yR yR (λv a=>?_) λw h=>LdA.r 0 h yR yR ⟨?_,h.drop⟩⟩);.exact qy5 K64 v a
 .kernel_rfl
def q5q{W w:A5}{F:List Asn}(h:St W F w):qb Zp 392 #[] w λv w'=>v=Zg (qm4 H0.l)/\St W F w':=by
 refine F392_of (zh h λb w h=>⟨rfl,StA.r 0 h yR yR (λv a=>?_) λw h=>LdA.r 0 h yR yR ⟨?_,h.drop⟩⟩);.exact qy5 H0.l v a
 .kernel_rfl
def qdr(l:List UInt8)(c:UInt8)(a:B32):qfc (l++[c]) a=qfc l a <<< 8|||c.toBitVec.setWidth 32:=by
 induction l generalizing a with
 |nil=>rfl
 |cons x r ih=>exact ih _
def wAt(bs:List UInt8)(i j:Nat):B32:=qfc ((bs.drop (4*j)).take (min 4 (i - 4*j))) 0
def q4c(bs:List UInt8)(i:Nat):List B32:=(Bq 64).map (wAt bs i)
def qm9(bs:List UInt8)(i:Nat):(q4c bs i).length=64:=by simp[q4c]
def qxb(bs:List UInt8)(i j:Nat)(h:j<64):(q4c bs i)[j]?=A0 (wAt bs i j):=by unfold q4c;rw[A8,Bc h];rfl
def qew(bs:List UInt8)(i:Nat){c:UInt8}(h:bs[i]?=A0 c):wAt bs (i+1) (i/4)=wAt bs i (i/4) <<< 8|||c.toBitVec.setWidth 32:=by
 unfold wAt;have w:min 4 (i+1 - 4*(i/4))=(i - 4*(i/4))+1:=by omega
 have a:min 4 (i - 4*(i/4))=i - 4*(i/4):=by omega
 rw[w,a,B9,Di,show 4*(i/4)+(i - 4*(i/4))=i by omega,h];exact qdr _ _ _
def qlu(bs:List UInt8)(i j:Nat)(h:j≠i/4):wAt bs (i+1) j=wAt bs i j:=by unfold wAt;rw[show min 4 (i+1 - 4*j)=min 4 (i - 4*j)by omega]
def qis(bs:List UInt8)(i:Nat){c:UInt8}(w:bs[i]?=A0 c)(a:i<64):q4c bs (i+1)=(q4c bs i).set (i/4) (wAt bs i (i/4) <<< 8|||c.toBitVec.setWidth 32):=by
 refine Ba λj=>?_;rw[Do];rcases C3 j 64 with h|h
 .rw[qxb bs _ j h,qxb bs _ j h];by_cases e:i/4=j
  .subst e;rw[yB yR,yB (by rw[qm9];exact h),qew bs i w]
  .rw[yA e,qlu bs i j (λk=>e k.symm)]
 .rw[Ag (by rw[qm9];exact h),Ag (by rw[qm9];exact h),yA (by omega)]
def qet(bs:List UInt8):q4c bs 0=A1 64 0:=by
 refine Ba λj=>?_;rcases C3 j 64 with h|h
 .rw[qxb bs _ j h,Cy,yB h];unfold wAt;rw[Nat.zero_sub,Nat.min_zero,C4];rfl
 .rw[Ag (by rw[qm9];exact h),Ag (by simpa using h)]
def q1u(bs:List UInt8):q4c bs 64=w16 bs++A1 48 0:=by
 have a:(w16 bs).length=16:=by simp[w16]
 refine Ba λj=>?_;rcases C3 j 64 with h|h
 .rw[qxb bs _ j h];rcases C3 j 16 with w|w
  .rw[B6 (by omega)];unfold w16;rw[A8,Bc w];unfold wAt;rw[show min 4 (64 - 4*j)=4 by omega];rfl
  .rw[Cs (by omega),Cy,yB (by omega)];unfold wAt;rw[show min 4 (64 - 4*j)=0 by omega,C4];rfl
 .rw[Ag (by rw[qm9];exact h),Ag (by simp[a];omega)]
def q08(bs:List UInt8)(m:Nat):List B32:=q53 (w16 bs) m++A1 (48 - m) 0
def q67(bs:List UInt8):(w16 bs).length=16:=by simp[w16]
def qym(bs:List UInt8)(m:Nat)(h:m<=48):(q08 bs m).length=64:=by unfold q08;rw[A7,q55,q67,Ah];omega
def qbt(bs:List UInt8)(m:Nat)(h:m<48):q08 bs (m+1)=(q08 bs m).set (m+16) (q1l (q53 (w16 bs) m)):=by
 have w:(q53 (w16 bs) m).length=m+16:=by rw[q55,q67];omega
 unfold q08;rw[Aq _ _ (by omega),w,Bu,show 48 - m=(48 -(m+1))+1 by omega,Co,Bf];simp[q53]
def qbw(bs:List UInt8)(m j:Nat)(h:j<m+16):(q08 bs m)[j]?=A0 ((q53 (w16 bs) m).getD j 0):=by
 have w:(q53 (w16 bs) m).length=m+16:=by rw[q55,q67];omega
 unfold q08;rw[B6 (by omega),Br,A6 (by omega)];rfl
def qln(bs:List UInt8)(m:Nat):q1l (q53 (w16 bs) m)=quq ((q53 (w16 bs) m).getD (m+14) 0)+(q53 (w16 bs) m).getD (m+9) 0+qvp ((q53 (w16 bs) m).getD (m+1) 0)+(q53 (w16 bs) m).getD m 0:=by
 unfold q1l;have h:(q53 (w16 bs) m).length=m+16:=by rw[q55,q67];omega
 rw[h];rfl
def q6c{ws:List B32}{j:Nat}{x:B32}(h:ws[j]?=A0 x):(ws.map uV)[j]?=A0 (Zi .u32 (nI x)):=by rw[A8,h];rfl
def qtl(ws:List B32)(j:Nat)(x:B32):(ws.map uV).set j (uV x)=(ws.set j x).map uV:=by rw[Bv]
def IxP.by_{W w:A5}{l:List Asn}{p:Option B1}{bs:List UInt8}{n k:Nat}{i:Int}{x:UInt8}{K:B1->Prop}(c:Rd l p (bs.map qd))(b:St W l w)(j:i=(k:Int))(e:k<n)(f:bs[k]?=A0 x)
 (g:∀a,w.cell? a=A0 (qd x)->K a):IxP p n i 1 K:=by
 have h:(bs.map qd)[k*1]?=A0 (qd x):=by rw[Aw,A8,f];rfl
 refine IxP.i c b j e h λa d=>g _ ?_;exact c.at1 b d h
def qwp{W w:A5}{F:List Asn}{p:Option B1}{c:Nat}{bs:List UInt8}(T:Rd F p (bs.map qd))(O:bs.length<=c)(D:64<=bs.length)(d:St W F w):
 qb Zp 394 #[Zl p bs.length c] w λv w'=>v=Zg (qm4 (qi4 (bs.take 64)))/\St W F w':=by
 refine F394_of (zh d λo w1 d=>zh d λn P d=>SlP.i (a:=0) (b:=64) T (by simp) O yR yR (by omega) D λY r=>?_);rw[D2,Aw,Ct,Bb,<-Bj]at r;have d:St W (Row n 503 ((q4c (bs.take 64) 0).map uV)::Row o 503 ((A1 64 (0:B32)).map uV)::F) P:=by rw[qet];exact d
 generalize I:bs.take 64=q at r d⊢;have L:q.length=64:=by rw[<-I];simp;omega
 refine⟨λvs w=>∃i:Nat,vs=[Zi Zk i]/\i<=64/\St W (Row n 503 ((q4c q i).map uV)::Row o 503 ((A1 64 (0:B32)).map uV)::F) w,leftN 64,⟨0,rfl,by omega,d⟩,λx w z=>?_⟩;obtain⟨i,C,X,d⟩:=z;cases C;refine za (λf=>?_) λs=>?_
 .have f:i<64:=by have:=yC f;omega
  have H:q[i]?=A0 (q[i]'(by omega)):=A6 _;have M:Zw Zk (Ea (i:Int) 4)=((i/4:Nat):Int):=by rw[Bs (by omega),w64];omega
  rw[M];refine IxP.by_ ((r.cons _).cons _) d yR (by omega) H λa N=>zq N ⟨by decide,by decide,?_⟩;refine IxP.row yR (by omega) (z12 0 d yR (q6c (qxb q i (i/4) (by omega))) ⟨by decide,IxP.row yR (by omega) (z0o 0 d yR (by rw[A9,qm9];omega) λQ d=>?_)⟩);have E:=qzo (wAt q i (i/4)) 8 (by omega);rw[show(Cb ((8:Nat):Int))=Cb 8 from rfl]at E;have K:Zw .u32 ((q[i]'(by omega)).toNat:Int)=nI ((q[i]'(by omega)).toBitVec.setWidth 32):=qny _;rw[E,K,q4n]at d;have d:St W (Row n 503 ((q4c q (i+1)).map uV)::Row o 503 ((A1 64 (0:B32)).map uV)::F) Q:=by rw[qis q i H f,<-qtl];exact d
  rw[up f (by omega)];exact⟨⟨i+1,rfl,by omega,d⟩,by show 64 -(i+1)<64 - i;omega⟩
 .have y:i=64:=by have:=yD s;omega
  subst y;have d:St W (Row n 503 ((q08 q 0).map uV)::Row o 503 ((A1 64 (0:B32)).map uV)::F) w:=by rw[q1u]at d;exact d
  refine⟨λvs w=>∃m:Nat,vs=[Zi Zk ((m+16:Nat):Int)]/\m<=48/\St W (Row n 503 ((q08 q m).map uV)::Row o 503 ((A1 64 (0:B32)).map uV)::F) w,leftN 64,⟨0,rfl,by omega,d⟩,λx w z=>?_⟩;obtain⟨m,C,J,d⟩:=z;cases C;refine za (λf=>?_) λs=>?_
  .have f:m<48:=by have:=yC f;omega
   have l:=z6 W (Row n 503 ((q08 q m).map uV)::Row o 503 ((A1 64 (0:B32)).map uV)::F);have g:∀j,j<m+16->((q08 q m).map uV)[j]?=A0 (Zi .u32 (nI ((q53 (w16 q) m).getD j 0))):=λj R=>q6c (qbw q m j R);refine⟨StC W _,zd d,?_⟩;refine IxP.row (k:=m+14) (by rw[w64];omega) (by omega) (IxP.row (k:=m+9) (by rw[w64];omega) (by omega) (IxP.row (k:=m+1) (by rw[w64];omega) (by omega) (IxP.row (k:=m) (by rw[w64];omega) (by omega) ?_)));refine⟨_,z02 0 l yR (g _ (by omega)),_,z02 0 l yR (g _ (by omega)),_,z02 0 l yR (g _ (by omega)),_,z02 0 l yR (g _ (by omega)),?_⟩;refine zk (α:=Unit) (V:=λ_=>uV (quq ((q53 (w16 q) m).getD (m+14) 0))) (B:=λ_=>Row n 503 ((q08 q m).map uV)::Row o 503 ((A1 64 (0:B32)).map uV)::F) () l (λG w h=>(q4b _ 17 19 10 Ac (by decide) (by decide) (by decide) h).of λv w' ⟨u,h⟩=>⟨_,u,(),rfl,h⟩) λ_=>⟨_,rfl,⟨z02 0 l yR (g _ (by omega)),z02 0 l yR (g _ (by omega)),z02 0 l yR (g _ (by omega))⟩,?_⟩;refine zk (α:=Unit) (V:=λ_=>uV (qvp ((q53 (w16 q) m).getD (m+1) 0))) (B:=λ_=>Row n 503 ((q08 q m).map uV)::Row o 503 ((A1 64 (0:B32)).map uV)::F) () l (λG w h=>(q4b _ 7 18 3 Ac (by decide) (by decide) (by decide) h).of λv w' ⟨u,h⟩=>⟨_,u,(),rfl,h⟩) λ_=>⟨_,rfl,⟨z02 0 l yR (g _ (by omega)),z02 0 l yR (g _ (by omega))⟩,?_⟩;refine IxP.row yR (by omega) (Ef.st 0 l yR (by rw[A9,qym q m J];omega) ⟨rfl,trivial,λG w h=>?_⟩);have d:=zb h;rw[qcd,qcd,qcd,<-qln]at d;have d:St W (Row n 503 ((q08 q (m+1)).map uV)::Row o 503 ((A1 64 (0:B32)).map uV)::F) w:=by rw[qbt q m f,<-qtl];exact d
   rw[w64];exact⟨⟨m+1,by rw[show((m+16:Nat):Int)+1=((m+1+16:Nat):Int)by omega],by omega,d⟩,by show 64 -(((m+16:Nat):Int)+1).toNat<64 -(m+16);omega⟩
  .have A:m=48:=by have:=yD s;omega
   subst A;have e:q08 q 48=qi4 q:=by unfold q08 qi4;simp
   rw[e]at d;have t:(qi4 q).length=64:=by rw[<-e];exact qym q 48 (by omega)
   generalize qi4 q=ws at d t⊢;refine LdA.r 0 d yR (by rw[A9,t]) ⟨by simp[t],StA.r 1 d yR (by simp[t]) (λv u=>qy5 ws v (by simpa using u)) λU d=>LdA.r 1 d yR (by simp[t]) ⟨rfl,?_⟩⟩;exact St.drop (St.drop d)
def uL32:Zp.underlying 511=A0 (.slice 34):=Tryz.underlying511
def qap{α:Type}(A B:List α)(i:Nat)(w:i<A.length)(h:i<B.length):(A.take i++B.drop i).set i A[i]=A.take (i+1)++B.drop (i+1):=by rw[Aq _ _ (by rw[Aj];omega),Aj,Cj (by omega),Bu,Cu h,Bf,List.take_succ_eq_append_getElem w,B0];rfl
def qgp{α:Type}(A B:List α)(i:Nat)(h:i<=A.length):(A.take i++B.drop i)[i]?=B[i]?:=by rw[Cs (by rw[Aj];omega),Aj,Cj h,Bu,Di,Nat.add_zero]
def q4p{α:Type}(A B:List α)(i:Nat)(h:A.length=B.length):(A.take i++B.drop i).length=B.length:=by simp;omega
def qgj{α:Type}(A B:List α)(i:Nat)(w:A.length<=i)(h:B.length<=i):A.take i++B.drop i=A:=by rw[Ae w,List.drop_eq_nil_of_le h,Bh]
def qpd(s:S8)(K ws:List B32)(i:Nat):S8:=q1d s ((K.zip ws).take i)
def qlt(s:S8)(K ws:List B32)(i:Nat){k x:B32}(w:K[i]?=A0 k)(h:ws[i]?=A0 x):qpd s K ws (i+1)=rnd (qpd s K ws i) k x:=by
 unfold qpd;rw[B9,q0x];have:(K.zip ws)[i]?=A0 (k,x):=by rw[List.getElem?_zip_eq_some];exact⟨w,h⟩
 rw[this];rfl
def qzw(h s:S8)(i:Nat)(e:i<8):∃a b c,h.l[i]?=A0 a/\s.l[i]?=A0 b/\(qa7 h s).l[i]?=A0 c/\c=b+a:=by
 have:∀i,i<8->((qa7 h s).l[i]?=(h.l[i]?.bind λa=>s.l[i]?.map λb=>b+a))/\(h.l[i]?).isSome/\(s.l[i]?).isSome:=by intro i e;rcases i with _|_|_|_|_|_|_|_|i;all_goals first|omega|exact⟨by simp[S8.l,qa7,BitVec.add_comm],rfl,rfl⟩
 obtain⟨f,g,j⟩:=this i e;obtain⟨a,d⟩:=Cw.1 g;obtain⟨b,w⟩:=Cw.1 j;rw[d,w]at f;exact⟨a,b,_,d,w,f,rfl⟩
def q5o{W w:A5}{F:List Asn}(f:S8)(ws:List B32)(hw:ws.length=64)(d:St W F w):
 qb Zp 393 #[Zg (qm4 f.l),Zg (qm4 ws)] w λv w'=>v=Zg (qm4 (qa7 f (q1d f (K64.zip ws))).l)/\St W F w':=by
 have M:K64.length=64:=rfl;refine F393_of (zh d λu w5 d=>zh d λr w7 d=>zh d λt w9 d=>?_);have d:St W (Row t 500 ((A1 8 (0:B32)).map uV)::Row r 503 (ws.map uV)::Row u 500 (f.l.map uV)::F) w9:=d;have m:=z6 W (Row t 500 ((A1 8 (0:B32)).map uV)::Row r 503 (ws.map uV)::Row u 500 (f.l.map uV)::F);refine⟨StC W _,zd d,qm4 f.l,rfl,QtA.r 2 m yR yR,?_⟩;refine zk (α:=Unit) (V:=λ_=>Zg (qm4 K64)) (B:=λ_=>Row t 500 ((A1 8 (0:B32)).map uV)::Row r 503 (ws.map uV)::Row u 500 (f.l.map uV)::F) () m (λG w h=>(qxp h).of λv w' ⟨z,h⟩=>⟨qm4 K64,rfl,z,(),rfl,h⟩) λ_=>⟨qm4 K64,rfl,rfl,QtA.r 2 m yR yR,λl n=>?_⟩;generalize K64=K at M⊢;refine Ef.stP 1 ((m.push l _).push n _) yR yR yR (qy5 f.l) ⟨rfl,trivial,?_⟩;refine Ef.stP 0 ir yR (by simp[qm4,M]) (by rw[qof,M];rfl) (λv z=>qy5 K v (by simpa [qm4]using z)) ⟨rfl,trivial,λG w h=>?_⟩;have d:=zb h;have d:St W (Row n 503 (K.map uV)::Row l 500 ((qpd f K ws 0).l.map uV)::Row t 500 ((A1 8 (0:B32)).map uV)::Row r 503 (ws.map uV)::Row u 500 (f.l.map uV)::F) w:=d;clear h m;refine⟨λvs w=>∃i:Nat,vs=[Zi Zk i]/\i<=64/\St W (Row n 503 (K.map uV)::Row l 500 ((qpd f K ws i).l.map uV)::Row t 500 ((A1 8 (0:B32)).map uV)::Row r 503 (ws.map uV)::Row u 500 (f.l.map uV)::F) w,leftN 64,⟨0,rfl,by omega,d⟩,λx w N=>?_⟩;obtain⟨i,P,hi,d⟩:=N;cases P;refine za (λg=>?_) λD=>?_
 .have g:i<64:=by have:=yC g;omega
  have E:K[i]?=A0 (K[i]'(by omega)):=A6 _;have H:ws[i]?=A0 (ws[i]'(by omega)):=A6 _;have J:=qlt f K ws i E H;generalize qpd f K ws i=s at d J;generalize K[i]'(by omega)=k at E J;generalize ws[i]'(by omega)=x at H J;have E:=q6c E;have H:=q6c H;generalize y:(Row n 503 (K.map uV)::Row l 500 (s.l.map uV)::Row t 500 ((A1 8 (0:B32)).map uV)::Row r 503 (ws.map uV)::Row u 500 (f.l.map uV)::F)=L at d;have m:=z6 W L;have X:nth L 0=A0 (Row n 503 (K.map uV)):=by rw[<-y];rfl
  have p:nth L 1=A0 (Row l 500 (s.l.map uV)):=by rw[<-y];rfl
  have U:nth L 3=A0 (Row r 503 (ws.map uV)):=by rw[<-y];rfl
  refine⟨StC W L,zd d,IxP.row (k:=0) yR (by decide) (IxP.row (k:=1) yR (by decide) (IxP.row (k:=2) yR (by decide) (IxP.row (k:=4) yR (by decide) ?_)))⟩;refine⟨nI s.a,z02 1 m p yR,nI s.b,z02 1 m p yR,nI s.c,z02 1 m p yR,nI s.e,z02 1 m p yR,λG w h=>?_⟩;have d:=zb h;refine⟨StC W L,zd d,IxP.row (k:=7) yR (by decide) (IxP.row (k:=6) yR (by decide) (IxP.row (k:=5) yR (by decide) (IxP.row (k:=6) yR (by decide) (IxP.row (k:=i) yR g (IxP.row (k:=i) yR g ?_)))))⟩;refine⟨nI s.h,z02 1 m p yR,nI s.g,z02 1 m p yR,nI s.f,z02 1 m p yR,nI s.g,z02 1 m p yR,nI k,z02 0 m X E,nI x,z02 3 m U H,?_⟩;refine zk (α:=Unit) (V:=λ_=>uV (q9v s.e)) (B:=λ_=>L) () m (λG w h=>(q4b s.e 6 11 25 Ap (by decide) (by decide) (by decide) h).of λv w' ⟨z,h⟩=>⟨_,z,(),rfl,h⟩) λ_=>⟨nI (q9v s.e),rfl,⟨z02 3 m U H,z02 0 m X E,z02 1 m p yR,z02 1 m p yR,z02 1 m p yR,z02 1 m p yR⟩,λG w h=>?_⟩;have d:=zb h;refine(q4b s.a 2 13 22 Ap (by decide) (by decide) (by decide) d).of λv w ⟨z,d⟩=>⟨nI (qsz s.a),z,?_⟩;refine⟨StC W L,zd d,⟨⟨by decide,by decide,by decide⟩,⟨⟨by decide,by decide,by decide⟩,?_⟩⟩⟩;refine Ef.n (α:=Unit) (V:=λ_=>Zi Zk ((min 7 7:Nat):Int)) (B:=λ_=>[Row l 500 ([s.a,s.a,s.b,s.c,s.d,s.e,s.f,s.g].map uV)]) () 1 m p (λG w h=>?_) λ_=>⟨_,rfl,trivial,λG w h=>?_⟩
  .refine q0a (q:=l) (o:=1) (cs:=[s.a,s.b,s.c,s.d,s.e,s.f,s.g].map uV) uL32 iU32 sU32 h (C9 yR) (λj v Q=>⟨⟨l,0,A3⟩,rfl,?_⟩) yR (qy5 _) λw' h'=>⟨_,rfl,(),rfl,z17 1 p (B:=[_]) h'⟩;rw[qi1,C5];refine h.ld ?_;have O:j<7:=by
    rcases C3 j 7 with h|h;.exact h
    .rw[Ag (by simpa using h)]at Q;cases Q
   have e:(List.map uV s.l)=[s.a,s.b,s.c,s.d,s.e,s.f,s.g].map uV++[uV s.h]:=rfl;rw[e,B6 (by simpa using O)];exact Q
  have d:=zb h;rw[<-y]at d;have d:St W (Row n 503 (K.map uV)::Row l 500 ([s.a,s.a,s.b,s.c,s.d,s.e,s.f,s.g].map uV)::Row t 500 ((A1 8 (0:B32)).map uV)::Row r 503 (ws.map uV)::Row u 500 (f.l.map uV)::F) w:=d;refine IxP.row (k:=4) yR (by decide) (z12 (x:=nI s.d) 1 d yR yR (IxP.row (k:=0) yR (by decide) (z0o 1 d yR (by simp) λw d=>IxP.row (k:=4) yR (by decide) (z0o 1 d yR (by simp) λw d=>?_))));simp only[qcd,qkj,q0y,q4n,q301,qnz]at d;have d:St W (Row n 503 (K.map uV)::Row l 500 ((qpd f K ws (i+1)).l.map uV)::Row t 500 ((A1 8 (0:B32)).map uV)::Row r 503 (ws.map uV)::Row u 500 (f.l.map uV)::F) w:=by rw[J];exact d
  rw[up g (by omega)];exact⟨⟨i+1,rfl,by omega,d⟩,by show 64 -(i+1)<64 - i;omega⟩
 .have C:i=64:=by have:=yD D;omega
  subst C;have e:qpd f K ws 64=q1d f (K.zip ws):=by unfold qpd;rw[Ae (by simp[M,hw])]
  rw[e]at d;generalize q1d f (K.zip ws)=s at d⊢;have d:St W (Row n 503 (K.map uV)::Row l 500 (((qa7 f s).l.take 0++s.l.drop 0).map uV)::Row t 500 ((A1 8 (0:B32)).map uV)::Row r 503 (ws.map uV)::Row u 500 (f.l.map uV)::F) w:=d;refine⟨λvs w=>∃i:Nat,vs=[Zi Zk i]/\i<=8/\St W (Row n 503 (K.map uV)::Row l 500 (((qa7 f s).l.take i++s.l.drop i).map uV)::Row t 500 ((A1 8 (0:B32)).map uV)::Row r 503 (ws.map uV)::Row u 500 (f.l.map uV)::F) w,leftN 8,⟨0,rfl,by omega,d⟩,λx w N=>?_⟩;obtain⟨i,P,hi,d⟩:=N;cases P;refine za (λg=>?_) λD=>?_
  .have g:i<8:=by have:=yC g;omega
   obtain⟨a,b,c,h1,h2,T,h4⟩:=qzw f s i g;have l1:(qa7 f s).l.length=8:=rfl;have l2:s.l.length=8:=rfl;have Z:(((qa7 f s).l.take i++s.l.drop i).map uV)[i]?=A0 (Zi .u32 (nI b)):=q6c (by rw[qgp _ _ _ (by omega),h2]);have g1:=q6c h1;have em:((qa7 f s).l.take i++s.l.drop i).set i c=(qa7 f s).l.take (i+1)++s.l.drop (i+1):=by rw[<-qap _ _ i (by omega) (by omega)];congr 1;rw[A6 (by omega)]at T;exact(Option.some.inj T).symm
   have Y:=q4p (qa7 f s).l s.l i yR;generalize (qa7 f s).l.take i++s.l.drop i=A at d Z em Y;generalize R:(qa7 f s).l.take (i+1)++s.l.drop (i+1)=A2 at em;have m:=z6 W (Row n 503 (K.map uV)::Row l 500 (A.map uV)::Row t 500 ((A1 8 (0:B32)).map uV)::Row r 503 (ws.map uV)::Row u 500 (f.l.map uV)::F);refine⟨StC W _,zd d,IxP.row (k:=i) yR g (IxP.row (k:=i) yR g ⟨nI b,z02 1 m yR Z,nI a,z02 4 m yR g1,IxP.row (k:=i) yR g ?_⟩)⟩;refine Ef.st 1 m yR (by rw[A9,Y];exact g) ⟨rfl,trivial,λG w h=>?_⟩;have d:=zb h;rw[qcd,<-h4]at d;have d:St W (Row n 503 (K.map uV)::Row l 500 (A2.map uV)::Row t 500 ((A1 8 (0:B32)).map uV)::Row r 503 (ws.map uV)::Row u 500 (f.l.map uV)::F) w:=by rw[<-em,<-qtl];exact d
   subst R;rw[up g (by omega)];exact⟨⟨i+1,rfl,by omega,d⟩,by show 8 -(i+1)<8 - i;omega⟩
  .have C:i=8:=by have:=yD D;omega
   subst C;rw[qgj (qa7 f s).l s.l 8 (As 8) (As 8)]at d;have I:(qa7 f s).l.length=8:=rfl;generalize (qa7 f s).l=A at d I⊢;refine LdA.r 1 d yR (by rw[A9,I]) ⟨by simp[I],StA.r 2 d yR (by simp[I]) (λv z=>qy5 A v (by simpa using z)) λw4 d=>LdA.r 2 d yR (by simp[I]) ⟨rfl,?_⟩⟩;exact z0h [_,_,_,_,_] d
def qx6(n:Nat):Nat:=64*(n/64)
def qc3(n:Nat):Nat:=if n%64+9>64 then 128 else 64
def qob(n:Nat):n%64+zs n+9=qc3 n:=by unfold zs qc3;split<;>omega
def qf6(bs:List UInt8):List UInt8:=bs.drop (qx6 bs.length)
def q3a(bs:List UInt8):(qf6 bs).length=bs.length%64:=by unfold qf6 qx6;rw[Bw];omega
def qgo(n:Nat):qiq n=n/64+qc3 n/64:=by
 have h:=qob n;have w:qc3 n=64\/qc3 n=128:=by unfold qc3;split<;>simp
 unfold qiq;rcases w with e|e<;>rw[e]at h⊢<;>omega
def qqu(bs:List UInt8):qqm bs=qt5 (qt5 H0 (bs.length/64) bs) (qc3 bs.length/64) (qf6 bs++qud bs.length):=by unfold qqm qgr;rw[qgo,qov,qom _ _ _ _ (by omega),List.drop_append_of_le_length (by omega)];rfl
def qf8(bs:List UInt8)(i:Nat):List UInt8:=qf6 bs++(128::(A1 (zs bs.length) 0++(A1 (8 - i) 0++(qqa bs.length).drop (8 - i))))++A1 (128 - qc3 bs.length) 0
def qf9(n:Nat):(qqa n).length=8:=rfl
def qhn(n:Nat):qc3 n<=128:=by unfold qc3;split<;>omega
def qdn(bs:List UInt8)(i:Nat)(h:i<=8):(qf8 bs i).length=128:=by have a:=qob bs.length;have w:=q3a bs;have b:=qhn bs.length;unfold qf8;simp only[A7,Ab,Ah,Bw,qf9,w];omega
def q4z(bs:List UInt8):(qf8 bs 8).take (qc3 bs.length)=qf6 bs++qud bs.length:=by
 have w:=qob bs.length;have h:=q3a bs;have e:qf8 bs 8=(qf6 bs++qud bs.length)++A1 (128 - qc3 bs.length) 0:=by unfold qf8 qud;simp
 rw[e,Cg (by rw[A7,qeh,h];omega),Ae (by rw[A7,qeh,h];omega)]
def qbs(bs:List UInt8)(i:Nat)(h:i<8):qf8 bs (i+1)=(qf8 bs i).set (qc3 bs.length - 1 - i) ((qqa bs.length).getD (7 - i) 0):=by
 have a:=qob bs.length;have w:=q3a bs;have e:qc3 bs.length - 1 - i=(qf6 bs).length+(1+zs bs.length+(7 - i)):=by omega
 unfold qf8;rw[List.set_append_left _ _ (by simp only[A7,Ab,Ah,Bw,qf9];omega)];congr 1;rw[e,Aq _ _ (by omega),show(qf6 bs).length+(1+zs bs.length+(7 - i)) -(qf6 bs).length=(zs bs.length+(7 - i))+1 by omega,Dj];congr 2;rw[Aq _ _ (by rw[Ah];omega),Ah,show zs bs.length+(7 - i) - zs bs.length=7 - i by omega];congr 1;rw[show 8 - i=(7 - i)+1 by omega,List.replicate_succ',B0,Aq _ _ (by simp),Ah,Bu,Cz,Bf,show 8 -(i+1)=7 - i by omega];congr 1;rw[Cu (by rw[qf9];omega),Br,A6 (by rw[qf9];omega)];rfl
def qaw(n i:Nat)(h:i<8):(qqa n).getD (7 - i) 0=ofB (D3 8 (8*n/2 ^(8*i))):=by rcases i with _|_|_|_|_|_|_|_|i;all_goals first|omega|rfl
def qzy(bs:List UInt8):qf8 bs 0=(qf6 bs++A1 (128 - bs.length%64) 0).set (bs.length%64) 128:=by
 have a:=qob bs.length;have h:=q3a bs;have b:=qhn bs.length;unfold qf8;have w:A1 (128 - bs.length%64) (0:UInt8)=0::A1 (127 - bs.length%64) 0:=by rw[show 128 - bs.length%64=(127 - bs.length%64)+1 by omega,Co]
 rw[Aq _ _ (by omega),h,Bu,w,Bf,B0,Cz];congr 2;have:(qqa bs.length).drop (8 - 0)=[]:=by simp[qqa]
 rw[this,Bh,B0,C8,C8];congr 1;omega
def qmc(b:UInt8)(r:List UInt8):q45 (b::r)=qd9 (b.toNat/16)::qd9 (b.toNat%16)::q45 r:=rfl
def qnv(a b:List UInt8):q45 (a++b)=q45 a++q45 b:=by
 induction a with
 |nil=>rfl
 |cons x r h=>simp[qmc,h]
def qyb(a:List UInt8):(q45 a).length=2*a.length:=by
 induction a with
 |nil=>rfl
 |cons x r h=>simp[qmc,h];omega
def qz2(l:List UInt8):Array A4:=(l.map qd).toArray
def ql7(l:List UInt8):(qz2 l).size=l.length:=by simp[qz2]
def q56(l:List UInt8):∀v∈(qz2 l).toList,qn1 v:=λv h=>q82 v (by simpa [qz2]using h)
def uS:Zp.underlying 9=A0 .string:=Tryz.underlying9
def qht(q:List UInt8):(qi4 q).length=64:=by unfold qi4;rw[q55,q67]
def qkz(s:S8)(q:List UInt8):blk s q=qa7 s (q1d s (K64.zip (qi4 q))):=rfl
def qmn{W:A5}{L:List Asn}{C:Cls}{b i c:Nat}{p:Option B1}{q:List UInt8}{s:S8}{R:A5->Prop}(hC:Is W C L)(t:nth L i=A0 (Row b 500 (s.l.map uV)))(X:Rd L p (q.map qd))(hc:q.length<=c)(U:64<=q.length)
 (hR:∀w,St W (put L i [Row b 500 ((blk s (q.take 64)).l.map uV)]) w->R w):
 ∃(e:Array A4),e.size=8/\Qt C (Zg e) (λl x=>LdA Zp 8 ⟨b,0,A3⟩ l λu=>x (Zg u) l)/\
 Ef C (λY J=>qb Zp 394 #[(Zl p q.length c)] Y λN H=>∃(j:Array A4),j.size=64/\N=(Zg j)/\J (Zg j) H) λv25 o=>
 ∃(f:Array A4),f.size=64/\v25=(Zg f)/\
 (Qt o (Zg e) (λn P=>LdA Zp 8 ⟨b,0,A3⟩ n λz=>P (Zg z) n))/\
 Ef o (λK I=>qb Zp 393 #[(Zg e),(Zg f)] K λA Z=>∃(g:Array A4),g.size=8/\A=(Zg g)/\I (Zg g) Z) λv37 h0=>
 ∃(a:Array A4),a.size=8/\v37=(Zg a)/\(True)/\
 Ef h0 (λE O=>E5 a=8/\StA Zp ⟨b,0,A3⟩ a E λM=>O (Zt #[]) M) λv45 r=>
 v45=(Zt #[])/\(True)/\∀y k,Cls.p r y k->R k:=by
 obtain⟨T,Q⟩:∃T,T=blk s (q.take 64):=⟨_,rfl⟩;obtain⟨ws,d⟩:∃ws,ws=qi4 (q.take 64):=⟨_,rfl⟩;rw[<-Q]at hR;have D:ws.length=64:=by rw[d,qht]
 have hw:∀{F:List Asn} {w:A5},Rd F p (q.map qd)->St W F w->qb Zp 394 #[Zl p q.length c] w λv w'=>v=Zg (qm4 ws)/\St W F w':=λX h=>by rw[d];exact qwp X hc U h
 have hb:∀{F:List Asn} {w:A5},St W F w->qb Zp 393 #[Zg (qm4 s.l),Zg (qm4 ws)] w λv w'=>v=Zg (qm4 T.l)/\St W F w':=λh=>by rw[Q,qkz,<-d];exact q5o s ws D h
 clear Q d;refine⟨qm4 s.l,rfl,QtA.r i hC t yR,?_⟩;refine zk (α:=Unit) (V:=λ_=>Zg (qm4 ws)) (B:=λ_=>L) () hC (λG w h=>(hw (X.app (pts G)) h).of λv w' ⟨m,h⟩=>⟨qm4 ws,by rw[qof,D],m,(),rfl,h⟩) λ_=>⟨qm4 ws,by rw[qof,D],rfl,QtA.r i (z6 W L) t yR,?_⟩;refine zk (α:=Unit) (V:=λ_=>Zg (qm4 T.l)) (B:=λ_=>L) () (z6 W L) (λG w h=>(hb h).of λv w' ⟨m,h⟩=>⟨qm4 T.l,rfl,m,(),rfl,h⟩) λ_=>⟨qm4 T.l,rfl,rfl,trivial,?_⟩;refine Ef.stA i (z6 W L) t yR yR (λv m=>qy5 T.l v m) ⟨rfl,trivial,λG w h=>hR w (zb h)⟩
def qdw(s:S8)(i:Nat):Zw .u8 (Dp (nI (s.l.getD (i/4) 0)) (2 ^ min (Cb ((24 - 8*(i%4):Nat):Int)) (Aa .u32)))=nI ((s.l.getD (i/4) 0 >>>(24 - 8*(i%4))).setWidth 8):=by rw[q6j _ _ (by omega),qky]
def q3w(s:S8)(i:Nat)(h:i<32):(qxa s)[i]?=A0 (outB s i):=by unfold qxa;rw[A8,Bc h];rfl
def qfh(s:S8):(qxa s).length=32:=by simp[qxa]
def zB(n:Nat):List UInt8:=A1 n 0
def qlm(A B:List UInt8)(i:Nat){x:UInt8}(h:A[i]?=A0 x)(a:i<B.length):(((A.take i++B.drop i).map qd).set i (qd x))=(A.take (i+1)++B.drop (i+1)).map qd:=by have w:=(Af.1 h).1;rw[<-Bv,<-qap A B i w a];congr 2;exact((Af.1 h).2).symm
def qev(m i:Nat):Zw .u8 (Dp (m:Nat) (2 ^(8*i)))=nI ((D3 8 (m/2 ^(8*i)))):=by
 have h:(2:Int) ^(8*i)=((2 ^(8*i):Nat):Int):=by norm_cast
 rw[h,Int.fdiv_eq_ediv_of_nonneg _ (Int.natCast_nonneg _),show((m:Nat):Int)/((2 ^(8*i):Nat):Int)=((m/2 ^(8*i):Nat):Int)by norm_cast,qtf]
def qd01(n i:Nat)(h:i<8):D3 8 (n%2 ^ 64/2 ^(8*i))=D3 8 (n/2 ^(8*i)):=by
 apply BitVec.eq_of_toNat_eq;rw[Dk,Dk]
 match i,h with
 |0,_=>simp only[Nat.mul_zero,Nat.pow_zero,Nat.div_one];omega
 |1,_=>simp only[Aw];omega
 |2,_=>simp only[Bx,By];omega
 |3,_=>simp only[Bx,By];omega
 |4,_=>simp only[Bx,By];omega
 |5,_=>simp only[Bx,By];omega
 |6,_=>simp only[Bx,By];omega
 |7,_=>simp only[Bx,By];omega
def q4w{W w:A5}{F:List Asn}{p:Option B1}{c:Nat}{bs:List UInt8}(Z:Rd F p (bs.map qd))(U:bs.length<=c)(hn:bs.length<=9223372036854775807)(d:St W F w):
 qb Zp 368 #[Zl p bs.length c] w λv w'=>v=Zg (qz2 (sha bs))/\St W F w':=by
 have P:Zw Zk ((Zw Zk (Ea (bs.length:Int) 64))*64)=((qx6 bs.length:Nat):Int):=by rw[Bs (by omega),w64 (n:=(bs.length:Int)/64) (by omega) (by omega),w64];unfold qx6;omega
 refine F368_of (zh d λu w d=>(q5q d).of λv w ⟨K,d⟩=>⟨qm4 H0.l,rfl,K,zh d λr w d=>⟨rfl,StA.r 0 d yR yR (λv K=>qy5 H0.l v K) λw d=>⟨by decide,?_⟩⟩⟩);rw[P];have d:St W (Row r 500 ((qt5 H0 0 bs).l.map uV)::Row u 411 ((zB 32).map qd)::F) w:=d;refine⟨λvs w=>∃k:Nat,vs=[Zi Zk ((64*k:Nat):Int)]/\k<=bs.length/64/\St W (Row r 500 ((qt5 H0 k bs).l.map uV)::Row u 411 ((zB 32).map qd)::F) w,leftN (bs.length+64),⟨0,rfl,by omega,d⟩,λx w I=>?_⟩;obtain⟨k,A,hk,d⟩:=I;cases A;refine za (λf=>?_) λm=>?_
 .have f:64*k<qx6 bs.length:=by have:=yC f;omega
  have z:64*k+64<=bs.length:=by unfold qx6 at f;omega
  refine⟨StC W _,zd d,SlP.i (a:=64*k) (b:=bs.length) Z (by simp) U yR yR (by omega) (As _) λQ l=>?_⟩;rw[Aw,Aw,<-Cx,<-Bj,Ae (by simp)]at l;have e:bs.length - 64*k=(bs.drop (64*k)).length:=Bw.symm;rw[e];refine qmn ir (i:=0) yR ((l.cons _).cons _) (by rw[<-e];omega) (by rw[<-e];omega) λw d=>?_;rw[<-q5k]at d;rw[w64];exact⟨⟨k+1,by rw[show((64*k:Nat):Int)+64=((64*(k+1):Nat):Int)by omega],by unfold qx6 at f;omega,d⟩,by show bs.length+64 -(((64*k:Nat):Int)+64).toNat<bs.length+64 -(64*k);omega⟩
 have z:k=bs.length/64:=by have:=yD m;unfold qx6 at this;omega
 subst z;generalize hH:qt5 H0 (bs.length/64) bs=H at d;refine zh d λg w d=>?_;have d:St W (Row g 505 ((zB 128).map qd)::Row r 500 (H.l.map uV)::Row u 411 ((zB 32).map qd)::F) w:=d;refine⟨StC W _,zd d,⟨⟨by decide,by decide,by decide⟩,SlP.i (a:=qx6 bs.length) (b:=bs.length) Z (by simp) U yR yR (by unfold qx6;omega) (As _) λQ l=>?_⟩⟩;rw[Aw,Aw,<-Cx,<-Bj,Ae (by simp)]at l;have l:Rd F Q ((qf6 bs).map qd):=l;have D:=q3a bs;have T:min (bs.length - qx6 bs.length) 128=bs.length%64:=by unfold qx6;omega
 have hC:=z6 W (Row g 505 ((zB 128).map qd)::Row r 500 (H.l.map uV)::Row u 411 ((zB 32).map qd)::F);refine Ef.n (α:=Unit) (V:=λ_=>Zi Zk ((bs.length%64:Nat):Int)) (B:=λ_=>[Row g 505 ((qf6 bs++zB (128 - bs.length%64)).map qd)]) () 0 hC yR (λG w h=>?_) λ_=>⟨_,rfl,trivial,λG w h=>?_⟩
 .refine q0a (q:=g) (o:=0) (cs:=(qf6 bs).map qd) uB iU8 sU8 h (by simp[zB]) (λj v hj=>((((l.cons _).cons _).app (pts G)).cons _).of h hj) (by rw[A9,D];exact T.symm) q82 λw' Y=>⟨_,rfl,(),by rw[<-T];rfl,?_⟩;have e:qm1 ((zB 128).map qd) 0 ((qf6 bs).map qd)=(qf6 bs++zB (128 - bs.length%64)).map qd:=by rw[qya];unfold qm1 zB;rw[C4,E0,C5,De,D]
  rw[e]at Y;exact z17 0 yR (B:=[_]) Y
 have d:=zb h;have d:St W (Row g 505 ((qf6 bs++zB (128 - bs.length%64)).map qd)::Row r 500 (H.l.map uV)::Row u 411 ((zB 32).map qd)::F) w:=d;refine IxP.row (k:=bs.length%64) yR (by omega) (z0o 0 d yR (by simp[D,zB];omega) λw d=>?_);have d:St W (Row g 505 ((qf8 bs 0).map qd)::Row r 500 (H.l.map uV)::Row u 411 ((zB 32).map qd)::F) w:=by rw[qzy,Bv];exact d
 refine⟨λvs w=>vs=[Zi Zk ((qc3 bs.length:Nat):Int)]/\St W (Row g 505 ((qf8 bs 0).map qd)::Row r 500 (H.l.map uV)::Row u 411 ((zB 32).map qd)::F) w,za (λh=>?_) λh=>?_,λlast w hJ=>?_⟩
 .have h:=yC h;rw[w64 (n:=((bs.length%64:Nat):Int)+1) (by omega) (by omega),w64]at h;exact⟨by unfold qc3;rw[yB (by omega)];rfl,d⟩
 .have h:=yD h;rw[w64 (n:=((bs.length%64:Nat):Int)+1) (by omega) (by omega),w64]at h;exact⟨by unfold qc3;rw[yA (by omega)];rfl,d⟩
 obtain⟨A,d⟩:=hJ;cases A;have R:qc3 bs.length=64\/qc3 bs.length=128:=by unfold qc3;split<;>simp
 refine⟨λvs w=>∃i:Nat,vs=[Zi Zk i]/\i<=8/\St W (Row g 505 ((qf8 bs i).map qd)::Row r 500 (H.l.map uV)::Row u 411 ((zB 32).map qd)::F) w,leftN 8,⟨0,rfl,by omega,d⟩,λx w I=>?_⟩;obtain⟨i,A,X,d⟩:=I;cases A;refine za (λf=>?_) λm=>?_
 .have f:i<8:=by have:=yC f;omega
  have e8:Zw Zk (8*(i:Int))=((8*i:Nat):Int):=by rw[w64];omega
  rw[e8];refine⟨by omega,IxP.row (k:=qc3 bs.length - 1 - i) (by rw[w64 (n:=((qc3 bs.length:Nat):Int) - 1) (by omega) (by omega),w64];omega) (by omega) (z0o 0 d yR (by rw[A9,qdn bs i X];omega) λw d=>?_)⟩;have ev:Zi .u8 (Zw .u8 (Dp (Zw .u64 ((Zw .u64 (bs.length:Int))*8)) (2 ^ min (Cb ((8*i:Nat):Int)) (Aa .u64))))=qd ((qqa bs.length).getD (7 - i) 0):=by
   have N:Zw .u64 (bs.length:Int)=(bs.length:Int):=by show(bs.length:Int)%(2 ^ 64:Int)=_;omega
   have e2:Zw .u64 ((bs.length:Int)*8)=((8*bs.length%2 ^ 64:Nat):Int):=by show((bs.length:Int)*8)%(2 ^ 64:Int)=_;omega
   have e3:min (Cb ((8*i:Nat):Int)) (Aa .u64)=8*i:=by rw[Cv];exact Cj (by show 8*i<=64;omega)
   rw[N,e2,e3,qev,qd01 _ _ f,qaw _ _ f];rfl
  have d:St W (Row g 505 ((qf8 bs (i+1)).map qd)::Row r 500 (H.l.map uV)::Row u 411 ((zB 32).map qd)::F) w:=by rw[qbs bs i f,Bv,<-ev];exact d
  rw[up f (by omega)];exact⟨⟨i+1,rfl,by omega,d⟩,by show 8 -(i+1)<8 - i;omega⟩
 have C:i=8:=by have:=yD m;omega
 subst C;have y:=qdn bs 8 (by omega);have M:=q4z bs;generalize hE:qf8 bs 8=E at d y M;refine⟨λvs w=>∃k:Nat,vs=[Zi Zk ((64*k:Nat):Int)]/\64*k<=qc3 bs.length/\St W (Row g 505 (E.map qd)::Row r 500 ((qt5 H k E).l.map uV)::Row u 411 ((zB 32).map qd)::F) w,leftN 256,⟨0,rfl,by omega,d⟩,λx w I=>?_⟩;obtain⟨k,A,hk,d⟩:=I;cases A;refine za (λf=>?_) λm=>?_
 .have f:64*k<qc3 bs.length:=by have:=yC f;omega
  have z:64*k+64<=128:=by omega
  refine⟨StC W _,zd d,SlP.i (n:=128) (c:=128) (a:=64*k) (b:=128) (z0m (b:=g) (t:=505) (all:=E.map qd) (F:=Row r 500 ((qt5 H k E).l.map uV)::Row u 411 ((zB 32).map qd)::F)) (by simp[y]) (As _) yR yR (by omega) (As _) λQ l=>?_⟩;rw[Aw,Aw,<-Cx,<-Bj,Ae (by simp[y])]at l;have e:128 - 64*k=(E.drop (64*k)).length:=by rw[Bw,y]
  rw[e];refine qmn ir (i:=1) yR l (As _) (by rw[<-e];omega) λw d=>?_;rw[<-q5k]at d;rw[w64];exact⟨⟨k+1,by rw[show((64*k:Nat):Int)+64=((64*(k+1):Nat):Int)by omega],by omega,d⟩,by show 256 -(((64*k:Nat):Int)+64).toNat<256 -(64*k);omega⟩
 have z:k=qc3 bs.length/64:=by have:=yD m;omega
 subst z;have L:qt5 H (qc3 bs.length/64) E=qqm bs:=by rw[qqu,hH,<-M];have N:E=E.take (qc3 bs.length)++E.drop (qc3 bs.length):=(D5 _ _).symm;rw[N,qom _ _ _ _ (by rw[Aj,y];omega),<-N]
 rw[L]at d;generalize hs:qqm bs=s at d;refine zh d λb w d=>?_;have d:St W (Row b 411 (((qxa s).take 0++(zB 32).drop 0).map qd)::Row g 505 (E.map qd)::Row r 500 (s.l.map uV)::Row u 411 ((zB 32).map qd)::F) w:=d;refine⟨λvs w=>∃i:Nat,vs=[Zi Zk i]/\i<=32/\St W (Row b 411 (((qxa s).take i++(zB 32).drop i).map qd)::Row g 505 (E.map qd)::Row r 500 (s.l.map uV)::Row u 411 ((zB 32).map qd)::F) w,leftN 32,⟨0,rfl,by omega,d⟩,λx w I=>?_⟩;obtain⟨i,A,X,d⟩:=I;cases A;refine za (λf=>?_) λm=>?_
 .have f:i<32:=by have:=yC f;omega
  have ed:Zw Zk (Ea (i:Int) 4)=((i/4:Nat):Int):=by rw[Bs (by omega),w64];omega
  have em:Zw Zk (24 -(Zw Zk ((Int.tmod (i:Int) 4)*8)))=((24 - 8*(i%4):Nat):Int):=by rw[Int.tmod_eq_emod_of_nonneg (by omega),w64 (n:=(i:Int)%4*8) (by omega) (by omega),w64];omega
  have hg:(s.l.map uV)[i/4]?=A0 (Zi .u32 (nI (s.l.getD (i/4) 0))):=by refine q6c ?_;rw[Br,A6 (by show i/4<8;omega)];rfl
  rw[ed,em];refine⟨by decide,IxP.row yR (by omega) (z12 2 d yR hg ⟨by decide,by omega,IxP.row (k:=i) yR f (z0o 0 d yR (by simp[qfh,zB];omega) λw d=>?_)⟩)⟩;rw[qdw]at d;have d:St W (Row b 411 (((qxa s).take (i+1)++(zB 32).drop (i+1)).map qd)::Row g 505 (E.map qd)::Row r 500 (s.l.map uV)::Row u 411 ((zB 32).map qd)::F) w:=by rw[<-qlm (qxa s) (zB 32) i (q3w s i f) (by simpa [zB]using f)];exact d
  rw[up f (by omega)];exact⟨⟨i+1,rfl,by omega,d⟩,by show 32 -(i+1)<32 - i;omega⟩
 have C:i=32:=by have:=yD m;omega
 subst C;rw[qgj (qxa s) (zB 32) 32 (by rw[qfh];omega) (by simp[zB])]at d;have O:=qfh s;have J:sha bs=qxa s:=by unfold sha;rw[hs]
 rw[J];refine LdA.r 0 d yR (by rw[A9,O]) ⟨by simp[O],StA.r 3 d yR (by simp[O,zB]) (λv K=>q82 v (by simpa using K)) λw4 d=>LdA.r 3 d yR (by simp[O]) ⟨rfl,?_⟩⟩;exact z0h [_,_,_,_] d
def IxP.byC{W w:A5}{C:Cls}{l:List Asn}{p:Option B1}{bs:List UInt8}{n k:Nat}{i:Int}{x:UInt8}{K:B1->Prop}(o:Is W C l)(b:Rd l p (bs.map qd))(f:St W l w)(j:i=(k:Int))(d:k<n)(e:bs[k]?=A0 x)
 (g:∀a,(∀G w,C.p G w->w.cell? a=A0 (qd x))->K a):IxP p n i 1 K:=by
 have h:(bs.map qd)[k*1]?=A0 (qd x):=by rw[Aw,A8,e];rfl
 refine IxP.i b f j d h λa c=>g _ λG w m=>?_;exact(b.app (pts G)).at1 ((o G w).1 m) c h
def QtI.at{C:Cls}{a:B1}{k:IntKind}{x:Int}(h:∀G w,C.p G w->w.cell? a=A0 (.int k x)):Qt C (.int k x) λw K=>LdI k a w λx=>K (.int k x) w:=λG w b=>zq (h G w b) ⟨rfl,b⟩
def z0j:=@QtI.at
def leftZ(n:Nat):List A4->A5->Nat:=λvs _=>match vs.head? with
 |some (.slice _ i _)=>n - i
 |_=>0
def q5w:ByteArray:=⟨#[48,49,50,51,52,53,54,55,56,57,97,98,99,100,101,102]⟩
def qjy:∀k:Fin 16,q5w.get! k.val=qd9 k.val:=by decide+kernel
def IxS.hex{i:Int}{k:Nat}{K:UInt8->Prop}(w:i=(k:Int))(a:k<16)(h:K (qd9 k)):IxS q5w i K:=by subst w;refine⟨⟨by omega,by show(k:Int)<16;omega⟩,?_⟩;rw[Cv,qjy ⟨k,a⟩];exact h
def qb01:∀x:Fin 256,Zw .u8 ↑((Am (Aa .u8) (x.val:Int)&&& Am (Aa .u8) 15).toNat)=((x.val%16:Nat):Int):=by decide+kernel
def shr4:∀x:Fin 256,Dp (x.val:Int) (2 ^ min (Cb 4) (Aa .u8))=((x.val/16:Nat):Int):=by decide+kernel
def set2(A:List UInt8)(m:Nat)(x y:UInt8):((((A++zB (m+2)).map qd).set A.length (qd x)).set (A.length+1) (qd y))=(A++[x,y]++zB m).map qd:=by rw[<-Bv,<-Bv];congr 1;unfold zB;rw[Aq _ _ (As _),Bu,Aq _ _ (by omega),show A.length+1 - A.length=1 by omega];simp[Co]
def qcu(bs:List UInt8)(i:Nat){x:UInt8}(h:bs[i]?=A0 x):q45 (bs.take (i+1))=q45 (bs.take i)++[qd9 (x.toNat/16),qd9 (x.toNat%16)]:=by rw[B9,h,qnv];rfl
def q8m{W w:A5}{F:List Asn}{p:Option B1}{c:Nat}{bs:List UInt8}(u:Rd F p (bs.map qd))(B:bs.length<=1000000)(d:St W F w):
 qb Zp 293 #[Zl p bs.length c] w λv w'=>v=Zs (mkS (q45 bs))/\St W F w':=by
 have t:Zw Zk (2*(bs.length:Int))=((2*bs.length:Nat):Int):=by rw[w64];omega
 refine F293_of ?_;rw[t];refine MkS.i d (by omega) (Eb _) (by omega) (by omega) λb w d=>?_;rw[Cv]at d⊢;have d:St W (Row b 5 ((q45 (bs.take 0)++zB (2*(bs.length - 0))).map qd)::F) w:=by rw[C4,show(q45 []++zB (2*(bs.length - 0))).map qd=A1 (2*bs.length) (Zi .u8 0)by unfold zB q45;simp[qd]];exact d
 refine⟨λvs w=>∃i:Nat,vs=[Zi Zk i]/\i<=bs.length/\St W (Row b 5 ((q45 (bs.take i)++zB (2*(bs.length - i))).map qd)::F) w,leftN bs.length,⟨0,rfl,by omega,d⟩,λx w z=>?_⟩;obtain⟨i,q,C,d⟩:=z;cases q;have g:(q45 (bs.take i)).length=2*i:=by rw[qyb,Aj];omega
 refine za (λe=>?_) λj=>?_
 .have e:i<bs.length:=by have:=yC e;omega
  have l:bs[i]?=A0 (bs[i]'e):=A6 _;generalize bs[i]'e=x at l;have o:=qcu bs i l;have f:x.toNat<256:=x.toNat_lt;have s:2*(bs.length - i)=2*(bs.length -(i+1))+2:=by omega
  rw[s]at d;generalize D:q45 (bs.take i)=A at d g o;refine IxP.by_ (u.cons _) d yR e l λa r=>zq r ?_;have y:=z6 W (Row b 5 ((A++zB (2*(bs.length -(i+1))+2)).map qd)::F);refine⟨StC W _,zd d,by decide,IxS.hex (shr4 ⟨x.toNat,f⟩) (by dsimp only;omega) (IxS.hex (qb01 ⟨x.toNat,f⟩) (by dsimp only;omega) (IxP.row (k:=2*i) (by rw[w64];omega) (by omega) ?_))⟩;refine Ef.st 0 y yR (by rw[A9,A7,g];unfold zB;rw[Ah];omega) ⟨rfl,trivial,IxP.row (k:=2*i+1) (by rw[w64 (n:=2*(i:Int)) (by omega) (by omega),w64];omega) (by omega) ?_⟩;refine Ef.st 0 ir yR (by rw[List.length_set,A9,A7,g];unfold zB;rw[Ah];omega) ⟨rfl,trivial,λG w h=>?_⟩;have d:=zb h;have d:St W (Row b 5 ((q45 (bs.take (i+1))++zB (2*(bs.length -(i+1)))).map qd)::F) w:=by rw[o,<-set2,g];exact d
  rw[up e (by omega)];exact⟨⟨i+1,rfl,by omega,d⟩,by show bs.length -(i+1)<bs.length - i;omega⟩
 have m:i=bs.length:=by have:=yD j;omega
 subst m;rw[Bu,D0]at d;have d:St W (Row b 5 ((q45 bs).map qd)::F) w:=by simpa [zB]using d
 exact qbi uB uU8 uS d z0m (qyb bs) ⟨_,rfl,rfl,d.drop⟩
section
section
variable{P:Program}{W w:World}{r:List Asn}{sT xT ty e:TypeId}{inf:TypeInfo}{z:Value}{size:Nat}{p:Option Addr}{n c m:Nat}{cs xs:List Value}{x:Value}
def qth(t:P.underlying sT=A0 (.slice e))(i:P.underlying xT=A0 .string)(o:P.info? e=A0 inf)(q:inf.size=1)(g:inf.zero=A0 z)(a:z.cells.size=1){l:List UInt8}{F:A4->A5->Prop}
 (j:St W (qi e 1 p n c cs::r) w) (f:(n+l.length)*inf.bytes<=140737488355328) (h:((n+l.length:Nat):Int)<=9223372036854775807)
 (k:∀b d w',St W (qi e 1 b (n+l.length) d (cs++l.map qd)::r) w'->F (.slice b (n+l.length) d) w'):
 Run P (B7 #[sT,xT] ty #[Zl p n c,Zs (mkS l)]) w F:=
 qgm t (.inl i) o q g a j (λs=>by simp[Builtin.lenOf,qf1]) (λs u=>by
  have m:(mkS l).extract 0 l.length=mkS l:=by apply ByteArray.ext;simp[mkS,ByteArray.data_extract]
  simp only[C0,m,Sem.run_pure];congr 1;apply Array.ext';simp[mkS,qd,Function.comp_def]) (by simp) q82 f h k
end
end
def Bif.yes{b:Bool}{A B:Prop}(h:b=Ac)(a:A):Bif b A B:=za (λ_=>a) λw=>by rw[h]at w;cases w
def Bif.no{b:Bool}{A B:Prop}(h:b=Ap)(a:B):Bif b A B:=za (λw=>by rw[h]at w;cases w) λ_=>a
def SlP.all{F:List Asn}{p:Option B1}{bs:List UInt8}{n c:Nat}{f:Int}{K:Option B1->Nat->Nat->Prop}(j:Rd F p (bs.map qd))(e:bs.length=n)(g:n<=c)(d:f=(n:Int))(i:∀w,Rd F w (bs.map qd)->K w bs.length c):SlP p n c 1 0 f K:=by refine SlP.i (a:=0) (b:=n) j (by simp[e]) g yR d (Nat.zero_le _) (As _) λw h=>?_;rw[D2,Ct,Bb,Aw,Ae (by simp[e])]at h;rw[Bb,Bb,<-e];exact i _ h
def SlP.allS{W w:A5}{l:List Asn}{A:Asn}{p:Option B1}{bs:List UInt8}{n c:Nat}{d:Int}{K:Option B1->Nat->Nat->Prop}(k:Nat)(j:St W l w)(g:nth l k=A0 A)(h:∀F,Rd (A::F) p (bs.map qd))(i:bs.length=n)(e:n<=c)(a:d=(n:Int))(f:∀b,Rd l b (bs.map qd)->K b bs.length c):SlP p n c 1 0 d K:=
 SlP.all (z04 k g h) i e a f
def q7u{W w:A5}{F:List Asn}{p:Option B1}{c n:Nat}{bs s:List UInt8}(b:sha bs=s)(a:Rd F p (bs.map qd))(d:bs.length=n)(e:n<=c)(f:n<=9223372036854775807)(h:St W F w):
 qb Zp 368 #[Zl p n c] w λv w'=>v=Zg (qz2 s)/\St W F w':=by rw[<-b,<-d];exact q4w a (by omega) (by omega) h
def q731{W:A5}{C:Cls}{l:List Asn}{p:Option B1}{bs:List UInt8}{n c:Nat}(a:Is W C l)(d:Rd l p (bs.map qd))(b:bs.length=n):
 Qt C (Zs (mkS bs)) (λw K=>Run Zp (convert 22 9 (Zl p n c)) w λv w'=>AsS v λx=>K (Zs x) w'):=λG w h=>
 qbi uB uU8 uS ((a G w).1 h) (d.app (pts G)) b ⟨_,rfl,rfl,h⟩
def IxP.one{W w:A5}{l:List Asn}{p:Option B1}{cs:List A4}{n k:Nat}{i:Int}{v:A4}{K:B1->Prop}(c:Rd l p cs)(b:St W l w)(j:i=(k:Int))(e:k<n)(f:cs[k]?=A0 v)
 (g:∀a,w.cell? a=A0 v->K a):IxP p n i 1 K:=by
 have h:cs[k*1]?=A0 v:=by rw[Aw,f]
 refine IxP.i c b j e h λa d=>g _ ?_;exact c.at1 b d h
def append_none{P:Ce}{w:A5}{sT xT ty e:Bg}{h:D8}{p sp:Option B1}{n c sc:Nat}{F:A4->A5->Prop}(j:P.underlying sT=A0 (.slice e))(d:Src P xT)(g:P.info? e=A0 h)(b:n<=c)
 (f:F (Zl p n c) w):Run P (B7 #[sT,xT] ty #[Zl p n c,Zl sp 0 sc]) w F:=by
 have i:(C0 h.size 0 (Zl sp 0 sc)).run P w=.ok (List.toArray []) w:=by
  cases sp with
  |none=>rfl
  |some a=>simp[C0];rfl
 have:=q84 (P:=P) (w:=w) (w':=w) (p:=p) (n:=n) (m:=0) (c:=c) (xs:=[]) (x:=Zl sp 0 sc) (ty:=ty) j d g yR b (λs=>rfl) i (by cases p with|none=>exact .inl ⟨rfl,rfl⟩|some a=>exact .inr ⟨a,rfl,rfl⟩);exact⟨_,w,this,f⟩
def append_new{P:Ce}{W w:A5}{r:List Asn}{sT xT ty e:Bg}{h:D8}{z:A4}{size:Nat}{p sp:Option B1}{n c m sc:Nat}{cs xs:List A4}{F:A4->A5->Prop}(I:P.underlying sT=A0 (.slice e))(N:Src P xT)(M:P.info? e=A0 h)(H:h.size=size)(O:h.zero=A0 z)(t:z.cells.size=size)
 (A:St W r w) (E:Rd r p cs) (b:cs.length=n*size) (R:Rd r sp xs) (d:xs.length=m*size) (g:¬n+m<=c) (J:(n+m)*h.bytes<=140737488355328) (o:((n+m:Nat):Int)<=9223372036854775807)
 (K:∀D B w',St W (qi e size D (n+m) B (cs++xs)::r) w'->F (.slice D (n+m) B) w'):
 Run P (B7 #[sT,xT] ty #[Zl p n c,Zl sp m sc]) w F:=by
 have rd:∀{q:Option B1} {k c:Nat} {f:List A4},Rd r q f->f.length=k*size->(C0 size k (Zl q k c)).run P w.drew=.ok f.toArray w.drew:=λ{q k c f} hq hl=>by
  refine qw3 (λj v Q=>hq.of A.draws Q) hl λL=>?_;rcases f with _|⟨v,f⟩;.simpa using hl.symm
  .obtain⟨a,C,_⟩:=hq.of A (i:=0) (v:=v) yR;rw[L]at C;cases C
 have:=qo6 (P:=P) (w:=w) (x:=Zl sp m sc) (n:=n) (m:=m) (c:=c) (ty:=ty) I N M H O g (λs=>rfl) (rd R d) (rd E b) o (growslice_fits (by omega) J);have u:=grownCap_ge w (n+m) c e;have l:=St.allocRow (St.draws A) (cs.toArray++xs.toArray++Builtin.zeroCells z.cells (grownCap w (n+m) c e -(n+m))) e;refine⟨_,_,this,K _ _ _ (z0x ?_ u ?_ l)⟩
 .have y:=qm5 z.cells (grownCap w (n+m) c e -(n+m));simp only[Df,A7,b,d,Dg,y,t];rw[<-Dy,<-Dy];congr 1;omega
 .have G:(n+m)*size=(cs++xs).length:=by rw[A7,b,d,Dy]
  rw[G];simp only[Df];rw[Cg (by simp),Ae (by simp)]
def zm:=@Bif.yes
def zn:=@Bif.no
def z0l:=@IxP.one
def qd4(c:UInt8)(l:List UInt8):List UInt8:=l.map λx=>x ^^^ c
def qn5.lit0{P:Ce}{t:Bg}{f:Bm}{args:List A4}{w:A5}{K:A4->A5->Prop}(a:q33 P f=Ac)(h:qb P f args.toArray w K):qn5 P t (.func (.func f) #[] #[]) args w K:=
 ⟨f,#[],#[],rfl,a,by simpa using h⟩
def qn5.lit1{P:Ce}{t:Bg}{f:Bm}{x:A4}{args:List A4}{w:A5}{K:A4->A5->Prop}(a:q33 P f=Ac)(h:qb P f (x::args).toArray w K):qn5 P t (.func (.func f) #[x] #[]) args w K:=
 ⟨f,#[x],#[],rfl,a,by simpa using h⟩
def q2x(c:UInt8)(l:List UInt8):(qd4 c l).length=l.length:=by simp[qd4]
def qej(k:List UInt8):List UInt8:=if k.length>64 then sha k else k
def qp6(k:List UInt8):List UInt8:=qej k++zB (64 -(qej k).length)
def qbe(k b:List UInt8):List UInt8:=sha (qd4 92 (qp6 k)++sha (qd4 54 (qp6 k)++b))
def q7v(k:List UInt8):(qej k).length<=64:=by
 unfold qej;split;.rw[qgd];omega
 .omega
def qin(k:List UInt8):(qp6 k).length=64:=by have:=q7v k;unfold qp6 zB;rw[A7,Ah];omega
def qke(k b:List UInt8):(qbe k b).length=32:=qgd _
def qjz(x c:UInt8):Zw .u8 ↑((Am (Aa .u8) (x.toNat:Int) ^^^ Am (Aa .u8) (c.toNat:Int)).toNat)=((x ^^^ c).toNat:Int):=qaz x.toBitVec c.toBitVec
def orV(x c:UInt8):Zw .u8 ↑((Am (Aa .u8) (x.toNat:Int)|||BitVec.ofInt (Aa .u8) (c.toNat:Int)).toNat)=((x|||c).toNat:Int):=qa01 x.toBitVec c.toBitVec
def qjv{P:List UInt8}{i:Nat}{x c:UInt8}(h:P[i]?=A0 x):(qd4 c P)[i]?=A0 (x ^^^ c):=by unfold qd4;rw[A8,h];rfl
def qlg{W w:A5}{F:List Asn}{p:Option B1}{d:Nat}{P b:List UInt8}(c:UInt8)(R:P.length=64)(Q:Rd F p (b.map qd))(V:b.length<=d)(T:b.length<=500000)(a:St W F w):
 qb Zp 334 #[Zg (qz2 P),Zi .u8 (c.toNat:Int),Zl p b.length d] w λv w'=>v=Zg (qz2 (sha (qd4 c P++b)))/\St W F w':=by
 have H:=qgd (qd4 c P++b);obtain⟨s,G⟩:∃s,sha (qd4 c P++b)=s:=⟨_,rfl⟩;rw[G]at H⊢;have z:(qz2 s).size=32:=by rw[ql7,H]
 have K:=q2x c P;refine F334_of (zh a λn w a=>zh a λj w a=>?_);have a:St W (Row j 411 ((zB 32).map qd)::Row n 450 (((qd4 c P).take 0++P.drop 0).map qd)::F) w:=a;refine⟨λvs w=>∃i:Nat,vs=[Zi Zk i]/\i<=64/\St W (Row j 411 ((zB 32).map qd)::Row n 450 (((qd4 c P).take i++P.drop i).map qd)::F) w,leftN 64,⟨0,rfl,by omega,a⟩,λx w M=>?_⟩;obtain⟨i,E,U,a⟩:=M;cases E;refine za (λf=>?_) λC=>?_
 .have f:i<64:=by have:=yC f;omega
  have D:P[i]?=A0 (P[i]'(by omega)):=A6 _;generalize P[i]'(by omega)=x at D;have J:(((qd4 c P).take i++P.drop i).map qd)[i]?=A0 (qd x):=by rw[A8,qgp _ _ _ (by omega),D];rfl
  refine IxP.row (k:=i) yR f (z12 1 a yR J (IxP.row (k:=i) yR f (z0o 1 a yR (by rw[A9,q4p _ _ _ K];omega) λw a=>?_)));rw[qjz]at a;have a:St W (Row j 411 ((zB 32).map qd)::Row n 450 (((qd4 c P).take (i+1)++P.drop (i+1)).map qd)::F) w:=by rw[<-qlm (qd4 c P) P i (qjv D) (by omega)];exact a
  rw[up f (by omega)];exact⟨⟨i+1,rfl,by omega,a⟩,by show 64 -(i+1)<64 - i;omega⟩
 have y:i=64:=by have:=yD C;omega
 subst y;rw[qgj (qd4 c P) P 64 (by omega) (by omega)]at a;refine SlP.allS 1 a yR (λF=>z0m) (by omega) (As _) yR λO t=>?_;have l:∀{L:List Asn} {q:Option B1} {e:Nat} {w:A5},Rd (L++Row j 411 ((zB 32).map qd)::Row n 450 ((qd4 c P).map qd)::F) q ((qd4 c P++b).map qd)->(qd4 c P++b).length<=e->St W (L++Row j 411 ((zB 32).map qd)::Row n 450 ((qd4 c P).map qd)::F) w->
  qb Zp 368 #[Zl q (qd4 c P++b).length e] w λA B=>∃(g:Array A4),g.size=32/\A=(Zg g)/\E5 g=32/\StA Zp ⟨j,0,A3⟩ g B λu=>LdA Zp 32 ⟨j,0,A3⟩ u λm=>(λv w'=>v=Zg (qz2 s)/\St W F w') (Zg m) u:=λ{L q e w} hq E a=>by
  refine(q7u G hq yR E (by rw[A7];omega) a).of λv w ⟨N,a⟩=>⟨_,z,N,z,?_⟩;have a:St W (Row j 411 ((zB 32).map qd)::Row n 450 ((qd4 c P).map qd)::F) w:=z0h L a;exact StA.r 0 a yR (by rw[z];rfl) (q56 _) λw a=>LdA.r 0 a yR (by rw[Dg,z]) ⟨rfl,(St.drop (St.drop a))⟩
 have I:(qd4 c P).length+b.length=(qd4 c P++b).length:=by rw[A7]
 by_cases o:b=[]
 .subst o;refine append_none uB (.inr ⟨_,uB⟩) iU8 (by omega) ⟨_,_,_,rfl,?_⟩;have:=l (L:=[]) (q:=O) (e:=64) (by rw[Bh];exact t) (by rw[Bh];omega) a;rw[Bh]at this;rw[Bh]at l;exact this
 .have r:¬(qd4 c P).length+b.length<=64:=by have:b.length≠0:=λh=>o (List.eq_nil_of_length_eq_zero h);omega
  refine append_new uB (.inr ⟨_,uB⟩) iU8 sU8 zU8 yR a (cs:=(qd4 c P).map qd) (xs:=b.map qd) t (by simp) ((Q.cons _).cons _) (by simp) r (by rw[bU8];omega) (by omega) λq e w a=>⟨_,_,_,rfl,?_⟩;rw[<-An,I]at a;rw[I];exact l (L:=[_]) (z0k _) (qi.le a).2 a
def qrt(k:List UInt8)(h:k.length<=64):qm1 ((zB 64).map qd) 0 (k.map qd)=(k++zB (64 - k.length)).map qd:=by rw[qya];unfold qm1 zB;rw[C4,E0,C5,De]
def q9y{W w:A5}{F:List Asn}{p:Option B1}{d:Nat}{k:List UInt8}(B:Rd F p (k.map qd))(E:k.length<=d)(G:k.length<=9223372036854775807)(a:St W F w):
 qb Zp 335 #[Zl p k.length d] w λv w'=>v=Zg (qz2 (qp6 k))/\St W F w':=by
 refine F335_of (zh a λf w a=>zh a λb w a=>?_);have a:St W (Row b 450 ((zB 64).map qd)::Row f 450 ((zB 64).map qd)::F) w:=a;have c:=qin k;have i:∀{L:List Asn} {w:A5},St W (Row b 450 ((qp6 k).map qd)::(L++Row f 450 ((zB 64).map qd)::F)) w->
  LdA Zp 64 ⟨b,0,A3⟩ w λl=>E5 l=64/\StA Zp ⟨f,0,A3⟩ l w λg=>LdA Zp 64 ⟨f,0,A3⟩ g λe=>(λv w'=>v=Zg (qz2 (qp6 k))/\St W F w') (Zg e) g:=λ{L w} a=>by
  have y:(qz2 (qp6 k)).size=64:=by rw[ql7,c]
  refine LdA.r 0 a yR (by rw[A9,c]) ⟨y,?_⟩;have a:=z0h L a.drop;exact StA.r 0 a yR (y.trans (by simp[zB])) (q56 _) λw a=>LdA.r 0 a yR (by simp[c]) ⟨rfl,a.drop⟩
 refine za (λh=>?_) λh=>?_
 .have h:=yC h;have r:=qgd k;have n:qp6 k=sha k++zB (64 -(sha k).length):=by unfold qp6 qej;rw[yB (by omega)]
  obtain⟨s,A⟩:∃s,sha k=s:=⟨_,rfl⟩;rw[A]at r n;have z:(qz2 s).size=32:=by rw[ql7,r]
  refine(q7u A ((B.cons _).cons _) yR E (by omega) a).of λv w ⟨C,a⟩=>⟨_,z,C,zh a λm w a=>⟨z,StA.r 0 a yR (by rw[z];rfl) (q56 _) λw a=>?_⟩⟩;have a:St W (Row m 411 (s.map qd)::Row b 450 ((zB 64).map qd)::Row f 450 ((zB 64).map qd)::F) w:=a;refine SlP.allS 0 a yR (λF=>z0m) r (As _) yR λD u=>⟨⟨by decide,by decide,by decide⟩,?_⟩;have t:Rd (Row b 450 ((zB 64).map qd)::Row m 411 (s.map qd)::Row f 450 ((zB 64).map qd)::F) D (s.map qd):=u.perm (List.Perm.swap _ _ _);refine q0a (q:=b) (o:=0) (cs:=s.map qd) uB iU8 sU8 a.p1 (by simp[zB]) (λj v x=>t.of a.p1 x) (by rw[A9,r];rfl) q82 λw' a=>⟨_,rfl,?_⟩;rw[qrt s (by omega),<-n]at a;exact i (L:=[_]) a
 .have h:=yD h;have n:qp6 k=k++zB (64 - k.length):=by unfold qp6 qej;rw[yA (by omega)]
  refine⟨⟨by decide,by decide,by decide⟩,?_⟩;refine q0a (q:=b) (o:=0) (cs:=k.map qd) uB iU8 sU8 a (by simp[zB]) (λj v x=>((B.cons _).cons _).of a x) (by rw[A9];show k.length=min k.length 64;omega) q82 λw' a=>⟨_,rfl,?_⟩;rw[qrt k (by omega),<-n]at a;exact i (L:=[]) a
def qtw{W w:A5}{F:List Asn}{p q:Option B1}{d e:Nat}{k b:List UInt8}(u:Rd F p (k.map qd))(K:k.length<=d)(I:k.length<=9223372036854775807)(z:Rd F q (b.map qd))(E:b.length<=e)(J:b.length<=500000)(a:St W F w):
 qb Zp 292 #[Zl p k.length d,Zl q b.length e] w λv w'=>v=Zg (qz2 (qbe k b))/\St W F w':=by
 have c:=qin k;have n:=qgd (qd4 54 (qp6 k)++b);obtain⟨f,g⟩:∃s,sha (qd4 54 (qp6 k)++b)=s:=⟨_,rfl⟩;rw[g]at n;have H:qbe k b=sha (qd4 92 (qp6 k)++f):=by unfold qbe;rw[g]
 have l:=qke k b;have D:(qz2 f).size=32:=by rw[ql7,n]
 have z2:(qz2 (qbe k b)).size=32:=by rw[ql7,l]
 have x:(qz2 (qp6 k)).size=64:=by rw[ql7,c]
 have C:∀{F:List Asn} {w:A5},Rd F q (b.map qd)->St W F w->qb Zp 334 #[Zg (qz2 (qp6 k)),Zi .u8 54,Zl q b.length e] w λv w'=>v=Zg (qz2 f)/\St W F w':=λu h=>by rw[<-g];exact qlg 54 c u E J h
 have j:∀{F:List Asn} {w:A5} {q:Option B1} {e:Nat},Rd F q (f.map qd)->f.length<=e->St W F w->qb Zp 334 #[Zg (qz2 (qp6 k)),Zi .u8 92,Zl q f.length e] w λv w'=>v=Zg (qz2 (qbe k b))/\St W F w':=λu E h=>by rw[H];exact qlg 92 c u E (by omega) h
 generalize qbe k b=m at l z2 j⊢;clear H g;refine F292_of (zh a λo w a=>(q9y (u.cons _) K I a).of λv w ⟨r,a⟩=>⟨_,x,r,zh a λt w a=>⟨x,StA.r 0 a yR (by rw[x];rfl) (q56 _) λw a=>?_⟩⟩);generalize qp6 k=P at*;have a:St W (Row t 450 (P.map qd)::Row o 411 ((zB 32).map qd)::F) w:=a;refine LdA.r 0 a yR (by rw[A9,c]) ?_;refine .inl (qn5.lit0 (by kernel_rfl) ?_);refine(C ((z.cons _).cons _) a).of λv w ⟨r,a⟩=>⟨_,D,r,zh a λi w a=>⟨D,StA.r 0 a yR (by rw[D];rfl) (q56 _) λw a=>?_⟩⟩;have a:St W (Row i 411 (f.map qd)::Row t 450 (P.map qd)::Row o 411 ((zB 32).map qd)::F) w:=a;have y:=z6 W (Row i 411 (f.map qd)::Row t 450 (P.map qd)::Row o 411 ((zB 32).map qd)::F);refine⟨StC W _,zd a,SlP.allS 0 a yR (λF=>z0m) n (As _) yR λL A=>⟨qz2 P,x,QtA.r 1 y yR (by rw[A9,c]),?_⟩⟩;refine zk (α:=Unit) (V:=λ_=>Zg (qz2 m)) (B:=λ_=>Row i 411 (f.map qd)::Row t 450 (P.map qd)::Row o 411 ((zB 32).map qd)::F) () y (λG w h=>qn5.lit0 (by kernel_rfl) ((j (A.app (pts G)) (by omega) h).of λv w' ⟨r,h⟩=>⟨_,z2,r,(),rfl,h⟩)) λ_=>⟨_,z2,rfl,trivial,?_⟩;refine Ef.stA 2 y yR z2 (by rw[z2];rfl) (q56 _) ⟨rfl,trivial,λG w h=>?_⟩;have a:=zb h;have a:St W (Row i 411 (f.map qd)::Row t 450 (P.map qd)::Row o 411 (m.map qd)::F) w:=a;exact LdA.r 2 a yR (by rw[A9,l]) ⟨rfl,z0h [_,_,_] a⟩
section
open Go Go.ChangeShapes Go.WideShapes Go.ChangeAt Go.RowKit
def laid:laidOutB Zp=Ac:=by kernel_rfl
section
variable{H:Type}{enc:TypeId×Value->H}{P:Program}{W:World}{base:Nat}{spare:Nat->Bool}{held:Bool}
def qju{α:Type}[Inhabited α](f:α->List A4)(Ok:α->Prop){t e:Bg}{k qma:Nat}{cs:List A4}{x:Ec H×List D9}(N:P.underlying t=A0 (.slice e))(l:P.cellsOf e=k)(F:0<k)(J:∀x,(f x).length=k)
 (q:∀n d y,d.length=k->Dl enc P W base spare held n e d=A0 y->∃o,d=f o/\Ok o) (h:Dl enc P W base spare held qma t cs=A0 x):
 ∃(p:Option B1) (os:List α) (c:Nat),cs=[.slice p os.length c]/\os.length<=c/\c<=9223372036854775807/\Rd [q65 W] p (os.flatMap f)/\∀o∈os,Ok o:=by
 rcases Deep.open_slice N h with ⟨rfl,rfl⟩|⟨a,len,cap,m,n,D,X,rfl,_,A,B,I,rfl,s⟩
 .exact⟨A3,[],0,rfl,As _,by omega,Rd.nil _ _,λo w=>by cases w⟩
 .have U:len<=m:=by rw[I];split<;>omega
  obtain⟨g,C⟩:=Deep.choose_lt (n:=len) (p:=λi o=>(∀j,j<k->W.cell? ((a.add (i*k)).add j)=(f o)[j]?)/\Ok o) λi r=>by obtain⟨d,z,L⟩:=s i (by omega);obtain⟨_,E,M⟩:=World.cells?_some z;rw[l]at E;obtain⟨o,rfl,w⟩:=q _ _ _ E L;exact⟨o,λj Q=>by have:=M j (by rw[l];exact Q);rwa[l]at this,w⟩
  have G:((Bq len).map g).length=len:=by simp
  refine⟨A0 a,(Bq len).map g,cap,by rw[G],by rw[G];exact A,B,?_,λo w=>?_⟩
  .intro Hp hH i v r;refine⟨a,rfl,?_⟩;rw[qrd f k F J]at r;obtain⟨o,w,O⟩:=Option.bind_eq_some_iff.1 r;rw[A8]at w;have u:i/k<len:=by
    rcases C3 (i/k) len with h|h;.exact h
    .rw[Ag (by simpa using h)]at w;cases w
   rw[Bc u]at w;cases w;have z:=(C _ u).1 (i%k) (Nat.mod_lt _ F);rw[O,Addr.add_add,show i/k*k+i%k=i by rw[Nat.mul_comm];exact Nat.div_add_mod i k]at z;obtain⟨V,T,R,_⟩:=hH;exact q26 T (q26 (h:=qff W) (λb o K=>R b o K) z)
  .obtain⟨i,r,rfl⟩:=B2.1 w;exact(C i (by simpa using r)).2
def qw21{k:IntKind}{t:Bg}{qma:Nat}{cs:List A4}{x:Ec H×List D9}(w:P.underlying t=A0 (.int k))(h:Dl enc P W base spare held qma t cs=A0 x):∃n,cs=[.int k n]/\(Lit.int k n).wf=Ac:=by obtain⟨x,a,_,b⟩:=DataW.trod_int w h;exact⟨x,a,b⟩
def qbp{t:Bg}{qma:Nat}{cs:List A4}{x:Ec H×List D9}(w:P.underlying t=A0 .string)(h:Dl enc P W base spare held qma t cs=A0 x):∃s,cs=[.string s]/\s.size<=9223372036854775807:=by obtain⟨s,a,_,b⟩:=DataW.trod_string w h;exact⟨s,a,b⟩
def qt11{r:_root_.Go.Reach}{e:Nat}{t:Bg}{v:A4}{d:Ec H}{f:List D9}(a:P.underlying t=A0 .string)(w:Value.okWide P W r e t v)(h:DataW.Trod enc P W base spare held t v d f):
 ∃s,v=.string s/\s.size<=9223372036854775807:=by
 obtain⟨s,rfl⟩:=okWide_string a w;obtain⟨qma,c⟩:=h;obtain⟨s',b,g⟩:=qbp a c;simp[Value.cells]at b;subst b;exact⟨s,rfl,g⟩
end
section
variable{H:Type}{enc:TypeId×Value->H}{P:Program}
def qvj(i:laidOutB P=Ac){W j:A5}{sp:Nat->Bool}(f:Below W.heap.size W j):∀{ts:List Bg} {vs:List A4} {c:List (Ec H)} {a:List D9},(∀t∈ts,P.readableRec t=Ac/\t<P.types.size)->(∀x∈a,x.block<W.heap.size)->(∀x∈a,sp x.block=Ac)->
 Cf enc P W 0 (λ_=>Ac) Ac ts vs c a->Cf enc P j 0 sp Ac ts vs c a
 |[],vs,c,a,_,_,_,h=>by obtain⟨rfl,rfl,rfl⟩:=trodAll_nil h;exact rfl
 |t::ts,vs,c,a,e,b,g,h=>by
  obtain⟨v,m,d,n,p,q,rfl,rfl,rfl,o,l⟩:=trodAll_cons h;exact trodAll_cons_mk (WideElems.Trod_stays i (e t C1).1 (e t C1).2 o (λx w=>f.same (b x (Ch _ w))) λx w=>g x (Ch _ w))
   (qvj i f (λt k=>e t (Ci _ k)) (λx w=>b x (D6 _ w)) (λx w=>g x (D6 _ w)) l)
def quw(O:laidOutB P=Ac){f:Func}{s:ChangeSpec}{tb:Bg}{a j h i:Bool}{W v:A5}{args:Array A4}{g gs:List (Ec H)}{d:List D9}
 (B:DataW.Whole enc P f.params.toList s.vars a W args.toList g gs d) (w:s.vars=[]) (D:∀n,n=[]->s.fn H (g++n)={ results:=[.lit (.bool Ac)],args:=g}) (e:f.resultTypes=#[tb]) (l:P.underlying tb=A0 .bool)
 (E:∀t∈f.params.toList,P.readableRec t=Ac/\t<P.types.size) (C:Below W.heap.size W v):s.post enc P f a j h i W args (.bool Ac) v:=by
 have z:=B.lt;have I:=B;obtain⟨p,q,M,hV,rfl,G,F⟩:=B;rw[w]at hV;obtain⟨rfl,rfl⟩:=trodVars_none hV;have J:Cf enc P W 0 (λ_=>Ac) Ac f.params.toList args.toList g p:=M;have c:=D [] yR;have r:∀x∈p,x.block<W.heap.size:=λx o=>z x (Ch _ o);have k:∀(b:Nat) (sp:Nat->Bool) (K:Bool),Cf enc P v b sp K f.resultTypes.toList ((Zb Ac).resultList f.resultTypes.size) (s.fn H (g++[])).results []:=λb sp K=>by rw[c,e];exact trodAll_cons_mk (shut_bool l _) trodAll_mk0
 have arg:∀sp:Nat->Bool,(∀x∈p,sp x.block=Ac)->Cf enc P v 0 sp Ac f.params.toList args.toList (s.fn H (g++[])).args p:=λsp A=>by rw[c];exact qvj O C E r A J
 have m:∀sp:Nat->Bool,DataW.TrodVars enc P v sp s.vars (s.fn H (g++[])).vars []:=λsp=>by rw[c,w];exact rfl
 refine⟨g,[],p++[],[],p,[],I,k _ _ _,arg _ (λx o=>by simpa using r x o),m _,C.frame _,λ_=>⟨ok_one e yR (okWide_bool_mk l _),_,_,([]++p)++[],⟨[]++p,[],trodAll_append (arg _ (λ_ _=>rfl)) (k _ _ _),m _,rfl,?_,?_⟩,?_⟩⟩
 .intro b y L;have u:MemPlace.cell b y∈p++[]:=by simpa using L
  have:=z _ u;rw[C.frozen this];exact G b y u
 .intro N;have:=F N;simpa using this
 .intro x o _;simpa using o
end
end
def qc8(s:List UInt8):A4:=Zs (mkS s)
def q25(s:List UInt8):List UInt8:=Da s.length::s
def qj5(ws:List (List UInt8)):List UInt8:=ws.flatMap q25
def qib(ws:List (List UInt8)):Bool:=ws.all λs=>decide (s.length<=255)
def q07(k:List UInt8)(ws:List (List UInt8)):List UInt8:=if qib ws=Ac then q45 (qbe k (qj5 ws))else []
def qb6(ws:List (List UInt8)):Nat:=(ws.map λs=>s.length+1).sum
def q1i(ws:List (List UInt8)):(qj5 ws).length=qb6 ws:=by
 induction ws with
 |nil=>rfl
 |cons s r h=>unfold qj5 qb6 at*;rw[List.flatMap_cons,A7,h];simp[q25]
def qpo(ws:List (List UInt8))(i:Nat){s:List UInt8}(h:ws[i]?=A0 s):qj5 (ws.take (i+1))=qj5 (ws.take i)++q25 s:=by unfold qj5;rw[B9,h,List.flatMap_append];simp
def qrx(l:List UInt8)(h:l.length<=255):Zi .u8 (Zw .u8 (l.length:Int))=qd (Da l.length):=by unfold qd;rw[UInt8.toNat_ofNat_of_lt' (by show l.length<256;omega)];congr 1;show(l.length:Int)%(2 ^ 8:Int)=_;omega
def qlk{W w:A5}{F:List Asn}(l:List UInt8)(h:l.length<=255)(a:St W F w):
 qb Zp 96 #[Zs (mkS l)] w λv w'=>∃p c,v=Zl p (q25 l).length c/\St W (qi 5 1 p (q25 l).length c ((q25 l).map qd)::F) w':=by
 refine F96_of ?_;rw[qf1,qrx l h];refine zn (yH (by omega)) (zh a λb w a=>?_);have a:St W (qi 5 1 (A0 ⟨b,0,A3⟩) 1 1 [qd (Da l.length)]::F) w:=qi.whole yR a;refine qth uB uS iU8 sU8 zU8 yR a (by rw[bU8];omega) (by omega) λp c w a=>⟨_,_,_,rfl,p,c,?_,?_⟩;.rw[show(q25 l).length=1+l.length by simp[q25];omega]
 .rw[show(q25 l).length=1+l.length by simp[q25];omega];exact a
def qjo{ws:List (List UInt8)}{i:Nat}{s:List UInt8}(h:ws[i]?=A0 s)(w:¬s.length<=255):qib ws=Ap:=by unfold qib;rw[List.all_eq_false];exact⟨s,Db h,by simpa using w⟩
def qxh{ws:List (List UInt8)}(h:∀s∈ws,s.length<=255):qib ws=Ac:=by unfold qib;rw[Du];intro s w;simpa using h s w
def qql{ws:List (List UInt8)}{i:Nat}{s:List UInt8}(h:ws[i]?=A0 s)(a:∀s∈ws.take i,s.length<=255)(b:s.length<=255):∀s∈ws.take (i+1),s.length<=255:=λx w=>by
 rw[B9,h]at w;rcases Cl.1 w with w|w;.exact a x w
 .simp at w;subst w;exact b
def q8v{ws:List (List UInt8)}{i:Nat}{s:List UInt8}(h:ws[i]?=A0 s):(ws.map qc8)[i]?=A0 (Zs (mkS s)):=by rw[A8,h];rfl
def q8e:∀{ws:List (List UInt8)},(∀s∈ws,s.length<=255)->qb6 ws<=256*ws.length
 |[],_=>by simp[qb6]
 |s::r,h=>by have w:=q8e (ws:=r) λx a=>h x (Ci _ a);have b:=h s C1;unfold qb6 at w⊢;simp only[Ao,List.sum_cons,Ab];omega
def qqe{W w:A5}{F:List Asn}{p q:Option B1}{d e:Nat}{k:List UInt8}{ws:List (List UInt8)}(P:Rd F p (k.map qd))(O:k.length<=d)(Q:k.length<=9223372036854775807)(B:Rd F q (ws.map qc8))(L:ws.length<=1000)(f:St W F w):
 qb Zp 241 #[Zl p k.length d,Zl q ws.length e] w λv w'=>v=Zs (mkS (q07 k ws))/\St W F w':=by
 refine F241_of ⟨λvs w=>∃p i c,vs=[Zl p (qj5 (ws.take i)).length c,Zi Zk ((i:Nat):Int)]/\i<=ws.length/\(∀s∈ws.take i,s.length<=255)/\St W (qi 5 1 p (qj5 (ws.take i)).length c ((qj5 (ws.take i)).map qd)::F) w,leftN ws.length,⟨A3,0,0,rfl,by omega,by simp,z1a _ _ _ f⟩,λJ T c1 x w M=>?_⟩;obtain⟨R,i,Y,N,V,r,f⟩:=M;cases N;have A:=q1i (ws.take i);have n:=q8e r;rw[Aj]at n;refine za (λg=>?_) λG=>?_
 .have g:i<ws.length:=by have:=yC g;omega
  have j:ws[i]?=A0 (ws[i]'g):=A6 _;generalize ws[i]'g=s at j;refine z0l (B.cons _) f yR g (q8v j) λa C=>z0i C ?_;rw[qf1];refine za (λh=>?_) λh=>?_
  .have h:=yC h;unfold q07;rw[qjo j (by omega)];exact⟨rfl,f.drop⟩
  have h:=yD h;refine(qlk s (by omega) f).of λv w ⟨X,U,l,f⟩=>⟨_,_,_,l,?_⟩;have o:=qpo ws i j;have H:=q1i (ws.take (i+1));have u:=q8e (qql j r (by omega));rw[Aj]at u;have t:(qj5 (ws.take (i+1))).length=(qj5 (ws.take i)).length+(q25 s).length:=by rw[o,A7]
  refine qp8 uB (.inr ⟨_,uB⟩) iU8 sU8 zU8 yR f.p1 (xs:=(q25 s).map qd) (z0k F) (by simp) q82 (by rw[bU8];omega) (by omega) λI K w f=>⟨_,_,_,rfl,?_⟩;rw[<-An,<-o,<-t]at f;rw[up g (by omega),<-t];exact⟨⟨I,i+1,K,rfl,by omega,qql j r (by omega),f.p1.drop⟩,by show ws.length -(i+1)<ws.length - i;omega⟩
 have y:i=ws.length:=by have:=yD G;omega
 subst y;rw[D0]at f r A n⊢;have D:=qke k (qj5 ws);refine(qtw (P.cons _) O (by omega) (z0k F) (qi.le f).2 (by omega) f).of λv w ⟨l,f⟩=>?_;unfold q07;rw[yB (qxh r)];generalize qbe k (qj5 ws)=m at D l⊢;have z:(qz2 m).size=32:=by rw[ql7,D]
 refine⟨_,z,l,zh f λb w f=>⟨z,StA.r 0 f yR (by rw[z];rfl) (q56 _) λw f=>?_⟩⟩;have f:St W (Row b 411 (m.map qd)::qi 5 1 J (qj5 ws).length c1 ((qj5 ws).map qd)::F) w:=f;refine SlP.allS 0 f yR (λF=>z0m) D (As _) yR λZ E=>?_;exact(q8m E (by omega) f).of λv w ⟨l,f⟩=>⟨_,l,rfl,z0h [_,_] f⟩
structure qk1 where
 k:Int
 A:ByteArray
 B:ByteArray
 N:Int
 M:Int
deriving DecidableEq,Inhabited
structure qm6 where
 k:Int
 line:Int
 m:qk1
deriving DecidableEq,Inhabited
abbrev ql2(m:qk1):A4:=Zg #[Zi Zk m.k,Zs m.A,Zs m.B,Zi Zk m.N,Zi Zk m.M]
def qia(a:qm6):List A4:=[Zi Zk a.k,Zi Zk a.line,Zi Zk a.m.k,Zs a.m.A,Zs a.m.B,Zi Zk a.m.N,Zi Zk a.m.M]
def uInt:Zp.underlying 3=A0 (.int Zk):=Tryz.underlying3
def uI64:Zp.underlying 2=A0 (.int Zk):=Tryz.underlying2
def eqF(d:Nat)(xs h:Array A4):List (Bool×Bg×Nat)->Sem Bool
 |[]=>pure Ac
 |f::fs=>match f.1 with
  |true=>do
   let a <-part f.2.1 xs f.2.2;let b <-part f.2.1 h f.2.2;let r <-Bt d f.2.1 a b
   if(!r)=Ac then pure Ap else eqF d xs h fs
  |false=>eqF d xs h fs
def qhm(f:Field):Bool×Bg×Nat:=(decide (f.name≠ "_"),f.type,f.offset)
def qhh(d:Nat)(xs a:Array A4):∀w:List Field,Ed d xs a w=eqF d xs a (w.map qhm)
 |[]=>rfl
 |f::w=>by
  have b:=qhh d xs a w;simp only[Ed,Ao,eqF,qhm];by_cases h:f.name≠ "_"
  .rw[yB h,yG h];simp only[b]
  .rw[yA h,yH h,b]
def qjr:Zp.plainKey 3=Ac:=by kernel_rfl
def qtz:Zp.plainKey 2=Ac:=by kernel_rfl
def pS:Zp.plainKey 9=Ac:=by kernel_rfl
def qow(a b:Int):(a==b)=decide (a=b):=by rw[Bool.eq_iff_iff];simp
def qex:∃a b c,Zp.underlying 211=A0 (.func a b c):=⟨_,_,_,Tryz.underlying211⟩
def qce(t:Bg)(x y:A4)(c:(∃f a b,x=.func f a b)\/x=.nilFunc)(h:y=.nilFunc)(w:A5):(binOp .eql t x y).run Zp w=((Bt 10000 t x y).run Zp w).andThen λb w'=>.ok (Zb b) w':=by subst h;rcases c with ⟨f,a,b,rfl⟩|rfl<;>(simp only[binOp];simp[Ee,Eg])
def qbr(d:Nat)(f:Fn)(x y:Array A4)(w:A5):(Bt (d+1) 211 (.func f x y) .nilFunc).run Zp w=.ok Ap w:=by obtain⟨a,b,c,h⟩:=qex;simp[Bt,run_underlying h]
def q7s(d:Nat)(w:A5):(Bt (d+1) 211 .nilFunc .nilFunc).run Zp w=.ok Ac w:=by obtain⟨a,b,c,h⟩:=qex;simp[Bt,run_underlying h]
def q6i{d h:Eh}{x:A4}(c:(∃f a b,x=.func f a b)\/x=.nilFunc)(w:A5):(eqGuard .eql 211 d h x .nilFunc).run Zp w=.ok () w:=by rcases c with ⟨f,a,b,rfl⟩|rfl<;>rfl
def qv01{a h:Eh}(f:Fn)(x y:Array A4)(w:A5):Sem.run Zp (do eqGuard .eql 211 a h (.func f x y) Bz;binOp .eql 211 (.func f x y) Bz) w=.ok (Zb Ap) w:=by simp only[Sem.run_bind,q6i (.inl ⟨f,x,y,rfl⟩) w,Dq,qce _ _ _ (.inl ⟨f,x,y,rfl⟩) yR];rw[show(10000:Nat)=9999+1 from rfl,qbr];rfl
def qbz{a h:Eh}(w:A5):Sem.run Zp (do eqGuard .eql 211 a h Bz Bz;binOp .eql 211 Bz Bz) w=.ok (Zb Ac) w:=by simp only[Sem.run_bind,q6i (.inr yR) w,Dq,qce _ _ _ (.inr yR) yR];rw[show(10000:Nat)=9999+1 from rfl,q7s];rfl
structure qe1 where
 ten:ByteArray
 tok:ByteArray
 sec:ByteArray
 nam:ByteArray
 ttl:Int
 every:Int
structure LD where
 b:Nat
 no:Int
 tk:ByteArray
 st:Nat
structure AG where
 held:Bool
 epoch:Int
 last:Int
 next:Int
 L:List LD
def e0:ByteArray:=⟨#[]⟩
def qm(s:ByteArray):List UInt8:=s.data.toList
def qt7(P:qe1)(x:ByteArray):ByteArray:=mkS (q07 (qm P.sec) [qm P.ten,qm P.tok,qm x])
def q73(no:Int)(m:qk1):qm6:=⟨2,no,m⟩
def qwf(no:Int):qm6:=⟨1,no,⟨0,e0,e0,0,0⟩⟩
def q7a(P:qe1):qk1:=⟨1,P.ten,P.tok,0,0⟩
def q27(P:qe1):qk1:=⟨6,P.nam,e0,P.ttl,0⟩
def maxN:Int:=1099511627776
def q14(now:Int):Prop:=0<=now/\now<=maxN
instance (n:Int):Decidable (q14 n):=by unfold q14;infer_instance
def qg2(G:AG)(no:Int):Option LD:=G.L.find? λd=>decide (d.no=no)
def setSt(G:AG)(no:Int)(st:Nat):AG:={ G with L:=G.L.map λd=>if d.no=no then { d with st:=st}else d}
def qp4(P:qe1)(G:AG)(no:Int)(tk:ByteArray)(b:Nat):AG×List qm6:=({ G with L:=G.L++[⟨b,no,tk,0⟩]},[qwf no,q73 no (q7a P)])
def qo3(P:qe1)(G:AG)(b:Nat):AG×List qm6:=if(qg2 G 0).isSome then(G,[])else qp4 P G 0 e0 b
def qe2(P:qe1)(G:AG)(m:qk1)(now:Int)(b:Nat):AG×List qm6:=
 if m.A=P.nam/\m.k=7 then({ G with held:=Ac,epoch:=m.N,last:=now},[])
 else if m.A=P.nam/\m.k=10/\G.held=Ac/\m.N=G.epoch then({ G with held:=Ap,epoch:=0},[q73 0 (q27 P)])
 else if m.A=P.nam/\m.k=11/\G.next<1000 then qp4 P { G with next:=G.next+1} G.next m.B b
 else(G,[])
def q22(P:qe1)(G:AG)(no:Int)(m:qk1)(now:Int)(b:Nat):AG×List qm6:=
 match qg2 G no with
 |none=>(G,[])
 |some d=>
  if d.st=3\/¬q14 now then(G,[])
  else if d.st=0 then(if m.k=2 then(setSt G no 1,[q73 no ⟨3,qt7 P m.A,e0,0,0⟩])else(G,[]))
  else if d.st=1 then(if m.k=4 then(if no=0 then(setSt G no 2,[q73 0 (q27 P)])else(setSt G no 3,[q73 no ⟨12,e0,d.tk,0,0⟩]))else(G,[]))
  else qe2 P G m now b
def qh5(G:AG)(no:Int):Bool:=match qg2 G no with
 |none=>Ap
 |some d=>decide (2<=d.st)
def qd3(P:qe1)(G:AG)(now:Int)(b:Nat):AG×List qm6:=
 if(qg2 G 0).isNone then qo3 P G b
 else if qh5 G 0=Ac/\G.held=Ac/\q14 now/\¬now - G.last<P.every then({ G with last:=now},[q73 0 ⟨8,P.nam,e0,G.epoch,P.ttl⟩])
 else(G,[])
def qn6(G:AG)(no:Int):AG×Bool:=
 if(qg2 G no).isNone then(G,Ap)
 else if no=0 then({ G with L:=[],held:=Ap,epoch:=0},Ac)
 else({ G with L:=G.L.filter λd=>decide (d.no≠no)},Ac)
structure AOk(G:AG):Prop where
 nod:(G.L.map (·.no)).Nodup
 nos:∀d∈G.L,0<=d.no/\d.no<G.next
 sts:∀d∈G.L,d.st<=3/\(d.st=2->d.no=0)/\(d.st=3->d.no≠0)
 next:1<=G.next/\G.next<=1000
 last:q14 G.last
def AOk.new:AOk ⟨Ap,0,0,1,[]⟩:=⟨.nil,by simp,by simp,by simp,by decide⟩
def q36{G:AG}{no:Int}{d:LD}(h:qg2 G no=A0 d):d∈G.L/\d.no=no:=by unfold qg2 at h;exact⟨List.mem_of_find?_eq_some h,by simpa using List.find?_some h⟩
def qwc{G:AG}{no:Int}:qg2 G no=A3↔∀d∈G.L,d.no≠no:=by unfold qg2;rw[List.find?_eq_none];simp
def q5u(G:AG)(no:Int)(st:Nat):(setSt G no st).L.map (·.no)=G.L.map (·.no):=by unfold setSt;rw[E9];refine Cp λd _=>?_;simp only[Function.comp_apply];split<;>rfl
def qpj{G:AG}{no:Int}{st:Nat}{d:LD}(h:d∈(setSt G no st).L):∃d0∈G.L,d.no=d0.no/\d.tk=d0.tk/\((d0.no=no/\d.st=st)\/(d0.no≠no/\d=d0)):=by
 unfold setSt at h;obtain⟨d0,w,rfl⟩:=B2.1 h;refine⟨d0,w,?_⟩;split;.rename_i e;exact⟨rfl,rfl,.inl ⟨e,rfl⟩⟩
 .rename_i e;exact⟨rfl,rfl,.inr ⟨e,rfl⟩⟩
def AOk.setSt{G:AG}(h:AOk G){no:Int}{st:Nat}(g:st<=3)(f:st=2->no=0)(i:st=3->no≠0):AOk (setSt G no st):=by
 refine⟨by rw[q5u];exact h.nod,λd w=>?_,λd w=>?_,h.next,h.last⟩
 .obtain⟨d0,a,e,_⟩:=qpj w;rw[e];exact h.nos d0 a
 .obtain⟨d0,a,e,_,⟨c,b⟩|⟨c,b⟩⟩:=qpj w;.rw[b,e,c];exact⟨g,f,i⟩
  .rw[b];exact h.sts d0 a
def AOk.open_{P:qe1}{G:AG}(h:AOk G){no:Int}{tk:ByteArray}{b:Nat}(f:0<=no)(g:no<G.next)(c:qg2 G no=A3):AOk (qp4 P G no tk b).1:=by
 unfold qp4;refine⟨?_,λd w=>?_,λd w=>?_,h.next,h.last⟩
 .dsimp only;rw[An,Dr];refine⟨h.nod,by simp,λx e y a=>?_⟩;simp at a;obtain⟨d,w,rfl⟩:=B2.1 e;rw[a];exact qwc.1 c d w
 .rcases Cl.1 w with w|w;.exact h.nos d w
  .simp at w;subst w;exact⟨f,g⟩
 .rcases Cl.1 w with w|w;.exact h.sts d w
  .simp at w;subst w;simp
def AOk.lost{G:AG}(h:AOk G)(no:Int):AOk (qn6 G no).1:=by
 unfold qn6;split;.exact h
 .split;.exact⟨.nil,by simp,by simp,h.next,h.last⟩
  .refine⟨h.nod.sublist (List.Sublist.map _ List.filter_sublist),λd w=>h.nos d (Cm.1 w).1,λd w=>h.sts d (Cm.1 w).1,h.next,h.last⟩
section
def add0(a:B1):Za a 0=a:=rfl
def kI:qw2 Zp 3 (Zi Zk):=qw2.i64 uInt
def uM:Zp.underlying 143=A0 (.map 3 141):=Tryz.underlying143
def iPt:Zp.info? 141=A0 Tryz.t141:=by kernel_rfl
def zPt:Tryz.t141.zero=A0 (Zq A3):=rfl
def qix:Zp.underlying 83=A0 (.slice 136):=Tryz.underlying83
def iAct:Zp.info? 136=A0 Tryz.t136:=by kernel_rfl
def sAct:Tryz.t136.size=7:=rfl
def zAct:∃z,Tryz.t136.zero=A0 z/\z.cells.size=7:=⟨_,rfl,rfl⟩
def bAct:Tryz.t136.bytes<=100:=by decide+kernel
def q8l(a:qm6):(qia a).length=7:=rfl
def qr01(a:qm6):∀v∈qia a,qn1 v:=λv h=>by simp[qia]at h;rcases h with rfl|rfl|rfl|rfl|rfl|rfl|rfl<;>trivial
def qc(a:Nat):A4:=Zq (A0 ⟨a,0,A3⟩)
def qec(a:Nat):Nat->A4
 |0=>.func (.func 157) #[qc a] #[]
 |1=>.func (.func 240) #[qc a] #[]
 |2=>.func (.func 290) #[qc a] #[]
 |_=>.nilFunc
def q98(a:Nat)(d:LD):List A4:=[Zi Zk d.no,Zs d.tk,qec a d.st,Zb (decide (2<=d.st))]
def qz4(a:Nat)(d:LD):Asn:=Row d.b 213 (q98 a d)
def q92(a:Nat)(L:List LD):Asn:=qz (L.map (qz4 a))
def keyD(L:List LD):List (Int×Nat):=L.map λd=>(d.no,d.b)
def agC(P:qe1)(m:Nat)(G:AG):List A4:=[Zs P.ten,Zs P.tok,Zs P.sec,Zs P.nam,Zi Zk P.ttl,Zi Zk P.every,.map (A0 m),Zb G.held,Zi Zk G.epoch,Zi Zk G.last,Zi Zk G.next]
def qv8(P:qe1):Prop:=P.sec.size<=9223372036854775807
abbrev AgL(a:Nat)(P:qe1)(m:Nat)(G:AG)(F:List Asn):List Asn:=Row a 145 (agC P m G)::qg (Zi Zk) qc m (keyD G.L)::q92 a G.L::F
def qv(a:Nat)(P:qe1)(G:AG):Asn:=exA λm:Nat=>qz [prA (AOk G/\qv8 P),Row a 145 (agC P m G),qg (Zi Zk) qc m (keyD G.L),q92 a G.L]
def erase_perm{α:Type}:∀(l:List α) (i:Nat) {x:α},l[i]?=A0 x->l.Perm (x::l.eraseIdx i)
 |[],i,x,h=>by simp at h
 |y::r,0,x,h=>by simp at h;subst h;exact .refl _
 |y::r,i+1,x,h=>((erase_perm r i (by simpa using h)).cons y).trans (List.Perm.swap _ _ _)
def set_erase{α:Type}:∀(l:List α) (i:Nat) (y:α),i<l.length->(l.set i y).Perm (y::l.eraseIdx i)
 |[],i,y,h=>by simp at h
 |x::r,0,y,h=>.refl _
 |x::r,i+1,y,h=>((set_erase r i y (by simpa using h)).cons x).trans (List.Perm.swap _ _ _)
def qiw(L:List LD)(no:Int):qe (keyD L) no=(L.find? λd=>decide (d.no=no)).map (·.b):=by
 induction L with
 |nil=>rfl
 |cons d r w=>
  unfold keyD at w⊢;simp only[Ao,qe,D4];by_cases h:d.no=no;.simp[h]
  .simp[h,w]
def qj7(G:AG)(no:Int):qe (keyD G.L) no=(qg2 G no).map (·.b):=qiw G.L no
def set_eq{L:List LD}{i:Nat}{d:LD}{no:Int}{st:Nat}(w:(L.map (·.no)).Nodup)(a:L[i]?=A0 d)(b:d.no=no):L.set i { d with st:=st}=L.map λd=>if d.no=no then { d with st:=st}else d:=by
 induction L generalizing i with
 |nil=>simp at a
 |cons x r c=>
  simp only[Ao,E1]at w;cases i with
  |zero=>simp at a;subst a;rw[Bf,Ao,yB b];congr 1;refine(List.map_id _).symm.trans (Cp λy f=>?_);have:y.no≠no:=λe=>w.1 (by rw[b,<-e];exact B2.2 ⟨y,f,rfl⟩);rw[yA this];rfl
  |succ i=>
   have h:r[i]?=A0 d:=by simpa using a
   have:x.no≠no:=λe=>w.1 (by rw[e,<-b];exact B2.2 ⟨d,Db h,rfl⟩);rw[Dj,Ao,yA this,c w.2 h]
section
variable{W w:World}{F:List Asn}{a m:Nat}{P:qe1}{G:AG}{L:List LD}{i:Nat}{d:LD}
def q92.take(h:St W (q92 a L::F) w)(e:L[i]?=A0 d):St W (qz4 a d::q92 a (L.eraseIdx i)::F) w:=by have c:St W (L.map (qz4 a)++F) w:=h.of_sep;have b:St W ((d::L.eraseIdx i).map (qz4 a)++F) w:=c.perm (((erase_perm L i e).map (qz4 a)).append_right F);exact(zj (l:=(L.eraseIdx i).map (qz4 a)) (z0c b (by simp only[Ao,Cz];exact(Cc (l₁:=(L.eraseIdx i).map (qz4 a)) (a:=qz4 a d) (l₂:=F)).symm))).p1
def q92.give{y:LD}(b:i<L.length)(h:St W (qz4 a y::q92 a (L.eraseIdx i)::F) w):St W (q92 a (L.set i y)::F) w:=by have c:St W ((L.eraseIdx i).map (qz4 a)++(qz4 a y::F)) w:=St.of_sep h.p1;refine zj (z0c c ?_);exact Cc.trans (((set_erase L i y b).symm.map (qz4 a)).append_right F)
def q92.cell(h:St W (q92 a L::F) w)(c:L[i]?=A0 d){j:Nat}{v:A4}(b:(q98 a d)[j]?=A0 v):w.cell? ⟨d.b,j,A3⟩=A0 v:=(q92.take h c).ld b
def q92.cut{p:LD->Bool}(h:St W (q92 a L::F) w):St W (q92 a (L.filter p)::F) w:=by
 have c:St W (L.map (qz4 a)++F) w:=h.of_sep;have b:(L.map (qz4 a)++F).Perm ((L.filter λx=>!p x).map (qz4 a)++((L.filter p).map (qz4 a)++F)):=by rw[<-B0,<-An];exact(((Bn.trans (List.filter_append_perm p L)).symm).map _).append_right F
 exact zj (z0h _ (c.perm b))
def q92.add(h:St W (qz4 a d::q92 a L::F) w):St W (q92 a (L++[d])::F) w:=by have b:St W (L.map (qz4 a)++(qz4 a d::F)) w:=St.of_sep h.p1;refine zj ?_;rw[An,B0];exact b
def qv.open_(h:St W (qv a P G::F) w):∃m,AOk G/\qv8 P/\St W (AgL a P m G F) w:=by obtain⟨m,h⟩:=h.of_ex;obtain⟨⟨c,b⟩,h⟩:=h.of_sep.of_pr;exact⟨m,c,b,h⟩
def qv.shut(b:AOk G)(c:qv8 P)(h:St W (AgL a P m G F) w):St W (qv a P G::F) w:=
 z00 m (zj (l:=[_,_,_,_]) (z01 ⟨b,c⟩ h))
def qv.ok(h:St W (qv a P G::F) w):AOk G/\qv8 P:=by obtain⟨m,b,c,_⟩:=qv.open_ h;exact⟨b,c⟩
abbrev qm2(p:Option B1)(c:Nat)(l:List qm6):Asn:=SlA 136 7 qia p c l
def qsb(no:Int)(x:qk1)(h:St W F w):qb Zp 59 #[Zi Zk no,ql2 x] w λv w'=>∃p c,v=Zl p 1 c/\St W (qm2 p c [q73 no x]::F) w':=by refine F59_of (zh h λb w h=>z8 0 h yR yR (zg 0 h yR yR (zg 0 h yR yR (z8 0 h yR yR (z8 0 h yR yR (zh h λa w h=>⟨_,_,rfl,?_⟩))))));have h:St W (Row a 136 ([q73 no x].flatMap qia)::Row b 74 [Zi Zk x.k,Zs x.A,Zs x.B,Zi Zk x.N,Zi Zk x.M]::F) w:=h;exact(SlA.of_row (os:=[q73 no x]) q8l h).p1.drop
def qgk(now:Int)(b:St W F w):qb Zp 58 #[Zi Zk now] w λv w'=>v=Zb (decide (q14 now))/\St W F w':=by
 refine F58_of (za (λh=>⟨?_,b⟩) λh=>⟨?_,b⟩)
 .have h:=yC h;congr 1;rw[decide_eq_decide];exact⟨λa=>⟨h,a⟩,λa=>a.2⟩
 .have h:=yD h;rw[yH (λa:q14 now=>h a.1)]
def qrh(b:St W (qv a P G::F) w):qb Zp 291 #[qc a] w λv w'=>∃p c,v=Zl p 1 c/\St W (qm2 p c [q73 0 (q27 P)]::qv a P G::F) w':=by obtain⟨m,e,f,b⟩:=qv.open_ b;refine F291_of ?_;simp only[add0];have d:=z6 W (AgL a P m G F);refine⟨StC W _,zd b,z7 (z7 ⟨_,zu 0 d yR yR,_,zi 0 d yR yR,?_⟩)⟩;refine zk (α:=Option B1×Nat) (V:=λy=>.slice y.1 1 y.2) (B:=λy=>qm2 y.1 y.2 [q73 0 (q27 P)]::AgL a P m G F) (A3,0) d (λg w h=>(qsb 0 (q27 P) h).of λv w' ⟨p,c,i,h⟩=>⟨_,_,_,i,(p,c),rfl,h⟩) λy=>⟨_,_,_,rfl,trivial,λg w h=>⟨_,_,rfl,?_⟩⟩;exact(qv.shut e f (zf 0 3 (zb h) yR)).p1 |> λh=>h.p1.p1
def New_spec(P:qe1)(e:qv8 P)(h:St W F w):qb Zp 51 #[Zg #[Zs P.ten,Zs P.tok,Zs P.sec,Zs P.nam,Zi Zk P.ttl,Zi Zk P.every]] w λv w'=>∃a,v=qc a/\St W (qv a P ⟨Ap,0,0,1,[]⟩::F) w':=by refine F51_of (zh h λc w h=>zg 0 h yR yR (zg 0 h yR yR (zg 0 h yR yR (zg 0 h yR yR (z8 0 h yR yR (z8 0 h yR yR (qs5.n (Zi Zk) qc h λm w1 h=>zh h λa w h=>⟨a,rfl,?_⟩)))))));have b:St W (Row a 145 (agC P m ⟨Ap,0,0,1,[]⟩)::qg (Zi Zk) qc m []::Row c 69 [Zs P.ten,Zs P.tok,Zs P.sec,Zs P.nam,Zi Zk P.ttl,Zi Zk P.every]::F) w:=h.perm (List.Perm.cons _ Bn);have d:St W (q92 a []::Row a 145 (agC P m ⟨Ap,0,0,1,[]⟩)::qg (Zi Zk) qc m []::F) w:=zj (l:=[]) (z03 2 b yR);exact qv.shut AOk.new e (zf 0 2 d yR)
def qjk(no:Int)(tk:ByteArray)(C:0<=no)(A:no<G.next)(r:qg2 G no=A3)(d:St W (qv a P G::F) w):
 qb Zp 94 #[qc a,Zi Zk no,Zs tk] w λv w'=>∃p c b,v=Zl p 2 c/\St W (qm2 p c (qp4 P G no tk b).2::qv a P (qp4 P G no tk b).1::F) w':=by
 obtain⟨m,D,x,d⟩:=qv.open_ d;refine F94_of ?_;unfold F94;simp only[add0];refine z7 (zv 0 d yR yR (zh d λb w d=>?_));have d:St W (qz4 a ⟨b,no,tk,0⟩::AgL a P m G F) w:=d;have t:qe (keyD G.L) no=A3:=by rw[qj7,r];rfl
 refine qh1 kI uM 2 d yR no b λw d=>?_;rw[qbc t]at d;have j:AOk (qp4 P G no tk b).1:=D.open_ C A r;have d:St W (AgL a P m (qp4 P G no tk b).1 F) w:=by
  have e:keyD G.L++[(no,b)]=keyD (qp4 P G no tk b).1.L:=by unfold keyD qp4;rw[An];rfl
  rw[e]at d;have o:St W (qz4 a ⟨b,no,tk,0⟩::q92 a G.L::Row a 145 (agC P m G)::qg (Zi Zk) qc m (keyD (qp4 P G no tk b).1.L)::F) w:=zf 3 1 d yR;exact zf 0 2 (q92.add o) yR
 generalize q:(qp4 P G no tk b).1=i at d j;have g:(qp4 P G no tk b).2=[qwf no,q73 no (q7a P)]:=rfl;have k:=z6 W (AgL a P m i F);refine⟨StC W _,zd d,z7 (z7 ⟨_,QtS.n 0 k yR yR,_,zu 0 k yR yR,?_⟩)⟩;refine zk (α:=Option B1×Nat) (V:=λy=>.slice y.1 1 y.2) (B:=λy=>qm2 y.1 y.2 [q73 no (q7a P)]::AgL a P m i F) (A3,0) k (λi w h=>(qsb no (q7a P) h).of λv w' ⟨p,c,E,h⟩=>⟨_,_,_,E,(p,c),rfl,h⟩) λy=>⟨_,_,_,rfl,trivial,λf=>?_⟩;refine zk (α:=Option B1×Nat) (V:=λz=>.slice z.1 2 z.2) (B:=λz=>qm2 z.1 z.2 [qwf no,q73 no (q7a P)]::AgL a P m i F) (A3,0) (ir.push f _) (λl w h=>?_) λz=>⟨_,_,_,rfl,trivial,λl w h=>⟨_,_,b,rfl,?_⟩⟩
 .have h:St W (Pt f (.cells #[(Zi Zk 1),(Zi Zk no),(Zi Zk 0),(Zs ⟨#[]⟩),(Zs ⟨#[]⟩),(Zi Zk 0),(Zi Zk 0)] 136)::qm2 y.1 y.2 [q73 no (q7a P)]::(AgL a P m i F++pts l)) w:=h;have o:St W (Row f 136 ([qwf no].flatMap qia)::qm2 y.1 y.2 [q73 no (q7a P)]::(AgL a P m i F++pts l)) w:=h.imp z0d;have u:=SlA.of_row (os:=[qwf no]) q8l o;obtain⟨z,H,n⟩:=zAct;have J:=bAct;refine qf3 (os:=[qwf no]) (xs:=[q73 no (q7a P)]) q8l qix (.inr ⟨_,qix⟩) iAct sAct H n 0 u yR (z04 0 yR λF=>z0e F) yR qr01 (by simp only[Ab,Ai];omega) (by simp only[Ab,Ai];omega) λI s w' h=>⟨_,_,_,rfl,(I,s),rfl,?_⟩;exact z03 1 h yR
 .have d:=zb h;rw[g,q];exact(qv.shut j x (zf 0 3 d yR)).p1.p1.p1
def qii(e:St W (qv a P G::F) w):qb Zp 52 #[qc a] w λv w'=>∃p c b,v=Zl p (qo3 P G b).2.length c/\St W (qm2 p c (qo3 P G b).2::qv a P (qo3 P G b).1::F) w':=by
 have k:=qv.ok e;have j:=e;obtain⟨m,f,g,e⟩:=qv.open_ e;refine F52_of (z7 (zv 0 e yR yR (qq1 kI uM iPt zPt 1 e yR 0 Ac ?_)));rw[yB yR,qj7];unfold qo3;cases hl:qg2 G 0 with
 |some d=>refine⟨A0 ⟨d.b,0,A3⟩,Ac,rfl,zm yR ⟨A3,0,0,rfl,?_⟩⟩;exact z09 (qv.shut f g e)
 |none=>refine⟨A3,Ap,rfl,zn yR ?_⟩;exact(qjk 0 e0 (Eb _) (by have:=f.next;omega) hl (qv.shut f g e)).of λv w' ⟨p,c,b,i,h⟩=>⟨_,_,_,i,p,c,b,rfl,h⟩
def qgl(no:Int)(h:St W (qv a P G::F) w):qb Zp 57 #[qc a,Zi Zk no] w λv w'=>v=Zb (qh5 G no)/\St W (qv a P G::F) w':=by
 obtain⟨m,c,b,h⟩:=qv.open_ h;refine F57_of (z7 (zv 0 h yR yR (qq1 kI uM iPt zPt 1 h yR no Ac ?_)));rw[yB yR,qj7];unfold qh5;cases hl:qg2 G no with
 |some d=>obtain⟨i,e⟩:=Az (q36 hl).1;exact⟨A0 ⟨d.b,0,A3⟩,Ac,rfl,zm yR (z7 (LdB.at (q92.cell (h.at 2 yR) e (j:=3) yR) ⟨rfl,qv.shut c b h⟩))⟩
 |none=>exact⟨A3,Ap,rfl,zn yR ⟨rfl,qv.shut c b h⟩⟩
def qrw(L:List LD)(w:(L.map (·.no)).Nodup)(no:Int):qp (keyD L) no=keyD (L.filter λd=>decide (d.no≠no)):=by
 induction L with
 |nil=>rfl
 |cons d r a=>
  simp only[Ao,E1]at w;unfold keyD at a⊢;simp only[Ao,qp];by_cases h:d.no=no
  .rw[yB h,List.filter_cons_of_neg (by simpa using h),List.filter_eq_self.2];intro x b;have:x.no≠no:=λe=>w.1 (by rw[h,<-e];exact B2.2 ⟨x,b,rfl⟩);simpa using this
  .rw[yA h,List.filter_cons_of_pos (by simpa using h),a w.2];rfl
def q8t(no:Int)(h:St W (qv a P G::F) w):qb Zp 106 #[qc a,Zi Zk no] w λv w'=>v=Zb (qn6 G no).2/\St W (qv a P (qn6 G no).1::F) w':=by
 obtain⟨m,e,f,h⟩:=qv.open_ h;have b:=e.lost no;refine F106_of (z7 (zv 0 h yR yR (qq1 kI uM iPt zPt 1 h yR no Ac ?_)));rw[yB yR,qj7];unfold qn6 at b⊢;cases g:qg2 G no with
 |none=>
  refine⟨A3,Ap,rfl,z7 (zv 0 h yR yR (qc5 kI uM 1 h yR no λw h=>zn yR ⟨rfl,?_⟩))⟩;have i:qe (keyD G.L) no=A3:=by rw[qj7,g];rfl
  rw[ql6 i]at h;exact qv.shut e f h
 |some d=>
  rw[g]at b;refine⟨A0 ⟨d.b,0,A3⟩,Ac,rfl,z7 (zv 0 h yR yR (qc5 kI uM 1 h yR no λw h=>zm yR ?_))⟩;rw[yA (by simp)]at b⊢;by_cases c:no=0
  .rw[yB c]at b⊢;refine zm (by rw[c];rfl) (z7 (zv 0 h yR yR (qmy uM 1 h yR λw h=>z7 (St1.zz 0 h yR λw h=>z7 (St1.zz 0 h yR λw h=>⟨rfl,?_⟩)))));have h:St W (Row a 145 (agC P m { G with L:=[],held:=Ap,epoch:=0})::qg (Zi Zk) qc m []::q92 a G.L::F) w:=h;exact qv.shut b f (zf 0 2 (zj (l:=[]) (z03 2 h yR)) yR)
  .rw[yA c]at b⊢;refine zn (by simpa using c) ⟨rfl,?_⟩;have h:St W (Row a 145 (agC P m G)::qg (Zi Zk) qc m (qp (keyD G.L) no)::q92 a G.L::F) w:=h;rw[qrw _ e.nod]at h;exact qv.shut b f (zf 0 2 (q92.cut (zf 2 0 h yR)) yR)
end
def z14:=@qv.open_
end
section
def QtS.at{C:Cls}{a:B1}{x:ByteArray}(h:∀G w,C.p G w->w.cell? a=A0 (Zs x)):Qt C (Zs x) λw K=>LdS a w λx=>K (Zs x) w:=λG w b=>z0i (h G w b) ⟨rfl,b⟩
def QtB.at{C:Cls}{a:B1}{x:Bool}(h:∀G w,C.p G w->w.cell? a=A0 (Zb x)):Qt C (Zb x) λw K=>LdB a w λx=>K (Zb x) w:=λG w b=>LdB.at (h G w b) ⟨rfl,b⟩
def q61(x:qk1):List A4:=[Zi Zk x.k,Zs x.A,Zs x.B,Zi Zk x.N,Zi Zk x.M]
def q0n(G:AG)(no:Int)(st:Nat):keyD (setSt G no st).L=keyD G.L:=by unfold keyD setSt;rw[E9];refine Cp λd _=>?_;simp only[Function.comp_apply];split<;>rfl
def qsh{G:AG}{no:Int}{st:Nat}{d:LD}(h:qg2 G no=A0 d):qg2 (setSt G no st) no=A0 { d with st:=st}:=by
 unfold qg2 setSt at*;dsimp only at h⊢;generalize G.L=L at h;induction L with
 |nil=>simp at h
 |cons x r ih=>
  rw[D4]at h;rw[Ao,D4];by_cases w:x.no=no
  .simp only[w,decide_true,Option.some.injEq]at h;subst h;simp[w]
  .simp only[w,decide_false]at h;simp only[w,if_false,decide_false];exact ih h
section
variable{W w:World}{F:List Asn}{a m:Nat}{P:qe1}{G:AG}{no:Int}{d:LD}{x:qk1}{now:Int}
def AgL.step{st:Nat}{K:A5->Prop}(q:qg2 G no=A0 d)(l:(G.L.map (·.no)).Nodup)(b:decide (2<=st)=decide (2<=d.st))(o:St W (AgL a P m G F) w)(p:∀w',St W (AgL a P m (setSt G no st) F) w'->K w'):St1 ⟨d.b,2,A3⟩ (qec a st) w K:=by
 obtain⟨n,c⟩:=q36 q;obtain⟨i,f⟩:=Az n;have g:=(Af.1 f).1;refine z0o 0 (q92.take (zf 2 0 o yR) f) yR (by simp[q98]) λw' h=>p w' ?_;have e:(q98 a d).set 2 (qec a st)=q98 a { d with st:=st}:=by unfold q98;rw[b];rfl
 have h:St W (qz4 a { d with st:=st}::q92 a (G.L.eraseIdx i)::Row a 145 (agC P m G)::qg (Zi Zk) qc m (keyD G.L)::F) w':=by unfold qz4;rw[<-e];exact h
 have j:=q92.give g h;rw[set_eq l f c]at j;have k:St W (Row a 145 (agC P m G)::qg (Zi Zk) qc m (keyD G.L)::q92 a (setSt G no st).L::F) w':=zf 0 2 j yR;rw[<-q0n G no st]at k;exact k
def AgL.pass{st:Nat}{K:A5->Prop}(s:qg2 G no=A0 d)(o:(G.L.map (·.no)).Nodup)(c:2<=st)(q:St W (AgL a P m G F) w)(r:∀w',St W (AgL a P m (setSt G no st) F) w'->K w')
 {l:A5->Prop} (j:∀w1,w1.cell? ⟨d.b,0,A3⟩=A0 (Zi Zk d.no)->St1 ⟨d.b,2,A3⟩ (qec a st) w1 K->l w1):St1 ⟨d.b,3,A3⟩ (Zb Ac) w l:=by
 obtain⟨p,b⟩:=q36 s;obtain⟨i,f⟩:=Az p;have g:=(Af.1 f).1;refine z0o 0 (q92.take (zf 2 0 q yR) f) yR (by simp[q98]) λw1 h=>j w1 (h.ld yR) ?_;refine z0o 0 h yR (by simp[q98]) λw' h=>r w' ?_;have e:((q98 a d).set 3 (Zb Ac)).set 2 (qec a st)=q98 a { d with st:=st}:=by unfold q98;rw[yG c];rfl
 have h:St W (qz4 a { d with st:=st}::q92 a (G.L.eraseIdx i)::Row a 145 (agC P m G)::qg (Zi Zk) qc m (keyD G.L)::F) w':=by unfold qz4;rw[<-e];exact h
 have k:=q92.give g h;rw[set_eq o f b]at k;have n:St W (Row a 145 (agC P m G)::qg (Zi Zk) qc m (keyD G.L)::q92 a (setSt G no st).L::F) w':=zf 0 2 k yR;rw[<-q0n G no st]at n;exact n
def AgL.line{l0:List Asn}(b:qg2 G no=A0 d)(e:St W (AgL a P m G F) w){j:Nat}{v:A4}(h:(q98 a d)[j]?=A0 v):w.cell? ⟨d.b,j,A3⟩=A0 v:=by obtain⟨i,c⟩:=Az (q36 b).1;exact q92.cell (e.at 2 yR) c h
def qg8{F':List Asn}(h:St W F' w):St W (qm2 A3 0 []::F') w:=z09 h
def qch(s:ByteArray):Zs s=Zs (mkS (qm s)):=by unfold qm;rw[qd5]
def qfe(s:ByteArray):(qm s).length=s.size:=rfl
def qcq(H:qg2 G no=A0 d)(C:d.st=0)(l:St W (qv a P G::F) w):
 qb Zp 157 #[qc a,qc d.b,ql2 x,Zi Zk now] w λv w'=>∃p c,v=Zl p (if x.k=2 then(setSt G no 1,[q73 no ⟨3,qt7 P x.A,e0,0,0⟩])else(G,[])).2.length c/\
  St W (qm2 p c (if x.k=2 then(setSt G no 1,[q73 no ⟨3,qt7 P x.A,e0,0,0⟩])else(G,[])).2::qv a P (if x.k=2 then(setSt G no 1,[q73 no ⟨3,qt7 P x.A,e0,0,0⟩])else(G,[])).1::F) w':=by
 obtain⟨m,I,E,l⟩:=z14 l;obtain⟨T,J⟩:=q36 H;refine F157_of (zh l λg w l=>z8 0 l yR yR (za (λr=>?_) λr=>?_))
 .have r:¬x.k=2:=by simpa using r
  rw[yA r];exact⟨A3,0,rfl,qg8 (qv.shut I E l.drop)⟩
 have r:x.k=2:=by simpa using r
 rw[yB r];have u:AOk (setSt G no 1):=I.setSt (by omega) (by omega) (by omega);have l:St W (AgL a P m G (Row g 74 (q61 x)::F)) w:=zf 0 3 l yR;refine z7 ⟨trivial,AgL.step (st:=1) H I.nod (by rw[C];rfl) l λw l=>?_⟩;have o:=qsh (st:=1) H;have A:P.sec.size<=9223372036854775807:=E;have s:∀{F':List Asn} {w:A5} {K:A4->A5->Prop},St W F' w->(∀b c w',(qm P.sec).length<=c->St W (Row b 5 ((qm P.sec).map qd++A1 (c -(qm P.sec).length) (Zi .u8 0))::F') w'->K (.slice (A0 ⟨b,0,A3⟩) (qm P.sec).length c) w')->Run Zp (convert 9 22 (Zs P.sec)) w K:=λ{F' w K} h hK=>by rw[qch];exact qcb uS uB uU8 h hK
 generalize R:setSt G no 1=G1 at l u o;have t:=z6 W (AgL a P m G1 (Row g 74 (q61 x)::F));refine⟨StC W _,zd l,z7 (z7 (z7 (z7 ⟨d.no,z0j λk w f=>?_,P.sec,QtS.at λk w f=>t.cell 0 yR yR f,P.ten,QtS.at λk w f=>t.cell 0 yR yR f,P.tok,QtS.at λk w f=>t.cell 0 yR yR f,x.A,QtS.at λk w f=>t.cell 3 yR yR f,?_⟩)))⟩;.exact AgL.line (l0:=[]) o ((t k w).1 f) (j:=0) yR
 refine zk (α:={ y:Nat×Nat//(qm P.sec).length<=y.2}) (V:=λy=>.slice (A0 ⟨y.1.1,0,A3⟩) (qm P.sec).length y.1.2) (B:=λy=>Row y.1.1 5 ((qm P.sec).map qd++A1 (y.1.2 -(qm P.sec).length) (Zi .u8 0))::AgL a P m G1 (Row g 74 (q61 x)::F)) ⟨(0,(qm P.sec).length),As _⟩ t (λk w h=>s h λb c w' L h=>⟨_,_,_,rfl,⟨(b,c),L⟩,rfl,h⟩) λy=>?_;have n:=z6 W (Row y.1.1 5 ((qm P.sec).map qd++A1 (y.1.2 -(qm P.sec).length) (Zi .u8 0))::AgL a P m G1 (Row g 74 (q61 x)::F));refine⟨_,_,_,rfl,⟨QtS.at λk w f=>n.cell 4 yR yR f,QtS.at λk w f=>n.cell 1 yR yR f,QtS.at λk w f=>n.cell 1 yR yR f,z0j λk w f=>AgL.line (l0:=[]) o ((n k w).1 f).drop (j:=0) yR⟩,λq=>?_⟩;have D:qt7 P x.A=mkS (q07 (qm P.sec) [qm P.ten,qm P.tok,qm x.A]):=rfl;refine zk (α:=Unit) (V:=λ_=>Zs (qt7 P x.A)) (B:=λ_=>AgL a P m G1 (Row g 74 (q61 x)::F)) () (n.push q _) (λk w h=>?_) λ_=>⟨_,rfl,z0j λk w f=>AgL.line (l0:=[]) o f (j:=0) yR,?_⟩
 .have Q:St W (Row q 9 ([qm P.ten,qm P.tok,qm x.A].map qc8)::Row y.1.1 5 ((qm P.sec).map qd++A1 (y.1.2 -(qm P.sec).length) (Zi .u8 0))::(AgL a P m G1 (Row g 74 (q61 x)::F)++pts k)) w:=by
   have e:[qm P.ten,qm P.tok,qm x.A].map qc8=[Zs P.ten,Zs P.tok,Zs x.A]:=by simp only[Ao,List.map_nil,qc8];rw[<-qch,<-qch,<-qch]
   rw[e];have h:St W (Pt q (.cells #[(Zs P.ten),(Zs P.tok),(Zs x.A)] 9)::Row y.1.1 5 ((qm P.sec).map qd++A1 (y.1.2 -(qm P.sec).length) (Zi .u8 0))::(AgL a P m G1 (Row g 74 (q61 x)::F)++pts k)) w:=h;exact h.imp z0d
  have M:Rd (Row q 9 ([qm P.ten,qm P.tok,qm x.A].map qc8)::Row y.1.1 5 ((qm P.sec).map qd++A1 (y.1.2 -(qm P.sec).length) (Zi .u8 0))::(AgL a P m G1 (Row g 74 (q61 x)::F)++pts k)) (A0 ⟨y.1.1,0,A3⟩) ((qm P.sec).map qd):=by refine Rd.cons (z0t 0 λi v O=>?_) _;rw[C5,B6 (Af.1 O).1];exact O
  exact(qqe M y.2 (by rw[qfe];exact A) z0m (by simp) Q).of λv w' ⟨N,h⟩=>⟨_,N,(),by rw[D],h.drop.drop⟩
 refine zk (α:=Option B1×Nat) (V:=λz=>.slice z.1 1 z.2) (B:=λz=>qm2 z.1 z.2 [q73 no ⟨3,qt7 P x.A,e0,0,0⟩]::AgL a P m G1 (Row g 74 (q61 x)::F)) (A3,0) ir (λk w h=>(qsb d.no ⟨3,qt7 P x.A,e0,0,0⟩ h).of λv w' ⟨p,c,N,h⟩=>⟨_,_,_,N,(p,c),rfl,by rw[J]at h;exact h⟩) λz=>⟨_,_,_,rfl,trivial,λk w h=>⟨_,_,rfl,?_⟩⟩;have l:=zb h;exact(qv.shut u E (zf 0 3 (z03 4 l yR) yR)).p1
def qun(t:qg2 G no=A0 d)(H:d.st=1)(b:St W (qv a P G::F) w):
 qb Zp 240 #[qc a,qc d.b,ql2 x,Zi Zk now] w λv w'=>∃p c,v=Zl p (if x.k=4 then(if no=0 then(setSt G no 2,[q73 0 (q27 P)])else(setSt G no 3,[q73 no ⟨12,e0,d.tk,0,0⟩]))else(G,[])).2.length c/\
  St W (qm2 p c (if x.k=4 then(if no=0 then(setSt G no 2,[q73 0 (q27 P)])else(setSt G no 3,[q73 no ⟨12,e0,d.tk,0,0⟩]))else(G,[])).2::qv a P (if x.k=4 then(if no=0 then(setSt G no 2,[q73 0 (q27 P)])else(setSt G no 3,[q73 no ⟨12,e0,d.tk,0,0⟩]))else(G,[])).1::F) w':=by
 obtain⟨m,o,u,b⟩:=z14 b;obtain⟨J,g⟩:=q36 t;refine F240_of (zh b λk w b=>z8 0 b yR yR (za (λf=>?_) λf=>?_))
 .have f:¬x.k=4:=by simpa using f
  rw[yA f];exact⟨A3,0,rfl,qg8 (qv.shut o u b.drop)⟩
 have f:x.k=4:=by simpa using f
 rw[yB f];have b:St W (AgL a P m G (Row k 74 (q61 x)::F)) w:=zf 0 3 b yR;by_cases l:no=0
 .rw[yB l];have e:AOk (setSt G no 2):=o.setSt (by omega) (λ_=>l) (by omega);refine z7 (AgL.pass (st:=2) (K:=λw'=>qb Zp 291 #[qc a] w' λv w'=>AsL v λs q n=>∃p c,Zl s q n=.slice p [q73 0 (q27 P)].length c/\St W (qm2 p c [q73 0 (q27 P)]::qv a P (setSt G no 2)::F) w') t o.nod (by omega) b (λw' b=>?_) λw1 C A=>z7 (zq C (zm (by rw[g,l];rfl) (z7 ⟨trivial,A⟩))));exact(qrh (qv.shut e u b)).of λv w' ⟨p,c,D,h⟩=>⟨_,_,_,D,p,c,rfl,z03 2 h yR⟩
 .rw[yA l];have e:AOk (setSt G no 3):=o.setSt (by omega) (by omega) (λ_=>l);refine z7 ?_;have i:=qsh (st:=3) t;refine AgL.pass (st:=3) t o.nod (by omega) b ?_ (λw1 C A=>z7 (zq C (zn (by rw[g];simpa using l) (z7 ⟨trivial,A⟩))));intro w' b;generalize I:setSt G no 3=G1 at b e i;have y:=z6 W (AgL a P m G1 (Row k 74 (q61 x)::F));refine⟨StC W _,zd b,z7 (z7 ⟨d.no,z0j λr w E=>AgL.line (l0:=[]) i ((y r w).1 E) (j:=0) yR,d.tk,QtS.at λr w E=>AgL.line (l0:=[]) i ((y r w).1 E) (j:=1) yR,?_⟩)⟩;refine zk (α:=Option B1×Nat) (V:=λz=>.slice z.1 1 z.2) (B:=λz=>qm2 z.1 z.2 [q73 no ⟨12,e0,d.tk,0,0⟩]::AgL a P m G1 (Row k 74 (q61 x)::F)) (A3,0) y (λr w h=>(qsb d.no ⟨12,e0,d.tk,0,0⟩ h).of λv w' ⟨p,c,D,h⟩=>⟨_,_,_,D,(p,c),rfl,by rw[g]at h;exact h⟩) λz=>⟨_,_,_,rfl,trivial,λr w h=>⟨_,_,rfl,?_⟩⟩;have b:=zb h;exact(qv.shut e u (zf 0 3 (z03 4 b yR) yR)).p1
end
def z0z:=@QtS.at
end
section
section
variable{W w:World}{F:List Asn}{a m:Nat}{P:qe1}{G:AG}{no:Int}{d:LD}{x:qk1}{now:Int}
def qgs{f:Nat}{R:A4->A5->Prop}(j:¬(x.A=P.nam/\x.k=7))(i:¬(x.A=P.nam/\x.k=10/\G.held=Ac/\x.N=G.epoch))(A:AOk G)(hP:qv8 P)(l:St W (Row f 74 (q61 x)::AgL a P m G F) w)
 (hR:∀v w',(∃p c b,v=Zl p (qe2 P G x now b).2.length c/\St W (qm2 p c (qe2 P G x now b).2::qv a P (qe2 P G x now b).1::F) w')->R v w'):
 Bif (ByteArray.toList x.A==ByteArray.toList P.nam) (
  LdI Zk (Za ⟨f,0,A3⟩ 0) w λx81=>
  Bif (x81==11) (
  qa (A0 ⟨a,0,A3⟩) λa82=>
  LdI Zk (Za a82 10) w λx83=>
  Bif (decide (x83<1000)) (
  qa (A0 ⟨a,0,A3⟩) λa84=>
  LdI Zk (Za a84 10) w λx85=>
  qa (A0 ⟨a,0,A3⟩) λZ=>
  St1 (Za Z 10) (Zi Zk (Zw Zk (x85+1))) w λh0=>
  ∃(k:Cls),Cls.p k [] h0/\
  qa (A0 ⟨a,0,A3⟩) λa89=>
  ∃(X:Int),Qt k (Zi Zk X) (λT K92=>
  LdI Zk (Za a89 10) T λx93=>
  K92 (Zi Zk x93) T)/\
  ∃(J:ByteArray),Qt k (Zs J) (λU h1=>
  LdS (Za ⟨f,0,A3⟩ 2) U λx97=>
  h1 (Zs x97) U)/\
  Ef k (λL M=>
  qb Zp 94 #[(Zq (A0 ⟨a,0,A3⟩)),(Zi Zk (Zw Zk (X - 1))),(Zs J)] L λK N=>
  AsL K λD z t=>
  M (Zl D z t) N) λO D99=>
  AsL O λr u q=>
  (True)/\
  ∀Q o,Cls.p D99 Q o->
  R (Zl r u q) o) (
  R (Zl A3 0 0) w)) (
  R (Zl A3 0 0) w)) (
  R (Zl A3 0 0) w):=by
 have hnx:=A.next;have s:¬(x.A=P.nam/\x.k=11/\G.next<1000)->R (Zl A3 0 0) w:=λh3=>by
  refine hR _ _ ⟨A3,0,0,?_,?_⟩;.unfold qe2;rw[yA j,yA i,yA h3];rfl
  .unfold qe2;rw[yA j,yA i,yA h3];exact qg8 (qv.shut A hP l.drop)
 rw[qv3];refine za (λI=>z8 0 l yR yR (za (λH=>z7 (z8 1 l yR yR (za (λE=>?_) λE=>s (λh=>(yD E) h.2.2)))) λH=>s (λh=>yI h.2.1 (by simpa using H)))) λI=>s (λh=>(yD I) h.1);have I:=yC I;have H:x.k=11:=by simpa using H
 have E:=yC E;refine z7 (z8 1 l yR yR (z7 ?_));rw[w64 (n:=G.next+1) (by omega) (by omega)];refine St1.zz 1 l yR λw l=>?_;have l:St W (Row f 74 (q61 x)::AgL a P m { G with next:=G.next+1} F) w:=l;have hG':AOk { G with next:=G.next+1}:=⟨A.nod,λd hd=>by have:=A.nos d hd;exact⟨this.1,by show d.no<G.next+1;omega⟩,A.sts,⟨by show 1<=G.next+1;omega,by show G.next+1<=1000;omega⟩,A.last⟩;have C:qg2 { G with next:=G.next+1} G.next=A3:=qwc.2 λd hd e=>by have:=(A.nos d hd).2;omega
 have g:∀b,qe2 P G x now b=qp4 P { G with next:=G.next+1} G.next x.B b:=λb=>by unfold qe2;rw[yA j,yA i,yB ⟨I,H,E⟩]
 have hC:=z6 W (Row f 74 (q61 x)::AgL a P m { G with next:=G.next+1} F);refine⟨StC W _,zd l,z7 ⟨_,z0j λY w hw=>hC.cell 1 yR yR hw,x.B,z0z λY w hw=>hC.cell 0 yR yR hw,?_⟩⟩;have e1:Zw Zk (({ G with next:=G.next+1}:AG).next - 1)=G.next:=by show Zw Zk (G.next+1 - 1)=G.next;rw[w64];omega
 rw[e1];refine zk (α:=Option B1×Nat×Nat) (V:=λy=>.slice y.1 2 y.2.1) (B:=λy=>qm2 y.1 y.2.1 (qe2 P G x now y.2.2).2::qv a P (qe2 P G x now y.2.2).1::Row f 74 (q61 x)::F) (A3,0,0) hC (λY w h=>?_) λy=>⟨_,_,_,rfl,trivial,λY w h=>hR _ _ ⟨y.1,y.2.1,y.2.2,?_,?_⟩⟩
 .refine(qjk (P:=P) G.next x.B (by omega) (by show G.next<G.next+1;omega) C (qv.shut hG' hP (zf 0 3 h yR))).of λv w' ⟨p,c,b,hv,h⟩=>⟨_,_,_,hv,(p,c,b),rfl,?_⟩;show St W (qm2 p c (qe2 P G x now b).2::qv a P (qe2 P G x now b).1::Row f 74 (q61 x)::(F++pts Y)) w';rw[g];exact h
 .rw[g];rfl
 .exact z03 2 (zb h) yR
def qno(u:q14 now)(d:St W (qv a P G::F) w)(l:Option B1):
 qb Zp 290 #[qc a,Zq l,ql2 x,Zi Zk now] w λv w'=>∃p c b,v=Zl p (qe2 P G x now b).2.length c/\St W (qm2 p c (qe2 P G x now b).2::qv a P (qe2 P G x now b).1::F) w':=by
 obtain⟨m,k,y,d⟩:=z14 d;refine F290_of (zh d λj w d=>?_);have d:St W (Row j 74 (q61 x)::AgL a P m G F) w:=d;have q:=z6 W (Row j 74 (q61 x)::AgL a P m G F);refine⟨StC W _,zd d,z7 ⟨x.A,z0z λi w f=>q.cell 0 yR yR f,P.nam,z0z λi w f=>q.cell 1 yR yR f,λi w h=>?_⟩⟩;have d:=zb h;have tail:¬(x.A=P.nam/\x.k=7)->¬(x.A=P.nam/\x.k=10/\G.held=Ac/\x.N=G.epoch)->∀{w:A5},St W (Row j 74 (q61 x)::AgL a P m G F) w->_:=λB z {w} d=>qgs (now:=now) B z k y d λv w' h=>h;rw[qv3];refine za (λn=>z8 0 d yR yR (za (λg=>?_) λg=>?_)) λn=>?_
 .have n:=yC n;have g:x.k=7:=by simpa using g
  have e:∀b,qe2 P G x now b=({ G with held:=Ac,epoch:=x.N,last:=now},[]):=λb=>by unfold qe2;rw[yB ⟨n,g⟩]
  refine⟨StC W _,zd d,z7 ⟨x.N,z0j λi w f=>q.cell 0 yR yR f,?_⟩⟩;refine z0q 1 q yR (by simp[agC]) ⟨rfl,zi 0 ir yR yR,z7 ?_⟩;refine z0q 1 ir yR (by simp[agC]) ⟨rfl,trivial,z7 ?_⟩;refine z0q 1 ir yR (by simp[agC]) ⟨rfl,trivial,λi w h=>⟨A3,0,0,by rw[e];rfl,?_⟩⟩;have d:=zb h;rw[e];have d:St W (Row j 74 (q61 x)::AgL a P m { G with held:=Ac,epoch:=x.N,last:=now} F) w:=d;exact qg8 (qv.shut ⟨k.nod,k.nos,k.sts,k.next,u⟩ y d.drop)
 .have n:=yC n;have o:¬x.k=7:=by simpa using g
  refine⟨StC W _,zd d,zm (yG n) ⟨x.k,z0j λi w f=>q.cell 0 yR yR f,za (λg=>z7 ⟨G.held,QtB.at λi w f=>q.cell 1 yR yR f,za (λt=>z7 ⟨x.N,z0j λi w f=>q.cell 0 yR yR f,G.epoch,z0j λi w f=>q.cell 1 yR yR f,λi w h=>?_⟩) λt=>λi w h=>?_⟩) λg=>λi w h=>?_⟩⟩
  .have d:=zb h;have g:x.k=10:=by simpa using g
   refine za (λr=>?_) λr=>?_
   .have r:x.N=G.epoch:=by simpa using r
    have e:∀b,qe2 P G x now b=({ G with held:=Ap,epoch:=0},[q73 0 (q27 P)]):=λb=>by unfold qe2;rw[yA (λh=>o h.2),yB ⟨n,g,t,r⟩]
    refine z7 (St1.zz 1 d yR λw d=>z7 (St1.zz 1 d yR λw d=>?_));have d:St W (Row j 74 (q61 x)::AgL a P m { G with held:=Ap,epoch:=0} F) w:=d;refine(qrh (qv.shut (G:={ G with held:=Ap,epoch:=0}) ⟨k.nod,k.nos,k.sts,k.next,k.last⟩ y d.drop)).of λv w' ⟨p,c,A,h⟩=>⟨_,_,_,A,p,c,0,by rw[e];rfl,?_⟩;rw[e];exact h
   .have r:¬x.N=G.epoch:=by simpa using r
    have:=tail (λh=>o h.2) (λh=>r h.2.2.2) d;rw[qv3]at this;exact this
  .have:=tail (λh=>o h.2) (λh=>by rw[t]at h;cases h.2.2.1) (zb h);rw[qv3]at this;exact this
  .have g:¬x.k=10:=by simpa using g
   have:=tail (λh=>o h.2) (λh=>g h.2.1) (zb h);rw[qv3]at this;exact this
 .have s:=yD n;refine⟨StC W _,zd d,zn n λi w h=>?_⟩;have:=tail (λh=>s h.1) (λh=>s h.1) (zb h);rw[qv3]at this;exact this
def qus(no:Int)(x:qk1)(now:Int)(e:St W (qv a P G::F) w):
 qb Zp 105 #[qc a,Zi Zk no,ql2 x,Zi Zk now] w λv w'=>∃p c b,v=Zl p (q22 P G no x now b).2.length c/\St W (qm2 p c (q22 P G no x now b).2::qv a P (q22 P G no x now b).1::F) w':=by
 obtain⟨m,u,A,e⟩:=z14 e;refine F105_of (zh e λg w e=>z7 (zv 1 e yR yR (qq1 kI uM iPt zPt 2 e yR no Ac ?_)));rw[yB yR,qj7];cases hl:qg2 G no with
 |none=>
  refine⟨A3,Ap,rfl,zm yR ⟨A3,0,0,?_,?_⟩⟩;.unfold q22;rw[hl];rfl
  .unfold q22;rw[hl];exact qg8 (qv.shut u A e.drop)
 |some d=>
  have e:St W (Row g 74 (q61 x)::AgL a P m G F) w:=e;obtain⟨D,I⟩:=q36 hl;have H:=(u.sts d D).1;refine⟨A0 ⟨d.b,0,A3⟩,Ac,rfl,zn yR (z7 ⟨qec a d.st,AgL.line (l0:=[]) hl e.drop (j:=2) yR,?_⟩)⟩;have o:d.st=3\/¬q14 now->∀w,St W (Row g 74 (q61 x)::AgL a P m G F) w->∃p c b,Zl A3 0 0=Zl p (q22 P G no x now b).2.length c/\St W (qm2 p c (q22 P G no x now b).2::qv a P (q22 P G no x now b).1::F) w:=λh w e=>by
   refine⟨A3,0,0,?_,?_⟩;.unfold q22;rw[hl];dsimp only;rw[yB h];rfl
   .unfold q22;rw[hl];dsimp only;rw[yB h];exact qg8 (qv.shut u A e.drop)
  by_cases z:d.st=3
  .rw[z];exact⟨_,λw=>qbz w,_,rfl,zm yR (o (.inl z) w e)⟩
  have t:∃f,qec a d.st=.func f #[qc a] #[]:=by
   have:d.st=0\/d.st=1\/d.st=2:=by omega
   rcases this with h|h|h<;>rw[h]<;>exact⟨_,rfl⟩
  obtain⟨f,E⟩:=t;refine⟨Zb Ap,λw=>by rw[E];exact qv01 f _ _ w,_,rfl,zn yR ?_⟩;refine(qgk now e).of λv w ⟨r,e⟩=>⟨_,r,za (λn=>?_) λn=>?_⟩
  .have n:¬q14 now:=by simpa using n
   exact o (.inr n) w e
  have n:q14 now:=by simpa using n
  have s:∀b,q22 P G no x now b=if d.st=0 then(if x.k=2 then(setSt G no 1,[q73 no ⟨3,qt7 P x.A,e0,0,0⟩])else(G,[]))else if d.st=1 then(if x.k=4 then(if no=0 then(setSt G no 2,[q73 0 (q27 P)])else(setSt G no 3,[q73 no ⟨12,e0,d.tk,0,0⟩]))else(G,[]))else qe2 P G x now b:=λb=>by unfold q22;rw[hl];dsimp only;rw[yA (by rintro(h|h);exact z h;exact h n)]
  have q:=z6 W (Row g 74 (q61 x)::AgL a P m G F);refine⟨StC W _,zd e,z7 ⟨qec a d.st,λl w k=>⟨_,AgL.line (l0:=[]) hl ((q l w).1 k).drop (j:=2) yR,rfl,k⟩,x.k,x.A,x.B,x.N,x.M,λl w k=>zq (q.cell 0 yR yR k) (z0i (q.cell 0 yR yR k) (z0i (q.cell 0 yR yR k) (zq (q.cell 0 yR yR k) (zq (q.cell 0 yR yR k) ⟨rfl,k⟩)))),?_⟩⟩;refine zk (α:=Option B1×Nat×Nat) (V:=λy=>.slice y.1 (q22 P G no x now y.2.2).2.length y.2.1) (B:=λy=>qm2 y.1 y.2.1 (q22 P G no x now y.2.2).2::qv a P (q22 P G no x now y.2.2).1::Row g 74 (q61 x)::F) (A3,0,0) q (λl w h=>?_) λy=>⟨_,_,_,rfl,trivial,λl w h=>⟨_,_,_,rfl,z03 2 (zb h) yR⟩⟩;have C:St W (qv a P G::Row g 74 (q61 x)::(F++pts l)) w:=qv.shut u A (zf 0 3 h yR);have:d.st=0\/d.st=1\/d.st=2:=by omega
  rcases this with i|i|i
  .rw[i];refine qn5.lit1 (by kernel_rfl) ((qcq (now:=now) (x:=x) hl i C).of λv w' ⟨p,c,r,h⟩=>⟨_,_,_,r,(p,c,0),?_,?_⟩);.rw[s,yB i]
   .show St W (qm2 p c (q22 P G no x now 0).2::qv a P (q22 P G no x now 0).1::Row g 74 (q61 x)::(F++pts l)) w';rw[s,yB i];exact h
  .rw[i];refine qn5.lit1 (by kernel_rfl) ((qun (now:=now) (x:=x) hl i C).of λv w' ⟨p,c,r,h⟩=>⟨_,_,_,r,(p,c,0),?_,?_⟩);.rw[s,yA (show ¬d.st=0 by omega),yB i]
   .show St W (qm2 p c (q22 P G no x now 0).2::qv a P (q22 P G no x now 0).1::Row g 74 (q61 x)::(F++pts l)) w';rw[s,yA (show ¬d.st=0 by omega),yB i];exact h
  .rw[i];refine qn5.lit1 (by kernel_rfl) ((qno (x:=x) n C _).of λv w' ⟨p,c,b,r,h⟩=>⟨_,_,_,r,(p,c,b),?_,?_⟩);.rw[s,yA (show ¬d.st=0 by omega),yA (show ¬d.st=1 by omega)]
   .show St W (qm2 p c (q22 P G no x now b).2::qv a P (q22 P G no x now b).1::Row g 74 (q61 x)::(F++pts l)) w';rw[s,yA (show ¬d.st=0 by omega),yA (show ¬d.st=1 by omega)];exact h
def Tick_spec(now:Int)(e:St W (qv a P G::F) w):
 qb Zp 30 #[qc a,Zi Zk now] w λv w'=>∃p c b,v=Zl p (qd3 P G now b).2.length c/\St W (qm2 p c (qd3 P G now b).2::qv a P (qd3 P G now b).1::F) w':=by
 obtain⟨m,i,o,e⟩:=z14 e;refine F30_of (z7 (zv 0 e yR yR (qq1 kI uM iPt zPt 1 e yR 0 Ac ?_)));rw[yB yR,qj7];cases hl:qg2 G 0 with
 |none=>
  refine⟨A3,Ap,rfl,zm yR ?_⟩;refine(qii (qv.shut i o e)).of λv w' ⟨p,c,b,r,h⟩=>⟨_,_,_,r,p,c,b,?_,?_⟩;.unfold qd3;rw[yB (by rw[hl];rfl)]
  .unfold qd3;rw[yB (by rw[hl];rfl)];exact h
 |some d=>
  have H:=qv.shut i o e;have C:∀b,qd3 P G now b=if qh5 G 0=Ac/\G.held=Ac/\q14 now/\¬now - G.last<P.every then({ G with last:=now},[q73 0 ⟨8,P.nam,e0,G.epoch,P.ttl⟩])else(G,[]):=λb=>by unfold qd3;rw[yA (by rw[hl];simp)]
  have f:¬(qh5 G 0=Ac/\G.held=Ac/\q14 now/\¬now - G.last<P.every)->∀w,St W (qv a P G::F) w->∃p c b,Zl A3 0 0=Zl p (qd3 P G now b).2.length c/\St W (qm2 p c (qd3 P G now b).2::qv a P (qd3 P G now b).1::F) w:=λh w e=>by
   refine⟨A3,0,0,?_,?_⟩;.rw[C,yA h];rfl
   .rw[C,yA h];exact qg8 e
  refine⟨A0 ⟨d.b,0,A3⟩,Ac,rfl,zn yR ⟨StC W _,zd e,?_⟩⟩;refine zk (α:=Nat) (V:=λ_=>Zb (qh5 G 0)) (B:=λm=>AgL a P m G F) m ir (λg w h=>(qgl 0 (qv.shut i o h)).of λv w' ⟨r,h⟩=>⟨_,r,?_⟩) λm=>⟨_,rfl,trivial,?_⟩
  .obtain⟨E,_,_,h⟩:=z14 h;exact⟨E,rfl,h⟩
  have A:=z6 W (AgL a P m G F);refine za (λt=>λg w h=>f (λq=>by rw[q.1]at t;cases t) w (qv.shut i o (zb h))) λt=>z7 ⟨G.held,QtB.at λg w j=>A.cell 0 yR yR j,za (λu=>λg w h=>f (λq=>by rw[q.2.1]at u;cases u) w (qv.shut i o (zb h))) λu=>?_⟩;refine zk (α:=Unit) (V:=λ_=>Zb (decide (q14 now))) (B:=λ_=>AgL a P m G F) () A (λg w h=>(qgk now h).of λv w' ⟨r,h⟩=>⟨_,r,(),rfl,h⟩) λ_=>⟨_,rfl,trivial,?_⟩;refine za (λl=>λg w h=>f (λq=>by rw[yG q.2.2.1]at l;cases l) w (qv.shut i o (zb h))) λl=>z7 (z7 ⟨G.last,z0j λg w j=>A.cell 0 yR yR j,P.every,z0j λg w j=>A.cell 0 yR yR j,λg w h=>?_⟩);have e:=zb h;have t:qh5 G 0=Ac:=by simpa using t
  have u:G.held=Ac:=by simpa using u
  have l:q14 now:=by simpa using l
  have s:=i.last;unfold q14 maxN at s;have D:=l;unfold q14 maxN at D;rw[w64 (n:=now - G.last) (by omega) (by omega)];refine za (λy=>f (λq=>q.2.2.2 (yC y)) w (qv.shut i o e)) λy=>?_;have y:=yD y;have x:∀b,qd3 P G now b=({ G with last:=now},[q73 0 ⟨8,P.nam,e0,G.epoch,P.ttl⟩]):=λb=>by rw[C,yB ⟨t,u,l,y⟩]
  refine z7 (St1.zz 0 e yR λw e=>?_);have e:St W (AgL a P m { G with last:=now} F) w:=e;have k:=z6 W (AgL a P m { G with last:=now} F);refine⟨StC W _,zd e,z7 (z7 (z7 ⟨P.nam,z0z λg w j=>k.cell 0 yR yR j,G.epoch,z0j λg w j=>k.cell 0 yR yR j,P.ttl,z0j λg w j=>k.cell 0 yR yR j,?_⟩))⟩;refine zk (α:=Option B1×Nat) (V:=λz=>.slice z.1 1 z.2) (B:=λz=>qm2 z.1 z.2 [q73 0 ⟨8,P.nam,e0,G.epoch,P.ttl⟩]::AgL a P m { G with last:=now} F) (A3,0) k (λg w h=>(qsb 0 ⟨8,P.nam,e0,G.epoch,P.ttl⟩ h).of λv w' ⟨p,c,r,h⟩=>⟨_,_,_,r,(p,c),rfl,h⟩) λz=>⟨_,_,_,rfl,trivial,λg w h=>⟨_,_,0,by rw[x];rfl,?_⟩⟩;have e:=zb h;rw[x];exact(qv.shut (G:={ G with last:=now}) ⟨i.nod,i.nos,i.sts,i.next,l⟩ o (zf 0 3 e yR)).p1
end
end
def qi5(x:Int):UInt8:=Da (x%256).toNat
def q2i(x:Int):Zi .u8 (Zw .u8 x)=qd (qi5 x):=by unfold qd qi5;rw[UInt8.toNat_ofNat'];have h:Zw .u8 x=x%256:=rfl;rw[h];congr 1;have a:0<=x%256:=Int.emod_nonneg _ (by decide);have w:x%256<256:=Int.emod_lt_of_pos _ (by decide);omega
def qry(x:Int):Zw .u8 x=((qi5 x).toNat:Int):=by have:=q2i x;unfold qd at this;exact Value.int.inj this |>.2
def qvg(n:Int)(i:Nat):Int:=Zw Zk ↑((Am (Aa Zk) (Dp n (2 ^ min (Cb (Zw Zk (7*(Zw Zk (5 -(i:Int)))))) (Aa Zk)))&&& Am (Aa Zk) 127).toNat)
def qcr(x:UInt8):UInt8:=qi5 ↑((Am (Aa .u8) (x.toNat:Int)|||BitVec.ofInt (Aa .u8) 128).toNat)
def q6l(x:UInt8):UInt8:=qi5 ↑((Am (Aa .u8) (x.toNat:Int)&&& Am (Aa .u8) 127).toNat)
def q1g(n:Int)(out:List UInt8)(i:Nat):List UInt8:=if 0<(qi5 (qvg n i)).toNat\/0<out.length then out++[qcr (qi5 (qvg n i))]else out
def q42(n:Int)(i:Nat):List UInt8:=(Bq i).foldl (q1g n) []
def qzc(n:Int):List UInt8:=
 if n<0\/n>1099511627776 then []else
 match (q42 n 6).getLast? with
 |none=>[0]
 |some x=>(q42 n 6).dropLast++[q6l x]
def qqi(n:Int)(i:Nat):q42 n (i+1)=q1g n (q42 n i) i:=by unfold q42;rw[List.range_succ,Ds];rfl
def qnf(n:Int):∀i,(q42 n i).length<=i
 |0=>by simp[q42]
 |i+1=>by
  rw[qqi];have:=qnf n i;unfold q1g;split;.simp;omega
  .omega
def qxw{α:Type}(l:List α)(y:α)(h:l≠[]):l.set (l.length - 1) y=l.dropLast++[y]:=by
 rcases List.eq_nil_or_concat l with e|⟨L,x,rfl⟩;.exact(h e).elim
 .simp
def q1k{W w:A5}{F:List Asn}(n:Int)(d:St W F w):
 qb Zp 97 #[Zi Zk n] w λv w'=>∃p c,v=Zl p (qzc n).length c/\St W (qi 5 1 p (qzc n).length c ((qzc n).map qd)::F) w':=by
 refine F97_of (za (λh=>?_) λh=>za (λq=>?_) λq=>?_)
 .have h:=yC h;unfold qzc;rw[yB (.inl h)];exact⟨A3,0,rfl,z1a _ _ _ d⟩
 .have q:=yC q;unfold qzc;rw[yB (.inr q)];exact⟨A3,0,rfl,z1a _ _ _ d⟩
 have h:=yD h;have q:=yD q;refine⟨λvs w=>∃p i c,vs=[Zl p (q42 n i).length c,Zi Zk ((i:Nat):Int)]/\i<=6/\St W (qi 5 1 p (q42 n i).length c ((q42 n i).map qd)::F) w,leftN 6,⟨A3,0,0,rfl,by omega,z1a _ _ _ d⟩,λs T c1 x w Q=>?_⟩;obtain⟨R,i,Y,H,V,d⟩:=Q;cases H;have N:=qnf n i;refine za (λo=>?_) λE=>?_
 .have o:i<6:=by have:=yC o;omega
  have C:=up o (by omega);have u:∀{w:A5} {K:A4->A5->Prop},q42 n (i+1)=q42 n i++[qcr (qi5 (qvg n i))]->St W (qi 5 1 s (q42 n i).length c1 ((q42 n i).map qd)::F) w->
   (∀p c w',St W (qi 5 1 p (q42 n (i+1)).length c ((q42 n (i+1)).map qd)::F) w'->K (Zl p (q42 n (i+1)).length c) w')->
   qh #[(Zi .u8 (Zw .u8 ↑((Am (Aa .u8) ((qi5 (qvg n i)).toNat:Int)|||BitVec.ofInt (Aa .u8) 128).toNat)))] 5 w λb w1=>Run Zp (B7 #[22,22] 22 #[(Zl s (q42 n i).length c1),(Zl (A0 ⟨b,0,A3⟩) 1 1)]) w1 K:=λ{w K} e d hK=>by
   refine zh d λb w d=>?_;rw[q2i]at d;refine qp8 uB (.inr ⟨_,uB⟩) iU8 sU8 zU8 yR d.p1 (xs:=[qcr (qi5 (qvg n i))].map qd) (m:=1) z0m yR q82 (by rw[bU8];omega) (by omega) λX U w' h=>?_;have h:=h.p1.drop;rw[<-An,<-e]at h;have y:(q42 n i).length+1=(q42 n (i+1)).length:=by rw[e];simp
   rw[y]at h⊢;exact hK _ _ _ h
  have g:∀{p c w'},St W (qi 5 1 p (q42 n (i+1)).length c ((q42 n (i+1)).map qd)::F) w'->(∃M j I,[Zl p (q42 n (i+1)).length c,Zi Zk ((i+1:Nat):Int)]=[.slice M (q42 n j).length I,Zi Zk ((j:Nat):Int)]/\j<=6/\St W (qi 5 1 M (q42 n j).length I ((q42 n j).map qd)::F) w')/\leftN 6 [Zl p (q42 n (i+1)).length c,Zi Zk ((i+1:Nat):Int)] w'<leftN 6 [Zl s (q42 n i).length c1,Zi Zk (i:Int)] w:=λ{p c w'} h=>⟨⟨p,i+1,c,rfl,by omega,h⟩,by show 6 -(i+1)<6 - i;omega⟩;have D:Zw Zk (7*(Zw Zk (5 -(i:Int))))=7*(5 -(i:Int)):=by rw[w64 (n:=5 -(i:Int)) (by omega) (by omega),w64]
  refine⟨by rw[D];omega,?_⟩;rw[C];obtain⟨z,G⟩:∃z,z=qvg n i:=⟨_,rfl⟩;have A:=G;unfold qvg at G;rw[<-G,qry z,A];have f:=qqi n i;unfold q1g at f;refine za (λr=>?_) λr=>za (λt=>?_) λt=>?_
  .have r:=yC r;rw[yB (.inl (by omega))]at f;exact u f d (λp c w' h=>⟨_,_,_,rfl,g h⟩)
  .have t:=yC t;rw[yB (.inr (by omega))]at f;exact u f d (λp c w' h=>⟨_,_,_,rfl,g h⟩)
  .have r:=yD r;have t:=yD t;rw[yA (by omega)]at f;have:=g (p:=s) (c:=c1) (w':=w) (by rw[f];exact d);rw[f]at this;exact this
 have B:i=6:=by have:=yD E;omega
 subst B;unfold qzc;rw[yA (by omega)];cases hl:(q42 n 6).getLast? with
 |none=>have H:q42 n 6=[]:=List.getLast?_eq_none_iff.1 hl;rw[H]at d⊢;refine zm yR (zh d.drop λb w d=>⟨_,_,rfl,?_⟩);exact qi.whole yR d
 |some x=>
  have k:q42 n 6≠[]:=λe=>by rw[e]at hl;cases hl
  have J:0<(q42 n 6).length:=List.length_pos_iff.2 k;have l:(q42 n 6)[(q42 n 6).length - 1]?=A0 x:=by rw[<-List.getLast?_eq_getElem?];exact hl
  have y:Zw Zk (((q42 n 6).length:Int) - 1)=(((q42 n 6).length - 1:Nat):Int):=by rw[w64];omega
  refine zn (by simpa using k) ?_;rw[y];refine z0l (z0k F) d yR (by omega) (v:=qd x) (by rw[A8,l];rfl) λa P=>zq P ?_;rw[q2i];refine qi.ix d (by omega) _ λw h=>?_;have O:((q42 n 6).map qd).set ((q42 n 6).length - 1) (qd (q6l x))=((q42 n 6).dropLast++[q6l x]).map qd:=by rw[<-Bv,qxw _ _ k]
  have L:((q42 n 6).dropLast++[q6l x]).length=(q42 n 6).length:=by simp;omega
  dsimp only;refine⟨s,c1,by rw[L],?_⟩;rw[L,<-O];exact h
def qr3(b:List UInt8):List UInt8×Nat×Bool:=
 match b with
 |[]=>([],0,Ap)
 |x::r=>if x.toNat+1>b.length then([],0,Ap)else(r.take x.toNat,x.toNat+1,Ac)
def qlr{W w:A5}{F:List Asn}{p:Option B1}{c:Nat}{b:List UInt8}(g:Rd F p (b.map qd))(j:b.length<=c)(d:St W F w):
 qb Zp 246 #[Zl p b.length c] w λv w'=>v=Zt #[Zs (mkS (qr3 b).1),Zi Zk ((qr3 b).2.1:Nat),Zb (qr3 b).2.2]/\St W F w':=by
 refine F246_of ?_;cases b with
 |nil=>exact zm yR ⟨rfl,d⟩
 |cons x r=>
  have q:x.toNat<256:=x.toNat_lt;refine zn (by simp;omega) (z0l g d yR (k:=0) (by simp) (v:=qd x) yR λa i=>zq i ?_);have l:Zw Zk ((Zw Zk (x.toNat:Int))+1)=((x.toNat+1:Nat):Int):=by rw[w64 (n:=(x.toNat:Int)) (by omega) (by omega),w64];omega
  rw[l];refine za (λh=>?_) λh=>?_
  .have h:=yC h;have e:qr3 (x::r)=([],0,Ap):=yB (by omega);rw[e];exact⟨rfl,d⟩
  have h:=yD h;have e:qr3 (x::r)=(r.take x.toNat,x.toNat+1,Ac):=yA (by omega);rw[e];refine SlP.i (a:=1) (b:=x.toNat+1) g (by simp) j yR yR (by omega) (by omega) λo f=>?_;rw[Nat.one_mul,Aw,Dm,<-Cx,<-Bj]at f;rw[Dm];have m:(List.take x.toNat (List.drop 1 (x::r))).length=x.toNat:=by simp at h⊢;omega
  exact qbi uB uU8 uS d f m ⟨_,rfl,rfl,d⟩
def q01.fn{P:Ce}{t:Bg}{f:Bm}{first cap:Array A4}{args:List A4}{w:A5}{K:A4->A5->Prop}(a:q33 P f=Ac)(h:qb P f (first++args.toArray++cap) w K):q01 P t (.func (.func f) first cap) args w K:=
 .inl ⟨f,first,cap,rfl,a,h⟩
def qt4{α:Type}(g:α->Bool)(xs:List α):Int:=match xs.findIdx? g with|some i=>(i:Int)|none=>-1
def qs8{α:Type}{g:α->Bool}{xs:List α}{i:Nat}{x:α}(h:xs[i]?=A0 x)(c:g x=Ac)(b:∀j y,j<i->xs[j]?=A0 y->g y=Ap):qt4 g xs=(i:Int):=by unfold qt4;have w:=(Af.1 h).1;rw[C2.2 ⟨w,by rw[A6 w]at h;cases h;exact c,λj a=>by have:=b j _ a (A6 (by omega));simp[this]⟩]
def qq8{α:Type}{g:α->Bool}{xs:List α}(w:∀(j:Nat) y,xs[j]?=A0 y->g y=Ap):qt4 g xs= -1:=by unfold qt4;rw[List.findIdx?_eq_none_iff.2 λy a=>by obtain⟨j,h⟩:=Az a;exact w j y h]
def q9w{W w:A5}{F:List Asn}{p:Option B1}{c:Nat}{xs:List UInt8}{o:A4}(g:UInt8->Bool)(u:Rd F p (xs.map qd))(s:xs.length<=9223372036854775807)
 (t:∀(x:UInt8) (w:A5) (K:A4->A5->Prop),St W F w->(∀w',St W F w'->K (Zb (g x)) w')->q01 Zp 4 o [qd x] w K) (d:St W F w):
 qb Zp 302 #[Zl p xs.length c,o] w λv w'=>v=Zi Zk (qt4 g xs)/\St W F w':=by
 refine F302_of ⟨λvs w=>∃i:Nat,vs=[Zi Zk i]/\i<=xs.length/\(∀j y,j<i->xs[j]?=A0 y->g y=Ap)/\St W F w,leftN xs.length,⟨0,rfl,by omega,λj y h=>by omega,d⟩,λx w A=>?_⟩;obtain⟨i,q,C,k,d⟩:=A;cases q;refine za (λb=>?_) λl=>?_
 .have b:i<xs.length:=by have:=yC b;omega
  have f:xs[i]?=A0 (xs[i]'b):=A6 _;generalize xs[i]'b=y at f;refine z0l u d yR b (v:=qd y) (by rw[A8,f];rfl) λa r=>zq r (t y w _ d λw' d=>⟨_,rfl,?_⟩);cases hy:g y with
  |true=>exact⟨by rw[qs8 f hy k],d⟩
  |false=>
   rw[up b s];exact⟨⟨i+1,rfl,by omega,λj z B m=>by
    by_cases e:j=i;.subst e;rw[f]at m;cases m;exact hy
    .exact k j z (by omega) m,d⟩,by show xs.length -(i+1)<xs.length - i;omega⟩
 have n:i=xs.length:=by have:=yD l;omega
 subst n;exact⟨by rw[qq8 λj y h=>k j y (Af.1 h).1 h],d⟩
def q7g(n:Int)(x:UInt8):Int:=Zw Zk ↑((Am (Aa Zk) (Zw Zk (n*2 ^ min (Cb 7) (Aa Zk)))|||BitVec.ofInt (Aa Zk) (Zw Zk (Zw .u8 ↑((Am (Aa .u8) (x.toNat:Int)&&& Am (Aa .u8) 127).toNat)))).toNat)
def qfi(x:UInt8):Bool:=decide ((x.toNat:Int)<128)
def q05(b:List UInt8):Int×Nat×Bool:=
 match (b.take 6).findIdx? qfi with
 |none=>(0,0,Ap)
 |some e=>
  if((b.headD 0).toNat:Int)=128 then(0,0,Ap)else
  if(b.take (e+1)).foldl q7g 0>1099511627776 then(0,0,Ap)else((b.take (e+1)).foldl q7g 0,e+1,Ac)
def qxt{W w:A5}{F:List Asn}{x:UInt8}{K:A4->A5->Prop}(c:St W F w)(b:∀w',St W F w'->K (Zb (qfi x)) w'):q01 Zp 4 (.func (.func 303) #[] #[]) [qd x] w K:=by have h:=b w c;unfold qfi at h;have a:qb Zp 303 #[Zi .u8 (x.toNat:Int)] w K:=F303_of h;exact q01.fn (by kernel_rfl) a
def qat{W w:A5}{F:List Asn}{p:Option B1}{c:Nat}{b:List UInt8}(A:Rd F p (b.map qd))(C:b.length<=c)(d:St W F w):
 qb Zp 248 #[Zl p b.length c] w λv w'=>v=Zt #[Zi Zk (q05 b).1,Zi Zk ((q05 b).2.1:Nat),Zb (q05 b).2.2]/\St W F w':=by
 refine F248_of ?_;have em:(if(6:Int)<(b.length:Int)then(6:Int)else(b.length:Int))=((min 6 b.length:Nat):Int):=by split<;>omega
 rw[em];refine SlP.i (a:=0) (b:=min 6 b.length) A (by simp) C yR yR (by omega) (by omega) λN g=>?_;rw[D2,Ct,Aw,Bb,<-Bj]at g;rw[Bb,Bb];have H:b.take (min 6 b.length)=b.take 6:=by
  rcases Nat.le_total 6 b.length with h|h;.rw[Cj h]
  .rw[Nat.min_eq_right h,Ae (As _),Ae h]
 rw[H]at g;have J:min 6 b.length=(b.take 6).length:=by rw[Aj]
 rw[J];refine(q9w qfi g (by rw[Aj];omega) (λx w K d I=>qxt d I) d).of λv w ⟨G,d⟩=>⟨_,G,?_⟩;unfold q05 qt4;cases hf:(b.take 6).findIdx? qfi with
 |none=>exact zm yR ⟨rfl,d⟩
 |some e=>
  have D:e<(b.take 6).length:=(C2.1 hf).1;rw[Aj]at D;dsimp only;refine zn (yH (by omega)) ?_;cases b with
  |nil=>simp at D
  |cons x r=>
   refine z0l A d yR (k:=0) (by simp) (v:=qd x) yR λa t=>zq t ?_;have B:Zw Zk ((e:Int)+1)=((e+1:Nat):Int):=by rw[w64];omega
   refine za (λh=>?_) λh=>?_
   .have h:(x.toNat:Int)=128:=by simpa using h
    rw[yB (by exact h)];exact⟨rfl,d⟩
   have h:¬(x.toNat:Int)=128:=by simpa using h
   rw[yA (by exact h),B];refine SlP.i (a:=0) (b:=e+1) A (by simp) C yR yR (by omega) (by omega) λL j=>?_;rw[D2,Ct,Aw,Bb,<-Bj]at j;simp only[Bb];have m:((x::r).take (e+1)).length=e+1:=by rw[Aj];omega
   generalize (x::r).take (e+1)=l at j m⊢;rw[<-m]at B⊢;refine⟨λvs w=>∃i:Nat,vs=[Zi Zk ((l.take i).foldl q7g 0),Zi Zk i]/\i<=l.length/\St W F w,leftN l.length,⟨0,rfl,by omega,d⟩,λn y w E=>?_⟩;obtain⟨i,o,M,d⟩:=E;cases o;refine za (λf=>?_) λu=>?_
   .have f:i<l.length:=by have:=yC f;omega
    have z:l[i]?=A0 (l[i]'f):=A6 _;generalize l[i]'f=y at z;refine z0l j d yR (by omega) (v:=qd y) (by rw[A8,z];rfl) λa t=>zq t ⟨by decide,?_⟩;rw[up f (by omega)];have q:(l.take (i+1)).foldl q7g 0=q7g ((l.take i).foldl q7g 0) y:=by rw[B9,z,Ds];rfl
    exact⟨⟨i+1,by rw[q];rfl,by omega,d⟩,by show l.length -(i+1)<l.length - i;omega⟩
   have s:i=l.length:=by have:=yD u;omega
   subst s;rw[D0];refine za (λh=>?_) λh=>?_;.rw[yB (yC h)];exact⟨rfl,d⟩
   .rw[yA (yD h)];exact⟨rfl,d⟩
def zw:=@q01.fn
def qjp{F:Fence}(s:qx4 F){P:Ce}{n:Nat}{g:Array Oper}{w:A5}{K:Env->A5->Prop}{Q:Exit->Act->A5->Prop}{d:List Deferred}(q:∀e' k,K e' w->qs1 n e' (qi6 k)->k.defers=d->Q .normal k w):
 ∀(l:List Oper) (e:Env) (a:Act),l.all qv5=Ac->q5f P n l e w K->qs1 n e (qi6 a)->a.defers=d->wpListIn F 0 P g Q l a w
 |[],e,a,_,h,f,m=>q e a h f m
 |o::r,e,a,u,h,f,m=>by
  simp only[List.all_cons,Cd]at u;obtain⟨c,A⟩:=u;unfold qv5 at c;simp only[Cd,Bool.not_eq_true',Option.isNone_iff_eq_none]at c;obtain⟨v,C,D⟩:=qwo (a:=qi6 a) h f;obtain⟨y,z,b,_⟩:=qn3 C f;have B:(qi6 a).put o.dst v=qi6 (a.put o.dst v):=by cases o.dst<;>rfl
  rw[B]at b;have i:(execOp a.eval o).run P w=.ok (.value v) w:=D;refine wpListIn_plain c.1 λE p=>qz1.wpIn s (R:=λt w'=>t=v/\w'=w) (qd2 i ⟨rfl,rfl⟩) (.inr (q1e c.2)) λt w' ⟨x,j⟩=>?_;subst x;subst j;exact p _ _ (qjp s q r y _ A z b ((Act.put_defers' ..).trans m))
def qmj{F:Fence}(g:qx4 F){P:Ce}{n id:Nat}{b:Array Oper}{Q:Exit->Act->A5->Prop}{K:Env->A5->Prop}{e:Env}{w:A5}{a:Act}(i:b.toList.all qv5=Ac)(h:q5f P n b.toList e w K)(d:qs1 n e (qi6 a))
 (f:∀e' c,K e' w->qs1 n e' (qi6 c)->c.defers=a.defers->Q .normal c w):(Code.region id b Ap).wpIn F 0 P Q a w:=
 wpIn_region_list (qjp g f _ _ _ i h d yR)
def qo1:D7->Array Oper
 |.region _ ops _=>ops
 |_=>#[]
def q7q:D7->D7
 |.block _ (.rangeFunc _ _ a _)=>a
 |_=>.skip
def qzq:D7->D7
 |.block _ (.rangeFunc _ _ _ b)=>b
 |_=>.skip
def inB:D7->D7
 |.block _ b=>b
 |_=>.skip
def q47:∀{e:Env} {t:Nat} {v:A4},q23 e t=A0 v->(t,v)∈e
 |(s,u)::r,t,v,h=>by
  simp only[q23]at h;cases hb:Nat.beq s t with
  |true=>rw[hb]at h;simp only[cond_true,Option.some.injEq]at h;have:=Nat.eq_of_beq_eq_true hb;subst this;subst h;exact C1
  |false=>rw[hb]at h;exact Ci _ (q47 h)
def qs1.pick{n:Nat}{e e':Env}{a:Act}(w:qs1 n e a)(h:∀x∈e',q23 e x.1=A0 x.2):qs1 n e' a:=
 ⟨w.defers,w.size,λt v b=>w.val t v (h (t,v) (q47 b))⟩
def qs1.put1{n d:Nat}{e:Env}{a:Act}(v:A4)(b:qs1 n e a)(c:d<n):qs1 n ((d,v)::e) (a.put (A0 d) v):=by
 obtain⟨e',f,h,_⟩:=qn3 (n:=n) (d:=A0 d) (v:=v) (e:=e) (k:=λe'=>e'=(d,v)::e) (by have w:Nat.blt d n=Ac:=Nat.ble_eq_true_of_le c;simp only[qc2,w]) b
 rw[f]at h;exact h
def mixed:Zp.follows .mixedOrders=Ac:=by kernel_rfl
def q7b{κ:Type}(W:A5)(ev:κ->A4)(h:Bm)(cap:A4)(M:List Asn)(N:Nat)(G:List κ->Prop):Prop:=
 ∀(B:List κ->Asn) (a:A4) (w:A5),(∀(X:List Asn) (l:List κ) (x:κ) (w:A5) (K:A4->A5->Prop),l.length<N->St W (B l::X) w->(∀w',St W (B (l++[x])::X) w'->K (.bool Ac) w')->q01 Zp 4 a [ev x] w K)->
  St W (B []::M) w->qb Zp h #[a,cap] w λv w'=>v=.tuple #[]/\∃l,G l/\St W (B l::M) w'
section
set_option maxRecDepth 100000
namespace AppI
open Go Go.Proofs.YtfjifcfbmhpcaaaGreatDoor
abbrev ev:Int->A4:=Zi Zk
abbrev eV(x:Int):List A4:=[ev x]
def eV1(x:Int):(eV x).length=1:=rfl
def eVn(x:Int):∀v∈eV x,qn1 v:=λv h=>by simp only[eV,Ak,Ad,yK]at h;subst h;trivial
def uSl:Zp.underlying 28=A0 (.slice 3):=Tryz.underlying28
def iE:Zp.info? 3=A0 Tryz.t3:=by kernel_rfl
def sE:Tryz.t3.size=1:=rfl
def zE:∃z,Tryz.t3.zero=A0 z/\z.cells.size=1:=⟨_,rfl,rfl⟩
def bE:Tryz.t3.bytes<=100:=by decide+kernel
noncomputable def apC:D7:=Tryz.f107.body.getD .skip
noncomputable def cR(i:Nat):D7:=(q63 apC).getD i .skip
noncomputable def apA:D7:=q7q (cR 2)
noncomputable def apB:D7:=qzq (cR 2)
def ap_body:Tryz.f107.body=A0 apC:=by kernel_rfl
def ap_n:Tryz.f107.ntmps=13:=by kernel_rfl
def ap_eq:apC=.seq (.region 0 (qo1 (cR 0)) Ap) (.seq (.seq (.region 1 (qo1 (cR 1)) Ap) (.block 0 (.rangeFunc (.tmp 6) #[7] apA apB))) (.seq (.region 4 (qo1 (cR 3)) Ap) .ret)):=by kernel_rfl
def apA_eq:apA=.region 2 (qo1 apA) Ap:=by kernel_rfl
def apB_eq:apB=.block 1 (.region 3 (qo1 (inB apB)) Ap):=by kernel_rfl
def tame0:(qo1 (cR 0)).toList.all qv5=Ac:=by kernel_rfl
def tame1:(qo1 (cR 1)).toList.all qv5=Ac:=by kernel_rfl
def tame2:(qo1 apA).toList.all qv5=Ac:=by kernel_rfl
def tame3:(qo1 (inB apB)).toList.all qv5=Ac:=by kernel_rfl
def tame4:(qo1 (cR 3)).toList.all qv5=Ac:=by kernel_rfl
section
variable(p:Option Addr)(n c:Nat)(w:World)(K:Env->World->Prop)(b2:Nat)(s:Value)
def ops_0:qy7 Zp 13 (qo1 (cR 0)).toList [(1,s),(0,Zl p n c)] w K=(qh #[Zl p n c] 28 w λb w=>K [(4,Zl A3 0 0),(2,Zq (A0 ⟨b,0,A3⟩)),(1,s),(0,Zl p n c)] w):=by kernel_rfl
def ops_1(e:Env):qy7 Zp 13 (qo1 (cR 1)).toList ((4,Zl A3 0 0)::(2,Zq (A0 ⟨b2,0,A3⟩))::(1,s)::e) w K=K ((6,s)::(4,Zl A3 0 0)::(2,Zq (A0 ⟨b2,0,A3⟩))::(1,s)::e) w:=by kernel_rfl
def ops_2(x:Int)(e:Env):qy7 Zp 13 (qo1 apA).toList ((7,ev x)::e) w K=K ((5,ev x)::(7,ev x)::e) w:=by kernel_rfl
def ops_3(x:Int):qy7 Zp 13 (qo1 (inB apB)).toList [(5,ev x),(2,Zq (A0 ⟨b2,0,A3⟩))] w K=
 LdL ⟨b2,0,A3⟩ w λq m d=>qh #[ev x] 3 w λb w=>Run Zp (B7 #[28,28] 28 #[Zl q m d,.slice (A0 ⟨b,0,A3⟩) 1 1]) w λv w=>AsL v λh a c=>
  St1 ⟨b2,0,A3⟩ (.slice h a c) w λw=>K [(11,.slice h a c),(10,.slice (A0 ⟨b,0,A3⟩) 1 1),(9,ev x),(8,Zl q m d),(5,ev x),(2,Zq (A0 ⟨b2,0,A3⟩))] w:=by kernel_rfl
def ops_4:q5f Zp 13 (qo1 (cR 3)).toList [(2,Zq (A0 ⟨b2,0,A3⟩))] w K=
 LdL ⟨b2,0,A3⟩ w λq m d=>K [(4,Zl q m d),(12,Zl q m d),(2,Zq (A0 ⟨b2,0,A3⟩))] w:=by kernel_rfl
def ap_res(q:Option B1)(m d:Nat)(e:Env)(K:List A4->Prop):q66 Zp Tryz.f107.results.toList ((4,Zl q m d)::e) w K=K [Zl q m d]:=by kernel_rfl
end
noncomputable def recC(fn:Bm)(tmps:Array A4)(D:Nat)(s:Bd):Loop:={ state:=s,pending:=A3,fn:=fn,tmps:=tmps,params:=#[7],assign:=apA,body:=apB,defers:=D}
def BufA(fn:Bm)(tmps:Array A4)(s:Bd)(l D b2:Nat)(L:List Int):Asn:=exA λy:Option B1×Nat=>qz [Pt l (.loop (recC fn tmps D s)),Pt D (.deferred (A0 [])),Row b2 28 [.slice y.1 L.length y.2],SlA 3 1 eV y.1 y.2 L]
def BufA.open_{W w:A5}{F:List Asn}{fn:Bm}{tmps:Array A4}{s:Bd}{l D b2:Nat}{L:List Int}(h:St W (BufA fn tmps s l D b2 L::F) w):
 ∃p c,St W (Pt l (.loop (recC fn tmps D s))::Pt D (.deferred (A0 []))::Row b2 28 [Zl p L.length c]::SlA 3 1 eV p c L::F) w:=by
 obtain⟨⟨p,c⟩,h⟩:=h.of_ex;exact⟨p,c,h.of_sep⟩
def BufA.shut{W w:A5}{F:List Asn}{fn:Bm}{tmps:Array A4}{s:Bd}{l D b2:Nat}{L:List Int}(p:Option B1)(c:Nat)(h:St W (Pt l (.loop (recC fn tmps D s))::Pt D (.deferred (A0 []))::Row b2 28 [Zl p L.length c]::SlA 3 1 eV p c L::F) w):St W (BufA fn tmps s l D b2 L::F) w:=
 z00 (p,c) (zj (l:=[_,_,_,_]) h)
def fold_one(tmps:Array A4)(a:A4):(E7 (#[7]:Array Tmp) [a].toArray).foldl (λtmps (t,a)=>tmps.setIfInBounds t a) tmps=tmps.setIfInBounds 7 a:=by simp
section
variable{W w:World}{F M:List Asn}{fn:FuncId}{tmps:Array Value}{l D b2:Nat}{L:List Int}
def round_spec(x:Int)(t:qs1 13 [(2,Zq (A0 ⟨b2,0,A3⟩))] { tmps:=tmps,defers:=[]})(s:L.length<=1000000)
 (h:St W (BufA fn tmps .ready l D b2 L::F) w):
 Ei B4 0 Zp l fn (tmps.setIfInBounds 7 (ev x)) apA apB w λq w'=>∃v,q=.returned v/\v=Zb Ac/\St W (BufA fn tmps .ready l D b2 (L++[x])::F) w':=by
 obtain⟨p,c,h⟩:=BufA.open_ h;refine roundIn_of_wpIn trivial ?_;have n:qx4 (B4.inRound l):=.inr ⟨l,rfl⟩;have r:qs1 13 [(7,ev x),(2,Zq (A0 ⟨b2,0,A3⟩))] { tmps:=tmps.setIfInBounds 7 (ev x),defers:=[]}:=t.put1 (d:=7) (ev x) (by decide);rw[apA_eq];refine qk6 n tame2 (K:=λe' w'=>e'=[(5,ev x),(7,ev x),(2,Zq (A0 ⟨b2,0,A3⟩))]/\w'=w) (by rw[ops_2];exact⟨rfl,rfl⟩) r ?_;rintro A a2 B ⟨rfl,rfl⟩ ha2;have m:qs1 13 [(5,ev x),(2,Zq (A0 ⟨b2,0,A3⟩))] a2:=ha2.pick λy o=>by simp only[Ak,Ad,yK]at o;rcases o with rfl|rfl<;>rfl
 obtain⟨k,h⟩:=h.turn (o':=.loop (recC fn tmps D .busy));refine⟨_,run_beginRound k yR,?_⟩;rw[apB_eq];refine wpIn_block (qk6 n tame3 (K:=λe' w'=>∃a e,St W (Pt l (.loop (recC fn tmps D .busy))::Pt D (.deferred (A0 []))::Row b2 28 [Zl a (L++[x]).length e]::SlA 3 1 eV a e (L++[x])::F) w') ?_ m ?_)
 .rw[ops_3];refine LdL.n 2 h yR yR (zh h λb w h=>?_);have h:St W (Row b 3 (C6 eV [x])::Pt l (.loop (recC fn tmps D .busy))::Pt D (.deferred (A0 []))::Row b2 28 [Zl p L.length c]::SlA 3 1 eV p c L::F) w:=h;obtain⟨z,u,j⟩:=zE;have f:=bE;refine qf3 (os:=L) (xs:=[x]) eV1 uSl (.inr ⟨_,uSl⟩) iE sE u j 4 h yR (z04 0 yR λF=>z0m) yR eVn (by simp only[Ab,Ai];exact Dt (Cq _ f) (by omega)) (by simp only[Ab,Ai];omega) λi g w h=>⟨_,_,_,rfl,?_⟩;refine z0o 3 h yR (by simp) λw h=>⟨i,g,?_⟩;have h:St W (Row b 3 (C6 eV [x])::Pt l (.loop (recC fn tmps D .busy))::Pt D (.deferred (A0 []))::Row b2 28 [Zl i (L++[x]).length g]::SlA 3 1 eV i g (L++[x])::F) w:=h;exact h.drop
 .rintro C a3 E ⟨a,e,h⟩ _;obtain⟨k,h⟩:=h.turn (o':=.loop (recC fn tmps D .ready));exact⟨_,_,run_endRound A3 k,_,rfl,rfl,BufA.shut a e h⟩
def AppSeq_spec{d:Bm}{cap:A4}{N:Nat}{G:List Int->Prop}(I:q33 Zp d=Ac)(V:N<=1000000)(o:q7b W ev d cap M N G)(g:St W M w):
 qb Zp 107 #[Zl A3 0 0,.func (.func d) #[] #[cap]] w λv w'=>∃L p c,v=Zl p (Dz L) c/\G L/\St W (SlA 3 1 eV p c L::M) w':=by
 refine(callsIn_wide (n:=0)).1 (callsIn_of_wp_marks Tryz.func107 ap_body trivial ?_);have r:qx4 B4:=.inl yR;have i:qs1 13 [(1,.func (.func d) #[] #[cap]),(0,Zl A3 0 0)] { tmps:=#[Zl A3 0 0,.func (.func d) #[] #[cap]]++Bi (Tryz.f107.ntmps -(#[Zl A3 0 0,.func (.func d) #[] #[cap]]).size) undef,defers:=[]}:=by
  rw[ap_n];refine⟨rfl,by simp,λt v u=>?_⟩;have:=q47 u;simp only[Ak,Ad,yK,Prod.mk.injEq]at this;rcases this with ⟨rfl,rfl⟩|⟨rfl,rfl⟩
  .rw[Ar,Au (by simp)];rfl
  .rw[Ar,Au (by simp)];rfl
 generalize ({ tmps:=#[Zl A3 0 0,.func (.func d) #[] #[cap]]++Bi (Tryz.f107.ntmps -(#[Zl A3 0 0,.func (.func d) #[] #[cap]]).size) undef,defers:=[]}:Act)=a at i;rw[ap_eq];refine wpIn_seq (qk6 r tame0 (K:=λe' w'=>∃b2,e'=[(4,Zl A3 0 0),(2,Zq (A0 ⟨b2,0,A3⟩)),(1,.func (.func d) #[] #[cap]),(0,Zl A3 0 0)]/\St W (Row b2 28 [Zl A3 0 0]::M) w') (by rw[ops_0];exact zh g λb w g=>⟨b,rfl,g⟩) i ?_);clear g;rintro s q w ⟨b2,rfl,g⟩ i;refine wpIn_seq (wpIn_seq (qk6 r tame1 (K:=λe' w'=>e'=[(6,.func (.func d) #[] #[cap]),(4,Zl A3 0 0),(2,Zq (A0 ⟨b2,0,A3⟩)),(1,.func (.func d) #[] #[cap]),(0,Zl A3 0 0)]/\w'=w) (by rw[ops_1];exact⟨rfl,rfl⟩) i ?_));rintro s a w ⟨rfl,rfl⟩ i;refine wpIn_block (wpIn_rangeFunc λfn _=>?_);have C:a.eval (.tmp 6)=.func (.func d) #[] #[cap]:=i.val 6 _ rfl;have j:=(g.alloc (.deferred (A0 []))).alloc (.loop (recC fn a.tmps w.heap.size .ready));rw[D1]at j;refine⟨w.heap.size+1,[{ target:=.collected w.heap.size,args:=#[]}],(w.alloc (.deferred (A0 []))).alloc (.loop (recC fn a.tmps w.heap.size .ready)),{ target:=.fn (.func d) #[cap],args:=#[.func (.yield (w.heap.size+1)) #[] #[]]},(w.alloc (.deferred (A0 []))).alloc (.loop (recC fn a.tmps w.heap.size .ready)),d,
  #[.func (.yield (w.heap.size+1)) #[] #[],cap],(w.alloc (.deferred (A0 []))).alloc (.loop (recC fn a.tmps w.heap.size .ready)),run_enterLoop_outer _ _ _ _ _,?_,λ_ _=>trivial,?_,(λh=>by cases h),?_⟩
 .simp only[resolve,C];simp[go_sem]
 .simp only[invoke];exact q04 I _ _
 generalize w.heap.size=D at j;generalize D+1=l at j;generalize (w.alloc (.deferred (A0 []))).alloc (.loop (recC fn a.tmps D .ready))=w1 at j;clear g C;have g:St W (BufA fn a.tmps .ready l D b2 []::M) w1:=BufA.shut A3 0 (zf 0 3 (z09 (f:=eV) (e:=3) (size:=1) (p:=A3) j) yR);have u:qs1 13 [(2,Zq (A0 ⟨b2,0,A3⟩))] { tmps:=a.tmps,defers:=[]}:=by
  have:=i.pick (e':=[(2,Zq (A0 ⟨b2,0,A3⟩))]) λy k=>by simp only[Ak,Ad,yK]at k;rcases k with rfl;rfl
  exact⟨rfl,this.size,this.val⟩
 have k:∀(X:List Asn) (L:List Int) (x:Int) (w:A5) (K:A4->A5->Prop),L.length<N->St W (BufA fn a.tmps .ready l D b2 L::X) w->(∀w',St W (BufA fn a.tmps .ready l D b2 (L++[x])::X) w'->K (Zb Ac) w')->q01 Zp 4 (.func (.yield l) #[] #[]) [ev x] w K:=λX L x w K Z g U=>by obtain⟨p,c,J⟩:=BufA.open_ g;refine .inr ⟨l,recC fn a.tmps D .ready,rfl,J.pt,rfl,?_⟩;have key:=round_spec x u (by omega) g;rw[<-fold_one]at key;exact RoundIn.mono key λs w' ⟨v,j,H,g⟩=>⟨v,j,by subst H;exact U _ g⟩
 refine qx4.calls r (Calls.mono (o _ _ _ k g) λe Y ⟨v,Q,E,L,O,g⟩=>?_);subst Q;obtain⟨p,c,g⟩:=BufA.open_ g;obtain⟨A,g⟩:=g.turn (o':=.loop (recC fn a.tmps D .exhausted));refine⟨A3,_,run_endLoop A (by simp[recC]),?_⟩;have B:a.defers=[]:=i.defers;have z:qs1 13 [(2,Zq (A0 ⟨b2,0,A3⟩))] (qi6 { a with defers:=[{ target:=.collected D,args:=#[]}]++a.defers}):=by
  have:=i.pick (e':=[(2,Zq (A0 ⟨b2,0,A3⟩))]) λy k=>by simp only[Ak,Ad,yK]at k;rcases k with rfl;rfl
  exact⟨rfl,this.size,this.val⟩
 refine wpIn_seq (qmj r tame4 (K:=λe' w'=>∃e0,e'=(4,Zl p L.length c)::e0) (by rw[ops_4];exact LdL.n 2 g yR yR ⟨_,rfl⟩) z ?_)
 rintro s q ⟨e0,rfl⟩ ha1 hd1;refine wpIn_ret ?_;show E8 B4 0 Zp Tryz.f107 q.tmps _ q.defers .returning _;rw[hd1,B];obtain⟨F,g⟩:=(St.p1 g).turn (o':=.deferred A3);refine⟨by simp,.inl ⟨D,_,rfl,run_takeDeferred F,?_⟩⟩;have m:=λw=>q77 (P:=Zp) (fn:=Tryz.f107) (a:=qi6 q) (R:=λv w'=>v=Zl p L.length c) (w:=w) (by rw[ap_res];rfl) ha1;obtain⟨v,E,T⟩:=m _;refine⟨v,E,v,rfl,L,p,c,T,O,?_⟩;exact g.drop.drop.drop
end
end AppI
end
section
set_option maxRecDepth 100000
namespace AppS
open Go Go.Proofs.YtfjifcfbmhpcaaaGreatDoor
abbrev ev:ByteArray->A4:=Zs
abbrev eV(x:ByteArray):List A4:=[ev x]
def eV1(x:ByteArray):(eV x).length=1:=rfl
def eVn(x:ByteArray):∀v∈eV x,qn1 v:=λv h=>by simp only[eV,Ak,Ad,yK]at h;subst h;trivial
def uSl:Zp.underlying 23=A0 (.slice 9):=Tryz.underlying23
def iE:Zp.info? 9=A0 Tryz.t9:=by kernel_rfl
def sE:Tryz.t9.size=1:=rfl
def zE:∃z,Tryz.t9.zero=A0 z/\z.cells.size=1:=⟨_,rfl,rfl⟩
def bE:Tryz.t9.bytes<=100:=by decide+kernel
noncomputable def apC:D7:=Tryz.f288.body.getD .skip
noncomputable def cR(i:Nat):D7:=(q63 apC).getD i .skip
noncomputable def apA:D7:=q7q (cR 2)
noncomputable def apB:D7:=qzq (cR 2)
def ap_body:Tryz.f288.body=A0 apC:=by kernel_rfl
def ap_n:Tryz.f288.ntmps=13:=by kernel_rfl
def ap_eq:apC=.seq (.region 0 (qo1 (cR 0)) Ap) (.seq (.seq (.region 1 (qo1 (cR 1)) Ap) (.block 0 (.rangeFunc (.tmp 6) #[7] apA apB))) (.seq (.region 4 (qo1 (cR 3)) Ap) .ret)):=by kernel_rfl
def apA_eq:apA=.region 2 (qo1 apA) Ap:=by kernel_rfl
def apB_eq:apB=.block 1 (.region 3 (qo1 (inB apB)) Ap):=by kernel_rfl
def tame0:(qo1 (cR 0)).toList.all qv5=Ac:=by kernel_rfl
def tame1:(qo1 (cR 1)).toList.all qv5=Ac:=by kernel_rfl
def tame2:(qo1 apA).toList.all qv5=Ac:=by kernel_rfl
def tame3:(qo1 (inB apB)).toList.all qv5=Ac:=by kernel_rfl
def tame4:(qo1 (cR 3)).toList.all qv5=Ac:=by kernel_rfl
section
variable(p:Option Addr)(n c:Nat)(w:World)(K:Env->World->Prop)(b2:Nat)(s:Value)
def ops_0:qy7 Zp 13 (qo1 (cR 0)).toList [(1,s),(0,Zl p n c)] w K=(qh #[Zl p n c] 23 w λb w=>K [(4,Zl A3 0 0),(2,Zq (A0 ⟨b,0,A3⟩)),(1,s),(0,Zl p n c)] w):=by kernel_rfl
def ops_1(e:Env):qy7 Zp 13 (qo1 (cR 1)).toList ((4,Zl A3 0 0)::(2,Zq (A0 ⟨b2,0,A3⟩))::(1,s)::e) w K=K ((6,s)::(4,Zl A3 0 0)::(2,Zq (A0 ⟨b2,0,A3⟩))::(1,s)::e) w:=by kernel_rfl
def ops_2(x:ByteArray)(e:Env):qy7 Zp 13 (qo1 apA).toList ((7,ev x)::e) w K=K ((5,ev x)::(7,ev x)::e) w:=by kernel_rfl
def ops_3(x:ByteArray):qy7 Zp 13 (qo1 (inB apB)).toList [(5,ev x),(2,Zq (A0 ⟨b2,0,A3⟩))] w K=
 LdL ⟨b2,0,A3⟩ w λq m d=>qh #[ev x] 9 w λb w=>Run Zp (B7 #[23,23] 23 #[Zl q m d,.slice (A0 ⟨b,0,A3⟩) 1 1]) w λv w=>AsL v λh a c=>
  St1 ⟨b2,0,A3⟩ (.slice h a c) w λw=>K [(11,.slice h a c),(10,.slice (A0 ⟨b,0,A3⟩) 1 1),(9,ev x),(8,Zl q m d),(5,ev x),(2,Zq (A0 ⟨b2,0,A3⟩))] w:=by kernel_rfl
def ops_4:q5f Zp 13 (qo1 (cR 3)).toList [(2,Zq (A0 ⟨b2,0,A3⟩))] w K=
 LdL ⟨b2,0,A3⟩ w λq m d=>K [(4,Zl q m d),(12,Zl q m d),(2,Zq (A0 ⟨b2,0,A3⟩))] w:=by kernel_rfl
def ap_res(q:Option B1)(m d:Nat)(e:Env)(K:List A4->Prop):q66 Zp Tryz.f288.results.toList ((4,Zl q m d)::e) w K=K [Zl q m d]:=by kernel_rfl
end
noncomputable def recC(fn:Bm)(tmps:Array A4)(D:Nat)(s:Bd):Loop:={ state:=s,pending:=A3,fn:=fn,tmps:=tmps,params:=#[7],assign:=apA,body:=apB,defers:=D}
def BufA(fn:Bm)(tmps:Array A4)(s:Bd)(l D b2:Nat)(L:List ByteArray):Asn:=exA λy:Option B1×Nat=>qz [Pt l (.loop (recC fn tmps D s)),Pt D (.deferred (A0 [])),Row b2 23 [.slice y.1 L.length y.2],SlA 9 1 eV y.1 y.2 L]
def BufA.open_{W w:A5}{F:List Asn}{fn:Bm}{tmps:Array A4}{s:Bd}{l D b2:Nat}{L:List ByteArray}(h:St W (BufA fn tmps s l D b2 L::F) w):
 ∃p c,St W (Pt l (.loop (recC fn tmps D s))::Pt D (.deferred (A0 []))::Row b2 23 [Zl p L.length c]::SlA 9 1 eV p c L::F) w:=by
 obtain⟨⟨p,c⟩,h⟩:=h.of_ex;exact⟨p,c,h.of_sep⟩
def BufA.shut{W w:A5}{F:List Asn}{fn:Bm}{tmps:Array A4}{s:Bd}{l D b2:Nat}{L:List ByteArray}(p:Option B1)(c:Nat)(h:St W (Pt l (.loop (recC fn tmps D s))::Pt D (.deferred (A0 []))::Row b2 23 [Zl p L.length c]::SlA 9 1 eV p c L::F) w):St W (BufA fn tmps s l D b2 L::F) w:=
 z00 (p,c) (zj (l:=[_,_,_,_]) h)
def fold_one(tmps:Array A4)(a:A4):(E7 (#[7]:Array Tmp) [a].toArray).foldl (λtmps (t,a)=>tmps.setIfInBounds t a) tmps=tmps.setIfInBounds 7 a:=by simp
section
variable{W w:World}{F M:List Asn}{fn:FuncId}{tmps:Array Value}{l D b2:Nat}{L:List ByteArray}
def round_spec(x:ByteArray)(t:qs1 13 [(2,Zq (A0 ⟨b2,0,A3⟩))] { tmps:=tmps,defers:=[]})(s:L.length<=1000000)
 (h:St W (BufA fn tmps .ready l D b2 L::F) w):
 Ei B4 0 Zp l fn (tmps.setIfInBounds 7 (ev x)) apA apB w λq w'=>∃v,q=.returned v/\v=Zb Ac/\St W (BufA fn tmps .ready l D b2 (L++[x])::F) w':=by
 obtain⟨p,c,h⟩:=BufA.open_ h;refine roundIn_of_wpIn trivial ?_;have n:qx4 (B4.inRound l):=.inr ⟨l,rfl⟩;have r:qs1 13 [(7,ev x),(2,Zq (A0 ⟨b2,0,A3⟩))] { tmps:=tmps.setIfInBounds 7 (ev x),defers:=[]}:=t.put1 (d:=7) (ev x) (by decide);rw[apA_eq];refine qk6 n tame2 (K:=λe' w'=>e'=[(5,ev x),(7,ev x),(2,Zq (A0 ⟨b2,0,A3⟩))]/\w'=w) (by rw[ops_2];exact⟨rfl,rfl⟩) r ?_;rintro A a2 B ⟨rfl,rfl⟩ ha2;have m:qs1 13 [(5,ev x),(2,Zq (A0 ⟨b2,0,A3⟩))] a2:=ha2.pick λy o=>by simp only[Ak,Ad,yK]at o;rcases o with rfl|rfl<;>rfl
 obtain⟨k,h⟩:=h.turn (o':=.loop (recC fn tmps D .busy));refine⟨_,run_beginRound k yR,?_⟩;rw[apB_eq];refine wpIn_block (qk6 n tame3 (K:=λe' w'=>∃a e,St W (Pt l (.loop (recC fn tmps D .busy))::Pt D (.deferred (A0 []))::Row b2 23 [Zl a (L++[x]).length e]::SlA 9 1 eV a e (L++[x])::F) w') ?_ m ?_)
 .rw[ops_3];refine LdL.n 2 h yR yR (zh h λb w h=>?_);have h:St W (Row b 9 (C6 eV [x])::Pt l (.loop (recC fn tmps D .busy))::Pt D (.deferred (A0 []))::Row b2 23 [Zl p L.length c]::SlA 9 1 eV p c L::F) w:=h;obtain⟨z,u,j⟩:=zE;have f:=bE;refine qf3 (os:=L) (xs:=[x]) eV1 uSl (.inr ⟨_,uSl⟩) iE sE u j 4 h yR (z04 0 yR λF=>z0m) yR eVn (by simp only[Ab,Ai];exact Dt (Cq _ f) (by omega)) (by simp only[Ab,Ai];omega) λi g w h=>⟨_,_,_,rfl,?_⟩;refine z0o 3 h yR (by simp) λw h=>⟨i,g,?_⟩;have h:St W (Row b 9 (C6 eV [x])::Pt l (.loop (recC fn tmps D .busy))::Pt D (.deferred (A0 []))::Row b2 23 [Zl i (L++[x]).length g]::SlA 9 1 eV i g (L++[x])::F) w:=h;exact h.drop
 .rintro C a3 E ⟨a,e,h⟩ _;obtain⟨k,h⟩:=h.turn (o':=.loop (recC fn tmps D .ready));exact⟨_,_,run_endRound A3 k,_,rfl,rfl,BufA.shut a e h⟩
def AppSeq_spec{d:Bm}{cap:A4}{N:Nat}{G:List ByteArray->Prop}(I:q33 Zp d=Ac)(V:N<=1000000)(o:q7b W ev d cap M N G)(g:St W M w):
 qb Zp 288 #[Zl A3 0 0,.func (.func d) #[] #[cap]] w λv w'=>∃L p c,v=Zl p (Dz L) c/\G L/\St W (SlA 9 1 eV p c L::M) w':=by
 refine(callsIn_wide (n:=0)).1 (callsIn_of_wp_marks Tryz.func288 ap_body trivial ?_);have r:qx4 B4:=.inl yR;have i:qs1 13 [(1,.func (.func d) #[] #[cap]),(0,Zl A3 0 0)] { tmps:=#[Zl A3 0 0,.func (.func d) #[] #[cap]]++Bi (Tryz.f288.ntmps -(#[Zl A3 0 0,.func (.func d) #[] #[cap]]).size) undef,defers:=[]}:=by
  rw[ap_n];refine⟨rfl,by simp,λt v u=>?_⟩;have:=q47 u;simp only[Ak,Ad,yK,Prod.mk.injEq]at this;rcases this with ⟨rfl,rfl⟩|⟨rfl,rfl⟩
  .rw[Ar,Au (by simp)];rfl
  .rw[Ar,Au (by simp)];rfl
 generalize ({ tmps:=#[Zl A3 0 0,.func (.func d) #[] #[cap]]++Bi (Tryz.f288.ntmps -(#[Zl A3 0 0,.func (.func d) #[] #[cap]]).size) undef,defers:=[]}:Act)=a at i;rw[ap_eq];refine wpIn_seq (qk6 r tame0 (K:=λe' w'=>∃b2,e'=[(4,Zl A3 0 0),(2,Zq (A0 ⟨b2,0,A3⟩)),(1,.func (.func d) #[] #[cap]),(0,Zl A3 0 0)]/\St W (Row b2 23 [Zl A3 0 0]::M) w') (by rw[ops_0];exact zh g λb w g=>⟨b,rfl,g⟩) i ?_);clear g;rintro s q w ⟨b2,rfl,g⟩ i;refine wpIn_seq (wpIn_seq (qk6 r tame1 (K:=λe' w'=>e'=[(6,.func (.func d) #[] #[cap]),(4,Zl A3 0 0),(2,Zq (A0 ⟨b2,0,A3⟩)),(1,.func (.func d) #[] #[cap]),(0,Zl A3 0 0)]/\w'=w) (by rw[ops_1];exact⟨rfl,rfl⟩) i ?_));rintro s a w ⟨rfl,rfl⟩ i;refine wpIn_block (wpIn_rangeFunc λfn _=>?_);have C:a.eval (.tmp 6)=.func (.func d) #[] #[cap]:=i.val 6 _ rfl;have j:=(g.alloc (.deferred (A0 []))).alloc (.loop (recC fn a.tmps w.heap.size .ready));rw[D1]at j;refine⟨w.heap.size+1,[{ target:=.collected w.heap.size,args:=#[]}],(w.alloc (.deferred (A0 []))).alloc (.loop (recC fn a.tmps w.heap.size .ready)),{ target:=.fn (.func d) #[cap],args:=#[.func (.yield (w.heap.size+1)) #[] #[]]},(w.alloc (.deferred (A0 []))).alloc (.loop (recC fn a.tmps w.heap.size .ready)),d,
  #[.func (.yield (w.heap.size+1)) #[] #[],cap],(w.alloc (.deferred (A0 []))).alloc (.loop (recC fn a.tmps w.heap.size .ready)),run_enterLoop_outer _ _ _ _ _,?_,λ_ _=>trivial,?_,(λh=>by cases h),?_⟩
 .simp only[resolve,C];simp[go_sem]
 .simp only[invoke];exact q04 I _ _
 generalize w.heap.size=D at j;generalize D+1=l at j;generalize (w.alloc (.deferred (A0 []))).alloc (.loop (recC fn a.tmps D .ready))=w1 at j;clear g C;have g:St W (BufA fn a.tmps .ready l D b2 []::M) w1:=BufA.shut A3 0 (zf 0 3 (z09 (f:=eV) (e:=9) (size:=1) (p:=A3) j) yR);have u:qs1 13 [(2,Zq (A0 ⟨b2,0,A3⟩))] { tmps:=a.tmps,defers:=[]}:=by
  have:=i.pick (e':=[(2,Zq (A0 ⟨b2,0,A3⟩))]) λy k=>by simp only[Ak,Ad,yK]at k;rcases k with rfl;rfl
  exact⟨rfl,this.size,this.val⟩
 have k:∀(X:List Asn) (L:List ByteArray) (x:ByteArray) (w:A5) (K:A4->A5->Prop),L.length<N->St W (BufA fn a.tmps .ready l D b2 L::X) w->(∀w',St W (BufA fn a.tmps .ready l D b2 (L++[x])::X) w'->K (Zb Ac) w')->q01 Zp 4 (.func (.yield l) #[] #[]) [ev x] w K:=λX L x w K Z g U=>by obtain⟨p,c,J⟩:=BufA.open_ g;refine .inr ⟨l,recC fn a.tmps D .ready,rfl,J.pt,rfl,?_⟩;have key:=round_spec x u (by omega) g;rw[<-fold_one]at key;exact RoundIn.mono key λs w' ⟨v,j,H,g⟩=>⟨v,j,by subst H;exact U _ g⟩
 refine qx4.calls r (Calls.mono (o _ _ _ k g) λe Y ⟨v,Q,E,L,O,g⟩=>?_);subst Q;obtain⟨p,c,g⟩:=BufA.open_ g;obtain⟨A,g⟩:=g.turn (o':=.loop (recC fn a.tmps D .exhausted));refine⟨A3,_,run_endLoop A (by simp[recC]),?_⟩;have B:a.defers=[]:=i.defers;have z:qs1 13 [(2,Zq (A0 ⟨b2,0,A3⟩))] (qi6 { a with defers:=[{ target:=.collected D,args:=#[]}]++a.defers}):=by
  have:=i.pick (e':=[(2,Zq (A0 ⟨b2,0,A3⟩))]) λy k=>by simp only[Ak,Ad,yK]at k;rcases k with rfl;rfl
  exact⟨rfl,this.size,this.val⟩
 refine wpIn_seq (qmj r tame4 (K:=λe' w'=>∃e0,e'=(4,Zl p L.length c)::e0) (by rw[ops_4];exact LdL.n 2 g yR yR ⟨_,rfl⟩) z ?_)
 rintro s q ⟨e0,rfl⟩ ha1 hd1;refine wpIn_ret ?_;show E8 B4 0 Zp Tryz.f288 q.tmps _ q.defers .returning _;rw[hd1,B];obtain⟨F,g⟩:=(St.p1 g).turn (o':=.deferred A3);refine⟨by simp,.inl ⟨D,_,rfl,run_takeDeferred F,?_⟩⟩;have m:=λw=>q77 (P:=Zp) (fn:=Tryz.f288) (a:=qi6 q) (R:=λv w'=>v=Zl p L.length c) (w:=w) (by rw[ap_res];rfl) ha1;obtain⟨v,E,T⟩:=m _;refine⟨v,E,v,rfl,L,p,c,T,O,?_⟩;exact g.drop.drop.drop
end
end AppS
end
section
set_option maxRecDepth 100000
namespace AppL
open Go Go.Proofs.YtfjifcfbmhpcaaaGreatDoor
abbrev ev:Nat->A4:=qc
abbrev eV(x:Nat):List A4:=[ev x]
def eV1(x:Nat):(eV x).length=1:=rfl
def eVn(x:Nat):∀v∈eV x,qn1 v:=λv h=>by simp only[eV,Ak,Ad,yK]at h;subst h;trivial
def uSl:Zp.underlying 214=A0 (.slice 75):=Tryz.underlying214
def iE:Zp.info? 75=A0 Tryz.t75:=by kernel_rfl
def sE:Tryz.t75.size=1:=rfl
def zE:∃z,Tryz.t75.zero=A0 z/\z.cells.size=1:=⟨_,rfl,rfl⟩
def bE:Tryz.t75.bytes<=100:=by decide+kernel
noncomputable def apC:D7:=Tryz.f242.body.getD .skip
noncomputable def cR(i:Nat):D7:=(q63 apC).getD i .skip
noncomputable def apA:D7:=q7q (cR 2)
noncomputable def apB:D7:=qzq (cR 2)
def ap_body:Tryz.f242.body=A0 apC:=by kernel_rfl
def ap_n:Tryz.f242.ntmps=13:=by kernel_rfl
def ap_eq:apC=.seq (.region 0 (qo1 (cR 0)) Ap) (.seq (.seq (.region 1 (qo1 (cR 1)) Ap) (.block 0 (.rangeFunc (.tmp 6) #[7] apA apB))) (.seq (.region 4 (qo1 (cR 3)) Ap) .ret)):=by kernel_rfl
def apA_eq:apA=.region 2 (qo1 apA) Ap:=by kernel_rfl
def apB_eq:apB=.block 1 (.region 3 (qo1 (inB apB)) Ap):=by kernel_rfl
def tame0:(qo1 (cR 0)).toList.all qv5=Ac:=by kernel_rfl
def tame1:(qo1 (cR 1)).toList.all qv5=Ac:=by kernel_rfl
def tame2:(qo1 apA).toList.all qv5=Ac:=by kernel_rfl
def tame3:(qo1 (inB apB)).toList.all qv5=Ac:=by kernel_rfl
def tame4:(qo1 (cR 3)).toList.all qv5=Ac:=by kernel_rfl
section
variable(p:Option Addr)(n c:Nat)(w:World)(K:Env->World->Prop)(b2:Nat)(s:Value)
def ops_0:qy7 Zp 13 (qo1 (cR 0)).toList [(1,s),(0,Zl p n c)] w K=(qh #[Zl p n c] 214 w λb w=>K [(4,Zl A3 0 0),(2,Zq (A0 ⟨b,0,A3⟩)),(1,s),(0,Zl p n c)] w):=by kernel_rfl
def ops_1(e:Env):qy7 Zp 13 (qo1 (cR 1)).toList ((4,Zl A3 0 0)::(2,Zq (A0 ⟨b2,0,A3⟩))::(1,s)::e) w K=K ((6,s)::(4,Zl A3 0 0)::(2,Zq (A0 ⟨b2,0,A3⟩))::(1,s)::e) w:=by kernel_rfl
def ops_2(x:Nat)(e:Env):qy7 Zp 13 (qo1 apA).toList ((7,ev x)::e) w K=K ((5,ev x)::(7,ev x)::e) w:=by kernel_rfl
def ops_3(x:Nat):qy7 Zp 13 (qo1 (inB apB)).toList [(5,ev x),(2,Zq (A0 ⟨b2,0,A3⟩))] w K=
 LdL ⟨b2,0,A3⟩ w λq m d=>qh #[ev x] 75 w λb w=>Run Zp (B7 #[214,214] 214 #[Zl q m d,.slice (A0 ⟨b,0,A3⟩) 1 1]) w λv w=>AsL v λh a c=>
  St1 ⟨b2,0,A3⟩ (.slice h a c) w λw=>K [(11,.slice h a c),(10,.slice (A0 ⟨b,0,A3⟩) 1 1),(9,ev x),(8,Zl q m d),(5,ev x),(2,Zq (A0 ⟨b2,0,A3⟩))] w:=by kernel_rfl
def ops_4:q5f Zp 13 (qo1 (cR 3)).toList [(2,Zq (A0 ⟨b2,0,A3⟩))] w K=
 LdL ⟨b2,0,A3⟩ w λq m d=>K [(4,Zl q m d),(12,Zl q m d),(2,Zq (A0 ⟨b2,0,A3⟩))] w:=by kernel_rfl
def ap_res(q:Option B1)(m d:Nat)(e:Env)(K:List A4->Prop):q66 Zp Tryz.f242.results.toList ((4,Zl q m d)::e) w K=K [Zl q m d]:=by kernel_rfl
end
noncomputable def recC(fn:Bm)(tmps:Array A4)(D:Nat)(s:Bd):Loop:={ state:=s,pending:=A3,fn:=fn,tmps:=tmps,params:=#[7],assign:=apA,body:=apB,defers:=D}
def BufA(fn:Bm)(tmps:Array A4)(s:Bd)(l D b2:Nat)(L:List Nat):Asn:=exA λy:Option B1×Nat=>qz [Pt l (.loop (recC fn tmps D s)),Pt D (.deferred (A0 [])),Row b2 214 [.slice y.1 L.length y.2],SlA 75 1 eV y.1 y.2 L]
def BufA.open_{W w:A5}{F:List Asn}{fn:Bm}{tmps:Array A4}{s:Bd}{l D b2:Nat}{L:List Nat}(h:St W (BufA fn tmps s l D b2 L::F) w):
 ∃p c,St W (Pt l (.loop (recC fn tmps D s))::Pt D (.deferred (A0 []))::Row b2 214 [Zl p L.length c]::SlA 75 1 eV p c L::F) w:=by
 obtain⟨⟨p,c⟩,h⟩:=h.of_ex;exact⟨p,c,h.of_sep⟩
def BufA.shut{W w:A5}{F:List Asn}{fn:Bm}{tmps:Array A4}{s:Bd}{l D b2:Nat}{L:List Nat}(p:Option B1)(c:Nat)(h:St W (Pt l (.loop (recC fn tmps D s))::Pt D (.deferred (A0 []))::Row b2 214 [Zl p L.length c]::SlA 75 1 eV p c L::F) w):St W (BufA fn tmps s l D b2 L::F) w:=
 z00 (p,c) (zj (l:=[_,_,_,_]) h)
def fold_one(tmps:Array A4)(a:A4):(E7 (#[7]:Array Tmp) [a].toArray).foldl (λtmps (t,a)=>tmps.setIfInBounds t a) tmps=tmps.setIfInBounds 7 a:=by simp
section
variable{W w:World}{F M:List Asn}{fn:FuncId}{tmps:Array Value}{l D b2:Nat}{L:List Nat}
def round_spec(x:Nat)(t:qs1 13 [(2,Zq (A0 ⟨b2,0,A3⟩))] { tmps:=tmps,defers:=[]})(s:L.length<=1000000)
 (h:St W (BufA fn tmps .ready l D b2 L::F) w):
 Ei B4 0 Zp l fn (tmps.setIfInBounds 7 (ev x)) apA apB w λq w'=>∃v,q=.returned v/\v=Zb Ac/\St W (BufA fn tmps .ready l D b2 (L++[x])::F) w':=by
 obtain⟨p,c,h⟩:=BufA.open_ h;refine roundIn_of_wpIn trivial ?_;have n:qx4 (B4.inRound l):=.inr ⟨l,rfl⟩;have r:qs1 13 [(7,ev x),(2,Zq (A0 ⟨b2,0,A3⟩))] { tmps:=tmps.setIfInBounds 7 (ev x),defers:=[]}:=t.put1 (d:=7) (ev x) (by decide);rw[apA_eq];refine qk6 n tame2 (K:=λe' w'=>e'=[(5,ev x),(7,ev x),(2,Zq (A0 ⟨b2,0,A3⟩))]/\w'=w) (by rw[ops_2];exact⟨rfl,rfl⟩) r ?_;rintro A a2 B ⟨rfl,rfl⟩ ha2;have m:qs1 13 [(5,ev x),(2,Zq (A0 ⟨b2,0,A3⟩))] a2:=ha2.pick λy o=>by simp only[Ak,Ad,yK]at o;rcases o with rfl|rfl<;>rfl
 obtain⟨k,h⟩:=h.turn (o':=.loop (recC fn tmps D .busy));refine⟨_,run_beginRound k yR,?_⟩;rw[apB_eq];refine wpIn_block (qk6 n tame3 (K:=λe' w'=>∃a e,St W (Pt l (.loop (recC fn tmps D .busy))::Pt D (.deferred (A0 []))::Row b2 214 [Zl a (L++[x]).length e]::SlA 75 1 eV a e (L++[x])::F) w') ?_ m ?_)
 .rw[ops_3];refine LdL.n 2 h yR yR (zh h λb w h=>?_);have h:St W (Row b 75 (C6 eV [x])::Pt l (.loop (recC fn tmps D .busy))::Pt D (.deferred (A0 []))::Row b2 214 [Zl p L.length c]::SlA 75 1 eV p c L::F) w:=h;obtain⟨z,u,j⟩:=zE;have f:=bE;refine qf3 (os:=L) (xs:=[x]) eV1 uSl (.inr ⟨_,uSl⟩) iE sE u j 4 h yR (z04 0 yR λF=>z0m) yR eVn (by simp only[Ab,Ai];exact Dt (Cq _ f) (by omega)) (by simp only[Ab,Ai];omega) λi g w h=>⟨_,_,_,rfl,?_⟩;refine z0o 3 h yR (by simp) λw h=>⟨i,g,?_⟩;have h:St W (Row b 75 (C6 eV [x])::Pt l (.loop (recC fn tmps D .busy))::Pt D (.deferred (A0 []))::Row b2 214 [Zl i (L++[x]).length g]::SlA 75 1 eV i g (L++[x])::F) w:=h;exact h.drop
 .rintro C a3 E ⟨a,e,h⟩ _;obtain⟨k,h⟩:=h.turn (o':=.loop (recC fn tmps D .ready));exact⟨_,_,run_endRound A3 k,_,rfl,rfl,BufA.shut a e h⟩
def AppSeq_spec{d:Bm}{cap:A4}{N:Nat}{G:List Nat->Prop}(I:q33 Zp d=Ac)(V:N<=1000000)(o:q7b W ev d cap M N G)(g:St W M w):
 qb Zp 242 #[Zl A3 0 0,.func (.func d) #[] #[cap]] w λv w'=>∃L p c,v=Zl p (Dz L) c/\G L/\St W (SlA 75 1 eV p c L::M) w':=by
 refine(callsIn_wide (n:=0)).1 (callsIn_of_wp_marks Tryz.func242 ap_body trivial ?_);have r:qx4 B4:=.inl yR;have i:qs1 13 [(1,.func (.func d) #[] #[cap]),(0,Zl A3 0 0)] { tmps:=#[Zl A3 0 0,.func (.func d) #[] #[cap]]++Bi (Tryz.f242.ntmps -(#[Zl A3 0 0,.func (.func d) #[] #[cap]]).size) undef,defers:=[]}:=by
  rw[ap_n];refine⟨rfl,by simp,λt v u=>?_⟩;have:=q47 u;simp only[Ak,Ad,yK,Prod.mk.injEq]at this;rcases this with ⟨rfl,rfl⟩|⟨rfl,rfl⟩
  .rw[Ar,Au (by simp)];rfl
  .rw[Ar,Au (by simp)];rfl
 generalize ({ tmps:=#[Zl A3 0 0,.func (.func d) #[] #[cap]]++Bi (Tryz.f242.ntmps -(#[Zl A3 0 0,.func (.func d) #[] #[cap]]).size) undef,defers:=[]}:Act)=a at i;rw[ap_eq];refine wpIn_seq (qk6 r tame0 (K:=λe' w'=>∃b2,e'=[(4,Zl A3 0 0),(2,Zq (A0 ⟨b2,0,A3⟩)),(1,.func (.func d) #[] #[cap]),(0,Zl A3 0 0)]/\St W (Row b2 214 [Zl A3 0 0]::M) w') (by rw[ops_0];exact zh g λb w g=>⟨b,rfl,g⟩) i ?_);clear g;rintro s q w ⟨b2,rfl,g⟩ i;refine wpIn_seq (wpIn_seq (qk6 r tame1 (K:=λe' w'=>e'=[(6,.func (.func d) #[] #[cap]),(4,Zl A3 0 0),(2,Zq (A0 ⟨b2,0,A3⟩)),(1,.func (.func d) #[] #[cap]),(0,Zl A3 0 0)]/\w'=w) (by rw[ops_1];exact⟨rfl,rfl⟩) i ?_));rintro s a w ⟨rfl,rfl⟩ i;refine wpIn_block (wpIn_rangeFunc λfn _=>?_);have C:a.eval (.tmp 6)=.func (.func d) #[] #[cap]:=i.val 6 _ rfl;have j:=(g.alloc (.deferred (A0 []))).alloc (.loop (recC fn a.tmps w.heap.size .ready));rw[D1]at j;refine⟨w.heap.size+1,[{ target:=.collected w.heap.size,args:=#[]}],(w.alloc (.deferred (A0 []))).alloc (.loop (recC fn a.tmps w.heap.size .ready)),{ target:=.fn (.func d) #[cap],args:=#[.func (.yield (w.heap.size+1)) #[] #[]]},(w.alloc (.deferred (A0 []))).alloc (.loop (recC fn a.tmps w.heap.size .ready)),d,
  #[.func (.yield (w.heap.size+1)) #[] #[],cap],(w.alloc (.deferred (A0 []))).alloc (.loop (recC fn a.tmps w.heap.size .ready)),run_enterLoop_outer _ _ _ _ _,?_,λ_ _=>trivial,?_,(λh=>by cases h),?_⟩
 .simp only[resolve,C];simp[go_sem]
 .simp only[invoke];exact q04 I _ _
 generalize w.heap.size=D at j;generalize D+1=l at j;generalize (w.alloc (.deferred (A0 []))).alloc (.loop (recC fn a.tmps D .ready))=w1 at j;clear g C;have g:St W (BufA fn a.tmps .ready l D b2 []::M) w1:=BufA.shut A3 0 (zf 0 3 (z09 (f:=eV) (e:=75) (size:=1) (p:=A3) j) yR);have u:qs1 13 [(2,Zq (A0 ⟨b2,0,A3⟩))] { tmps:=a.tmps,defers:=[]}:=by
  have:=i.pick (e':=[(2,Zq (A0 ⟨b2,0,A3⟩))]) λy k=>by simp only[Ak,Ad,yK]at k;rcases k with rfl;rfl
  exact⟨rfl,this.size,this.val⟩
 have k:∀(X:List Asn) (L:List Nat) (x:Nat) (w:A5) (K:A4->A5->Prop),L.length<N->St W (BufA fn a.tmps .ready l D b2 L::X) w->(∀w',St W (BufA fn a.tmps .ready l D b2 (L++[x])::X) w'->K (Zb Ac) w')->q01 Zp 4 (.func (.yield l) #[] #[]) [ev x] w K:=λX L x w K Z g U=>by obtain⟨p,c,J⟩:=BufA.open_ g;refine .inr ⟨l,recC fn a.tmps D .ready,rfl,J.pt,rfl,?_⟩;have key:=round_spec x u (by omega) g;rw[<-fold_one]at key;exact RoundIn.mono key λs w' ⟨v,j,H,g⟩=>⟨v,j,by subst H;exact U _ g⟩
 refine qx4.calls r (Calls.mono (o _ _ _ k g) λe Y ⟨v,Q,E,L,O,g⟩=>?_);subst Q;obtain⟨p,c,g⟩:=BufA.open_ g;obtain⟨A,g⟩:=g.turn (o':=.loop (recC fn a.tmps D .exhausted));refine⟨A3,_,run_endLoop A (by simp[recC]),?_⟩;have B:a.defers=[]:=i.defers;have z:qs1 13 [(2,Zq (A0 ⟨b2,0,A3⟩))] (qi6 { a with defers:=[{ target:=.collected D,args:=#[]}]++a.defers}):=by
  have:=i.pick (e':=[(2,Zq (A0 ⟨b2,0,A3⟩))]) λy k=>by simp only[Ak,Ad,yK]at k;rcases k with rfl;rfl
  exact⟨rfl,this.size,this.val⟩
 refine wpIn_seq (qmj r tame4 (K:=λe' w'=>∃e0,e'=(4,Zl p L.length c)::e0) (by rw[ops_4];exact LdL.n 2 g yR yR ⟨_,rfl⟩) z ?_)
 rintro s q ⟨e0,rfl⟩ ha1 hd1;refine wpIn_ret ?_;show E8 B4 0 Zp Tryz.f242 q.tmps _ q.defers .returning _;rw[hd1,B];obtain⟨F,g⟩:=(St.p1 g).turn (o':=.deferred A3);refine⟨by simp,.inl ⟨D,_,rfl,run_takeDeferred F,?_⟩⟩;have m:=λw=>q77 (P:=Zp) (fn:=Tryz.f242) (a:=qi6 q) (R:=λv w'=>v=Zl p L.length c) (w:=w) (by rw[ap_res];rfl) ha1;obtain⟨v,E,T⟩:=m _;refine⟨v,E,v,rfl,L,p,c,T,O,?_⟩;exact g.drop.drop.drop
end
end AppL
end
def kS:qw2 Zp 9 Zs:=qw2.str uS
def qd1.part{κ ν:Type}{enc:κ->A4}{vl:ν->A4}{W w:A5}{F:List Asn}{m b:Nat}{L V:List (κ×ν)}(h:St W (qd1 enc vl m b L V::F) w):V.length<=L.length:=by obtain⟨⟨es,clock,seen,c⟩,h⟩:=h.of_ex;obtain⟨a,h⟩:=h.of_sep.of_pr;exact qmp (ql4 (·.1) a.nod) a.sub
def q58{κ ν:Type}[DecidableEq κ]{P:Ce}{b:Bg}{enc:κ->A4}(c:qw2 P b enc){vl:ν->A4}{W w:A5}{A B:Asn}{F:List Asn}{m a:Nat}{L V:List (κ×ν)}{x:κ×ν}(h:St W (A::B::qd1 enc vl m a L (V++[x])::F) w):V.length<L.length:=by have:=qd1.part (h.at 2 yR);rw[A7]at this;simp only[Ab,Ai]at this;omega
def qqs{W:A5}{F:List Asn}{ν:Type}{vl:ν->A4}{m cap N:Nat}{L:List (Int×ν)}(k:L.length<=N):
 q7b W (Zi Zk) 156 (Zq (A0 ⟨cap,0,A3⟩)) (Row cap 180 [.map (A0 m)]::qg (Zi Zk) vl m L::F) N λl=>l.Perm (L.map (·.1)):=λB o w i h=>by
 refine F156_of (LdM.n 1 h yR yR (qg9 Tryz.underlying180 2 h yR λd w h=>⟨λvs w=>∃V:List (Int×ν),vs=[]/\St W (B (V.map (·.1))::Row cap 180 [.map (A0 m)]::qd1 (Zi Zk) vl m d L V::F) w,λ_ w=>q74 d L.length w,⟨[],rfl,h⟩,λw j=>?_⟩));clear h;obtain⟨V,_,h⟩:=j;have c:=qd1.left (h.at 2 yR) L.length;refine qqb kI 2 h yR (λb e a w' h=>⟨rfl,_,((Ay e (ql4 (·.1) (z18 kI (h.at 2 yR)))).2 λx=>⟨a x,b x⟩).map _,h⟩) λx n g w' h=>qp9 2 h yR λh=>⟨_,_,rfl,?_⟩;have hV:=q58 kI h;refine i _ _ x.1 _ _ (by rw[A9];omega) h λw' h=>⟨Ac,rfl,zn yR ⟨⟨V++[x],rfl,by rw[An];exact h⟩,?_⟩⟩;have f:=qd1.left (h.at 2 yR) L.length;show q74 d L.length w'<q74 d L.length _;rw[f,c,A7];simp only[Ab,Ai];omega
def qdu{W:A5}{F:List Asn}{ν:Type}{vl:ν->A4}{m cap N:Nat}{L:List (Int×ν)}(k:L.length<=N):
 q7b W (Zi Zk) 65 (Zq (A0 ⟨cap,0,A3⟩)) (Row cap 79 [.map (A0 m)]::qg (Zi Zk) vl m L::F) N λl=>l.Perm (L.map (·.1)):=λB o w i h=>by
 refine F65_of (LdM.n 1 h yR yR (qg9 Tryz.underlying79 2 h yR λd w h=>⟨λvs w=>∃V:List (Int×ν),vs=[]/\St W (B (V.map (·.1))::Row cap 79 [.map (A0 m)]::qd1 (Zi Zk) vl m d L V::F) w,λ_ w=>q74 d L.length w,⟨[],rfl,h⟩,λw j=>?_⟩));clear h;obtain⟨V,_,h⟩:=j;have c:=qd1.left (h.at 2 yR) L.length;refine qqb kI 2 h yR (λb e a w' h=>⟨rfl,_,((Ay e (ql4 (·.1) (z18 kI (h.at 2 yR)))).2 λx=>⟨a x,b x⟩).map _,h⟩) λx n g w' h=>qp9 2 h yR λh=>⟨_,_,rfl,?_⟩;have hV:=q58 kI h;refine i _ _ x.1 _ _ (by rw[A9];omega) h λw' h=>⟨Ac,rfl,zn yR ⟨⟨V++[x],rfl,by rw[An];exact h⟩,?_⟩⟩;have f:=qd1.left (h.at 2 yR) L.length;show q74 d L.length w'<q74 d L.length _;rw[f,c,A7];simp only[Ab,Ai];omega
def qvt{W:A5}{F:List Asn}{ν:Type}{vl:ν->A4}{m cap N:Nat}{L:List (ByteArray×ν)}(k:L.length<=N):
 q7b W Zs 239 (Zq (A0 ⟨cap,0,A3⟩)) (Row cap 166 [.map (A0 m)]::qg Zs vl m L::F) N λl=>l.Perm (L.map (·.1)):=λB o w i h=>by
 refine F239_of (LdM.n 1 h yR yR (qg9 Tryz.underlying166 2 h yR λd w h=>⟨λvs w=>∃V:List (ByteArray×ν),vs=[]/\St W (B (V.map (·.1))::Row cap 166 [.map (A0 m)]::qd1 Zs vl m d L V::F) w,λ_ w=>q74 d L.length w,⟨[],rfl,h⟩,λw j=>?_⟩));clear h;obtain⟨V,_,h⟩:=j;have c:=qd1.left (h.at 2 yR) L.length;refine qqb kS 2 h yR (λb e a w' h=>⟨rfl,_,((Ay e (ql4 (·.1) (z18 kS (h.at 2 yR)))).2 λx=>⟨a x,b x⟩).map _,h⟩) λx n g w' h=>qp9 2 h yR λh=>⟨_,_,rfl,?_⟩;have hV:=q58 kS h;refine i _ _ x.1 _ _ (by rw[A9];omega) h λw' h=>⟨Ac,rfl,zn yR ⟨⟨V++[x],rfl,by rw[An];exact h⟩,?_⟩⟩;have f:=qd1.left (h.at 2 yR) L.length;show q74 d L.length w'<q74 d L.length _;rw[f,c,A7];simp only[Ab,Ai];omega
def qps{W:A5}{F:List Asn}{m cap N:Nat}{L:List (Int×Nat)}(k:L.length<=N):
 q7b W qc 163 (Zq (A0 ⟨cap,0,A3⟩)) (Row cap 78 [.map (A0 m)]::qg (Zi Zk) qc m L::F) N λl=>l.Perm (L.map (·.2)):=λB o w i h=>by
 refine F163_of (LdM.n 1 h yR yR (qg9 Tryz.underlying78 2 h yR λd w h=>⟨λvs w=>∃V:List (Int×Nat),vs=[]/\St W (B (V.map (·.2))::Row cap 78 [.map (A0 m)]::qd1 (Zi Zk) qc m d L V::F) w,λ_ w=>q74 d L.length w,⟨[],rfl,h⟩,λw j=>?_⟩));clear h;obtain⟨V,_,h⟩:=j;have c:=qd1.left (h.at 2 yR) L.length;refine qqb kI 2 h yR (λb e a w' h=>⟨rfl,_,((Ay e (ql4 (·.1) (z18 kI (h.at 2 yR)))).2 λx=>⟨a x,b x⟩).map _,h⟩) λx n g w' h=>qp9 2 h yR λh=>⟨_,_,rfl,?_⟩;have hV:=q58 kI h;refine i _ _ x.2 _ _ (by rw[A9];omega) h λw' h=>⟨Ac,rfl,zn yR ⟨⟨V++[x],rfl,by rw[An];exact h⟩,?_⟩⟩;have f:=qd1.left (h.at 2 yR) L.length;show q74 d L.length w'<q74 d L.length _;rw[f,c,A7];simp only[Ab,Ai];omega
section
section
variable{κ α β:Type}
def qx(f:α->β)(L:List (κ×α)):List (κ×β):=L.map λy=>(y.1,f y.2)
def qx5(f:α->β)(L:List (κ×α)):(qx f L).map (·.1)=L.map (·.1):=by simp[qx,Function.comp_def]
def q46(f:α->β)(L:List (κ×α)):(qx f L).length=L.length:=by simp[qx]
end
section
variable{κ α β:Type}[DecidableEq κ]
def q62(f:α->β)(L:List (κ×α))(k:κ):qe (qx f L) k=(qe L k).map f:=by
 induction L with
 |nil=>rfl
 |cons x r ih=>
  unfold qx at ih⊢;simp only[Ao,qe];split;.rfl
  .exact ih
def qt2(f:α->β)(L:List (κ×α))(k:κ)(v:α):qk (qx f L) k (f v)=qx f (qk L k v):=by
 induction L with
 |nil=>rfl
 |cons x r ih=>
  unfold qx at ih⊢;simp only[Ao,qk];split;.rfl
  .rw[ih];rfl
def qo7(f:α->β)(L:List (κ×α))(k:κ):qp (qx f L) k=qx f (qp L k):=by
 induction L with
 |nil=>rfl
 |cons x r ih=>
  unfold qx at ih⊢;simp only[Ao,qp];split;.rfl
  .rw[ih];rfl
def qt1{L:List (κ×α)}{k:κ}{v:α}(h:qe L k=A0 v):qk L k v=L:=by
 induction L with
 |nil=>simp[qe]at h
 |cons x r w=>
  simp only[qe]at h;simp only[qk];split at h
  .rename_i e;cases h;rw[yB e,<-e]
  .rename_i e;rw[yA e,w h]
def adel_aset(L:List (κ×α))(k:κ)(v:α):qp (qk L k v) k=qp L k:=by
 induction L with
 |nil=>simp[qk,qp]
 |cons x r h=>
  simp only[qk];split
  .rename_i e;simp only[qp,yB e,if_true]
  .rename_i e;simp only[qp,yA e,h]
def aget_perm{L:List (κ×α)}{k:κ}{v:α}(h:qe L k=A0 v):L.Perm ((k,v)::qp L k):=by
 induction L with
 |nil=>simp[qe]at h
 |cons x r w=>
  simp only[qe]at h;simp only[qp];split at h
  .rename_i e;cases h;rw[yB e,<-e]
  .rename_i e;rw[yA e];exact((w h).cons x).trans (List.Perm.swap _ _ _)
def qj1(L:List (κ×α))(k:κ)(v:α):qe (qk L k v) k=A0 v:=by rw[qh2,yB yR]
def qe7(L:List (κ×α))(k:κ)(u v:α):qk (qk L k u) k v=qk L k v:=by
 induction L with
 |nil=>simp[qk]
 |cons x r h=>
  simp only[qk];split;.rename_i e;simp[qk]
  .rename_i e;simp only[qk,yA e,h]
end
section
variable{κ δ:Type}
def qr(enc:κ->A4)(m:Nat)(A:Nat->δ->Asn)(L:List (κ×δ)):Asn:=exA λbs:List (κ×Nat×δ)=>qz [prA (qx (Dc (α:=Nat) (β:=δ)) bs=L),qg enc qc m (qx (Av (α:=Nat) (β:=δ)) bs),qz (bs.map λy=>A y.2.1 y.2.2)]
def qw(enc:κ->A4)(m:Nat)(A:Nat->δ->Asn)[DecidableEq κ](L:List (κ×δ))(k:κ)(b:Nat):Asn:=exA λbs:List (κ×Nat×δ)=>qz [prA (qx (Dc (α:=Nat) (β:=δ)) bs=L/\∃d,qe bs k=A0 (b,d)),qg enc qc m (qx (Av (α:=Nat) (β:=δ)) bs),qz ((qp bs k).map λy=>A y.2.1 y.2.2)]
variable{P:Program}{kt et mt:TypeId}{enc:κ->Value}{m b:Nat}{A:Nat->δ->Asn}{L:List (κ×δ)}{k:κ}{W w:World}{F:List Asn}
def qr.open_(h:St W (qr enc m A L::F) w):∃bs,qx (Dc (α:=Nat) (β:=δ)) bs=L/\St W (qg enc qc m (qx (Av (α:=Nat) (β:=δ)) bs)::qz (bs.map λy=>A y.2.1 y.2.2)::F) w:=by obtain⟨bs,h⟩:=h.of_ex;obtain⟨a,h⟩:=h.of_sep.of_pr;exact⟨bs,a,h⟩
def qr.shut(bs:List (κ×Nat×δ))(a:qx (Dc (α:=Nat) (β:=δ)) bs=L)(h:St W (qg enc qc m (qx (Av (α:=Nat) (β:=δ)) bs)::qz (bs.map λy=>A y.2.1 y.2.2)::F) w):St W (qr enc m A L::F) w:=
 z00 bs (zj (l:=[_,_,_]) (z01 a h))
def q6n{l r:List Asn}(a:l.Perm r)(h:St W (qz l::F) w):St W (qz r::F) w:=zj (h.of_sep.perm (a.append_right F))
def qf5{X:Asn}{l r:List Asn}(b:l.Perm (X::r))(h:St W (qz l::F) w):St W (X::qz r::F) w:=(zj (l:=r) (z0c (St.of_sep (q6n b h)) (Cc (l₁:=r) (a:=X) (l₂:=F)).symm)).p1
def q95{X:Asn}{l r:List Asn}(a:(X::r).Perm l)(h:St W (X::qz r::F) w):St W (qz l::F) w:=q6n a (zj (l:=X::r) (z0c (St.of_sep h.p1) Cc))
def qr.keys(c:qw2 P kt enc)(h:St W (qr enc m A L::F) w):(L.map (·.1)).Nodup:=by obtain⟨bs,a,b⟩:=qr.open_ h;have:=z18 c b;rw[qx5]at this;rw[<-a,qx5];exact this
end
section
variable{κ δ:Type}[DecidableEq κ]{P:Program}{kt et mt:TypeId}{enc:κ->Value}{m b:Nat}{A:Nat->δ->Asn}{L:List (κ×δ)}{k:κ}{W w:World}{F:List Asn}
def qw.open_(h:St W (qw enc m A L k b::F) w):∃bs,(qx (Dc (α:=Nat) (β:=δ)) bs=L/\∃d,qe bs k=A0 (b,d))/\St W (qg enc qc m (qx (Av (α:=Nat) (β:=δ)) bs)::qz ((qp bs k).map λy=>A y.2.1 y.2.2)::F) w:=by obtain⟨bs,h⟩:=h.of_ex;obtain⟨a,h⟩:=h.of_sep.of_pr;exact⟨bs,a,h⟩
def qw.shut(bs:List (κ×Nat×δ))(a:qx (Dc (α:=Nat) (β:=δ)) bs=L/\∃d,qe bs k=A0 (b,d))(h:St W (qg enc qc m (qx (Av (α:=Nat) (β:=δ)) bs)::qz ((qp bs k).map λy=>A y.2.1 y.2.2)::F) w):St W (qw enc m A L k b::F) w:=
 z00 bs (zj (l:=[_,_,_]) (z01 a h))
def qr.take{d:δ}(c:qe L k=A0 d)(h:St W (qr enc m A L::F) w):∃b,St W (A b d::qw enc m A L k b::F) w:=by obtain⟨bs,f,i⟩:=qr.open_ h;subst f;rw[q62]at c;obtain⟨⟨b,e⟩,a,rfl⟩:=Option.map_eq_some_iff.1 c;refine⟨b,?_⟩;have j:=qf5 ((aget_perm a).map λy:κ×Nat×δ=>A y.2.1 y.2.2) i.p1;have g:St W (qg enc qc m (qx (Av (α:=Nat) (β:=δ)) bs)::qz ((qp bs k).map λy=>A y.2.1 y.2.2)::A b e::F) w:=zf 1 2 (zf 2 0 j yR) yR;exact(qw.shut bs ⟨rfl,e,a⟩ g).p1
def qr.give{d:δ}(h:St W (A b d::qw enc m A L k b::F) w):St W (qr enc m A (qk L k d)::F) w:=by
 obtain⟨bs,⟨a,d0,f⟩,g⟩:=qw.open_ h.p1;subst a;have i:St W (A b d::qz ((qp bs k).map λy=>A y.2.1 y.2.2)::qg enc qc m (qx (Av (α:=Nat) (β:=δ)) bs)::F) w:=zf 1 0 (zf 0 2 g yR) yR;have c:=q95 (l:=(qk bs k (b,d)).map λy=>A y.2.1 y.2.2) (by have:=(aget_perm (qj1 bs k (b,d))).map λy:κ×Nat×δ=>A y.2.1 y.2.2;rw[adel_aset]at this;exact this.symm) i
 refine qr.shut (qk bs k (b,d)) (by rw[<-qt2]) ?_;have e:qx (Av (α:=Nat) (β:=δ)) (qk bs k (b,d))=qx (Av (α:=Nat) (β:=δ)) bs:=by rw[<-qt2];exact qt1 (by rw[q62,f];rfl)
 rw[e];exact c.p1
end
section
variable{κ δ:Type}[DecidableEq κ]{P:Program}{kt et mt:TypeId}{enc:κ->Value}{m b:Nat}{A:Nat->δ->Asn}{L:List (κ×δ)}{k:κ}{W w:World}{l F:List Asn}
def qr.none_i(o:qw2 P kt enc)(e:P.underlying mt=A0 (.map kt et)){h:D8}(i:P.info? et=A0 h)(c:h.zero=A0 (Zq A3)){K:A4->A5->Prop}(n:Nat)(f:St W l w)(d:nth l n=A0 (qr enc m A L))(a:qe L k=A3)(ok:Bool)
 (g:K (if ok=Ac then Zt #[Zq A3,Zb Ap]else Zq A3) w):Run P (Cr mt (.map (A0 m)) (enc k) ok) w K:=by
 obtain⟨bs,b,j⟩:=qr.open_ (f.at n d);refine qq1 o e i c 0 j yR k ok ?_;rw[<-b,q62,Option.map_eq_none_iff]at a;rw[q62,a];exact g
def qw.some_i(p:qw2 P kt enc)(f:P.underlying mt=A0 (.map kt et)){h:D8}(j:P.info? et=A0 h)(a:h.zero=A0 (Zq A3)){K:A4->A5->Prop}(n:Nat)(g:St W l w)(e:nth l n=A0 (qw enc m A L k b))(ok:Bool)
 (i:K (if ok=Ac then Zt #[qc b,Zb Ac]else qc b) w):Run P (Cr mt (.map (A0 m)) (enc k) ok) w K:=by
 obtain⟨bs,⟨q,d,c⟩,o⟩:=qw.open_ (g.at n e);refine qq1 p f j a 0 o yR k ok ?_;rw[q62,c];exact i
def qw.del_i(j:qw2 P kt enc)(e:P.underlying mt=A0 (.map kt et)){ty:Bg}{K:A4->A5->Prop}(n:Nat)(f:St W l w)(a:nth l n=A0 (qw enc m A L k b))
 (g:∀w',St W (put l n [qr enc m A (qp L k)]) w'->K (Zt #[]) w'):Run P (E2 #[mt,kt] ty #[.map (A0 m),enc k]) w K:=by
 obtain⟨bs,⟨c,d,o⟩,i⟩:=qw.open_ (f.at n a);refine qc5 j e 0 i yR k λw' h=>g w' (z06 n a (B:=[_]) (qr.shut (qp bs k) (by rw[<-c,qo7]) ?_));rw[qo7]at h;exact h
def qr.deln_i(g:qw2 P kt enc)(c:P.underlying mt=A0 (.map kt et)){ty:Bg}{K:A4->A5->Prop}(n:Nat)(d:St W l w)(a:nth l n=A0 (qr enc m A L))
 (e:∀w',St W (put l n [qr enc m A (qp L k)]) w'->K (Zt #[]) w'):Run P (E2 #[mt,kt] ty #[.map (A0 m),enc k]) w K:=by
 obtain⟨bs,b,f⟩:=qr.open_ (d.at n a);refine qc5 g c 0 f yR k λw' h=>e w' (z06 n a (B:=[_]) (qr.shut (qp bs k) (by rw[<-b,qo7]) ?_));rw[qo7]at h;have h:St W (qg enc qc m (qx (Av (α:=Nat) (β:=δ)) (qp bs k))::qz (bs.map λy=>A y.2.1 y.2.2)::del l n) w':=h;have i:=h.p1.of_sep;cases hg:qe bs k with
 |none=>rw[ql6 hg]at h⊢;exact h
 |some v=>exact((qf5 ((aget_perm hg).map λy:κ×Nat×δ=>A y.2.1 y.2.2) h.p1).drop).p1
def qr.set_i(u:qw2 P kt enc)(q:P.underlying mt=A0 (.map kt et)){K:A5->Prop}{d:δ}(i n:Nat)(r:St W l w)(t:nth l i=A0 (A b d))(f:nth (del l i) n=A0 (qr enc m A L))
 (s:∀w',St W (put (del l i) n [qr enc m A (qk L k d)]) w'->K w'):qt8 P (E3 mt (.map (A0 m)) (enc k) (qc b)) w K:=by
 have o:=r.at i t;have x:St W (qr enc m A L::(del (del l i) n++[A b d])) w:=by have j:=(zf 0 (del l i).length o yR);have c:St W (del l i++[A b d]) w:=o.last;have g:nth (del l i++[A b d]) n=A0 (qr enc m A L):=(qr4 [A b d] f).1;have a:=c.at n g;rw[(qr4 [A b d] f).2.1]at a;exact a
 obtain⟨bs,p,j⟩:=qr.open_ x;refine qh1 u q 0 j yR k b λw' h=>s w' (z06 n f (B:=[_]) ?_);have h:St W (qg enc qc m (qk (qx (Av (α:=Nat) (β:=δ)) bs) k b)::qz (bs.map λy=>A y.2.1 y.2.2)::(del (del l i) n++[A b d])) w':=h;have e:qk (qx (Av (α:=Nat) (β:=δ)) bs) k b=qx (Av (α:=Nat) (β:=δ)) (qk bs k (b,d)):=by rw[<-qt2]
 rw[e]at h;refine qr.shut (qk bs k (b,d)) (by rw[<-qt2,p]) ?_;have c:St W (qz (bs.map λy=>A y.2.1 y.2.2)::qg enc qc m (qx (Av (α:=Nat) (β:=δ)) (qk bs k (b,d)))::(del (del l i) n++[A b d])) w':=h.p1;have g:St W (qz ((qp bs k).map λy=>A y.2.1 y.2.2)::qg enc qc m (qx (Av (α:=Nat) (β:=δ)) (qk bs k (b,d)))::(del (del l i) n++[A b d])) w':=by
  cases hg:qe bs k with
  |none=>rw[ql6 hg];exact c
  |some v=>exact(qf5 ((aget_perm hg).map λy:κ×Nat×δ=>A y.2.1 y.2.2) c).drop
 have a:St W (A b d::qz ((qp bs k).map λy=>A y.2.1 y.2.2)::qg enc qc m (qx (Av (α:=Nat) (β:=δ)) (qk bs k (b,d)))::del (del l i) n) w':=z0c (l:=(qz ((qp bs k).map λy=>A y.2.1 y.2.2)::qg enc qc m (qx (Av (α:=Nat) (β:=δ)) (qk bs k (b,d)))::del (del l i) n)++[A b d]) g (B5 _ _);exact(q95 (l:=(qk bs k (b,d)).map λy=>A y.2.1 y.2.2) (by have:=(aget_perm (qj1 bs k (b,d))).map λy:κ×Nat×δ=>A y.2.1 y.2.2;rw[adel_aset]at this;exact this.symm) a).p1
end
def z0g:=@qw.some_i
def z0p:=@qr.give
def z0y:=@qr.none_i
def z15:=@qr.take
def z19:=@qr.shut
def z1d:=@qr.open_
end
section
open Go Go.MapKept
def q901(a b:ByteArray)(n:Nat)(w:A5):(Bt (n+1) 9 (Zs a) (Zs b)).run Zp w=.ok (a==b) w:=by have h:Zp.underlying 9=A0 .string:=Tryz.underlying9;unfold Bt;simp[run_underlying h,Ax]
def kkV(k:ByteArray×ByteArray):A4:=Zg #[Zs k.1,Zs k.2]
def uKK:Zp.underlying 326=A0 (.array 2 9):=Tryz.underlying326
def qt01(w:A5):(sizeOf 9).run Zp w=.ok 1 w:=by
 have h:Zp.info? 9=A0 Tryz.t9:=by kernel_rfl
 simp[sizeOf,typeInfo,h];rfl
def qpf(a b:ByteArray)(w:A5):(part 9 #[Zs a,Zs b] 0).run Zp w=.ok (Zs a) w/\(part 9 #[Zs a,Zs b] 1).run Zp w=.ok (Zs b) w:=by constructor<;>kernel_rfl
def q6x(k:ByteArray×ByteArray)(e:Bool)(w:A5):(E6 e 10000 326 (kkV k)).run Zp w=.ok () w:=by kernel_rfl
def q9h(a b:ByteArray×ByteArray)(w:A5):(Ee 326 (kkV a) (kkV b)).run Zp w=.ok (decide (a=b)) w:=by
 unfold Ee Eg Bt kkV;have d:=λa b w=>q901 a b 9998 w;simp only[Nat.reduceAdd]at d;simp[run_underlying uKK,Ax,qt01];rw[show List.range' 0 2=[0,1]from rfl];simp only[List.forIn_cons,List.forIn_nil,Sem.run_bind,Ax,(qpf _ _ _).1,(qpf _ _ _).2,d];obtain⟨f,a2⟩:=a;obtain⟨g,i⟩:=b;by_cases c:(f==g)=Ac
 .rw[c];by_cases h:(a2==i)=Ac
  .have k:=(Bp f g).1 c;have j:=(Bp a2 i).1 h;subst k j;simp[Ax,(qpf _ _ _).1,(qpf _ _ _).2,d,h]
  .have j:a2≠i:=λe=>h ((Bp a2 i).2 e);rw[Dv]at h;simp[Ax,(qpf _ _ _).1,(qpf _ _ _).2,d,h,j]
 .have k:f≠g:=λe=>c ((Bp f g).2 e);rw[Dv]at c;rw[c];simp[Ax,k]
structure q2d(P:Ce)(kt:Bg){κ:Type}(enc:κ->A4):Prop where
 inj:∀a b,enc a=enc b->a=b
 check:∀k e w,(E6 e 10000 kt (enc k)).run P w=.ok () w
 find:∀k (es:List C7) w,(∀x∈es,∃k',x.key=enc k')->((Bl kt (enc k) es).run P w=.ok A3 w/\∀x∈es,x.key≠enc k)\/∃j e,(Bl kt (enc k) es).run P w=.ok (A0 (j,e.val)) w/\es[j]?=A0 e/\e.key=enc k
 stays:∀k w,(Dn (enc k) (enc k)).run P w=.ok (enc k) w
def q2d.of{P:Ce}{kt:Bg}{κ:Type}{enc:κ->A4}(g:qw2 P kt enc):q2d P kt enc:=by
 obtain⟨d,c,a⟩:=g.kind;refine⟨g.inj,λk e w=>run_checkKey c (a k) e 9999,λk es w h=>?_,λk w=>run_keyThatStays (a k)⟩;rcases findNow_spec (a k) es 0 (λx i=>by obtain⟨m,e⟩:=h x i;rw[e];exact a m)with ⟨f,b⟩|⟨j,e,f,b,l⟩
 .exact .inl ⟨run_findKey c f,b⟩
 .exact .inr ⟨j,e,by rw[run_findKey c f,C5],b,l⟩
def q1t(k:ByteArray×ByteArray)(w:A5):∀(es:List C7) (i:Nat),(∀x∈es,∃c,x.key=kkV c)->
 ((Be 326 (kkV k) es i).run Zp w=.ok A3 w/\∀x∈es,x.key≠kkV k)\/∃j e,(Be 326 (kkV k) es i).run Zp w=.ok (A0 (i+j,e.val)) w/\es[j]?=A0 e/\e.key=kkV k
 |[],i,_=>.inl ⟨rfl,by simp⟩
 |x::r,i,h=>by
  obtain⟨c,a⟩:=h x (.head _);by_cases e:k=c
  .refine .inr ⟨0,x,?_,rfl,by rw[a,e]⟩;simp[Be,a,q9h,Ax,e]
  .have f:x.key≠kkV k:=λq=>e (by rw[a]at q;unfold kkV at q;cases k;cases c;simp at q;simp[q.1,q.2]);rcases q1t k w r (i+1) (λy b=>h y (.tail _ b))with ⟨g,d⟩|⟨j,y,g,d,l⟩
   .refine .inl ⟨?_,λy b=>?_⟩;.simp[Be,a,q9h,Ax,e,g]
    .cases b with
     |head=>exact f
     |tail _ b=>exact d y b
   .refine .inr ⟨j+1,y,?_,by simpa using d,l⟩;simp[Be,a,q9h,Ax,e,g];omega
def kKK:q2d Zp 326 kkV:=by
 refine⟨λa b h=>?_,q6x,λk es w h=>?_,λk w=>?_⟩;.unfold kkV at h;cases a;cases b;simp at h;simp[h.1,h.2]
 .cases es with
  |nil=>refine .inl ⟨?_,by simp⟩;simp[Bl,run_underlying uKK,Ax,Dh]
  |cons x r=>
   have i:Dh (.array 2 9) (kkV k) (x::r) 0=A3:=by obtain⟨l,d⟩:=h x (.head _);simp[Dh,Instr.sameNow,d,kkV]
   have f:(Bl 326 (kkV k) (x::r)).run Zp w=(Be 326 (kkV k) (x::r)).run Zp w:=by simp[Bl,run_underlying uKK,Ax,i]
   rw[f];rcases q1t k w (x::r) 0 h with c|⟨j,e,c,g⟩;.exact .inl c
   .exact .inr ⟨j,e,by rw[c,C5],g⟩
 .have c:∀a:ByteArray,(a==a)=Ac:=λa=>(Bp a a).2 yR;simp[Dn,kkV,Instr.sameBits,c]
section
variable{κ ν:Type}{P:Program}{kt et mt:TypeId}{enc:κ->Value}{vl:ν->Value}{W w:World}{l:List Asn}{m:Nat}{L:List (κ×ν)}
def qip(d:q2d P kt enc){es:Array C7}{clock:Nat}(c:Stamped es clock)(h:es.toList.map (λe=>(e.key,e.val))=qk3 enc vl L):(L.map (·.1)).Nodup:=by have:=c.2.2;rw[qdb h]at this;exact List.Pairwise.of_map enc (λa b w e=>w (yE enc e)) this
def qs6(enc:κ->A4)(vl:ν->A4)(m:Nat)(L:List (κ×ν))(k:κ)(t:Nat):Asn:=exA λx:Array C7×Nat=>qz [
 prA ((Stamped x.1 x.2/\x.1.toList.map (λe=>(e.key,e.val))=qk3 enc vl L)/\∃(j:Nat) (e:C7),x.1.toList[j]?=A0 e/\e.key=enc k/\e.born=t),Pt m (.map x.1 x.2)]
def qs6.weak{h:Hp}{k:κ}{t:Nat}(d:qs6 enc vl m L k t h):qg enc vl m L h:=by obtain⟨x,a,c,⟨w,_⟩,b⟩:=d;exact⟨x,a,c,w,b⟩
def qs6.shut{F:List Asn}{k:κ}{t j clock:Nat}{es:Array C7}{e:C7}(f:Stamped es clock)(a:es.toList.map (λe=>(e.key,e.val))=qk3 enc vl L)(c:es.toList[j]?=A0 e)(d:e.key=enc k)(b:e.born=t)(h:St W (Pt m (.map es clock)::F) w):St W (qs6 enc vl m L k t::F) w:=
 z00 (es,clock) (zj (l:=[_,_]) (z01 ⟨⟨f,a⟩,j,e,c,d,b⟩ h))
def qs6.open_{F:List Asn}{k:κ}{t:Nat}(h:St W (qs6 enc vl m L k t::F) w):∃es clock,(Stamped es clock/\es.toList.map (λe=>(e.key,e.val))=qk3 enc vl L)/\(∃(j:Nat) (e:C7),es.toList[j]?=A0 e/\e.key=enc k/\e.born=t)/\St W (Pt m (.map es clock)::F) w:=by obtain⟨⟨es,clock⟩,h⟩:=h.of_ex;obtain⟨⟨b,a⟩,h⟩:=h.of_sep.of_pr;exact⟨es,clock,b,a,h⟩
end
section
variable{κ ν:Type}[DecidableEq κ]{P:Program}{kt et mt:TypeId}{enc:κ->Value}{vl:ν->Value}{W w:World}{l:List Asn}{m:Nat}{L:List (κ×ν)}
def qyt(d:q2d P kt enc){es:Array C7}{clock:Nat}(r:Stamped es clock)(h:es.toList.map (λe=>(e.key,e.val))=qk3 enc vl L)(k:κ)(w:A5):
 (qe L k=A3/\(Bl kt (enc k) es.toList).run P w=.ok A3 w/\∀x∈es.toList,x.key≠enc k)\/∃(j:Nat) (e:C7) (v:ν),qe L k=A0 v/\(Bl kt (enc k) es.toList).run P w=.ok (A0 (j,vl v)) w/\es.toList[j]?=A0 e/\L[j]?=A0 (k,v)/\e.key=enc k/\e.val=vl v:=by
 rcases d.find k es.toList w (λx b=>by obtain⟨j,o⟩:=Az b;obtain⟨c,i,_,e,_⟩:=qeb h o;exact⟨c,e⟩)with ⟨f,a⟩|⟨j,e,f,a,l⟩
 .refine .inl ⟨qm8.2 λx b e=>?_,f,a⟩;have:enc x.1∈es.toList.map (·.key):=by rw[qdb h];exact B2.2 ⟨_,B2.2 ⟨x,b,rfl⟩,rfl⟩
  obtain⟨y,p,g⟩:=B2.1 this;exact a y p (by rw[g,e])
 .obtain⟨c,i,m,q,n⟩:=qeb h a;have:c=k:=d.inj _ _ (q.symm.trans l);subst this;exact .inr ⟨j,e,i,q0p (qip d r h) m,by rw[f,n],a,m,l,n⟩
def q6e(d:q2d P kt enc)(g:P.underlying mt=A0 (.map kt et)){z:A4}{h:D8}(s:P.info? et=A0 h)(o:h.zero=A0 z){F:A4->A5->Prop}(n:Nat)(q:St W l w)(p:nth l n=A0 (qg enc vl m L))(k:κ)(ok:Bool)
 (r:F (if ok=Ac then Zt #[((qe L k).map vl).getD z,Zb (qe L k).isSome]else((qe L k).map vl).getD z) w):Run P (Cr mt (.map (A0 m)) (enc k) ok) w F:=by
 obtain⟨es,clock,t,i,a⟩:=z1c (q.at n p);have f:=(a.turn (o':=.map #[] 0)).1;refine⟨_,w,?_,r⟩;rcases qyt d t i k w with ⟨b,c,_⟩|⟨j,e,v,b,c,_⟩
 .simp[Cr,run_underlying g,B3 f,d.check,c,b,zeroValue,typeInfo,s,o]
 .simp[Cr,run_underlying g,B3 f,d.check,c,b]
def qve(f:q2d P kt enc)(C:P.underlying mt=A0 (.map kt et)){z:ν}{d:D8}(E:P.info? et=A0 d)(F:d.zero=A0 (vl z)){K:A4->A5->Prop}(n:Nat)(G:St W l w)(p:nth l n=A0 (qg enc vl m L))(k:κ)
 (D:∀(t:Nat) w',St W (put l n [qs6 enc vl m (qk L k ((qe L k).getD z)) k t]) w'->K (Zt #[vl ((qe L k).getD z),Zi Zk (t:Int)]) w'):Run P (Dd mt (.map (A0 m)) (enc k)) w K:=by
 obtain⟨es,clock,q,u,h⟩:=z1c (G.at n p);have g:=(h.turn (o':=.map #[] 0)).1;rcases qyt f q u k w with ⟨a,y,s⟩|⟨j,e,v,a,y,s,I,A,H⟩
 .have x:Stamped (es.push { key:=enc k,val:=vl z,born:=clock}) (clock+1):=stamped_push q s;have r:(es.push { key:=enc k,val:=vl z,born:=clock}).toList.map (λe=>(e.key,e.val))=qk3 enc vl (qk L k z):=by rw[qbc a];simp[qk3,u]
  refine⟨_,_,?_,D clock { w with heap:=w.heap.setIfInBounds m (.map (es.push { key:=enc k,val:=vl z,born:=clock}) (clock+1))} (z06 n p (B:=[_]) (qs6.shut (j:=es.size) (e:={ key:=enc k,val:=vl z,born:=clock}) x ?_ (by simp) yR yR h.turn.2))⟩;.simp[Dd,run_underlying C,B3 g,f.check,y,a,zeroValue,typeInfo,E,F,run_setObj_map _ g,goInt]
  .rw[a];exact r
 .have o:es[j]?=A0 e:=by simpa using s
  have x:Stamped (es.modify j λe=>{ e with key:=enc k}) clock:=stamped_modify q _ _ (λ_ _=>rfl) (λe' _ c=>by rw[o]at c;cases c;exact A.symm);have r:(es.modify j λe=>{ e with key:=enc k}).toList.map (λe=>(e.key,e.val))=qk3 enc vl (qk L k v):=by
   rw[qt1 a,<-u];refine Ba λi=>?_;simp only[A8,Bo,Ca];by_cases b:j=i;.subst b;simp[o,A]
   .simp[b]
  refine⟨_,_,?_,D e.born { w with heap:=w.heap.setIfInBounds m (.map (es.modify j λe=>{ e with key:=enc k}) clock)} (z06 n p (B:=[_]) (qs6.shut (j:=j) (e:={ e with key:=enc k}) x ?_ (by simp[Ca,o]) yR yR h.turn.2))⟩;.simp[Dd,run_underlying C,B3 g,f.check,y,a,o,A,f.stays,run_setObj_map _ g,goInt]
  .rw[a];exact r
def qvb(x:q2d P kt enc){K:A5->Prop}{k:κ}{t:Nat}{u:ν}(N:qe L k=A0 u)(v:ν)(n:Nat)(H:St W l w)(s:nth l n=A0 (qs6 enc vl m L k t))
 (I:∀w',St W (put l n [qg enc vl m (qk L k v)]) w'->K w'):qt8 P (Dw mt (.map (A0 m)) (Zi Zk (t:Int)) (vl v)) w K:=by
 obtain⟨es,clock,⟨o,p⟩,⟨j,e,g,A,r⟩,b⟩:=qs6.open_ (H.at n s);have z:=(b.turn (o':=.map #[] 0)).1;have C:es[j]?=A0 e:=by simpa using g
 obtain⟨J,Q,y,E,M⟩:=qeb p g;have:J=k:=x.inj _ _ (E.symm.trans A);subst this;have F:es.findIdx? (λe=>(e.born:Int)==(t:Int))=A0 j:=by
  obtain⟨a,G⟩:=Array.getElem?_eq_some_iff.1 C;rw[Array.findIdx?_eq_some_iff_getElem];refine⟨a,by rw[G,r];simp,λi O f=>?_⟩;have q:=((stamped_iff es clock).1 o).2.1;have h:i<es.size:=by omega
  have f:(es[i]'h).born=t:=Int.ofNat.inj (eq_of_beq f);have D:(es.toList.map (·.born))[i]?=A0 t:=by rw[A8,Bo,Array.getElem?_eq_getElem h,E4,f]
  have a2:(es.toList.map (·.born))[j]?=A0 t:=by rw[A8,g];simp[r]
  have:=(List.getElem?_inj (i:=i) (j:=j) (by simpa using h) q).1 (D.trans a2.symm);omega
 refine⟨{ w with heap:=w.heap.setIfInBounds m (.map (es.modify j λe=>{ e with val:=vl v}) clock)},?_,I _ (z06 n s (B:=[_]) (qg.shut (es:=es.modify j λe=>{ e with val:=vl v}) (stamped_modify o _ _ (λ_ _=>rfl) (λ_ _ _=>rfl)) ?_ b.turn.2))⟩;.simp[Dw,B3 z,asInt,asIntOf,F,run_setObj_map _ z]
 .rw[qep (qip x o p) y];refine Ba λi=>?_;have d:=yE (λl:List (A4×A4)=>l[i]?) p;simp only[qk3,A8,Bo]at d;simp only[qk3,A8,Bo,Ca,Do];by_cases c:j=i
  .subst c;have a:j<L.length:=(Af.1 y).1;simp[C,a,A]
  .simp[c,d]
end
end
def sel(n:Nat)(h:List Nat)(l:List Asn):List Asn:=h.map (λi=>(nth l i).getD (prA True))++l.drop n
def qjx(n:Nat)(h:List Nat):Bool:=decide h.Nodup&&h.all λi=>Nat.blt i n
def nth_eq:∀(l:List Asn) (i:Nat),nth l i=l[i]?
 |[],_=>rfl
 |_::_,0=>rfl
 |_::r,i+1=>nth_eq r i
def St.sel{W w:A5}{l:List Asn}(n:Nat)(d:List Nat)(h:St W l w)(o:(Nat.ble n l.length&&qjx n d)=Ac):St W (Go.Proofs.YtfjifcfbmhpcaaaGreatDoor.sel n d l) w:=by
 rw[Cd]at o;obtain⟨q,j⟩:=o;have q:=C9 q;unfold qjx at j;rw[Cd]at j;obtain⟨g,f⟩:=j;have g:=yC g;have f:∀i∈d,i<n:=λi c=>C9 (Du.1 f i c);have e:l.take n=(Bq n).map λi=>(nth l i).getD (prA True):=by
  refine Ba λi=>?_;rw[List.getElem?_take,A8];by_cases c:i<n
  .rw[yB c,Bc c,E4,nth_eq,A6 (by omega)];rfl
  .rw[yA c,Ag (by simp;omega)];rfl
 have s:(Bq n).Perm (d++(Bq n).filter λi=>decide (i∉d)):=by
  refine(Ay Dx ?_).2 λi=>?_
  .refine Dr.2 ⟨g,Dx.filter _,λa u b t=>?_⟩;rintro rfl;have:=(Cm.1 t).2;simp[u]at this
  .simp only[List.mem_range,Cl,Cm,yJ];constructor
   .intro c;by_cases m:i∈d;.exact .inl m
    .exact .inr ⟨c,m⟩
   .rintro(c|c);.exact f i c
    .exact c.1
 have p:St W (((d++(Bq n).filter λi=>decide (i∉d)).map λi=>(nth l i).getD (prA True))++l.drop n) w:=by refine z0c h ?_;have:=(s.map λi=>(nth l i).getD (prA True)).append_right (l.drop n);rw[<-e,D5]at this;exact this
 rw[An]at p;have v:St W (((Bq n).filter λi=>decide (i∉d)).map (λi=>(nth l i).getD (prA True))++(d.map (λi=>(nth l i).getD (prA True))++l.drop n)) w:=by refine z0c p ?_;rw[<-B0];exact Bn.append_right _
 have k:∀(a b:List Asn),St W (a++b) w->St W b w:=λa=>by
  induction a with
  |nil=>exact λb h=>h
  |cons x r ih=>exact λb h=>ih b h.drop
 exact k _ _ v
def qs5.f{κ ν:Type}{W w:A5}{l:List Asn}{F:Nat->A5->Prop}(enc:κ->A4)(vl:ν->A4)(c:St W l w)(a:∀b w',St W (qg enc vl b ([]:List (κ×ν))::l) w'->F b w'):qs5 w F:=
 qs5.n enc vl c λb w h=>a b w (h.perm (B5 _ _))
def St.dropR{W w:A5}{l r:List Asn}(h:St W (l++r) w):St W l w:=by
 have c:∀(a b:List Asn),St W (a++b) w->St W b w:=λa=>by
  induction a with
  |nil=>exact λb h=>h
  |cons x r ih=>exact λb h=>ih b h.drop
 exact c r l (h.perm Bn)
def qr.setH_i{κ δ:Type}[DecidableEq κ]{P:Ce}{j r mt:Bg}{enc:κ->A4}{m b:Nat}{A:Nat->δ->Asn}{L:List (κ×δ)}{k:κ}{W w:A5}{l:List Asn}(x:qw2 P j enc)(s:P.underlying mt=A0 (.map j r)){K:A5->Prop}{d:δ}(n:Nat)(t:St W (A b d::l) w)(c:nth l n=A0 (qr enc m A L))
 (u:∀w',St W (A b d::put l n [qw enc m A (qk L k d) k b]) w'->K w'):qt8 P (E3 mt (.map (A0 m)) (enc k) (qc b)) w K:=by
 have z:St W (qr enc m A L::(del l n++[A b d])) w:=by have f:St W (l++[A b d]) w:=t.last;have g:nth (l++[A b d]) n=A0 (qr enc m A L):=(qr4 [A b d] c).1;have a:=f.at n g;rw[(qr4 [A b d] c).2.1]at a;exact a
 obtain⟨bs,p,q⟩:=z1d z;refine qh1 x s 0 q yR k b λw' h=>u w' ?_;have h:St W (qg enc qc m (qk (qx (Av (α:=Nat) (β:=δ)) bs) k b)::qz (bs.map λy=>A y.2.1 y.2.2)::(del l n++[A b d])) w':=h;have e:qk (qx (Av (α:=Nat) (β:=δ)) bs) k b=qx (Av (α:=Nat) (β:=δ)) (qk bs k (b,d)):=by rw[<-qt2]
 rw[e]at h;have f:St W (qz (bs.map λy=>A y.2.1 y.2.2)::qg enc qc m (qx (Av (α:=Nat) (β:=δ)) (qk bs k (b,d)))::(del l n++[A b d])) w':=h.p1;have g:St W (qz ((qp bs k).map λy=>A y.2.1 y.2.2)::qg enc qc m (qx (Av (α:=Nat) (β:=δ)) (qk bs k (b,d)))::(del l n++[A b d])) w':=by
  cases hg:qe bs k with
  |none=>rw[ql6 hg];exact f
  |some v=>exact((qf5 ((aget_perm hg).map λy:κ×Nat×δ=>A y.2.1 y.2.2) f).drop)
 rw[<-adel_aset bs k (b,d)]at g;have a:St W (qw enc m A (qk L k d) k b::(del l n++[A b d])) w':=qw.shut (qk bs k (b,d)) ⟨by rw[<-qt2,p],d,qj1 _ _ _⟩ g.p1;have C:St W (A b d::(qw enc m A (qk L k d) k b::del l n)) w':=z0c (l:=(qw enc m A (qk L k d) k b::del l n)++[A b d]) a (B5 _ _);have D:St W (qw enc m A (qk L k d) k b::(del l n++[A b d])) w':=a;have i:nth (l++[A b d]) n=A0 (qr enc m A L):=(qr4 [A b d] c).1;have o:=z06 n i (B:=[qw enc m A (qk L k d) k b]) (by rw[(qr4 [A b d] c).2.1];exact a);rw[(qr4 [A b d] c).2.2]at o;exact z0c (l:=put l n [qw enc m A (qk L k d) k b]++[A b d]) o (B5 _ _)
def zl:=@St.sel
end Go.Proofs.YtfjifcfbmhpcaaaGreatDoor
