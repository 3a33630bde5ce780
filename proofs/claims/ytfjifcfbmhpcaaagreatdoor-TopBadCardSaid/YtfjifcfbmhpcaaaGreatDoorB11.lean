/-
  A part of the proof of TopBad.
-/
import Derived.Test.YtfjifcfbmhpcaaaGreatDoorB10
import Derived.Test.YtfjifcfbmhpcaaaGreatDoorB08
import Derived.Lib.ItoaLen
import Derived.Shelf.SlGeneric
import Derived.Shelf.SlSortCmp.WholeK
import Derived.Shelf.SlSortCmp.Whole1
import Derived.Shelf.SlSortCmp.NoneTotal
import Derived.Ground.SlsfProg
import Derived.Test.YtfjifcfbmhpcaaaGreatDoorProg
import Derived.Test.YtfjifcfbmhpcaaaGreatDoorB03
import Derived.Test.YtfjifcfbmhpcaaaGreatDoorB07
import Derived.BigCall
import Derived.Test.YtfjifcfbmhpcaaaGreatDoorB02
import Derived.Test.YtfjifcfbmhpcaaaGreatDoorB00
set_option linter.all false
namespace Go.Proofs.YtfjifcfbmhpcaaaGreatDoor
open Go
open Go.Proofs.Tryz renaming prog → Zp
open Go.IntKind renaming i64 → Zk, wrap → Zw
open Go.Addr renaming add → Za
open Go.Value renaming int → Zi, string → Zs, pointer → Zq, bool → Zb, tuple → Zt, slice → Zl, agg → Zg
open _root_.Option renaming some->A0,none->A2,map_some->Be,getD_some->Ci
open _root_.List renaming getElem?_eq_some_iff->A1,getElem?_eq_getElem->A4,mem_cons->A5,mem_map->A6,length_cons->A9,map_append->Aa,getElem?_set->Ac,map_cons->Ad,filter_eq_self->Af,length_map->Ag,mem_cons_of_mem->Ah,filter_append->Ai,length_nil->Aj,append_assoc->Ak,length_filter_le->Am,perm_append_comm->An,length_append->Ap,mem_cons_self->Aq,eq_nil_of_length_eq_zero->As,getElem?_map->Au,nodup_cons->Av,perm_middle->Aw,getElem?_append_right->Ax,getElem?_append_left->Ay,pairwise_cons->B1,flatMap_cons->B2,mem_of_getElem?->B5,length_eraseIdx_of_lt->B7,not_mem_nil->B9,filter_sublist->Bb,take_left'->Bf,filter_congr->Bg,length_set->Bl,map_map->Bn,flatMap->Bo,filter_filter->Bp,mem_singleton->Bq,take_add_one->Bt,filter_cons->Bw,length_take->Bx,cons_append->By,map_set->C0,take_of_length_le->C1,filter_eq_nil_iff->C2,mem_filter->C3,mem_append->C5,set_getElem_self->C6,length->C7,getElem?_of_mem->C8,flatMap_append->C9,getElem?_take->Cc,size_toArray->Cd,nodup_append->Cf,take_length->Cg,length_drop->Ch,isEmpty_iff->Cj,filter_map->Cm,append_nil->Co,take_take->Cs,sum_cons->Cu,map->Cz,filter->D0
open _root_.Bool renaming false->A3,true->A8,and_false->B6,and_true->Bc,not_eq_true->Bh,eq_iff_iff->Bj,not_false->Bs,not_eq_true'->Bu,or_false->Ca,false_and->Cq,and_comm->Ct,or_true->Cx
open Go renaming World->A7,Value->Ab,Addr->Az,TypeId->Cw
open _root_.Int renaming toNat->Ae,toNat_natCast->B3
open Go.Lib renaming compareInt->Ao
open _root_.Nat renaming le_trans->Ar,zero_add->Ba,le_refl->Bi,mul_le_mul_left->Bm,eq_zero_or_pos->Br,sub_zero->Bz,min_eq_left->C4,lt_of_le_of_lt->Cb,lt_or_ge->Ce,zero_le->Cl,strongRecOn->Cp,add_zero->Cv,mul_one->Cy
open _root_.Prod.mk renaming injEq->B0
open _root_.Prod renaming fst->B4
open _root_.Option.some renaming inj->Bd,injEq->D1
open Go.Builtin renaming zeroCells->Bv,clear_->Cr
section
def q64(so:LeD->Bool)(df:LeD->LeD)(s:LeL×List LeD)(n:ByteArray):LeL×List LeD:=match qe s.1 n with
 |none=>s
 |some d=>if so d=A8 then(qk s.1 n (df d),s.2++[d])else s
def qk4(so:LeD->Bool)(df:LeD->LeD)(L:LeL):LeL×List LeD:=(q91 leS (L.map (·.1))).foldl (q64 so df) (L,[])
def qhw(d:LeD):(leV d).length=6:=rfl
def leVn(d:LeD):∀v∈leV d,qn1 v:=λv h=>by simp only[leV,A5,B9,yK]at h;rcases h with rfl|rfl|rfl|rfl|rfl|rfl<;>trivial
def uLs:Zp.underlying 52=A0 (.slice 55):=Tryz.underlying52
def iLe:Zp.info? 55=A0 Tryz.t55:=by kernel_rfl
def sLe:Tryz.t55.size=6:=rfl
def bLe:Tryz.t55.bytes<=1000:=by decide+kernel
def zLe:∃z,Tryz.t55.zero=A0 z/\z.cells.size=6:=⟨_,rfl,rfl⟩
def qwy(so:LeD->Bool)(df:LeD->LeD)(s:LeL×List LeD)(n:ByteArray):(q64 so df s n).1.map (·.1)=s.1.map (·.1):=by
 unfold q64;split;.rfl
 .rename_i d h;split;.rw[qha,yA (by rw[h];simp)]
  .rfl
section
variable{W w:World}{F:List Asn}{b m:Nat}{B:qi3}{name:ByteArray}{now:Int}
def qef{H E:Ab}(so:LeD->Bool)(df:LeD->LeD)(hl:B.L.length<=64)
 (X:∀(d:LeD) (q:Nat) (L C M:Asn) (w:A7) (K:Ab->A7->Prop),St W (qu q d::Row b 168 (bkV B m)::L::C::M::F) w->(∀w',St W (qu q d::Row b 168 (bkV B m)::L::C::M::F) w'->K (Zb (so d)) w')->q01 Zp 4 H [qc q] w K)
 (Z:∀(d:LeD) (q:Nat) (L C M:Asn) (w:A7) (K:Ab->A7->Prop),St W (qu q d::Row b 168 (bkV B m)::L::C::M::F) w->(∀w',St W (qu q (df d)::Row b 168 (bkV B m)::L::C::M::F) w'->K (Zt #[]) w')->q01 Zp 0 E [qc q] w K)
 (f:St W (Row b 168 (bkV B m)::qr Zs m qu B.L::F) w):qb Zp 89 #[qc b,H,E] w λv w'=>∃p c,v=Zl p (qk4 so df B.L).2.length c/\(qk4 so df B.L).2.length<=64/\(qk4 so df B.L).1.map (·.1)=B.L.map (·.1)/\St W (SlA 55 6 leV p c (qk4 so df B.L).2::Row b 168 (bkV B m)::qr Zs m qu (qk4 so df B.L).1::F) w':=by
 refine F89_of (z7 (zv 0 f yR yR ?_));obtain⟨bs,P,h0⟩:=z1d (zf 1 0 f yR);have o:(qx (B4 (α:=Nat) (β:=LeD)) bs).length=B.L.length:=by rw[q46,<-P,q46]
 have G:(qx (B4 (α:=Nat) (β:=LeD)) bs).map (·.1)=B.L.map (·.1):=by rw[qx5,<-P,qx5]
 refine q6y (vl:=qc) (by rw[o];omega) 0 h0 yR λp c w f=>⟨_,_,_,rfl,?_⟩;rw[o,G]at f;rw[o];unfold qk4;have h3:(q91 leS (B.L.map (·.1))).length=B.L.length:=by rw[(qv1 leS _).length_eq,Ag]
 have s:∀n∈q91 leS (B.L.map (·.1)),n∈B.L.map (·.1):=λn Q=>(qv1 leS _).mem_iff.1 Q;generalize q91 leS (B.L.map (·.1))=g at f h3 s⊢;have f:St W (Row b 168 (bkV B m)::qr Zs m qu B.L::SlA 55 6 leV A2 0 []::qi 9 1 p B.L.length c (g.map Zs)::F) w:=by have O:St W (qr Zs m qu B.L::qi 9 1 p B.L.length c (g.map Zs)::Row b 168 (bkV B m)::F) w:=z19 bs P (zf 0 2 f yR);exact zf 0 2 (z09 (zf 2 0 O yR |> λh=>h)) yR |> λh=>zf 1 1 h yR
 have key:∀(n:ByteArray) (j:LeL),n∈g->j.map (·.1)=B.L.map (·.1)->∃d,qe j n=A0 d:=λn j Q hk=>by
  cases h:qe j n with
  |some d=>exact⟨d,rfl⟩
  |none=>have O:=s n Q;rw[<-hk]at O;obtain⟨x,y,e⟩:=A6.1 O;exact yI e (qm8.1 h x y)
 refine⟨λvs w=>∃(k:Nat) (u:Option Az) (t:Nat) (j:LeL) (out:List LeD),vs=[Zl u out.length t,Zi Zk (k:Int)]/\k<=g.length/\(g.take k).foldl (q64 so df) (B.L,[])=(j,out)/\j.map (·.1)=B.L.map (·.1)/\out.length<=k/\St W (Row b 168 (bkV B m)::qr Zs m qu j::SlA 55 6 leV u t out::qi 9 1 p B.L.length c (g.map Zs)::F) w,
  λvs _=>match vs with|[_,.int _ x]=>(g.length - x).toNat|_=>0,⟨0,A2,0,B.L,[],rfl,by omega,rfl,rfl,by simp,f⟩,λD ln J x w hI=>?_⟩
 obtain⟨k,u,t,j,out,he,hk,U,l,ho,f⟩:=hI;cases he;refine za (λr=>?_) λh2=>?_
 .have r:k<g.length:=by have:=yC r;omega
  have y:g[k]?=A0 (g[k]'r):=A4 _;generalize g[k]'r=n at y;obtain⟨d,I⟩:=key n j (B5 y) l;have N:(g.take (k+1)).foldl (q64 so df) (B.L,[])=q64 so df (j,out) n:=by rw[Bt,y,Option.toList_some,List.foldl_append,U];rfl
  have e1:Zw Zk ((k:Int)+1)=((k+1:Nat):Int):=by rw[w64];omega
  have V:Rd (Row b 168 (bkV B m)::qr Zs m qu j::SlA 55 6 leV D J out::qi 9 1 p B.L.length c (g.map Zs)::F) p (g.map Zs):=(((z0k F).cons _).cons _).cons _;refine z0l V f yR (by omega) (v:=Zs n) (by rw[Au,y];rfl) λa ha=>z0i ha (z7 (zv 0 f yR yR ?_));obtain⟨q,f⟩:=z15 I (zf 1 0 f yR);refine z0g kS uMl iPl zPl 1 f yR A3 ⟨_,rfl,?_⟩;have f:St W (qu q d::Row b 168 (bkV B m)::qw Zs m qu j n q::SlA 55 6 leV D J out::qi 9 1 p B.L.length c (g.map Zs)::F) w:=zf 1 2 f yR;have back:∀(R:LeD) (u:Option Az) (t:Nat) (out:List LeD) (w:A7),St W (qu q R::Row b 168 (bkV B m)::qw Zs m qu j n q::SlA 55 6 leV u t out::qi 9 1 p B.L.length c (g.map Zs)::F) w->St W (Row b 168 (bkV B m)::qr Zs m qu (qk j n R)::SlA 55 6 leV u t out::qi 9 1 p B.L.length c (g.map Zs)::F) w:=λR u t out w h=>(z0p (A:=qu) (zf 2 1 h yR)).p1;refine X d q _ _ _ w _ f λw f=>⟨_,rfl,za (λT=>z7 ?_) λT=>?_⟩
  .have f:St W (Row q 55 (leV d)::Row b 168 (bkV B m)::qw Zs m qu j n q::SlA 55 6 leV D J out::qi 9 1 p B.L.length c (g.map Zs)::F) w:=f;refine zg 0 f yR yR (zg 0 f yR yR (z8 0 f yR yR (z8 0 f yR yR (z8 0 f yR yR (zx 0 f yR yR (?_))))));refine zh f λb34 w f=>?_;obtain⟨z,hz,Y⟩:=zLe;refine qf3 (os:=out) (xs:=[d]) qhw uLs (.inr ⟨_,uLs⟩) iLe sLe hz Y 4 f yR (z0t 0 λi v h=>by simpa [leV]using h) yR leVn (by have:=bLe;simp only[A9,Aj];exact Ar (Bm _ this) (by omega)) (by simp;omega) λp3 c3 w f=>⟨_,_,_,rfl,?_⟩;have f:St W (qu q d::Row b 168 (bkV B m)::qw Zs m qu j n q::SlA 55 6 leV p3 c3 (out++[d])::qi 9 1 p B.L.length c (g.map Zs)::F) w:=f.drop;refine Z d q _ _ _ w _ f λw f=>⟨rfl,?_⟩;rw[e1];refine⟨⟨k+1,p3,c3,qk j n (df d),out++[d],rfl,by omega,?_,?_,by simp;omega,back _ _ _ _ _ f⟩,?_⟩
   .rw[N];unfold q64;rw[I];dsimp only;rw[yB T]
   .rw[qha,yA (by rw[I];simp),l]
   .show(g.length -((k+1:Nat):Int)).toNat<(g.length -(k:Int)).toNat;omega
  .rw[e1];refine⟨⟨k+1,D,J,j,out,rfl,by omega,?_,l,by omega,?_⟩,?_⟩
   .rw[N];unfold q64;rw[I];dsimp only;rw[yA (by rw[T];simp)]
   .have:=back _ _ _ _ _ f;rw[qt1 I]at this;exact this
   .show(g.length -((k+1:Nat):Int)).toNat<(g.length -(k:Int)).toNat;omega
 .have h4:k=g.length:=by have:=yD h2;omega
  subst h4;rw[Cg]at U;rw[U];exact⟨D,J,rfl,by dsimp only;omega,l,zl 4 [2,0,1] f yR⟩
def All_spec(a:St W (q41 b B::F) w):qb Zp 48 #[qc b] w λv w'=>∃p c,v=Zl p (qk4 (λ_=>A8) (λd=>d) B.L).2.length c/\(qk4 (λ_=>A8) (λd=>d) B.L).2.length<=64/\St W (SlA 55 6 leV p c (qk4 (λ_=>A8) (λd=>d) B.L).2::q41 b { B with L:=(qk4 (λ_=>A8) (λd=>d) B.L).1}::F) w':=by
 obtain⟨m,r,a⟩:=z13 a;refine F48_of ((qef (λ_=>A8) (λd=>d) r (λd q n j o w K a i=>?_) (λd q n j o w K a i=>?_) a).of λv w ⟨p,c,k,e,l,a⟩=>⟨_,_,_,k,p,c,rfl,e,?_⟩)
 .have f:qb Zp 90 #[qc q] w K:=F90_of (i w a);exact zw (by kernel_rfl) f
 .have f:qb Zp 91 #[qc q] w K:=F91_of (i w a);exact zw (by kernel_rfl) f
 .have g:=yE C7 l;rw[Ag,Ag]at g;exact(z0v (B:={ B with L:=(qk4 (λ_=>A8) (λd=>d) B.L).1}) m (by dsimp only;omega) (zf 0 2 a yR) |> λh=>St.p1 h)
def qid(conn now:Int)(d:LeD):Bool:=(d.conn==conn)&&(d.held&&decide (now<d.til))
def qe5(B:qi3)(conn now:Int):qi3×List LeD:=if q79 now=A3 then(B,[])else({ B with L:=(qk4 (qid conn now) (λd=>q78 d (Zw Zk (now+B.grace))) B.L).1},(qk4 (qid conn now) (λd=>q78 d (Zw Zk (now+B.grace))) B.L).2)
def q3q{conn:Int}(a:St W (q41 b B::F) w):qb Zp 146 #[qc b,Zi Zk conn,Zi Zk now] w λv w'=>∃p c,v=Zl p (qe5 B conn now).2.length c/\(qe5 B conn now).2.length<=64/\St W (SlA 55 6 leV p c (qe5 B conn now).2::q41 b (qe5 B conn now).1::F) w':=by
 unfold qe5;refine F146_of (zh a λj w a=>zh a λk w a=>zh a λi w a=>z12 0 a yR yR ((q57 now a).of λv w ⟨o,a⟩=>⟨_,o,za (λh=>?_) λh=>?_⟩))
 .rw[yB (by simpa using h)];exact⟨A2,0,rfl,by simp,z09 (zl 4 [3] a yR)⟩
 rw[yA (by simpa using h)];have a:St W (q41 b B::Row i 2 [Zi Zk now]::Row k 3 [Zi Zk conn]::Row j 94 [qc b]::F) w:=zf 3 0 a yR;obtain⟨m,x,a⟩:=z13 a;refine LdP.n 4 a yR yR ((qef (qid conn now) (λd=>q78 d (Zw Zk (now+B.grace))) x (λd q t r s w K a g=>?_) (λd q t r s w K a g=>?_) a).of λv w ⟨p,c,o,l,y,a⟩=>⟨_,_,_,o,p,c,rfl,l,?_⟩)
 .have e:=z6 W (Row q 55 (leV d)::Row b 168 (bkV B m)::t::r::s::Row i 2 [Zi Zk now]::Row k 3 [Zi Zk conn]::Row j 94 [qc b]::F);unfold qid at g;have f:qb Zp 223 #[qc q,qc k,qc i] w K:=by
   refine F223_of ⟨StC W _,zd a,z7 ⟨_,zi 0 e yR yR,_,z02 6 e yR yR,za (λh=>z7 ⟨_,z0u 0 e yR yR,za (λf=>z7 ⟨_,z02 5 e yR yR,_,zi 0 e yR yR,λG w n=>?_⟩) λf G w n=>?_⟩) λh G w n=>?_⟩⟩;.have:=g w (zb n);rw[h,f]at this;exact this
   .have:=g w (zb n);rw[h,f]at this;exact this
   .have:=g w (zb n);rw[h]at this;exact this
  exact zw (by kernel_rfl) f
 .have e:=z6 W (qu q d::Row b 168 (bkV B m)::t::r::s::Row i 2 [Zi Zk now]::Row k 3 [Zi Zk conn]::Row j 94 [qc b]::F);have f:qb Zp 224 #[qc q,qc i,qc j] w K:=by refine F224_of ⟨StC W _,zd a,_,z02 5 e yR yR,_,zy 7 e yR yR,z7 ⟨_,zi 1 e yR yR,zk (α:=Unit) (V:=λ_=>Zt #[]) (B:=λ_=>qu q (q78 d (Zw Zk (now+B.grace)))::Row b 168 (bkV B m)::t::r::s::Row i 2 [Zi Zk now]::Row k 3 [Zi Zk conn]::Row j 94 [qc b]::F) () e (λG w h=>(q6f h).of λv w' ⟨o,h⟩=>⟨o,(),rfl,h⟩) λ_=>⟨rfl,trivial,λG w h=>g w (zb h)⟩⟩⟩
  exact zw (by kernel_rfl) f
 .have u:=yE C7 y;rw[Ag,Ag]at u;exact(z0v (B:={ B with L:=(qk4 (qid conn now) (λd=>q78 d (Zw Zk (now+B.grace))) B.L).1}) m (by dsimp only;omega) (zl 6 [1,2,0] a yR)).p1
end
end
section
section
variable{κ ν:Type}[DecidableEq κ]
def qko{L:List (κ×ν)}(w:(L.map (·.1)).Nodup)(k:κ):qp L k=L.filter λy=>!decide (y.1=k):=by
 induction L with
 |nil=>rfl
 |cons x r b=>
  simp only[Ad,Av]at w;simp only[qp,Bw];by_cases h:x.1=k
  .rw[yB h,yA (by simp[h])];refine(Af.2 λy a=>?_).symm;have:y.1≠k:=λe=>w.1 (A6.2 ⟨y,a,by rw[e,h]⟩);simp[this]
  .rw[yA h,yB (by simp[h]),b w.2]
end
def qad(now:Int)(d:LeD):Bool:=d.held&&decide (d.til<=now)
def q9d(g:Int)(d:LeD):LeD:=q78 d (Zw Zk (d.til+g))
def qm7(B:qi3)(now:Int):qi3×List LeD:=if q79 now=A3 then(B,[])else
 ({ B with L:=(qk4 (qad now) (q9d B.grace) B.L).1.filter λx=>!(qv4 B.grace x.2 now==0)},(qk4 (qad now) (q9d B.grace) B.L).2)
section
variable{W w:World}{F:List Asn}{b m:Nat}{B:qi3}{name:ByteArray}{now:Int}{L:LeL}
def qu2(g now:Int)(S:List ByteArray)(y:ByteArray×Nat×LeD):Bool:=!(qpc S y.1&&(qv4 g y.2.2 now==0))
def qmt{j i:Nat}(a:St W (Row b 168 (bkV B m)::qr Zs m qu L::Row j 94 [qc b]::Row i 2 [Zi Zk now]::F) w):qb Zp 202 #[.map (A0 m),.func (.func 203) #[] #[qc j,qc i]] w λv w'=>
 v=Zt #[]/\St W (Row b 168 (bkV B m)::qr Zs m qu (L.filter λx=>!(qv4 B.grace x.2 now==0))::F) w':=by
 obtain⟨bs,Y,U⟩:=z1d (zf 1 0 a yR);have N:(bs.map (·.1)).Nodup:=by have:=z18 kS U;rwa[qx5]at this
 refine F202_of (q7y uMl 0 U yR λf w a=>?_);have a:St W (qn2 Zs qc m f (qx (B4 (α:=Nat) (β:=LeD)) (bs.filter (qu2 B.grace now []))) []::qz ((bs.filter (qu2 B.grace now [])).map λy=>qu y.2.1 y.2.2)::Row b 168 (bkV B m)::Row j 94 [qc b]::Row i 2 [Zi Zk now]::F) w:=by rw[Af.2 (λy _=>by simp[qu2,qpc])];exact a
 refine⟨λ_ w=>∃S,St W (qn2 Zs qc m f (qx (B4 (α:=Nat) (β:=LeD)) (bs.filter (qu2 B.grace now S))) S::qz ((bs.filter (qu2 B.grace now S)).map λy=>qu y.2.1 y.2.2)::Row b 168 (bkV B m)::Row j 94 [qc b]::Row i 2 [Zi Zk now]::F) w,λ_ w=>qx9 m f w,⟨[],a⟩,λw hI=>?_⟩;obtain⟨S,p⟩:=hI;have a:=p;have c:((bs.filter (qu2 B.grace now S)).map (·.1)).Nodup:=((Bb (l:=bs)).map _).nodup N;refine q9z kS a (λC w a=>⟨rfl,?_⟩) λx V A w a hlt t=>⟨_,_,t,_,_,rfl,?_⟩
 .have hE:bs.filter (qu2 B.grace now S)=bs.filter λy=>!(qv4 B.grace y.2.2 now==0):=by
   refine Bg λy Q=>?_;unfold qu2;by_cases H:(qv4 B.grace y.2.2 now==0)=A8
   .rw[H,Bc];by_cases n:qpc S y.1=A8;.rw[n]
    .exfalso;rw[Bh]at n;have o:y∈bs.filter (qu2 B.grace now S):=C3.2 ⟨Q,by unfold qu2;rw[n];rfl⟩;have M:=qnb.2 (C (y.1,y.2.1) (A6.2 ⟨y,o,rfl⟩));dsimp only at M;rw[n]at M;cases M
   .rw[Bh]at H;rw[H,B6]
  rw[hE]at a;refine(z19 (L:=L.filter λx=>!(qv4 B.grace x.2 now==0)) (bs.filter λy=>!(qv4 B.grace y.2.2 now==0)) ?_ (zl 5 [0,1,2] a yR)).p1;rw[<-Y];unfold qx;rw[Cm];rfl
 .obtain⟨y,Q,rfl⟩:=A6.1 V;dsimp only at A a⊢;have u:qe (bs.filter (qu2 B.grace now S)) y.1=A0 y.2:=q24 c Q;have hk:∀z,qu2 B.grace now (S++[y.1]) z=(qu2 B.grace now S z&&!(decide (z.1=y.1)&&(qv4 B.grace z.2.2 now==0))):=by
   intro z;unfold qu2 qpc;rw[List.any_append];have e:decide (y.1=z.1)=decide (z.1=y.1):=by rw[Bj];simp only[yJ];exact eq_comm
   simp only[List.any_cons,List.any_nil,Ca,e];cases (S.any λs=>decide (s=z.1))<;>cases decide (z.1=y.1)<;>cases (qv4 B.grace z.2.2 now==0)<;>rfl
  have T:bs.filter (qu2 B.grace now (S++[y.1]))=(bs.filter (qu2 B.grace now S)).filter λz=>!(decide (z.1=y.1)&&(qv4 B.grace z.2.2 now==0)):=by rw[Bp];exact Bg λz _=>by rw[hk z,Ct]
  have n:∀(w w':A7) (J:List (ByteArray×Nat)) (G X:List Asn),J.Sublist (qx (B4 (α:=Nat) (β:=LeD)) (bs.filter (qu2 B.grace now S)))->St W (qn2 Zs qc m f (qx (B4 (α:=Nat) (β:=LeD)) (bs.filter (qu2 B.grace now S))) S::G) w->St W (qn2 Zs qc m f J (S++[y.1])::X) w'->qx9 m f w'<qx9 m f w:=λw w' J G X E h h'=>by rw[qn2.left kS h,qn2.left kS h'];refine Cb (E.filter _).length_le (qla _ (λz _ r=>?_) V (by rw[Bool.not_eq_false',qnb];simp) (by rw[Bu,<-Bh,qnb];exact A));rw[Bu,<-Bh,qnb]at r⊢;exact λh=>r (List.mem_append_left _ h)
  have P:=qf5 ((aget_perm u).map λz:ByteArray×Nat×LeD=>qu z.2.1 z.2.2) a.p1;have g:St W (qu y.2.1 y.2.2::Row b 168 (bkV B m)::qn2 Zs qc m f (qx (B4 (α:=Nat) (β:=LeD)) (bs.filter (qu2 B.grace now S))) (S++[y.1])::qz ((qp (bs.filter (qu2 B.grace now S)) y.1).map λz=>qu z.2.1 z.2.2)::Row j 94 [qc b]::Row i 2 [Zi Zk now]::F) w:=zl 6 [0,3,2,1,4,5] P yR;have q:∀K:Ab->A7->Prop,K (Zt #[qc y.2.1,Zb A8]) w->Run Zp (Instr.lookup 166 (.map (A0 m)) (Zs y.1) A8) w K:=λK hK=>by refine qww kS uMl iPl zPl 2 g yR y.1 A8 ?_;rw[q62,u];exact hK
  have Z:qb Zp 203 #[Zs y.1,qc y.2.1,qc j,qc i] w λv w'=>v=Zb (qv4 B.grace y.2.2 now==0)/\St W (qu y.2.1 y.2.2::Row b 168 (bkV B m)::qn2 Zs qc m f (qx (B4 (α:=Nat) (β:=LeD)) (bs.filter (qu2 B.grace now S))) (S++[y.1])::qz ((qp (bs.filter (qu2 B.grace now S)) y.1).map λz=>qu z.2.1 z.2.2)::Row j 94 [qc b]::Row i 2 [Zi Zk now]::F) w':=
   F203_of (LdP.n 4 g yR yR (z12 5 g yR yR ((qhp q g).of λv w ⟨O,a⟩=>⟨_,_,O,rfl,a⟩)))
  refine zw (by kernel_rfl) (qb.of Z λv R ⟨O,D⟩=>⟨_,O,za (λh=>?_) λh=>?_⟩)
  .have I:bs.filter (qu2 B.grace now (S++[y.1]))=qp (bs.filter (qu2 B.grace now S)) y.1:=by
    rw[T,qko c];refine Bg λz r=>?_;by_cases e:z.1=y.1
    .have:z.2=y.2:=by have o:=q24 c (show(z.1,z.2)∈bs.filter (qu2 B.grace now S)from r);rw[e,u]at o;exact(Bd o).symm
     rw[this,h,Bc]
    .rw[yH e,Cq]
   have k:St W (qn2 Zs qc m f (qx (B4 (α:=Nat) (β:=LeD)) (bs.filter (qu2 B.grace now S))) (S++[y.1])::qz ((qp (bs.filter (qu2 B.grace now S)) y.1).map λz=>qu z.2.1 z.2.2)::Row b 168 (bkV B m)::Row j 94 [qc b]::Row i 2 [Zi Zk now]::F) R:=zl 6 [2,3,1,4,5] D yR;refine q6v kS uMl k y.1 λw3 d _=>?_;rw[qo7]at d;exact⟨⟨S++[y.1],by rw[I];exact d⟩,n _ _ _ _ _ ((q2a _ _).map _) p d⟩
  .have I:bs.filter (qu2 B.grace now (S++[y.1]))=bs.filter (qu2 B.grace now S):=by
    rw[T];refine Af.2 λz r=>?_;by_cases e:z.1=y.1
    .have:z.2=y.2:=by have o:=q24 c (show(z.1,z.2)∈bs.filter (qu2 B.grace now S)from r);rw[e,u]at o;exact(Bd o).symm
     rw[this,h,B6];rfl
    .rw[yH e,Cq];rfl
   have k:St W (qu y.2.1 y.2.2::qz ((qp (bs.filter (qu2 B.grace now S)) y.1).map λz=>qu z.2.1 z.2.2)::qn2 Zs qc m f (qx (B4 (α:=Nat) (β:=LeD)) (bs.filter (qu2 B.grace now S))) (S++[y.1])::Row b 168 (bkV B m)::Row j 94 [qc b]::Row i 2 [Zi Zk now]::F) R:=zl 6 [0,3,2,1,4,5] D yR;have d:=(q95 ((aget_perm u).map λz:ByteArray×Nat×LeD=>qu z.2.1 z.2.2).symm k).p1;exact⟨⟨S++[y.1],by rw[I];exact d⟩,n _ _ _ _ _ (List.Sublist.refl _) p d⟩
def qqp(a:St W (q41 b B::F) w):qb Zp 128 #[qc b,Zi Zk now] w λv w'=>∃p c,v=Zl p (qm7 B now).2.length c/\(qm7 B now).2.length<=64/\St W (SlA 55 6 leV p c (qm7 B now).2::q41 b (qm7 B now).1::F) w':=by
 unfold qm7;refine F128_of (zh a λi w a=>zh a λg w a=>z12 0 a yR yR ((q57 now a).of λv w ⟨f,a⟩=>⟨_,f,za (λh=>?_) λh=>?_⟩))
 .rw[yB (by simpa using h)];exact⟨A2,0,rfl,by simp,z09 (zl 3 [2] a yR)⟩
 rw[yA (by simpa using h)];have a:St W (q41 b B::Row i 94 [qc b]::Row g 2 [Zi Zk now]::F) w:=zl 3 [2,1,0] a yR;obtain⟨m,y,a⟩:=z13 a;refine LdP.n 2 a yR yR ((qef (qad now) (q9d B.grace) y (λd q o l n w K a j=>?_) (λd q o l n w K a j=>?_) a).of λv w ⟨p,c,f,k,u,a⟩=>⟨_,_,_,f,?_⟩)
 .have e:=z6 W (Row q 55 (leV d)::Row b 168 (bkV B m)::o::l::n::Row i 94 [qc b]::Row g 2 [Zi Zk now]::F);unfold qad at j;have r:qb Zp 199 #[qc q,qc g] w K:=by
   refine F199_of ⟨StC W _,zd a,z7 ⟨_,z0u 0 e yR yR,za (λh=>z7 ⟨_,zi 0 e yR yR,_,z02 6 e yR yR,λG w t=>?_⟩) λh G w t=>?_⟩⟩;.have:=j w (zb t);rw[h]at this;exact this
   .have:=j w (zb t);rw[h]at this;exact this
  exact zw (by kernel_rfl) r
 .have e:=z6 W (Row q 55 (leV d)::Row b 168 (bkV B m)::o::l::n::Row i 94 [qc b]::Row g 2 [Zi Zk now]::F);have r:qb Zp 200 #[qc q,qc i] w K:=by refine F200_of ⟨StC W _,zd a,z7 ⟨_,zi 0 e yR yR,_,zy 5 e yR yR,z7 ⟨_,zi 1 e yR yR,zk (α:=Unit) (V:=λ_=>Zt #[]) (B:=λ_=>qu q (q9d B.grace d)::Row b 168 (bkV B m)::o::l::n::Row i 94 [qc b]::Row g 2 [Zi Zk now]::F) () e (λG w h=>(q6f h).of λv w' ⟨f,h⟩=>⟨f,(),rfl,h⟩) λ_=>⟨rfl,trivial,λG w h=>j w (zb h)⟩⟩⟩⟩
  exact zw (by kernel_rfl) r
 have s:=yE C7 u;rw[Ag,Ag]at s;refine LdP.n 3 a yR yR (z7 (zv 1 a yR yR ?_));have a:=zl 5 [1,2,3,4,0] a yR;refine(qmt a).of λv w ⟨f,a⟩=>⟨f,p,c,rfl,k,?_⟩;exact(z0v (B:={ B with L:=(qk4 (qad now) (q9d B.grace) B.L).1.filter λx=>!(qv4 B.grace x.2 now==0)}) m (Ar (Am _ _) (by omega)) a).p1
end
end
section
structure qac where
 vis:Int
 name:ByteArray
 ten:ByteArray
 epoch:Int
structure TkD where
 p:qac
 text:ByteArray
def q12(d:qac):List Ab:=[Zi Zk d.vis,Zs d.name,Zs d.ten,Zi Zk d.epoch]
def tkV(d:TkD):List Ab:=[Zi Zk d.p.vis,Zs d.p.name,Zs d.p.ten,Zi Zk d.p.epoch,Zs d.text]
def qmf(d:TkD):(tkV d).length=5:=rfl
def qvz(d:TkD):∀v∈tkV d,qn1 v:=λv h=>by simp only[tkV,A5,B9,yK]at h;rcases h with rfl|rfl|rfl|rfl|rfl<;>trivial
def q3j:Zp.underlying 173=A0 (.slice 346):=Tryz.underlying173
def iTk:Zp.info? 346=A0 Tryz.t346:=by kernel_rfl
def sTk:Tryz.t346.size=5:=rfl
def bTk:Tryz.t346.bytes<=1000:=by decide+kernel
def zTk:∃z,Tryz.t346.zero=A0 z/\z.cells=#[Zi Zk 0,Zs ⟨#[]⟩,Zs ⟨#[]⟩,Zi Zk 0,Zs ⟨#[]⟩]:=⟨_,rfl,rfl⟩
def qnk{W w:A7}{F:List Asn}{p:Option Az}{c:Nat}{xs:List TkD}{r:Ab}(g:TkD->Bool)(A:Rd F p (xs.flatMap tkV))(t:xs.length<=9223372036854775807)
 (u:∀(x:TkD),x∈xs->∀(w:A7) (K:Ab->A7->Prop),St W F w->(∀w',St W F w'->K (Zb (g x)) w')->q01 Zp 4 r [Zg (tkV x).toArray] w K) (d:St W F w):
 qb Zp 283 #[Zl p xs.length c,r] w λv w'=>v=Zi Zk (qt4 g xs)/\St W F w':=by
 refine F283_of ⟨λvs w=>∃i:Nat,vs=[Zi Zk i]/\i<=xs.length/\(∀j y,j<i->xs[j]?=A0 y->g y=A3)/\St W F w,leftN xs.length,⟨0,rfl,by omega,λj y h=>by omega,d⟩,λx w B=>?_⟩;obtain⟨i,s,D,m,d⟩:=B;cases s;refine za (λb=>?_) λn=>?_
 .have b:i<xs.length:=by have:=yC b;omega
  have l:xs[i]?=A0 (xs[i]'b):=A4 _;generalize xs[i]'b=y at l;refine z0f (f:=tkV) (size:=5) (λ_=>rfl) (by omega) A d yR b l λa k=>⟨_,k 0 _ rfl,⟨_,k 1 _ rfl,⟨_,k 2 _ rfl,⟨_,k 3 _ rfl,⟨_,k 4 _ rfl,u y (B5 l) w _ d λw' d=>⟨_,rfl,?_⟩⟩⟩⟩⟩⟩;cases hy:g y with
  |true=>exact⟨by rw[qs8 l hy m],d⟩
  |false=>
   rw[up b t];exact⟨⟨i+1,rfl,by omega,λj z C o=>by
    by_cases e:j=i;.subst e;rw[l]at o;cases o;exact hy
    .exact m j z (by omega) o,d⟩,by show xs.length -(i+1)<xs.length - i;omega⟩
 have q:i=xs.length:=by have:=yD n;omega
 subst q;exact⟨by rw[qq8 λj y h=>m j y (A1.1 h).1 h],d⟩
def qco{p:Option Az}{n c i:Nat}(f:i<n)(b:n<=c)(w:A7):Sem.run Zp (Instr.sliceAt 173 (Zl p n c) (A0 (Zi Zk (i:Int))) (A0 (Zi Zk ((i+1:Nat):Int))) (A0 (Zi Zk (n:Int)))) w=.ok (.slice (if n=i then p else p.map (·.add (i*5))) 1 (n - i)) w:=by
 have g:¬((n:Int)<0):=by omega
 have h:i+1<=n:=by omega
 have d:((i:Int)+1)<=(n:Int):=by omega
 have e:(0:Int)<=(i:Int)+1:=by omega
 have a:(i:Int)<=(i:Int)+1:=by omega
 simp[Instr.sliceAt,run_underlying q3j,Instr.slice,Instr.sliceBounds,Instr.sliceBound,asIntOf,sizeOf,typeInfo,iTk,sTk,Result.andThen,b,h,d,e,a];done
def q5r(os:List TkD)(i:Nat):(os.eraseIdx i).flatMap tkV=(os.take i).flatMap tkV++(os.drop (i+1)).flatMap tkV:=by rw[List.eraseIdx_eq_take_drop_succ,C9]
section
variable{W w:World}{F:List Asn}{p:Option Addr}{c:Nat}{os:List TkD}
def q9m{i:Nat}(Q:i<os.length)(N:os.length<=1000)(H:St W (SlA 346 5 tkV p c os::F) w):qb Zp 227 #[Zl p os.length c,Zi Zk (i:Int),Zi Zk ((i+1:Nat):Int)] w λv w'=>v=Zl p (os.eraseIdx i).length c/\St W (SlA 346 5 tkV p c (os.eraseIdx i)::F) w':=by
 have R:os.length<=c:=SlA.le H;obtain⟨q,all,J,k,y,hR⟩:=qi.opened (by omega) H;clear H;subst J;refine F227_of ⟨_,qco Q R,_,_,_,rfl,zn ?_ ?_⟩;.simp;omega
 have hC:=z6 W (Row q 346 all::F);have u:(os.eraseIdx i).length=os.length - 1:=B7 Q;refine⟨StC W _,zd hR,⟨by omega,by omega,by omega⟩,⟨by omega,by omega,by omega⟩,?_⟩;rw[yA (by show ¬c=0;omega)];have d:((os.drop (i+1)).flatMap tkV).length=(os.length -(i+1))*5:=by rw[qh3 tkV 5 qmf,Ch]
 have hfl:(os.flatMap tkV).length=os.length*5:=qh3 tkV 5 qmf os;have r:((os.take i).flatMap tkV).length=i*5:=by rw[qh3 tkV 5 qmf,Bx,C4 (by omega)]
 have a:os.flatMap tkV=(os.take i).flatMap tkV++(tkV os[i]++(os.drop (i+1)).flatMap tkV):=by rw[<-B2,<-C9];congr 1;rw[<-List.drop_eq_getElem_cons Q,List.take_append_drop]
 have I:∀(G:List (Nat×Obj)) (w:A7) (K:Ab->A7->Prop),St W (Row q 346 all::(F++pts G)) w->(∀w',St W (Row q 346 (qm1 all (i*5) ((os.drop (i+1)).flatMap tkV))::(F++pts G)) w'->K (.slice (A0 ⟨q,0,A2⟩) (os.length - 1) c) w')->Run Zp (Builtin.append_ #[173,173] 173 #[.slice ((A0 ⟨q,0,A2⟩:Option Az).map (·.add (Ae 0*5))) (Ae (i:Int) - Ae 0) (c - Ae 0),.slice (if c=Ae ((i+1:Nat):Int)then A0 ⟨q,0,A2⟩else(A0 ⟨q,0,A2⟩:Option Az).map (·.add (Ae ((i+1:Nat):Int)*5))) (Ae (os.length:Int) - Ae ((i+1:Nat):Int)) (c - Ae ((i+1:Nat):Int))]) w K:=λG w K h hK=>by
  simp only[B3,Int.toNat_zero,Nat.zero_mul,Bz,Be,qi1,Ba];obtain⟨w',U,f⟩:=qu4 (P:=Zp) (o:=i*5) ((os.drop (i+1)).flatMap tkV) 0 all w h (by rw[k,d];omega) (λv E=>by obtain⟨x,_,hx⟩:=List.mem_flatMap.1 E;exact qvz x v hx)
  rw[Cv,qo8 _ _ _ (by rw[k,d];omega)]at f;have O:(Builtin.firstCells 5 (os.length -(i+1)) (.slice (if c=i+1 then A0 ⟨q,0,A2⟩else A0 ⟨q,(i+1)*5,A2⟩) (os.length -(i+1)) (c -(i+1)))).run Zp w=.ok ((os.drop (i+1)).flatMap tkV).toArray w:=by
   refine qw3 (λj v hj=>?_) d (λJ=>by split at J<;>cases J);have h0:=(A1.1 hj).1;rw[d]at h0;rw[yA (by intro hc;omega)];refine⟨_,rfl,?_⟩;rw[qi1];have D:all[(i+1)*5+j]?=A0 v:=by
    have L:(all.take (os.length*5))[(i+1)*5+j]?=A0 v:=by rw[y,a,Ax (by rw[r];omega),r,Ax (by rw[qmf];omega),qmf];rw[show(i+1)*5+j - i*5 - 5=j by omega];exact hj
    rw[Cc,yB (by omega)]at L;exact L
   exact h.ld D
  refine⟨_,w',q84 (e:=346) (size:=5) (m:=os.length -(i+1)) q3j (.inr ⟨_,q3j⟩) iTk sTk (by omega) (λs=>rfl) O (.inr ⟨_,rfl,by rw[qi1,Ba];exact U⟩),?_⟩;rw[show i+(os.length -(i+1))=os.length - 1 by omega];exact hK w' f
 refine zk (α:=Unit) (V:=λ_=>.slice (A0 ⟨q,0,A2⟩) (os.length - 1) c) (B:=λ_=>Row q 346 (qm1 all (i*5) ((os.drop (i+1)).flatMap tkV))::F) () hC (λG w h=>I G w _ (by exact h) λw' h=>⟨_,_,_,rfl,(),rfl,h⟩) λ_=>⟨_,_,_,rfl,trivial,λG w h=>?_⟩;have H:=zb h;refine⟨⟨by omega,by omega,by omega⟩,?_⟩;rw[yA (by show ¬c=Ae ((os.length - 1:Nat):Int);omega)];simp only[B3,Be,qi1,Ba];rw[show os.length -(os.length - 1)=1 by omega];obtain⟨z,hz,A⟩:=zTk;obtain⟨zs,t⟩:∃zs,(Bv z.cells 1).toList=zs:=⟨_,rfl⟩;have g:zs.length=5:=by rw[<-t,Array.length_toList,qm5,A];rfl
 have h3:∀v∈zs,qn1 v:=by
  rw[<-t,A];intro v E;have e:(Bv #[Zi Zk 0,Zs ⟨#[]⟩,Zs ⟨#[]⟩,Zi Zk 0,Zs ⟨#[]⟩] 1).toList=[Zi Zk 0,Zs ⟨#[]⟩,Zs ⟨#[]⟩,Zi Zk 0,Zs ⟨#[]⟩]:=by simp[Bv];rfl
  rw[e]at E;simp only[A5,B9,yK]at E;rcases E with rfl|rfl|rfl|rfl|rfl<;>trivial
 have n:(qm1 all (i*5) ((os.drop (i+1)).flatMap tkV)).length=c*5:=by rw[q94 _ _ _ (by rw[k,d];omega),k]
 obtain⟨w',U,f⟩:=qu4 (P:=Zp) (o:=(os.length - 1)*5) zs 0 _ w H (by rw[n,g];omega) h3;rw[Cv,qo8 _ _ _ (by rw[n,g];omega)]at f;have l:(Cr #[173] 0 #[.slice (A0 ⟨q,(os.length - 1)*5,A2⟩) 1 (c -(os.length - 1))]).run Zp w=.ok (Zt #[]) w':=by simp[Cr,run_underlying q3j,zeroValue,typeInfo,iTk,hz,t,U]
 refine⟨_,w',l,by rw[u],?_⟩;refine z0x (q:=q) (all:=qm1 (qm1 all (i*5) ((os.drop (i+1)).flatMap tkV)) ((os.length - 1)*5) zs) (by rw[q94 _ _ _ (by rw[n,g];omega),n]) (by rw[u];omega) ?_ f;rw[u,q5r];have C:all.take (i*5)=(os.take i).flatMap tkV:=by
  have L:(all.take (os.length*5)).take (i*5)=all.take (i*5):=by rw[Cs,C4 (by omega)]
  rw[<-L,y,a,Bf r]
 have M:(os.length - 1)*5=i*5+(os.length -(i+1))*5:=by omega
 have Y:((os.take i).flatMap tkV++(os.drop (i+1)).flatMap tkV).length=(os.length - 1)*5:=by rw[Ap,r,d,M]
 have e1:∀(X Z zs T:List Ab) (b:Nat),X.length=b->((X++Z).take b++zs++T).take b=X:=by intro X Z zs T b N;rw[Bf N,Ak,Bf N]
 unfold qm1;rw[C];exact e1 _ _ _ _ _ Y
end
end
section
structure TkB where
 key:List UInt8
 serial:Int
 good:List TkD
def tbV(T:TkB)(w:Option Az)(h:Nat)(p:Option Az)(c:Nat):List Ab:=[Zl w T.key.length h,Zi Zk T.serial,Zl p T.good.length c]
def q03(b:Nat)(T:TkB):Asn:=exA λx:Option Az×Nat×Option Az×Nat=>qz [prA (T.good.length<=64/\T.key.length<=1000),Row b 175 (tbV T x.1 x.2.1 x.2.2.1 x.2.2.2),SlA 346 5 tkV x.2.2.1 x.2.2.2 T.good,qi 5 1 x.1 T.key.length x.2.1 (T.key.map qd)]
def zeP:qac:=⟨0,⟨#[]⟩,⟨#[]⟩,0⟩
def qbx(n:Int):List UInt8:=if 0<=n/\n<10 then [UInt8.ofNat (48+n.toNat)]else qp7 n
def qqx(n:Int):qbx n=qp7 n:=by
 unfold qbx;split
 .rename_i h;have a:∀k:Fin 10,[UInt8.ofNat (48+k.val)]=Lib.itoa (k.val:Int):=by decide+kernel
  have w:=a ⟨n.toNat,by omega⟩;simp only[Int.toNat_of_nonneg h.1]at w;unfold qp7;rw[yA (by omega),yA (by omega),w]
 .rfl
def q7w(n:Int):(qp7 n).length<=21:=by
 unfold qp7;split;.simp
 .split;.simp
  .exact Lib.itoa_length_le n (by omega) (by omega)
def qd7(s:ByteArray):ByteArray:=s.extract 0 (Ae (if 255<(s.size:Int)then 255 else(s.size:Int)))
def qdq(s:ByteArray):(qm (qd7 s)).length<=255:=by
 have:(qm (qd7 s)).length=(qd7 s).size:=by simp[qm]
 rw[this];unfold qd7;rw[ByteArray.size_extract];split<;>omega
def qei(key:List UInt8)(serial:Int)(drawn:ByteArray):ByteArray:=(mkS (q07 key [qbx serial,qm (qd7 drawn)])).extract 0 32
def ofT(T:TkB)(vis:Int):Int:=qt4 (λt:TkD=>t.p.vis==vis) T.good
def q5l(T:TkB)(vis:Int):TkB×Bool:=if ofT T vis>=0 then({ T with good:=T.good.eraseIdx (ofT T vis).toNat},A8)else(T,A3)
def qca(T:TkB)(p:qac)(drawn:ByteArray):TkB×ByteArray×Int:=
 if ofT T p.vis>=0 then(T,⟨#[]⟩,4)else if T.good.length=64 then(T,⟨#[]⟩,2)else
 ({ T with serial:=Zw Zk (T.serial+1),good:=T.good++[⟨p,qei T.key (Zw Zk (T.serial+1)) drawn⟩]},qei T.key (Zw Zk (T.serial+1)) drawn,0)
def qw7(T:TkB)(text ten:ByteArray):TkB×qac×Int:=
 match T.good[(qt4 (λt:TkD=>decide (t.text=text)) T.good).toNat]? with
 |none=>(T,zeP,151)
 |some t=>if qt4 (λt:TkD=>decide (t.text=text)) T.good<0 then(T,zeP,151)else if t.p.ten≠ten then(T,zeP,131)else({ T with good:=T.good.eraseIdx (qt4 (λt:TkD=>decide (t.text=text)) T.good).toNat},t.p,0)
section
variable{W w:World}{F:List Asn}{b:Nat}{T:TkB}{vis:Int}
def q03.open_(h:St W (q03 b T::F) w):∃d a p c,(T.good.length<=64/\T.key.length<=1000)/\St W (Row b 175 (tbV T d a p c)::SlA 346 5 tkV p c T.good::qi 5 1 d T.key.length a (T.key.map qd)::F) w:=by obtain⟨⟨d,a,p,c⟩,h⟩:=h.of_ex;obtain⟨e,h⟩:=h.of_sep.of_pr;exact⟨d,a,p,c,e,h⟩
def q03.shut(d:Option Az)(a:Nat)(p:Option Az)(c:Nat)(e:T.good.length<=64/\T.key.length<=1000)(h:St W (Row b 175 (tbV T d a p c)::SlA 346 5 tkV p c T.good::qi 5 1 d T.key.length a (T.key.map qd)::F) w):St W (q03 b T::F) w:=
 z00 (d,a,p,c) (zj (l:=[_,_,_,_]) (z01 e h))
def q5t(key:List UInt8)(f:key.length<=1000)(a:St W F w):qb Zp 40 #[Zs (mkS key)] w λv w'=>∃b,v=qc b/\St W (q03 b ⟨key,0,[]⟩::F) w':=by refine F40_of (qcb uS uB uU8 a λq c w d a=>⟨_,_,_,rfl,zh a λb w a=>⟨b,rfl,q03.shut (A0 ⟨q,0,A2⟩) c A2 0 ⟨by simp,f⟩ ?_⟩⟩);have a:St W (Row q 5 (key.map qd++List.replicate (c - key.length) (Zi .u8 0))::Row b 175 (tbV ⟨key,0,[]⟩ (A0 ⟨q,0,A2⟩) c A2 0)::F) w:=a.p1;have e:=z0x (t:=5) (size:=1) (n:=key.length) (c:=c) (cs:=key.map qd) (by simp;omega) d (by rw[Cy];exact Bf (by simp)) a;exact zf 0 1 (z09 (zf 0 1 e yR)) yR |> λh=>h
def qcw{x:TkD}{q:Nat}{G:List Asn}{K:Ab->A7->Prop}(h:St W (Row q 3 [Zi Zk vis]::G) w)(c:∀w',St W (Row q 3 [Zi Zk vis]::G) w'->K (Zb (x.p.vis==vis)) w'):q01 Zp 4 (.func (.func 284) #[] #[Zq (A0 ⟨q,0,A2⟩)]) [Zg (tkV x).toArray] w K:=by
 have a:qb Zp 284 #[Zg #[Zi Zk x.p.vis,Zs x.p.name,Zs x.p.ten,Zi Zk x.p.epoch,Zs x.text],Zq (A0 ⟨q,0,A2⟩)] w K:=
  F284_of (zh h λb w h=>z8 0 h yR yR (z12 1 h yR yR (c w h.drop)))
 exact zw (by kernel_rfl) a
def qzv{x:TkD}{q:Nat}{s:ByteArray}{G:List Asn}{K:Ab->A7->Prop}(h:St W (Row q 9 [Zs s]::G) w)(c:∀w',St W (Row q 9 [Zs s]::G) w'->K (Zb (decide (x.text=s))) w'):q01 Zp 4 (.func (.func 389) #[] #[Zq (A0 ⟨q,0,A2⟩)]) [Zg (tkV x).toArray] w K:=by
 have a:qb Zp 389 #[Zg #[Zi Zk x.p.vis,Zs x.p.name,Zs x.p.ten,Zi Zk x.p.epoch,Zs x.text],Zq (A0 ⟨q,0,A2⟩)] w K:=
  F389_of (zh h λb w h=>zg 0 h yR yR (LdS.n 1 h yR yR (by rw[qrc];exact c w h.drop)))
 exact zw (by kernel_rfl) a
def qan(h:St W (q03 b T::F) w):qb Zp 226 #[qc b,Zi Zk vis] w λv w'=>v=Zi Zk (ofT T vis)/\St W (q03 b T::F) w':=by obtain⟨a,d,p,c,g,h⟩:=q03.open_ h;refine F226_of (zh h λi w h=>z7 (zt 1 h yR yR ?_));exact(qnk (λt=>t.p.vis==vis) (z04 2 yR λF=>z0e F) (by omega) (λx _ w K h e=>qcw h e) h).of λv w ⟨f,h⟩=>⟨_,f,rfl,q03.shut a d p c g h.drop⟩
def qfx{α:Type}{g:α->Bool}{xs:List α}(h:qt4 g xs>=0):∃i:Nat,qt4 g xs=(i:Int)/\i<xs.length/\∃x,xs[i]?=A0 x/\g x=A8:=by
 rcases q0j (g:=g) (xs:=xs)with ⟨a,_⟩|⟨i,x,a,w,b⟩
 .omega
 .exact⟨i,a,(A1.1 w).1,x,w,List.find?_some b⟩
def qcs(a:St W (q03 b T::F) w):qb Zp 150 #[qc b,Zi Zk vis] w λv w'=>v=Zb (q5l T vis).2/\St W (q03 b (q5l T vis).1::F) w':=by
 unfold q5l;refine F150_of ((qan a).of λv w ⟨g,a⟩=>⟨_,g,za (λh=>z7 ?_) λh=>?_⟩)
 .have e:=yC h;rw[yB e,h];obtain⟨i,f,d,_⟩:=qfx e;have f:ofT T vis=(i:Int):=f;rw[f,B3];obtain⟨j,k,p,c,m,a⟩:=q03.open_ a;have l:Zw Zk ((i:Int)+1)=((i+1:Nat):Int):=by rw[w64];omega
  rw[l];refine zt 0 a yR yR ((q9m d (by omega) (zf 1 0 a yR)).of λv w ⟨g,a⟩=>⟨_,_,_,g,z7 (St1.zz 1 a yR λw a=>⟨rfl,q03.shut (T:={ T with good:=T.good.eraseIdx i}) j k p c ⟨?_,m.2⟩ (St.p1 a)⟩)⟩);show(T.good.eraseIdx i).length<=64;rw[B7 d];omega
 .have e:=yD h;rw[yA e,h];exact⟨rfl,a⟩
def qjq{key:List UInt8}{ws:List (List UInt8)}(h:qib ws=A8):(q07 key ws).length=64:=by unfold q07;rw[yB h,qyb,qke]
def q1q{p:qac}{drawn:ByteArray}(L:qc4 F)(d:St W (q03 b T::F) w):qb Zp 352 #[qc b,Zg (q12 p).toArray,Zs drawn] w λv w'=>v=Zt #[Zs (qca T p drawn).2.1,Zi Zk (qca T p drawn).2.2]/\St W (q03 b (qca T p drawn).1::F) w':=by
 unfold qca;refine F352_of (zh d λj w d=>z8 0 d yR yR ?_);have d:St W (q03 b T::Row j 344 (q12 p)::F) w:=d.p1;refine(qan d).of λv w ⟨u,d⟩=>⟨_,u,za (λh=>?_) λh=>?_⟩;.rw[yB (yC h)];exact⟨rfl,d.p1.drop⟩
 rw[yA (yD h)];obtain⟨e,f,q,c,H,d⟩:=q03.open_ d;refine z7 (zt 0 d yR yR (za (λt=>?_) λt=>?_))
 .have t:(T.good.length:Int)=64:=by simpa using t
  rw[yB (show T.good.length=64 by omega)];exact⟨rfl,q03.shut e f q c H (zl 4 [0,1,2] d yR)⟩
 have t:¬(T.good.length:Int)=64:=by simpa using t
 rw[yA (show ¬T.good.length=64 by omega)];refine z7 (z8 0 d yR yR (z7 (St1.zz 0 d yR λw d=>?_)));obtain⟨a,l⟩:∃a,Zw Zk (T.serial+1)=a:=⟨_,rfl⟩;rw[l];have d:St W (Row b 175 (tbV { T with serial:=Zw Zk (T.serial+1)} e f q c)::SlA 346 5 tkV q c T.good::qi 5 1 e T.key.length f (T.key.map qd)::Row j 344 (q12 p)::F) w:=d;rw[l]at d;have g:=z6 W (Row b 175 (tbV { T with serial:=a} e f q c)::SlA 346 5 tkV q c T.good::qi 5 1 e T.key.length f (T.key.map qd)::Row j 344 (q12 p)::F);refine⟨StC W _,zd d,z7 (z7 ⟨⟨by omega,by split<;>omega,by split<;>omega⟩,_,_,_,QtL.a 0 g yR yR,_,zi 0 g yR yR,?_⟩)⟩;have o:drawn.extract (Ae 0) (Ae (if 255<(drawn.size:Int)then 255 else(drawn.size:Int)))=mkS (qm (qd7 drawn)):=by unfold qm;rw[qd5];rfl
 rw[o];have y:qib [qp7 a,qm (qd7 drawn)]=A8:=qxh λs E=>by
  simp only[A5,B9,yK]at E;rcases E with rfl|rfl;.exact Ar (q7w a) (by omega)
  .exact qdq drawn
 refine zk (α:=Unit) (V:=λ_=>Zs (mkS (qp7 a))) (B:=λ_=>Row b 175 (tbV { T with serial:=a} e f q c)::SlA 346 5 tkV q c T.good::qi 5 1 e T.key.length f (T.key.map qd)::Row j 344 (q12 p)::F) () g (λG w h=>(qwb a (((((L.cons _).cons _).cons _).cons _).app _) h).of λv w' ⟨u,h⟩=>⟨_,u,(),rfl,h⟩) λ_=>⟨_,rfl,QtL.a 0 ir yR yR,λr=>?_⟩;refine zk (α:=Unit) (V:=λ_=>Zs (mkS (q07 T.key [qp7 a,qm (qd7 drawn)]))) (B:=λ_=>Row b 175 (tbV { T with serial:=a} e f q c)::SlA 346 5 tkV q c T.good::qi 5 1 e T.key.length f (T.key.map qd)::Row j 344 (q12 p)::F) () (ir.push r _) (λG w h=>?_) λ_=>⟨_,rfl,trivial,?_⟩
 .have h:St W (Pt r (.cells #[Zs (mkS (qp7 a)),Zs (mkS (qm (qd7 drawn)))] 9)::Row b 175 (tbV { T with serial:=a} e f q c)::SlA 346 5 tkV q c T.good::qi 5 1 e T.key.length f (T.key.map qd)::Row j 344 (q12 p)::(F++pts G)) w:=h;have h:=h.imp z0d;exact(qqe (k:=T.key) (ws:=[qp7 a,qm (qd7 drawn)]) (z04 3 yR λF=>z0k F) (by have:=(qi.le (zf 3 0 h yR)).2;exact this) (by omega) (z04 0 yR λF=>z0m) (by simp) h).of λv w' ⟨u,h⟩=>⟨_,u,(),rfl,h.drop⟩
 have C:=qjq (key:=T.key) y;have D:(mkS (q07 T.key [qp7 a,qm (qd7 drawn)])).extract (Ae 0) (Ae 32)=qei T.key a drawn:=by unfold qei;rw[qqx];rfl
 refine⟨⟨by omega,by omega,by rw[qf1,C];omega⟩,?_⟩;rw[D];generalize qei T.key a drawn=n;intro G w h;have d:=zb h;have g:=z6 W (Row b 175 (tbV { T with serial:=a} e f q c)::SlA 346 5 tkV q c T.good::qi 5 1 e T.key.length f (T.key.map qd)::Row j 344 (q12 p)::F);refine⟨StC W _,zd d,z7 ⟨_,_,_,QtL.a 0 g yR yR,_,_,_,_,λG w h=>z8 3 ((g G w).1 h) yR yR (zg 3 ((g G w).1 h) yR yR (zg 3 ((g G w).1 h) yR yR (z8 3 ((g G w).1 h) yR yR ⟨rfl,h⟩))),λm=>?_⟩⟩;refine zk (α:=Option Az×Nat) (V:=λx=>.slice x.1 (T.good++[TkD.mk p n]).length x.2) (B:=λx=>SlA 346 5 tkV x.1 x.2 (T.good++[TkD.mk p n])::Row b 175 (tbV { T with serial:=a} e f q c)::qi 5 1 e T.key.length f (T.key.map qd)::F) (A2,0) (ir.push m _) (λG w h=>?_) λx=>⟨_,_,_,rfl,trivial,z7 (z0q 1 ir yR (by simp[tbV]) ⟨rfl,trivial,λG w h=>⟨rfl,?_⟩⟩)⟩
 .have h:St W (Pt m (.cells (tkV ⟨p,n⟩).toArray 346)::Row b 175 (tbV { T with serial:=a} e f q c)::SlA 346 5 tkV q c T.good::qi 5 1 e T.key.length f (T.key.map qd)::Row j 344 (q12 p)::(F++pts G)) w:=h;have h:St W (Row m 346 (tkV ⟨p,n⟩)::Row b 175 (tbV { T with serial:=a} e f q c)::SlA 346 5 tkV q c T.good::qi 5 1 e T.key.length f (T.key.map qd)::Row j 344 (q12 p)::(F++pts G)) w:=h.imp z0d;obtain⟨z,K,A⟩:=zTk;refine qf3 (os:=T.good) (xs:=[TkD.mk p n]) qmf q3j (.inr ⟨_,q3j⟩) iTk sTk K (by rw[A];rfl) 2 h yR (z0t 0 λi v h=>by simpa using h) yR qvz (by have:=bTk;simp only[A9,Aj];exact Ar (Bm _ this) (by omega)) (by simp;omega) λJ I w h=>⟨_,_,_,rfl,(J,I),rfl,?_⟩;exact zl 5 [2,1,3] h yR
 .exact q03.shut (T:={ T with serial:=a,good:=T.good++[TkD.mk p n]}) e f x.1 x.2 ⟨by simp;omega,H.2⟩ (zl 3 [1,0,2] (zb h) yR)
def quu{text ten:ByteArray}(h:qt4 (λt:TkD=>decide (t.text=text)) T.good<0):qw7 T text ten=(T,zeP,151):=by
 unfold qw7;split;.rfl
 .rw[yB h]
def qgu{text ten:ByteArray}{i:Nat}{x:TkD}(h:qt4 (λt:TkD=>decide (t.text=text)) T.good=(i:Int))(w:T.good[i]?=A0 x):qw7 T text ten=if x.p.ten≠ten then(T,zeP,131)else({ T with good:=T.good.eraseIdx i},x.p,0):=by unfold qw7;rw[h,B3,w];dsimp only;rw[yA (by omega)]
def q3o{text ten:ByteArray}(d:St W (q03 b T::F) w):qb Zp 361 #[qc b,Zs text,Zs ten] w λv w'=>v=Zt #[Zg (q12 (qw7 T text ten).2.1).toArray,Zi Zk (qw7 T text ten).2.2]/\St W (q03 b (qw7 T text ten).1::F) w':=by
 refine F361_of (zh d λr w d=>zh d λn w d=>z7 ?_);have d:St W (q03 b T::Row r 9 [Zs text]::Row n 344 (q12 zeP)::F) w:=zl 3 [2,1,0] d yR;obtain⟨g,j,q,c,y,d⟩:=q03.open_ d;have d:St W (Row r 9 [Zs text]::Row b 175 (tbV T g j q c)::SlA 346 5 tkV q c T.good::qi 5 1 g T.key.length j (T.key.map qd)::Row n 344 (q12 zeP)::F) w:=zf 3 0 d yR;refine zt 1 d yR yR ((qnk (λt=>decide (t.text=text)) (z04 2 yR λF=>z0e F) (by omega) (λx _ w K d A=>qzv d A) d).of λv w ⟨u,d⟩=>⟨_,u,za (λh=>?_) λh=>?_⟩)
 .rw[quu (yC h)];refine St1.zz 4 d yR λw d=>St1.zz 4 d yR λw d=>St1.zz 4 d yR λw d=>St1.zz 4 d yR λw d=>?_;exact z8 4 d yR yR (zg 4 d yR yR (zg 4 d yR yR (z8 4 d yR yR (⟨rfl,q03.shut g j q c y (zl 5 [1,2,3] d yR)⟩))))
 have C:=yD h;obtain⟨i,z,k,x,p,_⟩:=qfx (show qt4 (λt:TkD=>decide (t.text=text)) T.good>=0 by omega);rw[qgu z p,z];have m:Rd (Row r 9 [Zs text]::Row b 175 (tbV T g j q c)::SlA 346 5 tkV q c T.good::qi 5 1 g T.key.length j (T.key.map qd)::Row n 344 (q12 zeP)::F) q (T.good.flatMap tkV):=z04 2 yR λF=>z0e F;have e:∀a:Az,Za a 0=a:=λa=>by cases a;rfl
 refine z7 (zt 1 d yR yR (z0f (f:=tkV) (size:=5) qmf (by omega) m d yR k p λa l=>⟨_,by rw[e];exact l 2 _ rfl,?_⟩));dsimp only;rw[qrc];refine za (λo=>?_) λo=>?_
 .rw[yB (by simpa using o)];refine St1.zz 4 d yR λw d=>St1.zz 4 d yR λw d=>St1.zz 4 d yR λw d=>St1.zz 4 d yR λw d=>?_;exact z8 4 d yR yR (zg 4 d yR yR (zg 4 d yR yR (z8 4 d yR yR (⟨rfl,q03.shut g j q c y (zl 5 [1,2,3] d yR)⟩))))
 rw[yA (by simpa using o)];refine z7 (zt 1 d yR yR (z0f (f:=tkV) (size:=5) qmf (by omega) m d yR k p λa l=>⟨_,by rw[e];exact l 0 _ rfl,⟨_,by rw[e];exact l 1 _ rfl,⟨_,by rw[e];exact l 2 _ rfl,⟨_,by rw[e];exact l 3 _ rfl,?_⟩⟩⟩⟩));refine zh d λs w d=>?_;refine St1.zz 0 d yR λw d=>St1.zz 0 d yR λw d=>St1.zz 0 d yR λw d=>St1.zz 0 d yR λw d=>z7 (zt 2 d yR yR ?_);have B:Zw Zk ((i:Int)+1)=((i+1:Nat):Int):=by rw[w64];omega
 rw[B];refine(q9m k (by omega) (zf 3 0 d yR)).of λv w ⟨u,d⟩=>⟨_,_,_,u,z7 (St1.zz 3 d yR λw d=>?_)⟩;have d:St W (Row s 344 (q12 x.p)::Row n 344 (q12 zeP)::Row b 175 (tbV { T with good:=T.good.eraseIdx i} g j q c)::SlA 346 5 tkV q c (T.good.eraseIdx i)::qi 5 1 g T.key.length j (T.key.map qd)::F) w:=zl 6 [1,5,3,0,4] d yR;refine z8 0 d yR yR (zg 0 d yR yR (zg 0 d yR yR (z8 0 d yR yR (?_))));refine St1.zz 1 d yR λw d=>St1.zz 1 d yR λw d=>St1.zz 1 d yR λw d=>St1.zz 1 d yR λw d=>?_;refine z8 1 d yR yR (zg 1 d yR yR (zg 1 d yR yR (z8 1 d yR yR (⟨rfl,q03.shut (T:={ T with good:=T.good.eraseIdx i}) g j q c ⟨?_,y.2⟩ (zl 5 [2,3,4] d yR)⟩))));show(T.good.eraseIdx i).length<=64;rw[B7 k];omega
end
end
end Go.Proofs.YtfjifcfbmhpcaaaGreatDoor
section
namespace Go.Proofs
open Go.Shelf
def Tryz.sortPair_ren:Go.Shelf.Ren:=⟨λ|6=>86|15=>109|14=>152|28=>177|29=>178|20=>229|21=>230|22=>231|23=>232|24=>233|25=>234|26=>235|27=>236|46=>285|47=>254|48=>255|49=>286|50=>287|57=>324|n=>n,λ|22=>50|24=>122|25=>198|3=>3|39=>229|0=>0|53=>34|55=>291|4=>4|46=>284|45=>283|50=>264|5=>5|9=>9|66=>365|70=>369|76=>421|77=>422|n=>n,λ|n=>n⟩
def Tryz.sortPair:Go.Proofs.SlLaysF0.n6 Tryz.prog Tryz.sortPair_ren:={
 mixed:=by kernel_rfl
 f6:=⟨Tryz.f86.name,by decide,Tryz.func86.trans (congrArg some (by kernel_rfl))⟩
 f14:=⟨Tryz.f152.name,by decide,Tryz.func152.trans (congrArg some (by kernel_rfl))⟩
 f15:=Tryz.func109.trans (congrArg some (by kernel_rfl))
 f20:=⟨Tryz.f229.name,by decide,Tryz.func229.trans (congrArg some (by kernel_rfl))⟩
 f21:=⟨Tryz.f230.name,by decide,Tryz.func230.trans (congrArg some (by kernel_rfl))⟩
 f22:=⟨Tryz.f231.name,by decide,Tryz.func231.trans (congrArg some (by kernel_rfl))⟩
 f23:=⟨Tryz.f232.name,by decide,Tryz.func232.trans (congrArg some (by kernel_rfl))⟩
 f24:=⟨Tryz.f233.name,by decide,Tryz.func233.trans (congrArg some (by kernel_rfl))⟩
 f25:=⟨Tryz.f234.name,by decide,Tryz.func234.trans (congrArg some (by kernel_rfl))⟩
 f26:=⟨Tryz.f235.name,by decide,Tryz.func235.trans (congrArg some (by kernel_rfl))⟩
 f27:=⟨Tryz.f236.name,by decide,Tryz.func236.trans (congrArg some (by kernel_rfl))⟩
 f28:=Tryz.func177.trans (congrArg some (by kernel_rfl))
 f29:=Tryz.func178.trans (congrArg some (by kernel_rfl))
 f46:=⟨Tryz.f285.name,by decide,Tryz.func285.trans (congrArg some (by kernel_rfl))⟩
 f47:=Tryz.func254.trans (congrArg some (by kernel_rfl))
 f48:=Tryz.func255.trans (congrArg some (by kernel_rfl))
 f49:=⟨Tryz.f286.name,by decide,Tryz.func286.trans (congrArg some (by kernel_rfl))⟩
 f50:=⟨Tryz.f287.name,by decide,Tryz.func287.trans (congrArg some (by kernel_rfl))⟩
 f57:=⟨Tryz.f324.name,by decide,Tryz.func324.trans (congrArg some (by kernel_rfl))⟩
 t0:=Tryz.underlying0
 a0:=Tryz.isAgg0
 z0:=Tryz.sizeOf0
 v0:=Tryz.zeroValue0
 t3:=Tryz.underlying3
 a3:=Tryz.isAgg3
 z3:=Tryz.sizeOf3
 v3:=Tryz.zeroValue3
 t4:=Tryz.underlying4
 a4:=Tryz.isAgg4
 z4:=Tryz.sizeOf4
 v4:=Tryz.zeroValue4
 t5:=Tryz.underlying5
 a5:=Tryz.isAgg5
 z5:=Tryz.sizeOf5
 v5:=Tryz.zeroValue5
 t9:=Tryz.underlying9
 a9:=Tryz.isAgg9
 z9:=Tryz.sizeOf9
 v9:=Tryz.zeroValue9
 t22:=Tryz.underlying50
 a22:=Tryz.isAgg50
 z22:=Tryz.sizeOf50
 v22:=Tryz.zeroValue50
 t25:=Tryz.underlying198
 a25:=Tryz.isAgg198
 z25:=Tryz.sizeOf198
 v25:=Tryz.zeroValue198
 t39:=Tryz.underlying229
 a39:=Tryz.isAgg229
 z39:=Tryz.sizeOf229
 v39:=Tryz.zeroValue229
 t45:=Tryz.underlying283
 a45:=Tryz.isAgg283
 z45:=Tryz.sizeOf283
 v45:=Tryz.zeroValue283
 t46:=Tryz.underlying284
 a46:=Tryz.isAgg284
 z46:=Tryz.sizeOf284
 v46:=Tryz.zeroValue284
 t50:=Tryz.underlying264
 a50:=Tryz.isAgg264
 z50:=Tryz.sizeOf264
 v50:=Tryz.zeroValue264
 t53:=Tryz.underlying34
 a53:=Tryz.isAgg34
 z53:=Tryz.sizeOf34
 v53:=Tryz.zeroValue34
 t55:=Tryz.underlying291
 a55:=Tryz.isAgg291
 z55:=Tryz.sizeOf291
 v55:=Tryz.zeroValue291
 t66:=Tryz.underlying365
 a66:=Tryz.isAgg365
 z66:=Tryz.sizeOf365
 v66:=Tryz.zeroValue365
 t70:=Tryz.underlying369
 a70:=Tryz.isAgg369
 z70:=Tryz.sizeOf369
 v70:=Tryz.zeroValue369
 t76:=Tryz.underlying421
 a76:=Tryz.isAgg421
 z76:=Tryz.sizeOf421
 v76:=Tryz.zeroValue421
 t77:=Tryz.underlying422
 a77:=Tryz.isAgg422
 z77:=Tryz.sizeOf422
 v77:=Tryz.zeroValue422}
def Tryz.sortLine_ren:Go.Shelf.Ren:=⟨λ|6=>162|15=>109|14=>243|28=>177|29=>178|20=>294|21=>295|22=>296|23=>297|24=>298|25=>299|26=>300|27=>301|46=>336|47=>254|48=>255|49=>337|50=>338|57=>369|n=>n,λ|22=>214|24=>75|25=>219|3=>3|39=>229|0=>0|53=>34|55=>291|4=>4|46=>284|45=>283|50=>264|5=>5|9=>9|66=>365|70=>369|76=>421|77=>422|n=>n,λ|n=>n⟩
def Tryz.sortLine:Go.Proofs.SlLaysF.n6 Tryz.prog Tryz.sortLine_ren:={
 mixed:=by kernel_rfl
 f6:=⟨Tryz.f162.name,by decide,Tryz.func162.trans (congrArg some (by kernel_rfl))⟩
 f14:=⟨Tryz.f243.name,by decide,Tryz.func243.trans (congrArg some (by kernel_rfl))⟩
 f15:=Tryz.func109.trans (congrArg some (by kernel_rfl))
 f20:=⟨Tryz.f294.name,by decide,Tryz.func294.trans (congrArg some (by kernel_rfl))⟩
 f21:=⟨Tryz.f295.name,by decide,Tryz.func295.trans (congrArg some (by kernel_rfl))⟩
 f22:=⟨Tryz.f296.name,by decide,Tryz.func296.trans (congrArg some (by kernel_rfl))⟩
 f23:=⟨Tryz.f297.name,by decide,Tryz.func297.trans (congrArg some (by kernel_rfl))⟩
 f24:=⟨Tryz.f298.name,by decide,Tryz.func298.trans (congrArg some (by kernel_rfl))⟩
 f25:=⟨Tryz.f299.name,by decide,Tryz.func299.trans (congrArg some (by kernel_rfl))⟩
 f26:=⟨Tryz.f300.name,by decide,Tryz.func300.trans (congrArg some (by kernel_rfl))⟩
 f27:=⟨Tryz.f301.name,by decide,Tryz.func301.trans (congrArg some (by kernel_rfl))⟩
 f28:=Tryz.func177.trans (congrArg some (by kernel_rfl))
 f29:=Tryz.func178.trans (congrArg some (by kernel_rfl))
 f46:=⟨Tryz.f336.name,by decide,Tryz.func336.trans (congrArg some (by kernel_rfl))⟩
 f47:=Tryz.func254.trans (congrArg some (by kernel_rfl))
 f48:=Tryz.func255.trans (congrArg some (by kernel_rfl))
 f49:=⟨Tryz.f337.name,by decide,Tryz.func337.trans (congrArg some (by kernel_rfl))⟩
 f50:=⟨Tryz.f338.name,by decide,Tryz.func338.trans (congrArg some (by kernel_rfl))⟩
 f57:=⟨Tryz.f369.name,by decide,Tryz.func369.trans (congrArg some (by kernel_rfl))⟩
 t0:=Tryz.underlying0
 a0:=Tryz.isAgg0
 z0:=Tryz.sizeOf0
 v0:=Tryz.zeroValue0
 t3:=Tryz.underlying3
 a3:=Tryz.isAgg3
 z3:=Tryz.sizeOf3
 v3:=Tryz.zeroValue3
 t4:=Tryz.underlying4
 a4:=Tryz.isAgg4
 z4:=Tryz.sizeOf4
 v4:=Tryz.zeroValue4
 t5:=Tryz.underlying5
 a5:=Tryz.isAgg5
 z5:=Tryz.sizeOf5
 v5:=Tryz.zeroValue5
 t9:=Tryz.underlying9
 a9:=Tryz.isAgg9
 z9:=Tryz.sizeOf9
 v9:=Tryz.zeroValue9
 t22:=Tryz.underlying214
 a22:=Tryz.isAgg214
 z22:=Tryz.sizeOf214
 v22:=Tryz.zeroValue214
 a24:=Tryz.isAgg75
 z24:=Tryz.sizeOf75
 t25:=Tryz.underlying219
 a25:=Tryz.isAgg219
 z25:=Tryz.sizeOf219
 v25:=Tryz.zeroValue219
 t39:=Tryz.underlying229
 a39:=Tryz.isAgg229
 z39:=Tryz.sizeOf229
 v39:=Tryz.zeroValue229
 t45:=Tryz.underlying283
 a45:=Tryz.isAgg283
 z45:=Tryz.sizeOf283
 v45:=Tryz.zeroValue283
 t46:=Tryz.underlying284
 a46:=Tryz.isAgg284
 z46:=Tryz.sizeOf284
 v46:=Tryz.zeroValue284
 t50:=Tryz.underlying264
 a50:=Tryz.isAgg264
 z50:=Tryz.sizeOf264
 v50:=Tryz.zeroValue264
 t53:=Tryz.underlying34
 a53:=Tryz.isAgg34
 z53:=Tryz.sizeOf34
 v53:=Tryz.zeroValue34
 t55:=Tryz.underlying291
 a55:=Tryz.isAgg291
 z55:=Tryz.sizeOf291
 v55:=Tryz.zeroValue291
 t66:=Tryz.underlying365
 a66:=Tryz.isAgg365
 z66:=Tryz.sizeOf365
 v66:=Tryz.zeroValue365
 t70:=Tryz.underlying369
 a70:=Tryz.isAgg369
 z70:=Tryz.sizeOf369
 v70:=Tryz.zeroValue369
 t76:=Tryz.underlying421
 a76:=Tryz.isAgg421
 z76:=Tryz.sizeOf421
 v76:=Tryz.zeroValue421
 t77:=Tryz.underlying422
 a77:=Tryz.isAgg422
 z77:=Tryz.sizeOf422
 v77:=Tryz.zeroValue422}
end Go.Proofs
end
namespace Go.Proofs.YtfjifcfbmhpcaaaGreatDoor
open Go
open Go.Proofs.Tryz renaming prog → Zp
open Go.IntKind renaming i64 → Zk, wrap → Zw
open Go.Addr renaming add → Za
open Go.Value renaming int → Zi, string → Zs, pointer → Zq, bool → Zb, tuple → Zt, slice → Zl, agg → Zg
open _root_.Option renaming some->A0,none->A2,map_some->Be,getD_some->Ci
open _root_.List renaming getElem?_eq_some_iff->A1,getElem?_eq_getElem->A4,mem_cons->A5,mem_map->A6,length_cons->A9,map_append->Aa,getElem?_set->Ac,map_cons->Ad,filter_eq_self->Af,length_map->Ag,mem_cons_of_mem->Ah,filter_append->Ai,length_nil->Aj,append_assoc->Ak,length_filter_le->Am,perm_append_comm->An,length_append->Ap,mem_cons_self->Aq,eq_nil_of_length_eq_zero->As,getElem?_map->Au,nodup_cons->Av,perm_middle->Aw,getElem?_append_right->Ax,getElem?_append_left->Ay,pairwise_cons->B1,flatMap_cons->B2,mem_of_getElem?->B5,length_eraseIdx_of_lt->B7,not_mem_nil->B9,filter_sublist->Bb,take_left'->Bf,filter_congr->Bg,length_set->Bl,map_map->Bn,flatMap->Bo,filter_filter->Bp,mem_singleton->Bq,take_add_one->Bt,filter_cons->Bw,length_take->Bx,cons_append->By,map_set->C0,take_of_length_le->C1,filter_eq_nil_iff->C2,mem_filter->C3,mem_append->C5,set_getElem_self->C6,length->C7,getElem?_of_mem->C8,flatMap_append->C9,getElem?_take->Cc,size_toArray->Cd,nodup_append->Cf,take_length->Cg,length_drop->Ch,isEmpty_iff->Cj,filter_map->Cm,append_nil->Co,take_take->Cs,sum_cons->Cu,map->Cz,filter->D0
open _root_.Bool renaming false->A3,true->A8,and_false->B6,and_true->Bc,not_eq_true->Bh,eq_iff_iff->Bj,not_false->Bs,not_eq_true'->Bu,or_false->Ca,false_and->Cq,and_comm->Ct,or_true->Cx
open Go renaming World->A7,Value->Ab,Addr->Az,TypeId->Cw
open _root_.Int renaming toNat->Ae,toNat_natCast->B3
open Go.Lib renaming compareInt->Ao
open _root_.Nat renaming le_trans->Ar,zero_add->Ba,le_refl->Bi,mul_le_mul_left->Bm,eq_zero_or_pos->Br,sub_zero->Bz,min_eq_left->C4,lt_of_le_of_lt->Cb,lt_or_ge->Ce,zero_le->Cl,strongRecOn->Cp,add_zero->Cv,mul_one->Cy
open _root_.Prod.mk renaming injEq->B0
open _root_.Prod renaming fst->B4
open _root_.Option.some renaming inj->Bd,injEq->D1
open Go.Builtin renaming zeroCells->Bv,clear_->Cr
section
section
variable{W w:World}{F:List Asn}{q:Nat}{t:TypeId}{all vs:List Value}
def St.putRow_id(h:St W (Row q t all::F) w)(g:vs.length<=all.length)(n:Nat)(os:Array Obj):St W (Row q t (vs++all.drop vs.length)::F) (Sort.grow (Sort.putRow id (Sort.ahead w n) q 0 vs.toArray) os):=by
 have f:St W (Row q t (vs++all.drop vs.length)::F) (Sort.putRow id (Sort.ahead w n) q 0 vs.toArray):=by
  refine St.turnRow (cs:=all) (w:=Sort.ahead w n) ⟨⟨h.1.os,h.1.tape,h.1.output,h.1.size⟩,h.2⟩ (λd c=>?_) ?_
  .refine List.ext_getElem? λj=>?_;unfold Sort.putCells;rw[Array.getElem?_toList,Array.getElem?_mapIdx];have b:d[j]?=all[j]?:=by rw[<-c,Array.getElem?_toList]
   rw[b];by_cases a:j<vs.length
   .rw[Ay a,A4 (show j<all.length by omega)];simp only[Be,Cl,yL,Ba,Cd,a,if_true,Bz,id];rw[A4 a];simp[a]
   .rw[Ax (by omega),List.getElem?_drop];have e:vs.length+(j - vs.length)=j:=by omega
    rw[e];cases all[j]? with
    |none=>rfl
    |some v=>simp only[Be,Cl,yL,Ba,Cd,a,if_false]
  .simp;omega
 exact f.grow_ 0 os
end
section
variable{α:Type}[Inhabited α]{enc:α->List Value}{k:Nat}
def qnl(w:∀x,(enc x).length=k)(c:0<k)(l:List α):Sort.flatK enc k l.toArray=(l.flatMap enc).toArray:=by
 have g:=qh3 enc k w l;refine Array.ext (by simp[g]) λi f o=>?_;have d:i<l.length*k:=by simpa using f
 have b:i/k<l.length:=Nat.div_lt_of_lt_mul (by rwa[Nat.mul_comm]);have m:i%k<k:=Nat.mod_lt _ c;have e:=Sort.get_flatK enc k l.toArray i (by simpa using d);rw[getElem!_pos _ i f]at e;rw[e];have j:l.toArray[i/k]! =l[i/k]:=by rw[getElem!_pos _ _ (by simpa using b)];simp
 rw[j];have h:=qrd enc k c w l i;rw[A4 b,Option.bind_some]at h;have a:i%k<(enc l[i/k]).length:=by rw[w];exact m
 rw[A4 a]at h;rw[getElem!_pos (enc l[i/k]) (i%k) a];have n:i<(l.flatMap enc).length:=by rw[g];exact d
 rw[A4 n]at h;simp only[List.getElem_toArray];exact(Bd h).symm
def q2v(d:∀x,(enc x).length=k)(g:0<k){W w:A7}{F:List Asn}{q:Nat}{t:Cw}{all:List Ab}{l:List α}(h:St W (Row q t all::F) w)(b:all.take (l.length*k)=l.flatMap enc)(f:l.length*k<=all.length):Sort.HoldsK enc k w q 0 l.toArray:=by
 unfold Sort.HoldsK;rw[qnl d g];intro j a;have n:=qh3 enc k d l;have a:j<(l.flatMap enc).length:=by simpa using a
 have m:all[j]?=A0 (l.flatMap enc)[j]:=by
  have c:(all.take (l.length*k))[j]?=A0 (l.flatMap enc)[j]:=by rw[b,A4 a]
  rw[Cc,yB (by omega)]at c;exact c
 have e:=h.st (i:=j) (by omega) (Zb A8);rw[Ba];refine⟨?_,e.1.2⟩;rw[h.ld m];simp;rw[A4 a];rfl
def q5j{W w:A7}{F:List Asn}{q:Nat}{t:Cw}{all:List Ab}(h:St W (Row q t all::F) w):q<w.heap.size:=by obtain⟨d,b,⟨e,c,a,_⟩,_⟩:=h.2;exact qr6 (w:=w) (b _ _ a)
end
end
section
structure qd6 where
 ends:List (Int×(Int×Bool))
 ever:List (Int×Int)
def qy4(e:Int×Bool):Ab:=Zg #[Zi Zk e.1,Zb e.2]
def q13(t:Nat)(P:qd6):Asn:=exA λm:Nat×Nat=>qz [Row t 179 [.map (A0 m.1),.map (A0 m.2)],qg (Zi Zk) qy4 m.1 P.ends,qg (Zi Zk) (Zi Zk) m.2 P.ever]
def uM1:Zp.underlying 176=A0 (.map 3 195):=Tryz.underlying176
def uM2:Zp.underlying 177=A0 (.map 3 3):=Tryz.underlying177
def quv:Zp.info? 195=A0 Tryz.t195:=by kernel_rfl
def q6w:Tryz.t195.zero=A0 (qy4 (0,A3)):=rfl
def qsq:Zp.info? 3=A0 Tryz.t3:=by kernel_rfl
def q6q:Tryz.t3.zero=A0 (Zi Zk 0):=rfl
def q4x(P:qd6)(id:Int):Bool:=decide ((qe P.ever id).getD 0>0)
def qb4(P:qd6)(id:Int):Int:=((qe P.ends id).getD (0,A3)).1
def qxf(P:qd6)(id:Int):qd6:=if(qe P.ends id).isSome=A8 then { P with ends:=qp (qp P.ends id) (qb4 P id)}else P
def qaj(L:List (Int×Int))(id:Int):List (Int×Int):=qk L id (Zw Zk ((qe L id).getD 0+1))
def q4g(P:qd6)(v c:Int):qd6×Int:=
 if(decide (v<1)||(decide (c<1)||(v==c)))=A8 then(P,1)else if(q4x P v||q4x P c)=A8 then(P,4)else
 (⟨qk (qk P.ends v (c,A8)) c (v,A3),qaj (qaj P.ever v) c⟩,0)
def qw4(P:qd6):List Int:=q91 leI ((P.ends.filter λx=>x.2.2).map (·.1))
def qtc(P:qd6):List (Int×Int):=(qw4 P).map λv=>(v,qb4 P v)
section
variable{W w:World}{F:List Asn}{t:Nat}{P:qd6}{id:Int}
def q13.open_(h:St W (q13 t P::F) w):∃m1 m2,St W (Row t 179 [.map (A0 m1),.map (A0 m2)]::qg (Zi Zk) qy4 m1 P.ends::qg (Zi Zk) (Zi Zk) m2 P.ever::F) w:=by obtain⟨⟨m1,m2⟩,h⟩:=h.of_ex;exact⟨m1,m2,h.of_sep⟩
def q13.shut(m1 m2:Nat)(h:St W (Row t 179 [.map (A0 m1),.map (A0 m2)]::qg (Zi Zk) qy4 m1 P.ends::qg (Zi Zk) (Zi Zk) m2 P.ever::F) w):St W (q13 t P::F) w:=z00 (m1,m2) (zj (l:=[_,_,_]) h)
def PNew_spec(h:St W F w):qb Zp 41 #[] w λv w'=>∃t,v=qc t/\St W (q13 t ⟨[],[]⟩::F) w':=
 F41_of (qs5.f (ν:=Int×Bool) (Zi Zk) qy4 h λm1 w h=>qs5.f (ν:=Int) (Zi Zk) (Zi Zk) h λm2 w h=>zh h λt w h=>⟨t,rfl,q13.shut m1 m2 (zl 3 [0,2,1] h yR)⟩)
def qjj(L:List (Int×Int))(id:Int):((qe L id).map (Zi Zk)).getD (Zi Zk 0)=Zi Zk ((qe L id).getD 0):=by cases qe L id<;>rfl
def q1y(L:List (Int×(Int×Bool)))(id:Int):((qe L id).map qy4).getD (qy4 (0,A3))=qy4 ((qe L id).getD (0,A3)):=by cases qe L id<;>rfl
def q7m(h:St W (q13 t P::F) w):qb Zp 390 #[qc t,Zi Zk id] w λv w'=>v=Zb (q4x P id)/\St W (q13 t P::F) w':=by obtain⟨m1,m2,h⟩:=q13.open_ h;refine F390_of (z7 (zv 0 h yR yR (qq1 kI uM2 qsq q6q 2 h yR id A3 ?_)));rw[yA (by simp),qjj];exact⟨_,rfl,rfl,q13.shut m1 m2 h⟩
def qnq(h:St W (q13 t P::F) w):qb Zp 228 #[qc t,Zi Zk id] w λv w'=>v=Zt #[Zi Zk (qb4 P id),Zb (qe P.ends id).isSome]/\St W (q13 t P::F) w':=by obtain⟨m1,m2,h⟩:=q13.open_ h;refine F228_of (z7 (zv 0 h yR yR (qq1 kI uM1 quv q6w 1 h yR id A8 ?_)));rw[yB yR,q1y];unfold qb4;generalize (qe P.ends id).getD (0,A3)=e;refine⟨_,_,_,rfl,zh h λb w h=>St1.zz 0 h yR λw h=>St1.zz 0 h yR λw h=>z8 0 h yR yR ⟨rfl,q13.shut m1 m2 h.drop⟩⟩
def q4v(a:St W (q13 t P::F) w):qb Zp 151 #[qc t,Zi Zk id] w λv w'=>v=Zt #[Zi Zk (qb4 P id),Zb (qe P.ends id).isSome]/\St W (q13 t (qxf P id)::F) w':=by
 unfold qxf;refine F151_of ((qnq a).of λv w ⟨b,a⟩=>⟨_,_,b,za (λh=>?_) λh=>?_⟩)
 .rw[yB h];obtain⟨m1,m2,a⟩:=q13.open_ a;exact z7 (zv 0 a yR yR (qc5 kI uM1 1 a yR id λw a=>z7 (zv 0 a yR yR (qc5 kI uM1 1 a yR (qb4 P id) λw a=>⟨rfl,q13.shut (P:={ P with ends:=qp (qp P.ends id) (qb4 P id)}) m1 m2 a⟩))))
 .rw[yA (by rw[h];simp)];exact⟨rfl,a⟩
def qot{v c:Int}(a:St W (q13 t P::F) w):qb Zp 362 #[qc t,Zi Zk v,Zi Zk c] w λr w'=>r=Zi Zk (q4g P v c).2/\St W (q13 t (q4g P v c).1::F) w':=by
 refine F362_of ⟨λ_ w=>q4g P v c=(⟨qk (qk P.ends v (c,A8)) c (v,A3),qaj (qaj P.ever v) c⟩,0)/\St W (q13 t P::F) w,⟨λvs w=>vs=[Zb (decide (v<1)||(decide (c<1)||(v==c)))]/\St W (q13 t P::F) w,?_,λx w e=>?_⟩,λw e=>?_⟩;.exact za (λh=>⟨by rw[h];rfl,a⟩) λh=>za (λb=>⟨by rw[h,b];rfl,a⟩) λb=>⟨by rw[h,b];rfl,a⟩
 .obtain⟨j,a⟩:=e;cases j;unfold q4g;refine za (λh=>?_) λh=>?_;.rw[yB h];exact⟨rfl,a⟩
  rw[yA (by rw[h];simp)];refine(q7m a).of λr w ⟨i,a⟩=>⟨_,i,za (λb=>zm b ?_) λb=>?_⟩;.rw[yB (by rw[b];rfl)];exact⟨rfl,a⟩
  refine(q7m a).of λr w ⟨i,a⟩=>⟨_,i,za (λf=>?_) λf=>?_⟩;.rw[yB (by rw[b,f];rfl)];exact⟨rfl,a⟩
  rw[yA (by rw[b,f];simp)];exact⟨rfl,a⟩
 .obtain⟨l,a⟩:=e;rw[l];obtain⟨m1,m2,a⟩:=q13.open_ a;have g:=z6 W (Row t 179 [.map (A0 m1),.map (A0 m2)]::qg (Zi Zk) qy4 m1 P.ends::qg (Zi Zk) (Zi Zk) m2 P.ever::F);have d:q2d Zp 3 (Zi Zk):=q2d.of kI;refine⟨StC W _,zd a,z7 (z7 ⟨_,z0b 0 g yR yR,_,z0b 0 g yR yR,?_⟩)⟩;refine zk (α:=Nat) (V:=λk=>Zt #[qy4 ((qe P.ends v).getD (0,A3)),Zi Zk (k:Int)]) (B:=λk=>qs6 (Zi Zk) qy4 m1 (qk P.ends v ((qe P.ends v).getD (0,A3))) v k::Row t 179 [.map (A0 m1),.map (A0 m2)]::qg (Zi Zk) (Zi Zk) m2 P.ever::F) 0 g (λG w h=>qve d uM1 (z:=(0,A3)) quv q6w 1 h yR v λk w h=>⟨_,_,rfl,k,rfl,zf 1 0 h yR⟩) λk=>⟨_,_,rfl,trivial,?_⟩;refine zk (α:=Unit) (V:=λ_=>Zt #[]) (B:=λ_=>qg (Zi Zk) qy4 m1 (qk P.ends v (c,A8))::Row t 179 [.map (A0 m1),.map (A0 m2)]::qg (Zi Zk) (Zi Zk) m2 P.ever::F) () ir (λG w h=>qvb (vl:=qy4) d (qj1 _ _ _) (c,A8) 0 h yR λw h=>⟨(),rfl,by rw[qe7]at h;exact h⟩) λ_=>⟨rfl,trivial,?_⟩;refine zk (α:=Nat) (V:=λk=>Zt #[qy4 ((qe (qk P.ends v (c,A8)) c).getD (0,A3)),Zi Zk (k:Int)]) (B:=λk=>qs6 (Zi Zk) qy4 m1 (qk (qk P.ends v (c,A8)) c ((qe (qk P.ends v (c,A8)) c).getD (0,A3))) c k::Row t 179 [.map (A0 m1),.map (A0 m2)]::qg (Zi Zk) (Zi Zk) m2 P.ever::F) 0 ir (λG w h=>qve d uM1 (z:=(0,A3)) quv q6w 0 h yR c λk w h=>⟨_,_,rfl,k,rfl,h⟩) λk=>⟨_,_,rfl,trivial,?_⟩;refine zk (α:=Unit) (V:=λ_=>Zt #[]) (B:=λ_=>qg (Zi Zk) qy4 m1 (qk (qk P.ends v (c,A8)) c (v,A3))::Row t 179 [.map (A0 m1),.map (A0 m2)]::qg (Zi Zk) (Zi Zk) m2 P.ever::F) () ir (λG w h=>qvb (vl:=qy4) d (qj1 _ _ _) (v,A3) 0 h yR λw h=>⟨(),rfl,by rw[qe7]at h;exact h⟩) λ_=>⟨rfl,trivial,λG w h=>z7 ?_⟩;have a:=zb h;refine zv 1 a yR yR (qq1 kI uM2 qsq q6q 2 a yR v A3 ?_);rw[yA (by simp),qjj];refine⟨_,rfl,qh1 (vl:=Zi Zk) kI uM2 2 a yR v _ λw a=>z7 (zv 1 a yR yR (qq1 kI uM2 qsq q6q 2 a yR c A3 ?_))⟩;rw[yA (by simp),qjj];exact⟨_,rfl,qh1 (vl:=Zi Zk) kI uM2 2 a yR c _ λw a=>⟨rfl,q13.shut (P:=⟨qk (qk P.ends v (c,A8)) c (v,A3),qaj (qaj P.ever v) c⟩) m1 m2 (zl 3 [1,0,2] a yR)⟩⟩
end
end
section
def qlp(x:Int)(w:A7):qb Zp 153 #[Zi Zk x] w λv w'=>v=Zb A3/\w'=w:=by refine F153_of ?_;simp
def ql01(x y:Int)(w:A7):qb Zp 88 #[Zi Zk x,Zi Zk y] w λv w'=>v=Zi Zk (Ao x y)/\w'=w:=by
 unfold Ao;refine F88_of ((qlp x w).of λv w1 ⟨d,c⟩=>⟨_,d,(qlp y w1).of λv e ⟨d,a⟩=>⟨_,d,zn yR (zn yR (za (λh=>⟨?_,a.trans c⟩) λh=>za (λb=>⟨?_,a.trans c⟩) λb=>⟨?_,a.trans c⟩))⟩⟩);.rw[yB (yC h)]
 .rw[yA (yD h),yB (yC b)]
 .rw[yA (yD h),yA (yD b)]
def qfz(x h y a:Int)(w:A7):qb Zp 87 #[Zg #[Zi Zk x,Zi Zk h],Zg #[Zi Zk y,Zi Zk a]] w λv w'=>v=Zi Zk (Ao x y)/\∃q os,w'=Sort.grow (w.drewN q) os:=by refine F87_of ?_;unfold qh;have c:=(St.refl w).allocRow #[Zi Zk x,Zi Zk h] 122;have b:=c.allocRow #[Zi Zk y,Zi Zk a] 122;refine z8 1 b yR yR (z8 0 b yR yR ((ql01 x y _).of λv w' ⟨e,d⟩=>⟨_,e,rfl,0,#[.cells #[Zi Zk x,Zi Zk h] 122,.cells #[Zi Zk y,Zi Zk a] 122],?_⟩));rw[d,Sort.alloc_eq_grow,Sort.alloc_eq_grow,Sort.grow_grow];rfl
def q52(oth:Int->Int)(v:Int):List Ab:=[Zi Zk v,Zi Zk (oth v)]
def qc9(oth:Int->Int)(v:Int):(q52 oth v).length=2:=rfl
def qyy(oth:Int->Int)(x:Int):∀v∈q52 oth x,qn1 v:=λv h=>by simp only[q52,A5,B9,yK]at h;rcases h with rfl|rfl<;>trivial
def qrs:Zp.underlying 50=A0 (.slice 122):=Tryz.underlying50
def qc01:Zp.info? 122=A0 Tryz.t122:=by kernel_rfl
def qs01:Tryz.t122.size=2:=rfl
def q601:Tryz.t122.bytes<=100:=by decide+kernel
def qm01:∃z,Tryz.t122.zero=A0 z/\z.cells.size=2:=⟨_,rfl,rfl⟩
def qzk(x y:Int):(!(ltOf Ao) y x)=decide (x<=y):=by
 unfold ltOf Ao;by_cases w:y<x;.rw[yB w];simp;omega
 .rw[yA w];by_cases h:y>x;.rw[yB h];simp;omega
  .rw[yA h];simp;omega
def q5z:Sort.SWO (ltOf Ao):=by
 have h:∀x y:Int,ltOf Ao x y=decide (x<y):=λx y=>by
  have:=qzk y x;rw[Bj]at this⊢;simp only[Bu,yJ]at this⊢;by_cases b:x<y
  .constructor;.intro _;exact b
   .intro _;cases a:ltOf Ao x y with
    |true=>rfl
    |false=>have:=this.1 a;omega
  .constructor
   .intro a;have w:=this.2 (by omega);rw[a]at w;cases w
   .intro h;exact yI h b
 refine⟨λx=>by rw[h];simp,λx y z c w=>?_,λx y z c w=>?_⟩;.rw[h]at*;simp at*;omega
 .rw[h]at*;simp at*;omega
section
variable{W w:World}{F:List Asn}{oth:Int->Int}
def qmr{p:Option Az}{c:Nat}{zs:List Int}(L:zs.length<=1000000)(i:St W (SlA 122 2 (q52 oth) p c zs::F) w):
 qb Zp 86 #[Zl p zs.length c,.func (.func 87) #[] #[]] w λv w'=>v=Zt #[]/\St W (SlA 122 2 (q52 oth) p c (q91 leI zs)::F) w':=by
 by_cases z:zs=[]
 .subst z;have key:=AnyF.slices_SortFunc_none Tryz.sortPair p c (.func (.func 87) #[] #[]) w;exact Calls.mono key λe w' ⟨d,f⟩=>⟨_,d,rfl,by subst f;exact i⟩
 have b:0<zs.length:=by cases zs with|nil=>exact yI yR z|cons _ _=>simp
 have o:zs.length<=c:=SlA.le i;obtain⟨q,all,A,a,j,r⟩:=qi.opened b i;clear i;subst A;have D:=qh3 (q52 oth) 2 (qc9 oth) zs;have B:=q2v (k:=2) (qc9 oth) (by omega) r j (by rw[a];omega);have H:∀args w,(callFunc 87 args).run Zp w=.ok (.enter 87 args) w:=enters_of Tryz.func87 (by kernel_rfl) yR;have key:=AnyQ.slices_SortFunc_total Tryz.sortPair 2 (λw=>by kernel_rfl) (λw=>by kernel_rfl) (q52 oth) (qc9 oth) (λx v g=>by simp[q52]at g;rcases g with rfl|rfl<;>rfl) Ao q5z 87 #[] q 0 c zs.toArray w H
  (λm os I J x y=>Calls.mono (qfz x (oth x) y (oth y) _) λe w' ⟨v,d,g,f⟩=>⟨by rw[d,g],f⟩) B (q5j r) (by simp;omega) (λx y C E=>by have t:=qzk y x;have u:=qzk x y;rw[C]at t;rw[E]at u;have K:=yC t.symm;have a2:=yC u.symm;omega)
 have e:(zs.toArray.toList.mergeSort λx y=>!(ltOf Ao) y x)=q91 leI zs:=by rw[show(λx y:Int=>!(ltOf Ao) y x)=λx y=>decide (x<=y)from funext λx=>funext λy=>qzk x y];exact qee (List.Perm.refl _)
 rw[e]at key;have l:zs.toArray.size=zs.length:=by simp
 rw[l]at key;refine Calls.mono key λe w' ⟨d,n,os,f⟩=>⟨_,d,rfl,?_⟩;subst f;have s:(q91 leI zs).length=zs.length:=(qv1 leI zs).length_eq;have h:=qh3 (q52 oth) 2 (qc9 oth) (q91 leI zs);have G:St W (Row q 122 ((q91 leI zs).flatMap (q52 oth)++all.drop ((q91 leI zs).flatMap (q52 oth)).length)::F) (sortWorldK (q52 oth) 2 w q 0 n (q91 leI zs).toArray os):=by unfold sortWorldK Sort.putRowK;rw[qnl (qc9 oth) (by omega)];exact r.putRow_id (by rw[h,a];omega) n os
 refine z0x (all:=(q91 leI zs).flatMap (q52 oth)++all.drop ((q91 leI zs).flatMap (q52 oth)).length) ?_ (by rw[s];exact o) (by rw[<-h,Bf yR]) G;rw[Ap,Ch,h,a];omega
end
section
variable{W w:World}{F:List Asn}{t:Nat}{P:qd6}
def qfk(hl:P.ends.length<=1000000)(a:St W (q13 t P::F) w):qb Zp 47 #[qc t] w λv w'=>∃p c,v=Zl p (qw4 P).length c/\St W (SlA 122 2 (q52 (qb4 P)) p c (qw4 P)::q13 t P::F) w':=by
 obtain⟨m1,m2,a⟩:=q13.open_ a;have A:=z18 kI (zf 1 0 a yR);refine F47_of (z7 (zv 0 a yR yR (qg9 uM1 1 a yR λg w a=>?_)));have a:St W (qd1 (Zi Zk) qy4 m1 g P.ends []::SlA 122 2 (q52 (qb4 P)) A2 0 []::Row t 179 [.map (A0 m1),.map (A0 m2)]::qg (Zi Zk) (Zi Zk) m2 P.ever::F) w:=zf 0 1 (z09 (zf 1 0 a yR)) yR;refine⟨λvs w=>∃(V:List (Int×(Int×Bool))) (p:Option Az) (c:Nat),vs=[Zl p ((V.filter λx=>x.2.2).map (·.1)).length c]/\V.length<=P.ends.length/\(∀x∈V,x∈P.ends)/\St W (qd1 (Zi Zk) qy4 m1 g P.ends V::SlA 122 2 (q52 (qb4 P)) p c ((V.filter λx=>x.2.2).map (·.1))::Row t 179 [.map (A0 m1),.map (A0 m2)]::qg (Zi Zk) (Zi Zk) m2 P.ever::F) w,λ_ w=>q74 g P.ends.length w,⟨[],A2,0,rfl,by simp,by simp,a⟩,λop on n w0 Z=>?_⟩;obtain⟨V,p,c,he,T,s,u⟩:=Z;cases he;have o:=qd1.left u P.ends.length;refine qqb kI 0 u yR (λy L C w a=>?_) λx d Y w a=>qp9 0 a yR λa=>?_
 .have R:V.Perm P.ends:=(List.perm_ext_iff_of_nodup L (ql4 (·.1) A)).2 λx=>⟨C x,y x⟩;have B:((V.filter λx=>x.2.2).map (·.1)).Perm ((P.ends.filter λx=>x.2.2).map (·.1)):=(R.filter _).map _;have a:St W (SlA 122 2 (q52 (qb4 P)) op n ((V.filter λx=>x.2.2).map (·.1))::qg (Zi Zk) qy4 m1 P.ends::Row t 179 [.map (A0 m1),.map (A0 m2)]::qg (Zi Zk) (Zi Zk) m2 P.ever::F) w:=zf 0 1 a yR;have I:((V.filter λx=>x.2.2).map (·.1)).length<=1000000:=by rw[Ag];exact Ar (Am _ _) (by omega)
  refine(qmr I a).of λv w ⟨hv,a⟩=>⟨hv,op,n,?_,?_⟩
  .unfold qw4;rw[(qv1 leI _).length_eq,B.length_eq]
  .rw[q88 B]at a;exact(q13.shut m1 m2 (zl 4 [2,1,3,0] a yR) |> λh=>St.p1 h)
 .obtain⟨k,e⟩:=x;have M:qe P.ends k=A0 e:=q24 A d;have r:qb4 P k=e.1:=by unfold qb4;rw[M];rfl
  refine⟨_,_,_,rfl,zh a λb w a=>St1.zz 0 a yR λw a=>St1.zz 0 a yR λw a=>zx 0 a yR yR ?_⟩;have a:St W (Row b 195 [Zi Zk e.1,Zb e.2]::qd1 (Zi Zk) qy4 m1 g P.ends (V++[(k,e)])::SlA 122 2 (q52 (qb4 P)) op n ((V.filter λx=>x.2.2).map (·.1))::Row t 179 [.map (A0 m1),.map (A0 m2)]::qg (Zi Zk) (Zi Zk) m2 P.ever::F) w:=a;have X:V.length<P.ends.length:=by have hr:St W (Row b 195 [Zi Zk e.1,Zb e.2]::SlA 122 2 (q52 (qb4 P)) op n ((V.filter λx=>x.2.2).map (·.1))::qd1 (Zi Zk) qy4 m1 g P.ends (V++[(k,e)])::Row t 179 [.map (A0 m1),.map (A0 m2)]::qg (Zi Zk) (Zi Zk) m2 P.ever::F) w:=zf 1 2 a yR;exact q58 kI hr
  have l:∀(w':A7) (G:List Asn),St W (qd1 (Zi Zk) qy4 m1 g P.ends (V++[(k,e)])::G) w'->q74 g P.ends.length w'<q74 g P.ends.length w0:=λw' G h=>by rw[o,qd1.left h P.ends.length,Ap,List.length_singleton];omega
  refine za (λh=>z8 0 a yR yR (zh a λj w a=>?_)) λh=>⟨⟨V++[(k,e)],op,n,?_,by simp;omega,λx d=>?_,?_⟩,l w _ a.drop⟩
  .obtain⟨z,hz,K⟩:=qm01;have Q:((V.filter λx=>x.2.2).map (·.1)).length<=V.length:=by rw[Ag];exact Am _ _
   have J:∀(j:Nat) (G:List Asn),Rd (Row j 122 [Zi Zk k,Zi Zk e.1]::G) (A0 ⟨j,0,A2⟩) ([k].flatMap (q52 (qb4 P))):=λj G=>z0t 0 λi v h=>by
    have q:[k].flatMap (q52 (qb4 P))=[Zi Zk k,Zi Zk e.1]:=by simp[q52,r]
    rw[q]at h;rw[Ba];exact h
   have D:(((V.filter λx=>x.2.2).map (·.1)).length+[k].length)*Tryz.t122.bytes<=140737488355328:=by have:=q601;simp only[A9,Aj];exact Ar (Bm _ this) (by omega)
   have E:((V.filter λx=>x.2.2).map (·.1)).length+[k].length<=9223372036854775807:=by simp only[A9,Aj];omega
   have a:St W (Row j 122 [Zi Zk k,Zi Zk e.1]::Row b 195 [Zi Zk e.1,Zb e.2]::qd1 (Zi Zk) qy4 m1 g P.ends (V++[(k,e)])::SlA 122 2 (q52 (qb4 P)) op n ((V.filter λx=>x.2.2).map (·.1))::Row t 179 [.map (A0 m1),.map (A0 m2)]::qg (Zi Zk) (Zi Zk) m2 P.ever::F) w:=a;have key:=λFF U H=>qf3 (P:=Zp) (ty:=50) (F:=FF) (sT:=50) (xT:=50) (m:=1) (sc:=1) (sp:=A0 ⟨j,0,A2⟩) (f:=q52 (qb4 P)) (os:=(V.filter λx=>x.2.2).map (·.1)) (xs:=[k]) (qc9 (qb4 P)) qrs (.inr ⟨_,qrs⟩) qc01 qs01 hz K 3 a yR (J j _) yR (qyy (qb4 P)) U H;refine key _ D E λO N w a=>?_;have a:St W (Row j 122 [Zi Zk k,Zi Zk e.1]::Row b 195 [Zi Zk e.1,Zb e.2]::qd1 (Zi Zk) qy4 m1 g P.ends (V++[(k,e)])::SlA 122 2 (q52 (qb4 P)) O N (((V.filter λx=>x.2.2).map (·.1))++[k])::Row t 179 [.map (A0 m1),.map (A0 m2)]::qg (Zi Zk) (Zi Zk) m2 P.ever::F) w:=a;refine⟨_,_,_,rfl,⟨V++[(k,e)],O,N,?_,by simp;omega,λx d=>?_,?_⟩,l w _ (zf 2 0 a yR)⟩;.rw[Ai,Aa];simp[show e.2=A8 from h]
   .rcases C5.1 d with d|d;.exact s x d
    .rw[Bq.1 d];assumption
   .rw[Ai,Aa];have q:Cz (·.1) (D0 (λx:Int×(Int×Bool)=>x.2.2) [(k,e)])=[k]:=by simp[show e.2=A8 from h]
    rw[q];exact zl 6 [2,3,4,5] a yR
  .rw[Ai,Aa];simp[show e.2=A3 from h]
  .rcases C5.1 d with d|d;.exact s x d
   .rw[Bq.1 d];assumption
  .rw[Ai,Aa];have q:Cz (·.1) (D0 (λx:Int×(Int×Bool)=>x.2.2) [(k,e)])=[]:=by simp[show e.2=A3 from h]
   rw[q,Co];exact a.drop
end
end
section
namespace Cn
open Go Go.Proofs.YtfjifcfbmhpcaaaGreatDoor
def All_spec{W w:A7}{F:List Asn}{t:Nat}{T:CT}(g:T.L.length<=1000000)(d:St W (TabA t T::F) w):qb Zp 50 #[qc t] w λv w'=>∃p c,v=Zl p T.L.length c/\St W (qi 3 1 p T.L.length c ((q91 leI (T.L.map (·.1))).map (Zi Zk))::TabA t T::F) w':=by
 obtain⟨m,d⟩:=TabA.open_ d;refine F50_of (z7 (zv 0 d yR yR ?_));obtain⟨bs,e,f⟩:=z1d d.p1;have a:(qx (B4 (α:=Nat) (β:=CnD)) bs).length=T.L.length:=by rw[q46,<-e,q46]
 have b:(qx (B4 (α:=Nat) (β:=CnD)) bs).map (·.1)=T.L.map (·.1):=by rw[qx5,<-e,qx5]
 refine q3y (by rw[a];exact g) 0 f yR λp c w' h=>⟨_,_,_,rfl,p,c,by rw[a],?_⟩;rw[a,b]at h;have i:=(z19 (A:=ConnA) bs e (zf 0 2 h yR)).p1;exact(TabA.shut m (zf 1 0 (zf 0 2 i yR) yR):St W (TabA t T::qi 3 1 p T.L.length c ((q91 leI (T.L.map (·.1))).map (Zi Zk))::F) w').p1
end Cn
end
section
namespace Ck
def mrow(P:Program)(t:Cw)(name:String):Option (Nat×Option (FuncId×Bool)):=(P.info? t).bind λi=>(i.methods.find? (·.name==name)).map λm=>(m.path.size,m.func)
def mLen:mrow Zp 318 "Len"=A0 (0,A0 (429,A3)):=by decide+kernel
def uP:Zp.underlying 318=A0 (.pointer 185):=Tryz.underlying318
def uL:Zp.underlying 185=A0 (.slice 316):=Tryz.underlying185
section
variable{P:Program}{w:World}{t l e:TypeId}{name:String}{f:FuncId}{vs:List Value}{K:Value->World->Prop}
def meth_row(c:0<P.types.size){b:Bool}(h:mrow P t name=A0 (0,A0 (f,b))):∃k i m,P.types.size+Made.depth=k+1/\P.info? t=A0 i/\i.methods.find? (·.name==name)=A0 m/\m.path=#[]/\m.func=A0 (f,b):=by unfold mrow at h;obtain⟨i,a,h⟩:=Option.bind_eq_some_iff.1 h;obtain⟨m,w,h⟩:=Option.map_eq_some_iff.1 h;simp only[B0]at h;exact⟨P.types.size+Made.depth - 1,i,m,by omega,a,w,Array.eq_empty_of_size_eq_zero h.1,h.2⟩
def inv_val0{a:Az}{p:Option Az}{n c:Nat}(s:0<P.types.size)(y:P.underlying t=A0 (.pointer l))(A:P.underlying l=A0 (.slice e))(r:mrow P t name=A0 (0,A0 (f,A3)))(o:q33 P f=A8)(g:w.cell? a=A0 (Zl p n c))
 (h:qb P f (Zl p n c::vs).toArray w K):q6d P name (.iface t (Zq (A0 a))) vs w K:=by
 obtain⟨k,i,m,x,u,j,b,q⟩:=meth_row s r;have v:∀(z:String) (w:A7),(Builtin.ssaWrapNilChk_ #[t] t #[Zq (A0 a),strVal "",strVal z]).run P w=.ok (Zq (A0 a)) w:=λ_ _=>rfl;have d:(load a).run P w=.ok (Zl p n c) w:=by unfold load;simp[Sem.run,g]
 refine⟨f,(Zl p n c::vs).toArray,?_,h⟩;simp[invoke,callMethod,x,method,typeInfo,u,j,b,follow,q,receiverAt,run_underlying y,Place.get,v,asAddr,loadVar,isAgg,run_underlying A,d,g,q04 o]
def inv_ptr0{a:Option Az}(j:0<P.types.size)(p:P.underlying t=A0 (.pointer l))(g:mrow P t name=A0 (0,A0 (f,A8)))(d:q33 P f=A8)
 (h:qb P f (Zq a::vs).toArray w K):q6d P name (.iface t (Zq a)) vs w K:=by
 obtain⟨k,i,m,o,n,c,b,e⟩:=meth_row j g;refine⟨f,(Zq a::vs).toArray,?_,h⟩;simp[invoke,callMethod,o,method,typeInfo,n,c,b,follow,e,receiverAt,run_underlying p,Place.get,q04 d]
end
def types0:0<Zp.types.size:=by decide+kernel
def inv_val{w:A7}{a:Az}{name:String}{f:FuncId}{vs:List Ab}{p:Option Az}{n c:Nat}{K:Ab->A7->Prop}(e:mrow Zp 318 name=A0 (0,A0 (f,A3)))(d:q33 Zp f=A8)(b:w.cell? a=A0 (Zl p n c))
 (h:qb Zp f (Zl p n c::vs).toArray w K):q6d Zp name (.iface 318 (Zq (A0 a))) vs w K:=inv_val0 types0 uP uL e d b h
def inv_ptr{w:A7}{a:Option Az}{name:String}{f:FuncId}{vs:List Ab}{K:Ab->A7->Prop}(c:mrow Zp 318 name=A0 (0,A0 (f,A8)))(b:q33 Zp f=A8)
 (h:qb Zp f (Zq a::vs).toArray w K):q6d Zp name (.iface 318 (Zq a)) vs w K:=inv_ptr0 types0 uP c b h
end Ck
end
section
namespace Ck
section
variable{α:Type}(le:α->α->Prop)
def par(k:Nat):Nat:=(k - 1)/2
def HeapF(n:Nat)(f:Nat->α):Prop:=∀k,0<k->k<n->le (f (par k)) (f k)
def UpI(n:Nat)(f:Nat->α)(j:Nat):Prop:=(∀k,0<k->k<n->k≠j->le (f (par k)) (f k))/\(∀k,0<k->k<n->par k=j->0<j->le (f (par j)) (f k))
def HoleI(n:Nat)(f:Nat->α)(i:Nat):Prop:=(∀k,0<k->k<n->k≠i->par k≠i->le (f (par k)) (f k))/\(∀k,0<k->k<n->par k=i->0<i->le (f (par i)) (f k))
def DnI(n:Nat)(f:Nat->α)(i:Nat):Prop:=(∀k,0<k->k<n->par k≠i->le (f (par k)) (f k))/\(∀k,0<k->k<n->par k=i->0<i->le (f (par i)) (f k))
def sw(f:Nat->α)(i j:Nat):Nat->α:=λk=>if k=i then f j else if k=j then f i else f k
structure Order:Prop where
 trans:∀a b c,le a b->le b c->le a c
 total:∀a b,le a b\/le b a
def par_lt{k:Nat}(h:0<k):par k<k:=by unfold par;omega
variable{le}{n i j:Nat}{f:Nat->α}
def UpI.step(i:Order le)(h:UpI le n f j)(q:0<j)(u:j<n)(t:¬le (f (par j)) (f j)):UpI le n (sw f (par j) j) (par j):=by
 have s:=par_lt q;have a:le (f j) (f (par j)):=(i.total _ _).resolve_right t;refine⟨λk w c r=>?_,λk w c m b=>?_⟩
 .unfold sw;by_cases e:k=j
  .subst e;rw[yB yR,yA (by omega),yB yR];exact a
  .rw[yA r,yA e];by_cases d:par k=par j
   .rw[yB d];have:=h.1 k w c e;rw[d]at this;exact i.trans _ _ _ a this
   .rw[yA d];by_cases l:par k=j
    .rw[yB l];exact h.2 k w c l q
    .rw[yA l];exact h.1 k w c e
 .have o:=par_lt b;unfold sw;have g:k≠par j:=λe=>by rw[<-e]at m;have:=par_lt w;omega
  rw[yA (by omega:par (par j)≠par j),yA (by omega:par (par j)≠j),yA g];have p:=h.1 (par j) b (by omega) (by omega);by_cases e:k=j;.subst e;rw[yB yR];exact p
  .rw[yA e];have:=h.1 k w c e;rw[m]at this;exact i.trans _ _ _ p this
def UpI.done0(h:UpI le n f 0):HeapF le n f:=λk a w=>h.1 k a w (by omega)
def UpI.done(h:UpI le n f j)(b:le (f (par j)) (f j)):HeapF le n f:=λk a w=>by
 by_cases e:k=j;.subst e;exact b
 .exact h.1 k a w e
def DnI.hole(h:DnI le n f i):HoleI le n f i:=⟨λk b w _ a=>h.1 k b w a,h.2⟩
def HoleI.step(u:Order le)(h:HoleI le n f i)(l:par j=i)(b:0<j)(s:j<n)(a:∀k,0<k->k<n->par k=i->le (f j) (f k))(t:¬le (f i) (f j)):DnI le n (sw f i j) j:=by
 have r:i<j:=by have:=par_lt b;omega
 have m:le (f j) (f i):=(u.total _ _).resolve_right t;refine⟨λk w g p=>?_,λk w g q _=>?_⟩
 .unfold sw;by_cases e:k=i
  .subst e;have o:=par_lt w;rw[yA (by omega:par k≠k),yA p,yB yR];exact h.2 j b s l w
  .rw[yA e];by_cases c:par k=i
   .rw[yB c];by_cases d:k=j;.subst d;rw[yB yR];exact m
    .rw[yA d];exact a k w g c
   .rw[yA c,yA p];by_cases d:k=j;.subst d;exact(c l).elim
    .rw[yA d];exact h.1 k w g e c
 .have o:=par_lt w;unfold sw;rw[l,yB yR,yA (by omega:k≠i),yA (by omega:k≠j)];have:=h.1 k w g (by omega) (by omega);rw[q]at this;exact this
def HoleI.up(h:HoleI le n f i)(b:∀k,0<k->k<n->par k=i->le (f i) (f k)):UpI le n f i:=⟨λk a w c=>by
 by_cases e:par k=i;.rw[e];exact b k a w e
 .exact h.1 k a w c e,h.2⟩
def DnI.done(h:DnI le n f i)(b:∀k,0<k->k<n->par k=i->le (f i) (f k)):HeapF le n f:=λk a w=>by
 by_cases e:par k=i;.rw[e];exact b k a w e
 .exact h.1 k a w e
def HeapF.hole(o:Order le)(h:HeapF le n f){g:Nat->α}(l:i<n)(d:∀k,k≠i->g k=f k):HoleI le n g i:=⟨λk c j m e=>by rw[d _ e,d _ m];exact h k c j,λk c j e w=>by have a:=h k c j;have b:=h i w l;have:=par_lt c;have:=par_lt w;rw[e]at a;rw[d _ (by omega),d _ (by omega)];exact o.trans _ _ _ b a⟩
def HeapF.least(a:Order le)(h:HeapF le n f):∀k,k<n->le (f 0) (f k):=by
 intro k;induction k using Cp with
 |ind k c=>
  intro b;rcases Br k with rfl|w;.exact(a.total _ _).elim id id
  .have:=par_lt w;exact a.trans _ _ _ (c (par k) this (by omega)) (h k w b)
def HeapF.less{m:Nat}(h:HeapF le n f)(b:m<=n):HeapF le m f:=λk w a=>h k w (by omega)
def HeapF.congr{g:Nat->α}(h:HeapF le n f)(b:∀k,k<n->g k=f k):HeapF le n g:=λk a w=>by have:=par_lt a;rw[b _ (by omega),b _ w];exact h k a w
def HeapF.push{g:Nat->α}(h:HeapF le n f)(a:∀k,k<n->g k=f k):UpI le (n+1) g n:=⟨λk w b d=>by have:=par_lt w;rw[a _ (by omega),a _ (by omega)];exact h k w (by omega),λk w b c _=>by have:=par_lt w;omega⟩
end
end Ck
end
namespace Ck
abbrev Al:=Int×Int
def leA(x y:Al):Prop:=x.2<y.2\/x.2=y.2/\x.1<=y.1
instance (x y:Al):Decidable (leA x y):=by unfold leA;infer_instance
def leA_ord:Order leA:=⟨λa b c w h=>by unfold leA at*;omega,λa b=>by unfold leA;omega⟩
def leA_anti{x y:Al}(w:leA x y)(h:leA y x):x=y:=by unfold leA at*;exact Prod.ext (by omega) (by omega)
def Srt(l:List Al):Prop:=l.Pairwise leA/\(l.map (·.1)).Nodup
structure ClG where
 now:Int
 al:List Al
def delA(l:List Al)(id:Int):List Al:=l.filter λx=>decide (x.1≠id)
def insA(x:Al):List Al->List Al
 |[]=>[x]
 |y::r=>if leA x y then x::y::r else y::insA x r
def getA(l:List Al)(id:Int):Option Int:=(l.find? λx=>decide (x.1=id)).map (·.2)
def maxN:Int:=1099511627776
def cSet(G:ClG)(id tm:Int):ClG×Int:=
 if tm<=G.now\/tm>2199023255552 then(G,1)
 else if(getA G.al id).isNone/\G.al.length>=1024 then(G,2)
 else(⟨G.now,insA (id,tm) (delA G.al id)⟩,0)
def cDrop(G:ClG)(id:Int):ClG×Bool:=(⟨G.now,delA G.al id⟩,(getA G.al id).isSome)
def cTick(G:ClG)(n:Int):ClG×List Int×Int:=
 if n<0\/n>maxN - G.now then(G,[],1)
 else(⟨G.now+n,G.al.filter λx=>decide (¬x.2<=G.now+n)⟩,(G.al.filter λx=>decide (x.2<=G.now+n)).map (·.1),0)
structure COk(G:ClG):Prop where
 srt:Srt G.al
 now0:0<=G.now
 now1:G.now<=maxN
 late:∀x∈G.al,G.now<x.2/\x.2<=2199023255552
 many:G.al.length<=1024
def COk.new:COk ⟨0,[]⟩:=⟨⟨.nil,.nil⟩,by simp,by simp[maxN],by simp,by simp⟩
def delA_sub(l:List Al)(id:Int):(delA l id).Sublist l:=Bb
def delA_srt{l:List Al}(h:Srt l)(id:Int):Srt (delA l id):=⟨h.1.sublist (delA_sub l id),h.2.sublist ((delA_sub l id).map _)⟩
def delA_mem{l:List Al}{id:Int}{x:Al}:x∈delA l id↔x∈l/\x.1≠id:=by unfold delA;simp
def insA_perm(x:Al)(l:List Al):(insA x l).Perm (x::l):=by
 induction l with
 |nil=>exact .refl _
 |cons y r ih=>
  simp only[insA];split;.exact .refl _
  .exact(ih.cons y).trans (List.Perm.swap _ _ _)
def insA_mem{x y:Al}{l:List Al}:y∈insA x l↔y=x\/y∈l:=by rw[(insA_perm x l).mem_iff,A5]
def insA_srt{x:Al}{l:List Al}(h:Srt l)(c:∀y∈l,y.1≠x.1):Srt (insA x l):=by
 refine⟨?_,?_⟩
 .have d:=h.1;clear c h;induction l with
  |nil=>simp[insA]
  |cons y r f=>
   simp only[insA];have b:=B1.1 d;split
   .rename_i a;refine B1.2 ⟨λz w=>?_,d⟩;rcases A5.1 w with rfl|w;.exact a
    .exact leA_ord.trans _ _ _ a (b.1 z w)
   .rename_i a;refine B1.2 ⟨λz w=>?_,f b.2⟩;rcases insA_mem.1 w with rfl|w;.exact(leA_ord.total _ _).resolve_right a
    .exact b.1 z w
 .rw[((insA_perm x l).map _).nodup_iff,Ad,Av];refine⟨λg=>?_,h.2⟩;obtain⟨y,i,e⟩:=A6.1 g;exact c y i e
def find_mem{l:List Al}{id tm:Int}(w:(l.map (·.1)).Nodup):getA l id=A0 tm↔(id,tm)∈l:=by
 unfold getA;induction l with
 |nil=>simp
 |cons y r a=>
  simp only[Ad,Av]at w;rw[List.find?_cons];by_cases e:y.1=id
  .simp only[e,decide_true,Be,D1,A5];constructor;.rintro rfl;exact .inl (by rw[<-e])
   .rintro(h|h);.rw[<-h]
    .exact yI (A6.2 ⟨_,h,rfl⟩) (by rw[<-e]at*;exact w.1)
  .simp only[e,decide_false,a w.2,A5];constructor;.exact .inr
   .rintro(h|h);.exact yI (by rw[<-h]) e
    .exact h
def get_none{l:List Al}{id:Int}:getA l id=A2↔∀x∈l,x.1≠id:=by unfold getA;rw[Option.map_eq_none_iff,List.find?_eq_none];simp
def delA_none{l:List Al}{id:Int}(h:getA l id=A2):delA l id=l:=by unfold delA;rw[Af];intro x w;simpa using get_none.1 h x w
def COk.set{G:ClG}(h:COk G)(id tm:Int):COk (cSet G id tm).1:=by
 unfold cSet;split;.exact h
 .rename_i f;split;.exact h
  .rename_i a;refine⟨insA_srt (delA_srt h.srt id) λy c=>(delA_mem.1 c).2,h.now0,h.now1,λx w=>?_,?_⟩
   .rcases insA_mem.1 w with rfl|w;.dsimp only;omega
    .exact h.late x (delA_mem.1 w).1
   .dsimp only;rw[(insA_perm _ _).length_eq,A9];have e:=(delA_sub G.al id).length_le;cases hg:getA G.al id with
    |none=>rw[hg]at a;have:¬G.al.length>=1024:=λd=>a ⟨rfl,d⟩;omega
    |some t=>
     have b:=(find_mem h.srt.2).1 hg;have:(delA G.al id).length<G.al.length:=by unfold delA;exact List.length_filter_lt_length_iff_exists.2 ⟨_,b,by simp⟩
     have:=h.many;omega
def COk.drop{G:ClG}(h:COk G)(id:Int):COk (cDrop G id).1:=⟨delA_srt h.srt id,h.now0,h.now1,λx w=>h.late x (delA_mem.1 w).1,Ar (delA_sub G.al id).length_le h.many⟩
def COk.tick{G:ClG}(h:COk G)(n:Int):COk (cTick G n).1:=by
 unfold cTick;split;.exact h
 .rename_i d;have w:(G.al.filter λx=>decide (¬x.2<=G.now+n)).Sublist G.al:=Bb;refine⟨⟨h.srt.1.sublist w,h.srt.2.sublist (w.map _)⟩,?_,?_,λx b=>?_,Ar w.length_le h.many⟩;.have:=h.now0;dsimp only;omega
  .dsimp only;omega
  .obtain⟨c,a⟩:=C3.1 b;have:=h.late x c;have a:¬x.2<=G.now+n:=by simpa using a
   dsimp only;omega
end Ck
section
namespace Ck
def w64{n:Int}(w: -9223372036854775808<=n:=by omega)(h:n<=9223372036854775807:=by omega):Zw Zk n=n:=IntWalk.i64_in _ ⟨w,h⟩
def zm{b:Bool}{A B:Prop}(h:b=A8)(a:A):Bif b A B:=za (λ_=>a) λw=>by rw[h]at w;cases w
def zn{b:Bool}{A B:Prop}(h:b=A3)(a:B):Bif b A B:=za (λw=>by rw[h]at w;cases w) λ_=>a
def iPt:Zp.info? 316=A0 Tryz.t316:=by kernel_rfl
def sPt:Tryz.t316.size=1:=rfl
def zPt:Tryz.t316.zero=A0 (Zq A2):=rfl
def bPt:Tryz.t316.bytes=8:=rfl
def mLess:mrow Zp 318 "Less"=A0 (0,A0 (430,A3)):=by decide+kernel
def mSwap:mrow Zp 318 "Swap"=A0 (0,A0 (431,A3)):=by decide+kernel
def mPop:mrow Zp 318 "Pop"=A0 (0,A0 (432,A8)):=by decide+kernel
def mPush:mrow Zp 318 "Push"=A0 (0,A0 (433,A8)):=by decide+kernel
structure AD where
 b:Nat
 id:Int
 tm:Int
 pl:Int
def cellsD(d:AD):List Ab:=[Zi Zk d.id,Zi Zk d.tm,Zi Zk d.pl]
def rowD(d:AD):Asn:=Row d.b 315 (cellsD d)
def ptD(d:AD):List Ab:=[Zq (A0 ⟨d.b,0,A2⟩)]
def keyD(d:AD):Al:=(d.id,d.tm)
def coreD(d:AD):Nat×Al:=(d.b,d.id,d.tm)
def pt1(d:AD):(ptD d).length=1:=rfl
def ptn(d:AD):∀v∈ptD d,qn1 v:=λv h=>by simp[ptD]at h;subst h;trivial
def erase_perm{α:Type}:∀(l:List α) (i:Nat) {x:α},l[i]?=A0 x->l.Perm (x::l.eraseIdx i)
 |[],i,x,h=>by simp at h
 |y::r,0,x,h=>by simp at h;subst h;exact .refl _
 |y::r,i+1,x,h=>((erase_perm r i (by simpa using h)).cons y).trans (List.Perm.swap _ _ _)
def set_erase{α:Type}:∀(l:List α) (i:Nat) (y:α),i<l.length->(l.set i y).Perm (y::l.eraseIdx i)
 |[],i,y,h=>by simp at h
 |x::r,0,y,h=>.refl _
 |x::r,i+1,y,h=>((set_erase r i y (by simpa using h)).cons x).trans (List.Perm.swap _ _ _)
def alsA(l:List AD):Asn:=qz (l.map rowD)
section
variable{W w:World}{F:List Asn}{l:List AD}{i:Nat}{d:AD}
def alsA.take(h:St W (alsA l::F) w)(e:l[i]?=A0 d):St W (rowD d::alsA (l.eraseIdx i)::F) w:=by have c:St W (l.map rowD++F) w:=h.of_sep;have b:St W ((d::l.eraseIdx i).map rowD++F) w:=c.perm (((erase_perm l i e).map rowD).append_right F);exact(zj (l:=(l.eraseIdx i).map rowD) (z0c b (by simp only[Ad,By];exact(Aw (l₁:=(l.eraseIdx i).map rowD) (a:=rowD d) (l₂:=F)).symm))).p1
def alsA.give{y:AD}(a:i<l.length)(h:St W (rowD y::alsA (l.eraseIdx i)::F) w):St W (alsA (l.set i y)::F) w:=by have b:St W ((l.eraseIdx i).map rowD++(rowD y::F)) w:=St.of_sep h.p1;refine zj (z0c b ?_);exact Aw.trans (((set_erase l i y a).symm.map rowD).append_right F)
def alsA.cell(h:St W (alsA l::F) w)(b:l[i]?=A0 d){j:Nat}{v:Ab}(a:(cellsD d)[j]?=A0 v):w.cell? ⟨d.b,j,A2⟩=A0 v:=(alsA.take h b).ld a
def alsA.put{F':A7->Prop}(h:St W (alsA l::F) w)(c:l[i]?=A0 d){j:Nat}{v:Ab}{y:AD}(e:j<3)(k:y.b=d.b)(f:(cellsD d).set j v=cellsD y)(g:∀w',St W (alsA (l.set i y)::F) w'->F' w'):St1 ⟨d.b,j,A2⟩ v w F':=by have a:=(A1.1 c).1;refine St1.i (alsA.take h c) e λw' b=>g w' (alsA.give a ?_);rw[f]at b;unfold rowD;rw[k];exact b
end
abbrev HL(c:Nat)(now:Int)(m:Option Nat)(p:Option Az)(cap:Nat)(l:List AD)(F:List Asn):List Asn:=
 Row c 187 [Zi Zk now,Zl p l.length cap,.map m]::SlA 316 1 ptD p cap l::alsA l::F
section
variable{W w:World}{F:List Asn}{c:Nat}{now:Int}{m:Option Nat}{p:Option Addr}{cap:Nat}{l:List AD}
def HL.cell(h:St W (HL c now m p cap l F) w):w.cell? ⟨c,1,A2⟩=A0 (Zl p l.length cap):=h.cell 0 yR yR
def HL.rd:Rd (HL c now m p cap l F) p (l.flatMap ptD):=z04 1 yR λF=>z0e F
def ltD(x y:AD):Bool:=decide (¬leA (keyD y) (keyD x))
def QtP.at{C:Cls}{a:Az}{x:Option Az}(h:∀G w,C.p G w->w.cell? a=A0 (Zq x)):Qt C (Zq x) λw K=>LdP a w λx=>K (Zq x) w:=λG w b=>LdP.at (h G w b) ⟨rfl,b⟩
def z0j{C:Cls}{a:Az}{k:IntKind}{x:Int}(h:∀G w,C.p G w->w.cell? a=A0 (.int k x)):Qt C (.int k x) λw K=>LdI k a w λx=>K (.int k x) w:=λG w b=>zq (h G w b) ⟨rfl,b⟩
def HL.al{G:List (Nat×Obj)}{C:Cls}(a:Is W C (HL c now m p cap l F))(e:C.p G w){i:Nat}{d:AD}(b:l[i]?=A0 d){j:Nat}{v:Ab}(h:(cellsD d)[j]?=A0 v):w.cell? ⟨d.b,j,A2⟩=A0 v:=
 alsA.cell (a.at 2 yR e) b h
def Less_spec{i k:Nat}{x y:AD}(d:l[i]?=A0 x)(e:l[k]?=A0 y)(hid:i≠k->x.id≠y.id)(b:St W (HL c now m p cap l F) w):
 qb Zp 430 #[Zl p l.length cap,Zi Zk i,Zi Zk k] w λv w'=>v=Zb (ltD x y)/\St W (HL c now m p cap l F) w':=by
 have o:=(A1.1 d).1;have q:=(A1.1 e).1;have a:=z6 W (HL c now m p cap l F);refine F430_of ⟨StC W _,zd b,z07 a pt1 (by decide) HL.rd b yR o d λt f=>z07 a pt1 (by decide) HL.rd b yR q e λs g=>?_⟩;refine⟨_,QtP.at λG w h=>f h 0 _ rfl,z7 ⟨_,z0j λG w h=>HL.al a h d (j:=1) yR,_,QtP.at λG w h=>g h 0 _ rfl,z7 ⟨_,z0j λG w h=>HL.al a h e (j:=1) yR,λG w h=>?_⟩⟩⟩;have b:=zb h;refine za (λn=>?_) λr=>?_
 .have n:x.tm≠y.tm:=by simpa using n
  refine⟨StC W _,zd b,z07 a pt1 (by decide) HL.rd b yR o d λt f=>z07 a pt1 (by decide) HL.rd b yR q e λs g=>?_⟩;refine⟨_,QtP.at λG w h=>f h 0 _ rfl,z7 ⟨_,z0j λG w h=>HL.al a h d (j:=1) yR,_,QtP.at λG w h=>g h 0 _ rfl,z7 ⟨_,z0j λG w h=>HL.al a h e (j:=1) yR,λG w h=>⟨?_,zb h⟩⟩⟩⟩;congr 1;unfold ltD;rw[decide_eq_decide];unfold leA keyD;dsimp only;omega
 .have r:x.tm=y.tm:=by simpa using r
  refine⟨StC W _,zd b,z07 a pt1 (by decide) HL.rd b yR o d λt f=>z07 a pt1 (by decide) HL.rd b yR q e λs g=>?_⟩;refine⟨_,QtP.at λG w h=>f h 0 _ rfl,z7 ⟨_,z0j λG w h=>HL.al a h d (j:=0) yR,_,QtP.at λG w h=>g h 0 _ rfl,z7 ⟨_,z0j λG w h=>HL.al a h e (j:=0) yR,λG w h=>⟨?_,zb h⟩⟩⟩⟩;congr 1;unfold ltD;rw[decide_eq_decide];unfold leA keyD;dsimp only;omega
def swL(l:List AD)(i k:Nat)(x y:AD):List AD:=(l.set i { y with pl:=i}).set k { x with pl:=k}
def flat_set{α:Type}{f:α->List Ab}(h:∀x,(f x).length=1)(l:List α)(i:Nat)(y:α)(v:Ab)(w:f y=[v]):(l.flatMap f).set i v=(l.set i y).flatMap f:=by
 induction l generalizing i with
 |nil=>simp
 |cons x r ih=>
  cases i with
  |zero=>
   have:=h x;rw[List.set_cons_zero,B2,B2,w]
   match hfx:f x,this with
   |[u],_=>rfl
  |succ i=>
   have:=h x;rw[List.set_cons_succ,B2,B2,<-ih]
   match hfx:f x,this with
   |[u],_=>rfl
def SlA.put{F:List Asn}{F':A7->Prop}{i:Nat}{y:AD}{l:List AD}(h:St W (SlA 316 1 ptD p cap l::F) w)(d:i<l.length)(c:∀w',St W (SlA 316 1 ptD p cap (l.set i y)::F) w'->F' w'):∃a,p=A0 a/\St1 (a.add i) (Zq (A0 ⟨y.b,0,A2⟩)) w F':=by refine qi.set h (by omega) _ λw' b=>c w' ?_;rw[flat_set pt1 l i y _ rfl]at b;unfold SlA;rw[Bl];exact b
def alsA.perm{l l':List AD}{F:List Asn}(h:St W (alsA l::F) w)(a:l.Perm l'):St W (alsA l'::F) w:=zj (z0c h.of_sep ((a.map rowD).append_right F))
def IxP.pa{L:List Asn}{K:Az->Prop}{i:Int}{k n:Nat}{x:AD}{l:List AD}(m:Rd L p (l.flatMap ptD))(d:St W L w)(f:i=(k:Int))(b:k<n)(c:l[k]?=A0 x)(e:∀a,p=A0 a->K (a.add k)):IxP p n i 1 K:=by have g:(l.flatMap ptD)[k*1]?=A0 (Zq (A0 ⟨x.b,0,A2⟩)):=qn9 pt1 (j:=0) c yR;refine IxP.i m d f b g λa h=>?_;rw[Cy];exact e a h
def sw_perm{l:List AD}{i k:Nat}{x y x' y':AD}(w:l[i]?=A0 x)(a:l[k]?=A0 y)(h:i≠k):((l.set k y').set i x').Perm ((l.set i y').set k x'):=by
 have b:=(A1.1 w).1;have c:=(A1.1 a).1;have e:((l.set k y').set i x').Perm (x'::(l.set k y').eraseIdx i):=set_erase _ _ _ (by simpa using b);have a2:((l.set i y').set k x').Perm (x'::(l.set i y').eraseIdx k):=set_erase _ _ _ (by simpa using c);have f:(x::(l.set k y').eraseIdx i).Perm (y'::l.eraseIdx k):=(erase_perm (l.set k y') i (by rw[Ac,yA (Ne.symm h),w])).symm.trans (set_erase l k y' c);have g:(y::(l.set i y').eraseIdx k).Perm (y'::l.eraseIdx i):=(erase_perm (l.set i y') k (by rw[Ac,yA h,a])).symm.trans (set_erase l i y' b);have c1:(x::l.eraseIdx i).Perm (y::l.eraseIdx k):=(erase_perm l i w).symm.trans (erase_perm l k a);have d:(y::x::(l.set k y').eraseIdx i).Perm (y::x::(l.set i y').eraseIdx k):=
  (f.cons y).trans ((List.Perm.swap _ _ _).trans ((c1.symm.cons y').trans ((List.Perm.swap _ _ _).trans ((g.symm.cons x).trans (List.Perm.swap _ _ _)))))
 exact e.trans ((d.cons_inv.cons_inv.cons x').trans a2.symm)
def sw_pt{l:List AD}{i k:Nat}{x y x' y':AD}(w:x'.b=x.b)(h:y'.b=y.b):((l.set i y').set k x').flatMap ptD=((l.set i y).set k x).flatMap ptD:=by
 have e:∀l:List AD,l.flatMap ptD=(l.map (·.b)).map λb=>Zq (A0 ⟨b,0,A2⟩):=λl=>by rw[Bn];have:=qt6 (λd:AD=>Zq (A0 ⟨d.b,0,A2⟩)) l;exact this
 rw[e,e];congr 1;simp only[C0,w,h]
def swL_len(l:List AD)(i k:Nat)(x y:AD):(swL l i k x y).length=l.length:=by simp[swL]
def Swap_spec{i k:Nat}{x y:AD}(g:l[i]?=A0 x)(f:l[k]?=A0 y)(b:St W (HL c now m p cap l F) w):
 qb Zp 431 #[Zl p l.length cap,Zi Zk i,Zi Zk k] w λv w'=>v=Zt #[]/\St W (HL c now m p cap (swL l i k x y) F) w':=by
 have A:=(A1.1 g).1;have o:=(A1.1 f).1;have q:=z6 W (HL c now m p cap l F);refine F431_of ⟨StC W _,zd b,z07 q pt1 (by decide) HL.rd b yR o f λR Q=>z07 q pt1 (by decide) HL.rd b yR A g λT O=>?_⟩;refine⟨_,QtP.at λG w s=>Q s 0 _ rfl,_,QtP.at λG w s=>O s 0 _ rfl,IxP.pa HL.rd b yR A g λa E=>?_⟩;refine Ef.n (α:=Unit) (V:=λ_=>Zt #[]) (B:=λ_=>[SlA 316 1 ptD p cap (l.set i y)]) () 1 q yR (λG w h=>?_) λ_=>⟨rfl,trivial,IxP.pa HL.rd b yR o f λM d=>?_⟩
 .obtain⟨M,d,n⟩:=SlA.put (F':=λw'=>∃x:Unit,Zt #[]=Zt #[]/\St W (Go.Proofs.YtfjifcfbmhpcaaaGreatDoor.put (HL c now m p cap l F) 1 [SlA 316 1 ptD p cap (l.set i y)]++pts G) w') h A λw' r=>⟨(),rfl,z17 1 yR (B:=[_]) r⟩;rw[E]at d;cases d;exact n
 rw[E]at d;cases d;refine Ef.n (α:=Unit) (V:=λ_=>Zt #[]) (B:=λ_=>[SlA 316 1 ptD p cap ((l.set i y).set k x)]) () 1 ir yR (λG w h=>?_) λ_=>⟨rfl,trivial,λG w h=>?_⟩
 .obtain⟨M,d,n⟩:=SlA.put (y:=x) (F':=λw'=>∃z:Unit,Zt #[]=Zt #[]/\St W (Go.Proofs.YtfjifcfbmhpcaaaGreatDoor.put (Go.Proofs.YtfjifcfbmhpcaaaGreatDoor.put (HL c now m p cap l F) 1 [SlA 316 1 ptD p cap (l.set i y)]) 1 [SlA 316 1 ptD p cap ((l.set i y).set k x)]++pts G) w') h (by simpa using o) λw' r=>⟨(),rfl,z17 1 yR (B:=[_]) r⟩;rw[E]at d;cases d;exact n
 have b:=zb h;have b:St W (Row c 187 [Zi Zk now,Zl p l.length cap,.map m]::SlA 316 1 ptD p cap ((l.set i y).set k x)::alsA l::F) w:=b;have I:((l.set i y).set k x)[i]?=A0 y:=by
  rw[Ac];by_cases e:k=i
  .subst e;rw[g]at f;cases f;rw[yB yR,yB (by simpa using o)]
  .rw[yA e,Ac,yB yR,yB A]
 have K:((l.set i y).set k x)[k]?=A0 x:=by rw[Ac,yB yR,yB (by simpa using o)]
 have N:Rd (Row c 187 [Zi Zk now,Zl p l.length cap,.map m]::SlA 316 1 ptD p cap ((l.set i y).set k x)::alsA l::F) p (((l.set i y).set k x).flatMap ptD):=z04 1 yR λF=>z0e F;have q:=z6 W (Row c 187 [Zi Zk now,Zl p l.length cap,.map m]::SlA 316 1 ptD p cap ((l.set i y).set k x)::alsA l::F);refine⟨StC W _,zd b,z07 q pt1 (by decide) N b yR A I λa31 J=>z07 q pt1 (by decide) N b yR o K λP H=>?_⟩;refine⟨_,QtP.at λG w s=>J s 0 _ rfl,_,QtP.at λG w s=>H s 0 _ rfl,z7 ?_⟩;have C:(l.set k { y with pl:=i})[i]?=A0 (if i=k then { y with pl:=(i:Int)}else x):=by
  rw[Ac];by_cases e:k=i;.subst e;rw[yB yR,yB o,yB yR]
  .rw[yA e,g,yA (Ne.symm e)]
 refine Ef.n (α:=Unit) (V:=λ_=>Zt #[]) (B:=λ_=>[alsA (l.set k { y with pl:=i})]) () 2 q yR (λG w h=>?_) λ_=>⟨rfl,trivial,z7 ?_⟩;.exact alsA.put (y:={ y with pl:=i}) h f (j:=2) (by decide) yR yR λw' r=>⟨(),rfl,z17 2 yR (B:=[_]) r⟩
 have u:(if i=k then({ y with pl:=(i:Int)}:AD)else x).b=x.b:=by
  by_cases e:i=k;.subst e;rw[g]at f;cases f;rw[yB yR]
  .rw[yA e]
 have D:(cellsD (if i=k then({ y with pl:=(i:Int)}:AD)else x)).set 2 (Zi Zk k)=cellsD { x with pl:=k}:=by
  by_cases e:i=k;.subst e;rw[g]at f;cases f;rw[yB yR];rfl
  .rw[yA e];rfl
 refine Ef.n (α:=Unit) (V:=λ_=>Zt #[]) (B:=λ_=>[alsA ((l.set k { y with pl:=i}).set i { x with pl:=k})]) () 2 ir yR (λG w h=>?_) λ_=>⟨rfl,trivial,λG w h=>⟨rfl,?_⟩⟩
 .have:=alsA.put (y:={ x with pl:=k}) (F':=λw'=>∃z:Unit,Zt #[]=Zt #[]/\St W (Go.Proofs.YtfjifcfbmhpcaaaGreatDoor.put (Go.Proofs.YtfjifcfbmhpcaaaGreatDoor.put (Row c 187 [Zi Zk now,Zl p l.length cap,.map m]::SlA 316 1 ptD p cap ((l.set i y).set k x)::alsA l::F) 2 [alsA (l.set k { y with pl:=i})]) 2 [alsA ((l.set k { y with pl:=i}).set i { x with pl:=k})]++pts G) w') h C (j:=2) (v:=Zi Zk k) (by decide) u.symm D λw' r=>⟨(),rfl,z17 2 yR (B:=[_]) r⟩;rw[u]at this;exact this
 have b:=zb h;have b:St W (Row c 187 [Zi Zk now,Zl p l.length cap,.map m]::SlA 316 1 ptD p cap ((l.set i y).set k x)::alsA ((l.set k { y with pl:=i}).set i { x with pl:=k})::F) w:=b;have t:((l.set k ({ y with pl:=(i:Int)}:AD)).set i { x with pl:=(k:Int)}).Perm (swL l i k x y):=by
  by_cases e:i=k
  .subst e;unfold swL;rw[List.set_set]
  .exact sw_perm g f e
 have b:=(alsA.perm b.p2 t);unfold HL;rw[swL_len];have L:SlA 316 1 ptD p cap ((l.set i y).set k x)=SlA 316 1 ptD p cap (swL l i k x y):=by unfold SlA swL;rw[sw_pt (x:=x) (y:=y) (x':={ x with pl:=(k:Int)}) (y':={ y with pl:=(i:Int)}) yR yR];simp only[Bl]
 rw[L]at b;exact b.p2.p2
end
end Ck
end
section
namespace Ck
def fK(l:List AD)(i:Nat):Al:=((l[i]?).map keyD).getD (0,0)
def fK_at{l:List AD}{i:Nat}{d:AD}(h:l[i]?=A0 d):fK l i=keyD d:=by unfold fK;rw[h];rfl
structure HOk(l:List AD):Prop where
 pl:∀(i:Nat) d,l[i]?=A0 d->d.pl=(i:Int)
 nd:(l.map (·.id)).Nodup
 small:l.length<=2000
structure HRel(N:Nat)(l l':List AD):Prop where
 len:l'.length=l.length
 core:(l'.map coreD).Perm (l.map coreD)
 tail:∀k,N<=k->l'[k]?=l[k]?
def HRel.refl(N:Nat)(l:List AD):HRel N l l:=⟨rfl,.refl _,λ_ _=>rfl⟩
def HRel.trans{N:Nat}{a b c:List AD}(h:HRel N a b)(k:HRel N b c):HRel N a c:=⟨k.len.trans h.len,k.core.trans h.core,λj w=>(k.tail j w).trans (h.tail j w)⟩
def swap_perm{α:Type}{l:List α}{i k:Nat}{x y:α}(w:l[i]?=A0 x)(a:l[k]?=A0 y)(h:i≠k):((l.set i y).set k x).Perm l:=by have b:=(A1.1 w).1;have c:=(A1.1 a).1;have a2:((l.set i y).set k x).Perm (x::(l.set i y).eraseIdx k):=set_erase _ _ _ (by simpa using c);have d:(y::(l.set i y).eraseIdx k).Perm (y::l.eraseIdx i):=(erase_perm (l.set i y) k (by rw[Ac,yA h,a])).symm.trans (set_erase l i y b);exact a2.trans ((d.cons_inv.cons x).trans (erase_perm l i w).symm)
section
variable{l:List AD}{i k N:Nat}{x y:AD}
def swL_get(b:l[i]?=A0 x)(c:l[k]?=A0 y)(w:i≠k)(j:Nat):(swL l i k x y)[j]?=if j=i then A0 { y with pl:=i}else if j=k then A0 { x with pl:=k}else l[j]?:=by
 have d:=(A1.1 b).1;have e:=(A1.1 c).1;unfold swL;rw[Ac,Ac];by_cases h:j=i
 .subst h;rw[yA (Ne.symm w),yB yR,yB d,yB yR]
 .by_cases a:j=k
  .subst a;rw[yB yR,yB (by simpa using e),yA h,yB yR]
  .rw[yA (Ne.symm a),yA (Ne.symm h),yA h,yA a]
def swL_fK(b:l[i]?=A0 x)(c:l[k]?=A0 y)(a:i≠k):fK (swL l i k x y)=sw (fK l) i k:=by
 funext j;unfold sw;rw[fK_at b,fK_at c];unfold fK;rw[swL_get b c a];by_cases h:j=i;.rw[yB h,yB h];rfl
 .by_cases w:j=k;.rw[yA h,yB w,yA h,yB w];rfl
  .rw[yA h,yA w,yA h,yA w]
def swL_rel(w:l[i]?=A0 x)(a:l[k]?=A0 y)(h:i≠k)(c:i<N)(d:k<N):HRel N l (swL l i k x y):=by
 refine⟨swL_len _ _ _ _ _,?_,λj b=>?_⟩
 .unfold swL;rw[C0,C0];exact swap_perm (by rw[Au,w];rfl) (by rw[Au,a];rfl) h
 .rw[swL_get w a h,yA (by omega),yA (by omega)]
def ids_core(l:List AD):l.map (·.id)=(l.map coreD).map (λc=>c.2.1):=by rw[Bn];rfl
def HOk.sw(h:HOk l)(e:l[i]?=A0 x)(f:l[k]?=A0 y)(a:i≠k):HOk (swL l i k x y):=by
 refine⟨λj d w=>?_,?_,by rw[swL_len];exact h.small⟩
 .rw[swL_get e f a]at w;by_cases b:j=i;.rw[yB b]at w;cases w;rw[b]
  .by_cases c:j=k;.rw[yA b,yB c]at w;cases w;rw[c]
   .rw[yA b,yA c]at w;exact h.pl j d w
 .have g:=(swL_rel (N:=i+k+1) e f a (by omega) (by omega)).core;rw[ids_core,(g.map _).nodup_iff,<-ids_core];exact h.nd
def HOk.ne(h:HOk l)(d:l[i]?=A0 x)(f:l[k]?=A0 y)(w:i≠k):x.id≠y.id:=λe=>by
 have b:(l.map (·.id))[i]?=A0 x.id:=by rw[Au,d];rfl
 have c:(l.map (·.id))[k]?=A0 y.id:=by rw[Au,f];rfl
 have a:=(A1.1 b).1;exact w ((List.getElem?_inj a h.nd).1 (by rw[b,c,e]))
end
def bLess:q33 Zp 430=A8:=by kernel_rfl
def bSwap:q33 Zp 431=A8:=by kernel_rfl
def bLen:q33 Zp 429=A8:=by kernel_rfl
abbrev hV(c:Nat):Ab:=.iface 318 (Zq (A0 ⟨c,1,A2⟩))
section
variable{W w:World}{F:List Asn}{c:Nat}{now:Int}{m:Option Nat}{p:Option Addr}{cap:Nat}{l:List AD}
def iLen{K:Ab->A7->Prop}(a:St W (HL c now m p cap l F) w)(h:K (Zi Zk (l.length:Int)) w):q6d Zp "Len" (hV c) [] w K:=
 inv_val mLen bLen (HL.cell a) (F429_of h)
def iLess{i k:Nat}{x y:AD}{K:Ab->A7->Prop}{a b:Int}(n:a=(i:Int))(j:b=(k:Int))(d:l[i]?=A0 x)(g:l[k]?=A0 y)(r:HOk l)(f:St W (HL c now m p cap l F) w)
 (o:∀w',St W (HL c now m p cap l F) w'->K (Zb (ltD x y)) w'):q6d Zp "Less" (hV c) [Zi Zk a,Zi Zk b] w K:=by
 subst n;subst j;exact inv_val mLess bLess (HL.cell f) ((Less_spec d g (λe=>r.ne d g e) f).of λv w' ⟨q,h⟩=>by subst q;exact o w' h)
def iSwap{i k:Nat}{x y:AD}{K:Ab->A7->Prop}{a b:Int}(f:a=(i:Int))(e:b=(k:Int))(g:l[i]?=A0 x)(j:l[k]?=A0 y)(d:St W (HL c now m p cap l F) w)
 (n:∀w',St W (HL c now m p cap (swL l i k x y) F) w'->K (Zt #[]) w'):q6d Zp "Swap" (hV c) [Zi Zk a,Zi Zk b] w K:=by
 subst f;subst e;exact inv_val mSwap bSwap (HL.cell d) ((Swap_spec g j d).of λv w' ⟨o,h⟩=>by subst o;exact n w' h)
def get_of{l:List AD}{i:Nat}(h:i<l.length):∃x,l[i]?=A0 x:=⟨l[i],A4 h⟩
def lt_le{x y:AD}:ltD x y=A3↔leA (keyD y) (keyD x):=by unfold ltD;simp
def up_spec{j N:Nat}(o:j<N)(C:N<=l.length)(B:HOk l)(k:UpI leA N (fK l) j)(d:St W (HL c now m p cap l F) w):
 qb Zp 281 #[hV c,Zi Zk j] w λv w'=>v=Zt #[]/\∃l',HOk l'/\HRel N l l'/\HeapF leA N (fK l')/\St W (HL c now m p cap l' F) w':=by
 refine F281_of ⟨λvs w=>∃(j:Nat) (l':List AD),vs=[Zi Zk j]/\j<N/\HOk l'/\HRel N l l'/\UpI leA N (fK l') j/\St W (HL c now m p cap l' F) w,λvs _=>match vs with|[.int _ i]=>i.toNat|_=>0,⟨j,l,rfl,o,B,HRel.refl _ _,k,d⟩,λx w A=>?_⟩;obtain⟨j,l',s,o,b,q,k,d⟩:=A;cases s;have u:=b.small;have D:=q.len;refine⟨by decide,?_⟩;rcases Br j with rfl|r
 .refine zm (by decide) ⟨rfl,l',b,q,k.done0,d⟩
 have t:Zw Zk (Int.tdiv (Zw Zk ((j:Int) - 1)) 2)=((par j:Nat):Int):=by unfold par;rw[w64 (n:=(j:Int) - 1) (by omega) (by omega),Int.tdiv_eq_ediv_of_nonneg (by omega),w64];omega
 have z:=par_lt r;rw[t];refine zn ?_ ?_
 .have:((par j:Nat):Int)≠(j:Int):=by omega
  simpa using this
 obtain⟨x,e⟩:=get_of (l:=l') (i:=par j) (by omega);obtain⟨y,g⟩:=get_of (l:=l') (i:=j) (by omega);refine iLess yR yR g e b d λw d=>⟨_,rfl,za (λa=>?_) λa=>?_⟩
 .have a:ltD y x=A3:=by simpa using a
  have f:=lt_le.1 a;refine⟨rfl,l',b,q,k.done ?_,d⟩;rw[fK_at e,fK_at g];exact f
 .have a:ltD y x=A8:=by simpa using a
  have f:¬leA (fK l' (par j)) (fK l' j):=by rw[fK_at e,fK_at g];intro h;rw[lt_le.2 h]at a;cases a
  refine iSwap yR yR e g d λw d=>⟨rfl,⟨par j,_,rfl,by omega,b.sw e g (by omega),q.trans (swL_rel e g (by omega) (by omega) o),?_,d⟩,by show(((par j:Nat):Int)).toNat<((j:Int)).toNat;omega⟩;rw[swL_fK e g (by omega)];exact k.step leA_ord r o f
def down_spec{i0 n:Nat}(hn:n<=l.length)(ho:HOk l)(hh:HoleI leA n (fK l) i0)(M:i0<=n)(d:St W (HL c now m p cap l F) w):
 qb Zp 277 #[hV c,Zi Zk i0,Zi Zk n] w λv w'=>∃b l',v=Zb b/\HOk l'/\HRel n l l'/\(b=A8->HeapF leA n (fK l'))/\(b=A3->l'=l/\∀k,0<k->k<n->par k=i0->leA (fK l i0) (fK l k))/\St W (HL c now m p cap l' F) w':=by
 refine F277_of ⟨λvs w=>∃(i:Nat) (l':List AD),vs=[Zi Zk i]/\i0<=i/\i<=n/\HOk l'/\HRel n l l'/\HoleI leA n (fK l') i/\(i=i0->l'=l)/\(i0<i->DnI leA n (fK l') i)/\St W (HL c now m p cap l' F) w,λvs _=>match vs with|[.int _ i]=>n - i.toNat|_=>0,⟨i0,l,rfl,Bi _,M,ho,HRel.refl _ _,hh,λ_=>rfl,λh=>yI h (by omega),d⟩,λx w hI=>?_⟩;obtain⟨i,l',Q,X,hin,r,R,hH,C,Y,d⟩:=hI;cases Q;have hsm:=r.small;have hl:=R.len;have Z:Zw Zk ((Zw Zk (2*(i:Int)))+1)=((2*i+1:Nat):Int):=by rw[w64 (n:=2*(i:Int)) (by omega) (by omega),w64];omega
 have e2:Zw Zk (((2*i+1:Nat):Int)+1)=((2*i+2:Nat):Int):=by rw[w64];omega
 rw[Z,e2];have f:∀k,0<k->par k=i->k=2*i+1\/k=2*i+2:=λk s h=>by unfold par at h;omega
 have G:∀w,St W (HL c now m p cap l' F) w->(∀k,0<k->k<n->par k=i->leA (fK l' i) (fK l' k))->∃b o,Zb (decide ((i:Int)>(i0:Int)))=Zb b/\HOk o/\HRel n l o/\(b=A8->HeapF leA n (fK o))/\(b=A3->o=l/\∀k,0<k->k<n->par k=i0->leA (fK l i0) (fK l k))/\St W (HL c now m p cap o F) w:=λw d U=>by
  refine⟨_,l',rfl,r,R,λh=>?_,λh=>?_,d⟩
  .have h:=yC h;exact(Y (by omega)).done U
  .have h:=yD h;have K:i=i0:=by omega
   have q:=C K;subst K;subst q;exact⟨rfl,U⟩
 refine za (λJ=>?_) λz=>?_
 .have J:=yC J;exact G w d λk s I t=>by have:=f k s t;omega
 have z:2*i+1<n:=by have:=yD z;omega
 refine zn (yH (by omega)) ?_;obtain⟨x,B⟩:=get_of (l:=l') (i:=i) (by omega);obtain⟨N,g⟩:=get_of (l:=l') (i:=2*i+1) (by omega);refine⟨λvs w=>∃(j:Nat) (y:AD),vs=[Zi Zk j]/\(j=2*i+1\/j=2*i+2)/\j<n/\l'[j]?=A0 y/\(∀k,0<k->k<n->par k=i->leA (fK l' j) (fK l' k))/\St W (HL c now m p cap l' F) w,za (λE=>?_) λE=>?_,λj w hJ=>?_⟩
 .have E:2*i+2<n:=by have:=yC E;omega
  obtain⟨T,u⟩:=get_of (l:=l') (i:=2*i+2) (by omega);refine iLess yR yR u g r d λw d=>⟨_,rfl,za (λa=>?_) λa=>?_⟩
  .refine⟨2*i+2,T,rfl,.inr yR,E,u,λk s I t=>?_,d⟩;have P:¬leA (keyD N) (keyD T):=λh=>by rw[lt_le.2 h]at a;cases a
   rcases f k s t with rfl|rfl;.rw[fK_at u,fK_at g];exact(leA_ord.total _ _).resolve_right P
   .exact(leA_ord.total _ _).elim id id
  .refine⟨2*i+1,N,rfl,.inl yR,z,g,λk s I t=>?_,d⟩;have q:=lt_le.1 a;rcases f k s t with rfl|rfl;.exact(leA_ord.total _ _).elim id id
   .rw[fK_at u,fK_at g];exact q
 .have E:¬2*i+2<n:=by have:=yD E;omega
  refine⟨2*i+1,N,rfl,.inl yR,z,g,λk s I t=>?_,d⟩;rcases f k s t with rfl|rfl;.exact(leA_ord.total _ _).elim id id
  .omega
 obtain⟨j,y,Q,V,L,D,A,d⟩:=hJ;cases Q;refine iLess yR yR D B r d λw d=>⟨_,rfl,za (λa=>?_) λa=>?_⟩
 .have a:ltD y x=A3:=by simpa using a
  have q:=lt_le.1 a;refine G w d λk s I t=>leA_ord.trans _ _ _ ?_ (A k s I t);rw[fK_at B,fK_at D];exact q
 .have a:ltD y x=A8:=by simpa using a
  have H:¬leA (fK l' i) (fK l' j):=by rw[fK_at B,fK_at D];intro h;rw[lt_le.2 h]at a;cases a
  have O:par j=i:=by unfold par;omega
  have e:=hH.step leA_ord O (by omega) L A H;rw[<-swL_fK B D (by omega)]at e;refine iSwap yR yR B D d λw d=>⟨rfl,⟨j,_,rfl,by omega,by omega,r.sw B D (by omega),R.trans (swL_rel B D (by omega) (by omega) L),e.hole,λh=>yI h (by omega),λ_=>e,d⟩,by show n -((j:Int)).toNat<n -((i:Int)).toNat;omega⟩
end
end Ck
end
section
namespace Ck
def uPt:Zp.underlying 316=A0 (.pointer 315):=Tryz.underlying316
def bPop:q33 Zp 432=A8:=by kernel_rfl
def bPush:q33 Zp 433=A8:=by kernel_rfl
def assert_pt(v:Ab)(w:A7):Sem.run Zp (Instr.typeAssert (.iface 316 v) 20 316 A3) w=.ok v w:=by simp[Instr.typeAssert,run_underlying uPt]
section
variable{W w:World}{F:List Asn}{c:Nat}{now:Int}{m:Option Nat}{p:Option Addr}{cap:Nat}{l:List AD}{d:AD}
def alsA.snoc(h:St W (rowD d::alsA l::F) w):St W (alsA (l++[d])::F) w:=by have a:St W (l.map rowD++(rowD d::F)) w:=St.of_sep h.p1;refine zj (z0c a ?_);rw[Aa,Ak];exact .refl _
def alsA.pop(h:St W (alsA (l++[d])::F) w):St W (rowD d::alsA l::F) w:=by have a:St W ((l++[d]).map rowD++F) w:=h.of_sep;rw[Aa,Ak]at a;exact(zj (l:=l.map rowD) a).p1
def SlA.shrink(h:St W (SlA 316 1 ptD p cap (l++[d])::F) w):∃q,p=A0 ⟨q,0,A2⟩/\0<cap/\St W (SlA 316 1 ptD p cap l::F) w:=by
 obtain⟨e,g,k,⟨o,r,f⟩,b⟩:=h;have m:(l++[d]).length=l.length+1:=by simp
 rcases f with rfl|⟨q,all,rfl,c,a,i⟩;.omega
 .refine⟨q,rfl,by omega,z0x c (by omega) ?_ (show St W (Row q 316 all::F) w from⟨e,g,k,i,b⟩)⟩;have n:=qh3 ptD 1 pt1 l;have j:(l++[d]).flatMap ptD=l.flatMap ptD++ptD d:=by simp
  rw[j]at a;have:=yE (List.take (l.length*1)) a;rw[Cs,List.take_append_of_le_length (by omega),C1 (show(l.flatMap ptD).length<=l.length*1 by omega),C4 (by rw[m];omega)]at this;exact this
def PopM_spec(o:l.length<=2000)(b:St W (HL c now m p cap (l++[d]) F) w):
 qb Zp 432 #[Zq (A0 ⟨c,1,A2⟩)] w λv w'=>v=.iface 316 (Zq (A0 ⟨d.b,0,A2⟩))/\St W (rowD d::HL c now m p cap l F) w':=by
 have r:(l++[d]).length=l.length+1:=by simp
 have k:(l++[d])[l.length]?=A0 d:=by simp
 have h:=HL.cell b;obtain⟨q,j,g,f⟩:=SlA.shrink b.p1;have en:Zw Zk ((((l++[d]).length:Nat):Int) - 1)=((l.length:Nat):Int):=by rw[w64];omega
 refine F432_of (z7 (LdL.at h (z7 (LdL.at h ?_))));rw[en];refine z0f pt1 (by decide) HL.rd b yR (by omega) k λa i=>LdP.at (i 0 _ rfl) (z7 (LdL.at h ⟨⟨by omega,by omega,by have:=SlA.le b.p1;omega⟩,z7 ?_⟩));have n:(if cap=Ae 0 then p else p.map (·.add (Ae 0*1)))=p:=by subst j;split<;>rfl
 have e:St W (Row c 187 [Zi Zk now,Zl p (l++[d]).length cap,.map m]::SlA 316 1 ptD p cap l::alsA (l++[d])::F) w:=f.p1;refine z0o (k0:=1) 0 e yR (by simp) λw b=>⟨rfl,?_⟩;have b:St W (Row c 187 [Zi Zk now,.slice (if cap=Ae 0 then p else p.map (·.add (Ae 0*1))) ((Ae (l.length:Int)) - Ae 0) (cap - Ae 0),.map m]::SlA 316 1 ptD p cap l::alsA (l++[d])::F) w:=b;rw[n,B3,show Ae 0=0 from rfl,Bz,Bz]at b;exact(alsA.pop b.p2).perm (List.Perm.cons _ ((Aw (l₁:=[_,_]) (a:=alsA l) (l₂:=F)).symm))
def PushM_spec(n:l.length<=2000)(h:St W (rowD d::HL c now m p cap l F) w):
 qb Zp 433 #[Zq (A0 ⟨c,1,A2⟩),.iface 316 (Zq (A0 ⟨d.b,0,A2⟩))] w λv w'=>v=Zt #[]/\∃b i,St W (HL c now m b i (l++[{ d with pl:=l.length}]) F) w':=by
 have f:=HL.cell h.drop;refine F433_of ⟨_,assert_pt _,_,rfl,z7 (LdL.at f (z7 ?_))⟩;refine z0o (k0:=2) 0 h yR (by simp[cellsD]) λw h=>?_;have h:St W (rowD { d with pl:=l.length}::HL c now m p cap l F) w:=h;refine z7 (LdL.at (HL.cell h.drop) (zh h λe w h=>?_));have h:St W (Row e 316 (Bo ptD [{ d with pl:=l.length}])::rowD { d with pl:=l.length}::HL c now m p cap l F) w:=h;refine qf3 (os:=l) (xs:=[{ d with pl:=(l.length:Int)}]) pt1 Tryz.underlying185 (.inr ⟨_,Tryz.underlying185⟩) iPt sPt zPt yR 3 h yR (z0m) yR ptn (by rw[bPt];simp;omega) (by simp;omega) λb g w h=>⟨_,_,_,rfl,z7 ?_⟩;have h:St W (Row e 316 (Bo ptD [{ d with pl:=(l.length:Int)}])::rowD { d with pl:=l.length}::Row c 187 [Zi Zk now,Zl p l.length cap,.map m]::SlA 316 1 ptD b g (l++[{ d with pl:=(l.length:Int)}])::alsA l::F) w:=h;refine z0o (k0:=1) 2 h yR (by simp) λw h=>⟨rfl,b,g,?_⟩;have h:St W (Row e 316 (Bo ptD [{ d with pl:=(l.length:Int)}])::rowD { d with pl:=l.length}::Row c 187 [Zi Zk now,.slice b (l++[{ d with pl:=(l.length:Int)}]).length g,.map m]::SlA 316 1 ptD b g (l++[{ d with pl:=(l.length:Int)}])::alsA l::F) w:=h;have j:=h.drop;have k:St W (rowD { d with pl:=l.length}::alsA l::Row c 187 [Zi Zk now,.slice b (l++[{ d with pl:=(l.length:Int)}]).length g,.map m]::SlA 316 1 ptD b g (l++[{ d with pl:=(l.length:Int)}])::F) w:=j.perm (List.Perm.cons _ (Aw (l₁:=[_,_]) (a:=alsA l) (l₂:=F)));exact(alsA.snoc k).perm ((Aw (l₁:=[_,_]) (a:=alsA _) (l₂:=F)).symm)
end
def HoleI.congr{α:Type}{le:α->α->Prop}{n i:Nat}{f g:Nat->α}(h:HoleI le n f i)(b:∀k,k<n->g k=f k):HoleI le n g i:=⟨λk w a d c=>by
 have:=par_lt w;rw[b _ (by omega),b _ a];exact h.1 k w a d c,λk w a d c=>by
 have:=par_lt w;have:=par_lt c;rw[b _ (by omega),b _ a];exact h.2 k w a d c⟩
def fK_app{l:List AD}{d:AD}{k:Nat}(h:k<l.length):fK (l++[d]) k=fK l k:=by unfold fK;rw[Ay h]
def snoc_of{l:List AD}{n:Nat}{d:AD}(b:l.length=n+1)(w:l[n]?=A0 d):∃l0,l=l0++[d]/\l0.length=n:=by
 refine⟨l.dropLast,?_,by simp[b]⟩;have h:l≠[]:=λe=>by subst e;simp at b
 have a:=List.dropLast_concat_getLast h;have c:l.getLast h=d:=by
  rw[List.getLast_eq_getElem];rw[A4 (by omega)]at w;have:l.length - 1=n:=by omega
  simp only[this];exact Bd w
 rw[c]at a;exact a.symm
def HOk.init{l:List AD}{d:AD}(h:HOk (l++[d])):HOk l:=⟨λi x w=>h.pl i x (by rw[Ay (A1.1 w).1];exact w),h.nd.sublist ((List.sublist_append_left l [d]).map _),by have:=h.small;simp at this;omega⟩
section
variable{W w:World}{F:List Asn}{c:Nat}{now:Int}{m:Option Nat}{p:Option Addr}{cap:Nat}{l:List AD}{d:AD}
def Push_spec(t:HOk l)(B:HeapF leA l.length (fK l))(hid:∀x∈l,x.id≠d.id)(I:l.length<1500)(g:St W (rowD d::HL c now m p cap l F) w):
 qb Zp 271 #[hV c,.iface 316 (Zq (A0 ⟨d.b,0,A2⟩))] w λv w'=>v=Zt #[]/\∃G j l',HOk l'/\HeapF leA l'.length (fK l')/\(l'.map coreD).Perm (coreD d::l.map coreD)/\St W (HL c now m G j l' F) w':=by
 refine F271_of (inv_ptr mPush bPush ((PushM_spec (by omega) g).of λv w ⟨q,z,c1,g⟩=>⟨q,iLen g ⟨_,rfl,?_⟩⟩));have E:(l++[{ d with pl:=(l.length:Int)}]).length=l.length+1:=by simp
 have r:HOk (l++[{ d with pl:=(l.length:Int)}]):=by
  refine⟨λi x f=>?_,?_,by omega⟩
  .rcases Ce i l.length with h|h;.rw[Ay h]at f;exact t.pl i x f
   .rw[Ax h]at f;have:i=l.length:=by
     rcases Ce (i - l.length) 1 with u|u;.omega
     .rw[List.getElem?_eq_none (by simpa using u)]at f;cases f
    subst this;simp at f;rw[<-f]
  .rw[Aa];refine Cf.2 ⟨t.nd,by simp,λa D b s e=>?_⟩;obtain⟨x,f,rfl⟩:=A6.1 D;simp at s;exact hid x f (by rw[e,s])
 have C:UpI leA (l.length+1) (fK (l++[{ d with pl:=(l.length:Int)}])) l.length:=B.push λk A=>fK_app A;have H:Zw Zk ((((l++[{ d with pl:=(l.length:Int)}]).length:Nat):Int) - 1)=((l.length:Nat):Int):=by rw[w64];omega
 dsimp only;rw[H];refine(up_spec (by omega) (by omega) r C g).of λv w ⟨q,l',o,y,n,g⟩=>⟨q,rfl,z,c1,l',o,?_,?_,g⟩;.rw[y.len,E];exact n
 .refine y.core.trans ?_;rw[Aa];exact An
def fix_spec{i n:Nat}{K:A7->Prop}(u:n<=l.length)(G:HOk l)(y:HoleI leA n (fK l) i)(D:i<n)(t:St W (HL c now m p cap l F) w)
 (z:∀l' w',HOk l'->HRel n l l'->HeapF leA n (fK l')->St W (HL c now m p cap l' F) w'->K w'):
 qb Zp 277 #[hV c,Zi Zk i,Zi Zk n] w λv w'=>AsB v λx=>Bif (!x) (qb Zp 281 #[hV c,Zi Zk i] w' λe g=>e=(Zt #[])/\K g) (K w'):=by
 refine(down_spec u G y (by omega) t).of λv w1 ⟨b,A,s,a,f,o,j,d⟩=>⟨b,s,za (λh=>?_) λh=>?_⟩
 .have h:b=A3:=by simpa using h
  obtain⟨rfl,B⟩:=j h;refine(up_spec D u a (y.up B) d).of λv C E=>?_;obtain⟨s,H,r,q,k,t⟩:=E;exact⟨s,z H C r q k t⟩
 .have h:b=A8:=by simpa using h
  exact z A w1 a f (o h) d
def Fix_spec{i:Nat}(g:HOk l)(e:HoleI leA l.length (fK l) i)(f:i<l.length)(a:St W (HL c now m p cap l F) w):
 qb Zp 270 #[hV c,Zi Zk i] w λv w'=>v=Zt #[]/\∃l',HOk l'/\HeapF leA l'.length (fK l')/\(l'.map coreD).Perm (l.map coreD)/\St W (HL c now m p cap l' F) w':=by
 refine F270_of (iLen a ⟨_,rfl,?_⟩);exact fix_spec (Bi _) g e f a λl' w' b h d a=>⟨rfl,l',b,by rw[h.len];exact d,h.core,a⟩
def iPop{n:Nat}{K:Ab->A7->Prop}(o:l.length=n+1)(e:l[n]?=A0 d)(a:HOk l)(q:HeapF leA n (fK l))(b:St W (HL c now m p cap l F) w)
 (f:∀l' w',HOk l'->HeapF leA l'.length (fK l')->l=l'++[d]->St W (rowD d::HL c now m p cap l' F) w'->K (.iface 316 (Zq (A0 ⟨d.b,0,A2⟩))) w'):
 q6d Zp "Pop" (hV c) [] w K:=by
 obtain⟨l0,rfl,g⟩:=snoc_of o e;have i:=a.small;refine inv_ptr mPop bPop ((PopM_spec (by omega) b).of λv w' ⟨j,h⟩=>?_);subst j;refine f l0 w' a.init ?_ yR h;rw[g];exact q.congr λk r=>(fK_app (by omega)).symm
def Remove_spec{i:Nat}(C:HOk l)(M:HeapF leA l.length (fK l))(b:l[i]?=A0 d)(a:St W (HL c now m p cap l F) w):
 qb Zp 222 #[hV c,Zi Zk i] w λv w'=>∃I l',coreD I=coreD d/\v=.iface 316 (Zq (A0 ⟨d.b,0,A2⟩))/\HOk l'/\HeapF leA l'.length (fK l')/\(l.map coreD).Perm (coreD d::l'.map coreD)/\St W (rowD I::HL c now m p cap l' F) w':=by
 have R:=(A1.1 b).1;have P:=C.small;obtain⟨n,H⟩:∃n,l.length=n+1:=⟨l.length - 1,by omega⟩;obtain⟨y,q⟩:=get_of (l:=l) (i:=n) (by omega);refine F222_of (iLen a ⟨_,rfl,?_⟩);have en:Zw Zk (((l.length:Nat):Int) - 1)=((n:Nat):Int):=by rw[w64];omega
 dsimp only;rw[en];refine za (λr=>?_) λO=>?_
 .have r:(n:Int)≠(i:Int):=by simpa using r
  have h:i≠n:=by omega
  refine iSwap yR yR b q a λw a=>⟨rfl,?_⟩;have t:=C.sw b q h;have E:(swL l i n d y).length=n+1:=by rw[swL_len,H]
  have u:=swL_rel (N:=n+1) b q h (by omega) (by omega);have D:(swL l i n d y)[n]?=A0 { d with pl:=n}:=by rw[swL_get b q h,yA (Ne.symm h),yB yR]
  have G:=swL_fK b q h;have s:HoleI leA n (fK (swL l i n d y)) i:=by
   refine HoleI.congr (f:=λk=>if k=i then fK l n else fK l k) ((M.less (m:=n) (by omega)).hole leA_ord (by omega) λk J=>by rw[yA J]) λk J=>?_;rw[G];unfold sw;by_cases e:k=i;.rw[yB e,yB e]
   .rw[yA e,yA e,yA (by omega)]
  refine fix_spec (K:=λw=>q6d Zp "Pop" (hV c) [] w _) (by omega) t s (by omega) a λT w' A j x a=>?_;refine iPop (d:={ d with pl:=(n:Int)}) (by rw[j.len,E]) (by rw[j.tail n (Bi _),D]) A x a λB Q g o z a=>⟨{ d with pl:=(n:Int)},B,rfl,rfl,g,o,?_,a⟩;have L:=(j.core.trans u.core).symm;rw[z,Aa]at L;exact L.trans An
 .have O:(n:Int)=(i:Int):=by
   have:¬(n:Int)≠(i:Int):=by simpa using O
   omega
  have h:i=n:=by omega
  subst h;rw[b]at q;cases q;refine iPop H b C (M.less (by omega)) a λB Q g o z a=>⟨d,B,rfl,rfl,g,o,?_,a⟩;rw[z,Aa];exact An
def Pop_spec(U:HOk l)(X:HeapF leA l.length (fK l))(a:l[0]?=A0 d)(j:St W (HL c now m p cap l F) w):
 qb Zp 197 #[hV c] w λv w'=>∃Q l',coreD Q=coreD d/\v=.iface 316 (Zq (A0 ⟨d.b,0,A2⟩))/\HOk l'/\HeapF leA l'.length (fK l')/\(l.map coreD).Perm (coreD d::l'.map coreD)/\St W (rowD Q::HL c now m p cap l' F) w':=by
 have h2:=(A1.1 a).1;have Y:=U.small;obtain⟨n,E⟩:∃n,l.length=n+1:=⟨l.length - 1,by omega⟩;obtain⟨y,z⟩:=get_of (l:=l) (i:=n) (by omega);refine F197_of (iLen j ⟨_,rfl,?_⟩);have en:Zw Zk (((l.length:Nat):Int) - 1)=((n:Nat):Int):=by rw[w64];omega
 dsimp only;rw[en];refine iSwap (i:=0) yR yR a z j λw j=>⟨rfl,?_⟩;rcases Br n with rfl|h0
 .rw[a]at z;cases z;have V:swL l 0 0 d d=[{ d with pl:=0}]:=by
   match l,E,a with
   |[x],_,a=>simp at a;subst a;rfl
  have e0:l=[d]:=by
   match l,E,a with
   |[x],_,a=>simp at a;subst a;rfl
  rw[V]at j;have r:HOk [{ d with pl:=0}]:=⟨λi x D=>by
   match i,D with
   |0,D=>simp at D;subst D;rfl,by simp,by simp⟩
  refine(down_spec (n:=0) (i0:=0) (l:=[{ d with pl:=0}]) (by simp) r ⟨λk _ h=>yI h (by omega),λk _ h=>yI h (by omega)⟩ (Bi _) j).of λv w ⟨b,l1,L,t,g,B,A,j⟩=>⟨b,L,?_⟩;have J:=g.len;refine iPop (n:=0) (d:={ d with pl:=0}) J (by rw[g.tail 0 (Bi _)];rfl) t (λk _ h=>yI h (by omega)) j λK Z s u I j=>⟨{ d with pl:=0},K,rfl,rfl,s,u,?_,j⟩;have C:=g.core.symm;rw[I,Aa]at C;rw[e0];exact C.trans An
 .have o:0≠n:=by omega
  have r:=U.sw a z o;have O:(swL l 0 n d y).length=n+1:=by rw[swL_len,E]
  have G:=swL_rel (N:=n+1) a z o (by omega) (by omega);have M:(swL l 0 n d y)[n]?=A0 { d with pl:=n}:=by rw[swL_get a z o,yA (Ne.symm o),yB yR]
  have P:=swL_fK a z o;have q:HoleI leA n (fK (swL l 0 n d y)) 0:=by
   refine HoleI.congr (f:=λk=>if k=0 then fK l n else fK l k) ((X.less (m:=n) (by omega)).hole leA_ord (by omega) λk R=>by rw[yA R]) λk R=>?_;rw[P];unfold sw;by_cases e:k=0;.rw[yB e,yB e]
   .rw[yA e,yA e,yA (by omega)]
  refine(down_spec (n:=n) (i0:=0) (by omega) r q (by omega) j).of λv w ⟨b,l2,L,t,g,B,A,j⟩=>⟨b,L,?_⟩;have H:HeapF leA n (fK l2):=by
   cases b with
   |true=>exact B yR
   |false=>obtain⟨rfl,C⟩:=A yR;exact(q.up C).done0
  refine iPop (d:={ d with pl:=(n:Int)}) (by rw[g.len,O]) (by rw[g.tail n (Bi _),M]) t H j λK Z s u I j=>⟨{ d with pl:=(n:Int)},K,rfl,rfl,s,u,?_,j⟩;have T:=(g.core.trans G.core).symm;rw[I,Aa]at T;exact T.trans An
end
end Ck
end
section
namespace Ck
def uInt:Zp.underlying 3=A0 (.int Zk):=Tryz.underlying3
def uIs:Zp.underlying 28=A0 (.slice 3):=Tryz.underlying28
def iInt:Zp.info? 3=A0 Tryz.t3:=by kernel_rfl
def sInt:Tryz.t3.size=1:=rfl
def zInt:Tryz.t3.zero=A0 (Zi Zk 0):=rfl
def bInt:Tryz.t3.bytes=8:=rfl
def uM:Zp.underlying 183=A0 (.map 3 316):=Tryz.underlying183
def kI:qw2 Zp 3 (Zi Zk):=qw2.i64 uInt
def iV1(x:Int):(iV x).length=1:=rfl
def iVn(x:Int):∀v∈iV x,qn1 v:=λv h=>by simp[iV]at h;subst h;trivial
def gnone{l:List Al}{id:Int}:getA l id=A2↔∀x∈l,x.1≠id:=get_none
def ptV(b:Nat):Ab:=Zq (A0 ⟨b,0,A2⟩)
structure CRep(l:List AD)(D:List (Int×Nat))(al:List Al):Prop where
 ok:HOk l
 heap:HeapF leA l.length (fK l)
 keys:((l.map coreD).map (·.2)).Perm al
 srt:Srt al
 many:al.length<=1024
 dm:∀id b,qe D id=A0 b↔∃tm,(b,id,tm)∈l.map coreD
def ClockA(c:Nat)(G:ClG):Asn:=exA λx:Nat×Option Az×Nat×List AD×List (Int×Nat)=>qz [
 prA (CRep x.2.2.2.1 x.2.2.2.2 G.al/\COk G),Row c 187 [Zi Zk G.now,.slice x.2.1 x.2.2.2.1.length x.2.2.1,.map (A0 x.1)],SlA 316 1 ptD x.2.1 x.2.2.1 x.2.2.2.1,alsA x.2.2.2.1,qg (Zi Zk) ptV x.1 x.2.2.2.2]
section
variable{W w:World}{F:List Asn}{c m:Nat}{p:Option Addr}{cap:Nat}{l:List AD}{D:List (Int×Nat)}{G:ClG}{al:List Al}
def ClockA.open_(h:St W (ClockA c G::F) w):∃m p cap l D,CRep l D G.al/\COk G/\St W (HL c G.now (A0 m) p cap l (qg (Zi Zk) ptV m D::F)) w:=by obtain⟨⟨m,p,cap,l,D⟩,h⟩:=h.of_ex;obtain⟨⟨b,a⟩,h⟩:=h.of_sep.of_pr;exact⟨m,p,cap,l,D,b,a,h⟩
def ClockA.shut(a:CRep l D G.al)(b:COk G)(h:St W (HL c G.now (A0 m) p cap l (qg (Zi Zk) ptV m D::F)) w):St W (ClockA c G::F) w:=
 z00 (m,p,cap,l,D) (zj (l:=[_,_,_,_,_]) (z01 ⟨a,b⟩ h))
def ClockA.ok(h:St W (ClockA c G::F) w):COk G:=by obtain⟨m,p,cap,l,D,_,a,_⟩:=ClockA.open_ h;exact a
def CRep.nil:CRep [] [] []:=⟨⟨λi d h=>by simp at h,by simp,by simp⟩,λk _ h=>by simp at h,.refl _,⟨.nil,.nil⟩,by simp,λid b=>by simp[qe]⟩
def CRep.len(h:CRep l D al):l.length=al.length:=by have:=h.keys.length_eq;simpa using this
def core_mem{l:List AD}{b:Nat}{id tm:Int}:(b,id,tm)∈l.map coreD↔∃(i:Nat) (d:AD),l[i]?=A0 d/\coreD d=(b,id,tm):=by
 rw[A6];constructor
 .rintro⟨d,w,e⟩;obtain⟨i,h⟩:=C8 w;exact⟨i,d,h,e⟩
 .rintro⟨i,d,h,e⟩;exact⟨d,B5 h,e⟩
def CRep.get_some(h:CRep l D al){id:Int}{b:Nat}(a:qe D id=A0 b):∃(i:Nat) (d:AD),l[i]?=A0 d/\d.b=b/\d.id=id/\getA al id=A0 d.tm:=by obtain⟨tm,w⟩:=(h.dm id b).1 a;obtain⟨i,d,g,e⟩:=core_mem.1 w;simp only[coreD,B0]at e;obtain⟨c,f,j⟩:=e;refine⟨i,d,g,c,f,(find_mem h.srt.2).2 ?_⟩;rw[<-h.keys.mem_iff];exact A6.2 ⟨_,w,by rw[j]⟩
def CRep.get_none(h:CRep l D al){id:Int}(a:qe D id=A2):getA al id=A2:=by
 cases hg:getA al id with
 |none=>rfl
 |some tm=>have w:=(find_mem h.srt.2).1 hg;rw[<-h.keys.mem_iff]at w;obtain⟨⟨b,x⟩,c,e⟩:=A6.1 w;simp only at e;subst e;have:=(h.dm id b).2 ⟨tm,c⟩;rw[a]at this;cases this
def CRep.isSome(h:CRep l D al)(id:Int):(qe D id).isSome=(getA al id).isSome:=by
 cases hb:qe D id with
 |none=>rw[h.get_none hb];rfl
 |some b=>obtain⟨i,d,_,_,_,w⟩:=h.get_some hb;rw[w];rfl
def del_cons{al E:List Al}{id tm:Int}(w:((id,tm)::E).Perm al)(c:(al.map (·.1)).Nodup):(delA al id).Perm E:=by
 have a:(delA ((id,tm)::E) id).Perm (delA al id):=w.filter _;have b:delA ((id,tm)::E) id=delA E id:=by unfold delA;simp
 have f:delA E id=E:=by unfold delA;rw[Af];intro x d;have h:(((id,tm)::E).map (·.1)).Nodup:=(w.map (λx:Al=>x.1)).nodup_iff.2 c;simp only[Ad,Av]at h;have:x.1≠id:=λe=>h.1 (by rw[<-e];exact A6.2 ⟨x,d,rfl⟩);simpa using this
 rw[b,f]at a;exact a.symm
def CRep.del{l':List AD}{d:AD}(m:(D.map (·.1)).Nodup)(h:CRep l D al)(n:HOk l')(k:HeapF leA l'.length (fK l'))(j:(l.map coreD).Perm (coreD d::l'.map coreD)):CRep l' (qp D d.id) (delA al d.id):=by
 have w:((d.id,d.tm)::(l'.map coreD).map (·.2)).Perm al:=((j.map (λc:Nat×Al=>c.2)).symm.trans h.keys);have f:=h.srt.2;refine⟨n,k,(del_cons w f).symm,delA_srt h.srt _,Ar (delA_sub al _).length_le h.many,λid b=>?_⟩;rw[qaa m];have g:(((d.id,d.tm)::(l'.map coreD).map (·.2)).map (·.1)).Nodup:=(w.map (λx:Al=>x.1)).nodup_iff.2 f;simp only[Ad,Av]at g;by_cases e:d.id=id
 .rw[yB e];constructor;.intro h;cases h
  .rintro⟨tm,a⟩;exact yI (A6.2 ⟨(id,tm),A6.2 ⟨_,a,rfl⟩,e.symm⟩) g.1
 .rw[yA e,h.dm];constructor
  .rintro⟨tm,a⟩;rcases A5.1 (j.mem_iff.1 a)with i|i
   .simp only[coreD,B0]at i;exact yI i.2.1.symm e
   .exact⟨tm,i⟩
  .rintro⟨tm,a⟩;exact⟨tm,j.mem_iff.2 (Ah _ a)⟩
def CRep.reset{l':List AD}{d:AD}{i:Nat}{tm:Int}(h:CRep l D al)(m:l[i]?=A0 d)(u:HOk l')(o:HeapF leA l'.length (fK l'))(n:(l'.map coreD).Perm ((l.set i { d with tm:=tm}).map coreD)):CRep l' D (insA (d.id,tm) (delA al d.id)):=by
 have k:=(A1.1 m).1;have s:((l.set i { d with tm:=tm}).map coreD).Perm ((d.b,d.id,tm)::(l.eraseIdx i).map coreD):=(set_erase l i { d with tm:=tm} k).map coreD;have a:(l.map coreD).Perm (coreD d::(l.eraseIdx i).map coreD):=(erase_perm l i m).map coreD;have g:((d.id,d.tm)::((l.eraseIdx i).map coreD).map (·.2)).Perm al:=((a.map (λc:Nat×Al=>c.2)).symm.trans h.keys);have p:=del_cons g h.srt.2;have w:=n.trans s;have f:((l'.map coreD).map (·.2)).Perm (insA (d.id,tm) (delA al d.id)):=(w.map (λc:Nat×Al=>c.2)).trans ((p.symm.cons _).trans (insA_perm _ _).symm);refine⟨u,o,f,insA_srt (delA_srt h.srt _) λy q=>(delA_mem.1 q).2,?_,λid b=>?_⟩
 .have r:=f.length_eq;have a2:=w.length_eq;have a3:=a.length_eq;have a4:=h.keys.length_eq;have a5:=h.many;simp only[Ag,A9]at r a2 a3 a4;omega
 .rw[h.dm];constructor
  .rintro⟨t,j⟩;rcases A5.1 (a.mem_iff.1 j)with e|e
   .simp only[coreD,B0]at e;exact⟨tm,w.mem_iff.2 (by rw[e.1,e.2.1];exact Aq)⟩
   .exact⟨t,w.mem_iff.2 (Ah _ e)⟩
  .rintro⟨t,j⟩;rcases A5.1 (w.mem_iff.1 j)with e|e
   .simp only[B0]at e;exact⟨d.tm,a.mem_iff.2 (by rw[e.1,e.2.1];exact Aq)⟩
   .exact⟨t,a.mem_iff.2 (Ah _ e)⟩
def CRep.add{l':List AD}{d:AD}(h:CRep l D al)(j:getA al d.id=A2)(n:al.length<1024)(o:HOk l')(k:HeapF leA l'.length (fK l'))(f:(l'.map coreD).Perm (coreD d::l.map coreD)):CRep l' (qk D d.id d.b) (insA (d.id,d.tm) (delA al d.id)):=by
 rw[delA_none j];have i:((l'.map coreD).map (·.2)).Perm (insA (d.id,d.tm) al):=(f.map (λc:Nat×Al=>c.2)).trans ((h.keys.cons _).trans (insA_perm _ _).symm);refine⟨o,k,i,insA_srt h.srt λy m=>gnone.1 j y m,by rw[(insA_perm _ _).length_eq,A9];omega,λid b=>?_⟩;rw[qh2];have g:∀b tm,(b,d.id,tm)∉l.map coreD:=λb tm a=>by have:=(h.keys.mem_iff).1 (A6.2 ⟨_,a,rfl⟩);exact gnone.1 j _ this rfl
 by_cases e:d.id=id
 .rw[yB e];subst e;constructor
  .intro w;cases w;exact⟨d.tm,f.mem_iff.2 Aq⟩
  .rintro⟨tm,a⟩;rcases A5.1 (f.mem_iff.1 a)with w|w
   .simp only[coreD,B0]at w;rw[w.1]
   .exact yI w (g _ _)
 .rw[yA e,h.dm];constructor
  .rintro⟨tm,a⟩;exact⟨tm,f.mem_iff.2 (Ah _ a)⟩
  .rintro⟨tm,a⟩;rcases A5.1 (f.mem_iff.1 a)with w|w
   .simp only[coreD,B0]at w;exact yI w.2.1.symm e
   .exact⟨tm,w⟩
def CRep.idIn(h:CRep l D al){id:Int}(w:getA al id=A2):∀x∈l,x.id≠id:=λx a e=>by have:=(h.keys.mem_iff).1 (A6.2 ⟨coreD x,A6.2 ⟨x,a,rfl⟩,rfl⟩);exact gnone.1 w _ this e
def New_spec(h:St W F w):qb Zp 43 #[] w λv w'=>∃c,v=Zq (A0 ⟨c,0,A2⟩)/\St W (ClockA c ⟨0,[]⟩::F) w':=by
 refine F43_of (qs5.n (Zi Zk) ptV h λm w1 h=>zh h λc a h=>⟨c,rfl,?_⟩);have b:St W (Row c 187 [Zi Zk 0,Zl A2 0 0,.map (A0 m)]::qg (Zi Zk) ptV m []::F) a:=by refine h.perm (List.Perm.cons _ An)
 refine ClockA.shut (m:=m) (l:=[]) (D:=[]) (p:=A2) (cap:=0) CRep.nil COk.new ?_;have g:St W (alsA []::Row c 187 [Zi Zk 0,Zl A2 0 0,.map (A0 m)]::qg (Zi Zk) ptV m []::F) a:=zj (l:=[]) b;have d:=z09 (α:=AD) (e:=316) (size:=1) (f:=ptD) (p:=A2) g;exact d.p2
def Now_spec(h:St W (ClockA c G::F) w):qb Zp 60 #[Zq (A0 ⟨c,0,A2⟩)] w λv w'=>v=Zi Zk G.now/\St W (ClockA c G::F) w':=by obtain⟨m,p,cap,l,D,a,b,h⟩:=ClockA.open_ h;exact F60_of (z7 (z8 0 h yR yR ⟨rfl,ClockA.shut a b h⟩))
def Set_spec(id tm:Int)(a:St W (ClockA c G::F) w):
 qb Zp 187 #[Zq (A0 ⟨c,0,A2⟩),Zi Zk id,Zi Zk tm] w λv w'=>v=Zi Zk (cSet G id tm).2/\St W (ClockA c (cSet G id tm).1::F) w':=by
 obtain⟨m,p,cap,l,D,g,I,a⟩:=ClockA.open_ a;have R:=g.len;have E:=g.many;refine F187_of (z7 (zv 0 a yR yR (qq1 kI uM iPt zPt 3 a yR id A8 ?_)));rw[yB yR];refine⟨((qe D id).map λb=>(⟨b,0,A2⟩:Az)),(qe D id).isSome,by cases qe D id<;>rfl,z7 (z8 0 a yR yR ?_)⟩;refine⟨λvs w=>vs=[Zb (decide (tm<=G.now\/tm>2199023255552))]/\St W (HL c G.now (A0 m) p cap l (qg (Zi Zk) ptV m D::F)) w,za (λh=>⟨?_,a⟩) λh=>⟨?_,a⟩,λb w X=>?_⟩
 .have n:=yC h;rw[h,yG (.inl n)]
 .have n:=yD h;congr 2;rw[decide_eq_decide];constructor;.exact .inr
  .rintro(o|o);.exact yI o n
   .exact o
 obtain⟨Y,a⟩:=X;cases Y;refine za (λh=>?_) λh=>?_
 .have h:=yC h;unfold cSet;rw[yB h];exact⟨rfl,ClockA.shut g I a⟩
 have h:=yD h;have f:=I.set id tm;unfold cSet at f⊢;rw[yA h]at f⊢;have U:=g.isSome id;cases hb:qe D id with
 |some b=>
  obtain⟨i,d,r,rfl,rfl,s⟩:=g.get_some hb;have q:=(A1.1 r).1;rw[s]at f⊢;rw[yA (by simp)]at f⊢;refine zm yR (z7 ?_);refine alsA.put (y:={ d with tm:=tm}) (a.at 2 yR) r (j:=1) (by decide) yR yR λw Z=>?_;have a:St W (HL c G.now (A0 m) p cap l (qg (Zi Zk) ptV m D::F)) w\/True:=.inr trivial;have a:St W (Row c 187 [Zi Zk G.now,Zl p l.length cap,.map (A0 m)]::SlA 316 1 ptD p cap l::alsA (l.set i { d with tm:=tm})::qg (Zi Zk) ptV m D::F) w:=Z.p2.p2;have K:SlA 316 1 ptD p cap l=SlA 316 1 ptD p cap (l.set i { d with tm:=tm}):=by
   unfold SlA;rw[Bl,<-flat_set pt1 l i { d with tm:=tm} (Zq (A0 ⟨d.b,0,A2⟩)) yR];have H:(l.flatMap ptD)[i]?=A0 (Zq (A0 ⟨d.b,0,A2⟩)):=by have:=qn9 pt1 (i:=i) (j:=0) r (v:=Zq (A0 ⟨d.b,0,A2⟩)) yR;simpa using this
   obtain⟨n,o⟩:=A1.1 H;rw[<-o,C6]
  rw[K]at a;have C:(l.set i { d with tm:=tm}).length=l.length:=Bl;rw[<-C]at a;have u:(l.set i { d with tm:=tm})[i]?=A0 { d with tm:=tm}:=by rw[Ac,yB yR,yB q]
  have z:HoleI leA (l.set i { d with tm:=tm}).length (fK (l.set i { d with tm:=tm})) i:=by rw[C];refine g.heap.hole leA_ord q λk T=>?_;unfold fK;rw[Ac,yA (Ne.symm T)]
  have Q:HOk (l.set i { d with tm:=tm}):=by
   refine⟨λk x A=>?_,?_,by rw[C];exact g.ok.small⟩
   .rw[Ac]at A;by_cases e:i=k
    .rw[yB e,yB q]at A;cases A;rw[<-e];exact g.ok.pl i d r
    .rw[yA e]at A;exact g.ok.pl k x A
   .have e:(l.set i { d with tm:=tm}).map (·.id)=l.map (·.id):=by
     rw[C0];have H:(l.map (·.id))[i]?=A0 d.id:=by rw[Au,r];rfl
     obtain⟨n,o⟩:=A1.1 H;show(l.map (·.id)).set i d.id=_;rw[<-o,C6]
    rw[e];exact g.ok.nd
  have N:=Q.pl i _ u;have O:=z6 W (HL c G.now (A0 m) p cap (l.set i { d with tm:=tm}) (qg (Zi Zk) ptV m D::F));refine⟨StC W _,zd a,z7 (z7 ⟨(i:Int),z0j λL w hw=>?_,?_⟩)⟩
  .have:=HL.al O hw u (j:=2) (v:=Zi Zk d.pl) yR;rw[show d.pl=(i:Int)from N]at this;exact this
  refine zk (α:=List AD) (V:=λ_=>Zt #[]) (B:=λl'=>prA (HOk l'/\HeapF leA l'.length (fK l')/\(l'.map coreD).Perm ((l.set i { d with tm:=tm}).map coreD))::HL c G.now (A0 m) p cap l' (qg (Zi Zk) ptV m D::F)) [] O (λL w h=>?_) λl'=>⟨rfl,trivial,λL w h=>⟨rfl,?_⟩⟩;.exact(Fix_spec (F:=qg (Zi Zk) ptV m D::(F++pts L)) Q z (by rw[C];exact q) h).of λv w' ⟨M,l',n,o,t,J⟩=>⟨M,l',rfl,z01 ⟨n,o,t⟩ J⟩
  obtain⟨⟨n,o,t⟩,a⟩:=(zb h).of_pr;exact ClockA.shut (G:=⟨G.now,insA (d.id,tm) (delA G.al d.id)⟩) (g.reset r n o t) f a
 |none=>
  have s:=g.get_none hb;rw[s]at f⊢;refine zn yR (z7 (zt 0 a yR yR (za (λn=>?_) λn=>?_)))
  .have n:(l.length:Int)=1024:=by simpa using n
   rw[yB ⟨rfl,by omega⟩];exact⟨rfl,ClockA.shut g I a⟩
  .have n:¬(l.length:Int)=1024:=by simpa using n
   rw[yA (by rintro⟨_,o⟩;omega)]at f⊢;refine zh a λb w a=>z7 ?_;have a:St W (rowD ⟨b,id,tm,0⟩::HL c G.now (A0 m) p cap l (qg (Zi Zk) ptV m D::F)) w:=a;refine zv 1 a yR yR (qh1 kI uM 4 a yR id b λw a=>z7 ?_);have a:St W (rowD ⟨b,id,tm,0⟩::HL c G.now (A0 m) p cap l (qg (Zi Zk) ptV m (qk D id b)::F)) w:=a;refine(Push_spec (d:=⟨b,id,tm,0⟩) g.ok g.heap (g.idIn s) (by omega) a).of λv w ⟨M,p',P,l',o,t,J,a⟩=>⟨M,rfl,?_⟩;exact ClockA.shut (G:=⟨G.now,insA (id,tm) (delA G.al id)⟩) (g.add (d:=⟨b,id,tm,0⟩) s (by omega) o t J) f a
def Drop_spec(id:Int)(a:St W (ClockA c G::F) w):
 qb Zp 144 #[Zq (A0 ⟨c,0,A2⟩),Zi Zk id] w λv w'=>v=Zb (cDrop G id).2/\St W (ClockA c (cDrop G id).1::F) w':=by
 obtain⟨m,p,cap,l,D,e,t,a⟩:=ClockA.open_ a;have z:=z18 kI (a.at 3 yR);refine F144_of (z7 (zv 0 a yR yR (qq1 kI uM iPt zPt 3 a yR id A8 ?_)));rw[yB yR];have f:=t.drop id;unfold cDrop at f⊢;cases hb:qe D id with
 |none=>have g:=e.get_none hb;refine⟨A2,A3,rfl,zn yR ?_⟩;rw[g,delA_none g];exact⟨rfl,ClockA.shut e t a⟩
 |some b=>
  obtain⟨i,d,q,rfl,rfl,g⟩:=e.get_some hb;have o:=e.ok.pl i d q;have u:=z6 W (HL c G.now (A0 m) p cap l (qg (Zi Zk) ptV m D::F));refine⟨A0 ⟨d.b,0,A2⟩,A8,rfl,zm yR ⟨StC W _,zd a,z7 (z7 ⟨(i:Int),z0j λr w A=>?_,?_⟩)⟩⟩
  .have:=HL.al u A q (j:=2) (v:=Zi Zk d.pl) yR;rw[o]at this;exact this
  refine zk (α:=AD×List AD) (V:=λ_=>.iface 316 (Zq (A0 ⟨d.b,0,A2⟩))) (B:=λx=>prA (HOk x.2/\HeapF leA x.2.length (fK x.2)/\(l.map coreD).Perm (coreD d::x.2.map coreD))::rowD x.1::HL c G.now (A0 m) p cap x.2 (qg (Zi Zk) ptV m D::F)) (d,[]) u (λr w h=>?_) λx=>⟨trivial,λr w h=>z7 ?_⟩;.exact(Remove_spec (F:=qg (Zi Zk) ptV m D::(F++pts r)) e.ok e.heap q h).of λv w' ⟨C,l',H,y,n,k,s,E⟩=>⟨(C,l'),y,z01 ⟨n,k,s⟩ E⟩
  obtain⟨⟨n,k,s⟩,a⟩:=(zb h).of_pr;refine zv 1 a yR yR (qc5 kI uM 4 a yR d.id λw a=>⟨?_,?_⟩);.rw[g];rfl
  .have a:St W (rowD x.1::HL c G.now (A0 m) p cap x.2 (qg (Zi Zk) ptV m (qp D d.id)::F)) w:=a;exact ClockA.shut (G:=⟨G.now,delA G.al d.id⟩) (e.del z n k s) f a.drop
end
end Ck
end
section
namespace Ck
def leftZ(n:Nat):List Ab->A7->Nat:=λvs _=>match vs.head? with
 |some (.slice _ i _)=>n - i
 |_=>0
def filt_split{t:Int}{done rest:List Al}(a:∀x∈done,x.2<=t)(w:∀x∈rest,¬x.2<=t):((done++rest).filter λx=>decide (x.2<=t))=done/\((done++rest).filter λx=>decide (¬x.2<=t))=rest:=by
 constructor;.rw[Ai,Af.2 (λx h=>by simpa using a x h),C2.2 (λx h=>by simpa using w x h),Co]
 .rw[Ai,C2.2 (λx h=>by simpa using a x h),Af.2 (λx h=>by simpa using w x h),List.nil_append]
section
variable{W w:World}{F:List Asn}{c m:Nat}{p:Option Addr}{cap:Nat}{l:List AD}{D:List (Int×Nat)}{G:ClG}{al:List Al}
def CRep.head{x:Al}{r:List Al}{d:AD}(h:CRep l D (x::r))(w:l[0]?=A0 d):keyD d=x:=by
 have j:=(A1.1 w).1;have g:keyD d∈x::r:=by rw[<-h.keys.mem_iff];exact A6.2 ⟨coreD d,A6.2 ⟨d,B5 w,rfl⟩,rfl⟩
 have m:leA x (keyD d):=by
  rcases A5.1 g with e|e;.rw[e];exact(leA_ord.total _ _).elim id id
  .exact(B1.1 h.srt.1).1 _ e
 have f:x∈(l.map coreD).map (·.2):=h.keys.mem_iff.2 Aq;obtain⟨n,c,e⟩:=A6.1 f;obtain⟨y,i,rfl⟩:=A6.1 c;obtain⟨k,a⟩:=C8 i;have b:leA (keyD d) x:=by have:=h.heap.least leA_ord k (A1.1 a).1;rw[fK_at w,fK_at a]at this;rw[<-e];exact this
 exact leA_anti b m
def delA_head{x:Al}{r:List Al}(h:((x::r).map (·.1)).Nodup):delA (x::r) x.1=r:=by simp only[Ad,Av]at h;unfold delA;rw[List.filter_cons_of_neg (by simp),Af];intro y w;have:y.1≠x.1:=λe=>h.1 (by rw[<-e];exact A6.2 ⟨y,w,rfl⟩);simpa using this
def Tick_spec(n:Int)(hn: -9223372036854775808<=n/\n<=9223372036854775807)(a:St W (ClockA c G::F) w):
 qb Zp 127 #[Zq (A0 ⟨c,0,A2⟩),Zi Zk n] w λv w'=>∃C A,v=Zt #[.slice C (cTick G n).2.1.length A,Zi Zk (cTick G n).2.2]/\St W (ClockA c (cTick G n).1::SlA 3 1 iV C A (cTick G n).2.1::F) w':=by
 have hG:=ClockA.ok a;have hn0:=hG.now0;have hn1:=hG.now1;have hmn:maxN=1099511627776:=rfl;have i:=hG.tick n;have P:n<0\/n>maxN - G.now->∀w,St W (ClockA c G::F) w->∃C A,Zt #[Zl A2 0 0,Zi Zk 1]=Zt #[.slice C (cTick G n).2.1.length A,Zi Zk (cTick G n).2.2]/\St W (ClockA c (cTick G n).1::SlA 3 1 iV C A (cTick G n).2.1::F) w:=λh w a=>by unfold cTick;rw[yB h];exact⟨A2,0,rfl,(z09 a).p1⟩
 refine F127_of (za (λh=>P (.inl (yC h)) w a) λh=>?_);have h:=yD h;have T:=a;obtain⟨m,p,cap,l,D,o,_,a⟩:=ClockA.open_ a;refine z7 (z8 0 a yR yR ?_);rw[w64 (n:=1099511627776 - G.now) (by omega) (by omega)];refine za (λh2=>P (.inr (yC h2)) w T) λh2=>?_;have h2:=yD h2;clear T;have hnc:¬(n<0\/n>maxN - G.now):=by omega
 unfold cTick at i⊢;rw[yA hnc]at i⊢;dsimp only at i⊢;refine z7 (z8 0 a yR yR (z7 ?_));rw[w64 (n:=G.now+n) (by omega) (by omega)];refine St1.zz 0 a yR λw a=>?_;have a:St W (HL c (G.now+n) (A0 m) p cap l (qg (Zi Zk) ptV m D::F)) w:=a;generalize ht:G.now+n=t at a i⊢;have a:St W (HL c t (A0 m) p cap l (qg (Zi Zk) ptV m D::SlA 3 1 iV A2 0 (Cz (·.1) ([]:List Al))::F)) w:=zf 0 4 (z09 (α:=Int) (e:=3) (size:=1) (f:=iV) (p:=A2) a) yR;refine⟨λvs w=>∃p cap l D done b p1 c1,vs=[Zl p1 (done.map (λx:Al=>x.1)).length c1]/\G.al=done++b/\(∀x∈done,x.2<=t)/\CRep l D b/\St W (HL c t (A0 m) p cap l (qg (Zi Zk) ptV m D::SlA 3 1 iV p1 c1 (done.map (λx:Al=>x.1))::F)) w,leftZ (G.al.length+1),⟨p,cap,l,D,[],G.al,A2,0,rfl,rfl,by simp,o,a⟩,λH n2 I w hI=>?_⟩;clear o a;obtain⟨p,cap,l,D,done,b,p1,c1,he,s,k,o,a⟩:=hI;cases he;have Y:=o.len;have hmany:=hG.many;have M:∀w,(∀x∈b,¬x.2<=t)->St W (HL c t (A0 m) p cap l (qg (Zi Zk) ptV m D::SlA 3 1 iV H I (done.map (λx:Al=>x.1))::F)) w->∃C A,Zt #[Zl H (done.map (λx:Al=>x.1)).length I,Zi Zk 0]=Zt #[.slice C ((G.al.filter λx=>decide (x.2<=t)).map (λx:Al=>x.1)).length A,Zi Zk 0]/\St W (ClockA c ⟨t,G.al.filter λx=>decide (¬x.2<=t)⟩::SlA 3 1 iV C A ((G.al.filter λx=>decide (x.2<=t)).map (λx:Al=>x.1))::F) w:=λw J a=>by obtain⟨e1,e2⟩:=filt_split k J;rw[s]at i⊢;rw[e1,e2];rw[e2]at i;exact⟨H,I,rfl,ClockA.shut (G:=⟨t,b⟩) o i a⟩
 have N:=z6 W (HL c t (A0 m) p cap l (qg (Zi Zk) ptV m D::SlA 3 1 iV H I (done.map (λx:Al=>x.1))::F));refine⟨StC W _,zd a,z7 ⟨_,_,_,QtL.a 0 N yR yR,za (λz=>?_) λQ=>?_⟩⟩
 .have z:0<l.length:=by have:=yC z;omega
  obtain⟨d,hd⟩:=get_of z;obtain⟨x,r,rfl⟩:∃x r,b=x::r:=by
   cases b with
   |nil=>rw[Aj]at Y;omega
   |cons x r=>exact⟨x,r,rfl⟩
  have X:=o.head hd;refine z7 (z7 ⟨_,_,_,QtL.a 0 N yR yR,z07 N pt1 (by decide) HL.rd a yR z hd λa26 h26=>⟨_,QtP.at λG w Z=>h26 Z 0 _ rfl,z7 ⟨_,z0j λG w Z=>HL.al N Z hd (j:=1) yR,_,zi 0 N yR yR,λG' w Z=>?_⟩⟩⟩);have a:=zb Z;have E:d.tm=x.2:=by rw[<-X];rfl
  have R:d.id=x.1:=by rw[<-X];rfl
  refine za (λg=>?_) λg=>?_
  .have g:=yC g;have hk:=z18 kI (a.at 3 yR);refine z7 ((Pop_spec o.ok o.heap hd a).of λv w ⟨d',l',O,hv,ho,hh,hp,a⟩=>?_);subst hv;obtain⟨b',id',tm',u⟩:=d';simp only[coreD,B0]at O;obtain⟨rfl,rfl,rfl⟩:=O;have K:=z6 W (rowD ⟨d.b,d.id,d.tm,u⟩::HL c t (A0 m) p cap l' (qg (Zi Zk) ptV m D::SlA 3 1 iV H I (done.map (λx:Al=>x.1))::F));refine⟨_,assert_pt _,_,rfl,StC W _,zd a,z7 (z7 ⟨_,z0b 1 K yR yR,_,zi 0 K yR yR,?_⟩)⟩;refine Ef.n (α:=Unit) (V:=λ_=>Zt #[]) (B:=λ_=>[qg (Zi Zk) ptV m (qp D d.id)]) () 4 K yR (λG' w h=>qc5 kI uM 0 h yR d.id λw' h=>⟨(),rfl,?_⟩) λ_=>⟨rfl,trivial,λG' w h=>z7 ?_⟩;.exact z17 4 yR (B:=[_]) h
   have a:=zb h;have a:St W (rowD ⟨d.b,d.id,d.tm,u⟩::HL c t (A0 m) p cap l' (qg (Zi Zk) ptV m (qp D d.id)::SlA 3 1 iV H I (done.map (λx:Al=>x.1))::F)) w:=a;refine z8 0 a yR yR (zh a λU w a=>?_);have a:St W (Row U 3 (Bo iV [d.id])::rowD ⟨d.b,d.id,d.tm,u⟩::HL c t (A0 m) p cap l' (qg (Zi Zk) ptV m (qp D d.id)::SlA 3 1 iV H I (done.map (λx:Al=>x.1))::F)) w:=a;have hdl:(done.map (λx:Al=>x.1)).length<=1024:=by have:=yE C7 s;rw[Ap]at this;rw[Ag];omega
   have hal':G.al.length=done.length+1+r.length:=by rw[s,Ap,A9];omega
   refine qf3 (os:=done.map (λx:Al=>x.1)) (xs:=[d.id]) iV1 uIs (.inr ⟨_,uIs⟩) iInt sInt zInt yR 6 a yR (z0m) yR iVn (by rw[bInt];simp only[A9,Aj];omega) (by simp only[A9,Aj];omega) λp3 c3 w a=>⟨_,_,_,rfl,?_⟩;have a:St W (Row U 3 (Bo iV [d.id])::rowD ⟨d.b,d.id,d.tm,u⟩::HL c t (A0 m) p cap l' (qg (Zi Zk) ptV m (qp D d.id)::SlA 3 1 iV p3 c3 (done.map (λx:Al=>x.1)++[d.id])::F)) w:=a;have a:=a.drop.drop;have ed:done.map (λx:Al=>x.1)++[d.id]=(done++[x]).map (λx:Al=>x.1):=by rw[Aa,R];rfl
   rw[ed]at a⊢;have L:=o.del (d:=d) hk ho hh hp;rw[show delA (x::r) d.id=r by rw[R];exact delA_head o.srt.2]at L;refine⟨⟨p,cap,l',_,done++[x],r,p3,c3,rfl,by rw[s];simp,λy q=>?_,L,a⟩,?_⟩
   .rcases C5.1 q with q|q;.exact k y q
    .simp at q;subst q;rw[<-E];exact g
   .show G.al.length+1 -((done++[x]).map (λx:Al=>x.1)).length<G.al.length+1 -(done.map (λx:Al=>x.1)).length;rw[Ag,Ag,Ap,A9,Aj];omega
  .have g:¬d.tm<=t:=yD g;refine M w (λy q=>?_) a;rcases A5.1 q with rfl|q;.rw[<-E];exact g
   .have h3:x.2<y.2\/(x.2=y.2/\x.1<=y.1):=(B1.1 o.srt.1).1 y q;have h4:d.tm<=y.2:=by rw[E];rcases h3 with h3|h3<;>omega
    exact λh5=>g (Int.le_trans h4 h5)
 .have Q:=yD Q;have h0:b=[]:=As (by omega);subst h0;exact λG' w h=>M w (by simp) (zb h)
end
end Ck
end
namespace Qu
abbrev Name:=ByteArray
abbrev QG:=List (Name×Int)
def gL(G:QG)(n:Name):List Int:=(G.filter λx=>decide (x.1=n)).map (·.2)
def gW:QG->Int->Option Name
 |[],_=>A2
 |x::r,id=>if x.2=id then A0 x.1 else gW r id
def gDrop(G:QG)(id:Int):QG:=G.filter λx=>decide (x.2≠id)
def gPut(G:QG)(n:Name)(id:Int):QG×Int:=
 if(gW G id).isSome then(G,4)else if 8<=(gL G n).length\/64<=G.length then(G,2)else(G++[(n,id)],0)
structure QOk(G:QG):Prop where
 nod:(G.map (·.2)).Nodup
 row:∀n,(gL G n).length<=8
 all:G.length<=64
def gW_none{G:QG}{id:Int}:gW G id=A2↔id∉G.map (·.2):=by
 induction G with
 |nil=>simp[gW]
 |cons x r ih=>
  simp only[gW,Ad,A5,not_or];split;.rename_i h;simp[h]
  .rename_i h;rw[ih];exact⟨λk=>⟨λe=>h e.symm,k⟩,λk=>k.2⟩
def gW_mem{G:QG}(w:(G.map (·.2)).Nodup){id:Int}{n:Name}(h:(n,id)∈G):gW G id=A0 n:=by
 induction G with
 |nil=>cases h
 |cons x r ih=>
  simp only[Ad,Av]at w;simp only[gW];rcases A5.1 h with h|h;.subst h;simp
  .have:x.2≠id:=λe=>w.1 (A6.2 ⟨_,h,e.symm⟩);rw[yA this];exact ih w.2 h
def mem_gL{G:QG}{n:Name}{id:Int}:id∈gL G n↔(n,id)∈G:=by
 unfold gL;simp only[A6,C3,yJ];constructor;.rintro⟨x,⟨w,rfl⟩,rfl⟩;exact w
 .intro h;exact⟨_,⟨h,rfl⟩,rfl⟩
def gL_app(G H:QG)(n:Name):gL (G++H) n=gL G n++gL H n:=by simp[gL]
def gL_one(m n:Name)(id:Int):gL [(m,id)] n=if m=n then [id]else []:=by unfold gL;by_cases h:m=n<;>simp[h]
def gW_app(G:QG)(m:Name)(id j:Int)(h:gW G id=A2):gW (G++[(m,id)]) j=if id=j then A0 m else gW G j:=by
 induction G with
 |nil=>simp[gW]
 |cons x r a=>
  simp only[gW]at h;split at h;.cases h
  .rename_i w;simp only[By,gW,a h];by_cases e:x.2=j;.rw[yB e,yB e,yA (λk=>w (e.trans k.symm))]
   .rw[yA e,yA e]
def gW_drop(G:QG)(id j:Int):gW (gDrop G id) j=if id=j then A2 else gW G j:=by
 induction G with
 |nil=>simp[gW,gDrop]
 |cons x r w=>
  unfold gDrop at w⊢;simp only[Bw];by_cases h:x.2=id
  .simp only[h,ne_eq,not_true,decide_false,Bool.false_eq_true,if_false,w,gW];by_cases e:id=j;.rw[yB e,yB e]
   .rw[yA e,yA e,yA e]
  .simp only[ne_eq,h,not_false_eq_true,decide_true,if_true,gW,w];by_cases e:x.2=j;.rw[yB e,yB e,yA (λk=>h (e.trans k.symm))]
   .rw[yA e,yA e]
def gL_drop(G:QG)(id:Int)(n:Name):gL (gDrop G id) n=(gL G n).filter λx=>decide (x≠id):=by unfold gL gDrop;rw[Cm,Bp,Bp];congr 1;refine Bg λx _=>?_;simp[Function.comp_def,Ct]
def gDrop_len(G:QG)(id:Int):(gDrop G id).length<=G.length:=Am _ _
def QOk.nil:QOk []:=⟨by simp,λn=>by simp[gL],by simp⟩
def QOk.drop{G:QG}(h:QOk G)(id:Int):QOk (gDrop G id):=⟨(Bb.map _).nodup h.nod,λn=>by rw[gL_drop];exact Ar (Am _ _) (h.row n),Ar (gDrop_len G id) h.all⟩
def QOk.put{G:QG}(h:QOk G)(n:Name)(id:Int):QOk (gPut G n id).1:=by
 unfold gPut;split;.exact h
 .rename_i w;split;.exact h
  .rename_i d;have w:gW G id=A2:=by simpa using w
   rw[not_or]at d;refine⟨?_,λm=>?_,by simp;omega⟩
   .rw[Aa];exact Cf.2 ⟨h.nod,by simp,λa f b c=>by simp at c;subst c;exact λe=>gW_none.1 w (e ▸ f)⟩
   .rw[gL_app,gL_one];by_cases e:n=m;.subst e;simp;omega
    .simp[e];exact h.row m
structure RepQ(rows:List (Name×List Int))(wh:List (Int×Name))(G:QG):Prop where
 ok:QOk G
 keys:(rows.map (·.1)).Nodup
 row:∀n,(qe rows n).getD []=gL G n
 full:∀x∈rows,x.2≠[]
 wh:∀id,qe wh id=gW G id
def RepQ.nil:RepQ [] [] []:=⟨QOk.nil,by simp,λn=>rfl,by simp,λid=>rfl⟩
def RepQ.nil_iff{w:List (Name×List Int)}{wh:List (Int×Name)}{G:QG}(h:RepQ w wh G){n:Name}:qe w n=A2↔gL G n=[]:=by
 have:=h.row n;constructor;.intro e;rw[e]at this;exact this.symm
 .intro e;cases hg:qe w n with
  |none=>rfl
  |some x=>rw[hg,e]at this;exact(h.full _ (qg3 hg) this).elim
def sumL(h:List (Name×List Int)):Nat:=(h.map λx=>x.2.length).sum
def count_rows(G:QG):∀(K:List Name),K.Nodup->(∀x∈G,x.1∈K)->(K.map λn=>(gL G n).length).sum=G.length:=by
 induction G with
 |nil=>intro K _ _;simp[gL];induction K with|nil=>rfl|cons a r ih=>simp_all
 |cons g r ih=>
  intro K c b;have j:=ih K c λx f=>b x (Ah _ f);have step:∀(K:List Name),K.Nodup->(g.1∈K->(K.map λn=>(gL (g::r) n).length).sum=(K.map λn=>(gL r n).length).sum+1)/\(g.1∉K->(K.map λn=>(gL (g::r) n).length).sum=(K.map λn=>(gL r n).length).sum):=by
   intro K;induction K with
   |nil=>intro _;simp
   |cons a K ihK=>
    intro w;simp only[Av]at w;obtain⟨i,i2⟩:=ihK w.2;simp only[Ad,Cu,A5,not_or];have e:g.1=a->(gL (g::r) a).length=(gL r a).length+1:=λh=>by unfold gL;simp[h]
    have e':g.1≠a->(gL (g::r) a).length=(gL r a).length:=λh=>by unfold gL;simp[h]
    constructor
    .rintro(h|h)
     .have:g.1∉K:=by rw[h];exact w.1
      rw[e h,i2 this];omega
     .have:g.1≠a:=λe=>w.1 (e ▸ h);rw[e' this,i h];omega
    .rintro⟨h,d⟩;rw[e' h,i2 d]
  rw[(step K c).1 (b g Aq),j,A9]
def RepQ.sum{w:List (Name×List Int)}{wh:List (Int×Name)}{G:QG}(h:RepQ w wh G):sumL w=G.length:=by
 rw[<-count_rows G (w.map (·.1)) h.keys]
 .unfold sumL;rw[Bn];congr 1;refine List.map_congr_left λx b=>?_;have a:=h.row x.1;rw[q24 h.keys (show(x.1,x.2)∈w from b)]at a;simp only[Ci]at a;simp[a]
 .intro x b;have:x.2∈gL G x.1:=mem_gL.2 b;cases hg:qe w x.1 with
  |none=>rw[h.nil_iff.1 hg]at this;cases this
  |some l=>exact A6.2 ⟨_,qg3 hg,rfl⟩
def RepQ.put{w:List (Name×List Int)}{wh:List (Int×Name)}{G:QG}(h:RepQ w wh G){n:Name}{id:Int}(c:gW G id=A2)(f:(gL G n).length<8)(g:G.length<64):
 RepQ (qk w n ((qe w n).getD []++[id])) (qk wh id n) (G++[(n,id)]):=by
 have a:=h.ok.put n id;have d:gPut G n id=(G++[(n,id)],0):=by unfold gPut;rw[yA (by simp[c]),yA (by omega)]
 rw[d]at a;refine⟨a,qr7 h.keys _ _,λm=>?_,λx b=>?_,λj=>?_⟩
 .rw[qh2,gL_app,gL_one];by_cases e:n=m;.subst e;simp[h.row n]
  .simp[e,h.row m]
 .rcases aset_mem b with rfl|b;.simp
  .exact h.full x b
 .rw[qh2,gW_app _ _ _ _ c,h.wh]
where
 aset_mem {L:List (Name×List Int)} {k:Name} {v:List Int} {x:Name×List Int} (w:x∈qk L k v):x=(k,v)\/x∈L:=by
  induction L with
  |nil=>simp[qk]at w;exact .inl w
  |cons y r ih=>
   simp only[qk]at w
   split at w
   .rcases A5.1 w with h|h
    .exact .inl h
    .exact .inr (Ah _ h)
   .rcases A5.1 w with h|h
    .subst h;exact .inr Aq
    .rcases ih h with h|h
     .exact .inl h
     .exact .inr (Ah _ h)
def leftOver(h:List (Name×List Int))(n:Name)(id:Int):List Int:=((qe h n).getD []).filter λx=>decide (x≠id)
def dropRows(h:List (Name×List Int))(n:Name)(id:Int):List (Name×List Int):=
 if leftOver h n id=[]then qp (qk h n (leftOver h n id)) n else qk h n (leftOver h n id)
def RepQ.drop{w:List (Name×List Int)}{wh:List (Int×Name)}{G:QG}(h:RepQ w wh G)(k:(wh.map (·.1)).Nodup){n:Name}{id:Int}(l:gW G id=A0 n):
 RepQ (dropRows w n id) (qp wh id) (gDrop G id):=by
 have f:(qk w n (leftOver w n id)).map (·.1) |>.Nodup:=qr7 h.keys _ _
 have g:leftOver w n id=gL (gDrop G id) n:=by rw[gL_drop];unfold leftOver;rw[h.row]
 have b:∀m,n≠m->gL (gDrop G id) m=gL G m:=λm a=>by rw[gL_drop,Af];intro x c;simp only[yJ];intro e;subst e;have:=gW_mem h.ok.nod (mem_gL.1 c);rw[l]at this;exact a (Bd this)
 refine⟨h.ok.drop id,?_,λm=>?_,λx c=>?_,λj=>?_⟩
 .unfold dropRows;split;.exact qph f n
  .exact f
 .unfold dropRows;split
  .rename_i e;rw[qaa f,qh2];by_cases a:n=m;.subst a;simp[<-g,e]
   .simp only[yA a,h.row,b m a]
  .rename_i e;rw[qh2];by_cases a:n=m;.subst a;simp[g]
   .simp only[yA a,h.row,b m a]
 .unfold dropRows at c;split at c
  .rename_i e;have i:=(q2a _ _).subset c;rcases RepQ.put.aset_mem i with rfl|d
   .have:=q24 (qph f n) c;rw[qaa f]at this;simp at this
   .exact h.full x d
  .rename_i e;rcases RepQ.put.aset_mem c with rfl|d;.exact e
   .exact h.full x d
 .rw[qaa k,gW_drop,h.wh]
end Qu
section
namespace Qu
def uIs:Zp.underlying 28=A0 (.slice 3):=Tryz.underlying28
def uInt:Zp.underlying 3=A0 (.int Zk):=Tryz.underlying3
def uS:Zp.underlying 9=A0 .string:=Tryz.underlying9
def uM1:Zp.underlying 169=A0 (.map 9 28):=Tryz.underlying169
def uM2:Zp.underlying 170=A0 (.map 3 9):=Tryz.underlying170
def iInt:Zp.info? 3=A0 Tryz.t3:=by kernel_rfl
def iIs:Zp.info? 28=A0 Tryz.t28:=by kernel_rfl
def iS:Zp.info? 9=A0 Tryz.t9:=by kernel_rfl
def sInt:Tryz.t3.size=1:=rfl
def zInt:Tryz.t3.zero=A0 (Zi Zk 0):=rfl
def bInt:Tryz.t3.bytes=8:=rfl
def zIs:Tryz.t28.zero=A0 (Zl A2 0 0):=rfl
def zS:Tryz.t9.zero=A0 (Zs ⟨#[]⟩):=rfl
def kS:qw2 Zp 9 Zs:=qw2.str uS
def kI:qw2 Zp 3 (Zi Zk):=qw2.i64 uInt
def w64{n:Int}(w: -9223372036854775808<=n:=by omega)(h:n<=9223372036854775807:=by omega):Zw Zk n=n:=IntWalk.i64_in _ ⟨w,h⟩
def iV1(x:Int):(iV x).length=1:=rfl
def iVn(x:Int):∀v∈iV x,qn1 v:=λv h=>by simp[iV]at h;subst h;trivial
def up{k n:Nat}(h:k<n)(w:n<=9223372036854775807):Zw Zk ((k:Int)+1)=((k+1:Nat):Int):=by rw[w64];omega
def leftN(n:Nat):List Ab->A7->Nat:=λvs _=>match vs.getLast? with
 |some (.int _ i)=>n - i.toNat
 |_=>0
structure SlD where
 p:Option Az
 c:Nat
 ids:List Int
def vS(d:SlD):Ab:=.slice d.p d.ids.length d.c
def ownD(x:Name×SlD):Asn:=SlA 3 1 iV x.2.p x.2.c x.2.ids
def rowsOf(D:List (Name×SlD)):List (Name×List Int):=D.map λx=>(x.1,x.2.ids)
def rows_get(D:List (Name×SlD))(n:Name):qe (rowsOf D) n=(qe D n).map SlD.ids:=by
 induction D with
 |nil=>rfl
 |cons x r ih=>
  simp only[rowsOf,Ad,qe]at ih⊢;split;.rfl
  .exact ih
def rows_set(D:List (Name×SlD))(n:Name)(d:SlD):rowsOf (qk D n d)=qk (rowsOf D) n d.ids:=by
 induction D with
 |nil=>rfl
 |cons x r h=>
  simp only[rowsOf,Ad,qk]at h⊢;split;.rfl
  .simp only[Ad,h]
def rows_del(D:List (Name×SlD))(n:Name):rowsOf (qp D n)=qp (rowsOf D) n:=by
 induction D with
 |nil=>rfl
 |cons x r h=>
  simp only[rowsOf,Ad,qp]at h⊢;split;.rfl
  .simp only[Ad,h]
def aset_perm{κ ν:Type}[DecidableEq κ](L:List (κ×ν))(k:κ)(v:ν):(qk L k v).Perm ((k,v)::qp L k):=by
 induction L with
 |nil=>exact .refl _
 |cons x r ih=>
  simp only[qk,qp];split;.exact .refl _
  .exact(ih.cons x).trans (List.Perm.swap _ _ _)
def aget_perm{κ ν:Type}[DecidableEq κ]{L:List (κ×ν)}{k:κ}{v:ν}(h:qe L k=A0 v):L.Perm ((k,v)::qp L k):=by
 induction L with
 |nil=>cases h
 |cons x r w=>
  simp only[qe]at h;simp only[qp];split at h
  .rename_i e;cases h;rw[yB e,<-e]
  .rename_i e;rw[yA e];exact((w h).cons x).trans (List.Perm.swap _ _ _)
def ownsA(D:List (Name×SlD)):Asn:=qz (D.map ownD)
def ownsA.take{W w:A7}{F:List Asn}{D:List (Name×SlD)}{n:Name}{d:SlD}(e:qe D n=A0 d)(h:St W (ownsA D::F) w):St W (ownD (n,d)::ownsA (qp D n)::F) w:=by have c:St W (D.map ownD++F) w:=h.of_sep;have b:St W ((ownD (n,d)::(qp D n).map ownD)++F) w:=c.perm (((aget_perm e).map ownD).append_right F);exact(zj (l:=(qp D n).map ownD) (z0c b (by simp only[By];exact(Aw (l₁:=(qp D n).map ownD) (a:=ownD (n,d)) (l₂:=F)).symm))).p1
def ownsA.give{W w:A7}{F:List Asn}{D:List (Name×SlD)}{n:Name}{d:SlD}(h:St W (ownD (n,d)::ownsA (qp D n)::F) w):St W (ownsA (qk D n d)::F) w:=by have a:St W ((qp D n).map ownD++(ownD (n,d)::F)) w:=St.of_sep h.p1;refine zj (z0c a ?_);exact Aw.trans (((aset_perm D n d).map ownD).symm.append_right F)
def ownsA.rd{F:List Asn}{D:List (Name×SlD)}{n:Name}{d:SlD}(w:qe D n=A0 d):Rd (ownsA D::F) d.p (d.ids.flatMap iV):=λH b i v a=>by have f:Own (D.map ownD++F) H:=Own.of_sep b;have h:Own (ownD (n,d)::((qp D n).map ownD++F)) H:=f.perm (((aget_perm w).map ownD).append_right F);exact z0e (e:=3) (size:=1) (c:=d.c) _ H h i v a
def QueueA(q:Nat)(G:QG):Asn:=exA λx:Nat×Nat×List (Name×SlD)×List (Int×Name)=>qz [
 prA (RepQ (rowsOf x.2.2.1) x.2.2.2 G),Row q 172 [.map (A0 x.1),.map (A0 x.2.1)],qg Zs vS x.1 x.2.2.1,qg (Zi Zk) Zs x.2.1 x.2.2.2,ownsA x.2.2.1]
abbrev QL(q m1 m2:Nat)(D:List (Name×SlD))(wh:List (Int×Name))(F:List Asn):List Asn:=
 Row q 172 [.map (A0 m1),.map (A0 m2)]::qg Zs vS m1 D::qg (Zi Zk) Zs m2 wh::ownsA D::F
section
variable{W w:World}{F:List Asn}{q m1 m2:Nat}{G:QG}{D:List (Name×SlD)}{wh:List (Int×Name)}
def QueueA.open_(h:St W (QueueA q G::F) w):∃m1 m2 D wh,RepQ (rowsOf D) wh G/\St W (QL q m1 m2 D wh F) w:=by obtain⟨⟨m1,m2,D,wh⟩,h⟩:=h.of_ex;obtain⟨a,h⟩:=h.of_sep.of_pr;exact⟨m1,m2,D,wh,a,h⟩
def QueueA.shut(a:RepQ (rowsOf D) wh G)(h:St W (QL q m1 m2 D wh F) w):St W (QueueA q G::F) w:=
 z00 (m1,m2,D,wh) (zj (l:=[_,_,_,_,_]) (z01 a h))
def QueueA.ok(h:St W (QueueA q G::F) w):QOk G:=by obtain⟨m1,m2,D,wh,a,_⟩:=QueueA.open_ h;exact a.ok
def New_spec(h:St W F w):qb Zp 39 #[] w λv w'=>∃q,v=Zq (A0 ⟨q,0,A2⟩)/\St W (QueueA q []::F) w':=by
 refine F39_of (qs5.n Zs vS h λm1 w1 h=>qs5.n (Zi Zk) Zs h λm2 e h=>zh h λq d h=>⟨q,rfl,?_⟩);refine QueueA.shut RepQ.nil (m1:=m1) (m2:=m2) (D:=[]) ?_;have a:St W (Row q 172 [.map (A0 m1),.map (A0 m2)]::qg Zs vS m1 []::qg (Zi Zk) Zs m2 []::F) d:=by refine h.perm (List.Perm.cons _ ?_);rw[Ak];exact An
 refine z0w [_,_,_] ⟨a.1,λ_=>A2,λb o c=>by(cases c),trivial,a.2⟩
def Clone_spec{p:Option Az}{c:Nat}{ids:List Int}(j:Rd F p (ids.flatMap iV))(n:ids.length<=1000000)(d:St W F w):
 qb Zp 92 #[Zl p ids.length c] w λv w'=>∃e f,v=.slice e ids.length f/\St W (SlA 3 1 iV e f ids::F) w':=by
 refine F92_of (za (λh=>?_) λh=>?_)
 .have k:p=A2:=by cases p with|none=>rfl|some a=>cases h
  have l:ids=[]:=by
   cases ids with
   |nil=>rfl
   |cons x r=>obtain⟨a,g,_⟩:=j.of d (i:=0) (v:=Zi Zk x) yR;rw[k]at g;cases g
  subst l;exact⟨A2,0,rfl,z09 d⟩
 .refine zh d λb w1 d=>?_;have d:St W (SlA 3 1 iV (A0 ⟨b,0,A2⟩) 0 []::F) w1:=SlA.of_row (os:=[]) iV1 d;refine qf3 (os:=[]) iV1 uIs (.inr ⟨_,uIs⟩) iInt sInt zInt yR 0 d yR j yR iVn (by rw[bInt];simp;omega) (by simp;omega) λe f m d=>⟨_,_,_,rfl,?_⟩;exact⟨e,f,rfl,d⟩
def List_spec(n:Name)(a:St W (QueueA q G::F) w):
 qb Zp 49 #[Zq (A0 ⟨q,0,A2⟩),Zs n] w λv w'=>∃p c,v=Zl p (gL G n).length c/\St W (SlA 3 1 iV p c (gL G n)::QueueA q G::F) w':=by
 obtain⟨m1,m2,D,wh,e,a⟩:=QueueA.open_ a;refine F49_of (z7 (zv 0 a yR yR (qq1 kS uM1 iIs zIs 1 a yR n A3 ?_)));rw[yA (by simp)];have h:=e.row n;rw[rows_get]at h;have b:=e.ok.row n;cases hd:qe D n with
 |none=>rw[hd]at h;have h:gL G n=[]:=h.symm;rw[h];refine⟨A2,0,0,rfl,(Clone_spec (ids:=[]) (Rd.nil _ _) (by simp) a).of λv w1 ⟨p,c,f,a⟩=>⟨_,_,_,f,p,c,rfl,?_⟩⟩;exact(QueueA.shut e (z0w [_,_,_,_] a)).p1
 |some d=>rw[hd]at h;have h:d.ids=gL G n:=h;rw[<-h]at b⊢;refine⟨d.p,d.ids.length,d.c,rfl,(Clone_spec (z04 3 yR λF=>ownsA.rd hd) (by omega) a).of λv w1 ⟨p,c,f,a⟩=>⟨_,_,_,f,p,c,rfl,?_⟩⟩;exact(QueueA.shut e (z0w [_,_,_,_] a)).p1
def Many_spec(b:St W (QueueA q G::F) w):qb Zp 402 #[Zq (A0 ⟨q,0,A2⟩)] w λv w'=>v=Zi Zk G.length/\St W (QueueA q G::F) w':=by
 obtain⟨m1,m2,D,wh,k,b⟩:=QueueA.open_ b;have c:(D.map λx=>x.2.ids.length).sum=G.length:=by rw[<-k.sum];unfold sumL rowsOf;rw[Bn];rfl
 have o:=k.ok.all;have m:D.Nodup:=ql4 (λx=>x.1) (by have:=k.keys;unfold rowsOf at this;rw[Bn]at this;exact this);refine F402_of (z7 (zv 0 b yR yR (qg9 uM1 1 b yR λf w1 b=>?_)));refine⟨λvs w=>∃V,vs=[Zi Zk ((V.map λx:Name×SlD=>x.2.ids.length).sum:Nat)]/\St W (Row q 172 [.map (A0 m1),.map (A0 m2)]::qd1 Zs vS m1 f D V::qg (Zi Zk) Zs m2 wh::ownsA D::F) w,λ_ w=>q74 f D.length w,⟨[],rfl,b⟩,λn w u=>?_⟩;obtain⟨V,z,b⟩:=u;cases z;refine qqb kS 1 b yR (λs y p w' b=>?_) λx B t w' a=>?_
 .have e:(V.map λx:Name×SlD=>x.2.ids.length).sum=G.length:=by rw[<-c];exact Nat.le_antisymm (qdd _ y p) (qdd _ m s)
  rw[e];exact⟨rfl,QueueA.shut k b⟩
 .have r:=qd1.left (b.at 1 yR) D.length;refine qp9 1 a yR λa=>⟨_,_,_,_,rfl,?_⟩;have a:St W (Row q 172 [.map (A0 m1),.map (A0 m2)]::qd1 Zs vS m1 f D (V++[x])::qg (Zi Zk) Zs m2 wh::ownsA D::F) w':=a;obtain⟨⟨es,clock,seen,A⟩,h⟩:=(a.at 1 yR).of_ex;obtain⟨l,_⟩:=h.of_sep.of_pr;have j:(V++[x]).Nodup:=ql4 (λx=>x.1) l.nod;have i:=qdd (λx:Name×SlD=>x.2.ids.length) j l.sub;have d:=qmp j l.sub;have g:=qd1.left (a.at 1 yR) D.length;rw[c]at i;simp only[Aa,List.sum_append,Ad,List.map_nil,Cu,List.sum_nil,Ap,A9,Aj]at i d g;refine⟨⟨V++[x],?_,a⟩,?_⟩
  .rw[w64];simp
  .show q74 f D.length w'<q74 f D.length w;rw[r,g];omega
def d0(D:List (Name×SlD))(n:Name):SlD:=(qe D n).getD ⟨A2,0,[]⟩
def d0_val(D:List (Name×SlD))(n:Name):((qe D n).map vS).getD (Zl A2 0 0)=.slice (d0 D n).p (d0 D n).ids.length (d0 D n).c:=by unfold d0;cases qe D n<;>rfl
def d0_ids(h:RepQ (rowsOf D) wh G)(n:Name):(d0 D n).ids=gL G n:=by rw[<-h.row n,rows_get];unfold d0;cases qe D n<;>rfl
def ownsA.take0(n:Name)(h:St W (ownsA D::F) w):St W (SlA 3 1 iV (d0 D n).p (d0 D n).c (d0 D n).ids::ownsA (qp D n)::F) w:=by
 unfold d0;cases hd:qe D n with
 |some d=>exact ownsA.take hd h
 |none=>rw[ql6 hd];exact z09 h
def adel_aset{κ ν:Type}[DecidableEq κ](L:List (κ×ν))(k:κ)(v:ν):qp (qk L k v) k=qp L k:=by
 induction L with
 |nil=>simp[qk,qp]
 |cons x r w=>
  simp only[qk,qp];by_cases h:x.1=k;.simp[h,qp]
  .simp[h,qp,w]
def Put_spec(n:Name)(id:Int)(a:St W (QueueA q G::F) w):
 qb Zp 384 #[Zq (A0 ⟨q,0,A2⟩),Zs n,Zi Zk id] w λv w'=>v=Zi Zk (gPut G n id).2/\St W (QueueA q (gPut G n id).1::F) w':=by
 obtain⟨m1,m2,D,wh,f,a⟩:=QueueA.open_ a;refine F384_of (z7 (zv 0 a yR yR (qq1 kI uM2 iS zS 2 a yR id A8 ?_)));rw[yB yR,f.wh];refine⟨(gW G id).getD ⟨#[]⟩,(gW G id).isSome,by cases gW G id<;>rfl,za (λh=>?_) λh=>?_⟩;.unfold gPut;rw[yB h];exact⟨rfl,QueueA.shut f a⟩
 have l:gW G id=A2:=by simpa using h
 refine z7 (zv 0 a yR yR (qq1 kS uM1 iIs zIs 1 a yR n A3 ?_));rw[yA (by simp),d0_val];have p:=f.ok.row n;have r:=f.ok.all;refine⟨_,_,_,rfl,za (λg=>?_) λg=>?_⟩
 .rw[d0_ids f]at g;have g:8<=(gL G n).length:=by simp at g;omega
  unfold gPut;rw[yA (by simp[l]),yB (.inl g)];exact⟨rfl,QueueA.shut f a⟩
 rw[d0_ids f]at g;have g:(gL G n).length<8:=by simp at g;omega
 refine(Many_spec (QueueA.shut f a)).of λv w1 ⟨y,a⟩=>⟨_,y,za (λc=>?_) λc=>?_⟩
 .have c:64<=G.length:=by simp at c;omega
  unfold gPut;rw[yA (by simp[l]),yB (.inr c)];exact⟨rfl,a⟩
 have c:G.length<64:=by simp at c;omega
 have s:gPut G n id=(G++[(n,id)],0):=by unfold gPut;rw[yA (by simp[l]),yA (by omega)]
 rw[s];obtain⟨m1,m2,D,wh,f,a⟩:=QueueA.open_ a;have i:=d0_ids f n;have o:=z6 W (QL q m1 m2 D wh F);refine⟨StC W _,zd a,z7 (z7 ⟨_,z0b 0 o yR yR,_,z0b 0 o yR yR,(d0 D n).p,(d0 D n).ids.length,(d0 D n).c,λG w h=>qq1 kS uM1 iIs zIs 1 h yR n A3 ?_,λb=>?_⟩)⟩
 .rw[yA (by simp),d0_val];exact⟨_,_,_,rfl,rfl,h⟩
 have m:=o.push b (.cells #[Zi Zk id] 3);refine zk (α:=Option Az×Nat) (V:=λx=>.slice x.1 ((d0 D n).ids++[id]).length x.2) (B:=λx=>Row q 172 [.map (A0 m1),.map (A0 m2)]::qg Zs vS m1 D::qg (Zi Zk) Zs m2 wh::SlA 3 1 iV x.1 x.2 ((d0 D n).ids++[id])::ownsA (qp D n)::F) (A2,0) m (λG w h=>?_) λx=>?_
 .have h:St W (Pt b (.cells #[Zi Zk id] 3)::Row q 172 [.map (A0 m1),.map (A0 m2)]::qg Zs vS m1 D::qg (Zi Zk) Zs m2 wh::ownsA D::(F++pts G)) w:=h;have h:=St.imp h z0d;have h:=ownsA.take0 n (zf 4 0 h yR);refine qf3 (os:=(d0 D n).ids) (xs:=[id]) iV1 uIs (.inr ⟨_,uIs⟩) iInt sInt zInt yR 0 h yR (z04 1 yR λF=>z0m) yR iVn (by rw[bInt,i];simp;omega) (by rw[i];simp;omega) λt u z a=>⟨_,_,_,rfl,(t,u),rfl,?_⟩;exact zf 0 3 (zf 1 4 (z03 2 a yR) yR) yR
 have k:=z6 W (Row q 172 [.map (A0 m1),.map (A0 m2)]::qg Zs vS m1 D::qg (Zi Zk) Zs m2 wh::SlA 3 1 iV x.1 x.2 ((d0 D n).ids++[id])::ownsA (qp D n)::F);refine⟨_,_,_,rfl,z0b 0 k yR yR,?_⟩;refine Ef.n (α:=Unit) (V:=λ_=>Zt #[]) (B:=λ_=>[qg Zs vS m1 (qk D n ⟨x.1,x.2,(d0 D n).ids++[id]⟩)]) () 1 k yR (λG w h=>qh1 kS uM1 0 h yR n ⟨x.1,x.2,(d0 D n).ids++[id]⟩ λw' h=>⟨(),rfl,?_⟩) λ_=>⟨rfl,trivial,λG w h=>?_⟩;.exact z0w [_] h
 .have a:=zb h;refine z7 (zv 0 a yR yR (qh1 kI uM2 2 a yR id n λw' a=>⟨rfl,?_⟩));have j:=f.put l g c;rw[rows_get,show((qe D n).map SlD.ids).getD []=(d0 D n).ids by unfold d0;cases qe D n<;>rfl]at j;have e:=rows_set D n ⟨x.1,x.2,(d0 D n).ids++[id]⟩;rw[<-e]at j;refine QueueA.shut j (m1:=m1) (m2:=m2) ?_;exact zf 0 3 (ownsA.give (D:=D) (n:=n) (d:=⟨x.1,x.2,(d0 D n).ids++[id]⟩) (zf 4 1 (zf 3 0 a yR) yR)) yR
def Drop_raw(id:Int)(z:RepQ (rowsOf D) wh G)(N:(wh.map (·.1)).Nodup)(f:St W (QL q m1 m2 D wh F) w):
 qb Zp 149 #[Zq (A0 ⟨q,0,A2⟩),Zi Zk id] w λv w'=>(gW G id=A2/\v=Zb A3/\St W (QL q m1 m2 D wh F) w')\/
  ∃n J,gW G id=A0 n/\v=Zb A8/\RepQ (rowsOf J) (qp wh id) (gDrop G id)/\St W (QL q m1 m2 J (qp wh id) (SlA 3 1 iV (d0 D n).p (d0 D n).c (d0 D n).ids::F)) w':=by
 refine F149_of (z7 (zv 0 f yR yR (qq1 kI uM2 iS zS 2 f yR id A8 ?_)));rw[yB yR,z.wh];refine⟨(gW G id).getD ⟨#[]⟩,(gW G id).isSome,by cases gW G id<;>rfl,za (λh=>?_) λh=>?_⟩
 .have E:gW G id=A2:=by simpa using h
  exact .inl ⟨E,rfl,f⟩
 obtain⟨n,H⟩:∃n,gW G id=A0 n:=by
  cases E:gW G id with
  |none=>rw[E]at h;simp at h
  |some n=>exact⟨n,rfl⟩
 rw[H,Ci];refine z7 (zv 0 f yR yR (qc5 kI uM2 2 f yR id λw1 f=>z7 (zv 0 f yR yR (qq1 kS uM1 iIs zIs 1 f yR n A3 ?_))));rw[yA (by simp),d0_val];have s:=d0_ids z n;have o:=z.ok.row n;rw[<-s]at o;have f:St W (Row q 172 [.map (A0 m1),.map (A0 m2)]::qg Zs vS m1 D::qg (Zi Zk) Zs m2 (qp wh id)::ownsA (qp D n)::SlA 3 1 iV (d0 D n).p (d0 D n).c (d0 D n).ids::F) w1:=
  zf 0 4 (zf 1 4 (ownsA.take0 n (zf 3 0 f yR)) yR) yR
 generalize t:d0 D n=d at s o f;refine⟨_,_,_,rfl,?_⟩;refine⟨λvs w=>∃(k:Nat) (p:Option Az) (c:Nat),k<=d.ids.length/\vs=[Zl p ((d.ids.take k).filter λx=>decide (x≠id)).length c,Zi Zk k]/\
  St W (Row q 172 [.map (A0 m1),.map (A0 m2)]::qg Zs vS m1 D::qg (Zi Zk) Zs m2 (qp wh id)::ownsA (qp D n)::SlA 3 1 iV d.p d.c d.ids::SlA 3 1 iV p c ((d.ids.take k).filter λx=>decide (x≠id))::F) w,leftN d.ids.length,⟨0,A2,0,Cl _,rfl,z0w [_,_,_,_,_] (z09 f)⟩,λi V j x w P=>?_⟩
 obtain⟨k,p,c,R,T,f⟩:=P;cases T;refine za (λl=>?_) λB=>?_
 .have l:k<d.ids.length:=by have:=yC l;omega
  have K:d.ids[k]?=A0 d.ids[k]:=A4 l;have m:d.ids.take (k+1)=d.ids.take k++[d.ids[k]]:=by rw[Bt,K];rfl
  refine z0f iV1 (by decide) (z04 4 yR z0e) f yR l K λa O=>zq (O 0 _ rfl) ?_;have I:leftN d.ids.length [Zi Zk ((k+1:Nat):Int)] w<leftN d.ids.length [Zi Zk (k:Int)] w:=by show d.ids.length -(k+1)<d.ids.length - k;omega
  rw[up l (by omega)];refine za (λg=>?_) λg=>?_
  .have g:d.ids[k]≠id:=by simpa using g
   refine zh f λb A f=>?_;refine qf3 (os:=(d.ids.take k).filter λx=>decide (x≠id)) (xs:=[d.ids[k]]) iV1 uIs (.inr ⟨_,uIs⟩) iInt sInt zInt yR 6 f yR (z04 0 yR λF=>z0m) yR iVn ?_ ?_ λU M L f=>⟨_,_,_,rfl,⟨k+1,U,M,by omega,?_,?_⟩,I⟩
   .have:=Am (λx=>decide (x≠id)) (d.ids.take k);rw[bInt];simp only[A9,Aj,Bx]at this⊢;omega
   .have:=Am (λx=>decide (x≠id)) (d.ids.take k);simp only[A9,Aj,Bx]at this⊢;omega
   .rw[m,Ai];simp[g]
   .rw[m,Ai];simp only[Bw,List.filter_nil,g,ne_eq,not_false_eq_true,decide_true,if_true];exact z03 0 f yR
  .have g:d.ids[k]=id:=by simpa using g
   refine⟨⟨k+1,i,j,by omega,?_,?_⟩,I⟩;.rw[m,Ai];simp[g]
   .rw[m,Ai];simpa [g]using f
 .have C:k=d.ids.length:=by have:=yD B;omega
  subst C;rw[Cg]at f⊢;have y:leftOver (rowsOf D) n id=d.ids.filter λx=>decide (x≠id):=by unfold leftOver;rw[rows_get,<-t];unfold d0;cases qe D n<;>rfl
  have u:=z.drop N H;refine z7 (zv 0 f yR yR (qh1 kS uM1 1 f yR n ⟨i,j,d.ids.filter λx=>decide (x≠id)⟩ λA f=>?_));refine za (λr=>?_) λr=>?_
  .have r:(d.ids.filter λx=>decide (x≠id))=[]:=As (by simpa using r);refine z7 (zv 0 f yR yR (qc5 kS uM1 1 f yR n λL f=>.inr ⟨n,qp (qk D n ⟨i,j,d.ids.filter λx=>decide (x≠id)⟩) n,rfl,rfl,?_,?_⟩))
   .have e:rowsOf (qp (qk D n ⟨i,j,d.ids.filter λx=>decide (x≠id)⟩) n)=dropRows (rowsOf D) n id:=by unfold dropRows;rw[y,yB r,rows_del,rows_set]
    rw[e];exact u
   .rw[t];have h:=z03 5 f yR;have h:St W (Row q 172 [.map (A0 m1),.map (A0 m2)]::qg Zs vS m1 (qp (qk D n ⟨i,j,d.ids.filter λx=>decide (x≠id)⟩) n)::qg (Zi Zk) Zs m2 (qp wh id)::ownsA (qp D n)::SlA 3 1 iV d.p d.c d.ids::F) L:=h;rwa[<-adel_aset D n ⟨i,j,d.ids.filter λx=>decide (x≠id)⟩]at h
  .have r:(d.ids.filter λx=>decide (x≠id))≠[]:=λe=>by rw[e]at r;simp at r
   refine .inr ⟨n,qk D n ⟨i,j,d.ids.filter λx=>decide (x≠id)⟩,rfl,rfl,?_,?_⟩
   .have e:rowsOf (qk D n ⟨i,j,d.ids.filter λx=>decide (x≠id)⟩)=dropRows (rowsOf D) n id:=by unfold dropRows;rw[y,yA r,rows_set]
    rw[e];exact u
   .rw[t];have h:St W (Row q 172 [.map (A0 m1),.map (A0 m2)]::qg Zs vS m1 (qk D n ⟨i,j,d.ids.filter λx=>decide (x≠id)⟩)::qg (Zi Zk) Zs m2 (qp wh id)::ownsA (qp D n)::SlA 3 1 iV d.p d.c d.ids::ownD (n,⟨i,j,d.ids.filter λx=>decide (x≠id)⟩)::F) A:=f;have Q:St W (ownD (n,⟨i,j,d.ids.filter λx=>decide (x≠id)⟩)::ownsA (qp D n)::Row q 172 [.map (A0 m1),.map (A0 m2)]::qg Zs vS m1 (qk D n ⟨i,j,d.ids.filter λx=>decide (x≠id)⟩)::qg (Zi Zk) Zs m2 (qp wh id)::SlA 3 1 iV d.p d.c d.ids::F) A:=zf 4 1 (zf 5 0 h yR) yR;exact zf 0 3 (ownsA.give Q) yR
def Drop_spec(id:Int)(a:St W (QueueA q G::F) w):
 qb Zp 149 #[Zq (A0 ⟨q,0,A2⟩),Zi Zk id] w λv w'=>v=Zb (gW G id).isSome/\St W (QueueA q (gDrop G id)::F) w':=by
 obtain⟨m1,m2,D,wh,f,a⟩:=QueueA.open_ a;have i:(wh.map (·.1)).Nodup:=z18 kI (a.at 2 yR);refine(Drop_raw id f i a).of λv w1 h=>?_;rcases h with ⟨b,d,a⟩|⟨n,j,b,d,c,a⟩
 .have e:gDrop G id=G:=by unfold gDrop;rw[Af];intro x g;simp only[yJ];exact λe=>gW_none.1 b (A6.2 ⟨x,g,e⟩)
  rw[b,e];exact⟨d,QueueA.shut f a⟩
 .rw[b];exact⟨d,QueueA.shut c (z03 4 a yR)⟩
end
end Qu
end
namespace Ri
structure Way where
 bs:List UInt8
 ended:Bool
 told:Bool
 moved:Int
structure PS where
 w0:Way
 w1:Way
 broken:Bool
def Way.new:Way:=⟨[],A3,A3,0⟩
def PS.new:PS:=⟨Way.new,Way.new,A3⟩
def sideB(n:Int):Bool:=n==0||n==1
def Way.end_(w:Way)(k:Int):Bool:=w.ended&&!w.told&&(w.bs.drop k.toNat).isEmpty
def Way.out(w:Way)(k:Int):Way:=⟨w.bs.drop k.toNat,w.ended,w.told||w.end_ k,Zw Zk (w.moved+((w.bs.take k.toNat).length:Int))⟩
def PS.at(s:PS)(n:Int):Way:=if n=0 then s.w0 else s.w1
def PS.to(s:PS)(n:Int):Way:=if n=0 then s.w1 else s.w0
def PS.outB(s:PS)(n k:Int):List UInt8:=if sideB n&&!s.broken then(s.to n).bs.take k.toNat else []
def PS.outE(s:PS)(n k:Int):Bool:=sideB n&&!s.broken&&(s.to n).end_ k
def PS.out(s:PS)(n k:Int):PS:=if sideB n&&!s.broken then(if n=0 then⟨s.w0,s.w1.out k,A3⟩else⟨s.w0.out k,s.w1,A3⟩)else s
def PS.hears(s:PS)(n:Int):Bool:=sideB n&&!s.broken&&!(s.at n).ended
def PS.end_(s:PS)(n:Int):PS:=if s.hears n then(if n=0 then⟨{ s.w0 with ended:=A8},s.w1,s.broken⟩else⟨s.w0,{ s.w1 with ended:=A8},s.broken⟩)else s
def Way.add(w:Way)(m:Nat)(xs:List UInt8):Way:={ w with bs:=w.bs++xs.take (m - w.bs.length)}
def PS.inN(s:PS)(m:Nat)(n:Int)(xs:List UInt8):Nat:=if s.hears n then min xs.length (m -(s.at n).bs.length)else 0
def PS.in_(s:PS)(m:Nat)(n:Int)(xs:List UInt8):PS:=if s.hears n then(if n=0 then⟨s.w0.add m xs,s.w1,s.broken⟩else⟨s.w0,s.w1.add m xs,s.broken⟩)else s
def PS.room(s:PS)(m:Nat)(n:Int):Nat:=if s.hears n then m -(s.at n).bs.length else 0
def pumpRow(w a:Nat)(most:Int)(w0 w1:Way)(h:Bool):List Ab:=
 [Zq (A0 ⟨w,0,A2⟩),Zb w0.ended,Zb w0.told,Zi Zk w0.moved,Zq (A0 ⟨a,0,A2⟩),Zb w1.ended,Zb w1.told,Zi Zk w1.moved,Zi Zk most,Zb h]
def capOf(most:Int):Nat:=min most.toNat 65536
def PumpA(h:Nat)(most:Int)(s:PS):Asn:=exA λx:Nat×Nat=>qz [
 Row h 336 (pumpRow x.1 x.2 most s.w0 s.w1 s.broken),RingA x.1 (capOf most) s.w0.bs,RingA x.2 (capOf most) s.w1.bs]
def PumpA.open_{W w:A7}{F:List Asn}{c:Nat}{most:Int}{s:PS}(h:St W (PumpA c most s::F) w):
 ∃a b:Nat,St W (Row c 336 (pumpRow a b most s.w0 s.w1 s.broken)::RingA a (capOf most) s.w0.bs::RingA b (capOf most) s.w1.bs::F) w:=by
 obtain⟨⟨a,b⟩,h⟩:=h.of_ex;exact⟨a,b,h.of_sep⟩
def PumpA.shut{W w:A7}{F:List Asn}{c a b:Nat}{most:Int}{s:PS}(h:St W (Row c 336 (pumpRow a b most s.w0 s.w1 s.broken)::RingA a (capOf most) s.w0.bs::RingA b (capOf most) s.w1.bs::F) w):St W (PumpA c most s::F) w:=
 z00 (a,b) (zj (l:=[_,_,_]) h)
def pside_spec{W w:A7}{F:List Asn}(n:Int)(h:St W F w):qb Zp 216 #[Zi Zk n] w λv w'=>v=Zb (sideB n)/\St W F w':=by
 refine F216_of ⟨by decide,?_,h⟩;have e:Int.fdiv n (2 ^ min (Ae 1) (IntKind.bits Zk))=n/2:=by rw[show(2:Int) ^ min (Ae 1) (IntKind.bits Zk)=2 from rfl,Int.fdiv_eq_ediv_of_nonneg _ (by decide)]
 rw[e];congr 1;unfold sideB;rw[Bj];simp;omega
def side_cases{n:Int}(h:sideB n=A8):n=0\/n=1:=by simpa [sideB]using h
def hears_spec{W w:A7}{F:List Asn}{c f g:Nat}{most:Int}{s:PS}(n:Int)(a:St W (Row c 336 (pumpRow f g most s.w0 s.w1 s.broken)::F) w):
 qb Zp 211 #[Zq (A0 ⟨c,0,A2⟩),Zi Zk n] w λv w'=>v=Zq (if s.hears n then(if n=0 then A0 ⟨c,0,A2⟩else A0 ⟨c,4,A2⟩)else A2)/\St W (Row c 336 (pumpRow f g most s.w0 s.w1 s.broken)::F) w':=by
 refine F211_of ((pside_spec n a).of λv w1 ⟨i,a⟩=>⟨_,i,?_⟩);refine za (λh=>⟨?_,a⟩) λh=>?_
 .have h:sideB n=A3:=by simpa using h
  simp[PS.hears,h]
 have e:sideB n=A8:=by simpa using h
 refine z7 (LdB.i a yR (za (λd=>⟨?_,a⟩) λd=>?_));.simp[PS.hears,d]
 rcases side_cases e with rfl|rfl
 .refine z7 ⟨_,rfl,⟨by decide,by decide⟩,LdB.i a yR (za (λb=>⟨?_,a⟩) λb=>z7 ⟨_,rfl,⟨by decide,by decide⟩,?_,a⟩)⟩;.simp[PS.hears,PS.at,b]
  .simp[PS.hears,PS.at,b,d,e];rfl
 .refine z7 ⟨_,rfl,⟨by decide,by decide⟩,LdB.i a yR (za (λb=>⟨?_,a⟩) λb=>z7 ⟨_,rfl,⟨by decide,by decide⟩,?_,a⟩)⟩;.simp[PS.hears,PS.at,b]
  .simp[PS.hears,PS.at,b,d,e];rfl
def PEnd_spec{W w:A7}{F:List Asn}{c:Nat}{most:Int}{s:PS}(n:Int)(a:St W (PumpA c most s::F) w):
 qb Zp 137 #[Zq (A0 ⟨c,0,A2⟩),Zi Zk n] w λv w'=>v=Zb (s.hears n)/\St W (PumpA c most (s.end_ n)::F) w':=by
 obtain⟨f,g,a⟩:=PumpA.open_ a;refine F137_of ((hears_spec n a).of λv w1 ⟨e,a⟩=>⟨_,e,?_⟩);cases b:s.hears n with
 |false=>exact za (λh=>by simp[qi2]at h) λ_=>⟨by simp[qi2],by rw[show s.end_ n=s by simp[PS.end_,b]];exact PumpA.shut a⟩
 |true=>
  rcases side_cases (n:=n) (by simp[PS.hears]at b;simpa using b.1.1)with rfl|rfl
  .refine za (λ_=>z7 (St1.i a (by simp[pumpRow]) λd a=>⟨rfl,?_⟩)) λh=>by simp[qi2]at h
   rw[show s.end_ 0=⟨{ s.w0 with ended:=A8},s.w1,s.broken⟩by simp[PS.end_,b]];exact PumpA.shut (s:=⟨{ s.w0 with ended:=A8},s.w1,s.broken⟩) a
  .refine za (λ_=>z7 (St1.i a (by simp[pumpRow]) λd a=>⟨rfl,?_⟩)) λh=>by simp[qi2]at h
   rw[show s.end_ 1=⟨s.w0,{ s.w1 with ended:=A8},s.broken⟩by simp[PS.end_,b]];exact PumpA.shut (s:=⟨s.w0,{ s.w1 with ended:=A8},s.broken⟩) a
def PIn_spec{W w:A7}{F:List Asn}{e c:Nat}{most:Int}{s:PS}{xs:List UInt8}{p:Option Az}(n:Int)(g:Rd F p (xs.map qd))(f:xs.length<=c)(a:St W (PumpA e most s::F) w):
 qb Zp 134 #[Zq (A0 ⟨e,0,A2⟩),Zi Zk n,Zl p xs.length c] w λv w'=>v=Zi Zk (s.inN (capOf most) n xs:Nat)/\St W (PumpA e most (s.in_ (capOf most) n xs)::F) w':=by
 obtain⟨j,k,a⟩:=PumpA.open_ a;refine F134_of ((hears_spec n a).of λv w1 ⟨d,a⟩=>⟨_,d,?_⟩);cases b:s.hears n with
 |false=>exact za (λh=>by simp[qi2]at h) λ_=>⟨by simp[PS.inN,b],by rw[show s.in_ (capOf most) n xs=s by simp[PS.in_,b]];exact PumpA.shut a⟩
 |true=>
  rcases side_cases (n:=n) (by simp[PS.hears]at b;simpa using b.1.1)with rfl|rfl
  .refine za (λ_=>z7 (LdP.i a yR ((Add_spec ((g.cons _).cons _) f a.p1).of λv i ⟨d,a⟩=>⟨_,d,?_,?_⟩))) λh=>by simp[qi2]at h
   .simp[PS.inN,b,PS.at]
   .rw[show s.in_ (capOf most) 0 xs=⟨s.w0.add (capOf most) xs,s.w1,s.broken⟩by simp[PS.in_,b]];exact PumpA.shut (s:=⟨s.w0.add (capOf most) xs,s.w1,s.broken⟩) a.p1
  .refine za (λ_=>z7 (LdP.i a yR ((Add_spec ((g.cons _).cons _) f a.p2).of λv i ⟨d,a⟩=>⟨_,d,?_,?_⟩))) λh=>by simp[qi2]at h
   .simp[PS.inN,b,PS.at]
   .rw[show s.in_ (capOf most) 1 xs=⟨s.w0,s.w1.add (capOf most) xs,s.broken⟩by simp[PS.in_,b]];exact PumpA.shut (s:=⟨s.w0,s.w1.add (capOf most) xs,s.broken⟩) (z0w [_,_] a)
def PRoom_spec{W w:A7}{F:List Asn}{d:Nat}{most:Int}{s:PS}(n:Int)(a:St W (PumpA d most s::F) w):
 qb Zp 133 #[Zq (A0 ⟨d,0,A2⟩),Zi Zk n] w λv w'=>v=Zi Zk (s.room (capOf most) n:Nat)/\St W (PumpA d most s::F) w':=by
 obtain⟨f,g,a⟩:=PumpA.open_ a;refine F133_of ((hears_spec n a).of λv w1 ⟨b,a⟩=>⟨_,b,?_⟩);cases c:s.hears n with
 |false=>exact za (λh=>by simp[qi2]at h) λ_=>⟨by simp[PS.room,c],PumpA.shut a⟩
 |true=>
  rcases side_cases (n:=n) (by simp[PS.hears]at c;simpa using c.1.1)with rfl|rfl;.exact za (λ_=>z7 (LdP.i a yR ((Room_spec a.p1).of λv e ⟨b,a⟩=>⟨_,b,by simp[PS.room,c,PS.at],PumpA.shut a.p1⟩))) λh=>by simp[qi2]at h
  .exact za (λ_=>z7 (LdP.i a yR ((Room_spec a.p2).of λv e ⟨b,a⟩=>⟨_,b,by simp[PS.room,c,PS.at],PumpA.shut (z0w [_,_] a)⟩))) λh=>by simp[qi2]at h
def out_fin{W w:A7}{F:List Asn}{c d e b:Nat}{most:Int}{w0 w1:Way}{a:Bool}{bs:List UInt8}(h:St W (Row c 336 (pumpRow d e most w0 w1 a)::RingA d (capOf most) w0.bs::RingA e (capOf most) w1.bs::Row b 5 (bs.map qd)::F) w):
 St W (qi 5 1 (A0 ⟨b,0,A2⟩) bs.length bs.length (bs.map qd)::PumpA c most ⟨w0,w1,a⟩::F) w:=
 qi.whole (by simp) (PumpA.shut (s:=⟨w0,w1,a⟩) h).p1
def POut_spec{W w:A7}{F:List Asn}{q:Nat}{most:Int}{s:PS}(n k:Int)(a:St W (PumpA q most s::F) w):
 qb Zp 138 #[Zq (A0 ⟨q,0,A2⟩),Zi Zk n,Zi Zk k] w λv w'=>∃p c,v=Zt #[Zl p (s.outB n k).length c,Zb (s.outE n k)]/\St W (qi 5 1 p (s.outB n k).length c ((s.outB n k).map qd)::PumpA q most (s.out n k)::F) w':=by
 obtain⟨r,t,a⟩:=PumpA.open_ a;refine F138_of ((pside_spec n a).of λv w1 ⟨j,a⟩=>⟨_,j,za (λh=>⟨A2,0,?_⟩) λh=>?_⟩)
 .have h:sideB n=A3:=by simpa using h
  rw[show s.out n k=s by simp[PS.out,h],show s.outB n k=[]by simp[PS.outB,h],show s.outE n k=A3 by simp[PS.outE,h]];exact⟨rfl,z1a _ _ _ (PumpA.shut a)⟩
 have o:sideB n=A8:=by simpa using h
 refine z7 (LdB.i a yR (za (λh=>⟨A2,0,?_⟩) λm=>?_))
 .rw[show s.out n k=s by simp[PS.out,h],show s.outB n k=[]by simp[PS.outB,h],show s.outE n k=A3 by simp[PS.outE,h]];exact⟨rfl,z1a _ _ _ (PumpA.shut a)⟩
 rcases side_cases o with rfl|rfl
 .rw[show s.out 0 k=⟨s.w0,s.w1.out k,A3⟩by simp[PS.out,m,o],show s.outB 0 k=s.w1.bs.take k.toNat by simp[PS.outB,m,o,PS.to],show s.outE 0 k=s.w1.end_ k by simp[PS.outE,m,o,PS.to]];rw[m]at a;have g:∀(told e:Bool) (w':A7) (b:Nat),(s.w1.told||s.w1.end_ k)=told->s.w1.end_ k=e->St W (Row q 336 [Zq (A0 ⟨r,0,A2⟩),Zb s.w0.ended,Zb s.w0.told,Zi Zk s.w0.moved,Zq (A0 ⟨t,0,A2⟩),Zb s.w1.ended,Zb told,Zi Zk (Zw Zk (s.w1.moved+((s.w1.bs.take k.toNat).length:Int))),Zi Zk most,Zb A3]::RingA r (capOf most) s.w0.bs::RingA t (capOf most) (s.w1.bs.drop k.toNat)::Row b 5 ((s.w1.bs.take k.toNat).map qd)::F) w'->
   ∃p c,Zt #[.slice (A0 ⟨b,0,A2⟩) (s.w1.bs.take k.toNat).length (s.w1.bs.take k.toNat).length,Zb e]=Zt #[Zl p (s.w1.bs.take k.toNat).length c,Zb (s.w1.end_ k)]/\St W (qi 5 1 p (s.w1.bs.take k.toNat).length c ((s.w1.bs.take k.toNat).map qd)::PumpA q most ⟨s.w0,s.w1.out k,A3⟩::F) w':=by
   intro told e w' b x u h;subst x;subst u;exact⟨_,_,rfl,out_fin (w1:=s.w1.out k) h⟩
  refine z7 ⟨_,rfl,⟨by decide,by decide⟩,?_⟩;refine qb.of (F217_of (z7 (LdP.i (k0:=4) a yR ((Take_spec k a.p2).of λv A ⟨b,j,a⟩=>⟨_,_,_,j,?_⟩)))) λv w' j=>j;have a:=z0w [_,_] (z0w [_,_,_] a);refine z7 (LdI.i (k0:=7) a yR (z7 (St1.i (k0:=7) a (by simp[pumpRow]) λB a=>z7 (LdB.i (k0:=5) a yR (za (λf=>⟨_,_,_,_,rfl,?_⟩) λf=>z7 (LdB.i (k0:=6) a yR (za (λl=>⟨_,_,_,_,rfl,?_⟩) λl=>?_)))))))
  .have f:s.w1.ended=A3:=by simpa using f
   exact g _ _ _ _ (by simp[Way.end_,f]) (by simp[Way.end_,f]) a
  .exact g _ _ _ _ (by simp[Way.end_,l]) (by simp[Way.end_,l]) a
  refine z7 (LdP.i (k0:=4) a yR ((Many_spec a.p2).of λv y ⟨j,a⟩=>⟨_,j,za (λi=>⟨_,_,_,_,rfl,?_⟩) λi=>?_⟩))
  .have i:0<(s.w1.bs.drop k.toNat).length:=by have:=yC i;omega
   have d:(s.w1.bs.drop k.toNat).isEmpty=A3:=by cases hd:s.w1.bs.drop k.toNat with|nil=>rw[hd]at i;simp at i|cons=>rfl
   exact g _ _ _ _ (by simp only[Way.end_,d,B6,Ca]) (by simp only[Way.end_,d,B6]) (z0w [_,_] a)
  .have i:(s.w1.bs.drop k.toNat).length=0:=by have:=yD i;omega
   have d:(s.w1.bs.drop k.toNat).isEmpty=A8:=by rw[Cj];exact As i
   have f:s.w1.ended=A8:=by simpa using f
   refine z7 (St1.i (k0:=6) (z0w [_,_] a) (by simp[pumpRow]) λz a=>⟨_,_,_,_,rfl,?_⟩);exact g _ _ _ _ (by simp only[Way.end_,d,f,l,Bs,Bc,Cx]) (by simp only[Way.end_,d,f,l,Bs,Bc]) a
 .rw[show s.out 1 k=⟨s.w0.out k,s.w1,A3⟩by simp[PS.out,m,o],show s.outB 1 k=s.w0.bs.take k.toNat by simp[PS.outB,m,o,PS.to],show s.outE 1 k=s.w0.end_ k by simp[PS.outE,m,o,PS.to]];rw[m]at a;have g:∀(told e:Bool) (w':A7) (b:Nat),(s.w0.told||s.w0.end_ k)=told->s.w0.end_ k=e->St W (Row q 336 [Zq (A0 ⟨r,0,A2⟩),Zb s.w0.ended,Zb told,Zi Zk (Zw Zk (s.w0.moved+((s.w0.bs.take k.toNat).length:Int))),Zq (A0 ⟨t,0,A2⟩),Zb s.w1.ended,Zb s.w1.told,Zi Zk s.w1.moved,Zi Zk most,Zb A3]::RingA r (capOf most) (s.w0.bs.drop k.toNat)::RingA t (capOf most) s.w1.bs::Row b 5 ((s.w0.bs.take k.toNat).map qd)::F) w'->
   ∃p c,Zt #[.slice (A0 ⟨b,0,A2⟩) (s.w0.bs.take k.toNat).length (s.w0.bs.take k.toNat).length,Zb e]=Zt #[Zl p (s.w0.bs.take k.toNat).length c,Zb (s.w0.end_ k)]/\St W (qi 5 1 p (s.w0.bs.take k.toNat).length c ((s.w0.bs.take k.toNat).map qd)::PumpA q most ⟨s.w0.out k,s.w1,A3⟩::F) w':=by
   intro told e w' b x u h;subst x;subst u;exact⟨_,_,rfl,out_fin (w0:=s.w0.out k) h⟩
  refine z7 ⟨_,rfl,⟨by decide,by decide⟩,?_⟩;refine qb.of (F217_of (z7 (LdP.i (k0:=0) a yR ((Take_spec k a.p1).of λv A ⟨b,j,a⟩=>⟨_,_,_,j,?_⟩)))) λv w' j=>j;have a:=(z0w [_,_,_] a).p1;refine z7 (LdI.i (k0:=3) a yR (z7 (St1.i (k0:=3) a (by simp[pumpRow]) λB a=>z7 (LdB.i (k0:=1) a yR (za (λf=>⟨_,_,_,_,rfl,?_⟩) λf=>z7 (LdB.i (k0:=2) a yR (za (λl=>⟨_,_,_,_,rfl,?_⟩) λl=>?_)))))))
  .have f:s.w0.ended=A3:=by simpa using f
   exact g _ _ _ _ (by simp[Way.end_,f]) (by simp[Way.end_,f]) a
  .exact g _ _ _ _ (by simp[Way.end_,l]) (by simp[Way.end_,l]) a
  refine z7 (LdP.i (k0:=0) a yR ((Many_spec a.p1).of λv y ⟨j,a⟩=>⟨_,j,za (λi=>⟨_,_,_,_,rfl,?_⟩) λi=>?_⟩))
  .have i:0<(s.w0.bs.drop k.toNat).length:=by have:=yC i;omega
   have d:(s.w0.bs.drop k.toNat).isEmpty=A3:=by cases hd:s.w0.bs.drop k.toNat with|nil=>rw[hd]at i;simp at i|cons=>rfl
   exact g _ _ _ _ (by simp only[Way.end_,d,B6,Ca]) (by simp only[Way.end_,d,B6]) a.p1
  .have i:(s.w0.bs.drop k.toNat).length=0:=by have:=yD i;omega
   have d:(s.w0.bs.drop k.toNat).isEmpty=A8:=by rw[Cj];exact As i
   have f:s.w0.ended=A8:=by simpa using f
   refine z7 (St1.i (k0:=2) a.p1 (by simp[pumpRow]) λz a=>⟨_,_,_,_,rfl,?_⟩);exact g _ _ _ _ (by simp only[Way.end_,d,f,l,Bs,Bc,Cx]) (by simp only[Way.end_,d,f,l,Bs,Bc]) a
def leftN(n:Nat):List Ab->A7->Nat:=λvs _=>match vs.getLast? with
 |some (.int _ i)=>n - i.toNat
 |_=>0
def PNew_spec{W w:A7}{F:List Asn}(most:Int)(d:St W F w):
 qb Zp 363 #[Zi Zk most] w λv w'=>∃c,v=Zq (A0 ⟨c,0,A2⟩)/\St W (PumpA c most PS.new::F) w':=by
 refine F363_of (zh d λc n d=>?_);refine⟨λvs w=>(vs=[Zi Zk 0]/\St W (Row c 336 [Zq A2,Zb A3,Zb A3,Zi Zk 0,Zq A2,Zb A3,Zb A3,Zi Zk 0,Zi Zk most,Zb A3]::F) w)\/(vs=[Zi Zk 1]/\∃a,St W (Row c 336 [Zq (A0 ⟨a,0,A2⟩),Zb A3,Zb A3,Zi Zk 0,Zq A2,Zb A3,Zb A3,Zi Zk 0,Zi Zk most,Zb A3]::RingA a (capOf most) []::F) w)\/(vs=[Zi Zk 2]/\∃a l,St W (Row c 336 (pumpRow a l most Way.new Way.new A3)::RingA a (capOf most) []::RingA l (capOf most) []::F) w),leftN 2,.inl ⟨rfl,d⟩,λi o m=>?_⟩;rcases m with ⟨g,d⟩|⟨g,a,d⟩|⟨g,a,l,d⟩<;>cases g
 .refine za (λ_=>⟨StC W _,zd d,?_⟩) λh=>by simp at h
  refine⟨Nat,0,λr=>Zq (A0 ⟨r,0,A2⟩),λr=>StC W (RingA r (capOf most) []::Row c 336 [Zq A2,Zb A3,Zb A3,Zi Zk 0,Zq A2,Zb A3,Zb A3,Zi Zk 0,Zi Zk most,Zb A3]::F),λG f b=>(New_spec most b).of λv k ⟨r,j,e⟩=>⟨_,j,r,rfl,e⟩,λr=>⟨_,rfl,trivial,_,rfl,⟨by decide,by decide⟩,Unit,(),λ_=>Zt #[],λ_=>StC W (Row c 336 [Zq (A0 ⟨r,0,A2⟩),Zb A3,Zb A3,Zi Zk 0,Zq A2,Zb A3,Zb A3,Zi Zk 0,Zi Zk most,Zb A3]::RingA r (capOf most) []::F),λG f b=>?_,λ_=>⟨rfl,trivial,λG f b=>?_⟩⟩⟩;.exact St1.i (k0:=0) (St.p1 b) (by simp) λk e=>⟨(),rfl,e⟩
  .exact⟨.inr (.inl ⟨rfl,r,zb b⟩),(show(2 - 1:Nat)<2 - 0 by decide)⟩
 .refine za (λ_=>⟨StC W _,zd d,?_⟩) λh=>by simp at h
  refine⟨Nat,0,λr=>Zq (A0 ⟨r,0,A2⟩),λr=>StC W (RingA r (capOf most) []::Row c 336 [Zq (A0 ⟨a,0,A2⟩),Zb A3,Zb A3,Zi Zk 0,Zq A2,Zb A3,Zb A3,Zi Zk 0,Zi Zk most,Zb A3]::RingA a (capOf most) []::F),λG f b=>(New_spec most b).of λv k ⟨r,j,e⟩=>⟨_,j,r,rfl,e⟩,λr=>⟨_,rfl,trivial,_,rfl,⟨by decide,by decide⟩,Unit,(),λ_=>Zt #[],λ_=>StC W (Row c 336 (pumpRow a r most Way.new Way.new A3)::RingA a (capOf most) []::RingA r (capOf most) []::F),λG f b=>?_,λ_=>⟨rfl,trivial,λG f b=>?_⟩⟩⟩;.exact St1.i (k0:=4) (St.p1 b) (by simp) λk e=>⟨(),rfl,e.perm (List.Perm.cons _ (List.Perm.swap _ _ _))⟩
  .exact⟨.inr (.inr ⟨rfl,a,r,zb b⟩),(show(2 - 2:Nat)<2 - 1 by decide)⟩
 .refine za (λh=>by simp at h) λ_=>⟨c,rfl,?_⟩;exact PumpA.shut (s:=PS.new) d
end Ri
structure q31 where
 conn:Int
 kind:Int
 ten:ByteArray
 name:ByteArray
 epoch:Int
 token:ByteArray
 sh:Option qw6
 heard:Bool
 pump:Option Nat
 side:Int
 due:Bool
 said:Bool
structure q81 where
 conn:Int
 b:ByteArray
 e:Bool
 c:Bool
 deriving DecidableEq
structure EvD where
 kind:Int
 conn:Int
 addr:Int
 b:ByteArray
 n:Int
 name:ByteArray
 token:ByteArray
 draw:ByteArray
structure qra where
 err:Int
 conn:Int
 took:Int
 sent:List q81
structure Bk where
 R:qva
 O:qz8
 B:qi3
 Q:Qu.QG
 T:TkB
 P:qd6
 N:Cn.CT
 K:Ck.ClG
 roles:List (Int×q31)
 S:List (Int×q81)
 pumps:List Ri.PS
def q3h(L:LeL):List LeD:=(qk4 (λ_=>A8) (λd=>d) L).2
def q93:q81:=⟨0,e0,A3,A3⟩
def qw1{α σ:Type}(f:σ->α->Option σ):σ->List α->Option σ
 |s,[]=>A0 s
 |s,x::r=>match f s x with|none=>A2|some s=>qw1 f s r
def q9l(id:Int):q31:=⟨id,1,e0,e0,0,e0,A0 ⟨0,e0,e0,e0,A3⟩,A3,A2,0,A3,A3⟩
def qq7(id:Int)(p:qac)(i:Nat)(side:Int):q31:=⟨id,4,p.ten,p.name,p.epoch,e0,A2,A3,A0 i,side,A3,A3⟩
def qe6(S:List (Int×q81))(id:Int)(went:List UInt8)(e h:Bool):List (Int×q81):=
 if(went.isEmpty&&(!e&&!h))=A8 then S else
 qk S id ⟨id,((qe S id).getD q93).b++mkS went,((qe S id).getD q93).e||e,((qe S id).getD q93).c||h⟩
def q5c(K:Ck.ClG)(after:Int)(ids:List Int):Ck.ClG:=ids.foldl (λK id=>(Ck.cSet K id (Zw Zk (K.now+after))).1) K
namespace Bk
def ask{α:Type}(s:Bk)(id:Int)(z:α)(r:Cn.CnD->α):α:=s.N.ask id z r
def upd(s:Bk)(id:Int)(g:Cn.CnD->Cn.CnD):Bk:={ s with N:=s.N.upd id g}
def send(s:Bk)(id:Int)(went:List UInt8)(e h:Bool):Bk:={ s with S:=qe6 s.S id went e h}
def alarm(s:Bk)(after:Int)(ids:List Int):Bk:={ s with K:=q5c s.K after ids}
def tell(s:Bk)(id:Int)(m:qk1):Bk:=s.upd id (Cn.gSay (Fr.putP (q0d m)))
def no(s:Bk)(id e:Int):Bk:=s.tell id (qe9 e)
def give(s:Bk)(ten:ByteArray)(h:Int):Bk:={ s with O:=(qjc s.O ten h).1}
def emptyW(f:Bk->Int->Bk)(s:Bk)(name:ByteArray):Bk:=(Qu.gL s.Q name).foldl (λs id=>f (s.no id 3) id) s
def leaveW(f:Bk->Int->Bk)(s:Bk)(l:List LeD):Bk:=l.foldl (λs x=>emptyW f (s.give x.ten 1) x.name) s
def out(s:Bk)(id:Int):Bk:=
 let s:=(s.upd id Cn.gFlush).send id (s.ask id [] Cn.rFlush) A3 A8
 { s with K:=(Ck.cDrop s.K id).1,N:={ s.N with L:=qp s.N.L id},roles:=qp s.roles id}
def after(f:Bk->Int->Bk)(s:Bk)(id:Int)(r:q31):Bk:=
 if r.kind=2 then leaveW f { s with B:=(qe5 s.B id s.K.now).1} (qe5 s.B id s.K.now).2
 else if r.kind=3 then give { s with Q:=Qu.gDrop s.Q id,T:=(q5l s.T id).1} r.ten 2
 else if r.kind=4 then(if(qe s.P.ends id).isSome=A8 then f (give { s with P:=qxf s.P id} r.ten 2) (qb4 s.P id)else { s with P:=qxf s.P id})
 else s
def shutB:Nat->Bk->Int->Bk
 |0,s,_=>s
 |n+1,s,id=>match qe s.roles id with
  |none=>s
  |some r=>after (λs i=>shutB n s i) (s.out id) id r
def shut(s:Bk)(id:Int):Bk:=shutB (s.roles.length+1) s id
def refuse(s:Bk)(id e:Int):Bk:=(s.no id e).shut id
def empty(s:Bk)(name:ByteArray):Bk:=emptyW shut s name
def gone(s:Bk)(x:LeD):Bk:=((s.give x.ten 1).tell x.conn ⟨10,x.name,e0,x.epoch,0⟩).empty x.name
def admR(s:Bk)(id:Int)(name:ByteArray)(x:LeD)(h:Bool):qz8×Qu.QG×Int:=
 if h=A3 then(s.O,s.Q,3)else
 if qgf s.O x.ten (s.ask id 0 λd=>d.addr)≠0 then(s.O,s.Q,qgf s.O x.ten (s.ask id 0 λd=>d.addr))else
 if(qq5 s.O x.ten 2).2≠0 then((qq5 s.O x.ten 2).1,s.Q,(qq5 s.O x.ten 2).2)else
 if(Qu.gPut s.Q name id).2≠0 then((qjc (qq5 s.O x.ten 2).1 x.ten 2).1,(Qu.gPut s.Q name id).1,(Qu.gPut s.Q name id).2)else
 ((qq5 s.O x.ten 2).1,(Qu.gPut s.Q name id).1,0)
def held(s:Bk)(name:ByteArray):LeD:=(q06 s.B name s.K.now).1
def admE(s:Bk)(id:Int)(name:ByteArray):Int:=(s.admR id name (s.held name) (q06 s.B name s.K.now).2).2.2
def admitted(s:Bk)(id:Int)(name:ByteArray):Bk:={ s with O:=(s.admR id name (s.held name) (q06 s.B name s.K.now).2).1,Q:=(s.admR id name (s.held name) (q06 s.B name s.K.now).2).2.1}
def put(s:Bk)(id:Int)(r:q31):Bk:={ s with roles:=qk s.roles id r}
def reach(c:qy)(s:Bk)(id:Int)(r:q31)(name draw:ByteArray):Bk:=
 if s.admE id name≠0 then(s.admitted id name).refuse id (s.admE id name)else
 let x:=s.held name;let s:=((s.admitted id name).put id { r with kind:=3,ten:=x.ten,name:=name,epoch:=x.epoch}).alarm c.wait [id]
 { s with T:=(qca s.T ⟨id,name,x.ten,x.epoch⟩ draw).1}.tell x.conn ⟨11,name,(qca s.T ⟨id,name,x.ten,x.epoch⟩ draw).2.1,0,0⟩
def nonce(draw:ByteArray):ByteArray:=mkS (q45 ((qm draw).take 16))
def greet(c:qy)(s:Bk)(id:Int)(r:q31)(m:qk1)(draw:ByteArray):Option Bk:=
 if(m.k==14&&!r.heard)=A8 then A0 (s.reach c id r m.A draw)else
 let r:=if r.heard=A8 then r else { r with heard:=A8,token:=m.B}
 match r.sh with
 |none=>A2
 |some d=>
  let (d,said,_):=q75 c s.R d m s.K.now (nonce draw);let r:={ r with sh:=A0 d};let s:=(s.put id r).tell id said
  if said.k=5 then A0 (s.shut id)else
  if d.known=A8 then A0 (s.put id { r with kind:=2,ten:=d.ten})else A0 s
def granted(s:Bk)(id:Int)(x:LeD)(e:Int):Bk:=s.tell id (if e≠0 then qe9 e else⟨7,x.name,e0,x.epoch,x.til⟩)
def claim1(s:Bk)(id:Int)(r:q31)(m:qk1):Bk:=
 let (B,x,e):=qk5 s.B r.ten m.A id s.K.now m.N
 (if e≠0 then { s with B:=B}.give r.ten 1 else { s with B:=B}).granted id x e
def claim(s:Bk)(id:Int)(r:q31)(m:qk1):Bk:=
 if(qq5 s.O r.ten 1).2≠0 then { s with O:=(qq5 s.O r.ten 1).1}.no id (qq5 s.O r.ten 1).2 else
 { s with O:=(qq5 s.O r.ten 1).1}.claim1 id r m
def renew(s:Bk)(id:Int)(r:q31)(m:qk1):Bk:=
 let (B,x,e):=qpb s.B r.ten m.A m.N s.K.now m.M
 { s with B:=B}.granted id x e
def release(s:Bk)(id:Int)(r:q31)(m:qk1):Bk:=
 let x:=(q06 s.B m.A s.K.now).1;let (B,e):=qmb s.B r.ten m.A m.N s.K.now;let s:={ s with B:=B}
 if e≠0 then s.no id e else s.gone x
def holds(id now:Int)(x:LeD):Bool:=(x.conn==id)&&(x.held&&decide (now<x.til))
def paired(c:qy)(s:Bk)(id:Int)(p:qac):Bk:=
 (({ s with Q:=Qu.gDrop s.Q p.vis,P:=(q4g s.P p.vis id).1,pumps:=s.pumps++[Ri.PS.new]}.put p.vis (qq7 p.vis p s.pumps.length 0)).put id (qq7 id p s.pumps.length 1)).alarm c.idle [p.vis,id]
def callback(c:qy)(s:Bk)(id:Int)(r:q31)(m:qk1):Option Bk:=
 if((q3h s.B.L).any (holds id s.K.now))=A8 then A0 (s.refuse id 1)else
 match qw7 s.T m.B r.ten with
 |(T,p,e)=>if e≠0 then A0 ({ s with T:=T}.refuse id e)else
  if p.vis=id then A2 else A0 ({ s with T:=T}.paired c id p)
def hear(c:qy)(s:Bk)(id:Int)(r:q31)(m:qk1)(draw:ByteArray):Option Bk:=
 let s:=s.alarm c.idle [id]
 if r.kind=1 then s.greet c id r m draw else
 if m.k=6 then A0 (s.claim id r m)else
 if m.k=8 then A0 (s.renew id r m)else
 if m.k=9 then A0 (s.release id r m)else
 if m.k=13 then A0 s else
 if m.k=12 then s.callback c id r m else
 A0 (s.refuse id 1)
def talks(s:Bk)(id:Int):Option q31:=match qe s.roles id with
 |none=>A2
 |some r=>if r.kind=1\/r.kind=2 then A0 r else A2
def read(c:qy):Nat->Bk->Int->ByteArray->Option Bk
 |0,_,_,_=>A2
 |n+1,s,id,draw=>match s.talks id with
  |none=>A0 s
  |some r=>if r.conn≠id then A2 else
   let (N,x,h,e):=Cn.nextT s.N id;let s:={ s with N:=N}
   if e=0/\h=A3 then(if s.ask id A3 (λd=>d.ended)=A8 then A0 (s.shut id)else A0 s)else
   let (m,w):=qxg x
   if w=A3 then A0 (s.refuse id 61)else
   match s.hear c id r m draw with
   |none=>A2
   |some s=>read c n s id draw
def relayE(c:qy)(s:Bk)(f t:q31)(i:Nat)(inn o:List UInt8)(ended en:Bool)(z:Ri.PS):Bk×q31×Bool:=
 ({ s.upd t.conn (Cn.gSay o)with pumps:=s.pumps.set i z,K:=if decide ((inn.length:Int)+(o.length:Int)>0)=A8 then q5c s.K c.idle [f.conn,t.conn]else s.K},{ t with due:=t.due||en},decide ((inn.length:Int)+(o.length:Int)>0)||(ended||en))
def relayD(c:qy)(s:Bk)(f t:q31)(i:Nat)(inn:List UInt8)(ended:Bool)(z:Ri.PS)(k:Int):Bk×q31×Bool:=relayE c s f t i inn (z.outB t.side k) ended (z.outE t.side k) (z.out t.side k)
def relayC(c:qy)(s:Bk)(f t:q31)(i:Nat)(inn:List UInt8)(z:Ri.PS)(zz:Bool):Bk×q31×Bool:=
 relayD c s f t i inn (zz&&z.hears f.side) (if zz=A8 then z.end_ f.side else z) (s.N.ask t.conn 0 λd=>((1024 - d.out.length:Nat):Int))
def relayB(c:qy)(s:Bk)(f t:q31)(i:Nat)(inn:List UInt8)(z:Ri.PS):Bk×q31×Bool:=
 relayC c s f t i inn z ((s.N.ask f.conn 0 (λd=>(d.inb.length:Int))==0)&&s.N.ask f.conn A3 λd=>d.ended)
def relayA(c:qy)(s:Bk)(f t:q31)(i:Nat)(z:Ri.PS)(inn:List UInt8):Bk×q31×Bool:=
 relayB c (s.upd f.conn (Cn.gRest ((z.room 256 f.side:Nat):Int))) f t i inn (z.in_ 256 f.side inn)
def relay(c:qy)(s:Bk)(f t:q31):Option (Bk×q31×Bool):=
 match f.pump with
 |none=>A2
 |some i=>match s.pumps[i]? with
  |none=>A2
  |some z=>A0 (relayA c s f t i z (s.N.ask f.conn [] λd=>d.inb.take ((z.room 256 f.side:Nat):Int).toNat))
def flushR(r:q31)(en:Bool):q31:=if en=A8 then { r with due:=A3,said:=A8}else r
def flushE(s:Bk)(r:q31):Bool:=r.due&&((s.N.upd r.conn Cn.gFlush).ask r.conn 0 (λd=>(d.out.length:Int))==0)
def flushS(s:Bk)(r:q31)(en:Bool):Bk:=(s.upd r.conn Cn.gFlush).send r.conn (s.N.ask r.conn [] Cn.rFlush) en A3
def flush(s:Bk)(id:Int):Option (Bk×Bool):=match qe s.roles id with
 |none=>A2
 |some r=>A0 ((s.flushS r (s.flushE r)).put id (flushR r (s.flushE r)),decide (((s.N.ask r.conn [] Cn.rFlush).length:Int)>0)||s.flushE r)
def relays(c:qy)(st:Bk×Bool)(p:Int×Int):Option (Bk×Bool):=
 if p.1=p.2 then A2 else
 match qe st.1.roles p.1,qe st.1.roles p.2 with
 |some v,A0 k=>match st.1.relay c v k with
  |none=>A2
  |some (s,k,a)=>match s.relay c k v with
   |none=>A2
   |some (s,v,b)=>A0 ((s.put p.2 k).put p.1 v,b||(a||st.2))
 |_,_=>A2
def flushes(st:Bk×Bool)(id:Int):Option (Bk×Bool):=match st.1.flush id with
 |none=>A2
 |some (s,a)=>A0 (s,a||st.2)
def ends(st:Bk×Bool)(p:Int×Int):Option (Bk×Bool):=
 if p.1=p.2 then A2 else
 match qe st.1.roles p.1 with
 |none=>A2
 |some v=>if v.said=A3 then A0 st else match qe st.1.roles p.2 with
  |none=>A2
  |some k=>if k.said=A8 then A0 (st.1.shut p.1,A8)else A0 st
def ids(s:Bk):List Int:=q91 leI (s.N.L.map (·.1))
def round(c:qy)(s:Bk):Option (Bk×Bool):=
 if 1000000<s.P.ends.length then A2 else
 match qw1 (relays c) (s,A3) (qtc s.P)with
 |none=>A2
 |some st=>if 1000000<st.1.N.L.length then A2 else
  match qw1 flushes st st.1.ids with
  |none=>A2
  |some st2=>qw1 ends st2 (qtc s.P)
def rounds(c:qy):Nat->Bk->Option Bk
 |0,_=>A2
 |n+1,s=>match s.round c with
  |none=>A2
  |some (s,h)=>if h=A8 then rounds c n s else A0 s
def act(c:qy)(n:Nat)(s:Bk)(e:EvD):Option (Bk×Int×Int×Int):=
 if e.kind=1 then
  let (N,id,h):=Cn.openT s.N e.addr;let s:={ s with N:=N}
  if h≠0 then A0 (s,h,0,0)else A0 ((s.put id (q9l id)).alarm c.wait [id],0,id,0)
 else if e.kind=2 then(match (s.upd e.conn (Cn.gFeed (qm e.b))).read c n e.conn e.draw with
  |none=>A2
  |some s'=>A0 (s',0,0,s.ask e.conn 0 (Cn.rFeed (qm e.b))))
 else if e.kind=3 then A0 (s.upd e.conn (Cn.gBudget e.n),if s.ask e.conn A3 (Cn.rBudget e.n)=A8 then 0 else 1,0,0)
 else if e.kind=4 then(if s.ask e.conn A3 (λd=>!d.ended)=A3 then A0 (s.upd e.conn Cn.gHalf,1,0,0)else
  match (s.upd e.conn Cn.gHalf).read c n e.conn e.draw with
  |none=>A2
  |some s=>A0 (s,0,0,0))
 else if e.kind=5 then A0 (s.shut e.conn,0,0,0)
 else if e.kind=6 then
  let (K,al,h):=Ck.cTick s.K e.n;let s:={ s with K:=K}
  if h≠0 then A0 (s,h,0,0)else
  let (B,l):=qm7 s.B s.K.now
  A0 (al.foldl shut (l.foldl gone { s with B:=B}),0,0,0)
 else if e.kind=7 then
  let (R,w):=qv7 c s.R e.name e.token;let s:={ s with R:=R}
  if w=A3 then A0 (s,3,0,0)else if 1000000<s.N.L.length then A2 else
  A0 (s.ids.foldl (λs id=>match qe s.roles id with
   |none=>s
   |some r=>if(r.kind==2&&(decide (r.ten=e.name)&&decide (r.token=e.token)))=A8 then s.shut id else s) s,0,0,0)
 else
  let (B,x,w):=qlb s.B e.name s.K.now;let s:={ s with B:=B}
  if w=A3 then A0 (s,3,0,0)else A0 (s.gone x,0,0,0)
def outs(s:Bk):List q81:=(q91 leI (s.S.map (·.1))).map λid=>(qe s.S id).getD q93
def step(c:qy)(n:Nat)(s:Bk)(e:EvD):Option (Bk×qra):=
 if e.kind<1\/8<e.kind then A0 (s,⟨1,0,0,[]⟩)else
 if e.kind>=2/\e.kind<=5/\s.ask e.conn A3 (λ_=>A8)=A3 then A0 (s,⟨3,0,0,[]⟩)else
 match { s with S:=[]}.act c n e with
 |none=>A2
 |some (s,h,conn,took)=>if h≠0 then A0 (s,⟨h,0,0,[]⟩)else
  match s.rounds c n with
  |none=>A2
  |some s=>if 1000000<s.S.length then A2 else A0 (s,⟨0,conn,took,s.outs⟩)
end Bk
structure qn where
 no:Int
 conn:Int
 came:List UInt8
 back:List UInt8
 en:Bool
 raw:Bool
structure Wd where
 b:Bk
 g:AG
 lines:List (Int×qn)
 row:List q81
 S:List (Int×q81)
 draw:ByteArray
def evZ:EvD:=⟨0,0,0,e0,0,e0,e0,e0⟩
namespace Wd
def takeS(v:Wd)(s:q81):Option Wd:=
 if(qe v.lines s.conn).isSome=A8 then(if 1000000<v.row.length then A2 else A0 { v with row:=v.row++[s]})
 else if 4611686018427387904<((qe v.S s.conn).getD q93).b.size+s.b.size then A2
 else A0 { v with S:=qk v.S s.conn ⟨s.conn,((qe v.S s.conn).getD q93).b++s.b,((qe v.S s.conn).getD q93).e||s.e,((qe v.S s.conn).getD q93).c||s.c⟩}
def event(c:qy)(n:Nat)(v:Wd)(e:EvD):Option (Wd×qra):=match v.b.step c n { e with draw:=v.draw}with
 |none=>A2
 |some (b,o)=>match qw1 takeS { v with b:=b} o.sent with
  |none=>A2
  |some v=>A0 (v,o)
def setL(v:Wd)(k:Int)(l:qn):Wd:={ v with lines:=qk v.lines k l}
def open_(c:qy)(n:Nat)(v:Wd)(no:Int):Option Wd:=match v.event c n { evZ with kind:=1}with
 |none=>A2
 |some (v,o)=>if o.err≠0 then A0 v else if(qe v.lines o.conn).isSome=A8 then A2 else
  match (v.setL o.conn ⟨no,o.conn,[],[],A3,A3⟩).event c n { evZ with kind:=3,conn:=o.conn,n:=1073741824}with
  |none=>A2
  |some (v,_)=>A0 v
def nos(v:Wd):List Int:=v.lines.map λy=>y.2.no
def find(v:Wd)(no:Int):Option (Int×qn):=v.lines.find? λy=>decide (y.2.no=no)
def doA(c:qy)(n:Nat)(v:Wd)(a:qm6):Option Wd:=
 if ¬v.nos.Nodup then A2 else
 if a.k=1 then v.open_ c n a.line else
 match v.find a.line with
 |none=>A0 v
 |some (k,l)=>match v.event c n { evZ with kind:=2,conn:=l.conn,b:=mkS (Fr.putP (q0d a.m))}with
  |none=>A2
  |some (v,_)=>A0 (v.setL k { l with raw:=l.raw||(a.m.k==12)})
def does(c:qy)(n:Nat)(v:Wd)(l:List qm6):Option Wd:=qw1 (doA c n) v l
def msgs(c:qy)(n:Nat)(P:qe1):Nat->Wd->Int->Option Wd
 |0,_,_=>A2
 |f+1,v,k=>match qe v.lines k with
  |none=>A2
  |some l=>if l.raw=A8 then A0 v else if 1000000<l.came.length then A2 else
   if(Fr.firstP l.came).2.1=0 then A0 v else
   let v:=v.setL k { l with came:=l.came.drop (Fr.firstP l.came).2.1}
   match qxg (Fr.firstP l.came).1 with
   |(m,h)=>if h=A3 then msgs c n P f v k else
    match does c n { v with g:=(q22 P v.g l.no m v.b.K.now 0).1} (q22 P v.g l.no m v.b.K.now 0).2 with
    |none=>A2
    |some v=>msgs c n P f v k
def hear(c:qy)(n:Nat)(P:qe1)(v:Wd)(s:q81):Option Wd:=match qe v.lines s.conn with
 |none=>A0 v
 |some l=>if 1000000<l.came.length+s.b.size then A2 else
  match (v.setL s.conn { l with came:=l.came++qm s.b}).msgs c n P n s.conn with
  |none=>A2
  |some v=>match qe v.lines s.conn with
   |none=>A2
   |some l=>if 1000000<l.back.length+l.came.length then A2 else
    let l:=if l.raw=A8 then { l with back:=l.back++l.came,came:=[]}else l
    if s.c=A8 then A0 { v with lines:=qp v.lines s.conn,g:=(qn6 v.g l.no).1}
    else A0 (v.setL s.conn { l with en:=l.en||s.e})
def answer(c:qy)(n:Nat)(v:Wd)(k:Int):Option (Wd×Bool):=match qe v.lines k with
 |none=>A2
 |some l=>if l.raw=A3 then A0 (v,A3)else
  if l.back.length>0 then(match v.event c n { evZ with kind:=2,conn:=l.conn,b:=mkS l.back}with
   |none=>A2
   |some (v,o)=>if o.took<0\/(l.back.length:Int)<o.took then A2 else A0 (v.setL k { l with back:=l.back.drop o.took.toNat},decide (o.took>0)))
  else if l.en=A8 then(match (v.setL k { l with en:=A3}).event c n { evZ with kind:=4,conn:=l.conn}with
   |none=>A2
   |some (v,_)=>A0 (v,A8))
  else A0 (v,A3)
def anyA(c:qy)(n:Nat):Wd->List Int->Option (Wd×Bool)
 |v,[]=>A0 (v,A3)
 |v,k::r=>match v.answer c n k with
  |none=>A2
  |some (v,b)=>if b=A8 then A0 (v,A8)else anyA c n v r
def byNo(v:Wd):List Int:=(q91 leI v.nos).filterMap λno=>(v.find no).map (·.1)
def back(c:qy)(n:Nat)(v:Wd):Option (Wd×Bool):=if ¬v.nos.Nodup\/1000000<v.lines.length\/v.nos.all (λn=>decide (0<=n/\n<=1000000))=A3 then A2 else v.anyA c n v.byNo
def drain(c:qy)(n:Nat)(P:qe1):Nat->Wd->Option Wd
 |0,_=>A2
 |f+1,v=>match v.row with
  |[]=>A0 v
  |s::r=>match { v with row:=r}.hear c n P s with
   |none=>A2
   |some v=>drain c n P f v
def run(c:qy)(n:Nat)(P:qe1):Nat->Wd->Option Wd
 |0,_=>A2
 |f+1,v=>match v.drain c n P n with
  |none=>A2
  |some v=>match v.back c n with
   |none=>A2
   |some (v,b)=>if(b||decide (v.row.length>0))=A8 then run c n P f v else A0 v
def new(c:qy)(n:Nat)(P:qe1)(b:Bk):Option Wd:=
 match does c n ⟨b,(qo3 P ⟨A3,0,0,1,[]⟩ 0).1,[],[],[],e0⟩ (qo3 P ⟨A3,0,0,1,[]⟩ 0).2 with
 |none=>A2
 |some v=>v.run c n P n
def outs(v:Wd):List q81:=(q91 leI (v.S.map (·.1))).map λid=>(qe v.S id).getD q93
def step(c:qy)(n:Nat)(P:qe1)(v:Wd)(e:EvD):Option (Wd×qra):=
 if e.kind<1\/6<e.kind\/((qe v.lines e.conn).isSome=A8/\e.kind>=2/\e.kind<=5)then A0 (v,⟨1,0,0,[]⟩)else
 match { v with S:=[],draw:=e.draw}.event c n e with
 |none=>A2
 |some (v,o)=>if o.err≠0 then A0 (v,⟨o.err,0,0,[]⟩)else
  match (if e.kind=6 then does c n { v with g:=(qd3 P v.g v.b.K.now 0).1} (qd3 P v.g v.b.K.now 0).2 else A0 v)with
  |none=>A2
  |some v=>match v.run c n P n with
   |none=>A2
   |some v=>if 1000000<v.S.length then A2 else A0 (v,⟨0,o.conn,o.took,v.outs⟩)
end Wd
section
structure qm3 where
 v:Nat
 g:Nat
 l:Nat
 q:Nat
 t:Nat
 p:Nat
 n:Nat
 k:Nat
 m:Nat
def qnc(pl:List Nat):Option Nat->Ab
 |none=>Zq A2
 |some i=>match pl[i]? with|none=>Zq A2|some b=>qc b
def shP(sb:Option Nat):Option Az:=sb.map λb=>⟨b,0,A2⟩
def qs(pl:List Nat)(sb:Option Nat)(d:q31):List Ab:=[Zi Zk d.conn,Zi Zk d.kind,Zs d.ten,Zs d.name,Zi Zk d.epoch,Zs d.token,Zq (shP sb),Zb d.heard,qnc pl d.pump,Zi Zk d.side,Zb d.due,Zb d.said]
def q02(vb:Nat):Option Nat->Option qw6->Asn
 |some b,A0 d=>qx2 vb b d
 |none,A2=>prA True
 |_,_=>prA False
def qo2(vb:Nat)(pl:List Nat)(q:Nat)(d:q31):Asn:=exA λsb:Option Nat=>qz [prA (∀i,d.pump=A0 i->i<pl.length),Row q 127 (qs pl sb d),q02 vb sb d.sh]
def qr1(d:q81):Ab:=Zg #[Zi Zk d.conn,Zs d.b,Zb d.e,Zb d.c]
def szS(S:List (Int×q81))(id:Int):Nat:=((qe S id).getD q93).b.size
def qb3(N:Cn.CT)(S:List (Int×q81)):Prop:=(∀id,szS S id<=1073741824)/\∀y∈N.L,0<=y.2.credit/\(szS S y.1:Int)+y.2.credit<=1073741824
def qs2(sn:Option Nat)(N:Cn.CT)(S:List (Int×q81)):Asn:=qz [prA (qb3 N S),match sn with|none=>prA (S=[])|some m=>qg (Zi Zk) qr1 m S]
def qa5(pl:List Nat)(h:List Ri.PS):Asn:=qz [prA (pl.length=h.length),qz ((pl.zip h).map λx=>Ri.PumpA x.1 256 x.2)]
def qg5(c:qy)(b:Nat)(O:qz8):Asn:=qz [prA (∀y∈O,y.2.t∈c.tens),qv2 b O]
def brV(c:qy)(p:qm3)(sn:Option Nat):List Ab:=qx3 c++[qc p.v,qc p.g,qc p.l,qc p.q,qc p.t,qc p.p,qc p.n,qc p.k,.map (A0 p.m),.map sn]
@[reducible] def qua (ro so:Asn) (c:qy) (x:Nat) (p:qm3) (pl:List Nat) (sn:Option Nat) (s:Bk) (F:List Asn):List Asn:=
 Row x 108 (brV c p sn)::qg1 p.v c s.R::qg5 c p.g s.O::q41 p.l s.B::Qu.QueueA p.q s.Q::q03 p.t s.T::q13 p.p s.P::Cn.TabA p.n s.N::Ck.ClockA p.k s.K::ro::so::qa5 pl s.pumps::F
@[reducible] def qy1 (ro:Asn) (c:qy) (x:Nat) (p:qm3) (pl:List Nat) (sn:Option Nat) (s:Bk) (F:List Asn):List Asn:=qua ro (qs2 sn s.N s.S) c x p pl sn s F
@[reducible] def roles (p:qm3) (pl:List Nat) (s:Bk):Asn:=qr (Zi Zk) p.m (qo2 p.v pl) s.roles
@[reducible] def brk (c:qy) (x:Nat) (p:qm3) (pl:List Nat) (sn:Option Nat) (s:Bk) (F:List Asn):List Asn:=qy1 (roles p pl s) c x p pl sn s F
@[reducible] def q32 (c:qy) (x:Nat) (p:qm3) (pl:List Nat) (sn:Option Nat) (s:Bk) (id:Int) (q:Nat) (F:List Asn):List Asn:=qy1 (qw (Zi Zk) p.m (qo2 p.v pl) s.roles id q) c x p pl sn s F
def uMr:Zp.underlying 106=A0 (.map 3 128):=Tryz.underlying106
def iPr:Zp.info? 128=A0 Tryz.t128:=by kernel_rfl
def zPr:Tryz.t128.zero=A0 (Zq A2):=rfl
def uMs:Zp.underlying 79=A0 (.map 3 38):=Tryz.underlying79
def iSe:Zp.info? 38=A0 Tryz.t38:=by kernel_rfl
def zSe:Tryz.t38.zero=A0 (qr1 q93):=rfl
section
variable{W w:World}{F:List Asn}{c:qy}{x:Nat}{p:qm3}{pl:List Nat}{sn:Option Nat}{s:Bk}{id:Int}{d:q31}{q vb:Nat}
def qo2.open_(h:St W (qo2 vb pl q d::F) w):∃sb,(∀i,d.pump=A0 i->i<pl.length)/\St W (Row q 127 (qs pl sb d)::q02 vb sb d.sh::F) w:=by obtain⟨sb,h⟩:=h.of_ex;obtain⟨a,h⟩:=h.of_sep.of_pr;exact⟨sb,a,h⟩
def qo2.shut(sb:Option Nat)(a:∀i,d.pump=A0 i->i<pl.length)(h:St W (Row q 127 (qs pl sb d)::q02 vb sb d.sh::F) w):St W (qo2 vb pl q d::F) w:=
 z00 sb (zj (l:=[_,_,_]) (z01 a h))
def brk.take(a:qe s.roles id=A0 d)(h:St W (brk c x p pl sn s F) w):∃q,St W (qo2 p.v pl q d::q32 c x p pl sn s id q F) w:=by obtain⟨q,h⟩:=z15 a (zf 9 0 h yR);exact⟨q,zf 1 10 h yR⟩
def brk.give(h:St W (qo2 p.v pl q d::q32 c x p pl sn s id q F) w):St W (brk c x p pl sn (s.put id d) F) w:=by have a:=z0p (zf 10 1 h yR);exact zf 0 9 a yR
def qah(h:qe s.roles id=A0 d):s.put id d=s:=by unfold Bk.put;rw[qt1 h]
def brk.back(a:qe s.roles id=A0 d)(h:St W (qo2 p.v pl q d::q32 c x p pl sn s id q F) w):St W (brk c x p pl sn s F) w:=by have:=brk.give h;rwa[qah a]at this
def qh8{κ ν:Type}[DecidableEq κ]{L:List (κ×ν)}{k:κ}{v:ν}{y:κ×ν}(h:y∈qk L k v):y=(k,v)\/y∈L:=by
 induction L with
 |nil=>simp only[qk,Bq]at h;exact .inl h
 |cons z r ih=>
  simp only[qk]at h;split at h
  .rcases A5.1 h with h|h;.exact .inl h
   .exact .inr (Ah _ h)
  .rcases A5.1 h with h|h;.exact .inr (h ▸ Aq)
   .rcases ih h with h|h;.exact .inl h
    .exact .inr (Ah _ h)
def qb3.upd{N:Cn.CT}{S:List (Int×q81)}(h:qb3 N S)(id:Int){g:Cn.CnD->Cn.CnD}(a:∀d,(g d).credit=d.credit):qb3 (N.upd id g) S:=by
 refine⟨h.1,λy w=>?_⟩;unfold Cn.CT.upd at w;split at w;.exact h.2 y w
 .rename_i d b;rcases qh8 w with rfl|w
  .have:=h.2 _ (qg3 b);exact⟨by rw[a];exact this.1,by rw[a];exact this.2⟩
  .exact h.2 y w
def qb3.del{N:Cn.CT}{S:List (Int×q81)}(h:qb3 N S)(id:Int):qb3 { N with L:=qp N.L id} S:=⟨h.1,λy w=>h.2 y ((q2a _ _).subset w)⟩
def qsf(id:Int):szS [] id=0:=rfl
def qb3.fresh{N:Cn.CT}{S:List (Int×q81)}(h:qb3 N S):qb3 N []:=⟨λid=>by rw[qsf];omega,λy w=>⟨(h.2 y w).1,by have:=(h.2 y w).2;rw[qsf];omega⟩⟩
def St.repl{W w:A7}{l:List Asn}{A B:Asn}(k:Nat)(b:St W l w)(a:nth l k=A0 A)(h:∀H,A H->B H):St W (put l k [B]) w:=z06 k a (B:=[B]) ((b.at k a).imp h)
section
variable{W w:World}{F:List Asn}{c:qy}{b:Nat}{O:qz8}{s:ByteArray}{what:Int}
def qg5.open_(h:St W (qg5 c b O::F) w):(∀y∈O,y.2.t∈c.tens)/\St W (qv2 b O::F) w:=h.of_sep.of_pr
def qg5.shut(a:∀y∈O,y.2.t∈c.tens)(h:St W (qv2 b O::F) w):St W (qg5 c b O::F) w:=zj (l:=[_,_]) (z01 a h)
def qgx{d:qz7}{n:Int}(w:∀y∈O,y.2.t∈c.tens)(a:qe O s=A0 d):∀y∈qk O s (d.put what n),y.2.t∈c.tens:=λy h=>by
 rcases qh8 h with rfl|h
 .have:=w _ (qg3 a);unfold qz7.put;split<;>exact this
 .exact w y h
def qx7(e:what=1\/what=2)(h:St W (qg5 c b O::F) w):qb Zp 147 #[qc b,Zs s,Zi Zk what] w λv w'=>v=Zb (qjc O s what).2/\St W (qg5 c b (qjc O s what).1::F) w':=by
 obtain⟨a,h⟩:=qg5.open_ h;refine(qnt e h).of λv w ⟨d,h⟩=>⟨d,qg5.shut ?_ h⟩;unfold qjc;split;.exact a
 .split;.exact a
  .exact qgx a (by assumption)
def qyh(e:what=1\/what=2)(h:St W (qg5 c b O::F) w):qb Zp 353 #[qc b,Zs s,Zi Zk what] w λv w'=>v=Zi Zk (qq5 O s what).2/\St W (qg5 c b (qq5 O s what).1::F) w':=by
 obtain⟨a,h⟩:=qg5.open_ h;refine(Take_spec e h).of λv w ⟨d,h⟩=>⟨d,qg5.shut ?_ h⟩;unfold qq5;split;.exact a
 .split;.exact a
  .exact qgx a (by assumption)
def qvo{addr:Int}(e:ql1 F c)(h:St W (qg5 c b O::F) w):qb Zp 382 #[qc b,Zs s,Zi .u32 addr] w λv w'=>v=Zi Zk (qgf O s addr)/\St W (qg5 c b O::F) w':=by obtain⟨a,h⟩:=qg5.open_ h;exact(q2q (λy d=>e.ok _ (a y d)) h).of λv w ⟨f,h⟩=>⟨f,qg5.shut a h⟩
end
def qzz{p:Prop}{A:Asn}{H:Hp}(a:p)(h:A H):qz [prA p,A] H:=⟨λ_=>A2,λb o w=>(by cases w),a,H,λb o w=>(by unfold qh6;exact w),h,trivial⟩
def qs2.of{m:Nat}{N:Cn.CT}{S:List (Int×q81)}(h:qb3 N S):∀H,qg (Zi Zk) qr1 m S H->qs2 (A0 m) N S H:=λH w=>qzz h w
def qs2.imp{sn:Option Nat}{N w:Cn.CT}{S:List (Int×q81)}(h:qb3 N S->qb3 w S):∀H,qs2 sn N S H->qs2 sn w S H:=by rintro H ⟨g,c,b,a⟩;exact⟨g,c,h b,a⟩
def qs2.cr{W w:A7}{l:List Asn}{sn:Option Nat}{N:Cn.CT}{S:List (Int×q81)}(k:Nat)(a:St W l w)(h:nth l k=A0 (qs2 sn N S)):qb3 N S:=((a.at k h).of_sep.of_pr).1
def brk.sent{W w:A7}{F:List Asn}{ro:Asn}{c:qy}{x:Nat}{p:qm3}{pl:List Nat}{s:Bk}{m:Nat}(h:St W (qy1 ro c x p pl (A0 m) s F) w):qb3 s.N s.S/\St W (qua ro (qg (Zi Zk) qr1 m s.S) c x p pl (A0 m) s F) w:=by obtain⟨b,a⟩:=(h.at 10 yR).of_sep.of_pr;exact⟨b,a.perm (qh7 10 _ _)⟩
def Rd.b12{F:List Asn}{q:Option Az}{cs:List Ab}{a0 b a2 a3 a4 a5 e c d a9 w a:Asn}(h:Rd F q cs):Rd (a0::b::a2::a3::a4::a5::e::c::d::a9::w::a::F) q cs:=(((((((((((h.cons _).cons _).cons _).cons _).cons _).cons _).cons _).cons _).cons _).cons _).cons _).cons _
def brk.open_(b:qe s.roles id=A0 d)(h:St W (brk c x p pl sn s F) w):∃q sb,(∀i,d.pump=A0 i->i<pl.length)/\St W (q32 c x p pl sn s id q (Row q 127 (qs pl sb d)::q02 p.v sb d.sh::F)) w:=by obtain⟨q,h⟩:=brk.take b h;obtain⟨sb,a,h⟩:=qo2.open_ h;exact⟨q,sb,a,zf 0 12 (zf 1 13 h yR) yR⟩
def brk.set{sb:Option Nat}(a:∀i,d.pump=A0 i->i<pl.length)(h:St W (q32 c x p pl sn s id q (Row q 127 (qs pl sb d)::q02 p.v sb d.sh::F)) w):St W (brk c x p pl sn (s.put id d) F) w:=
 brk.give (qo2.shut sb a (zf 13 1 (zf 12 0 h yR) yR))
def brk.close{sb:Option Nat}(a:∀i,d.pump=A0 i->i<pl.length)(b:qe s.roles id=A0 d)(h:St W (q32 c x p pl sn s id q (Row q 127 (qs pl sb d)::q02 p.v sb d.sh::F)) w):St W (brk c x p pl sn s F) w:=
 brk.back b (qo2.shut sb a (zf 13 1 (zf 12 0 h yR) yR))
def qre(L:List (Int×q81))(id:Int):((qe L id).map qr1).getD (qr1 q93)=qr1 ((qe L id).getD q93):=by cases qe L id<;>rfl
end
def z08:=@brk.close
def z11:=@St.repl
def z1f:=@qs2.imp
end
section
section
variable{P:Program}{f:FuncId}{args:Array Value}{W w:World}{l:List Asn}{C:Cls}{A B:Asn}{X:Value}
def qb.p{R:Ab->A7->Prop}(k:Nat)(d:St W l w)(b:nth l k=A0 A)
 (a:St W (A::del l k) w->qb P f args w λv w'=>v=X/\St W (B::del l k) w') (c:∀w',St W (put l k [B]) w'->R X w'):qb P f args w R:=
 (a (d.at k b)).of λv w' ⟨e,h⟩=>by subst e;exact c w' (z06 k b (B:=[B]) h)
variable{Φ:Value->World->(Value->World->Prop)->Prop}{K:Value->Cls->Prop}
def Ef.c(k:Nat)(e:Is W C l)(b:nth l k=A0 A)
 (a:∀G w,St W (A::(del l k++pts G)) w->qb P f args w λv w'=>v=X/\St W (B::(del l k++pts G)) w')
 (c:∀w' (K:Ab->A7->Prop),K X w'->Φ X w' K) (d:K X (StC W (put l k [B]))):Ef C (λw K=>qb P f args w λv w'=>Φ v w' K) K:=
 Ef.n (α:=Unit) (V:=λ_=>X) (B:=λ_=>[B]) () k e b (λG w h=>(a G w h).of λv w' ⟨g,h⟩=>by subst g;exact c w' _ ⟨(),rfl,z17 k b (B:=[B]) h⟩) λ_=>d
def Ef.al{l':List Asn}(d:Is W C l)(a:∀G w,St W (l++pts G) w->qb P f args w λv w'=>v=X/\St W (l'++pts G) w')
 (b:∀w' (K:Ab->A7->Prop),K X w'->Φ X w' K) (c:K X (StC W l')):Ef C (λw K=>qb P f args w λv w'=>Φ v w' K) K:=
 zk (α:=Unit) (V:=λ_=>X) (B:=λ_=>l') () d (λG w h=>(a G w h).of λv w' ⟨e,h⟩=>by subst e;exact b w' _ ⟨(),rfl,h⟩) λ_=>c
def Ef.sl{a:Option Az->Nat->Asn}{Y:Option Az->Nat->Ab}(k:Nat)(o:Is W C l)(d:nth l k=A0 A)
 (b:∀G w,St W (A::(del l k++pts G)) w->qb P f args w λv w'=>∃p c,v=Y p c/\St W (a p c::B::(del l k++pts G)) w')
 (j:∀p c w' (K:Ab->A7->Prop),K (Y p c) w'->Φ (Y p c) w' K) (n:∀p c,K (Y p c) (StC W (a p c::put l k [B]))):Ef C (λw K=>qb P f args w λv w'=>Φ v w' K) K:=
 zk (α:=Option Az×Nat) (V:=λx=>Y x.1 x.2) (B:=λx=>a x.1 x.2::put l k [B]) (A2,0) o (λG w h=>by
  have g:=h.at k (qr4 (pts G) d).1;rw[(qr4 (pts G) d).2.1]at g;exact(b G w g).of λv w' ⟨p,c,q,h⟩=>by
   subst q;refine j p c w' _ ⟨(p,c),rfl,?_⟩;have m:St W (B::(del l k++pts G)++[a p c]) w':=h.last;have e:St W ([B]++((del l k++pts G)++[a p c])) w':=m;rw[Ak,<-Ak,<-Ak]at e;have i:St W (put l k [B]++(pts G++[a p c])) w':=by refine e.perm ?_;rw[Ak];exact(qrg [B] d).append_right _
   rw[<-Ak]at i;exact i.perm (List.perm_append_singleton _ _)) λx=>n x.1 x.2
def Ef.sw{b:Option Az->Nat->Asn}{Y:Option Az->Nat->Ab}(g:Is W C l)
 (a:∀G w,St W (l++pts G) w->qb P f args w λv w'=>∃p c,v=Y p c/\St W (b p c::(l++pts G)) w')
 (d:∀p c w' (K:Ab->A7->Prop),K (Y p c) w'->Φ (Y p c) w' K) (e:∀p c,K (Y p c) (StC W (b p c::l))):Ef C (λw K=>qb P f args w λv w'=>Φ v w' K) K:=
 zk (α:=Option Az×Nat) (V:=λx=>Y x.1 x.2) (B:=λx=>b x.1 x.2::l) (A2,0) g (λG w h=>(a G w h).of λv w' ⟨p,c,i,h⟩=>by subst i;exact d p c w' _ ⟨(p,c),rfl,h⟩) λx=>e x.1 x.2
end
def Ef.mu{P:Program}{W:A7}{l:List Asn}{C:Cls}{K:Ab->Cls->Prop}{κ ν:Type}[DecidableEq κ]{a d mt:Cw}{enc:κ->Ab}{vl:ν->Ab}{m:Nat}{L:List (κ×ν)}(g:qw2 P a enc)(e:P.underlying mt=A0 (.map a d))(k:Nat)(i:Is W C l)(b:nth l k=A0 (qg enc vl m L))(key:κ)(v:ν)
 (f:K (Zt #[]) (StC W (put l k [qg enc vl m (qk L key v)]))):Ef C (λw K=>qt8 P (Instr.mapUpdate mt (.map (A0 m)) (enc key) (vl v)) w λw'=>K (Zt #[]) w') K:=
 Ef.n (α:=Unit) (V:=λ_=>Zt #[]) (B:=λ_=>[qg enc vl m (qk L key v)]) () k i b (λG w h=>qh1 g e 0 h yR key v λw' c=>⟨(),rfl,z17 k b (B:=[_]) c⟩) λ_=>f
def qh.k{W w:A7}{l:List Asn}{c:Array Ab}{e:Cw}{F:Nat->A7->Prop}(k:Nat)(d:St W l w)(a:∀b w',St W (ins k (Row b e c.toList) l) w'->F b w'):qh c e w F:=
 zh d λb w' h=>a b w' (h.perm (qh7 k _ _))
def St.to{W w:A7}{A:Asn}{l:List Asn}(k:Nat)(h:St W (A::l) w):St W (ins k A l) w:=h.perm (qh7 k A l)
def z05:=@Ef.c
def z0a:=@qh.k
def z0s:=@St.to
end
def q5x{P:Nat->Prop}:∀n,P n->∃m,P m/\∀k,P k->m<=k:=by
 intro n;induction n using Cp with
 |ind n d=>
  intro h;by_cases a:∃k,k<n/\P k
  .obtain⟨k,w,b⟩:=a;exact d k w b
  .refine⟨n,h,λk c=>?_⟩;rcases Ce k n with w|w;.exact yI ⟨k,w,c⟩ a
   .exact w
def qma(I:Nat->List Ab->A7->Prop):∃μ:List Ab->A7->Nat,(∀vs w n,I n vs w->μ vs w<=n)/\∀vs w,(∃n,I n vs w)->I (μ vs w) vs w:=by
 have h:∀vs w,∃m,(∀n,I n vs w->m<=n)/\((∃n,I n vs w)->I m vs w):=λvs w=>by
  by_cases b:∃n,I n vs w
  .obtain⟨n,a⟩:=b;obtain⟨m,d,c⟩:=q5x (P:=λn=>I n vs w) n a;exact⟨m,c,λ_=>d⟩
  .exact⟨0,λn a=>yI ⟨n,a⟩ b,λh=>yI h b⟩
 refine⟨λvs w=>Classical.choose (h vs w),λvs w=>(Classical.choose_spec (h vs w)).1,λvs w=>(Classical.choose_spec (h vs w)).2⟩
def qt3{F:(List Ab->A7->Prop)->(List Ab->A7->Nat)->Prop}(I:Nat->List Ab->A7->Prop)
 (h:∀μ:List Ab->A7->Nat,(∀vs w n,I n vs w->μ vs w<=n)->(∀vs w,(∃n,I n vs w)->I (μ vs w) vs w)->F (λvs w=>∃n,I n vs w) μ):∃I μ,F I μ:=by
 obtain⟨μ,b,a⟩:=qma I;exact⟨_,μ,h μ b a⟩
section
section
variable{W w:World}{F:List Asn}{ro:Asn}{c:qy}{x:Nat}{p:qm3}{pl:List Nat}{sn:Option Nat}{s:Bk}{id:Int}
def qpn{C:Cls}{l:List Asn}{b t:Nat}{a0 a3 a4:Int}{c a2:ByteArray}(k:Nat)(m:Is W C l)(g:nth l k=A0 (Row b t [Zi Zk a0,Zs c,Zs a2,Zi Zk a3,Zi Zk a4])):
 Qt C (Zg #[Zi Zk a0,Zs c,Zs a2,Zi Zk a3,Zi Zk a4]) λw K=>LdI Zk (Za ⟨b,0,A2⟩ 0) w λe=>LdS (Za ⟨b,0,A2⟩ 1) w λi=>LdS (Za ⟨b,0,A2⟩ 2) w λd=>LdI Zk (Za ⟨b,0,A2⟩ 3) w λf=>LdI Zk (Za ⟨b,0,A2⟩ 4) w λj=>K (Zg #[Zi Zk e,Zs i,Zs d,Zi Zk f,Zi Zk j]) w:=λG w h=>by
 have a:=m.at k g h;exact z8 0 a yR yR (zg 0 a yR yR (zg 0 a yR yR (z8 0 a yR yR (z8 0 a yR yR ⟨rfl,h⟩))))
def qba(m:qk1)(a:St W (qy1 ro c x p pl sn s F) w):qb Zp 205 #[qc x,Zi Zk id,ql2 m] w λv w'=>v=Zt #[]/\St W (qy1 ro c x p pl sn (s.tell id m) F) w':=by refine F205_of (zh a λb w a=>⟨StC W _,zd a,z7 ⟨_,zo 1 ir yR yR,_,_,_,_,_,qpn 0 ir yR,?_⟩⟩);refine Ef.sw ir (λG w h=>q1f m h) (λ_ _ _ _ h=>⟨_,_,_,rfl,h⟩) λf c1=>⟨_,_,_,rfl,zo 2 ir yR yR,?_⟩;refine Ef.sw ir (λG w h=>Fr.Put_spec (z0k _) yR h) (λ_ _ _ _ h=>⟨_,_,_,rfl,h⟩) λg e=>⟨_,_,_,rfl,zo 3 ir yR yR,?_⟩;refine z05 10 ir yR (λG w h=>Cn.Say_spec (id:=id) (xs:=Fr.putP (q0d m)) (z0k _) (qi.le (h.drop)).2 h) (λ_ _ h=>⟨_,rfl,h⟩) ⟨_,rfl,trivial,λG w h=>⟨rfl,?_⟩⟩;have a:=z0h [_,_,_] (zb h);exact z11 10 a yR (z1f λh=>h.upd id λd=>by unfold Cn.gSay;split<;>rfl)
def qyq(K:Ck.ClG)(after:Int)(ids:List Int){k:Nat}{id:Int}(h:ids[k]?=A0 id):q5c K after (ids.take (k+1))=(Ck.cSet (q5c K after (ids.take k)) id (Zw Zk ((q5c K after (ids.take k)).now+after))).1:=by unfold q5c;rw[Bt,h];simp
def q7i{g:Option Az}{t:Nat}{ids:List Int}{after:Int}(q:Rd F g (ids.map (Zi Zk)))(z:ids.length<=1000000)(b:St W (qy1 ro c x p pl sn s F) w):qb Zp 122 #[qc x,Zi Zk after,Zl g ids.length t] w λv w'=>v=Zt #[]/\St W (qy1 ro c x p pl sn (s.alarm after ids) F) w':=by
 refine F122_of (qt3 (λn vs w=>∃k:Nat,k+n=ids.length/\vs=[Zi Zk (k:Int)]/\St W (qy1 ro c x p pl sn (s.alarm after (ids.take k)) F) w) λμ u l=>⟨⟨ids.length,0,by omega,rfl,b⟩,λj w y=>?_⟩);clear b;obtain⟨k,r,m,b⟩:=l _ _ y;generalize μ _ _=n at r⊢;cases m;refine za (λh=>?_) λh=>?_
 .have d:k<ids.length:=by have:=yC h;omega
  have i:=A4 d;refine z0l q.b12 b yR d (v:=Zi Zk ids[k]) (by rw[Au,i];rfl) λa o=>zq o ⟨StC W _,zd b,z7 (z7 ⟨_,zo 0 ir yR yR,_,zo 0 ir yR yR,?_⟩)⟩;refine z05 8 ir yR (λG w h=>Ck.Now_spec h) (λ_ _ h=>⟨_,rfl,h⟩) ⟨_,rfl,zo 0 ir yR yR,?_⟩;refine z05 8 ir yR (λG w h=>Ck.Set_spec ids[k] _ h) (λ_ _ h=>⟨_,rfl,h⟩) ⟨_,rfl,trivial,λG w h=>?_⟩;have b:=zb h;have e:∃f:Nat,f+(n - 1)=ids.length/\[Zi Zk (Zw Zk ((k:Int)+1))]=[Zi Zk (f:Int)]/\St W (qy1 ro c x p pl sn (s.alarm after (ids.take f)) F) w:=⟨k+1,by omega,by rw[up d (by omega)],by unfold Bk.alarm;rw[qyq _ _ _ i];exact b⟩
  exact⟨⟨_,e⟩,Cb (u _ _ _ e) (by omega)⟩
 .have:ids.take k=ids:=C1 (by have:=yD h;omega);rw[this]at b;exact⟨rfl,b⟩
def fSe:(Zp.fieldsOf 38).toList.map qhm=[(A8,3,0),(A8,9,1),(A8,4,2),(A8,4,3)]:=by kernel_rfl
def uSe:Zp.underlying 38=A0 (.struct (Zp.fieldsOf 38)):=by kernel_rfl
def hSe:Zp.stoodInHeld 38=A3:=by kernel_rfl
def gSe:Zp.eqGuardType Zp.depth 38=A3:=by kernel_rfl
def qmx:Zp.plainKey 4=A8:=by kernel_rfl
def qq01:Zp.underlying 4=A0 .bool:=Tryz.underlying4
def sp0(a:q81)(w:A7):(part 3 #[Zi Zk a.conn,Zs a.b,Zb a.e,Zb a.c] 0).run Zp w=.ok (Zi Zk a.conn) w:=run_part_plain w qjr yR
def sp1(a:q81)(w:A7):(part 9 #[Zi Zk a.conn,Zs a.b,Zb a.e,Zb a.c] 1).run Zp w=.ok (Zs a.b) w:=run_part_plain w pS yR
def sp2(a:q81)(w:A7):(part 4 #[Zi Zk a.conn,Zs a.b,Zb a.e,Zb a.c] 2).run Zp w=.ok (Zb a.e) w:=run_part_plain w qmx yR
def sp3(a:q81)(w:A7):(part 4 #[Zi Zk a.conn,Zs a.b,Zb a.e,Zb a.c] 3).run Zp w=.ok (Zb a.c) w:=run_part_plain w qmx yR
def qaq(d:Nat)(a b:q81)(w:A7):(Op.equalIn (d+2) 38 (qr1 a) (qr1 b)).run Zp w=.ok (decide (a=b)) w:=by
 unfold qr1;rw[show d+2=(d+1)+1 from rfl,run_equalIn_struct w (d+1) _ _ _ uSe hSe,qhh,fSe];simp only[eqF,Sem.run_bind,sp0,sp1,sp2,sp3,Result.andThen_ok,run_equalIn_int w d 3 Zk Zk _ _ uInt,run_equalIn_string w d 9 _ _ uS,run_equalIn_bool' w d 4 _ _ qq01,qv3,qow,Sem.run_ite,Sem.run_pure];obtain⟨k,A,e,c⟩:=a;obtain⟨l,A',e',j⟩:=b;by_cases h:k=l
 .by_cases f:A=A'
  .by_cases g:e=e'
   .by_cases i:c=j;.simp[h,f,g,i]
    .simp[h,f,g,i]
   .simp[h,f,g]
  .simp[h,f]
 .simp[h]
def q8u{c h:Operand}(a b:q81)(w:A7):Sem.run Zp (do eqGuard .eql 38 c h (qr1 a) (qr1 b);binOp .eql 38 (qr1 a) (qr1 b)) w=.ok (Zb (decide (a=b))) w:=by unfold qr1;simp only[Sem.run_bind,run_eqGuard_agg w .eql 38 c h _ _ gSe,Result.andThen_ok,run_eql_struct];have:=qaq 9998 a b w;unfold qr1 at this;rw[show(10000:Nat)=9998+2 from rfl,this];rfl
def qav(id:Int)(bs:List UInt8)(e w:Bool):decide ((⟨id,mkS bs,e,w⟩:q81)=⟨id,⟨#[]⟩,A3,A3⟩)=(bs.isEmpty&&(!e&&!w)):=by
 have a:mkS bs=⟨#[]⟩↔bs=[]:=by
  unfold mkS;constructor
  .intro h;have:=yE (λb:ByteArray=>b.data.toList) h;simpa using this
  .intro h;rw[h]
 rw[Bj,yJ,q81.mk.injEq,a];cases bs<;>cases e<;>cases w<;>simp
def qkk{m:Option Az}{r m2:Nat}{bs:List UInt8}{e b:Bool}(q:Rd F m (bs.map qd))(k:szS s.S id+bs.length<=1073741824)(f:qb3 s.N (qe6 s.S id bs e b))(a:St W (qy1 ro c x p pl (A0 m2) s F) w):
 qb Zp 143 #[qc x,Zi Zk id,Zl m bs.length r,Zb e,Zb b] w λv w'=>v=Zt #[]/\St W (qy1 ro c x p pl (A0 m2) (s.send id bs e b) F) w':=by
 unfold Bk.send qe6 at*;refine F143_of (qox uB uU8 uS (λj v o=>q.b12.of a o) yR ⟨_,rfl,zh a λl w a=>St1.zz 0 a yR λw a=>St1.zz 0 a yR λw a=>St1.zz 0 a yR λw a=>St1.zz 0 a yR λw a=>z8 0 a yR yR (zg 0 a yR yR (zx 0 a yR yR (zx 0 a yR yR ⟨_,λw=>q8u ⟨id,mkS bs,e,b⟩ ⟨id,⟨#[]⟩,A3,A3⟩ w,_,rfl,?_⟩)))⟩);rw[qav];refine za (λh=>?_) λh=>?_
 .rw[yB h];exact⟨rfl,a.drop⟩
 rw[yA (by rw[h];simp)]at f⊢;have a:St W (Row l 38 [Zi Zk id,Zs (mkS bs),Zb e,Zb b]::qy1 ro c x p pl (A0 m2) s F) w:=a;obtain⟨_,a⟩:=brk.sent (a.to 12);have a:St W (Row l 38 [Zi Zk id,Zs (mkS bs),Zb e,Zb b]::qua ro (qg (Zi Zk) qr1 m2 s.S) c x p pl (A0 m2) s F) w:=zf 12 0 a yR;refine z7 (zv 1 a yR yR (qq1 kI uMs iSe zSe 11 a yR id A3 ?_));rw[yA (by simp),qre];unfold szS at k;generalize (qe s.S id).getD q93=was at k f⊢;refine⟨_,_,_,_,rfl,zh a λn w a=>St1.zz 0 a yR λw a=>St1.zz 0 a yR λw a=>St1.zz 0 a yR λw a=>St1.zz 0 a yR λw a=>?_⟩;have a:St W (Row n 38 [Zi Zk was.conn,Zs was.b,Zb was.e,Zb was.c]::Row l 38 [Zi Zk id,Zs (mkS bs),Zb e,Zb b]::qua ro (qg (Zi Zk) qr1 m2 s.S) c x p pl (A0 m2) s F) w:=a;refine⟨StC W _,zd a,z7 ⟨_,z0b 2 ir yR yR,_,zu 0 ir yR yR,_,zu 1 ir yR yR,⟨by rw[qf1];omega,?_⟩⟩⟩;have d:∀(u v:Bool) (w:A7),(was.e||e)=u->(was.c||b)=v->St W (Row n 38 [Zi Zk was.conn,Zs was.b,Zb was.e,Zb was.c]::Row l 38 [Zi Zk id,Zs (mkS bs),Zb e,Zb b]::qua ro (qg (Zi Zk) qr1 m2 (qk s.S id ⟨id,was.b++mkS bs,u,v⟩)) c x p pl (A0 m2) s F) w->St W (qy1 ro c x p pl (A0 m2) { s with S:=qk s.S id ⟨id,was.b++mkS bs,was.e||e,was.c||b⟩} F) w:=λu v w i g h=>by rw[i,g]at f⊢;exact z11 10 h.drop.drop yR (qs2.of f)
 refine⟨_,z0u 0 ir yR yR,za (λi=>⟨_,z0u 0 ir yR yR,za (λg=>?_) λg=>⟨_,z0u 1 ir yR yR,?_⟩⟩) λi=>⟨_,z0u 1 ir yR yR,_,z0u 0 ir yR yR,za (λg=>?_) λg=>⟨_,z0u 1 ir yR yR,?_⟩⟩⟩;.exact Ef.mu (vl:=qr1) kI uMs 12 ir yR id ⟨id,was.b++mkS bs,A8,A8⟩ ⟨rfl,trivial,λG w h=>⟨rfl,d _ _ _ (by rw[i];rfl) (by rw[g];rfl) (zb h)⟩⟩
 .exact Ef.mu (vl:=qr1) kI uMs 12 ir yR id ⟨id,was.b++mkS bs,A8,b⟩ ⟨rfl,trivial,λG w h=>⟨rfl,d _ _ _ (by rw[i];rfl) (by rw[g];rfl) (zb h)⟩⟩
 .exact Ef.mu (vl:=qr1) kI uMs 12 ir yR id ⟨id,was.b++mkS bs,e,A8⟩ ⟨rfl,trivial,λG w h=>⟨rfl,d _ _ _ (by rw[i];rfl) (by rw[g];rfl) (zb h)⟩⟩
 .exact Ef.mu (vl:=qr1) kI uMs 12 ir yR id ⟨id,was.b++mkS bs,e,b⟩ ⟨rfl,trivial,λG w h=>⟨rfl,d _ _ _ (by rw[i];rfl) (by rw[g];rfl) (zb h)⟩⟩
def qvf(e:Int)(h:St W (qy1 ro c x p pl sn s F) w):qb Zp 274 #[qc x,Zi Zk id,Zi Zk e] w λv w'=>v=Zt #[]/\St W (qy1 ro c x p pl sn (s.no id e) F) w':=
 F274_of ((qba (qe9 e) h).of λv w ⟨a,h⟩=>⟨a,rfl,h⟩)
end
end
end Go.Proofs.YtfjifcfbmhpcaaaGreatDoor
