/-
  A part of the proof of TopEcho.
-/
import Derived.Test.YtfjifcfbmhpcaaaGreatDoorE18
import Derived.Test.YtfjifcfbmhpcaaaGreatDoorE20
import Derived.Test.YtfjifcfbmhpcaaaGreatDoorE16
import Derived.Lib.ItoaLen
import Derived.Shelf.SlGeneric
import Derived.Shelf.SlSortCmp.WholeK
import Derived.Shelf.SlSortCmp.Whole1
import Derived.Shelf.SlSortCmp.NoneTotal
import Derived.Ground.SlsfProg
import Derived.Test.YtfjifcfbmhpcaaaGreatDoorProg
import Derived.Test.YtfjifcfbmhpcaaaGreatDoorE00
set_option linter.defProp false
set_option linter.unusedVariables false
set_option linter.unusedSimpArgs false
namespace Go.Proofs.YtfjifcfbmhpcaaaGreatDoor
open Go
open Go.Proofs.Tryz renaming prog → Zp
open Go.IntKind renaming i64 → Zk, wrap → Zw
open Go.Addr renaming add → Za
open Go.Value renaming int → Zi, string → Zs, pointer → Zq, bool → Zb, tuple → Zt, slice → Zl, agg → Zg
open _root_.List renaming getElem?_eq_getElem->A0,length_map->A1,length_eraseIdx_of_lt->A6,getElem?_append_right->A7,getElem?_eq_some_iff->A8,mem_cons->A9,pairwise_cons->Ab,not_mem_nil->Ag,take_left'->Aj,filter_eq_self->Ak,length->Am,filter_congr->An,map_cons->Ap,mem_map->Ar,mem_of_getElem?->Av,flatMap_append->Ax,getElem?_take->Ay,size_toArray->B0,length_cons->B2,length_nil->B5
open _root_.Option renaming some->A2,map_some->Ai,none->Aq
open _root_.Int renaming toNat->A3,toNat_natCast->Ae
open _root_.Bool renaming true->A4,false->A5,not_eq_true->Ah,not_eq_true'->Az,or_eq_true->B4,and_false->B7,false_and->B9,and_true->Bb
open Go renaming Value->Aa,World->Ac,Addr->B1
open _root_.Prod renaming fst->Ad
open _root_.Nat renaming zero_add->Af,le_trans->As,mul_le_mul_left->Aw,le_refl->B3,min_eq_left->B6,sub_zero->Bc,add_zero->Bd,zero_le->Be
open Go.Builtin renaming zeroCells->Ao,clear_->Ba
open _root_.Option.some renaming inj->Au
section
section
variable{α β:Type}
def qgb(le:α->α->Bool)(x:α):List α->List α
 |[]=>[x]
 |y::r=>if le x y=A4 then x::y::r else y::qgb le x r
def q91(le:α->α->Bool):List α->List α
 |[]=>[]
 |x::r=>qgb le x (q91 le r)
def q8f(le:α->α->Bool)(x:α):∀l:List α,(qgb le x l).Perm (x::l)
 |[]=>.refl _
 |y::r=>by
  unfold qgb;split;.exact .refl _
  .exact((q8f le x r).cons y).trans (.swap _ _ _)
def qv1(le:α->α->Bool):∀l:List α,(q91 le l).Perm l
 |[]=>.refl _
 |x::r=>(q8f le x _).trans ((qv1 le r).cons x)
def qbg{le:α->α->Bool}(e:∀a b c,le a b=A4->le b c=A4->le a c=A4)(f:∀a b,(le a b||le b a)=A4)(x:α):∀l:List α,l.Pairwise (λa b=>le a b=A4)->(qgb le x l).Pairwise λa b=>le a b=A4
 |[],_=>by simp[qgb]
 |y::r,h=>by
  rw[Ab]at h;unfold qgb;split
  .rename_i w;rw[Ab];refine⟨λz d=>?_,Ab.2 h⟩;rcases A9.1 d with rfl|d;.exact w
   .exact e _ _ _ w (h.1 z d)
  .rename_i w;rw[Ab];refine⟨λz d=>?_,qbg e f x r h.2⟩;rcases A9.1 ((q8f le x r).mem_iff.1 d)with rfl|d
   .have:=f z y;simp only[B4]at this;exact this.resolve_left w
   .exact h.1 z d
def qjf{le:α->α->Bool}(h:∀a b c,le a b=A4->le b c=A4->le a c=A4)(w:∀a b,(le a b||le b a)=A4):∀l:List α,(q91 le l).Pairwise λa b=>le a b=A4
 |[]=>by simp[q91]
 |x::r=>qbg h w x _ (qjf h w r)
def qij{le:α->α->Bool}(h:∀a b c,le a b=A4->le b c=A4->le a c=A4)(w:∀a b,(le a b||le b a)=A4)(d:∀a b,le a b=A4->le b a=A4->a=b){l m:List α}(e:l.Perm m):l.mergeSort le=q91 le m:=
 List.Perm.eq_of_pairwise (le:=λa b=>le a b=A4) (λa b _ _=>d a b) (List.pairwise_mergeSort h w l) (qjf h w m) ((List.mergeSort_perm l le).trans (e.trans (qv1 le m).symm))
def qtm(f:α->β){le:α->α->Bool}{le':β->β->Bool}(h:∀a b,le a b=le' (f a) (f b))(x:α):∀l:List α,(qgb le x l).map f=qgb le' (f x) (l.map f)
 |[]=>rfl
 |y::r=>by
  simp only[qgb,Ap,h x y];split;.rfl
  .rw[Ap,qtm f h x r]
def q5a(f:α->β){le:α->α->Bool}{le':β->β->Bool}(h:∀a b,le a b=le' (f a) (f b)):∀l:List α,(q91 le l).map f=q91 le' (l.map f)
 |[]=>rfl
 |x::r=>by rw[q91,qtm f h,q5a f h r];rfl
end
def leI(x y:Int):Bool:=decide (x<=y)
def leL(x y:List UInt8):Bool:=decide (x<=y)
def leS(x y:ByteArray):Bool:=leL (qm x) (qm y)
def qee{l m:List Int}(d:l.Perm m):l.mergeSort (λx y=>decide (x<=y))=q91 leI m:=
 qij (le:=leI) (λa b c w h=>by unfold leI at*;simp at*;omega) (λa b=>by unfold leI;simp;omega) (λa b w h=>by unfold leI at*;simp at*;omega) d
def qsg{l m:List (List UInt8)}(d:l.Perm m):l.mergeSort (λx y=>decide (x<=y))=q91 leL m:=
 qij (le:=leL) (λa b c w h=>by unfold leL at*;simp only[yJ]at*;exact List.le_trans w h) (λa b=>by unfold leL;simp only[B4,yJ];exact List.le_total a b) (λa b w h=>by unfold leL at*;simp only[yJ]at*;exact List.le_antisymm w h) d
section
variable{W w:World}{F M:List Asn}{itf:FuncId}{cap:Value}{N m:Nat}
def q3f{G:List Int->Prop}(f:q33 Zp itf=A4)(e:N<=1000000)(g:∀l,G l->l.length<=1000000)(a:q7b W (Zi Zk) itf cap M N G)(h:St W M w):
 qb Zp 33 #[.func (.func itf) #[] #[cap]] w λv w'=>∃l p c,v=Zl p (Am l) c/\G l/\St W (qi 3 1 p l.length c ((q91 leI l).map (Zi Zk))::M) w':=by
 refine F33_of (F63_of ((AppI.AppSeq_spec f e a h).of λv w ⟨l,p,c,b,d,h⟩=>⟨_,_,_,b,_,_,_,rfl,?_⟩));have h:St W (qi 3 1 p l.length c (l.flatMap λx=>[Zi Zk x])::M) w:=h;rw[qt6]at h;refine(q1r (g l d) h).of λv w ⟨b,h⟩=>⟨b,l,p,c,rfl,d,?_⟩;rw[qee (List.Perm.refl l)]at h;exact h
def q3m{G:List ByteArray->Prop}(j:q33 Zp itf=A4)(i:N<=1000000)(k:∀l,G l->l.length<=1000000)(e:q7b W Zs itf cap M N G)(h:St W M w):
 qb Zp 154 #[.func (.func itf) #[] #[cap]] w λv w'=>∃l p c,v=Zl p (Am l) c/\G l/\St W (qi 9 1 p l.length c ((q91 leS l).map Zs)::M) w':=by
 refine F154_of (F237_of ((AppS.AppSeq_spec j i e h).of λv w ⟨l,p,c,f,g,h⟩=>⟨_,_,_,f,_,_,_,rfl,?_⟩));have h:St W (qi 9 1 p l.length c (l.flatMap λx=>[Zs x])::M) w:=h;rw[qt6]at h;have e0:∀l:List ByteArray,l.map Zs=(l.map qm).map qc8:=λl=>by rw[List.map_map];exact List.map_congr_left λs _=>qch s
 rw[e0]at h;have d:l.length=(l.map qm).length:=by simp
 rw[d]at h⊢;refine(qvr (by rw[<-d];exact k l g) h).of λv w ⟨f,h⟩=>⟨f,l,p,c,by rw[<-d],g,?_⟩;rw[qsg (List.Perm.refl _)]at h;rw[e0,q5a qm (le:=leS) (le':=leL) (λa b=>rfl)];rw[<-d]at h;exact h
def q88{l m:List Int}(h:l.Perm m):q91 leI l=q91 leI m:=(qee (List.Perm.refl l)).symm.trans (qee h)
def q4j{l m:List ByteArray}(d:l.Perm m):q91 leS l=q91 leS m:=by
 have h:(q91 leS l).map qm=(q91 leS m).map qm:=by rw[q5a qm (le:=leS) (le':=leL) (λa b=>rfl),q5a qm (le:=leS) (le':=leL) (λa b=>rfl)];exact(qsg (List.Perm.refl _)).symm.trans (qsg (d.map qm))
 have w:∀a b:ByteArray,qm a=qm b->a=b:=λa b h=>by have:=yE mkS h;unfold qm at this;rwa[qd5,qd5]at this
 generalize q91 leS l=x at h;generalize q91 leS m=y at h;induction x generalizing y with
 |nil=>cases y with
  |nil=>rfl
  |cons b s=>simp at h
 |cons a r c=>cases y with
  |nil=>simp at h
  |cons b s=>simp only[Ap,List.cons.injEq]at h;rw[w _ _ h.1,c s h.2]
def q3y{ν:Type}{vl:ν->Aa}{L:List (Int×ν)}(e:L.length<=1000000){K:Aa->Ac->Prop}(n:Nat){l:List Asn}(h:St W l w)(d:nth l n=A2 (qg (Zi Zk) vl m L))
 (i:∀p c w',St W (qi 3 1 p L.length c ((q91 leI (L.map (·.1))).map (Zi Zk))::l) w'->K (Zl p L.length c) w'):
 qb Zp 93 #[.map (A2 m)] w λv w'=>qb Zp 33 #[v] w' K:=by
 refine F93_of (zh h λcap w h=>?_);have h:St W (Row cap 180 [.map (A2 m)]::qg (Zi Zk) vl m L::del l n) w:=z0c h (List.Perm.cons _ (q76 d));refine(q3f (by kernel_rfl) e (λl b=>by rw[b.length_eq,A1];exact e) (qqs (B3 _)) h).of λv w ⟨f,p,c,g,b,h⟩=>?_;have a:f.length=L.length:=by rw[b.length_eq,A1]
 rw[g,a];rw[a,q88 b]at h;exact i p c w (z0c (z04 1 h rfl) (List.Perm.cons _ (q76 d).symm))
def qkn{ν:Type}{vl:ν->Aa}{L:List (Int×ν)}(e:L.length<=1000000){K:Aa->Ac->Prop}(n:Nat){l:List Asn}(h:St W l w)(d:nth l n=A2 (qg (Zi Zk) vl m L))
 (i:∀p c w',St W (qi 3 1 p L.length c ((q91 leI (L.map (·.1))).map (Zi Zk))::l) w'->K (Zl p L.length c) w'):
 qb Zp 34 #[.map (A2 m)] w λv w'=>qb Zp 33 #[v] w' K:=by
 refine F34_of (zh h λcap w h=>?_);have h:St W (Row cap 79 [.map (A2 m)]::qg (Zi Zk) vl m L::del l n) w:=z0c h (List.Perm.cons _ (q76 d));refine(q3f (by kernel_rfl) e (λl b=>by rw[b.length_eq,A1];exact e) (qdu (B3 _)) h).of λv w ⟨f,p,c,g,b,h⟩=>?_;have a:f.length=L.length:=by rw[b.length_eq,A1]
 rw[g,a];rw[a,q88 b]at h;exact i p c w (z0c (z04 1 h rfl) (List.Perm.cons _ (q76 d).symm))
def q6y{ν:Type}{vl:ν->Aa}{L:List (ByteArray×ν)}(e:L.length<=1000000){K:Aa->Ac->Prop}(n:Nat){l:List Asn}(h:St W l w)(d:nth l n=A2 (qg (Zs) vl m L))
 (i:∀p c w',St W (qi 9 1 p L.length c ((q91 leS (L.map (·.1))).map (Zs))::l) w'->K (Zl p L.length c) w'):
 qb Zp 155 #[.map (A2 m)] w λv w'=>qb Zp 154 #[v] w' K:=by
 refine F155_of (zh h λcap w h=>?_);have h:St W (Row cap 166 [.map (A2 m)]::qg (Zs) vl m L::del l n) w:=z0c h (List.Perm.cons _ (q76 d));refine(q3m (by kernel_rfl) e (λl b=>by rw[b.length_eq,A1];exact e) (qvt (B3 _)) h).of λv w ⟨f,p,c,g,b,h⟩=>?_;have a:f.length=L.length:=by rw[b.length_eq,A1]
 rw[g,a];rw[a,q4j b]at h;exact i p c w (z0c (z04 1 h rfl) (List.Perm.cons _ (q76 d).symm))
end
end
section
def q64(h:LeD->Bool)(df:LeD->LeD)(s:LeL×List LeD)(n:ByteArray):LeL×List LeD:=match qe s.1 n with
 |none=>s
 |some d=>if h d=A4 then(qk s.1 n (df d),s.2++[d])else s
def qk4(h:LeD->Bool)(df:LeD->LeD)(L:LeL):LeL×List LeD:=(q91 leS (L.map (·.1))).foldl (q64 h df) (L,[])
def qhw(d:LeD):(leV d).length=6:=rfl
def leVn(d:LeD):∀v∈leV d,qn1 v:=λv h=>by simp only[leV,A9,Ag,yK]at h;rcases h with rfl|rfl|rfl|rfl|rfl|rfl<;>trivial
def uLs:Zp.underlying 52=A2 (.slice 55):=Tryz.underlying52
def iLe:Zp.info? 55=A2 Tryz.t55:=by kernel_rfl
def sLe:Tryz.t55.size=6:=rfl
def bLe:Tryz.t55.bytes<=1000:=by decide+kernel
def zLe:∃z,Tryz.t55.zero=A2 z/\z.cells.size=6:=⟨_,rfl,rfl⟩
section
variable{W w:World}{F:List Asn}{b m:Nat}{B:qi3}{name:ByteArray}{now:Int}
def qef{J O:Aa}(s:LeD->Bool)(df:LeD->LeD)(hl:B.L.length<=64)
 (R:∀(d:LeD) (q:Nat) (D G M:Asn) (w:Ac) (K:Aa->Ac->Prop),St W (qu q d::Row b 168 (bkV B m)::D::G::M::F) w->(∀w',St W (qu q d::Row b 168 (bkV B m)::D::G::M::F) w'->K (Zb (s d)) w')->q01 Zp 4 J [qc q] w K)
 (hdf:∀(d:LeD) (q:Nat) (D G M:Asn) (w:Ac) (K:Aa->Ac->Prop),St W (qu q d::Row b 168 (bkV B m)::D::G::M::F) w->(∀w',St W (qu q (df d)::Row b 168 (bkV B m)::D::G::M::F) w'->K (Zt #[]) w')->q01 Zp 0 O [qc q] w K)
 (f:St W (Row b 168 (bkV B m)::qr Zs m qu B.L::F) w):qb Zp 89 #[qc b,J,O] w λv w'=>∃p c,v=Zl p (qk4 s df B.L).2.length c/\(qk4 s df B.L).2.length<=64/\(qk4 s df B.L).1.map (·.1)=B.L.map (·.1)/\St W (SlA 55 6 leV p c (qk4 s df B.L).2::Row b 168 (bkV B m)::qr Zs m qu (qk4 s df B.L).1::F) w':=by
 refine F89_of (z7 (zv 0 f rfl rfl ?_));obtain⟨bs,hp,h0⟩:=z1e (zf 1 0 f rfl);have o:(qx (Ad (α:=Nat) (β:=LeD)) bs).length=B.L.length:=by rw[q46,<-hp,q46]
 have L:(qx (Ad (α:=Nat) (β:=LeD)) bs).map (·.1)=B.L.map (·.1):=by rw[qx5,<-hp,qx5]
 refine q6y (vl:=qc) (by rw[o];omega) 0 h0 rfl λp c w f=>⟨_,_,_,rfl,?_⟩;rw[o,L]at f;rw[o];unfold qk4;have T:(q91 leS (B.L.map (·.1))).length=B.L.length:=by rw[(qv1 leS _).length_eq,A1]
 have t:∀n∈q91 leS (B.L.map (·.1)),n∈B.L.map (·.1):=λn V=>(qv1 leS _).mem_iff.1 V;generalize q91 leS (B.L.map (·.1))=g at f T t⊢;have f:St W (Row b 168 (bkV B m)::qr Zs m qu B.L::SlA 55 6 leV Aq 0 []::qi 9 1 p B.L.length c (g.map Zs)::F) w:=by have P:St W (qr Zs m qu B.L::qi 9 1 p B.L.length c (g.map Zs)::Row b 168 (bkV B m)::F) w:=z19 bs hp (zf 0 2 f rfl);exact zf 0 2 (z0a (zf 2 0 P rfl |> λh=>h)) rfl |> λh=>zf 1 1 h rfl
 have key:∀(n:ByteArray) (l:LeL),n∈g->l.map (·.1)=B.L.map (·.1)->∃d,qe l n=A2 d:=λn l V hk=>by
  cases h:qe l n with
  |some d=>exact⟨d,rfl⟩
  |none=>have P:=t n V;rw[<-hk]at P;obtain⟨x,C,e⟩:=Ar.1 P;exact yI e (qm8.1 h x C)
 refine⟨λvs w=>∃(k:Nat) (y:Option B1) (u:Nat) (l:LeL) (out:List LeD),vs=[Zl y out.length u,Zi Zk (k:Int)]/\k<=g.length/\(g.take k).foldl (q64 s df) (B.L,[])=(l,out)/\l.map (·.1)=B.L.map (·.1)/\out.length<=k/\St W (Row b 168 (bkV B m)::qr Zs m qu l::SlA 55 6 leV y u out::qi 9 1 p B.L.length c (g.map Zs)::F) w,
  λvs _=>match vs with|[_,.int _ x]=>(g.length - x).toNat|_=>0,⟨0,Aq,0,B.L,[],rfl,by omega,rfl,rfl,by simp,f⟩,λN ln I x w hI=>?_⟩
 obtain⟨k,y,u,l,out,he,hk,X,j,ho,f⟩:=hI;cases he;refine za (λr=>?_) λQ=>?_
 .have r:k<g.length:=by have:=yC r;omega
  have C:g[k]?=A2 (g[k]'r):=A0 _;generalize g[k]'r=n at C;obtain⟨d,E⟩:=key n l (Av C) j;have H:(g.take (k+1)).foldl (q64 s df) (B.L,[])=q64 s df (l,out) n:=by rw[List.take_add_one,C,Option.toList_some,List.foldl_append,X];rfl
  have e1:Zw Zk ((k:Int)+1)=((k+1:Nat):Int):=by rw[w64];omega
  have U:Rd (Row b 168 (bkV B m)::qr Zs m qu l::SlA 55 6 leV N I out::qi 9 1 p B.L.length c (g.map Zs)::F) p (g.map Zs):=(((z0i F).cons _).cons _).cons _;refine z0f U f rfl (by omega) (v:=Zs n) (by rw[List.getElem?_map,C];rfl) λa ha=>z0y ha (z7 (zv 0 f rfl rfl ?_));obtain⟨q,f⟩:=z15 E (zf 1 0 f rfl);refine z0h kS uMl iPl zPl 1 f rfl A5 ⟨_,rfl,?_⟩;have f:St W (qu q d::Row b 168 (bkV B m)::qw Zs m qu l n q::SlA 55 6 leV N I out::qi 9 1 p B.L.length c (g.map Zs)::F) w:=zf 1 2 f rfl;have back:∀(d':LeD) (y:Option B1) (u:Nat) (out:List LeD) (w:Ac),St W (qu q d'::Row b 168 (bkV B m)::qw Zs m qu l n q::SlA 55 6 leV y u out::qi 9 1 p B.L.length c (g.map Zs)::F) w->St W (Row b 168 (bkV B m)::qr Zs m qu (qk l n d')::SlA 55 6 leV y u out::qi 9 1 p B.L.length c (g.map Zs)::F) w:=λd' y u out w h=>(z0n (A:=qu) (zf 2 1 h rfl)).p1;refine R d q _ _ _ w _ f λw f=>⟨_,rfl,za (λZ=>z7 ?_) λZ=>?_⟩
  .have f:St W (Row q 55 (leV d)::Row b 168 (bkV B m)::qw Zs m qu l n q::SlA 55 6 leV N I out::qi 9 1 p B.L.length c (g.map Zs)::F) w:=f;refine zg 0 f rfl rfl (zg 0 f rfl rfl (z8 0 f rfl rfl (z8 0 f rfl rfl (z8 0 f rfl rfl (zw 0 f rfl rfl (?_))))));refine zh f λb34 w f=>?_;obtain⟨z,hz,Y⟩:=zLe;refine qf3 (os:=out) (xs:=[d]) qhw uLs (.inr ⟨_,uLs⟩) iLe sLe hz Y 4 f rfl (z0x 0 λi v h=>by simpa [leV]using h) rfl leVn (by have:=bLe;simp only[B2,B5];exact As (Aw _ this) (by omega)) (by simp;omega) λp3 c3 w f=>⟨_,_,_,rfl,?_⟩;have f:St W (qu q d::Row b 168 (bkV B m)::qw Zs m qu l n q::SlA 55 6 leV p3 c3 (out++[d])::qi 9 1 p B.L.length c (g.map Zs)::F) w:=f.drop;refine hdf d q _ _ _ w _ f λw f=>⟨rfl,?_⟩;rw[e1];refine⟨⟨k+1,p3,c3,qk l n (df d),out++[d],rfl,by omega,?_,?_,by simp;omega,back _ _ _ _ _ f⟩,?_⟩
   .rw[H];unfold q64;rw[E];dsimp only;rw[yB Z]
   .rw[qha,yA (by rw[E];simp),j]
   .show(g.length -((k+1:Nat):Int)).toNat<(g.length -(k:Int)).toNat;omega
  .rw[e1];refine⟨⟨k+1,N,I,l,out,rfl,by omega,?_,j,by omega,?_⟩,?_⟩
   .rw[H];unfold q64;rw[E];dsimp only;rw[yA (by rw[Z];simp)]
   .have:=back _ _ _ _ _ f;rw[qt1 E]at this;exact this
   .show(g.length -((k+1:Nat):Int)).toNat<(g.length -(k:Int)).toNat;omega
 .have hk2:k=g.length:=by have:=yD Q;omega
  subst hk2;rw[List.take_length]at X;rw[X];exact⟨N,I,rfl,by dsimp only;omega,j,zo 4 [2,0,1] f rfl⟩
def All_spec(a:St W (q41 b B::F) w):qb Zp 48 #[qc b] w λv w'=>∃p c,v=Zl p (qk4 (λ_=>A4) (λd=>d) B.L).2.length c/\(qk4 (λ_=>A4) (λd=>d) B.L).2.length<=64/\St W (SlA 55 6 leV p c (qk4 (λ_=>A4) (λd=>d) B.L).2::q41 b { B with L:=(qk4 (λ_=>A4) (λd=>d) B.L).1}::F) w':=by
 obtain⟨m,o,a⟩:=z13 a;refine F48_of ((qef (λ_=>A4) (λd=>d) o (λd q r j n w K a g=>?_) (λd q r j n w K a g=>?_) a).of λv w ⟨p,c,l,e,k,a⟩=>⟨_,_,_,l,p,c,rfl,e,?_⟩)
 .have i:qb Zp 90 #[qc q] w K:=F90_of (g w a);exact zx (by kernel_rfl) i
 .have i:qb Zp 91 #[qc q] w K:=F91_of (g w a);exact zx (by kernel_rfl) i
 .have f:=yE Am k;rw[A1,A1]at f;exact(z0t (B:={ B with L:=(qk4 (λ_=>A4) (λd=>d) B.L).1}) m (by dsimp only;omega) (zf 0 2 a rfl) |> λh=>St.p1 h)
def qid(conn now:Int)(d:LeD):Bool:=(d.conn==conn)&&(d.held&&decide (now<d.til))
def qe5(B:qi3)(conn now:Int):qi3×List LeD:=if q79 now=A5 then(B,[])else({ B with L:=(qk4 (qid conn now) (λd=>q78 d (Zw Zk (now+B.grace))) B.L).1},(qk4 (qid conn now) (λd=>q78 d (Zw Zk (now+B.grace))) B.L).2)
def q3q{conn:Int}(a:St W (q41 b B::F) w):qb Zp 146 #[qc b,Zi Zk conn,Zi Zk now] w λv w'=>∃p c,v=Zl p (qe5 B conn now).2.length c/\(qe5 B conn now).2.length<=64/\St W (SlA 55 6 leV p c (qe5 B conn now).2::q41 b (qe5 B conn now).1::F) w':=by
 unfold qe5;refine F146_of (zh a λj w a=>zh a λo w a=>zh a λi w a=>z0q 0 a rfl rfl ((q57 now a).of λv w ⟨k,a⟩=>⟨_,k,za (λh=>?_) λh=>?_⟩))
 .rw[yB (by simpa using h)];exact⟨Aq,0,rfl,by simp,z0a (zo 4 [3] a rfl)⟩
 rw[yA (by simpa using h)];have a:St W (q41 b B::Row i 2 [Zi Zk now]::Row o 3 [Zi Zk conn]::Row j 94 [qc b]::F) w:=zf 3 0 a rfl;obtain⟨m,y,a⟩:=z13 a;refine LdP.n 4 a rfl rfl ((qef (qid conn now) (λd=>q78 d (Zw Zk (now+B.grace))) y (λd q t r s w K a g=>?_) (λd q t r s w K a g=>?_) a).of λv w ⟨p,c,k,l,x,a⟩=>⟨_,_,_,k,p,c,rfl,l,?_⟩)
 .have e:=z6 W (Row q 55 (leV d)::Row b 168 (bkV B m)::t::r::s::Row i 2 [Zi Zk now]::Row o 3 [Zi Zk conn]::Row j 94 [qc b]::F);unfold qid at g;have f:qb Zp 223 #[qc q,qc o,qc i] w K:=by
   refine F223_of ⟨StC W _,zd a,z7 ⟨_,zj 0 e rfl rfl,_,z03 6 e rfl rfl,za (λh=>z7 ⟨_,z0s 0 e rfl rfl,za (λf=>z7 ⟨_,z03 5 e rfl rfl,_,zj 0 e rfl rfl,λG w n=>?_⟩) λf G w n=>?_⟩) λh G w n=>?_⟩⟩;.have:=g w (zb n);rw[h,f]at this;exact this
   .have:=g w (zb n);rw[h,f]at this;exact this
   .have:=g w (zb n);rw[h]at this;exact this
  exact zx (by kernel_rfl) f
 .have e:=z6 W (qu q d::Row b 168 (bkV B m)::t::r::s::Row i 2 [Zi Zk now]::Row o 3 [Zi Zk conn]::Row j 94 [qc b]::F);have f:qb Zp 224 #[qc q,qc i,qc j] w K:=by refine F224_of ⟨StC W _,zd a,_,z03 5 e rfl rfl,_,z00 7 e rfl rfl,z7 ⟨_,zj 1 e rfl rfl,zn (α:=Unit) (V:=λ_=>Zt #[]) (B:=λ_=>qu q (q78 d (Zw Zk (now+B.grace)))::Row b 168 (bkV B m)::t::r::s::Row i 2 [Zi Zk now]::Row o 3 [Zi Zk conn]::Row j 94 [qc b]::F) () e (λG w h=>(q6f h).of λv w' ⟨k,h⟩=>⟨k,(),rfl,h⟩) λ_=>⟨rfl,trivial,λG w h=>g w (zb h)⟩⟩⟩
  exact zx (by kernel_rfl) f
 .have u:=yE Am x;rw[A1,A1]at u;exact(z0t (B:={ B with L:=(qk4 (qid conn now) (λd=>q78 d (Zw Zk (now+B.grace))) B.L).1}) m (by dsimp only;omega) (zo 6 [1,2,0] a rfl)).p1
end
end
section
section
variable{κ ν:Type}[DecidableEq κ]
def qko{L:List (κ×ν)}(w:(L.map (·.1)).Nodup)(k:κ):qp L k=L.filter λy=>!decide (y.1=k):=by
 induction L with
 |nil=>rfl
 |cons x r a=>
  simp only[Ap,List.nodup_cons]at w;simp only[qp,List.filter_cons];by_cases h:x.1=k
  .rw[yB h,yA (by simp[h])];refine(Ak.2 λy b=>?_).symm;have:y.1≠k:=λe=>w.1 (Ar.2 ⟨y,b,by rw[e,h]⟩);simp[this]
  .rw[yA h,yB (by simp[h]),a w.2]
end
def qad(now:Int)(d:LeD):Bool:=d.held&&decide (d.til<=now)
def q9d(g:Int)(d:LeD):LeD:=q78 d (Zw Zk (d.til+g))
def qm7(B:qi3)(now:Int):qi3×List LeD:=if q79 now=A5 then(B,[])else
 ({ B with L:=(qk4 (qad now) (q9d B.grace) B.L).1.filter λx=>!(qv4 B.grace x.2 now==0)},(qk4 (qad now) (q9d B.grace) B.L).2)
section
variable{W w:World}{F:List Asn}{b m:Nat}{B:qi3}{name:ByteArray}{now:Int}{L:LeL}
def qu2(g now:Int)(S:List ByteArray)(y:ByteArray×Nat×LeD):Bool:=!(qpc S y.1&&(qv4 g y.2.2 now==0))
def qmt{j i:Nat}(a:St W (Row b 168 (bkV B m)::qr Zs m qu L::Row j 94 [qc b]::Row i 2 [Zi Zk now]::F) w):qb Zp 202 #[.map (A2 m),.func (.func 203) #[] #[qc j,qc i]] w λv w'=>
 v=Zt #[]/\St W (Row b 168 (bkV B m)::qr Zs m qu (L.filter λx=>!(qv4 B.grace x.2 now==0))::F) w':=by
 obtain⟨bs,hp,X⟩:=z1e (zf 1 0 a rfl);have O:(bs.map (·.1)).Nodup:=by have:=z18 kS X;rwa[qx5]at this
 refine F202_of (q7y uMl 0 X rfl λf w a=>?_);have a:St W (qn2 Zs qc m f (qx (Ad (α:=Nat) (β:=LeD)) (bs.filter (qu2 B.grace now []))) []::qz ((bs.filter (qu2 B.grace now [])).map λy=>qu y.2.1 y.2.2)::Row b 168 (bkV B m)::Row j 94 [qc b]::Row i 2 [Zi Zk now]::F) w:=by rw[Ak.2 (λy _=>by simp[qu2,qpc])];exact a
 refine⟨λ_ w=>∃S,St W (qn2 Zs qc m f (qx (Ad (α:=Nat) (β:=LeD)) (bs.filter (qu2 B.grace now S))) S::qz ((bs.filter (qu2 B.grace now S)).map λy=>qu y.2.1 y.2.2)::Row b 168 (bkV B m)::Row j 94 [qc b]::Row i 2 [Zi Zk now]::F) w,λ_ w=>qx9 m f w,⟨[],a⟩,λw Y=>?_⟩;obtain⟨S,n⟩:=Y;have a:=n;have c:((bs.filter (qu2 B.grace now S)).map (·.1)).Nodup:=((List.filter_sublist (l:=bs)).map _).nodup O;refine q9z kS a (λD w a=>⟨rfl,?_⟩) λx R C w a hlt u=>⟨_,_,u,_,_,rfl,?_⟩
 .have hE:bs.filter (qu2 B.grace now S)=bs.filter λy=>!(qv4 B.grace y.2.2 now==0):=by
   refine An λy H=>?_;unfold qu2;by_cases N:(qv4 B.grace y.2.2 now==0)=A4
   .rw[N,Bb];by_cases o:qpc S y.1=A4;.rw[o]
    .exfalso;rw[Ah]at o;have q:y∈bs.filter (qu2 B.grace now S):=List.mem_filter.2 ⟨H,by unfold qu2;rw[o];rfl⟩;have J:=qnb.2 (D (y.1,y.2.1) (Ar.2 ⟨y,q,rfl⟩));dsimp only at J;rw[o]at J;cases J
   .rw[Ah]at N;rw[N,B7]
  rw[hE]at a;refine(z19 (L:=L.filter λx=>!(qv4 B.grace x.2 now==0)) (bs.filter λy=>!(qv4 B.grace y.2.2 now==0)) ?_ (zo 5 [0,1,2] a rfl)).p1;rw[<-hp];unfold qx;rw[List.filter_map];rfl
 .obtain⟨y,H,rfl⟩:=Ar.1 R;dsimp only at C a⊢;have A:qe (bs.filter (qu2 B.grace now S)) y.1=A2 y.2:=q24 c H;have Z:∀z,qu2 B.grace now (S++[y.1]) z=(qu2 B.grace now S z&&!(decide (z.1=y.1)&&(qv4 B.grace z.2.2 now==0))):=by
   intro z;unfold qu2 qpc;rw[List.any_append];have e:decide (y.1=z.1)=decide (z.1=y.1):=by rw[Bool.eq_iff_iff];simp only[yJ];exact eq_comm
   simp only[List.any_cons,List.any_nil,Bool.or_false,e];cases (S.any λs=>decide (s=z.1))<;>cases decide (z.1=y.1)<;>cases (qv4 B.grace z.2.2 now==0)<;>rfl
  have V:bs.filter (qu2 B.grace now (S++[y.1]))=(bs.filter (qu2 B.grace now S)).filter λz=>!(decide (z.1=y.1)&&(qv4 B.grace z.2.2 now==0)):=by rw[List.filter_filter];exact An λz _=>by rw[Z z,Bool.and_comm]
  have o:∀(w w':Ac) (Q:List (ByteArray×Nat)) (G T:List Asn),Q.Sublist (qx (Ad (α:=Nat) (β:=LeD)) (bs.filter (qu2 B.grace now S)))->St W (qn2 Zs qc m f (qx (Ad (α:=Nat) (β:=LeD)) (bs.filter (qu2 B.grace now S))) S::G) w->St W (qn2 Zs qc m f Q (S++[y.1])::T) w'->qx9 m f w'<qx9 m f w:=λw w' Q G T t h h'=>by rw[qn2.left kS h,qn2.left kS h'];refine Nat.lt_of_le_of_lt (t.filter _).length_le (qla _ (λz _ r=>?_) R (by rw[Bool.not_eq_false',qnb];simp) (by rw[Az,<-Ah,qnb];exact C));rw[Az,<-Ah,qnb]at r⊢;exact λh=>r (List.mem_append_left _ h)
  have M:=qf5 ((aget_perm A).map λz:ByteArray×Nat×LeD=>qu z.2.1 z.2.2) a.p1;have g:St W (qu y.2.1 y.2.2::Row b 168 (bkV B m)::qn2 Zs qc m f (qx (Ad (α:=Nat) (β:=LeD)) (bs.filter (qu2 B.grace now S))) (S++[y.1])::qz ((qp (bs.filter (qu2 B.grace now S)) y.1).map λz=>qu z.2.1 z.2.2)::Row j 94 [qc b]::Row i 2 [Zi Zk now]::F) w:=zo 6 [0,3,2,1,4,5] M rfl;have k:∀K:Aa->Ac->Prop,K (Zt #[qc y.2.1,Zb A4]) w->Run Zp (Instr.lookup 166 (.map (A2 m)) (Zs y.1) A4) w K:=λK hK=>by refine qww kS uMl iPl zPl 2 g rfl y.1 A4 ?_;rw[q62,A];exact hK
  have h3:qb Zp 203 #[Zs y.1,qc y.2.1,qc j,qc i] w λv w'=>v=Zb (qv4 B.grace y.2.2 now==0)/\St W (qu y.2.1 y.2.2::Row b 168 (bkV B m)::qn2 Zs qc m f (qx (Ad (α:=Nat) (β:=LeD)) (bs.filter (qu2 B.grace now S))) (S++[y.1])::qz ((qp (bs.filter (qu2 B.grace now S)) y.1).map λz=>qu z.2.1 z.2.2)::Row j 94 [qc b]::Row i 2 [Zi Zk now]::F) w':=
   F203_of (LdP.n 4 g rfl rfl (z0q 5 g rfl rfl ((qhp k g).of λv w ⟨I,a⟩=>⟨_,_,I,rfl,a⟩)))
  refine zx (by kernel_rfl) (qb.of h3 λv U ⟨I,E⟩=>⟨_,I,za (λh=>?_) λh=>?_⟩)
  .have P:bs.filter (qu2 B.grace now (S++[y.1]))=qp (bs.filter (qu2 B.grace now S)) y.1:=by
    rw[V,qko c];refine An λz r=>?_;by_cases e:z.1=y.1
    .have:z.2=y.2:=by have q:=q24 c (show(z.1,z.2)∈bs.filter (qu2 B.grace now S)from r);rw[e,A]at q;exact(Au q).symm
     rw[this,h,Bb]
    .rw[yH e,B9]
   have p:St W (qn2 Zs qc m f (qx (Ad (α:=Nat) (β:=LeD)) (bs.filter (qu2 B.grace now S))) (S++[y.1])::qz ((qp (bs.filter (qu2 B.grace now S)) y.1).map λz=>qu z.2.1 z.2.2)::Row b 168 (bkV B m)::Row j 94 [qc b]::Row i 2 [Zi Zk now]::F) U:=zo 6 [2,3,1,4,5] E rfl;refine q6v kS uMl p y.1 λw3 d _=>?_;rw[qo7]at d;exact⟨⟨S++[y.1],by rw[P];exact d⟩,o _ _ _ _ _ ((q2a _ _).map _) n d⟩
  .have P:bs.filter (qu2 B.grace now (S++[y.1]))=bs.filter (qu2 B.grace now S):=by
    rw[V];refine Ak.2 λz r=>?_;by_cases e:z.1=y.1
    .have:z.2=y.2:=by have q:=q24 c (show(z.1,z.2)∈bs.filter (qu2 B.grace now S)from r);rw[e,A]at q;exact(Au q).symm
     rw[this,h,B7];rfl
    .rw[yH e,B9];rfl
   have p:St W (qu y.2.1 y.2.2::qz ((qp (bs.filter (qu2 B.grace now S)) y.1).map λz=>qu z.2.1 z.2.2)::qn2 Zs qc m f (qx (Ad (α:=Nat) (β:=LeD)) (bs.filter (qu2 B.grace now S))) (S++[y.1])::Row b 168 (bkV B m)::Row j 94 [qc b]::Row i 2 [Zi Zk now]::F) U:=zo 6 [0,3,2,1,4,5] E rfl;have d:=(q95 ((aget_perm A).map λz:ByteArray×Nat×LeD=>qu z.2.1 z.2.2).symm p).p1;exact⟨⟨S++[y.1],by rw[P];exact d⟩,o _ _ _ _ _ (List.Sublist.refl _) n d⟩
def qqp(a:St W (q41 b B::F) w):qb Zp 128 #[qc b,Zi Zk now] w λv w'=>∃p c,v=Zl p (qm7 B now).2.length c/\(qm7 B now).2.length<=64/\St W (SlA 55 6 leV p c (qm7 B now).2::q41 b (qm7 B now).1::F) w':=by
 unfold qm7;refine F128_of (zh a λi w a=>zh a λk w a=>z0q 0 a rfl rfl ((q57 now a).of λv w ⟨f,a⟩=>⟨_,f,za (λh=>?_) λh=>?_⟩))
 .rw[yB (by simpa using h)];exact⟨Aq,0,rfl,by simp,z0a (zo 3 [2] a rfl)⟩
 rw[yA (by simpa using h)];have a:St W (q41 b B::Row i 94 [qc b]::Row k 2 [Zi Zk now]::F) w:=zo 3 [2,1,0] a rfl;obtain⟨m,y,a⟩:=z13 a;refine LdP.n 2 a rfl rfl ((qef (qad now) (q9d B.grace) y (λd q o l n w K a g=>?_) (λd q o l n w K a g=>?_) a).of λv w ⟨p,c,f,j,u,a⟩=>⟨_,_,_,f,?_⟩)
 .have e:=z6 W (Row q 55 (leV d)::Row b 168 (bkV B m)::o::l::n::Row i 94 [qc b]::Row k 2 [Zi Zk now]::F);unfold qad at g;have s:qb Zp 199 #[qc q,qc k] w K:=by
   refine F199_of ⟨StC W _,zd a,z7 ⟨_,z0s 0 e rfl rfl,za (λh=>z7 ⟨_,zj 0 e rfl rfl,_,z03 6 e rfl rfl,λG w t=>?_⟩) λh G w t=>?_⟩⟩;.have:=g w (zb t);rw[h]at this;exact this
   .have:=g w (zb t);rw[h]at this;exact this
  exact zx (by kernel_rfl) s
 .have e:=z6 W (Row q 55 (leV d)::Row b 168 (bkV B m)::o::l::n::Row i 94 [qc b]::Row k 2 [Zi Zk now]::F);have s:qb Zp 200 #[qc q,qc i] w K:=by refine F200_of ⟨StC W _,zd a,z7 ⟨_,zj 0 e rfl rfl,_,z00 5 e rfl rfl,z7 ⟨_,zj 1 e rfl rfl,zn (α:=Unit) (V:=λ_=>Zt #[]) (B:=λ_=>qu q (q9d B.grace d)::Row b 168 (bkV B m)::o::l::n::Row i 94 [qc b]::Row k 2 [Zi Zk now]::F) () e (λG w h=>(q6f h).of λv w' ⟨f,h⟩=>⟨f,(),rfl,h⟩) λ_=>⟨rfl,trivial,λG w h=>g w (zb h)⟩⟩⟩⟩
  exact zx (by kernel_rfl) s
 have r:=yE Am u;rw[A1,A1]at r;refine LdP.n 3 a rfl rfl (z7 (zv 1 a rfl rfl ?_));have a:=zo 5 [1,2,3,4,0] a rfl;refine(qmt a).of λv w ⟨f,a⟩=>⟨f,p,c,rfl,j,?_⟩;exact(z0t (B:={ B with L:=(qk4 (qad now) (q9d B.grace) B.L).1.filter λx=>!(qv4 B.grace x.2 now==0)}) m (As (List.length_filter_le _ _) (by omega)) a).p1
end
end
section
structure qac where
 vis:Int
 name:ByteArray
 ten:ByteArray
 epoch:Int
structure TkD where
 p:qac
 text:ByteArray
def q12(d:qac):List Aa:=[Zi Zk d.vis,Zs d.name,Zs d.ten,Zi Zk d.epoch]
def tkV(d:TkD):List Aa:=[Zi Zk d.p.vis,Zs d.p.name,Zs d.p.ten,Zi Zk d.p.epoch,Zs d.text]
def qmf(d:TkD):(tkV d).length=5:=rfl
def qvz(d:TkD):∀v∈tkV d,qn1 v:=λv h=>by simp only[tkV,A9,Ag,yK]at h;rcases h with rfl|rfl|rfl|rfl|rfl<;>trivial
def q3j:Zp.underlying 173=A2 (.slice 346):=Tryz.underlying173
def iTk:Zp.info? 346=A2 Tryz.t346:=by kernel_rfl
def sTk:Tryz.t346.size=5:=rfl
def bTk:Tryz.t346.bytes<=1000:=by decide+kernel
def zTk:∃z,Tryz.t346.zero=A2 z/\z.cells=#[Zi Zk 0,Zs ⟨#[]⟩,Zs ⟨#[]⟩,Zi Zk 0,Zs ⟨#[]⟩]:=⟨_,rfl,rfl⟩
def qnk{W w:Ac}{F:List Asn}{p:Option B1}{c:Nat}{xs:List TkD}{r:Aa}(g:TkD->Bool)(u:Rd F p (xs.flatMap tkV))(B:xs.length<=9223372036854775807)
 (s:∀(x:TkD),x∈xs->∀(w:Ac) (K:Aa->Ac->Prop),St W F w->(∀w',St W F w'->K (Zb (g x)) w')->q01 Zp 4 r [Zg (tkV x).toArray] w K) (d:St W F w):
 qb Zp 283 #[Zl p xs.length c,r] w λv w'=>v=Zi Zk (qt4 g xs)/\St W F w':=by
 refine F283_of ⟨λvs w=>∃i:Nat,vs=[Zi Zk i]/\i<=xs.length/\(∀j y,j<i->xs[j]?=A2 y->g y=A5)/\St W F w,leftN xs.length,⟨0,rfl,by omega,λj y h=>by omega,d⟩,λx w t=>?_⟩;obtain⟨i,A,D,q,d⟩:=t;cases A;refine za (λb=>?_) λm=>?_
 .have b:i<xs.length:=by have:=yC b;omega
  have k:xs[i]?=A2 (xs[i]'b):=A0 _;generalize xs[i]'b=y at k;refine z0j (f:=tkV) (size:=5) (λ_=>rfl) (by omega) u d rfl b k λa l=>⟨_,l 0 _ rfl,⟨_,l 1 _ rfl,⟨_,l 2 _ rfl,⟨_,l 3 _ rfl,⟨_,l 4 _ rfl,s y (Av k) w _ d λw' d=>⟨_,rfl,?_⟩⟩⟩⟩⟩⟩;cases hy:g y with
  |true=>exact⟨by rw[qs8 k hy q],d⟩
  |false=>
   rw[up b B];exact⟨⟨i+1,rfl,by omega,λj z C n=>by
    by_cases e:j=i;.subst e;rw[k]at n;cases n;exact hy
    .exact q j z (by omega) n,d⟩,by show xs.length -(i+1)<xs.length - i;omega⟩
 have o:i=xs.length:=by have:=yD m;omega
 subst o;exact⟨by rw[qq8 λj y h=>q j y (A8.1 h).1 h],d⟩
def qco{p:Option B1}{n c i:Nat}(g:i<n)(e:n<=c)(w:Ac):Sem.run Zp (Instr.sliceAt 173 (Zl p n c) (A2 (Zi Zk (i:Int))) (A2 (Zi Zk ((i+1:Nat):Int))) (A2 (Zi Zk (n:Int)))) w=.ok (.slice (if n=i then p else p.map (·.add (i*5))) 1 (n - i)) w:=by
 have f:¬((n:Int)<0):=by omega
 have d:i+1<=n:=by omega
 have b:((i:Int)+1)<=(n:Int):=by omega
 have a:(0:Int)<=(i:Int)+1:=by omega
 have h:(i:Int)<=(i:Int)+1:=by omega
 simp[Instr.sliceAt,run_underlying q3j,Instr.slice,Instr.sliceBounds,Instr.sliceBound,asIntOf,sizeOf,typeInfo,iTk,sTk,Result.andThen,e,d,b,a,h];done
def q5r(os:List TkD)(i:Nat):(os.eraseIdx i).flatMap tkV=(os.take i).flatMap tkV++(os.drop (i+1)).flatMap tkV:=by rw[List.eraseIdx_eq_take_drop_succ,Ax]
section
variable{W w:World}{F:List Asn}{p:Option Addr}{c:Nat}{os:List TkD}
def q9m{i:Nat}(Q:i<os.length)(Y:os.length<=1000)(E:St W (SlA 346 5 tkV p c os::F) w):qb Zp 227 #[Zl p os.length c,Zi Zk (i:Int),Zi Zk ((i+1:Nat):Int)] w λv w'=>v=Zl p (os.eraseIdx i).length c/\St W (SlA 346 5 tkV p c (os.eraseIdx i)::F) w':=by
 have M:os.length<=c:=SlA.le E;obtain⟨q,all,L,r,I,hR⟩:=qi.opened (by omega) E;clear E;subst L;refine F227_of ⟨_,qco Q M,_,_,_,rfl,zl ?_ ?_⟩;.simp;omega
 have hC:=z6 W (Row q 346 all::F);have u:(os.eraseIdx i).length=os.length - 1:=A6 Q;refine⟨StC W _,zd hR,⟨by omega,by omega,by omega⟩,⟨by omega,by omega,by omega⟩,?_⟩;rw[yA (by show ¬c=0;omega)];have d:((os.drop (i+1)).flatMap tkV).length=(os.length -(i+1))*5:=by rw[qh3 tkV 5 qmf,List.length_drop]
 have hfl:(os.flatMap tkV).length=os.length*5:=qh3 tkV 5 qmf os;have l:((os.take i).flatMap tkV).length=i*5:=by rw[qh3 tkV 5 qmf,List.length_take,B6 (by omega)]
 have a:os.flatMap tkV=(os.take i).flatMap tkV++(tkV os[i]++(os.drop (i+1)).flatMap tkV):=by rw[<-List.flatMap_cons,<-Ax];congr 1;rw[<-List.drop_eq_getElem_cons Q,List.take_append_drop]
 have y:∀(G:List (Nat×Obj)) (w:Ac) (K:Aa->Ac->Prop),St W (Row q 346 all::(F++pts G)) w->(∀w',St W (Row q 346 (qm1 all (i*5) ((os.drop (i+1)).flatMap tkV))::(F++pts G)) w'->K (.slice (A2 ⟨q,0,Aq⟩) (os.length - 1) c) w')->Run Zp (Builtin.append_ #[173,173] 173 #[.slice ((A2 ⟨q,0,Aq⟩:Option B1).map (·.add (A3 0*5))) (A3 (i:Int) - A3 0) (c - A3 0),.slice (if c=A3 ((i+1:Nat):Int)then A2 ⟨q,0,Aq⟩else(A2 ⟨q,0,Aq⟩:Option B1).map (·.add (A3 ((i+1:Nat):Int)*5))) (A3 (os.length:Int) - A3 ((i+1:Nat):Int)) (c - A3 ((i+1:Nat):Int))]) w K:=λG w K h hK=>by
  simp only[Ae,Int.toNat_zero,Nat.zero_mul,Bc,Ai,qi1,Af];obtain⟨w',N,g⟩:=qu4 (P:=Zp) (o:=i*5) ((os.drop (i+1)).flatMap tkV) 0 all w h (by rw[r,d];omega) (λv C=>by obtain⟨x,_,hx⟩:=List.mem_flatMap.1 C;exact qvz x v hx)
  rw[Bd,qo8 _ _ _ (by rw[r,d];omega)]at g;have O:(Builtin.firstCells 5 (os.length -(i+1)) (.slice (if c=i+1 then A2 ⟨q,0,Aq⟩else A2 ⟨q,(i+1)*5,Aq⟩) (os.length -(i+1)) (c -(i+1)))).run Zp w=.ok ((os.drop (i+1)).flatMap tkV).toArray w:=by
   refine qw3 (λj v hj=>?_) d (λL=>by split at L<;>cases L);have h3:=(A8.1 hj).1;rw[d]at h3;rw[yA (by intro hc;omega)];refine⟨_,rfl,?_⟩;rw[qi1];have D:all[(i+1)*5+j]?=A2 v:=by
    have J:(all.take (os.length*5))[(i+1)*5+j]?=A2 v:=by rw[I,a,A7 (by rw[l];omega),l,A7 (by rw[qmf];omega),qmf];rw[show(i+1)*5+j - i*5 - 5=j by omega];exact hj
    rw[Ay,yB (by omega)]at J;exact J
   exact h.ld D
  refine⟨_,w',q84 (e:=346) (size:=5) (m:=os.length -(i+1)) q3j (.inr ⟨_,q3j⟩) iTk sTk (by omega) (λs=>rfl) O (.inr ⟨_,rfl,by rw[qi1,Af];exact N⟩),?_⟩;rw[show i+(os.length -(i+1))=os.length - 1 by omega];exact hK w' g
 refine zn (α:=Unit) (V:=λ_=>.slice (A2 ⟨q,0,Aq⟩) (os.length - 1) c) (B:=λ_=>Row q 346 (qm1 all (i*5) ((os.drop (i+1)).flatMap tkV))::F) () hC (λG w h=>y G w _ (by exact h) λw' h=>⟨_,_,_,rfl,(),rfl,h⟩) λ_=>⟨_,_,_,rfl,trivial,λG w h=>?_⟩;have E:=zb h;refine⟨⟨by omega,by omega,by omega⟩,?_⟩;rw[yA (by show ¬c=A3 ((os.length - 1:Nat):Int);omega)];simp only[Ae,Ai,qi1,Af];rw[show os.length -(os.length - 1)=1 by omega];obtain⟨z,hz,H⟩:=zTk;obtain⟨zs,t⟩:∃zs,(Ao z.cells 1).toList=zs:=⟨_,rfl⟩;have f:zs.length=5:=by rw[<-t,Array.length_toList,qm5,H];rfl
 have R:∀v∈zs,qn1 v:=by
  rw[<-t,H];intro v C;have e:(Ao #[Zi Zk 0,Zs ⟨#[]⟩,Zs ⟨#[]⟩,Zi Zk 0,Zs ⟨#[]⟩] 1).toList=[Zi Zk 0,Zs ⟨#[]⟩,Zs ⟨#[]⟩,Zi Zk 0,Zs ⟨#[]⟩]:=by simp[Ao];rfl
  rw[e]at C;simp only[A9,Ag,yK]at C;rcases C with rfl|rfl|rfl|rfl|rfl<;>trivial
 have n:(qm1 all (i*5) ((os.drop (i+1)).flatMap tkV)).length=c*5:=by rw[q94 _ _ _ (by rw[r,d];omega),r]
 obtain⟨w',N,g⟩:=qu4 (P:=Zp) (o:=(os.length - 1)*5) zs 0 _ w E (by rw[n,f];omega) R;rw[Bd,qo8 _ _ _ (by rw[n,f];omega)]at g;have k:(Ba #[173] 0 #[.slice (A2 ⟨q,(os.length - 1)*5,Aq⟩) 1 (c -(os.length - 1))]).run Zp w=.ok (Zt #[]) w':=by simp[Ba,run_underlying q3j,zeroValue,typeInfo,iTk,hz,t,N]
 refine⟨_,w',k,by rw[u],?_⟩;refine z0v (q:=q) (all:=qm1 (qm1 all (i*5) ((os.drop (i+1)).flatMap tkV)) ((os.length - 1)*5) zs) (by rw[q94 _ _ _ (by rw[n,f];omega),n]) (by rw[u];omega) ?_ g;rw[u,q5r];have A:all.take (i*5)=(os.take i).flatMap tkV:=by
  have J:(all.take (os.length*5)).take (i*5)=all.take (i*5):=by rw[List.take_take,B6 (by omega)]
  rw[<-J,I,a,Aj l]
 have U:(os.length - 1)*5=i*5+(os.length -(i+1))*5:=by omega
 have h0:((os.take i).flatMap tkV++(os.drop (i+1)).flatMap tkV).length=(os.length - 1)*5:=by rw[List.length_append,l,d,U]
 have e1:∀(X Z zs T:List Aa) (b:Nat),X.length=b->((X++Z).take b++zs++T).take b=X:=by intro X Z zs T b Y;rw[Aj Y,List.append_assoc,Aj Y]
 unfold qm1;rw[A];exact e1 _ _ _ _ _ h0
end
end
section
structure TkB where
 key:List UInt8
 serial:Int
 good:List TkD
def tbV(T:TkB)(h:Option B1)(w:Nat)(p:Option B1)(c:Nat):List Aa:=[Zl h T.key.length w,Zi Zk T.serial,Zl p T.good.length c]
def q03(b:Nat)(T:TkB):Asn:=exA λx:Option B1×Nat×Option B1×Nat=>qz [prA (T.good.length<=64/\T.key.length<=1000),Row b 175 (tbV T x.1 x.2.1 x.2.2.1 x.2.2.2),SlA 346 5 tkV x.2.2.1 x.2.2.2 T.good,qi 5 1 x.1 T.key.length x.2.1 (T.key.map qd)]
def zeP:qac:=⟨0,⟨#[]⟩,⟨#[]⟩,0⟩
def qbx(n:Int):List UInt8:=if 0<=n/\n<10 then [UInt8.ofNat (48+n.toNat)]else qp7 n
def qqx(n:Int):qbx n=qp7 n:=by
 unfold qbx;split
 .rename_i h;have a:∀k:Fin 10,[UInt8.ofNat (48+k.val)]=Lib.itoa (k.val:Int):=by decide+kernel
  have w:=a ⟨n.toNat,by omega⟩;simp only[Int.toNat_of_nonneg h.1]at w;unfold qp7;rw[yA (by omega),yA (by omega),w]
 .rfl
def q7w(n:Int):(qp7 n).length<=21:=by
 unfold qp7;split;.simp
 .split;.simp
  .exact Lib.itoa_length_le n (by omega) (by omega)
def qd7(s:ByteArray):ByteArray:=s.extract 0 (A3 (if 255<(s.size:Int)then 255 else(s.size:Int)))
def qdq(s:ByteArray):(qm (qd7 s)).length<=255:=by
 have:(qm (qd7 s)).length=(qd7 s).size:=by simp[qm]
 rw[this];unfold qd7;rw[ByteArray.size_extract];split<;>omega
def qei(key:List UInt8)(serial:Int)(drawn:ByteArray):ByteArray:=(mkS (q07 key [qbx serial,qm (qd7 drawn)])).extract 0 32
def ofT(T:TkB)(vis:Int):Int:=qt4 (λt:TkD=>t.p.vis==vis) T.good
def q5l(T:TkB)(vis:Int):TkB×Bool:=if ofT T vis>=0 then({ T with good:=T.good.eraseIdx (ofT T vis).toNat},A4)else(T,A5)
def qca(T:TkB)(p:qac)(drawn:ByteArray):TkB×ByteArray×Int:=
 if ofT T p.vis>=0 then(T,⟨#[]⟩,4)else if T.good.length=64 then(T,⟨#[]⟩,2)else
 ({ T with serial:=Zw Zk (T.serial+1),good:=T.good++[⟨p,qei T.key (Zw Zk (T.serial+1)) drawn⟩]},qei T.key (Zw Zk (T.serial+1)) drawn,0)
def qw7(T:TkB)(text ten:ByteArray):TkB×qac×Int:=
 match T.good[(qt4 (λt:TkD=>decide (t.text=text)) T.good).toNat]? with
 |none=>(T,zeP,151)
 |some t=>if qt4 (λt:TkD=>decide (t.text=text)) T.good<0 then(T,zeP,151)else if t.p.ten≠ten then(T,zeP,131)else({ T with good:=T.good.eraseIdx (qt4 (λt:TkD=>decide (t.text=text)) T.good).toNat},t.p,0)
section
variable{W w:World}{F:List Asn}{b:Nat}{T:TkB}{vis:Int}
def q03.open_(h:St W (q03 b T::F) w):∃a d p c,(T.good.length<=64/\T.key.length<=1000)/\St W (Row b 175 (tbV T a d p c)::SlA 346 5 tkV p c T.good::qi 5 1 a T.key.length d (T.key.map qd)::F) w:=by obtain⟨⟨a,d,p,c⟩,h⟩:=h.of_ex;obtain⟨e,h⟩:=h.of_sep.of_pr;exact⟨a,d,p,c,e,h⟩
def q03.shut(a:Option B1)(d:Nat)(p:Option B1)(c:Nat)(e:T.good.length<=64/\T.key.length<=1000)(h:St W (Row b 175 (tbV T a d p c)::SlA 346 5 tkV p c T.good::qi 5 1 a T.key.length d (T.key.map qd)::F) w):St W (q03 b T::F) w:=
 z01 (a,d,p,c) (zk (l:=[_,_,_,_]) (z02 e h))
def q5t(key:List UInt8)(d:key.length<=1000)(a:St W F w):qb Zp 40 #[Zs (mkS key)] w λv w'=>∃b,v=qc b/\St W (q03 b ⟨key,0,[]⟩::F) w':=by refine F40_of (qcb uS uB uU8 a λq c w f a=>⟨_,_,_,rfl,zh a λb w a=>⟨b,rfl,q03.shut (A2 ⟨q,0,Aq⟩) c Aq 0 ⟨by simp,d⟩ ?_⟩⟩);have a:St W (Row q 5 (key.map qd++List.replicate (c - key.length) (Zi .u8 0))::Row b 175 (tbV ⟨key,0,[]⟩ (A2 ⟨q,0,Aq⟩) c Aq 0)::F) w:=a.p1;have e:=z0v (t:=5) (size:=1) (n:=key.length) (c:=c) (cs:=key.map qd) (by simp;omega) f (by rw[Nat.mul_one];exact Aj (by simp)) a;exact zf 0 1 (z0a (zf 0 1 e rfl)) rfl |> λh=>h
def qcw{x:TkD}{q:Nat}{G:List Asn}{K:Aa->Ac->Prop}(h:St W (Row q 3 [Zi Zk vis]::G) w)(c:∀w',St W (Row q 3 [Zi Zk vis]::G) w'->K (Zb (x.p.vis==vis)) w'):q01 Zp 4 (.func (.func 284) #[] #[Zq (A2 ⟨q,0,Aq⟩)]) [Zg (tkV x).toArray] w K:=by
 have a:qb Zp 284 #[Zg #[Zi Zk x.p.vis,Zs x.p.name,Zs x.p.ten,Zi Zk x.p.epoch,Zs x.text],Zq (A2 ⟨q,0,Aq⟩)] w K:=
  F284_of (zh h λb w h=>z8 0 h rfl rfl (z0q 1 h rfl rfl (c w h.drop)))
 exact zx (by kernel_rfl) a
def qzv{x:TkD}{q:Nat}{s:ByteArray}{G:List Asn}{K:Aa->Ac->Prop}(h:St W (Row q 9 [Zs s]::G) w)(c:∀w',St W (Row q 9 [Zs s]::G) w'->K (Zb (decide (x.text=s))) w'):q01 Zp 4 (.func (.func 389) #[] #[Zq (A2 ⟨q,0,Aq⟩)]) [Zg (tkV x).toArray] w K:=by
 have a:qb Zp 389 #[Zg #[Zi Zk x.p.vis,Zs x.p.name,Zs x.p.ten,Zi Zk x.p.epoch,Zs x.text],Zq (A2 ⟨q,0,Aq⟩)] w K:=
  F389_of (zh h λb w h=>zg 0 h rfl rfl (LdS.n 1 h rfl rfl (by rw[qrc];exact c w h.drop)))
 exact zx (by kernel_rfl) a
def qan(h:St W (q03 b T::F) w):qb Zp 226 #[qc b,Zi Zk vis] w λv w'=>v=Zi Zk (ofT T vis)/\St W (q03 b T::F) w':=by obtain⟨f,a,p,c,g,h⟩:=q03.open_ h;refine F226_of (zh h λi w h=>z7 (zt 1 h rfl rfl ?_));exact(qnk (λt=>t.p.vis==vis) (z07 2 rfl λF=>z0l F) (by omega) (λx _ w K h e=>qcw h e) h).of λv w ⟨d,h⟩=>⟨_,d,rfl,q03.shut f a p c g h.drop⟩
def qfx{α:Type}{g:α->Bool}{xs:List α}(h:qt4 g xs>=0):∃i:Nat,qt4 g xs=(i:Int)/\i<xs.length/\∃x,xs[i]?=A2 x/\g x=A4:=by
 rcases q0j (g:=g) (xs:=xs)with ⟨a,_⟩|⟨i,x,a,w,b⟩
 .omega
 .exact⟨i,a,(A8.1 w).1,x,w,List.find?_some b⟩
def qcs(a:St W (q03 b T::F) w):qb Zp 150 #[qc b,Zi Zk vis] w λv w'=>v=Zb (q5l T vis).2/\St W (q03 b (q5l T vis).1::F) w':=by
 unfold q5l;refine F150_of ((qan a).of λv w ⟨f,a⟩=>⟨_,f,za (λh=>z7 ?_) λh=>?_⟩)
 .have e:=yC h;rw[yB e,h];obtain⟨i,g,d,_⟩:=qfx e;have g:ofT T vis=(i:Int):=g;rw[g,Ae];obtain⟨k,j,p,c,l,a⟩:=q03.open_ a;have m:Zw Zk ((i:Int)+1)=((i+1:Nat):Int):=by rw[w64];omega
  rw[m];refine zt 0 a rfl rfl ((q9m d (by omega) (zf 1 0 a rfl)).of λv w ⟨f,a⟩=>⟨_,_,_,f,z7 (St1.zz 1 a rfl λw a=>⟨rfl,q03.shut (T:={ T with good:=T.good.eraseIdx i}) k j p c ⟨?_,l.2⟩ (St.p1 a)⟩)⟩);show(T.good.eraseIdx i).length<=64;rw[A6 d];omega
 .have e:=yD h;rw[yA e,h];exact⟨rfl,a⟩
def qjq{key:List UInt8}{ws:List (List UInt8)}(h:qib ws=A4):(q07 key ws).length=64:=by unfold q07;rw[yB h,qyb,qke]
def q1q{p:qac}{drawn:ByteArray}(J:qc4 F)(d:St W (q03 b T::F) w):qb Zp 352 #[qc b,Zg (q12 p).toArray,Zs drawn] w λv w'=>v=Zt #[Zs (qca T p drawn).2.1,Zi Zk (qca T p drawn).2.2]/\St W (q03 b (qca T p drawn).1::F) w':=by
 unfold qca;refine F352_of (zh d λj w d=>z8 0 d rfl rfl ?_);have d:St W (q03 b T::Row j 344 (q12 p)::F) w:=d.p1;refine(qan d).of λv w ⟨r,d⟩=>⟨_,r,za (λh=>?_) λh=>?_⟩;.rw[yB (yC h)];exact⟨rfl,d.p1.drop⟩
 rw[yA (yD h)];obtain⟨e,f,q,c,H,d⟩:=q03.open_ d;refine z7 (zt 0 d rfl rfl (za (λt=>?_) λt=>?_))
 .have t:(T.good.length:Int)=64:=by simpa using t
  rw[yB (show T.good.length=64 by omega)];exact⟨rfl,q03.shut e f q c H (zo 4 [0,1,2] d rfl)⟩
 have t:¬(T.good.length:Int)=64:=by simpa using t
 rw[yA (show ¬T.good.length=64 by omega)];refine z7 (z8 0 d rfl rfl (z7 (St1.zz 0 d rfl λw d=>?_)));obtain⟨a,l⟩:∃a,Zw Zk (T.serial+1)=a:=⟨_,rfl⟩;rw[l];have d:St W (Row b 175 (tbV { T with serial:=Zw Zk (T.serial+1)} e f q c)::SlA 346 5 tkV q c T.good::qi 5 1 e T.key.length f (T.key.map qd)::Row j 344 (q12 p)::F) w:=d;rw[l]at d;have g:=z6 W (Row b 175 (tbV { T with serial:=a} e f q c)::SlA 346 5 tkV q c T.good::qi 5 1 e T.key.length f (T.key.map qd)::Row j 344 (q12 p)::F);refine⟨StC W _,zd d,z7 (z7 ⟨⟨by omega,by split<;>omega,by split<;>omega⟩,_,_,_,QtL.a 0 g rfl rfl,_,zj 0 g rfl rfl,?_⟩)⟩;have u:drawn.extract (A3 0) (A3 (if 255<(drawn.size:Int)then 255 else(drawn.size:Int)))=mkS (qm (qd7 drawn)):=by unfold qm;rw[qd5];rfl
 rw[u];have y:qib [qp7 a,qm (qd7 drawn)]=A4:=qxh λs E=>by
  simp only[A9,Ag,yK]at E;rcases E with rfl|rfl;.exact As (q7w a) (by omega)
  .exact qdq drawn
 refine zn (α:=Unit) (V:=λ_=>Zs (mkS (qp7 a))) (B:=λ_=>Row b 175 (tbV { T with serial:=a} e f q c)::SlA 346 5 tkV q c T.good::qi 5 1 e T.key.length f (T.key.map qd)::Row j 344 (q12 p)::F) () g (λG w h=>(qwb a (((((J.cons _).cons _).cons _).cons _).app _) h).of λv w' ⟨r,h⟩=>⟨_,r,(),rfl,h⟩) λ_=>⟨_,rfl,QtL.a 0 ir rfl rfl,λo=>?_⟩;refine zn (α:=Unit) (V:=λ_=>Zs (mkS (q07 T.key [qp7 a,qm (qd7 drawn)]))) (B:=λ_=>Row b 175 (tbV { T with serial:=a} e f q c)::SlA 346 5 tkV q c T.good::qi 5 1 e T.key.length f (T.key.map qd)::Row j 344 (q12 p)::F) () (ir.push o _) (λG w h=>?_) λ_=>⟨_,rfl,trivial,?_⟩
 .have h:St W (Pt o (.cells #[Zs (mkS (qp7 a)),Zs (mkS (qm (qd7 drawn)))] 9)::Row b 175 (tbV { T with serial:=a} e f q c)::SlA 346 5 tkV q c T.good::qi 5 1 e T.key.length f (T.key.map qd)::Row j 344 (q12 p)::(F++pts G)) w:=h;have h:=h.imp z0d;exact(qqe (k:=T.key) (ws:=[qp7 a,qm (qd7 drawn)]) (z07 3 rfl λF=>z0i F) (by have:=(qi.le (zf 3 0 h rfl)).2;exact this) (by omega) (z07 0 rfl λF=>z0k) (by simp) h).of λv w' ⟨r,h⟩=>⟨_,r,(),rfl,h.drop⟩
 have A:=qjq (key:=T.key) y;have D:(mkS (q07 T.key [qp7 a,qm (qd7 drawn)])).extract (A3 0) (A3 32)=qei T.key a drawn:=by unfold qei;rw[qqx];rfl
 refine⟨⟨by omega,by omega,by rw[qf1,A];omega⟩,?_⟩;rw[D];generalize qei T.key a drawn=n;intro G w h;have d:=zb h;have g:=z6 W (Row b 175 (tbV { T with serial:=a} e f q c)::SlA 346 5 tkV q c T.good::qi 5 1 e T.key.length f (T.key.map qd)::Row j 344 (q12 p)::F);refine⟨StC W _,zd d,z7 ⟨_,_,_,QtL.a 0 g rfl rfl,_,_,_,_,λG w h=>z8 3 ((g G w).1 h) rfl rfl (zg 3 ((g G w).1 h) rfl rfl (zg 3 ((g G w).1 h) rfl rfl (z8 3 ((g G w).1 h) rfl rfl ⟨rfl,h⟩))),λm=>?_⟩⟩;refine zn (α:=Option B1×Nat) (V:=λx=>.slice x.1 (T.good++[TkD.mk p n]).length x.2) (B:=λx=>SlA 346 5 tkV x.1 x.2 (T.good++[TkD.mk p n])::Row b 175 (tbV { T with serial:=a} e f q c)::qi 5 1 e T.key.length f (T.key.map qd)::F) (Aq,0) (ir.push m _) (λG w h=>?_) λx=>⟨_,_,_,rfl,trivial,z7 (z0o 1 ir rfl (by simp[tbV]) ⟨rfl,trivial,λG w h=>⟨rfl,?_⟩⟩)⟩
 .have h:St W (Pt m (.cells (tkV ⟨p,n⟩).toArray 346)::Row b 175 (tbV { T with serial:=a} e f q c)::SlA 346 5 tkV q c T.good::qi 5 1 e T.key.length f (T.key.map qd)::Row j 344 (q12 p)::(F++pts G)) w:=h;have h:St W (Row m 346 (tkV ⟨p,n⟩)::Row b 175 (tbV { T with serial:=a} e f q c)::SlA 346 5 tkV q c T.good::qi 5 1 e T.key.length f (T.key.map qd)::Row j 344 (q12 p)::(F++pts G)) w:=h.imp z0d;obtain⟨z,I,C⟩:=zTk;refine qf3 (os:=T.good) (xs:=[TkD.mk p n]) qmf q3j (.inr ⟨_,q3j⟩) iTk sTk I (by rw[C];rfl) 2 h rfl (z0x 0 λi v h=>by simpa using h) rfl qvz (by have:=bTk;simp only[B2,B5];exact As (Aw _ this) (by omega)) (by simp;omega) λK L w h=>⟨_,_,_,rfl,(K,L),rfl,?_⟩;exact zo 5 [2,1,3] h rfl
 .exact q03.shut (T:={ T with serial:=a,good:=T.good++[TkD.mk p n]}) e f x.1 x.2 ⟨by simp;omega,H.2⟩ (zo 3 [1,0,2] (zb h) rfl)
def quu{text ten:ByteArray}(h:qt4 (λt:TkD=>decide (t.text=text)) T.good<0):qw7 T text ten=(T,zeP,151):=by
 unfold qw7;split;.rfl
 .rw[yB h]
def qgu{text ten:ByteArray}{i:Nat}{x:TkD}(h:qt4 (λt:TkD=>decide (t.text=text)) T.good=(i:Int))(w:T.good[i]?=A2 x):qw7 T text ten=if x.p.ten≠ten then(T,zeP,131)else({ T with good:=T.good.eraseIdx i},x.p,0):=by unfold qw7;rw[h,Ae,w];dsimp only;rw[yA (by omega)]
def q3o{text ten:ByteArray}(d:St W (q03 b T::F) w):qb Zp 361 #[qc b,Zs text,Zs ten] w λv w'=>v=Zt #[Zg (q12 (qw7 T text ten).2.1).toArray,Zi Zk (qw7 T text ten).2.2]/\St W (q03 b (qw7 T text ten).1::F) w':=by
 refine F361_of (zh d λp w d=>zh d λn w d=>z7 ?_);have d:St W (q03 b T::Row p 9 [Zs text]::Row n 344 (q12 zeP)::F) w:=zo 3 [2,1,0] d rfl;obtain⟨j,g,q,c,u,d⟩:=q03.open_ d;have d:St W (Row p 9 [Zs text]::Row b 175 (tbV T j g q c)::SlA 346 5 tkV q c T.good::qi 5 1 j T.key.length g (T.key.map qd)::Row n 344 (q12 zeP)::F) w:=zf 3 0 d rfl;refine zt 1 d rfl rfl ((qnk (λt=>decide (t.text=text)) (z07 2 rfl λF=>z0l F) (by omega) (λx _ w K d B=>qzv d B) d).of λv w ⟨r,d⟩=>⟨_,r,za (λh=>?_) λh=>?_⟩)
 .rw[quu (yC h)];refine St1.zz 4 d rfl λw d=>St1.zz 4 d rfl λw d=>St1.zz 4 d rfl λw d=>St1.zz 4 d rfl λw d=>?_;exact z8 4 d rfl rfl (zg 4 d rfl rfl (zg 4 d rfl rfl (z8 4 d rfl rfl (⟨rfl,q03.shut j g q c u (zo 5 [1,2,3] d rfl)⟩))))
 have C:=yD h;obtain⟨i,z,k,x,o,_⟩:=qfx (show qt4 (λt:TkD=>decide (t.text=text)) T.good>=0 by omega);rw[qgu z o,z];have m:Rd (Row p 9 [Zs text]::Row b 175 (tbV T j g q c)::SlA 346 5 tkV q c T.good::qi 5 1 j T.key.length g (T.key.map qd)::Row n 344 (q12 zeP)::F) q (T.good.flatMap tkV):=z07 2 rfl λF=>z0l F;have e:∀a:B1,Za a 0=a:=λa=>by cases a;rfl
 refine z7 (zt 1 d rfl rfl (z0j (f:=tkV) (size:=5) qmf (by omega) m d rfl k o λa l=>⟨_,by rw[e];exact l 2 _ rfl,?_⟩));dsimp only;rw[qrc];refine za (λs=>?_) λs=>?_
 .rw[yB (by simpa using s)];refine St1.zz 4 d rfl λw d=>St1.zz 4 d rfl λw d=>St1.zz 4 d rfl λw d=>St1.zz 4 d rfl λw d=>?_;exact z8 4 d rfl rfl (zg 4 d rfl rfl (zg 4 d rfl rfl (z8 4 d rfl rfl (⟨rfl,q03.shut j g q c u (zo 5 [1,2,3] d rfl)⟩))))
 rw[yA (by simpa using s)];refine z7 (zt 1 d rfl rfl (z0j (f:=tkV) (size:=5) qmf (by omega) m d rfl k o λa l=>⟨_,by rw[e];exact l 0 _ rfl,⟨_,by rw[e];exact l 1 _ rfl,⟨_,by rw[e];exact l 2 _ rfl,⟨_,by rw[e];exact l 3 _ rfl,?_⟩⟩⟩⟩));refine zh d λy w d=>?_;refine St1.zz 0 d rfl λw d=>St1.zz 0 d rfl λw d=>St1.zz 0 d rfl λw d=>St1.zz 0 d rfl λw d=>z7 (zt 2 d rfl rfl ?_);have A:Zw Zk ((i:Int)+1)=((i+1:Nat):Int):=by rw[w64];omega
 rw[A];refine(q9m k (by omega) (zf 3 0 d rfl)).of λv w ⟨r,d⟩=>⟨_,_,_,r,z7 (St1.zz 3 d rfl λw d=>?_)⟩;have d:St W (Row y 344 (q12 x.p)::Row n 344 (q12 zeP)::Row b 175 (tbV { T with good:=T.good.eraseIdx i} j g q c)::SlA 346 5 tkV q c (T.good.eraseIdx i)::qi 5 1 j T.key.length g (T.key.map qd)::F) w:=zo 6 [1,5,3,0,4] d rfl;refine z8 0 d rfl rfl (zg 0 d rfl rfl (zg 0 d rfl rfl (z8 0 d rfl rfl (?_))));refine St1.zz 1 d rfl λw d=>St1.zz 1 d rfl λw d=>St1.zz 1 d rfl λw d=>St1.zz 1 d rfl λw d=>?_;refine z8 1 d rfl rfl (zg 1 d rfl rfl (zg 1 d rfl rfl (z8 1 d rfl rfl (⟨rfl,q03.shut (T:={ T with good:=T.good.eraseIdx i}) j g q c ⟨?_,u.2⟩ (zo 5 [2,3,4] d rfl)⟩))));show(T.good.eraseIdx i).length<=64;rw[A6 k];omega
end
end
end Go.Proofs.YtfjifcfbmhpcaaaGreatDoor
section
namespace Go.Proofs
open Go.Shelf
def Tryz.sortPair_ren:Go.Shelf.Ren:=⟨λ|6=>86|15=>109|14=>152|28=>177|29=>178|20=>229|21=>230|22=>231|23=>232|24=>233|25=>234|26=>235|27=>236|46=>285|47=>254|48=>255|49=>286|50=>287|57=>324|n=>n,λ|22=>50|24=>122|25=>198|3=>3|39=>229|0=>0|53=>34|55=>291|4=>4|46=>284|45=>283|50=>264|5=>5|9=>9|66=>365|70=>369|76=>421|77=>422|n=>n,λ|n=>n⟩
def Tryz.sortPair:Go.Proofs.SlLaysF0.n6 Tryz.prog Tryz.sortPair_ren:={
 mixed:=by kernel_rfl
 f6:=⟨Tryz.f86.name,by decide,Tryz.func86.trans (congrArg some (by kernel_rfl))⟩
 f14:=⟨Tryz.f152.name,by decide,Tryz.func152.trans (congrArg some (by kernel_rfl))⟩
 f15:=Tryz.func109.trans (congrArg some (by kernel_rfl))
 f20:=⟨Tryz.f229.name,by decide,Tryz.func229.trans (congrArg some (by kernel_rfl))⟩
 f21:=⟨Tryz.f230.name,by decide,Tryz.func230.trans (congrArg some (by kernel_rfl))⟩
 f22:=⟨Tryz.f231.name,by decide,Tryz.func231.trans (congrArg some (by kernel_rfl))⟩
 f23:=⟨Tryz.f232.name,by decide,Tryz.func232.trans (congrArg some (by kernel_rfl))⟩
 f24:=⟨Tryz.f233.name,by decide,Tryz.func233.trans (congrArg some (by kernel_rfl))⟩
 f25:=⟨Tryz.f234.name,by decide,Tryz.func234.trans (congrArg some (by kernel_rfl))⟩
 f26:=⟨Tryz.f235.name,by decide,Tryz.func235.trans (congrArg some (by kernel_rfl))⟩
 f27:=⟨Tryz.f236.name,by decide,Tryz.func236.trans (congrArg some (by kernel_rfl))⟩
 f28:=Tryz.func177.trans (congrArg some (by kernel_rfl))
 f29:=Tryz.func178.trans (congrArg some (by kernel_rfl))
 f46:=⟨Tryz.f285.name,by decide,Tryz.func285.trans (congrArg some (by kernel_rfl))⟩
 f47:=Tryz.func254.trans (congrArg some (by kernel_rfl))
 f48:=Tryz.func255.trans (congrArg some (by kernel_rfl))
 f49:=⟨Tryz.f286.name,by decide,Tryz.func286.trans (congrArg some (by kernel_rfl))⟩
 f50:=⟨Tryz.f287.name,by decide,Tryz.func287.trans (congrArg some (by kernel_rfl))⟩
 f57:=⟨Tryz.f324.name,by decide,Tryz.func324.trans (congrArg some (by kernel_rfl))⟩
 t0:=Tryz.underlying0
 a0:=Tryz.isAgg0
 z0:=Tryz.sizeOf0
 v0:=Tryz.zeroValue0
 t3:=Tryz.underlying3
 a3:=Tryz.isAgg3
 z3:=Tryz.sizeOf3
 v3:=Tryz.zeroValue3
 t4:=Tryz.underlying4
 a4:=Tryz.isAgg4
 z4:=Tryz.sizeOf4
 v4:=Tryz.zeroValue4
 t5:=Tryz.underlying5
 a5:=Tryz.isAgg5
 z5:=Tryz.sizeOf5
 v5:=Tryz.zeroValue5
 t9:=Tryz.underlying9
 a9:=Tryz.isAgg9
 z9:=Tryz.sizeOf9
 v9:=Tryz.zeroValue9
 t22:=Tryz.underlying50
 a22:=Tryz.isAgg50
 z22:=Tryz.sizeOf50
 v22:=Tryz.zeroValue50
 t25:=Tryz.underlying198
 a25:=Tryz.isAgg198
 z25:=Tryz.sizeOf198
 v25:=Tryz.zeroValue198
 t39:=Tryz.underlying229
 a39:=Tryz.isAgg229
 z39:=Tryz.sizeOf229
 v39:=Tryz.zeroValue229
 t45:=Tryz.underlying283
 a45:=Tryz.isAgg283
 z45:=Tryz.sizeOf283
 v45:=Tryz.zeroValue283
 t46:=Tryz.underlying284
 a46:=Tryz.isAgg284
 z46:=Tryz.sizeOf284
 v46:=Tryz.zeroValue284
 t50:=Tryz.underlying264
 a50:=Tryz.isAgg264
 z50:=Tryz.sizeOf264
 v50:=Tryz.zeroValue264
 t53:=Tryz.underlying34
 a53:=Tryz.isAgg34
 z53:=Tryz.sizeOf34
 v53:=Tryz.zeroValue34
 t55:=Tryz.underlying291
 a55:=Tryz.isAgg291
 z55:=Tryz.sizeOf291
 v55:=Tryz.zeroValue291
 t66:=Tryz.underlying365
 a66:=Tryz.isAgg365
 z66:=Tryz.sizeOf365
 v66:=Tryz.zeroValue365
 t70:=Tryz.underlying369
 a70:=Tryz.isAgg369
 z70:=Tryz.sizeOf369
 v70:=Tryz.zeroValue369
 t76:=Tryz.underlying421
 a76:=Tryz.isAgg421
 z76:=Tryz.sizeOf421
 v76:=Tryz.zeroValue421
 t77:=Tryz.underlying422
 a77:=Tryz.isAgg422
 z77:=Tryz.sizeOf422
 v77:=Tryz.zeroValue422}
def Tryz.sortLine_ren:Go.Shelf.Ren:=⟨λ|6=>162|15=>109|14=>243|28=>177|29=>178|20=>294|21=>295|22=>296|23=>297|24=>298|25=>299|26=>300|27=>301|46=>336|47=>254|48=>255|49=>337|50=>338|57=>369|n=>n,λ|22=>214|24=>75|25=>219|3=>3|39=>229|0=>0|53=>34|55=>291|4=>4|46=>284|45=>283|50=>264|5=>5|9=>9|66=>365|70=>369|76=>421|77=>422|n=>n,λ|n=>n⟩
def Tryz.sortLine:Go.Proofs.SlLaysF.n6 Tryz.prog Tryz.sortLine_ren:={
 mixed:=by kernel_rfl
 f6:=⟨Tryz.f162.name,by decide,Tryz.func162.trans (congrArg some (by kernel_rfl))⟩
 f14:=⟨Tryz.f243.name,by decide,Tryz.func243.trans (congrArg some (by kernel_rfl))⟩
 f15:=Tryz.func109.trans (congrArg some (by kernel_rfl))
 f20:=⟨Tryz.f294.name,by decide,Tryz.func294.trans (congrArg some (by kernel_rfl))⟩
 f21:=⟨Tryz.f295.name,by decide,Tryz.func295.trans (congrArg some (by kernel_rfl))⟩
 f22:=⟨Tryz.f296.name,by decide,Tryz.func296.trans (congrArg some (by kernel_rfl))⟩
 f23:=⟨Tryz.f297.name,by decide,Tryz.func297.trans (congrArg some (by kernel_rfl))⟩
 f24:=⟨Tryz.f298.name,by decide,Tryz.func298.trans (congrArg some (by kernel_rfl))⟩
 f25:=⟨Tryz.f299.name,by decide,Tryz.func299.trans (congrArg some (by kernel_rfl))⟩
 f26:=⟨Tryz.f300.name,by decide,Tryz.func300.trans (congrArg some (by kernel_rfl))⟩
 f27:=⟨Tryz.f301.name,by decide,Tryz.func301.trans (congrArg some (by kernel_rfl))⟩
 f28:=Tryz.func177.trans (congrArg some (by kernel_rfl))
 f29:=Tryz.func178.trans (congrArg some (by kernel_rfl))
 f46:=⟨Tryz.f336.name,by decide,Tryz.func336.trans (congrArg some (by kernel_rfl))⟩
 f47:=Tryz.func254.trans (congrArg some (by kernel_rfl))
 f48:=Tryz.func255.trans (congrArg some (by kernel_rfl))
 f49:=⟨Tryz.f337.name,by decide,Tryz.func337.trans (congrArg some (by kernel_rfl))⟩
 f50:=⟨Tryz.f338.name,by decide,Tryz.func338.trans (congrArg some (by kernel_rfl))⟩
 f57:=⟨Tryz.f369.name,by decide,Tryz.func369.trans (congrArg some (by kernel_rfl))⟩
 t0:=Tryz.underlying0
 a0:=Tryz.isAgg0
 z0:=Tryz.sizeOf0
 v0:=Tryz.zeroValue0
 t3:=Tryz.underlying3
 a3:=Tryz.isAgg3
 z3:=Tryz.sizeOf3
 v3:=Tryz.zeroValue3
 t4:=Tryz.underlying4
 a4:=Tryz.isAgg4
 z4:=Tryz.sizeOf4
 v4:=Tryz.zeroValue4
 t5:=Tryz.underlying5
 a5:=Tryz.isAgg5
 z5:=Tryz.sizeOf5
 v5:=Tryz.zeroValue5
 t9:=Tryz.underlying9
 a9:=Tryz.isAgg9
 z9:=Tryz.sizeOf9
 v9:=Tryz.zeroValue9
 t22:=Tryz.underlying214
 a22:=Tryz.isAgg214
 z22:=Tryz.sizeOf214
 v22:=Tryz.zeroValue214
 a24:=Tryz.isAgg75
 z24:=Tryz.sizeOf75
 t25:=Tryz.underlying219
 a25:=Tryz.isAgg219
 z25:=Tryz.sizeOf219
 v25:=Tryz.zeroValue219
 t39:=Tryz.underlying229
 a39:=Tryz.isAgg229
 z39:=Tryz.sizeOf229
 v39:=Tryz.zeroValue229
 t45:=Tryz.underlying283
 a45:=Tryz.isAgg283
 z45:=Tryz.sizeOf283
 v45:=Tryz.zeroValue283
 t46:=Tryz.underlying284
 a46:=Tryz.isAgg284
 z46:=Tryz.sizeOf284
 v46:=Tryz.zeroValue284
 t50:=Tryz.underlying264
 a50:=Tryz.isAgg264
 z50:=Tryz.sizeOf264
 v50:=Tryz.zeroValue264
 t53:=Tryz.underlying34
 a53:=Tryz.isAgg34
 z53:=Tryz.sizeOf34
 v53:=Tryz.zeroValue34
 t55:=Tryz.underlying291
 a55:=Tryz.isAgg291
 z55:=Tryz.sizeOf291
 v55:=Tryz.zeroValue291
 t66:=Tryz.underlying365
 a66:=Tryz.isAgg365
 z66:=Tryz.sizeOf365
 v66:=Tryz.zeroValue365
 t70:=Tryz.underlying369
 a70:=Tryz.isAgg369
 z70:=Tryz.sizeOf369
 v70:=Tryz.zeroValue369
 t76:=Tryz.underlying421
 a76:=Tryz.isAgg421
 z76:=Tryz.sizeOf421
 v76:=Tryz.zeroValue421
 t77:=Tryz.underlying422
 a77:=Tryz.isAgg422
 z77:=Tryz.sizeOf422
 v77:=Tryz.zeroValue422}
end Go.Proofs
end
namespace Go.Proofs.YtfjifcfbmhpcaaaGreatDoor
open Go
open Go.Proofs.Tryz renaming prog → Zp
open Go.IntKind renaming i64 → Zk, wrap → Zw
open Go.Addr renaming add → Za
open Go.Value renaming int → Zi, string → Zs, pointer → Zq, bool → Zb, tuple → Zt, slice → Zl, agg → Zg
open _root_.List renaming getElem?_eq_getElem->A0,length_map->A1,length_eraseIdx_of_lt->A6,getElem?_append_right->A7,getElem?_eq_some_iff->A8,mem_cons->A9,pairwise_cons->Ab,not_mem_nil->Ag,take_left'->Aj,filter_eq_self->Ak,length->Am,filter_congr->An,map_cons->Ap,mem_map->Ar,mem_of_getElem?->Av,flatMap_append->Ax,getElem?_take->Ay,size_toArray->B0,length_cons->B2,length_nil->B5
open _root_.Option renaming some->A2,map_some->Ai,none->Aq
open _root_.Int renaming toNat->A3,toNat_natCast->Ae
open _root_.Bool renaming true->A4,false->A5,not_eq_true->Ah,not_eq_true'->Az,or_eq_true->B4,and_false->B7,false_and->B9,and_true->Bb
open Go renaming Value->Aa,World->Ac,Addr->B1
open _root_.Prod renaming fst->Ad
open _root_.Nat renaming zero_add->Af,le_trans->As,mul_le_mul_left->Aw,le_refl->B3,min_eq_left->B6,sub_zero->Bc,add_zero->Bd,zero_le->Be
open Go.Builtin renaming zeroCells->Ao,clear_->Ba
open _root_.Option.some renaming inj->Au
section
section
variable{W w:World}{F:List Asn}{q:Nat}{t:TypeId}{all vs:List Value}
def St.putRow_id(h:St W (Row q t all::F) w)(g:vs.length<=all.length)(n:Nat)(os:Array Obj):St W (Row q t (vs++all.drop vs.length)::F) (Sort.grow (Sort.putRow id (Sort.ahead w n) q 0 vs.toArray) os):=by
 have f:St W (Row q t (vs++all.drop vs.length)::F) (Sort.putRow id (Sort.ahead w n) q 0 vs.toArray):=by
  refine St.turnRow (cs:=all) (w:=Sort.ahead w n) ⟨⟨h.1.os,h.1.tape,h.1.output,h.1.size⟩,h.2⟩ (λd b=>?_) ?_
  .refine List.ext_getElem? λj=>?_;unfold Sort.putCells;rw[Array.getElem?_toList,Array.getElem?_mapIdx];have c:d[j]?=all[j]?:=by rw[<-b,Array.getElem?_toList]
   rw[c];by_cases a:j<vs.length
   .rw[List.getElem?_append_left a,A0 (show j<all.length by omega)];simp only[Ai,Be,yL,Af,B0,a,if_true,Bc,id];rw[A0 a];simp[a]
   .rw[A7 (by omega),List.getElem?_drop];have e:vs.length+(j - vs.length)=j:=by omega
    rw[e];cases all[j]? with
    |none=>rfl
    |some v=>simp only[Ai,Be,yL,Af,B0,a,if_false]
  .simp;omega
 exact f.grow_ 0 os
end
section
variable{α:Type}[Inhabited α]{enc:α->List Value}{k:Nat}
def qnl(w:∀x,(enc x).length=k)(f:0<k)(l:List α):Sort.flatK enc k l.toArray=(l.flatMap enc).toArray:=by
 have e:=qh3 enc k w l;refine Array.ext (by simp[e]) λi b o=>?_;have d:i<l.length*k:=by simpa using b
 have a:i/k<l.length:=Nat.div_lt_of_lt_mul (by rwa[Nat.mul_comm]);have n:i%k<k:=Nat.mod_lt _ f;have g:=Sort.get_flatK enc k l.toArray i (by simpa using d);rw[getElem!_pos _ i b]at g;rw[g];have j:l.toArray[i/k]! =l[i/k]:=by rw[getElem!_pos _ _ (by simpa using a)];simp
 rw[j];have h:=qrd enc k f w l i;rw[A0 a,Option.bind_some]at h;have c:i%k<(enc l[i/k]).length:=by rw[w];exact n
 rw[A0 c]at h;rw[getElem!_pos (enc l[i/k]) (i%k) c];have m:i<(l.flatMap enc).length:=by rw[e];exact d
 rw[A0 m]at h;simp only[List.getElem_toArray];exact(Au h).symm
def q2v(c:∀x,(enc x).length=k)(m:0<k){W w:Ac}{F:List Asn}{q:Nat}{t:TypeId}{all:List Aa}{l:List α}(h:St W (Row q t all::F) w)(b:all.take (l.length*k)=l.flatMap enc)(g:l.length*k<=all.length):Sort.HoldsK enc k w q 0 l.toArray:=by
 unfold Sort.HoldsK;rw[qnl c m];intro j a;have n:=qh3 enc k c l;have a:j<(l.flatMap enc).length:=by simpa using a
 have e:all[j]?=A2 (l.flatMap enc)[j]:=by
  have d:(all.take (l.length*k))[j]?=A2 (l.flatMap enc)[j]:=by rw[b,A0 a]
  rw[Ay,yB (by omega)]at d;exact d
 have f:=h.st (i:=j) (by omega) (Zb A4);rw[Af];refine⟨?_,f.1.2⟩;rw[h.ld e];simp;rw[A0 a];rfl
def q5j{W w:Ac}{F:List Asn}{q:Nat}{t:TypeId}{all:List Aa}(h:St W (Row q t all::F) w):q<w.heap.size:=by obtain⟨e,a,⟨d,c,b,_⟩,_⟩:=h.2;exact qr6 (w:=w) (a _ _ b)
end
end
section
structure qd6 where
 ends:List (Int×(Int×Bool))
 ever:List (Int×Int)
def qy4(e:Int×Bool):Aa:=Zg #[Zi Zk e.1,Zb e.2]
def q13(t:Nat)(P:qd6):Asn:=exA λm:Nat×Nat=>qz [Row t 179 [.map (A2 m.1),.map (A2 m.2)],qg (Zi Zk) qy4 m.1 P.ends,qg (Zi Zk) (Zi Zk) m.2 P.ever]
def uM1:Zp.underlying 176=A2 (.map 3 195):=Tryz.underlying176
def uM2:Zp.underlying 177=A2 (.map 3 3):=Tryz.underlying177
def quv:Zp.info? 195=A2 Tryz.t195:=by kernel_rfl
def q6w:Tryz.t195.zero=A2 (qy4 (0,A5)):=rfl
def qsq:Zp.info? 3=A2 Tryz.t3:=by kernel_rfl
def q6q:Tryz.t3.zero=A2 (Zi Zk 0):=rfl
def q4x(P:qd6)(id:Int):Bool:=decide ((qe P.ever id).getD 0>0)
def qb4(P:qd6)(id:Int):Int:=((qe P.ends id).getD (0,A5)).1
def qxf(P:qd6)(id:Int):qd6:=if(qe P.ends id).isSome=A4 then { P with ends:=qp (qp P.ends id) (qb4 P id)}else P
def qaj(L:List (Int×Int))(id:Int):List (Int×Int):=qk L id (Zw Zk ((qe L id).getD 0+1))
def q4g(P:qd6)(v c:Int):qd6×Int:=
 if(decide (v<1)||(decide (c<1)||(v==c)))=A4 then(P,1)else if(q4x P v||q4x P c)=A4 then(P,4)else
 (⟨qk (qk P.ends v (c,A4)) c (v,A5),qaj (qaj P.ever v) c⟩,0)
def qw4(P:qd6):List Int:=q91 leI ((P.ends.filter λx=>x.2.2).map (·.1))
def qtc(P:qd6):List (Int×Int):=(qw4 P).map λv=>(v,qb4 P v)
section
variable{W w:World}{F:List Asn}{t:Nat}{P:qd6}{id:Int}
def q13.open_(h:St W (q13 t P::F) w):∃m1 m2,St W (Row t 179 [.map (A2 m1),.map (A2 m2)]::qg (Zi Zk) qy4 m1 P.ends::qg (Zi Zk) (Zi Zk) m2 P.ever::F) w:=by obtain⟨⟨m1,m2⟩,h⟩:=h.of_ex;exact⟨m1,m2,h.of_sep⟩
def q13.shut(m1 m2:Nat)(h:St W (Row t 179 [.map (A2 m1),.map (A2 m2)]::qg (Zi Zk) qy4 m1 P.ends::qg (Zi Zk) (Zi Zk) m2 P.ever::F) w):St W (q13 t P::F) w:=z01 (m1,m2) (zk (l:=[_,_,_]) h)
def PNew_spec(h:St W F w):qb Zp 41 #[] w λv w'=>∃t,v=qc t/\St W (q13 t ⟨[],[]⟩::F) w':=
 F41_of (qs5.f (ν:=Int×Bool) (Zi Zk) qy4 h λm1 w h=>qs5.f (ν:=Int) (Zi Zk) (Zi Zk) h λm2 w h=>zh h λt w h=>⟨t,rfl,q13.shut m1 m2 (zo 3 [0,2,1] h rfl)⟩)
def qjj(L:List (Int×Int))(id:Int):((qe L id).map (Zi Zk)).getD (Zi Zk 0)=Zi Zk ((qe L id).getD 0):=by cases qe L id<;>rfl
def q1y(L:List (Int×(Int×Bool)))(id:Int):((qe L id).map qy4).getD (qy4 (0,A5))=qy4 ((qe L id).getD (0,A5)):=by cases qe L id<;>rfl
def q7m(h:St W (q13 t P::F) w):qb Zp 390 #[qc t,Zi Zk id] w λv w'=>v=Zb (q4x P id)/\St W (q13 t P::F) w':=by obtain⟨m1,m2,h⟩:=q13.open_ h;refine F390_of (z7 (zv 0 h rfl rfl (qq1 kI uM2 qsq q6q 2 h rfl id A5 ?_)));rw[yA (by simp),qjj];exact⟨_,rfl,rfl,q13.shut m1 m2 h⟩
def qnq(h:St W (q13 t P::F) w):qb Zp 228 #[qc t,Zi Zk id] w λv w'=>v=Zt #[Zi Zk (qb4 P id),Zb (qe P.ends id).isSome]/\St W (q13 t P::F) w':=by obtain⟨m1,m2,h⟩:=q13.open_ h;refine F228_of (z7 (zv 0 h rfl rfl (qq1 kI uM1 quv q6w 1 h rfl id A4 ?_)));rw[yB rfl,q1y];unfold qb4;generalize (qe P.ends id).getD (0,A5)=e;refine⟨_,_,_,rfl,zh h λb w h=>St1.zz 0 h rfl λw h=>St1.zz 0 h rfl λw h=>z8 0 h rfl rfl ⟨rfl,q13.shut m1 m2 h.drop⟩⟩
def q4v(a:St W (q13 t P::F) w):qb Zp 151 #[qc t,Zi Zk id] w λv w'=>v=Zt #[Zi Zk (qb4 P id),Zb (qe P.ends id).isSome]/\St W (q13 t (qxf P id)::F) w':=by
 unfold qxf;refine F151_of ((qnq a).of λv w ⟨b,a⟩=>⟨_,_,b,za (λh=>?_) λh=>?_⟩)
 .rw[yB h];obtain⟨m1,m2,a⟩:=q13.open_ a;exact z7 (zv 0 a rfl rfl (qc5 kI uM1 1 a rfl id λw a=>z7 (zv 0 a rfl rfl (qc5 kI uM1 1 a rfl (qb4 P id) λw a=>⟨rfl,q13.shut (P:={ P with ends:=qp (qp P.ends id) (qb4 P id)}) m1 m2 a⟩))))
 .rw[yA (by rw[h];simp)];exact⟨rfl,a⟩
def qot{v c:Int}(a:St W (q13 t P::F) w):qb Zp 362 #[qc t,Zi Zk v,Zi Zk c] w λr w'=>r=Zi Zk (q4g P v c).2/\St W (q13 t (q4g P v c).1::F) w':=by
 refine F362_of ⟨λ_ w=>q4g P v c=(⟨qk (qk P.ends v (c,A4)) c (v,A5),qaj (qaj P.ever v) c⟩,0)/\St W (q13 t P::F) w,⟨λvs w=>vs=[Zb (decide (v<1)||(decide (c<1)||(v==c)))]/\St W (q13 t P::F) w,?_,λx w i=>?_⟩,λw i=>?_⟩;.exact za (λh=>⟨by rw[h];rfl,a⟩) λh=>za (λb=>⟨by rw[h,b];rfl,a⟩) λb=>⟨by rw[h,b];rfl,a⟩
 .obtain⟨l,a⟩:=i;cases l;unfold q4g;refine za (λh=>?_) λh=>?_;.rw[yB h];exact⟨rfl,a⟩
  rw[yA (by rw[h];simp)];refine(q7m a).of λr w ⟨f,a⟩=>⟨_,f,za (λb=>zm b ?_) λb=>?_⟩;.rw[yB (by rw[b];rfl)];exact⟨rfl,a⟩
  refine(q7m a).of λr w ⟨f,a⟩=>⟨_,f,za (λg=>?_) λg=>?_⟩;.rw[yB (by rw[b,g];rfl)];exact⟨rfl,a⟩
  rw[yA (by rw[b,g];simp)];exact⟨rfl,a⟩
 .obtain⟨j,a⟩:=i;rw[j];obtain⟨m1,m2,a⟩:=q13.open_ a;have e:=z6 W (Row t 179 [.map (A2 m1),.map (A2 m2)]::qg (Zi Zk) qy4 m1 P.ends::qg (Zi Zk) (Zi Zk) m2 P.ever::F);have d:q2d Zp 3 (Zi Zk):=q2d.of kI;refine⟨StC W _,zd a,z7 (z7 ⟨_,z0b 0 e rfl rfl,_,z0b 0 e rfl rfl,?_⟩)⟩;refine zn (α:=Nat) (V:=λk=>Zt #[qy4 ((qe P.ends v).getD (0,A5)),Zi Zk (k:Int)]) (B:=λk=>qs6 (Zi Zk) qy4 m1 (qk P.ends v ((qe P.ends v).getD (0,A5))) v k::Row t 179 [.map (A2 m1),.map (A2 m2)]::qg (Zi Zk) (Zi Zk) m2 P.ever::F) 0 e (λG w h=>qve d uM1 (z:=(0,A5)) quv q6w 1 h rfl v λk w h=>⟨_,_,rfl,k,rfl,zf 1 0 h rfl⟩) λk=>⟨_,_,rfl,trivial,?_⟩;refine zn (α:=Unit) (V:=λ_=>Zt #[]) (B:=λ_=>qg (Zi Zk) qy4 m1 (qk P.ends v (c,A4))::Row t 179 [.map (A2 m1),.map (A2 m2)]::qg (Zi Zk) (Zi Zk) m2 P.ever::F) () ir (λG w h=>qvb (vl:=qy4) d (qj1 _ _ _) (c,A4) 0 h rfl λw h=>⟨(),rfl,by rw[qe7]at h;exact h⟩) λ_=>⟨rfl,trivial,?_⟩;refine zn (α:=Nat) (V:=λk=>Zt #[qy4 ((qe (qk P.ends v (c,A4)) c).getD (0,A5)),Zi Zk (k:Int)]) (B:=λk=>qs6 (Zi Zk) qy4 m1 (qk (qk P.ends v (c,A4)) c ((qe (qk P.ends v (c,A4)) c).getD (0,A5))) c k::Row t 179 [.map (A2 m1),.map (A2 m2)]::qg (Zi Zk) (Zi Zk) m2 P.ever::F) 0 ir (λG w h=>qve d uM1 (z:=(0,A5)) quv q6w 0 h rfl c λk w h=>⟨_,_,rfl,k,rfl,h⟩) λk=>⟨_,_,rfl,trivial,?_⟩;refine zn (α:=Unit) (V:=λ_=>Zt #[]) (B:=λ_=>qg (Zi Zk) qy4 m1 (qk (qk P.ends v (c,A4)) c (v,A5))::Row t 179 [.map (A2 m1),.map (A2 m2)]::qg (Zi Zk) (Zi Zk) m2 P.ever::F) () ir (λG w h=>qvb (vl:=qy4) d (qj1 _ _ _) (v,A5) 0 h rfl λw h=>⟨(),rfl,by rw[qe7]at h;exact h⟩) λ_=>⟨rfl,trivial,λG w h=>z7 ?_⟩;have a:=zb h;refine zv 1 a rfl rfl (qq1 kI uM2 qsq q6q 2 a rfl v A5 ?_);rw[yA (by simp),qjj];refine⟨_,rfl,qh1 (vl:=Zi Zk) kI uM2 2 a rfl v _ λw a=>z7 (zv 1 a rfl rfl (qq1 kI uM2 qsq q6q 2 a rfl c A5 ?_))⟩;rw[yA (by simp),qjj];exact⟨_,rfl,qh1 (vl:=Zi Zk) kI uM2 2 a rfl c _ λw a=>⟨rfl,q13.shut (P:=⟨qk (qk P.ends v (c,A4)) c (v,A5),qaj (qaj P.ever v) c⟩) m1 m2 (zo 3 [1,0,2] a rfl)⟩⟩
end
end
end Go.Proofs.YtfjifcfbmhpcaaaGreatDoor
