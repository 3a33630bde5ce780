/-
  A part of the proof of TopEvicted.
-/
import Derived.Test.YtfjifcfbmhpcaaaGreatDoorV18
import Derived.Test.YtfjifcfbmhpcaaaGreatDoorV20
import Derived.Test.YtfjifcfbmhpcaaaGreatDoorV16
import Derived.Lib.ItoaLen
import Derived.Shelf.SlGeneric
import Derived.Shelf.SlSortCmp.WholeK
import Derived.Shelf.SlSortCmp.Whole1
import Derived.Shelf.SlSortCmp.NoneTotal
import Derived.Ground.SlsfProg
import Derived.Test.YtfjifcfbmhpcaaaGreatDoorProg
import Derived.Test.YtfjifcfbmhpcaaaGreatDoorV00
set_option linter.defProp false
set_option linter.unusedVariables false
set_option linter.unusedSimpArgs false
namespace Go.Proofs.YtfjifcfbmhpcaaaGreatDoor
open Go
open Go.Proofs.Tryz renaming prog → Zp
open Go.IntKind renaming i64 → Zk, wrap → Zw
open Go.Addr renaming add → Za
open Go.Value renaming int → Zi, string → Zs, pointer → Zq, bool → Zb, tuple → Zt, slice → Zl, agg → Zg
open _root_.List renaming getElem?_eq_getElem->A0,length_map->A1,mem_cons->A7,length_eraseIdx_of_lt->A9,getElem?_append_right->Aa,not_mem_nil->Ab,getElem?_eq_some_iff->Ae,take_left'->Af,pairwise_cons->Ag,filter_append->Ah,length_filter_le->Am,length_cons->An,length_nil->Ap,map_append->Ar,filter_eq_self->Au,length_append->Aw,length->Ax,filter_congr->Ay,map_cons->B1,mem_map->B2,mem_of_getElem?->B4,flatMap_append->B5,getElem?_take->B7,mem_singleton->B9,size_toArray->Ba,length_drop->Bb,mem_append->Bg,filter->Bp,map->Bq
open _root_.Option renaming some->A2,map_some->Aq,none->Av
open Go.Lib renaming compareInt->A3
open _root_.Bool renaming true->A4,false->A6,not_eq_true->Ao,not_eq_true'->Az,or_eq_true->Bd,eq_iff_iff->Be,and_false->Bh,false_and->Bi,and_true->Bl
open _root_.Int renaming toNat->A5,toNat_natCast->Ak
open Go renaming World->A8,Value->Ad,Addr->B6
open _root_.Nat renaming zero_add->Ac,le_trans->Aj,mul_le_mul_left->As,le_refl->Bc,min_eq_left->Bf,sub_zero->Bm,add_zero->Bn,zero_le->Bo
open _root_.Prod renaming fst->Ai
open Go.Builtin renaming zeroCells->B0,clear_->Bj
open _root_.Option.some renaming inj->B3
section
section
variable{α β:Type}
def qgb(le:α->α->Bool)(x:α):List α->List α
 |[]=>[x]
 |y::r=>if le x y=A4 then x::y::r else y::qgb le x r
def q91(le:α->α->Bool):List α->List α
 |[]=>[]
 |x::r=>qgb le x (q91 le r)
def q8f(le:α->α->Bool)(x:α):∀l:List α,(qgb le x l).Perm (x::l)
 |[]=>.refl _
 |y::r=>by
  unfold qgb;split;.exact .refl _
  .exact((q8f le x r).cons y).trans (.swap _ _ _)
def qv1(le:α->α->Bool):∀l:List α,(q91 le l).Perm l
 |[]=>.refl _
 |x::r=>(q8f le x _).trans ((qv1 le r).cons x)
def qbg{le:α->α->Bool}(e:∀a b c,le a b=A4->le b c=A4->le a c=A4)(f:∀a b,(le a b||le b a)=A4)(x:α):∀l:List α,l.Pairwise (λa b=>le a b=A4)->(qgb le x l).Pairwise λa b=>le a b=A4
 |[],_=>by simp[qgb]
 |y::r,h=>by
  rw[Ag]at h;unfold qgb;split
  .rename_i w;rw[Ag];refine⟨λz d=>?_,Ag.2 h⟩;rcases A7.1 d with rfl|d;.exact w
   .exact e _ _ _ w (h.1 z d)
  .rename_i w;rw[Ag];refine⟨λz d=>?_,qbg e f x r h.2⟩;rcases A7.1 ((q8f le x r).mem_iff.1 d)with rfl|d
   .have:=f z y;simp only[Bd]at this;exact this.resolve_left w
   .exact h.1 z d
def qjf{le:α->α->Bool}(h:∀a b c,le a b=A4->le b c=A4->le a c=A4)(w:∀a b,(le a b||le b a)=A4):∀l:List α,(q91 le l).Pairwise λa b=>le a b=A4
 |[]=>by simp[q91]
 |x::r=>qbg h w x _ (qjf h w r)
def qij{le:α->α->Bool}(h:∀a b c,le a b=A4->le b c=A4->le a c=A4)(w:∀a b,(le a b||le b a)=A4)(d:∀a b,le a b=A4->le b a=A4->a=b){l m:List α}(e:l.Perm m):l.mergeSort le=q91 le m:=
 List.Perm.eq_of_pairwise (le:=λa b=>le a b=A4) (λa b _ _=>d a b) (List.pairwise_mergeSort h w l) (qjf h w m) ((List.mergeSort_perm l le).trans (e.trans (qv1 le m).symm))
def qtm(f:α->β){le:α->α->Bool}{le':β->β->Bool}(h:∀a b,le a b=le' (f a) (f b))(x:α):∀l:List α,(qgb le x l).map f=qgb le' (f x) (l.map f)
 |[]=>rfl
 |y::r=>by
  simp only[qgb,B1,h x y];split;.rfl
  .rw[B1,qtm f h x r]
def q5a(f:α->β){le:α->α->Bool}{le':β->β->Bool}(h:∀a b,le a b=le' (f a) (f b)):∀l:List α,(q91 le l).map f=q91 le' (l.map f)
 |[]=>rfl
 |x::r=>by rw[q91,qtm f h,q5a f h r];rfl
end
def leI(x y:Int):Bool:=decide (x<=y)
def leL(x y:List UInt8):Bool:=decide (x<=y)
def leS(x y:ByteArray):Bool:=leL (qm x) (qm y)
def qee{l m:List Int}(w:l.Perm m):l.mergeSort (λx y=>decide (x<=y))=q91 leI m:=
 qij (le:=leI) (λa b c d h=>by unfold leI at*;simp at*;omega) (λa b=>by unfold leI;simp;omega) (λa b d h=>by unfold leI at*;simp at*;omega) w
def qsg{l m:List (List UInt8)}(d:l.Perm m):l.mergeSort (λx y=>decide (x<=y))=q91 leL m:=
 qij (le:=leL) (λa b c w h=>by unfold leL at*;simp only[yJ]at*;exact List.le_trans w h) (λa b=>by unfold leL;simp only[Bd,yJ];exact List.le_total a b) (λa b w h=>by unfold leL at*;simp only[yJ]at*;exact List.le_antisymm w h) d
section
variable{W w:World}{F M:List Asn}{itf:FuncId}{cap:Value}{N m:Nat}
def q3f{G:List Int->Prop}(e:q33 Zp itf=A4)(g:N<=1000000)(f:∀l,G l->l.length<=1000000)(a:q7b W (Zi Zk) itf cap M N G)(h:St W M w):
 qb Zp 33 #[.func (.func itf) #[] #[cap]] w λv w'=>∃l p c,v=Zl p (Ax l) c/\G l/\St W (qi 3 1 p l.length c ((q91 leI l).map (Zi Zk))::M) w':=by
 refine F33_of (F63_of ((AppI.AppSeq_spec e g a h).of λv w ⟨l,p,c,b,d,h⟩=>⟨_,_,_,b,_,_,_,rfl,?_⟩));have h:St W (qi 3 1 p l.length c (l.flatMap λx=>[Zi Zk x])::M) w:=h;rw[qt6]at h;refine(q1r (f l d) h).of λv w ⟨b,h⟩=>⟨b,l,p,c,rfl,d,?_⟩;rw[qee (List.Perm.refl l)]at h;exact h
def q3m{G:List ByteArray->Prop}(i:q33 Zp itf=A4)(k:N<=1000000)(j:∀l,G l->l.length<=1000000)(e:q7b W Zs itf cap M N G)(h:St W M w):
 qb Zp 154 #[.func (.func itf) #[] #[cap]] w λv w'=>∃l p c,v=Zl p (Ax l) c/\G l/\St W (qi 9 1 p l.length c ((q91 leS l).map Zs)::M) w':=by
 refine F154_of (F237_of ((AppS.AppSeq_spec i k e h).of λv w ⟨l,p,c,f,g,h⟩=>⟨_,_,_,f,_,_,_,rfl,?_⟩));have h:St W (qi 9 1 p l.length c (l.flatMap λx=>[Zs x])::M) w:=h;rw[qt6]at h;have e0:∀l:List ByteArray,l.map Zs=(l.map qm).map qc8:=λl=>by rw[List.map_map];exact List.map_congr_left λs _=>qch s
 rw[e0]at h;have d:l.length=(l.map qm).length:=by simp
 rw[d]at h⊢;refine(qvr (by rw[<-d];exact j l g) h).of λv w ⟨f,h⟩=>⟨f,l,p,c,by rw[<-d],g,?_⟩;rw[qsg (List.Perm.refl _)]at h;rw[e0,q5a qm (le:=leS) (le':=leL) (λa b=>rfl)];rw[<-d]at h;exact h
def q88{l m:List Int}(h:l.Perm m):q91 leI l=q91 leI m:=(qee (List.Perm.refl l)).symm.trans (qee h)
def q4j{l m:List ByteArray}(d:l.Perm m):q91 leS l=q91 leS m:=by
 have h:(q91 leS l).map qm=(q91 leS m).map qm:=by rw[q5a qm (le:=leS) (le':=leL) (λa b=>rfl),q5a qm (le:=leS) (le':=leL) (λa b=>rfl)];exact(qsg (List.Perm.refl _)).symm.trans (qsg (d.map qm))
 have w:∀a b:ByteArray,qm a=qm b->a=b:=λa b h=>by have:=yE mkS h;unfold qm at this;rwa[qd5,qd5]at this
 generalize q91 leS l=x at h;generalize q91 leS m=y at h;induction x generalizing y with
 |nil=>cases y with
  |nil=>rfl
  |cons b s=>simp at h
 |cons a r c=>cases y with
  |nil=>simp at h
  |cons b s=>simp only[B1,List.cons.injEq]at h;rw[w _ _ h.1,c s h.2]
def q3y{ν:Type}{vl:ν->Ad}{L:List (Int×ν)}(d:L.length<=1000000){K:Ad->A8->Prop}(n:Nat){l:List Asn}(h:St W l w)(e:nth l n=A2 (qg (Zi Zk) vl m L))
 (i:∀p c w',St W (qi 3 1 p L.length c ((q91 leI (L.map (·.1))).map (Zi Zk))::l) w'->K (Zl p L.length c) w'):
 qb Zp 93 #[.map (A2 m)] w λv w'=>qb Zp 33 #[v] w' K:=by
 refine F93_of (zh h λcap w h=>?_);have h:St W (Row cap 180 [.map (A2 m)]::qg (Zi Zk) vl m L::del l n) w:=z0b h (List.Perm.cons _ (q76 e));refine(q3f (by kernel_rfl) d (λl b=>by rw[b.length_eq,A1];exact d) (qqs (Bc _)) h).of λv w ⟨g,p,c,f,b,h⟩=>?_;have a:g.length=L.length:=by rw[b.length_eq,A1]
 rw[f,a];rw[a,q88 b]at h;exact i p c w (z0b (z03 1 h rfl) (List.Perm.cons _ (q76 e).symm))
def qkn{ν:Type}{vl:ν->Ad}{L:List (Int×ν)}(d:L.length<=1000000){K:Ad->A8->Prop}(n:Nat){l:List Asn}(h:St W l w)(e:nth l n=A2 (qg (Zi Zk) vl m L))
 (i:∀p c w',St W (qi 3 1 p L.length c ((q91 leI (L.map (·.1))).map (Zi Zk))::l) w'->K (Zl p L.length c) w'):
 qb Zp 34 #[.map (A2 m)] w λv w'=>qb Zp 33 #[v] w' K:=by
 refine F34_of (zh h λcap w h=>?_);have h:St W (Row cap 79 [.map (A2 m)]::qg (Zi Zk) vl m L::del l n) w:=z0b h (List.Perm.cons _ (q76 e));refine(q3f (by kernel_rfl) d (λl b=>by rw[b.length_eq,A1];exact d) (qdu (Bc _)) h).of λv w ⟨g,p,c,f,b,h⟩=>?_;have a:g.length=L.length:=by rw[b.length_eq,A1]
 rw[f,a];rw[a,q88 b]at h;exact i p c w (z0b (z03 1 h rfl) (List.Perm.cons _ (q76 e).symm))
def q6y{ν:Type}{vl:ν->Ad}{L:List (ByteArray×ν)}(d:L.length<=1000000){K:Ad->A8->Prop}(n:Nat){l:List Asn}(h:St W l w)(e:nth l n=A2 (qg (Zs) vl m L))
 (i:∀p c w',St W (qi 9 1 p L.length c ((q91 leS (L.map (·.1))).map (Zs))::l) w'->K (Zl p L.length c) w'):
 qb Zp 155 #[.map (A2 m)] w λv w'=>qb Zp 154 #[v] w' K:=by
 refine F155_of (zh h λcap w h=>?_);have h:St W (Row cap 166 [.map (A2 m)]::qg (Zs) vl m L::del l n) w:=z0b h (List.Perm.cons _ (q76 e));refine(q3m (by kernel_rfl) d (λl b=>by rw[b.length_eq,A1];exact d) (qvt (Bc _)) h).of λv w ⟨g,p,c,f,b,h⟩=>?_;have a:g.length=L.length:=by rw[b.length_eq,A1]
 rw[f,a];rw[a,q4j b]at h;exact i p c w (z0b (z03 1 h rfl) (List.Perm.cons _ (q76 e).symm))
end
end
section
def q64(so:LeD->Bool)(df:LeD->LeD)(s:LeL×List LeD)(n:ByteArray):LeL×List LeD:=match qe s.1 n with
 |none=>s
 |some d=>if so d=A4 then(qk s.1 n (df d),s.2++[d])else s
def qk4(so:LeD->Bool)(df:LeD->LeD)(L:LeL):LeL×List LeD:=(q91 leS (L.map (·.1))).foldl (q64 so df) (L,[])
def qhw(d:LeD):(leV d).length=6:=rfl
def leVn(d:LeD):∀v∈leV d,qn1 v:=λv h=>by simp only[leV,A7,Ab,yK]at h;rcases h with rfl|rfl|rfl|rfl|rfl|rfl<;>trivial
def uLs:Zp.underlying 52=A2 (.slice 55):=Tryz.underlying52
def iLe:Zp.info? 55=A2 Tryz.t55:=by kernel_rfl
def sLe:Tryz.t55.size=6:=rfl
def bLe:Tryz.t55.bytes<=1000:=by decide+kernel
def zLe:∃z,Tryz.t55.zero=A2 z/\z.cells.size=6:=⟨_,rfl,rfl⟩
def qwy(so:LeD->Bool)(df:LeD->LeD)(s:LeL×List LeD)(n:ByteArray):(q64 so df s n).1.map (·.1)=s.1.map (·.1):=by
 unfold q64;split;.rfl
 .rename_i d h;split;.rw[qha,yA (by rw[h];simp)]
  .rfl
section
variable{W w:World}{F:List Asn}{b m:Nat}{B:qi3}{name:ByteArray}{now:Int}
def qef{H G:Ad}(so:LeD->Bool)(df:LeD->LeD)(hl:B.L.length<=64)
 (h2:∀(d:LeD) (q:Nat) (L N E:Asn) (w:A8) (K:Ad->A8->Prop),St W (qu q d::Row b 168 (bkV B m)::L::N::E::F) w->(∀w',St W (qu q d::Row b 168 (bkV B m)::L::N::E::F) w'->K (Zb (so d)) w')->q01 Zp 4 H [qc q] w K)
 (T:∀(d:LeD) (q:Nat) (L N E:Asn) (w:A8) (K:Ad->A8->Prop),St W (qu q d::Row b 168 (bkV B m)::L::N::E::F) w->(∀w',St W (qu q (df d)::Row b 168 (bkV B m)::L::N::E::F) w'->K (Zt #[]) w')->q01 Zp 0 G [qc q] w K)
 (f:St W (Row b 168 (bkV B m)::qr Zs m qu B.L::F) w):qb Zp 89 #[qc b,H,G] w λv w'=>∃p c,v=Zl p (qk4 so df B.L).2.length c/\(qk4 so df B.L).2.length<=64/\(qk4 so df B.L).1.map (·.1)=B.L.map (·.1)/\St W (SlA 55 6 leV p c (qk4 so df B.L).2::Row b 168 (bkV B m)::qr Zs m qu (qk4 so df B.L).1::F) w':=by
 refine F89_of (z7 (zv 0 f rfl rfl ?_));obtain⟨bs,hp,h0⟩:=z1d (zf 1 0 f rfl);have o:(qx (Ai (α:=Nat) (β:=LeD)) bs).length=B.L.length:=by rw[q46,<-hp,q46]
 have I:(qx (Ai (α:=Nat) (β:=LeD)) bs).map (·.1)=B.L.map (·.1):=by rw[qx5,<-hp,qx5]
 refine q6y (vl:=qc) (by rw[o];omega) 0 h0 rfl λp c w f=>⟨_,_,_,rfl,?_⟩;rw[o,I]at f;rw[o];unfold qk4;have V:(q91 leS (B.L.map (·.1))).length=B.L.length:=by rw[(qv1 leS _).length_eq,A1]
 have s:∀n∈q91 leS (B.L.map (·.1)),n∈B.L.map (·.1):=λn Y=>(qv1 leS _).mem_iff.1 Y;generalize q91 leS (B.L.map (·.1))=g at f V s⊢;have f:St W (Row b 168 (bkV B m)::qr Zs m qu B.L::SlA 55 6 leV Av 0 []::qi 9 1 p B.L.length c (g.map Zs)::F) w:=by have O:St W (qr Zs m qu B.L::qi 9 1 p B.L.length c (g.map Zs)::Row b 168 (bkV B m)::F) w:=z19 bs hp (zf 0 2 f rfl);exact zf 0 2 (z09 (zf 2 0 O rfl |> λh=>h)) rfl |> λh=>zf 1 1 h rfl
 have key:∀(n:ByteArray) (j:LeL),n∈g->j.map (·.1)=B.L.map (·.1)->∃d,qe j n=A2 d:=λn j Y hk=>by
  cases h:qe j n with
  |some d=>exact⟨d,rfl⟩
  |none=>have O:=s n Y;rw[<-hk]at O;obtain⟨x,y,e⟩:=B2.1 O;exact yI e (qm8.1 h x y)
 refine⟨λvs w=>∃(k:Nat) (t:Option B6) (u:Nat) (j:LeL) (out:List LeD),vs=[Zl t out.length u,Zi Zk (k:Int)]/\k<=g.length/\(g.take k).foldl (q64 so df) (B.L,[])=(j,out)/\j.map (·.1)=B.L.map (·.1)/\out.length<=k/\St W (Row b 168 (bkV B m)::qr Zs m qu j::SlA 55 6 leV t u out::qi 9 1 p B.L.length c (g.map Zs)::F) w,
  λvs _=>match vs with|[_,.int _ x]=>(g.length - x).toNat|_=>0,⟨0,Av,0,B.L,[],rfl,by omega,rfl,rfl,by simp,f⟩,λM ln J x w hI=>?_⟩
 obtain⟨k,t,u,j,out,he,hk,U,l,ho,f⟩:=hI;cases he;refine za (λr=>?_) λP=>?_
 .have r:k<g.length:=by have:=yC r;omega
  have y:g[k]?=A2 (g[k]'r):=A0 _;generalize g[k]'r=n at y;obtain⟨d,D⟩:=key n j (B4 y) l;have C:(g.take (k+1)).foldl (q64 so df) (B.L,[])=q64 so df (j,out) n:=by rw[List.take_add_one,y,Option.toList_some,List.foldl_append,U];rfl
  have e1:Zw Zk ((k:Int)+1)=((k+1:Nat):Int):=by rw[w64];omega
  have Q:Rd (Row b 168 (bkV B m)::qr Zs m qu j::SlA 55 6 leV M J out::qi 9 1 p B.L.length c (g.map Zs)::F) p (g.map Zs):=(((z0j F).cons _).cons _).cons _;refine z0l Q f rfl (by omega) (v:=Zs n) (by rw[List.getElem?_map,y];rfl) λa ha=>z0p ha (z7 (zv 0 f rfl rfl ?_));obtain⟨q,f⟩:=z15 D (zf 1 0 f rfl);refine z0i kS uMl iPl zPl 1 f rfl A6 ⟨_,rfl,?_⟩;have f:St W (qu q d::Row b 168 (bkV B m)::qw Zs m qu j n q::SlA 55 6 leV M J out::qi 9 1 p B.L.length c (g.map Zs)::F) w:=zf 1 2 f rfl;have back:∀(X:LeD) (t:Option B6) (u:Nat) (out:List LeD) (w:A8),St W (qu q X::Row b 168 (bkV B m)::qw Zs m qu j n q::SlA 55 6 leV t u out::qi 9 1 p B.L.length c (g.map Zs)::F) w->St W (Row b 168 (bkV B m)::qr Zs m qu (qk j n X)::SlA 55 6 leV t u out::qi 9 1 p B.L.length c (g.map Zs)::F) w:=λX t u out w h=>(z0o (A:=qu) (zf 2 1 h rfl)).p1;refine h2 d q _ _ _ w _ f λw f=>⟨_,rfl,za (λhs=>z7 ?_) λhs=>?_⟩
  .have f:St W (Row q 55 (leV d)::Row b 168 (bkV B m)::qw Zs m qu j n q::SlA 55 6 leV M J out::qi 9 1 p B.L.length c (g.map Zs)::F) w:=f;refine zg 0 f rfl rfl (zg 0 f rfl rfl (z8 0 f rfl rfl (z8 0 f rfl rfl (z8 0 f rfl rfl (zx 0 f rfl rfl (?_))))));refine zh f λb34 w f=>?_;obtain⟨z,hz,Z⟩:=zLe;refine qf3 (os:=out) (xs:=[d]) qhw uLs (.inr ⟨_,uLs⟩) iLe sLe hz Z 4 f rfl (z0z 0 λi v h=>by simpa [leV]using h) rfl leVn (by have:=bLe;simp only[An,Ap];exact Aj (As _ this) (by omega)) (by simp;omega) λp3 c3 w f=>⟨_,_,_,rfl,?_⟩;have f:St W (qu q d::Row b 168 (bkV B m)::qw Zs m qu j n q::SlA 55 6 leV p3 c3 (out++[d])::qi 9 1 p B.L.length c (g.map Zs)::F) w:=f.drop;refine T d q _ _ _ w _ f λw f=>⟨rfl,?_⟩;rw[e1];refine⟨⟨k+1,p3,c3,qk j n (df d),out++[d],rfl,by omega,?_,?_,by simp;omega,back _ _ _ _ _ f⟩,?_⟩
   .rw[C];unfold q64;rw[D];dsimp only;rw[yB hs]
   .rw[qha,yA (by rw[D];simp),l]
   .show(g.length -((k+1:Nat):Int)).toNat<(g.length -(k:Int)).toNat;omega
  .rw[e1];refine⟨⟨k+1,M,J,j,out,rfl,by omega,?_,l,by omega,?_⟩,?_⟩
   .rw[C];unfold q64;rw[D];dsimp only;rw[yA (by rw[hs];simp)]
   .have:=back _ _ _ _ _ f;rw[qt1 D]at this;exact this
   .show(g.length -((k+1:Nat):Int)).toNat<(g.length -(k:Int)).toNat;omega
 .have R:k=g.length:=by have:=yD P;omega
  subst R;rw[List.take_length]at U;rw[U];exact⟨M,J,rfl,by dsimp only;omega,l,zl 4 [2,0,1] f rfl⟩
def All_spec(a:St W (q41 b B::F) w):qb Zp 48 #[qc b] w λv w'=>∃p c,v=Zl p (qk4 (λ_=>A4) (λd=>d) B.L).2.length c/\(qk4 (λ_=>A4) (λd=>d) B.L).2.length<=64/\St W (SlA 55 6 leV p c (qk4 (λ_=>A4) (λd=>d) B.L).2::q41 b { B with L:=(qk4 (λ_=>A4) (λd=>d) B.L).1}::F) w':=by
 obtain⟨m,l,a⟩:=z0s a;refine F48_of ((qef (λ_=>A4) (λd=>d) l (λd q j n r w K a i=>?_) (λd q j n r w K a i=>?_) a).of λv w ⟨p,c,o,e,k,a⟩=>⟨_,_,_,o,p,c,rfl,e,?_⟩)
 .have f:qb Zp 90 #[qc q] w K:=F90_of (i w a);exact zw (by kernel_rfl) f
 .have f:qb Zp 91 #[qc q] w K:=F91_of (i w a);exact zw (by kernel_rfl) f
 .have g:=yE Ax k;rw[A1,A1]at g;exact(z0u (B:={ B with L:=(qk4 (λ_=>A4) (λd=>d) B.L).1}) m (by dsimp only;omega) (zf 0 2 a rfl) |> λh=>St.p1 h)
def qid(conn now:Int)(d:LeD):Bool:=(d.conn==conn)&&(d.held&&decide (now<d.til))
def qe5(B:qi3)(conn now:Int):qi3×List LeD:=if q79 now=A6 then(B,[])else({ B with L:=(qk4 (qid conn now) (λd=>q78 d (Zw Zk (now+B.grace))) B.L).1},(qk4 (qid conn now) (λd=>q78 d (Zw Zk (now+B.grace))) B.L).2)
def q3q{conn:Int}(a:St W (q41 b B::F) w):qb Zp 146 #[qc b,Zi Zk conn,Zi Zk now] w λv w'=>∃p c,v=Zl p (qe5 B conn now).2.length c/\(qe5 B conn now).2.length<=64/\St W (SlA 55 6 leV p c (qe5 B conn now).2::q41 b (qe5 B conn now).1::F) w':=by
 unfold qe5;refine F146_of (zh a λn w a=>zh a λj w a=>zh a λg w a=>z13 0 a rfl rfl ((q57 now a).of λv w ⟨k,a⟩=>⟨_,k,za (λh=>?_) λh=>?_⟩))
 .rw[yB (by simpa using h)];exact⟨Av,0,rfl,by simp,z09 (zl 4 [3] a rfl)⟩
 rw[yA (by simpa using h)];have a:St W (q41 b B::Row g 2 [Zi Zk now]::Row j 3 [Zi Zk conn]::Row n 94 [qc b]::F) w:=zf 3 0 a rfl;obtain⟨m,y,a⟩:=z0s a;refine LdP.n 4 a rfl rfl ((qef (qid conn now) (λd=>q78 d (Zw Zk (now+B.grace))) y (λd q r s t w K a i=>?_) (λd q r s t w K a i=>?_) a).of λv w ⟨p,c,k,o,x,a⟩=>⟨_,_,_,k,p,c,rfl,o,?_⟩)
 .have e:=z6 W (Row q 55 (leV d)::Row b 168 (bkV B m)::r::s::t::Row g 2 [Zi Zk now]::Row j 3 [Zi Zk conn]::Row n 94 [qc b]::F);unfold qid at i;have f:qb Zp 223 #[qc q,qc j,qc g] w K:=by
   refine F223_of ⟨StC W _,zd a,z7 ⟨_,zi 0 e rfl rfl,_,z02 6 e rfl rfl,za (λh=>z7 ⟨_,z0t 0 e rfl rfl,za (λf=>z7 ⟨_,z02 5 e rfl rfl,_,zi 0 e rfl rfl,λG w l=>?_⟩) λf G w l=>?_⟩) λh G w l=>?_⟩⟩;.have:=i w (zb l);rw[h,f]at this;exact this
   .have:=i w (zb l);rw[h,f]at this;exact this
   .have:=i w (zb l);rw[h]at this;exact this
  exact zw (by kernel_rfl) f
 .have e:=z6 W (qu q d::Row b 168 (bkV B m)::r::s::t::Row g 2 [Zi Zk now]::Row j 3 [Zi Zk conn]::Row n 94 [qc b]::F);have f:qb Zp 224 #[qc q,qc g,qc n] w K:=by refine F224_of ⟨StC W _,zd a,_,z02 5 e rfl rfl,_,zy 7 e rfl rfl,z7 ⟨_,zi 1 e rfl rfl,zk (α:=Unit) (V:=λ_=>Zt #[]) (B:=λ_=>qu q (q78 d (Zw Zk (now+B.grace)))::Row b 168 (bkV B m)::r::s::t::Row g 2 [Zi Zk now]::Row j 3 [Zi Zk conn]::Row n 94 [qc b]::F) () e (λG w h=>(q6f h).of λv w' ⟨k,h⟩=>⟨k,(),rfl,h⟩) λ_=>⟨rfl,trivial,λG w h=>i w (zb h)⟩⟩⟩
  exact zw (by kernel_rfl) f
 .have u:=yE Ax x;rw[A1,A1]at u;exact(z0u (B:={ B with L:=(qk4 (qid conn now) (λd=>q78 d (Zw Zk (now+B.grace))) B.L).1}) m (by dsimp only;omega) (zl 6 [1,2,0] a rfl)).p1
end
end
section
section
variable{κ ν:Type}[DecidableEq κ]
def qko{L:List (κ×ν)}(w:(L.map (·.1)).Nodup)(k:κ):qp L k=L.filter λy=>!decide (y.1=k):=by
 induction L with
 |nil=>rfl
 |cons x r a=>
  simp only[B1,List.nodup_cons]at w;simp only[qp,List.filter_cons];by_cases h:x.1=k
  .rw[yB h,yA (by simp[h])];refine(Au.2 λy b=>?_).symm;have:y.1≠k:=λe=>w.1 (B2.2 ⟨y,b,by rw[e,h]⟩);simp[this]
  .rw[yA h,yB (by simp[h]),a w.2]
end
def qad(now:Int)(d:LeD):Bool:=d.held&&decide (d.til<=now)
def q9d(g:Int)(d:LeD):LeD:=q78 d (Zw Zk (d.til+g))
def qm7(B:qi3)(now:Int):qi3×List LeD:=if q79 now=A6 then(B,[])else
 ({ B with L:=(qk4 (qad now) (q9d B.grace) B.L).1.filter λx=>!(qv4 B.grace x.2 now==0)},(qk4 (qad now) (q9d B.grace) B.L).2)
section
variable{W w:World}{F:List Asn}{b m:Nat}{B:qi3}{name:ByteArray}{now:Int}{L:LeL}
def qu2(g now:Int)(S:List ByteArray)(y:ByteArray×Nat×LeD):Bool:=!(qpc S y.1&&(qv4 g y.2.2 now==0))
def qmt{g j:Nat}(a:St W (Row b 168 (bkV B m)::qr Zs m qu L::Row g 94 [qc b]::Row j 2 [Zi Zk now]::F) w):qb Zp 202 #[.map (A2 m),.func (.func 203) #[] #[qc g,qc j]] w λv w'=>
 v=Zt #[]/\St W (Row b 168 (bkV B m)::qr Zs m qu (L.filter λx=>!(qv4 B.grace x.2 now==0))::F) w':=by
 obtain⟨bs,hp,V⟩:=z1d (zf 1 0 a rfl);have J:(bs.map (·.1)).Nodup:=by have:=z18 kS V;rwa[qx5]at this
 refine F202_of (q7y uMl 0 V rfl λf w a=>?_);have a:St W (qn2 Zs qc m f (qx (Ai (α:=Nat) (β:=LeD)) (bs.filter (qu2 B.grace now []))) []::qz ((bs.filter (qu2 B.grace now [])).map λy=>qu y.2.1 y.2.2)::Row b 168 (bkV B m)::Row g 94 [qc b]::Row j 2 [Zi Zk now]::F) w:=by rw[Au.2 (λy _=>by simp[qu2,qpc])];exact a
 refine⟨λ_ w=>∃S,St W (qn2 Zs qc m f (qx (Ai (α:=Nat) (β:=LeD)) (bs.filter (qu2 B.grace now S))) S::qz ((bs.filter (qu2 B.grace now S)).map λy=>qu y.2.1 y.2.2)::Row b 168 (bkV B m)::Row g 94 [qc b]::Row j 2 [Zi Zk now]::F) w,λ_ w=>qx9 m f w,⟨[],a⟩,λw hI=>?_⟩;obtain⟨S,n⟩:=hI;have a:=n;have c:((bs.filter (qu2 B.grace now S)).map (·.1)).Nodup:=((List.filter_sublist (l:=bs)).map _).nodup J;refine q9z kS a (λE w a=>⟨rfl,?_⟩) λx T D w a h4 t=>⟨_,_,t,_,_,rfl,?_⟩
 .have hE:bs.filter (qu2 B.grace now S)=bs.filter λy=>!(qv4 B.grace y.2.2 now==0):=by
   refine Ay λy N=>?_;unfold qu2;by_cases Q:(qv4 B.grace y.2.2 now==0)=A4
   .rw[Q,Bl];by_cases p:qpc S y.1=A4;.rw[p]
    .exfalso;rw[Ao]at p;have q:y∈bs.filter (qu2 B.grace now S):=List.mem_filter.2 ⟨N,by unfold qu2;rw[p];rfl⟩;have I:=qnb.2 (E (y.1,y.2.1) (B2.2 ⟨y,q,rfl⟩));dsimp only at I;rw[p]at I;cases I
   .rw[Ao]at Q;rw[Q,Bh]
  rw[hE]at a;refine(z19 (L:=L.filter λx=>!(qv4 B.grace x.2 now==0)) (bs.filter λy=>!(qv4 B.grace y.2.2 now==0)) ?_ (zl 5 [0,1,2] a rfl)).p1;rw[<-hp];unfold qx;rw[List.filter_map];rfl
 .obtain⟨y,N,rfl⟩:=B2.1 T;dsimp only at D a⊢;have A:qe (bs.filter (qu2 B.grace now S)) y.1=A2 y.2:=q24 c N;have Z:∀z,qu2 B.grace now (S++[y.1]) z=(qu2 B.grace now S z&&!(decide (z.1=y.1)&&(qv4 B.grace z.2.2 now==0))):=by
   intro z;unfold qu2 qpc;rw[List.any_append];have e:decide (y.1=z.1)=decide (z.1=y.1):=by rw[Be];simp only[yJ];exact eq_comm
   simp only[List.any_cons,List.any_nil,Bool.or_false,e];cases (S.any λs=>decide (s=z.1))<;>cases decide (z.1=y.1)<;>cases (qv4 B.grace z.2.2 now==0)<;>rfl
  have R:bs.filter (qu2 B.grace now (S++[y.1]))=(bs.filter (qu2 B.grace now S)).filter λz=>!(decide (z.1=y.1)&&(qv4 B.grace z.2.2 now==0)):=by rw[List.filter_filter];exact Ay λz _=>by rw[Z z,Bool.and_comm]
  have p:∀(w w':A8) (M:List (ByteArray×Nat)) (G X:List Asn),M.Sublist (qx (Ai (α:=Nat) (β:=LeD)) (bs.filter (qu2 B.grace now S)))->St W (qn2 Zs qc m f (qx (Ai (α:=Nat) (β:=LeD)) (bs.filter (qu2 B.grace now S))) S::G) w->St W (qn2 Zs qc m f M (S++[y.1])::X) w'->qx9 m f w'<qx9 m f w:=λw w' M G X C h h'=>by rw[qn2.left kS h,qn2.left kS h'];refine Nat.lt_of_le_of_lt (C.filter _).length_le (qla _ (λz _ r=>?_) T (by rw[Bool.not_eq_false',qnb];simp) (by rw[Az,<-Ao,qnb];exact D));rw[Az,<-Ao,qnb]at r⊢;exact λh=>r (List.mem_append_left _ h)
  have P:=qf5 ((aget_perm A).map λz:ByteArray×Nat×LeD=>qu z.2.1 z.2.2) a.p1;have i:St W (qu y.2.1 y.2.2::Row b 168 (bkV B m)::qn2 Zs qc m f (qx (Ai (α:=Nat) (β:=LeD)) (bs.filter (qu2 B.grace now S))) (S++[y.1])::qz ((qp (bs.filter (qu2 B.grace now S)) y.1).map λz=>qu z.2.1 z.2.2)::Row g 94 [qc b]::Row j 2 [Zi Zk now]::F) w:=zl 6 [0,3,2,1,4,5] P rfl;have o:∀K:Ad->A8->Prop,K (Zt #[qc y.2.1,Zb A4]) w->Run Zp (Instr.lookup 166 (.map (A2 m)) (Zs y.1) A4) w K:=λK hK=>by refine qww kS uMl iPl zPl 2 i rfl y.1 A4 ?_;rw[q62,A];exact hK
  have Y:qb Zp 203 #[Zs y.1,qc y.2.1,qc g,qc j] w λv w'=>v=Zb (qv4 B.grace y.2.2 now==0)/\St W (qu y.2.1 y.2.2::Row b 168 (bkV B m)::qn2 Zs qc m f (qx (Ai (α:=Nat) (β:=LeD)) (bs.filter (qu2 B.grace now S))) (S++[y.1])::qz ((qp (bs.filter (qu2 B.grace now S)) y.1).map λz=>qu z.2.1 z.2.2)::Row g 94 [qc b]::Row j 2 [Zi Zk now]::F) w':=
   F203_of (LdP.n 4 i rfl rfl (z13 5 i rfl rfl ((qhp o i).of λv w ⟨O,a⟩=>⟨_,_,O,rfl,a⟩)))
  refine zw (by kernel_rfl) (qb.of Y λv U ⟨O,u⟩=>⟨_,O,za (λh=>?_) λh=>?_⟩)
  .have H:bs.filter (qu2 B.grace now (S++[y.1]))=qp (bs.filter (qu2 B.grace now S)) y.1:=by
    rw[R,qko c];refine Ay λz r=>?_;by_cases e:z.1=y.1
    .have:z.2=y.2:=by have q:=q24 c (show(z.1,z.2)∈bs.filter (qu2 B.grace now S)from r);rw[e,A]at q;exact(B3 q).symm
     rw[this,h,Bl]
    .rw[yH e,Bi]
   have k:St W (qn2 Zs qc m f (qx (Ai (α:=Nat) (β:=LeD)) (bs.filter (qu2 B.grace now S))) (S++[y.1])::qz ((qp (bs.filter (qu2 B.grace now S)) y.1).map λz=>qu z.2.1 z.2.2)::Row b 168 (bkV B m)::Row g 94 [qc b]::Row j 2 [Zi Zk now]::F) U:=zl 6 [2,3,1,4,5] u rfl;refine q6v kS uMl k y.1 λw3 d _=>?_;rw[qo7]at d;exact⟨⟨S++[y.1],by rw[H];exact d⟩,p _ _ _ _ _ ((q2a _ _).map _) n d⟩
  .have H:bs.filter (qu2 B.grace now (S++[y.1]))=bs.filter (qu2 B.grace now S):=by
    rw[R];refine Au.2 λz r=>?_;by_cases e:z.1=y.1
    .have:z.2=y.2:=by have q:=q24 c (show(z.1,z.2)∈bs.filter (qu2 B.grace now S)from r);rw[e,A]at q;exact(B3 q).symm
     rw[this,h,Bh];rfl
    .rw[yH e,Bi];rfl
   have k:St W (qu y.2.1 y.2.2::qz ((qp (bs.filter (qu2 B.grace now S)) y.1).map λz=>qu z.2.1 z.2.2)::qn2 Zs qc m f (qx (Ai (α:=Nat) (β:=LeD)) (bs.filter (qu2 B.grace now S))) (S++[y.1])::Row b 168 (bkV B m)::Row g 94 [qc b]::Row j 2 [Zi Zk now]::F) U:=zl 6 [0,3,2,1,4,5] u rfl;have d:=(q95 ((aget_perm A).map λz:ByteArray×Nat×LeD=>qu z.2.1 z.2.2).symm k).p1;exact⟨⟨S++[y.1],by rw[H];exact d⟩,p _ _ _ _ _ (List.Sublist.refl _) n d⟩
def qqp(a:St W (q41 b B::F) w):qb Zp 128 #[qc b,Zi Zk now] w λv w'=>∃p c,v=Zl p (qm7 B now).2.length c/\(qm7 B now).2.length<=64/\St W (SlA 55 6 leV p c (qm7 B now).2::q41 b (qm7 B now).1::F) w':=by
 unfold qm7;refine F128_of (zh a λg w a=>zh a λj w a=>z13 0 a rfl rfl ((q57 now a).of λv w ⟨f,a⟩=>⟨_,f,za (λh=>?_) λh=>?_⟩))
 .rw[yB (by simpa using h)];exact⟨Av,0,rfl,by simp,z09 (zl 3 [2] a rfl)⟩
 rw[yA (by simpa using h)];have a:St W (q41 b B::Row g 94 [qc b]::Row j 2 [Zi Zk now]::F) w:=zl 3 [2,1,0] a rfl;obtain⟨m,y,a⟩:=z0s a;refine LdP.n 2 a rfl rfl ((qef (qad now) (q9d B.grace) y (λd q l n o w K a i=>?_) (λd q l n o w K a i=>?_) a).of λv w ⟨p,c,f,k,u,a⟩=>⟨_,_,_,f,?_⟩)
 .have e:=z6 W (Row q 55 (leV d)::Row b 168 (bkV B m)::l::n::o::Row g 94 [qc b]::Row j 2 [Zi Zk now]::F);unfold qad at i;have r:qb Zp 199 #[qc q,qc j] w K:=by
   refine F199_of ⟨StC W _,zd a,z7 ⟨_,z0t 0 e rfl rfl,za (λh=>z7 ⟨_,zi 0 e rfl rfl,_,z02 6 e rfl rfl,λG w t=>?_⟩) λh G w t=>?_⟩⟩;.have:=i w (zb t);rw[h]at this;exact this
   .have:=i w (zb t);rw[h]at this;exact this
  exact zw (by kernel_rfl) r
 .have e:=z6 W (Row q 55 (leV d)::Row b 168 (bkV B m)::l::n::o::Row g 94 [qc b]::Row j 2 [Zi Zk now]::F);have r:qb Zp 200 #[qc q,qc g] w K:=by refine F200_of ⟨StC W _,zd a,z7 ⟨_,zi 0 e rfl rfl,_,zy 5 e rfl rfl,z7 ⟨_,zi 1 e rfl rfl,zk (α:=Unit) (V:=λ_=>Zt #[]) (B:=λ_=>qu q (q9d B.grace d)::Row b 168 (bkV B m)::l::n::o::Row g 94 [qc b]::Row j 2 [Zi Zk now]::F) () e (λG w h=>(q6f h).of λv w' ⟨f,h⟩=>⟨f,(),rfl,h⟩) λ_=>⟨rfl,trivial,λG w h=>i w (zb h)⟩⟩⟩⟩
  exact zw (by kernel_rfl) r
 have s:=yE Ax u;rw[A1,A1]at s;refine LdP.n 3 a rfl rfl (z7 (zv 1 a rfl rfl ?_));have a:=zl 5 [1,2,3,4,0] a rfl;refine(qmt a).of λv w ⟨f,a⟩=>⟨f,p,c,rfl,k,?_⟩;exact(z0u (B:={ B with L:=(qk4 (qad now) (q9d B.grace) B.L).1.filter λx=>!(qv4 B.grace x.2 now==0)}) m (Aj (Am _ _) (by omega)) a).p1
end
end
section
structure qac where
 vis:Int
 name:ByteArray
 ten:ByteArray
 epoch:Int
structure TkD where
 p:qac
 text:ByteArray
def q12(d:qac):List Ad:=[Zi Zk d.vis,Zs d.name,Zs d.ten,Zi Zk d.epoch]
def tkV(d:TkD):List Ad:=[Zi Zk d.p.vis,Zs d.p.name,Zs d.p.ten,Zi Zk d.p.epoch,Zs d.text]
def qmf(d:TkD):(tkV d).length=5:=rfl
def qvz(d:TkD):∀v∈tkV d,qn1 v:=λv h=>by simp only[tkV,A7,Ab,yK]at h;rcases h with rfl|rfl|rfl|rfl|rfl<;>trivial
def q3j:Zp.underlying 173=A2 (.slice 346):=Tryz.underlying173
def iTk:Zp.info? 346=A2 Tryz.t346:=by kernel_rfl
def sTk:Tryz.t346.size=5:=rfl
def bTk:Tryz.t346.bytes<=1000:=by decide+kernel
def zTk:∃z,Tryz.t346.zero=A2 z/\z.cells=#[Zi Zk 0,Zs ⟨#[]⟩,Zs ⟨#[]⟩,Zi Zk 0,Zs ⟨#[]⟩]:=⟨_,rfl,rfl⟩
def qnk{W w:A8}{F:List Asn}{p:Option B6}{c:Nat}{xs:List TkD}{r:Ad}(g:TkD->Bool)(u:Rd F p (xs.flatMap tkV))(B:xs.length<=9223372036854775807)
 (t:∀(x:TkD),x∈xs->∀(w:A8) (K:Ad->A8->Prop),St W F w->(∀w',St W F w'->K (Zb (g x)) w')->q01 Zp 4 r [Zg (tkV x).toArray] w K) (d:St W F w):
 qb Zp 283 #[Zl p xs.length c,r] w λv w'=>v=Zi Zk (qt4 g xs)/\St W F w':=by
 refine F283_of ⟨λvs w=>∃i:Nat,vs=[Zi Zk i]/\i<=xs.length/\(∀j y,j<i->xs[j]?=A2 y->g y=A6)/\St W F w,leftN xs.length,⟨0,rfl,by omega,λj y h=>by omega,d⟩,λx w s=>?_⟩;obtain⟨i,A,C,o,d⟩:=s;cases A;refine za (λb=>?_) λm=>?_
 .have b:i<xs.length:=by have:=yC b;omega
  have k:xs[i]?=A2 (xs[i]'b):=A0 _;generalize xs[i]'b=y at k;refine z0e (f:=tkV) (size:=5) (λ_=>rfl) (by omega) u d rfl b k λa l=>⟨_,l 0 _ rfl,⟨_,l 1 _ rfl,⟨_,l 2 _ rfl,⟨_,l 3 _ rfl,⟨_,l 4 _ rfl,t y (B4 k) w _ d λw' d=>⟨_,rfl,?_⟩⟩⟩⟩⟩⟩;cases hy:g y with
  |true=>exact⟨by rw[qs8 k hy o],d⟩
  |false=>
   rw[up b B];exact⟨⟨i+1,rfl,by omega,λj z D q=>by
    by_cases e:j=i;.subst e;rw[k]at q;cases q;exact hy
    .exact o j z (by omega) q,d⟩,by show xs.length -(i+1)<xs.length - i;omega⟩
 have n:i=xs.length:=by have:=yD m;omega
 subst n;exact⟨by rw[qq8 λj y h=>o j y (Ae.1 h).1 h],d⟩
def qco{p:Option B6}{n c i:Nat}(f:i<n)(d:n<=c)(w:A8):Sem.run Zp (Instr.sliceAt 173 (Zl p n c) (A2 (Zi Zk (i:Int))) (A2 (Zi Zk ((i+1:Nat):Int))) (A2 (Zi Zk (n:Int)))) w=.ok (.slice (if n=i then p else p.map (·.add (i*5))) 1 (n - i)) w:=by
 have g:¬((n:Int)<0):=by omega
 have h:i+1<=n:=by omega
 have a:((i:Int)+1)<=(n:Int):=by omega
 have e:(0:Int)<=(i:Int)+1:=by omega
 have b:(i:Int)<=(i:Int)+1:=by omega
 simp[Instr.sliceAt,run_underlying q3j,Instr.slice,Instr.sliceBounds,Instr.sliceBound,asIntOf,sizeOf,typeInfo,iTk,sTk,Result.andThen,d,h,a,e,b];done
def q5r(os:List TkD)(i:Nat):(os.eraseIdx i).flatMap tkV=(os.take i).flatMap tkV++(os.drop (i+1)).flatMap tkV:=by rw[List.eraseIdx_eq_take_drop_succ,B5]
section
variable{W w:World}{F:List Asn}{p:Option Addr}{c:Nat}{os:List TkD}
def q9m{i:Nat}(Y:i<os.length)(Q:os.length<=1000)(D:St W (SlA 346 5 tkV p c os::F) w):qb Zp 227 #[Zl p os.length c,Zi Zk (i:Int),Zi Zk ((i+1:Nat):Int)] w λv w'=>v=Zl p (os.eraseIdx i).length c/\St W (SlA 346 5 tkV p c (os.eraseIdx i)::F) w':=by
 have N:os.length<=c:=SlA.le D;obtain⟨q,all,J,r,C,hR⟩:=qi.opened (by omega) D;clear D;subst J;refine F227_of ⟨_,qco Y N,_,_,_,rfl,zm ?_ ?_⟩;.simp;omega
 have hC:=z6 W (Row q 346 all::F);have u:(os.eraseIdx i).length=os.length - 1:=A9 Y;refine⟨StC W _,zd hR,⟨by omega,by omega,by omega⟩,⟨by omega,by omega,by omega⟩,?_⟩;rw[yA (by show ¬c=0;omega)];have d:((os.drop (i+1)).flatMap tkV).length=(os.length -(i+1))*5:=by rw[qh3 tkV 5 qmf,Bb]
 have hfl:(os.flatMap tkV).length=os.length*5:=qh3 tkV 5 qmf os;have l:((os.take i).flatMap tkV).length=i*5:=by rw[qh3 tkV 5 qmf,List.length_take,Bf (by omega)]
 have a:os.flatMap tkV=(os.take i).flatMap tkV++(tkV os[i]++(os.drop (i+1)).flatMap tkV):=by rw[<-List.flatMap_cons,<-B5];congr 1;rw[<-List.drop_eq_getElem_cons Y,List.take_append_drop]
 have y:∀(G:List (Nat×Obj)) (w:A8) (K:Ad->A8->Prop),St W (Row q 346 all::(F++pts G)) w->(∀w',St W (Row q 346 (qm1 all (i*5) ((os.drop (i+1)).flatMap tkV))::(F++pts G)) w'->K (.slice (A2 ⟨q,0,Av⟩) (os.length - 1) c) w')->Run Zp (Builtin.append_ #[173,173] 173 #[.slice ((A2 ⟨q,0,Av⟩:Option B6).map (·.add (A5 0*5))) (A5 (i:Int) - A5 0) (c - A5 0),.slice (if c=A5 ((i+1:Nat):Int)then A2 ⟨q,0,Av⟩else(A2 ⟨q,0,Av⟩:Option B6).map (·.add (A5 ((i+1:Nat):Int)*5))) (A5 (os.length:Int) - A5 ((i+1:Nat):Int)) (c - A5 ((i+1:Nat):Int))]) w K:=λG w K h hK=>by
  simp only[Ak,Int.toNat_zero,Nat.zero_mul,Bm,Aq,qi1,Ac];obtain⟨w',M,g⟩:=qu4 (P:=Zp) (o:=i*5) ((os.drop (i+1)).flatMap tkV) 0 all w h (by rw[r,d];omega) (λv H=>by obtain⟨x,_,hx⟩:=List.mem_flatMap.1 H;exact qvz x v hx)
  rw[Bn,qo8 _ _ _ (by rw[r,d];omega)]at g;have O:(Builtin.firstCells 5 (os.length -(i+1)) (.slice (if c=i+1 then A2 ⟨q,0,Av⟩else A2 ⟨q,(i+1)*5,Av⟩) (os.length -(i+1)) (c -(i+1)))).run Zp w=.ok ((os.drop (i+1)).flatMap tkV).toArray w:=by
   refine qw3 (λj v hj=>?_) d (λJ=>by split at J<;>cases J);have U:=(Ae.1 hj).1;rw[d]at U;rw[yA (by intro hc;omega)];refine⟨_,rfl,?_⟩;rw[qi1];have E:all[(i+1)*5+j]?=A2 v:=by
    have L:(all.take (os.length*5))[(i+1)*5+j]?=A2 v:=by rw[C,a,Aa (by rw[l];omega),l,Aa (by rw[qmf];omega),qmf];rw[show(i+1)*5+j - i*5 - 5=j by omega];exact hj
    rw[B7,yB (by omega)]at L;exact L
   exact h.ld E
  refine⟨_,w',q84 (e:=346) (size:=5) (m:=os.length -(i+1)) q3j (.inr ⟨_,q3j⟩) iTk sTk (by omega) (λs=>rfl) O (.inr ⟨_,rfl,by rw[qi1,Ac];exact M⟩),?_⟩;rw[show i+(os.length -(i+1))=os.length - 1 by omega];exact hK w' g
 refine zk (α:=Unit) (V:=λ_=>.slice (A2 ⟨q,0,Av⟩) (os.length - 1) c) (B:=λ_=>Row q 346 (qm1 all (i*5) ((os.drop (i+1)).flatMap tkV))::F) () hC (λG w h=>y G w _ (by exact h) λw' h=>⟨_,_,_,rfl,(),rfl,h⟩) λ_=>⟨_,_,_,rfl,trivial,λG w h=>?_⟩;have D:=zb h;refine⟨⟨by omega,by omega,by omega⟩,?_⟩;rw[yA (by show ¬c=A5 ((os.length - 1:Nat):Int);omega)];simp only[Ak,Aq,qi1,Ac];rw[show os.length -(os.length - 1)=1 by omega];obtain⟨z,hz,I⟩:=zTk;obtain⟨zs,t⟩:∃zs,(B0 z.cells 1).toList=zs:=⟨_,rfl⟩;have f:zs.length=5:=by rw[<-t,Array.length_toList,qm5,I];rfl
 have h3:∀v∈zs,qn1 v:=by
  rw[<-t,I];intro v H;have e:(B0 #[Zi Zk 0,Zs ⟨#[]⟩,Zs ⟨#[]⟩,Zi Zk 0,Zs ⟨#[]⟩] 1).toList=[Zi Zk 0,Zs ⟨#[]⟩,Zs ⟨#[]⟩,Zi Zk 0,Zs ⟨#[]⟩]:=by simp[B0];rfl
  rw[e]at H;simp only[A7,Ab,yK]at H;rcases H with rfl|rfl|rfl|rfl|rfl<;>trivial
 have k:(qm1 all (i*5) ((os.drop (i+1)).flatMap tkV)).length=c*5:=by rw[q94 _ _ _ (by rw[r,d];omega),r]
 obtain⟨w',M,g⟩:=qu4 (P:=Zp) (o:=(os.length - 1)*5) zs 0 _ w D (by rw[k,f];omega) h3;rw[Bn,qo8 _ _ _ (by rw[k,f];omega)]at g;have n:(Bj #[173] 0 #[.slice (A2 ⟨q,(os.length - 1)*5,Av⟩) 1 (c -(os.length - 1))]).run Zp w=.ok (Zt #[]) w':=by simp[Bj,run_underlying q3j,zeroValue,typeInfo,iTk,hz,t,M]
 refine⟨_,w',n,by rw[u],?_⟩;refine z0x (q:=q) (all:=qm1 (qm1 all (i*5) ((os.drop (i+1)).flatMap tkV)) ((os.length - 1)*5) zs) (by rw[q94 _ _ _ (by rw[k,f];omega),k]) (by rw[u];omega) ?_ g;rw[u,q5r];have A:all.take (i*5)=(os.take i).flatMap tkV:=by
  have L:(all.take (os.length*5)).take (i*5)=all.take (i*5):=by rw[List.take_take,Bf (by omega)]
  rw[<-L,C,a,Af l]
 have R:(os.length - 1)*5=i*5+(os.length -(i+1))*5:=by omega
 have h0:((os.take i).flatMap tkV++(os.drop (i+1)).flatMap tkV).length=(os.length - 1)*5:=by rw[Aw,l,d,R]
 have e1:∀(X Z zs T:List Ad) (b:Nat),X.length=b->((X++Z).take b++zs++T).take b=X:=by intro X Z zs T b Q;rw[Af Q,List.append_assoc,Af Q]
 unfold qm1;rw[A];exact e1 _ _ _ _ _ h0
end
end
section
structure TkB where
 key:List UInt8
 serial:Int
 good:List TkD
def tbV(T:TkB)(h:Option B6)(w:Nat)(p:Option B6)(c:Nat):List Ad:=[Zl h T.key.length w,Zi Zk T.serial,Zl p T.good.length c]
def q03(b:Nat)(T:TkB):Asn:=exA λx:Option B6×Nat×Option B6×Nat=>qz [prA (T.good.length<=64/\T.key.length<=1000),Row b 175 (tbV T x.1 x.2.1 x.2.2.1 x.2.2.2),SlA 346 5 tkV x.2.2.1 x.2.2.2 T.good,qi 5 1 x.1 T.key.length x.2.1 (T.key.map qd)]
def zeP:qac:=⟨0,⟨#[]⟩,⟨#[]⟩,0⟩
def qbx(n:Int):List UInt8:=if 0<=n/\n<10 then [UInt8.ofNat (48+n.toNat)]else qp7 n
def qqx(n:Int):qbx n=qp7 n:=by
 unfold qbx;split
 .rename_i h;have a:∀k:Fin 10,[UInt8.ofNat (48+k.val)]=Lib.itoa (k.val:Int):=by decide+kernel
  have w:=a ⟨n.toNat,by omega⟩;simp only[Int.toNat_of_nonneg h.1]at w;unfold qp7;rw[yA (by omega),yA (by omega),w]
 .rfl
def q7w(n:Int):(qp7 n).length<=21:=by
 unfold qp7;split;.simp
 .split;.simp
  .exact Lib.itoa_length_le n (by omega) (by omega)
def qd7(s:ByteArray):ByteArray:=s.extract 0 (A5 (if 255<(s.size:Int)then 255 else(s.size:Int)))
def qdq(s:ByteArray):(qm (qd7 s)).length<=255:=by
 have:(qm (qd7 s)).length=(qd7 s).size:=by simp[qm]
 rw[this];unfold qd7;rw[ByteArray.size_extract];split<;>omega
def qei(key:List UInt8)(serial:Int)(drawn:ByteArray):ByteArray:=(mkS (q07 key [qbx serial,qm (qd7 drawn)])).extract 0 32
def ofT(T:TkB)(vis:Int):Int:=qt4 (λt:TkD=>t.p.vis==vis) T.good
def q5l(T:TkB)(vis:Int):TkB×Bool:=if ofT T vis>=0 then({ T with good:=T.good.eraseIdx (ofT T vis).toNat},A4)else(T,A6)
def qca(T:TkB)(p:qac)(drawn:ByteArray):TkB×ByteArray×Int:=
 if ofT T p.vis>=0 then(T,⟨#[]⟩,4)else if T.good.length=64 then(T,⟨#[]⟩,2)else
 ({ T with serial:=Zw Zk (T.serial+1),good:=T.good++[⟨p,qei T.key (Zw Zk (T.serial+1)) drawn⟩]},qei T.key (Zw Zk (T.serial+1)) drawn,0)
def qw7(T:TkB)(text ten:ByteArray):TkB×qac×Int:=
 match T.good[(qt4 (λt:TkD=>decide (t.text=text)) T.good).toNat]? with
 |none=>(T,zeP,151)
 |some t=>if qt4 (λt:TkD=>decide (t.text=text)) T.good<0 then(T,zeP,151)else if t.p.ten≠ten then(T,zeP,131)else({ T with good:=T.good.eraseIdx (qt4 (λt:TkD=>decide (t.text=text)) T.good).toNat},t.p,0)
section
variable{W w:World}{F:List Asn}{b:Nat}{T:TkB}{vis:Int}
def q03.open_(h:St W (q03 b T::F) w):∃a d p c,(T.good.length<=64/\T.key.length<=1000)/\St W (Row b 175 (tbV T a d p c)::SlA 346 5 tkV p c T.good::qi 5 1 a T.key.length d (T.key.map qd)::F) w:=by obtain⟨⟨a,d,p,c⟩,h⟩:=h.of_ex;obtain⟨e,h⟩:=h.of_sep.of_pr;exact⟨a,d,p,c,e,h⟩
def q03.shut(a:Option B6)(d:Nat)(p:Option B6)(c:Nat)(e:T.good.length<=64/\T.key.length<=1000)(h:St W (Row b 175 (tbV T a d p c)::SlA 346 5 tkV p c T.good::qi 5 1 a T.key.length d (T.key.map qd)::F) w):St W (q03 b T::F) w:=
 z00 (a,d,p,c) (zj (l:=[_,_,_,_]) (z01 e h))
def q5t(key:List UInt8)(f:key.length<=1000)(a:St W F w):qb Zp 40 #[Zs (mkS key)] w λv w'=>∃b,v=qc b/\St W (q03 b ⟨key,0,[]⟩::F) w':=by refine F40_of (qcb uS uB uU8 a λq c w e a=>⟨_,_,_,rfl,zh a λb w a=>⟨b,rfl,q03.shut (A2 ⟨q,0,Av⟩) c Av 0 ⟨by simp,f⟩ ?_⟩⟩);have a:St W (Row q 5 (key.map qd++List.replicate (c - key.length) (Zi .u8 0))::Row b 175 (tbV ⟨key,0,[]⟩ (A2 ⟨q,0,Av⟩) c Av 0)::F) w:=a.p1;have d:=z0x (t:=5) (size:=1) (n:=key.length) (c:=c) (cs:=key.map qd) (by simp;omega) e (by rw[Nat.mul_one];exact Af (by simp)) a;exact zf 0 1 (z09 (zf 0 1 d rfl)) rfl |> λh=>h
def qcw{x:TkD}{q:Nat}{G:List Asn}{K:Ad->A8->Prop}(h:St W (Row q 3 [Zi Zk vis]::G) w)(c:∀w',St W (Row q 3 [Zi Zk vis]::G) w'->K (Zb (x.p.vis==vis)) w'):q01 Zp 4 (.func (.func 284) #[] #[Zq (A2 ⟨q,0,Av⟩)]) [Zg (tkV x).toArray] w K:=by
 have a:qb Zp 284 #[Zg #[Zi Zk x.p.vis,Zs x.p.name,Zs x.p.ten,Zi Zk x.p.epoch,Zs x.text],Zq (A2 ⟨q,0,Av⟩)] w K:=
  F284_of (zh h λb w h=>z8 0 h rfl rfl (z13 1 h rfl rfl (c w h.drop)))
 exact zw (by kernel_rfl) a
def qzv{x:TkD}{q:Nat}{s:ByteArray}{G:List Asn}{K:Ad->A8->Prop}(h:St W (Row q 9 [Zs s]::G) w)(c:∀w',St W (Row q 9 [Zs s]::G) w'->K (Zb (decide (x.text=s))) w'):q01 Zp 4 (.func (.func 389) #[] #[Zq (A2 ⟨q,0,Av⟩)]) [Zg (tkV x).toArray] w K:=by
 have a:qb Zp 389 #[Zg #[Zi Zk x.p.vis,Zs x.p.name,Zs x.p.ten,Zi Zk x.p.epoch,Zs x.text],Zq (A2 ⟨q,0,Av⟩)] w K:=
  F389_of (zh h λb w h=>zg 0 h rfl rfl (LdS.n 1 h rfl rfl (by rw[qrc];exact c w h.drop)))
 exact zw (by kernel_rfl) a
def qan(h:St W (q03 b T::F) w):qb Zp 226 #[qc b,Zi Zk vis] w λv w'=>v=Zi Zk (ofT T vis)/\St W (q03 b T::F) w':=by obtain⟨e,f,p,c,a,h⟩:=q03.open_ h;refine F226_of (zh h λi w h=>z7 (zr 1 h rfl rfl ?_));exact(qnk (λt=>t.p.vis==vis) (z06 2 rfl λF=>z0g F) (by omega) (λx _ w K h g=>qcw h g) h).of λv w ⟨d,h⟩=>⟨_,d,rfl,q03.shut e f p c a h.drop⟩
def qfx{α:Type}{g:α->Bool}{xs:List α}(h:qt4 g xs>=0):∃i:Nat,qt4 g xs=(i:Int)/\i<xs.length/\∃x,xs[i]?=A2 x/\g x=A4:=by
 rcases q0j (g:=g) (xs:=xs)with ⟨a,_⟩|⟨i,x,a,w,b⟩
 .omega
 .exact⟨i,a,(Ae.1 w).1,x,w,List.find?_some b⟩
def qcs(a:St W (q03 b T::F) w):qb Zp 150 #[qc b,Zi Zk vis] w λv w'=>v=Zb (q5l T vis).2/\St W (q03 b (q5l T vis).1::F) w':=by
 unfold q5l;refine F150_of ((qan a).of λv w ⟨f,a⟩=>⟨_,f,za (λh=>z7 ?_) λh=>?_⟩)
 .have e:=yC h;rw[yB e,h];obtain⟨i,g,d,_⟩:=qfx e;have g:ofT T vis=(i:Int):=g;rw[g,Ak];obtain⟨k,l,p,c,j,a⟩:=q03.open_ a;have m:Zw Zk ((i:Int)+1)=((i+1:Nat):Int):=by rw[w64];omega
  rw[m];refine zr 0 a rfl rfl ((q9m d (by omega) (zf 1 0 a rfl)).of λv w ⟨f,a⟩=>⟨_,_,_,f,z7 (St1.zz 1 a rfl λw a=>⟨rfl,q03.shut (T:={ T with good:=T.good.eraseIdx i}) k l p c ⟨?_,j.2⟩ (St.p1 a)⟩)⟩);show(T.good.eraseIdx i).length<=64;rw[A9 d];omega
 .have e:=yD h;rw[yA e,h];exact⟨rfl,a⟩
def qjq{key:List UInt8}{ws:List (List UInt8)}(h:qib ws=A4):(q07 key ws).length=64:=by unfold q07;rw[yB h,qyb,qke]
def q1q{p:qac}{drawn:ByteArray}(J:qc4 F)(d:St W (q03 b T::F) w):qb Zp 352 #[qc b,Zg (q12 p).toArray,Zs drawn] w λv w'=>v=Zt #[Zs (qca T p drawn).2.1,Zi Zk (qca T p drawn).2.2]/\St W (q03 b (qca T p drawn).1::F) w':=by
 unfold qca;refine F352_of (zh d λg w d=>z8 0 d rfl rfl ?_);have d:St W (q03 b T::Row g 344 (q12 p)::F) w:=d.p1;refine(qan d).of λv w ⟨u,d⟩=>⟨_,u,za (λh=>?_) λh=>?_⟩;.rw[yB (yC h)];exact⟨rfl,d.p1.drop⟩
 rw[yA (yD h)];obtain⟨f,e,q,c,E,d⟩:=q03.open_ d;refine z7 (zr 0 d rfl rfl (za (λo=>?_) λo=>?_))
 .have o:(T.good.length:Int)=64:=by simpa using o
  rw[yB (show T.good.length=64 by omega)];exact⟨rfl,q03.shut f e q c E (zl 4 [0,1,2] d rfl)⟩
 have o:¬(T.good.length:Int)=64:=by simpa using o
 rw[yA (show ¬T.good.length=64 by omega)];refine z7 (z8 0 d rfl rfl (z7 (St1.zz 0 d rfl λw d=>?_)));obtain⟨a,l⟩:∃a,Zw Zk (T.serial+1)=a:=⟨_,rfl⟩;rw[l];have d:St W (Row b 175 (tbV { T with serial:=Zw Zk (T.serial+1)} f e q c)::SlA 346 5 tkV q c T.good::qi 5 1 f T.key.length e (T.key.map qd)::Row g 344 (q12 p)::F) w:=d;rw[l]at d;have j:=z6 W (Row b 175 (tbV { T with serial:=a} f e q c)::SlA 346 5 tkV q c T.good::qi 5 1 f T.key.length e (T.key.map qd)::Row g 344 (q12 p)::F);refine⟨StC W _,zd d,z7 (z7 ⟨⟨by omega,by split<;>omega,by split<;>omega⟩,_,_,_,QtL.a 0 j rfl rfl,_,zi 0 j rfl rfl,?_⟩)⟩;have t:drawn.extract (A5 0) (A5 (if 255<(drawn.size:Int)then 255 else(drawn.size:Int)))=mkS (qm (qd7 drawn)):=by unfold qm;rw[qd5];rfl
 rw[t];have y:qib [qp7 a,qm (qd7 drawn)]=A4:=qxh λs H=>by
  simp only[A7,Ab,yK]at H;rcases H with rfl|rfl;.exact Aj (q7w a) (by omega)
  .exact qdq drawn
 refine zk (α:=Unit) (V:=λ_=>Zs (mkS (qp7 a))) (B:=λ_=>Row b 175 (tbV { T with serial:=a} f e q c)::SlA 346 5 tkV q c T.good::qi 5 1 f T.key.length e (T.key.map qd)::Row g 344 (q12 p)::F) () j (λG w h=>(qwb a (((((J.cons _).cons _).cons _).cons _).app _) h).of λv w' ⟨u,h⟩=>⟨_,u,(),rfl,h⟩) λ_=>⟨_,rfl,QtL.a 0 ir rfl rfl,λr=>?_⟩;refine zk (α:=Unit) (V:=λ_=>Zs (mkS (q07 T.key [qp7 a,qm (qd7 drawn)]))) (B:=λ_=>Row b 175 (tbV { T with serial:=a} f e q c)::SlA 346 5 tkV q c T.good::qi 5 1 f T.key.length e (T.key.map qd)::Row g 344 (q12 p)::F) () (ir.push r _) (λG w h=>?_) λ_=>⟨_,rfl,trivial,?_⟩
 .have h:St W (Pt r (.cells #[Zs (mkS (qp7 a)),Zs (mkS (qm (qd7 drawn)))] 9)::Row b 175 (tbV { T with serial:=a} f e q c)::SlA 346 5 tkV q c T.good::qi 5 1 f T.key.length e (T.key.map qd)::Row g 344 (q12 p)::(F++pts G)) w:=h;have h:=h.imp z0c;exact(qqe (k:=T.key) (ws:=[qp7 a,qm (qd7 drawn)]) (z06 3 rfl λF=>z0j F) (by have:=(qi.le (zf 3 0 h rfl)).2;exact this) (by omega) (z06 0 rfl λF=>z0m) (by simp) h).of λv w' ⟨u,h⟩=>⟨_,u,(),rfl,h.drop⟩
 have A:=qjq (key:=T.key) y;have D:(mkS (q07 T.key [qp7 a,qm (qd7 drawn)])).extract (A5 0) (A5 32)=qei T.key a drawn:=by unfold qei;rw[qqx];rfl
 refine⟨⟨by omega,by omega,by rw[qf1,A];omega⟩,?_⟩;rw[D];generalize qei T.key a drawn=n;intro G w h;have d:=zb h;have j:=z6 W (Row b 175 (tbV { T with serial:=a} f e q c)::SlA 346 5 tkV q c T.good::qi 5 1 f T.key.length e (T.key.map qd)::Row g 344 (q12 p)::F);refine⟨StC W _,zd d,z7 ⟨_,_,_,QtL.a 0 j rfl rfl,_,_,_,_,λG w h=>z8 3 ((j G w).1 h) rfl rfl (zg 3 ((j G w).1 h) rfl rfl (zg 3 ((j G w).1 h) rfl rfl (z8 3 ((j G w).1 h) rfl rfl ⟨rfl,h⟩))),λm=>?_⟩⟩;refine zk (α:=Option B6×Nat) (V:=λx=>.slice x.1 (T.good++[TkD.mk p n]).length x.2) (B:=λx=>SlA 346 5 tkV x.1 x.2 (T.good++[TkD.mk p n])::Row b 175 (tbV { T with serial:=a} f e q c)::qi 5 1 f T.key.length e (T.key.map qd)::F) (Av,0) (ir.push m _) (λG w h=>?_) λx=>⟨_,_,_,rfl,trivial,z7 (z0q 1 ir rfl (by simp[tbV]) ⟨rfl,trivial,λG w h=>⟨rfl,?_⟩⟩)⟩
 .have h:St W (Pt m (.cells (tkV ⟨p,n⟩).toArray 346)::Row b 175 (tbV { T with serial:=a} f e q c)::SlA 346 5 tkV q c T.good::qi 5 1 f T.key.length e (T.key.map qd)::Row g 344 (q12 p)::(F++pts G)) w:=h;have h:St W (Row m 346 (tkV ⟨p,n⟩)::Row b 175 (tbV { T with serial:=a} f e q c)::SlA 346 5 tkV q c T.good::qi 5 1 f T.key.length e (T.key.map qd)::Row g 344 (q12 p)::(F++pts G)) w:=h.imp z0c;obtain⟨z,I,C⟩:=zTk;refine qf3 (os:=T.good) (xs:=[TkD.mk p n]) qmf q3j (.inr ⟨_,q3j⟩) iTk sTk I (by rw[C];rfl) 2 h rfl (z0z 0 λi v h=>by simpa using h) rfl qvz (by have:=bTk;simp only[An,Ap];exact Aj (As _ this) (by omega)) (by simp;omega) λL K w h=>⟨_,_,_,rfl,(L,K),rfl,?_⟩;exact zl 5 [2,1,3] h rfl
 .exact q03.shut (T:={ T with serial:=a,good:=T.good++[TkD.mk p n]}) f e x.1 x.2 ⟨by simp;omega,E.2⟩ (zl 3 [1,0,2] (zb h) rfl)
def quu{text ten:ByteArray}(h:qt4 (λt:TkD=>decide (t.text=text)) T.good<0):qw7 T text ten=(T,zeP,151):=by
 unfold qw7;split;.rfl
 .rw[yB h]
def qgu{text ten:ByteArray}{i:Nat}{x:TkD}(h:qt4 (λt:TkD=>decide (t.text=text)) T.good=(i:Int))(w:T.good[i]?=A2 x):qw7 T text ten=if x.p.ten≠ten then(T,zeP,131)else({ T with good:=T.good.eraseIdx i},x.p,0):=by unfold qw7;rw[h,Ak,w];dsimp only;rw[yA (by omega)]
def q3o{text ten:ByteArray}(d:St W (q03 b T::F) w):qb Zp 361 #[qc b,Zs text,Zs ten] w λv w'=>v=Zt #[Zg (q12 (qw7 T text ten).2.1).toArray,Zi Zk (qw7 T text ten).2.2]/\St W (q03 b (qw7 T text ten).1::F) w':=by
 refine F361_of (zh d λy w d=>zh d λn w d=>z7 ?_);have d:St W (q03 b T::Row y 9 [Zs text]::Row n 344 (q12 zeP)::F) w:=zl 3 [2,1,0] d rfl;obtain⟨j,k,q,c,r,d⟩:=q03.open_ d;have d:St W (Row y 9 [Zs text]::Row b 175 (tbV T j k q c)::SlA 346 5 tkV q c T.good::qi 5 1 j T.key.length k (T.key.map qd)::Row n 344 (q12 zeP)::F) w:=zf 3 0 d rfl;refine zr 1 d rfl rfl ((qnk (λt=>decide (t.text=text)) (z06 2 rfl λF=>z0g F) (by omega) (λx _ w K d A=>qzv d A) d).of λv w ⟨s,d⟩=>⟨_,s,za (λh=>?_) λh=>?_⟩)
 .rw[quu (yC h)];refine St1.zz 4 d rfl λw d=>St1.zz 4 d rfl λw d=>St1.zz 4 d rfl λw d=>St1.zz 4 d rfl λw d=>?_;exact z8 4 d rfl rfl (zg 4 d rfl rfl (zg 4 d rfl rfl (z8 4 d rfl rfl (⟨rfl,q03.shut j k q c r (zl 5 [1,2,3] d rfl)⟩))))
 have C:=yD h;obtain⟨i,z,g,x,u,_⟩:=qfx (show qt4 (λt:TkD=>decide (t.text=text)) T.good>=0 by omega);rw[qgu z u,z];have m:Rd (Row y 9 [Zs text]::Row b 175 (tbV T j k q c)::SlA 346 5 tkV q c T.good::qi 5 1 j T.key.length k (T.key.map qd)::Row n 344 (q12 zeP)::F) q (T.good.flatMap tkV):=z06 2 rfl λF=>z0g F;have e:∀a:B6,Za a 0=a:=λa=>by cases a;rfl
 refine z7 (zr 1 d rfl rfl (z0e (f:=tkV) (size:=5) qmf (by omega) m d rfl g u λa l=>⟨_,by rw[e];exact l 2 _ rfl,?_⟩));dsimp only;rw[qrc];refine za (λo=>?_) λo=>?_
 .rw[yB (by simpa using o)];refine St1.zz 4 d rfl λw d=>St1.zz 4 d rfl λw d=>St1.zz 4 d rfl λw d=>St1.zz 4 d rfl λw d=>?_;exact z8 4 d rfl rfl (zg 4 d rfl rfl (zg 4 d rfl rfl (z8 4 d rfl rfl (⟨rfl,q03.shut j k q c r (zl 5 [1,2,3] d rfl)⟩))))
 rw[yA (by simpa using o)];refine z7 (zr 1 d rfl rfl (z0e (f:=tkV) (size:=5) qmf (by omega) m d rfl g u λa l=>⟨_,by rw[e];exact l 0 _ rfl,⟨_,by rw[e];exact l 1 _ rfl,⟨_,by rw[e];exact l 2 _ rfl,⟨_,by rw[e];exact l 3 _ rfl,?_⟩⟩⟩⟩));refine zh d λp w d=>?_;refine St1.zz 0 d rfl λw d=>St1.zz 0 d rfl λw d=>St1.zz 0 d rfl λw d=>St1.zz 0 d rfl λw d=>z7 (zr 2 d rfl rfl ?_);have B:Zw Zk ((i:Int)+1)=((i+1:Nat):Int):=by rw[w64];omega
 rw[B];refine(q9m g (by omega) (zf 3 0 d rfl)).of λv w ⟨s,d⟩=>⟨_,_,_,s,z7 (St1.zz 3 d rfl λw d=>?_)⟩;have d:St W (Row p 344 (q12 x.p)::Row n 344 (q12 zeP)::Row b 175 (tbV { T with good:=T.good.eraseIdx i} j k q c)::SlA 346 5 tkV q c (T.good.eraseIdx i)::qi 5 1 j T.key.length k (T.key.map qd)::F) w:=zl 6 [1,5,3,0,4] d rfl;refine z8 0 d rfl rfl (zg 0 d rfl rfl (zg 0 d rfl rfl (z8 0 d rfl rfl (?_))));refine St1.zz 1 d rfl λw d=>St1.zz 1 d rfl λw d=>St1.zz 1 d rfl λw d=>St1.zz 1 d rfl λw d=>?_;refine z8 1 d rfl rfl (zg 1 d rfl rfl (zg 1 d rfl rfl (z8 1 d rfl rfl (⟨rfl,q03.shut (T:={ T with good:=T.good.eraseIdx i}) j k q c ⟨?_,r.2⟩ (zl 5 [2,3,4] d rfl)⟩))));show(T.good.eraseIdx i).length<=64;rw[A9 g];omega
end
end
end Go.Proofs.YtfjifcfbmhpcaaaGreatDoor
section
namespace Go.Proofs
open Go.Shelf
def Tryz.sortPair_ren:Go.Shelf.Ren:=⟨λ|6=>86|15=>109|14=>152|28=>177|29=>178|20=>229|21=>230|22=>231|23=>232|24=>233|25=>234|26=>235|27=>236|46=>285|47=>254|48=>255|49=>286|50=>287|57=>324|n=>n,λ|22=>50|24=>122|25=>198|3=>3|39=>229|0=>0|53=>34|55=>291|4=>4|46=>284|45=>283|50=>264|5=>5|9=>9|66=>365|70=>369|76=>421|77=>422|n=>n,λ|n=>n⟩
def Tryz.sortPair:Go.Proofs.SlLaysF0.n6 Tryz.prog Tryz.sortPair_ren:={
 mixed:=by kernel_rfl
 f6:=⟨Tryz.f86.name,by decide,Tryz.func86.trans (congrArg some (by kernel_rfl))⟩
 f14:=⟨Tryz.f152.name,by decide,Tryz.func152.trans (congrArg some (by kernel_rfl))⟩
 f15:=Tryz.func109.trans (congrArg some (by kernel_rfl))
 f20:=⟨Tryz.f229.name,by decide,Tryz.func229.trans (congrArg some (by kernel_rfl))⟩
 f21:=⟨Tryz.f230.name,by decide,Tryz.func230.trans (congrArg some (by kernel_rfl))⟩
 f22:=⟨Tryz.f231.name,by decide,Tryz.func231.trans (congrArg some (by kernel_rfl))⟩
 f23:=⟨Tryz.f232.name,by decide,Tryz.func232.trans (congrArg some (by kernel_rfl))⟩
 f24:=⟨Tryz.f233.name,by decide,Tryz.func233.trans (congrArg some (by kernel_rfl))⟩
 f25:=⟨Tryz.f234.name,by decide,Tryz.func234.trans (congrArg some (by kernel_rfl))⟩
 f26:=⟨Tryz.f235.name,by decide,Tryz.func235.trans (congrArg some (by kernel_rfl))⟩
 f27:=⟨Tryz.f236.name,by decide,Tryz.func236.trans (congrArg some (by kernel_rfl))⟩
 f28:=Tryz.func177.trans (congrArg some (by kernel_rfl))
 f29:=Tryz.func178.trans (congrArg some (by kernel_rfl))
 f46:=⟨Tryz.f285.name,by decide,Tryz.func285.trans (congrArg some (by kernel_rfl))⟩
 f47:=Tryz.func254.trans (congrArg some (by kernel_rfl))
 f48:=Tryz.func255.trans (congrArg some (by kernel_rfl))
 f49:=⟨Tryz.f286.name,by decide,Tryz.func286.trans (congrArg some (by kernel_rfl))⟩
 f50:=⟨Tryz.f287.name,by decide,Tryz.func287.trans (congrArg some (by kernel_rfl))⟩
 f57:=⟨Tryz.f324.name,by decide,Tryz.func324.trans (congrArg some (by kernel_rfl))⟩
 t0:=Tryz.underlying0
 a0:=Tryz.isAgg0
 z0:=Tryz.sizeOf0
 v0:=Tryz.zeroValue0
 t3:=Tryz.underlying3
 a3:=Tryz.isAgg3
 z3:=Tryz.sizeOf3
 v3:=Tryz.zeroValue3
 t4:=Tryz.underlying4
 a4:=Tryz.isAgg4
 z4:=Tryz.sizeOf4
 v4:=Tryz.zeroValue4
 t5:=Tryz.underlying5
 a5:=Tryz.isAgg5
 z5:=Tryz.sizeOf5
 v5:=Tryz.zeroValue5
 t9:=Tryz.underlying9
 a9:=Tryz.isAgg9
 z9:=Tryz.sizeOf9
 v9:=Tryz.zeroValue9
 t22:=Tryz.underlying50
 a22:=Tryz.isAgg50
 z22:=Tryz.sizeOf50
 v22:=Tryz.zeroValue50
 t25:=Tryz.underlying198
 a25:=Tryz.isAgg198
 z25:=Tryz.sizeOf198
 v25:=Tryz.zeroValue198
 t39:=Tryz.underlying229
 a39:=Tryz.isAgg229
 z39:=Tryz.sizeOf229
 v39:=Tryz.zeroValue229
 t45:=Tryz.underlying283
 a45:=Tryz.isAgg283
 z45:=Tryz.sizeOf283
 v45:=Tryz.zeroValue283
 t46:=Tryz.underlying284
 a46:=Tryz.isAgg284
 z46:=Tryz.sizeOf284
 v46:=Tryz.zeroValue284
 t50:=Tryz.underlying264
 a50:=Tryz.isAgg264
 z50:=Tryz.sizeOf264
 v50:=Tryz.zeroValue264
 t53:=Tryz.underlying34
 a53:=Tryz.isAgg34
 z53:=Tryz.sizeOf34
 v53:=Tryz.zeroValue34
 t55:=Tryz.underlying291
 a55:=Tryz.isAgg291
 z55:=Tryz.sizeOf291
 v55:=Tryz.zeroValue291
 t66:=Tryz.underlying365
 a66:=Tryz.isAgg365
 z66:=Tryz.sizeOf365
 v66:=Tryz.zeroValue365
 t70:=Tryz.underlying369
 a70:=Tryz.isAgg369
 z70:=Tryz.sizeOf369
 v70:=Tryz.zeroValue369
 t76:=Tryz.underlying421
 a76:=Tryz.isAgg421
 z76:=Tryz.sizeOf421
 v76:=Tryz.zeroValue421
 t77:=Tryz.underlying422
 a77:=Tryz.isAgg422
 z77:=Tryz.sizeOf422
 v77:=Tryz.zeroValue422}
def Tryz.sortLine_ren:Go.Shelf.Ren:=⟨λ|6=>162|15=>109|14=>243|28=>177|29=>178|20=>294|21=>295|22=>296|23=>297|24=>298|25=>299|26=>300|27=>301|46=>336|47=>254|48=>255|49=>337|50=>338|57=>369|n=>n,λ|22=>214|24=>75|25=>219|3=>3|39=>229|0=>0|53=>34|55=>291|4=>4|46=>284|45=>283|50=>264|5=>5|9=>9|66=>365|70=>369|76=>421|77=>422|n=>n,λ|n=>n⟩
def Tryz.sortLine:Go.Proofs.SlLaysF.n6 Tryz.prog Tryz.sortLine_ren:={
 mixed:=by kernel_rfl
 f6:=⟨Tryz.f162.name,by decide,Tryz.func162.trans (congrArg some (by kernel_rfl))⟩
 f14:=⟨Tryz.f243.name,by decide,Tryz.func243.trans (congrArg some (by kernel_rfl))⟩
 f15:=Tryz.func109.trans (congrArg some (by kernel_rfl))
 f20:=⟨Tryz.f294.name,by decide,Tryz.func294.trans (congrArg some (by kernel_rfl))⟩
 f21:=⟨Tryz.f295.name,by decide,Tryz.func295.trans (congrArg some (by kernel_rfl))⟩
 f22:=⟨Tryz.f296.name,by decide,Tryz.func296.trans (congrArg some (by kernel_rfl))⟩
 f23:=⟨Tryz.f297.name,by decide,Tryz.func297.trans (congrArg some (by kernel_rfl))⟩
 f24:=⟨Tryz.f298.name,by decide,Tryz.func298.trans (congrArg some (by kernel_rfl))⟩
 f25:=⟨Tryz.f299.name,by decide,Tryz.func299.trans (congrArg some (by kernel_rfl))⟩
 f26:=⟨Tryz.f300.name,by decide,Tryz.func300.trans (congrArg some (by kernel_rfl))⟩
 f27:=⟨Tryz.f301.name,by decide,Tryz.func301.trans (congrArg some (by kernel_rfl))⟩
 f28:=Tryz.func177.trans (congrArg some (by kernel_rfl))
 f29:=Tryz.func178.trans (congrArg some (by kernel_rfl))
 f46:=⟨Tryz.f336.name,by decide,Tryz.func336.trans (congrArg some (by kernel_rfl))⟩
 f47:=Tryz.func254.trans (congrArg some (by kernel_rfl))
 f48:=Tryz.func255.trans (congrArg some (by kernel_rfl))
 f49:=⟨Tryz.f337.name,by decide,Tryz.func337.trans (congrArg some (by kernel_rfl))⟩
 f50:=⟨Tryz.f338.name,by decide,Tryz.func338.trans (congrArg some (by kernel_rfl))⟩
 f57:=⟨Tryz.f369.name,by decide,Tryz.func369.trans (congrArg some (by kernel_rfl))⟩
 t0:=Tryz.underlying0
 a0:=Tryz.isAgg0
 z0:=Tryz.sizeOf0
 v0:=Tryz.zeroValue0
 t3:=Tryz.underlying3
 a3:=Tryz.isAgg3
 z3:=Tryz.sizeOf3
 v3:=Tryz.zeroValue3
 t4:=Tryz.underlying4
 a4:=Tryz.isAgg4
 z4:=Tryz.sizeOf4
 v4:=Tryz.zeroValue4
 t5:=Tryz.underlying5
 a5:=Tryz.isAgg5
 z5:=Tryz.sizeOf5
 v5:=Tryz.zeroValue5
 t9:=Tryz.underlying9
 a9:=Tryz.isAgg9
 z9:=Tryz.sizeOf9
 v9:=Tryz.zeroValue9
 t22:=Tryz.underlying214
 a22:=Tryz.isAgg214
 z22:=Tryz.sizeOf214
 v22:=Tryz.zeroValue214
 a24:=Tryz.isAgg75
 z24:=Tryz.sizeOf75
 t25:=Tryz.underlying219
 a25:=Tryz.isAgg219
 z25:=Tryz.sizeOf219
 v25:=Tryz.zeroValue219
 t39:=Tryz.underlying229
 a39:=Tryz.isAgg229
 z39:=Tryz.sizeOf229
 v39:=Tryz.zeroValue229
 t45:=Tryz.underlying283
 a45:=Tryz.isAgg283
 z45:=Tryz.sizeOf283
 v45:=Tryz.zeroValue283
 t46:=Tryz.underlying284
 a46:=Tryz.isAgg284
 z46:=Tryz.sizeOf284
 v46:=Tryz.zeroValue284
 t50:=Tryz.underlying264
 a50:=Tryz.isAgg264
 z50:=Tryz.sizeOf264
 v50:=Tryz.zeroValue264
 t53:=Tryz.underlying34
 a53:=Tryz.isAgg34
 z53:=Tryz.sizeOf34
 v53:=Tryz.zeroValue34
 t55:=Tryz.underlying291
 a55:=Tryz.isAgg291
 z55:=Tryz.sizeOf291
 v55:=Tryz.zeroValue291
 t66:=Tryz.underlying365
 a66:=Tryz.isAgg365
 z66:=Tryz.sizeOf365
 v66:=Tryz.zeroValue365
 t70:=Tryz.underlying369
 a70:=Tryz.isAgg369
 z70:=Tryz.sizeOf369
 v70:=Tryz.zeroValue369
 t76:=Tryz.underlying421
 a76:=Tryz.isAgg421
 z76:=Tryz.sizeOf421
 v76:=Tryz.zeroValue421
 t77:=Tryz.underlying422
 a77:=Tryz.isAgg422
 z77:=Tryz.sizeOf422
 v77:=Tryz.zeroValue422}
end Go.Proofs
end
namespace Go.Proofs.YtfjifcfbmhpcaaaGreatDoor
open Go
open Go.Proofs.Tryz renaming prog → Zp
open Go.IntKind renaming i64 → Zk, wrap → Zw
open Go.Addr renaming add → Za
open Go.Value renaming int → Zi, string → Zs, pointer → Zq, bool → Zb, tuple → Zt, slice → Zl, agg → Zg
open _root_.List renaming getElem?_eq_getElem->A0,length_map->A1,mem_cons->A7,length_eraseIdx_of_lt->A9,getElem?_append_right->Aa,not_mem_nil->Ab,getElem?_eq_some_iff->Ae,take_left'->Af,pairwise_cons->Ag,filter_append->Ah,length_filter_le->Am,length_cons->An,length_nil->Ap,map_append->Ar,filter_eq_self->Au,length_append->Aw,length->Ax,filter_congr->Ay,map_cons->B1,mem_map->B2,mem_of_getElem?->B4,flatMap_append->B5,getElem?_take->B7,mem_singleton->B9,size_toArray->Ba,length_drop->Bb,mem_append->Bg,filter->Bp,map->Bq
open _root_.Option renaming some->A2,map_some->Aq,none->Av
open Go.Lib renaming compareInt->A3
open _root_.Bool renaming true->A4,false->A6,not_eq_true->Ao,not_eq_true'->Az,or_eq_true->Bd,eq_iff_iff->Be,and_false->Bh,false_and->Bi,and_true->Bl
open _root_.Int renaming toNat->A5,toNat_natCast->Ak
open Go renaming World->A8,Value->Ad,Addr->B6
open _root_.Nat renaming zero_add->Ac,le_trans->Aj,mul_le_mul_left->As,le_refl->Bc,min_eq_left->Bf,sub_zero->Bm,add_zero->Bn,zero_le->Bo
open _root_.Prod renaming fst->Ai
open Go.Builtin renaming zeroCells->B0,clear_->Bj
open _root_.Option.some renaming inj->B3
section
section
variable{W w:World}{F:List Asn}{q:Nat}{t:TypeId}{all vs:List Value}
def St.putRow_id(h:St W (Row q t all::F) w)(g:vs.length<=all.length)(n:Nat)(os:Array Obj):St W (Row q t (vs++all.drop vs.length)::F) (Sort.grow (Sort.putRow id (Sort.ahead w n) q 0 vs.toArray) os):=by
 have f:St W (Row q t (vs++all.drop vs.length)::F) (Sort.putRow id (Sort.ahead w n) q 0 vs.toArray):=by
  refine St.turnRow (cs:=all) (w:=Sort.ahead w n) ⟨⟨h.1.os,h.1.tape,h.1.output,h.1.size⟩,h.2⟩ (λd b=>?_) ?_
  .refine List.ext_getElem? λj=>?_;unfold Sort.putCells;rw[Array.getElem?_toList,Array.getElem?_mapIdx];have c:d[j]?=all[j]?:=by rw[<-b,Array.getElem?_toList]
   rw[c];by_cases a:j<vs.length
   .rw[List.getElem?_append_left a,A0 (show j<all.length by omega)];simp only[Aq,Bo,yL,Ac,Ba,a,if_true,Bm,id];rw[A0 a];simp[a]
   .rw[Aa (by omega),List.getElem?_drop];have e:vs.length+(j - vs.length)=j:=by omega
    rw[e];cases all[j]? with
    |none=>rfl
    |some v=>simp only[Aq,Bo,yL,Ac,Ba,a,if_false]
  .simp;omega
 exact f.grow_ 0 os
end
section
variable{α:Type}[Inhabited α]{enc:α->List Value}{k:Nat}
def qnl(w:∀x,(enc x).length=k)(e:0<k)(l:List α):Sort.flatK enc k l.toArray=(l.flatMap enc).toArray:=by
 have a:=qh3 enc k w l;refine Array.ext (by simp[a]) λi g o=>?_;have c:i<l.length*k:=by simpa using g
 have d:i/k<l.length:=Nat.div_lt_of_lt_mul (by rwa[Nat.mul_comm]);have j:i%k<k:=Nat.mod_lt _ e;have f:=Sort.get_flatK enc k l.toArray i (by simpa using c);rw[getElem!_pos _ i g]at f;rw[f];have n:l.toArray[i/k]! =l[i/k]:=by rw[getElem!_pos _ _ (by simpa using d)];simp
 rw[n];have h:=qrd enc k e w l i;rw[A0 d,Option.bind_some]at h;have b:i%k<(enc l[i/k]).length:=by rw[w];exact j
 rw[A0 b]at h;rw[getElem!_pos (enc l[i/k]) (i%k) b];have m:i<(l.flatMap enc).length:=by rw[a];exact c
 rw[A0 m]at h;simp only[List.getElem_toArray];exact(B3 h).symm
def q2v(c:∀x,(enc x).length=k)(g:0<k){W w:A8}{F:List Asn}{q:Nat}{t:TypeId}{all:List Ad}{l:List α}(h:St W (Row q t all::F) w)(b:all.take (l.length*k)=l.flatMap enc)(m:l.length*k<=all.length):Sort.HoldsK enc k w q 0 l.toArray:=by
 unfold Sort.HoldsK;rw[qnl c g];intro j a;have n:=qh3 enc k c l;have a:j<(l.flatMap enc).length:=by simpa using a
 have f:all[j]?=A2 (l.flatMap enc)[j]:=by
  have d:(all.take (l.length*k))[j]?=A2 (l.flatMap enc)[j]:=by rw[b,A0 a]
  rw[B7,yB (by omega)]at d;exact d
 have e:=h.st (i:=j) (by omega) (Zb A4);rw[Ac];refine⟨?_,e.1.2⟩;rw[h.ld f];simp;rw[A0 a];rfl
def q5j{W w:A8}{F:List Asn}{q:Nat}{t:TypeId}{all:List Ad}(h:St W (Row q t all::F) w):q<w.heap.size:=by obtain⟨e,b,⟨d,c,a,_⟩,_⟩:=h.2;exact qr6 (w:=w) (b _ _ a)
end
end
section
structure qd6 where
 ends:List (Int×(Int×Bool))
 ever:List (Int×Int)
def qy4(e:Int×Bool):Ad:=Zg #[Zi Zk e.1,Zb e.2]
def q13(t:Nat)(P:qd6):Asn:=exA λm:Nat×Nat=>qz [Row t 179 [.map (A2 m.1),.map (A2 m.2)],qg (Zi Zk) qy4 m.1 P.ends,qg (Zi Zk) (Zi Zk) m.2 P.ever]
def uM1:Zp.underlying 176=A2 (.map 3 195):=Tryz.underlying176
def uM2:Zp.underlying 177=A2 (.map 3 3):=Tryz.underlying177
def quv:Zp.info? 195=A2 Tryz.t195:=by kernel_rfl
def q6w:Tryz.t195.zero=A2 (qy4 (0,A6)):=rfl
def qsq:Zp.info? 3=A2 Tryz.t3:=by kernel_rfl
def q6q:Tryz.t3.zero=A2 (Zi Zk 0):=rfl
def q4x(P:qd6)(id:Int):Bool:=decide ((qe P.ever id).getD 0>0)
def qb4(P:qd6)(id:Int):Int:=((qe P.ends id).getD (0,A6)).1
def qxf(P:qd6)(id:Int):qd6:=if(qe P.ends id).isSome=A4 then { P with ends:=qp (qp P.ends id) (qb4 P id)}else P
def qaj(L:List (Int×Int))(id:Int):List (Int×Int):=qk L id (Zw Zk ((qe L id).getD 0+1))
def q4g(P:qd6)(v c:Int):qd6×Int:=
 if(decide (v<1)||(decide (c<1)||(v==c)))=A4 then(P,1)else if(q4x P v||q4x P c)=A4 then(P,4)else
 (⟨qk (qk P.ends v (c,A4)) c (v,A6),qaj (qaj P.ever v) c⟩,0)
def qw4(P:qd6):List Int:=q91 leI ((P.ends.filter λx=>x.2.2).map (·.1))
def qtc(P:qd6):List (Int×Int):=(qw4 P).map λv=>(v,qb4 P v)
section
variable{W w:World}{F:List Asn}{t:Nat}{P:qd6}{id:Int}
def q13.open_(h:St W (q13 t P::F) w):∃m1 m2,St W (Row t 179 [.map (A2 m1),.map (A2 m2)]::qg (Zi Zk) qy4 m1 P.ends::qg (Zi Zk) (Zi Zk) m2 P.ever::F) w:=by obtain⟨⟨m1,m2⟩,h⟩:=h.of_ex;exact⟨m1,m2,h.of_sep⟩
def q13.shut(m1 m2:Nat)(h:St W (Row t 179 [.map (A2 m1),.map (A2 m2)]::qg (Zi Zk) qy4 m1 P.ends::qg (Zi Zk) (Zi Zk) m2 P.ever::F) w):St W (q13 t P::F) w:=z00 (m1,m2) (zj (l:=[_,_,_]) h)
def PNew_spec(h:St W F w):qb Zp 41 #[] w λv w'=>∃t,v=qc t/\St W (q13 t ⟨[],[]⟩::F) w':=
 F41_of (qs5.f (ν:=Int×Bool) (Zi Zk) qy4 h λm1 w h=>qs5.f (ν:=Int) (Zi Zk) (Zi Zk) h λm2 w h=>zh h λt w h=>⟨t,rfl,q13.shut m1 m2 (zl 3 [0,2,1] h rfl)⟩)
def qjj(L:List (Int×Int))(id:Int):((qe L id).map (Zi Zk)).getD (Zi Zk 0)=Zi Zk ((qe L id).getD 0):=by cases qe L id<;>rfl
def q1y(L:List (Int×(Int×Bool)))(id:Int):((qe L id).map qy4).getD (qy4 (0,A6))=qy4 ((qe L id).getD (0,A6)):=by cases qe L id<;>rfl
def q7m(h:St W (q13 t P::F) w):qb Zp 390 #[qc t,Zi Zk id] w λv w'=>v=Zb (q4x P id)/\St W (q13 t P::F) w':=by obtain⟨m1,m2,h⟩:=q13.open_ h;refine F390_of (z7 (zv 0 h rfl rfl (qq1 kI uM2 qsq q6q 2 h rfl id A6 ?_)));rw[yA (by simp),qjj];exact⟨_,rfl,rfl,q13.shut m1 m2 h⟩
def qnq(h:St W (q13 t P::F) w):qb Zp 228 #[qc t,Zi Zk id] w λv w'=>v=Zt #[Zi Zk (qb4 P id),Zb (qe P.ends id).isSome]/\St W (q13 t P::F) w':=by obtain⟨m1,m2,h⟩:=q13.open_ h;refine F228_of (z7 (zv 0 h rfl rfl (qq1 kI uM1 quv q6w 1 h rfl id A4 ?_)));rw[yB rfl,q1y];unfold qb4;generalize (qe P.ends id).getD (0,A6)=e;refine⟨_,_,_,rfl,zh h λb w h=>St1.zz 0 h rfl λw h=>St1.zz 0 h rfl λw h=>z8 0 h rfl rfl ⟨rfl,q13.shut m1 m2 h.drop⟩⟩
def q4v(a:St W (q13 t P::F) w):qb Zp 151 #[qc t,Zi Zk id] w λv w'=>v=Zt #[Zi Zk (qb4 P id),Zb (qe P.ends id).isSome]/\St W (q13 t (qxf P id)::F) w':=by
 unfold qxf;refine F151_of ((qnq a).of λv w ⟨b,a⟩=>⟨_,_,b,za (λh=>?_) λh=>?_⟩)
 .rw[yB h];obtain⟨m1,m2,a⟩:=q13.open_ a;exact z7 (zv 0 a rfl rfl (qc5 kI uM1 1 a rfl id λw a=>z7 (zv 0 a rfl rfl (qc5 kI uM1 1 a rfl (qb4 P id) λw a=>⟨rfl,q13.shut (P:={ P with ends:=qp (qp P.ends id) (qb4 P id)}) m1 m2 a⟩))))
 .rw[yA (by rw[h];simp)];exact⟨rfl,a⟩
def qot{v c:Int}(a:St W (q13 t P::F) w):qb Zp 362 #[qc t,Zi Zk v,Zi Zk c] w λr w'=>r=Zi Zk (q4g P v c).2/\St W (q13 t (q4g P v c).1::F) w':=by
 refine F362_of ⟨λ_ w=>q4g P v c=(⟨qk (qk P.ends v (c,A4)) c (v,A6),qaj (qaj P.ever v) c⟩,0)/\St W (q13 t P::F) w,⟨λvs w=>vs=[Zb (decide (v<1)||(decide (c<1)||(v==c)))]/\St W (q13 t P::F) w,?_,λx w i=>?_⟩,λw i=>?_⟩;.exact za (λh=>⟨by rw[h];rfl,a⟩) λh=>za (λb=>⟨by rw[h,b];rfl,a⟩) λb=>⟨by rw[h,b];rfl,a⟩
 .obtain⟨l,a⟩:=i;cases l;unfold q4g;refine za (λh=>?_) λh=>?_;.rw[yB h];exact⟨rfl,a⟩
  rw[yA (by rw[h];simp)];refine(q7m a).of λr w ⟨f,a⟩=>⟨_,f,za (λb=>zn b ?_) λb=>?_⟩;.rw[yB (by rw[b];rfl)];exact⟨rfl,a⟩
  refine(q7m a).of λr w ⟨f,a⟩=>⟨_,f,za (λg=>?_) λg=>?_⟩;.rw[yB (by rw[b,g];rfl)];exact⟨rfl,a⟩
  rw[yA (by rw[b,g];simp)];exact⟨rfl,a⟩
 .obtain⟨j,a⟩:=i;rw[j];obtain⟨m1,m2,a⟩:=q13.open_ a;have e:=z6 W (Row t 179 [.map (A2 m1),.map (A2 m2)]::qg (Zi Zk) qy4 m1 P.ends::qg (Zi Zk) (Zi Zk) m2 P.ever::F);have d:q2d Zp 3 (Zi Zk):=q2d.of kI;refine⟨StC W _,zd a,z7 (z7 ⟨_,z0a 0 e rfl rfl,_,z0a 0 e rfl rfl,?_⟩)⟩;refine zk (α:=Nat) (V:=λk=>Zt #[qy4 ((qe P.ends v).getD (0,A6)),Zi Zk (k:Int)]) (B:=λk=>qs6 (Zi Zk) qy4 m1 (qk P.ends v ((qe P.ends v).getD (0,A6))) v k::Row t 179 [.map (A2 m1),.map (A2 m2)]::qg (Zi Zk) (Zi Zk) m2 P.ever::F) 0 e (λG w h=>qve d uM1 (z:=(0,A6)) quv q6w 1 h rfl v λk w h=>⟨_,_,rfl,k,rfl,zf 1 0 h rfl⟩) λk=>⟨_,_,rfl,trivial,?_⟩;refine zk (α:=Unit) (V:=λ_=>Zt #[]) (B:=λ_=>qg (Zi Zk) qy4 m1 (qk P.ends v (c,A4))::Row t 179 [.map (A2 m1),.map (A2 m2)]::qg (Zi Zk) (Zi Zk) m2 P.ever::F) () ir (λG w h=>qvb (vl:=qy4) d (qj1 _ _ _) (c,A4) 0 h rfl λw h=>⟨(),rfl,by rw[qe7]at h;exact h⟩) λ_=>⟨rfl,trivial,?_⟩;refine zk (α:=Nat) (V:=λk=>Zt #[qy4 ((qe (qk P.ends v (c,A4)) c).getD (0,A6)),Zi Zk (k:Int)]) (B:=λk=>qs6 (Zi Zk) qy4 m1 (qk (qk P.ends v (c,A4)) c ((qe (qk P.ends v (c,A4)) c).getD (0,A6))) c k::Row t 179 [.map (A2 m1),.map (A2 m2)]::qg (Zi Zk) (Zi Zk) m2 P.ever::F) 0 ir (λG w h=>qve d uM1 (z:=(0,A6)) quv q6w 0 h rfl c λk w h=>⟨_,_,rfl,k,rfl,h⟩) λk=>⟨_,_,rfl,trivial,?_⟩;refine zk (α:=Unit) (V:=λ_=>Zt #[]) (B:=λ_=>qg (Zi Zk) qy4 m1 (qk (qk P.ends v (c,A4)) c (v,A6))::Row t 179 [.map (A2 m1),.map (A2 m2)]::qg (Zi Zk) (Zi Zk) m2 P.ever::F) () ir (λG w h=>qvb (vl:=qy4) d (qj1 _ _ _) (v,A6) 0 h rfl λw h=>⟨(),rfl,by rw[qe7]at h;exact h⟩) λ_=>⟨rfl,trivial,λG w h=>z7 ?_⟩;have a:=zb h;refine zv 1 a rfl rfl (qq1 kI uM2 qsq q6q 2 a rfl v A6 ?_);rw[yA (by simp),qjj];refine⟨_,rfl,qh1 (vl:=Zi Zk) kI uM2 2 a rfl v _ λw a=>z7 (zv 1 a rfl rfl (qq1 kI uM2 qsq q6q 2 a rfl c A6 ?_))⟩;rw[yA (by simp),qjj];exact⟨_,rfl,qh1 (vl:=Zi Zk) kI uM2 2 a rfl c _ λw a=>⟨rfl,q13.shut (P:=⟨qk (qk P.ends v (c,A4)) c (v,A6),qaj (qaj P.ever v) c⟩) m1 m2 (zl 3 [1,0,2] a rfl)⟩⟩
end
end
section
def qlp(x:Int)(w:A8):qb Zp 153 #[Zi Zk x] w λv w'=>v=Zb A6/\w'=w:=by refine F153_of ?_;simp
def ql01(x y:Int)(w:A8):qb Zp 88 #[Zi Zk x,Zi Zk y] w λv w'=>v=Zi Zk (A3 x y)/\w'=w:=by
 unfold A3;refine F88_of ((qlp x w).of λv w1 ⟨c,d⟩=>⟨_,c,(qlp y w1).of λv e ⟨c,a⟩=>⟨_,c,zm rfl (zm rfl (za (λh=>⟨?_,a.trans d⟩) λh=>za (λb=>⟨?_,a.trans d⟩) λb=>⟨?_,a.trans d⟩))⟩⟩);.rw[yB (yC h)]
 .rw[yA (yD h),yB (yC b)]
 .rw[yA (yD h),yA (yD b)]
def qfz(x h y a:Int)(w:A8):qb Zp 87 #[Zg #[Zi Zk x,Zi Zk h],Zg #[Zi Zk y,Zi Zk a]] w λv w'=>v=Zi Zk (A3 x y)/\∃q os,w'=Sort.grow (w.drewN q) os:=by refine F87_of ?_;unfold qh;have e:=(St.refl w).allocRow #[Zi Zk x,Zi Zk h] 122;have b:=e.allocRow #[Zi Zk y,Zi Zk a] 122;refine z8 1 b rfl rfl (z8 0 b rfl rfl ((ql01 x y _).of λv w' ⟨c,d⟩=>⟨_,c,rfl,0,#[.cells #[Zi Zk x,Zi Zk h] 122,.cells #[Zi Zk y,Zi Zk a] 122],?_⟩));rw[d,Sort.alloc_eq_grow,Sort.alloc_eq_grow,Sort.grow_grow];rfl
def q52(oth:Int->Int)(v:Int):List Ad:=[Zi Zk v,Zi Zk (oth v)]
def qc9(oth:Int->Int)(v:Int):(q52 oth v).length=2:=rfl
def qyy(oth:Int->Int)(x:Int):∀v∈q52 oth x,qn1 v:=λv h=>by simp only[q52,A7,Ab,yK]at h;rcases h with rfl|rfl<;>trivial
def qrs:Zp.underlying 50=A2 (.slice 122):=Tryz.underlying50
def qc01:Zp.info? 122=A2 Tryz.t122:=by kernel_rfl
def qs01:Tryz.t122.size=2:=rfl
def q601:Tryz.t122.bytes<=100:=by decide+kernel
def qm01:∃z,Tryz.t122.zero=A2 z/\z.cells.size=2:=⟨_,rfl,rfl⟩
def qzk(x y:Int):(!(ltOf A3) y x)=decide (x<=y):=by
 unfold ltOf A3;by_cases w:y<x;.rw[yB w];simp;omega
 .rw[yA w];by_cases h:y>x;.rw[yB h];simp;omega
  .rw[yA h];simp;omega
def q5z:Sort.SWO (ltOf A3):=by
 have h:∀x y:Int,ltOf A3 x y=decide (x<y):=λx y=>by
  have:=qzk y x;rw[Be]at this⊢;simp only[Az,yJ]at this⊢;by_cases b:x<y
  .constructor;.intro _;exact b
   .intro _;cases a:ltOf A3 x y with
    |true=>rfl
    |false=>have:=this.1 a;omega
  .constructor
   .intro a;have w:=this.2 (by omega);rw[a]at w;cases w
   .intro h;exact yI h b
 refine⟨λx=>by rw[h];simp,λx y z c w=>?_,λx y z c w=>?_⟩;.rw[h]at*;simp at*;omega
 .rw[h]at*;simp at*;omega
section
variable{W w:World}{F:List Asn}{oth:Int->Int}
def qmr{p:Option B6}{c:Nat}{zs:List Int}(J:zs.length<=1000000)(g:St W (SlA 122 2 (q52 oth) p c zs::F) w):
 qb Zp 86 #[Zl p zs.length c,.func (.func 87) #[] #[]] w λv w'=>v=Zt #[]/\St W (SlA 122 2 (q52 oth) p c (q91 leI zs)::F) w':=by
 by_cases u:zs=[]
 .subst u;have key:=AnyF.slices_SortFunc_none Tryz.sortPair p c (.func (.func 87) #[] #[]) w;exact Calls.mono key λe w' ⟨b,d⟩=>⟨_,b,rfl,by subst d;exact g⟩
 have f:0<zs.length:=by cases zs with|nil=>exact yI rfl u|cons _ _=>simp
 have o:zs.length<=c:=SlA.le g;obtain⟨q,all,G,a,s,j⟩:=qi.opened f g;clear g;subst G;have C:=qh3 (q52 oth) 2 (qc9 oth) zs;have E:=q2v (k:=2) (qc9 oth) (by omega) j s (by rw[a];omega);have B:∀args w,(callFunc 87 args).run Zp w=.ok (.enter 87 args) w:=enters_of Tryz.func87 (by kernel_rfl) rfl;have key:=AnyQ.slices_SortFunc_total Tryz.sortPair 2 (λw=>by kernel_rfl) (λw=>by kernel_rfl) (q52 oth) (qc9 oth) (λx v i=>by simp[q52]at i;rcases i with rfl|rfl<;>rfl) A3 q5z 87 #[] q 0 c zs.toArray w B
  (λm os I L x y=>Calls.mono (qfz x (oth x) y (oth y) _) λe w' ⟨v,b,i,d⟩=>⟨by rw[b,i],d⟩) E (q5j j) (by simp;omega) (λx y H A=>by have t:=qzk y x;have z:=qzk x y;rw[H]at t;rw[A]at z;have K:=yC t.symm;have a2:=yC z.symm;omega)
 have e:(zs.toArray.toList.mergeSort λx y=>!(ltOf A3) y x)=q91 leI zs:=by rw[show(λx y:Int=>!(ltOf A3) y x)=λx y=>decide (x<=y)from funext λx=>funext λy=>qzk x y];exact qee (List.Perm.refl _)
 rw[e]at key;have r:zs.toArray.size=zs.length:=by simp
 rw[r]at key;refine Calls.mono key λe w' ⟨b,n,os,d⟩=>⟨_,b,rfl,?_⟩;subst d;have l:(q91 leI zs).length=zs.length:=(qv1 leI zs).length_eq;have h:=qh3 (q52 oth) 2 (qc9 oth) (q91 leI zs);have D:St W (Row q 122 ((q91 leI zs).flatMap (q52 oth)++all.drop ((q91 leI zs).flatMap (q52 oth)).length)::F) (sortWorldK (q52 oth) 2 w q 0 n (q91 leI zs).toArray os):=by unfold sortWorldK Sort.putRowK;rw[qnl (qc9 oth) (by omega)];exact j.putRow_id (by rw[h,a];omega) n os
 refine z0x (all:=(q91 leI zs).flatMap (q52 oth)++all.drop ((q91 leI zs).flatMap (q52 oth)).length) ?_ (by rw[l];exact o) (by rw[<-h,Af rfl]) D;rw[Aw,Bb,h,a];omega
end
section
variable{W w:World}{F:List Asn}{t:Nat}{P:qd6}
def qfk(hl:P.ends.length<=1000000)(a:St W (q13 t P::F) w):qb Zp 47 #[qc t] w λv w'=>∃p c,v=Zl p (qw4 P).length c/\St W (SlA 122 2 (q52 (qb4 P)) p c (qw4 P)::q13 t P::F) w':=by
 obtain⟨m1,m2,a⟩:=q13.open_ a;have s:=z18 kI (zf 1 0 a rfl);refine F47_of (z7 (zv 0 a rfl rfl (qg9 uM1 1 a rfl λg w a=>?_)));have a:St W (qd1 (Zi Zk) qy4 m1 g P.ends []::SlA 122 2 (q52 (qb4 P)) Av 0 []::Row t 179 [.map (A2 m1),.map (A2 m2)]::qg (Zi Zk) (Zi Zk) m2 P.ever::F) w:=zf 0 1 (z09 (zf 1 0 a rfl)) rfl;refine⟨λvs w=>∃(V:List (Int×(Int×Bool))) (p:Option B6) (c:Nat),vs=[Zl p ((V.filter λx=>x.2.2).map (·.1)).length c]/\V.length<=P.ends.length/\(∀x∈V,x∈P.ends)/\St W (qd1 (Zi Zk) qy4 m1 g P.ends V::SlA 122 2 (q52 (qb4 P)) p c ((V.filter λx=>x.2.2).map (·.1))::Row t 179 [.map (A2 m1),.map (A2 m2)]::qg (Zi Zk) (Zi Zk) m2 P.ever::F) w,λ_ w=>q74 g P.ends.length w,⟨[],Av,0,rfl,by simp,by simp,a⟩,λop on n w0 hI=>?_⟩;obtain⟨V,p,c,T,U,o,y⟩:=hI;cases T;have r:=qd1.left y P.ends.length;refine qqb kI 0 y rfl (λB I u w a=>?_) λx d X w a=>qp9 0 a rfl λa=>?_
 .have hp:V.Perm P.ends:=(List.perm_ext_iff_of_nodup I (ql4 (·.1) s)).2 λx=>⟨u x,B x⟩;have C:((V.filter λx=>x.2.2).map (·.1)).Perm ((P.ends.filter λx=>x.2.2).map (·.1)):=(hp.filter _).map _;have a:St W (SlA 122 2 (q52 (qb4 P)) op n ((V.filter λx=>x.2.2).map (·.1))::qg (Zi Zk) qy4 m1 P.ends::Row t 179 [.map (A2 m1),.map (A2 m2)]::qg (Zi Zk) (Zi Zk) m2 P.ever::F) w:=zf 0 1 a rfl;have E:((V.filter λx=>x.2.2).map (·.1)).length<=1000000:=by rw[A1];exact Aj (Am _ _) (by omega)
  refine(qmr E a).of λv w ⟨hv,a⟩=>⟨hv,op,n,?_,?_⟩
  .unfold qw4;rw[(qv1 leI _).length_eq,C.length_eq]
  .rw[q88 C]at a;exact(q13.shut m1 m2 (zl 4 [2,1,3,0] a rfl) |> λh=>St.p1 h)
 .obtain⟨k,e⟩:=x;have K:qe P.ends k=A2 e:=q24 s d;have q:qb4 P k=e.1:=by unfold qb4;rw[K];rfl
  refine⟨_,_,_,rfl,zh a λb w a=>St1.zz 0 a rfl λw a=>St1.zz 0 a rfl λw a=>zx 0 a rfl rfl ?_⟩;have a:St W (Row b 195 [Zi Zk e.1,Zb e.2]::qd1 (Zi Zk) qy4 m1 g P.ends (V++[(k,e)])::SlA 122 2 (q52 (qb4 P)) op n ((V.filter λx=>x.2.2).map (·.1))::Row t 179 [.map (A2 m1),.map (A2 m2)]::qg (Zi Zk) (Zi Zk) m2 P.ever::F) w:=a;have R:V.length<P.ends.length:=by have Z:St W (Row b 195 [Zi Zk e.1,Zb e.2]::SlA 122 2 (q52 (qb4 P)) op n ((V.filter λx=>x.2.2).map (·.1))::qd1 (Zi Zk) qy4 m1 g P.ends (V++[(k,e)])::Row t 179 [.map (A2 m1),.map (A2 m2)]::qg (Zi Zk) (Zi Zk) m2 P.ever::F) w:=zf 1 2 a rfl;exact q58 kI Z
  have j:∀(w':A8) (G:List Asn),St W (qd1 (Zi Zk) qy4 m1 g P.ends (V++[(k,e)])::G) w'->q74 g P.ends.length w'<q74 g P.ends.length w0:=λw' G h=>by rw[r,qd1.left h P.ends.length,Aw,List.length_singleton];omega
  refine za (λh=>z8 0 a rfl rfl (zh a λl w a=>?_)) λh=>⟨⟨V++[(k,e)],op,n,?_,by simp;omega,λx d=>?_,?_⟩,j w _ a.drop⟩
  .obtain⟨z,hz,M⟩:=qm01;have Q:((V.filter λx=>x.2.2).map (·.1)).length<=V.length:=by rw[A1];exact Am _ _
   have D:∀(l:Nat) (G:List Asn),Rd (Row l 122 [Zi Zk k,Zi Zk e.1]::G) (A2 ⟨l,0,Av⟩) ([k].flatMap (q52 (qb4 P))):=λl G=>z0z 0 λi v h=>by
    have A:[k].flatMap (q52 (qb4 P))=[Zi Zk k,Zi Zk e.1]:=by simp[q52,q]
    rw[A]at h;rw[Ac];exact h
   have J:(((V.filter λx=>x.2.2).map (·.1)).length+[k].length)*Tryz.t122.bytes<=140737488355328:=by have:=q601;simp only[An,Ap];exact Aj (As _ this) (by omega)
   have L:((V.filter λx=>x.2.2).map (·.1)).length+[k].length<=9223372036854775807:=by simp only[An,Ap];omega
   have a:St W (Row l 122 [Zi Zk k,Zi Zk e.1]::Row b 195 [Zi Zk e.1,Zb e.2]::qd1 (Zi Zk) qy4 m1 g P.ends (V++[(k,e)])::SlA 122 2 (q52 (qb4 P)) op n ((V.filter λx=>x.2.2).map (·.1))::Row t 179 [.map (A2 m1),.map (A2 m2)]::qg (Zi Zk) (Zi Zk) m2 P.ever::F) w:=a;have key:=λY hb H=>qf3 (P:=Zp) (ty:=50) (F:=Y) (sT:=50) (xT:=50) (m:=1) (sc:=1) (sp:=A2 ⟨l,0,Av⟩) (f:=q52 (qb4 P)) (os:=(V.filter λx=>x.2.2).map (·.1)) (xs:=[k]) (qc9 (qb4 P)) qrs (.inr ⟨_,qrs⟩) qc01 qs01 hz M 3 a rfl (D l _) rfl (qyy (qb4 P)) hb H;refine key _ J L λO N w a=>?_;have a:St W (Row l 122 [Zi Zk k,Zi Zk e.1]::Row b 195 [Zi Zk e.1,Zb e.2]::qd1 (Zi Zk) qy4 m1 g P.ends (V++[(k,e)])::SlA 122 2 (q52 (qb4 P)) O N (((V.filter λx=>x.2.2).map (·.1))++[k])::Row t 179 [.map (A2 m1),.map (A2 m2)]::qg (Zi Zk) (Zi Zk) m2 P.ever::F) w:=a;refine⟨_,_,_,rfl,⟨V++[(k,e)],O,N,?_,by simp;omega,λx d=>?_,?_⟩,j w _ (zf 2 0 a rfl)⟩;.rw[Ah,Ar];simp[show e.2=A4 from h]
   .rcases Bg.1 d with d|d;.exact o x d
    .rw[B9.1 d];assumption
   .rw[Ah,Ar];have A:Bq (·.1) (Bp (λx:Int×(Int×Bool)=>x.2.2) [(k,e)])=[k]:=by simp[show e.2=A4 from h]
    rw[A];exact zl 6 [2,3,4,5] a rfl
  .rw[Ah,Ar];simp[show e.2=A6 from h]
  .rcases Bg.1 d with d|d;.exact o x d
   .rw[B9.1 d];assumption
  .rw[Ah,Ar];have A:Bq (·.1) (Bp (λx:Int×(Int×Bool)=>x.2.2) [(k,e)])=[]:=by simp[show e.2=A6 from h]
   rw[A,List.append_nil];exact a.drop
end
end
end Go.Proofs.YtfjifcfbmhpcaaaGreatDoor
