/-
  A part of the proof of TopBad.
-/
import Derived.WalkKit
import Derived.Deep.Quiet
import Derived.KernelRfl
import Derived.TacticsIn
import Derived.RangeFuncIn
import Derived.RangeFuncCalls
import Derived.RangeFuncRecord
import Derived.RangeFuncLeaves
set_option linter.all false
namespace Go.Proofs.YtfjifcfbmhpcaaaGreatDoor
open Go
open Go.IntKind renaming i64 → Zk
open Go.Addr renaming add → Za
open Go renaming Value->A0,Program->A2,World->A3,TypeId->A8,Operand->Ac,Addr->Ad,Oper->Aq,FuncId->Au,IntKind->Az,Fence->Bd
open Go.Sem renaming run_bind->A1,run_pure->A9
open Go.Result renaming andThen_ok->A4
open _root_.Array renaming toArray_toList->A5,toList_map->A6,range->Ay
open _root_.Option renaming some->A7,none->Aa,map_none->Ai,map_some->Ao
open _root_.Nat renaming eq_of_beq_eq_true->Ab,le_of_ble_eq_true->Aj,beq->Ap,blt->Bc
open Go.Instr renaming sureAddr->Ae,sliceBounds->Ag,sliceAt->Am,storeAt->Ar,sliceBound->As,loadAt->Av,indexAt->B0,buildSlice->B3,index->B4,mapUpdate->B5,makeSlice->B6,slice->B9,entry->Bb
open _root_.Option.some renaming injEq->Af
open _root_.Bool renaming false->Ah,true->An
open Go.Deferred renaming ofValue->Ak
open Go.Fence renaming wide->Aw
open Go.Op renaming equal->Ax,equalIn->B1,intDiv->B2,shift->B7,stringOp->Ba
section
def yR{α:Sort _}{a:α}:a=a:=rfl
def yA:=@if_neg
def yB:=@if_pos
def yC:=@of_decide_eq_true
def yD:=@of_decide_eq_false
def yE:=@congrArg
def yF:=@And.intro
def yG:=@decide_eq_true
def yH:=@decide_eq_false
def yI:=@absurd
def yJ:=@decide_eq_true_eq
def yK:=@or_false
def yL:=@true_and
def yM:=@and_true
abbrev Env:=List (Nat×A0)
def q23:Env->Nat->Option A0
 |[],_=>Aa
 |(s,v)::r,t=>cond (Ap s t) (A7 v) (q23 r t)
def q83:List Nat->Nat->Bool
 |[],_=>Ah
 |a::r,t=>cond (Ap a t) An (q83 r t)
def qs7(ws:List Nat):Env->Env
 |[]=>[]
 |(s,v)::r=>cond (q83 ws s) (qs7 ws r) ((s,v)::qs7 ws r)
structure q71(dfr:List Deferred)(n:Nat)(e:Env)(a:Act):Prop where
 defers:a.defers=dfr
 size:a.tmps.size=n
 val:∀t v,q23 e t=A7 v->a.tmps.getD t undef=v
abbrev qs1(n:Nat)(e:Env)(a:Act):Prop:=q71 [] n e a
variable{dfr:List Deferred}
def qp2(ws:List Nat)(a h:Act):Prop:=∀t,q83 ws t=Ah->h.tmps.getD t undef=a.tmps.getD t undef
def q87(x y:List Nat)(t:Nat):q83 (x++y) t=(q83 x t||q83 y t):=by
 induction x with
 |nil=>simp[q83]
 |cons a r h=>simp only[List.cons_append,q83,h];cases Ap a t<;>simp
def qp2.refl(ws:List Nat)(a:Act):qp2 ws a a:=λ_ _=>rfl
def qp2.trans{x y:List Nat}{a b c:Act}(h:qp2 x a b)(k:qp2 y b c):qp2 (x++y) a c:=λt w=>by rw[q87,Bool.or_eq_false_iff]at w;exact(k t w.2).trans (h t w.1)
def qp2.mono{x y:List Nat}{a b:Act}(h:qp2 x a b)(c:∀t,q83 y t=Ah->q83 x t=Ah):qp2 y a b:=λt w=>h t (c t w)
def q0r{ws:List Nat}{e:Env}{t:Nat}{v:A0}(h:q23 (qs7 ws e) t=A7 v):q23 e t=A7 v/\q83 ws t=Ah:=by
 induction e with
 |nil=>simp[qs7,q23]at h
 |cons p r ih=>
  obtain⟨s,u⟩:=p;simp only[qs7]at h;cases hm:q83 ws s with
  |true=>
   simp only[hm,cond_true]at h;obtain⟨a,w⟩:=ih h;refine⟨?_,w⟩;simp only[q23];cases hb:Ap s t with
   |true=>rw[Ab hb]at hm;rw[hm]at w;cases w
   |false=>simpa using a
  |false=>
   simp only[hm,cond_false,q23]at h;simp only[q23];cases hb:Ap s t with
   |true=>simp only[hb,cond_true]at h⊢;exact⟨h,by rw[<-Ab hb];exact hm⟩
   |false=>simp only[hb,cond_false]at h⊢;exact ih h
def q71.drop{n:Nat}{e:Env}{a w:Act}{ws:List Nat}(h:q71 dfr n e a)(f:qp2 ws a w)(c:w.defers=dfr)(d:w.tmps.size=n):q71 dfr n (qs7 ws e) w:=
 ⟨c,d,λt v g=>by obtain⟨i,b⟩:=q0r g;rw[f t b];exact h.val t v i⟩
def Act.put_defers'(a:Act)(d:Option Nat)(v:A0):(a.put d v).defers=a.defers:=by cases d<;>rfl
def Act.put_size(a:Act)(d:Option Nat)(v:A0):(a.put d v).tmps.size=a.tmps.size:=by cases d<;>simp[Act.put]
def qge(a:Act)(d:Nat)(v:A0)(t:Nat)(h:d<a.tmps.size):(a.put (A7 d) v).tmps.getD t undef=if d=t then v else a.tmps.getD t undef:=by simp only[Act.put,Array.getD_eq_getD_getElem?,Array.getElem?_setIfInBounds,h,if_true];split<;>rfl
def qc2(n:Nat)(d:Option Nat)(v:A0)(e:Env)(k:Env->Prop):Prop:=
 match d with
 |none=>k e
 |some d=>match Bc d n with
  |true=>k ((d,v)::e)
  |false=>False
def qn3{n:Nat}{d:Option Nat}{v:A0}{e:Env}{k:Env->Prop}{a:Act}(h:qc2 n d v e k)(b:q71 dfr n e a):
 ∃e',k e'/\q71 dfr n e' (a.put d v)/\qp2 d.toList a (a.put d v):=by
 cases d with
 |none=>exact⟨e,h,b,qp2.refl _ _⟩
 |some d=>
  simp only[qc2]at h;cases hb:Bc d n with
  |false=>simp only[hb]at h
  |true=>
   simp only[hb]at h;have c:d<a.tmps.size:=by rw[b.size];exact Aj hb
   refine⟨_,h,⟨(Act.put_defers' ..).trans b.defers,(Act.put_size ..).trans b.size,λt u w=>?_⟩,λt w=>?_⟩
   .rw[qge a d v t c];simp only[q23]at w;cases hbt:Ap d t with
    |true=>simp only[hbt,cond_true,Af]at w;rw[yB (Ab hbt)];exact w
    |false=>simp only[hbt,cond_false]at w;rw[yA (λe=>by subst e;simp at hbt)];exact b.val t u w
   .rw[qge a d v t c];simp only[Option.toList,q83]at w;rw[yA (λe=>by subst e;simp at w)]
def opE(e:Env):Ac->Option A0
 |.tmp t=>q23 e t
 |.const v=>A7 v
 |.global g=>A7 (.pointer (A7 ⟨g,0,Aa⟩))
 |.func f=>A7 (.func (.func f) #[] #[])
def qku{n:Nat}{e:Env}{a:Act}{x:Ac}{v:A0}(w:q71 dfr n e a)(h:opE e x=A7 v):a.eval x=v:=by
 cases x with
 |tmp t=>exact w.val t v h
 |const u=>simpa [opE,Act.eval]using h
 |global g=>simpa [opE,Act.eval]using h
 |func f=>simpa [opE,Act.eval]using h
def q11(e:Env)(x:Ac)(k:A0->Prop):Prop:=
 match opE e x with
 |some v=>k v
 |none=>False
def ql{n:Nat}{e:Env}{a:Act}{x:Ac}{k:A0->Prop}(h:q11 e x k)(w:q71 dfr n e a):k (a.eval x):=by
 unfold q11 at h;cases hx:opE e x with
 |none=>simp[hx]at h
 |some v=>rw[qku w hx];simpa [hx]using h
def qj3(e:Env):List Ac->(List A0->Prop)->Prop
 |[],k=>k []
 |x::r,k=>q11 e x λv=>qj3 e r λvs=>k (v::vs)
def qk2{n:Nat}{e:Env}{a:Act}(w:q71 dfr n e a):∀(l:List Ac) (k:List A0->Prop),qj3 e l k->k (l.map a.eval)
 |[],_,h=>h
 |_::r,_,h=>qk2 w r _ (ql h w)
inductive T0 where
 |int (k:Az)|bool|str|ptr|slice|map|val
inductive Ty where
 |b (t:T0)
 |agg (l:List T0)
 |arr (n:Nat)
def ex0:T0->(A0->Prop)->Prop
 |.int k,F=>∃x:Int,F (.int k x)
 |.bool,F=>∃b:Bool,F (.bool b)
 |.str,F=>∃s:ByteArray,F (.string s)
 |.ptr,F=>∃p:Option Ad,F (.pointer p)
 |.slice,F=>∃(a:Option Ad) (n c:Nat),F (.slice a n c)
 |.map,F=>∃r:Option Nat,F (.map r)
 |.val,F=>∃v:A0,F v
def al0:T0->(A0->Prop)->Prop
 |.int k,F=>∀x:Int,F (.int k x)
 |.bool,F=>∀b:Bool,F (.bool b)
 |.str,F=>∀s:ByteArray,F (.string s)
 |.ptr,F=>∀p:Option Ad,F (.pointer p)
 |.slice,F=>∀(a:Option Ad) (n c:Nat),F (.slice a n c)
 |.map,F=>∀r:Option Nat,F (.map r)
 |.val,F=>∀v:A0,F v
def is0:T0->A0->Prop
 |.int k,v=>∃x:Int,v=.int k x
 |.bool,v=>∃b:Bool,v=.bool b
 |.str,v=>∃s:ByteArray,v=.string s
 |.ptr,v=>∃p:Option Ad,v=.pointer p
 |.slice,v=>∃(a:Option Ad) (n c:Nat),v=.slice a n c
 |.map,v=>∃r:Option Nat,v=.map r
 |.val,_=>True
def qbn{t:T0}{F:A0->Prop}(h:ex0 t F):∃v,is0 t v/\F v:=by
 cases t<;>simp only[ex0]at h;case slice=>obtain⟨a,n,c,h⟩:=h;exact⟨_,⟨a,n,c,rfl⟩,h⟩
 case val=>obtain⟨v,h⟩:=h;exact⟨v,trivial,h⟩
 all_goals (obtain⟨x,h⟩:=h;exact⟨_,⟨x,rfl⟩,h⟩)
def q9n{t:T0}{F:A0->Prop}(h:al0 t F){v:A0}(w:is0 t v):F v:=by
 cases t<;>simp only[al0]at h<;>simp only[is0]at w;case slice=>obtain⟨a,n,c,rfl⟩:=w;exact h _ _ _
 case val=>exact h _
 all_goals (obtain⟨x,rfl⟩:=w;exact h _)
def exL:List T0->(List A0->Prop)->Prop
 |[],F=>F []
 |t::r,F=>ex0 t λv=>exL r λvs=>F (v::vs)
def alL:List T0->(List A0->Prop)->Prop
 |[],F=>F []
 |t::r,F=>al0 t λv=>alL r λvs=>F (v::vs)
def isL:List T0->List A0->Prop
 |[],[]=>True
 |t::r,v::vs=>is0 t v/\isL r vs
 |_,_=>False
def qjn:∀{l:List T0} {F:List A0->Prop},exL l F->∃vs,isL l vs/\F vs
 |[],_,h=>⟨[],trivial,h⟩
 |_::_,_,h=>by obtain⟨v,a,h⟩:=qbn h;obtain⟨vs,w,h⟩:=qjn h;exact⟨v::vs,⟨a,w⟩,h⟩
def qon:∀{l:List T0} {F:List A0->Prop},alL l F->∀{vs:List A0},isL l vs->F vs
 |[],_,h,[],_=>h
 |[],_,_,_::_,w=>w.elim
 |_::_,_,_,[],w=>w.elim
 |_::_,_,h,_::_,w=>qon (q9n h w.1) w.2
def exT:Ty->(A0->Prop)->Prop
 |.b t,F=>ex0 t F
 |.agg l,F=>exL l λvs=>F (.agg vs.toArray)
 |.arr n,F=>∃cs:Array A0,cs.size=n/\F (.agg cs)
def alT:Ty->(A0->Prop)->Prop
 |.b t,F=>al0 t F
 |.agg l,F=>alL l λvs=>F (.agg vs.toArray)
 |.arr n,F=>∀cs:Array A0,cs.size=n->F (.agg cs)
def isT:Ty->A0->Prop
 |.b t,v=>is0 t v
 |.agg l,v=>∃vs,isL l vs/\v=.agg vs.toArray
 |.arr n,v=>∃cs:Array A0,cs.size=n/\v=.agg cs
def qzb{t:Ty}{F:A0->Prop}(h:exT t F):∃v,isT t v/\F v:=by
 cases t with
 |b t=>exact qbn h
 |agg l=>obtain⟨vs,w,h⟩:=qjn h;exact⟨_,⟨vs,w,rfl⟩,h⟩
 |arr n=>obtain⟨cs,a,h⟩:=h;exact⟨_,⟨cs,a,rfl⟩,h⟩
def qmm{t:Ty}{F:A0->Prop}(h:alT t F){v:A0}(w:isT t v):F v:=by
 cases t with
 |b t=>exact q9n h w
 |agg l=>obtain⟨vs,a,rfl⟩:=w;exact qon h a
 |arr n=>obtain⟨cs,c,rfl⟩:=w;exact h cs c
def qta:List Ty->(List A0->Prop)->Prop
 |[],F=>F []
 |t::r,F=>exT t λv=>qta r λvs=>F (v::vs)
def qk9:List Ty->(List A0->Prop)->Prop
 |[],F=>F []
 |t::r,F=>alT t λv=>qk9 r λvs=>F (v::vs)
def qbh:List Ty->List A0->Prop
 |[],[]=>True
 |t::r,v::vs=>isT t v/\qbh r vs
 |_,_=>False
def qaf:∀{l:List Ty} {F:List A0->Prop},qta l F->∃vs,qbh l vs/\F vs
 |[],_,h=>⟨[],trivial,h⟩
 |_::_,_,h=>by obtain⟨v,a,h⟩:=qzb h;obtain⟨vs,w,h⟩:=qaf h;exact⟨v::vs,⟨a,w⟩,h⟩
def q8c:∀{l:List Ty} {F:List A0->Prop},qk9 l F->∀{vs:List A0},qbh l vs->F vs
 |[],_,h,[],_=>h
 |[],_,_,_::_,w=>w.elim
 |_::_,_,_,[],w=>w.elim
 |_::_,_,h,_::_,w=>q8c (qmm h w.1) w.2
def LdI(k:Az)(a:Ad)(w:A3)(F:Int->Prop):Prop:=∃x:Int,w.cell? a=A7 (.int k x)/\F x
def LdB(a:Ad)(w:A3)(F:Bool->Prop):Prop:=∃b:Bool,w.cell? a=A7 (.bool b)/\F b
def LdS(a:Ad)(w:A3)(F:ByteArray->Prop):Prop:=∃s:ByteArray,w.cell? a=A7 (.string s)/\F s
def LdP(a:Ad)(w:A3)(F:Option Ad->Prop):Prop:=∃p:Option Ad,w.cell? a=A7 (.pointer p)/\F p
def LdL(a:Ad)(w:A3)(F:Option Ad->Nat->Nat->Prop):Prop:=∃(p:Option Ad) (n c:Nat),w.cell? a=A7 (.slice p n c)/\F p n c
def LdM(a:Ad)(w:A3)(F:Option Nat->Prop):Prop:=∃r:Option Nat,w.cell? a=A7 (.map r)/\F r
def LdV(a:Ad)(w:A3)(F:A0->Prop):Prop:=∃v:A0,w.cell? a=A7 v/\F v
def ld0:T0->Ad->A3->(A0->Prop)->Prop
 |.int k,a,w,K=>LdI k a w λx=>K (.int k x)
 |.bool,a,w,K=>LdB a w λx=>K (.bool x)
 |.str,a,w,K=>LdS a w λx=>K (.string x)
 |.ptr,a,w,K=>LdP a w λx=>K (.pointer x)
 |.slice,a,w,K=>LdL a w λp n c=>K (.slice p n c)
 |.map,a,w,K=>LdM a w λx=>K (.map x)
 |.val,a,w,K=>LdV a w K
def q5n{t:T0}{a:Ad}{w:A3}{K:A0->Prop}(h:ld0 t a w K):∃v,is0 t v/\w.cell? a=A7 v/\K v:=by
 cases t<;>simp only[ld0]at h;case slice=>obtain⟨p,n,c,b,h⟩:=h;exact⟨_,⟨p,n,c,rfl⟩,b,h⟩
 case val=>obtain⟨v,b,h⟩:=h;exact⟨v,trivial,b,h⟩
 all_goals (obtain⟨x,b,h⟩:=h;exact⟨_,⟨x,rfl⟩,b,h⟩)
def ldL(a:Ad)(w:A3):List T0->Nat->(List A0->Prop)->Prop
 |[],_,K=>K []
 |t::r,i,K=>ld0 t (a.add i) w λv=>ldL a w r (i+1) λvs=>K (v::vs)
def qxm{a:Ad}{w:A3}:∀{l:List T0} {i:Nat} {K:List A0->Prop},ldL a w l i K->
 ∃vs,isL l vs/\vs.length=l.length/\(∀j v,vs[j]?=A7 v->w.cell? (a.add (i+j))=A7 v)/\K vs
 |[],_,_,h=>⟨[],trivial,rfl,by simp,h⟩
 |_::_,i,_,h=>by
  obtain⟨v,f,e,h⟩:=q5n h;obtain⟨vs,b,g,c,h⟩:=qxm h;refine⟨v::vs,⟨f,b⟩,by simp[g],λj u d=>?_,h⟩;cases j with
  |zero=>simp at d;subst d;exact e
  |succ j=>rw[show i+(j+1)=i+1+j by omega];exact c j u (by simpa using d)
def AsI(k:Az)(v:A0)(F:Int->Prop):Prop:=∃x:Int,v=.int k x/\F x
def AsB(v:A0)(F:Bool->Prop):Prop:=∃b:Bool,v=.bool b/\F b
def AsS(v:A0)(F:ByteArray->Prop):Prop:=∃s:ByteArray,v=.string s/\F s
def AsP(v:A0)(F:Option Ad->Prop):Prop:=∃p:Option Ad,v=.pointer p/\F p
def AsL(v:A0)(F:Option Ad->Nat->Nat->Prop):Prop:=∃(p:Option Ad) (n c:Nat),v=.slice p n c/\F p n c
def AsM(v:A0)(F:Option Nat->Prop):Prop:=∃r:Option Nat,v=.map r/\F r
def as0:T0->A0->(A0->Prop)->Prop
 |.int k,v,K=>AsI k v λx=>K (.int k x)
 |.bool,v,K=>AsB v λx=>K (.bool x)
 |.str,v,K=>AsS v λx=>K (.string x)
 |.ptr,v,K=>AsP v λx=>K (.pointer x)
 |.slice,v,K=>AsL v λp n c=>K (.slice p n c)
 |.map,v,K=>AsM v λx=>K (.map x)
 |.val,v,K=>K v
def qiv{t:T0}{v:A0}{K:A0->Prop}(h:as0 t v K):is0 t v/\K v:=by
 cases t<;>simp only[as0]at h;case slice=>obtain⟨p,n,c,rfl,h⟩:=h;exact⟨⟨p,n,c,rfl⟩,h⟩
 case val=>exact⟨trivial,h⟩
 all_goals (obtain⟨x,rfl,h⟩:=h;exact⟨⟨x,rfl⟩,h⟩)
def asT:Ty->A0->(A0->Prop)->Prop
 |.b t,v,K=>as0 t v K
 |t,v,K=>exT t λu=>v=u/\K u
def qzl{t:Ty}{v:A0}{K:A0->Prop}(h:asT t v K):isT t v/\K v:=by
 cases t with
 |b t=>exact qiv h
 |agg l=>simp only[asT]at h;obtain⟨u,a,w,c⟩:=qzb h;subst w;exact⟨a,c⟩
 |arr n=>simp only[asT]at h;obtain⟨u,a,w,c⟩:=qzb h;subst w;exact⟨a,c⟩
def asR:List Ty->A0->(A0->Prop)->Prop
 |[t],v,K=>asT t v K
 |l,v,K=>qta l λh=>v=.tuple h.toArray/\K (.tuple h.toArray)
def q34{l:List Ty}{v:A0}{K:A0->Prop}(h:asR l v K):K v:=by
 unfold asR at h;split at h;.exact(qzl h).2
 .obtain⟨b,_,a,w⟩:=qaf h;subst a;exact w
def z16:=@qp2.refl
end
section
variable{dfr:List Deferred}
def q9b(P:A2){α:Type}:Sem α->Option α
 |.pure a=>A7 a
 |.program k=>q9b P (k P)
 |.mark _ k=>q9b P k
 |_=>Aa
def qfo{P:A2}{α:Type}{s:Sem α}:∀{a:α},q9b P s=A7 a->∀w,s.run P w=.ok a w:=by
 induction s with
 |pure a=>intro b h w;simp only[q9b,Af]at h;subst h;rfl
 |program k ih=>intro b h w;simp only[q9b]at h;exact ih P h w
 |mark m k ih=>intro b h w;simp only[q9b]at h;exact ih h w
 |_=>intro b h w;simp[q9b]at h
def qj(P:A2)(s:Sem A0)(K:A0->Prop):Prop:=
 match q9b P s with
 |some v=>K v
 |none=>False
def qj2{P:A2}{s:Sem A0}{K:A0->Prop}(h:qj P s K):∃v,K v/\∀w,s.run P w=.ok v w:=by
 unfold qj at h;cases hs:q9b P s with
 |none=>simp[hs]at h
 |some v=>exact⟨v,by simpa [hs]using h,qfo hs⟩
def ty0:A0->Option T0
 |.int k _=>A7 (.int k)
 |.bool _=>A7 .bool
 |.string _=>A7 .str
 |.pointer _=>A7 .ptr
 |.slice _ _ _=>A7 .slice
 |.map _=>A7 .map
 |.nilFunc=>A7 .val
 |.func _ _ _=>A7 .val
 |.nilIface=>A7 .val
 |.iface _ _=>A7 .val
 |_=>Aa
def tyL:List A0->Option (List T0)
 |[]=>A7 []
 |v::r=>match ty0 v,tyL r with
  |some t,A7 l=>A7 (t::l)
  |_,_=>Aa
def qed:TypeDesc->Bool
 |.struct _=>An
 |.array _ _=>An
 |_=>Ah
def qu6(P:A2)(t:A8):Option Ty:=
 match P.info? t,P.underlying t with
 |some i,A7 d=>match i.zero with
  |some (.agg cs)=>match Ap i.size cs.size,d with
   |true,.array _ _=>A7 (.arr cs.size)
   |true,.struct _=>match tyL cs.toList with
    |some l=>A7 (.agg l)
    |none=>Aa
   |_,_=>Aa
  |some v=>match Ap i.size 1,qed d,ty0 v with
   |true,Ah,A7 t=>A7 (.b t)
   |_,_,_=>Aa
  |none=>Aa
 |_,_=>Aa
def q4l(P:A2):List A8->Option (List Ty)
 |[]=>A7 []
 |t::r=>match qu6 P t,q4l P r with
  |some a,A7 l=>A7 (a::l)
  |_,_=>Aa
def q9e(P:A2)(t:A8):Option (List Ty):=
 match P.underlying t with
 |some (.tuple ts)=>q4l P ts.toList
 |_=>q4l P [t]
def q09(P:A2)(t:A8)(s:Sem A0)(K:A0->Prop):Prop:=
 match q9e P t with
 |some l=>∃v,(∀w,s.run P w=.ok v w)/\asR l v K
 |none=>False
def q3b{P:A2}{t:A8}{s:Sem A0}{K:A0->Prop}(h:q09 P t s K):∃v,K v/\∀w,s.run P w=.ok v w:=by
 unfold q09 at h;split at h;.obtain⟨v,a,b⟩:=h;exact⟨v,q34 b,a⟩
 .exact h.elim
def Run(P:A2)(s:Sem A0)(w:A3)(F:A0->A3->Prop):Prop:=∃v w',s.run P w=.ok v w'/\F v w'
def qe8(P:A2)(t:A8)(s:Sem A0)(w:A3)(K:A0->A3->Prop):Prop:=
 match q9e P t with
 |some l=>Run P s w λv w'=>asR l v λv=>K v w'
 |none=>False
def q19{P:A2}{t:A8}{s:Sem A0}{w:A3}{K:A0->A3->Prop}(h:qe8 P t s w K):∃v w',K v w'/\s.run P w=.ok v w':=by
 unfold qe8 at h;split at h;.obtain⟨v,w',a,b⟩:=h;exact⟨v,w',q34 b,a⟩
 .exact h.elim
def Bif(b:Bool)(A B:Prop):Prop:=match b with|true=>A|false=>B
def Bif.i{b:Bool}{A B:Prop}(h:b=An->A)(w:b=Ah->B):Bif b A B:=by
 cases b;.exact w yR
 .exact h yR
def qa(p:Option Ad)(F:Ad->Prop):Prop:=match p with|some a=>F a|none=>False
def IxP(p:Option Ad)(n:Nat)(i:Int)(size:Nat)(F:Ad->Prop):Prop:=∃a,p=A7 a/\(0<=i/\i<n)/\F (a.add (i.toNat*size))
def qqg(v:A0)(K:A0->Prop):Prop:=
 match v with
 |.pointer p=>qa p λa=>K (.pointer (A7 a))
 |.func (.func f) first captured=>K (.func (.func f) first captured)
 |.func (.methodOf t n) first captured=>K (.func (.methodOf t n) first captured)
 |.func (.via t p f b) first captured=>K (.func (.via t p f b) first captured)
 |.iface t x=>K (.iface t x)
 |_=>False
def qmd(P:A2)(t:A8)(F:Nat->Prop):Prop:=match P.info? t with|some i=>F i.size|none=>False
def ixK(P:A2)(t:A8)(x h:A0)(K:A0->Prop):Prop:=
 match h,P.underlying t,x with
 |.int _ i,A7 (.slice e),.slice p n _=>qmd P e λsize=>IxP p n i size λa=>K (.pointer (A7 a))
 |.int _ i,A7 (.array n e),.pointer p=>qmd P e λsize=>IxP p n i size λa=>K (.pointer (A7 a))
 |_,_,_=>False
def IxS(s:ByteArray)(i:Int)(F:UInt8->Prop):Prop:=(0<=i/\i<s.size)/\F (s.get! i.toNat)
def q3c(P:A2)(t ty:A8)(x h:A0)(K:A0->Prop):Prop:=
 match h,P.underlying t,x with
 |.int _ i,A7 .string,.string s=>IxS s i λb=>K (.int .u8 b.toNat)
 |_,_,_=>q09 P ty (B4 t x h) K
def q49:Option A0->Option (Option Int)
 |none=>A7 Aa
 |some (.int _ i)=>A7 (A7 i)
 |some _=>Aa
def SlP(p:Option Ad)(n c:Nat)(size:Nat)(h w:Int)(F:Option Ad->Nat->Nat->Prop):Prop:=
 (0<=h/\h<=w/\w<=c)/\F (if c=h.toNat then p else p.map (·.add (h.toNat*size))) (w.toNat - h.toNat) (c - h.toNat)
def SlS(s:ByteArray)(w h:Int)(F:ByteArray->Prop):Prop:=(0<=w/\w<=h/\h<=s.size)/\F (s.extract w.toNat h.toNat)
def slK(P:A2)(t:A8)(x:A0)(b w d:Option A0)(K:A0->Prop):Prop:=
 match d,P.underlying t,x,q49 b,q49 w with
 |none,A7 (.slice e),.slice p n c,A7 l,A7 h=>qmd P e λsize=>SlP p n c size (l.getD 0) (h.getD n) λp n c=>K (.slice p n c)
 |none,A7 (.array n e),.pointer (A7 a),A7 l,A7 h=>qmd P e λsize=>SlP (A7 a) n n size (l.getD 0) (h.getD n) λp n c=>K (.slice p n c)
 |none,A7 .string,.string s,A7 l,A7 h=>SlS s (l.getD 0) (h.getD s.size) λs=>K (.string s)
 |_,_,_,_,_=>False
def q0z(y:Int)(A:Prop):Prop:=y≠0/\A
def ShK(y:Int)(A:Prop):Prop:=0<=y/\A
def CatK(x y:ByteArray)(A:Prop):Prop:=x.size+y.size<=9223372036854775807/\A
inductive Kd where|int|str|bool|ptr|slice|other
def q85(P:A2)(t:A8):Kd:=
 match P.underlying t with
 |some (.int _)=>.int
 |some .string=>.str
 |some .bool=>.bool
 |some (.pointer _)=>.ptr
 |some (.slice _)=>.slice
 |_=>.other
def qi2{α:Type}:Option α->Bool
 |none=>An
 |some _=>Ah
def qsa(P:A2)(op:BinOp)(t ty:A8)(x y:Ac)(a b:A0)(K:A0->Prop):Prop:=
 match q85 P t with
 |.int=>match op with
  |.quo=>match a,b with
   |.int k m,.int k' n=>match decide (k=k')with
    |true=>q0z n (K (.int k (k.wrap (m.tdiv n))))
    |false=>False
   |_,_=>False
  |.rem=>match a,b with
   |.int k m,.int k' n=>match decide (k=k')with
    |true=>q0z n (K (.int k (m.tmod n)))
    |false=>False
   |_,_=>False
  |.shl=>match a,b with
   |.int k m,.int _ n=>ShK n (K (.int k (k.wrap (m*2 ^ min n.toNat k.bits))))
   |_,_=>False
  |.shr=>match a,b with
   |.int k m,.int _ n=>ShK n (K (.int k (m.fdiv (2 ^ min n.toNat k.bits))))
   |_,_=>False
  |_=>qj P (do eqGuard op t x y a b;binOp op t a b) K
 |.str=>match op with
  |.add=>match a,b with
   |.string s,.string u=>CatK s u (K (.string (s++u)))
   |_,_=>False
  |_=>qj P (do eqGuard op t x y a b;binOp op t a b) K
 |.bool=>qj P (do eqGuard op t x y a b;binOp op t a b) K
 |.ptr=>match op,a,b with
  |.eql,.pointer p,.pointer Aa=>K (.bool (qi2 p))
  |.neq,.pointer p,.pointer Aa=>K (.bool (!qi2 p))
  |_,_,_=>False
 |.slice=>match op,a,b with
  |.eql,.slice p n c,.slice Aa _ _=>K (.bool (qi2 p))
  |.neq,.slice p n c,.slice Aa _ _=>K (.bool (!qi2 p))
  |_,_,_=>False
 |.other=>q09 P ty (do eqGuard op t x y a b;binOp op t a b) K
def q86(e:Env):List (Nat×Ac)->(List (Nat×A0)->Prop)->Prop
 |[],k=>k []
 |(i,x)::r,k=>q11 e x λv=>q86 e r λvs=>k ((i,v)::vs)
def qr9{n:Nat}{e:Env}{a:Act}(w:q71 dfr n e a):∀(l:List (Nat×Ac)) (k:List (Nat×A0)->Prop),q86 e l k->k (l.map λ(i,x)=>(i,a.eval x))
 |[],_,h=>h
 |(_,_)::r,_,h=>qr9 w r _ (ql h w)
def opP(P:A2)(o:Aq)(e:Env)(K:A0->Prop):Prop:=
 match o.op with
 |.move x|.assign x=>q11 e x K
 |.pick c x y=>q11 e c λc=>match c with
  |.bool b=>Bif b (q11 e x K) (q11 e y K)
  |_=>False
 |.nilCheck x=>q11 e x λv=>qqg v K
 |.binOp op t x y _=>q11 e x λa=>q11 e y λb=>qsa P op t o.type x y a b K
 |.unOp op _ x=>q11 e x λa=>qj P (Op.unary op a) K
 |.convert s d x=>q11 e x λa=>qj P (convert s d a) K
 |.fieldAddr s x f=>q11 e x λv=>qj P (Instr.fieldAt s v f) K
 |.field s x f=>q11 e x λv=>qj P (Instr.field s v f) K
 |.extract x i=>q11 e x λv=>qj P (Instr.extract v i) K
 |.indexAddr t x i=>q11 e x λv=>q11 e i λi=>ixK P t v i K
 |.index t x i=>q11 e x λv=>q11 e i λi=>q3c P t o.type v i K
 |.slice t x Aa Aa Aa=>q11 e x λv=>slK P t v Aa Aa Aa K
 |.slice t x (A7 l) Aa Aa=>q11 e x λv=>q11 e l λl=>slK P t v (A7 l) Aa Aa K
 |.slice t x Aa (A7 h) Aa=>q11 e x λv=>q11 e h λh=>slK P t v Aa (A7 h) Aa K
 |.slice t x (A7 l) (A7 h) Aa=>q11 e x λv=>q11 e l λl=>q11 e h λh=>slK P t v (A7 l) (A7 h) Aa K
 |.slice t x (A7 l) (A7 h) (A7 m)=>q11 e x λv=>q11 e l λl=>q11 e h λh=>q11 e m λm=>q09 P o.type (Am t v (A7 l) (A7 h) (A7 m)) K
 |.makeInterface t x=>q11 e x λv=>qj P (Instr.makeInterface t v) K
 |.makeFunc fn first cap=>qj3 e first.toList λw=>qj3 e cap.toList λcs=>qj P (Instr.makeFunc fn w.toArray cs.toArray) K
 |.call { callee:=.builtin .len,args,argTypes}=>qj3 e args.toList λvs=>qj P (Builtin.len_ argTypes o.type vs.toArray) K
 |.call { callee:=.builtin .min,args,argTypes}=>qj3 e args.toList λvs=>qj P (Builtin.min_ argTypes o.type vs.toArray) K
 |.call { callee:=.builtin .max,args,argTypes}=>qj3 e args.toList λvs=>qj P (Builtin.max_ argTypes o.type vs.toArray) K
 |.typeAssert x s d ok=>q11 e x λv=>q09 P o.type (Instr.typeAssert v s d ok) K
 |.build t parts=>q86 e parts.toList λg=>qj P (Instr.build t g.toArray) K
 |_=>False
def qwz{P:A2}{t:A8}{x l:A0}{K:A0->Prop}(h:ixK P t x l K):∃v,K v/\∀w,(B0 t x l).run P w=.ok v w:=by
 unfold ixK qmd IxP at h;split at h
 .rename_i k i e p n c j;split at h
  .rename_i d f;obtain⟨a,rfl,b,g⟩:=h;refine⟨_,g,λw=>?_⟩;simp[B0,asIntOf,run_underlying j,sizeOf,typeInfo,f,b.1,b.2]
  .exact h.elim
 .rename_i k i n e p j;split at h
  .rename_i d f;obtain⟨a,rfl,b,g⟩:=h;refine⟨_,g,λw=>?_⟩;simp[B0,asIntOf,Ae,run_underlying j,sizeOf,typeInfo,f,b.1,b.2]
  .exact h.elim
 .exact h.elim
def qpx{n:Nat}{e:Env}{o:Aq}{x:Ac}{v:A0}{K:A0->Prop}{a:Act}(f:q71 dfr n e a)(c:o.op=.nilCheck x)(d:a.eval x=v)(h:qqg v K){P:A2} :
 ∃v,K v/\∀w,(execOp a.eval o).run P w=.ok (.value v) w:=by
 subst d;unfold qqg at h;split at h
 .rename_i p b;unfold qa at h;split at h;.refine⟨_,h,λw=>?_⟩;simp[execOp,c,b]
  .exact h.elim
 .rename_i b;refine⟨_,h,λw=>?_⟩;simp[execOp,c,b]
 .rename_i b;refine⟨_,h,λw=>?_⟩;simp[execOp,c,b]
 .rename_i b;refine⟨_,h,λw=>?_⟩;simp[execOp,c,b]
 .rename_i b;refine⟨_,h,λw=>?_⟩;simp[execOp,c,b]
 .exact h.elim
def get!_eq{s:ByteArray}{i:Nat}(h:i<s.size):s[i]?=A7 (s.get! i):=by have w:i<s.data.size:=h;rw[getElem?_pos s i h];congr 1;show s.data[i]=s.data[i]!;rw[getElem!_pos s.data i w]
def qly{P:A2}{t ty:A8}{x a:A0}{K:A0->Prop}(h:q3c P t ty x a K):∃v,K v/\∀w,(B4 t x a).run P w=.ok v w:=by
 unfold q3c at h;split at h
 .rename_i k i s e;obtain⟨b,d⟩:=h;have c:i.toNat<s.size:=by omega
  refine⟨_,d,λw=>?_⟩;simp[B4,asIntOf,run_underlying e,b.1,get!_eq c]
 .exact q3b h
def q0k{v:Option A0}{l:Option Int}(h:q49 v=A7 l):(v=Aa/\l=Aa)\/∃k i,v=A7 (.int k i)/\l=A7 i:=by
 unfold q49 at h;split at h;.left;simp_all
 .right;simp at h;subst h;exact⟨_,_,rfl,rfl⟩
 .cases h
def qae{P:A2}{a:Bool}{n c:Nat}{e f:Option A0}{l h:Option Int}(o:q49 e=A7 l)(p:q49 f=A7 h)
 (m:0<=l.getD 0/\l.getD 0<=h.getD n/\h.getD n<=c) (w:A3):
 (Ag a n c e f Aa).run P w=.ok ((l.getD 0).toNat,(h.getD n).toNat,c) w:=by
 obtain⟨g,d,b⟩:=m;rcases q0k o with ⟨rfl,rfl⟩|⟨k,i,rfl,rfl⟩<;>rcases q0k p with ⟨rfl,rfl⟩|⟨q,j,rfl,rfl⟩<;>simp only[Option.getD]at g d b⊢
 .simp[Ag]
 .simp[Ag,As,asIntOf,show 0<=j by omega,b]
 .simp[Ag,As,asIntOf,g,d]
 .have:(0<=i/\i<=(j.toNat:Int)):=by omega
  simp[Ag,As,asIntOf,show 0<=j by omega,b,this.1,this.2];omega
def qnh{P:A2}{t:A8}{x:A0}{o r q:Option A0}{K:A0->Prop}(h:slK P t x o r q K):∃v,K v/\∀w,(Am t x o r q).run P w=.ok v w:=by
 unfold slK qmd SlP SlS at h;split at h
 .rename_i e p n c l m j g i;split at h
  .rename_i k b;obtain⟨d,f⟩:=h;refine⟨_,f,λw=>?_⟩;simp[Am,B9,run_underlying j,qae g i d,sizeOf,typeInfo,b]
  .exact h.elim
 .rename_i n e a l m j g i;split at h
  .rename_i k b;obtain⟨d,f⟩:=h;refine⟨_,f,λw=>?_⟩;simp[Am,Ae,run_underlying j,qae g i d,sizeOf,typeInfo,b];split<;>rfl
  .exact h.elim
 .rename_i s l m j g i;obtain⟨d,f⟩:=h;refine⟨_,f,λw=>?_⟩;simp[Am,B9,run_underlying j,qae g i d]
 .exact h.elim
def qqo{P:A2}{t e:A8}(h:P.underlying t=A7 (.pointer e))(d:Nat)(p:Option Ad)(w:A3):
 (B1 (d+1) t (.pointer p) (.pointer Aa)).run P w=.ok (qi2 p) w:=by
 cases p<;>simp[B1,run_underlying h,qi2]
def q8k{P:A2}{t e:A8}(h:P.underlying t=A7 (.pointer e))(p:Option Ad)(w:A3):
 (Ax t (.pointer p) (.pointer Aa)).run P w=.ok (qi2 p) w:=qqo h 9999 p w
def qfg{P:A2}(op:BinOp)(t:A8)(x y:Ac)(p q:Option Ad)(w:A3):(eqGuard op t x y (.pointer p) (.pointer q)).run P w=.ok () w:=by cases op<;>rfl
def q2y{P:A2}(t:A8)(k a:Az)(m n:Int)(h:0<=n)(x y:Ac)(w:A3):
 (do eqGuard .shl t x y (.int k m) (.int a n);binOp .shl t (.int k m) (.int a n):Sem A0).run P w=.ok (.int k (k.wrap (m*2 ^ min n.toNat k.bits))) w:=by
 have e:binOp .shl t (.int k m) (.int a n)=B7 .shl k m a n:=rfl;rw[e,B7,yA (Int.not_lt.2 h)];rfl
def qpy{P:A2}(t:A8)(k a:Az)(m n:Int)(h:0<=n)(x y:Ac)(w:A3):
 (do eqGuard .shr t x y (.int k m) (.int a n);binOp .shr t (.int k m) (.int a n):Sem A0).run P w=.ok (.int k (m.fdiv (2 ^ min n.toNat k.bits))) w:=by
 have e:binOp .shr t (.int k m) (.int a n)=B7 .shr k m a n:=rfl;rw[e,B7,yA (Int.not_lt.2 h)];rfl
def qtx{P:A2}(t:A8)(k:Az)(m n:Int)(h:n≠0)(x y:Ac)(w:A3):
 (do eqGuard .quo t x y (.int k m) (.int k n);binOp .quo t (.int k m) (.int k n):Sem A0).run P w=.ok (.int k (k.wrap (m.tdiv n))) w:=by
 have e:binOp .quo t (.int k m) (.int k n)=B2 .quo k m n:=by simp[binOp]
 rw[e,B2,yA h];rfl
def qiy{P:A2}(t:A8)(k:Az)(m n:Int)(h:n≠0)(x y:Ac)(w:A3):
 (do eqGuard .rem t x y (.int k m) (.int k n);binOp .rem t (.int k m) (.int k n):Sem A0).run P w=.ok (.int k (m.tmod n)) w:=by
 have e:binOp .rem t (.int k m) (.int k n)=B2 .rem k m n:=by simp[binOp]
 rw[e,B2,yA h];rfl
def qvy{P:A2}(t:A8)(s u:ByteArray)(h:s.size+u.size<=9223372036854775807)(x y:Ac)(w:A3):
 (do eqGuard .add t x y (.string s) (.string u);binOp .add t (.string s) (.string u):Sem A0).run P w=.ok (.string (s++u)) w:=by
 have e:binOp .add t (.string s) (.string u)=Ba .add s u:=rfl;have a:¬(((s.size+u.size:Nat):Int)>IntKind.i64.max):=by have e:IntKind.i64.max=9223372036854775807:=rfl;rw[e];omega
 rw[e,Ba,yA a];rfl
def qgt{P:A2}{t e:A8}(h:P.underlying t=A7 (.pointer e))(p:Option Ad)(x y:Ac)(w:A3):
 (do eqGuard .eql t x y (.pointer p) (.pointer Aa);binOp .eql t (.pointer p) (.pointer Aa):Sem A0).run P w=.ok (.bool (qi2 p)) w:=by
 have e:binOp .eql t (.pointer p) (.pointer Aa)=(do pure (.bool (<-Ax t (.pointer p) (.pointer Aa)))):=rfl;rw[e];simp only[A1,qfg,A4,q8k h];rfl
def qzs{P:A2}{t e:A8}(h:P.underlying t=A7 (.pointer e))(p:Option Ad)(x y:Ac)(w:A3):
 (do eqGuard .neq t x y (.pointer p) (.pointer Aa);binOp .neq t (.pointer p) (.pointer Aa):Sem A0).run P w=.ok (.bool (!qi2 p)) w:=by
 have e:binOp .neq t (.pointer p) (.pointer Aa)=(do pure (.bool (!(<-Ax t (.pointer p) (.pointer Aa))))):=rfl;rw[e];simp only[A1,qfg,A4,q8k h];rfl
def qvm{P:A2}{t e:A8}(b:P.underlying t=A7 (.slice e))(d:Nat)(p:Option Ad)(n c h a:Nat)(w:A3):
 (B1 (d+1) t (.slice p n c) (.slice Aa h a)).run P w=.ok (qi2 p) w:=by
 cases p<;>simp[B1,run_underlying b,qi2]
def qxi{P:A2}{t e:A8}(b:P.underlying t=A7 (.slice e))(p:Option Ad)(n c h a:Nat)(w:A3):
 (Ax t (.slice p n c) (.slice Aa h a)).run P w=.ok (qi2 p) w:=qvm b 9999 p n c h a w
def qkr{P:A2}{t e:A8}(b:P.underlying t=A7 (.slice e))(p:Option Ad)(n c h a:Nat)(x y:Ac)(w:A3):
 (do eqGuard .eql t x y (.slice p n c) (.slice Aa h a);binOp .eql t (.slice p n c) (.slice Aa h a):Sem A0).run P w=.ok (.bool (qi2 p)) w:=by
 have e:binOp .eql t (.slice p n c) (.slice Aa h a)=(do pure (.bool (<-Ax t (.slice p n c) (.slice Aa h a)))):=rfl;have g:(eqGuard .eql t x y (.slice p n c) (.slice Aa h a)).run P w=.ok () w:=rfl;rw[e];simp only[A1,g,A4,qxi b];rfl
def qpq{P:A2}{t e:A8}(b:P.underlying t=A7 (.slice e))(p:Option Ad)(n c h a:Nat)(x y:Ac)(w:A3):
 (do eqGuard .neq t x y (.slice p n c) (.slice Aa h a);binOp .neq t (.slice p n c) (.slice Aa h a):Sem A0).run P w=.ok (.bool (!qi2 p)) w:=by
 have e:binOp .neq t (.slice p n c) (.slice Aa h a)=(do pure (.bool (!(<-Ax t (.slice p n c) (.slice Aa h a))))):=rfl;have g:(eqGuard .neq t x y (.slice p n c) (.slice Aa h a)).run P w=.ok () w:=rfl;rw[e];simp only[A1,g,A4,qxi b];rfl
def qby{P:A2}{op:BinOp}{t ty:A8}{x y:Ac}{a b:A0}{K:A0->Prop}(h:qsa P op t ty x y a b K):
 ∃v,K v/\∀w,(do eqGuard op t x y a b;binOp op t a b:Sem A0).run P w=.ok v w:=by
 unfold qsa at h;split at h
 .split at h
  .split at h
   .split at h
    .rename_i k m j n g;have i:=yC g;obtain⟨f,d⟩:=h;subst i;exact⟨_,d,λw=>qtx t _ _ _ f x y w⟩
    .exact h.elim
   .exact h.elim
  .split at h
   .split at h
    .rename_i k m j n g;have i:=yC g;obtain⟨f,d⟩:=h;subst i;exact⟨_,d,λw=>qiy t _ _ _ f x y w⟩
    .exact h.elim
   .exact h.elim
  .split at h;.exact⟨_,h.2,λw=>q2y t _ _ _ _ h.1 x y w⟩
   .exact h.elim
  .split at h;.exact⟨_,h.2,λw=>qpy t _ _ _ _ h.1 x y w⟩
   .exact h.elim
  .exact qj2 h
 .split at h
  .split at h;.exact⟨_,h.2,λw=>qvy t _ _ h.1 x y w⟩
   .exact h.elim
  .exact qj2 h
 .exact qj2 h
 .rename_i c;unfold q85 at c;split at c<;>cases c;rename_i e;split at h;.exact⟨_,h,λw=>qgt e _ x y w⟩
  .exact⟨_,h,λw=>qzs e _ x y w⟩
  .exact h.elim
 .rename_i c;unfold q85 at c;split at c<;>cases c;rename_i e;split at h;.exact⟨_,h,λw=>qkr e _ _ _ _ _ x y w⟩
  .exact⟨_,h,λw=>qpq e _ _ _ _ _ x y w⟩
  .exact h.elim
 .exact q3b h
def q7c{P:A2}{n:Nat}{o:Aq}{e:Env}{K:A0->Prop}{a:Act}(h:opP P o e K)(p:q71 dfr n e a):
 ∃v,K v/\∀w,(execOp a.eval o).run P w=.ok (.value v) w:=by
 unfold opP at h;split at h;.rename_i x g;exact⟨_,ql h p,λw=>by simp[execOp,g]⟩
 .rename_i x g;exact⟨_,ql h p,λw=>by simp[execOp,g]⟩
 .rename_i c x y g;have h:=ql h p;split at h
  .rename_i b r;cases b with
   |true=>exact⟨_,ql h p,λw=>by simp[execOp,g,r,asBool]⟩
   |false=>exact⟨_,ql h p,λw=>by simp[execOp,g,r,asBool]⟩
  .exact h.elim
 .rename_i x g;exact qpx p g yR (ql h p)
 .rename_i op t x y _ g;obtain⟨v,j,k⟩:=qby (ql (ql h p) p);exact⟨v,j,λw=>by have:=k w;simp only[execOp,g,A1]at this⊢;rw[this];rfl⟩
 .rename_i op t x g;obtain⟨v,j,k⟩:=qj2 (ql h p);exact⟨v,j,λw=>by simp[execOp,g,k w]⟩
 .rename_i s d x g;obtain⟨v,j,k⟩:=qj2 (ql h p);exact⟨v,j,λw=>by simp only[execOp,g,A1,k w];rfl⟩
 .rename_i s x f g;obtain⟨v,j,k⟩:=qj2 (ql h p);exact⟨v,j,λw=>by simp only[execOp,g,A1,k w];rfl⟩
 .rename_i s x f g;obtain⟨v,j,k⟩:=qj2 (ql h p);exact⟨v,j,λw=>by simp only[execOp,g,A1,k w];rfl⟩
 .rename_i x i g;obtain⟨v,j,k⟩:=qj2 (ql h p);exact⟨v,j,λw=>by simp only[execOp,g,A1,k w];rfl⟩
 .rename_i t x i g;obtain⟨v,j,k⟩:=qwz (ql (ql h p) p);exact⟨v,j,λw=>by simp only[execOp,g,A1,k w];rfl⟩
 .rename_i t x i g;obtain⟨v,j,k⟩:=qly (ql (ql h p) p);exact⟨v,j,λw=>by simp only[execOp,g,A1,k w];rfl⟩
 .rename_i t x g;obtain⟨v,j,k⟩:=qnh (ql h p);exact⟨v,j,λw=>by simp only[execOp,g,A1,Ai,k w];rfl⟩
 .rename_i t x l g;obtain⟨v,j,k⟩:=qnh (ql (ql h p) p);exact⟨v,j,λw=>by simp only[execOp,g,A1,Ai,Ao,k w];rfl⟩
 .rename_i t x l g;obtain⟨v,j,k⟩:=qnh (ql (ql h p) p);exact⟨v,j,λw=>by simp only[execOp,g,A1,Ai,Ao,k w];rfl⟩
 .rename_i t x l u g;obtain⟨v,j,k⟩:=qnh (ql (ql (ql h p) p) p);exact⟨v,j,λw=>by simp only[execOp,g,A1,Ai,Ao,k w];rfl⟩
 .rename_i t x l u m g;obtain⟨v,j,k⟩:=q3b (ql (ql (ql (ql h p) p) p) p);exact⟨v,j,λw=>by simp only[execOp,g,A1,Ai,Ao,k w];rfl⟩
 .rename_i t x g;obtain⟨v,j,k⟩:=qj2 (ql h p);exact⟨v,j,λw=>by simp only[execOp,g,A1,k w];rfl⟩
 .rename_i fn first cap g
  obtain⟨v,j,k⟩:=qj2 (qk2 p _ _ (qk2 p _ _ h));exact⟨v,j,λw=>by have:=k w;simp only[List.map_toArray,<-A6,A5]at this;simp only[execOp,g,A1,this];rfl⟩
 .rename_i args tys g;obtain⟨v,j,k⟩:=qj2 (qk2 p _ _ h);exact⟨v,j,λw=>by have:=k w;simp only[<-A6,A5]at this;simp only[execOp,g,resolve,invoke,builtin,A1,A9,A4,this]⟩
 .rename_i args tys g;obtain⟨v,j,k⟩:=qj2 (qk2 p _ _ h);exact⟨v,j,λw=>by have:=k w;simp only[<-A6,A5]at this;simp only[execOp,g,resolve,invoke,builtin,A1,A9,A4,this]⟩
 .rename_i args tys g;obtain⟨v,j,k⟩:=qj2 (qk2 p _ _ h);exact⟨v,j,λw=>by have:=k w;simp only[<-A6,A5]at this;simp only[execOp,g,resolve,invoke,builtin,A1,A9,A4,this]⟩
 .rename_i x s d ok g;obtain⟨v,j,k⟩:=q3b (ql h p);exact⟨v,j,λw=>by simp only[execOp,g,A1,k w];rfl⟩
 .rename_i t q g;obtain⟨v,j,k⟩:=qj2 (qr9 p _ _ h);refine⟨v,j,λw=>?_⟩;have:=k w;simp only[<-A6,A5]at this;simp only[execOp,g,A1,this];rfl
 .exact h.elim
def za:=@Bif.i
end
section
variable{dfr:List Deferred}
def qb(P:A2)(f:Au)(args:Array A0)(w:A3)(R:A0->A3->Prop):Prop:=
 Calls P f args w λe w'=>∃v,e=.returned v/\R v w'
def qb.mono{P:A2}{f:Au}{args:Array A0}{w:A3}{R R':A0->A3->Prop}(h:qb P f args w R)(c:∀v w',R v w'->R' v w'):qb P f args w R':=
 Calls.mono h λe w' ⟨v,b,a⟩=>⟨v,b,c v w' a⟩
def q33(P:A2)(f:Au):Bool:=
 match P.funcs[f]? with
 |some fn=>!(fn.name== "runtime.NumGoroutine")&&fn.body.isSome
 |none=>Ah
def q04{P:A2}{f:Au}(h:q33 P f=An)(args:Array A0)(w:A3):(callFunc f args).run P w=.ok (.enter f args) w:=by
 unfold q33 at h;unfold callFunc;simp only[A1,run_program,A4];split at h
 .rename_i fn a;simp only[Bool.and_eq_true,Bool.not_eq_true']at h;have b:fn.body.isNone=Ah:=by cases hb:fn.body<;>simp_all
  simp[a,h.1,b]
 .cases h
def resF(P:A2)(f:Au):Option (List Ty):=
 match P.funcs[f]? with
 |some fn=>q4l P fn.resultTypes.toList
 |none=>Aa
def q2l(P:A2)(f:Au)(args:List A0)(w:A3)(K:A0->A3->Prop):Prop:=
 match q33 P f,resF P f with
 |true,A7 l=>qb P f args.toArray w λv w'=>asR l v λv=>K v w'
 |_,_=>False
def qn5(P:A2)(t:A8)(v:A0)(args:List A0)(w:A3)(K:A0->A3->Prop):Prop:=
 ∃f first cap,v=.func (.func f) first cap/\q33 P f=An/\qb P f (first++args.toArray++cap) w K
def qb9(P:A2)(t:A8)(v:A0)(args:List A0)(w:A3)(K:A0->A3->Prop):Prop:=
 match q9e P t with
 |some l=>qn5 P t v args w λv w'=>asR l v λv=>K v w'
 |none=>False
def qh(cs:Array A0)(t:A8)(w:A3)(F:Nat->A3->Prop):Prop:=F w.heap.size (w.alloc (.cells cs t))
def qn1(v:A0):Prop:=match v with|.agg _=>False|.tuple _=>False|_=>True
def St1(a:Ad)(v:A0)(w:A3)(K:A3->Prop):Prop:=((∃u,w.cell? a=A7 u)/\w.frozen? a=Ah)/\K (w.setCell a v)
def qqc:T0->A0->Bool
 |.int _,.int _ _=>An
 |.bool,.bool _=>An
 |.str,.string _=>An
 |.ptr,.pointer _=>An
 |.slice,.slice _ _ _=>An
 |.map,.map _=>An
 |_,_=>Ah
def st0(t:T0)(a:Ad)(v:A0)(w:A3)(K:A3->Prop):Prop:=
 match t with
 |.val=>qn1 v/\St1 a v w K
 |t=>match qqc t v with
  |true=>St1 a v w K
  |false=>False
def stL(a:Ad):List T0->List A0->Nat->A3->(A3->Prop)->Prop
 |[],[],_,w,K=>K w
 |t::l,v::r,i,w,K=>st0 t (a.add i) v w λw'=>stL a l r (i+1) w' K
 |_,_,_,_,_=>False
def StA(P:A2)(a:Ad)(cs:Array A0)(w:A3)(K:A3->Prop):Prop:=∃w',(storeCells a cs.toList).run P w=.ok () w'/\K w'
def LdA(P:A2)(n:Nat)(a:Ad)(w:A3)(K:Array A0->Prop):Prop:=∃cs:Array A0,cs.size=n/\(loadCells a n).run P w=.ok cs w/\K cs
def ldK(P:A2)(t:A8)(v:A0)(w:A3)(K:A0->A3->Prop):Prop:=
 match v with
 |.pointer p=>qa p λa=>match qu6 P t with
  |some (.b t)=>ld0 t a w λv=>K v w
  |some (.agg l)=>ldL a w l 0 λvs=>K (.agg vs.toArray) w
  |some (.arr n)=>LdA P n a w λcs=>K (.agg cs) w
  |none=>False
 |_=>False
def stK(P:A2)(t:A8)(v x:A0)(w:A3)(K:A3->Prop):Prop:=
 match v with
 |.pointer p=>qa p λa=>match qu6 P t with
  |some (.b t)=>st0 t a x w K
  |some (.agg l)=>match x with
   |.agg cs=>stL a l cs.toList 0 w K
   |_=>False
  |some (.arr n)=>match x with
   |.agg cs=>cs.size=n/\StA P a cs w K
   |_=>False
  |none=>False
 |_=>False
def qc7(P:A2)(t:A8)(F:A0->Prop):Prop:=
 match P.info? t with
 |some i=>match i.zero with
  |some z=>F z
  |none=>False
 |none=>False
def qu5(P:A2)(t:A8)(len:Nat)(h:List (Nat×A0))(w:A3)(K:A0->A3->Prop):Prop:=
 match P.underlying t with
 |some (.slice e)=>match P.info? e with
  |some i=>match i.zero,Nat.ble (len*i.size) 4096 with
   |some z,An=>match Instr.fill (λj=>A7 (j*i.size,i.size)) ((Ay (len*i.size)).map (z.cells[· %z.cells.size]!)) h with
    |some cells=>qh cells e w λb w'=>K (.slice (A7 ⟨b,0,Aa⟩) len len) w'
    |none=>False
   |_,_=>False
  |none=>False
 |_=>False
def q6g(z:Array A0)(n:Nat):Array A0:=(Ay n).map (z[· %z.size]!)
def MkS(z:Array A0)(size bytes:Nat)(e:A8)(l c:Int)(w:A3)(F:Nat->A3->Prop):Prop:=
 (0<=l/\l<=c/\c<9223372036854775808/\bytes*c<=281474976710656)/\qh (q6g z (c.toNat*size)) e w F
def q0l(P:A2)(t:A8)(l c:A0)(w:A3)(K:A0->A3->Prop):Prop:=
 match P.underlying t,l,c with
 |some (.slice e),.int _ l,.int _ c=>match P.info? e with
  |some i=>match i.zero,Bc 0 i.size with
   |some z,An=>MkS z.cells i.size i.bytes e l c w λb w'=>K (.slice (A7 ⟨b,0,Aa⟩) l.toNat c.toNat) w'
   |_,_=>False
  |none=>False
 |_,_,_=>False
def q8g(P:A2)(s:Sem A0)(w:A3)(A:A3->Prop)(B:A0->A0->A3->Prop):Prop:=
 Run P s w λv w'=>(v=.tuple #[.bool Ah]/\A w')\/∃k x,v=.tuple #[.bool An,k,x]/\B k x w'
def q8g.elim{P:A2}{s:Sem A0}{w:A3}{K:A0->A3->Prop}(h:q8g P s w (K (.tuple #[.bool Ah])) λk x=>K (.tuple #[.bool An,k,x])):∃v w',K v w'/\s.run P w=.ok v w':=by
 obtain⟨v,w',a,h⟩:=h;rcases h with ⟨rfl,h⟩|⟨k,x,rfl,h⟩
 .exact⟨_,w',h,a⟩
 .exact⟨_,w',h,a⟩
def exO:Option Ty->(A0->Prop)->Prop
 |none,F=>∃v,F v
 |some t,F=>exT t F
def qol{t:Option Ty}{F:A0->Prop}(h:exO t F):∃v,F v:=by
 cases t with
 |none=>exact h
 |some t=>obtain⟨v,_,h⟩:=qzb h;exact⟨v,h⟩
def qwa(P:A2)(t0 h:Option Ty)(v:A0)(w:A3)(K:A0->A3->Prop):Prop:=
 Run P (Bb v) w λu w'=>exO t0 λk=>exO h λx=>u=.tuple #[k,x]/\K (.tuple #[k,x]) w'
def qwa.elim{P:A2}{t0 d:Option Ty}{v:A0}{w:A3}{K:A0->A3->Prop}(h:qwa P t0 d v w K):∃u w',K u w'/\(Bb v).run P w=.ok u w':=by obtain⟨u,w',b,h⟩:=h;obtain⟨k,h⟩:=qol h;obtain⟨x,a⟩:=qol h;obtain⟨e,c⟩:=a;subst e;exact⟨_,w',c,b⟩
def q6d(P:A2)(name:String)(v:A0)(vs:List A0)(w:A3)(K:A0->A3->Prop):Prop:=
 ∃f as,(invoke (.fn (.method name) #[]) (#[v]++vs.toArray)).run P w=.ok (.enter f as) w/\qb P f as w K
def qvc(P:A2)(t:A8)(name:String)(v:A0)(vs:List A0)(w:A3)(K:A0->A3->Prop):Prop:=
 match q9e P t with
 |some l=>q6d P name v vs w λv w'=>asR l v λv=>K v w'
 |none=>False
def qs5(w:A3)(F:Nat->A3->Prop):Prop:=F w.heap.size (w.alloc (.map #[] 0))
def qt8(P:A2)(s:Sem Unit)(w:A3)(K:A3->Prop):Prop:=∃w',s.run P w=.ok () w'/\K w'
def qs4(P:A2)(s d:A8):Bool:=
 match P.underlying s,P.underlying d with
 |some (.slice _),_=>An
 |some .string,A7 (.slice _)=>An
 |_,_=>Ah
def q68:List Ty:=[.b .val,.b (.int Zk)]
def qn4(P:A2)(o:Aq):Option (List Ty):=
 match o.op with
 |.mapEntry _ _ _=>A7 q68
 |_=>q9e P o.type
def qu3(P:A2)(ts:Array A8):Bool:=
 match ts.toList with
 |[t]=>match P.underlying t with
  |some (.map _ _)=>An
  |_=>Ah
 |_=>Ah
def opW(P:A2)(o:Aq)(e:Env)(w:A3)(K:A0->A3->Prop):Prop:=
 match o.op with
 |.load t x=>q11 e x λv=>ldK P t v w K
 |.store t x y=>q11 e x λv=>q11 e y λu=>stK P t v u w λw'=>K undef w'
 |.alloc t=>qc7 P t λz=>qh z.cells t w λb w'=>K (.pointer (A7 ⟨b,0,Aa⟩)) w'
 |.box t x=>q11 e x λv=>qh v.cells t w λb w'=>K (.pointer (A7 ⟨b,0,Aa⟩)) w'
 |.buildSlice t len parts=>q86 e parts.toList λh=>qu5 P t len h w K
 |.makeSlice t l c=>q11 e l λl=>q11 e c λc=>q0l P t l c w K
 |.call { callee:=.value (.func f),args,..}=>qj3 e args.toList λvs=>q2l P f vs w K
 |.call { callee:=.value (.tmp t),args,..}=>q11 e (.tmp t) λv=>qj3 e args.toList λvs=>qb9 P o.type v vs w K
 |.call { callee:=.builtin .append,args,argTypes}=>qj3 e args.toList λvs=>qe8 P o.type (Builtin.append_ argTypes o.type vs.toArray) w K
 |.call { callee:=.builtin .copy,args,argTypes}=>qj3 e args.toList λvs=>qe8 P o.type (Builtin.copy_ argTypes o.type vs.toArray) w K
 |.call { callee:=.builtin .delete,args,argTypes}=>qj3 e args.toList λvs=>Run P (Builtin.delete_ argTypes o.type vs.toArray) w K
 |.call { callee:=.builtin .clear,args,argTypes}=>qj3 e args.toList λvs=>Run P (Builtin.clear_ argTypes o.type vs.toArray) w K
 |.convert s d x=>q11 e x λv=>match qs4 P s d with
  |true=>qe8 P o.type (convert s d v) w K
  |false=>qj P (convert s d v) λv=>K v w
 |.makeMap t Aa=>qs5 w λb w'=>K (.map (A7 b)) w'
 |.lookup t x i ok=>q11 e x λv=>q11 e i λi=>qe8 P o.type (Instr.lookup t v i ok) w K
 |.mapUpdate t m k x=>q11 e m λm=>q11 e k λk=>q11 e x λx=>qt8 P (B5 t m k x) w λw'=>K undef w'
 |.insert t m k x=>q11 e m λm=>q11 e k λk=>q11 e x λx=>qt8 P (B5 t m k x) w λw'=>K undef w'
 |.mapEntry t m k=>q11 e m λm=>q11 e k λk=>Run P (Instr.mapEntry t m k) w λu w'=>asR q68 u λv=>K v w'
 |.entryStore t m s x=>q11 e m λm=>q11 e s λs=>q11 e x λx=>qt8 P (Instr.entryStore t m s x) w λw'=>K undef w'
 |.call { callee:=.builtin .len,args,argTypes}=>match qu3 P argTypes with
  |true=>qj3 e args.toList λvs=>qe8 P o.type (Builtin.len_ argTypes o.type vs.toArray) w K
  |false=>qj3 e args.toList λvs=>qj P (Builtin.len_ argTypes o.type vs.toArray) λv=>K v w
 |.range t x=>q11 e x λv=>Run P (Instr.range t v) w K
 |.next it b=>q11 e it λv=>q8g P (Instr.next v b o.type) w (K (.tuple #[.bool Ah])) λk x=>K (.tuple #[.bool An,k,x])
 |.call { callee:=.invoke recv name,args,..}=>q11 e recv λv=>qj3 e args.toList λvs=>qvc P o.type name v vs w K
 |_=>opP P o e λv=>K v w
def qz1(P:A2)(o:Aq)(a:Act)(w:A3)(R:A0->A3->Prop):Prop:=
 match (execOp a.eval o).run P w with
 |.ok (.value v) w'=>R v w'
 |.ok .skip w'=>R undef w'
 |.ok (.enter f args) w'=>Calls P f args w' λe h=>∃v,e=.returned v/\R v h
 |_=>False
def qz1.mono{P:A2}{o:Aq}{a:Act}{w:A3}{R R':A0->A3->Prop}(h:∀v w',R v w'->R' v w')(b:qz1 P o a w R):qz1 P o a w R':=by
 unfold qz1 at*;split at b;.exact h _ _ b
 .exact h _ _ b
 .exact Calls.mono b λe c ⟨v,f,d⟩=>⟨v,f,h _ _ d⟩
 .exact b.elim
def qz1.wp{P:A2}{o:Aq}{a:Act}{w:A3}{R:A0->A3->Prop}{next:Act->A3->Prop}{Q:Exit->Act->A3->Prop}(b:qz1 P o a w R)(h:∀v w',R v w'->next (a.put o.dst v) w'):o.wp P a w next Q:=by
 unfold qz1 at b;unfold Oper.wp;split at b;.rename_i c;rw[c];exact h _ _ b
 .rename_i c;rw[c];exact h _ _ b
 .rename_i c;rw[c];exact Calls.mono b λe f ⟨v,d,g⟩=>by subst d;exact h _ _ g
 .exact b.elim
def qd2{P:A2}{o:Aq}{a:Act}{w w':A3}{v:A0}{K:A0->A3->Prop}
 (b:(execOp a.eval o).run P w=.ok (.value v) w') (h:K v w'):qz1 P o a w K:=by
 unfold qz1;rw[b];exact h
def qxd{P:A2}{o:Aq}{a:Act}{w w':A3}{K:A0->A3->Prop}
 (b:(execOp a.eval o).run P w=.ok .skip w') (h:K undef w'):qz1 P o a w K:=by
 unfold qz1;rw[b];exact h
def qdc{P:A2}{o:Aq}{a:Act}{w:A3}{f:Au}{args:Array A0}{K:A0->A3->Prop}
 (b:(execOp a.eval o).run P w=.ok (.enter f args) w) (h:qb P f args w K):qz1 P o a w K:=by
 unfold qz1;rw[b];exact h
def q6b{P:A2}(t:A8)(v:A0)(w:A3):(newVar t v).run P w=.ok ⟨w.heap.size,0,Aa⟩ (w.alloc (.cells v.cells t)):=rfl
def qts{P:A2}{t:A8}{t0:T0}(h:qu6 P t=A7 (.b t0)):∃d,P.underlying t=A7 d/\qed d=Ah/\∃i,P.info? t=A7 i/\i.size=1:=by
 unfold qu6 at h;split at h
 .rename_i i d b c;split at h
  .split at h;.cases h
   .split at h<;>cases h
   .cases h
  .split at h
   .rename_i a w _;exact⟨d,c,w,i,b,Ab a⟩
   .cases h
  .cases h
 .cases h
def qjm{P:A2}{t:A8}{l:List T0}(h:qu6 P t=A7 (.agg l)):∃d,P.underlying t=A7 d/\qed d=An/\∃i,P.info? t=A7 i/\i.size=l.length:=by
 have tl:∀(vs:List A0) (l:List T0),tyL vs=A7 l->vs.length=l.length:=by
  intro vs;induction vs with
  |nil=>intro l h;simp[tyL]at h;subst h;rfl
  |cons v r ih=>
   intro l h;simp only[tyL]at h;split at h;.rename_i w;simp only[Af]at h;subst h;simp[ih _ w]
   .cases h
 unfold qu6 at h;split at h
 .rename_i i d b a;split at h
  .rename_i cs e;split at h;.cases h
   .rename_i c;split at h
    .rename_i l' w;simp only[Af,Ty.agg.injEq]at h;subst h;exact⟨_,a,rfl,i,b,by rw[Ab c,<-tl _ _ w];simp⟩
    .cases h
   .cases h
  .split at h<;>cases h
  .cases h
 .cases h
def qem{P:A2}{t:A8}{n:Nat}(h:qu6 P t=A7 (.arr n)):∃d,P.underlying t=A7 d/\qed d=An/\∃i,P.info? t=A7 i/\i.size=n:=by
 unfold qu6 at h;split at h
 .rename_i i d a b;split at h
  .rename_i cs c;split at h
   .rename_i w;simp only[Af,Ty.arr.injEq]at h;subst h;exact⟨_,b,rfl,i,a,Ab w⟩
   .split at h<;>cases h
   .cases h
  .split at h<;>cases h
  .cases h
 .cases h
def qhc{P:A2}{t:A8}{d:TypeDesc}(h:P.underlying t=A7 d)(w:A3):(isAgg t).run P w=.ok (qed d) w:=by unfold isAgg;simp only[A1,run_underlying h,A4];cases d<;>rfl
def qz3{P:A2}{t:A8}{i:TypeInfo}(h:P.info? t=A7 i)(w:A3):(sizeOf t).run P w=.ok i.size w:=by simp[sizeOf,typeInfo,h]
def q1n{P:A2}{t:A8}{v:A0}{w:A3}{K:A0->A3->Prop}(h:ldK P t v w K):∃u,K u w/\(Av t v).run P w=.ok u w:=by
 unfold ldK qa at h;split at h
 .split at h
  .rename_i p a;split at h
   .rename_i t0 g;obtain⟨d,e,b,_⟩:=qts g;obtain⟨u,_,c,f⟩:=q5n h;refine⟨u,f,?_⟩;simp[Av,Ae,loadVar,qhc e,b,c]
   .rename_i l g;obtain⟨d,e,b,i,m,o⟩:=qjm g;obtain⟨vs,_,r,c,f⟩:=qxm h;refine⟨_,f,?_⟩;have k:∀j v,vs[j]?=A7 v->w.cell? (a.add j)=A7 v:=λj v q=>by have:=c j v q;rwa[Nat.zero_add]at this
    have:=run_loadCells_list (P:=P) w a vs k;rw[r,<-o]at this;simp[Av,Ae,loadVar,qhc e,b,qz3 m,this]
   .rename_i n g;obtain⟨d,e,b,i,m,o⟩:=qem g;obtain⟨cs,s,c,f⟩:=h;refine⟨_,f,?_⟩;simp[Av,Ae,loadVar,qhc e,b,qz3 m,o,c]
   .exact h.elim
  .exact h.elim
 .exact h.elim
def q1p{P:A2}{a:Ad}{v:A0}{w:A3}{K:A3->Prop}(d:qn1 v)(h:St1 a v w K):∃w',K w'/\(store a v).run P w=.ok () w':=by obtain⟨⟨⟨u,e⟩,b⟩,c⟩:=h;refine⟨_,c,?_⟩;unfold store;cases v<;>first|exact d.elim|simp[Sem.run,e,b]
def q9k{t:T0}{v:A0}(h:qqc t v=An):qn1 v:=by cases t<;>cases v<;>first|trivial|cases h
def qkp{P:A2}{t:T0}{a:Ad}{v:A0}{w:A3}{K:A3->Prop}(h:st0 t a v w K):qn1 v/\∃w',K w'/\(store a v).run P w=.ok () w':=by
 unfold st0 at h;split at h;.exact⟨h.1,q1p h.1 h.2⟩
 .split at h;.rename_i b;exact⟨q9k b,q1p (q9k b) h⟩
  .exact h.elim
def qfp{P:A2}{a:Ad}:∀{l:List T0} {vs:List A0} {i:Nat} {w:A3} {K:A3->Prop},stL a l vs i w K->l.length=vs.length/\∃w',K w'/\(storeCells a vs i).run P w=.ok () w'
 |[],[],_,w,_,h=>⟨rfl,w,h,rfl⟩
 |t::l,v::r,i,w,K,h=>by obtain⟨_,w1,f,e⟩:=qkp (P:=P) h;obtain⟨g,d,c,b⟩:=qfp (P:=P) f;refine⟨by simp[g],d,c,?_⟩;simp[storeCells,e,b]
 |[],_::_,_,_,_,h=>h.elim
 |_::_,[],_,_,_,h=>h.elim
def q9g{v:A0}(h:qn1 v):v.cells=#[v]:=by cases v<;>first|exact h.elim|rfl
def qlz{P:A2}{t:A8}{v x:A0}{w:A3}{K:A3->Prop}(h:stK P t v x w K):∃w',K w'/\(Ar t v x).run P w=.ok () w':=by
 unfold stK qa at h;split at h
 .split at h
  .rename_i p a;split at h
   .rename_i t0 g;obtain⟨d,m,k,i,b,c⟩:=qts g;obtain⟨q,w',f,j⟩:=qkp (P:=P) h;refine⟨w',f,?_⟩;simp[Ar,Ae,storeVar,qz3 b,c,q9g q,storeCells,Za,j]
   .rename_i l g;obtain⟨d,m,k,i,b,c⟩:=qjm g;split at h
    .rename_i cs;obtain⟨r,w',f,j⟩:=qfp (P:=P) h;refine⟨w',f,?_⟩;have e:cs.size=i.size:=by rw[c,r];simp
     simp[Ar,Ae,storeVar,qz3 b,Value.cells,e,j]
    .exact h.elim
   .rename_i n g;obtain⟨d,m,k,i,b,c⟩:=qem g;split at h
    .rename_i cs;obtain⟨o,w',j,f⟩:=h;refine⟨w',f,?_⟩;simp[Ar,Ae,storeVar,qz3 b,Value.cells,o,c,j]
    .exact h.elim
   .exact h.elim
  .exact h.elim
 .exact h.elim
def qhe(f:Nat->A0):(Ay 0).map f=#[]:=by
 have h:Ay 0=#[]:=by simp
 rw[h];simp
def qop{P:A2}{t:A8}{len:Nat}{a:List (Nat×A0)}{w:A3}{K:A0->A3->Prop}(h:qu5 P t len a w K):
 ∃v w',K v w'/\(B3 t len a.toArray).run P w=.ok v w':=by
 unfold qu5 qh at h;split at h
 .rename_i e l;split at h
  .rename_i i j;split at h
   .rename_i z k b;have b:=Aj b;split at h
    .rename_i f c;refine⟨_,_,h,?_⟩;have g:¬(len*i.size>2 ^ 24):=by have:(2:Nat) ^ 24=16777216:=rfl;rw[this];omega
     simp only[B3,A1,run_underlying l,A4,qz3 j,yA g];by_cases d:len*i.size=0
     .simp only[d,qhe]at c;simp only[d,if_true,A9,A4,qhe,c];rfl
     .simp only[d,if_false,A1,zeroValue,typeInfo,run_program,A4,j,A9,k];simp[c];rfl
    .exact h.elim
   .exact h.elim
  .exact h.elim
 .exact h.elim
def qmw{P:A2}{t:A8}{l c:A0}{w:A3}{K:A0->A3->Prop}(h:q0l P t l c w K):
 ∃v w',K v w'/\(B6 t l c).run P w=.ok v w':=by
 unfold q0l MkS qh at h;split at h
 .rename_i e k l x c q;split at h
  .rename_i i d;split at h
   .rename_i z g f;have f:=Aj f;obtain⟨⟨s,y,r,u⟩,p⟩:=h;refine⟨_,_,p,?_⟩;have j:IntKind.i64.wrap l=l:=IntWalk.i64_in _ ⟨by omega,by omega⟩;have n:IntKind.i64.wrap c=c:=IntWalk.i64_in _ ⟨by omega,by omega⟩;have b:(2:Int) ^ 48=281474976710656:=rfl;simp only[B6,A1,run_underlying q,A4,asInt,asIntOf,A9,typeInfo,run_program,d,j,n,b];have o:(decide (c<0)||decide ((i.bytes:Int)*c>281474976710656))=Ah:=by simp;omega
    have t2:(decide (l<0))=Ah:=by simp;omega
    have t3:decide (l>c)=Ah:=by simp;omega
    simp only[o,t2,t3,Bool.or_false,Bool.false_eq_true,if_false,A1];have m:(askRoom (c.toNat*i.bytes)).run P w=.ok () w:=by unfold askRoom;split<;>rfl
    simp only[m,A4,qz3 d];by_cases a:c.toNat*i.size=0
    .simp only[a,if_true,A9,A4];simp only[newRow,q6g,a,qhe];rfl
    .simp only[a,if_false,A1,zeroValue,typeInfo,run_program,A4,d,A9,g];rfl
   .exact h.elim
  .exact h.elim
 .exact h.elim
def qpv{P:A2}{f:Au}{vs:List A0}{w:A3}{K:A0->A3->Prop}(h:q2l P f vs w K):
 q33 P f=An/\qb P f vs.toArray w K:=by
 unfold q2l at h;split at h
 .rename_i a c;exact⟨a,h.mono λv w' b=>q34 b⟩
 .exact h.elim
def q3v{P:A2}{t:A8}{v:A0}{vs:List A0}{w:A3}{K:A0->A3->Prop}(h:qb9 P t v vs w K):
 ∃f first cap,v=.func (.func f) first cap/\q33 P f=An/\qb P f (first++vs.toArray++cap) w K:=by
 unfold qb9 at h;split at h
 .obtain⟨f,first,cap,a,c,b⟩:=h;exact⟨f,first,cap,a,c,b.mono λv w' a=>q34 a⟩
 .exact h.elim
def qq9{P:A2}{n:Nat}{o:Aq}{e:Env}{w:A3}{K:A0->A3->Prop}{a:Act}
 (h:opW P o e w K) (q:q71 dfr n e a):qz1 P o a w K:=by
 unfold opW at h;split at h
 .rename_i t x g;obtain⟨u,p,A⟩:=q1n (ql h q);exact qd2 (by simp only[execOp,g,A1,A];rfl) p
 .rename_i t x y g;obtain⟨w',p,A⟩:=qlz (ql (ql h q) q);exact qxd (by simp only[execOp,g,A1,A];rfl) p
 .rename_i t g;unfold qc7 at h;split at h
  .rename_i i F;split at h
   .rename_i z E;exact qd2 (by simp[execOp,g,Instr.alloc,zeroValue,typeInfo,F,E,q6b]) h
   .exact h.elim
  .exact h.elim
 .rename_i t x g;exact qd2 (by simp[execOp,g,Instr.box,q6b]) (ql h q)
 .rename_i t len C g;obtain⟨v,w',p,j⟩:=qop (qr9 q _ _ h);refine qd2 ?_ p;simp only[<-A6,A5]at j;simp only[execOp,g,A1,j];rfl
 .rename_i t l c g;obtain⟨v,w',p,j⟩:=qmw (ql (ql h q) q);exact qd2 (by simp only[execOp,g,A1,j];rfl) p
 .rename_i f args tys g;obtain⟨B,r⟩:=qpv (qk2 q _ _ h);rw[<-A6,A5]at r;refine qdc ?_ r;simp[execOp,g,resolve,invoke,Act.eval,Ak,q04 B]
 .rename_i t args tys g;obtain⟨f,first,cap,j,B,r⟩:=q3v (qk2 q _ _ (ql h q));rw[<-A6,A5]at r;refine qdc ?_ r;simp[execOp,g,resolve,invoke,j,Ak,q04 B]
 .rename_i args tys g;obtain⟨v,w',p,j⟩:=q19 (qk2 q _ _ h);refine qd2 ?_ p;simp only[<-A6,A5]at j;simp only[execOp,g,resolve,invoke,builtin,A1,A9,A4,j]
 .rename_i args tys g;obtain⟨v,w',p,j⟩:=q19 (qk2 q _ _ h);refine qd2 ?_ p;simp only[<-A6,A5]at j;simp only[execOp,g,resolve,invoke,builtin,A1,A9,A4,j]
 .rename_i args tys g;obtain⟨v,w',j,p⟩:=(qk2 q _ _ h);refine qd2 ?_ p;simp only[<-A6,A5]at j;simp only[execOp,g,resolve,invoke,builtin,A1,A9,A4,j]
 .rename_i args tys g;obtain⟨v,w',j,p⟩:=(qk2 q _ _ h);refine qd2 ?_ p;simp only[<-A6,A5]at j;simp only[execOp,g,resolve,invoke,builtin,A1,A9,A4,j]
 .rename_i s d x g;have h:=ql h q;split at h
  .obtain⟨v,w',p,j⟩:=q19 h;exact qd2 (by simp only[execOp,g,A1,j];rfl) p
  .obtain⟨v,p,j⟩:=qj2 h;exact qd2 (by simp only[execOp,g,A1,j w];rfl) p
 .rename_i t g;exact qd2 (by simp[execOp,g,Instr.makeMap]) h
 .rename_i t x i ok g;obtain⟨v,w',p,j⟩:=q19 (ql (ql h q) q);exact qd2 (by simp only[execOp,g,A1,j];rfl) p
 .rename_i t m k x g;obtain⟨w',j,p⟩:=ql (ql (ql h q) q) q;exact qxd (by simp only[execOp,g,A1,j];rfl) p
 .rename_i t m k x g;obtain⟨w',j,p⟩:=ql (ql (ql h q) q) q;exact qxd (by simp only[execOp,g,A1,j];rfl) p
 .rename_i t m k g;obtain⟨v,w',j,p⟩:=ql (ql h q) q;exact qd2 (by simp only[execOp,g,A1,j];rfl) (q34 p)
 .rename_i t m s x g;obtain⟨w',j,p⟩:=ql (ql (ql h q) q) q;exact qxd (by simp only[execOp,g,A1,j];rfl) p
 .rename_i args tys g;split at h
  .obtain⟨v,w',p,j⟩:=q19 (qk2 q _ _ h);refine qd2 ?_ p;simp only[<-A6,A5]at j;simp only[execOp,g,resolve,invoke,builtin,A1,A9,A4,j]
  .obtain⟨v,p,j⟩:=qj2 (qk2 q _ _ h);refine qd2 (w':=w) ?_ p;have:=j w;simp only[<-A6,A5]at this;simp only[execOp,g,resolve,invoke,builtin,A1,A9,A4,this]
 .rename_i t x g;obtain⟨v,w',j,p⟩:=ql h q;exact qd2 (by simp only[execOp,g,A1,j];rfl) p
 .rename_i G b g;obtain⟨v,w',p,j⟩:=q8g.elim (ql h q);exact qd2 (by simp only[execOp,g,A1,j];rfl) p
 .rename_i D name args tys g;have h:=qk2 q _ _ (ql h q);unfold qvc at h;split at h
  .obtain⟨f,as,A,r⟩:=h;rw[<-A6,A5]at A;refine qdc ?_ (r.mono λv w' j=>q34 j);simp[execOp,g,resolve,A]
  .exact h.elim
 .obtain⟨v,p,j⟩:=q7c h q;exact qd2 (j w) p
def q96(P:A2)(d i:Nat):List Aq->Option Ty
 |[]=>Aa
 |o::r=>match o.op with
  |.extract (.tmp t) j=>match Ap t d&&Ap j i with
   |true=>qu6 P o.type
   |false=>q96 P d i r
  |_=>q96 P d i r
def opX(P:A2)(r:List Aq)(o:Aq)(e:Env)(w:A3)(K:A0->A3->Prop):Prop:=
 match o.op,o.dst with
 |.entry it,A7 d=>q11 e it λv=>qwa P (q96 P d 0 r) (q96 P d 1 r) v w K
 |_,_=>opW P o e w K
def q8h{P:A2}{n:Nat}{r:List Aq}{o:Aq}{e:Env}{w:A3}{K:A0->A3->Prop}{a:Act}
 (h:opX P r o e w K) (b:q71 dfr n e a):qz1 P o a w K:=by
 unfold opX at h;split at h
 .rename_i i d g _;obtain⟨v,w',c,f⟩:=qwa.elim (ql h b);exact qd2 (by simp only[execOp,g,A1,f];rfl) c
 .exact qq9 h b
def q3t(P:A2)(v:A0)(args:List A0)(w:A3)(K:A0->A3->Prop):Prop:=
 ∃(l:Nat) (r:Loop),v=.func (.yield l) #[] #[]/\w.heap[l]?=A7 (.loop r)/\args.length=r.params.size/\
  RoundIn Aw 0 P l r.fn ((r.params.zip args.toArray).foldl (λtmps (t,a)=>tmps.setIfInBounds t a) r.tmps) r.assign r.body w λe w'=>∃v,e=.returned v/\K v w'
def q01(P:A2)(t:A8)(v:A0)(args:List A0)(w:A3)(K:A0->A3->Prop):Prop:=
 qn5 P t v args w K\/q3t P v args w K
def qi7(P:A2)(t:A8)(v:A0)(args:List A0)(w:A3)(K:A0->A3->Prop):Prop:=
 match q9e P t with
 |some l=>q01 P t v args w λv w'=>asR l v λv=>K v w'
 |none=>False
def opR(P:A2)(r:List Aq)(o:Aq)(e:Env)(w:A3)(K:A0->A3->Prop):Prop:=
 match o.op with
 |.call { callee:=.value (.tmp t),args,..}=>q11 e (.tmp t) λv=>qj3 e args.toList λvs=>qi7 P o.type v vs w K
 |_=>opX P r o e w K
def qx4(F:Bd):Prop:=F=Aw\/∃l,F=Aw.inRound l
def qx4.calls{F:Bd}(a:qx4 F){n:Nat}{P:A2}{f:Au}{args:Array A0}{w:A3}{R:Ending->A3->Prop}(h:Calls P f args w R):CallsIn F n P f args w R:=by
 rcases a with rfl|⟨l,rfl⟩;.exact callsIn_wide.2 h
 .exact CallsIn.inRound l (callsIn_wide.2 h)
def qx4.fn{F:Bd}(h:qx4 F)(f:Au):F.fn f:=by rcases h with rfl|⟨l,rfl⟩<;>trivial
def qx4.depth{F:Bd}(h:qx4 F):F.depth.isSome=Ah:=by rcases h with rfl|⟨l,rfl⟩<;>rfl
def qz1.wpIn{F:Bd}(g:qx4 F){n:Nat}{P:A2}{o:Aq}{a:Act}{w:A3}{R:A0->A3->Prop}{next:Act->A3->Prop}{Q:Exit->Act->A3->Prop}(b:qz1 P o a w R)(j:F.round=Aa\/∀c,o.op≠.defer c)(h:∀v w',R v w'->next (a.put o.dst v) w'):o.wpIn F n P a w next Q:=by
 refine⟨λf _=>g.fn f,?_⟩;have e:o.semAt F.round a.eval=execOp a.eval o:=by
  rcases j with i|i;.rw[i];rfl
  .exact Oper.semAt_eq _ _ _ i
 rw[e];unfold qz1 at b;split at b;.rename_i v w' d;rw[d];exact h _ _ b
 .rename_i w' d;rw[d];exact h _ _ b
 .rename_i f args w' d;rw[d];refine⟨λh=>(by rw[g.depth]at h;cases h),g.calls (Calls.mono b λe w' ⟨v,k,l⟩=>?_)⟩;subst k;exact h _ _ l
 .exact b.elim
def qnr{P:A2}{t:A8}{v:A0}{vs:List A0}{w:A3}{K:A0->A3->Prop}(h:qi7 P t v vs w K):
 (∃f first cap,v=.func (.func f) first cap/\q33 P f=An/\qb P f (first++vs.toArray++cap) w K)\/q3t P v vs w K:=by
 unfold qi7 at h;split at h
 .rcases h with ⟨f,first,cap,a,b,g⟩|⟨l,r,a,i,c,j⟩
  .exact .inl ⟨f,first,cap,a,b,g.mono λv w' a=>q34 a⟩
  .exact .inr ⟨l,r,a,i,c,j.mono λe w' ⟨v,d,a⟩=>⟨v,d,q34 a⟩⟩
 .exact h.elim
def qhs{P:A2}{n:Nat}{r:List Aq}{o:Aq}{e:Env}{w:A3}{K:A0->A3->Prop}{a:Act}{next:Act->A3->Prop}{Q:Exit->Act->A3->Prop}
 (h:opR P r o e w K) (c:q71 dfr n e a) (d:∀v w',K v w'->next (a.put o.dst v) w'):o.wpIn Aw 0 P a w next Q:=by
 unfold opR at h;split at h
 .rename_i t args tys k;rcases qnr (qk2 c _ _ (ql h c))with ⟨f,first,cap,b,m,i⟩|⟨l,r,b,q,g,j⟩
  .rw[<-A6,A5]at i;refine qz1.wpIn (.inl yR) (qdc ?_ i) (.inl yR) d;simp[execOp,k,resolve,invoke,b,Ak,q04 m]
  .rw[<-A6,A5]at j;rw[<-A6,Array.length_toList]at g;refine⟨λf _=>trivial,?_⟩;have u:(o.semAt Aw.round a.eval).run P w=.ok (.round l r.fn ((r.params.zip (args.map a.eval)).foldl (λtmps (t,a)=>tmps.setIfInBounds t a) r.tmps) r.assign r.body) w:=by show(execOp a.eval o).run P w=_;have s:=run_yield (P:=P) q g;simp[execOp,k,resolve,invoke,b,Ak,s]
   rw[u];refine⟨λh=>(by cases h),j.mono λe w' ⟨v,p,b⟩=>?_⟩;subst p;exact d _ _ b
 .exact qz1.wpIn (.inl yR) (q8h h c) (.inl yR) d
end
end Go.Proofs.YtfjifcfbmhpcaaaGreatDoor
