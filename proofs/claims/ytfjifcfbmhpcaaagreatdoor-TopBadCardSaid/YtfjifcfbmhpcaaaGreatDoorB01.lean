/-
  A part of the proof of TopBad.
-/
import Derived.Test.YtfjifcfbmhpcaaaGreatDoorB00
import Derived.Laws.IdiomStrings
set_option linter.all false
namespace Go.Proofs.YtfjifcfbmhpcaaaGreatDoor
open Go
open Go.Region renaming wanted->A0,ready->A3,binds->Ad,noSelect_spec->Ax,free_spec->B2,noSelect->B4,free->Bc
open _root_.Bool renaming true->A1,false->Aa,or_eq_false_iff->Aw,and_eq_true->B1,false_or->B9
open _root_.List renaming mem_cons_of_mem->A2,mem_cons->Ac,filter_cons->Ae,mem_cons_self->Af,getD_eq_getElem?_getD->Ai,mem_append_left->Au,mem_filterMap->Ay,all_eq_true->B0,mem_filter->B3,mem_range->B6,length->Bd,range->Be
open Go.Oper renaming apart_spec->A4
open Go renaming Program->A5,Value->A6,Oper->A8,World->Ak,Operand->Ba
open _root_.Array renaming setIfInBounds_comm->A7,getD_eq_getD_getElem?->Ab,getElem?_eq_none->Ag,getElem?_eq_getElem->Am,setIfInBounds->Ap,getElem?_eq_some_iff->Aq,mem_toList_iff->Av,range->Bb
open _root_.Option renaming some->A9,none->Ar,getD_some->Az,toList->B7
open _root_.Nat renaming eq_of_beq_eq_true->Ah,lt_or_ge->Aj,beq->As,not_lt->B5
open Go.Next.value renaming injEq->An
open Go.Result.ok renaming injEq->Ao
section
variable{dfr:List Deferred}
structure Cls where
 p:List (Nat×Obj)->Ak->Prop
 drew:∀G w,p G w->p G { w with drawn:=w.drawn+1}
 new:∀G w o,p G w->p ((w.heap.size,o)::G) (w.alloc o)
 perm:∀{G G' w},G.Perm G'->p G w->p G' w
def Cls.push(C:Cls)(x:Nat×Obj):Cls where
 p:=λG w=>C.p (x::G) w
 drew:=λG w h=>C.drew _ w h
 new:=λG w o h=>C.perm (List.Perm.swap _ _ _) (C.new _ w o h)
 perm:=λa h=>C.perm (a.cons x) h
def Cls.le(C D:Cls):Prop:=∀G w,C.p G w->D.p G w
def Cls.le_push{C D:Cls}(h:C.le D)(x:Nat×Obj):(C.push x).le (D.push x):=λG w a=>h _ w a
def Cls.push_swap(C:Cls)(x y:Nat×Obj):((C.push x).push y).le ((C.push y).push x):=λG w h=>C.perm (List.Perm.swap _ _ _) h
inductive Kd3 where|new|pure|gen
def kd(P:A5):Op->Kd3
 |.alloc _=>.new
 |.box _ _=>.new
 |.buildSlice _ _ _=>.new
 |.makeMap _ Ar=>.new
 |.load _ _=>.gen
 |.store _ _ _=>.gen
 |.call { callee:=.builtin .len,..}=>.pure
 |.call { callee:=.builtin .min,..}=>.pure
 |.call { callee:=.builtin .max,..}=>.pure
 |.call _=>.gen
 |.convert s d _=>match qs4 P s d with|true=>.gen|false=>.pure
 |.makeSlice _ _ _=>.gen
 |.lookup _ _ _ _=>.gen
 |.mapUpdate _ _ _ _=>.gen
 |.range _ _=>.gen
 |.next _ _=>.gen
 |.entry _=>.gen
 |.makeMap _ _=>.gen
 |.insert _ _ _ _=>.gen
 |.mapEntry _ _ _=>.gen
 |.entryStore _ _ _ _=>.gen
 |_=>.pure
def newOf(P:A5)(ρ:Ba->A6):Op->Option (Obj×(Nat->A6))
 |.alloc t=>match P.info? t with
  |some i=>match i.zero with
   |some z=>A9 (.cells z.cells t,λb=>.pointer (A9 ⟨b,0,Ar⟩))
   |none=>Ar
  |none=>Ar
 |.box t x=>A9 (.cells (ρ x).cells t,λb=>.pointer (A9 ⟨b,0,Ar⟩))
 |.buildSlice t len parts=>match P.underlying t with
  |some (.slice e)=>match P.info? e with
   |some i=>match i.zero,Nat.ble (len*i.size) 4096 with
    |some z,A1=>match Instr.fill (λj=>A9 (j*i.size,i.size)) ((Bb (len*i.size)).map (z.cells[· %z.cells.size]!)) (parts.toList.map λx=>(x.1,ρ x.2))with
     |some cells=>A9 (.cells cells e,λb=>.slice (A9 ⟨b,0,Ar⟩) len len)
     |none=>Ar
    |_,_=>Ar
   |none=>Ar
  |_=>Ar
 |.makeMap _ Ar=>A9 (.map #[] 0,λb=>.map (A9 b))
 |_=>Ar
def newOf_run{P:A5}{o:A8}{a:Act}{b:Obj}{mk:Nat->A6}(h:newOf P a.eval o.op=A9 (b,mk))(w:Ak):(execOp a.eval o).run P w=.ok (.value (mk w.heap.size)) (w.alloc b):=by
 unfold newOf at h;split at h
 .rename_i t d;split at h
  .rename_i i g;split at h
   .rename_i z f;cases h;simp[execOp,d,Instr.alloc,zeroValue,typeInfo,g,f,q6b]
   .cases h
  .cases h
 .rename_i t x d;cases h;simp[execOp,d,Instr.box,q6b]
 .rename_i t len c d;have key:qu5 P t len (c.toList.map λx=>(x.1,a.eval x.2)) w (λv w'=>v=mk w.heap.size/\w'=w.alloc b):=by
   unfold qu5;split at h
   .rename_i e q;split at h
    .rename_i i g;split at h
     .rename_i z f l;split at h
      .rename_i j m;cases h;simp only[q,g,f,l,m];exact⟨rfl,rfl⟩
      .cases h
     .cases h
    .cases h
   .cases h
  obtain⟨v,w',⟨p,n⟩,k⟩:=qop key;subst p;subst n;rw[<-Array.toList_map,Array.toArray_toList]at k;simp only[execOp,d,Sem.run_bind,k];rfl
 .rename_i t d;cases h;simp[execOp,d,Instr.makeMap]
 .cases h
def newOf_congr{P:A5}{ρ a:Ba->A6}(o:Op)(h:∀x∈o.operands,ρ x=a x):newOf P ρ o=newOf P a o:=by
 cases o with
 |box t x=>simp only[newOf];rw[h x (by simp[Op.operands])]
 |buildSlice t len w=>
  have b:w.toList.map (λx=>(x.1,ρ x.2))=w.toList.map (λx=>(x.1,a x.2)):=by refine List.map_congr_left λx c=>?_;rw[h x.2 (by simp only[Op.operands];exact List.mem_toArray.2 (List.mem_map.2 ⟨x,c,rfl⟩))]
  simp only[newOf,b]
 |makeMap t r=>cases r<;>rfl
 |_=>rfl
def newOf_put{P:A5}{ops:Array A8}(o:A8)(a:Act)(w:Option Tmp)(v:A6)(h:∀d,w=A9 d->d∉o.looksAt ops):newOf P (a.put w v).eval o.op=newOf P a.eval o.op:=
 newOf_congr o.op λx c=>Act.eval_put λd e b=>h d e (by subst b;exact Au _ (Ay.2 ⟨.tmp d,by simpa using c,rfl⟩))
abbrev qc1:=List (Nat×(Cls->Prop))
def qna:List A8->List Nat->List Nat
 |[],h=>h
 |o::r,h=>qna r (h++[o.after.foldl (λs e=>cond (Ad .any e) (s|||2 ^ e.on|||h.getD e.on 0) s) 0])
def waits(b:List Nat)(j i:Nat):Bool:=(b.getD j 0).testBit i
section
variable(P:Program)(ops:Array Oper)(b:List Nat)
def trim(j:Nat)(pend:qc1):qc1:=pend.filter λx=>!waits b j x.1
def qbd(pend:qc1)(j:Nat)(C:Cls):Prop:=∀k S,(k,S)∈trim b j pend->S C
def OpC(pend:qc1)(i:Nat)(a:Act)(C:Cls)(K:Act->Cls->Prop):Prop:=
 match ops[i]? with
 |none=>K a C
 |some o=>match A0 o (yielded ops a.tmps)with
  |false=>K (a.put o.dst undef) C
  |true=>match kd P o.op with
   |.new=>∃(c:Obj) (mk:Nat->A6),newOf P a.eval o.op=A9 (c,mk)/\∀b,K (a.put o.dst (mk b)) (C.push (b,c))
   |.pure=>∃v,(∀w,(execOp a.eval o).run P w=.ok (.value v) w)/\K (a.put o.dst v) C
   |.gen=>∃X:A6->Cls->Prop,(∀G w,C.p G w->qz1 P o a w λv w'=>∃h,X v h/\h.p G w')/\∀v h,X v h->qbd b pend i h/\K (a.put o.dst v) h
def AnyC(Q:Act->Ak->Prop)(pend:qc1):Nat->Array Bool->Act->Cls->Prop
 |0,h,a,C=>A3 .any ops h=[]/\∀G w,C.p G w->Q a w
 |f+1,h,a,C=>(A3 .any ops h=[]->∀G w,C.p G w->Q a w)/\
  ∀j∈A3 .any ops h,OpC P ops b pend j a C λd c=>AnyC Q (trim b j pend) f (h.setIfInBounds j A1) d c
end
section
variable{P:Program}{ops:Array Oper}{b:List Nat}{Q:Act->World->Prop}{pend:qc1}
def OpC.mono{i:Nat}{a:Act}{C:Cls}{c:qc1}{K l:Act->Cls->Prop}(p:∀C,qbd b pend i C->qbd b c i C)(h:∀a C,K a C->l a C)(w:OpC P ops b pend i a C K):OpC P ops b c i a C l:=by
 unfold OpC at*;split;.rename_i k;simp only[k]at w;exact h _ _ w
 .rename_i o k;simp only[k]at w;split;.rename_i j;simp only[j]at w;exact h _ _ w
  .rename_i j;simp only[j]at w;split;.rename_i e;simp only[e]at w;obtain⟨g,mk,f,d⟩:=w;exact⟨g,mk,f,λb=>h _ _ (d b)⟩
   .rename_i e;simp only[e]at w;obtain⟨v,f,d⟩:=w;exact⟨v,f,h _ _ d⟩
   .rename_i e;simp only[e]at w;obtain⟨X,f,d⟩:=w;exact⟨X,f,λv m n=>⟨p _ (d v m n).1,h _ _ (d v m n).2⟩⟩
def Sub(h pend:qc1):Prop:=∀x,x∈h->x∈pend
def Sub.trim{w pend:qc1}(h:Sub w pend)(j:Nat):Sub (trim b j w) (trim b j pend):=λx a=>by unfold Go.Proofs.YtfjifcfbmhpcaaaGreatDoor.trim at a⊢;rw[B3]at a⊢;exact⟨h x a.1,a.2⟩
def Sub.of_trim(j:Nat)(pend:qc1):Sub (Go.Proofs.YtfjifcfbmhpcaaaGreatDoor.trim b j pend) pend:=λx h=>(B3.1 h).1
def AnyC.weaken:∀{f:Nat} {pend c:qc1} {w:Array Bool} {a:Act} {C:Cls},Sub c pend->AnyC P ops b Q pend f w a C->AnyC P ops b Q c f w a C
 |0,_,_,_,_,_,_,h=>h
 |_+1,_,_,_,_,_,d,h=>⟨h.1,λj g=>OpC.mono (λC e k S hk=>e k S (d.trim j _ hk)) (λ_ _ h=>AnyC.weaken (d.trim j) h) (h.2 j g)⟩
def OpC.le{i:Nat}{a:Act}{C D:Cls}{K:Act->Cls->Prop}(c:C.le D)(j:∀a C D,C.le D->K a D->K a C)(h:OpC P ops b pend i a D K):OpC P ops b pend i a C K:=by
 unfold OpC at*;split;.rename_i l;simp only[l]at h;exact j _ _ _ c h
 .rename_i o l;simp only[l]at h;split;.rename_i f;simp only[f]at h;exact j _ _ _ c h
  .rename_i f;simp only[f]at h;split;.rename_i e;simp only[e]at h;obtain⟨k,mk,g,d⟩:=h;exact⟨k,mk,g,λb=>j _ _ _ (Cls.le_push c _) (d b)⟩
   .rename_i e;simp only[e]at h;obtain⟨v,g,d⟩:=h;exact⟨v,g,j _ _ _ c d⟩
   .rename_i e;simp only[e]at h;obtain⟨X,g,d⟩:=h;exact⟨X,λG w f=>g G w (c G w f),d⟩
def AnyC.le:∀{f:Nat} {pend:qc1} {c:Array Bool} {a:Act} {C D:Cls},C.le D->AnyC P ops b Q pend f c a D->AnyC P ops b Q pend f c a C
 |0,_,_,_,_,_,d,h=>⟨h.1,λG w e=>h.2 G w (d G w e)⟩
 |_+1,_,_,_,_,_,d,h=>⟨λi G w e=>h.1 i G w (d G w e),λj g=>OpC.le d (λ_ _ _ l k=>AnyC.le l k) (h.2 j g)⟩
def wpAny_of_AnyC{t:Exit->Act->Ak->Prop}(i:∀a w,Q a w->t .normal a w):∀(f:Nat) (pend:qc1) (c:Array Bool) (a:Act) (C:Cls) (G:List (Nat×Obj)) (w:Ak),C.p G w->AnyC P ops b Q pend f c a C->wpAny P .any ops t f c a w
 |0,_,_,_,_,G,w,g,h=>⟨h.1,i _ _ (h.2 G w g)⟩
 |f+1,pend,c,a,C,G,w,g,h=>⟨λy=>i _ _ (h.1 y G w g),λj u=>by
  have d:=h.2 j u;unfold OpC at d;unfold wpOp;split;.rename_i n;simp only[n]at d;exact wpAny_of_AnyC i f _ _ _ C G w g d
  .rename_i o n;simp only[n]at d;cases hwt:A0 o (yielded ops a.tmps)with
   |false=>simp only[hwt]at d;rw[yA (by simp)];exact wpAny_of_AnyC i f _ _ _ C G w g d
   |true=>
    simp only[hwt]at d;rw[yB yR];refine .inl ?_;split at d
    .obtain⟨k,mk,l,m⟩:=d;have p:qz1 P o a w λv w'=>v=mk w.heap.size/\w'=w.alloc k:=by unfold qz1;rw[newOf_run l w];exact⟨rfl,rfl⟩
     refine p.wp λv w' ⟨q,e⟩=>?_;subst q;subst e;exact wpAny_of_AnyC i f _ _ _ _ G _ (C.new G w k g) (m w.heap.size)
    .obtain⟨v,l,m⟩:=d;have p:qz1 P o a w λs w'=>s=v/\w'=w:=by unfold qz1;rw[l w];exact⟨rfl,rfl⟩
     refine p.wp λs w' ⟨q,e⟩=>?_;subst q;subst e;exact wpAny_of_AnyC i f _ _ _ C G _ g m
    .obtain⟨X,l,m⟩:=d;refine(l G w g).wp λv w' ⟨r,x,e⟩=>?_;exact wpAny_of_AnyC i f _ _ _ r G w' e (m v r x).2⟩
def qsm{e h:A8}(c:e.apart ops h=A1)(d:∀cs b,h.op≠.select cs b)(a:Act)(v:A6)(w:Ak)(R:A6->Ak->Prop):qz1 P h (a.put e.dst v) w R=qz1 P h a w R:=by obtain⟨f,g,i⟩:=A4 c;unfold qz1;rw[execOp_put h d a e.dst v f]
def qgc{h d:A8}(c:h.apart ops d=A1)(e:∀cs b,h.op≠.select cs b)(a:Act)(v:A6)(w:Ak)(R:A6->Ak->Prop):qz1 P h (a.put d.dst v) w R=qz1 P h a w R:=by obtain⟨i,g,f⟩:=A4 c;unfold qz1;rw[execOp_put h e a d.dst v f]
def q37(ops:Array A8)(h:Array Bool):Prop:=∀j o,ops[j]?=A9 o->h.getD j Aa=A1->∀e∈o.after,Ad .any e=A1->h.getD e.on Aa=A1
def q37.set{w:Array Bool}{j:Nat}(h:q37 ops w)(l:j∈A3 .any ops w):q37 ops (w.setIfInBounds j A1):=by
 intro k o i g e f d;by_cases c:j=k
 .subst c;obtain⟨_,o',a,b⟩:=mem_ready.1 l;rw[i]at a;cases a;exact getD_set_true (b e f d)
 .rw[getD_set_ne Aa c]at g;exact getD_set_true (h k o i g e f d)
inductive qt9 (ops:Array A8):Nat->Nat->Prop
 |one {j i:Nat} {o:A8} {e:Edge} (ho:ops[j]?=A9 o) (he:e∈o.after) (hb:Ad .any e=A1) (hi:e.on=i):qt9 ops j i
 |more {j k i:Nat} {o:A8} {e:Edge} (ho:ops[j]?=A9 o) (he:e∈o.after) (hb:Ad .any e=A1) (hk:e.on=k) (h:qt9 ops k i):qt9 ops j i
def qt9.listed{w:Array Bool}(e:q37 ops w){j i:Nat}(h:qt9 ops j i):w.getD j Aa=A1->w.getD i Aa=A1:=by
 induction h with
 |one d b a hi=>intro c;subst hi;exact e _ _ d c _ b a
 |more d b a g _ f=>intro c;subst g;exact f (e _ _ d c _ b a)
def qt9.ready{w:Array Bool}(f:q37 ops w){j i:Nat}(g:j∈A3 .any ops w)(h:qt9 ops j i):w.getD i Aa=A1:=by
 obtain⟨_,o',a,b⟩:=mem_ready.1 g;cases h with
 |one e d c hi=>rw[e]at a;cases a;subst hi;exact b _ d c
 |more e d c k h=>rw[e]at a;cases a;subst k;exact h.listed f (b _ d c)
def q3k(w:List Nat)(i:Nat):∀(l:List Edge) (s:Nat),(l.foldl (λs e=>cond (Ad .any e) (s|||2 ^ e.on|||w.getD e.on 0) s) s).testBit i=A1->
 s.testBit i=A1\/∃e∈l,Ad .any e=A1/\(e.on=i\/(w.getD e.on 0).testBit i=A1)
 |[],s,h=>.inl h
 |e::l,s,h=>by
  simp only[List.foldl_cons]at h;rcases q3k w i l _ h with h|⟨e',b,c,h⟩
  .cases a:Ad .any e with
   |false=>simp only[a,cond_false]at h;exact .inl h
   |true=>
    simp only[a,cond_true,Nat.testBit_or,Bool.or_eq_true,Nat.testBit_two_pow,yJ]at h;rcases h with (h|h)|h
    .exact .inl h
    .exact .inr ⟨e,Af,a,.inl h⟩
    .exact .inr ⟨e,Af,a,.inr h⟩
  .exact .inr ⟨e',A2 _ b,c,h⟩
def qni(b:∀(k:Nat),ops.toList[k]?=ops[k]?):∀(l:List A8) (w:List Nat),(∀k,l[k]?=ops[w.length+k]?)->(∀j i,(w.getD j 0).testBit i=A1->qt9 ops j i)->
 ∀j i,((qna l w).getD j 0).testBit i=A1->qt9 ops j i
 |[],w,_,h=>h
 |o::r,w,m,h=>by
  refine qni b r _ (λk=>by have:=m (k+1);simpa [Nat.add_assoc,Nat.add_comm 1 k]using this) λj i a=>?_;rcases Nat.lt_trichotomy j w.length with d|d|d
  .refine h j i ?_;simp only[Ai]at a⊢;rwa[List.getElem?_append_left d]at a
  .subst d;have n:ops[w.length]?=A9 o:=by simpa using (m 0).symm
   simp only[Ai,List.getElem?_concat_length,Az]at a;rw[<-Array.foldl_toList]at a;rcases q3k w i _ _ a with p|⟨e,g,f,c⟩;.simp at p
   .rcases c with c|c;.exact .one n (Av.1 g) f c
    .exact .more n (Av.1 g) f yR (h _ _ c)
  .simp only[Ai]at a;rw[List.getElem?_eq_none (by simp;omega)]at a;simp at a
def qu9(ops:Array A8)(b:List Nat):Prop:=∀j i,waits b j i=A1->qt9 ops j i
def qsc:qu9 ops (qna ops.toList []):=λj i h=>qni (λk=>by simp) ops.toList [] (λk=>by simp) (λj i h=>by simp at h) j i h
def Sil(P:A5)(ops:Array A8)(o:A8)(a:Act)(v:A6)(C:Cls):Prop:=
 match A0 o (yielded ops a.tmps)with
 |true=>match kd P o.op with
  |.pure=>∀w,(execOp a.eval o).run P w=.ok (.value v) w
  |.new=>False
  |.gen=>∀G w,C.p G w->qz1 P o a w λh w'=>h=v/\C.p G w'
 |false=>v=undef
def Sil.push{o:A8}{a:Act}{v:A6}{C:Cls}(h:Sil P ops o a v C)(x:Nat×Obj):Sil P ops o a v (C.push x):=by
 unfold Sil at*;split
 .rename_i d;simp only[d]at h;split;.rename_i b;simp only[b]at h;exact h
  .rename_i b;simp only[b]at h
  .rename_i b;simp only[b]at h;exact λG w c=>h _ w c
 .rename_i d;simp only[d]at h;exact h
def Sil_put{h d:A8}(c:h.apart ops d=A1)(e:∀cs b,h.op≠.select cs b)(a:Act)(v u:A6):Sil P ops h (a.put d.dst u) v=Sil P ops h a v:=by
 funext C;unfold Sil;rw[wanted_put h a d.dst u (A4 c).2.2,execOp_put h e a d.dst u (A4 c).2.2];have:(∀G w,C.p G w->qz1 P h (a.put d.dst u) w λf w'=>f=v/\C.p G w')=(∀G w,C.p G w->qz1 P h a w λf w'=>f=v/\C.p G w'):=by simp only[qgc c e]
 rw[this]
def OpC_put{j:Nat}{e d:A8}{v:A6}(r:ops[j]?=A9 d)(f:e.apart ops d=A1)
 (k:∀cs b,d.op≠.select cs b) {K:Act->Cls->Prop} {a:Act} {C:Cls}
 (h:OpC P ops b pend j (a.put e.dst v) C K):OpC P ops b pend j a C λt o=>K (t.put e.dst v) o:=by
 obtain⟨p,q,x⟩:=A4 f;have c:∀u,(a.put e.dst v).put d.dst u=(a.put d.dst u).put e.dst v:=λu=>Act.put_comm a v u q;unfold OpC at*;simp only[r]at*;rw[wanted_put d a e.dst v p]at h;split;.rename_i l;simp only[l]at h;rw[c]at h;exact h
 .rename_i l;simp only[l]at h;split
  .rename_i i;simp only[i]at h;obtain⟨n,mk,m,g⟩:=h;refine⟨n,mk,by rwa[newOf_put d a e.dst v p]at m,λb=>?_⟩;have:=g b;rwa[c]at this
  .rename_i i;simp only[i]at h;obtain⟨u,m,g⟩:=h;refine⟨u,by rwa[execOp_put d k a e.dst v p]at m,?_⟩;rwa[c]at g
  .rename_i i;simp only[i]at h;obtain⟨X,m,g⟩:=h;refine⟨X,λG w l=>?_,λu o s=>?_⟩;.have:=m G w l;rwa[qsm f k]at this
   .have:=g u o s;rwa[c]at this
def qn7(pend:qc1):Prop:=∀x,x∈pend->∀(C:Cls) y,x.2 C->x.2 (C.push y)
def qn7.sub{pend w:qc1}(h:qn7 pend)(b:Sub w pend):qn7 w:=λx a=>h x (b x a)
def Now(pend:qc1)(C:Cls):Prop:=∀x,x∈pend->x.2 C
def Now.sub{pend w:qc1}{C:Cls}(h:Now pend C)(b:Sub w pend):Now w C:=λx a=>h x (b x a)
def qxl{i:Nat}{h:Array Bool}(c:i∈A3 .any ops h)(w:h.getD i Aa=A1):False:=by
 have b:=(mem_ready.1 c).1;rcases Aj i h.size with a|a;.simp[a]at b w;rw[b]at w;cases w
 .simp[Ag a]at w
def OpC_sil{i:Nat}{j:A8}{v:A6}{a:Act}{C:Cls}{pend:qc1}{K:Act->Cls->Prop}(o:ops[i]?=A9 j)(c:Sil P ops j a v C)(n:Now pend C)(g:K (a.put j.dst v) C):OpC P ops b pend i a C K:=by
 unfold OpC;simp only[o];unfold Sil at c;split;.rename_i f;simp only[f]at c;subst c;exact g
 .rename_i f;simp only[f]at c;split;.rename_i d;simp only[d]at c
  .rename_i d;simp only[d]at c;exact⟨v,c,g⟩
  .rename_i d;simp only[d]at c;exact⟨λl m=>l=v/\m=C,λG w f=>(c G w f).mono λl w' ⟨e,h⟩=>⟨C,⟨e,rfl⟩,h⟩,λl m ⟨p,q⟩=>by subst p;subst q;exact⟨λk S g=>n (k,S) (Sub.of_trim _ _ _ g),g⟩⟩
structure At(P:A5)(ops:Array A8)(i:Nat)(oi:A8)(listed:Array Bool):Prop where
 op:ops[i]?=A9 oi
 closed:q37 ops listed
 free:∀j oj,ops[j]?=A9 oj->j≠i->listed.getD j A1=Aa->(∀e∈oj.after,Ad .any e=A1->e.on≠i)->oi.apart ops oj=A1
 ready:i∈A3 .any ops listed
 sel:∀(j:Nat) (o:A8) cs b,ops[j]?=A9 o->o.op≠.select cs b
def At.other{i:Nat}{s:A8}{w:Array Bool}(h:At P ops i s w)(u:qu9 ops b){j:Nat}(p:j∈A3 .any ops w)(c:¬j=i):
 ∃d,ops[j]?=A9 d/\s.apart ops d=A1/\waits b j i=Aa/\At P ops i s (w.setIfInBounds j A1)/\j∈A3 .any ops (w.setIfInBounds i A1)/\w.getD j A1=Aa:=by
 obtain⟨a,d,g,l⟩:=mem_ready.1 p;have m:∀e∈d.after,Ad .any e=A1->e.on≠i:=λe z y r=>by have v:=l e z y;rw[r]at v;exact qxl h.ready v
 refine⟨d,g,h.free j d g c a m,?_,⟨h.op,h.closed.set p,λk ok x t f q=>?_,ready_mono h.ready (Ne.symm c),h.sel⟩,ready_mono p c,a⟩
 .cases n:waits b j i with
  |false=>rfl
  |true=>exact(qxl h.ready ((u j i n).ready h.closed p)).elim
 .refine h.free k ok x t ?_ q;by_cases o:j=k;.subst o;exact a
  .rw[getD_set_ne A1 o]at f;exact f
def take_sil(I:qu9 ops b){i:Nat}{e:A8}{v:A6} :
 ∀(f:Nat) (pend:qc1) (w:Array Bool) (a:Act) (C:Cls),At P ops i e w->Sil P ops e a v C->Now pend C->qn7 pend->
  AnyC P ops b Q ((i,Sil P ops e a v)::pend) f (w.setIfInBounds i A1) (a.put e.dst v) C->AnyC P ops b Q pend (f+1) w a C:=by
 intro f;induction f with
 |zero=>
  intro pend w a C q z y r H;refine⟨λh=>(by have:=q.ready;rw[h]at this;cases this),λj L=>?_⟩;by_cases d:j=i
  .subst d;exact OpC_sil q.op z y ⟨H.1,H.2⟩
  .have:=ready_mono L d;rw[H.1]at this;cases this
 |succ f ih=>
  intro pend w a C q z y r H;refine⟨λh=>(by have:=q.ready;rw[h]at this;cases this),λj L=>?_⟩;by_cases d:j=i
  .subst d;exact OpC_sil q.op z y (AnyC.weaken (λx o=>A2 _ (Sub.of_trim _ _ x o)) H)
  .obtain⟨F,t,A,B,N,K,_⟩:=q.other I L d;have T:=H.2 j K;have g:trim b j ((i,Sil P ops e a v)::pend)=(i,Sil P ops e a v)::trim b j pend:=by simp[trim,B]
   have l:=OpC_put t A (λcs b=>q.sel j F cs b t) T;have p:∀(u:A6) (n:Cls),Sil P ops e a v n->Now (trim b j pend) n->AnyC P ops b Q (trim b j ((i,Sil P ops e a v)::pend)) f ((w.setIfInBounds i A1).setIfInBounds j A1) ((a.put F.dst u).put e.dst v) n->
    AnyC P ops b Q (trim b j pend) (f+1) (w.setIfInBounds j A1) (a.put F.dst u) n:=λu n R J s=>by
    have m:Sil P ops e (a.put F.dst u) v=Sil P ops e a v:=Sil_put A (λcs b=>q.sel i e cs b q.op) a v u;refine ih (trim b j pend) (w.setIfInBounds j A1) (a.put F.dst u) n N (by rw[m];exact R) J (r.sub (Sub.of_trim _ _)) ?_;rw[m,A7 _ _ d,<-g];exact s
   unfold OpC at l⊢;simp only[t]at l⊢;split;.rename_i M;simp only[M]at l;exact p undef C z (y.sub (Sub.of_trim _ _)) l
   .rename_i M;simp only[M]at l;split
    .rename_i D;simp only[D]at l;obtain⟨G,mk,s,E⟩:=l;exact⟨G,mk,s,λb=>p (mk b) _ (z.push _) (λx o=>(r x (Sub.of_trim _ _ x o)) _ _ (y x (Sub.of_trim _ _ x o))) (E b)⟩
    .rename_i D;simp only[D]at l;obtain⟨u,s,E⟩:=l;exact⟨u,s,p u C z (y.sub (Sub.of_trim _ _)) E⟩
    .rename_i D;simp only[D]at l;obtain⟨X,s,E⟩:=l;refine⟨X,s,λu n o=>?_⟩;obtain⟨O,U⟩:=E u n o;have c:Now (trim b j ((i,Sil P ops e a v)::pend)) n:=λx o=>O x.1 x.2 o;rw[g]at c;exact⟨λk S hk=>c (k,S) (A2 _ hk),p u n (c _ Af) (λx o=>c x (A2 _ o)) U⟩
def ql8(j k:Nat)(pend:qc1):trim b j (trim b k pend)=trim b k (trim b j pend):=by simp only[trim,List.filter_filter];congr 1;funext x;exact Bool.and_comm _ _
def AnyC.also{i:Nat}{S:Cls->Prop}(e:∀C,S C):∀{f:Nat} {pend:qc1} {w:Array Bool} {a:Act} {C:Cls},AnyC P ops b Q pend f w a C->AnyC P ops b Q ((i,S)::pend) f w a C
 |0,_,_,_,_,h=>h
 |f+1,pend,_,_,_,h=>⟨h.1,λj l=>OpC.mono (λC g k T d=>by
  have:(k,T)∈(i,S)::trim b j pend:=by
   unfold trim at d⊢;rw[Ae]at d;split at d;.exact d
   .exact A2 _ d
  rcases Ac.1 this with h|h;.cases h;exact e C
  .exact g k T h) (λa C h=>AnyC.weaken (λx c=>by
   unfold trim at c⊢;rw[Ae]at c;split at c;.exact c
   .exact A2 _ c) (AnyC.also e h)) (h.2 j l)⟩
def Alone(P:A5)(ops:Array A8)(b:List Nat)(i:Nat)(h:Array Bool):Prop:=
 ∀k ok,ops[k]?=A9 ok->k≠i->h.getD k A1=Aa->waits b k i=Aa->kd P ok.op=.new\/kd P ok.op=.pure
def Alone.set{i:Nat}{w:Array Bool}(h:Alone P ops b i w)(j:Nat):Alone P ops b i (w.setIfInBounds j A1):=λk ok g e a f=>h k ok g e (by
 by_cases c:j=k
 .subst c;rcases Aj j w.size with d|d;.simp[d]at a
  .simp[Ap,B5.2 d]at a
 .rw[getD_set_ne A1 c]at a;exact a) f
def take_new(N:qu9 ops b){i:Nat}{k:A8}(V:kd P k.op=.new){g:Obj}{mk:Nat->A6} :
 ∀(f:Nat) (pend:qc1) (w:Array Bool) (a:Act) (C:Cls),At P ops i k w->Alone P ops b i w->A0 k (yielded ops a.tmps)=A1->newOf P a.eval k.op=A9 (g,mk)->qn7 pend->
  (∀c,AnyC P ops b Q (trim b i pend) f (w.setIfInBounds i A1) (a.put k.dst (mk c)) (C.push (c,g)))->AnyC P ops b Q pend (f+1) w a C:=by
 have p:∀(f:Nat) (pend:qc1) (w:Array Bool) (a:Act) (C:Cls),At P ops i k w->A0 k (yielded ops a.tmps)=A1->newOf P a.eval k.op=A9 (g,mk)->
  (∀c,AnyC P ops b Q (trim b i pend) f (w.setIfInBounds i A1) (a.put k.dst (mk c)) (C.push (c,g)))->OpC P ops b pend i a C λZ W=>AnyC P ops b Q (trim b i pend) f (w.setIfInBounds i A1) Z W:=by
  intro f pend w a C l I E H;unfold OpC;simp only[l.op,I,V];exact⟨g,mk,E,H⟩
 intro f;induction f with
 |zero=>
  intro pend w a C l s I E F H;refine⟨λh=>(by have:=l.ready;rw[h]at this;cases this),λj R=>?_⟩;by_cases d:j=i;.subst d;exact p 0 pend w a C l I E H
  .have:=ready_mono R d;rw[(H 0).1]at this;cases this
 |succ f ih=>
  intro pend w a C l s I E F H;refine⟨λh=>(by have:=l.ready;rw[h]at this;cases this),λj R=>?_⟩;by_cases d:j=i;.subst d;exact p (f+1) pend w a C l I E H
  .obtain⟨q,n,A,B,T,O,K⟩:=l.other N R d;obtain⟨a1,a2,a3⟩:=A4 A;have M:∀cs b,q.op≠.select cs b:=λcs b=>l.sel j q cs b n;have X:∀cs b,k.op≠.select cs b:=λcs b=>l.sel i k cs b l.op;have m:=λc=>OpC_put (v:=mk c) n A M ((H c).2 j O);have t:∀(u:A6) (D:Cls),(∀c,AnyC P ops b Q (trim b j (trim b i pend)) f ((w.setIfInBounds i A1).setIfInBounds j A1) ((a.put q.dst u).put k.dst (mk c)) (D.push (c,g)))->
    AnyC P ops b Q (trim b j pend) (f+1) (w.setIfInBounds j A1) (a.put q.dst u) D:=λu D x=>by
    refine ih (trim b j pend) (w.setIfInBounds j A1) (a.put q.dst u) D T (s.set j) (by rwa[wanted_put k a q.dst u a3]) (by rwa[newOf_put k a q.dst u a3]) (F.sub (Sub.of_trim _ _)) λc=>?_;rw[A7 _ _ d,ql8];exact x c
   unfold OpC at m⊢;simp only[n]at m⊢;split;.rename_i y;simp only[y]at m;exact t undef C m
   .rename_i y;simp only[y]at m;rcases s j q n d K B with z|z
    .simp only[z]at m⊢;obtain⟨o,G,x,_⟩:=m 0;refine⟨o,G,x,λr=>t (G r) _ λc=>?_⟩;obtain⟨U,Y,J,L⟩:=m c;rw[x]at J;cases J;exact AnyC.le (Cls.push_swap C (r,o) (c,g)) (L r)
    .simp only[z]at m⊢;obtain⟨u,x,_⟩:=m 0;refine⟨u,x,t u C λc=>?_⟩;obtain⟨u2,J,L⟩:=m c;have e:=(x default).symm.trans (J default);simp only[Ao,An,yM]at e;subst e;exact L
def take_eff(hwt:qu9 ops b){i:Nat}{g:A8}(X:kd P g.op=.gen){α:Type}(x0:α){V:α->A6} :
 ∀(f:Nat) (pend:qc1) (c:Array Bool) (a:Act) (C:Cls) (D:α->Cls),At P ops i g c->Alone P ops b i c->A0 g (yielded ops a.tmps)=A1->qn7 pend->
  (∀G w,C.p G w->qz1 P g a w λv w'=>∃x,v=V x/\(D x).p G w')->(∀x,Now (trim b i pend) (D x))->
  (∀x,AnyC P ops b Q (trim b i pend) f (c.setIfInBounds i A1) (a.put g.dst (V x)) (D x))->AnyC P ops b Q pend (f+1) c a C:=by
 have q:∀(f:Nat) (pend:qc1) (c:Array Bool) (a:Act) (C:Cls) (D:α->Cls),At P ops i g c->A0 g (yielded ops a.tmps)=A1->
  (∀G w,C.p G w->qz1 P g a w λv w'=>∃x,v=V x/\(D x).p G w')->(∀x,Now (trim b i pend) (D x))->
  (∀x,AnyC P ops b Q (trim b i pend) f (c.setIfInBounds i A1) (a.put g.dst (V x)) (D x))->OpC P ops b pend i a C λa' p=>AnyC P ops b Q (trim b i pend) f (c.setIfInBounds i A1) a' p:=by
  intro f pend c a C D m T r K H;unfold OpC;simp only[m.op,T,X];exact⟨λv p=>∃x,v=V x/\p=D x,λG w M=>(r G w M).mono λv w' ⟨x,e,h⟩=>⟨D x,⟨x,e,rfl⟩,h⟩,λv p ⟨x,e1,e2⟩=>by subst e1;subst e2;exact⟨λk S X=>K x (k,S) X,H x⟩⟩
 intro f;induction f with
 |zero=>
  intro pend c a C D m z T A r K H;refine⟨λh=>(by have:=m.ready;rw[h]at this;cases this),λj hj=>?_⟩;by_cases d:j=i;.subst d;exact q 0 pend c a C D m T r K H
  .have:=ready_mono hj d;rw[(H x0).1]at this;cases this
 |succ f ih=>
  intro pend c a C D m z T A r K H;refine⟨λh=>(by have:=m.ready;rw[h]at this;cases this),λj hj=>?_⟩;by_cases d:j=i;.subst d;exact q (f+1) pend c a C D m T r K H
  .obtain⟨J,o,s,L,hA',hrj,Y⟩:=m.other hwt hj d;obtain⟨a1,a2,a3⟩:=A4 s;have hsj:∀cs b,J.op≠.select cs b:=λcs b=>m.sel j J cs b o;have hsi:∀cs b,g.op≠.select cs b:=λcs b=>m.sel i g cs b m.op;have n:=λx=>OpC_put (v:=V x) o s hsj ((H x).2 j hrj);have B:∀(u:A6) (p:Cls) (N:α->Cls),(∀G w,p.p G w->qz1 P g a w λv w'=>∃x,v=V x/\(N x).p G w')->(∀x,Now (trim b i (trim b j pend)) (N x))->
    (∀x,AnyC P ops b Q (trim b j (trim b i pend)) f ((c.setIfInBounds i A1).setIfInBounds j A1) ((a.put J.dst u).put g.dst (V x)) (N x))->
    AnyC P ops b Q (trim b j pend) (f+1) (c.setIfInBounds j A1) (a.put J.dst u) p:=λu p N hd' hp' E=>by
    refine ih (trim b j pend) (c.setIfInBounds j A1) (a.put J.dst u) p N hA' (z.set j) (by rwa[wanted_put g a J.dst u a3]) (A.sub (Sub.of_trim _ _)) (λG w M=>by rw[qgc s hsi];exact hd' G w M) hp' λx=>?_;rw[A7 _ _ d,ql8];exact E x
   have t:∀x,Now (trim b i (trim b j pend)) (D x):=λx y R=>by rw[ql8]at R;exact K x y (Sub.of_trim _ _ y R)
   unfold OpC at n⊢;simp only[o]at n⊢;split;.rename_i F;simp only[F]at n;exact B undef C D r t n
   .rename_i F;simp only[F]at n;rcases z j J o d Y L with I|I
    .simp only[I]at n⊢;obtain⟨l,O,E,_⟩:=n x0;refine⟨l,O,E,λW=>B (O W) (C.push (W,l)) (λx=>(D x).push (W,l)) (λG w M=>r _ w M) (λx y R=>(A y (Sub.of_trim _ _ y (Sub.of_trim _ _ y R))) _ _ (t x y R)) λx=>?_⟩;obtain⟨obj2,mk2,U,Z⟩:=n x;rw[E]at U;cases U;exact Z W
    .simp only[I]at n⊢;obtain⟨u,E,_⟩:=n x0;refine⟨u,E,B u C D r t λx=>?_⟩;obtain⟨u2,U,Z⟩:=n x;have e:=(E default).symm.trans (U default);simp only[Ao,An,yM]at e;subst e;exact Z
end
def q69(ops:Array A8)(j:Nat):Option Nat:=match ops[j]? with|some o=>o.dst|none=>Ar
def qr2{x y:List Nat}{t:Nat}(h:q83 (x++y) t=Aa):q83 x t=Aa:=by rw[q87,Aw]at h;exact h.1
def qyc{x y:List Nat}{t:Nat}(h:q83 (x++y) t=Aa):q83 y t=Aa:=by rw[q87,Aw]at h;exact h.2
def qn8{n:Nat}{e:Env}{a:Act}{s:Nat}{b:Bool}(d:q71 dfr n e a)(h:q23 e s=A9 (.bool b))(c:Bool)(f:b=c):q71 dfr n ((s,.bool c)::e) a:=
 ⟨d.defers,d.size,λt v w=>by
  simp only[q23]at w;cases hb:As s t with
  |true=>simp only[hb,cond_true,Option.some.injEq]at w;have:=Ah hb;subst this;subst w;subst f;exact d.val _ _ h
  |false=>simp only[hb,cond_false]at w;exact d.val t v w⟩
def qse{n:Nat}{e:Env}{a:Act}{ops:Array A8}{j s:Nat}{b:Bool}(f:q71 dfr n e a)(c:q69 ops j=A9 s)(h:q23 e s=A9 (.bool b)):yielded ops a.tmps j=A9 b:=by
 have w:=f.val _ _ h;unfold q69 at c;split at c
 .rename_i o i;unfold yielded;have d:s<a.tmps.size:=by
   rcases Aj s a.tmps.size with h|h;.exact h
   .rw[Ab,Ag h]at w;simp[undef]at w
  have g:a.tmps[s]?=A9 (.bool b):=by rw[Ab]at w;rw[Am d]at w⊢;simpa using w
  simp[i,c,g]
 .cases c
def q72(d:Option Nat)(e:Env):Env:=match d with|none=>e|some d=>(d,undef)::e
def qle{n:Nat}{e:Env}{a:Act}{d:Option Nat}(c:q71 dfr n e a):q71 dfr n (q72 d e) (a.put d undef)/\qp2 d.toList a (a.put d undef):=by
 have f:qp2 d.toList a (a.put d undef):=by
  cases d with
  |none=>exact z16 _ _
  |some d=>
   intro t w;rcases Aj d a.tmps.size with b|b
   .rw[qge a d _ t b];simp only[B7,q83]at w;rw[yA (λe=>by subst e;simp at w)]
   .simp[Act.put,Ap,B5.2 b]
 refine⟨⟨(Act.put_defers' ..).trans c.defers,(Act.put_size ..).trans c.size,λt v w=>?_⟩,f⟩;cases d with
 |none=>exact c.val t v w
 |some d=>
  simp only[q72,q23]at w;cases h:As d t with
  |true=>
   have g:=Ah h;subst g;simp only[h,cond_true,Option.some.injEq]at w;subst w;rcases Aj d a.tmps.size with b|b;.rw[qge a d undef d b,yB yR]
   .rw[Ab,Ag (by rw[Act.put_size];exact b)];rfl
  |false=>simp only[h,cond_false]at w;rw[f t (by simp only[B7,q83,h];rfl)];exact c.val t v w
def qka{n:Nat}{e:Env}{a:Act}{ops:Array A8}{j s:Nat}{d:Array A6}(c:q71 dfr n e a)(w:q69 ops j=A9 s)(h:q23 e s=A9 (.tuple d)):yielded ops a.tmps j=Ar:=by
 have b:=c.val _ _ h;unfold q69 at w;split at w
 .rename_i o f;unfold yielded;simp only[f,Option.bind_some,w];rcases Aj s a.tmps.size with h|h
  .rw[Ab,Am h]at b;simp only[Az]at b;rw[Am h,b]
  .rw[Ag h]
 .cases w
def exR:List Ty->(A6->Prop)->Prop
 |[t],F=>exT t F
 |l,F=>qta l λh=>F (.tuple h.toArray)
def qbm{l:List Ty}{F:A6->Prop}(h:exR l F):∃v,F v:=by
 unfold exR at h;split at h;.obtain⟨v,_,h⟩:=qzb h;exact⟨v,h⟩
 .obtain⟨v,_,h⟩:=qaf h;exact⟨_,h⟩
def qo5:qc1->Cls->Prop
 |[],_=>True
 |[(_,S)],C=>S C
 |(_,S)::r,C=>S C/\qo5 r C
def qda:∀{p:qc1} {C:Cls},qo5 p C->Now p C
 |[],_,_=>λx w=>by cases w
 |[(i,S)],C,h=>λx w=>by rcases Ac.1 w with rfl|w;exact h;cases w
 |(i,S)::y::r,C,h=>λx w=>by
  rcases Ac.1 w with rfl|w;.exact h.1
  .exact qda h.2 x w
def Qt(C:Cls)(v:A6)(F:Ak->(A6->Ak->Prop)->Prop):Prop:=∀G w,C.p G w->F w λh w'=>h=v/\C.p G w'
def Ef(C:Cls)(F:Ak->(A6->Ak->Prop)->Prop)(K:A6->Cls->Prop):Prop:=
 ∃(α:Type) (_:α) (V:α->A6) (D:α->Cls),(∀G w,C.p G w->F w λv w'=>∃x,v=V x/\(D x).p G w')/\∀x,K (V x) (D x)
def alB(P:A5)(ops:Array A8)(b:List Nat)(i:Nat)(h:Array Bool):Bool:=
 (Be ops.size).all λk=>As k i||h.getD k A1||waits b k i||match ops[k]? with
  |some ok=>(match kd P ok.op with|.gen=>Aa|_=>A1)
  |none=>A1
def alB_sound{P:A5}{ops:Array A8}{b:List Nat}{i:Nat}{w:Array Bool}(h:alB P ops b i w=A1):Alone P ops b i w:=by
 intro k ok j e f l;simp only[alB,B0,B6]at h;have g:=h k (Aq.1 j).1;have a:As k i=Aa:=by
  cases a:As k i with
  |false=>rfl
  |true=>exact(e (Ah a)).elim
 simp only[a,f,l,j,B9]at g;split at g;.cases g
 .rename_i c;cases d:kd P ok.op with
  |new=>exact .inl yR
  |pure=>exact .inr yR
  |gen=>exact(c d).elim
def newE(P:A5)(o:A8)(e:Env)(F:Obj->(Nat->A6)->Prop):Prop:=
 match o.op with
 |.alloc t=>qc7 P t λz=>F (.cells z.cells t) λb=>.pointer (A9 ⟨b,0,Ar⟩)
 |.box t x=>q11 e x λv=>F (.cells v.cells t) λb=>.pointer (A9 ⟨b,0,Ar⟩)
 |.buildSlice t len parts=>q86 e parts.toList λh=>match P.underlying t with
  |some (.slice el)=>match P.info? el with
   |some i=>match i.zero,Nat.ble (len*i.size) 4096 with
    |some z,A1=>match Instr.fill (λj=>A9 (j*i.size,i.size)) ((Bb (len*i.size)).map (z.cells[· %z.cells.size]!)) h with
     |some cells=>F (.cells cells el) λb=>.slice (A9 ⟨b,0,Ar⟩) len len
     |none=>False
    |_,_=>False
   |none=>False
  |_=>False
 |.makeMap _ Ar=>F (.map #[] 0) λb=>.map (A9 b)
 |_=>False
def newE_sound{P:A5}{n:Nat}{o:A8}{e:Env}{F:Obj->(Nat->A6)->Prop}{a:Act}(h:newE P o e F)(j:q71 dfr n e a):∃b mk,newOf P a.eval o.op=A9 (b,mk)/\F b mk:=by
 unfold newE at h;split at h
 .rename_i t w;unfold qc7 at h;split at h
  .rename_i i f;split at h
   .rename_i z c;exact⟨_,_,by simp[newOf,w,f,c],h⟩
   .exact h.elim
  .exact h.elim
 .rename_i t x w;exact⟨_,_,by simp[newOf,w],ql h j⟩
 .rename_i t len d w;have h:=qr9 j _ _ h;split at h
  .rename_i p m;split at h
   .rename_i i f;split at h
    .rename_i z c k;split at h
     .rename_i g l;exact⟨_,_,by simp only[newOf,w,m,f,c,k,l],h⟩
     .exact h.elim
    .exact h.elim
   .exact h.elim
  .exact h.elim
 .rename_i t w;exact⟨_,_,by simp[newOf,w],h⟩
 .exact h.elim
def stepC(P:A5)(n:Nat)(ops:Array A8)(b:List Nat)(i:Nat)(w:Bool)(o:A8)(h:Array Bool)(pend:qc1)(C:Cls)(next:qc1->Env->Cls->Prop)(e:Env):Prop:=
 match kd P o.op with
 |.pure=>opP P o e λv=>qc2 n o.dst v e λe'=>next pend e' C
 |.new=>match alB P ops b i h with
  |true=>newE P o e λa mk=>∀c:Nat,qc2 n o.dst (mk c) e λe'=>next (trim b i pend) e' (C.push (c,a))
  |false=>False
 |.gen=>match qn4 P o with
  |some l=>match w with
   |false=>exR l λv=>Qt C v (opW P o e)/\qc2 n o.dst v e λe'=>next ((i,λC=>Qt C v (opW P o e))::pend) e' C
   |true=>match alB P ops b i h with
    |true=>Ef C (opW P o e) λv D=>asR l v λv=>qo5 (trim b i pend) D/\qc2 n o.dst v e λe'=>next (trim b i pend) e' D
    |false=>False
  |none=>False
def drawC(P:A5)(n:Nat)(ops:Array A8)(b:List Nat)(K:Env->Ak->Prop):List (Nat×Bool)->Array Bool->qc1->Env->Cls->Prop
 |[],h,_,e,C=>match A3 .any ops h with
  |[]=>∀G w,C.p G w->K e w
  |_=>False
 |(i,c)::r,h,pend,e,C=>
  match ops[i]?,(A3 .any ops h).contains i&&Bc .any ops h i with
  |some o,A1=>
   match o.guard with
   |none=>stepC P n ops b i c o h pend C (drawC P n ops b K r (h.setIfInBounds i A1)) e
   |some (j,a)=>match q69 ops j with
    |none=>False
    |some s=>match q23 e s with
     |some (.bool t)=>Bif t
      (match a with
       |true=>stepC P n ops b i c o h pend C (drawC P n ops b K r (h.setIfInBounds i A1)) ((s,.bool A1)::e)
       |false=>drawC P n ops b K r (h.setIfInBounds i A1) pend (q72 o.dst ((s,.bool A1)::e)) C)
      (match a with
       |false=>stepC P n ops b i c o h pend C (drawC P n ops b K r (h.setIfInBounds i A1)) ((s,.bool Aa)::e)
       |true=>drawC P n ops b K r (h.setIfInBounds i A1) pend (q72 o.dst ((s,.bool Aa)::e)) C)
     |some (.tuple _)=>drawC P n ops b K r (h.setIfInBounds i A1) pend (q72 o.dst e) C
     |_=>False
  |_,_=>False
def PR:qc1->qc1->Prop
 |[],[]=>True
 |(i,S)::r,(j,T)::q=>i=j/\(∀C,S C->T C)/\PR r q
 |_,_=>False
def PR.trim(b:List Nat)(j:Nat):∀{p q:qc1},PR p q->PR (Go.Proofs.YtfjifcfbmhpcaaaGreatDoor.trim b j p) (Go.Proofs.YtfjifcfbmhpcaaaGreatDoor.trim b j q)
 |[],[],_=>trivial
 |(i,S)::r,(k,T)::q,h=>by
  obtain⟨c,a,d⟩:=h;subst c;have w:=PR.trim b j d;unfold Go.Proofs.YtfjifcfbmhpcaaaGreatDoor.trim at w⊢;rw[Ae,Ae];cases waits b j i;.exact⟨rfl,a,w⟩
  .exact w
 |[],_::_,h=>h.elim
 |_::_,[],h=>h.elim
def PR.now:∀{p q:qc1} {C:Cls},PR p q->Now p C->Now q C
 |[],[],_,_,_=>λx w=>by cases w
 |(i,S)::r,(k,T)::q,C,h,a=>λx w=>by
  obtain⟨e,b,d⟩:=h;rcases Ac.1 w with rfl|w;.exact b C (a (i,S) Af)
  .exact PR.now d (λy c=>a y (A2 _ c)) x w
 |[],_::_,_,h,_=>h.elim
 |_::_,[],_,h,_=>h.elim
def drawC_sound{P:A5}{n:Nat}{ops:Array A8}{b:List Nat}{K:Env->Ak->Prop}{Q:Act->Ak->Prop}(F:qu9 ops b)(U:B4 ops=A1)(ws:List Nat)(a0:Act)
 (hws:∀(i:Nat) (o:A8),ops[i]?=A9 o->∀t,q83 ws t=Aa->q83 o.dst.toList t=Aa)
 (hK:∀e a w,K e w->q71 dfr n e a->qp2 ws a0 a->Q a w):
 ∀(r:List (Nat×Bool)) (m:Nat) (c:Array Bool) (X pend:qc1) (e:Env) (C:Cls) (a:Act),drawC P n ops b K r c X e C->q71 dfr n e a->qp2 ws a0 a->q37 ops c->PR X pend->Now pend C->qn7 pend->
  AnyC P ops b Q pend (r.length+m) c a C
 |[],m,c,X,pend,e,C,a,h,M,hk,hcl,q,R,g=>by
  unfold drawC at h;split at h
  .rename_i hr;cases m with
   |zero=>exact⟨hr,λG w L=>hK e a w (h G w L) M hk⟩
   |succ m=>exact⟨λ_ G w L=>hK e a w (h G w L) M hk,λj hj=>by rw[hr]at hj;cases hj⟩
  .exact h.elim
 |(i,eff)::r,m,c,X,pend,e,C,a,h,M,hk,hcl,q,R,g=>by
  have ih:=drawC_sound (P:=P) F U ws a0 hws hK r m;unfold drawC at h;split at h
  .rename_i o ho H;simp only[B1]at H;have B:i∈A3 .any ops c:=by simpa using H.1
   have hA:At P ops i o c:=⟨ho,hcl,B2 ho H.2,B,Ax U⟩;have z:q37 ops (c.setIfInBounds i A1):=hcl.set B;have u:∀v,qp2 o.dst.toList a (a.put o.dst v)->qp2 ws a0 (a.put o.dst v):=λv hkv t ht=>(hkv t (hws i o ho t ht)).trans (hk t ht);have lenE:(Bd ((i,eff)::r)+m)=(r.length+m)+1:=by simp;omega
   rw[lenE]
   -- passed over
   have skip:∀T,q71 dfr n T a->A0 o (yielded ops a.tmps)=Aa->drawC P n ops b K r (c.setIfInBounds i A1) X (q72 o.dst T) C->AnyC P ops b Q pend (r.length+m+1) c a C:=by
    intro T f L A;obtain⟨k,p⟩:=qle (d:=o.dst) f;have O:∀D,Sil P ops o a undef D:=λD=>by unfold Sil;rw[L]
    exact take_sil F (v:=undef) _ pend c a C hA (O C) R g (AnyC.also O (ih _ X pend _ C _ A k (u _ p) z q R g))
   -- carried out
   have go:∀T,q71 dfr n T a->A0 o (yielded ops a.tmps)=A1->stepC P n ops b i eff o c X C (drawC P n ops b K r (c.setIfInBounds i A1)) T->AnyC P ops b Q pend (r.length+m+1) c a C:=by
    intro T f L A;unfold stepC at A;split at A
    .rename_i E;obtain⟨v,N,hv⟩:=q7c A f;obtain⟨Z,h3,k,p⟩:=qn3 N f;have O:∀D,Sil P ops o a v D:=λD=>by unfold Sil;rw[L];simp only[E];exact hv
     exact take_sil F _ pend c a C hA (O C) R g (AnyC.also O (ih _ X pend Z C _ h3 k (u _ p) z q R g))
    .rename_i E;split at A
     .rename_i Y;obtain⟨obj,mk,hnew,N⟩:=newE_sound A f;refine take_new F E _ pend c a C hA (alB_sound Y) L hnew g λbl=>?_;obtain⟨Z,h3,k,p⟩:=qn3 (N bl) f;exact ih _ _ _ Z _ _ h3 k (u _ p) z (q.trim b i) (λx J=>g x (Sub.of_trim _ _ x J) _ _ (R x (Sub.of_trim _ _ x J))) (g.sub (Sub.of_trim _ _))
     .exact A.elim
    .rename_i E;split at A;case h_2=>exact A.elim
     rename_i l hres;split at A
     .obtain⟨v,hq,N⟩:=qbm A;obtain⟨Z,h3,k,p⟩:=qn3 N f;have O:∀D,Qt D v (opW P o T)->Sil P ops o a v D:=λD hq=>by unfold Sil;rw[L];simp only[E];exact λG w I=>qq9 (hq G w I) f
      exact take_sil F _ pend c a C hA (O C hq) R g (ih _ _ _ Z C _ h3 k (u _ p) z (by exact⟨rfl,O,q⟩) (λx J=>by
       rcases Ac.1 J with rfl|J;.exact O C hq
       .exact R x J) (λx J D y=>by
       rcases Ac.1 J with rfl|J;.exact λh=>Sil.push h y
       .exact g x J D y))
     .split at A;case h_2=>exact A.elim
      rename_i Y;obtain⟨α,x0,V,D,hd,N⟩:=A;refine take_eff F E x0 _ pend c a C D hA (alB_sound Y) L g (λG w I=>qq9 (hd G w I) f) (λx=>(q.trim b i).now (qda (q34 (N x)).1)) λx=>?_;obtain⟨Z,h3,k,p⟩:=qn3 (q34 (N x)).2 f;exact ih _ _ _ Z _ _ h3 k (u _ p) z (q.trim b i) ((q.trim b i).now (qda (q34 (N x)).1)) (g.sub (Sub.of_trim _ _))
   split at h
   .rename_i I;exact go e M (by simp[A0,I]) h
   .rename_i j W I;split at h;.exact h.elim
    .rename_i s hs;split at h
     .rename_i t hb;have hy:=qse M hs hb;cases t with
      |true=>
       have f:=qn8 M hb A1 rfl;simp only[Bif]at h;cases W with
       |true=>exact go _ f (by simp[A0,I,hy]) h
       |false=>exact skip _ f (by simp[A0,I,hy]) h
      |false=>
       have f:=qn8 M hb Aa rfl;simp only[Bif]at h;cases W with
       |false=>exact go _ f (by simp[A0,I,hy]) h
       |true=>exact skip _ f (by simp[A0,I,hy]) h
     .rename_i us hb;have hy:=qka M hs hb;exact skip _ M (by simp[A0,I,hy]) h
     .exact h.elim
  .exact h.elim
def zr:=@Sub.of_trim
def z1b:=@AnyC.weaken
end
section
namespace Two
variable{dfr:List Deferred}
open Go Go.Proofs.YtfjifcfbmhpcaaaGreatDoor
def strB8(P:A5)(s d:TypeId):Option TypeId:=
 match P.underlying s,P.underlying d with
 |some .string,A9 (.slice e)=>match P.underlying e with
  |some (.int .u8)=>A9 e
  |_=>Ar
 |_,_=>Ar
def kd(P:A5):Op->Kd3
 |.convert s d _=>match qs4 P s d with
  |true=>match strB8 P s d with|some _=>.new|none=>.gen
  |false=>.pure
 |o=>Go.Proofs.YtfjifcfbmhpcaaaGreatDoor.kd P o
abbrev Mk:=(Nat->Obj)×(Nat->Nat->A6)
def rowB(y:ByteArray)(e:TypeId):Mk:=(λk=>.cells (bytesRow y (y.size+k)) e ((bytesRow y (y.size+k)).size,(bytesRow y (y.size+k)).size+1),λk b=>.slice (A9 ⟨b,0,Ar⟩) y.size (y.size+k))
def newOf(P:A5)(ρ:Ba->A6):Op->Option Mk
 |.convert s d x=>match strB8 P s d,ρ x with
  |some e,.string y=>A9 (rowB y e)
  |_,_=>Ar
 |o=>match Go.Proofs.YtfjifcfbmhpcaaaGreatDoor.newOf P ρ o with
  |some (h,mk)=>A9 (λ_=>h,λ_=>mk)
  |none=>Ar
def newOf_run{P:A5}{o:A8}{a:Act}{m:Mk}(h:newOf P a.eval o.op=A9 m)(w:Ak):∃k w1,(w1=w\/w1=w.drew)/\(execOp a.eval o).run P w=.ok (.value (m.2 k w1.heap.size)) (w1.alloc (m.1 k)):=by
 unfold newOf at h;split at h
 .rename_i s d x n;split at h
  .rename_i e y b i;cases h;unfold strB8 at b;split at b
   .rename_i e' j g;split at b
    .rename_i p;cases b;have l:=run_bytes_of_string (P:=P) w s d e y j g p;have f:y.size<=grownCap w y.size 0 e:=grownCap_ge _ _ _ _;refine⟨grownCap w y.size 0 e - y.size,w.drew,.inr yR,?_⟩;simp only[execOp,n,i,Sem.run_bind,l,rowB];rw[show y.size+(grownCap w y.size 0 e - y.size)=grownCap w y.size 0 e by omega];rfl
    .cases b
   .cases b
  .cases h
 .split at h
  .rename_i c mk hn;cases h;exact⟨0,w,.inl yR,Go.Proofs.YtfjifcfbmhpcaaaGreatDoor.newOf_run hn w⟩
  .cases h
def newOf_congr{P:A5}{ρ w:Ba->A6}(o:Op)(h:∀x∈o.operands,ρ x=w x):newOf P ρ o=newOf P w o:=by
 cases o with
 |convert s d x=>simp only[newOf];rw[h x (by simp[Op.operands])]
 |_=>simp only[newOf];rw[Go.Proofs.YtfjifcfbmhpcaaaGreatDoor.newOf_congr _ h]
def newOf_put{P:A5}{ops:Array A8}(o:A8)(a:Act)(w:Option Tmp)(v:A6)(h:∀d,w=A9 d->d∉o.looksAt ops):newOf P (a.put w v).eval o.op=newOf P a.eval o.op:=
 newOf_congr o.op λx c=>Act.eval_put λd e b=>h d e (by subst b;exact Au _ (Ay.2 ⟨.tmp d,by simpa using c,rfl⟩))
section
variable(P:Program)(ops:Array Oper)(b:List Nat)
def OpC(pend:qc1)(i:Nat)(a:Act)(C:Cls)(K:Act->Cls->Prop):Prop:=
 match ops[i]? with
 |none=>K a C
 |some o=>match A0 o (yielded ops a.tmps)with
  |false=>K (a.put o.dst undef) C
  |true=>match kd P o.op with
   |.new=>∃m:Mk,newOf P a.eval o.op=A9 m/\∀k b,K (a.put o.dst (m.2 k b)) (C.push (b,m.1 k))
   |.pure=>∃v,(∀w,(execOp a.eval o).run P w=.ok (.value v) w)/\K (a.put o.dst v) C
   |.gen=>∃X:A6->Cls->Prop,(∀G w,C.p G w->qz1 P o a w λv w'=>∃h,X v h/\h.p G w')/\∀v h,X v h->qbd b pend i h/\K (a.put o.dst v) h
def AnyC(Q:Act->Ak->Prop)(pend:qc1):Nat->Array Bool->Act->Cls->Prop
 |0,h,a,C=>A3 .any ops h=[]/\∀G w,C.p G w->Q a w
 |f+1,h,a,C=>(A3 .any ops h=[]->∀G w,C.p G w->Q a w)/\
  ∀j∈A3 .any ops h,OpC P ops b pend j a C λd c=>AnyC Q (trim b j pend) f (h.setIfInBounds j A1) d c
end
section
variable{P:Program}{ops:Array Oper}{b:List Nat}{Q:Act->World->Prop}{pend:qc1}
def OpC.mono{i:Nat}{a:Act}{C:Cls}{c:qc1}{K l:Act->Cls->Prop}(q:∀C,qbd b pend i C->qbd b c i C)(h:∀a C,K a C->l a C)(w:OpC P ops b pend i a C K):OpC P ops b c i a C l:=by
 unfold OpC at*;split;.rename_i j;simp only[j]at w;exact h _ _ w
 .rename_i o j;simp only[j]at w;split;.rename_i g;simp only[g]at w;exact h _ _ w
  .rename_i g;simp only[g]at w;split;.rename_i e;simp only[e]at w;obtain⟨m,f,d⟩:=w;exact⟨m,f,λk b=>h _ _ (d k b)⟩
   .rename_i e;simp only[e]at w;obtain⟨v,f,d⟩:=w;exact⟨v,f,h _ _ d⟩
   .rename_i e;simp only[e]at w;obtain⟨X,f,d⟩:=w;exact⟨X,f,λv n p=>⟨q _ (d v n p).1,h _ _ (d v n p).2⟩⟩
def z1b:∀{f:Nat} {pend c:qc1} {w:Array Bool} {a:Act} {C:Cls},Sub c pend->AnyC P ops b Q pend f w a C->AnyC P ops b Q c f w a C
 |0,_,_,_,_,_,_,h=>h
 |_+1,_,_,_,_,_,d,h=>⟨h.1,λj g=>OpC.mono (λC e k S hk=>e k S (d.trim j _ hk)) (λ_ _ h=>z1b (d.trim j) h) (h.2 j g)⟩
def OpC.le{i:Nat}{a:Act}{C D:Cls}{K:Act->Cls->Prop}(c:C.le D)(j:∀a C D,C.le D->K a D->K a C)(h:OpC P ops b pend i a D K):OpC P ops b pend i a C K:=by
 unfold OpC at*;split;.rename_i l;simp only[l]at h;exact j _ _ _ c h
 .rename_i o l;simp only[l]at h;split;.rename_i f;simp only[f]at h;exact j _ _ _ c h
  .rename_i f;simp only[f]at h;split;.rename_i e;simp only[e]at h;obtain⟨m,g,d⟩:=h;exact⟨m,g,λk b=>j _ _ _ (Cls.le_push c _) (d k b)⟩
   .rename_i e;simp only[e]at h;obtain⟨v,g,d⟩:=h;exact⟨v,g,j _ _ _ c d⟩
   .rename_i e;simp only[e]at h;obtain⟨X,g,d⟩:=h;exact⟨X,λG w f=>g G w (c G w f),d⟩
def AnyC.le:∀{f:Nat} {pend:qc1} {c:Array Bool} {a:Act} {C D:Cls},C.le D->AnyC P ops b Q pend f c a D->AnyC P ops b Q pend f c a C
 |0,_,_,_,_,_,d,h=>⟨h.1,λG w e=>h.2 G w (d G w e)⟩
 |_+1,_,_,_,_,_,d,h=>⟨λi G w e=>h.1 i G w (d G w e),λj g=>OpC.le d (λ_ _ _ l k=>AnyC.le l k) (h.2 j g)⟩
def wpAny_of_AnyC{x:Exit->Act->Ak->Prop}(i:∀a w,Q a w->x .normal a w):∀(f:Nat) (pend:qc1) (c:Array Bool) (a:Act) (C:Cls) (G:List (Nat×Obj)) (w:Ak),C.p G w->AnyC P ops b Q pend f c a C->wpAny P .any ops x f c a w
 |0,_,_,_,_,G,w,g,h=>⟨h.1,i _ _ (h.2 G w g)⟩
 |f+1,pend,c,a,C,G,w,g,h=>⟨λz=>i _ _ (h.1 z G w g),λj B=>by
  have e:=h.2 j B;unfold OpC at e;unfold wpOp;split;.rename_i r;simp only[r]at e;exact wpAny_of_AnyC i f _ _ _ C G w g e
  .rename_i o r;simp only[r]at e;cases hwt:A0 o (yielded ops a.tmps)with
   |false=>simp only[hwt]at e;rw[yA (by simp)];exact wpAny_of_AnyC i f _ _ _ C G w g e
   |true=>
    simp only[hwt]at e;rw[yB yR];refine .inl ?_;split at e
    .obtain⟨m,l,n⟩:=e;obtain⟨k,w1,p,D⟩:=newOf_run l w;have s:qz1 P o a w λv w'=>v=m.2 k w1.heap.size/\w'=w1.alloc (m.1 k):=by unfold qz1;rw[D];exact⟨rfl,rfl⟩
     have y:C.p G w1:=by rcases p with rfl|rfl;exact g;exact C.drew _ _ g
     refine s.wp λv w' ⟨q,d⟩=>?_;subst q;subst d;exact wpAny_of_AnyC i f _ _ _ _ G _ (C.new G w1 (m.1 k) y) (n k w1.heap.size)
    .obtain⟨v,l,n⟩:=e;have s:qz1 P o a w λu w'=>u=v/\w'=w:=by unfold qz1;rw[l w];exact⟨rfl,rfl⟩
     refine s.wp λu w' ⟨q,d⟩=>?_;subst q;subst d;exact wpAny_of_AnyC i f _ _ _ C G _ g n
    .obtain⟨X,l,n⟩:=e;refine(l G w g).wp λv w' ⟨t,A,d⟩=>?_;exact wpAny_of_AnyC i f _ _ _ t G w' d (n v t A).2⟩
def Sil(P:A5)(ops:Array A8)(o:A8)(a:Act)(v:A6)(C:Cls):Prop:=
 match A0 o (yielded ops a.tmps)with
 |true=>match kd P o.op with
  |.pure=>∀w,(execOp a.eval o).run P w=.ok (.value v) w
  |.new=>False
  |.gen=>∀G w,C.p G w->qz1 P o a w λh w'=>h=v/\C.p G w'
 |false=>v=undef
def Sil.push{o:A8}{a:Act}{v:A6}{C:Cls}(h:Sil P ops o a v C)(x:Nat×Obj):Sil P ops o a v (C.push x):=by
 unfold Sil at*;split
 .rename_i d;simp only[d]at h;split;.rename_i b;simp only[b]at h;exact h
  .rename_i b;simp only[b]at h
  .rename_i b;simp only[b]at h;exact λG w c=>h _ w c
 .rename_i d;simp only[d]at h;exact h
def Sil_put{h d:A8}(c:h.apart ops d=A1)(e:∀cs b,h.op≠.select cs b)(a:Act)(v u:A6):Sil P ops h (a.put d.dst u) v=Sil P ops h a v:=by
 funext C;unfold Sil;rw[wanted_put h a d.dst u (A4 c).2.2,execOp_put h e a d.dst u (A4 c).2.2];have:(∀G w,C.p G w->qz1 P h (a.put d.dst u) w λf w'=>f=v/\C.p G w')=(∀G w,C.p G w->qz1 P h a w λf w'=>f=v/\C.p G w'):=by simp only[qgc c e]
 rw[this]
def OpC_put{j:Nat}{e d:A8}{v:A6}(s:ops[j]?=A9 d)(f:e.apart ops d=A1)
 (l:∀cs b,d.op≠.select cs b) {K:Act->Cls->Prop} {a:Act} {C:Cls}
 (h:OpC P ops b pend j (a.put e.dst v) C K):OpC P ops b pend j a C λx p=>K (x.put e.dst v) p:=by
 obtain⟨q,r,y⟩:=A4 f;have c:∀u,(a.put e.dst v).put d.dst u=(a.put d.dst u).put e.dst v:=λu=>Act.put_comm a v u r;unfold OpC at*;simp only[s]at*;rw[wanted_put d a e.dst v q]at h;split;.rename_i n;simp only[n]at h;rw[c]at h;exact h
 .rename_i n;simp only[n]at h;split
  .rename_i i;simp only[i]at h;obtain⟨m,o,g⟩:=h;refine⟨m,by rwa[newOf_put d a e.dst v q]at o,λk b=>?_⟩;have:=g k b;rwa[c]at this
  .rename_i i;simp only[i]at h;obtain⟨u,o,g⟩:=h;refine⟨u,by rwa[execOp_put d l a e.dst v q]at o,?_⟩;rwa[c]at g
  .rename_i i;simp only[i]at h;obtain⟨X,o,g⟩:=h;refine⟨X,λG w n=>?_,λu p t=>?_⟩;.have:=o G w n;rwa[qsm f l]at this
   .have:=g u p t;rwa[c]at this
def OpC_sil{i:Nat}{j:A8}{v:A6}{a:Act}{C:Cls}{pend:qc1}{K:Act->Cls->Prop}(o:ops[i]?=A9 j)(c:Sil P ops j a v C)(n:Now pend C)(g:K (a.put j.dst v) C):OpC P ops b pend i a C K:=by
 unfold OpC;simp only[o];unfold Sil at c;split;.rename_i f;simp only[f]at c;subst c;exact g
 .rename_i f;simp only[f]at c;split;.rename_i d;simp only[d]at c
  .rename_i d;simp only[d]at c;exact⟨v,c,g⟩
  .rename_i d;simp only[d]at c;exact⟨λl m=>l=v/\m=C,λG w f=>(c G w f).mono λl w' ⟨e,h⟩=>⟨C,⟨e,rfl⟩,h⟩,λl m ⟨p,q⟩=>by subst p;subst q;exact⟨λk S g=>n (k,S) (zr _ _ _ g),g⟩⟩
def take_sil(I:qu9 ops b){i:Nat}{e:A8}{v:A6} :
 ∀(f:Nat) (pend:qc1) (w:Array Bool) (a:Act) (C:Cls),At P ops i e w->Sil P ops e a v C->Now pend C->qn7 pend->
  AnyC P ops b Q ((i,Sil P ops e a v)::pend) f (w.setIfInBounds i A1) (a.put e.dst v) C->AnyC P ops b Q pend (f+1) w a C:=by
 intro f;induction f with
 |zero=>
  intro pend w a C r A z s H;refine⟨λh=>(by have:=r.ready;rw[h]at this;cases this),λj L=>?_⟩;by_cases d:j=i
  .subst d;exact OpC_sil r.op A z ⟨H.1,H.2⟩
  .have:=ready_mono L d;rw[H.1]at this;cases this
 |succ f ih=>
  intro pend w a C r A z s H;refine⟨λh=>(by have:=r.ready;rw[h]at this;cases this),λj L=>?_⟩;by_cases d:j=i
  .subst d;exact OpC_sil r.op A z (z1b (λx p=>A2 _ (zr _ _ x p)) H)
  .obtain⟨G,y,B,D,N,K,_⟩:=r.other I L d;have T:=H.2 j K;have g:trim b j ((i,Sil P ops e a v)::pend)=(i,Sil P ops e a v)::trim b j pend:=by simp[trim,D]
   have l:=OpC_put y B (λcs b=>r.sel j G cs b y) T;have q:∀(u:A6) (o:Cls),Sil P ops e a v o->Now (trim b j pend) o->AnyC P ops b Q (trim b j ((i,Sil P ops e a v)::pend)) f ((w.setIfInBounds i A1).setIfInBounds j A1) ((a.put G.dst u).put e.dst v) o->
    AnyC P ops b Q (trim b j pend) (f+1) (w.setIfInBounds j A1) (a.put G.dst u) o:=λu o R J t=>by
    have n:Sil P ops e (a.put G.dst u) v=Sil P ops e a v:=Sil_put B (λcs b=>r.sel i e cs b r.op) a v u;refine ih (trim b j pend) (w.setIfInBounds j A1) (a.put G.dst u) o N (by rw[n];exact R) J (s.sub (zr _ _)) ?_;rw[n,A7 _ _ d,<-g];exact t
   unfold OpC at l⊢;simp only[y]at l⊢;split;.rename_i M;simp only[M]at l;exact q undef C A (z.sub (zr _ _)) l
   .rename_i M;simp only[M]at l;split
    .rename_i E;simp only[E]at l;obtain⟨m,t,F⟩:=l;exact⟨m,t,λk b=>q (m.2 k b) _ (A.push _) (λx p=>(s x (zr _ _ x p)) _ _ (z x (zr _ _ x p))) (F k b)⟩
    .rename_i E;simp only[E]at l;obtain⟨u,t,F⟩:=l;exact⟨u,t,q u C A (z.sub (zr _ _)) F⟩
    .rename_i E;simp only[E]at l;obtain⟨X,t,F⟩:=l;refine⟨X,t,λu o p=>?_⟩;obtain⟨O,U⟩:=F u o p;have c:Now (trim b j ((i,Sil P ops e a v)::pend)) o:=λx p=>O x.1 x.2 p;rw[g]at c;exact⟨λk S hk=>c (k,S) (A2 _ hk),q u o (c _ Af) (λx p=>c x (A2 _ p)) U⟩
def AnyC.also{i:Nat}{S:Cls->Prop}(e:∀C,S C):∀{f:Nat} {pend:qc1} {w:Array Bool} {a:Act} {C:Cls},AnyC P ops b Q pend f w a C->AnyC P ops b Q ((i,S)::pend) f w a C
 |0,_,_,_,_,h=>h
 |f+1,pend,_,_,_,h=>⟨h.1,λj l=>OpC.mono (λC g k T d=>by
  have:(k,T)∈(i,S)::trim b j pend:=by
   unfold trim at d⊢;rw[Ae]at d;split at d;.exact d
   .exact A2 _ d
  rcases Ac.1 this with h|h;.cases h;exact e C
  .exact g k T h) (λa C h=>z1b (λx c=>by
   unfold trim at c⊢;rw[Ae]at c;split at c;.exact c
   .exact A2 _ c) (AnyC.also e h)) (h.2 j l)⟩
def Alone(P:A5)(ops:Array A8)(b:List Nat)(i:Nat)(h:Array Bool):Prop:=
 ∀k ok,ops[k]?=A9 ok->k≠i->h.getD k A1=Aa->waits b k i=Aa->kd P ok.op=.new\/kd P ok.op=.pure
def Alone.set{i:Nat}{w:Array Bool}(h:Alone P ops b i w)(j:Nat):Alone P ops b i (w.setIfInBounds j A1):=λk ok g e a f=>h k ok g e (by
 by_cases c:j=k
 .subst c;rcases Aj j w.size with d|d;.simp[d]at a
  .simp[Ap,B5.2 d]at a
 .rw[getD_set_ne A1 c]at a;exact a) f
def take_new(N:qu9 ops b){i:Nat}{g:A8}(V:kd P g.op=.new){m:Mk} :
 ∀(f:Nat) (pend:qc1) (w:Array Bool) (a:Act) (C:Cls),At P ops i g w->Alone P ops b i w->A0 g (yielded ops a.tmps)=A1->newOf P a.eval g.op=A9 m->qn7 pend->
  (∀k c,AnyC P ops b Q (trim b i pend) f (w.setIfInBounds i A1) (a.put g.dst (m.2 k c)) (C.push (c,m.1 k)))->AnyC P ops b Q pend (f+1) w a C:=by
 have p:∀(f:Nat) (pend:qc1) (w:Array Bool) (a:Act) (C:Cls),At P ops i g w->A0 g (yielded ops a.tmps)=A1->newOf P a.eval g.op=A9 m->
  (∀k c,AnyC P ops b Q (trim b i pend) f (w.setIfInBounds i A1) (a.put g.dst (m.2 k c)) (C.push (c,m.1 k)))->OpC P ops b pend i a C λY W=>AnyC P ops b Q (trim b i pend) f (w.setIfInBounds i A1) Y W:=by
  intro f pend w a C l G E H;unfold OpC;simp only[l.op,G,V];exact⟨m,E,H⟩
 intro f;induction f with
 |zero=>
  intro pend w a C l s G E F H;refine⟨λh=>(by have:=l.ready;rw[h]at this;cases this),λj R=>?_⟩;by_cases d:j=i;.subst d;exact p 0 pend w a C l G E H
  .have:=ready_mono R d;rw[(H 0 0).1]at this;cases this
 |succ f ih=>
  intro pend w a C l s G E F H;refine⟨λh=>(by have:=l.ready;rw[h]at this;cases this),λj R=>?_⟩;by_cases d:j=i;.subst d;exact p (f+1) pend w a C l G E H
  .obtain⟨q,o,A,B,U,O,K⟩:=l.other N R d;obtain⟨Z,a2,a3⟩:=A4 A;have M:∀cs b,q.op≠.select cs b:=λcs b=>l.sel j q cs b o;have X:∀cs b,g.op≠.select cs b:=λcs b=>l.sel i g cs b l.op;have n:=λk c=>OpC_put (v:=m.2 k c) o A M ((H k c).2 j O);have t:∀(u:A6) (D:Cls),(∀k c,AnyC P ops b Q (trim b j (trim b i pend)) f ((w.setIfInBounds i A1).setIfInBounds j A1) ((a.put q.dst u).put g.dst (m.2 k c)) (D.push (c,m.1 k)))->
    AnyC P ops b Q (trim b j pend) (f+1) (w.setIfInBounds j A1) (a.put q.dst u) D:=λu D x=>by
    refine ih (trim b j pend) (w.setIfInBounds j A1) (a.put q.dst u) D U (s.set j) (by rwa[wanted_put g a q.dst u a3]) (by rwa[newOf_put g a q.dst u a3]) (F.sub (zr _ _)) λk c=>?_;rw[A7 _ _ d,ql8];exact x k c
   unfold OpC at n⊢;simp only[o]at n⊢;split;.rename_i y;simp only[y]at n;exact t undef C n
   .rename_i y;simp only[y]at n;rcases s j q o d K B with z|z
    .simp only[z]at n⊢;obtain⟨J,x,_⟩:=n 0 0;refine⟨J,x,λT r=>t (J.2 T r) _ λk c=>?_⟩;obtain⟨m2,I,L⟩:=n k c;rw[x]at I;cases I;exact AnyC.le (Cls.push_swap C (r,J.1 T) (c,m.1 k)) (L T r)
    .simp only[z]at n⊢;obtain⟨u,x,_⟩:=n 0 0;refine⟨u,x,t u C λk c=>?_⟩;obtain⟨u2,I,L⟩:=n k c;have e:=(x default).symm.trans (I default);simp only[Ao,An,yM]at e;subst e;exact L
def take_eff(h7:qu9 ops b){i:Nat}{g:A8}(W:kd P g.op=.gen){α:Type}(Z:α){V:α->A6} :
 ∀(f:Nat) (pend:qc1) (c:Array Bool) (a:Act) (C:Cls) (D:α->Cls),At P ops i g c->Alone P ops b i c->A0 g (yielded ops a.tmps)=A1->qn7 pend->
  (∀G w,C.p G w->qz1 P g a w λv w'=>∃x,v=V x/\(D x).p G w')->(∀x,Now (trim b i pend) (D x))->
  (∀x,AnyC P ops b Q (trim b i pend) f (c.setIfInBounds i A1) (a.put g.dst (V x)) (D x))->AnyC P ops b Q pend (f+1) c a C:=by
 have p:∀(f:Nat) (pend:qc1) (c:Array Bool) (a:Act) (C:Cls) (D:α->Cls),At P ops i g c->A0 g (yielded ops a.tmps)=A1->
  (∀G w,C.p G w->qz1 P g a w λv w'=>∃x,v=V x/\(D x).p G w')->(∀x,Now (trim b i pend) (D x))->
  (∀x,AnyC P ops b Q (trim b i pend) f (c.setIfInBounds i A1) (a.put g.dst (V x)) (D x))->OpC P ops b pend i a C λa' o=>AnyC P ops b Q (trim b i pend) f (c.setIfInBounds i A1) a' o:=by
  intro f pend c a C D l O q J H;unfold OpC;simp only[l.op,O,W];exact⟨λv o=>∃x,v=V x/\o=D x,λG w L=>(q G w L).mono λv w' ⟨x,e,h⟩=>⟨D x,⟨x,e,rfl⟩,h⟩,λv o ⟨x,e1,e2⟩=>by subst e1;subst e2;exact⟨λk S W=>J x (k,S) W,H x⟩⟩
 intro f;induction f with
 |zero=>
  intro pend c a C D l t O z q J H;refine⟨λh=>(by have:=l.ready;rw[h]at this;cases this),λj hj=>?_⟩;by_cases d:j=i;.subst d;exact p 0 pend c a C D l O q J H
  .have:=ready_mono hj d;rw[(H Z).1]at this;cases this
 |succ f ih=>
  intro pend c a C D l t O z q J H;refine⟨λh=>(by have:=l.ready;rw[h]at this;cases this),λj hj=>?_⟩;by_cases d:j=i;.subst d;exact p (f+1) pend c a C D l O q J H
  .obtain⟨I,n,r,K,hA',h9,X⟩:=l.other h7 hj d;obtain⟨a1,a2,a3⟩:=A4 r;have h0:∀cs b,I.op≠.select cs b:=λcs b=>l.sel j I cs b n;have h4:∀cs b,g.op≠.select cs b:=λcs b=>l.sel i g cs b l.op;have m:=λx=>OpC_put (v:=V x) n r h0 ((H x).2 j h9);have A:∀(u:A6) (o:Cls) (M:α->Cls),(∀G w,o.p G w->qz1 P g a w λv w'=>∃x,v=V x/\(M x).p G w')->(∀x,Now (trim b i (trim b j pend)) (M x))->
    (∀x,AnyC P ops b Q (trim b j (trim b i pend)) f ((c.setIfInBounds i A1).setIfInBounds j A1) ((a.put I.dst u).put g.dst (V x)) (M x))->
    AnyC P ops b Q (trim b j pend) (f+1) (c.setIfInBounds j A1) (a.put I.dst u) o:=λu o M h1 h8 B=>by
    refine ih (trim b j pend) (c.setIfInBounds j A1) (a.put I.dst u) o M hA' (t.set j) (by rwa[wanted_put g a I.dst u a3]) (z.sub (zr _ _)) (λG w L=>by rw[qgc r h4];exact h1 G w L) h8 λx=>?_;rw[A7 _ _ d,ql8];exact B x
   have s:∀x,Now (trim b i (trim b j pend)) (D x):=λx y N=>by rw[ql8]at N;exact J x y (zr _ _ y N)
   unfold OpC at m⊢;simp only[n]at m⊢;split;.rename_i E;simp only[E]at m;exact A undef C D q s m
   .rename_i E;simp only[E]at m;rcases t j I n d X K with F|F
    .simp only[F]at m⊢;obtain⟨R,B,_⟩:=m Z;refine⟨R,B,λk U=>A (R.2 k U) (C.push (U,R.1 k)) (λx=>(D x).push (U,R.1 k)) (λG w L=>q _ w L) (λx y N=>(z y (zr _ _ y (zr _ _ y N))) _ _ (s x y N)) λx=>?_⟩;obtain⟨m2,T,Y⟩:=m x;rw[B]at T;cases T;exact Y k U
    .simp only[F]at m⊢;obtain⟨u,B,_⟩:=m Z;refine⟨u,B,A u C D q s λx=>?_⟩;obtain⟨u2,T,Y⟩:=m x;have e:=(B default).symm.trans (T default);simp only[Ao,An,yM]at e;subst e;exact Y
end
def alB(P:A5)(ops:Array A8)(b:List Nat)(i:Nat)(h:Array Bool):Bool:=
 (Be ops.size).all λk=>As k i||h.getD k A1||waits b k i||match ops[k]? with
  |some ok=>(match kd P ok.op with|.gen=>Aa|_=>A1)
  |none=>A1
def alB_sound{P:A5}{ops:Array A8}{b:List Nat}{i:Nat}{w:Array Bool}(h:alB P ops b i w=A1):Alone P ops b i w:=by
 intro k ok j e f l;simp only[alB,B0,B6]at h;have g:=h k (Aq.1 j).1;have a:As k i=Aa:=by
  cases a:As k i with
  |false=>rfl
  |true=>exact(e (Ah a)).elim
 simp only[a,f,l,j,B9]at g;split at g;.cases g
 .rename_i c;cases d:kd P ok.op with
  |new=>exact .inl yR
  |pure=>exact .inr yR
  |gen=>exact(c d).elim
def newE(P:A5)(o:A8)(e:Env)(F:Mk->Prop):Prop:=
 match o.op with
 |.convert s d x=>match strB8 P s d with
  |some t=>q11 e x λv=>match v with
   |.string y=>F (rowB y t)
   |_=>False
  |none=>False
 |_=>Go.Proofs.YtfjifcfbmhpcaaaGreatDoor.newE P o e λh mk=>F (λ_=>h,λ_=>mk)
def newE_sound{P:A5}{n:Nat}{o:A8}{e:Env}{F:Mk->Prop}{a:Act}(h:newE P o e F)(f:q71 dfr n e a):∃m,newOf P a.eval o.op=A9 m/\F m:=by
 unfold newE at h;split at h
 .rename_i s d x c;split at h
  .rename_i t k;have w:=ql h f;split at w
   .rename_i y j;exact⟨_,by simp only[newOf,c,k,j],w⟩
   .exact w.elim
  .exact h.elim
 .rename_i b;obtain⟨i,mk,w,g⟩:=Go.Proofs.YtfjifcfbmhpcaaaGreatDoor.newE_sound h f;refine⟨_,?_,g⟩;unfold newOf;split;.rename_i s d x c;exact(b s d x c).elim
  .simp only[w]
def stepC(P:A5)(n:Nat)(ops:Array A8)(b:List Nat)(i:Nat)(w:Bool)(o:A8)(h:Array Bool)(pend:qc1)(C:Cls)(next:qc1->Env->Cls->Prop)(e:Env):Prop:=
 match kd P o.op with
 |.pure=>opP P o e λv=>qc2 n o.dst v e λe'=>next pend e' C
 |.new=>match alB P ops b i h with
  |true=>newE P o e λm=>∀k a:Nat,qc2 n o.dst (m.2 k a) e λe'=>next (trim b i pend) e' (C.push (a,m.1 k))
  |false=>False
 |.gen=>match qn4 P o with
  |some l=>match w with
   |false=>exR l λv=>Qt C v (opW P o e)/\qc2 n o.dst v e λe'=>next ((i,λC=>Qt C v (opW P o e))::pend) e' C
   |true=>match alB P ops b i h with
    |true=>Ef C (opW P o e) λv D=>asR l v λv=>qo5 (trim b i pend) D/\qc2 n o.dst v e λe'=>next (trim b i pend) e' D
    |false=>False
  |none=>False
def drawC(P:A5)(n:Nat)(ops:Array A8)(b:List Nat)(K:Env->Ak->Prop):List (Nat×Bool)->Array Bool->qc1->Env->Cls->Prop
 |[],h,_,e,C=>match A3 .any ops h with
  |[]=>∀G w,C.p G w->K e w
  |_=>False
 |(i,c)::r,h,pend,e,C=>
  match ops[i]?,(A3 .any ops h).contains i&&Bc .any ops h i with
  |some o,A1=>
   match o.guard with
   |none=>stepC P n ops b i c o h pend C (drawC P n ops b K r (h.setIfInBounds i A1)) e
   |some (j,a)=>match q69 ops j with
    |none=>False
    |some s=>match q23 e s with
     |some (.bool t)=>Bif t
      (match a with
       |true=>stepC P n ops b i c o h pend C (drawC P n ops b K r (h.setIfInBounds i A1)) ((s,.bool A1)::e)
       |false=>drawC P n ops b K r (h.setIfInBounds i A1) pend (q72 o.dst ((s,.bool A1)::e)) C)
      (match a with
       |false=>stepC P n ops b i c o h pend C (drawC P n ops b K r (h.setIfInBounds i A1)) ((s,.bool Aa)::e)
       |true=>drawC P n ops b K r (h.setIfInBounds i A1) pend (q72 o.dst ((s,.bool Aa)::e)) C)
     |some (.tuple _)=>drawC P n ops b K r (h.setIfInBounds i A1) pend (q72 o.dst e) C
     |_=>False
  |_,_=>False
def drawC_sound{P:A5}{n:Nat}{ops:Array A8}{b:List Nat}{K:Env->Ak->Prop}{Q:Act->Ak->Prop}(H:qu9 ops b)(W:B4 ops=A1)(ws:List Nat)(a0:Act)
 (hws:∀(i:Nat) (o:A8),ops[i]?=A9 o->∀t,q83 ws t=Aa->q83 o.dst.toList t=Aa)
 (hK:∀e a w,K e w->q71 dfr n e a->qp2 ws a0 a->Q a w):
 ∀(r:List (Nat×Bool)) (m:Nat) (c:Array Bool) (Y pend:qc1) (e:Env) (C:Cls) (a:Act),drawC P n ops b K r c Y e C->q71 dfr n e a->qp2 ws a0 a->q37 ops c->PR Y pend->Now pend C->qn7 pend->
  AnyC P ops b Q pend (r.length+m) c a C
 |[],m,c,Y,pend,e,C,a,h,N,hk,hcl,u,T,g=>by
  unfold drawC at h;split at h
  .rename_i hr;cases m with
   |zero=>exact⟨hr,λG w M=>hK e a w (h G w M) N hk⟩
   |succ m=>exact⟨λ_ G w M=>hK e a w (h G w M) N hk,λj hj=>by rw[hr]at hj;cases hj⟩
  .exact h.elim
 |(i,eff)::r,m,c,Y,pend,e,C,a,h,N,hk,hcl,u,T,g=>by
  have ih:=drawC_sound (P:=P) H W ws a0 hws hK r m;unfold drawC at h;split at h
  .rename_i o ho I;simp only[B1]at I;have E:i∈A3 .any ops c:=by simpa using I.1
   have hA:At P ops i o c:=⟨ho,hcl,B2 ho I.2,E,Ax W⟩;have A:q37 ops (c.setIfInBounds i A1):=hcl.set E;have z:∀v,qp2 o.dst.toList a (a.put o.dst v)->qp2 ws a0 (a.put o.dst v):=λv hkv t ht=>(hkv t (hws i o ho t ht)).trans (hk t ht);have lenE:(Bd ((i,eff)::r)+m)=(r.length+m)+1:=by simp;omega
   rw[lenE]
   -- passed over
   have skip:∀U,q71 dfr n U a->A0 o (yielded ops a.tmps)=Aa->drawC P n ops b K r (c.setIfInBounds i A1) Y (q72 o.dst U) C->AnyC P ops b Q pend (r.length+m+1) c a C:=by
    intro U f M B;obtain⟨p,q⟩:=qle (d:=o.dst) f;have R:∀D,Sil P ops o a undef D:=λD=>by unfold Sil;rw[M]
    exact take_sil H (v:=undef) _ pend c a C hA (R C) T g (AnyC.also R (ih _ Y pend _ C _ B p (z _ q) A u T g))
   -- carried out
   have go:∀U,q71 dfr n U a->A0 o (yielded ops a.tmps)=A1->stepC P n ops b i eff o c Y C (drawC P n ops b K r (c.setIfInBounds i A1)) U->AnyC P ops b Q pend (r.length+m+1) c a C:=by
    intro U f M B;unfold stepC at B;split at B
    .rename_i F;obtain⟨v,O,hv⟩:=q7c B f;obtain⟨e2,h3,p,q⟩:=qn3 O f;have R:∀D,Sil P ops o a v D:=λD=>by unfold Sil;rw[M];simp only[F];exact hv
     exact take_sil H _ pend c a C hA (R C) T g (AnyC.also R (ih _ Y pend e2 C _ h3 p (z _ q) A u T g))
    .rename_i F;split at B
     .rename_i Z;obtain⟨m1,hnew,O⟩:=newE_sound B f;refine take_new H F _ pend c a C hA (alB_sound Z) M hnew g λk bl=>?_;obtain⟨e2,h3,p,q⟩:=qn3 (O k bl) f;exact ih _ _ _ e2 _ _ h3 p (z _ q) A (u.trim b i) (λx L=>g x (zr _ _ x L) _ _ (T x (zr _ _ x L))) (g.sub (zr _ _))
     .exact B.elim
    .rename_i F;split at B;case h_2=>exact B.elim
     rename_i l hres;split at B
     .obtain⟨v,hq,O⟩:=qbm B;obtain⟨e2,h3,p,q⟩:=qn3 O f;have R:∀D,Qt D v (opW P o U)->Sil P ops o a v D:=λD hq=>by unfold Sil;rw[M];simp only[F];exact λG w J=>qq9 (hq G w J) f
      exact take_sil H _ pend c a C hA (R C hq) T g (ih _ _ _ e2 C _ h3 p (z _ q) A (by exact⟨rfl,R,u⟩) (λx L=>by
       rcases Ac.1 L with rfl|L;.exact R C hq
       .exact T x L) (λx L D y=>by
       rcases Ac.1 L with rfl|L;.exact λh=>Sil.push h y
       .exact g x L D y))
     .split at B;case h_2=>exact B.elim
      rename_i Z;obtain⟨α,x0,V,D,hd,O⟩:=B;refine take_eff H F x0 _ pend c a C D hA (alB_sound Z) M g (λG w J=>qq9 (hd G w J) f) (λx=>(u.trim b i).now (qda (q34 (O x)).1)) λx=>?_;obtain⟨e2,h3,p,q⟩:=qn3 (q34 (O x)).2 f;exact ih _ _ _ e2 _ _ h3 p (z _ q) A (u.trim b i) ((u.trim b i).now (qda (q34 (O x)).1)) (g.sub (zr _ _))
   split at h
   .rename_i J;exact go e N (by simp[A0,J]) h
   .rename_i j X J;split at h;.exact h.elim
    .rename_i s hs;split at h
     .rename_i t hb;have hy:=qse N hs hb;cases t with
      |true=>
       have f:=qn8 N hb A1 rfl;simp only[Bif]at h;cases X with
       |true=>exact go _ f (by simp[A0,J,hy]) h
       |false=>exact skip _ f (by simp[A0,J,hy]) h
      |false=>
       have f:=qn8 N hb Aa rfl;simp only[Bif]at h;cases X with
       |false=>exact go _ f (by simp[A0,J,hy]) h
       |true=>exact skip _ f (by simp[A0,J,hy]) h
     .rename_i us hb;have hy:=qka N hs hb;exact skip _ N (by simp[A0,J,hy]) h
     .exact h.elim
  .exact h.elim
end Two
end
end Go.Proofs.YtfjifcfbmhpcaaaGreatDoor
