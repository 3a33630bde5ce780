/-
  A part of the proof of TopEvicted.
-/
import Derived.Test.YtfjifcfbmhpcaaaGreatDoorV00
import Derived.Laws.IdiomStrings
set_option linter.defProp false
set_option linter.unusedVariables false
set_option linter.unusedSimpArgs false
namespace Go.Proofs.YtfjifcfbmhpcaaaGreatDoor
open Go
open Go.Region renaming wanted->A0,ready->A3,binds->Ad,noSelect_spec->Ax,free_spec->B2,noSelect->B4,free->Bc
open _root_.Bool renaming true->A1,false->Aa,or_eq_false_iff->Aw,and_eq_true->B1,false_or->B9
open _root_.List renaming mem_cons_of_mem->A2,mem_cons->Ac,filter_cons->Ae,mem_cons_self->Af,getD_eq_getElem?_getD->Ai,mem_append_left->Au,mem_filterMap->Ay,all_eq_true->B0,mem_filter->B3,mem_range->B6,length->Bd,range->Be
open Go.Oper renaming apart_spec->A4
open Go renaming Program->A5,Value->A6,Oper->A8,World->Ak,Operand->Ba
open _root_.Array renaming setIfInBounds_comm->A7,getD_eq_getD_getElem?->Ab,getElem?_eq_none->Ag,getElem?_eq_getElem->Am,setIfInBounds->Ap,getElem?_eq_some_iff->Aq,mem_toList_iff->Av,range->Bb
open _root_.Option renaming some->A9,none->Ar,getD_some->Az,toList->B7
open _root_.Nat renaming eq_of_beq_eq_true->Ah,lt_or_ge->Aj,beq->As,not_lt->B5
open Go.Next.value renaming injEq->An
open Go.Result.ok renaming injEq->Ao
section
variable{dfr:List Deferred}
structure Cls where
 p:List (Nat×Obj)->Ak->Prop
 drew:∀G w,p G w->p G { w with drawn:=w.drawn+1}
 new:∀G w o,p G w->p ((w.heap.size,o)::G) (w.alloc o)
 perm:∀{G G' w},G.Perm G'->p G w->p G' w
def Cls.push(C:Cls)(x:Nat×Obj):Cls where
 p:=λG w=>C.p (x::G) w
 drew:=λG w h=>C.drew _ w h
 new:=λG w o h=>C.perm (List.Perm.swap _ _ _) (C.new _ w o h)
 perm:=λa h=>C.perm (a.cons x) h
def Cls.le(C D:Cls):Prop:=∀G w,C.p G w->D.p G w
def Cls.le_push{C D:Cls}(h:C.le D)(x:Nat×Obj):(C.push x).le (D.push x):=λG w a=>h _ w a
def Cls.push_swap(C:Cls)(x y:Nat×Obj):((C.push x).push y).le ((C.push y).push x):=λG w h=>C.perm (List.Perm.swap _ _ _) h
inductive Kd3 where|new|pure|gen
def kd(P:A5):Op->Kd3
 |.alloc _=>.new
 |.box _ _=>.new
 |.buildSlice _ _ _=>.new
 |.makeMap _ Ar=>.new
 |.load _ _=>.gen
 |.store _ _ _=>.gen
 |.call { callee:=.builtin .len,..}=>.pure
 |.call { callee:=.builtin .min,..}=>.pure
 |.call { callee:=.builtin .max,..}=>.pure
 |.call _=>.gen
 |.convert s d _=>match qs4 P s d with|true=>.gen|false=>.pure
 |.makeSlice _ _ _=>.gen
 |.lookup _ _ _ _=>.gen
 |.mapUpdate _ _ _ _=>.gen
 |.range _ _=>.gen
 |.next _ _=>.gen
 |.entry _=>.gen
 |.makeMap _ _=>.gen
 |.insert _ _ _ _=>.gen
 |.mapEntry _ _ _=>.gen
 |.entryStore _ _ _ _=>.gen
 |_=>.pure
def newOf(P:A5)(ρ:Ba->A6):Op->Option (Obj×(Nat->A6))
 |.alloc t=>match P.info? t with
  |some i=>match i.zero with
   |some z=>A9 (.cells z.cells t,λb=>.pointer (A9 ⟨b,0,Ar⟩))
   |none=>Ar
  |none=>Ar
 |.box t x=>A9 (.cells (ρ x).cells t,λb=>.pointer (A9 ⟨b,0,Ar⟩))
 |.buildSlice t len parts=>match P.underlying t with
  |some (.slice e)=>match P.info? e with
   |some i=>match i.zero,Nat.ble (len*i.size) 4096 with
    |some z,A1=>match Instr.fill (λj=>A9 (j*i.size,i.size)) ((Bb (len*i.size)).map (z.cells[· %z.cells.size]!)) (parts.toList.map λx=>(x.1,ρ x.2))with
     |some cells=>A9 (.cells cells e,λb=>.slice (A9 ⟨b,0,Ar⟩) len len)
     |none=>Ar
    |_,_=>Ar
   |none=>Ar
  |_=>Ar
 |.makeMap _ Ar=>A9 (.map #[] 0,λb=>.map (A9 b))
 |_=>Ar
def newOf_run{P:A5}{o:A8}{a:Act}{d:Obj}{mk:Nat->A6}(h:newOf P a.eval o.op=A9 (d,mk))(w:Ak):(execOp a.eval o).run P w=.ok (.value (mk w.heap.size)) (w.alloc d):=by
 unfold newOf at h;split at h
 .rename_i t b;split at h
  .rename_i i g;split at h
   .rename_i z j;cases h;simp[execOp,b,Instr.alloc,zeroValue,typeInfo,g,j,q6b]
   .cases h
  .cases h
 .rename_i t x b;cases h;simp[execOp,b,Instr.box,q6b]
 .rename_i t len c b;have key:qu5 P t len (c.toList.map λx=>(x.1,a.eval x.2)) w (λv w'=>v=mk w.heap.size/\w'=w.alloc d):=by
   unfold qu5;split at h
   .rename_i e m;split at h
    .rename_i i g;split at h
     .rename_i z j p;split at h
      .rename_i f n;cases h;simp only[m,g,j,p,n];exact⟨rfl,rfl⟩
      .cases h
     .cases h
    .cases h
   .cases h
  obtain⟨v,w',⟨l,q⟩,k⟩:=qop key;subst l;subst q;rw[<-Array.toList_map,Array.toArray_toList]at k;simp only[execOp,b,Sem.run_bind,k];rfl
 .rename_i t b;cases h;simp[execOp,b,Instr.makeMap]
 .cases h
def newOf_congr{P:A5}{ρ a:Ba->A6}(o:Op)(h:∀x∈o.operands,ρ x=a x):newOf P ρ o=newOf P a o:=by
 cases o with
 |box t x=>simp only[newOf];rw[h x (by simp[Op.operands])]
 |buildSlice t len w=>
  have c:w.toList.map (λx=>(x.1,ρ x.2))=w.toList.map (λx=>(x.1,a x.2)):=by refine List.map_congr_left λx b=>?_;rw[h x.2 (by simp only[Op.operands];exact List.mem_toArray.2 (List.mem_map.2 ⟨x,b,rfl⟩))]
  simp only[newOf,c]
 |makeMap t r=>cases r<;>rfl
 |_=>rfl
def newOf_put{P:A5}{ops:Array A8}(o:A8)(a:Act)(w:Option Tmp)(v:A6)(h:∀d,w=A9 d->d∉o.looksAt ops):newOf P (a.put w v).eval o.op=newOf P a.eval o.op:=
 newOf_congr o.op λx c=>Act.eval_put λd e b=>h d e (by subst b;exact Au _ (Ay.2 ⟨.tmp d,by simpa using c,rfl⟩))
abbrev qc1:=List (Nat×(Cls->Prop))
def qna:List A8->List Nat->List Nat
 |[],h=>h
 |o::r,h=>qna r (h++[o.after.foldl (λs e=>cond (Ad .any e) (s|||2 ^ e.on|||h.getD e.on 0) s) 0])
def waits(b:List Nat)(j i:Nat):Bool:=(b.getD j 0).testBit i
section
variable(P:Program)(ops:Array Oper)(b:List Nat)
def trim(j:Nat)(pend:qc1):qc1:=pend.filter λx=>!waits b j x.1
def qbd(pend:qc1)(j:Nat)(C:Cls):Prop:=∀k S,(k,S)∈trim b j pend->S C
def OpC(pend:qc1)(i:Nat)(a:Act)(C:Cls)(K:Act->Cls->Prop):Prop:=
 match ops[i]? with
 |none=>K a C
 |some o=>match A0 o (yielded ops a.tmps)with
  |false=>K (a.put o.dst undef) C
  |true=>match kd P o.op with
   |.new=>∃(c:Obj) (mk:Nat->A6),newOf P a.eval o.op=A9 (c,mk)/\∀b,K (a.put o.dst (mk b)) (C.push (b,c))
   |.pure=>∃v,(∀w,(execOp a.eval o).run P w=.ok (.value v) w)/\K (a.put o.dst v) C
   |.gen=>∃X:A6->Cls->Prop,(∀G w,C.p G w->qz1 P o a w λv w'=>∃h,X v h/\h.p G w')/\∀v h,X v h->qbd b pend i h/\K (a.put o.dst v) h
def AnyC(Q:Act->Ak->Prop)(pend:qc1):Nat->Array Bool->Act->Cls->Prop
 |0,h,a,C=>A3 .any ops h=[]/\∀G w,C.p G w->Q a w
 |f+1,h,a,C=>(A3 .any ops h=[]->∀G w,C.p G w->Q a w)/\
  ∀j∈A3 .any ops h,OpC P ops b pend j a C λd c=>AnyC Q (trim b j pend) f (h.setIfInBounds j A1) d c
end
section
variable{P:Program}{ops:Array Oper}{b:List Nat}{Q:Act->World->Prop}{pend:qc1}
def OpC.mono{i:Nat}{a:Act}{C:Cls}{c:qc1}{K m:Act->Cls->Prop}(p:∀C,qbd b pend i C->qbd b c i C)(h:∀a C,K a C->m a C)(w:OpC P ops b pend i a C K):OpC P ops b c i a C m:=by
 unfold OpC at*;split;.rename_i g;simp only[g]at w;exact h _ _ w
 .rename_i o g;simp only[g]at w;split;.rename_i k;simp only[k]at w;exact h _ _ w
  .rename_i k;simp only[k]at w;split;.rename_i e;simp only[e]at w;obtain⟨j,mk,f,d⟩:=w;exact⟨j,mk,f,λb=>h _ _ (d b)⟩
   .rename_i e;simp only[e]at w;obtain⟨v,f,d⟩:=w;exact⟨v,f,h _ _ d⟩
   .rename_i e;simp only[e]at w;obtain⟨X,f,d⟩:=w;exact⟨X,f,λv l n=>⟨p _ (d v l n).1,h _ _ (d v l n).2⟩⟩
def Sub(h pend:qc1):Prop:=∀x,x∈h->x∈pend
def Sub.trim{w pend:qc1}(h:Sub w pend)(j:Nat):Sub (trim b j w) (trim b j pend):=λx a=>by unfold Go.Proofs.YtfjifcfbmhpcaaaGreatDoor.trim at a⊢;rw[B3]at a⊢;exact⟨h x a.1,a.2⟩
def Sub.of_trim(j:Nat)(pend:qc1):Sub (Go.Proofs.YtfjifcfbmhpcaaaGreatDoor.trim b j pend) pend:=λx h=>(B3.1 h).1
def AnyC.weaken:∀{f:Nat} {pend c:qc1} {w:Array Bool} {a:Act} {C:Cls},Sub c pend->AnyC P ops b Q pend f w a C->AnyC P ops b Q c f w a C
 |0,_,_,_,_,_,_,h=>h
 |_+1,_,_,_,_,_,d,h=>⟨h.1,λj e=>OpC.mono (λC g k S hk=>g k S (d.trim j _ hk)) (λ_ _ h=>AnyC.weaken (d.trim j) h) (h.2 j e)⟩
def OpC.le{i:Nat}{a:Act}{C D:Cls}{K:Act->Cls->Prop}(c:C.le D)(j:∀a C D,C.le D->K a D->K a C)(h:OpC P ops b pend i a D K):OpC P ops b pend i a C K:=by
 unfold OpC at*;split;.rename_i k;simp only[k]at h;exact j _ _ _ c h
 .rename_i o k;simp only[k]at h;split;.rename_i f;simp only[f]at h;exact j _ _ _ c h
  .rename_i f;simp only[f]at h;split;.rename_i e;simp only[e]at h;obtain⟨l,mk,g,d⟩:=h;exact⟨l,mk,g,λb=>j _ _ _ (Cls.le_push c _) (d b)⟩
   .rename_i e;simp only[e]at h;obtain⟨v,g,d⟩:=h;exact⟨v,g,j _ _ _ c d⟩
   .rename_i e;simp only[e]at h;obtain⟨X,g,d⟩:=h;exact⟨X,λG w f=>g G w (c G w f),d⟩
def AnyC.le:∀{f:Nat} {pend:qc1} {c:Array Bool} {a:Act} {C D:Cls},C.le D->AnyC P ops b Q pend f c a D->AnyC P ops b Q pend f c a C
 |0,_,_,_,_,_,d,h=>⟨h.1,λG w e=>h.2 G w (d G w e)⟩
 |_+1,_,_,_,_,_,d,h=>⟨λl G w e=>h.1 l G w (d G w e),λj k=>OpC.le d (λ_ _ _ i g=>AnyC.le i g) (h.2 j k)⟩
def wpAny_of_AnyC{s:Exit->Act->Ak->Prop}(i:∀a w,Q a w->s .normal a w):∀(f:Nat) (pend:qc1) (c:Array Bool) (a:Act) (C:Cls) (G:List (Nat×Obj)) (w:Ak),C.p G w->AnyC P ops b Q pend f c a C->wpAny P .any ops s f c a w
 |0,_,_,_,_,G,w,g,h=>⟨h.1,i _ _ (h.2 G w g)⟩
 |f+1,pend,c,a,C,G,w,g,h=>⟨λx=>i _ _ (h.1 x G w g),λj u=>by
  have d:=h.2 j u;unfold OpC at d;unfold wpOp;split;.rename_i n;simp only[n]at d;exact wpAny_of_AnyC i f _ _ _ C G w g d
  .rename_i o n;simp only[n]at d;cases hwt:A0 o (yielded ops a.tmps)with
   |false=>simp only[hwt]at d;rw[yA (by simp)];exact wpAny_of_AnyC i f _ _ _ C G w g d
   |true=>
    simp only[hwt]at d;rw[yB rfl];refine .inl ?_;split at d
    .obtain⟨l,mk,k,m⟩:=d;have q:qz1 P o a w λv w'=>v=mk w.heap.size/\w'=w.alloc l:=by unfold qz1;rw[newOf_run k w];exact⟨rfl,rfl⟩
     refine q.wp λv w' ⟨p,e⟩=>?_;subst p;subst e;exact wpAny_of_AnyC i f _ _ _ _ G _ (C.new G w l g) (m w.heap.size)
    .obtain⟨v,k,m⟩:=d;have q:qz1 P o a w λt w'=>t=v/\w'=w:=by unfold qz1;rw[k w];exact⟨rfl,rfl⟩
     refine q.wp λt w' ⟨p,e⟩=>?_;subst p;subst e;exact wpAny_of_AnyC i f _ _ _ C G _ g m
    .obtain⟨X,k,m⟩:=d;refine(k G w g).wp λv w' ⟨r,y,e⟩=>?_;exact wpAny_of_AnyC i f _ _ _ r G w' e (m v r y).2⟩
def qsm{e h:A8}(c:e.apart ops h=A1)(d:∀cs b,h.op≠.select cs b)(a:Act)(v:A6)(w:Ak)(R:A6->Ak->Prop):qz1 P h (a.put e.dst v) w R=qz1 P h a w R:=by obtain⟨f,g,i⟩:=A4 c;unfold qz1;rw[execOp_put h d a e.dst v f]
def qgc{h c:A8}(d:h.apart ops c=A1)(e:∀cs b,h.op≠.select cs b)(a:Act)(v:A6)(w:Ak)(R:A6->Ak->Prop):qz1 P h (a.put c.dst v) w R=qz1 P h a w R:=by obtain⟨i,g,f⟩:=A4 d;unfold qz1;rw[execOp_put h e a c.dst v f]
def q37(ops:Array A8)(h:Array Bool):Prop:=∀j o,ops[j]?=A9 o->h.getD j Aa=A1->∀e∈o.after,Ad .any e=A1->h.getD e.on Aa=A1
def q37.set{w:Array Bool}{j:Nat}(h:q37 ops w)(l:j∈A3 .any ops w):q37 ops (w.setIfInBounds j A1):=by
 intro k o d f e g i;by_cases b:j=k
 .subst b;obtain⟨_,o',c,a⟩:=mem_ready.1 l;rw[d]at c;cases c;exact getD_set_true (a e g i)
 .rw[getD_set_ne Aa b]at f;exact getD_set_true (h k o d f e g i)
inductive qt9 (ops:Array A8):Nat->Nat->Prop
 |one {j i:Nat} {o:A8} {e:Edge} (ho:ops[j]?=A9 o) (he:e∈o.after) (hb:Ad .any e=A1) (hi:e.on=i):qt9 ops j i
 |more {j k i:Nat} {o:A8} {e:Edge} (ho:ops[j]?=A9 o) (he:e∈o.after) (hb:Ad .any e=A1) (hk:e.on=k) (h:qt9 ops k i):qt9 ops j i
def qt9.listed{w:Array Bool}(e:q37 ops w){j i:Nat}(h:qt9 ops j i):w.getD j Aa=A1->w.getD i Aa=A1:=by
 induction h with
 |one a c d hi=>intro b;subst hi;exact e _ _ a b _ c d
 |more a c d f _ g=>intro b;subst f;exact g (e _ _ a b _ c d)
def qt9.ready{w:Array Bool}(k:q37 ops w){j i:Nat}(f:j∈A3 .any ops w)(h:qt9 ops j i):w.getD i Aa=A1:=by
 obtain⟨_,o',a,b⟩:=mem_ready.1 f;cases h with
 |one c d e hi=>rw[c]at a;cases a;subst hi;exact b _ d e
 |more c d e g h=>rw[c]at a;cases a;subst g;exact h.listed k (b _ d e)
def q3k(w:List Nat)(i:Nat):∀(l:List Edge) (s:Nat),(l.foldl (λs e=>cond (Ad .any e) (s|||2 ^ e.on|||w.getD e.on 0) s) s).testBit i=A1->
 s.testBit i=A1\/∃e∈l,Ad .any e=A1/\(e.on=i\/(w.getD e.on 0).testBit i=A1)
 |[],s,h=>.inl h
 |e::l,s,h=>by
  simp only[List.foldl_cons]at h;rcases q3k w i l _ h with h|⟨e',b,c,h⟩
  .cases a:Ad .any e with
   |false=>simp only[a,cond_false]at h;exact .inl h
   |true=>
    simp only[a,cond_true,Nat.testBit_or,Bool.or_eq_true,Nat.testBit_two_pow,yJ]at h;rcases h with (h|h)|h
    .exact .inl h
    .exact .inr ⟨e,Af,a,.inl h⟩
    .exact .inr ⟨e,Af,a,.inr h⟩
  .exact .inr ⟨e',A2 _ b,c,h⟩
def qni(b:∀(k:Nat),ops.toList[k]?=ops[k]?):∀(l:List A8) (a:List Nat),(∀k,l[k]?=ops[a.length+k]?)->(∀j i,(a.getD j 0).testBit i=A1->qt9 ops j i)->
 ∀j i,((qna l a).getD j 0).testBit i=A1->qt9 ops j i
 |[],a,_,h=>h
 |o::r,a,g,h=>by
  refine qni b r _ (λk=>by have:=g (k+1);simpa [Nat.add_assoc,Nat.add_comm 1 k]using this) λj i w=>?_;rcases Nat.lt_trichotomy j a.length with d|d|d
  .refine h j i ?_;simp only[Ai]at w⊢;rwa[List.getElem?_append_left d]at w
  .subst d;have f:ops[a.length]?=A9 o:=by simpa using (g 0).symm
   simp only[Ai,List.getElem?_concat_length,Az]at w;rw[<-Array.foldl_toList]at w;rcases q3k a i _ _ w with p|⟨e,m,n,c⟩;.simp at p
   .rcases c with c|c;.exact .one f (Av.1 m) n c
    .exact .more f (Av.1 m) n rfl (h _ _ c)
  .simp only[Ai]at w;rw[List.getElem?_eq_none (by simp;omega)]at w;simp at w
def qu9(ops:Array A8)(b:List Nat):Prop:=∀j i,waits b j i=A1->qt9 ops j i
def qsc:qu9 ops (qna ops.toList []):=λj i h=>qni (λk=>by simp) ops.toList [] (λk=>by simp) (λj i h=>by simp at h) j i h
def Sil(P:A5)(ops:Array A8)(o:A8)(a:Act)(v:A6)(C:Cls):Prop:=
 match A0 o (yielded ops a.tmps)with
 |true=>match kd P o.op with
  |.pure=>∀w,(execOp a.eval o).run P w=.ok (.value v) w
  |.new=>False
  |.gen=>∀G w,C.p G w->qz1 P o a w λh w'=>h=v/\C.p G w'
 |false=>v=undef
def Sil.push{o:A8}{a:Act}{v:A6}{C:Cls}(h:Sil P ops o a v C)(x:Nat×Obj):Sil P ops o a v (C.push x):=by
 unfold Sil at*;split
 .rename_i d;simp only[d]at h;split;.rename_i b;simp only[b]at h;exact h
  .rename_i b;simp only[b]at h
  .rename_i b;simp only[b]at h;exact λG w c=>h _ w c
 .rename_i d;simp only[d]at h;exact h
def Sil_put{h d:A8}(c:h.apart ops d=A1)(e:∀cs b,h.op≠.select cs b)(a:Act)(v u:A6):Sil P ops h (a.put d.dst u) v=Sil P ops h a v:=by
 funext C;unfold Sil;rw[wanted_put h a d.dst u (A4 c).2.2,execOp_put h e a d.dst u (A4 c).2.2];have:(∀G w,C.p G w->qz1 P h (a.put d.dst u) w λf w'=>f=v/\C.p G w')=(∀G w,C.p G w->qz1 P h a w λf w'=>f=v/\C.p G w'):=by simp only[qgc c e]
 rw[this]
def OpC_put{j:Nat}{e d:A8}{v:A6}(r:ops[j]?=A9 d)(g:e.apart ops d=A1)
 (i:∀cs b,d.op≠.select cs b) {K:Act->Cls->Prop} {a:Act} {C:Cls}
 (h:OpC P ops b pend j (a.put e.dst v) C K):OpC P ops b pend j a C λt n=>K (t.put e.dst v) n:=by
 obtain⟨p,q,x⟩:=A4 g;have c:∀u,(a.put e.dst v).put d.dst u=(a.put d.dst u).put e.dst v:=λu=>Act.put_comm a v u q;unfold OpC at*;simp only[r]at*;rw[wanted_put d a e.dst v p]at h;split;.rename_i m;simp only[m]at h;rw[c]at h;exact h
 .rename_i m;simp only[m]at h;split
  .rename_i k;simp only[k]at h;obtain⟨o,mk,l,f⟩:=h;refine⟨o,mk,by rwa[newOf_put d a e.dst v p]at l,λb=>?_⟩;have:=f b;rwa[c]at this
  .rename_i k;simp only[k]at h;obtain⟨u,l,f⟩:=h;refine⟨u,by rwa[execOp_put d i a e.dst v p]at l,?_⟩;rwa[c]at f
  .rename_i k;simp only[k]at h;obtain⟨X,l,f⟩:=h;refine⟨X,λG w m=>?_,λu n s=>?_⟩;.have:=l G w m;rwa[qsm g i]at this
   .have:=f u n s;rwa[c]at this
def qn7(pend:qc1):Prop:=∀x,x∈pend->∀(C:Cls) y,x.2 C->x.2 (C.push y)
def qn7.sub{pend w:qc1}(h:qn7 pend)(a:Sub w pend):qn7 w:=λx b=>h x (a x b)
def Now(pend:qc1)(C:Cls):Prop:=∀x,x∈pend->x.2 C
def Now.sub{pend w:qc1}{C:Cls}(h:Now pend C)(a:Sub w pend):Now w C:=λx b=>h x (a x b)
def qxl{i:Nat}{h:Array Bool}(c:i∈A3 .any ops h)(w:h.getD i Aa=A1):False:=by
 have b:=(mem_ready.1 c).1;rcases Aj i h.size with a|a;.simp[a]at b w;rw[b]at w;cases w
 .simp[Ag a]at w
def OpC_sil{i:Nat}{l:A8}{v:A6}{a:Act}{C:Cls}{pend:qc1}{K:Act->Cls->Prop}(o:ops[i]?=A9 l)(c:Sil P ops l a v C)(q:Now pend C)(d:K (a.put l.dst v) C):OpC P ops b pend i a C K:=by
 unfold OpC;simp only[o];unfold Sil at c;split;.rename_i g;simp only[g]at c;subst c;exact d
 .rename_i g;simp only[g]at c;split;.rename_i f;simp only[f]at c
  .rename_i f;simp only[f]at c;exact⟨v,c,d⟩
  .rename_i f;simp only[f]at c;exact⟨λj m=>j=v/\m=C,λG w g=>(c G w g).mono λj w' ⟨e,h⟩=>⟨C,⟨e,rfl⟩,h⟩,λj m ⟨p,n⟩=>by subst p;subst n;exact⟨λk S d=>q (k,S) (Sub.of_trim _ _ _ d),d⟩⟩
structure At(P:A5)(ops:Array A8)(i:Nat)(oi:A8)(listed:Array Bool):Prop where
 op:ops[i]?=A9 oi
 closed:q37 ops listed
 free:∀j oj,ops[j]?=A9 oj->j≠i->listed.getD j A1=Aa->(∀e∈oj.after,Ad .any e=A1->e.on≠i)->oi.apart ops oj=A1
 ready:i∈A3 .any ops listed
 sel:∀(j:Nat) (o:A8) cs b,ops[j]?=A9 o->o.op≠.select cs b
def At.other{i:Nat}{s:A8}{w:Array Bool}(h:At P ops i s w)(r:qu9 ops b){j:Nat}(p:j∈A3 .any ops w)(c:¬j=i):
 ∃d,ops[j]?=A9 d/\s.apart ops d=A1/\waits b j i=Aa/\At P ops i s (w.setIfInBounds j A1)/\j∈A3 .any ops (w.setIfInBounds i A1)/\w.getD j A1=Aa:=by
 obtain⟨a,d,f,o⟩:=mem_ready.1 p;have n:∀e∈d.after,Ad .any e=A1->e.on≠i:=λe x z u=>by have v:=o e x z;rw[u]at v;exact qxl h.ready v
 refine⟨d,f,h.free j d f c a n,?_,⟨h.op,h.closed.set p,λk ok y t l q=>?_,ready_mono h.ready (Ne.symm c),h.sel⟩,ready_mono p c,a⟩
 .cases g:waits b j i with
  |false=>rfl
  |true=>exact(qxl h.ready ((r j i g).ready h.closed p)).elim
 .refine h.free k ok y t ?_ q;by_cases m:j=k;.subst m;exact a
  .rw[getD_set_ne A1 m]at l;exact l
def take_sil(M:qu9 ops b){i:Nat}{d:A8}{v:A6} :
 ∀(f:Nat) (pend:qc1) (w:Array Bool) (a:Act) (C:Cls),At P ops i d w->Sil P ops d a v C->Now pend C->qn7 pend->
  AnyC P ops b Q ((i,Sil P ops d a v)::pend) f (w.setIfInBounds i A1) (a.put d.dst v) C->AnyC P ops b Q pend (f+1) w a C:=by
 intro f;induction f with
 |zero=>
  intro pend w a C p y z s H;refine⟨λh=>(by have:=p.ready;rw[h]at this;cases this),λj N=>?_⟩;by_cases e:j=i
  .subst e;exact OpC_sil p.op y z ⟨H.1,H.2⟩
  .have:=ready_mono N e;rw[H.1]at this;cases this
 |succ f ih=>
  intro pend w a C p y z s H;refine⟨λh=>(by have:=p.ready;rw[h]at this;cases this),λj N=>?_⟩;by_cases e:j=i
  .subst e;exact OpC_sil p.op y z (AnyC.weaken (λx n=>A2 _ (Sub.of_trim _ _ x n)) H)
  .obtain⟨B,t,A,F,I,G,_⟩:=p.other M N e;have U:=H.2 j G;have m:trim b j ((i,Sil P ops d a v)::pend)=(i,Sil P ops d a v)::trim b j pend:=by simp[trim,F]
   have g:=OpC_put t A (λcs b=>p.sel j B cs b t) U;have q:∀(u:A6) (o:Cls),Sil P ops d a v o->Now (trim b j pend) o->AnyC P ops b Q (trim b j ((i,Sil P ops d a v)::pend)) f ((w.setIfInBounds i A1).setIfInBounds j A1) ((a.put B.dst u).put d.dst v) o->
    AnyC P ops b Q (trim b j pend) (f+1) (w.setIfInBounds j A1) (a.put B.dst u) o:=λu o T K r=>by
    have l:Sil P ops d (a.put B.dst u) v=Sil P ops d a v:=Sil_put A (λcs b=>p.sel i d cs b p.op) a v u;refine ih (trim b j pend) (w.setIfInBounds j A1) (a.put B.dst u) o I (by rw[l];exact T) K (s.sub (Sub.of_trim _ _)) ?_;rw[l,A7 _ _ e,<-m];exact r
   unfold OpC at g⊢;simp only[t]at g⊢;split;.rename_i J;simp only[J]at g;exact q undef C y (z.sub (Sub.of_trim _ _)) g
   .rename_i J;simp only[J]at g;split
    .rename_i D;simp only[D]at g;obtain⟨L,mk,r,E⟩:=g;exact⟨L,mk,r,λb=>q (mk b) _ (y.push _) (λx n=>(s x (Sub.of_trim _ _ x n)) _ _ (z x (Sub.of_trim _ _ x n))) (E b)⟩
    .rename_i D;simp only[D]at g;obtain⟨u,r,E⟩:=g;exact⟨u,r,q u C y (z.sub (Sub.of_trim _ _)) E⟩
    .rename_i D;simp only[D]at g;obtain⟨X,r,E⟩:=g;refine⟨X,r,λu o n=>?_⟩;obtain⟨O,R⟩:=E u o n;have c:Now (trim b j ((i,Sil P ops d a v)::pend)) o:=λx n=>O x.1 x.2 n;rw[m]at c;exact⟨λk S hk=>c (k,S) (A2 _ hk),q u o (c _ Af) (λx n=>c x (A2 _ n)) R⟩
def ql8(j k:Nat)(pend:qc1):trim b j (trim b k pend)=trim b k (trim b j pend):=by simp only[trim,List.filter_filter];congr 1;funext x;exact Bool.and_comm _ _
def AnyC.also{i:Nat}{S:Cls->Prop}(e:∀C,S C):∀{f:Nat} {pend:qc1} {w:Array Bool} {a:Act} {C:Cls},AnyC P ops b Q pend f w a C->AnyC P ops b Q ((i,S)::pend) f w a C
 |0,_,_,_,_,h=>h
 |f+1,pend,_,_,_,h=>⟨h.1,λj g=>OpC.mono (λC l k T c=>by
  have:(k,T)∈(i,S)::trim b j pend:=by
   unfold trim at c⊢;rw[Ae]at c;split at c;.exact c
   .exact A2 _ c
  rcases Ac.1 this with h|h;.cases h;exact e C
  .exact l k T h) (λa C h=>AnyC.weaken (λx d=>by
   unfold trim at d⊢;rw[Ae]at d;split at d;.exact d
   .exact A2 _ d) (AnyC.also e h)) (h.2 j g)⟩
def Alone(P:A5)(ops:Array A8)(b:List Nat)(i:Nat)(h:Array Bool):Prop:=
 ∀k ok,ops[k]?=A9 ok->k≠i->h.getD k A1=Aa->waits b k i=Aa->kd P ok.op=.new\/kd P ok.op=.pure
def Alone.set{i:Nat}{w:Array Bool}(h:Alone P ops b i w)(j:Nat):Alone P ops b i (w.setIfInBounds j A1):=λk ok f e a g=>h k ok f e (by
 by_cases c:j=k
 .subst c;rcases Aj j w.size with d|d;.simp[d]at a
  .simp[Ap,B5.2 d]at a
 .rw[getD_set_ne A1 c]at a;exact a) g
def take_new(M:qu9 ops b){i:Nat}{k:A8}(W:kd P k.op=.new){d:Obj}{mk:Nat->A6} :
 ∀(f:Nat) (pend:qc1) (w:Array Bool) (a:Act) (C:Cls),At P ops i k w->Alone P ops b i w->A0 k (yielded ops a.tmps)=A1->newOf P a.eval k.op=A9 (d,mk)->qn7 pend->
  (∀c,AnyC P ops b Q (trim b i pend) f (w.setIfInBounds i A1) (a.put k.dst (mk c)) (C.push (c,d)))->AnyC P ops b Q pend (f+1) w a C:=by
 have q:∀(f:Nat) (pend:qc1) (w:Array Bool) (a:Act) (C:Cls),At P ops i k w->A0 k (yielded ops a.tmps)=A1->newOf P a.eval k.op=A9 (d,mk)->
  (∀c,AnyC P ops b Q (trim b i pend) f (w.setIfInBounds i A1) (a.put k.dst (mk c)) (C.push (c,d)))->OpC P ops b pend i a C λV X=>AnyC P ops b Q (trim b i pend) f (w.setIfInBounds i A1) V X:=by
  intro f pend w a C l B F H;unfold OpC;simp only[l.op,B,W];exact⟨d,mk,F,H⟩
 intro f;induction f with
 |zero=>
  intro pend w a C l z B F E H;refine⟨λh=>(by have:=l.ready;rw[h]at this;cases this),λj O=>?_⟩;by_cases g:j=i;.subst g;exact q 0 pend w a C l B F H
  .have:=ready_mono O g;rw[(H 0).1]at this;cases this
 |succ f ih=>
  intro pend w a C l z B F E H;refine⟨λh=>(by have:=l.ready;rw[h]at this;cases this),λj O=>?_⟩;by_cases g:j=i;.subst g;exact q (f+1) pend w a C l B F H
  .obtain⟨o,n,A,I,K,T,L⟩:=l.other M O g;obtain⟨a1,a2,a3⟩:=A4 A;have N:∀cs b,o.op≠.select cs b:=λcs b=>l.sel j o cs b n;have Y:∀cs b,k.op≠.select cs b:=λcs b=>l.sel i k cs b l.op;have m:=λc=>OpC_put (v:=mk c) n A N ((H c).2 j T);have x:∀(u:A6) (D:Cls),(∀c,AnyC P ops b Q (trim b j (trim b i pend)) f ((w.setIfInBounds i A1).setIfInBounds j A1) ((a.put o.dst u).put k.dst (mk c)) (D.push (c,d)))->
    AnyC P ops b Q (trim b j pend) (f+1) (w.setIfInBounds j A1) (a.put o.dst u) D:=λu D r=>by
    refine ih (trim b j pend) (w.setIfInBounds j A1) (a.put o.dst u) D K (z.set j) (by rwa[wanted_put k a o.dst u a3]) (by rwa[newOf_put k a o.dst u a3]) (E.sub (Sub.of_trim _ _)) λc=>?_;rw[A7 _ _ g,ql8];exact r c
   unfold OpC at m⊢;simp only[n]at m⊢;split;.rename_i y;simp only[y]at m;exact x undef C m
   .rename_i y;simp only[y]at m;rcases z j o n g L I with t|t
    .simp only[t]at m⊢;obtain⟨p,G,r,_⟩:=m 0;refine⟨p,G,r,λs=>x (G s) _ λc=>?_⟩;obtain⟨U,Z,J,R⟩:=m c;rw[r]at J;cases J;exact AnyC.le (Cls.push_swap C (s,p) (c,d)) (R s)
    .simp only[t]at m⊢;obtain⟨u,r,_⟩:=m 0;refine⟨u,r,x u C λc=>?_⟩;obtain⟨u2,J,R⟩:=m c;have e:=(r default).symm.trans (J default);simp only[Ao,An,yM]at e;subst e;exact R
def take_eff(hwt:qu9 ops b){i:Nat}{g:A8}(hk:kd P g.op=.gen){α:Type}(Y:α){V:α->A6} :
 ∀(f:Nat) (pend:qc1) (c:Array Bool) (a:Act) (C:Cls) (D:α->Cls),At P ops i g c->Alone P ops b i c->A0 g (yielded ops a.tmps)=A1->qn7 pend->
  (∀G w,C.p G w->qz1 P g a w λv w'=>∃x,v=V x/\(D x).p G w')->(∀x,Now (trim b i pend) (D x))->
  (∀x,AnyC P ops b Q (trim b i pend) f (c.setIfInBounds i A1) (a.put g.dst (V x)) (D x))->AnyC P ops b Q pend (f+1) c a C:=by
 have r:∀(f:Nat) (pend:qc1) (c:Array Bool) (a:Act) (C:Cls) (D:α->Cls),At P ops i g c->A0 g (yielded ops a.tmps)=A1->
  (∀G w,C.p G w->qz1 P g a w λv w'=>∃x,v=V x/\(D x).p G w')->(∀x,Now (trim b i pend) (D x))->
  (∀x,AnyC P ops b Q (trim b i pend) f (c.setIfInBounds i A1) (a.put g.dst (V x)) (D x))->OpC P ops b pend i a C λa' o=>AnyC P ops b Q (trim b i pend) f (c.setIfInBounds i A1) a' o:=by
  intro f pend c a C D l N q K H;unfold OpC;simp only[l.op,N,hk];exact⟨λv o=>∃x,v=V x/\o=D x,λG w O=>(q G w O).mono λv w' ⟨x,e,h⟩=>⟨D x,⟨x,e,rfl⟩,h⟩,λv o ⟨x,e1,e2⟩=>by subst e1;subst e2;exact⟨λk S hk=>K x (k,S) hk,H x⟩⟩
 intro f;induction f with
 |zero=>
  intro pend c a C D l J N z q K H;refine⟨λh=>(by have:=l.ready;rw[h]at this;cases this),λj hj=>?_⟩;by_cases d:j=i;.subst d;exact r 0 pend c a C D l N q K H
  .have:=ready_mono hj d;rw[(H Y).1]at this;cases this
 |succ f ih=>
  intro pend c a C D l J N z q K H;refine⟨λh=>(by have:=l.ready;rw[h]at this;cases this),λj hj=>?_⟩;by_cases d:j=i;.subst d;exact r (f+1) pend c a C D l N q K H
  .obtain⟨A,p,t,T,Z,hrj,hun⟩:=l.other hwt hj d;obtain⟨a1,a2,a3⟩:=A4 t;have hsj:∀cs b,A.op≠.select cs b:=λcs b=>l.sel j A cs b p;have hsi:∀cs b,g.op≠.select cs b:=λcs b=>l.sel i g cs b l.op;have m:=λx=>OpC_put (v:=V x) p t hsj ((H x).2 j hrj);have F:∀(u:A6) (o:Cls) (L:α->Cls),(∀G w,o.p G w->qz1 P g a w λv w'=>∃x,v=V x/\(L x).p G w')->(∀x,Now (trim b i (trim b j pend)) (L x))->
    (∀x,AnyC P ops b Q (trim b j (trim b i pend)) f ((c.setIfInBounds i A1).setIfInBounds j A1) ((a.put A.dst u).put g.dst (V x)) (L x))->
    AnyC P ops b Q (trim b j pend) (f+1) (c.setIfInBounds j A1) (a.put A.dst u) o:=λu o L X hp' s=>by
    refine ih (trim b j pend) (c.setIfInBounds j A1) (a.put A.dst u) o L Z (J.set j) (by rwa[wanted_put g a A.dst u a3]) (z.sub (Sub.of_trim _ _)) (λG w O=>by rw[qgc t hsi];exact X G w O) hp' λx=>?_;rw[A7 _ _ d,ql8];exact s x
   have B:∀x,Now (trim b i (trim b j pend)) (D x):=λx y M=>by rw[ql8]at M;exact K x y (Sub.of_trim _ _ y M)
   unfold OpC at m⊢;simp only[p]at m⊢;split;.rename_i I;simp only[I]at m;exact F undef C D q B m
   .rename_i I;simp only[I]at m;rcases J j A p d hun T with E|E
    .simp only[E]at m⊢;obtain⟨n,R,s,_⟩:=m Y;refine⟨n,R,s,λW=>F (R W) (C.push (W,n)) (λx=>(D x).push (W,n)) (λG w O=>q _ w O) (λx y M=>(z y (Sub.of_trim _ _ y (Sub.of_trim _ _ y M))) _ _ (B x y M)) λx=>?_⟩;obtain⟨obj2,mk2,U,h6⟩:=m x;rw[s]at U;cases U;exact h6 W
    .simp only[E]at m⊢;obtain⟨u,s,_⟩:=m Y;refine⟨u,s,F u C D q B λx=>?_⟩;obtain⟨u2,U,h6⟩:=m x;have e:=(s default).symm.trans (U default);simp only[Ao,An,yM]at e;subst e;exact h6
end
def q69(ops:Array A8)(j:Nat):Option Nat:=match ops[j]? with|some o=>o.dst|none=>Ar
def qr2{x y:List Nat}{t:Nat}(h:q83 (x++y) t=Aa):q83 x t=Aa:=by rw[q87,Aw]at h;exact h.1
def qyc{x y:List Nat}{t:Nat}(h:q83 (x++y) t=Aa):q83 y t=Aa:=by rw[q87,Aw]at h;exact h.2
def qn8{n:Nat}{e:Env}{a:Act}{s:Nat}{b:Bool}(d:q71 dfr n e a)(h:q23 e s=A9 (.bool b))(c:Bool)(f:b=c):q71 dfr n ((s,.bool c)::e) a:=
 ⟨d.defers,d.size,λt v w=>by
  simp only[q23]at w;cases hb:As s t with
  |true=>simp only[hb,cond_true,Option.some.injEq]at w;have:=Ah hb;subst this;subst w;subst f;exact d.val _ _ h
  |false=>simp only[hb,cond_false]at w;exact d.val t v w⟩
def qse{n:Nat}{e:Env}{a:Act}{ops:Array A8}{j s:Nat}{b:Bool}(f:q71 dfr n e a)(c:q69 ops j=A9 s)(h:q23 e s=A9 (.bool b)):yielded ops a.tmps j=A9 b:=by
 have w:=f.val _ _ h;unfold q69 at c;split at c
 .rename_i o g;unfold yielded;have d:s<a.tmps.size:=by
   rcases Aj s a.tmps.size with h|h;.exact h
   .rw[Ab,Ag h]at w;simp[undef]at w
  have i:a.tmps[s]?=A9 (.bool b):=by rw[Ab]at w;rw[Am d]at w⊢;simpa using w
  simp[g,c,i]
 .cases c
def q72(d:Option Nat)(e:Env):Env:=match d with|none=>e|some d=>(d,undef)::e
def qle{n:Nat}{e:Env}{a:Act}{d:Option Nat}(c:q71 dfr n e a):q71 dfr n (q72 d e) (a.put d undef)/\qp2 d.toList a (a.put d undef):=by
 have f:qp2 d.toList a (a.put d undef):=by
  cases d with
  |none=>exact z16 _ _
  |some d=>
   intro t w;rcases Aj d a.tmps.size with b|b
   .rw[qge a d _ t b];simp only[B7,q83]at w;rw[yA (λe=>by subst e;simp at w)]
   .simp[Act.put,Ap,B5.2 b]
 refine⟨⟨(Act.put_defers' ..).trans c.defers,(Act.put_size ..).trans c.size,λt v w=>?_⟩,f⟩;cases d with
 |none=>exact c.val t v w
 |some d=>
  simp only[q72,q23]at w;cases h:As d t with
  |true=>
   have g:=Ah h;subst g;simp only[h,cond_true,Option.some.injEq]at w;subst w;rcases Aj d a.tmps.size with b|b;.rw[qge a d undef d b,yB rfl]
   .rw[Ab,Ag (by rw[Act.put_size];exact b)];rfl
  |false=>simp only[h,cond_false]at w;rw[f t (by simp only[B7,q83,h];rfl)];exact c.val t v w
def qka{n:Nat}{e:Env}{a:Act}{ops:Array A8}{j s:Nat}{f:Array A6}(c:q71 dfr n e a)(w:q69 ops j=A9 s)(h:q23 e s=A9 (.tuple f)):yielded ops a.tmps j=Ar:=by
 have b:=c.val _ _ h;unfold q69 at w;split at w
 .rename_i o d;unfold yielded;simp only[d,Option.bind_some,w];rcases Aj s a.tmps.size with h|h
  .rw[Ab,Am h]at b;simp only[Az]at b;rw[Am h,b]
  .rw[Ag h]
 .cases w
def exR:List Ty->(A6->Prop)->Prop
 |[t],F=>exT t F
 |l,F=>qta l λh=>F (.tuple h.toArray)
def qbm{l:List Ty}{F:A6->Prop}(h:exR l F):∃v,F v:=by
 unfold exR at h;split at h;.obtain⟨v,_,h⟩:=qzb h;exact⟨v,h⟩
 .obtain⟨v,_,h⟩:=qaf h;exact⟨_,h⟩
def qo5:qc1->Cls->Prop
 |[],_=>True
 |[(_,S)],C=>S C
 |(_,S)::r,C=>S C/\qo5 r C
def qda:∀{p:qc1} {C:Cls},qo5 p C->Now p C
 |[],_,_=>λx w=>by cases w
 |[(i,S)],C,h=>λx w=>by rcases Ac.1 w with rfl|w;exact h;cases w
 |(i,S)::y::r,C,h=>λx w=>by
  rcases Ac.1 w with rfl|w;.exact h.1
  .exact qda h.2 x w
def Qt(C:Cls)(v:A6)(F:Ak->(A6->Ak->Prop)->Prop):Prop:=∀G w,C.p G w->F w λh w'=>h=v/\C.p G w'
def Ef(C:Cls)(F:Ak->(A6->Ak->Prop)->Prop)(K:A6->Cls->Prop):Prop:=
 ∃(α:Type) (_:α) (V:α->A6) (D:α->Cls),(∀G w,C.p G w->F w λv w'=>∃x,v=V x/\(D x).p G w')/\∀x,K (V x) (D x)
def alB(P:A5)(ops:Array A8)(b:List Nat)(i:Nat)(h:Array Bool):Bool:=
 (Be ops.size).all λk=>As k i||h.getD k A1||waits b k i||match ops[k]? with
  |some ok=>(match kd P ok.op with|.gen=>Aa|_=>A1)
  |none=>A1
def alB_sound{P:A5}{ops:Array A8}{b:List Nat}{i:Nat}{w:Array Bool}(h:alB P ops b i w=A1):Alone P ops b i w:=by
 intro k ok j g e l;simp only[alB,B0,B6]at h;have c:=h k (Aq.1 j).1;have f:As k i=Aa:=by
  cases f:As k i with
  |false=>rfl
  |true=>exact(g (Ah f)).elim
 simp only[f,e,l,j,B9]at c;split at c;.cases c
 .rename_i a;cases d:kd P ok.op with
  |new=>exact .inl rfl
  |pure=>exact .inr rfl
  |gen=>exact(a d).elim
def newE(P:A5)(o:A8)(e:Env)(F:Obj->(Nat->A6)->Prop):Prop:=
 match o.op with
 |.alloc t=>qc7 P t λz=>F (.cells z.cells t) λb=>.pointer (A9 ⟨b,0,Ar⟩)
 |.box t x=>q11 e x λv=>F (.cells v.cells t) λb=>.pointer (A9 ⟨b,0,Ar⟩)
 |.buildSlice t len parts=>q86 e parts.toList λh=>match P.underlying t with
  |some (.slice el)=>match P.info? el with
   |some i=>match i.zero,Nat.ble (len*i.size) 4096 with
    |some z,A1=>match Instr.fill (λj=>A9 (j*i.size,i.size)) ((Bb (len*i.size)).map (z.cells[· %z.cells.size]!)) h with
     |some cells=>F (.cells cells el) λb=>.slice (A9 ⟨b,0,Ar⟩) len len
     |none=>False
    |_,_=>False
   |none=>False
  |_=>False
 |.makeMap _ Ar=>F (.map #[] 0) λb=>.map (A9 b)
 |_=>False
def newE_sound{P:A5}{n:Nat}{o:A8}{e:Env}{F:Obj->(Nat->A6)->Prop}{a:Act}(h:newE P o e F)(j:q71 dfr n e a):∃b mk,newOf P a.eval o.op=A9 (b,mk)/\F b mk:=by
 unfold newE at h;split at h
 .rename_i t w;unfold qc7 at h;split at h
  .rename_i i f;split at h
   .rename_i z g;exact⟨_,_,by simp[newOf,w,f,g],h⟩
   .exact h.elim
  .exact h.elim
 .rename_i t x w;exact⟨_,_,by simp[newOf,w],ql h j⟩
 .rename_i t len d w;have h:=qr9 j _ _ h;split at h
  .rename_i p k;split at h
   .rename_i i f;split at h
    .rename_i z g m;split at h
     .rename_i c l;exact⟨_,_,by simp only[newOf,w,k,f,g,m,l],h⟩
     .exact h.elim
    .exact h.elim
   .exact h.elim
  .exact h.elim
 .rename_i t w;exact⟨_,_,by simp[newOf,w],h⟩
 .exact h.elim
def stepC(P:A5)(n:Nat)(ops:Array A8)(b:List Nat)(i:Nat)(a:Bool)(o:A8)(h:Array Bool)(pend:qc1)(C:Cls)(next:qc1->Env->Cls->Prop)(e:Env):Prop:=
 match kd P o.op with
 |.pure=>opP P o e λv=>qc2 n o.dst v e λe'=>next pend e' C
 |.new=>match alB P ops b i h with
  |true=>newE P o e λw mk=>∀c:Nat,qc2 n o.dst (mk c) e λe'=>next (trim b i pend) e' (C.push (c,w))
  |false=>False
 |.gen=>match qn4 P o with
  |some l=>match a with
   |false=>exR l λv=>Qt C v (opW P o e)/\qc2 n o.dst v e λe'=>next ((i,λC=>Qt C v (opW P o e))::pend) e' C
   |true=>match alB P ops b i h with
    |true=>Ef C (opW P o e) λv D=>asR l v λv=>qo5 (trim b i pend) D/\qc2 n o.dst v e λe'=>next (trim b i pend) e' D
    |false=>False
  |none=>False
def drawC(P:A5)(n:Nat)(ops:Array A8)(b:List Nat)(K:Env->Ak->Prop):List (Nat×Bool)->Array Bool->qc1->Env->Cls->Prop
 |[],h,_,e,C=>match A3 .any ops h with
  |[]=>∀G w,C.p G w->K e w
  |_=>False
 |(i,c)::r,h,pend,e,C=>
  match ops[i]?,(A3 .any ops h).contains i&&Bc .any ops h i with
  |some o,A1=>
   match o.guard with
   |none=>stepC P n ops b i c o h pend C (drawC P n ops b K r (h.setIfInBounds i A1)) e
   |some (j,a)=>match q69 ops j with
    |none=>False
    |some s=>match q23 e s with
     |some (.bool t)=>Bif t
      (match a with
       |true=>stepC P n ops b i c o h pend C (drawC P n ops b K r (h.setIfInBounds i A1)) ((s,.bool A1)::e)
       |false=>drawC P n ops b K r (h.setIfInBounds i A1) pend (q72 o.dst ((s,.bool A1)::e)) C)
      (match a with
       |false=>stepC P n ops b i c o h pend C (drawC P n ops b K r (h.setIfInBounds i A1)) ((s,.bool Aa)::e)
       |true=>drawC P n ops b K r (h.setIfInBounds i A1) pend (q72 o.dst ((s,.bool Aa)::e)) C)
     |some (.tuple _)=>drawC P n ops b K r (h.setIfInBounds i A1) pend (q72 o.dst e) C
     |_=>False
  |_,_=>False
def PR:qc1->qc1->Prop
 |[],[]=>True
 |(i,S)::r,(j,T)::q=>i=j/\(∀C,S C->T C)/\PR r q
 |_,_=>False
def PR.trim(b:List Nat)(j:Nat):∀{p q:qc1},PR p q->PR (Go.Proofs.YtfjifcfbmhpcaaaGreatDoor.trim b j p) (Go.Proofs.YtfjifcfbmhpcaaaGreatDoor.trim b j q)
 |[],[],_=>trivial
 |(i,S)::r,(k,T)::q,h=>by
  obtain⟨d,c,a⟩:=h;subst d;have w:=PR.trim b j a;unfold Go.Proofs.YtfjifcfbmhpcaaaGreatDoor.trim at w⊢;rw[Ae,Ae];cases waits b j i;.exact⟨rfl,c,w⟩
  .exact w
 |[],_::_,h=>h.elim
 |_::_,[],h=>h.elim
def PR.now:∀{p q:qc1} {C:Cls},PR p q->Now p C->Now q C
 |[],[],_,_,_=>λx w=>by cases w
 |(i,S)::r,(k,T)::q,C,h,a=>λx w=>by
  obtain⟨e,b,d⟩:=h;rcases Ac.1 w with rfl|w;.exact b C (a (i,S) Af)
  .exact PR.now d (λy c=>a y (A2 _ c)) x w
 |[],_::_,_,h,_=>h.elim
 |_::_,[],_,h,_=>h.elim
def drawC_sound{P:A5}{n:Nat}{ops:Array A8}{b:List Nat}{K:Env->Ak->Prop}{Q:Act->Ak->Prop}(F:qu9 ops b)(U:B4 ops=A1)(ws:List Nat)(a0:Act)
 (hws:∀(i:Nat) (o:A8),ops[i]?=A9 o->∀t,q83 ws t=Aa->q83 o.dst.toList t=Aa)
 (hK:∀e a w,K e w->q71 dfr n e a->qp2 ws a0 a->Q a w):
 ∀(r:List (Nat×Bool)) (m:Nat) (c:Array Bool) (X pend:qc1) (e:Env) (C:Cls) (a:Act),drawC P n ops b K r c X e C->q71 dfr n e a->qp2 ws a0 a->q37 ops c->PR X pend->Now pend C->qn7 pend->
  AnyC P ops b Q pend (r.length+m) c a C
 |[],m,c,X,pend,e,C,a,h,N,hk,h0,q,T,g=>by
  unfold drawC at h;split at h
  .rename_i hr;cases m with
   |zero=>exact⟨hr,λG w L=>hK e a w (h G w L) N hk⟩
   |succ m=>exact⟨λ_ G w L=>hK e a w (h G w L) N hk,λj hj=>by rw[hr]at hj;cases hj⟩
  .exact h.elim
 |(i,eff)::r,m,c,X,pend,e,C,a,h,N,hk,h0,q,T,g=>by
  have ih:=drawC_sound (P:=P) F U ws a0 hws hK r m;unfold drawC at h;split at h
  .rename_i o ho I;simp only[B1]at I;have B:i∈A3 .any ops c:=by simpa using I.1
   have hA:At P ops i o c:=⟨ho,h0,B2 ho I.2,B,Ax U⟩;have z:q37 ops (c.setIfInBounds i A1):=h0.set B;have u:∀v,qp2 o.dst.toList a (a.put o.dst v)->qp2 ws a0 (a.put o.dst v):=λv hkv t ht=>(hkv t (hws i o ho t ht)).trans (hk t ht);have lenE:(Bd ((i,eff)::r)+m)=(r.length+m)+1:=by simp;omega
   rw[lenE]
   -- passed over
   have skip:∀R,q71 dfr n R a->A0 o (yielded ops a.tmps)=Aa->drawC P n ops b K r (c.setIfInBounds i A1) X (q72 o.dst R) C->AnyC P ops b Q pend (r.length+m+1) c a C:=by
    intro R f L A;obtain⟨p,k⟩:=qle (d:=o.dst) f;have O:∀D,Sil P ops o a undef D:=λD=>by unfold Sil;rw[L]
    exact take_sil F (v:=undef) _ pend c a C hA (O C) T g (AnyC.also O (ih _ X pend _ C _ A p (u _ k) z q T g))
   -- carried out
   have go:∀R,q71 dfr n R a->A0 o (yielded ops a.tmps)=A1->stepC P n ops b i eff o c X C (drawC P n ops b K r (c.setIfInBounds i A1)) R->AnyC P ops b Q pend (r.length+m+1) c a C:=by
    intro R f L A;unfold stepC at A;split at A
    .rename_i E;obtain⟨v,M,hv⟩:=q7c A f;obtain⟨Z,Y,p,k⟩:=qn3 M f;have O:∀D,Sil P ops o a v D:=λD=>by unfold Sil;rw[L];simp only[E];exact hv
     exact take_sil F _ pend c a C hA (O C) T g (AnyC.also O (ih _ X pend Z C _ Y p (u _ k) z q T g))
    .rename_i E;split at A
     .rename_i h4;obtain⟨obj,mk,hnew,M⟩:=newE_sound A f;refine take_new F E _ pend c a C hA (alB_sound h4) L hnew g λbl=>?_;obtain⟨Z,Y,p,k⟩:=qn3 (M bl) f;exact ih _ _ _ Z _ _ Y p (u _ k) z (q.trim b i) (λx J=>g x (Sub.of_trim _ _ x J) _ _ (T x (Sub.of_trim _ _ x J))) (g.sub (Sub.of_trim _ _))
     .exact A.elim
    .rename_i E;split at A;case h_2=>exact A.elim
     rename_i l hres;split at A
     .obtain⟨v,hq,M⟩:=qbm A;obtain⟨Z,Y,p,k⟩:=qn3 M f;have O:∀D,Qt D v (opW P o R)->Sil P ops o a v D:=λD hq=>by unfold Sil;rw[L];simp only[E];exact λG w H=>qq9 (hq G w H) f
      exact take_sil F _ pend c a C hA (O C hq) T g (ih _ _ _ Z C _ Y p (u _ k) z (by exact⟨rfl,O,q⟩) (λx J=>by
       rcases Ac.1 J with rfl|J;.exact O C hq
       .exact T x J) (λx J D y=>by
       rcases Ac.1 J with rfl|J;.exact λh=>Sil.push h y
       .exact g x J D y))
     .split at A;case h_2=>exact A.elim
      rename_i h4;obtain⟨α,x0,V,D,hd,M⟩:=A;refine take_eff F E x0 _ pend c a C D hA (alB_sound h4) L g (λG w H=>qq9 (hd G w H) f) (λx=>(q.trim b i).now (qda (q34 (M x)).1)) λx=>?_;obtain⟨Z,Y,p,k⟩:=qn3 (q34 (M x)).2 f;exact ih _ _ _ Z _ _ Y p (u _ k) z (q.trim b i) ((q.trim b i).now (qda (q34 (M x)).1)) (g.sub (Sub.of_trim _ _))
   split at h
   .rename_i H;exact go e N (by simp[A0,H]) h
   .rename_i j W H;split at h;.exact h.elim
    .rename_i s hs;split at h
     .rename_i t hb;have hy:=qse N hs hb;cases t with
      |true=>
       have f:=qn8 N hb A1 rfl;simp only[Bif]at h;cases W with
       |true=>exact go _ f (by simp[A0,H,hy]) h
       |false=>exact skip _ f (by simp[A0,H,hy]) h
      |false=>
       have f:=qn8 N hb Aa rfl;simp only[Bif]at h;cases W with
       |false=>exact go _ f (by simp[A0,H,hy]) h
       |true=>exact skip _ f (by simp[A0,H,hy]) h
     .rename_i us hb;have hy:=qka N hs hb;exact skip _ N (by simp[A0,H,hy]) h
     .exact h.elim
  .exact h.elim
def zq:=@Sub.of_trim
def z1b:=@AnyC.weaken
end
section
namespace Two
variable{dfr:List Deferred}
open Go Go.Proofs.YtfjifcfbmhpcaaaGreatDoor
def strB8(P:A5)(s d:TypeId):Option TypeId:=
 match P.underlying s,P.underlying d with
 |some .string,A9 (.slice e)=>match P.underlying e with
  |some (.int .u8)=>A9 e
  |_=>Ar
 |_,_=>Ar
def kd(P:A5):Op->Kd3
 |.convert s d _=>match qs4 P s d with
  |true=>match strB8 P s d with|some _=>.new|none=>.gen
  |false=>.pure
 |o=>Go.Proofs.YtfjifcfbmhpcaaaGreatDoor.kd P o
abbrev Mk:=(Nat->Obj)×(Nat->Nat->A6)
def rowB(y:ByteArray)(e:TypeId):Mk:=(λk=>.cells (bytesRow y (y.size+k)) e ((bytesRow y (y.size+k)).size,(bytesRow y (y.size+k)).size+1),λk b=>.slice (A9 ⟨b,0,Ar⟩) y.size (y.size+k))
def newOf(P:A5)(ρ:Ba->A6):Op->Option Mk
 |.convert s d x=>match strB8 P s d,ρ x with
  |some e,.string y=>A9 (rowB y e)
  |_,_=>Ar
 |o=>match Go.Proofs.YtfjifcfbmhpcaaaGreatDoor.newOf P ρ o with
  |some (h,mk)=>A9 (λ_=>h,λ_=>mk)
  |none=>Ar
def newOf_run{P:A5}{o:A8}{a:Act}{m:Mk}(h:newOf P a.eval o.op=A9 m)(w:Ak):∃k w1,(w1=w\/w1=w.drew)/\(execOp a.eval o).run P w=.ok (.value (m.2 k w1.heap.size)) (w1.alloc (m.1 k)):=by
 unfold newOf at h;split at h
 .rename_i s d x c;split at h
  .rename_i e y b f;cases h;unfold strB8 at b;split at b
   .rename_i e' n j;split at b
    .rename_i i;cases b;have p:=run_bytes_of_string (P:=P) w s d e y n j i;have g:y.size<=grownCap w y.size 0 e:=grownCap_ge _ _ _ _;refine⟨grownCap w y.size 0 e - y.size,w.drew,.inr rfl,?_⟩;simp only[execOp,c,f,Sem.run_bind,p,rowB];rw[show y.size+(grownCap w y.size 0 e - y.size)=grownCap w y.size 0 e by omega];rfl
    .cases b
   .cases b
  .cases h
 .split at h
  .rename_i l mk hn;cases h;exact⟨0,w,.inl rfl,Go.Proofs.YtfjifcfbmhpcaaaGreatDoor.newOf_run hn w⟩
  .cases h
def newOf_congr{P:A5}{ρ w:Ba->A6}(o:Op)(h:∀x∈o.operands,ρ x=w x):newOf P ρ o=newOf P w o:=by
 cases o with
 |convert s d x=>simp only[newOf];rw[h x (by simp[Op.operands])]
 |_=>simp only[newOf];rw[Go.Proofs.YtfjifcfbmhpcaaaGreatDoor.newOf_congr _ h]
def newOf_put{P:A5}{ops:Array A8}(o:A8)(a:Act)(w:Option Tmp)(v:A6)(h:∀d,w=A9 d->d∉o.looksAt ops):newOf P (a.put w v).eval o.op=newOf P a.eval o.op:=
 newOf_congr o.op λx c=>Act.eval_put λd e b=>h d e (by subst b;exact Au _ (Ay.2 ⟨.tmp d,by simpa using c,rfl⟩))
section
variable(P:Program)(ops:Array Oper)(b:List Nat)
def OpC(pend:qc1)(i:Nat)(a:Act)(C:Cls)(K:Act->Cls->Prop):Prop:=
 match ops[i]? with
 |none=>K a C
 |some o=>match A0 o (yielded ops a.tmps)with
  |false=>K (a.put o.dst undef) C
  |true=>match kd P o.op with
   |.new=>∃m:Mk,newOf P a.eval o.op=A9 m/\∀k b,K (a.put o.dst (m.2 k b)) (C.push (b,m.1 k))
   |.pure=>∃v,(∀w,(execOp a.eval o).run P w=.ok (.value v) w)/\K (a.put o.dst v) C
   |.gen=>∃X:A6->Cls->Prop,(∀G w,C.p G w->qz1 P o a w λv w'=>∃h,X v h/\h.p G w')/\∀v h,X v h->qbd b pend i h/\K (a.put o.dst v) h
def AnyC(Q:Act->Ak->Prop)(pend:qc1):Nat->Array Bool->Act->Cls->Prop
 |0,h,a,C=>A3 .any ops h=[]/\∀G w,C.p G w->Q a w
 |f+1,h,a,C=>(A3 .any ops h=[]->∀G w,C.p G w->Q a w)/\
  ∀j∈A3 .any ops h,OpC P ops b pend j a C λd c=>AnyC Q (trim b j pend) f (h.setIfInBounds j A1) d c
end
section
variable{P:Program}{ops:Array Oper}{b:List Nat}{Q:Act->World->Prop}{pend:qc1}
def OpC.mono{i:Nat}{a:Act}{C:Cls}{c:qc1}{K n:Act->Cls->Prop}(q:∀C,qbd b pend i C->qbd b c i C)(h:∀a C,K a C->n a C)(w:OpC P ops b pend i a C K):OpC P ops b c i a C n:=by
 unfold OpC at*;split;.rename_i g;simp only[g]at w;exact h _ _ w
 .rename_i o g;simp only[g]at w;split;.rename_i j;simp only[j]at w;exact h _ _ w
  .rename_i j;simp only[j]at w;split;.rename_i e;simp only[e]at w;obtain⟨m,f,d⟩:=w;exact⟨m,f,λk b=>h _ _ (d k b)⟩
   .rename_i e;simp only[e]at w;obtain⟨v,f,d⟩:=w;exact⟨v,f,h _ _ d⟩
   .rename_i e;simp only[e]at w;obtain⟨X,f,d⟩:=w;exact⟨X,f,λv l p=>⟨q _ (d v l p).1,h _ _ (d v l p).2⟩⟩
def z1b:∀{f:Nat} {pend c:qc1} {w:Array Bool} {a:Act} {C:Cls},Sub c pend->AnyC P ops b Q pend f w a C->AnyC P ops b Q c f w a C
 |0,_,_,_,_,_,_,h=>h
 |_+1,_,_,_,_,_,d,h=>⟨h.1,λj e=>OpC.mono (λC g k S hk=>g k S (d.trim j _ hk)) (λ_ _ h=>z1b (d.trim j) h) (h.2 j e)⟩
def OpC.le{i:Nat}{a:Act}{C D:Cls}{K:Act->Cls->Prop}(c:C.le D)(j:∀a C D,C.le D->K a D->K a C)(h:OpC P ops b pend i a D K):OpC P ops b pend i a C K:=by
 unfold OpC at*;split;.rename_i l;simp only[l]at h;exact j _ _ _ c h
 .rename_i o l;simp only[l]at h;split;.rename_i f;simp only[f]at h;exact j _ _ _ c h
  .rename_i f;simp only[f]at h;split;.rename_i e;simp only[e]at h;obtain⟨m,g,d⟩:=h;exact⟨m,g,λk b=>j _ _ _ (Cls.le_push c _) (d k b)⟩
   .rename_i e;simp only[e]at h;obtain⟨v,g,d⟩:=h;exact⟨v,g,j _ _ _ c d⟩
   .rename_i e;simp only[e]at h;obtain⟨X,g,d⟩:=h;exact⟨X,λG w f=>g G w (c G w f),d⟩
def AnyC.le:∀{f:Nat} {pend:qc1} {c:Array Bool} {a:Act} {C D:Cls},C.le D->AnyC P ops b Q pend f c a D->AnyC P ops b Q pend f c a C
 |0,_,_,_,_,_,d,h=>⟨h.1,λG w e=>h.2 G w (d G w e)⟩
 |_+1,_,_,_,_,_,d,h=>⟨λl G w e=>h.1 l G w (d G w e),λj k=>OpC.le d (λ_ _ _ i g=>AnyC.le i g) (h.2 j k)⟩
def wpAny_of_AnyC{u:Exit->Act->Ak->Prop}(i:∀a w,Q a w->u .normal a w):∀(f:Nat) (pend:qc1) (c:Array Bool) (a:Act) (C:Cls) (G:List (Nat×Obj)) (w:Ak),C.p G w->AnyC P ops b Q pend f c a C->wpAny P .any ops u f c a w
 |0,_,_,_,_,G,w,g,h=>⟨h.1,i _ _ (h.2 G w g)⟩
 |f+1,pend,c,a,C,G,w,g,h=>⟨λA=>i _ _ (h.1 A G w g),λj B=>by
  have d:=h.2 j B;unfold OpC at d;unfold wpOp;split;.rename_i q;simp only[q]at d;exact wpAny_of_AnyC i f _ _ _ C G w g d
  .rename_i o q;simp only[q]at d;cases hwt:A0 o (yielded ops a.tmps)with
   |false=>simp only[hwt]at d;rw[yA (by simp)];exact wpAny_of_AnyC i f _ _ _ C G w g d
   |true=>
    simp only[hwt]at d;rw[yB rfl];refine .inl ?_;split at d
    .obtain⟨m,l,n⟩:=d;obtain⟨k,w1,r,z⟩:=newOf_run l w;have p:qz1 P o a w λv w'=>v=m.2 k w1.heap.size/\w'=w1.alloc (m.1 k):=by unfold qz1;rw[z];exact⟨rfl,rfl⟩
     have D:C.p G w1:=by rcases r with rfl|rfl;exact g;exact C.drew _ _ g
     refine p.wp λv w' ⟨s,e⟩=>?_;subst s;subst e;exact wpAny_of_AnyC i f _ _ _ _ G _ (C.new G w1 (m.1 k) D) (n k w1.heap.size)
    .obtain⟨v,l,n⟩:=d;have p:qz1 P o a w λx w'=>x=v/\w'=w:=by unfold qz1;rw[l w];exact⟨rfl,rfl⟩
     refine p.wp λx w' ⟨s,e⟩=>?_;subst s;subst e;exact wpAny_of_AnyC i f _ _ _ C G _ g n
    .obtain⟨X,l,n⟩:=d;refine(l G w g).wp λv w' ⟨t,y,e⟩=>?_;exact wpAny_of_AnyC i f _ _ _ t G w' e (n v t y).2⟩
def Sil(P:A5)(ops:Array A8)(o:A8)(a:Act)(v:A6)(C:Cls):Prop:=
 match A0 o (yielded ops a.tmps)with
 |true=>match kd P o.op with
  |.pure=>∀w,(execOp a.eval o).run P w=.ok (.value v) w
  |.new=>False
  |.gen=>∀G w,C.p G w->qz1 P o a w λh w'=>h=v/\C.p G w'
 |false=>v=undef
def Sil.push{o:A8}{a:Act}{v:A6}{C:Cls}(h:Sil P ops o a v C)(x:Nat×Obj):Sil P ops o a v (C.push x):=by
 unfold Sil at*;split
 .rename_i d;simp only[d]at h;split;.rename_i b;simp only[b]at h;exact h
  .rename_i b;simp only[b]at h
  .rename_i b;simp only[b]at h;exact λG w c=>h _ w c
 .rename_i d;simp only[d]at h;exact h
def Sil_put{h d:A8}(c:h.apart ops d=A1)(e:∀cs b,h.op≠.select cs b)(a:Act)(v u:A6):Sil P ops h (a.put d.dst u) v=Sil P ops h a v:=by
 funext C;unfold Sil;rw[wanted_put h a d.dst u (A4 c).2.2,execOp_put h e a d.dst u (A4 c).2.2];have:(∀G w,C.p G w->qz1 P h (a.put d.dst u) w λf w'=>f=v/\C.p G w')=(∀G w,C.p G w->qz1 P h a w λf w'=>f=v/\C.p G w'):=by simp only[qgc c e]
 rw[this]
def OpC_put{j:Nat}{e d:A8}{v:A6}(s:ops[j]?=A9 d)(g:e.apart ops d=A1)
 (i:∀cs b,d.op≠.select cs b) {K:Act->Cls->Prop} {a:Act} {C:Cls}
 (h:OpC P ops b pend j (a.put e.dst v) C K):OpC P ops b pend j a C λx p=>K (x.put e.dst v) p:=by
 obtain⟨q,r,y⟩:=A4 g;have c:∀u,(a.put e.dst v).put d.dst u=(a.put d.dst u).put e.dst v:=λu=>Act.put_comm a v u r;unfold OpC at*;simp only[s]at*;rw[wanted_put d a e.dst v q]at h;split;.rename_i o;simp only[o]at h;rw[c]at h;exact h
 .rename_i o;simp only[o]at h;split
  .rename_i l;simp only[l]at h;obtain⟨m,n,f⟩:=h;refine⟨m,by rwa[newOf_put d a e.dst v q]at n,λk b=>?_⟩;have:=f k b;rwa[c]at this
  .rename_i l;simp only[l]at h;obtain⟨u,n,f⟩:=h;refine⟨u,by rwa[execOp_put d i a e.dst v q]at n,?_⟩;rwa[c]at f
  .rename_i l;simp only[l]at h;obtain⟨X,n,f⟩:=h;refine⟨X,λG w o=>?_,λu p t=>?_⟩;.have:=n G w o;rwa[qsm g i]at this
   .have:=f u p t;rwa[c]at this
def OpC_sil{i:Nat}{l:A8}{v:A6}{a:Act}{C:Cls}{pend:qc1}{K:Act->Cls->Prop}(o:ops[i]?=A9 l)(c:Sil P ops l a v C)(q:Now pend C)(d:K (a.put l.dst v) C):OpC P ops b pend i a C K:=by
 unfold OpC;simp only[o];unfold Sil at c;split;.rename_i g;simp only[g]at c;subst c;exact d
 .rename_i g;simp only[g]at c;split;.rename_i f;simp only[f]at c
  .rename_i f;simp only[f]at c;exact⟨v,c,d⟩
  .rename_i f;simp only[f]at c;exact⟨λj m=>j=v/\m=C,λG w g=>(c G w g).mono λj w' ⟨e,h⟩=>⟨C,⟨e,rfl⟩,h⟩,λj m ⟨p,n⟩=>by subst p;subst n;exact⟨λk S d=>q (k,S) (zq _ _ _ d),d⟩⟩
def take_sil(M:qu9 ops b){i:Nat}{d:A8}{v:A6} :
 ∀(f:Nat) (pend:qc1) (w:Array Bool) (a:Act) (C:Cls),At P ops i d w->Sil P ops d a v C->Now pend C->qn7 pend->
  AnyC P ops b Q ((i,Sil P ops d a v)::pend) f (w.setIfInBounds i A1) (a.put d.dst v) C->AnyC P ops b Q pend (f+1) w a C:=by
 intro f;induction f with
 |zero=>
  intro pend w a C q z A t H;refine⟨λh=>(by have:=q.ready;rw[h]at this;cases this),λj N=>?_⟩;by_cases e:j=i
  .subst e;exact OpC_sil q.op z A ⟨H.1,H.2⟩
  .have:=ready_mono N e;rw[H.1]at this;cases this
 |succ f ih=>
  intro pend w a C q z A t H;refine⟨λh=>(by have:=q.ready;rw[h]at this;cases this),λj N=>?_⟩;by_cases e:j=i
  .subst e;exact OpC_sil q.op z A (z1b (λx o=>A2 _ (zq _ _ x o)) H)
  .obtain⟨D,y,B,G,J,I,_⟩:=q.other M N e;have U:=H.2 j I;have n:trim b j ((i,Sil P ops d a v)::pend)=(i,Sil P ops d a v)::trim b j pend:=by simp[trim,G]
   have g:=OpC_put y B (λcs b=>q.sel j D cs b y) U;have r:∀(u:A6) (p:Cls),Sil P ops d a v p->Now (trim b j pend) p->AnyC P ops b Q (trim b j ((i,Sil P ops d a v)::pend)) f ((w.setIfInBounds i A1).setIfInBounds j A1) ((a.put D.dst u).put d.dst v) p->
    AnyC P ops b Q (trim b j pend) (f+1) (w.setIfInBounds j A1) (a.put D.dst u) p:=λu p T L s=>by
    have l:Sil P ops d (a.put D.dst u) v=Sil P ops d a v:=Sil_put B (λcs b=>q.sel i d cs b q.op) a v u;refine ih (trim b j pend) (w.setIfInBounds j A1) (a.put D.dst u) p J (by rw[l];exact T) L (t.sub (zq _ _)) ?_;rw[l,A7 _ _ e,<-n];exact s
   unfold OpC at g⊢;simp only[y]at g⊢;split;.rename_i K;simp only[K]at g;exact r undef C z (A.sub (zq _ _)) g
   .rename_i K;simp only[K]at g;split
    .rename_i E;simp only[E]at g;obtain⟨m,s,F⟩:=g;exact⟨m,s,λk b=>r (m.2 k b) _ (z.push _) (λx o=>(t x (zq _ _ x o)) _ _ (A x (zq _ _ x o))) (F k b)⟩
    .rename_i E;simp only[E]at g;obtain⟨u,s,F⟩:=g;exact⟨u,s,r u C z (A.sub (zq _ _)) F⟩
    .rename_i E;simp only[E]at g;obtain⟨X,s,F⟩:=g;refine⟨X,s,λu p o=>?_⟩;obtain⟨O,R⟩:=F u p o;have c:Now (trim b j ((i,Sil P ops d a v)::pend)) p:=λx o=>O x.1 x.2 o;rw[n]at c;exact⟨λk S hk=>c (k,S) (A2 _ hk),r u p (c _ Af) (λx o=>c x (A2 _ o)) R⟩
def AnyC.also{i:Nat}{S:Cls->Prop}(e:∀C,S C):∀{f:Nat} {pend:qc1} {w:Array Bool} {a:Act} {C:Cls},AnyC P ops b Q pend f w a C->AnyC P ops b Q ((i,S)::pend) f w a C
 |0,_,_,_,_,h=>h
 |f+1,pend,_,_,_,h=>⟨h.1,λj g=>OpC.mono (λC l k T c=>by
  have:(k,T)∈(i,S)::trim b j pend:=by
   unfold trim at c⊢;rw[Ae]at c;split at c;.exact c
   .exact A2 _ c
  rcases Ac.1 this with h|h;.cases h;exact e C
  .exact l k T h) (λa C h=>z1b (λx d=>by
   unfold trim at d⊢;rw[Ae]at d;split at d;.exact d
   .exact A2 _ d) (AnyC.also e h)) (h.2 j g)⟩
def Alone(P:A5)(ops:Array A8)(b:List Nat)(i:Nat)(h:Array Bool):Prop:=
 ∀k ok,ops[k]?=A9 ok->k≠i->h.getD k A1=Aa->waits b k i=Aa->kd P ok.op=.new\/kd P ok.op=.pure
def Alone.set{i:Nat}{w:Array Bool}(h:Alone P ops b i w)(j:Nat):Alone P ops b i (w.setIfInBounds j A1):=λk ok f e a g=>h k ok f e (by
 by_cases c:j=k
 .subst c;rcases Aj j w.size with d|d;.simp[d]at a
  .simp[Ap,B5.2 d]at a
 .rw[getD_set_ne A1 c]at a;exact a) g
def take_new(N:qu9 ops b){i:Nat}{g:A8}(W:kd P g.op=.new){m:Mk} :
 ∀(f:Nat) (pend:qc1) (w:Array Bool) (a:Act) (C:Cls),At P ops i g w->Alone P ops b i w->A0 g (yielded ops a.tmps)=A1->newOf P a.eval g.op=A9 m->qn7 pend->
  (∀k c,AnyC P ops b Q (trim b i pend) f (w.setIfInBounds i A1) (a.put g.dst (m.2 k c)) (C.push (c,m.1 k)))->AnyC P ops b Q pend (f+1) w a C:=by
 have q:∀(f:Nat) (pend:qc1) (w:Array Bool) (a:Act) (C:Cls),At P ops i g w->A0 g (yielded ops a.tmps)=A1->newOf P a.eval g.op=A9 m->
  (∀k c,AnyC P ops b Q (trim b i pend) f (w.setIfInBounds i A1) (a.put g.dst (m.2 k c)) (C.push (c,m.1 k)))->OpC P ops b pend i a C λV X=>AnyC P ops b Q (trim b i pend) f (w.setIfInBounds i A1) V X:=by
  intro f pend w a C l B F H;unfold OpC;simp only[l.op,B,W];exact⟨m,F,H⟩
 intro f;induction f with
 |zero=>
  intro pend w a C l z B F E H;refine⟨λh=>(by have:=l.ready;rw[h]at this;cases this),λj R=>?_⟩;by_cases d:j=i;.subst d;exact q 0 pend w a C l B F H
  .have:=ready_mono R d;rw[(H 0 0).1]at this;cases this
 |succ f ih=>
  intro pend w a C l z B F E H;refine⟨λh=>(by have:=l.ready;rw[h]at this;cases this),λj R=>?_⟩;by_cases d:j=i;.subst d;exact q (f+1) pend w a C l B F H
  .obtain⟨p,o,A,G,K,U,M⟩:=l.other N R d;obtain⟨Z,a2,a3⟩:=A4 A;have O:∀cs b,p.op≠.select cs b:=λcs b=>l.sel j p cs b o;have Y:∀cs b,g.op≠.select cs b:=λcs b=>l.sel i g cs b l.op;have n:=λk c=>OpC_put (v:=m.2 k c) o A O ((H k c).2 j U);have x:∀(u:A6) (D:Cls),(∀k c,AnyC P ops b Q (trim b j (trim b i pend)) f ((w.setIfInBounds i A1).setIfInBounds j A1) ((a.put p.dst u).put g.dst (m.2 k c)) (D.push (c,m.1 k)))->
    AnyC P ops b Q (trim b j pend) (f+1) (w.setIfInBounds j A1) (a.put p.dst u) D:=λu D r=>by
    refine ih (trim b j pend) (w.setIfInBounds j A1) (a.put p.dst u) D K (z.set j) (by rwa[wanted_put g a p.dst u a3]) (by rwa[newOf_put g a p.dst u a3]) (E.sub (zq _ _)) λk c=>?_;rw[A7 _ _ d,ql8];exact r k c
   unfold OpC at n⊢;simp only[o]at n⊢;split;.rename_i y;simp only[y]at n;exact x undef C n
   .rename_i y;simp only[y]at n;rcases z j p o d M G with t|t
    .simp only[t]at n⊢;obtain⟨L,r,_⟩:=n 0 0;refine⟨L,r,λJ s=>x (L.2 J s) _ λk c=>?_⟩;obtain⟨m2,I,T⟩:=n k c;rw[r]at I;cases I;exact AnyC.le (Cls.push_swap C (s,L.1 J) (c,m.1 k)) (T J s)
    .simp only[t]at n⊢;obtain⟨u,r,_⟩:=n 0 0;refine⟨u,r,x u C λk c=>?_⟩;obtain⟨u2,I,T⟩:=n k c;have e:=(r default).symm.trans (I default);simp only[Ao,An,yM]at e;subst e;exact T
def take_eff(h4:qu9 ops b){i:Nat}{g:A8}(Z:kd P g.op=.gen){α:Type}(X:α){V:α->A6} :
 ∀(f:Nat) (pend:qc1) (c:Array Bool) (a:Act) (C:Cls) (D:α->Cls),At P ops i g c->Alone P ops b i c->A0 g (yielded ops a.tmps)=A1->qn7 pend->
  (∀G w,C.p G w->qz1 P g a w λv w'=>∃x,v=V x/\(D x).p G w')->(∀x,Now (trim b i pend) (D x))->
  (∀x,AnyC P ops b Q (trim b i pend) f (c.setIfInBounds i A1) (a.put g.dst (V x)) (D x))->AnyC P ops b Q pend (f+1) c a C:=by
 have q:∀(f:Nat) (pend:qc1) (c:Array Bool) (a:Act) (C:Cls) (D:α->Cls),At P ops i g c->A0 g (yielded ops a.tmps)=A1->
  (∀G w,C.p G w->qz1 P g a w λv w'=>∃x,v=V x/\(D x).p G w')->(∀x,Now (trim b i pend) (D x))->
  (∀x,AnyC P ops b Q (trim b i pend) f (c.setIfInBounds i A1) (a.put g.dst (V x)) (D x))->OpC P ops b pend i a C λa' n=>AnyC P ops b Q (trim b i pend) f (c.setIfInBounds i A1) a' n:=by
  intro f pend c a C D l M p J H;unfold OpC;simp only[l.op,M,Z];exact⟨λv n=>∃x,v=V x/\n=D x,λG w N=>(p G w N).mono λv w' ⟨x,e,h⟩=>⟨D x,⟨x,e,rfl⟩,h⟩,λv n ⟨x,e1,e2⟩=>by subst e1;subst e2;exact⟨λk S Z=>J x (k,S) Z,H x⟩⟩
 intro f;induction f with
 |zero=>
  intro pend c a C D l I M t p J H;refine⟨λh=>(by have:=l.ready;rw[h]at this;cases this),λj hj=>?_⟩;by_cases d:j=i;.subst d;exact q 0 pend c a C D l M p J H
  .have:=ready_mono hj d;rw[(H X).1]at this;cases this
 |succ f ih=>
  intro pend c a C D l I M t p J H;refine⟨λh=>(by have:=l.ready;rw[h]at this;cases this),λj hj=>?_⟩;by_cases d:j=i;.subst d;exact q (f+1) pend c a C D l M p J H
  .obtain⟨z,o,s,O,Y,hrj,h1⟩:=l.other h4 hj d;obtain⟨a1,a2,a3⟩:=A4 s;have h7:∀cs b,z.op≠.select cs b:=λcs b=>l.sel j z cs b o;have h8:∀cs b,g.op≠.select cs b:=λcs b=>l.sel i g cs b l.op;have m:=λx=>OpC_put (v:=V x) o s h7 ((H x).2 j hrj);have E:∀(u:A6) (n:Cls) (K:α->Cls),(∀G w,n.p G w->qz1 P g a w λv w'=>∃x,v=V x/\(K x).p G w')->(∀x,Now (trim b i (trim b j pend)) (K x))->
    (∀x,AnyC P ops b Q (trim b j (trim b i pend)) f ((c.setIfInBounds i A1).setIfInBounds j A1) ((a.put z.dst u).put g.dst (V x)) (K x))->
    AnyC P ops b Q (trim b j pend) (f+1) (c.setIfInBounds j A1) (a.put z.dst u) n:=λu n K W h0 r=>by
    refine ih (trim b j pend) (c.setIfInBounds j A1) (a.put z.dst u) n K Y (I.set j) (by rwa[wanted_put g a z.dst u a3]) (t.sub (zq _ _)) (λG w N=>by rw[qgc s h8];exact W G w N) h0 λx=>?_;rw[A7 _ _ d,ql8];exact r x
   have A:∀x,Now (trim b i (trim b j pend)) (D x):=λx y L=>by rw[ql8]at L;exact J x y (zq _ _ y L)
   unfold OpC at m⊢;simp only[o]at m⊢;split;.rename_i F;simp only[F]at m;exact E undef C D p A m
   .rename_i F;simp only[F]at m;rcases I j z o d h1 O with B|B
    .simp only[B]at m⊢;obtain⟨R,r,_⟩:=m X;refine⟨R,r,λk U=>E (R.2 k U) (C.push (U,R.1 k)) (λx=>(D x).push (U,R.1 k)) (λG w N=>p _ w N) (λx y L=>(t y (zq _ _ y (zq _ _ y L))) _ _ (A x y L)) λx=>?_⟩;obtain⟨m2,T,h6⟩:=m x;rw[r]at T;cases T;exact h6 k U
    .simp only[B]at m⊢;obtain⟨u,r,_⟩:=m X;refine⟨u,r,E u C D p A λx=>?_⟩;obtain⟨u2,T,h6⟩:=m x;have e:=(r default).symm.trans (T default);simp only[Ao,An,yM]at e;subst e;exact h6
end
def alB(P:A5)(ops:Array A8)(b:List Nat)(i:Nat)(h:Array Bool):Bool:=
 (Be ops.size).all λk=>As k i||h.getD k A1||waits b k i||match ops[k]? with
  |some ok=>(match kd P ok.op with|.gen=>Aa|_=>A1)
  |none=>A1
def alB_sound{P:A5}{ops:Array A8}{b:List Nat}{i:Nat}{w:Array Bool}(h:alB P ops b i w=A1):Alone P ops b i w:=by
 intro k ok j g e l;simp only[alB,B0,B6]at h;have c:=h k (Aq.1 j).1;have f:As k i=Aa:=by
  cases f:As k i with
  |false=>rfl
  |true=>exact(g (Ah f)).elim
 simp only[f,e,l,j,B9]at c;split at c;.cases c
 .rename_i a;cases d:kd P ok.op with
  |new=>exact .inl rfl
  |pure=>exact .inr rfl
  |gen=>exact(a d).elim
def newE(P:A5)(o:A8)(e:Env)(F:Mk->Prop):Prop:=
 match o.op with
 |.convert s d x=>match strB8 P s d with
  |some t=>q11 e x λv=>match v with
   |.string y=>F (rowB y t)
   |_=>False
  |none=>False
 |_=>Go.Proofs.YtfjifcfbmhpcaaaGreatDoor.newE P o e λh mk=>F (λ_=>h,λ_=>mk)
def newE_sound{P:A5}{n:Nat}{o:A8}{e:Env}{F:Mk->Prop}{a:Act}(h:newE P o e F)(f:q71 dfr n e a):∃m,newOf P a.eval o.op=A9 m/\F m:=by
 unfold newE at h;split at h
 .rename_i s d x b;split at h
  .rename_i t j;have w:=ql h f;split at w
   .rename_i y i;exact⟨_,by simp only[newOf,b,j,i],w⟩
   .exact w.elim
  .exact h.elim
 .rename_i c;obtain⟨k,mk,w,g⟩:=Go.Proofs.YtfjifcfbmhpcaaaGreatDoor.newE_sound h f;refine⟨_,?_,g⟩;unfold newOf;split;.rename_i s d x b;exact(c s d x b).elim
  .simp only[w]
def stepC(P:A5)(n:Nat)(ops:Array A8)(b:List Nat)(i:Nat)(w:Bool)(o:A8)(h:Array Bool)(pend:qc1)(C:Cls)(next:qc1->Env->Cls->Prop)(e:Env):Prop:=
 match kd P o.op with
 |.pure=>opP P o e λv=>qc2 n o.dst v e λe'=>next pend e' C
 |.new=>match alB P ops b i h with
  |true=>newE P o e λm=>∀k a:Nat,qc2 n o.dst (m.2 k a) e λe'=>next (trim b i pend) e' (C.push (a,m.1 k))
  |false=>False
 |.gen=>match qn4 P o with
  |some l=>match w with
   |false=>exR l λv=>Qt C v (opW P o e)/\qc2 n o.dst v e λe'=>next ((i,λC=>Qt C v (opW P o e))::pend) e' C
   |true=>match alB P ops b i h with
    |true=>Ef C (opW P o e) λv D=>asR l v λv=>qo5 (trim b i pend) D/\qc2 n o.dst v e λe'=>next (trim b i pend) e' D
    |false=>False
  |none=>False
def drawC(P:A5)(n:Nat)(ops:Array A8)(b:List Nat)(K:Env->Ak->Prop):List (Nat×Bool)->Array Bool->qc1->Env->Cls->Prop
 |[],h,_,e,C=>match A3 .any ops h with
  |[]=>∀G w,C.p G w->K e w
  |_=>False
 |(i,c)::r,h,pend,e,C=>
  match ops[i]?,(A3 .any ops h).contains i&&Bc .any ops h i with
  |some o,A1=>
   match o.guard with
   |none=>stepC P n ops b i c o h pend C (drawC P n ops b K r (h.setIfInBounds i A1)) e
   |some (j,a)=>match q69 ops j with
    |none=>False
    |some s=>match q23 e s with
     |some (.bool t)=>Bif t
      (match a with
       |true=>stepC P n ops b i c o h pend C (drawC P n ops b K r (h.setIfInBounds i A1)) ((s,.bool A1)::e)
       |false=>drawC P n ops b K r (h.setIfInBounds i A1) pend (q72 o.dst ((s,.bool A1)::e)) C)
      (match a with
       |false=>stepC P n ops b i c o h pend C (drawC P n ops b K r (h.setIfInBounds i A1)) ((s,.bool Aa)::e)
       |true=>drawC P n ops b K r (h.setIfInBounds i A1) pend (q72 o.dst ((s,.bool Aa)::e)) C)
     |some (.tuple _)=>drawC P n ops b K r (h.setIfInBounds i A1) pend (q72 o.dst e) C
     |_=>False
  |_,_=>False
def drawC_sound{P:A5}{n:Nat}{ops:Array A8}{b:List Nat}{K:Env->Ak->Prop}{Q:Act->Ak->Prop}(H:qu9 ops b)(W:B4 ops=A1)(ws:List Nat)(a0:Act)
 (hws:∀(i:Nat) (o:A8),ops[i]?=A9 o->∀t,q83 ws t=Aa->q83 o.dst.toList t=Aa)
 (hK:∀e a w,K e w->q71 dfr n e a->qp2 ws a0 a->Q a w):
 ∀(r:List (Nat×Bool)) (m:Nat) (c:Array Bool) (Y pend:qc1) (e:Env) (C:Cls) (a:Act),drawC P n ops b K r c Y e C->q71 dfr n e a->qp2 ws a0 a->q37 ops c->PR Y pend->Now pend C->qn7 pend->
  AnyC P ops b Q pend (r.length+m) c a C
 |[],m,c,Y,pend,e,C,a,h,O,hk,hcl,u,U,g=>by
  unfold drawC at h;split at h
  .rename_i hr;cases m with
   |zero=>exact⟨hr,λG w M=>hK e a w (h G w M) O hk⟩
   |succ m=>exact⟨λ_ G w M=>hK e a w (h G w M) O hk,λj hj=>by rw[hr]at hj;cases hj⟩
  .exact h.elim
 |(i,eff)::r,m,c,Y,pend,e,C,a,h,O,hk,hcl,u,U,g=>by
  have ih:=drawC_sound (P:=P) H W ws a0 hws hK r m;unfold drawC at h;split at h
  .rename_i o ho J;simp only[B1]at J;have E:i∈A3 .any ops c:=by simpa using J.1
   have hA:At P ops i o c:=⟨ho,hcl,B2 ho J.2,E,Ax W⟩;have A:q37 ops (c.setIfInBounds i A1):=hcl.set E;have z:∀v,qp2 o.dst.toList a (a.put o.dst v)->qp2 ws a0 (a.put o.dst v):=λv hkv t ht=>(hkv t (hws i o ho t ht)).trans (hk t ht);have lenE:(Bd ((i,eff)::r)+m)=(r.length+m)+1:=by simp;omega
   rw[lenE]
   -- passed over
   have skip:∀T,q71 dfr n T a->A0 o (yielded ops a.tmps)=Aa->drawC P n ops b K r (c.setIfInBounds i A1) Y (q72 o.dst T) C->AnyC P ops b Q pend (r.length+m+1) c a C:=by
    intro T f M B;obtain⟨q,p⟩:=qle (d:=o.dst) f;have R:∀D,Sil P ops o a undef D:=λD=>by unfold Sil;rw[M]
    exact take_sil H (v:=undef) _ pend c a C hA (R C) U g (AnyC.also R (ih _ Y pend _ C _ B q (z _ p) A u U g))
   -- carried out
   have go:∀T,q71 dfr n T a->A0 o (yielded ops a.tmps)=A1->stepC P n ops b i eff o c Y C (drawC P n ops b K r (c.setIfInBounds i A1)) T->AnyC P ops b Q pend (r.length+m+1) c a C:=by
    intro T f M B;unfold stepC at B;split at B
    .rename_i F;obtain⟨v,N,hv⟩:=q7c B f;obtain⟨e2,Z,q,p⟩:=qn3 N f;have R:∀D,Sil P ops o a v D:=λD=>by unfold Sil;rw[M];simp only[F];exact hv
     exact take_sil H _ pend c a C hA (R C) U g (AnyC.also R (ih _ Y pend e2 C _ Z q (z _ p) A u U g))
    .rename_i F;split at B
     .rename_i hal;obtain⟨m1,hnew,N⟩:=newE_sound B f;refine take_new H F _ pend c a C hA (alB_sound hal) M hnew g λk bl=>?_;obtain⟨e2,Z,q,p⟩:=qn3 (N k bl) f;exact ih _ _ _ e2 _ _ Z q (z _ p) A (u.trim b i) (λx L=>g x (zq _ _ x L) _ _ (U x (zq _ _ x L))) (g.sub (zq _ _))
     .exact B.elim
    .rename_i F;split at B;case h_2=>exact B.elim
     rename_i l hres;split at B
     .obtain⟨v,hq,N⟩:=qbm B;obtain⟨e2,Z,q,p⟩:=qn3 N f;have R:∀D,Qt D v (opW P o T)->Sil P ops o a v D:=λD hq=>by unfold Sil;rw[M];simp only[F];exact λG w I=>qq9 (hq G w I) f
      exact take_sil H _ pend c a C hA (R C hq) U g (ih _ _ _ e2 C _ Z q (z _ p) A (by exact⟨rfl,R,u⟩) (λx L=>by
       rcases Ac.1 L with rfl|L;.exact R C hq
       .exact U x L) (λx L D y=>by
       rcases Ac.1 L with rfl|L;.exact λh=>Sil.push h y
       .exact g x L D y))
     .split at B;case h_2=>exact B.elim
      rename_i hal;obtain⟨α,x0,V,D,hd,N⟩:=B;refine take_eff H F x0 _ pend c a C D hA (alB_sound hal) M g (λG w I=>qq9 (hd G w I) f) (λx=>(u.trim b i).now (qda (q34 (N x)).1)) λx=>?_;obtain⟨e2,Z,q,p⟩:=qn3 (q34 (N x)).2 f;exact ih _ _ _ e2 _ _ Z q (z _ p) A (u.trim b i) ((u.trim b i).now (qda (q34 (N x)).1)) (g.sub (zq _ _))
   split at h
   .rename_i I;exact go e O (by simp[A0,I]) h
   .rename_i j X I;split at h;.exact h.elim
    .rename_i s hs;split at h
     .rename_i t hb;have hy:=qse O hs hb;cases t with
      |true=>
       have f:=qn8 O hb A1 rfl;simp only[Bif]at h;cases X with
       |true=>exact go _ f (by simp[A0,I,hy]) h
       |false=>exact skip _ f (by simp[A0,I,hy]) h
      |false=>
       have f:=qn8 O hb Aa rfl;simp only[Bif]at h;cases X with
       |false=>exact go _ f (by simp[A0,I,hy]) h
       |true=>exact skip _ f (by simp[A0,I,hy]) h
     .rename_i us hb;have hy:=qka O hs hb;exact skip _ O (by simp[A0,I,hy]) h
     .exact h.elim
  .exact h.elim
end Two
end
end Go.Proofs.YtfjifcfbmhpcaaaGreatDoor
