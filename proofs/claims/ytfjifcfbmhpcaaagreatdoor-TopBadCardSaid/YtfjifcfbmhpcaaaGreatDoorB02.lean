/-
  A part of the proof of TopBad.
-/
import Derived.Test.YtfjifcfbmhpcaaaGreatDoorB01
import Derived.Lib.SlBytesConst
import Derived.Test.YtfjifcfbmhpcaaaGreatDoorB00
set_option linter.all false
namespace Go.Proofs.YtfjifcfbmhpcaaaGreatDoor
open Go
open Go.IntKind renaming i64 → Zk
open Go.Addr renaming add → Za
open Go renaming World->A0,Value->A1,Program->A3,TypeId->A7,Addr->Ah,Oper->Aq,Code->Au,Exit->By,ResultVar->C3,FuncId->C8
open _root_.Option renaming some->A2,none->Af
open Go.Result renaming andThen_ok->A4
open _root_.Bool renaming and_eq_true->A5,true->Ac,false->Ad,false_eq_true->Az,not_true->C0,false_or->C1,and_self->C2
open Go.Builtin renaming firstCells->A6,append_->A9,zeroCells->Ap,lenOf->As,copy_->Bb,nextslicecap->Bo
open Go.Sem renaming run_bind->A8,run_pure->Aj
open Go.Code renaming wp_mono->Aa
open _root_.List renaming getElem?_eq_getElem->Ab,eq_nil_of_length_eq_zero->Ae,getElem?_eq_none->Ag,getElem?_take->Ak,ext_getElem?->Ao,take_append_of_le_length->Av,take->Ax,replicate->B0,getElem?_append_right->B1,length_append->B2,getElem?_append_left->B3,getElem?_map->B5,getElem?_set->B6,append_assoc->B7,perm_middle->Bc,getElem?_cons_zero->Bd,getElem?_cons_succ->Be,take_of_length_le->Bh,take_append_drop->Bi,perm_append_comm->Bm,getElem?_toArray->Bn,getElem?_drop->Br,isEmpty_iff->Bu,drop->Bv,length_cons->Bw,length_take->Bx,mapM_cons->Bz
open _root_.Nat renaming mul_le_mul_right->Ai,le_refl->Am,lt_or_ge->An,eq_of_beq_eq_true->Ar,add_mul->Ba,le_of_ble_eq_true->Bj,zero_mul->Bs,zero_add->Bt,add_zero->C4,mul_one->C6,le_zero->C7,beq->C9
open _root_.Array renaming replicate->Aw,getElem?_eq_none->Bg,getElem?_modify->Bl,toList_append->Bp
open Go.Fence renaming wide->Ay
open _root_.Option.some renaming injEq->B4
open _root_.Int renaming toNat_natCast->B9
open Go.Region renaming ready->Bf,wanted->Bq,free->C5
section
variable{dfr:List Deferred}
def stepD(P:A3)(n:Nat)(b:List Nat)(i:Nat)(h:Bool)(o:Aq)(pend:qc1)(C:Cls)(next:qc1->Env->Cls->Prop)(e:Env):Prop:=
 match kd P o.op with
 |.pure=>opP P o e λv=>qc2 n o.dst v e λe'=>next pend e' C
 |.new=>newE P o e λw mk=>∀a:Nat,qc2 n o.dst (mk a) e λe'=>next (trim b i pend) e' (C.push (a,w))
 |.gen=>match qn4 P o with
  |some l=>match h with
   |false=>exR l λv=>Qt C v (opW P o e)/\qc2 n o.dst v e λe'=>next ((i,λC=>Qt C v (opW P o e))::pend) e' C
   |true=>Ef C (opW P o e) λv D=>asR l v λv=>qo5 (trim b i pend) D/\qc2 n o.dst v e λe'=>next (trim b i pend) e' D
  |none=>False
def drawD(P:A3)(n:Nat)(h:Array Aq)(b:List Nat)(K:Env->A0->Prop):List (Nat×Bool)->qc1->Env->Cls->Prop
 |[],_,e,C=>∀G w,C.p G w->K e w
 |(i,c)::r,pend,e,C=>
  match h[i]? with
  |some o=>
   match o.guard with
   |none=>stepD P n b i c o pend C (drawD P n h b K r) e
   |some (j,a)=>match q69 h j with
    |none=>False
    |some s=>match q23 e s with
     |some (.bool t)=>Bif t
      (match a with
       |true=>stepD P n b i c o pend C (drawD P n h b K r) ((s,.bool Ac)::e)
       |false=>drawD P n h b K r pend (q72 o.dst ((s,.bool Ac)::e)) C)
      (match a with
       |false=>stepD P n b i c o pend C (drawD P n h b K r) ((s,.bool Ad)::e)
       |true=>drawD P n h b K r pend (q72 o.dst ((s,.bool Ad)::e)) C)
     |some (.tuple _)=>drawD P n h b K r pend (q72 o.dst e) C
     |_=>False
  |none=>False
def drawOk(P:A3)(w:Array Aq)(b:List Nat):List (Nat×Bool)->Array Bool->Bool
 |[],h=>(Bf .any w h).isEmpty
 |(i,a)::r,h=>(Bf .any w h).contains i&&C5 .any w h i&&(match w[i]? with
  |some o=>(match kd P o.op with
   |.pure=>Ac
   |.new=>alB P w b i h
   |.gen=>!a||alB P w b i h)
  |none=>Ac)&&drawOk P w b r (h.setIfInBounds i Ac)
def Two.stepD(P:A3)(n:Nat)(b:List Nat)(i:Nat)(h:Bool)(o:Aq)(pend:qc1)(C:Cls)(next:qc1->Env->Cls->Prop)(e:Env):Prop:=
 match Two.kd P o.op with
 |.pure=>opP P o e λv=>qc2 n o.dst v e λe'=>next pend e' C
 |.new=>Two.newE P o e λm=>∀k w:Nat,qc2 n o.dst (m.2 k w) e λe'=>next (trim b i pend) e' (C.push (w,m.1 k))
 |.gen=>match qn4 P o with
  |some l=>match h with
   |false=>exR l λv=>Qt C v (opW P o e)/\qc2 n o.dst v e λe'=>next ((i,λC=>Qt C v (opW P o e))::pend) e' C
   |true=>Ef C (opW P o e) λv D=>asR l v λv=>qo5 (trim b i pend) D/\qc2 n o.dst v e λe'=>next (trim b i pend) e' D
  |none=>False
def Two.drawD(P:A3)(n:Nat)(h:Array Aq)(b:List Nat)(K:Env->A0->Prop):List (Nat×Bool)->qc1->Env->Cls->Prop
 |[],_,e,C=>∀G w,C.p G w->K e w
 |(i,c)::r,pend,e,C=>
  match h[i]? with
  |some o=>
   match o.guard with
   |none=>Two.stepD P n b i c o pend C (Two.drawD P n h b K r) e
   |some (j,a)=>match q69 h j with
    |none=>False
    |some s=>match q23 e s with
     |some (.bool t)=>Bif t
      (match a with
       |true=>Two.stepD P n b i c o pend C (Two.drawD P n h b K r) ((s,.bool Ac)::e)
       |false=>Two.drawD P n h b K r pend (q72 o.dst ((s,.bool Ac)::e)) C)
      (match a with
       |false=>Two.stepD P n b i c o pend C (Two.drawD P n h b K r) ((s,.bool Ad)::e)
       |true=>Two.drawD P n h b K r pend (q72 o.dst ((s,.bool Ad)::e)) C)
     |some (.tuple _)=>Two.drawD P n h b K r pend (q72 o.dst e) C
     |_=>False
  |none=>False
def Two.drawOk(P:A3)(w:Array Aq)(b:List Nat):List (Nat×Bool)->Array Bool->Bool
 |[],h=>(Bf .any w h).isEmpty
 |(i,a)::r,h=>(Bf .any w h).contains i&&C5 .any w h i&&(match w[i]? with
  |some o=>(match Two.kd P o.op with
   |.pure=>Ac
   |.new=>Two.alB P w b i h
   |.gen=>!a||Two.alB P w b i h)
  |none=>Ac)&&Two.drawOk P w b r (h.setIfInBounds i Ac)
def stepC_eq{P:A3}{n:Nat}{c:Array Aq}{b:List Nat}{i:Nat}{a:Bool}{o:Aq}{w:Array Bool}(h:(match kd P o.op with|.pure=>Ac|.new=>alB P c b i w|.gen=>!a||alB P c b i w)=Ac):stepC P n c b i a o w=stepD P n b i a o:=by
 funext pend C next e
 unfold stepC stepD;cases hk:kd P o.op with
 |pure=>rfl
 |new=>simp only[hk]at h;simp only[h]
 |gen=>
  simp only[hk]at h;cases qn4 P o with
  |none=>rfl
  |some l=>
   cases a with
   |false=>rfl
   |true=>simp only[C0,C1]at h;simp only[h]
def drawC_eq{P:A3}{n:Nat}{a:Array Aq}{b:List Nat}{K:Env->A0->Prop}:∀(l:List (Nat×Bool)) (w:Array Bool),drawOk P a b l w=Ac->drawC P n a b K l w=drawD P n a b K l
 |[],w,h=>by funext pend e C;simp only[drawOk,Bu]at h;simp only[drawC,drawD,h]
 |(i,g)::r,w,h=>by
  simp only[drawOk,A5]at h;obtain⟨⟨⟨k,d⟩,c⟩,j⟩:=h;have f:=drawC_eq (K:=K) (n:=n) r _ j;funext pend e C;simp only[drawC,drawD,k,d,C2];cases ho:a[i]? with
  |none=>rfl
  |some o=>rw[ho]at c;simp only[f,stepC_eq (n:=n) c];rfl
def Two.stepC_eq{P:A3}{n:Nat}{c:Array Aq}{b:List Nat}{i:Nat}{a:Bool}{o:Aq}{w:Array Bool}(h:(match Two.kd P o.op with|.pure=>Ac|.new=>Two.alB P c b i w|.gen=>!a||Two.alB P c b i w)=Ac):Two.stepC P n c b i a o w=Two.stepD P n b i a o:=by
 funext pend C next e
 unfold Two.stepC Two.stepD;cases hk:Two.kd P o.op with
 |pure=>rfl
 |new=>simp only[hk]at h;simp only[h]
 |gen=>
  simp only[hk]at h;cases qn4 P o with
  |none=>rfl
  |some l=>
   cases a with
   |false=>rfl
   |true=>simp only[C0,C1]at h;simp only[h]
def Two.drawC_eq{P:A3}{n:Nat}{a:Array Aq}{b:List Nat}{K:Env->A0->Prop}:∀(l:List (Nat×Bool)) (w:Array Bool),Two.drawOk P a b l w=Ac->Two.drawC P n a b K l w=Two.drawD P n a b K l
 |[],w,h=>by funext pend e C;simp only[Two.drawOk,Bu]at h;simp only[Two.drawC,Two.drawD,h]
 |(i,g)::r,w,h=>by
  simp only[Two.drawOk,A5]at h;obtain⟨⟨⟨k,d⟩,c⟩,j⟩:=h;have f:=Two.drawC_eq (K:=K) (n:=n) r _ j;funext pend e C;simp only[Two.drawC,Two.drawD,k,d,C2];cases ho:a[i]? with
  |none=>rfl
  |some o=>rw[ho]at c;simp only[f,Two.stepC_eq (n:=n) c];rfl
inductive Ann where
 |nil
 |step (a b rest:Ann)
 |join (k:Nat) (sl:List (Nat×Ty)) (fst rest:Ann)
 |loop (sl:List (Nat×Ty)) (body:Ann)
 |draw (ord:List (Nat×Bool)) (rest:Ann)
 |draw2 (ord:List (Nat×Bool)) (rest:Ann)
def Ann.a:Ann->Ann|.step a _ _=>a|.loop _ a=>a|_=>.nil
def Ann.b:Ann->Ann|.step _ b _=>b|_=>.nil
def Ann.rest:Ann->Ann|.step _ _ r=>r|.draw _ r=>r|.draw2 _ r=>r|_=>.nil
def Ann.ord:Ann->List (Nat×Bool)|.draw o _=>o|.draw2 o _=>o|_=>[]
def Ann.two:Ann->Bool|.draw2 _ _=>Ac|_=>Ad
def Ann.slots:Ann->List (Nat×Ty)|.loop sl _=>sl|_=>[]
mutual
def wr:Au->List Nat
 |.region _ ops _=>quc ops.toList
 |.seq a b=>wr a++wr b
 |.cond _ a b=>wr a++wr b
 |.block _ a=>wr a
 |.loop a=>wr a
 |.scope a=>wr a
 |_=>[]
def quc:List Aq->List Nat
 |[]=>[]
 |o::r=>o.dst.toList++quc r
end
def wrs:List Au->List Nat
 |[]=>[]
 |c::r=>wr c++wrs r
def qh4:=By->Env->A0->Prop
def qa2:List (Nat×Ty)->Env->(List A1->Prop)->Prop
 |[],_,K=>K []
 |(s,t)::r,e,K=>match q23 e s with
  |some v=>asT' t v λv=>qa2 r e λvs=>K (v::vs)
  |none=>False
where
 /-- Nothing is asked of a value whose shape is to be seen. -/
 asT':Ty->A1->(A1->Prop)->Prop
  |.b (.int k),.int h x,K=>match decide (h=k)with|true=>K (.int h x)|false=>False
  |.b .bool,.bool b,K=>K (.bool b)
  |.b .str,.string b,K=>K (.string b)
  |.b .ptr,.pointer b,K=>K (.pointer b)
  |.b .slice,.slice a n c,K=>K (.slice a n c)
  |.b .map,.map r,K=>K (.map r)
  |.b .val,v,K=>K v
  |t,v,K=>asT t v K
def q7t{t:Ty}{v:A1}{K:A1->Prop}(h:qa2.asT' t v K):isT t v/\K v:=by
 unfold qa2.asT' at h;split at h
 .split at h
  .rename_i k a x _ w;have:=yC w;subst this;exact⟨⟨_,rfl⟩,h⟩
  .exact h.elim
 .exact⟨⟨_,rfl⟩,h⟩
 .exact⟨⟨_,rfl⟩,h⟩
 .exact⟨⟨_,rfl⟩,h⟩
 .exact⟨⟨_,_,_,rfl⟩,h⟩
 .exact⟨⟨_,rfl⟩,h⟩
 .exact⟨trivial,h⟩
 .exact qzl h
def q2c:List (Nat×Ty)->List A1->Env->Env
 |(s,_)::r,v::vs,e=>(s,v)::q2c r vs e
 |_,_,e=>e
def tys:List (Nat×Ty)->List Ty
 |[]=>[]
 |(_,t)::r=>t::tys r
def qh9(P:A3)(n:Nat)(h:Array Aq):List Aq->Env->A0->(Env->A0->Prop)->Prop
 |[],e,w,K=>K e w
 |o::r,e,w,K=>
  match o.guard with
  |none=>opR P r o e w λv w'=>qc2 n o.dst v e λe'=>qh9 P n h r e' w' K
  |some (j,a)=>match q69 h j with
   |none=>False
   |some s=>match q23 e s with
    |some (.bool b)=>Bif b
     (match a with
      |true=>opR P r o ((s,.bool Ac)::e) w λv w'=>qc2 n o.dst v ((s,.bool Ac)::e) λe'=>qh9 P n h r e' w' K
      |false=>qh9 P n h r (q72 o.dst ((s,.bool Ac)::e)) w K)
     (match a with
      |false=>opR P r o ((s,.bool Ad)::e) w λv w'=>qc2 n o.dst v ((s,.bool Ad)::e) λe'=>qh9 P n h r e' w' K
      |true=>qh9 P n h r (q72 o.dst ((s,.bool Ad)::e)) w K)
    |some (.tuple _)=>qh9 P n h r (q72 o.dst e) w K
    |_=>False
def Lp(F:(List A1->A0->Prop)->(List A1->A0->Nat)->Prop):Prop:=∃I μ,F I μ
def Jn(F:(List A1->A0->Prop)->Prop):Prop:=∃J,F J
def q35(k:Env->A0->Prop)(Q:qh4):qh4:=λx e w=>match x with|.normal=>k e w|_=>Q x e w
def q4a(id:Nat)(k:Env->A0->Prop)(Q:qh4):qh4:=λx e w=>match x with
 |.normal=>k e w
 |.exit i=>match C9 i id with
  |true=>k e w
  |false=>Q (.exit i) e w
 |_=>Q x e w
def q63:Au->List Au
 |.seq a b=>q63 a++q63 b
 |c=>[c]
abbrev Rec:=List Au->Ann->qh4->Env->A0->Prop
def qa8(P:A3)(n:Nat)(h:Rec)(c:Au)(r:List Au)(a:Ann)(Q:qh4)(e:Env)(w:A0):Prop:=
 match c with
 |.skip=>h r a.rest Q e w
 |.region _ ops draw=>match draw with
  |false=>qh9 P n ops ops.toList e w λe' w'=>h r a.rest Q e' w'
  |true=>∃C:Cls,C.p [] w/\match a.two with
   |false=>drawD P n ops (qna ops.toList []) (λe' w'=>h r a.rest Q e' w') a.ord [] e C
   |true=>Two.drawD P n ops (qna ops.toList []) (λe' w'=>h r a.rest Q e' w') a.ord [] e C
 |.cond c x y=>q11 e c λv=>match v with
  |.bool b=>Bif b
   (h (q63 x) a.a (q35 (λe' w'=>h r a.rest Q e' w') Q) e w)
   (h (q63 y) a.b (q35 (λe' w'=>h r a.rest Q e' w') Q) e w)
  |_=>False
 |.block id b=>h (q63 b) a.a (q4a id (λe' w'=>h r a.rest Q e' w') Q) e w
 |.loop b=>Lp λI μ=>
  (qa2 a.slots e λvs=>I vs w)/\
  qk9 (tys a.slots) λvs=>∀w',I vs w'->
   h (q63 b) a.a (q35 (λg d=>qa2 a.slots g λf=>I f d/\μ f d < μ vs w') Q) (q2c a.slots vs (qs7 (wr b) e)) w'
 |.exit id=>Q (.exit id) e w
 |.ret=>Q .ret e w
 |_=>False
def qx8(P:A3)(n:Nat):Nat->List Au->Ann->qh4->Env->A0->Prop
 |0,_,_,_,_,_=>False
 |_+1,[],_,Q,e,w=>Q .normal e w
 |f+1,c::r,h,Q,e,w=>match h with
  |.join k sl a1 a2=>Jn λJ=>
   qx8 P n f (Ax k (c::r)) a1 (q35 (λe' w'=>qa2 sl e' λvs=>J vs w') Q) e w/\
   qk9 (tys sl) λvs=>∀w',J vs w'->qx8 P n f (Bv k (c::r)) a2 Q (q2c sl vs (qs7 (wrs (Ax k (c::r))) e)) w'
  |h=>qa8 P n (qx8 P n f) c r h Q e w
def qcj(P:A3)(h:List Au->Ann->Bool)(c:Au)(r:List Au)(w:Ann):Bool:=
 match c with
 |.region _ ops draw=>(match draw with
  |false=>Ac
  |true=>P.follows .mixedOrders&&Region.noSelect ops&&Nat.ble w.ord.length ops.size&&(match w.two with
   |false=>drawOk P ops (qna ops.toList []) w.ord (Aw ops.size Ad)
   |true=>Two.drawOk P ops (qna ops.toList []) w.ord (Aw ops.size Ad)))&&h r w.rest
 |.cond _ x y=>h (q63 x) w.a&&h (q63 y) w.b&&h r w.rest
 |.block _ b=>h (q63 b) w.a&&h r w.rest
 |.loop b=>h (q63 b) w.a
 |.skip=>h r w.rest
 |_=>Ac
def chk(P:A3):Nat->List Au->Ann->Bool
 |0,_,_=>Ac
 |_+1,[],_=>Ac
 |f+1,c::r,h=>match h with
  |.join k _ a1 a2=>chk P f (Ax k (c::r)) a1&&chk P f (Bv k (c::r)) a2
  |h=>qcj P (chk P f) c r h
def wpL(P:A3):List Au->(By->Act->A0->Prop)->Act->A0->Prop
 |[],Q,a,w=>Q .normal a w
 |c::r,Q,a,w=>c.wp P (Exit.then (wpL P r Q) Q) a w
def Out(dfr:List Deferred)(n:Nat)(ws:List Nat)(a:Act)(Q:qh4):By->Act->A0->Prop
 |.panic _,_,_=>False
 |.outgrown,_,_=>False
 |x,h,w'=>∃e',Q x e' w'/\q71 dfr n e' h/\qp2 ws a h
def Out.mono{n:Nat}{ws b:List Nat}{a:Act}{Q d:qh4}(j:∀t,q83 b t=Ad->q83 ws t=Ad)(g:∀x e w,Q x e w->d x e w):∀x c w',Out dfr n ws a Q x c w'->Out dfr n b a d x c w':=by intro x c w' h;cases x<;>first|exact h.elim|(obtain⟨e',k,f,i⟩:=h;exact⟨e',g _ _ _ k,f,i.mono j⟩)
def Out.ahead{n:Nat}{ws w:List Nat}{a b:Act}{Q:qh4}(f:qp2 ws a b):∀x c w',Out dfr n w b Q x c w'->Out dfr n (ws++w) a Q x c w':=by intro x c w' h;cases x<;>first|exact h.elim|(obtain⟨e',g,d,e⟩:=h;exact⟨e',g,d,f.trans e⟩)
def qld{P:A3}{n:Nat}{i:Array Aq}{Q:By->Act->A0->Prop} :
 ∀(l:List Aq) (e:Env) (w:A0) (K:Env->A0->Prop) (a a0:Act),qh9 P n i l e w K->q71 dfr n e a->
  (∀e' x w',K e' w'->q71 dfr n e' x->qp2 (quc l) a x->Q .normal x w')->wpListIn Ay 0 P i Q l a w
 |[],e,w,K,a,_,h,p,A=>A e a w h p (z16 _ _)
 |o::r,e,w,K,a,a0,h,p,A=>by
  have step:∀(m:Env),q71 dfr n m a->opR P r o m w (λv w'=>qc2 n o.dst v m λe'=>qh9 P n i r e' w' K)->o.wpIn Ay 0 P a w (wpListIn Ay 0 P i Q r) Q:=by intro m c D;refine qhs D c λv w' I=>?_;obtain⟨G,H,q,y⟩:=qn3 I c;exact qld r G w' K _ a H q λe' x u C t g=>A e' x u C t (y.trans g)
  have skip:∀(m:Env),q71 dfr n m a->qh9 P n i r (q72 o.dst m) w K->(∀f,o.about P w a.eval=A2 f->Ay.fn f)/\wpListIn Ay 0 P i Q r (a.put o.dst undef) w:=by intro m c D;obtain⟨q,y⟩:=qle (d:=o.dst) c;exact⟨λf _=>trivial,qld r _ w K _ a D q λe' x u C t g=>A e' x u C t (y.trans g)⟩
  unfold wpListIn;simp only[qh9]at h;split at h
  .rename_i B;simp only[Bq,B,if_true];exact step e p h
  .rename_i j k B;split at h;.exact h.elim
   .rename_i s F;split at h
    .rename_i b z;have E:=qse p F z;simp only[Bq,B,E];cases b with
     |true=>
      have c:=qn8 p z Ac rfl;simp only[Bif]at h;cases k with
      |true=>simp only[beq_self_eq_true,if_true];exact step _ c h
      |false=>simp only[show(A2 Ac==A2 Ad)=Ad from rfl,Az,if_false];exact skip _ c h
     |false=>
      have c:=qn8 p z Ad rfl;simp only[Bif]at h;cases k with
      |false=>simp only[beq_self_eq_true,if_true];exact step _ c h
      |true=>simp only[show(A2 Ad==A2 Ac)=Ad from rfl,Az,if_false];exact skip _ c h
    .rename_i J z;have E:=qka p F z;simp only[Bq,B,E,show(Af==A2 k)=Ad from rfl,Az,if_false];exact skip _ p h
    .exact h.elim
def qml{P:A3}{c:Au}{r:List Au}{Q:By->Act->A0->Prop}{a:Act}{w:A0}(h:c.wp P (Exit.then (wpL P r Q) Q) a w):wpL P (c::r) Q a w:=h
def qk8{P:A3}:∀{l:List Au} {Q d:By->Act->A0->Prop} {a:Act} {w:A0},(∀x a w,Q x a w->d x a w)->wpL P l Q a w->wpL P l d a w
 |[],_,_,_,_,b,h=>b _ _ _ h
 |c::r,Q,d,_,_,b,h=>by refine Aa (λx a w e=>?_) h;cases x<;>first|exact b _ _ _ e|exact qk8 b e
def qpi{P:A3}:∀{l m:List Au} {Q:By->Act->A0->Prop} {a:Act} {w:A0},wpL P l (Exit.then (wpL P m Q) Q) a w->wpL P (l++m) Q a w
 |[],_,_,_,_,h=>h
 |c::r,m,Q,_,_,h=>by refine Aa (λx a w b=>?_) h;cases x<;>first|exact b|exact qpi b
def qel{P:A3}{l:List Au}(k:Nat){Q:By->Act->A0->Prop}{a:Act}{w:A0}(h:wpL P (Ax k l) (Exit.then (wpL P (Bv k l) Q) Q) a w):wpL P l Q a w:=by have:=qpi h;rwa[Bi]at this
def qk7:∀{sl:List (Nat×Ty)} {e:Env} {K:List A1->Prop},qa2 sl e K->∃vs,qbh (tys sl) vs/\K vs/\vs.length=sl.length/\(∀(i s:Nat) (t:Ty),sl[i]?=A2 (s,t)->∃v,vs[i]?=A2 v/\q23 e s=A2 v)
 |[],_,_,h=>⟨[],trivial,h,rfl,by simp⟩
 |(s,t)::r,e,K,h=>by
  simp only[qa2]at h;split at h
  .rename_i v g;obtain⟨f,h⟩:=q7t h;obtain⟨vs,w,d,j,c⟩:=qk7 h;refine⟨v::vs,⟨f,w⟩,d,by simp[j],λi s' b a=>?_⟩;cases i with
   |zero=>simp at a;obtain⟨rfl,rfl⟩:=a;exact⟨v,rfl,g⟩
   |succ i=>exact c i s' b (by simpa using a)
  .exact h.elim
def qpe{n:Nat}{a:Act}:∀{sl:List (Nat×Ty)} {vs:List A1} {e:Env},q71 dfr n e a->(∀(i s:Nat) (t:Ty) (v:A1),sl[i]?=A2 (s,t)->vs[i]?=A2 v->a.tmps.getD s undef=v)->q71 dfr n (q2c sl vs e) a
 |[],_,_,w,_=>by simpa [q2c]using w
 |_::_,[],_,w,_=>by simpa [q2c]using w
 |(s,t)::r,v::vs,e,w,h=>by
  have d:=qpe (sl:=r) (vs:=vs) w (λi s' c f j g=>h (i+1) s' c f (by simpa using j) (by simpa using g));refine⟨d.defers,d.size,λc f b=>?_⟩;simp only[q2c,q23]at b;cases hb:C9 s c with
  |true=>simp only[hb,cond_true,B4]at b;have:=Ar hb;subst this;subst b;exact h 0 s t v yR yR
  |false=>simp only[hb,cond_false]at b;exact d.val c f b
def qkh(l m:List Au):wrs (l++m)=wrs l++wrs m:=by
 induction l with
 |nil=>rfl
 |cons c r h=>simp[wrs,h]
def qkx(dfr:List Deferred)(P:A3)(n:Nat)(c:List Au->Ann->Bool)(h:Rec):Prop:=∀(l:List Au) (b:Ann) (Q:qh4) (e:Env) (w:A0) (a:Act),
 c l b=Ac->h l b Q e w->q71 dfr n e a->wpL P l (Out dfr n (wrs l) a Q) a w
def qic(c:Au)(t:Nat):q83 (wrs (q63 c)) t=q83 (wr c) t:=by
 induction c with
 |seq a b h w=>simp only[q63,qkh,wr,q87,h,w]
 |_=>simp[q63,wrs,q87,q83]
def qo9{P:A3}(c:Au):∀{Q:By->Act->A0->Prop} {a:Act} {w:A0},wpL P (q63 c) Q a w->c.wp P Q a w:=by
 induction c with
 |seq x y e d=>
  intro Q a w h;have split:∀(l m:List Au) (a:Act) (w:A0),wpL P (l++m) Q a w->wpL P l (Exit.then (wpL P m Q) Q) a w:=by
   intro l m;induction l with
   |nil=>intro a w h;exact h
   |cons c r ih=>intro a w h;refine Aa (λx a w b=>?_) h;cases x<;>first|exact b|exact ih _ _ b
  refine wp_seq (Aa (λx a w b=>?_) (e (split _ _ _ _ h)));cases x<;>first|exact b|exact d b
 |_=>intro Q a w h;exact Aa (λx f w' b=>by cases x<;>exact b) h
def Out.leave{n:Nat}{ws w:List Nat}{a:Act}{Q:qh4}(x:By){b:Act}{w':A0}(c:∀t,q83 w t=Ad->q83 ws t=Ad)(h:Out dfr n ws a Q x b w'):Out dfr n w a Q x b w':=
 Out.mono c (λ_ _ _ h=>h) x b w' h
def qao{P:A3}{n:Nat}{Z:List Au->Ann->Bool}{K:Rec}(O:qkx dfr P n Z K){c:Au}{r:List Au}{u:Ann}{Q:qh4}{e:Env}{w:A0}{a:Act}
 (B:qcj P Z c r u=Ac) (h:qa8 P n K c r u Q e w) (G:q71 dfr n e a):wpL P (c::r) (Out dfr n (wrs (c::r)) a Q) a w:=by
 -- what stands f the first statement
 have f:Z r u.rest=Ac->∀(ws:List Nat) (e':Env) (d:Act) (w':A0),K r u.rest Q e' w'->q71 dfr n e' d->qp2 ws a d->wpL P r (Out dfr n (ws++wrs r) a Q) d w':=
  λH ws e' d w' W E B=>qk8 (Out.ahead B) (O r u.rest Q e' w' d H W E)
 -- how a part's ways out become the whole's
 have ways:Z r u.rest=Ac->∀(ws:List Nat) (x:By) (d:Act) (w':A0),Out dfr n ws a (q35 (λe' w'=>K r u.rest Q e' w') Q) x d w'->Exit.then (wpL P r (Out dfr n (ws++wrs r) a Q)) (Out dfr n (ws++wrs r) a Q) x d w':=by
  intro H ws x d w' g;cases x with
  |normal=>obtain⟨e',p,m,q⟩:=g;exact f H ws e' d w' p m q
  |panic _=>exact g.elim
  |outgrown=>exact g.elim
  |exit i=>obtain⟨e',p,m,q⟩:=g;exact⟨e',p,m,q.mono λt k=>qr2 k⟩
  |goto i=>obtain⟨e',p,m,q⟩:=g;exact⟨e',p,m,q.mono λt k=>qr2 k⟩
  |ret=>obtain⟨e',p,m,q⟩:=g;exact⟨e',p,m,q.mono λt k=>qr2 k⟩
 refine qml ?_;cases c with
 |skip=>exact wp_skip (f B [] e a w h G (z16 _ _))
 |region id ops draw=>
  simp only[qcj,A5]at B;obtain⟨B,H⟩:=B;cases draw with
  |false=>refine wpIn_wide.1 (wpIn_region_list (F:=Ay) (n:=0) ?_);exact qld ops.toList e w _ a a h G λe' d w' B E A=>f H _ e' d w' B E A
  |true=>
   simp only[qa8]at h
   .simp only[A5]at B;obtain⟨⟨⟨hm,Y⟩,hl⟩,J⟩:=B;have hl:=Bj hl;obtain⟨C,hC,M⟩:=h;have L:∀(l:List Aq) (i:Nat) (o:Aq),l[i]?=A2 o->∀t,q83 (quc l) t=Ad->q83 o.dst.toList t=Ad:=by
     intro l;induction l with
     |nil=>intro i o h;simp at h
     |cons x r O=>
      intro i o h t k;simp only[quc]at k;cases i with
      |zero=>simp at h;subst h;exact qr2 k
      |succ i=>exact O i o (by simpa using h) t (qyc k)
    have U:q37 ops (Aw ops.size Ad):=λj o V hj=>by
     rcases An j ops.size with W|W;.simp[W]at hj
     .simp[Bg W]at V
    cases m:u.two with
    |false=>
     simp only[m]at M J;rw[<-drawC_eq _ _ J]at M;have key:=drawC_sound (Q:=λd w'=>wpL P r (Out dfr n (wrs (.region id ops Ac::r)) a Q) d w') qsc Y (quc ops.toList) a (λi o V=>L ops.toList i o (by simpa using V))
      (λe' d w' B E A=>f H _ e' d w' B E A) u.ord (ops.size - u.ord.length) _ [] [] e C a M G (z16 _ _) U trivial (λx g=>by cases g) (λx g=>by cases g)
     rw[show u.ord.length+(ops.size - u.ord.length)=ops.size by omega]at key;exact wp_region_any hm (wpAny_of_AnyC (λa w h=>h) _ _ _ _ C [] _ (C.drew _ _ hC) key)
    |true=>
     simp only[m]at M J;rw[<-Two.drawC_eq _ _ J]at M;have key:=Two.drawC_sound (Q:=λd w'=>wpL P r (Out dfr n (wrs (.region id ops Ac::r)) a Q) d w') qsc Y (quc ops.toList) a (λi o V=>L ops.toList i o (by simpa using V))
      (λe' d w' B E A=>f H _ e' d w' B E A) u.ord (ops.size - u.ord.length) _ [] [] e C a M G (z16 _ _) U trivial (λx g=>by cases g) (λx g=>by cases g)
     rw[show u.ord.length+(ops.size - u.ord.length)=ops.size by omega]at key;exact wp_region_any hm (Two.wpAny_of_AnyC (λa w h=>h) _ _ _ _ C [] _ (C.drew _ _ hC) key)
 |cond c x y=>
  simp only[qcj,A5]at B;obtain⟨⟨g,hy⟩,H⟩:=B;have h:=ql h G;split at h
  .rename_i b N;refine wp_cond N ?_;cases b with
   |true=>refine Aa (λx d w' g=>?_) (qo9 _ (O _ _ _ _ _ _ g h G));refine ways H (wr (.cond c _ y)) x d w' (Out.leave x (λt k=>?_) g);simp only[wr]at k;rw[qic];exact qr2 k
   |false=>refine Aa (λx d w' g=>?_) (qo9 _ (O _ _ _ _ _ _ hy h G));refine ways H (wr (.cond c _ y)) x d w' (Out.leave x (λt k=>?_) g);simp only[wr]at k;rw[qic];exact qyc k
  .exact h.elim
 |block id b=>
  simp only[qcj,A5]at B;obtain⟨hb0,H⟩:=B;refine wp_block ?_;refine Aa (λx d w' g=>?_) (qo9 _ (O _ _ _ _ _ _ hb0 h G));have g:Out dfr n (wr (.block id b)) a _ x d w':=Out.leave x (λt k=>by rw[qic];simpa [wr]using k) g;cases x with
  |normal=>obtain⟨e',p,m,q⟩:=g;exact f H _ e' d w' p m q
  |panic _=>exact g.elim
  |outgrown=>exact g.elim
  |exit i=>
   obtain⟨e',p,m,q⟩:=g;simp only[Exit.inBlock];simp only[q4a]at p;split at p
   .rename_i N;rw[yB (Ar N)];exact f H _ e' d w' p m q
   .rename_i N;rw[yA (λe=>by subst e;simp at N)];exact⟨e',p,m,q.mono λt k=>qr2 k⟩
  |goto i=>obtain⟨e',p,m,q⟩:=g;exact⟨e',p,m,q.mono λt k=>qr2 k⟩
  |ret=>obtain⟨e',p,m,q⟩:=g;exact⟨e',p,m,q.mono λt k=>qr2 k⟩
 |loop b=>
  have hck:=B;obtain⟨I,μ,h0,hr⟩:=h;let z:Act->List A1:=λd=>u.slots.map λs=>d.tmps.getD s.1 undef;have D:∀(d:Act) (e':Env) (vs:List A1),q71 dfr n e' d->vs.length=u.slots.length->(∀(i s:Nat) (t:Ty),u.slots[i]?=A2 (s,t)->∃v,vs[i]?=A2 v/\q23 e' s=A2 v)->vs=z d:=by
   intro d e' vs R hl hg;refine Ao λi=>?_;rcases An i u.slots.length with T|T
   .obtain⟨v,hv,hgv⟩:=hg i u.slots[i].1 u.slots[i].2 (by rw[Ab T]);have hu:=R.val _ _ hgv;rw[hv,B5,Ab T];exact yE A2 hu.symm
   .rw[Ag (by omega),Ag (by simpa [z]using T)]
  refine wp_loop (λd w'=>qbh (tys u.slots) (z d)/\I (z d) w'/\qp2 (wr b) a d/\d.defers=dfr/\d.tmps.size=n) (λd w'=>μ (z d) w') ?_ ?_
  .obtain⟨vs,p,m,q,h4⟩:=qk7 h0;have:=D a e vs G q h4;subst this;exact⟨p,m,z16 _ _,G.defers,G.size⟩
  .intro X w1 ⟨k,hI,B,M,Y⟩;have R:q71 dfr n (q2c u.slots (z X) (qs7 (wr b) e)) X:=qpe (G.drop B M Y) λi s t v T hv=>by simp only[z,B5,T,Option.map_some,B4]at hv;exact hv
   have N:=O _ _ _ _ _ _ hck (q8c hr k w1 hI) R;refine Aa (λx d w' g=>?_) (qo9 _ N);have g:Out dfr n (wr b) X _ x d w':=Out.leave x (λt k=>by rw[qic];exact k) g;have kk:∀{d:Act},qp2 (wr b) X d->qp2 (wr b) a d:=λh=>(B.trans h).mono λt k=>by rw[q87,k];rfl
   cases x with
   |normal=>obtain⟨e',p,m,q⟩:=g;obtain⟨vs,g1,g2,g3,g4⟩:=qk7 p;have:=D d e' vs m g3 g4;subst this;exact⟨⟨g1,g2.1,kk q,m.defers,m.size⟩,g2.2⟩
   |panic _=>exact g.elim
   |outgrown=>exact g.elim
   |exit i=>obtain⟨e',p,m,q⟩:=g;exact⟨e',p,m,(kk q).mono λt k=>by have:=qr2 k;simpa [wr]using this⟩
   |goto i=>obtain⟨e',p,m,q⟩:=g;exact⟨e',p,m,(kk q).mono λt k=>by have:=qr2 k;simpa [wr]using this⟩
   |ret=>obtain⟨e',p,m,q⟩:=g;exact⟨e',p,m,(kk q).mono λt k=>by have:=qr2 k;simpa [wr]using this⟩
 |exit id=>exact wp_exit ⟨e,h,G,z16 _ _⟩
 |ret=>exact wp_ret ⟨e,h,G,z16 _ _⟩
 |_=>exact h.elim
def qtd{P:A3}{n:Nat}:∀(f:Nat),qkx dfr P n (chk P f) (qx8 P n f):=by
 intro f;induction f with
 |zero=>intro l y Q e w a _ h;exact h.elim
 |succ f D=>
  intro l y Q e w a g h B;cases l with
  |nil=>exact⟨e,h,B,z16 _ _⟩
  |cons c r=>
   have d:∀y,qcj P (chk P f) c r y=Ac->qa8 P n (qx8 P n f) c r y Q e w->wpL P (c::r) (Out dfr n (wrs (c::r)) a Q) a w:=λy g h=>qao D g h B;cases y with
   |join k sl a1 a2=>
    obtain⟨J,m,q⟩:=h;simp only[chk,A5]at g;have m:=D _ _ _ _ _ _ g.1 m B;have G:=g.2;have e0:wrs (c::r)=wrs (Ax k (c::r))++wrs (Bv k (c::r)):=by rw[<-qkh,Bi]
    rw[e0];refine qel k (qk8 (λx I w' z=>?_) m);cases x with
    |normal=>
     obtain⟨e',F,j,g⟩:=z;obtain⟨vs,C,F,K,L⟩:=qk7 F;have p:=q8c q C w' F;have R:q71 dfr n (qs7 (wrs (Ax k (c::r))) e) I:=B.drop g j.defers j.size;have M:q71 dfr n (q2c sl vs (qs7 (wrs (Ax k (c::r))) e)) I:=qpe R λi s t v N O=>by obtain⟨u,H,E⟩:=L i s t N;rw[O]at H;cases H;exact j.val _ _ E
     exact qk8 (Out.ahead g) (D _ _ _ _ _ _ G p M)
    |panic _=>exact z.elim
    |outgrown=>exact z.elim
    |exit i=>obtain⟨e',m,q,p⟩:=z;exact⟨e',m,q,p.mono λt A=>qr2 A⟩
    |goto i=>obtain⟨e',m,q,p⟩:=z;exact⟨e',m,q,p.mono λt A=>qr2 A⟩
    |ret=>obtain⟨e',m,q,p⟩:=z;exact⟨e',m,q,p.mono λt A=>qr2 A⟩
   |nil=>exact d _ g h
   |step a b r=>exact d _ g h
   |loop sl b=>exact d _ g h
   |draw o b=>exact d _ g h
   |draw2 o b=>exact d _ g h
def q66(P:A3):List C3->Env->A0->(List A1->Prop)->Prop
 |[],_,_,K=>K []
 |.tmp t::r,e,w,K=>q11 e (.tmp t) λv=>q66 P r e w λvs=>K (v::vs)
 |.cell a t::r,e,w,K=>q11 e (.tmp a) λp=>ldK P t p w λv _=>q66 P r e w λvs=>K (v::vs)
def tup:List A1->A1
 |[v]=>v
 |vs=>.tuple vs.toArray
def qpz(P:A3)(fn:Func)(R:A1->A0->Prop):qh4:=λx e w=>
 match x with
 |.normal=>q66 P fn.results.toList e w λvs=>R (tup vs) w
 |.ret=>q66 P fn.results.toList e w λvs=>R (tup vs) w
 |_=>False
def qf4:Nat->List A1->Env
 |_,[]=>[]
 |i,v::r=>(i,v)::qf4 (i+1) r
def qrp(P:A3)(f:C8)(h:Ann)(args:List A1)(w:A0)(R:A1->A0->Prop):Prop:=
 match P.funcs[f]? with
 |some fn=>match fn.body,Nat.ble args.length fn.ntmps with
  |some c,Ac=>qx8 P fn.ntmps 3000 (q63 c) h (qpz P fn R) (qf4 0 args) w
  |_,_=>False
 |none=>False
def qsi:∀(l:List A1) (i t:Nat) (v:A1),q23 (qf4 i l) t=A2 v->i<=t/\l[t - i]?=A2 v
 |[],_,_,_,h=>by simp[qf4,q23]at h
 |u::r,i,t,v,h=>by
  simp only[qf4,q23]at h;cases hb:C9 i t with
  |true=>have:=Ar hb;subst this;simp only[hb,cond_true,B4]at h;simp[h]
  |false=>simp only[hb,cond_false]at h;obtain⟨a,w⟩:=qsi r (i+1) t v h;refine⟨by omega,?_⟩;rw[show t - i=(t -(i+1))+1 by omega];simpa using w
def q0i(tmps:Array A1):C3->Sem A1
 |.tmp t=>pure (tmps.getD t undef)
 |.cell c t=>do loadVar t (<-asAddr (tmps.getD c undef))
def qgq(fn:Func)(tmps:Array A1):results fn tmps=(do let vs <-fn.results.mapM (q0i tmps);pure (if h:vs.size=1 then vs[0]else .tuple vs)):=rfl
def q5e{P:A3}{n:Nat}{a:Act}{w:A0}:∀{l:List C3} {e:Env} {K:List A1->Prop},q66 P l e w K->q71 dfr n e a->
 ∃vs,K vs/\(l.mapM (q0i a.tmps)).run P w=.ok vs w
 |[],_,_,h,_=>⟨[],h,rfl⟩
 |.tmp t::r,e,K,h,b=>by have i:=ql h b;obtain⟨vs,d,g⟩:=q5e i b;refine⟨_,d,?_⟩;simp only[Bz,q0i,A8,Aj,A4,g];rfl
 |.cell c t::r,e,K,h,b=>by
  have i:=ql h b;obtain⟨u,d,f⟩:=q1n i;obtain⟨vs,d,g⟩:=q5e d b;refine⟨_,d,?_⟩;have k:(do loadVar t (<-asAddr (a.tmps.getD c undef)):Sem A1).run P w=.ok u w:=by
   simp only[Instr.loadAt,A8]at f⊢;have j:a.eval (.tmp c)=a.tmps.getD c undef:=rfl;rw[j]at f;generalize a.tmps.getD c undef=p at*;cases p with
   |pointer p=>cases p with
    |some ad=>simpa [asAddr,Instr.sureAddr]using f
    |none=>simp[Instr.sureAddr,stuck]at f
   |_=>simp[Instr.sureAddr,stuck]at f
  have m:(q0i a.tmps (.cell c t)).run P w=.ok u w:=k;simp only[Bz,A8,m,A4,g];rfl
def q77{P:A3}{n:Nat}{fn:Func}{a:Act}{e:Env}{w:A0}{R:A1->A0->Prop}(h:q66 P fn.results.toList e w λvs=>R (tup vs) w)(d:q71 dfr n e a):
 ∃v,(results fn a.tmps).run P w=.ok v w/\R v w:=by
 obtain⟨vs,c,b⟩:=q5e h d;refine⟨_,?_,c⟩;rw[qgq,Array.mapM_eq_mapM_toList];simp only[A8,Sem.run_map,b,A4,Aj];congr 1
 match vs with
 |[]=>rfl
 |[v]=>rfl
 |v::u::r=>rfl
def qxv(P:A3)(f:C8)(h:Ann):Bool:=
 match P.funcs[f]? with
 |some fn=>match fn.body with
  |some c=>chk P 3000 (q63 c) h
  |none=>Ac
 |none=>Ac
def qf2{P:A3}{f:C8}(o:Ann){args:List A1}{w:A0}{R:A1->A0->Prop}(h:qrp P f o args w R)(g:qxv P f o=Ac:=by kernel_rfl):qb P f args.toArray w R:=by
 unfold qrp at h;unfold qxv at g;split at h
 .rename_i fn m;rw[m]at g;split at h
  .rename_i c n e;simp only[n]at g;have e:=Bj e;refine calls_of_wp m n ?_;have p:q71 [] fn.ntmps (qf4 0 args) { tmps:=args.toArray++Aw (fn.ntmps - args.toArray.size) undef,defers:=[]}:=by
    refine⟨rfl,by simp;omega,λt v q=>?_⟩;obtain⟨_,a⟩:=qsi _ _ _ _ q;have l:t<args.length:=by
     rcases An t args.length with h|h;.exact h
     .rw[Nat.sub_zero,Ag h]at a;cases a
    rw[Array.getD_eq_getD_getElem?,Array.getElem?_append_left (by simpa using l)];simpa using yE (Option.getD · undef) a
   refine qo9 c (qk8 (λx r w' d=>?_) (qtd 3000 _ _ _ _ _ _ g h p));cases x with
   |normal=>obtain⟨e',b,a,_⟩:=d;obtain⟨v,j,k⟩:=q77 b a;exact⟨a.defers,v,j,v,rfl,k⟩
   |ret=>obtain⟨e',b,a,_⟩:=d;obtain⟨v,j,k⟩:=q77 b a;exact⟨a.defers,v,j,v,rfl,k⟩
   |panic _=>exact d.elim
   |outgrown=>exact d.elim
   |exit i=>obtain⟨e',b,_⟩:=d;exact b.elim
   |goto i=>obtain⟨e',b,_⟩:=d;exact b.elim
  .exact h.elim
 .exact h.elim
def Ann.s(r:Ann):Ann:=.step .nil .nil r
def Ann.dw(l:List Nat)(r:Ann):Ann:=.draw (l.map λn=>(n/2,n%2==1)) r
def Ann.dv(l:List Nat)(r:Ann):Ann:=.draw2 (l.map λn=>(n/2,n%2==1)) r
abbrev KK:=A1->A0->Prop
abbrev vi(x:Int):A1:=.int Zk x
abbrev ad(b j:Nat):Ah:=Za ⟨b,0,Af⟩ j
end
def q7d(o:Aq):Bool:=match o.op with|.defer _=>Ac|_=>Ad
def q1e{o:Aq}(h:q7d o=Ad):∀c,o.op≠.defer c:=λc e=>by unfold q7d at h;rw[e]at h;cases h
def qv5(o:Aq):Bool:=o.guard.isNone&&!q7d o
def qy7(P:A3)(n:Nat):List Aq->Env->A0->(Env->A0->Prop)->Prop
 |[],e,w,K=>K e w
 |o::r,e,w,K=>opX P r o e w λv w'=>qc2 n o.dst v e λe'=>qy7 P n r e' w' K
def qwi{F:Fence}(j:qx4 F){P:A3}{n:Nat}{g:Array Aq}{Q:By->Act->A0->Prop}{K:Env->A0->Prop}(i:∀e' m w',K e' w'->qs1 n e' m->Q .normal m w'):
 ∀(l:List Aq) (e:Env) (w:A0) (a:Act),l.all qv5=Ac->qy7 P n l e w K->qs1 n e a->wpListIn F 0 P g Q l a w
 |[],e,w,a,_,h,b=>i e a w h b
 |o::r,e,w,a,k,h,b=>by simp only[List.all_cons,A5]at k;obtain⟨c,p⟩:=k;unfold qv5 at c;simp only[A5,Bool.not_eq_true',Option.isNone_iff_eq_none]at c;refine wpListIn_plain c.1 λu d=>qz1.wpIn j (q8h h b) (.inr (q1e c.2)) λv w' q=>d _ _ ?_;obtain⟨s,t,f,_⟩:=qn3 q b;exact qwi j i r s w' _ p t f
def qk6{F:Fence}(g:qx4 F){P:A3}{n id:Nat}{b:Array Aq}{Q:By->Act->A0->Prop}{K:Env->A0->Prop}{e:Env}{w:A0}{a:Act}(i:b.toList.all qv5=Ac)(h:qy7 P n b.toList e w K)(d:qs1 n e a)
 (f:∀e' c w',K e' w'->qs1 n e' c->Q .normal c w'):(Code.region id b Ad).wpIn F 0 P Q a w:=
 wpIn_region_list (qwi g f _ _ _ _ i h d)
def qi6(a:Act):Act:={ a with defers:=[]}
def opL(P:A3)(o:Aq)(e:Env)(w:A0)(K:A1->A0->Prop):Prop:=
 match o.op with
 |.load t x=>q11 e x λv=>ldK P t v w K
 |_=>opP P o e λv=>K v w
def qwo{P:A3}{n:Nat}{o:Aq}{e:Env}{w:A0}{K:A1->A0->Prop}{a:Act}(h:opL P o e w K)(c:qs1 n e a):∃v,K v w/\(execOp a.eval o).run P w=.ok (.value v) w:=by
 unfold opL at h;split at h
 .rename_i t x g;obtain⟨u,b,d⟩:=q1n (ql h c);exact⟨u,b,by simp only[execOp,g,A8,d];rfl⟩
 .obtain⟨v,b,f⟩:=q7c h c;exact⟨v,b,f w⟩
def q5f(P:A3)(n:Nat):List Aq->Env->A0->(Env->A0->Prop)->Prop
 |[],e,w,K=>K e w
 |o::r,e,w,K=>opL P o e w λv w'=>qc2 n o.dst v e λe'=>q5f P n r e' w' K
section
abbrev Hp:=Nat->Option Obj
abbrev Asn:=Hp->Prop
def qff(w:A0):Hp:=λb=>w.heap[b]?
def qq6(h H:Hp):Prop:=∀b o,h b=A2 o->H b=A2 o
def qh6(H h:Hp):Hp:=λb=>match h b with|some _=>Af|none=>H b
def Own:List Asn->Hp->Prop
 |[],_=>True
 |A::r,H=>∃h,qq6 h H/\A h/\Own r (qh6 H h)
def qq6.refl(h:Hp):qq6 h h:=λ_ _ h=>h
def qq6.trans{a b c:Hp}(h:qq6 a b)(k:qq6 b c):qq6 a c:=λx o w=>k x o (h x o w)
def qq6.cut(H h:Hp):qq6 (qh6 H h) H:=λb o w=>by
 unfold qh6 at w;split at w;.cases w
 .exact w
def qil{H a:Hp}(c:qq6 H a)(h:Hp):qq6 (qh6 H h) (qh6 a h):=λb o w=>by
 unfold qh6 at*;split at w;.cases w
 .exact c b o w
def Own.mono:∀{l:List Asn} {H w:Hp},qq6 H w->Own l H->Own l w
 |[],_,_,_,_=>trivial
 |A::r,H,w,a,⟨h,d,b,c⟩=>⟨h,d.trans a,b,Own.mono (qil a h) c⟩
def Own.swap{A B:Asn}{r:List Asn}{H:Hp}:Own (A::B::r) H->Own (B::A::r) H:=by
 rintro⟨h,f,c,g,a,e,d⟩;refine⟨g,a.trans (qq6.cut _ _),e,h,λb o w=>?_,c,Own.mono (λb o w=>?_) d⟩
 .unfold qh6;cases hg:g b with
  |some u=>have:=a b u hg;unfold qh6 at this;rw[w]at this;cases this
  |none=>exact f b o w
 .unfold qh6 at w⊢;cases hg:g b with
  |some u=>simp[hg]at w
  |none=>
   simp only[hg]at w;cases hh:h b with
   |some u=>simp[hh]at w
   |none=>simpa [hh]using w
def Own.tail{A:Asn}{r:List Asn}{H:Hp}:Own (A::r) H->Own r H:=λ⟨h,_,_,w⟩=>Own.mono (qq6.cut _ _) w
def Own.imp{A B:Asn}(a:∀h,A h->B h){r:List Asn}{H:Hp}:Own (A::r) H->Own (B::r) H:=λ⟨h,c,w,b⟩=>⟨h,c,a h w,b⟩
def Own.rest{A:Asn}{r s:List Asn}(a:∀h,Own r h->Own s h){H:Hp}:Own (A::r) H->Own (A::s) H:=λ⟨h,c,w,b⟩=>⟨h,c,w,a _ b⟩
def Own.perm{l m:List Asn}(a:l.Perm m):∀{H:Hp},Own l H->Own m H:=by
 induction a with
 |nil=>exact λh=>h
 |cons x _ ih=>exact λh=>h.rest λ_ k=>ih k
 |swap x y l=>exact λh=>h.swap
 |trans _ _ w ih2=>exact λh=>ih2 (w h)
def qz(l:List Asn):Asn:=λh=>Own l h
def exA{α:Type}(F:α->Asn):Asn:=λh=>∃x,F x h
def prA(p:Prop):Asn:=λ_=>p
def Own.of_sep:∀{l r:List Asn} {H:Hp},Own (qz l::r) H->Own (l++r) H
 |[],r,H,h=>h.tail
 |A::l,r,H,⟨h,c,⟨g,a,e,d⟩,f⟩=>by
  refine⟨g,a.trans c,e,Own.of_sep (l:=l) ⟨qh6 h g,qil c g,d,Own.mono (λb o w=>?_) f⟩⟩;unfold qh6 at w⊢;cases hh:h b with
  |some u=>simp[hh]at w
  |none=>
   simp only[hh]at w;cases hg:g b with
   |some u=>rw[a b u hg]at hh;cases hh
   |none=>exact w
def Own.to_sep:∀{l r:List Asn} {H:Hp},Own (l++r) H->Own (qz l::r) H
 |[],r,H,h=>⟨λ_=>Af,λb o w=>by(cases w),trivial,h⟩
 |A::l,r,H,⟨g,e,d,h⟩=>by
  obtain⟨h,i,c,f⟩:=Own.to_sep (l:=l) (r:=r) h;have key:∀b o,h b=A2 o->g b=Af/\H b=A2 o:=λb o w=>by
   have:=i b o w;unfold qh6 at this;cases hg:g b with
   |some u=>simp[hg]at this
   |none=>exact⟨rfl,by simpa [hg]using this⟩
  refine⟨λb=>match g b with|some u=>A2 u|none=>h b,λb o w=>?_,⟨g,λb o w=>by simp[w],d,Own.mono (λb o w=>?_) c⟩,Own.mono (λb o w=>?_) f⟩
  .simp only at w;cases hg:g b with
   |some x=>rw[hg]at w;cases w;exact e b _ hg
   |none=>rw[hg]at w;exact(key b o w).2
  .unfold qh6;simp[(key b o w).1,w]
  .unfold qh6 at w⊢;cases a:h b with
   |some u=>simp[a]at w
   |none=>
    simp only[a]at w;cases hg:g b with
    |some u=>simp[hg]at w
    |none=>simp only[hg,a]at w⊢;exact w
structure Same(W w:A0):Prop where
 os:w.os=W.os
 tape:w.tape=W.tape
 output:w.output=W.output
 size:W.heap.size<=w.heap.size
def St(W:A0)(l:List Asn)(w:A0):Prop:=Same W w/\Own l (qff w)
section
variable{W w:World}{l r:List Asn}{A B C D E:Asn}
def St.perm{m:List Asn}(h:St W l w)(a:l.Perm m):St W m w:=⟨h.1,h.2.perm a⟩
def St.drop(h:St W (A::r) w):St W r w:=⟨h.1,h.2.tail⟩
def St.imp(h:St W (A::r) w)(a:∀h,A h->B h):St W (B::r) w:=⟨h.1,h.2.imp a⟩
def St.p1(h:St W (A::B::r) w):St W (B::A::r) w:=⟨h.1,h.2.swap⟩
def St.p2(h:St W (A::B::C::r) w):St W (C::A::B::r) w:=h.perm (((List.Perm.swap C B r).cons A).trans (List.Perm.swap C A (B::r)))
def St.pull(l₁:List Asn)(h:St W (l₁++A::r) w):St W (A::(l₁++r)) w:=h.perm Bc
def St.push(l₁:List Asn)(h:St W (A::(l₁++r)) w):St W (l₁++A::r) w:=h.perm Bc.symm
def St.of_sep(h:St W (qz l::r) w):St W (l++r) w:=⟨h.1,h.2.of_sep⟩
def St.to_sep(h:St W (l++r) w):St W (qz l::r) w:=⟨h.1,h.2.to_sep⟩
def St.of_ex{α:Type}{F:α->Asn}(h:St W (exA F::r) w):∃x,St W (F x::r) w:=by obtain⟨c,g,a,⟨x,b⟩,d⟩:=h;exact⟨x,c,g,a,b,d⟩
def St.to_ex{α:Type}{F:α->Asn}(x:α)(h:St W (F x::r) w):St W (exA F::r) w:=h.imp λ_ h=>⟨x,h⟩
def St.of_pr{p:Prop}(h:St W (prA p::r) w):p/\St W r w:=by obtain⟨b,g,d,a,c⟩:=h;exact⟨a,b,Own.mono (qq6.cut _ _) c⟩
def St.to_pr{p:Prop}(a:p)(h:St W r w):St W (prA p::r) w:=⟨h.1,λ_=>Af,λb o c=>by(cases c),a,h.2⟩
def St.drew(h:St W l w):St W l { w with drawn:=w.drawn+1}:=⟨⟨h.1.os,h.1.tape,h.1.output,h.1.size⟩,h.2⟩
def St.refl(W:A0):St W [] W:=⟨⟨rfl,rfl,rfl,Am _⟩,trivial⟩
end
def Pt(b:Nat)(o:Obj):Asn:=λh=>h b=A2 o
def Row(b:Nat)(t:A7)(cs:List A1):Asn:=λh=>∃(c:Array A1) (w:Nat×Nat),h b=A2 (.cells c t w)/\c.toList=cs/\∀i,i<cs.length->¬(w.1<=i/\i<w.2)
def q2j(w:A0)(o:Obj)(b:Nat)(h:b<w.heap.size):(w.alloc o).heap[b]?=w.heap[b]?:=by show(w.heap.push o)[b]?=_;rw[Array.getElem?_push,yA (by omega)]
def qqk(w:A0)(o:Obj):(w.alloc o).heap[w.heap.size]?=A2 o:=by show(w.heap.push o)[w.heap.size]?=_;simp
def qr6{w:A0}{b:Nat}{o:Obj}(h:w.heap[b]?=A2 o):b<w.heap.size:=by
 rcases An b w.heap.size with c|a;.exact c
 .rw[Bg a]at h;cases h
def St.alloc{W w:A0}{l:List Asn}(h:St W l w)(o:Obj):St W (Pt w.heap.size o::l) (w.alloc o):=by
 refine⟨⟨h.1.os,h.1.tape,h.1.output,by have:=h.1.size;simp;omega⟩,λb=>if b=w.heap.size then A2 o else Af,λb u a=>?_,by simp[Pt],Own.mono (λb u a=>?_) h.2⟩
 .simp only at a;split at a;.rename_i e;subst e;cases a;exact qqk w o
  .cases a
 .have c:=qr6 a;unfold qh6;simp only[yA (show ¬b=w.heap.size by omega)];exact(q2j w o b c).trans a
def Pt.row{b:Nat}{t:A7}{c:Array A1}:∀h,Pt b (.cells c t) h->Row b t c.toList h:=λh w=>⟨c,(0,0),w,rfl,λi _=>by omega⟩
def St.allocRow{W w:A0}{l:List Asn}(h:St W l w)(c:Array A1)(t:A7):St W (Row w.heap.size t c.toList::l) (w.alloc (.cells c t)):=(h.alloc _).imp Pt.row
def qod(H:Hp)(a:Ah):Option A1:=match H a.block with
 |some (.cells c _ _)=>if a.spot.isSome then Af else c[a.off]?
 |_=>Af
def q26{h H:Hp}(c:qq6 h H){a:Ah}{v:A1}(w:qod h a=A2 v):qod H a=A2 v:=by
 unfold qod at*;split at w;.rename_i b;rw[c _ _ b];exact w
 .cases w
def Row.cell{b:Nat}{t:A7}{cs:List A1}{h:Hp}(d:Row b t cs h){i:Nat}{v:A1}(a:cs[i]?=A2 v):qod h ⟨b,i,Af⟩=A2 v:=by obtain⟨c,e,w,rfl,_⟩:=d;unfold qod;simp only[w];simpa using a
def St.ld{W w:A0}{r:List Asn}{b:Nat}{t:A7}{cs:List A1}(h:St W (Row b t cs::r) w){i:Nat}{v:A1}(d:cs[i]?=A2 v):w.cell? ⟨b,i,Af⟩=A2 v:=by obtain⟨_,g,c,a,_⟩:=h;exact q26 c (a.cell d)
def St.st{W w:A0}{r:List Asn}{b:Nat}{t:A7}{cs:List A1}(h:St W (Row b t cs::r) w){i:Nat}(n:i<cs.length)(v:A1):
 ((∃u,w.cell? ⟨b,i,Af⟩=A2 u)/\w.frozen? ⟨b,i,Af⟩=Ad)/\St W (Row b t (cs.set i v)::r) (w.setCell ⟨b,i,Af⟩ v):=by
 have s:=h.ld (Ab n);obtain⟨j,g,q,⟨c,k,l,z,m⟩,y⟩:=h;have p:w.heap[b]?=A2 (.cells c t k):=q b _ l;refine⟨⟨⟨_,s⟩,?_⟩,⟨j.os,j.tape,j.output,by simpa [World.setCell]using j.size⟩,λx=>if x=b then A2 (.cells (c.setIfInBounds i v) t k)else g x,λx o a=>?_,⟨c.setIfInBounds i v,k,by simp,by simp[z],by simpa using m⟩,Own.mono (λx o a=>?_) y⟩
 .unfold World.frozen?;simp only[p];have:=m i n;simp only[Bool.and_eq_false_iff,decide_eq_false_iff_not];omega
 .simp only at a;unfold qff World.setCell;simp only[Bl];split at a;.rename_i e;subst e;cases a;simp[p]
  .rename_i e;rw[yA (λh=>e h.symm)];exact q x o a
 .unfold qh6 at a⊢;cases d:g x with
  |some u=>simp[d]at a
  |none=>
   simp only[d]at a;have f:¬x=b:=λe=>by subst e;rw[l]at d;cases d
   simp only[yA f,d];unfold qff World.setCell;simp only[Bl];rw[yA (λh=>f h.symm)];exact a
def q65(W:A0):Asn:=λh=>∀b o,W.heap[b]?=A2 o->h b=A2 o
def St.base(W:A0):St W [q65 W] W:=⟨⟨rfl,rfl,rfl,Am _⟩,qff W,qq6.refl _,λ_ _ h=>h,trivial⟩
def St.below{W w:A0}{r:List Asn}(h:St W (q65 W::r) w):RowKit.Below W.heap.size W w:=by obtain⟨a,g,b,c,_⟩:=h;refine⟨a.os,a.tape,a.output,a.size,λk d=>?_⟩;have e:W.heap[k]?=A2 W.heap[k]:=Array.getElem?_eq_getElem d;rw[e];exact b k _ (c k _ e)
def Rd(F:List Asn)(p:Option Ah)(cs:List A1):Prop:=∀H,Own F H->∀i v,cs[i]?=A2 v->∃a,p=A2 a/\qod H (a.add i)=A2 v
def Rd.nil(F:List Asn)(p:Option Ah):Rd F p []:=λH _ i v h=>by simp at h
def Rd.cons{F:List Asn}{p:Option Ah}{cs:List A1}(h:Rd F p cs)(A:Asn):Rd (A::F) p cs:=λH e i v d=>by obtain⟨g,_,_,c⟩:=e;obtain⟨a,w,b⟩:=h _ c i v d;exact⟨a,w,q26 (qq6.cut _ _) b⟩
def Rd.perm{F G:List Asn}{p:Option Ah}{cs:List A1}(h:Rd F p cs)(w:G.Perm F):Rd G p cs:=λH a=>h H (a.perm w)
def Rd.app{F:List Asn}{p:Option Ah}{cs:List A1}(h:Rd F p cs)(G:List Asn):Rd (F++G) p cs:=by
 have:Rd (G++F) p cs:=by
  induction G with
  |nil=>exact h
  |cons A r ih=>exact ih.cons A
 exact this.perm Bm
def Rd.of{W w:A0}{F:List Asn}{p:Option Ah}{cs:List A1}(h:Rd F p cs)(c:St W F w){i:Nat}{v:A1}(b:cs[i]?=A2 v):∃a,p=A2 a/\w.cell? (a.add i)=A2 v:=h _ c.2 i v b
def qi1(b o i:Nat):Za ⟨b,o,Af⟩ i=⟨b,o+i,Af⟩:=by
 unfold Za;split;.rename_i h;subst h;rfl
 .rfl
def Rd.row{F:List Asn}{b:Nat}{t:A7}{all:List A1}(o:Nat){cs:List A1}(h:∀i v,cs[i]?=A2 v->all[o+i]?=A2 v):Rd (Row b t all::F) (A2 ⟨b,o,Af⟩) cs:=λH c i v a=>by obtain⟨g,d,w,_⟩:=c;exact⟨_,rfl,by rw[qi1];exact q26 d (w.cell (h i v a))⟩
def pts(G:List (Nat×Obj)):List Asn:=G.map λx=>Pt x.1 x.2
def StC(W:A0)(l:List Asn):Cls where
 p:=λG w=>St W (l++pts G) w
 drew:=λG w h=>St.drew h
 new:=λG w o h=>(St.alloc h o).push l
 perm:=λa h=>h.perm ((a.map _).append_left l)
def StC.pushed{W w:A0}{l:List Asn}{x:Nat×Obj}{G:List (Nat×Obj)}(h:((StC W l).push x).p G w):St W (Pt x.1 x.2::(l++pts G)) w:=St.pull l h
def StC.start{W w:A0}{l:List Asn}(h:St W l w):(StC W l).p [] w:=by show St W (l++[]) w;rw[List.append_nil];exact h
def StC.ends{W w:A0}{l:List Asn}{G:List (Nat×Obj)}(h:(StC W l).p G w):St W l w:=by
 have a:St W (pts G++l) w:=St.perm h Bm;generalize pts G=k at a;induction k with
 |nil=>exact a
 |cons A r ih=>exact ih a.drop
def nth:List Asn->Nat->Option Asn
 |[],_=>Af
 |A::_,0=>A2 A
 |_::r,n+1=>nth r n
def del:List Asn->Nat->List Asn
 |[],_=>[]
 |_::r,0=>r
 |A::r,n+1=>A::del r n
def put:List Asn->Nat->List Asn->List Asn
 |[],_,_=>[]
 |_::r,0,B=>B++r
 |A::r,n+1,B=>A::put r n B
def q76:∀{l:List Asn} {n:Nat} {A:Asn},nth l n=A2 A->l.Perm (A::del l n)
 |B::r,0,A,h=>by simp[nth]at h;subst h;exact .refl _
 |B::r,n+1,A,h=>((q76 (l:=r) (n:=n) h).cons B).trans (List.Perm.swap A B _)
def qrg:∀{l:List Asn} {n:Nat} {A:Asn} (B:List Asn),nth l n=A2 A->(B++del l n).Perm (put l n B)
 |C::r,0,A,B,h=>.refl _
 |C::r,n+1,A,B,h=>(Bc).trans ((qrg (l:=r) (n:=n) B h).cons C)
def qr4:∀{l:List Asn} {n:Nat} {A:Asn} (k:List Asn),nth l n=A2 A->nth (l++k) n=A2 A/\del (l++k) n=del l n++k/\∀B,put (l++k) n B=put l n B++k
 |C::r,0,A,k,h=>⟨h,rfl,λB=>by simp[put]⟩
 |C::r,n+1,A,k,h=>by obtain⟨a,w,b⟩:=qr4 (l:=r) (n:=n) k h;exact⟨a,by simp[del,w],λB=>by simp[put,b]⟩
section
variable{W w:World}{l:List Asn}{A:Asn}
def St.at(n:Nat)(h:St W l w)(a:nth l n=A2 A):St W (A::del l n) w:=h.perm (q76 a)
def St.back(n:Nat)(w:nth l n=A2 A){B:List Asn}{w':A0}(h:St W (B++del l n) w'):St W (put l n B) w':=h.perm (qrg B w)
def St.del(n:Nat)(h:St W l w)(a:nth l n=A2 A):St W (del l n) w:=(h.at n a).drop
end
def ins:Nat->Asn->List Asn->List Asn
 |0,A,l=>A::l
 |_+1,A,[]=>[A]
 |n+1,A,B::r=>B::ins n A r
def qh7:∀(n:Nat) (A:Asn) (l:List Asn),(A::l).Perm (ins n A l)
 |0,A,l=>.refl _
 |_+1,A,[]=>.refl _
 |n+1,A,B::r=>(List.Perm.swap B A r).trans ((qh7 n A r).cons B)
def St.mv{W w:A0}{l:List Asn}{A:Asn}(i j:Nat)(h:St W l w)(a:nth l i=A2 A):St W (ins j A (Go.Proofs.YtfjifcfbmhpcaaaGreatDoor.del l i)) w:=(h.at i a).perm (qh7 j A _)
def Is(W:A0)(C:Cls)(l:List Asn):Prop:=∀G w,C.p G w↔St W (l++pts G) w
def Is.refl(W:A0)(l:List Asn):Is W (StC W l) l:=λ_ _=>.rfl
def Is.push{W:A0}{C:Cls}{l:List Asn}(h:Is W C l)(b:Nat)(o:Obj):Is W (C.push (b,o)) (Pt b o::l):=λG w=>
 (h _ w).trans ⟨λh=>St.pull l h,λh=>St.push l h⟩
def z6:=@Is.refl
def zb:=@StC.ends
def zd:=@StC.start
def zf:=@St.mv
def zj:=@St.to_sep
def z00:=@St.to_ex
def z01:=@St.to_pr
def z03:=@St.del
def z06:=@St.back
def z0c:=@St.perm
def z0d:=@Pt.row
def z0t:=@Rd.row
def z0w:=@St.push
def z10:=@Own.mono
def ir{W l}:=z6 W l
end
section
def qa.i{a:Ah}{F:Ah->Prop}(h:F a):qa (A2 a) F:=h
def np{A:Prop}(h:A):A:=h
def qb.of{P:A3}{f:C8}{args:Array A1}{w:A0}{R R':A1->A0->Prop}(h:qb P f args w R)(a:∀v w',R v w'->R' v w'):qb P f args w R':=h.mono a
section
variable{W w:World}{r:List Asn}{b:Nat}{t:TypeId}{cs:List Value}{k0:Nat}
def LdI.i{k:IntKind}{x:Int}{F:Int->Prop}(c:St W (Row b t cs::r) w)(h:cs[k0]?=A2 (.int k x))(a:F x):LdI k ⟨b,k0,Af⟩ w F:=⟨x,c.ld h,a⟩
def LdB.i{x:Bool}{F:Bool->Prop}(c:St W (Row b t cs::r) w)(h:cs[k0]?=A2 (.bool x))(a:F x):LdB ⟨b,k0,Af⟩ w F:=⟨x,c.ld h,a⟩
def LdP.i{x:Option Ah}{F:Option Ah->Prop}(c:St W (Row b t cs::r) w)(h:cs[k0]?=A2 (.pointer x))(a:F x):LdP ⟨b,k0,Af⟩ w F:=⟨x,c.ld h,a⟩
def LdL.i{p:Option Ah}{n c:Nat}{F:Option Ah->Nat->Nat->Prop}(d:St W (Row b t cs::r) w)(h:cs[k0]?=A2 (.slice p n c))(a:F p n c):LdL ⟨b,k0,Af⟩ w F:=⟨p,n,c,d.ld h,a⟩
def St1.i{v:A1}{F:A0->Prop}(a:St W (Row b t cs::r) w)(h:k0<cs.length)(c:∀w',St W (Row b t (cs.set k0 v)::r) w'->F w'):St1 ⟨b,k0,Af⟩ v w F:=
 ⟨(a.st h v).1,c _ (a.st h v).2⟩
def qh.i{l:List Asn}{c:Array A1}{e:A7}{F:Nat->A0->Prop}(a:St W l w)(h:∀b w',St W (Row b e c.toList::l) w'->F b w'):qh c e w F:=h _ _ (a.allocRow c e)
end
def qso(z:A1)(n:Nat):(q6g #[z] n).toList=B0 n z:=by
 unfold q6g;refine Ao λj=>?_;simp only[Array.toList_map,Array.toList_range,B5,List.getElem?_replicate];rcases An j n with h|h
 .rw[List.getElem?_range h,yB h];simp[Nat.mod_one]
 .rw[Ag (by simpa using h),yA (by omega)];rfl
def MkS.i{W w:A0}{l:List Asn}{z:A1}{bytes:Nat}{e:A7}{n c:Int}{F:Nat->A0->Prop}(d:St W l w)(g:0<=n)(j:n<=c)(a:c<9223372036854775808)(i:bytes*c<=281474976710656)
 (f:∀b w',St W (Row b e (B0 c.toNat z)::l) w'->F b w'):MkS #[z] 1 bytes e n c w F:=by
 refine⟨⟨g,j,a,i⟩,qh.i d λb w' h=>f b w' ?_⟩;rwa[C6,qso]at h
def qu8:List A1->Nat->List A1->List A1
 |all,_,[]=>all
 |all,k,v::vs=>qu8 (all.set k v) (k+1) vs
def qhi:∀(vs all:List A1) (k j:Nat),k+vs.length<=all.length->(qu8 all k vs)[j]?=if k<=j/\j<k+vs.length then vs[j - k]? else all[j]?
 |[],all,k,j,_=>by rw[qu8,yA (by simp only[List.length_nil];omega)]
 |v::vs,all,k,j,h=>by
  simp only[Bw]at h⊢;rw[qu8,qhi vs _ (k+1) j (by simp;omega),B6];by_cases w:j=k
  .subst w;rw[yA (by omega),yB yR,yB (by omega),yB (by omega)];simp
  .rw[yA (show ¬k=j from λe=>w e.symm)];by_cases a:k+1<=j/\j<k+1+vs.length
   .rw[yB a,yB (by omega),show j - k=(j -(k+1))+1 by omega];rfl
   .rw[yA a,yA (by omega)]
def qm1{α:Type}(all:List α)(k:Nat)(vs:List α):List α:=all.take k++vs++all.drop (k+vs.length)
def q0e{α:Type}(vs all:List α)(k j:Nat)(h:k+vs.length<=all.length):(qm1 all k vs)[j]?=if k<=j/\j<k+vs.length then vs[j - k]? else all[j]?:=by
 unfold qm1;have b:(all.take k).length=k:=by simp;omega
 by_cases a:k<=j/\j<k+vs.length;.rw[yB a,B7,B1 (by omega),b,B3 (by omega)]
 .rw[yA a];rcases An j k with w|w;.rw[B7,B3 (by omega),List.getElem?_take_of_lt w]
  .rw[B1 (by simp;omega)];simp only[B2,b,Br];congr 1;omega
def qya{α β:Type}(f:α->β)(vs all:List α)(k:Nat):qm1 (all.map f) k (vs.map f)=(qm1 all k vs).map f:=by unfold qm1;simp[List.map_take,List.map_drop]
def q94{α:Type}(vs all:List α)(k:Nat)(h:k+vs.length<=all.length):(qm1 all k vs).length=all.length:=by unfold qm1;simp;omega
def qo8(vs all:List A1)(k:Nat)(h:k+vs.length<=all.length):qu8 all k vs=qm1 all k vs:=by refine Ao λj=>?_;rw[qhi vs all k j h,q0e vs all k j h]
def qu4{P:A3}{W:A0}{r:List Asn}{q o:Nat}{t:A7}:∀(vs:List A1) (i:Nat) (all:List A1) (w:A0),St W (Row q t all::r) w->o+i+vs.length<=all.length->(∀v∈vs,qn1 v)->
 ∃w',(storeCells ⟨q,o,Af⟩ vs i).run P w=.ok () w'/\St W (Row q t (qu8 all (o+i) vs)::r) w'
 |[],i,all,w,a,_,_=>⟨w,rfl,a⟩
 |v::vs,i,all,w,a,k,c=>by
  simp only[Bw]at k;obtain⟨⟨⟨u,l⟩,d⟩,h⟩:=a.st (i:=o+i) (by omega) v;have j:(store (Za ⟨q,o,Af⟩ i) v).run P w=.ok () (w.setCell ⟨q,o+i,Af⟩ v):=by rw[qi1];have f:=c v List.mem_cons_self;unfold store;cases v<;>first|exact f.elim|simp[Sem.run,l,d]
  obtain⟨w',e,b⟩:=qu4 (P:=P) (o:=o) vs (i+1) _ _ h (by simp;omega) (λx g=>c x (List.mem_cons_of_mem _ g));refine⟨w',?_,by rw[qu8,Nat.add_assoc];exact b⟩;simp only[storeCells,A8,j,A4,e]
def qw3{P:A3}{w:A0}{p:Option Ah}{n c:Nat}{size m:Nat}{cs:List A1}(g:∀j v,cs[j]?=A2 v->∃a,p=A2 a/\w.cell? (a.add j)=A2 v)(h:cs.length=m*size)(f:p=Af->m*size=0):
 (A6 size m (.slice p n c)).run P w=.ok cs.toArray w:=by
 cases p with
 |none=>have:cs=[]:=Ae (by rw[h];exact f yR);subst this;rfl
 |some a=>have:=run_loadCells_list (P:=P) w a cs (λj v d=>by obtain⟨i,b,e⟩:=g j v d;cases b;exact e);rw[h]at this;exact this
def q0a{P:A3}{W w:A0}{r:List Asn}{q o:Nat}{t:A7}{all cs:List A1}{x sT ty e:A7}{inf:TypeInfo}(A:P.underlying x=A2 (.slice e))(D:P.info? e=A2 inf)(y:inf.size=1)
 {b i d f:Nat} {sp:Option Ah} {F:A1->A0->Prop}
 (H:St W (Row q t all::r) w) (I:o+b<=all.length) (u:∀j v,cs[j]?=A2 v->∃a,sp=A2 a/\w.cell? (a.add j)=A2 v) (E:cs.length=min d b) (s:∀v∈cs,qn1 v)
 (C:∀w',St W (Row q t (qm1 all o cs)::r) w'->F (.int Zk (min d b:Nat)) w'):
 Run P (Bb #[x,sT] ty #[.slice (A2 ⟨q,o,Af⟩) b i,.slice sp d f]) w F:=by
 have k:sp=Af->min d b*1=0:=λh=>by
  subst h;rcases cs with _|⟨v,cs⟩;.simp at E;omega
  .obtain⟨a,B,_⟩:=u 0 v yR;cases B
 have z:=qw3 (P:=P) (w:=w) (p:=sp) (n:=d) (c:=f) (size:=1) (m:=min d b) u (by omega) k;obtain⟨w',G,g⟩:=qu4 (P:=P) (o:=o) cs 0 all w H (by omega) s;rw[C4,qo8 _ _ _ (by omega)]at g;refine⟨_,w',?_,C w' g⟩;have l:(storeCells ⟨q,o,Af⟩ cs).run P w=.ok () w':=G;simp only[Bb,Bn,Bd,Be,A8,run_underlying A,A4,As,Aj,qz3 D,y];rw[show Nat.min d b=min d b from rfl,z];simp only[A4,l,A8,Aj];rfl
def q6a{P:A3}{w:A0}{g sT ty e:A7}{inf:TypeInfo}(m:P.underlying g=A2 (.slice e))(l:P.info? e=A2 inf)(n:inf.size=1)
 {b d h c:Nat} {f sp:Option Ah} {F:A1->A0->Prop} (k:min h b=0) (j:F (.int Zk (0:Nat)) w):
 Run P (Bb #[g,sT] ty #[.slice f b d,.slice sp h c]) w F:=by
 refine⟨_,w,?_,j⟩;have i:∀s,(A6 1 0 (.slice sp h c)).run P s=.ok #[] s:=λs=>by cases sp<;>rfl
 simp only[Bb,Bn,Bd,Be,A8,run_underlying m,A4,As,Aj,qz3 l,n];rw[show Nat.min h b=min h b from rfl,k];cases f with
 |none=>simp only[i,A4,Aj];rfl
 |some a=>simp only[i,A4,Aj,storeCells,A8];rfl
def Rd.piece{F:List Asn}{p:Option Ah}{cs:List A1}(h:Rd F p cs)(k m:Nat)(c:Nat)(f:c=0->cs.drop k=[]):Rd F (if c=0 then p else p.map (·.add k)) ((cs.drop k).take m):=λH g i v w=>by
 have d:cs[k+i]?=A2 v:=by
  rw[Ak]at w;split at w;.rwa[Br]at w
  .cases w
 split
 .rename_i e;rw[f e]at w;simp at w
 .obtain⟨a,rfl,b⟩:=h H g _ _ d;exact⟨_,rfl,by rw[Addr.add_add];exact b⟩
def SlP.i{F:List Asn}{p:Option Ah}{cs:List A1}{n c size a b:Nat}{f i:Int}{K:Option Ah->Nat->Nat->Prop}(m:Rd F p cs)(o:cs.length=n*size)(r:n<=c)(d:f=a)(w:i=b)(k:a<=b)(q:b<=n)
 (l:∀g,Rd F g ((cs.drop (a*size)).take ((b - a)*size))->K g (b - a) (c - a)):SlP p n c size f i K:=by
 subst d;subst w;refine⟨⟨by omega,by omega,by omega⟩,?_⟩;simp only[B9];have h:=m.piece (a*size) ((b - a)*size) (c - a) λs=>List.drop_eq_nil_of_le (by rw[o];exact Ai _ (by omega));have e:(if c - a=0 then p else p.map (·.add (a*size)))=(if c=a then p else p.map (·.add (a*size))):=by
  by_cases j:c=a;.rw[yB (by omega),yB j]
  .rw[yA (by omega),yA j]
 rw[e]at h;exact l _ h
def IxP.i{W w:A0}{F:List Asn}{p:Option Ah}{cs:List A1}{n size k:Nat}{i:Int}{v:A1}{K:Ah->Prop}(f:Rd F p cs)(c:St W F w)(e:i=k)(g:k<n)(b:cs[k*size]?=A2 v)(d:∀a,p=A2 a->K (a.add (k*size))):IxP p n i size K:=by subst e;obtain⟨a,h,_⟩:=f.of c b;exact⟨a,h,⟨by omega,by omega⟩,by rw[B9];exact d a h⟩
section
variable{W w:World}{F:List Asn}{p:Option Addr}{cs:List Value}{a:Addr}{k j:Nat}
def Rd.at2{v:A1}(f:Rd F p cs)(e:St W F w)(c:p=A2 a)(h:cs[k+j]?=A2 v):w.cell? ((a.add k).add j)=A2 v:=by obtain⟨g,b,d⟩:=f.of e h;rw[c]at b;cases b;rw[Addr.add_add];exact d
def Rd.at1{v:A1}(f:Rd F p cs)(e:St W F w)(c:p=A2 a)(h:cs[k]?=A2 v):w.cell? (a.add k)=A2 v:=by obtain⟨g,b,d⟩:=f.of e h;rw[c]at b;cases b;exact d
def LdI.at{k:IntKind}{x:Int}{K:Int->Prop}(h:w.cell? a=A2 (.int k x))(b:K x):LdI k a w K:=⟨x,h,b⟩
def LdB.at{x:Bool}{K:Bool->Prop}(h:w.cell? a=A2 (.bool x))(b:K x):LdB a w K:=⟨x,h,b⟩
def LdS.at{x:ByteArray}{K:ByteArray->Prop}(h:w.cell? a=A2 (.string x))(b:K x):LdS a w K:=⟨x,h,b⟩
def LdP.at{x:Option Ah}{K:Option Ah->Prop}(h:w.cell? a=A2 (.pointer x))(b:K x):LdP a w K:=⟨x,h,b⟩
def LdL.at{p:Option Ah}{n c:Nat}{K:Option Ah->Nat->Nat->Prop}(h:w.cell? a=A2 (.slice p n c))(b:K p n c):LdL a w K:=⟨p,n,c,h,b⟩
end
def qd(x:UInt8):A1:=.int .u8 x.toNat
def mkS(l:List UInt8):ByteArray:=⟨l.toArray⟩
def qf1(l:List UInt8):(mkS l).size=l.length:=by simp[mkS,ByteArray.size]
def qd5(s:ByteArray):mkS s.data.toList=s:=by simp[mkS]
def q82{l:List UInt8}:∀v∈l.map qd,qn1 v:=λv h=>by obtain⟨x,_,rfl⟩:=List.mem_map.1 h;trivial
def qox{P:A3}{w:A0}{sT h e:A7}(i:P.underlying sT=A2 (.slice e))(d:P.underlying e=A2 (.int .u8))(f:P.underlying h=A2 .string){p:Option Ah}{n c:Nat}{bs:List UInt8}{F:A1->A0->Prop}
 (g:∀(j:Nat) v,(bs.map qd)[j]?=A2 v->∃a,p=A2 a/\w.cell? (a.add j)=A2 v) (q:bs.length=n) (o:F (.string (mkS bs)) w):Run P (convert sT h (.slice p n c)) w F:=by
 refine⟨_,w,?_,o⟩;subst q;cases p with
 |none=>
  have k:bs=[]:=by
   rcases bs with _|⟨x,bs⟩;.rfl
   .obtain⟨a,b,_⟩:=g 0 (qd x) yR;cases b
  subst k;rw[run_convert_bytes_nil w sT e i d _ _ h f];rfl
 |some a=>exact run_convert_bytes_back w sT h e a c bs i d f λj l=>by obtain⟨r,b,m⟩:=g j (qd bs[j]) (by simp[Ab l]);cases b;exact m
def St.allocBar{W w:A0}{l:List Asn}(h:St W l w)(c:Array A1)(t:A7)(k:Nat)(d:c.size<=k):St W (Row w.heap.size t c.toList::l) (w.alloc (.cells c t (k,k+1))):=
 (h.alloc _).imp λh a=>⟨c,(k,k+1),a,rfl,λi b=>by simp at b;simp only;omega⟩
def St.draws{W w:A0}{l:List Asn}(h:St W l w):St W l w.drew:=h.drew
def qcb{P:A3}{W w:A0}{l:List Asn}{sT a e:A7}(k:P.underlying sT=A2 .string)(i:P.underlying a=A2 (.slice e))(f:P.underlying e=A2 (.int .u8)){bs:List UInt8}{F:A1->A0->Prop}
 (g:St W l w) (j:∀b c w',bs.length<=c->St W (Row b e (bs.map qd++B0 (c - bs.length) (.int .u8 0))::l) w'->F (.slice (A2 ⟨b,0,Af⟩) bs.length c) w'):Run P (convert sT a (.string (mkS bs))) w F:=by
 have m:=run_bytes_of_string (P:=P) w sT a e (mkS bs) k i f;have d:(bytesRow (mkS bs) (grownCap w (mkS bs).size 0 e)).toList=bs.map qd++B0 (grownCap w (mkS bs).size 0 e - bs.length) (.int .u8 0):=by unfold bytesRow;rw[qf1];simp[mkS,qd,Function.comp_def]
 refine⟨_,_,m,?_⟩;rw[qf1]at d⊢;have h:=St.allocBar g.draws (bytesRow (mkS bs) (grownCap w bs.length 0 e)) e (bytesRow (mkS bs) (grownCap w bs.length 0 e)).size (Am _);rw[d]at h;refine j _ _ _ ?_ h;exact grownCap_ge _ _ _ _
def qbi{P:A3}{W w:A0}{l:List Asn}{sT h e:A7}(i:P.underlying sT=A2 (.slice e))(a:P.underlying e=A2 (.int .u8))(f:P.underlying h=A2 .string){p:Option Ah}{n c:Nat}{bs:List UInt8}{F:A1->A0->Prop}
 (d:St W l w) (k:Rd l p (bs.map qd)) (m:bs.length=n) (g:F (.string (mkS bs)) w):Run P (convert sT h (.slice p n c)) w F:=
 qox i a f (λj v b=>k.of d b) m g
def Rd.all{F:List Asn}{b:Nat}{t:A7}{all:List A1}:Rd (Row b t all::F) (A2 ⟨b,0,Af⟩) all:=z0t 0 λi v h=>by simpa using h
def qi(t:A7)(size:Nat)(p:Option Ah)(n c:Nat)(cs:List A1):Asn:=λh=>
 cs.length=n*size/\n<=c/\(c=0\/∃q all,p=A2 ⟨q,0,Af⟩/\all.length=c*size/\all.take (n*size)=cs/\Row q t all h)
def qi.nil(t:A7)(size:Nat)(p:Option Ah){W w:A0}{l:List Asn}(h:St W l w):St W (qi t size p 0 0 []::l) w:=
 ⟨h.1,λ_=>Af,λb o a=>by(cases a),⟨by simp,Am _,.inl yR⟩,h.2⟩
def qi.of_row{t:A7}{size q n c:Nat}{all cs:List A1}(a:all.length=c*size)(b:n<=c)(d:all.take (n*size)=cs){W w:A0}{l:List Asn}(h:St W (Row q t all::l) w):St W (qi t size (A2 ⟨q,0,Af⟩) n c cs::l) w:=
 h.imp λh e=>⟨by rw[<-d,Bx,a];exact Nat.min_eq_left (Ai _ b),b,.inr ⟨q,all,rfl,a,d,e⟩⟩
def qi.rd{t:A7}{size:Nat}{p:Option Ah}{n c:Nat}{cs:List A1}(F:List Asn):Rd (qi t size p n c cs::F) p cs:=λH d i v h=>by
 obtain⟨g,j,⟨k,b,a⟩,_⟩:=d;rcases a with rfl|⟨q,all,rfl,l,f,e⟩
 .have:cs=[]:=Ae (by rw[k,C7.1 b,Bs]);subst this;simp at h
 .have w:all[i]?=A2 v:=by
   subst f;rw[Ak]at h;split at h;.exact h
   .cases h
  exact⟨_,rfl,by rw[qi1,Bt];exact q26 j (e.cell w)⟩
def qm5(z:Array A1)(n:Nat):(Ap z n).size=n*z.size:=by simp[Ap]
section
variable{P:Program}{W w:World}{r:List Asn}{sT xT ty e:TypeId}{inf:TypeInfo}{z:Value}{size:Nat}{p:Option Addr}{n c m:Nat}{cs xs:List Value}{x:Value}
def Src(P:A3)(t:A7):Prop:=P.underlying t=A2 .string\/∃e,P.underlying t=A2 (.slice e)
def q84(k:P.underlying sT=A2 (.slice e))(i:Src P xT)(j:P.info? e=A2 inf)(l:inf.size=size)(b:n+m<=c){w':A0}
 (h:∀s,(As x).run P s=.ok m s) (g:(A6 size m x).run P w=.ok xs.toArray w)
 (d:(p=Af/\w'=w)\/∃a,p=A2 a/\(storeCells (a.add (n*size)) xs).run P w=.ok () w'):
 (A9 #[sT,xT] ty #[.slice p n c,x]).run P w=.ok (.slice p (n+m) c) w':=by
 subst l;rcases d with ⟨rfl,rfl⟩|⟨a,rfl,d⟩
 .rcases i with f|⟨e',f⟩<;>simp[A9,run_underlying k,run_underlying f,sizeOf,typeInfo,j,h,g,b]
 .rcases i with f|⟨e',f⟩<;>simp[A9,run_underlying k,run_underlying f,sizeOf,typeInfo,j,h,g,b,d]
def qo6(r:P.underlying sT=A2 (.slice e))(l:Src P xT)(o:P.info? e=A2 inf)(q:inf.size=size)(j:inf.zero=A2 z)(d:¬n+m<=c)
 (a:∀s,(As x).run P s=.ok m s) (g:(A6 size m x).run P w.drew=.ok xs.toArray w.drew) (h:(A6 size n (.slice p n c)).run P w.drew=.ok cs.toArray w.drew)
 (k:((n+m:Nat):Int)<=9223372036854775807) (t:Bo (n+m) c*inf.bytes<=281474976710656):
 (A9 #[sT,xT] ty #[.slice p n c,x]).run P w=.ok (.slice (A2 ⟨w.heap.size,0,Af⟩) (n+m) (grownCap w (n+m) c e))
  (w.drew.alloc (.cells (cs.toArray++xs.toArray++Ap z.cells (grownCap w (n+m) c e -(n+m))) e)):=by
 subst q;have f:¬(9223372036854775807<((n:Int)+(m:Int))):=by omega
 have b:¬(281474976710656<Bo (n+m) c*inf.bytes):=by omega
 rcases l with i|⟨e',i⟩;all_goals
  simp[A9,run_underlying r,run_underlying i,sizeOf,typeInfo,zeroValue,o,j,a,d,f,b,Question.forced,g,h,newRow,grownCap];congr 2;apply Array.ext';simp[B7]
def qgm(E:P.underlying sT=A2 (.slice e))(M:Src P xT)(I:P.info? e=A2 inf)(D:inf.size=size)(hz:inf.zero=A2 z)(K:z.cells.size=size){F:A1->A0->Prop}
 (A:St W (qi e size p n c cs::r) w) (b:∀s,(As x).run P s=.ok m s) (k:∀s:A0,s.heap=w.heap->(A6 size m x).run P s=.ok xs.toArray s) (d:xs.length=m*size)
 (R:∀v∈xs,qn1 v) (hb:(n+m)*inf.bytes<=140737488355328) (G:((n+m:Nat):Int)<=9223372036854775807)
 (H:∀p' V w',St W (qi e size p' (n+m) V (cs++xs)::r) w'->F (.slice p' (n+m) V) w'):
 Run P (A9 #[sT,xT] ty #[.slice p n c,x]) w F:=by
 have i:cs.length=n*size/\n<=c:=by obtain⟨_,g,_,⟨u,y,_⟩,_⟩:=A;exact⟨u,y⟩
 by_cases h:n+m<=c
 ·
  obtain⟨Z,g,u,⟨y,Y,h4⟩,U⟩:=A;rcases h4 with rfl|⟨q,all,rfl,hc,ht,hr⟩
  ·
   have J:n=0:=by omega
   have O:m=0:=by omega
   subst J;subst O;have T:xs=[]:=Ae (by rw[d,Bs]);subst T;have:=q84 (P:=P) (w:=w) (w':=w) (p:=p) (n:=0) (m:=0) (c:=0) (xs:=[]) (ty:=ty) E M I D (Am _) b (k w yR) (by cases p with|none=>exact .inl ⟨rfl,rfl⟩|some a=>exact .inr ⟨a,rfl,rfl⟩);exact⟨_,w,this,H p 0 w ⟨Z,g,u,⟨by simpa using y,Am _,.inl yR⟩,U⟩⟩
  .have l:St W (Row q e all::r) w:=⟨Z,g,u,hr,U⟩;have N:n*size+xs.length<=all.length:=by rw[d,hc,<-Ba];exact Ai _ h
   obtain⟨w',B,f⟩:=qu4 (P:=P) (o:=n*size) xs 0 all w l (by omega) R;rw[C4,qo8 _ _ _ N]at f;have:=q84 (P:=P) (w:=w) (w':=w') (p:=A2 ⟨q,0,Af⟩) (n:=n) (m:=m) (c:=c) (ty:=ty) E M I D h b (k w yR) (.inr ⟨_,rfl,by rw[qi1,Bt];exact B⟩);refine⟨_,w',this,H _ c w' (qi.of_row ?_ h ?_ f)⟩;.unfold qm1;simp;omega
   .unfold qm1;have C:(n+m)*size=n*size+xs.length:=by rw[d,Ba]
    have l1:(all.take (n*size)).length=n*size:=by simp;omega
    rw[C,<-ht,Av (by simp;omega),Bh (by simp;omega)]
 ·
  have t:(A6 size n (.slice p n c)).run P w.drew=.ok cs.toArray w.drew:=by
   refine qw3 (λj v hj=>?_) i.1 λhp=>?_;.exact(qi.rd r).of A.draws hj
   .obtain⟨_,g,_,⟨u,y,Y⟩,_⟩:=A;rcases Y with rfl|⟨q,all,X,_⟩;.rw[C7.1 y,Bs]
    .rw[hp]at X;cases X
  have:=qo6 (P:=P) (w:=w) (x:=x) (n:=n) (m:=m) (c:=c) (ty:=ty) E M I D hz h b (k w.drew yR) t G (growslice_fits (by omega) hb);have L:=grownCap_ge w (n+m) c e;have f:=St.allocRow (St.draws A).drop (cs.toArray++xs.toArray++Ap z.cells (grownCap w (n+m) c e -(n+m))) e;refine⟨_,_,this,H _ _ _ (qi.of_row ?_ L ?_ f)⟩
  .have Q:=qm5 z.cells (grownCap w (n+m) c e -(n+m));simp only[Bp,B2,i.1,d,Array.length_toList,Q,K];rw[<-Ba,<-Ba];congr 1;omega
  .have C:(n+m)*size=(cs++xs).length:=by rw[B2,i.1,d,Ba]
   rw[C];simp only[Bp];rw[Av (by simp),Bh (by simp)]
def qp8(x:P.underlying sT=A2 (.slice e))(E:Src P xT)(D:P.info? e=A2 inf)(t:inf.size=size)(G:inf.zero=A2 z)(f:z.cells.size=size){sp:Option Ah}{sc:Nat}{F:A1->A0->Prop}
 (k:St W (qi e size p n c cs::r) w) (q:Rd r sp xs) (h:xs.length=m*size)
 (g:∀v∈xs,qn1 v) (y:(n+m)*inf.bytes<=140737488355328) (d:((n+m:Nat):Int)<=9223372036854775807)
 (B:∀o l w',St W (qi e size o (n+m) l (cs++xs)::r) w'->F (.slice o (n+m) l) w'):
 Run P (A9 #[sT,xT] ty #[.slice p n c,.slice sp m sc]) w F:=
 qgm x E D t G f k (λs=>rfl) (λs u=>qw3 (λj v H=>by
  obtain⟨a,b,A⟩:=(q.cons _).of k H;exact⟨a,b,by rw[<-A];unfold World.cell?;rw[u]⟩) h (λC=>by
  rcases xs with _|⟨v,xs⟩;.simpa using h.symm
  .obtain⟨a,b,_⟩:=(q.cons _).of k (i:=0) (v:=v) yR;rw[C]at b;cases b)) h g y d B
def qi.whole{t:A7}{size q n:Nat}{all:List A1}{W w:A0}{l:List Asn}(a:all.length=n*size)(h:St W (Row q t all::l) w):St W (qi t size (A2 ⟨q,0,Af⟩) n n all::l) w:=qi.of_row a (Am _) (by rw[<-a,List.take_length]) h
def qi.le{t:A7}{size:Nat}{p:Option Ah}{n c:Nat}{cs:List A1}{W w:A0}{l:List Asn}(h:St W (qi t size p n c cs::l) w):cs.length=n*size/\n<=c:=by obtain⟨_,g,_,⟨b,a,_⟩,_⟩:=h;exact⟨b,a⟩
def qi.set{t:A7}{size:Nat}{p:Option Ah}{n c k:Nat}{cs:List A1}{W w:A0}{l:List Asn}{K:A0->Prop}(r:St W (qi t size p n c cs::l) w)(C:k<n*size)(v:A1)
 (u:∀w',St W (qi t size p n c (cs.set k v)::l) w'->K w'):∃a,p=A2 a/\St1 (a.add k) v w K:=by
 obtain⟨s,g,A,⟨B,d,x⟩,f⟩:=r;rcases x with rfl|⟨q,all,rfl,m,y,z⟩
 .have:n=0:=by omega
  subst this;omega
 .have b:St W (Row q t all::l) w:=⟨s,g,A,z,f⟩;have o:n*size<=c*size:=Ai _ d;refine⟨_,rfl,?_⟩;rw[qi1,Bt];refine St1.i b (by omega) λw' i=>u w' (qi.of_row (by simpa using m) d ?_ i);subst y;refine Ao λj=>?_;rw[Ak,B6,B6,Ak];simp only[Bx];by_cases h:j<n*size
  .by_cases e:k=j
   .subst e;rw[yB h,yB yR,yB (by omega),yB yR,yB (by omega)]
   .rw[yB h,yA e,yA e,yB h]
  .rw[yA h,yA (by omega),yA h]
def qi.ix{t:A7}{p:Option Ah}{n c k:Nat}{cs:List A1}{W w:A0}{l:List Asn}{K:A0->Prop}(e:St W (qi t 1 p n c cs::l) w)(f:k<n)(v:A1)
 (b:∀w',St W (qi t 1 p n c (cs.set k v)::l) w'->K w'):IxP p n (k:Int) 1 λa=>St1 a v w K:=by
 obtain⟨a,d,h⟩:=qi.set e (k:=k) (by omega) v b;exact⟨a,d,⟨by omega,by omega⟩,by rw[B9,C6];exact h⟩
end
def z7:=@qa.i
def zh:=@qh.i
def zq:=@LdI.at
def z0i:=@LdS.at
def z0k:=@qi.rd
def z0m:=@Rd.all
def z0x:=@qi.of_row
def z1a:=@qi.nil
end
end Go.Proofs.YtfjifcfbmhpcaaaGreatDoor
