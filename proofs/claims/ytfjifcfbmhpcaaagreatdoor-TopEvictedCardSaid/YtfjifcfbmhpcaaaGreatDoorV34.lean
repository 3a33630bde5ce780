/-
  A part of the proof of TopEvicted.
-/
import Derived.Test.YtfjifcfbmhpcaaaGreatDoorV33
import Derived.Test.YtfjifcfbmhpcaaaGreatDoorV00
set_option linter.defProp false
set_option linter.unusedVariables false
set_option linter.unusedSimpArgs false
namespace Go.Proofs.YtfjifcfbmhpcaaaGreatDoor
open Go
open Go.IntKind renaming i64 → Zk, wrap → Zw
open _root_.Option renaming some->A0,map_eq_some_iff->A3,isSome_iff_exists->Aa,none->Am
open _root_.Bool renaming false->A1,and_eq_true->A4,true->A7,or_assoc->Ak,true_and->Aq
open _root_.Option.some renaming injEq->A2,inj->Ao
open _root_.List renaming mem_cons_of_mem->A5,map_cons->A8,sum_cons->A9,length_append->Ab,length_drop->Ac,length_take->Ad,foldl_cons->Ae,mem_append->Af,mem_cons_self->Ag,eraseIdx_sublist->Ai,mem_map->An,nodup_cons->Ap
open _root_.Prod.mk renaming injEq->A6
open _root_.Nat renaming le_refl->Ah,zero_le->Aj
section
def sumV{κ ν:Type}(f:ν->Nat)(L:List (κ×ν)):Nat:=(L.map λx=>f x.2).sum
section
variable{κ ν:Type}[DecidableEq κ]
def qn11(f:ν->Nat):∀{L:List (κ×ν)} {k:κ} {v:ν} (w:ν),qe L k=A0 v->sumV f (qk L k w)+f v=sumV f L+f w
 |[],k,v,w,h=>by cases h
 |x::r,k,v,w,h=>by
  simp only[qe]at h;simp only[qk];split
  .rename_i e;rw[yB e]at h;cases h;simp only[sumV,A8,A9];omega
  .rename_i e;rw[yA e]at h;have:=qn11 f w h;simp only[sumV,A8,A9]at this⊢;omega
def qm31(f:ν->Nat):∀(L:List (κ×ν)) (k:κ),sumV f (qp L k)<=sumV f L
 |[],k=>Ah _
 |x::r,k=>by
  simp only[qp];split
  .simp only[sumV,A8,A9];omega
  .have:=qm31 f r k;simp only[sumV,A8,A9]at this⊢;omega
end
def qe51{α:Type}(f:α->Nat):∀{l:List α} {i:Nat} {z:α} (w:α),l[i]?=A0 z->((l.set i w).map f).sum+f z=(l.map f).sum+f w
 |[],i,z,w,h=>by simp at h
 |a::r,0,z,w,h=>by simp at h;subst h;simp only[List.set_cons_zero,A8,A9];omega
 |a::r,i+1,z,w,h=>by
  have h:r[i]?=A0 z:=by simpa using h
  have:=qe51 f w h;simp only[List.set_cons_succ,A8,A9];omega
def bM(b:Bool):Nat:=if b=A7 then 1 else 0
def wayM(w:Ri.Way):Nat:=2*w.bs.length+bM (!w.ended)+2*bM (!w.told)
def psM(z:Ri.PS):Nat:=wayM z.w0+wayM z.w1
def cnM(d:Cn.CnD):Nat:=3*d.inb.length+d.out.length
def roM(r:q31):Nat:=bM r.due
def m0(s:Bk):Nat:=sumV cnM s.N.L+(s.pumps.map psM).sum
def bkM(s:Bk):Nat:=m0 s+sumV roM s.roles+s.P.ends.length
def updM(N:Cn.CT)(id:Int)(g:Cn.CnD->Cn.CnD)(k:Nat)(w:∀d,cnM (g d)<=cnM d+k):sumV cnM (N.upd id g).L<=sumV cnM N.L+k:=by
 unfold Cn.CT.upd;split;.omega
 .rename_i d h;have:=qn11 cnM (g d) h;have:=w d;simp only;omega
def qi71(N:Cn.CT)(id:Int)(n:Nat):sumV cnM (N.upd id (Cn.gRest ((n:Nat):Int))).L+3*(N.ask id [] λd=>d.inb.take ((n:Nat):Int).toNat).length<=sumV cnM N.L:=by
 unfold Cn.CT.upd Cn.CT.ask;cases hd:qe N.L id with
 |none=>simp
 |some d=>simp only;have:=qn11 cnM (Cn.gRest ((n:Nat):Int) d) hd;simp only[cnM,Cn.gRest,Ac,Ad]at this⊢;omega
def q361(N:Cn.CT)(id:Int):sumV cnM (N.upd id Cn.gFlush).L+(N.ask id [] Cn.rFlush).length<=sumV cnM N.L:=by
 unfold Cn.CT.upd Cn.CT.ask;cases hd:qe N.L id with
 |none=>simp
 |some d=>simp only;have:=qn11 cnM (Cn.gFlush d) hd;simp only[cnM,Cn.gFlush,Cn.rFlush,Ac,Ad]at this⊢;omega
def sayM(o:List UInt8)(d:Cn.CnD):cnM (Cn.gSay o d)<=cnM d+o.length:=by
 unfold Cn.gSay cnM;split;.simp only[Ab];omega
 .omega
def inM(z:Ri.PS)(k:Nat)(n:Int)(xs:List UInt8):psM (z.in_ k n xs)<=psM z+2*xs.length:=by
 have h:∀w:Ri.Way,wayM (w.add k xs)<=wayM w+2*xs.length:=λw=>by unfold Ri.Way.add wayM;simp only[Ab,Ad];omega
 unfold Ri.PS.in_ psM;split
 .split;.have:=h z.w0;simp only;omega
  .have:=h z.w1;simp only;omega
 .omega
def endM(z:Ri.PS)(n:Int):psM (z.end_ n)+bM (z.hears n)<=psM z:=by
 unfold Ri.PS.end_;split
 .rename_i h;rw[h];unfold Ri.PS.hears Ri.PS.at at h;simp only[A4]at h;split
  .rename_i e;have w:=h.2;rw[yB e]at w;simp only[psM,wayM,w,bM];simp;omega
  .rename_i e;have w:=h.2;rw[yA e]at w;simp only[psM,wayM,w,bM];simp;omega
 .rename_i h;rw[show z.hears n=A1 by simpa using h];simp[bM]
def qg51(w:Ri.Way)(k:Int):wayM (w.out k)+2*(w.bs.take k.toNat).length+2*bM (w.end_ k)<=wayM w:=by
 unfold Ri.Way.out wayM;simp only[Ac,Ad];cases he:w.end_ k with
 |false=>simp only[Bool.or_false,bM];simp;omega
 |true=>
  unfold Ri.Way.end_ at he;simp only[A4]at he;have h:=he.1.2;have a:w.told=A1:=by simpa using h
  simp only[a,bM];simp;omega
def outM(z:Ri.PS)(n k:Int):psM (z.out n k)+2*(z.outB n k).length+2*bM (z.outE n k)<=psM z:=by
 unfold Ri.PS.out Ri.PS.outB Ri.PS.outE Ri.PS.to;split
 .rename_i h;simp only[h,Aq];split
  .have:=qg51 z.w1 k;simp only[psM];omega
  .have:=qg51 z.w0 k;simp only[psM];omega
 .rename_i h;have h:(Ri.sideB n&&!z.broken)=A1:=by simpa using h
  simp only[h,Bool.false_and,bM];simp
section
variable{m:Int}{s s':Bk}{c:qy}{f t t':q31}{id:Int}
def q651{i:Nat}{inn o:List UInt8}{ended en a:Bool}{z z0:Ri.PS}(b:s.pumps[i]?=A0 z0)(h:Bk.relayE c s f t i inn o ended en z=(s',t',a)):
 (m0 s'+psM z0<=m0 s+psM z+o.length)/\roM t'<=roM t+bM en/\bM a<=inn.length+o.length+bM ended+bM en/\s'.P=s.P/\s'.roles=s.roles:=by
 unfold Bk.relayE at h;simp only[A6]at h;obtain⟨rfl,rfl,rfl⟩:=h;refine⟨?_,?_,?_,rfl,rfl⟩
 .have w:=qe51 psM z b;have d:=updM s.N t.conn (Cn.gSay o) o.length (sayM o);simp only[m0,Bk.upd]at w⊢;omega
 .unfold roM bM;cases t.due<;>cases en<;>simp
 .unfold bM;cases ended<;>cases en<;>simp;split<;>omega
def q741{a:Bool}(h:s.relay c f t=A0 (s',t',a)):m0 s'+roM t'+bM a<=m0 s+roM t/\s'.P=s.P/\s'.roles=s.roles:=by
 unfold Bk.relay at h;cases hp:f.pump with
 |none=>rw[hp]at h;cases h
 |some i=>
 rw[hp]at h;dsimp only at h;cases hz:s.pumps[i]? with
 |none=>rw[hz]at h;cases h
 |some z=>
 rw[hz]at h;dsimp only at h;have w:=qi71 s.N f.conn (z.room 256 f.side);generalize s.N.ask f.conn [] (λd=>d.inb.take ((z.room 256 f.side:Nat):Int).toNat)=inn at h w;unfold Bk.relayA Bk.relayB Bk.relayC Bk.relayD at h;have h:=Ao h;generalize j:((s.upd f.conn (Cn.gRest ((z.room 256 f.side:Nat):Int))).N.ask f.conn 0 (λd=>(d.inb.length:Int))==0&&(s.upd f.conn (Cn.gRest ((z.room 256 f.side:Nat):Int))).N.ask f.conn A1 λd=>d.ended)=zz at h;obtain⟨m,o,l,b,g⟩:=q651 (s:=s.upd f.conn (Cn.gRest ((z.room 256 f.side:Nat):Int))) (z0:=z) hz h;have k:=inM z 256 f.side inn;have e:=endM (z.in_ 256 f.side inn) f.side;generalize z.in_ 256 f.side inn=z1 at*;have q:psM (if zz=A7 then z1.end_ f.side else z1)+bM (zz&&z1.hears f.side)<=psM z1:=by
  cases zz with
  |true=>simpa using e
  |false=>simp[bM]
 generalize (if zz=A7 then z1.end_ f.side else z1)=z2 at*;have n:=outM z2 t.side ((s.upd f.conn (Cn.gRest ((z.room 256 f.side:Nat):Int))).N.ask t.conn 0 λd=>((1024 - d.out.length:Nat):Int));refine⟨?_,b,g⟩;have p:m0 (s.upd f.conn (Cn.gRest ((z.room 256 f.side:Nat):Int)))+3*inn.length<=m0 s:=by simp only[m0,Bk.upd]at w⊢;omega
 omega
def q851{fl w:Bool}{p:Int×Int}(h:Bk.relays c (s,fl) p=A0 (s',w)):∃a,w=(a||fl)/\bkM s'+bM a<=bkM s:=by
 unfold Bk.relays at h;split at h;.cases h
 rename_i j;simp only at h;cases h1:qe s.roles p.1 with
 |none=>rw[h1]at h;cases h
 |some rv=>
 cases i:qe s.roles p.2 with
 |none=>rw[h1,i]at h;cases h
 |some rk=>
 rw[h1,i]at h;simp only at h;cases e1:s.relay c rv rk with
 |none=>rw[e1]at h;cases h
 |some x=>
 obtain⟨t,b,f⟩:=x;rw[e1]at h;simp only at h;cases e2:t.relay c b rv with
 |none=>rw[e2]at h;cases h
 |some x=>
 obtain⟨d,g,a2⟩:=x;rw[e2]at h;simp only[A2,A6]at h;obtain⟨rfl,rfl⟩:=h;obtain⟨y,r,n⟩:=q741 e1;obtain⟨A,o,u⟩:=q741 e2;refine⟨a2||f,by rw[Ak],?_⟩;have l:d.roles=s.roles:=u.trans n;have m:d.P=s.P:=o.trans r;have C:=qn11 roM b i;have z:=qn11 roM (L:=qk s.roles p.2 b) (k:=p.1) (v:=rv) g (by rw[qh2,yA (λe=>j e.symm)];exact h1);have B:bM (a2||f)<=bM a2+bM f:=by cases a2<;>cases f<;>simp[bM]
 have q:bkM ((d.put p.2 b).put p.1 g)=m0 d+sumV roM (qk (qk s.roles p.2 b) p.1 g)+s.P.ends.length:=by simp only[bkM,Bk.put,l,m];rfl
 rw[q];unfold bkM;omega
def qy41{fl c:Bool}(w:Bk.flushes (s,fl) id=A0 (s',c)):∃a,c=(a||fl)/\bkM s'+bM a<=bkM s:=by
 unfold Bk.flushes at w;cases e:s.flush id with
 |none=>simp only[e]at w;cases w
 |some x=>
 obtain⟨i,a⟩:=x;simp only[e,A2,A6]at w;obtain⟨rfl,rfl⟩:=w;refine⟨a,rfl,?_⟩;unfold Bk.flush at e;cases hg:qe s.roles id with
 |none=>rw[hg]at e;cases e
 |some r=>
 rw[hg]at e;simp only[A2,A6]at e;obtain⟨rfl,rfl⟩:=e;have k:=q361 s.N r.conn;have g:=qn11 roM (Bk.flushR r (s.flushE r)) hg;have j:roM (Bk.flushR r (s.flushE r))+bM (s.flushE r)<=roM r:=by
  unfold Bk.flushR;split
  .rename_i h;rw[h];unfold Bk.flushE at h;simp only[A4]at h;simp[roM,bM,h.1]
  .rename_i h;rw[show s.flushE r=A1 by simpa using h];simp[bM]
 have d:∀(n:Nat) (b:Bool),bM (decide ((n:Int)>0)||b)<=n+bM b:=λn b=>by cases b<;>simp[bM];split<;>omega
 have d:=d (s.N.ask r.conn [] Cn.rFlush).length (s.flushE r);have f:bkM ((s.flushS r (s.flushE r)).put id (Bk.flushR r (s.flushE r)))=sumV cnM (s.N.upd r.conn Cn.gFlush).L+(s.pumps.map psM).sum+sumV roM (qk s.roles id (Bk.flushR r (s.flushE r)))+s.P.ends.length:=rfl;rw[f];simp only[bkM,m0];omega
def qk31{α:Type}{g:Bk×Bool->α->Option (Bk×Bool)}(c:∀s fl x s' w,g (s,fl) x=A0 (s',w)->∃a,w=(a||fl)/\bkM s'+bM a<=bkM s):∀(l:List α) (s:Bk) (fl:Bool) (s':Bk) (w:Bool),qw1 g (s,fl) l=A0 (s',w)->∃a,w=(a||fl)/\bkM s'+bM a<=bkM s
 |[],s,fl,s',w,h=>by cases h;exact⟨A1,rfl,by simp[bM]⟩
 |x::r,s,fl,s',w,h=>by
  rw[qme]at h;cases e:g (s,fl) x with
  |none=>rw[e]at h;cases h
  |some y=>
  obtain⟨f,j⟩:=y;rw[e]at h;obtain⟨a,rfl,k⟩:=c _ _ _ _ _ e;obtain⟨b,rfl,d⟩:=qk31 c r _ _ _ _ h;refine⟨b||a,by rw[Ak],?_⟩;have i:bM (b||a)<=bM b+bM a:=by cases b<;>cases a<;>simp[bM]
  omega
end
end
section
structure Rn(s s':Bk):Prop where
 B:s'.B=s.B
 Q:s'.Q=s.Q
 now:s'.K.now=s.K.now
 R:∀j r,qe s.roles j=A0 r->r.kind≠4->∃b d,qe s'.roles j=A0 { r with due:=b,said:=d}
 K:∀j r',qe s'.roles j=A0 r'->∃r,qe s.roles j=A0 r/\r'.kind=r.kind
 E:∀j d',qe s'.N.L j=A0 d'->∃d,qe s.N.L j=A0 d/\d'.ended=d.ended
 last:s'.N.last=s.N.last
def Rn.refl(s:Bk):Rn s s:=⟨rfl,rfl,rfl,λj r h _=>⟨r.due,r.said,h⟩,λj r h=>⟨r,h,rfl⟩,λj d h=>⟨d,h,rfl⟩,rfl⟩
def Rn.trans{s t u:Bk}(h:Rn s t)(k:Rn t u):Rn s u where
 B:=k.B.trans h.B
 Q:=k.Q.trans h.Q
 now:=k.now.trans h.now
 R:=λj r c g=>by obtain⟨b,d,a⟩:=h.R j r c g;obtain⟨m,o,w⟩:=k.R j _ a g;exact⟨m,o,w⟩
 K:=λj r c=>by obtain⟨i,a,w⟩:=k.K j r c;obtain⟨p,e,f⟩:=h.K j i a;exact⟨p,e,w.trans f⟩
 E:=λj d n=>by obtain⟨l,a,w⟩:=k.E j d n;obtain⟨d0,e,f⟩:=h.E j l a;exact⟨d0,e,w.trans f⟩
 last:=k.last.trans h.last
def EK(N w:Cn.CT):Prop:=(∀j h,qe w.L j=A0 h->∃d,qe N.L j=A0 d/\h.ended=d.ended)/\w.last=N.last
def EK.refl(N:Cn.CT):EK N N:=⟨λj d h=>⟨d,h,rfl⟩,rfl⟩
def EK.trans{A B C:Cn.CT}(h:EK A B)(k:EK B C):EK A C:=⟨λj d c=>by obtain⟨b,f,w⟩:=k.1 j d c;obtain⟨d0,a,e⟩:=h.1 j b f;exact⟨d0,a,w.trans e⟩,k.2.trans h.2⟩
def EK.upd(N:Cn.CT)(id:Int){g:Cn.CnD->Cn.CnD}(a:∀d,(g d).ended=d.ended):EK N (N.upd id g):=⟨λj d h=>by
 rw[ql3]at h;split at h
 .obtain⟨d0,w,rfl⟩:=A3.1 h;exact⟨d0,w,a d0⟩
 .exact⟨d,h,rfl⟩,qoe _ _ _⟩
def qk51(o:List UInt8)(d:Cn.CnD):(Cn.gSay o d).ended=d.ended:=by unfold Cn.gSay;split<;>rfl
section
variable{m:Int}{s s':Bk}{c:qy}{f t t':q31}{id o:Int}{b:Bool}
def q451{a:Bool}(h:s.relay c f t=A0 (s',t',a)):EK s.N s'.N:=by
 unfold Bk.relay at h;split at h;.cases h
 split at h;.cases h
 unfold Bk.relayA Bk.relayB Bk.relayC Bk.relayD Bk.relayE at h;simp only[A2,A6]at h;obtain⟨rfl,_⟩:=h;have key:∀(n:Int) (o:List UInt8),EK s.N ((s.N.upd f.conn (Cn.gRest n)).upd t.conn (Cn.gSay o)):=λn o=>(EK.upd s.N f.conn (g:=Cn.gRest n) λd=>rfl).trans (EK.upd _ t.conn (g:=Cn.gSay o) λd=>qk51 o d);exact key _ _
def q861{fl w:Bool}{p:Int×Int}(h:Bk.relays c (s,fl) p=A0 (s',w)):EK s.N s'.N:=by
 unfold Bk.relays at h;split at h;.cases h
 split at h
 .split at h;.cases h
  rename_i d;split at h;.cases h
  rename_i a;simp only[A2,A6]at h;obtain⟨rfl,_⟩:=h;have e:=q451 d;have b:=q451 a;exact e.trans b
 .cases h
def qq51{fl w:Bool}(h:Bk.flushes (s,fl) id=A0 (s',w)):EK s.N s'.N:=by
 unfold Bk.flushes at h;split at h;.cases h
 rename_i e;simp only[A2,A6]at h;obtain⟨rfl,_⟩:=h;unfold Bk.flush at e;split at e;.cases e
 simp only[A2,A6]at e;obtain⟨rfl,_⟩:=e;exact EK.upd _ _ λd=>rfl
def qd41{α:Type}{g:Bk×Bool->α->Option (Bk×Bool)}(a:∀s fl x s' w,g (s,fl) x=A0 (s',w)->EK s.N s'.N):∀(l:List α) (s:Bk) (fl:Bool) (s':Bk) (w:Bool),qw1 g (s,fl) l=A0 (s',w)->EK s.N s'.N
 |[],s,fl,s',w,h=>by cases h;exact EK.refl _
 |x::r,s,fl,s',w,h=>by
  rw[qme]at h;cases e:g (s,fl) x with
  |none=>rw[e]at h;cases h
  |some y=>
  obtain⟨b,c⟩:=y;rw[e]at h;exact(a _ _ _ _ _ e).trans (qd41 a r _ _ _ _ h)
def outK(s:Bk)(id:Int):m0 (s.out id)<=m0 s/\sumV roM (s.out id).roles<=sumV roM s.roles:=by have w:=qm31 cnM (s.N.upd id Cn.gFlush).L id;have h:=q361 s.N id;refine⟨?_,qm31 roM s.roles id⟩;show sumV cnM (qp (s.N.upd id Cn.gFlush).L id)+(s.pumps.map psM).sum<=_;unfold m0;omega
def qx51(P:qd6)(id:Int):(qxf P id).ends.length<=P.ends.length:=by
 unfold qxf;split
 .have w:=qqn (qp P.ends id) (qb4 P id);have h:=qqn P.ends id;simp only;omega
 .exact Ah _
def qi51{P:qd6}(h:(qe P.ends id).isSome=A7):(qxf P id).ends.length<P.ends.length:=by unfold qxf;rw[yB h];obtain⟨v,w⟩:=Aa.1 h;have b:=qqn (qp P.ends id) (qb4 P id);have a:=q9s w;simp only;omega
def qy51(h:s.Str m)(w:qe s.P.ends id=A0 (o,b)):bkM (s.shut id)+1<=bkM s:=by
 obtain⟨l,q,r,i0,a,k,_⟩:=h.pair id o b w;have f:∃n,s.roles.length+1=n+2:=by
  cases hs:s.roles with
  |nil=>rw[hs]at a;cases a
  |cons x y=>exact⟨y.length,rfl⟩
 obtain⟨n,i⟩:=f;have e:s.shut id={(Bk.give { s.out id with P:=qxf s.P id} r.ten 2).out o with P:=qxf (qxf s.P id) o}:=by rw[<-qs11 n h w a,<-i];rfl
 rw[e];obtain⟨v,p⟩:=outK s id;obtain⟨g,c⟩:=outK (Bk.give { s.out id with P:=qxf s.P id} r.ten 2) o;have t:=qx51 (qxf s.P id) o;have u:=qi51 (P:=s.P) (id:=id) (by rw[w];rfl);have j:m0 (Bk.give { s.out id with P:=qxf s.P id} r.ten 2)=m0 (s.out id):=rfl;have d:(Bk.give { s.out id with P:=qxf s.P id} r.ten 2).roles=(s.out id).roles:=rfl;rw[j]at g;rw[d]at c;show m0 ((Bk.give { s.out id with P:=qxf s.P id} r.ten 2).out o)+sumV roM ((Bk.give { s.out id with P:=qxf s.P id} r.ten 2).out o).roles+(qxf (qxf s.P id) o).ends.length+1<=_;unfold bkM;omega
def qb41:∀(l:List (Int×Int)) (s:Bk) (fl:Bool) (s':Bk) (w:Bool),s.Str m->(∀p∈l,∃b,qe s.P.ends p.1=A0 (p.2,b))->l.Pairwise qo51->qw1 Bk.ends (s,fl) l=A0 (s',w)->
 ∃a,w=(a||fl)/\bkM s'+bM a<=bkM s/\∀j r,qe s.roles j=A0 r->r.kind≠4->qe s'.roles j=A0 r
 |[],s,fl,s',w,h,_,_,c=>by cases c;exact⟨A1,rfl,by simp[bM],λj r h _=>h⟩
 |a::r,s,fl,s',w,h,B,d,c=>by
  obtain⟨n,u⟩:=List.pairwise_cons.1 d;obtain⟨b,t⟩:=B a Ag;obtain⟨M,F,rv,i,A,z,_⟩:=h.pair a.1 a.2 b t;obtain⟨_,_,Q,j,D,v,_⟩:=h.pair a.2 a.1 (!b) F;rw[qme]at c;cases e:Bk.ends (s,fl) a with
  |none=>rw[e]at c;cases c
  |some y=>
  obtain⟨g,J⟩:=y;rw[e]at c;simp only at c;have step:∃q,J=(q||fl)/\bkM g+bM q<=bkM s/\g.Str m/\(∀j r,qe s.roles j=A0 r->r.kind≠4->qe g.roles j=A0 r)/\∀p∈r,qe g.P.ends p.1=qe s.P.ends p.1:=by
   unfold Bk.ends at e;rw[yA (λe=>M e.symm)]at e;simp only at e;rw[A]at e;simp only at e;split at e
   .cases e;exact⟨A1,rfl,by simp[bM],h,λj r h _=>h,λ_ _=>rfl⟩
   .rw[D]at e;simp only at e;split at e
    .cases e;obtain⟨E,P,_⟩:=qk11 h a.1;obtain⟨N,O,C⟩:=qn31 h t;refine⟨A7,by simp,by have:=qy51 h t;simpa [bM]using this,E,λj q k f=>?_,λp d=>(C p.1 (n p d).1 (n p d).2.1).1⟩;rw[(C j (λe=>f (by rw[e,A]at k;cases k;exact z)) λe=>f (by rw[e,D]at k;cases k;exact v)).2];exact k
    .cases e;exact⟨A1,rfl,by simp[bM],h,λj r h _=>h,λ_ _=>rfl⟩
  obtain⟨q,rfl,T,I,G,K⟩:=step;obtain⟨o,rfl,R,L⟩:=qb41 r g _ s' w I (λp d=>by rw[K p d];exact B p (A5 _ d)) u c;refine⟨o||q,by rw[Ak],?_,λj x H f=>L j x (G j x H f) f⟩;have t:bM (o||q)<=bM o+bM q:=by cases o<;>cases q<;>simp[bM]
  omega
def qu41(h:s.Str m)(P:m<=1000000):∃s' fl,s.round c=A0 (s',fl)/\s'.Str m/\Rn s s'/\bkM s'+bM fl<=bkM s:=by
 obtain⟨X,U,u,A,t,_,z,n,w,e⟩:=qi41 (c:=c) h P;obtain⟨v,o,y,C,H,J,f⟩:=qj41 (qtc s.P) u A n (λp l=>by rw[w.P];exact qz11 h p l) (q941 h);obtain⟨k,R,T⟩:=qk31 (λs fl x s' fl'=>q851 (c:=c)) _ _ _ _ _ t;obtain⟨a2,B,V⟩:=qk31 (λs fl x s' fl'=>qy41) _ _ _ _ _ z;obtain⟨a3,Q,Y,O⟩:=qb41 (m:=m) (qtc s.P) u A v o n (λp l=>by rw[w.P];exact qz11 h p l) (q941 h) y;have E:=qd41 (λs fl x s' fl'=>q861 (c:=c)) _ _ _ _ _ t;have M:=qd41 (λs fl x s' fl'=>qq51) _ _ _ _ _ z;have x:=E.trans M;refine⟨v,o,e.trans y,C,⟨H.trans w.B,J.trans w.Q,f.now.trans w.now,λj r G I=>?_,λj q a=>?_,λj d D=>?_,f.last.trans x.2⟩,?_⟩
 .obtain⟨b,d,g⟩:=(w.sim j).2 r G;exact⟨b,d,O j _ g I⟩
 .rcases f.R j with g|g
  .rw[g]at a;cases h0:qe s.roles j with
   |none=>rw[(w.sim j).1 h0]at a;cases a
   |some r=>obtain⟨b,d,i⟩:=(w.sim j).2 r h0;rw[i]at a;cases a;exact⟨r,rfl,rfl⟩
  .rw[g]at a;cases a
 .obtain⟨N,i,L,_⟩:=f.E j d D;obtain⟨d0,F,K⟩:=x.1 j N i;exact⟨d0,F,L.trans K⟩
 .subst Q B R;have W:bM (a3||(a2||(k||A1)))<=bM a3+bM a2+bM k:=by cases a3<;>cases a2<;>cases k<;>simp[bM]
  omega
def qa41(i:m<=1000000):∀(k:Nat) (s:Bk),bkM s<=k->s.Str m->∃n s',∀w,n<=w->Bk.rounds c w s=A0 s'/\s'.Str m/\Rn s s'/\qj11 s':=by
 intro k;induction k with
 |zero=>
  intro s q h;obtain⟨a,fl,e,l,f,d⟩:=qu41 (c:=c) h i;cases fl with
  |true=>simp[bM]at d;omega
  |false=>obtain⟨rfl,b⟩:=qq31 h e;refine⟨1,a,λw j=>⟨?_,h,Rn.refl _,b⟩⟩;obtain⟨w,rfl⟩:∃x,w=x+1:=⟨w - 1,by omega⟩;unfold Bk.rounds;rw[e];rfl
 |succ k ih=>
  intro s q h;obtain⟨a,fl,e,l,f,d⟩:=qu41 (c:=c) h i;cases fl with
  |true=>simp[bM]at d;obtain⟨n,s',g⟩:=ih a (by omega) l;refine⟨n+1,s',λw j=>?_⟩;obtain⟨w,rfl⟩:∃x,w=x+1:=⟨w - 1,by omega⟩;obtain⟨o,r,p,t⟩:=g w (by omega);refine⟨?_,r,f.trans p,t⟩;unfold Bk.rounds;rw[e];simp only[yB];exact o
  |false=>obtain⟨rfl,b⟩:=qq31 h e;refine⟨1,a,λw j=>⟨?_,h,Rn.refl _,b⟩⟩;obtain⟨w,rfl⟩:∃x,w=x+1:=⟨w - 1,by omega⟩;unfold Bk.rounds;rw[e];rfl
end
end
section
section
variable{m:Int}{s s':Bk}{c:qy}{id x:Int}
def Book.keep(h:s.Book)(w:s'.B=s.B)(a:s'.K.now=s.K.now)(c:∀j,qli s.roles j->qli s'.roles j):s'.Book:=by refine⟨by rw[w];exact h.nB,by rw[w];exact h.name,λkey d b e=>?_,by rw[w];exact h.most,by rw[a];exact h.clock⟩;rw[w]at b;obtain⟨g,f⟩:=h.held key d b e;exact⟨by rw[a];exact g,c _ f⟩
def Rn.book(w:s.Book)(h:Rn s s'):s'.Book:=Book.keep w h.B h.now λj ⟨r,c,a⟩=>by obtain⟨b,d,e⟩:=h.R j r c (by omega);exact⟨_,e,a⟩
def qu51(so:LeD->Bool)(df:LeD->LeD)(L:LeL):(qk4 so df L).1.map (·.1)=L.map (·.1):=by
 have key:∀(l:List ByteArray) (s:LeL×List LeD),(l.foldl (q64 so df) s).1.map (·.1)=s.1.map (·.1):=by
  intro l;induction l with
  |nil=>intro s;rfl
  |cons a r h=>intro s;rw[Ae,h,qwy]
 exact key _ _
def Book.turn(i:s.Book){so:LeD->Bool}{df:LeD->LeD}(g:∀d,(df d).held=A1/\(df d).name=d.name)(w:Int)(l:q79 w=A7){R':List (Int×q31)}
 (j:∀k d,qe s.B.L k=A0 d->d.held=A7->so d=A1->w<d.til/\qli R' d.conn):q401 { s.B with L:=(qk4 so df s.B.L).1} w R':=by
 have get:∀k d,qe (qk4 so df s.B.L).1 k=A0 d->∃d0,qe s.B.L k=A0 d0/\(so d0=A7/\d=df d0\/so d0=A1/\d=d0):=λk d c=>by
  rw[qb61 so df i.nB k]at c;obtain⟨d0,f,e⟩:=A3.1 c;refine⟨d0,f,?_⟩;cases h:so d0 with
  |true=>rw[h,yB rfl]at e;exact .inl ⟨rfl,e.symm⟩
  |false=>rw[h,yA (by simp)]at e;exact .inr ⟨rfl,e.symm⟩
 refine⟨by rw[qu51];exact i.nB,λk d c=>?_,λk d c a=>?_,i.most,l⟩
 .obtain⟨d0,f,b|b⟩:=get k d c;.rw[b.2,(g d0).2];exact i.name k d0 f
  .rw[b.2];exact i.name k d0 f
 .obtain⟨d0,f,b|b⟩:=get k d c;.rw[b.2,(g d0).1]at a;cases a
  .rw[b.2]at a⊢;exact j k d0 f a b.1
def qs51(h:s.Book)(f:∀j,j≠id->qe s'.roles j=qe s.roles j)(w:s'.B=(qe5 s.B id s.K.now).1)(l:s'.K.now=s.K.now):s'.Book:=by unfold qe5 at w;rw[yA (by rw[h.clock];simp)]at w;unfold Bk.Book;rw[w,l];refine Book.turn h (so:=qid id s.K.now) (df:=λd=>q78 d (Zw Zk (s.K.now+s.B.grace))) (λd=>⟨rfl,rfl⟩) _ h.clock λk d i b a=>?_;obtain⟨c,g⟩:=h.held k d i b;refine⟨c,g.of (f _ λe=>?_)⟩;unfold qid at a;rw[b,e,yG c]at a;simp at a
def q021(h:s.Str m)(d:s.Book)(id:Int):(s.shut id).Book:=by
 unfold Bk.shut;cases hl:s.roles with
 |nil=>
  have a:qe s.roles id=Am:=by rw[hl];rfl
  have e:Bk.shutB (([]:List (Int×q31)).length+1) s id=s:=by unfold Bk.shutB;rw[a]
  rw[e];exact d
 |cons D r0=>
 have e0:(D::r0).length+1=r0.length+2:=rfl;rw[e0];generalize r0.length=n;cases a:qe s.roles id with
 |none=>
  have e:Bk.shutB (n+2) s id=s:=by unfold Bk.shutB;rw[a]
  rw[e];exact d
 |some r=>
 have f:∀j,qli s.roles j->r.kind≠2->j≠id:=λj ⟨q,u,g⟩ l e=>by subst e;rw[a]at u;cases u;exact l g
 have c:∀j,j≠id->qe (s.out id).roles j=qe s.roles j:=λj w=>by rw[qf11 h,yA (λe=>w e.symm)]
 by_cases v:r.kind=3;.exact Book.vis d (ql51 (n+1) h (.inr ⟨r,a,v⟩)).2.1
 by_cases z:r.kind=4
 .cases ho:qe s.P.ends id with
  |none=>
   have e:Bk.shutB (n+2) s id={ s.out id with P:=qxf s.P id}:=by show Bk.shutB ((n+1)+1) s id=_;rw[Bk.shutB,a];simp only;unfold Bk.after;rw[yA (by omega),yA (by omega),yB z];have:qe (s.out id).P.ends id=Am:=ho;rw[this];rfl
   rw[e];exact Book.keep d rfl rfl λj w=>w.of (c j (f j w (by omega)))
  |some y=>
   obtain⟨o,b⟩:=y;obtain⟨_,_,q,_,F,G,_⟩:=h.pair o id (!b) (h.pair id o b ho).2.1;have e:Bk.shutB (n+2) s id=s.shut id:=by have p:∃k,s.roles.length+1=k+2:=⟨r0.length,by rw[hl];rfl⟩;obtain⟨k,l⟩:=p;unfold Bk.shut;rw[l,qs11 n h ho a,qs11 k h ho a]
   rw[e];obtain⟨C,I,E⟩:=qn31 h ho;refine Book.keep d C (qk11 h id).2.1.now λj w=>w.of (E j (f j w (by omega)) λe=>?_).2;obtain⟨H,x,A⟩:=w;rw[e,F]at x;cases x;omega
 by_cases g:r.kind=2
 .have e:Bk.shutB (n+2) s id=Bk.leaveW (λs i=>Bk.shutB (n+1) s i) { s.out id with B:=(qe5 (s.out id).B id (s.out id).K.now).1} (qe5 (s.out id).B id (s.out id).K.now).2:=by show Bk.shutB ((n+1)+1) s id=_;rw[Bk.shutB,a];simp only;unfold Bk.after;rw[yB g]
  rw[e];have A:Bk.Str m { s.out id with B:=(qe5 (s.out id).B id (s.out id).K.now).1}:=Str.out h a (.inr g);have t:Bk.Book { s.out id with B:=(qe5 (s.out id).B id (s.out id).K.now).1}:=qs51 (id:=id) d (λj w=>c j w) rfl rfl;exact Book.vis t (q421 (qr41 n) _ _ A).2
 .have u:r.kind=1:=by have:=(h.role id r a).kind;omega
  have e:Bk.shutB (n+2) s id=s.out id:=by show Bk.shutB ((n+1)+1) s id=_;rw[Bk.shutB,a];simp only;unfold Bk.after;rw[yA g,yA v,yA z]
  rw[e];exact Book.keep d rfl rfl λj w=>w.of (c j (f j w g))
def Talk(x:Int)(s:Bk):Prop:=∀j r d,j≠x->qe s.roles j=A0 r->(r.kind=1\/r.kind=2)->qe s.N.L j=A0 d->d.ended=A1
end
end
section
structure Hv(x:Int)(s s':Bk):Prop where
 P:s'.P=s.P
 pumps:s'.pumps=s.pumps
 now:s'.K.now=s.K.now
 last:s'.N.last=s.N.last
 R:∀j,j≠x->qe s'.roles j=qe s.roles j\/qe s'.roles j=Am/\qcc s.roles j
 N:∀j r,j≠x->qe s.roles j=A0 r->r.kind=4->qe s'.N.L j=qe s.N.L j
 E:∀j d',qe s'.N.L j=A0 d'->∃d,qe s.N.L j=A0 d/\d'.ended=d.ended/\d'.inb=d.inb
structure New(x v:Int)(s s':Bk):Prop where
 P:s'.P=(q4g s.P v x).1
 pumps:s'.pumps=s.pumps++[Ri.PS.new]
 now:s'.K.now=s.K.now
 N:s'.N=s.N
 R:∀j,j≠x->j≠v->qe s'.roles j=qe s.roles j
 rv:∃p,qe s'.roles v=A0 (qq7 v p s.pumps.length 0)
 rx:∃p,qe s'.roles x=A0 (qq7 x p s.pumps.length 1)
 ne:v≠x
 vis:qcc s.roles v
def qu61(x:Int)(s s':Bk):Prop:=Hv x s s'\/∃v,New x v s s'
def Vis.hv{s s':Bk}(h:Vis s s')(x:Int):Hv x s s':=⟨h.P,h.pumps,h.now,h.last,λj _=>h.R j,λj r _ a w=>h.N j r a w,h.E⟩
def Hv.refl(x:Int)(s:Bk):Hv x s s:=(Vis.refl s).hv x
def Hv.trans{x:Int}{s t u:Bk}(h:Hv x s t)(k:Hv x t u):Hv x s u where
 P:=k.P.trans h.P
 pumps:=k.pumps.trans h.pumps
 now:=k.now.trans h.now
 last:=k.last.trans h.last
 R:=λj w=>by
  rcases k.R j w with c|⟨c,r,e,f⟩;.rw[c];exact h.R j w
  .rcases h.R j w with a|⟨a,b⟩;.exact .inr ⟨c,r,by rw[<-a];exact e,f⟩
   .exact .inr ⟨c,b⟩
 N:=λj r w e f=>by
  refine(k.N j r w ?_ f).trans (h.N j r w e f);rcases h.R j w with a|⟨_,q,b,g⟩;.rw[a];exact e
  .rw[e]at b;cases b;omega
 E:=λj d m=>by obtain⟨i,c,a,b⟩:=k.E j d m;obtain⟨d0,g,l,n⟩:=h.E j i c;exact⟨d0,g,a.trans l,b.trans n⟩
section
variable{m:Int}{N:Cn.CT}{R:List (Int×q31)}{P:qd6}{ps:List Ri.PS}{Q:Qu.QG}{T:TkB}{S:List (Int×q81)}{s s':Bk}{c:qy}{id x:Int}{r r':q31}
def Hv.talk(h:Hv x s s')(g:Talk x s):Talk x s':=λj q d a w c f=>by
 obtain⟨d0,i,b,_⟩:=h.E j d f;rw[b];rcases h.R j a with e|⟨e,_⟩;.rw[e]at w;exact g j q d0 a w c i
 .rw[e]at w;cases w
def qr5.set(h:qr5 m N R P ps Q T S)(a:qe R id=A0 r)(z:r.kind=1\/r.kind=2)(g:quz id r'):qr5 m N (qk R id r') P ps Q T S:=by
 have f:∀j,qcc R j->qcc (qk R id r') j:=λj ⟨q,w,n⟩=>by refine⟨q,?_,n⟩;rw[qh2,yA (λe=>by subst e;rw[a]at w;cases w;omega)];exact w
 refine { nN:=h.nN,nR:=qr7 h.nR _ _,nP:=h.nP,nS:=h.nS,nT:=h.nT,same:=λj=>?_,role:=λj q w=>?_,pair:=λj o b p=>?_,que:=λy l=>f _ (h.que y l),tick:=λt u=>f _ (h.tick t u),last0:=h.last0,last1:=h.last1,key:=h.key,sk:=h.sk,cred:=h.cred,mov:=h.mov}
 .rw[qh2];split;.rename_i e;subst e;rw[<-h.same,a];rfl
  .exact h.same j
 .rw[qh2]at w;split at w;.rename_i e;subst e;cases w;exact g
  .exact h.role _ _ w
 .obtain⟨s,v,q,i,d,k,x,c⟩:=h.pair j o b p;refine⟨s,v,q,i,?_,k,x,c⟩;rw[qh2,yA (λe=>by subst e;rw[a]at d;cases d;omega)];exact d
def q051(s:Bk)(x:Int)(r':q31):Hv x s (s.put x r'):=⟨rfl,rfl,rfl,rfl,λj w=>.inl (by show qe (qk s.roles x r') j=_;rw[qh2,yA (λe=>w e.symm)]),λ_ _ _ _ _=>rfl,λj d h=>⟨d,h,rfl,rfl⟩⟩
def qf21(s:Bk)(x:Int)(w:qk1):Hv x s (s.tell x w):=⟨rfl,rfl,rfl,qoe _ _ _,λj _=>.inl rfl,λj q a _ _=>by show qe (s.N.upd x _).L j=_;rw[ql3,yA (λe=>a e.symm)],λj d h=>by
 change qe (s.N.upd x _).L j=_ at h;rw[ql3]at h;split at h
 .obtain⟨d0,b,rfl⟩:=A3.1 h;refine⟨d0,b,?_⟩;unfold Cn.gSay;split<;>exact⟨rfl,rfl⟩
 .exact⟨d,h,rfl,rfl⟩⟩
def q061(c:qe s.roles id=A0 r)(a:r.kind≠2){j:Int}(h:qli s.roles j):j≠id:=λe=>by obtain⟨q,w,b⟩:=h;subst e;rw[c]at w;cases w;exact a b
def qw31(w:s.Book)(b:qe s.roles id=A0 r)(a:r.kind≠2)(r':q31):(s.put id r').Book:=Book.keep w rfl rfl λj h=>h.of (by show qe (qk s.roles id r') j=_;rw[qh2,yA (λe=>q061 b a h e.symm)])
def qe41(h:s.Str m)(b:qe s.roles x=A0 r)(a:r.kind=1\/r.kind=2):Hv x s (s.shut x):=by
 have w:Hv x s (s.out x):=⟨rfl,rfl,rfl,qx11 s x,λj c=>.inl (by rw[qf11 h,yA (λe=>c e.symm)]),λj q c _ _=>by rw[q121 h,yA (λe=>c e.symm)],(Less.out h x).E⟩;unfold Bk.shut;cases hl:s.roles with
 |nil=>rw[hl]at b;cases b
 |cons d r0=>
 rw[show(d::r0).length+1=r0.length+2 from rfl];generalize r0.length=n;have e:Bk.shutB (n+2) s x=Bk.after (λs i=>Bk.shutB (n+1) s i) (s.out x) x r:=by show Bk.shutB ((n+1)+1) s x=_;rw[Bk.shutB,b]
 rw[e];unfold Bk.after;rcases a with a|a
 .rw[yA (by omega),yA (by omega),yA (by omega)];exact w
 .rw[yB a];have f:Bk.Str m { s.out x with B:=(qe5 (s.out x).B x (s.out x).K.now).1}:=Str.out h b (.inr a);have g:Hv x s { s.out x with B:=(qe5 (s.out x).B x (s.out x).K.now).1}:=⟨w.P,w.pumps,w.now,w.last,w.R,w.N,w.E⟩;exact g.trans ((q421 (qr41 n) _ _ f).2.hv x)
def qy11(h:s.Str m)(i:s.Book)(d:qe s.roles id=A0 r)(c:r.kind=1\/r.kind=2)(e:Int):(s.refuse id e).Str m/\(s.refuse id e).Book/\Hv id s (s.refuse id e)/\qe (s.refuse id e).roles id=Am:=by have w:(s.no id e).Str m:=Str.tell h id _;have b:(s.no id e).Book:=Book.keep i rfl rfl λj g=>g;obtain⟨a,_,f⟩:=qk11 w id;exact⟨a,q021 w b id,(qf21 s id _).trans (qe41 w (r:=r) d c),f⟩
def qs41(a:s.Book){name:ByteArray}(h:(q06 s.B name s.K.now).2=A7):qli s.roles (q06 s.B name s.K.now).1.conn:=by
 unfold q06 at h⊢;cases hd:qe s.B.L name with
 |none=>simp only[hd]at h;cases h
 |some d=>
  simp only[hd]at h⊢;split at h
  .rename_i w;rw[yB w];unfold qv4 at w;cases hh:d.held with
   |true=>exact(a.held name d hd hh).2
   |false=>rw[hh,yA (by simp)]at w;split at w<;>cases w
  .cases h
def qw61{G:Qu.QG}{n:ByteArray}{id:Int}(h:(Qu.gPut G n id).2≠0):(Qu.gPut G n id).1=G:=by
 unfold Qu.gPut at h⊢;split;.rfl
 .rename_i a;rw[yA a]at h;split;.rfl
  .rename_i w;rw[yA w]at h;exact yI rfl h
def qo61{G:Qu.QG}{n:ByteArray}{id:Int}(h:¬(Qu.gPut G n id).2≠0):(Qu.gPut G n id).1=G++[(n,id)]:=by
 unfold Qu.gPut at h⊢;split
 .rename_i w;rw[yB w]at h;exact yI (show(4:Int)≠0 by decide) h
 .rename_i w;rw[yA w]at h;split
  .rename_i a;rw[yB a]at h;exact yI (show(2:Int)≠0 by decide) h
  .rfl
def q171{name:ByteArray}(h:s.admE id name≠0):(s.admitted id name).Q=s.Q:=by
 unfold Bk.admE at h;unfold Bk.admitted;unfold Bk.admR at h⊢;simp only at h⊢;split;.rfl
 .rename_i c;rw[yA c]at h;split;.rfl
  .rename_i b;rw[yA b]at h;split;.rfl
   .rename_i a;rw[yA a]at h;split
    .rename_i w;exact qw61 w
    .rename_i w;rw[yA w]at h;exact yI rfl h
def qf61{name:ByteArray}(h:¬s.admE id name≠0):(s.admitted id name).Q=s.Q++[(name,id)]/\(q06 s.B name s.K.now).2=A7:=by
 unfold Bk.admE at h;unfold Bk.admitted;unfold Bk.admR at h⊢;simp only at h⊢;split
 .rename_i c;rw[yB c]at h;exact yI (show(3:Int)≠0 by decide) h
 .rename_i c;rw[yA c]at h;have d:(q06 s.B name s.K.now).2=A7:=by simpa using c
  split
  .rename_i w;rw[yB w]at h;exact yI w h
  .rename_i w;rw[yA w]at h;split
   .rename_i a;rw[yB a]at h;exact yI a h
   .rename_i a;rw[yA a]at h;split
    .rename_i b;rw[yB b]at h;exact yI b h
    .rename_i b;exact⟨qo61 b,d⟩
def qh51(T:TkB)(p:qac)(draw:ByteArray):(qca T p draw).1.good=T.good\/∃t,(qca T p draw).1.good=T.good++[⟨p,t⟩]:=by
 unfold qca;split;.exact .inl rfl
 .split;.exact .inl rfl
  .exact .inr ⟨_,rfl⟩
def qr61(h:s.Str m)(z:s.Book)(p:qe s.roles id=A0 r)(O:r.kind=1)(name draw:ByteArray):(s.reach c id r name draw).Str m/\(s.reach c id r name draw).Book/\Hv id s (s.reach c id r name draw):=by
 have A:Hv id s (s.admitted id name):=⟨rfl,rfl,rfl,rfl,λj _=>.inl rfl,λ_ _ _ _ _=>rfl,λj d h=>⟨d,h,rfl,rfl⟩⟩;have C:(s.admitted id name).Book:=Book.keep z rfl rfl λj K=>K;unfold Bk.reach;split
 .rename_i F;have o:(s.admitted id name).Str m:=qr5.que_sub h λy i=>by rw[q171 F]at i;exact i
  obtain⟨P,W,V,_⟩:=qy11 o C (r:=r) p (.inl O) (s.admE id name);exact⟨P,W,A.trans V⟩
 .rename_i F;obtain⟨l,Q⟩:=qf61 F;have B:=qs41 z Q;have u:s.held name=(q06 s.B name s.K.now).1:=rfl;rw[u];generalize (q06 s.B name s.K.now).1=xl at B;simp only;generalize (⟨11,name,_,0,0⟩:qk1)=msg;have U:=h.role id r p;obtain⟨w,k⟩:∃w:q31,w={ r with kind:=3,ten:=xl.ten,name:=name,epoch:=xl.epoch}:=⟨_,rfl⟩;have H:quz id w:=⟨by rw[k];exact U.conn,by rw[k];exact .inr (.inr (.inl rfl))⟩;rw[<-k];have o:=qr5.set (r':=w) h p (.inl O) H;have n:qcc (qk s.roles id w) id:=⟨w,by rw[qh2,yB rfl],by rw[k]⟩;have J:∀t∈s.T.good,t.p.vis≠id:=λt f e=>by obtain⟨q,l,R⟩:=h.tick t f;rw[e,p]at l;cases l;omega
  generalize I:(qca ((((s.admitted id name).put id w).alarm c.wait [id]).T) ⟨id,name,xl.ten,xl.epoch⟩ draw).1=T';have E:(((s.admitted id name).put id w).alarm c.wait [id]).T=s.T:=rfl;rw[E]at I;have x:(T'.good.map (·.p.vis)).Nodup/\∀t∈T'.good,qcc (qk s.roles id w) t.p.vis:=by
   rcases qh51 s.T ⟨id,name,xl.ten,xl.epoch⟩ draw with e|⟨Y,e⟩
   .rw[I]at e;rw[e];exact⟨o.nT,o.tick⟩
   .rw[I]at e;rw[e];refine⟨?_,λt f=>?_⟩
    .rw[List.map_append,List.nodup_append];refine⟨o.nT,by simp,λa B b z e=>?_⟩;obtain⟨t,f,rfl⟩:=An.1 B;simp at z;exact J t f (e.trans z)
    .rcases Af.1 f with f|f;.exact o.tick t f
     .simp at f;subst f;exact n
  have v:∀y∈(s.admitted id name).Q,qcc (qk s.roles id w) y.2:=λy i=>by
   rw[l]at i;rcases Af.1 i with i|i;.exact o.que y i
   .simp at i;subst i;exact n
  have D:qr5 m s.N (qk s.roles id w) s.P s.pumps (s.admitted id name).Q T' s.S:={ o with que:=v,nT:=x.1,tick:=x.2};have D:Bk.Str m {((s.admitted id name).put id w).alarm c.wait [id]with T:=T'}:=D;have G:∀q,qe ({((s.admitted id name).put id w).alarm c.wait [id]with T:=T'}:Bk).roles xl.conn=A0 q->q.kind≠4:=λq l=>by have l:qe (qk s.roles id w) xl.conn=A0 q:=l;rw[qh2,yA (λe=>q061 p (by omega) B e.symm)]at l;obtain⟨X,N,Z⟩:=B;rw[l]at N;cases N;omega
  have v2:=Vis.tell (s:={((s.admitted id name).put id w).alarm c.wait [id]with T:=T'}) msg G;have M:Hv id s {((s.admitted id name).put id w).alarm c.wait [id]with T:=T'}:=by have g:=(A.trans (q051 (s.admitted id name) id w)).trans ((qw51 ((s.admitted id name).put id w) c.wait [id]).hv id);exact⟨g.P,g.pumps,g.now,g.last,g.R,g.N,g.E⟩
  have L:Bk.Book {((s.admitted id name).put id w).alarm c.wait [id]with T:=T'}:=Book.keep (qw31 C (r:=r) p (by omega) w) rfl (qg11 _ _ _) λj K=>K;exact⟨Str.tell D _ _,Book.vis L v2,M.trans (v2.hv id)⟩
def qn61(h:s.Str m)(x:s.Book)(k:qe s.roles id=A0 r)(t:r.kind=1)(a:qk1)(draw:ByteArray):∃s',s.greet c id r a draw=A0 s'/\s'.Str m/\s'.Book/\Hv id s s':=by
 unfold Bk.greet;split;.exact⟨_,rfl,qr61 h x k t _ _⟩
 .have q:=h.role id r k;have p:r.sh.isSome=A7:=by
   rcases q.kind with n|n|n|n;.exact n.2
   .omega
   .omega
   .omega
  obtain⟨b,i⟩:∃b:q31,b=if r.heard=A7 then r else { r with heard:=A7,token:=a.B}:=⟨_,rfl⟩
  have l:b.conn=r.conn/\b.kind=r.kind/\b.sh=r.sh:=by rw[i];split<;>exact⟨rfl,rfl,rfl⟩
  rw[<-i];simp only;rw[l.2.2];obtain⟨d,B⟩:=Aa.1 p;rw[B];simp only;generalize q75 c s.R d a s.K.now (Bk.nonce draw)=hs;obtain⟨y,said,z⟩:=hs;simp only;obtain⟨w,g⟩:∃w:q31,w={ b with sh:=A0 y}:=⟨_,rfl⟩;rw[<-g];have f:w.conn=id/\w.kind=1/\w.sh=A0 y:=by rw[g];exact⟨l.1.trans q.conn,l.2.1.trans t,rfl⟩
  have o:quz id w:=⟨f.1,.inl ⟨f.2.1,by rw[f.2.2];rfl⟩⟩;have A:(s.put id w).Str m:=qr5.set h k (.inl t) o;have D:=qw31 x k (by omega) w;have e:((s.put id w).tell id said).Str m:=Str.tell A id said;have u:((s.put id w).tell id said).Book:=Book.keep D rfl rfl λj C=>C;have v3:Hv id s ((s.put id w).tell id said):=(q051 s id w).trans (qf21 _ _ _);have v:qe ((s.put id w).tell id said).roles id=A0 w:=by show qe (qk s.roles id w) id=_;rw[qh2,yB rfl]
  split;.exact⟨_,rfl,(qk11 e id).1,q021 e u id,v3.trans (qe41 e v (.inl f.2.1))⟩
  .split;.exact⟨_,rfl,qr5.set e v (.inl f.2.1) ⟨l.1.trans q.conn,.inr (.inl rfl)⟩,qw31 u v (by omega) _,v3.trans (q051 _ _ _)⟩
   .exact⟨_,rfl,e,u,v3⟩
end
end
section
def q621(so:LeD->Bool)(df:LeD->LeD)(g:LeL):∀(l:List ByteArray) (s:LeL×List LeD),l.Nodup->(∀k∈l,qe s.1 k=qe g k)->
 (∀x∈(l.foldl (q64 so df) s).2,x∈s.2\/∃k,qe g k=A0 x/\so x=A7)/\(∀x∈s.2,x∈(l.foldl (q64 so df) s).2)/\∀k∈l,∀d,qe g k=A0 d->so d=A7->d∈(l.foldl (q64 so df) s).2
 |[],s,_,_=>⟨λx h=>.inl h,λx h=>h,λk h=>by cases h⟩
 |a::r,s,z,h=>by
  obtain⟨A,v⟩:=Ap.1 z;rw[Ae];have i:(∀k∈r,qe (q64 so df s a).1 k=qe g k)/\(∀x∈(q64 so df s a).2,x∈s.2\/∃k,qe g k=A0 x/\so x=A7)/\(∀x∈s.2,x∈(q64 so df s a).2)/\∀d,qe g a=A0 d->so d=A7->d∈(q64 so df s a).2:=by
   have m:=h a Ag;unfold q64;cases f:qe s.1 a with
   |none=>exact⟨λk c=>h k (A5 _ c),λx w=>.inl w,λx w=>w,λd b=>by rw[<-m,f]at b;cases b⟩
   |some d=>
    simp only;split
    .rename_i j;refine⟨λk c=>?_,λx w=>?_,λx w=>List.mem_append_left _ w,λt b _=>?_⟩
     .rw[qh2,yA (λe=>A (by rw[e];exact c))];exact h k (A5 _ c)
     .rcases Af.1 w with w|w;.exact .inl w
      .simp at w;subst w;exact .inr ⟨a,by rw[<-m,f],j⟩
     .rw[<-m,f]at b;cases b;exact List.mem_append_right _ (by simp)
    .rename_i j;exact⟨λk c=>h k (A5 _ c),λx w=>.inl w,λx w=>w,λt b n=>by rw[<-m,f]at b;cases b;exact yI n j⟩
  obtain⟨p,B,u,y⟩:=i;obtain⟨C,o,q⟩:=q621 so df g r _ v p;refine⟨λx w=>?_,λx w=>o x (u x w),λk c d f j=>?_⟩
  .rcases C x w with w|w;.exact B x w
   .exact .inr w
  .rcases List.mem_cons.1 c with rfl|c;.exact o d (y d f j)
   .exact q k c d f j
def qc21{so:LeD->Bool}{df:LeD->LeD}{L:LeL}(w:(L.map (·.1)).Nodup){x:LeD}(h:x∈(qk4 so df L).2):∃k,qe L k=A0 x/\so x=A7:=by
 have k:=(q621 so df L (q91 leS (L.map λy:ByteArray×LeD=>y.1)) (L,[]) ((qv1 leS _).nodup_iff.2 w) λ_ _=>rfl).1 x h;rcases k with k|k;.cases k
 .exact k
def qm41{so:LeD->Bool}{df:LeD->LeD}{L:LeL}(a:(L.map (·.1)).Nodup){k:ByteArray}{d:LeD}(h:qe L k=A0 d)(w:so d=A7):d∈(qk4 so df L).2:=
 (q621 so df L (q91 leS (L.map λy:ByteArray×LeD=>y.1)) (L,[]) ((qv1 leS _).nodup_iff.2 a) λ_ _=>rfl).2.2 k ((qv1 leS _).mem_iff.2 (An.2 ⟨_,qg3 h,rfl⟩)) d h w
section
variable{m:Int}{s s':Bk}{c:qy}{id x:Int}{r r':q31}{B:qi3}{ten name:ByteArray}{epoch now ttl conn:Int}
def Hv.same(x:Int)(e:s'.P=s.P)(a:s'.pumps=s.pumps)(c:s'.K.now=s.K.now)(w:s'.N=s.N)(b:s'.roles=s.roles):Hv x s s':=
 ⟨e,a,c,by rw[w],λj _=>.inl (by rw[b]),λj r _ _ _=>by rw[w],λj d h=>⟨d,by rw[<-w];exact h,rfl,rfl⟩⟩
def qz31{g:Int}{d:LeD}(h:qv4 g d now=2):d.held=A7/\now<d.til:=by
 unfold qv4 at h;cases hh:d.held with
 |true=>
  rw[hh,yB rfl]at h;split at h;.rename_i w;exact⟨rfl,w⟩
  .split at h<;>cases h
 |false=>rw[hh,yA (by simp)]at h;split at h<;>cases h
def q761(h:qa6 ttl=A7):0<ttl/\ttl<=1073741824:=by unfold qa6 at h;simp only[A4,yJ]at h;exact h
def qd51(h:q79 now=A7):0<=now/\now<=1099511627776:=by unfold q79 at h;simp only[A4,yJ]at h;exact h
def q961(a:q79 now=A7)(w:qa6 B.most=A7)(h:qa6 ttl=A7):now<Zw Zk (now+q2f B.most ttl):=by
 have:=qd51 a;have:=q761 w;have:=q761 h;have b:0<q2f B.most ttl/\q2f B.most ttl<=1073741824:=by unfold q2f;split<;>omega
 rw[w64];omega
def q141{R:List (Int×q31)}(a:q401 B now R){d:LeD}(c:d.name=name)(b:d.held=A7->now<d.til/\qli R d.conn)(e:Int):q401 { B with epoch:=e,L:=qk B.L name d} now R:=by
 refine⟨qr7 a.nB _ _,λk q h=>?_,λk q h w=>?_,a.most,a.clock⟩
 .change qe (qk B.L name d) k=A0 q at h;rw[qh2]at h;split at h;.rename_i e;subst e;cases h;exact c
  .exact a.name k q h
 .change qe (qk B.L name d) k=A0 q at h;rw[qh2]at h;split at h;.cases h;exact b w
  .exact a.held k q h w
def qb51{R:List (Int×q31)}(a:q401 B now R)(b:qli R conn):q401 (qk5 B ten name conn now ttl).1 now R:=by
 unfold qk5;split
 .rename_i w;have c:qa6 ttl=A7:=by
   unfold q38 at w;split at w;.exact yI w (by decide)
   split at w;.exact yI w (by decide)
   split at w;.exact yI w (by decide)
   split at w;.exact yI w (by decide)
   rename_i h;simpa using h
  exact q141 (d:=qy9 B ten name conn now ttl) a rfl (λ_=>⟨q961 a.clock a.most c,b⟩) _
 .exact a
def qf31(h:qi9 B ten name epoch now=0):∃d,qe B.L name=A0 d/\qv4 B.grace d now=2:=by
 unfold qi9 at h;split at h;.exact yI h (by decide)
 split at h;.exact yI h (by decide)
 .rename_i d a;refine⟨d,a,?_⟩;split at h;.exact yI h (by decide)
  .rename_i w;exact Decidable.not_not.1 w
def q751{R:List (Int×q31)}(h:q401 B now R):q401 (qpb B ten name epoch now ttl).1 now R:=by
 unfold qpb;split;.exact h
 rename_i e;split
 .rename_i c;obtain⟨d,w,a⟩:=qf31 c;rw[w];simp only;obtain⟨b,f⟩:=qz31 a;exact q141 (d:={ d with til:=Zw Zk (now+q2f B.most ttl)}) h (h.name name d w) (λ_=>⟨q961 h.clock h.most (by simpa using e),(h.held name d w b).2⟩) B.epoch
 .exact h
def qp41{R:List (Int×q31)}(w:q401 B now R):q401 (qmb B ten name epoch now).1 now R:=by
 unfold qmb;split
 .rename_i b;obtain⟨d,a,c⟩:=qf31 b;rw[a];exact q141 (d:=q78 d (Zw Zk (now+B.grace))) w (w.name name d a) (λh=>by cases h) B.epoch
 .exact w
def qq41(h:¬(qmb B ten name epoch now).2≠0):(q06 B name now).2=A7:=by
 have w:qi9 B ten name epoch now=0:=by
  have h:=Decidable.not_not.1 h;unfold qmb at h;split at h;.rename_i w;exact w
  .exact h
 obtain⟨d,b,a⟩:=qf31 w;unfold q06;rw[b];simp only;rw[yB a]
def qm21(h:s.Str m)(a:s.Book)(w:LeD)(e:Int):(s.granted id w e).Str m/\(s.granted id w e).Book/\Hv id s (s.granted id w e):=
 ⟨Str.tell h id _,Book.keep a rfl rfl λj b=>b,qf21 s id _⟩
def qj61(h:s.Str m)(k:s.Book)(g:qli s.roles id)(r:q31)(w:qk1):(s.claim id r w).Str m/\(s.claim id r w).Book/\Hv id s (s.claim id r w):=by
 have key:∀s:Bk,s.Str m->s.Book->qli s.roles id->(s.claim1 id r w).Str m/\(s.claim1 id r w).Book/\Hv id s (s.claim1 id r w):=by
  intro s h k g;unfold Bk.claim1;have f:=qb51 (ten:=r.ten) (name:=w.A) (ttl:=w.N) k g;generalize qk5 s.B r.ten w.A id s.K.now w.N=y at f;obtain⟨B,l,e⟩:=y;simp only at f⊢;split
  .obtain⟨a,d,c⟩:=qm21 (s:=Bk.give { s with B:=B} r.ten 1) (id:=id) h f l e;exact⟨a,d,(Hv.same (s:=s) (s':=Bk.give { s with B:=B} r.ten 1) id rfl rfl rfl rfl rfl).trans c⟩
  .obtain⟨a,d,c⟩:=qm21 (s:={ s with B:=B}) (id:=id) h f l e;exact⟨a,d,(Hv.same (s:=s) (s':={ s with B:=B}) id rfl rfl rfl rfl rfl).trans c⟩
 have n:Hv id s { s with O:=(qq5 s.O r.ten 1).1}:=Hv.same id rfl rfl rfl rfl rfl;have b:Bk.Book { s with O:=(qq5 s.O r.ten 1).1}:=Book.keep k rfl rfl λj i=>i;unfold Bk.claim;split;.exact⟨Str.tell (s:={ s with O:=(qq5 s.O r.ten 1).1}) h id _,Book.keep b rfl rfl λj i=>i,n.trans (qf21 _ id _)⟩
 .obtain⟨a,d,c⟩:=key { s with O:=(qq5 s.O r.ten 1).1} h b g;exact⟨a,d,n.trans c⟩
def qk61(h:s.Str m)(g:s.Book)(r:q31)(w:qk1):(s.renew id r w).Str m/\(s.renew id r w).Book/\Hv id s (s.renew id r w):=by unfold Bk.renew;have a:=q751 (ten:=r.ten) (name:=w.A) (epoch:=w.N) (ttl:=w.M) g;generalize qpb s.B r.ten w.A w.N s.K.now w.M=y at a;obtain⟨B,d,e⟩:=y;simp only at a⊢;obtain⟨b,f,c⟩:=qm21 (s:={ s with B:=B}) (id:=id) h a d e;exact⟨b,f,(Hv.same (s:=s) (s':={ s with B:=B}) id rfl rfl rfl rfl rfl).trans c⟩
def qp21{R:List (Int×q31)}{j:Int}(h:qli R j):∀q,qe R j=A0 q->q.kind≠4:=λq a=>by obtain⟨b,w,c⟩:=h;rw[a]at w;cases w;omega
def qt51(h:s.Str m)(f:s.Book)(r:q31)(w:qk1):(s.release id r w).Str m/\(s.release id r w).Book/\Hv id s (s.release id r w):=by
 unfold Bk.release;have b:=qp41 (ten:=r.ten) (name:=w.A) (epoch:=w.N) f;have a:=qq41 (B:=s.B) (ten:=r.ten) (name:=w.A) (epoch:=w.N) (now:=s.K.now);have c:=qs41 f (name:=w.A);generalize (q06 s.B w.A s.K.now)=hd at a c;generalize qmb s.B r.ten w.A w.N s.K.now=y at b a;obtain⟨B,e⟩:=y;simp only at b a⊢;have g:Hv id s { s with B:=B}:=Hv.same id rfl rfl rfl rfl rfl;split;.exact⟨Str.tell (s:={ s with B:=B}) h id _,Book.keep (s:={ s with B:=B}) b rfl rfl λj l=>l,g.trans (qf21 _ id _)⟩
 .rename_i n;have i:=c (a n);obtain⟨k,d,_⟩:=qq21 (s:={ s with B:=B}) h hd.1 (qp21 i);exact⟨k,Book.vis (s:={ s with B:=B}) b d,g.trans (d.hv id)⟩
def qz41(T:TkB)(text ten:ByteArray):((qw7 T text ten).2.2≠0/\(qw7 T text ten).1=T)\/∃i t,T.good[i]?=A0 t/\qw7 T text ten=({ T with good:=T.good.eraseIdx i},t.p,0):=by
 unfold qw7;split;.exact .inl ⟨show(151:Int)≠0 by decide,rfl⟩
 .rename_i t h;split;.exact .inl ⟨show(151:Int)≠0 by decide,rfl⟩
  .split;.exact .inl ⟨show(131:Int)≠0 by decide,rfl⟩
   .exact .inr ⟨_,t,h,rfl⟩
def q641(P:qd6)(v c:Int):(q4g P v c).1=P\/(q4g P v c).1.ends=qk (qk P.ends v (c,A7)) c (v,A1):=by
 unfold q4g;split;.exact .inl rfl
 .split;.exact .inl rfl
  .exact .inr rfl
def q261{l:List TkD}(b:(l.map (·.p.vis)).Nodup){i:Nat}{t:TkD}(a:l[i]?=A0 t):∀u∈l.eraseIdx i,u.p.vis≠t.p.vis:=λu w e=>by have h:=(qxc a).map (·.p.vis);rw[A8]at h;have:=Ap.1 (h.nodup_iff.1 b);exact this.1 (by rw[<-e];exact An.2 ⟨u,w,rfl⟩)
end
end
section
structure Hw(x:Int)(s s':Bk):Prop where
 P:s'.P=s.P
 pumps:s'.pumps=s.pumps
 now:s'.K.now=s.K.now
 last:s'.N.last=s.N.last
 R:∀j,j≠x->qe s'.roles j=qe s.roles j\/qe s'.roles j=Am/\qcc s.roles j
 N:∀j r,j≠x->qe s.roles j=A0 r->r.kind=4->qe s'.N.L j=qe s.N.L j
 E:∀j d',qe s'.N.L j=A0 d'->∃d,qe s.N.L j=A0 d/\d'.ended=d.ended
def Hv.hw{x:Int}{s s':Bk}(h:Hv x s s'):Hw x s s':=⟨h.P,h.pumps,h.now,h.last,h.R,h.N,λj d a=>by obtain⟨d0,b,w,_⟩:=h.E j d a;exact⟨d0,b,w⟩⟩
def Hw.trans{x:Int}{s t u:Bk}(h:Hw x s t)(k:Hw x t u):Hw x s u where
 P:=k.P.trans h.P
 pumps:=k.pumps.trans h.pumps
 now:=k.now.trans h.now
 last:=k.last.trans h.last
 R:=λj w=>by
  rcases k.R j w with b|⟨b,r,c,e⟩;.rw[b];exact h.R j w
  .rcases h.R j w with a|⟨a,f⟩;.exact .inr ⟨b,r,by rw[<-a];exact c,e⟩
   .exact .inr ⟨b,f⟩
 N:=λj r w c e=>by
  refine(k.N j r w ?_ e).trans (h.N j r w c e);rcases h.R j w with a|⟨_,q,f,g⟩;.rw[a];exact c
  .rw[c]at f;cases f;omega
 E:=λj d m=>by obtain⟨i,b,a⟩:=k.E j d m;obtain⟨d0,g,l⟩:=h.E j i b;exact⟨d0,g,a.trans l⟩
section
variable{m:Int}{s s' t:Bk}{c:qy}{id x v:Int}{r r':q31}
def Hw.talk(h:Hw x s s')(g:Talk x s):Talk x s':=λj q d a w c f=>by
 obtain⟨d0,i,b⟩:=h.E j d f;rw[b];rcases h.R j a with e|⟨e,_⟩;.rw[e]at w;exact g j q d0 a w c i
 .rw[e]at w;cases w
def New.talk(h:New x v s s')(f:Talk x s):Talk x s':=λj q d c w a b=>by
 rw[h.N]at b;by_cases e:j=v
 .obtain⟨p,g⟩:=h.rv;rw[e,g]at w;cases w;have a:(4:Int)=1\/(4:Int)=2:=a;omega
 .rw[h.R j c e]at w;exact f j q d c w a b
def q461(h:s.Str m)(J:s.Book)(K:qe s.roles id=A0 r)(hk:r.kind=2)(Q:∀k d,qe s.B.L k=A0 d->d.held=A7->s.K.now<d.til->d.conn≠id){i:Nat}{t:TkD}(Z:s.T.good[i]?=A0 t):
 t.p.vis≠id/\(Bk.paired c { s with T:={ s.T with good:=s.T.good.eraseIdx i} } id t.p).Str m/\(Bk.paired c { s with T:={ s.T with good:=s.T.good.eraseIdx i} } id t.p).Book/\New id t.p.vis s (Bk.paired c { s with T:={ s.T with good:=s.T.good.eraseIdx i} } id t.p):=by
 have G:=h.tick t (List.mem_of_getElem? Z);obtain⟨q,E,O⟩:=G;have p:t.p.vis≠id:=λe=>by rw[e,K]at E;cases E;omega
 obtain⟨rv,x⟩:∃rv,rv=qq7 t.p.vis t.p s.pumps.length 0:=⟨_,rfl⟩;obtain⟨rx,v⟩:∃rx,rx=qq7 id t.p s.pumps.length 1:=⟨_,rfl⟩;have get:∀j,qe (qk (qk s.roles t.p.vis rv) id rx) j=if id=j then A0 rx else if t.p.vis=j then A0 rv else qe s.roles j:=λj=>by rw[qh2,qh2]
 have old:∀j,j≠id->j≠t.p.vis->qe (qk (qk s.roles t.p.vis rv) id rx) j=qe s.roles j:=λj f a=>by rw[get,yA (λe=>f e.symm),yA (λe=>a e.symm)]
 have n:∀j,qcc s.roles j->j≠t.p.vis->qcc (qk (qk s.roles t.p.vis rv) id rx) j:=λj w U=>w.of (old j (λe=>by obtain⟨P,f,a⟩:=w;rw[e,K]at f;cases f;omega) U)
 have pv:qe s.P.ends t.p.vis=Am:=qa21 h E (by omega);have px:qe s.P.ends id=Am:=qa21 h K (by omega);have l:∀j o b,qe s.P.ends j=A0 (o,b)->o≠j/\(j≠id/\j≠t.p.vis)/\(o≠id/\o≠t.p.vis)/\qe s.P.ends o=A0 (j,!b)/\∃r i,qe s.roles j=A0 r/\r.kind=4/\r.pump=A0 i/\i<(s.pumps++[Ri.PS.new]).length:=λj o b w=>by
  obtain⟨f,a,F,i2,A,D,I,N⟩:=h.pair j o b w;refine⟨f,⟨λe=>?_,λe=>?_⟩,⟨λe=>?_,λe=>?_⟩,a,F,i2,A,D,I,by rw[Ab];omega⟩;.rw[e,px]at w;cases w
  .rw[e,pv]at w;cases w
  .rw[e,px]at a;cases a
  .rw[e,pv]at a;cases a
 have hS:qr5 m s.N (qk (qk s.roles t.p.vis rv) id rx) (q4g s.P t.p.vis id).1 (s.pumps++[Ri.PS.new]) (Qu.gDrop s.Q t.p.vis) { s.T with good:=s.T.good.eraseIdx i} s.S:=by
  refine { nN:=h.nN,nR:=qr7 (qr7 h.nR _ _) _ _,nS:=h.nS,nT:=h.nT.sublist ((Ai _ _).map _),nP:=?_,pair:=?_,same:=λj=>?_,role:=λj P g=>?_,que:=λy M=>?_,tick:=λu hu=>?_,last0:=h.last0,last1:=h.last1,key:=h.key,sk:=h.sk,cred:=h.cred,mov:=λz C=>?_}
  .rcases q641 s.P t.p.vis id with e|e;.rw[e];exact h.nP
   .rw[e];exact qr7 (qr7 h.nP _ _) _ _
  .rw[get];split;.rename_i e;subst e;rw[<-h.same,K];rfl
   .split;.rename_i e;subst e;rw[<-h.same,E];rfl
    .exact h.same j
  .rw[get]at g;split at g;.rename_i e;subst e;cases g;rw[v];exact⟨rfl,.inr (.inr (.inr rfl))⟩
   .split at g;.rename_i e;subst e;cases g;rw[x];exact⟨rfl,.inr (.inr (.inr rfl))⟩
    .exact h.role j P g
  .intro j o b w;rcases q641 s.P t.p.vis id with e|e
   .rw[e]at w⊢;obtain⟨f,a,A,D,F,i2,I,N,R,W⟩:=l j o b w;exact⟨f,D,F,i2,by rw[old j a.1 a.2];exact I,N,R,W⟩
   .rw[e]at w⊢;have L:∀j,qe (qk (qk s.P.ends t.p.vis (id,A7)) id (t.p.vis,A1)) j=if id=j then A0 (t.p.vis,A1)else if t.p.vis=j then A0 (id,A7)else qe s.P.ends j:=λj=>by rw[qh2,qh2]
    have B:s.pumps.length<(s.pumps++[Ri.PS.new]).length:=by rw[Ab];exact Nat.lt_succ_self _
    rw[L]at w;by_cases H:id=j
    .rw[yB H]at w;cases w;subst H;refine⟨p,by rw[L,yA (λe=>p e.symm),yB rfl];rfl,rx,s.pumps.length,by rw[get,yB rfl],by rw[v];rfl,by rw[v];rfl,B⟩
    .rw[yA H]at w;by_cases V:t.p.vis=j
     .rw[yB V]at w;cases w;subst V;refine⟨H,by rw[L,yB rfl];rfl,rv,s.pumps.length,by rw[get,yA H,yB rfl],by rw[x];rfl,by rw[x];rfl,B⟩
     .rw[yA V]at w;obtain⟨f,a,A,D,F,i2,I,N,R,W⟩:=l j o b w;refine⟨f,by rw[L,yA (λe=>A.1 e.symm),yA (λe=>A.2 e.symm)];exact D,F,i2,by rw[old j a.1 a.2];exact I,N,R,W⟩
  .have M:=List.mem_filter.1 M;exact n _ (h.que y M.1) (by simpa using M.2)
  .exact n _ (h.tick u ((Ai _ _).subset hu)) (q261 h.nT Z u hu)
  .rcases Af.1 C with C|C;.exact h.mov z C
   .simp at C;subst C;exact⟨rfl,rfl⟩
 subst x v;refine⟨p,hS,?_,⟨rfl,rfl,qg11 _ _ _,rfl,λj f a=>old j f a,⟨t.p,?_⟩,⟨t.p,?_⟩,p,q,E,O⟩⟩
 .refine⟨J.nB,J.name,λk d Y X=>?_,J.most,?_⟩
  .obtain⟨f,a⟩:=J.held k d Y X;have hn:=Q k d Y X f;have e:(Bk.paired c { s with T:={ s.T with good:=s.T.good.eraseIdx i} } id t.p).K.now=s.K.now:=qg11 _ _ _;rw[e];refine⟨f,a.of (old _ hn λe=>?_)⟩;obtain⟨P,A,D⟩:=a;rw[e,E]at A;cases A;omega
  .have e:(Bk.paired c { s with T:={ s.T with good:=s.T.good.eraseIdx i} } id t.p).K.now=s.K.now:=qg11 _ _ _;rw[e];exact J.clock
 .exact(get _).trans (by rw[yA (λe=>p e.symm),yB rfl])
 .exact(get _).trans (by rw[yB rfl])
def q951(h:s.Str m)(j:s.Book)(n:qe s.roles id=A0 r)(l:r.kind=2)(w:qk1):∃s',s.callback c id r w=A0 s'/\s'.Str m/\s'.Book/\qu61 id s s':=by
 unfold Bk.callback;split
 .obtain⟨a,g,f,_⟩:=qy11 h j n (.inr l) 1;exact⟨_,rfl,a,g,.inl f⟩
 .rename_i A;have o:∀k d,qe s.B.L k=A0 d->d.held=A7->s.K.now<d.til->d.conn≠id:=λk d z v q e=>by apply A;rw[List.any_eq_true];refine⟨d,qm41 j.nB z rfl,?_⟩;unfold Bk.holds;rw[e,v,yG q];simp
  rcases qz41 s.T w.B r.ten with ⟨u,b⟩|⟨i,t,q,b⟩
  .generalize qw7 s.T w.B r.ten=y at u b;obtain⟨T,p,e⟩:=y;simp only at u b⊢;rw[yB u];subst b;obtain⟨a,g,f,_⟩:=qy11 h j n (.inr l) e;exact⟨_,rfl,a,g,.inl f⟩
  .rw[b];simp only;rw[yA (by simp)];obtain⟨a,g,f,x⟩:=q461 (c:=c) h j n l o q;rw[yA a];exact⟨_,rfl,g,f,.inr ⟨_,x⟩⟩
def q671(h:s.Str m)(B:s.Book)(A:qe s.roles id=A0 r)(E:r.kind=1\/r.kind=2)(d:qk1)(draw:ByteArray):∃s',s.hear c id r d draw=A0 s'/\s'.Str m/\s'.Book/\qu61 id s s':=by
 obtain⟨u,i⟩:∃u,u=s.alarm c.idle [id]:=⟨_,rfl⟩;have x:u.P=s.P:=by rw[i];rfl
 have o:u.pumps=s.pumps:=by rw[i];rfl
 have q:u.K.now=s.K.now:=by rw[i];exact qg11 _ _ _
 have y:u.N=s.N:=by rw[i];rfl
 have n:u.roles=s.roles:=by rw[i];rfl
 have C:u.B=s.B:=by rw[i];rfl
 have b:u.Str m:=by rw[i];exact h
 have a:u.Book:=Book.keep B C q λj D=>by rw[n];exact D
 have l:Hv id s u:=Hv.same id x o q y n;have g:qe u.roles id=A0 r:=by rw[n];exact A
 unfold Bk.hear;simp only;rw[<-i];split
 .rename_i p;obtain⟨s',t,e,f,w⟩:=qn61 (c:=c) b a g p d draw;exact⟨s',t,e,f,.inl (l.trans w)⟩
 rename_i p;have k:r.kind=2:=by omega
 split
 .obtain⟨e,f,w⟩:=qj61 b a ⟨r,g,k⟩ r d;exact⟨_,rfl,e,f,.inl (l.trans w)⟩
 split
 .obtain⟨e,f,w⟩:=qk61 (id:=id) b a r d;exact⟨_,rfl,e,f,.inl (l.trans w)⟩
 split
 .obtain⟨e,f,w⟩:=qt51 (id:=id) b a r d;exact⟨_,rfl,e,f,.inl (l.trans w)⟩
 split;.exact⟨_,rfl,b,a,.inl l⟩
 split
 .obtain⟨s',t,e,f,w⟩:=q951 (c:=c) b a g k d;refine⟨s',t,e,f,?_⟩;rcases w with w|⟨v,w⟩;.exact .inl (l.trans w)
  .exact .inr ⟨v,by rw[w.P,x],by rw[w.pumps,o],by rw[w.now,q],by rw[w.N,y],λj p z=>by rw[w.R j p z,n],by rw[<-o];exact w.rv,by rw[<-o];exact w.rx,w.ne,by rw[<-n];exact w.vis⟩
 .obtain⟨e,f,w,_⟩:=qy11 b a g (.inr k) 1;exact⟨_,rfl,e,f,.inl (l.trans w)⟩
def qn51(x:Int)(s s':Bk):Prop:=Hw x s s'\/∃v t,Hw x s t/\New x v t s'
def ql11(s:Bk):Prop:=∀j r d,qe s.roles j=A0 r->(r.kind=1\/r.kind=2)->qe s.N.L j=A0 d->d.ended=A1
def ql61(T:Cn.CT)(id:Int):(Cn.nextT T id).1=T.upd id λd=>{ d with inb:=d.inb.drop (Fr.firstP d.inb).2.1}:=by unfold Cn.nextT Cn.CT.upd;cases qe T.L id<;>rfl
def first_err{l:List UInt8}(h:(Fr.firstP l).2.2≠0):(Fr.firstP l).1=[]:=by
 unfold Fr.firstP at h⊢;split;.rfl
 .rename_i a r;simp only at h;split;.rfl
  .rename_i d;rw[yA d]at h;split;.rfl
   .rename_i b q;simp only at h;split;.rfl
    .rename_i c;rw[yA c]at h;split;.rfl
     .rename_i w;rw[yA w]at h;exact yI rfl h
def first_le(l:List UInt8):(Fr.firstP l).2.1<=l.length:=by
 unfold Fr.firstP;split;.exact Ah _
 .split;.exact Aj _
  .split;.exact Aj _
   .split;.exact Aj _
    .split;.exact Aj _
     .simp only[List.length_cons];omega
def Hw.refl(x:Int)(s:Bk):Hw x s s:=(Hv.refl x s).hw
def q071(draw:ByteArray):∀(k:Nat) (s:Bk),(∀d,qe s.N.L id=A0 d->d.inb.length<k)->s.Str m->s.Book->Talk id s->
 ∃n s',(∀w,n<=w->Bk.read c w s id draw=A0 s')/\s'.Str m/\s'.Book/\ql11 s'/\qn51 id s s':=by
 have stop:∀s:Bk,s.Str m->s.Book->Talk id s->s.talks id=Am->∃n s',(∀w,n<=w->Bk.read c w s id draw=A0 s')/\s'.Str m/\s'.Book/\ql11 s'/\qn51 id s s':=by
  intro s h R Q E;refine⟨1,s,λw B=>?_,h,R,λj r d P y g=>?_,.inl (Hw.refl id s)⟩
  .obtain⟨w,rfl⟩:∃x,w=x+1:=⟨w - 1,by omega⟩;unfold Bk.read;rw[E]
  .by_cases e:j=id
   .subst e;unfold Bk.talks at E;rw[P]at E;simp only at E;rw[yB y]at E;cases E
   .exact Q j r d e P y g
 intro k;induction k with
 |zero=>
  intro s Z h R Q;refine stop s h R Q ?_;have hN:qe s.N.L id=Am:=by
   cases g:qe s.N.L id with
   |none=>rfl
   |some d=>exact yI (Z d g) (by omega)
  have hR:qe s.roles id=Am:=by have:=h.same id;rw[hN]at this;simpa using this
  unfold Bk.talks;rw[hR]
 |succ k ih=>
  intro s Z h R Q;cases a:s.talks id with
  |none=>exact stop s h R Q a
  |some r=>
  obtain⟨P,y⟩:qe s.roles id=A0 r/\(r.kind=1\/r.kind=2):=by
   unfold Bk.talks at a;cases z:qe s.roles id with
   |none=>rw[z]at a;cases a
   |some r2=>
    rw[z]at a;simp only at a;split at a;.cases a;rename_i O;exact⟨rfl,O⟩
    .cases a
  have hc:=(h.role id r P).conn;obtain⟨d0,M⟩:∃d,qe s.N.L id=A0 d:=Aa.1 (by rw[<-h.same,P];rfl);have hlen:=Z d0 M;have hu:=ql61 s.N id;have i:(Cn.nextT s.N id).2.2.1=decide (0<(Fr.firstP d0.inb).2.1)/\(Cn.nextT s.N id).2.2.2=(Fr.firstP d0.inb).2.2/\(Cn.nextT s.N id).2.1=(Fr.firstP d0.inb).1:=by unfold Cn.nextT;rw[M];exact⟨rfl,rfl,rfl⟩
  obtain⟨f,b⟩:∃f:Bk,f={ s with N:=(Cn.nextT s.N id).1}:=⟨_,rfl⟩;have A:f.N=s.N.upd id λd=>{ d with inb:=d.inb.drop (Fr.firstP d.inb).2.1}:=by rw[b];exact hu
  have J:f.roles=s.roles:=by rw[b]
  have z:f.Str m:=by rw[b];unfold Bk.Str;rw[hu];exact qr5.upd h id λd g=>g
  have F:f.Book:=Book.keep R (by rw[b]) (by rw[b]) λj hj=>by rw[J];exact hj
  have o:Hw id s f:=⟨by rw[b],by rw[b],by rw[b],by rw[A];exact qoe _ _ _,λj _=>.inl (by rw[J]),λj q hj _ _=>by rw[A,ql3,yA (λe=>hj e.symm)],λj d g=>by
   rw[A,ql3]at g;split at g
   .obtain⟨d2,O,rfl⟩:=A3.1 g;exact⟨d2,O,rfl⟩
   .exact⟨d,g,rfl⟩⟩
  have C:=Hw.talk o Q;have L:qe f.roles id=A0 r:=by rw[J];exact P
  have hd1:qe f.N.L id=A0 { d0 with inb:=d0.inb.drop (Fr.firstP d0.inb).2.1}:=by rw[A,ql3,yB rfl,M];rfl
  have Y:∀n,Bk.read c (n+1) s id draw=if(Fr.firstP d0.inb).2.2=0/\decide (0<(Fr.firstP d0.inb).2.1)=A1 then(if f.ask id A1 (λd=>d.ended)=A7 then A0 (f.shut id)else A0 f)else
   (if(qxg (Fr.firstP d0.inb).1).2=A1 then A0 (f.refuse id 61)else match f.hear c id r (qxg (Fr.firstP d0.inb).1).1 draw with
    |none=>Am
    |some s=>Bk.read c n s id draw):=λn=>by
   rw[Bk.read,a];simp only;rw[yA (by rw[hc];simp),<-i.1,<-i.2.1,<-i.2.2,b];rfl
  have gone:∀l:Bk,l.Str m->l.Book->Hw id f l->qe l.roles id=Am->(∀n,Bk.read c (n+1) s id draw=A0 l)->∃n s',(∀w,n<=w->Bk.read c w s id draw=A0 s')/\s'.Str m/\s'.Book/\ql11 s'/\qn51 id s s':=by
   intro l H I G D g5;refine⟨1,l,λw B=>?_,H,I,λj q d V y g=>?_,.inl (o.trans G)⟩
   .obtain⟨w,rfl⟩:∃x,w=x+1:=⟨w - 1,by omega⟩;exact g5 w
   .by_cases e:j=id;.rw[e,D]at V;cases V
    .exact Hw.talk G C j q d e V y g
  by_cases c1:(Fr.firstP d0.inb).2.2=0/\decide (0<(Fr.firstP d0.inb).2.1)=A1
  .cases hen:f.ask id A1 (λd=>d.ended)with
   |true=>exact gone _ (qk11 z id).1 (q021 z F id) (qe41 z L y).hw (qk11 z id).2.2 λn=>by rw[Y,yB c1,yB hen]
   |false=>
    refine⟨1,f,λw B=>?_,z,F,λj q d V y g=>?_,.inl o⟩
    .obtain⟨w,rfl⟩:∃x,w=x+1:=⟨w - 1,by omega⟩;rw[Y,yB c1,yA (by rw[hen];simp)]
    .by_cases e:j=id
     .subst e;have:f.N.ask j A1 (λd=>d.ended)=A1:=hen;rw[q54 g]at this;exact this
     .exact C j q d e V y g
  by_cases W:(qxg (Fr.firstP d0.inb).1).2=A1
  .obtain⟨H,I,G,D⟩:=qy11 z F L y 61;exact gone _ H I G.hw D λn=>by rw[Y,yA c1,yB W]
  have he:(Fr.firstP d0.inb).2.2=0:=by apply Decidable.byContradiction;intro K;rw[first_err K]at W;exact W rfl
  have hpos:0<(Fr.firstP d0.inb).2.1:=by apply Decidable.byContradiction;intro K;exact c1 ⟨he,yH K⟩
  have hle:=first_le d0.inb;obtain⟨l,e2,O,U,u⟩:=q671 (c:=c) z F L y (qxg (Fr.firstP d0.inb).1).1 draw;have T:∀n,Bk.read c (n+1) s id draw=Bk.read c n l id draw:=λn=>by rw[Y,yA c1,yA W,e2]
  rcases u with u|⟨v,u⟩
  .obtain⟨n,s',X,H,I,G,D⟩:=ih l (λd g=>by obtain⟨d2,h3,_,h4⟩:=u.E id d g;rw[hd1]at h3;cases h3;rw[h4];simp only[Ac];omega) O U (Hv.talk u C)
   refine⟨n+1,s',λw B=>?_,H,I,G,?_⟩
   .obtain⟨w,rfl⟩:∃x,w=x+1:=⟨w - 1,by omega⟩;rw[T];exact X w (by omega)
   .rcases D with D|⟨v,t,D,g5⟩;.exact .inl ((o.trans u.hw).trans D)
    .exact .inr ⟨v,t,(o.trans u.hw).trans D,g5⟩
  .obtain⟨p,hp⟩:=u.rx;have E:l.talks id=Am:=by unfold Bk.talks;rw[hp];rfl
   obtain⟨n,s',X,H,I,G,_⟩:=stop l O U (New.talk u C) E;have hs':s'=l:=by have:=X (n+1) (by omega);rw[Bk.read,E]at this;exact(Ao this).symm
   subst hs';refine⟨n+1,s',λw B=>?_,H,I,G,.inr ⟨v,f,o,u⟩⟩;obtain⟨w,rfl⟩:∃x,w=x+1:=⟨w - 1,by omega⟩;rw[T];exact X w (by omega)
end
end
section
structure Inv(m:Int)(s:Bk):Prop where
 str:s.Str m
 book:s.Book
 talk:ql11 s
 quiet:qj11 s
section
variable{m:Int}{s s' t:Bk}{c:qy}{id x v:Int}{r r':q31}{e:EvD}
def Less.talk0(h:Less s s')(c:ql11 s):ql11 s':=λj r d w b f=>by
 obtain⟨d0,g,a,_⟩:=h.E j d f;rcases h.R j with e|e
 .rw[e]at w;rw[a];exact c j r d0 w b g
 .rw[e]at w;cases w
def Rn.talk0(h:Rn s s')(c:ql11 s):ql11 s':=λj r d a g e=>by obtain⟨d0,f,w⟩:=h.E j d e;obtain⟨q,b,i⟩:=h.K j r a;rw[w];exact c j q d0 b (by omega) f
def qj11.same(h:qj11 s)(e:s'.P=s.P)(g:s'.pumps=s.pumps)(w:s'.N=s.N)(b:s'.roles=s.roles):qj11 s':=by
 have d:∀{f t i z},RQ s f t i z->RQ s' f t i z:=λk=>⟨k.pump,by rw[g];exact k.at_,k.ok,by rw[w];exact k.inn,by rw[w];exact k.zz,by rw[w];exact k.out,by rw[w];exact k.en⟩;have o:∀{r},FQ s r->FQ s' r:=λk=>⟨by rw[w];exact k.went,by rw[w];exact k.en⟩;have n:s'.ids=s.ids:=by unfold Bk.ids;rw[w]
 refine⟨?_,?_,?_⟩
 .rw[e,b];intro p u;obtain⟨rv,l,c,a,⟨i,z,m⟩,j,y,q⟩:=h.rel p u;exact⟨rv,l,c,a,⟨i,z,d m⟩,j,y,d q⟩
 .rw[n,b];intro id hid;obtain⟨r,c,a⟩:=h.flu id hid;exact⟨r,c,o a⟩
 .rw[e,b];exact h.end_
def qr5.more{N:Cn.CT}{R:List (Int×q31)}{P:qd6}{w:List Ri.PS}{Q:Qu.QG}{T:TkB}{S:List (Int×q81)}(h:qr5 m N R P w Q T S):qr5 (m+1) N R P w Q T S:={ h with last1:=by have:=h.last1;omega}
def Str.clear(h:s.Str m):Bk.Str m { s with S:=[]}:={ h with nS:=List.nodup_nil,sk:=λid h=>by cases h}
def qy61(h:s.Str m)(B:s.Book)(q:ql11 s)(H:m+1<=1000000)(addr:Int):(Cn.openT s.N addr).2.2≠0/\(Cn.openT s.N addr).1=s.N\/(Cn.openT s.N addr).2.2=0/\
 Bk.Str (m+1) ((({ s with N:=(Cn.openT s.N addr).1} :Bk).put (Cn.openT s.N addr).2.1 (q9l (Cn.openT s.N addr).2.1)).alarm c.wait [(Cn.openT s.N addr).2.1])/\
 Bk.Book ((({ s with N:=(Cn.openT s.N addr).1} :Bk).put (Cn.openT s.N addr).2.1 (q9l (Cn.openT s.N addr).2.1)).alarm c.wait [(Cn.openT s.N addr).2.1])/\
 ql11 ((({ s with N:=(Cn.openT s.N addr).1} :Bk).put (Cn.openT s.N addr).2.1 (q9l (Cn.openT s.N addr).2.1)).alarm c.wait [(Cn.openT s.N addr).2.1]):=by
 have v:=h.last0;have x:=h.last1;have z:Zw Zk (s.N.last+1)=s.N.last+1:=w64;unfold Cn.openT;split;.exact .inl ⟨show(2:Int)≠0 by decide,rfl⟩
 rw[z];refine .inr ⟨rfl,?_⟩;generalize G:s.N.last+1=n;have C:qe s.N.L n=Am:=by
  cases f:qe s.N.L n with
  |none=>rfl
  |some d=>have:=h.key n (by rw[f];rfl);omega
 have u:qe s.roles n=Am:=by have:=h.same n;rw[C]at this;simpa using this
 have p:∀j,qe (qk s.N.L n ⟨addr,[],[],0,A1⟩) j=if n=j then A0 ⟨addr,[],[],0,A1⟩else qe s.N.L j:=λj=>qh2 _ _ _ _
 have l:∀j,qe (qk s.roles n (q9l n)) j=if n=j then A0 (q9l n)else qe s.roles j:=λj=>qh2 _ _ _ _
 have k:∀j r,qe s.roles j=A0 r->n≠j:=λj r w e=>by rw[<-e,u]at w;cases w
 have g:∀j,qcc s.roles j->qcc (qk s.roles n (q9l n)) j:=λj a=>a.of (by obtain⟨r,w,_⟩:=a;rw[l,yA (k j r w)])
 refine⟨?_,?_,?_⟩
 .exact { nN:=qr7 h.nN _ _,nR:=qr7 h.nR _ _,nP:=h.nP,nS:=h.nS,nT:=h.nT
          same:=λj=>by
           show(qe (qk s.roles n (q9l n)) j).isSome=(qe (qk s.N.L n ⟨addr,[],[],0,A1⟩) j).isSome;rw[p,l];split;.rfl
           .exact h.same j
          role:=λj r w=>by
           change qe (qk s.roles n (q9l n)) j=A0 r at w;rw[l]at w;split at w;.rename_i e;subst e;cases w;exact⟨rfl,.inl ⟨rfl,rfl⟩⟩
           .exact h.role j r w
          pair:=λj o b a=>by obtain⟨F,h2,r,i,h3,D⟩:=h.pair j o b a;exact⟨F,h2,r,i,by show qe (qk s.roles n (q9l n)) j=_;rw[l,yA (k j r h3)];exact h3,D⟩
          que:=λy E=>g _ (h.que y E),tick:=λt q=>g _ (h.tick t q)
          last0:=by show 0<=n;omega
          last1:=by show n<=m+1;omega
          key:=λj a=>by
           have a:(qe (qk s.N.L n ⟨addr,[],[],0,A1⟩) j).isSome=A7:=a;show 1<=j/\j<=n;rw[p]at a;split at a;.omega
           .have:=h.key j a;omega
          sk:=λj a=>by have:=h.sk j a;show 1<=j/\j<=n;omega
          cred:=λj d f=>by
           change qe (qk s.N.L n ⟨addr,[],[],0,A1⟩) j=A0 d at f;rw[p]at f;split at f;.cases f;exact⟨Int.le_refl 0,show(0:Int)<=1073741824 by decide⟩
           .exact h.cred j d f
          mov:=h.mov}
 .exact Book.keep B rfl (qg11 _ _ _) λj a=>a.of (by obtain⟨r,w,_⟩:=a;show qe (qk s.roles n (q9l n)) j=_;rw[l,yA (k j r w)])
 .intro j r d w A f;have w:qe (qk s.roles n (q9l n)) j=A0 r:=w;have f:qe (qk s.N.L n ⟨addr,[],[],0,A1⟩) j=A0 d:=f;rw[l]at w;rw[p]at f;split at f;.cases f;rfl
  .rename_i e;rw[yA e]at w;exact q j r d w A f
def qg41:∀(l:List LeD) (s:Bk),s.Str m->(∀x∈l,qli s.roles x.conn)->(l.foldl Bk.gone s).Str m/\Vis s (l.foldl Bk.gone s)
 |[],s,h,_=>⟨h,Vis.refl s⟩
 |a::r,s,h,w=>by
  rw[Ae];obtain⟨c,b,_⟩:=qq21 h a (qp21 (w a Ag));obtain⟨e,f⟩:=qg41 r _ c λx g=>by obtain⟨q,i,d⟩:=w x (A5 _ g);exact⟨q,b.stays i (by omega),d⟩
  exact⟨e,b.trans f⟩
def qi31{f:Bk->Int->Bk}(b:∀s i,f s i=s\/f s i=s.shut i):∀(l:List Int) (s:Bk),s.Str m->s.Book->(l.foldl f s).Str m/\(l.foldl f s).Book/\Less s (l.foldl f s)
 |[],s,h,w=>⟨h,w,Less.refl s⟩
 |a::r,s,h,w=>by
  rw[Ae];have key:(f s a).Str m/\(f s a).Book/\Less s (f s a):=by
   rcases b s a with e|e;.rw[e];exact⟨h,w,Less.refl s⟩
   .rw[e];exact⟨(qk11 h a).1,q021 h w a,(qk11 h a).2.1⟩
  obtain⟨c,g,d⟩:=qi31 b r _ key.1 key.2.1;exact⟨c,g,key.2.2.trans d⟩
def qv31{B:qi3}{now:Int}{R:List (Int×q31)}(h:q401 B now R){L:LeL}(a:L.Sublist B.L):q401 { B with L:=L} now R:=by have b:(L.map (·.1)).Nodup:=h.nB.sublist (a.map _);have get:∀k d,qe L k=A0 d->qe B.L k=A0 d:=λk d w=>q24 h.nB (a.subset (qg3 w));exact⟨b,λk d w=>h.name k d (get k d w),λk d w=>h.held k d (get k d w),h.most,h.clock⟩
def q771(X:Inv m s)(hm:m+1<=1000000):∃n s' Q conn took,(∀o,n<=o->Bk.act c o { s with S:=[]} e=A0 (s',Q,conn,took))/\s'.Str (m+1)/\s'.Book/\ql11 s'/\(Q≠0->qj11 s'):=by
 obtain⟨w,z⟩:∃w:Bk,w={ s with S:=[]}:=⟨_,rfl⟩;have h:w.Str m:=by rw[z];exact Str.clear X.str
 have u:w.Book:=Book.keep X.book (by rw[z]) (by rw[z]) λj E=>by rw[z];exact E
 have A:ql11 w:=by rw[z];exact X.talk
 have M:qj11 w:=by rw[z];exact qj11.same X.quiet rfl rfl rfl rfl
 rw[<-z];unfold Bk.act;by_cases k1:e.kind=1
 .simp only[yB k1];rcases qy61 (c:=c) h u A hm e.addr with ⟨v,q⟩|⟨v,q,D,g4⟩
  .exact⟨0,{ w with N:=(Cn.openT w.N e.addr).1},_,0,0,λo _=>by rw[yB v],by unfold Bk.Str;rw[q];exact qr5.more h,Book.keep u rfl rfl λj E=>E,by intro j r d O P b;rw[q]at b;exact A j r d O P b,λ_=>qj11.same M rfl rfl q rfl⟩
  .exact⟨0,_,0,_,0,λo _=>by rw[yA (by rw[v];simp)],q,D,g4,λh=>yI rfl h⟩
 simp only[yA k1];have rd:∀(g:Cn.CnD->Cn.CnD),(∀d,(g d).credit=d.credit)->∃n s',(∀o,n<=o->Bk.read c o (w.upd e.conn g) e.conn e.draw=A0 s')/\s'.Str (m+1)/\s'.Book/\ql11 s':=by
  intro g hg;have h1:(w.upd e.conn g).Str m:=qr5.upd h e.conn λd b=>by rw[hg];exact b
  have hb1:(w.upd e.conn g).Book:=Book.keep u rfl rfl λj E=>E;have Z:Talk e.conn (w.upd e.conn g):=λj r d V O P b=>by change qe (w.N.upd e.conn g).L j=_ at b;rw[ql3,yA (λe=>V e.symm)]at b;exact A j r d O P b
  obtain⟨n,s',U,v,q,D,_⟩:=q071 (c:=c) e.draw (((w.upd e.conn g).N.ask e.conn 0 λd=>d.inb.length)+1) (w.upd e.conn g) (λd b=>by rw[q54 b];omega) h1 hb1 Z;exact⟨n,s',U,qr5.more v,q,D⟩
 by_cases k2:e.kind=2
 .simp only[yB k2];obtain⟨n,s',U,v,q,D⟩:=rd (Cn.gFeed (qm e.b)) λd=>by unfold Cn.gFeed;split<;>rfl
  exact⟨n,s',0,0,_,λo W=>by rw[U o W],v,q,D,λh=>yI rfl h⟩
 simp only[yA k2];by_cases k3:e.kind=3
 .simp only[yB k3];refine⟨0,_,_,_,_,λo _=>rfl,qr5.more (qr5.upd h e.conn λd b=>?_),Book.keep u rfl rfl λj E=>E,λj r d O P b=>?_,λt=>?_⟩
  .unfold Cn.gBudget;split;.exact b
   .rename_i W;have:0<=e.n/\e.n<=1073741824:=by omega
    rw[w64];simp only;split<;>omega
  .change qe (w.N.upd e.conn _).L j=_ at b;rw[ql3]at b;split at b
   .obtain⟨d0,h0,rfl⟩:=A3.1 b;have:=A j r d0 O P h0;unfold Cn.gBudget;split<;>exact this
   .exact A j r d O P b
  .have a:w.upd e.conn (Cn.gBudget e.n)=w:=qyg w _ λd b=>by
    have:w.ask e.conn A1 (Cn.rBudget e.n)=Cn.rBudget e.n d:=q54 b;rw[this]at t;unfold Cn.gBudget;cases hb2:Cn.rBudget e.n d with
    |true=>rw[hb2,yB rfl]at t;exact yI rfl t
    |false=>unfold Cn.rBudget at hb2;simp only[Bool.not_eq_false',Bool.or_eq_true,yJ]at hb2;rw[yB hb2]
   rw[a];exact M
 simp only[yA k3];by_cases k4:e.kind=4
 .simp only[yB k4];by_cases G:w.ask e.conn A1 (λd=>!d.ended)=A1
  .simp only[yB G];have a:w.upd e.conn Cn.gHalf=w:=qyg w _ λd b=>by
    have:w.ask e.conn A1 (λd=>!d.ended)=!d.ended:=q54 b;rw[this]at G;have:d.ended=A7:=by simpa using G
    unfold Cn.gHalf;rw[<-this]
   exact⟨0,_,_,_,_,λo _=>rfl,by rw[a];exact qr5.more h,by rw[a];exact u,by rw[a];exact A,λ_=>by rw[a];exact M⟩
  .simp only[yA G];obtain⟨n,s',U,v,q,D⟩:=rd Cn.gHalf λd=>rfl;exact⟨n,s',0,0,0,λo W=>by rw[U o W],v,q,D,λh=>yI rfl h⟩
 simp only[yA k4];by_cases k5:e.kind=5
 .simp only[yB k5];obtain⟨v,q,_⟩:=qk11 h e.conn;exact⟨0,_,_,_,_,λo _=>rfl,qr5.more v,q021 h u e.conn,q.talk0 A,λh=>yI rfl h⟩
 simp only[yA k5];by_cases k6:e.kind=6
 .simp only[yB k6];unfold Ck.cTick;by_cases t:e.n<0\/e.n>Ck.maxN - w.K.now
  .simp only[yB t];exact⟨0,_,_,_,_,λo _=>by rw[yB (by decide)],qr5.more h,u,A,λ_=>M⟩
  .simp only[yA t];have hc:=qd51 u.clock;have T:q79 (w.K.now+e.n)=A7:=by have:Ck.maxN=1099511627776:=rfl;unfold q79;simp only[A4,yJ];omega
   generalize (w.K.al.filter λx=>decide (x.2<=w.K.now+e.n)).map (·.1)=al;generalize hK:(⟨w.K.now+e.n,w.K.al.filter λx=>decide (¬x.2<=w.K.now+e.n)⟩:Ck.ClG)=K';have C:K'.now=w.K.now+e.n:=by rw[<-hK]
   have hB:=Book.turn u (so:=qad K'.now) (df:=q9d w.B.grace) (λd=>⟨rfl,rfl⟩) K'.now (by rw[C];exact T) (R':=w.roles) λk d b hh hs=>by refine⟨?_,(u.held k d b hh).2⟩;unfold qad at hs;rw[hh,Aq,decide_eq_false_iff_not]at hs;omega
   have hl:qm7 w.B K'.now=({ w.B with L:=(qk4 (qad K'.now) (q9d w.B.grace) w.B.L).1.filter λx=>!(qv4 w.B.grace x.2 K'.now==0)},(qk4 (qad K'.now) (q9d w.B.grace) w.B.L).2):=by unfold qm7;rw[yA (by rw[C,T];simp)]
   have Y:=qv31 hB (List.filter_sublist (p:=λx:ByteArray×LeD=>!(qv4 w.B.grace x.2 K'.now==0)));have J:∀x∈(qm7 w.B (w.K.now+e.n)).2,qli w.roles x.conn:=λx V=>by rw[<-C,hl]at V;obtain⟨k,h1,F⟩:=qc21 u.nB V;unfold qad at F;simp only[A4]at F;exact(u.held k x h1 F.1).2
   have I:q401 (qm7 w.B (w.K.now+e.n)).1 K'.now w.roles:=by rw[<-C,hl];exact Y
   generalize qm7 w.B (w.K.now+e.n)=y at J I;obtain⟨B,l⟩:=y;simp only at J I⊢;have F:Bk.Str m {{ w with K:=K'}with B:=B}:=h;obtain⟨v,q⟩:=qg41 l {{ w with K:=K'}with B:=B} F J;have D:=Book.vis (s:={{ w with K:=K'}with B:=B}) I q;obtain⟨g4,g5,g6⟩:=qi31 (f:=Bk.shut) (λs i=>.inr rfl) al _ v D;exact⟨0,_,_,_,_,λo _=>by rw[yA (by simp)],qr5.more g4,g5,(q.less.trans g6).talk0 (s:={{ w with K:=K'}with B:=B}) A,λh=>yI rfl h⟩
 simp only[yA k6];by_cases k7:e.kind=7
 .simp only[yB k7];generalize qv7 c w.R e.name e.token=y;obtain⟨R,is⟩:=y;simp only;cases is with
  |false=>exact⟨0,{ w with R:=R},3,0,0,λo _=>by rw[yB rfl],qr5.more h,Book.keep u rfl rfl λj E=>E,A,λ_=>qj11.same M rfl rfl rfl rfl⟩
  |true=>
   have hlen:=Str.lenN h (by omega)
   obtain⟨v,q,D⟩:=qi31 (m:=m) (f:=λs id=>match qe s.roles id with
    |none=>s
    |some r=>if(r.kind==2&&(decide (r.ten=e.name)&&decide (r.token=e.token)))=A7 then s.shut id else s) (λs i=>by
     split;.exact .inl rfl
     .split;.exact .inr rfl
      .exact .inl rfl) (Bk.ids { w with R:=R}) { w with R:=R} h (Book.keep u rfl rfl λj E=>E)
   have H:¬1000000<({ w with R:=R}:Bk).N.L.length:=by show ¬1000000<w.N.L.length;omega
   exact⟨0,_,0,0,0,λo _=>by rw[yA (by simp),yA H];rfl,qr5.more v,q,D.talk0 (s:={ w with R:=R}) A,λh=>yI rfl h⟩
 simp only[yA k7];unfold qlb;cases b:qe w.B.L e.name with
 |none=>exact⟨0,_,_,_,_,λo _=>by simp only;rw[yB trivial],qr5.more h,u,A,λ_=>M⟩
 |some d=>
  simp only;by_cases F:qv4 w.B.grace d w.K.now=2
  .rw[yB F,yB u.clock];simp only;obtain⟨h3,h4⟩:=qz31 F;have ha:=(u.held e.name d b h3).2;obtain⟨v,q,_⟩:=qq21 (s:={ w with B:={ w.B with L:=qp w.B.L e.name} }) h d (qp21 ha);exact⟨0,_,_,_,_,λo _=>by rw[yA (by simp)],qr5.more v,Book.vis (s:={ w with B:={ w.B with L:=qp w.B.L e.name} }) (qv31 u (q2a _ _)) q,q.less.talk0 (s:={ w with B:={ w.B with L:=qp w.B.L e.name} }) A,λh=>yI rfl h⟩
  .rw[yA F];exact⟨0,_,_,_,_,λo _=>by simp only;rw[yB trivial],qr5.more h,u,A,λ_=>M⟩
def qx61(w:Inv m s)(d:m+1<=1000000):∃n s' o,s.step c n e=A0 (s',o)/\Inv (m+1) s':=by
 unfold Bk.step;split;.exact⟨0,s,_,rfl,qr5.more w.str,w.book,w.talk,w.quiet⟩
 split;.exact⟨0,s,_,rfl,qr5.more w.str,w.book,w.talk,w.quiet⟩
 obtain⟨b,f,a,conn,took,l,g,p,k,v⟩:=q771 (c:=c) (e:=e) w d;by_cases h:a=0
 .obtain⟨r,i,k0⟩:=qa41 (c:=c) (m:=m+1) d (bkM f) f (Ah _) g;obtain⟨t,q,j,u⟩:=k0 (max b r) (Nat.le_max_right _ _);have x:=Str.lenS q d;refine⟨max b r,i,⟨0,conn,took,i.outs⟩,?_,q,Rn.book p j,Rn.talk0 j k,u⟩;rw[l _ (Nat.le_max_left _ _)];simp only;rw[yA (by rw[h];simp),t];simp only;rw[yA (by omega)]
 .refine⟨b,f,⟨a,0,0,[]⟩,?_,g,p,k,v h⟩;rw[l _ (Ah _)];simp only;rw[yB h]
end
end
end Go.Proofs.YtfjifcfbmhpcaaaGreatDoor
