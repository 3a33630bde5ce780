/-
  A part of the proof of TopEvicted.
-/
import Derived.Test.YtfjifcfbmhpcaaaGreatDoorV02
import Derived.OrdersIn
import Derived.Test.YtfjifcfbmhpcaaaGreatDoorV00
set_option linter.defProp false
set_option linter.unusedVariables false
set_option linter.unusedSimpArgs false
namespace Go.Proofs.YtfjifcfbmhpcaaaGreatDoor
open Go
section
variable{dfr:List Deferred}
def qq4{F:Fence}(l:qx4 F){P:Program}{m:Array Oper}{b:List Nat}{Q:Act->World->Prop}{z:Exit->Act->World->Prop}(e:∀(i:Nat) (o:Oper),m[i]?=some o->∀c,o.op≠.defer c)(p:∀a w,Q a w->z .normal a w):
 ∀(f:Nat) (pend:qc1) (d:Array Bool) (a:Act) (C:Cls) (G:List (Nat×Obj)) (w:World),C.p G w->AnyC P m b Q pend f d a C->wpAnyIn F 0 P .any m z f d a w
 |0,_,_,_,_,G,w,n,h=>⟨h.1,p _ _ (h.2 G w n)⟩
 |f+1,pend,d,a,C,G,w,n,h=>⟨λD=>p _ _ (h.1 D G w n),λj E=>by
  have g:=h.2 j E;unfold OpC at g;unfold wpOpIn;split;.rename_i q;simp only[q]at g;exact qq4 l e p f _ _ _ C G w n g
  .rename_i o q;simp only[q]at g;cases hwt:Region.wanted o (yielded m a.tmps)with
   |false=>simp only[hwt]at g;rw[yA (by simp)];exact⟨λf _=>l.fn f,qq4 l e p f _ _ _ C G w n g⟩
   |true=>
    simp only[hwt]at g;rw[yB rfl];split at g
    .obtain⟨s,mk,r,t⟩:=g;have u:qz1 P o a w λv w'=>v=mk w.heap.size/\w'=w.alloc s:=by unfold qz1;rw[newOf_run r w];exact⟨rfl,rfl⟩
     refine u.wpIn l (.inr (e _ _ q)) λv w' ⟨x,k⟩=>?_;subst x;subst k;exact qq4 l e p f _ _ _ _ G _ (C.new G w s n) (t w.heap.size)
    .obtain⟨v,r,t⟩:=g;have u:qz1 P o a w λA w'=>A=v/\w'=w:=by unfold qz1;rw[r w];exact⟨rfl,rfl⟩
     refine u.wpIn l (.inr (e _ _ q)) λA w' ⟨x,k⟩=>?_;subst x;subst k;exact qq4 l e p f _ _ _ C G _ n t
    .obtain⟨X,r,t⟩:=g;refine(r G w n).wpIn l (.inr (e _ _ q)) λv w' ⟨y,B,k⟩=>?_;exact qq4 l e p f _ _ _ y G w' k (t v y B).2⟩
def QJ(sl:List (Nat×Ty))(J:List Value->World->Prop)(R:Value->World->Prop):qh4:=λx e w=>match x with
 |.normal=>qa2 sl e λvs=>J vs w
 |.ret=>R (.tuple #[]) w
 |_=>False
def qzx{F:Fence}(D:qx4 F){P:Program}{n f id:Nat}{b:Array Oper}{ord:List (Nat×Bool)}{Q:qh4}{s:Exit->Act->World->Prop}{e:Env}{w:World}{a:Act}(I:P.follows .mixedOrders=true)(L:Region.noSelect b=true)(B:Nat.ble ord.length b.size=true)(k:b.toList.all (λo=>!q7d o)=true)
 (h:qx8 P n (f+2) [.region id b true] (.draw ord .nil) Q e w) (G:q71 dfr n e a) (K:∀e' c w',Q .normal e' w'->q71 dfr n e' c->s .normal c w') (v:drawOk P b (qna b.toList []) ord (Array.replicate b.size false)=true:=by kernel_rfl):(Code.region id b true).wpIn F 0 P s a w:=by
 simp only[qx8,qa8]at h;simp only[Ann.ord,Ann.rest,Ann.two]at h;obtain⟨C,H,A⟩:=h;rw[<-drawC_eq _ _ v]at A;have B:=Nat.le_of_ble_eq_true B;have g:∀(l:List Oper) (i:Nat) (o:Oper),l[i]?=some o->∀t,q83 (quc l) t=false->q83 o.dst.toList t=false:=by
  intro l;induction l with
  |nil=>intro i o h;simp at h
  |cons x r ih=>
   intro i o h t p;simp only[quc]at p;cases i with
   |zero=>simp at h;subst h;exact qr2 p
   |succ i=>exact ih i o (by simpa using h) t (qyc p)
 have y:q37 b (Array.replicate b.size false):=λj o d J=>by
  rcases Nat.lt_or_ge j b.size with q|q;.simp[q]at J
  .simp[Array.getElem?_eq_none q]at d
 have key:=drawC_sound (Q:=λc w'=>s .normal c w') qsc L (quc b.toList) a (λi o d=>g b.toList i o (by simpa using d))
  (λe' c w' E u z=>K e' c w' E u) ord (b.size - ord.length) _ [] [] e C a A G (z16 _ _) y trivial (λx m=>by cases m) (λx m=>by cases m)
 rw[show ord.length+(b.size - ord.length)=b.size by omega]at key;refine wpIn_region_any I (qq4 D (λi o d=>q1e ?_) (λa w h=>h) _ _ _ _ C [] _ (C.drew _ _ H) key);have:=List.all_eq_true.1 k o (by simpa using List.mem_of_getElem? (l:=b.toList) (by simpa using d));simpa using this
end
end Go.Proofs.YtfjifcfbmhpcaaaGreatDoor
