/-
  A part of the proof of TopEvicted.
-/
import Derived.Test.YtfjifcfbmhpcaaaGreatDoorV31
import Derived.Test.YtfjifcfbmhpcaaaGreatDoorV00
set_option linter.defProp false
set_option linter.unusedVariables false
set_option linter.unusedSimpArgs false
namespace Go.Proofs.YtfjifcfbmhpcaaaGreatDoor
open Go
open Go.Proofs.Tryz renaming prog → Zp
open Go.Value renaming bool → Zb
open _root_.Bool renaming false->A0
section
def w0W(a b c d:Nat):Option Wd:=Wd.new (qy3 a b c d) 64 PP (Bk.new (qy3 a b c d))
def hdW(a b c d:Nat):Option (Int×qra):=match w0W a b c d with
 |none=>none
 |some v=>match q16 (qy3 a b c d) 64 PP v 9 with
  |none=>none
  |some (h,id)=>match h.step (qy3 a b c d) 64 PP (evk 2 id 0 ⟨#[97,98]⟩ 0 e0)with
   |none=>none
   |some (_,o)=>some (id,o)
def q6z(a b c d:Nat):Bool:=match hdW a b c d with
 |none=>A0
 |some (id,o)=>decide (id>0)&&decide (o.sent=[⟨id,⟨#[97,98]⟩,A0,A0⟩])
set_option maxRecDepth 1000000 in
def qe01(a b c d:Nat):q6z a b c d=true:=by kernel_rfl
section
variable{W w:World}{F l:List Asn}
def qyu(y:qc4 F)(e:St W F w):qb Zp 6 #[] w λr w'=>r=Zb true/\St W F w':=by
 have u:∀a b c d,∃v g id v2 o,w0W a b c d=some v/\q16 (qy3 a b c d) 64 PP v 9=some (g,id)/\g.step (qy3 a b c d) 64 PP (evk 2 id 0 ⟨#[97,98]⟩ 0 e0)=some (v2,o)/\id>0/\o.sent=[⟨id,⟨#[97,98]⟩,A0,A0⟩]:=λa b c d=>by
  have h:=qe01 a b c d;unfold q6z hdW at h;cases f:w0W a b c d with
  |none=>rw[f]at h;cases h
  |some v=>
  rw[f]at h;dsimp only at h;cases j:q16 (qy3 a b c d) 64 PP v 9 with
  |none=>rw[j]at h;cases h
  |some r1=>
  obtain⟨g,id⟩:=r1;rw[j]at h;dsimp only at h;cases i:g.step (qy3 a b c d) 64 PP (evk 2 id 0 ⟨#[97,98]⟩ 0 e0)with
  |none=>rw[i]at h;cases h
  |some r2=>
  obtain⟨v2,o⟩:=r2;rw[i]at h;simp only[Bool.and_eq_true,yJ]at h;exact⟨v,g,id,v2,o,rfl,j,i,h.1,h.2⟩
 refine F6_of ((qdk (n:=64) (vf:=λa b c d=>(w0W a b c d).getD ⟨Bk.new (qy3 a b c d),⟨A0,0,0,1,[]⟩,[],[],[],e0⟩) y (λa b c d=>by obtain⟨v,_,_,_,_,f,_⟩:=u a b c d;rw[f];exact f) e).of λr w ⟨a,b,c,d,x,q,m,t,s,e⟩=>⟨_,s,zm rfl ?_⟩)
 obtain⟨v,g,id,v2,o,f,j,i,B,C⟩:=u a b c d;rw[f]at e;have e:St W (wld [] (qy3 a b c d) PP x q m t v (qie a b c d F)) w:=e;have p:=q3n (a:=a) (b:=b) (c:=c) (d:=d) y;generalize qy3 a b c d=cc at p e j i;refine(qbb ⟨by decide,by decide⟩ p j e).of λr w ⟨s,q,m,t,e⟩=>⟨_,s,?_⟩;refine(qy8 p ⟨by show(-9223372036854775808:Int)<=0;decide,by show(0:Int)<=9223372036854775807;decide⟩ i e).of λr w ⟨q,D,E,m,t,z,e⟩=>⟨_,_,_,_,_,_,z,?_⟩;rw[C]at e⊢;refine zh e λA w e=>St1.zz 0 e rfl λw e=>St1.zz 0 e rfl λw e=>St1.zz 0 e rfl λw e=>St1.zz 0 e rfl λw e=>zn (yG B) (zr 0 e rfl rfl (zn rfl (zr 0 e rfl rfl ?_)));refine z0e (x:=(⟨id,⟨#[97,98]⟩,A0,A0⟩:q81)) (k:=0) q89 (by decide) (z06 1 rfl λF=>z0g F) e rfl (by simp) rfl λad l=>zt (l 0 _ rfl) (z0p (l 1 _ rfl) (LdB.at (l 2 _ rfl) (LdB.at (l 3 _ rfl) ⟨_,λw=>q8u ⟨id,⟨#[97,98]⟩,A0,A0⟩ ⟨id,⟨#[97,98]⟩,A0,A0⟩ w,_,rfl,?_⟩)));refine⟨by rw[yG rfl],?_⟩;exact z0f [_,_,_,_,_,_,_,_,_,_,_,_] e
end
end
end Go.Proofs.YtfjifcfbmhpcaaaGreatDoor
