/-
  A part of the proof of TopEcho.
-/
import Derived.Test.YtfjifcfbmhpcaaaGreatDoorE32
import Derived.Test.YtfjifcfbmhpcaaaGreatDoorE00
set_option linter.defProp false
set_option linter.unusedVariables false
set_option linter.unusedSimpArgs false
namespace Go.Proofs.YtfjifcfbmhpcaaaGreatDoor
open Go
open Go.Proofs.Tryz renaming prog → Zp
open Go.Value renaming bool → Zb
open _root_.Bool renaming false->A0
section
def w0W(a b c d:Nat):Option Wd:=Wd.new (qy3 a b c d) 64 PP (Bk.new (qy3 a b c d))
def hdW(a b c d:Nat):Option (Int×qra):=match w0W a b c d with
 |none=>none
 |some v=>match q16 (qy3 a b c d) 64 PP v 9 with
  |none=>none
  |some (h,id)=>match h.step (qy3 a b c d) 64 PP (evk 2 id 0 ⟨#[97,98]⟩ 0 e0)with
   |none=>none
   |some (_,o)=>some (id,o)
def q6z(a b c d:Nat):Bool:=match hdW a b c d with
 |none=>A0
 |some (id,o)=>decide (id>0)&&decide (o.sent=[⟨id,⟨#[97,98]⟩,A0,A0⟩])
set_option maxRecDepth 1000000 in
def qe01(a b c d:Nat):q6z a b c d=true:=by kernel_rfl
section
variable{W w:World}{F l:List Asn}
def qyu(y:qc4 F)(e:St W F w):qb Zp 6 #[] w λr w'=>r=Zb true/\St W F w':=by
 have u:∀a b c d,∃v i id v2 o,w0W a b c d=some v/\q16 (qy3 a b c d) 64 PP v 9=some (i,id)/\i.step (qy3 a b c d) 64 PP (evk 2 id 0 ⟨#[97,98]⟩ 0 e0)=some (v2,o)/\id>0/\o.sent=[⟨id,⟨#[97,98]⟩,A0,A0⟩]:=λa b c d=>by
  have h:=qe01 a b c d;unfold q6z hdW at h;cases f:w0W a b c d with
  |none=>rw[f]at h;cases h
  |some v=>
  rw[f]at h;dsimp only at h;cases g:q16 (qy3 a b c d) 64 PP v 9 with
  |none=>rw[g]at h;cases h
  |some r1=>
  obtain⟨i,id⟩:=r1;rw[g]at h;dsimp only at h;cases j:i.step (qy3 a b c d) 64 PP (evk 2 id 0 ⟨#[97,98]⟩ 0 e0)with
  |none=>rw[j]at h;cases h
  |some r2=>
  obtain⟨v2,o⟩:=r2;rw[j]at h;simp only[Bool.and_eq_true,yJ]at h;exact⟨v,i,id,v2,o,rfl,g,j,h.1,h.2⟩
 refine F6_of ((qdk (n:=64) (vf:=λa b c d=>(w0W a b c d).getD ⟨Bk.new (qy3 a b c d),⟨A0,0,0,1,[]⟩,[],[],[],e0⟩) y (λa b c d=>by obtain⟨v,_,_,_,_,f,_⟩:=u a b c d;rw[f];exact f) e).of λr w ⟨a,b,c,d,x,q,t,m,p,e⟩=>⟨_,p,zl rfl ?_⟩)
 obtain⟨v,i,id,v2,o,f,g,j,A,z⟩:=u a b c d;rw[f]at e;have e:St W (wld [] (qy3 a b c d) PP x q t m v (qie a b c d F)) w:=e;have s:=q3n (a:=a) (b:=b) (c:=c) (d:=d) y;generalize qy3 a b c d=cc at s e g j;refine(qbb ⟨by decide,by decide⟩ s g e).of λr w ⟨p,q,t,m,e⟩=>⟨_,p,?_⟩;refine(qy8 s ⟨by show(-9223372036854775808:Int)<=0;decide,by show(0:Int)<=9223372036854775807;decide⟩ j e).of λr w ⟨q,E,D,t,m,B,e⟩=>⟨_,_,_,_,_,_,B,?_⟩;rw[z]at e⊢;refine zh e λC w e=>St1.zz 0 e rfl λw e=>St1.zz 0 e rfl λw e=>St1.zz 0 e rfl λw e=>St1.zz 0 e rfl λw e=>zm (yG A) (zt 0 e rfl rfl (zm rfl (zt 0 e rfl rfl ?_)));refine z0j (x:=(⟨id,⟨#[97,98]⟩,A0,A0⟩:q81)) (k:=0) q89 (by decide) (z07 1 rfl λF=>z0l F) e rfl (by simp) rfl λad l=>zy (l 0 _ rfl) (z0y (l 1 _ rfl) (LdB.at (l 2 _ rfl) (LdB.at (l 3 _ rfl) ⟨_,λw=>q8u ⟨id,⟨#[97,98]⟩,A0,A0⟩ ⟨id,⟨#[97,98]⟩,A0,A0⟩ w,_,rfl,?_⟩)));refine⟨by rw[yG rfl],?_⟩;exact z0e [_,_,_,_,_,_,_,_,_,_,_,_] e
end
end
end Go.Proofs.YtfjifcfbmhpcaaaGreatDoor
