/-
  A part of the proof of TopEcho.
-/
import Derived.Test.YtfjifcfbmhpcaaaGreatDoorE28
import Derived.Test.YtfjifcfbmhpcaaaGreatDoorE15
import Derived.Test.YtfjifcfbmhpcaaaGreatDoorProg
import Derived.Test.YtfjifcfbmhpcaaaGreatDoorE00
set_option linter.defProp false
set_option linter.unusedVariables false
set_option linter.unusedSimpArgs false
namespace Go.Proofs.YtfjifcfbmhpcaaaGreatDoor
open Go
open Go.Proofs.Tryz renaming prog → Zp
open Go.IntKind renaming i64 → Zk
open Go.Addr renaming add → Za
open Go.Value renaming int → Zi, string → Zs, pointer → Zq, bool → Zb, tuple → Zt, slice → Zl, agg → Zg, map → Zm
open _root_.Bool renaming false->A0,true->A4
open _root_.Option renaming none->A1,some->A6
open Go renaming World->A2,Addr->A3,Value->A5
section
set_option maxRecDepth 100000
noncomputable def hrC:Code:=Tryz.f62.body.getD .skip
noncomputable def hrR:Code:=(q63 hrC).getD 6 .skip
noncomputable def hrA:Code:=q7q hrR
noncomputable def hrB:Code:=qzq hrR
def qxx:Tryz.f62.body=A6 hrC:=by kernel_rfl
def hr_n:Tryz.f62.ntmps=96:=by kernel_rfl
def q8y:List.drop 6 (q63 hrC)=.block 0 (.rangeFunc (.tmp 30) #[31] hrA hrB)::List.drop 7 (q63 hrC):=by kernel_rfl
def q7z:hrA=.region 5 (qo1 hrA) A0:=by kernel_rfl
def qyz:hrB=.block 1 (.region 6 (qo1 (inB hrB)) A4):=by kernel_rfl
def qqw:q63 (inB hrB)=[.region 6 (qo1 (inB hrB)) A4]:=by kernel_rfl
def qcy:(qo1 hrA).toList.all qv5=A4:=by kernel_rfl
def qiz:Region.noSelect (qo1 (inB hrB))=A4:=by kernel_rfl
def q801:(qo1 (inB hrB)).toList.all (λo=>!q7d o)=A4:=by kernel_rfl
def q1z:Nat.ble 17 (qo1 (inB hrB)).size=A4:=by kernel_rfl
def F62a(w1:Option A3)(s2:Int)(s3:ByteArray)(s4:Bool)(s5:Bool)(w6:A2)(J:List A5->A2->Prop)(R:A5->A2->Prop):Prop:=
 qh #[(Zq w1)] 25 w6 λb7 w8=>
 qh #[(Zi Zk s2),(Zs s3),(Zb s4),(Zb s5)] 38 w8 λb9 w10=>
 ∃(a:Cls),Cls.p a [] w10/\
 ∃(y:Option A3),Qt a (Zq y) (λz w0=>
 LdP ⟨b7,0,A1⟩ z λx15=>
 w0 (Zq x15) z)/\
 qa y λh2=>
 ∃(m:Option Nat),Qt a (Zm m) (λE h7=>
 LdM (Za h2 2) E λV=>
 h7 (Zm V) E)/\
 ∃(F:Int),Qt a (Zi Zk F) (λl h6=>
 LdI Zk (Za ⟨b9,0,A1⟩ 0) l λY=>
 h6 (Zi Zk Y) l)/\
 ∃(D:Option A3),∃(j:Bool),Qt a (Zt #[(Zq D),(Zb j)]) (λW h4=>
 Run Zp (Instr.lookup 78 (Zm m) (Zi Zk F) A4) W λX P=>
 ∃(C:Option A3),∃(t:Bool),X=(Zt #[(Zq C),(Zb t)])/\
 h4 (Zt #[(Zq C),(Zb t)]) P)/\
 ∀h:Nat,
 Ef (Cls.push a (h,.cells #[(Zq A1)] 75)) (λw5 w9=>
 St1 ⟨h,0,A1⟩ (Zq D) w5 λw38=>
 w9 (Zt #[]) w38) λv37 h8=>
 v37=(Zt #[])/\
 (True)/\
 ∀w7 g,Cls.p h8 w7 g->
 Bif (!j) (
 R (Zt #[]) g) (
 ∃(w:Cls),Cls.p w [] g/\
 ∃(e:Option A3),Qt w (Zq e) (λk K44=>
 LdP ⟨h,0,A1⟩ k λw3=>
 K44 (Zq w3) k)/\
 ∃(p:Option A3),Qt w (Zq p) (λi w4=>
 LdP ⟨h,0,A1⟩ i λh3=>
 w4 (Zq h3) i)/\
 qa p λa50=>
 ∃(d:Option A3) (b:Nat) (c:Nat),Qt w (Zl d b c) (λn h1=>
 LdL (Za a50 2) n λu q v=>
 h1 (Zl u q v) n)/\
 ∃(o:ByteArray),Qt w (Zs o) (λs h9=>
 LdS (Za ⟨b9,0,A1⟩ 1) s λT=>
 h9 (Zs T) s)/\
 Ef w (λO U=>
 Run Zp (Builtin.append_ #[22,9] 22 #[(Zl d b c),(Zs o)]) O λv64 L=>
 AsL v64 λA r I=>
 U (Zl A r I) L) λv63 B=>
 AsL v63 λH x K=>
 (Qt B (Zq e) (λG K69=>
 LdP ⟨h,0,A1⟩ G λN=>
 K69 (Zq N) G))/\
 qa e λQ=>
 Ef B (λZ h5=>
 St1 (Za Q 2) (Zl H x K) Z λM=>
 h5 (Zt #[]) M) λv75 D72=>
 v75=(Zt #[])/\
 (True)/\
 ∀h0 f,Cls.p D72 h0 f->
 LdP ⟨h,0,A1⟩ f λa0=>
 qb Zp 104 #[(Zq a0)] f λw2 w81=>
 J [(Zq (A6 ⟨b7,0,A1⟩)),(Zq (A6 ⟨b9,0,A1⟩)),(Zq (A6 ⟨h,0,A1⟩)),w2] w81)
def F62a_eq(w1:Option A3)(w:Int)(c:ByteArray)(b:Bool)(a:Bool)(h:A2)(J:List A5->A2->Prop)(R:A5->A2->Prop):qx8 Zp 96 3000 (List.take 6 (q63 hrC)) (.step .nil .nil (.draw [(4,A0),(0,A0),(1,A0),(2,A0),(3,A0),(5,A0),(6,A0),(7,A0),(8,A0),(9,A0),(10,A0),(11,A4),(12,A0)] (.step .nil .nil (.step .nil .nil (.draw [(5,A0),(0,A0),(1,A0),(2,A0),(3,A0),(4,A0),(6,A0),(7,A4),(8,A0),(9,A0),(10,A4)] .nil))))) (QJ [(2,.b .ptr),(3,.b .ptr),(4,.b .ptr),(30,.b .val)] J R) [(1,(Zg #[(Zi Zk w),(Zs c),(Zb b),(Zb a)])),(0,(Zq w1))] h=F62a w1 w c b a h J R:=by kernel_rfl
def F62b(O:Nat)(c3:Nat)(c4:Nat)(m:Nat)(d5:A2)(J:List A5->A2->Prop)(R:A5->A2->Prop):Prop:=
 ∃(w:Cls),Cls.p w [] d5/\
 ∃(n:Option A3),Qt w (Zq n) (λw3 d4=>
 LdP ⟨O,0,A1⟩ w3 λb2=>
 d4 (Zq b2) w3)/\
 ∃(k:Option A3),Qt w (Zq k) (λD a3=>
 LdP ⟨O,0,A1⟩ D λa6=>
 a3 (Zq a6) D)/\
 qa k λC=>
 ∃(j:Option A3),Qt w (Zq j) (λE c1=>
 LdP (Za C 1) E λw4=>
 c1 (Zq w4) E)/\
 ∃(e:Option A3),Qt w (Zq e) (λs w6=>
 LdP ⟨c4,0,A1⟩ s λa2=>
 w6 (Zq a2) s)/\
 qa e λq=>
 ∃(d:Int),Qt w (Zi Zk d) (λu a4=>
 LdI Zk (Za q 0) u λw2=>
 a4 (Zi Zk w2) u)/\
 ∃(l:Int) (c:ByteArray) (i:ByteArray) (f:Int) (g:Int),Qt w (Zg #[(Zi Zk l),(Zs c),(Zs i),(Zi Zk f),(Zi Zk g)]) (λb h8=>
 LdI Zk (Za ⟨m,0,A1⟩ 0) b λW=>
 LdS (Za ⟨m,0,A1⟩ 1) b λw0=>
 LdS (Za ⟨m,0,A1⟩ 2) b λb0=>
 LdI Zk (Za ⟨m,0,A1⟩ 3) b λh6=>
 LdI Zk (Za ⟨m,0,A1⟩ 4) b λb5=>
 h8 (Zg #[(Zi Zk W),(Zs w0),(Zs b0),(Zi Zk h6),(Zi Zk b5)]) b)/\
 ∃(y:Option A3),Qt w (Zq y) (λA Z=>
 LdP ⟨O,0,A1⟩ A λh4=>
 Z (Zq h4) A)/\
 qa y λh5=>
 ∃(p:Option A3),Qt w (Zq p) (λo h2=>
 LdP (Za h5 0) o λd2=>
 h2 (Zq d2) o)/\
 Ef w (λY c5=>
 qb Zp 31 #[(Zq p)] Y λh0 P=>
 AsI Zk h0 λw1=>
 c5 (Zi Zk w1) P) λb9 h=>
 AsI Zk b9 λc9=>
 (Qt h (Zg #[(Zi Zk l),(Zs c),(Zs i),(Zi Zk f),(Zi Zk g)]) (λa a0=>
 LdI Zk (Za ⟨m,0,A1⟩ 0) a λh7=>
 LdS (Za ⟨m,0,A1⟩ 1) a λV=>
 LdS (Za ⟨m,0,A1⟩ 2) a λb7=>
 LdI Zk (Za ⟨m,0,A1⟩ 3) a λb4=>
 LdI Zk (Za ⟨m,0,A1⟩ 4) a λa5=>
 a0 (Zg #[(Zi Zk h7),(Zs V),(Zs b7),(Zi Zk b4),(Zi Zk a5)]) a)/\
 Qt h (Zi Zk d) (λF a9=>
 LdI Zk (Za q 0) F λQ=>
 a9 (Zi Zk Q) F)/\
 Qt h (Zq e) (λv h1=>
 LdP ⟨c4,0,A1⟩ v λw5=>
 h1 (Zq w5) v)/\
 Qt h (Zq j) (λx d1=>
 LdP (Za C 1) x λa1=>
 d1 (Zq a1) x)/\
 Qt h (Zq k) (λG X=>
 LdP ⟨O,0,A1⟩ G λh9=>
 X (Zq h9) G)/\
 Qt h (Zq n) (λt b3=>
 LdP ⟨O,0,A1⟩ t λb1=>
 b3 (Zq b1) t))/\
 Ef h (λa7 c7=>
 qb Zp 105 #[(Zq j),(Zi Zk d),(Zg #[(Zi Zk l),(Zs c),(Zs i),(Zi Zk f),(Zi Zk g)]),(Zi Zk c9)] a7 λa8 T=>
 AsL a8 λK N I=>
 c7 (Zl K N I) T) λb8 B=>
 AsL b8 λL H M=>
 (Qt B (Zq n) (λr w9=>
 LdP ⟨O,0,A1⟩ r λw8=>
 w9 (Zq w8) r))/\
 Ef B (λw7 U=>
 qb Zp 29 #[(Zq n),(Zl L H M)] w7 λd3 c0=>
 d3=(Zt #[])/\
 U (Zt #[]) c0) λc8 h3=>
 c8=(Zt #[])/\
 (True)/\
 ∀b6 z,Cls.p h3 b6 z->
 J [] z
def F62b_eq(c:Nat)(a:Nat)(w:Nat)(b:Nat)(h:A2)(J:List A5->A2->Prop)(R:A5->A2->Prop):qx8 Zp 96 3000 (q63 (inB hrB)) (.draw [(0,A0),(1,A0),(2,A0),(3,A0),(4,A0),(5,A0),(6,A0),(7,A0),(8,A0),(9,A0),(10,A0),(11,A0),(12,A0),(13,A0),(14,A4),(15,A4),(16,A4)] .nil) (QJ [] J R) [(6,(Zq (A6 ⟨b,0,A1⟩))),(4,(Zq (A6 ⟨w,0,A1⟩))),(3,(Zq (A6 ⟨a,0,A1⟩))),(2,(Zq (A6 ⟨c,0,A1⟩)))] h=F62b c a w b h J R:=by kernel_rfl
def F62c(c2:Nat)(c3:Nat)(q:Nat)(d:A2)(J:List A5->A2->Prop)(R:A5->A2->Prop):Prop:=
 LdP ⟨q,0,A1⟩ d λi1=>
 qa i1 λb7=>
 LdB (Za b7 5) d λg9=>
 Jn λl=>(
 Bif g9 (
 ∃(h:Cls),Cls.p h [] d/\
 ∃(k:Option A3),Qt h (Zq k) (λY j5=>
 LdP ⟨q,0,A1⟩ Y λc6=>
 j5 (Zq c6) Y)/\
 ∃(e:Option A3),Qt h (Zq e) (λG b3=>
 LdP ⟨q,0,A1⟩ G λa9=>
 b3 (Zq a9) G)/\
 ∃(M:Option A3),Qt h (Zq M) (λD f8=>
 LdP ⟨q,0,A1⟩ D λi3=>
 f8 (Zq i3) D)/\
 qa M λf3=>
 ∃(m:Option A3) (n:Nat) (j:Nat),Qt h (Zl m n j) (λP f4=>
 LdL (Za f3 3) P λw3 w4 w1=>
 f4 (Zl w3 w4 w1) P)/\
 ∃(Q:Option A3),Qt h (Zq Q) (λh1 e4=>
 LdP ⟨q,0,A1⟩ h1 λj3=>
 e4 (Zq j3) h1)/\
 qa Q λa218=>
 ∃(o:Option A3) (r:Nat) (i:Nat),Qt h (Zl o r i) (λE b5=>
 LdL (Za a218 2) E λw7 w5 a0=>
 b5 (Zl w7 w5 a0) E)/\
 Ef h (λk6 k1=>
 Run Zp (Builtin.append_ #[22,22] 22 #[(Zl m n j),(Zl o r i)]) k6 λv228 d8=>
 AsL v228 λw6 h9 w0=>
 k1 (Zl w6 h9 w0) d8) λc7 p=>
 AsL c7 λw8 w2 w9=>
 (Qt p (Zq e) (λX i5=>
 LdP ⟨q,0,A1⟩ X λj4=>
 i5 (Zq j4) X)/\
 Qt p (Zq k) (λL d1=>
 LdP ⟨q,0,A1⟩ L λa5=>
 d1 (Zq a5) L))/\
 qa k λb0=>
 Ef p (λf2 d4=>
 St1 (Za b0 3) (Zl w8 w2 w9) f2 λg7=>
 d4 (Zt #[]) g7) λa7 h0=>
 a7=(Zt #[])/\
 (Qt h0 (Zq e) (λU k3=>
 LdP ⟨q,0,A1⟩ U λc9=>
 k3 (Zq c9) U))/\
 qa e λa3=>
 Ef h0 (λa6 k7=>
 St1 (Za a3 2) (Zl A1 0 0) a6 λk4=>
 k7 (Zt #[]) k4) λi0 k0=>
 i0=(Zt #[])/\
 (True)/\
 ∀i2 t,Cls.p k0 i2 t->
 l [] t) (
 l [] d))/\
 ∀h7,l [] h7->
 Jn λg=>(
 ∃(w:Cls),Cls.p w [] h7/\
 ∃(f:Option A3),Qt w (Zq f) (λu a4=>
 LdP ⟨q,0,A1⟩ u λd6=>
 a4 (Zq d6) u)/\
 ∃(h4:Option A3),Qt w (Zq h4) (λh2 d7=>
 LdP ⟨q,0,A1⟩ h2 λf6=>
 d7 (Zq f6) h2)/\
 qa h4 λj6=>
 ∃(h8:Bool),Qt w (Zb h8) (λO e3=>
 LdB (Za j6 4) O λb8=>
 e3 (Zb b8) O)/\
 Bif h8 (
 qa f λd5=>
 Ef w (λb2 g2=>
 St1 (Za d5 4) (Zb A4) b2 λc8=>
 g2 (Zt #[]) c8) λj7 c1=>
 j7=(Zt #[])/\
 (True)/\
 ∀g6 F,Cls.p c1 g6 F->
 g [] F) (
 ∃(K:Bool),Qt w (Zb K) (λV g5=>
 LdB (Za ⟨c3,0,A1⟩ 2) V λe8=>
 g5 (Zb e8) V)/\
 qa f λd2=>
 Ef w (λf1 i8=>
 St1 (Za d2 4) (Zb K) f1 λe2=>
 i8 (Zt #[]) e2) λa1 b4=>
 a1=(Zt #[])/\
 (True)/\
 ∀f5 B,Cls.p b4 f5 B->
 g [] B))/\
 ∀c,g [] c->
 LdB (Za ⟨c3,0,A1⟩ 3) c λb6=>
 Bif b6 (
 ∃(b:Cls),Cls.p b [] c/\
 ∃(A:Option A3),Qt b (Zq A) (λN d9=>
 LdP ⟨c2,0,A1⟩ N λj8=>
 d9 (Zq j8) N)/\
 qa A λf0=>
 ∃(Z:Option Nat),Qt b (Zm Z) (λW d3=>
 LdM (Za f0 2) W λi4=>
 d3 (Zm i4) W)/\
 ∃(v:Int),Qt b (Zi Zk v) (λz i7=>
 LdI Zk (Za ⟨c3,0,A1⟩ 0) z λg8=>
 i7 (Zi Zk g8) z)/\
 Ef b (λe9 a2=>
 Run Zp (Builtin.delete_ #[78,3] 0 #[(Zm Z),(Zi Zk v)]) e9 λj0 b9=>
 a2 j0 b9) λg1 g3=>
 g1=(Zt #[])/\
 (True)/\
 ∀a8 I,Cls.p g3 a8 I->
 ∃(a:Cls),Cls.p a [] I/\
 ∃(H:Option A3),Qt a (Zq H) (λh3 e1=>
 LdP ⟨c2,0,A1⟩ h3 λj9=>
 e1 (Zq j9) h3)/\
 qa H λf9=>
 ∃(h6:Option A3),Qt a (Zq h6) (λx b1=>
 LdP (Za f9 1) x λj2=>
 b1 (Zq j2) x)/\
 ∃(T:Option A3),Qt a (Zq T) (λs i9=>
 LdP ⟨q,0,A1⟩ s λk2=>
 i9 (Zq k2) s)/\
 qa T λj1=>
 ∃(C:Int),Qt a (Zi Zk C) (λh5 e5=>
 LdI Zk (Za j1 0) h5 λc5=>
 e5 (Zi Zk c5) h5)/\
 Ef a (λk5 f7=>
 qb Zp 106 #[(Zq h6),(Zi Zk C)] k5 λg0 i6=>
 AsB g0 λe7=>
 f7 (Zb e7) i6) λg4 e6=>
 AsB g4 λx342=>
 (True)/\
 ∀c0 y,Cls.p e6 c0 y->
 J [] y) (
 J [] c)
def F62c_eq(b:Nat)(a:Nat)(w:Nat)(h:A2)(J:List A5->A2->Prop)(R:A5->A2->Prop):qx8 Zp 96 3000 (List.drop 7 (q63 hrC)) (.step .nil .nil (.join 1 [] (.step (.draw [(0,A0),(1,A0),(2,A0),(3,A0),(4,A0),(5,A0),(6,A0),(7,A0),(8,A0),(9,A0),(10,A4),(11,A0),(12,A0),(13,A4),(14,A0),(15,A0),(16,A4)] .nil) .nil .nil) (.join 1 [] (.draw [(0,A0),(1,A0),(2,A0),(3,A0),(4,A0),(5,A0),(6,A0),(7,A0),(8,A0),(9,A0),(10,A0),(11,A4)] .nil) (.step .nil .nil (.step (.draw [(4,A0),(0,A0),(1,A0),(2,A0),(3,A0),(5,A0),(6,A4)] (.draw [(0,A0),(1,A0),(2,A0),(3,A0),(4,A0),(5,A0),(6,A0),(7,A0),(8,A4)] .nil)) .nil .nil))))) (QJ [] J R) [(4,(Zq (A6 ⟨w,0,A1⟩))),(3,(Zq (A6 ⟨a,0,A1⟩))),(2,(Zq (A6 ⟨b,0,A1⟩)))] h=F62c b a w h J R:=by kernel_rfl
end
end Go.Proofs.YtfjifcfbmhpcaaaGreatDoor
