/-
  A part of the proof of TopEvicted.
-/
import Derived.Test.YtfjifcfbmhpcaaaGreatDoorV27
import Derived.Test.YtfjifcfbmhpcaaaGreatDoorV15
import Derived.Test.YtfjifcfbmhpcaaaGreatDoorProg
import Derived.Test.YtfjifcfbmhpcaaaGreatDoorV00
set_option linter.defProp false
set_option linter.unusedVariables false
set_option linter.unusedSimpArgs false
namespace Go.Proofs.YtfjifcfbmhpcaaaGreatDoor
open Go
open Go.Proofs.Tryz renaming prog → Zp
open Go.IntKind renaming i64 → Zk
open Go.Addr renaming add → Za
open Go.Value renaming int → Zi, string → Zs, pointer → Zq, bool → Zb, tuple → Zt, slice → Zl, agg → Zg, map → Zm
open _root_.Bool renaming false->A0,true->A4
open _root_.Option renaming none->A1,some->A6
open Go renaming World->A2,Addr->A3,Value->A5
section
set_option maxRecDepth 100000
noncomputable def hrC:Code:=Tryz.f62.body.getD .skip
noncomputable def hrR:Code:=(q63 hrC).getD 6 .skip
noncomputable def hrA:Code:=q7q hrR
noncomputable def hrB:Code:=qzq hrR
def qxx:Tryz.f62.body=A6 hrC:=by kernel_rfl
def hr_n:Tryz.f62.ntmps=96:=by kernel_rfl
def q8y:List.drop 6 (q63 hrC)=.block 0 (.rangeFunc (.tmp 30) #[31] hrA hrB)::List.drop 7 (q63 hrC):=by kernel_rfl
def q7z:hrA=.region 5 (qo1 hrA) A0:=by kernel_rfl
def qyz:hrB=.block 1 (.region 6 (qo1 (inB hrB)) A4):=by kernel_rfl
def qqw:q63 (inB hrB)=[.region 6 (qo1 (inB hrB)) A4]:=by kernel_rfl
def qcy:(qo1 hrA).toList.all qv5=A4:=by kernel_rfl
def qiz:Region.noSelect (qo1 (inB hrB))=A4:=by kernel_rfl
def q801:(qo1 (inB hrB)).toList.all (λo=>!q7d o)=A4:=by kernel_rfl
def q1z:Nat.ble 17 (qo1 (inB hrB)).size=A4:=by kernel_rfl
def F62a(w1:Option A3)(s2:Int)(s3:ByteArray)(s4:Bool)(s5:Bool)(w6:A2)(J:List A5->A2->Prop)(R:A5->A2->Prop):Prop:=
 qh #[(Zq w1)] 25 w6 λb7 w8=>
 qh #[(Zi Zk s2),(Zs s3),(Zb s4),(Zb s5)] 38 w8 λL U=>
 ∃(w:Cls),Cls.p w [] U/\
 ∃(p:Option A3),Qt w (Zq p) (λI a8=>
 LdP ⟨b7,0,A1⟩ I λa0=>
 a8 (Zq a0) I)/\
 qa p λV=>
 ∃(F:Option Nat),Qt w (Zm F) (λK w0=>
 LdM (Za V 2) K λa3=>
 w0 (Zm a3) K)/\
 ∃(q:Int),Qt w (Zi Zk q) (λu O=>
 LdI Zk (Za ⟨L,0,A1⟩ 0) u λP=>
 O (Zi Zk P) u)/\
 ∃(k:Option A3),∃(m:Bool),Qt w (Zt #[(Zq k),(Zb m)]) (λh0 w7=>
 Run Zp (Instr.lookup 78 (Zm F) (Zi Zk q) A4) h0 λa2 a6=>
 ∃(D:Option A3),∃(x:Bool),a2=(Zt #[(Zq D),(Zb x)])/\
 w7 (Zt #[(Zq D),(Zb x)]) a6)/\
 ∀h:Nat,
 Ef (Cls.push w (h,.cells #[(Zq A1)] 75)) (λw5 h1=>
 St1 ⟨h,0,A1⟩ (Zq k) w5 λh6=>
 h1 (Zt #[]) h6) λv37 h9=>
 v37=(Zt #[])/\
 (True)/\
 ∀a4 e,Cls.p h9 a4 e->
 Bif (!m) (
 R (Zt #[]) e) (
 ∃(a:Cls),Cls.p a [] e/\
 ∃(g:Option A3),Qt a (Zq g) (λz Q=>
 LdP ⟨h,0,A1⟩ z λw4=>
 Q (Zq w4) z)/\
 ∃(t:Option A3),Qt a (Zq t) (λl h2=>
 LdP ⟨h,0,A1⟩ l λh3=>
 h2 (Zq h3) l)/\
 qa t λa50=>
 ∃(c:Option A3) (b:Nat) (d:Nat),Qt a (Zl c b d) (λj h4=>
 LdL (Za a50 2) j λr A G=>
 h4 (Zl r A G) j)/\
 ∃(B:ByteArray),Qt a (Zs B) (λn M=>
 LdS (Za ⟨L,0,A1⟩ 1) n λw3=>
 M (Zs w3) n)/\
 Ef a (λa5 h7=>
 Run Zp (Builtin.append_ #[22,9] 22 #[(Zl c b d),(Zs B)]) a5 λh8 w2=>
 AsL h8 λi y E=>
 h7 (Zl i y E) w2) λZ s=>
 AsL Z λC v H=>
 (Qt s (Zq g) (λo N=>
 LdP ⟨h,0,A1⟩ o λY=>
 N (Zq Y) o))/\
 qa g λb0=>
 Ef s (λT a1=>
 St1 (Za b0 2) (Zl C v H) T λa9=>
 a1 (Zt #[]) a9) λv75 X=>
 v75=(Zt #[])/\
 (True)/\
 ∀h5 f,Cls.p X h5 f->
 LdP ⟨h,0,A1⟩ f λw9=>
 qb Zp 104 #[(Zq w9)] f λW a7=>
 J [(Zq (A6 ⟨b7,0,A1⟩)),(Zq (A6 ⟨L,0,A1⟩)),(Zq (A6 ⟨h,0,A1⟩)),W] a7)
def F62a_eq(w1:Option A3)(h:Int)(a:ByteArray)(b:Bool)(w:Bool)(c:A2)(J:List A5->A2->Prop)(R:A5->A2->Prop):qx8 Zp 96 3000 (List.take 6 (q63 hrC)) (.step .nil .nil (.draw [(4,A0),(0,A0),(1,A0),(2,A0),(3,A0),(5,A0),(6,A0),(7,A0),(8,A0),(9,A0),(10,A0),(11,A4),(12,A0)] (.step .nil .nil (.step .nil .nil (.draw [(5,A0),(0,A0),(1,A0),(2,A0),(3,A0),(4,A0),(6,A0),(7,A4),(8,A0),(9,A0),(10,A4)] .nil))))) (QJ [(2,.b .ptr),(3,.b .ptr),(4,.b .ptr),(30,.b .val)] J R) [(1,(Zg #[(Zi Zk h),(Zs a),(Zb b),(Zb w)])),(0,(Zq w1))] c=F62a w1 h a b w c J R:=by kernel_rfl
def F62b(O:Nat)(c3:Nat)(c4:Nat)(m:Nat)(d5:A2)(J:List A5->A2->Prop)(R:A5->A2->Prop):Prop:=
 ∃(w:Cls),Cls.p w [] d5/\
 ∃(n:Option A3),Qt w (Zq n) (λa3 d4=>
 LdP ⟨O,0,A1⟩ a3 λb9=>
 d4 (Zq b9) a3)/\
 ∃(k:Option A3),Qt w (Zq k) (λA a0=>
 LdP ⟨O,0,A1⟩ A λb1=>
 a0 (Zq b1) A)/\
 qa k λs=>
 ∃(e:Option A3),Qt w (Zq e) (λp w3=>
 LdP (Za s 1) p λc7=>
 w3 (Zq c7) p)/\
 ∃(l:Option A3),Qt w (Zq l) (λy w1=>
 LdP ⟨c4,0,A1⟩ y λd3=>
 w1 (Zq d3) y)/\
 qa l λu=>
 ∃(g:Int),Qt w (Zi Zk g) (λG a9=>
 LdI Zk (Za u 0) G λZ=>
 a9 (Zi Zk Z) G)/\
 ∃(j:Int) (i:ByteArray) (c:ByteArray) (f:Int) (d:Int),Qt w (Zg #[(Zi Zk j),(Zs i),(Zs c),(Zi Zk f),(Zi Zk d)]) (λb c9=>
 LdI Zk (Za ⟨m,0,A1⟩ 0) b λa2=>
 LdS (Za ⟨m,0,A1⟩ 1) b λd1=>
 LdS (Za ⟨m,0,A1⟩ 2) b λh7=>
 LdI Zk (Za ⟨m,0,A1⟩ 3) b λb5=>
 LdI Zk (Za ⟨m,0,A1⟩ 4) b λw4=>
 c9 (Zg #[(Zi Zk a2),(Zs d1),(Zs h7),(Zi Zk b5),(Zi Zk w4)]) b)/\
 ∃(o:Option A3),Qt w (Zq o) (λC a4=>
 LdP ⟨O,0,A1⟩ C λW=>
 a4 (Zq W) C)/\
 qa o λh0=>
 ∃(B:Option A3),Qt w (Zq B) (λD b6=>
 LdP (Za h0 0) D λh9=>
 b6 (Zq h9) D)/\
 Ef w (λw6 b4=>
 qb Zp 31 #[(Zq B)] w6 λU h2=>
 AsI Zk U λc8=>
 b4 (Zi Zk c8) h2) λh1 h=>
 AsI Zk h1 λV=>
 (Qt h (Zg #[(Zi Zk j),(Zs i),(Zs c),(Zi Zk f),(Zi Zk d)]) (λa w2=>
 LdI Zk (Za ⟨m,0,A1⟩ 0) a λa6=>
 LdS (Za ⟨m,0,A1⟩ 1) a λa8=>
 LdS (Za ⟨m,0,A1⟩ 2) a λh3=>
 LdI Zk (Za ⟨m,0,A1⟩ 3) a λh4=>
 LdI Zk (Za ⟨m,0,A1⟩ 4) a λT=>
 w2 (Zg #[(Zi Zk a6),(Zs a8),(Zs h3),(Zi Zk h4),(Zi Zk T)]) a)/\
 Qt h (Zi Zk g) (λF b0=>
 LdI Zk (Za u 0) F λb3=>
 b0 (Zi Zk b3) F)/\
 Qt h (Zq l) (λv h5=>
 LdP ⟨c4,0,A1⟩ v λw7=>
 h5 (Zq w7) v)/\
 Qt h (Zq e) (λE c0=>
 LdP (Za s 1) E λb7=>
 c0 (Zq b7) E)/\
 Qt h (Zq k) (λt Q=>
 LdP ⟨O,0,A1⟩ t λc5=>
 Q (Zq c5) t)/\
 Qt h (Zq n) (λx h6=>
 LdP ⟨O,0,A1⟩ x λa7=>
 h6 (Zq a7) x))/\
 Ef h (λP Y=>
 qb Zp 105 #[(Zq e),(Zi Zk g),(Zg #[(Zi Zk j),(Zs i),(Zs c),(Zi Zk f),(Zi Zk d)]),(Zi Zk V)] P λw8 b8=>
 AsL w8 λK L N=>
 Y (Zl K L N) b8) λa1 r=>
 AsL a1 λM H I=>
 (Qt r (Zq n) (λz d2=>
 LdP ⟨O,0,A1⟩ z λw5=>
 d2 (Zq w5) z))/\
 Ef r (λw9 w0=>
 qb Zp 29 #[(Zq n),(Zl M H I)] w9 λb2 c1=>
 b2=(Zt #[])/\
 w0 (Zt #[]) c1) λh8 a5=>
 h8=(Zt #[])/\
 (True)/\
 ∀X q,Cls.p a5 X q->
 J [] q
def F62b_eq(b:Nat)(w:Nat)(c:Nat)(a:Nat)(h:A2)(J:List A5->A2->Prop)(R:A5->A2->Prop):qx8 Zp 96 3000 (q63 (inB hrB)) (.draw [(0,A0),(1,A0),(2,A0),(3,A0),(4,A0),(5,A0),(6,A0),(7,A0),(8,A0),(9,A0),(10,A0),(11,A0),(12,A0),(13,A0),(14,A4),(15,A4),(16,A4)] .nil) (QJ [] J R) [(6,(Zq (A6 ⟨a,0,A1⟩))),(4,(Zq (A6 ⟨c,0,A1⟩))),(3,(Zq (A6 ⟨w,0,A1⟩))),(2,(Zq (A6 ⟨b,0,A1⟩)))] h=F62b b w c a h J R:=by kernel_rfl
def F62c(c2:Nat)(c3:Nat)(k:Nat)(e:A2)(J:List A5->A2->Prop)(R:A5->A2->Prop):Prop:=
 LdP ⟨k,0,A1⟩ e λi5=>
 qa i5 λb5=>
 LdB (Za b5 5) e λi7=>
 Jn λq=>(
 Bif i7 (
 ∃(h:Cls),Cls.p h [] e/\
 ∃(j:Option A3),Qt h (Zq j) (λW g1=>
 LdP ⟨k,0,A1⟩ W λj0=>
 g1 (Zq j0) W)/\
 ∃(c:Option A3),Qt h (Zq c) (λG f7=>
 LdP ⟨k,0,A1⟩ G λi8=>
 f7 (Zq i8) G)/\
 ∃(h3:Option A3),Qt h (Zq h3) (λh8 i2=>
 LdP ⟨k,0,A1⟩ h8 λa1=>
 i2 (Zq a1) h8)/\
 qa h3 λa5=>
 ∃(m:Option A3) (o:Nat) (i:Nat),Qt h (Zl m o i) (λU c6=>
 LdL (Za a5 3) U λw3 w9 a0=>
 c6 (Zl w3 w9 a0) U)/\
 ∃(E:Option A3),Qt h (Zq E) (λF a2=>
 LdP ⟨k,0,A1⟩ F λf9=>
 a2 (Zq f9) F)/\
 qa E λa218=>
 ∃(r:Option A3) (n:Nat) (g:Nat),Qt h (Zl r n g) (λO j6=>
 LdL (Za a218 2) O λh9 w0 w7=>
 j6 (Zl h9 w0 w7) O)/\
 Ef h (λe6 k3=>
 Run Zp (Builtin.append_ #[22,22] 22 #[(Zl m o i),(Zl r n g)]) e6 λv228 b3=>
 AsL v228 λw8 w2 w6=>
 k3 (Zl w8 w2 w6) b3) λa4 f=>
 AsL a4 λw5 w4 w1=>
 (Qt f (Zq c) (λx g0=>
 LdP ⟨k,0,A1⟩ x λe7=>
 g0 (Zq e7) x)/\
 Qt f (Zq j) (λh5 i9=>
 LdP ⟨k,0,A1⟩ h5 λa7=>
 i9 (Zq a7) h5))/\
 qa j λc9=>
 Ef f (λi4 d4=>
 St1 (Za c9 3) (Zl w5 w4 w1) i4 λg9=>
 d4 (Zt #[]) g9) λd5 u=>
 d5=(Zt #[])/\
 (Qt u (Zq c) (λH k5=>
 LdP ⟨k,0,A1⟩ H λi0=>
 k5 (Zq i0) H))/\
 qa c λg2=>
 Ef u (λg3 e8=>
 St1 (Za g2 2) (Zl A1 0 0) g3 λb7=>
 e8 (Zt #[]) b7) λd1 b6=>
 d1=(Zt #[])/\
 (True)/\
 ∀k4 Z,Cls.p b6 k4 Z->
 q [] Z) (
 q [] e))/\
 ∀z,q [] z->
 Jn λl=>(
 ∃(w:Cls),Cls.p w [] z/\
 ∃(p:Option A3),Qt w (Zq p) (λh4 k0=>
 LdP ⟨k,0,A1⟩ h4 λe1=>
 k0 (Zq e1) h4)/\
 ∃(K:Option A3),Qt w (Zq K) (λT f8=>
 LdP ⟨k,0,A1⟩ T λc0=>
 f8 (Zq c0) T)/\
 qa K λk7=>
 ∃(h0:Bool),Qt w (Zb h0) (λD g8=>
 LdB (Za k7 4) D λk6=>
 g8 (Zb k6) D)/\
 Bif h0 (
 qa p λe3=>
 Ef w (λb0 b2=>
 St1 (Za e3 4) (Zb A4) b0 λi1=>
 b2 (Zt #[]) i1) λf0 e4=>
 f0=(Zt #[])/\
 (True)/\
 ∀e2 I,Cls.p e4 e2 I->
 l [] I) (
 ∃(M:Bool),Qt w (Zb M) (λh1 j7=>
 LdB (Za ⟨c3,0,A1⟩ 2) h1 λk1=>
 j7 (Zb k1) h1)/\
 qa p λc1=>
 Ef w (λf6 f4=>
 St1 (Za c1 4) (Zb M) f6 λf3=>
 f4 (Zt #[]) f3) λd6 j1=>
 d6=(Zt #[])/\
 (True)/\
 ∀j4 h2,Cls.p j1 j4 h2->
 l [] h2))/\
 ∀d,l [] d->
 LdB (Za ⟨c3,0,A1⟩ 3) d λj5=>
 Bif j5 (
 ∃(b:Cls),Cls.p b [] d/\
 ∃(Y:Option A3),Qt b (Zq Y) (λs j2=>
 LdP ⟨c2,0,A1⟩ s λj8=>
 j2 (Zq j8) s)/\
 qa Y λj3=>
 ∃(B:Option Nat),Qt b (Zm B) (λN b9=>
 LdM (Za j3 2) N λb1=>
 b9 (Zm b1) N)/\
 ∃(L:Int),Qt b (Zi Zk L) (λy c8=>
 LdI Zk (Za ⟨c3,0,A1⟩ 0) y λa8=>
 c8 (Zi Zk a8) y)/\
 Ef b (λg7 a3=>
 Run Zp (Builtin.delete_ #[78,3] 0 #[(Zm B),(Zi Zk L)]) g7 λf2 a6=>
 a3 f2 a6) λj9 f5=>
 j9=(Zt #[])/\
 (True)/\
 ∀k2 C,Cls.p f5 k2 C->
 ∃(a:Cls),Cls.p a [] C/\
 ∃(Q:Option A3),Qt a (Zq Q) (λh6 g6=>
 LdP ⟨c2,0,A1⟩ h6 λi6=>
 g6 (Zq i6) h6)/\
 qa Q λd3=>
 ∃(t:Option A3),Qt a (Zq t) (λX g4=>
 LdP (Za d3 1) X λe9=>
 g4 (Zq e9) X)/\
 ∃(A:Option A3),Qt a (Zq A) (λV g5=>
 LdP ⟨k,0,A1⟩ V λa9=>
 g5 (Zq a9) V)/\
 qa A λc5=>
 ∃(P:Int),Qt a (Zi Zk P) (λv f1=>
 LdI Zk (Za c5 0) v λb4=>
 f1 (Zi Zk b4) v)/\
 Ef a (λd2 d9=>
 qb Zp 106 #[(Zq t),(Zi Zk P)] d2 λd7 d8=>
 AsB d7 λc7=>
 d9 (Zb c7) d8) λe5 i3=>
 AsB e5 λx342=>
 (True)/\
 ∀b8 h7,Cls.p i3 b8 h7->
 J [] h7) (
 J [] d)
def F62c_eq(a:Nat)(w:Nat)(b:Nat)(h:A2)(J:List A5->A2->Prop)(R:A5->A2->Prop):qx8 Zp 96 3000 (List.drop 7 (q63 hrC)) (.step .nil .nil (.join 1 [] (.step (.draw [(0,A0),(1,A0),(2,A0),(3,A0),(4,A0),(5,A0),(6,A0),(7,A0),(8,A0),(9,A0),(10,A4),(11,A0),(12,A0),(13,A4),(14,A0),(15,A0),(16,A4)] .nil) .nil .nil) (.join 1 [] (.draw [(0,A0),(1,A0),(2,A0),(3,A0),(4,A0),(5,A0),(6,A0),(7,A0),(8,A0),(9,A0),(10,A0),(11,A4)] .nil) (.step .nil .nil (.step (.draw [(4,A0),(0,A0),(1,A0),(2,A0),(3,A0),(5,A0),(6,A4)] (.draw [(0,A0),(1,A0),(2,A0),(3,A0),(4,A0),(5,A0),(6,A0),(7,A0),(8,A4)] .nil)) .nil .nil))))) (QJ [] J R) [(4,(Zq (A6 ⟨b,0,A1⟩))),(3,(Zq (A6 ⟨w,0,A1⟩))),(2,(Zq (A6 ⟨a,0,A1⟩)))] h=F62c a w b h J R:=by kernel_rfl
end
end Go.Proofs.YtfjifcfbmhpcaaaGreatDoor
