/-
  A part of the proof of TopBad.
-/
import Derived.Test.YtfjifcfbmhpcaaaGreatDoorB12
import Derived.Test.YtfjifcfbmhpcaaaGreatDoorB08
import Derived.Test.YtfjifcfbmhpcaaaGreatDoorProg
import Derived.Test.YtfjifcfbmhpcaaaGreatDoorB00
set_option linter.all false
namespace Go.Proofs.YtfjifcfbmhpcaaaGreatDoor
open Go
open Go.Proofs.Tryz renaming prog → Zp
open Go.IntKind renaming i64 → Zk, wrap → Zw
open Go.Addr renaming add → Za
open Go.Value renaming int → Zi, string → Zs, pointer → Zq, bool → Zb, tuple → Zt, slice → Zl, agg → Zg, map → Zm
open _root_.Bool renaming false->A0,true->A7
open _root_.Option renaming none->A1,some->A2,isSome_map->As
open Go renaming World->A3,Addr->A5,Value->A6
open _root_.Nat renaming le_of_ble_eq_true->A4,lt_succ_self->A9,lt_of_le_of_lt->Ac,le_refl->Aj,mul_one->Ao
open _root_.List renaming not_mem_nil->A8,length_map->Aa,mem_cons_self->Ab,mem_cons->Ae,mem_singleton->Ah,length_cons->Ak,drop->Ap,length_append->Aq,flatMap_cons->Ar,getElem?_map->Au,map_append->Aw,length_nil->Ay
open _root_.Prod renaming fst->Ad
open Go.Builtin renaming append_->Af,delete_->Av
open _root_.Array renaming getD_eq_getD_getElem?->Ag,getElem?_append_left->Ai,replicate->Ax
open Go.Fence renaming wide->Am
open _root_.Option.some renaming inj->An
section
set_option maxRecDepth 100000
noncomputable def hrC:Code:=Tryz.f62.body.getD .skip
noncomputable def hrR:Code:=(q63 hrC).getD 6 .skip
noncomputable def hrA:Code:=q7q hrR
noncomputable def hrB:Code:=qzq hrR
def qxx:Tryz.f62.body=A2 hrC:=by kernel_rfl
def hr_n:Tryz.f62.ntmps=96:=by kernel_rfl
def q8y:Ap 6 (q63 hrC)=.block 0 (.rangeFunc (.tmp 30) #[31] hrA hrB)::Ap 7 (q63 hrC):=by kernel_rfl
def q7z:hrA=.region 5 (qo1 hrA) A0:=by kernel_rfl
def qyz:hrB=.block 1 (.region 6 (qo1 (inB hrB)) A7):=by kernel_rfl
def qqw:q63 (inB hrB)=[.region 6 (qo1 (inB hrB)) A7]:=by kernel_rfl
def qcy:(qo1 hrA).toList.all qv5=A7:=by kernel_rfl
def qiz:Region.noSelect (qo1 (inB hrB))=A7:=by kernel_rfl
def q801:(qo1 (inB hrB)).toList.all (λo=>!q7d o)=A7:=by kernel_rfl
def q1z:Nat.ble 17 (qo1 (inB hrB)).size=A7:=by kernel_rfl
def F62a(w1:Option A5)(s2:Int)(s3:ByteArray)(s4:Bool)(s5:Bool)(w6:A3)(J:List A6->A3->Prop)(R:A6->A3->Prop):Prop:=
 qh #[(Zq w1)] 25 w6 λb7 w8=>
 qh #[(Zi Zk s2),(Zs s3),(Zb s4),(Zb s5)] 38 w8 λb9 L=>
 ∃(w:Cls),Cls.p w [] L/\
 ∃(I:Option A5),Qt w (Zq I) (λk h5=>
 LdP ⟨b7,0,A1⟩ k λx15=>
 h5 (Zq x15) k)/\
 qa I λV=>
 ∃(v:Option Nat),Qt w (Zm v) (λD h3=>
 LdM (Za V 2) D λh2=>
 h3 (Zm h2) D)/\
 ∃(r:Int),Qt w (Zi Zk r) (λG a2=>
 LdI Zk (Za ⟨b9,0,A1⟩ 0) G λw7=>
 a2 (Zi Zk w7) G)/\
 ∃(n:Option A5),∃(l:Bool),Qt w (Zt #[(Zq n),(Zb l)]) (λh7 h6=>
 Run Zp (Instr.lookup 78 (Zm v) (Zi Zk r) A7) h7 λQ X=>
 ∃(m:Option A5),∃(A:Bool),Q=(Zt #[(Zq m),(Zb A)])/\
 h6 (Zt #[(Zq m),(Zb A)]) X)/\
 ∀h:Nat,
 Ef (Cls.push w (h,.cells #[(Zq A1)] 75)) (λT K35=>
 St1 ⟨h,0,A1⟩ (Zq n) T λh8=>
 K35 (Zt #[]) h8) λv37 D34=>
 v37=(Zt #[])/\
 (True)/\
 ∀G39 f,Cls.p D34 G39 f->
 Bif (!l) (
 R (Zt #[]) f) (
 ∃(a:Cls),Cls.p a [] f/\
 ∃(e:Option A5),Qt a (Zq e) (λH w3=>
 LdP ⟨h,0,A1⟩ H λU=>
 w3 (Zq U) H)/\
 ∃(y:Option A5),Qt a (Zq y) (λq P=>
 LdP ⟨h,0,A1⟩ q λx49=>
 P (Zq x49) q)/\
 qa y λa50=>
 ∃(c:Option A5) (b:Nat) (d:Nat),Qt a (Zl c b d) (λu Y=>
 LdL (Za a50 2) u λB o p=>
 Y (Zl B o p) u)/\
 ∃(z:ByteArray),Qt a (Zs z) (λx W=>
 LdS (Za ⟨b9,0,A1⟩ 1) x λh4=>
 W (Zs h4) x)/\
 Ef a (λZ a1=>
 Run Zp (Af #[22,9] 22 #[(Zl c b d),(Zs z)]) Z λv64 O=>
 AsL v64 λi K j=>
 a1 (Zl i K j) O) λN C=>
 AsL N λE s F=>
 (Qt C (Zq e) (λt h9=>
 LdP ⟨h,0,A1⟩ t λx70=>
 h9 (Zq x70) t))/\
 qa e λa0=>
 Ef C (λw4 w5=>
 St1 (Za a0 2) (Zl E s F) w4 λh0=>
 w5 (Zt #[]) h0) λv75 h1=>
 v75=(Zt #[])/\
 (True)/\
 ∀w2 g,Cls.p h1 w2 g->
 LdP ⟨h,0,A1⟩ g λM=>
 qb Zp 104 #[(Zq M)] g λw9 w0=>
 J [(Zq (A2 ⟨b7,0,A1⟩)),(Zq (A2 ⟨b9,0,A1⟩)),(Zq (A2 ⟨h,0,A1⟩)),w9] w0)
def F62a_eq(w1:Option A5)(h:Int)(a:ByteArray)(b:Bool)(c:Bool)(w:A3)(J:List A6->A3->Prop)(R:A6->A3->Prop):qx8 Zp 96 3000 (List.take 6 (q63 hrC)) (.step .nil .nil (.draw [(4,A0),(0,A0),(1,A0),(2,A0),(3,A0),(5,A0),(6,A0),(7,A0),(8,A0),(9,A0),(10,A0),(11,A7),(12,A0)] (.step .nil .nil (.step .nil .nil (.draw [(5,A0),(0,A0),(1,A0),(2,A0),(3,A0),(4,A0),(6,A0),(7,A7),(8,A0),(9,A0),(10,A7)] .nil))))) (QJ [(2,.b .ptr),(3,.b .ptr),(4,.b .ptr),(30,.b .val)] J R) [(1,(Zg #[(Zi Zk h),(Zs a),(Zb b),(Zb c)])),(0,(Zq w1))] w=F62a w1 h a b c w J R:=by kernel_rfl
def F62b(O:Nat)(c3:Nat)(c4:Nat)(m:Nat)(d4:A3)(J:List A6->A3->Prop)(R:A6->A3->Prop):Prop:=
 ∃(w:Cls),Cls.p w [] d4/\
 ∃(n:Option A5),Qt w (Zq n) (λa1 d5=>
 LdP ⟨O,0,A1⟩ a1 λa9=>
 d5 (Zq a9) a1)/\
 ∃(f:Option A5),Qt w (Zq f) (λo c7=>
 LdP ⟨O,0,A1⟩ o λU=>
 c7 (Zq U) o)/\
 qa f λp=>
 ∃(g:Option A5),Qt w (Zq g) (λF b2=>
 LdP (Za p 1) F λc9=>
 b2 (Zq c9) F)/\
 ∃(d:Option A5),Qt w (Zq d) (λB T=>
 LdP ⟨c4,0,A1⟩ B λh4=>
 T (Zq h4) B)/\
 qa d λq=>
 ∃(c:Int),Qt w (Zi Zk c) (λG h7=>
 LdI Zk (Za q 0) G λh9=>
 h7 (Zi Zk h9) G)/\
 ∃(j:Int) (i:ByteArray) (e:ByteArray) (k:Int) (l:Int),Qt w (Zg #[(Zi Zk j),(Zs i),(Zs e),(Zi Zk k),(Zi Zk l)]) (λa Z=>
 LdI Zk (Za ⟨m,0,A1⟩ 0) a λQ=>
 LdS (Za ⟨m,0,A1⟩ 1) a λw3=>
 LdS (Za ⟨m,0,A1⟩ 2) a λa3=>
 LdI Zk (Za ⟨m,0,A1⟩ 3) a λb8=>
 LdI Zk (Za ⟨m,0,A1⟩ 4) a λb3=>
 Z (Zg #[(Zi Zk Q),(Zs w3),(Zs a3),(Zi Zk b8),(Zi Zk b3)]) a)/\
 ∃(E:Option A5),Qt w (Zq E) (λt b6=>
 LdP ⟨O,0,A1⟩ t λa6=>
 b6 (Zq a6) t)/\
 qa E λw1=>
 ∃(z:Option A5),Qt w (Zq z) (λC b4=>
 LdP (Za w1 0) C λw6=>
 b4 (Zq w6) C)/\
 Ef w (λb5 a7=>
 qb Zp 31 #[(Zq z)] b5 λa2 w2=>
 AsI Zk a2 λw5=>
 a7 (Zi Zk w5) w2) λW h=>
 AsI Zk W λY=>
 (Qt h (Zg #[(Zi Zk j),(Zs i),(Zs e),(Zi Zk k),(Zi Zk l)]) (λb d1=>
 LdI Zk (Za ⟨m,0,A1⟩ 0) b λh8=>
 LdS (Za ⟨m,0,A1⟩ 1) b λc1=>
 LdS (Za ⟨m,0,A1⟩ 2) b λw7=>
 LdI Zk (Za ⟨m,0,A1⟩ 3) b λb9=>
 LdI Zk (Za ⟨m,0,A1⟩ 4) b λh5=>
 d1 (Zg #[(Zi Zk h8),(Zs c1),(Zs w7),(Zi Zk b9),(Zi Zk h5)]) b)/\
 Qt h (Zi Zk c) (λs d2=>
 LdI Zk (Za q 0) s λa8=>
 d2 (Zi Zk a8) s)/\
 Qt h (Zq d) (λA w4=>
 LdP ⟨c4,0,A1⟩ A λb7=>
 w4 (Zq b7) A)/\
 Qt h (Zq g) (λy V=>
 LdP (Za p 1) y λb0=>
 V (Zq b0) y)/\
 Qt h (Zq f) (λu P=>
 LdP ⟨O,0,A1⟩ u λX=>
 P (Zq X) u)/\
 Qt h (Zq n) (λD h1=>
 LdP ⟨O,0,A1⟩ D λh0=>
 h1 (Zq h0) D))/\
 Ef h (λc5 a4=>
 qb Zp 105 #[(Zq g),(Zi Zk c),(Zg #[(Zi Zk j),(Zs i),(Zs e),(Zi Zk k),(Zi Zk l)]),(Zi Zk Y)] c5 λa5 w9=>
 AsL a5 λN K L=>
 a4 (Zl N K L) w9) λh6 v=>
 AsL h6 λI H M=>
 (Qt v (Zq n) (λr w0=>
 LdP ⟨O,0,A1⟩ r λa0=>
 w0 (Zq a0) r))/\
 Ef v (λc0 h3=>
 qb Zp 29 #[(Zq n),(Zl I H M)] c0 λb1 c8=>
 b1=(Zt #[])/\
 h3 (Zt #[]) c8) λh2 w8=>
 h2=(Zt #[])/\
 (True)/\
 ∀d3 x,Cls.p w8 d3 x->
 J [] x
def F62b_eq(w:Nat)(b:Nat)(a:Nat)(c:Nat)(h:A3)(J:List A6->A3->Prop)(R:A6->A3->Prop):qx8 Zp 96 3000 (q63 (inB hrB)) (.draw [(0,A0),(1,A0),(2,A0),(3,A0),(4,A0),(5,A0),(6,A0),(7,A0),(8,A0),(9,A0),(10,A0),(11,A0),(12,A0),(13,A0),(14,A7),(15,A7),(16,A7)] .nil) (QJ [] J R) [(6,(Zq (A2 ⟨c,0,A1⟩))),(4,(Zq (A2 ⟨a,0,A1⟩))),(3,(Zq (A2 ⟨b,0,A1⟩))),(2,(Zq (A2 ⟨w,0,A1⟩)))] h=F62b w b a c h J R:=by kernel_rfl
def F62c(c2:Nat)(c3:Nat)(f:Nat)(d:A3)(J:List A6->A3->Prop)(R:A6->A3->Prop):Prop:=
 LdP ⟨f,0,A1⟩ d λc7=>
 qa c7 λg8=>
 LdB (Za g8 5) d λd1=>
 Jn λi=>(
 Bif d1 (
 ∃(h:Cls),Cls.p h [] d/\
 ∃(n:Option A5),Qt h (Zq n) (λZ d9=>
 LdP ⟨f,0,A1⟩ Z λk1=>
 d9 (Zq k1) Z)/\
 ∃(c:Option A5),Qt h (Zq c) (λW c0=>
 LdP ⟨f,0,A1⟩ W λj9=>
 c0 (Zq j9) W)/\
 ∃(H:Option A5),Qt h (Zq H) (λv f7=>
 LdP ⟨f,0,A1⟩ v λi6=>
 f7 (Zq i6) v)/\
 qa H λa4=>
 ∃(j:Option A5) (g:Nat) (m:Nat),Qt h (Zl j g m) (λQ b7=>
 LdL (Za a4 3) Q λw7 a0 w8=>
 b7 (Zl w7 a0 w8) Q)/\
 ∃(X:Option A5),Qt h (Zq X) (λK a6=>
 LdP ⟨f,0,A1⟩ K λe8=>
 a6 (Zq e8) K)/\
 qa X λa218=>
 ∃(q:Option A5) (l:Nat) (p:Nat),Qt h (Zl q l p) (λM g4=>
 LdL (Za a218 2) M λw5 w9 w1=>
 g4 (Zl w5 w9 w1) M)/\
 Ef h (λj4 k0=>
 Run Zp (Af #[22,22] 22 #[(Zl j g m),(Zl q l p)]) j4 λv228 j6=>
 AsL v228 λw6 w4 h9=>
 k0 (Zl w6 w4 h9) j6) λj3 o=>
 AsL j3 λw0 w3 w2=>
 (Qt o (Zq c) (λh1 c6=>
 LdP ⟨f,0,A1⟩ h1 λd7=>
 c6 (Zq d7) h1)/\
 Qt o (Zq n) (λx b6=>
 LdP ⟨f,0,A1⟩ x λi7=>
 b6 (Zq i7) x))/\
 qa n λb2=>
 Ef o (λk6 g0=>
 St1 (Za b2 3) (Zl w0 w3 w2) k6 λb4=>
 g0 (Zt #[]) b4) λf8 h7=>
 f8=(Zt #[])/\
 (Qt h7 (Zq c) (λF c8=>
 LdP ⟨f,0,A1⟩ F λb5=>
 c8 (Zq b5) F))/\
 qa c λi4=>
 Ef h7 (λi2 e6=>
 St1 (Za i4 2) (Zl A1 0 0) i2 λf0=>
 e6 (Zt #[]) f0) λd2 f9=>
 d2=(Zt #[])/\
 (True)/\
 ∀k3 y,Cls.p f9 k3 y->
 i [] y) (
 i [] d))/\
 ∀B,i [] B->
 Jn λr=>(
 ∃(w:Cls),Cls.p w [] B/\
 ∃(k:Option A5),Qt w (Zq k) (λI a7=>
 LdP ⟨f,0,A1⟩ I λb8=>
 a7 (Zq b8) I)/\
 ∃(z:Option A5),Qt w (Zq z) (λO i5=>
 LdP ⟨f,0,A1⟩ O λe2=>
 i5 (Zq e2) O)/\
 qa z λj7=>
 ∃(D:Bool),Qt w (Zb D) (λT k2=>
 LdB (Za j7 4) T λg9=>
 k2 (Zb g9) T)/\
 Bif D (
 qa k λe3=>
 Ef w (λe4 g5=>
 St1 (Za e3 4) (Zb A7) e4 λa2=>
 g5 (Zt #[]) a2) λg7 f2=>
 g7=(Zt #[])/\
 (True)/\
 ∀a8 h8,Cls.p f2 a8 h8->
 r [] h8) (
 ∃(h0:Bool),Qt w (Zb h0) (λA f1=>
 LdB (Za ⟨c3,0,A1⟩ 2) A λf3=>
 f1 (Zb f3) A)/\
 qa k λf4=>
 Ef w (λg2 a1=>
 St1 (Za f4 4) (Zb h0) g2 λc9=>
 a1 (Zt #[]) c9) λi0 i3=>
 i0=(Zt #[])/\
 (True)/\
 ∀b3 P,Cls.p i3 b3 P->
 r [] P))/\
 ∀e,r [] e->
 LdB (Za ⟨c3,0,A1⟩ 3) e λk4=>
 Bif k4 (
 ∃(b:Cls),Cls.p b [] e/\
 ∃(C:Option A5),Qt b (Zq C) (λL e7=>
 LdP ⟨c2,0,A1⟩ L λd5=>
 e7 (Zq d5) L)/\
 qa C λc5=>
 ∃(t:Option Nat),Qt b (Zm t) (λY j5=>
 LdM (Za c5 2) Y λb1=>
 j5 (Zm b1) Y)/\
 ∃(h5:Int),Qt b (Zi Zk h5) (λE f5=>
 LdI Zk (Za ⟨c3,0,A1⟩ 0) E λd8=>
 f5 (Zi Zk d8) E)/\
 Ef b (λe5 i9=>
 Run Zp (Av #[78,3] 0 #[(Zm t),(Zi Zk h5)]) e5 λb9 g3=>
 i9 b9 g3) λe9 f6=>
 e9=(Zt #[])/\
 (True)/\
 ∀d6 V,Cls.p f6 d6 V->
 ∃(a:Cls),Cls.p a [] V/\
 ∃(h4:Option A5),Qt a (Zq h4) (λs a5=>
 LdP ⟨c2,0,A1⟩ s λg6=>
 a5 (Zq g6) s)/\
 qa h4 λb0=>
 ∃(N:Option A5),Qt a (Zq N) (λh6 k5=>
 LdP (Za b0 1) h6 λa3=>
 k5 (Zq a3) h6)/\
 ∃(h2:Option A5),Qt a (Zq h2) (λh3 k7=>
 LdP ⟨f,0,A1⟩ h3 λj0=>
 k7 (Zq j0) h3)/\
 qa h2 λd3=>
 ∃(U:Int),Qt a (Zi Zk U) (λG j2=>
 LdI Zk (Za d3 0) G λc1=>
 j2 (Zi Zk c1) G)/\
 Ef a (λi1 i8=>
 qb Zp 106 #[(Zq N),(Zi Zk U)] i1 λj8 j1=>
 AsB j8 λa9=>
 i8 (Zb a9) j1) λe1 g1=>
 AsB e1 λx342=>
 (True)/\
 ∀d4 u,Cls.p g1 d4 u->
 J [] u) (
 J [] e)
def F62c_eq(w:Nat)(b:Nat)(a:Nat)(h:A3)(J:List A6->A3->Prop)(R:A6->A3->Prop):qx8 Zp 96 3000 (Ap 7 (q63 hrC)) (.step .nil .nil (.join 1 [] (.step (.draw [(0,A0),(1,A0),(2,A0),(3,A0),(4,A0),(5,A0),(6,A0),(7,A0),(8,A0),(9,A0),(10,A7),(11,A0),(12,A0),(13,A7),(14,A0),(15,A0),(16,A7)] .nil) .nil .nil) (.join 1 [] (.draw [(0,A0),(1,A0),(2,A0),(3,A0),(4,A0),(5,A0),(6,A0),(7,A0),(8,A0),(9,A0),(10,A0),(11,A7)] .nil) (.step .nil .nil (.step (.draw [(4,A0),(0,A0),(1,A0),(2,A0),(3,A0),(5,A0),(6,A7)] (.draw [(0,A0),(1,A0),(2,A0),(3,A0),(4,A0),(5,A0),(6,A0),(7,A0),(8,A7)] .nil)) .nil .nil))))) (QJ [] J R) [(4,(Zq (A2 ⟨a,0,A1⟩))),(3,(Zq (A2 ⟨b,0,A1⟩))),(2,(Zq (A2 ⟨w,0,A1⟩)))] h=F62c w b a h J R:=by kernel_rfl
end
section
noncomputable def q0c(fn:FuncId)(tmps:Array A6)(D:Nat)(s:LoopState):Loop:={ state:=s,pending:=A1,fn:=fn,tmps:=tmps,params:=#[31],assign:=hrA,body:=hrB,defers:=D}
@[reducible] def qo4 (fn:FuncId) (tmps:Array A6) (l D b2 b3 b4 x b:Nat) (d:q81) (s:LoopState) (F:List Asn):List Asn:=
 Pt l (.loop (q0c fn tmps D s))::Pt D (.deferred (A2 []))::Row b2 25 [qc x]::Row b3 38 (q21 d)::Row b4 75 [qc b]::F
section
variable{W w:World}{F:List Asn}{c:qy}{P:qe1}{x b:Nat}{q:qb5}{rp:Option Addr}{rc n:Nat}{v v':Wd}{L:qn}{k:Int}
variable{fn:FuncId}{tmps:Array Value}{l D b2 b3 b4:Nat}{d:q81}
def qi01(y:qk1)(e:Env)(w:A3)(K:Env->A3->Prop):qy7 Zp 96 (qo1 hrA).toList ((31,ql2 y)::e) w K=
 qh #[Zi Zk 0,Zs ⟨#[]⟩,Zs ⟨#[]⟩,Zi Zk 0,Zi Zk 0] 74 w λb w=>St1 (Za ⟨b,0,A1⟩ 0) (Zi Zk y.k) w λw=>St1 (Za ⟨b,0,A1⟩ 1) (Zs y.A) w λw=>St1 (Za ⟨b,0,A1⟩ 2) (Zs y.B) w λw=>
  St1 (Za ⟨b,0,A1⟩ 3) (Zi Zk y.N) w λw=>St1 (Za ⟨b,0,A1⟩ 4) (Zi Zk y.M) w λw=>K ((6,qc b)::(31,ql2 y)::e) w:=by kernel_rfl
def agM{C:Cls}{l:List Asn}{b t:Nat}{m:qk1}(k:Nat)(j:Is W C l)(f:nth l k=A2 (Row b t [Zi Zk m.k,Zs m.A,Zs m.B,Zi Zk m.N,Zi Zk m.M])):
 Qt C (ql2 m) λw K=>LdI Zk (Za ⟨b,0,A1⟩ 0) w λd=>LdS (Za ⟨b,0,A1⟩ 1) w λg=>LdS (Za ⟨b,0,A1⟩ 2) w λc=>LdI Zk (Za ⟨b,0,A1⟩ 3) w λe=>LdI Zk (Za ⟨b,0,A1⟩ 4) w λi=>K (Zg #[Zi Zk d,Zs g,Zs c,Zi Zk e,Zi Zk i]) w:=λG w h=>by
 have a:=j.at k f h;exact z8 0 a yR yR (zg 0 a yR yR (zg 0 a yR yR (z8 0 a yR yR (z8 0 a yR yR ⟨rfl,h⟩))))
def qlw(P:qe1)(g:AG)(no:Int)(m:qk1)(now:Int)(b:Nat):(q22 P g no m now b).2.length<=2:=by
 unfold q22;split;.simp
 .split;.simp
  .split;.split<;>simp
   .split
    .split;.split<;>simp
     .simp
    .unfold qe2 qp4;split;.simp
     .split;.simp
      .split<;>simp
set_option maxHeartbeats 2000000 in
def q4o(m:qk1)(R:ql1 F c)(t:qe v.lines k=A2 L)(o:Wd.does c n { v with g:=(q22 P v.g L.no m v.b.K.now 0).1} (q22 P v.g L.no m v.b.K.now 0).2=A2 v')
 (I:qs1 96 [(4,qc b4),(3,qc b3),(2,qc b2)] { tmps:=tmps,defers:=[]})
 (a:St W (wld [(k,b)] c P x q rp rc v (qo4 fn tmps l D b2 b3 b4 x b d .ready F)) w):
 RoundIn Am 0 Zp l fn (tmps.setIfInBounds 31 (ql2 m)) hrA hrB w λO w'=>∃r,O=.returned r/\r=Zb A7/\∃rp rc,St W (wld [(k,b)] c P x q rp rc v' (qo4 fn tmps l D b2 b3 b4 x b d .ready F)) w':=by
 refine roundIn_of_wpIn trivial ?_;have A:qx4 (Am.inRound l):=.inr ⟨l,rfl⟩;have C:qs1 96 [(31,ql2 m),(4,qc b4),(3,qc b3),(2,qc b2)] { tmps:=tmps.setIfInBounds 31 (ql2 m),defers:=[]}:=I.put1 (d:=31) (ql2 m) (by decide);rw[q7z];refine qk6 A qcy (K:=λe' w'=>∃e,e'=[(6,qc e),(31,ql2 m),(4,qc b4),(3,qc b3),(2,qc b2)]/\St W (wld [(k,b)] c P x q rp rc v (Row e 74 [Zi Zk m.k,Zs m.A,Zs m.B,Zi Zk m.N,Zi Zk m.M]::qo4 fn tmps l D b2 b3 b4 x b d .ready F)) w') ?_ C ?_
 .rw[qi01];exact z0a 6 a λb w a=>St1.zz 6 a yR λw a=>St1.zz 6 a yR λw a=>St1.zz 6 a yR λw a=>St1.zz 6 a yR λw a=>St1.zz 6 a yR λw a=>⟨b,rfl,a⟩
 clear a C I;rintro e2 a2 w2 ⟨e,rfl,a⟩ ha2;have s:qs1 96 [(6,qc e),(4,qc b4),(3,qc b3),(2,qc b2)] a2:=ha2.pick λy J=>by simp only[Ae,A8,yK]at J;rcases J with rfl|rfl|rfl|rfl<;>rfl
 clear ha2;obtain⟨p,a⟩:=(zf 7 0 a yR).turn (o':=.loop (q0c fn tmps D .busy));have a:St W (wld [(k,b)] c P x q rp rc v (Row e 74 [Zi Zk m.k,Zs m.A,Zs m.B,Zi Zk m.N,Zi Zk m.M]::qo4 fn tmps l D b2 b3 b4 x b d .busy F)) _:=zf 0 7 a yR;refine⟨_,run_beginRound p yR,?_⟩;rw[qyz];refine wpIn_block (qzx (f:=2998) (ord:=[(0,A0),(1,A0),(2,A0),(3,A0),(4,A0),(5,A0),(6,A0),(7,A0),(8,A0),(9,A0),(10,A0),(11,A0),(12,A0),(13,A0),(14,A7),(15,A7),(16,A7)]) (Q:=QJ [] (λ_ w'=>∃rp rc,St W (wld [(k,b)] c P x q rp rc v' (qo4 fn tmps l D b2 b3 b4 x b d .busy F)) w') (λ_ _=>False)) A mixed qiz q1z q801 ?_ s ?_)
 .rw[<-qqw];refine(F62b_eq b2 b3 b4 e _ _ _).mpr ?_;obtain⟨z,u,H,E,a⟩:=wld.take Ab t a;refine⟨StC W _,zd a,_,zy 12 ir yR yR,_,zy 12 ir yR yR,z7 ⟨_,zo 0 ir yR yR,_,zy 14 ir yR yR,z7 ⟨_,zi 6 ir yR yR,_,_,_,_,_,agM 9 ir yR,_,zy 12 ir yR yR,z7 ⟨_,zo 0 ir yR yR,?_⟩⟩⟩⟩;refine z05 1 ir yR (λG w h=>qxj h) (λ_ _ h=>⟨_,rfl,h⟩) ⟨_,rfl,⟨agM 9 ir yR,zi 6 ir yR yR,zy 14 ir yR yR,zo 0 ir yR yR,zy 12 ir yR yR,zy 12 ir yR yR⟩,?_⟩;refine Ef.sl 2 ir yR (λG w h=>qzp L.no m v.b.K.now h) (λ_ _ _ _ h=>⟨_,_,_,rfl,h⟩) λap ac=>⟨_,_,_,rfl,zy 13 ir yR yR,?_⟩;have i:=qlw P v.g L.no m v.b.K.now 0;generalize q22 P v.g L.no m v.b.K.now 0=hp at o i⊢;obtain⟨M,j⟩:=hp;dsimp only at o i⊢;refine zk (α:=Option A5×Nat) (V:=λ_=>Zt #[]) (B:=λy=>wld [(k,b)] c P x q y.1 y.2 v' (Row e 74 [Zi Zk m.k,Zs m.A,Zs m.B,Zi Zk m.N,Zi Zk m.M]::qo4 fn tmps l D b2 b3 b4 x b d .busy F)) (A1,0) ir (λG w h=>?_) λy=>⟨rfl,trivial,λG w h=>?_⟩
  .have T:St W (qj9 [(k,b)] k b c P x q rp rc { v with g:=M} (Row b 140 (lnC L z u H E)::q51 5 1 z L.came.length u (L.came.map qd)::q51 5 1 H L.back.length E (L.back.map qd)::qm2 ap ac j::Row e 74 [Zi Zk m.k,Zs m.A,Zs m.B,Zi Zk m.N,Zi Zk m.M]::qo4 fn tmps l D b2 b3 b4 x b d .busy F++pts G)) w:=zf 0 9 h yR;have X:=wld.back (v:={ v with g:=M}) t T;exact(qbj (ap:=ap) (ac:=ac) (((((((R.app (pts G)).cons _).cons _).cons _).cons _).cons _ |>.cons _) |>.cons _) (z0e _) (by omega) o X).of λr w ⟨Y,rp,rc,a⟩=>⟨Y,(rp,rc),rfl,a.del 6 yR⟩
  .exact⟨y.1,y.2,(zb h).del 6 yR⟩
 .rintro e3 a3 Z N U;obtain⟨rp,rc,a⟩:∃rp rc,St W (wld [(k,b)] c P x q rp rc v' (qo4 fn tmps l D b2 b3 b4 x b d .busy F)) Z:=N;obtain⟨p,a⟩:=(zf 6 0 a yR).turn (o':=.loop (q0c fn tmps D .ready));exact⟨_,_,run_endRound A1 p,_,rfl,rfl,rp,rc,zf 0 6 a yR⟩
def qbq(tmps:Array A6)(a:A6):(Array.zip (#[31]:Array Tmp) [a].toArray).foldl (λtmps (t,a)=>tmps.setIfInBounds t a) tmps=tmps.setIfInBounds 31 a:=by simp
def qgz(m:qk1){K:A6->A3->Prop}(o:ql1 F c)(i:qe v.lines k=A2 L)(a:Wd.does c n { v with g:=(q22 P v.g L.no m v.b.K.now 0).1} (q22 P v.g L.no m v.b.K.now 0).2=A2 v')
 (j:qs1 96 [(4,qc b4),(3,qc b3),(2,qc b2)] { tmps:=tmps,defers:=[]})
 (h:St W (wld [(k,b)] c P x q rp rc v (qo4 fn tmps l D b2 b3 b4 x b d .ready F)) w) (e:∀rp rc w',St W (wld [(k,b)] c P x q rp rc v' (qo4 fn tmps l D b2 b3 b4 x b d .ready F)) w'->K (Zb A7) w'):
 q01 Zp 4 (.func (.yield l) #[] #[]) [ql2 m] w K:=by
 have f:=zf 6 0 h yR;refine .inr ⟨l,q0c fn tmps D .ready,rfl,f.pt,rfl,?_⟩;have key:=q4o m o i a j h;rw[<-qbq]at key;exact RoundIn.mono key λt w' ⟨r,s,p,rp,rc,h⟩=>⟨r,s,by subst p;exact e rp rc _ h⟩
end
end
section
def qyp(bs:List UInt8):(Fr.firstP bs).2.1<=bs.length:=by
 unfold Fr.firstP;split;.simp
 .split;.simp
  .split;.simp
   .split;.simp
    .split;.simp
     .simp only[Ak];omega
section
variable{W w:World}{F:List Asn}{c:qy}{P:qe1}{x b:Nat}{q:qb5}{rp:Option Addr}{rc n:Nat}{v v':Wd}{L:qn}{k:Int}
variable{fn:FuncId}{tmps:Array Value}{l D b2 b3 b4 cap:Nat}{d:q81}
set_option maxHeartbeats 2000000 in
def q6t{f:Nat}(T:ql1 F c)(e:v.msgs c n P f k=A2 v')(Y:qs1 96 [(4,qc b4),(3,qc b3),(2,qc b2)] { tmps:=tmps,defers:=[]})
 (a:St W (wld [(k,b)] c P x q rp rc v (qo4 fn tmps l D b2 b3 b4 x b d .ready (Row cap 75 [qc b]::F))) w):
 qb Zp 165 #[.func (.yield l) #[] #[],Zq (A2 ⟨cap,0,A1⟩)] w λr w'=>r=Zt #[]/\∃rp rc,St W (wld [(k,b)] c P x q rp rc v' (qo4 fn tmps l D b2 b3 b4 x b d .ready (Row cap 75 [qc b]::F))) w':=by
 refine F165_of (qt3 (λf vs w=>vs=[]/\∃v rp rc,v.msgs c n P f k=A2 v'/\St W (wld [(k,b)] c P x q rp rc v (qo4 fn tmps l D b2 b3 b4 x b d .ready (Row cap 75 [qc b]::F))) w) λμ Q t=>⟨⟨f,rfl,v,rp,rc,e,a⟩,λw R=>?_⟩);clear a e;obtain⟨_,v,rp,rc,e,a⟩:=t _ _ R;have p:∀(v:Wd) (rp:Option A5) (rc f:Nat) (w':A3),f < μ [] w->v.msgs c n P f k=A2 v'->St W (wld [(k,b)] c P x q rp rc v (qo4 fn tmps l D b2 b3 b4 x b d .ready (Row cap 75 [qc b]::F))) w'->(∃f,([]:List A6)=[]/\∃v rp rc,v.msgs c n P f k=A2 v'/\St W (wld [(k,b)] c P x q rp rc v (qo4 fn tmps l D b2 b3 b4 x b d .ready (Row cap 75 [qc b]::F))) w')/\μ [] w' < μ [] w:=λv rp rc f w' O e a=>by have z:([]:List A6)=[]/\∃v rp rc,v.msgs c n P f k=A2 v'/\St W (wld [(k,b)] c P x q rp rc v (qo4 fn tmps l D b2 b3 b4 x b d .ready (Row cap 75 [qc b]::F))) w':=⟨rfl,v,rp,rc,e,a⟩;exact⟨⟨_,z⟩,Ac (Q _ _ _ z) O⟩
 generalize μ [] w=f at e p;clear Q t R;cases f with
 |zero=>cases e
 |succ f=>
 unfold Wd.msgs at e;cases hL:qe v.lines k with
 |none=>rw[hL]at e;cases e
 |some L=>
 rw[hL]at e;dsimp only at e;obtain⟨j,i,C,A,a⟩:=wld.take Ab hL a;refine LdP.n 14 a yR yR (z7 (zx 6 a yR yR (za (λh=>?_) λh=>?_)));case refine_2=>
  rw[yB (by simpa using h)]at e;cases e;exact⟨rfl,rp,rc,wld.back hL a⟩
 rw[yA (by simpa using h)]at e;by_cases o:1000000<L.came.length;.rw[yB o]at e;cases e
 rw[yA o]at e;refine LdP.n 14 a yR yR (z7 (zt 6 a yR yR ((Fr.First_spec (bs:=L.came) (z04 7 yR λF=>q51.rd F) yR (q51.le (a.at 7 yR)).2 (by omega) a).of λr w ⟨M,H,E,a⟩=>⟨_,_,_,_,_,E,za (λt=>?_) λt=>?_⟩)))
 .rw[yB (by have:(((Fr.firstP L.came).2.1:Nat):Int)=0:=(by simpa using t);omega)]at e;cases e;exact⟨rfl,rp,rc,wld.back hL a.drop⟩
 rw[yA (by have:¬(((Fr.firstP L.came).2.1:Nat):Int)=0:=(by simpa using t);omega)]at e;have s:=qyp L.came;have X:=(q51.le (a.at 8 yR)).2;generalize U:Fr.firstP L.came=fp at e s a⊢;obtain⟨u,m,er⟩:=fp;dsimp only at e s a⊢;refine⟨StC W _,zd a,_,zy 15 ir yR yR,_,zy 15 ir yR yR,z7 ⟨_,_,_,QtL.a 7 ir yR yR,⟨⟨by omega,by omega,by omega⟩,z7 ?_⟩⟩⟩;refine zk (α:=Unit) (V:=λ_=>Zt #[]) (B:=λ_=>Fr.OwnB M H u::qj9 [(k,b)] k b c P x q rp rc v (Row b 140 [Zi Zk L.no,Zi Zk L.conn,.slice (if i=m then j else j.map (·.add (m*1))) (L.came.length - m) (i - m),Zl C L.back.length A,Zb L.en,Zb L.raw]::q51 5 1 (if i=m then j else j.map (·.add (m*1))) (L.came.length - m) (i - m) ((L.came.map qd).drop (m*1))::q51 5 1 C L.back.length A (L.back.map qd)::qo4 fn tmps l D b2 b3 b4 x b d .ready (Row cap 75 [qc b]::F))) () ir (λG w h=>?_) λ_=>⟨rfl,trivial,λG w h=>?_⟩
 .refine St1.zz 7 h yR λw a=>⟨(),rfl,?_⟩;exact z06 8 (B:=[_]) yR (q51.from_ s (a.at 8 yR))
 have a:=zb h;clear h;have K:(L.came.drop m).length=L.came.length - m:=List.length_drop;rw[Ao,<-List.map_drop,<-K]at a;have a:St W (qj9 [(k,b)] k b c P x q rp rc v (Row b 140 (lnC { L with came:=L.came.drop m} (if i=m then j else j.map (·.add m)) (i - m) C A)::q51 5 1 (if i=m then j else j.map (·.add m)) (L.came.drop m).length (i - m) ((L.came.drop m).map qd)::q51 5 1 C L.back.length A (L.back.map qd)::qo4 fn tmps l D b2 b3 b4 x b d .ready (Row cap 75 [qc b]::Fr.OwnB M H u::F))) w:=zf 0 15 a yR;have a:=wld.give (L:={ L with came:=L.came.drop m}) a;refine(qtj (b:=u) (z04 12 yR λF=>z0k F) (qi.le (a.at 12 yR)).2 a).of λr w ⟨E,a⟩=>⟨_,_,_,_,_,_,E,z0a 13 a λN w a=>?_⟩;refine St1.zz 13 a yR λw a=>St1.zz 13 a yR λw a=>St1.zz 13 a yR λw a=>St1.zz 13 a yR λw a=>St1.zz 13 a yR λw a=>?_;clear E;generalize qxg u=gm at e a⊢;obtain⟨y,Z⟩:=gm;dsimp only at e a⊢;have a:St W (wld [(k,b)] c P x q rp rc (v.setL k { L with came:=L.came.drop m}) (qo4 fn tmps l D b2 b3 b4 x b d .ready (Row cap 75 [qc b]::Fr.OwnB M H u::Row N 74 [Zi Zk y.k,Zs y.A,Zs y.B,Zi Zk y.N,Zi Zk y.M]::F))) w:=a;refine za (λI=>?_) λI=>?_
 .rw[yA (by rw[I];simp)]at e;cases hd:Wd.does c n { v.setL k { L with came:=L.came.drop m}with g:=(q22 P (v.setL k { L with came:=L.came.drop m}).g L.no y (v.setL k { L with came:=L.came.drop m}).b.K.now 0).1} (q22 P (v.setL k { L with came:=L.came.drop m}).g L.no y (v.setL k { L with came:=L.came.drop m}).b.K.now 0).2 with
  |none=>rw[hd]at e;cases e
  |some v2=>
  rw[hd]at e;dsimp only at e;have J:qe (v.setL k { L with came:=L.came.drop m}).lines k=A2 { L with came:=L.came.drop m}:=qj1 _ _ _;refine z8 13 a yR yR (zg 13 a yR yR (zg 13 a yR yR (z8 13 a yR yR (z8 13 a yR yR (qgz y (((T.cons _).cons _).cons _) J hd Y a λrp rc w a=>⟨_,rfl,zn yR ?_⟩)))));exact p v2 rp rc f w (A9 _) e ((a.del 12 yR).del 12 yR)
 .rw[yB I]at e;exact p _ rp rc f w (A9 _) e ((a.del 12 yR).del 12 yR)
end
end
section
section
variable{W w:World}{F l:List Asn}{c:qy}{P:qe1}{x b:Nat}{q:qb5}{rp:Option Addr}{rc n m:Nat}{v v':Wd}{L:qn}{k:Int}{d:q81}{o:List (Int×Nat)}{Ls:List (Int×qn)}
def ql5.del_i{ty:TypeId}{K:A6->A3->Prop}(i:Nat)(f:St W l w)(a:nth l i=A2 (ql5 o m Ls k b))(g:∀w',St W (put l i [qx1 [] m (qp Ls k)]) w'->K (Zt #[]) w'):
 Run Zp (Av #[78,3] ty #[.map (A2 m),Zi Zk k]) w K:=by
 obtain⟨bs,⟨c,n,d,j⟩,h⟩:=ql5.open_ (f.at i a);refine qc5 kI q1j 0 h yR k λw' h=>g w' (z06 i a (B:=[_]) (qx1.shut (bs:=qp bs k) (by rw[<-c,qo7]) (by simp) ?_));have e:qp (qx (Ad (α:=Nat) (β:=qn)) bs) k=qx (Ad (α:=Nat) (β:=qn)) (qp bs k):=qo7 (Ad (α:=Nat) (β:=qn)) bs k;rw[e]at h;exact h
def qcz{p sp:Option A5}{f sc:Nat}{xs a:List UInt8}{K:A6->A3->Prop}(i:Nat)(g:St W l w)(d:nth l i=A2 (q51 5 1 p xs.length f (xs.map qd)))(k:Rd (del l i) sp (a.map qd))(e:xs.length+a.length<=1000000)
 (j:∀b c w',St W (put l i [q51 5 1 b (xs.length+a.length) c ((xs++a).map qd)]) w'->K (.slice b (xs.length+a.length) c) w'):
 Run Zp (Af #[22,22] 22 #[Zl p xs.length f,Zl sp a.length sc]) w K:=
 q5i uB (.inr ⟨_,uB⟩) iU8 sU8 zU8 yR (g.at i d) k (by rw[Aa,Ao]) q82 (by rw[bU8,Ao];omega) (by omega) λb c w' h=>j b c w' (by rw[Aw];exact z06 i d (B:=[_]) h)
def q2z{p:Option A5}{e:Nat}{xs:List UInt8}{s:ByteArray}{K:A6->A3->Prop}(i:Nat)(f:St W l w)(c:nth l i=A2 (q51 5 1 p xs.length e (xs.map qd)))(d:xs.length+s.size<=1000000)
 (g:∀a b w',St W (put l i [q51 5 1 a (xs.length+s.size) b ((xs++qm s).map qd)]) w'->K (.slice a (xs.length+s.size) b) w'):
 Run Zp (Af #[22,9] 22 #[Zl p xs.length e,Zs s]) w K:=by
 have key:=q8o (ty:=22) (F:=K) uB uS iU8 sU8 zU8 yR (l:=qm s) (f.at i c) (by rw[bU8,Ao];show xs.length+s.size<=_;omega) (by show((xs.length+s.size:Nat):Int)<=_;omega) λa b w' h=>g a b w' (by rw[Aw];exact z06 i c (B:=[_]) h);rw[show mkS (qm s)=s from qd5 s]at key;exact key
def qcv{J:List A6->A3->Prop}{R:A6->A3->Prop}(a:St W (wld [] c P x q rp rc v F) w)(f:∀L,qe v.lines d.conn=A2 L->L.came.length+d.b.size<=1000000)
 (H:qe v.lines d.conn=A1->∀w,St W (wld [] c P x q rp rc v F) w->R (Zt #[]) w)
 (D:∀L b i j g cap w,qe v.lines d.conn=A2 L->St W (wld [(d.conn,b)] c P x q rp rc (v.setL d.conn { L with came:=L.came++qm d.b}) (Row i 25 [qc x]::Row j 38 (q21 d)::Row g 75 [qc b]::Row cap 75 [qc b]::F)) w->
  J [qc i,qc j,qc g,.func (.func 165) #[] #[Zq (A2 ⟨cap,0,A1⟩)]] w):F62a (A2 ⟨x,0,A1⟩) d.conn d.b d.e d.c w J R:=by
 obtain⟨bs,⟨p,_⟩,a⟩:=wld.open_ a;refine z0a 6 a λi w a=>z0a 7 a λj w a=>⟨StC W _,zd a,_,zy 6 ir yR yR,z7 ⟨_,z0b 0 ir yR yR,_,zi 7 ir yR yR,(qe (qx (Ad (α:=Nat) (β:=qn)) bs) d.conn).elim A1 (λb=>A2 ⟨b,0,A1⟩),_,(λG w A=>qq1 kI q1j qwv q8x 3 A yR d.conn A7 (by rw[yB yR,q5h];exact⟨_,_,rfl,rfl,A⟩)),λg=>?_⟩⟩
 refine zk (α:=Unit) (V:=λ_=>Zt #[]) (B:=λ_=>q6h (qg (Zi Zk) qc q.ml (qx (Ad (α:=Nat) (β:=qn)) bs)) c P x q rp rc v (Row i 25 [qc x]::Row j 38 (q21 d)::Row g 75 [.pointer ((qe (qx (Ad (α:=Nat) (β:=qn)) bs) d.conn).elim A1 (λb=>A2 ⟨b,0,A1⟩))]::qz (bs.map λy:Int×Nat×qn=>qp1 y.2.1 y.2.2)::F)) () (ir.push g _) (λG w h=>?_) λ_=>⟨rfl,trivial,λG w h=>?_⟩
 .have a:=h.imp z0d;exact z0o 0 a yR (by simp) λw a=>⟨(),rfl,zf 0 8 a yR⟩
 have a:=zb h;clear h;have s:qe v.lines d.conn=(qe bs d.conn).map (·.2):=by rw[<-p,q62]
 rw[q62]at a⊢;cases n:qe bs d.conn with
 |none=>refine zm yR (H (by rw[s,n];rfl) _ ?_);rw[n]at a;have a:=((a.del 6 yR).del 6 yR).del 6 yR;exact wld.shut p (by simp) a
 |some y=>
  obtain⟨b,L⟩:=y;have r:qe v.lines d.conn=A2 L:=by rw[s,n];rfl
  have f:=f L r;rw[n]at a;have a:St W (q6h (qg (Zi Zk) qc q.ml (qx (Ad (α:=Nat) (β:=qn)) bs)) c P x q rp rc v (qz (bs.map λy:Int×Nat×qn=>qp1 y.2.1 y.2.2)::Row i 25 [qc x]::Row j 38 (q21 d)::Row g 75 [qc b]::F)) w:=zf 9 6 a yR;have a:=wld.shut (o:=[(d.conn,b)]) p (λy z=>by simp only[Ah]at z;subst z;exact⟨L,n⟩) a
  obtain⟨u,t,m,l,a⟩:=wld.take Ab r a;refine zn yR ⟨StC W _,zd a,_,zy 11 ir yR yR,_,zy 11 ir yR yR,z7 ⟨_,_,_,QtL.a 6 ir yR yR,_,zu 10 ir yR yR,?_⟩⟩;refine zk (α:=Option A5×Nat) (V:=λy=>.slice y.1 (L.came.length+d.b.size) y.2) (B:=λy=>qj9 [(d.conn,b)] d.conn b c P x q rp rc v (Row b 140 (lnC L u t m l)::q51 5 1 y.1 (L.came.length+d.b.size) y.2 ((L.came++qm d.b).map qd)::q51 5 1 m L.back.length l (L.back.map qd)::Row i 25 [qc x]::Row j 38 (q21 d)::Row g 75 [qc b]::F)) (A1,0) ir (λG w h=>q2z 7 h yR f λE C w' h=>⟨_,_,_,rfl,(E,C),rfl,h⟩) λy=>⟨_,_,_,rfl,zy 11 ir yR yR,z7 (z0q 6 ir yR (by simp[lnC]) ⟨rfl,trivial,λG w h=>?_⟩)⟩;have a:=zb h;clear h;have k:(L.came++qm d.b).length=L.came.length+d.b.size:=Aq;rw[<-k]at a;have a:St W (qj9 [(d.conn,b)] d.conn b c P x q rp rc v (Row b 140 (lnC { L with came:=L.came++qm d.b} y.1 y.2 m l)::q51 5 1 y.1 (L.came++qm d.b).length y.2 ((L.came++qm d.b).map qd)::q51 5 1 m L.back.length l (L.back.map qd)::Row i 25 [qc x]::Row j 38 (q21 d)::Row g 75 [qc b]::F)) w:=by
   rw[k]at a⊢;have e:lnC { L with came:=L.came++qm d.b} y.1 y.2 m l=(lnC L u t m l).set (0+2) (.slice y.1 (L.came.length+d.b.size) y.2):=by unfold lnC;rw[<-k];rfl
   rw[e];exact a
  have a:=wld.give (L:={ L with came:=L.came++qm d.b}) a;refine LdP.n 8 a yR yR (F104_of (z0a 9 a λcap w a=>?_));exact D L b i j g cap w r a
end
end
section
def qa9(L:qn):qn:=if L.raw=A7 then { L with back:=L.back++L.came,came:=[]}else L
section
variable{W w:World}{F l:List Asn}{c:qy}{P:qe1}{x b b2 b3 b4:Nat}{q:qb5}{rp:Option Addr}{rc n m:Nat}{v v':Wd}{L:qn}{k:Int}{d:q81}
set_option maxHeartbeats 2000000 in
def qpt{J:List A6->A3->Prop}{R:A6->A3->Prop}(C:qe v.lines d.conn=A2 L)(o:L.back.length+L.came.length<=1000000)
 (r:(if d.c=A7 then { v with lines:=qp v.lines d.conn,g:=(qn6 v.g (qa9 L).no).1}else v.setL d.conn { qa9 L with en:=(qa9 L).en||d.e})=v')
 (a:St W (wld [(d.conn,b)] c P x q rp rc v (Row b2 25 [qc x]::Row b3 38 (q21 d)::Row b4 75 [qc b]::F)) w)
 (t:∀rp rc w,St W (wld [] c P x q rp rc v' (Row b2 25 [qc x]::Row b3 38 (q21 d)::Row b4 75 [qc b]::F)) w->J [] w):F62c b2 b3 b4 w J R:=by
 obtain⟨j,i,k,l,a⟩:=wld.take Ab C a;refine LdP.n 11 a yR yR (z7 (zx 6 a yR yR ⟨λ_ w=>∃j i k l,St W (qj9 [(d.conn,b)] d.conn b c P x q rp rc v (Row b 140 (lnC (qa9 L) j i k l)::q51 5 1 j (qa9 L).came.length i ((qa9 L).came.map qd)::q51 5 1 k (qa9 L).back.length l ((qa9 L).back.map qd)::Row b2 25 [qc x]::Row b3 38 (q21 d)::Row b4 75 [qc b]::F)) w,?_,λw s=>?_⟩))
 .refine za (λp=>?_) λh=>?_
  .refine⟨StC W _,zd a,_,zy 11 ir yR yR,_,zy 11 ir yR yR,_,zy 11 ir yR yR,z7 ⟨_,_,_,QtL.a 6 ir yR yR,_,zy 11 ir yR yR,z7 ⟨_,_,_,QtL.a 6 ir yR yR,?_⟩⟩⟩;refine zk (α:=Option A5×Nat) (V:=λy=>.slice y.1 (L.back.length+L.came.length) y.2) (B:=λy=>qj9 [(d.conn,b)] d.conn b c P x q rp rc v (Row b 140 (lnC L j i k l)::q51 5 1 j L.came.length i (L.came.map qd)::q51 5 1 y.1 (L.back.length+L.came.length) y.2 ((L.back++L.came).map qd)::Row b2 25 [qc x]::Row b3 38 (q21 d)::Row b4 75 [qc b]::F)) (A1,0) ir (λG w h=>qcz 8 h yR (z04 7 yR λF=>q51.rd F) o λu z w' h=>⟨_,_,_,rfl,(u,z),rfl,h⟩) λy=>⟨_,_,_,rfl,⟨zy 11 ir yR yR,zy 11 ir yR yR⟩,z7 (z0q 6 ir yR (by simp[lnC]) ⟨rfl,zy 11 ir yR yR,z7 (z0q 6 ir yR (by simp[lnC]) ⟨rfl,trivial,λG w h=>?_⟩)⟩)⟩;have a:=q51.nil 5 1 A1 ((zb h).del 7 yR);have n:(L.back++L.came).length=L.back.length+L.came.length:=Aq;have e:qa9 L={ L with back:=L.back++L.came,came:=[]}:=yB p;refine⟨A1,0,y.1,y.2,?_⟩;rw[e];have A:lnC { L with back:=L.back++L.came,came:=[]} A1 0 y.1 y.2=[Zi Zk L.no,Zi Zk L.conn,Zl A1 0 0,.slice y.1 (L.back.length+L.came.length) y.2,Zb L.en,Zb L.raw]:=by unfold lnC;rw[<-n];rfl
   rw[A,n];exact zf 0 7 a yR
  .have e:qa9 L=L:=yA (by rw[h];simp);rw[e];exact⟨j,i,k,l,a⟩
 clear a;obtain⟨j,i,k,l,a⟩:=s;generalize qa9 L=f at a r;refine⟨λ_ w=>St W (qj9 [(d.conn,b)] d.conn b c P x q rp rc v (Row b 140 (lnC { f with en:=f.en||d.e} j i k l)::q51 5 1 j f.came.length i (f.came.map qd)::q51 5 1 k f.back.length l (f.back.map qd)::Row b2 25 [qc x]::Row b3 38 (q21 d)::Row b4 75 [qc b]::F)) w,?_,λw a=>?_⟩
 .refine⟨StC W _,zd a,_,zy 11 ir yR yR,_,zy 11 ir yR yR,z7 ⟨_,z0u 6 ir yR yR,za (λh=>z7 (z0q 6 ir yR (by simp[lnC]) ⟨rfl,trivial,λG w m=>?_⟩)) λh=>⟨_,z0u 10 ir yR yR,z7 (z0q 6 ir yR (by simp[lnC]) ⟨rfl,trivial,λG w m=>?_⟩)⟩⟩⟩
  .rw[show(f.en||d.e)=A7 by rw[h];rfl];exact zb m
  .rw[show(f.en||d.e)=d.e by rw[h];rfl];exact zb m
 refine zx 10 a yR yR (za (λh=>?_) λh=>?_)
 .rw[yB h]at r;refine⟨StC W _,zd a,_,zy 9 ir yR yR,z7 ⟨_,z0b 0 ir yR yR,_,zi 10 ir yR yR,?_⟩⟩;refine zk (α:=Unit) (V:=λ_=>Zt #[]) (B:=λ_=>q6h (qx1 [] q.ml (qp v.lines d.conn)) c P x q rp rc v (Row b 140 (lnC { f with en:=f.en||d.e} j i k l)::q51 5 1 j f.came.length i (f.came.map qd)::q51 5 1 k f.back.length l (f.back.map qd)::Row b2 25 [qc x]::Row b3 38 (q21 d)::Row b4 75 [qc b]::F)) () ir (λG w h=>ql5.del_i 3 h yR λw' h=>⟨(),rfl,h⟩) λ_=>⟨rfl,trivial,λG w m=>?_⟩;have a:=zb m;clear m;refine⟨StC W _,zd a,_,zy 9 ir yR yR,z7 ⟨_,zo 0 ir yR yR,_,zy 11 ir yR yR,z7 ⟨_,zi 6 ir yR yR,?_⟩⟩⟩;refine z05 2 ir yR (λG w h=>q0q f.no h) (λ_ _ h=>⟨_,rfl,h⟩) ⟨_,rfl,trivial,λG w m=>t rp rc w ?_⟩;have a:=(((zb m).del 6 yR).del 6 yR).del 6 yR;rw[<-r];exact a
 .rw[yA (by rw[h];simp)]at r;have a:=wld.give (L:={ f with en:=f.en||d.e}) a;rw[r]at a;exact t rp rc w (wld.forget a)
end
end
section
set_option maxRecDepth 100000
section
variable{W w:World}{F l:List Asn}{c:qy}{P:qe1}{x b b2 b3 b4:Nat}{q:qb5}{rp:Option Addr}{rc n m:Nat}{v v':Wd}{L:qn}{k:Int}{d:q81}
def qen{R:A6->A3->Prop}{a:Act}{w:A3}{e:Env}{b:List Deferred}(h:R (Zt #[]) w)(c:q71 b 96 e a):∃v,(results Tryz.f62 a.tmps).run Zp w=.ok v w/\R v w:=
 q77 (P:=Zp) (fn:=Tryz.f62) (R:=R) (by
  have:Tryz.f62.results.toList=[]:=by kernel_rfl
  rw[this];exact h) c
set_option maxHeartbeats 2000000 in
def qsp(X:ql1 F c)(f:v.hear c n P d=A2 v')(k:St W (wld [] c P x q rp rc v F) w):qb Zp 62 #[qc x,Zg #[Zi Zk d.conn,Zs d.b,Zb d.e,Zb d.c]] w λr w'=>r=Zt #[]/\∃rp rc,St W (wld [] c P x q rp rc v' F) w':=by
 refine(callsIn_wide (n:=0)).1 (callsIn_of_wp_marks Tryz.func62 qxx trivial ?_);have C:qs1 96 [(1,Zg #[Zi Zk d.conn,Zs d.b,Zb d.e,Zb d.c]),(0,qc x)] { tmps:=#[qc x,Zg #[Zi Zk d.conn,Zs d.b,Zb d.e,Zb d.c]]++Ax (Tryz.f62.ntmps -(#[qc x,Zg #[Zi Zk d.conn,Zs d.b,Zb d.e,Zb d.c]]).size) undef,defers:=[]}:=by
  rw[hr_n];refine⟨rfl,by simp,λt v G=>?_⟩;have:=q47 G;simp only[Ae,A8,yK,Prod.mk.injEq]at this;rcases this with ⟨rfl,rfl⟩|⟨rfl,rfl⟩
  .rw[Ag,Ai (by simp)];rfl
  .rw[Ag,Ai (by simp)];rfl
 generalize ({ tmps:=#[qc x,Zg #[Zi Zk d.conn,Zs d.b,Zb d.e,Zb d.c]]++Ax (Tryz.f62.ntmps -(#[qc x,Zg #[Zi Zk d.conn,Zs d.b,Zb d.e,Zb d.c]]).size) undef,defers:=[]}:Act)=a at C;have I:∀(m:Act) (e':Env) (w':A3) (rp:Option A5) (rc:Nat),St W (wld [] c P x q rp rc v' F) w'->q71 [] 96 e' m->LeavesInM Am 0 Zp Tryz.f62 m.tmps (λe w=>∃v,e=.returned v/\v=Zt #[]/\∃rp rc,St W (wld [] c P x q rp rc v' F) w) m.defers .returning w':=λm e' w' rp rc k z=>by rw[z.defers];obtain⟨u,J,M⟩:=qen (R:=λv w=>v=Zt #[]/\∃rp rc,St W (wld [] c P x q rp rc v' F) w) ⟨rfl,rp,rc,k⟩ z;exact⟨u,J,u,rfl,M⟩
 unfold Wd.hear at f;have o:∀L,qe v.lines d.conn=A2 L->L.came.length+d.b.size<=1000000:=λL B=>by
  rw[B]at f;dsimp only at f;by_cases h:1000000<L.came.length+d.b.size;.rw[yB h]at f;cases f
  .omega
 refine wpIn_wide.2 (qo9 hrC (qel 6 (qk8 (λy m w' s=>?_) (qtd 3000 _ _ _ _ _ _ (by kernel_rfl) ((F62a_eq (A2 ⟨x,0,A1⟩) d.conn d.b d.e d.c w (λvs w=>∃L b b2 b3 b4 cap,vs=[qc b2,qc b3,qc b4,.func (.func 165) #[] #[Zq (A2 ⟨cap,0,A1⟩)]]/\qe v.lines d.conn=A2 L/\St W (wld [(d.conn,b)] c P x q rp rc (v.setL d.conn { L with came:=L.came++qm d.b}) (Row b2 25 [qc x]::Row b3 38 (q21 d)::Row b4 75 [qc b]::Row cap 75 [qc b]::F)) w) (λr w=>r=Zt #[]/\∃rp rc,St W (wld [] c P x q rp rc v' F) w)).mpr (qcv k o (λU w k=>?_) (λL b b2 b3 b4 cap w B k=>⟨L,b,b2,b3,b4,cap,rfl,B,k⟩))) C))));case refine_2=>
  rw[U]at f;cases f;exact⟨rfl,rp,rc,k⟩
 clear k;cases y with
 |panic _=>exact s.elim
 |outgrown=>exact s.elim
 |exit i=>obtain⟨e',j,_⟩:=s;exact j.elim
 |goto i=>obtain⟨e',j,_⟩:=s;exact j.elim
 |ret=>obtain⟨e',j,p,_⟩:=s;obtain⟨_,rp,rc,k⟩:Zt #[]=Zt #[]/\∃rp rc,St W (wld [] c P x q rp rc v' F) w':=j;exact I m e' w' rp rc k p
 |normal=>
 obtain⟨e',j,z,_⟩:=s;obtain⟨vs,_,⟨L,b,b2,b3,b4,cap,rfl,B,k⟩,_,A⟩:=qk7 j;clear j C;have C:qs1 96 [(30,.func (.func 165) #[] #[Zq (A2 ⟨cap,0,A1⟩)]),(4,qc b4),(3,qc b3),(2,qc b2)] m:=qs1.pick z λy H=>by
  simp only[Ae,A8,yK]at H;rcases H with rfl|rfl|rfl|rfl;.obtain⟨u,j,p⟩:=A 3 30 _ rfl;cases j;exact p
  .obtain⟨u,j,p⟩:=A 2 4 _ rfl;cases j;exact p
  .obtain⟨u,j,p⟩:=A 1 3 _ rfl;cases j;exact p
  .obtain⟨u,j,p⟩:=A 0 2 _ rfl;cases j;exact p
 clear z A;rw[B]at f;dsimp only at f;rw[yA (by have:=o L B;omega)]at f;clear o;generalize v.setL d.conn { L with came:=L.came++qm d.b}=v1 at f k;clear B;cases hm:v1.msgs c n P n d.conn with
 |none=>rw[hm]at f;cases f
 |some v2=>
 rw[hm]at f;dsimp only at f;cases hL2:qe v2.lines d.conn with
 |none=>rw[hL2]at f;cases f
 |some L2=>
 rw[hL2]at f;dsimp only at f;by_cases o:1000000<L2.back.length+L2.came.length;.rw[yB o]at f;cases f
 rw[yA o]at f;have Z:(if d.c=A7 then { v2 with lines:=qp v2.lines d.conn,g:=(qn6 v2.g (qa9 L2).no).1}else v2.setL d.conn { qa9 L2 with en:=(qa9 L2).en||d.e})=v':=by
  by_cases h:d.c=A7
  .rw[yB h]at f⊢;exact An f
  .rw[yA h]at f⊢;exact An f
 clear f;show wpL Zp (Ap 6 (q63 hrC)) _ m w';rw[q8y];have Y:qx4 Am:=.inl yR;refine qml ((wpIn_wide (n:=0)).1 (wpIn_block (wpIn_rangeFunc λfn _=>?_)));have f:m.eval (.tmp 30)=.func (.func 165) #[] #[Zq (A2 ⟨cap,0,A1⟩)]:=C.val 30 _ rfl;have j:=(k.alloc (.deferred (A2 []))).alloc (.loop (q0c fn m.tmps w'.heap.size .ready));rw[World.size_alloc]at j;refine⟨w'.heap.size+1,[{ target:=.collected w'.heap.size,args:=#[]}],(w'.alloc (.deferred (A2 []))).alloc (.loop (q0c fn m.tmps w'.heap.size .ready)),{ target:=.fn (.func 165) #[Zq (A2 ⟨cap,0,A1⟩)],args:=#[.func (.yield (w'.heap.size+1)) #[] #[]]},(w'.alloc (.deferred (A2 []))).alloc (.loop (q0c fn m.tmps w'.heap.size .ready)),165,
  #[.func (.yield (w'.heap.size+1)) #[] #[],Zq (A2 ⟨cap,0,A1⟩)],(w'.alloc (.deferred (A2 []))).alloc (.loop (q0c fn m.tmps w'.heap.size .ready)),run_enterLoop_outer _ _ _ _ _,?_,λ_ _=>trivial,?_,(λh=>by cases h),?_⟩
 .simp only[resolve,f];simp[go_sem]
 .simp only[invoke];exact q04 (by kernel_rfl) _ _
 generalize w'.heap.size=D at j;generalize D+1=l at j;generalize (w'.alloc (.deferred (A2 []))).alloc (.loop (q0c fn m.tmps D .ready))=w1 at j;clear k f;have k:St W (wld [(d.conn,b)] c P x q rp rc v1 (qo4 fn m.tmps l D b2 b3 b4 x b d .ready (Row cap 75 [qc b]::F))) w1:=zl 8 [2,3,4,5,6,7,0,1] j yR;have G:qs1 96 [(4,qc b4),(3,qc b3),(2,qc b2)] { tmps:=m.tmps,defers:=[]}:=by
  have:=C.pick (e':=[(4,qc b4),(3,qc b3),(2,qc b2)]) λy H=>by simp only[Ae,A8,yK]at H;rcases H with rfl|rfl|rfl<;>rfl
  exact⟨rfl,this.size,this.val⟩
 refine qx4.calls Y (Calls.mono (q6t X hm G k) λe w2 ⟨u,he,J,rp,rc,k⟩=>?_);subst he;obtain⟨N,k⟩:=(zf 6 0 k yR).turn (o':=.loop (q0c fn m.tmps D .exhausted));refine⟨A1,_,run_endLoop N (by simp[q0c]),?_⟩;have O:m.defers=[]:=C.defers;have K:q71 [{ target:=.collected D,args:=#[]}] 96 [(4,qc b4),(3,qc b3),(2,qc b2)] { m with defers:=[{ target:=.collected D,args:=#[]}]++m.defers}:=⟨by rw[O];rfl,G.size,G.val⟩;have k:St W (wld [(d.conn,b)] c P x q rp rc v2 (Row b2 25 [qc x]::Row b3 38 (q21 d)::Row b4 75 [qc b]::Pt D (.deferred (A2 []))::F)) _:=(zl 12 [1,2,3,4,5,6,8,9,10,7,11,0] k yR |> λh=>(h.del 11 yR).del 10 yR);have V:=((F62c_eq b2 b3 b4 _ (λ_ w=>∃rp rc,St W (wld [] c P x q rp rc v' (Row b2 25 [qc x]::Row b3 38 (q21 d)::Row b4 75 [qc b]::Pt D (.deferred (A2 []))::F)) w) (λ_ w=>∃rp rc,St W (wld [] c P x q rp rc v' (Row b2 25 [qc x]::Row b3 38 (q21 d)::Row b4 75 [qc b]::Pt D (.deferred (A2 []))::F)) w)).mpr (qpt hL2 (by omega) Z k λrp rc w h=>⟨rp,rc,h⟩));have key:=qtd (P:=Zp) (n:=96) 3000 _ _ _ _ _ _ (by kernel_rfl) V K;generalize Ap 7 (q63 hrC)=post at key⊢;refine qk8 (λy a3 Q s=>?_) key;have E:∀e',(∃rp rc,St W (wld [] c P x q rp rc v' (Row b2 25 [qc x]::Row b3 38 (q21 d)::Row b4 75 [qc b]::Pt D (.deferred (A2 []))::F)) Q)->q71 [{ target:=.collected D,args:=#[]}] 96 e' a3->LeavesInM Am 0 Zp Tryz.f62 a3.tmps (λe w=>∃v,e=.returned v/\v=Zt #[]/\∃rp rc,St W (wld [] c P x q rp rc v' F) w) a3.defers .returning Q:=λe' ⟨rp,rc,k⟩ ha3=>by rw[ha3.defers];obtain⟨T,k⟩:=(zf 9 0 k yR).turn (o':=.deferred A1);refine⟨by simp,.inl ⟨D,_,rfl,run_takeDeferred T,?_⟩⟩;have k:=(((z0h [_] k).del 6 yR).del 6 yR).del 6 yR;obtain⟨u,J,M⟩:=qen (R:=λv w=>v=Zt #[]/\∃rp rc,St W (wld [] c P x q rp rc v' F) w) ⟨rfl,rp,rc,k⟩ ha3;exact⟨u,J,u,rfl,M⟩
 cases y with
 |panic _=>exact s.elim
 |outgrown=>exact s.elim
 |exit i=>obtain⟨e',j,_⟩:=s;exact j.elim
 |goto i=>obtain⟨e',j,_⟩:=s;exact j.elim
 |ret=>obtain⟨e',j,p,_⟩:=s;exact E e' j p
 |normal=>obtain⟨e',j,p,_⟩:=s;exact E e' j p
end
end
section
section
variable{W w:World}{F l:List Asn}{c:qy}{P:qe1}{x b:Nat}{q:qb5}{rp:Option Addr}{rc n:Nat}{v v':Wd}{L:qn}{d:q81}
set_option maxHeartbeats 1000000 in
def q5m{f:Nat}(H:ql1 F c)(i:v.run c n P f=A2 v')(b:St W (wld [] c P x q rp rc v F) w):qb Zp 32 #[qc x] w λr w'=>r=Zt #[]/\∃rp rc,St W (wld [] c P x q rp rc v' F) w':=by
 refine F32_of (qt3 (λf vs w=>∃(m:Bool) (v:Wd) (rp:Option A5) (rc:Nat),vs=[Zb m]/\(if m=A7 then v.run c n P f=A2 v' else v=v')/\St W (wld [] c P x q rp rc v F) w) λμ y A=>⟨⟨f,A7,v,rp,rc,rfl,by rw[yB yR];exact i,b⟩,λm w z=>?_⟩);clear b i;obtain⟨m,v,rp,rc,J,i,b⟩:=A _ _ z;cases J;have s:∀(l:Bool) (v:Wd) (rp:Option A5) (rc f:Nat) (w':A3),f < μ [Zb m] w->(if l=A7 then v.run c n P f=A2 v' else v=v')->St W (wld [] c P x q rp rc v F) w'->
  (∃f,∃(m:Bool) (v:Wd) (rp:Option A5) (rc:Nat),[Zb l]=[Zb m]/\(if m=A7 then v.run c n P f=A2 v' else v=v')/\St W (wld [] c P x q rp rc v F) w')/\μ [Zb l] w' < μ [Zb m] w:=λl v rp rc f w' t i b=>by
  have o:∃(m:Bool) (v:Wd) (rp:Option A5) (rc:Nat),[Zb l]=[Zb m]/\(if m=A7 then v.run c n P f=A2 v' else v=v')/\St W (wld [] c P x q rp rc v F) w':=⟨l,v,rp,rc,rfl,i,b⟩;exact⟨⟨_,o⟩,Ac (y _ _ _ o) t⟩
 clear y A z;refine za (λh=>?_) λh=>?_;case refine_2=>
  rw[yA (by rw[h];simp)]at i;subst i;exact⟨rfl,rp,rc,b⟩
 rw[yB h]at i;generalize μ [Zb m] w=f at i s;clear h;cases f with
 |zero=>cases i
 |succ f=>
 unfold Wd.run at i;cases j:v.drain c n P n with
 |none=>rw[j]at i;cases i
 |some v1=>
 rw[j]at i;dsimp only at i;refine qt3 (λf vs w=>vs=[]/\∃(v:Wd) (rp:Option A5) (rc:Nat),v.drain c n P f=A2 v1/\St W (wld [] c P x q rp rc v F) w) λμ y A=>⟨⟨n,rfl,v,rp,rc,j,b⟩,λw z=>?_⟩;clear b j;obtain⟨_,v,rp,rc,j,b⟩:=A _ _ z;have p:∀(v:Wd) (rp:Option A5) (rc f:Nat) (w':A3),f < μ [] w->v.drain c n P f=A2 v1->St W (wld [] c P x q rp rc v F) w'->
  (∃f,([]:List A6)=[]/\∃(v:Wd) (rp:Option A5) (rc:Nat),v.drain c n P f=A2 v1/\St W (wld [] c P x q rp rc v F) w')/\μ [] w' < μ [] w:=λv rp rc f w' t i b=>by
  have o:([]:List A6)=[]/\∃(v:Wd) (rp:Option A5) (rc:Nat),v.drain c n P f=A2 v1/\St W (wld [] c P x q rp rc v F) w':=⟨rfl,v,rp,rc,i,b⟩;exact⟨⟨_,o⟩,Ac (y _ _ _ o) t⟩
 generalize μ [] w=g at j p;clear y A z;cases g with
 |zero=>cases j
 |succ g=>
 unfold Wd.drain at j;obtain⟨vb,D,vl,row,vS,E⟩:=v;dsimp only at j b;refine z7 (zt 0 b yR yR (za (λh=>?_) λh=>?_))
 .cases row with
  |nil=>simp at h
  |cons d r=>
  dsimp only at j;cases hh:Wd.hear c n P ⟨vb,D,vl,r,vS,E⟩ d with
  |none=>rw[hh]at j;cases j
  |some v2=>
  rw[hh]at j;dsimp only at j;refine z7 (zt 0 b yR yR (z0f (x:=d) (k:=0) q89 (by decide) (z04 4 yR λF=>q51.rd F) b yR (by simp) yR λad B=>zq (B 0 _ rfl) (z0i (B 1 _ rfl) (LdB.at (B 2 _ rfl) (LdB.at (B 3 _ rfl) (z0a 6 b λC w b=>?_))))));refine St1.zz 6 b yR λw b=>St1.zz 6 b yR λw b=>St1.zz 6 b yR λw b=>St1.zz 6 b yR λw b=>z7 (zt 0 b yR yR (SlP.own (a:=1) 4 b yR yR yR (by simp) λK b=>z7 (St1.zz 0 b yR λw b=>?_)));have e:((d::r).flatMap q21).drop (1*4)=r.flatMap q21:=by rw[Ar];exact List.drop_left' (q89 d)
  rw[e]at b;have b:St W (wld [] c P x q K (rc - 1) ⟨vb,D,vl,r,vS,E⟩ (Row C 38 (q21 d)::F)) w:=b;refine z8 6 b yR yR (zg 6 b yR yR (zx 6 b yR yR (zx 6 b yR yR ((qsp (H.cons _) hh b).of λu w ⟨G,rp,rc,b⟩=>⟨G,?_⟩))));exact p v2 rp rc g w (A9 _) j (b.del 6 yR)
 .cases row with
  |cons d r=>simp at h
  |nil=>
  dsimp only at j;cases j;clear p;cases hb:Wd.back c n ⟨vb,D,vl,[],vS,E⟩with
  |none=>rw[hb]at i;cases i
  |some r2=>
  obtain⟨v2,L⟩:=r2;rw[hb]at i;dsimp only at i;refine(q9t H hb b).of λu w ⟨G,rp,rc,b⟩=>⟨_,G,za (λh=>?_) λh=>z7 (zt 0 b yR yR ?_)⟩
  .rw[h]at i;exact s A7 v2 rp rc f w (A9 _) (by rw[yB yR];exact i) b
  .rw[h,Bool.false_or]at i;refine s _ v2 rp rc f w (A9 _) ?_ b;have e:decide ((v2.row.length:Int)>0)=decide (v2.row.length>0):=by rw[Bool.eq_iff_iff,yJ,yJ];omega
   rw[e];by_cases I:decide (v2.row.length>0)=A7;.rw[yB I]at i⊢;exact i
   .rw[yA I]at i⊢;exact An i
def q3d(b:v.b.P.ends.length<=1000000)(h:St W (wld [] c P x q rp rc v F) w):qb Zp 11 #[qc x] w λr w'=>r=Zi Zk ((qw4 v.b.P).length:Nat)/\St W (wld [] c P x q rp rc v F) w':=
 F11_of (z7 (z0n 0 h yR yR ((qdo b (zf 1 0 h yR)).of λr w ⟨p,d,a,h⟩=>⟨_,_,_,a,rfl,zf 0 1 h.drop yR⟩)))
end
end
section
section
variable{W w:World}{F l:List Asn}{c:qy}{P:qe1}{x b:Nat}{q:qb5}{rp:Option Addr}{rc n:Nat}{v v':Wd}{L:qn}{d:q81}{e:EvD}{out:qra}
def qvi(P:qe1)(g:AG)(b:Nat):(qo3 P g b).2.length<=2:=by
 unfold qo3;split;.simp
 .simp[qp4]
def qhu(P:qe1)(g:AG)(now:Int)(b:Nat):(qd3 P g now b).2.length<=2:=by
 unfold qd3;split;.exact qvi P g b
 .split;.simp
  .simp
def qft(m:ql1 F c)(s:qj6 c=A7)(t:qv8 P)(k:Wd.new c n P (Bk.new c)=A2 v')(b:St W F w):
 qb Zp 23 #[Zg (qx3 c).toArray,Zg #[Zs P.ten,Zs P.tok,Zs P.sec,Zs P.nam,Zi Zk P.ttl,Zi Zk P.every]] w λr w'=>∃x q rp rc,r=qc x/\St W (wld [] c P x q rp rc v' F) w':=by
 unfold Wd.new at k;cases hd:Wd.does c n ⟨Bk.new c,(qo3 P ⟨A0,0,0,1,[]⟩ 0).1,[],[],[],e0⟩ (qo3 P ⟨A0,0,0,1,[]⟩ 0).2 with
 |none=>rw[hd]at k;cases k
 |some v1=>
 rw[hd]at k;dsimp only at k;refine F23_of (zh b λj w b=>zh b λf w b=>?_);refine z8 1 b yR yR (z8 1 b yR yR (z8 1 b yR yR (z8 1 b yR yR (zt 1 b yR yR ((qwt ((m.cons _).cons _) b).of λr w h=>?_)))));rcases h with ⟨h,_⟩|⟨_,bx,p,rfl,b⟩
 .rw[s]at h;cases h
 have b:=qb2.shut b;refine⟨_,rfl,zn yR (zg 1 b yR yR (zg 1 b yR yR (zg 1 b yR yR (zg 1 b yR yR (z8 1 b yR yR (z8 1 b yR yR ((qrq P t b).of λr w ⟨a,i,b⟩=>⟨_,i,?_⟩)))))))⟩;refine qs5.f (ν:=Nat) (Zi Zk) qc b λml w b=>qs5.f (ν:=q81) (Zi Zk) qr1 b λms w b=>zh b λx w b=>?_;have b:St W (Row x 81 (qb8 ⟨bx,a,ml,ms,p⟩ A1 0 0 e0)::qg (Zi Zk) qr1 ms ([]:List (Int×q81))::qg (Zi Zk) qc ml ([]:List (Int×Nat))::AgW a P ⟨A0,0,0,1,[]⟩::qb2 c bx p (Bk.new c)::Row f 69 [Zs P.ten,Zs P.tok,Zs P.sec,Zs P.nam,Zi Zk P.ttl,Zi Zk P.every]::Row j 44 (qx3 c)::F) w:=b;refine z0n 0 b yR yR ((qeo (zf 3 0 b yR)).of λr w ⟨ap,ac,i,b⟩=>⟨_,_,_,i,?_⟩);have d:=qvi P ⟨A0,0,0,1,[]⟩ 0;generalize qo3 P ⟨A0,0,0,1,[]⟩ 0=sp at hd b d⊢;obtain⟨g,e⟩:=sp;dsimp only at hd b d⊢;have b:=q51.nil 38 4 A1 b;have b:St W (qg (Zi Zk) qc ml (qx (Ad (α:=Nat) (β:=qn)) ([]:List (Int×Nat×qn)))::qz (([]:List (Int×Nat×qn)).map λy=>qp1 y.2.1 y.2.2)::Row x 81 (qb8 ⟨bx,a,ml,ms,p⟩ A1 0 0 e0)::qb2 c bx p (Bk.new c)::AgW a P g::q51 38 4 A1 0 0 []::qg (Zi Zk) qr1 ms ([]:List (Int×q81))::qm2 ap ac e::Row f 69 [Zs P.ten,Zs P.tok,Zs P.sec,Zs P.nam,Zi Zk P.ttl,Zi Zk P.every]::Row j 44 (qx3 c)::F) w:=
  zf 0 1 (zj (l:=[]) (zl 9 [5,3,6,2,0,4,1,7,8] b yR)) yR
 have b:=qx1.shut (o:=[]) (Ls:=[]) yR (by simp) b;have b:St W (wld [] c P x ⟨bx,a,ml,ms,p⟩ A1 0 ⟨Bk.new c,g,[],[],[],e0⟩ (qm2 ap ac e::Row f 69 [Zs P.ten,Zs P.tok,Zs P.sec,Zs P.nam,Zi Zk P.ttl,Zi Zk P.every]::Row j 44 (qx3 c)::F)) w:=zf 0 3 b yR;refine(qbj (ap:=ap) (ac:=ac) (((m.cons _).cons _).cons _) (z0e _) (by omega) hd b).of λr w ⟨i,rp,rc,b⟩=>⟨i,?_⟩;refine(q5m (((m.cons _).cons _).cons _) k b).of λr w ⟨i,rp,rc,b⟩=>⟨i,x,⟨bx,a,ml,ms,p⟩,rp,rc,rfl,?_⟩;exact((b.del 6 yR).del 6 yR).del 6 yR
def q5v(v:Wd):v.outs.length=v.S.length:=by unfold Wd.outs;rw[Aa,(qv1 leI _).length_eq,Aa]
set_option maxHeartbeats 2000000 in
def qy8(hO:ql1 F c)(hn: -9223372036854775808<=e.n/\e.n<=9223372036854775807)(A:v.step c n P e=A2 (v',out))(a:St W (wld [] c P x q rp rc v F) w):qb Zp 9 #[qc x,Zg (evV e).toArray] w λr w'=>
 ∃q' M L Z h0,r=Zg #[Zi Zk out.err,Zi Zk out.conn,Zi Zk out.took,Zl M out.sent.length L]/\St W (SlA 38 4 q21 M L out.sent::wld [] c P x q' Z h0 v' F) w':=by
 suffices hh:∀R:A6->A3->Prop,(∀r w',(∃q' M L Z h0,r=Zg #[Zi Zk out.err,Zi Zk out.conn,Zi Zk out.took,Zl M out.sent.length L]/\St W (SlA 38 4 q21 M L out.sent::wld [] c P x q' Z h0 v' F) w')->R r w')->qb Zp 9 #[qc x,Zg (evV e).toArray] w R from hh _ λ_ _ h=>h
 intro R hR;unfold Wd.step at A;obtain⟨bs,⟨hp,ho⟩,a⟩:=wld.open_ a;have J:(qe (qx (Ad (α:=Nat) (β:=qn)) bs) e.conn).isSome=(qe v.lines e.conn).isSome:=by rw[<-hp,q62,q62,As,As]
 refine F9_of (z0a 7 a λt w a=>z0a 8 a λl w a=>⟨StC W _,zd a,z7 ⟨_,z0b 0 ir yR yR,_,zi 7 ir yR yR,(qe (qx (Ad (α:=Nat) (β:=qn)) bs) e.conn).elim A1 (λb=>A2 ⟨b,0,A1⟩),_,(λG w hw=>qq1 kI q1j qwv q8x 3 hw yR e.conn A7 (by rw[yB yR,q5h];exact⟨_,_,rfl,rfl,hw⟩)),λG w h=>?_⟩⟩)
 have a:St W (wld [] c P x q rp rc v (evR t e::qb1 l 0 0 0::F)) w:=wld.shut hp ho (zb h);rw[J];clear h J hp ho;by_cases s:e.kind<1\/6<e.kind\/((qe v.lines e.conn).isSome=A7/\e.kind>=2/\e.kind<=5)
 .rw[yB s]at A;cases A;have X:∀w,St W (wld [] c P x q rp rc v (evR t e::qb1 l 0 0 0::F)) w->St1 (Za ⟨l,0,A1⟩ 0) (Zi Zk 1) w λw=>St1 (Za ⟨l,0,A1⟩ 1) (Zi Zk 0) w λw=>St1 (Za ⟨l,0,A1⟩ 2) (Zi Zk 0) w λw=>St1 (Za ⟨l,0,A1⟩ 3) (Zl A1 0 0) w λw=>
   LdI Zk (Za ⟨l,0,A1⟩ 0) w λr0=>LdI Zk (Za ⟨l,0,A1⟩ 1) w λr1=>LdI Zk (Za ⟨l,0,A1⟩ 2) w λr2=>LdL (Za ⟨l,0,A1⟩ 3) w λp n c=>R (Zg #[(Zi Zk r0),(Zi Zk r1),(Zi Zk r2),(Zl p n c)]) w:=λw a=>
   St1.zz 7 a yR λw a=>St1.zz 7 a yR λw a=>St1.zz 7 a yR λw a=>St1.zz 7 a yR λw a=>z8 7 a yR yR (z8 7 a yR yR (z8 7 a yR yR (zt 7 a yR yR (hR _ _ ⟨q,A1,0,rp,rc,rfl,z09 ((a.del 6 yR).del 6 yR)⟩))))
  refine⟨λ_ _=>False,z8 6 a yR yR (za (λC=>zm C (X w a)) λC=>z8 6 a yR yR (za (λE=>zm E (X w a)) λE=>za (λh3=>z8 6 a yR yR (za (λh4=>z8 6 a yR yR (za (λY=>X w a) λY=>?_)) λh4=>?_)) λh3=>?_)),λ_ h=>h.elim⟩;all_goals
   have C:=yD C;have E:=yD E
  .have Y:=yD Y;rcases s with s|s|s;.exact C s
   .exact E s
   .exact Y s.2.2
  .have h4:=yD h4;rcases s with s|s|s;.exact C s
   .exact E s
   .exact h4 s.2.1
  .rcases s with s|s|s;.exact C s
   .exact E s
   .rw[h3]at s;cases s.1
 rw[yA s]at A;refine⟨λ_ w=>St W (wld [] c P x q rp rc v (evR t e::qb1 l 0 0 0::F)) w,z8 6 a yR yR (za (λC=>yI (.inl (yC C)) s) λC=>z8 6 a yR yR (za (λE=>yI (.inr (.inl (yC E))) s) λE=>za (λh3=>z8 6 a yR yR (za (λh4=>z8 6 a yR yR (za (λY=>yI (.inr (.inr ⟨h3,yC h4,yC Y⟩)) s) λY=>a)) λh4=>a)) λh3=>a)),λw a=>?_⟩;cases hev:Wd.event c n { v with S:=[],draw:=e.draw} e with
 |none=>rw[hev]at A;cases A
 |some r1=>
 obtain⟨D,o⟩:=r1;rw[hev]at A;dsimp only at A;refine⟨StC W _,zd a,_,zu 6 ir yR yR,λN=>z7 ?_⟩;refine zk (α:=Unit) (V:=λ_=>Zt #[]) (B:=λ_=>wld [] c P x { q with ms:=N} rp rc { v with S:=[]} (evR t e::qb1 l 0 0 0::F)) () (ir.push N _) (λG w h=>?_) λ_=>⟨rfl,zu 6 ir yR yR,z7 (z0q 0 ir yR (by simp[qb8]) ⟨rfl,trivial,λG w h=>?_⟩)⟩
 .have a:=h.imp λH hp=>qg.of_pt (κ:=Int) (ν:=q81) (Zi Zk) qr1 hp;exact St1.zz 1 a yR λw a=>⟨(),rfl,zf 0 5 (a.del 6 yR) yR⟩
 have a:St W (wld [] c P x { q with ms:=N} rp rc { v with S:=[],draw:=e.draw} (evR t e::qb1 l 0 0 0::F)) w:=zb h;clear h;generalize ({ q with ms:=N}:qb5)=K at a;refine z8 6 a yR yR (z8 6 a yR yR (z8 6 a yR yR (zg 6 a yR yR (z8 6 a yR yR (zg 6 a yR yR (zg 6 a yR yR (zg 6 a yR yR ((qu7 ((hO.cons _).cons _) hn hev a).of λr w ⟨M,L,rp,rc,hr,a⟩=>⟨_,_,_,_,_,_,hr,?_⟩))))))));have a:=a.drop;refine z0a 6 a λu w a=>St1.zz 6 a yR λw a=>St1.zz 6 a yR λw a=>St1.zz 6 a yR λw a=>St1.zz 6 a yR λw a=>z8 6 a yR yR (za (λh=>?_) λh=>?_)
 .rw[yB (by simpa using h)]at A;cases A;refine z8 6 a yR yR (St1.zz 8 a yR λw a=>St1.zz 8 a yR λw a=>St1.zz 8 a yR λw a=>St1.zz 8 a yR λw a=>z8 8 a yR yR (z8 8 a yR yR (z8 8 a yR yR (zt 8 a yR yR (hR _ _ ⟨K,A1,0,rp,rc,rfl,z09 (((a.del 6 yR).del 6 yR).del 6 yR)⟩)))))
 have herr:o.err=0:=by simpa using h
 rw[yA (by simpa using h)]at A;have a:St W (wld [] c P x K rp rc D (Row u 32 [Zi Zk o.err,Zi Zk o.conn,Zi Zk o.took,Zl M o.sent.length L]::evR t e::qb1 l 0 0 0::F)) w:=a;rw[herr]at a;clear h;cases hd:(if e.kind=6 then Wd.does c n { D with g:=(qd3 P D.g D.b.K.now 0).1} (qd3 P D.g D.b.K.now 0).2 else A2 D)with
 |none=>rw[hd]at A;cases A
 |some v2=>
 rw[hd]at A;dsimp only at A;cases hrn:v2.run c n P n with
 |none=>rw[hrn]at A;cases A
 |some v3=>
 rw[hrn]at A;dsimp only at A;by_cases hl:1000000<v3.S.length;.rw[yB hl]at A;cases A
 rw[yA hl]at A;cases A;refine z8 7 a yR yR ⟨λ_ w=>∃rp rc,St W (wld [] c P x K rp rc v2 (Row u 32 [Zi Zk 0,Zi Zk o.conn,Zi Zk o.took,Zl M o.sent.length L]::evR t e::qb1 l 0 0 0::F)) w,za (λh=>?_) λh=>?_,λw hJ=>?_⟩
 .rw[yB (by simpa using h)]at hd;refine⟨StC W _,zd a,z7 (z7 ⟨_,zo 0 ir yR yR,_,zo 0 ir yR yR,?_⟩)⟩;refine z05 1 ir yR (λG w h=>qxj h) (λ_ _ h=>⟨_,rfl,h⟩) ⟨_,rfl,zo 0 ir yR yR,?_⟩;refine Ef.sl 2 ir yR (λG w h=>qpr D.b.K.now h) (λ_ _ _ _ h=>⟨_,_,_,rfl,h⟩) λap ac=>⟨_,_,_,rfl,trivial,?_⟩;have T:=qhu P D.g D.b.K.now 0;generalize qd3 P D.g D.b.K.now 0=tp at hd T⊢;obtain⟨g',acts⟩:=tp;dsimp only at hd T⊢;refine zk (α:=Option A5×Nat) (V:=λ_=>Zt #[]) (B:=λy=>wld [] c P x K y.1 y.2 v2 (Row u 32 [Zi Zk 0,Zi Zk o.conn,Zi Zk o.took,Zl M o.sent.length L]::evR t e::qb1 l 0 0 0::F)) (A1,0) ir (λG w h=>?_) λy=>⟨rfl,trivial,λG w h=>⟨y.1,y.2,zb h⟩⟩;have C:St W (wld [] c P x K rp rc { D with g:=g'} (qm2 ap ac acts::Row u 32 [Zi Zk 0,Zi Zk o.conn,Zi Zk o.took,Zl M o.sent.length L]::evR t e::qb1 l 0 0 0::F++pts G)) w:=zf 0 6 h yR;exact(qbj (ap:=ap) (ac:=ac) (((((hO.app (pts G)).cons _).cons _).cons _).cons _) (z0e _) (by omega) hd C).of λr w ⟨hv,rp,rc,a⟩=>⟨hv,(rp,rc),rfl,a.del 6 yR⟩
 .rw[yA (by simpa using h)]at hd;cases hd;exact⟨rp,rc,a⟩
 clear a;obtain⟨rp,rc,a⟩:=hJ;refine(q5m (((hO.cons _).cons _).cons _) hrn a).of λr w ⟨hv,rp,rc,a⟩=>⟨hv,St1.zz 6 a yR λw a=>z7 (zv 0 a yR yR (qkn (by omega) 5 a yR λp3 c3 w a=>⟨_,_,_,rfl,?_⟩))⟩;have hol:=q5v v';have Q:(q91 leI (v'.S.map (·.1))).length=v'.S.length:=by rw[(qv1 leI _).length_eq,Aa]
 have h6:v'.outs=(q91 leI (v'.S.map (·.1))).map λid=>(qe v'.S id).getD q93:=rfl;generalize q91 leI (v'.S.map (·.1))=ids at a Q h6;rw[<-Q]at a⊢;generalize hS2:v'.outs=os at hR h6 hol;obtain⟨z,hz,hzs⟩:=qkw;have a:St W (wld [] c P x K rp rc v' (qi 3 1 p3 ids.length c3 (ids.map (Zi Zk))::Row u 32 [Zi Zk 0,Zi Zk o.conn,Zi Zk o.took,Zl A1 (os.take 0).length 0]::evR t e::qb1 l 0 0 0::SlA 38 4 q21 A1 0 (os.take 0)::F)) w:=zf 0 10 (z09 (zf 0 6 a yR)) yR;refine qt3 (λn vs w=>∃(k:Nat) (U:Option A5) (O:Nat),k+n=ids.length/\vs=[Zi Zk (k:Int)]/\St W (wld [] c P x K rp rc v' (qi 3 1 p3 ids.length c3 (ids.map (Zi Zk))::Row u 32 [Zi Zk 0,Zi Zk o.conn,Zi Zk o.took,Zl U (os.take k).length O]::evR t e::qb1 l 0 0 0::SlA 38 4 q21 U O (os.take k)::F)) w) λμ C E=>⟨⟨ids.length,0,A1,0,by omega,rfl,a⟩,λj w hI=>?_⟩;clear a;obtain⟨k,U,O,s,he,a⟩:=E _ _ hI;generalize μ _ _=m at s⊢;cases he;refine za (λh=>?_) λh=>?_
 .have hlt:k<ids.length:=by have:=yC h;omega
  have hx:=List.getElem?_eq_getElem hlt;generalize ids[k]=y at hx;have hoy:os[k]?=A2 ((qe v'.S y).getD q93):=by rw[h6,Au,hx];rfl
  have het:os.take (k+1)=os.take k++[(qe v'.S y).getD q93]:=by rw[List.take_add_one,hoy];rfl
  refine z0l (z04 6 yR λF=>z0k F) a yR hlt (v:=Zi Zk y) (by rw[Au,hx];rfl) λad ha=>zq ha ⟨StC W _,zd a,z7 ⟨_,_,_,QtL.a 7 ir yR yR,_,z0b 0 ir yR yR,_,_,_,_,(λG w hw=>qq1 kI uMs iSe zSe 5 hw yR y A0 (by rw[yA (by simp),qre];exact⟨_,_,_,_,rfl,rfl,hw⟩)),λI=>?_⟩⟩;generalize (qe v'.S y).getD q93=d at het;have hle:=List.length_take_le k os;have hbd:((os.take k).length+[d].length)*Tryz.t38.bytes<=140737488355328:=by have:=bSe;simp only[Ak,Ay];exact Nat.le_trans (Nat.mul_le_mul_left _ this) (by omega)
  have hbn:(os.take k).length+[d].length<=9223372036854775807:=by simp only[Ak,Ay];omega
  refine zk (α:=Option A5×Nat) (V:=λy=>.slice y.1 (os.take k++[d]).length y.2) (B:=λy=>Row I 38 (q21 d)::wld [] c P x K rp rc v' (qi 3 1 p3 ids.length c3 (ids.map (Zi Zk))::Row u 32 [Zi Zk 0,Zi Zk o.conn,Zi Zk o.took,Zl U (os.take k).length O]::evR t e::qb1 l 0 0 0::SlA 38 4 q21 y.1 y.2 (os.take k++[d])::F)) (A1,0) (ir.push I _) (λG w h=>?_) λy=>⟨_,_,_,rfl,trivial,?_⟩
  .have a:=h.imp z0d;have key:=λFF hb h63=>qf3 (P:=Zp) (ty:=30) (F:=FF) (sT:=30) (xT:=30) (m:=1) (sc:=1) (sp:=A2 ⟨I,0,A1⟩) (f:=q21) (os:=os.take k) (xs:=[d]) q89 qlj (.inr ⟨_,qlj⟩) iSe sSe hz hzs 11 a yR (z0t 0 λi v h=>by rw[Nat.zero_add];simp only[Ar,List.flatMap_nil,List.append_nil]at h;exact h) yR qkm hb h63;exact key _ hbd hbn λp4 c4 w a=>⟨_,_,_,rfl,(p4,c4),rfl,a⟩
  .refine z0q 8 ir yR (by simp) ⟨rfl,trivial,λG w h=>?_⟩;have hI':∃(k':Nat) (U:Option A5) (O:Nat),k'+(m - 1)=ids.length/\[Zi Zk (Zw Zk ((k:Int)+1))]=[Zi Zk (k':Int)]/\St W (wld [] c P x K rp rc v' (qi 3 1 p3 ids.length c3 (ids.map (Zi Zk))::Row u 32 [Zi Zk 0,Zi Zk o.conn,Zi Zk o.took,Zl U (os.take k').length O]::evR t e::qb1 l 0 0 0::SlA 38 4 q21 U O (os.take k')::F)) w:=⟨k+1,y.1,y.2,by omega,by rw[up hlt (by omega)],by rw[het];exact(zb h).drop⟩;exact⟨⟨_,hI'⟩,Ac (C _ _ _ hI') (by omega)⟩
 have hk2:os.take k=os:=List.take_of_length_le (by have:=yD h;omega);rw[hk2]at a;refine z8 7 a yR yR (z8 7 a yR yR (z8 7 a yR yR (zt 7 a yR yR ?_)));refine St1.zz 9 a yR λw a=>St1.zz 9 a yR λw a=>St1.zz 9 a yR λw a=>St1.zz 9 a yR λw a=>?_;refine z8 9 a yR yR (z8 9 a yR yR (z8 9 a yR yR (zt 9 a yR yR (hR _ _ ⟨K,U,O,rp,rc,rfl,?_⟩))));exact zf 6 0 ((((a.del 6 yR).del 6 yR).del 6 yR).del 6 yR) yR
end
end
section
def qez:ByteArray:=⟨#[97,110,110]⟩
def nbob:ByteArray:=⟨#[98,111,98]⟩
def nk:ByteArray:=⟨#[107]⟩
def qnw:ByteArray:=⟨#[119,101,98]⟩
def PP:qe1:=⟨qez,nk,⟨#[115]⟩,qnw,50,10⟩
def qy3(a b c d:Nat):qy:=⟨20,5,30,50,A2 ⟨d,0,A1⟩,2,[⟨qez,2,3,A1,0,[],A2 ⟨a,0,A1⟩,1,[⟨nk,⟨#[115]⟩,1000⟩]⟩,⟨nbob,1,1,A2 ⟨b,0,A1⟩,1,[(167772160,8)],A2 ⟨c,0,A1⟩,1,[⟨nk,⟨#[116]⟩,40⟩]⟩]⟩
@[reducible] def qie (a b c d:Nat) (F:List Asn):List Asn:=Row d 112 ((qy3 a b c d).tens.flatMap q43)::Row c 114 (q44 ⟨nk,⟨#[116]⟩,40⟩)::Row b 132 (qje (167772160,8))::Row a 114 (q44 ⟨nk,⟨#[115]⟩,1000⟩)::F
def evk(k conn addr:Int)(b:ByteArray)(n:Int)(draw:ByteArray):EvD:=⟨k,conn,addr,b,n,e0,e0,draw⟩
def qsr:ByteArray:=⟨#[100,114,97,119]⟩
def qzu:ByteArray:=mkS (Fr.putP (q0d ⟨14,qnw,e0,0,0⟩))
def q16(c:qy)(n:Nat)(P:qe1)(v:Wd)(credit:Int):Option (Wd×Int):=
 match v.step c n P (evk 1 0 9 e0 0 e0)with
 |none=>A1
 |some (w,h)=>match w.step c n P (evk 3 h.conn 0 e0 credit e0)with
  |none=>A1
  |some (v2,_)=>if 1000000<v2.b.P.ends.length then A1 else match v2.step c n P (evk 2 h.conn 0 qzu 0 qsr)with
   |none=>A1
   |some (v3,_)=>if 1000000<v3.b.P.ends.length then A1 else A2 (v3,if(qw4 v3.b.P).length≠(qw4 v2.b.P).length+1 then 0 else h.conn)
section
variable{W w:World}{F l:List Asn}{c:qy}{P:qe1}{x:Nat}{q:qb5}{rp:Option Addr}{rc n:Nat}{v v':Wd}
def q3n{a b c d:Nat}(e:qc4 F):ql1 (qie a b c d F) (qy3 a b c d) where
 tr:=z04 0 yR λF=>z0m
 tl:=Aj _
 tb:=A4 yR
 ok:=λt w=>by
  simp only[qy3,Ae,A8,yK]at w;rcases w with rfl|rfl
  .exact⟨Rd.nil _ _,Aj _,A4 yR,z04 3 yR λF=>z0m,Aj _,A4 yR,λy h=>by simp only[Ah]at h;subst h;decide⟩
  .exact⟨z04 2 yR λF=>z0m,Aj _,A4 yR,z04 1 yR λF=>z0m,Aj _,A4 yR,λy h=>by simp only[Ah]at h;subst h;decide⟩
 tab:=(((e.cons _).cons _).cons _).cons _
def qhv(h:St W F w):qb Zp 24 #[] w λr w'=>∃a b c d,r=Zg (qx3 (qy3 a b c d)).toArray/\St W (qie a b c d F) w':=by refine F24_of (zh h λe w h=>zh h λa w h=>zh h λb w h=>zh h λc w h=>zh h λd w h=>?_);refine St1.zz 4 h yR λw h=>St1.zz 4 h yR λw h=>St1.zz 4 h yR λw h=>St1.zz 4 h yR λw h=>St1.zz 4 h yR λw h=>?_;exact z8 4 h yR yR (z8 4 h yR yR (z8 4 h yR yR (z8 4 h yR yR (zt 4 h yR yR ⟨a,b,c,d,rfl,h.del 4 yR⟩))))
def qer(h:St W F w):qb Zp 25 #[] w λv w'=>v=Zg #[Zs PP.ten,Zs PP.tok,Zs PP.sec,Zs PP.nam,Zi Zk PP.ttl,Zi Zk PP.every]/\St W F w':=by refine F25_of (zh h λa w h=>St1.zz 0 h yR λw h=>St1.zz 0 h yR λw h=>St1.zz 0 h yR λw h=>St1.zz 0 h yR λw h=>St1.zz 0 h yR λw h=>St1.zz 0 h yR λw h=>?_);exact zg 0 h yR yR (zg 0 h yR yR (zg 0 h yR yR (zg 0 h yR yR (z8 0 h yR yR (z8 0 h yR yR ⟨rfl,h.drop⟩)))))
def qoo(m:qk1)(h:St W F w):qb Zp 27 #[ql2 m] w λv w'=>v=Zs (mkS (Fr.putP (q0d m)))/\St W F w':=by refine F27_of (zh h λc w h=>z8 0 h yR yR (zg 0 h yR yR (zg 0 h yR yR (z8 0 h yR yR (z8 0 h yR yR ((q1f m h).of λv w ⟨p,d,a,h⟩=>⟨_,_,_,a,(Fr.Put_spec (z0k _) yR h).of λv w ⟨e,b,a,h⟩=>⟨_,_,_,a,?_⟩⟩))))));exact qbi uB uU8 uS h (z0k _) yR ⟨_,rfl,rfl,h.drop.drop.drop⟩
def qdk{vf:Nat->Nat->Nat->Nat->Wd}(g:qc4 F)(f:∀a b c d,Wd.new (qy3 a b c d) n PP (Bk.new (qy3 a b c d))=A2 (vf a b c d))(h:St W F w):qb Zp 7 #[] w λr w'=>∃a b c d x q rp rc,r=qc x/\St W (wld [] (qy3 a b c d) PP x q rp rc (vf a b c d) (qie a b c d F)) w':=by refine F7_of ((qhv h).of λr w ⟨a,b,c,d,e,h⟩=>⟨_,_,_,_,_,_,_,e,(qer h).of λr w ⟨e,h⟩=>⟨_,_,_,_,_,_,e,?_⟩⟩);exact(qft (q3n g) (by kernel_rfl) (by unfold qv8;decide) (f a b c d) h).of λr w ⟨x,q,rp,rc,e,h⟩=>⟨_,e,a,b,c,d,x,q,rp,rc,rfl,h⟩
def qyj(P:qd6):(qw4 P).length<=P.ends.length:=by unfold qw4;rw[(qv1 leI _).length_eq,Aa];exact List.length_filter_le _ _
def qvu{id:Int}{s:ByteArray}{out:qra}(j:ql1 F c)(g:v.step c n P (evk 2 id 0 s 0 qsr)=A2 (v',out))(h:St W (wld [] c P x q rp rc v F) w):qb Zp 26 #[qc x,Zi Zk id,Zs s] w λr w'=>
 ∃f e d a b,r=Zg #[Zi Zk out.err,Zi Zk out.conn,Zi Zk out.took,Zl e out.sent.length d]/\St W (SlA 38 4 q21 e d out.sent::wld [] c P x f a b v' F) w':=by
 refine F26_of (z0a 6 h λk w h=>(qy8 (j.cons _) ⟨by show(-9223372036854775808:Int)<=0;decide,by show(0:Int)<=9223372036854775807;decide⟩ g h).of λr w ⟨f,e,d,a,b,i,h⟩=>⟨_,_,_,_,_,_,i,?_⟩);refine St1.zz 7 h yR λw h=>St1.zz 7 h yR λw h=>St1.zz 7 h yR λw h=>St1.zz 7 h yR λw h=>?_;exact z8 7 h yR yR (z8 7 h yR yR (z8 7 h yR yR (zt 7 h yR yR ⟨f,e,d,a,b,rfl,h.del 7 yR⟩)))
def qbb{credit id:Int}(A: -9223372036854775808<=credit/\credit<=9223372036854775807)(k:ql1 F c)(b:q16 c n P v credit=A2 (v',id))(a:St W (wld [] c P x q rp rc v F) w):qb Zp 8 #[qc x,Zi Zk credit] w λr w'=>
 r=Zi Zk id/\∃q rp rc,St W (wld [] c P x q rp rc v' F) w':=by
 unfold q16 at b;cases h1:v.step c n P (evk 1 0 9 e0 0 e0)with
 |none=>rw[h1]at b;cases b
 |some r1=>
 obtain⟨E,d⟩:=r1;rw[h1]at b;dsimp only at b;cases h2:E.step c n P (evk 3 d.conn 0 e0 credit e0)with
 |none=>rw[h2]at b;cases b
 |some r2=>
 obtain⟨v2,L⟩:=r2;rw[h2]at b;dsimp only at b;by_cases e:1000000<v2.b.P.ends.length;.rw[yB e]at b;cases b
 rw[yA e]at b;cases h3:v2.step c n P (evk 2 d.conn 0 qzu 0 qsr)with
 |none=>rw[h3]at b;cases b
 |some r3=>
 obtain⟨v3,i⟩:=r3;rw[h3]at b;dsimp only at b;by_cases f:1000000<v3.b.P.ends.length;.rw[yB f]at b;cases b
 rw[yA f]at b;cases b;have J: -9223372036854775808<=(0:Int)/\(0:Int)<=9223372036854775807:=⟨by decide,by decide⟩;refine F8_of ((qy8 k J h1 a).of λr w ⟨q,H,z,rp,rc,g,a⟩=>⟨_,_,_,_,_,_,g,?_⟩);refine z0a 6 a.drop λp w a=>St1.zz 6 a yR λw a=>St1.zz 6 a yR λw a=>St1.zz 6 a yR λw a=>St1.zz 6 a yR λw a=>z8 6 a yR yR ?_;refine(qy8 (k.cons _) A h2 a).of λr w ⟨q,D,K,rp,rc,g,a⟩=>⟨_,_,_,_,_,_,g,?_⟩;refine(q3d (by omega) a.drop).of λr w ⟨m,a⟩=>⟨_,m,?_⟩;refine⟨StC W _,zd a,_,zi 6 ir yR yR,?_⟩;refine Ef.al ir (λG w h=>qoo ⟨14,qnw,e0,0,0⟩ h) (λ_ _ h=>⟨_,rfl,h⟩) ⟨_,rfl,zi 6 ir yR yR,?_⟩;refine zk (α:=(Option A5×Nat)×(qb5×Option A5×Nat)) (V:=λy=>Zg #[Zi Zk i.err,Zi Zk i.conn,Zi Zk i.took,.slice y.1.1 i.sent.length y.1.2]) (B:=λy=>wld [] c P x y.2.1 y.2.2.1 y.2.2.2 v' (Row p 32 [Zi Zk d.err,Zi Zk d.conn,Zi Zk d.took,Zl H d.sent.length z]::F)) ((A1,0),(q,A1,0)) ir (λG w h=>?_) λy=>⟨_,_,_,_,_,_,rfl,trivial,λG w h=>?_⟩
 .exact(qvu ((k.app (pts G)).cons _) h3 h).of λr w ⟨C,o,s,j,l,g,a⟩=>by subst g;exact⟨_,_,_,_,_,_,rfl,((o,s),(C,j,l)),rfl,a.drop⟩
 have a:=zb h;clear h;have I:=qyj v2.b.P;have t:=qyj v'.b.P;have u:Zw Zk (((qw4 v2.b.P).length:Nat)+1:Int)=((qw4 v2.b.P).length+1:Nat):=by rw[w64];omega
 refine(q3d (by omega) a).of λr w ⟨m,a⟩=>⟨_,m,?_⟩;rw[u];refine za (λh=>?_) λh=>?_
 .have h:¬(((qw4 v'.b.P).length:Nat):Int)=((qw4 v2.b.P).length+1:Nat):=by simpa using h
  rw[yB (by omega)];exact⟨rfl,y.2.1,y.2.2.1,y.2.2.2,a.del 6 yR⟩
 .have h:(((qw4 v'.b.P).length:Nat):Int)=((qw4 v2.b.P).length+1:Nat):=by simpa using h
  rw[yA (by omega)];exact z8 6 a yR yR ⟨rfl,y.2.1,y.2.2.1,y.2.2.2,a.del 6 yR⟩
end
end
section
def w0W(a b c d:Nat):Option Wd:=Wd.new (qy3 a b c d) 64 PP (Bk.new (qy3 a b c d))
def hdW(a b c d:Nat):Option (Int×qra):=match w0W a b c d with
 |none=>A1
 |some v=>match q16 (qy3 a b c d) 64 PP v 9 with
  |none=>A1
  |some (h,id)=>match h.step (qy3 a b c d) 64 PP (evk 2 id 0 ⟨#[97,98]⟩ 0 e0)with
   |none=>A1
   |some (_,o)=>A2 (id,o)
def q6z(a b c d:Nat):Bool:=match hdW a b c d with
 |none=>A0
 |some (id,o)=>decide (id>0)&&decide (o.sent=[⟨id,⟨#[97,98]⟩,A0,A0⟩])
set_option maxRecDepth 1000000 in
def qe01(a b c d:Nat):q6z a b c d=A7:=by kernel_rfl
section
variable{W w:World}{F l:List Asn}
def qyu(u:qc4 F)(e:St W F w):qb Zp 6 #[] w λr w'=>r=Zb A7/\St W F w':=by
 have y:∀a b c d,∃v i id v2 o,w0W a b c d=A2 v/\q16 (qy3 a b c d) 64 PP v 9=A2 (i,id)/\i.step (qy3 a b c d) 64 PP (evk 2 id 0 ⟨#[97,98]⟩ 0 e0)=A2 (v2,o)/\id>0/\o.sent=[⟨id,⟨#[97,98]⟩,A0,A0⟩]:=λa b c d=>by
  have h:=qe01 a b c d;unfold q6z hdW at h;cases f:w0W a b c d with
  |none=>rw[f]at h;cases h
  |some v=>
  rw[f]at h;dsimp only at h;cases j:q16 (qy3 a b c d) 64 PP v 9 with
  |none=>rw[j]at h;cases h
  |some r1=>
  obtain⟨i,id⟩:=r1;rw[j]at h;dsimp only at h;cases g:i.step (qy3 a b c d) 64 PP (evk 2 id 0 ⟨#[97,98]⟩ 0 e0)with
  |none=>rw[g]at h;cases h
  |some r2=>
  obtain⟨v2,o⟩:=r2;rw[g]at h;simp only[Bool.and_eq_true,yJ]at h;exact⟨v,i,id,v2,o,rfl,j,g,h.1,h.2⟩
 refine F6_of ((qdk (n:=64) (vf:=λa b c d=>(w0W a b c d).getD ⟨Bk.new (qy3 a b c d),⟨A0,0,0,1,[]⟩,[],[],[],e0⟩) u (λa b c d=>by obtain⟨v,_,_,_,_,f,_⟩:=y a b c d;rw[f];exact f) e).of λr w ⟨a,b,c,d,x,q,m,p,s,e⟩=>⟨_,s,zn yR ?_⟩)
 obtain⟨v,i,id,v2,o,f,j,g,A,B⟩:=y a b c d;rw[f]at e;have e:St W (wld [] (qy3 a b c d) PP x q m p v (qie a b c d F)) w:=e;have t:=q3n (a:=a) (b:=b) (c:=c) (d:=d) u;generalize qy3 a b c d=cc at t e j g;refine(qbb ⟨by decide,by decide⟩ t j e).of λr w ⟨s,q,m,p,e⟩=>⟨_,s,?_⟩;refine(qy8 t ⟨by show(-9223372036854775808:Int)<=0;decide,by show(0:Int)<=9223372036854775807;decide⟩ g e).of λr w ⟨q,E,D,m,p,C,e⟩=>⟨_,_,_,_,_,_,C,?_⟩;rw[B]at e⊢;refine zh e λz w e=>St1.zz 0 e yR λw e=>St1.zz 0 e yR λw e=>St1.zz 0 e yR λw e=>St1.zz 0 e yR λw e=>zm (yG A) (zt 0 e yR yR (zm yR (zt 0 e yR yR ?_)));refine z0f (x:=(⟨id,⟨#[97,98]⟩,A0,A0⟩:q81)) (k:=0) q89 (by decide) (z04 1 yR λF=>z0e F) e yR (by simp) yR λad l=>zq (l 0 _ rfl) (z0i (l 1 _ rfl) (LdB.at (l 2 _ rfl) (LdB.at (l 3 _ rfl) ⟨_,λw=>q8u ⟨id,⟨#[97,98]⟩,A0,A0⟩ ⟨id,⟨#[97,98]⟩,A0,A0⟩ w,_,rfl,?_⟩)));refine⟨by rw[yG yR],?_⟩;exact z0h [_,_,_,_,_,_,_,_,_,_,_,_] e
end
end
end Go.Proofs.YtfjifcfbmhpcaaaGreatDoor
