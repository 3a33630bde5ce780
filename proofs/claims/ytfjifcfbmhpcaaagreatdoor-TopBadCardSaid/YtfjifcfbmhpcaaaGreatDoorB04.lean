/-
  A part of the proof of TopBad.
-/
import Derived.Test.YtfjifcfbmhpcaaaGreatDoorB02
import Derived.Test.YtfjifcfbmhpcaaaGreatDoorB03
import Derived.Test.YtfjifcfbmhpcaaaGreatDoorProg
import Derived.Test.YtfjifcfbmhpcaaaGreatDoorB00
set_option linter.all false
namespace Go.Proofs.YtfjifcfbmhpcaaaGreatDoor
open Go
open Go.Proofs.Tryz renaming prog → Zp
open Go.IntKind renaming i64 → Zk, wrap → Zw
open Go renaming Value->A0,World->A7,Addr->A8
open Go.Instr renaming extract->A1
open Go.Value renaming cells->A2
open _root_.Nat renaming beq->A3
open _root_.Option renaming some->A4,none->A6
open _root_.List renaming toArray->A5
section
set_option maxRecDepth 100000
namespace Nr
def rowF(P:Program)(t:TypeId)(len:Nat)(h:List (Nat×A0))(F:Obj->(Nat->A0)->Prop):Prop:=match P.underlying t with
 |some (.slice el)=>match P.info? el with
  |some i=>match i.zero,Nat.ble (len*i.size) 4096 with
   |some z,true=>match Instr.fill (λj=>A4 (j*i.size,i.size)) ((Array.range (len*i.size)).map (z.cells[· %z.cells.size]!)) h with
    |some cells=>F (.cells cells el) λb=>.slice (A4 ⟨b,0,A6⟩) len len
    |none=>False
   |_,_=>False
  |none=>False
 |_=>False
section
variable{P:Program}{n f:Nat}{rec:RecE}{c:S}{r:List S}{a b x1:AE}{Q:qh4}{e:Env}{w:World}{k:Nat}{sl:List (Nat×Ty)}{od:List (Nat×Bool×Nat)}{x y z:Operand}{K:Value->World->Prop}{KV:Value->Prop}{d:Option Nat}{ty t:Nat}{p:String}{af:Array Edge}{g:Option (Nat×Bool)}{L rs:List Oper}{KE:Env->World->Prop}{v:Value}{s i j:Nat}{bl want:Bool}{A B:Prop}{o:Oper}{st:StepT}{dr:Nat}{eff:Bool}{pend:qc1}{C:Cls}{next:qc1->Env->Cls->Prop}{l m:List S}{id:Nat}{op:Op}
def fl_seq(a b:Code):fl (.seq a b)=fl a++fl b:=rfl
def fl_reg(i l d):fl (.region i (A5 l) d)=[.reg l d]:=rfl
def fl_cond(i o d):fl (.cond i o d)=[.cond i (fl o) (fl d)]:=rfl
def fl_block(i o):fl (.block i o)=[.block i (fl o)]:=rfl
def fl_loop(i):fl (.loop i)=[.loop (fl i)]:=rfl
def fl_exit(i):fl (.exit i)=[.exit i]:=rfl
def fl_ret:fl .ret=[.ret]:=rfl
def fl_skip:fl .skip=[.skip]:=rfl
def n_nil0:nl P n (f+1) [] .nil Q e w=Q .normal e w:=rfl
def n_nil1:nl P n (f+1) [] (.step a b x1) Q e w=Q .normal e w:=rfl
def n_skip0:nl P n (f+1) (.skip::r) .nil Q e w=nl P n f r .nil Q e w:=rfl
def n_skip1:nl P n (f+1) (.skip::r) (.step a b x1) Q e w=nl P n f r x1 Q e w:=rfl
def n_reg0:nl P n (f+1) (.reg L false::r) .nil Q e w=opsE P n L L e w λe' w'=>nl P n f r .nil Q e' w':=rfl
def n_reg1:nl P n (f+1) (.reg L false::r) (.step a b x1) Q e w=opsE P n L L e w λe' w'=>nl P n f r x1 Q e' w':=rfl
def n_dr:nl P n (f+1) (.reg L true::r) (.draw od x1) Q e w=∃C:Cls,C.p [] w/\drawE stepE P n L (λe' w'=>nl P n f r x1 Q e' w') od [] e C:=rfl
def n_dr2:nl P n (f+1) (.reg L true::r) (.draw2 od x1) Q e w=∃C:Cls,C.p [] w/\drawE step2 P n L (λe' w'=>nl P n f r x1 Q e' w') od [] e C:=rfl
def n_cond0:nl P n (f+1) (.cond x l m::r) .nil Q e w=q11 e x λv=>match v with
 |.bool b=>Bif b (nl P n f l .nil (q35 (λe' w'=>nl P n f r .nil Q e' w') Q) e w) (nl P n f m .nil (q35 (λe' w'=>nl P n f r .nil Q e' w') Q) e w)
 |_=>False:=rfl
def n_cond1:nl P n (f+1) (.cond x l m::r) (.step a b x1) Q e w=q11 e x λv=>match v with
 |.bool t=>Bif t (nl P n f l a (q35 (λe' w'=>nl P n f r x1 Q e' w') Q) e w) (nl P n f m b (q35 (λe' w'=>nl P n f r x1 Q e' w') Q) e w)
 |_=>False:=rfl
def n_block0:nl P n (f+1) (.block id l::r) .nil Q e w=nl P n f l .nil (q4a id (λe' w'=>nl P n f r .nil Q e' w') Q) e w:=rfl
def n_block1:nl P n (f+1) (.block id l::r) (.step a b x1) Q e w=nl P n f l a (q4a id (λe' w'=>nl P n f r x1 Q e' w') Q) e w:=rfl
def n_loop{ws:List Nat} :nl P n (f+1) (.loop l::r) (.loop sl ws a) Q e w=Lp λI μ=>(qa2 sl e λvs=>I vs w)/\
 qk9 (tys sl) λvs=>∀w',I vs w'->edropK ws e λd=>bindK sl vs d λg=>nl P n f l a (q35 (λc h=>qa2 sl c λb=>I b h/\μ b h < μ vs w') Q) g w':=rfl
def n_exit0:nl P n (f+1) (.exit id::r) .nil Q e w=Q (.exit id) e w:=rfl
def n_exit1:nl P n (f+1) (.exit id::r) (.step a b x1) Q e w=Q (.exit id) e w:=rfl
def n_ret0:nl P n (f+1) (.ret::r) .nil Q e w=Q .ret e w:=rfl
def n_ret1:nl P n (f+1) (.ret::r) (.step a b x1) Q e w=Q .ret e w:=rfl
def n_j1{ws:List Nat} :nl P n (f+1) (c::r) (.join 1 sl ws a b) Q e w=Jn λJ=>nl P n f [c] a (q35 (λe' w'=>qa2 sl e' λvs=>J vs w') Q) e w/\
 qk9 (tys sl) λvs=>∀w',J vs w'->edropK ws e λh=>bindK sl vs h λd=>nl P n f r b Q d w':=rfl
def n_j2{ws:List Nat}{h:S} :nl P n (f+1) (c::h::r) (.join 2 sl ws a b) Q e w=Jn λJ=>nl P n f [c,h] a (q35 (λe' w'=>qa2 sl e' λvs=>J vs w') Q) e w/\
 qk9 (tys sl) λvs=>∀w',J vs w'->edropK ws e λd=>bindK sl vs d λg=>nl P n f r b Q g w':=rfl
def q_t0{k:Env->A7->Prop}:q35 k Q .normal e w=k e w:=rfl
def q_t1{k:Env->A7->Prop}:q35 k Q .ret e w=Q .ret e w:=rfl
def q_t2{k:Env->A7->Prop}:q35 k Q (.exit id) e w=Q (.exit id) e w:=rfl
def q_b0{k:Env->A7->Prop}:q4a id k Q .normal e w=k e w:=rfl
def q_b1{k:Env->A7->Prop}:q4a id k Q .ret e w=Q .ret e w:=rfl
def q_b2{k:Env->A7->Prop}:q4a id k Q (.exit i) e w=(match A3 i id with|true=>k e w|false=>Q (.exit i) e w):=rfl
def q_f0{h:List ResultVar}{R:A0->A7->Prop}:finalL P h R .normal e w=q66 P h e w λvs=>R (tup vs) w:=rfl
def q_f1{h:List ResultVar}{R:A0->A7->Prop}:finalL P h R .ret e w=q66 P h e w λvs=>R (tup vs) w:=rfl
def al_0{F:List A0->Prop}:qk9 (tys []) F=F []:=rfl
def al_1{u:Ty}{F:List A0->Prop}:qk9 (tys ((s,u)::sl)) F=alT u λv=>qk9 (tys sl) λvs=>F (v::vs):=rfl
def wl_a{l:List Operand}{F:List A0->Prop}:qj3 e (A5 l).toList F=qj3 e l F:=rfl
def wp_a{l:List (Nat×Operand)}{F:List (Nat×A0)->Prop}:q86 e (A5 l).toList F=q86 e l F:=rfl
def s_0{F:List A0->Prop}:qa2 [] e F=F []:=rfl
def s_1{t:Ty}{F:List A0->Prop}:qa2 ((s,t)::sl) e F=(match q23 e s with|some v=>qa2.asT' t v λv=>qa2 sl e λvs=>F (v::vs)|none=>False):=rfl
def oe_0:opsE P n L [] e w KE=KE e w:=rfl
def oe_1:opsE P n L (⟨d,op,ty,p,af,A6⟩::rs) e w KE=opR P rs ⟨d,op,ty,p,af,A6⟩ e w λv w'=>qc2 n d v e λe'=>opsE P n L rs e' w' KE:=rfl
def oe_2:opsE P n L (⟨d,op,ty,p,af,A4 (j,want)⟩::rs) e w KE=(match gs L j with
 |none=>False
 |some s=>match q23 e s with
  |some (.bool b)=>Bif b
   (match want with
    |true=>opR P rs ⟨d,op,ty,p,af,A4 (j,want)⟩ ((s,.bool true)::e) w λv w'=>qc2 n d v ((s,.bool true)::e) λe'=>opsE P n L rs e' w' KE
    |false=>opsE P n L rs (q72 d ((s,.bool true)::e)) w KE)
   (match want with
    |false=>opR P rs ⟨d,op,ty,p,af,A4 (j,want)⟩ ((s,.bool false)::e) w λv w'=>qc2 n d v ((s,.bool false)::e) λe'=>opsE P n L rs e' w' KE
    |true=>opsE P n L rs (q72 d ((s,.bool false)::e)) w KE)
  |some (.tuple _)=>opsE P n L rs (q72 d e) w KE
  |_=>False):=rfl
def de_0:drawE st P n L KE [] pend e C=∀G w,C.p G w->KE e w:=rfl
def de_1:drawE st P n L KE ((i,eff,dr)::od) pend e C=(match nth L i with
 |some o=>
  match o.guard with
  |none=>st P n i eff dr o pend C (drawE st P n L KE od) e
  |some (j,want)=>match gs L j with
   |none=>False
   |some s=>match q23 e s with
    |some (.bool t)=>Bif t
     (match want with
      |true=>st P n i eff dr o pend C (drawE st P n L KE od) ((s,.bool true)::e)
      |false=>drawE st P n L KE od pend (q72 o.dst ((s,.bool true)::e)) C)
     (match want with
      |false=>st P n i eff dr o pend C (drawE st P n L KE od) ((s,.bool false)::e)
      |true=>drawE st P n L KE od pend (q72 o.dst ((s,.bool false)::e)) C)
    |some (.tuple _)=>drawE st P n L KE od pend (q72 o.dst e) C
    |_=>False
 |none=>False):=rfl
def se_1:stepE P n i eff dr ⟨d,op,ty,p,af,g⟩ pend C next e=(match kd P op with
 |.pure=>opP P ⟨d,op,ty,p,af,g⟩ e λv=>qc2 n d v e λe'=>next pend e' C
 |.new=>newE P ⟨d,op,ty,p,af,g⟩ e λh mk=>∀bl:Nat,qc2 n d (mk bl) e λe'=>next (trimE dr pend) e' (C.push (bl,h))
 |.gen=>match qn4 P ⟨d,op,ty,p,af,g⟩with
  |some l=>match eff with
   |false=>exR l λv=>Qt C v (λw K=>opW P ⟨d,op,ty,p,af,g⟩ e w K)/\qc2 n d v e λe'=>next ((i,λC=>Qt C v (λw K=>opW P ⟨d,op,ty,p,af,g⟩ e w K))::pend) e' C
   |true=>Ef C (λw K=>opW P ⟨d,op,ty,p,af,g⟩ e w K) λv D=>asR l v λv=>qo5 (trimE dr pend) D/\qc2 n d v e λe'=>next (trimE dr pend) e' D
  |none=>False):=rfl
def s2_1:step2 P n i eff dr ⟨d,op,ty,p,af,g⟩ pend C next e=(match Two.kd P op with
 |.pure=>opP P ⟨d,op,ty,p,af,g⟩ e λv=>qc2 n d v e λe'=>next pend e' C
 |.new=>Two.newE P ⟨d,op,ty,p,af,g⟩ e λm=>∀k bl:Nat,qc2 n d (m.2 k bl) e λe'=>next (trimE dr pend) e' (C.push (bl,m.1 k))
 |.gen=>match qn4 P ⟨d,op,ty,p,af,g⟩with
  |some l=>match eff with
   |false=>exR l λv=>Qt C v (λw K=>opW P ⟨d,op,ty,p,af,g⟩ e w K)/\qc2 n d v e λe'=>next ((i,λC=>Qt C v (λw K=>opW P ⟨d,op,ty,p,af,g⟩ e w K))::pend) e' C
   |true=>Ef C (λw K=>opW P ⟨d,op,ty,p,af,g⟩ e w K) λv D=>asR l v λv=>qo5 (trimE dr pend) D/\qc2 n d v e λe'=>next (trimE dr pend) e' D
  |none=>False):=rfl
def ne_0{N:Obj->(Nat->A0)->Prop}:newE P ⟨d,.alloc t,ty,p,af,g⟩ e N=qc7 P t λz=>N (.cells z.cells t) λb=>.pointer (A4 ⟨b,0,A6⟩):=rfl
def ne_1{N:Obj->(Nat->A0)->Prop}:newE P ⟨d,.box t x,ty,p,af,g⟩ e N=q11 e x λv=>N (.cells v.cells t) λb=>.pointer (A4 ⟨b,0,A6⟩):=rfl
def ne_2{N:Obj->(Nat->A0)->Prop}{h}:newE P ⟨d,.buildSlice t k h,ty,p,af,g⟩ e N=q86 e h.toList λh=>rowF P t k h N:=rfl
def ne_3{N:Obj->(Nat->A0)->Prop}:newE P ⟨d,.makeMap t A6,ty,p,af,g⟩ e N=N (.map #[] 0) λb=>.map (A4 b):=rfl
def nt_0{N:Two.Mk->Prop}:Two.newE P ⟨d,.alloc t,ty,p,af,g⟩ e N=newE P ⟨d,.alloc t,ty,p,af,g⟩ e λo m=>N (λ_=>o,λ_=>m):=rfl
def nt_1{N:Two.Mk->Prop}:Two.newE P ⟨d,.box t x,ty,p,af,g⟩ e N=newE P ⟨d,.box t x,ty,p,af,g⟩ e λo m=>N (λ_=>o,λ_=>m):=rfl
def nt_2{N:Two.Mk->Prop}{h}:Two.newE P ⟨d,.buildSlice t k h,ty,p,af,g⟩ e N=newE P ⟨d,.buildSlice t k h,ty,p,af,g⟩ e λo m=>N (λ_=>o,λ_=>m):=rfl
def nt_3{N:Two.Mk->Prop}:Two.newE P ⟨d,.makeMap t A6,ty,p,af,g⟩ e N=newE P ⟨d,.makeMap t A6,ty,p,af,g⟩ e λo m=>N (λ_=>o,λ_=>m):=rfl
def nt_4{N:Two.Mk->Prop}:Two.newE P ⟨d,.convert s t x,ty,p,af,g⟩ e N=(match Two.strB8 P s t with
 |some u=>q11 e x λv=>match v with
  |.string y=>N (Two.rowB y u)
  |_=>False
 |none=>False):=rfl
def rb_2{y:ByteArray}{b:Nat}:(Two.rowB y t).2 k b=.slice (A4 ⟨b,0,A6⟩) y.size (y.size+k):=rfl
def g_0{α:Type}{a:α}{l:List α}:nth (a::l) 0=A4 a:=rfl
def g_1{α:Type}{a:α}{l:List α}:nth (a::l) (i+1)=nth l i:=rfl
def e_c:q23 ((s,v)::e) t=(match A3 s t with|true=>A4 v|false=>q23 e t):=rfl
def e_put{q:Env->Prop}:qc2 n A6 v e q=q e:=rfl
def e_puts{q:Env->Prop}:qc2 n (A4 s) v e q=(match Nat.ble (s+1) n with|true=>q ((s,v)::e)|false=>False):=rfl
def v_c{q:A0->Prop}:q11 e (.const v) q=q v:=rfl
def v_t{q:A0->Prop}:q11 e (.tmp s) q=(match q23 e s with|some v=>q v|none=>False):=rfl
def v_g{q:A0->Prop}:q11 e (.global s) q=q (.pointer (A4 ⟨s,0,A6⟩)):=rfl
def v_f{q:A0->Prop}:q11 e (.func s) q=q (.func (.func s) #[] #[]):=rfl
def nil_s{q:A8}{F:A8->Prop}:qa (A4 q) F=F q:=rfl
def k_fun{q:FuncId}{u u2:Array A0}:qqg (.func (.func q) u u2) KV=KV (.func (.func q) u u2):=rfl
def k_ifc{q:TypeId}{u:A0}:qqg (.iface q u) KV=KV (.iface q u):=rfl
def k_ptr{q:Option A8}:qqg (.pointer q) KV=qa q λa=>KV (.pointer (A4 a)):=rfl
def bif_t:Bif true A B=A:=rfl
def bif_f:Bif false A B=B:=rfl
def a_0{i:Nat}:qf4 i []=[]:=rfl
def a_1{i:Nat}{vs:List A0}:qf4 i (v::vs)=(i,v)::qf4 (i+1) vs:=rfl
def b_0{vs:List A0}{K:Env->Prop}:bindK [] vs e K=K e:=by cases vs<;>rfl
def b_1{u:Ty}{vs:List A0}{K:Env->Prop}:bindK ((s,u)::sl) (v::vs) e K=bindK sl vs e λe=>K ((s,v)::e):=rfl
def d_0{ws:List Nat}{K:Env->Prop}:edropK ws [] K=K []:=rfl
def d_1{ws:List Nat}{K:Env->Prop}:edropK ws ((s,v)::e) K=(match em ws s with|true=>edropK ws e K|false=>edropK ws e λe=>K ((s,v)::e)):=rfl
def isn_s{q:A8}:qi2 (A4 q)=false:=rfl
def isn_n{α:Type}:qi2 (A6:Option α)=true:=rfl
def cl_a{cs:Array A0}:A2 (.agg cs)=cs:=rfl
def cl_i{k:IntKind}{q:Int}:A2 (.int k q)=#[.int k q]:=rfl
def cl_b:A2 (.bool bl)=#[.bool bl]:=rfl
def cl_s{q:ByteArray}:A2 (.string q)=#[.string q]:=rfl
def cl_p{q:Option A8}:A2 (.pointer q)=#[.pointer q]:=rfl
def cl_l{q:Option A8}:A2 (.slice q i j)=#[.slice q i j]:=rfl
def cl_m{q:Option Nat}:A2 (.map q)=#[.map q]:=rfl
def cl_f{q:Fn}{u u2:Array A0}:A2 (.func q u u2)=#[.func q u u2]:=rfl
def un_not:qj P (Op.unary .not (.bool bl)) KV=KV (.bool (!bl)):=rfl
def un_neg{q:Int}:qj P (Op.unary .neg (.int Zk q)) KV=KV (.int Zk (Zw Zk (0 - q))):=rfl
def un_xor{q:Int}{k:IntKind}:qj P (Op.unary .xor (.int k q)) KV=KV (.int k (Zw k ↑((BitVec.ofInt (IntKind.bits k) (if(IntKind.signed k)=true then -1 else IntKind.max k) ^^^ BitVec.ofInt (IntKind.bits k) q).toNat))):=rfl
def mf{q:Fn}{u u2:Array A0}:qj P (Instr.makeFunc q u u2) KV=KV (.func q u u2):=rfl
def en_1:q96 P s i (⟨d,.extract (.tmp t) j,ty,p,af,g⟩::rs)=(match A3 t s with|true=>(match A3 j i with|true=>qu6 P ty|false=>q96 P s i rs)|false=>q96 P s i rs):=by show(match A3 t s&&A3 j i with|true=>qu6 P ty|false=>q96 P s i rs)=_;cases A3 t s<;>cases A3 j i<;>rfl
def x1_0{u:A0}:qj P (A1 (.tuple #[u]) 0) KV=KV u:=rfl
def x2_0{u u2:A0}:qj P (A1 (.tuple #[u,u2]) 0) KV=KV u:=rfl
def x2_1{u u2:A0}:qj P (A1 (.tuple #[u,u2]) 1) KV=KV u2:=rfl
def x3_0{u u2 h:A0}:qj P (A1 (.tuple #[u,u2,h]) 0) KV=KV u:=rfl
def x3_1{u u2 h:A0}:qj P (A1 (.tuple #[u,u2,h]) 1) KV=KV u2:=rfl
def x3_2{u u2 h:A0}:qj P (A1 (.tuple #[u,u2,h]) 2) KV=KV h:=rfl
def x4_0{u u2 h w:A0}:qj P (A1 (.tuple #[u,u2,h,w]) 0) KV=KV u:=rfl
def x4_1{u u2 h w:A0}:qj P (A1 (.tuple #[u,u2,h,w]) 1) KV=KV u2:=rfl
def x4_2{u u2 h w:A0}:qj P (A1 (.tuple #[u,u2,h,w]) 2) KV=KV h:=rfl
def x4_3{u u2 w h:A0}:qj P (A1 (.tuple #[u,u2,w,h]) 3) KV=KV h:=rfl
def t_0:trimE i []=[]:=rfl
def t_1{S:Cls->Prop}:trimE i ((j,S)::pend)=(match A3 (Nat.mod (Nat.div i (Nat.pow 2 j)) 2) 1 with|true=>trimE i pend|false=>(j,S)::trimE i pend):=rfl
end
def AE.sk:Nat->AE->AE
 |0,r=>r
 |k+1,r=>.step .nil .nil (AE.sk k r)
def ra:Nat->Nat->List Nat->List Nat
 |_,0,t=>t
 |a,n+1,t=>a::ra (a+1) n t
def rg:List Nat->List Nat
 |a::n::r=>ra a n (rg r)
 |_=>[]
def ro:Nat->Nat->List (Nat×Bool×Nat)->List (Nat×Bool×Nat)
 |_,0,t=>t
 |a,n+1,t=>(a,false,0)::ro (a+1) n t
def rep:Nat->A0->List A0
 |0,_=>[]
 |n+1,v=>v::rep n v
def od:List Nat->List (Nat×Bool×Nat)
 |a::0::r=>(a%128,(a/128%2==1),a/256)::od r
 |a::(n+1)::r=>ro a (n+1) (od r)
 |_=>[]
abbrev ti:Ty:=.b (.int Zk)
abbrev tb:Ty:=.b .bool
abbrev ts:Ty:=.b .str
abbrev tp:Ty:=.b .ptr
abbrev tl:Ty:=.b .slice
abbrev tm:Ty:=.b .map
abbrev tv:Ty:=.b .val
abbrev Ck(f:Nat)(l:List Ty):Prop:=∀vs w K,q2l Zp f vs w K=qb Zp f vs.toArray w λv w=>asR l v λv=>K v w
abbrev Fa(s f o:Nat):Prop:=∀a K,qj Zp (Instr.fieldAt s (.pointer (A4 a)) f) K=K (.pointer (A4 (a.add o)))
abbrev Ze(t:Nat)(v:A0):Prop:=∀F,qc7 Zp t F=F v
abbrev Re(t:Nat)(l:List Ty):Prop:=q9e Zp t=A4 l
abbrev Ld(t:Nat)(l:List T0):Prop:=∀q w K,ldK Zp t (.pointer q) w K=qa q λa=>ldL a w l 0 λvs=>K (.agg vs.toArray) w
abbrev Lo(t:Nat)(u:T0):Prop:=∀q w K,ldK Zp t (.pointer q) w K=qa q λa=>ld0 u a w λv=>K v w
abbrev Sd(t:Nat)(l:List T0):Prop:=∀q m w K,stK Zp t (.pointer q) (.agg (A5 m)) w K=qa q λa=>stL a l m 0 w K
abbrev So(t:Nat)(u:T0):Prop:=∀q x w K,stK Zp t (.pointer q) x w K=qa q λa=>st0 u a x w K
abbrev Un(t:Nat)(u:TypeDesc):Prop:=Zp.underlying t=A4 u
abbrev Sz(t n:Nat):Prop:=∀F,qmd Zp t F=F n
end Nr
end
end Go.Proofs.YtfjifcfbmhpcaaaGreatDoor
