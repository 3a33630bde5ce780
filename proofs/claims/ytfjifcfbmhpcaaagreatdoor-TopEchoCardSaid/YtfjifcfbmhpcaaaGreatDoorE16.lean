/-
  A part of the proof of TopEcho.
-/
import Derived.Test.YtfjifcfbmhpcaaaGreatDoorE15
import Derived.Test.YtfjifcfbmhpcaaaGreatDoorE00
set_option linter.defProp false
set_option linter.unusedVariables false
set_option linter.unusedSimpArgs false
namespace Go.Proofs.YtfjifcfbmhpcaaaGreatDoor
open Go
open Go.Proofs.Tryz renaming prog → Zp
open Go.IntKind renaming i64 → Zk
open Go.Value renaming int → Zi, string → Zs, pointer → Zq, bool → Zb, tuple → Zt, slice → Zl, agg → Zg
open _root_.Option renaming some->A0,none->A1,map_some->Bf
open Go renaming Value->A2,World->Aa,MapEntry->Ao,LoopState->Ar,FuncId->Ax,TypeId->Bh,TypeInfo->Bi,Program->Bl,Code->Bn,Addr->Bp
open _root_.List renaming not_mem_nil->A3,length_cons->A6,perm_ext_iff_of_nodup->A7,length_nil->A8,mem_cons->A9,perm_append_singleton->Ae,getElem?_map->Af,length_append->Ah,map_append->Am,length_map->Au,ext_getElem?->Aw,flatMap->Ay,range->Az,perm_append_comm->B0,map_cons->B4,mem_map->B7,perm_middle->B9,nodup_range->Bd,mem_filter->Bg,length->Bm
open _root_.Prod renaming fst->A4,snd->B1
open Go.Result renaming andThen->A5
open _root_.Array renaming getD_eq_getD_getElem?->Ab,getElem?_append_left->Ad,getElem?_toList->Aj,getElem?_modify->Ap,replicate->As,zip->Bo
open Go.MapKept renaming run_getObj_map->Ac,bytes_beq->Ak
open Go.Instr renaming findAsking->Ag,findKey->Ai,lookup->Av,mapEntry->B2,findNow->B5,keyThatStays->B6,entryStore->Bb,mapUpdate->Be,checkKey->Bj
open Go.Fence renaming wide->An
open _root_.Bool renaming true->Aq,false->B3,not_eq_true->Ba,and_eq_true->Bc
section
set_option maxRecDepth 100000
namespace AppS
open Go Go.Proofs.YtfjifcfbmhpcaaaGreatDoor
abbrev ev:ByteArray->A2:=Zs
abbrev eV(x:ByteArray):List A2:=[ev x]
def eV1(x:ByteArray):(eV x).length=1:=rfl
def eVn(x:ByteArray):∀v∈eV x,qn1 v:=λv h=>by simp only[eV,A9,A3,yK]at h;subst h;trivial
def uSl:Zp.underlying 23=A0 (.slice 9):=Tryz.underlying23
def iE:Zp.info? 9=A0 Tryz.t9:=by kernel_rfl
def sE:Tryz.t9.size=1:=rfl
def zE:∃z,Tryz.t9.zero=A0 z/\z.cells.size=1:=⟨_,rfl,rfl⟩
def bE:Tryz.t9.bytes<=100:=by decide+kernel
noncomputable def apC:Bn:=Tryz.f288.body.getD .skip
noncomputable def cR(i:Nat):Bn:=(q63 apC).getD i .skip
noncomputable def apA:Bn:=q7q (cR 2)
noncomputable def apB:Bn:=qzq (cR 2)
def ap_body:Tryz.f288.body=A0 apC:=by kernel_rfl
def ap_n:Tryz.f288.ntmps=13:=by kernel_rfl
def ap_eq:apC=.seq (.region 0 (qo1 (cR 0)) B3) (.seq (.seq (.region 1 (qo1 (cR 1)) B3) (.block 0 (.rangeFunc (.tmp 6) #[7] apA apB))) (.seq (.region 4 (qo1 (cR 3)) B3) .ret)):=by kernel_rfl
def apA_eq:apA=.region 2 (qo1 apA) B3:=by kernel_rfl
def apB_eq:apB=.block 1 (.region 3 (qo1 (inB apB)) B3):=by kernel_rfl
def tame0:(qo1 (cR 0)).toList.all qv5=Aq:=by kernel_rfl
def tame1:(qo1 (cR 1)).toList.all qv5=Aq:=by kernel_rfl
def tame2:(qo1 apA).toList.all qv5=Aq:=by kernel_rfl
def tame3:(qo1 (inB apB)).toList.all qv5=Aq:=by kernel_rfl
def tame4:(qo1 (cR 3)).toList.all qv5=Aq:=by kernel_rfl
section
variable(p:Option Addr)(n c:Nat)(w:World)(K:Env->World->Prop)(b2:Nat)(s:Value)
def ops_0:qy7 Zp 13 (qo1 (cR 0)).toList [(1,s),(0,Zl p n c)] w K=(qh #[Zl p n c] 23 w λb w=>K [(4,Zl A1 0 0),(2,Zq (A0 ⟨b,0,A1⟩)),(1,s),(0,Zl p n c)] w):=by kernel_rfl
def ops_1(e:Env):qy7 Zp 13 (qo1 (cR 1)).toList ((4,Zl A1 0 0)::(2,Zq (A0 ⟨b2,0,A1⟩))::(1,s)::e) w K=K ((6,s)::(4,Zl A1 0 0)::(2,Zq (A0 ⟨b2,0,A1⟩))::(1,s)::e) w:=by kernel_rfl
def ops_2(x:ByteArray)(e:Env):qy7 Zp 13 (qo1 apA).toList ((7,ev x)::e) w K=K ((5,ev x)::(7,ev x)::e) w:=by kernel_rfl
def ops_3(x:ByteArray):qy7 Zp 13 (qo1 (inB apB)).toList [(5,ev x),(2,Zq (A0 ⟨b2,0,A1⟩))] w K=
 LdL ⟨b2,0,A1⟩ w λq m d=>qh #[ev x] 9 w λb w=>Run Zp (Builtin.append_ #[23,23] 23 #[Zl q m d,.slice (A0 ⟨b,0,A1⟩) 1 1]) w λv w=>AsL v λc h a=>
  St1 ⟨b2,0,A1⟩ (.slice c h a) w λw=>K [(11,.slice c h a),(10,.slice (A0 ⟨b,0,A1⟩) 1 1),(9,ev x),(8,Zl q m d),(5,ev x),(2,Zq (A0 ⟨b2,0,A1⟩))] w:=by kernel_rfl
def ops_4:q5f Zp 13 (qo1 (cR 3)).toList [(2,Zq (A0 ⟨b2,0,A1⟩))] w K=
 LdL ⟨b2,0,A1⟩ w λq m d=>K [(4,Zl q m d),(12,Zl q m d),(2,Zq (A0 ⟨b2,0,A1⟩))] w:=by kernel_rfl
def ap_res(q:Option Bp)(m d:Nat)(e:Env)(K:List A2->Prop):q66 Zp Tryz.f288.results.toList ((4,Zl q m d)::e) w K=K [Zl q m d]:=by kernel_rfl
end
noncomputable def recC(fn:Ax)(tmps:Array A2)(D:Nat)(s:Ar):Loop:={ state:=s,pending:=A1,fn:=fn,tmps:=tmps,params:=#[7],assign:=apA,body:=apB,defers:=D}
def BufA(fn:Ax)(tmps:Array A2)(s:Ar)(l D b2:Nat)(L:List ByteArray):Asn:=exA λy:Option Bp×Nat=>qz [Pt l (.loop (recC fn tmps D s)),Pt D (.deferred (A0 [])),Row b2 23 [.slice y.1 L.length y.2],SlA 9 1 eV y.1 y.2 L]
def BufA.open_{W w:Aa}{F:List Asn}{fn:Ax}{tmps:Array A2}{s:Ar}{l D b2:Nat}{L:List ByteArray}(h:St W (BufA fn tmps s l D b2 L::F) w):
 ∃p c,St W (Pt l (.loop (recC fn tmps D s))::Pt D (.deferred (A0 []))::Row b2 23 [Zl p L.length c]::SlA 9 1 eV p c L::F) w:=by
 obtain⟨⟨p,c⟩,h⟩:=h.of_ex;exact⟨p,c,h.of_sep⟩
def BufA.shut{W w:Aa}{F:List Asn}{fn:Ax}{tmps:Array A2}{s:Ar}{l D b2:Nat}{L:List ByteArray}(p:Option Bp)(c:Nat)(h:St W (Pt l (.loop (recC fn tmps D s))::Pt D (.deferred (A0 []))::Row b2 23 [Zl p L.length c]::SlA 9 1 eV p c L::F) w):St W (BufA fn tmps s l D b2 L::F) w:=
 z01 (p,c) (zk (l:=[_,_,_,_]) h)
def fold_one(tmps:Array A2)(a:A2):(Bo (#[7]:Array Tmp) [a].toArray).foldl (λtmps (t,a)=>tmps.setIfInBounds t a) tmps=tmps.setIfInBounds 7 a:=by simp
section
variable{W w:World}{F M:List Asn}{fn:FuncId}{tmps:Array Value}{l D b2:Nat}{L:List ByteArray}
def round_spec(x:ByteArray)(s:qs1 13 [(2,Zq (A0 ⟨b2,0,A1⟩))] { tmps:=tmps,defers:=[]})(q:L.length<=1000000)
 (h:St W (BufA fn tmps .ready l D b2 L::F) w):
 RoundIn An 0 Zp l fn (tmps.setIfInBounds 7 (ev x)) apA apB w λt w'=>∃v,t=.returned v/\v=Zb Aq/\St W (BufA fn tmps .ready l D b2 (L++[x])::F) w':=by
 obtain⟨p,c,h⟩:=BufA.open_ h;refine roundIn_of_wpIn trivial ?_;have n:qx4 (An.inRound l):=.inr ⟨l,rfl⟩;have u:qs1 13 [(7,ev x),(2,Zq (A0 ⟨b2,0,A1⟩))] { tmps:=tmps.setIfInBounds 7 (ev x),defers:=[]}:=s.put1 (d:=7) (ev x) (by decide);rw[apA_eq];refine qk6 n tame2 (K:=λe' w'=>e'=[(5,ev x),(7,ev x),(2,Zq (A0 ⟨b2,0,A1⟩))]/\w'=w) (by rw[ops_2];exact⟨rfl,rfl⟩) u ?_;rintro A a2 B ⟨rfl,rfl⟩ ha2;have f:qs1 13 [(5,ev x),(2,Zq (A0 ⟨b2,0,A1⟩))] a2:=ha2.pick λy o=>by simp only[A9,A3,yK]at o;rcases o with rfl|rfl<;>rfl
 obtain⟨k,h⟩:=h.turn (o':=.loop (recC fn tmps D .busy));refine⟨_,run_beginRound k rfl,?_⟩;rw[apB_eq];refine wpIn_block (qk6 n tame3 (K:=λe' w'=>∃a e,St W (Pt l (.loop (recC fn tmps D .busy))::Pt D (.deferred (A0 []))::Row b2 23 [Zl a (L++[x]).length e]::SlA 9 1 eV a e (L++[x])::F) w') ?_ f ?_)
 .rw[ops_3];refine LdL.n 2 h rfl rfl (zh h λb w h=>?_);have h:St W (Row b 9 (Ay eV [x])::Pt l (.loop (recC fn tmps D .busy))::Pt D (.deferred (A0 []))::Row b2 23 [Zl p L.length c]::SlA 9 1 eV p c L::F) w:=h;obtain⟨z,r,i⟩:=zE;have m:=bE;refine qf3 (os:=L) (xs:=[x]) eV1 uSl (.inr ⟨_,uSl⟩) iE sE r i 4 h rfl (z07 0 rfl λF=>z0k) rfl eVn (by simp only[A6,A8];exact Nat.le_trans (Nat.mul_le_mul_left _ m) (by omega)) (by simp only[A6,A8];omega) λg j w h=>⟨_,_,_,rfl,?_⟩;refine z0m 3 h rfl (by simp) λw h=>⟨g,j,?_⟩;have h:St W (Row b 9 (Ay eV [x])::Pt l (.loop (recC fn tmps D .busy))::Pt D (.deferred (A0 []))::Row b2 23 [Zl g (L++[x]).length j]::SlA 9 1 eV g j (L++[x])::F) w:=h;exact h.drop
 .rintro C a3 E ⟨a,e,h⟩ _;obtain⟨k,h⟩:=h.turn (o':=.loop (recC fn tmps D .ready));exact⟨_,_,run_endRound A1 k,_,rfl,rfl,BufA.shut a e h⟩
def AppSeq_spec{d:Ax}{cap:A2}{N:Nat}{G:List ByteArray->Prop}(O:q33 Zp d=Aq)(V:N<=1000000)(m:q7b W ev d cap M N G)(g:St W M w):
 qb Zp 288 #[Zl A1 0 0,.func (.func d) #[] #[cap]] w λv w'=>∃L p c,v=Zl p (Bm L) c/\G L/\St W (SlA 9 1 eV p c L::M) w':=by
 refine(callsIn_wide (n:=0)).1 (callsIn_of_wp_marks Tryz.func288 ap_body trivial ?_);have q:qx4 An:=.inl rfl;have i:qs1 13 [(1,.func (.func d) #[] #[cap]),(0,Zl A1 0 0)] { tmps:=#[Zl A1 0 0,.func (.func d) #[] #[cap]]++As (Tryz.f288.ntmps -(#[Zl A1 0 0,.func (.func d) #[] #[cap]]).size) undef,defers:=[]}:=by
  rw[ap_n];refine⟨rfl,by simp,λt v u=>?_⟩;have:=q47 u;simp only[A9,A3,yK,Prod.mk.injEq]at this;rcases this with ⟨rfl,rfl⟩|⟨rfl,rfl⟩
  .rw[Ab,Ad (by simp)];rfl
  .rw[Ab,Ad (by simp)];rfl
 generalize ({ tmps:=#[Zl A1 0 0,.func (.func d) #[] #[cap]]++As (Tryz.f288.ntmps -(#[Zl A1 0 0,.func (.func d) #[] #[cap]]).size) undef,defers:=[]}:Act)=a at i;rw[ap_eq];refine wpIn_seq (qk6 q tame0 (K:=λe' w'=>∃b2,e'=[(4,Zl A1 0 0),(2,Zq (A0 ⟨b2,0,A1⟩)),(1,.func (.func d) #[] #[cap]),(0,Zl A1 0 0)]/\St W (Row b2 23 [Zl A1 0 0]::M) w') (by rw[ops_0];exact zh g λb w g=>⟨b,rfl,g⟩) i ?_);clear g;rintro z r w ⟨b2,rfl,g⟩ i;refine wpIn_seq (wpIn_seq (qk6 q tame1 (K:=λe' w'=>e'=[(6,.func (.func d) #[] #[cap]),(4,Zl A1 0 0),(2,Zq (A0 ⟨b2,0,A1⟩)),(1,.func (.func d) #[] #[cap]),(0,Zl A1 0 0)]/\w'=w) (by rw[ops_1];exact⟨rfl,rfl⟩) i ?_));rintro z a w ⟨rfl,rfl⟩ i;refine wpIn_block (wpIn_rangeFunc λfn _=>?_);have E:a.eval (.tmp 6)=.func (.func d) #[] #[cap]:=i.val 6 _ rfl;have k:=(g.alloc (.deferred (A0 []))).alloc (.loop (recC fn a.tmps w.heap.size .ready));rw[World.size_alloc]at k;refine⟨w.heap.size+1,[{ target:=.collected w.heap.size,args:=#[]}],(w.alloc (.deferred (A0 []))).alloc (.loop (recC fn a.tmps w.heap.size .ready)),{ target:=.fn (.func d) #[cap],args:=#[.func (.yield (w.heap.size+1)) #[] #[]]},(w.alloc (.deferred (A0 []))).alloc (.loop (recC fn a.tmps w.heap.size .ready)),d,
  #[.func (.yield (w.heap.size+1)) #[] #[],cap],(w.alloc (.deferred (A0 []))).alloc (.loop (recC fn a.tmps w.heap.size .ready)),run_enterLoop_outer _ _ _ _ _,?_,λ_ _=>trivial,?_,(λh=>by cases h),?_⟩
 .simp only[resolve,E];simp[go_sem]
 .simp only[invoke];exact q04 O _ _
 generalize w.heap.size=D at k;generalize D+1=l at k;generalize (w.alloc (.deferred (A0 []))).alloc (.loop (recC fn a.tmps D .ready))=w1 at k;clear g E;have g:St W (BufA fn a.tmps .ready l D b2 []::M) w1:=BufA.shut A1 0 (zf 0 3 (z0a (f:=eV) (e:=9) (size:=1) (p:=A1) k) rfl);have u:qs1 13 [(2,Zq (A0 ⟨b2,0,A1⟩))] { tmps:=a.tmps,defers:=[]}:=by
  have:=i.pick (e':=[(2,Zq (A0 ⟨b2,0,A1⟩))]) λy j=>by simp only[A9,A3,yK]at j;rcases j with rfl;rfl
  exact⟨rfl,this.size,this.val⟩
 have j:∀(X:List Asn) (L:List ByteArray) (x:ByteArray) (w:Aa) (K:A2->Aa->Prop),L.length<N->St W (BufA fn a.tmps .ready l D b2 L::X) w->(∀w',St W (BufA fn a.tmps .ready l D b2 (L++[x])::X) w'->K (Zb Aq) w')->q01 Zp 4 (.func (.yield l) #[] #[]) [ev x] w K:=λX L x w K Z g I=>by obtain⟨p,c,T⟩:=BufA.open_ g;refine .inr ⟨l,recC fn a.tmps D .ready,rfl,T.pt,rfl,?_⟩;have key:=round_spec x u (by omega) g;rw[<-fold_one]at key;exact RoundIn.mono key λz w' ⟨v,k,H,g⟩=>⟨v,k,by subst H;exact I _ g⟩
 refine qx4.calls q (Calls.mono (m _ _ _ j g) λe Y ⟨v,F,C,L,U,g⟩=>?_);subst F;obtain⟨p,c,g⟩:=BufA.open_ g;obtain⟨A,g⟩:=g.turn (o':=.loop (recC fn a.tmps D .exhausted));refine⟨A1,_,run_endLoop A (by simp[recC]),?_⟩;have B:a.defers=[]:=i.defers;have s:qs1 13 [(2,Zq (A0 ⟨b2,0,A1⟩))] (qi6 { a with defers:=[{ target:=.collected D,args:=#[]}]++a.defers}):=by
  have:=i.pick (e':=[(2,Zq (A0 ⟨b2,0,A1⟩))]) λy j=>by simp only[A9,A3,yK]at j;rcases j with rfl;rfl
  exact⟨rfl,this.size,this.val⟩
 refine wpIn_seq (qmj q tame4 (K:=λe' w'=>∃e0,e'=(4,Zl p L.length c)::e0) (by rw[ops_4];exact LdL.n 2 g rfl rfl ⟨_,rfl⟩) s ?_)
 rintro z r ⟨e0,rfl⟩ ha1 hd1;refine wpIn_ret ?_;show LeavesInM An 0 Zp Tryz.f288 r.tmps _ r.defers .returning _;rw[hd1,B];obtain⟨Q,g⟩:=(St.p1 g).turn (o':=.deferred A1);refine⟨by simp,.inl ⟨D,_,rfl,run_takeDeferred Q,?_⟩⟩;have o:=λw=>q77 (P:=Zp) (fn:=Tryz.f288) (a:=qi6 r) (R:=λv w'=>v=Zl p L.length c) (w:=w) (by rw[ap_res];rfl) ha1;obtain⟨v,C,J⟩:=o _;refine⟨v,C,v,rfl,L,p,c,J,U,?_⟩;exact g.drop.drop.drop
end
end AppS
end
section
set_option maxRecDepth 100000
namespace AppL
open Go Go.Proofs.YtfjifcfbmhpcaaaGreatDoor
abbrev ev:Nat->A2:=qc
abbrev eV(x:Nat):List A2:=[ev x]
def eV1(x:Nat):(eV x).length=1:=rfl
def eVn(x:Nat):∀v∈eV x,qn1 v:=λv h=>by simp only[eV,A9,A3,yK]at h;subst h;trivial
def uSl:Zp.underlying 214=A0 (.slice 75):=Tryz.underlying214
def iE:Zp.info? 75=A0 Tryz.t75:=by kernel_rfl
def sE:Tryz.t75.size=1:=rfl
def zE:∃z,Tryz.t75.zero=A0 z/\z.cells.size=1:=⟨_,rfl,rfl⟩
def bE:Tryz.t75.bytes<=100:=by decide+kernel
noncomputable def apC:Bn:=Tryz.f242.body.getD .skip
noncomputable def cR(i:Nat):Bn:=(q63 apC).getD i .skip
noncomputable def apA:Bn:=q7q (cR 2)
noncomputable def apB:Bn:=qzq (cR 2)
def ap_body:Tryz.f242.body=A0 apC:=by kernel_rfl
def ap_n:Tryz.f242.ntmps=13:=by kernel_rfl
def ap_eq:apC=.seq (.region 0 (qo1 (cR 0)) B3) (.seq (.seq (.region 1 (qo1 (cR 1)) B3) (.block 0 (.rangeFunc (.tmp 6) #[7] apA apB))) (.seq (.region 4 (qo1 (cR 3)) B3) .ret)):=by kernel_rfl
def apA_eq:apA=.region 2 (qo1 apA) B3:=by kernel_rfl
def apB_eq:apB=.block 1 (.region 3 (qo1 (inB apB)) B3):=by kernel_rfl
def tame0:(qo1 (cR 0)).toList.all qv5=Aq:=by kernel_rfl
def tame1:(qo1 (cR 1)).toList.all qv5=Aq:=by kernel_rfl
def tame2:(qo1 apA).toList.all qv5=Aq:=by kernel_rfl
def tame3:(qo1 (inB apB)).toList.all qv5=Aq:=by kernel_rfl
def tame4:(qo1 (cR 3)).toList.all qv5=Aq:=by kernel_rfl
section
variable(p:Option Addr)(n c:Nat)(w:World)(K:Env->World->Prop)(b2:Nat)(s:Value)
def ops_0:qy7 Zp 13 (qo1 (cR 0)).toList [(1,s),(0,Zl p n c)] w K=(qh #[Zl p n c] 214 w λb w=>K [(4,Zl A1 0 0),(2,Zq (A0 ⟨b,0,A1⟩)),(1,s),(0,Zl p n c)] w):=by kernel_rfl
def ops_1(e:Env):qy7 Zp 13 (qo1 (cR 1)).toList ((4,Zl A1 0 0)::(2,Zq (A0 ⟨b2,0,A1⟩))::(1,s)::e) w K=K ((6,s)::(4,Zl A1 0 0)::(2,Zq (A0 ⟨b2,0,A1⟩))::(1,s)::e) w:=by kernel_rfl
def ops_2(x:Nat)(e:Env):qy7 Zp 13 (qo1 apA).toList ((7,ev x)::e) w K=K ((5,ev x)::(7,ev x)::e) w:=by kernel_rfl
def ops_3(x:Nat):qy7 Zp 13 (qo1 (inB apB)).toList [(5,ev x),(2,Zq (A0 ⟨b2,0,A1⟩))] w K=
 LdL ⟨b2,0,A1⟩ w λq m d=>qh #[ev x] 75 w λb w=>Run Zp (Builtin.append_ #[214,214] 214 #[Zl q m d,.slice (A0 ⟨b,0,A1⟩) 1 1]) w λv w=>AsL v λc h a=>
  St1 ⟨b2,0,A1⟩ (.slice c h a) w λw=>K [(11,.slice c h a),(10,.slice (A0 ⟨b,0,A1⟩) 1 1),(9,ev x),(8,Zl q m d),(5,ev x),(2,Zq (A0 ⟨b2,0,A1⟩))] w:=by kernel_rfl
def ops_4:q5f Zp 13 (qo1 (cR 3)).toList [(2,Zq (A0 ⟨b2,0,A1⟩))] w K=
 LdL ⟨b2,0,A1⟩ w λq m d=>K [(4,Zl q m d),(12,Zl q m d),(2,Zq (A0 ⟨b2,0,A1⟩))] w:=by kernel_rfl
def ap_res(q:Option Bp)(m d:Nat)(e:Env)(K:List A2->Prop):q66 Zp Tryz.f242.results.toList ((4,Zl q m d)::e) w K=K [Zl q m d]:=by kernel_rfl
end
noncomputable def recC(fn:Ax)(tmps:Array A2)(D:Nat)(s:Ar):Loop:={ state:=s,pending:=A1,fn:=fn,tmps:=tmps,params:=#[7],assign:=apA,body:=apB,defers:=D}
def BufA(fn:Ax)(tmps:Array A2)(s:Ar)(l D b2:Nat)(L:List Nat):Asn:=exA λy:Option Bp×Nat=>qz [Pt l (.loop (recC fn tmps D s)),Pt D (.deferred (A0 [])),Row b2 214 [.slice y.1 L.length y.2],SlA 75 1 eV y.1 y.2 L]
def BufA.open_{W w:Aa}{F:List Asn}{fn:Ax}{tmps:Array A2}{s:Ar}{l D b2:Nat}{L:List Nat}(h:St W (BufA fn tmps s l D b2 L::F) w):
 ∃p c,St W (Pt l (.loop (recC fn tmps D s))::Pt D (.deferred (A0 []))::Row b2 214 [Zl p L.length c]::SlA 75 1 eV p c L::F) w:=by
 obtain⟨⟨p,c⟩,h⟩:=h.of_ex;exact⟨p,c,h.of_sep⟩
def BufA.shut{W w:Aa}{F:List Asn}{fn:Ax}{tmps:Array A2}{s:Ar}{l D b2:Nat}{L:List Nat}(p:Option Bp)(c:Nat)(h:St W (Pt l (.loop (recC fn tmps D s))::Pt D (.deferred (A0 []))::Row b2 214 [Zl p L.length c]::SlA 75 1 eV p c L::F) w):St W (BufA fn tmps s l D b2 L::F) w:=
 z01 (p,c) (zk (l:=[_,_,_,_]) h)
def fold_one(tmps:Array A2)(a:A2):(Bo (#[7]:Array Tmp) [a].toArray).foldl (λtmps (t,a)=>tmps.setIfInBounds t a) tmps=tmps.setIfInBounds 7 a:=by simp
section
variable{W w:World}{F M:List Asn}{fn:FuncId}{tmps:Array Value}{l D b2:Nat}{L:List Nat}
def round_spec(x:Nat)(s:qs1 13 [(2,Zq (A0 ⟨b2,0,A1⟩))] { tmps:=tmps,defers:=[]})(q:L.length<=1000000)
 (h:St W (BufA fn tmps .ready l D b2 L::F) w):
 RoundIn An 0 Zp l fn (tmps.setIfInBounds 7 (ev x)) apA apB w λt w'=>∃v,t=.returned v/\v=Zb Aq/\St W (BufA fn tmps .ready l D b2 (L++[x])::F) w':=by
 obtain⟨p,c,h⟩:=BufA.open_ h;refine roundIn_of_wpIn trivial ?_;have n:qx4 (An.inRound l):=.inr ⟨l,rfl⟩;have u:qs1 13 [(7,ev x),(2,Zq (A0 ⟨b2,0,A1⟩))] { tmps:=tmps.setIfInBounds 7 (ev x),defers:=[]}:=s.put1 (d:=7) (ev x) (by decide);rw[apA_eq];refine qk6 n tame2 (K:=λe' w'=>e'=[(5,ev x),(7,ev x),(2,Zq (A0 ⟨b2,0,A1⟩))]/\w'=w) (by rw[ops_2];exact⟨rfl,rfl⟩) u ?_;rintro A a2 B ⟨rfl,rfl⟩ ha2;have f:qs1 13 [(5,ev x),(2,Zq (A0 ⟨b2,0,A1⟩))] a2:=ha2.pick λy o=>by simp only[A9,A3,yK]at o;rcases o with rfl|rfl<;>rfl
 obtain⟨k,h⟩:=h.turn (o':=.loop (recC fn tmps D .busy));refine⟨_,run_beginRound k rfl,?_⟩;rw[apB_eq];refine wpIn_block (qk6 n tame3 (K:=λe' w'=>∃a e,St W (Pt l (.loop (recC fn tmps D .busy))::Pt D (.deferred (A0 []))::Row b2 214 [Zl a (L++[x]).length e]::SlA 75 1 eV a e (L++[x])::F) w') ?_ f ?_)
 .rw[ops_3];refine LdL.n 2 h rfl rfl (zh h λb w h=>?_);have h:St W (Row b 75 (Ay eV [x])::Pt l (.loop (recC fn tmps D .busy))::Pt D (.deferred (A0 []))::Row b2 214 [Zl p L.length c]::SlA 75 1 eV p c L::F) w:=h;obtain⟨z,r,i⟩:=zE;have m:=bE;refine qf3 (os:=L) (xs:=[x]) eV1 uSl (.inr ⟨_,uSl⟩) iE sE r i 4 h rfl (z07 0 rfl λF=>z0k) rfl eVn (by simp only[A6,A8];exact Nat.le_trans (Nat.mul_le_mul_left _ m) (by omega)) (by simp only[A6,A8];omega) λg j w h=>⟨_,_,_,rfl,?_⟩;refine z0m 3 h rfl (by simp) λw h=>⟨g,j,?_⟩;have h:St W (Row b 75 (Ay eV [x])::Pt l (.loop (recC fn tmps D .busy))::Pt D (.deferred (A0 []))::Row b2 214 [Zl g (L++[x]).length j]::SlA 75 1 eV g j (L++[x])::F) w:=h;exact h.drop
 .rintro C a3 E ⟨a,e,h⟩ _;obtain⟨k,h⟩:=h.turn (o':=.loop (recC fn tmps D .ready));exact⟨_,_,run_endRound A1 k,_,rfl,rfl,BufA.shut a e h⟩
def AppSeq_spec{d:Ax}{cap:A2}{N:Nat}{G:List Nat->Prop}(O:q33 Zp d=Aq)(V:N<=1000000)(m:q7b W ev d cap M N G)(g:St W M w):
 qb Zp 242 #[Zl A1 0 0,.func (.func d) #[] #[cap]] w λv w'=>∃L p c,v=Zl p (Bm L) c/\G L/\St W (SlA 75 1 eV p c L::M) w':=by
 refine(callsIn_wide (n:=0)).1 (callsIn_of_wp_marks Tryz.func242 ap_body trivial ?_);have q:qx4 An:=.inl rfl;have i:qs1 13 [(1,.func (.func d) #[] #[cap]),(0,Zl A1 0 0)] { tmps:=#[Zl A1 0 0,.func (.func d) #[] #[cap]]++As (Tryz.f242.ntmps -(#[Zl A1 0 0,.func (.func d) #[] #[cap]]).size) undef,defers:=[]}:=by
  rw[ap_n];refine⟨rfl,by simp,λt v u=>?_⟩;have:=q47 u;simp only[A9,A3,yK,Prod.mk.injEq]at this;rcases this with ⟨rfl,rfl⟩|⟨rfl,rfl⟩
  .rw[Ab,Ad (by simp)];rfl
  .rw[Ab,Ad (by simp)];rfl
 generalize ({ tmps:=#[Zl A1 0 0,.func (.func d) #[] #[cap]]++As (Tryz.f242.ntmps -(#[Zl A1 0 0,.func (.func d) #[] #[cap]]).size) undef,defers:=[]}:Act)=a at i;rw[ap_eq];refine wpIn_seq (qk6 q tame0 (K:=λe' w'=>∃b2,e'=[(4,Zl A1 0 0),(2,Zq (A0 ⟨b2,0,A1⟩)),(1,.func (.func d) #[] #[cap]),(0,Zl A1 0 0)]/\St W (Row b2 214 [Zl A1 0 0]::M) w') (by rw[ops_0];exact zh g λb w g=>⟨b,rfl,g⟩) i ?_);clear g;rintro z r w ⟨b2,rfl,g⟩ i;refine wpIn_seq (wpIn_seq (qk6 q tame1 (K:=λe' w'=>e'=[(6,.func (.func d) #[] #[cap]),(4,Zl A1 0 0),(2,Zq (A0 ⟨b2,0,A1⟩)),(1,.func (.func d) #[] #[cap]),(0,Zl A1 0 0)]/\w'=w) (by rw[ops_1];exact⟨rfl,rfl⟩) i ?_));rintro z a w ⟨rfl,rfl⟩ i;refine wpIn_block (wpIn_rangeFunc λfn _=>?_);have E:a.eval (.tmp 6)=.func (.func d) #[] #[cap]:=i.val 6 _ rfl;have k:=(g.alloc (.deferred (A0 []))).alloc (.loop (recC fn a.tmps w.heap.size .ready));rw[World.size_alloc]at k;refine⟨w.heap.size+1,[{ target:=.collected w.heap.size,args:=#[]}],(w.alloc (.deferred (A0 []))).alloc (.loop (recC fn a.tmps w.heap.size .ready)),{ target:=.fn (.func d) #[cap],args:=#[.func (.yield (w.heap.size+1)) #[] #[]]},(w.alloc (.deferred (A0 []))).alloc (.loop (recC fn a.tmps w.heap.size .ready)),d,
  #[.func (.yield (w.heap.size+1)) #[] #[],cap],(w.alloc (.deferred (A0 []))).alloc (.loop (recC fn a.tmps w.heap.size .ready)),run_enterLoop_outer _ _ _ _ _,?_,λ_ _=>trivial,?_,(λh=>by cases h),?_⟩
 .simp only[resolve,E];simp[go_sem]
 .simp only[invoke];exact q04 O _ _
 generalize w.heap.size=D at k;generalize D+1=l at k;generalize (w.alloc (.deferred (A0 []))).alloc (.loop (recC fn a.tmps D .ready))=w1 at k;clear g E;have g:St W (BufA fn a.tmps .ready l D b2 []::M) w1:=BufA.shut A1 0 (zf 0 3 (z0a (f:=eV) (e:=75) (size:=1) (p:=A1) k) rfl);have u:qs1 13 [(2,Zq (A0 ⟨b2,0,A1⟩))] { tmps:=a.tmps,defers:=[]}:=by
  have:=i.pick (e':=[(2,Zq (A0 ⟨b2,0,A1⟩))]) λy j=>by simp only[A9,A3,yK]at j;rcases j with rfl;rfl
  exact⟨rfl,this.size,this.val⟩
 have j:∀(X:List Asn) (L:List Nat) (x:Nat) (w:Aa) (K:A2->Aa->Prop),L.length<N->St W (BufA fn a.tmps .ready l D b2 L::X) w->(∀w',St W (BufA fn a.tmps .ready l D b2 (L++[x])::X) w'->K (Zb Aq) w')->q01 Zp 4 (.func (.yield l) #[] #[]) [ev x] w K:=λX L x w K Z g I=>by obtain⟨p,c,T⟩:=BufA.open_ g;refine .inr ⟨l,recC fn a.tmps D .ready,rfl,T.pt,rfl,?_⟩;have key:=round_spec x u (by omega) g;rw[<-fold_one]at key;exact RoundIn.mono key λz w' ⟨v,k,H,g⟩=>⟨v,k,by subst H;exact I _ g⟩
 refine qx4.calls q (Calls.mono (m _ _ _ j g) λe Y ⟨v,F,C,L,U,g⟩=>?_);subst F;obtain⟨p,c,g⟩:=BufA.open_ g;obtain⟨A,g⟩:=g.turn (o':=.loop (recC fn a.tmps D .exhausted));refine⟨A1,_,run_endLoop A (by simp[recC]),?_⟩;have B:a.defers=[]:=i.defers;have s:qs1 13 [(2,Zq (A0 ⟨b2,0,A1⟩))] (qi6 { a with defers:=[{ target:=.collected D,args:=#[]}]++a.defers}):=by
  have:=i.pick (e':=[(2,Zq (A0 ⟨b2,0,A1⟩))]) λy j=>by simp only[A9,A3,yK]at j;rcases j with rfl;rfl
  exact⟨rfl,this.size,this.val⟩
 refine wpIn_seq (qmj q tame4 (K:=λe' w'=>∃e0,e'=(4,Zl p L.length c)::e0) (by rw[ops_4];exact LdL.n 2 g rfl rfl ⟨_,rfl⟩) s ?_)
 rintro z r ⟨e0,rfl⟩ ha1 hd1;refine wpIn_ret ?_;show LeavesInM An 0 Zp Tryz.f242 r.tmps _ r.defers .returning _;rw[hd1,B];obtain⟨Q,g⟩:=(St.p1 g).turn (o':=.deferred A1);refine⟨by simp,.inl ⟨D,_,rfl,run_takeDeferred Q,?_⟩⟩;have o:=λw=>q77 (P:=Zp) (fn:=Tryz.f242) (a:=qi6 r) (R:=λv w'=>v=Zl p L.length c) (w:=w) (by rw[ap_res];rfl) ha1;obtain⟨v,C,J⟩:=o _;refine⟨v,C,v,rfl,L,p,c,J,U,?_⟩;exact g.drop.drop.drop
end
end AppL
end
def kS:qw2 Zp 9 Zs:=qw2.str uS
def qd1.part{κ ν:Type}{enc:κ->A2}{vl:ν->A2}{W w:Aa}{F:List Asn}{m c:Nat}{L V:List (κ×ν)}(h:St W (qd1 enc vl m c L V::F) w):V.length<=L.length:=by obtain⟨⟨es,a,seen,d⟩,h⟩:=h.of_ex;obtain⟨b,h⟩:=h.of_sep.of_pr;exact qmp (ql4 (·.1) b.nod) b.sub
def q58{κ ν:Type}[DecidableEq κ]{P:Bl}{a:Bh}{enc:κ->A2}(c:qw2 P a enc){vl:ν->A2}{W w:Aa}{A B:Asn}{F:List Asn}{m b:Nat}{L V:List (κ×ν)}{x:κ×ν}(h:St W (A::B::qd1 enc vl m b L (V++[x])::F) w):V.length<L.length:=by have:=qd1.part (h.at 2 rfl);rw[Ah]at this;simp only[A6,A8]at this;omega
def qqs{W:Aa}{F:List Asn}{ν:Type}{vl:ν->A2}{m cap N:Nat}{L:List (Int×ν)}(n:L.length<=N):
 q7b W (Zi Zk) 156 (Zq (A0 ⟨cap,0,A1⟩)) (Row cap 180 [.map (A0 m)]::qg (Zi Zk) vl m L::F) N λl=>l.Perm (L.map (·.1)):=λB o w j h=>by
 refine F156_of (LdM.n 1 h rfl rfl (qg9 Tryz.underlying180 2 h rfl λd w h=>⟨λvs w=>∃V:List (Int×ν),vs=[]/\St W (B (V.map (·.1))::Row cap 180 [.map (A0 m)]::qd1 (Zi Zk) vl m d L V::F) w,λ_ w=>q74 d L.length w,⟨[],rfl,h⟩,λw f=>?_⟩));clear h;obtain⟨V,_,h⟩:=f;have c:=qd1.left (h.at 2 rfl) L.length;refine qqb kI 2 h rfl (λb e a w' h=>⟨rfl,_,((A7 e (ql4 (·.1) (z18 kI (h.at 2 rfl)))).2 λx=>⟨a x,b x⟩).map _,h⟩) λx k g w' h=>qp9 2 h rfl λh=>⟨_,_,rfl,?_⟩;have hV:=q58 kI h;refine j _ _ x.1 _ _ (by rw[Au];omega) h λw' h=>⟨Aq,rfl,zl rfl ⟨⟨V++[x],rfl,by rw[Am];exact h⟩,?_⟩⟩;have i:=qd1.left (h.at 2 rfl) L.length;show q74 d L.length w'<q74 d L.length _;rw[i,c,Ah];simp only[A6,A8];omega
def qdu{W:Aa}{F:List Asn}{ν:Type}{vl:ν->A2}{m cap N:Nat}{L:List (Int×ν)}(n:L.length<=N):
 q7b W (Zi Zk) 65 (Zq (A0 ⟨cap,0,A1⟩)) (Row cap 79 [.map (A0 m)]::qg (Zi Zk) vl m L::F) N λl=>l.Perm (L.map (·.1)):=λB o w j h=>by
 refine F65_of (LdM.n 1 h rfl rfl (qg9 Tryz.underlying79 2 h rfl λd w h=>⟨λvs w=>∃V:List (Int×ν),vs=[]/\St W (B (V.map (·.1))::Row cap 79 [.map (A0 m)]::qd1 (Zi Zk) vl m d L V::F) w,λ_ w=>q74 d L.length w,⟨[],rfl,h⟩,λw f=>?_⟩));clear h;obtain⟨V,_,h⟩:=f;have c:=qd1.left (h.at 2 rfl) L.length;refine qqb kI 2 h rfl (λb e a w' h=>⟨rfl,_,((A7 e (ql4 (·.1) (z18 kI (h.at 2 rfl)))).2 λx=>⟨a x,b x⟩).map _,h⟩) λx k g w' h=>qp9 2 h rfl λh=>⟨_,_,rfl,?_⟩;have hV:=q58 kI h;refine j _ _ x.1 _ _ (by rw[Au];omega) h λw' h=>⟨Aq,rfl,zl rfl ⟨⟨V++[x],rfl,by rw[Am];exact h⟩,?_⟩⟩;have i:=qd1.left (h.at 2 rfl) L.length;show q74 d L.length w'<q74 d L.length _;rw[i,c,Ah];simp only[A6,A8];omega
def qvt{W:Aa}{F:List Asn}{ν:Type}{vl:ν->A2}{m cap N:Nat}{L:List (ByteArray×ν)}(n:L.length<=N):
 q7b W Zs 239 (Zq (A0 ⟨cap,0,A1⟩)) (Row cap 166 [.map (A0 m)]::qg Zs vl m L::F) N λl=>l.Perm (L.map (·.1)):=λB o w j h=>by
 refine F239_of (LdM.n 1 h rfl rfl (qg9 Tryz.underlying166 2 h rfl λd w h=>⟨λvs w=>∃V:List (ByteArray×ν),vs=[]/\St W (B (V.map (·.1))::Row cap 166 [.map (A0 m)]::qd1 Zs vl m d L V::F) w,λ_ w=>q74 d L.length w,⟨[],rfl,h⟩,λw f=>?_⟩));clear h;obtain⟨V,_,h⟩:=f;have c:=qd1.left (h.at 2 rfl) L.length;refine qqb kS 2 h rfl (λb e a w' h=>⟨rfl,_,((A7 e (ql4 (·.1) (z18 kS (h.at 2 rfl)))).2 λx=>⟨a x,b x⟩).map _,h⟩) λx k g w' h=>qp9 2 h rfl λh=>⟨_,_,rfl,?_⟩;have hV:=q58 kS h;refine j _ _ x.1 _ _ (by rw[Au];omega) h λw' h=>⟨Aq,rfl,zl rfl ⟨⟨V++[x],rfl,by rw[Am];exact h⟩,?_⟩⟩;have i:=qd1.left (h.at 2 rfl) L.length;show q74 d L.length w'<q74 d L.length _;rw[i,c,Ah];simp only[A6,A8];omega
def qps{W:Aa}{F:List Asn}{m cap N:Nat}{L:List (Int×Nat)}(n:L.length<=N):
 q7b W qc 163 (Zq (A0 ⟨cap,0,A1⟩)) (Row cap 78 [.map (A0 m)]::qg (Zi Zk) qc m L::F) N λl=>l.Perm (L.map (·.2)):=λB o w j h=>by
 refine F163_of (LdM.n 1 h rfl rfl (qg9 Tryz.underlying78 2 h rfl λd w h=>⟨λvs w=>∃V:List (Int×Nat),vs=[]/\St W (B (V.map (·.2))::Row cap 78 [.map (A0 m)]::qd1 (Zi Zk) qc m d L V::F) w,λ_ w=>q74 d L.length w,⟨[],rfl,h⟩,λw f=>?_⟩));clear h;obtain⟨V,_,h⟩:=f;have c:=qd1.left (h.at 2 rfl) L.length;refine qqb kI 2 h rfl (λb e a w' h=>⟨rfl,_,((A7 e (ql4 (·.1) (z18 kI (h.at 2 rfl)))).2 λx=>⟨a x,b x⟩).map _,h⟩) λx k g w' h=>qp9 2 h rfl λh=>⟨_,_,rfl,?_⟩;have hV:=q58 kI h;refine j _ _ x.2 _ _ (by rw[Au];omega) h λw' h=>⟨Aq,rfl,zl rfl ⟨⟨V++[x],rfl,by rw[Am];exact h⟩,?_⟩⟩;have i:=qd1.left (h.at 2 rfl) L.length;show q74 d L.length w'<q74 d L.length _;rw[i,c,Ah];simp only[A6,A8];omega
section
section
variable{κ α β:Type}
def qx(f:α->β)(L:List (κ×α)):List (κ×β):=L.map λy=>(y.1,f y.2)
def qx5(f:α->β)(L:List (κ×α)):(qx f L).map (·.1)=L.map (·.1):=by simp[qx,Function.comp_def]
def q46(f:α->β)(L:List (κ×α)):(qx f L).length=L.length:=by simp[qx]
end
section
variable{κ α β:Type}[DecidableEq κ]
def q62(f:α->β)(L:List (κ×α))(k:κ):qe (qx f L) k=(qe L k).map f:=by
 induction L with
 |nil=>rfl
 |cons x r ih=>
  unfold qx at ih⊢;simp only[B4,qe];split;.rfl
  .exact ih
def qt2(f:α->β)(L:List (κ×α))(k:κ)(v:α):qk (qx f L) k (f v)=qx f (qk L k v):=by
 induction L with
 |nil=>rfl
 |cons x r ih=>
  unfold qx at ih⊢;simp only[B4,qk];split;.rfl
  .rw[ih];rfl
def qo7(f:α->β)(L:List (κ×α))(k:κ):qp (qx f L) k=qx f (qp L k):=by
 induction L with
 |nil=>rfl
 |cons x r ih=>
  unfold qx at ih⊢;simp only[B4,qp];split;.rfl
  .rw[ih];rfl
def qt1{L:List (κ×α)}{k:κ}{v:α}(h:qe L k=A0 v):qk L k v=L:=by
 induction L with
 |nil=>simp[qe]at h
 |cons x r w=>
  simp only[qe]at h;simp only[qk];split at h
  .rename_i e;cases h;rw[yB e,<-e]
  .rename_i e;rw[yA e,w h]
def adel_aset(L:List (κ×α))(k:κ)(v:α):qp (qk L k v) k=qp L k:=by
 induction L with
 |nil=>simp[qk,qp]
 |cons x r h=>
  simp only[qk];split
  .rename_i e;simp only[qp,yB e,if_true]
  .rename_i e;simp only[qp,yA e,h]
def aget_perm{L:List (κ×α)}{k:κ}{v:α}(h:qe L k=A0 v):L.Perm ((k,v)::qp L k):=by
 induction L with
 |nil=>simp[qe]at h
 |cons x r w=>
  simp only[qe]at h;simp only[qp];split at h
  .rename_i e;cases h;rw[yB e,<-e]
  .rename_i e;rw[yA e];exact((w h).cons x).trans (List.Perm.swap _ _ _)
def qj1(L:List (κ×α))(k:κ)(v:α):qe (qk L k v) k=A0 v:=by rw[qh2,yB rfl]
def qe7(L:List (κ×α))(k:κ)(u v:α):qk (qk L k u) k v=qk L k v:=by
 induction L with
 |nil=>simp[qk]
 |cons x r h=>
  simp only[qk];split;.rename_i e;simp[qk]
  .rename_i e;simp only[qk,yA e,h]
end
section
variable{κ δ:Type}
def qr(enc:κ->A2)(m:Nat)(A:Nat->δ->Asn)(L:List (κ×δ)):Asn:=exA λbs:List (κ×Nat×δ)=>qz [prA (qx (B1 (α:=Nat) (β:=δ)) bs=L),qg enc qc m (qx (A4 (α:=Nat) (β:=δ)) bs),qz (bs.map λy=>A y.2.1 y.2.2)]
def qw(enc:κ->A2)(m:Nat)(A:Nat->δ->Asn)[DecidableEq κ](L:List (κ×δ))(k:κ)(b:Nat):Asn:=exA λbs:List (κ×Nat×δ)=>qz [prA (qx (B1 (α:=Nat) (β:=δ)) bs=L/\∃d,qe bs k=A0 (b,d)),qg enc qc m (qx (A4 (α:=Nat) (β:=δ)) bs),qz ((qp bs k).map λy=>A y.2.1 y.2.2)]
variable{P:Program}{kt et mt:TypeId}{enc:κ->Value}{m b:Nat}{A:Nat->δ->Asn}{L:List (κ×δ)}{k:κ}{W w:World}{F:List Asn}
def qr.open_(h:St W (qr enc m A L::F) w):∃bs,qx (B1 (α:=Nat) (β:=δ)) bs=L/\St W (qg enc qc m (qx (A4 (α:=Nat) (β:=δ)) bs)::qz (bs.map λy=>A y.2.1 y.2.2)::F) w:=by obtain⟨bs,h⟩:=h.of_ex;obtain⟨a,h⟩:=h.of_sep.of_pr;exact⟨bs,a,h⟩
def qr.shut(bs:List (κ×Nat×δ))(a:qx (B1 (α:=Nat) (β:=δ)) bs=L)(h:St W (qg enc qc m (qx (A4 (α:=Nat) (β:=δ)) bs)::qz (bs.map λy=>A y.2.1 y.2.2)::F) w):St W (qr enc m A L::F) w:=
 z01 bs (zk (l:=[_,_,_]) (z02 a h))
def q6n{l r:List Asn}(a:l.Perm r)(h:St W (qz l::F) w):St W (qz r::F) w:=zk (h.of_sep.perm (a.append_right F))
def qf5{X:Asn}{l r:List Asn}(b:l.Perm (X::r))(h:St W (qz l::F) w):St W (X::qz r::F) w:=(zk (l:=r) (z0c (St.of_sep (q6n b h)) (B9 (l₁:=r) (a:=X) (l₂:=F)).symm)).p1
def q95{X:Asn}{l r:List Asn}(a:(X::r).Perm l)(h:St W (X::qz r::F) w):St W (qz l::F) w:=q6n a (zk (l:=X::r) (z0c (St.of_sep h.p1) B9))
def qr.keys(a:qw2 P kt enc)(h:St W (qr enc m A L::F) w):(L.map (·.1)).Nodup:=by obtain⟨bs,c,b⟩:=qr.open_ h;have:=z18 a b;rw[qx5]at this;rw[<-c,qx5];exact this
end
section
variable{κ δ:Type}[DecidableEq κ]{P:Program}{kt et mt:TypeId}{enc:κ->Value}{m b:Nat}{A:Nat->δ->Asn}{L:List (κ×δ)}{k:κ}{W w:World}{F:List Asn}
def qw.open_(h:St W (qw enc m A L k b::F) w):∃bs,(qx (B1 (α:=Nat) (β:=δ)) bs=L/\∃d,qe bs k=A0 (b,d))/\St W (qg enc qc m (qx (A4 (α:=Nat) (β:=δ)) bs)::qz ((qp bs k).map λy=>A y.2.1 y.2.2)::F) w:=by obtain⟨bs,h⟩:=h.of_ex;obtain⟨a,h⟩:=h.of_sep.of_pr;exact⟨bs,a,h⟩
def qw.shut(bs:List (κ×Nat×δ))(a:qx (B1 (α:=Nat) (β:=δ)) bs=L/\∃d,qe bs k=A0 (b,d))(h:St W (qg enc qc m (qx (A4 (α:=Nat) (β:=δ)) bs)::qz ((qp bs k).map λy=>A y.2.1 y.2.2)::F) w):St W (qw enc m A L k b::F) w:=
 z01 bs (zk (l:=[_,_,_]) (z02 a h))
def qr.take{d:δ}(a:qe L k=A0 d)(h:St W (qr enc m A L::F) w):∃b,St W (A b d::qw enc m A L k b::F) w:=by obtain⟨bs,i,j⟩:=qr.open_ h;subst i;rw[q62]at a;obtain⟨⟨b,c⟩,e,rfl⟩:=Option.map_eq_some_iff.1 a;refine⟨b,?_⟩;have f:=qf5 ((aget_perm e).map λy:κ×Nat×δ=>A y.2.1 y.2.2) j.p1;have g:St W (qg enc qc m (qx (A4 (α:=Nat) (β:=δ)) bs)::qz ((qp bs k).map λy=>A y.2.1 y.2.2)::A b c::F) w:=zf 1 2 (zf 2 0 f rfl) rfl;exact(qw.shut bs ⟨rfl,c,e⟩ g).p1
def qr.give{d:δ}(h:St W (A b d::qw enc m A L k b::F) w):St W (qr enc m A (qk L k d)::F) w:=by
 obtain⟨bs,⟨g,d0,c⟩,i⟩:=qw.open_ h.p1;subst g;have a:St W (A b d::qz ((qp bs k).map λy=>A y.2.1 y.2.2)::qg enc qc m (qx (A4 (α:=Nat) (β:=δ)) bs)::F) w:=zf 1 0 (zf 0 2 i rfl) rfl;have f:=q95 (l:=(qk bs k (b,d)).map λy=>A y.2.1 y.2.2) (by have:=(aget_perm (qj1 bs k (b,d))).map λy:κ×Nat×δ=>A y.2.1 y.2.2;rw[adel_aset]at this;exact this.symm) a
 refine qr.shut (qk bs k (b,d)) (by rw[<-qt2]) ?_;have e:qx (A4 (α:=Nat) (β:=δ)) (qk bs k (b,d))=qx (A4 (α:=Nat) (β:=δ)) bs:=by rw[<-qt2];exact qt1 (by rw[q62,c];rfl)
 rw[e];exact f.p1
end
section
variable{κ δ:Type}[DecidableEq κ]{P:Program}{kt et mt:TypeId}{enc:κ->Value}{m b:Nat}{A:Nat->δ->Asn}{L:List (κ×δ)}{k:κ}{W w:World}{l F:List Asn}
def qr.none_i(e:qw2 P kt enc)(f:P.underlying mt=A0 (.map kt et)){h:Bi}(i:P.info? et=A0 h)(d:h.zero=A0 (Zq A1)){K:A2->Aa->Prop}(n:Nat)(c:St W l w)(o:nth l n=A0 (qr enc m A L))(a:qe L k=A1)(ok:Bool)
 (g:K (if ok=Aq then Zt #[Zq A1,Zb B3]else Zq A1) w):Run P (Av mt (.map (A0 m)) (enc k) ok) w K:=by
 obtain⟨bs,j,b⟩:=qr.open_ (c.at n o);refine qq1 e f i d 0 b rfl k ok ?_;rw[<-j,q62,Option.map_eq_none_iff]at a;rw[q62,a];exact g
def qw.some_i(f:qw2 P kt enc)(g:P.underlying mt=A0 (.map kt et)){h:Bi}(o:P.info? et=A0 h)(e:h.zero=A0 (Zq A1)){K:A2->Aa->Prop}(n:Nat)(c:St W l w)(p:nth l n=A0 (qw enc m A L k b))(ok:Bool)
 (i:K (if ok=Aq then Zt #[qc b,Zb Aq]else qc b) w):Run P (Av mt (.map (A0 m)) (enc k) ok) w K:=by
 obtain⟨bs,⟨q,d,j⟩,a⟩:=qw.open_ (c.at n p);refine qq1 f g o e 0 a rfl k ok ?_;rw[q62,j];exact i
def qw.del_i(f:qw2 P kt enc)(i:P.underlying mt=A0 (.map kt et)){ty:Bh}{K:A2->Aa->Prop}(n:Nat)(e:St W l w)(a:nth l n=A0 (qw enc m A L k b))
 (g:∀w',St W (put l n [qr enc m A (qp L k)]) w'->K (Zt #[]) w'):Run P (Builtin.delete_ #[mt,kt] ty #[.map (A0 m),enc k]) w K:=by
 obtain⟨bs,⟨j,d,o⟩,c⟩:=qw.open_ (e.at n a);refine qc5 f i 0 c rfl k λw' h=>g w' (z06 n a (B:=[_]) (qr.shut (qp bs k) (by rw[<-j,qo7]) ?_));rw[qo7]at h;exact h
def qr.deln_i(d:qw2 P kt enc)(f:P.underlying mt=A0 (.map kt et)){ty:Bh}{K:A2->Aa->Prop}(n:Nat)(c:St W l w)(a:nth l n=A0 (qr enc m A L))
 (e:∀w',St W (put l n [qr enc m A (qp L k)]) w'->K (Zt #[]) w'):Run P (Builtin.delete_ #[mt,kt] ty #[.map (A0 m),enc k]) w K:=by
 obtain⟨bs,g,b⟩:=qr.open_ (c.at n a);refine qc5 d f 0 b rfl k λw' h=>e w' (z06 n a (B:=[_]) (qr.shut (qp bs k) (by rw[<-g,qo7]) ?_));rw[qo7]at h;have h:St W (qg enc qc m (qx (A4 (α:=Nat) (β:=δ)) (qp bs k))::qz (bs.map λy=>A y.2.1 y.2.2)::del l n) w':=h;have i:=h.p1.of_sep;cases hg:qe bs k with
 |none=>rw[ql6 hg]at h⊢;exact h
 |some v=>exact((qf5 ((aget_perm hg).map λy:κ×Nat×δ=>A y.2.1 y.2.2) h.p1).drop).p1
def qr.set_i(q:qw2 P kt enc)(s:P.underlying mt=A0 (.map kt et)){K:Aa->Prop}{d:δ}(i n:Nat)(p:St W l w)(u:nth l i=A0 (A b d))(g:nth (del l i) n=A0 (qr enc m A L))
 (t:∀w',St W (put (del l i) n [qr enc m A (qk L k d)]) w'->K w'):qt8 P (Be mt (.map (A0 m)) (enc k) (qc b)) w K:=by
 have j:=p.at i u;have r:St W (qr enc m A L::(del (del l i) n++[A b d])) w:=by have o:=(zf 0 (del l i).length j rfl);have c:St W (del l i++[A b d]) w:=j.last;have f:nth (del l i++[A b d]) n=A0 (qr enc m A L):=(qr4 [A b d] g).1;have a:=c.at n f;rw[(qr4 [A b d] g).2.1]at a;exact a
 obtain⟨bs,x,o⟩:=qr.open_ r;refine qh1 q s 0 o rfl k b λw' h=>t w' (z06 n g (B:=[_]) ?_);have h:St W (qg enc qc m (qk (qx (A4 (α:=Nat) (β:=δ)) bs) k b)::qz (bs.map λy=>A y.2.1 y.2.2)::(del (del l i) n++[A b d])) w':=h;have e:qk (qx (A4 (α:=Nat) (β:=δ)) bs) k b=qx (A4 (α:=Nat) (β:=δ)) (qk bs k (b,d)):=by rw[<-qt2]
 rw[e]at h;refine qr.shut (qk bs k (b,d)) (by rw[<-qt2,x]) ?_;have c:St W (qz (bs.map λy=>A y.2.1 y.2.2)::qg enc qc m (qx (A4 (α:=Nat) (β:=δ)) (qk bs k (b,d)))::(del (del l i) n++[A b d])) w':=h.p1;have f:St W (qz ((qp bs k).map λy=>A y.2.1 y.2.2)::qg enc qc m (qx (A4 (α:=Nat) (β:=δ)) (qk bs k (b,d)))::(del (del l i) n++[A b d])) w':=by
  cases hg:qe bs k with
  |none=>rw[ql6 hg];exact c
  |some v=>exact(qf5 ((aget_perm hg).map λy:κ×Nat×δ=>A y.2.1 y.2.2) c).drop
 have a:St W (A b d::qz ((qp bs k).map λy=>A y.2.1 y.2.2)::qg enc qc m (qx (A4 (α:=Nat) (β:=δ)) (qk bs k (b,d)))::del (del l i) n) w':=z0c (l:=(qz ((qp bs k).map λy=>A y.2.1 y.2.2)::qg enc qc m (qx (A4 (α:=Nat) (β:=δ)) (qk bs k (b,d)))::del (del l i) n)++[A b d]) f (Ae _ _);exact(q95 (l:=(qk bs k (b,d)).map λy=>A y.2.1 y.2.2) (by have:=(aget_perm (qj1 bs k (b,d))).map λy:κ×Nat×δ=>A y.2.1 y.2.2;rw[adel_aset]at this;exact this.symm) a).p1
end
def z0h:=@qw.some_i
def z0n:=@qr.give
def z0w:=@qr.none_i
def z15:=@qr.take
def z19:=@qr.shut
def z1e:=@qr.open_
end
section
open Go Go.MapKept
def q901(a b:ByteArray)(n:Nat)(w:Aa):(Op.equalIn (n+1) 9 (Zs a) (Zs b)).run Zp w=.ok (a==b) w:=by have h:Zp.underlying 9=A0 .string:=Tryz.underlying9;unfold Op.equalIn;simp[run_underlying h,A5]
def kkV(k:ByteArray×ByteArray):A2:=Zg #[Zs k.1,Zs k.2]
def uKK:Zp.underlying 326=A0 (.array 2 9):=Tryz.underlying326
def qt01(w:Aa):(sizeOf 9).run Zp w=.ok 1 w:=by
 have h:Zp.info? 9=A0 Tryz.t9:=by kernel_rfl
 simp[sizeOf,typeInfo,h];rfl
def qpf(a b:ByteArray)(w:Aa):(part 9 #[Zs a,Zs b] 0).run Zp w=.ok (Zs a) w/\(part 9 #[Zs a,Zs b] 1).run Zp w=.ok (Zs b) w:=by constructor<;>kernel_rfl
def q6x(k:ByteArray×ByteArray)(e:Bool)(w:Aa):(Bj e 10000 326 (kkV k)).run Zp w=.ok () w:=by kernel_rfl
def q9h(a b:ByteArray×ByteArray)(w:Aa):(Op.equal 326 (kkV a) (kkV b)).run Zp w=.ok (decide (a=b)) w:=by
 unfold Op.equal Op.maxDepth Op.equalIn kkV;have i:=λa b w=>q901 a b 9998 w;simp only[Nat.reduceAdd]at i;simp[run_underlying uKK,A5,qt01];rw[show List.range' 0 2=[0,1]from rfl];simp only[List.forIn_cons,List.forIn_nil,Sem.run_bind,A5,(qpf _ _ _).1,(qpf _ _ _).2,i];obtain⟨d,a2⟩:=a;obtain⟨g,f⟩:=b;by_cases h:(d==g)=Aq
 .rw[h];by_cases c:(a2==f)=Aq
  .have k:=(Ak d g).1 h;have j:=(Ak a2 f).1 c;subst k j;simp[A5,(qpf _ _ _).1,(qpf _ _ _).2,i,c]
  .have j:a2≠f:=λe=>c ((Ak a2 f).2 e);rw[Ba]at c;simp[A5,(qpf _ _ _).1,(qpf _ _ _).2,i,c,j]
 .have k:d≠g:=λe=>h ((Ak d g).2 e);rw[Ba]at h;rw[h];simp[A5,k]
structure q2d(P:Bl)(kt:Bh){κ:Type}(enc:κ->A2):Prop where
 inj:∀a b,enc a=enc b->a=b
 check:∀k e w,(Bj e 10000 kt (enc k)).run P w=.ok () w
 find:∀k (es:List Ao) w,(∀x∈es,∃k',x.key=enc k')->((Ai kt (enc k) es).run P w=.ok A1 w/\∀x∈es,x.key≠enc k)\/∃j e,(Ai kt (enc k) es).run P w=.ok (A0 (j,e.val)) w/\es[j]?=A0 e/\e.key=enc k
 stays:∀k w,(B6 (enc k) (enc k)).run P w=.ok (enc k) w
def q2d.of{P:Bl}{kt:Bh}{κ:Type}{enc:κ->A2}(g:qw2 P kt enc):q2d P kt enc:=by
 obtain⟨d,b,a⟩:=g.kind;refine⟨g.inj,λk e w=>run_checkKey b (a k) e 9999,λk es w h=>?_,λk w=>run_keyThatStays (a k)⟩;rcases findNow_spec (a k) es 0 (λx l=>by obtain⟨i,e⟩:=h x l;rw[e];exact a i)with ⟨c,f⟩|⟨j,e,c,f,m⟩
 .exact .inl ⟨run_findKey b c,f⟩
 .exact .inr ⟨j,e,by rw[run_findKey b c,Nat.zero_add],f,m⟩
def q1t(k:ByteArray×ByteArray)(w:Aa):∀(es:List Ao) (i:Nat),(∀x∈es,∃c,x.key=kkV c)->
 ((Ag 326 (kkV k) es i).run Zp w=.ok A1 w/\∀x∈es,x.key≠kkV k)\/∃j e,(Ag 326 (kkV k) es i).run Zp w=.ok (A0 (i+j,e.val)) w/\es[j]?=A0 e/\e.key=kkV k
 |[],i,_=>.inl ⟨rfl,by simp⟩
 |x::r,i,h=>by
  obtain⟨c,a⟩:=h x (.head _);by_cases e:k=c
  .refine .inr ⟨0,x,?_,rfl,by rw[a,e]⟩;simp[Ag,a,q9h,A5,e]
  .have d:x.key≠kkV k:=λq=>e (by rw[a]at q;unfold kkV at q;cases k;cases c;simp at q;simp[q.1,q.2]);rcases q1t k w r (i+1) (λy b=>h y (.tail _ b))with ⟨f,g⟩|⟨j,y,f,g,l⟩
   .refine .inl ⟨?_,λy b=>?_⟩;.simp[Ag,a,q9h,A5,e,f]
    .cases b with
     |head=>exact d
     |tail _ b=>exact g y b
   .refine .inr ⟨j+1,y,?_,by simpa using g,l⟩;simp[Ag,a,q9h,A5,e,f];omega
def kKK:q2d Zp 326 kkV:=by
 refine⟨λa b h=>?_,q6x,λk es w h=>?_,λk w=>?_⟩;.unfold kkV at h;cases a;cases b;simp at h;simp[h.1,h.2]
 .cases es with
  |nil=>refine .inl ⟨?_,by simp⟩;simp[Ai,run_underlying uKK,A5,B5]
  |cons x r=>
   have g:B5 (.array 2 9) (kkV k) (x::r) 0=A1:=by obtain⟨l,d⟩:=h x (.head _);simp[B5,Instr.sameNow,d,kkV]
   have i:(Ai 326 (kkV k) (x::r)).run Zp w=(Ag 326 (kkV k) (x::r)).run Zp w:=by simp[Ai,run_underlying uKK,A5,g]
   rw[i];rcases q1t k w (x::r) 0 h with c|⟨j,e,c,f⟩;.exact .inl c
   .exact .inr ⟨j,e,by rw[c,Nat.zero_add],f⟩
 .have c:∀a:ByteArray,(a==a)=Aq:=λa=>(Ak a a).2 rfl;simp[B6,kkV,Instr.sameBits,c]
section
variable{κ ν:Type}{P:Program}{kt et mt:TypeId}{enc:κ->Value}{vl:ν->Value}{W w:World}{l:List Asn}{m:Nat}{L:List (κ×ν)}
def qip(f:q2d P kt enc){es:Array Ao}{w:Nat}(d:Stamped es w)(h:es.toList.map (λe=>(e.key,e.val))=qk3 enc vl L):(L.map (·.1)).Nodup:=by have:=d.2.2;rw[qdb h]at this;exact List.Pairwise.of_map enc (λa b c e=>c (yE enc e)) this
def qs6(enc:κ->A2)(vl:ν->A2)(m:Nat)(L:List (κ×ν))(k:κ)(t:Nat):Asn:=exA λx:Array Ao×Nat=>qz [
 prA ((Stamped x.1 x.2/\x.1.toList.map (λe=>(e.key,e.val))=qk3 enc vl L)/\∃(j:Nat) (e:Ao),x.1.toList[j]?=A0 e/\e.key=enc k/\e.born=t),Pt m (.map x.1 x.2)]
def qs6.weak{h:Hp}{k:κ}{t:Nat}(c:qs6 enc vl m L k t h):qg enc vl m L h:=by obtain⟨x,d,w,⟨b,_⟩,a⟩:=c;exact⟨x,d,w,b,a⟩
def qs6.shut{F:List Asn}{k:κ}{t j a:Nat}{es:Array Ao}{e:Ao}(d:Stamped es a)(g:es.toList.map (λe=>(e.key,e.val))=qk3 enc vl L)(f:es.toList[j]?=A0 e)(c:e.key=enc k)(b:e.born=t)(h:St W (Pt m (.map es a)::F) w):St W (qs6 enc vl m L k t::F) w:=
 z01 (es,a) (zk (l:=[_,_]) (z02 ⟨⟨d,g⟩,j,e,f,c,b⟩ h))
def qs6.open_{F:List Asn}{k:κ}{t:Nat}(h:St W (qs6 enc vl m L k t::F) w):∃es a,(Stamped es a/\es.toList.map (λe=>(e.key,e.val))=qk3 enc vl L)/\(∃(j:Nat) (e:Ao),es.toList[j]?=A0 e/\e.key=enc k/\e.born=t)/\St W (Pt m (.map es a)::F) w:=by obtain⟨⟨es,a⟩,h⟩:=h.of_ex;obtain⟨⟨c,b⟩,h⟩:=h.of_sep.of_pr;exact⟨es,a,c,b,h⟩
end
section
variable{κ ν:Type}[DecidableEq κ]{P:Program}{kt et mt:TypeId}{enc:κ->Value}{vl:ν->Value}{W w:World}{l:List Asn}{m:Nat}{L:List (κ×ν)}
def qyt(g:q2d P kt enc){es:Array Ao}{a:Nat}(p:Stamped es a)(h:es.toList.map (λe=>(e.key,e.val))=qk3 enc vl L)(k:κ)(w:Aa):
 (qe L k=A1/\(Ai kt (enc k) es.toList).run P w=.ok A1 w/\∀x∈es.toList,x.key≠enc k)\/∃(j:Nat) (e:Ao) (v:ν),qe L k=A0 v/\(Ai kt (enc k) es.toList).run P w=.ok (A0 (j,vl v)) w/\es.toList[j]?=A0 e/\L[j]?=A0 (k,v)/\e.key=enc k/\e.val=vl v:=by
 rcases g.find k es.toList w (λx d=>by obtain⟨j,q⟩:=List.getElem?_of_mem d;obtain⟨c,l,_,e,_⟩:=qeb h q;exact⟨c,e⟩)with ⟨i,b⟩|⟨j,e,i,b,m⟩
 .refine .inl ⟨qm8.2 λx d e=>?_,i,b⟩;have:enc x.1∈es.toList.map (·.key):=by rw[qdb h];exact B7.2 ⟨_,B7.2 ⟨x,d,rfl⟩,rfl⟩
  obtain⟨y,s,f⟩:=B7.1 this;exact b y s (by rw[f,e])
 .obtain⟨c,l,o,r,n⟩:=qeb h b;have:c=k:=g.inj _ _ (r.symm.trans m);subst this;exact .inr ⟨j,e,l,q0p (qip g p h) o,by rw[i,n],b,o,m,n⟩
def q6e(c:q2d P kt enc)(g:P.underlying mt=A0 (.map kt et)){z:A2}{h:Bi}(s:P.info? et=A0 h)(p:h.zero=A0 z){F:A2->Aa->Prop}(n:Nat)(o:St W l w)(t:nth l n=A0 (qg enc vl m L))(k:κ)(ok:Bool)
 (u:F (if ok=Aq then Zt #[((qe L k).map vl).getD z,Zb (qe L k).isSome]else((qe L k).map vl).getD z) w):Run P (Av mt (.map (A0 m)) (enc k) ok) w F:=by
 obtain⟨es,a,q,r,f⟩:=z1d (o.at n t);have i:=(f.turn (o':=.map #[] 0)).1;refine⟨_,w,?_,u⟩;rcases qyt c q r k w with ⟨d,b,_⟩|⟨j,e,v,d,b,_⟩
 .simp[Av,run_underlying g,Ac i,c.check,b,d,zeroValue,typeInfo,s,p]
 .simp[Av,run_underlying g,Ac i,c.check,b,d]
def qve(g:q2d P kt enc)(D:P.underlying mt=A0 (.map kt et)){z:ν}{c:Bi}(H:P.info? et=A0 c)(F:c.zero=A0 (vl z)){K:A2->Aa->Prop}(n:Nat)(G:St W l w)(u:nth l n=A0 (qg enc vl m L))(k:κ)
 (E:∀(t:Nat) w',St W (put l n [qs6 enc vl m (qk L k ((qe L k).getD z)) k t]) w'->K (Zt #[vl ((qe L k).getD z),Zi Zk (t:Int)]) w'):Run P (B2 mt (.map (A0 m)) (enc k)) w K:=by
 obtain⟨es,h,y,s,b⟩:=z1d (G.at n u);have p:=(b.turn (o':=.map #[] 0)).1;rcases qyt g y s k w with ⟨a,r,C⟩|⟨j,e,v,a,r,C,I,A,J⟩
 .have q:Stamped (es.push { key:=enc k,val:=vl z,born:=h}) (h+1):=stamped_push y C;have x:(es.push { key:=enc k,val:=vl z,born:=h}).toList.map (λe=>(e.key,e.val))=qk3 enc vl (qk L k z):=by rw[qbc a];simp[qk3,s]
  refine⟨_,_,?_,E h { w with heap:=w.heap.setIfInBounds m (.map (es.push { key:=enc k,val:=vl z,born:=h}) (h+1))} (z06 n u (B:=[_]) (qs6.shut (j:=es.size) (e:={ key:=enc k,val:=vl z,born:=h}) q ?_ (by simp) rfl rfl b.turn.2))⟩;.simp[B2,run_underlying D,Ac p,g.check,r,a,zeroValue,typeInfo,H,F,run_setObj_map _ p,goInt]
  .rw[a];exact x
 .have o:es[j]?=A0 e:=by simpa using C
  have q:Stamped (es.modify j λe=>{ e with key:=enc k}) h:=stamped_modify y _ _ (λ_ _=>rfl) (λe' _ d=>by rw[o]at d;cases d;exact A.symm);have x:(es.modify j λe=>{ e with key:=enc k}).toList.map (λe=>(e.key,e.val))=qk3 enc vl (qk L k v):=by
   rw[qt1 a,<-s];refine Aw λi=>?_;simp only[Af,Aj,Ap];by_cases f:j=i;.subst f;simp[o,A]
   .simp[f]
  refine⟨_,_,?_,E e.born { w with heap:=w.heap.setIfInBounds m (.map (es.modify j λe=>{ e with key:=enc k}) h)} (z06 n u (B:=[_]) (qs6.shut (j:=j) (e:={ e with key:=enc k}) q ?_ (by simp[Ap,o]) rfl rfl b.turn.2))⟩;.simp[B2,run_underlying D,Ac p,g.check,r,a,o,A,g.stays,run_setObj_map _ p,goInt]
  .rw[a];exact x
def qvb(s:q2d P kt enc){K:Aa->Prop}{k:κ}{t:Nat}{u:ν}(Q:qe L k=A0 u)(v:ν)(n:Nat)(M:St W l w)(y:nth l n=A0 (qs6 enc vl m L k t))
 (G:∀w',St W (put l n [qg enc vl m (qk L k v)]) w'->K w'):qt8 P (Bb mt (.map (A0 m)) (Zi Zk (t:Int)) (vl v)) w K:=by
 obtain⟨es,h,⟨q,p⟩,⟨j,e,o,A,z⟩,d⟩:=qs6.open_ (M.at n y);have D:=(d.turn (o':=.map #[] 0)).1;have x:es[j]?=A0 e:=by simpa using o
 obtain⟨I,R,C,F,N⟩:=qeb p o;have:I=k:=s.inj _ _ (F.symm.trans A);subst this;have H:es.findIdx? (λe=>(e.born:Int)==(t:Int))=A0 j:=by
  obtain⟨b,E⟩:=Array.getElem?_eq_some_iff.1 x;rw[Array.findIdx?_eq_some_iff_getElem];refine⟨b,by rw[E,z];simp,λi O g=>?_⟩;have r:=((stamped_iff es h).1 q).2.1;have a:i<es.size:=by omega
  have g:(es[i]'a).born=t:=Int.ofNat.inj (eq_of_beq g);have J:(es.toList.map (·.born))[i]?=A0 t:=by rw[Af,Aj,Array.getElem?_eq_getElem a,Bf,g]
  have a2:(es.toList.map (·.born))[j]?=A0 t:=by rw[Af,o];simp[z]
  have:=(List.getElem?_inj (i:=i) (j:=j) (by simpa using a) r).1 (J.trans a2.symm);omega
 refine⟨{ w with heap:=w.heap.setIfInBounds m (.map (es.modify j λe=>{ e with val:=vl v}) h)},?_,G _ (z06 n y (B:=[_]) (qg.shut (es:=es.modify j λe=>{ e with val:=vl v}) (stamped_modify q _ _ (λ_ _=>rfl) (λ_ _ _=>rfl)) ?_ d.turn.2))⟩;.simp[Bb,Ac D,asInt,asIntOf,H,run_setObj_map _ D]
 .rw[qep (qip s q p) C];refine Aw λi=>?_;have c:=yE (λl:List (A2×A2)=>l[i]?) p;simp only[qk3,Af,Aj]at c;simp only[qk3,Af,Aj,Ap,List.getElem?_set];by_cases f:j=i
  .subst f;have b:j<L.length:=(List.getElem?_eq_some_iff.1 C).1;simp[x,b,A]
  .simp[f,c]
end
end
def sel(n:Nat)(h:List Nat)(l:List Asn):List Asn:=h.map (λi=>(nth l i).getD (prA True))++l.drop n
def qjx(n:Nat)(h:List Nat):Bool:=decide h.Nodup&&h.all λi=>Nat.blt i n
def nth_eq:∀(l:List Asn) (i:Nat),nth l i=l[i]?
 |[],_=>rfl
 |_::_,0=>rfl
 |_::r,i+1=>nth_eq r i
def St.sel{W w:Aa}{l:List Asn}(n:Nat)(d:List Nat)(h:St W l w)(m:(Nat.ble n l.length&&qjx n d)=Aq):St W (Go.Proofs.YtfjifcfbmhpcaaaGreatDoor.sel n d l) w:=by
 rw[Bc]at m;obtain⟨o,j⟩:=m;have o:=Nat.le_of_ble_eq_true o;unfold qjx at j;rw[Bc]at j;obtain⟨f,g⟩:=j;have f:=yC f;have g:∀i∈d,i<n:=λi c=>Nat.le_of_ble_eq_true (List.all_eq_true.1 g i c);have e:l.take n=(Az n).map λi=>(nth l i).getD (prA True):=by
  refine Aw λi=>?_;rw[List.getElem?_take,Af];by_cases c:i<n
  .rw[yB c,List.getElem?_range c,Bf,nth_eq,List.getElem?_eq_getElem (by omega)];rfl
  .rw[yA c,List.getElem?_eq_none (by simp;omega)];rfl
 have v:(Az n).Perm (d++(Az n).filter λi=>decide (i∉d)):=by
  refine(A7 Bd ?_).2 λi=>?_
  .refine List.nodup_append.2 ⟨f,Bd.filter _,λa u b t=>?_⟩;rintro rfl;have:=(Bg.1 t).2;simp[u]at this
  .simp only[List.mem_range,List.mem_append,Bg,yJ];constructor
   .intro c;by_cases q:i∈d;.exact .inl q
    .exact .inr ⟨c,q⟩
   .rintro(c|c);.exact g i c
    .exact c.1
 have p:St W (((d++(Az n).filter λi=>decide (i∉d)).map λi=>(nth l i).getD (prA True))++l.drop n) w:=by refine z0c h ?_;have:=(v.map λi=>(nth l i).getD (prA True)).append_right (l.drop n);rw[<-e,List.take_append_drop]at this;exact this
 rw[Am]at p;have s:St W (((Az n).filter λi=>decide (i∉d)).map (λi=>(nth l i).getD (prA True))++(d.map (λi=>(nth l i).getD (prA True))++l.drop n)) w:=by refine z0c p ?_;rw[<-List.append_assoc];exact B0.append_right _
 have k:∀(a b:List Asn),St W (a++b) w->St W b w:=λa=>by
  induction a with
  |nil=>exact λb h=>h
  |cons x r ih=>exact λb h=>ih b h.drop
 exact k _ _ s
def qs5.f{κ ν:Type}{W w:Aa}{l:List Asn}{F:Nat->Aa->Prop}(enc:κ->A2)(vl:ν->A2)(a:St W l w)(c:∀b w',St W (qg enc vl b ([]:List (κ×ν))::l) w'->F b w'):qs5 w F:=
 qs5.n enc vl a λb w h=>c b w (h.perm (Ae _ _))
def St.dropR{W w:Aa}{l r:List Asn}(h:St W (l++r) w):St W l w:=by
 have c:∀(a b:List Asn),St W (a++b) w->St W b w:=λa=>by
  induction a with
  |nil=>exact λb h=>h
  |cons x r ih=>exact λb h=>ih b h.drop
 exact c r l (h.perm B0)
def qr.setH_i{κ δ:Type}[DecidableEq κ]{P:Bl}{o s mt:Bh}{enc:κ->A2}{m b:Nat}{A:Nat->δ->Asn}{L:List (κ×δ)}{k:κ}{W w:Aa}{l:List Asn}(q:qw2 P o enc)(t:P.underlying mt=A0 (.map o s)){K:Aa->Prop}{d:δ}(n:Nat)(p:St W (A b d::l) w)(c:nth l n=A0 (qr enc m A L))
 (u:∀w',St W (A b d::put l n [qw enc m A (qk L k d) k b]) w'->K w'):qt8 P (Be mt (.map (A0 m)) (enc k) (qc b)) w K:=by
 have r:St W (qr enc m A L::(del l n++[A b d])) w:=by have g:St W (l++[A b d]) w:=p.last;have f:nth (l++[A b d]) n=A0 (qr enc m A L):=(qr4 [A b d] c).1;have a:=g.at n f;rw[(qr4 [A b d] c).2.1]at a;exact a
 obtain⟨bs,z,x⟩:=z1e r;refine qh1 q t 0 x rfl k b λw' h=>u w' ?_;have h:St W (qg enc qc m (qk (qx (A4 (α:=Nat) (β:=δ)) bs) k b)::qz (bs.map λy=>A y.2.1 y.2.2)::(del l n++[A b d])) w':=h;have e:qk (qx (A4 (α:=Nat) (β:=δ)) bs) k b=qx (A4 (α:=Nat) (β:=δ)) (qk bs k (b,d)):=by rw[<-qt2]
 rw[e]at h;have g:St W (qz (bs.map λy=>A y.2.1 y.2.2)::qg enc qc m (qx (A4 (α:=Nat) (β:=δ)) (qk bs k (b,d)))::(del l n++[A b d])) w':=h.p1;have f:St W (qz ((qp bs k).map λy=>A y.2.1 y.2.2)::qg enc qc m (qx (A4 (α:=Nat) (β:=δ)) (qk bs k (b,d)))::(del l n++[A b d])) w':=by
  cases hg:qe bs k with
  |none=>rw[ql6 hg];exact g
  |some v=>exact((qf5 ((aget_perm hg).map λy:κ×Nat×δ=>A y.2.1 y.2.2) g).drop)
 rw[<-adel_aset bs k (b,d)]at f;have a:St W (qw enc m A (qk L k d) k b::(del l n++[A b d])) w':=qw.shut (qk bs k (b,d)) ⟨by rw[<-qt2,z],d,qj1 _ _ _⟩ f.p1;have C:St W (A b d::(qw enc m A (qk L k d) k b::del l n)) w':=z0c (l:=(qw enc m A (qk L k d) k b::del l n)++[A b d]) a (Ae _ _);have D:St W (qw enc m A (qk L k d) k b::(del l n++[A b d])) w':=a;have i:nth (l++[A b d]) n=A0 (qr enc m A L):=(qr4 [A b d] c).1;have j:=z06 n i (B:=[qw enc m A (qk L k d) k b]) (by rw[(qr4 [A b d] c).2.1];exact a);rw[(qr4 [A b d] c).2.2]at j;exact z0c (l:=put l n [qw enc m A (qk L k d) k b]++[A b d]) j (Ae _ _)
def zo:=@St.sel
end Go.Proofs.YtfjifcfbmhpcaaaGreatDoor
