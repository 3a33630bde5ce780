/-
  A part of the proof of TopEvicted.
-/
import Derived.Test.YtfjifcfbmhpcaaaGreatDoorV15
import Derived.Test.YtfjifcfbmhpcaaaGreatDoorV00
set_option linter.defProp false
set_option linter.unusedVariables false
set_option linter.unusedSimpArgs false
namespace Go.Proofs.YtfjifcfbmhpcaaaGreatDoor
open Go
open Go.Proofs.Tryz renaming prog → Zp
open Go.IntKind renaming i64 → Zk
open Go.Value renaming int → Zi, string → Zs, pointer → Zq, bool → Zb, tuple → Zt, slice → Zl, agg → Zg
open _root_.Option renaming some->A0,none->A4,map_some->Bb
open _root_.Prod renaming fst->A1,snd->Aw
open Go.Result renaming andThen->A2
open _root_.List renaming perm_ext_iff_of_nodup->A3,length_cons->A7,perm_append_singleton->A8,length_nil->Aa,getElem?_map->Ab,length_append->Ad,not_mem_nil->Ah,map_append->Ai,mem_cons->Am,length_map->An,ext_getElem?->Ar,range->Au,perm_append_comm->Av,map_cons->Ay,mem_map->B1,perm_middle->B3,nodup_range->B7,mem_filter->Bc,flatMap->Bh
open Go renaming Value->A5,World->A9,MapEntry->Aj,LoopState->B2,TypeId->Bd,TypeInfo->Be,FuncId->Bg,Program->Bi
open Go.MapKept renaming run_getObj_map->A6,bytes_beq->Ag
open Go.Instr renaming findAsking->Ac,findKey->Ae,lookup->Ap,mapEntry->Ax,findNow->Az,keyThatStays->B0,entryStore->B5,mapUpdate->Ba,checkKey->Bf
open _root_.Array renaming getElem?_toList->Af,getElem?_modify->Ak,getD_eq_getD_getElem?->Ao,getElem?_append_left->Aq,replicate->B9
open _root_.Bool renaming true->As,not_eq_true->B4,and_eq_true->B6,false->Bj
section
set_option maxRecDepth 100000
namespace AppL
open Go Go.Proofs.YtfjifcfbmhpcaaaGreatDoor
abbrev ev:Nat->A5:=qc
abbrev eV(x:Nat):List A5:=[ev x]
def eV1(x:Nat):(eV x).length=1:=rfl
def eVn(x:Nat):∀v∈eV x,qn1 v:=λv h=>by simp only[eV,Am,Ah,yK]at h;subst h;trivial
def uSl:Zp.underlying 214=A0 (.slice 75):=Tryz.underlying214
def iE:Zp.info? 75=A0 Tryz.t75:=by kernel_rfl
def sE:Tryz.t75.size=1:=rfl
def zE:∃z,Tryz.t75.zero=A0 z/\z.cells.size=1:=⟨_,rfl,rfl⟩
def bE:Tryz.t75.bytes<=100:=by decide+kernel
noncomputable def apC:Code:=Tryz.f242.body.getD .skip
noncomputable def cR(i:Nat):Code:=(q63 apC).getD i .skip
noncomputable def apA:Code:=q7q (cR 2)
noncomputable def apB:Code:=qzq (cR 2)
def ap_body:Tryz.f242.body=A0 apC:=by kernel_rfl
def ap_n:Tryz.f242.ntmps=13:=by kernel_rfl
def ap_eq:apC=.seq (.region 0 (qo1 (cR 0)) Bj) (.seq (.seq (.region 1 (qo1 (cR 1)) Bj) (.block 0 (.rangeFunc (.tmp 6) #[7] apA apB))) (.seq (.region 4 (qo1 (cR 3)) Bj) .ret)):=by kernel_rfl
def apA_eq:apA=.region 2 (qo1 apA) Bj:=by kernel_rfl
def apB_eq:apB=.block 1 (.region 3 (qo1 (inB apB)) Bj):=by kernel_rfl
def tame0:(qo1 (cR 0)).toList.all qv5=As:=by kernel_rfl
def tame1:(qo1 (cR 1)).toList.all qv5=As:=by kernel_rfl
def tame2:(qo1 apA).toList.all qv5=As:=by kernel_rfl
def tame3:(qo1 (inB apB)).toList.all qv5=As:=by kernel_rfl
def tame4:(qo1 (cR 3)).toList.all qv5=As:=by kernel_rfl
section
variable(p:Option Addr)(n c:Nat)(w:World)(K:Env->World->Prop)(b2:Nat)(s:Value)
def ops_0:qy7 Zp 13 (qo1 (cR 0)).toList [(1,s),(0,Zl p n c)] w K=(qh #[Zl p n c] 214 w λb w=>K [(4,Zl A4 0 0),(2,Zq (A0 ⟨b,0,A4⟩)),(1,s),(0,Zl p n c)] w):=by kernel_rfl
def ops_1(e:Env):qy7 Zp 13 (qo1 (cR 1)).toList ((4,Zl A4 0 0)::(2,Zq (A0 ⟨b2,0,A4⟩))::(1,s)::e) w K=K ((6,s)::(4,Zl A4 0 0)::(2,Zq (A0 ⟨b2,0,A4⟩))::(1,s)::e) w:=by kernel_rfl
def ops_2(x:Nat)(e:Env):qy7 Zp 13 (qo1 apA).toList ((7,ev x)::e) w K=K ((5,ev x)::(7,ev x)::e) w:=by kernel_rfl
def ops_3(x:Nat):qy7 Zp 13 (qo1 (inB apB)).toList [(5,ev x),(2,Zq (A0 ⟨b2,0,A4⟩))] w K=
 LdL ⟨b2,0,A4⟩ w λq m d=>qh #[ev x] 75 w λb w=>Run Zp (Builtin.append_ #[214,214] 214 #[Zl q m d,.slice (A0 ⟨b,0,A4⟩) 1 1]) w λv w=>AsL v λa h c=>
  St1 ⟨b2,0,A4⟩ (.slice a h c) w λw=>K [(11,.slice a h c),(10,.slice (A0 ⟨b,0,A4⟩) 1 1),(9,ev x),(8,Zl q m d),(5,ev x),(2,Zq (A0 ⟨b2,0,A4⟩))] w:=by kernel_rfl
def ops_4:q5f Zp 13 (qo1 (cR 3)).toList [(2,Zq (A0 ⟨b2,0,A4⟩))] w K=
 LdL ⟨b2,0,A4⟩ w λq m d=>K [(4,Zl q m d),(12,Zl q m d),(2,Zq (A0 ⟨b2,0,A4⟩))] w:=by kernel_rfl
def ap_res(q:Option Addr)(m d:Nat)(e:Env)(K:List A5->Prop):q66 Zp Tryz.f242.results.toList ((4,Zl q m d)::e) w K=K [Zl q m d]:=by kernel_rfl
end
noncomputable def recC(fn:Bg)(tmps:Array A5)(D:Nat)(s:B2):Loop:={ state:=s,pending:=A4,fn:=fn,tmps:=tmps,params:=#[7],assign:=apA,body:=apB,defers:=D}
def BufA(fn:Bg)(tmps:Array A5)(s:B2)(l D b2:Nat)(L:List Nat):Asn:=exA λy:Option Addr×Nat=>qz [Pt l (.loop (recC fn tmps D s)),Pt D (.deferred (A0 [])),Row b2 214 [.slice y.1 L.length y.2],SlA 75 1 eV y.1 y.2 L]
def BufA.open_{W w:A9}{F:List Asn}{fn:Bg}{tmps:Array A5}{s:B2}{l D b2:Nat}{L:List Nat}(h:St W (BufA fn tmps s l D b2 L::F) w):
 ∃p c,St W (Pt l (.loop (recC fn tmps D s))::Pt D (.deferred (A0 []))::Row b2 214 [Zl p L.length c]::SlA 75 1 eV p c L::F) w:=by
 obtain⟨⟨p,c⟩,h⟩:=h.of_ex;exact⟨p,c,h.of_sep⟩
def BufA.shut{W w:A9}{F:List Asn}{fn:Bg}{tmps:Array A5}{s:B2}{l D b2:Nat}{L:List Nat}(p:Option Addr)(c:Nat)(h:St W (Pt l (.loop (recC fn tmps D s))::Pt D (.deferred (A0 []))::Row b2 214 [Zl p L.length c]::SlA 75 1 eV p c L::F) w):St W (BufA fn tmps s l D b2 L::F) w:=
 z00 (p,c) (zj (l:=[_,_,_,_]) h)
def fold_one(tmps:Array A5)(a:A5):(Array.zip (#[7]:Array Tmp) [a].toArray).foldl (λtmps (t,a)=>tmps.setIfInBounds t a) tmps=tmps.setIfInBounds 7 a:=by simp
section
variable{W w:World}{F M:List Asn}{fn:FuncId}{tmps:Array Value}{l D b2:Nat}{L:List Nat}
def round_spec(x:Nat)(r:qs1 13 [(2,Zq (A0 ⟨b2,0,A4⟩))] { tmps:=tmps,defers:=[]})(u:L.length<=1000000)
 (h:St W (BufA fn tmps .ready l D b2 L::F) w):
 RoundIn Fence.wide 0 Zp l fn (tmps.setIfInBounds 7 (ev x)) apA apB w λq w'=>∃v,q=.returned v/\v=Zb As/\St W (BufA fn tmps .ready l D b2 (L++[x])::F) w':=by
 obtain⟨p,c,h⟩:=BufA.open_ h;refine roundIn_of_wpIn trivial ?_;have o:qx4 (Fence.wide.inRound l):=.inr ⟨l,rfl⟩;have t:qs1 13 [(7,ev x),(2,Zq (A0 ⟨b2,0,A4⟩))] { tmps:=tmps.setIfInBounds 7 (ev x),defers:=[]}:=r.put1 (d:=7) (ev x) (by decide);rw[apA_eq];refine qk6 o tame2 (K:=λe' w'=>e'=[(5,ev x),(7,ev x),(2,Zq (A0 ⟨b2,0,A4⟩))]/\w'=w) (by rw[ops_2];exact⟨rfl,rfl⟩) t ?_;rintro E a2 B ⟨rfl,rfl⟩ ha2;have f:qs1 13 [(5,ev x),(2,Zq (A0 ⟨b2,0,A4⟩))] a2:=ha2.pick λy n=>by simp only[Am,Ah,yK]at n;rcases n with rfl|rfl<;>rfl
 obtain⟨g,h⟩:=h.turn (o':=.loop (recC fn tmps D .busy));refine⟨_,run_beginRound g rfl,?_⟩;rw[apB_eq];refine wpIn_block (qk6 o tame3 (K:=λe' w'=>∃a e,St W (Pt l (.loop (recC fn tmps D .busy))::Pt D (.deferred (A0 []))::Row b2 214 [Zl a (L++[x]).length e]::SlA 75 1 eV a e (L++[x])::F) w') ?_ f ?_)
 .rw[ops_3];refine LdL.n 2 h rfl rfl (zh h λb w h=>?_);have h:St W (Row b 75 (Bh eV [x])::Pt l (.loop (recC fn tmps D .busy))::Pt D (.deferred (A0 []))::Row b2 214 [Zl p L.length c]::SlA 75 1 eV p c L::F) w:=h;obtain⟨z,s,k⟩:=zE;have i:=bE;refine qf3 (os:=L) (xs:=[x]) eV1 uSl (.inr ⟨_,uSl⟩) iE sE s k 4 h rfl (z06 0 rfl λF=>z0m) rfl eVn (by simp only[A7,Aa];exact Nat.le_trans (Nat.mul_le_mul_left _ i) (by omega)) (by simp only[A7,Aa];omega) λm j w h=>⟨_,_,_,rfl,?_⟩;refine z0n 3 h rfl (by simp) λw h=>⟨m,j,?_⟩;have h:St W (Row b 75 (Bh eV [x])::Pt l (.loop (recC fn tmps D .busy))::Pt D (.deferred (A0 []))::Row b2 214 [Zl m (L++[x]).length j]::SlA 75 1 eV m j (L++[x])::F) w:=h;exact h.drop
 .rintro C a3 A ⟨a,e,h⟩ _;obtain⟨g,h⟩:=h.turn (o':=.loop (recC fn tmps D .ready));exact⟨_,_,run_endRound A4 g,_,rfl,rfl,BufA.shut a e h⟩
def AppSeq_spec{d:Bg}{cap:A5}{N:Nat}{G:List Nat->Prop}(Q:q33 Zp d=As)(Z:N<=1000000)(o:q7b W ev d cap M N G)(g:St W M w):
 qb Zp 242 #[Zl A4 0 0,.func (.func d) #[] #[cap]] w λv w'=>∃L p c,v=Zl p (List.length L) c/\G L/\St W (SlA 75 1 eV p c L::M) w':=by
 refine(callsIn_wide (n:=0)).1 (callsIn_of_wp_marks Tryz.func242 ap_body trivial ?_);have r:qx4 Fence.wide:=.inl rfl;have i:qs1 13 [(1,.func (.func d) #[] #[cap]),(0,Zl A4 0 0)] { tmps:=#[Zl A4 0 0,.func (.func d) #[] #[cap]]++B9 (Tryz.f242.ntmps -(#[Zl A4 0 0,.func (.func d) #[] #[cap]]).size) undef,defers:=[]}:=by
  rw[ap_n];refine⟨rfl,by simp,λt v z=>?_⟩;have:=q47 z;simp only[Am,Ah,yK,Prod.mk.injEq]at this;rcases this with ⟨rfl,rfl⟩|⟨rfl,rfl⟩
  .rw[Ao,Aq (by simp)];rfl
  .rw[Ao,Aq (by simp)];rfl
 generalize ({ tmps:=#[Zl A4 0 0,.func (.func d) #[] #[cap]]++B9 (Tryz.f242.ntmps -(#[Zl A4 0 0,.func (.func d) #[] #[cap]]).size) undef,defers:=[]}:Act)=a at i;rw[ap_eq];refine wpIn_seq (qk6 r tame0 (K:=λe' w'=>∃b2,e'=[(4,Zl A4 0 0),(2,Zq (A0 ⟨b2,0,A4⟩)),(1,.func (.func d) #[] #[cap]),(0,Zl A4 0 0)]/\St W (Row b2 214 [Zl A4 0 0]::M) w') (by rw[ops_0];exact zh g λb w g=>⟨b,rfl,g⟩) i ?_);clear g;rintro u q w ⟨b2,rfl,g⟩ i;refine wpIn_seq (wpIn_seq (qk6 r tame1 (K:=λe' w'=>e'=[(6,.func (.func d) #[] #[cap]),(4,Zl A4 0 0),(2,Zq (A0 ⟨b2,0,A4⟩)),(1,.func (.func d) #[] #[cap]),(0,Zl A4 0 0)]/\w'=w) (by rw[ops_1];exact⟨rfl,rfl⟩) i ?_));rintro u a w ⟨rfl,rfl⟩ i;refine wpIn_block (wpIn_rangeFunc λfn _=>?_);have C:a.eval (.tmp 6)=.func (.func d) #[] #[cap]:=i.val 6 _ rfl;have k:=(g.alloc (.deferred (A0 []))).alloc (.loop (recC fn a.tmps w.heap.size .ready));rw[World.size_alloc]at k;refine⟨w.heap.size+1,[{ target:=.collected w.heap.size,args:=#[]}],(w.alloc (.deferred (A0 []))).alloc (.loop (recC fn a.tmps w.heap.size .ready)),{ target:=.fn (.func d) #[cap],args:=#[.func (.yield (w.heap.size+1)) #[] #[]]},(w.alloc (.deferred (A0 []))).alloc (.loop (recC fn a.tmps w.heap.size .ready)),d,
  #[.func (.yield (w.heap.size+1)) #[] #[],cap],(w.alloc (.deferred (A0 []))).alloc (.loop (recC fn a.tmps w.heap.size .ready)),run_enterLoop_outer _ _ _ _ _,?_,λ_ _=>trivial,?_,(λh=>by cases h),?_⟩
 .simp only[resolve,C];simp[go_sem]
 .simp only[invoke];exact q04 Q _ _
 generalize w.heap.size=D at k;generalize D+1=l at k;generalize (w.alloc (.deferred (A0 []))).alloc (.loop (recC fn a.tmps D .ready))=w1 at k;clear g C;have g:St W (BufA fn a.tmps .ready l D b2 []::M) w1:=BufA.shut A4 0 (zf 0 3 (z09 (f:=eV) (e:=75) (size:=1) (p:=A4) k) rfl);have z:qs1 13 [(2,Zq (A0 ⟨b2,0,A4⟩))] { tmps:=a.tmps,defers:=[]}:=by
  have:=i.pick (e':=[(2,Zq (A0 ⟨b2,0,A4⟩))]) λy j=>by simp only[Am,Ah,yK]at j;rcases j with rfl;rfl
  exact⟨rfl,this.size,this.val⟩
 have j:∀(X:List Asn) (L:List Nat) (x:Nat) (w:A9) (K:A5->A9->Prop),L.length<N->St W (BufA fn a.tmps .ready l D b2 L::X) w->(∀w',St W (BufA fn a.tmps .ready l D b2 (L++[x])::X) w'->K (Zb As) w')->q01 Zp 4 (.func (.yield l) #[] #[]) [ev x] w K:=λX L x w K Y g T=>by obtain⟨p,c,O⟩:=BufA.open_ g;refine .inr ⟨l,recC fn a.tmps D .ready,rfl,O.pt,rfl,?_⟩;have key:=round_spec x z (by omega) g;rw[<-fold_one]at key;exact RoundIn.mono key λu w' ⟨v,k,H,g⟩=>⟨v,k,by subst H;exact T _ g⟩
 refine qx4.calls r (Calls.mono (o _ _ _ j g) λe V ⟨v,I,E,L,U,g⟩=>?_);subst I;obtain⟨p,c,g⟩:=BufA.open_ g;obtain⟨s,g⟩:=g.turn (o':=.loop (recC fn a.tmps D .exhausted));refine⟨A4,_,run_endLoop s (by simp[recC]),?_⟩;have B:a.defers=[]:=i.defers;have A:qs1 13 [(2,Zq (A0 ⟨b2,0,A4⟩))] (qi6 { a with defers:=[{ target:=.collected D,args:=#[]}]++a.defers}):=by
  have:=i.pick (e':=[(2,Zq (A0 ⟨b2,0,A4⟩))]) λy j=>by simp only[Am,Ah,yK]at j;rcases j with rfl;rfl
  exact⟨rfl,this.size,this.val⟩
 refine wpIn_seq (qmj r tame4 (K:=λe' w'=>∃e0,e'=(4,Zl p L.length c)::e0) (by rw[ops_4];exact LdL.n 2 g rfl rfl ⟨_,rfl⟩) A ?_)
 rintro u q ⟨e0,rfl⟩ ha1 hd1;refine wpIn_ret ?_;show LeavesInM Fence.wide 0 Zp Tryz.f242 q.tmps _ q.defers .returning _;rw[hd1,B];obtain⟨J,g⟩:=(St.p1 g).turn (o':=.deferred A4);refine⟨by simp,.inl ⟨D,_,rfl,run_takeDeferred J,?_⟩⟩;have m:=λw=>q77 (P:=Zp) (fn:=Tryz.f242) (a:=qi6 q) (R:=λv w'=>v=Zl p L.length c) (w:=w) (by rw[ap_res];rfl) ha1;obtain⟨v,E,F⟩:=m _;refine⟨v,E,v,rfl,L,p,c,F,U,?_⟩;exact g.drop.drop.drop
end
end AppL
end
def kS:qw2 Zp 9 Zs:=qw2.str uS
def qd1.part{κ ν:Type}{enc:κ->A5}{vl:ν->A5}{W w:A9}{F:List Asn}{m b:Nat}{L V:List (κ×ν)}(h:St W (qd1 enc vl m b L V::F) w):V.length<=L.length:=by obtain⟨⟨es,clock,seen,c⟩,h⟩:=h.of_ex;obtain⟨a,h⟩:=h.of_sep.of_pr;exact qmp (ql4 (·.1) a.nod) a.sub
def q58{κ ν:Type}[DecidableEq κ]{P:Bi}{b:Bd}{enc:κ->A5}(c:qw2 P b enc){vl:ν->A5}{W w:A9}{A B:Asn}{F:List Asn}{m a:Nat}{L V:List (κ×ν)}{x:κ×ν}(h:St W (A::B::qd1 enc vl m a L (V++[x])::F) w):V.length<L.length:=by have:=qd1.part (h.at 2 rfl);rw[Ad]at this;simp only[A7,Aa]at this;omega
def qqs{W:A9}{F:List Asn}{ν:Type}{vl:ν->A5}{m cap N:Nat}{L:List (Int×ν)}(o:L.length<=N):
 q7b W (Zi Zk) 156 (Zq (A0 ⟨cap,0,A4⟩)) (Row cap 180 [.map (A0 m)]::qg (Zi Zk) vl m L::F) N λl=>l.Perm (L.map (·.1)):=λB n w i h=>by
 refine F156_of (LdM.n 1 h rfl rfl (qg9 Tryz.underlying180 2 h rfl λd w h=>⟨λvs w=>∃V:List (Int×ν),vs=[]/\St W (B (V.map (·.1))::Row cap 180 [.map (A0 m)]::qd1 (Zi Zk) vl m d L V::F) w,λ_ w=>q74 d L.length w,⟨[],rfl,h⟩,λw f=>?_⟩));clear h;obtain⟨V,_,h⟩:=f;have c:=qd1.left (h.at 2 rfl) L.length;refine qqb kI 2 h rfl (λa e b w' h=>⟨rfl,_,((A3 e (ql4 (·.1) (z18 kI (h.at 2 rfl)))).2 λx=>⟨b x,a x⟩).map _,h⟩) λx k j w' h=>qp9 2 h rfl λh=>⟨_,_,rfl,?_⟩;have hV:=q58 kI h;refine i _ _ x.1 _ _ (by rw[An];omega) h λw' h=>⟨As,rfl,zm rfl ⟨⟨V++[x],rfl,by rw[Ai];exact h⟩,?_⟩⟩;have g:=qd1.left (h.at 2 rfl) L.length;show q74 d L.length w'<q74 d L.length _;rw[g,c,Ad];simp only[A7,Aa];omega
def qdu{W:A9}{F:List Asn}{ν:Type}{vl:ν->A5}{m cap N:Nat}{L:List (Int×ν)}(o:L.length<=N):
 q7b W (Zi Zk) 65 (Zq (A0 ⟨cap,0,A4⟩)) (Row cap 79 [.map (A0 m)]::qg (Zi Zk) vl m L::F) N λl=>l.Perm (L.map (·.1)):=λB n w i h=>by
 refine F65_of (LdM.n 1 h rfl rfl (qg9 Tryz.underlying79 2 h rfl λd w h=>⟨λvs w=>∃V:List (Int×ν),vs=[]/\St W (B (V.map (·.1))::Row cap 79 [.map (A0 m)]::qd1 (Zi Zk) vl m d L V::F) w,λ_ w=>q74 d L.length w,⟨[],rfl,h⟩,λw f=>?_⟩));clear h;obtain⟨V,_,h⟩:=f;have c:=qd1.left (h.at 2 rfl) L.length;refine qqb kI 2 h rfl (λa e b w' h=>⟨rfl,_,((A3 e (ql4 (·.1) (z18 kI (h.at 2 rfl)))).2 λx=>⟨b x,a x⟩).map _,h⟩) λx k j w' h=>qp9 2 h rfl λh=>⟨_,_,rfl,?_⟩;have hV:=q58 kI h;refine i _ _ x.1 _ _ (by rw[An];omega) h λw' h=>⟨As,rfl,zm rfl ⟨⟨V++[x],rfl,by rw[Ai];exact h⟩,?_⟩⟩;have g:=qd1.left (h.at 2 rfl) L.length;show q74 d L.length w'<q74 d L.length _;rw[g,c,Ad];simp only[A7,Aa];omega
def qvt{W:A9}{F:List Asn}{ν:Type}{vl:ν->A5}{m cap N:Nat}{L:List (ByteArray×ν)}(o:L.length<=N):
 q7b W Zs 239 (Zq (A0 ⟨cap,0,A4⟩)) (Row cap 166 [.map (A0 m)]::qg Zs vl m L::F) N λl=>l.Perm (L.map (·.1)):=λB n w i h=>by
 refine F239_of (LdM.n 1 h rfl rfl (qg9 Tryz.underlying166 2 h rfl λd w h=>⟨λvs w=>∃V:List (ByteArray×ν),vs=[]/\St W (B (V.map (·.1))::Row cap 166 [.map (A0 m)]::qd1 Zs vl m d L V::F) w,λ_ w=>q74 d L.length w,⟨[],rfl,h⟩,λw f=>?_⟩));clear h;obtain⟨V,_,h⟩:=f;have c:=qd1.left (h.at 2 rfl) L.length;refine qqb kS 2 h rfl (λa e b w' h=>⟨rfl,_,((A3 e (ql4 (·.1) (z18 kS (h.at 2 rfl)))).2 λx=>⟨b x,a x⟩).map _,h⟩) λx k j w' h=>qp9 2 h rfl λh=>⟨_,_,rfl,?_⟩;have hV:=q58 kS h;refine i _ _ x.1 _ _ (by rw[An];omega) h λw' h=>⟨As,rfl,zm rfl ⟨⟨V++[x],rfl,by rw[Ai];exact h⟩,?_⟩⟩;have g:=qd1.left (h.at 2 rfl) L.length;show q74 d L.length w'<q74 d L.length _;rw[g,c,Ad];simp only[A7,Aa];omega
def qps{W:A9}{F:List Asn}{m cap N:Nat}{L:List (Int×Nat)}(o:L.length<=N):
 q7b W qc 163 (Zq (A0 ⟨cap,0,A4⟩)) (Row cap 78 [.map (A0 m)]::qg (Zi Zk) qc m L::F) N λl=>l.Perm (L.map (·.2)):=λB n w i h=>by
 refine F163_of (LdM.n 1 h rfl rfl (qg9 Tryz.underlying78 2 h rfl λd w h=>⟨λvs w=>∃V:List (Int×Nat),vs=[]/\St W (B (V.map (·.2))::Row cap 78 [.map (A0 m)]::qd1 (Zi Zk) qc m d L V::F) w,λ_ w=>q74 d L.length w,⟨[],rfl,h⟩,λw f=>?_⟩));clear h;obtain⟨V,_,h⟩:=f;have c:=qd1.left (h.at 2 rfl) L.length;refine qqb kI 2 h rfl (λa e b w' h=>⟨rfl,_,((A3 e (ql4 (·.1) (z18 kI (h.at 2 rfl)))).2 λx=>⟨b x,a x⟩).map _,h⟩) λx k j w' h=>qp9 2 h rfl λh=>⟨_,_,rfl,?_⟩;have hV:=q58 kI h;refine i _ _ x.2 _ _ (by rw[An];omega) h λw' h=>⟨As,rfl,zm rfl ⟨⟨V++[x],rfl,by rw[Ai];exact h⟩,?_⟩⟩;have g:=qd1.left (h.at 2 rfl) L.length;show q74 d L.length w'<q74 d L.length _;rw[g,c,Ad];simp only[A7,Aa];omega
section
section
variable{κ α β:Type}
def qx(f:α->β)(L:List (κ×α)):List (κ×β):=L.map λy=>(y.1,f y.2)
def qx5(f:α->β)(L:List (κ×α)):(qx f L).map (·.1)=L.map (·.1):=by simp[qx,Function.comp_def]
def q46(f:α->β)(L:List (κ×α)):(qx f L).length=L.length:=by simp[qx]
end
section
variable{κ α β:Type}[DecidableEq κ]
def q62(f:α->β)(L:List (κ×α))(k:κ):qe (qx f L) k=(qe L k).map f:=by
 induction L with
 |nil=>rfl
 |cons x r ih=>
  unfold qx at ih⊢;simp only[Ay,qe];split;.rfl
  .exact ih
def qt2(f:α->β)(L:List (κ×α))(k:κ)(v:α):qk (qx f L) k (f v)=qx f (qk L k v):=by
 induction L with
 |nil=>rfl
 |cons x r ih=>
  unfold qx at ih⊢;simp only[Ay,qk];split;.rfl
  .rw[ih];rfl
def qo7(f:α->β)(L:List (κ×α))(k:κ):qp (qx f L) k=qx f (qp L k):=by
 induction L with
 |nil=>rfl
 |cons x r ih=>
  unfold qx at ih⊢;simp only[Ay,qp];split;.rfl
  .rw[ih];rfl
def qt1{L:List (κ×α)}{k:κ}{v:α}(h:qe L k=A0 v):qk L k v=L:=by
 induction L with
 |nil=>simp[qe]at h
 |cons x r w=>
  simp only[qe]at h;simp only[qk];split at h
  .rename_i e;cases h;rw[yB e,<-e]
  .rename_i e;rw[yA e,w h]
def adel_aset(L:List (κ×α))(k:κ)(v:α):qp (qk L k v) k=qp L k:=by
 induction L with
 |nil=>simp[qk,qp]
 |cons x r h=>
  simp only[qk];split
  .rename_i e;simp only[qp,yB e,if_true]
  .rename_i e;simp only[qp,yA e,h]
def aget_perm{L:List (κ×α)}{k:κ}{v:α}(h:qe L k=A0 v):L.Perm ((k,v)::qp L k):=by
 induction L with
 |nil=>simp[qe]at h
 |cons x r w=>
  simp only[qe]at h;simp only[qp];split at h
  .rename_i e;cases h;rw[yB e,<-e]
  .rename_i e;rw[yA e];exact((w h).cons x).trans (List.Perm.swap _ _ _)
def qj1(L:List (κ×α))(k:κ)(v:α):qe (qk L k v) k=A0 v:=by rw[qh2,yB rfl]
def qe7(L:List (κ×α))(k:κ)(u v:α):qk (qk L k u) k v=qk L k v:=by
 induction L with
 |nil=>simp[qk]
 |cons x r h=>
  simp only[qk];split;.rename_i e;simp[qk]
  .rename_i e;simp only[qk,yA e,h]
end
section
variable{κ δ:Type}
def qr(enc:κ->A5)(m:Nat)(A:Nat->δ->Asn)(L:List (κ×δ)):Asn:=exA λbs:List (κ×Nat×δ)=>qz [prA (qx (Aw (α:=Nat) (β:=δ)) bs=L),qg enc qc m (qx (A1 (α:=Nat) (β:=δ)) bs),qz (bs.map λy=>A y.2.1 y.2.2)]
def qw(enc:κ->A5)(m:Nat)(A:Nat->δ->Asn)[DecidableEq κ](L:List (κ×δ))(k:κ)(b:Nat):Asn:=exA λbs:List (κ×Nat×δ)=>qz [prA (qx (Aw (α:=Nat) (β:=δ)) bs=L/\∃d,qe bs k=A0 (b,d)),qg enc qc m (qx (A1 (α:=Nat) (β:=δ)) bs),qz ((qp bs k).map λy=>A y.2.1 y.2.2)]
variable{P:Program}{kt et mt:TypeId}{enc:κ->Value}{m b:Nat}{A:Nat->δ->Asn}{L:List (κ×δ)}{k:κ}{W w:World}{F:List Asn}
def qr.open_(h:St W (qr enc m A L::F) w):∃bs,qx (Aw (α:=Nat) (β:=δ)) bs=L/\St W (qg enc qc m (qx (A1 (α:=Nat) (β:=δ)) bs)::qz (bs.map λy=>A y.2.1 y.2.2)::F) w:=by obtain⟨bs,h⟩:=h.of_ex;obtain⟨a,h⟩:=h.of_sep.of_pr;exact⟨bs,a,h⟩
def qr.shut(bs:List (κ×Nat×δ))(a:qx (Aw (α:=Nat) (β:=δ)) bs=L)(h:St W (qg enc qc m (qx (A1 (α:=Nat) (β:=δ)) bs)::qz (bs.map λy=>A y.2.1 y.2.2)::F) w):St W (qr enc m A L::F) w:=
 z00 bs (zj (l:=[_,_,_]) (z01 a h))
def q6n{l r:List Asn}(a:l.Perm r)(h:St W (qz l::F) w):St W (qz r::F) w:=zj (h.of_sep.perm (a.append_right F))
def qf5{X:Asn}{l r:List Asn}(b:l.Perm (X::r))(h:St W (qz l::F) w):St W (X::qz r::F) w:=(zj (l:=r) (z0b (St.of_sep (q6n b h)) (B3 (l₁:=r) (a:=X) (l₂:=F)).symm)).p1
def q95{X:Asn}{l r:List Asn}(a:(X::r).Perm l)(h:St W (X::qz r::F) w):St W (qz l::F) w:=q6n a (zj (l:=X::r) (z0b (St.of_sep h.p1) B3))
def qr.keys(c:qw2 P kt enc)(h:St W (qr enc m A L::F) w):(L.map (·.1)).Nodup:=by obtain⟨bs,b,a⟩:=qr.open_ h;have:=z18 c a;rw[qx5]at this;rw[<-b,qx5];exact this
end
section
variable{κ δ:Type}[DecidableEq κ]{P:Program}{kt et mt:TypeId}{enc:κ->Value}{m b:Nat}{A:Nat->δ->Asn}{L:List (κ×δ)}{k:κ}{W w:World}{F:List Asn}
def qw.open_(h:St W (qw enc m A L k b::F) w):∃bs,(qx (Aw (α:=Nat) (β:=δ)) bs=L/\∃d,qe bs k=A0 (b,d))/\St W (qg enc qc m (qx (A1 (α:=Nat) (β:=δ)) bs)::qz ((qp bs k).map λy=>A y.2.1 y.2.2)::F) w:=by obtain⟨bs,h⟩:=h.of_ex;obtain⟨a,h⟩:=h.of_sep.of_pr;exact⟨bs,a,h⟩
def qw.shut(bs:List (κ×Nat×δ))(a:qx (Aw (α:=Nat) (β:=δ)) bs=L/\∃d,qe bs k=A0 (b,d))(h:St W (qg enc qc m (qx (A1 (α:=Nat) (β:=δ)) bs)::qz ((qp bs k).map λy=>A y.2.1 y.2.2)::F) w):St W (qw enc m A L k b::F) w:=
 z00 bs (zj (l:=[_,_,_]) (z01 a h))
def qr.take{d:δ}(c:qe L k=A0 d)(h:St W (qr enc m A L::F) w):∃b,St W (A b d::qw enc m A L k b::F) w:=by obtain⟨bs,i,g⟩:=qr.open_ h;subst i;rw[q62]at c;obtain⟨⟨b,a⟩,e,rfl⟩:=Option.map_eq_some_iff.1 c;refine⟨b,?_⟩;have j:=qf5 ((aget_perm e).map λy:κ×Nat×δ=>A y.2.1 y.2.2) g.p1;have f:St W (qg enc qc m (qx (A1 (α:=Nat) (β:=δ)) bs)::qz ((qp bs k).map λy=>A y.2.1 y.2.2)::A b a::F) w:=zf 1 2 (zf 2 0 j rfl) rfl;exact(qw.shut bs ⟨rfl,a,e⟩ f).p1
def qr.give{d:δ}(h:St W (A b d::qw enc m A L k b::F) w):St W (qr enc m A (qk L k d)::F) w:=by
 obtain⟨bs,⟨g,d0,f⟩,c⟩:=qw.open_ h.p1;subst g;have i:St W (A b d::qz ((qp bs k).map λy=>A y.2.1 y.2.2)::qg enc qc m (qx (A1 (α:=Nat) (β:=δ)) bs)::F) w:=zf 1 0 (zf 0 2 c rfl) rfl;have a:=q95 (l:=(qk bs k (b,d)).map λy=>A y.2.1 y.2.2) (by have:=(aget_perm (qj1 bs k (b,d))).map λy:κ×Nat×δ=>A y.2.1 y.2.2;rw[adel_aset]at this;exact this.symm) i
 refine qr.shut (qk bs k (b,d)) (by rw[<-qt2]) ?_;have e:qx (A1 (α:=Nat) (β:=δ)) (qk bs k (b,d))=qx (A1 (α:=Nat) (β:=δ)) bs:=by rw[<-qt2];exact qt1 (by rw[q62,f];rfl)
 rw[e];exact a.p1
end
section
variable{κ δ:Type}[DecidableEq κ]{P:Program}{kt et mt:TypeId}{enc:κ->Value}{m b:Nat}{A:Nat->δ->Asn}{L:List (κ×δ)}{k:κ}{W w:World}{l F:List Asn}
def qr.none_i(c:qw2 P kt enc)(d:P.underlying mt=A0 (.map kt et)){h:Be}(e:P.info? et=A0 h)(j:h.zero=A0 (Zq A4)){K:A5->A9->Prop}(n:Nat)(b:St W l w)(g:nth l n=A0 (qr enc m A L))(a:qe L k=A4)(ok:Bool)
 (i:K (if ok=As then Zt #[Zq A4,Zb Bj]else Zq A4) w):Run P (Ap mt (.map (A0 m)) (enc k) ok) w K:=by
 obtain⟨bs,o,f⟩:=qr.open_ (b.at n g);refine qq1 c d e j 0 f rfl k ok ?_;rw[<-o,q62,Option.map_eq_none_iff]at a;rw[q62,a];exact i
def qw.some_i(c:qw2 P kt enc)(e:P.underlying mt=A0 (.map kt et)){h:Be}(f:P.info? et=A0 h)(p:h.zero=A0 (Zq A4)){K:A5->A9->Prop}(n:Nat)(a:St W l w)(i:nth l n=A0 (qw enc m A L k b))(ok:Bool)
 (j:K (if ok=As then Zt #[qc b,Zb As]else qc b) w):Run P (Ap mt (.map (A0 m)) (enc k) ok) w K:=by
 obtain⟨bs,⟨q,d,o⟩,g⟩:=qw.open_ (a.at n i);refine qq1 c e f p 0 g rfl k ok ?_;rw[q62,o];exact j
def qw.del_i(e:qw2 P kt enc)(f:P.underlying mt=A0 (.map kt et)){ty:Bd}{K:A5->A9->Prop}(n:Nat)(c:St W l w)(a:nth l n=A0 (qw enc m A L k b))
 (i:∀w',St W (put l n [qr enc m A (qp L k)]) w'->K (Zt #[]) w'):Run P (Builtin.delete_ #[mt,kt] ty #[.map (A0 m),enc k]) w K:=by
 obtain⟨bs,⟨j,d,o⟩,g⟩:=qw.open_ (c.at n a);refine qc5 e f 0 g rfl k λw' h=>i w' (z05 n a (B:=[_]) (qr.shut (qp bs k) (by rw[<-j,qo7]) ?_));rw[qo7]at h;exact h
def qr.deln_i(c:qw2 P kt enc)(d:P.underlying mt=A0 (.map kt et)){ty:Bd}{K:A5->A9->Prop}(n:Nat)(b:St W l w)(a:nth l n=A0 (qr enc m A L))
 (f:∀w',St W (put l n [qr enc m A (qp L k)]) w'->K (Zt #[]) w'):Run P (Builtin.delete_ #[mt,kt] ty #[.map (A0 m),enc k]) w K:=by
 obtain⟨bs,g,e⟩:=qr.open_ (b.at n a);refine qc5 c d 0 e rfl k λw' h=>f w' (z05 n a (B:=[_]) (qr.shut (qp bs k) (by rw[<-g,qo7]) ?_));rw[qo7]at h;have h:St W (qg enc qc m (qx (A1 (α:=Nat) (β:=δ)) (qp bs k))::qz (bs.map λy=>A y.2.1 y.2.2)::del l n) w':=h;have i:=h.p1.of_sep;cases hg:qe bs k with
 |none=>rw[ql6 hg]at h⊢;exact h
 |some v=>exact((qf5 ((aget_perm hg).map λy:κ×Nat×δ=>A y.2.1 y.2.2) h.p1).drop).p1
def qr.set_i(q:qw2 P kt enc)(r:P.underlying mt=A0 (.map kt et)){K:A9->Prop}{d:δ}(i n:Nat)(p:St W l w)(s:nth l i=A0 (A b d))(f:nth (del l i) n=A0 (qr enc m A L))
 (t:∀w',St W (put (del l i) n [qr enc m A (qk L k d)]) w'->K w'):qt8 P (Ba mt (.map (A0 m)) (enc k) (qc b)) w K:=by
 have o:=p.at i s;have x:St W (qr enc m A L::(del (del l i) n++[A b d])) w:=by have j:=(zf 0 (del l i).length o rfl);have a:St W (del l i++[A b d]) w:=o.last;have g:nth (del l i++[A b d]) n=A0 (qr enc m A L):=(qr4 [A b d] f).1;have c:=a.at n g;rw[(qr4 [A b d] f).2.1]at c;exact c
 obtain⟨bs,u,j⟩:=qr.open_ x;refine qh1 q r 0 j rfl k b λw' h=>t w' (z05 n f (B:=[_]) ?_);have h:St W (qg enc qc m (qk (qx (A1 (α:=Nat) (β:=δ)) bs) k b)::qz (bs.map λy=>A y.2.1 y.2.2)::(del (del l i) n++[A b d])) w':=h;have e:qk (qx (A1 (α:=Nat) (β:=δ)) bs) k b=qx (A1 (α:=Nat) (β:=δ)) (qk bs k (b,d)):=by rw[<-qt2]
 rw[e]at h;refine qr.shut (qk bs k (b,d)) (by rw[<-qt2,u]) ?_;have a:St W (qz (bs.map λy=>A y.2.1 y.2.2)::qg enc qc m (qx (A1 (α:=Nat) (β:=δ)) (qk bs k (b,d)))::(del (del l i) n++[A b d])) w':=h.p1;have g:St W (qz ((qp bs k).map λy=>A y.2.1 y.2.2)::qg enc qc m (qx (A1 (α:=Nat) (β:=δ)) (qk bs k (b,d)))::(del (del l i) n++[A b d])) w':=by
  cases hg:qe bs k with
  |none=>rw[ql6 hg];exact a
  |some v=>exact(qf5 ((aget_perm hg).map λy:κ×Nat×δ=>A y.2.1 y.2.2) a).drop
 have c:St W (A b d::qz ((qp bs k).map λy=>A y.2.1 y.2.2)::qg enc qc m (qx (A1 (α:=Nat) (β:=δ)) (qk bs k (b,d)))::del (del l i) n) w':=z0b (l:=(qz ((qp bs k).map λy=>A y.2.1 y.2.2)::qg enc qc m (qx (A1 (α:=Nat) (β:=δ)) (qk bs k (b,d)))::del (del l i) n)++[A b d]) g (A8 _ _);exact(q95 (l:=(qk bs k (b,d)).map λy=>A y.2.1 y.2.2) (by have:=(aget_perm (qj1 bs k (b,d))).map λy:κ×Nat×δ=>A y.2.1 y.2.2;rw[adel_aset]at this;exact this.symm) c).p1
end
def z0i:=@qw.some_i
def z0o:=@qr.give
def z0y:=@qr.none_i
def z15:=@qr.take
def z19:=@qr.shut
def z1d:=@qr.open_
end
section
open Go Go.MapKept
def q901(a b:ByteArray)(n:Nat)(w:A9):(Op.equalIn (n+1) 9 (Zs a) (Zs b)).run Zp w=.ok (a==b) w:=by have h:Zp.underlying 9=A0 .string:=Tryz.underlying9;unfold Op.equalIn;simp[run_underlying h,A2]
def kkV(k:ByteArray×ByteArray):A5:=Zg #[Zs k.1,Zs k.2]
def uKK:Zp.underlying 326=A0 (.array 2 9):=Tryz.underlying326
def qt01(w:A9):(sizeOf 9).run Zp w=.ok 1 w:=by
 have h:Zp.info? 9=A0 Tryz.t9:=by kernel_rfl
 simp[sizeOf,typeInfo,h];rfl
def qpf(a b:ByteArray)(w:A9):(part 9 #[Zs a,Zs b] 0).run Zp w=.ok (Zs a) w/\(part 9 #[Zs a,Zs b] 1).run Zp w=.ok (Zs b) w:=by constructor<;>kernel_rfl
def q6x(k:ByteArray×ByteArray)(e:Bool)(w:A9):(Bf e 10000 326 (kkV k)).run Zp w=.ok () w:=by kernel_rfl
def q9h(a b:ByteArray×ByteArray)(w:A9):(Op.equal 326 (kkV a) (kkV b)).run Zp w=.ok (decide (a=b)) w:=by
 unfold Op.equal Op.maxDepth Op.equalIn kkV;have i:=λa b w=>q901 a b 9998 w;simp only[Nat.reduceAdd]at i;simp[run_underlying uKK,A2,qt01];rw[show List.range' 0 2=[0,1]from rfl];simp only[List.forIn_cons,List.forIn_nil,Sem.run_bind,A2,(qpf _ _ _).1,(qpf _ _ _).2,i];obtain⟨g,a2⟩:=a;obtain⟨d,f⟩:=b;by_cases c:(g==d)=As
 .rw[c];by_cases h:(a2==f)=As
  .have j:=(Ag g d).1 c;have k:=(Ag a2 f).1 h;subst j k;simp[A2,(qpf _ _ _).1,(qpf _ _ _).2,i,h]
  .have k:a2≠f:=λe=>h ((Ag a2 f).2 e);rw[B4]at h;simp[A2,(qpf _ _ _).1,(qpf _ _ _).2,i,h,k]
 .have j:g≠d:=λe=>c ((Ag g d).2 e);rw[B4]at c;rw[c];simp[A2,j]
structure q2d(P:Bi)(kt:Bd){κ:Type}(enc:κ->A5):Prop where
 inj:∀a b,enc a=enc b->a=b
 check:∀k e w,(Bf e 10000 kt (enc k)).run P w=.ok () w
 find:∀k (es:List Aj) w,(∀x∈es,∃k',x.key=enc k')->((Ae kt (enc k) es).run P w=.ok A4 w/\∀x∈es,x.key≠enc k)\/∃j e,(Ae kt (enc k) es).run P w=.ok (A0 (j,e.val)) w/\es[j]?=A0 e/\e.key=enc k
 stays:∀k w,(B0 (enc k) (enc k)).run P w=.ok (enc k) w
def q2d.of{P:Bi}{kt:Bd}{κ:Type}{enc:κ->A5}(g:qw2 P kt enc):q2d P kt enc:=by
 obtain⟨d,c,a⟩:=g.kind;refine⟨g.inj,λk e w=>run_checkKey c (a k) e 9999,λk es w h=>?_,λk w=>run_keyThatStays (a k)⟩;rcases findNow_spec (a k) es 0 (λx m=>by obtain⟨i,e⟩:=h x m;rw[e];exact a i)with ⟨f,b⟩|⟨j,e,f,b,l⟩
 .exact .inl ⟨run_findKey c f,b⟩
 .exact .inr ⟨j,e,by rw[run_findKey c f,Nat.zero_add],b,l⟩
def q1t(k:ByteArray×ByteArray)(w:A9):∀(es:List Aj) (i:Nat),(∀x∈es,∃c,x.key=kkV c)->
 ((Ac 326 (kkV k) es i).run Zp w=.ok A4 w/\∀x∈es,x.key≠kkV k)\/∃j e,(Ac 326 (kkV k) es i).run Zp w=.ok (A0 (i+j,e.val)) w/\es[j]?=A0 e/\e.key=kkV k
 |[],i,_=>.inl ⟨rfl,by simp⟩
 |x::r,i,h=>by
  obtain⟨c,a⟩:=h x (.head _);by_cases e:k=c
  .refine .inr ⟨0,x,?_,rfl,by rw[a,e]⟩;simp[Ac,a,q9h,A2,e]
  .have f:x.key≠kkV k:=λq=>e (by rw[a]at q;unfold kkV at q;cases k;cases c;simp at q;simp[q.1,q.2]);rcases q1t k w r (i+1) (λy b=>h y (.tail _ b))with ⟨g,d⟩|⟨j,y,g,d,l⟩
   .refine .inl ⟨?_,λy b=>?_⟩;.simp[Ac,a,q9h,A2,e,g]
    .cases b with
     |head=>exact f
     |tail _ b=>exact d y b
   .refine .inr ⟨j+1,y,?_,by simpa using d,l⟩;simp[Ac,a,q9h,A2,e,g];omega
def kKK:q2d Zp 326 kkV:=by
 refine⟨λa b h=>?_,q6x,λk es w h=>?_,λk w=>?_⟩;.unfold kkV at h;cases a;cases b;simp at h;simp[h.1,h.2]
 .cases es with
  |nil=>refine .inl ⟨?_,by simp⟩;simp[Ae,run_underlying uKK,A2,Az]
  |cons x r=>
   have i:Az (.array 2 9) (kkV k) (x::r) 0=A4:=by obtain⟨l,d⟩:=h x (.head _);simp[Az,Instr.sameNow,d,kkV]
   have g:(Ae 326 (kkV k) (x::r)).run Zp w=(Ac 326 (kkV k) (x::r)).run Zp w:=by simp[Ae,run_underlying uKK,A2,i]
   rw[g];rcases q1t k w (x::r) 0 h with c|⟨j,e,c,f⟩;.exact .inl c
   .exact .inr ⟨j,e,by rw[c,Nat.zero_add],f⟩
 .have c:∀a:ByteArray,(a==a)=As:=λa=>(Ag a a).2 rfl;simp[B0,kkV,Instr.sameBits,c]
section
variable{κ ν:Type}{P:Program}{kt et mt:TypeId}{enc:κ->Value}{vl:ν->Value}{W w:World}{l:List Asn}{m:Nat}{L:List (κ×ν)}
def qip(d:q2d P kt enc){es:Array Aj}{clock:Nat}(c:Stamped es clock)(h:es.toList.map (λe=>(e.key,e.val))=qk3 enc vl L):(L.map (·.1)).Nodup:=by have:=c.2.2;rw[qdb h]at this;exact List.Pairwise.of_map enc (λa b w e=>w (yE enc e)) this
def qs6(enc:κ->A5)(vl:ν->A5)(m:Nat)(L:List (κ×ν))(k:κ)(t:Nat):Asn:=exA λx:Array Aj×Nat=>qz [
 prA ((Stamped x.1 x.2/\x.1.toList.map (λe=>(e.key,e.val))=qk3 enc vl L)/\∃(j:Nat) (e:Aj),x.1.toList[j]?=A0 e/\e.key=enc k/\e.born=t),Pt m (.map x.1 x.2)]
def qs6.weak{h:Hp}{k:κ}{t:Nat}(w:qs6 enc vl m L k t h):qg enc vl m L h:=by obtain⟨x,c,d,⟨a,_⟩,b⟩:=w;exact⟨x,c,d,a,b⟩
def qs6.shut{F:List Asn}{k:κ}{t j clock:Nat}{es:Array Aj}{e:Aj}(f:Stamped es clock)(a:es.toList.map (λe=>(e.key,e.val))=qk3 enc vl L)(b:es.toList[j]?=A0 e)(d:e.key=enc k)(c:e.born=t)(h:St W (Pt m (.map es clock)::F) w):St W (qs6 enc vl m L k t::F) w:=
 z00 (es,clock) (zj (l:=[_,_]) (z01 ⟨⟨f,a⟩,j,e,b,d,c⟩ h))
def qs6.open_{F:List Asn}{k:κ}{t:Nat}(h:St W (qs6 enc vl m L k t::F) w):∃es clock,(Stamped es clock/\es.toList.map (λe=>(e.key,e.val))=qk3 enc vl L)/\(∃(j:Nat) (e:Aj),es.toList[j]?=A0 e/\e.key=enc k/\e.born=t)/\St W (Pt m (.map es clock)::F) w:=by obtain⟨⟨es,clock⟩,h⟩:=h.of_ex;obtain⟨⟨b,a⟩,h⟩:=h.of_sep.of_pr;exact⟨es,clock,b,a,h⟩
end
section
variable{κ ν:Type}[DecidableEq κ]{P:Program}{kt et mt:TypeId}{enc:κ->Value}{vl:ν->Value}{W w:World}{l:List Asn}{m:Nat}{L:List (κ×ν)}
def qyt(b:q2d P kt enc){es:Array Aj}{clock:Nat}(r:Stamped es clock)(h:es.toList.map (λe=>(e.key,e.val))=qk3 enc vl L)(k:κ)(w:A9):
 (qe L k=A4/\(Ae kt (enc k) es.toList).run P w=.ok A4 w/\∀x∈es.toList,x.key≠enc k)\/∃(j:Nat) (e:Aj) (v:ν),qe L k=A0 v/\(Ae kt (enc k) es.toList).run P w=.ok (A0 (j,vl v)) w/\es.toList[j]?=A0 e/\L[j]?=A0 (k,v)/\e.key=enc k/\e.val=vl v:=by
 rcases b.find k es.toList w (λx f=>by obtain⟨j,p⟩:=List.getElem?_of_mem f;obtain⟨c,n,_,e,_⟩:=qeb h p;exact⟨c,e⟩)with ⟨g,a⟩|⟨j,e,g,a,m⟩
 .refine .inl ⟨qm8.2 λx f e=>?_,g,a⟩;have:enc x.1∈es.toList.map (·.key):=by rw[qdb h];exact B1.2 ⟨_,B1.2 ⟨x,f,rfl⟩,rfl⟩
  obtain⟨y,o,d⟩:=B1.1 this;exact a y o (by rw[d,e])
 .obtain⟨c,n,l,q,i⟩:=qeb h a;have:c=k:=b.inj _ _ (q.symm.trans m);subst this;exact .inr ⟨j,e,n,q0p (qip b r h) l,by rw[g,i],a,l,m,i⟩
def q6e(b:q2d P kt enc)(f:P.underlying mt=A0 (.map kt et)){z:A5}{h:Be}(q:P.info? et=A0 h)(s:h.zero=A0 z){F:A5->A9->Prop}(n:Nat)(i:St W l w)(r:nth l n=A0 (qg enc vl m L))(k:κ)(ok:Bool)
 (p:F (if ok=As then Zt #[((qe L k).map vl).getD z,Zb (qe L k).isSome]else((qe L k).map vl).getD z) w):Run P (Ap mt (.map (A0 m)) (enc k) ok) w F:=by
 obtain⟨es,clock,t,o,d⟩:=z1c (i.at n r);have g:=(d.turn (o':=.map #[] 0)).1;refine⟨_,w,?_,p⟩;rcases qyt b t o k w with ⟨a,c,_⟩|⟨j,e,v,a,c,_⟩
 .simp[Ap,run_underlying f,A6 g,b.check,c,a,zeroValue,typeInfo,q,s]
 .simp[Ap,run_underlying f,A6 g,b.check,c,a]
def qve(f:q2d P kt enc)(C:P.underlying mt=A0 (.map kt et)){z:ν}{c:Be}(F:P.info? et=A0 c)(E:c.zero=A0 (vl z)){K:A5->A9->Prop}(n:Nat)(G:St W l w)(u:nth l n=A0 (qg enc vl m L))(k:κ)
 (D:∀(t:Nat) w',St W (put l n [qs6 enc vl m (qk L k ((qe L k).getD z)) k t]) w'->K (Zt #[vl ((qe L k).getD z),Zi Zk (t:Int)]) w'):Run P (Ax mt (.map (A0 m)) (enc k)) w K:=by
 obtain⟨es,clock,A,p,a⟩:=z1c (G.at n u);have g:=(a.turn (o':=.map #[] 0)).1;rcases qyt f A p k w with ⟨h,x,r⟩|⟨j,e,v,h,x,r,H,s,I⟩
 .have q:Stamped (es.push { key:=enc k,val:=vl z,born:=clock}) (clock+1):=stamped_push A r;have y:(es.push { key:=enc k,val:=vl z,born:=clock}).toList.map (λe=>(e.key,e.val))=qk3 enc vl (qk L k z):=by rw[qbc h];simp[qk3,p]
  refine⟨_,_,?_,D clock { w with heap:=w.heap.setIfInBounds m (.map (es.push { key:=enc k,val:=vl z,born:=clock}) (clock+1))} (z05 n u (B:=[_]) (qs6.shut (j:=es.size) (e:={ key:=enc k,val:=vl z,born:=clock}) q ?_ (by simp) rfl rfl a.turn.2))⟩;.simp[Ax,run_underlying C,A6 g,f.check,x,h,zeroValue,typeInfo,F,E,run_setObj_map _ g,goInt]
  .rw[h];exact y
 .have o:es[j]?=A0 e:=by simpa using r
  have q:Stamped (es.modify j λe=>{ e with key:=enc k}) clock:=stamped_modify A _ _ (λ_ _=>rfl) (λe' _ b=>by rw[o]at b;cases b;exact s.symm);have y:(es.modify j λe=>{ e with key:=enc k}).toList.map (λe=>(e.key,e.val))=qk3 enc vl (qk L k v):=by
   rw[qt1 h,<-p];refine Ar λi=>?_;simp only[Ab,Af,Ak];by_cases d:j=i;.subst d;simp[o,s]
   .simp[d]
  refine⟨_,_,?_,D e.born { w with heap:=w.heap.setIfInBounds m (.map (es.modify j λe=>{ e with key:=enc k}) clock)} (z05 n u (B:=[_]) (qs6.shut (j:=j) (e:={ e with key:=enc k}) q ?_ (by simp[Ak,o]) rfl rfl a.turn.2))⟩;.simp[Ax,run_underlying C,A6 g,f.check,x,h,o,s,f.stays,run_setObj_map _ g,goInt]
  .rw[h];exact y
def qvb(r:q2d P kt enc){K:A9->Prop}{k:κ}{t:Nat}{u:ν}(M:qe L k=A0 u)(v:ν)(n:Nat)(I:St W l w)(y:nth l n=A0 (qs6 enc vl m L k t))
 (J:∀w',St W (put l n [qg enc vl m (qk L k v)]) w'->K w'):qt8 P (B5 mt (.map (A0 m)) (Zi Zk (t:Int)) (vl v)) w K:=by
 obtain⟨es,clock,⟨q,f⟩,⟨j,e,g,A,x⟩,c⟩:=qs6.open_ (I.at n y);have z:=(c.turn (o':=.map #[] 0)).1;have C:es[j]?=A0 e:=by simpa using g
 obtain⟨D,Q,s,G,O⟩:=qeb f g;have:D=k:=r.inj _ _ (G.symm.trans A);subst this;have E:es.findIdx? (λe=>(e.born:Int)==(t:Int))=A0 j:=by
  obtain⟨a,F⟩:=Array.getElem?_eq_some_iff.1 C;rw[Array.findIdx?_eq_some_iff_getElem];refine⟨a,by rw[F,x];simp,λi N p=>?_⟩;have o:=((stamped_iff es clock).1 q).2.1;have h:i<es.size:=by omega
  have p:(es[i]'h).born=t:=Int.ofNat.inj (eq_of_beq p);have H:(es.toList.map (·.born))[i]?=A0 t:=by rw[Ab,Af,Array.getElem?_eq_getElem h,Bb,p]
  have a2:(es.toList.map (·.born))[j]?=A0 t:=by rw[Ab,g];simp[x]
  have:=(List.getElem?_inj (i:=i) (j:=j) (by simpa using h) o).1 (H.trans a2.symm);omega
 refine⟨{ w with heap:=w.heap.setIfInBounds m (.map (es.modify j λe=>{ e with val:=vl v}) clock)},?_,J _ (z05 n y (B:=[_]) (qg.shut (es:=es.modify j λe=>{ e with val:=vl v}) (stamped_modify q _ _ (λ_ _=>rfl) (λ_ _ _=>rfl)) ?_ c.turn.2))⟩;.simp[B5,A6 z,asInt,asIntOf,E,run_setObj_map _ z]
 .rw[qep (qip r q f) s];refine Ar λi=>?_;have b:=yE (λl:List (A5×A5)=>l[i]?) f;simp only[qk3,Ab,Af]at b;simp only[qk3,Ab,Af,Ak,List.getElem?_set];by_cases d:j=i
  .subst d;have a:j<L.length:=(List.getElem?_eq_some_iff.1 s).1;simp[C,a,A]
  .simp[d,b]
end
end
def sel(n:Nat)(h:List Nat)(l:List Asn):List Asn:=h.map (λi=>(nth l i).getD (prA True))++l.drop n
def qjx(n:Nat)(h:List Nat):Bool:=decide h.Nodup&&h.all λi=>Nat.blt i n
def nth_eq:∀(l:List Asn) (i:Nat),nth l i=l[i]?
 |[],_=>rfl
 |_::_,0=>rfl
 |_::r,i+1=>nth_eq r i
def St.sel{W w:A9}{l:List Asn}(n:Nat)(d:List Nat)(h:St W l w)(m:(Nat.ble n l.length&&qjx n d)=As):St W (Go.Proofs.YtfjifcfbmhpcaaaGreatDoor.sel n d l) w:=by
 rw[B6]at m;obtain⟨q,j⟩:=m;have q:=Nat.le_of_ble_eq_true q;unfold qjx at j;rw[B6]at j;obtain⟨g,f⟩:=j;have g:=yC g;have f:∀i∈d,i<n:=λi c=>Nat.le_of_ble_eq_true (List.all_eq_true.1 f i c);have e:l.take n=(Au n).map λi=>(nth l i).getD (prA True):=by
  refine Ar λi=>?_;rw[List.getElem?_take,Ab];by_cases c:i<n
  .rw[yB c,List.getElem?_range c,Bb,nth_eq,List.getElem?_eq_getElem (by omega)];rfl
  .rw[yA c,List.getElem?_eq_none (by simp;omega)];rfl
 have v:(Au n).Perm (d++(Au n).filter λi=>decide (i∉d)):=by
  refine(A3 B7 ?_).2 λi=>?_
  .refine List.nodup_append.2 ⟨g,B7.filter _,λa s b t=>?_⟩;rintro rfl;have:=(Bc.1 t).2;simp[s]at this
  .simp only[List.mem_range,List.mem_append,Bc,yJ];constructor
   .intro c;by_cases o:i∈d;.exact .inl o
    .exact .inr ⟨c,o⟩
   .rintro(c|c);.exact f i c
    .exact c.1
 have p:St W (((d++(Au n).filter λi=>decide (i∉d)).map λi=>(nth l i).getD (prA True))++l.drop n) w:=by refine z0b h ?_;have:=(v.map λi=>(nth l i).getD (prA True)).append_right (l.drop n);rw[<-e,List.take_append_drop]at this;exact this
 rw[Ai]at p;have u:St W (((Au n).filter λi=>decide (i∉d)).map (λi=>(nth l i).getD (prA True))++(d.map (λi=>(nth l i).getD (prA True))++l.drop n)) w:=by refine z0b p ?_;rw[<-List.append_assoc];exact Av.append_right _
 have k:∀(a b:List Asn),St W (a++b) w->St W b w:=λa=>by
  induction a with
  |nil=>exact λb h=>h
  |cons x r ih=>exact λb h=>ih b h.drop
 exact k _ _ u
def qs5.f{κ ν:Type}{W w:A9}{l:List Asn}{F:Nat->A9->Prop}(enc:κ->A5)(vl:ν->A5)(a:St W l w)(c:∀b w',St W (qg enc vl b ([]:List (κ×ν))::l) w'->F b w'):qs5 w F:=
 qs5.n enc vl a λb w h=>c b w (h.perm (A8 _ _))
def St.dropR{W w:A9}{l r:List Asn}(h:St W (l++r) w):St W l w:=by
 have c:∀(a b:List Asn),St W (a++b) w->St W b w:=λa=>by
  induction a with
  |nil=>exact λb h=>h
  |cons x r ih=>exact λb h=>ih b h.drop
 exact c r l (h.perm Av)
def qr.setH_i{κ δ:Type}[DecidableEq κ]{P:Bi}{o t mt:Bd}{enc:κ->A5}{m b:Nat}{A:Nat->δ->Asn}{L:List (κ×δ)}{k:κ}{W w:A9}{l:List Asn}(r:qw2 P o enc)(s:P.underlying mt=A0 (.map o t)){K:A9->Prop}{d:δ}(n:Nat)(p:St W (A b d::l) w)(c:nth l n=A0 (qr enc m A L))
 (u:∀w',St W (A b d::put l n [qw enc m A (qk L k d) k b]) w'->K w'):qt8 P (Ba mt (.map (A0 m)) (enc k) (qc b)) w K:=by
 have z:St W (qr enc m A L::(del l n++[A b d])) w:=by have f:St W (l++[A b d]) w:=p.last;have g:nth (l++[A b d]) n=A0 (qr enc m A L):=(qr4 [A b d] c).1;have a:=f.at n g;rw[(qr4 [A b d] c).2.1]at a;exact a
 obtain⟨bs,x,q⟩:=z1d z;refine qh1 r s 0 q rfl k b λw' h=>u w' ?_;have h:St W (qg enc qc m (qk (qx (A1 (α:=Nat) (β:=δ)) bs) k b)::qz (bs.map λy=>A y.2.1 y.2.2)::(del l n++[A b d])) w':=h;have e:qk (qx (A1 (α:=Nat) (β:=δ)) bs) k b=qx (A1 (α:=Nat) (β:=δ)) (qk bs k (b,d)):=by rw[<-qt2]
 rw[e]at h;have f:St W (qz (bs.map λy=>A y.2.1 y.2.2)::qg enc qc m (qx (A1 (α:=Nat) (β:=δ)) (qk bs k (b,d)))::(del l n++[A b d])) w':=h.p1;have g:St W (qz ((qp bs k).map λy=>A y.2.1 y.2.2)::qg enc qc m (qx (A1 (α:=Nat) (β:=δ)) (qk bs k (b,d)))::(del l n++[A b d])) w':=by
  cases hg:qe bs k with
  |none=>rw[ql6 hg];exact f
  |some v=>exact((qf5 ((aget_perm hg).map λy:κ×Nat×δ=>A y.2.1 y.2.2) f).drop)
 rw[<-adel_aset bs k (b,d)]at g;have a:St W (qw enc m A (qk L k d) k b::(del l n++[A b d])) w':=qw.shut (qk bs k (b,d)) ⟨by rw[<-qt2,x],d,qj1 _ _ _⟩ g.p1;have D:St W (A b d::(qw enc m A (qk L k d) k b::del l n)) w':=z0b (l:=(qw enc m A (qk L k d) k b::del l n)++[A b d]) a (A8 _ _);have C:St W (qw enc m A (qk L k d) k b::(del l n++[A b d])) w':=a;have i:nth (l++[A b d]) n=A0 (qr enc m A L):=(qr4 [A b d] c).1;have j:=z05 n i (B:=[qw enc m A (qk L k d) k b]) (by rw[(qr4 [A b d] c).2.1];exact a);rw[(qr4 [A b d] c).2.2]at j;exact z0b (l:=put l n [qw enc m A (qk L k d) k b]++[A b d]) j (A8 _ _)
def zl:=@St.sel
end Go.Proofs.YtfjifcfbmhpcaaaGreatDoor
