/-
  A part of the proof of TopEvicted.
-/
import Derived.Test.YtfjifcfbmhpcaaaGreatDoorV26
import Derived.Test.YtfjifcfbmhpcaaaGreatDoorV28
import Derived.Test.YtfjifcfbmhpcaaaGreatDoorV00
set_option linter.defProp false
set_option linter.unusedVariables false
set_option linter.unusedSimpArgs false
namespace Go.Proofs.YtfjifcfbmhpcaaaGreatDoor
open Go
open Go.Proofs.Tryz renaming prog → Zp
open Go.IntKind renaming i64 → Zk
open Go.Addr renaming add → Za
open Go.Value renaming int → Zi, string → Zs, pointer → Zq, bool → Zb, tuple → Zt, slice → Zl, agg → Zg
open _root_.Option renaming some->A0,none->A1
open _root_.Nat renaming lt_succ_self->A2,lt_of_le_of_lt->A8,mul_one->Ag
open _root_.List renaming mem_cons_self->A3,not_mem_nil->A4,mem_cons->Aa,length_append->Ah,map_append->Aj,drop->Am
open Go renaming Value->A5,World->A7,Addr->Ai
open _root_.Array renaming getD_eq_getD_getElem?->A6,getElem?_append_left->A9,replicate->Ak
open _root_.Bool renaming false->Ab,true->Af
open _root_.Prod renaming fst->Ac
open Go.Fence renaming wide->Ad
open _root_.Option.some renaming inj->Ae
section
noncomputable def q0c(fn:FuncId)(tmps:Array A5)(D:Nat)(s:LoopState):Loop:={ state:=s,pending:=A1,fn:=fn,tmps:=tmps,params:=#[31],assign:=hrA,body:=hrB,defers:=D}
@[reducible] def qo4 (fn:FuncId) (tmps:Array A5) (l D b2 b3 b4 x b:Nat) (d:q81) (s:LoopState) (F:List Asn):List Asn:=
 Pt l (.loop (q0c fn tmps D s))::Pt D (.deferred (A0 []))::Row b2 25 [qc x]::Row b3 38 (q21 d)::Row b4 75 [qc b]::F
section
variable{W w:World}{F:List Asn}{c:qy}{P:qe1}{x b:Nat}{q:qb5}{rp:Option Addr}{rc n:Nat}{v v':Wd}{L:qn}{k:Int}
variable{fn:FuncId}{tmps:Array Value}{l D b2 b3 b4:Nat}{d:q81}
def qi01(y:qk1)(e:Env)(w:A7)(K:Env->A7->Prop):qy7 Zp 96 (qo1 hrA).toList ((31,ql2 y)::e) w K=
 qh #[Zi Zk 0,Zs ⟨#[]⟩,Zs ⟨#[]⟩,Zi Zk 0,Zi Zk 0] 74 w λb w=>St1 (Za ⟨b,0,A1⟩ 0) (Zi Zk y.k) w λw=>St1 (Za ⟨b,0,A1⟩ 1) (Zs y.A) w λw=>St1 (Za ⟨b,0,A1⟩ 2) (Zs y.B) w λw=>
  St1 (Za ⟨b,0,A1⟩ 3) (Zi Zk y.N) w λw=>St1 (Za ⟨b,0,A1⟩ 4) (Zi Zk y.M) w λw=>K ((6,qc b)::(31,ql2 y)::e) w:=by kernel_rfl
def agM{C:Cls}{l:List Asn}{b t:Nat}{m:qk1}(k:Nat)(c:Is W C l)(g:nth l k=A0 (Row b t [Zi Zk m.k,Zs m.A,Zs m.B,Zi Zk m.N,Zi Zk m.M])):
 Qt C (ql2 m) λw K=>LdI Zk (Za ⟨b,0,A1⟩ 0) w λd=>LdS (Za ⟨b,0,A1⟩ 1) w λi=>LdS (Za ⟨b,0,A1⟩ 2) w λf=>LdI Zk (Za ⟨b,0,A1⟩ 3) w λe=>LdI Zk (Za ⟨b,0,A1⟩ 4) w λj=>K (Zg #[Zi Zk d,Zs i,Zs f,Zi Zk e,Zi Zk j]) w:=λG w h=>by
 have a:=c.at k g h;exact z8 0 a rfl rfl (zg 0 a rfl rfl (zg 0 a rfl rfl (z8 0 a rfl rfl (z8 0 a rfl rfl ⟨rfl,h⟩))))
def qlw(P:qe1)(g:AG)(no:Int)(m:qk1)(now:Int)(b:Nat):(q22 P g no m now b).2.length<=2:=by
 unfold q22;split;.simp
 .split;.simp
  .split;.split<;>simp
   .split
    .split;.split<;>simp
     .simp
    .unfold qe2 qp4;split;.simp
     .split;.simp
      .split<;>simp
set_option maxHeartbeats 2000000 in
def q4o(m:qk1)(X:ql1 F c)(u:qe v.lines k=A0 L)(p:Wd.does c n { v with g:=(q22 P v.g L.no m v.b.K.now 0).1} (q22 P v.g L.no m v.b.K.now 0).2=A0 v')
 (C:qs1 96 [(4,qc b4),(3,qc b3),(2,qc b2)] { tmps:=tmps,defers:=[]})
 (a:St W (wld [(k,b)] c P x q rp rc v (qo4 fn tmps l D b2 b3 b4 x b d .ready F)) w):
 RoundIn Ad 0 Zp l fn (tmps.setIfInBounds 31 (ql2 m)) hrA hrB w λR w'=>∃r,R=.returned r/\r=Zb Af/\∃rp rc,St W (wld [(k,b)] c P x q rp rc v' (qo4 fn tmps l D b2 b3 b4 x b d .ready F)) w':=by
 refine roundIn_of_wpIn trivial ?_;have M:qx4 (Ad.inRound l):=.inr ⟨l,rfl⟩;have H:qs1 96 [(31,ql2 m),(4,qc b4),(3,qc b3),(2,qc b2)] { tmps:=tmps.setIfInBounds 31 (ql2 m),defers:=[]}:=C.put1 (d:=31) (ql2 m) (by decide);rw[q7z];refine qk6 M qcy (K:=λe' w'=>∃e,e'=[(6,qc e),(31,ql2 m),(4,qc b4),(3,qc b3),(2,qc b2)]/\St W (wld [(k,b)] c P x q rp rc v (Row e 74 [Zi Zk m.k,Zs m.A,Zs m.B,Zi Zk m.N,Zi Zk m.M]::qo4 fn tmps l D b2 b3 b4 x b d .ready F)) w') ?_ H ?_
 .rw[qi01];exact z08 6 a λb w a=>St1.zz 6 a rfl λw a=>St1.zz 6 a rfl λw a=>St1.zz 6 a rfl λw a=>St1.zz 6 a rfl λw a=>St1.zz 6 a rfl λw a=>⟨b,rfl,a⟩
 clear a H C;rintro e2 a2 w2 ⟨e,rfl,a⟩ ha2;have o:qs1 96 [(6,qc e),(4,qc b4),(3,qc b3),(2,qc b2)] a2:=ha2.pick λy J=>by simp only[Aa,A4,yK]at J;rcases J with rfl|rfl|rfl|rfl<;>rfl
 clear ha2;obtain⟨s,a⟩:=(zf 7 0 a rfl).turn (o':=.loop (q0c fn tmps D .busy));have a:St W (wld [(k,b)] c P x q rp rc v (Row e 74 [Zi Zk m.k,Zs m.A,Zs m.B,Zi Zk m.N,Zi Zk m.M]::qo4 fn tmps l D b2 b3 b4 x b d .busy F)) _:=zf 0 7 a rfl;refine⟨_,run_beginRound s rfl,?_⟩;rw[qyz];refine wpIn_block (qzx (f:=2998) (ord:=[(0,Ab),(1,Ab),(2,Ab),(3,Ab),(4,Ab),(5,Ab),(6,Ab),(7,Ab),(8,Ab),(9,Ab),(10,Ab),(11,Ab),(12,Ab),(13,Ab),(14,Af),(15,Af),(16,Af)]) (Q:=QJ [] (λ_ w'=>∃rp rc,St W (wld [(k,b)] c P x q rp rc v' (qo4 fn tmps l D b2 b3 b4 x b d .busy F)) w') (λ_ _=>False)) M mixed qiz q1z q801 ?_ o ?_)
 .rw[<-qqw];refine(F62b_eq b2 b3 b4 e _ _ _).mpr ?_;obtain⟨E,I,A,t,a⟩:=wld.take A3 u a;refine⟨StC W _,zd a,_,zy 12 ir rfl rfl,_,zy 12 ir rfl rfl,z7 ⟨_,zo 0 ir rfl rfl,_,zy 14 ir rfl rfl,z7 ⟨_,zi 6 ir rfl rfl,_,_,_,_,_,agM 9 ir rfl,_,zy 12 ir rfl rfl,z7 ⟨_,zo 0 ir rfl rfl,?_⟩⟩⟩⟩;refine z04 1 ir rfl (λG w h=>qxj h) (λ_ _ h=>⟨_,rfl,h⟩) ⟨_,rfl,⟨agM 9 ir rfl,zi 6 ir rfl rfl,zy 14 ir rfl rfl,zo 0 ir rfl rfl,zy 12 ir rfl rfl,zy 12 ir rfl rfl⟩,?_⟩;refine Ef.sl 2 ir rfl (λG w h=>qzp L.no m v.b.K.now h) (λ_ _ _ _ h=>⟨_,_,_,rfl,h⟩) λap ac=>⟨_,_,_,rfl,zy 13 ir rfl rfl,?_⟩;have i:=qlw P v.g L.no m v.b.K.now 0;generalize q22 P v.g L.no m v.b.K.now 0=hp at p i⊢;obtain⟨z,j⟩:=hp;dsimp only at p i⊢;refine zk (α:=Option Ai×Nat) (V:=λ_=>Zt #[]) (B:=λy=>wld [(k,b)] c P x q y.1 y.2 v' (Row e 74 [Zi Zk m.k,Zs m.A,Zs m.B,Zi Zk m.N,Zi Zk m.M]::qo4 fn tmps l D b2 b3 b4 x b d .busy F)) (A1,0) ir (λG w h=>?_) λy=>⟨rfl,trivial,λG w h=>?_⟩
  .have Z:St W (qj9 [(k,b)] k b c P x q rp rc { v with g:=z} (Row b 140 (lnC L E I A t)::q51 5 1 E L.came.length I (L.came.map qd)::q51 5 1 A L.back.length t (L.back.map qd)::qm2 ap ac j::Row e 74 [Zi Zk m.k,Zs m.A,Zs m.B,Zi Zk m.N,Zi Zk m.M]::qo4 fn tmps l D b2 b3 b4 x b d .busy F++pts G)) w:=zf 0 9 h rfl;have N:=wld.back (v:={ v with g:=z}) u Z;exact(qbj (ap:=ap) (ac:=ac) (((((((X.app (pts G)).cons _).cons _).cons _).cons _).cons _ |>.cons _) |>.cons _) (z0g _) (by omega) p N).of λr w ⟨Y,rp,rc,a⟩=>⟨Y,(rp,rc),rfl,a.del 6 rfl⟩
  .exact⟨y.1,y.2,(zb h).del 6 rfl⟩
 .rintro e3 a3 T O U;obtain⟨rp,rc,a⟩:∃rp rc,St W (wld [(k,b)] c P x q rp rc v' (qo4 fn tmps l D b2 b3 b4 x b d .busy F)) T:=O;obtain⟨s,a⟩:=(zf 6 0 a rfl).turn (o':=.loop (q0c fn tmps D .ready));exact⟨_,_,run_endRound A1 s,_,rfl,rfl,rp,rc,zf 0 6 a rfl⟩
def qbq(tmps:Array A5)(a:A5):(Array.zip (#[31]:Array Tmp) [a].toArray).foldl (λtmps (t,a)=>tmps.setIfInBounds t a) tmps=tmps.setIfInBounds 31 a:=by simp
def qgz(m:qk1){K:A5->A7->Prop}(f:ql1 F c)(e:qe v.lines k=A0 L)(a:Wd.does c n { v with g:=(q22 P v.g L.no m v.b.K.now 0).1} (q22 P v.g L.no m v.b.K.now 0).2=A0 v')
 (j:qs1 96 [(4,qc b4),(3,qc b3),(2,qc b2)] { tmps:=tmps,defers:=[]})
 (h:St W (wld [(k,b)] c P x q rp rc v (qo4 fn tmps l D b2 b3 b4 x b d .ready F)) w) (p:∀rp rc w',St W (wld [(k,b)] c P x q rp rc v' (qo4 fn tmps l D b2 b3 b4 x b d .ready F)) w'->K (Zb Af) w'):
 q01 Zp 4 (.func (.yield l) #[] #[]) [ql2 m] w K:=by
 have o:=zf 6 0 h rfl;refine .inr ⟨l,q0c fn tmps D .ready,rfl,o.pt,rfl,?_⟩;have key:=q4o m f e a j h;rw[<-qbq]at key;exact RoundIn.mono key λt w' ⟨r,s,i,rp,rc,h⟩=>⟨r,s,by subst i;exact p rp rc _ h⟩
end
end
section
def qyp(bs:List UInt8):(Fr.firstP bs).2.1<=bs.length:=by
 unfold Fr.firstP;split;.simp
 .split;.simp
  .split;.simp
   .split;.simp
    .split;.simp
     .simp only[List.length_cons];omega
section
variable{W w:World}{F:List Asn}{c:qy}{P:qe1}{x b:Nat}{q:qb5}{rp:Option Addr}{rc n:Nat}{v v':Wd}{L:qn}{k:Int}
variable{fn:FuncId}{tmps:Array Value}{l D b2 b3 b4 cap:Nat}{d:q81}
set_option maxHeartbeats 2000000 in
def q6t{f:Nat}(Y:ql1 F c)(e:v.msgs c n P f k=A0 v')(X:qs1 96 [(4,qc b4),(3,qc b3),(2,qc b2)] { tmps:=tmps,defers:=[]})
 (a:St W (wld [(k,b)] c P x q rp rc v (qo4 fn tmps l D b2 b3 b4 x b d .ready (Row cap 75 [qc b]::F))) w):
 qb Zp 165 #[.func (.yield l) #[] #[],Zq (A0 ⟨cap,0,A1⟩)] w λr w'=>r=Zt #[]/\∃rp rc,St W (wld [(k,b)] c P x q rp rc v' (qo4 fn tmps l D b2 b3 b4 x b d .ready (Row cap 75 [qc b]::F))) w':=by
 refine F165_of (qt3 (λf vs w=>vs=[]/\∃v rp rc,v.msgs c n P f k=A0 v'/\St W (wld [(k,b)] c P x q rp rc v (qo4 fn tmps l D b2 b3 b4 x b d .ready (Row cap 75 [qc b]::F))) w) λμ R t=>⟨⟨f,rfl,v,rp,rc,e,a⟩,λw Q=>?_⟩);clear a e;obtain⟨_,v,rp,rc,e,a⟩:=t _ _ Q;have s:∀(v:Wd) (rp:Option Ai) (rc f:Nat) (w':A7),f < μ [] w->v.msgs c n P f k=A0 v'->St W (wld [(k,b)] c P x q rp rc v (qo4 fn tmps l D b2 b3 b4 x b d .ready (Row cap 75 [qc b]::F))) w'->(∃f,([]:List A5)=[]/\∃v rp rc,v.msgs c n P f k=A0 v'/\St W (wld [(k,b)] c P x q rp rc v (qo4 fn tmps l D b2 b3 b4 x b d .ready (Row cap 75 [qc b]::F))) w')/\μ [] w' < μ [] w:=λv rp rc f w' M e a=>by have z:([]:List A5)=[]/\∃v rp rc,v.msgs c n P f k=A0 v'/\St W (wld [(k,b)] c P x q rp rc v (qo4 fn tmps l D b2 b3 b4 x b d .ready (Row cap 75 [qc b]::F))) w':=⟨rfl,v,rp,rc,e,a⟩;exact⟨⟨_,z⟩,A8 (R _ _ _ z) M⟩
 generalize μ [] w=f at e s;clear R t Q;cases f with
 |zero=>cases e
 |succ f=>
 unfold Wd.msgs at e;cases hL:qe v.lines k with
 |none=>rw[hL]at e;cases e
 |some L=>
 rw[hL]at e;dsimp only at e;obtain⟨i,j,C,A,a⟩:=wld.take A3 hL a;refine LdP.n 14 a rfl rfl (z7 (zx 6 a rfl rfl (za (λh=>?_) λh=>?_)));case refine_2=>
  rw[yB (by simpa using h)]at e;cases e;exact⟨rfl,rp,rc,wld.back hL a⟩
 rw[yA (by simpa using h)]at e;by_cases o:1000000<L.came.length;.rw[yB o]at e;cases e
 rw[yA o]at e;refine LdP.n 14 a rfl rfl (z7 (zr 6 a rfl rfl ((Fr.First_spec (bs:=L.came) (z06 7 rfl λF=>q51.rd F) rfl (q51.le (a.at 7 rfl)).2 (by omega) a).of λr w ⟨N,J,E,a⟩=>⟨_,_,_,_,_,E,za (λt=>?_) λt=>?_⟩)))
 .rw[yB (by have:(((Fr.firstP L.came).2.1:Nat):Int)=0:=(by simpa using t);omega)]at e;cases e;exact⟨rfl,rp,rc,wld.back hL a.drop⟩
 rw[yA (by have:¬(((Fr.firstP L.came).2.1:Nat):Int)=0:=(by simpa using t);omega)]at e;have p:=qyp L.came;have T:=(q51.le (a.at 8 rfl)).2;generalize U:Fr.firstP L.came=fp at e p a⊢;obtain⟨u,m,Z⟩:=fp;dsimp only at e p a⊢;refine⟨StC W _,zd a,_,zy 15 ir rfl rfl,_,zy 15 ir rfl rfl,z7 ⟨_,_,_,QtL.a 7 ir rfl rfl,⟨⟨by omega,by omega,by omega⟩,z7 ?_⟩⟩⟩;refine zk (α:=Unit) (V:=λ_=>Zt #[]) (B:=λ_=>Fr.OwnB N J u::qj9 [(k,b)] k b c P x q rp rc v (Row b 140 [Zi Zk L.no,Zi Zk L.conn,.slice (if j=m then i else i.map (·.add (m*1))) (L.came.length - m) (j - m),Zl C L.back.length A,Zb L.en,Zb L.raw]::q51 5 1 (if j=m then i else i.map (·.add (m*1))) (L.came.length - m) (j - m) ((L.came.map qd).drop (m*1))::q51 5 1 C L.back.length A (L.back.map qd)::qo4 fn tmps l D b2 b3 b4 x b d .ready (Row cap 75 [qc b]::F))) () ir (λG w h=>?_) λ_=>⟨rfl,trivial,λG w h=>?_⟩
 .refine St1.zz 7 h rfl λw a=>⟨(),rfl,?_⟩;exact z05 8 (B:=[_]) rfl (q51.from_ p (a.at 8 rfl))
 have a:=zb h;clear h;have K:(L.came.drop m).length=L.came.length - m:=List.length_drop;rw[Ag,<-List.map_drop,<-K]at a;have a:St W (qj9 [(k,b)] k b c P x q rp rc v (Row b 140 (lnC { L with came:=L.came.drop m} (if j=m then i else i.map (·.add m)) (j - m) C A)::q51 5 1 (if j=m then i else i.map (·.add m)) (L.came.drop m).length (j - m) ((L.came.drop m).map qd)::q51 5 1 C L.back.length A (L.back.map qd)::qo4 fn tmps l D b2 b3 b4 x b d .ready (Row cap 75 [qc b]::Fr.OwnB N J u::F))) w:=zf 0 15 a rfl;have a:=wld.give (L:={ L with came:=L.came.drop m}) a;refine(qtj (b:=u) (z06 12 rfl λF=>z0j F) (qi.le (a.at 12 rfl)).2 a).of λr w ⟨E,a⟩=>⟨_,_,_,_,_,_,E,z08 13 a λI w a=>?_⟩;refine St1.zz 13 a rfl λw a=>St1.zz 13 a rfl λw a=>St1.zz 13 a rfl λw a=>St1.zz 13 a rfl λw a=>St1.zz 13 a rfl λw a=>?_;clear E;generalize qxg u=gm at e a⊢;obtain⟨y,is⟩:=gm;dsimp only at e a⊢;have a:St W (wld [(k,b)] c P x q rp rc (v.setL k { L with came:=L.came.drop m}) (qo4 fn tmps l D b2 b3 b4 x b d .ready (Row cap 75 [qc b]::Fr.OwnB N J u::Row I 74 [Zi Zk y.k,Zs y.A,Zs y.B,Zi Zk y.N,Zi Zk y.M]::F))) w:=a;refine za (λH=>?_) λH=>?_
 .rw[yA (by rw[H];simp)]at e;cases hd:Wd.does c n { v.setL k { L with came:=L.came.drop m}with g:=(q22 P (v.setL k { L with came:=L.came.drop m}).g L.no y (v.setL k { L with came:=L.came.drop m}).b.K.now 0).1} (q22 P (v.setL k { L with came:=L.came.drop m}).g L.no y (v.setL k { L with came:=L.came.drop m}).b.K.now 0).2 with
  |none=>rw[hd]at e;cases e
  |some v2=>
  rw[hd]at e;dsimp only at e;have O:qe (v.setL k { L with came:=L.came.drop m}).lines k=A0 { L with came:=L.came.drop m}:=qj1 _ _ _;refine z8 13 a rfl rfl (zg 13 a rfl rfl (zg 13 a rfl rfl (z8 13 a rfl rfl (z8 13 a rfl rfl (qgz y (((Y.cons _).cons _).cons _) O hd X a λrp rc w a=>⟨_,rfl,zm rfl ?_⟩)))));exact s v2 rp rc f w (A2 _) e ((a.del 12 rfl).del 12 rfl)
 .rw[yB H]at e;exact s _ rp rc f w (A2 _) e ((a.del 12 rfl).del 12 rfl)
end
end
section
section
variable{W w:World}{F l:List Asn}{c:qy}{P:qe1}{x b:Nat}{q:qb5}{rp:Option Addr}{rc n m:Nat}{v v':Wd}{L:qn}{k:Int}{d:q81}{o:List (Int×Nat)}{Ls:List (Int×qn)}
def ql5.del_i{ty:TypeId}{K:A5->A7->Prop}(i:Nat)(c:St W l w)(a:nth l i=A0 (ql5 o m Ls k b))(f:∀w',St W (put l i [qx1 [] m (qp Ls k)]) w'->K (Zt #[]) w'):
 Run Zp (Builtin.delete_ #[78,3] ty #[.map (A0 m),Zi Zk k]) w K:=by
 obtain⟨bs,⟨g,j,d,n⟩,h⟩:=ql5.open_ (c.at i a);refine qc5 kI q1j 0 h rfl k λw' h=>f w' (z05 i a (B:=[_]) (qx1.shut (bs:=qp bs k) (by rw[<-g,qo7]) (by simp) ?_));have e:qp (qx (Ac (α:=Nat) (β:=qn)) bs) k=qx (Ac (α:=Nat) (β:=qn)) (qp bs k):=qo7 (Ac (α:=Nat) (β:=qn)) bs k;rw[e]at h;exact h
def qcz{p sp:Option Ai}{d sc:Nat}{xs a:List UInt8}{K:A5->A7->Prop}(i:Nat)(g:St W l w)(e:nth l i=A0 (q51 5 1 p xs.length d (xs.map qd)))(j:Rd (del l i) sp (a.map qd))(f:xs.length+a.length<=1000000)
 (k:∀c b w',St W (put l i [q51 5 1 c (xs.length+a.length) b ((xs++a).map qd)]) w'->K (.slice c (xs.length+a.length) b) w'):
 Run Zp (Builtin.append_ #[22,22] 22 #[Zl p xs.length d,Zl sp a.length sc]) w K:=
 q5i uB (.inr ⟨_,uB⟩) iU8 sU8 zU8 rfl (g.at i e) j (by rw[List.length_map,Ag]) q82 (by rw[bU8,Ag];omega) (by omega) λc b w' h=>k c b w' (by rw[Aj];exact z05 i e (B:=[_]) h)
def q2z{p:Option Ai}{c:Nat}{xs:List UInt8}{s:ByteArray}{K:A5->A7->Prop}(i:Nat)(f:St W l w)(d:nth l i=A0 (q51 5 1 p xs.length c (xs.map qd)))(e:xs.length+s.size<=1000000)
 (g:∀b a w',St W (put l i [q51 5 1 b (xs.length+s.size) a ((xs++qm s).map qd)]) w'->K (.slice b (xs.length+s.size) a) w'):
 Run Zp (Builtin.append_ #[22,9] 22 #[Zl p xs.length c,Zs s]) w K:=by
 have key:=q8o (ty:=22) (F:=K) uB uS iU8 sU8 zU8 rfl (l:=qm s) (f.at i d) (by rw[bU8,Ag];show xs.length+s.size<=_;omega) (by show((xs.length+s.size:Nat):Int)<=_;omega) λb a w' h=>g b a w' (by rw[Aj];exact z05 i d (B:=[_]) h);rw[show mkS (qm s)=s from qd5 s]at key;exact key
def qcv{J:List A5->A7->Prop}{R:A5->A7->Prop}(a:St W (wld [] c P x q rp rc v F) w)(f:∀L,qe v.lines d.conn=A0 L->L.came.length+d.b.size<=1000000)
 (C:qe v.lines d.conn=A1->∀w,St W (wld [] c P x q rp rc v F) w->R (Zt #[]) w)
 (H:∀L b j i g cap w,qe v.lines d.conn=A0 L->St W (wld [(d.conn,b)] c P x q rp rc (v.setL d.conn { L with came:=L.came++qm d.b}) (Row j 25 [qc x]::Row i 38 (q21 d)::Row g 75 [qc b]::Row cap 75 [qc b]::F)) w->
  J [qc j,qc i,qc g,.func (.func 165) #[] #[Zq (A0 ⟨cap,0,A1⟩)]] w):F62a (A0 ⟨x,0,A1⟩) d.conn d.b d.e d.c w J R:=by
 obtain⟨bs,⟨r,_⟩,a⟩:=wld.open_ a;refine z08 6 a λj w a=>z08 7 a λi w a=>⟨StC W _,zd a,_,zy 6 ir rfl rfl,z7 ⟨_,z0a 0 ir rfl rfl,_,zi 7 ir rfl rfl,(qe (qx (Ac (α:=Nat) (β:=qn)) bs) d.conn).elim A1 (λb=>A0 ⟨b,0,A1⟩),_,(λG w s=>qq1 kI q1j qwv q8x 3 s rfl d.conn Af (by rw[yB rfl,q5h];exact⟨_,_,rfl,rfl,s⟩)),λg=>?_⟩⟩
 refine zk (α:=Unit) (V:=λ_=>Zt #[]) (B:=λ_=>q6h (qg (Zi Zk) qc q.ml (qx (Ac (α:=Nat) (β:=qn)) bs)) c P x q rp rc v (Row j 25 [qc x]::Row i 38 (q21 d)::Row g 75 [.pointer ((qe (qx (Ac (α:=Nat) (β:=qn)) bs) d.conn).elim A1 (λb=>A0 ⟨b,0,A1⟩))]::qz (bs.map λy:Int×Nat×qn=>qp1 y.2.1 y.2.2)::F)) () (ir.push g _) (λG w h=>?_) λ_=>⟨rfl,trivial,λG w h=>?_⟩
 .have a:=h.imp z0c;exact z0n 0 a rfl (by simp) λw a=>⟨(),rfl,zf 0 8 a rfl⟩
 have a:=zb h;clear h;have t:qe v.lines d.conn=(qe bs d.conn).map (·.2):=by rw[<-r,q62]
 rw[q62]at a⊢;cases n:qe bs d.conn with
 |none=>refine zn rfl (C (by rw[t,n];rfl) _ ?_);rw[n]at a;have a:=((a.del 6 rfl).del 6 rfl).del 6 rfl;exact wld.shut r (by simp) a
 |some y=>
  obtain⟨b,L⟩:=y;have p:qe v.lines d.conn=A0 L:=by rw[t,n];rfl
  have f:=f L p;rw[n]at a;have a:St W (q6h (qg (Zi Zk) qc q.ml (qx (Ac (α:=Nat) (β:=qn)) bs)) c P x q rp rc v (qz (bs.map λy:Int×Nat×qn=>qp1 y.2.1 y.2.2)::Row j 25 [qc x]::Row i 38 (q21 d)::Row g 75 [qc b]::F)) w:=zf 9 6 a rfl;have a:=wld.shut (o:=[(d.conn,b)]) r (λy A=>by simp only[List.mem_singleton]at A;subst A;exact⟨L,n⟩) a
  obtain⟨u,z,m,l,a⟩:=wld.take A3 p a;refine zm rfl ⟨StC W _,zd a,_,zy 11 ir rfl rfl,_,zy 11 ir rfl rfl,z7 ⟨_,_,_,QtL.a 6 ir rfl rfl,_,zu 10 ir rfl rfl,?_⟩⟩;refine zk (α:=Option Ai×Nat) (V:=λy=>.slice y.1 (L.came.length+d.b.size) y.2) (B:=λy=>qj9 [(d.conn,b)] d.conn b c P x q rp rc v (Row b 140 (lnC L u z m l)::q51 5 1 y.1 (L.came.length+d.b.size) y.2 ((L.came++qm d.b).map qd)::q51 5 1 m L.back.length l (L.back.map qd)::Row j 25 [qc x]::Row i 38 (q21 d)::Row g 75 [qc b]::F)) (A1,0) ir (λG w h=>q2z 7 h rfl f λE D w' h=>⟨_,_,_,rfl,(E,D),rfl,h⟩) λy=>⟨_,_,_,rfl,zy 11 ir rfl rfl,z7 (z0q 6 ir rfl (by simp[lnC]) ⟨rfl,trivial,λG w h=>?_⟩)⟩;have a:=zb h;clear h;have k:(L.came++qm d.b).length=L.came.length+d.b.size:=Ah;rw[<-k]at a;have a:St W (qj9 [(d.conn,b)] d.conn b c P x q rp rc v (Row b 140 (lnC { L with came:=L.came++qm d.b} y.1 y.2 m l)::q51 5 1 y.1 (L.came++qm d.b).length y.2 ((L.came++qm d.b).map qd)::q51 5 1 m L.back.length l (L.back.map qd)::Row j 25 [qc x]::Row i 38 (q21 d)::Row g 75 [qc b]::F)) w:=by
   rw[k]at a⊢;have e:lnC { L with came:=L.came++qm d.b} y.1 y.2 m l=(lnC L u z m l).set (0+2) (.slice y.1 (L.came.length+d.b.size) y.2):=by unfold lnC;rw[<-k];rfl
   rw[e];exact a
  have a:=wld.give (L:={ L with came:=L.came++qm d.b}) a;refine LdP.n 8 a rfl rfl (F104_of (z08 9 a λcap w a=>?_));exact H L b j i g cap w p a
end
end
section
def qa9(L:qn):qn:=if L.raw=Af then { L with back:=L.back++L.came,came:=[]}else L
section
variable{W w:World}{F l:List Asn}{c:qy}{P:qe1}{x b b2 b3 b4:Nat}{q:qb5}{rp:Option Addr}{rc n m:Nat}{v v':Wd}{L:qn}{k:Int}{d:q81}
set_option maxHeartbeats 2000000 in
def qpt{J:List A5->A7->Prop}{R:A5->A7->Prop}(z:qe v.lines d.conn=A0 L)(r:L.back.length+L.came.length<=1000000)
 (p:(if d.c=Af then { v with lines:=qp v.lines d.conn,g:=(qn6 v.g (qa9 L).no).1}else v.setL d.conn { qa9 L with en:=(qa9 L).en||d.e})=v')
 (a:St W (wld [(d.conn,b)] c P x q rp rc v (Row b2 25 [qc x]::Row b3 38 (q21 d)::Row b4 75 [qc b]::F)) w)
 (t:∀rp rc w,St W (wld [] c P x q rp rc v' (Row b2 25 [qc x]::Row b3 38 (q21 d)::Row b4 75 [qc b]::F)) w->J [] w):F62c b2 b3 b4 w J R:=by
 obtain⟨j,i,l,k,a⟩:=wld.take A3 z a;refine LdP.n 11 a rfl rfl (z7 (zx 6 a rfl rfl ⟨λ_ w=>∃j i l k,St W (qj9 [(d.conn,b)] d.conn b c P x q rp rc v (Row b 140 (lnC (qa9 L) j i l k)::q51 5 1 j (qa9 L).came.length i ((qa9 L).came.map qd)::q51 5 1 l (qa9 L).back.length k ((qa9 L).back.map qd)::Row b2 25 [qc x]::Row b3 38 (q21 d)::Row b4 75 [qc b]::F)) w,?_,λw s=>?_⟩))
 .refine za (λo=>?_) λh=>?_
  .refine⟨StC W _,zd a,_,zy 11 ir rfl rfl,_,zy 11 ir rfl rfl,_,zy 11 ir rfl rfl,z7 ⟨_,_,_,QtL.a 6 ir rfl rfl,_,zy 11 ir rfl rfl,z7 ⟨_,_,_,QtL.a 6 ir rfl rfl,?_⟩⟩⟩;refine zk (α:=Option Ai×Nat) (V:=λy=>.slice y.1 (L.back.length+L.came.length) y.2) (B:=λy=>qj9 [(d.conn,b)] d.conn b c P x q rp rc v (Row b 140 (lnC L j i l k)::q51 5 1 j L.came.length i (L.came.map qd)::q51 5 1 y.1 (L.back.length+L.came.length) y.2 ((L.back++L.came).map qd)::Row b2 25 [qc x]::Row b3 38 (q21 d)::Row b4 75 [qc b]::F)) (A1,0) ir (λG w h=>qcz 8 h rfl (z06 7 rfl λF=>q51.rd F) r λC A w' h=>⟨_,_,_,rfl,(C,A),rfl,h⟩) λy=>⟨_,_,_,rfl,⟨zy 11 ir rfl rfl,zy 11 ir rfl rfl⟩,z7 (z0q 6 ir rfl (by simp[lnC]) ⟨rfl,zy 11 ir rfl rfl,z7 (z0q 6 ir rfl (by simp[lnC]) ⟨rfl,trivial,λG w h=>?_⟩)⟩)⟩;have a:=q51.nil 5 1 A1 ((zb h).del 7 rfl);have n:(L.back++L.came).length=L.back.length+L.came.length:=Ah;have e:qa9 L={ L with back:=L.back++L.came,came:=[]}:=yB o;refine⟨A1,0,y.1,y.2,?_⟩;rw[e];have u:lnC { L with back:=L.back++L.came,came:=[]} A1 0 y.1 y.2=[Zi Zk L.no,Zi Zk L.conn,Zl A1 0 0,.slice y.1 (L.back.length+L.came.length) y.2,Zb L.en,Zb L.raw]:=by unfold lnC;rw[<-n];rfl
   rw[u,n];exact zf 0 7 a rfl
  .have e:qa9 L=L:=yA (by rw[h];simp);rw[e];exact⟨j,i,l,k,a⟩
 clear a;obtain⟨j,i,l,k,a⟩:=s;generalize qa9 L=f at a p;refine⟨λ_ w=>St W (qj9 [(d.conn,b)] d.conn b c P x q rp rc v (Row b 140 (lnC { f with en:=f.en||d.e} j i l k)::q51 5 1 j f.came.length i (f.came.map qd)::q51 5 1 l f.back.length k (f.back.map qd)::Row b2 25 [qc x]::Row b3 38 (q21 d)::Row b4 75 [qc b]::F)) w,?_,λw a=>?_⟩
 .refine⟨StC W _,zd a,_,zy 11 ir rfl rfl,_,zy 11 ir rfl rfl,z7 ⟨_,z0t 6 ir rfl rfl,za (λh=>z7 (z0q 6 ir rfl (by simp[lnC]) ⟨rfl,trivial,λG w m=>?_⟩)) λh=>⟨_,z0t 10 ir rfl rfl,z7 (z0q 6 ir rfl (by simp[lnC]) ⟨rfl,trivial,λG w m=>?_⟩)⟩⟩⟩
  .rw[show(f.en||d.e)=Af by rw[h];rfl];exact zb m
  .rw[show(f.en||d.e)=d.e by rw[h];rfl];exact zb m
 refine zx 10 a rfl rfl (za (λh=>?_) λh=>?_)
 .rw[yB h]at p;refine⟨StC W _,zd a,_,zy 9 ir rfl rfl,z7 ⟨_,z0a 0 ir rfl rfl,_,zi 10 ir rfl rfl,?_⟩⟩;refine zk (α:=Unit) (V:=λ_=>Zt #[]) (B:=λ_=>q6h (qx1 [] q.ml (qp v.lines d.conn)) c P x q rp rc v (Row b 140 (lnC { f with en:=f.en||d.e} j i l k)::q51 5 1 j f.came.length i (f.came.map qd)::q51 5 1 l f.back.length k (f.back.map qd)::Row b2 25 [qc x]::Row b3 38 (q21 d)::Row b4 75 [qc b]::F)) () ir (λG w h=>ql5.del_i 3 h rfl λw' h=>⟨(),rfl,h⟩) λ_=>⟨rfl,trivial,λG w m=>?_⟩;have a:=zb m;clear m;refine⟨StC W _,zd a,_,zy 9 ir rfl rfl,z7 ⟨_,zo 0 ir rfl rfl,_,zy 11 ir rfl rfl,z7 ⟨_,zi 6 ir rfl rfl,?_⟩⟩⟩;refine z04 2 ir rfl (λG w h=>q0q f.no h) (λ_ _ h=>⟨_,rfl,h⟩) ⟨_,rfl,trivial,λG w m=>t rp rc w ?_⟩;have a:=(((zb m).del 6 rfl).del 6 rfl).del 6 rfl;rw[<-p];exact a
 .rw[yA (by rw[h];simp)]at p;have a:=wld.give (L:={ f with en:=f.en||d.e}) a;rw[p]at a;exact t rp rc w (wld.forget a)
end
end
section
set_option maxRecDepth 100000
section
variable{W w:World}{F l:List Asn}{c:qy}{P:qe1}{x b b2 b3 b4:Nat}{q:qb5}{rp:Option Addr}{rc n m:Nat}{v v':Wd}{L:qn}{k:Int}{d:q81}
def qen{R:A5->A7->Prop}{a:Act}{w:A7}{e:Env}{b:List Deferred}(h:R (Zt #[]) w)(c:q71 b 96 e a):∃v,(results Tryz.f62 a.tmps).run Zp w=.ok v w/\R v w:=
 q77 (P:=Zp) (fn:=Tryz.f62) (R:=R) (by
  have:Tryz.f62.results.toList=[]:=by kernel_rfl
  rw[this];exact h) c
set_option maxHeartbeats 2000000 in
def qsp(Y:ql1 F c)(f:v.hear c n P d=A0 v')(k:St W (wld [] c P x q rp rc v F) w):qb Zp 62 #[qc x,Zg #[Zi Zk d.conn,Zs d.b,Zb d.e,Zb d.c]] w λr w'=>r=Zt #[]/\∃rp rc,St W (wld [] c P x q rp rc v' F) w':=by
 refine(callsIn_wide (n:=0)).1 (callsIn_of_wp_marks Tryz.func62 qxx trivial ?_);have C:qs1 96 [(1,Zg #[Zi Zk d.conn,Zs d.b,Zb d.e,Zb d.c]),(0,qc x)] { tmps:=#[qc x,Zg #[Zi Zk d.conn,Zs d.b,Zb d.e,Zb d.c]]++Ak (Tryz.f62.ntmps -(#[qc x,Zg #[Zi Zk d.conn,Zs d.b,Zb d.e,Zb d.c]]).size) undef,defers:=[]}:=by
  rw[hr_n];refine⟨rfl,by simp,λt v G=>?_⟩;have:=q47 G;simp only[Aa,A4,yK,Prod.mk.injEq]at this;rcases this with ⟨rfl,rfl⟩|⟨rfl,rfl⟩
  .rw[A6,A9 (by simp)];rfl
  .rw[A6,A9 (by simp)];rfl
 generalize ({ tmps:=#[qc x,Zg #[Zi Zk d.conn,Zs d.b,Zb d.e,Zb d.c]]++Ak (Tryz.f62.ntmps -(#[qc x,Zg #[Zi Zk d.conn,Zs d.b,Zb d.e,Zb d.c]]).size) undef,defers:=[]}:Act)=a at C;have E:∀(m:Act) (e':Env) (w':A7) (rp:Option Ai) (rc:Nat),St W (wld [] c P x q rp rc v' F) w'->q71 [] 96 e' m->LeavesInM Ad 0 Zp Tryz.f62 m.tmps (λe w=>∃v,e=.returned v/\v=Zt #[]/\∃rp rc,St W (wld [] c P x q rp rc v' F) w) m.defers .returning w':=λm e' w' rp rc k A=>by rw[A.defers];obtain⟨u,J,K⟩:=qen (R:=λv w=>v=Zt #[]/\∃rp rc,St W (wld [] c P x q rp rc v' F) w) ⟨rfl,rp,rc,k⟩ A;exact⟨u,J,u,rfl,K⟩
 unfold Wd.hear at f;have o:∀L,qe v.lines d.conn=A0 L->L.came.length+d.b.size<=1000000:=λL B=>by
  rw[B]at f;dsimp only at f;by_cases h:1000000<L.came.length+d.b.size;.rw[yB h]at f;cases f
  .omega
 refine wpIn_wide.2 (qo9 hrC (qel 6 (qk8 (λy m w' s=>?_) (qtd 3000 _ _ _ _ _ _ (by kernel_rfl) ((F62a_eq (A0 ⟨x,0,A1⟩) d.conn d.b d.e d.c w (λvs w=>∃L b b2 b3 b4 cap,vs=[qc b2,qc b3,qc b4,.func (.func 165) #[] #[Zq (A0 ⟨cap,0,A1⟩)]]/\qe v.lines d.conn=A0 L/\St W (wld [(d.conn,b)] c P x q rp rc (v.setL d.conn { L with came:=L.came++qm d.b}) (Row b2 25 [qc x]::Row b3 38 (q21 d)::Row b4 75 [qc b]::Row cap 75 [qc b]::F)) w) (λr w=>r=Zt #[]/\∃rp rc,St W (wld [] c P x q rp rc v' F) w)).mpr (qcv k o (λX w k=>?_) (λL b b2 b3 b4 cap w B k=>⟨L,b,b2,b3,b4,cap,rfl,B,k⟩))) C))));case refine_2=>
  rw[X]at f;cases f;exact⟨rfl,rp,rc,k⟩
 clear k;cases y with
 |panic _=>exact s.elim
 |outgrown=>exact s.elim
 |exit i=>obtain⟨e',j,_⟩:=s;exact j.elim
 |goto i=>obtain⟨e',j,_⟩:=s;exact j.elim
 |ret=>obtain⟨e',j,p,_⟩:=s;obtain⟨_,rp,rc,k⟩:Zt #[]=Zt #[]/\∃rp rc,St W (wld [] c P x q rp rc v' F) w':=j;exact E m e' w' rp rc k p
 |normal=>
 obtain⟨e',j,A,_⟩:=s;obtain⟨vs,_,⟨L,b,b2,b3,b4,cap,rfl,B,k⟩,_,z⟩:=qk7 j;clear j C;have C:qs1 96 [(30,.func (.func 165) #[] #[Zq (A0 ⟨cap,0,A1⟩)]),(4,qc b4),(3,qc b3),(2,qc b2)] m:=qs1.pick A λy I=>by
  simp only[Aa,A4,yK]at I;rcases I with rfl|rfl|rfl|rfl;.obtain⟨u,j,p⟩:=z 3 30 _ rfl;cases j;exact p
  .obtain⟨u,j,p⟩:=z 2 4 _ rfl;cases j;exact p
  .obtain⟨u,j,p⟩:=z 1 3 _ rfl;cases j;exact p
  .obtain⟨u,j,p⟩:=z 0 2 _ rfl;cases j;exact p
 clear A z;rw[B]at f;dsimp only at f;rw[yA (by have:=o L B;omega)]at f;clear o;generalize v.setL d.conn { L with came:=L.came++qm d.b}=v1 at f k;clear B;cases hm:v1.msgs c n P n d.conn with
 |none=>rw[hm]at f;cases f
 |some v2=>
 rw[hm]at f;dsimp only at f;cases hL2:qe v2.lines d.conn with
 |none=>rw[hL2]at f;cases f
 |some L2=>
 rw[hL2]at f;dsimp only at f;by_cases o:1000000<L2.back.length+L2.came.length;.rw[yB o]at f;cases f
 rw[yA o]at f;have Z:(if d.c=Af then { v2 with lines:=qp v2.lines d.conn,g:=(qn6 v2.g (qa9 L2).no).1}else v2.setL d.conn { qa9 L2 with en:=(qa9 L2).en||d.e})=v':=by
  by_cases h:d.c=Af
  .rw[yB h]at f⊢;exact Ae f
  .rw[yA h]at f⊢;exact Ae f
 clear f;show wpL Zp (Am 6 (q63 hrC)) _ m w';rw[q8y];have hW:qx4 Ad:=.inl rfl;refine qml ((wpIn_wide (n:=0)).1 (wpIn_block (wpIn_rangeFunc λfn _=>?_)));have f:m.eval (.tmp 30)=.func (.func 165) #[] #[Zq (A0 ⟨cap,0,A1⟩)]:=C.val 30 _ rfl;have j:=(k.alloc (.deferred (A0 []))).alloc (.loop (q0c fn m.tmps w'.heap.size .ready));rw[World.size_alloc]at j;refine⟨w'.heap.size+1,[{ target:=.collected w'.heap.size,args:=#[]}],(w'.alloc (.deferred (A0 []))).alloc (.loop (q0c fn m.tmps w'.heap.size .ready)),{ target:=.fn (.func 165) #[Zq (A0 ⟨cap,0,A1⟩)],args:=#[.func (.yield (w'.heap.size+1)) #[] #[]]},(w'.alloc (.deferred (A0 []))).alloc (.loop (q0c fn m.tmps w'.heap.size .ready)),165,
  #[.func (.yield (w'.heap.size+1)) #[] #[],Zq (A0 ⟨cap,0,A1⟩)],(w'.alloc (.deferred (A0 []))).alloc (.loop (q0c fn m.tmps w'.heap.size .ready)),run_enterLoop_outer _ _ _ _ _,?_,λ_ _=>trivial,?_,(λh=>by cases h),?_⟩
 .simp only[resolve,f];simp[go_sem]
 .simp only[invoke];exact q04 (by kernel_rfl) _ _
 generalize w'.heap.size=D at j;generalize D+1=l at j;generalize (w'.alloc (.deferred (A0 []))).alloc (.loop (q0c fn m.tmps D .ready))=w1 at j;clear k f;have k:St W (wld [(d.conn,b)] c P x q rp rc v1 (qo4 fn m.tmps l D b2 b3 b4 x b d .ready (Row cap 75 [qc b]::F))) w1:=zl 8 [2,3,4,5,6,7,0,1] j rfl;have G:qs1 96 [(4,qc b4),(3,qc b3),(2,qc b2)] { tmps:=m.tmps,defers:=[]}:=by
  have:=C.pick (e':=[(4,qc b4),(3,qc b3),(2,qc b2)]) λy I=>by simp only[Aa,A4,yK]at I;rcases I with rfl|rfl|rfl<;>rfl
  exact⟨rfl,this.size,this.val⟩
 refine qx4.calls hW (Calls.mono (q6t Y hm G k) λe w2 ⟨u,U,J,rp,rc,k⟩=>?_);subst U;obtain⟨M,k⟩:=(zf 6 0 k rfl).turn (o':=.loop (q0c fn m.tmps D .exhausted));refine⟨A1,_,run_endLoop M (by simp[q0c]),?_⟩;have O:m.defers=[]:=C.defers;have N:q71 [{ target:=.collected D,args:=#[]}] 96 [(4,qc b4),(3,qc b3),(2,qc b2)] { m with defers:=[{ target:=.collected D,args:=#[]}]++m.defers}:=⟨by rw[O];rfl,G.size,G.val⟩;have k:St W (wld [(d.conn,b)] c P x q rp rc v2 (Row b2 25 [qc x]::Row b3 38 (q21 d)::Row b4 75 [qc b]::Pt D (.deferred (A0 []))::F)) _:=(zl 12 [1,2,3,4,5,6,8,9,10,7,11,0] k rfl |> λh=>(h.del 11 rfl).del 10 rfl);have T:=((F62c_eq b2 b3 b4 _ (λ_ w=>∃rp rc,St W (wld [] c P x q rp rc v' (Row b2 25 [qc x]::Row b3 38 (q21 d)::Row b4 75 [qc b]::Pt D (.deferred (A0 []))::F)) w) (λ_ w=>∃rp rc,St W (wld [] c P x q rp rc v' (Row b2 25 [qc x]::Row b3 38 (q21 d)::Row b4 75 [qc b]::Pt D (.deferred (A0 []))::F)) w)).mpr (qpt hL2 (by omega) Z k λrp rc w h=>⟨rp,rc,h⟩));have key:=qtd (P:=Zp) (n:=96) 3000 _ _ _ _ _ _ (by kernel_rfl) T N;generalize Am 7 (q63 hrC)=post at key⊢;refine qk8 (λy a3 Q s=>?_) key;have H:∀e',(∃rp rc,St W (wld [] c P x q rp rc v' (Row b2 25 [qc x]::Row b3 38 (q21 d)::Row b4 75 [qc b]::Pt D (.deferred (A0 []))::F)) Q)->q71 [{ target:=.collected D,args:=#[]}] 96 e' a3->LeavesInM Ad 0 Zp Tryz.f62 a3.tmps (λe w=>∃v,e=.returned v/\v=Zt #[]/\∃rp rc,St W (wld [] c P x q rp rc v' F) w) a3.defers .returning Q:=λe' ⟨rp,rc,k⟩ ha3=>by rw[ha3.defers];obtain⟨V,k⟩:=(zf 9 0 k rfl).turn (o':=.deferred A1);refine⟨by simp,.inl ⟨D,_,rfl,run_takeDeferred V,?_⟩⟩;have k:=(((z0f [_] k).del 6 rfl).del 6 rfl).del 6 rfl;obtain⟨u,J,K⟩:=qen (R:=λv w=>v=Zt #[]/\∃rp rc,St W (wld [] c P x q rp rc v' F) w) ⟨rfl,rp,rc,k⟩ ha3;exact⟨u,J,u,rfl,K⟩
 cases y with
 |panic _=>exact s.elim
 |outgrown=>exact s.elim
 |exit i=>obtain⟨e',j,_⟩:=s;exact j.elim
 |goto i=>obtain⟨e',j,_⟩:=s;exact j.elim
 |ret=>obtain⟨e',j,p,_⟩:=s;exact H e' j p
 |normal=>obtain⟨e',j,p,_⟩:=s;exact H e' j p
end
end
section
section
variable{W w:World}{F l:List Asn}{c:qy}{P:qe1}{x b:Nat}{q:qb5}{rp:Option Addr}{rc n:Nat}{v v':Wd}{L:qn}{d:q81}
set_option maxHeartbeats 1000000 in
def q5m{f:Nat}(I:ql1 F c)(i:v.run c n P f=A0 v')(b:St W (wld [] c P x q rp rc v F) w):qb Zp 32 #[qc x] w λr w'=>r=Zt #[]/\∃rp rc,St W (wld [] c P x q rp rc v' F) w':=by
 refine F32_of (qt3 (λf vs w=>∃(l:Bool) (v:Wd) (rp:Option Ai) (rc:Nat),vs=[Zb l]/\(if l=Af then v.run c n P f=A0 v' else v=v')/\St W (wld [] c P x q rp rc v F) w) λμ A y=>⟨⟨f,Af,v,rp,rc,rfl,by rw[yB rfl];exact i,b⟩,λl w z=>?_⟩);clear b i;obtain⟨l,v,rp,rc,J,i,b⟩:=y _ _ z;cases J;have s:∀(m:Bool) (v:Wd) (rp:Option Ai) (rc f:Nat) (w':A7),f < μ [Zb l] w->(if m=Af then v.run c n P f=A0 v' else v=v')->St W (wld [] c P x q rp rc v F) w'->
  (∃f,∃(l:Bool) (v:Wd) (rp:Option Ai) (rc:Nat),[Zb m]=[Zb l]/\(if l=Af then v.run c n P f=A0 v' else v=v')/\St W (wld [] c P x q rp rc v F) w')/\μ [Zb m] w' < μ [Zb l] w:=λm v rp rc f w' t i b=>by
  have o:∃(l:Bool) (v:Wd) (rp:Option Ai) (rc:Nat),[Zb m]=[Zb l]/\(if l=Af then v.run c n P f=A0 v' else v=v')/\St W (wld [] c P x q rp rc v F) w':=⟨m,v,rp,rc,rfl,i,b⟩;exact⟨⟨_,o⟩,A8 (A _ _ _ o) t⟩
 clear A y z;refine za (λh=>?_) λh=>?_;case refine_2=>
  rw[yA (by rw[h];simp)]at i;subst i;exact⟨rfl,rp,rc,b⟩
 rw[yB h]at i;generalize μ [Zb l] w=f at i s;clear h;cases f with
 |zero=>cases i
 |succ f=>
 unfold Wd.run at i;cases j:v.drain c n P n with
 |none=>rw[j]at i;cases i
 |some v1=>
 rw[j]at i;dsimp only at i;refine qt3 (λf vs w=>vs=[]/\∃(v:Wd) (rp:Option Ai) (rc:Nat),v.drain c n P f=A0 v1/\St W (wld [] c P x q rp rc v F) w) λμ A y=>⟨⟨n,rfl,v,rp,rc,j,b⟩,λw z=>?_⟩;clear b j;obtain⟨_,v,rp,rc,j,b⟩:=y _ _ z;have p:∀(v:Wd) (rp:Option Ai) (rc f:Nat) (w':A7),f < μ [] w->v.drain c n P f=A0 v1->St W (wld [] c P x q rp rc v F) w'->
  (∃f,([]:List A5)=[]/\∃(v:Wd) (rp:Option Ai) (rc:Nat),v.drain c n P f=A0 v1/\St W (wld [] c P x q rp rc v F) w')/\μ [] w' < μ [] w:=λv rp rc f w' t i b=>by
  have o:([]:List A5)=[]/\∃(v:Wd) (rp:Option Ai) (rc:Nat),v.drain c n P f=A0 v1/\St W (wld [] c P x q rp rc v F) w':=⟨rfl,v,rp,rc,i,b⟩;exact⟨⟨_,o⟩,A8 (A _ _ _ o) t⟩
 generalize μ [] w=g at j p;clear A y z;cases g with
 |zero=>cases j
 |succ g=>
 unfold Wd.drain at j;obtain⟨vb,C,vl,row,vS,G⟩:=v;dsimp only at j b;refine z7 (zr 0 b rfl rfl (za (λh=>?_) λh=>?_))
 .cases row with
  |nil=>simp at h
  |cons d r=>
  dsimp only at j;cases hh:Wd.hear c n P ⟨vb,C,vl,r,vS,G⟩ d with
  |none=>rw[hh]at j;cases j
  |some v2=>
  rw[hh]at j;dsimp only at j;refine z7 (zr 0 b rfl rfl (z0e (x:=d) (k:=0) q89 (by decide) (z06 4 rfl λF=>q51.rd F) b rfl (by simp) rfl λad B=>zt (B 0 _ rfl) (z0p (B 1 _ rfl) (LdB.at (B 2 _ rfl) (LdB.at (B 3 _ rfl) (z08 6 b λD w b=>?_))))));refine St1.zz 6 b rfl λw b=>St1.zz 6 b rfl λw b=>St1.zz 6 b rfl λw b=>St1.zz 6 b rfl λw b=>z7 (zr 0 b rfl rfl (SlP.own (a:=1) 4 b rfl rfl rfl (by simp) λK b=>z7 (St1.zz 0 b rfl λw b=>?_)));have e:((d::r).flatMap q21).drop (1*4)=r.flatMap q21:=by rw[List.flatMap_cons];exact List.drop_left' (q89 d)
  rw[e]at b;have b:St W (wld [] c P x q K (rc - 1) ⟨vb,C,vl,r,vS,G⟩ (Row D 38 (q21 d)::F)) w:=b;refine z8 6 b rfl rfl (zg 6 b rfl rfl (zx 6 b rfl rfl (zx 6 b rfl rfl ((qsp (I.cons _) hh b).of λu w ⟨E,rp,rc,b⟩=>⟨E,?_⟩))));exact p v2 rp rc g w (A2 _) j (b.del 6 rfl)
 .cases row with
  |cons d r=>simp at h
  |nil=>
  dsimp only at j;cases j;clear p;cases hb:Wd.back c n ⟨vb,C,vl,[],vS,G⟩with
  |none=>rw[hb]at i;cases i
  |some r2=>
  obtain⟨v2,L⟩:=r2;rw[hb]at i;dsimp only at i;refine(q9t I hb b).of λu w ⟨E,rp,rc,b⟩=>⟨_,E,za (λh=>?_) λh=>z7 (zr 0 b rfl rfl ?_)⟩
  .rw[h]at i;exact s Af v2 rp rc f w (A2 _) (by rw[yB rfl];exact i) b
  .rw[h,Bool.false_or]at i;refine s _ v2 rp rc f w (A2 _) ?_ b;have e:decide ((v2.row.length:Int)>0)=decide (v2.row.length>0):=by rw[Bool.eq_iff_iff,yJ,yJ];omega
   rw[e];by_cases H:decide (v2.row.length>0)=Af;.rw[yB H]at i⊢;exact i
   .rw[yA H]at i⊢;exact Ae i
def q3d(a:v.b.P.ends.length<=1000000)(h:St W (wld [] c P x q rp rc v F) w):qb Zp 11 #[qc x] w λr w'=>r=Zi Zk ((qw4 v.b.P).length:Nat)/\St W (wld [] c P x q rp rc v F) w':=
 F11_of (z7 (z0k 0 h rfl rfl ((qdo a (zf 1 0 h rfl)).of λr w ⟨p,d,b,h⟩=>⟨_,_,_,b,rfl,zf 0 1 h.drop rfl⟩)))
end
end
end Go.Proofs.YtfjifcfbmhpcaaaGreatDoor
