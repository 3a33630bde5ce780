/-
  A part of the proof of TopEvicted.
-/
import Derived.Test.YtfjifcfbmhpcaaaGreatDoorV29
import Derived.Test.YtfjifcfbmhpcaaaGreatDoorV00
set_option linter.defProp false
set_option linter.unusedVariables false
set_option linter.unusedSimpArgs false
namespace Go.Proofs.YtfjifcfbmhpcaaaGreatDoor
open Go
open Go.Proofs.Tryz renaming prog → Zp
open Go.IntKind renaming i64 → Zk, wrap → Zw
open Go.Addr renaming add → Za
open Go.Value renaming int → Zi, string → Zs, tuple → Zt, slice → Zl, agg → Zg
open _root_.Option renaming none->A0,isSome_map->A2,some->A6
open _root_.List renaming length_map->A1,getElem?_map->A3,length_cons->A4,length_nil->A5
section
section
variable{W w:World}{F l:List Asn}{c:qy}{P:qe1}{x b:Nat}{q:qb5}{rp:Option Addr}{rc n:Nat}{v v':Wd}{L:qn}{d:q81}{e:EvD}{out:qra}
def qvi(P:qe1)(g:AG)(b:Nat):(qo3 P g b).2.length<=2:=by
 unfold qo3;split;.simp
 .simp[qp4]
def qhu(P:qe1)(g:AG)(now:Int)(b:Nat):(qd3 P g now b).2.length<=2:=by
 unfold qd3;split;.exact qvi P g b
 .split;.simp
  .simp
def qft(m:ql1 F c)(s:qj6 c=true)(t:qv8 P)(k:Wd.new c n P (Bk.new c)=A6 v')(b:St W F w):
 qb Zp 23 #[Zg (qx3 c).toArray,Zg #[Zs P.ten,Zs P.tok,Zs P.sec,Zs P.nam,Zi Zk P.ttl,Zi Zk P.every]] w λr w'=>∃x q rp rc,r=qc x/\St W (wld [] c P x q rp rc v' F) w':=by
 unfold Wd.new at k;cases hd:Wd.does c n ⟨Bk.new c,(qo3 P ⟨false,0,0,1,[]⟩ 0).1,[],[],[],e0⟩ (qo3 P ⟨false,0,0,1,[]⟩ 0).2 with
 |none=>rw[hd]at k;cases k
 |some v1=>
 rw[hd]at k;dsimp only at k;refine F23_of (zh b λf w b=>zh b λj w b=>?_);refine z8 1 b rfl rfl (z8 1 b rfl rfl (z8 1 b rfl rfl (z8 1 b rfl rfl (zr 1 b rfl rfl ((qwt ((m.cons _).cons _) b).of λr w h=>?_)))));rcases h with ⟨h,_⟩|⟨_,bx,p,rfl,b⟩
 .rw[s]at h;cases h
 have b:=qb2.shut b;refine⟨_,rfl,zm rfl (zg 1 b rfl rfl (zg 1 b rfl rfl (zg 1 b rfl rfl (zg 1 b rfl rfl (z8 1 b rfl rfl (z8 1 b rfl rfl ((qrq P t b).of λr w ⟨a,i,b⟩=>⟨_,i,?_⟩)))))))⟩;refine qs5.f (ν:=Nat) (Zi Zk) qc b λml w b=>qs5.f (ν:=q81) (Zi Zk) qr1 b λms w b=>zh b λx w b=>?_;have b:St W (Row x 81 (qb8 ⟨bx,a,ml,ms,p⟩ A0 0 0 e0)::qg (Zi Zk) qr1 ms ([]:List (Int×q81))::qg (Zi Zk) qc ml ([]:List (Int×Nat))::AgW a P ⟨false,0,0,1,[]⟩::qb2 c bx p (Bk.new c)::Row j 69 [Zs P.ten,Zs P.tok,Zs P.sec,Zs P.nam,Zi Zk P.ttl,Zi Zk P.every]::Row f 44 (qx3 c)::F) w:=b;refine z0k 0 b rfl rfl ((qeo (zf 3 0 b rfl)).of λr w ⟨ap,ac,i,b⟩=>⟨_,_,_,i,?_⟩);have e:=qvi P ⟨false,0,0,1,[]⟩ 0;generalize qo3 P ⟨false,0,0,1,[]⟩ 0=sp at hd b e⊢;obtain⟨g,d⟩:=sp;dsimp only at hd b e⊢;have b:=q51.nil 38 4 A0 b;have b:St W (qg (Zi Zk) qc ml (qx (Prod.fst (α:=Nat) (β:=qn)) ([]:List (Int×Nat×qn)))::qz (([]:List (Int×Nat×qn)).map λy=>qp1 y.2.1 y.2.2)::Row x 81 (qb8 ⟨bx,a,ml,ms,p⟩ A0 0 0 e0)::qb2 c bx p (Bk.new c)::AgW a P g::q51 38 4 A0 0 0 []::qg (Zi Zk) qr1 ms ([]:List (Int×q81))::qm2 ap ac d::Row j 69 [Zs P.ten,Zs P.tok,Zs P.sec,Zs P.nam,Zi Zk P.ttl,Zi Zk P.every]::Row f 44 (qx3 c)::F) w:=
  zf 0 1 (zj (l:=[]) (zl 9 [5,3,6,2,0,4,1,7,8] b rfl)) rfl
 have b:=qx1.shut (o:=[]) (Ls:=[]) rfl (by simp) b;have b:St W (wld [] c P x ⟨bx,a,ml,ms,p⟩ A0 0 ⟨Bk.new c,g,[],[],[],e0⟩ (qm2 ap ac d::Row j 69 [Zs P.ten,Zs P.tok,Zs P.sec,Zs P.nam,Zi Zk P.ttl,Zi Zk P.every]::Row f 44 (qx3 c)::F)) w:=zf 0 3 b rfl;refine(qbj (ap:=ap) (ac:=ac) (((m.cons _).cons _).cons _) (z0g _) (by omega) hd b).of λr w ⟨i,rp,rc,b⟩=>⟨i,?_⟩;refine(q5m (((m.cons _).cons _).cons _) k b).of λr w ⟨i,rp,rc,b⟩=>⟨i,x,⟨bx,a,ml,ms,p⟩,rp,rc,rfl,?_⟩;exact((b.del 6 rfl).del 6 rfl).del 6 rfl
def q5v(v:Wd):v.outs.length=v.S.length:=by unfold Wd.outs;rw[A1,(qv1 leI _).length_eq,A1]
set_option maxHeartbeats 2000000 in
def qy8(hO:ql1 F c)(hn: -9223372036854775808<=e.n/\e.n<=9223372036854775807)(A:v.step c n P e=A6 (v',out))(a:St W (wld [] c P x q rp rc v F) w):qb Zp 9 #[qc x,Zg (evV e).toArray] w λr w'=>
 ∃q' K L X Y,r=Zg #[Zi Zk out.err,Zi Zk out.conn,Zi Zk out.took,Zl K out.sent.length L]/\St W (SlA 38 4 q21 K L out.sent::wld [] c P x q' X Y v' F) w':=by
 suffices hh:∀R:Value->World->Prop,(∀r w',(∃q' K L X Y,r=Zg #[Zi Zk out.err,Zi Zk out.conn,Zi Zk out.took,Zl K out.sent.length L]/\St W (SlA 38 4 q21 K L out.sent::wld [] c P x q' X Y v' F) w')->R r w')->qb Zp 9 #[qc x,Zg (evV e).toArray] w R from hh _ λ_ _ h=>h
 intro R hR;unfold Wd.step at A;obtain⟨bs,⟨hp,ho⟩,a⟩:=wld.open_ a;have I:(qe (qx (Prod.fst (α:=Nat) (β:=qn)) bs) e.conn).isSome=(qe v.lines e.conn).isSome:=by rw[<-hp,q62,q62,A2,A2]
 refine F9_of (z08 7 a λt w a=>z08 8 a λl w a=>⟨StC W _,zd a,z7 ⟨_,z0a 0 ir rfl rfl,_,zi 7 ir rfl rfl,(qe (qx (Prod.fst (α:=Nat) (β:=qn)) bs) e.conn).elim A0 (λb=>A6 ⟨b,0,A0⟩),_,(λG w hw=>qq1 kI q1j qwv q8x 3 hw rfl e.conn true (by rw[yB rfl,q5h];exact⟨_,_,rfl,rfl,hw⟩)),λG w h=>?_⟩⟩)
 have a:St W (wld [] c P x q rp rc v (evR t e::qb1 l 0 0 0::F)) w:=wld.shut hp ho (zb h);rw[I];clear h I hp ho;by_cases s:e.kind<1\/6<e.kind\/((qe v.lines e.conn).isSome=true/\e.kind>=2/\e.kind<=5)
 .rw[yB s]at A;cases A;have Z:∀w,St W (wld [] c P x q rp rc v (evR t e::qb1 l 0 0 0::F)) w->St1 (Za ⟨l,0,A0⟩ 0) (Zi Zk 1) w λw=>St1 (Za ⟨l,0,A0⟩ 1) (Zi Zk 0) w λw=>St1 (Za ⟨l,0,A0⟩ 2) (Zi Zk 0) w λw=>St1 (Za ⟨l,0,A0⟩ 3) (Zl A0 0 0) w λw=>
   LdI Zk (Za ⟨l,0,A0⟩ 0) w λr0=>LdI Zk (Za ⟨l,0,A0⟩ 1) w λr1=>LdI Zk (Za ⟨l,0,A0⟩ 2) w λr2=>LdL (Za ⟨l,0,A0⟩ 3) w λp n c=>R (Zg #[(Zi Zk r0),(Zi Zk r1),(Zi Zk r2),(Zl p n c)]) w:=λw a=>
   St1.zz 7 a rfl λw a=>St1.zz 7 a rfl λw a=>St1.zz 7 a rfl λw a=>St1.zz 7 a rfl λw a=>z8 7 a rfl rfl (z8 7 a rfl rfl (z8 7 a rfl rfl (zr 7 a rfl rfl (hR _ _ ⟨q,A0,0,rp,rc,rfl,z09 ((a.del 6 rfl).del 6 rfl)⟩))))
  refine⟨λ_ _=>False,z8 6 a rfl rfl (za (λC=>zn C (Z w a)) λC=>z8 6 a rfl rfl (za (λE=>zn E (Z w a)) λE=>za (λh3=>z8 6 a rfl rfl (za (λh4=>z8 6 a rfl rfl (za (λh5=>Z w a) λh5=>?_)) λh4=>?_)) λh3=>?_)),λ_ h=>h.elim⟩;all_goals
   have C:=yD C;have E:=yD E
  .have h5:=yD h5;rcases s with s|s|s;.exact C s
   .exact E s
   .exact h5 s.2.2
  .have h4:=yD h4;rcases s with s|s|s;.exact C s
   .exact E s
   .exact h4 s.2.1
  .rcases s with s|s|s;.exact C s
   .exact E s
   .rw[h3]at s;cases s.1
 rw[yA s]at A;refine⟨λ_ w=>St W (wld [] c P x q rp rc v (evR t e::qb1 l 0 0 0::F)) w,z8 6 a rfl rfl (za (λC=>yI (.inl (yC C)) s) λC=>z8 6 a rfl rfl (za (λE=>yI (.inr (.inl (yC E))) s) λE=>za (λh3=>z8 6 a rfl rfl (za (λh4=>z8 6 a rfl rfl (za (λh5=>yI (.inr (.inr ⟨h3,yC h4,yC h5⟩)) s) λh5=>a)) λh4=>a)) λh3=>a)),λw a=>?_⟩;cases hev:Wd.event c n { v with S:=[],draw:=e.draw} e with
 |none=>rw[hev]at A;cases A
 |some r1=>
 obtain⟨D,o⟩:=r1;rw[hev]at A;dsimp only at A;refine⟨StC W _,zd a,_,zu 6 ir rfl rfl,λN=>z7 ?_⟩;refine zk (α:=Unit) (V:=λ_=>Zt #[]) (B:=λ_=>wld [] c P x { q with ms:=N} rp rc { v with S:=[]} (evR t e::qb1 l 0 0 0::F)) () (ir.push N _) (λG w h=>?_) λ_=>⟨rfl,zu 6 ir rfl rfl,z7 (z0q 0 ir rfl (by simp[qb8]) ⟨rfl,trivial,λG w h=>?_⟩)⟩
 .have a:=h.imp λH hp=>qg.of_pt (κ:=Int) (ν:=q81) (Zi Zk) qr1 hp;exact St1.zz 1 a rfl λw a=>⟨(),rfl,zf 0 5 (a.del 6 rfl) rfl⟩
 have a:St W (wld [] c P x { q with ms:=N} rp rc { v with S:=[],draw:=e.draw} (evR t e::qb1 l 0 0 0::F)) w:=zb h;clear h;generalize ({ q with ms:=N}:qb5)=M at a;refine z8 6 a rfl rfl (z8 6 a rfl rfl (z8 6 a rfl rfl (zg 6 a rfl rfl (z8 6 a rfl rfl (zg 6 a rfl rfl (zg 6 a rfl rfl (zg 6 a rfl rfl ((qu7 ((hO.cons _).cons _) hn hev a).of λr w ⟨K,L,rp,rc,hr,a⟩=>⟨_,_,_,_,_,_,hr,?_⟩))))))));have a:=a.drop;refine z08 6 a λu w a=>St1.zz 6 a rfl λw a=>St1.zz 6 a rfl λw a=>St1.zz 6 a rfl λw a=>St1.zz 6 a rfl λw a=>z8 6 a rfl rfl (za (λh=>?_) λh=>?_)
 .rw[yB (by simpa using h)]at A;cases A;refine z8 6 a rfl rfl (St1.zz 8 a rfl λw a=>St1.zz 8 a rfl λw a=>St1.zz 8 a rfl λw a=>St1.zz 8 a rfl λw a=>z8 8 a rfl rfl (z8 8 a rfl rfl (z8 8 a rfl rfl (zr 8 a rfl rfl (hR _ _ ⟨M,A0,0,rp,rc,rfl,z09 (((a.del 6 rfl).del 6 rfl).del 6 rfl)⟩)))))
 have herr:o.err=0:=by simpa using h
 rw[yA (by simpa using h)]at A;have a:St W (wld [] c P x M rp rc D (Row u 32 [Zi Zk o.err,Zi Zk o.conn,Zi Zk o.took,Zl K o.sent.length L]::evR t e::qb1 l 0 0 0::F)) w:=a;rw[herr]at a;clear h;cases hd:(if e.kind=6 then Wd.does c n { D with g:=(qd3 P D.g D.b.K.now 0).1} (qd3 P D.g D.b.K.now 0).2 else A6 D)with
 |none=>rw[hd]at A;cases A
 |some v2=>
 rw[hd]at A;dsimp only at A;cases hrn:v2.run c n P n with
 |none=>rw[hrn]at A;cases A
 |some v3=>
 rw[hrn]at A;dsimp only at A;by_cases hl:1000000<v3.S.length;.rw[yB hl]at A;cases A
 rw[yA hl]at A;cases A;refine z8 7 a rfl rfl ⟨λ_ w=>∃rp rc,St W (wld [] c P x M rp rc v2 (Row u 32 [Zi Zk 0,Zi Zk o.conn,Zi Zk o.took,Zl K o.sent.length L]::evR t e::qb1 l 0 0 0::F)) w,za (λh=>?_) λh=>?_,λw hJ=>?_⟩
 .rw[yB (by simpa using h)]at hd;refine⟨StC W _,zd a,z7 (z7 ⟨_,zo 0 ir rfl rfl,_,zo 0 ir rfl rfl,?_⟩)⟩;refine z04 1 ir rfl (λG w h=>qxj h) (λ_ _ h=>⟨_,rfl,h⟩) ⟨_,rfl,zo 0 ir rfl rfl,?_⟩;refine Ef.sl 2 ir rfl (λG w h=>qpr D.b.K.now h) (λ_ _ _ _ h=>⟨_,_,_,rfl,h⟩) λap ac=>⟨_,_,_,rfl,trivial,?_⟩;have U:=qhu P D.g D.b.K.now 0;generalize qd3 P D.g D.b.K.now 0=tp at hd U⊢;obtain⟨g',acts⟩:=tp;dsimp only at hd U⊢;refine zk (α:=Option Addr×Nat) (V:=λ_=>Zt #[]) (B:=λy=>wld [] c P x M y.1 y.2 v2 (Row u 32 [Zi Zk 0,Zi Zk o.conn,Zi Zk o.took,Zl K o.sent.length L]::evR t e::qb1 l 0 0 0::F)) (A0,0) ir (λG w h=>?_) λy=>⟨rfl,trivial,λG w h=>⟨y.1,y.2,zb h⟩⟩;have C:St W (wld [] c P x M rp rc { D with g:=g'} (qm2 ap ac acts::Row u 32 [Zi Zk 0,Zi Zk o.conn,Zi Zk o.took,Zl K o.sent.length L]::evR t e::qb1 l 0 0 0::F++pts G)) w:=zf 0 6 h rfl;exact(qbj (ap:=ap) (ac:=ac) (((((hO.app (pts G)).cons _).cons _).cons _).cons _) (z0g _) (by omega) hd C).of λr w ⟨hv,rp,rc,a⟩=>⟨hv,(rp,rc),rfl,a.del 6 rfl⟩
 .rw[yA (by simpa using h)]at hd;cases hd;exact⟨rp,rc,a⟩
 clear a;obtain⟨rp,rc,a⟩:=hJ;refine(q5m (((hO.cons _).cons _).cons _) hrn a).of λr w ⟨hv,rp,rc,a⟩=>⟨hv,St1.zz 6 a rfl λw a=>z7 (zv 0 a rfl rfl (qkn (by omega) 5 a rfl λp3 c3 w a=>⟨_,_,_,rfl,?_⟩))⟩;have hol:=q5v v';have T:(q91 leI (v'.S.map (·.1))).length=v'.S.length:=by rw[(qv1 leI _).length_eq,A1]
 have hoo:v'.outs=(q91 leI (v'.S.map (·.1))).map λid=>(qe v'.S id).getD q93:=rfl;generalize q91 leI (v'.S.map (·.1))=ids at a T hoo;rw[<-T]at a⊢;generalize hS2:v'.outs=os at hR hoo hol;obtain⟨z,hz,hzs⟩:=qkw;have a:St W (wld [] c P x M rp rc v' (qi 3 1 p3 ids.length c3 (ids.map (Zi Zk))::Row u 32 [Zi Zk 0,Zi Zk o.conn,Zi Zk o.took,Zl A0 (os.take 0).length 0]::evR t e::qb1 l 0 0 0::SlA 38 4 q21 A0 0 (os.take 0)::F)) w:=zf 0 10 (z09 (zf 0 6 a rfl)) rfl;refine qt3 (λn vs w=>∃(k:Nat) (O:Option Addr) (Q:Nat),k+n=ids.length/\vs=[Zi Zk (k:Int)]/\St W (wld [] c P x M rp rc v' (qi 3 1 p3 ids.length c3 (ids.map (Zi Zk))::Row u 32 [Zi Zk 0,Zi Zk o.conn,Zi Zk o.took,Zl O (os.take k).length Q]::evR t e::qb1 l 0 0 0::SlA 38 4 q21 O Q (os.take k)::F)) w) λμ C E=>⟨⟨ids.length,0,A0,0,by omega,rfl,a⟩,λj w hI=>?_⟩;clear a;obtain⟨k,O,Q,s,he,a⟩:=E _ _ hI;generalize μ _ _=m at s⊢;cases he;refine za (λh=>?_) λh=>?_
 .have hlt:k<ids.length:=by have:=yC h;omega
  have hx:=List.getElem?_eq_getElem hlt;generalize ids[k]=y at hx;have hoy:os[k]?=A6 ((qe v'.S y).getD q93):=by rw[hoo,A3,hx];rfl
  have het:os.take (k+1)=os.take k++[(qe v'.S y).getD q93]:=by rw[List.take_add_one,hoy];rfl
  refine z0l (z06 6 rfl λF=>z0j F) a rfl hlt (v:=Zi Zk y) (by rw[A3,hx];rfl) λad ha=>zt ha ⟨StC W _,zd a,z7 ⟨_,_,_,QtL.a 7 ir rfl rfl,_,z0a 0 ir rfl rfl,_,_,_,_,(λG w hw=>qq1 kI uMs iSe zSe 5 hw rfl y false (by rw[yA (by simp),qre];exact⟨_,_,_,_,rfl,rfl,hw⟩)),λJ=>?_⟩⟩;generalize (qe v'.S y).getD q93=d at het;have hle:=List.length_take_le k os;have hbd:((os.take k).length+[d].length)*Tryz.t38.bytes<=140737488355328:=by have:=bSe;simp only[A4,A5];exact Nat.le_trans (Nat.mul_le_mul_left _ this) (by omega)
  have hbn:(os.take k).length+[d].length<=9223372036854775807:=by simp only[A4,A5];omega
  refine zk (α:=Option Addr×Nat) (V:=λy=>.slice y.1 (os.take k++[d]).length y.2) (B:=λy=>Row J 38 (q21 d)::wld [] c P x M rp rc v' (qi 3 1 p3 ids.length c3 (ids.map (Zi Zk))::Row u 32 [Zi Zk 0,Zi Zk o.conn,Zi Zk o.took,Zl O (os.take k).length Q]::evR t e::qb1 l 0 0 0::SlA 38 4 q21 y.1 y.2 (os.take k++[d])::F)) (A0,0) (ir.push J _) (λG w h=>?_) λy=>⟨_,_,_,rfl,trivial,?_⟩
  .have a:=h.imp z0c;have key:=λFF hb h63=>qf3 (P:=Zp) (ty:=30) (F:=FF) (sT:=30) (xT:=30) (m:=1) (sc:=1) (sp:=A6 ⟨J,0,A0⟩) (f:=q21) (os:=os.take k) (xs:=[d]) q89 qlj (.inr ⟨_,qlj⟩) iSe sSe hz hzs 11 a rfl (z0z 0 λi v h=>by rw[Nat.zero_add];simp only[List.flatMap_cons,List.flatMap_nil,List.append_nil]at h;exact h) rfl qkm hb h63;exact key _ hbd hbn λp4 c4 w a=>⟨_,_,_,rfl,(p4,c4),rfl,a⟩
  .refine z0q 8 ir rfl (by simp) ⟨rfl,trivial,λG w h=>?_⟩;have hI':∃(k':Nat) (O:Option Addr) (Q:Nat),k'+(m - 1)=ids.length/\[Zi Zk (Zw Zk ((k:Int)+1))]=[Zi Zk (k':Int)]/\St W (wld [] c P x M rp rc v' (qi 3 1 p3 ids.length c3 (ids.map (Zi Zk))::Row u 32 [Zi Zk 0,Zi Zk o.conn,Zi Zk o.took,Zl O (os.take k').length Q]::evR t e::qb1 l 0 0 0::SlA 38 4 q21 O Q (os.take k')::F)) w:=⟨k+1,y.1,y.2,by omega,by rw[up hlt (by omega)],by rw[het];exact(zb h).drop⟩;exact⟨⟨_,hI'⟩,Nat.lt_of_le_of_lt (C _ _ _ hI') (by omega)⟩
 have hk2:os.take k=os:=List.take_of_length_le (by have:=yD h;omega);rw[hk2]at a;refine z8 7 a rfl rfl (z8 7 a rfl rfl (z8 7 a rfl rfl (zr 7 a rfl rfl ?_)));refine St1.zz 9 a rfl λw a=>St1.zz 9 a rfl λw a=>St1.zz 9 a rfl λw a=>St1.zz 9 a rfl λw a=>?_;refine z8 9 a rfl rfl (z8 9 a rfl rfl (z8 9 a rfl rfl (zr 9 a rfl rfl (hR _ _ ⟨M,O,Q,rp,rc,rfl,?_⟩))));exact zf 6 0 ((((a.del 6 rfl).del 6 rfl).del 6 rfl).del 6 rfl) rfl
end
end
end Go.Proofs.YtfjifcfbmhpcaaaGreatDoor
