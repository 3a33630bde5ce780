/-
  A part of the proof of TopEcho.
-/
import Derived.Test.YtfjifcfbmhpcaaaGreatDoorE25
import Derived.Test.YtfjifcfbmhpcaaaGreatDoorE05
import Derived.Test.YtfjifcfbmhpcaaaGreatDoorE00
set_option linter.defProp false
set_option linter.unusedVariables false
set_option linter.unusedSimpArgs false
namespace Go.Proofs.YtfjifcfbmhpcaaaGreatDoor
open Go
open Go.Proofs.Tryz renaming prog → Zp
open Go.IntKind renaming i64 → Zk, wrap → Zw
open Go.Addr renaming add → Za
open Go.Value renaming int → Zi, string → Zs, pointer → Zq, bool → Zb, tuple → Zt, slice → Zl, agg → Zg
open _root_.Option renaming some->A0,none->Af
open _root_.Bool renaming false->A1,true->A9,true_and->Aj,and_eq_true->Am,not_false->B1,and_self->B2
open _root_.List renaming take_of_length_le->A2,mem_append_left->A3,mem_append_right->A4,append_of_mem->A5,nodup_append->A6,getElem?_eq_getElem->A7,mem_append->A8,mem_cons_of_mem->Aa,mem_map->Ab,length_map->Ac,length_nil->Ad,mem_cons_self->Ae,getElem?_map->Ag,getElem?_set->Ah,mem_cons->Ai,drop_of_length_le->An,nil_append->Ao,getElem?_eq_none->Ap,length_take_le->Aq,flatMap_append->Ar,flatMap_cons->Au,length_cons->Av,length_take->Aw,mem_flatMap->Ax,length->Ay,map_append->Az,nodup_cons->B0,map_cons->B3
open Go renaming Value->Ak,World->As
section
def evV(e:EvD):List Ak:=[Zi Zk e.kind,Zi Zk e.conn,Zi .u32 e.addr,Zs e.b,Zi Zk e.n,Zs e.name,Zs e.token,Zs e.draw]
abbrev evR(b:Nat)(e:EvD):Asn:=Row b 36 (evV e)
abbrev qb1(o:Nat)(err conn took:Int):Asn:=Row o 32 [Zi Zk err,Zi Zk conn,Zi Zk took,Zl Af 0 0]
def qb3.open_{N:Cn.CT}{S:List (Int×q81)}(h:qb3 N S)(addr:Int):qb3 (Cn.openT N addr).1 S:=by
 unfold Cn.openT;split;.exact h
 .refine⟨h.1,λy w=>?_⟩;rcases qh8 w with rfl|w
  .have:=h.1 (Zw Zk (N.last+1));exact⟨by simp,by simp only;omega⟩
  .exact h.2 y w
section
variable{W w:World}{F l:List Asn}{c:qy}{x m2 o:Nat}{p:qm3}{pl:List Nat}{s s':Bk}{e:EvD}{bad conn took:Int}{n:Nat}
def qpl(l:e.kind=1)(d:s.act c n e=A0 (s',bad,conn,took))(a:St W (brk c x p pl (A0 m2) s (qb1 o 0 0 0::F)) w):
 qb Zp 73 #[qc x,Zg (evV e).toArray,qc o] w λv w'=>v=Zi Zk bad/\∃g,St W (brk c x p g (A0 m2) s' (qb1 o 0 conn took::F)) w':=by
 unfold Bk.act at d;rw[yB l]at d;refine F73_of (z09 13 a λb w a=>⟨StC W _,zd a,z7 ⟨_,zq 0 ir rfl rfl,_,zj 13 ir rfl rfl,?_⟩⟩);refine z05 7 ir rfl (λG w h=>Cn.Open_spec e.addr h) (λ_ _ h=>⟨_,_,rfl,h⟩) ⟨_,_,rfl,trivial,λG w h=>?_⟩;have a:=z11 10 (zb h) rfl (z1g λh=>h.open_ e.addr);clear h;have a:St W (brk c x p pl (A0 m2) { s with N:=(Cn.openT s.N e.addr).1} (qb1 o 0 0 0::evR b e::F)) w:=a;generalize Cn.openT s.N e.addr=op at a d⊢;obtain⟨N,id,t⟩:=op;dsimp only at a d⊢;refine za (λh=>?_) λh=>?_
 .rw[yB (by simpa using h)]at d;cases d;exact⟨rfl,pl,a.del 13 rfl⟩
 rw[yA (by simpa using h)]at d;generalize ({ s with N:=N}:Bk)=s1 at a d;cases d;refine⟨StC W _,zd a,z7 (z7 ⟨_,z0b 0 ir rfl rfl,_,zq 0 ir rfl rfl,?_⟩)⟩;refine zn (α:=Nat) (V:=λb=>qc b) (B:=λf=>qx2 p.v f ⟨0,e0,e0,e0,A1⟩::brk c x p pl (A0 m2) s1 (qb1 o 0 0 0::evR b e::F)) 0 ir (λG w h=>(q7r (vb:=p.v) h).of λv w ⟨f,j,h⟩=>⟨_,j,f,rfl,h⟩) λf=>⟨_,rfl,z0b 1 ir rfl rfl,λk=>?_⟩;refine zn (α:=Unit) (V:=λ_=>Zt #[]) (B:=λ_=>brk c x p pl (A0 m2) (s1.put conn (q9l conn)) (qb1 o 0 0 0::evR b e::F)) () (ir.push k _) (λG w h=>?_) λ_=>⟨rfl,trivial,λG w h=>?_⟩
 .have m:St W (qo2 p.v pl k (q9l conn)::(brk c x p pl (A0 m2) s1 (qb1 o 0 0 0::evR b e::F)++pts G)) w:=qo2.shut (A0 f) (λi r=>by cases r) (h.imp z0d);exact qr.set_i kI uMr 0 9 m rfl rfl λw h=>⟨(),rfl,h⟩
 have a:=zb h;refine z7 (z8 0 a rfl rfl (z09 12 a λq w a=>?_));have a:St W (brk c x p pl (A0 m2) (s1.put conn (q9l conn)) (Row q 3 ([conn].map (Zi Zk))::qb1 o 0 0 0::evR b e::F)) w:=a;refine(q7i (ids:=[conn]) (after:=c.wait) (z0x 0 λi v h=>by rw[Nat.zero_add];exact h) (by simp) a).of λv w ⟨j,a⟩=>⟨j,z7 (St1.zz 13 a rfl λw a=>⟨rfl,pl,?_⟩)⟩;exact(z04 12 a rfl).del 13 rfl
def qqq(t:ql1 F c)(q:e.kind=2)(j:s.act c n e=A0 (s',bad,conn,took))(a:St W (brk c x p pl (A0 m2) s (qb1 o 0 0 0::F)) w):
 qb Zp 74 #[qc x,Zg (evV e).toArray,qc o] w λv w'=>v=Zi Zk bad/\∃f,St W (brk c x p f (A0 m2) s' (qb1 o 0 conn took::F)) w':=by
 unfold Bk.act at j;rw[yA (by omega),yB q]at j;cases hr:(s.upd e.conn (Cn.gFeed (qm e.b))).read c n e.conn e.draw with
 |none=>rw[hr]at j;cases j
 |some s1=>
 rw[hr]at j;cases j;have k:e.b=mkS (qm e.b):=(qd5 _).symm;refine F74_of (z09 13 a λb w a=>⟨StC W _,zd a,z7 ⟨_,zq 0 ir rfl rfl,_,zj 13 ir rfl rfl,_,zu 13 ir rfl rfl,?_⟩⟩);refine zn (α:=Nat×Nat) (V:=λy=>.slice (A0 ⟨y.1,0,Af⟩) (qm e.b).length y.2) (B:=λy=>prA ((qm e.b).length<=y.2)::Row y.1 5 ((qm e.b).map qd++List.replicate (y.2 -(qm e.b).length) (Zi .u8 0))::brk c x p pl (A0 m2) s (qb1 o 0 0 0::evR b e::F)) (0,0) ir (λG w h=>?_) λy=>⟨_,_,_,rfl,⟨zj 15 ir rfl rfl,zq 2 ir rfl rfl⟩,?_⟩
 .rw[k];have z:(qm (mkS (qm e.b))).length=(qm e.b).length:=by rw[<-k]
  refine qcb uS uB uU8 h λm u w l h=>⟨_,_,_,rfl,(m,u),?_,?_⟩;.rw[<-k]
  .rw[<-k];exact z02 l h
 refine z05 (X:=Zi Zk (s.N.ask e.conn 0 (Cn.rFeed (qm e.b)))) (B:=Cn.TabA p.n (s.N.upd e.conn (Cn.gFeed (qm e.b)))) 9 ir rfl (λG w h=>?_) (λ_ _ h=>⟨_,rfl,h⟩) ⟨_,rfl,trivial,z7 ?_⟩;.exact Cn.Feed_spec (id:=e.conn) (xs:=qm e.b) (z07 1 rfl λF=>z0x 0 λi v h=>by rw[Nat.zero_add,List.getElem?_append_left (List.getElem?_eq_some_iff.1 h).1];exact h) (St.of_pr (zf 1 0 h rfl)).1 h
 refine z0o 14 ir rfl (by simp) ⟨rfl,trivial,λG w h=>?_⟩;have a:=z11 10 (z0e [_,_] (zb h)) rfl (z1g λh=>qb3.upd h e.conn (g:=Cn.gFeed (qm e.b)) λd=>by unfold Cn.gFeed;split<;>rfl);refine z8 13 a rfl rfl (zg 13 a rfl rfl ?_);have a:St W (brk c x p pl (A0 m2) (s.upd e.conn (Cn.gFeed (qm e.b))) (qb1 o 0 0 (s.ask e.conn 0 (Cn.rFeed (qm e.b)))::evR b e::F)) w:=a;exact(qhk e.draw ((t.cons _).cons _) hr a).of λv w ⟨r,f,a⟩=>⟨r,rfl,f,a.del 13 rfl⟩
def qb3.budget{N:Cn.CT}(h:qb3 N [])(id n:Int):qb3 (N.upd id (Cn.gBudget n)) []:=by
 refine⟨h.1,λy w=>?_⟩;unfold Cn.CT.upd at w;split at w;.exact h.2 y w
 .rename_i d b;rcases qh8 w with rfl|w
  .have a:=h.2 _ (qg3 b);rw[qsf]at a⊢;simp only at a⊢;unfold Cn.gBudget;split;.exact a
   .rename_i e;have c:Zw Zk (d.credit+n)=d.credit+n:=w64;simp only;rw[c];split<;>omega
  .exact h.2 y w
def qwn(g:e.kind=3)(i:s.S=[])(d:s.act c n e=A0 (s',bad,conn,took))(a:St W (brk c x p pl (A0 m2) s (qb1 o 0 0 0::F)) w):
 qb Zp 75 #[qc x,Zg (evV e).toArray,qc o] w λv w'=>v=Zi Zk bad/\∃f,St W (brk c x p f (A0 m2) s' (qb1 o 0 conn took::F)) w':=by
 unfold Bk.act at d;rw[yA (by omega),yA (by omega),yB g]at d;cases d;refine F75_of (z09 13 a λb w a=>⟨StC W _,zd a,z7 ⟨_,zq 0 ir rfl rfl,_,zj 13 ir rfl rfl,_,zj 13 ir rfl rfl,?_⟩⟩);refine z05 7 ir rfl (λG w h=>Cn.Budget_spec (id:=e.conn) e.n h) (λ_ _ h=>⟨_,rfl,h⟩) ⟨_,rfl,trivial,λG w h=>?_⟩;have a:=z11 10 (zb h) rfl (z1g λh=>by rw[i]at h⊢;exact qb3.budget h e.conn e.n);have a:St W (brk c x p pl (A0 m2) (s.upd e.conn (Cn.gBudget e.n)) (qb1 o 0 0 0::F)) w:=a.del 13 rfl;refine za (λh=>⟨?_,pl,a⟩) λh=>⟨?_,pl,a⟩;.rw[yA (by have h:(!s.ask e.conn A1 (Cn.rBudget e.n))=A9:=h;simpa using h)]
 .rw[yB (by have h:(!s.ask e.conn A1 (Cn.rBudget e.n))=A1:=h;simpa using h)]
def q9u(l:ql1 F c)(j:e.kind=4)(f:s.act c n e=A0 (s',bad,conn,took))(a:St W (brk c x p pl (A0 m2) s (qb1 o 0 0 0::F)) w):
 qb Zp 76 #[qc x,Zg (evV e).toArray,qc o] w λv w'=>v=Zi Zk bad/\∃i,St W (brk c x p i (A0 m2) s' (qb1 o 0 conn took::F)) w':=by
 unfold Bk.act at f;rw[yA (by omega),yA (by omega),yA (by omega),yB j]at f;refine F76_of (z09 13 a λb w a=>⟨StC W _,zd a,z7 ⟨_,zq 0 ir rfl rfl,_,zj 13 ir rfl rfl,?_⟩⟩);refine z05 7 ir rfl (λG w h=>Cn.Half_spec (id:=e.conn) h) (λ_ _ h=>⟨_,rfl,h⟩) ⟨_,rfl,trivial,λG w h=>?_⟩;have a:=z11 10 (zb h) rfl (z1g λh=>qb3.upd h e.conn (g:=Cn.gHalf) λd=>rfl);have a:St W (brk c x p pl (A0 m2) (s.upd e.conn Cn.gHalf) (qb1 o 0 0 0::evR b e::F)) w:=a;refine za (λh=>?_) λh=>?_
 .have h:(!s.ask e.conn A1 (λd=>!d.ended))=A9:=h;rw[yB (by simpa using h)]at f;cases f;exact⟨rfl,pl,a.del 13 rfl⟩
 .have h:(!s.ask e.conn A1 (λd=>!d.ended))=A1:=h;rw[yA (by simpa using h)]at f;cases hr:(s.upd e.conn Cn.gHalf).read c n e.conn e.draw with
  |none=>rw[hr]at f;cases f
  |some s1=>
  rw[hr]at f;cases f;refine z8 13 a rfl rfl (zg 13 a rfl rfl ?_);exact(qhk e.draw ((l.cons _).cons _) hr a).of λv w ⟨k,i,a⟩=>⟨k,rfl,i,a.del 13 rfl⟩
def qxr(f:e.kind=5)(a:s.act c n e=A0 (s',bad,conn,took))(h:St W (brk c x p pl (A0 m2) s (qb1 o 0 0 0::F)) w):
 qb Zp 77 #[qc x,Zg (evV e).toArray,qc o] w λv w'=>v=Zi Zk bad/\∃d,St W (brk c x p d (A0 m2) s' (qb1 o 0 conn took::F)) w':=by
 unfold Bk.act at a;rw[yA (by omega),yA (by omega),yA (by omega),yA (by omega),yB f]at a;cases a;exact F77_of (z09 13 h λb w h=>z8 13 h rfl rfl ((q9a h).of λv w ⟨g,h⟩=>⟨g,rfl,pl,h.del 13 rfl⟩))
def q4s(j:e.kind=8)(d:s.act c n e=A0 (s',bad,conn,took))(a:St W (brk c x p pl (A0 m2) s (qb1 o 0 0 0::F)) w):
 qb Zp 80 #[qc x,Zg (evV e).toArray,qc o] w λv w'=>v=Zi Zk bad/\∃f,St W (brk c x p f (A0 m2) s' (qb1 o 0 conn took::F)) w':=by
 unfold Bk.act at d;rw[yA (by omega),yA (by omega),yA (by omega),yA (by omega),yA (by omega),yA (by omega),yA (by omega)]at d;refine F80_of (z09 13 a λb w a=>⟨StC W _,zd a,z7 (z7 ⟨_,zq 0 ir rfl rfl,_,zu 13 ir rfl rfl,_,zq 0 ir rfl rfl,?_⟩)⟩);refine z05 8 ir rfl (λG w h=>Ck.Now_spec h) (λ_ _ h=>⟨_,rfl,h⟩) ⟨_,rfl,⟨zu 13 ir rfl rfl,zq 0 ir rfl rfl⟩,?_⟩;refine z05 3 ir rfl (λG w h=>q9r (name:=e.name) (now:=s.K.now) h) (λ_ _ h=>⟨_,_,_,_,_,_,_,rfl,h⟩) ⟨_,_,_,_,_,_,_,rfl,trivial,λg=>?_⟩;refine Ef.le ir (qlb s.B e.name s.K.now).2.1 ⟨rfl,trivial,λG w h=>?_⟩;have a:=zb h;clear h;generalize qlb s.B e.name s.K.now=cl at a d⊢;obtain⟨B,y,k⟩:=cl;have a:St W (Row g 55 (leV y)::brk c x p pl (A0 m2) { s with B:=B} (qb1 o 0 0 0::evR b e::F)) w:=a;dsimp only at d⊢;refine za (λh=>?_) λh=>?_
 .rw[yB (by simpa using h)]at d;cases d;exact⟨rfl,pl,a.drop.del 13 rfl⟩
 .rw[yA (by simpa using h)]at d;cases d;refine zg 0 a rfl rfl (zg 0 a rfl rfl (z8 0 a rfl rfl (z8 0 a rfl rfl (z8 0 a rfl rfl (zw 0 a rfl rfl ?_)))));exact(qdf y a.drop).of λv w ⟨i,a⟩=>⟨i,rfl,pl,a.del 13 rfl⟩
end
end
section
def q6u(B:qi3)(now:Int):(qm7 B now).2.length<=B.L.length:=by
 unfold qm7;split;.exact Nat.zero_le _
 .exact qze _ _ _
section
variable{W w:World}{F l:List Asn}{c:qy}{x m2 o:Nat}{p:qm3}{pl:List Nat}{s s':Bk}{e:EvD}{bad conn took:Int}{n:Nat}
def qz5{I:Nat->List Ak->As->Prop}{μ:List Ak->As->Nat}(b:∀vs w n,I n vs w->μ vs w<=n){vs:List Ak}{w:As}{n k:Nat}(a:n<k)(h:I n vs w):(∃n,I n vs w)/\μ vs w<k:=⟨⟨n,h⟩,Nat.lt_of_le_of_lt (b _ _ _ h) a⟩
set_option maxHeartbeats 1000000 in
def qtu(C:e.kind=6)(V: -9223372036854775808<=e.n/\e.n<=9223372036854775807)(i:s.act c n e=A0 (s',bad,conn,took))(d:St W (brk c x p pl (A0 m2) s (qb1 o 0 0 0::F)) w):
 qb Zp 78 #[qc x,Zg (evV e).toArray,qc o] w λv w'=>v=Zi Zk bad/\∃P,St W (brk c x p P (A0 m2) s' (qb1 o 0 conn took::F)) w':=by
 unfold Bk.act at i;rw[yA (by omega),yA (by omega),yA (by omega),yA (by omega),yA (by omega),yB C]at i;have Q:=Ck.ClockA.ok (zf 8 0 d rfl);refine F78_of (z09 13 d λb w d=>⟨StC W _,zd d,z7 ⟨_,zq 0 ir rfl rfl,_,zj 13 ir rfl rfl,?_⟩⟩);refine Ef.sl 8 ir rfl (λG w h=>(Ck.Tick_spec e.n V h).of λv w ⟨p,c,y,d⟩=>⟨p,c,y,d.p1⟩) (λ_ _ _ _ h=>⟨_,_,_,_,rfl,h⟩) λq r=>⟨_,_,_,_,rfl,trivial,λG w h=>?_⟩;have d:St W (brk c x p pl (A0 m2) { s with K:=(Ck.cTick s.K e.n).1} (qb1 o 0 0 0::evR b e::SlA 3 1 iV q r (Ck.cTick s.K e.n).2.1::F)) w:=z12 14 (zb h);clear h;have H:(Ck.cTick s.K e.n).2.1.length<=s.K.al.length:=by
  unfold Ck.cTick;split;.exact Nat.zero_le _
  .rw[Ac];exact List.length_filter_le _ _
 have R:=Q.many;generalize Ck.cTick s.K e.n=ck at d i H⊢;obtain⟨K,al,Y⟩:=ck;dsimp only at d i H⊢;refine za (λh=>?_) λh=>?_
 .rw[yB (by simpa using h)]at i;cases i;exact⟨rfl,pl,(d.del 13 rfl).del 13 rfl⟩
 rw[yA (by simpa using h)]at i;clear h;have X:s.B.L.length<=64:=by obtain⟨_,h,_⟩:=z13 (zf 3 0 d rfl);exact h
 refine⟨StC W _,zd d,z7 (z7 ⟨_,zq 0 ir rfl rfl,_,zq 0 ir rfl rfl,?_⟩)⟩;refine z05 8 ir rfl (λG w h=>Ck.Now_spec h) (λ_ _ h=>⟨_,rfl,h⟩) ⟨_,rfl,zq 0 ir rfl rfl,?_⟩;refine Ef.sl 3 ir rfl (λG w h=>(qqp (now:=K.now) h).of λv w ⟨p,c,y,_,d⟩=>⟨p,c,y,d⟩) (λ_ _ _ _ h=>⟨_,_,_,rfl,h⟩) λJ N=>⟨_,_,_,rfl,trivial,λG w h=>?_⟩;have d:St W (brk c x p pl (A0 m2) { s with K:=K,B:=(qm7 s.B K.now).1} (SlA 55 6 leV J N (qm7 s.B K.now).2::qb1 o 0 0 0::evR b e::SlA 3 1 iV q r al::F)) w:=z12 12 (zb h);clear h;have E:=q6u s.B K.now;generalize qm7 s.B K.now=lp at d i E⊢;obtain⟨B,l⟩:=lp;dsimp only at d i E⊢;generalize ({ s with K:=K,B:=B}:Bk)=s1 at d i;cases i;refine qt3 (λn vs w=>∃k:Nat,k+n=l.length/\vs=[Zi Zk (k:Int)]/\St W (brk c x p pl (A0 m2) ((l.take k).foldl Bk.gone s1) (SlA 55 6 leV J N l::qb1 o 0 0 0::evR b e::SlA 3 1 iV q r al::F)) w) λμ M L=>⟨⟨l.length,0,by omega,rfl,d⟩,λj w I=>?_⟩;clear d;obtain⟨k,C,O,d⟩:=L _ _ I;generalize μ _ _=m at C⊢;cases O;refine za (λh=>?_) λh=>?_
 .have g:k<l.length:=by have:=yC h;omega
  have D:=A7 g;refine z0j qhw (by decide) (Rd.b12 (z0l _)) d rfl g D λa t=>z0y (t 0 _ rfl) (z0y (t 1 _ rfl) (zy (t 2 _ rfl) (zy (t 3 _ rfl) (zy (t 4 _ rfl) (LdB.at (t 5 _ rfl) (z09 12 d λT w d=>?_))))));refine St1.zz 12 d rfl λw d=>St1.zz 12 d rfl λw d=>St1.zz 12 d rfl λw d=>St1.zz 12 d rfl λw d=>St1.zz 12 d rfl λw d=>St1.zz 12 d rfl λw d=>?_;refine zg 12 d rfl rfl (zg 12 d rfl rfl (z8 12 d rfl rfl (z8 12 d rfl rfl (z8 12 d rfl rfl (zw 12 d rfl rfl ?_)))));have d:St W (brk c x p pl (A0 m2) ((l.take k).foldl Bk.gone s1) (Row T 55 (leV l[k])::SlA 55 6 leV J N l::qb1 o 0 0 0::evR b e::SlA 3 1 iV q r al::F)) w:=d;refine(qdf l[k] d).of λv w ⟨y,d⟩=>⟨y,?_⟩;have u:∃z:Nat,z+(m - 1)=l.length/\[Zi Zk (Zw Zk ((k:Int)+1))]=[Zi Zk (z:Int)]/\St W (brk c x p pl (A0 m2) ((l.take z).foldl Bk.gone s1) (SlA 55 6 leV J N l::qb1 o 0 0 0::evR b e::SlA 3 1 iV q r al::F)) w:=⟨k+1,by omega,by rw[up g (by omega)],by rw[q29 _ _ D];exact d.del 12 rfl⟩;exact qz5 M (by omega) u
 have A:l.take k=l:=A2 (by have:=yD h;omega);rw[A]at d;clear h M L I C;have d:=d.del 12 rfl;generalize l.foldl Bk.gone s1=s1 at d;refine qt3 (λn vs w=>∃k:Nat,k+n=al.length/\vs=[Zi Zk (k:Int)]/\St W (brk c x p pl (A0 m2) ((al.take k).foldl Bk.shut s1) (qb1 o 0 0 0::evR b e::SlA 3 1 iV q r al::F)) w) λμ M L=>⟨⟨al.length,0,by omega,rfl,d⟩,λj w I=>?_⟩;clear d;obtain⟨k,C,O,d⟩:=L _ _ I;generalize μ _ _=m at C⊢;cases O;refine za (λh=>?_) λh=>?_
 .have g:k<al.length:=by have:=yC h;omega
  have D:=A7 g;have U:∀G,Rd (SlA 3 1 iV q r al::G) q (al.map (Zi Zk)):=λG=>by have:=z0l (e:=3) (size:=1) (f:=iV) (p:=q) (c:=r) (os:=al) G;rwa[show al.flatMap iV=al.map (Zi Zk)from qt6 _ _]at this
  refine z0f (z07 14 rfl U) d rfl g (v:=Zi Zk al[k]) (by rw[Ag,D];rfl) λa t=>zy t ((q9a d).of λv w ⟨y,d⟩=>⟨y,?_⟩);have u:∃z:Nat,z+(m - 1)=al.length/\[Zi Zk (Zw Zk ((k:Int)+1))]=[Zi Zk (z:Int)]/\St W (brk c x p pl (A0 m2) ((al.take z).foldl Bk.shut s1) (qb1 o 0 0 0::evR b e::SlA 3 1 iV q r al::F)) w:=⟨k+1,by omega,by rw[up g (by omega)],by rw[q29 _ _ D];exact d⟩;exact qz5 M (by omega) u
 have A:al.take k=al:=A2 (by have:=yD h;omega);rw[A]at d;exact⟨rfl,pl,(d.del 13 rfl).del 13 rfl⟩
def qr8(e:EvD)(s:Bk)(id:Int):Bk:=match qe s.roles id with
 |none=>s
 |some r=>if(r.kind==2&&(decide (r.ten=e.name)&&decide (r.token=e.token)))=A9 then s.shut id else s
set_option maxHeartbeats 1000000 in
def qho(U:ql1 F c)(I:e.kind=7)(f:s.act c n e=A0 (s',bad,conn,took))(d:St W (brk c x p pl (A0 m2) s (qb1 o 0 0 0::F)) w):
 qb Zp 79 #[qc x,Zg (evV e).toArray,qc o] w λv w'=>v=Zi Zk bad/\∃t,St W (brk c x p t (A0 m2) s' (qb1 o 0 conn took::F)) w':=by
 unfold Bk.act at f;rw[yA (by omega),yA (by omega),yA (by omega),yA (by omega),yA (by omega),yA (by omega),yB I]at f;refine F79_of (z09 13 d λb w d=>⟨StC W _,zd d,z7 ⟨_,zq 0 ir rfl rfl,_,zu 13 ir rfl rfl,_,zu 13 ir rfl rfl,?_⟩⟩);refine z05 1 ir rfl (λG w h=>q7o (ten:=e.name) (tok:=e.token) ((U.app (pts G)).pre [_,_,_,_,_,_,_,_,_,_,_,_,_]) h) (λ_ _ h=>⟨_,rfl,h⟩) ⟨_,rfl,trivial,λG w h=>?_⟩;have d:St W (brk c x p pl (A0 m2) { s with R:=(qv7 c s.R e.name e.token).1} (qb1 o 0 0 0::evR b e::F)) w:=zb h;clear h;generalize qv7 c s.R e.name e.token=rv at d f⊢;obtain⟨R,V⟩:=rv;dsimp only at d f⊢;refine za (λh=>?_) λh=>?_
 .rw[yB (by simpa using h)]at f;cases f;exact⟨rfl,pl,d.del 13 rfl⟩
 rw[yA (by simpa using h)]at f;clear h;by_cases l:1000000<s.N.L.length;.rw[yB l]at f;cases f
 rw[yA l]at f;have l:¬1000000<({ s with R:=R}:Bk).N.L.length:=l;generalize ({ s with R:=R}:Bk)=s1 at d f l;cases f;refine z7 (z0r 0 d rfl rfl ((Cn.All_spec (by omega) (d.at 7 rfl)).of λv w ⟨D,z,J,d⟩=>⟨_,_,_,J,?_⟩));have L:s1.ids.length=s1.N.L.length:=by unfold Bk.ids;rw[(qv1 leI _).length_eq,Ac]
 rw[<-L]at d l⊢;have d:St W (brk c x p pl (A0 m2) s1 (qi 3 1 D s1.ids.length z (s1.ids.map (Zi Zk))::qb1 o 0 0 0::evR b e::F)) w:=z12 12 (zf 1 8 d rfl);generalize s1.ids=ids at d l⊢;have M:∀w,St W (brk c x p pl (A0 m2) (ids.foldl (qr8 e) s1) (qi 3 1 D ids.length z (ids.map (Zi Zk))::qb1 o 0 0 0::evR b e::F)) w->∃t,St W (brk c x p t (A0 m2) (ids.foldl (qr8 e) s1) (qb1 o 0 0 0::F)) w:=λw d=>⟨pl,(d.del 12 rfl).del 13 rfl⟩;refine qt3 (λn vs w=>∃k:Nat,k+n=ids.length/\vs=[Zi Zk (k:Int)]/\St W (brk c x p pl (A0 m2) ((ids.take k).foldl (qr8 e) s1) (qi 3 1 D ids.length z (ids.map (Zi Zk))::qb1 o 0 0 0::evR b e::F)) w) λμ A Q=>⟨⟨ids.length,0,by omega,rfl,d⟩,λj w O=>?_⟩;clear d;obtain⟨k,I,P,d⟩:=Q _ _ O;generalize μ _ _=m at I⊢;cases P;refine za (λh=>?_) λh=>?_
 .have u:k<ids.length:=by have:=yC h;omega
  have H:=A7 u;have g:=q29 (qr8 e) s1 H;generalize (ids.take k).foldl (qr8 e) s1=s2 at d g;generalize ids[k]=y at H g;have back:∀w,St W (brk c x p pl (A0 m2) (qr8 e s2 y) (qi 3 1 D ids.length z (ids.map (Zi Zk))::qb1 o 0 0 0::evR b e::F)) w->∃K:Nat,K+(m - 1)=ids.length/\[Zi Zk (Zw Zk ((k:Int)+1))]=[Zi Zk (K:Int)]/\St W (brk c x p pl (A0 m2) ((ids.take K).foldl (qr8 e) s1) (qi 3 1 D ids.length z (ids.map (Zi Zk))::qb1 o 0 0 0::evR b e::F)) w:=λw d=>⟨k+1,by omega,by rw[up u (by omega)],by rw[g];exact d⟩;refine z0f (z07 12 rfl λF=>z0i F) d rfl u (v:=Zi Zk y) (by rw[Ag,H];rfl) λa T=>zy T (z7 (zv 0 d rfl rfl ?_));unfold qr8 at back;cases hd:qe s2.roles y with
  |none=>rw[hd]at back;refine z0w kI uMr iPr zPr 9 d rfl hd A9 ?_;rw[yB rfl];exact⟨_,_,rfl,StC W _,zd d,zl rfl λG w h=>qz5 A (by omega) (back w (zb h))⟩
  |some r=>
   rw[hd]at back;dsimp only at back;obtain⟨q,sb,E,d⟩:=brk.open_ hd d;refine z0h kI uMr iPr zPr 9 d rfl A9 ?_;rw[yB rfl];refine⟨_,_,rfl,StC W _,zd d,zm rfl (z7 ⟨_,zj 12 ir rfl rfl,za (λB=>z7 ⟨_,zu 12 ir rfl rfl,_,zu 16 ir rfl rfl,za (λi=>z7 ⟨_,zu 12 ir rfl rfl,_,zu 16 ir rfl rfl,λG w h=>za (λC=>?_) λC=>?_⟩) λi=>λG w h=>?_⟩) λB=>λG w h=>?_⟩)⟩
   .rw[qrc]at i C;rw[B,i,C]at back;exact(q9a (z08 E hd (zb h))).of λv w ⟨J,d⟩=>⟨J,qz5 A (by omega) (back w d)⟩
   .rw[qrc]at i C;rw[B,i,C]at back;exact qz5 A (by omega) (back w (z08 E hd (zb h)))
   .rw[qrc]at i;rw[B,i]at back;exact qz5 A (by omega) (back w (z08 E hd (zb h)))
   .rw[B]at back;exact qz5 A (by omega) (back w (z08 E hd (zb h)))
 have N:ids.take k=ids:=A2 (by have:=yD h;omega);rw[N]at d;exact⟨rfl,M w d⟩
end
end
section
def q8d:List (Int×Nat):=[(1,73),(2,74),(3,75),(4,76),(5,77),(6,78),(7,79),(8,80)]
def uMe:Zp.underlying 117=A0 (.map 3 115):=Tryz.underlying117
def iFe:Zp.info? 115=A0 Tryz.t115:=by kernel_rfl
def zFe:Tryz.t115.zero=A0 .nilFunc:=rfl
def q6o{W w:As}{l:List Asn}(h:St W l w):qb Zp 44 #[] w λv w'=>∃m,v=.map (A0 m)/\St W (qg (Zi Zk) fnV m q8d::l) w':=by refine F44_of (qs5.f (ν:=Nat) (Zi Zk) fnV h λm w h=>?_);refine qh1 (vl:=fnV) kI uMe 0 h rfl 1 73 λw h=>qh1 (vl:=fnV) kI uMe 0 h rfl 2 74 λw h=>qh1 (vl:=fnV) kI uMe 0 h rfl 3 75 λw h=>qh1 (vl:=fnV) kI uMe 0 h rfl 4 76 λw h=>qh1 (vl:=fnV) kI uMe 0 h rfl 5 77 λw h=>qh1 (vl:=fnV) kI uMe 0 h rfl 6 78 λw h=>qh1 (vl:=fnV) kI uMe 0 h rfl 7 79 λw h=>qh1 (vl:=fnV) kI uMe 0 h rfl 8 80 λw h=>⟨m,rfl,?_⟩;exact h
def q5s{k:Int}(h:k<1\/8<k):qe q8d k=Af:=by unfold q8d;simp only[qe];rw[yA (by omega),yA (by omega),yA (by omega),yA (by omega),yA (by omega),yA (by omega),yA (by omega),yA (by omega)]
def qoi{k:Int}(h:¬(k<1\/8<k)):k=1\/k=2\/k=3\/k=4\/k=5\/k=6\/k=7\/k=8:=by omega
section
variable{W w:World}{F l:List Asn}{c:qy}{x m2 o:Nat}{p:qm3}{pl:List Nat}{sn:Option Nat}{s s':Bk}{e:EvD}{bad conn took:Int}{n:Nat}
def q1w(g:ql1 F c)(k: -9223372036854775808<=e.n/\e.n<=9223372036854775807)(j:¬(e.kind<1\/8<e.kind))(i:s.S=[])(a:s.act c n e=A0 (s',bad,conn,took))(b:St W (brk c x p pl (A0 m2) s (qb1 o 0 0 0::F)) w):
 ∃f,qe q8d e.kind=A0 f/\q33 Zp f=A9/\qb Zp f #[qc x,Zg (evV e).toArray,qc o] w λv w'=>v=Zi Zk bad/\∃d,St W (brk c x p d (A0 m2) s' (qb1 o 0 conn took::F)) w':=by
 rcases qoi j with h|h|h|h|h|h|h|h;.exact⟨73,by rw[h];rfl,by kernel_rfl,qpl h a b⟩
 .exact⟨74,by rw[h];rfl,by kernel_rfl,qqq g h a b⟩
 .exact⟨75,by rw[h];rfl,by kernel_rfl,qwn h i a b⟩
 .exact⟨76,by rw[h];rfl,by kernel_rfl,q9u g h a b⟩
 .exact⟨77,by rw[h];rfl,by kernel_rfl,qxr h a b⟩
 .exact⟨78,by rw[h];rfl,by kernel_rfl,qtu h k a b⟩
 .exact⟨79,by rw[h];rfl,by kernel_rfl,qho g h a b⟩
 .exact⟨80,by rw[h];rfl,by kernel_rfl,q4s h a b⟩
def qkq(w:¬(e.kind<1\/8<e.kind)):∃f,qe q8d e.kind=A0 f:=by rcases qoi w with h|h|h|h|h|h|h|h<;>exact⟨_,by rw[h];rfl⟩
def q21(d:q81):List Ak:=[Zi Zk d.conn,Zs d.b,Zb d.e,Zb d.c]
def q89(d:q81):(q21 d).length=4:=rfl
def qkm(d:q81):∀v∈q21 d,qn1 v:=λv h=>by simp only[q21,Ai,List.not_mem_nil,yK]at h;rcases h with rfl|rfl|rfl|rfl<;>trivial
def qlj:Zp.underlying 30=A0 (.slice 38):=Tryz.underlying30
def sSe:Tryz.t38.size=4:=rfl
def bSe:Tryz.t38.bytes<=1000:=by decide+kernel
def qkw:∃z,Tryz.t38.zero=A0 z/\z.cells.size=4:=⟨_,rfl,rfl⟩
def qdz(W:As)(c:qy)(x:Nat)(p:qm3)(s:Bk)(out:qra)(F:List Asn)(v:Ak)(w:As):Prop:=
 ∃pl sn q h,v=Zg #[Zi Zk out.err,Zi Zk out.conn,Zi Zk out.took,Zl q out.sent.length h]/\St W (brk c x p pl sn s (SlA 38 4 q21 q h out.sent::F)) w
def q7j{b:Nat}{e0 conn took:Int}{q:Option Addr}{j c:Nat}{R:Ak->As->Prop}{l:List Asn}(k:Nat){bad:Int}(h:St W l w)(a:nth l k=A0 (Row b 32 [Zi Zk e0,Zi Zk conn,Zi Zk took,Zl q j c]))
 (m:∀w,St W (put l k [qb1 b bad 0 0]) w->R (Zg #[Zi Zk bad,Zi Zk 0,Zi Zk 0,Zl Af 0 0]) w):
 St1 (Za ⟨b,0,Af⟩ 0) (Zi Zk bad) w λw=>St1 (Za ⟨b,0,Af⟩ 1) (Zi Zk 0) w λw=>St1 (Za ⟨b,0,Af⟩ 2) (Zi Zk 0) w λw=>St1 (Za ⟨b,0,Af⟩ 3) (Zl Af 0 0) w λw=>
  LdI Zk (Za ⟨b,0,Af⟩ 0) w λg=>LdI Zk (Za ⟨b,0,Af⟩ 1) w λd=>LdI Zk (Za ⟨b,0,Af⟩ 2) w λf=>LdL (Za ⟨b,0,Af⟩ 3) w λn i e=>R (Zg #[Zi Zk g,Zi Zk d,Zi Zk f,Zl n i e]) w:=by
 have h:=h.at k a;refine St1.zz 0 h rfl λw h=>St1.zz 0 h rfl λw h=>St1.zz 0 h rfl λw h=>St1.zz 0 h rfl λw h=>?_;exact z8 0 h rfl rfl (z8 0 h rfl rfl (z8 0 h rfl rfl (zt 0 h rfl rfl (m w (z06 k a (B:=[_]) h)))))
end
end
section
section
variable{W w:World}{F l:List Asn}{c:qy}{x m2 o:Nat}{p:qm3}{pl:List Nat}{sn:Option Nat}{s s':Bk}{e:EvD}{bad conn took:Int}{n:Nat}{out:qra}
def q0m(s:Bk):s.outs.length=s.S.length:=by unfold Bk.outs;rw[Ac,(qv1 leI _).length_eq,Ac]
set_option maxHeartbeats 2000000 in
def qau(hO:ql1 F c)(hn: -9223372036854775808<=e.n/\e.n<=9223372036854775807)(t:s.step c n e=A0 (s',out))(a:St W (brk c x p pl sn s F) w):qb Zp 15 #[qc x,Zg (evV e).toArray] w λv w'=>qdz W c x p s' out F v w':=by
 unfold Bk.step at t;suffices J:∀R:Ak->As->Prop,(∀v w,qdz W c x p s' out F v w->R v w)->qb Zp 15 #[qc x,Zg (evV e).toArray] w R from J _ λv w h=>h
 intro R hR;refine F15_of (z09 12 a λo w a=>z09 13 a λr w a=>⟨StC W _,zd a,_,zj 12 ir rfl rfl,?_⟩);refine zn (α:=Nat) (V:=λT=>.map (A0 T)) (B:=λT=>qg (Zi Zk) fnV T q8d::brk c x p pl sn s (evR o e::qb1 r 0 0 0::F)) 0 ir (λG w h=>(q6o h).of λv w ⟨T,Y,h⟩=>⟨_,Y,T,rfl,h⟩) λT=>⟨_,rfl,zj 13 ir rfl rfl,_,_,(λG w hw=>qq1 kI uMe iFe zFe 0 hw rfl e.kind A9 (by rw[yB rfl];exact⟨_,_,rfl,rfl,hw⟩)),λG w h=>?_⟩;have a:St W (brk c x p pl sn s (evR o e::qb1 r 0 0 0::F)) w:=(zb h).drop;clear h;by_cases O:e.kind<1\/8<e.kind
 .rw[yB O]at t;cases t;rw[q5s O];refine zm rfl (q7j 13 a rfl λw a=>hR _ _ ⟨pl,sn,Af,0,rfl,?_⟩);exact z12 12 (z0a ((z04 12 a rfl).del 12 rfl))
 rw[yA O]at t;obtain⟨f,hf⟩:=qkq O;rw[hf];refine zl rfl ⟨λ_ w=>¬(e.kind>=2/\e.kind<=5/\s.ask e.conn A1 (λ_=>A9)=A1)/\St W (brk c x p pl sn s (evR o e::qb1 r 0 0 0::F)) w,?_,λw hJ=>?_⟩
 .refine⟨StC W _,zd a,_,zj 12 ir rfl rfl,za (λK=>⟨_,zj 12 ir rfl rfl,za (λI=>z7 ⟨_,zq 0 ir rfl rfl,_,zj 12 ir rfl rfl,?_⟩) λI=>λG w h=>⟨λJ=>?_,zb h⟩⟩) λK=>λG w h=>⟨λJ=>?_,zb h⟩⟩
  .refine z05 7 ir rfl (λG w h=>Cn.Has_spec (id:=e.conn) h) (λ_ _ h=>⟨_,rfl,h⟩) ⟨_,rfl,trivial,λG w h=>?_⟩;have a:=zb h;refine za (λH=>?_) λH=>⟨λJ=>?_,a⟩
   .have H:(!s.ask e.conn A1 λ_=>A9)=A9:=H;rw[yB ⟨yC K,yC I,by simpa using H⟩]at t;cases t;refine q7j 13 a rfl λw a=>hR _ _ ⟨pl,sn,Af,0,rfl,?_⟩;exact z12 12 (z0a ((z04 12 a rfl).del 12 rfl))
   .have H:(!s.ask e.conn A1 λ_=>A9)=A1:=H;rw[J.2.2]at H;cases H
  .have:=yD I;omega
  .have:=yD K;omega
 clear a;obtain⟨J,a⟩:=hJ;rw[yA J]at t;clear J;cases ha:Bk.act c n { s with S:=[]} e with
 |none=>rw[ha]at t;cases t
 |some r1=>
 obtain⟨C,bad,conn,took⟩:=r1;rw[ha]at t;dsimp only at t;have E:=qs2.cr 10 a rfl;refine qs5.f (ν:=q81) (Zi Zk) qr1 a λm w a=>z7 (St1.zz 1 a rfl λw a=>?_);have a:=z11 10 (zf 0 10 (z04 11 a rfl) rfl) rfl (qs2.of (E.fresh));refine z09 12 a λu w a=>?_;have a:St W (brk c x p pl (A0 m) { s with S:=[]} (qb1 u 0 0 0::evR o e::qb1 r 0 0 0::F)) w:=a;refine z8 13 a rfl rfl (z8 13 a rfl rfl (z8 13 a rfl rfl (zg 13 a rfl rfl (z8 13 a rfl rfl (zg 13 a rfl rfl (zg 13 a rfl rfl (zg 13 a rfl rfl ?_)))))));obtain⟨f2,Z,hb,L⟩:=q1w ((hO.cons _).cons _) hn O rfl ha a;rw[hf]at Z;cases Z;refine zx hb (L.of λv w ⟨Y,b,a⟩=>⟨_,Y,?_⟩);clear L E;refine za (λh=>?_) λh=>?_
 .rw[yB (by simpa using h)]at t;cases t;refine q7j 14 a rfl λw a=>hR _ _ ⟨b,A0 m,Af,0,rfl,?_⟩;exact z12 12 (z0a (((z04 12 a rfl).del 12 rfl).del 12 rfl))
 rw[yA (by simpa using h)]at t;clear h;cases g:C.rounds c n with
 |none=>rw[g]at t;cases t
 |some s2=>
 rw[g]at t;dsimp only at t;by_cases hl:1000000<s2.S.length;.rw[yB hl]at t;cases t
 rw[yA hl]at t;cases t;refine qt3 (λn vs w=>vs=[]/\∃C b,Bk.rounds c n C=A0 s'/\St W (brk c x p b (A0 m) C (qb1 u 0 conn took::evR o e::qb1 r 0 0 0::F)) w) λμ K I=>⟨⟨n,rfl,C,b,g,a⟩,λw hI=>?_⟩;clear a g;obtain⟨_,C,b,g,a⟩:=I _ _ hI;generalize μ _ _=k at g⊢;cases k with
 |zero=>cases g
 |succ k=>
 unfold Bk.rounds at g;cases hr:C.round c with
 |none=>rw[hr]at g;cases g
 |some r2=>
 obtain⟨l,again⟩:=r2;rw[hr]at g;dsimp only at g;refine(round_spec hr a).of λv w ⟨Y,a⟩=>⟨_,Y,za (λh=>?_) λh=>?_⟩
 .rw[yB h]at g;have N:([]:List Ak)=[]/\∃C b,Bk.rounds c k C=A0 s'/\St W (brk c x p b (A0 m) C (qb1 u 0 conn took::evR o e::qb1 r 0 0 0::F)) w:=⟨rfl,l,b,g,a⟩;exact qz5 K (by omega) N
 rw[yA (by rw[h];simp)]at g;have e3:=Option.some.inj g;subst e3;clear K I hI g h hr;have hol:=q0m l;obtain⟨E,a⟩:=brk.sent a;refine z7 (zv 0 a rfl rfl (qkn (by omega) 10 a rfl λX c3 w a=>⟨_,_,_,rfl,?_⟩));have M:(q91 leI (l.S.map (·.1))).length=l.S.length:=by rw[(qv1 leI _).length_eq,Ac]
 have ho:l.outs=(q91 leI (l.S.map (·.1))).map λid=>(qe l.S id).getD q93:=rfl;generalize q91 leI (l.S.map (·.1))=ids at a M ho;rw[<-M]at a⊢;generalize hS2:l.outs=os at hR ho hol;obtain⟨z,hz,hzs⟩:=qkw;have a:St W (qua (roles p b l) (qg (Zi Zk) qr1 m l.S) c x p b (A0 m) l (qi 3 1 X ids.length c3 (ids.map (Zi Zk))::Row u 32 [Zi Zk 0,Zi Zk conn,Zi Zk took,Zl Af (os.take 0).length 0]::evR o e::qb1 r 0 0 0::SlA 38 4 q21 Af 0 (os.take 0)::F)) w:=zf 0 16 (z0a (zf 0 12 a rfl)) rfl;refine qt3 (λn vs w=>∃(k:Nat) (q:Option Addr) (D:Nat),k+n=ids.length/\vs=[Zi Zk (k:Int)]/\St W (qua (roles p b l) (qg (Zi Zk) qr1 m l.S) c x p b (A0 m) l (qi 3 1 X ids.length c3 (ids.map (Zi Zk))::Row u 32 [Zi Zk 0,Zi Zk conn,Zi Zk took,Zl q (os.take k).length D]::evR o e::qb1 r 0 0 0::SlA 38 4 q21 q D (os.take k)::F)) w) λμ K I=>⟨⟨ids.length,0,Af,0,by omega,rfl,a⟩,λj w hI=>?_⟩;clear a;obtain⟨k,q,D,O,he,a⟩:=I _ _ hI;generalize μ _ _=n at O⊢;cases he;refine za (λh=>?_) λh=>?_
 .have Q:k<ids.length:=by have:=yC h;omega
  have hx:=A7 Q;generalize ids[k]=y at hx;have hoy:os[k]?=A0 ((qe l.S y).getD q93):=by rw[ho,Ag,hx];rfl
  have U:os.take (k+1)=os.take k++[(qe l.S y).getD q93]:=by rw[List.take_add_one,hoy];rfl
  refine z0f (z07 12 rfl λF=>z0i F) a rfl Q (v:=Zi Zk y) (by rw[Ag,hx];rfl) λad ha=>zy ha ⟨StC W _,zd a,z7 ⟨_,_,_,QtL.a 13 ir rfl rfl,_,z0b 0 ir rfl rfl,_,_,_,_,(λG w hw=>qq1 kI uMs iSe zSe 10 hw rfl y A1 (by rw[yA (by simp),qre];exact⟨_,_,_,_,rfl,rfl,hw⟩)),λA=>?_⟩⟩;generalize (qe l.S y).getD q93=d at U;have hle:=Aq k os;have hbd:((os.take k).length+[d].length)*Tryz.t38.bytes<=140737488355328:=by have:=bSe;simp only[Av,Ad];exact Nat.le_trans (Nat.mul_le_mul_left _ this) (by omega)
  have hbn:(os.take k).length+[d].length<=9223372036854775807:=by simp only[Av,Ad];omega
  refine zn (α:=Option Addr×Nat) (V:=λy=>.slice y.1 (os.take k++[d]).length y.2) (B:=λy=>Row A 38 (q21 d)::qua (roles p b l) (qg (Zi Zk) qr1 m l.S) c x p b (A0 m) l (qi 3 1 X ids.length c3 (ids.map (Zi Zk))::Row u 32 [Zi Zk 0,Zi Zk conn,Zi Zk took,Zl q (os.take k).length D]::evR o e::qb1 r 0 0 0::SlA 38 4 q21 y.1 y.2 (os.take k++[d])::F)) (Af,0) (ir.push A _) (λG w h=>?_) λy=>⟨_,_,_,rfl,trivial,?_⟩
  .have a:St W (Row A 38 (q21 d)::qua (roles p b l) (qg (Zi Zk) qr1 m l.S) c x p b (A0 m) l (qi 3 1 X ids.length c3 (ids.map (Zi Zk))::Row u 32 [Zi Zk 0,Zi Zk conn,Zi Zk took,Zl q (os.take k).length D]::evR o e::qb1 r 0 0 0::SlA 38 4 q21 q D (os.take k)::F++pts G)) w:=h.imp z0d;have key:=λFF hb h63=>qf3 (P:=Zp) (ty:=30) (F:=FF) (sT:=30) (xT:=30) (m:=1) (sc:=1) (sp:=A0 ⟨A,0,Af⟩) (f:=q21) (os:=os.take k) (xs:=[d]) q89 qlj (.inr ⟨_,qlj⟩) iSe sSe hz hzs 17 a rfl (z0x 0 λi v h=>by rw[Nat.zero_add];simpa using h) rfl qkm hb h63;exact key _ hbd hbn λp4 c4 w a=>⟨_,_,_,rfl,(p4,c4),rfl,a⟩
  .refine z0o 14 ir rfl (by simp) ⟨rfl,trivial,λG w h=>?_⟩;have N:∃(k':Nat) (q:Option Addr) (D:Nat),k'+(n - 1)=ids.length/\[Zi Zk (Zw Zk ((k:Int)+1))]=[Zi Zk (k':Int)]/\St W (qua (roles p b l) (qg (Zi Zk) qr1 m l.S) c x p b (A0 m) l (qi 3 1 X ids.length c3 (ids.map (Zi Zk))::Row u 32 [Zi Zk 0,Zi Zk conn,Zi Zk took,Zl q (os.take k').length D]::evR o e::qb1 r 0 0 0::SlA 38 4 q21 q D (os.take k')::F)) w:=⟨k+1,y.1,y.2,by omega,by rw[up Q (by omega)],by rw[U];exact(zb h).drop⟩;exact qz5 K (by omega) N
 have hk2:os.take k=os:=A2 (by have:=yD h;omega);rw[hk2]at a;refine z8 13 a rfl rfl (z8 13 a rfl rfl (z8 13 a rfl rfl (zt 13 a rfl rfl ?_)));refine St1.zz 15 a rfl λw a=>St1.zz 15 a rfl λw a=>St1.zz 15 a rfl λw a=>St1.zz 15 a rfl λw a=>?_;refine z8 15 a rfl rfl (z8 15 a rfl rfl (z8 15 a rfl rfl (zt 15 a rfl rfl (hR _ _ ⟨b,A0 m,q,D,rfl,?_⟩))));have a:=z11 10 a rfl (qs2.of E);exact(((a.del 12 rfl).del 12 rfl).del 12 rfl).del 12 rfl
end
end
section
def qfm:List UInt8:=[115,117,98,119,97,121]
def Bk.new(c:qy):Bk:=⟨[],q39 c.tens,⟨c.grace,c.lease,0,[]⟩,[],⟨qfm,0,[]⟩,⟨[],[]⟩,⟨[],0⟩,⟨0,[]⟩,[],[],[]⟩
def q9x(ts:List qa4):∀y∈q39 ts,y.2.t∈ts:=by
 have key:∀(l:List qa4) (O:qz8) (P:qa4->Prop),(∀y∈O,P y.2.t)->(∀t∈l,P t)->∀y∈l.foldl (λO t=>qk O t.name (qhd t)) O,P y.2.t:=λl=>by
  induction l with
  |nil=>exact λO P h _=>h
  |cons t l ih=>
   intro O P c b;refine ih _ P (λy w=>?_) λt a=>b t (Aa _ a);rcases qh8 w with rfl|w;.exact b t Ae
   .exact c y w
 exact key ts [] (·∈ts) (λy w=>by cases w) λt a=>a
def q3r{c:qy}(h:qj6 c=A9):(qa6 c.grace&&qa6 c.lease)=A9:=by
 unfold qj6 at h;by_cases w:(q28 c).all (λn=>q17 n 1 1073741824)=A9
 .unfold q28 q17 at w;simp only[Am,List.all_cons,yJ]at w;unfold qa6;simp only[Am,yJ];omega
 .rw[yB (by simpa using w)]at h;cases h
section
variable{W w:World}{F l:List Asn}{c:qy}{x m2 o:Nat}{p:qm3}{pl:List Nat}{sn:Option Nat}{s s':Bk}
def qoa{C:Cls}{l:List Asn}{b t:Nat}(k:Nat)(e:Is W C l)(n:nth l k=A0 (Row b t (qx3 c))):
 Qt C (Zg (qx3 c).toArray) λw K=>LdI Zk (Za ⟨b,0,Af⟩ 0) w λj=>LdI Zk (Za ⟨b,0,Af⟩ 1) w λf=>LdI Zk (Za ⟨b,0,Af⟩ 2) w λi=>LdI Zk (Za ⟨b,0,Af⟩ 3) w λo=>LdL (Za ⟨b,0,Af⟩ 4) w λm g d=>K (Zg #[Zi Zk j,Zi Zk f,Zi Zk i,Zi Zk o,Zl m g d]) w:=λG w h=>by
 have a:=e.at k n h;exact z8 0 a rfl rfl (z8 0 a rfl rfl (z8 0 a rfl rfl (z8 0 a rfl rfl (zt 0 a rfl rfl ⟨rfl,h⟩))))
def Ef.mk{P:Program}{f:FuncId}{args:Array Ak}{C:Cls}{Φ:Ak->As->(Ak->As->Prop)->Prop}{K:Ak->Cls->Prop}{A:Nat->Asn}(d:Is W C l)
 (a:∀G w,St W (l++pts G) w->qb P f args w λv w'=>∃b,v=qc b/\St W (A b::(l++pts G)) w')
 (c:∀b w' (K:Ak->As->Prop),K (qc b) w'->Φ (qc b) w' K) (g:∀b,K (qc b) (StC W (A b::l))):Ef C (λw K=>qb P f args w λv w'=>Φ v w' K) K:=
 zn (α:=Nat) (V:=λb=>qc b) (B:=λb=>A b::l) 0 d (λG w h=>(a G w h).of λv w' ⟨b,e,h⟩=>by subst e;exact c b w' _ ⟨b,rfl,h⟩) g
set_option maxHeartbeats 1000000 in
def qwt(i:ql1 F c)(a:St W F w):qb Zp 12 #[Zg (qx3 c).toArray] w λv w'=>(qj6 c=A1/\v=Zq Af/\St W F w')\/(qj6 c=A9/\∃x p,v=qc x/\St W (brk c x p [] Af (Bk.new c) F) w'):=by
 refine F12_of (zh a λB w a=>z8 0 a rfl rfl (z8 0 a rfl rfl (z8 0 a rfl rfl (z8 0 a rfl rfl (zt 0 a rfl rfl ((q4d (i.cons _) a).of λv w ⟨d,a⟩=>⟨_,d,za (λh=>.inl ⟨by simpa using h,rfl,a.drop⟩) λh=>?_⟩))))));have f:qj6 c=A9:=by simpa using h
 refine⟨StC W _,zd a,_,_,_,_,_,_,_,qoa 0 ir rfl,_,_,_,_,_,_,_,qoa 0 ir rfl,_,_,_,_,_,_,_,qoa 0 ir rfl,_,zj 0 ir rfl rfl,_,zj 0 ir rfl rfl,?_⟩;refine Ef.mk (A:=λb=>qg1 b c []) ir (λG w h=>(q4u ((i.app (pts G)).cons _) h).of λv w d=>?_) (λ_ _ _ h=>⟨_,rfl,h⟩) λk=>⟨_,rfl,⟨zj 1 ir rfl rfl,zj 1 ir rfl rfl,qoa 1 ir rfl,qoa 1 ir rfl⟩,?_⟩
 .rcases d with ⟨e,_⟩|⟨_,b,d,h⟩
  .rw[f]at e;cases e
  .exact⟨b,d,h⟩
 refine Ef.mk (A:=λb=>qv2 b (q39 c.tens)) ir (λG w h=>(qbu (((i.app (pts G)).cons _).cons _) h).of λv w d=>?_) (λ_ _ _ h=>⟨_,rfl,h⟩) λo=>⟨_,rfl,⟨zj 2 ir rfl rfl,zj 2 ir rfl rfl,qoa 2 ir rfl⟩,?_⟩
 .rcases d with ⟨e,_⟩|⟨_,b,d,h⟩
  .rw[f]at e;cases e
  .exact⟨b,d,h⟩
 refine Ef.mk (A:=λb=>q41 b ⟨c.grace,c.lease,0,[]⟩) ir (λG w h=>(qst c.grace c.lease h).of λv w d=>?_) (λ_ _ _ h=>⟨_,rfl,h⟩) λt=>⟨_,rfl,qoa 3 ir rfl,?_⟩
 .rcases d with ⟨e,_⟩|⟨_,b,d,h⟩
  .rw[q3r f]at e;cases e
  .exact⟨b,d,h⟩
 refine Ef.mk (A:=λb=>Qu.QueueA b []) ir (λG w h=>Qu.New_spec h) (λ_ _ _ h=>⟨_,rfl,h⟩) λu=>⟨_,rfl,qoa 4 ir rfl,?_⟩;refine Ef.mk (A:=λb=>q03 b ⟨qfm,0,[]⟩) ir (λG w h=>q5t qfm (by decide) h) (λ_ _ _ h=>⟨_,rfl,h⟩) λr=>⟨_,rfl,qoa 5 ir rfl,?_⟩;refine Ef.mk (A:=λb=>q13 b ⟨[],[]⟩) ir (λG w h=>PNew_spec h) (λ_ _ _ h=>⟨_,rfl,h⟩) λm=>⟨_,rfl,qoa 6 ir rfl,?_⟩;refine Ef.mk (A:=λb=>Cn.TabA b ⟨[],0⟩) ir (λG w h=>Cn.New_spec h) (λ_ _ _ h=>⟨_,rfl,h⟩) λn=>⟨_,rfl,qoa 7 ir rfl,?_⟩;refine Ef.mk (A:=λb=>Ck.ClockA b ⟨0,[]⟩) ir (λG w h=>Ck.New_spec h) (λ_ _ _ h=>⟨_,rfl,h⟩) λq=>⟨_,rfl,qoa 8 ir rfl,λj bx G w h=>?_⟩;have a:=((ir.push j _).push bx _).ends h;clear h;have a:=a.imp z0d;refine .inr ⟨f,bx,⟨k,o,t,u,r,m,n,q,j⟩,rfl,?_⟩;have a:=zo 11 [1,0,9,8,7,6,5,4,3,2] a rfl;have a:=(a.imp λh s=>qg.of_pt (ν:=Nat) (Zi Zk) qc s);have a:=z19 (A:=qo2 k []) (L:=[]) [] rfl (zk (l:=[]) a).p1;have a:=qg5.shut (q9x c.tens) (zf 3 0 a rfl);have a:St W (qa5 [] []::_) w:=zk (l:=[_,_]) (z02 rfl (zk (l:=[]) a));have g:qb3 ⟨[],0⟩ []:=⟨λid=>by rw[qsf];omega,λy z=>by cases z⟩;have a:St W (qs2 Af ⟨[],0⟩ []::_) w:=zk (l:=[_,_]) (z02 g (z02 rfl a));exact zo 12 [4,5,2,6,7,8,9,10,11,3,0,1] a rfl
def qlo(b:s.P.ends.length<=1000000)(h:St W (brk c x p pl sn s F) w):qb Zp 16 #[qc x] w λv w'=>∃q a,v=Zl q (qw4 s.P).length a/\St W (brk c x p pl sn s (SlA 122 2 (q52 (qb4 s.P)) q a (qw4 s.P)::F)) w':=
 F16_of (z7 (z0r 0 h rfl rfl ((qfk b (h.at 6 rfl)).of λv w ⟨q,a,d,h⟩=>⟨_,_,_,d,q,a,rfl,z12 12 (zf 1 7 h rfl)⟩)))
def qws(a:St W (brk c x p pl sn s F) w):qb Zp 31 #[qc x] w λv w'=>v=Zi Zk s.K.now/\St W (brk c x p pl sn s F) w':=
 F31_of (z7 (z0r 0 a rfl rfl (qb.p 8 a rfl (λh=>Ck.Now_spec h) λw a=>⟨_,rfl,rfl,a⟩)))
end
end
section
def qal(w:Ri.Way):Prop:=Zw Zk w.moved=w.moved
def qrr(z:Ri.PS):Prop:=qal z.w0/\qal z.w1
def ql3(N:Cn.CT)(id j:Int)(g:Cn.CnD->Cn.CnD):qe (N.upd id g).L j=if id=j then(qe N.L j).map g else qe N.L j:=by
 unfold Cn.CT.upd;cases h:qe N.L id with
 |none=>
  simp only;split;.rename_i e;subst e;rw[h];rfl
  .rfl
 |some d=>
  simp only;rw[qh2];split;.rename_i e;subst e;rw[h];rfl
  .rfl
def upd_id{N:Cn.CT}{id:Int}{g:Cn.CnD->Cn.CnD}(h:∀d,qe N.L id=A0 d->g d=d):N.upd id g=N:=by
 unfold Cn.CT.upd;split;.rfl
 .rename_i d w;rw[h d w,qt1 w]
section
variable{m:Int}{N:Cn.CT}{R:List (Int×q31)}{P:qd6}{ps:List Ri.PS}{Q:Qu.QG}{T:TkB}{S:List (Int×q81)}{id:Int}
def qub{d:Cn.CnD}(h:0<=d.credit/\d.credit<=1073741824):(Cn.gFlush d).credit=d.credit -((Cn.rFlush d).length:Int)/\((Cn.rFlush d).length:Int)<=d.credit:=by
 have w:(Cn.rFlush d).length<=d.credit.toNat:=by unfold Cn.rFlush;rw[Aw];omega
 refine⟨?_,by omega⟩;show Zw Zk _=_;exact w64
end
end
section
def qi8{α:Type}:∀{l:List α} {k:Nat},l.take k=[]->l.drop k=l
 |[],k,_=>by simp
 |a::r,0,_=>rfl
 |a::r,k+1,h=>by simp at h
structure RQ(s:Bk)(f t:q31)(i:Nat)(z:Ri.PS):Prop where
 pump:f.pump=A0 i
 at_:s.pumps[i]?=A0 z
 ok:qrr z
 inn:(s.N.ask f.conn [] λd=>d.inb.take (z.room 256 f.side))=[]
 zz:(((s.N.ask f.conn 0 (λd=>(d.inb.length:Int))==0)&&s.N.ask f.conn A1 λd=>d.ended)&&z.hears f.side)=A1
 out:z.outB t.side (s.N.ask t.conn 0 λd=>((1024 - d.out.length:Nat):Int))=[]
 en:z.outE t.side (s.N.ask t.conn 0 λd=>((1024 - d.out.length:Nat):Int))=A1
def qdg(w:Ri.Way)(m:Nat):w.add m []=w:=by unfold Ri.Way.add;simp
def qds(z:Ri.PS)(m:Nat)(n:Int):z.in_ m n []=z:=by
 unfold Ri.PS.in_;split
 .rw[qdg,qdg];split<;>rfl
 .rfl
def qig{w:Ri.Way}{k:Int}(b:qal w)(h:w.bs.take k.toNat=[])(a:w.end_ k=A1):w.out k=w:=by
 unfold Ri.Way.out;rw[h,a,qi8 h];have:Zw Zk (w.moved+((([]:List UInt8).length:Nat):Int))=w.moved:=by rw[Ad];exact(by rw[show w.moved+((0:Nat):Int)=w.moved by omega];exact b)
 rw[this,Bool.or_false]
def q4q{z:Ri.PS}{n k:Int}(c:qrr z)(w:z.outB n k=[])(a:z.outE n k=A1):z.out n k=z:=by
 unfold Ri.PS.out;unfold Ri.PS.outB at w;unfold Ri.PS.outE at a;split
 .rename_i h;rw[yB h]at w;simp only[h,Aj]at a;have d:z.broken=A1:=by
   have:(!z.broken)=A9:=by rw[Am]at h;exact h.2
   simpa using this
  unfold Ri.PS.to at w a;split
  .rename_i b;rw[yB b]at w a;rw[qig c.2 w a,<-d]
  .rename_i b;rw[yA b]at w a;rw[qig c.1 w a,<-d]
 .rfl
def qwe{α:Type}:∀{l:List α} {i:Nat} {z:α},l[i]?=A0 z->l.set i z=l
 |[],i,z,h=>by simp at h
 |a::r,0,z,h=>by simp at h;subst h;rfl
 |a::r,i+1,z,h=>by
  have:r[i]?=A0 z:=by simpa using h
  rw[List.set_cons_succ,qwe this]
def qvv(d:Cn.CnD):Cn.gSay [] d=d:=by
 unfold Cn.gSay;split;.rw[List.append_nil]
 .rfl
def qyg(s:Bk)(id:Int){g:Cn.CnD->Cn.CnD}(h:∀d,qe s.N.L id=A0 d->g d=d):s.upd id g=s:=by unfold Bk.upd;rw[upd_id h]
def q54{N:Cn.CT}{id:Int}{α:Type}{z:α}{r:Cn.CnD->α}{d:Cn.CnD}(h:qe N.L id=A0 d):N.ask id z r=r d:=by unfold Cn.CT.ask;rw[h]
section
variable{c:qy}{s s':Bk}{f t t':q31}{i:Nat}{z:Ri.PS}{r:q31}{id:Int}{a:Bool}
def RQ.relay(h:RQ s f t i z):s.relay c f t=A0 (s,t,A1):=by
 unfold Bk.relay;rw[h.pump];dsimp only;rw[h.at_];dsimp only;rw[Int.toNat_natCast,h.inn];unfold Bk.relayA;have e:s.upd f.conn (Cn.gRest ((z.room 256 f.side:Nat):Int))=s:=qyg s _ λd w=>by have:=h.inn;rw[q54 w]at this;unfold Cn.gRest;rw[Int.toNat_natCast,qi8 this]
 rw[e,qds];unfold Bk.relayB Bk.relayC;rw[h.zz];have b:(if((s.N.ask f.conn 0 (λd=>(d.inb.length:Int))==0)&&s.N.ask f.conn A1 λd=>d.ended)=A9 then z.end_ f.side else z)=z:=by
  split
  .rename_i a;have:=h.zz;rw[a,Aj]at this;unfold Ri.PS.end_;rw[yA (by rw[this];simp)]
  .rfl
 rw[b];unfold Bk.relayD;rw[h.out,h.en,q4q h.ok h.out h.en];unfold Bk.relayE;rw[qyg s t.conn (λd _=>qvv d),qwe h.at_];simp
structure FQ(s:Bk)(r:q31):Prop where
 went:s.N.ask r.conn [] Cn.rFlush=[]
 en:(r.due&&(s.N.ask r.conn 0 (λd=>(d.out.length:Int))==0))=A1
def qbo{d:Cn.CnD}(c:0<=d.credit/\d.credit<=1073741824)(h:Cn.rFlush d=[]):Cn.gFlush d=d:=by have w:=(qub c).1;rw[h]at w;obtain⟨ad,f,b,cr,en⟩:=d;have e:b.take cr.toNat=[]:=h;have a:=qi8 e;unfold Cn.gFlush at w⊢;rw[h];rw[h]at w;simp only at w a⊢;rw[a,w];simp
def FQ.flush(h:FQ s r)(c:∀d,qe s.N.L r.conn=A0 d->0<=d.credit/\d.credit<=1073741824)(a:qe s.roles id=A0 r):s.flush id=A0 (s,A1):=by
 have b:s.upd r.conn Cn.gFlush=s:=qyg s _ λd w=>qbo (c d w) (by have:=h.went;rwa[q54 w]at this)
 have f:s.flushE r=A1:=by have:=h.en;unfold Bk.flushE;have e:s.N.upd r.conn Cn.gFlush=s.N:=yE Bk.N b;rw[e];exact this
 unfold Bk.flush;rw[a];simp only;rw[f,h.went];unfold Bk.flushS Bk.send;rw[b,h.went];unfold Bk.put Bk.flushR;rw[yA (by simp),qt1 a];rfl
end
end
section
structure qv9(d:Cn.CnD):Prop where
 inb:d.inb=[]
 out:d.out=[]
 ended:d.ended=A1
 cr0:0<=d.credit
 cr1:d.credit<=1073741824
structure qlh(w:Ri.Way):Prop where
 bs:w.bs=[]
 ended:w.ended=A1
 told:w.told=A1
 ok:qal w
structure qb7(z:Ri.PS):Prop where
 w0:qlh z.w0
 w1:qlh z.w1
 br:z.broken=A1
structure qz9(s:Bk)(id:Int)(side:Int)(i:Nat)(r:q31):Prop where
 get:qe s.roles id=A0 r
 conn:r.conn=id
 kind:r.kind=4
 pump:r.pump=A0 i
 side:r.side=side
 due:r.due=A1
 said:r.said=A1
structure qlc(s:Bk)(v k:Int)(i:Nat):Prop where
 rv:∃r,qz9 s v 0 i r
 rk:∃r,qz9 s k 1 i r
 dv:∃d,qe s.N.L v=A0 d/\qv9 d
 dk:∃d,qe s.N.L k=A0 d/\qv9 d
 z:∃z,s.pumps[i]?=A0 z/\qb7 z
def q0u(n:Int):Zw Zk (Zw Zk n)=Zw Zk n:=by
 have h: -9223372036854775808<=Zw Zk n/\Zw Zk n<=9223372036854775807:=by unfold Zw;simp only[IntKind.signed,IntKind.bits];simp;split<;>omega
 exact w64 h.1 h.2
def qfu{N:Cn.CT}{id:Int}{g w:Cn.CnD->Cn.CnD}(h:∀d,qe N.L id=A0 d->g d=w d):N.upd id g=N.upd id w:=by
 unfold Cn.CT.upd;split;.rfl
 .rename_i d a;rw[h d a]
def qlh.end_{w:Ri.Way}(h:qlh w)(k:Int):w.end_ k=A1:=by unfold Ri.Way.end_;rw[h.ended];rfl
def qb7.ok{z:Ri.PS}(h:qb7 z):qrr z:=⟨h.w0.ok,h.w1.ok⟩
def qb7.outB{z:Ri.PS}(h:qb7 z)(n k:Int):z.outB n k=[]:=by
 unfold Ri.PS.outB Ri.PS.to;split
 .split;.rw[h.w1.bs];simp
  .rw[h.w0.bs];simp
 .rfl
def qb7.outE{z:Ri.PS}(h:qb7 z)(n k:Int):z.outE n k=A1:=by
 unfold Ri.PS.outE Ri.PS.to;split;.rw[h.w1.end_];simp
 .rw[h.w0.end_];simp
section
variable{c:qy}{s s':Bk}{f t t':q31}{i:Nat}{z:Ri.PS}{r:q31}{id v k:Int}{a:Bool}
def qzf{d:Cn.CnD}(c:f.pump=A0 i)(a:s.pumps[i]?=A0 z)(w:qb7 z)(h:qe s.N.L f.conn=A0 d)(e:d.inb=[])(b:d.ended=A1):RQ s f t i z where
 pump:=c
 at_:=a
 ok:=w.ok
 inn:=by rw[q54 h,e];simp
 zz:=by rw[q54 h,q54 h,b];simp
 out:=w.outB _ _
 en:=w.outE _ _
def qlc.relays(h:qlc s v k i)(b:v≠k)(fl:Bool):Bk.relays c (s,fl) (v,k)=A0 (s,fl):=by obtain⟨rv,a⟩:=h.rv;obtain⟨rk,w⟩:=h.rk;obtain⟨dv,d,g⟩:=h.dv;obtain⟨dk,e,f⟩:=h.dk;obtain⟨z,j,l⟩:=h.z;unfold Bk.relays;rw[yA b];simp only;rw[a.get,w.get];simp only;rw[(qzf a.pump j l (by rw[a.conn];exact d) g.inb g.ended:RQ s rv rk i z).relay];simp only;rw[(qzf w.pump j l (by rw[w.conn];exact e) f.inb f.ended:RQ s rk rv i z).relay];simp only[Bk.put];rw[qt1 w.get,qt1 a.get];simp
def qut{df dt:Cn.CnD}{Y:List UInt8}(U:f.pump=A0 i)(O:s.pumps[i]?=A0 z)(h:qb7 z)(C:f.conn≠t.conn)(n:qe s.N.L f.conn=A0 df)(D:qe s.N.L t.conn=A0 dt)
 (J:df.inb=Y) (F:Y≠[]) (P:df.ended=A1) (q:dt.out=[]) (K:f.side=0/\t.side=1\/f.side=1/\t.side=0) (I:t.due=A1):
 ∃p k,s.relay c f t=A0 (p,t,A9)/\qb7 k/\p.pumps=s.pumps.set i k/\p.roles=s.roles/\p.P=s.P/\p.S=s.S/\p.N=(s.N.upd f.conn λd=>{ d with inb:=Y.drop 256}).upd t.conn (λd=>{ d with out:=Y.take 256}):=by
 have H:z.hears f.side=A9:=by
  unfold Ri.PS.hears Ri.PS.at Ri.sideB;rcases K with ⟨l,_⟩|⟨l,_⟩
  .rw[l,h.br,yB rfl,h.w0.ended];rfl
  .rw[l,h.br,yA (by decide),h.w1.ended];rfl
 have g:z.room 256 f.side=256:=by
  unfold Ri.PS.room;rw[yB H];have:(z.at f.side).bs=[]:=by
   unfold Ri.PS.at;split;.exact h.w0.bs
   .exact h.w1.bs
  rw[this];rfl
 unfold Bk.relay;rw[U];dsimp only;rw[O];dsimp only;rw[g,q54 n,J];have o:(Y.take 256).length<=256:=Aq _ _;obtain⟨inn,w⟩:∃inn,inn=Y.take 256:=⟨_,rfl⟩;have m:inn≠[]:=by
  rw[w];cases Y with
  |nil=>exact yI rfl F
  |cons a r=>simp
 rw[show((256:Nat):Int).toNat=256 from rfl,<-w];rw[<-w]at o;unfold Bk.relayA;have Q:s.upd f.conn (Cn.gRest ((z.room 256 f.side:Nat):Int))={ s with N:=s.N.upd f.conn λd=>{ d with inb:=Y.drop 256} }:=by unfold Bk.upd;congr 1;unfold Cn.CT.upd;rw[n];simp only;rw[g];unfold Cn.gRest;rw[J];rfl
 rw[Q];unfold Bk.relayB;have v:qe (s.N.upd f.conn λd=>{ d with inb:=Y.drop 256}).L f.conn=A0 { df with inb:=Y.drop 256}:=by rw[ql3,yB rfl,n];rfl
 have A:qe (s.N.upd f.conn λd=>{ d with inb:=Y.drop 256}).L t.conn=A0 dt:=by rw[ql3,yA C,D]
 simp only;rw[q54 v,q54 v];simp only;rw[P,Bool.and_false];unfold Bk.relayC;simp only[Bool.false_and,Bool.false_eq_true,if_false];rw[q54 A,q]
 -- what is in the pump
 obtain⟨k,B⟩:∃k,k=z.in_ 256 f.side inn:=⟨_,rfl⟩;rw[<-B];have R:((1024 -([]:List UInt8).length:Nat):Int)=1024:=rfl;rw[R];have e:k.outB t.side 1024=inn/\k.outE t.side 1024=A1/\qb7 (k.out t.side 1024):=by
  rw[B];unfold Ri.PS.in_;rw[yB H];have M:=h.br;have y:inn.take (256 - 0)=inn:=A2 (by omega);have j:inn.take (1024:Int).toNat=inn:=A2 (by show inn.length<=1024;omega);have u:inn.drop (1024:Int).toNat=[]:=An (by show inn.length<=1024;omega);have L:=q0u;rcases K with ⟨l,E⟩|⟨l,E⟩
  .rw[yB l,E];have b:z.w0.add 256 inn={ z.w0 with bs:=inn}:=by unfold Ri.Way.add;rw[h.w0.bs,Ad,y,Ao]
   rw[b];unfold Ri.PS.outB Ri.PS.outE Ri.PS.out Ri.PS.to Ri.sideB;rw[M];simp only[show((1:Int)==0||(1:Int)==1)=A9 from rfl,B1,B2,if_true,show ¬(1:Int)=0 by decide,if_false,Aj];refine⟨j,?_,?_,h.w1,rfl⟩;.unfold Ri.Way.end_;rw[h.w0.ended];rfl
   .refine⟨u,h.w0.ended,?_,L _⟩;unfold Ri.Way.out Ri.Way.end_;rw[h.w0.told,h.w0.ended];rfl
  .rw[yA (by rw[l];decide),E];have b:z.w1.add 256 inn={ z.w1 with bs:=inn}:=by unfold Ri.Way.add;rw[h.w1.bs,Ad,y,Ao]
   rw[b];unfold Ri.PS.outB Ri.PS.outE Ri.PS.out Ri.PS.to Ri.sideB;rw[M];simp only[show((0:Int)==0||(0:Int)==1)=A9 from rfl,B1,B2,if_true,Aj];refine⟨j,?_,h.w0,?_,rfl⟩;.unfold Ri.Way.end_;rw[h.w1.ended];rfl
   .refine⟨u,h.w1.ended,?_,L _⟩;unfold Ri.Way.out Ri.Way.end_;rw[h.w1.told,h.w1.ended];rfl
 unfold Bk.relayD;rw[e.1,e.2.1];unfold Bk.relayE;have T:0<inn.length:=List.length_pos_iff.2 m;have x:decide ((inn.length:Int)+(inn.length:Int)>0)=A9:=yG (by omega);refine⟨_,_,yE A0 (Prod.ext rfl (Prod.ext ?_ ?_)),e.2.2,rfl,rfl,rfl,rfl,?_⟩;.simp
 .simp[x]
 .show(s.N.upd f.conn λd=>{ d with inb:=Y.drop 256}).upd t.conn (Cn.gSay inn)=_;refine qfu λd G=>?_;rw[A]at G;cases G;unfold Cn.gSay;rw[q,yB (by simp;omega),Ao,w]
end
end
section
def qkb{α σ:Type}(f:σ->α->Option σ):∀(l m:List α) (s w:σ),qw1 f s l=A0 w->qw1 f s (l++m)=qw1 f w m
 |[],m,s,w,h=>by cases h;rfl
 |a::r,m,s,w,h=>by
  have e:∀l,qw1 f s (a::l)=match f s a with|none=>Af|some s=>qw1 f s l:=λ_=>rfl
  rw[List.cons_append,e];rw[e]at h;cases hf:f s a with
  |none=>rw[hf]at h;cases h
  |some t=>rw[hf]at h;exact qkb f r m t w h
def ql9{α σ:Type}(f:σ->α->Option σ):∀(l:List α) (s:σ),(∀x∈l,f s x=A0 s)->qw1 f s l=A0 s
 |[],s,_=>rfl
 |a::r,s,h=>by unfold qw1;rw[h a Ae];exact ql9 f r s λx w=>h x (Aa _ w)
structure qja(s:Bk)(ps:List (Int×Int×Nat))(f t:Int)(i:Nat)(Y:List UInt8)(C:Nat):Prop where
 all:qtc s.P=ps.map λy=>(y.1,y.2.1)
 lenP:s.P.ends.length<=1000000
 lenN:s.N.L.length<=1000000
 nN:(s.N.L.map (·.1)).Nodup
 nd:(ps.flatMap λy=>[y.1,y.2.1]).Nodup
 ndz:(ps.map (·.2.2)).Nodup
 mem:(f,t,i)∈ps\/(t,f,i)∈ps
 oth:∀y∈ps,y.2.2≠i->qlc s y.1 y.2.1 y.2.2
 rf:∃r,qz9 s f (if(f,t,i)∈ps then 0 else 1) i r
 rt:∃r,qz9 s t (if(f,t,i)∈ps then 1 else 0) i r
 df:∃d,qe s.N.L f=A0 d/\d.inb=Y/\d.out=[]/\d.ended=A1/\0<=d.credit/\d.credit<=1073741824/\(C:Int)<=d.credit
 dt:∃d,qe s.N.L t=A0 d/\qv9 d/\(C:Int)<=d.credit
 z:∃z,s.pumps[i]?=A0 z/\qb7 z
 fq:∀id∈s.N.L.map (·.1),id≠f->id≠t->∃r,qe s.roles id=A0 r/\r.conn=id/\FQ s r
 cred:∀id d,qe s.N.L id=A0 d->0<=d.credit/\d.credit<=1073741824
structure q1b(s s':Bk)(f t:Int):Prop where
 P:s'.P=s.P
 roles:s'.roles=s.roles
 keys:s'.N.L.map (·.1)=s.N.L.map (·.1)
 N:∀j,j≠f->j≠t->qe s'.N.L j=qe s.N.L j
def q1b.refl(s:Bk)(f t:Int):q1b s s f t:=⟨rfl,rfl,rfl,λ_ _ _=>rfl⟩
def q1b.trans{s t u:Bk}{f k:Int}(h:q1b s t f k)(g:q1b t u f k):q1b s u f k:=⟨g.P.trans h.P,g.roles.trans h.roles,g.keys.trans h.keys,λj a w=>(g.N j a w).trans (h.N j a w)⟩
def q2e(N:Cn.CT)(id:Int)(g:Cn.CnD->Cn.CnD):(N.upd id g).L.map (·.1)=N.L.map (·.1):=by
 unfold Cn.CT.upd;split;.rfl
 .rename_i d h;rw[qha,yA (by rw[h];simp)]
def qlc.of{s s':Bk}{v k:Int}{i:Nat}(h:qlc s v k i)(w:s'.roles=s.roles)(b:qe s'.N.L v=qe s.N.L v)(a:qe s'.N.L k=qe s.N.L k)(c:s'.pumps[i]?=s.pumps[i]?):qlc s' v k i where
 rv:=by obtain⟨r,h⟩:=h.rv;exact⟨r,by rw[w];exact h.get,h.conn,h.kind,h.pump,h.side,h.due,h.said⟩
 rk:=by obtain⟨r,h⟩:=h.rk;exact⟨r,by rw[w];exact h.get,h.conn,h.kind,h.pump,h.side,h.due,h.said⟩
 dv:=by rw[b];exact h.dv
 dk:=by rw[a];exact h.dk
 z:=by rw[c];exact h.z
def qz9.of{s s':Bk}{id sd:Int}{i:Nat}{r:q31}(h:qz9 s id sd i r)(w:s'.roles=s.roles):qz9 s' id sd i r:=⟨by rw[w];exact h.get,h.conn,h.kind,h.pump,h.side,h.due,h.said⟩
section
variable{c:qy}{s s':Bk}{ps:List (Int×Int×Nat)}{f t:Int}{i:Nat}{Y:List UInt8}{C:Nat}
def qkc{ps:List (Int×Int×Nat)}(nd:(ps.flatMap λy=>[y.1,y.2.1]).Nodup){y:Int×Int×Nat}(h:y∈ps):y.1≠y.2.1:=by obtain⟨a,b,rfl⟩:=A5 h;rw[Ar,Au]at nd;have:=(A6.1 nd).2.1;have:=(A6.1 this).1;simp at this;exact this
def qwd{ps:List (Int×Int×Nat)}(nd:(ps.flatMap λy=>[y.1,y.2.1]).Nodup){a b:List (Int×Int×Nat)}{y:Int×Int×Nat}(g:ps=a++y::b):∀x∈a++b,x.1≠y.1/\x.1≠y.2.1/\x.2.1≠y.1/\x.2.1≠y.2.1:=by
 subst g;rw[Ar,Au]at nd;have h:=A6.1 nd;have i:=A6.1 h.2.1;have f:∀z,z=y.1\/z=y.2.1->z∈[y.1,y.2.1]:=λz c=>by simp;exact c
 intro x w;rcases A8.1 w with w|w
 .have key:∀u,u=x.1\/u=x.2.1->∀z,z=y.1\/z=y.2.1->u≠z:=λu d z c=>h.2.2 u (Ax.2 ⟨x,w,by simp;exact d⟩) z (A3 _ (f z c));exact⟨key _ (.inl rfl) _ (.inl rfl),key _ (.inl rfl) _ (.inr rfl),key _ (.inr rfl) _ (.inl rfl),key _ (.inr rfl) _ (.inr rfl)⟩
 .have key:∀u,u=x.1\/u=x.2.1->∀z,z=y.1\/z=y.2.1->u≠z:=λu d z c e=>i.2.2 z (f z c) u (Ax.2 ⟨x,w,by simp;exact d⟩) e.symm;exact⟨key _ (.inl rfl) _ (.inl rfl),key _ (.inl rfl) _ (.inr rfl),key _ (.inr rfl) _ (.inl rfl),key _ (.inr rfl) _ (.inr rfl)⟩
def q6k{ps:List (Int×Int×Nat)}(nd:(ps.map (·.2.2)).Nodup){a b:List (Int×Int×Nat)}{y:Int×Int×Nat}(c:ps=a++y::b):∀x∈a++b,x.2.2≠y.2.2:=by
 subst c;rw[Az,B3]at nd;have h:=A6.1 nd;intro x w;rcases A8.1 w with w|w;.exact h.2.2 _ (Ab.2 ⟨x,w,rfl⟩) _ Ae
 .exact λe=>(B0.1 h.2.1).1 (Ab.2 ⟨x,w,e⟩)
def qja.ft(h:qja s ps f t i Y C):f≠t:=by
 rcases h.mem with w|w;.exact qkc h.nd w
 .exact λe=>qkc h.nd w e.symm
def qtr(h:qja s ps f t i Y C)(hY:Y≠[]):∃g M,qw1 (Bk.relays c) (s,A1) (qtc s.P)=A0 (g,A9)/\qb7 M/\g.pumps=s.pumps.set i M/\g.roles=s.roles/\g.P=s.P/\g.S=s.S/\
 g.N=(s.N.upd f λd=>{ d with inb:=Y.drop 256}).upd t (λd=>{ d with out:=Y.take 256}):=by
 obtain⟨rf,r⟩:=h.rf;obtain⟨rt,k⟩:=h.rt;obtain⟨df,h5,y1,y2,y3,_⟩:=h.df;obtain⟨dt,H,ti,_⟩:=h.dt;obtain⟨z,O,zi⟩:=h.z;have o:=h.ft;have h0:i<s.pumps.length:=by
  rcases Nat.lt_or_ge i s.pumps.length with h|h;.exact h
  .rw[Ap h]at O;cases O
 obtain⟨g,M,B,L,I,l,T,U,v⟩:=qut (c:=c) r.pump O zi (by rw[r.conn,k.conn];exact o) (by rw[r.conn];exact h5) (by rw[k.conn];exact H) y1 hY y3 ti.out (by rw[r.side,k.side];split<;>simp) k.due;rw[r.conn,k.conn]at v;have h6:g.pumps[i]?=A0 M:=by rw[I,Ah,yB rfl,yB h0]
 have X:qe g.N.L t=A0 { dt with out:=Y.take 256}:=by rw[v,ql3,yB rfl,ql3,yA o,H];rfl
 have D:∀j,j≠f->j≠t->qe g.N.L j=qe s.N.L j:=λj K J=>by rw[v,ql3,yA (λe=>J e.symm),ql3,yA (λe=>K e.symm)]
 refine⟨g,M,?_,L,I,l,T,U,v⟩;obtain⟨y,hy,p⟩:∃y∈ps,y.2.2=i/\(y.1=f/\y.2.1=t\/y.1=t/\y.2.1=f):=by
  rcases h.mem with W|W;.exact⟨_,W,rfl,.inl ⟨rfl,rfl⟩⟩
  .exact⟨_,W,rfl,.inr ⟨rfl,rfl⟩⟩
 obtain⟨a,b,q⟩:=A5 hy;have Z:=qwd h.nd q;have A:=q6k h.ndz q;have V:∀x∈a++b,x.1≠f/\x.1≠t/\x.2.1≠f/\x.2.1≠t:=λx n=>by
  obtain⟨K,J,P,R⟩:=Z x n;rcases p.2 with ⟨F,E⟩|⟨F,E⟩
  .rw[F]at K P;rw[E]at J R;exact⟨K,J,P,R⟩
  .rw[F]at K P;rw[E]at J R;exact⟨J,K,R,P⟩
 have w:∀x∈a++b,x∈ps:=λx n=>by
  rw[q];rcases A8.1 n with n|n;.exact A3 _ n
  .exact A4 _ (Aa _ n)
 rw[h.all,q,Az,B3];rw[qkb _ _ _ _ (s,A1) (ql9 _ _ _ λx n=>by obtain⟨u,m,rfl⟩:=Ab.1 n;have m:=A3 b m;exact(h.oth u (w u m) (by rw[<-p.1];exact A u m)).relays (qkc h.nd (w u m)) A1)]
 unfold qw1;have N:Bk.relays c (s,A1) (y.1,y.2.1)=A0 (g,A9):=by
  unfold Bk.relays;rcases p.2 with ⟨F,E⟩|⟨F,E⟩
  .rw[F,E,yA o];simp only;rw[r.get,k.get];simp only;rw[B];simp only;rw[(qzf (s:=g) (t:=rf) (d:={ dt with out:=Y.take 256}) k.pump h6 L (by rw[k.conn];exact X) ti.inb ti.ended).relay];simp only[Bk.put];rw[l,qt1 k.get,qt1 r.get,<-l];simp
  .rw[F,E,yA (λe=>o e.symm)];simp only;rw[r.get,k.get];simp only;rw[(qzf (s:=s) (t:=rf) k.pump O zi (by rw[k.conn];exact H) ti.inb ti.ended).relay];simp only;rw[B];simp only[Bk.put];rw[l,qt1 r.get,qt1 k.get,<-l];simp
 rw[N];simp only;refine ql9 _ _ _ λx n=>?_;obtain⟨u,m,rfl⟩:=Ab.1 n;have m:=A4 a m;have Q:=V u m;have G:=A u m;rw[p.1]at G;refine((h.oth u (w u m) G).of l (D _ Q.1 Q.2.1) (D _ Q.2.2.1 Q.2.2.2) ?_).relays (qkc h.nd (w u m)) A9;rw[I,Ah,yA (λe=>G e.symm)]
end
end
section
structure q0b(s:Bk)(ps:List (Int×Int×Nat)):Prop where
 all:qtc s.P=ps.map λy=>(y.1,y.2.1)
 lenP:s.P.ends.length<=1000000
 lenN:s.N.L.length<=1000000
 nN:(s.N.L.map (·.1)).Nodup
 nd:(ps.flatMap λy=>[y.1,y.2.1]).Nodup
 ndz:(ps.map (·.2.2)).Nodup
 oth:∀y∈ps,qlc s y.1 y.2.1 y.2.2
 fq:∀id∈s.N.L.map (·.1),∃r,qe s.roles id=A0 r/\r.conn=id/\FQ s r
 cred:∀id d,qe s.N.L id=A0 d->0<=d.credit/\d.credit<=1073741824
def qme{α σ:Type}(f:σ->α->Option σ)(s:σ)(a:α)(l:List α):qw1 f s (a::l)=match f s a with|none=>Af|some s=>qw1 f s l:=rfl
def qfd{ps:List (Int×Int×Nat)}(nd:(ps.map (·.2.2)).Nodup){x y:Int×Int×Nat}(h:x∈ps)(c:y∈ps)(e:x.2.2=y.2.2):x=y:=by
 obtain⟨a,b,w⟩:=A5 c;have:=q6k nd w;rw[w]at h;rcases A8.1 h with h|h;.exact yI e (this x (A3 _ h))
 .rcases Ai.1 h with h|h;.exact h
  .exact yI e (this x (A4 _ h))
def FQ.of{s s':Bk}{r:q31}(h:FQ s r)(e:qe s'.N.L r.conn=qe s.N.L r.conn):FQ s' r:=by
 have:∀{α:Type} (z:α) (g:Cn.CnD->α),s'.N.ask r.conn z g=s.N.ask r.conn z g:=λz g=>by unfold Cn.CT.ask;rw[e]
 exact⟨by rw[this];exact h.went,by rw[this];exact h.en⟩
def FQ.quiet{s:Bk}{r:q31}{d:Cn.CnD}(h:qe s.N.L r.conn=A0 d)(w:d.out=[])(a:r.due=A1):FQ s r:=⟨by rw[q54 h];unfold Cn.rFlush;rw[w];simp,by rw[a];rfl⟩
section
variable{c:qy}{s s':Bk}{ps:List (Int×Int×Nat)}{f t:Int}{i:Nat}{Y:List UInt8}{C:Nat}
def qzd(s:Bk)(fl:Bool):∀(l:List Int),(∀id∈l,∃r,qe s.roles id=A0 r/\r.conn=id/\FQ s r)->(∀id d,qe s.N.L id=A0 d->0<=d.credit/\d.credit<=1073741824)->qw1 Bk.flushes (s,fl) l=A0 (s,fl):=λl h c=>
 ql9 _ _ _ λid hid=>by obtain⟨r,a,e,b⟩:=h id hid;unfold Bk.flushes;rw[b.flush (λd w=>c _ d w) a];simp
def qxo(s:Bk)(fl:Bool):∀(l:List (Int×Int×Nat)),(∀y∈l,y.1≠y.2.1/\∃r,qe s.roles y.1=A0 r/\r.said=A1)->qw1 Bk.ends (s,fl) (l.map λy=>(y.1,y.2.1))=A0 (s,fl):=λl h=>
 ql9 _ _ _ λp c=>by obtain⟨y,d,rfl⟩:=Ab.1 c;obtain⟨w,r,b,a⟩:=h y d;unfold Bk.ends;rw[yA w,b];simp only;rw[a,yB rfl]
def q0b.round(h:q0b s ps):s.round c=A0 (s,A1):=by
 unfold Bk.round;rw[yA (by have:=h.lenP;omega),h.all];rw[ql9 (Bk.relays c) _ (s,A1) λp b=>by obtain⟨y,w,rfl⟩:=Ab.1 b;exact(h.oth y w).relays (qkc h.nd w) A1]
 simp only;rw[yA (by have:=h.lenN;omega),qzd s A1 s.ids (λid hid=>h.fq id ((qv1 leI _).mem_iff.1 hid)) h.cred];simp only;exact qxo s A1 ps λy w=>⟨qkc h.nd w,by obtain⟨r,a⟩:=(h.oth y w).rv;exact⟨r,a.get,a.said⟩⟩
def qja.idle(h:qja s ps f t i [] C):q0b s ps where
 all:=h.all
 lenP:=h.lenP
 lenN:=h.lenN
 nN:=h.nN
 nd:=h.nd
 ndz:=h.ndz
 oth:=λy o=>by
  by_cases n:y.2.2=i
  .have k:∃d,qe s.N.L f=A0 d/\qv9 d:=by obtain⟨d,e,w,g,q,p,u,_⟩:=h.df;exact⟨d,e,w,g,q,p,u⟩
   have j:∃d,qe s.N.L t=A0 d/\qv9 d:=by obtain⟨d,e,w,_⟩:=h.dt;exact⟨d,e,w⟩
   have c:=h.rf;have a:=h.rt;by_cases l:(f,t,i)∈ps
   .rw[yB l]at c a;have:=qfd h.ndz o l n;subst this;exact⟨c,a,k,j,h.z⟩
   .rw[yA l]at c a;have m:=h.mem.resolve_left l;have:=qfd h.ndz o m n;subst this;exact⟨a,c,j,k,h.z⟩
  .exact h.oth y o n
 fq:=λid hid=>by
  by_cases e:id=f
  .subst e;obtain⟨r,b⟩:=h.rf;obtain⟨d,w,_,g,_⟩:=h.df;exact⟨r,b.get,b.conn,FQ.quiet (by rw[b.conn];exact w) g b.due⟩
  .by_cases w:id=t
   .subst w;obtain⟨r,b⟩:=h.rt;obtain⟨d,w,g,_⟩:=h.dt;exact⟨r,b.get,b.conn,FQ.quiet (by rw[b.conn];exact w) g.out b.due⟩
   .exact h.fq id hid e w
 cred:=h.cred
def q0b.act{bs:List UInt8}{d:Cn.CnD}(h:q0b s ps)(N:(f,t,i)∈ps\/(t,f,i)∈ps)(o:qe s.N.L t=A0 d)(O:(C:Int)<=d.credit)(H:∀d,qe s.N.L f=A0 d->(C:Int)<=d.credit)(S:List (Int×q81)):
 qja (({ s with S:=S}:Bk).upd f (Cn.gFeed bs)) ps f t i (bs.take 512) C:=by
 obtain⟨p,q,c⟩:∃p,(p=(f,t,i)\/p=(t,f,i))/\p∈ps:=N.elim (λh=>⟨_,.inl rfl,h⟩) λh=>⟨_,.inr rfl,h⟩;have D:p.2.2=i:=by rcases q with rfl|rfl<;>rfl
 have v:=qkc h.nd c;have u:f≠t:=q.elim (λe=>by subst e;exact v) λe=>by subst e;exact λe=>v e.symm
 have k:=h.oth p c;rw[D]at k;have m:∃d,qe s.N.L f=A0 d/\qv9 d:=q.elim (λe=>by subst e;exact k.dv) λe=>by subst e;exact k.dk
 have l:∃d,qe s.N.L t=A0 d/\qv9 d:=q.elim (λe=>by subst e;exact k.dk) λe=>by subst e;exact k.dv
 obtain⟨df,m,n⟩:=m;obtain⟨dt,l,ti⟩:=l;rw[l]at o;cases o;have B:∀j,j≠f->qe (({ s with S:=S}:Bk).upd f (Cn.gFeed bs)).N.L j=qe s.N.L j:=λj P=>by show qe (s.N.upd f _).L j=_;rw[ql3,yA (λe=>P e.symm)]
 have hNf:qe (({ s with S:=S}:Bk).upd f (Cn.gFeed bs)).N.L f=A0 { df with inb:=bs.take 512}:=by show qe (s.N.upd f _).L f=_;rw[ql3,yB rfl,m];simp only[Option.map_some];unfold Cn.gFeed;rw[yA (by rw[n.ended];decide),n.inb];rfl
 have J:(({ s with S:=S}:Bk).upd f (Cn.gFeed bs)).N.L.map (·.1)=s.N.L.map (·.1):=q2e _ _ _;have g:(∃r,qz9 s f (if(f,t,i)∈ps then 0 else 1) i r)/\∃r,qz9 s t (if(f,t,i)∈ps then 1 else 0) i r:=by
  rcases q with rfl|rfl;.rw[yB c,yB c];exact⟨k.rv,k.rk⟩
  .have:(f,t,i)∉ps:=λE=>by have:=qfd h.ndz c E rfl;exact u (yE Prod.fst this).symm
   rw[yA this,yA this];exact⟨k.rk,k.rv⟩
 refine { all:=h.all,lenP:=h.lenP,lenN:=?_,nN:=by rw[J];exact h.nN,nd:=h.nd,ndz:=h.ndz,mem:=N,oth:=λy w I=>?_,rf:=?_,rt:=?_,df:=⟨_,hNf,rfl,n.out,n.ended,n.cr0,n.cr1,H df m⟩,dt:=⟨_,by rw[B t (λe=>u e.symm)];exact l,ti,O⟩,z:=k.z,fq:=λid hid M E=>?_,cred:=λid d o=>?_}
 .have:(({ s with S:=S}:Bk).upd f (Cn.gFeed bs)).N.L.length=s.N.L.length:=by have:=yE Ay J;simpa using this
  rw[this];exact h.lenN
 .have A:y.1≠f/\y.2.1≠f:=by
   obtain⟨a,b,x⟩:=A5 c;have L:y∈a++b:=by
    have w:=w;rw[x]at w;rcases A8.1 w with w|w;.exact A3 _ w
    .rcases Ai.1 w with w|w;.exact yI (by rw[w];exact D) I
     .exact A4 _ w
   obtain⟨M,E,K,F⟩:=qwd h.nd x y L;rcases q with rfl|rfl;.exact⟨M,K⟩
   .exact⟨E,F⟩
  exact(h.oth y w).of rfl (B _ A.1) (B _ A.2) rfl
 .obtain⟨r,G⟩:=g.1;exact⟨r,G.of rfl⟩
 .obtain⟨r,G⟩:=g.2;exact⟨r,G.of rfl⟩
 .rw[J]at hid;obtain⟨r,K,F,Q⟩:=h.fq id hid;exact⟨r,K,F,Q.of (by rw[F];exact B _ M)⟩
 .by_cases e:id=f
  .subst e;rw[hNf]at o;cases o;exact⟨n.cr0,n.cr1⟩
  .rw[B id e]at o;exact h.cred id d o
def qja.round(h:qja s ps f t i Y C)(hY:Y≠[])(hC:Y.length<=C):∃s',s.round c=A0 (s',A9)/\qja s' ps f t i (Y.drop 256) (C -(Y.take 256).length)/\s'.S=qe6 s.S t (Y.take 256) A1 A1/\q1b s s' f t:=by
 obtain⟨w,z1,h0,w5,h7,V,w2,w3,L⟩:=qtr (c:=c) h hY;obtain⟨rf,T⟩:=h.rf;obtain⟨rt,R⟩:=h.rt;obtain⟨df,hdf,y1,y2,y3,y4,y5,y6⟩:=h.df;obtain⟨dt,Z,ti,hcr⟩:=h.dt;obtain⟨z,hz,zi⟩:=h.z;have I:=h.ft;have G:w.N.L.map (·.1)=s.N.L.map (·.1):=by rw[L,q2e,q2e]
 have w4:w.N.L.length=s.N.L.length:=by simpa using yE Ay G
 have B:qe w.N.L t=A0 { dt with out:=Y.take 256}:=by rw[L,ql3,yB rfl,ql3,yA I,Z];rfl
 have F:qe w.N.L f=A0 { df with inb:=Y.drop 256}:=by rw[L,ql3,yA (λe=>I e.symm),ql3,yB rfl,hdf];rfl
 have k:∀j,j≠f->j≠t->qe w.N.L j=qe s.N.L j:=λj E H=>by rw[L,ql3,yA (λe=>H e.symm),ql3,yA (λe=>E e.symm)]
 have hlZ:(Y.take 256).length<=C:=Nat.le_trans (by rw[Aw];omega) hC;have h6:∀id d,qe w.N.L id=A0 d->0<=d.credit/\d.credit<=1073741824:=λid d hd=>by
  by_cases e:id=t;.subst e;rw[B]at hd;cases hd;exact⟨ti.cr0,ti.cr1⟩
  .by_cases e2:id=f;.subst e2;rw[F]at hd;cases hd;exact⟨y4,y5⟩
   .rw[k id e2 e]at hd;exact h.cred id d hd
 -- what is flushed
 obtain⟨n,l⟩:∃n:Bk,n={ w with N:=w.N.upd t Cn.gFlush,S:=qe6 w.S t (Y.take 256) A1 A1}:=⟨_,rfl⟩;have A:Cn.rFlush { dt with out:=Y.take 256}=Y.take 256:=by unfold Cn.rFlush;exact A2 (by show(Y.take 256).length<=dt.credit.toNat;omega)
 have J:w.flush t=A0 (n,A9):=by
  unfold Bk.flush;have X:qe w.roles t=A0 rt:=by rw[V];exact R.get
  rw[X];simp only;have he:w.flushE rt=A1:=by unfold Bk.flushE;rw[R.due];rfl
  rw[he,R.conn,q54 B,A];unfold Bk.flushS Bk.flushR Bk.put Bk.send Bk.upd;rw[R.conn,q54 B,A,yA (by decide)];simp only;rw[qt1 X,l];have:0<(Y.take 256).length:=by
   cases Y with
   |nil=>exact yI rfl hY
   |cons a r=>simp
  rw[yG (by omega)];rfl
 have o:=qub (d:={ dt with out:=Y.take 256}) ⟨ti.cr0,ti.cr1⟩;rw[A]at o;have hN2t:qe n.N.L t=A0 (Cn.gFlush { dt with out:=Y.take 256}):=by rw[l];show qe (w.N.upd t Cn.gFlush).L t=_;rw[ql3,yB rfl,B];rfl
 have g:∀j,j≠t->qe n.N.L j=qe w.N.L j:=λj E=>by rw[l];show qe (w.N.upd t Cn.gFlush).L j=_;rw[ql3,yA (λe=>E e.symm)]
 have ho2:(Cn.gFlush { dt with out:=Y.take 256}).out=[]:=by unfold Cn.gFlush;exact An (by show(Y.take 256).length<=dt.credit.toNat;omega)
 have x:n.roles=s.roles:=by rw[l];exact V
 have U:n.P=s.P:=by rw[l];exact w2
 have M:n.N.L.map (·.1)=s.N.L.map (·.1):=by rw[<-G,l];exact q2e _ _ _
 have K:∀id d,qe n.N.L id=A0 d->0<=d.credit/\d.credit<=1073741824:=λid d hd=>by
  by_cases e:id=t
  .subst e;rw[hN2t]at hd;cases hd;have E:=ti.cr1;exact⟨by rw[o.1];have:=o.2;simp only at this⊢;omega,by rw[o.1];simp only;omega⟩
  .rw[g id e]at hd;exact h6 id d hd
 have hA:qja n ps f t i (Y.drop 256) (C -(Y.take 256).length):=by
  refine { all:=by rw[U];exact h.all,lenP:=by rw[U];exact h.lenP,lenN:=?_,nN:=by rw[M];exact h.nN,nd:=h.nd,ndz:=h.ndz,mem:=h.mem,oth:=λy m q=>?_,rf:=⟨rf,T.of x⟩,rt:=⟨rt,R.of x⟩,df:=⟨_,(g f I).trans F,rfl,y2,y3,y4,y5,by show((C - _:Nat):Int)<=df.credit;omega⟩,dt:=⟨_,hN2t,⟨ti.inb,ho2,ti.ended,(K _ _ hN2t).1,(K _ _ hN2t).2⟩,?_⟩,z:=⟨z1,?_,w5⟩,fq:=λid hid E H=>?_,cred:=K}
  .have:n.N.L.length=s.N.L.length:=by simpa using yE Ay M
   rw[this];exact h.lenN
  .obtain⟨p,hp,hpi,hp2⟩:∃p,(p=(f,t,i)\/p=(t,f,i))/\p∈ps/\p.2.2=i:=h.mem.elim (λh=>⟨_,.inl rfl,h,rfl⟩) λh=>⟨_,.inr rfl,h,rfl⟩;obtain⟨a,b,v⟩:=A5 hpi;have hya:y∈a++b:=by
    have m:=m;rw[v]at m;rcases A8.1 m with m|m;.exact A3 _ m
    .rcases Ai.1 m with m|m;.exact yI (by rw[m];exact hp2) q
     .exact A4 _ m
   obtain⟨E,H,W,P⟩:=qwd h.nd v y hya;have D:y.1≠f/\y.1≠t/\y.2.1≠f/\y.2.1≠t:=by
    rcases hp with rfl|rfl;.exact⟨E,H,W,P⟩
    .exact⟨H,E,P,W⟩
   refine(h.oth y m q).of x ((g _ D.2.1).trans (k _ D.1 D.2.1)) ((g _ D.2.2.2).trans (k _ D.2.2.1 D.2.2.2)) ?_;rw[l];show w.pumps[y.2.2]?=_;rw[h7,Ah,yA (λe=>q e.symm)]
  .rw[o.1];simp only;omega
  .rw[l];show w.pumps[i]?=_;have hlt:i<s.pumps.length:=by
    rcases Nat.lt_or_ge i s.pumps.length with h|h;.exact h
    .rw[Ap h]at hz;cases hz
   rw[h7,Ah,yB rfl,yB hlt]
  .rw[M]at hid;obtain⟨r,W,P,h5⟩:=h.fq id hid E H;exact⟨r,by rw[x];exact W,P,h5.of (by rw[P];exact(g _ H).trans (k _ E H))⟩
 refine⟨n,?_,hA,by rw[l];show qe6 w.S t _ _ _=_;rw[w3],U,x,M,λj E H=>(g j H).trans (k j E H)⟩;unfold Bk.round;rw[yA (by have:=h.lenP;omega),h0];simp only;rw[yA (by rw[w4];have:=h.lenN;omega)];have w6:t∈w.ids:=(qv1 leI _).mem_iff.2 (by rw[G];exact Ab.2 ⟨_,qg3 Z,rfl⟩);have h9:w.ids.Nodup:=(qv1 leI _).nodup_iff.2 (by rw[G];exact h.nN);obtain⟨a,b,v⟩:=A5 w6;rw[v]at h9;have O:=A6.1 h9;have Q:∀(u:Bk),u.roles=s.roles->(∀j,j≠t->qe u.N.L j=qe w.N.L j)->∀id∈w.ids,id≠t->∃r,qe u.roles id=A0 r/\r.conn=id/\FQ u r:=λu w1 w0 id hid hit=>by
  by_cases e:id=f
  .subst e;exact⟨rf,by rw[w1];exact T.get,T.conn,FQ.quiet (d:={ df with inb:=Y.drop 256}) (by rw[T.conn,w0 _ I];exact F) y2 T.due⟩
  .have h8:id∈s.N.L.map (·.1):=by rw[<-G];exact(qv1 leI _).mem_iff.1 hid
   obtain⟨r,W,P,h5⟩:=h.fq id h8 e hit;exact⟨r,by rw[w1];exact W,P,h5.of (by rw[P,w0 _ hit];exact k _ e hit)⟩
 rw[v,qkb _ _ _ _ (w,A9) (qzd w A9 a (λid hid=>Q w V (λ_ _=>rfl) id (by rw[v];exact A3 _ hid) (λe=>O.2.2 id hid t Ae e)) h6)];have e:qw1 Bk.flushes (w,A9) (t::b)=qw1 Bk.flushes (n,A9) b:=by
  have:Bk.flushes (w,A9) t=A0 (n,A9):=by unfold Bk.flushes;rw[J];rfl
  rw[qme,this]
 rw[e,qzd n A9 b (λid hid=>Q n x g id (by rw[v];exact A4 _ (Aa _ hid)) (λe=>by subst e;exact(B0.1 O.2.1).1 hid)) K];simp only;rw[h.all];refine qxo n A9 ps λy m=>⟨qkc h.nd m,?_⟩;rw[x];by_cases q:y.2.2=i
 .rcases h.mem with hm|hm
  .have:=qfd h.ndz m hm q;subst this;exact⟨rf,T.get,T.said⟩
  .have:=qfd h.ndz m hm q;subst this;exact⟨rt,R.get,R.said⟩
 .obtain⟨r,X⟩:=(h.oth y m q).rv;exact⟨r,X.get,X.said⟩
end
end
end Go.Proofs.YtfjifcfbmhpcaaaGreatDoor
