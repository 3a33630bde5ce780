/-
  A part of the proof of TopEvicted.
-/
import Derived.Test.YtfjifcfbmhpcaaaGreatDoorV14
import Derived.Test.YtfjifcfbmhpcaaaGreatDoorV02
import Derived.Test.YtfjifcfbmhpcaaaGreatDoorV00
set_option linter.defProp false
set_option linter.unusedVariables false
set_option linter.unusedSimpArgs false
namespace Go.Proofs.YtfjifcfbmhpcaaaGreatDoor
open Go
open Go.Proofs.Tryz renaming prog → Zp
open Go.IntKind renaming i64 → Zk, wrap → Zw
open Go.Addr renaming add → Za
open Go.Value renaming int → Zi, string → Zs, pointer → Zq, bool → Zb, tuple → Zt, slice → Zl, agg → Zg
open _root_.Option renaming none->A0,some->A1
open Go.IntKind renaming bits->A2
open _root_.List renaming not_mem_nil->A3,getElem?_eq_some_iff->A5,mem_cons->A7,map_cons->A9,getElem?_of_mem->Ad,getElem?_eq_getElem->Af,length_cons->Ag,length_nil->Ah,replicate->Ai,findIdx?_eq_some_iff_getElem->Ak,length_take->Am,map_append->Ao,getElem?_map->As,take_of_length_le->Av,flatMap->Aw,find?_cons->Ax,perm_append_comm->Ay,map_congr_left->Az,map_take->B1,mem_map->B3,append_assoc->B4,foldl_append->B5,perm_middle->B7,nodup_cons->Bb,drop_zero->Bc,length->Bg
open Go renaming Value->A4,World->A6,LoopState->An,FuncId->Ar,Addr->Au,Code->B6,Program->Bh
open _root_.Array renaming getD_eq_getD_getElem?->A8,getElem?_append_left->Ac,replicate->Ap,zip->Bi
open _root_.Bool renaming false->Aa,true->Ab,and_eq_true->B9
open _root_.BitVec renaming ofInt->Ae
open Go.Fence renaming wide->Aj
open _root_.Nat renaming sub_zero->Aq,mul_le_mul_left->B0,add_sub_cancel->B2,mul_one->Ba,zero_mul->Bd,le_trans->Be,le_refl->Bf
section
def add0(a:Au):Za a 0=a:=rfl
def kI:qw2 Zp 3 (Zi Zk):=qw2.i64 uInt
def uM:Zp.underlying 143=A1 (.map 3 141):=Tryz.underlying143
def iPt:Zp.info? 141=A1 Tryz.t141:=by kernel_rfl
def zPt:Tryz.t141.zero=A1 (Zq A0):=rfl
def qix:Zp.underlying 83=A1 (.slice 136):=Tryz.underlying83
def iAct:Zp.info? 136=A1 Tryz.t136:=by kernel_rfl
def sAct:Tryz.t136.size=7:=rfl
def zAct:∃z,Tryz.t136.zero=A1 z/\z.cells.size=7:=⟨_,rfl,rfl⟩
def bAct:Tryz.t136.bytes<=100:=by decide+kernel
def q8l(a:qm6):(qia a).length=7:=rfl
def qr01(a:qm6):∀v∈qia a,qn1 v:=λv h=>by simp[qia]at h;rcases h with rfl|rfl|rfl|rfl|rfl|rfl|rfl<;>trivial
def qc(a:Nat):A4:=Zq (A1 ⟨a,0,A0⟩)
def qec(a:Nat):Nat->A4
 |0=>.func (.func 157) #[qc a] #[]
 |1=>.func (.func 240) #[qc a] #[]
 |2=>.func (.func 290) #[qc a] #[]
 |_=>.nilFunc
def q98(a:Nat)(d:LD):List A4:=[Zi Zk d.no,Zs d.tk,qec a d.st,Zb (decide (2<=d.st))]
def qz4(a:Nat)(d:LD):Asn:=Row d.b 213 (q98 a d)
def q92(a:Nat)(L:List LD):Asn:=qz (L.map (qz4 a))
def keyD(L:List LD):List (Int×Nat):=L.map λd=>(d.no,d.b)
def agC(P:qe1)(m:Nat)(G:AG):List A4:=[Zs P.ten,Zs P.tok,Zs P.sec,Zs P.nam,Zi Zk P.ttl,Zi Zk P.every,.map (A1 m),Zb G.held,Zi Zk G.epoch,Zi Zk G.last,Zi Zk G.next]
def qv8(P:qe1):Prop:=P.sec.size<=9223372036854775807
abbrev AgL(a:Nat)(P:qe1)(m:Nat)(G:AG)(F:List Asn):List Asn:=Row a 145 (agC P m G)::qg (Zi Zk) qc m (keyD G.L)::q92 a G.L::F
def qv(a:Nat)(P:qe1)(G:AG):Asn:=exA λm:Nat=>qz [prA (AOk G/\qv8 P),Row a 145 (agC P m G),qg (Zi Zk) qc m (keyD G.L),q92 a G.L]
def erase_perm{α:Type}:∀(l:List α) (i:Nat) {x:α},l[i]?=A1 x->l.Perm (x::l.eraseIdx i)
 |[],i,x,h=>by simp at h
 |y::r,0,x,h=>by simp at h;subst h;exact .refl _
 |y::r,i+1,x,h=>((erase_perm r i (by simpa using h)).cons y).trans (List.Perm.swap _ _ _)
def set_erase{α:Type}:∀(l:List α) (i:Nat) (y:α),i<l.length->(l.set i y).Perm (y::l.eraseIdx i)
 |[],i,y,h=>by simp at h
 |x::r,0,y,h=>.refl _
 |x::r,i+1,y,h=>((set_erase r i y (by simpa using h)).cons x).trans (List.Perm.swap _ _ _)
def qiw(L:List LD)(no:Int):qe (keyD L) no=(L.find? λd=>decide (d.no=no)).map (·.b):=by
 induction L with
 |nil=>rfl
 |cons d r w=>
  unfold keyD at w⊢;simp only[A9,qe,Ax];by_cases h:d.no=no;.simp[h]
  .simp[h,w]
def qj7(G:AG)(no:Int):qe (keyD G.L) no=(qg2 G no).map (·.b):=qiw G.L no
def set_eq{L:List LD}{i:Nat}{d:LD}{no:Int}{st:Nat}(a:(L.map (·.no)).Nodup)(w:L[i]?=A1 d)(b:d.no=no):L.set i { d with st:=st}=L.map λd=>if d.no=no then { d with st:=st}else d:=by
 induction L generalizing i with
 |nil=>simp at w
 |cons x r f=>
  simp only[A9,Bb]at a;cases i with
  |zero=>simp at w;subst w;rw[List.set_cons_zero,A9,yB b];congr 1;refine(List.map_id _).symm.trans (Az λy c=>?_);have:y.no≠no:=λe=>a.1 (by rw[b,<-e];exact B3.2 ⟨y,c,rfl⟩);rw[yA this];rfl
  |succ i=>
   have h:r[i]?=A1 d:=by simpa using w
   have:x.no≠no:=λe=>a.1 (by rw[e,<-b];exact B3.2 ⟨d,List.mem_of_getElem? h,rfl⟩);rw[List.set_cons_succ,A9,yA this,f a.2 h]
section
variable{W w:World}{F:List Asn}{a m:Nat}{P:qe1}{G:AG}{L:List LD}{i:Nat}{d:LD}
def q92.take(h:St W (q92 a L::F) w)(b:L[i]?=A1 d):St W (qz4 a d::q92 a (L.eraseIdx i)::F) w:=by have e:St W (L.map (qz4 a)++F) w:=h.of_sep;have c:St W ((d::L.eraseIdx i).map (qz4 a)++F) w:=e.perm (((erase_perm L i b).map (qz4 a)).append_right F);exact(zj (l:=(L.eraseIdx i).map (qz4 a)) (z0b c (by simp only[A9,List.cons_append];exact(B7 (l₁:=(L.eraseIdx i).map (qz4 a)) (a:=qz4 a d) (l₂:=F)).symm))).p1
def q92.give{y:LD}(b:i<L.length)(h:St W (qz4 a y::q92 a (L.eraseIdx i)::F) w):St W (q92 a (L.set i y)::F) w:=by have c:St W ((L.eraseIdx i).map (qz4 a)++(qz4 a y::F)) w:=St.of_sep h.p1;refine zj (z0b c ?_);exact B7.trans (((set_erase L i y b).symm.map (qz4 a)).append_right F)
def q92.cell(h:St W (q92 a L::F) w)(b:L[i]?=A1 d){j:Nat}{v:A4}(c:(q98 a d)[j]?=A1 v):w.cell? ⟨d.b,j,A0⟩=A1 v:=(q92.take h b).ld c
def q92.cut{p:LD->Bool}(h:St W (q92 a L::F) w):St W (q92 a (L.filter p)::F) w:=by
 have c:St W (L.map (qz4 a)++F) w:=h.of_sep;have b:(L.map (qz4 a)++F).Perm ((L.filter λx=>!p x).map (qz4 a)++((L.filter p).map (qz4 a)++F)):=by rw[<-B4,<-Ao];exact(((Ay.trans (List.filter_append_perm p L)).symm).map _).append_right F
 exact zj (z0f _ (c.perm b))
def q92.add(h:St W (qz4 a d::q92 a L::F) w):St W (q92 a (L++[d])::F) w:=by have b:St W (L.map (qz4 a)++(qz4 a d::F)) w:=St.of_sep h.p1;refine zj ?_;rw[Ao,B4];exact b
def qv.open_(h:St W (qv a P G::F) w):∃m,AOk G/\qv8 P/\St W (AgL a P m G F) w:=by obtain⟨m,h⟩:=h.of_ex;obtain⟨⟨c,b⟩,h⟩:=h.of_sep.of_pr;exact⟨m,c,b,h⟩
def qv.shut(b:AOk G)(c:qv8 P)(h:St W (AgL a P m G F) w):St W (qv a P G::F) w:=
 z00 m (zj (l:=[_,_,_,_]) (z01 ⟨b,c⟩ h))
def qv.ok(h:St W (qv a P G::F) w):AOk G/\qv8 P:=by obtain⟨m,b,c,_⟩:=qv.open_ h;exact⟨b,c⟩
abbrev qm2(p:Option Au)(c:Nat)(l:List qm6):Asn:=SlA 136 7 qia p c l
def qsb(no:Int)(x:qk1)(h:St W F w):qb Zp 59 #[Zi Zk no,ql2 x] w λv w'=>∃p c,v=Zl p 1 c/\St W (qm2 p c [q73 no x]::F) w':=by refine F59_of (zh h λb w h=>z8 0 h rfl rfl (zg 0 h rfl rfl (zg 0 h rfl rfl (z8 0 h rfl rfl (z8 0 h rfl rfl (zh h λa w h=>⟨_,_,rfl,?_⟩))))));have h:St W (Row a 136 ([q73 no x].flatMap qia)::Row b 74 [Zi Zk x.k,Zs x.A,Zs x.B,Zi Zk x.N,Zi Zk x.M]::F) w:=h;exact(SlA.of_row (os:=[q73 no x]) q8l h).p1.drop
def qgk(now:Int)(b:St W F w):qb Zp 58 #[Zi Zk now] w λv w'=>v=Zb (decide (q14 now))/\St W F w':=by
 refine F58_of (za (λh=>⟨?_,b⟩) λh=>⟨?_,b⟩)
 .have h:=yC h;congr 1;rw[decide_eq_decide];exact⟨λa=>⟨h,a⟩,λa=>a.2⟩
 .have h:=yD h;rw[yH (λa:q14 now=>h a.1)]
def qrh(b:St W (qv a P G::F) w):qb Zp 291 #[qc a] w λv w'=>∃p c,v=Zl p 1 c/\St W (qm2 p c [q73 0 (q27 P)]::qv a P G::F) w':=by obtain⟨m,i,f,b⟩:=qv.open_ b;refine F291_of ?_;simp only[add0];have d:=z6 W (AgL a P m G F);refine⟨StC W _,zd b,z7 (z7 ⟨_,zu 0 d rfl rfl,_,zi 0 d rfl rfl,?_⟩)⟩;refine zk (α:=Option Au×Nat) (V:=λy=>.slice y.1 1 y.2) (B:=λy=>qm2 y.1 y.2 [q73 0 (q27 P)]::AgL a P m G F) (A0,0) d (λg w h=>(qsb 0 (q27 P) h).of λv w' ⟨p,c,e,h⟩=>⟨_,_,_,e,(p,c),rfl,h⟩) λy=>⟨_,_,_,rfl,trivial,λg w h=>⟨_,_,rfl,?_⟩⟩;exact(qv.shut i f (zf 0 3 (zb h) rfl)).p1 |> λh=>h.p1.p1
def New_spec(P:qe1)(e:qv8 P)(h:St W F w):qb Zp 51 #[Zg #[Zs P.ten,Zs P.tok,Zs P.sec,Zs P.nam,Zi Zk P.ttl,Zi Zk P.every]] w λv w'=>∃a,v=qc a/\St W (qv a P ⟨Aa,0,0,1,[]⟩::F) w':=by refine F51_of (zh h λc w h=>zg 0 h rfl rfl (zg 0 h rfl rfl (zg 0 h rfl rfl (zg 0 h rfl rfl (z8 0 h rfl rfl (z8 0 h rfl rfl (qs5.n (Zi Zk) qc h λm w1 h=>zh h λa w h=>⟨a,rfl,?_⟩)))))));have b:St W (Row a 145 (agC P m ⟨Aa,0,0,1,[]⟩)::qg (Zi Zk) qc m []::Row c 69 [Zs P.ten,Zs P.tok,Zs P.sec,Zs P.nam,Zi Zk P.ttl,Zi Zk P.every]::F) w:=h.perm (List.Perm.cons _ Ay);have d:St W (q92 a []::Row a 145 (agC P m ⟨Aa,0,0,1,[]⟩)::qg (Zi Zk) qc m []::F) w:=zj (l:=[]) (z03 2 b rfl);exact qv.shut AOk.new e (zf 0 2 d rfl)
def qjk(no:Int)(tk:ByteArray)(x:0<=no)(I:no<G.next)(r:qg2 G no=A0)(d:St W (qv a P G::F) w):
 qb Zp 94 #[qc a,Zi Zk no,Zs tk] w λv w'=>∃p c b,v=Zl p 2 c/\St W (qm2 p c (qp4 P G no tk b).2::qv a P (qp4 P G no tk b).1::F) w':=by
 obtain⟨m,H,t,d⟩:=qv.open_ d;refine F94_of ?_;unfold F94;simp only[add0];refine z7 (zv 0 d rfl rfl (zh d λb w d=>?_));have d:St W (qz4 a ⟨b,no,tk,0⟩::AgL a P m G F) w:=d;have u:qe (keyD G.L) no=A0:=by rw[qj7,r];rfl
 refine qh1 kI uM 2 d rfl no b λw d=>?_;rw[qbc u]at d;have j:AOk (qp4 P G no tk b).1:=H.open_ x I r;have d:St W (AgL a P m (qp4 P G no tk b).1 F) w:=by
  have e:keyD G.L++[(no,b)]=keyD (qp4 P G no tk b).1.L:=by unfold keyD qp4;rw[Ao];rfl
  rw[e]at d;have k:St W (qz4 a ⟨b,no,tk,0⟩::q92 a G.L::Row a 145 (agC P m G)::qg (Zi Zk) qc m (keyD (qp4 P G no tk b).1.L)::F) w:=zf 3 1 d rfl;exact zf 0 2 (q92.add k) rfl
 generalize l:(qp4 P G no tk b).1=i at d j;have f:(qp4 P G no tk b).2=[qwf no,q73 no (q7a P)]:=rfl;have o:=z6 W (AgL a P m i F);refine⟨StC W _,zd d,z7 (z7 ⟨_,QtS.n 0 o rfl rfl,_,zu 0 o rfl rfl,?_⟩)⟩;refine zk (α:=Option Au×Nat) (V:=λy=>.slice y.1 1 y.2) (B:=λy=>qm2 y.1 y.2 [q73 no (q7a P)]::AgL a P m i F) (A0,0) o (λi w h=>(qsb no (q7a P) h).of λv w' ⟨p,c,E,h⟩=>⟨_,_,_,E,(p,c),rfl,h⟩) λy=>⟨_,_,_,rfl,trivial,λg=>?_⟩;refine zk (α:=Option Au×Nat) (V:=λz=>.slice z.1 2 z.2) (B:=λz=>qm2 z.1 z.2 [qwf no,q73 no (q7a P)]::AgL a P m i F) (A0,0) (ir.push g _) (λn w h=>?_) λz=>⟨_,_,_,rfl,trivial,λn w h=>⟨_,_,b,rfl,?_⟩⟩
 .have h:St W (Pt g (.cells #[(Zi Zk 1),(Zi Zk no),(Zi Zk 0),(Zs ⟨#[]⟩),(Zs ⟨#[]⟩),(Zi Zk 0),(Zi Zk 0)] 136)::qm2 y.1 y.2 [q73 no (q7a P)]::(AgL a P m i F++pts n)) w:=h;have k:St W (Row g 136 ([qwf no].flatMap qia)::qm2 y.1 y.2 [q73 no (q7a P)]::(AgL a P m i F++pts n)) w:=h.imp z0c;have s:=SlA.of_row (os:=[qwf no]) q8l k;obtain⟨z,C,q⟩:=zAct;have J:=bAct;refine qf3 (os:=[qwf no]) (xs:=[q73 no (q7a P)]) q8l qix (.inr ⟨_,qix⟩) iAct sAct C q 0 s rfl (z06 0 rfl λF=>z0g F) rfl qr01 (by simp only[Ag,Ah];omega) (by simp only[Ag,Ah];omega) λD A w' h=>⟨_,_,_,rfl,(D,A),rfl,?_⟩;exact z03 1 h rfl
 .have d:=zb h;rw[f,l];exact(qv.shut j t (zf 0 3 d rfl)).p1.p1.p1
def qii(e:St W (qv a P G::F) w):qb Zp 52 #[qc a] w λv w'=>∃p c b,v=Zl p (qo3 P G b).2.length c/\St W (qm2 p c (qo3 P G b).2::qv a P (qo3 P G b).1::F) w':=by
 have j:=qv.ok e;have i:=e;obtain⟨m,f,g,e⟩:=qv.open_ e;refine F52_of (z7 (zv 0 e rfl rfl (qq1 kI uM iPt zPt 1 e rfl 0 Ab ?_)));rw[yB rfl,qj7];unfold qo3;cases hl:qg2 G 0 with
 |some d=>refine⟨A1 ⟨d.b,0,A0⟩,Ab,rfl,zn rfl ⟨A0,0,0,rfl,?_⟩⟩;exact z09 (qv.shut f g e)
 |none=>refine⟨A0,Aa,rfl,zm rfl ?_⟩;exact(qjk 0 e0 (Int.le_refl _) (by have:=f.next;omega) hl (qv.shut f g e)).of λv w' ⟨p,c,b,k,h⟩=>⟨_,_,_,k,p,c,b,rfl,h⟩
def qgl(no:Int)(h:St W (qv a P G::F) w):qb Zp 57 #[qc a,Zi Zk no] w λv w'=>v=Zb (qh5 G no)/\St W (qv a P G::F) w':=by
 obtain⟨m,b,c,h⟩:=qv.open_ h;refine F57_of (z7 (zv 0 h rfl rfl (qq1 kI uM iPt zPt 1 h rfl no Ab ?_)));rw[yB rfl,qj7];unfold qh5;cases hl:qg2 G no with
 |some d=>obtain⟨i,e⟩:=Ad (q36 hl).1;exact⟨A1 ⟨d.b,0,A0⟩,Ab,rfl,zn rfl (z7 (LdB.at (q92.cell (h.at 2 rfl) e (j:=3) rfl) ⟨rfl,qv.shut b c h⟩))⟩
 |none=>exact⟨A0,Aa,rfl,zm rfl ⟨rfl,qv.shut b c h⟩⟩
def qrw(L:List LD)(w:(L.map (·.no)).Nodup)(no:Int):qp (keyD L) no=keyD (L.filter λd=>decide (d.no≠no)):=by
 induction L with
 |nil=>rfl
 |cons d r a=>
  simp only[A9,Bb]at w;unfold keyD at a⊢;simp only[A9,qp];by_cases h:d.no=no
  .rw[yB h,List.filter_cons_of_neg (by simpa using h),List.filter_eq_self.2];intro x b;have:x.no≠no:=λe=>w.1 (by rw[h,<-e];exact B3.2 ⟨x,b,rfl⟩);simpa using this
  .rw[yA h,List.filter_cons_of_pos (by simpa using h),a w.2];rfl
def q8t(no:Int)(h:St W (qv a P G::F) w):qb Zp 106 #[qc a,Zi Zk no] w λv w'=>v=Zb (qn6 G no).2/\St W (qv a P (qn6 G no).1::F) w':=by
 obtain⟨m,f,e,h⟩:=qv.open_ h;have b:=f.lost no;refine F106_of (z7 (zv 0 h rfl rfl (qq1 kI uM iPt zPt 1 h rfl no Ab ?_)));rw[yB rfl,qj7];unfold qn6 at b⊢;cases g:qg2 G no with
 |none=>
  refine⟨A0,Aa,rfl,z7 (zv 0 h rfl rfl (qc5 kI uM 1 h rfl no λw h=>zm rfl ⟨rfl,?_⟩))⟩;have i:qe (keyD G.L) no=A0:=by rw[qj7,g];rfl
  rw[ql6 i]at h;exact qv.shut f e h
 |some d=>
  rw[g]at b;refine⟨A1 ⟨d.b,0,A0⟩,Ab,rfl,z7 (zv 0 h rfl rfl (qc5 kI uM 1 h rfl no λw h=>zn rfl ?_))⟩;rw[yA (by simp)]at b⊢;by_cases c:no=0
  .rw[yB c]at b⊢;refine zn (by rw[c];rfl) (z7 (zv 0 h rfl rfl (qmy uM 1 h rfl λw h=>z7 (St1.zz 0 h rfl λw h=>z7 (St1.zz 0 h rfl λw h=>⟨rfl,?_⟩)))));have h:St W (Row a 145 (agC P m { G with L:=[],held:=Aa,epoch:=0})::qg (Zi Zk) qc m []::q92 a G.L::F) w:=h;exact qv.shut b e (zf 0 2 (zj (l:=[]) (z03 2 h rfl)) rfl)
  .rw[yA c]at b⊢;refine zm (by simpa using c) ⟨rfl,?_⟩;have h:St W (Row a 145 (agC P m G)::qg (Zi Zk) qc m (qp (keyD G.L) no)::q92 a G.L::F) w:=h;rw[qrw _ f.nod]at h;exact qv.shut b e (zf 0 2 (q92.cut (zf 2 0 h rfl)) rfl)
end
def z14:=@qv.open_
end
section
def QtS.at{C:Cls}{a:Au}{x:ByteArray}(h:∀G w,C.p G w->w.cell? a=A1 (Zs x)):Qt C (Zs x) λw K=>LdS a w λx=>K (Zs x) w:=λG w b=>z0p (h G w b) ⟨rfl,b⟩
def QtB.at{C:Cls}{a:Au}{x:Bool}(h:∀G w,C.p G w->w.cell? a=A1 (Zb x)):Qt C (Zb x) λw K=>LdB a w λx=>K (Zb x) w:=λG w b=>LdB.at (h G w b) ⟨rfl,b⟩
def q61(x:qk1):List A4:=[Zi Zk x.k,Zs x.A,Zs x.B,Zi Zk x.N,Zi Zk x.M]
def q0n(G:AG)(no:Int)(st:Nat):keyD (setSt G no st).L=keyD G.L:=by unfold keyD setSt;rw[List.map_map];refine Az λd _=>?_;simp only[Function.comp_apply];split<;>rfl
def qsh{G:AG}{no:Int}{st:Nat}{d:LD}(h:qg2 G no=A1 d):qg2 (setSt G no st) no=A1 { d with st:=st}:=by
 unfold qg2 setSt at*;dsimp only at h⊢;generalize G.L=L at h;induction L with
 |nil=>simp at h
 |cons x r ih=>
  rw[Ax]at h;rw[A9,Ax];by_cases w:x.no=no
  .simp only[w,decide_true,Option.some.injEq]at h;subst h;simp[w]
  .simp only[w,decide_false]at h;simp only[w,if_false,decide_false];exact ih h
section
variable{W w:World}{F:List Asn}{a m:Nat}{P:qe1}{G:AG}{no:Int}{d:LD}{x:qk1}{now:Int}
def AgL.step{st:Nat}{K:A6->Prop}(n:qg2 G no=A1 d)(p:(G.L.map (·.no)).Nodup)(b:decide (2<=st)=decide (2<=d.st))(l:St W (AgL a P m G F) w)(q:∀w',St W (AgL a P m (setSt G no st) F) w'->K w'):St1 ⟨d.b,2,A0⟩ (qec a st) w K:=by
 obtain⟨o,f⟩:=q36 n;obtain⟨i,g⟩:=Ad o;have c:=(A5.1 g).1;refine z0n 0 (q92.take (zf 2 0 l rfl) g) rfl (by simp[q98]) λw' h=>q w' ?_;have e:(q98 a d).set 2 (qec a st)=q98 a { d with st:=st}:=by unfold q98;rw[b];rfl
 have h:St W (qz4 a { d with st:=st}::q92 a (G.L.eraseIdx i)::Row a 145 (agC P m G)::qg (Zi Zk) qc m (keyD G.L)::F) w':=by unfold qz4;rw[<-e];exact h
 have j:=q92.give c h;rw[set_eq p g f]at j;have k:St W (Row a 145 (agC P m G)::qg (Zi Zk) qc m (keyD G.L)::q92 a (setSt G no st).L::F) w':=zf 0 2 j rfl;rw[<-q0n G no st]at k;exact k
def AgL.pass{st:Nat}{K:A6->Prop}(p:qg2 G no=A1 d)(r:(G.L.map (·.no)).Nodup)(c:2<=st)(o:St W (AgL a P m G F) w)(s:∀w',St W (AgL a P m (setSt G no st) F) w'->K w')
 {n:A6->Prop} (b:∀w1,w1.cell? ⟨d.b,0,A0⟩=A1 (Zi Zk d.no)->St1 ⟨d.b,2,A0⟩ (qec a st) w1 K->n w1):St1 ⟨d.b,3,A0⟩ (Zb Ab) w n:=by
 obtain⟨q,g⟩:=q36 p;obtain⟨i,j⟩:=Ad q;have f:=(A5.1 j).1;refine z0n 0 (q92.take (zf 2 0 o rfl) j) rfl (by simp[q98]) λw1 h=>b w1 (h.ld rfl) ?_;refine z0n 0 h rfl (by simp[q98]) λw' h=>s w' ?_;have e:((q98 a d).set 3 (Zb Ab)).set 2 (qec a st)=q98 a { d with st:=st}:=by unfold q98;rw[yG c];rfl
 have h:St W (qz4 a { d with st:=st}::q92 a (G.L.eraseIdx i)::Row a 145 (agC P m G)::qg (Zi Zk) qc m (keyD G.L)::F) w':=by unfold qz4;rw[<-e];exact h
 have k:=q92.give f h;rw[set_eq r j g]at k;have l:St W (Row a 145 (agC P m G)::qg (Zi Zk) qc m (keyD G.L)::q92 a (setSt G no st).L::F) w':=zf 0 2 k rfl;rw[<-q0n G no st]at l;exact l
def AgL.line{l0:List Asn}(b:qg2 G no=A1 d)(h:St W (AgL a P m G F) w){j:Nat}{v:A4}(e:(q98 a d)[j]?=A1 v):w.cell? ⟨d.b,j,A0⟩=A1 v:=by obtain⟨i,c⟩:=Ad (q36 b).1;exact q92.cell (h.at 2 rfl) c e
def qg8{F':List Asn}(h:St W F' w):St W (qm2 A0 0 []::F') w:=z09 h
def qch(s:ByteArray):Zs s=Zs (mkS (qm s)):=by unfold qm;rw[qd5]
def qfe(s:ByteArray):(qm s).length=s.size:=rfl
def qcq(J:qg2 G no=A1 d)(I:d.st=0)(l:St W (qv a P G::F) w):
 qb Zp 157 #[qc a,qc d.b,ql2 x,Zi Zk now] w λv w'=>∃p c,v=Zl p (if x.k=2 then(setSt G no 1,[q73 no ⟨3,qt7 P x.A,e0,0,0⟩])else(G,[])).2.length c/\
  St W (qm2 p c (if x.k=2 then(setSt G no 1,[q73 no ⟨3,qt7 P x.A,e0,0,0⟩])else(G,[])).2::qv a P (if x.k=2 then(setSt G no 1,[q73 no ⟨3,qt7 P x.A,e0,0,0⟩])else(G,[])).1::F) w':=by
 obtain⟨m,N,E,l⟩:=z14 l;obtain⟨T,H⟩:=q36 J;refine F157_of (zh l λg w l=>z8 0 l rfl rfl (za (λr=>?_) λr=>?_))
 .have r:¬x.k=2:=by simpa using r
  rw[yA r];exact⟨A0,0,rfl,qg8 (qv.shut N E l.drop)⟩
 have r:x.k=2:=by simpa using r
 rw[yB r];have A:AOk (setSt G no 1):=N.setSt (by omega) (by omega) (by omega);have l:St W (AgL a P m G (Row g 74 (q61 x)::F)) w:=zf 0 3 l rfl;refine z7 ⟨trivial,AgL.step (st:=1) J N.nod (by rw[I];rfl) l λw l=>?_⟩;have q:=qsh (st:=1) J;have u:P.sec.size<=9223372036854775807:=E;have s:∀{F':List Asn} {w:A6} {K:A4->A6->Prop},St W F' w->(∀b c w',(qm P.sec).length<=c->St W (Row b 5 ((qm P.sec).map qd++Ai (c -(qm P.sec).length) (Zi .u8 0))::F') w'->K (.slice (A1 ⟨b,0,A0⟩) (qm P.sec).length c) w')->Run Zp (convert 9 22 (Zs P.sec)) w K:=λ{F' w K} h hK=>by rw[qch];exact qcb uS uB uU8 h hK
 generalize R:setSt G no 1=G1 at l A q;have t:=z6 W (AgL a P m G1 (Row g 74 (q61 x)::F));refine⟨StC W _,zd l,z7 (z7 (z7 (z7 ⟨d.no,z0h λk w f=>?_,P.sec,QtS.at λk w f=>t.cell 0 rfl rfl f,P.ten,QtS.at λk w f=>t.cell 0 rfl rfl f,P.tok,QtS.at λk w f=>t.cell 0 rfl rfl f,x.A,QtS.at λk w f=>t.cell 3 rfl rfl f,?_⟩)))⟩;.exact AgL.line (l0:=[]) q ((t k w).1 f) (j:=0) rfl
 refine zk (α:={ y:Nat×Nat//(qm P.sec).length<=y.2}) (V:=λy=>.slice (A1 ⟨y.1.1,0,A0⟩) (qm P.sec).length y.1.2) (B:=λy=>Row y.1.1 5 ((qm P.sec).map qd++Ai (y.1.2 -(qm P.sec).length) (Zi .u8 0))::AgL a P m G1 (Row g 74 (q61 x)::F)) ⟨(0,(qm P.sec).length),Bf _⟩ t (λk w h=>s h λb c w' D h=>⟨_,_,_,rfl,⟨(b,c),D⟩,rfl,h⟩) λy=>?_;have n:=z6 W (Row y.1.1 5 ((qm P.sec).map qd++Ai (y.1.2 -(qm P.sec).length) (Zi .u8 0))::AgL a P m G1 (Row g 74 (q61 x)::F));refine⟨_,_,_,rfl,⟨QtS.at λk w f=>n.cell 4 rfl rfl f,QtS.at λk w f=>n.cell 1 rfl rfl f,QtS.at λk w f=>n.cell 1 rfl rfl f,z0h λk w f=>AgL.line (l0:=[]) q ((n k w).1 f).drop (j:=0) rfl⟩,λo=>?_⟩;have L:qt7 P x.A=mkS (q07 (qm P.sec) [qm P.ten,qm P.tok,qm x.A]):=rfl;refine zk (α:=Unit) (V:=λ_=>Zs (qt7 P x.A)) (B:=λ_=>AgL a P m G1 (Row g 74 (q61 x)::F)) () (n.push o _) (λk w h=>?_) λ_=>⟨_,rfl,z0h λk w f=>AgL.line (l0:=[]) q f (j:=0) rfl,?_⟩
 .have Q:St W (Row o 9 ([qm P.ten,qm P.tok,qm x.A].map qc8)::Row y.1.1 5 ((qm P.sec).map qd++Ai (y.1.2 -(qm P.sec).length) (Zi .u8 0))::(AgL a P m G1 (Row g 74 (q61 x)::F)++pts k)) w:=by
   have e:[qm P.ten,qm P.tok,qm x.A].map qc8=[Zs P.ten,Zs P.tok,Zs x.A]:=by simp only[A9,List.map_nil,qc8];rw[<-qch,<-qch,<-qch]
   rw[e];have h:St W (Pt o (.cells #[(Zs P.ten),(Zs P.tok),(Zs x.A)] 9)::Row y.1.1 5 ((qm P.sec).map qd++Ai (y.1.2 -(qm P.sec).length) (Zi .u8 0))::(AgL a P m G1 (Row g 74 (q61 x)::F)++pts k)) w:=h;exact h.imp z0c
  have C:Rd (Row o 9 ([qm P.ten,qm P.tok,qm x.A].map qc8)::Row y.1.1 5 ((qm P.sec).map qd++Ai (y.1.2 -(qm P.sec).length) (Zi .u8 0))::(AgL a P m G1 (Row g 74 (q61 x)::F)++pts k)) (A1 ⟨y.1.1,0,A0⟩) ((qm P.sec).map qd):=by refine Rd.cons (z0z 0 λi v O=>?_) _;rw[Nat.zero_add,List.getElem?_append_left (A5.1 O).1];exact O
  exact(qqe C y.2 (by rw[qfe];exact u) z0m (by simp) Q).of λv w' ⟨M,h⟩=>⟨_,M,(),by rw[L],h.drop.drop⟩
 refine zk (α:=Option Au×Nat) (V:=λz=>.slice z.1 1 z.2) (B:=λz=>qm2 z.1 z.2 [q73 no ⟨3,qt7 P x.A,e0,0,0⟩]::AgL a P m G1 (Row g 74 (q61 x)::F)) (A0,0) ir (λk w h=>(qsb d.no ⟨3,qt7 P x.A,e0,0,0⟩ h).of λv w' ⟨p,c,M,h⟩=>⟨_,_,_,M,(p,c),rfl,by rw[H]at h;exact h⟩) λz=>⟨_,_,_,rfl,trivial,λk w h=>⟨_,_,rfl,?_⟩⟩;have l:=zb h;exact(qv.shut A E (zf 0 3 (z03 4 l rfl) rfl)).p1
def qun(t:qg2 G no=A1 d)(H:d.st=1)(b:St W (qv a P G::F) w):
 qb Zp 240 #[qc a,qc d.b,ql2 x,Zi Zk now] w λv w'=>∃p c,v=Zl p (if x.k=4 then(if no=0 then(setSt G no 2,[q73 0 (q27 P)])else(setSt G no 3,[q73 no ⟨12,e0,d.tk,0,0⟩]))else(G,[])).2.length c/\
  St W (qm2 p c (if x.k=4 then(if no=0 then(setSt G no 2,[q73 0 (q27 P)])else(setSt G no 3,[q73 no ⟨12,e0,d.tk,0,0⟩]))else(G,[])).2::qv a P (if x.k=4 then(if no=0 then(setSt G no 2,[q73 0 (q27 P)])else(setSt G no 3,[q73 no ⟨12,e0,d.tk,0,0⟩]))else(G,[])).1::F) w':=by
 obtain⟨m,s,u,b⟩:=z14 b;obtain⟨J,f⟩:=q36 t;refine F240_of (zh b λi w b=>z8 0 b rfl rfl (za (λg=>?_) λg=>?_))
 .have g:¬x.k=4:=by simpa using g
  rw[yA g];exact⟨A0,0,rfl,qg8 (qv.shut s u b.drop)⟩
 have g:x.k=4:=by simpa using g
 rw[yB g];have b:St W (AgL a P m G (Row i 74 (q61 x)::F)) w:=zf 0 3 b rfl;by_cases l:no=0
 .rw[yB l];have e:AOk (setSt G no 2):=s.setSt (by omega) (λ_=>l) (by omega);refine z7 (AgL.pass (st:=2) (K:=λw'=>qb Zp 291 #[qc a] w' λv w'=>AsL v λo n q=>∃p c,Zl o n q=.slice p [q73 0 (q27 P)].length c/\St W (qm2 p c [q73 0 (q27 P)]::qv a P (setSt G no 2)::F) w') t s.nod (by omega) b (λw' b=>?_) λw1 D E=>z7 (zt D (zn (by rw[f,l];rfl) (z7 ⟨trivial,E⟩))));exact(qrh (qv.shut e u b)).of λv w' ⟨p,c,C,h⟩=>⟨_,_,_,C,p,c,rfl,z03 2 h rfl⟩
 .rw[yA l];have e:AOk (setSt G no 3):=s.setSt (by omega) (by omega) (λ_=>l);refine z7 ?_;have k:=qsh (st:=3) t;refine AgL.pass (st:=3) t s.nod (by omega) b ?_ (λw1 D E=>z7 (zt D (zm (by rw[f];simpa using l) (z7 ⟨trivial,E⟩))));intro w' b;generalize I:setSt G no 3=G1 at b e k;have A:=z6 W (AgL a P m G1 (Row i 74 (q61 x)::F));refine⟨StC W _,zd b,z7 (z7 ⟨d.no,z0h λr w y=>AgL.line (l0:=[]) k ((A r w).1 y) (j:=0) rfl,d.tk,QtS.at λr w y=>AgL.line (l0:=[]) k ((A r w).1 y) (j:=1) rfl,?_⟩)⟩;refine zk (α:=Option Au×Nat) (V:=λz=>.slice z.1 1 z.2) (B:=λz=>qm2 z.1 z.2 [q73 no ⟨12,e0,d.tk,0,0⟩]::AgL a P m G1 (Row i 74 (q61 x)::F)) (A0,0) A (λr w h=>(qsb d.no ⟨12,e0,d.tk,0,0⟩ h).of λv w' ⟨p,c,C,h⟩=>⟨_,_,_,C,(p,c),rfl,by rw[f]at h;exact h⟩) λz=>⟨_,_,_,rfl,trivial,λr w h=>⟨_,_,rfl,?_⟩⟩;have b:=zb h;exact(qv.shut e u (zf 0 3 (z03 4 b rfl) rfl)).p1
end
def z10:=@QtS.at
end
section
section
variable{W w:World}{F:List Asn}{a m:Nat}{P:qe1}{G:AG}{no:Int}{d:LD}{x:qk1}{now:Int}
def qgs{f:Nat}{R:A4->A6->Prop}(g:¬(x.A=P.nam/\x.k=7))(i:¬(x.A=P.nam/\x.k=10/\G.held=Ab/\x.N=G.epoch))(t:AOk G)(hP:qv8 P)(l:St W (Row f 74 (q61 x)::AgL a P m G F) w)
 (hR:∀v w',(∃p c b,v=Zl p (qe2 P G x now b).2.length c/\St W (qm2 p c (qe2 P G x now b).2::qv a P (qe2 P G x now b).1::F) w')->R v w'):
 Bif (ByteArray.toList x.A==ByteArray.toList P.nam) (
  LdI Zk (Za ⟨f,0,A0⟩ 0) w λx81=>
  Bif (x81==11) (
  qa (A1 ⟨a,0,A0⟩) λa82=>
  LdI Zk (Za a82 10) w λx83=>
  Bif (decide (x83<1000)) (
  qa (A1 ⟨a,0,A0⟩) λa84=>
  LdI Zk (Za a84 10) w λx85=>
  qa (A1 ⟨a,0,A0⟩) λa86=>
  St1 (Za a86 10) (Zi Zk (Zw Zk (x85+1))) w λh2=>
  ∃(k:Cls),Cls.p k [] h2/\
  qa (A1 ⟨a,0,A0⟩) λh4=>
  ∃(I:Int),Qt k (Zi Zk I) (λQ K92=>
  LdI Zk (Za h4 10) Q λh0=>
  K92 (Zi Zk h0) Q)/\
  ∃(N:ByteArray),Qt k (Zs N) (λO K96=>
  LdS (Za ⟨f,0,A0⟩ 2) O λZ=>
  K96 (Zs Z) O)/\
  Ef k (λH J=>
  qb Zp 94 #[(Zq (A1 ⟨a,0,A0⟩)),(Zi Zk (Zw Zk (I - 1))),(Zs N)] H λT U=>
  AsL T λu s r=>
  J (Zl u s r) U) λL h1=>
  AsL L λC D z=>
  (True)/\
  ∀X o,Cls.p h1 X o->
  R (Zl C D z) o) (
  R (Zl A0 0 0) w)) (
  R (Zl A0 0 0) w)) (
  R (Zl A0 0 0) w):=by
 have hnx:=t.next;have A:¬(x.A=P.nam/\x.k=11/\G.next<1000)->R (Zl A0 0 0) w:=λh3=>by
  refine hR _ _ ⟨A0,0,0,?_,?_⟩;.unfold qe2;rw[yA g,yA i,yA h3];rfl
  .unfold qe2;rw[yA g,yA i,yA h3];exact qg8 (qv.shut t hP l.drop)
 rw[qv3];refine za (λE=>z8 0 l rfl rfl (za (λK=>z7 (z8 1 l rfl rfl (za (λM=>?_) λM=>A (λh=>(yD M) h.2.2)))) λK=>A (λh=>yI h.2.1 (by simpa using K)))) λE=>A (λh=>(yD E) h.1);have E:=yC E;have K:x.k=11:=by simpa using K
 have M:=yC M;refine z7 (z8 1 l rfl rfl (z7 ?_));rw[w64 (n:=G.next+1) (by omega) (by omega)];refine St1.zz 1 l rfl λw l=>?_;have l:St W (Row f 74 (q61 x)::AgL a P m { G with next:=G.next+1} F) w:=l;have hG':AOk { G with next:=G.next+1}:=⟨t.nod,λd hd=>by have:=t.nos d hd;exact⟨this.1,by show d.no<G.next+1;omega⟩,t.sts,⟨by show 1<=G.next+1;omega,by show G.next+1<=1000;omega⟩,t.last⟩;have q:qg2 { G with next:=G.next+1} G.next=A0:=qwc.2 λd hd e=>by have:=(t.nos d hd).2;omega
 have j:∀b,qe2 P G x now b=qp4 P { G with next:=G.next+1} G.next x.B b:=λb=>by unfold qe2;rw[yA g,yA i,yB ⟨E,K,M⟩]
 have hC:=z6 W (Row f 74 (q61 x)::AgL a P m { G with next:=G.next+1} F);refine⟨StC W _,zd l,z7 ⟨_,z0h λY w hw=>hC.cell 1 rfl rfl hw,x.B,z10 λY w hw=>hC.cell 0 rfl rfl hw,?_⟩⟩;have e1:Zw Zk (({ G with next:=G.next+1}:AG).next - 1)=G.next:=by show Zw Zk (G.next+1 - 1)=G.next;rw[w64];omega
 rw[e1];refine zk (α:=Option Au×Nat×Nat) (V:=λy=>.slice y.1 2 y.2.1) (B:=λy=>qm2 y.1 y.2.1 (qe2 P G x now y.2.2).2::qv a P (qe2 P G x now y.2.2).1::Row f 74 (q61 x)::F) (A0,0,0) hC (λY w h=>?_) λy=>⟨_,_,_,rfl,trivial,λY w h=>hR _ _ ⟨y.1,y.2.1,y.2.2,?_,?_⟩⟩
 .refine(qjk (P:=P) G.next x.B (by omega) (by show G.next<G.next+1;omega) q (qv.shut hG' hP (zf 0 3 h rfl))).of λv w' ⟨p,c,b,hv,h⟩=>⟨_,_,_,hv,(p,c,b),rfl,?_⟩;show St W (qm2 p c (qe2 P G x now b).2::qv a P (qe2 P G x now b).1::Row f 74 (q61 x)::(F++pts Y)) w';rw[j];exact h
 .rw[j];rfl
 .exact z03 2 (zb h) rfl
def qno(t:q14 now)(d:St W (qv a P G::F) w)(l:Option Au):
 qb Zp 290 #[qc a,Zq l,ql2 x,Zi Zk now] w λv w'=>∃p c b,v=Zl p (qe2 P G x now b).2.length c/\St W (qm2 p c (qe2 P G x now b).2::qv a P (qe2 P G x now b).1::F) w':=by
 obtain⟨m,n,y,d⟩:=z14 d;refine F290_of (zh d λj w d=>?_);have d:St W (Row j 74 (q61 x)::AgL a P m G F) w:=d;have q:=z6 W (Row j 74 (q61 x)::AgL a P m G F);refine⟨StC W _,zd d,z7 ⟨x.A,z10 λi w g=>q.cell 0 rfl rfl g,P.nam,z10 λi w g=>q.cell 1 rfl rfl g,λi w h=>?_⟩⟩;have d:=zb h;have tail:¬(x.A=P.nam/\x.k=7)->¬(x.A=P.nam/\x.k=10/\G.held=Ab/\x.N=G.epoch)->∀{w:A6},St W (Row j 74 (q61 x)::AgL a P m G F) w->_:=λB z {w} d=>qgs (now:=now) B z n y d λv w' h=>h;rw[qv3];refine za (λk=>z8 0 d rfl rfl (za (λf=>?_) λf=>?_)) λk=>?_
 .have k:=yC k;have f:x.k=7:=by simpa using f
  have e:∀b,qe2 P G x now b=({ G with held:=Ab,epoch:=x.N,last:=now},[]):=λb=>by unfold qe2;rw[yB ⟨k,f⟩]
  refine⟨StC W _,zd d,z7 ⟨x.N,z0h λi w g=>q.cell 0 rfl rfl g,?_⟩⟩;refine z0q 1 q rfl (by simp[agC]) ⟨rfl,zi 0 ir rfl rfl,z7 ?_⟩;refine z0q 1 ir rfl (by simp[agC]) ⟨rfl,trivial,z7 ?_⟩;refine z0q 1 ir rfl (by simp[agC]) ⟨rfl,trivial,λi w h=>⟨A0,0,0,by rw[e];rfl,?_⟩⟩;have d:=zb h;rw[e];have d:St W (Row j 74 (q61 x)::AgL a P m { G with held:=Ab,epoch:=x.N,last:=now} F) w:=d;exact qg8 (qv.shut ⟨n.nod,n.nos,n.sts,n.next,t⟩ y d.drop)
 .have k:=yC k;have o:¬x.k=7:=by simpa using f
  refine⟨StC W _,zd d,zn (yG k) ⟨x.k,z0h λi w g=>q.cell 0 rfl rfl g,za (λf=>z7 ⟨G.held,QtB.at λi w g=>q.cell 1 rfl rfl g,za (λu=>z7 ⟨x.N,z0h λi w g=>q.cell 0 rfl rfl g,G.epoch,z0h λi w g=>q.cell 1 rfl rfl g,λi w h=>?_⟩) λu=>λi w h=>?_⟩) λf=>λi w h=>?_⟩⟩
  .have d:=zb h;have f:x.k=10:=by simpa using f
   refine za (λr=>?_) λr=>?_
   .have r:x.N=G.epoch:=by simpa using r
    have e:∀b,qe2 P G x now b=({ G with held:=Aa,epoch:=0},[q73 0 (q27 P)]):=λb=>by unfold qe2;rw[yA (λh=>o h.2),yB ⟨k,f,u,r⟩]
    refine z7 (St1.zz 1 d rfl λw d=>z7 (St1.zz 1 d rfl λw d=>?_));have d:St W (Row j 74 (q61 x)::AgL a P m { G with held:=Aa,epoch:=0} F) w:=d;refine(qrh (qv.shut (G:={ G with held:=Aa,epoch:=0}) ⟨n.nod,n.nos,n.sts,n.next,n.last⟩ y d.drop)).of λv w' ⟨p,c,A,h⟩=>⟨_,_,_,A,p,c,0,by rw[e];rfl,?_⟩;rw[e];exact h
   .have r:¬x.N=G.epoch:=by simpa using r
    have:=tail (λh=>o h.2) (λh=>r h.2.2.2) d;rw[qv3]at this;exact this
  .have:=tail (λh=>o h.2) (λh=>by rw[u]at h;cases h.2.2.1) (zb h);rw[qv3]at this;exact this
  .have f:¬x.k=10:=by simpa using f
   have:=tail (λh=>o h.2) (λh=>f h.2.1) (zb h);rw[qv3]at this;exact this
 .have s:=yD k;refine⟨StC W _,zd d,zm k λi w h=>?_⟩;have:=tail (λh=>s h.1) (λh=>s h.1) (zb h);rw[qv3]at this;exact this
def qus(no:Int)(x:qk1)(now:Int)(g:St W (qv a P G::F) w):
 qb Zp 105 #[qc a,Zi Zk no,ql2 x,Zi Zk now] w λv w'=>∃p c b,v=Zl p (q22 P G no x now b).2.length c/\St W (qm2 p c (q22 P G no x now b).2::qv a P (q22 P G no x now b).1::F) w':=by
 obtain⟨m,u,C,g⟩:=z14 g;refine F105_of (zh g λe w g=>z7 (zv 1 g rfl rfl (qq1 kI uM iPt zPt 2 g rfl no Ab ?_)));rw[yB rfl,qj7];cases hl:qg2 G no with
 |none=>
  refine⟨A0,Aa,rfl,zn rfl ⟨A0,0,0,?_,?_⟩⟩;.unfold q22;rw[hl];rfl
  .unfold q22;rw[hl];exact qg8 (qv.shut u C g.drop)
 |some d=>
  have g:St W (Row e 74 (q61 x)::AgL a P m G F) w:=g;obtain⟨D,I⟩:=q36 hl;have E:=(u.sts d D).1;refine⟨A1 ⟨d.b,0,A0⟩,Ab,rfl,zm rfl (z7 ⟨qec a d.st,AgL.line (l0:=[]) hl g.drop (j:=2) rfl,?_⟩)⟩;have l:d.st=3\/¬q14 now->∀w,St W (Row e 74 (q61 x)::AgL a P m G F) w->∃p c b,Zl A0 0 0=Zl p (q22 P G no x now b).2.length c/\St W (qm2 p c (q22 P G no x now b).2::qv a P (q22 P G no x now b).1::F) w:=λh w g=>by
   refine⟨A0,0,0,?_,?_⟩;.unfold q22;rw[hl];dsimp only;rw[yB h];rfl
   .unfold q22;rw[hl];dsimp only;rw[yB h];exact qg8 (qv.shut u C g.drop)
  by_cases A:d.st=3
  .rw[A];exact⟨_,λw=>qbz w,_,rfl,zn rfl (l (.inl A) w g)⟩
  have t:∃f,qec a d.st=.func f #[qc a] #[]:=by
   have:d.st=0\/d.st=1\/d.st=2:=by omega
   rcases this with h|h|h<;>rw[h]<;>exact⟨_,rfl⟩
  obtain⟨f,H⟩:=t;refine⟨Zb Aa,λw=>by rw[H];exact qv01 f _ _ w,_,rfl,zm rfl ?_⟩;refine(qgk now g).of λv w ⟨r,g⟩=>⟨_,r,za (λn=>?_) λn=>?_⟩
  .have n:¬q14 now:=by simpa using n
   exact l (.inr n) w g
  have n:q14 now:=by simpa using n
  have s:∀b,q22 P G no x now b=if d.st=0 then(if x.k=2 then(setSt G no 1,[q73 no ⟨3,qt7 P x.A,e0,0,0⟩])else(G,[]))else if d.st=1 then(if x.k=4 then(if no=0 then(setSt G no 2,[q73 0 (q27 P)])else(setSt G no 3,[q73 no ⟨12,e0,d.tk,0,0⟩]))else(G,[]))else qe2 P G x now b:=λb=>by unfold q22;rw[hl];dsimp only;rw[yA (by rintro(h|h);exact A h;exact h n)]
  have q:=z6 W (Row e 74 (q61 x)::AgL a P m G F);refine⟨StC W _,zd g,z7 ⟨qec a d.st,λo w k=>⟨_,AgL.line (l0:=[]) hl ((q o w).1 k).drop (j:=2) rfl,rfl,k⟩,x.k,x.A,x.B,x.N,x.M,λo w k=>zt (q.cell 0 rfl rfl k) (z0p (q.cell 0 rfl rfl k) (z0p (q.cell 0 rfl rfl k) (zt (q.cell 0 rfl rfl k) (zt (q.cell 0 rfl rfl k) ⟨rfl,k⟩)))),?_⟩⟩;refine zk (α:=Option Au×Nat×Nat) (V:=λy=>.slice y.1 (q22 P G no x now y.2.2).2.length y.2.1) (B:=λy=>qm2 y.1 y.2.1 (q22 P G no x now y.2.2).2::qv a P (q22 P G no x now y.2.2).1::Row e 74 (q61 x)::F) (A0,0,0) q (λo w h=>?_) λy=>⟨_,_,_,rfl,trivial,λo w h=>⟨_,_,_,rfl,z03 2 (zb h) rfl⟩⟩;have z:St W (qv a P G::Row e 74 (q61 x)::(F++pts o)) w:=qv.shut u C (zf 0 3 h rfl);have:d.st=0\/d.st=1\/d.st=2:=by omega
  rcases this with i|i|i
  .rw[i];refine qn5.lit1 (by kernel_rfl) ((qcq (now:=now) (x:=x) hl i z).of λv w' ⟨p,c,r,h⟩=>⟨_,_,_,r,(p,c,0),?_,?_⟩);.rw[s,yB i]
   .show St W (qm2 p c (q22 P G no x now 0).2::qv a P (q22 P G no x now 0).1::Row e 74 (q61 x)::(F++pts o)) w';rw[s,yB i];exact h
  .rw[i];refine qn5.lit1 (by kernel_rfl) ((qun (now:=now) (x:=x) hl i z).of λv w' ⟨p,c,r,h⟩=>⟨_,_,_,r,(p,c,0),?_,?_⟩);.rw[s,yA (show ¬d.st=0 by omega),yB i]
   .show St W (qm2 p c (q22 P G no x now 0).2::qv a P (q22 P G no x now 0).1::Row e 74 (q61 x)::(F++pts o)) w';rw[s,yA (show ¬d.st=0 by omega),yB i];exact h
  .rw[i];refine qn5.lit1 (by kernel_rfl) ((qno (x:=x) n z _).of λv w' ⟨p,c,b,r,h⟩=>⟨_,_,_,r,(p,c,b),?_,?_⟩);.rw[s,yA (show ¬d.st=0 by omega),yA (show ¬d.st=1 by omega)]
   .show St W (qm2 p c (q22 P G no x now b).2::qv a P (q22 P G no x now b).1::Row e 74 (q61 x)::(F++pts o)) w';rw[s,yA (show ¬d.st=0 by omega),yA (show ¬d.st=1 by omega)];exact h
def Tick_spec(now:Int)(e:St W (qv a P G::F) w):
 qb Zp 30 #[qc a,Zi Zk now] w λv w'=>∃p c b,v=Zl p (qd3 P G now b).2.length c/\St W (qm2 p c (qd3 P G now b).2::qv a P (qd3 P G now b).1::F) w':=by
 obtain⟨m,i,o,e⟩:=z14 e;refine F30_of (z7 (zv 0 e rfl rfl (qq1 kI uM iPt zPt 1 e rfl 0 Ab ?_)));rw[yB rfl,qj7];cases hl:qg2 G 0 with
 |none=>
  refine⟨A0,Aa,rfl,zn rfl ?_⟩;refine(qii (qv.shut i o e)).of λv w' ⟨p,c,b,s,h⟩=>⟨_,_,_,s,p,c,b,?_,?_⟩;.unfold qd3;rw[yB (by rw[hl];rfl)]
  .unfold qd3;rw[yB (by rw[hl];rfl)];exact h
 |some d=>
  have H:=qv.shut i o e;have D:∀b,qd3 P G now b=if qh5 G 0=Ab/\G.held=Ab/\q14 now/\¬now - G.last<P.every then({ G with last:=now},[q73 0 ⟨8,P.nam,e0,G.epoch,P.ttl⟩])else(G,[]):=λb=>by unfold qd3;rw[yA (by rw[hl];simp)]
  have f:¬(qh5 G 0=Ab/\G.held=Ab/\q14 now/\¬now - G.last<P.every)->∀w,St W (qv a P G::F) w->∃p c b,Zl A0 0 0=Zl p (qd3 P G now b).2.length c/\St W (qm2 p c (qd3 P G now b).2::qv a P (qd3 P G now b).1::F) w:=λh w e=>by
   refine⟨A0,0,0,?_,?_⟩;.rw[D,yA h];rfl
   .rw[D,yA h];exact qg8 e
  refine⟨A1 ⟨d.b,0,A0⟩,Ab,rfl,zm rfl ⟨StC W _,zd e,?_⟩⟩;refine zk (α:=Nat) (V:=λ_=>Zb (qh5 G 0)) (B:=λm=>AgL a P m G F) m ir (λg w h=>(qgl 0 (qv.shut i o h)).of λv w' ⟨s,h⟩=>⟨_,s,?_⟩) λm=>⟨_,rfl,trivial,?_⟩
  .obtain⟨E,_,_,h⟩:=z14 h;exact⟨E,rfl,h⟩
  have A:=z6 W (AgL a P m G F);refine za (λu=>λg w h=>f (λq=>by rw[q.1]at u;cases u) w (qv.shut i o (zb h))) λu=>z7 ⟨G.held,QtB.at λg w j=>A.cell 0 rfl rfl j,za (λt=>λg w h=>f (λq=>by rw[q.2.1]at t;cases t) w (qv.shut i o (zb h))) λt=>?_⟩;refine zk (α:=Unit) (V:=λ_=>Zb (decide (q14 now))) (B:=λ_=>AgL a P m G F) () A (λg w h=>(qgk now h).of λv w' ⟨s,h⟩=>⟨_,s,(),rfl,h⟩) λ_=>⟨_,rfl,trivial,?_⟩;refine za (λl=>λg w h=>f (λq=>by rw[yG q.2.2.1]at l;cases l) w (qv.shut i o (zb h))) λl=>z7 (z7 ⟨G.last,z0h λg w j=>A.cell 0 rfl rfl j,P.every,z0h λg w j=>A.cell 0 rfl rfl j,λg w h=>?_⟩);have e:=zb h;have u:qh5 G 0=Ab:=by simpa using u
  have t:G.held=Ab:=by simpa using t
  have l:q14 now:=by simpa using l
  have r:=i.last;unfold q14 maxN at r;have C:=l;unfold q14 maxN at C;rw[w64 (n:=now - G.last) (by omega) (by omega)];refine za (λy=>f (λq=>q.2.2.2 (yC y)) w (qv.shut i o e)) λy=>?_;have y:=yD y;have x:∀b,qd3 P G now b=({ G with last:=now},[q73 0 ⟨8,P.nam,e0,G.epoch,P.ttl⟩]):=λb=>by rw[D,yB ⟨u,t,l,y⟩]
  refine z7 (St1.zz 0 e rfl λw e=>?_);have e:St W (AgL a P m { G with last:=now} F) w:=e;have k:=z6 W (AgL a P m { G with last:=now} F);refine⟨StC W _,zd e,z7 (z7 (z7 ⟨P.nam,z10 λg w j=>k.cell 0 rfl rfl j,G.epoch,z0h λg w j=>k.cell 0 rfl rfl j,P.ttl,z0h λg w j=>k.cell 0 rfl rfl j,?_⟩))⟩;refine zk (α:=Option Au×Nat) (V:=λz=>.slice z.1 1 z.2) (B:=λz=>qm2 z.1 z.2 [q73 0 ⟨8,P.nam,e0,G.epoch,P.ttl⟩]::AgL a P m { G with last:=now} F) (A0,0) k (λg w h=>(qsb 0 ⟨8,P.nam,e0,G.epoch,P.ttl⟩ h).of λv w' ⟨p,c,s,h⟩=>⟨_,_,_,s,(p,c),rfl,h⟩) λz=>⟨_,_,_,rfl,trivial,λg w h=>⟨_,_,0,by rw[x];rfl,?_⟩⟩;have e:=zb h;rw[x];exact(qv.shut (G:={ G with last:=now}) ⟨i.nod,i.nos,i.sts,i.next,l⟩ o (zf 0 3 e rfl)).p1
end
end
def qi5(x:Int):UInt8:=UInt8.ofNat (x%256).toNat
def q2i(x:Int):Zi .u8 (Zw .u8 x)=qd (qi5 x):=by unfold qd qi5;rw[UInt8.toNat_ofNat'];have h:Zw .u8 x=x%256:=rfl;rw[h];congr 1;have a:0<=x%256:=Int.emod_nonneg _ (by decide);have w:x%256<256:=Int.emod_lt_of_pos _ (by decide);omega
def qry(x:Int):Zw .u8 x=((qi5 x).toNat:Int):=by have:=q2i x;unfold qd at this;exact Value.int.inj this |>.2
def qvg(n:Int)(i:Nat):Int:=Zw Zk ↑((Ae (A2 Zk) (Int.fdiv n (2 ^ min (Int.toNat (Zw Zk (7*(Zw Zk (5 -(i:Int)))))) (A2 Zk)))&&& Ae (A2 Zk) 127).toNat)
def qcr(x:UInt8):UInt8:=qi5 ↑((Ae (A2 .u8) (x.toNat:Int)|||BitVec.ofInt (A2 .u8) 128).toNat)
def q6l(x:UInt8):UInt8:=qi5 ↑((Ae (A2 .u8) (x.toNat:Int)&&& Ae (A2 .u8) 127).toNat)
def q1g(n:Int)(out:List UInt8)(i:Nat):List UInt8:=if 0<(qi5 (qvg n i)).toNat\/0<out.length then out++[qcr (qi5 (qvg n i))]else out
def q42(n:Int)(i:Nat):List UInt8:=(List.range i).foldl (q1g n) []
def qzc(n:Int):List UInt8:=
 if n<0\/n>1099511627776 then []else
 match (q42 n 6).getLast? with
 |none=>[0]
 |some x=>(q42 n 6).dropLast++[q6l x]
def qqi(n:Int)(i:Nat):q42 n (i+1)=q1g n (q42 n i) i:=by unfold q42;rw[List.range_succ,B5];rfl
def qnf(n:Int):∀i,(q42 n i).length<=i
 |0=>by simp[q42]
 |i+1=>by
  rw[qqi];have:=qnf n i;unfold q1g;split;.simp;omega
  .omega
def qxw{α:Type}(l:List α)(y:α)(h:l≠[]):l.set (l.length - 1) y=l.dropLast++[y]:=by
 rcases List.eq_nil_or_concat l with e|⟨L,x,rfl⟩;.exact(h e).elim
 .simp
def q1k{W w:A6}{F:List Asn}(n:Int)(d:St W F w):
 qb Zp 97 #[Zi Zk n] w λv w'=>∃p c,v=Zl p (qzc n).length c/\St W (qi 5 1 p (qzc n).length c ((qzc n).map qd)::F) w':=by
 refine F97_of (za (λh=>?_) λh=>za (λq=>?_) λq=>?_)
 .have h:=yC h;unfold qzc;rw[yB (.inl h)];exact⟨A0,0,rfl,z1a _ _ _ d⟩
 .have q:=yC q;unfold qzc;rw[yB (.inr q)];exact⟨A0,0,rfl,z1a _ _ _ d⟩
 have h:=yD h;have q:=yD q;refine⟨λvs w=>∃p i c,vs=[Zl p (q42 n i).length c,Zi Zk ((i:Nat):Int)]/\i<=6/\St W (qi 5 1 p (q42 n i).length c ((q42 n i).map qd)::F) w,leftN 6,⟨A0,0,0,rfl,by omega,z1a _ _ _ d⟩,λt X c1 x w P=>?_⟩;obtain⟨R,i,T,A,V,d⟩:=P;cases A;have N:=qnf n i;refine za (λg=>?_) λy=>?_
 .have g:i<6:=by have:=yC g;omega
  have G:=up g (by omega);have r:∀{w:A6} {K:A4->A6->Prop},q42 n (i+1)=q42 n i++[qcr (qi5 (qvg n i))]->St W (qi 5 1 t (q42 n i).length c1 ((q42 n i).map qd)::F) w->
   (∀p c w',St W (qi 5 1 p (q42 n (i+1)).length c ((q42 n (i+1)).map qd)::F) w'->K (Zl p (q42 n (i+1)).length c) w')->
   qh #[(Zi .u8 (Zw .u8 ↑((Ae (A2 .u8) ((qi5 (qvg n i)).toNat:Int)|||BitVec.ofInt (A2 .u8) 128).toNat)))] 5 w λb w1=>Run Zp (Builtin.append_ #[22,22] 22 #[(Zl t (q42 n i).length c1),(Zl (A1 ⟨b,0,A0⟩) 1 1)]) w1 K:=λ{w K} e d hK=>by
   refine zh d λb w d=>?_;rw[q2i]at d;refine qp8 uB (.inr ⟨_,uB⟩) iU8 sU8 zU8 rfl d.p1 (xs:=[qcr (qi5 (qvg n i))].map qd) (m:=1) z0m rfl q82 (by rw[bU8];omega) (by omega) λY U w' h=>?_;have h:=h.p1.drop;rw[<-Ao,<-e]at h;have B:(q42 n i).length+1=(q42 n (i+1)).length:=by rw[e];simp
   rw[B]at h⊢;exact hK _ _ _ h
  have l:∀{p c w'},St W (qi 5 1 p (q42 n (i+1)).length c ((q42 n (i+1)).map qd)::F) w'->(∃M j I,[Zl p (q42 n (i+1)).length c,Zi Zk ((i+1:Nat):Int)]=[.slice M (q42 n j).length I,Zi Zk ((j:Nat):Int)]/\j<=6/\St W (qi 5 1 M (q42 n j).length I ((q42 n j).map qd)::F) w')/\leftN 6 [Zl p (q42 n (i+1)).length c,Zi Zk ((i+1:Nat):Int)] w'<leftN 6 [Zl t (q42 n i).length c1,Zi Zk (i:Int)] w:=λ{p c w'} h=>⟨⟨p,i+1,c,rfl,by omega,h⟩,by show 6 -(i+1)<6 - i;omega⟩;have C:Zw Zk (7*(Zw Zk (5 -(i:Int))))=7*(5 -(i:Int)):=by rw[w64 (n:=5 -(i:Int)) (by omega) (by omega),w64]
  refine⟨by rw[C];omega,?_⟩;rw[G];obtain⟨z,E⟩:∃z,z=qvg n i:=⟨_,rfl⟩;have D:=E;unfold qvg at E;rw[<-E,qry z,D];have f:=qqi n i;unfold q1g at f;refine za (λu=>?_) λu=>za (λs=>?_) λs=>?_
  .have u:=yC u;rw[yB (.inl (by omega))]at f;exact r f d (λp c w' h=>⟨_,_,_,rfl,l h⟩)
  .have s:=yC s;rw[yB (.inr (by omega))]at f;exact r f d (λp c w' h=>⟨_,_,_,rfl,l h⟩)
  .have u:=yD u;have s:=yD s;rw[yA (by omega)]at f;have:=l (p:=t) (c:=c1) (w':=w) (by rw[f];exact d);rw[f]at this;exact this
 have H:i=6:=by have:=yD y;omega
 subst H;unfold qzc;rw[yA (by omega)];cases hl:(q42 n 6).getLast? with
 |none=>have A:q42 n 6=[]:=List.getLast?_eq_none_iff.1 hl;rw[A]at d⊢;refine zn rfl (zh d.drop λb w d=>⟨_,_,rfl,?_⟩);exact qi.whole rfl d
 |some x=>
  have o:q42 n 6≠[]:=λe=>by rw[e]at hl;cases hl
  have J:0<(q42 n 6).length:=List.length_pos_iff.2 o;have k:(q42 n 6)[(q42 n 6).length - 1]?=A1 x:=by rw[<-List.getLast?_eq_getElem?];exact hl
  have B:Zw Zk (((q42 n 6).length:Int) - 1)=(((q42 n 6).length - 1:Nat):Int):=by rw[w64];omega
  refine zm (by simpa using o) ?_;rw[B];refine z0l (z0j F) d rfl (by omega) (v:=qd x) (by rw[As,k];rfl) λa O=>zt O ?_;rw[q2i];refine qi.ix d (by omega) _ λw h=>?_;have Q:((q42 n 6).map qd).set ((q42 n 6).length - 1) (qd (q6l x))=((q42 n 6).dropLast++[q6l x]).map qd:=by rw[<-List.map_set,qxw _ _ o]
  have L:((q42 n 6).dropLast++[q6l x]).length=(q42 n 6).length:=by simp;omega
  dsimp only;refine⟨t,c1,by rw[L],?_⟩;rw[L,<-Q];exact h
def qr3(b:List UInt8):List UInt8×Nat×Bool:=
 match b with
 |[]=>([],0,Aa)
 |x::r=>if x.toNat+1>b.length then([],0,Aa)else(r.take x.toNat,x.toNat+1,Ab)
def qlr{W w:A6}{F:List Asn}{p:Option Au}{c:Nat}{b:List UInt8}(g:Rd F p (b.map qd))(l:b.length<=c)(d:St W F w):
 qb Zp 246 #[Zl p b.length c] w λv w'=>v=Zt #[Zs (mkS (qr3 b).1),Zi Zk ((qr3 b).2.1:Nat),Zb (qr3 b).2.2]/\St W F w':=by
 refine F246_of ?_;cases b with
 |nil=>exact zn rfl ⟨rfl,d⟩
 |cons x r=>
  have o:x.toNat<256:=x.toNat_lt;refine zm (by simp;omega) (z0l g d rfl (k:=0) (by simp) (v:=qd x) rfl λa i=>zt i ?_);have m:Zw Zk ((Zw Zk (x.toNat:Int))+1)=((x.toNat+1:Nat):Int):=by rw[w64 (n:=(x.toNat:Int)) (by omega) (by omega),w64];omega
  rw[m];refine za (λh=>?_) λh=>?_
  .have h:=yC h;have e:qr3 (x::r)=([],0,Aa):=yB (by omega);rw[e];exact⟨rfl,d⟩
  have h:=yD h;have e:qr3 (x::r)=(r.take x.toNat,x.toNat+1,Ab):=yA (by omega);rw[e];refine SlP.i (a:=1) (b:=x.toNat+1) g (by simp) l rfl rfl (by omega) (by omega) λq f=>?_;rw[Nat.one_mul,Ba,B2,<-List.map_drop,<-B1]at f;rw[B2];have j:(List.take x.toNat (List.drop 1 (x::r))).length=x.toNat:=by simp at h⊢;omega
  exact qbi uB uU8 uS d f j ⟨_,rfl,rfl,d⟩
def q01.fn{P:Bh}{t:TypeId}{f:Ar}{first cap:Array A4}{args:List A4}{w:A6}{K:A4->A6->Prop}(a:q33 P f=Ab)(h:qb P f (first++args.toArray++cap) w K):q01 P t (.func (.func f) first cap) args w K:=
 .inl ⟨f,first,cap,rfl,a,h⟩
def qt4{α:Type}(g:α->Bool)(xs:List α):Int:=match xs.findIdx? g with|some i=>(i:Int)|none=>-1
def qs8{α:Type}{g:α->Bool}{xs:List α}{i:Nat}{x:α}(h:xs[i]?=A1 x)(c:g x=Ab)(a:∀j y,j<i->xs[j]?=A1 y->g y=Aa):qt4 g xs=(i:Int):=by unfold qt4;have w:=(A5.1 h).1;rw[Ak.2 ⟨w,by rw[Af w]at h;cases h;exact c,λj b=>by have:=a j _ b (Af (by omega));simp[this]⟩]
def qq8{α:Type}{g:α->Bool}{xs:List α}(h:∀(j:Nat) y,xs[j]?=A1 y->g y=Aa):qt4 g xs= -1:=by unfold qt4;rw[List.findIdx?_eq_none_iff.2 λy a=>by obtain⟨j,w⟩:=Ad a;exact h j y w]
def q9w{W w:A6}{F:List Asn}{p:Option Au}{c:Nat}{xs:List UInt8}{o:A4}(g:UInt8->Bool)(t:Rd F p (xs.map qd))(A:xs.length<=9223372036854775807)
 (s:∀(x:UInt8) (w:A6) (K:A4->A6->Prop),St W F w->(∀w',St W F w'->K (Zb (g x)) w')->q01 Zp 4 o [qd x] w K) (d:St W F w):
 qb Zp 302 #[Zl p xs.length c,o] w λv w'=>v=Zi Zk (qt4 g xs)/\St W F w':=by
 refine F302_of ⟨λvs w=>∃i:Nat,vs=[Zi Zk i]/\i<=xs.length/\(∀j y,j<i->xs[j]?=A1 y->g y=Aa)/\St W F w,leftN xs.length,⟨0,rfl,by omega,λj y h=>by omega,d⟩,λx w q=>?_⟩;obtain⟨i,u,B,m,d⟩:=q;cases u;refine za (λb=>?_) λk=>?_
 .have b:i<xs.length:=by have:=yC b;omega
  have f:xs[i]?=A1 (xs[i]'b):=Af _;generalize xs[i]'b=y at f;refine z0l t d rfl b (v:=qd y) (by rw[As,f];rfl) λa r=>zt r (s y w _ d λw' d=>⟨_,rfl,?_⟩);cases hy:g y with
  |true=>exact⟨by rw[qs8 f hy m],d⟩
  |false=>
   rw[up b A];exact⟨⟨i+1,rfl,by omega,λj z C n=>by
    by_cases e:j=i;.subst e;rw[f]at n;cases n;exact hy
    .exact m j z (by omega) n,d⟩,by show xs.length -(i+1)<xs.length - i;omega⟩
 have l:i=xs.length:=by have:=yD k;omega
 subst l;exact⟨by rw[qq8 λj y h=>m j y (A5.1 h).1 h],d⟩
def q7g(n:Int)(x:UInt8):Int:=Zw Zk ↑((Ae (A2 Zk) (Zw Zk (n*2 ^ min (Int.toNat 7) (A2 Zk)))|||BitVec.ofInt (A2 Zk) (Zw Zk (Zw .u8 ↑((Ae (A2 .u8) (x.toNat:Int)&&& Ae (A2 .u8) 127).toNat)))).toNat)
def qfi(x:UInt8):Bool:=decide ((x.toNat:Int)<128)
def q05(b:List UInt8):Int×Nat×Bool:=
 match (b.take 6).findIdx? qfi with
 |none=>(0,0,Aa)
 |some e=>
  if((b.headD 0).toNat:Int)=128 then(0,0,Aa)else
  if(b.take (e+1)).foldl q7g 0>1099511627776 then(0,0,Aa)else((b.take (e+1)).foldl q7g 0,e+1,Ab)
def qxt{W w:A6}{F:List Asn}{x:UInt8}{K:A4->A6->Prop}(a:St W F w)(c:∀w',St W F w'->K (Zb (qfi x)) w'):q01 Zp 4 (.func (.func 303) #[] #[]) [qd x] w K:=by have h:=c w a;unfold qfi at h;have b:qb Zp 303 #[Zi .u8 (x.toNat:Int)] w K:=F303_of h;exact q01.fn (by kernel_rfl) b
def qat{W w:A6}{F:List Asn}{p:Option Au}{c:Nat}{b:List UInt8}(t:Rd F p (b.map qd))(D:b.length<=c)(d:St W F w):
 qb Zp 248 #[Zl p b.length c] w λv w'=>v=Zt #[Zi Zk (q05 b).1,Zi Zk ((q05 b).2.1:Nat),Zb (q05 b).2.2]/\St W F w':=by
 refine F248_of ?_;have em:(if(6:Int)<(b.length:Int)then(6:Int)else(b.length:Int))=((min 6 b.length:Nat):Int):=by split<;>omega
 rw[em];refine SlP.i (a:=0) (b:=min 6 b.length) t (by simp) D rfl rfl (by omega) (by omega) λN j=>?_;rw[Bd,Bc,Ba,Aq,<-B1]at j;rw[Aq,Aq];have E:b.take (min 6 b.length)=b.take 6:=by
  rcases Nat.le_total 6 b.length with h|h;.rw[Nat.min_eq_left h]
  .rw[Nat.min_eq_right h,Av (Bf _),Av h]
 rw[E]at j;have I:min 6 b.length=(b.take 6).length:=by rw[Am]
 rw[I];refine(q9w qfi j (by rw[Am];omega) (λx w K d J=>qxt d J) d).of λv w ⟨H,d⟩=>⟨_,H,?_⟩;unfold q05 qt4;cases hf:(b.take 6).findIdx? qfi with
 |none=>exact zn rfl ⟨rfl,d⟩
 |some e=>
  have B:e<(b.take 6).length:=(Ak.1 hf).1;rw[Am]at B;dsimp only;refine zm (yH (by omega)) ?_;cases b with
  |nil=>simp at B
  |cons x r=>
   refine z0l t d rfl (k:=0) (by simp) (v:=qd x) rfl λa u=>zt u ?_;have C:Zw Zk ((e:Int)+1)=((e+1:Nat):Int):=by rw[w64];omega
   refine za (λh=>?_) λh=>?_
   .have h:(x.toNat:Int)=128:=by simpa using h
    rw[yB (by exact h)];exact⟨rfl,d⟩
   have h:¬(x.toNat:Int)=128:=by simpa using h
   rw[yA (by exact h),C];refine SlP.i (a:=0) (b:=e+1) t (by simp) D rfl rfl (by omega) (by omega) λL g=>?_;rw[Bd,Bc,Ba,Aq,<-B1]at g;simp only[Aq];have m:((x::r).take (e+1)).length=e+1:=by rw[Am];omega
   generalize (x::r).take (e+1)=l at g m⊢;rw[<-m]at C⊢;refine⟨λvs w=>∃i:Nat,vs=[Zi Zk ((l.take i).foldl q7g 0),Zi Zk i]/\i<=l.length/\St W F w,leftN l.length,⟨0,rfl,by omega,d⟩,λn y w G=>?_⟩;obtain⟨i,z,M,d⟩:=G;cases z;refine za (λf=>?_) λo=>?_
   .have f:i<l.length:=by have:=yC f;omega
    have q:l[i]?=A1 (l[i]'f):=Af _;generalize l[i]'f=y at q;refine z0l g d rfl (by omega) (v:=qd y) (by rw[As,q];rfl) λa u=>zt u ⟨by decide,?_⟩;rw[up f (by omega)];have s:(l.take (i+1)).foldl q7g 0=q7g ((l.take i).foldl q7g 0) y:=by rw[List.take_add_one,q,B5];rfl
    exact⟨⟨i+1,by rw[s];rfl,by omega,d⟩,by show l.length -(i+1)<l.length - i;omega⟩
   have A:i=l.length:=by have:=yD o;omega
   subst A;rw[List.take_length];refine za (λh=>?_) λh=>?_;.rw[yB (yC h)];exact⟨rfl,d⟩
   .rw[yA (yD h)];exact⟨rfl,d⟩
def zw:=@q01.fn
def qjp{F:Fence}(q:qx4 F){P:Bh}{n:Nat}{g:Array Oper}{w:A6}{K:Env->A6->Prop}{Q:Exit->Act->A6->Prop}{d:List Deferred}(u:∀e' j,K e' w->qs1 n e' (qi6 j)->j.defers=d->Q .normal j w):
 ∀(l:List Oper) (e:Env) (a:Act),l.all qv5=Ab->q5f P n l e w K->qs1 n e (qi6 a)->a.defers=d->wpListIn F 0 P g Q l a w
 |[],e,a,_,h,c,i=>u e a h c i
 |o::r,e,a,s,h,c,i=>by
  simp only[List.all_cons,B9]at s;obtain⟨f,x⟩:=s;unfold qv5 at f;simp only[B9,Bool.not_eq_true',Option.isNone_iff_eq_none]at f;obtain⟨v,D,A⟩:=qwo (a:=qi6 a) h c;obtain⟨C,y,b,_⟩:=qn3 D c;have B:(qi6 a).put o.dst v=qi6 (a.put o.dst v):=by cases o.dst<;>rfl
  rw[B]at b;have m:(execOp a.eval o).run P w=.ok (.value v) w:=A;refine wpListIn_plain f.1 λE p=>qz1.wpIn q (R:=λt w'=>t=v/\w'=w) (qd2 m ⟨rfl,rfl⟩) (.inr (q1e f.2)) λt w' ⟨z,k⟩=>?_;subst z;subst k;exact p _ _ (qjp q u r C _ x y b ((Act.put_defers' ..).trans i))
def qmj{F:Fence}(f:qx4 F){P:Bh}{n id:Nat}{b:Array Oper}{Q:Exit->Act->A6->Prop}{K:Env->A6->Prop}{e:Env}{w:A6}{a:Act}(g:b.toList.all qv5=Ab)(h:q5f P n b.toList e w K)(d:qs1 n e (qi6 a))
 (i:∀e' c,K e' w->qs1 n e' (qi6 c)->c.defers=a.defers->Q .normal c w):(Code.region id b Aa).wpIn F 0 P Q a w:=
 wpIn_region_list (qjp f i _ _ _ g h d rfl)
def qo1:B6->Array Oper
 |.region _ ops _=>ops
 |_=>#[]
def q7q:B6->B6
 |.block _ (.rangeFunc _ _ a _)=>a
 |_=>.skip
def qzq:B6->B6
 |.block _ (.rangeFunc _ _ _ b)=>b
 |_=>.skip
def inB:B6->B6
 |.block _ b=>b
 |_=>.skip
def q47:∀{e:Env} {t:Nat} {v:A4},q23 e t=A1 v->(t,v)∈e
 |(s,u)::r,t,v,h=>by
  simp only[q23]at h;cases hb:Nat.beq s t with
  |true=>rw[hb]at h;simp only[cond_true,Option.some.injEq]at h;have:=Nat.eq_of_beq_eq_true hb;subst this;subst h;exact List.mem_cons_self
  |false=>rw[hb]at h;exact List.mem_cons_of_mem _ (q47 h)
def qs1.pick{n:Nat}{e e':Env}{a:Act}(w:qs1 n e a)(h:∀x∈e',q23 e x.1=A1 x.2):qs1 n e' a:=
 ⟨w.defers,w.size,λt v b=>w.val t v (h (t,v) (q47 b))⟩
def qs1.put1{n d:Nat}{e:Env}{a:Act}(v:A4)(w:qs1 n e a)(b:d<n):qs1 n ((d,v)::e) (a.put (A1 d) v):=by
 obtain⟨e',f,h,_⟩:=qn3 (n:=n) (d:=A1 d) (v:=v) (e:=e) (k:=λe'=>e'=(d,v)::e) (by have c:Nat.blt d n=Ab:=Nat.ble_eq_true_of_le b;simp only[qc2,c]) w
 rw[f]at h;exact h
def mixed:Zp.follows .mixedOrders=Ab:=by kernel_rfl
def q7b{κ:Type}(W:A6)(ev:κ->A4)(h:Ar)(cap:A4)(M:List Asn)(N:Nat)(G:List κ->Prop):Prop:=
 ∀(B:List κ->Asn) (a:A4) (w:A6),(∀(X:List Asn) (l:List κ) (x:κ) (w:A6) (K:A4->A6->Prop),l.length<N->St W (B l::X) w->(∀w',St W (B (l++[x])::X) w'->K (.bool Ab) w')->q01 Zp 4 a [ev x] w K)->
  St W (B []::M) w->qb Zp h #[a,cap] w λv w'=>v=.tuple #[]/\∃l,G l/\St W (B l::M) w'
section
set_option maxRecDepth 100000
namespace AppI
open Go Go.Proofs.YtfjifcfbmhpcaaaGreatDoor
abbrev ev:Int->A4:=Zi Zk
abbrev eV(x:Int):List A4:=[ev x]
def eV1(x:Int):(eV x).length=1:=rfl
def eVn(x:Int):∀v∈eV x,qn1 v:=λv h=>by simp only[eV,A7,A3,yK]at h;subst h;trivial
def uSl:Zp.underlying 28=A1 (.slice 3):=Tryz.underlying28
def iE:Zp.info? 3=A1 Tryz.t3:=by kernel_rfl
def sE:Tryz.t3.size=1:=rfl
def zE:∃z,Tryz.t3.zero=A1 z/\z.cells.size=1:=⟨_,rfl,rfl⟩
def bE:Tryz.t3.bytes<=100:=by decide+kernel
noncomputable def apC:B6:=Tryz.f107.body.getD .skip
noncomputable def cR(i:Nat):B6:=(q63 apC).getD i .skip
noncomputable def apA:B6:=q7q (cR 2)
noncomputable def apB:B6:=qzq (cR 2)
def ap_body:Tryz.f107.body=A1 apC:=by kernel_rfl
def ap_n:Tryz.f107.ntmps=13:=by kernel_rfl
def ap_eq:apC=.seq (.region 0 (qo1 (cR 0)) Aa) (.seq (.seq (.region 1 (qo1 (cR 1)) Aa) (.block 0 (.rangeFunc (.tmp 6) #[7] apA apB))) (.seq (.region 4 (qo1 (cR 3)) Aa) .ret)):=by kernel_rfl
def apA_eq:apA=.region 2 (qo1 apA) Aa:=by kernel_rfl
def apB_eq:apB=.block 1 (.region 3 (qo1 (inB apB)) Aa):=by kernel_rfl
def tame0:(qo1 (cR 0)).toList.all qv5=Ab:=by kernel_rfl
def tame1:(qo1 (cR 1)).toList.all qv5=Ab:=by kernel_rfl
def tame2:(qo1 apA).toList.all qv5=Ab:=by kernel_rfl
def tame3:(qo1 (inB apB)).toList.all qv5=Ab:=by kernel_rfl
def tame4:(qo1 (cR 3)).toList.all qv5=Ab:=by kernel_rfl
section
variable(p:Option Addr)(n c:Nat)(w:World)(K:Env->World->Prop)(b2:Nat)(s:Value)
def ops_0:qy7 Zp 13 (qo1 (cR 0)).toList [(1,s),(0,Zl p n c)] w K=(qh #[Zl p n c] 28 w λb w=>K [(4,Zl A0 0 0),(2,Zq (A1 ⟨b,0,A0⟩)),(1,s),(0,Zl p n c)] w):=by kernel_rfl
def ops_1(e:Env):qy7 Zp 13 (qo1 (cR 1)).toList ((4,Zl A0 0 0)::(2,Zq (A1 ⟨b2,0,A0⟩))::(1,s)::e) w K=K ((6,s)::(4,Zl A0 0 0)::(2,Zq (A1 ⟨b2,0,A0⟩))::(1,s)::e) w:=by kernel_rfl
def ops_2(x:Int)(e:Env):qy7 Zp 13 (qo1 apA).toList ((7,ev x)::e) w K=K ((5,ev x)::(7,ev x)::e) w:=by kernel_rfl
def ops_3(x:Int):qy7 Zp 13 (qo1 (inB apB)).toList [(5,ev x),(2,Zq (A1 ⟨b2,0,A0⟩))] w K=
 LdL ⟨b2,0,A0⟩ w λq m d=>qh #[ev x] 3 w λb w=>Run Zp (Builtin.append_ #[28,28] 28 #[Zl q m d,.slice (A1 ⟨b,0,A0⟩) 1 1]) w λv w=>AsL v λa h c=>
  St1 ⟨b2,0,A0⟩ (.slice a h c) w λw=>K [(11,.slice a h c),(10,.slice (A1 ⟨b,0,A0⟩) 1 1),(9,ev x),(8,Zl q m d),(5,ev x),(2,Zq (A1 ⟨b2,0,A0⟩))] w:=by kernel_rfl
def ops_4:q5f Zp 13 (qo1 (cR 3)).toList [(2,Zq (A1 ⟨b2,0,A0⟩))] w K=
 LdL ⟨b2,0,A0⟩ w λq m d=>K [(4,Zl q m d),(12,Zl q m d),(2,Zq (A1 ⟨b2,0,A0⟩))] w:=by kernel_rfl
def ap_res(q:Option Au)(m d:Nat)(e:Env)(K:List A4->Prop):q66 Zp Tryz.f107.results.toList ((4,Zl q m d)::e) w K=K [Zl q m d]:=by kernel_rfl
end
noncomputable def recC(fn:Ar)(tmps:Array A4)(D:Nat)(s:An):Loop:={ state:=s,pending:=A0,fn:=fn,tmps:=tmps,params:=#[7],assign:=apA,body:=apB,defers:=D}
def BufA(fn:Ar)(tmps:Array A4)(s:An)(l D b2:Nat)(L:List Int):Asn:=exA λy:Option Au×Nat=>qz [Pt l (.loop (recC fn tmps D s)),Pt D (.deferred (A1 [])),Row b2 28 [.slice y.1 L.length y.2],SlA 3 1 eV y.1 y.2 L]
def BufA.open_{W w:A6}{F:List Asn}{fn:Ar}{tmps:Array A4}{s:An}{l D b2:Nat}{L:List Int}(h:St W (BufA fn tmps s l D b2 L::F) w):
 ∃p c,St W (Pt l (.loop (recC fn tmps D s))::Pt D (.deferred (A1 []))::Row b2 28 [Zl p L.length c]::SlA 3 1 eV p c L::F) w:=by
 obtain⟨⟨p,c⟩,h⟩:=h.of_ex;exact⟨p,c,h.of_sep⟩
def BufA.shut{W w:A6}{F:List Asn}{fn:Ar}{tmps:Array A4}{s:An}{l D b2:Nat}{L:List Int}(p:Option Au)(c:Nat)(h:St W (Pt l (.loop (recC fn tmps D s))::Pt D (.deferred (A1 []))::Row b2 28 [Zl p L.length c]::SlA 3 1 eV p c L::F) w):St W (BufA fn tmps s l D b2 L::F) w:=
 z00 (p,c) (zj (l:=[_,_,_,_]) h)
def fold_one(tmps:Array A4)(a:A4):(Bi (#[7]:Array Tmp) [a].toArray).foldl (λtmps (t,a)=>tmps.setIfInBounds t a) tmps=tmps.setIfInBounds 7 a:=by simp
section
variable{W w:World}{F M:List Asn}{fn:FuncId}{tmps:Array Value}{l D b2:Nat}{L:List Int}
def round_spec(x:Int)(r:qs1 13 [(2,Zq (A1 ⟨b2,0,A0⟩))] { tmps:=tmps,defers:=[]})(u:L.length<=1000000)
 (h:St W (BufA fn tmps .ready l D b2 L::F) w):
 RoundIn Aj 0 Zp l fn (tmps.setIfInBounds 7 (ev x)) apA apB w λq w'=>∃v,q=.returned v/\v=Zb Ab/\St W (BufA fn tmps .ready l D b2 (L++[x])::F) w':=by
 obtain⟨p,c,h⟩:=BufA.open_ h;refine roundIn_of_wpIn trivial ?_;have o:qx4 (Aj.inRound l):=.inr ⟨l,rfl⟩;have t:qs1 13 [(7,ev x),(2,Zq (A1 ⟨b2,0,A0⟩))] { tmps:=tmps.setIfInBounds 7 (ev x),defers:=[]}:=r.put1 (d:=7) (ev x) (by decide);rw[apA_eq];refine qk6 o tame2 (K:=λe' w'=>e'=[(5,ev x),(7,ev x),(2,Zq (A1 ⟨b2,0,A0⟩))]/\w'=w) (by rw[ops_2];exact⟨rfl,rfl⟩) t ?_;rintro E a2 B ⟨rfl,rfl⟩ ha2;have f:qs1 13 [(5,ev x),(2,Zq (A1 ⟨b2,0,A0⟩))] a2:=ha2.pick λy n=>by simp only[A7,A3,yK]at n;rcases n with rfl|rfl<;>rfl
 obtain⟨g,h⟩:=h.turn (o':=.loop (recC fn tmps D .busy));refine⟨_,run_beginRound g rfl,?_⟩;rw[apB_eq];refine wpIn_block (qk6 o tame3 (K:=λe' w'=>∃a e,St W (Pt l (.loop (recC fn tmps D .busy))::Pt D (.deferred (A1 []))::Row b2 28 [Zl a (L++[x]).length e]::SlA 3 1 eV a e (L++[x])::F) w') ?_ f ?_)
 .rw[ops_3];refine LdL.n 2 h rfl rfl (zh h λb w h=>?_);have h:St W (Row b 3 (Aw eV [x])::Pt l (.loop (recC fn tmps D .busy))::Pt D (.deferred (A1 []))::Row b2 28 [Zl p L.length c]::SlA 3 1 eV p c L::F) w:=h;obtain⟨z,s,k⟩:=zE;have i:=bE;refine qf3 (os:=L) (xs:=[x]) eV1 uSl (.inr ⟨_,uSl⟩) iE sE s k 4 h rfl (z06 0 rfl λF=>z0m) rfl eVn (by simp only[Ag,Ah];exact Be (B0 _ i) (by omega)) (by simp only[Ag,Ah];omega) λm j w h=>⟨_,_,_,rfl,?_⟩;refine z0n 3 h rfl (by simp) λw h=>⟨m,j,?_⟩;have h:St W (Row b 3 (Aw eV [x])::Pt l (.loop (recC fn tmps D .busy))::Pt D (.deferred (A1 []))::Row b2 28 [Zl m (L++[x]).length j]::SlA 3 1 eV m j (L++[x])::F) w:=h;exact h.drop
 .rintro C a3 A ⟨a,e,h⟩ _;obtain⟨g,h⟩:=h.turn (o':=.loop (recC fn tmps D .ready));exact⟨_,_,run_endRound A0 g,_,rfl,rfl,BufA.shut a e h⟩
def AppSeq_spec{d:Ar}{cap:A4}{N:Nat}{G:List Int->Prop}(Q:q33 Zp d=Ab)(Z:N<=1000000)(o:q7b W ev d cap M N G)(g:St W M w):
 qb Zp 107 #[Zl A0 0 0,.func (.func d) #[] #[cap]] w λv w'=>∃L p c,v=Zl p (Bg L) c/\G L/\St W (SlA 3 1 eV p c L::M) w':=by
 refine(callsIn_wide (n:=0)).1 (callsIn_of_wp_marks Tryz.func107 ap_body trivial ?_);have r:qx4 Aj:=.inl rfl;have i:qs1 13 [(1,.func (.func d) #[] #[cap]),(0,Zl A0 0 0)] { tmps:=#[Zl A0 0 0,.func (.func d) #[] #[cap]]++Ap (Tryz.f107.ntmps -(#[Zl A0 0 0,.func (.func d) #[] #[cap]]).size) undef,defers:=[]}:=by
  rw[ap_n];refine⟨rfl,by simp,λt v z=>?_⟩;have:=q47 z;simp only[A7,A3,yK,Prod.mk.injEq]at this;rcases this with ⟨rfl,rfl⟩|⟨rfl,rfl⟩
  .rw[A8,Ac (by simp)];rfl
  .rw[A8,Ac (by simp)];rfl
 generalize ({ tmps:=#[Zl A0 0 0,.func (.func d) #[] #[cap]]++Ap (Tryz.f107.ntmps -(#[Zl A0 0 0,.func (.func d) #[] #[cap]]).size) undef,defers:=[]}:Act)=a at i;rw[ap_eq];refine wpIn_seq (qk6 r tame0 (K:=λe' w'=>∃b2,e'=[(4,Zl A0 0 0),(2,Zq (A1 ⟨b2,0,A0⟩)),(1,.func (.func d) #[] #[cap]),(0,Zl A0 0 0)]/\St W (Row b2 28 [Zl A0 0 0]::M) w') (by rw[ops_0];exact zh g λb w g=>⟨b,rfl,g⟩) i ?_);clear g;rintro u q w ⟨b2,rfl,g⟩ i;refine wpIn_seq (wpIn_seq (qk6 r tame1 (K:=λe' w'=>e'=[(6,.func (.func d) #[] #[cap]),(4,Zl A0 0 0),(2,Zq (A1 ⟨b2,0,A0⟩)),(1,.func (.func d) #[] #[cap]),(0,Zl A0 0 0)]/\w'=w) (by rw[ops_1];exact⟨rfl,rfl⟩) i ?_));rintro u a w ⟨rfl,rfl⟩ i;refine wpIn_block (wpIn_rangeFunc λfn _=>?_);have C:a.eval (.tmp 6)=.func (.func d) #[] #[cap]:=i.val 6 _ rfl;have k:=(g.alloc (.deferred (A1 []))).alloc (.loop (recC fn a.tmps w.heap.size .ready));rw[World.size_alloc]at k;refine⟨w.heap.size+1,[{ target:=.collected w.heap.size,args:=#[]}],(w.alloc (.deferred (A1 []))).alloc (.loop (recC fn a.tmps w.heap.size .ready)),{ target:=.fn (.func d) #[cap],args:=#[.func (.yield (w.heap.size+1)) #[] #[]]},(w.alloc (.deferred (A1 []))).alloc (.loop (recC fn a.tmps w.heap.size .ready)),d,
  #[.func (.yield (w.heap.size+1)) #[] #[],cap],(w.alloc (.deferred (A1 []))).alloc (.loop (recC fn a.tmps w.heap.size .ready)),run_enterLoop_outer _ _ _ _ _,?_,λ_ _=>trivial,?_,(λh=>by cases h),?_⟩
 .simp only[resolve,C];simp[go_sem]
 .simp only[invoke];exact q04 Q _ _
 generalize w.heap.size=D at k;generalize D+1=l at k;generalize (w.alloc (.deferred (A1 []))).alloc (.loop (recC fn a.tmps D .ready))=w1 at k;clear g C;have g:St W (BufA fn a.tmps .ready l D b2 []::M) w1:=BufA.shut A0 0 (zf 0 3 (z09 (f:=eV) (e:=3) (size:=1) (p:=A0) k) rfl);have z:qs1 13 [(2,Zq (A1 ⟨b2,0,A0⟩))] { tmps:=a.tmps,defers:=[]}:=by
  have:=i.pick (e':=[(2,Zq (A1 ⟨b2,0,A0⟩))]) λy j=>by simp only[A7,A3,yK]at j;rcases j with rfl;rfl
  exact⟨rfl,this.size,this.val⟩
 have j:∀(X:List Asn) (L:List Int) (x:Int) (w:A6) (K:A4->A6->Prop),L.length<N->St W (BufA fn a.tmps .ready l D b2 L::X) w->(∀w',St W (BufA fn a.tmps .ready l D b2 (L++[x])::X) w'->K (Zb Ab) w')->q01 Zp 4 (.func (.yield l) #[] #[]) [ev x] w K:=λX L x w K Y g T=>by obtain⟨p,c,O⟩:=BufA.open_ g;refine .inr ⟨l,recC fn a.tmps D .ready,rfl,O.pt,rfl,?_⟩;have key:=round_spec x z (by omega) g;rw[<-fold_one]at key;exact RoundIn.mono key λu w' ⟨v,k,H,g⟩=>⟨v,k,by subst H;exact T _ g⟩
 refine qx4.calls r (Calls.mono (o _ _ _ j g) λe V ⟨v,I,E,L,U,g⟩=>?_);subst I;obtain⟨p,c,g⟩:=BufA.open_ g;obtain⟨s,g⟩:=g.turn (o':=.loop (recC fn a.tmps D .exhausted));refine⟨A0,_,run_endLoop s (by simp[recC]),?_⟩;have B:a.defers=[]:=i.defers;have A:qs1 13 [(2,Zq (A1 ⟨b2,0,A0⟩))] (qi6 { a with defers:=[{ target:=.collected D,args:=#[]}]++a.defers}):=by
  have:=i.pick (e':=[(2,Zq (A1 ⟨b2,0,A0⟩))]) λy j=>by simp only[A7,A3,yK]at j;rcases j with rfl;rfl
  exact⟨rfl,this.size,this.val⟩
 refine wpIn_seq (qmj r tame4 (K:=λe' w'=>∃e0,e'=(4,Zl p L.length c)::e0) (by rw[ops_4];exact LdL.n 2 g rfl rfl ⟨_,rfl⟩) A ?_)
 rintro u q ⟨e0,rfl⟩ ha1 hd1;refine wpIn_ret ?_;show LeavesInM Aj 0 Zp Tryz.f107 q.tmps _ q.defers .returning _;rw[hd1,B];obtain⟨J,g⟩:=(St.p1 g).turn (o':=.deferred A0);refine⟨by simp,.inl ⟨D,_,rfl,run_takeDeferred J,?_⟩⟩;have m:=λw=>q77 (P:=Zp) (fn:=Tryz.f107) (a:=qi6 q) (R:=λv w'=>v=Zl p L.length c) (w:=w) (by rw[ap_res];rfl) ha1;obtain⟨v,E,F⟩:=m _;refine⟨v,E,v,rfl,L,p,c,F,U,?_⟩;exact g.drop.drop.drop
end
end AppI
end
section
set_option maxRecDepth 100000
namespace AppS
open Go Go.Proofs.YtfjifcfbmhpcaaaGreatDoor
abbrev ev:ByteArray->A4:=Zs
abbrev eV(x:ByteArray):List A4:=[ev x]
def eV1(x:ByteArray):(eV x).length=1:=rfl
def eVn(x:ByteArray):∀v∈eV x,qn1 v:=λv h=>by simp only[eV,A7,A3,yK]at h;subst h;trivial
def uSl:Zp.underlying 23=A1 (.slice 9):=Tryz.underlying23
def iE:Zp.info? 9=A1 Tryz.t9:=by kernel_rfl
def sE:Tryz.t9.size=1:=rfl
def zE:∃z,Tryz.t9.zero=A1 z/\z.cells.size=1:=⟨_,rfl,rfl⟩
def bE:Tryz.t9.bytes<=100:=by decide+kernel
noncomputable def apC:B6:=Tryz.f288.body.getD .skip
noncomputable def cR(i:Nat):B6:=(q63 apC).getD i .skip
noncomputable def apA:B6:=q7q (cR 2)
noncomputable def apB:B6:=qzq (cR 2)
def ap_body:Tryz.f288.body=A1 apC:=by kernel_rfl
def ap_n:Tryz.f288.ntmps=13:=by kernel_rfl
def ap_eq:apC=.seq (.region 0 (qo1 (cR 0)) Aa) (.seq (.seq (.region 1 (qo1 (cR 1)) Aa) (.block 0 (.rangeFunc (.tmp 6) #[7] apA apB))) (.seq (.region 4 (qo1 (cR 3)) Aa) .ret)):=by kernel_rfl
def apA_eq:apA=.region 2 (qo1 apA) Aa:=by kernel_rfl
def apB_eq:apB=.block 1 (.region 3 (qo1 (inB apB)) Aa):=by kernel_rfl
def tame0:(qo1 (cR 0)).toList.all qv5=Ab:=by kernel_rfl
def tame1:(qo1 (cR 1)).toList.all qv5=Ab:=by kernel_rfl
def tame2:(qo1 apA).toList.all qv5=Ab:=by kernel_rfl
def tame3:(qo1 (inB apB)).toList.all qv5=Ab:=by kernel_rfl
def tame4:(qo1 (cR 3)).toList.all qv5=Ab:=by kernel_rfl
section
variable(p:Option Addr)(n c:Nat)(w:World)(K:Env->World->Prop)(b2:Nat)(s:Value)
def ops_0:qy7 Zp 13 (qo1 (cR 0)).toList [(1,s),(0,Zl p n c)] w K=(qh #[Zl p n c] 23 w λb w=>K [(4,Zl A0 0 0),(2,Zq (A1 ⟨b,0,A0⟩)),(1,s),(0,Zl p n c)] w):=by kernel_rfl
def ops_1(e:Env):qy7 Zp 13 (qo1 (cR 1)).toList ((4,Zl A0 0 0)::(2,Zq (A1 ⟨b2,0,A0⟩))::(1,s)::e) w K=K ((6,s)::(4,Zl A0 0 0)::(2,Zq (A1 ⟨b2,0,A0⟩))::(1,s)::e) w:=by kernel_rfl
def ops_2(x:ByteArray)(e:Env):qy7 Zp 13 (qo1 apA).toList ((7,ev x)::e) w K=K ((5,ev x)::(7,ev x)::e) w:=by kernel_rfl
def ops_3(x:ByteArray):qy7 Zp 13 (qo1 (inB apB)).toList [(5,ev x),(2,Zq (A1 ⟨b2,0,A0⟩))] w K=
 LdL ⟨b2,0,A0⟩ w λq m d=>qh #[ev x] 9 w λb w=>Run Zp (Builtin.append_ #[23,23] 23 #[Zl q m d,.slice (A1 ⟨b,0,A0⟩) 1 1]) w λv w=>AsL v λa h c=>
  St1 ⟨b2,0,A0⟩ (.slice a h c) w λw=>K [(11,.slice a h c),(10,.slice (A1 ⟨b,0,A0⟩) 1 1),(9,ev x),(8,Zl q m d),(5,ev x),(2,Zq (A1 ⟨b2,0,A0⟩))] w:=by kernel_rfl
def ops_4:q5f Zp 13 (qo1 (cR 3)).toList [(2,Zq (A1 ⟨b2,0,A0⟩))] w K=
 LdL ⟨b2,0,A0⟩ w λq m d=>K [(4,Zl q m d),(12,Zl q m d),(2,Zq (A1 ⟨b2,0,A0⟩))] w:=by kernel_rfl
def ap_res(q:Option Au)(m d:Nat)(e:Env)(K:List A4->Prop):q66 Zp Tryz.f288.results.toList ((4,Zl q m d)::e) w K=K [Zl q m d]:=by kernel_rfl
end
noncomputable def recC(fn:Ar)(tmps:Array A4)(D:Nat)(s:An):Loop:={ state:=s,pending:=A0,fn:=fn,tmps:=tmps,params:=#[7],assign:=apA,body:=apB,defers:=D}
def BufA(fn:Ar)(tmps:Array A4)(s:An)(l D b2:Nat)(L:List ByteArray):Asn:=exA λy:Option Au×Nat=>qz [Pt l (.loop (recC fn tmps D s)),Pt D (.deferred (A1 [])),Row b2 23 [.slice y.1 L.length y.2],SlA 9 1 eV y.1 y.2 L]
def BufA.open_{W w:A6}{F:List Asn}{fn:Ar}{tmps:Array A4}{s:An}{l D b2:Nat}{L:List ByteArray}(h:St W (BufA fn tmps s l D b2 L::F) w):
 ∃p c,St W (Pt l (.loop (recC fn tmps D s))::Pt D (.deferred (A1 []))::Row b2 23 [Zl p L.length c]::SlA 9 1 eV p c L::F) w:=by
 obtain⟨⟨p,c⟩,h⟩:=h.of_ex;exact⟨p,c,h.of_sep⟩
def BufA.shut{W w:A6}{F:List Asn}{fn:Ar}{tmps:Array A4}{s:An}{l D b2:Nat}{L:List ByteArray}(p:Option Au)(c:Nat)(h:St W (Pt l (.loop (recC fn tmps D s))::Pt D (.deferred (A1 []))::Row b2 23 [Zl p L.length c]::SlA 9 1 eV p c L::F) w):St W (BufA fn tmps s l D b2 L::F) w:=
 z00 (p,c) (zj (l:=[_,_,_,_]) h)
def fold_one(tmps:Array A4)(a:A4):(Bi (#[7]:Array Tmp) [a].toArray).foldl (λtmps (t,a)=>tmps.setIfInBounds t a) tmps=tmps.setIfInBounds 7 a:=by simp
section
variable{W w:World}{F M:List Asn}{fn:FuncId}{tmps:Array Value}{l D b2:Nat}{L:List ByteArray}
def round_spec(x:ByteArray)(r:qs1 13 [(2,Zq (A1 ⟨b2,0,A0⟩))] { tmps:=tmps,defers:=[]})(u:L.length<=1000000)
 (h:St W (BufA fn tmps .ready l D b2 L::F) w):
 RoundIn Aj 0 Zp l fn (tmps.setIfInBounds 7 (ev x)) apA apB w λq w'=>∃v,q=.returned v/\v=Zb Ab/\St W (BufA fn tmps .ready l D b2 (L++[x])::F) w':=by
 obtain⟨p,c,h⟩:=BufA.open_ h;refine roundIn_of_wpIn trivial ?_;have o:qx4 (Aj.inRound l):=.inr ⟨l,rfl⟩;have t:qs1 13 [(7,ev x),(2,Zq (A1 ⟨b2,0,A0⟩))] { tmps:=tmps.setIfInBounds 7 (ev x),defers:=[]}:=r.put1 (d:=7) (ev x) (by decide);rw[apA_eq];refine qk6 o tame2 (K:=λe' w'=>e'=[(5,ev x),(7,ev x),(2,Zq (A1 ⟨b2,0,A0⟩))]/\w'=w) (by rw[ops_2];exact⟨rfl,rfl⟩) t ?_;rintro E a2 B ⟨rfl,rfl⟩ ha2;have f:qs1 13 [(5,ev x),(2,Zq (A1 ⟨b2,0,A0⟩))] a2:=ha2.pick λy n=>by simp only[A7,A3,yK]at n;rcases n with rfl|rfl<;>rfl
 obtain⟨g,h⟩:=h.turn (o':=.loop (recC fn tmps D .busy));refine⟨_,run_beginRound g rfl,?_⟩;rw[apB_eq];refine wpIn_block (qk6 o tame3 (K:=λe' w'=>∃a e,St W (Pt l (.loop (recC fn tmps D .busy))::Pt D (.deferred (A1 []))::Row b2 23 [Zl a (L++[x]).length e]::SlA 9 1 eV a e (L++[x])::F) w') ?_ f ?_)
 .rw[ops_3];refine LdL.n 2 h rfl rfl (zh h λb w h=>?_);have h:St W (Row b 9 (Aw eV [x])::Pt l (.loop (recC fn tmps D .busy))::Pt D (.deferred (A1 []))::Row b2 23 [Zl p L.length c]::SlA 9 1 eV p c L::F) w:=h;obtain⟨z,s,k⟩:=zE;have i:=bE;refine qf3 (os:=L) (xs:=[x]) eV1 uSl (.inr ⟨_,uSl⟩) iE sE s k 4 h rfl (z06 0 rfl λF=>z0m) rfl eVn (by simp only[Ag,Ah];exact Be (B0 _ i) (by omega)) (by simp only[Ag,Ah];omega) λm j w h=>⟨_,_,_,rfl,?_⟩;refine z0n 3 h rfl (by simp) λw h=>⟨m,j,?_⟩;have h:St W (Row b 9 (Aw eV [x])::Pt l (.loop (recC fn tmps D .busy))::Pt D (.deferred (A1 []))::Row b2 23 [Zl m (L++[x]).length j]::SlA 9 1 eV m j (L++[x])::F) w:=h;exact h.drop
 .rintro C a3 A ⟨a,e,h⟩ _;obtain⟨g,h⟩:=h.turn (o':=.loop (recC fn tmps D .ready));exact⟨_,_,run_endRound A0 g,_,rfl,rfl,BufA.shut a e h⟩
def AppSeq_spec{d:Ar}{cap:A4}{N:Nat}{G:List ByteArray->Prop}(Q:q33 Zp d=Ab)(Z:N<=1000000)(o:q7b W ev d cap M N G)(g:St W M w):
 qb Zp 288 #[Zl A0 0 0,.func (.func d) #[] #[cap]] w λv w'=>∃L p c,v=Zl p (Bg L) c/\G L/\St W (SlA 9 1 eV p c L::M) w':=by
 refine(callsIn_wide (n:=0)).1 (callsIn_of_wp_marks Tryz.func288 ap_body trivial ?_);have r:qx4 Aj:=.inl rfl;have i:qs1 13 [(1,.func (.func d) #[] #[cap]),(0,Zl A0 0 0)] { tmps:=#[Zl A0 0 0,.func (.func d) #[] #[cap]]++Ap (Tryz.f288.ntmps -(#[Zl A0 0 0,.func (.func d) #[] #[cap]]).size) undef,defers:=[]}:=by
  rw[ap_n];refine⟨rfl,by simp,λt v z=>?_⟩;have:=q47 z;simp only[A7,A3,yK,Prod.mk.injEq]at this;rcases this with ⟨rfl,rfl⟩|⟨rfl,rfl⟩
  .rw[A8,Ac (by simp)];rfl
  .rw[A8,Ac (by simp)];rfl
 generalize ({ tmps:=#[Zl A0 0 0,.func (.func d) #[] #[cap]]++Ap (Tryz.f288.ntmps -(#[Zl A0 0 0,.func (.func d) #[] #[cap]]).size) undef,defers:=[]}:Act)=a at i;rw[ap_eq];refine wpIn_seq (qk6 r tame0 (K:=λe' w'=>∃b2,e'=[(4,Zl A0 0 0),(2,Zq (A1 ⟨b2,0,A0⟩)),(1,.func (.func d) #[] #[cap]),(0,Zl A0 0 0)]/\St W (Row b2 23 [Zl A0 0 0]::M) w') (by rw[ops_0];exact zh g λb w g=>⟨b,rfl,g⟩) i ?_);clear g;rintro u q w ⟨b2,rfl,g⟩ i;refine wpIn_seq (wpIn_seq (qk6 r tame1 (K:=λe' w'=>e'=[(6,.func (.func d) #[] #[cap]),(4,Zl A0 0 0),(2,Zq (A1 ⟨b2,0,A0⟩)),(1,.func (.func d) #[] #[cap]),(0,Zl A0 0 0)]/\w'=w) (by rw[ops_1];exact⟨rfl,rfl⟩) i ?_));rintro u a w ⟨rfl,rfl⟩ i;refine wpIn_block (wpIn_rangeFunc λfn _=>?_);have C:a.eval (.tmp 6)=.func (.func d) #[] #[cap]:=i.val 6 _ rfl;have k:=(g.alloc (.deferred (A1 []))).alloc (.loop (recC fn a.tmps w.heap.size .ready));rw[World.size_alloc]at k;refine⟨w.heap.size+1,[{ target:=.collected w.heap.size,args:=#[]}],(w.alloc (.deferred (A1 []))).alloc (.loop (recC fn a.tmps w.heap.size .ready)),{ target:=.fn (.func d) #[cap],args:=#[.func (.yield (w.heap.size+1)) #[] #[]]},(w.alloc (.deferred (A1 []))).alloc (.loop (recC fn a.tmps w.heap.size .ready)),d,
  #[.func (.yield (w.heap.size+1)) #[] #[],cap],(w.alloc (.deferred (A1 []))).alloc (.loop (recC fn a.tmps w.heap.size .ready)),run_enterLoop_outer _ _ _ _ _,?_,λ_ _=>trivial,?_,(λh=>by cases h),?_⟩
 .simp only[resolve,C];simp[go_sem]
 .simp only[invoke];exact q04 Q _ _
 generalize w.heap.size=D at k;generalize D+1=l at k;generalize (w.alloc (.deferred (A1 []))).alloc (.loop (recC fn a.tmps D .ready))=w1 at k;clear g C;have g:St W (BufA fn a.tmps .ready l D b2 []::M) w1:=BufA.shut A0 0 (zf 0 3 (z09 (f:=eV) (e:=9) (size:=1) (p:=A0) k) rfl);have z:qs1 13 [(2,Zq (A1 ⟨b2,0,A0⟩))] { tmps:=a.tmps,defers:=[]}:=by
  have:=i.pick (e':=[(2,Zq (A1 ⟨b2,0,A0⟩))]) λy j=>by simp only[A7,A3,yK]at j;rcases j with rfl;rfl
  exact⟨rfl,this.size,this.val⟩
 have j:∀(X:List Asn) (L:List ByteArray) (x:ByteArray) (w:A6) (K:A4->A6->Prop),L.length<N->St W (BufA fn a.tmps .ready l D b2 L::X) w->(∀w',St W (BufA fn a.tmps .ready l D b2 (L++[x])::X) w'->K (Zb Ab) w')->q01 Zp 4 (.func (.yield l) #[] #[]) [ev x] w K:=λX L x w K Y g T=>by obtain⟨p,c,O⟩:=BufA.open_ g;refine .inr ⟨l,recC fn a.tmps D .ready,rfl,O.pt,rfl,?_⟩;have key:=round_spec x z (by omega) g;rw[<-fold_one]at key;exact RoundIn.mono key λu w' ⟨v,k,H,g⟩=>⟨v,k,by subst H;exact T _ g⟩
 refine qx4.calls r (Calls.mono (o _ _ _ j g) λe V ⟨v,I,E,L,U,g⟩=>?_);subst I;obtain⟨p,c,g⟩:=BufA.open_ g;obtain⟨s,g⟩:=g.turn (o':=.loop (recC fn a.tmps D .exhausted));refine⟨A0,_,run_endLoop s (by simp[recC]),?_⟩;have B:a.defers=[]:=i.defers;have A:qs1 13 [(2,Zq (A1 ⟨b2,0,A0⟩))] (qi6 { a with defers:=[{ target:=.collected D,args:=#[]}]++a.defers}):=by
  have:=i.pick (e':=[(2,Zq (A1 ⟨b2,0,A0⟩))]) λy j=>by simp only[A7,A3,yK]at j;rcases j with rfl;rfl
  exact⟨rfl,this.size,this.val⟩
 refine wpIn_seq (qmj r tame4 (K:=λe' w'=>∃e0,e'=(4,Zl p L.length c)::e0) (by rw[ops_4];exact LdL.n 2 g rfl rfl ⟨_,rfl⟩) A ?_)
 rintro u q ⟨e0,rfl⟩ ha1 hd1;refine wpIn_ret ?_;show LeavesInM Aj 0 Zp Tryz.f288 q.tmps _ q.defers .returning _;rw[hd1,B];obtain⟨J,g⟩:=(St.p1 g).turn (o':=.deferred A0);refine⟨by simp,.inl ⟨D,_,rfl,run_takeDeferred J,?_⟩⟩;have m:=λw=>q77 (P:=Zp) (fn:=Tryz.f288) (a:=qi6 q) (R:=λv w'=>v=Zl p L.length c) (w:=w) (by rw[ap_res];rfl) ha1;obtain⟨v,E,F⟩:=m _;refine⟨v,E,v,rfl,L,p,c,F,U,?_⟩;exact g.drop.drop.drop
end
end AppS
end
end Go.Proofs.YtfjifcfbmhpcaaaGreatDoor
