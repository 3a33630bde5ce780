/-
  A part of the proof of TopEvicted.
-/
import Derived.Test.YtfjifcfbmhpcaaaGreatDoorV03
import Derived.Test.YtfjifcfbmhpcaaaGreatDoorV14
import Derived.Test.YtfjifcfbmhpcaaaGreatDoorV20
import Derived.Test.YtfjifcfbmhpcaaaGreatDoorV19
import Derived.Test.YtfjifcfbmhpcaaaGreatDoorV21
import Derived.Test.YtfjifcfbmhpcaaaGreatDoorV22
import Derived.Test.YtfjifcfbmhpcaaaGreatDoorV02
import Derived.Test.YtfjifcfbmhpcaaaGreatDoorV00
set_option linter.defProp false
set_option linter.unusedVariables false
set_option linter.unusedSimpArgs false
namespace Go.Proofs.YtfjifcfbmhpcaaaGreatDoor
open Go
open Go.Proofs.Tryz renaming prog → Zp
open Go.IntKind renaming i64 → Zk, wrap → Zw
open Go.Value renaming int → Zi, string → Zs, pointer → Zq, bool → Zb, tuple → Zt, slice → Zl, agg → Zg
open _root_.Option renaming some->A0,none->A1,getD_some->Aq
open _root_.Bool renaming false->A2,true->A5,and_false->Af,not_false->Ag,and_true->Ah,or_false->Az,or_true->B0
open Go renaming World->A3,Value->A9,Addr->Ax
open _root_.List renaming map_cons->A4,mem_cons_of_mem->A6,append_assoc->A7,eq_nil_of_length_eq_zero->A8,mem_cons->Aa,length_filter_le->Ab,filter_append->Ac,length_cons->Ad,mem_cons_self->Ae,mem_map->Ai,length_nil->Aj,filter_eq_self->Ak,filter_filter->Am,map_map->An,cons_append->Ao,filter_cons->Ap,perm_middle->Ar,length_take->As,isEmpty_iff->Au,nodup_cons->Av,map_append->Aw,sum_cons->Ay
namespace Qu
abbrev Name:=ByteArray
abbrev QG:=List (Name×Int)
def gL(G:QG)(n:Name):List Int:=(G.filter λx=>decide (x.1=n)).map (·.2)
def gW:QG->Int->Option Name
 |[],_=>A1
 |x::r,id=>if x.2=id then A0 x.1 else gW r id
def gDrop(G:QG)(id:Int):QG:=G.filter λx=>decide (x.2≠id)
def gPut(G:QG)(n:Name)(id:Int):QG×Int:=
 if(gW G id).isSome then(G,4)else if 8<=(gL G n).length\/64<=G.length then(G,2)else(G++[(n,id)],0)
structure QOk(G:QG):Prop where
 nod:(G.map (·.2)).Nodup
 row:∀n,(gL G n).length<=8
 all:G.length<=64
def gW_none{G:QG}{id:Int}:gW G id=A1↔id∉G.map (·.2):=by
 induction G with
 |nil=>simp[gW]
 |cons x r ih=>
  simp only[gW,A4,Aa,not_or];split;.rename_i h;simp[h]
  .rename_i h;rw[ih];exact⟨λk=>⟨λe=>h e.symm,k⟩,λk=>k.2⟩
def gW_mem{G:QG}(w:(G.map (·.2)).Nodup){id:Int}{n:Name}(h:(n,id)∈G):gW G id=A0 n:=by
 induction G with
 |nil=>cases h
 |cons x r ih=>
  simp only[A4,Av]at w;simp only[gW];rcases Aa.1 h with h|h;.subst h;simp
  .have:x.2≠id:=λe=>w.1 (Ai.2 ⟨_,h,e.symm⟩);rw[yA this];exact ih w.2 h
def mem_gL{G:QG}{n:Name}{id:Int}:id∈gL G n↔(n,id)∈G:=by
 unfold gL;simp only[Ai,List.mem_filter,yJ];constructor;.rintro⟨x,⟨w,rfl⟩,rfl⟩;exact w
 .intro h;exact⟨_,⟨h,rfl⟩,rfl⟩
def gL_app(G H:QG)(n:Name):gL (G++H) n=gL G n++gL H n:=by simp[gL]
def gL_one(m n:Name)(id:Int):gL [(m,id)] n=if m=n then [id]else []:=by unfold gL;by_cases h:m=n<;>simp[h]
def gW_app(G:QG)(m:Name)(id j:Int)(h:gW G id=A1):gW (G++[(m,id)]) j=if id=j then A0 m else gW G j:=by
 induction G with
 |nil=>simp[gW]
 |cons x r a=>
  simp only[gW]at h;split at h;.cases h
  .rename_i w;simp only[Ao,gW,a h];by_cases e:x.2=j;.rw[yB e,yB e,yA (λk=>w (e.trans k.symm))]
   .rw[yA e,yA e]
def gW_drop(G:QG)(id j:Int):gW (gDrop G id) j=if id=j then A1 else gW G j:=by
 induction G with
 |nil=>simp[gW,gDrop]
 |cons x r w=>
  unfold gDrop at w⊢;simp only[Ap];by_cases h:x.2=id
  .simp only[h,ne_eq,not_true,decide_false,Bool.false_eq_true,if_false,w,gW];by_cases e:id=j;.rw[yB e,yB e]
   .rw[yA e,yA e,yA e]
  .simp only[ne_eq,h,not_false_eq_true,decide_true,if_true,gW,w];by_cases e:x.2=j;.rw[yB e,yB e,yA (λk=>h (e.trans k.symm))]
   .rw[yA e,yA e]
def gL_drop(G:QG)(id:Int)(n:Name):gL (gDrop G id) n=(gL G n).filter λx=>decide (x≠id):=by unfold gL gDrop;rw[List.filter_map,Am,Am];congr 1;refine List.filter_congr λx _=>?_;simp[Function.comp_def,Bool.and_comm]
def gDrop_len(G:QG)(id:Int):(gDrop G id).length<=G.length:=Ab _ _
def QOk.nil:QOk []:=⟨by simp,λn=>by simp[gL],by simp⟩
def QOk.drop{G:QG}(h:QOk G)(id:Int):QOk (gDrop G id):=⟨(List.filter_sublist.map _).nodup h.nod,λn=>by rw[gL_drop];exact Nat.le_trans (Ab _ _) (h.row n),Nat.le_trans (gDrop_len G id) h.all⟩
def QOk.put{G:QG}(h:QOk G)(n:Name)(id:Int):QOk (gPut G n id).1:=by
 unfold gPut;split;.exact h
 .rename_i w;split;.exact h
  .rename_i f;have w:gW G id=A1:=by simpa using w
   rw[not_or]at f;refine⟨?_,λm=>?_,by simp;omega⟩
   .rw[Aw];exact List.nodup_append.2 ⟨h.nod,by simp,λa d b c=>by simp at c;subst c;exact λe=>gW_none.1 w (e ▸ d)⟩
   .rw[gL_app,gL_one];by_cases e:n=m;.subst e;simp;omega
    .simp[e];exact h.row m
structure RepQ(rows:List (Name×List Int))(wh:List (Int×Name))(G:QG):Prop where
 ok:QOk G
 keys:(rows.map (·.1)).Nodup
 row:∀n,(qe rows n).getD []=gL G n
 full:∀x∈rows,x.2≠[]
 wh:∀id,qe wh id=gW G id
def RepQ.nil:RepQ [] [] []:=⟨QOk.nil,by simp,λn=>rfl,by simp,λid=>rfl⟩
def RepQ.nil_iff{w:List (Name×List Int)}{wh:List (Int×Name)}{G:QG}(h:RepQ w wh G){n:Name}:qe w n=A1↔gL G n=[]:=by
 have:=h.row n;constructor;.intro e;rw[e]at this;exact this.symm
 .intro e;cases hg:qe w n with
  |none=>rfl
  |some x=>rw[hg,e]at this;exact(h.full _ (qg3 hg) this).elim
def sumL(h:List (Name×List Int)):Nat:=(h.map λx=>x.2.length).sum
def count_rows(G:QG):∀(K:List Name),K.Nodup->(∀x∈G,x.1∈K)->(K.map λn=>(gL G n).length).sum=G.length:=by
 induction G with
 |nil=>intro K _ _;simp[gL];induction K with|nil=>rfl|cons a r ih=>simp_all
 |cons g r ih=>
  intro K c b;have j:=ih K c λx i=>b x (A6 _ i);have step:∀(K:List Name),K.Nodup->(g.1∈K->(K.map λn=>(gL (g::r) n).length).sum=(K.map λn=>(gL r n).length).sum+1)/\(g.1∉K->(K.map λn=>(gL (g::r) n).length).sum=(K.map λn=>(gL r n).length).sum):=by
   intro K;induction K with
   |nil=>intro _;simp
   |cons a K ihK=>
    intro w;simp only[Av]at w;obtain⟨f,i2⟩:=ihK w.2;simp only[A4,Ay,Aa,not_or];have e:g.1=a->(gL (g::r) a).length=(gL r a).length+1:=λh=>by unfold gL;simp[h]
    have e':g.1≠a->(gL (g::r) a).length=(gL r a).length:=λh=>by unfold gL;simp[h]
    constructor
    .rintro(h|h)
     .have:g.1∉K:=by rw[h];exact w.1
      rw[e h,i2 this];omega
     .have:g.1≠a:=λe=>w.1 (e ▸ h);rw[e' this,f h];omega
    .rintro⟨h,d⟩;rw[e' h,i2 d]
  rw[(step K c).1 (b g Ae),j,Ad]
def RepQ.sum{w:List (Name×List Int)}{wh:List (Int×Name)}{G:QG}(h:RepQ w wh G):sumL w=G.length:=by
 rw[<-count_rows G (w.map (·.1)) h.keys]
 .unfold sumL;rw[An];congr 1;refine List.map_congr_left λx a=>?_;have b:=h.row x.1;rw[q24 h.keys (show(x.1,x.2)∈w from a)]at b;simp only[Aq]at b;simp[b]
 .intro x a;have:x.2∈gL G x.1:=mem_gL.2 a;cases hg:qe w x.1 with
  |none=>rw[h.nil_iff.1 hg]at this;cases this
  |some l=>exact Ai.2 ⟨_,qg3 hg,rfl⟩
def RepQ.put{w:List (Name×List Int)}{wh:List (Int×Name)}{G:QG}(h:RepQ w wh G){n:Name}{id:Int}(c:gW G id=A1)(f:(gL G n).length<8)(g:G.length<64):
 RepQ (qk w n ((qe w n).getD []++[id])) (qk wh id n) (G++[(n,id)]):=by
 have a:=h.ok.put n id;have d:gPut G n id=(G++[(n,id)],0):=by unfold gPut;rw[yA (by simp[c]),yA (by omega)]
 rw[d]at a;refine⟨a,qr7 h.keys _ _,λm=>?_,λx b=>?_,λj=>?_⟩
 .rw[qh2,gL_app,gL_one];by_cases e:n=m;.subst e;simp[h.row n]
  .simp[e,h.row m]
 .rcases aset_mem b with rfl|b;.simp
  .exact h.full x b
 .rw[qh2,gW_app _ _ _ _ c,h.wh]
where
 aset_mem {L:List (Name×List Int)} {k:Name} {v:List Int} {x:Name×List Int} (w:x∈qk L k v):x=(k,v)\/x∈L:=by
  induction L with
  |nil=>simp[qk]at w;exact .inl w
  |cons y r ih=>
   simp only[qk]at w
   split at w
   .rcases Aa.1 w with h|h
    .exact .inl h
    .exact .inr (A6 _ h)
   .rcases Aa.1 w with h|h
    .subst h;exact .inr Ae
    .rcases ih h with h|h
     .exact .inl h
     .exact .inr (A6 _ h)
def leftOver(h:List (Name×List Int))(n:Name)(id:Int):List Int:=((qe h n).getD []).filter λx=>decide (x≠id)
def dropRows(h:List (Name×List Int))(n:Name)(id:Int):List (Name×List Int):=
 if leftOver h n id=[]then qp (qk h n (leftOver h n id)) n else qk h n (leftOver h n id)
def RepQ.drop{w:List (Name×List Int)}{wh:List (Int×Name)}{G:QG}(h:RepQ w wh G)(k:(wh.map (·.1)).Nodup){n:Name}{id:Int}(l:gW G id=A0 n):
 RepQ (dropRows w n id) (qp wh id) (gDrop G id):=by
 have f:(qk w n (leftOver w n id)).map (·.1) |>.Nodup:=qr7 h.keys _ _
 have g:leftOver w n id=gL (gDrop G id) n:=by rw[gL_drop];unfold leftOver;rw[h.row]
 have b:∀m,n≠m->gL (gDrop G id) m=gL G m:=λm a=>by rw[gL_drop,Ak];intro x d;simp only[yJ];intro e;subst e;have:=gW_mem h.ok.nod (mem_gL.1 d);rw[l]at this;exact a (Option.some.inj this)
 refine⟨h.ok.drop id,?_,λm=>?_,λx d=>?_,λj=>?_⟩
 .unfold dropRows;split;.exact qph f n
  .exact f
 .unfold dropRows;split
  .rename_i e;rw[qaa f,qh2];by_cases a:n=m;.subst a;simp[<-g,e]
   .simp only[yA a,h.row,b m a]
  .rename_i e;rw[qh2];by_cases a:n=m;.subst a;simp[g]
   .simp only[yA a,h.row,b m a]
 .unfold dropRows at d;split at d
  .rename_i e;have i:=(q2a _ _).subset d;rcases RepQ.put.aset_mem i with rfl|c
   .have:=q24 (qph f n) d;rw[qaa f]at this;simp at this
   .exact h.full x c
  .rename_i e;rcases RepQ.put.aset_mem d with rfl|c;.exact e
   .exact h.full x c
 .rw[qaa k,gW_drop,h.wh]
end Qu
section
namespace Qu
def uIs:Zp.underlying 28=A0 (.slice 3):=Tryz.underlying28
def uInt:Zp.underlying 3=A0 (.int Zk):=Tryz.underlying3
def uS:Zp.underlying 9=A0 .string:=Tryz.underlying9
def uM1:Zp.underlying 169=A0 (.map 9 28):=Tryz.underlying169
def uM2:Zp.underlying 170=A0 (.map 3 9):=Tryz.underlying170
def iInt:Zp.info? 3=A0 Tryz.t3:=by kernel_rfl
def iIs:Zp.info? 28=A0 Tryz.t28:=by kernel_rfl
def iS:Zp.info? 9=A0 Tryz.t9:=by kernel_rfl
def sInt:Tryz.t3.size=1:=rfl
def zInt:Tryz.t3.zero=A0 (Zi Zk 0):=rfl
def bInt:Tryz.t3.bytes=8:=rfl
def zIs:Tryz.t28.zero=A0 (Zl A1 0 0):=rfl
def zS:Tryz.t9.zero=A0 (Zs ⟨#[]⟩):=rfl
def kS:qw2 Zp 9 Zs:=qw2.str uS
def kI:qw2 Zp 3 (Zi Zk):=qw2.i64 uInt
def w64{n:Int}(h: -9223372036854775808<=n:=by omega)(w:n<=9223372036854775807:=by omega):Zw Zk n=n:=IntWalk.i64_in _ ⟨h,w⟩
def iV1(x:Int):(iV x).length=1:=rfl
def iVn(x:Int):∀v∈iV x,qn1 v:=λv h=>by simp[iV]at h;subst h;trivial
def up{k n:Nat}(h:k<n)(w:n<=9223372036854775807):Zw Zk ((k:Int)+1)=((k+1:Nat):Int):=by rw[w64];omega
def leftN(n:Nat):List A9->A3->Nat:=λvs _=>match vs.getLast? with
 |some (.int _ i)=>n - i.toNat
 |_=>0
structure SlD where
 p:Option Ax
 c:Nat
 ids:List Int
def vS(d:SlD):A9:=.slice d.p d.ids.length d.c
def ownD(x:Name×SlD):Asn:=SlA 3 1 iV x.2.p x.2.c x.2.ids
def rowsOf(D:List (Name×SlD)):List (Name×List Int):=D.map λx=>(x.1,x.2.ids)
def rows_get(D:List (Name×SlD))(n:Name):qe (rowsOf D) n=(qe D n).map SlD.ids:=by
 induction D with
 |nil=>rfl
 |cons x r ih=>
  simp only[rowsOf,A4,qe]at ih⊢;split;.rfl
  .exact ih
def rows_set(D:List (Name×SlD))(n:Name)(d:SlD):rowsOf (qk D n d)=qk (rowsOf D) n d.ids:=by
 induction D with
 |nil=>rfl
 |cons x r h=>
  simp only[rowsOf,A4,qk]at h⊢;split;.rfl
  .simp only[A4,h]
def rows_del(D:List (Name×SlD))(n:Name):rowsOf (qp D n)=qp (rowsOf D) n:=by
 induction D with
 |nil=>rfl
 |cons x r h=>
  simp only[rowsOf,A4,qp]at h⊢;split;.rfl
  .simp only[A4,h]
def aset_perm{κ ν:Type}[DecidableEq κ](L:List (κ×ν))(k:κ)(v:ν):(qk L k v).Perm ((k,v)::qp L k):=by
 induction L with
 |nil=>exact .refl _
 |cons x r ih=>
  simp only[qk,qp];split;.exact .refl _
  .exact(ih.cons x).trans (List.Perm.swap _ _ _)
def aget_perm{κ ν:Type}[DecidableEq κ]{L:List (κ×ν)}{k:κ}{v:ν}(h:qe L k=A0 v):L.Perm ((k,v)::qp L k):=by
 induction L with
 |nil=>cases h
 |cons x r w=>
  simp only[qe]at h;simp only[qp];split at h
  .rename_i e;cases h;rw[yB e,<-e]
  .rename_i e;rw[yA e];exact((w h).cons x).trans (List.Perm.swap _ _ _)
def ownsA(D:List (Name×SlD)):Asn:=qz (D.map ownD)
def ownsA.take{W w:A3}{F:List Asn}{D:List (Name×SlD)}{n:Name}{d:SlD}(c:qe D n=A0 d)(h:St W (ownsA D::F) w):St W (ownD (n,d)::ownsA (qp D n)::F) w:=by have e:St W (D.map ownD++F) w:=h.of_sep;have b:St W ((ownD (n,d)::(qp D n).map ownD)++F) w:=e.perm (((aget_perm c).map ownD).append_right F);exact(zj (l:=(qp D n).map ownD) (z0b b (by simp only[Ao];exact(Ar (l₁:=(qp D n).map ownD) (a:=ownD (n,d)) (l₂:=F)).symm))).p1
def ownsA.give{W w:A3}{F:List Asn}{D:List (Name×SlD)}{n:Name}{d:SlD}(h:St W (ownD (n,d)::ownsA (qp D n)::F) w):St W (ownsA (qk D n d)::F) w:=by have a:St W ((qp D n).map ownD++(ownD (n,d)::F)) w:=St.of_sep h.p1;refine zj (z0b a ?_);exact Ar.trans (((aset_perm D n d).map ownD).symm.append_right F)
def ownsA.rd{F:List Asn}{D:List (Name×SlD)}{n:Name}{d:SlD}(b:qe D n=A0 d):Rd (ownsA D::F) d.p (d.ids.flatMap iV):=λH w i v a=>by have f:Own (D.map ownD++F) H:=Own.of_sep w;have h:Own (ownD (n,d)::((qp D n).map ownD++F)) H:=f.perm (((aget_perm b).map ownD).append_right F);exact z0g (e:=3) (size:=1) (c:=d.c) _ H h i v a
def QueueA(q:Nat)(G:QG):Asn:=exA λx:Nat×Nat×List (Name×SlD)×List (Int×Name)=>qz [
 prA (RepQ (rowsOf x.2.2.1) x.2.2.2 G),Row q 172 [.map (A0 x.1),.map (A0 x.2.1)],qg Zs vS x.1 x.2.2.1,qg (Zi Zk) Zs x.2.1 x.2.2.2,ownsA x.2.2.1]
abbrev QL(q m1 m2:Nat)(D:List (Name×SlD))(wh:List (Int×Name))(F:List Asn):List Asn:=
 Row q 172 [.map (A0 m1),.map (A0 m2)]::qg Zs vS m1 D::qg (Zi Zk) Zs m2 wh::ownsA D::F
section
variable{W w:World}{F:List Asn}{q m1 m2:Nat}{G:QG}{D:List (Name×SlD)}{wh:List (Int×Name)}
def QueueA.open_(h:St W (QueueA q G::F) w):∃m1 m2 D wh,RepQ (rowsOf D) wh G/\St W (QL q m1 m2 D wh F) w:=by obtain⟨⟨m1,m2,D,wh⟩,h⟩:=h.of_ex;obtain⟨a,h⟩:=h.of_sep.of_pr;exact⟨m1,m2,D,wh,a,h⟩
def QueueA.shut(a:RepQ (rowsOf D) wh G)(h:St W (QL q m1 m2 D wh F) w):St W (QueueA q G::F) w:=
 z00 (m1,m2,D,wh) (zj (l:=[_,_,_,_,_]) (z01 a h))
def QueueA.ok(h:St W (QueueA q G::F) w):QOk G:=by obtain⟨m1,m2,D,wh,a,_⟩:=QueueA.open_ h;exact a.ok
def New_spec(h:St W F w):qb Zp 39 #[] w λv w'=>∃q,v=Zq (A0 ⟨q,0,A1⟩)/\St W (QueueA q []::F) w':=by
 refine F39_of (qs5.n Zs vS h λm1 w1 h=>qs5.n (Zi Zk) Zs h λm2 e h=>zh h λq d h=>⟨q,rfl,?_⟩);refine QueueA.shut RepQ.nil (m1:=m1) (m2:=m2) (D:=[]) ?_;have a:St W (Row q 172 [.map (A0 m1),.map (A0 m2)]::qg Zs vS m1 []::qg (Zi Zk) Zs m2 []::F) d:=by refine h.perm (List.Perm.cons _ ?_);rw[A7];exact List.perm_append_comm
 refine z0w [_,_,_] ⟨a.1,λ_=>A1,λb o c=>by(cases c),trivial,a.2⟩
def Clone_spec{p:Option Ax}{c:Nat}{ids:List Int}(j:Rd F p (ids.flatMap iV))(n:ids.length<=1000000)(d:St W F w):
 qb Zp 92 #[Zl p ids.length c] w λv w'=>∃f e,v=.slice f ids.length e/\St W (SlA 3 1 iV f e ids::F) w':=by
 refine F92_of (za (λh=>?_) λh=>?_)
 .have k:p=A1:=by cases p with|none=>rfl|some a=>cases h
  have l:ids=[]:=by
   cases ids with
   |nil=>rfl
   |cons x r=>obtain⟨a,g,_⟩:=j.of d (i:=0) (v:=Zi Zk x) rfl;rw[k]at g;cases g
  subst l;exact⟨A1,0,rfl,z09 d⟩
 .refine zh d λb w1 d=>?_;have d:St W (SlA 3 1 iV (A0 ⟨b,0,A1⟩) 0 []::F) w1:=SlA.of_row (os:=[]) iV1 d;refine qf3 (os:=[]) iV1 uIs (.inr ⟨_,uIs⟩) iInt sInt zInt rfl 0 d rfl j rfl iVn (by rw[bInt];simp;omega) (by simp;omega) λf e m d=>⟨_,_,_,rfl,?_⟩;exact⟨f,e,rfl,d⟩
def List_spec(n:Name)(a:St W (QueueA q G::F) w):
 qb Zp 49 #[Zq (A0 ⟨q,0,A1⟩),Zs n] w λv w'=>∃p c,v=Zl p (gL G n).length c/\St W (SlA 3 1 iV p c (gL G n)::QueueA q G::F) w':=by
 obtain⟨m1,m2,D,wh,e,a⟩:=QueueA.open_ a;refine F49_of (z7 (zv 0 a rfl rfl (qq1 kS uM1 iIs zIs 1 a rfl n A2 ?_)));rw[yA (by simp)];have h:=e.row n;rw[rows_get]at h;have b:=e.ok.row n;cases hd:qe D n with
 |none=>rw[hd]at h;have h:gL G n=[]:=h.symm;rw[h];refine⟨A1,0,0,rfl,(Clone_spec (ids:=[]) (Rd.nil _ _) (by simp) a).of λv w1 ⟨p,c,f,a⟩=>⟨_,_,_,f,p,c,rfl,?_⟩⟩;exact(QueueA.shut e (z0w [_,_,_,_] a)).p1
 |some d=>rw[hd]at h;have h:d.ids=gL G n:=h;rw[<-h]at b⊢;refine⟨d.p,d.ids.length,d.c,rfl,(Clone_spec (z06 3 rfl λF=>ownsA.rd hd) (by omega) a).of λv w1 ⟨p,c,f,a⟩=>⟨_,_,_,f,p,c,rfl,?_⟩⟩;exact(QueueA.shut e (z0w [_,_,_,_] a)).p1
def Many_spec(b:St W (QueueA q G::F) w):qb Zp 402 #[Zq (A0 ⟨q,0,A1⟩)] w λv w'=>v=Zi Zk G.length/\St W (QueueA q G::F) w':=by
 obtain⟨m1,m2,D,wh,k,b⟩:=QueueA.open_ b;have c:(D.map λx=>x.2.ids.length).sum=G.length:=by rw[<-k.sum];unfold sumL rowsOf;rw[An];rfl
 have o:=k.ok.all;have l:D.Nodup:=ql4 (λx=>x.1) (by have:=k.keys;unfold rowsOf at this;rw[An]at this;exact this);refine F402_of (z7 (zv 0 b rfl rfl (qg9 uM1 1 b rfl λd w1 b=>?_)));refine⟨λvs w=>∃V,vs=[Zi Zk ((V.map λx:Name×SlD=>x.2.ids.length).sum:Nat)]/\St W (Row q 172 [.map (A0 m1),.map (A0 m2)]::qd1 Zs vS m1 d D V::qg (Zi Zk) Zs m2 wh::ownsA D::F) w,λ_ w=>q74 d D.length w,⟨[],rfl,b⟩,λn w y=>?_⟩;obtain⟨V,s,b⟩:=y;cases s;refine qqb kS 1 b rfl (λz p r w' b=>?_) λx A t w' a=>?_
 .have e:(V.map λx:Name×SlD=>x.2.ids.length).sum=G.length:=by rw[<-c];exact Nat.le_antisymm (qdd _ p r) (qdd _ l z)
  rw[e];exact⟨rfl,QueueA.shut k b⟩
 .have u:=qd1.left (b.at 1 rfl) D.length;refine qp9 1 a rfl λa=>⟨_,_,_,_,rfl,?_⟩;have a:St W (Row q 172 [.map (A0 m1),.map (A0 m2)]::qd1 Zs vS m1 d D (V++[x])::qg (Zi Zk) Zs m2 wh::ownsA D::F) w':=a;obtain⟨⟨es,clock,seen,B⟩,h⟩:=(a.at 1 rfl).of_ex;obtain⟨m,_⟩:=h.of_sep.of_pr;have i:(V++[x]).Nodup:=ql4 (λx=>x.1) m.nod;have f:=qdd (λx:Name×SlD=>x.2.ids.length) i m.sub;have j:=qmp i m.sub;have g:=qd1.left (a.at 1 rfl) D.length;rw[c]at f;simp only[Aw,List.sum_append,A4,List.map_nil,Ay,List.sum_nil,List.length_append,Ad,Aj]at f j g;refine⟨⟨V++[x],?_,a⟩,?_⟩
  .rw[w64];simp
  .show q74 d D.length w'<q74 d D.length w;rw[u,g];omega
def d0(D:List (Name×SlD))(n:Name):SlD:=(qe D n).getD ⟨A1,0,[]⟩
def d0_val(D:List (Name×SlD))(n:Name):((qe D n).map vS).getD (Zl A1 0 0)=.slice (d0 D n).p (d0 D n).ids.length (d0 D n).c:=by unfold d0;cases qe D n<;>rfl
def d0_ids(h:RepQ (rowsOf D) wh G)(n:Name):(d0 D n).ids=gL G n:=by rw[<-h.row n,rows_get];unfold d0;cases qe D n<;>rfl
def ownsA.take0(n:Name)(h:St W (ownsA D::F) w):St W (SlA 3 1 iV (d0 D n).p (d0 D n).c (d0 D n).ids::ownsA (qp D n)::F) w:=by
 unfold d0;cases hd:qe D n with
 |some d=>exact ownsA.take hd h
 |none=>rw[ql6 hd];exact z09 h
def adel_aset{κ ν:Type}[DecidableEq κ](L:List (κ×ν))(k:κ)(v:ν):qp (qk L k v) k=qp L k:=by
 induction L with
 |nil=>simp[qk,qp]
 |cons x r w=>
  simp only[qk,qp];by_cases h:x.1=k;.simp[h,qp]
  .simp[h,qp,w]
def Put_spec(n:Name)(id:Int)(a:St W (QueueA q G::F) w):
 qb Zp 384 #[Zq (A0 ⟨q,0,A1⟩),Zs n,Zi Zk id] w λv w'=>v=Zi Zk (gPut G n id).2/\St W (QueueA q (gPut G n id).1::F) w':=by
 obtain⟨m1,m2,D,wh,f,a⟩:=QueueA.open_ a;refine F384_of (z7 (zv 0 a rfl rfl (qq1 kI uM2 iS zS 2 a rfl id A5 ?_)));rw[yB rfl,f.wh];refine⟨(gW G id).getD ⟨#[]⟩,(gW G id).isSome,by cases gW G id<;>rfl,za (λh=>?_) λh=>?_⟩;.unfold gPut;rw[yB h];exact⟨rfl,QueueA.shut f a⟩
 have l:gW G id=A1:=by simpa using h
 refine z7 (zv 0 a rfl rfl (qq1 kS uM1 iIs zIs 1 a rfl n A2 ?_));rw[yA (by simp),d0_val];have r:=f.ok.row n;have p:=f.ok.all;refine⟨_,_,_,rfl,za (λg=>?_) λg=>?_⟩
 .rw[d0_ids f]at g;have g:8<=(gL G n).length:=by simp at g;omega
  unfold gPut;rw[yA (by simp[l]),yB (.inl g)];exact⟨rfl,QueueA.shut f a⟩
 rw[d0_ids f]at g;have g:(gL G n).length<8:=by simp at g;omega
 refine(Many_spec (QueueA.shut f a)).of λv w1 ⟨t,a⟩=>⟨_,t,za (λc=>?_) λc=>?_⟩
 .have c:64<=G.length:=by simp at c;omega
  unfold gPut;rw[yA (by simp[l]),yB (.inr c)];exact⟨rfl,a⟩
 have c:G.length<64:=by simp at c;omega
 have y:gPut G n id=(G++[(n,id)],0):=by unfold gPut;rw[yA (by simp[l]),yA (by omega)]
 rw[y];obtain⟨m1,m2,D,wh,f,a⟩:=QueueA.open_ a;have i:=d0_ids f n;have m:=z6 W (QL q m1 m2 D wh F);refine⟨StC W _,zd a,z7 (z7 ⟨_,z0a 0 m rfl rfl,_,z0a 0 m rfl rfl,(d0 D n).p,(d0 D n).ids.length,(d0 D n).c,λG w h=>qq1 kS uM1 iIs zIs 1 h rfl n A2 ?_,λb=>?_⟩)⟩
 .rw[yA (by simp),d0_val];exact⟨_,_,_,rfl,rfl,h⟩
 have o:=m.push b (.cells #[Zi Zk id] 3);refine zk (α:=Option Ax×Nat) (V:=λx=>.slice x.1 ((d0 D n).ids++[id]).length x.2) (B:=λx=>Row q 172 [.map (A0 m1),.map (A0 m2)]::qg Zs vS m1 D::qg (Zi Zk) Zs m2 wh::SlA 3 1 iV x.1 x.2 ((d0 D n).ids++[id])::ownsA (qp D n)::F) (A1,0) o (λG w h=>?_) λx=>?_
 .have h:St W (Pt b (.cells #[Zi Zk id] 3)::Row q 172 [.map (A0 m1),.map (A0 m2)]::qg Zs vS m1 D::qg (Zi Zk) Zs m2 wh::ownsA D::(F++pts G)) w:=h;have h:=St.imp h z0c;have h:=ownsA.take0 n (zf 4 0 h rfl);refine qf3 (os:=(d0 D n).ids) (xs:=[id]) iV1 uIs (.inr ⟨_,uIs⟩) iInt sInt zInt rfl 0 h rfl (z06 1 rfl λF=>z0m) rfl iVn (by rw[bInt,i];simp;omega) (by rw[i];simp;omega) λu s z a=>⟨_,_,_,rfl,(u,s),rfl,?_⟩;exact zf 0 3 (zf 1 4 (z03 2 a rfl) rfl) rfl
 have k:=z6 W (Row q 172 [.map (A0 m1),.map (A0 m2)]::qg Zs vS m1 D::qg (Zi Zk) Zs m2 wh::SlA 3 1 iV x.1 x.2 ((d0 D n).ids++[id])::ownsA (qp D n)::F);refine⟨_,_,_,rfl,z0a 0 k rfl rfl,?_⟩;refine Ef.n (α:=Unit) (V:=λ_=>Zt #[]) (B:=λ_=>[qg Zs vS m1 (qk D n ⟨x.1,x.2,(d0 D n).ids++[id]⟩)]) () 1 k rfl (λG w h=>qh1 kS uM1 0 h rfl n ⟨x.1,x.2,(d0 D n).ids++[id]⟩ λw' h=>⟨(),rfl,?_⟩) λ_=>⟨rfl,trivial,λG w h=>?_⟩;.exact z0w [_] h
 .have a:=zb h;refine z7 (zv 0 a rfl rfl (qh1 kI uM2 2 a rfl id n λw' a=>⟨rfl,?_⟩));have j:=f.put l g c;rw[rows_get,show((qe D n).map SlD.ids).getD []=(d0 D n).ids by unfold d0;cases qe D n<;>rfl]at j;have e:=rows_set D n ⟨x.1,x.2,(d0 D n).ids++[id]⟩;rw[<-e]at j;refine QueueA.shut j (m1:=m1) (m2:=m2) ?_;exact zf 0 3 (ownsA.give (D:=D) (n:=n) (d:=⟨x.1,x.2,(d0 D n).ids++[id]⟩) (zf 4 1 (zf 3 0 a rfl) rfl)) rfl
def Drop_raw(id:Int)(z:RepQ (rowsOf D) wh G)(O:(wh.map (·.1)).Nodup)(f:St W (QL q m1 m2 D wh F) w):
 qb Zp 149 #[Zq (A0 ⟨q,0,A1⟩),Zi Zk id] w λv w'=>(gW G id=A1/\v=Zb A2/\St W (QL q m1 m2 D wh F) w')\/
  ∃n H,gW G id=A0 n/\v=Zb A5/\RepQ (rowsOf H) (qp wh id) (gDrop G id)/\St W (QL q m1 m2 H (qp wh id) (SlA 3 1 iV (d0 D n).p (d0 D n).c (d0 D n).ids::F)) w':=by
 refine F149_of (z7 (zv 0 f rfl rfl (qq1 kI uM2 iS zS 2 f rfl id A5 ?_)));rw[yB rfl,z.wh];refine⟨(gW G id).getD ⟨#[]⟩,(gW G id).isSome,by cases gW G id<;>rfl,za (λh=>?_) λh=>?_⟩
 .have C:gW G id=A1:=by simpa using h
  exact .inl ⟨C,rfl,f⟩
 obtain⟨n,K⟩:∃n,gW G id=A0 n:=by
  cases C:gW G id with
  |none=>rw[C]at h;simp at h
  |some n=>exact⟨n,rfl⟩
 rw[K,Aq];refine z7 (zv 0 f rfl rfl (qc5 kI uM2 2 f rfl id λw1 f=>z7 (zv 0 f rfl rfl (qq1 kS uM1 iIs zIs 1 f rfl n A2 ?_))));rw[yA (by simp),d0_val];have s:=d0_ids z n;have r:=z.ok.row n;rw[<-s]at r;have f:St W (Row q 172 [.map (A0 m1),.map (A0 m2)]::qg Zs vS m1 D::qg (Zi Zk) Zs m2 (qp wh id)::ownsA (qp D n)::SlA 3 1 iV (d0 D n).p (d0 D n).c (d0 D n).ids::F) w1:=
  zf 0 4 (zf 1 4 (ownsA.take0 n (zf 3 0 f rfl)) rfl) rfl
 generalize t:d0 D n=d at s r f;refine⟨_,_,_,rfl,?_⟩;refine⟨λvs w=>∃(k:Nat) (p:Option Ax) (c:Nat),k<=d.ids.length/\vs=[Zl p ((d.ids.take k).filter λx=>decide (x≠id)).length c,Zi Zk k]/\
  St W (Row q 172 [.map (A0 m1),.map (A0 m2)]::qg Zs vS m1 D::qg (Zi Zk) Zs m2 (qp wh id)::ownsA (qp D n)::SlA 3 1 iV d.p d.c d.ids::SlA 3 1 iV p c ((d.ids.take k).filter λx=>decide (x≠id))::F) w,leftN d.ids.length,⟨0,A1,0,Nat.zero_le _,rfl,z0w [_,_,_,_,_] (z09 f)⟩,λj V i x w T=>?_⟩
 obtain⟨k,p,c,U,N,f⟩:=T;cases N;refine za (λl=>?_) λA=>?_
 .have l:k<d.ids.length:=by have:=yC l;omega
  have I:d.ids[k]?=A0 d.ids[k]:=List.getElem?_eq_getElem l;have m:d.ids.take (k+1)=d.ids.take k++[d.ids[k]]:=by rw[List.take_add_one,I];rfl
  refine z0e iV1 (by decide) (z06 4 rfl z0g) f rfl l I λa Q=>zt (Q 0 _ rfl) ?_;have L:leftN d.ids.length [Zi Zk ((k+1:Nat):Int)] w<leftN d.ids.length [Zi Zk (k:Int)] w:=by show d.ids.length -(k+1)<d.ids.length - k;omega
  rw[up l (by omega)];refine za (λg=>?_) λg=>?_
  .have g:d.ids[k]≠id:=by simpa using g
   refine zh f λb E f=>?_;refine qf3 (os:=(d.ids.take k).filter λx=>decide (x≠id)) (xs:=[d.ids[k]]) iV1 uIs (.inr ⟨_,uIs⟩) iInt sInt zInt rfl 6 f rfl (z06 0 rfl λF=>z0m) rfl iVn ?_ ?_ λR P J f=>⟨_,_,_,rfl,⟨k+1,R,P,by omega,?_,?_⟩,L⟩
   .have:=Ab (λx=>decide (x≠id)) (d.ids.take k);rw[bInt];simp only[Ad,Aj,As]at this⊢;omega
   .have:=Ab (λx=>decide (x≠id)) (d.ids.take k);simp only[Ad,Aj,As]at this⊢;omega
   .rw[m,Ac];simp[g]
   .rw[m,Ac];simp only[Ap,List.filter_nil,g,ne_eq,not_false_eq_true,decide_true,if_true];exact z03 0 f rfl
  .have g:d.ids[k]=id:=by simpa using g
   refine⟨⟨k+1,j,i,by omega,?_,?_⟩,L⟩;.rw[m,Ac];simp[g]
   .rw[m,Ac];simpa [g]using f
 .have B:k=d.ids.length:=by have:=yD A;omega
  subst B;rw[List.take_length]at f⊢;have y:leftOver (rowsOf D) n id=d.ids.filter λx=>decide (x≠id):=by unfold leftOver;rw[rows_get,<-t];unfold d0;cases qe D n<;>rfl
  have u:=z.drop O K;refine z7 (zv 0 f rfl rfl (qh1 kS uM1 1 f rfl n ⟨j,i,d.ids.filter λx=>decide (x≠id)⟩ λE f=>?_));refine za (λo=>?_) λo=>?_
  .have o:(d.ids.filter λx=>decide (x≠id))=[]:=A8 (by simpa using o);refine z7 (zv 0 f rfl rfl (qc5 kS uM1 1 f rfl n λJ f=>.inr ⟨n,qp (qk D n ⟨j,i,d.ids.filter λx=>decide (x≠id)⟩) n,rfl,rfl,?_,?_⟩))
   .have e:rowsOf (qp (qk D n ⟨j,i,d.ids.filter λx=>decide (x≠id)⟩) n)=dropRows (rowsOf D) n id:=by unfold dropRows;rw[y,yB o,rows_del,rows_set]
    rw[e];exact u
   .rw[t];have h:=z03 5 f rfl;have h:St W (Row q 172 [.map (A0 m1),.map (A0 m2)]::qg Zs vS m1 (qp (qk D n ⟨j,i,d.ids.filter λx=>decide (x≠id)⟩) n)::qg (Zi Zk) Zs m2 (qp wh id)::ownsA (qp D n)::SlA 3 1 iV d.p d.c d.ids::F) J:=h;rwa[<-adel_aset D n ⟨j,i,d.ids.filter λx=>decide (x≠id)⟩]at h
  .have o:(d.ids.filter λx=>decide (x≠id))≠[]:=λe=>by rw[e]at o;simp at o
   refine .inr ⟨n,qk D n ⟨j,i,d.ids.filter λx=>decide (x≠id)⟩,rfl,rfl,?_,?_⟩
   .have e:rowsOf (qk D n ⟨j,i,d.ids.filter λx=>decide (x≠id)⟩)=dropRows (rowsOf D) n id:=by unfold dropRows;rw[y,yA o,rows_set]
    rw[e];exact u
   .rw[t];have h:St W (Row q 172 [.map (A0 m1),.map (A0 m2)]::qg Zs vS m1 (qk D n ⟨j,i,d.ids.filter λx=>decide (x≠id)⟩)::qg (Zi Zk) Zs m2 (qp wh id)::ownsA (qp D n)::SlA 3 1 iV d.p d.c d.ids::ownD (n,⟨j,i,d.ids.filter λx=>decide (x≠id)⟩)::F) E:=f;have M:St W (ownD (n,⟨j,i,d.ids.filter λx=>decide (x≠id)⟩)::ownsA (qp D n)::Row q 172 [.map (A0 m1),.map (A0 m2)]::qg Zs vS m1 (qk D n ⟨j,i,d.ids.filter λx=>decide (x≠id)⟩)::qg (Zi Zk) Zs m2 (qp wh id)::SlA 3 1 iV d.p d.c d.ids::F) E:=zf 4 1 (zf 5 0 h rfl) rfl;exact zf 0 3 (ownsA.give M) rfl
def Drop_spec(id:Int)(a:St W (QueueA q G::F) w):
 qb Zp 149 #[Zq (A0 ⟨q,0,A1⟩),Zi Zk id] w λv w'=>v=Zb (gW G id).isSome/\St W (QueueA q (gDrop G id)::F) w':=by
 obtain⟨m1,m2,D,wh,f,a⟩:=QueueA.open_ a;have g:(wh.map (·.1)).Nodup:=z18 kI (a.at 2 rfl);refine(Drop_raw id f g a).of λv w1 h=>?_;rcases h with ⟨b,d,a⟩|⟨n,j,b,d,c,a⟩
 .have e:gDrop G id=G:=by unfold gDrop;rw[Ak];intro x i;simp only[yJ];exact λe=>gW_none.1 b (Ai.2 ⟨x,i,e⟩)
  rw[b,e];exact⟨d,QueueA.shut f a⟩
 .rw[b];exact⟨d,QueueA.shut c (z03 4 a rfl)⟩
end
end Qu
end
namespace Ri
structure Way where
 bs:List UInt8
 ended:Bool
 told:Bool
 moved:Int
structure PS where
 w0:Way
 w1:Way
 broken:Bool
def Way.new:Way:=⟨[],A2,A2,0⟩
def PS.new:PS:=⟨Way.new,Way.new,A2⟩
def sideB(n:Int):Bool:=n==0||n==1
def Way.end_(w:Way)(k:Int):Bool:=w.ended&&!w.told&&(w.bs.drop k.toNat).isEmpty
def Way.out(w:Way)(k:Int):Way:=⟨w.bs.drop k.toNat,w.ended,w.told||w.end_ k,Zw Zk (w.moved+((w.bs.take k.toNat).length:Int))⟩
def PS.at(s:PS)(n:Int):Way:=if n=0 then s.w0 else s.w1
def PS.to(s:PS)(n:Int):Way:=if n=0 then s.w1 else s.w0
def PS.outB(s:PS)(n k:Int):List UInt8:=if sideB n&&!s.broken then(s.to n).bs.take k.toNat else []
def PS.outE(s:PS)(n k:Int):Bool:=sideB n&&!s.broken&&(s.to n).end_ k
def PS.out(s:PS)(n k:Int):PS:=if sideB n&&!s.broken then(if n=0 then⟨s.w0,s.w1.out k,A2⟩else⟨s.w0.out k,s.w1,A2⟩)else s
def PS.hears(s:PS)(n:Int):Bool:=sideB n&&!s.broken&&!(s.at n).ended
def PS.end_(s:PS)(n:Int):PS:=if s.hears n then(if n=0 then⟨{ s.w0 with ended:=A5},s.w1,s.broken⟩else⟨s.w0,{ s.w1 with ended:=A5},s.broken⟩)else s
def Way.add(w:Way)(m:Nat)(xs:List UInt8):Way:={ w with bs:=w.bs++xs.take (m - w.bs.length)}
def PS.inN(s:PS)(m:Nat)(n:Int)(xs:List UInt8):Nat:=if s.hears n then min xs.length (m -(s.at n).bs.length)else 0
def PS.in_(s:PS)(m:Nat)(n:Int)(xs:List UInt8):PS:=if s.hears n then(if n=0 then⟨s.w0.add m xs,s.w1,s.broken⟩else⟨s.w0,s.w1.add m xs,s.broken⟩)else s
def PS.room(s:PS)(m:Nat)(n:Int):Nat:=if s.hears n then m -(s.at n).bs.length else 0
def pumpRow(w h:Nat)(most:Int)(w0 w1:Way)(a:Bool):List A9:=
 [Zq (A0 ⟨w,0,A1⟩),Zb w0.ended,Zb w0.told,Zi Zk w0.moved,Zq (A0 ⟨h,0,A1⟩),Zb w1.ended,Zb w1.told,Zi Zk w1.moved,Zi Zk most,Zb a]
def capOf(most:Int):Nat:=min most.toNat 65536
def PumpA(h:Nat)(most:Int)(s:PS):Asn:=exA λx:Nat×Nat=>qz [
 Row h 336 (pumpRow x.1 x.2 most s.w0 s.w1 s.broken),RingA x.1 (capOf most) s.w0.bs,RingA x.2 (capOf most) s.w1.bs]
def PumpA.open_{W w:A3}{F:List Asn}{c:Nat}{most:Int}{s:PS}(h:St W (PumpA c most s::F) w):
 ∃b a:Nat,St W (Row c 336 (pumpRow b a most s.w0 s.w1 s.broken)::RingA b (capOf most) s.w0.bs::RingA a (capOf most) s.w1.bs::F) w:=by
 obtain⟨⟨b,a⟩,h⟩:=h.of_ex;exact⟨b,a,h.of_sep⟩
def PumpA.shut{W w:A3}{F:List Asn}{c b a:Nat}{most:Int}{s:PS}(h:St W (Row c 336 (pumpRow b a most s.w0 s.w1 s.broken)::RingA b (capOf most) s.w0.bs::RingA a (capOf most) s.w1.bs::F) w):St W (PumpA c most s::F) w:=
 z00 (b,a) (zj (l:=[_,_,_]) h)
def pside_spec{W w:A3}{F:List Asn}(n:Int)(h:St W F w):qb Zp 216 #[Zi Zk n] w λv w'=>v=Zb (sideB n)/\St W F w':=by
 refine F216_of ⟨by decide,?_,h⟩;have e:Int.fdiv n (2 ^ min (Int.toNat 1) (IntKind.bits Zk))=n/2:=by rw[show(2:Int) ^ min (Int.toNat 1) (IntKind.bits Zk)=2 from rfl,Int.fdiv_eq_ediv_of_nonneg _ (by decide)]
 rw[e];congr 1;unfold sideB;rw[Bool.eq_iff_iff];simp;omega
def side_cases{n:Int}(h:sideB n=A5):n=0\/n=1:=by simpa [sideB]using h
def hears_spec{W w:A3}{F:List Asn}{c g f:Nat}{most:Int}{s:PS}(n:Int)(a:St W (Row c 336 (pumpRow g f most s.w0 s.w1 s.broken)::F) w):
 qb Zp 211 #[Zq (A0 ⟨c,0,A1⟩),Zi Zk n] w λv w'=>v=Zq (if s.hears n then(if n=0 then A0 ⟨c,0,A1⟩else A0 ⟨c,4,A1⟩)else A1)/\St W (Row c 336 (pumpRow g f most s.w0 s.w1 s.broken)::F) w':=by
 refine F211_of ((pside_spec n a).of λv w1 ⟨i,a⟩=>⟨_,i,?_⟩);refine za (λh=>⟨?_,a⟩) λh=>?_
 .have h:sideB n=A2:=by simpa using h
  simp[PS.hears,h]
 have e:sideB n=A5:=by simpa using h
 refine z7 (LdB.i a rfl (za (λd=>⟨?_,a⟩) λd=>?_));.simp[PS.hears,d]
 rcases side_cases e with rfl|rfl
 .refine z7 ⟨_,rfl,⟨by decide,by decide⟩,LdB.i a rfl (za (λb=>⟨?_,a⟩) λb=>z7 ⟨_,rfl,⟨by decide,by decide⟩,?_,a⟩)⟩;.simp[PS.hears,PS.at,b]
  .simp[PS.hears,PS.at,b,d,e];rfl
 .refine z7 ⟨_,rfl,⟨by decide,by decide⟩,LdB.i a rfl (za (λb=>⟨?_,a⟩) λb=>z7 ⟨_,rfl,⟨by decide,by decide⟩,?_,a⟩)⟩;.simp[PS.hears,PS.at,b]
  .simp[PS.hears,PS.at,b,d,e];rfl
def PEnd_spec{W w:A3}{F:List Asn}{c:Nat}{most:Int}{s:PS}(n:Int)(a:St W (PumpA c most s::F) w):
 qb Zp 137 #[Zq (A0 ⟨c,0,A1⟩),Zi Zk n] w λv w'=>v=Zb (s.hears n)/\St W (PumpA c most (s.end_ n)::F) w':=by
 obtain⟨g,f,a⟩:=PumpA.open_ a;refine F137_of ((hears_spec n a).of λv w1 ⟨e,a⟩=>⟨_,e,?_⟩);cases b:s.hears n with
 |false=>exact za (λh=>by simp[qi2]at h) λ_=>⟨by simp[qi2],by rw[show s.end_ n=s by simp[PS.end_,b]];exact PumpA.shut a⟩
 |true=>
  rcases side_cases (n:=n) (by simp[PS.hears]at b;simpa using b.1.1)with rfl|rfl
  .refine za (λ_=>z7 (St1.i a (by simp[pumpRow]) λd a=>⟨rfl,?_⟩)) λh=>by simp[qi2]at h
   rw[show s.end_ 0=⟨{ s.w0 with ended:=A5},s.w1,s.broken⟩by simp[PS.end_,b]];exact PumpA.shut (s:=⟨{ s.w0 with ended:=A5},s.w1,s.broken⟩) a
  .refine za (λ_=>z7 (St1.i a (by simp[pumpRow]) λd a=>⟨rfl,?_⟩)) λh=>by simp[qi2]at h
   rw[show s.end_ 1=⟨s.w0,{ s.w1 with ended:=A5},s.broken⟩by simp[PS.end_,b]];exact PumpA.shut (s:=⟨s.w0,{ s.w1 with ended:=A5},s.broken⟩) a
def PIn_spec{W w:A3}{F:List Asn}{e c:Nat}{most:Int}{s:PS}{xs:List UInt8}{p:Option Ax}(n:Int)(f:Rd F p (xs.map qd))(g:xs.length<=c)(a:St W (PumpA e most s::F) w):
 qb Zp 134 #[Zq (A0 ⟨e,0,A1⟩),Zi Zk n,Zl p xs.length c] w λv w'=>v=Zi Zk (s.inN (capOf most) n xs:Nat)/\St W (PumpA e most (s.in_ (capOf most) n xs)::F) w':=by
 obtain⟨k,j,a⟩:=PumpA.open_ a;refine F134_of ((hears_spec n a).of λv w1 ⟨d,a⟩=>⟨_,d,?_⟩);cases b:s.hears n with
 |false=>exact za (λh=>by simp[qi2]at h) λ_=>⟨by simp[PS.inN,b],by rw[show s.in_ (capOf most) n xs=s by simp[PS.in_,b]];exact PumpA.shut a⟩
 |true=>
  rcases side_cases (n:=n) (by simp[PS.hears]at b;simpa using b.1.1)with rfl|rfl
  .refine za (λ_=>z7 (LdP.i a rfl ((Add_spec ((f.cons _).cons _) g a.p1).of λv i ⟨d,a⟩=>⟨_,d,?_,?_⟩))) λh=>by simp[qi2]at h
   .simp[PS.inN,b,PS.at]
   .rw[show s.in_ (capOf most) 0 xs=⟨s.w0.add (capOf most) xs,s.w1,s.broken⟩by simp[PS.in_,b]];exact PumpA.shut (s:=⟨s.w0.add (capOf most) xs,s.w1,s.broken⟩) a.p1
  .refine za (λ_=>z7 (LdP.i a rfl ((Add_spec ((f.cons _).cons _) g a.p2).of λv i ⟨d,a⟩=>⟨_,d,?_,?_⟩))) λh=>by simp[qi2]at h
   .simp[PS.inN,b,PS.at]
   .rw[show s.in_ (capOf most) 1 xs=⟨s.w0,s.w1.add (capOf most) xs,s.broken⟩by simp[PS.in_,b]];exact PumpA.shut (s:=⟨s.w0,s.w1.add (capOf most) xs,s.broken⟩) (z0w [_,_] a)
def PRoom_spec{W w:A3}{F:List Asn}{d:Nat}{most:Int}{s:PS}(n:Int)(a:St W (PumpA d most s::F) w):
 qb Zp 133 #[Zq (A0 ⟨d,0,A1⟩),Zi Zk n] w λv w'=>v=Zi Zk (s.room (capOf most) n:Nat)/\St W (PumpA d most s::F) w':=by
 obtain⟨g,f,a⟩:=PumpA.open_ a;refine F133_of ((hears_spec n a).of λv w1 ⟨c,a⟩=>⟨_,c,?_⟩);cases b:s.hears n with
 |false=>exact za (λh=>by simp[qi2]at h) λ_=>⟨by simp[PS.room,b],PumpA.shut a⟩
 |true=>
  rcases side_cases (n:=n) (by simp[PS.hears]at b;simpa using b.1.1)with rfl|rfl;.exact za (λ_=>z7 (LdP.i a rfl ((Room_spec a.p1).of λv e ⟨c,a⟩=>⟨_,c,by simp[PS.room,b,PS.at],PumpA.shut a.p1⟩))) λh=>by simp[qi2]at h
  .exact za (λ_=>z7 (LdP.i a rfl ((Room_spec a.p2).of λv e ⟨c,a⟩=>⟨_,c,by simp[PS.room,b,PS.at],PumpA.shut (z0w [_,_] a)⟩))) λh=>by simp[qi2]at h
def out_fin{W w:A3}{F:List Asn}{e d c b:Nat}{most:Int}{w0 w1:Way}{a:Bool}{bs:List UInt8}(h:St W (Row e 336 (pumpRow d c most w0 w1 a)::RingA d (capOf most) w0.bs::RingA c (capOf most) w1.bs::Row b 5 (bs.map qd)::F) w):
 St W (qi 5 1 (A0 ⟨b,0,A1⟩) bs.length bs.length (bs.map qd)::PumpA e most ⟨w0,w1,a⟩::F) w:=
 qi.whole (by simp) (PumpA.shut (s:=⟨w0,w1,a⟩) h).p1
def POut_spec{W w:A3}{F:List Asn}{o:Nat}{most:Int}{s:PS}(n k:Int)(a:St W (PumpA o most s::F) w):
 qb Zp 138 #[Zq (A0 ⟨o,0,A1⟩),Zi Zk n,Zi Zk k] w λv w'=>∃p c,v=Zt #[Zl p (s.outB n k).length c,Zb (s.outE n k)]/\St W (qi 5 1 p (s.outB n k).length c ((s.outB n k).map qd)::PumpA o most (s.out n k)::F) w':=by
 obtain⟨t,r,a⟩:=PumpA.open_ a;refine F138_of ((pside_spec n a).of λv w1 ⟨j,a⟩=>⟨_,j,za (λh=>⟨A1,0,?_⟩) λh=>?_⟩)
 .have h:sideB n=A2:=by simpa using h
  rw[show s.out n k=s by simp[PS.out,h],show s.outB n k=[]by simp[PS.outB,h],show s.outE n k=A2 by simp[PS.outE,h]];exact⟨rfl,z1a _ _ _ (PumpA.shut a)⟩
 have q:sideB n=A5:=by simpa using h
 refine z7 (LdB.i a rfl (za (λh=>⟨A1,0,?_⟩) λm=>?_))
 .rw[show s.out n k=s by simp[PS.out,h],show s.outB n k=[]by simp[PS.outB,h],show s.outE n k=A2 by simp[PS.outE,h]];exact⟨rfl,z1a _ _ _ (PumpA.shut a)⟩
 rcases side_cases q with rfl|rfl
 .rw[show s.out 0 k=⟨s.w0,s.w1.out k,A2⟩by simp[PS.out,m,q],show s.outB 0 k=s.w1.bs.take k.toNat by simp[PS.outB,m,q,PS.to],show s.outE 0 k=s.w1.end_ k by simp[PS.outE,m,q,PS.to]];rw[m]at a;have g:∀(told e:Bool) (w':A3) (b:Nat),(s.w1.told||s.w1.end_ k)=told->s.w1.end_ k=e->St W (Row o 336 [Zq (A0 ⟨t,0,A1⟩),Zb s.w0.ended,Zb s.w0.told,Zi Zk s.w0.moved,Zq (A0 ⟨r,0,A1⟩),Zb s.w1.ended,Zb told,Zi Zk (Zw Zk (s.w1.moved+((s.w1.bs.take k.toNat).length:Int))),Zi Zk most,Zb A2]::RingA t (capOf most) s.w0.bs::RingA r (capOf most) (s.w1.bs.drop k.toNat)::Row b 5 ((s.w1.bs.take k.toNat).map qd)::F) w'->
   ∃p c,Zt #[.slice (A0 ⟨b,0,A1⟩) (s.w1.bs.take k.toNat).length (s.w1.bs.take k.toNat).length,Zb e]=Zt #[Zl p (s.w1.bs.take k.toNat).length c,Zb (s.w1.end_ k)]/\St W (qi 5 1 p (s.w1.bs.take k.toNat).length c ((s.w1.bs.take k.toNat).map qd)::PumpA o most ⟨s.w0,s.w1.out k,A2⟩::F) w':=by
   intro told e w' b x u h;subst x;subst u;exact⟨_,_,rfl,out_fin (w1:=s.w1.out k) h⟩
  refine z7 ⟨_,rfl,⟨by decide,by decide⟩,?_⟩;refine qb.of (F217_of (z7 (LdP.i (k0:=4) a rfl ((Take_spec k a.p2).of λv y ⟨b,j,a⟩=>⟨_,_,_,j,?_⟩)))) λv w' j=>j;have a:=z0w [_,_] (z0w [_,_,_] a);refine z7 (LdI.i (k0:=7) a rfl (z7 (St1.i (k0:=7) a (by simp[pumpRow]) λB a=>z7 (LdB.i (k0:=5) a rfl (za (λf=>⟨_,_,_,_,rfl,?_⟩) λf=>z7 (LdB.i (k0:=6) a rfl (za (λl=>⟨_,_,_,_,rfl,?_⟩) λl=>?_)))))))
  .have f:s.w1.ended=A2:=by simpa using f
   exact g _ _ _ _ (by simp[Way.end_,f]) (by simp[Way.end_,f]) a
  .exact g _ _ _ _ (by simp[Way.end_,l]) (by simp[Way.end_,l]) a
  refine z7 (LdP.i (k0:=4) a rfl ((Many_spec a.p2).of λv A ⟨j,a⟩=>⟨_,j,za (λi=>⟨_,_,_,_,rfl,?_⟩) λi=>?_⟩))
  .have i:0<(s.w1.bs.drop k.toNat).length:=by have:=yC i;omega
   have d:(s.w1.bs.drop k.toNat).isEmpty=A2:=by cases hd:s.w1.bs.drop k.toNat with|nil=>rw[hd]at i;simp at i|cons=>rfl
   exact g _ _ _ _ (by simp only[Way.end_,d,Af,Az]) (by simp only[Way.end_,d,Af]) (z0w [_,_] a)
  .have i:(s.w1.bs.drop k.toNat).length=0:=by have:=yD i;omega
   have d:(s.w1.bs.drop k.toNat).isEmpty=A5:=by rw[Au];exact A8 i
   have f:s.w1.ended=A5:=by simpa using f
   refine z7 (St1.i (k0:=6) (z0w [_,_] a) (by simp[pumpRow]) λz a=>⟨_,_,_,_,rfl,?_⟩);exact g _ _ _ _ (by simp only[Way.end_,d,f,l,Ag,Ah,B0]) (by simp only[Way.end_,d,f,l,Ag,Ah]) a
 .rw[show s.out 1 k=⟨s.w0.out k,s.w1,A2⟩by simp[PS.out,m,q],show s.outB 1 k=s.w0.bs.take k.toNat by simp[PS.outB,m,q,PS.to],show s.outE 1 k=s.w0.end_ k by simp[PS.outE,m,q,PS.to]];rw[m]at a;have g:∀(told e:Bool) (w':A3) (b:Nat),(s.w0.told||s.w0.end_ k)=told->s.w0.end_ k=e->St W (Row o 336 [Zq (A0 ⟨t,0,A1⟩),Zb s.w0.ended,Zb told,Zi Zk (Zw Zk (s.w0.moved+((s.w0.bs.take k.toNat).length:Int))),Zq (A0 ⟨r,0,A1⟩),Zb s.w1.ended,Zb s.w1.told,Zi Zk s.w1.moved,Zi Zk most,Zb A2]::RingA t (capOf most) (s.w0.bs.drop k.toNat)::RingA r (capOf most) s.w1.bs::Row b 5 ((s.w0.bs.take k.toNat).map qd)::F) w'->
   ∃p c,Zt #[.slice (A0 ⟨b,0,A1⟩) (s.w0.bs.take k.toNat).length (s.w0.bs.take k.toNat).length,Zb e]=Zt #[Zl p (s.w0.bs.take k.toNat).length c,Zb (s.w0.end_ k)]/\St W (qi 5 1 p (s.w0.bs.take k.toNat).length c ((s.w0.bs.take k.toNat).map qd)::PumpA o most ⟨s.w0.out k,s.w1,A2⟩::F) w':=by
   intro told e w' b x u h;subst x;subst u;exact⟨_,_,rfl,out_fin (w0:=s.w0.out k) h⟩
  refine z7 ⟨_,rfl,⟨by decide,by decide⟩,?_⟩;refine qb.of (F217_of (z7 (LdP.i (k0:=0) a rfl ((Take_spec k a.p1).of λv y ⟨b,j,a⟩=>⟨_,_,_,j,?_⟩)))) λv w' j=>j;have a:=(z0w [_,_,_] a).p1;refine z7 (LdI.i (k0:=3) a rfl (z7 (St1.i (k0:=3) a (by simp[pumpRow]) λB a=>z7 (LdB.i (k0:=1) a rfl (za (λf=>⟨_,_,_,_,rfl,?_⟩) λf=>z7 (LdB.i (k0:=2) a rfl (za (λl=>⟨_,_,_,_,rfl,?_⟩) λl=>?_)))))))
  .have f:s.w0.ended=A2:=by simpa using f
   exact g _ _ _ _ (by simp[Way.end_,f]) (by simp[Way.end_,f]) a
  .exact g _ _ _ _ (by simp[Way.end_,l]) (by simp[Way.end_,l]) a
  refine z7 (LdP.i (k0:=0) a rfl ((Many_spec a.p1).of λv A ⟨j,a⟩=>⟨_,j,za (λi=>⟨_,_,_,_,rfl,?_⟩) λi=>?_⟩))
  .have i:0<(s.w0.bs.drop k.toNat).length:=by have:=yC i;omega
   have d:(s.w0.bs.drop k.toNat).isEmpty=A2:=by cases hd:s.w0.bs.drop k.toNat with|nil=>rw[hd]at i;simp at i|cons=>rfl
   exact g _ _ _ _ (by simp only[Way.end_,d,Af,Az]) (by simp only[Way.end_,d,Af]) a.p1
  .have i:(s.w0.bs.drop k.toNat).length=0:=by have:=yD i;omega
   have d:(s.w0.bs.drop k.toNat).isEmpty=A5:=by rw[Au];exact A8 i
   have f:s.w0.ended=A5:=by simpa using f
   refine z7 (St1.i (k0:=2) a.p1 (by simp[pumpRow]) λz a=>⟨_,_,_,_,rfl,?_⟩);exact g _ _ _ _ (by simp only[Way.end_,d,f,l,Ag,Ah,B0]) (by simp only[Way.end_,d,f,l,Ag,Ah]) a
def leftN(n:Nat):List A9->A3->Nat:=λvs _=>match vs.getLast? with
 |some (.int _ i)=>n - i.toNat
 |_=>0
def PNew_spec{W w:A3}{F:List Asn}(most:Int)(d:St W F w):
 qb Zp 363 #[Zi Zk most] w λv w'=>∃b,v=Zq (A0 ⟨b,0,A1⟩)/\St W (PumpA b most PS.new::F) w':=by
 refine F363_of (zh d λb n d=>?_);refine⟨λvs w=>(vs=[Zi Zk 0]/\St W (Row b 336 [Zq A1,Zb A2,Zb A2,Zi Zk 0,Zq A1,Zb A2,Zb A2,Zi Zk 0,Zi Zk most,Zb A2]::F) w)\/(vs=[Zi Zk 1]/\∃a,St W (Row b 336 [Zq (A0 ⟨a,0,A1⟩),Zb A2,Zb A2,Zi Zk 0,Zq A1,Zb A2,Zb A2,Zi Zk 0,Zi Zk most,Zb A2]::RingA a (capOf most) []::F) w)\/(vs=[Zi Zk 2]/\∃a g,St W (Row b 336 (pumpRow a g most Way.new Way.new A2)::RingA a (capOf most) []::RingA g (capOf most) []::F) w),leftN 2,.inl ⟨rfl,d⟩,λi o m=>?_⟩;rcases m with ⟨l,d⟩|⟨l,a,d⟩|⟨l,a,g,d⟩<;>cases l
 .refine za (λ_=>⟨StC W _,zd d,?_⟩) λh=>by simp at h
  refine⟨Nat,0,λr=>Zq (A0 ⟨r,0,A1⟩),λr=>StC W (RingA r (capOf most) []::Row b 336 [Zq A1,Zb A2,Zb A2,Zi Zk 0,Zq A1,Zb A2,Zb A2,Zi Zk 0,Zi Zk most,Zb A2]::F),λG f c=>(New_spec most c).of λv k ⟨r,j,e⟩=>⟨_,j,r,rfl,e⟩,λr=>⟨_,rfl,trivial,_,rfl,⟨by decide,by decide⟩,Unit,(),λ_=>Zt #[],λ_=>StC W (Row b 336 [Zq (A0 ⟨r,0,A1⟩),Zb A2,Zb A2,Zi Zk 0,Zq A1,Zb A2,Zb A2,Zi Zk 0,Zi Zk most,Zb A2]::RingA r (capOf most) []::F),λG f c=>?_,λ_=>⟨rfl,trivial,λG f c=>?_⟩⟩⟩;.exact St1.i (k0:=0) (St.p1 c) (by simp) λk e=>⟨(),rfl,e⟩
  .exact⟨.inr (.inl ⟨rfl,r,zb c⟩),(show(2 - 1:Nat)<2 - 0 by decide)⟩
 .refine za (λ_=>⟨StC W _,zd d,?_⟩) λh=>by simp at h
  refine⟨Nat,0,λr=>Zq (A0 ⟨r,0,A1⟩),λr=>StC W (RingA r (capOf most) []::Row b 336 [Zq (A0 ⟨a,0,A1⟩),Zb A2,Zb A2,Zi Zk 0,Zq A1,Zb A2,Zb A2,Zi Zk 0,Zi Zk most,Zb A2]::RingA a (capOf most) []::F),λG f c=>(New_spec most c).of λv k ⟨r,j,e⟩=>⟨_,j,r,rfl,e⟩,λr=>⟨_,rfl,trivial,_,rfl,⟨by decide,by decide⟩,Unit,(),λ_=>Zt #[],λ_=>StC W (Row b 336 (pumpRow a r most Way.new Way.new A2)::RingA a (capOf most) []::RingA r (capOf most) []::F),λG f c=>?_,λ_=>⟨rfl,trivial,λG f c=>?_⟩⟩⟩;.exact St1.i (k0:=4) (St.p1 c) (by simp) λk e=>⟨(),rfl,e.perm (List.Perm.cons _ (List.Perm.swap _ _ _))⟩
  .exact⟨.inr (.inr ⟨rfl,a,r,zb c⟩),(show(2 - 2:Nat)<2 - 1 by decide)⟩
 .refine za (λh=>by simp at h) λ_=>⟨b,rfl,?_⟩;exact PumpA.shut (s:=PS.new) d
end Ri
structure q31 where
 conn:Int
 kind:Int
 ten:ByteArray
 name:ByteArray
 epoch:Int
 token:ByteArray
 sh:Option qw6
 heard:Bool
 pump:Option Nat
 side:Int
 due:Bool
 said:Bool
structure q81 where
 conn:Int
 b:ByteArray
 e:Bool
 c:Bool
 deriving DecidableEq
structure EvD where
 kind:Int
 conn:Int
 addr:Int
 b:ByteArray
 n:Int
 name:ByteArray
 token:ByteArray
 draw:ByteArray
structure qra where
 err:Int
 conn:Int
 took:Int
 sent:List q81
structure Bk where
 R:qva
 O:qz8
 B:qi3
 Q:Qu.QG
 T:TkB
 P:qd6
 N:Cn.CT
 K:Ck.ClG
 roles:List (Int×q31)
 S:List (Int×q81)
 pumps:List Ri.PS
def q3h(L:LeL):List LeD:=(qk4 (λ_=>A5) (λd=>d) L).2
def q93:q81:=⟨0,e0,A2,A2⟩
def qw1{α σ:Type}(f:σ->α->Option σ):σ->List α->Option σ
 |s,[]=>A0 s
 |s,x::r=>match f s x with|none=>A1|some s=>qw1 f s r
def q9l(id:Int):q31:=⟨id,1,e0,e0,0,e0,A0 ⟨0,e0,e0,e0,A2⟩,A2,A1,0,A2,A2⟩
def qq7(id:Int)(p:qac)(i:Nat)(side:Int):q31:=⟨id,4,p.ten,p.name,p.epoch,e0,A1,A2,A0 i,side,A2,A2⟩
def qe6(S:List (Int×q81))(id:Int)(went:List UInt8)(e h:Bool):List (Int×q81):=
 if(went.isEmpty&&(!e&&!h))=A5 then S else
 qk S id ⟨id,((qe S id).getD q93).b++mkS went,((qe S id).getD q93).e||e,((qe S id).getD q93).c||h⟩
def q5c(K:Ck.ClG)(after:Int)(ids:List Int):Ck.ClG:=ids.foldl (λK id=>(Ck.cSet K id (Zw Zk (K.now+after))).1) K
namespace Bk
def ask{α:Type}(s:Bk)(id:Int)(z:α)(r:Cn.CnD->α):α:=s.N.ask id z r
def upd(s:Bk)(id:Int)(g:Cn.CnD->Cn.CnD):Bk:={ s with N:=s.N.upd id g}
def send(s:Bk)(id:Int)(went:List UInt8)(e h:Bool):Bk:={ s with S:=qe6 s.S id went e h}
def alarm(s:Bk)(after:Int)(ids:List Int):Bk:={ s with K:=q5c s.K after ids}
def tell(s:Bk)(id:Int)(m:qk1):Bk:=s.upd id (Cn.gSay (Fr.putP (q0d m)))
def no(s:Bk)(id e:Int):Bk:=s.tell id (qe9 e)
def give(s:Bk)(ten:ByteArray)(h:Int):Bk:={ s with O:=(qjc s.O ten h).1}
def emptyW(f:Bk->Int->Bk)(s:Bk)(name:ByteArray):Bk:=(Qu.gL s.Q name).foldl (λs id=>f (s.no id 3) id) s
def leaveW(f:Bk->Int->Bk)(s:Bk)(l:List LeD):Bk:=l.foldl (λs x=>emptyW f (s.give x.ten 1) x.name) s
def out(s:Bk)(id:Int):Bk:=
 let s:=(s.upd id Cn.gFlush).send id (s.ask id [] Cn.rFlush) A2 A5
 { s with K:=(Ck.cDrop s.K id).1,N:={ s.N with L:=qp s.N.L id},roles:=qp s.roles id}
def after(f:Bk->Int->Bk)(s:Bk)(id:Int)(r:q31):Bk:=
 if r.kind=2 then leaveW f { s with B:=(qe5 s.B id s.K.now).1} (qe5 s.B id s.K.now).2
 else if r.kind=3 then give { s with Q:=Qu.gDrop s.Q id,T:=(q5l s.T id).1} r.ten 2
 else if r.kind=4 then(if(qe s.P.ends id).isSome=A5 then f (give { s with P:=qxf s.P id} r.ten 2) (qb4 s.P id)else { s with P:=qxf s.P id})
 else s
def shutB:Nat->Bk->Int->Bk
 |0,s,_=>s
 |n+1,s,id=>match qe s.roles id with
  |none=>s
  |some r=>after (λs i=>shutB n s i) (s.out id) id r
def shut(s:Bk)(id:Int):Bk:=shutB (s.roles.length+1) s id
def refuse(s:Bk)(id e:Int):Bk:=(s.no id e).shut id
def empty(s:Bk)(name:ByteArray):Bk:=emptyW shut s name
def gone(s:Bk)(x:LeD):Bk:=((s.give x.ten 1).tell x.conn ⟨10,x.name,e0,x.epoch,0⟩).empty x.name
def admR(s:Bk)(id:Int)(name:ByteArray)(x:LeD)(h:Bool):qz8×Qu.QG×Int:=
 if h=A2 then(s.O,s.Q,3)else
 if qgf s.O x.ten (s.ask id 0 λd=>d.addr)≠0 then(s.O,s.Q,qgf s.O x.ten (s.ask id 0 λd=>d.addr))else
 if(qq5 s.O x.ten 2).2≠0 then((qq5 s.O x.ten 2).1,s.Q,(qq5 s.O x.ten 2).2)else
 if(Qu.gPut s.Q name id).2≠0 then((qjc (qq5 s.O x.ten 2).1 x.ten 2).1,(Qu.gPut s.Q name id).1,(Qu.gPut s.Q name id).2)else
 ((qq5 s.O x.ten 2).1,(Qu.gPut s.Q name id).1,0)
def held(s:Bk)(name:ByteArray):LeD:=(q06 s.B name s.K.now).1
def admE(s:Bk)(id:Int)(name:ByteArray):Int:=(s.admR id name (s.held name) (q06 s.B name s.K.now).2).2.2
def admitted(s:Bk)(id:Int)(name:ByteArray):Bk:={ s with O:=(s.admR id name (s.held name) (q06 s.B name s.K.now).2).1,Q:=(s.admR id name (s.held name) (q06 s.B name s.K.now).2).2.1}
def put(s:Bk)(id:Int)(r:q31):Bk:={ s with roles:=qk s.roles id r}
def reach(c:qy)(s:Bk)(id:Int)(r:q31)(name draw:ByteArray):Bk:=
 if s.admE id name≠0 then(s.admitted id name).refuse id (s.admE id name)else
 let x:=s.held name;let s:=((s.admitted id name).put id { r with kind:=3,ten:=x.ten,name:=name,epoch:=x.epoch}).alarm c.wait [id]
 { s with T:=(qca s.T ⟨id,name,x.ten,x.epoch⟩ draw).1}.tell x.conn ⟨11,name,(qca s.T ⟨id,name,x.ten,x.epoch⟩ draw).2.1,0,0⟩
def nonce(draw:ByteArray):ByteArray:=mkS (q45 ((qm draw).take 16))
def greet(c:qy)(s:Bk)(id:Int)(r:q31)(m:qk1)(draw:ByteArray):Option Bk:=
 if(m.k==14&&!r.heard)=A5 then A0 (s.reach c id r m.A draw)else
 let r:=if r.heard=A5 then r else { r with heard:=A5,token:=m.B}
 match r.sh with
 |none=>A1
 |some d=>
  let (d,said,_):=q75 c s.R d m s.K.now (nonce draw);let r:={ r with sh:=A0 d};let s:=(s.put id r).tell id said
  if said.k=5 then A0 (s.shut id)else
  if d.known=A5 then A0 (s.put id { r with kind:=2,ten:=d.ten})else A0 s
def granted(s:Bk)(id:Int)(x:LeD)(e:Int):Bk:=s.tell id (if e≠0 then qe9 e else⟨7,x.name,e0,x.epoch,x.til⟩)
def claim1(s:Bk)(id:Int)(r:q31)(m:qk1):Bk:=
 let (B,x,e):=qk5 s.B r.ten m.A id s.K.now m.N
 (if e≠0 then { s with B:=B}.give r.ten 1 else { s with B:=B}).granted id x e
def claim(s:Bk)(id:Int)(r:q31)(m:qk1):Bk:=
 if(qq5 s.O r.ten 1).2≠0 then { s with O:=(qq5 s.O r.ten 1).1}.no id (qq5 s.O r.ten 1).2 else
 { s with O:=(qq5 s.O r.ten 1).1}.claim1 id r m
def renew(s:Bk)(id:Int)(r:q31)(m:qk1):Bk:=
 let (B,x,e):=qpb s.B r.ten m.A m.N s.K.now m.M
 { s with B:=B}.granted id x e
def release(s:Bk)(id:Int)(r:q31)(m:qk1):Bk:=
 let x:=(q06 s.B m.A s.K.now).1;let (B,e):=qmb s.B r.ten m.A m.N s.K.now;let s:={ s with B:=B}
 if e≠0 then s.no id e else s.gone x
def holds(id now:Int)(x:LeD):Bool:=(x.conn==id)&&(x.held&&decide (now<x.til))
def paired(c:qy)(s:Bk)(id:Int)(p:qac):Bk:=
 (({ s with Q:=Qu.gDrop s.Q p.vis,P:=(q4g s.P p.vis id).1,pumps:=s.pumps++[Ri.PS.new]}.put p.vis (qq7 p.vis p s.pumps.length 0)).put id (qq7 id p s.pumps.length 1)).alarm c.idle [p.vis,id]
def callback(c:qy)(s:Bk)(id:Int)(r:q31)(m:qk1):Option Bk:=
 if((q3h s.B.L).any (holds id s.K.now))=A5 then A0 (s.refuse id 1)else
 match qw7 s.T m.B r.ten with
 |(T,p,e)=>if e≠0 then A0 ({ s with T:=T}.refuse id e)else
  if p.vis=id then A1 else A0 ({ s with T:=T}.paired c id p)
def hear(c:qy)(s:Bk)(id:Int)(r:q31)(m:qk1)(draw:ByteArray):Option Bk:=
 let s:=s.alarm c.idle [id]
 if r.kind=1 then s.greet c id r m draw else
 if m.k=6 then A0 (s.claim id r m)else
 if m.k=8 then A0 (s.renew id r m)else
 if m.k=9 then A0 (s.release id r m)else
 if m.k=13 then A0 s else
 if m.k=12 then s.callback c id r m else
 A0 (s.refuse id 1)
def talks(s:Bk)(id:Int):Option q31:=match qe s.roles id with
 |none=>A1
 |some r=>if r.kind=1\/r.kind=2 then A0 r else A1
def read(c:qy):Nat->Bk->Int->ByteArray->Option Bk
 |0,_,_,_=>A1
 |n+1,s,id,draw=>match s.talks id with
  |none=>A0 s
  |some r=>if r.conn≠id then A1 else
   let (N,x,w,e):=Cn.nextT s.N id;let s:={ s with N:=N}
   if e=0/\w=A2 then(if s.ask id A2 (λd=>d.ended)=A5 then A0 (s.shut id)else A0 s)else
   let (m,h):=qxg x
   if h=A2 then A0 (s.refuse id 61)else
   match s.hear c id r m draw with
   |none=>A1
   |some s=>read c n s id draw
def relayE(c:qy)(s:Bk)(f t:q31)(i:Nat)(inn o:List UInt8)(ended en:Bool)(z:Ri.PS):Bk×q31×Bool:=
 ({ s.upd t.conn (Cn.gSay o)with pumps:=s.pumps.set i z,K:=if decide ((inn.length:Int)+(o.length:Int)>0)=A5 then q5c s.K c.idle [f.conn,t.conn]else s.K},{ t with due:=t.due||en},decide ((inn.length:Int)+(o.length:Int)>0)||(ended||en))
def relayD(c:qy)(s:Bk)(f t:q31)(i:Nat)(inn:List UInt8)(ended:Bool)(z:Ri.PS)(k:Int):Bk×q31×Bool:=relayE c s f t i inn (z.outB t.side k) ended (z.outE t.side k) (z.out t.side k)
def relayC(c:qy)(s:Bk)(f t:q31)(i:Nat)(inn:List UInt8)(z:Ri.PS)(zz:Bool):Bk×q31×Bool:=
 relayD c s f t i inn (zz&&z.hears f.side) (if zz=A5 then z.end_ f.side else z) (s.N.ask t.conn 0 λd=>((1024 - d.out.length:Nat):Int))
def relayB(c:qy)(s:Bk)(f t:q31)(i:Nat)(inn:List UInt8)(z:Ri.PS):Bk×q31×Bool:=
 relayC c s f t i inn z ((s.N.ask f.conn 0 (λd=>(d.inb.length:Int))==0)&&s.N.ask f.conn A2 λd=>d.ended)
def relayA(c:qy)(s:Bk)(f t:q31)(i:Nat)(z:Ri.PS)(inn:List UInt8):Bk×q31×Bool:=
 relayB c (s.upd f.conn (Cn.gRest ((z.room 256 f.side:Nat):Int))) f t i inn (z.in_ 256 f.side inn)
def relay(c:qy)(s:Bk)(f t:q31):Option (Bk×q31×Bool):=
 match f.pump with
 |none=>A1
 |some i=>match s.pumps[i]? with
  |none=>A1
  |some z=>A0 (relayA c s f t i z (s.N.ask f.conn [] λd=>d.inb.take ((z.room 256 f.side:Nat):Int).toNat))
def flushR(r:q31)(en:Bool):q31:=if en=A5 then { r with due:=A2,said:=A5}else r
def flushE(s:Bk)(r:q31):Bool:=r.due&&((s.N.upd r.conn Cn.gFlush).ask r.conn 0 (λd=>(d.out.length:Int))==0)
def flushS(s:Bk)(r:q31)(en:Bool):Bk:=(s.upd r.conn Cn.gFlush).send r.conn (s.N.ask r.conn [] Cn.rFlush) en A2
def flush(s:Bk)(id:Int):Option (Bk×Bool):=match qe s.roles id with
 |none=>A1
 |some r=>A0 ((s.flushS r (s.flushE r)).put id (flushR r (s.flushE r)),decide (((s.N.ask r.conn [] Cn.rFlush).length:Int)>0)||s.flushE r)
def relays(c:qy)(st:Bk×Bool)(p:Int×Int):Option (Bk×Bool):=
 if p.1=p.2 then A1 else
 match qe st.1.roles p.1,qe st.1.roles p.2 with
 |some v,A0 k=>match st.1.relay c v k with
  |none=>A1
  |some (s,k,a)=>match s.relay c k v with
   |none=>A1
   |some (s,v,b)=>A0 ((s.put p.2 k).put p.1 v,b||(a||st.2))
 |_,_=>A1
def flushes(st:Bk×Bool)(id:Int):Option (Bk×Bool):=match st.1.flush id with
 |none=>A1
 |some (s,a)=>A0 (s,a||st.2)
def ends(st:Bk×Bool)(p:Int×Int):Option (Bk×Bool):=
 if p.1=p.2 then A1 else
 match qe st.1.roles p.1 with
 |none=>A1
 |some v=>if v.said=A2 then A0 st else match qe st.1.roles p.2 with
  |none=>A1
  |some k=>if k.said=A5 then A0 (st.1.shut p.1,A5)else A0 st
def ids(s:Bk):List Int:=q91 leI (s.N.L.map (·.1))
def round(c:qy)(s:Bk):Option (Bk×Bool):=
 if 1000000<s.P.ends.length then A1 else
 match qw1 (relays c) (s,A2) (qtc s.P)with
 |none=>A1
 |some st=>if 1000000<st.1.N.L.length then A1 else
  match qw1 flushes st st.1.ids with
  |none=>A1
  |some st2=>qw1 ends st2 (qtc s.P)
def rounds(c:qy):Nat->Bk->Option Bk
 |0,_=>A1
 |n+1,s=>match s.round c with
  |none=>A1
  |some (s,h)=>if h=A5 then rounds c n s else A0 s
def act(c:qy)(n:Nat)(s:Bk)(e:EvD):Option (Bk×Int×Int×Int):=
 if e.kind=1 then
  let (N,id,h):=Cn.openT s.N e.addr;let s:={ s with N:=N}
  if h≠0 then A0 (s,h,0,0)else A0 ((s.put id (q9l id)).alarm c.wait [id],0,id,0)
 else if e.kind=2 then(match (s.upd e.conn (Cn.gFeed (qm e.b))).read c n e.conn e.draw with
  |none=>A1
  |some s'=>A0 (s',0,0,s.ask e.conn 0 (Cn.rFeed (qm e.b))))
 else if e.kind=3 then A0 (s.upd e.conn (Cn.gBudget e.n),if s.ask e.conn A2 (Cn.rBudget e.n)=A5 then 0 else 1,0,0)
 else if e.kind=4 then(if s.ask e.conn A2 (λd=>!d.ended)=A2 then A0 (s.upd e.conn Cn.gHalf,1,0,0)else
  match (s.upd e.conn Cn.gHalf).read c n e.conn e.draw with
  |none=>A1
  |some s=>A0 (s,0,0,0))
 else if e.kind=5 then A0 (s.shut e.conn,0,0,0)
 else if e.kind=6 then
  let (K,al,h):=Ck.cTick s.K e.n;let s:={ s with K:=K}
  if h≠0 then A0 (s,h,0,0)else
  let (B,l):=qm7 s.B s.K.now
  A0 (al.foldl shut (l.foldl gone { s with B:=B}),0,0,0)
 else if e.kind=7 then
  let (R,w):=qv7 c s.R e.name e.token;let s:={ s with R:=R}
  if w=A2 then A0 (s,3,0,0)else if 1000000<s.N.L.length then A1 else
  A0 (s.ids.foldl (λs id=>match qe s.roles id with
   |none=>s
   |some r=>if(r.kind==2&&(decide (r.ten=e.name)&&decide (r.token=e.token)))=A5 then s.shut id else s) s,0,0,0)
 else
  let (B,x,w):=qlb s.B e.name s.K.now;let s:={ s with B:=B}
  if w=A2 then A0 (s,3,0,0)else A0 (s.gone x,0,0,0)
def outs(s:Bk):List q81:=(q91 leI (s.S.map (·.1))).map λid=>(qe s.S id).getD q93
def step(c:qy)(n:Nat)(s:Bk)(e:EvD):Option (Bk×qra):=
 if e.kind<1\/8<e.kind then A0 (s,⟨1,0,0,[]⟩)else
 if e.kind>=2/\e.kind<=5/\s.ask e.conn A2 (λ_=>A5)=A2 then A0 (s,⟨3,0,0,[]⟩)else
 match { s with S:=[]}.act c n e with
 |none=>A1
 |some (s,h,conn,took)=>if h≠0 then A0 (s,⟨h,0,0,[]⟩)else
  match s.rounds c n with
  |none=>A1
  |some s=>if 1000000<s.S.length then A1 else A0 (s,⟨0,conn,took,s.outs⟩)
end Bk
structure qn where
 no:Int
 conn:Int
 came:List UInt8
 back:List UInt8
 en:Bool
 raw:Bool
structure Wd where
 b:Bk
 g:AG
 lines:List (Int×qn)
 row:List q81
 S:List (Int×q81)
 draw:ByteArray
def evZ:EvD:=⟨0,0,0,e0,0,e0,e0,e0⟩
namespace Wd
def takeS(v:Wd)(s:q81):Option Wd:=
 if(qe v.lines s.conn).isSome=A5 then(if 1000000<v.row.length then A1 else A0 { v with row:=v.row++[s]})
 else if 4611686018427387904<((qe v.S s.conn).getD q93).b.size+s.b.size then A1
 else A0 { v with S:=qk v.S s.conn ⟨s.conn,((qe v.S s.conn).getD q93).b++s.b,((qe v.S s.conn).getD q93).e||s.e,((qe v.S s.conn).getD q93).c||s.c⟩}
def event(c:qy)(n:Nat)(v:Wd)(e:EvD):Option (Wd×qra):=match v.b.step c n { e with draw:=v.draw}with
 |none=>A1
 |some (b,o)=>match qw1 takeS { v with b:=b} o.sent with
  |none=>A1
  |some v=>A0 (v,o)
def setL(v:Wd)(k:Int)(l:qn):Wd:={ v with lines:=qk v.lines k l}
def open_(c:qy)(n:Nat)(v:Wd)(no:Int):Option Wd:=match v.event c n { evZ with kind:=1}with
 |none=>A1
 |some (v,o)=>if o.err≠0 then A0 v else if(qe v.lines o.conn).isSome=A5 then A1 else
  match (v.setL o.conn ⟨no,o.conn,[],[],A2,A2⟩).event c n { evZ with kind:=3,conn:=o.conn,n:=1073741824}with
  |none=>A1
  |some (v,_)=>A0 v
def nos(v:Wd):List Int:=v.lines.map λy=>y.2.no
def find(v:Wd)(no:Int):Option (Int×qn):=v.lines.find? λy=>decide (y.2.no=no)
def doA(c:qy)(n:Nat)(v:Wd)(a:qm6):Option Wd:=
 if ¬v.nos.Nodup then A1 else
 if a.k=1 then v.open_ c n a.line else
 match v.find a.line with
 |none=>A0 v
 |some (k,l)=>match v.event c n { evZ with kind:=2,conn:=l.conn,b:=mkS (Fr.putP (q0d a.m))}with
  |none=>A1
  |some (v,_)=>A0 (v.setL k { l with raw:=l.raw||(a.m.k==12)})
def does(c:qy)(n:Nat)(v:Wd)(l:List qm6):Option Wd:=qw1 (doA c n) v l
def msgs(c:qy)(n:Nat)(P:qe1):Nat->Wd->Int->Option Wd
 |0,_,_=>A1
 |f+1,v,k=>match qe v.lines k with
  |none=>A1
  |some l=>if l.raw=A5 then A0 v else if 1000000<l.came.length then A1 else
   if(Fr.firstP l.came).2.1=0 then A0 v else
   let v:=v.setL k { l with came:=l.came.drop (Fr.firstP l.came).2.1}
   match qxg (Fr.firstP l.came).1 with
   |(m,h)=>if h=A2 then msgs c n P f v k else
    match does c n { v with g:=(q22 P v.g l.no m v.b.K.now 0).1} (q22 P v.g l.no m v.b.K.now 0).2 with
    |none=>A1
    |some v=>msgs c n P f v k
def hear(c:qy)(n:Nat)(P:qe1)(v:Wd)(s:q81):Option Wd:=match qe v.lines s.conn with
 |none=>A0 v
 |some l=>if 1000000<l.came.length+s.b.size then A1 else
  match (v.setL s.conn { l with came:=l.came++qm s.b}).msgs c n P n s.conn with
  |none=>A1
  |some v=>match qe v.lines s.conn with
   |none=>A1
   |some l=>if 1000000<l.back.length+l.came.length then A1 else
    let l:=if l.raw=A5 then { l with back:=l.back++l.came,came:=[]}else l
    if s.c=A5 then A0 { v with lines:=qp v.lines s.conn,g:=(qn6 v.g l.no).1}
    else A0 (v.setL s.conn { l with en:=l.en||s.e})
def answer(c:qy)(n:Nat)(v:Wd)(k:Int):Option (Wd×Bool):=match qe v.lines k with
 |none=>A1
 |some l=>if l.raw=A2 then A0 (v,A2)else
  if l.back.length>0 then(match v.event c n { evZ with kind:=2,conn:=l.conn,b:=mkS l.back}with
   |none=>A1
   |some (v,o)=>if o.took<0\/(l.back.length:Int)<o.took then A1 else A0 (v.setL k { l with back:=l.back.drop o.took.toNat},decide (o.took>0)))
  else if l.en=A5 then(match (v.setL k { l with en:=A2}).event c n { evZ with kind:=4,conn:=l.conn}with
   |none=>A1
   |some (v,_)=>A0 (v,A5))
  else A0 (v,A2)
def anyA(c:qy)(n:Nat):Wd->List Int->Option (Wd×Bool)
 |v,[]=>A0 (v,A2)
 |v,k::r=>match v.answer c n k with
  |none=>A1
  |some (v,b)=>if b=A5 then A0 (v,A5)else anyA c n v r
def byNo(v:Wd):List Int:=(q91 leI v.nos).filterMap λno=>(v.find no).map (·.1)
def back(c:qy)(n:Nat)(v:Wd):Option (Wd×Bool):=if ¬v.nos.Nodup\/1000000<v.lines.length\/v.nos.all (λn=>decide (0<=n/\n<=1000000))=A2 then A1 else v.anyA c n v.byNo
def drain(c:qy)(n:Nat)(P:qe1):Nat->Wd->Option Wd
 |0,_=>A1
 |f+1,v=>match v.row with
  |[]=>A0 v
  |s::r=>match { v with row:=r}.hear c n P s with
   |none=>A1
   |some v=>drain c n P f v
def run(c:qy)(n:Nat)(P:qe1):Nat->Wd->Option Wd
 |0,_=>A1
 |f+1,v=>match v.drain c n P n with
  |none=>A1
  |some v=>match v.back c n with
   |none=>A1
   |some (v,b)=>if(b||decide (v.row.length>0))=A5 then run c n P f v else A0 v
def new(c:qy)(n:Nat)(P:qe1)(b:Bk):Option Wd:=
 match does c n ⟨b,(qo3 P ⟨A2,0,0,1,[]⟩ 0).1,[],[],[],e0⟩ (qo3 P ⟨A2,0,0,1,[]⟩ 0).2 with
 |none=>A1
 |some v=>v.run c n P n
def outs(v:Wd):List q81:=(q91 leI (v.S.map (·.1))).map λid=>(qe v.S id).getD q93
def step(c:qy)(n:Nat)(P:qe1)(v:Wd)(e:EvD):Option (Wd×qra):=
 if e.kind<1\/6<e.kind\/((qe v.lines e.conn).isSome=A5/\e.kind>=2/\e.kind<=5)then A0 (v,⟨1,0,0,[]⟩)else
 match { v with S:=[],draw:=e.draw}.event c n e with
 |none=>A1
 |some (v,o)=>if o.err≠0 then A0 (v,⟨o.err,0,0,[]⟩)else
  match (if e.kind=6 then does c n { v with g:=(qd3 P v.g v.b.K.now 0).1} (qd3 P v.g v.b.K.now 0).2 else A0 v)with
  |none=>A1
  |some v=>match v.run c n P n with
   |none=>A1
   |some v=>if 1000000<v.S.length then A1 else A0 (v,⟨0,o.conn,o.took,v.outs⟩)
end Wd
section
structure qm3 where
 v:Nat
 g:Nat
 l:Nat
 q:Nat
 t:Nat
 p:Nat
 n:Nat
 k:Nat
 m:Nat
def qnc(pl:List Nat):Option Nat->A9
 |none=>Zq A1
 |some i=>match pl[i]? with|none=>Zq A1|some b=>qc b
def shP(sb:Option Nat):Option Ax:=sb.map λb=>⟨b,0,A1⟩
def qs(pl:List Nat)(sb:Option Nat)(d:q31):List A9:=[Zi Zk d.conn,Zi Zk d.kind,Zs d.ten,Zs d.name,Zi Zk d.epoch,Zs d.token,Zq (shP sb),Zb d.heard,qnc pl d.pump,Zi Zk d.side,Zb d.due,Zb d.said]
def q02(vb:Nat):Option Nat->Option qw6->Asn
 |some b,A0 d=>qx2 vb b d
 |none,A1=>prA True
 |_,_=>prA False
def qo2(vb:Nat)(pl:List Nat)(q:Nat)(d:q31):Asn:=exA λsb:Option Nat=>qz [prA (∀i,d.pump=A0 i->i<pl.length),Row q 127 (qs pl sb d),q02 vb sb d.sh]
def qr1(d:q81):A9:=Zg #[Zi Zk d.conn,Zs d.b,Zb d.e,Zb d.c]
def szS(S:List (Int×q81))(id:Int):Nat:=((qe S id).getD q93).b.size
def qb3(N:Cn.CT)(S:List (Int×q81)):Prop:=(∀id,szS S id<=1073741824)/\∀y∈N.L,0<=y.2.credit/\(szS S y.1:Int)+y.2.credit<=1073741824
def qs2(sn:Option Nat)(N:Cn.CT)(S:List (Int×q81)):Asn:=qz [prA (qb3 N S),match sn with|none=>prA (S=[])|some m=>qg (Zi Zk) qr1 m S]
def qa5(pl:List Nat)(h:List Ri.PS):Asn:=qz [prA (pl.length=h.length),qz ((pl.zip h).map λx=>Ri.PumpA x.1 256 x.2)]
def qg5(c:qy)(b:Nat)(O:qz8):Asn:=qz [prA (∀y∈O,y.2.t∈c.tens),qv2 b O]
def brV(c:qy)(p:qm3)(sn:Option Nat):List A9:=qx3 c++[qc p.v,qc p.g,qc p.l,qc p.q,qc p.t,qc p.p,qc p.n,qc p.k,.map (A0 p.m),.map sn]
@[reducible] def qua (ro so:Asn) (c:qy) (x:Nat) (p:qm3) (pl:List Nat) (sn:Option Nat) (s:Bk) (F:List Asn):List Asn:=
 Row x 108 (brV c p sn)::qg1 p.v c s.R::qg5 c p.g s.O::q41 p.l s.B::Qu.QueueA p.q s.Q::q03 p.t s.T::q13 p.p s.P::Cn.TabA p.n s.N::Ck.ClockA p.k s.K::ro::so::qa5 pl s.pumps::F
@[reducible] def qy1 (ro:Asn) (c:qy) (x:Nat) (p:qm3) (pl:List Nat) (sn:Option Nat) (s:Bk) (F:List Asn):List Asn:=qua ro (qs2 sn s.N s.S) c x p pl sn s F
@[reducible] def roles (p:qm3) (pl:List Nat) (s:Bk):Asn:=qr (Zi Zk) p.m (qo2 p.v pl) s.roles
@[reducible] def brk (c:qy) (x:Nat) (p:qm3) (pl:List Nat) (sn:Option Nat) (s:Bk) (F:List Asn):List Asn:=qy1 (roles p pl s) c x p pl sn s F
@[reducible] def q32 (c:qy) (x:Nat) (p:qm3) (pl:List Nat) (sn:Option Nat) (s:Bk) (id:Int) (q:Nat) (F:List Asn):List Asn:=qy1 (qw (Zi Zk) p.m (qo2 p.v pl) s.roles id q) c x p pl sn s F
def uMr:Zp.underlying 106=A0 (.map 3 128):=Tryz.underlying106
def iPr:Zp.info? 128=A0 Tryz.t128:=by kernel_rfl
def zPr:Tryz.t128.zero=A0 (Zq A1):=rfl
def uMs:Zp.underlying 79=A0 (.map 3 38):=Tryz.underlying79
def iSe:Zp.info? 38=A0 Tryz.t38:=by kernel_rfl
def zSe:Tryz.t38.zero=A0 (qr1 q93):=rfl
section
variable{W w:World}{F:List Asn}{c:qy}{x:Nat}{p:qm3}{pl:List Nat}{sn:Option Nat}{s:Bk}{id:Int}{d:q31}{q vb:Nat}
def qo2.open_(h:St W (qo2 vb pl q d::F) w):∃sb,(∀i,d.pump=A0 i->i<pl.length)/\St W (Row q 127 (qs pl sb d)::q02 vb sb d.sh::F) w:=by obtain⟨sb,h⟩:=h.of_ex;obtain⟨a,h⟩:=h.of_sep.of_pr;exact⟨sb,a,h⟩
def qo2.shut(sb:Option Nat)(a:∀i,d.pump=A0 i->i<pl.length)(h:St W (Row q 127 (qs pl sb d)::q02 vb sb d.sh::F) w):St W (qo2 vb pl q d::F) w:=
 z00 sb (zj (l:=[_,_,_]) (z01 a h))
def brk.take(a:qe s.roles id=A0 d)(h:St W (brk c x p pl sn s F) w):∃q,St W (qo2 p.v pl q d::q32 c x p pl sn s id q F) w:=by obtain⟨q,h⟩:=z15 a (zf 9 0 h rfl);exact⟨q,zf 1 10 h rfl⟩
def brk.give(h:St W (qo2 p.v pl q d::q32 c x p pl sn s id q F) w):St W (brk c x p pl sn (s.put id d) F) w:=by have a:=z0o (zf 10 1 h rfl);exact zf 0 9 a rfl
def qah(h:qe s.roles id=A0 d):s.put id d=s:=by unfold Bk.put;rw[qt1 h]
def brk.back(a:qe s.roles id=A0 d)(h:St W (qo2 p.v pl q d::q32 c x p pl sn s id q F) w):St W (brk c x p pl sn s F) w:=by have:=brk.give h;rwa[qah a]at this
def qh8{κ ν:Type}[DecidableEq κ]{L:List (κ×ν)}{k:κ}{v:ν}{y:κ×ν}(h:y∈qk L k v):y=(k,v)\/y∈L:=by
 induction L with
 |nil=>simp only[qk,List.mem_singleton]at h;exact .inl h
 |cons z r ih=>
  simp only[qk]at h;split at h
  .rcases Aa.1 h with h|h;.exact .inl h
   .exact .inr (A6 _ h)
  .rcases Aa.1 h with h|h;.exact .inr (h ▸ Ae)
   .rcases ih h with h|h;.exact .inl h
    .exact .inr (A6 _ h)
def qb3.upd{N:Cn.CT}{S:List (Int×q81)}(h:qb3 N S)(id:Int){g:Cn.CnD->Cn.CnD}(a:∀d,(g d).credit=d.credit):qb3 (N.upd id g) S:=by
 refine⟨h.1,λy w=>?_⟩;unfold Cn.CT.upd at w;split at w;.exact h.2 y w
 .rename_i d b;rcases qh8 w with rfl|w
  .have:=h.2 _ (qg3 b);exact⟨by rw[a];exact this.1,by rw[a];exact this.2⟩
  .exact h.2 y w
def qb3.del{N:Cn.CT}{S:List (Int×q81)}(h:qb3 N S)(id:Int):qb3 { N with L:=qp N.L id} S:=⟨h.1,λy w=>h.2 y ((q2a _ _).subset w)⟩
def qsf(id:Int):szS [] id=0:=rfl
def qb3.fresh{N:Cn.CT}{S:List (Int×q81)}(h:qb3 N S):qb3 N []:=⟨λid=>by rw[qsf];omega,λy w=>⟨(h.2 y w).1,by have:=(h.2 y w).2;rw[qsf];omega⟩⟩
def St.repl{W w:A3}{l:List Asn}{A B:Asn}(k:Nat)(b:St W l w)(a:nth l k=A0 A)(h:∀H,A H->B H):St W (put l k [B]) w:=z05 k a (B:=[B]) ((b.at k a).imp h)
section
variable{W w:World}{F:List Asn}{c:qy}{b:Nat}{O:qz8}{s:ByteArray}{what:Int}
def qg5.open_(h:St W (qg5 c b O::F) w):(∀y∈O,y.2.t∈c.tens)/\St W (qv2 b O::F) w:=h.of_sep.of_pr
def qg5.shut(a:∀y∈O,y.2.t∈c.tens)(h:St W (qv2 b O::F) w):St W (qg5 c b O::F) w:=zj (l:=[_,_]) (z01 a h)
def qgx{d:qz7}{n:Int}(w:∀y∈O,y.2.t∈c.tens)(a:qe O s=A0 d):∀y∈qk O s (d.put what n),y.2.t∈c.tens:=λy h=>by
 rcases qh8 h with rfl|h
 .have:=w _ (qg3 a);unfold qz7.put;split<;>exact this
 .exact w y h
def qx7(d:what=1\/what=2)(h:St W (qg5 c b O::F) w):qb Zp 147 #[qc b,Zs s,Zi Zk what] w λv w'=>v=Zb (qjc O s what).2/\St W (qg5 c b (qjc O s what).1::F) w':=by
 obtain⟨a,h⟩:=qg5.open_ h;refine(qnt d h).of λv w ⟨e,h⟩=>⟨e,qg5.shut ?_ h⟩;unfold qjc;split;.exact a
 .split;.exact a
  .exact qgx a (by assumption)
def qyh(d:what=1\/what=2)(h:St W (qg5 c b O::F) w):qb Zp 353 #[qc b,Zs s,Zi Zk what] w λv w'=>v=Zi Zk (qq5 O s what).2/\St W (qg5 c b (qq5 O s what).1::F) w':=by
 obtain⟨a,h⟩:=qg5.open_ h;refine(Take_spec d h).of λv w ⟨e,h⟩=>⟨e,qg5.shut ?_ h⟩;unfold qq5;split;.exact a
 .split;.exact a
  .exact qgx a (by assumption)
def qvo{addr:Int}(d:ql1 F c)(h:St W (qg5 c b O::F) w):qb Zp 382 #[qc b,Zs s,Zi .u32 addr] w λv w'=>v=Zi Zk (qgf O s addr)/\St W (qg5 c b O::F) w':=by obtain⟨a,h⟩:=qg5.open_ h;exact(q2q (λy f=>d.ok _ (a y f)) h).of λv w ⟨e,h⟩=>⟨e,qg5.shut a h⟩
end
def qzz{p:Prop}{A:Asn}{H:Hp}(a:p)(h:A H):qz [prA p,A] H:=⟨λ_=>A1,λb o w=>(by cases w),a,H,λb o w=>(by unfold qh6;exact w),h,trivial⟩
def qs2.of{m:Nat}{N:Cn.CT}{S:List (Int×q81)}(h:qb3 N S):∀H,qg (Zi Zk) qr1 m S H->qs2 (A0 m) N S H:=λH w=>qzz h w
def qs2.imp{sn:Option Nat}{N w:Cn.CT}{S:List (Int×q81)}(h:qb3 N S->qb3 w S):∀H,qs2 sn N S H->qs2 sn w S H:=by rintro H ⟨g,a,c,b⟩;exact⟨g,a,h c,b⟩
def qs2.cr{W w:A3}{l:List Asn}{sn:Option Nat}{N:Cn.CT}{S:List (Int×q81)}(k:Nat)(h:St W l w)(a:nth l k=A0 (qs2 sn N S)):qb3 N S:=((h.at k a).of_sep.of_pr).1
def brk.sent{W w:A3}{F:List Asn}{ro:Asn}{c:qy}{x:Nat}{p:qm3}{pl:List Nat}{s:Bk}{m:Nat}(h:St W (qy1 ro c x p pl (A0 m) s F) w):qb3 s.N s.S/\St W (qua ro (qg (Zi Zk) qr1 m s.S) c x p pl (A0 m) s F) w:=by obtain⟨b,a⟩:=(h.at 10 rfl).of_sep.of_pr;exact⟨b,a.perm (qh7 10 _ _)⟩
def Rd.b12{F:List Asn}{q:Option Ax}{cs:List A9}{a0 d a2 a3 a4 a5 c b e a9 w a:Asn}(h:Rd F q cs):Rd (a0::d::a2::a3::a4::a5::c::b::e::a9::w::a::F) q cs:=(((((((((((h.cons _).cons _).cons _).cons _).cons _).cons _).cons _).cons _).cons _).cons _).cons _).cons _
def brk.open_(a:qe s.roles id=A0 d)(h:St W (brk c x p pl sn s F) w):∃q sb,(∀i,d.pump=A0 i->i<pl.length)/\St W (q32 c x p pl sn s id q (Row q 127 (qs pl sb d)::q02 p.v sb d.sh::F)) w:=by obtain⟨q,h⟩:=brk.take a h;obtain⟨sb,b,h⟩:=qo2.open_ h;exact⟨q,sb,b,zf 0 12 (zf 1 13 h rfl) rfl⟩
def brk.set{sb:Option Nat}(a:∀i,d.pump=A0 i->i<pl.length)(h:St W (q32 c x p pl sn s id q (Row q 127 (qs pl sb d)::q02 p.v sb d.sh::F)) w):St W (brk c x p pl sn (s.put id d) F) w:=
 brk.give (qo2.shut sb a (zf 13 1 (zf 12 0 h rfl) rfl))
def brk.close{sb:Option Nat}(b:∀i,d.pump=A0 i->i<pl.length)(a:qe s.roles id=A0 d)(h:St W (q32 c x p pl sn s id q (Row q 127 (qs pl sb d)::q02 p.v sb d.sh::F)) w):St W (brk c x p pl sn s F) w:=
 brk.back a (qo2.shut sb b (zf 13 1 (zf 12 0 h rfl) rfl))
def qre(L:List (Int×q81))(id:Int):((qe L id).map qr1).getD (qr1 q93)=qr1 ((qe L id).getD q93):=by cases qe L id<;>rfl
end
def z07:=@brk.close
def z12:=@St.repl
def z1f:=@qs2.imp
end
section
section
variable{P:Program}{f:FuncId}{args:Array Value}{W w:World}{l:List Asn}{C:Cls}{A B:Asn}{X:Value}
def qb.p{R:A9->A3->Prop}(k:Nat)(c:St W l w)(b:nth l k=A0 A)
 (a:St W (A::del l k) w->qb P f args w λv w'=>v=X/\St W (B::del l k) w') (e:∀w',St W (put l k [B]) w'->R X w'):qb P f args w R:=
 (a (c.at k b)).of λv w' ⟨d,h⟩=>by subst d;exact e w' (z05 k b (B:=[B]) h)
variable{Φ:Value->World->(Value->World->Prop)->Prop}{K:Value->Cls->Prop}
def Ef.c(k:Nat)(c:Is W C l)(b:nth l k=A0 A)
 (a:∀G w,St W (A::(del l k++pts G)) w->qb P f args w λv w'=>v=X/\St W (B::(del l k++pts G)) w')
 (d:∀w' (K:A9->A3->Prop),K X w'->Φ X w' K) (g:K X (StC W (put l k [B]))):Ef C (λw K=>qb P f args w λv w'=>Φ v w' K) K:=
 Ef.n (α:=Unit) (V:=λ_=>X) (B:=λ_=>[B]) () k c b (λG w h=>(a G w h).of λv w' ⟨e,h⟩=>by subst e;exact d w' _ ⟨(),rfl,z17 k b (B:=[B]) h⟩) λ_=>g
def Ef.al{l':List Asn}(b:Is W C l)(a:∀G w,St W (l++pts G) w->qb P f args w λv w'=>v=X/\St W (l'++pts G) w')
 (c:∀w' (K:A9->A3->Prop),K X w'->Φ X w' K) (e:K X (StC W l')):Ef C (λw K=>qb P f args w λv w'=>Φ v w' K) K:=
 zk (α:=Unit) (V:=λ_=>X) (B:=λ_=>l') () b (λG w h=>(a G w h).of λv w' ⟨d,h⟩=>by subst d;exact c w' _ ⟨(),rfl,h⟩) λ_=>e
def Ef.sl{a:Option Ax->Nat->Asn}{Y:Option Ax->Nat->A9}(k:Nat)(j:Is W C l)(d:nth l k=A0 A)
 (b:∀G w,St W (A::(del l k++pts G)) w->qb P f args w λv w'=>∃p c,v=Y p c/\St W (a p c::B::(del l k++pts G)) w')
 (m:∀p c w' (K:A9->A3->Prop),K (Y p c) w'->Φ (Y p c) w' K) (o:∀p c,K (Y p c) (StC W (a p c::put l k [B]))):Ef C (λw K=>qb P f args w λv w'=>Φ v w' K) K:=
 zk (α:=Option Ax×Nat) (V:=λx=>Y x.1 x.2) (B:=λx=>a x.1 x.2::put l k [B]) (A1,0) j (λG w h=>by
  have i:=h.at k (qr4 (pts G) d).1;rw[(qr4 (pts G) d).2.1]at i;exact(b G w i).of λv w' ⟨p,c,n,h⟩=>by
   subst n;refine m p c w' _ ⟨(p,c),rfl,?_⟩;have q:St W (B::(del l k++pts G)++[a p c]) w':=h.last;have e:St W ([B]++((del l k++pts G)++[a p c])) w':=q;rw[A7,<-A7,<-A7]at e;have g:St W (put l k [B]++(pts G++[a p c])) w':=by refine e.perm ?_;rw[A7];exact(qrg [B] d).append_right _
   rw[<-A7]at g;exact g.perm (List.perm_append_singleton _ _)) λx=>o x.1 x.2
def Ef.sw{b:Option Ax->Nat->Asn}{Y:Option Ax->Nat->A9}(d:Is W C l)
 (a:∀G w,St W (l++pts G) w->qb P f args w λv w'=>∃p c,v=Y p c/\St W (b p c::(l++pts G)) w')
 (e:∀p c w' (K:A9->A3->Prop),K (Y p c) w'->Φ (Y p c) w' K) (i:∀p c,K (Y p c) (StC W (b p c::l))):Ef C (λw K=>qb P f args w λv w'=>Φ v w' K) K:=
 zk (α:=Option Ax×Nat) (V:=λx=>Y x.1 x.2) (B:=λx=>b x.1 x.2::l) (A1,0) d (λG w h=>(a G w h).of λv w' ⟨p,c,g,h⟩=>by subst g;exact e p c w' _ ⟨(p,c),rfl,h⟩) λx=>i x.1 x.2
end
def Ef.mu{P:Program}{W:A3}{l:List Asn}{C:Cls}{K:A9->Cls->Prop}{κ ν:Type}[DecidableEq κ]{a g mt:TypeId}{enc:κ->A9}{vl:ν->A9}{m:Nat}{L:List (κ×ν)}(d:qw2 P a enc)(f:P.underlying mt=A0 (.map a g))(k:Nat)(e:Is W C l)(b:nth l k=A0 (qg enc vl m L))(key:κ)(v:ν)
 (i:K (Zt #[]) (StC W (put l k [qg enc vl m (qk L key v)]))):Ef C (λw K=>qt8 P (Instr.mapUpdate mt (.map (A0 m)) (enc key) (vl v)) w λw'=>K (Zt #[]) w') K:=
 Ef.n (α:=Unit) (V:=λ_=>Zt #[]) (B:=λ_=>[qg enc vl m (qk L key v)]) () k e b (λG w h=>qh1 d f 0 h rfl key v λw' c=>⟨(),rfl,z17 k b (B:=[_]) c⟩) λ_=>i
def qh.k{W w:A3}{l:List Asn}{c:Array A9}{e:TypeId}{F:Nat->A3->Prop}(k:Nat)(a:St W l w)(d:∀b w',St W (ins k (Row b e c.toList) l) w'->F b w'):qh c e w F:=
 zh a λb w' h=>d b w' (h.perm (qh7 k _ _))
def St.to{W w:A3}{A:Asn}{l:List Asn}(k:Nat)(h:St W (A::l) w):St W (ins k A l) w:=h.perm (qh7 k A l)
def z04:=@Ef.c
def z08:=@qh.k
def z0v:=@St.to
end
def q5x{P:Nat->Prop}:∀n,P n->∃m,P m/\∀k,P k->m<=k:=by
 intro n;induction n using Nat.strongRecOn with
 |ind n d=>
  intro h;by_cases a:∃k,k<n/\P k
  .obtain⟨k,w,b⟩:=a;exact d k w b
  .refine⟨n,h,λk c=>?_⟩;rcases Nat.lt_or_ge k n with w|w;.exact yI ⟨k,w,c⟩ a
   .exact w
def qma(I:Nat->List A9->A3->Prop):∃μ:List A9->A3->Nat,(∀vs w n,I n vs w->μ vs w<=n)/\∀vs w,(∃n,I n vs w)->I (μ vs w) vs w:=by
 have h:∀vs w,∃m,(∀n,I n vs w->m<=n)/\((∃n,I n vs w)->I m vs w):=λvs w=>by
  by_cases a:∃n,I n vs w
  .obtain⟨n,b⟩:=a;obtain⟨m,d,c⟩:=q5x (P:=λn=>I n vs w) n b;exact⟨m,c,λ_=>d⟩
  .exact⟨0,λn b=>yI ⟨n,b⟩ a,λh=>yI h a⟩
 refine⟨λvs w=>Classical.choose (h vs w),λvs w=>(Classical.choose_spec (h vs w)).1,λvs w=>(Classical.choose_spec (h vs w)).2⟩
def qt3{F:(List A9->A3->Prop)->(List A9->A3->Nat)->Prop}(I:Nat->List A9->A3->Prop)
 (h:∀μ:List A9->A3->Nat,(∀vs w n,I n vs w->μ vs w<=n)->(∀vs w,(∃n,I n vs w)->I (μ vs w) vs w)->F (λvs w=>∃n,I n vs w) μ):∃I μ,F I μ:=by
 obtain⟨μ,b,a⟩:=qma I;exact⟨_,μ,h μ b a⟩
end Go.Proofs.YtfjifcfbmhpcaaaGreatDoor
