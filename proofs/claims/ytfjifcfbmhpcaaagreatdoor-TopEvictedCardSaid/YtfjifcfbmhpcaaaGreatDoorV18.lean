/-
  A part of the proof of TopEvicted.
-/
import Derived.Test.YtfjifcfbmhpcaaaGreatDoorV17
import Derived.Test.YtfjifcfbmhpcaaaGreatDoorV16
import Derived.Test.YtfjifcfbmhpcaaaGreatDoorV15
import Derived.Test.YtfjifcfbmhpcaaaGreatDoorV14
import Derived.Test.YtfjifcfbmhpcaaaGreatDoorV00
set_option linter.defProp false
set_option linter.unusedVariables false
set_option linter.unusedSimpArgs false
namespace Go.Proofs.YtfjifcfbmhpcaaaGreatDoor
open Go
open Go.Proofs.Tryz renaming prog → Zp
open Go.IntKind renaming i64 → Zk, wrap → Zw
open Go.Value renaming int → Zi, string → Zs, pointer → Zq, bool → Zb, tuple → Zt, slice → Zl, agg → Zg
open _root_.List renaming getElem?_eq_getElem->A0,getElem?_eq_some_iff->A1,getElem?_map->A5,getElem?_append_left->A7,mem_of_getElem?->A9,take_of_length_le->Aa,all_eq_true->Ah,getElem?_take->Aj,findIdx?_eq_some_iff_getElem->Ak,take_add_one->An,length_take->Aq,take_append_of_le_length->Ar,mem_append->As,getElem?_append_right->Av,getElem?_drop->Aw,findIdx?_eq_none_iff->Ax,mem_of_find?_eq_some->Ay,size_toArray->Az,all_eq_false->B0,take_length->B1,length_drop->B3,length_mergeSort->B9,length_pos_iff->Bd,length_append->Bf,ext_getElem?->Bg,length_cons->Bl,length_map->Bo,mem_cons->Bp,mem_map->Bs,range->Bv
open Go.Lib renaming setCells->A2,join->Bc,pow10Tab->Bh,itoa->Bu,TabIs->Bx
open _root_.Option renaming some->A3,none->Bi,map_some->Bn
open _root_.Bool renaming false->A4,true_and->Ad,true->Ae,and_eq_true->Ai
open Go renaming World->A6,Value->A8,Addr->Be
open Go.IntKind renaming bits->Ab
open _root_.Array renaming getElem?_toList->Ac,getElem?_eq_none->B5,replicate->B6,getElem?_modify->B7,getElem?_mapIdx->Ba
open _root_.Nat renaming zero_add->Af,le_trans->B4,mul_one->Bb,lt_of_not_le->Bj,sub_zero->Bq,zero_le->Bt
open _root_.BitVec renaming ofInt->Ag
open _root_.Int renaming toNat_natCast->Am,toNat->B2
open _root_.ByteArray renaming size_append->Ao,toList->Bm,data_extract->Br,extract->Bw,size->By
open Go.Calls renaming mono->Ap
open _root_.UInt8 renaming toNat_inj->Au
def St.below_{W w w':A6}{l:List Asn}(h:St W l w)(a:RowKit.Below w.heap.size w w'):St W l w':=by refine⟨⟨a.os.trans h.1.os,a.tape.trans h.1.tape,a.output.trans h.1.output,B4 h.1.size a.size⟩,z11 (λb o c=>?_) h.2⟩;have c:w.heap[b]?=A3 o:=c;exact(a.block b (qr6 c)).trans c
def St.grow_{W w:A6}{l:List Asn}(h:St W l w)(k:Nat)(os:Array Obj):St W l (Sort.grow (w.drewN k) os):=by refine⟨⟨h.1.os,h.1.tape,h.1.output,by have:=h.1.size;simp[Sort.grow,World.drewN];omega⟩,z11 (λb o a=>?_) h.2⟩;have a:w.heap[b]?=A3 o:=a;show(w.heap++os)[b]?=A3 o;rw[Array.getElem?_append_left (qr6 a)];exact a
def St.turnRow{W w:A6}{r:List Asn}{b:Nat}{t:TypeId}{cs d:List A8}{g:Array A8->Array A8}(h:St W (Row b t cs::r) w)(q:∀c:Array A8,c.toList=cs->(g c).toList=d)(s:d.length=cs.length):St W (Row b t d::r) (Sort.mapBlock w b g):=by
 obtain⟨k,h,o,⟨c,l,m,A,B⟩,y⟩:=h;have n:w.heap[b]?=A3 (.cells c t l):=o b _ m;have p:b<w.heap.size:=qr6 n;refine⟨⟨k.os,k.tape,k.output,by simpa [Sort.mapBlock]using k.size⟩,λx=>if x=b then A3 (.cells (g c) t l)else h x,λx u a=>?_,⟨g c,l,by simp,q c A,λi z=>B i (by rw[<-s];exact z)⟩,z11 (λx u a=>?_) y⟩
 .simp only at a;show(w.heap.modify b (Sort.onCells g))[x]?=A3 u;rw[B7];split at a;.rename_i e;subst e;cases a;rw[yB rfl,n];rfl
  .rename_i e;rw[yA (λh=>e h.symm)];exact o x u a
 .unfold qh6 at a⊢;cases f:h x with
  |some v=>simp[f]at a
  |none=>
   simp only[f]at a;have j:¬x=b:=λe=>by subst e;rw[m]at f;cases f
   simp only[yA j,f];show(w.heap.modify b (Sort.onCells g))[x]?=A3 u;rw[B7,yA (λh=>j h.symm)];exact a
def qi.opened{t:TypeId}{size:Nat}{p:Option Be}{n c:Nat}{cs:List A8}{W w:A6}{l:List Asn}(r:0<n)(h:St W (qi t size p n c cs::l) w):∃q all,p=A3 ⟨q,0,Bi⟩/\all.length=c*size/\all.take (n*size)=cs/\St W (Row q t all::l) w:=by
 obtain⟨f,g,k,⟨m,o,i⟩,b⟩:=h;rcases i with rfl|⟨q,all,j,d,e,a⟩;.omega
 .exact⟨q,all,j,d,e,f,g,k,a,b⟩
def q1r{W w:A6}{F:List Asn}{p:Option Be}{c:Nat}{zs:List Int}(R:zs.length<=1000000)(B:St W (qi 3 1 p zs.length c (zs.map (Zi Zk))::F) w):
 qb Zp 64 #[Zl p zs.length c] w λv w'=>v=Zt #[]/\St W (qi 3 1 p zs.length c ((zs.mergeSort λx y=>decide (x<=y)).map (Zi Zk))::F) w':=by
 by_cases E:zs=[]
 .subst E;exact Ap (Tryz.slices_Sort_int_none p c w) λe w' ⟨s,z⟩=>⟨_,s,rfl,by subst z;simpa using B⟩
 have G:0<zs.length:=Bd.2 E;obtain⟨q,all,Q,D,k,b⟩:=qi.opened (by omega) B;subst Q;rw[Bb]at D k;have r:zs.length<=c:=(qi.le B).2;have O:Sort.Holds (Zi Zk) w q 0 (zs).toArray:=λj C=>by
  have g:j<zs.length:=by simpa using C
  have J:zs[j]?=A3 zs[j]:=A0 g;have M:all[j]?=A3 ((Zi Zk) zs[j]):=by
   have H:(all.take zs.length)[j]?=A3 ((Zi Zk) zs[j]):=by rw[k,A5,J];rfl
   rw[Aj,yB g]at H;exact H
  have I:=b.st (i:=j) (by omega) (Zb Ae);have l:=b.ld M;rw[Af];refine⟨?_,I.1.2⟩;rw[l];congr 1;simp[getElem!_pos,g]
 have m:q<w.heap.size:=by have l:=b.ld (i:=0) (A0 (by omega));refine Bj λo=>?_;unfold World.cell? at l;simp[B5 o]at l
 have a:(zs).length=zs.length:=by simp
 have key:=Tryz.slices_Sort_int q 0 c (zs) w O m (by rw[a];omega);rw[a]at key;refine Ap key λe w' ⟨s,n,os,z⟩=>⟨_,s,rfl,?_⟩;subst z;have d:((zs).mergeSort λx y=>decide (x<=y)).length=zs.length:=by rw[B9,a]
 have N:St W (Row q 3 ((zs.mergeSort λx y=>decide (x<=y)).map (Zi Zk)++all.drop zs.length)::F) (Sort.putRow (Zi Zk) (Sort.ahead w n) q 0 ((zs).mergeSort λx y=>decide (x<=y)).toArray):=by
  refine St.turnRow (cs:=all) (w:=Sort.ahead w n) ⟨⟨b.1.os,b.1.tape,b.1.output,b.1.size⟩,b.2⟩ (λL u=>?_) ?_
  .refine Bg λj=>?_;unfold Sort.putCells;rw[Ac,Ba];have A:L[j]?=all[j]?:=by rw[<-u,Ac]
   rw[A];by_cases C:j<zs.length
   .rw[A7 (by simp[d,a];omega),A0 (show j<all.length by omega)];have f:j<((zs).mergeSort λx y=>decide (x<=y)).length:=by omega
    simp only[Bn,Bt,yL,Af,Az,f,if_true,Bq];rw[A5,A0 f];simp[f];rw[A0 f];rfl
   .rw[Av (by simp[d,a];omega),Aw];have f:¬j<((zs).mergeSort λx y=>decide (x<=y)).length:=by omega
    have e:zs.length+(j -((zs.mergeSort λx y=>decide (x<=y)).map (Zi Zk)).length)=j:=by simp[d,a];omega
    rw[e];cases all[j]? with
    |none=>rfl
    |some v=>simp[f];exact λh=>(C h).elim
  .simp[d,a];omega
 have K:=z0x (t:=3) (size:=1) (c:=c) (n:=zs.length) (cs:=(zs.mergeSort λx y=>decide (x<=y)).map (Zi Zk)) (by simp[d,a];omega) r (by rw[Bb,Ar (by simp[d,a]),Aa (by simp[d,a])]) N;have P:=K.grow_ 0 os;exact P
def qvr{W w:A6}{F:List Asn}{p:Option Be}{c:Nat}{zs:List (List UInt8)}(R:zs.length<=1000000)(B:St W (qi 9 1 p zs.length c (zs.map qc8)::F) w):
 qb Zp 238 #[Zl p zs.length c] w λv w'=>v=Zt #[]/\St W (qi 9 1 p zs.length c ((zs.mergeSort λx y=>decide (x<=y)).map qc8)::F) w':=by
 by_cases E:zs=[]
 .subst E;exact Ap (Tryz.slices_Sort_string_none p c w) λe w' ⟨s,z⟩=>⟨_,s,rfl,by subst z;simpa using B⟩
 have G:0<zs.length:=Bd.2 E;obtain⟨q,all,Q,D,k,b⟩:=qi.opened (by omega) B;subst Q;rw[Bb]at D k;have r:zs.length<=c:=(qi.le B).2;have O:Sort.Holds encStr w q 0 (zs).toArray:=λj C=>by
  have g:j<zs.length:=by simpa using C
  have J:zs[j]?=A3 zs[j]:=A0 g;have M:all[j]?=A3 (qc8 zs[j]):=by
   have H:(all.take zs.length)[j]?=A3 (qc8 zs[j]):=by rw[k,A5,J];rfl
   rw[Aj,yB g]at H;exact H
  have I:=b.st (i:=j) (by omega) (Zb Ae);have l:=b.ld M;rw[Af];refine⟨?_,I.1.2⟩;rw[l];congr 1;simp[getElem!_pos,g];rfl
 have m:q<w.heap.size:=by have l:=b.ld (i:=0) (A0 (by omega));refine Bj λo=>?_;unfold World.cell? at l;simp[B5 o]at l
 have a:(zs).length=zs.length:=by simp
 have key:=Tryz.slices_Sort_string q 0 c (zs) w O m (by rw[a];omega);rw[a]at key;refine Ap key λe w' ⟨s,n,os,z⟩=>⟨_,s,rfl,?_⟩;subst z;have d:((zs).mergeSort λx y=>decide (x<=y)).length=zs.length:=by rw[B9,a]
 have N:St W (Row q 9 ((zs.mergeSort λx y=>decide (x<=y)).map qc8++all.drop zs.length)::F) (Sort.putRow encStr (Sort.ahead w n) q 0 ((zs).mergeSort λx y=>decide (x<=y)).toArray):=by
  refine St.turnRow (cs:=all) (w:=Sort.ahead w n) ⟨⟨b.1.os,b.1.tape,b.1.output,b.1.size⟩,b.2⟩ (λL u=>?_) ?_
  .refine Bg λj=>?_;unfold Sort.putCells;rw[Ac,Ba];have A:L[j]?=all[j]?:=by rw[<-u,Ac]
   rw[A];by_cases C:j<zs.length
   .rw[A7 (by simp[d,a];omega),A0 (show j<all.length by omega)];have f:j<((zs).mergeSort λx y=>decide (x<=y)).length:=by omega
    simp only[Bn,Bt,yL,Af,Az,f,if_true,Bq];rw[A5,A0 f];simp[f];rw[A0 f];rfl
   .rw[Av (by simp[d,a];omega),Aw];have f:¬j<((zs).mergeSort λx y=>decide (x<=y)).length:=by omega
    have e:zs.length+(j -((zs.mergeSort λx y=>decide (x<=y)).map qc8).length)=j:=by simp[d,a];omega
    rw[e];cases all[j]? with
    |none=>rfl
    |some v=>simp[f];exact λh=>(C h).elim
  .simp[d,a];omega
 have K:=z0x (t:=9) (size:=1) (c:=c) (n:=zs.length) (cs:=(zs.mergeSort λx y=>decide (x<=y)).map qc8) (by simp[d,a];omega) r (by rw[Bb,Ar (by simp[d,a]),Aa (by simp[d,a])]) N;have P:=K.grow_ 0 os;exact P
section
def qgg(l:List UInt8)(i j:Nat):(mkS l).extract i j=mkS ((l.take j).drop i):=by
 unfold mkS;have:(Bw ⟨l.toArray⟩ i j).data=((l.take j).drop i).toArray:=by rw[Br];simp[List.extract_eq_take_drop,List.drop_take]
 exact ByteArray.ext this
def q3g{l:List UInt8}{k:Nat}{x:UInt8}(h:l[k]?=A3 x):(mkS l).get! k=x:=by
 have w:=(A1.1 h).1;have a:=get!_eq (s:=mkS l) (i:=k) (by rw[qf1];exact w);have b:(mkS l)[k]?=A3 x:=by
  rw[getElem?_pos (mkS l) k (by rw[qf1];exact w)];have:(mkS l)[k]'(by rw[qf1];exact w)=l[k]:=by show(mkS l).data[k]=_;simp[mkS]
  rw[this,<-A0,h]
 rw[b]at a;exact(Option.some.inj a).symm
def qu1:List UInt8:=[97,98,99,100,101,102,103,104,105,106,107,108,109,110,111,112,113,114,115,116,117,118,119,120,121,122,48,49,50,51,52,53,54,55,56,57,45]
def q8z(l:List UInt8)(x:UInt8):(A2 l)[x.toNat]?=A3 (Zb (l.contains x)):=by have h:x.toNat<256:=x.toNat_lt;have:=Lib.fold_at l (B6 256 (Zb A4)) A4 x (by simp[h]);rw[Bool.false_or]at this;exact this
section
variable{W w:World}{F:List Asn}{b:Nat}
def qnm(x:UInt8)(h:St W (Row b 376 (A2 qu1).toList::F) w):qb Zp 309 #[Zq (A3 ⟨b,0,Bi⟩),Zi .u8 (x.toNat:Int)] w λv w'=>v=Zb (qu1.contains x)/\St W (Row b 376 (A2 qu1).toList::F) w':=
 F309_of (z7 (IxP.row rfl (by have:=x.toNat_lt;omega) (LdB.n 0 h rfl (by rw[Ac];exact q8z qu1 x) ⟨rfl,h⟩)))
def qnx:List A8->A6->Nat:=λvs _=>match vs with|[Zs s]=>s.size|_=>0
def qwq(l:List UInt8)(r:l.length<=9223372036854775807)(h:St W (Row b 376 (A2 qu1).toList::F) w):qb Zp 265 #[Zs (mkS l),Zq (A3 ⟨b,0,Bi⟩)] w λv w'=>
 ∃k,v=Zs (mkS (l.take k))/\k<=l.length/\(∀x∈l.drop k,qu1.contains x=Ae)/\(k=0\/∃x,l[k - 1]?=A3 x/\qu1.contains x=A4)/\St W (Row b 376 (A2 qu1).toList::F) w':=by
 refine F265_of ⟨λvs w=>∃k,vs=[Zs (mkS (l.take k))]/\k<=l.length/\(∀x∈l.drop k,qu1.contains x=Ae)/\St W (Row b 376 (A2 qu1).toList::F) w,qnx,⟨l.length,by rw[B1],Nat.le_refl _,by simp,h⟩,λs w m=>?_⟩;obtain⟨k,p,j,g,h⟩:=m;cases p;have a:(mkS (l.take k)).size=k:=by rw[qf1,Aq];omega
 rw[a];refine za (λc=>?_) λc=>?_
 .have c:0<k:=by have:=yC c;omega
  have q:Zw Zk ((k:Int) - 1)=((k - 1:Nat):Int):=by rw[w64];omega
  have f:l[k - 1]?=A3 (l[k - 1]'(by omega)):=A0 _;generalize l[k - 1]'(by omega)=x at f;have i:(l.take k)[k - 1]?=A3 x:=by rw[Aj,yB (by omega),f]
  rw[q];refine⟨⟨by omega,by rw[a];omega⟩,?_⟩;rw[Am,q3g i];refine(qnm x h).of λv w ⟨o,h⟩=>⟨_,o,za (λe=>?_) λe=>?_⟩;.exact⟨k,rfl,j,g,.inr ⟨x,f,by simpa using e⟩,h⟩
  .have e:qu1.contains x=Ae:=by simpa using e
   refine⟨⟨by omega,by omega,by rw[a];omega⟩,?_⟩;rw[Am,qgg];have n:((l.take k).take (k - 1)).drop (B2 0)=l.take (k - 1):=by rw[List.take_take,Nat.min_eq_left (by omega)];rfl
   rw[n];refine⟨⟨k - 1,rfl,by omega,λy d=>?_,h⟩,?_⟩
   .rw[List.drop_eq_getElem_cons (by omega)]at d;rcases Bp.1 d with rfl|d
    .rw[A0 (by omega)]at f;cases f;exact e
    .rw[show k - 1+1=k by omega]at d;exact g y d
   .show(mkS (l.take (k - 1))).size<(mkS (l.take k)).size;rw[qf1,qf1,Aq,Aq];omega
 .have c:k=0:=by have:=yD c;omega
  exact⟨k,rfl,j,g,.inl c,h⟩
def q4r(l:List UInt8)(q:l.length<=9223372036854775807)(h:St W (Row b 376 (A2 qu1).toList::F) w):qb Zp 264 #[Zs (mkS l),Zq (A3 ⟨b,0,Bi⟩)] w λv w'=>
 ∃k,v=Zs (mkS (l.drop k))/\k<=l.length/\(∀x∈l.take k,qu1.contains x=Ae)/\St W (Row b 376 (A2 qu1).toList::F) w':=by
 refine F264_of ⟨λvs w=>∃k,vs=[Zs (mkS (l.drop k))]/\k<=l.length/\(∀x∈l.take k,qu1.contains x=Ae)/\St W (Row b 376 (A2 qu1).toList::F) w,qnx,⟨0,rfl,by omega,by simp,h⟩,λs w m=>?_⟩;obtain⟨k,p,j,e,h⟩:=m;cases p;have a:(mkS (l.drop k)).size=l.length - k:=by rw[qf1,B3]
 rw[a];refine za (λi=>?_) λi=>?_
 .have i:0<l.length - k:=by have:=yC i;omega
  have g:l[k]?=A3 (l[k]'(by omega)):=A0 _;generalize l[k]'(by omega)=x at g;have f:(l.drop k)[0]?=A3 x:=by rw[Aw];exact g
  refine⟨⟨by omega,by rw[a];omega⟩,?_⟩;rw[show B2 0=0 from rfl,q3g f];refine(qnm x h).of λv w ⟨o,h⟩=>⟨_,o,za (λd=>?_) λd=>?_⟩;.exact⟨k,rfl,j,e,h⟩
  .have d:qu1.contains x=Ae:=by simpa using d
   refine⟨⟨by omega,by omega,by rw[a];omega⟩,?_⟩;rw[Am,qgg];have n:((l.drop k).take (l.length - k)).drop (B2 1)=l.drop (k+1):=by rw[Aa (by simp),List.drop_drop];rfl
   rw[n];refine⟨⟨k+1,rfl,by omega,λy c=>?_,h⟩,?_⟩
   .rw[An,g]at c;rcases As.1 c with c|c;.exact e y c
    .simp at c;subst c;exact d
   .show(mkS (l.drop (k+1))).size<(mkS (l.drop k)).size;rw[qf1,qf1,B3,B3];omega
 .exact⟨k,rfl,j,e,h⟩
end
end
section
section
variable{W w:World}{F:List Asn}
def zSet:∀w,(zeroValue 376).run Zp w=.ok (Zg (B6 256 (Zb A4))) w:=λw=>by
 have h:Zp.info? 376=A3 Tryz.t376:=by kernel_rfl
 have a:Tryz.t376.zero=A3 (Zg (B6 256 (Zb A4))):=by kernel_rfl
 simp[zeroValue,typeInfo,h,a]
def qfw:(A2 qu1).size=256:=by decide+kernel
def qvq:∀v∈(A2 qu1).toList,qn1 v:=λv w=>by
 have h:∀(l:List UInt8) (a:Array A8),(∀v∈a.toList,qn1 v)->∀v∈(l.foldl (λa c=>a.setIfInBounds c.toNat (Zb Ae)) a).toList,qn1 v:=by
  intro l;induction l with
  |nil=>exact λa h=>h
  |cons x r ih=>
   intro a h;refine ih _ λv w=>?_;rw[Array.toList_setIfInBounds]at w;rcases List.mem_or_eq_of_mem_set w with w|rfl;.exact h v w
   .trivial
 refine h qu1 _ (λv w=>?_) v w;rw[Array.toList_replicate]at w;rw[(List.mem_replicate.1 w).2];trivial
def q3u(l:List UInt8)(q:l≠[])(D:l.length<=9223372036854775807)(a:St W F w):qb Zp 184 #[Zs (mkS l),Zs (mkS qu1)] w λv w'=>∃r,v=Zs (mkS r)/\(r=[]↔∀x∈l,qu1.contains x=Ae)/\St W F w':=by
 refine F184_of ?_;have B:((mkS l).toList==(⟨#[]⟩:ByteArray).toList)=A4:=by rw[qv3];exact yH λh=>q (by have:=yE qm h;simpa [qm,mkS]using this)
 rw[B];refine zm rfl (zm (by decide+kernel) ⟨λvs w=>St W F w,zm (by decide+kernel) a,λw a=>?_⟩);refine Ap (Tryz.strings_makeASCIISet zSet (mkS qu1) w (by decide+kernel) (by
  have h:∀b∈qu1,b.toNat<128:=by decide+kernel
  intro j b y;exact h b (A9 (by simpa [mkS]using y)))) λe w1 ⟨A,C⟩=>⟨_,A,?_⟩
 subst C;have d:=qfw;have m:=qvq;have E:A2 (mkS qu1).data.toList=A2 qu1:=yE A2 (by unfold mkS;rfl);rw[E];have g:=λ(w:A6) b (a:St W (Row b 376 (A2 qu1).toList::F) w)=>qwq l D a;have i:=λ(w:A6) k (u:k<=l.length) b (a:St W (Row b 376 (A2 qu1).toList::F) w)=>q4r (l.take k) (by rw[Aq];omega) a;revert d m g i;generalize A2 qu1=S;intro d m g i;have a:=(a.alloc (.cells S 376)).drop;refine⟨S,d,Ae,rfl,?_⟩;have n:∀c:Array A8,c.size=256->S.size=c.toList.length:=λc o=>by rw[d,Array.length_toList,o]
 refine zh a λb w a=>⟨d,StA.r 0 a rfl (n _ (by kernel_rfl)) m λw a=>zn rfl ?_⟩;refine(g w b a).of λv w ⟨k,s,u,G,z,a⟩=>⟨_,s,?_⟩;refine(i w k u b a).of λv w ⟨j,s,y,t,a⟩=>⟨_,s,_,rfl,⟨λh x f=>?_,λh=>?_⟩,a.drop⟩
 .have p:(l.take k).length<=j:=List.drop_eq_nil_iff.1 h;rw[Aa p]at t;rw[<-List.take_append_drop k l]at f;rcases As.1 f with f|f;.exact t x f
  .exact G x f
 .rcases z with rfl|⟨x,f,o⟩;.simp
  .rw[h x (A9 f)]at o;cases o
def q1a(s:ByteArray):Bool:=decide (0<(qm s).length)&&(decide ((qm s).length<=20)&&((qm s).all qu1.contains&&((qm s).headD 0 != 45&&(qm s).getLastD 0 != 45)))
def qoc(s:ByteArray)(a:St W F w):qb Zp 117 #[Zs s] w λv w'=>v=Zb (q1a s)/\St W F w':=by
 obtain⟨l,rfl⟩:∃l,s=mkS l:=⟨qm s,by unfold qm;rw[qd5]⟩;have z:qm (mkS l)=l:=by simp[qm,mkS]
 unfold q1a;rw[z];refine F117_of ?_;rw[qf1];cases l with
 |nil=>exact zm (by decide+kernel) ⟨rfl,a⟩
 |cons x r=>
  have u:((mkS (x::r)).toList==(⟨#[]⟩:ByteArray).toList)=A4:=by rw[qv3];exact yH λh=>by have:=yE qm h;simp[qm,mkS]at this
  rw[u];refine zn rfl ?_;have j:decide (((x::r).length:Int)<=20)=decide ((x::r).length<=20):=by
   by_cases h:(x::r).length<=20;.rw[yG h,yG (by omega)]
   .rw[yH h,yH (by omega)]
  rw[j,yG (show 0<(x::r).length by simp),Ad];refine za (λh=>?_) λh=>by rw[h];exact⟨rfl,a⟩
  have p:=yC h;rw[h,Ad];refine(q3u (x::r) (by simp) (by omega) a).of λv w ⟨t,q,i,a⟩=>⟨_,q,?_⟩;dsimp only;have o:((mkS t).toList==(⟨#[]⟩:ByteArray).toList)=(x::r).all qu1.contains:=by
   rw[qv3];have f:(mkS t=(⟨#[]⟩:ByteArray))↔t=[]:=⟨λh=>by have:=yE qm h;simpa [qm,mkS]using this,λh=>by rw[h];rfl⟩;by_cases c:(x::r).all qu1.contains=Ae;.rw[c];exact yG (f.2 (i.2 (Ah.1 c)))
   .rw[Bool.not_eq_true]at c;rw[c];exact yH λh=>by have:=Ah.2 (i.1 (f.1 h));rw[c]at this;cases this
  rw[o];refine za (λh=>?_) λh=>by rw[h];exact⟨rfl,a⟩
  rw[h,Ad];have g:∀y:UInt8,((y.toNat:Int) != 45)=(y != 45):=λy=>by
   by_cases e:y=45;.subst e;rfl
   .have f:¬y.toNat=45:=λh=>e (Au.1 h);have m:(y != 45)=Ae:=by simpa using e
    rw[m];simp only[bne_iff_ne,ne_eq];omega
  refine⟨⟨by omega,by rw[qf1];simp⟩,?_⟩;rw[show B2 0=0 from rfl,q3g (l:=x::r) (k:=0) rfl];dsimp only;rw[g];refine za (λh=>?_) λh=>by have d:((x::r).headD 0 != 45)=A4:=h;rw[d];exact⟨rfl,a⟩
  have d:((x::r).headD 0 != 45)=Ae:=h;rw[d,Ad];have n:Zw Zk (((x::r).length:Int) - 1)=(((x::r).length - 1:Nat):Int):=by have:(x::r).length=r.length+1:=rfl;rw[w64];omega
  have b:(x::r)[(x::r).length - 1]?=A3 ((x::r).getLastD 0):=by rw[<-List.getLast?_eq_getElem?];simp[List.getLastD_eq_getLast?,List.getLast?_cons]
  rw[n];refine⟨⟨by omega,by rw[qf1];simp;omega⟩,?_⟩;rw[Am,q3g b];dsimp only;rw[g];exact⟨rfl,a⟩
end
end
section
def qc4(F:List Asn):Prop:=∀H,Own F H->∃t h,H 0=A3 (.cells (Bh.map λz=>Zi .u64 z).toArray t h)
def qc4.cons{F:List Asn}(h:qc4 F)(A:Asn):qc4 (A::F):=λH w=>h H w.tail
def qc4.pre{F:List Asn}(h:qc4 F):∀l:List Asn,qc4 (l++F)
 |[]=>h
 |A::l=>(h.pre l).cons A
def qc4.perm{F G:List Asn}(h:qc4 F)(w:G.Perm F):qc4 G:=λH a=>h H (a.perm w)
def qc4.app{F:List Asn}(h:qc4 F)(G:List Asn):qc4 (F++G):=(h.pre G).perm List.perm_append_comm
def qc4.tab{W w:A6}{F:List Asn}(h:qc4 F)(b:St W F w):Bx Zp w "internal/strconv.uint64pow10" .u64 Bh:=by
 obtain⟨t,c,a⟩:=h _ b.2;have d:Zp.globalNamed "internal/strconv.uint64pow10"=A3 0:=by kernel_rfl
 have a:w.heap[0]?=A3 (.cells (Bh.map λz=>Zi .u64 z).toArray t c):=a;unfold Bx World.var?;rw[d,Option.bind_some,a]
def qgi(bits:Int):Int:=Zw .u32 (4294967295*2 ^ min (B2 (Zw Zk (32 - bits))) (Ab .u32))
def q15(a bits:Int):Bool:=decide (bits>=0)&&(decide (bits<=32)&&(Zw .u32 ↑((Ag (Ab .u32) a&&& ~~~Ag (Ab .u32) (qgi bits)).toNat)==0))
def inN(a bits x:Int):Bool:=q15 a bits&&(Zw .u32 ↑((Ag (Ab .u32) x&&& Ag (Ab .u32) (qgi bits)).toNat)==a)
def qp7(n:Int):List UInt8:=if n<0 then []else if n>1099511627776 then []else Bu n
section
variable{W w:World}{F:List Asn}
def q2k{bits:Int}(a:0<=bits)(b:bits<=32)(h:St W F w):qb Zp 258 #[Zi Zk bits] w λv w'=>v=Zi .u32 (qgi bits)/\St W F w':=
 F258_of ⟨by rw[w64];omega,rfl,h⟩
def qki(a bits:Int)(f:St W F w):qb Zp 180 #[Zg #[Zi .u32 a,Zi Zk bits]] w λv w'=>v=Zb (q15 a bits)/\St W F w':=by
 refine F180_of (zh f λb w f=>?_);have d:=z6 W (Row b 132 [Zi .u32 a,Zi Zk bits]::F);unfold q15;refine⟨StC W _,zd f,_,zi 0 d rfl rfl,za (λh=>⟨_,zi 0 d rfl rfl,za (λe=>?_) λe=>?_⟩) λh=>?_⟩
 .refine⟨_,zi 0 d rfl rfl,_,zi 0 d rfl rfl,zk (α:=Unit) (V:=λ_=>Zi .u32 (qgi bits)) (B:=λ_=>Row b 132 [Zi .u32 a,Zi Zk bits]::F) () d (λG w c=>(q2k (yC h) (yC e) c).of λv w' ⟨g,h⟩=>⟨_,g,(),rfl,h⟩) λ_=>⟨_,rfl,zi 0 ir rfl rfl,λG w c=>⟨?_,(zb c).drop⟩⟩⟩;rw[h,e];rfl
 .intro G w c;rw[h,e];exact⟨rfl,(zb c).drop⟩
 .intro G w c;rw[h];exact⟨rfl,(zb c).drop⟩
def qsx(a bits x:Int)(d:St W F w):qb Zp 399 #[Zg #[Zi .u32 a,Zi Zk bits],Zi .u32 x] w λv w'=>v=Zb (inN a bits x)/\St W F w':=by
 refine F399_of (zh d λb w d=>?_);have g:=z6 W (Row b 132 [Zi .u32 a,Zi Zk bits]::F);unfold inN;refine⟨StC W _,zd d,a,bits,λG w h=>z8 0 h rfl rfl (z8 0 h rfl rfl ⟨rfl,h⟩),?_⟩;refine zk (α:=Unit) (V:=λ_=>Zb (q15 a bits)) (B:=λ_=>Row b 132 [Zi .u32 a,Zi Zk bits]::F) () g (λG w c=>(qki a bits c).of λv w' ⟨e,h⟩=>⟨_,e,(),rfl,h⟩) λ_=>⟨_,rfl,trivial,za (λh=>?_) λh=>?_⟩
 .have f:0<=bits/\bits<=32:=by unfold q15 at h;rw[Ai,Ai]at h;exact⟨yC h.1,yC h.2.1⟩
  refine⟨_,zi 0 ir rfl rfl,_,zi 0 ir rfl rfl,zk (α:=Unit) (V:=λ_=>Zi .u32 (qgi bits)) (B:=λ_=>Row b 132 [Zi .u32 a,Zi Zk bits]::F) () ir (λG w c=>(q2k f.1 f.2 c).of λv w' ⟨e,h⟩=>⟨_,e,(),rfl,h⟩) λ_=>⟨_,rfl,zi 0 ir rfl rfl,λG w c=>⟨?_,(zb c).drop⟩⟩⟩;rw[h];rfl
 .intro G w c;rw[h];exact⟨rfl,(zb c).drop⟩
def qwb(n:Int)(c:qc4 F)(b:St W F w):qb Zp 182 #[Zi Zk n] w λv w'=>v=Zs (mkS (qp7 n))/\St W F w':=by
 unfold qp7;refine F182_of (za (λh=>?_) λh=>za (λa=>?_) λa=>?_);.rw[yB (yC h)];exact⟨rfl,b⟩
 .rw[yA (yD h),yB (yC a)];exact⟨rfl,b⟩
 have h:=yD h;have a:=yD a;rw[yA h,yA a];refine Ap (Tryz.strconv_FormatInt_10 n (by omega) (by omega) w (c.tab b)) λe w1 ⟨d,k,os,f⟩=>⟨_,d,_,rfl,rfl,?_⟩;subst f;exact b.grow_ k os
def qtt:∀k:Fin 256,0<(Bu (k.val:Int)).length/\(Bu (k.val:Int)).length<=3:=by decide+kernel
def qte{n:Int}(h:0<=n)(w:n<256):0<(qp7 n).length/\(qp7 n).length<=3:=by unfold qp7;rw[yA (by omega),yA (by omega)];have:=qtt ⟨n.toNat,by omega⟩;simp only[Int.toNat_of_nonneg h]at this;exact this
def sV(x:ByteArray):List A8:=[Zs x]
def sV1(x:ByteArray):(sV x).length=1:=rfl
def sVn(x:ByteArray):∀v∈sV x,qn1 v:=λv h=>by simp only[sV,Bp,List.not_mem_nil,yK]at h;subst h;trivial
def uSs:Zp.underlying 23=A3 (.slice 9):=Tryz.underlying23
def iSt:Zp.info? 9=A3 Tryz.t9:=by kernel_rfl
def bSt:Tryz.t9.bytes<=100:=by decide+kernel
def q0h(w:List UInt8):∀l:List (List UInt8),(∀x∈l,x.length<=3)->(Bc l w).length<=l.length*(3+w.length)
 |[],_=>by simp[Bc]
 |[x],h=>by have:=h x (by simp);simp[Bc];omega
 |x::y::r,h=>by
  have c:=h x (by simp);have a:=q0h w (y::r) λz b=>h z (List.mem_cons_of_mem _ b);have e:Bc (x::y::r) w=x++(w++Bc (y::r) w):=by simp[Bc,List.intercalate,List.intersperse]
  rw[e];simp only[Bf,Bl,Nat.add_mul,Nat.one_mul]at a⊢;omega
def qsy(x:Int):0<=Zw .u8 x/\Zw .u8 x<256:=by have:Zw .u8 x=x%256:=rfl;omega
def qam(z:Int)(c:qc4 F)(h:St W F w):qb Zp 182 #[Zi Zk (Zw Zk (Zw .u8 z))] w λv w'=>∃s,v=Zs s/\s.size<=3/\0<s.size/\St W F w':=by obtain⟨a,b⟩:=qsy z;generalize Zw .u8 z=y at a b;rw[w64];exact(qwb y c h).of λv w ⟨d,h⟩=>⟨_,d,by rw[qf1];exact(qte a b).2,by rw[qf1];exact(qte a b).1,h⟩
def qvs(a:Int)(K:qc4 F)(d:St W F w):qb Zp 181 #[Zi .u32 a] w λv w'=>∃s,v=Zs s/\s.size<=1000/\St W F w':=by
 refine F181_of ⟨λvs w=>∃(k:Nat) (p:Option Be) (c:Nat) (os:List ByteArray),vs=[Zl p os.length c,Zi Zk (k:Int)]/\k<=4/\os.length=k/\(∀s∈os,s.size<=3)/\St W (SlA 9 1 sV p c os::F) w,
  λvs w=>match vs with|[_,.int _ x]=>(4 - x).toNat|_=>0,⟨0,Bi,0,[],rfl,by omega,rfl,by simp,z09 d⟩,λlp ln P x w M=>?_⟩
 obtain⟨k,p,c,os,r,Y,A,u,d⟩:=M;cases r;refine za (λh=>?_) λh=>?_
 .have m:k<4:=by have:=yC h;omega
  have G:Zw Zk (8*(k:Int))=8*(k:Int):=w64;have N:Zw Zk (24 - 8*(k:Int))=24 - 8*(k:Int):=w64;refine⟨by rw[G,N];omega,?_⟩;refine(qam _ (K.cons _) d).of λv w ⟨s,Q,U,_,d⟩=>⟨_,Q,zh d λb w d=>?_⟩;obtain⟨z,J,C⟩:∃z,Tryz.t9.zero=A3 z/\z.cells.size=1:=⟨_,rfl,rfl⟩;refine qf3 (os:=os) (xs:=[s]) sV1 uSs (.inr ⟨_,uSs⟩) iSt rfl J C 1 d rfl (z0z 0 λi v h=>by simpa [sV]using h) rfl sVn (by have:=bSt;simp only[Bl,List.length_nil];exact B4 (Nat.mul_le_mul_left _ this) (by omega)) (by simp;omega) λO L w d=>⟨_,_,_,rfl,⟨k+1,O,L,os++[s],?_,by omega,by simp[A],λy g=>?_,d.drop⟩,?_⟩
  .have B:Zw Zk ((k:Int)+1)=((k+1:Nat):Int):=by rw[w64];omega
   rw[B]
  .rcases As.1 g with g|g;.exact u y g
   .rw[List.mem_singleton.1 g];exact U
  .have B:Zw Zk ((k:Int)+1)=((k+1:Nat):Int):=by rw[w64];omega
   rw[B];show(4 -((k+1:Nat):Int)).toNat<(4 -(k:Int)).toNat;omega
 .have m:k=4:=by have:=yD h;omega
  subst m;obtain⟨q,all,V,R,D,l⟩:=qi.opened (by omega) d;subst V;have o:=(qi.le d).2;refine Ap (Tryz.strings_Join q 0 P os ⟨#[46]⟩ w (λj x E=>?_) ?_ (by omega) o ?_) λe w1 ⟨r,H⟩=>⟨_,r,_,rfl,_,rfl,?_,(d.below_ H).drop⟩
  .have T:j<4:=by have:=(A1.1 E).1;omega
   have n:(all.take (os.length*1))[j]?=A3 (Zs x):=by rw[D];have:=qn9 (f:=sV) (k:=1) sV1 E (j:=0) (v:=Zs x) rfl;simpa using this
   rw[Aj,yB (by omega)]at n;rw[Af];exact l.ld n
  .obtain⟨Z,n,⟨cc,X,I,_⟩,_⟩:=l.2;exact qr6 (w:=w) (n _ _ I)
  .have:=q0h [46] (os.map λx=>x.data.toList) (λx t=>by obtain⟨y,g,rfl⟩:=Bs.1 t;have:=u y g;simpa using this)
   rw[Bo,A]at this;exact B4 this (by simp)
  .have:=q0h [46] (os.map λx=>x.data.toList) (λx t=>by obtain⟨y,g,rfl⟩:=Bs.1 t;have:=u y g;simpa using this)
   rw[Bo,A]at this;show(List.toArray _).size<=1000;rw[Az];exact B4 this (by simp)
def qyr(a bits:Int)(g:qc4 F)(c:St W F w):qb Zp 113 #[Zg #[Zi .u32 a,Zi Zk bits]] w λv w'=>∃s,v=Zs s/\(s=⟨#[]⟩↔q15 a bits=A4)/\St W F w':=by
 refine F113_of (zh c λb w c=>z8 0 c rfl rfl (z8 0 c rfl rfl ?_));refine(qki a bits c).of λv w ⟨d,c⟩=>⟨_,d,za (λh=>?_) λh=>?_⟩
 .have h:q15 a bits=A4:=by simpa using h
  exact⟨_,rfl,⟨λ_=>h,λ_=>rfl⟩,c.drop⟩
 have h:q15 a bits=Ae:=by simpa using h
 have k:0<=bits/\bits<=32:=by unfold q15 at h;rw[Ai,Ai]at h;exact⟨yC h.1,yC h.2.1⟩
 have f:=z6 W (Row b 132 [Zi .u32 a,Zi Zk bits]::F);refine⟨StC W _,zd c,_,zi 0 f rfl rfl,_,zi 0 f rfl rfl,?_⟩;refine zk (α:={s:ByteArray//s.size<=1000}) (V:=λs=>Zs s.1) (B:=λ_=>Row b 132 [Zi .u32 a,Zi Zk bits]::F) ⟨⟨#[]⟩,by decide⟩ f (λG w e=>(qvs a ((g.cons _).app _) e).of λv w' ⟨s,d,i,h⟩=>⟨_,d,⟨s,i⟩,rfl,h⟩) λs=>⟨_,rfl,zi 0 ir rfl rfl,?_⟩;obtain⟨s,i⟩:=s;dsimp only;have j:(⟨#[47]⟩:ByteArray).size=1:=rfl;refine⟨by omega,zk (α:=Unit) (V:=λ_=>Zs (mkS (qp7 bits))) (B:=λ_=>Row b 132 [Zi .u32 a,Zi Zk bits]::F) () ir (λG w e=>(qwb bits ((g.cons _).app _) e).of λv w' ⟨d,h⟩=>⟨_,d,(),rfl,h⟩) λ_=>⟨_,rfl,trivial,?_,λG w e=>⟨_,rfl,?_,(zb e).drop⟩⟩⟩
 .have:=(qte k.1 (by omega)).2;rw[qf1,Ao];have l:(⟨#[47]⟩:ByteArray).size=1:=rfl;omega
 .rw[h];refine⟨λh=>?_,λh=>by cases h⟩;have:=yE By h;rw[Ao,Ao,qf1]at this;have l:(⟨#[47]⟩:ByteArray).size=1:=rfl;have m:(⟨#[]⟩:ByteArray).size=0:=rfl;omega
end
end
structure q97 where
 name:ByteArray
 secret:ByteArray
 til:Int
structure qa4 where
 name:ByteArray
 names:Int
 visitors:Int
 np:Option Be
 nc:Nat
 nets:List (Int×Int)
 tp:Option Be
 tc:Nat
 toks:List q97
def qje(x:Int×Int):List A8:=[Zi .u32 x.1,Zi Zk x.2]
def q44(x:q97):List A8:=[Zs x.name,Zs x.secret,Zi Zk x.til]
def q43(t:qa4):List A8:=[Zs t.name,Zi Zk t.names,Zi Zk t.visitors,.slice t.np t.nets.length t.nc,.slice t.tp t.toks.length t.tc]
structure qg6(F:List Asn)(t:qa4):Prop where
 nr:Rd F t.np (t.nets.flatMap qje)
 nl:t.nets.length<=t.nc
 nb:t.nets.length<=9223372036854775807
 tr:Rd F t.tp (t.toks.flatMap q44)
 tl:t.toks.length<=t.tc
 tb:t.toks.length<=9223372036854775807
 sb:∀x∈t.toks,x.secret.size<=9223372036854775807
def qg6.cons{F:List Asn}{t:qa4}(h:qg6 F t)(A:Asn):qg6 (A::F) t:=⟨h.nr.cons A,h.nl,h.nb,h.tr.cons A,h.tl,h.tb,h.sb⟩
def qg6.app{F:List Asn}{t:qa4}(h:qg6 F t)(G:List Asn):qg6 (F++G) t:=⟨h.nr.app G,h.nl,h.nb,h.tr.app G,h.tl,h.tb,h.sb⟩
def qkd{α:Type}{g:α->Bool}{xs:List α}:decide (qt4 g xs>=0)=xs.any g:=by
 unfold qt4;cases h:xs.findIdx? g with
 |none=>
  have:xs.any g=A4:=by rw[List.any_eq_false];intro x a;have:=Ax.1 h x a;simp[this]
  rw[this];rfl
 |some i=>obtain⟨w,b,_⟩:=Ak.1 h;have:xs.any g=Ae:=List.any_eq_true.2 ⟨_,List.getElem_mem w,b⟩;rw[this];exact yG (by show(i:Int)>=0;omega)
def qvn{W w:A6}{F:List Asn}{p:Option Be}{c:Nat}{xs:List qa4}{r:A8}(g:qa4->Bool)(u:Rd F p (xs.flatMap q43))(B:xs.length<=9223372036854775807)
 (t:∀(x:qa4),x∈xs->∀(w:A6) (K:A8->A6->Prop),St W F w->(∀w',St W F w'->K (Zb (g x)) w')->q01 Zp 4 r [Zg (q43 x).toArray] w K) (d:St W F w):
 qb Zp 110 #[Zl p xs.length c,r] w λv w'=>v=Zi Zk (qt4 g xs)/\St W F w':=by
 refine F110_of ⟨λvs w=>∃i:Nat,vs=[Zi Zk i]/\i<=xs.length/\(∀j y,j<i->xs[j]?=A3 y->g y=A4)/\St W F w,leftN xs.length,⟨0,rfl,by omega,λj y h=>by omega,d⟩,λx w s=>?_⟩;obtain⟨i,A,C,o,d⟩:=s;cases A;refine za (λb=>?_) λm=>?_
 .have b:i<xs.length:=by have:=yC b;omega
  have k:xs[i]?=A3 (xs[i]'b):=A0 _;generalize xs[i]'b=y at k;refine z0e (f:=q43) (size:=5) (λ_=>rfl) (by omega) u d rfl b k λa l=>⟨_,l 0 _ rfl,⟨_,l 1 _ rfl,⟨_,l 2 _ rfl,⟨_,_,_,l 3 _ rfl,⟨_,_,_,l 4 _ rfl,t y (A9 k) w _ d λw' d=>⟨_,rfl,?_⟩⟩⟩⟩⟩⟩;cases hy:g y with
  |true=>exact⟨by rw[qs8 k hy o],d⟩
  |false=>
   rw[up b B];exact⟨⟨i+1,rfl,by omega,λj z D q=>by
    by_cases e:j=i;.subst e;rw[k]at q;cases q;exact hy
    .exact o j z (by omega) q,d⟩,by show xs.length -(i+1)<xs.length - i;omega⟩
 have n:i=xs.length:=by have:=yD m;omega
 subst n;exact⟨by rw[qq8 λj y h=>o j y (A1.1 h).1 h],d⟩
def qtv{W w:A6}{F:List Asn}{p:Option Be}{c:Nat}{xs:List qa4}{a:A8}(g:qa4->Bool)(d:Rd F p (xs.flatMap q43))(f:xs.length<=9223372036854775807)
 (b:∀(x:qa4),x∈xs->∀(w:A6) (K:A8->A6->Prop),St W F w->(∀w',St W F w'->K (Zb (g x)) w')->q01 Zp 4 a [Zg (q43 x).toArray] w K) (h:St W F w):
 qb Zp 67 #[Zl p xs.length c,a] w λv w'=>v=Zb (xs.any g)/\St W F w':=
 F67_of ((qvn g d f b h).of λv w ⟨e,h⟩=>⟨_,e,by rw[qkd],h⟩)
def qyw{W w:A6}{F:List Asn}{p:Option Be}{c:Nat}{xs:List (Int×Int)}{q:A8}(g:(Int×Int)->Bool)(u:Rd F p (xs.flatMap qje))(B:xs.length<=9223372036854775807)
 (t:∀(x:(Int×Int)),x∈xs->∀(w:A6) (K:A8->A6->Prop),St W F w->(∀w',St W F w'->K (Zb (g x)) w')->q01 Zp 4 q [Zg (qje x).toArray] w K) (d:St W F w):
 qb Zp 179 #[Zl p xs.length c,q] w λv w'=>v=Zi Zk (qt4 g xs)/\St W F w':=by
 refine F179_of ⟨λvs w=>∃i:Nat,vs=[Zi Zk i]/\i<=xs.length/\(∀j y,j<i->xs[j]?=A3 y->g y=A4)/\St W F w,leftN xs.length,⟨0,rfl,by omega,λj y h=>by omega,d⟩,λx w s=>?_⟩;obtain⟨i,A,C,n,d⟩:=s;cases A;refine za (λb=>?_) λl=>?_
 .have b:i<xs.length:=by have:=yC b;omega
  have k:xs[i]?=A3 (xs[i]'b):=A0 _;generalize xs[i]'b=y at k;refine z0e (f:=qje) (size:=2) (λ_=>rfl) (by omega) u d rfl b k λa r=>⟨_,r 0 _ rfl,⟨_,r 1 _ rfl,t y (A9 k) w _ d λw' d=>⟨_,rfl,?_⟩⟩⟩;cases hy:g y with
  |true=>exact⟨by rw[qs8 k hy n],d⟩
  |false=>
   rw[up b B];exact⟨⟨i+1,rfl,by omega,λj z D o=>by
    by_cases e:j=i;.subst e;rw[k]at o;cases o;exact hy
    .exact n j z (by omega) o,d⟩,by show xs.length -(i+1)<xs.length - i;omega⟩
 have m:i=xs.length:=by have:=yD l;omega
 subst m;exact⟨by rw[qq8 λj y h=>n j y (A1.1 h).1 h],d⟩
def qnn{W w:A6}{F:List Asn}{p:Option Be}{c:Nat}{xs:List (Int×Int)}{a:A8}(g:(Int×Int)->Bool)(d:Rd F p (xs.flatMap qje))(f:xs.length<=9223372036854775807)
 (b:∀(x:(Int×Int)),x∈xs->∀(w:A6) (K:A8->A6->Prop),St W F w->(∀w',St W F w'->K (Zb (g x)) w')->q01 Zp 4 a [Zg (qje x).toArray] w K) (h:St W F w):
 qb Zp 111 #[Zl p xs.length c,a] w λv w'=>v=Zb (xs.any g)/\St W F w':=
 F111_of ((qyw g d f b h).of λv w ⟨e,h⟩=>⟨_,e,by rw[qkd],h⟩)
def qrn{W w:A6}{F:List Asn}{p:Option Be}{c:Nat}{xs:List q97}{r:A8}(g:q97->Bool)(u:Rd F p (xs.flatMap q44))(B:xs.length<=9223372036854775807)
 (t:∀(x:q97),x∈xs->∀(w:A6) (K:A8->A6->Prop),St W F w->(∀w',St W F w'->K (Zb (g x)) w')->q01 Zp 4 r [Zg (q44 x).toArray] w K) (d:St W F w):
 qb Zp 183 #[Zl p xs.length c,r] w λv w'=>v=Zi Zk (qt4 g xs)/\St W F w':=by
 refine F183_of ⟨λvs w=>∃i:Nat,vs=[Zi Zk i]/\i<=xs.length/\(∀j y,j<i->xs[j]?=A3 y->g y=A4)/\St W F w,leftN xs.length,⟨0,rfl,by omega,λj y h=>by omega,d⟩,λx w s=>?_⟩;obtain⟨i,A,C,o,d⟩:=s;cases A;refine za (λb=>?_) λl=>?_
 .have b:i<xs.length:=by have:=yC b;omega
  have k:xs[i]?=A3 (xs[i]'b):=A0 _;generalize xs[i]'b=y at k;refine z0e (f:=q44) (size:=3) (λ_=>rfl) (by omega) u d rfl b k λa m=>⟨_,m 0 _ rfl,⟨_,m 1 _ rfl,⟨_,m 2 _ rfl,t y (A9 k) w _ d λw' d=>⟨_,rfl,?_⟩⟩⟩⟩;cases hy:g y with
  |true=>exact⟨by rw[qs8 k hy o],d⟩
  |false=>
   rw[up b B];exact⟨⟨i+1,rfl,by omega,λj z D q=>by
    by_cases e:j=i;.subst e;rw[k]at q;cases q;exact hy
    .exact o j z (by omega) q,d⟩,by show xs.length -(i+1)<xs.length - i;omega⟩
 have n:i=xs.length:=by have:=yD l;omega
 subst n;exact⟨by rw[qq8 λj y h=>o j y (A1.1 h).1 h],d⟩
def qlv{W w:A6}{F:List Asn}{p:Option Be}{c:Nat}{xs:List q97}{a:A8}(g:q97->Bool)(d:Rd F p (xs.flatMap q44))(f:xs.length<=9223372036854775807)
 (b:∀(x:q97),x∈xs->∀(w:A6) (K:A8->A6->Prop),St W F w->(∀w',St W F w'->K (Zb (g x)) w')->q01 Zp 4 a [Zg (q44 x).toArray] w K) (h:St W F w):
 qb Zp 114 #[Zl p xs.length c,a] w λv w'=>v=Zb (xs.any g)/\St W F w':=
 F114_of ((qrn g d f b h).of λv w ⟨e,h⟩=>⟨_,e,by rw[qkd],h⟩)
section
def q17(n w h:Int):Bool:=decide (n>=w)&&decide (n<=h)
def qyd(t:q97):Bool:=q1a t.name&&(q17 t.secret.size 1 32&&q17 t.til 0 1099511627776)
def qw9(a b:ByteArray):Bool:=Op.bytesLess a.toList b.toList
def q3e(l:List ByteArray)(i:Nat):Bool:=match l[i]?,l[i+1]? with|some a,A3 b=>qw9 a b|_,_=>Ae
def qw5(l:List ByteArray):Bool:=(Bv l.length).all (q3e l)
def qai(t:qa4):Bool:=
 if(t.nets.any (λx=>!q15 x.1 x.2)||t.toks.any (λx=>!qyd x))=Ae then A4 else
 if q1a t.name=A4 then A4 else if(t.nets.length:Int)>4 then A4 else if(t.toks.length:Int)>4 then A4 else
 q17 t.names 0 8&&(q17 t.visitors 0 8&&qw5 (t.toks.map (·.name)))
section
variable{W w:World}{F:List Asn}
def q48(n b a:Int)(c:St W F w):qb Zp 66 #[Zi Zk n,Zi Zk b,Zi Zk a] w λv w'=>v=Zb (q17 n b a)/\St W F w':=by unfold q17;exact F66_of (za (λh=>by rw[h];exact⟨rfl,c⟩) λh=>by rw[h];exact⟨rfl,c⟩)
def qwr(t:q97)(a:St W F w):qb Zp 116 #[Zg (q44 t).toArray] w λv w'=>v=Zb (qyd t)/\St W F w':=by
 unfold qyd;refine F116_of (zh a λb w a=>zg 0 a rfl rfl ((qoc _ a).of λv w ⟨c,a⟩=>⟨_,c,za (λh=>zg 0 a rfl rfl ((q48 _ _ _ a).of λv w ⟨c,a⟩=>⟨_,c,za (λd=>z8 0 a rfl rfl ((q48 _ _ _ a).of λv w ⟨c,a⟩=>⟨_,c,?_,a.drop⟩)) λd=>⟨?_,a.drop⟩⟩)) λh=>⟨?_,a.drop⟩⟩));.rw[h,d];rfl
 .rw[h,d];rfl
 .rw[h];rfl
def q0t{x:Int×Int}{K:A8->A6->Prop}(e:qc4 F)(a:St W F w)(g:∀w',St W F w'->K (Zb (!q15 x.1 x.2)) w'):q01 Zp 4 (.func (.func 112) #[] #[]) [Zg (qje x).toArray] w K:=by
 have d:qb Zp 112 #[Zg #[Zi .u32 x.1,Zi Zk x.2]] w K:=by
  refine F112_of (zh a λb w a=>z8 0 a rfl rfl (z8 0 a rfl rfl ((qyr x.1 x.2 (e.cons _) a).of λv w ⟨s,f,c,a⟩=>⟨_,f,?_⟩)));dsimp only;have:(s.toList==(⟨#[]⟩:ByteArray).toList)=!q15 x.1 x.2:=by
   rw[qv3];cases hr:q15 x.1 x.2 with
   |false=>exact yG (c.2 hr)
   |true=>exact yH λh=>by rw[c.1 h]at hr;cases hr
  rw[this];exact g w a.drop
 exact zw (by kernel_rfl) d
def qes{x:q97}{K:A8->A6->Prop}(h:St W F w)(d:∀w',St W F w'->K (Zb (!qyd x)) w'):q01 Zp 4 (.func (.func 115) #[] #[]) [Zg (q44 x).toArray] w K:=by
 have a:qb Zp 115 #[Zg #[Zs x.name,Zs x.secret,Zi Zk x.til]] w K:=
  F115_of (zh h λb w h=>zg 0 h rfl rfl (zg 0 h rfl rfl (z8 0 h rfl rfl ((qwr x h).of λv w ⟨c,h⟩=>⟨_,c,d w h.drop⟩))))
 exact zw (by kernel_rfl) a
def qrm{x:q97}{K:A8->A6->Prop}(h:St W F w)(c:∀w',St W F w'->K (Zs x.name) w'):qn5 Zp 9 (.func (.func 119) #[] #[]) [Zg (q44 x).toArray] w K:=by
 have a:qb Zp 119 #[Zg #[Zs x.name,Zs x.secret,Zi Zk x.til]] w K:=
  F119_of (zh h λb w h=>zg 0 h rfl rfl (c w h.drop))
 exact qn5.lit0 (by kernel_rfl) a
def qtn{x:qa4}{K:A8->A6->Prop}(h:St W F w)(c:∀w',St W F w'->K (Zs x.name) w'):qn5 Zp 9 (.func (.func 71) #[] #[]) [Zg (q43 x).toArray] w K:=by
 have a:qb Zp 71 #[Zg #[Zs x.name,Zi Zk x.names,Zi Zk x.visitors,.slice x.np x.nets.length x.nc,.slice x.tp x.toks.length x.tc]] w K:=
  F71_of (zh h λb w h=>zg 0 h rfl rfl (c w h.drop))
 exact qn5.lit0 (by kernel_rfl) a
def q4k{l:List ByteArray}{i:Nat}{a b:ByteArray}(h:l[i]?=A3 a)(w:l[i+1]?=A3 b):q3e l i=qw9 a b:=by unfold q3e;rw[h,w]
def qhg{l:List ByteArray}{i:Nat}(h:l.length<=i+1):q3e l i=Ae:=by
 unfold q3e;rw[List.getElem?_eq_none (l:=l) (i:=i+1) h];split;.rename_i w;cases w
 .rfl
def qgw{p:Option Be}{c:Nat}{xs:List q97}(C:Rd F p (xs.flatMap q44))(I:xs.length<=9223372036854775807)(m:St W F w):
 qb Zp 118 #[Zl p xs.length c,.func (.func 119) #[] #[]] w λv w'=>v=Zb (qw5 (xs.map (·.name)))/\St W F w':=by
 refine F118_of ⟨λvs w=>∃i:Nat,vs=[Zi Zk ((i+1:Nat):Int)]/\(i=0\/i<xs.length)/\(∀j,j<i->q3e (xs.map (·.name)) j=Ae)/\St W F w,leftN xs.length,⟨0,rfl,.inl rfl,λj h=>by omega,m⟩,λx w J=>?_⟩;obtain⟨i,E,K,D,m⟩:=J;cases E;have q:=z6 W F;refine za (λd=>?_) λn=>?_
 .have d:i+1<xs.length:=by have:=yC d;omega
  have t:xs[i]?=A3 (xs[i]'(by omega)):=A0 _;generalize xs[i]'(by omega)=x at t;have z:xs[i+1]?=A3 (xs[i+1]'d):=A0 _;generalize xs[i+1]'d=y at z;have H:Zw Zk (((i+1:Nat):Int) - 1)=(i:Int):=by rw[w64];omega
  refine⟨StC W F,zd m,z0d (f:=q44) (size:=3) q (λ_=>rfl) (by omega) C m H (by omega) t λa u=>z0d (f:=q44) (size:=3) q (λ_=>rfl) (by omega) C m rfl d z λa2 k=>?_⟩;refine⟨_,_,_,λG w g=>⟨_,u g 0 _ rfl,⟨_,u g 1 _ rfl,⟨_,u g 2 _ rfl,rfl,g⟩⟩⟩,?_⟩;refine⟨_,_,_,λG w g=>⟨_,k g 0 _ rfl,⟨_,k g 1 _ rfl,⟨_,k g 2 _ rfl,rfl,g⟩⟩⟩,?_⟩;refine zk (α:=Unit) (V:=λ_=>Zs x.name) (B:=λ_=>F) () q (λG w h=>qrm (x:=x) h λw h=>⟨_,rfl,(),rfl,h⟩) λ_=>⟨_,rfl,λG w g=>⟨_,k g 0 _ rfl,⟨_,k g 1 _ rfl,⟨_,k g 2 _ rfl,rfl,g⟩⟩⟩,?_⟩;refine zk (α:=Unit) (V:=λ_=>Zs y.name) (B:=λ_=>F) () q (λG w h=>qrm (x:=y) h λw h=>⟨_,rfl,(),rfl,h⟩) λ_=>⟨_,rfl,trivial,λG w h=>?_⟩;have o:=q4k (l:=xs.map (·.name)) (i:=i) (a:=x.name) (b:=y.name) (by rw[A5,t];rfl) (by rw[A5,z];rfl);refine za (λr=>⟨?_,zb h⟩) λr=>?_
  .have s:qw9 x.name y.name=A4:=by unfold qw9;simpa using r
   have:qw5 (xs.map (·.name))=A4:=by unfold qw5;rw[B0];exact⟨i,by simp;omega,by rw[o,s];simp⟩
   rw[this]
  .have s:qw9 x.name y.name=Ae:=by unfold qw9;simpa using r
   rw[up d I];refine⟨⟨i+1,rfl,.inr d,λj A=>?_,zb h⟩,by show xs.length -(i+1+1)<xs.length -(i+1);omega⟩;by_cases e:j=i;.subst e;rw[o,s]
   .exact D j (by omega)
 .have n:=yD n;have:qw5 (xs.map (·.name))=Ae:=by
   unfold qw5;rw[Ah];intro j A;have A:j<xs.length:=by simpa using A
   by_cases h:j<i;.exact D j h
   .exact qhg (by simp;omega)
  rw[this];exact⟨rfl,m⟩
def q2w{p:Option Be}{c:Nat}{xs:List qa4}(C:Rd F p (xs.flatMap q43))(I:xs.length<=9223372036854775807)(m:St W F w):
 qb Zp 70 #[Zl p xs.length c,.func (.func 71) #[] #[]] w λv w'=>v=Zb (qw5 (xs.map (·.name)))/\St W F w':=by
 refine F70_of ⟨λvs w=>∃i:Nat,vs=[Zi Zk ((i+1:Nat):Int)]/\(i=0\/i<xs.length)/\(∀j,j<i->q3e (xs.map (·.name)) j=Ae)/\St W F w,leftN xs.length,⟨0,rfl,.inl rfl,λj h=>by omega,m⟩,λx w J=>?_⟩;obtain⟨i,E,K,D,m⟩:=J;cases E;have r:=z6 W F;refine za (λk=>?_) λn=>?_
 .have k:i+1<xs.length:=by have:=yC k;omega
  have u:xs[i]?=A3 (xs[i]'(by omega)):=A0 _;generalize xs[i]'(by omega)=x at u;have z:xs[i+1]?=A3 (xs[i+1]'k):=A0 _;generalize xs[i+1]'k=y at z;have H:Zw Zk (((i+1:Nat):Int) - 1)=(i:Int):=by rw[w64];omega
  refine⟨StC W F,zd m,z0d (f:=q43) (size:=5) r (λ_=>rfl) (by omega) C m H (by omega) u λa q=>z0d (f:=q43) (size:=5) r (λ_=>rfl) (by omega) C m rfl k z λa2 d=>?_⟩;refine⟨_,_,_,_,_,_,_,_,_,λG w g=>⟨_,q g 0 _ rfl,⟨_,q g 1 _ rfl,⟨_,q g 2 _ rfl,⟨_,_,_,q g 3 _ rfl,⟨_,_,_,q g 4 _ rfl,rfl,g⟩⟩⟩⟩⟩,?_⟩;refine⟨_,_,_,_,_,_,_,_,_,λG w g=>⟨_,d g 0 _ rfl,⟨_,d g 1 _ rfl,⟨_,d g 2 _ rfl,⟨_,_,_,d g 3 _ rfl,⟨_,_,_,d g 4 _ rfl,rfl,g⟩⟩⟩⟩⟩,?_⟩;refine zk (α:=Unit) (V:=λ_=>Zs x.name) (B:=λ_=>F) () r (λG w h=>qtn (x:=x) h λw h=>⟨_,rfl,(),rfl,h⟩) λ_=>⟨_,rfl,λG w g=>⟨_,d g 0 _ rfl,⟨_,d g 1 _ rfl,⟨_,d g 2 _ rfl,⟨_,_,_,d g 3 _ rfl,⟨_,_,_,d g 4 _ rfl,rfl,g⟩⟩⟩⟩⟩,?_⟩;refine zk (α:=Unit) (V:=λ_=>Zs y.name) (B:=λ_=>F) () r (λG w h=>qtn (x:=y) h λw h=>⟨_,rfl,(),rfl,h⟩) λ_=>⟨_,rfl,trivial,λG w h=>?_⟩;have o:=q4k (l:=xs.map (·.name)) (i:=i) (a:=x.name) (b:=y.name) (by rw[A5,u];rfl) (by rw[A5,z];rfl);refine za (λs=>⟨?_,zb h⟩) λs=>?_
  .have t:qw9 x.name y.name=A4:=by unfold qw9;simpa using s
   have:qw5 (xs.map (·.name))=A4:=by unfold qw5;rw[B0];exact⟨i,by simp;omega,by rw[o,t];simp⟩
   rw[this]
  .have t:qw9 x.name y.name=Ae:=by unfold qw9;simpa using s
   rw[up k I];refine⟨⟨i+1,rfl,.inr k,λj A=>?_,zb h⟩,by show xs.length -(i+1+1)<xs.length -(i+1);omega⟩;by_cases e:j=i;.subst e;rw[o,t]
   .exact D j (by omega)
 .have n:=yD n;have:qw5 (xs.map (·.name))=Ae:=by
   unfold qw5;rw[Ah];intro j A;have A:j<xs.length:=by simpa using A
   by_cases h:j<i;.exact D j h
   .exact qhg (by simp;omega)
  rw[this];exact⟨rfl,m⟩
def qto{t:qa4}(n:qc4 F)(f:qg6 F t)(a:St W F w):qb Zp 69 #[Zg (q43 t).toArray] w λv w'=>v=Zb (qai t)/\St W F w':=by
 refine F69_of (zh a λb w a=>zr 0 a rfl rfl ?_);refine(qnn (λx=>!q15 x.1 x.2) (f.nr.cons _) f.nb (λx _ w K a k=>q0t (n.cons _) a k) a).of λv w ⟨c,a⟩=>⟨_,c,?_⟩;unfold qai;refine⟨λvs w=>vs=[Zb (t.nets.any (λx=>!q15 x.1 x.2)||t.toks.any (λx=>!qyd x))]/\St W (Row b 112 (q43 t)::F) w,za (λh=>⟨by rw[h];rfl,a⟩) λh=>zr 0 a rfl rfl ((qlv (λx=>!qyd x) (f.tr.cons _) f.tb (λx _ w K a k=>qes a k) a).of λv w ⟨c,a⟩=>⟨_,c,by rw[h];rfl,a⟩),λi w m=>?_⟩;obtain⟨o,a⟩:=m;cases o;generalize (t.nets.any (λx=>!q15 x.1 x.2)||t.toks.any (λx=>!qyd x))=i;refine⟨λ_ w=>i=A4/\q1a t.name=Ae/\¬(t.nets.length:Int)>4/\¬(t.toks.length:Int)>4/\St W (Row b 112 (q43 t)::F) w,?_,λw m=>?_⟩
 .refine za (λh=>zn h ?_) λh=>?_;.rw[yB h];exact⟨rfl,a.drop⟩
  rw[yA (by rw[h];simp)];refine zg 0 a rfl rfl ((qoc _ a).of λv w ⟨c,a⟩=>⟨_,c,za (λd=>zn d ?_) λd=>?_⟩);.rw[yB (by simpa using d)];exact⟨rfl,a.drop⟩
  have d:q1a t.name=Ae:=by simpa using d
  rw[yA (by rw[d];simp)];refine zr 0 a rfl rfl (za (λe=>zn e ?_) λe=>?_);.rw[yB (yC e)];exact⟨rfl,a.drop⟩
  rw[yA (yD e)];refine zr 0 a rfl rfl (za (λg=>?_) λg=>⟨h,d,yD e,yD g,a⟩);rw[yB (yC g)];exact⟨rfl,a.drop⟩
 .obtain⟨h,d,e,g,a⟩:=m;rw[yA (by rw[h];simp),yA (by rw[d];simp),yA e,yA g];refine z8 0 a rfl rfl ((q48 _ _ _ a).of λv w ⟨c,a⟩=>⟨_,c,za (λj=>?_) λj=>⟨by rw[j];rfl,a.drop⟩⟩);refine z8 0 a rfl rfl ((q48 _ _ _ a).of λv w ⟨c,a⟩=>⟨_,c,za (λl=>?_) λl=>⟨by rw[j,l];rfl,a.drop⟩⟩);refine zr 0 a rfl rfl ((qgw (f.tr.cons _) f.tb a).of λv w ⟨c,a⟩=>⟨_,c,by rw[j,l];rfl,a.drop⟩)
end
structure qy where
 wait:Int
 grace:Int
 idle:Int
 lease:Int
 tp:Option Be
 tc:Nat
 tens:List qa4
def qx3(c:qy):List A8:=[Zi Zk c.wait,Zi Zk c.grace,Zi Zk c.idle,Zi Zk c.lease,.slice c.tp c.tens.length c.tc]
structure ql1(F:List Asn)(c:qy):Prop where
 tr:Rd F c.tp (c.tens.flatMap q43)
 tl:c.tens.length<=c.tc
 tb:c.tens.length<=9223372036854775807
 ok:∀t∈c.tens,qg6 F t
 tab:qc4 F
def ql1.cons{F:List Asn}{c:qy}(h:ql1 F c)(A:Asn):ql1 (A::F) c:=⟨h.tr.cons A,h.tl,h.tb,λt w=>(h.ok t w).cons A,h.tab.cons A⟩
def ql1.app{F:List Asn}{c:qy}(h:ql1 F c)(G:List Asn):ql1 (F++G) c:=⟨h.tr.app G,h.tl,h.tb,λt w=>(h.ok t w).app G,h.tab.app G⟩
def ql1.pre{F:List Asn}{c:qy}(h:ql1 F c):∀l:List Asn,ql1 (l++F) c
 |[]=>h
 |A::l=>(h.pre l).cons A
def q28(c:qy):List Int:=[c.wait,c.grace,c.idle,c.lease]
def qj6(c:qy):Bool:=
 if(q28 c).all (λn=>q17 n 1 1073741824)=A4 then A4 else
 if(c.tens.length:Int)<=8 then if c.tens.any (λt=>!qai t)=Ae then A4 else qw5 (c.tens.map (·.name))else A4
section
variable{W w:World}{F:List Asn}
def qzn{x:qa4}{K:A8->A6->Prop}(c:qc4 F)(d:qg6 F x)(h:St W F w)(f:∀w',St W F w'->K (Zb (!qai x)) w'):q01 Zp 4 (.func (.func 68) #[] #[]) [Zg (q43 x).toArray] w K:=by
 have a:qb Zp 68 #[Zg #[Zs x.name,Zi Zk x.names,Zi Zk x.visitors,.slice x.np x.nets.length x.nc,.slice x.tp x.toks.length x.tc]] w K:=
  F68_of (zh h λb w h=>zg 0 h rfl rfl (z8 0 h rfl rfl (z8 0 h rfl rfl (zr 0 h rfl rfl (zr 0 h rfl rfl ((qto (t:=x) (c.cons _) (d.cons _) h).of λv w ⟨e,h⟩=>⟨_,e,f w h.drop⟩))))))
 exact zw (by kernel_rfl) a
def q4d{c:qy}(g:ql1 F c)(a:St W F w):qb Zp 35 #[Zg (qx3 c).toArray] w λv w'=>v=Zb (qj6 c)/\St W F w':=by
 refine F35_of (zh a λb w a=>z8 0 a rfl rfl (z8 0 a rfl rfl (z8 0 a rfl rfl (z8 0 a rfl rfl (zh a λo w a=>?_)))));have a:St W (Row o 2 ((q28 c).map (Zi Zk))::Row b 44 (qx3 c)::F) w:=a;unfold qj6;refine⟨λvs w=>∃k:Nat,vs=[Zi Zk (k:Int)]/\k<=4/\(∀x∈(q28 c).take k,q17 x 1 1073741824=Ae)/\St W (Row o 2 ((q28 c).map (Zi Zk))::Row b 44 (qx3 c)::F) w,leftN 4,⟨0,rfl,by omega,by simp,a⟩,λx w p=>?_⟩;obtain⟨k,r,u,n,a⟩:=p;cases r;have q:(q28 c).length=4:=rfl;refine za (λd=>?_) λl=>?_
 .have d:k<4:=by have:=yC d;omega
  have e:(q28 c)[k]?=A3 ((q28 c)[k]'d):=A0 _;generalize (q28 c)[k]'d=y at e;refine IxP.row rfl d (z13 (x:=y) 0 a rfl (by rw[A5,e];rfl) ((q48 _ _ _ a).of λv w ⟨i,a⟩=>⟨_,i,za (λh=>?_) λh=>?_⟩))
  .have h:q17 y 1 1073741824=A4:=by simpa using h
   rw[yB (B0.2 ⟨y,A9 e,by rw[h];simp⟩)];exact⟨rfl,a.drop.drop⟩
  .have h:q17 y 1 1073741824=Ae:=by simpa using h
   have t:Zw Zk ((k:Int)+1)=((k+1:Nat):Int):=by rw[w64];omega
   rw[t];refine⟨⟨k+1,rfl,by omega,λz f=>?_,a⟩,by show 4 -(k+1)<4 - k;omega⟩;rw[An,e]at f;rcases As.1 f with f|f;.exact n z f
   .simp at f;subst f;exact h
 have m:k=4:=by have:=yD l;omega
 subst m;rw[yA (by rw[Bool.not_eq_false,Ah];intro x e;exact n x (by rw[Aa (by omega)];exact e))]
 have a:=a.drop;refine zr 0 a rfl rfl (za (λh=>?_) λh=>?_)
 .rw[yB (yC h)];refine zr 0 a rfl rfl ((qtv (λx=>!qai x) (g.tr.cons _) g.tb (λx e w K a s=>qzn (g.tab.cons _) ((g.ok x e).cons _) a s) a).of λv w ⟨i,a⟩=>⟨_,i,za (λj=>?_) λj=>?_⟩)
  .rw[yA (by simpa using j)];exact zr 0 a rfl rfl ((q2w (g.tr.cons _) g.tb a).of λv w ⟨i,a⟩=>⟨_,i,rfl,a.drop⟩)
  .rw[yB (by simpa using j)];exact⟨rfl,a.drop⟩
 .rw[yA (yD h)];exact⟨rfl,a.drop⟩
def qrc(x y:ByteArray):(x.toList==y.toList)=decide (x=y):=qv3 x y
def qzr{x:qa4}{b:Nat}{s:ByteArray}{G:List Asn}{K:A8->A6->Prop}(h:St W (Row b 9 [Zs s]::G) w)(c:∀w',St W (Row b 9 [Zs s]::G) w'->K (Zb (decide (x.name=s))) w'):q01 Zp 4 (.func (.func 322) #[] #[Zq (A3 ⟨b,0,Bi⟩)]) [Zg (q43 x).toArray] w K:=by
 have a:qb Zp 322 #[Zg #[Zs x.name,Zi Zk x.names,Zi Zk x.visitors,.slice x.np x.nets.length x.nc,.slice x.tp x.toks.length x.tc],Zq (A3 ⟨b,0,Bi⟩)] w K:=
  F322_of (zh h λb w h=>zg 0 h rfl rfl (LdS.n 1 h rfl rfl (by rw[qrc];exact c w h.drop)))
 exact zw (by kernel_rfl) a
def qkt{x:q97}{b:Nat}{s:ByteArray}{G:List Asn}{K:A8->A6->Prop}(h:St W (Row b 9 [Zs s]::G) w)(c:∀w',St W (Row b 9 [Zs s]::G) w'->K (Zb (decide (x.name=s))) w'):q01 Zp 4 (.func (.func 323) #[] #[Zq (A3 ⟨b,0,Bi⟩)]) [Zg (q44 x).toArray] w K:=by
 have a:qb Zp 323 #[Zg #[Zs x.name,Zs x.secret,Zi Zk x.til],Zq (A3 ⟨b,0,Bi⟩)] w K:=
  F323_of (zh h λb w h=>zg 0 h rfl rfl (LdS.n 1 h rfl rfl (by rw[qrc];exact c w h.drop)))
 exact zw (by kernel_rfl) a
def q99:qa4:=⟨⟨#[]⟩,0,0,Bi,0,[],Bi,0,[]⟩
def qor:q97:=⟨⟨#[]⟩,⟨#[]⟩,0⟩
def q59(c:qy)(s:ByteArray):Option qa4:=c.tens.find? λt=>decide (t.name=s)
def q8j(t:qa4)(s:ByteArray):Option q97:=t.toks.find? λx=>decide (x.name=s)
def q0j{α:Type}{g:α->Bool}{xs:List α}:(qt4 g xs<0/\xs.find? g=Bi)\/∃i x,qt4 g xs=((i:Nat):Int)/\xs[i]?=A3 x/\xs.find? g=A3 x:=by
 unfold qt4;cases h:xs.findIdx? g with
 |none=>refine .inl ⟨by show(-1:Int)<0;omega,List.find?_eq_none.2 λx c=>?_⟩;have:=Ax.1 h x c;simp[this]
 |some i=>obtain⟨w,a,d⟩:=Ak.1 h;exact .inr ⟨i,_,rfl,A0 w,List.find?_eq_some_iff_getElem.2 ⟨a,i,w,rfl,λj b=>by have:=d j b;simpa using this⟩⟩
def qas{c:qy}(s:ByteArray)(j:ql1 F c)(h:St W F w):qb Zp 278 #[Zg (qx3 c).toArray,Zs s] w λv w'=>v=Zt #[Zg (q43 ((q59 c s).getD q99)).toArray,Zb (q59 c s).isSome]/\St W F w':=by
 refine F278_of (zh h λb w h=>zh h λo w h=>zh h λl w h=>zr 2 h rfl rfl ?_);have h:St W (Row o 9 [Zs s]::Row l 112 (q43 q99)::Row b 44 (qx3 c)::F) w:=h.p1;refine(qvn (λx=>decide (x.name=s)) (((j.tr.cons _).cons _).cons _) j.tb (λx q w K h p=>qzr h p) h).of λv w ⟨m,h⟩=>⟨_,m,?_⟩;unfold q59;rcases q0j (g:=λt:qa4=>decide (t.name=s)) (xs:=c.tens)with ⟨k,e⟩|⟨i,x,k,e,n⟩
 .rw[e];refine zn (yG k) ?_;refine St1.zz 1 h rfl λw h=>St1.zz 1 h rfl λw h=>St1.zz 1 h rfl λw h=>St1.zz 1 h rfl λw h=>St1.zz 1 h rfl λw h=>?_;exact zg 1 h rfl rfl (z8 1 h rfl rfl (z8 1 h rfl rfl (zr 1 h rfl rfl (zr 1 h rfl rfl ⟨rfl,h.drop.drop.drop⟩))))
 .rw[n,k];refine zm (yH (by omega)) ?_;refine zr 2 h rfl rfl (z0e (f:=q43) (size:=5) (λ_=>rfl) (by omega) (((j.tr.cons _).cons _).cons _) h rfl (A1.1 e).1 e λa d=>?_);refine⟨_,d 0 _ rfl,⟨_,d 1 _ rfl,⟨_,d 2 _ rfl,⟨_,_,_,d 3 _ rfl,⟨_,_,_,d 4 _ rfl,?_⟩⟩⟩⟩⟩;refine St1.zz 1 h rfl λw h=>St1.zz 1 h rfl λw h=>St1.zz 1 h rfl λw h=>St1.zz 1 h rfl λw h=>St1.zz 1 h rfl λw h=>?_;exact zg 1 h rfl rfl (z8 1 h rfl rfl (z8 1 h rfl rfl (zr 1 h rfl rfl (zr 1 h rfl rfl ⟨rfl,h.drop.drop.drop⟩))))
def qeq{t:qa4}(s:ByteArray)(d:qg6 F t)(h:St W F w):qb Zp 279 #[Zg (q43 t).toArray,Zs s] w λv w'=>v=Zt #[Zg (q44 ((q8j t s).getD qor)).toArray,Zb (q8j t s).isSome]/\St W F w':=by
 refine F279_of (zh h λb w h=>zh h λn w h=>zh h λk w h=>zr 2 h rfl rfl ?_);have h:St W (Row n 9 [Zs s]::Row k 114 (q44 qor)::Row b 112 (q43 t)::F) w:=h.p1;refine(qrn (λx=>decide (x.name=s)) (((d.tr.cons _).cons _).cons _) d.tb (λx p w K h o=>qkt h o) h).of λv w ⟨l,h⟩=>⟨_,l,?_⟩;unfold q8j;rcases q0j (g:=λt:q97=>decide (t.name=s)) (xs:=t.toks)with ⟨j,c⟩|⟨i,x,j,c,m⟩
 .rw[c];refine zn (yG j) ?_;refine St1.zz 1 h rfl λw h=>St1.zz 1 h rfl λw h=>St1.zz 1 h rfl λw h=>?_;exact zg 1 h rfl rfl (zg 1 h rfl rfl (z8 1 h rfl rfl ⟨rfl,h.drop.drop.drop⟩))
 .rw[m,j];refine zm (yH (by omega)) ?_;refine zr 2 h rfl rfl (z0e (f:=q44) (size:=3) (λ_=>rfl) (by omega) (((d.tr.cons _).cons _).cons _) h rfl (A1.1 c).1 c λa e=>?_);refine⟨_,e 0 _ rfl,⟨_,e 1 _ rfl,⟨_,e 2 _ rfl,?_⟩⟩⟩;refine St1.zz 1 h rfl λw h=>St1.zz 1 h rfl λw h=>St1.zz 1 h rfl λw h=>?_;exact zg 1 h rfl rfl (zg 1 h rfl rfl (z8 1 h rfl rfl ⟨rfl,h.drop.drop.drop⟩))
end
end
def or0(x y:UInt8):x|||y=0↔x=0/\y=0:=by
 constructor
 .intro h;have w:x.toNat|||y.toNat=0:=by rw[<-UInt8.toNat_or,h];rfl
  rw[Nat.or_eq_zero_iff]at w;exact⟨Au.1 w.1,Au.1 w.2⟩
 .rintro⟨rfl,rfl⟩;rfl
def xor0(x y:UInt8):x ^^^ y=0↔x=y:=UInt8.xor_eq_zero_iff
def qos{W w:A6}{F:List Asn}{p q:Option Be}{d e:Nat}{a b:List UInt8}(B:Rd F p (a.map qd))(r:Rd F q (b.map qd))(H:a.length<=1000000)(f:St W F w):
 qb Zp 350 #[Zl p a.length d,Zl q b.length e] w λv w'=>v=Zb (decide (a=b))/\St W F w':=by
 refine F350_of (za (λh=>⟨?_,f⟩) λh=>?_)
 .have h:(a.length:Int)≠b.length:=by simpa using h
  rw[yH (λe=>h (by rw[e]))]
 have C:a.length=b.length:=by
  have:¬(a.length:Int)≠b.length:=by simpa using h
  omega
 refine⟨λvs w=>∃(i:Nat) (u:UInt8),vs=[Zi .u8 (u.toNat:Int),Zi Zk i]/\i<=a.length/\(u=0↔a.take i=b.take i)/\St W F w,leftN a.length,⟨0,0,rfl,by omega,by simp,f⟩,λu x w D=>?_⟩;obtain⟨i,u,A,I,m,f⟩:=D;cases A;refine za (λc=>?_) λg=>⟨?_,f⟩
 .have c:i<a.length:=by have:=yC c;omega
  have k:a[i]?=A3 (a[i]'c):=A0 _;have n:b[i]?=A3 (b[i]'(by omega)):=A0 _;generalize a[i]'c=x at k;generalize b[i]'(by omega)=y at n;have t:=z6 W F;refine⟨StC W _,zd f,IxP.byC t B f rfl c k λz l=>IxP.byC t r f rfl (by omega) n λE j=>?_⟩;refine⟨_,z0h l,_,z0h j,λG w h=>?_⟩;rw[qjz,orV,up c (by omega)];refine⟨⟨i+1,u|||(x ^^^ y),rfl,by omega,?_,zb h⟩,by show a.length -(i+1)<a.length - i;omega⟩;rw[or0,xor0,m,An,An,k,n];constructor;.rintro⟨s,rfl⟩;rw[s]
  .intro s;have:=List.append_inj' s rfl;exact⟨this.1,by simpa using this.2⟩
 .have o:i=a.length:=by have:=yD g;omega
  subst o;rw[B1,C,B1]at m;congr 1;rw[Bool.eq_iff_iff];simp only[beq_iff_eq,yJ];rw[<-m];constructor;.intro h;exact Au.1 (by show u.toNat=0;omega)
  .intro h;rw[h];rfl
section
abbrev qva:=List ((ByteArray×ByteArray)×Int)
def qg1(b:Nat)(c:qy)(R:qva):Asn:=exA λm:Nat=>qz [Row b 158 (qx3 c++[.map (A3 m)]),qg kkV (Zi Zk) m R]
def uMv:Zp.underlying 156=A3 (.map 326 3):=Tryz.underlying156
def iIn:Zp.info? 3=A3 Tryz.t3:=by kernel_rfl
def zIn:Tryz.t3.zero=A3 (Zi Zk 0):=rfl
section
variable{W w:World}{F:List Asn}{b:Nat}{c:qy}{R:qva}
def qg1.open_(h:St W (qg1 b c R::F) w):∃m,St W (Row b 158 (qx3 c++[.map (A3 m)])::qg kkV (Zi Zk) m R::F) w:=by obtain⟨m,h⟩:=h.of_ex;exact⟨m,h.of_sep⟩
def qg1.shut(m:Nat)(h:St W (Row b 158 (qx3 c++[.map (A3 m)])::qg kkV (Zi Zk) m R::F) w):St W (qg1 b c R::F) w:=z00 m (zj (l:=[_,_]) h)
def q4u(e:ql1 F c)(a:St W F w):qb Zp 36 #[Zg (qx3 c).toArray] w λv w'=>(qj6 c=A4/\v=Zq Bi/\St W F w')\/(qj6 c=Ae/\∃b,v=qc b/\St W (qg1 b c []::F) w'):=by
 refine F36_of (zh a λb w a=>z8 0 a rfl rfl (z8 0 a rfl rfl (z8 0 a rfl rfl (z8 0 a rfl rfl (zr 0 a rfl rfl ?_)))));refine(q4d (e.cons _) a).of λv w ⟨f,a⟩=>⟨_,f,za (λh=>?_) λh=>?_⟩;.exact .inl ⟨by simpa using h,rfl,a.drop⟩
 refine z8 0 a rfl rfl (z8 0 a rfl rfl (z8 0 a rfl rfl (z8 0 a rfl rfl (zr 0 a rfl rfl (qs5.f (ν:=Int) kkV (Zi Zk) a λm w a=>zh a λd w a=>.inr ⟨by simpa using h,d,rfl,qg1.shut m (zl 3 [0,1] a rfl)⟩)))))
def q7e(c:qy)(ten tok:ByteArray):Option q97:=q8j ((q59 c ten).getD q99) tok
def qg6.found(w:ql1 F c)(s:ByteArray):qg6 F ((q59 c s).getD q99):=by
 cases h:q59 c s with
 |none=>exact⟨Rd.nil _ _,by simp[q99],by simp[q99],Rd.nil _ _,by simp[q99],by simp[q99],by simp[q99]⟩
 |some t=>exact w.ok t (Ay h)
def qcf{ten tok:ByteArray}{k:A8}{Q:A6->Prop}(j:ql1 F c)
 (e:∀t,q7e c ten tok=A3 t->∀(w:A6) (K:A8->A6->Prop),St W (qg1 b c R::F) w->(∀w',Q w'->K (Zt #[]) w')->q01 Zp 0 k [Zg (q44 t).toArray] w K)
 (d:q7e c ten tok=Bi->∀w,St W (qg1 b c R::F) w->Q w) (a:St W (qg1 b c R::F) w):qb Zp 206 #[qc b,Zs ten,Zs tok,k] w λv w'=>v=Zt #[]/\Q w':=by
 obtain⟨m,a⟩:=qg1.open_ a;refine F206_of (z7 (z8 0 a rfl rfl (z8 0 a rfl rfl (z8 0 a rfl rfl (z8 0 a rfl rfl (zr 0 a rfl rfl ?_))))));refine(qas ten ((j.cons _).cons _) a).of λv w ⟨f,a⟩=>⟨_,_,_,_,_,_,_,_,_,_,f,zh a λg w a=>?_⟩;have l:qg6 (Row g 112 (q43 ((q59 c ten).getD q99))::Row b 158 (qx3 c++[.map (A3 m)])::qg kkV (Zi Zk) m R::F) ((q59 c ten).getD q99):=(((qg6.found j ten).cons _).cons _).cons _;refine St1.zz 0 a rfl λw a=>St1.zz 0 a rfl λw a=>St1.zz 0 a rfl λw a=>St1.zz 0 a rfl λw a=>St1.zz 0 a rfl λw a=>?_;refine zg 0 a rfl rfl (z8 0 a rfl rfl (z8 0 a rfl rfl (zr 0 a rfl rfl (zr 0 a rfl rfl ?_))));refine(qeq tok l a).of λv w ⟨f,a⟩=>⟨_,_,_,_,f,zh a λi w a=>?_⟩;refine St1.zz 0 a rfl λw a=>St1.zz 0 a rfl λw a=>St1.zz 0 a rfl λw a=>?_;have hV:∀w,St W (Row i 114 (q44 ((q7e c ten tok).getD qor))::Row g 112 (q43 ((q59 c ten).getD q99))::Row b 158 (qx3 c++[.map (A3 m)])::qg kkV (Zi Zk) m R::F) w->St W (qg1 b c R::F) w:=λw h=>qg1.shut m h.drop.drop;have a:St W (Row i 114 (q44 ((q7e c ten tok).getD qor))::Row g 112 (q43 ((q59 c ten).getD q99))::Row b 158 (qx3 c++[.map (A3 m)])::qg kkV (Zi Zk) m R::F) w:=a;unfold q7e at e d hV a;cases h:q8j ((q59 c ten).getD q99) tok with
 |none=>exact zm rfl ⟨rfl,d h w (hV w a)⟩
 |some t=>rw[h]at hV a;exact zn rfl (zg 0 a rfl rfl (zg 0 a rfl rfl (z8 0 a rfl rfl (e t h w _ (hV w a) λw' n=>⟨rfl,rfl,n⟩))))
def qqd(c:qy)(R:qva)(ten tok:ByteArray)(now:Int):Bool:=match q7e c ten tok with|none=>A4|some t=>((qe R (ten,tok)).getD 0==0)&&decide (now<t.til)
def q2u{ten tok:ByteArray}{now:Int}(r:ql1 F c)(a:St W (qg1 b c R::F) w):qb Zp 348 #[qc b,Zs ten,Zs tok,Zi Zk now] w λv w'=>v=Zb (qqd c R ten tok now)/\St W (qg1 b c R::F) w':=by
 refine F348_of (zh a λj w a=>zh a λk w a=>zh a λi w a=>zh a λl w a=>zh a λf w a=>z0n 0 a rfl (by simp) λw a=>?_);have a:St W (Row f 4 [Zb A4]::Row l 2 [Zi Zk now]::Row i 9 [Zs tok]::Row k 9 [Zs ten]::Row j 90 [qc b]::qg1 b c R::F) w:=a;refine LdP.n 4 a rfl rfl (LdS.n 3 a rfl rfl (LdS.n 2 a rfl rfl ?_));have a:=zf 5 0 a rfl;refine(qcf (Q:=λw=>St W (Row f 4 [Zb (qqd c R ten tok now)]::qg1 b c R::F) w) (F:=Row f 4 [Zb A4]::Row l 2 [Zi Zk now]::Row i 9 [Zs tok]::Row k 9 [Zs ten]::Row j 90 [qc b]::F) (((((r.cons _).cons _).cons _).cons _).cons _) (λt o w K a u=>?_) (λy w a=>?_) a).of λv w ⟨s,a⟩=>⟨s,LdB.n 0 a rfl rfl ⟨rfl,a.drop⟩⟩
 .obtain⟨m,a⟩:=qg1.open_ a;have q:qb Zp 380 #[Zg #[Zs t.name,Zs t.secret,Zi Zk t.til],qc j,qc k,qc i,qc l,qc f] w K:=by
   refine F380_of (zh a λp w a=>?_);have d:=z6 W (Row p 114 (q44 t)::Row b 158 (qx3 c++[.map (A3 m)])::qg kkV (Zi Zk) m R::Row f 4 [Zb A4]::Row l 2 [Zi Zk now]::Row i 9 [Zs tok]::Row k 9 [Zs ten]::Row j 90 [qc b]::F);refine⟨StC W _,zd a,_,zy 7 d rfl rfl,z7 ⟨_,z0a 1 d rfl rfl,_,QtS.n 6 d rfl rfl,_,QtS.n 5 d rfl rfl,(qe R (ten,tok)).getD 0,λG w h=>?_,?_⟩⟩
   .refine q6e kKK uMv iIn zIn 2 ((d G w).1 h) rfl (ten,tok) A4 ?_;have e:((qe R (ten,tok)).map (Zi Zk)).getD (Zi Zk 0)=Zi Zk ((qe R (ten,tok)).getD 0):=by cases qe R (ten,tok)<;>rfl
    rw[yA (by simp),e];exact⟨_,rfl,rfl,h⟩
   .have g:∀x w',St W (Row p 114 (q44 t)::Row b 158 (qx3 c++[.map (A3 m)])::qg kkV (Zi Zk) m R::Row f 4 [Zb x]::Row l 2 [Zi Zk now]::Row i 9 [Zs tok]::Row k 9 [Zs ten]::Row j 90 [qc b]::F) w'->x=qqd c R ten tok now->K (Zt #[]) w':=λx w' h e=>u w' (by subst e;exact(qg1.shut m (zl 8 [1,2,3] h rfl)).p1)
    refine za (λn=>⟨_,z02 4 d rfl rfl,_,zi 0 d rfl rfl,Ef.st 3 d rfl (by simp) ⟨rfl,trivial,λG w h=>g _ w (zb h) ?_⟩⟩) λn=>Ef.st 3 d rfl (by simp) ⟨rfl,trivial,λG w h=>g _ w (zb h) ?_⟩;.unfold qqd;rw[o];dsimp only;rw[n];rfl
    .unfold qqd;rw[o];dsimp only;rw[n];rfl
  exact zw (by kernel_rfl) q
 .unfold qqd;rw[y];exact zl 6 [1,0] a rfl
def qv7(c:qy)(R:qva)(ten tok:ByteArray):qva×Bool:=match q7e c ten tok with
 |none=>(R,A4)
 |some _=>(qk R (ten,tok) (Zw Zk ((qe R (ten,tok)).getD 0+1)),Zw Zk ((qe R (ten,tok)).getD 0+1)==1)
def q7o{ten tok:ByteArray}(r:ql1 F c)(a:St W (qg1 b c R::F) w):qb Zp 130 #[qc b,Zs ten,Zs tok] w λv w'=>v=Zb (qv7 c R ten tok).2/\St W (qg1 b c (qv7 c R ten tok).1::F) w':=by
 refine F130_of (zh a λg w a=>zh a λo w a=>zh a λl w a=>zh a λf w a=>z0n 0 a rfl (by simp) λw a=>?_);have a:St W (Row f 4 [Zb A4]::Row l 9 [Zs tok]::Row o 9 [Zs ten]::Row g 90 [qc b]::qg1 b c R::F) w:=a;refine LdP.n 3 a rfl rfl (LdS.n 2 a rfl rfl (LdS.n 1 a rfl rfl ?_));have a:=zf 4 0 a rfl;refine(qcf (Q:=λw=>St W (Row f 4 [Zb (qv7 c R ten tok).2]::qg1 b c (qv7 c R ten tok).1::F) w) (F:=Row f 4 [Zb A4]::Row l 9 [Zs tok]::Row o 9 [Zs ten]::Row g 90 [qc b]::F) ((((r.cons _).cons _).cons _).cons _) (λt s w K a u=>?_) (λj w a=>?_) a).of λv w ⟨k,a⟩=>⟨k,LdB.n 0 a rfl rfl ⟨rfl,a.drop⟩⟩
 .obtain⟨m,a⟩:=qg1.open_ a;have q:qb Zp 207 #[Zg #[Zs t.name,Zs t.secret,Zi Zk t.til],qc o,qc l,qc g,qc f] w K:=by
   refine F207_of (zh a λy w a=>LdS.n 5 a rfl rfl (LdS.n 4 a rfl rfl (zh a λi w a=>⟨rfl,StA.r 0 a rfl rfl (λv k=>by simp at k;rcases k with rfl|rfl<;>trivial) λw a=>?_⟩)));have a:St W (Row i 326 [Zs ten,Zs tok]::Row b 158 (qx3 c++[.map (A3 m)])::qg kkV (Zi Zk) m R::Row f 4 [Zb A4]::Row g 90 [qc b]::F) w:=zl 8 [0,2,3,4,7] a rfl;have e:∀L:qva,((qe L (ten,tok)).map (Zi Zk)).getD (Zi Zk 0)=Zi Zk ((qe L (ten,tok)).getD 0):=λL=>by cases qe L (ten,tok)<;>rfl
   have d:=z6 W (Row i 326 [Zs ten,Zs tok]::Row b 158 (qx3 c++[.map (A3 m)])::qg kkV (Zi Zk) m R::Row f 4 [Zb A4]::Row g 90 [qc b]::F);refine⟨StC W _,zd a,_,zy 4 d rfl rfl,z7 ⟨_,z0a 1 d rfl rfl,#[Zs ten,Zs tok],rfl,QtA.r 0 d rfl rfl,(qe R (ten,tok)).getD 0,λG w h=>?_,?_⟩⟩
   .refine q6e kKK uMv iIn zIn 2 ((d G w).1 h) rfl (ten,tok) A4 ?_;rw[yA (by simp),e];exact⟨_,rfl,rfl,h⟩
   generalize j:(qe R (ten,tok)).getD 0=n;refine zk (α:=Nat) (V:=λt=>Zt #[Zi Zk n,Zi Zk (t:Int)]) (B:=λt=>qs6 kkV (Zi Zk) m (qk R (ten,tok) n) (ten,tok) t::Row i 326 [Zs ten,Zs tok]::Row b 158 (qx3 c++[.map (A3 m)])::Row f 4 [Zb A4]::Row g 90 [qc b]::F) 0 d (λG w h=>?_) λp=>⟨_,_,rfl,λG w h=>?_,?_⟩
   .refine qve kKK uMv (z:=0) iIn zIn 2 h rfl (ten,tok) λp w h=>⟨_,_,rfl,p,?_,?_⟩;.rw[j]
    .rw[j]at h;exact zf 2 0 h rfl
   .have x:=(zb h).imp λh=>qs6.weak;refine q6e kKK uMv iIn zIn 0 x rfl (ten,tok) A4 ?_;rw[yA (by simp),e,qj1];exact⟨_,rfl,rfl,h⟩
   refine zk (α:=Unit) (V:=λt=>Zt #[]) (B:=λt=>qg kkV (Zi Zk) m (qk R (ten,tok) (Zw Zk (n+1)))::Row i 326 [Zs ten,Zs tok]::Row b 158 (qx3 c++[.map (A3 m)])::Row f 4 [Zb A4]::Row g 90 [qc b]::F) () ir (λG w h=>?_) λ_=>⟨rfl,trivial,λG w h=>?_⟩
   .refine qvb (vl:=Zi Zk) kKK (qj1 _ _ _) (Zw Zk (n+1)) 0 h rfl λw h=>⟨(),rfl,?_⟩;rw[qe7]at h;exact h
   have a:=zb h;have d:=z6 W (qg kkV (Zi Zk) m (qk R (ten,tok) (Zw Zk (n+1)))::Row i 326 [Zs ten,Zs tok]::Row b 158 (qx3 c++[.map (A3 m)])::Row f 4 [Zb A4]::Row g 90 [qc b]::F);refine⟨StC W _,zd a,_,zy 4 d rfl rfl,z7 ⟨_,z0a 2 d rfl rfl,#[Zs ten,Zs tok],rfl,QtA.r 1 d rfl rfl,Zw Zk (n+1),λG w h=>?_,?_⟩⟩
   .refine q6e kKK uMv iIn zIn 0 ((d G w).1 h) rfl (ten,tok) A4 ?_;rw[yA (by simp),e,qj1];exact⟨_,rfl,rfl,h⟩
   refine Ef.st 3 d rfl (by simp) ⟨rfl,trivial,λG w h=>u w ?_⟩;have h:=zb h;unfold qv7;rw[s];dsimp only;rw[j];exact(qg1.shut m (zl 5 [2,0,3] h rfl)).p1
  exact zw (by kernel_rfl) q
 .unfold qv7;rw[j];exact zl 5 [1,0] a rfl
def qza(c:qy)(ten tok nonce:ByteArray):ByteArray:=match q7e c ten tok with
 |none=>⟨#[]⟩
 |some t=>mkS (q07 (qm t.secret) [qm ten,qm tok,qm nonce])
def qls{ten tok nonce:ByteArray}(n:ql1 F c)(a:St W (qg1 b c R::F) w):qb Zp 349 #[qc b,Zs ten,Zs tok,Zs nonce] w λv w'=>v=Zs (qza c ten tok nonce)/\St W (qg1 b c R::F) w':=by
 refine F349_of (zh a λj w a=>zh a λf w a=>zh a λl w a=>zh a λd w a=>z0n 0 a rfl (by simp) λw a=>?_);have a:St W (Row d 9 [Zs ⟨#[]⟩]::Row l 9 [Zs nonce]::Row f 9 [Zs tok]::Row j 9 [Zs ten]::qg1 b c R::F) w:=a;refine LdS.n 3 a rfl rfl (LdS.n 2 a rfl rfl ?_);have a:=zf 4 0 a rfl;refine(qcf (Q:=λw=>St W (Row d 9 [Zs (qza c ten tok nonce)]::qg1 b c R::F) w) (F:=Row d 9 [Zs ⟨#[]⟩]::Row l 9 [Zs nonce]::Row f 9 [Zs tok]::Row j 9 [Zs ten]::F) ((((n.cons _).cons _).cons _).cons _) (λt m w K a q=>?_) (λr w a=>?_) a).of λv w ⟨g,a⟩=>⟨g,LdS.n 0 a rfl rfl ⟨rfl,a.drop⟩⟩
 .have e:(qm t.secret).length<=9223372036854775807:=(qg6.found n ten).sb t (Ay (by unfold q7e q8j at m;exact m));have o:qb Zp 381 #[Zg #[Zs t.name,Zs t.secret,Zi Zk t.til],qc j,qc f,qc l,qc d] w K:=by refine F381_of (zh a λy w a=>zg 0 a rfl rfl ?_);rw[show t.secret=mkS (qm t.secret)by unfold qm;rw[qd5]];refine qcb uS uB uU8 a λs x w p a=>⟨_,_,_,rfl,LdS.n 6 a rfl rfl (LdS.n 5 a rfl rfl (LdS.n 4 a rfl rfl (zh a λu w a=>?_)))⟩;refine(qqe (k:=qm t.secret) (ws:=[qm ten,qm tok,qm nonce]) (Rd.cons (z0z 0 λi v h=>by rw[Af,A7 (A1.1 h).1];exact h) _) p e (by simp only[List.map_cons,List.map_nil,qc8,qm,qd5];exact z0m) (by simp) a).of λv w ⟨g,a⟩=>⟨_,g,?_⟩;have a:St W (qg1 b c R::Row d 9 [Zs ⟨#[]⟩]::F) w:=zl 8 [3,4] a rfl;refine z0n 1 a rfl (by simp) λw a=>q w ?_;unfold qza;rw[m];exact a.p1
  exact zw (by kernel_rfl) o
 .unfold qza;rw[r];exact zl 5 [1,0] a rfl
def qfb(c:qy)(R:qva)(ten tok nonce proof:ByteArray)(now:Int):Int:=
 if qqd c R ten tok now=A4 then 3 else if qza c ten tok nonce=⟨#[]⟩then 101 else if qza c ten tok nonce=proof then 0 else 101
def qpu(c:qy)(ten tok nonce:ByteArray):(qza c ten tok nonce).size<=64:=by
 unfold qza;split;.decide
 .rw[qf1];unfold q07;split;.rw[qyb,qke];omega
  .simp
def qup{ten tok nonce d:ByteArray}{now:Int}(o:ql1 F c)(f:St W (qg1 b c R::F) w):qb Zp 313 #[qc b,Zs ten,Zs tok,Zs nonce,Zs d,Zi Zk now] w λv w'=>v=Zi Zk (qfb c R ten tok nonce d now)/\St W (qg1 b c R::F) w':=by
 unfold qfb;refine F313_of ((q2u o f).of λv w ⟨g,f⟩=>⟨_,g,za (λh=>?_) λh=>?_⟩);.rw[yB (by simpa using h)];exact⟨rfl,f⟩
 rw[yA (by simpa using h)];refine(qls o f).of λv w ⟨g,f⟩=>⟨_,g,?_⟩;have m:=qpu c ten tok nonce;generalize qza c ten tok nonce=x at m⊢;dsimp only;rw[qrc];refine za (λk=>?_) λk=>?_;.rw[yB (yC k)];exact⟨rfl,f⟩
 rw[yA (yD k)];have e:∀s:ByteArray,s=mkS (qm s):=λs=>by unfold qm;rw[qd5]
 obtain⟨x,rfl⟩:∃l,x=mkS l:=⟨_,e x⟩;obtain⟨d,rfl⟩:∃l,d=mkS l:=⟨_,e d⟩;rw[qf1]at m;refine qcb uS uB uU8 f λq u w t f=>⟨_,_,_,rfl,qcb uS uB uU8 f λr y w p f=>⟨_,_,_,rfl,?_⟩⟩;refine(qos (a:=x) (b:=d) (Rd.cons (z0z 0 λi v h=>by rw[Af,A7 (A1.1 h).1];exact h) _) (z0z 0 λi v h=>by rw[Af,A7 (A1.1 h).1];exact h) (by omega) f).of λv w ⟨g,f⟩=>⟨_,g,?_⟩;have n:mkS x=mkS d↔x=d:=⟨λh=>by have:=yE qm h;simpa [qm,mkS]using this,λh=>by rw[h]⟩;refine za (λj=>?_) λj=>?_;.rw[yA (λh=>by rw[yG (n.1 h)]at j;cases j)];exact⟨rfl,f.drop.drop⟩
 .rw[yB (n.2 (by simpa using j))];exact⟨rfl,f.drop.drop⟩
end
end
def q3l:List Int:=[16,3,1,1,0,4,5,13,13,5,5,3,2,0,1]
def qj4(n:Int):Int:=if n<0 then 16 else if n>14 then 16 else q3l.getD n.toNat 0
def uK:Zp.underlying 273=A3 (.array 15 3):=Tryz.underlying273
def q501:Zp.info? 3=A3 Tryz.t3:=by kernel_rfl
def q8q{W w:A6}{F:List Asn}(h:St W F w):qb Zp 160 #[] w λv w'=>v=Zg (q3l.map (Zi Zk)).toArray/\St W F w':=by refine F160_of (zh h λb w h=>⟨rfl,StA.r 0 h rfl rfl (λv a=>?_) λw h=>LdA.r 0 h rfl rfl ⟨rfl,h.drop⟩⟩);simp at a;rcases a with rfl|rfl|rfl|rfl|rfl|rfl|rfl|rfl|rfl|rfl|rfl|rfl|rfl|rfl|rfl<;>trivial
def q3z{P:Program}{t e:TypeId}{N:Nat}{d:TypeDesc}{h:TypeInfo}(f:P.underlying t=A3 (.array N e))(i:P.underlying e=A3 d)(a:qed d=A4)(g:P.info? e=A3 h)(j:h.size=1){cs:Array A8}{k:Nat}(b:k<N){v:A8}(c:cs[k]?=A3 v)(w:A6):
 Sem.run P (Instr.index t (Zg cs) (Zi Zk (k:Int))) w=.ok v w:=by
 have l:(0:Int)<=(k:Int)/\(k:Int)<(N:Int):=⟨by omega,by omega⟩;simp[Instr.index,asIntOf,run_underlying f,b,qz3 g,j,part,qhc i,a,c]
def qlf{W w:A6}{F:List Asn}(n:Int)(b:St W F w):qb Zp 98 #[Zi Zk n] w λv w'=>v=Zi Zk (qj4 n)/\St W F w':=by
 refine F98_of (za (λh=>?_) λh=>za (λa=>?_) λa=>?_)
 .have h:=yC h;unfold qj4;rw[yB h];exact⟨rfl,b⟩
 .have h:=yD h;have a:=yC a;unfold qj4;rw[yA h,yB a];exact⟨rfl,b⟩
 have h:=yD h;have a:=yD a;obtain⟨k,rfl⟩:=Int.eq_ofNat_of_zero_le (Int.not_lt.1 h);refine(q8q b).of λv w ⟨c,b⟩=>⟨_,rfl,c,_,λw=>q3z uK uInt rfl q501 rfl (by omega) (v:=Zi Zk (q3l.getD k 0)) (by rw[List.getElem?_toArray,A5,List.getD_eq_getElem?_getD,A0 (show k<q3l.length by show k<15;omega)];rfl) w,_,rfl,?_⟩;unfold qj4;rw[yA h,yA a];exact⟨rfl,b⟩
def qzh(s:ByteArray)(has:Bool):Bool:=if(s.size:Int)<=64 then(if has=Ae then Ae else(Bm s==Bm ⟨#[]⟩))else A4
def qek{W w:A6}{F:List Asn}(s:ByteArray)(has:Bool)(a:St W F w):qb Zp 158 #[Zs s,Zb has] w λv w'=>v=Zb (qzh s has)/\St W F w':=by
 refine F158_of (za (λh=>za (λb=>?_) λb=>?_) λh=>?_)<;>unfold qzh;.rw[yB (yC h),yB b];exact⟨rfl,a⟩
 .rw[yB (yC h),yA (by rw[b];simp)];exact⟨rfl,a⟩
 .rw[yA (yD h)];exact⟨rfl,a⟩
def q2g(n:Int)(has:Bool):Bool:=if n>=0 then(if n<=1099511627776 then(if has=Ae then Ae else n==0)else A4)else A4
def qmg{W w:A6}{F:List Asn}(n:Int)(has:Bool)(a:St W F w):qb Zp 159 #[Zi Zk n,Zb has] w λv w'=>v=Zb (q2g n has)/\St W F w':=by
 refine F159_of (za (λh=>za (λb=>za (λc=>?_) λc=>?_) λb=>?_) λh=>?_)<;>unfold q2g;.rw[yB (yC h),yB (yC b),yB c];exact⟨rfl,a⟩
 .rw[yB (yC h),yB (yC b),yA (by rw[c];simp)];exact⟨rfl,a⟩
 .rw[yB (yC h),yA (yD b)];exact⟨rfl,a⟩
 .rw[yA (yD h)];exact⟨rfl,a⟩
def qhf(x b:Int):Bool:=decide ((Zw Zk ↑((Ag (Ab Zk) x&&& Ag (Ab Zk) b).toNat))>0)
def qz6(m:qk1):Bool:=(qj4 m.k != 16)&&(qzh m.A (qhf (qj4 m.k) 1)&&(qzh m.B (qhf (qj4 m.k) 2)&&(q2g m.N (qhf (qj4 m.k) 4)&&q2g m.M (qhf (qj4 m.k) 8))))
def qti{W w:A6}{F:List Asn}(m:qk1)(a:St W F w):qb Zp 95 #[ql2 m] w λv w'=>v=Zb (qz6 m)/\St W F w':=by
 refine F95_of (zh a λb w a=>z8 0 a rfl rfl ((qlf m.k a).of λv w ⟨c,a⟩=>⟨_,c,?_⟩));unfold qz6;refine za (λh=>zg 0 a rfl rfl ((qek m.A (qhf (qj4 m.k) 1) a).of λv w ⟨c,a⟩=>⟨_,c,?_⟩)) λh=>by rw[h];exact⟨rfl,a.drop⟩
 rw[h,Ad];refine za (λh=>zg 0 a rfl rfl ((qek m.B (qhf (qj4 m.k) 2) a).of λv w ⟨c,a⟩=>⟨_,c,?_⟩)) λh=>by rw[h];exact⟨rfl,a.drop⟩
 rw[h,Ad];refine za (λh=>z8 0 a rfl rfl ((qmg m.N (qhf (qj4 m.k) 4) a).of λv w ⟨c,a⟩=>⟨_,c,?_⟩)) λh=>by rw[h];exact⟨rfl,a.drop⟩
 rw[h,Ad];refine za (λh=>z8 0 a rfl rfl ((qmg m.M (qhf (qj4 m.k) 8) a).of λv w ⟨c,a⟩=>⟨_,c,?_⟩)) λh=>by rw[h];exact⟨rfl,a.drop⟩
 rw[h,Ad];exact⟨rfl,a.drop⟩
def q2h(k:Int)(i:Nat):Bool:=(Zw Zk ↑((Ag (Ab Zk) (Int.fdiv k (2 ^ min (B2 (i:Int)) (Ab Zk)))&&& Ag (Ab Zk) 1).toNat))==1
def qa1(m:qk1):Nat->List UInt8
 |0=>q25 (qm m.A)
 |1=>q25 (qm m.B)
 |2=>qzc m.N
 |_=>qzc m.M
def qq3(m:qk1)(i:Nat):List UInt8:=(Bv i).foldl (λout i=>if q2h (qj4 m.k) i=Ae then out++qa1 m i else out) [qi5 m.k]
def q0d(m:qk1):List UInt8:=if qz6 m=Ae then qq3 m 4 else []
def qkg(m:qk1)(i:Nat):qq3 m (i+1)=if q2h (qj4 m.k) i=Ae then qq3 m i++qa1 m i else qq3 m i:=by unfold qq3;rw[List.range_succ,List.foldl_append];rfl
def qcl(n:Int):(qzc n).length<=6:=by
 unfold qzc;split;.simp
 .have:=qnf n 6;split;.simp
  .simp;omega
def q6p{m:qk1}(h:qz6 m=Ae):m.A.size<=64/\m.B.size<=64:=by
 unfold qz6 at h;simp only[Ai]at h;obtain⟨_,a,w,_⟩:=h;unfold qzh at a w;split at a
 .split at w;.omega
  .cases w
 .cases a
def q2n{m:qk1}(h:qz6 m=Ae)(i:Nat):(qa1 m i).length<=65:=by
 obtain⟨e,a⟩:=q6p h;have c:=qfe m.A;have w:=qfe m.B;have b:=qcl m.N;have d:=qcl m.M
 match i with
 |0=>simp[qa1,q25];omega
 |1=>simp[qa1,q25];omega
 |2=>simp[qa1];omega
 |i+3=>simp[qa1];omega
def q8i{m:qk1}(h:qz6 m=Ae):∀i,(qq3 m i).length<=1+65*i
 |0=>by simp[qq3]
 |i+1=>by
  rw[qkg];have:=q8i h i;have:=q2n h i;split;.rw[Bf];omega
  .omega
end Go.Proofs.YtfjifcfbmhpcaaaGreatDoor
