/-
  A part of the proof of TopEcho.
-/
import Derived.Test.YtfjifcfbmhpcaaaGreatDoorE17
import Derived.Test.YtfjifcfbmhpcaaaGreatDoorE16
import Derived.Test.YtfjifcfbmhpcaaaGreatDoorE15
import Derived.Test.YtfjifcfbmhpcaaaGreatDoorE14
import Derived.Test.YtfjifcfbmhpcaaaGreatDoorE00
set_option linter.defProp false
set_option linter.unusedVariables false
set_option linter.unusedSimpArgs false
namespace Go.Proofs.YtfjifcfbmhpcaaaGreatDoor
open Go
open Go.Proofs.Tryz renaming prog → Zp
open Go.IntKind renaming i64 → Zk, wrap → Zw
open Go.Value renaming int → Zi, string → Zs, pointer → Zq, bool → Zb, tuple → Zt, slice → Zl, agg → Zg
open _root_.List renaming getElem?_eq_getElem->A0,getElem?_eq_some_iff->A1,getElem?_map->A5,getElem?_append_left->A7,mem_of_getElem?->A8,take_of_length_le->Aa,all_eq_true->Ad,getElem?_take->Ae,findIdx?_eq_some_iff_getElem->Ag,take_add_one->Ai,length_take->Am,take_append_of_le_length->Ao,mem_append->Ap,getElem?_append_right->As,getElem?_drop->Au,findIdx?_eq_none_iff->Av,mem_of_find?_eq_some->Aw,size_toArray->Ax,all_eq_false->Ay,take_length->B0,length_drop->B1,length_mergeSort->B7,length_pos_iff->Bd,ext_getElem?->Bf,length_cons->Bj,length_map->Bm,mem_cons->Bn,mem_map->Bq
open Go.Lib renaming setCells->A2,join->Bb,pow10Tab->Bg,itoa->Bs,TabIs->Bu
open _root_.Option renaming some->A3,none->Bh,map_some->Bl
open _root_.Bool renaming false->A4,true->Af,and_eq_true->An,true_and->Az
open Go renaming World->A6,Value->A9,Addr->Be
open _root_.Array renaming getElem?_toList->Ab,getElem?_eq_none->B3,replicate->B5,getElem?_modify->B6,getElem?_mapIdx->B9
open _root_.Nat renaming zero_add->Ac,le_trans->B2,mul_one->Ba,lt_of_not_le->Bi,sub_zero->Bo,zero_le->Br
open _root_.Int renaming toNat_natCast->Ah,toNat->Bc
open _root_.ByteArray renaming size_append->Aj,data_extract->Bp,extract->Bt,size->Bv
open Go.Calls renaming mono->Ak
open _root_.UInt8 renaming toNat_inj->Aq
open Go.IntKind renaming bits->Ar
open _root_.BitVec renaming ofInt->B4
def St.below_{W w w':A6}{l:List Asn}(h:St W l w)(a:RowKit.Below w.heap.size w w'):St W l w':=by refine⟨⟨a.os.trans h.1.os,a.tape.trans h.1.tape,a.output.trans h.1.output,B2 h.1.size a.size⟩,z0z (λb o c=>?_) h.2⟩;have c:w.heap[b]?=A3 o:=c;exact(a.block b (qr6 c)).trans c
def St.grow_{W w:A6}{l:List Asn}(h:St W l w)(k:Nat)(os:Array Obj):St W l (Sort.grow (w.drewN k) os):=by refine⟨⟨h.1.os,h.1.tape,h.1.output,by have:=h.1.size;simp[Sort.grow,World.drewN];omega⟩,z0z (λb o a=>?_) h.2⟩;have a:w.heap[b]?=A3 o:=a;show(w.heap++os)[b]?=A3 o;rw[Array.getElem?_append_left (qr6 a)];exact a
def St.turnRow{W w:A6}{r:List Asn}{b:Nat}{t:TypeId}{cs d:List A9}{g:Array A9->Array A9}(h:St W (Row b t cs::r) w)(p:∀c:Array A9,c.toList=cs->(g c).toList=d)(A:d.length=cs.length):St W (Row b t d::r) (Sort.mapBlock w b g):=by
 obtain⟨k,h,m,⟨c,l,n,z,s⟩,y⟩:=h;have o:w.heap[b]?=A3 (.cells c t l):=m b _ n;have q:b<w.heap.size:=qr6 o;refine⟨⟨k.os,k.tape,k.output,by simpa [Sort.mapBlock]using k.size⟩,λx=>if x=b then A3 (.cells (g c) t l)else h x,λx u a=>?_,⟨g c,l,by simp,p c z,λi B=>s i (by rw[<-A];exact B)⟩,z0z (λx u a=>?_) y⟩
 .simp only at a;show(w.heap.modify b (Sort.onCells g))[x]?=A3 u;rw[B6];split at a;.rename_i e;subst e;cases a;rw[yB rfl,o];rfl
  .rename_i e;rw[yA (λh=>e h.symm)];exact m x u a
 .unfold qh6 at a⊢;cases j:h x with
  |some v=>simp[j]at a
  |none=>
   simp only[j]at a;have f:¬x=b:=λe=>by subst e;rw[n]at j;cases j
   simp only[yA f,j];show(w.heap.modify b (Sort.onCells g))[x]?=A3 u;rw[B6,yA (λh=>f h.symm)];exact a
def qi.opened{t:TypeId}{size:Nat}{p:Option Be}{n c:Nat}{cs:List A9}{W w:A6}{l:List Asn}(r:0<n)(h:St W (qi t size p n c cs::l) w):∃q all,p=A3 ⟨q,0,Bh⟩/\all.length=c*size/\all.take (n*size)=cs/\St W (Row q t all::l) w:=by
 obtain⟨d,g,e,⟨o,m,b⟩,a⟩:=h;rcases b with rfl|⟨q,all,j,f,k,i⟩;.omega
 .exact⟨q,all,j,f,k,d,g,e,i,a⟩
def q1r{W w:A6}{F:List Asn}{p:Option Be}{c:Nat}{zs:List Int}(R:zs.length<=1000000)(z:St W (qi 3 1 p zs.length c (zs.map (Zi Zk))::F) w):
 qb Zp 64 #[Zl p zs.length c] w λv w'=>v=Zt #[]/\St W (qi 3 1 p zs.length c ((zs.mergeSort λx y=>decide (x<=y)).map (Zi Zk))::F) w':=by
 by_cases H:zs=[]
 .subst H;exact Ak (Tryz.slices_Sort_int_none p c w) λe w' ⟨r,C⟩=>⟨_,r,rfl,by subst C;simpa using z⟩
 have E:0<zs.length:=Bd.2 H;obtain⟨q,all,O,A,k,b⟩:=qi.opened (by omega) z;subst O;rw[Ba]at A k;have s:zs.length<=c:=(qi.le z).2;have Q:Sort.Holds (Zi Zk) w q 0 (zs).toArray:=λj u=>by
  have g:j<zs.length:=by simpa using u
  have I:zs[j]?=A3 zs[j]:=A0 g;have L:all[j]?=A3 ((Zi Zk) zs[j]):=by
   have G:(all.take zs.length)[j]?=A3 ((Zi Zk) zs[j]):=by rw[k,A5,I];rfl
   rw[Ae,yB g]at G;exact G
  have K:=b.st (i:=j) (by omega) (Zb Af);have l:=b.ld L;rw[Ac];refine⟨?_,K.1.2⟩;rw[l];congr 1;simp[getElem!_pos,g]
 have o:q<w.heap.size:=by have l:=b.ld (i:=0) (A0 (by omega));refine Bi λm=>?_;unfold World.cell? at l;simp[B3 m]at l
 have a:(zs).length=zs.length:=by simp
 have key:=Tryz.slices_Sort_int q 0 c (zs) w Q o (by rw[a];omega);rw[a]at key;refine Ak key λe w' ⟨r,n,os,C⟩=>⟨_,r,rfl,?_⟩;subst C;have d:((zs).mergeSort λx y=>decide (x<=y)).length=zs.length:=by rw[B7,a]
 have N:St W (Row q 3 ((zs.mergeSort λx y=>decide (x<=y)).map (Zi Zk)++all.drop zs.length)::F) (Sort.putRow (Zi Zk) (Sort.ahead w n) q 0 ((zs).mergeSort λx y=>decide (x<=y)).toArray):=by
  refine St.turnRow (cs:=all) (w:=Sort.ahead w n) ⟨⟨b.1.os,b.1.tape,b.1.output,b.1.size⟩,b.2⟩ (λP D=>?_) ?_
  .refine Bf λj=>?_;unfold Sort.putCells;rw[Ab,B9];have B:P[j]?=all[j]?:=by rw[<-D,Ab]
   rw[B];by_cases u:j<zs.length
   .rw[A7 (by simp[d,a];omega),A0 (show j<all.length by omega)];have f:j<((zs).mergeSort λx y=>decide (x<=y)).length:=by omega
    simp only[Bl,Br,yL,Ac,Ax,f,if_true,Bo];rw[A5,A0 f];simp[f];rw[A0 f];rfl
   .rw[As (by simp[d,a];omega),Au];have f:¬j<((zs).mergeSort λx y=>decide (x<=y)).length:=by omega
    have e:zs.length+(j -((zs.mergeSort λx y=>decide (x<=y)).map (Zi Zk)).length)=j:=by simp[d,a];omega
    rw[e];cases all[j]? with
    |none=>rfl
    |some v=>simp[f];exact λh=>(u h).elim
  .simp[d,a];omega
 have M:=z0v (t:=3) (size:=1) (c:=c) (n:=zs.length) (cs:=(zs.mergeSort λx y=>decide (x<=y)).map (Zi Zk)) (by simp[d,a];omega) s (by rw[Ba,Ao (by simp[d,a]),Aa (by simp[d,a])]) N;have J:=M.grow_ 0 os;exact J
def qvr{W w:A6}{F:List Asn}{p:Option Be}{c:Nat}{zs:List (List UInt8)}(R:zs.length<=1000000)(z:St W (qi 9 1 p zs.length c (zs.map qc8)::F) w):
 qb Zp 238 #[Zl p zs.length c] w λv w'=>v=Zt #[]/\St W (qi 9 1 p zs.length c ((zs.mergeSort λx y=>decide (x<=y)).map qc8)::F) w':=by
 by_cases H:zs=[]
 .subst H;exact Ak (Tryz.slices_Sort_string_none p c w) λe w' ⟨r,C⟩=>⟨_,r,rfl,by subst C;simpa using z⟩
 have E:0<zs.length:=Bd.2 H;obtain⟨q,all,O,A,k,b⟩:=qi.opened (by omega) z;subst O;rw[Ba]at A k;have s:zs.length<=c:=(qi.le z).2;have Q:Sort.Holds encStr w q 0 (zs).toArray:=λj u=>by
  have g:j<zs.length:=by simpa using u
  have I:zs[j]?=A3 zs[j]:=A0 g;have L:all[j]?=A3 (qc8 zs[j]):=by
   have G:(all.take zs.length)[j]?=A3 (qc8 zs[j]):=by rw[k,A5,I];rfl
   rw[Ae,yB g]at G;exact G
  have K:=b.st (i:=j) (by omega) (Zb Af);have l:=b.ld L;rw[Ac];refine⟨?_,K.1.2⟩;rw[l];congr 1;simp[getElem!_pos,g];rfl
 have o:q<w.heap.size:=by have l:=b.ld (i:=0) (A0 (by omega));refine Bi λm=>?_;unfold World.cell? at l;simp[B3 m]at l
 have a:(zs).length=zs.length:=by simp
 have key:=Tryz.slices_Sort_string q 0 c (zs) w Q o (by rw[a];omega);rw[a]at key;refine Ak key λe w' ⟨r,n,os,C⟩=>⟨_,r,rfl,?_⟩;subst C;have d:((zs).mergeSort λx y=>decide (x<=y)).length=zs.length:=by rw[B7,a]
 have N:St W (Row q 9 ((zs.mergeSort λx y=>decide (x<=y)).map qc8++all.drop zs.length)::F) (Sort.putRow encStr (Sort.ahead w n) q 0 ((zs).mergeSort λx y=>decide (x<=y)).toArray):=by
  refine St.turnRow (cs:=all) (w:=Sort.ahead w n) ⟨⟨b.1.os,b.1.tape,b.1.output,b.1.size⟩,b.2⟩ (λP D=>?_) ?_
  .refine Bf λj=>?_;unfold Sort.putCells;rw[Ab,B9];have B:P[j]?=all[j]?:=by rw[<-D,Ab]
   rw[B];by_cases u:j<zs.length
   .rw[A7 (by simp[d,a];omega),A0 (show j<all.length by omega)];have f:j<((zs).mergeSort λx y=>decide (x<=y)).length:=by omega
    simp only[Bl,Br,yL,Ac,Ax,f,if_true,Bo];rw[A5,A0 f];simp[f];rw[A0 f];rfl
   .rw[As (by simp[d,a];omega),Au];have f:¬j<((zs).mergeSort λx y=>decide (x<=y)).length:=by omega
    have e:zs.length+(j -((zs.mergeSort λx y=>decide (x<=y)).map qc8).length)=j:=by simp[d,a];omega
    rw[e];cases all[j]? with
    |none=>rfl
    |some v=>simp[f];exact λh=>(u h).elim
  .simp[d,a];omega
 have M:=z0v (t:=9) (size:=1) (c:=c) (n:=zs.length) (cs:=(zs.mergeSort λx y=>decide (x<=y)).map qc8) (by simp[d,a];omega) s (by rw[Ba,Ao (by simp[d,a]),Aa (by simp[d,a])]) N;have J:=M.grow_ 0 os;exact J
section
def qgg(l:List UInt8)(i j:Nat):(mkS l).extract i j=mkS ((l.take j).drop i):=by
 unfold mkS;have:(Bt ⟨l.toArray⟩ i j).data=((l.take j).drop i).toArray:=by rw[Bp];simp[List.extract_eq_take_drop,List.drop_take]
 exact ByteArray.ext this
def q3g{l:List UInt8}{k:Nat}{x:UInt8}(h:l[k]?=A3 x):(mkS l).get! k=x:=by
 have w:=(A1.1 h).1;have a:=get!_eq (s:=mkS l) (i:=k) (by rw[qf1];exact w);have b:(mkS l)[k]?=A3 x:=by
  rw[getElem?_pos (mkS l) k (by rw[qf1];exact w)];have:(mkS l)[k]'(by rw[qf1];exact w)=l[k]:=by show(mkS l).data[k]=_;simp[mkS]
  rw[this,<-A0,h]
 rw[b]at a;exact(Option.some.inj a).symm
def qu1:List UInt8:=[97,98,99,100,101,102,103,104,105,106,107,108,109,110,111,112,113,114,115,116,117,118,119,120,121,122,48,49,50,51,52,53,54,55,56,57,45]
def q8z(l:List UInt8)(x:UInt8):(A2 l)[x.toNat]?=A3 (Zb (l.contains x)):=by have h:x.toNat<256:=x.toNat_lt;have:=Lib.fold_at l (B5 256 (Zb A4)) A4 x (by simp[h]);rw[Bool.false_or]at this;exact this
section
variable{W w:World}{F:List Asn}{b:Nat}
def qnm(x:UInt8)(h:St W (Row b 376 (A2 qu1).toList::F) w):qb Zp 309 #[Zq (A3 ⟨b,0,Bh⟩),Zi .u8 (x.toNat:Int)] w λv w'=>v=Zb (qu1.contains x)/\St W (Row b 376 (A2 qu1).toList::F) w':=
 F309_of (z7 (IxP.row rfl (by have:=x.toNat_lt;omega) (LdB.n 0 h rfl (by rw[Ab];exact q8z qu1 x) ⟨rfl,h⟩)))
def qnx:List A9->A6->Nat:=λvs _=>match vs with|[Zs s]=>s.size|_=>0
def qwq(l:List UInt8)(r:l.length<=9223372036854775807)(h:St W (Row b 376 (A2 qu1).toList::F) w):qb Zp 265 #[Zs (mkS l),Zq (A3 ⟨b,0,Bh⟩)] w λv w'=>
 ∃k,v=Zs (mkS (l.take k))/\k<=l.length/\(∀x∈l.drop k,qu1.contains x=Af)/\(k=0\/∃x,l[k - 1]?=A3 x/\qu1.contains x=A4)/\St W (Row b 376 (A2 qu1).toList::F) w':=by
 refine F265_of ⟨λvs w=>∃k,vs=[Zs (mkS (l.take k))]/\k<=l.length/\(∀x∈l.drop k,qu1.contains x=Af)/\St W (Row b 376 (A2 qu1).toList::F) w,qnx,⟨l.length,by rw[B0],Nat.le_refl _,by simp,h⟩,λs w m=>?_⟩;obtain⟨k,p,j,i,h⟩:=m;cases p;have a:(mkS (l.take k)).size=k:=by rw[qf1,Am];omega
 rw[a];refine za (λc=>?_) λc=>?_
 .have c:0<k:=by have:=yC c;omega
  have q:Zw Zk ((k:Int) - 1)=((k - 1:Nat):Int):=by rw[w64];omega
  have d:l[k - 1]?=A3 (l[k - 1]'(by omega)):=A0 _;generalize l[k - 1]'(by omega)=x at d;have g:(l.take k)[k - 1]?=A3 x:=by rw[Ae,yB (by omega),d]
  rw[q];refine⟨⟨by omega,by rw[a];omega⟩,?_⟩;rw[Ah,q3g g];refine(qnm x h).of λv w ⟨n,h⟩=>⟨_,n,za (λe=>?_) λe=>?_⟩;.exact⟨k,rfl,j,i,.inr ⟨x,d,by simpa using e⟩,h⟩
  .have e:qu1.contains x=Af:=by simpa using e
   refine⟨⟨by omega,by omega,by rw[a];omega⟩,?_⟩;rw[Ah,qgg];have o:((l.take k).take (k - 1)).drop (Bc 0)=l.take (k - 1):=by rw[List.take_take,Nat.min_eq_left (by omega)];rfl
   rw[o];refine⟨⟨k - 1,rfl,by omega,λy f=>?_,h⟩,?_⟩
   .rw[List.drop_eq_getElem_cons (by omega)]at f;rcases Bn.1 f with rfl|f
    .rw[A0 (by omega)]at d;cases d;exact e
    .rw[show k - 1+1=k by omega]at f;exact i y f
   .show(mkS (l.take (k - 1))).size<(mkS (l.take k)).size;rw[qf1,qf1,Am,Am];omega
 .have c:k=0:=by have:=yD c;omega
  exact⟨k,rfl,j,i,.inl c,h⟩
def q4r(l:List UInt8)(q:l.length<=9223372036854775807)(h:St W (Row b 376 (A2 qu1).toList::F) w):qb Zp 264 #[Zs (mkS l),Zq (A3 ⟨b,0,Bh⟩)] w λv w'=>
 ∃k,v=Zs (mkS (l.drop k))/\k<=l.length/\(∀x∈l.take k,qu1.contains x=Af)/\St W (Row b 376 (A2 qu1).toList::F) w':=by
 refine F264_of ⟨λvs w=>∃k,vs=[Zs (mkS (l.drop k))]/\k<=l.length/\(∀x∈l.take k,qu1.contains x=Af)/\St W (Row b 376 (A2 qu1).toList::F) w,qnx,⟨0,rfl,by omega,by simp,h⟩,λs w m=>?_⟩;obtain⟨k,p,j,i,h⟩:=m;cases p;have a:(mkS (l.drop k)).size=l.length - k:=by rw[qf1,B1]
 rw[a];refine za (λg=>?_) λg=>?_
 .have g:0<l.length - k:=by have:=yC g;omega
  have e:l[k]?=A3 (l[k]'(by omega)):=A0 _;generalize l[k]'(by omega)=x at e;have f:(l.drop k)[0]?=A3 x:=by rw[Au];exact e
  refine⟨⟨by omega,by rw[a];omega⟩,?_⟩;rw[show Bc 0=0 from rfl,q3g f];refine(qnm x h).of λv w ⟨n,h⟩=>⟨_,n,za (λd=>?_) λd=>?_⟩;.exact⟨k,rfl,j,i,h⟩
  .have d:qu1.contains x=Af:=by simpa using d
   refine⟨⟨by omega,by omega,by rw[a];omega⟩,?_⟩;rw[Ah,qgg];have o:((l.drop k).take (l.length - k)).drop (Bc 1)=l.drop (k+1):=by rw[Aa (by simp),List.drop_drop];rfl
   rw[o];refine⟨⟨k+1,rfl,by omega,λy c=>?_,h⟩,?_⟩
   .rw[Ai,e]at c;rcases Ap.1 c with c|c;.exact i y c
    .simp at c;subst c;exact d
   .show(mkS (l.drop (k+1))).size<(mkS (l.drop k)).size;rw[qf1,qf1,B1,B1];omega
 .exact⟨k,rfl,j,i,h⟩
end
end
section
section
variable{W w:World}{F:List Asn}
def zSet:∀w,(zeroValue 376).run Zp w=.ok (Zg (B5 256 (Zb A4))) w:=λw=>by
 have a:Zp.info? 376=A3 Tryz.t376:=by kernel_rfl
 have h:Tryz.t376.zero=A3 (Zg (B5 256 (Zb A4))):=by kernel_rfl
 simp[zeroValue,typeInfo,a,h]
def qfw:(A2 qu1).size=256:=by decide+kernel
def qvq:∀v∈(A2 qu1).toList,qn1 v:=λv w=>by
 have h:∀(l:List UInt8) (a:Array A9),(∀v∈a.toList,qn1 v)->∀v∈(l.foldl (λa c=>a.setIfInBounds c.toNat (Zb Af)) a).toList,qn1 v:=by
  intro l;induction l with
  |nil=>exact λa h=>h
  |cons x r ih=>
   intro a h;refine ih _ λv w=>?_;rw[Array.toList_setIfInBounds]at w;rcases List.mem_or_eq_of_mem_set w with w|rfl;.exact h v w
   .trivial
 refine h qu1 _ (λv w=>?_) v w;rw[Array.toList_replicate]at w;rw[(List.mem_replicate.1 w).2];trivial
def q3u(l:List UInt8)(q:l≠[])(D:l.length<=9223372036854775807)(a:St W F w):qb Zp 184 #[Zs (mkS l),Zs (mkS qu1)] w λv w'=>∃r,v=Zs (mkS r)/\(r=[]↔∀x∈l,qu1.contains x=Af)/\St W F w':=by
 refine F184_of ?_;have A:((mkS l).toList==(⟨#[]⟩:ByteArray).toList)=A4:=by rw[qv3];exact yH λh=>q (by have:=yE qm h;simpa [qm,mkS]using this)
 rw[A];refine zl rfl (zl (by decide+kernel) ⟨λvs w=>St W F w,zl (by decide+kernel) a,λw a=>?_⟩);refine Ak (Tryz.strings_makeASCIISet zSet (mkS qu1) w (by decide+kernel) (by
  have h:∀b∈qu1,b.toNat<128:=by decide+kernel
  intro j b t;exact h b (A8 (by simpa [mkS]using t)))) λe w1 ⟨z,G⟩=>⟨_,z,?_⟩
 subst G;have d:=qfw;have i:=qvq;have E:A2 (mkS qu1).data.toList=A2 qu1:=yE A2 (by unfold mkS;rfl);rw[E];have m:=λ(w:A6) b (a:St W (Row b 376 (A2 qu1).toList::F) w)=>qwq l D a;have g:=λ(w:A6) k (u:k<=l.length) b (a:St W (Row b 376 (A2 qu1).toList::F) w)=>q4r (l.take k) (by rw[Am];omega) a;revert d i m g;generalize A2 qu1=S;intro d i m g;have a:=(a.alloc (.cells S 376)).drop;refine⟨S,d,Af,rfl,?_⟩;have n:∀c:Array A9,c.size=256->S.size=c.toList.length:=λc o=>by rw[d,Array.length_toList,o]
 refine zh a λb w a=>⟨d,StA.r 0 a rfl (n _ (by kernel_rfl)) i λw a=>zm rfl ?_⟩;refine(m w b a).of λv w ⟨k,s,u,C,B,a⟩=>⟨_,s,?_⟩;refine(g w k u b a).of λv w ⟨j,s,t,y,a⟩=>⟨_,s,_,rfl,⟨λh x f=>?_,λh=>?_⟩,a.drop⟩
 .have p:(l.take k).length<=j:=List.drop_eq_nil_iff.1 h;rw[Aa p]at y;rw[<-List.take_append_drop k l]at f;rcases Ap.1 f with f|f;.exact y x f
  .exact C x f
 .rcases B with rfl|⟨x,f,o⟩;.simp
  .rw[h x (A8 f)]at o;cases o
def q1a(s:ByteArray):Bool:=decide (0<(qm s).length)&&(decide ((qm s).length<=20)&&((qm s).all qu1.contains&&((qm s).headD 0 != 45&&(qm s).getLastD 0 != 45)))
def qoc(s:ByteArray)(a:St W F w):qb Zp 117 #[Zs s] w λv w'=>v=Zb (q1a s)/\St W F w':=by
 obtain⟨l,rfl⟩:∃l,s=mkS l:=⟨qm s,by unfold qm;rw[qd5]⟩;have o:qm (mkS l)=l:=by simp[qm,mkS]
 unfold q1a;rw[o];refine F117_of ?_;rw[qf1];cases l with
 |nil=>exact zl (by decide+kernel) ⟨rfl,a⟩
 |cons x r=>
  have z:((mkS (x::r)).toList==(⟨#[]⟩:ByteArray).toList)=A4:=by rw[qv3];exact yH λh=>by have:=yE qm h;simp[qm,mkS]at this
  rw[z];refine zm rfl ?_;have q:decide (((x::r).length:Int)<=20)=decide ((x::r).length<=20):=by
   by_cases h:(x::r).length<=20;.rw[yG h,yG (by omega)]
   .rw[yH h,yH (by omega)]
  rw[q,yG (show 0<(x::r).length by simp),Az];refine za (λh=>?_) λh=>by rw[h];exact⟨rfl,a⟩
  have j:=yC h;rw[h,Az];refine(q3u (x::r) (by simp) (by omega) a).of λv w ⟨t,m,g,a⟩=>⟨_,m,?_⟩;dsimp only;have p:((mkS t).toList==(⟨#[]⟩:ByteArray).toList)=(x::r).all qu1.contains:=by
   rw[qv3];have d:(mkS t=(⟨#[]⟩:ByteArray))↔t=[]:=⟨λh=>by have:=yE qm h;simpa [qm,mkS]using this,λh=>by rw[h];rfl⟩;by_cases c:(x::r).all qu1.contains=Af;.rw[c];exact yG (d.2 (g.2 (Ad.1 c)))
   .rw[Bool.not_eq_true]at c;rw[c];exact yH λh=>by have:=Ad.2 (g.1 (d.1 h));rw[c]at this;cases this
  rw[p];refine za (λh=>?_) λh=>by rw[h];exact⟨rfl,a⟩
  rw[h,Az];have i:∀y:UInt8,((y.toNat:Int) != 45)=(y != 45):=λy=>by
   by_cases f:y=45;.subst f;rfl
   .have d:¬y.toNat=45:=λh=>f (Aq.1 h);have u:(y != 45)=Af:=by simpa using f
    rw[u];simp only[bne_iff_ne,ne_eq];omega
  refine⟨⟨by omega,by rw[qf1];simp⟩,?_⟩;rw[show Bc 0=0 from rfl,q3g (l:=x::r) (k:=0) rfl];dsimp only;rw[i];refine za (λh=>?_) λh=>by have e:((x::r).headD 0 != 45)=A4:=h;rw[e];exact⟨rfl,a⟩
  have e:((x::r).headD 0 != 45)=Af:=h;rw[e,Az];have n:Zw Zk (((x::r).length:Int) - 1)=(((x::r).length - 1:Nat):Int):=by have:(x::r).length=r.length+1:=rfl;rw[w64];omega
  have b:(x::r)[(x::r).length - 1]?=A3 ((x::r).getLastD 0):=by rw[<-List.getLast?_eq_getElem?];simp[List.getLastD_eq_getLast?,List.getLast?_cons]
  rw[n];refine⟨⟨by omega,by rw[qf1];simp;omega⟩,?_⟩;rw[Ah,q3g b];dsimp only;rw[i];exact⟨rfl,a⟩
end
end
section
def qc4(F:List Asn):Prop:=∀H,Own F H->∃t h,H 0=A3 (.cells (Bg.map λz=>Zi .u64 z).toArray t h)
def qc4.cons{F:List Asn}(h:qc4 F)(A:Asn):qc4 (A::F):=λH w=>h H w.tail
def qc4.pre{F:List Asn}(h:qc4 F):∀l:List Asn,qc4 (l++F)
 |[]=>h
 |A::l=>(h.pre l).cons A
def qc4.perm{F G:List Asn}(h:qc4 F)(a:G.Perm F):qc4 G:=λH w=>h H (w.perm a)
def qc4.app{F:List Asn}(h:qc4 F)(G:List Asn):qc4 (F++G):=(h.pre G).perm List.perm_append_comm
def qc4.tab{W w:A6}{F:List Asn}(h:qc4 F)(b:St W F w):Bu Zp w "internal/strconv.uint64pow10" .u64 Bg:=by
 obtain⟨t,d,a⟩:=h _ b.2;have c:Zp.globalNamed "internal/strconv.uint64pow10"=A3 0:=by kernel_rfl
 have a:w.heap[0]?=A3 (.cells (Bg.map λz=>Zi .u64 z).toArray t d):=a;unfold Bu World.var?;rw[c,Option.bind_some,a]
def qgi(bits:Int):Int:=Zw .u32 (4294967295*2 ^ min (Bc (Zw Zk (32 - bits))) (Ar .u32))
def q15(a bits:Int):Bool:=decide (bits>=0)&&(decide (bits<=32)&&(Zw .u32 ↑((B4 (Ar .u32) a&&& ~~~B4 (Ar .u32) (qgi bits)).toNat)==0))
def inN(a bits x:Int):Bool:=q15 a bits&&(Zw .u32 ↑((B4 (Ar .u32) x&&& B4 (Ar .u32) (qgi bits)).toNat)==a)
def qp7(n:Int):List UInt8:=if n<0 then []else if n>1099511627776 then []else Bs n
section
variable{W w:World}{F:List Asn}
def q2k{bits:Int}(a:0<=bits)(b:bits<=32)(h:St W F w):qb Zp 258 #[Zi Zk bits] w λv w'=>v=Zi .u32 (qgi bits)/\St W F w':=
 F258_of ⟨by rw[w64];omega,rfl,h⟩
def qki(a bits:Int)(f:St W F w):qb Zp 180 #[Zg #[Zi .u32 a,Zi Zk bits]] w λv w'=>v=Zb (q15 a bits)/\St W F w':=by
 refine F180_of (zh f λb w f=>?_);have d:=z6 W (Row b 132 [Zi .u32 a,Zi Zk bits]::F);unfold q15;refine⟨StC W _,zd f,_,zj 0 d rfl rfl,za (λh=>⟨_,zj 0 d rfl rfl,za (λe=>?_) λe=>?_⟩) λh=>?_⟩
 .refine⟨_,zj 0 d rfl rfl,_,zj 0 d rfl rfl,zn (α:=Unit) (V:=λ_=>Zi .u32 (qgi bits)) (B:=λ_=>Row b 132 [Zi .u32 a,Zi Zk bits]::F) () d (λG w c=>(q2k (yC h) (yC e) c).of λv w' ⟨g,h⟩=>⟨_,g,(),rfl,h⟩) λ_=>⟨_,rfl,zj 0 ir rfl rfl,λG w c=>⟨?_,(zb c).drop⟩⟩⟩;rw[h,e];rfl
 .intro G w c;rw[h,e];exact⟨rfl,(zb c).drop⟩
 .intro G w c;rw[h];exact⟨rfl,(zb c).drop⟩
def qsx(a bits x:Int)(d:St W F w):qb Zp 399 #[Zg #[Zi .u32 a,Zi Zk bits],Zi .u32 x] w λv w'=>v=Zb (inN a bits x)/\St W F w':=by
 refine F399_of (zh d λb w d=>?_);have g:=z6 W (Row b 132 [Zi .u32 a,Zi Zk bits]::F);unfold inN;refine⟨StC W _,zd d,a,bits,λG w h=>z8 0 h rfl rfl (z8 0 h rfl rfl ⟨rfl,h⟩),?_⟩;refine zn (α:=Unit) (V:=λ_=>Zb (q15 a bits)) (B:=λ_=>Row b 132 [Zi .u32 a,Zi Zk bits]::F) () g (λG w c=>(qki a bits c).of λv w' ⟨e,h⟩=>⟨_,e,(),rfl,h⟩) λ_=>⟨_,rfl,trivial,za (λh=>?_) λh=>?_⟩
 .have f:0<=bits/\bits<=32:=by unfold q15 at h;rw[An,An]at h;exact⟨yC h.1,yC h.2.1⟩
  refine⟨_,zj 0 ir rfl rfl,_,zj 0 ir rfl rfl,zn (α:=Unit) (V:=λ_=>Zi .u32 (qgi bits)) (B:=λ_=>Row b 132 [Zi .u32 a,Zi Zk bits]::F) () ir (λG w c=>(q2k f.1 f.2 c).of λv w' ⟨e,h⟩=>⟨_,e,(),rfl,h⟩) λ_=>⟨_,rfl,zj 0 ir rfl rfl,λG w c=>⟨?_,(zb c).drop⟩⟩⟩;rw[h];rfl
 .intro G w c;rw[h];exact⟨rfl,(zb c).drop⟩
def qwb(n:Int)(c:qc4 F)(b:St W F w):qb Zp 182 #[Zi Zk n] w λv w'=>v=Zs (mkS (qp7 n))/\St W F w':=by
 unfold qp7;refine F182_of (za (λh=>?_) λh=>za (λa=>?_) λa=>?_);.rw[yB (yC h)];exact⟨rfl,b⟩
 .rw[yA (yD h),yB (yC a)];exact⟨rfl,b⟩
 have h:=yD h;have a:=yD a;rw[yA h,yA a];refine Ak (Tryz.strconv_FormatInt_10 n (by omega) (by omega) w (c.tab b)) λe w1 ⟨d,k,os,f⟩=>⟨_,d,_,rfl,rfl,?_⟩;subst f;exact b.grow_ k os
def qtt:∀k:Fin 256,0<(Bs (k.val:Int)).length/\(Bs (k.val:Int)).length<=3:=by decide+kernel
def qte{n:Int}(h:0<=n)(w:n<256):0<(qp7 n).length/\(qp7 n).length<=3:=by unfold qp7;rw[yA (by omega),yA (by omega)];have:=qtt ⟨n.toNat,by omega⟩;simp only[Int.toNat_of_nonneg h]at this;exact this
def sV(x:ByteArray):List A9:=[Zs x]
def sV1(x:ByteArray):(sV x).length=1:=rfl
def sVn(x:ByteArray):∀v∈sV x,qn1 v:=λv h=>by simp only[sV,Bn,List.not_mem_nil,yK]at h;subst h;trivial
def uSs:Zp.underlying 23=A3 (.slice 9):=Tryz.underlying23
def iSt:Zp.info? 9=A3 Tryz.t9:=by kernel_rfl
def bSt:Tryz.t9.bytes<=100:=by decide+kernel
def q0h(w:List UInt8):∀l:List (List UInt8),(∀x∈l,x.length<=3)->(Bb l w).length<=l.length*(3+w.length)
 |[],_=>by simp[Bb]
 |[x],h=>by have:=h x (by simp);simp[Bb];omega
 |x::y::r,h=>by
  have c:=h x (by simp);have a:=q0h w (y::r) λz b=>h z (List.mem_cons_of_mem _ b);have e:Bb (x::y::r) w=x++(w++Bb (y::r) w):=by simp[Bb,List.intercalate,List.intersperse]
  rw[e];simp only[List.length_append,Bj,Nat.add_mul,Nat.one_mul]at a⊢;omega
def qsy(x:Int):0<=Zw .u8 x/\Zw .u8 x<256:=by have:Zw .u8 x=x%256:=rfl;omega
def qam(z:Int)(c:qc4 F)(h:St W F w):qb Zp 182 #[Zi Zk (Zw Zk (Zw .u8 z))] w λv w'=>∃s,v=Zs s/\s.size<=3/\0<s.size/\St W F w':=by obtain⟨b,a⟩:=qsy z;generalize Zw .u8 z=y at b a;rw[w64];exact(qwb y c h).of λv w ⟨d,h⟩=>⟨_,d,by rw[qf1];exact(qte b a).2,by rw[qf1];exact(qte b a).1,h⟩
def qvs(a:Int)(I:qc4 F)(d:St W F w):qb Zp 181 #[Zi .u32 a] w λv w'=>∃s,v=Zs s/\s.size<=1000/\St W F w':=by
 refine F181_of ⟨λvs w=>∃(k:Nat) (p:Option Be) (c:Nat) (os:List ByteArray),vs=[Zl p os.length c,Zi Zk (k:Int)]/\k<=4/\os.length=k/\(∀s∈os,s.size<=3)/\St W (SlA 9 1 sV p c os::F) w,
  λvs w=>match vs with|[_,.int _ x]=>(4 - x).toNat|_=>0,⟨0,Bh,0,[],rfl,by omega,rfl,by simp,z0a d⟩,λlp Z M x w G=>?_⟩
 obtain⟨k,p,c,os,t,Y,C,o,d⟩:=G;cases t;refine za (λh=>?_) λh=>?_
 .have m:k<4:=by have:=yC h;omega
  have K:Zw Zk (8*(k:Int))=8*(k:Int):=w64;have J:Zw Zk (24 - 8*(k:Int))=24 - 8*(k:Int):=w64;refine⟨by rw[K,J];omega,?_⟩;refine(qam _ (I.cons _) d).of λv w ⟨s,N,O,_,d⟩=>⟨_,N,zh d λb w d=>?_⟩;obtain⟨z,H,A⟩:∃z,Tryz.t9.zero=A3 z/\z.cells.size=1:=⟨_,rfl,rfl⟩;refine qf3 (os:=os) (xs:=[s]) sV1 uSs (.inr ⟨_,uSs⟩) iSt rfl H A 1 d rfl (z0x 0 λi v h=>by simpa [sV]using h) rfl sVn (by have:=bSt;simp only[Bj,List.length_nil];exact B2 (Nat.mul_le_mul_left _ this) (by omega)) (by simp;omega) λL Q w d=>⟨_,_,_,rfl,⟨k+1,L,Q,os++[s],?_,by omega,by simp[C],λy g=>?_,d.drop⟩,?_⟩
  .have B:Zw Zk ((k:Int)+1)=((k+1:Nat):Int):=by rw[w64];omega
   rw[B]
  .rcases Ap.1 g with g|g;.exact o y g
   .rw[List.mem_singleton.1 g];exact O
  .have B:Zw Zk ((k:Int)+1)=((k+1:Nat):Int):=by rw[w64];omega
   rw[B];show(4 -((k+1:Nat):Int)).toNat<(4 -(k:Int)).toNat;omega
 .have m:k=4:=by have:=yD h;omega
  subst m;obtain⟨q,all,T,R,D,l⟩:=qi.opened (by omega) d;subst T;have u:=(qi.le d).2;refine Ak (Tryz.strings_Join q 0 M os ⟨#[46]⟩ w (λj x E=>?_) ?_ (by omega) u ?_) λe w1 ⟨t,V⟩=>⟨_,t,_,rfl,_,rfl,?_,(d.below_ V).drop⟩
  .have P:j<4:=by have:=(A1.1 E).1;omega
   have n:(all.take (os.length*1))[j]?=A3 (Zs x):=by rw[D];have:=qn9 (f:=sV) (k:=1) sV1 E (j:=0) (v:=Zs x) rfl;simpa using this
   rw[Ae,yB (by omega)]at n;rw[Ac];exact l.ld n
  .obtain⟨h0,n,⟨cc,X,U,_⟩,_⟩:=l.2;exact qr6 (w:=w) (n _ _ U)
  .have:=q0h [46] (os.map λx=>x.data.toList) (λx r=>by obtain⟨y,g,rfl⟩:=Bq.1 r;have:=o y g;simpa using this)
   rw[Bm,C]at this;exact B2 this (by simp)
  .have:=q0h [46] (os.map λx=>x.data.toList) (λx r=>by obtain⟨y,g,rfl⟩:=Bq.1 r;have:=o y g;simpa using this)
   rw[Bm,C]at this;show(List.toArray _).size<=1000;rw[Ax];exact B2 this (by simp)
def qyr(a bits:Int)(i:qc4 F)(c:St W F w):qb Zp 113 #[Zg #[Zi .u32 a,Zi Zk bits]] w λv w'=>∃s,v=Zs s/\(s=⟨#[]⟩↔q15 a bits=A4)/\St W F w':=by
 refine F113_of (zh c λb w c=>z8 0 c rfl rfl (z8 0 c rfl rfl ?_));refine(qki a bits c).of λv w ⟨d,c⟩=>⟨_,d,za (λh=>?_) λh=>?_⟩
 .have h:q15 a bits=A4:=by simpa using h
  exact⟨_,rfl,⟨λ_=>h,λ_=>rfl⟩,c.drop⟩
 have h:q15 a bits=Af:=by simpa using h
 have l:0<=bits/\bits<=32:=by unfold q15 at h;rw[An,An]at h;exact⟨yC h.1,yC h.2.1⟩
 have f:=z6 W (Row b 132 [Zi .u32 a,Zi Zk bits]::F);refine⟨StC W _,zd c,_,zj 0 f rfl rfl,_,zj 0 f rfl rfl,?_⟩;refine zn (α:={s:ByteArray//s.size<=1000}) (V:=λs=>Zs s.1) (B:=λ_=>Row b 132 [Zi .u32 a,Zi Zk bits]::F) ⟨⟨#[]⟩,by decide⟩ f (λG w e=>(qvs a ((i.cons _).app _) e).of λv w' ⟨s,d,g,h⟩=>⟨_,d,⟨s,g⟩,rfl,h⟩) λs=>⟨_,rfl,zj 0 ir rfl rfl,?_⟩;obtain⟨s,g⟩:=s;dsimp only;have j:(⟨#[47]⟩:ByteArray).size=1:=rfl;refine⟨by omega,zn (α:=Unit) (V:=λ_=>Zs (mkS (qp7 bits))) (B:=λ_=>Row b 132 [Zi .u32 a,Zi Zk bits]::F) () ir (λG w e=>(qwb bits ((i.cons _).app _) e).of λv w' ⟨d,h⟩=>⟨_,d,(),rfl,h⟩) λ_=>⟨_,rfl,trivial,?_,λG w e=>⟨_,rfl,?_,(zb e).drop⟩⟩⟩
 .have:=(qte l.1 (by omega)).2;rw[qf1,Aj];have k:(⟨#[47]⟩:ByteArray).size=1:=rfl;omega
 .rw[h];refine⟨λh=>?_,λh=>by cases h⟩;have:=yE Bv h;rw[Aj,Aj,qf1]at this;have k:(⟨#[47]⟩:ByteArray).size=1:=rfl;have m:(⟨#[]⟩:ByteArray).size=0:=rfl;omega
end
end
structure q97 where
 name:ByteArray
 secret:ByteArray
 til:Int
structure qa4 where
 name:ByteArray
 names:Int
 visitors:Int
 np:Option Be
 nc:Nat
 nets:List (Int×Int)
 tp:Option Be
 tc:Nat
 toks:List q97
def qje(x:Int×Int):List A9:=[Zi .u32 x.1,Zi Zk x.2]
def q44(x:q97):List A9:=[Zs x.name,Zs x.secret,Zi Zk x.til]
def q43(t:qa4):List A9:=[Zs t.name,Zi Zk t.names,Zi Zk t.visitors,.slice t.np t.nets.length t.nc,.slice t.tp t.toks.length t.tc]
structure qg6(F:List Asn)(t:qa4):Prop where
 nr:Rd F t.np (t.nets.flatMap qje)
 nl:t.nets.length<=t.nc
 nb:t.nets.length<=9223372036854775807
 tr:Rd F t.tp (t.toks.flatMap q44)
 tl:t.toks.length<=t.tc
 tb:t.toks.length<=9223372036854775807
 sb:∀x∈t.toks,x.secret.size<=9223372036854775807
def qg6.cons{F:List Asn}{t:qa4}(h:qg6 F t)(A:Asn):qg6 (A::F) t:=⟨h.nr.cons A,h.nl,h.nb,h.tr.cons A,h.tl,h.tb,h.sb⟩
def qg6.app{F:List Asn}{t:qa4}(h:qg6 F t)(G:List Asn):qg6 (F++G) t:=⟨h.nr.app G,h.nl,h.nb,h.tr.app G,h.tl,h.tb,h.sb⟩
def qkd{α:Type}{g:α->Bool}{xs:List α}:decide (qt4 g xs>=0)=xs.any g:=by
 unfold qt4;cases h:xs.findIdx? g with
 |none=>
  have:xs.any g=A4:=by rw[List.any_eq_false];intro x a;have:=Av.1 h x a;simp[this]
  rw[this];rfl
 |some i=>obtain⟨w,b,_⟩:=Ag.1 h;have:xs.any g=Af:=List.any_eq_true.2 ⟨_,List.getElem_mem w,b⟩;rw[this];exact yG (by show(i:Int)>=0;omega)
def qvn{W w:A6}{F:List Asn}{p:Option Be}{c:Nat}{xs:List qa4}{r:A9}(g:qa4->Bool)(u:Rd F p (xs.flatMap q43))(B:xs.length<=9223372036854775807)
 (s:∀(x:qa4),x∈xs->∀(w:A6) (K:A9->A6->Prop),St W F w->(∀w',St W F w'->K (Zb (g x)) w')->q01 Zp 4 r [Zg (q43 x).toArray] w K) (d:St W F w):
 qb Zp 110 #[Zl p xs.length c,r] w λv w'=>v=Zi Zk (qt4 g xs)/\St W F w':=by
 refine F110_of ⟨λvs w=>∃i:Nat,vs=[Zi Zk i]/\i<=xs.length/\(∀j y,j<i->xs[j]?=A3 y->g y=A4)/\St W F w,leftN xs.length,⟨0,rfl,by omega,λj y h=>by omega,d⟩,λx w t=>?_⟩;obtain⟨i,A,D,q,d⟩:=t;cases A;refine za (λb=>?_) λm=>?_
 .have b:i<xs.length:=by have:=yC b;omega
  have k:xs[i]?=A3 (xs[i]'b):=A0 _;generalize xs[i]'b=y at k;refine z0j (f:=q43) (size:=5) (λ_=>rfl) (by omega) u d rfl b k λa l=>⟨_,l 0 _ rfl,⟨_,l 1 _ rfl,⟨_,l 2 _ rfl,⟨_,_,_,l 3 _ rfl,⟨_,_,_,l 4 _ rfl,s y (A8 k) w _ d λw' d=>⟨_,rfl,?_⟩⟩⟩⟩⟩⟩;cases hy:g y with
  |true=>exact⟨by rw[qs8 k hy q],d⟩
  |false=>
   rw[up b B];exact⟨⟨i+1,rfl,by omega,λj z C n=>by
    by_cases e:j=i;.subst e;rw[k]at n;cases n;exact hy
    .exact q j z (by omega) n,d⟩,by show xs.length -(i+1)<xs.length - i;omega⟩
 have o:i=xs.length:=by have:=yD m;omega
 subst o;exact⟨by rw[qq8 λj y h=>q j y (A1.1 h).1 h],d⟩
def qtv{W w:A6}{F:List Asn}{p:Option Be}{c:Nat}{xs:List qa4}{a:A9}(g:qa4->Bool)(e:Rd F p (xs.flatMap q43))(f:xs.length<=9223372036854775807)
 (b:∀(x:qa4),x∈xs->∀(w:A6) (K:A9->A6->Prop),St W F w->(∀w',St W F w'->K (Zb (g x)) w')->q01 Zp 4 a [Zg (q43 x).toArray] w K) (h:St W F w):
 qb Zp 67 #[Zl p xs.length c,a] w λv w'=>v=Zb (xs.any g)/\St W F w':=
 F67_of ((qvn g e f b h).of λv w ⟨d,h⟩=>⟨_,d,by rw[qkd],h⟩)
def qyw{W w:A6}{F:List Asn}{p:Option Be}{c:Nat}{xs:List (Int×Int)}{r:A9}(g:(Int×Int)->Bool)(u:Rd F p (xs.flatMap qje))(B:xs.length<=9223372036854775807)
 (s:∀(x:(Int×Int)),x∈xs->∀(w:A6) (K:A9->A6->Prop),St W F w->(∀w',St W F w'->K (Zb (g x)) w')->q01 Zp 4 r [Zg (qje x).toArray] w K) (d:St W F w):
 qb Zp 179 #[Zl p xs.length c,r] w λv w'=>v=Zi Zk (qt4 g xs)/\St W F w':=by
 refine F179_of ⟨λvs w=>∃i:Nat,vs=[Zi Zk i]/\i<=xs.length/\(∀j y,j<i->xs[j]?=A3 y->g y=A4)/\St W F w,leftN xs.length,⟨0,rfl,by omega,λj y h=>by omega,d⟩,λx w t=>?_⟩;obtain⟨i,A,D,o,d⟩:=t;cases A;refine za (λb=>?_) λl=>?_
 .have b:i<xs.length:=by have:=yC b;omega
  have k:xs[i]?=A3 (xs[i]'b):=A0 _;generalize xs[i]'b=y at k;refine z0j (f:=qje) (size:=2) (λ_=>rfl) (by omega) u d rfl b k λa q=>⟨_,q 0 _ rfl,⟨_,q 1 _ rfl,s y (A8 k) w _ d λw' d=>⟨_,rfl,?_⟩⟩⟩;cases hy:g y with
  |true=>exact⟨by rw[qs8 k hy o],d⟩
  |false=>
   rw[up b B];exact⟨⟨i+1,rfl,by omega,λj z C m=>by
    by_cases e:j=i;.subst e;rw[k]at m;cases m;exact hy
    .exact o j z (by omega) m,d⟩,by show xs.length -(i+1)<xs.length - i;omega⟩
 have n:i=xs.length:=by have:=yD l;omega
 subst n;exact⟨by rw[qq8 λj y h=>o j y (A1.1 h).1 h],d⟩
def qnn{W w:A6}{F:List Asn}{p:Option Be}{c:Nat}{xs:List (Int×Int)}{a:A9}(g:(Int×Int)->Bool)(e:Rd F p (xs.flatMap qje))(f:xs.length<=9223372036854775807)
 (b:∀(x:(Int×Int)),x∈xs->∀(w:A6) (K:A9->A6->Prop),St W F w->(∀w',St W F w'->K (Zb (g x)) w')->q01 Zp 4 a [Zg (qje x).toArray] w K) (h:St W F w):
 qb Zp 111 #[Zl p xs.length c,a] w λv w'=>v=Zb (xs.any g)/\St W F w':=
 F111_of ((qyw g e f b h).of λv w ⟨d,h⟩=>⟨_,d,by rw[qkd],h⟩)
def qrn{W w:A6}{F:List Asn}{p:Option Be}{c:Nat}{xs:List q97}{r:A9}(g:q97->Bool)(u:Rd F p (xs.flatMap q44))(B:xs.length<=9223372036854775807)
 (s:∀(x:q97),x∈xs->∀(w:A6) (K:A9->A6->Prop),St W F w->(∀w',St W F w'->K (Zb (g x)) w')->q01 Zp 4 r [Zg (q44 x).toArray] w K) (d:St W F w):
 qb Zp 183 #[Zl p xs.length c,r] w λv w'=>v=Zi Zk (qt4 g xs)/\St W F w':=by
 refine F183_of ⟨λvs w=>∃i:Nat,vs=[Zi Zk i]/\i<=xs.length/\(∀j y,j<i->xs[j]?=A3 y->g y=A4)/\St W F w,leftN xs.length,⟨0,rfl,by omega,λj y h=>by omega,d⟩,λx w t=>?_⟩;obtain⟨i,A,D,q,d⟩:=t;cases A;refine za (λb=>?_) λl=>?_
 .have b:i<xs.length:=by have:=yC b;omega
  have k:xs[i]?=A3 (xs[i]'b):=A0 _;generalize xs[i]'b=y at k;refine z0j (f:=q44) (size:=3) (λ_=>rfl) (by omega) u d rfl b k λa o=>⟨_,o 0 _ rfl,⟨_,o 1 _ rfl,⟨_,o 2 _ rfl,s y (A8 k) w _ d λw' d=>⟨_,rfl,?_⟩⟩⟩⟩;cases hy:g y with
  |true=>exact⟨by rw[qs8 k hy q],d⟩
  |false=>
   rw[up b B];exact⟨⟨i+1,rfl,by omega,λj z C m=>by
    by_cases e:j=i;.subst e;rw[k]at m;cases m;exact hy
    .exact q j z (by omega) m,d⟩,by show xs.length -(i+1)<xs.length - i;omega⟩
 have n:i=xs.length:=by have:=yD l;omega
 subst n;exact⟨by rw[qq8 λj y h=>q j y (A1.1 h).1 h],d⟩
def qlv{W w:A6}{F:List Asn}{p:Option Be}{c:Nat}{xs:List q97}{a:A9}(g:q97->Bool)(e:Rd F p (xs.flatMap q44))(f:xs.length<=9223372036854775807)
 (b:∀(x:q97),x∈xs->∀(w:A6) (K:A9->A6->Prop),St W F w->(∀w',St W F w'->K (Zb (g x)) w')->q01 Zp 4 a [Zg (q44 x).toArray] w K) (h:St W F w):
 qb Zp 114 #[Zl p xs.length c,a] w λv w'=>v=Zb (xs.any g)/\St W F w':=
 F114_of ((qrn g e f b h).of λv w ⟨d,h⟩=>⟨_,d,by rw[qkd],h⟩)
section
def q17(n h w:Int):Bool:=decide (n>=h)&&decide (n<=w)
def qyd(t:q97):Bool:=q1a t.name&&(q17 t.secret.size 1 32&&q17 t.til 0 1099511627776)
def qw9(a b:ByteArray):Bool:=Op.bytesLess a.toList b.toList
def q3e(l:List ByteArray)(i:Nat):Bool:=match l[i]?,l[i+1]? with|some a,A3 b=>qw9 a b|_,_=>Af
def qw5(l:List ByteArray):Bool:=(List.range l.length).all (q3e l)
def qai(t:qa4):Bool:=
 if(t.nets.any (λx=>!q15 x.1 x.2)||t.toks.any (λx=>!qyd x))=Af then A4 else
 if q1a t.name=A4 then A4 else if(t.nets.length:Int)>4 then A4 else if(t.toks.length:Int)>4 then A4 else
 q17 t.names 0 8&&(q17 t.visitors 0 8&&qw5 (t.toks.map (·.name)))
section
variable{W w:World}{F:List Asn}
def q48(n b c:Int)(a:St W F w):qb Zp 66 #[Zi Zk n,Zi Zk b,Zi Zk c] w λv w'=>v=Zb (q17 n b c)/\St W F w':=by unfold q17;exact F66_of (za (λh=>by rw[h];exact⟨rfl,a⟩) λh=>by rw[h];exact⟨rfl,a⟩)
def qwr(t:q97)(a:St W F w):qb Zp 116 #[Zg (q44 t).toArray] w λv w'=>v=Zb (qyd t)/\St W F w':=by
 unfold qyd;refine F116_of (zh a λb w a=>zg 0 a rfl rfl ((qoc _ a).of λv w ⟨c,a⟩=>⟨_,c,za (λh=>zg 0 a rfl rfl ((q48 _ _ _ a).of λv w ⟨c,a⟩=>⟨_,c,za (λd=>z8 0 a rfl rfl ((q48 _ _ _ a).of λv w ⟨c,a⟩=>⟨_,c,?_,a.drop⟩)) λd=>⟨?_,a.drop⟩⟩)) λh=>⟨?_,a.drop⟩⟩));.rw[h,d];rfl
 .rw[h,d];rfl
 .rw[h];rfl
def q0t{x:Int×Int}{K:A9->A6->Prop}(e:qc4 F)(a:St W F w)(f:∀w',St W F w'->K (Zb (!q15 x.1 x.2)) w'):q01 Zp 4 (.func (.func 112) #[] #[]) [Zg (qje x).toArray] w K:=by
 have g:qb Zp 112 #[Zg #[Zi .u32 x.1,Zi Zk x.2]] w K:=by
  refine F112_of (zh a λb w a=>z8 0 a rfl rfl (z8 0 a rfl rfl ((qyr x.1 x.2 (e.cons _) a).of λv w ⟨s,d,c,a⟩=>⟨_,d,?_⟩)));dsimp only;have:(s.toList==(⟨#[]⟩:ByteArray).toList)=!q15 x.1 x.2:=by
   rw[qv3];cases hr:q15 x.1 x.2 with
   |false=>exact yG (c.2 hr)
   |true=>exact yH λh=>by rw[c.1 h]at hr;cases hr
  rw[this];exact f w a.drop
 exact zx (by kernel_rfl) g
def qes{x:q97}{K:A9->A6->Prop}(h:St W F w)(d:∀w',St W F w'->K (Zb (!qyd x)) w'):q01 Zp 4 (.func (.func 115) #[] #[]) [Zg (q44 x).toArray] w K:=by
 have a:qb Zp 115 #[Zg #[Zs x.name,Zs x.secret,Zi Zk x.til]] w K:=
  F115_of (zh h λb w h=>zg 0 h rfl rfl (zg 0 h rfl rfl (z8 0 h rfl rfl ((qwr x h).of λv w ⟨c,h⟩=>⟨_,c,d w h.drop⟩))))
 exact zx (by kernel_rfl) a
def qrm{x:q97}{K:A9->A6->Prop}(h:St W F w)(c:∀w',St W F w'->K (Zs x.name) w'):qn5 Zp 9 (.func (.func 119) #[] #[]) [Zg (q44 x).toArray] w K:=by
 have a:qb Zp 119 #[Zg #[Zs x.name,Zs x.secret,Zi Zk x.til]] w K:=
  F119_of (zh h λb w h=>zg 0 h rfl rfl (c w h.drop))
 exact qn5.lit0 (by kernel_rfl) a
def qtn{x:qa4}{K:A9->A6->Prop}(h:St W F w)(c:∀w',St W F w'->K (Zs x.name) w'):qn5 Zp 9 (.func (.func 71) #[] #[]) [Zg (q43 x).toArray] w K:=by
 have a:qb Zp 71 #[Zg #[Zs x.name,Zi Zk x.names,Zi Zk x.visitors,.slice x.np x.nets.length x.nc,.slice x.tp x.toks.length x.tc]] w K:=
  F71_of (zh h λb w h=>zg 0 h rfl rfl (c w h.drop))
 exact qn5.lit0 (by kernel_rfl) a
def q4k{l:List ByteArray}{i:Nat}{a b:ByteArray}(w:l[i]?=A3 a)(h:l[i+1]?=A3 b):q3e l i=qw9 a b:=by unfold q3e;rw[w,h]
def qhg{l:List ByteArray}{i:Nat}(h:l.length<=i+1):q3e l i=Af:=by
 unfold q3e;rw[List.getElem?_eq_none (l:=l) (i:=i+1) h];split;.rename_i w;cases w
 .rfl
def qgw{p:Option Be}{c:Nat}{xs:List q97}(C:Rd F p (xs.flatMap q44))(J:xs.length<=9223372036854775807)(m:St W F w):
 qb Zp 118 #[Zl p xs.length c,.func (.func 119) #[] #[]] w λv w'=>v=Zb (qw5 (xs.map (·.name)))/\St W F w':=by
 refine F118_of ⟨λvs w=>∃i:Nat,vs=[Zi Zk ((i+1:Nat):Int)]/\(i=0\/i<xs.length)/\(∀j,j<i->q3e (xs.map (·.name)) j=Af)/\St W F w,leftN xs.length,⟨0,rfl,.inl rfl,λj h=>by omega,m⟩,λx w E=>?_⟩;obtain⟨i,H,K,D,m⟩:=E;cases H;have q:=z6 W F;refine za (λd=>?_) λn=>?_
 .have d:i+1<xs.length:=by have:=yC d;omega
  have r:xs[i]?=A3 (xs[i]'(by omega)):=A0 _;generalize xs[i]'(by omega)=x at r;have s:xs[i+1]?=A3 (xs[i+1]'d):=A0 _;generalize xs[i+1]'d=y at s;have I:Zw Zk (((i+1:Nat):Int) - 1)=(i:Int):=by rw[w64];omega
  refine⟨StC W F,zd m,z10 (f:=q44) (size:=3) q (λ_=>rfl) (by omega) C m I (by omega) r λa A=>z10 (f:=q44) (size:=3) q (λ_=>rfl) (by omega) C m rfl d s λa2 k=>?_⟩;refine⟨_,_,_,λG w g=>⟨_,A g 0 _ rfl,⟨_,A g 1 _ rfl,⟨_,A g 2 _ rfl,rfl,g⟩⟩⟩,?_⟩;refine⟨_,_,_,λG w g=>⟨_,k g 0 _ rfl,⟨_,k g 1 _ rfl,⟨_,k g 2 _ rfl,rfl,g⟩⟩⟩,?_⟩;refine zn (α:=Unit) (V:=λ_=>Zs x.name) (B:=λ_=>F) () q (λG w h=>qrm (x:=x) h λw h=>⟨_,rfl,(),rfl,h⟩) λ_=>⟨_,rfl,λG w g=>⟨_,k g 0 _ rfl,⟨_,k g 1 _ rfl,⟨_,k g 2 _ rfl,rfl,g⟩⟩⟩,?_⟩;refine zn (α:=Unit) (V:=λ_=>Zs y.name) (B:=λ_=>F) () q (λG w h=>qrm (x:=y) h λw h=>⟨_,rfl,(),rfl,h⟩) λ_=>⟨_,rfl,trivial,λG w h=>?_⟩;have o:=q4k (l:=xs.map (·.name)) (i:=i) (a:=x.name) (b:=y.name) (by rw[A5,r];rfl) (by rw[A5,s];rfl);refine za (λz=>⟨?_,zb h⟩) λz=>?_
  .have u:qw9 x.name y.name=A4:=by unfold qw9;simpa using z
   have:qw5 (xs.map (·.name))=A4:=by unfold qw5;rw[Ay];exact⟨i,by simp;omega,by rw[o,u];simp⟩
   rw[this]
  .have u:qw9 x.name y.name=Af:=by unfold qw9;simpa using z
   rw[up d J];refine⟨⟨i+1,rfl,.inr d,λj t=>?_,zb h⟩,by show xs.length -(i+1+1)<xs.length -(i+1);omega⟩;by_cases e:j=i;.subst e;rw[o,u]
   .exact D j (by omega)
 .have n:=yD n;have:qw5 (xs.map (·.name))=Af:=by
   unfold qw5;rw[Ad];intro j t;have t:j<xs.length:=by simpa using t
   by_cases h:j<i;.exact D j h
   .exact qhg (by simp;omega)
  rw[this];exact⟨rfl,m⟩
def q2w{p:Option Be}{c:Nat}{xs:List qa4}(C:Rd F p (xs.flatMap q43))(J:xs.length<=9223372036854775807)(m:St W F w):
 qb Zp 70 #[Zl p xs.length c,.func (.func 71) #[] #[]] w λv w'=>v=Zb (qw5 (xs.map (·.name)))/\St W F w':=by
 refine F70_of ⟨λvs w=>∃i:Nat,vs=[Zi Zk ((i+1:Nat):Int)]/\(i=0\/i<xs.length)/\(∀j,j<i->q3e (xs.map (·.name)) j=Af)/\St W F w,leftN xs.length,⟨0,rfl,.inl rfl,λj h=>by omega,m⟩,λx w E=>?_⟩;obtain⟨i,H,K,D,m⟩:=E;cases H;have r:=z6 W F;refine za (λk=>?_) λn=>?_
 .have k:i+1<xs.length:=by have:=yC k;omega
  have s:xs[i]?=A3 (xs[i]'(by omega)):=A0 _;generalize xs[i]'(by omega)=x at s;have t:xs[i+1]?=A3 (xs[i+1]'k):=A0 _;generalize xs[i+1]'k=y at t;have I:Zw Zk (((i+1:Nat):Int) - 1)=(i:Int):=by rw[w64];omega
  refine⟨StC W F,zd m,z10 (f:=q43) (size:=5) r (λ_=>rfl) (by omega) C m I (by omega) s λa q=>z10 (f:=q43) (size:=5) r (λ_=>rfl) (by omega) C m rfl k t λa2 d=>?_⟩;refine⟨_,_,_,_,_,_,_,_,_,λG w g=>⟨_,q g 0 _ rfl,⟨_,q g 1 _ rfl,⟨_,q g 2 _ rfl,⟨_,_,_,q g 3 _ rfl,⟨_,_,_,q g 4 _ rfl,rfl,g⟩⟩⟩⟩⟩,?_⟩;refine⟨_,_,_,_,_,_,_,_,_,λG w g=>⟨_,d g 0 _ rfl,⟨_,d g 1 _ rfl,⟨_,d g 2 _ rfl,⟨_,_,_,d g 3 _ rfl,⟨_,_,_,d g 4 _ rfl,rfl,g⟩⟩⟩⟩⟩,?_⟩;refine zn (α:=Unit) (V:=λ_=>Zs x.name) (B:=λ_=>F) () r (λG w h=>qtn (x:=x) h λw h=>⟨_,rfl,(),rfl,h⟩) λ_=>⟨_,rfl,λG w g=>⟨_,d g 0 _ rfl,⟨_,d g 1 _ rfl,⟨_,d g 2 _ rfl,⟨_,_,_,d g 3 _ rfl,⟨_,_,_,d g 4 _ rfl,rfl,g⟩⟩⟩⟩⟩,?_⟩;refine zn (α:=Unit) (V:=λ_=>Zs y.name) (B:=λ_=>F) () r (λG w h=>qtn (x:=y) h λw h=>⟨_,rfl,(),rfl,h⟩) λ_=>⟨_,rfl,trivial,λG w h=>?_⟩;have o:=q4k (l:=xs.map (·.name)) (i:=i) (a:=x.name) (b:=y.name) (by rw[A5,s];rfl) (by rw[A5,t];rfl);refine za (λA=>⟨?_,zb h⟩) λA=>?_
  .have z:qw9 x.name y.name=A4:=by unfold qw9;simpa using A
   have:qw5 (xs.map (·.name))=A4:=by unfold qw5;rw[Ay];exact⟨i,by simp;omega,by rw[o,z];simp⟩
   rw[this]
  .have z:qw9 x.name y.name=Af:=by unfold qw9;simpa using A
   rw[up k J];refine⟨⟨i+1,rfl,.inr k,λj u=>?_,zb h⟩,by show xs.length -(i+1+1)<xs.length -(i+1);omega⟩;by_cases e:j=i;.subst e;rw[o,z]
   .exact D j (by omega)
 .have n:=yD n;have:qw5 (xs.map (·.name))=Af:=by
   unfold qw5;rw[Ad];intro j u;have u:j<xs.length:=by simpa using u
   by_cases h:j<i;.exact D j h
   .exact qhg (by simp;omega)
  rw[this];exact⟨rfl,m⟩
def qto{t:qa4}(n:qc4 F)(f:qg6 F t)(a:St W F w):qb Zp 69 #[Zg (q43 t).toArray] w λv w'=>v=Zb (qai t)/\St W F w':=by
 refine F69_of (zh a λb w a=>zt 0 a rfl rfl ?_);refine(qnn (λx=>!q15 x.1 x.2) (f.nr.cons _) f.nb (λx _ w K a l=>q0t (n.cons _) a l) a).of λv w ⟨c,a⟩=>⟨_,c,?_⟩;unfold qai;refine⟨λvs w=>vs=[Zb (t.nets.any (λx=>!q15 x.1 x.2)||t.toks.any (λx=>!qyd x))]/\St W (Row b 112 (q43 t)::F) w,za (λh=>⟨by rw[h];rfl,a⟩) λh=>zt 0 a rfl rfl ((qlv (λx=>!qyd x) (f.tr.cons _) f.tb (λx _ w K a l=>qes a l) a).of λv w ⟨c,a⟩=>⟨_,c,by rw[h];rfl,a⟩),λi w m=>?_⟩;obtain⟨o,a⟩:=m;cases o;generalize (t.nets.any (λx=>!q15 x.1 x.2)||t.toks.any (λx=>!qyd x))=i;refine⟨λ_ w=>i=A4/\q1a t.name=Af/\¬(t.nets.length:Int)>4/\¬(t.toks.length:Int)>4/\St W (Row b 112 (q43 t)::F) w,?_,λw m=>?_⟩
 .refine za (λh=>zm h ?_) λh=>?_;.rw[yB h];exact⟨rfl,a.drop⟩
  rw[yA (by rw[h];simp)];refine zg 0 a rfl rfl ((qoc _ a).of λv w ⟨c,a⟩=>⟨_,c,za (λd=>zm d ?_) λd=>?_⟩);.rw[yB (by simpa using d)];exact⟨rfl,a.drop⟩
  have d:q1a t.name=Af:=by simpa using d
  rw[yA (by rw[d];simp)];refine zt 0 a rfl rfl (za (λe=>zm e ?_) λe=>?_);.rw[yB (yC e)];exact⟨rfl,a.drop⟩
  rw[yA (yD e)];refine zt 0 a rfl rfl (za (λg=>?_) λg=>⟨h,d,yD e,yD g,a⟩);rw[yB (yC g)];exact⟨rfl,a.drop⟩
 .obtain⟨h,d,e,g,a⟩:=m;rw[yA (by rw[h];simp),yA (by rw[d];simp),yA e,yA g];refine z8 0 a rfl rfl ((q48 _ _ _ a).of λv w ⟨c,a⟩=>⟨_,c,za (λj=>?_) λj=>⟨by rw[j];rfl,a.drop⟩⟩);refine z8 0 a rfl rfl ((q48 _ _ _ a).of λv w ⟨c,a⟩=>⟨_,c,za (λk=>?_) λk=>⟨by rw[j,k];rfl,a.drop⟩⟩);refine zt 0 a rfl rfl ((qgw (f.tr.cons _) f.tb a).of λv w ⟨c,a⟩=>⟨_,c,by rw[j,k];rfl,a.drop⟩)
end
structure qy where
 wait:Int
 grace:Int
 idle:Int
 lease:Int
 tp:Option Be
 tc:Nat
 tens:List qa4
def qx3(c:qy):List A9:=[Zi Zk c.wait,Zi Zk c.grace,Zi Zk c.idle,Zi Zk c.lease,.slice c.tp c.tens.length c.tc]
structure ql1(F:List Asn)(c:qy):Prop where
 tr:Rd F c.tp (c.tens.flatMap q43)
 tl:c.tens.length<=c.tc
 tb:c.tens.length<=9223372036854775807
 ok:∀t∈c.tens,qg6 F t
 tab:qc4 F
def ql1.cons{F:List Asn}{c:qy}(h:ql1 F c)(A:Asn):ql1 (A::F) c:=⟨h.tr.cons A,h.tl,h.tb,λt w=>(h.ok t w).cons A,h.tab.cons A⟩
def ql1.app{F:List Asn}{c:qy}(h:ql1 F c)(G:List Asn):ql1 (F++G) c:=⟨h.tr.app G,h.tl,h.tb,λt w=>(h.ok t w).app G,h.tab.app G⟩
def ql1.pre{F:List Asn}{c:qy}(h:ql1 F c):∀l:List Asn,ql1 (l++F) c
 |[]=>h
 |A::l=>(h.pre l).cons A
def q28(c:qy):List Int:=[c.wait,c.grace,c.idle,c.lease]
def qj6(c:qy):Bool:=
 if(q28 c).all (λn=>q17 n 1 1073741824)=A4 then A4 else
 if(c.tens.length:Int)<=8 then if c.tens.any (λt=>!qai t)=Af then A4 else qw5 (c.tens.map (·.name))else A4
section
variable{W w:World}{F:List Asn}
def qzn{x:qa4}{K:A9->A6->Prop}(c:qc4 F)(f:qg6 F x)(h:St W F w)(d:∀w',St W F w'->K (Zb (!qai x)) w'):q01 Zp 4 (.func (.func 68) #[] #[]) [Zg (q43 x).toArray] w K:=by
 have e:qb Zp 68 #[Zg #[Zs x.name,Zi Zk x.names,Zi Zk x.visitors,.slice x.np x.nets.length x.nc,.slice x.tp x.toks.length x.tc]] w K:=
  F68_of (zh h λb w h=>zg 0 h rfl rfl (z8 0 h rfl rfl (z8 0 h rfl rfl (zt 0 h rfl rfl (zt 0 h rfl rfl ((qto (t:=x) (c.cons _) (f.cons _) h).of λv w ⟨a,h⟩=>⟨_,a,d w h.drop⟩))))))
 exact zx (by kernel_rfl) e
def q4d{c:qy}(g:ql1 F c)(a:St W F w):qb Zp 35 #[Zg (qx3 c).toArray] w λv w'=>v=Zb (qj6 c)/\St W F w':=by
 refine F35_of (zh a λb w a=>z8 0 a rfl rfl (z8 0 a rfl rfl (z8 0 a rfl rfl (z8 0 a rfl rfl (zh a λn w a=>?_)))));have a:St W (Row n 2 ((q28 c).map (Zi Zk))::Row b 44 (qx3 c)::F) w:=a;unfold qj6;refine⟨λvs w=>∃k:Nat,vs=[Zi Zk (k:Int)]/\k<=4/\(∀x∈(q28 c).take k,q17 x 1 1073741824=Af)/\St W (Row n 2 ((q28 c).map (Zi Zk))::Row b 44 (qx3 c)::F) w,leftN 4,⟨0,rfl,by omega,by simp,a⟩,λx w p=>?_⟩;obtain⟨k,s,u,o,a⟩:=p;cases s;have r:(q28 c).length=4:=rfl;refine za (λd=>?_) λj=>?_
 .have d:k<4:=by have:=yC d;omega
  have e:(q28 c)[k]?=A3 ((q28 c)[k]'d):=A0 _;generalize (q28 c)[k]'d=y at e;refine IxP.row rfl d (z0q (x:=y) 0 a rfl (by rw[A5,e];rfl) ((q48 _ _ _ a).of λv w ⟨i,a⟩=>⟨_,i,za (λh=>?_) λh=>?_⟩))
  .have h:q17 y 1 1073741824=A4:=by simpa using h
   rw[yB (Ay.2 ⟨y,A8 e,by rw[h];simp⟩)];exact⟨rfl,a.drop.drop⟩
  .have h:q17 y 1 1073741824=Af:=by simpa using h
   have t:Zw Zk ((k:Int)+1)=((k+1:Nat):Int):=by rw[w64];omega
   rw[t];refine⟨⟨k+1,rfl,by omega,λz f=>?_,a⟩,by show 4 -(k+1)<4 - k;omega⟩;rw[Ai,e]at f;rcases Ap.1 f with f|f;.exact o z f
   .simp at f;subst f;exact h
 have m:k=4:=by have:=yD j;omega
 subst m;rw[yA (by rw[Bool.not_eq_false,Ad];intro x e;exact o x (by rw[Aa (by omega)];exact e))]
 have a:=a.drop;refine zt 0 a rfl rfl (za (λh=>?_) λh=>?_)
 .rw[yB (yC h)];refine zt 0 a rfl rfl ((qtv (λx=>!qai x) (g.tr.cons _) g.tb (λx e w K a q=>qzn (g.tab.cons _) ((g.ok x e).cons _) a q) a).of λv w ⟨i,a⟩=>⟨_,i,za (λl=>?_) λl=>?_⟩)
  .rw[yA (by simpa using l)];exact zt 0 a rfl rfl ((q2w (g.tr.cons _) g.tb a).of λv w ⟨i,a⟩=>⟨_,i,rfl,a.drop⟩)
  .rw[yB (by simpa using l)];exact⟨rfl,a.drop⟩
 .rw[yA (yD h)];exact⟨rfl,a.drop⟩
def qrc(x y:ByteArray):(x.toList==y.toList)=decide (x=y):=qv3 x y
def qzr{x:qa4}{b:Nat}{s:ByteArray}{G:List Asn}{K:A9->A6->Prop}(h:St W (Row b 9 [Zs s]::G) w)(c:∀w',St W (Row b 9 [Zs s]::G) w'->K (Zb (decide (x.name=s))) w'):q01 Zp 4 (.func (.func 322) #[] #[Zq (A3 ⟨b,0,Bh⟩)]) [Zg (q43 x).toArray] w K:=by
 have a:qb Zp 322 #[Zg #[Zs x.name,Zi Zk x.names,Zi Zk x.visitors,.slice x.np x.nets.length x.nc,.slice x.tp x.toks.length x.tc],Zq (A3 ⟨b,0,Bh⟩)] w K:=
  F322_of (zh h λb w h=>zg 0 h rfl rfl (LdS.n 1 h rfl rfl (by rw[qrc];exact c w h.drop)))
 exact zx (by kernel_rfl) a
def qkt{x:q97}{b:Nat}{s:ByteArray}{G:List Asn}{K:A9->A6->Prop}(h:St W (Row b 9 [Zs s]::G) w)(c:∀w',St W (Row b 9 [Zs s]::G) w'->K (Zb (decide (x.name=s))) w'):q01 Zp 4 (.func (.func 323) #[] #[Zq (A3 ⟨b,0,Bh⟩)]) [Zg (q44 x).toArray] w K:=by
 have a:qb Zp 323 #[Zg #[Zs x.name,Zs x.secret,Zi Zk x.til],Zq (A3 ⟨b,0,Bh⟩)] w K:=
  F323_of (zh h λb w h=>zg 0 h rfl rfl (LdS.n 1 h rfl rfl (by rw[qrc];exact c w h.drop)))
 exact zx (by kernel_rfl) a
def q99:qa4:=⟨⟨#[]⟩,0,0,Bh,0,[],Bh,0,[]⟩
def qor:q97:=⟨⟨#[]⟩,⟨#[]⟩,0⟩
def q59(c:qy)(s:ByteArray):Option qa4:=c.tens.find? λt=>decide (t.name=s)
def q8j(t:qa4)(s:ByteArray):Option q97:=t.toks.find? λx=>decide (x.name=s)
def q0j{α:Type}{g:α->Bool}{xs:List α}:(qt4 g xs<0/\xs.find? g=Bh)\/∃i x,qt4 g xs=((i:Nat):Int)/\xs[i]?=A3 x/\xs.find? g=A3 x:=by
 unfold qt4;cases h:xs.findIdx? g with
 |none=>refine .inl ⟨by show(-1:Int)<0;omega,List.find?_eq_none.2 λx b=>?_⟩;have:=Av.1 h x b;simp[this]
 |some i=>obtain⟨w,a,d⟩:=Ag.1 h;exact .inr ⟨i,_,rfl,A0 w,List.find?_eq_some_iff_getElem.2 ⟨a,i,w,rfl,λj c=>by have:=d j c;simpa using this⟩⟩
def qas{c:qy}(s:ByteArray)(k:ql1 F c)(h:St W F w):qb Zp 278 #[Zg (qx3 c).toArray,Zs s] w λv w'=>v=Zt #[Zg (q43 ((q59 c s).getD q99)).toArray,Zb (q59 c s).isSome]/\St W F w':=by
 refine F278_of (zh h λb w h=>zh h λl w h=>zh h λp w h=>zt 2 h rfl rfl ?_);have h:St W (Row l 9 [Zs s]::Row p 112 (q43 q99)::Row b 44 (qx3 c)::F) w:=h.p1;refine(qvn (λx=>decide (x.name=s)) (((k.tr.cons _).cons _).cons _) k.tb (λx q w K h o=>qzr h o) h).of λv w ⟨m,h⟩=>⟨_,m,?_⟩;unfold q59;rcases q0j (g:=λt:qa4=>decide (t.name=s)) (xs:=c.tens)with ⟨j,e⟩|⟨i,x,j,e,n⟩
 .rw[e];refine zm (yG j) ?_;refine St1.zz 1 h rfl λw h=>St1.zz 1 h rfl λw h=>St1.zz 1 h rfl λw h=>St1.zz 1 h rfl λw h=>St1.zz 1 h rfl λw h=>?_;exact zg 1 h rfl rfl (z8 1 h rfl rfl (z8 1 h rfl rfl (zt 1 h rfl rfl (zt 1 h rfl rfl ⟨rfl,h.drop.drop.drop⟩))))
 .rw[n,j];refine zl (yH (by omega)) ?_;refine zt 2 h rfl rfl (z0j (f:=q43) (size:=5) (λ_=>rfl) (by omega) (((k.tr.cons _).cons _).cons _) h rfl (A1.1 e).1 e λa d=>?_);refine⟨_,d 0 _ rfl,⟨_,d 1 _ rfl,⟨_,d 2 _ rfl,⟨_,_,_,d 3 _ rfl,⟨_,_,_,d 4 _ rfl,?_⟩⟩⟩⟩⟩;refine St1.zz 1 h rfl λw h=>St1.zz 1 h rfl λw h=>St1.zz 1 h rfl λw h=>St1.zz 1 h rfl λw h=>St1.zz 1 h rfl λw h=>?_;exact zg 1 h rfl rfl (z8 1 h rfl rfl (z8 1 h rfl rfl (zt 1 h rfl rfl (zt 1 h rfl rfl ⟨rfl,h.drop.drop.drop⟩))))
def qeq{t:qa4}(s:ByteArray)(j:qg6 F t)(h:St W F w):qb Zp 279 #[Zg (q43 t).toArray,Zs s] w λv w'=>v=Zt #[Zg (q44 ((q8j t s).getD qor)).toArray,Zb (q8j t s).isSome]/\St W F w':=by
 refine F279_of (zh h λb w h=>zh h λk w h=>zh h λo w h=>zt 2 h rfl rfl ?_);have h:St W (Row k 9 [Zs s]::Row o 114 (q44 qor)::Row b 112 (q43 t)::F) w:=h.p1;refine(qrn (λx=>decide (x.name=s)) (((j.tr.cons _).cons _).cons _) j.tb (λx p w K h n=>qkt h n) h).of λv w ⟨l,h⟩=>⟨_,l,?_⟩;unfold q8j;rcases q0j (g:=λt:q97=>decide (t.name=s)) (xs:=t.toks)with ⟨d,c⟩|⟨i,x,d,c,m⟩
 .rw[c];refine zm (yG d) ?_;refine St1.zz 1 h rfl λw h=>St1.zz 1 h rfl λw h=>St1.zz 1 h rfl λw h=>?_;exact zg 1 h rfl rfl (zg 1 h rfl rfl (z8 1 h rfl rfl ⟨rfl,h.drop.drop.drop⟩))
 .rw[m,d];refine zl (yH (by omega)) ?_;refine zt 2 h rfl rfl (z0j (f:=q44) (size:=3) (λ_=>rfl) (by omega) (((j.tr.cons _).cons _).cons _) h rfl (A1.1 c).1 c λa e=>?_);refine⟨_,e 0 _ rfl,⟨_,e 1 _ rfl,⟨_,e 2 _ rfl,?_⟩⟩⟩;refine St1.zz 1 h rfl λw h=>St1.zz 1 h rfl λw h=>St1.zz 1 h rfl λw h=>?_;exact zg 1 h rfl rfl (zg 1 h rfl rfl (z8 1 h rfl rfl ⟨rfl,h.drop.drop.drop⟩))
end
end
def or0(x y:UInt8):x|||y=0↔x=0/\y=0:=by
 constructor
 .intro h;have w:x.toNat|||y.toNat=0:=by rw[<-UInt8.toNat_or,h];rfl
  rw[Nat.or_eq_zero_iff]at w;exact⟨Aq.1 w.1,Aq.1 w.2⟩
 .rintro⟨rfl,rfl⟩;rfl
def xor0(x y:UInt8):x ^^^ y=0↔x=y:=UInt8.xor_eq_zero_iff
def qos{W w:A6}{F:List Asn}{p q:Option Be}{d e:Nat}{a b:List UInt8}(A:Rd F p (a.map qd))(n:Rd F q (b.map qd))(H:a.length<=1000000)(f:St W F w):
 qb Zp 350 #[Zl p a.length d,Zl q b.length e] w λv w'=>v=Zb (decide (a=b))/\St W F w':=by
 refine F350_of (za (λh=>⟨?_,f⟩) λh=>?_)
 .have h:(a.length:Int)≠b.length:=by simpa using h
  rw[yH (λe=>h (by rw[e]))]
 have E:a.length=b.length:=by
  have:¬(a.length:Int)≠b.length:=by simpa using h
  omega
 refine⟨λvs w=>∃(i:Nat) (u:UInt8),vs=[Zi .u8 (u.toNat:Int),Zi Zk i]/\i<=a.length/\(u=0↔a.take i=b.take i)/\St W F w,leftN a.length,⟨0,0,rfl,by omega,by simp,f⟩,λu x w z=>?_⟩;obtain⟨i,u,B,I,s,f⟩:=z;cases B;refine za (λc=>?_) λj=>⟨?_,f⟩
 .have c:i<a.length:=by have:=yC c;omega
  have g:a[i]?=A3 (a[i]'c):=A0 _;have k:b[i]?=A3 (b[i]'(by omega)):=A0 _;generalize a[i]'c=x at g;generalize b[i]'(by omega)=y at k;have t:=z6 W F;refine⟨StC W _,zd f,IxP.byC t A f rfl c g λD m=>IxP.byC t n f rfl (by omega) k λC l=>?_⟩;refine⟨_,z0g m,_,z0g l,λG w h=>?_⟩;rw[qjz,orV,up c (by omega)];refine⟨⟨i+1,u|||(x ^^^ y),rfl,by omega,?_,zb h⟩,by show a.length -(i+1)<a.length - i;omega⟩;rw[or0,xor0,s,Ai,Ai,g,k];constructor;.rintro⟨o,rfl⟩;rw[o]
  .intro o;have:=List.append_inj' o rfl;exact⟨this.1,by simpa using this.2⟩
 .have r:i=a.length:=by have:=yD j;omega
  subst r;rw[B0,E,B0]at s;congr 1;rw[Bool.eq_iff_iff];simp only[beq_iff_eq,yJ];rw[<-s];constructor;.intro h;exact Aq.1 (by show u.toNat=0;omega)
  .intro h;rw[h];rfl
section
abbrev qva:=List ((ByteArray×ByteArray)×Int)
def qg1(b:Nat)(c:qy)(R:qva):Asn:=exA λm:Nat=>qz [Row b 158 (qx3 c++[.map (A3 m)]),qg kkV (Zi Zk) m R]
def uMv:Zp.underlying 156=A3 (.map 326 3):=Tryz.underlying156
def iIn:Zp.info? 3=A3 Tryz.t3:=by kernel_rfl
def zIn:Tryz.t3.zero=A3 (Zi Zk 0):=rfl
section
variable{W w:World}{F:List Asn}{b:Nat}{c:qy}{R:qva}
def qg1.open_(h:St W (qg1 b c R::F) w):∃m,St W (Row b 158 (qx3 c++[.map (A3 m)])::qg kkV (Zi Zk) m R::F) w:=by obtain⟨m,h⟩:=h.of_ex;exact⟨m,h.of_sep⟩
def qg1.shut(m:Nat)(h:St W (Row b 158 (qx3 c++[.map (A3 m)])::qg kkV (Zi Zk) m R::F) w):St W (qg1 b c R::F) w:=z01 m (zk (l:=[_,_]) h)
def q4u(d:ql1 F c)(a:St W F w):qb Zp 36 #[Zg (qx3 c).toArray] w λv w'=>(qj6 c=A4/\v=Zq Bh/\St W F w')\/(qj6 c=Af/\∃b,v=qc b/\St W (qg1 b c []::F) w'):=by
 refine F36_of (zh a λb w a=>z8 0 a rfl rfl (z8 0 a rfl rfl (z8 0 a rfl rfl (z8 0 a rfl rfl (zt 0 a rfl rfl ?_)))));refine(q4d (d.cons _) a).of λv w ⟨f,a⟩=>⟨_,f,za (λh=>?_) λh=>?_⟩;.exact .inl ⟨by simpa using h,rfl,a.drop⟩
 refine z8 0 a rfl rfl (z8 0 a rfl rfl (z8 0 a rfl rfl (z8 0 a rfl rfl (zt 0 a rfl rfl (qs5.f (ν:=Int) kkV (Zi Zk) a λm w a=>zh a λe w a=>.inr ⟨by simpa using h,e,rfl,qg1.shut m (zo 3 [0,1] a rfl)⟩)))))
def q7e(c:qy)(ten tok:ByteArray):Option q97:=q8j ((q59 c ten).getD q99) tok
def qg6.found(w:ql1 F c)(s:ByteArray):qg6 F ((q59 c s).getD q99):=by
 cases h:q59 c s with
 |none=>exact⟨Rd.nil _ _,by simp[q99],by simp[q99],Rd.nil _ _,by simp[q99],by simp[q99],by simp[q99]⟩
 |some t=>exact w.ok t (Aw h)
def qcf{ten tok:ByteArray}{i:A9}{Q:A6->Prop}(k:ql1 F c)
 (d:∀t,q7e c ten tok=A3 t->∀(w:A6) (K:A9->A6->Prop),St W (qg1 b c R::F) w->(∀w',Q w'->K (Zt #[]) w')->q01 Zp 0 i [Zg (q44 t).toArray] w K)
 (e:q7e c ten tok=Bh->∀w,St W (qg1 b c R::F) w->Q w) (a:St W (qg1 b c R::F) w):qb Zp 206 #[qc b,Zs ten,Zs tok,i] w λv w'=>v=Zt #[]/\Q w':=by
 obtain⟨m,a⟩:=qg1.open_ a;refine F206_of (z7 (z8 0 a rfl rfl (z8 0 a rfl rfl (z8 0 a rfl rfl (z8 0 a rfl rfl (zt 0 a rfl rfl ?_))))));refine(qas ten ((k.cons _).cons _) a).of λv w ⟨g,a⟩=>⟨_,_,_,_,_,_,_,_,_,_,g,zh a λf w a=>?_⟩;have l:qg6 (Row f 112 (q43 ((q59 c ten).getD q99))::Row b 158 (qx3 c++[.map (A3 m)])::qg kkV (Zi Zk) m R::F) ((q59 c ten).getD q99):=(((qg6.found k ten).cons _).cons _).cons _;refine St1.zz 0 a rfl λw a=>St1.zz 0 a rfl λw a=>St1.zz 0 a rfl λw a=>St1.zz 0 a rfl λw a=>St1.zz 0 a rfl λw a=>?_;refine zg 0 a rfl rfl (z8 0 a rfl rfl (z8 0 a rfl rfl (zt 0 a rfl rfl (zt 0 a rfl rfl ?_))));refine(qeq tok l a).of λv w ⟨g,a⟩=>⟨_,_,_,_,g,zh a λj w a=>?_⟩;refine St1.zz 0 a rfl λw a=>St1.zz 0 a rfl λw a=>St1.zz 0 a rfl λw a=>?_;have hV:∀w,St W (Row j 114 (q44 ((q7e c ten tok).getD qor))::Row f 112 (q43 ((q59 c ten).getD q99))::Row b 158 (qx3 c++[.map (A3 m)])::qg kkV (Zi Zk) m R::F) w->St W (qg1 b c R::F) w:=λw h=>qg1.shut m h.drop.drop;have a:St W (Row j 114 (q44 ((q7e c ten tok).getD qor))::Row f 112 (q43 ((q59 c ten).getD q99))::Row b 158 (qx3 c++[.map (A3 m)])::qg kkV (Zi Zk) m R::F) w:=a;unfold q7e at d e hV a;cases h:q8j ((q59 c ten).getD q99) tok with
 |none=>exact zl rfl ⟨rfl,e h w (hV w a)⟩
 |some t=>rw[h]at hV a;exact zm rfl (zg 0 a rfl rfl (zg 0 a rfl rfl (z8 0 a rfl rfl (d t h w _ (hV w a) λw' n=>⟨rfl,rfl,n⟩))))
def qqd(c:qy)(R:qva)(ten tok:ByteArray)(now:Int):Bool:=match q7e c ten tok with|none=>A4|some t=>((qe R (ten,tok)).getD 0==0)&&decide (now<t.til)
def q2u{ten tok:ByteArray}{now:Int}(u:ql1 F c)(a:St W (qg1 b c R::F) w):qb Zp 348 #[qc b,Zs ten,Zs tok,Zi Zk now] w λv w'=>v=Zb (qqd c R ten tok now)/\St W (qg1 b c R::F) w':=by
 refine F348_of (zh a λl w a=>zh a λg w a=>zh a λk w a=>zh a λi w a=>zh a λf w a=>z0m 0 a rfl (by simp) λw a=>?_);have a:St W (Row f 4 [Zb A4]::Row i 2 [Zi Zk now]::Row k 9 [Zs tok]::Row g 9 [Zs ten]::Row l 90 [qc b]::qg1 b c R::F) w:=a;refine LdP.n 4 a rfl rfl (LdS.n 3 a rfl rfl (LdS.n 2 a rfl rfl ?_));have a:=zf 5 0 a rfl;refine(qcf (Q:=λw=>St W (Row f 4 [Zb (qqd c R ten tok now)]::qg1 b c R::F) w) (F:=Row f 4 [Zb A4]::Row i 2 [Zi Zk now]::Row k 9 [Zs tok]::Row g 9 [Zs ten]::Row l 90 [qc b]::F) (((((u.cons _).cons _).cons _).cons _).cons _) (λt o w K a r=>?_) (λy w a=>?_) a).of λv w ⟨q,a⟩=>⟨q,LdB.n 0 a rfl rfl ⟨rfl,a.drop⟩⟩
 .obtain⟨m,a⟩:=qg1.open_ a;have s:qb Zp 380 #[Zg #[Zs t.name,Zs t.secret,Zi Zk t.til],qc l,qc g,qc k,qc i,qc f] w K:=by
   refine F380_of (zh a λp w a=>?_);have d:=z6 W (Row p 114 (q44 t)::Row b 158 (qx3 c++[.map (A3 m)])::qg kkV (Zi Zk) m R::Row f 4 [Zb A4]::Row i 2 [Zi Zk now]::Row k 9 [Zs tok]::Row g 9 [Zs ten]::Row l 90 [qc b]::F);refine⟨StC W _,zd a,_,z00 7 d rfl rfl,z7 ⟨_,z0b 1 d rfl rfl,_,QtS.n 6 d rfl rfl,_,QtS.n 5 d rfl rfl,(qe R (ten,tok)).getD 0,λG w h=>?_,?_⟩⟩
   .refine q6e kKK uMv iIn zIn 2 ((d G w).1 h) rfl (ten,tok) A4 ?_;have e:((qe R (ten,tok)).map (Zi Zk)).getD (Zi Zk 0)=Zi Zk ((qe R (ten,tok)).getD 0):=by cases qe R (ten,tok)<;>rfl
    rw[yA (by simp),e];exact⟨_,rfl,rfl,h⟩
   .have j:∀x w',St W (Row p 114 (q44 t)::Row b 158 (qx3 c++[.map (A3 m)])::qg kkV (Zi Zk) m R::Row f 4 [Zb x]::Row i 2 [Zi Zk now]::Row k 9 [Zs tok]::Row g 9 [Zs ten]::Row l 90 [qc b]::F) w'->x=qqd c R ten tok now->K (Zt #[]) w':=λx w' h e=>r w' (by subst e;exact(qg1.shut m (zo 8 [1,2,3] h rfl)).p1)
    refine za (λn=>⟨_,z03 4 d rfl rfl,_,zj 0 d rfl rfl,Ef.st 3 d rfl (by simp) ⟨rfl,trivial,λG w h=>j _ w (zb h) ?_⟩⟩) λn=>Ef.st 3 d rfl (by simp) ⟨rfl,trivial,λG w h=>j _ w (zb h) ?_⟩;.unfold qqd;rw[o];dsimp only;rw[n];rfl
    .unfold qqd;rw[o];dsimp only;rw[n];rfl
  exact zx (by kernel_rfl) s
 .unfold qqd;rw[y];exact zo 6 [1,0] a rfl
def qv7(c:qy)(R:qva)(ten tok:ByteArray):qva×Bool:=match q7e c ten tok with
 |none=>(R,A4)
 |some _=>(qk R (ten,tok) (Zw Zk ((qe R (ten,tok)).getD 0+1)),Zw Zk ((qe R (ten,tok)).getD 0+1)==1)
def q7o{ten tok:ByteArray}(x:ql1 F c)(a:St W (qg1 b c R::F) w):qb Zp 130 #[qc b,Zs ten,Zs tok] w λv w'=>v=Zb (qv7 c R ten tok).2/\St W (qg1 b c (qv7 c R ten tok).1::F) w':=by
 refine F130_of (zh a λg w a=>zh a λl w a=>zh a λo w a=>zh a λf w a=>z0m 0 a rfl (by simp) λw a=>?_);have a:St W (Row f 4 [Zb A4]::Row o 9 [Zs tok]::Row l 9 [Zs ten]::Row g 90 [qc b]::qg1 b c R::F) w:=a;refine LdP.n 3 a rfl rfl (LdS.n 2 a rfl rfl (LdS.n 1 a rfl rfl ?_));have a:=zf 4 0 a rfl;refine(qcf (Q:=λw=>St W (Row f 4 [Zb (qv7 c R ten tok).2]::qg1 b c (qv7 c R ten tok).1::F) w) (F:=Row f 4 [Zb A4]::Row o 9 [Zs tok]::Row l 9 [Zs ten]::Row g 90 [qc b]::F) ((((x.cons _).cons _).cons _).cons _) (λt r w K a s=>?_) (λi w a=>?_) a).of λv w ⟨k,a⟩=>⟨k,LdB.n 0 a rfl rfl ⟨rfl,a.drop⟩⟩
 .obtain⟨m,a⟩:=qg1.open_ a;have u:qb Zp 207 #[Zg #[Zs t.name,Zs t.secret,Zi Zk t.til],qc l,qc o,qc g,qc f] w K:=by
   refine F207_of (zh a λy w a=>LdS.n 5 a rfl rfl (LdS.n 4 a rfl rfl (zh a λj w a=>⟨rfl,StA.r 0 a rfl rfl (λv k=>by simp at k;rcases k with rfl|rfl<;>trivial) λw a=>?_⟩)));have a:St W (Row j 326 [Zs ten,Zs tok]::Row b 158 (qx3 c++[.map (A3 m)])::qg kkV (Zi Zk) m R::Row f 4 [Zb A4]::Row g 90 [qc b]::F) w:=zo 8 [0,2,3,4,7] a rfl;have e:∀L:qva,((qe L (ten,tok)).map (Zi Zk)).getD (Zi Zk 0)=Zi Zk ((qe L (ten,tok)).getD 0):=λL=>by cases qe L (ten,tok)<;>rfl
   have d:=z6 W (Row j 326 [Zs ten,Zs tok]::Row b 158 (qx3 c++[.map (A3 m)])::qg kkV (Zi Zk) m R::Row f 4 [Zb A4]::Row g 90 [qc b]::F);refine⟨StC W _,zd a,_,z00 4 d rfl rfl,z7 ⟨_,z0b 1 d rfl rfl,#[Zs ten,Zs tok],rfl,QtA.r 0 d rfl rfl,(qe R (ten,tok)).getD 0,λG w h=>?_,?_⟩⟩
   .refine q6e kKK uMv iIn zIn 2 ((d G w).1 h) rfl (ten,tok) A4 ?_;rw[yA (by simp),e];exact⟨_,rfl,rfl,h⟩
   generalize i:(qe R (ten,tok)).getD 0=n;refine zn (α:=Nat) (V:=λt=>Zt #[Zi Zk n,Zi Zk (t:Int)]) (B:=λt=>qs6 kkV (Zi Zk) m (qk R (ten,tok) n) (ten,tok) t::Row j 326 [Zs ten,Zs tok]::Row b 158 (qx3 c++[.map (A3 m)])::Row f 4 [Zb A4]::Row g 90 [qc b]::F) 0 d (λG w h=>?_) λp=>⟨_,_,rfl,λG w h=>?_,?_⟩
   .refine qve kKK uMv (z:=0) iIn zIn 2 h rfl (ten,tok) λp w h=>⟨_,_,rfl,p,?_,?_⟩;.rw[i]
    .rw[i]at h;exact zf 2 0 h rfl
   .have q:=(zb h).imp λh=>qs6.weak;refine q6e kKK uMv iIn zIn 0 q rfl (ten,tok) A4 ?_;rw[yA (by simp),e,qj1];exact⟨_,rfl,rfl,h⟩
   refine zn (α:=Unit) (V:=λt=>Zt #[]) (B:=λt=>qg kkV (Zi Zk) m (qk R (ten,tok) (Zw Zk (n+1)))::Row j 326 [Zs ten,Zs tok]::Row b 158 (qx3 c++[.map (A3 m)])::Row f 4 [Zb A4]::Row g 90 [qc b]::F) () ir (λG w h=>?_) λ_=>⟨rfl,trivial,λG w h=>?_⟩
   .refine qvb (vl:=Zi Zk) kKK (qj1 _ _ _) (Zw Zk (n+1)) 0 h rfl λw h=>⟨(),rfl,?_⟩;rw[qe7]at h;exact h
   have a:=zb h;have d:=z6 W (qg kkV (Zi Zk) m (qk R (ten,tok) (Zw Zk (n+1)))::Row j 326 [Zs ten,Zs tok]::Row b 158 (qx3 c++[.map (A3 m)])::Row f 4 [Zb A4]::Row g 90 [qc b]::F);refine⟨StC W _,zd a,_,z00 4 d rfl rfl,z7 ⟨_,z0b 2 d rfl rfl,#[Zs ten,Zs tok],rfl,QtA.r 1 d rfl rfl,Zw Zk (n+1),λG w h=>?_,?_⟩⟩
   .refine q6e kKK uMv iIn zIn 0 ((d G w).1 h) rfl (ten,tok) A4 ?_;rw[yA (by simp),e,qj1];exact⟨_,rfl,rfl,h⟩
   refine Ef.st 3 d rfl (by simp) ⟨rfl,trivial,λG w h=>s w ?_⟩;have h:=zb h;unfold qv7;rw[r];dsimp only;rw[i];exact(qg1.shut m (zo 5 [2,0,3] h rfl)).p1
  exact zx (by kernel_rfl) u
 .unfold qv7;rw[i];exact zo 5 [1,0] a rfl
def qza(c:qy)(ten tok nonce:ByteArray):ByteArray:=match q7e c ten tok with
 |none=>⟨#[]⟩
 |some t=>mkS (q07 (qm t.secret) [qm ten,qm tok,qm nonce])
def qls{ten tok nonce:ByteArray}(n:ql1 F c)(a:St W (qg1 b c R::F) w):qb Zp 349 #[qc b,Zs ten,Zs tok,Zs nonce] w λv w'=>v=Zs (qza c ten tok nonce)/\St W (qg1 b c R::F) w':=by
 refine F349_of (zh a λe w a=>zh a λl w a=>zh a λj w a=>zh a λd w a=>z0m 0 a rfl (by simp) λw a=>?_);have a:St W (Row d 9 [Zs ⟨#[]⟩]::Row j 9 [Zs nonce]::Row l 9 [Zs tok]::Row e 9 [Zs ten]::qg1 b c R::F) w:=a;refine LdS.n 3 a rfl rfl (LdS.n 2 a rfl rfl ?_);have a:=zf 4 0 a rfl;refine(qcf (Q:=λw=>St W (Row d 9 [Zs (qza c ten tok nonce)]::qg1 b c R::F) w) (F:=Row d 9 [Zs ⟨#[]⟩]::Row j 9 [Zs nonce]::Row l 9 [Zs tok]::Row e 9 [Zs ten]::F) ((((n.cons _).cons _).cons _).cons _) (λt m w K a o=>?_) (λr w a=>?_) a).of λv w ⟨f,a⟩=>⟨f,LdS.n 0 a rfl rfl ⟨rfl,a.drop⟩⟩
 .have g:(qm t.secret).length<=9223372036854775807:=(qg6.found n ten).sb t (Aw (by unfold q7e q8j at m;exact m));have q:qb Zp 381 #[Zg #[Zs t.name,Zs t.secret,Zi Zk t.til],qc e,qc l,qc j,qc d] w K:=by refine F381_of (zh a λy w a=>zg 0 a rfl rfl ?_);rw[show t.secret=mkS (qm t.secret)by unfold qm;rw[qd5]];refine qcb uS uB uU8 a λx s w p a=>⟨_,_,_,rfl,LdS.n 6 a rfl rfl (LdS.n 5 a rfl rfl (LdS.n 4 a rfl rfl (zh a λu w a=>?_)))⟩;refine(qqe (k:=qm t.secret) (ws:=[qm ten,qm tok,qm nonce]) (Rd.cons (z0x 0 λi v h=>by rw[Ac,A7 (A1.1 h).1];exact h) _) p g (by simp only[List.map_cons,List.map_nil,qc8,qm,qd5];exact z0k) (by simp) a).of λv w ⟨f,a⟩=>⟨_,f,?_⟩;have a:St W (qg1 b c R::Row d 9 [Zs ⟨#[]⟩]::F) w:=zo 8 [3,4] a rfl;refine z0m 1 a rfl (by simp) λw a=>o w ?_;unfold qza;rw[m];exact a.p1
  exact zx (by kernel_rfl) q
 .unfold qza;rw[r];exact zo 5 [1,0] a rfl
def qfb(c:qy)(R:qva)(ten tok nonce proof:ByteArray)(now:Int):Int:=
 if qqd c R ten tok now=A4 then 3 else if qza c ten tok nonce=⟨#[]⟩then 101 else if qza c ten tok nonce=proof then 0 else 101
def qpu(c:qy)(ten tok nonce:ByteArray):(qza c ten tok nonce).size<=64:=by
 unfold qza;split;.decide
 .rw[qf1];unfold q07;split;.rw[qyb,qke];omega
  .simp
def qup{ten tok nonce d:ByteArray}{now:Int}(o:ql1 F c)(f:St W (qg1 b c R::F) w):qb Zp 313 #[qc b,Zs ten,Zs tok,Zs nonce,Zs d,Zi Zk now] w λv w'=>v=Zi Zk (qfb c R ten tok nonce d now)/\St W (qg1 b c R::F) w':=by
 unfold qfb;refine F313_of ((q2u o f).of λv w ⟨g,f⟩=>⟨_,g,za (λh=>?_) λh=>?_⟩);.rw[yB (by simpa using h)];exact⟨rfl,f⟩
 rw[yA (by simpa using h)];refine(qls o f).of λv w ⟨g,f⟩=>⟨_,g,?_⟩;have n:=qpu c ten tok nonce;generalize qza c ten tok nonce=x at n⊢;dsimp only;rw[qrc];refine za (λk=>?_) λk=>?_;.rw[yB (yC k)];exact⟨rfl,f⟩
 rw[yA (yD k)];have e:∀s:ByteArray,s=mkS (qm s):=λs=>by unfold qm;rw[qd5]
 obtain⟨x,rfl⟩:∃l,x=mkS l:=⟨_,e x⟩;obtain⟨d,rfl⟩:∃l,d=mkS l:=⟨_,e d⟩;rw[qf1]at n;refine qcb uS uB uU8 f λy q w r f=>⟨_,_,_,rfl,qcb uS uB uU8 f λt u w p f=>⟨_,_,_,rfl,?_⟩⟩;refine(qos (a:=x) (b:=d) (Rd.cons (z0x 0 λi v h=>by rw[Ac,A7 (A1.1 h).1];exact h) _) (z0x 0 λi v h=>by rw[Ac,A7 (A1.1 h).1];exact h) (by omega) f).of λv w ⟨g,f⟩=>⟨_,g,?_⟩;have m:mkS x=mkS d↔x=d:=⟨λh=>by have:=yE qm h;simpa [qm,mkS]using this,λh=>by rw[h]⟩;refine za (λj=>?_) λj=>?_;.rw[yA (λh=>by rw[yG (m.1 h)]at j;cases j)];exact⟨rfl,f.drop.drop⟩
 .rw[yB (m.2 (by simpa using j))];exact⟨rfl,f.drop.drop⟩
end
end
end Go.Proofs.YtfjifcfbmhpcaaaGreatDoor
