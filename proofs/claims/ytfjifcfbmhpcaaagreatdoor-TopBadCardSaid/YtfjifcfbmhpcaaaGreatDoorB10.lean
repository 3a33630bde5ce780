/-
  A part of the proof of TopBad.
-/
import Derived.Test.YtfjifcfbmhpcaaaGreatDoorB09
import Derived.Test.YtfjifcfbmhpcaaaGreatDoorB08
import Derived.Test.YtfjifcfbmhpcaaaGreatDoorB02
import Derived.Test.YtfjifcfbmhpcaaaGreatDoorB07
import Derived.Test.YtfjifcfbmhpcaaaGreatDoorB03
import Derived.Test.YtfjifcfbmhpcaaaGreatDoorB00
set_option linter.all false
namespace Go.Proofs.YtfjifcfbmhpcaaaGreatDoor
open Go
open Go.Proofs.Tryz renaming prog → Zp
open Go.IntKind renaming i64 → Zk, wrap → Zw
open Go.Addr renaming add → Za
open Go.Value renaming int → Zi, string → Zs, pointer → Zq, bool → Zb, tuple → Zt, slice → Zl, agg → Zg
open _root_.List renaming getElem?_eq_getElem->A0,getElem?_eq_some_iff->A7,take_of_length_le->A8,getElem?_map->A9,length_map->Ac,getElem?_append_left->Ad,length_cons->Ae,getElem?_take_of_lt->Ag,getElem?_take->Ah,getElem?_drop->Ai,length_drop->Aj,mem_of_getElem?->Ak,take_length->Ap,getElem?_append_right->Aq,findIdx?_eq_some_iff_getElem->As,mem_map->Au,length_take->Aw,replicate->Ax,take_append_of_le_length->Ay,take_add_one->B1,all_eq_true->B3,map_cons->B6,mem_append->B9,length_append->Ba,pairwise_cons->Bb,drop_eq_nil_of_le->Be,getElem?_eq_none->Bg,mem_cons->Bl,eq_nil_of_length_eq_zero->Bm,map_append->Bo,set_cons_succ->Bq,set_cons_zero->Br,findIdx?_eq_none_iff->Bs,mem_of_find?_eq_some->Bt,ext_getElem?->Bu,size_toArray->Bv,all_eq_false->Bw,foldl_append->Bx,map_drop->By,map_take->Bz,filter_cons->C0,length_nil->C6,append_nil->C7,length_mergeSort->C9,take_zero->Cd,length->Ce,length_pos_iff->Cf,mem_singleton->Cg,any_eq_true->Cr,range_succ->Cu,nil_append->Cv,range->Cy,map_nil->D1
open _root_.Option renaming some->A1,none->A2,map_some->C4
open Go renaming World->A3,Value->A5,Addr->B5,MapEntry->Cc,TypeId->Cp,Program->D5,Operand->D6
open _root_.Bool renaming false->A4,true->A6,true_and->Av,and_eq_true->B4,or_eq_true->Cx
open _root_.Nat renaming mul_one->Aa,zero_add->Am,le_refl->Ao,min_eq_left->B0,min_eq_right->Bj,le_trans->Bp,add_sub_cancel_left->C1,mod_eq_of_lt->C2,mod_lt->Ch,eq_zero_or_pos->Ci,sub_zero->Cj,lt_or_ge->Cm,le_total->Co,lt_of_not_le->Cq,min_le_left->Cw,zero_le->D2
open Go.Lib renaming setCells->Ab,join->Cb,pow10Tab->Cl,itoa->D3,TabIs->D7
open _root_.Int renaming toNat_natCast->Af,toNat->Bc,le_refl->Ct
open Go.IntKind renaming bits->An
open _root_.Array renaming getElem?_toList->Ar,contains_eq_mem->Bh,getElem?_eq_none->C3,replicate->C5,getElem?_modify->C8,getElem?_mapIdx->Ca,mem_push->Cz
open _root_.BitVec renaming ofInt->Az
open _root_.UInt8 renaming ofNat->B2,toNat_inj->Bn
open Go.Value renaming nilFunc->B7
open Go.MapKept renaming run_getObj_map->Bd
open _root_.ByteArray renaming size_append->Bf,toList->Cs,data_extract->D0,extract->D4,size->D8
open Go.Calls renaming mono->Bi
def St.below_{W w w':A3}{l:List Asn}(h:St W l w)(a:RowKit.Below w.heap.size w w'):St W l w':=by refine⟨⟨a.os.trans h.1.os,a.tape.trans h.1.tape,a.output.trans h.1.output,Bp h.1.size a.size⟩,z10 (λb o c=>?_) h.2⟩;have c:w.heap[b]?=A1 o:=c;exact(a.block b (qr6 c)).trans c
def St.grow_{W w:A3}{l:List Asn}(h:St W l w)(k:Nat)(os:Array Obj):St W l (Sort.grow (w.drewN k) os):=by refine⟨⟨h.1.os,h.1.tape,h.1.output,by have:=h.1.size;simp[Sort.grow,World.drewN];omega⟩,z10 (λb o a=>?_) h.2⟩;have a:w.heap[b]?=A1 o:=a;show(w.heap++os)[b]?=A1 o;rw[Array.getElem?_append_left (qr6 a)];exact a
def St.turnRow{W w:A3}{r:List Asn}{b:Nat}{t:Cp}{cs d:List A5}{g:Array A5->Array A5}(h:St W (Row b t cs::r) w)(s:∀c:Array A5,c.toList=cs->(g c).toList=d)(B:d.length=cs.length):St W (Row b t d::r) (Sort.mapBlock w b g):=by
 obtain⟨k,h,o,⟨c,l,m,q,p⟩,y⟩:=h;have n:w.heap[b]?=A1 (.cells c t l):=o b _ m;have z:b<w.heap.size:=qr6 n;refine⟨⟨k.os,k.tape,k.output,by simpa [Sort.mapBlock]using k.size⟩,λx=>if x=b then A1 (.cells (g c) t l)else h x,λx u a=>?_,⟨g c,l,by simp,s c q,λi A=>p i (by rw[<-B];exact A)⟩,z10 (λx u a=>?_) y⟩
 .simp only at a;show(w.heap.modify b (Sort.onCells g))[x]?=A1 u;rw[C8];split at a;.rename_i e;subst e;cases a;rw[yB yR,n];rfl
  .rename_i e;rw[yA (λh=>e h.symm)];exact o x u a
 .unfold qh6 at a⊢;cases f:h x with
  |some v=>simp[f]at a
  |none=>
   simp only[f]at a;have j:¬x=b:=λe=>by subst e;rw[m]at f;cases f
   simp only[yA j,f];show(w.heap.modify b (Sort.onCells g))[x]?=A1 u;rw[C8,yA (λh=>j h.symm)];exact a
def qi.opened{t:Cp}{size:Nat}{p:Option B5}{n c:Nat}{cs:List A5}{W w:A3}{l:List Asn}(o:0<n)(h:St W (qi t size p n c cs::l) w):∃q all,p=A1 ⟨q,0,A2⟩/\all.length=c*size/\all.take (n*size)=cs/\St W (Row q t all::l) w:=by
 obtain⟨e,g,k,⟨m,r,f⟩,b⟩:=h;rcases f with rfl|⟨q,all,a,d,j,i⟩;.omega
 .exact⟨q,all,a,d,j,e,g,k,i,b⟩
def q1r{W w:A3}{F:List Asn}{p:Option B5}{c:Nat}{zs:List Int}(R:zs.length<=1000000)(C:St W (qi 3 1 p zs.length c (zs.map (Zi Zk))::F) w):
 qb Zp 64 #[Zl p zs.length c] w λv w'=>v=Zt #[]/\St W (qi 3 1 p zs.length c ((zs.mergeSort λx y=>decide (x<=y)).map (Zi Zk))::F) w':=by
 by_cases H:zs=[]
 .subst H;exact Bi (Tryz.slices_Sort_int_none p c w) λe w' ⟨A,D⟩=>⟨_,A,rfl,by subst D;simpa using C⟩
 have E:0<zs.length:=Cf.2 H;obtain⟨q,all,I,o,k,b⟩:=qi.opened (by omega) C;subst I;rw[Aa]at o k;have u:zs.length<=c:=(qi.le C).2;have L:Sort.Holds (Zi Zk) w q 0 (zs).toArray:=λj B=>by
  have g:j<zs.length:=by simpa using B
  have P:zs[j]?=A1 zs[j]:=A0 g;have N:all[j]?=A1 ((Zi Zk) zs[j]):=by
   have G:(all.take zs.length)[j]?=A1 ((Zi Zk) zs[j]):=by rw[k,A9,P];rfl
   rw[Ah,yB g]at G;exact G
  have O:=b.st (i:=j) (by omega) (Zb A6);have l:=b.ld N;rw[Am];refine⟨?_,O.1.2⟩;rw[l];congr 1;simp[getElem!_pos,g]
 have r:q<w.heap.size:=by have l:=b.ld (i:=0) (A0 (by omega));refine Cq λs=>?_;unfold World.cell? at l;simp[C3 s]at l
 have a:(zs).length=zs.length:=by simp
 have key:=Tryz.slices_Sort_int q 0 c (zs) w L r (by rw[a];omega);rw[a]at key;refine Bi key λe w' ⟨A,n,os,D⟩=>⟨_,A,rfl,?_⟩;subst D;have d:((zs).mergeSort λx y=>decide (x<=y)).length=zs.length:=by rw[C9,a]
 have Q:St W (Row q 3 ((zs.mergeSort λx y=>decide (x<=y)).map (Zi Zk)++all.drop zs.length)::F) (Sort.putRow (Zi Zk) (Sort.ahead w n) q 0 ((zs).mergeSort λx y=>decide (x<=y)).toArray):=by
  refine St.turnRow (cs:=all) (w:=Sort.ahead w n) ⟨⟨b.1.os,b.1.tape,b.1.output,b.1.size⟩,b.2⟩ (λK z=>?_) ?_
  .refine Bu λj=>?_;unfold Sort.putCells;rw[Ar,Ca];have m:K[j]?=all[j]?:=by rw[<-z,Ar]
   rw[m];by_cases B:j<zs.length
   .rw[Ad (by simp[d,a];omega),A0 (show j<all.length by omega)];have f:j<((zs).mergeSort λx y=>decide (x<=y)).length:=by omega
    simp only[C4,D2,yL,Am,Bv,f,if_true,Cj];rw[A9,A0 f];simp[f];rw[A0 f];rfl
   .rw[Aq (by simp[d,a];omega),Ai];have f:¬j<((zs).mergeSort λx y=>decide (x<=y)).length:=by omega
    have e:zs.length+(j -((zs.mergeSort λx y=>decide (x<=y)).map (Zi Zk)).length)=j:=by simp[d,a];omega
    rw[e];cases all[j]? with
    |none=>rfl
    |some v=>simp[f];exact λh=>(B h).elim
  .simp[d,a];omega
 have J:=z0x (t:=3) (size:=1) (c:=c) (n:=zs.length) (cs:=(zs.mergeSort λx y=>decide (x<=y)).map (Zi Zk)) (by simp[d,a];omega) u (by rw[Aa,Ay (by simp[d,a]),A8 (by simp[d,a])]) Q;have M:=J.grow_ 0 os;exact M
def qvr{W w:A3}{F:List Asn}{p:Option B5}{c:Nat}{zs:List (List UInt8)}(R:zs.length<=1000000)(C:St W (qi 9 1 p zs.length c (zs.map qc8)::F) w):
 qb Zp 238 #[Zl p zs.length c] w λv w'=>v=Zt #[]/\St W (qi 9 1 p zs.length c ((zs.mergeSort λx y=>decide (x<=y)).map qc8)::F) w':=by
 by_cases H:zs=[]
 .subst H;exact Bi (Tryz.slices_Sort_string_none p c w) λe w' ⟨A,D⟩=>⟨_,A,rfl,by subst D;simpa using C⟩
 have E:0<zs.length:=Cf.2 H;obtain⟨q,all,I,o,k,b⟩:=qi.opened (by omega) C;subst I;rw[Aa]at o k;have u:zs.length<=c:=(qi.le C).2;have L:Sort.Holds encStr w q 0 (zs).toArray:=λj B=>by
  have g:j<zs.length:=by simpa using B
  have P:zs[j]?=A1 zs[j]:=A0 g;have N:all[j]?=A1 (qc8 zs[j]):=by
   have G:(all.take zs.length)[j]?=A1 (qc8 zs[j]):=by rw[k,A9,P];rfl
   rw[Ah,yB g]at G;exact G
  have O:=b.st (i:=j) (by omega) (Zb A6);have l:=b.ld N;rw[Am];refine⟨?_,O.1.2⟩;rw[l];congr 1;simp[getElem!_pos,g];rfl
 have r:q<w.heap.size:=by have l:=b.ld (i:=0) (A0 (by omega));refine Cq λs=>?_;unfold World.cell? at l;simp[C3 s]at l
 have a:(zs).length=zs.length:=by simp
 have key:=Tryz.slices_Sort_string q 0 c (zs) w L r (by rw[a];omega);rw[a]at key;refine Bi key λe w' ⟨A,n,os,D⟩=>⟨_,A,rfl,?_⟩;subst D;have d:((zs).mergeSort λx y=>decide (x<=y)).length=zs.length:=by rw[C9,a]
 have Q:St W (Row q 9 ((zs.mergeSort λx y=>decide (x<=y)).map qc8++all.drop zs.length)::F) (Sort.putRow encStr (Sort.ahead w n) q 0 ((zs).mergeSort λx y=>decide (x<=y)).toArray):=by
  refine St.turnRow (cs:=all) (w:=Sort.ahead w n) ⟨⟨b.1.os,b.1.tape,b.1.output,b.1.size⟩,b.2⟩ (λK z=>?_) ?_
  .refine Bu λj=>?_;unfold Sort.putCells;rw[Ar,Ca];have m:K[j]?=all[j]?:=by rw[<-z,Ar]
   rw[m];by_cases B:j<zs.length
   .rw[Ad (by simp[d,a];omega),A0 (show j<all.length by omega)];have f:j<((zs).mergeSort λx y=>decide (x<=y)).length:=by omega
    simp only[C4,D2,yL,Am,Bv,f,if_true,Cj];rw[A9,A0 f];simp[f];rw[A0 f];rfl
   .rw[Aq (by simp[d,a];omega),Ai];have f:¬j<((zs).mergeSort λx y=>decide (x<=y)).length:=by omega
    have e:zs.length+(j -((zs.mergeSort λx y=>decide (x<=y)).map qc8).length)=j:=by simp[d,a];omega
    rw[e];cases all[j]? with
    |none=>rfl
    |some v=>simp[f];exact λh=>(B h).elim
  .simp[d,a];omega
 have J:=z0x (t:=9) (size:=1) (c:=c) (n:=zs.length) (cs:=(zs.mergeSort λx y=>decide (x<=y)).map qc8) (by simp[d,a];omega) u (by rw[Aa,Ay (by simp[d,a]),A8 (by simp[d,a])]) Q;have M:=J.grow_ 0 os;exact M
section
def qgg(l:List UInt8)(i j:Nat):(mkS l).extract i j=mkS ((l.take j).drop i):=by
 unfold mkS;have:(D4 ⟨l.toArray⟩ i j).data=((l.take j).drop i).toArray:=by rw[D0];simp[List.extract_eq_take_drop,List.drop_take]
 exact ByteArray.ext this
def q3g{l:List UInt8}{k:Nat}{x:UInt8}(h:l[k]?=A1 x):(mkS l).get! k=x:=by
 have w:=(A7.1 h).1;have a:=get!_eq (s:=mkS l) (i:=k) (by rw[qf1];exact w);have b:(mkS l)[k]?=A1 x:=by
  rw[getElem?_pos (mkS l) k (by rw[qf1];exact w)];have:(mkS l)[k]'(by rw[qf1];exact w)=l[k]:=by show(mkS l).data[k]=_;simp[mkS]
  rw[this,<-A0,h]
 rw[b]at a;exact(Option.some.inj a).symm
def qu1:List UInt8:=[97,98,99,100,101,102,103,104,105,106,107,108,109,110,111,112,113,114,115,116,117,118,119,120,121,122,48,49,50,51,52,53,54,55,56,57,45]
def q8z(l:List UInt8)(x:UInt8):(Ab l)[x.toNat]?=A1 (Zb (l.contains x)):=by have h:x.toNat<256:=x.toNat_lt;have:=Lib.fold_at l (C5 256 (Zb A4)) A4 x (by simp[h]);rw[Bool.false_or]at this;exact this
section
variable{W w:World}{F:List Asn}{b:Nat}
def qnm(x:UInt8)(h:St W (Row b 376 (Ab qu1).toList::F) w):qb Zp 309 #[Zq (A1 ⟨b,0,A2⟩),Zi .u8 (x.toNat:Int)] w λv w'=>v=Zb (qu1.contains x)/\St W (Row b 376 (Ab qu1).toList::F) w':=
 F309_of (z7 (IxP.row yR (by have:=x.toNat_lt;omega) (LdB.n 0 h yR (by rw[Ar];exact q8z qu1 x) ⟨rfl,h⟩)))
def qnx:List A5->A3->Nat:=λvs _=>match vs with|[Zs s]=>s.size|_=>0
def qwq(l:List UInt8)(r:l.length<=9223372036854775807)(h:St W (Row b 376 (Ab qu1).toList::F) w):qb Zp 265 #[Zs (mkS l),Zq (A1 ⟨b,0,A2⟩)] w λv w'=>
 ∃k,v=Zs (mkS (l.take k))/\k<=l.length/\(∀x∈l.drop k,qu1.contains x=A6)/\(k=0\/∃x,l[k - 1]?=A1 x/\qu1.contains x=A4)/\St W (Row b 376 (Ab qu1).toList::F) w':=by
 refine F265_of ⟨λvs w=>∃k,vs=[Zs (mkS (l.take k))]/\k<=l.length/\(∀x∈l.drop k,qu1.contains x=A6)/\St W (Row b 376 (Ab qu1).toList::F) w,qnx,⟨l.length,by rw[Ap],Ao _,by simp,h⟩,λs w q=>?_⟩;obtain⟨k,m,j,g,h⟩:=q;cases m;have a:(mkS (l.take k)).size=k:=by rw[qf1,Aw];omega
 rw[a];refine za (λc=>?_) λc=>?_
 .have c:0<k:=by have:=yC c;omega
  have n:Zw Zk ((k:Int) - 1)=((k - 1:Nat):Int):=by rw[w64];omega
  have e:l[k - 1]?=A1 (l[k - 1]'(by omega)):=A0 _;generalize l[k - 1]'(by omega)=x at e;have i:(l.take k)[k - 1]?=A1 x:=by rw[Ah,yB (by omega),e]
  rw[n];refine⟨⟨by omega,by rw[a];omega⟩,?_⟩;rw[Af,q3g i];refine(qnm x h).of λv w ⟨p,h⟩=>⟨_,p,za (λd=>?_) λd=>?_⟩;.exact⟨k,rfl,j,g,.inr ⟨x,e,by simpa using d⟩,h⟩
  .have d:qu1.contains x=A6:=by simpa using d
   refine⟨⟨by omega,by omega,by rw[a];omega⟩,?_⟩;rw[Af,qgg];have o:((l.take k).take (k - 1)).drop (Bc 0)=l.take (k - 1):=by rw[List.take_take,B0 (by omega)];rfl
   rw[o];refine⟨⟨k - 1,rfl,by omega,λy f=>?_,h⟩,?_⟩
   .rw[List.drop_eq_getElem_cons (by omega)]at f;rcases Bl.1 f with rfl|f
    .rw[A0 (by omega)]at e;cases e;exact d
    .rw[show k - 1+1=k by omega]at f;exact g y f
   .show(mkS (l.take (k - 1))).size<(mkS (l.take k)).size;rw[qf1,qf1,Aw,Aw];omega
 .have c:k=0:=by have:=yD c;omega
  exact⟨k,rfl,j,g,.inl c,h⟩
def q4r(l:List UInt8)(q:l.length<=9223372036854775807)(h:St W (Row b 376 (Ab qu1).toList::F) w):qb Zp 264 #[Zs (mkS l),Zq (A1 ⟨b,0,A2⟩)] w λv w'=>
 ∃k,v=Zs (mkS (l.drop k))/\k<=l.length/\(∀x∈l.take k,qu1.contains x=A6)/\St W (Row b 376 (Ab qu1).toList::F) w':=by
 refine F264_of ⟨λvs w=>∃k,vs=[Zs (mkS (l.drop k))]/\k<=l.length/\(∀x∈l.take k,qu1.contains x=A6)/\St W (Row b 376 (Ab qu1).toList::F) w,qnx,⟨0,rfl,by omega,by simp,h⟩,λs w p=>?_⟩;obtain⟨k,m,j,f,h⟩:=p;cases m;have c:(mkS (l.drop k)).size=l.length - k:=by rw[qf1,Aj]
 rw[c];refine za (λe=>?_) λe=>?_
 .have e:0<l.length - k:=by have:=yC e;omega
  have g:l[k]?=A1 (l[k]'(by omega)):=A0 _;generalize l[k]'(by omega)=x at g;have i:(l.drop k)[0]?=A1 x:=by rw[Ai];exact g
  refine⟨⟨by omega,by rw[c];omega⟩,?_⟩;rw[show Bc 0=0 from rfl,q3g i];refine(qnm x h).of λv w ⟨o,h⟩=>⟨_,o,za (λd=>?_) λd=>?_⟩;.exact⟨k,rfl,j,f,h⟩
  .have d:qu1.contains x=A6:=by simpa using d
   refine⟨⟨by omega,by omega,by rw[c];omega⟩,?_⟩;rw[Af,qgg];have n:((l.drop k).take (l.length - k)).drop (Bc 1)=l.drop (k+1):=by rw[A8 (by simp),List.drop_drop];rfl
   rw[n];refine⟨⟨k+1,rfl,by omega,λy a=>?_,h⟩,?_⟩
   .rw[B1,g]at a;rcases B9.1 a with a|a;.exact f y a
    .simp at a;subst a;exact d
   .show(mkS (l.drop (k+1))).size<(mkS (l.drop k)).size;rw[qf1,qf1,Aj,Aj];omega
 .exact⟨k,rfl,j,f,h⟩
end
end
section
section
variable{W w:World}{F:List Asn}
def zSet:∀w,(zeroValue 376).run Zp w=.ok (Zg (C5 256 (Zb A4))) w:=λw=>by
 have a:Zp.info? 376=A1 Tryz.t376:=by kernel_rfl
 have h:Tryz.t376.zero=A1 (Zg (C5 256 (Zb A4))):=by kernel_rfl
 simp[zeroValue,typeInfo,a,h]
def qfw:(Ab qu1).size=256:=by decide+kernel
def qvq:∀v∈(Ab qu1).toList,qn1 v:=λv w=>by
 have h:∀(l:List UInt8) (a:Array A5),(∀v∈a.toList,qn1 v)->∀v∈(l.foldl (λa c=>a.setIfInBounds c.toNat (Zb A6)) a).toList,qn1 v:=by
  intro l;induction l with
  |nil=>exact λa h=>h
  |cons x r ih=>
   intro a h;refine ih _ λv w=>?_;rw[Array.toList_setIfInBounds]at w;rcases List.mem_or_eq_of_mem_set w with w|rfl;.exact h v w
   .trivial
 refine h qu1 _ (λv w=>?_) v w;rw[Array.toList_replicate]at w;rw[(List.mem_replicate.1 w).2];trivial
def q3u(l:List UInt8)(p:l≠[])(B:l.length<=9223372036854775807)(a:St W F w):qb Zp 184 #[Zs (mkS l),Zs (mkS qu1)] w λv w'=>∃r,v=Zs (mkS r)/\(r=[]↔∀x∈l,qu1.contains x=A6)/\St W F w':=by
 refine F184_of ?_;have z:((mkS l).toList==(⟨#[]⟩:ByteArray).toList)=A4:=by rw[qv3];exact yH λh=>p (by have:=yE qm h;simpa [qm,mkS]using this)
 rw[z];refine zn yR (zn (by decide+kernel) ⟨λvs w=>St W F w,zn (by decide+kernel) a,λw a=>?_⟩);refine Bi (Tryz.strings_makeASCIISet zSet (mkS qu1) w (by decide+kernel) (by
  have h:∀b∈qu1,b.toNat<128:=by decide+kernel
  intro j b y;exact h b (Ak (by simpa [mkS]using y)))) λe w1 ⟨D,E⟩=>⟨_,D,?_⟩
 subst E;have d:=qfw;have m:=qvq;have G:Ab (mkS qu1).data.toList=Ab qu1:=yE Ab (by unfold mkS;rfl);rw[G];have i:=λ(w:A3) b (a:St W (Row b 376 (Ab qu1).toList::F) w)=>qwq l B a;have g:=λ(w:A3) k (u:k<=l.length) b (a:St W (Row b 376 (Ab qu1).toList::F) w)=>q4r (l.take k) (by rw[Aw];omega) a;revert d m i g;generalize Ab qu1=S;intro d m i g;have a:=(a.alloc (.cells S 376)).drop;refine⟨S,d,A6,rfl,?_⟩;have n:∀c:Array A5,c.size=256->S.size=c.toList.length:=λc o=>by rw[d,Array.length_toList,o]
 refine zh a λb w a=>⟨d,StA.r 0 a yR (n _ (by kernel_rfl)) m λw a=>zm yR ?_⟩;refine(i w b a).of λv w ⟨k,q,u,A,C,a⟩=>⟨_,q,?_⟩;refine(g w k u b a).of λv w ⟨j,q,y,t,a⟩=>⟨_,q,_,rfl,⟨λh x f=>?_,λh=>?_⟩,a.drop⟩
 .have s:(l.take k).length<=j:=List.drop_eq_nil_iff.1 h;rw[A8 s]at t;rw[<-List.take_append_drop k l]at f;rcases B9.1 f with f|f;.exact t x f
  .exact A x f
 .rcases C with rfl|⟨x,f,o⟩;.simp
  .rw[h x (Ak f)]at o;cases o
def q1a(s:ByteArray):Bool:=decide (0<(qm s).length)&&(decide ((qm s).length<=20)&&((qm s).all qu1.contains&&((qm s).headD 0 != 45&&(qm s).getLastD 0 != 45)))
def qoc(s:ByteArray)(b:St W F w):qb Zp 117 #[Zs s] w λv w'=>v=Zb (q1a s)/\St W F w':=by
 obtain⟨l,rfl⟩:∃l,s=mkS l:=⟨qm s,by unfold qm;rw[qd5]⟩;have j:qm (mkS l)=l:=by simp[qm,mkS]
 unfold q1a;rw[j];refine F117_of ?_;rw[qf1];cases l with
 |nil=>exact zn (by decide+kernel) ⟨rfl,b⟩
 |cons x r=>
  have p:((mkS (x::r)).toList==(⟨#[]⟩:ByteArray).toList)=A4:=by rw[qv3];exact yH λh=>by have:=yE qm h;simp[qm,mkS]at this
  rw[p];refine zm yR ?_;have q:decide (((x::r).length:Int)<=20)=decide ((x::r).length<=20):=by
   by_cases h:(x::r).length<=20;.rw[yG h,yG (by omega)]
   .rw[yH h,yH (by omega)]
  rw[q,yG (show 0<(x::r).length by simp),Av];refine za (λh=>?_) λh=>by rw[h];exact⟨rfl,b⟩
  have o:=yC h;rw[h,Av];refine(q3u (x::r) (by simp) (by omega) b).of λv w ⟨t,u,i,b⟩=>⟨_,u,?_⟩;dsimp only;have z:((mkS t).toList==(⟨#[]⟩:ByteArray).toList)=(x::r).all qu1.contains:=by
   rw[qv3];have e:(mkS t=(⟨#[]⟩:ByteArray))↔t=[]:=⟨λh=>by have:=yE qm h;simpa [qm,mkS]using this,λh=>by rw[h];rfl⟩;by_cases c:(x::r).all qu1.contains=A6;.rw[c];exact yG (e.2 (i.2 (B3.1 c)))
   .rw[Bool.not_eq_true]at c;rw[c];exact yH λh=>by have:=B3.2 (i.1 (e.1 h));rw[c]at this;cases this
  rw[z];refine za (λh=>?_) λh=>by rw[h];exact⟨rfl,b⟩
  rw[h,Av];have g:∀y:UInt8,((y.toNat:Int) != 45)=(y != 45):=λy=>by
   by_cases f:y=45;.subst f;rfl
   .have e:¬y.toNat=45:=λh=>f (Bn.1 h);have m:(y != 45)=A6:=by simpa using f
    rw[m];simp only[bne_iff_ne,ne_eq];omega
  refine⟨⟨by omega,by rw[qf1];simp⟩,?_⟩;rw[show Bc 0=0 from rfl,q3g (l:=x::r) (k:=0) yR];dsimp only;rw[g];refine za (λh=>?_) λh=>by have d:((x::r).headD 0 != 45)=A4:=h;rw[d];exact⟨rfl,b⟩
  have d:((x::r).headD 0 != 45)=A6:=h;rw[d,Av];have n:Zw Zk (((x::r).length:Int) - 1)=(((x::r).length - 1:Nat):Int):=by have:(x::r).length=r.length+1:=rfl;rw[w64];omega
  have a:(x::r)[(x::r).length - 1]?=A1 ((x::r).getLastD 0):=by rw[<-List.getLast?_eq_getElem?];simp[List.getLastD_eq_getLast?,List.getLast?_cons]
  rw[n];refine⟨⟨by omega,by rw[qf1];simp;omega⟩,?_⟩;rw[Af,q3g a];dsimp only;rw[g];exact⟨rfl,b⟩
end
end
section
def qc4(F:List Asn):Prop:=∀H,Own F H->∃t h,H 0=A1 (.cells (Cl.map λz=>Zi .u64 z).toArray t h)
def qc4.cons{F:List Asn}(h:qc4 F)(A:Asn):qc4 (A::F):=λH w=>h H w.tail
def qc4.pre{F:List Asn}(h:qc4 F):∀l:List Asn,qc4 (l++F)
 |[]=>h
 |A::l=>(h.pre l).cons A
def qc4.perm{F G:List Asn}(h:qc4 F)(w:G.Perm F):qc4 G:=λH a=>h H (a.perm w)
def qc4.app{F:List Asn}(h:qc4 F)(G:List Asn):qc4 (F++G):=(h.pre G).perm List.perm_append_comm
def qc4.tab{W w:A3}{F:List Asn}(h:qc4 F)(d:St W F w):D7 Zp w "internal/strconv.uint64pow10" .u64 Cl:=by
 obtain⟨t,c,a⟩:=h _ d.2;have b:Zp.globalNamed "internal/strconv.uint64pow10"=A1 0:=by kernel_rfl
 have a:w.heap[0]?=A1 (.cells (Cl.map λz=>Zi .u64 z).toArray t c):=a;unfold D7 World.var?;rw[b,Option.bind_some,a]
def qgi(bits:Int):Int:=Zw .u32 (4294967295*2 ^ min (Bc (Zw Zk (32 - bits))) (An .u32))
def q15(a bits:Int):Bool:=decide (bits>=0)&&(decide (bits<=32)&&(Zw .u32 ↑((Az (An .u32) a&&& ~~~Az (An .u32) (qgi bits)).toNat)==0))
def inN(a bits x:Int):Bool:=q15 a bits&&(Zw .u32 ↑((Az (An .u32) x&&& Az (An .u32) (qgi bits)).toNat)==a)
def qp7(n:Int):List UInt8:=if n<0 then []else if n>1099511627776 then []else D3 n
section
variable{W w:World}{F:List Asn}
def q2k{bits:Int}(b:0<=bits)(a:bits<=32)(h:St W F w):qb Zp 258 #[Zi Zk bits] w λv w'=>v=Zi .u32 (qgi bits)/\St W F w':=
 F258_of ⟨by rw[w64];omega,rfl,h⟩
def qki(a bits:Int)(f:St W F w):qb Zp 180 #[Zg #[Zi .u32 a,Zi Zk bits]] w λv w'=>v=Zb (q15 a bits)/\St W F w':=by
 refine F180_of (zh f λb w f=>?_);have d:=z6 W (Row b 132 [Zi .u32 a,Zi Zk bits]::F);unfold q15;refine⟨StC W _,zd f,_,zi 0 d yR yR,za (λh=>⟨_,zi 0 d yR yR,za (λe=>?_) λe=>?_⟩) λh=>?_⟩
 .refine⟨_,zi 0 d yR yR,_,zi 0 d yR yR,zk (α:=Unit) (V:=λ_=>Zi .u32 (qgi bits)) (B:=λ_=>Row b 132 [Zi .u32 a,Zi Zk bits]::F) () d (λG w c=>(q2k (yC h) (yC e) c).of λv w' ⟨g,h⟩=>⟨_,g,(),rfl,h⟩) λ_=>⟨_,rfl,zi 0 ir yR yR,λG w c=>⟨?_,(zb c).drop⟩⟩⟩;rw[h,e];rfl
 .intro G w c;rw[h,e];exact⟨rfl,(zb c).drop⟩
 .intro G w c;rw[h];exact⟨rfl,(zb c).drop⟩
def qsx(a bits x:Int)(d:St W F w):qb Zp 399 #[Zg #[Zi .u32 a,Zi Zk bits],Zi .u32 x] w λv w'=>v=Zb (inN a bits x)/\St W F w':=by
 refine F399_of (zh d λb w d=>?_);have g:=z6 W (Row b 132 [Zi .u32 a,Zi Zk bits]::F);unfold inN;refine⟨StC W _,zd d,a,bits,λG w h=>z8 0 h yR yR (z8 0 h yR yR ⟨rfl,h⟩),?_⟩;refine zk (α:=Unit) (V:=λ_=>Zb (q15 a bits)) (B:=λ_=>Row b 132 [Zi .u32 a,Zi Zk bits]::F) () g (λG w c=>(qki a bits c).of λv w' ⟨e,h⟩=>⟨_,e,(),rfl,h⟩) λ_=>⟨_,rfl,trivial,za (λh=>?_) λh=>?_⟩
 .have f:0<=bits/\bits<=32:=by unfold q15 at h;rw[B4,B4]at h;exact⟨yC h.1,yC h.2.1⟩
  refine⟨_,zi 0 ir yR yR,_,zi 0 ir yR yR,zk (α:=Unit) (V:=λ_=>Zi .u32 (qgi bits)) (B:=λ_=>Row b 132 [Zi .u32 a,Zi Zk bits]::F) () ir (λG w c=>(q2k f.1 f.2 c).of λv w' ⟨e,h⟩=>⟨_,e,(),rfl,h⟩) λ_=>⟨_,rfl,zi 0 ir yR yR,λG w c=>⟨?_,(zb c).drop⟩⟩⟩;rw[h];rfl
 .intro G w c;rw[h];exact⟨rfl,(zb c).drop⟩
def qwb(n:Int)(d:qc4 F)(b:St W F w):qb Zp 182 #[Zi Zk n] w λv w'=>v=Zs (mkS (qp7 n))/\St W F w':=by
 unfold qp7;refine F182_of (za (λh=>?_) λh=>za (λa=>?_) λa=>?_);.rw[yB (yC h)];exact⟨rfl,b⟩
 .rw[yA (yD h),yB (yC a)];exact⟨rfl,b⟩
 have h:=yD h;have a:=yD a;rw[yA h,yA a];refine Bi (Tryz.strconv_FormatInt_10 n (by omega) (by omega) w (d.tab b)) λe w1 ⟨c,k,os,f⟩=>⟨_,c,_,rfl,rfl,?_⟩;subst f;exact b.grow_ k os
def qtt:∀k:Fin 256,0<(D3 (k.val:Int)).length/\(D3 (k.val:Int)).length<=3:=by decide+kernel
def qte{n:Int}(h:0<=n)(w:n<256):0<(qp7 n).length/\(qp7 n).length<=3:=by unfold qp7;rw[yA (by omega),yA (by omega)];have:=qtt ⟨n.toNat,by omega⟩;simp only[Int.toNat_of_nonneg h]at this;exact this
def sV(x:ByteArray):List A5:=[Zs x]
def sV1(x:ByteArray):(sV x).length=1:=rfl
def sVn(x:ByteArray):∀v∈sV x,qn1 v:=λv h=>by simp only[sV,Bl,List.not_mem_nil,yK]at h;subst h;trivial
def uSs:Zp.underlying 23=A1 (.slice 9):=Tryz.underlying23
def iSt:Zp.info? 9=A1 Tryz.t9:=by kernel_rfl
def bSt:Tryz.t9.bytes<=100:=by decide+kernel
def q0h(w:List UInt8):∀l:List (List UInt8),(∀x∈l,x.length<=3)->(Cb l w).length<=l.length*(3+w.length)
 |[],_=>by simp[Cb]
 |[x],h=>by have:=h x (by simp);simp[Cb];omega
 |x::y::r,h=>by
  have c:=h x (by simp);have a:=q0h w (y::r) λz b=>h z (List.mem_cons_of_mem _ b);have e:Cb (x::y::r) w=x++(w++Cb (y::r) w):=by simp[Cb,List.intercalate,List.intersperse]
  rw[e];simp only[Ba,Ae,Nat.add_mul,Nat.one_mul]at a⊢;omega
def qsy(x:Int):0<=Zw .u8 x/\Zw .u8 x<256:=by have:Zw .u8 x=x%256:=rfl;omega
def qam(z:Int)(d:qc4 F)(h:St W F w):qb Zp 182 #[Zi Zk (Zw Zk (Zw .u8 z))] w λv w'=>∃s,v=Zs s/\s.size<=3/\0<s.size/\St W F w':=by obtain⟨a,b⟩:=qsy z;generalize Zw .u8 z=y at a b;rw[w64];exact(qwb y d h).of λv w ⟨c,h⟩=>⟨_,c,by rw[qf1];exact(qte a b).2,by rw[qf1];exact(qte a b).1,h⟩
def qvs(a:Int)(T:qc4 F)(d:St W F w):qb Zp 181 #[Zi .u32 a] w λv w'=>∃s,v=Zs s/\s.size<=1000/\St W F w':=by
 refine F181_of ⟨λvs w=>∃(k:Nat) (p:Option B5) (c:Nat) (os:List ByteArray),vs=[Zl p os.length c,Zi Zk (k:Int)]/\k<=4/\os.length=k/\(∀s∈os,s.size<=3)/\St W (SlA 9 1 sV p c os::F) w,
  λvs w=>match vs with|[_,.int _ x]=>(4 - x).toNat|_=>0,⟨0,A2,0,[],rfl,by omega,rfl,by simp,z09 d⟩,λlp ln U x w O=>?_⟩
 obtain⟨k,p,c,os,D,Y,r,C,d⟩:=O;cases D;refine za (λh=>?_) λh=>?_
 .have l:k<4:=by have:=yC h;omega
  have I:Zw Zk (8*(k:Int))=8*(k:Int):=w64;have J:Zw Zk (24 - 8*(k:Int))=24 - 8*(k:Int):=w64;refine⟨by rw[I,J];omega,?_⟩;refine(qam _ (T.cons _) d).of λv w ⟨s,Q,K,_,d⟩=>⟨_,Q,zh d λb w d=>?_⟩;obtain⟨z,R,t⟩:∃z,Tryz.t9.zero=A1 z/\z.cells.size=1:=⟨_,rfl,rfl⟩;refine qf3 (os:=os) (xs:=[s]) sV1 uSs (.inr ⟨_,uSs⟩) iSt yR R t 1 d yR (z0t 0 λi v h=>by simpa [sV]using h) yR sVn (by have:=bSt;simp only[Ae,C6];exact Bp (Nat.mul_le_mul_left _ this) (by omega)) (by simp;omega) λN M w d=>⟨_,_,_,rfl,⟨k+1,N,M,os++[s],?_,by omega,by simp[r],λy g=>?_,d.drop⟩,?_⟩
  .have u:Zw Zk ((k:Int)+1)=((k+1:Nat):Int):=by rw[w64];omega
   rw[u]
  .rcases B9.1 g with g|g;.exact C y g
   .rw[Cg.1 g];exact K
  .have u:Zw Zk ((k:Int)+1)=((k+1:Nat):Int):=by rw[w64];omega
   rw[u];show(4 -((k+1:Nat):Int)).toNat<(4 -(k:Int)).toNat;omega
 .have l:k=4:=by have:=yD h;omega
  subst l;obtain⟨q,all,G,H,o,m⟩:=qi.opened (by omega) d;subst G;have B:=(qi.le d).2;refine Bi (Tryz.strings_Join q 0 U os ⟨#[46]⟩ w (λj x E=>?_) ?_ (by omega) B ?_) λe w1 ⟨D,V⟩=>⟨_,D,_,rfl,_,rfl,?_,(d.below_ V).drop⟩
  .have P:j<4:=by have:=(A7.1 E).1;omega
   have n:(all.take (os.length*1))[j]?=A1 (Zs x):=by rw[o];have:=qn9 (f:=sV) (k:=1) sV1 E (j:=0) (v:=Zs x) yR;simpa using this
   rw[Ah,yB (by omega)]at n;rw[Am];exact m.ld n
  .obtain⟨h0,n,⟨Z,X,L,_⟩,_⟩:=m.2;exact qr6 (w:=w) (n _ _ L)
  .have:=q0h [46] (os.map λx=>x.data.toList) (λx A=>by obtain⟨y,g,rfl⟩:=Au.1 A;have:=C y g;simpa using this)
   rw[Ac,r]at this;exact Bp this (by simp)
  .have:=q0h [46] (os.map λx=>x.data.toList) (λx A=>by obtain⟨y,g,rfl⟩:=Au.1 A;have:=C y g;simpa using this)
   rw[Ac,r]at this;show(List.toArray _).size<=1000;rw[Bv];exact Bp this (by simp)
def qyr(a bits:Int)(g:qc4 F)(c:St W F w):qb Zp 113 #[Zg #[Zi .u32 a,Zi Zk bits]] w λv w'=>∃s,v=Zs s/\(s=⟨#[]⟩↔q15 a bits=A4)/\St W F w':=by
 refine F113_of (zh c λb w c=>z8 0 c yR yR (z8 0 c yR yR ?_));refine(qki a bits c).of λv w ⟨e,c⟩=>⟨_,e,za (λh=>?_) λh=>?_⟩
 .have h:q15 a bits=A4:=by simpa using h
  exact⟨_,rfl,⟨λ_=>h,λ_=>rfl⟩,c.drop⟩
 have h:q15 a bits=A6:=by simpa using h
 have j:0<=bits/\bits<=32:=by unfold q15 at h;rw[B4,B4]at h;exact⟨yC h.1,yC h.2.1⟩
 have f:=z6 W (Row b 132 [Zi .u32 a,Zi Zk bits]::F);refine⟨StC W _,zd c,_,zi 0 f yR yR,_,zi 0 f yR yR,?_⟩;refine zk (α:={s:ByteArray//s.size<=1000}) (V:=λs=>Zs s.1) (B:=λ_=>Row b 132 [Zi .u32 a,Zi Zk bits]::F) ⟨⟨#[]⟩,by decide⟩ f (λG w d=>(qvs a ((g.cons _).app _) d).of λv w' ⟨s,e,i,h⟩=>⟨_,e,⟨s,i⟩,rfl,h⟩) λs=>⟨_,rfl,zi 0 ir yR yR,?_⟩;obtain⟨s,i⟩:=s;dsimp only;have l:(⟨#[47]⟩:ByteArray).size=1:=rfl;refine⟨by omega,zk (α:=Unit) (V:=λ_=>Zs (mkS (qp7 bits))) (B:=λ_=>Row b 132 [Zi .u32 a,Zi Zk bits]::F) () ir (λG w d=>(qwb bits ((g.cons _).app _) d).of λv w' ⟨e,h⟩=>⟨_,e,(),rfl,h⟩) λ_=>⟨_,rfl,trivial,?_,λG w d=>⟨_,rfl,?_,(zb d).drop⟩⟩⟩
 .have:=(qte j.1 (by omega)).2;rw[qf1,Bf];have k:(⟨#[47]⟩:ByteArray).size=1:=rfl;omega
 .rw[h];refine⟨λh=>?_,λh=>by cases h⟩;have:=yE D8 h;rw[Bf,Bf,qf1]at this;have k:(⟨#[47]⟩:ByteArray).size=1:=rfl;have m:(⟨#[]⟩:ByteArray).size=0:=rfl;omega
end
end
structure q97 where
 name:ByteArray
 secret:ByteArray
 til:Int
structure qa4 where
 name:ByteArray
 names:Int
 visitors:Int
 np:Option B5
 nc:Nat
 nets:List (Int×Int)
 tp:Option B5
 tc:Nat
 toks:List q97
def qje(x:Int×Int):List A5:=[Zi .u32 x.1,Zi Zk x.2]
def q44(x:q97):List A5:=[Zs x.name,Zs x.secret,Zi Zk x.til]
def q43(t:qa4):List A5:=[Zs t.name,Zi Zk t.names,Zi Zk t.visitors,.slice t.np t.nets.length t.nc,.slice t.tp t.toks.length t.tc]
structure qg6(F:List Asn)(t:qa4):Prop where
 nr:Rd F t.np (t.nets.flatMap qje)
 nl:t.nets.length<=t.nc
 nb:t.nets.length<=9223372036854775807
 tr:Rd F t.tp (t.toks.flatMap q44)
 tl:t.toks.length<=t.tc
 tb:t.toks.length<=9223372036854775807
 sb:∀x∈t.toks,x.secret.size<=9223372036854775807
def qg6.cons{F:List Asn}{t:qa4}(h:qg6 F t)(A:Asn):qg6 (A::F) t:=⟨h.nr.cons A,h.nl,h.nb,h.tr.cons A,h.tl,h.tb,h.sb⟩
def qg6.app{F:List Asn}{t:qa4}(h:qg6 F t)(G:List Asn):qg6 (F++G) t:=⟨h.nr.app G,h.nl,h.nb,h.tr.app G,h.tl,h.tb,h.sb⟩
def qkd{α:Type}{g:α->Bool}{xs:List α}:decide (qt4 g xs>=0)=xs.any g:=by
 unfold qt4;cases h:xs.findIdx? g with
 |none=>
  have:xs.any g=A4:=by rw[List.any_eq_false];intro x b;have:=Bs.1 h x b;simp[this]
  rw[this];rfl
 |some i=>obtain⟨w,a,_⟩:=As.1 h;have:xs.any g=A6:=Cr.2 ⟨_,List.getElem_mem w,a⟩;rw[this];exact yG (by show(i:Int)>=0;omega)
def qvn{W w:A3}{F:List Asn}{p:Option B5}{c:Nat}{xs:List qa4}{r:A5}(g:qa4->Bool)(A:Rd F p (xs.flatMap q43))(t:xs.length<=9223372036854775807)
 (u:∀(x:qa4),x∈xs->∀(w:A3) (K:A5->A3->Prop),St W F w->(∀w',St W F w'->K (Zb (g x)) w')->q01 Zp 4 r [Zg (q43 x).toArray] w K) (d:St W F w):
 qb Zp 110 #[Zl p xs.length c,r] w λv w'=>v=Zi Zk (qt4 g xs)/\St W F w':=by
 refine F110_of ⟨λvs w=>∃i:Nat,vs=[Zi Zk i]/\i<=xs.length/\(∀j y,j<i->xs[j]?=A1 y->g y=A4)/\St W F w,leftN xs.length,⟨0,rfl,by omega,λj y h=>by omega,d⟩,λx w B=>?_⟩;obtain⟨i,s,D,m,d⟩:=B;cases s;refine za (λb=>?_) λn=>?_
 .have b:i<xs.length:=by have:=yC b;omega
  have l:xs[i]?=A1 (xs[i]'b):=A0 _;generalize xs[i]'b=y at l;refine z0f (f:=q43) (size:=5) (λ_=>rfl) (by omega) A d yR b l λa k=>⟨_,k 0 _ rfl,⟨_,k 1 _ rfl,⟨_,k 2 _ rfl,⟨_,_,_,k 3 _ rfl,⟨_,_,_,k 4 _ rfl,u y (Ak l) w _ d λw' d=>⟨_,rfl,?_⟩⟩⟩⟩⟩⟩;cases hy:g y with
  |true=>exact⟨by rw[qs8 l hy m],d⟩
  |false=>
   rw[up b t];exact⟨⟨i+1,rfl,by omega,λj z C o=>by
    by_cases e:j=i;.subst e;rw[l]at o;cases o;exact hy
    .exact m j z (by omega) o,d⟩,by show xs.length -(i+1)<xs.length - i;omega⟩
 have q:i=xs.length:=by have:=yD n;omega
 subst q;exact⟨by rw[qq8 λj y h=>m j y (A7.1 h).1 h],d⟩
def qtv{W w:A3}{F:List Asn}{p:Option B5}{c:Nat}{xs:List qa4}{a:A5}(g:qa4->Bool)(e:Rd F p (xs.flatMap q43))(b:xs.length<=9223372036854775807)
 (d:∀(x:qa4),x∈xs->∀(w:A3) (K:A5->A3->Prop),St W F w->(∀w',St W F w'->K (Zb (g x)) w')->q01 Zp 4 a [Zg (q43 x).toArray] w K) (h:St W F w):
 qb Zp 67 #[Zl p xs.length c,a] w λv w'=>v=Zb (xs.any g)/\St W F w':=
 F67_of ((qvn g e b d h).of λv w ⟨f,h⟩=>⟨_,f,by rw[qkd],h⟩)
def qyw{W w:A3}{F:List Asn}{p:Option B5}{c:Nat}{xs:List (Int×Int)}{r:A5}(g:(Int×Int)->Bool)(A:Rd F p (xs.flatMap qje))(t:xs.length<=9223372036854775807)
 (u:∀(x:(Int×Int)),x∈xs->∀(w:A3) (K:A5->A3->Prop),St W F w->(∀w',St W F w'->K (Zb (g x)) w')->q01 Zp 4 r [Zg (qje x).toArray] w K) (d:St W F w):
 qb Zp 179 #[Zl p xs.length c,r] w λv w'=>v=Zi Zk (qt4 g xs)/\St W F w':=by
 refine F179_of ⟨λvs w=>∃i:Nat,vs=[Zi Zk i]/\i<=xs.length/\(∀j y,j<i->xs[j]?=A1 y->g y=A4)/\St W F w,leftN xs.length,⟨0,rfl,by omega,λj y h=>by omega,d⟩,λx w B=>?_⟩;obtain⟨i,s,D,l,d⟩:=B;cases s;refine za (λb=>?_) λm=>?_
 .have b:i<xs.length:=by have:=yC b;omega
  have k:xs[i]?=A1 (xs[i]'b):=A0 _;generalize xs[i]'b=y at k;refine z0f (f:=qje) (size:=2) (λ_=>rfl) (by omega) A d yR b k λa q=>⟨_,q 0 _ rfl,⟨_,q 1 _ rfl,u y (Ak k) w _ d λw' d=>⟨_,rfl,?_⟩⟩⟩;cases hy:g y with
  |true=>exact⟨by rw[qs8 k hy l],d⟩
  |false=>
   rw[up b t];exact⟨⟨i+1,rfl,by omega,λj z C n=>by
    by_cases e:j=i;.subst e;rw[k]at n;cases n;exact hy
    .exact l j z (by omega) n,d⟩,by show xs.length -(i+1)<xs.length - i;omega⟩
 have o:i=xs.length:=by have:=yD m;omega
 subst o;exact⟨by rw[qq8 λj y h=>l j y (A7.1 h).1 h],d⟩
def qnn{W w:A3}{F:List Asn}{p:Option B5}{c:Nat}{xs:List (Int×Int)}{a:A5}(g:(Int×Int)->Bool)(e:Rd F p (xs.flatMap qje))(b:xs.length<=9223372036854775807)
 (d:∀(x:(Int×Int)),x∈xs->∀(w:A3) (K:A5->A3->Prop),St W F w->(∀w',St W F w'->K (Zb (g x)) w')->q01 Zp 4 a [Zg (qje x).toArray] w K) (h:St W F w):
 qb Zp 111 #[Zl p xs.length c,a] w λv w'=>v=Zb (xs.any g)/\St W F w':=
 F111_of ((qyw g e b d h).of λv w ⟨f,h⟩=>⟨_,f,by rw[qkd],h⟩)
def qrn{W w:A3}{F:List Asn}{p:Option B5}{c:Nat}{xs:List q97}{r:A5}(g:q97->Bool)(A:Rd F p (xs.flatMap q44))(t:xs.length<=9223372036854775807)
 (u:∀(x:q97),x∈xs->∀(w:A3) (K:A5->A3->Prop),St W F w->(∀w',St W F w'->K (Zb (g x)) w')->q01 Zp 4 r [Zg (q44 x).toArray] w K) (d:St W F w):
 qb Zp 183 #[Zl p xs.length c,r] w λv w'=>v=Zi Zk (qt4 g xs)/\St W F w':=by
 refine F183_of ⟨λvs w=>∃i:Nat,vs=[Zi Zk i]/\i<=xs.length/\(∀j y,j<i->xs[j]?=A1 y->g y=A4)/\St W F w,leftN xs.length,⟨0,rfl,by omega,λj y h=>by omega,d⟩,λx w B=>?_⟩;obtain⟨i,s,D,l,d⟩:=B;cases s;refine za (λb=>?_) λm=>?_
 .have b:i<xs.length:=by have:=yC b;omega
  have k:xs[i]?=A1 (xs[i]'b):=A0 _;generalize xs[i]'b=y at k;refine z0f (f:=q44) (size:=3) (λ_=>rfl) (by omega) A d yR b k λa o=>⟨_,o 0 _ rfl,⟨_,o 1 _ rfl,⟨_,o 2 _ rfl,u y (Ak k) w _ d λw' d=>⟨_,rfl,?_⟩⟩⟩⟩;cases hy:g y with
  |true=>exact⟨by rw[qs8 k hy l],d⟩
  |false=>
   rw[up b t];exact⟨⟨i+1,rfl,by omega,λj z C n=>by
    by_cases e:j=i;.subst e;rw[k]at n;cases n;exact hy
    .exact l j z (by omega) n,d⟩,by show xs.length -(i+1)<xs.length - i;omega⟩
 have q:i=xs.length:=by have:=yD m;omega
 subst q;exact⟨by rw[qq8 λj y h=>l j y (A7.1 h).1 h],d⟩
def qlv{W w:A3}{F:List Asn}{p:Option B5}{c:Nat}{xs:List q97}{a:A5}(g:q97->Bool)(e:Rd F p (xs.flatMap q44))(b:xs.length<=9223372036854775807)
 (d:∀(x:q97),x∈xs->∀(w:A3) (K:A5->A3->Prop),St W F w->(∀w',St W F w'->K (Zb (g x)) w')->q01 Zp 4 a [Zg (q44 x).toArray] w K) (h:St W F w):
 qb Zp 114 #[Zl p xs.length c,a] w λv w'=>v=Zb (xs.any g)/\St W F w':=
 F114_of ((qrn g e b d h).of λv w ⟨f,h⟩=>⟨_,f,by rw[qkd],h⟩)
section
def q17(n w h:Int):Bool:=decide (n>=w)&&decide (n<=h)
def qyd(t:q97):Bool:=q1a t.name&&(q17 t.secret.size 1 32&&q17 t.til 0 1099511627776)
def qw9(a b:ByteArray):Bool:=Op.bytesLess a.toList b.toList
def q3e(l:List ByteArray)(i:Nat):Bool:=match l[i]?,l[i+1]? with|some a,A1 b=>qw9 a b|_,_=>A6
def qw5(l:List ByteArray):Bool:=(Cy l.length).all (q3e l)
def qai(t:qa4):Bool:=
 if(t.nets.any (λx=>!q15 x.1 x.2)||t.toks.any (λx=>!qyd x))=A6 then A4 else
 if q1a t.name=A4 then A4 else if(t.nets.length:Int)>4 then A4 else if(t.toks.length:Int)>4 then A4 else
 q17 t.names 0 8&&(q17 t.visitors 0 8&&qw5 (t.toks.map (·.name)))
section
variable{W w:World}{F:List Asn}
def q48(n b a:Int)(c:St W F w):qb Zp 66 #[Zi Zk n,Zi Zk b,Zi Zk a] w λv w'=>v=Zb (q17 n b a)/\St W F w':=by unfold q17;exact F66_of (za (λh=>by rw[h];exact⟨rfl,c⟩) λh=>by rw[h];exact⟨rfl,c⟩)
def qwr(t:q97)(a:St W F w):qb Zp 116 #[Zg (q44 t).toArray] w λv w'=>v=Zb (qyd t)/\St W F w':=by
 unfold qyd;refine F116_of (zh a λb w a=>zg 0 a yR yR ((qoc _ a).of λv w ⟨c,a⟩=>⟨_,c,za (λh=>zg 0 a yR yR ((q48 _ _ _ a).of λv w ⟨c,a⟩=>⟨_,c,za (λd=>z8 0 a yR yR ((q48 _ _ _ a).of λv w ⟨c,a⟩=>⟨_,c,?_,a.drop⟩)) λd=>⟨?_,a.drop⟩⟩)) λh=>⟨?_,a.drop⟩⟩));.rw[h,d];rfl
 .rw[h,d];rfl
 .rw[h];rfl
def q0t{x:Int×Int}{K:A5->A3->Prop}(e:qc4 F)(a:St W F w)(f:∀w',St W F w'->K (Zb (!q15 x.1 x.2)) w'):q01 Zp 4 (.func (.func 112) #[] #[]) [Zg (qje x).toArray] w K:=by
 have d:qb Zp 112 #[Zg #[Zi .u32 x.1,Zi Zk x.2]] w K:=by
  refine F112_of (zh a λb w a=>z8 0 a yR yR (z8 0 a yR yR ((qyr x.1 x.2 (e.cons _) a).of λv w ⟨s,g,c,a⟩=>⟨_,g,?_⟩)));dsimp only;have:(s.toList==(⟨#[]⟩:ByteArray).toList)=!q15 x.1 x.2:=by
   rw[qv3];cases hr:q15 x.1 x.2 with
   |false=>exact yG (c.2 hr)
   |true=>exact yH λh=>by rw[c.1 h]at hr;cases hr
  rw[this];exact f w a.drop
 exact zw (by kernel_rfl) d
def qes{x:q97}{K:A5->A3->Prop}(h:St W F w)(d:∀w',St W F w'->K (Zb (!qyd x)) w'):q01 Zp 4 (.func (.func 115) #[] #[]) [Zg (q44 x).toArray] w K:=by
 have a:qb Zp 115 #[Zg #[Zs x.name,Zs x.secret,Zi Zk x.til]] w K:=
  F115_of (zh h λb w h=>zg 0 h yR yR (zg 0 h yR yR (z8 0 h yR yR ((qwr x h).of λv w ⟨c,h⟩=>⟨_,c,d w h.drop⟩))))
 exact zw (by kernel_rfl) a
def qrm{x:q97}{K:A5->A3->Prop}(h:St W F w)(c:∀w',St W F w'->K (Zs x.name) w'):qn5 Zp 9 (.func (.func 119) #[] #[]) [Zg (q44 x).toArray] w K:=by
 have a:qb Zp 119 #[Zg #[Zs x.name,Zs x.secret,Zi Zk x.til]] w K:=
  F119_of (zh h λb w h=>zg 0 h yR yR (c w h.drop))
 exact qn5.lit0 (by kernel_rfl) a
def qtn{x:qa4}{K:A5->A3->Prop}(h:St W F w)(c:∀w',St W F w'->K (Zs x.name) w'):qn5 Zp 9 (.func (.func 71) #[] #[]) [Zg (q43 x).toArray] w K:=by
 have a:qb Zp 71 #[Zg #[Zs x.name,Zi Zk x.names,Zi Zk x.visitors,.slice x.np x.nets.length x.nc,.slice x.tp x.toks.length x.tc]] w K:=
  F71_of (zh h λb w h=>zg 0 h yR yR (c w h.drop))
 exact qn5.lit0 (by kernel_rfl) a
def q4k{l:List ByteArray}{i:Nat}{a b:ByteArray}(w:l[i]?=A1 a)(h:l[i+1]?=A1 b):q3e l i=qw9 a b:=by unfold q3e;rw[w,h]
def qhg{l:List ByteArray}{i:Nat}(h:l.length<=i+1):q3e l i=A6:=by
 unfold q3e;rw[Bg (l:=l) (i:=i+1) h];split;.rename_i w;cases w
 .rfl
def qgw{p:Option B5}{c:Nat}{xs:List q97}(D:Rd F p (xs.flatMap q44))(E:xs.length<=9223372036854775807)(m:St W F w):
 qb Zp 118 #[Zl p xs.length c,.func (.func 119) #[] #[]] w λv w'=>v=Zb (qw5 (xs.map (·.name)))/\St W F w':=by
 refine F118_of ⟨λvs w=>∃i:Nat,vs=[Zi Zk ((i+1:Nat):Int)]/\(i=0\/i<xs.length)/\(∀j,j<i->q3e (xs.map (·.name)) j=A6)/\St W F w,leftN xs.length,⟨0,rfl,.inl yR,λj h=>by omega,m⟩,λx w I=>?_⟩;obtain⟨i,J,K,C,m⟩:=I;cases J;have q:=z6 W F;refine za (λd=>?_) λo=>?_
 .have d:i+1<xs.length:=by have:=yC d;omega
  have u:xs[i]?=A1 (xs[i]'(by omega)):=A0 _;generalize xs[i]'(by omega)=x at u;have A:xs[i+1]?=A1 (xs[i+1]'d):=A0 _;generalize xs[i+1]'d=y at A;have H:Zw Zk (((i+1:Nat):Int) - 1)=(i:Int):=by rw[w64];omega
  refine⟨StC W F,zd m,z07 (f:=q44) (size:=3) q (λ_=>rfl) (by omega) D m H (by omega) u λa s=>z07 (f:=q44) (size:=3) q (λ_=>rfl) (by omega) D m yR d A λa2 k=>?_⟩;refine⟨_,_,_,λG w g=>⟨_,s g 0 _ rfl,⟨_,s g 1 _ rfl,⟨_,s g 2 _ rfl,rfl,g⟩⟩⟩,?_⟩;refine⟨_,_,_,λG w g=>⟨_,k g 0 _ rfl,⟨_,k g 1 _ rfl,⟨_,k g 2 _ rfl,rfl,g⟩⟩⟩,?_⟩;refine zk (α:=Unit) (V:=λ_=>Zs x.name) (B:=λ_=>F) () q (λG w h=>qrm (x:=x) h λw h=>⟨_,rfl,(),rfl,h⟩) λ_=>⟨_,rfl,λG w g=>⟨_,k g 0 _ rfl,⟨_,k g 1 _ rfl,⟨_,k g 2 _ rfl,rfl,g⟩⟩⟩,?_⟩;refine zk (α:=Unit) (V:=λ_=>Zs y.name) (B:=λ_=>F) () q (λG w h=>qrm (x:=y) h λw h=>⟨_,rfl,(),rfl,h⟩) λ_=>⟨_,rfl,trivial,λG w h=>?_⟩;have n:=q4k (l:=xs.map (·.name)) (i:=i) (a:=x.name) (b:=y.name) (by rw[A9,u];rfl) (by rw[A9,A];rfl);refine za (λt=>⟨?_,zb h⟩) λt=>?_
  .have r:qw9 x.name y.name=A4:=by unfold qw9;simpa using t
   have:qw5 (xs.map (·.name))=A4:=by unfold qw5;rw[Bw];exact⟨i,by simp;omega,by rw[n,r];simp⟩
   rw[this]
  .have r:qw9 x.name y.name=A6:=by unfold qw9;simpa using t
   rw[up d E];refine⟨⟨i+1,rfl,.inr d,λj z=>?_,zb h⟩,by show xs.length -(i+1+1)<xs.length -(i+1);omega⟩;by_cases e:j=i;.subst e;rw[n,r]
   .exact C j (by omega)
 .have o:=yD o;have:qw5 (xs.map (·.name))=A6:=by
   unfold qw5;rw[B3];intro j z;have z:j<xs.length:=by simpa using z
   by_cases h:j<i;.exact C j h
   .exact qhg (by simp;omega)
  rw[this];exact⟨rfl,m⟩
def q2w{p:Option B5}{c:Nat}{xs:List qa4}(D:Rd F p (xs.flatMap q43))(E:xs.length<=9223372036854775807)(m:St W F w):
 qb Zp 70 #[Zl p xs.length c,.func (.func 71) #[] #[]] w λv w'=>v=Zb (qw5 (xs.map (·.name)))/\St W F w':=by
 refine F70_of ⟨λvs w=>∃i:Nat,vs=[Zi Zk ((i+1:Nat):Int)]/\(i=0\/i<xs.length)/\(∀j,j<i->q3e (xs.map (·.name)) j=A6)/\St W F w,leftN xs.length,⟨0,rfl,.inl yR,λj h=>by omega,m⟩,λx w I=>?_⟩;obtain⟨i,J,K,C,m⟩:=I;cases J;have r:=z6 W F;refine za (λk=>?_) λq=>?_
 .have k:i+1<xs.length:=by have:=yC k;omega
  have u:xs[i]?=A1 (xs[i]'(by omega)):=A0 _;generalize xs[i]'(by omega)=x at u;have A:xs[i+1]?=A1 (xs[i+1]'k):=A0 _;generalize xs[i+1]'k=y at A;have H:Zw Zk (((i+1:Nat):Int) - 1)=(i:Int):=by rw[w64];omega
  refine⟨StC W F,zd m,z07 (f:=q43) (size:=5) r (λ_=>rfl) (by omega) D m H (by omega) u λa o=>z07 (f:=q43) (size:=5) r (λ_=>rfl) (by omega) D m yR k A λa2 d=>?_⟩;refine⟨_,_,_,_,_,_,_,_,_,λG w g=>⟨_,o g 0 _ rfl,⟨_,o g 1 _ rfl,⟨_,o g 2 _ rfl,⟨_,_,_,o g 3 _ rfl,⟨_,_,_,o g 4 _ rfl,rfl,g⟩⟩⟩⟩⟩,?_⟩;refine⟨_,_,_,_,_,_,_,_,_,λG w g=>⟨_,d g 0 _ rfl,⟨_,d g 1 _ rfl,⟨_,d g 2 _ rfl,⟨_,_,_,d g 3 _ rfl,⟨_,_,_,d g 4 _ rfl,rfl,g⟩⟩⟩⟩⟩,?_⟩;refine zk (α:=Unit) (V:=λ_=>Zs x.name) (B:=λ_=>F) () r (λG w h=>qtn (x:=x) h λw h=>⟨_,rfl,(),rfl,h⟩) λ_=>⟨_,rfl,λG w g=>⟨_,d g 0 _ rfl,⟨_,d g 1 _ rfl,⟨_,d g 2 _ rfl,⟨_,_,_,d g 3 _ rfl,⟨_,_,_,d g 4 _ rfl,rfl,g⟩⟩⟩⟩⟩,?_⟩;refine zk (α:=Unit) (V:=λ_=>Zs y.name) (B:=λ_=>F) () r (λG w h=>qtn (x:=y) h λw h=>⟨_,rfl,(),rfl,h⟩) λ_=>⟨_,rfl,trivial,λG w h=>?_⟩;have n:=q4k (l:=xs.map (·.name)) (i:=i) (a:=x.name) (b:=y.name) (by rw[A9,u];rfl) (by rw[A9,A];rfl);refine za (λt=>⟨?_,zb h⟩) λt=>?_
  .have s:qw9 x.name y.name=A4:=by unfold qw9;simpa using t
   have:qw5 (xs.map (·.name))=A4:=by unfold qw5;rw[Bw];exact⟨i,by simp;omega,by rw[n,s];simp⟩
   rw[this]
  .have s:qw9 x.name y.name=A6:=by unfold qw9;simpa using t
   rw[up k E];refine⟨⟨i+1,rfl,.inr k,λj z=>?_,zb h⟩,by show xs.length -(i+1+1)<xs.length -(i+1);omega⟩;by_cases e:j=i;.subst e;rw[n,s]
   .exact C j (by omega)
 .have q:=yD q;have:qw5 (xs.map (·.name))=A6:=by
   unfold qw5;rw[B3];intro j z;have z:j<xs.length:=by simpa using z
   by_cases h:j<i;.exact C j h
   .exact qhg (by simp;omega)
  rw[this];exact⟨rfl,m⟩
def qto{t:qa4}(o:qc4 F)(f:qg6 F t)(a:St W F w):qb Zp 69 #[Zg (q43 t).toArray] w λv w'=>v=Zb (qai t)/\St W F w':=by
 refine F69_of (zh a λb w a=>zt 0 a yR yR ?_);refine(qnn (λx=>!q15 x.1 x.2) (f.nr.cons _) f.nb (λx _ w K a m=>q0t (o.cons _) a m) a).of λv w ⟨c,a⟩=>⟨_,c,?_⟩;unfold qai;refine⟨λvs w=>vs=[Zb (t.nets.any (λx=>!q15 x.1 x.2)||t.toks.any (λx=>!qyd x))]/\St W (Row b 112 (q43 t)::F) w,za (λh=>⟨by rw[h];rfl,a⟩) λh=>zt 0 a yR yR ((qlv (λx=>!qyd x) (f.tr.cons _) f.tb (λx _ w K a m=>qes a m) a).of λv w ⟨c,a⟩=>⟨_,c,by rw[h];rfl,a⟩),λg w k=>?_⟩;obtain⟨n,a⟩:=k;cases n;generalize (t.nets.any (λx=>!q15 x.1 x.2)||t.toks.any (λx=>!qyd x))=g;refine⟨λ_ w=>g=A4/\q1a t.name=A6/\¬(t.nets.length:Int)>4/\¬(t.toks.length:Int)>4/\St W (Row b 112 (q43 t)::F) w,?_,λw k=>?_⟩
 .refine za (λh=>zm h ?_) λh=>?_;.rw[yB h];exact⟨rfl,a.drop⟩
  rw[yA (by rw[h];simp)];refine zg 0 a yR yR ((qoc _ a).of λv w ⟨c,a⟩=>⟨_,c,za (λd=>zm d ?_) λd=>?_⟩);.rw[yB (by simpa using d)];exact⟨rfl,a.drop⟩
  have d:q1a t.name=A6:=by simpa using d
  rw[yA (by rw[d];simp)];refine zt 0 a yR yR (za (λe=>zm e ?_) λe=>?_);.rw[yB (yC e)];exact⟨rfl,a.drop⟩
  rw[yA (yD e)];refine zt 0 a yR yR (za (λi=>?_) λi=>⟨h,d,yD e,yD i,a⟩);rw[yB (yC i)];exact⟨rfl,a.drop⟩
 .obtain⟨h,d,e,i,a⟩:=k;rw[yA (by rw[h];simp),yA (by rw[d];simp),yA e,yA i];refine z8 0 a yR yR ((q48 _ _ _ a).of λv w ⟨c,a⟩=>⟨_,c,za (λj=>?_) λj=>⟨by rw[j];rfl,a.drop⟩⟩);refine z8 0 a yR yR ((q48 _ _ _ a).of λv w ⟨c,a⟩=>⟨_,c,za (λl=>?_) λl=>⟨by rw[j,l];rfl,a.drop⟩⟩);refine zt 0 a yR yR ((qgw (f.tr.cons _) f.tb a).of λv w ⟨c,a⟩=>⟨_,c,by rw[j,l];rfl,a.drop⟩)
end
structure qy where
 wait:Int
 grace:Int
 idle:Int
 lease:Int
 tp:Option B5
 tc:Nat
 tens:List qa4
def qx3(c:qy):List A5:=[Zi Zk c.wait,Zi Zk c.grace,Zi Zk c.idle,Zi Zk c.lease,.slice c.tp c.tens.length c.tc]
structure ql1(F:List Asn)(c:qy):Prop where
 tr:Rd F c.tp (c.tens.flatMap q43)
 tl:c.tens.length<=c.tc
 tb:c.tens.length<=9223372036854775807
 ok:∀t∈c.tens,qg6 F t
 tab:qc4 F
def ql1.cons{F:List Asn}{c:qy}(h:ql1 F c)(A:Asn):ql1 (A::F) c:=⟨h.tr.cons A,h.tl,h.tb,λt w=>(h.ok t w).cons A,h.tab.cons A⟩
def ql1.app{F:List Asn}{c:qy}(h:ql1 F c)(G:List Asn):ql1 (F++G) c:=⟨h.tr.app G,h.tl,h.tb,λt w=>(h.ok t w).app G,h.tab.app G⟩
def ql1.pre{F:List Asn}{c:qy}(h:ql1 F c):∀l:List Asn,ql1 (l++F) c
 |[]=>h
 |A::l=>(h.pre l).cons A
def q28(c:qy):List Int:=[c.wait,c.grace,c.idle,c.lease]
def qj6(c:qy):Bool:=
 if(q28 c).all (λn=>q17 n 1 1073741824)=A4 then A4 else
 if(c.tens.length:Int)<=8 then if c.tens.any (λt=>!qai t)=A6 then A4 else qw5 (c.tens.map (·.name))else A4
section
variable{W w:World}{F:List Asn}
def qzn{x:qa4}{K:A5->A3->Prop}(c:qc4 F)(e:qg6 F x)(h:St W F w)(d:∀w',St W F w'->K (Zb (!qai x)) w'):q01 Zp 4 (.func (.func 68) #[] #[]) [Zg (q43 x).toArray] w K:=by
 have a:qb Zp 68 #[Zg #[Zs x.name,Zi Zk x.names,Zi Zk x.visitors,.slice x.np x.nets.length x.nc,.slice x.tp x.toks.length x.tc]] w K:=
  F68_of (zh h λb w h=>zg 0 h yR yR (z8 0 h yR yR (z8 0 h yR yR (zt 0 h yR yR (zt 0 h yR yR ((qto (t:=x) (c.cons _) (e.cons _) h).of λv w ⟨f,h⟩=>⟨_,f,d w h.drop⟩))))))
 exact zw (by kernel_rfl) a
def q4d{c:qy}(g:ql1 F c)(a:St W F w):qb Zp 35 #[Zg (qx3 c).toArray] w λv w'=>v=Zb (qj6 c)/\St W F w':=by
 refine F35_of (zh a λb w a=>z8 0 a yR yR (z8 0 a yR yR (z8 0 a yR yR (z8 0 a yR yR (zh a λo w a=>?_)))));have a:St W (Row o 2 ((q28 c).map (Zi Zk))::Row b 44 (qx3 c)::F) w:=a;unfold qj6;refine⟨λvs w=>∃k:Nat,vs=[Zi Zk (k:Int)]/\k<=4/\(∀x∈(q28 c).take k,q17 x 1 1073741824=A6)/\St W (Row o 2 ((q28 c).map (Zi Zk))::Row b 44 (qx3 c)::F) w,leftN 4,⟨0,rfl,by omega,by simp,a⟩,λx w t=>?_⟩;obtain⟨k,p,u,n,a⟩:=t;cases p;have q:(q28 c).length=4:=rfl;refine za (λd=>?_) λj=>?_
 .have d:k<4:=by have:=yC d;omega
  have e:(q28 c)[k]?=A1 ((q28 c)[k]'d):=A0 _;generalize (q28 c)[k]'d=y at e;refine IxP.row yR d (z12 (x:=y) 0 a yR (by rw[A9,e];rfl) ((q48 _ _ _ a).of λv w ⟨i,a⟩=>⟨_,i,za (λh=>?_) λh=>?_⟩))
  .have h:q17 y 1 1073741824=A4:=by simpa using h
   rw[yB (Bw.2 ⟨y,Ak e,by rw[h];simp⟩)];exact⟨rfl,a.drop.drop⟩
  .have h:q17 y 1 1073741824=A6:=by simpa using h
   have r:Zw Zk ((k:Int)+1)=((k+1:Nat):Int):=by rw[w64];omega
   rw[r];refine⟨⟨k+1,rfl,by omega,λz f=>?_,a⟩,by show 4 -(k+1)<4 - k;omega⟩;rw[B1,e]at f;rcases B9.1 f with f|f;.exact n z f
   .simp at f;subst f;exact h
 have m:k=4:=by have:=yD j;omega
 subst m;rw[yA (by rw[Bool.not_eq_false,B3];intro x e;exact n x (by rw[A8 (by omega)];exact e))]
 have a:=a.drop;refine zt 0 a yR yR (za (λh=>?_) λh=>?_)
 .rw[yB (yC h)];refine zt 0 a yR yR ((qtv (λx=>!qai x) (g.tr.cons _) g.tb (λx e w K a s=>qzn (g.tab.cons _) ((g.ok x e).cons _) a s) a).of λv w ⟨i,a⟩=>⟨_,i,za (λl=>?_) λl=>?_⟩)
  .rw[yA (by simpa using l)];exact zt 0 a yR yR ((q2w (g.tr.cons _) g.tb a).of λv w ⟨i,a⟩=>⟨_,i,rfl,a.drop⟩)
  .rw[yB (by simpa using l)];exact⟨rfl,a.drop⟩
 .rw[yA (yD h)];exact⟨rfl,a.drop⟩
def qrc(x y:ByteArray):(x.toList==y.toList)=decide (x=y):=qv3 x y
def qzr{x:qa4}{b:Nat}{s:ByteArray}{G:List Asn}{K:A5->A3->Prop}(h:St W (Row b 9 [Zs s]::G) w)(c:∀w',St W (Row b 9 [Zs s]::G) w'->K (Zb (decide (x.name=s))) w'):q01 Zp 4 (.func (.func 322) #[] #[Zq (A1 ⟨b,0,A2⟩)]) [Zg (q43 x).toArray] w K:=by
 have a:qb Zp 322 #[Zg #[Zs x.name,Zi Zk x.names,Zi Zk x.visitors,.slice x.np x.nets.length x.nc,.slice x.tp x.toks.length x.tc],Zq (A1 ⟨b,0,A2⟩)] w K:=
  F322_of (zh h λb w h=>zg 0 h yR yR (LdS.n 1 h yR yR (by rw[qrc];exact c w h.drop)))
 exact zw (by kernel_rfl) a
def qkt{x:q97}{b:Nat}{s:ByteArray}{G:List Asn}{K:A5->A3->Prop}(h:St W (Row b 9 [Zs s]::G) w)(c:∀w',St W (Row b 9 [Zs s]::G) w'->K (Zb (decide (x.name=s))) w'):q01 Zp 4 (.func (.func 323) #[] #[Zq (A1 ⟨b,0,A2⟩)]) [Zg (q44 x).toArray] w K:=by
 have a:qb Zp 323 #[Zg #[Zs x.name,Zs x.secret,Zi Zk x.til],Zq (A1 ⟨b,0,A2⟩)] w K:=
  F323_of (zh h λb w h=>zg 0 h yR yR (LdS.n 1 h yR yR (by rw[qrc];exact c w h.drop)))
 exact zw (by kernel_rfl) a
def q99:qa4:=⟨⟨#[]⟩,0,0,A2,0,[],A2,0,[]⟩
def qor:q97:=⟨⟨#[]⟩,⟨#[]⟩,0⟩
def q59(c:qy)(s:ByteArray):Option qa4:=c.tens.find? λt=>decide (t.name=s)
def q8j(t:qa4)(s:ByteArray):Option q97:=t.toks.find? λx=>decide (x.name=s)
def q0j{α:Type}{g:α->Bool}{xs:List α}:(qt4 g xs<0/\xs.find? g=A2)\/∃i x,qt4 g xs=((i:Nat):Int)/\xs[i]?=A1 x/\xs.find? g=A1 x:=by
 unfold qt4;cases h:xs.findIdx? g with
 |none=>refine .inl ⟨by show(-1:Int)<0;omega,List.find?_eq_none.2 λx c=>?_⟩;have:=Bs.1 h x c;simp[this]
 |some i=>obtain⟨w,d,a⟩:=As.1 h;exact .inr ⟨i,_,rfl,A0 w,List.find?_eq_some_iff_getElem.2 ⟨d,i,w,rfl,λj b=>by have:=a j b;simpa using this⟩⟩
def qas{c:qy}(s:ByteArray)(k:ql1 F c)(h:St W F w):qb Zp 278 #[Zg (qx3 c).toArray,Zs s] w λv w'=>v=Zt #[Zg (q43 ((q59 c s).getD q99)).toArray,Zb (q59 c s).isSome]/\St W F w':=by
 refine F278_of (zh h λb w h=>zh h λn w h=>zh h λp w h=>zt 2 h yR yR ?_);have h:St W (Row n 9 [Zs s]::Row p 112 (q43 q99)::Row b 44 (qx3 c)::F) w:=h.p1;refine(qvn (λx=>decide (x.name=s)) (((k.tr.cons _).cons _).cons _) k.tb (λx q w K h l=>qzr h l) h).of λv w ⟨o,h⟩=>⟨_,o,?_⟩;unfold q59;rcases q0j (g:=λt:qa4=>decide (t.name=s)) (xs:=c.tens)with ⟨j,e⟩|⟨i,x,j,e,m⟩
 .rw[e];refine zm (yG j) ?_;refine St1.zz 1 h yR λw h=>St1.zz 1 h yR λw h=>St1.zz 1 h yR λw h=>St1.zz 1 h yR λw h=>St1.zz 1 h yR λw h=>?_;exact zg 1 h yR yR (z8 1 h yR yR (z8 1 h yR yR (zt 1 h yR yR (zt 1 h yR yR ⟨rfl,h.drop.drop.drop⟩))))
 .rw[m,j];refine zn (yH (by omega)) ?_;refine zt 2 h yR yR (z0f (f:=q43) (size:=5) (λ_=>rfl) (by omega) (((k.tr.cons _).cons _).cons _) h yR (A7.1 e).1 e λa d=>?_);refine⟨_,d 0 _ rfl,⟨_,d 1 _ rfl,⟨_,d 2 _ rfl,⟨_,_,_,d 3 _ rfl,⟨_,_,_,d 4 _ rfl,?_⟩⟩⟩⟩⟩;refine St1.zz 1 h yR λw h=>St1.zz 1 h yR λw h=>St1.zz 1 h yR λw h=>St1.zz 1 h yR λw h=>St1.zz 1 h yR λw h=>?_;exact zg 1 h yR yR (z8 1 h yR yR (z8 1 h yR yR (zt 1 h yR yR (zt 1 h yR yR ⟨rfl,h.drop.drop.drop⟩))))
def qeq{t:qa4}(s:ByteArray)(j:qg6 F t)(h:St W F w):qb Zp 279 #[Zg (q43 t).toArray,Zs s] w λv w'=>v=Zt #[Zg (q44 ((q8j t s).getD qor)).toArray,Zb (q8j t s).isSome]/\St W F w':=by
 refine F279_of (zh h λb w h=>zh h λm w h=>zh h λo w h=>zt 2 h yR yR ?_);have h:St W (Row m 9 [Zs s]::Row o 114 (q44 qor)::Row b 112 (q43 t)::F) w:=h.p1;refine(qrn (λx=>decide (x.name=s)) (((j.tr.cons _).cons _).cons _) j.tb (λx p w K h k=>qkt h k) h).of λv w ⟨n,h⟩=>⟨_,n,?_⟩;unfold q8j;rcases q0j (g:=λt:q97=>decide (t.name=s)) (xs:=t.toks)with ⟨d,c⟩|⟨i,x,d,c,l⟩
 .rw[c];refine zm (yG d) ?_;refine St1.zz 1 h yR λw h=>St1.zz 1 h yR λw h=>St1.zz 1 h yR λw h=>?_;exact zg 1 h yR yR (zg 1 h yR yR (z8 1 h yR yR ⟨rfl,h.drop.drop.drop⟩))
 .rw[l,d];refine zn (yH (by omega)) ?_;refine zt 2 h yR yR (z0f (f:=q44) (size:=3) (λ_=>rfl) (by omega) (((j.tr.cons _).cons _).cons _) h yR (A7.1 c).1 c λa e=>?_);refine⟨_,e 0 _ rfl,⟨_,e 1 _ rfl,⟨_,e 2 _ rfl,?_⟩⟩⟩;refine St1.zz 1 h yR λw h=>St1.zz 1 h yR λw h=>St1.zz 1 h yR λw h=>?_;exact zg 1 h yR yR (zg 1 h yR yR (z8 1 h yR yR ⟨rfl,h.drop.drop.drop⟩))
end
end
def or0(x y:UInt8):x|||y=0↔x=0/\y=0:=by
 constructor
 .intro h;have w:x.toNat|||y.toNat=0:=by rw[<-UInt8.toNat_or,h];rfl
  rw[Nat.or_eq_zero_iff]at w;exact⟨Bn.1 w.1,Bn.1 w.2⟩
 .rintro⟨rfl,rfl⟩;rfl
def xor0(x y:UInt8):x ^^^ y=0↔x=y:=UInt8.xor_eq_zero_iff
def qos{W w:A3}{F:List Asn}{p q:Option B5}{d e:Nat}{a b:List UInt8}(E:Rd F p (a.map qd))(l:Rd F q (b.map qd))(H:a.length<=1000000)(f:St W F w):
 qb Zp 350 #[Zl p a.length d,Zl q b.length e] w λv w'=>v=Zb (decide (a=b))/\St W F w':=by
 refine F350_of (za (λh=>⟨?_,f⟩) λh=>?_)
 .have h:(a.length:Int)≠b.length:=by simpa using h
  rw[yH (λe=>h (by rw[e]))]
 have C:a.length=b.length:=by
  have:¬(a.length:Int)≠b.length:=by simpa using h
  omega
 refine⟨λvs w=>∃(i:Nat) (u:UInt8),vs=[Zi .u8 (u.toNat:Int),Zi Zk i]/\i<=a.length/\(u=0↔a.take i=b.take i)/\St W F w,leftN a.length,⟨0,0,rfl,by omega,by simp,f⟩,λu x w B=>?_⟩;obtain⟨i,u,D,I,k,f⟩:=B;cases D;refine za (λc=>?_) λo=>⟨?_,f⟩
 .have c:i<a.length:=by have:=yC c;omega
  have r:a[i]?=A1 (a[i]'c):=A0 _;have s:b[i]?=A1 (b[i]'(by omega)):=A0 _;generalize a[i]'c=x at r;generalize b[i]'(by omega)=y at s;have t:=z6 W F;refine⟨StC W _,zd f,IxP.byC t E f yR c r λz m=>IxP.byC t l f yR (by omega) s λA n=>?_⟩;refine⟨_,z0j m,_,z0j n,λG w h=>?_⟩;rw[qjz,orV,up c (by omega)];refine⟨⟨i+1,u|||(x ^^^ y),rfl,by omega,?_,zb h⟩,by show a.length -(i+1)<a.length - i;omega⟩;rw[or0,xor0,k,B1,B1,r,s];constructor;.rintro⟨g,rfl⟩;rw[g]
  .intro g;have:=List.append_inj' g yR;exact⟨this.1,by simpa using this.2⟩
 .have j:i=a.length:=by have:=yD o;omega
  subst j;rw[Ap,C,Ap]at k;congr 1;rw[Bool.eq_iff_iff];simp only[beq_iff_eq,yJ];rw[<-k];constructor;.intro h;exact Bn.1 (by show u.toNat=0;omega)
  .intro h;rw[h];rfl
section
abbrev qva:=List ((ByteArray×ByteArray)×Int)
def qg1(b:Nat)(c:qy)(R:qva):Asn:=exA λm:Nat=>qz [Row b 158 (qx3 c++[.map (A1 m)]),qg kkV (Zi Zk) m R]
def uMv:Zp.underlying 156=A1 (.map 326 3):=Tryz.underlying156
def iIn:Zp.info? 3=A1 Tryz.t3:=by kernel_rfl
def zIn:Tryz.t3.zero=A1 (Zi Zk 0):=rfl
section
variable{W w:World}{F:List Asn}{b:Nat}{c:qy}{R:qva}
def qg1.open_(h:St W (qg1 b c R::F) w):∃m,St W (Row b 158 (qx3 c++[.map (A1 m)])::qg kkV (Zi Zk) m R::F) w:=by obtain⟨m,h⟩:=h.of_ex;exact⟨m,h.of_sep⟩
def qg1.shut(m:Nat)(h:St W (Row b 158 (qx3 c++[.map (A1 m)])::qg kkV (Zi Zk) m R::F) w):St W (qg1 b c R::F) w:=z00 m (zj (l:=[_,_]) h)
def q4u(d:ql1 F c)(a:St W F w):qb Zp 36 #[Zg (qx3 c).toArray] w λv w'=>(qj6 c=A4/\v=Zq A2/\St W F w')\/(qj6 c=A6/\∃b,v=qc b/\St W (qg1 b c []::F) w'):=by
 refine F36_of (zh a λb w a=>z8 0 a yR yR (z8 0 a yR yR (z8 0 a yR yR (z8 0 a yR yR (zt 0 a yR yR ?_)))));refine(q4d (d.cons _) a).of λv w ⟨f,a⟩=>⟨_,f,za (λh=>?_) λh=>?_⟩;.exact .inl ⟨by simpa using h,rfl,a.drop⟩
 refine z8 0 a yR yR (z8 0 a yR yR (z8 0 a yR yR (z8 0 a yR yR (zt 0 a yR yR (qs5.f (ν:=Int) kkV (Zi Zk) a λm w a=>zh a λe w a=>.inr ⟨by simpa using h,e,rfl,qg1.shut m (zl 3 [0,1] a yR)⟩)))))
def q7e(c:qy)(ten tok:ByteArray):Option q97:=q8j ((q59 c ten).getD q99) tok
def qg6.found(w:ql1 F c)(s:ByteArray):qg6 F ((q59 c s).getD q99):=by
 cases h:q59 c s with
 |none=>exact⟨Rd.nil _ _,by simp[q99],by simp[q99],Rd.nil _ _,by simp[q99],by simp[q99],by simp[q99]⟩
 |some t=>exact w.ok t (Bt h)
def qcf{ten tok:ByteArray}{i:A5}{Q:A3->Prop}(j:ql1 F c)
 (e:∀t,q7e c ten tok=A1 t->∀(w:A3) (K:A5->A3->Prop),St W (qg1 b c R::F) w->(∀w',Q w'->K (Zt #[]) w')->q01 Zp 0 i [Zg (q44 t).toArray] w K)
 (d:q7e c ten tok=A2->∀w,St W (qg1 b c R::F) w->Q w) (a:St W (qg1 b c R::F) w):qb Zp 206 #[qc b,Zs ten,Zs tok,i] w λv w'=>v=Zt #[]/\Q w':=by
 obtain⟨m,a⟩:=qg1.open_ a;refine F206_of (z7 (z8 0 a yR yR (z8 0 a yR yR (z8 0 a yR yR (z8 0 a yR yR (zt 0 a yR yR ?_))))));refine(qas ten ((j.cons _).cons _) a).of λv w ⟨g,a⟩=>⟨_,_,_,_,_,_,_,_,_,_,g,zh a λf w a=>?_⟩;have n:qg6 (Row f 112 (q43 ((q59 c ten).getD q99))::Row b 158 (qx3 c++[.map (A1 m)])::qg kkV (Zi Zk) m R::F) ((q59 c ten).getD q99):=(((qg6.found j ten).cons _).cons _).cons _;refine St1.zz 0 a yR λw a=>St1.zz 0 a yR λw a=>St1.zz 0 a yR λw a=>St1.zz 0 a yR λw a=>St1.zz 0 a yR λw a=>?_;refine zg 0 a yR yR (z8 0 a yR yR (z8 0 a yR yR (zt 0 a yR yR (zt 0 a yR yR ?_))));refine(qeq tok n a).of λv w ⟨g,a⟩=>⟨_,_,_,_,g,zh a λk w a=>?_⟩;refine St1.zz 0 a yR λw a=>St1.zz 0 a yR λw a=>St1.zz 0 a yR λw a=>?_;have hV:∀w,St W (Row k 114 (q44 ((q7e c ten tok).getD qor))::Row f 112 (q43 ((q59 c ten).getD q99))::Row b 158 (qx3 c++[.map (A1 m)])::qg kkV (Zi Zk) m R::F) w->St W (qg1 b c R::F) w:=λw h=>qg1.shut m h.drop.drop;have a:St W (Row k 114 (q44 ((q7e c ten tok).getD qor))::Row f 112 (q43 ((q59 c ten).getD q99))::Row b 158 (qx3 c++[.map (A1 m)])::qg kkV (Zi Zk) m R::F) w:=a;unfold q7e at e d hV a;cases h:q8j ((q59 c ten).getD q99) tok with
 |none=>exact zn yR ⟨rfl,d h w (hV w a)⟩
 |some t=>rw[h]at hV a;exact zm yR (zg 0 a yR yR (zg 0 a yR yR (z8 0 a yR yR (e t h w _ (hV w a) λw' l=>⟨rfl,rfl,l⟩))))
def qqd(c:qy)(R:qva)(ten tok:ByteArray)(now:Int):Bool:=match q7e c ten tok with|none=>A4|some t=>((qe R (ten,tok)).getD 0==0)&&decide (now<t.til)
def q2u{ten tok:ByteArray}{now:Int}(u:ql1 F c)(a:St W (qg1 b c R::F) w):qb Zp 348 #[qc b,Zs ten,Zs tok,Zi Zk now] w λv w'=>v=Zb (qqd c R ten tok now)/\St W (qg1 b c R::F) w':=by
 refine F348_of (zh a λj w a=>zh a λk w a=>zh a λl w a=>zh a λg w a=>zh a λf w a=>z0o 0 a yR (by simp) λw a=>?_);have a:St W (Row f 4 [Zb A4]::Row g 2 [Zi Zk now]::Row l 9 [Zs tok]::Row k 9 [Zs ten]::Row j 90 [qc b]::qg1 b c R::F) w:=a;refine LdP.n 4 a yR yR (LdS.n 3 a yR yR (LdS.n 2 a yR yR ?_));have a:=zf 5 0 a yR;refine(qcf (Q:=λw=>St W (Row f 4 [Zb (qqd c R ten tok now)]::qg1 b c R::F) w) (F:=Row f 4 [Zb A4]::Row g 2 [Zi Zk now]::Row l 9 [Zs tok]::Row k 9 [Zs ten]::Row j 90 [qc b]::F) (((((u.cons _).cons _).cons _).cons _).cons _) (λt p w K a s=>?_) (λr w a=>?_) a).of λv w ⟨y,a⟩=>⟨y,LdB.n 0 a yR yR ⟨rfl,a.drop⟩⟩
 .obtain⟨m,a⟩:=qg1.open_ a;have q:qb Zp 380 #[Zg #[Zs t.name,Zs t.secret,Zi Zk t.til],qc j,qc k,qc l,qc g,qc f] w K:=by
   refine F380_of (zh a λo w a=>?_);have d:=z6 W (Row o 114 (q44 t)::Row b 158 (qx3 c++[.map (A1 m)])::qg kkV (Zi Zk) m R::Row f 4 [Zb A4]::Row g 2 [Zi Zk now]::Row l 9 [Zs tok]::Row k 9 [Zs ten]::Row j 90 [qc b]::F);refine⟨StC W _,zd a,_,zy 7 d yR yR,z7 ⟨_,z0b 1 d yR yR,_,QtS.n 6 d yR yR,_,QtS.n 5 d yR yR,(qe R (ten,tok)).getD 0,λG w h=>?_,?_⟩⟩
   .refine q6e kKK uMv iIn zIn 2 ((d G w).1 h) yR (ten,tok) A4 ?_;have e:((qe R (ten,tok)).map (Zi Zk)).getD (Zi Zk 0)=Zi Zk ((qe R (ten,tok)).getD 0):=by cases qe R (ten,tok)<;>rfl
    rw[yA (by simp),e];exact⟨_,rfl,rfl,h⟩
   .have i:∀x w',St W (Row o 114 (q44 t)::Row b 158 (qx3 c++[.map (A1 m)])::qg kkV (Zi Zk) m R::Row f 4 [Zb x]::Row g 2 [Zi Zk now]::Row l 9 [Zs tok]::Row k 9 [Zs ten]::Row j 90 [qc b]::F) w'->x=qqd c R ten tok now->K (Zt #[]) w':=λx w' h e=>s w' (by subst e;exact(qg1.shut m (zl 8 [1,2,3] h yR)).p1)
    refine za (λn=>⟨_,z02 4 d yR yR,_,zi 0 d yR yR,Ef.st 3 d yR (by simp) ⟨rfl,trivial,λG w h=>i _ w (zb h) ?_⟩⟩) λn=>Ef.st 3 d yR (by simp) ⟨rfl,trivial,λG w h=>i _ w (zb h) ?_⟩;.unfold qqd;rw[p];dsimp only;rw[n];rfl
    .unfold qqd;rw[p];dsimp only;rw[n];rfl
  exact zw (by kernel_rfl) q
 .unfold qqd;rw[r];exact zl 6 [1,0] a yR
def qv7(c:qy)(R:qva)(ten tok:ByteArray):qva×Bool:=match q7e c ten tok with
 |none=>(R,A4)
 |some _=>(qk R (ten,tok) (Zw Zk ((qe R (ten,tok)).getD 0+1)),Zw Zk ((qe R (ten,tok)).getD 0+1)==1)
def q7o{ten tok:ByteArray}(x:ql1 F c)(a:St W (qg1 b c R::F) w):qb Zp 130 #[qc b,Zs ten,Zs tok] w λv w'=>v=Zb (qv7 c R ten tok).2/\St W (qg1 b c (qv7 c R ten tok).1::F) w':=by
 refine F130_of (zh a λg w a=>zh a λl w a=>zh a λo w a=>zh a λf w a=>z0o 0 a yR (by simp) λw a=>?_);have a:St W (Row f 4 [Zb A4]::Row o 9 [Zs tok]::Row l 9 [Zs ten]::Row g 90 [qc b]::qg1 b c R::F) w:=a;refine LdP.n 3 a yR yR (LdS.n 2 a yR yR (LdS.n 1 a yR yR ?_));have a:=zf 4 0 a yR;refine(qcf (Q:=λw=>St W (Row f 4 [Zb (qv7 c R ten tok).2]::qg1 b c (qv7 c R ten tok).1::F) w) (F:=Row f 4 [Zb A4]::Row o 9 [Zs tok]::Row l 9 [Zs ten]::Row g 90 [qc b]::F) ((((x.cons _).cons _).cons _).cons _) (λt u w K a s=>?_) (λi w a=>?_) a).of λv w ⟨k,a⟩=>⟨k,LdB.n 0 a yR yR ⟨rfl,a.drop⟩⟩
 .obtain⟨m,a⟩:=qg1.open_ a;have q:qb Zp 207 #[Zg #[Zs t.name,Zs t.secret,Zi Zk t.til],qc l,qc o,qc g,qc f] w K:=by
   refine F207_of (zh a λy w a=>LdS.n 5 a yR yR (LdS.n 4 a yR yR (zh a λj w a=>⟨rfl,StA.r 0 a yR yR (λv k=>by simp at k;rcases k with rfl|rfl<;>trivial) λw a=>?_⟩)));have a:St W (Row j 326 [Zs ten,Zs tok]::Row b 158 (qx3 c++[.map (A1 m)])::qg kkV (Zi Zk) m R::Row f 4 [Zb A4]::Row g 90 [qc b]::F) w:=zl 8 [0,2,3,4,7] a yR;have e:∀L:qva,((qe L (ten,tok)).map (Zi Zk)).getD (Zi Zk 0)=Zi Zk ((qe L (ten,tok)).getD 0):=λL=>by cases qe L (ten,tok)<;>rfl
   have d:=z6 W (Row j 326 [Zs ten,Zs tok]::Row b 158 (qx3 c++[.map (A1 m)])::qg kkV (Zi Zk) m R::Row f 4 [Zb A4]::Row g 90 [qc b]::F);refine⟨StC W _,zd a,_,zy 4 d yR yR,z7 ⟨_,z0b 1 d yR yR,#[Zs ten,Zs tok],rfl,QtA.r 0 d yR yR,(qe R (ten,tok)).getD 0,λG w h=>?_,?_⟩⟩
   .refine q6e kKK uMv iIn zIn 2 ((d G w).1 h) yR (ten,tok) A4 ?_;rw[yA (by simp),e];exact⟨_,rfl,rfl,h⟩
   generalize i:(qe R (ten,tok)).getD 0=n;refine zk (α:=Nat) (V:=λt=>Zt #[Zi Zk n,Zi Zk (t:Int)]) (B:=λt=>qs6 kkV (Zi Zk) m (qk R (ten,tok) n) (ten,tok) t::Row j 326 [Zs ten,Zs tok]::Row b 158 (qx3 c++[.map (A1 m)])::Row f 4 [Zb A4]::Row g 90 [qc b]::F) 0 d (λG w h=>?_) λp=>⟨_,_,rfl,λG w h=>?_,?_⟩
   .refine qve kKK uMv (z:=0) iIn zIn 2 h yR (ten,tok) λp w h=>⟨_,_,rfl,p,?_,?_⟩;.rw[i]
    .rw[i]at h;exact zf 2 0 h yR
   .have r:=(zb h).imp λh=>qs6.weak;refine q6e kKK uMv iIn zIn 0 r yR (ten,tok) A4 ?_;rw[yA (by simp),e,qj1];exact⟨_,rfl,rfl,h⟩
   refine zk (α:=Unit) (V:=λt=>Zt #[]) (B:=λt=>qg kkV (Zi Zk) m (qk R (ten,tok) (Zw Zk (n+1)))::Row j 326 [Zs ten,Zs tok]::Row b 158 (qx3 c++[.map (A1 m)])::Row f 4 [Zb A4]::Row g 90 [qc b]::F) () ir (λG w h=>?_) λ_=>⟨rfl,trivial,λG w h=>?_⟩
   .refine qvb (vl:=Zi Zk) kKK (qj1 _ _ _) (Zw Zk (n+1)) 0 h yR λw h=>⟨(),rfl,?_⟩;rw[qe7]at h;exact h
   have a:=zb h;have d:=z6 W (qg kkV (Zi Zk) m (qk R (ten,tok) (Zw Zk (n+1)))::Row j 326 [Zs ten,Zs tok]::Row b 158 (qx3 c++[.map (A1 m)])::Row f 4 [Zb A4]::Row g 90 [qc b]::F);refine⟨StC W _,zd a,_,zy 4 d yR yR,z7 ⟨_,z0b 2 d yR yR,#[Zs ten,Zs tok],rfl,QtA.r 1 d yR yR,Zw Zk (n+1),λG w h=>?_,?_⟩⟩
   .refine q6e kKK uMv iIn zIn 0 ((d G w).1 h) yR (ten,tok) A4 ?_;rw[yA (by simp),e,qj1];exact⟨_,rfl,rfl,h⟩
   refine Ef.st 3 d yR (by simp) ⟨rfl,trivial,λG w h=>s w ?_⟩;have h:=zb h;unfold qv7;rw[u];dsimp only;rw[i];exact(qg1.shut m (zl 5 [2,0,3] h yR)).p1
  exact zw (by kernel_rfl) q
 .unfold qv7;rw[i];exact zl 5 [1,0] a yR
def qza(c:qy)(ten tok nonce:ByteArray):ByteArray:=match q7e c ten tok with
 |none=>⟨#[]⟩
 |some t=>mkS (q07 (qm t.secret) [qm ten,qm tok,qm nonce])
def qls{ten tok nonce:ByteArray}(n:ql1 F c)(a:St W (qg1 b c R::F) w):qb Zp 349 #[qc b,Zs ten,Zs tok,Zs nonce] w λv w'=>v=Zs (qza c ten tok nonce)/\St W (qg1 b c R::F) w':=by
 refine F349_of (zh a λg w a=>zh a λm w a=>zh a λf w a=>zh a λd w a=>z0o 0 a yR (by simp) λw a=>?_);have a:St W (Row d 9 [Zs ⟨#[]⟩]::Row f 9 [Zs nonce]::Row m 9 [Zs tok]::Row g 9 [Zs ten]::qg1 b c R::F) w:=a;refine LdS.n 3 a yR yR (LdS.n 2 a yR yR ?_);have a:=zf 4 0 a yR;refine(qcf (Q:=λw=>St W (Row d 9 [Zs (qza c ten tok nonce)]::qg1 b c R::F) w) (F:=Row d 9 [Zs ⟨#[]⟩]::Row f 9 [Zs nonce]::Row m 9 [Zs tok]::Row g 9 [Zs ten]::F) ((((n.cons _).cons _).cons _).cons _) (λt j w K a r=>?_) (λq w a=>?_) a).of λv w ⟨l,a⟩=>⟨l,LdS.n 0 a yR yR ⟨rfl,a.drop⟩⟩
 .have e:(qm t.secret).length<=9223372036854775807:=(qg6.found n ten).sb t (Bt (by unfold q7e q8j at j;exact j));have o:qb Zp 381 #[Zg #[Zs t.name,Zs t.secret,Zi Zk t.til],qc g,qc m,qc f,qc d] w K:=by refine F381_of (zh a λu w a=>zg 0 a yR yR ?_);rw[show t.secret=mkS (qm t.secret)by unfold qm;rw[qd5]];refine qcb uS uB uU8 a λx y w p a=>⟨_,_,_,rfl,LdS.n 6 a yR yR (LdS.n 5 a yR yR (LdS.n 4 a yR yR (zh a λs w a=>?_)))⟩;refine(qqe (k:=qm t.secret) (ws:=[qm ten,qm tok,qm nonce]) (Rd.cons (z0t 0 λi v h=>by rw[Am,Ad (A7.1 h).1];exact h) _) p e (by simp only[B6,D1,qc8,qm,qd5];exact z0m) (by simp) a).of λv w ⟨l,a⟩=>⟨_,l,?_⟩;have a:St W (qg1 b c R::Row d 9 [Zs ⟨#[]⟩]::F) w:=zl 8 [3,4] a yR;refine z0o 1 a yR (by simp) λw a=>r w ?_;unfold qza;rw[j];exact a.p1
  exact zw (by kernel_rfl) o
 .unfold qza;rw[q];exact zl 5 [1,0] a yR
def qfb(c:qy)(R:qva)(ten tok nonce proof:ByteArray)(now:Int):Int:=
 if qqd c R ten tok now=A4 then 3 else if qza c ten tok nonce=⟨#[]⟩then 101 else if qza c ten tok nonce=proof then 0 else 101
def qpu(c:qy)(ten tok nonce:ByteArray):(qza c ten tok nonce).size<=64:=by
 unfold qza;split;.decide
 .rw[qf1];unfold q07;split;.rw[qyb,qke];omega
  .simp
def qup{ten tok nonce d:ByteArray}{now:Int}(m:ql1 F c)(f:St W (qg1 b c R::F) w):qb Zp 313 #[qc b,Zs ten,Zs tok,Zs nonce,Zs d,Zi Zk now] w λv w'=>v=Zi Zk (qfb c R ten tok nonce d now)/\St W (qg1 b c R::F) w':=by
 unfold qfb;refine F313_of ((q2u m f).of λv w ⟨g,f⟩=>⟨_,g,za (λh=>?_) λh=>?_⟩);.rw[yB (by simpa using h)];exact⟨rfl,f⟩
 rw[yA (by simpa using h)];refine(qls m f).of λv w ⟨g,f⟩=>⟨_,g,?_⟩;have n:=qpu c ten tok nonce;generalize qza c ten tok nonce=x at n⊢;dsimp only;rw[qrc];refine za (λk=>?_) λk=>?_;.rw[yB (yC k)];exact⟨rfl,f⟩
 rw[yA (yD k)];have e:∀s:ByteArray,s=mkS (qm s):=λs=>by unfold qm;rw[qd5]
 obtain⟨x,rfl⟩:∃l,x=mkS l:=⟨_,e x⟩;obtain⟨d,rfl⟩:∃l,d=mkS l:=⟨_,e d⟩;rw[qf1]at n;refine qcb uS uB uU8 f λu y w q f=>⟨_,_,_,rfl,qcb uS uB uU8 f λt r w p f=>⟨_,_,_,rfl,?_⟩⟩;refine(qos (a:=x) (b:=d) (Rd.cons (z0t 0 λi v h=>by rw[Am,Ad (A7.1 h).1];exact h) _) (z0t 0 λi v h=>by rw[Am,Ad (A7.1 h).1];exact h) (by omega) f).of λv w ⟨g,f⟩=>⟨_,g,?_⟩;have o:mkS x=mkS d↔x=d:=⟨λh=>by have:=yE qm h;simpa [qm,mkS]using this,λh=>by rw[h]⟩;refine za (λj=>?_) λj=>?_;.rw[yA (λh=>by rw[yG (o.1 h)]at j;cases j)];exact⟨rfl,f.drop.drop⟩
 .rw[yB (o.2 (by simpa using j))];exact⟨rfl,f.drop.drop⟩
end
end
def q3l:List Int:=[16,3,1,1,0,4,5,13,13,5,5,3,2,0,1]
def qj4(n:Int):Int:=if n<0 then 16 else if n>14 then 16 else q3l.getD n.toNat 0
def uK:Zp.underlying 273=A1 (.array 15 3):=Tryz.underlying273
def q501:Zp.info? 3=A1 Tryz.t3:=by kernel_rfl
def q8q{W w:A3}{F:List Asn}(h:St W F w):qb Zp 160 #[] w λv w'=>v=Zg (q3l.map (Zi Zk)).toArray/\St W F w':=by refine F160_of (zh h λb w h=>⟨rfl,StA.r 0 h yR yR (λv a=>?_) λw h=>LdA.r 0 h yR yR ⟨rfl,h.drop⟩⟩);simp at a;rcases a with rfl|rfl|rfl|rfl|rfl|rfl|rfl|rfl|rfl|rfl|rfl|rfl|rfl|rfl|rfl<;>trivial
def q3z{P:D5}{t e:Cp}{N:Nat}{d:TypeDesc}{h:TypeInfo}(j:P.underlying t=A1 (.array N e))(b:P.underlying e=A1 d)(a:qed d=A4)(c:P.info? e=A1 h)(f:h.size=1){cs:Array A5}{k:Nat}(g:k<N){v:A5}(i:cs[k]?=A1 v)(w:A3):
 Sem.run P (Instr.index t (Zg cs) (Zi Zk (k:Int))) w=.ok v w:=by
 have l:(0:Int)<=(k:Int)/\(k:Int)<(N:Int):=⟨by omega,by omega⟩;simp[Instr.index,asIntOf,run_underlying j,g,qz3 c,f,part,qhc b,a,i]
def qlf{W w:A3}{F:List Asn}(n:Int)(b:St W F w):qb Zp 98 #[Zi Zk n] w λv w'=>v=Zi Zk (qj4 n)/\St W F w':=by
 refine F98_of (za (λh=>?_) λh=>za (λa=>?_) λa=>?_)
 .have h:=yC h;unfold qj4;rw[yB h];exact⟨rfl,b⟩
 .have h:=yD h;have a:=yC a;unfold qj4;rw[yA h,yB a];exact⟨rfl,b⟩
 have h:=yD h;have a:=yD a;obtain⟨k,rfl⟩:=Int.eq_ofNat_of_zero_le (Int.not_lt.1 h);refine(q8q b).of λv w ⟨c,b⟩=>⟨_,rfl,c,_,λw=>q3z uK uInt yR q501 yR (by omega) (v:=Zi Zk (q3l.getD k 0)) (by rw[List.getElem?_toArray,A9,List.getD_eq_getElem?_getD,A0 (show k<q3l.length by show k<15;omega)];rfl) w,_,rfl,?_⟩;unfold qj4;rw[yA h,yA a];exact⟨rfl,b⟩
def qzh(s:ByteArray)(has:Bool):Bool:=if(s.size:Int)<=64 then(if has=A6 then A6 else(Cs s==Cs ⟨#[]⟩))else A4
def qek{W w:A3}{F:List Asn}(s:ByteArray)(has:Bool)(b:St W F w):qb Zp 158 #[Zs s,Zb has] w λv w'=>v=Zb (qzh s has)/\St W F w':=by
 refine F158_of (za (λh=>za (λa=>?_) λa=>?_) λh=>?_)<;>unfold qzh;.rw[yB (yC h),yB a];exact⟨rfl,b⟩
 .rw[yB (yC h),yA (by rw[a];simp)];exact⟨rfl,b⟩
 .rw[yA (yD h)];exact⟨rfl,b⟩
def q2g(n:Int)(has:Bool):Bool:=if n>=0 then(if n<=1099511627776 then(if has=A6 then A6 else n==0)else A4)else A4
def qmg{W w:A3}{F:List Asn}(n:Int)(has:Bool)(b:St W F w):qb Zp 159 #[Zi Zk n,Zb has] w λv w'=>v=Zb (q2g n has)/\St W F w':=by
 refine F159_of (za (λh=>za (λa=>za (λc=>?_) λc=>?_) λa=>?_) λh=>?_)<;>unfold q2g;.rw[yB (yC h),yB (yC a),yB c];exact⟨rfl,b⟩
 .rw[yB (yC h),yB (yC a),yA (by rw[c];simp)];exact⟨rfl,b⟩
 .rw[yB (yC h),yA (yD a)];exact⟨rfl,b⟩
 .rw[yA (yD h)];exact⟨rfl,b⟩
def qhf(x b:Int):Bool:=decide ((Zw Zk ↑((Az (An Zk) x&&& Az (An Zk) b).toNat))>0)
def qz6(m:qk1):Bool:=(qj4 m.k != 16)&&(qzh m.A (qhf (qj4 m.k) 1)&&(qzh m.B (qhf (qj4 m.k) 2)&&(q2g m.N (qhf (qj4 m.k) 4)&&q2g m.M (qhf (qj4 m.k) 8))))
def qti{W w:A3}{F:List Asn}(m:qk1)(a:St W F w):qb Zp 95 #[ql2 m] w λv w'=>v=Zb (qz6 m)/\St W F w':=by
 refine F95_of (zh a λb w a=>z8 0 a yR yR ((qlf m.k a).of λv w ⟨c,a⟩=>⟨_,c,?_⟩));unfold qz6;refine za (λh=>zg 0 a yR yR ((qek m.A (qhf (qj4 m.k) 1) a).of λv w ⟨c,a⟩=>⟨_,c,?_⟩)) λh=>by rw[h];exact⟨rfl,a.drop⟩
 rw[h,Av];refine za (λh=>zg 0 a yR yR ((qek m.B (qhf (qj4 m.k) 2) a).of λv w ⟨c,a⟩=>⟨_,c,?_⟩)) λh=>by rw[h];exact⟨rfl,a.drop⟩
 rw[h,Av];refine za (λh=>z8 0 a yR yR ((qmg m.N (qhf (qj4 m.k) 4) a).of λv w ⟨c,a⟩=>⟨_,c,?_⟩)) λh=>by rw[h];exact⟨rfl,a.drop⟩
 rw[h,Av];refine za (λh=>z8 0 a yR yR ((qmg m.M (qhf (qj4 m.k) 8) a).of λv w ⟨c,a⟩=>⟨_,c,?_⟩)) λh=>by rw[h];exact⟨rfl,a.drop⟩
 rw[h,Av];exact⟨rfl,a.drop⟩
def q2h(k:Int)(i:Nat):Bool:=(Zw Zk ↑((Az (An Zk) (Int.fdiv k (2 ^ min (Bc (i:Int)) (An Zk)))&&& Az (An Zk) 1).toNat))==1
def qa1(m:qk1):Nat->List UInt8
 |0=>q25 (qm m.A)
 |1=>q25 (qm m.B)
 |2=>qzc m.N
 |_=>qzc m.M
def qq3(m:qk1)(i:Nat):List UInt8:=(Cy i).foldl (λout i=>if q2h (qj4 m.k) i=A6 then out++qa1 m i else out) [qi5 m.k]
def q0d(m:qk1):List UInt8:=if qz6 m=A6 then qq3 m 4 else []
def qkg(m:qk1)(i:Nat):qq3 m (i+1)=if q2h (qj4 m.k) i=A6 then qq3 m i++qa1 m i else qq3 m i:=by unfold qq3;rw[Cu,Bx];rfl
def qcl(n:Int):(qzc n).length<=6:=by
 unfold qzc;split;.simp
 .have:=qnf n 6;split;.simp
  .simp;omega
def q6p{m:qk1}(h:qz6 m=A6):m.A.size<=64/\m.B.size<=64:=by
 unfold qz6 at h;simp only[B4]at h;obtain⟨_,a,w,_⟩:=h;unfold qzh at a w;split at a
 .split at w;.omega
  .cases w
 .cases a
def q2n{m:qk1}(h:qz6 m=A6)(i:Nat):(qa1 m i).length<=65:=by
 obtain⟨e,w⟩:=q6p h;have a:=qfe m.A;have b:=qfe m.B;have c:=qcl m.N;have d:=qcl m.M
 match i with
 |0=>simp[qa1,q25];omega
 |1=>simp[qa1,q25];omega
 |2=>simp[qa1];omega
 |i+3=>simp[qa1];omega
def q8i{m:qk1}(h:qz6 m=A6):∀i,(qq3 m i).length<=1+65*i
 |0=>by simp[qq3]
 |i+1=>by
  rw[qkg];have:=q8i h i;have:=q2n h i;split;.rw[Ba];omega
  .omega
def slV(x:Option B5×List UInt8×Nat):A5:=.slice x.1 x.2.1.length x.2.2
def qyo{W w:A3}{F:List Asn}(s:ByteArray)(h:s.size<=64)(a:St W F w):
 qb Zp 96 #[Zs s] w λv w'=>∃p c,v=Zl p (q25 (qm s)).length c/\St W (qi 5 1 p (q25 (qm s)).length c ((q25 (qm s)).map qd)::F) w':=by
 have:=qlk (qm s) (by rw[qfe];omega) a;rw[<-qch s]at this;exact this
def q1f{W w:A3}{F:List Asn}(m:qk1)(a:St W F w):
 qb Zp 54 #[ql2 m] w λv w'=>∃p c,v=Zl p (q0d m).length c/\St W (qi 5 1 p (q0d m).length c ((q0d m).map qd)::F) w':=by
 refine F54_of (zh a λg w a=>z8 0 a yR yR (zg 0 a yR yR (zg 0 a yR yR (z8 0 a yR yR (z8 0 a yR yR ((qti m a).of λv w ⟨q,a⟩=>⟨_,q,?_⟩))))));unfold q0d;refine za (λh=>?_) λh=>?_
 .have h:qz6 m=A4:=by simpa using h
  rw[h];exact⟨A2,0,rfl,z1a _ _ _ a.drop⟩
 have h:qz6 m=A6:=by simpa using h
 rw[yB h];have D:=q8i h;have Q:=q2n h;obtain⟨U,hB⟩:=q6p h;refine z8 0 a yR yR (zh a λb w a=>?_);rw[q2i]at a;have a:St W (Row b 5 [qd (qi5 m.k)]::Row g 74 (q61 m)::F) w:=a;have a:St W (qi 5 1 (A1 ⟨b,0,A2⟩) 1 1 [qd (qi5 m.k)]::Row g 74 (q61 m)::F) w:=qi.whole yR a;have f:=z6 W (qi 5 1 (A1 ⟨b,0,A2⟩) 1 1 [qd (qi5 m.k)]::Row g 74 (q61 m)::F);refine⟨StC W _,zd a,m.A,zu 1 f yR yR,m.B,zu 1 f yR yR,m.N,zi 1 f yR yR,m.M,zi 1 f yR yR,?_⟩;refine zk (α:=Option B5×Nat) (V:=λy=>.slice y.1 (qa1 m 0).length y.2) (B:=λy=>qi 5 1 y.1 (qa1 m 0).length y.2 ((qa1 m 0).map qd)::qi 5 1 (A1 ⟨b,0,A2⟩) 1 1 [qd (qi5 m.k)]::Row g 74 (q61 m)::F) (A2,0) f (λG w h=>(qyo m.A U h).of λv w' ⟨p,c,q,h⟩=>⟨_,_,_,q,(p,c),rfl,h⟩) λd=>?_;have f:=z6 W (qi 5 1 d.1 (qa1 m 0).length d.2 ((qa1 m 0).map qd)::qi 5 1 (A1 ⟨b,0,A2⟩) 1 1 [qd (qi5 m.k)]::Row g 74 (q61 m)::F);refine⟨_,_,_,rfl,⟨zi 2 f yR yR,zi 2 f yR yR,zu 2 f yR yR⟩,?_⟩;refine zk (α:=Option B5×Nat) (V:=λy=>.slice y.1 (qa1 m 1).length y.2) (B:=λy=>qi 5 1 y.1 (qa1 m 1).length y.2 ((qa1 m 1).map qd)::qi 5 1 d.1 (qa1 m 0).length d.2 ((qa1 m 0).map qd)::qi 5 1 (A1 ⟨b,0,A2⟩) 1 1 [qd (qi5 m.k)]::Row g 74 (q61 m)::F) (A2,0) f (λG w h=>(qyo m.B hB h).of λv w' ⟨p,c,q,h⟩=>⟨_,_,_,q,(p,c),rfl,h⟩) λn=>?_;have f:=z6 W (qi 5 1 n.1 (qa1 m 1).length n.2 ((qa1 m 1).map qd)::qi 5 1 d.1 (qa1 m 0).length d.2 ((qa1 m 0).map qd)::qi 5 1 (A1 ⟨b,0,A2⟩) 1 1 [qd (qi5 m.k)]::Row g 74 (q61 m)::F);refine⟨_,_,_,rfl,⟨zi 3 f yR yR,zi 3 f yR yR⟩,?_⟩;refine zk (α:=Option B5×Nat) (V:=λy=>.slice y.1 (qa1 m 2).length y.2) (B:=λy=>qi 5 1 y.1 (qa1 m 2).length y.2 ((qa1 m 2).map qd)::qi 5 1 n.1 (qa1 m 1).length n.2 ((qa1 m 1).map qd)::qi 5 1 d.1 (qa1 m 0).length d.2 ((qa1 m 0).map qd)::qi 5 1 (A1 ⟨b,0,A2⟩) 1 1 [qd (qi5 m.k)]::Row g 74 (q61 m)::F) (A2,0) f (λG w h=>(q1k m.N h).of λv w' ⟨p,c,q,h⟩=>⟨_,_,_,q,(p,c),rfl,h⟩) λr=>?_;have f:=z6 W (qi 5 1 r.1 (qa1 m 2).length r.2 ((qa1 m 2).map qd)::qi 5 1 n.1 (qa1 m 1).length n.2 ((qa1 m 1).map qd)::qi 5 1 d.1 (qa1 m 0).length d.2 ((qa1 m 0).map qd)::qi 5 1 (A1 ⟨b,0,A2⟩) 1 1 [qd (qi5 m.k)]::Row g 74 (q61 m)::F);refine⟨_,_,_,rfl,zi 4 f yR yR,?_⟩;refine zk (α:=Option B5×Nat) (V:=λy=>.slice y.1 (qa1 m 3).length y.2) (B:=λy=>qi 5 1 y.1 (qa1 m 3).length y.2 ((qa1 m 3).map qd)::qi 5 1 r.1 (qa1 m 2).length r.2 ((qa1 m 2).map qd)::qi 5 1 n.1 (qa1 m 1).length n.2 ((qa1 m 1).map qd)::qi 5 1 d.1 (qa1 m 0).length d.2 ((qa1 m 0).map qd)::qi 5 1 (A1 ⟨b,0,A2⟩) 1 1 [qd (qi5 m.k)]::Row g 74 (q61 m)::F) (A2,0) f (λG w h=>(q1k m.M h).of λv w' ⟨p,c,q,h⟩=>⟨_,_,_,q,(p,c),rfl,h⟩) λC=>?_;refine⟨_,_,_,rfl,trivial,λe G w h=>?_⟩;obtain⟨T,E⟩:∃T,T=qi 5 1 C.1 (qa1 m 3).length C.2 ((qa1 m 3).map qd)::qi 5 1 r.1 (qa1 m 2).length r.2 ((qa1 m 2).map qd)::qi 5 1 n.1 (qa1 m 1).length n.2 ((qa1 m 1).map qd)::qi 5 1 d.1 (qa1 m 0).length d.2 ((qa1 m 0).map qd)::([]:List Asn):=⟨_,rfl⟩;obtain⟨P,K⟩:∃P:List (Option B5×List UInt8×Nat),P=[(d.1,qa1 m 0,d.2),(n.1,qa1 m 1,n.2),(r.1,qa1 m 2,r.2),(C.1,qa1 m 3,C.2)]:=⟨_,rfl⟩;have a:St W (Row e 22 (P.map slV)::(T++(qi 5 1 (A1 ⟨b,0,A2⟩) 1 1 [qd (qi5 m.k)]::Row g 74 (q61 m)::F))) w:=by subst E;subst K;have Y:=zb (l:=Pt e _::(qi 5 1 C.1 (qa1 m 3).length C.2 ((qa1 m 3).map qd)::qi 5 1 r.1 (qa1 m 2).length r.2 ((qa1 m 2).map qd)::qi 5 1 n.1 (qa1 m 1).length n.2 ((qa1 m 1).map qd)::qi 5 1 d.1 (qa1 m 0).length d.2 ((qa1 m 0).map qd)::qi 5 1 (A1 ⟨b,0,A2⟩) 1 1 [qd (qi5 m.k)]::Row g 74 (q61 m)::F)) (StC.pushed h);exact Y.imp z0d
 have O:∀(F':List Asn) (i:Nat) x,P[i]?=A1 x->x.2.1=qa1 m i/\Rd (Row e 22 (P.map slV)::(T++F')) x.1 (x.2.1.map qd):=λF' i x s=>by
  subst E;subst K
  match i with
  |0=>cases s;exact⟨rfl,z04 4 yR λF=>z0k F⟩
  |1=>cases s;exact⟨rfl,z04 3 yR λF=>z0k F⟩
  |2=>cases s;exact⟨rfl,z04 2 yR λF=>z0k F⟩
  |3=>cases s;exact⟨rfl,z04 1 yR λF=>z0k F⟩
  |i+4=>simp at s
 have hPl:P.length=4:=by subst K;rfl
 clear f h;have e0:St W (qi 5 1 (A1 ⟨b,0,A2⟩) (qq3 m 0).length 1 ((qq3 m 0).map qd)::Row e 22 (P.map slV)::(T++(Row g 74 (q61 m)::F))) w:=z0c a (by show(Row e 22 (P.map slV)::(T++_)).Perm _;exact(List.Perm.cons _ List.perm_middle).trans (List.Perm.swap _ _ _))
 have e4:Row e 22 [Zl d.1 (qa1 m 0).length d.2]=Row e 22 [Zl d.1 (qa1 m 0).length d.2]:=rfl;refine⟨λvs w=>∃p i c,vs=[Zl p (qq3 m i).length c,Zi Zk ((i:Nat):Int)]/\i<=4/\St W (qi 5 1 p (qq3 m i).length c ((qq3 m i).map qd)::Row e 22 (P.map slV)::(T++(Row g 74 (q61 m)::F))) w,leftN 4,⟨A1 ⟨b,0,A2⟩,0,1,rfl,by omega,e0⟩,λA n1 c1 x w hI=>?_⟩;clear a e0;obtain⟨p2,i,c2,he,hi,a⟩:=hI;cases he;refine za (λu=>?_) λM=>?_
 .have u:i<4:=by have:=yC u;omega
  have s:P[i]?=A1 (P[i]'(by omega)):=A0 _;generalize P[i]'(by omega)=x at s;obtain⟨t,I⟩:=O (Row g 74 (q61 m)::F) i x s;refine IxP.row yR u (LdL.n 1 a yR (p:=x.1) (m:=x.2.1.length) (c:=x.2.2) (by rw[A9,s];rfl) ?_);have R:∃k,nth (qi 5 1 A (qq3 m i).length c1 ((qq3 m i).map qd)::Row e 22 (P.map slV)::(T++(Row g 74 (q61 m)::F))) k=A1 (Row g 74 (q61 m)):=by subst E;exact⟨6,rfl⟩
  obtain⟨k7,N⟩:=R;refine z8 k7 a N yR ((qlf m.k a).of λv w ⟨q,a⟩=>⟨_,q,by omega,?_⟩);have L:=up u (by omega);rw[L];have o:=qkg m i;refine za (λz=>?_) λz=>?_
  .have z:q2h (qj4 m.k) i=A6:=z;rw[yB z]at o;have h1:=D i;have h2:=Q i;rw[<-t]at h2;refine qp8 uB (.inr ⟨_,uB⟩) iU8 sU8 zU8 yR a (xs:=x.2.1.map qd) (m:=x.2.1.length) I (by simp) q82 (by rw[bU8];omega) (by omega) λZ X w' h=>⟨_,_,_,rfl,?_⟩;rw[<-Bo,t,<-o]at h;have J:(qq3 m i).length+x.2.1.length=(qq3 m (i+1)).length:=by rw[o,t,Ba]
   rw[J];rw[t]at J;rw[J]at h;exact⟨⟨Z,i+1,X,rfl,by omega,h⟩,by show 4 -(i+1)<4 - i;omega⟩
  .have z:q2h (qj4 m.k) i=A4:=z;rw[yA (by rw[z];simp)]at o;have:=(⟨⟨A,i+1,c1,by rw[o],by omega,by rw[o];exact a⟩,by show 4 -(i+1)<4 - i;omega⟩:(∃p j c,[Zl A (qq3 m i).length c1,Zi Zk ((i+1:Nat):Int)]=[Zl p (qq3 m j).length c,Zi Zk ((j:Nat):Int)]/\j<=4/\St W (qi 5 1 p (qq3 m j).length c ((qq3 m j).map qd)::Row e 22 (P.map slV)::(T++(Row g 74 (q61 m)::F))) w)/\leftN 4 [Zl A (qq3 m i).length c1,Zi Zk ((i+1:Nat):Int)] w<leftN 4 [Zl A (qq3 m i).length c1,Zi Zk (i:Int)] w);exact this
 have H:i=4:=by have:=yD M;omega
 subst H;refine⟨A,c1,rfl,?_⟩;subst E;exact z03 1 (z03 1 (z03 1 (z03 1 (z03 1 (z03 1 a yR) yR) yR) yR) yR) yR
def q3x(b:List UInt8):(qr3 b).2.1<=b.length:=by
 unfold qr3;split;.simp
 .split;.simp
  .dsimp only;omega
def qvx(b:List UInt8):(q05 b).2.1<=b.length:=by
 unfold q05;split;.simp
 .rename_i e h;have:=(As.1 h).1;rw[Aw]at this;split;.simp
  .split;.simp
   .dsimp only;omega
def qyi{W w:A3}{F:List Asn}{d:List UInt8}{p:Option B5}{c:Nat}(u:Rd F p (d.map qd))(t:d.length<=c){f g i j:Nat}{e:Bool}{ms:List A5}(A:j<ms.length)
 (m:St W (Row f 22 [Zl p d.length c]::Row g 4 [Zb e]::Row i 74 ms::F) w):
 qb Zp 245 #[Zq (A1 ⟨i,j,A2⟩),Zq (A1 ⟨f,0,A2⟩),Zq (A1 ⟨g,0,A2⟩)] w λv w'=>v=Zt #[]/\∃l r,Rd F l ((d.drop (qr3 d).2.1).map qd)/\(d.drop (qr3 d).2.1).length<=r/\
  St W (Row f 22 [.slice l (d.drop (qr3 d).2.1).length r]::Row g 4 [Zb (e&&(qr3 d).2.2)]::Row i 74 (ms.set j (Zs (mkS (qr3 d).1)))::F) w':=by
 refine F245_of (LdL.n 0 m yR yR ((qlr (((u.cons _).cons _).cons _) t m).of λv w ⟨z,m⟩=>⟨_,_,_,z,?_⟩));have q:=q3x d;have o:=z6 W (Row f 22 [Zl p d.length c]::Row g 4 [Zb e]::Row i 74 ms::F);refine⟨StC W _,zd m,z7 ⟨_,_,_,QtL.n 0 o yR yR,SlP.i (a:=(qr3 d).2.1) (b:=d.length) u (by simp) t yR yR q (Ao _) λl k=>⟨e,QtB.n 1 o yR yR,?_⟩⟩⟩;have x:((d.map qd).drop ((qr3 d).2.1*1)).take ((d.length -(qr3 d).2.1)*1)=(d.drop (qr3 d).2.1).map qd:=by rw[Aa,Aa,<-By,A8 (by simp)]
 rw[x]at k;have y:d.length -(qr3 d).2.1=(d.drop (qr3 d).2.1).length:=by rw[Aj]
 rw[y];have n:(d.drop (qr3 d).2.1).length<=c -(qr3 d).2.1:=by rw[Aj];omega
 refine za (λs=>?_) λs=>?_<;>refine Ef.st 2 o yR A ⟨rfl,QtL.n 0 ir yR yR,Ef.st 0 ir yR (by simp) ⟨rfl,trivial,Ef.st 1 ir yR (by simp) ⟨rfl,trivial,λG w h=>⟨rfl,l,_,k,n,?_⟩⟩⟩⟩<;>rw[s];.exact zb h
 .exact zb h
def qqj{W w:A3}{F:List Asn}{d:List UInt8}{p:Option B5}{c:Nat}(u:Rd F p (d.map qd))(t:d.length<=c){f g i j:Nat}{e:Bool}{ms:List A5}(A:j<ms.length)
 (m:St W (Row f 22 [Zl p d.length c]::Row g 4 [Zb e]::Row i 74 ms::F) w):
 qb Zp 247 #[Zq (A1 ⟨i,j,A2⟩),Zq (A1 ⟨f,0,A2⟩),Zq (A1 ⟨g,0,A2⟩)] w λv w'=>v=Zt #[]/\∃l r,Rd F l ((d.drop (q05 d).2.1).map qd)/\(d.drop (q05 d).2.1).length<=r/\
  St W (Row f 22 [.slice l (d.drop (q05 d).2.1).length r]::Row g 4 [Zb (e&&(q05 d).2.2)]::Row i 74 (ms.set j (Zi Zk (q05 d).1))::F) w':=by
 refine F247_of (LdL.n 0 m yR yR ((qat (((u.cons _).cons _).cons _) t m).of λv w ⟨z,m⟩=>⟨_,_,_,z,?_⟩));have q:=qvx d;have o:=z6 W (Row f 22 [Zl p d.length c]::Row g 4 [Zb e]::Row i 74 ms::F);refine⟨StC W _,zd m,z7 ⟨_,_,_,QtL.n 0 o yR yR,SlP.i (a:=(q05 d).2.1) (b:=d.length) u (by simp) t yR yR q (Ao _) λl k=>⟨e,QtB.n 1 o yR yR,?_⟩⟩⟩;have x:((d.map qd).drop ((q05 d).2.1*1)).take ((d.length -(q05 d).2.1)*1)=(d.drop (q05 d).2.1).map qd:=by rw[Aa,Aa,<-By,A8 (by simp)]
 rw[x]at k;have y:d.length -(q05 d).2.1=(d.drop (q05 d).2.1).length:=by rw[Aj]
 rw[y];have n:(d.drop (q05 d).2.1).length<=c -(q05 d).2.1:=by rw[Aj];omega
 refine za (λs=>?_) λs=>?_<;>refine Ef.st 2 o yR A ⟨rfl,QtL.n 0 ir yR yR,Ef.st 0 ir yR (by simp) ⟨rfl,trivial,Ef.st 1 ir yR (by simp) ⟨rfl,trivial,λG w h=>⟨rfl,l,_,k,n,?_⟩⟩⟩⟩<;>rw[s];.exact zb h
 .exact zb h
def zM:qk1:=⟨0,e0,e0,0,0⟩
abbrev GSt:=qk1×List UInt8×Bool
def qqf(k:Int)(s:GSt)(i:Nat):GSt:=
 if q2h k i=A6 then
  match i with
  |0=>({ s.1 with A:=mkS (qr3 s.2.1).1},s.2.1.drop (qr3 s.2.1).2.1,s.2.2&&(qr3 s.2.1).2.2)
  |1=>({ s.1 with B:=mkS (qr3 s.2.1).1},s.2.1.drop (qr3 s.2.1).2.1,s.2.2&&(qr3 s.2.1).2.2)
  |2=>({ s.1 with N:=(q05 s.2.1).1},s.2.1.drop (q05 s.2.1).2.1,s.2.2&&(q05 s.2.1).2.2)
  |_=>({ s.1 with M:=(q05 s.2.1).1},s.2.1.drop (q05 s.2.1).2.1,s.2.2&&(q05 s.2.1).2.2)
 else s
def qc6(x:UInt8)(r:List UInt8)(i:Nat):GSt:=(Cy i).foldl (qqf (qj4 (x.toNat:Int))) (⟨(x.toNat:Int),e0,e0,0,0⟩,r,A6)
def qxg(b:List UInt8):qk1×Bool:=
 match b with
 |[]=>(zM,A4)
 |x::r=>if(qc6 x r 4).2.2=A6/\(qc6 x r 4).2.1=[]/\qz6 (qc6 x r 4).1=A6 then((qc6 x r 4).1,A6)else(zM,A4)
def qdi(x:UInt8)(r:List UInt8)(i:Nat):qc6 x r (i+1)=qqf (qj4 (x.toNat:Int)) (qc6 x r i) i:=by unfold qc6;rw[Cu,Bx];rfl
def qdp(x:UInt8)(r:List UInt8):∀i,(qc6 x r i).1.k=(x.toNat:Int)
 |0=>rfl
 |i+1=>by
  rw[qdi];have:=qdp x r i;unfold qqf;split;.split<;>exact this
  .exact this
def fnT(i b c:Nat):A5:=.func (.func (match i with|0=>249|1=>250|2=>251|_=>252)) #[] #[Zq (A1 ⟨b,0,A2⟩),Zq (A1 ⟨c,0,A2⟩)]
def qtj{W w:A3}{F:List Asn}{p:Option B5}{c:Nat}{b:List UInt8}(hr:Rd F p (b.map qd))(Y:b.length<=c)(d:St W F w):
 qb Zp 167 #[Zl p b.length c] w λv w'=>v=Zt #[ql2 (qxg b).1,Zb (qxg b).2]/\St W F w':=by
 refine F167_of (zh d λO w d=>za (λh=>?_) λh=>?_)
 .have E:b=[]:=by simpa using h
  subst E;refine St1.zz 0 d yR λw d=>St1.zz 0 d yR λw d=>St1.zz 0 d yR λw d=>St1.zz 0 d yR λw d=>St1.zz 0 d yR λw d=>?_;exact z8 0 d yR yR (zg 0 d yR yR (zg 0 d yR yR (z8 0 d yR yR (z8 0 d yR yR ⟨rfl,d.drop⟩))))
 cases b with
 |nil=>simp at h
 |cons x r=>
 have hx:x.toNat<256:=x.toNat_lt;refine z0l (hr.cons _) d yR (k:=0) (by simp) (v:=qd x) yR λa ha=>zq ha (zh d λe w d=>?_);rw[w64 (n:=(x.toNat:Int)) (by omega) (by omega)];refine St1.zz 0 d yR λw d=>St1.zz 0 d yR λw d=>St1.zz 0 d yR λw d=>St1.zz 0 d yR λw d=>St1.zz 0 d yR λw d=>?_;refine SlP.i (a:=1) (b:=(x::r).length) hr (by simp) Y yR yR (by simp) (Ao _) λp0 L=>?_;have e1:(((x::r).map qd).drop (1*1)).take (((x::r).length - 1)*1)=r.map qd:=by rw[Aa,Aa,<-By,A8 (by simp)];rfl
 rw[e1]at L;have e2:(x::r).length - 1=r.length:=by simp
 rw[e2];have T:r.length<=c - 1:=by simp at Y;omega
 refine zh d λl w d=>zh d λm w d=>z0o 1 d yR (by simp) λw d=>z0o 0 d yR (by simp) λw d=>zh d λg w d=>⟨trivial,z0o 0 d yR (by simp) λw d=>zh d λf w d=>⟨trivial,z0o 0 d yR (by simp) λw d=>zh d λz w d=>?_⟩⟩;have d:St W (Row l 22 [Zl p0 r.length (c - 1)]::Row m 4 [Zb A6]::Row e 74 (q61 ⟨(x.toNat:Int),e0,e0,0,0⟩)::(Row z 1 [fnT 0 g e,fnT 1 g e,fnT 2 f e,fnT 3 f e]::Row f 363 [.func (.func 247) #[] #[Zq (A1 ⟨l,0,A2⟩),Zq (A1 ⟨m,0,A2⟩)]]::Row g 359 [.func (.func 245) #[] #[Zq (A1 ⟨l,0,A2⟩),Zq (A1 ⟨m,0,A2⟩)]]::Row O 74 (q61 zM)::F)) w:=zf 5 2 (zf 4 1 (zf 4 0 d yR) yR) yR;refine⟨λvs w=>∃(i:Nat) (H:Option B5) (c1:Nat),vs=[Zi Zk i]/\i<=4/\Rd (Row z 1 [fnT 0 g e,fnT 1 g e,fnT 2 f e,fnT 3 f e]::Row f 363 [.func (.func 247) #[] #[Zq (A1 ⟨l,0,A2⟩),Zq (A1 ⟨m,0,A2⟩)]]::Row g 359 [.func (.func 245) #[] #[Zq (A1 ⟨l,0,A2⟩),Zq (A1 ⟨m,0,A2⟩)]]::Row O 74 (q61 zM)::F) H ((qc6 x r i).2.1.map qd)/\(qc6 x r i).2.1.length<=c1/\St W (Row l 22 [Zl H (qc6 x r i).2.1.length c1]::Row m 4 [Zb (qc6 x r i).2.2]::Row e 74 (q61 (qc6 x r i).1)::(Row z 1 [fnT 0 g e,fnT 1 g e,fnT 2 f e,fnT 3 f e]::Row f 363 [.func (.func 247) #[] #[Zq (A1 ⟨l,0,A2⟩),Zq (A1 ⟨m,0,A2⟩)]]::Row g 359 [.func (.func 245) #[] #[Zq (A1 ⟨l,0,A2⟩),Zq (A1 ⟨m,0,A2⟩)]]::Row O 74 (q61 zM)::F)) w,leftN 4,⟨0,p0,c - 1,rfl,by omega,(((L.cons _).cons _).cons _).cons _,T,d⟩,λy w hI=>?_⟩;clear d L;obtain⟨i,H,c1,he,hi,t,u,d⟩:=hI;cases he;have R:=qdp x r i;have o:=qdi x r i;refine za (λC=>?_) λV=>?_
 .have C:i<4:=by have:=yC C;omega
  have X:[fnT 0 g e,fnT 1 g e,fnT 2 f e,fnT 3 f e][i]?=A1 (fnT i (if i<2 then g else f) e):=by
   match i,C with
   |0,_=>rfl
   |1,_=>rfl
   |2,_=>rfl
   |3,_=>rfl
  have U:=up C (by omega);refine IxP.row yR C (LdV.n 3 d yR X (z8 2 d yR yR ((qlf (qc6 x r i).1.k d).of λv P ⟨D,q⟩=>⟨_,D,by omega,?_⟩)));clear d;rw[U,R];have B:∀Z wb,leftN 4 [Zi Zk ((i+1:Nat):Int)] Z<leftN 4 [Zi Zk (i:Int)] wb:=λZ wb=>by show 4 -(i+1)<4 - i;omega
  generalize qc6 x r i=s at t u q o R;unfold qqf at o;refine za (λE=>?_) λE=>?_
  .have E:q2h (qj4 (x.toNat:Int)) i=A6:=E;rw[yB E]at o;have big:∀{h0:List UInt8},True:=λ{_}=>trivial
   match i,C with
   |0,_=>
    refine zw (by kernel_rfl) ?_;refine F249_of (cap1:=⟨g,0,A2⟩) (cap2:=⟨e,0,A2⟩) ?_;have A:P.cell? ⟨g,0,A2⟩=A1 (.func (.func 245) #[] #[Zq (A1 ⟨l,0,A2⟩),Zq (A1 ⟨m,0,A2⟩)]):=q.cell 5 yR yR;refine⟨_,A,?_⟩;rw[qi1];refine zw (by kernel_rfl) ((qyi (j:=0+1) t u (by simp[q61]) q).of λv w ⟨D,J,M,N,I,d⟩=>⟨D,rfl,⟨1,J,M,rfl,by omega,?_,?_,?_⟩,B _ _⟩)<;>rw[o];.exact N
    .exact I
    .exact d
   |1,_=>
    refine zw (by kernel_rfl) ?_;refine F250_of (cap1:=⟨g,0,A2⟩) (cap2:=⟨e,0,A2⟩) ?_;have A:P.cell? ⟨g,0,A2⟩=A1 (.func (.func 245) #[] #[Zq (A1 ⟨l,0,A2⟩),Zq (A1 ⟨m,0,A2⟩)]):=q.cell 5 yR yR;refine⟨_,A,?_⟩;rw[qi1];refine zw (by kernel_rfl) ((qyi (j:=0+2) t u (by simp[q61]) q).of λv w ⟨D,J,M,N,I,d⟩=>⟨D,rfl,⟨2,J,M,rfl,by omega,?_,?_,?_⟩,B _ _⟩)<;>rw[o];.exact N
    .exact I
    .exact d
   |2,_=>
    refine zw (by kernel_rfl) ?_;refine F251_of (cap1:=⟨f,0,A2⟩) (cap2:=⟨e,0,A2⟩) ?_;have A:P.cell? ⟨f,0,A2⟩=A1 (.func (.func 247) #[] #[Zq (A1 ⟨l,0,A2⟩),Zq (A1 ⟨m,0,A2⟩)]):=q.cell 4 yR yR;refine⟨_,A,?_⟩;rw[qi1];refine zw (by kernel_rfl) ((qqj (j:=0+3) t u (by simp[q61]) q).of λv w ⟨D,J,M,N,I,d⟩=>⟨D,rfl,⟨3,J,M,rfl,by omega,?_,?_,?_⟩,B _ _⟩)<;>rw[o];.exact N
    .exact I
    .exact d
   |3,_=>
    refine zw (by kernel_rfl) ?_;refine F252_of (cap1:=⟨f,0,A2⟩) (cap2:=⟨e,0,A2⟩) ?_;have A:P.cell? ⟨f,0,A2⟩=A1 (.func (.func 247) #[] #[Zq (A1 ⟨l,0,A2⟩),Zq (A1 ⟨m,0,A2⟩)]):=q.cell 4 yR yR;refine⟨_,A,?_⟩;rw[qi1];refine zw (by kernel_rfl) ((qqj (j:=0+4) t u (by simp[q61]) q).of λv w ⟨D,J,M,N,I,d⟩=>⟨D,rfl,⟨4,J,M,rfl,by omega,?_,?_,?_⟩,B _ _⟩)<;>rw[o];.exact N
    .exact I
    .exact d
  .have E:q2h (qj4 (x.toNat:Int)) i=A4:=E;rw[yA (by rw[E];simp)]at o;exact⟨⟨i+1,H,c1,rfl,by omega,by rw[o];exact t,by rw[o];exact u,by rw[o];exact q⟩,B _ _⟩
 have Q:i=4:=by have:=yD V;omega
 subst Q;unfold qxg;dsimp only;generalize qc6 x r 4=s at t u d R;refine LdB.n 1 d yR yR (za (λK=>?_) λK=>?_)
 .have K:¬s.2.2=A6:=by simpa using K
  rw[yA (λh=>K h.1)];refine St1.zz 6 d yR λw d=>St1.zz 6 d yR λw d=>St1.zz 6 d yR λw d=>St1.zz 6 d yR λw d=>St1.zz 6 d yR λw d=>?_;have d:St W (Row l 22 [Zl H s.2.1.length c1]::Row m 4 [Zb s.2.2]::Row e 74 (q61 s.1)::(Row z 1 [fnT 0 g e,fnT 1 g e,fnT 2 f e,fnT 3 f e]::Row f 363 [.func (.func 247) #[] #[Zq (A1 ⟨l,0,A2⟩),Zq (A1 ⟨m,0,A2⟩)]]::Row g 359 [.func (.func 245) #[] #[Zq (A1 ⟨l,0,A2⟩),Zq (A1 ⟨m,0,A2⟩)]]::Row O 74 (q61 zM)::F)) w:=d;exact z8 6 d yR yR (zg 6 d yR yR (zg 6 d yR yR (z8 6 d yR yR (z8 6 d yR yR ⟨rfl,z0h [_,_,_,_,_,_,_] d⟩))))
 have K:s.2.2=A6:=by simpa using K
 refine LdL.n 0 d yR yR (za (λG=>?_) λG=>?_)
 .have G:=yC G;rw[yA (λh=>by rw[h.2.1]at G;simp at G)];refine St1.zz 6 d yR λw d=>St1.zz 6 d yR λw d=>St1.zz 6 d yR λw d=>St1.zz 6 d yR λw d=>St1.zz 6 d yR λw d=>?_;have d:St W (Row l 22 [Zl H s.2.1.length c1]::Row m 4 [Zb s.2.2]::Row e 74 (q61 s.1)::(Row z 1 [fnT 0 g e,fnT 1 g e,fnT 2 f e,fnT 3 f e]::Row f 363 [.func (.func 247) #[] #[Zq (A1 ⟨l,0,A2⟩),Zq (A1 ⟨m,0,A2⟩)]]::Row g 359 [.func (.func 245) #[] #[Zq (A1 ⟨l,0,A2⟩),Zq (A1 ⟨m,0,A2⟩)]]::Row O 74 (q61 zM)::F)) w:=d;exact z8 6 d yR yR (zg 6 d yR yR (zg 6 d yR yR (z8 6 d yR yR (z8 6 d yR yR ⟨rfl,z0h [_,_,_,_,_,_,_] d⟩))))
 have G:=yD G;have G:s.2.1=[]:=List.length_eq_zero_iff.1 (by omega);refine z8 2 d yR yR (zg 2 d yR yR (zg 2 d yR yR (z8 2 d yR yR (z8 2 d yR yR ((qti s.1 d).of λv w ⟨D,d⟩=>⟨_,D,za (λB=>?_) λB=>?_⟩)))))
 .have B:¬qz6 s.1=A6:=by simpa using B
  rw[yA (λh=>B h.2.2)];refine St1.zz 6 d yR λw d=>St1.zz 6 d yR λw d=>St1.zz 6 d yR λw d=>St1.zz 6 d yR λw d=>St1.zz 6 d yR λw d=>?_;have d:St W (Row l 22 [Zl H s.2.1.length c1]::Row m 4 [Zb s.2.2]::Row e 74 (q61 s.1)::(Row z 1 [fnT 0 g e,fnT 1 g e,fnT 2 f e,fnT 3 f e]::Row f 363 [.func (.func 247) #[] #[Zq (A1 ⟨l,0,A2⟩),Zq (A1 ⟨m,0,A2⟩)]]::Row g 359 [.func (.func 245) #[] #[Zq (A1 ⟨l,0,A2⟩),Zq (A1 ⟨m,0,A2⟩)]]::Row O 74 (q61 zM)::F)) w:=d;exact z8 6 d yR yR (zg 6 d yR yR (zg 6 d yR yR (z8 6 d yR yR (z8 6 d yR yR ⟨rfl,z0h [_,_,_,_,_,_,_] d⟩))))
 have B:qz6 s.1=A6:=by simpa using B
 rw[yB ⟨K,G,B⟩];refine z8 2 d yR yR (zg 2 d yR yR (zg 2 d yR yR (z8 2 d yR yR (z8 2 d yR yR ?_))));refine St1.zz 6 d yR λw d=>St1.zz 6 d yR λw d=>St1.zz 6 d yR λw d=>St1.zz 6 d yR λw d=>St1.zz 6 d yR λw d=>?_;have d:St W (Row l 22 [Zl H s.2.1.length c1]::Row m 4 [Zb s.2.2]::Row e 74 (q61 s.1)::(Row z 1 [fnT 0 g e,fnT 1 g e,fnT 2 f e,fnT 3 f e]::Row f 363 [.func (.func 247) #[] #[Zq (A1 ⟨l,0,A2⟩),Zq (A1 ⟨m,0,A2⟩)]]::Row g 359 [.func (.func 245) #[] #[Zq (A1 ⟨l,0,A2⟩),Zq (A1 ⟨m,0,A2⟩)]]::Row O 74 (q61 s.1)::F)) w:=d;exact z8 6 d yR yR (zg 6 d yR yR (zg 6 d yR yR (z8 6 d yR yR (z8 6 d yR yR ⟨rfl,z0h [_,_,_,_,_,_,_] d⟩))))
section
structure qw6 where
 st:Nat
 ten:ByteArray
 tok:ByteArray
 nonce:ByteArray
 known:Bool
def qjh(b st:Nat):A5:=match st with|0=>.func (.func 186) #[qc b] #[]|1=>.func (.func 269) #[qc b] #[]|_=>.nilFunc
def shV(vb b:Nat)(d:qw6):List A5:=[qc vb,qjh b d.st,Zs d.ten,Zs d.tok,Zs d.nonce,Zb d.known]
def qx2(vb b:Nat)(d:qw6):Asn:=Row b 304 (shV vb b d)
def qhx(s:ByteArray):ByteArray:=s.extract 0 (Bc (if 64<(s.size:Int)then 64 else(s.size:Int)))
def qe9(e:Int):qk1:=⟨5,e0,e0,e,0⟩
def q0f(d:qw6)(m:qk1)(nonce:ByteArray):qw6×qk1:=
 if m.k≠1 then({ d with st:=2},qe9 1)else({ d with ten:=m.A,tok:=m.B,nonce:=qhx nonce,st:=1},⟨2,qhx nonce,e0,0,0⟩)
def qkf(c:qy)(R:qva)(d:qw6)(m:qk1)(now:Int):qw6×qk1:=
 if m.k≠3 then({ d with st:=2},qe9 1)else
 if qfb c R d.ten d.tok d.nonce m.A now≠0 then({ d with st:=2},qe9 (qfb c R d.ten d.tok d.nonce m.A now))else({ d with st:=2,known:=A6},⟨4,e0,e0,0,0⟩)
def q75(c:qy)(R:qva)(d:qw6)(m:qk1)(now:Int)(nonce:ByteArray):qw6×qk1×Bool:=
 match d.st with
 |0=>((q0f d m nonce).1,(q0f d m nonce).2,A6)
 |1=>((qkf c R d m now).1,(qkf c R d m now).2,A6)
 |_=>(d,zM,A4)
section
variable{W w:World}{F:List Asn}{b vb:Nat}{c:qy}{R:qva}{d:qw6}{m:qk1}{now:Int}{nonce:ByteArray}
def q7r(h:St W F w):qb Zp 121 #[qc vb] w λv w'=>∃b,v=qc b/\St W (qx2 vb b ⟨0,e0,e0,e0,A4⟩::F) w':=
 F121_of (zh h λb w h=>⟨trivial,St1.zz 0 h yR λw h=>⟨b,rfl,h⟩⟩)
def qpa{e:Int}(h:St W (qx2 vb b d::F) w):qb Zp 268 #[qc b,Zi Zk e] w λv w'=>v=ql2 (qe9 e)/\St W (qx2 vb b { d with st:=2}::F) w':=by refine F268_of (zh h λa w h=>z7 ⟨trivial,?_⟩);have h:St W (Row a 74 [Zi Zk 0,Zs ⟨#[]⟩,Zs ⟨#[]⟩,Zi Zk 0,Zi Zk 0]::Row b 304 (shV vb b d)::F) w:=h;refine St1.zz 1 h yR λw h=>St1.zz 0 h yR λw h=>St1.zz 0 h yR λw h=>St1.zz 0 h yR λw h=>St1.zz 0 h yR λw h=>St1.zz 0 h yR λw h=>?_;exact z8 0 h yR yR (zg 0 h yR yR (zg 0 h yR yR (z8 0 h yR yR (z8 0 h yR yR ⟨rfl,h.drop⟩))))
def q6m(j:d.st=0)(a:St W (qx2 vb b d::F) w):qb Zp 186 #[qc b,ql2 m,Zi Zk now,Zs nonce] w λv w'=>v=ql2 (q0f d m nonce).2/\St W (qx2 vb b (q0f d m nonce).1::F) w':=by
 unfold q0f;refine F186_of (zh a λf w a=>zh a λg w a=>z8 1 a yR yR (za (λh=>?_) λh=>?_))
 .have h:m.k≠1:=by simpa using h
  rw[yB h];refine(qpa (e:=1) (d:=d) (zf 2 0 a yR)).of λv w ⟨i,a⟩=>⟨_,_,_,_,_,i,?_⟩;refine St1.zz 1 a yR λw a=>St1.zz 1 a yR λw a=>St1.zz 1 a yR λw a=>St1.zz 1 a yR λw a=>St1.zz 1 a yR λw a=>?_;exact z8 1 a yR yR (zg 1 a yR yR (zg 1 a yR yR (z8 1 a yR yR (z8 1 a yR yR ⟨rfl,zl 3 [0] a yR⟩))))
 have h:¬m.k≠1:=by simpa using h
 rw[yA h];have a:St W (Row g 74 [Zi Zk 0,Zs ⟨#[]⟩,Zs ⟨#[]⟩,Zi Zk 0,Zi Zk 0]::Row f 74 [Zi Zk m.k,Zs m.A,Zs m.B,Zi Zk m.N,Zi Zk m.M]::Row b 304 (shV vb b d)::F) w:=a;have c:=z6 W (Row g 74 [Zi Zk 0,Zs ⟨#[]⟩,Zs ⟨#[]⟩,Zi Zk 0,Zi Zk 0]::Row f 74 [Zi Zk m.k,Zs m.A,Zs m.B,Zi Zk m.N,Zi Zk m.M]::Row b 304 (shV vb b d)::F);refine⟨StC W _,zd a,⟨by omega,by split<;>omega,by split<;>omega⟩,?_⟩;refine⟨_,zu 1 c yR yR,z7 ⟨_,zu 1 c yR yR,z0q 2 c yR (by simp[shV]) ⟨rfl,zu 1 ir yR yR,z7 (z0q 2 ir yR (by simp[shV]) ⟨rfl,trivial,z7 (z0q 2 ir yR (by simp[shV]) ⟨rfl,trivial,λG w h=>z7 ⟨trivial,?_⟩⟩)⟩)⟩⟩⟩;have a:=zb h;refine St1.zz 2 a yR λw a=>z7 (zg 2 a yR yR ?_);refine St1.zz 0 a yR λw a=>St1.zz 0 a yR λw a=>St1.zz 0 a yR λw a=>St1.zz 0 a yR λw a=>St1.zz 0 a yR λw a=>?_;exact z8 0 a yR yR (zg 0 a yR yR (zg 0 a yR yR (z8 0 a yR yR (z8 0 a yR yR ⟨rfl,zl 3 [2] a yR⟩))))
def qwl(k:ql1 F c)(l:d.st=1)(a:St W (qx2 vb b d::qg1 vb c R::F) w):qb Zp 269 #[qc b,ql2 m,Zi Zk now,Zs nonce] w λv w'=>v=ql2 (qkf c R d m now).2/\St W (qx2 vb b (qkf c R d m now).1::qg1 vb c R::F) w':=by
 unfold qkf;refine F269_of (zh a λi w a=>zh a λj w a=>z8 1 a yR yR (za (λh=>?_) λh=>?_))
 .have h:m.k≠3:=by simpa using h
  rw[yB h];refine(qpa (e:=1) (d:=d) (zf 2 0 a yR)).of λv w ⟨g,a⟩=>⟨_,_,_,_,_,g,?_⟩;refine St1.zz 1 a yR λw a=>St1.zz 1 a yR λw a=>St1.zz 1 a yR λw a=>St1.zz 1 a yR λw a=>St1.zz 1 a yR λw a=>?_;exact z8 1 a yR yR (zg 1 a yR yR (zg 1 a yR yR (z8 1 a yR yR (z8 1 a yR yR ⟨rfl,zl 4 [0,3] a yR⟩))))
 have h:¬m.k≠3:=by simpa using h
 rw[yA h];have a:St W (qg1 vb c R::Row j 74 [Zi Zk 0,Zs ⟨#[]⟩,Zs ⟨#[]⟩,Zi Zk 0,Zi Zk 0]::Row i 74 [Zi Zk m.k,Zs m.A,Zs m.B,Zi Zk m.N,Zi Zk m.M]::Row b 304 (shV vb b d)::F) w:=zf 3 0 a yR;have f:=z6 W (qg1 vb c R::Row j 74 [Zi Zk 0,Zs ⟨#[]⟩,Zs ⟨#[]⟩,Zi Zk 0,Zi Zk 0]::Row i 74 [Zi Zk m.k,Zs m.A,Zs m.B,Zi Zk m.N,Zi Zk m.M]::Row b 304 (shV vb b d)::F);refine⟨StC W _,zd a,z7 (z7 (z7 (z7 ⟨_,zo 3 f yR yR,_,zu 3 f yR yR,_,zu 3 f yR yR,_,zu 3 f yR yR,_,zu 2 f yR yR,?_⟩)))⟩;refine zk (α:=Unit) (V:=λ_=>Zi Zk (qfb c R d.ten d.tok d.nonce m.A now)) (B:=λ_=>qg1 vb c R::Row j 74 [Zi Zk 0,Zs ⟨#[]⟩,Zs ⟨#[]⟩,Zi Zk 0,Zi Zk 0]::Row i 74 [Zi Zk m.k,Zs m.A,Zs m.B,Zi Zk m.N,Zi Zk m.M]::Row b 304 (shV vb b d)::F) () f (λG w h=>(qup ((((k.cons _).cons _).cons _).app _) h).of λv w' ⟨g,h⟩=>⟨_,g,(),rfl,h⟩) λ_=>⟨_,rfl,trivial,λG w h=>?_⟩;have a:=zb h;refine za (λh=>?_) λh=>?_
 .have h:qfb c R d.ten d.tok d.nonce m.A now≠0:=by simpa using h
  rw[yB h];have a:St W (qx2 vb b d::qg1 vb c R::Row j 74 [Zi Zk 0,Zs ⟨#[]⟩,Zs ⟨#[]⟩,Zi Zk 0,Zi Zk 0]::Row i 74 [Zi Zk m.k,Zs m.A,Zs m.B,Zi Zk m.N,Zi Zk m.M]::F) w:=zf 3 0 a yR;refine(qpa a).of λv w ⟨g,a⟩=>⟨_,_,_,_,_,g,?_⟩;refine St1.zz 2 a yR λw a=>St1.zz 2 a yR λw a=>St1.zz 2 a yR λw a=>St1.zz 2 a yR λw a=>St1.zz 2 a yR λw a=>?_;exact z8 2 a yR yR (zg 2 a yR yR (zg 2 a yR yR (z8 2 a yR yR (z8 2 a yR yR ⟨rfl,zl 4 [0,1] a yR⟩))))
 have h:¬qfb c R d.ten d.tok d.nonce m.A now≠0:=by simpa using h
 rw[yA h];refine z7 ⟨trivial,St1.zz 3 a yR λw a=>z7 (St1.zz 3 a yR λw a=>?_)⟩;refine St1.zz 1 a yR λw a=>St1.zz 1 a yR λw a=>St1.zz 1 a yR λw a=>St1.zz 1 a yR λw a=>St1.zz 1 a yR λw a=>?_;exact z8 1 a yR yR (zg 1 a yR yR (zg 1 a yR yR (z8 1 a yR yR (z8 1 a yR yR ⟨rfl,zl 4 [3,0] a yR⟩))))
def qvl(a:St W (qx2 vb b d::F) w):qb Zp 316 #[qc b] w λv w'=>v=Zt #[Zs (if d.known=A6 then d.ten else e0),Zb d.known]/\St W (qx2 vb b d::F) w':=by
 refine F316_of (z7 (zx 0 a yR yR (za (λh=>?_) λh=>?_)))
 .have h:d.known=A4:=by simpa using h
  rw[h];exact⟨rfl,a⟩
 .have h:d.known=A6:=by simpa using h
  rw[h];exact z7 (zg 0 a yR yR ⟨rfl,a⟩)
end
end
section
def qlx:∃a b c,Zp.underlying 302=A1 (.func a b c):=⟨_,_,_,Tryz.underlying302⟩
def q2o(d:Nat)(f:Fn)(x y:Array A5)(w:A3):(Op.equalIn (d+1) 302 (.func f x y) .nilFunc).run Zp w=.ok A4 w:=by obtain⟨a,b,c,h⟩:=qlx;simp[Op.equalIn,run_underlying h]
def qro(d:Nat)(w:A3):(Op.equalIn (d+1) 302 .nilFunc .nilFunc).run Zp w=.ok A6 w:=by obtain⟨a,b,c,h⟩:=qlx;simp[Op.equalIn,run_underlying h]
def qog{d h:D6}{x:A5}(c:(∃f a b,x=.func f a b)\/x=.nilFunc)(w:A3):(eqGuard .eql 302 d h x .nilFunc).run Zp w=.ok () w:=by rcases c with ⟨f,a,b,rfl⟩|rfl<;>rfl
def q001{a h:D6}(f:Fn)(x y:Array A5)(w:A3):Sem.run Zp (do eqGuard .eql 302 a h (.func f x y) B7;binOp .eql 302 (.func f x y) B7) w=.ok (Zb A4) w:=by simp only[Sem.run_bind,qog (.inl ⟨f,x,y,rfl⟩) w,Result.andThen_ok,qce _ _ _ (.inl ⟨f,x,y,rfl⟩) yR];rw[show(10000:Nat)=9999+1 from rfl,q2o];rfl
def q5y{a h:D6}(w:A3):Sem.run Zp (do eqGuard .eql 302 a h B7 B7;binOp .eql 302 B7 B7) w=.ok (Zb A6) w:=by simp only[Sem.run_bind,qog (.inr yR) w,Result.andThen_ok,qce _ _ _ (.inr yR) yR];rw[show(10000:Nat)=9999+1 from rfl,qro];rfl
section
variable{W w:World}{F:List Asn}{b vb:Nat}{c:qy}{R:qva}{d:qw6}{m:qk1}{now:Int}{nonce:ByteArray}
def qfs{K:A5->A3->Prop}(i:ql1 F c)(g:d.st<2)(h:St W (qx2 vb b d::qg1 vb c R::F) w)
 (f:∀w',St W (qx2 vb b (q75 c R d m now nonce).1::qg1 vb c R::F) w'->K (ql2 (q75 c R d m now nonce).2.1) w'):qn5 Zp 74 (qjh b d.st) [ql2 m,Zi Zk now,Zs nonce] w K:=by
 obtain⟨st,ten,tok,a,known⟩:=d
 match st,g with
 |0,_=>exact qn5.lit1 (by kernel_rfl) ((q6m (d:=⟨0,ten,tok,a,known⟩) yR h).of λv w' ⟨e,h⟩=>by subst e;exact f w' h)
 |1,_=>exact qn5.lit1 (by kernel_rfl) ((qwl (d:=⟨1,ten,tok,a,known⟩) i yR h).of λv w' ⟨e,h⟩=>by subst e;exact f w' h)
def qyn(o:ql1 F c)(a:St W (qx2 vb b d::qg1 vb c R::F) w):qb Zp 315 #[qc b,ql2 m,Zi Zk now,Zs nonce] w λv w'=>v=Zt #[ql2 (q75 c R d m now nonce).2.1,Zb (q75 c R d m now nonce).2.2]/\St W (qx2 vb b (q75 c R d m now nonce).1::qg1 vb c R::F) w':=by
 refine F315_of (zh a λl w a=>zh a λg w a=>z7 ?_);have a:St W (Row g 74 [Zi Zk 0,Zs ⟨#[]⟩,Zs ⟨#[]⟩,Zi Zk 0,Zi Zk 0]::Row l 74 [Zi Zk m.k,Zs m.A,Zs m.B,Zi Zk m.N,Zi Zk m.M]::Row b 304 (shV vb b d)::qg1 vb c R::F) w:=a;refine LdV.a 2 a yR yR ?_;by_cases k:d.st<2
 .have i:∃f,qjh b d.st=.func f #[qc b] #[]:=by
   match d.st,k with
   |0,_=>exact⟨_,rfl⟩
   |1,_=>exact⟨_,rfl⟩
  obtain⟨f,i⟩:=i;refine⟨Zb A4,λw=>by rw[i];exact q001 f _ _ w,_,rfl,zn yR ?_⟩;have j:(q75 c R d m now nonce).2.2=A6:=by
   unfold q75
   match d.st,k with
   |0,_=>rfl
   |1,_=>rfl
  rw[j];have e:=z6 W (Row g 74 [Zi Zk 0,Zs ⟨#[]⟩,Zs ⟨#[]⟩,Zi Zk 0,Zi Zk 0]::Row l 74 [Zi Zk m.k,Zs m.A,Zs m.B,Zi Zk m.N,Zi Zk m.M]::Row b 304 (shV vb b d)::qg1 vb c R::F);refine⟨StC W _,zd a,z7 ⟨_,QtV.a 2 e yR yR,_,_,_,_,_,λG w h=>z8 1 ((e G w).1 h) yR yR (zg 1 ((e G w).1 h) yR yR (zg 1 ((e G w).1 h) yR yR (z8 1 ((e G w).1 h) yR yR (z8 1 ((e G w).1 h) yR yR ⟨rfl,h⟩)))),?_⟩⟩;refine zk (α:=Unit) (V:=λ_=>ql2 (q75 c R d m now nonce).2.1) (B:=λ_=>qx2 vb b (q75 c R d m now nonce).1::qg1 vb c R::Row g 74 [Zi Zk 0,Zs ⟨#[]⟩,Zs ⟨#[]⟩,Zi Zk 0,Zi Zk 0]::F) () e (λG w h=>?_) λ_=>⟨_,_,_,_,_,rfl,trivial,?_⟩
  .have h:St W (Row g 74 [Zi Zk 0,Zs ⟨#[]⟩,Zs ⟨#[]⟩,Zi Zk 0,Zi Zk 0]::Row l 74 [Zi Zk m.k,Zs m.A,Zs m.B,Zi Zk m.N,Zi Zk m.M]::Row b 304 (shV vb b d)::qg1 vb c R::(F++pts G)) w:=h;refine qfs (F:=Row g 74 [Zi Zk 0,Zs ⟨#[]⟩,Zs ⟨#[]⟩,Zi Zk 0,Zi Zk 0]::(F++pts G)) ((o.app _).cons _) k (zl 4 [2,3,0] h yR) λw h=>⟨_,_,_,_,_,rfl,(),rfl,h⟩
  .refine⟨Unit,(),λ_=>Zt #[],λ_=>StC W (qx2 vb b (q75 c R d m now nonce).1::qg1 vb c R::Row g 74 [Zi Zk (q75 c R d m now nonce).2.1.k,Zs (q75 c R d m now nonce).2.1.A,Zs (q75 c R d m now nonce).2.1.B,Zi Zk (q75 c R d m now nonce).2.1.N,Zi Zk (q75 c R d m now nonce).2.1.M]::F),λG w h=>?_,λ_=>⟨rfl,trivial,λG w h=>?_⟩⟩
   .have h:=(ir G w).1 h;exact St1.zz 2 h yR λw h=>St1.zz 2 h yR λw h=>St1.zz 2 h yR λw h=>St1.zz 2 h yR λw h=>St1.zz 2 h yR λw h=>⟨(),rfl,h⟩
   .have a:=zb h;exact z8 2 a yR yR (zg 2 a yR yR (zg 2 a yR yR (z8 2 a yR yR (z8 2 a yR yR ⟨rfl,zl 3 [0,1] a yR⟩))))
 .have n:qjh b d.st=.nilFunc:=by
   unfold qjh;split;.omega
   .omega
   .rfl
  have j:q75 c R d m now nonce=(d,zM,A4):=by
   unfold q75;split;.omega
   .omega
   .rfl
  rw[j];refine⟨Zb A6,λw=>by rw[n];exact q5y w,_,rfl,zm yR ?_⟩;refine St1.zz 0 a yR λw a=>St1.zz 0 a yR λw a=>St1.zz 0 a yR λw a=>St1.zz 0 a yR λw a=>St1.zz 0 a yR λw a=>?_;exact z8 0 a yR yR (zg 0 a yR yR (zg 0 a yR yR (z8 0 a yR yR (z8 0 a yR yR ⟨rfl,zl 4 [2,3] a yR⟩))))
end
end
section
structure qz7 where
 t:qa4
 u1:Int
 u2:Int
 m1:Int
 m2:Int
abbrev qz8:=List (ByteArray×qz7)
def qd8(d:qz7):List A5:=[Zs d.t.name,Zi Zk d.t.names,Zi Zk d.t.visitors,.slice d.t.np d.t.nets.length d.t.nc,.slice d.t.tp d.t.toks.length d.t.tc,Zi Zk 0,Zi Zk d.u1,Zi Zk d.u2,Zi Zk 0,Zi Zk d.m1,Zi Zk d.m2]
def qy2(b:Nat)(d:qz7):Asn:=Row b 165 (qd8 d)
def qv2(b:Nat)(O:qz8):Asn:=exA λm:Nat=>qz [Row b 161 [.map (A1 m)],qr Zs m qy2 O]
def uMo:Zp.underlying 159=A1 (.map 9 162):=Tryz.underlying159
def iPo:Zp.info? 162=A1 Tryz.t162:=by kernel_rfl
def zPo:Tryz.t162.zero=A1 (Zq A2):=rfl
def qhd(t:qa4):qz7:=⟨t,0,0,t.names,t.visitors⟩
def q39(ts:List qa4):qz8:=ts.foldl (λO t=>qk O t.name (qhd t)) []
def qz7.used(d:qz7)(h:Int):Int:=if h=1 then d.u1 else d.u2
def qz7.most(d:qz7)(h:Int):Int:=if h=1 then d.m1 else d.m2
def qz7.put(d:qz7)(h:Int)(n:Int):qz7:=if h=1 then { d with u1:=n}else { d with u2:=n}
def qxk(O:qz8)(s:ByteArray)(h:Int):Int:=match qe O s with|none=>0|some d=>d.used h
def qq5(O:qz8)(s:ByteArray)(h:Int):qz8×Int:=match qe O s with
 |none=>(O,3)
 |some d=>if d.used h=d.most h then(O,112)else(qk O s (d.put h (Zw Zk (d.used h+1))),0)
def qjc(O:qz8)(s:ByteArray)(h:Int):qz8×Bool:=match qe O s with
 |none=>(O,A4)
 |some d=>if d.used h=0 then(O,A4)else(qk O s (d.put h (Zw Zk (d.used h - 1))),A6)
def qgf(O:qz8)(s:ByteArray)(addr:Int):Int:=match qe O s with
 |none=>3
 |some d=>if d.t.nets=[]then 0 else if d.t.nets.any (λx=>inN x.1 x.2 addr)=A6 then 0 else 111
section
variable{W w:World}{F:List Asn}{b:Nat}{c:qy}{O:qz8}
def qv2.open_(h:St W (qv2 b O::F) w):∃m,St W (Row b 161 [.map (A1 m)]::qr Zs m qy2 O::F) w:=by obtain⟨m,h⟩:=h.of_ex;exact⟨m,h.of_sep⟩
def qv2.shut(m:Nat)(h:St W (Row b 161 [.map (A1 m)]::qr Zs m qy2 O::F) w):St W (qv2 b O::F) w:=z00 m (zj (l:=[_,_]) h)
def qhb{h:Int}(b:h=1\/h=2)(a:St W F w):qb Zp 282 #[Zi Zk h] w λv w'=>v=Zb A6/\St W F w':=by
 refine F282_of ?_;rcases b with rfl|rfl;.exact zm yR ⟨rfl,a⟩
 .exact zn yR ⟨rfl,a⟩
def q1h{d:qz7}{h:Int}(w:h=1\/h=2):∃k:Nat,h=(k:Int)/\k<3/\(qd8 d)[5+k]?=A1 (Zi Zk (d.used h))/\(qd8 d)[8+k]?=A1 (Zi Zk (d.most h))/\∀n,(qd8 d).set (5+k) (Zi Zk n)=qd8 (d.put h n):=by
 rcases w with rfl|rfl;.exact⟨1,rfl,by omega,rfl,rfl,λn=>rfl⟩
 .exact⟨2,rfl,by omega,rfl,rfl,λn=>rfl⟩
def qmk{s:ByteArray}{h:Int}(c:h=1\/h=2)(a:St W (qv2 b O::F) w):qb Zp 225 #[qc b,Zs s,Zi Zk h] w λv w'=>v=Zi Zk (qxk O s h)/\St W (qv2 b O::F) w':=by
 obtain⟨m,a⟩:=qv2.open_ a;unfold qxk;refine F225_of (z7 (zv 0 a yR yR ?_));cases hd:qe O s with
 |none=>exact z0y kS uMo iPo zPo 1 a yR hd A6 ⟨_,_,rfl,zm yR ⟨rfl,qv2.shut m a⟩⟩
 |some d=>
  obtain⟨q,a⟩:=z15 hd a.p1;refine z0g kS uMo iPo zPo 1 a yR A6 ⟨_,_,rfl,zn yR ((qhb c a).of λv w ⟨i,a⟩=>⟨_,i,zn yR (z7 ?_)⟩)⟩;obtain⟨k,n,f,g,j,l⟩:=q1h (d:=d) c;refine⟨_,rfl,⟨by omega,by omega⟩,?_⟩;have a:St W (Row q 165 (qd8 d)::qw Zs m qy2 O s q::Row b 161 [.map (A1 m)]::F) w:=a;have e:(Bc h)=k:=by omega
  rw[qi1,e,Aa,qi1];refine z12 0 a yR (by rw[Am];exact g) ⟨rfl,qv2.shut m ?_⟩;have:=z0p (A:=qy2) a;rw[qt1 hd]at this;exact this.p1
def IxP.own{q o k:Nat}{w:Int}{K:B5->Prop}(a:w=(k:Int))(b:k<3)(h:K ⟨q,o+k,A2⟩):IxP (A1 (Za ⟨q,0,A2⟩ o)) 3 w 1 K:=by
 refine⟨_,rfl,⟨by omega,by omega⟩,?_⟩;have e:(Bc w)=k:=by omega
 rw[qi1,e,Aa,qi1,Am];exact h
def Take_spec{s:ByteArray}{a:Int}(i:a=1\/a=2)(c:St W (qv2 b O::F) w):qb Zp 353 #[qc b,Zs s,Zi Zk a] w λv w'=>v=Zi Zk (qq5 O s a).2/\St W (qv2 b (qq5 O s a).1::F) w':=by
 obtain⟨m,c⟩:=qv2.open_ c;unfold qq5;refine F353_of (z7 (zv 0 c yR yR ?_));cases hd:qe O s with
 |none=>exact z0y kS uMo iPo zPo 1 c yR hd A6 ⟨_,_,rfl,(qhb i c).of λv w ⟨j,c⟩=>⟨_,j,zn yR (zm yR ⟨rfl,qv2.shut m c⟩)⟩⟩
 |some d=>
  obtain⟨q,c⟩:=z15 hd c.p1;refine z0g kS uMo iPo zPo 1 c yR A6 ⟨_,_,rfl,(qhb i c).of λv w ⟨j,c⟩=>⟨_,j,zn yR (zn yR ?_)⟩⟩;obtain⟨k,f,e,l,n,o⟩:=q1h (d:=d) i;have c:St W (Row q 165 (qd8 d)::qw Zs m qy2 O s q::Row b 161 [.map (A1 m)]::F) w:=c;have g:=z6 W (Row q 165 (qd8 d)::qw Zs m qy2 O s q::Row b 161 [.map (A1 m)]::F);refine⟨StC W _,zd c,z7 (IxP.own f e (z7 (IxP.own f e ⟨_,z02 0 g yR l,_,z02 0 g yR n,λG w h=>?_⟩)))⟩;have c:=zb h;refine za (λh=>?_) λh=>?_
  .have h:d.used a=d.most a:=by simpa using h
   dsimp only;rw[yB h];refine⟨rfl,qv2.shut m ?_⟩;have:=z0p (A:=qy2) c;rw[qt1 hd]at this;exact this.p1
  have h:¬d.used a=d.most a:=by simpa using h
  dsimp only;rw[yA h];refine⟨StC W _,zd c,z7 (IxP.own f e (z7 ⟨_,z02 0 g yR l,IxP.own f e (Ef.st 0 g yR (by show 5+k<11;omega) ⟨rfl,trivial,λG w h=>⟨rfl,qv2.shut m ?_⟩⟩)⟩))⟩;have c:=zb h;have c:St W (Row q 165 ((qd8 d).set (5+k) (Zi Zk (Zw Zk (d.used a+1))))::qw Zs m qy2 O s q::Row b 161 [.map (A1 m)]::F) w:=c;rw[o]at c;exact(z0p (A:=qy2) c).p1
def qnt{s:ByteArray}{a:Int}(g:a=1\/a=2)(c:St W (qv2 b O::F) w):qb Zp 147 #[qc b,Zs s,Zi Zk a] w λv w'=>v=Zb (qjc O s a).2/\St W (qv2 b (qjc O s a).1::F) w':=by
 refine F147_of ((qmk g c).of λv w ⟨n,c⟩=>⟨_,n,?_⟩);unfold qjc qxk;cases hd:qe O s with
 |none=>exact zm yR ⟨rfl,c⟩
 |some d=>
  obtain⟨m,c⟩:=qv2.open_ c;refine za (λh=>?_) λh=>?_
  .have h:d.used a=0:=by simpa using h
   dsimp only;rw[yB h];exact⟨rfl,qv2.shut m c⟩
  have h:¬d.used a=0:=by simpa using h
  dsimp only;rw[yA h];obtain⟨q,c⟩:=z15 hd c.p1;obtain⟨k,i,e,j,o,l⟩:=q1h (d:=d) g;have c:St W (Row q 165 (qd8 d)::qw Zs m qy2 O s q::Row b 161 [.map (A1 m)]::F) w:=c;have f:=z6 W (Row q 165 (qd8 d)::qw Zs m qy2 O s q::Row b 161 [.map (A1 m)]::F);refine⟨StC W _,zd c,z7 ⟨_,z0b 2 f yR yR,A1 ⟨q,0,A2⟩,λG w h=>z0g kS uMo iPo zPo 1 ((f G w).1 h) yR A4 ⟨_,rfl,rfl,h⟩,z7 (IxP.own i e (z7 ⟨_,z02 0 f yR j,IxP.own i e (Ef.st 0 f yR (by show 5+k<11;omega) ⟨rfl,trivial,λG w h=>⟨rfl,qv2.shut m ?_⟩⟩)⟩))⟩⟩;have c:=zb h;have c:St W (Row q 165 ((qd8 d).set (5+k) (Zi Zk (Zw Zk (d.used a - 1))))::qw Zs m qy2 O s q::Row b 161 [.map (A1 m)]::F) w:=c;rw[l]at c;exact(z0p (A:=qy2) c).p1
def qmu{x:Int×Int}{q:Nat}{addr:Int}{G:List Asn}{K:A5->A3->Prop}(h:St W (Row q 34 [Zi .u32 addr]::G) w)(d:∀w',St W (Row q 34 [Zi .u32 addr]::G) w'->K (Zb (inN x.1 x.2 addr)) w'):q01 Zp 4 (.func (.func 398) #[] #[Zq (A1 ⟨q,0,A2⟩)]) [Zg (qje x).toArray] w K:=by
 have a:qb Zp 398 #[Zg #[Zi .u32 x.1,Zi Zk x.2],Zq (A1 ⟨q,0,A2⟩)] w K:=
  F398_of (zh h λb w h=>z8 0 h yR yR (z8 0 h yR yR (z12 1 h yR yR ((qsx x.1 x.2 addr h).of λv w ⟨c,h⟩=>⟨_,c,d w h.drop⟩))))
 exact zw (by kernel_rfl) a
def q2q{s:ByteArray}{addr:Int}(i:∀x∈O,qg6 F x.2.t)(a:St W (qv2 b O::F) w):qb Zp 382 #[qc b,Zs s,Zi .u32 addr] w λv w'=>v=Zi Zk (qgf O s addr)/\St W (qv2 b O::F) w':=by
 obtain⟨m,a⟩:=qv2.open_ a;unfold qgf;refine F382_of (zh a λf w a=>z7 (zv 1 a yR yR ?_));cases hd:qe O s with
 |none=>exact z0y kS uMo iPo zPo 2 a yR hd A6 ⟨_,_,rfl,zm yR ⟨rfl,qv2.shut m a.drop⟩⟩
 |some d=>
  have e:=i _ (qg3 hd);obtain⟨q,a⟩:=z15 hd (zf 2 0 a yR);have a:St W (Row q 165 (qd8 d)::qw Zs m qy2 O s q::Row f 34 [Zi .u32 addr]::Row b 161 [.map (A1 m)]::F) w:=a;have c:∀w,St W (Row q 165 (qd8 d)::qw Zs m qy2 O s q::Row f 34 [Zi .u32 addr]::Row b 161 [.map (A1 m)]::F) w->St W (qv2 b O::F) w:=λw h=>qv2.shut m (by have:=z0p (A:=qy2) h;rw[qt1 hd]at this;exact zl 3 [2,0] this rfl)
  refine z0g kS uMo iPo zPo 1 a yR A6 ⟨_,_,rfl,zn yR (z7 (zt 0 a yR yR (za (λh=>zm h ?_) λh=>?_)))⟩
  .have h:d.t.nets=[]:=by simpa using h
   dsimp only;rw[yB h];exact⟨rfl,c w a⟩
  have h:¬d.t.nets=[]:=by simpa using h
  dsimp only;rw[yA h];refine z7 (zt 0 a yR yR ?_);have a:=zf 2 0 a yR;refine(qnn (λx=>inN x.1 x.2 addr) ((((e.nr.cons _).cons _).cons _).cons _) e.nb (λx _ w K a g=>qmu a g) a).of λv w ⟨j,a⟩=>⟨_,j,za (λh=>?_) λh=>?_⟩;.rw[yB h];exact⟨rfl,c w (zf 0 2 a yR)⟩
  .rw[yA (by rw[h];simp)];exact⟨rfl,c w (zf 0 2 a yR)⟩
def qbu(u:ql1 F c)(d:St W F w):qb Zp 37 #[Zg (qx3 c).toArray] w λv w'=>(qj6 c=A4/\v=Zq A2/\St W F w')\/(qj6 c=A6/\∃b,v=qc b/\St W (qv2 b (q39 c.tens)::F) w'):=by
 refine F37_of (zh d λb w d=>z8 0 d yR yR (z8 0 d yR yR (z8 0 d yR yR (z8 0 d yR yR (zt 0 d yR yR ?_)))));refine(q4d (u.cons _) d).of λv w ⟨D,d⟩=>⟨_,D,za (λh=>?_) λh=>?_⟩;.exact .inl ⟨by simpa using h,rfl,d.drop⟩
 have i:qj6 c=A6:=by simpa using h
 refine qs5.f (ν:=Nat) Zs qc d λm w d=>zh d λj w d=>zt 2 d yR yR ?_;have d:St W (Row j 161 [.map (A1 m)]::qg Zs qc m (qx (Prod.fst (α:=Nat) (β:=qz7)) ([]:List (ByteArray×Nat×qz7)))::F) w:=zl 3 [0,1] d yR;have d:St W (Row j 161 [.map (A1 m)]::qr Zs m qy2 (q39 (c.tens.take 0))::F) w:=(z19 (A:=qy2) [] yR (zf 0 1 (zj (l:=[]) (zf 1 0 d yR)) yR)).p1;refine⟨λvs w=>∃k:Nat,vs=[Zi Zk (k:Int)]/\k<=c.tens.length/\St W (Row j 161 [.map (A1 m)]::qr Zs m qy2 (q39 (c.tens.take k))::F) w,leftN c.tens.length,⟨0,rfl,by omega,d⟩,λx w E=>?_⟩;obtain⟨k,C,H,d⟩:=E;cases C;refine za (λg=>?_) λp=>?_
 .have g:k<c.tens.length:=by have:=yC g;omega
  have r:c.tens[k]?=A1 (c.tens[k]'g):=A0 _;generalize c.tens[k]'g=y at r;refine z0f (f:=q43) (size:=5) (λ_=>rfl) (by omega) ((u.tr.cons _).cons _) d yR g r λa o=>⟨_,o 0 _ rfl,⟨_,o 1 _ rfl,⟨_,o 2 _ rfl,⟨_,_,_,o 3 _ rfl,⟨_,_,_,o 4 _ rfl,?_⟩⟩⟩⟩⟩;refine zh d λt w d=>St1.zz 0 d yR λw d=>St1.zz 0 d yR λw d=>St1.zz 0 d yR λw d=>St1.zz 0 d yR λw d=>St1.zz 0 d yR λw d=>?_;have d:St W (Row t 112 (q43 y)::Row j 161 [.map (A1 m)]::qr Zs m qy2 (q39 (c.tens.take k))::F) w:=d;have n:=z6 W (Row t 112 (q43 y)::Row j 161 [.map (A1 m)]::qr Zs m qy2 (q39 (c.tens.take k))::F);refine⟨StC W _,zd d,_,z0b 1 n yR yR,_,zu 0 n yR yR,_,_,_,_,_,_,_,_,_,λG w h=>zg 0 ((n G w).1 h) yR yR (z8 0 ((n G w).1 h) yR yR (z8 0 ((n G w).1 h) yR yR (zt 0 ((n G w).1 h) yR yR (zt 0 ((n G w).1 h) yR yR ⟨rfl,h⟩)))),_,zi 0 n yR yR,_,zi 0 n yR yR,λs=>?_⟩;refine zk (α:=Unit) (V:=λ_=>Zt #[]) (B:=λ_=>Row j 161 [.map (A1 m)]::qr Zs m qy2 (qk (q39 (c.tens.take k)) y.name (qhd y))::F) () (ir.push s _) (λG w h=>?_) λ_=>⟨rfl,trivial,λG w h=>?_⟩
  .have h:St W (Pt s (.cells (qd8 (qhd y)).toArray 165)::Row t 112 (q43 y)::Row j 161 [.map (A1 m)]::qr Zs m qy2 (q39 (c.tens.take k))::(F++pts G)) w:=h;have z:St W (qy2 s (qhd y)::Row j 161 [.map (A1 m)]::qr Zs m qy2 (q39 (c.tens.take k))::(F++pts G)) w:=(h.imp z0d).p1.drop;exact qr.set_i kS uMo 0 1 z yR yR λw' h=>⟨(),rfl,h⟩
  .have e:q39 (c.tens.take (k+1))=qk (q39 (c.tens.take k)) y.name (qhd y):=by unfold q39;rw[B1,r,Option.toList_some,Bx];rfl
   rw[up g u.tb];refine⟨⟨k+1,rfl,by omega,?_⟩,by show c.tens.length -(k+1)<c.tens.length - k;omega⟩;rw[e];exact zb h
 .have q:k=c.tens.length:=by have:=yD p;omega
  subst q;rw[Ap]at d;exact .inr ⟨i,j,rfl,qv2.shut m d⟩
end
def z1e:=@qv2.shut
end
section
open Go Go.MapKept Go.Maps
def q9c{α:Type}{p q:α->Bool}:∀(l:List α),(∀x∈l,p x=A6->q x=A6)->(l.filter p).length<=(l.filter q).length
 |[],_=>by simp
 |x::r,h=>by
  have a:=q9c r λy b=>h y (.tail _ b);simp only[C0];by_cases w:p x=A6;.rw[yB w,yB (h x (.head _) w)];simpa using a
  .rw[yA w];split;.simp;omega
   .exact a
def qla{α:Type}{p q:α->Bool}{x:α}:∀(l:List α),(∀x∈l,p x=A6->q x=A6)->x∈l->p x=A4->q x=A6->(l.filter p).length<(l.filter q).length
 |[],_,a,_,_=>by cases a
 |y::r,h,a,w,c=>by
  simp only[C0];rcases Bl.1 a with rfl|a
  .rw[yA (by rw[w];simp),yB c];have:=q9c (p:=p) (q:=q) r λy b=>h y (.tail _ b);simp;omega
  .have d:=qla r (λy b=>h y (.tail _ b)) a w c;by_cases w:p y=A6;.rw[yB w,yB (h y (.head _) w)];simpa using d
   .rw[yA w];split;.simp;omega
    .exact d
section
variable{κ ν:Type}{P:Program}{kt et mt:TypeId}{enc:κ->Value}{vl:ν->Value}
structure q9j(enc:κ->A5)(vl:ν->A5)(L:List (κ×ν))(S:List κ)(es:Array Cc)(clock:Nat)(seen:Array Nat)(c0:Nat):Prop where
 st:Stamped es clock
 ent:es.toList.map (λe=>(e.key,e.val))=qk3 enc vl L
 old:clock<=c0
 seen:∀e∈es.toList,seen.contains e.born=A6↔e.key∈S.map enc
def qn2(enc:κ->A5)(vl:ν->A5)(m it:Nat)(L:List (κ×ν))(S:List κ):Asn:=exA λx:Array Cc×Nat×Array Nat×Nat=>qz [
 prA (q9j enc vl L S x.1 x.2.1 x.2.2.1 x.2.2.2),Pt m (.map x.1 x.2.1),Pt it (.mapIter (A1 m) x.2.1 x.2.2.1 x.2.2.2)]
variable{W w:World}{l F:List Asn}{m it:Nat}{L:List (κ×ν)}{S:List κ}
def qn2.open_(h:St W (qn2 enc vl m it L S::F) w):∃es clock seen a,q9j enc vl L S es clock seen a/\St W (Pt m (.map es clock)::Pt it (.mapIter (A1 m) clock seen a)::F) w:=by obtain⟨⟨es,clock,seen,a⟩,h⟩:=h.of_ex;obtain⟨b,h⟩:=h.of_sep.of_pr;exact⟨es,clock,seen,a,b,h⟩
def qn2.shut{es:Array Cc}{clock a:Nat}{seen:Array Nat}(b:q9j enc vl L S es clock seen a)(h:St W (Pt m (.map es clock)::Pt it (.mapIter (A1 m) clock seen a)::F) w):St W (qn2 enc vl m it L S::F) w:=
 z00 (es,clock,seen,a) (zj (l:=[_,_,_]) (z01 b h))
def q7y(d:P.underlying mt=A1 (.map kt et)){K:A5->A3->Prop}(n:Nat)(e:St W l w)(a:nth l n=A1 (qg enc vl m L))
 (f:∀it w',St W (put l n [qn2 enc vl m it L []]) w'->K (.pointer (A1 ⟨it,0,A2⟩)) w'):Run P (Instr.range mt (.map (A1 m))) w K:=by
 obtain⟨es,clock,i,b,h⟩:=z1c (e.at n a);have c:=(h.turn (o':=.map #[] 0)).1;have g:=h.alloc (.mapIter (A1 m) clock #[] clock);exact⟨_,_,run_range_map w mt kt et m es clock d c,f _ _ (z06 n a (B:=[_]) (qn2.shut ⟨i,b,Ao _,by simp⟩ g.p1))⟩
def qx9(m it:Nat)(w:A3):Nat:=match w.heap[it]?,w.heap[m]? with
 |some (.mapIter _ _ seen _),A1 (.map es _)=>(es.toList.filter λe=>!seen.contains e.born).length
 |_,_=>0
def q1c{es:Array Cc}{clock a:Nat}{seen:Array Nat}(h:St W (Pt m (.map es clock)::Pt it (.mapIter (A1 m) clock seen a)::F) w):qx9 m it w=(es.toList.filter λe=>!seen.contains e.born).length:=by unfold qx9;rw[h.p1.pt,h.pt]
def q9z(E:qw2 P kt enc){ty:Cp}{A:A3->Prop}{B:A5->A5->A3->Prop}(T:St W (qn2 enc vl m it L S::F) w)
 (K:(∀x∈L,x.1∈S)->∀w',St W (qg enc vl m L::F) w'->A w')
 (N:∀x,x∈L->x.1∉S->∀w',St W (qn2 enc vl m it L (S++[x.1])::F) w'->qx9 m it w'<qx9 m it w->(Instr.entry (.pointer (A1 ⟨it,0,A2⟩))).run P w'=.ok (.tuple #[enc x.1,vl x.2]) w'->B (enc x.1) (vl x.2) w'):q8g P (Instr.next (.pointer (A1 ⟨it,0,A2⟩)) A4 ty) w A B:=by
 obtain⟨es,clock,seen,G,a,h⟩:=qn2.open_ T;have M:=h.pt;have X:=h.p1.pt;have Q:=qg.nodup E a.st a.ent;have s:=q1c h;rcases run_next_at (P:=P) w ty it m clock G seen es clock X M (λx o=>a.st.1 x o) a.old with ⟨Z,c⟩|⟨e,g,w1,r,c⟩
 .refine⟨_,_,c,.inl ⟨rfl,K (λx o=>?_) _ (qg.shut a.st a.ent (h.p1.drop))⟩⟩;have C:enc x.1∈es.toList.map (·.key):=by rw[qdb a.ent];exact Au.2 ⟨_,Au.2 ⟨x,o,rfl⟩,rfl⟩
  obtain⟨e,g,t⟩:=Au.1 C;have n:seen.contains e.born=A6:=by
   cases hc:seen.contains e.born with
   |true=>rfl
   |false=>
    have:e∈leftOf es seen:=by unfold leftOf;rw[Array.mem_filter];exact⟨by simpa using g,by rw[hc];rfl⟩
    have Y:=Array.size_pos_of_mem this;omega
  obtain⟨y,U,z⟩:=Au.1 ((a.seen e g).1 n);have:y=x.1:=E.inj _ _ (z.trans t);rw[<-this];exact U
 .have b:e∈es.toList/\seen.contains e.born=A4:=by unfold leftOf at g;rw[Array.toList_filter,List.mem_filter]at g;exact⟨g.1,by simpa using g.2⟩
  obtain⟨j,R⟩:=List.getElem?_of_mem b.1;obtain⟨k,v,J,p,I⟩:=qeb a.ent R;have q:k∉S:=λD=>by have:=(a.seen e b.1).2 (by rw[p];exact Au.2 ⟨k,D,rfl⟩);rw[b.2]at this;cases this
  refine⟨_,_,c,.inr ⟨_,_,rfl,?_⟩⟩;have V:St W (Pt m (.map es clock)::Pt it (.mapIter (A1 m) clock seen G)::F) w1:=by
   rcases r with rfl|rfl;.exact h
   .exact h.draws
  have H:=(V.p1.turn (o':=.mapIter (A1 m) clock (seen.push e.born) clock)).2.p1;have d:St W (Pt m (.map es clock)::Pt it (.mapIter (A1 m) clock (seen.push e.born) clock)::F) _:=H;have f:=run_entry_at (P:=P) _ it m clock seen es clock e d.p1.pt d.pt b.1 a.st.2.1;rw[p,I]at f⊢;refine N (k,v) (Ak J) q _ (qn2.shut ⟨a.st,a.ent,Ao _,λe' i=>?_⟩ d) ?_ f
  .have l:=qcp a.st i b.1;have n:=a.seen e' i;simp only[Bh,yJ]at n;simp only[Bh,Cz,Bo,B9,B6,D1,Cg,yJ];rw[n,<-p,l.1,l.2]
  .have u:=q1c d;refine Nat.lt_of_le_of_lt (Nat.le_of_eq u) ?_;rw[s];refine qla _ (λx o h=>?_) b.1 (by simp) (by rw[b.2];rfl);simp only[Bh,Cz,Bool.not_eq_true',decide_eq_false_iff_not]at h⊢;exact λO=>h (.inl O)
end
section
variable{κ ν:Type}[DecidableEq κ]{P:Program}{kt et mt:TypeId}{enc:κ->Value}{vl:ν->Value}
variable{W w:World}{l F:List Asn}{m it:Nat}{L:List (κ×ν)}{S:List κ}
def qww(j:qw2 P kt enc)(e:P.underlying mt=A1 (.map kt et)){z:A5}{a:TypeInfo}(i:P.info? et=A1 a)(c:a.zero=A1 z){K:A5->A3->Prop}(n:Nat)(f:St W l w)(d:nth l n=A1 (qn2 enc vl m it L S))(k:κ)(ok:Bool)
 (g:K (if ok=A6 then .tuple #[((qe L k).map vl).getD z,.bool (qe L k).isSome]else((qe L k).map vl).getD z) w):Run P (Instr.lookup mt (.map (A1 m)) (enc k) ok) w K:=by
 obtain⟨es,clock,seen,o,b,h⟩:=qn2.open_ (f.at n d);exact qq1 j e i c 0 (qg.shut b.st b.ent h) yR k ok g
def q6v(p:qw2 P kt enc)(s:P.underlying mt=A1 (.map kt et)){ty:Cp}{K:A5->A3->Prop}(y:St W (qn2 enc vl m it L S::F) w)(k:κ)
 (z:∀w',St W (qn2 enc vl m it (qp L k) S::F) w'->qx9 m it w'<=qx9 m it w->K (.tuple #[]) w'):Run P (Builtin.delete_ #[mt,kt] ty #[.map (A1 m),enc k]) w K:=by
 obtain⟨es,clock,seen,B,a,b⟩:=qn2.open_ y;obtain⟨d,i,c⟩:=p.kind;have q:=q1c b;have f:∀h,Stamped h clock->h.toList.map (λe=>(e.key,e.val))=qk3 enc vl (qp L k)->h.toList.Sublist es.toList->K (.tuple #[]) { w with heap:=w.heap.setIfInBounds m (.map h clock)}:=λh o l g=>by have u:=(b.turn (o':=.map h clock)).2;refine z _ (qn2.shut ⟨o,l,a.old,λe x=>a.seen e (g.subset x)⟩ u) ?_;rw[q,q1c u];exact(g.filter _).length_le
 have n:=(b.turn (o':=.map #[] 0)).1;rcases quf p a.st a.ent k i c with ⟨o,l,g⟩|⟨j,e,v0,o,l,g,v,C,A⟩
 .refine⟨_,_,?_,f es a.st (by rw[ql6 o];exact a.ent) (List.Sublist.refl _)⟩;simp[Builtin.delete_,run_underlying s,Bd n,run_checkKey i (c k),run_findKey i l,run_setObj_map _ n]
 .have r:j<es.size:=by simpa using (A7.1 g).1
  have t:(es.eraseIdxIfInBounds j).toList=es.toList.eraseIdx j:=by unfold Array.eraseIdxIfInBounds;rw[dif_pos r,Array.toList_eraseIdx]
  refine⟨_,_,?_,f (es.eraseIdxIfInBounds j) (stamped_erase a.st j) ?_ (by rw[t];exact List.eraseIdx_sublist _ _)⟩;.simp[Builtin.delete_,run_underlying s,Bd n,run_checkKey i (c k),run_findKey i l,run_setObj_map _ n]
  .rw[q5p (qg.nodup p a.st a.ent) v,t,qea,a.ent];unfold qk3;rw[qea]
def qpc(S:List κ)(k:κ):Bool:=S.any λs=>decide (s=k)
def qnb{S:List κ}{k:κ}:qpc S k=A6↔k∈S:=by unfold qpc;rw[Cr];exact⟨λ⟨x,w,e⟩=>(yC e) ▸ w,λh=>⟨k,h,yG yR⟩⟩
def qkl(j:∀a b,enc a=enc b->a=b){p:Cc->Bool}:∀(es:List Cc) (L:List (κ×ν)),es.map (λe=>(e.key,e.val))=qk3 enc vl L->(∀e∈es,p e=A6↔¬e.key∈S.map enc)->(es.filter p).length=(L.filter λx=>!qpc S x.1).length
 |[],[],_,_=>rfl
 |[],_::_,h,_=>by simp[qk3]at h
 |_::_,[],h,_=>by simp[qk3]at h
 |e::es,x::L,h,g=>by
  simp only[qk3,B6,List.cons.injEq,Prod.mk.injEq]at h;have i:=qkl j es L h.2 λy d=>g y (.tail _ d);have w:=g e (.head _);have k:e.key∈S.map enc↔qpc S x.1=A6:=by rw[qnb,h.1.1];exact⟨λf=>by obtain⟨y,d,e⟩:=Au.1 f;rw[<-j _ _ e];exact d,λf=>Au.2 ⟨_,f,rfl⟩⟩
  rw[k]at w;simp only[C0];by_cases c:qpc S x.1=A6;.rw[yA (λh=>(w.1 h) c),yA (by rw[c];simp),i]
  .rw[yB (w.2 c),yB (by simpa using c)];simpa using i
def qn2.left(c:qw2 P kt enc)(h:St W (qn2 enc vl m it L S::F) w):qx9 m it w=(L.filter λx=>!qpc S x.1).length:=by obtain⟨es,clock,seen,d,a,h⟩:=qn2.open_ h;rw[q1c h];refine qkl c.inj _ _ a.ent λe b=>?_;rw[<-a.seen e b];simp
end
end
section
structure LeD where
 name:ByteArray
 ten:ByteArray
 conn:Int
 epoch:Int
 til:Int
 held:Bool
abbrev LeL:=List (ByteArray×LeD)
structure qi3 where
 grace:Int
 most:Int
 epoch:Int
 L:LeL
def leV(d:LeD):List A5:=[Zs d.name,Zs d.ten,Zi Zk d.conn,Zi Zk d.epoch,Zi Zk d.til,Zb d.held]
def zeL:LeD:=⟨⟨#[]⟩,⟨#[]⟩,0,0,0,A4⟩
def qu(q:Nat)(d:LeD):Asn:=Row q 55 (leV d)
def bkV(B:qi3)(m:Nat):List A5:=[Zi Zk B.grace,Zi Zk B.most,Zi Zk B.epoch,.map (A1 m)]
def q41(b:Nat)(B:qi3):Asn:=exA λm:Nat=>qz [prA (B.L.length<=64),Row b 168 (bkV B m),qr Zs m qu B.L]
def uMl:Zp.underlying 166=A1 (.map 9 200):=Tryz.underlying166
def iPl:Zp.info? 200=A1 Tryz.t200:=by kernel_rfl
def zPl:Tryz.t200.zero=A1 (Zq A2):=rfl
def qa6(n:Int):Bool:=decide (n>0)&&decide (n<=1073741824)
def q79(n:Int):Bool:=decide (n>=0)&&decide (n<=1099511627776)
def qv4(g:Int)(d:LeD)(now:Int):Int:=if d.held=A6 then(if now<d.til then 2 else if now<Zw Zk (d.til+g)then 1 else 0)else if now<d.til then 1 else 0
def q78(d:LeD)(til:Int):LeD:={ d with held:=A4,til:=til}
section
variable{W w:World}{F:List Asn}{b m:Nat}{B:qi3}{name:ByteArray}{now:Int}
def q41.open_(h:St W (q41 b B::F) w):∃m,B.L.length<=64/\St W (Row b 168 (bkV B m)::qr Zs m qu B.L::F) w:=by obtain⟨m,h⟩:=h.of_ex;obtain⟨a,h⟩:=h.of_sep.of_pr;exact⟨m,a,h⟩
def q41.shut(m:Nat)(a:B.L.length<=64)(h:St W (Row b 168 (bkV B m)::qr Zs m qu B.L::F) w):St W (q41 b B::F) w:=z00 m (zj (l:=[_,_,_]) (z01 a h))
def q41.back{d:LeD}{q:Nat}(c:B.L.length<=64)(e:qe B.L name=A1 d)(h:St W (qu q d::qw Zs m qu B.L name q::Row b 168 (bkV B m)::F) w):St W (q41 b B::F) w:=by have a:=z0p (A:=qu) h;rw[qt1 e]at a;exact q41.shut m c a.p1
def q5b(n:Int)(a:St W F w):qb Zp 72 #[Zi Zk n] w λv w'=>v=Zb (qa6 n)/\St W F w':=by unfold qa6;exact F72_of (za (λh=>by rw[h];exact⟨rfl,a⟩) λh=>by rw[h];exact⟨rfl,a⟩)
def q57(n:Int)(a:St W F w):qb Zp 198 #[Zi Zk n] w λv w'=>v=Zb (q79 n)/\St W F w':=by unfold q79;exact F198_of (za (λh=>by rw[h];exact⟨rfl,a⟩) λh=>by rw[h];exact⟨rfl,a⟩)
def qst(g c:Int)(a:St W F w):qb Zp 38 #[Zi Zk g,Zi Zk c] w λv w'=>((qa6 g&&qa6 c)=A4/\v=Zq A2/\St W F w')\/((qa6 g&&qa6 c)=A6/\∃b,v=qc b/\St W (q41 b ⟨g,c,0,[]⟩::F) w'):=by
 refine F38_of ((q5b g a).of λv w ⟨e,a⟩=>⟨_,e,za (λh=>?_) λh=>?_⟩)
 .have h:qa6 g=A4:=by simpa using h
  exact .inl ⟨by rw[h];rfl,rfl,a⟩
 have h:qa6 g=A6:=by simpa using h
 refine(q5b c a).of λv w ⟨e,a⟩=>⟨_,e,za (λd=>?_) λd=>?_⟩
 .have d:qa6 c=A4:=by simpa using d
  exact .inl ⟨by rw[h,d];rfl,rfl,a⟩
 have d:qa6 c=A6:=by simpa using d
 refine qs5.f (ν:=Nat) Zs qc a λm w a=>zh a λb w a=>.inr ⟨by rw[h,d];rfl,b,rfl,?_⟩;have a:St W (Row b 168 (bkV ⟨g,c,0,[]⟩ m)::qg Zs qc m (qx (Prod.fst (α:=Nat) (β:=LeD)) ([]:List (ByteArray×Nat×LeD)))::F) w:=a;exact q41.shut m (by simp) (z19 (A:=qu) [] yR (zf 0 1 (zj (l:=[]) (zf 1 0 a yR)) yR)).p1
def qhy(a:qe B.L name=A2)(h:St W (Row b 168 (bkV B m)::qr Zs m qu B.L::F) w):qb Zp 204 #[qc b,Zs name,Zi Zk now] w λv w'=>
 v=Zt #[Zq A2,Zi Zk 0]/\St W (Row b 168 (bkV B m)::qr Zs m qu B.L::F) w':=
 F204_of (z7 (zv 0 h yR yR (z0y kS uMl iPl zPl 1 h yR a A6 ⟨_,_,rfl,zm yR ⟨rfl,h⟩⟩)))
def qhp{q:Nat}{d:LeD}(e:∀K:A5->A3->Prop,K (Zt #[qc q,Zb A6]) w->Run Zp (Instr.lookup 166 (.map (A1 m)) (Zs name) A6) w K)(a:St W (qu q d::Row b 168 (bkV B m)::F) w):qb Zp 204 #[qc b,Zs name,Zi Zk now] w λv w'=>
 v=Zt #[qc q,Zi Zk (qv4 B.grace d now)]/\St W (qu q d::Row b 168 (bkV B m)::F) w':=by
 refine F204_of (z7 (zv 1 a yR yR (e _ ⟨_,_,rfl,zn yR (z7 ?_)⟩)));obtain⟨k,i,l,j,ti,held⟩:=d;have a:St W (Row q 55 (leV ⟨k,i,l,j,ti,held⟩)::Row b 168 (bkV B m)::F) w:=a;have f:=z6 W (Row q 55 (leV ⟨k,i,l,j,ti,held⟩)::Row b 168 (bkV B m)::F);refine zx 0 a yR yR ?_;unfold qv4;cases held
 .refine zn yR ⟨StC W _,zd a,z7 ⟨_,z0u 0 f yR yR,zn yR λG w c=>z7 (zx 0 (zb c) yR yR (zm yR (z7 (z8 0 (zb c) yR yR (za (λh=>⟨?_,zb c⟩) λh=>⟨?_,zb c⟩)))))⟩⟩;.rw[yA (by simp),yB (yC h)];rfl
  .rw[yA (by simp),yA (yD h)];rfl
 .refine zm yR (z7 (z8 0 a yR yR (za (λh=>⟨?_,a⟩) λh=>⟨StC W _,zd a,z7 ⟨_,z0u 0 f yR yR,zm yR (z7 (z7 ⟨_,zi 0 f yR yR,_,zi 1 f yR yR,λG w c=>za (λg=>zm g ⟨?_,zb c⟩) λg=>z7 (zx 0 (zb c) yR yR (zn yR ⟨?_,zb c⟩))⟩))⟩⟩)));.rw[yB yR,yB (yC h)];rfl
  .rw[yB yR,yA (yD h),yB (yC g)];rfl
  .rw[yB yR,yA (yD h),yA (yD g)];rfl
def q0g(a:St W (Row b 168 (bkV B m)::qr Zs m qu B.L::F) w):qb Zp 204 #[qc b,Zs name,Zi Zk now] w λv w'=>
 (qe B.L name=A2/\v=Zt #[Zq A2,Zi Zk 0]/\St W (Row b 168 (bkV B m)::qr Zs m qu B.L::F) w')\/
 ∃d q,qe B.L name=A1 d/\v=Zt #[qc q,Zi Zk (qv4 B.grace d now)]/\St W (qu q d::qw Zs m qu B.L name q::Row b 168 (bkV B m)::F) w':=by
 cases hd:qe B.L name with
 |none=>exact(qhy hd a).of λv w h=>.inl ⟨rfl,h⟩
 |some d=>obtain⟨q,a⟩:=z15 hd a.p1;exact(qhp (λK e=>z0g kS uMl iPl zPl 1 a yR A6 e) (zf 2 1 a yR)).of λv w ⟨c,a⟩=>.inr ⟨d,q,rfl,c,zf 1 2 a yR⟩
def q6f{q:Nat}{d:LeD}{u:Int}(h:St W (qu q d::F) w):qb Zp 201 #[qc q,Zi Zk u] w λv w'=>v=Zt #[]/\St W (qu q (q78 d u)::F) w':=by have h:St W (Row q 55 (leV d)::F) w:=h;exact F201_of (z7 (St1.zz 0 h yR λw h=>z7 (St1.zz 0 h yR λw h=>⟨rfl,h⟩)))
def q06(B:qi3)(name:ByteArray)(now:Int):LeD×Bool:=match qe B.L name with
 |none=>(zeL,A4)
 |some d=>if qv4 B.grace d now=2 then(d,A6)else(zeL,A4)
def qeg(a:St W (q41 b B::F) w):qb Zp 357 #[qc b,Zs name,Zi Zk now] w λv w'=>v=Zt #[Zg (leV (q06 B name now).1).toArray,Zb (q06 B name now).2]/\St W (q41 b B::F) w':=by
 obtain⟨m,f,a⟩:=q41.open_ a;unfold q06;refine F357_of (zh a λg w a=>?_);have a:St W (Row b 168 (bkV B m)::qr Zs m qu B.L::Row g 55 (leV zeL)::F) w:=zf 0 2 a yR;refine(q0g a).of λv w h=>?_;rcases h with ⟨c,e,a⟩|⟨d,q,c,e,a⟩
 .rw[c];refine⟨_,_,e,zm yR ?_⟩;refine St1.zz 2 a yR λw a=>St1.zz 2 a yR λw a=>St1.zz 2 a yR λw a=>St1.zz 2 a yR λw a=>St1.zz 2 a yR λw a=>St1.zz 2 a yR λw a=>?_;exact zg 2 a yR yR (zg 2 a yR yR (z8 2 a yR yR (z8 2 a yR yR (z8 2 a yR yR (zx 2 a yR yR (⟨rfl,q41.shut m f (zl 3 [0,1] a yR)⟩))))))
 .rw[c];dsimp only;refine⟨_,_,e,za (λh=>?_) λh=>?_⟩
  .rw[yA (by simpa using h)];refine St1.zz 3 a yR λw a=>St1.zz 3 a yR λw a=>St1.zz 3 a yR λw a=>St1.zz 3 a yR λw a=>St1.zz 3 a yR λw a=>St1.zz 3 a yR λw a=>?_;exact zg 3 a yR yR (zg 3 a yR yR (z8 3 a yR yR (z8 3 a yR yR (z8 3 a yR yR (zx 3 a yR yR (⟨rfl,q41.back f c (zl 4 [0,1,2] a yR)⟩))))))
  .rw[yB (by simpa using h)];refine z7 ?_;have a:St W (Row q 55 (leV d)::qw Zs m qu B.L name q::Row b 168 (bkV B m)::Row g 55 (leV zeL)::F) w:=a;refine zg 0 a yR yR (zg 0 a yR yR (z8 0 a yR yR (z8 0 a yR yR (z8 0 a yR yR (zx 0 a yR yR (?_))))));refine St1.zz 3 a yR λw a=>St1.zz 3 a yR λw a=>St1.zz 3 a yR λw a=>St1.zz 3 a yR λw a=>St1.zz 3 a yR λw a=>St1.zz 3 a yR λw a=>?_;exact zg 3 a yR yR (zg 3 a yR yR (z8 3 a yR yR (z8 3 a yR yR (z8 3 a yR yR (zx 3 a yR yR (⟨rfl,q41.back f c (zl 4 [0,1,2] a yR)⟩))))))
def qlb(B:qi3)(name:ByteArray)(now:Int):qi3×LeD×Bool:=match qe B.L name with
 |none=>(B,zeL,A4)
 |some d=>if qv4 B.grace d now=2 then if q79 now=A6 then({ B with L:=qp B.L name},d,A6)else(B,zeL,A4)else(B,zeL,A4)
def qqn{κ ν:Type}[DecidableEq κ](L:List (κ×ν))(k:κ):(qp L k).length<=L.length:=(q2a L k).length_le
def q9r(a:St W (q41 b B::F) w):qb Zp 131 #[qc b,Zs name,Zi Zk now] w λv w'=>v=Zt #[Zg (leV (qlb B name now).2.1).toArray,Zb (qlb B name now).2.2]/\St W (q41 b (qlb B name now).1::F) w':=by
 obtain⟨m,f,a⟩:=q41.open_ a;unfold qlb;refine F131_of (zh a λi w a=>?_);have a:St W (Row b 168 (bkV B m)::qr Zs m qu B.L::Row i 55 (leV zeL)::F) w:=zf 0 2 a yR;refine(q0g a).of λv w h=>?_;rcases h with ⟨c,e,a⟩|⟨d,q,c,e,a⟩
 .rw[c];refine⟨_,_,e,zm yR ?_⟩;refine St1.zz 2 a yR λw a=>St1.zz 2 a yR λw a=>St1.zz 2 a yR λw a=>St1.zz 2 a yR λw a=>St1.zz 2 a yR λw a=>St1.zz 2 a yR λw a=>?_;exact zg 2 a yR yR (zg 2 a yR yR (z8 2 a yR yR (z8 2 a yR yR (z8 2 a yR yR (zx 2 a yR yR (⟨rfl,q41.shut m f (zl 3 [0,1] a yR)⟩))))))
 .rw[c];dsimp only;refine⟨_,_,e,za (λh=>?_) λh=>?_⟩
  .rw[yA (by simpa using h)];refine St1.zz 3 a yR λw a=>St1.zz 3 a yR λw a=>St1.zz 3 a yR λw a=>St1.zz 3 a yR λw a=>St1.zz 3 a yR λw a=>St1.zz 3 a yR λw a=>?_;exact zg 3 a yR yR (zg 3 a yR yR (z8 3 a yR yR (z8 3 a yR yR (z8 3 a yR yR (zx 3 a yR yR (⟨rfl,q41.back f c (zl 4 [0,1,2] a yR)⟩))))))
  rw[yB (by simpa using h)];refine(q57 now a).of λv w ⟨e,a⟩=>⟨_,e,za (λg=>?_) λg=>?_⟩
  .rw[yA (by simpa using g)];refine St1.zz 3 a yR λw a=>St1.zz 3 a yR λw a=>St1.zz 3 a yR λw a=>St1.zz 3 a yR λw a=>St1.zz 3 a yR λw a=>St1.zz 3 a yR λw a=>?_;exact zg 3 a yR yR (zg 3 a yR yR (z8 3 a yR yR (z8 3 a yR yR (z8 3 a yR yR (zx 3 a yR yR (⟨rfl,q41.back f c (zl 4 [0,1,2] a yR)⟩))))))
  .rw[yB (by simpa using g)];have a:St W (Row q 55 (leV d)::qw Zs m qu B.L name q::Row b 168 (bkV B m)::Row i 55 (leV zeL)::F) w:=a;refine z7 (zv 2 a yR yR (qw.del_i kS uMl 1 a yR λw a=>z7 ?_));refine zg 0 a yR yR (zg 0 a yR yR (z8 0 a yR yR (z8 0 a yR yR (z8 0 a yR yR (zx 0 a yR yR (?_))))));refine St1.zz 3 a yR λw a=>St1.zz 3 a yR λw a=>St1.zz 3 a yR λw a=>St1.zz 3 a yR λw a=>St1.zz 3 a yR λw a=>St1.zz 3 a yR λw a=>?_;exact zg 3 a yR yR (zg 3 a yR yR (z8 3 a yR yR (z8 3 a yR yR (z8 3 a yR yR (zx 3 a yR yR (⟨rfl,q41.shut (B:={ B with L:=qp B.L name}) m (Bp (qqn _ _) f) (zl 4 [2,1] a yR)⟩))))))
end
def z0v:=@q41.shut
def z13:=@q41.open_
def z1g:=@q41.back
end
namespace Ri
def uB:Zp.underlying 22=A1 (.slice 5):=Tryz.underlying22
def iU8:Zp.info? 5=A1 Tryz.t5:=by kernel_rfl
def sU8:Tryz.t5.size=1:=rfl
def w64{n:Int}(w: -9223372036854775808<=n:=by omega)(h:n<=9223372036854775807:=by omega):Zw Zk n=n:=IntWalk.i64_in _ ⟨w,h⟩
def ringRow(q m at_ many:Nat):List A5:=[.slice (A1 ⟨q,0,A2⟩) m m,Zi Zk at_,Zi Zk many]
def parts_spec{W w:A3}{F:List Asn}{e q m f g:Nat}(a n:Int)(A N:Nat)(j:a=A)(k:n=N)(d:St W (Row e 382 (ringRow q m f g)::F) w)(l:0<m)(i:m<=65536)(x:A<=1000000)(u:N<=m):
 qb Zp 272 #[Zq (A1 ⟨e,0,A2⟩),Zi Zk a,Zi Zk n] w λv w'=>
  v=Zt #[.slice (A1 ⟨q,A%m,A2⟩) (min N (m - A%m)) (m - A%m),.slice (A1 ⟨q,0,A2⟩) (N - min N (m - A%m)) m]/\St W (Row e 382 (ringRow q m f g)::F) w':=by
 subst j;subst k;refine F272_of ?_;have p:A%m<m:=Ch _ l;have c:Int.tmod (A:Int) (m:Int)=((A%m:Nat):Int):=by rw[Int.tmod_eq_emod_of_nonneg (by omega)];omega
 refine z7 (LdL.i d yR ?_);refine za (λh=>by simp at h;omega) λ_=>?_;refine z7 (LdL.i d yR ⟨by omega,z7 (LdL.i d yR ⟨StC W _,zd d,z7 (z7 ?_)⟩)⟩);rw[c];have o:Zw Zk ((m:Int) -((A%m:Nat):Int))=((m - A%m:Nat):Int):=by rw[w64];omega
 rw[o];have r:(if((m - A%m:Nat):Int)<(N:Int)then((m - A%m:Nat):Int)else(N:Int))=((min N (m - A%m):Nat):Int):=by split<;>omega
 rw[r];have t:Zw Zk (((A%m:Nat):Int)+((min N (m - A%m):Nat):Int))=((A%m+min N (m - A%m):Nat):Int):=by rw[w64];omega
 have s:Zw Zk ((N:Int) -((min N (m - A%m):Nat):Int))=((N - min N (m - A%m):Nat):Int):=by rw[w64];omega
 rw[t,s];refine⟨_,_,_,λG w1 b=>LdL.i b yR ⟨rfl,b⟩,⟨by omega,?_⟩⟩;refine⟨_,_,_,λG w1 b=>LdL.i b yR ⟨rfl,b⟩,⟨by omega,?_⟩⟩;intro G w1 b;refine⟨?_,zb b⟩;rw[yA (by omega),yA (by omega)];simp only[C4,qi1,Af,Aa,Int.toNat_zero,Nat.zero_mul];congr 3;.rw[Am,C1]
def RingA(h m:Nat)(bs:List UInt8):Asn:=exA λx:Nat×Nat×List UInt8=>qz [
 prA (x.2.2.length=m/\m<=65536/\bs.length<=m/\(x.2.1<m\/m=0/\x.2.1=0)/\∀i,i<bs.length->x.2.2[(x.2.1+i)%m]?=bs[i]?),
 Row h 382 (ringRow x.1 m x.2.1 bs.length),Row x.1 5 (x.2.2.map qd)]
def RingA.open_{W w:A3}{F:List Asn}{a m:Nat}{bs:List UInt8}(h:St W (RingA a m bs::F) w):
 ∃(q at_:Nat) (row:List UInt8),row.length=m/\m<=65536/\bs.length<=m/\(at_<m\/m=0/\at_=0)/\(∀i,i<bs.length->row[(at_+i)%m]?=bs[i]?)/\St W (Row a 382 (ringRow q m at_ bs.length)::Row q 5 (row.map qd)::F) w:=by
 obtain⟨⟨q,at_,row⟩,h⟩:=h.of_ex;obtain⟨⟨f,b,d,e,c⟩,h⟩:=h.of_sep.of_pr;exact⟨q,at_,row,f,b,d,e,c,h⟩
def RingA.shut{W w:A3}{F:List Asn}{a m q at_ k:Nat}{bs row:List UInt8}(f:k=bs.length)(g:row.length=m)(b:m<=65536)(d:bs.length<=m)(e:at_<m\/m=0/\at_=0)(c:∀i,i<bs.length->row[(at_+i)%m]?=bs[i]?)
 (h:St W (Row a 382 (ringRow q m at_ k)::Row q 5 (row.map qd)::F) w):St W (RingA a m bs::F) w:=by
 subst f;exact z00 (q,at_,row) (zj (l:=[_,_,_]) (z01 ⟨g,b,d,e,c⟩ h))
def RingA.le{W w:A3}{F:List Asn}{a m:Nat}{bs:List UInt8}(h:St W (RingA a m bs::F) w):bs.length<=m/\m<=65536:=by obtain⟨_,_,_,_,b,c,_⟩:=RingA.open_ h;exact⟨c,b⟩
def Many_spec{W w:A3}{F:List Asn}{a m:Nat}{bs:List UInt8}(h:St W (RingA a m bs::F) w):
 qb Zp 214 #[Zq (A1 ⟨a,0,A2⟩)] w λv w'=>v=Zi Zk bs.length/\St W (RingA a m bs::F) w':=by
 obtain⟨q,at_,row,f,b,d,e,c,h⟩:=RingA.open_ h;refine F214_of (z7 (LdI.i h yR ⟨rfl,RingA.shut yR f b d e c h⟩))
def Room_spec{W w:A3}{F:List Asn}{a m:Nat}{bs:List UInt8}(b:St W (RingA a m bs::F) w):
 qb Zp 212 #[Zq (A1 ⟨a,0,A2⟩)] w λv w'=>v=Zi Zk ((m - bs.length:Nat):Int)/\St W (RingA a m bs::F) w':=by
 obtain⟨q,at_,row,h,c,e,f,d,b⟩:=RingA.open_ b;refine F212_of ⟨StC W _,zd b,z7 (z7 ⟨_,_,_,λG w1 h=>LdL.i h yR ⟨rfl,h⟩,_,λG w1 h=>LdI.i h yR ⟨rfl,h⟩,λG w1 g=>⟨?_,RingA.shut yR h c e f d (zb g)⟩⟩)⟩;rw[w64];congr 1;omega
def parts_zero{W w:A3}{F:List Asn}{b q e c:Nat}(a n:Int)(d:St W (Row b 382 (ringRow q 0 e c)::F) w):
 qb Zp 272 #[Zq (A1 ⟨b,0,A2⟩),Zi Zk a,Zi Zk n] w λv w'=>v=Zt #[Zl A2 0 0,Zl A2 0 0]/\St W (Row b 382 (ringRow q 0 e c)::F) w':=by
 refine F272_of (z7 (LdL.i d yR (za (λ_=>⟨rfl,d⟩) λh=>by simp at h)))
def clamp_eq(most:Int):(if 65536<(if 0>most then 0 else most)then 65536 else(if 0>most then 0 else most))=((min most.toNat 65536:Nat):Int):=by split<;>split at*<;>omega
def New_spec{W w:A3}{F:List Asn}(most:Int)(c:St W F w):
 qb Zp 185 #[Zi Zk most] w λv w'=>∃a,v=Zq (A1 ⟨a,0,A2⟩)/\St W (RingA a (min most.toNat 65536) []::F) w':=by
 refine F185_of ?_;rw[clamp_eq];refine MkS.i c (by omega) (Ct _) (by omega) (by omega) λb w1 e=>zh e λd f h=>⟨d,rfl,?_⟩;refine RingA.shut (q:=b) (at_:=0) (k:=0) (row:=Ax (min most.toNat 65536) 0) yR (by simp) (by omega) (by simp) (by omega) (by simp) ?_;simp only[Af]at h;simpa [ringRow,qd]using h
def mod2{x m:Nat}(h:x<2*m):x%m=if x<m then x else x - m:=by
 split;.exact C2 ‹_›
 .rw[Nat.mod_eq_sub_mod (by omega),C2 (by omega)]
def mod2'{x m:Nat}(h:x<2*m):x%m=x/\x<m\/x%m=x - m/\m<=x:=by rw[mod2 h];split<;>omega
def map_get{l:List UInt8}{i:Nat}{v:A5}(h:(l.map qd)[i]?=A1 v):∃x,l[i]?=A1 x/\v=qd x:=by
 rw[A9]at h;cases hx:l[i]? with
 |none=>simp[hx]at h
 |some x=>simp[hx]at h;exact⟨x,rfl,h.symm⟩
def first_bytes{m at_ N:Nat}{bs row:List UInt8}(g:row.length=m)(f:bs.length<=m)(e:0<m)(w:at_<m)(b:∀i,i<bs.length->row[(at_+i)%m]?=bs[i]?)(d:N<=bs.length):
 (row.drop (at_%m)).take (min N (m - at_%m))++row.take (N - min N (m - at_%m))=bs.take N:=by
 rw[C2 w];refine Bu λi=>?_;have c:((row.drop at_).take (min N (m - at_))).length=min N (m - at_):=by simp;omega
 rcases Cm i N with a|a
 .rw[Ag a,<-b i (by omega),mod2 (by omega)];rcases Cm i (min N (m - at_))with h|h;.rw[Ad (by omega),Ag h,Ai,yB (by omega)]
  .rw[Aq (by omega),c,Ag (by omega),yA (by omega)];congr 1;omega
 .rw[Bg (by simp;omega),Bg (by simp;omega)]
def one_piece{N:Nat}{z:A5}{X:List A5}(h:X.length=N):qm1 (Ax N z) 0 X=X:=by unfold qm1;rw[Cd,Cv,Be (by simp;omega),C7]
def two_pieces{N k:Nat}{z:A5}{X Y:List A5}(h:X.length=k)(w:k+Y.length=N):qm1 (qm1 (Ax N z) 0 X) k Y=X++Y:=by
 have e:qm1 (Ax N z) 0 X=X++Ax (N - k) z:=by unfold qm1;rw[Cd,Cv,List.drop_replicate,Am,h]
 rw[e];unfold qm1;rw[Ay (by omega),A8 (by omega),Be (by simp;omega),C7]
def first_spec{W w:A3}{F:List Asn}{o m:Nat}{bs:List UInt8}(n:Int)(N:Nat)(D:n=N)(A:N<=bs.length)(h:St W (RingA o m bs::F) w):
 qb Zp 280 #[Zq (A1 ⟨o,0,A2⟩),Zi Zk n] w λv w'=>∃b,v=.slice (A1 ⟨b,0,A2⟩) N N/\St W (Row b 5 ((bs.take N).map qd)::RingA o m bs::F) w':=by
 subst D;obtain⟨q,at_,row,k,l,g,r,d,h⟩:=RingA.open_ h;refine F280_of (z7 (LdI.i h yR ?_));rcases Ci m with c|c
 ·
  subst c;have y:N=0:=by omega
  subst y;refine(parts_zero _ _ h).of λv w1 ⟨t,h⟩=>⟨_,_,_,_,_,_,t,?_⟩;refine MkS.i h (by omega) (Ct _) (by omega) (by omega) λb G s=>?_;refine q6a uB iU8 sU8 (by omega) ⟨_,rfl,?_⟩;refine⟨by omega,?_⟩;refine q6a uB iU8 sU8 (by omega) ⟨_,rfl,?_⟩;exact⟨b,rfl,(RingA.shut yR k l g r d (z0w [_,_] s)).p1⟩
 .have f:at_<m:=by omega
  refine(parts_spec _ _ at_ N yR yR h c l (by omega) (by omega)).of λv w1 ⟨t,h⟩=>⟨_,_,_,_,_,_,t,?_⟩;refine MkS.i h (by omega) (Ct _) (by omega) (by omega) λb G h=>?_;simp only[Af]at h⊢;have I:at_%m<m:=Ch _ c;have E:((row.drop (at_%m)).take (min N (m - at_%m))).length=min N (m - at_%m):=by simp;omega
  have L:(row.take (N - min N (m - at_%m))).length=N - min N (m - at_%m):=by simp;omega
  refine q0a (cs:=((row.drop (at_%m)).take (min N (m - at_%m))).map qd) uB iU8 sU8 h (by simp) (λj v z=>(z0t (at_%m) λi u p=>?_).of h.p2 z) (by rw[Ac,E];omega) q82 λK h=>?_
  .obtain⟨x,a,rfl⟩:=map_get p;rw[Ah]at a;split at a;.rw[Ai]at a;simp[a]
   .cases a
  rw[B0 (show min N (m - at_%m)<=N by omega)];refine⟨_,rfl,⟨by omega,?_⟩⟩;have C:(if N=min N (m - at_%m)then(A1 ⟨b,0,A2⟩:Option B5)else(A1 ⟨b,0,A2⟩:Option B5).map (·.add (min N (m - at_%m)*1)))=if N=min N (m - at_%m)then A1 ⟨b,0,A2⟩else A1 ⟨b,min N (m - at_%m),A2⟩:=by simp[qi1]
  simp only[Af];rw[C];by_cases B:N=min N (m - at_%m)
  ·
   rw[yB B];refine q6a uB iU8 sU8 (by omega) ⟨_,rfl,b,rfl,?_⟩;have e:qm1 (Ax N (Zi .u8 0)) 0 (((row.drop (at_%m)).take (min N (m - at_%m))).map qd)=(bs.take N).map qd:=by
    rw[one_piece (by simp;omega),<-first_bytes k g c f d A];have H:N - min N (m - at_%m)=0:=by omega
    rw[H];simp
   rw[e]at h;exact(RingA.shut yR k l g r d (z0w [_,_] h)).p1
  .rw[yA B];refine q0a (cs:=(row.take (N - min N (m - at_%m))).map qd) uB iU8 sU8 h (by simp[qm1];omega) (λj v z=>(z0t 0 λi u p=>?_).of h.p2 z) (by simp;omega) q82 λJ h=>⟨_,rfl,b,rfl,?_⟩
   .obtain⟨x,a,rfl⟩:=map_get p;rw[Ah]at a;split at a;.simp[a]
    .cases a
   have e:qm1 (qm1 (Ax N (Zi .u8 0)) 0 (((row.drop (at_%m)).take (min N (m - at_%m))).map qd)) (min N (m - at_%m)) ((row.take (N - min N (m - at_%m))).map qd)=(bs.take N).map qd:=by rw[two_pieces (by simp;omega) (by simp;omega),<-first_bytes k g c f d A,Bo]
   rw[e]at h;exact(RingA.shut yR k l g r d (z0w [_,_] h)).p1
def Look_spec{W w:A3}{F:List Asn}{c m:Nat}{bs:List UInt8}(d:St W (RingA c m bs::F) w):
 qb Zp 273 #[Zq (A1 ⟨c,0,A2⟩)] w λv w'=>∃b,v=.slice (A1 ⟨b,0,A2⟩) bs.length bs.length/\St W (Row b 5 (bs.map qd)::RingA c m bs::F) w':=by
 obtain⟨q,at_,row,k,f,i,j,g,a⟩:=RingA.open_ d;refine F273_of (z7 (LdI.i a yR ?_));refine(first_spec _ bs.length yR (Ao _) d).of λv w1 ⟨b,e,h⟩=>⟨_,_,_,e,b,rfl,?_⟩;rwa[Ap]at h
def Take_spec{W w:A3}{F:List Asn}{j m:Nat}{bs:List UInt8}(n:Int)(a:St W (RingA j m bs::F) w):
 qb Zp 210 #[Zq (A1 ⟨j,0,A2⟩),Zi Zk n] w λv w'=>∃b,v=.slice (A1 ⟨b,0,A2⟩) (bs.take n.toNat).length (bs.take n.toNat).length/\St W (Row b 5 ((bs.take n.toNat).map qd)::RingA j m (bs.drop n.toNat)::F) w':=by
 obtain⟨q,at_,row,s,u,B,c,o,l⟩:=RingA.open_ a;refine F210_of (z7 (LdI.i l yR ?_));have e:(if(bs.length:Int)<(if 0>n then 0 else n)then(bs.length:Int)else(if 0>n then 0 else n))=((min bs.length n.toNat:Nat):Int):=by split<;>split at*<;>omega
 rw[e];have y:bs.take (min bs.length n.toNat)=bs.take n.toNat:=by
  rcases Co bs.length n.toNat with h|h;.rw[B0 h,Ap,A8 h]
  .rw[Bj h]
 have x:bs.drop (min bs.length n.toNat)=bs.drop n.toNat:=by
  rcases Co bs.length n.toNat with h|h;.rw[B0 h,List.drop_length,Be h]
  .rw[Bj h]
 have z:(bs.take n.toNat).length=min bs.length n.toNat:=by simp;omega
 have A:min bs.length n.toNat<=bs.length:=Cw _ _;generalize min bs.length n.toNat=k at y x z A⊢;rw[z,<-y,<-x];refine(first_spec _ k yR A a).of λv w1 ⟨b,C,a⟩=>⟨_,_,_,C,z7 ?_⟩;obtain⟨q,at_,row,s,u,B,c,o,a⟩:=RingA.open_ a.p1;refine LdI.i a yR (z7 (St1.i a (by simp[ringRow]) λI a=>?_));rw[w64]at a;refine z7 (LdI.i a yR (z7 (St1.i a (by simp[ringRow]) λJ a=>?_)));rw[w64]at a;refine⟨StC W _,zd a,z7 (z7 ⟨_,λG g c=>LdI.i c yR ⟨rfl,c⟩,_,_,_,λG g c=>LdL.i c yR ⟨rfl,c⟩,λG g a=>?_⟩)⟩;have a:=zb a;refine za (λd=>?_) λf=>?_
 .have d:(m:Int)<=(at_:Int)+(k:Int):=by simpa using d
  refine⟨StC W _,zd a,z7 (z7 ⟨_,λG g c=>LdI.i c yR ⟨rfl,c⟩,_,_,_,λG g c=>LdL.i c yR ⟨rfl,c⟩,z7 ⟨Unit,(),λ_=>Zt #[],λ_=>StC W (Row j 382 [.slice (A1 ⟨q,0,A2⟩) m m,Zi Zk (Zw Zk ((at_:Int)+(k:Int) -(m:Int))),Zi Zk ((bs.length:Int) -(k:Int))]::Row q 5 (row.map qd)::Row b 5 ((bs.take k).map qd)::F),λG D a=>St1.i a (by simp[ringRow]) λH a=>⟨(),rfl,a⟩,λ_=>⟨rfl,trivial,λG E a=>?_⟩⟩⟩)⟩;rw[w64]at a;have a:=zb a;refine⟨b,rfl,(RingA.shut (q:=q) (at_:=at_+k - m) (k:=bs.length - k) (by simp) s u (by simp;omega) (by omega) ?_ (by
   have p:((bs.length - k:Nat):Int)=(bs.length:Int) -(k:Int):=by omega
   have r:((at_+k - m:Nat):Int)=(at_:Int)+(k:Int) -(m:Int):=by omega
   simpa only[ringRow,Bq,Br,p,r]using a)).p1⟩
  intro i t;simp only[Aj]at t;rw[Ai,<-o (k+i) (by omega)];congr 1;rw[show at_+(k+i)=at_+k - m+i+m by omega,Nat.add_mod_right]
 .have f:(at_:Int)+(k:Int)<(m:Int):=by simpa using f
  refine⟨b,rfl,(RingA.shut (q:=q) (at_:=at_+k) (k:=bs.length - k) (by simp) s u (by simp;omega) (by omega) ?_ (by
   have p:((bs.length - k:Nat):Int)=(bs.length:Int) -(k:Int):=by omega
   have r:((at_+k:Nat):Int)=(at_:Int)+(k:Int):=by omega
   simpa only[ringRow,Bq,Br,p,r]using a)).p1⟩
  intro i t;simp only[Aj]at t;rw[Ai,<-o (k+i) (by omega)];congr 1;rw[show at_+(k+i)=at_+k+i by omega]
def add_bytes{m at_ N:Nat}{bs xs row:List UInt8}(s:row.length=m)(k:0<m)(l:at_<m)(g:∀i,i<bs.length->row[(at_+i)%m]?=bs[i]?)(p:N<=m - bs.length)(q:N<=xs.length)(r:bs.length<=m):
 ∀i,i<(bs++xs.take N).length->(qm1 (qm1 row ((at_+bs.length)%m) (xs.take (min N (m -(at_+bs.length)%m)))) 0 ((xs.drop (min N (m -(at_+bs.length)%m))).take (N - min N (m -(at_+bs.length)%m))))[(at_+i)%m]?=(bs++xs.take N)[i]?:=by
 intro i n;have o:(at_+bs.length)%m<m:=Ch _ k;have f:(xs.take (min N (m -(at_+bs.length)%m))).length=min N (m -(at_+bs.length)%m):=by simp;omega
 have d:((xs.drop (min N (m -(at_+bs.length)%m))).take (N - min N (m -(at_+bs.length)%m))).length=N - min N (m -(at_+bs.length)%m):=by simp;omega
 have j:i<bs.length+N:=by simp at n;omega
 rw[q0e _ _ _ _ (by rw[q94 _ _ _ (by omega)];omega),q0e _ _ _ _ (by omega),f,d,Cj];have c:=mod2' (x:=at_+i) (m:=m) (by omega);have e:=mod2' (x:=at_+bs.length) (m:=m) (by omega);have a:=g i;generalize (at_+i)%m=X at c a⊢;generalize (at_+bs.length)%m=A at e o f d⊢;have w:min N (m - A)=N/\N<=m - A\/min N (m - A)=m - A/\m - A<=N:=by omega
 generalize min N (m - A)=M at w f d⊢;rcases Cm i bs.length with b|b;.rw[Ad b,yA (by omega),yA (by omega),a b]
 .rw[Aq b,Ag (show i - bs.length<N by omega)];by_cases h:0<=X/\X<0+(N - M)
  .rw[yB h,Ag (show X<N - M by omega),Ai];congr 1;omega
  .rw[yA h,yB (by omega),Ag (show X - A<M by omega)];congr 1;omega
def cut_get{xs:List UInt8}{k j:Nat}{v:A5}(h:((xs.take k).map qd)[j]?=A1 v):(xs.map qd)[j]?=A1 v:=by
 rw[Bz,Ah]at h;split at h;.exact h
 .cases h
def cut_get2{xs:List UInt8}{k m j:Nat}{v:A5}(h:((xs.take k).map qd)[j]?=A1 v)(w:k<=m):((xs.take m).map qd)[j]?=A1 v:=by
 rw[Bz,Ah]at h⊢;split at h;.rw[yB (by omega)];exact h
 .cases h
def Room_raw{W w:A3}{F:List Asn}{a q m A B:Nat}(d:m<=65536)(e:B<=m)(b:St W (Row a 382 (ringRow q m A B)::F) w):
 qb Zp 212 #[Zq (A1 ⟨a,0,A2⟩)] w λv w'=>v=Zi Zk ((m - B:Nat):Int)/\St W (Row a 382 (ringRow q m A B)::F) w':=by
 refine F212_of ⟨StC W _,zd b,z7 (z7 ⟨_,_,_,λG w1 h=>LdL.i h yR ⟨rfl,h⟩,_,λG w1 h=>LdI.i h yR ⟨rfl,h⟩,λG w1 c=>⟨?_,zb c⟩⟩)⟩;rw[w64];congr 1;omega
def Add_spec{W w:A3}{F:List Asn}{g m c:Nat}{bs xs:List UInt8}{p:Option B5}(E:Rd F p (xs.map qd))(L:xs.length<=c)(d:St W (RingA g m bs::F) w):
 qb Zp 190 #[Zq (A1 ⟨g,0,A2⟩),Zl p xs.length c] w λv w'=>v=Zi Zk (min xs.length (m - bs.length):Nat)/\St W (RingA g m (bs++xs.take (m - bs.length))::F) w':=by
 obtain⟨q,at_,row,y,s,x,f,r,t⟩:=RingA.open_ d;have Z:bs++xs.take (m - bs.length)=bs++xs.take (min xs.length (m - bs.length)):=by
  rcases Co xs.length (m - bs.length)with h|h;.rw[B0 h,Ap,A8 h]
  .rw[Bj h]
 rw[Z];refine F190_of ⟨StC W _,zd t,z7 (z7 ⟨(at_:Int),λG H f=>LdI.i f yR ⟨rfl,f⟩,(bs.length:Int),λG H f=>LdI.i f yR ⟨rfl,f⟩,((m - bs.length:Nat):Int),λG H e=>?_,?_⟩)⟩;.exact(Room_raw s x e).of λv J ⟨o,r⟩=>⟨_,o,rfl,r⟩
 have U:(if((m - bs.length:Nat):Int)<(xs.length:Int)then((m - bs.length:Nat):Int)else(xs.length:Int))=((min xs.length (m - bs.length):Nat):Int):=by split<;>omega
 rw[U,w64];have I:min xs.length (m - bs.length)<=m - bs.length:=Nat.min_le_right _ _;have M:min xs.length (m - bs.length)<=xs.length:=Cw _ _;generalize min xs.length (m - bs.length)=N at I M;have X:((at_:Int)+(bs.length:Int))=((at_+bs.length:Nat):Int):=by omega
 rw[X];rcases Ci m with i|i
 ·
  subst i;have B:N=0:=by omega
  subst B;refine⟨Unit,(),λ_=>Zt #[Zl A2 0 0,Zl A2 0 0],λ_=>StC W (Row g 382 (ringRow q 0 at_ bs.length)::Row q 5 (row.map qd)::F),λG J e=>?_,λ_=>⟨_,_,_,_,_,_,rfl,trivial,λG T e=>?_⟩⟩;.refine(parts_zero _ _ e).of λv V ⟨o,z⟩=>⟨_,_,_,_,_,_,o,(),rfl,z⟩
  have d:=zb e;refine q6a uB iU8 sU8 (by omega) ⟨_,rfl,?_⟩;refine SlP.i (a:=0) (b:=xs.length) E (by simp) L yR yR (by omega) (by omega) λp' _=>?_;refine q6a uB iU8 sU8 (by omega) ⟨_,rfl,?_⟩;refine z7 (LdI.i d yR (z7 (St1.i d (by simp[ringRow]) λY d=>?_)));rw[w64 (n:=((0:Nat):Int)+((0:Nat):Int)) (by omega) (by omega)]at d⊢;refine⟨rfl,?_⟩;rw[Cd,C7];rw[w64]at d;refine RingA.shut (q:=q) yR y s x f r ?_;simpa [ringRow]using d
 .have u:at_<m:=by omega
  have D:(at_+bs.length)%m<m:=Ch _ i;have K:=add_bytes y i u r I M x;refine⟨Unit,(),λ_=>Zt #[.slice (A1 ⟨q,(at_+bs.length)%m,A2⟩) (min N (m -(at_+bs.length)%m)) (m -(at_+bs.length)%m),.slice (A1 ⟨q,0,A2⟩) (N - min N (m -(at_+bs.length)%m)) m],λ_=>StC W (Row g 382 (ringRow q m at_ bs.length)::Row q 5 (row.map qd)::F),λG J e=>?_,λ_=>⟨_,_,_,_,_,_,rfl,trivial,λG T e=>?_⟩⟩;.refine(parts_spec _ _ (at_+bs.length) N yR yR e i s (by omega) (by omega)).of λv V ⟨o,z⟩=>⟨_,_,_,_,_,_,o,(),rfl,z⟩
  have d:=(zb e).p1;generalize hA':(at_+bs.length)%m=A at D K d⊢;have R:(xs.take (min N (m - A))).length=min N (m - A):=by simp;omega
  have l2:((xs.drop (min N (m - A))).take (N - min N (m - A))).length=N - min N (m - A):=by simp;omega
  refine q0a (cs:=(xs.take (min N (m - A))).map qd) uB iU8 sU8 d (by simp;omega) (λj v C=>((E.cons _).cons _).of d (cut_get C)) (by rw[Ac,R];omega) q82 λY d=>⟨_,rfl,?_⟩;rw[Bj (show min N (m - A)<=xs.length by omega),qya]at*;refine SlP.i (a:=min N (m - A)) (b:=xs.length) E (by simp) L yR yR (by omega) (by omega) λp' l=>?_;rw[Aa,Aa,<-By,<-Bz]at l;refine q0a (cs:=((xs.drop (min N (m - A))).take (N - min N (m - A))).map qd) uB iU8 sU8 d (by simp[q94 _ _ _ (show A+(xs.take (min N (m - A))).length<=row.length by omega)];omega) (λj v C=>((l.cons _).cons _).of d (cut_get2 C (by omega))) (by rw[Ac,l2];omega) q82 λw9 d=>⟨_,rfl,?_⟩;rw[qya]at d;have P:(((min N (m - A):Nat):Int)+((min (xs.length - min N (m - A)) (N - min N (m - A)):Nat):Int))=(N:Int):=by omega
  refine z7 (LdI.i d.p1 yR (z7 (St1.i d.p1 (by simp[ringRow]) λO d=>?_)));rw[P,w64 (n:=(N:Int)) (by omega) (by omega)]at d⊢;rw[w64]at d;refine⟨rfl,?_⟩;refine RingA.shut (q:=q) (at_:=at_) (k:=bs.length+N) (by simp;omega) ?_ s (by simp;omega) f K ?_;.rw[q94 _ _ _ (by rw[q94 _ _ _ (by omega)];omega),q94 _ _ _ (by omega)];exact y
  .have Q:((bs.length+N:Nat):Int)=(bs.length:Int)+(N:Int):=by omega
   simpa only[ringRow,Bq,Br,Q]using d
end Ri
namespace Fr
def firstP:List UInt8->List UInt8×Nat×Int
 |[]=>([],0,0)
 |a::r=>if a.toNat≠170 then([],0,61)else match r with
  |[]=>([],0,0)
  |b::s=>if b.toNat=0\/b.toNat>200 then([],0,61)else if s.length<b.toNat then([],0,0)else(s.take b.toNat,2+b.toNat,0)
def Fine(x:List UInt8):Prop:=0<x.length/\x.length<=200
instance (x:List UInt8):Decidable (Fine x):=by unfold Fine;infer_instance
def putP(x:List UInt8):List UInt8:=if Fine x then 170::B2 x.length::x else []
def putP_fine{x:List UInt8}(h:Fine x):putP x=170::B2 x.length::x:=by unfold putP;rw[yB h]
def putP_not{x:List UInt8}(h:¬Fine x):putP x=[]:=by unfold putP;rw[yA h]
def ofLen{n:Nat}(h:n<=200):(B2 n).toNat=n:=UInt8.toNat_ofNat_of_lt' (by show n<256;omega)
end Fr
namespace Fr
def w64{n:Int}(w: -9223372036854775808<=n:=by omega)(h:n<=9223372036854775807:=by omega):Zw Zk n=n:=IntWalk.i64_in _ ⟨w,h⟩
def byte_get{bs:List UInt8}{i:Nat}{x:UInt8}(h:bs[i]?=A1 x):(bs.map qd)[i]?=A1 (Zi .u8 x.toNat):=by rw[A9,h];rfl
def Rd.nonePtr{W w:A3}{F:List Asn}{bs:List UInt8}(b:Rd F A2 (bs.map qd))(c:St W F w):bs=[]:=by
 cases bs with
 |nil=>rfl
 |cons x r=>obtain⟨a,h,_⟩:=b.of c (i:=0) (v:=qd x) yR;cases h
def map_get{k:IntKind}{xs:List Int}{i:Nat}{x:Int}(h:xs[i]?=A1 x):(xs.map (Zi k))[i]?=A1 (.int k x):=by rw[A9,h];rfl
def z0l{W w:A3}{l:List Asn}{p:Option B5}{cs:List A5}{n k:Nat}{i:Int}{v:A5}{K:B5->Prop}(c:Rd l p cs)(b:St W l w)(j:i=(k:Int))(e:k<n)(f:cs[k]?=A1 v)
 (g:∀a,w.cell? a=A1 v->K a):IxP p n i 1 K:=by
 have h:cs[k*1]?=A1 v:=by rw[Aa,f]
 refine IxP.i c b j e h λa d=>g _ ?_;exact c.at1 b d h
end Fr
section
namespace Fr
def uB:Zp.underlying 22=A1 (.slice 5):=Tryz.underlying22
def iU8:Zp.info? 5=A1 Tryz.t5:=by kernel_rfl
def sU8:Tryz.t5.size=1:=rfl
def zU8:Tryz.t5.zero=A1 (Zi .u8 0):=rfl
def bU8:Tryz.t5.bytes=1:=rfl
abbrev OwnB(p:Option B5)(c:Nat)(bs:List UInt8):Asn:=qi 5 1 p bs.length c (bs.map qd)
section
variable{W w:World}{F:List Asn}{p:Option Addr}{n c:Nat}{bs:List UInt8}
def append_b{q sp:Option B5}{d m sc:Nat}{xs a:List UInt8}{R:A5->A3->Prop}(g:St W (OwnB q d xs::F) w)(j:Rd F sp (a.map qd))(f:a.length=m)(k:xs.length+a.length<=1000000)
 (i:∀b c w',St W (OwnB b c (xs++a)::F) w'->R (.slice b (xs++a).length c) w'):
 Run Zp (Builtin.append_ #[22,22] 22 #[Zl q xs.length d,Zl sp m sc]) w R:=by
 refine qp8 uB (.inr ⟨_,uB⟩) iU8 sU8 zU8 yR g j (by rw[Ac,f,Aa]) q82 (by rw[bU8];omega) (by omega) λb c w' h=>?_;have e:xs.length+m=(xs++a).length:=by rw[Ba,f]
 rw[e,<-Bo]at h;rw[e];exact i b c w' h
def OwnB.of_new{b:Nat}(h:St W (Row b 5 (bs.map qd)::F) w):St W (OwnB (A1 ⟨b,0,A2⟩) bs.length bs::F) w:=
 qi.whole (by simp) h
def Clone_spec(g:Rd F p (bs.map qd))(j:bs.length=n)(k:n<=1000000)(d:St W F w):
 qb Zp 244 #[Zl p n c] w λv w'=>∃e f,v=.slice e bs.length f/\St W (OwnB e f bs::F) w':=by
 subst j;refine F244_of (za (λh=>?_) λh=>zh d λb w d=>?_)
 .cases p with
  |some a=>cases h
  |none=>have i:=(Rd.nonePtr g) d;subst i;exact⟨A2,0,rfl,z1a _ _ _ d⟩
 .have d:St W (OwnB (A1 ⟨b,0,A2⟩) 0 []::F) w:=OwnB.of_new (bs:=[]) d;exact append_b (xs:=[]) d g yR (by simp only[C6];omega) λe f w' h=>⟨_,_,_,rfl,e,f,rfl,h⟩
def First_spec(A:Rd F p (bs.map qd))(J:bs.length=n)(C:n<=c)(B:n<=1000000)(g:St W F w):
 qb Zp 166 #[Zl p n c] w λv w'=>∃u x,v=Zt #[.slice u (firstP bs).1.length x,Zi Zk (firstP bs).2.1,Zi Zk (firstP bs).2.2]/\St W (OwnB u x (firstP bs).1::F) w':=by
 subst J;have f:∀(e:Int) (w:A3),firstP bs=([],0,e)->St W F w->∃u x,Zt #[Zl A2 0 0,Zi Zk 0,Zi Zk e]=Zt #[.slice u (firstP bs).1.length x,Zi Zk (firstP bs).2.1,Zi Zk (firstP bs).2.2]/\St W (OwnB u x (firstP bs).1::F) w:=λe w h g=>by rw[h];exact⟨A2,0,rfl,z1a _ _ _ g⟩
 refine F166_of (za (λh=>?_) λh=>?_)
 .have h:bs.length=0:=by have:(bs.length:Int)=0:=(by simpa using h);omega
  have z:=Bm h;subst z;exact f 0 w yR g
 cases bs with
 |nil=>simp at h
 |cons a r=>
  refine z0l A g (k:=0) yR (by simp) (byte_get (i:=0) yR) λa3 G=>zq G (za (λm=>?_) λm=>?_)
  .have m:a.toNat≠170:=by have:(a.toNat:Int)≠170:=(by simpa using m);omega
   exact f 61 w (by simp only[firstP];rw[yB m]) g
  have m:¬a.toNat≠170:=by have:(a.toNat:Int)=170:=(by simpa using m);omega
  refine za (λt=>?_) λt=>?_
  .have t:=yC t;rw[Ae]at t;have z:=Bm (l:=r) (by omega);subst z;exact f 0 w (by simp only[firstP];rw[yA m]) g
  have t:=yD t;rw[Ae]at t C B;cases r with
  |nil=>simp at t
  |cons b s=>
   rw[Ae]at t C B;have I:b.toNat<256:=b.toNat_lt;refine z0l A g (k:=1) yR (by simp) (byte_get (i:=1) yR) λa5 D=>zq D ?_;rw[w64 (n:=(b.toNat:Int)) (by omega) (by omega),w64 (n:=2+(b.toNat:Int)) (by omega) (by omega)];refine⟨λvs w=>vs=[Zb (decide (b.toNat=0\/b.toNat>200))]/\St W F w,za (λj=>⟨?_,g⟩) λj=>⟨?_,g⟩,λN w L=>?_⟩
   .have o:(b.toNat:Int)=0:=by simpa using j
    rw[j,yG (.inl (by omega))]
   .have o:¬(b.toNat:Int)=0:=by simpa using j
    congr 2;rw[decide_eq_decide];omega
   obtain⟨M,g⟩:=L;cases M;refine za (λj=>?_) λj=>?_
   .have j:=yC j;exact f 61 w (by simp only[firstP];rw[yA m,yB j]) g
   have j:=yD j;refine za (λo=>?_) λo=>?_
   .have o:=yC o;exact f 0 w (by simp only[firstP];rw[yA m,yA j,yB (by simp only[Ae]at o;omega)]) g
   have o:=yD o;simp only[Ae]at o;have H:firstP (a::b::s)=(s.take b.toNat,2+b.toNat,0):=by simp only[firstP];rw[yA m,yA j,yA (by omega)]
   rw[H];refine SlP.i (a:=2) (b:=2+b.toNat) A (by simp) (by simp only[Ae];omega) yR (by omega) (by omega) (by simp only[Ae];omega) λu y=>?_;have E:List.take ((2+b.toNat - 2)*1) (List.drop (2*1) ((a::b::s).map qd))=(s.take b.toNat).map qd:=by rw[Aa,Aa,C1,Bz];rfl
   rw[E]at y;refine(Clone_spec y (by rw[Aw];omega) (by omega) g).of λv w ⟨q,d,K,g⟩=>⟨_,_,_,K,q,d,?_,g⟩;congr 3
def Put_spec(k:Rd F p (bs.map qd))(l:bs.length=n)(a:St W F w):
 qb Zp 53 #[Zl p n c] w λv w'=>∃f g,v=.slice f (putP bs).length g/\St W (OwnB f g (putP bs)::F) w':=by
 subst l;refine F53_of (za (λh=>?_) λh=>za (λe=>?_) λe=>zh a λb w a=>?_)
 .have h:(bs.length:Int)=0:=by simpa using h
  rw[putP_not (λd=>by have:=d.1;omega)];exact⟨A2,0,rfl,z1a _ _ _ a⟩
 .have e:=yC e;rw[putP_not (λd=>by have:=d.2;omega)];exact⟨A2,0,rfl,z1a _ _ _ a⟩
 .have h:¬(bs.length:Int)=0:=by simpa using h
  have e:=yD e;have d:Fine bs:=⟨by omega,by omega⟩;rw[putP_fine d];have i:Zw .u8 (bs.length:Int)=((B2 bs.length).toNat:Int):=by rw[ofLen d.2];exact IntWalk.u8_in _ ⟨by omega,by omega⟩
  have a:St W (OwnB (A1 ⟨b,0,A2⟩) 2 [170,B2 bs.length]::F) w:=by
   refine OwnB.of_new (bs:=[170,B2 bs.length]) ?_;have j:[170,B2 bs.length].map qd=[Zi .u8 170,Zi .u8 (Zw .u8 (bs.length:Int))]:=by rw[i];rfl
   rw[j];exact a
  exact append_b (xs:=[170,B2 bs.length]) a k yR (by simp only[Ae,C6];omega) λf g w' h=>⟨_,_,_,rfl,f,g,rfl,h⟩
end
end Fr
end
section
namespace Cn
open Go Go.Proofs.YtfjifcfbmhpcaaaGreatDoor
structure CnD where
 addr:Int
 inb:List UInt8
 out:List UInt8
 credit:Int
 ended:Bool
structure CT where
 L:List (Int×CnD)
 last:Int
def connC(d:CnD)(h ro:Nat):List A5:=[Zi .u32 d.addr,qc h,qc ro,Zi Zk d.credit,Zb d.ended]
def ConnA(b:Nat)(d:CnD):Asn:=exA λx:Nat×Nat=>qz [Row b 300 (connC d x.1 x.2),Ri.RingA x.1 512 d.inb,Ri.RingA x.2 1024 d.out]
def TabA(t:Nat)(T:CT):Asn:=exA λm:Nat=>qz [Row t 182 [.map (A1 m),Zi Zk T.last],qr (Zi Zk) m ConnA T.L]
def uMc:Zp.underlying 180=A1 (.map 3 190):=Tryz.underlying180
def iPc:Zp.info? 190=A1 Tryz.t190:=by kernel_rfl
def zPc:Tryz.t190.zero=A1 (Zq A2):=rfl
section
variable{W w:World}{F:List Asn}{t b:Nat}{T:CT}{d:CnD}{id:Int}
def ConnA.open_(h:St W (ConnA b d::F) w):∃a ro,St W (Row b 300 (connC d a ro)::Ri.RingA a 512 d.inb::Ri.RingA ro 1024 d.out::F) w:=by obtain⟨⟨a,ro⟩,h⟩:=h.of_ex;exact⟨a,ro,h.of_sep⟩
def ConnA.shut(a ro:Nat)(h:St W (Row b 300 (connC d a ro)::Ri.RingA a 512 d.inb::Ri.RingA ro 1024 d.out::F) w):St W (ConnA b d::F) w:=z00 (a,ro) (zj (l:=[_,_,_]) h)
def TabA.open_(h:St W (TabA t T::F) w):∃m,St W (Row t 182 [.map (A1 m),Zi Zk T.last]::qr (Zi Zk) m ConnA T.L::F) w:=by obtain⟨m,h⟩:=h.of_ex;exact⟨m,h.of_sep⟩
def TabA.shut(m:Nat)(h:St W (Row t 182 [.map (A1 m),Zi Zk T.last]::qr (Zi Zk) m ConnA T.L::F) w):St W (TabA t T::F) w:=z00 m (zj (l:=[_,_]) h)
def CT.ask{α:Type}(T:CT)(id:Int)(z:α)(r:CnD->α):α:=match qe T.L id with|none=>z|some d=>r d
def CT.upd(T:CT)(id:Int)(g:CnD->CnD):CT:=match qe T.L id with|none=>T|some d=>{ T with L:=qk T.L id (g d)}
def CT.upd_id(T:CT)(id:Int):T.upd id (λd=>d)=T:=by
 unfold CT.upd;split;.rfl
 .rename_i d h;rw[qt1 h]
def New_spec(a:St W F w):qb Zp 42 #[] w λv w'=>∃t,v=qc t/\St W (TabA t ⟨[],0⟩::F) w':=by
 refine F42_of (qs5.n (ν:=Nat) (Zi Zk) qc a λm w a=>zh a λt w a=>⟨t,rfl,TabA.shut m ?_⟩);have h:St W (Row t 182 [.map (A1 m),Zi Zk 0]::(F++[qg (Zi Zk) qc m ([]:List (Int×Nat))])) w:=a;have b:St W (qg (Zi Zk) qc m ([]:List (Int×Nat))::Row t 182 [.map (A1 m),Zi Zk 0]::F) w:=h.perm ((List.perm_append_singleton (qg (Zi Zk) qc m ([]:List (Int×Nat))) (Row t 182 [.map (A1 m),Zi Zk 0]::F)));have c:St W (Row t 182 [.map (A1 m),Zi Zk 0]::qg (Zi Zk) qc m (qx (Prod.fst (α:=Nat) (β:=CnD)) ([]:List (Int×Nat×CnD)))::qz []::F) w:=b.p1 |> λh=>(zf 0 2 (zj (l:=[]) h) yR)
 exact(z19 (A:=ConnA) [] yR (zf 0 2 c yR)).p1
def ofB_spec{ask:A5}(r:CnD->Bool)(g:CnD->CnD)(a:∀(b:Nat) (d:CnD) (e c:Asn) (w:A3) (K:A5->A3->Prop),St W (ConnA b d::e::c::F) w->(∀w',St W (ConnA b (g d)::e::c::F) w'->K (Zb (r d)) w')->q01 Zp 4 ask [qc b] w K)
 (h:St W (TabA t T::F) w):qb Zp 81 #[qc t,Zi Zk id,ask] w λv w'=>v=Zb (T.ask id A4 r)/\St W (TabA t (T.upd id g)::F) w':=by
 obtain⟨m,h⟩:=TabA.open_ h;unfold CT.ask CT.upd;refine F81_of (z7 (zv 0 h yR yR ?_));cases hd:qe T.L id with
 |none=>exact z0y kI uMc iPc zPc 1 h yR hd A6 ⟨_,_,rfl,zn yR ⟨rfl,TabA.shut m h⟩⟩
 |some d=>obtain⟨b,h⟩:=z15 hd h.p1;refine z0g kI uMc iPc zPc 1 h yR A6 ⟨_,_,rfl,zm yR (a b d _ _ _ _ h λw' h=>⟨_,rfl,rfl,TabA.shut m ?_⟩)⟩;exact(z0p h).p1
def ofI_spec{ask:A5}(r:CnD->Int)(g:CnD->CnD)(a:∀(b:Nat) (d:CnD) (e c:Asn) (w:A3) (K:A5->A3->Prop),St W (ConnA b d::e::c::F) w->(∀w',St W (ConnA b (g d)::e::c::F) w'->K (Zi Zk (r d)) w')->q01 Zp 3 ask [qc b] w K)
 (h:St W (TabA t T::F) w):qb Zp 188 #[qc t,Zi Zk id,ask] w λv w'=>v=Zi Zk (T.ask id 0 r)/\St W (TabA t (T.upd id g)::F) w':=by
 obtain⟨m,h⟩:=TabA.open_ h;unfold CT.ask CT.upd;refine F188_of (z7 (zv 0 h yR yR ?_));cases hd:qe T.L id with
 |none=>exact z0y kI uMc iPc zPc 1 h yR hd A6 ⟨_,_,rfl,zn yR ⟨rfl,TabA.shut m h⟩⟩
 |some d=>obtain⟨b,h⟩:=z15 hd h.p1;refine z0g kI uMc iPc zPc 1 h yR A6 ⟨_,_,rfl,zm yR (a b d _ _ _ _ h λw' h=>⟨_,rfl,rfl,TabA.shut m ?_⟩)⟩;exact(z0p h).p1
def ofU_spec{ask:A5}(r:CnD->Int)(g:CnD->CnD)(a:∀(b:Nat) (d:CnD) (e c:Asn) (w:A3) (K:A5->A3->Prop),St W (ConnA b d::e::c::F) w->(∀w',St W (ConnA b (g d)::e::c::F) w'->K (Zi .u32 (r d)) w')->q01 Zp 34 ask [qc b] w K)
 (h:St W (TabA t T::F) w):qb Zp 400 #[qc t,Zi Zk id,ask] w λv w'=>v=Zi .u32 (T.ask id 0 r)/\St W (TabA t (T.upd id g)::F) w':=by
 obtain⟨m,h⟩:=TabA.open_ h;unfold CT.ask CT.upd;refine F400_of (z7 (zv 0 h yR yR ?_));cases hd:qe T.L id with
 |none=>exact z0y kI uMc iPc zPc 1 h yR hd A6 ⟨_,_,rfl,zn yR ⟨rfl,TabA.shut m h⟩⟩
 |some d=>obtain⟨b,h⟩:=z15 hd h.p1;refine z0g kI uMc iPc zPc 1 h yR A6 ⟨_,_,rfl,zm yR (a b d _ _ _ _ h λw' h=>⟨_,rfl,rfl,TabA.shut m ?_⟩)⟩;exact(z0p h).p1
def ofY_spec{ask:A5}(r:CnD->List UInt8)(g:CnD->CnD)(a:∀(b:Nat) (d:CnD) (e f:Asn) (w:A3) (K:A5->A3->Prop),St W (ConnA b d::e::f::F) w->(∀p c w',St W (qi 5 1 p (r d).length c ((r d).map qd)::ConnA b (g d)::e::f::F) w'->K (Zl p (r d).length c) w')->q01 Zp 22 ask [qc b] w K)
 (h:St W (TabA t T::F) w):qb Zp 208 #[qc t,Zi Zk id,ask] w λv w'=>∃p c,v=Zl p (T.ask id [] r).length c/\St W (qi 5 1 p (T.ask id [] r).length c ((T.ask id [] r).map qd)::TabA t (T.upd id g)::F) w':=by
 obtain⟨m,h⟩:=TabA.open_ h;unfold CT.ask CT.upd;refine F208_of (z7 (zv 0 h yR yR ?_));cases hd:qe T.L id with
 |none=>exact z0y kI uMc iPc zPc 1 h yR hd A6 ⟨_,_,rfl,zn yR ⟨A2,0,rfl,z1a _ _ _ (TabA.shut m h)⟩⟩
 |some d=>obtain⟨b,h⟩:=z15 hd h.p1;refine z0g kI uMc iPc zPc 1 h yR A6 ⟨_,_,rfl,zm yR (a b d _ _ _ _ h λp c w' h=>⟨_,_,_,rfl,p,c,rfl,?_⟩)⟩;have j:St W (ConnA b (g d)::qw (Zi Zk) m ConnA T.L id b::qi 5 1 p (r d).length c ((r d).map qd)::Row t 182 [.map (A1 m),Zi Zk T.last]::F) w':=zf 0 2 h yR;have i:=zf 2 0 (z0p j) yR;exact(TabA.shut (T:={ T with L:=qk T.L id (g d)}) m i).p1
end
end Cn
end
section
namespace Cn
open Go Go.Proofs.YtfjifcfbmhpcaaaGreatDoor
def gFeed(xs:List UInt8)(d:CnD):CnD:=if d.ended=A6 then d else { d with inb:=d.inb++xs.take (512 - d.inb.length)}
def rFeed(xs:List UInt8)(d:CnD):Int:=if d.ended=A6 then 0 else((min xs.length (512 - d.inb.length):Nat):Int)
def gRest(n:Int)(d:CnD):CnD:={ d with inb:=d.inb.drop n.toNat}
def rSay(xs:List UInt8)(d:CnD):Bool:=decide (xs.length<=1024 - d.out.length)
def gSay(xs:List UInt8)(d:CnD):CnD:=if xs.length<=1024 - d.out.length then { d with out:=d.out++xs}else d
def rBudget(n:Int)(d:CnD):Bool:=!(decide (n<0)||decide (n>1073741824))
def gBudget(n:Int)(d:CnD):CnD:=if n<0\/n>1073741824 then d else { d with credit:=if(1073741824:Int)<Zw Zk (d.credit+n)then(1073741824:Int)else Zw Zk (d.credit+n)}
def rFlush(d:CnD):List UInt8:=d.out.take d.credit.toNat
def gFlush(d:CnD):CnD:={ d with out:=d.out.drop d.credit.toNat,credit:=Zw Zk (d.credit -((rFlush d).length:Int))}
def gHalf(d:CnD):CnD:={ d with ended:=A6}
section
variable{W w:World}{F:List Asn}{t b:Nat}{T:CT}{d:CnD}{id:Int}
def has_call{K:A5->A3->Prop}(h:K (Zb A6) w):q01 Zp 4 (.func (.func 82) #[] #[]) [qc b] w K:=by have a:qb Zp 82 #[Zq (A1 ⟨b,0,A2⟩)] w K:=F82_of h;exact zw (by kernel_rfl) a
def Has_spec(h:St W (TabA t T::F) w):qb Zp 45 #[qc t,Zi Zk id] w λv w'=>v=Zb (T.ask id A4 λ_=>A6)/\St W (TabA t T::F) w':=by refine F45_of ((ofB_spec (id:=id) (λ_=>A6) (λd=>d) (λb d e f w K h a=>has_call (a w h)) h).of λv w ⟨c,h⟩=>⟨_,c,rfl,by rw[CT.upd_id]at h;exact h⟩)
def Addr_spec(h:St W (TabA t T::F) w):qb Zp 383 #[qc t,Zi Zk id] w λv w'=>v=Zi .u32 (T.ask id 0 λd=>d.addr)/\St W (TabA t T::F) w':=by refine F383_of ((ofU_spec (id:=id) (λd=>d.addr) (λd=>d) (λb d f g w K h a=>?_) h).of λv w ⟨c,h⟩=>⟨_,c,rfl,by rw[CT.upd_id]at h;exact h⟩);obtain⟨e,ro,h⟩:=ConnA.open_ h;exact zw (by kernel_rfl) (F401_of (c1:=A1 ⟨b,0,A2⟩) (z7 (z8 0 h yR yR (a w (ConnA.shut e ro h)))))
def Ended_spec(h:St W (TabA t T::F) w):qb Zp 136 #[qc t,Zi Zk id] w λv w'=>v=Zb (T.ask id A4 λd=>d.ended)/\St W (TabA t T::F) w':=by refine F136_of ((ofB_spec (id:=id) (λd=>d.ended) (λd=>d) (λb d f g w K h a=>?_) h).of λv w ⟨c,h⟩=>⟨_,c,rfl,by rw[CT.upd_id]at h;exact h⟩);obtain⟨e,ro,h⟩:=ConnA.open_ h;exact zw (by kernel_rfl) (F215_of (c1:=A1 ⟨b,0,A2⟩) (z7 (zx 0 h yR yR (a w (ConnA.shut e ro h)))))
def Half_spec(h:St W (TabA t T::F) w):qb Zp 126 #[qc t,Zi Zk id] w λv w'=>v=Zb (T.ask id A4 λd=>!d.ended)/\St W (TabA t (T.upd id gHalf)::F) w':=by refine F126_of ((ofB_spec (id:=id) (λd=>!d.ended) gHalf (λb d f g w K h a=>?_) h).of λv w ⟨c,h⟩=>⟨_,c,rfl,h⟩);obtain⟨e,ro,h⟩:=ConnA.open_ h;exact zw (by kernel_rfl) (F196_of (c1:=A1 ⟨b,0,A2⟩) (z7 (zx 0 h yR yR (z7 (St1.zz 0 h yR λw h=>a w (ConnA.shut (d:=gHalf d) e ro h))))))
def Came_spec(h:St W (TabA t T::F) w):qb Zp 135 #[qc t,Zi Zk id] w λv w'=>v=Zi Zk (T.ask id 0 λd=>(d.inb.length:Int))/\St W (TabA t T::F) w':=by refine F135_of ((ofI_spec (id:=id) (λd=>(d.inb.length:Int)) (λd=>d) (λb d f g w K h c=>?_) h).of λv w ⟨a,h⟩=>⟨_,a,rfl,by rw[CT.upd_id]at h;exact h⟩);obtain⟨e,ro,h⟩:=ConnA.open_ h;exact zw (by kernel_rfl) (F213_of (c1:=A1 ⟨b,0,A2⟩) (z7 (z0n 0 h yR yR ((Ri.Many_spec h.p1).of λv w ⟨a,h⟩=>⟨_,a,c w (ConnA.shut e ro h.p1)⟩))))
def Waits_spec(h:St W (TabA t T::F) w):qb Zp 142 #[qc t,Zi Zk id] w λv w'=>v=Zi Zk (T.ask id 0 λd=>(d.out.length:Int))/\St W (TabA t T::F) w':=by refine F142_of ((ofI_spec (id:=id) (λd=>(d.out.length:Int)) (λd=>d) (λb d f g w K h c=>?_) h).of λv w ⟨a,h⟩=>⟨_,a,rfl,by rw[CT.upd_id]at h;exact h⟩);obtain⟨e,ro,h⟩:=ConnA.open_ h;exact zw (by kernel_rfl) (F221_of (c1:=A1 ⟨b,0,A2⟩) (z7 (z0n 0 h yR yR ((Ri.Many_spec (zf 2 0 h yR)).of λv w ⟨a,h⟩=>⟨_,a,c w (ConnA.shut e ro (zf 0 2 h yR))⟩))))
def Room_spec(h:St W (TabA t T::F) w):qb Zp 139 #[qc t,Zi Zk id] w λv w'=>v=Zi Zk (T.ask id 0 λd=>((1024 - d.out.length:Nat):Int))/\St W (TabA t T::F) w':=by refine F139_of ((ofI_spec (id:=id) (λd=>((1024 - d.out.length:Nat):Int)) (λd=>d) (λb d f g w K h c=>?_) h).of λv w ⟨a,h⟩=>⟨_,a,rfl,by rw[CT.upd_id]at h;exact h⟩);obtain⟨e,ro,h⟩:=ConnA.open_ h;exact zw (by kernel_rfl) (F218_of (c1:=A1 ⟨b,0,A2⟩) (z7 (z0n 0 h yR yR ((Ri.Room_spec (zf 2 0 h yR)).of λv w ⟨a,h⟩=>⟨_,a,c w (ConnA.shut e ro (zf 0 2 h yR))⟩))))
def Flush_spec(a:St W (TabA t T::F) w):qb Zp 141 #[qc t,Zi Zk id] w λv w'=>∃p c,v=Zl p (T.ask id [] rFlush).length c/\St W (qi 5 1 p (T.ask id [] rFlush).length c ((T.ask id [] rFlush).map qd)::TabA t (T.upd id gFlush)::F) w':=by
 refine F141_of ((ofY_spec (id:=id) rFlush gFlush (λb d f g w K a l=>?_) a).of λv w ⟨p,c,j,a⟩=>⟨_,_,_,j,p,c,rfl,a⟩);obtain⟨e,ro,a⟩:=ConnA.open_ a;refine zw (by kernel_rfl) (F220_of (c1:=A1 ⟨b,0,A2⟩) ?_);have i:=z6 W (Row b 300 (connC d e ro)::Ri.RingA e 512 d.inb::Ri.RingA ro 1024 d.out::f::g::F);refine⟨StC W _,zd a,z7 (z7 ⟨_,zo 0 i yR yR,_,zi 0 i yR yR,?_⟩)⟩;refine zk (α:=Nat) (V:=λq=>.slice (A1 ⟨q,0,A2⟩) (rFlush d).length (rFlush d).length) (B:=λq=>Row q 5 ((rFlush d).map qd)::Ri.RingA ro 1024 (d.out.drop d.credit.toNat)::Row b 300 (connC d e ro)::Ri.RingA e 512 d.inb::f::g::F) 0 i (λG w h=>(Ri.Take_spec d.credit (zf 2 0 h yR)).of λv w' ⟨q,j,h⟩=>⟨_,_,_,j,q,rfl,h⟩) λq=>⟨_,_,_,rfl,trivial,λG w h=>?_⟩;have a:=zb h;refine z7 (z8 2 a yR yR (z7 (St1.zz 2 a yR λw a=>l _ _ w ?_)));have a:St W (Row q 5 ((rFlush d).map qd)::Ri.RingA ro 1024 (d.out.drop d.credit.toNat)::Row b 300 (connC (gFlush d) e ro)::Ri.RingA e 512 d.inb::f::g::F) w:=a;have k:St W (Row b 300 (connC (gFlush d) e ro)::Ri.RingA e 512 d.inb::Ri.RingA ro 1024 (d.out.drop d.credit.toNat)::Row q 5 ((rFlush d).map qd)::f::g::F) w:=zf 0 3 (zf 0 3 a yR) yR |> λh=>zf 2 3 h yR
 exact(qi.whole (by simp) (zf 1 0 (ConnA.shut (d:=gFlush d) e ro k) yR))
def Rest_spec(n:Int)(a:St W (TabA t T::F) w):qb Zp 132 #[qc t,Zi Zk id,Zi Zk n] w λv w'=>∃p c,v=Zl p (T.ask id [] λd=>d.inb.take n.toNat).length c/\St W (qi 5 1 p (T.ask id [] λd=>d.inb.take n.toNat).length c ((T.ask id [] λd=>d.inb.take n.toNat).map qd)::TabA t (T.upd id (gRest n))::F) w':=by refine F132_of (zh a λf w a=>?_);have a:St W (TabA t T::Row f 3 [Zi Zk n]::F) w:=a.p1;refine(ofY_spec (id:=id) (λd=>d.inb.take n.toNat) (gRest n) (λb d i k w K a m=>?_) a).of λv w ⟨p,c,g,a⟩=>⟨_,_,_,g,p,c,rfl,z03 2 a yR⟩;obtain⟨e,ro,a⟩:=ConnA.open_ a;refine zw (by kernel_rfl) (F209_of (c1:=A1 ⟨b,0,A2⟩) (cap2:=⟨f,0,A2⟩) ?_);have j:=z6 W (Row b 300 (connC d e ro)::Ri.RingA e 512 d.inb::Ri.RingA ro 1024 d.out::i::k::Row f 3 [Zi Zk n]::F);refine⟨StC W _,zd a,z7 ⟨_,zo 0 j yR yR,n,z02 5 j yR yR,?_⟩⟩;refine zk (α:=Nat) (V:=λq=>.slice (A1 ⟨q,0,A2⟩) (d.inb.take n.toNat).length (d.inb.take n.toNat).length) (B:=λq=>Row q 5 ((d.inb.take n.toNat).map qd)::Ri.RingA e 512 (d.inb.drop n.toNat)::Row b 300 (connC d e ro)::Ri.RingA ro 1024 d.out::i::k::Row f 3 [Zi Zk n]::F) 0 j (λG w h=>(Ri.Take_spec n (zf 1 0 h yR)).of λv w' ⟨q,g,h⟩=>⟨_,_,_,g,q,rfl,h⟩) λq=>⟨_,_,_,rfl,trivial,λG w h=>m _ _ w ?_⟩;have a:=zb h;have l:St W (Row b 300 (connC (gRest n d) e ro)::Ri.RingA e 512 (d.inb.drop n.toNat)::Ri.RingA ro 1024 d.out::Row q 5 ((d.inb.take n.toNat).map qd)::i::k::Row f 3 [Zi Zk n]::F) w:=zf 0 1 (zf 0 3 a yR) yR;exact(qi.whole (by simp) (zf 1 0 (ConnA.shut (d:=gRest n d) e ro l) yR))
def Feed_spec{p:Option Go.Addr}{c:Nat}{xs:List UInt8}(o:Rd F p (xs.map qd))(n:xs.length<=c)(a:St W (TabA t T::F) w):qb Zp 123 #[qc t,Zi Zk id,Zl p xs.length c] w λv w'=>v=Zi Zk (T.ask id 0 (rFeed xs))/\St W (TabA t (T.upd id (gFeed xs))::F) w':=by
 refine F123_of (zh a λg w a=>?_);have a:St W (TabA t T::Row g 22 [Zl p xs.length c]::F) w:=a.p1;refine(ofI_spec (id:=id) (rFeed xs) (gFeed xs) (λb d k m w K a l=>?_) a).of λv w ⟨i,a⟩=>⟨_,i,rfl,z03 1 a yR⟩;obtain⟨e,ro,a⟩:=ConnA.open_ a;refine zw (by kernel_rfl) (F189_of (c1:=A1 ⟨b,0,A2⟩) (cap2:=⟨g,0,A2⟩) (z7 (zx 0 a yR yR (za (λf=>?_) λf=>?_))))
 .have:=l w (by unfold gFeed;rw[yB f];exact ConnA.shut e ro a);unfold rFeed at this;rw[yB f]at this;exact this
 have j:=z6 W (Row b 300 (connC d e ro)::Ri.RingA e 512 d.inb::Ri.RingA ro 1024 d.out::k::m::Row g 22 [Zl p xs.length c]::F);refine⟨StC W _,zd a,z7 ⟨_,zo 0 j yR yR,_,_,_,QtL.n 5 j yR yR,?_⟩⟩;refine zk (α:=Unit) (V:=λ_=>Zi Zk ((min xs.length (512 - d.inb.length):Nat):Int)) (B:=λ_=>Ri.RingA e 512 (d.inb++xs.take (512 - d.inb.length))::Row b 300 (connC d e ro)::Ri.RingA ro 1024 d.out::k::m::Row g 22 [Zl p xs.length c]::F) () j (λG w h=>(Ri.Add_spec (((((o.cons _).cons _).cons _).cons _).cons _ |>.app (pts G)) n (zf 1 0 h yR)).of λv w' ⟨i,h⟩=>⟨_,i,(),rfl,h⟩) λ_=>⟨_,rfl,trivial,λG w h=>?_⟩;have a:=(zb h).p1;have:=l w (by unfold gFeed;rw[yA (by rw[f];simp)];exact ConnA.shut (d:={ d with inb:=d.inb++xs.take (512 - d.inb.length)}) e ro a);unfold rFeed at this;rw[yA (by rw[f];simp)]at this;exact this
def Budget_spec(n:Int)(a:St W (TabA t T::F) w):qb Zp 125 #[qc t,Zi Zk id,Zi Zk n] w λv w'=>v=Zb (T.ask id A4 (rBudget n))/\St W (TabA t (T.upd id (gBudget n))::F) w':=by
 refine F125_of (zh a λg w a=>?_);have a:St W (TabA t T::Row g 3 [Zi Zk n]::F) w:=a.p1;refine(ofB_spec (id:=id) (rBudget n) (gBudget n) (λb d k l w K a c=>?_) a).of λv w ⟨j,a⟩=>⟨_,j,rfl,z03 1 a yR⟩;obtain⟨f,ro,a⟩:=ConnA.open_ a;unfold rBudget gBudget at c;refine zw (by kernel_rfl) (F195_of (c1:=A1 ⟨b,0,A2⟩) (cap2:=⟨g,0,A2⟩) (z12 5 a yR yR (za (λh=>?_) λh=>z12 5 a yR yR (za (λe=>?_) λe=>?_))))
 .rw[h,yB (.inl (yC h))]at c;exact c w (ConnA.shut f ro a)
 .rw[h,e,yB (.inr (yC e))]at c;exact c w (ConnA.shut f ro a)
 rw[h,e,yA (by have h:=yD h;have e:=yD e;omega)]at c;have i:=z6 W (Row b 300 (connC d f ro)::Ri.RingA f 512 d.inb::Ri.RingA ro 1024 d.out::k::l::Row g 3 [Zi Zk n]::F);refine⟨StC W _,zd a,z7 ⟨_,zi 0 i yR yR,n,z02 5 i yR yR,z7 (z0q 0 i yR (by simp[connC]) ⟨rfl,trivial,λG w h=>?_⟩)⟩⟩;exact c w (ConnA.shut (d:={ d with credit:=if(1073741824:Int)<Zw Zk (d.credit+n)then(1073741824:Int)else Zw Zk (d.credit+n)}) f ro (zb h))
end
end Cn
end
section
def mlen_i{P:D5}{W w:A3}{l:List Asn}{κ ν:Type}{enc:κ->A5}{vl:ν->A5}{mt kt et ty:Cp}{m:Nat}{L:List (κ×ν)}(e:P.underlying mt=A1 (.map kt et)){K:A5->A3->Prop}(n:Nat)(f:St W l w)(d:nth l n=A1 (qg enc vl m L))
 (g:K (Zi Zk (L.length:Int)) w):Run P (Builtin.len_ #[mt] ty #[.map (A1 m)]) w K:=by
 obtain⟨es,clock,i,b,h⟩:=z1c (f.at n d);have c:=(h.turn (o':=.map #[] 0)).1;have a:=yE Ce b;simp[qk3]at a;refine⟨_,w,?_,g⟩;simp[Builtin.len_,run_underlying e,Bd c,a,goInt]
def qr.mlen_i{P:D5}{W w:A3}{l:List Asn}{κ δ:Type}{enc:κ->A5}{A:Nat->δ->Asn}{mt kt et ty:Cp}{m:Nat}{L:List (κ×δ)}(b:P.underlying mt=A1 (.map kt et)){K:A5->A3->Prop}(n:Nat)(c:St W l w)(a:nth l n=A1 (qr enc m A L))
 (d:K (Zi Zk (L.length:Int)) w):Run P (Builtin.len_ #[mt] ty #[.map (A1 m)]) w K:=by
 obtain⟨bs,h,e⟩:=z1d (c.at n a);refine Go.Proofs.YtfjifcfbmhpcaaaGreatDoor.mlen_i b 0 e yR ?_;have:(qx (Prod.fst (α:=Nat) (β:=δ)) bs).length=L.length:=by rw[q46,<-h,q46]
 rw[this];exact d
namespace Cn
section
variable{W w:World}{F:List Asn}{t b:Nat}{T:CT}{d:CnD}{id:Int}
def Say_spec{p:Option Go.Addr}{c:Nat}{xs:List UInt8}(q:Rd F p (xs.map qd))(n:xs.length<=c)(e:St W (TabA t T::F) w):qb Zp 140 #[qc t,Zi Zk id,Zl p xs.length c] w λv w'=>v=Zb (T.ask id A4 (rSay xs))/\St W (TabA t (T.upd id (gSay xs))::F) w':=by
 refine F140_of (zh e λk w e=>?_);have e:St W (TabA t T::Row k 22 [Zl p xs.length c]::F) w:=e.p1;refine(ofB_spec (id:=id) (rSay xs) (gSay xs) (λb d l m w K e j=>?_) e).of λv w ⟨i,e⟩=>⟨_,i,rfl,z03 1 e yR⟩;obtain⟨g,ro,e⟩:=ConnA.open_ e;unfold rSay gSay at j;refine zw (by kernel_rfl) (F219_of (c1:=A1 ⟨b,0,A2⟩) (cap2:=⟨k,0,A2⟩) ?_);have f:=z6 W (Row b 300 (connC d g ro)::Ri.RingA g 512 d.inb::Ri.RingA ro 1024 d.out::l::m::Row k 22 [Zl p xs.length c]::F);refine⟨StC W _,zd e,z7 ⟨_,_,_,QtL.n 5 f yR yR,_,zo 0 f yR yR,((1024 - d.out.length:Nat):Int),λG w o=>(Ri.Room_spec (zf 2 0 o yR)).of λv w ⟨i,h⟩=>⟨_,i,rfl,zf 0 2 h yR⟩,za (λa=>?_) λa=>λG w h=>?_⟩⟩
 .have a:=yC a;have a:xs.length<=1024 - d.out.length:=by omega
  rw[yG a,yB a]at j;refine z7 ⟨_,zo 0 f yR yR,_,_,_,QtL.n 5 f yR yR,_,_,_,QtL.n 5 f yR yR,?_⟩;refine zk (α:=Unit) (V:=λ_=>Zi Zk (xs.length:Int)) (B:=λ_=>Ri.RingA ro 1024 (d.out++xs)::Row b 300 (connC d g ro)::Ri.RingA g 512 d.inb::l::m::Row k 22 [Zl p xs.length c]::F) () f (λG w h=>(Ri.Add_spec (((((q.cons _).cons _).cons _).cons _).cons _ |>.app (pts G)) n (zf 2 0 h yR)).of λv w' ⟨i,h⟩=>⟨_,i,(),?_,?_⟩) λ_=>⟨_,rfl,QtL.n 5 ir yR yR,λG w h=>?_⟩;.rw[B0 a]
  .rw[A8 a]at h;exact h
  .have:=j w (ConnA.shut (d:={ d with out:=d.out++xs}) g ro (zf 0 2 (zb h) yR));rw[show((xs.length:Int)==(xs.length:Int))=A6 from beq_self_eq_true _];exact this
 .have a:=yD a;have a:¬xs.length<=1024 - d.out.length:=by omega
  rw[yH a,yA a]at j;exact j w (ConnA.shut g ro (zb h))
def nextT(T:CT)(id:Int):CT×List UInt8×Bool×Int:=
 match qe T.L id with
 |none=>(T,[],A4,0)
 |some d=>({ T with L:=qk T.L id { d with inb:=d.inb.drop (Fr.firstP d.inb).2.1} },(Fr.firstP d.inb).1,decide (0<(Fr.firstP d.inb).2.1),(Fr.firstP d.inb).2.2)
def Next_spec(a:St W (TabA t T::F) w):qb Zp 192 #[qc t,Zi Zk id] w λv w'=>∃p c,v=Zt #[Zl p (nextT T id).2.1.length c,Zb (nextT T id).2.2.1,Zi Zk (nextT T id).2.2.2]/\St W (qi 5 1 p (nextT T id).2.1.length c ((nextT T id).2.1.map qd)::TabA t (nextT T id).1::F) w':=by
 obtain⟨m,a⟩:=TabA.open_ a;unfold nextT;refine F192_of (z7 (zv 0 a yR yR ?_));cases hd:qe T.L id with
 |none=>exact z0y kI uMc iPc zPc 1 a yR hd A6 ⟨_,_,rfl,zm yR ⟨A2,0,rfl,z1a _ _ _ (TabA.shut m a)⟩⟩
 |some d=>
  obtain⟨b,a⟩:=z15 hd a.p1;refine z0g kI uMc iPc zPc 1 a yR A6 ⟨_,_,rfl,zn yR ?_⟩;obtain⟨g,ro,a⟩:=ConnA.open_ a;have i:=(Ri.RingA.le a.p1).1;refine z7 (z0n 0 a yR yR ((Ri.Look_spec a.p1).of λv w ⟨q,f,a⟩=>⟨_,_,_,f,?_⟩));refine(Fr.First_spec (bs:=d.inb) z0m yR (Ao _) (by omega) a).of λv w ⟨p,c,f,a⟩=>⟨_,_,_,_,_,f,?_⟩;have a:St W (Fr.OwnB p c (Fr.firstP d.inb).1::Row q 5 (d.inb.map qd)::Ri.RingA g 512 d.inb::Row b 300 (connC d g ro)::Ri.RingA ro 1024 d.out::qw (Zi Zk) m ConnA T.L id b::Row t 182 [.map (A1 m),Zi Zk T.last]::F) w:=a;refine z7 (z0n 3 a yR yR ((Ri.Take_spec ((Fr.firstP d.inb).2.1:Nat) (zf 2 0 a yR)).of λv w ⟨l,f,a⟩=>⟨_,_,_,f,?_⟩));rw[Af]at a;have a:St W (Row b 300 (connC d g ro)::Ri.RingA g 512 (d.inb.drop (Fr.firstP d.inb).2.1)::Ri.RingA ro 1024 d.out::qw (Zi Zk) m ConnA T.L id b::Row t 182 [.map (A1 m),Zi Zk T.last]::Fr.OwnB p c (Fr.firstP d.inb).1::F) w:=zf 2 5 (zf 2 0 (z03 2 a.drop yR) yR) yR;have j:=z0p (ConnA.shut (d:={ d with inb:=d.inb.drop (Fr.firstP d.inb).2.1}) g ro a);have k:=(TabA.shut (T:={ T with L:=qk T.L id { d with inb:=d.inb.drop (Fr.firstP d.inb).2.1} }) m j.p1).p1;have e:(decide (((Fr.firstP d.inb).2.1:Int)>0))=decide (0<(Fr.firstP d.inb).2.1):=by
   by_cases h:0<(Fr.firstP d.inb).2.1;.rw[yG h,yG (by omega)]
   .rw[yH h,yH (by omega)]
  rw[e];exact⟨p,c,rfl,k⟩
def openT(T:CT)(addr:Int):CT×Int×Int:=
 if T.L.length=64 then(T,0,2)else(⟨qk T.L (Zw Zk (T.last+1)) ⟨addr,[],[],0,A4⟩,Zw Zk (T.last+1)⟩,Zw Zk (T.last+1),0)
def Open_spec(addr:Int)(b:St W (TabA t T::F) w):qb Zp 120 #[qc t,Zi .u32 addr] w λv w'=>v=Zt #[Zi Zk (openT T addr).2.1,Zi Zk (openT T addr).2.2]/\St W (TabA t (openT T addr).1::F) w':=by
 obtain⟨m,b⟩:=TabA.open_ b;unfold openT;refine F120_of (z7 (zv 0 b yR yR (qr.mlen_i uMc 1 b yR ⟨_,rfl,za (λh=>?_) λh=>?_⟩)))
 .have h:(T.L.length:Int)=64:=by simpa using h
  rw[yB (by omega)];exact⟨rfl,TabA.shut m b⟩
 have h:¬(T.L.length:Int)=64:=by simpa using h
 rw[yA (by omega)];obtain⟨a,c⟩:∃a,Zw Zk (T.last+1)=a:=⟨_,rfl⟩;rw[c];refine z7 (z8 0 b yR yR (z7 (St1.zz 0 b yR λw b=>?_)));have b:St W (Row t 182 [.map (A1 m),Zi Zk (Zw Zk (T.last+1))]::qr (Zi Zk) m ConnA T.L::F) w:=b;rw[c]at b;have g:=z6 W (Row t 182 [.map (A1 m),Zi Zk a]::qr (Zi Zk) m ConnA T.L::F);refine⟨StC W _,zd b,z7 (z7 ⟨_,z0b 0 g yR yR,a,zi 0 g yR yR,?_⟩)⟩;refine zk (α:=Nat) (V:=qc) (B:=λe=>Ri.RingA e 512 []::Row t 182 [.map (A1 m),Zi Zk a]::qr (Zi Zk) m ConnA T.L::F) 0 g (λG w h=>(Ri.New_spec 512 h).of λv w' ⟨e,i,h⟩=>⟨_,i,e,rfl,h⟩) λe=>⟨_,rfl,⟨zi 1 ir yR yR,z0b 1 ir yR yR⟩,?_⟩;refine zk (α:=Nat) (V:=qc) (B:=λro=>Ri.RingA ro 1024 []::Ri.RingA e 512 []::Row t 182 [.map (A1 m),Zi Zk a]::qr (Zi Zk) m ConnA T.L::F) 0 ir (λG w h=>(Ri.New_spec 1024 h).of λv w' ⟨ro,i,h⟩=>⟨_,i,ro,rfl,h⟩) λro=>⟨_,rfl,⟨zi 2 ir yR yR,z0b 2 ir yR yR⟩,λf=>?_⟩;refine zk (α:=Unit) (V:=λ_=>Zt #[]) (B:=λ_=>Row t 182 [.map (A1 m),Zi Zk a]::qr (Zi Zk) m ConnA (qk T.L a ⟨addr,[],[],0,A4⟩)::F) () (ir.push f _) (λG w h=>?_) λ_=>⟨rfl,trivial,λG w h=>z7 (z8 0 (zb h) yR yR ⟨rfl,TabA.shut (T:=⟨qk T.L a ⟨addr,[],[],0,A4⟩,a⟩) m (zb h)⟩)⟩;have h:St W (Pt f (.cells #[Zi .u32 addr,qc e,qc ro,Zi Zk 0,Zb A4] 300)::Ri.RingA ro 1024 []::Ri.RingA e 512 []::Row t 182 [.map (A1 m),Zi Zk a]::qr (Zi Zk) m ConnA T.L::(F++pts G)) w:=h;have j:=ConnA.shut (d:=⟨addr,[],[],0,A4⟩) e ro (zf 1 2 (h.imp z0d) yR);exact qr.set_i kI uMc 0 1 j yR yR λw' h=>⟨(),rfl,h⟩
def Close_spec(h:St W (TabA t T::F) w):qb Zp 145 #[qc t,Zi Zk id] w λv w'=>v=Zb (T.ask id A4 λ_=>A6)/\St W (TabA t { T with L:=qp T.L id}::F) w':=by refine F145_of ((Has_spec h).of λv w ⟨a,h⟩=>⟨_,a,?_⟩);obtain⟨m,h⟩:=TabA.open_ h;refine z7 (zv 0 h yR yR (qr.deln_i kI uMc 1 h yR λw h=>⟨rfl,TabA.shut (T:={ T with L:=qp T.L id}) m h⟩))
end
end Cn
end
section
def qi9(B:qi3)(ten name:ByteArray)(epoch now:Int):Int:=if q79 now=A4 then 1 else match qe B.L name with
 |none=>3
 |some d=>if qv4 B.grace d now≠2 then 3 else if d.ten≠ten then 131 else if d.epoch≠epoch then 132 else 0
def q2f(a b:Int):Int:=if a<b then a else b
def qpb(B:qi3)(ten name:ByteArray)(epoch now ttl:Int):qi3×LeD×Int:=
 if qa6 ttl=A4 then(B,zeL,1)else
 if qi9 B ten name epoch now=0 then match qe B.L name with
  |none=>(B,zeL,0)
  |some d=>({ B with L:=qk B.L name { d with til:=Zw Zk (now+q2f B.most ttl)} },{ d with til:=Zw Zk (now+q2f B.most ttl)},0)
 else(B,zeL,qi9 B ten name epoch now)
def qmb(B:qi3)(ten name:ByteArray)(epoch now:Int):qi3×Int:=
 if qi9 B ten name epoch now=0 then match qe B.L name with
  |none=>(B,0)
  |some d=>({ B with L:=qk B.L name (q78 d (Zw Zk (now+B.grace)))},0)
 else(B,qi9 B ten name epoch now)
def q4e{κ ν:Type}[DecidableEq κ](L:List (κ×ν))(k:κ)(v:ν):(qk L k v).length=if qe L k=A2 then L.length+1 else L.length:=by have:=yE Ce (qha L k v);rw[Ac]at this;rw[this];split<;>simp
section
variable{W w:World}{F:List Asn}{b m:Nat}{B:qi3}{name:ByteArray}{now:Int}
variable{ten:ByteArray}{epoch ttl conn:Int}
def qpm{n:A5}{Q:A3->Prop}(g:B.L.length<=64)
 (c:∀(d:LeD) (q:Nat),qe B.L name=A1 d->qi9 B ten name epoch now=0->∀(w:A3) (K:A5->A3->Prop),St W (qu q d::qw Zs m qu B.L name q::Row b 168 (bkV B m)::F) w->(∀w',Q w'->K (Zt #[]) w')->q01 Zp 0 n [qc q] w K)
 (a:St W (Row b 168 (bkV B m)::qr Zs m qu B.L::F) w):qb Zp 385 #[qc b,Zs ten,Zs name,Zi Zk epoch,Zi Zk now,n] w λv w'=>
 v=Zi Zk (qi9 B ten name epoch now)/\(qi9 B ten name epoch now=0->Q w')/\(qi9 B ten name epoch now≠0->St W (q41 b B::F) w'):=by
 refine F385_of ((q0g a).of λv w h=>?_);rcases h with ⟨e,f,a⟩|⟨d,q,e,f,a⟩
 .refine⟨_,_,f,(q57 now a).of λv w ⟨f,a⟩=>⟨_,f,?_⟩⟩;unfold qi9;rw[e];refine za (λh=>?_) λh=>zm yR ?_
  .rw[yB (by simpa using h)];exact⟨rfl,λh=>by simp at h,λ_=>z0v m g a⟩
  .rw[yA (by simpa using h)];exact⟨rfl,λh=>by simp at h,λ_=>z0v m g a⟩
 .refine⟨_,_,f,(q57 now a).of λv w ⟨f,a⟩=>⟨_,f,?_⟩⟩;have i:qi9 B ten name epoch now=if q79 now=A4 then 1 else if qv4 B.grace d now≠2 then 3 else if d.ten≠ten then 131 else if d.epoch≠epoch then 132 else 0:=by unfold qi9;rw[e]
  have c:=c d q e;rw[i]at c⊢;have a:St W (Row q 55 (leV d)::qw Zs m qu B.L name q::Row b 168 (bkV B m)::F) w:=a;refine za (λh=>?_) λh=>za (λk=>?_) λk=>z7 (zg 0 a yR yR ?_)
  .rw[yB (by simpa using h)];exact⟨rfl,λh=>by simp at h,λ_=>z1g g e a⟩
  .rw[yA (by simpa using h),yB (by simpa using k)];exact⟨rfl,λh=>by simp at h,λ_=>z1g g e a⟩
  rw[yA (by simpa using h),yA (by simpa using k)]at c⊢;rw[qrc];refine za (λj=>?_) λj=>z7 (z8 0 a yR yR (za (λl=>?_) λl=>?_))
  .rw[yB (by simpa using j)];exact⟨rfl,λh=>by simp at h,λ_=>z1g g e a⟩
  .rw[yA (by simpa using j),yB (by simpa using l)];exact⟨rfl,λh=>by simp at h,λ_=>z1g g e a⟩
  rw[yA (by simpa using j),yA (by simpa using l)]at c⊢;exact c yR w _ a λw' o=>⟨rfl,rfl,λ_=>o,λh=>yI yR h⟩
def qfq(a:St W (q41 b B::F) w):qb Zp 356 #[qc b,Zs ten,Zs name,Zi Zk epoch,Zi Zk now,Zi Zk ttl] w λv w'=>
 v=Zt #[Zg (leV (qpb B ten name epoch now ttl).2.1).toArray,Zi Zk (qpb B ten name epoch now ttl).2.2]/\St W (q41 b (qpb B ten name epoch now ttl).1::F) w':=by
 unfold qpb;refine F356_of (zh a λi w a=>zh a λg w a=>zh a λc w a=>zh a λe w a=>z12 1 a yR yR ((q5b ttl a).of λv w ⟨o,a⟩=>⟨_,o,za (λh=>?_) λh=>?_⟩))
 .rw[yB (by simpa using h)];have a:St W (Row e 55 (leV zeL)::Row c 2 [Zi Zk ttl]::Row g 2 [Zi Zk now]::Row i 94 [qc b]::q41 b B::F) w:=a;refine St1.zz 0 a yR λw a=>St1.zz 0 a yR λw a=>St1.zz 0 a yR λw a=>St1.zz 0 a yR λw a=>St1.zz 0 a yR λw a=>St1.zz 0 a yR λw a=>?_;exact zg 0 a yR yR (zg 0 a yR yR (z8 0 a yR yR (z8 0 a yR yR (z8 0 a yR yR (zx 0 a yR yR (⟨rfl,zl 5 [4] a yR⟩))))))
 rw[yA (by simpa using h)];refine zh a λf w a=>?_;have a:St W (q41 b B::Row f 55 (leV zeL)::Row e 55 (leV zeL)::Row c 2 [Zi Zk ttl]::Row g 2 [Zi Zk now]::Row i 94 [qc b]::F) w:=zf 5 0 a yR;obtain⟨m,p,a⟩:=z13 a;refine LdP.n 6 a yR yR (z12 5 a yR yR ?_);refine(qpm (ten:=ten) (epoch:=epoch) (now:=now) (Q:=λw=>∃d,qe B.L name=A1 d/\St W (Row f 55 (leV { d with til:=Zw Zk (now+q2f B.most ttl)})::q41 b { B with L:=qk B.L name { d with til:=Zw Zk (now+q2f B.most ttl)} }::Row e 55 (leV zeL)::F) w) p (λd q n _ w K a s=>?_) a).of λv w ⟨o,r,j⟩=>⟨_,o,?_⟩
 .have a:St W (Row q 55 (leV d)::qw Zs m qu B.L name q::Row b 168 (bkV B m)::Row f 55 (leV zeL)::Row e 55 (leV zeL)::Row c 2 [Zi Zk ttl]::Row g 2 [Zi Zk now]::Row i 94 [qc b]::F) w:=a;have l:=z6 W (Row q 55 (leV d)::qw Zs m qu B.L name q::Row b 168 (bkV B m)::Row f 55 (leV zeL)::Row e 55 (leV zeL)::Row c 2 [Zi Zk ttl]::Row g 2 [Zi Zk now]::Row i 94 [qc b]::F);have j:qb Zp 386 #[qc q,qc g,qc c,qc i,qc f] w K:=by refine F386_of ⟨StC W _,zd a,_,z02 6 l yR yR,_,z02 5 l yR yR,_,zy 7 l yR yR,z7 ⟨_,zi 2 l yR yR,z7 (z0q 0 l yR (by simp[leV]) ⟨rfl,trivial,λG w h=>z7 ?_⟩)⟩⟩;have a:=zb h;have a:St W (Row q 55 (leV { d with til:=Zw Zk (now+q2f B.most ttl)})::qw Zs m qu B.L name q::Row b 168 (bkV B m)::Row f 55 (leV zeL)::Row e 55 (leV zeL)::Row c 2 [Zi Zk ttl]::Row g 2 [Zi Zk now]::Row i 94 [qc b]::F) w:=a;refine zg 0 a yR yR (zg 0 a yR yR (z8 0 a yR yR (z8 0 a yR yR (z8 0 a yR yR (zx 0 a yR yR (?_))))));refine St1.zz 3 a yR λw a=>St1.zz 3 a yR λw a=>St1.zz 3 a yR λw a=>St1.zz 3 a yR λw a=>St1.zz 3 a yR λw a=>St1.zz 3 a yR λw a=>s w ⟨d,n,?_⟩;have j:=z0p (A:=qu) (d:={ d with til:=Zw Zk (now+q2f B.most ttl)}) a;exact(z0v (B:={ B with L:=qk B.L name { d with til:=Zw Zk (now+q2f B.most ttl)} }) m (by rw[q4e,n];simpa using p) (zl 7 [1,0,2,3] j yR)).p1
  exact zw (by kernel_rfl) j
 by_cases k:qi9 B ten name epoch now=0
 .obtain⟨d,n,a⟩:=r k;rw[yB k,n,k];refine zg 0 a yR yR (zg 0 a yR yR (z8 0 a yR yR (z8 0 a yR yR (z8 0 a yR yR (zx 0 a yR yR (?_))))));refine St1.zz 2 a yR λw a=>St1.zz 2 a yR λw a=>St1.zz 2 a yR λw a=>St1.zz 2 a yR λw a=>St1.zz 2 a yR λw a=>St1.zz 2 a yR λw a=>?_;exact zg 2 a yR yR (zg 2 a yR yR (z8 2 a yR yR (z8 2 a yR yR (z8 2 a yR yR (zx 2 a yR yR (⟨rfl,zl 3 [1] a yR⟩))))))
 .have a:=j k;rw[yA k];refine zg 1 a yR yR (zg 1 a yR yR (z8 1 a yR yR (z8 1 a yR yR (z8 1 a yR yR (zx 1 a yR yR (?_))))));refine St1.zz 2 a yR λw a=>St1.zz 2 a yR λw a=>St1.zz 2 a yR λw a=>St1.zz 2 a yR λw a=>St1.zz 2 a yR λw a=>St1.zz 2 a yR λw a=>?_;exact zg 2 a yR yR (zg 2 a yR yR (z8 2 a yR yR (z8 2 a yR yR (z8 2 a yR yR (zx 2 a yR yR (⟨rfl,zl 6 [0] a yR⟩))))))
def q4m(a:St W (q41 b B::F) w):qb Zp 358 #[qc b,Zs ten,Zs name,Zi Zk epoch,Zi Zk now] w λv w'=>
 v=Zi Zk (qmb B ten name epoch now).2/\St W (q41 b (qmb B ten name epoch now).1::F) w':=by
 unfold qmb;refine F358_of (zh a λi w a=>zh a λc w a=>?_);have a:St W (q41 b B::Row c 2 [Zi Zk now]::Row i 94 [qc b]::F) w:=zf 2 0 a yR;obtain⟨m,l,a⟩:=z13 a;refine LdP.n 3 a yR yR (z12 2 a yR yR ?_);refine(qpm (ten:=ten) (epoch:=epoch) (now:=now) (Q:=λw=>∃d,qe B.L name=A1 d/\St W (q41 b { B with L:=qk B.L name (q78 d (Zw Zk (now+B.grace)))}::F) w) l (λd q j _ w K a o=>?_) a).of λv w ⟨k,n,e⟩=>⟨_,k,?_⟩
 .have g:=z6 W (qu q d::qw Zs m qu B.L name q::Row b 168 (bkV B m)::Row c 2 [Zi Zk now]::Row i 94 [qc b]::F);have e:qb Zp 387 #[qc q,qc c,qc i] w K:=by refine F387_of ⟨StC W _,zd a,_,z02 3 g yR yR,_,zy 4 g yR yR,z7 ⟨_,zi 2 g yR yR,zk (α:=Unit) (V:=λ_=>Zt #[]) (B:=λ_=>qu q (q78 d (Zw Zk (now+B.grace)))::qw Zs m qu B.L name q::Row b 168 (bkV B m)::Row c 2 [Zi Zk now]::Row i 94 [qc b]::F) () g (λG w h=>(q6f h).of λv w' ⟨k,h⟩=>⟨k,(),rfl,h⟩) λ_=>⟨rfl,trivial,λG w h=>o w ⟨d,j,?_⟩⟩⟩⟩;have e:=z0p (A:=qu) (d:=q78 d (Zw Zk (now+B.grace))) (zb h);exact z0v (B:={ B with L:=qk B.L name (q78 d (Zw Zk (now+B.grace)))}) m (by rw[q4e,j];simpa using l) (zl 4 [1,0] e yR)
  exact zw (by kernel_rfl) e
 by_cases f:qi9 B ten name epoch now=0
 .obtain⟨d,j,a⟩:=n f;rw[yB f,j,f];exact⟨rfl,a⟩
 .rw[yA f];exact⟨rfl,zl 3 [0] (e f) yR⟩
def qy9(B:qi3)(ten name:ByteArray)(conn now ttl:Int):LeD:=⟨name,ten,conn,Zw Zk (B.epoch+1),Zw Zk (now+q2f B.most ttl),A6⟩
def q38(B:qi3)(ten name:ByteArray)(now ttl:Int):Int:=
 if q1a ten=A4 then 1 else if q1a name=A4 then 1 else if q79 now=A4 then 1 else if qa6 ttl=A4 then 1 else
 match qe B.L name with
 |none=>if B.L.length=64 then 2 else 0
 |some d=>if qv4 B.grace d now>0/\d.ten≠ten then 131 else if qv4 B.grace d now=2 then 4 else 0
def qk5(B:qi3)(ten name:ByteArray)(conn now ttl:Int):qi3×LeD×Int:=
 if q38 B ten name now ttl=0 then({ B with epoch:=Zw Zk (B.epoch+1),L:=qk B.L name (qy9 B ten name conn now ttl)},qy9 B ten name conn now ttl,0)else(B,zeL,q38 B ten name now ttl)
def qir(a:St W (q41 b B::F) w):qb Zp 354 #[qc b,Zs ten,Zs name,Zi Zk conn,Zi Zk now,Zi Zk ttl] w λv w'=>
 v=Zt #[Zg (leV (qk5 B ten name conn now ttl).2.1).toArray,Zi Zk (qk5 B ten name conn now ttl).2.2]/\St W (q41 b (qk5 B ten name conn now ttl).1::F) w':=by
 have f:∀(e:Int),e≠0->q38 B ten name now ttl=e->∀c w,St W (q41 b B::Row c 55 (leV zeL)::F) w->Zt #[Zg (leV zeL).toArray,Zi Zk e]=Zt #[Zg (leV (qk5 B ten name conn now ttl).2.1).toArray,Zi Zk (qk5 B ten name conn now ttl).2.2]/\St W (q41 b (qk5 B ten name conn now ttl).1::F) w:=λe t D c w h=>by unfold qk5;rw[D,yA t];exact⟨rfl,h.p1.drop⟩
 unfold q38 at f;refine F354_of (zh a λc w a=>?_);have a:St W (q41 b B::Row c 55 (leV zeL)::F) w:=a.p1;refine(qoc ten a).of λv w ⟨i,a⟩=>⟨_,i,za (λh=>?_) λc1=>?_⟩
 .refine St1.zz 1 a yR λw a=>St1.zz 1 a yR λw a=>St1.zz 1 a yR λw a=>St1.zz 1 a yR λw a=>St1.zz 1 a yR λw a=>St1.zz 1 a yR λw a=>?_;exact zg 1 a yR yR (zg 1 a yR yR (z8 1 a yR yR (z8 1 a yR yR (z8 1 a yR yR (zx 1 a yR yR (f 1 (by simp) (by rw[yB (by simpa using h)]) c _ a))))))
 rw[yA (by simpa using c1)]at f;refine(qoc name a).of λv w ⟨i,a⟩=>⟨_,i,za (λh=>?_) λK=>?_⟩
 .refine St1.zz 1 a yR λw a=>St1.zz 1 a yR λw a=>St1.zz 1 a yR λw a=>St1.zz 1 a yR λw a=>St1.zz 1 a yR λw a=>St1.zz 1 a yR λw a=>?_;exact zg 1 a yR yR (zg 1 a yR yR (z8 1 a yR yR (z8 1 a yR yR (z8 1 a yR yR (zx 1 a yR yR (f 1 (by simp) (by rw[yB (by simpa using h)]) c _ a))))))
 rw[yA (by simpa using K)]at f;refine(q57 now a).of λv w ⟨i,a⟩=>⟨_,i,za (λh=>?_) λJ=>?_⟩
 .refine St1.zz 1 a yR λw a=>St1.zz 1 a yR λw a=>St1.zz 1 a yR λw a=>St1.zz 1 a yR λw a=>St1.zz 1 a yR λw a=>St1.zz 1 a yR λw a=>?_;exact zg 1 a yR yR (zg 1 a yR yR (z8 1 a yR yR (z8 1 a yR yR (z8 1 a yR yR (zx 1 a yR yR (f 1 (by simp) (by rw[yB (by simpa using h)]) c _ a))))))
 rw[yA (by simpa using J)]at f;refine(q5b ttl a).of λv w ⟨i,a⟩=>⟨_,i,za (λh=>?_) λH=>?_⟩
 .refine St1.zz 1 a yR λw a=>St1.zz 1 a yR λw a=>St1.zz 1 a yR λw a=>St1.zz 1 a yR λw a=>St1.zz 1 a yR λw a=>St1.zz 1 a yR λw a=>?_;exact zg 1 a yR yR (zg 1 a yR yR (z8 1 a yR yR (z8 1 a yR yR (z8 1 a yR yR (zx 1 a yR yR (f 1 (by simp) (by rw[yB (by simpa using h)]) c _ a))))))
 rw[yA (by simpa using H)]at f;obtain⟨m,C,a⟩:=z13 a;refine(q0g a).of λv w h=>?_;have z:∃s p,v=Zt #[Zq s,Zi Zk p]/\((s=A2/\p=0/\qe B.L name=A2/\St W (Row b 168 (bkV B m)::qr Zs m qu B.L::Row c 55 (leV zeL)::F) w)\/
  ∃(d:LeD) (q:Nat),s=A1 ⟨q,0,A2⟩/\p=qv4 B.grace d now/\qe B.L name=A1 d/\St W (Row q 55 (leV d)::qw Zs m qu B.L name q::Row b 168 (bkV B m)::Row c 55 (leV zeL)::F) w):=by
  rcases h with ⟨o,i,a⟩|⟨d,q,o,i,a⟩
  .exact⟨_,_,i,.inl ⟨rfl,rfl,o,a⟩⟩
  .exact⟨_,_,i,.inr ⟨d,q,rfl,rfl,o,a⟩⟩
 clear h a;obtain⟨s,p,i,z⟩:=z;have g:∀(e:Int),e≠0->q38 B ten name now ttl=e->∀c w,St W (q41 b B::Row c 55 (leV zeL)::F) w->Zt #[Zg (leV zeL).toArray,Zi Zk e]=Zt #[Zg (leV (qk5 B ten name conn now ttl).2.1).toArray,Zi Zk (qk5 B ten name conn now ttl).2.2]/\St W (q41 b (qk5 B ten name conn now ttl).1::F) w:=λe t D c w h=>by unfold qk5;rw[D,yA t];exact⟨rfl,h.p1.drop⟩
 have n:q38 B ten name now ttl=match qe B.L name with
  |none=>if B.L.length=64 then 2 else 0
  |some d=>if qv4 B.grace d now>0/\d.ten≠ten then 131 else if qv4 B.grace d now=2 then 4 else 0:=by
  unfold q38;rw[yA (by simpa using c1),yA (by simpa using K),yA (by simpa using J),yA (by simpa using H)]
 refine⟨_,_,i,⟨λ_ w=>q38 B ten name now ttl=0/\(qe B.L name=A2->B.L.length<64)/\St W (Row b 168 (bkV B m)::qr Zs m qu B.L::Row c 55 (leV zeL)::F) w,?_,λw N=>?_⟩⟩
 .rcases z with ⟨rfl,rfl,o,a⟩|⟨d,q,rfl,rfl,o,a⟩
  .rw[o]at n;refine zn yR (zn yR (zm yR (z7 (zv 0 a yR yR (qr.mlen_i uMl 1 a yR ⟨_,rfl,za (λh=>?_) λh=>?_⟩)))))
   .have h:(B.L.length:Int)=64:=by simpa using h
    refine St1.zz 2 a yR λw a=>St1.zz 2 a yR λw a=>St1.zz 2 a yR λw a=>St1.zz 2 a yR λw a=>St1.zz 2 a yR λw a=>St1.zz 2 a yR λw a=>?_;exact zg 2 a yR yR (zg 2 a yR yR (z8 2 a yR yR (z8 2 a yR yR (z8 2 a yR yR (zx 2 a yR yR (g 2 (by simp) (by rw[n];exact yB (by omega)) c _ (z0v m C a)))))))
   .have h:¬(B.L.length:Int)=64:=by simpa using h
    exact⟨by rw[n];exact yA (by omega),λ_=>by omega,a⟩
  .rw[o]at n;dsimp only at n;have M:∀w,St W (Row q 55 (leV d)::qw Zs m qu B.L name q::Row b 168 (bkV B m)::Row c 55 (leV zeL)::F) w->St W (q41 b B::Row c 55 (leV zeL)::F) w:=λw h=>z1g C o h;have ok:∀w,q38 B ten name now ttl=0->St W (Row q 55 (leV d)::qw Zs m qu B.L name q::Row b 168 (bkV B m)::Row c 55 (leV zeL)::F) w->q38 B ten name now ttl=0/\(qe B.L name=A2->B.L.length<64)/\St W (Row b 168 (bkV B m)::qr Zs m qu B.L::Row c 55 (leV zeL)::F) w:=λw t h=>by refine⟨t,λy=>(by rw[o]at y;cases y),?_⟩;have k:=z0p (A:=qu) h;rw[qt1 o]at k;exact k.p1
   refine za (λh=>z7 (zg 0 a yR yR ?_)) λh=>za (λj=>?_) λj=>zn yR (ok w ?_ a)
   .have h:=yC h;rw[qrc];refine za (λk=>?_) λk=>za (λj=>?_) λj=>zn yR (ok w ?_ a)
    .refine St1.zz 3 a yR λw a=>St1.zz 3 a yR λw a=>St1.zz 3 a yR λw a=>St1.zz 3 a yR λw a=>St1.zz 3 a yR λw a=>St1.zz 3 a yR λw a=>?_;exact zg 3 a yR yR (zg 3 a yR yR (z8 3 a yR yR (z8 3 a yR yR (z8 3 a yR yR (zx 3 a yR yR (g 131 (by simp) (by rw[n,yB ⟨h,by simpa using k⟩]) c _ (M _ a)))))))
    .refine St1.zz 3 a yR λw a=>St1.zz 3 a yR λw a=>St1.zz 3 a yR λw a=>St1.zz 3 a yR λw a=>St1.zz 3 a yR λw a=>St1.zz 3 a yR λw a=>?_;exact zg 3 a yR yR (zg 3 a yR yR (z8 3 a yR yR (z8 3 a yR yR (z8 3 a yR yR (zx 3 a yR yR (g 4 (by simp) (by rw[n,yA (λx=>by simp at k;exact x.2 k),yB (by simpa using j)]) c _ (M _ a)))))))
    .rw[n,yA (λx=>by simp at k;exact x.2 k),yA (by simpa using j)]
   .have h:=yD h;have j:qv4 B.grace d now=2:=by simpa using j
    omega
   .have h:=yD h;rw[n,yA (λx=>h x.1),yA (by simpa using j)]
 .obtain⟨t,E,a⟩:=N;clear f g z n;unfold qk5;rw[yB t];refine z7 (z8 0 a yR yR (z7 (St1.zz 0 a yR λw a=>?_)));have a:St W (Row b 168 (bkV { B with epoch:=Zw Zk (B.epoch+1)} m)::qr Zs m qu B.L::Row c 55 (leV zeL)::F) w:=a;have I:=z6 W (Row b 168 (bkV { B with epoch:=Zw Zk (B.epoch+1)} m)::qr Zs m qu B.L::Row c 55 (leV zeL)::F);refine⟨StC W _,zd a,z7 (z7 ⟨_,zi 0 I yR yR,_,zi 0 I yR yR,λu G w h=>z7 ?_⟩)⟩;have k:St W (Pt u (.cells (leV (qy9 B ten name conn now ttl)).toArray 55)::Row b 168 (bkV { B with epoch:=Zw Zk (B.epoch+1)} m)::qr Zs m qu B.L::Row c 55 (leV zeL)::(F++pts G)) w:=StC.pushed h;have a:St W (qu u (qy9 B ten name conn now ttl)::Row b 168 (bkV { B with epoch:=Zw Zk (B.epoch+1)} m)::qr Zs m qu B.L::Row c 55 (leV zeL)::F) w:=St.dropR (l:=qu u (qy9 B ten name conn now ttl)::Row b 168 (bkV { B with epoch:=Zw Zk (B.epoch+1)} m)::qr Zs m qu B.L::Row c 55 (leV zeL)::F) (r:=pts G) (k.imp z0d);refine zv 1 a yR yR (qr.setH_i (A:=qu) kS uMl 1 a yR λw a=>?_);have a:St W (Row u 55 (leV (qy9 B ten name conn now ttl))::Row b 168 (bkV { B with epoch:=Zw Zk (B.epoch+1)} m)::qw Zs m qu (qk B.L name (qy9 B ten name conn now ttl)) name u::Row c 55 (leV zeL)::F) w:=a;refine zg 0 a yR yR (zg 0 a yR yR (z8 0 a yR yR (z8 0 a yR yR (z8 0 a yR yR (zx 0 a yR yR (?_))))));refine St1.zz 3 a yR λw a=>St1.zz 3 a yR λw a=>St1.zz 3 a yR λw a=>St1.zz 3 a yR λw a=>St1.zz 3 a yR λw a=>St1.zz 3 a yR λw a=>?_;refine zg 3 a yR yR (zg 3 a yR yR (z8 3 a yR yR (z8 3 a yR yR (z8 3 a yR yR (zx 3 a yR yR (⟨rfl,z0v (B:={ B with epoch:=Zw Zk (B.epoch+1),L:=qk B.L name (qy9 B ten name conn now ttl)}) m ?_ ?_⟩))))))
  .show(qk B.L name (qy9 B ten name conn now ttl)).length<=64;rw[q4e];split
   .rename_i y;have:=E y;omega
   .exact C
  .have j:=z0p (A:=qu) (d:=qy9 B ten name conn now ttl) (zf 1 2 a yR);rw[qe7]at j;exact zl 3 [1,0] j yR
end
end
section
section
variable{α β:Type}
def qgb(le:α->α->Bool)(x:α):List α->List α
 |[]=>[x]
 |y::r=>if le x y=A6 then x::y::r else y::qgb le x r
def q91(le:α->α->Bool):List α->List α
 |[]=>[]
 |x::r=>qgb le x (q91 le r)
def q8f(le:α->α->Bool)(x:α):∀l:List α,(qgb le x l).Perm (x::l)
 |[]=>.refl _
 |y::r=>by
  unfold qgb;split;.exact .refl _
  .exact((q8f le x r).cons y).trans (.swap _ _ _)
def qv1(le:α->α->Bool):∀l:List α,(q91 le l).Perm l
 |[]=>.refl _
 |x::r=>(q8f le x _).trans ((qv1 le r).cons x)
def qbg{le:α->α->Bool}(e:∀a b c,le a b=A6->le b c=A6->le a c=A6)(f:∀a b,(le a b||le b a)=A6)(x:α):∀l:List α,l.Pairwise (λa b=>le a b=A6)->(qgb le x l).Pairwise λa b=>le a b=A6
 |[],_=>by simp[qgb]
 |y::r,h=>by
  rw[Bb]at h;unfold qgb;split
  .rename_i w;rw[Bb];refine⟨λz d=>?_,Bb.2 h⟩;rcases Bl.1 d with rfl|d;.exact w
   .exact e _ _ _ w (h.1 z d)
  .rename_i w;rw[Bb];refine⟨λz d=>?_,qbg e f x r h.2⟩;rcases Bl.1 ((q8f le x r).mem_iff.1 d)with rfl|d
   .have:=f z y;simp only[Cx]at this;exact this.resolve_left w
   .exact h.1 z d
def qjf{le:α->α->Bool}(h:∀a b c,le a b=A6->le b c=A6->le a c=A6)(w:∀a b,(le a b||le b a)=A6):∀l:List α,(q91 le l).Pairwise λa b=>le a b=A6
 |[]=>by simp[q91]
 |x::r=>qbg h w x _ (qjf h w r)
def qij{le:α->α->Bool}(h:∀a b c,le a b=A6->le b c=A6->le a c=A6)(w:∀a b,(le a b||le b a)=A6)(e:∀a b,le a b=A6->le b a=A6->a=b){l m:List α}(d:l.Perm m):l.mergeSort le=q91 le m:=
 List.Perm.eq_of_pairwise (le:=λa b=>le a b=A6) (λa b _ _=>e a b) (List.pairwise_mergeSort h w l) (qjf h w m) ((List.mergeSort_perm l le).trans (d.trans (qv1 le m).symm))
def qtm(f:α->β){le:α->α->Bool}{le':β->β->Bool}(h:∀a b,le a b=le' (f a) (f b))(x:α):∀l:List α,(qgb le x l).map f=qgb le' (f x) (l.map f)
 |[]=>rfl
 |y::r=>by
  simp only[qgb,B6,h x y];split;.rfl
  .rw[B6,qtm f h x r]
def q5a(f:α->β){le:α->α->Bool}{le':β->β->Bool}(h:∀a b,le a b=le' (f a) (f b)):∀l:List α,(q91 le l).map f=q91 le' (l.map f)
 |[]=>rfl
 |x::r=>by rw[q91,qtm f h,q5a f h r];rfl
end
def leI(x y:Int):Bool:=decide (x<=y)
def leL(x y:List UInt8):Bool:=decide (x<=y)
def leS(x y:ByteArray):Bool:=leL (qm x) (qm y)
def qee{l m:List Int}(h:l.Perm m):l.mergeSort (λx y=>decide (x<=y))=q91 leI m:=
 qij (le:=leI) (λa b c w d=>by unfold leI at*;simp at*;omega) (λa b=>by unfold leI;simp;omega) (λa b w d=>by unfold leI at*;simp at*;omega) h
def qsg{l m:List (List UInt8)}(d:l.Perm m):l.mergeSort (λx y=>decide (x<=y))=q91 leL m:=
 qij (le:=leL) (λa b c h w=>by unfold leL at*;simp only[yJ]at*;exact List.le_trans h w) (λa b=>by unfold leL;simp only[Cx,yJ];exact List.le_total a b) (λa b h w=>by unfold leL at*;simp only[yJ]at*;exact List.le_antisymm h w) d
section
variable{W w:World}{F M:List Asn}{itf:FuncId}{cap:Value}{N m:Nat}
def q3f{G:List Int->Prop}(e:q33 Zp itf=A6)(g:N<=1000000)(f:∀l,G l->l.length<=1000000)(a:q7b W (Zi Zk) itf cap M N G)(h:St W M w):
 qb Zp 33 #[.func (.func itf) #[] #[cap]] w λv w'=>∃l p c,v=Zl p (Ce l) c/\G l/\St W (qi 3 1 p l.length c ((q91 leI l).map (Zi Zk))::M) w':=by
 refine F33_of (F63_of ((AppI.AppSeq_spec e g a h).of λv w ⟨l,p,c,b,d,h⟩=>⟨_,_,_,b,_,_,_,rfl,?_⟩));have h:St W (qi 3 1 p l.length c (l.flatMap λx=>[Zi Zk x])::M) w:=h;rw[qt6]at h;refine(q1r (f l d) h).of λv w ⟨b,h⟩=>⟨b,l,p,c,rfl,d,?_⟩;rw[qee (List.Perm.refl l)]at h;exact h
def q3m{G:List ByteArray->Prop}(i:q33 Zp itf=A6)(k:N<=1000000)(j:∀l,G l->l.length<=1000000)(e:q7b W Zs itf cap M N G)(h:St W M w):
 qb Zp 154 #[.func (.func itf) #[] #[cap]] w λv w'=>∃l p c,v=Zl p (Ce l) c/\G l/\St W (qi 9 1 p l.length c ((q91 leS l).map Zs)::M) w':=by
 refine F154_of (F237_of ((AppS.AppSeq_spec i k e h).of λv w ⟨l,p,c,f,g,h⟩=>⟨_,_,_,f,_,_,_,rfl,?_⟩));have h:St W (qi 9 1 p l.length c (l.flatMap λx=>[Zs x])::M) w:=h;rw[qt6]at h;have e0:∀l:List ByteArray,l.map Zs=(l.map qm).map qc8:=λl=>by rw[List.map_map];exact List.map_congr_left λs _=>qch s
 rw[e0]at h;have d:l.length=(l.map qm).length:=by simp
 rw[d]at h⊢;refine(qvr (by rw[<-d];exact j l g) h).of λv w ⟨f,h⟩=>⟨f,l,p,c,by rw[<-d],g,?_⟩;rw[qsg (List.Perm.refl _)]at h;rw[e0,q5a qm (le:=leS) (le':=leL) (λa b=>rfl)];rw[<-d]at h;exact h
def q88{l m:List Int}(h:l.Perm m):q91 leI l=q91 leI m:=(qee (List.Perm.refl l)).symm.trans (qee h)
def q4j{l m:List ByteArray}(c:l.Perm m):q91 leS l=q91 leS m:=by
 have h:(q91 leS l).map qm=(q91 leS m).map qm:=by rw[q5a qm (le:=leS) (le':=leL) (λa b=>rfl),q5a qm (le:=leS) (le':=leL) (λa b=>rfl)];exact(qsg (List.Perm.refl _)).symm.trans (qsg (c.map qm))
 have w:∀a b:ByteArray,qm a=qm b->a=b:=λa b h=>by have:=yE mkS h;unfold qm at this;rwa[qd5,qd5]at this
 generalize q91 leS l=x at h;generalize q91 leS m=y at h;induction x generalizing y with
 |nil=>cases y with
  |nil=>rfl
  |cons b s=>simp at h
 |cons a r d=>cases y with
  |nil=>simp at h
  |cons b s=>simp only[B6,List.cons.injEq]at h;rw[w _ _ h.1,d s h.2]
def q3y{ν:Type}{vl:ν->A5}{L:List (Int×ν)}(e:L.length<=1000000){K:A5->A3->Prop}(n:Nat){l:List Asn}(h:St W l w)(d:nth l n=A1 (qg (Zi Zk) vl m L))
 (f:∀p c w',St W (qi 3 1 p L.length c ((q91 leI (L.map (·.1))).map (Zi Zk))::l) w'->K (Zl p L.length c) w'):
 qb Zp 93 #[.map (A1 m)] w λv w'=>qb Zp 33 #[v] w' K:=by
 refine F93_of (zh h λcap w h=>?_);have h:St W (Row cap 180 [.map (A1 m)]::qg (Zi Zk) vl m L::del l n) w:=z0c h (List.Perm.cons _ (q76 d));refine(q3f (by kernel_rfl) e (λl b=>by rw[b.length_eq,Ac];exact e) (qqs (Ao _)) h).of λv w ⟨g,p,c,i,b,h⟩=>?_;have a:g.length=L.length:=by rw[b.length_eq,Ac]
 rw[i,a];rw[a,q88 b]at h;exact f p c w (z0c (z03 1 h yR) (List.Perm.cons _ (q76 d).symm))
def qkn{ν:Type}{vl:ν->A5}{L:List (Int×ν)}(e:L.length<=1000000){K:A5->A3->Prop}(n:Nat){l:List Asn}(h:St W l w)(d:nth l n=A1 (qg (Zi Zk) vl m L))
 (f:∀p c w',St W (qi 3 1 p L.length c ((q91 leI (L.map (·.1))).map (Zi Zk))::l) w'->K (Zl p L.length c) w'):
 qb Zp 34 #[.map (A1 m)] w λv w'=>qb Zp 33 #[v] w' K:=by
 refine F34_of (zh h λcap w h=>?_);have h:St W (Row cap 79 [.map (A1 m)]::qg (Zi Zk) vl m L::del l n) w:=z0c h (List.Perm.cons _ (q76 d));refine(q3f (by kernel_rfl) e (λl b=>by rw[b.length_eq,Ac];exact e) (qdu (Ao _)) h).of λv w ⟨g,p,c,i,b,h⟩=>?_;have a:g.length=L.length:=by rw[b.length_eq,Ac]
 rw[i,a];rw[a,q88 b]at h;exact f p c w (z0c (z03 1 h yR) (List.Perm.cons _ (q76 d).symm))
def q6y{ν:Type}{vl:ν->A5}{L:List (ByteArray×ν)}(e:L.length<=1000000){K:A5->A3->Prop}(n:Nat){l:List Asn}(h:St W l w)(d:nth l n=A1 (qg (Zs) vl m L))
 (f:∀p c w',St W (qi 9 1 p L.length c ((q91 leS (L.map (·.1))).map (Zs))::l) w'->K (Zl p L.length c) w'):
 qb Zp 155 #[.map (A1 m)] w λv w'=>qb Zp 154 #[v] w' K:=by
 refine F155_of (zh h λcap w h=>?_);have h:St W (Row cap 166 [.map (A1 m)]::qg (Zs) vl m L::del l n) w:=z0c h (List.Perm.cons _ (q76 d));refine(q3m (by kernel_rfl) e (λl b=>by rw[b.length_eq,Ac];exact e) (qvt (Ao _)) h).of λv w ⟨g,p,c,i,b,h⟩=>?_;have a:g.length=L.length:=by rw[b.length_eq,Ac]
 rw[i,a];rw[a,q4j b]at h;exact f p c w (z0c (z03 1 h yR) (List.Perm.cons _ (q76 d).symm))
end
end
end Go.Proofs.YtfjifcfbmhpcaaaGreatDoor
