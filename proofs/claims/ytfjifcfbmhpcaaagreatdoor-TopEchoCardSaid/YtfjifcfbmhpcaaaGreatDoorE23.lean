/-
  A part of the proof of TopEcho.
-/
import Derived.Test.YtfjifcfbmhpcaaaGreatDoorE22
import Derived.Test.YtfjifcfbmhpcaaaGreatDoorE03
import Derived.Test.YtfjifcfbmhpcaaaGreatDoorE14
import Derived.Test.YtfjifcfbmhpcaaaGreatDoorE20
import Derived.Test.YtfjifcfbmhpcaaaGreatDoorE00
set_option linter.defProp false
set_option linter.unusedVariables false
set_option linter.unusedSimpArgs false
namespace Go.Proofs.YtfjifcfbmhpcaaaGreatDoor
open Go
open Go.Proofs.Tryz renaming prog → Zp
open Go.IntKind renaming i64 → Zk, wrap → Zw
open Go.Value renaming int → Zi, string → Zs, pointer → Zq, bool → Zb, tuple → Zt, slice → Zl
open _root_.Option renaming some->A0,none->A2,getD_some->B2
open _root_.List renaming mem_map->A1,length_cons->A4,getElem?_eq_some_iff->A5,map_cons->A6,mem_cons->A7,mem_cons_of_mem->A8,eq_nil_of_length_eq_zero->A9,filter_eq_self->Aa,mem_cons_self->Ab,filter_append->Ac,length_nil->Ad,length_filter_le->Af,nodup_cons->Ag,length_append->Ah,length_map->Ai,getElem?_set->An,filter_eq_nil_iff->Ap,map_append->Aq,perm_append_comm->Ar,set_getElem_self->Au,getElem?_of_mem->Av,mem_of_getElem?->Aw,pairwise_cons->Ax,filter_filter->Ay,map_map->Az,cons_append->B0,filter_cons->B1,perm_middle->B3,length_take->B4,isEmpty_iff->B5,length_set->B6,sum_cons->B7,flatMap->Ba
open _root_.Bool renaming false->A3,and_false->Ak,not_false->Am,and_true->Ao,true->As,or_false->B9,or_true->Bb
open _root_.Prod.mk renaming injEq->Ae
open Go renaming World->Aj,Value->Bc,Addr->Bd
section
namespace Ck
def uInt:Zp.underlying 3=A0 (.int Zk):=Tryz.underlying3
def uIs:Zp.underlying 28=A0 (.slice 3):=Tryz.underlying28
def iInt:Zp.info? 3=A0 Tryz.t3:=by kernel_rfl
def sInt:Tryz.t3.size=1:=rfl
def zInt:Tryz.t3.zero=A0 (Zi Zk 0):=rfl
def bInt:Tryz.t3.bytes=8:=rfl
def uM:Zp.underlying 183=A0 (.map 3 316):=Tryz.underlying183
def kI:qw2 Zp 3 (Zi Zk):=qw2.i64 uInt
def iV1(x:Int):(iV x).length=1:=rfl
def iVn(x:Int):∀v∈iV x,qn1 v:=λv h=>by simp[iV]at h;subst h;trivial
def gnone{l:List Al}{id:Int}:getA l id=A2↔∀x∈l,x.1≠id:=get_none
def ptV(b:Nat):Bc:=Zq (A0 ⟨b,0,A2⟩)
structure CRep(l:List AD)(D:List (Int×Nat))(al:List Al):Prop where
 ok:HOk l
 heap:HeapF leA l.length (fK l)
 keys:((l.map coreD).map (·.2)).Perm al
 srt:Srt al
 many:al.length<=1024
 dm:∀id b,qe D id=A0 b↔∃tm,(b,id,tm)∈l.map coreD
def ClockA(c:Nat)(G:ClG):Asn:=exA λx:Nat×Option Bd×Nat×List AD×List (Int×Nat)=>qz [
 prA (CRep x.2.2.2.1 x.2.2.2.2 G.al/\COk G),Row c 187 [Zi Zk G.now,.slice x.2.1 x.2.2.2.1.length x.2.2.1,.map (A0 x.1)],SlA 316 1 ptD x.2.1 x.2.2.1 x.2.2.2.1,alsA x.2.2.2.1,qg (Zi Zk) ptV x.1 x.2.2.2.2]
section
variable{W w:World}{F:List Asn}{c m:Nat}{p:Option Addr}{cap:Nat}{l:List AD}{D:List (Int×Nat)}{G:ClG}{al:List Al}
def ClockA.open_(h:St W (ClockA c G::F) w):∃m p cap l D,CRep l D G.al/\COk G/\St W (HL c G.now (A0 m) p cap l (qg (Zi Zk) ptV m D::F)) w:=by obtain⟨⟨m,p,cap,l,D⟩,h⟩:=h.of_ex;obtain⟨⟨b,a⟩,h⟩:=h.of_sep.of_pr;exact⟨m,p,cap,l,D,b,a,h⟩
def ClockA.shut(b:CRep l D G.al)(a:COk G)(h:St W (HL c G.now (A0 m) p cap l (qg (Zi Zk) ptV m D::F)) w):St W (ClockA c G::F) w:=
 z01 (m,p,cap,l,D) (zk (l:=[_,_,_,_,_]) (z02 ⟨b,a⟩ h))
def ClockA.ok(h:St W (ClockA c G::F) w):COk G:=by obtain⟨m,p,cap,l,D,_,a,_⟩:=ClockA.open_ h;exact a
def CRep.nil:CRep [] [] []:=⟨⟨λi d h=>by simp at h,by simp,by simp⟩,λk _ h=>by simp at h,.refl _,⟨.nil,.nil⟩,by simp,λid b=>by simp[qe]⟩
def CRep.len(h:CRep l D al):l.length=al.length:=by have:=h.keys.length_eq;simpa using this
def core_mem{l:List AD}{b:Nat}{id tm:Int}:(b,id,tm)∈l.map coreD↔∃(i:Nat) (d:AD),l[i]?=A0 d/\coreD d=(b,id,tm):=by
 rw[A1];constructor
 .rintro⟨d,w,e⟩;obtain⟨i,h⟩:=Av w;exact⟨i,d,h,e⟩
 .rintro⟨i,d,h,e⟩;exact⟨d,Aw h,e⟩
def CRep.get_some(h:CRep l D al){id:Int}{b:Nat}(a:qe D id=A0 b):∃(i:Nat) (d:AD),l[i]?=A0 d/\d.b=b/\d.id=id/\getA al id=A0 d.tm:=by obtain⟨tm,w⟩:=(h.dm id b).1 a;obtain⟨i,d,f,e⟩:=core_mem.1 w;simp only[coreD,Ae]at e;obtain⟨j,g,c⟩:=e;refine⟨i,d,f,j,g,(find_mem h.srt.2).2 ?_⟩;rw[<-h.keys.mem_iff];exact A1.2 ⟨_,w,by rw[c]⟩
def CRep.get_none(h:CRep l D al){id:Int}(a:qe D id=A2):getA al id=A2:=by
 cases hg:getA al id with
 |none=>rfl
 |some tm=>have w:=(find_mem h.srt.2).1 hg;rw[<-h.keys.mem_iff]at w;obtain⟨⟨b,x⟩,c,e⟩:=A1.1 w;simp only at e;subst e;have:=(h.dm id b).2 ⟨tm,c⟩;rw[a]at this;cases this
def CRep.isSome(h:CRep l D al)(id:Int):(qe D id).isSome=(getA al id).isSome:=by
 cases hb:qe D id with
 |none=>rw[h.get_none hb];rfl
 |some b=>obtain⟨i,d,_,_,_,w⟩:=h.get_some hb;rw[w];rfl
def del_cons{al E:List Al}{id tm:Int}(a:((id,tm)::E).Perm al)(f:(al.map (·.1)).Nodup):(delA al id).Perm E:=by
 have w:(delA ((id,tm)::E) id).Perm (delA al id):=a.filter _;have d:delA ((id,tm)::E) id=delA E id:=by unfold delA;simp
 have c:delA E id=E:=by unfold delA;rw[Aa];intro x b;have h:(((id,tm)::E).map (·.1)).Nodup:=(a.map (λx:Al=>x.1)).nodup_iff.2 f;simp only[A6,Ag]at h;have:x.1≠id:=λe=>h.1 (by rw[<-e];exact A1.2 ⟨x,b,rfl⟩);simpa using this
 rw[d,c]at w;exact w.symm
def CRep.del{l':List AD}{d:AD}(m:(D.map (·.1)).Nodup)(h:CRep l D al)(k:HOk l')(n:HeapF leA l'.length (fK l'))(j:(l.map coreD).Perm (coreD d::l'.map coreD)):CRep l' (qp D d.id) (delA al d.id):=by
 have w:((d.id,d.tm)::(l'.map coreD).map (·.2)).Perm al:=((j.map (λc:Nat×Al=>c.2)).symm.trans h.keys);have f:=h.srt.2;refine⟨k,n,(del_cons w f).symm,delA_srt h.srt _,Nat.le_trans (delA_sub al _).length_le h.many,λid b=>?_⟩;rw[qaa m];have g:(((d.id,d.tm)::(l'.map coreD).map (·.2)).map (·.1)).Nodup:=(w.map (λx:Al=>x.1)).nodup_iff.2 f;simp only[A6,Ag]at g;by_cases e:d.id=id
 .rw[yB e];constructor;.intro h;cases h
  .rintro⟨tm,a⟩;exact yI (A1.2 ⟨(id,tm),A1.2 ⟨_,a,rfl⟩,e.symm⟩) g.1
 .rw[yA e,h.dm];constructor
  .rintro⟨tm,a⟩;rcases A7.1 (j.mem_iff.1 a)with i|i
   .simp only[coreD,Ae]at i;exact yI i.2.1.symm e
   .exact⟨tm,i⟩
  .rintro⟨tm,a⟩;exact⟨tm,j.mem_iff.2 (A8 _ a)⟩
def CRep.reset{l':List AD}{d:AD}{i:Nat}{tm:Int}(h:CRep l D al)(m:l[i]?=A0 d)(p:HOk l')(r:HeapF leA l'.length (fK l'))(s:(l'.map coreD).Perm ((l.set i { d with tm:=tm}).map coreD)):CRep l' D (insA (d.id,tm) (delA al d.id)):=by
 have k:=(A5.1 m).1;have q:((l.set i { d with tm:=tm}).map coreD).Perm ((d.b,d.id,tm)::(l.eraseIdx i).map coreD):=(set_erase l i { d with tm:=tm} k).map coreD;have a:(l.map coreD).Perm (coreD d::(l.eraseIdx i).map coreD):=(erase_perm l i m).map coreD;have g:((d.id,d.tm)::((l.eraseIdx i).map coreD).map (·.2)).Perm al:=((a.map (λc:Nat×Al=>c.2)).symm.trans h.keys);have n:=del_cons g h.srt.2;have w:=s.trans q;have f:((l'.map coreD).map (·.2)).Perm (insA (d.id,tm) (delA al d.id)):=(w.map (λc:Nat×Al=>c.2)).trans ((n.symm.cons _).trans (insA_perm _ _).symm);refine⟨p,r,f,insA_srt (delA_srt h.srt _) λy u=>(delA_mem.1 u).2,?_,λid b=>?_⟩
 .have o:=f.length_eq;have a2:=w.length_eq;have a3:=a.length_eq;have a4:=h.keys.length_eq;have a5:=h.many;simp only[Ai,A4]at o a2 a3 a4;omega
 .rw[h.dm];constructor
  .rintro⟨t,j⟩;rcases A7.1 (a.mem_iff.1 j)with e|e
   .simp only[coreD,Ae]at e;exact⟨tm,w.mem_iff.2 (by rw[e.1,e.2.1];exact Ab)⟩
   .exact⟨t,w.mem_iff.2 (A8 _ e)⟩
  .rintro⟨t,j⟩;rcases A7.1 (w.mem_iff.1 j)with e|e
   .simp only[Ae]at e;exact⟨d.tm,a.mem_iff.2 (by rw[e.1,e.2.1];exact Ab)⟩
   .exact⟨t,a.mem_iff.2 (A8 _ e)⟩
def CRep.add{l':List AD}{d:AD}(h:CRep l D al)(g:getA al d.id=A2)(n:al.length<1024)(k:HOk l')(m:HeapF leA l'.length (fK l'))(f:(l'.map coreD).Perm (coreD d::l.map coreD)):CRep l' (qk D d.id d.b) (insA (d.id,d.tm) (delA al d.id)):=by
 rw[delA_none g];have j:((l'.map coreD).map (·.2)).Perm (insA (d.id,d.tm) al):=(f.map (λc:Nat×Al=>c.2)).trans ((h.keys.cons _).trans (insA_perm _ _).symm);refine⟨k,m,j,insA_srt h.srt λy o=>gnone.1 g y o,by rw[(insA_perm _ _).length_eq,A4];omega,λid b=>?_⟩;rw[qh2];have i:∀b tm,(b,d.id,tm)∉l.map coreD:=λb tm a=>by have:=(h.keys.mem_iff).1 (A1.2 ⟨_,a,rfl⟩);exact gnone.1 g _ this rfl
 by_cases e:d.id=id
 .rw[yB e];subst e;constructor
  .intro w;cases w;exact⟨d.tm,f.mem_iff.2 Ab⟩
  .rintro⟨tm,a⟩;rcases A7.1 (f.mem_iff.1 a)with w|w
   .simp only[coreD,Ae]at w;rw[w.1]
   .exact yI w (i _ _)
 .rw[yA e,h.dm];constructor
  .rintro⟨tm,a⟩;exact⟨tm,f.mem_iff.2 (A8 _ a)⟩
  .rintro⟨tm,a⟩;rcases A7.1 (f.mem_iff.1 a)with w|w
   .simp only[coreD,Ae]at w;exact yI w.2.1.symm e
   .exact⟨tm,w⟩
def CRep.idIn(h:CRep l D al){id:Int}(w:getA al id=A2):∀x∈l,x.id≠id:=λx a e=>by have:=(h.keys.mem_iff).1 (A1.2 ⟨coreD x,A1.2 ⟨x,a,rfl⟩,rfl⟩);exact gnone.1 w _ this e
def New_spec(h:St W F w):qb Zp 43 #[] w λv w'=>∃c,v=Zq (A0 ⟨c,0,A2⟩)/\St W (ClockA c ⟨0,[]⟩::F) w':=by
 refine F43_of (qs5.n (Zi Zk) ptV h λm w1 h=>zh h λc a h=>⟨c,rfl,?_⟩);have g:St W (Row c 187 [Zi Zk 0,Zl A2 0 0,.map (A0 m)]::qg (Zi Zk) ptV m []::F) a:=by refine h.perm (List.Perm.cons _ Ar)
 refine ClockA.shut (m:=m) (l:=[]) (D:=[]) (p:=A2) (cap:=0) CRep.nil COk.new ?_;have d:St W (alsA []::Row c 187 [Zi Zk 0,Zl A2 0 0,.map (A0 m)]::qg (Zi Zk) ptV m []::F) a:=zk (l:=[]) g;have b:=z0a (α:=AD) (e:=316) (size:=1) (f:=ptD) (p:=A2) d;exact b.p2
def Now_spec(h:St W (ClockA c G::F) w):qb Zp 60 #[Zq (A0 ⟨c,0,A2⟩)] w λv w'=>v=Zi Zk G.now/\St W (ClockA c G::F) w':=by obtain⟨m,p,cap,l,D,b,a,h⟩:=ClockA.open_ h;exact F60_of (z7 (z8 0 h rfl rfl ⟨rfl,ClockA.shut b a h⟩))
def Set_spec(id tm:Int)(a:St W (ClockA c G::F) w):
 qb Zp 187 #[Zq (A0 ⟨c,0,A2⟩),Zi Zk id,Zi Zk tm] w λv w'=>v=Zi Zk (cSet G id tm).2/\St W (ClockA c (cSet G id tm).1::F) w':=by
 obtain⟨m,p,cap,l,D,g,N,a⟩:=ClockA.open_ a;have R:=g.len;have J:=g.many;refine F187_of (z7 (zv 0 a rfl rfl (qq1 kI uM iPt zPt 3 a rfl id As ?_)));rw[yB rfl];refine⟨((qe D id).map λb=>(⟨b,0,A2⟩:Bd)),(qe D id).isSome,by cases qe D id<;>rfl,z7 (z8 0 a rfl rfl ?_)⟩;refine⟨λvs w=>vs=[Zb (decide (tm<=G.now\/tm>2199023255552))]/\St W (HL c G.now (A0 m) p cap l (qg (Zi Zk) ptV m D::F)) w,za (λh=>⟨?_,a⟩) λh=>⟨?_,a⟩,λb w Y=>?_⟩
 .have n:=yC h;rw[h,yG (.inl n)]
 .have n:=yD h;congr 2;rw[decide_eq_decide];constructor;.exact .inr
  .rintro(o|o);.exact yI o n
   .exact o
 obtain⟨T,a⟩:=Y;cases T;refine za (λh=>?_) λh=>?_
 .have h:=yC h;unfold cSet;rw[yB h];exact⟨rfl,ClockA.shut g N a⟩
 have h:=yD h;have f:=N.set id tm;unfold cSet at f⊢;rw[yA h]at f⊢;have Z:=g.isSome id;cases hb:qe D id with
 |some b=>
  obtain⟨i,d,r,rfl,rfl,z⟩:=g.get_some hb;have q:=(A5.1 r).1;rw[z]at f⊢;rw[yA (by simp)]at f⊢;refine zm rfl (z7 ?_);refine alsA.put (y:={ d with tm:=tm}) (a.at 2 rfl) r (j:=1) (by decide) rfl rfl λw X=>?_;have a:St W (HL c G.now (A0 m) p cap l (qg (Zi Zk) ptV m D::F)) w\/True:=.inr trivial;have a:St W (Row c 187 [Zi Zk G.now,Zl p l.length cap,.map (A0 m)]::SlA 316 1 ptD p cap l::alsA (l.set i { d with tm:=tm})::qg (Zi Zk) ptV m D::F) w:=X.p2.p2;have I:SlA 316 1 ptD p cap l=SlA 316 1 ptD p cap (l.set i { d with tm:=tm}):=by
   unfold SlA;rw[B6,<-flat_set pt1 l i { d with tm:=tm} (Zq (A0 ⟨d.b,0,A2⟩)) rfl];have M:(l.flatMap ptD)[i]?=A0 (Zq (A0 ⟨d.b,0,A2⟩)):=by have:=qn9 pt1 (i:=i) (j:=0) r (v:=Zq (A0 ⟨d.b,0,A2⟩)) rfl;simpa using this
   obtain⟨n,o⟩:=A5.1 M;rw[<-o,Au]
  rw[I]at a;have C:(l.set i { d with tm:=tm}).length=l.length:=B6;rw[<-C]at a;have t:(l.set i { d with tm:=tm})[i]?=A0 { d with tm:=tm}:=by rw[An,yB rfl,yB q]
  have A:HoleI leA (l.set i { d with tm:=tm}).length (fK (l.set i { d with tm:=tm})) i:=by rw[C];refine g.heap.hole leA_ord q λk U=>?_;unfold fK;rw[An,yA (Ne.symm U)]
  have O:HOk (l.set i { d with tm:=tm}):=by
   refine⟨λk x s=>?_,?_,by rw[C];exact g.ok.small⟩
   .rw[An]at s;by_cases e:i=k
    .rw[yB e,yB q]at s;cases s;rw[<-e];exact g.ok.pl i d r
    .rw[yA e]at s;exact g.ok.pl k x s
   .have e:(l.set i { d with tm:=tm}).map (·.id)=l.map (·.id):=by
     rw[List.map_set];have M:(l.map (·.id))[i]?=A0 d.id:=by rw[List.getElem?_map,r];rfl
     obtain⟨n,o⟩:=A5.1 M;show(l.map (·.id)).set i d.id=_;rw[<-o,Au]
    rw[e];exact g.ok.nd
  have H:=O.pl i _ t;have Q:=z6 W (HL c G.now (A0 m) p cap (l.set i { d with tm:=tm}) (qg (Zi Zk) ptV m D::F));refine⟨StC W _,zd a,z7 (z7 ⟨(i:Int),z0g λK w hw=>?_,?_⟩)⟩
  .have:=HL.al Q hw t (j:=2) (v:=Zi Zk d.pl) rfl;rw[show d.pl=(i:Int)from H]at this;exact this
  refine zn (α:=List AD) (V:=λ_=>Zt #[]) (B:=λl'=>prA (HOk l'/\HeapF leA l'.length (fK l')/\(l'.map coreD).Perm ((l.set i { d with tm:=tm}).map coreD))::HL c G.now (A0 m) p cap l' (qg (Zi Zk) ptV m D::F)) [] Q (λK w h=>?_) λl'=>⟨rfl,trivial,λK w h=>⟨rfl,?_⟩⟩;.exact(Fix_spec (F:=qg (Zi Zk) ptV m D::(F++pts K)) O A (by rw[C];exact q) h).of λv w' ⟨E,l',n,o,u,L⟩=>⟨E,l',rfl,z02 ⟨n,o,u⟩ L⟩
  obtain⟨⟨n,o,u⟩,a⟩:=(zb h).of_pr;exact ClockA.shut (G:=⟨G.now,insA (d.id,tm) (delA G.al d.id)⟩) (g.reset r n o u) f a
 |none=>
  have z:=g.get_none hb;rw[z]at f⊢;refine zl rfl (z7 (zt 0 a rfl rfl (za (λn=>?_) λn=>?_)))
  .have n:(l.length:Int)=1024:=by simpa using n
   rw[yB ⟨rfl,by omega⟩];exact⟨rfl,ClockA.shut g N a⟩
  .have n:¬(l.length:Int)=1024:=by simpa using n
   rw[yA (by rintro⟨_,o⟩;omega)]at f⊢;refine zh a λb w a=>z7 ?_;have a:St W (rowD ⟨b,id,tm,0⟩::HL c G.now (A0 m) p cap l (qg (Zi Zk) ptV m D::F)) w:=a;refine zv 1 a rfl rfl (qh1 kI uM 4 a rfl id b λw a=>z7 ?_);have a:St W (rowD ⟨b,id,tm,0⟩::HL c G.now (A0 m) p cap l (qg (Zi Zk) ptV m (qk D id b)::F)) w:=a;refine(Push_spec (d:=⟨b,id,tm,0⟩) g.ok g.heap (g.idIn z) (by omega) a).of λv w ⟨E,p',P,l',o,u,L,a⟩=>⟨E,rfl,?_⟩;exact ClockA.shut (G:=⟨G.now,insA (id,tm) (delA G.al id)⟩) (g.add (d:=⟨b,id,tm,0⟩) z (by omega) o u L) f a
def Drop_spec(id:Int)(a:St W (ClockA c G::F) w):
 qb Zp 144 #[Zq (A0 ⟨c,0,A2⟩),Zi Zk id] w λv w'=>v=Zb (cDrop G id).2/\St W (ClockA c (cDrop G id).1::F) w':=by
 obtain⟨m,p,cap,l,D,e,u,a⟩:=ClockA.open_ a;have z:=z18 kI (a.at 3 rfl);refine F144_of (z7 (zv 0 a rfl rfl (qq1 kI uM iPt zPt 3 a rfl id As ?_)));rw[yB rfl];have f:=u.drop id;unfold cDrop at f⊢;cases hb:qe D id with
 |none=>have g:=e.get_none hb;refine⟨A2,A3,rfl,zl rfl ?_⟩;rw[g,delA_none g];exact⟨rfl,ClockA.shut e u a⟩
 |some b=>
  obtain⟨i,d,r,rfl,rfl,g⟩:=e.get_some hb;have k:=e.ok.pl i d r;have t:=z6 W (HL c G.now (A0 m) p cap l (qg (Zi Zk) ptV m D::F));refine⟨A0 ⟨d.b,0,A2⟩,As,rfl,zm rfl ⟨StC W _,zd a,z7 (z7 ⟨(i:Int),z0g λs w E=>?_,?_⟩)⟩⟩
  .have:=HL.al t E r (j:=2) (v:=Zi Zk d.pl) rfl;rw[k]at this;exact this
  refine zn (α:=AD×List AD) (V:=λ_=>.iface 316 (Zq (A0 ⟨d.b,0,A2⟩))) (B:=λx=>prA (HOk x.2/\HeapF leA x.2.length (fK x.2)/\(l.map coreD).Perm (coreD d::x.2.map coreD))::rowD x.1::HL c G.now (A0 m) p cap x.2 (qg (Zi Zk) ptV m D::F)) (d,[]) t (λs w h=>?_) λx=>⟨trivial,λs w h=>z7 ?_⟩;.exact(Remove_spec (F:=qg (Zi Zk) ptV m D::(F++pts s)) e.ok e.heap r h).of λv w' ⟨C,l',H,A,n,q,o,y⟩=>⟨(C,l'),A,z02 ⟨n,q,o⟩ y⟩
  obtain⟨⟨n,q,o⟩,a⟩:=(zb h).of_pr;refine zv 1 a rfl rfl (qc5 kI uM 4 a rfl d.id λw a=>⟨?_,?_⟩);.rw[g];rfl
  .have a:St W (rowD x.1::HL c G.now (A0 m) p cap x.2 (qg (Zi Zk) ptV m (qp D d.id)::F)) w:=a;exact ClockA.shut (G:=⟨G.now,delA G.al d.id⟩) (e.del z n q o) f a.drop
end
end Ck
end
section
namespace Ck
def leftZ(n:Nat):List Bc->Aj->Nat:=λvs _=>match vs.head? with
 |some (.slice _ i _)=>n - i
 |_=>0
def filt_split{t:Int}{done rest:List Al}(a:∀x∈done,x.2<=t)(w:∀x∈rest,¬x.2<=t):((done++rest).filter λx=>decide (x.2<=t))=done/\((done++rest).filter λx=>decide (¬x.2<=t))=rest:=by
 constructor;.rw[Ac,Aa.2 (λx h=>by simpa using a x h),Ap.2 (λx h=>by simpa using w x h),List.append_nil]
 .rw[Ac,Ap.2 (λx h=>by simpa using a x h),Aa.2 (λx h=>by simpa using w x h),List.nil_append]
section
variable{W w:World}{F:List Asn}{c m:Nat}{p:Option Addr}{cap:Nat}{l:List AD}{D:List (Int×Nat)}{G:ClG}{al:List Al}
def CRep.head{x:Al}{r:List Al}{d:AD}(h:CRep l D (x::r))(w:l[0]?=A0 d):keyD d=x:=by
 have j:=(A5.1 w).1;have f:keyD d∈x::r:=by rw[<-h.keys.mem_iff];exact A1.2 ⟨coreD d,A1.2 ⟨d,Aw w,rfl⟩,rfl⟩
 have c:leA x (keyD d):=by
  rcases A7.1 f with e|e;.rw[e];exact(leA_ord.total _ _).elim id id
  .exact(Ax.1 h.srt.1).1 _ e
 have b:x∈(l.map coreD).map (·.2):=h.keys.mem_iff.2 Ab;obtain⟨n,g,e⟩:=A1.1 b;obtain⟨y,m,rfl⟩:=A1.1 g;obtain⟨k,a⟩:=Av m;have i:leA (keyD d) x:=by have:=h.heap.least leA_ord k (A5.1 a).1;rw[fK_at w,fK_at a]at this;rw[<-e];exact this
 exact leA_anti i c
def delA_head{x:Al}{r:List Al}(h:((x::r).map (·.1)).Nodup):delA (x::r) x.1=r:=by simp only[A6,Ag]at h;unfold delA;rw[List.filter_cons_of_neg (by simp),Aa];intro y w;have:y.1≠x.1:=λe=>h.1 (by rw[<-e];exact A1.2 ⟨y,w,rfl⟩);simpa using this
def Tick_spec(n:Int)(hn: -9223372036854775808<=n/\n<=9223372036854775807)(a:St W (ClockA c G::F) w):
 qb Zp 127 #[Zq (A0 ⟨c,0,A2⟩),Zi Zk n] w λv w'=>∃C A,v=Zt #[.slice C (cTick G n).2.1.length A,Zi Zk (cTick G n).2.2]/\St W (ClockA c (cTick G n).1::SlA 3 1 iV C A (cTick G n).2.1::F) w':=by
 have hG:=ClockA.ok a;have hn0:=hG.now0;have hn1:=hG.now1;have hmn:maxN=1099511627776:=rfl;have i:=hG.tick n;have R:n<0\/n>maxN - G.now->∀w,St W (ClockA c G::F) w->∃C A,Zt #[Zl A2 0 0,Zi Zk 1]=Zt #[.slice C (cTick G n).2.1.length A,Zi Zk (cTick G n).2.2]/\St W (ClockA c (cTick G n).1::SlA 3 1 iV C A (cTick G n).2.1::F) w:=λh w a=>by unfold cTick;rw[yB h];exact⟨A2,0,rfl,(z0a a).p1⟩
 refine F127_of (za (λh=>R (.inl (yC h)) w a) λh=>?_);have h:=yD h;have O:=a;obtain⟨m,p,cap,l,D,o,_,a⟩:=ClockA.open_ a;refine z7 (z8 0 a rfl rfl ?_);rw[w64 (n:=1099511627776 - G.now) (by omega) (by omega)];refine za (λh2=>R (.inr (yC h2)) w O) λh2=>?_;have h2:=yD h2;clear O;have hnc:¬(n<0\/n>maxN - G.now):=by omega
 unfold cTick at i⊢;rw[yA hnc]at i⊢;dsimp only at i⊢;refine z7 (z8 0 a rfl rfl (z7 ?_));rw[w64 (n:=G.now+n) (by omega) (by omega)];refine St1.zz 0 a rfl λw a=>?_;have a:St W (HL c (G.now+n) (A0 m) p cap l (qg (Zi Zk) ptV m D::F)) w:=a;generalize ht:G.now+n=t at a i⊢;have a:St W (HL c t (A0 m) p cap l (qg (Zi Zk) ptV m D::SlA 3 1 iV A2 0 (List.map (·.1) ([]:List Al))::F)) w:=zf 0 4 (z0a (α:=Int) (e:=3) (size:=1) (f:=iV) (p:=A2) a) rfl;refine⟨λvs w=>∃p cap l D done b p1 c1,vs=[Zl p1 (done.map (λx:Al=>x.1)).length c1]/\G.al=done++b/\(∀x∈done,x.2<=t)/\CRep l D b/\St W (HL c t (A0 m) p cap l (qg (Zi Zk) ptV m D::SlA 3 1 iV p1 c1 (done.map (λx:Al=>x.1))::F)) w,leftZ (G.al.length+1),⟨p,cap,l,D,[],G.al,A2,0,rfl,rfl,by simp,o,a⟩,λE n2 K w hI=>?_⟩;clear o a;obtain⟨p,cap,l,D,done,b,p1,c1,he,u,k,o,a⟩:=hI;cases he;have X:=o.len;have hmany:=hG.many;have U:∀w,(∀x∈b,¬x.2<=t)->St W (HL c t (A0 m) p cap l (qg (Zi Zk) ptV m D::SlA 3 1 iV E K (done.map (λx:Al=>x.1))::F)) w->∃C A,Zt #[Zl E (done.map (λx:Al=>x.1)).length K,Zi Zk 0]=Zt #[.slice C ((G.al.filter λx=>decide (x.2<=t)).map (λx:Al=>x.1)).length A,Zi Zk 0]/\St W (ClockA c ⟨t,G.al.filter λx=>decide (¬x.2<=t)⟩::SlA 3 1 iV C A ((G.al.filter λx=>decide (x.2<=t)).map (λx:Al=>x.1))::F) w:=λw H a=>by obtain⟨e1,e2⟩:=filt_split k H;rw[u]at i⊢;rw[e1,e2];rw[e2]at i;exact⟨E,K,rfl,ClockA.shut (G:=⟨t,b⟩) o i a⟩
 have P:=z6 W (HL c t (A0 m) p cap l (qg (Zi Zk) ptV m D::SlA 3 1 iV E K (done.map (λx:Al=>x.1))::F));refine⟨StC W _,zd a,z7 ⟨_,_,_,QtL.a 0 P rfl rfl,za (λz=>?_) λL=>?_⟩⟩
 .have z:0<l.length:=by have:=yC z;omega
  obtain⟨d,hd⟩:=get_of z;obtain⟨x,r,rfl⟩:∃x r,b=x::r:=by
   cases b with
   |nil=>rw[Ad]at X;omega
   |cons x r=>exact⟨x,r,rfl⟩
  have Q:=o.head hd;refine z7 (z7 ⟨_,_,_,QtL.a 0 P rfl rfl,z10 P pt1 (by decide) HL.rd a rfl z hd λa26 h26=>⟨_,QtP.at λG w Z=>h26 Z 0 _ rfl,z7 ⟨_,z0g λG w Z=>HL.al P Z hd (j:=1) rfl,_,zj 0 P rfl rfl,λG' w Z=>?_⟩⟩⟩);have a:=zb Z;have J:d.tm=x.2:=by rw[<-Q];rfl
  have N:d.id=x.1:=by rw[<-Q];rfl
  refine za (λg=>?_) λg=>?_
  .have g:=yC g;have hk:=z18 kI (a.at 3 rfl);refine z7 ((Pop_spec o.ok o.heap hd a).of λv w ⟨d',l',T,hv,ho,hh,hp,a⟩=>?_);subst hv;obtain⟨b',id',tm',s⟩:=d';simp only[coreD,Ae]at T;obtain⟨rfl,rfl,rfl⟩:=T;have I:=z6 W (rowD ⟨d.b,d.id,d.tm,s⟩::HL c t (A0 m) p cap l' (qg (Zi Zk) ptV m D::SlA 3 1 iV E K (done.map (λx:Al=>x.1))::F));refine⟨_,assert_pt _,_,rfl,StC W _,zd a,z7 (z7 ⟨_,z0b 1 I rfl rfl,_,zj 0 I rfl rfl,?_⟩)⟩;refine Ef.n (α:=Unit) (V:=λ_=>Zt #[]) (B:=λ_=>[qg (Zi Zk) ptV m (qp D d.id)]) () 4 I rfl (λG' w h=>qc5 kI uM 0 h rfl d.id λw' h=>⟨(),rfl,?_⟩) λ_=>⟨rfl,trivial,λG' w h=>z7 ?_⟩;.exact z17 4 rfl (B:=[_]) h
   have a:=zb h;have a:St W (rowD ⟨d.b,d.id,d.tm,s⟩::HL c t (A0 m) p cap l' (qg (Zi Zk) ptV m (qp D d.id)::SlA 3 1 iV E K (done.map (λx:Al=>x.1))::F)) w:=a;refine z8 0 a rfl rfl (zh a λM w a=>?_);have a:St W (Row M 3 (Ba iV [d.id])::rowD ⟨d.b,d.id,d.tm,s⟩::HL c t (A0 m) p cap l' (qg (Zi Zk) ptV m (qp D d.id)::SlA 3 1 iV E K (done.map (λx:Al=>x.1))::F)) w:=a;have hdl:(done.map (λx:Al=>x.1)).length<=1024:=by have:=yE List.length u;rw[Ah]at this;rw[Ai];omega
   have hal':G.al.length=done.length+1+r.length:=by rw[u,Ah,A4];omega
   refine qf3 (os:=done.map (λx:Al=>x.1)) (xs:=[d.id]) iV1 uIs (.inr ⟨_,uIs⟩) iInt sInt zInt rfl 6 a rfl (z0k) rfl iVn (by rw[bInt];simp only[A4,Ad];omega) (by simp only[A4,Ad];omega) λp3 c3 w a=>⟨_,_,_,rfl,?_⟩;have a:St W (Row M 3 (Ba iV [d.id])::rowD ⟨d.b,d.id,d.tm,s⟩::HL c t (A0 m) p cap l' (qg (Zi Zk) ptV m (qp D d.id)::SlA 3 1 iV p3 c3 (done.map (λx:Al=>x.1)++[d.id])::F)) w:=a;have a:=a.drop.drop;have ed:done.map (λx:Al=>x.1)++[d.id]=(done++[x]).map (λx:Al=>x.1):=by rw[Aq,N];rfl
   rw[ed]at a⊢;have Y:=o.del (d:=d) hk ho hh hp;rw[show delA (x::r) d.id=r by rw[N];exact delA_head o.srt.2]at Y;refine⟨⟨p,cap,l',_,done++[x],r,p3,c3,rfl,by rw[u];simp,λy q=>?_,Y,a⟩,?_⟩
   .rcases List.mem_append.1 q with q|q;.exact k y q
    .simp at q;subst q;rw[<-J];exact g
   .show G.al.length+1 -((done++[x]).map (λx:Al=>x.1)).length<G.al.length+1 -(done.map (λx:Al=>x.1)).length;rw[Ai,Ai,Ah,A4,Ad];omega
  .have g:¬d.tm<=t:=yD g;refine U w (λy q=>?_) a;rcases A7.1 q with rfl|q;.rw[<-J];exact g
   .have h3:x.2<y.2\/(x.2=y.2/\x.1<=y.1):=(Ax.1 o.srt.1).1 y q;have h4:d.tm<=y.2:=by rw[J];rcases h3 with h3|h3<;>omega
    exact λh5=>g (Int.le_trans h4 h5)
 .have L:=yD L;have h0:b=[]:=A9 (by omega);subst h0;exact λG' w h=>U w (by simp) (zb h)
end
end Ck
end
namespace Qu
abbrev Name:=ByteArray
abbrev QG:=List (Name×Int)
def gL(G:QG)(n:Name):List Int:=(G.filter λx=>decide (x.1=n)).map (·.2)
def gW:QG->Int->Option Name
 |[],_=>A2
 |x::r,id=>if x.2=id then A0 x.1 else gW r id
def gDrop(G:QG)(id:Int):QG:=G.filter λx=>decide (x.2≠id)
def gPut(G:QG)(n:Name)(id:Int):QG×Int:=
 if(gW G id).isSome then(G,4)else if 8<=(gL G n).length\/64<=G.length then(G,2)else(G++[(n,id)],0)
structure QOk(G:QG):Prop where
 nod:(G.map (·.2)).Nodup
 row:∀n,(gL G n).length<=8
 all:G.length<=64
def gW_none{G:QG}{id:Int}:gW G id=A2↔id∉G.map (·.2):=by
 induction G with
 |nil=>simp[gW]
 |cons x r ih=>
  simp only[gW,A6,A7,not_or];split;.rename_i h;simp[h]
  .rename_i h;rw[ih];exact⟨λk=>⟨λe=>h e.symm,k⟩,λk=>k.2⟩
def gW_mem{G:QG}(w:(G.map (·.2)).Nodup){id:Int}{n:Name}(h:(n,id)∈G):gW G id=A0 n:=by
 induction G with
 |nil=>cases h
 |cons x r ih=>
  simp only[A6,Ag]at w;simp only[gW];rcases A7.1 h with h|h;.subst h;simp
  .have:x.2≠id:=λe=>w.1 (A1.2 ⟨_,h,e.symm⟩);rw[yA this];exact ih w.2 h
def mem_gL{G:QG}{n:Name}{id:Int}:id∈gL G n↔(n,id)∈G:=by
 unfold gL;simp only[A1,List.mem_filter,yJ];constructor;.rintro⟨x,⟨w,rfl⟩,rfl⟩;exact w
 .intro h;exact⟨_,⟨h,rfl⟩,rfl⟩
def gL_app(G H:QG)(n:Name):gL (G++H) n=gL G n++gL H n:=by simp[gL]
def gL_one(m n:Name)(id:Int):gL [(m,id)] n=if m=n then [id]else []:=by unfold gL;by_cases h:m=n<;>simp[h]
def gW_app(G:QG)(m:Name)(id j:Int)(h:gW G id=A2):gW (G++[(m,id)]) j=if id=j then A0 m else gW G j:=by
 induction G with
 |nil=>simp[gW]
 |cons x r a=>
  simp only[gW]at h;split at h;.cases h
  .rename_i w;simp only[B0,gW,a h];by_cases e:x.2=j;.rw[yB e,yB e,yA (λk=>w (e.trans k.symm))]
   .rw[yA e,yA e]
def gW_drop(G:QG)(id j:Int):gW (gDrop G id) j=if id=j then A2 else gW G j:=by
 induction G with
 |nil=>simp[gW,gDrop]
 |cons x r w=>
  unfold gDrop at w⊢;simp only[B1];by_cases h:x.2=id
  .simp only[h,ne_eq,not_true,decide_false,Bool.false_eq_true,if_false,w,gW];by_cases e:id=j;.rw[yB e,yB e]
   .rw[yA e,yA e,yA e]
  .simp only[ne_eq,h,not_false_eq_true,decide_true,if_true,gW,w];by_cases e:x.2=j;.rw[yB e,yB e,yA (λk=>h (e.trans k.symm))]
   .rw[yA e,yA e]
def gL_drop(G:QG)(id:Int)(n:Name):gL (gDrop G id) n=(gL G n).filter λx=>decide (x≠id):=by unfold gL gDrop;rw[List.filter_map,Ay,Ay];congr 1;refine List.filter_congr λx _=>?_;simp[Function.comp_def,Bool.and_comm]
def gDrop_len(G:QG)(id:Int):(gDrop G id).length<=G.length:=Af _ _
def QOk.nil:QOk []:=⟨by simp,λn=>by simp[gL],by simp⟩
def QOk.drop{G:QG}(h:QOk G)(id:Int):QOk (gDrop G id):=⟨(List.filter_sublist.map _).nodup h.nod,λn=>by rw[gL_drop];exact Nat.le_trans (Af _ _) (h.row n),Nat.le_trans (gDrop_len G id) h.all⟩
def QOk.put{G:QG}(h:QOk G)(n:Name)(id:Int):QOk (gPut G n id).1:=by
 unfold gPut;split;.exact h
 .rename_i w;split;.exact h
  .rename_i d;have w:gW G id=A2:=by simpa using w
   rw[not_or]at d;refine⟨?_,λm=>?_,by simp;omega⟩
   .rw[Aq];exact List.nodup_append.2 ⟨h.nod,by simp,λa f b c=>by simp at c;subst c;exact λe=>gW_none.1 w (e ▸ f)⟩
   .rw[gL_app,gL_one];by_cases e:n=m;.subst e;simp;omega
    .simp[e];exact h.row m
structure RepQ(rows:List (Name×List Int))(wh:List (Int×Name))(G:QG):Prop where
 ok:QOk G
 keys:(rows.map (·.1)).Nodup
 row:∀n,(qe rows n).getD []=gL G n
 full:∀x∈rows,x.2≠[]
 wh:∀id,qe wh id=gW G id
def RepQ.nil:RepQ [] [] []:=⟨QOk.nil,by simp,λn=>rfl,by simp,λid=>rfl⟩
def RepQ.nil_iff{w:List (Name×List Int)}{wh:List (Int×Name)}{G:QG}(h:RepQ w wh G){n:Name}:qe w n=A2↔gL G n=[]:=by
 have:=h.row n;constructor;.intro e;rw[e]at this;exact this.symm
 .intro e;cases hg:qe w n with
  |none=>rfl
  |some x=>rw[hg,e]at this;exact(h.full _ (qg3 hg) this).elim
def sumL(h:List (Name×List Int)):Nat:=(h.map λx=>x.2.length).sum
def count_rows(G:QG):∀(K:List Name),K.Nodup->(∀x∈G,x.1∈K)->(K.map λn=>(gL G n).length).sum=G.length:=by
 induction G with
 |nil=>intro K _ _;simp[gL];induction K with|nil=>rfl|cons a r ih=>simp_all
 |cons g r ih=>
  intro K c b;have f:=ih K c λx d=>b x (A8 _ d);have step:∀(K:List Name),K.Nodup->(g.1∈K->(K.map λn=>(gL (g::r) n).length).sum=(K.map λn=>(gL r n).length).sum+1)/\(g.1∉K->(K.map λn=>(gL (g::r) n).length).sum=(K.map λn=>(gL r n).length).sum):=by
   intro K;induction K with
   |nil=>intro _;simp
   |cons a K ihK=>
    intro w;simp only[Ag]at w;obtain⟨j,i2⟩:=ihK w.2;simp only[A6,B7,A7,not_or];have e:g.1=a->(gL (g::r) a).length=(gL r a).length+1:=λh=>by unfold gL;simp[h]
    have e':g.1≠a->(gL (g::r) a).length=(gL r a).length:=λh=>by unfold gL;simp[h]
    constructor
    .rintro(h|h)
     .have:g.1∉K:=by rw[h];exact w.1
      rw[e h,i2 this];omega
     .have:g.1≠a:=λe=>w.1 (e ▸ h);rw[e' this,j h];omega
    .rintro⟨h,i⟩;rw[e' h,i2 i]
  rw[(step K c).1 (b g Ab),f,A4]
def RepQ.sum{w:List (Name×List Int)}{wh:List (Int×Name)}{G:QG}(h:RepQ w wh G):sumL w=G.length:=by
 rw[<-count_rows G (w.map (·.1)) h.keys]
 .unfold sumL;rw[Az];congr 1;refine List.map_congr_left λx a=>?_;have b:=h.row x.1;rw[q24 h.keys (show(x.1,x.2)∈w from a)]at b;simp only[B2]at b;simp[b]
 .intro x a;have:x.2∈gL G x.1:=mem_gL.2 a;cases hg:qe w x.1 with
  |none=>rw[h.nil_iff.1 hg]at this;cases this
  |some l=>exact A1.2 ⟨_,qg3 hg,rfl⟩
def RepQ.put{w:List (Name×List Int)}{wh:List (Int×Name)}{G:QG}(h:RepQ w wh G){n:Name}{id:Int}(c:gW G id=A2)(g:(gL G n).length<8)(f:G.length<64):
 RepQ (qk w n ((qe w n).getD []++[id])) (qk wh id n) (G++[(n,id)]):=by
 have a:=h.ok.put n id;have d:gPut G n id=(G++[(n,id)],0):=by unfold gPut;rw[yA (by simp[c]),yA (by omega)]
 rw[d]at a;refine⟨a,qr7 h.keys _ _,λm=>?_,λx b=>?_,λj=>?_⟩
 .rw[qh2,gL_app,gL_one];by_cases e:n=m;.subst e;simp[h.row n]
  .simp[e,h.row m]
 .rcases aset_mem b with rfl|b;.simp
  .exact h.full x b
 .rw[qh2,gW_app _ _ _ _ c,h.wh]
where
 aset_mem {L:List (Name×List Int)} {k:Name} {v:List Int} {x:Name×List Int} (w:x∈qk L k v):x=(k,v)\/x∈L:=by
  induction L with
  |nil=>simp[qk]at w;exact .inl w
  |cons y r ih=>
   simp only[qk]at w
   split at w
   .rcases A7.1 w with h|h
    .exact .inl h
    .exact .inr (A8 _ h)
   .rcases A7.1 w with h|h
    .subst h;exact .inr Ab
    .rcases ih h with h|h
     .exact .inl h
     .exact .inr (A8 _ h)
def leftOver(h:List (Name×List Int))(n:Name)(id:Int):List Int:=((qe h n).getD []).filter λx=>decide (x≠id)
def dropRows(h:List (Name×List Int))(n:Name)(id:Int):List (Name×List Int):=
 if leftOver h n id=[]then qp (qk h n (leftOver h n id)) n else qk h n (leftOver h n id)
def RepQ.drop{w:List (Name×List Int)}{wh:List (Int×Name)}{G:QG}(h:RepQ w wh G)(k:(wh.map (·.1)).Nodup){n:Name}{id:Int}(l:gW G id=A0 n):
 RepQ (dropRows w n id) (qp wh id) (gDrop G id):=by
 have g:(qk w n (leftOver w n id)).map (·.1) |>.Nodup:=qr7 h.keys _ _
 have f:leftOver w n id=gL (gDrop G id) n:=by rw[gL_drop];unfold leftOver;rw[h.row]
 have b:∀m,n≠m->gL (gDrop G id) m=gL G m:=λm a=>by rw[gL_drop,Aa];intro x c;simp only[yJ];intro e;subst e;have:=gW_mem h.ok.nod (mem_gL.1 c);rw[l]at this;exact a (Option.some.inj this)
 refine⟨h.ok.drop id,?_,λm=>?_,λx c=>?_,λj=>?_⟩
 .unfold dropRows;split;.exact qph g n
  .exact g
 .unfold dropRows;split
  .rename_i e;rw[qaa g,qh2];by_cases a:n=m;.subst a;simp[<-f,e]
   .simp only[yA a,h.row,b m a]
  .rename_i e;rw[qh2];by_cases a:n=m;.subst a;simp[f]
   .simp only[yA a,h.row,b m a]
 .unfold dropRows at c;split at c
  .rename_i e;have i:=(q2a _ _).subset c;rcases RepQ.put.aset_mem i with rfl|d
   .have:=q24 (qph g n) c;rw[qaa g]at this;simp at this
   .exact h.full x d
  .rename_i e;rcases RepQ.put.aset_mem c with rfl|d;.exact e
   .exact h.full x d
 .rw[qaa k,gW_drop,h.wh]
end Qu
section
namespace Qu
def uIs:Zp.underlying 28=A0 (.slice 3):=Tryz.underlying28
def uInt:Zp.underlying 3=A0 (.int Zk):=Tryz.underlying3
def uS:Zp.underlying 9=A0 .string:=Tryz.underlying9
def uM1:Zp.underlying 169=A0 (.map 9 28):=Tryz.underlying169
def uM2:Zp.underlying 170=A0 (.map 3 9):=Tryz.underlying170
def iInt:Zp.info? 3=A0 Tryz.t3:=by kernel_rfl
def iIs:Zp.info? 28=A0 Tryz.t28:=by kernel_rfl
def iS:Zp.info? 9=A0 Tryz.t9:=by kernel_rfl
def sInt:Tryz.t3.size=1:=rfl
def zInt:Tryz.t3.zero=A0 (Zi Zk 0):=rfl
def bInt:Tryz.t3.bytes=8:=rfl
def zIs:Tryz.t28.zero=A0 (Zl A2 0 0):=rfl
def zS:Tryz.t9.zero=A0 (Zs ⟨#[]⟩):=rfl
def kS:qw2 Zp 9 Zs:=qw2.str uS
def kI:qw2 Zp 3 (Zi Zk):=qw2.i64 uInt
def w64{n:Int}(h: -9223372036854775808<=n:=by omega)(w:n<=9223372036854775807:=by omega):Zw Zk n=n:=IntWalk.i64_in _ ⟨h,w⟩
def iV1(x:Int):(iV x).length=1:=rfl
def iVn(x:Int):∀v∈iV x,qn1 v:=λv h=>by simp[iV]at h;subst h;trivial
def up{k n:Nat}(h:k<n)(w:n<=9223372036854775807):Zw Zk ((k:Int)+1)=((k+1:Nat):Int):=by rw[w64];omega
def leftN(n:Nat):List Bc->Aj->Nat:=λvs _=>match vs.getLast? with
 |some (.int _ i)=>n - i.toNat
 |_=>0
structure SlD where
 p:Option Bd
 c:Nat
 ids:List Int
def vS(d:SlD):Bc:=.slice d.p d.ids.length d.c
def ownD(x:Name×SlD):Asn:=SlA 3 1 iV x.2.p x.2.c x.2.ids
def rowsOf(D:List (Name×SlD)):List (Name×List Int):=D.map λx=>(x.1,x.2.ids)
def rows_get(D:List (Name×SlD))(n:Name):qe (rowsOf D) n=(qe D n).map SlD.ids:=by
 induction D with
 |nil=>rfl
 |cons x r ih=>
  simp only[rowsOf,A6,qe]at ih⊢;split;.rfl
  .exact ih
def rows_set(D:List (Name×SlD))(n:Name)(d:SlD):rowsOf (qk D n d)=qk (rowsOf D) n d.ids:=by
 induction D with
 |nil=>rfl
 |cons x r h=>
  simp only[rowsOf,A6,qk]at h⊢;split;.rfl
  .simp only[A6,h]
def rows_del(D:List (Name×SlD))(n:Name):rowsOf (qp D n)=qp (rowsOf D) n:=by
 induction D with
 |nil=>rfl
 |cons x r h=>
  simp only[rowsOf,A6,qp]at h⊢;split;.rfl
  .simp only[A6,h]
def aset_perm{κ ν:Type}[DecidableEq κ](L:List (κ×ν))(k:κ)(v:ν):(qk L k v).Perm ((k,v)::qp L k):=by
 induction L with
 |nil=>exact .refl _
 |cons x r ih=>
  simp only[qk,qp];split;.exact .refl _
  .exact(ih.cons x).trans (List.Perm.swap _ _ _)
def aget_perm{κ ν:Type}[DecidableEq κ]{L:List (κ×ν)}{k:κ}{v:ν}(h:qe L k=A0 v):L.Perm ((k,v)::qp L k):=by
 induction L with
 |nil=>cases h
 |cons x r w=>
  simp only[qe]at h;simp only[qp];split at h
  .rename_i e;cases h;rw[yB e,<-e]
  .rename_i e;rw[yA e];exact((w h).cons x).trans (List.Perm.swap _ _ _)
def ownsA(D:List (Name×SlD)):Asn:=qz (D.map ownD)
def ownsA.take{W w:Aj}{F:List Asn}{D:List (Name×SlD)}{n:Name}{d:SlD}(b:qe D n=A0 d)(h:St W (ownsA D::F) w):St W (ownD (n,d)::ownsA (qp D n)::F) w:=by have e:St W (D.map ownD++F) w:=h.of_sep;have c:St W ((ownD (n,d)::(qp D n).map ownD)++F) w:=e.perm (((aget_perm b).map ownD).append_right F);exact(zk (l:=(qp D n).map ownD) (z0c c (by simp only[B0];exact(B3 (l₁:=(qp D n).map ownD) (a:=ownD (n,d)) (l₂:=F)).symm))).p1
def ownsA.give{W w:Aj}{F:List Asn}{D:List (Name×SlD)}{n:Name}{d:SlD}(h:St W (ownD (n,d)::ownsA (qp D n)::F) w):St W (ownsA (qk D n d)::F) w:=by have a:St W ((qp D n).map ownD++(ownD (n,d)::F)) w:=St.of_sep h.p1;refine zk (z0c a ?_);exact B3.trans (((aset_perm D n d).map ownD).symm.append_right F)
def ownsA.rd{F:List Asn}{D:List (Name×SlD)}{n:Name}{d:SlD}(h:qe D n=A0 d):Rd (ownsA D::F) d.p (d.ids.flatMap iV):=λH w i v f=>by have a:Own (D.map ownD++F) H:=Own.of_sep w;have b:Own (ownD (n,d)::((qp D n).map ownD++F)) H:=a.perm (((aget_perm h).map ownD).append_right F);exact z0l (e:=3) (size:=1) (c:=d.c) _ H b i v f
def QueueA(q:Nat)(G:QG):Asn:=exA λx:Nat×Nat×List (Name×SlD)×List (Int×Name)=>qz [
 prA (RepQ (rowsOf x.2.2.1) x.2.2.2 G),Row q 172 [.map (A0 x.1),.map (A0 x.2.1)],qg Zs vS x.1 x.2.2.1,qg (Zi Zk) Zs x.2.1 x.2.2.2,ownsA x.2.2.1]
abbrev QL(q m1 m2:Nat)(D:List (Name×SlD))(wh:List (Int×Name))(F:List Asn):List Asn:=
 Row q 172 [.map (A0 m1),.map (A0 m2)]::qg Zs vS m1 D::qg (Zi Zk) Zs m2 wh::ownsA D::F
section
variable{W w:World}{F:List Asn}{q m1 m2:Nat}{G:QG}{D:List (Name×SlD)}{wh:List (Int×Name)}
def QueueA.open_(h:St W (QueueA q G::F) w):∃m1 m2 D wh,RepQ (rowsOf D) wh G/\St W (QL q m1 m2 D wh F) w:=by obtain⟨⟨m1,m2,D,wh⟩,h⟩:=h.of_ex;obtain⟨a,h⟩:=h.of_sep.of_pr;exact⟨m1,m2,D,wh,a,h⟩
def QueueA.shut(a:RepQ (rowsOf D) wh G)(h:St W (QL q m1 m2 D wh F) w):St W (QueueA q G::F) w:=
 z01 (m1,m2,D,wh) (zk (l:=[_,_,_,_,_]) (z02 a h))
def QueueA.ok(h:St W (QueueA q G::F) w):QOk G:=by obtain⟨m1,m2,D,wh,a,_⟩:=QueueA.open_ h;exact a.ok
def New_spec(h:St W F w):qb Zp 39 #[] w λv w'=>∃q,v=Zq (A0 ⟨q,0,A2⟩)/\St W (QueueA q []::F) w':=by
 refine F39_of (qs5.n Zs vS h λm1 w1 h=>qs5.n (Zi Zk) Zs h λm2 e h=>zh h λq c h=>⟨q,rfl,?_⟩);refine QueueA.shut RepQ.nil (m1:=m1) (m2:=m2) (D:=[]) ?_;have a:St W (Row q 172 [.map (A0 m1),.map (A0 m2)]::qg Zs vS m1 []::qg (Zi Zk) Zs m2 []::F) c:=by refine h.perm (List.Perm.cons _ ?_);rw[List.append_assoc];exact Ar
 refine z0u [_,_,_] ⟨a.1,λ_=>A2,λb o d=>by(cases d),trivial,a.2⟩
def Clone_spec{p:Option Bd}{c:Nat}{ids:List Int}(g:Rd F p (ids.flatMap iV))(n:ids.length<=1000000)(d:St W F w):
 qb Zp 92 #[Zl p ids.length c] w λv w'=>∃f e,v=.slice f ids.length e/\St W (SlA 3 1 iV f e ids::F) w':=by
 refine F92_of (za (λh=>?_) λh=>?_)
 .have k:p=A2:=by cases p with|none=>rfl|some a=>cases h
  have l:ids=[]:=by
   cases ids with
   |nil=>rfl
   |cons x r=>obtain⟨a,j,_⟩:=g.of d (i:=0) (v:=Zi Zk x) rfl;rw[k]at j;cases j
  subst l;exact⟨A2,0,rfl,z0a d⟩
 .refine zh d λb w1 d=>?_;have d:St W (SlA 3 1 iV (A0 ⟨b,0,A2⟩) 0 []::F) w1:=SlA.of_row (os:=[]) iV1 d;refine qf3 (os:=[]) iV1 uIs (.inr ⟨_,uIs⟩) iInt sInt zInt rfl 0 d rfl g rfl iVn (by rw[bInt];simp;omega) (by simp;omega) λf e m d=>⟨_,_,_,rfl,?_⟩;exact⟨f,e,rfl,d⟩
def List_spec(n:Name)(a:St W (QueueA q G::F) w):
 qb Zp 49 #[Zq (A0 ⟨q,0,A2⟩),Zs n] w λv w'=>∃p c,v=Zl p (gL G n).length c/\St W (SlA 3 1 iV p c (gL G n)::QueueA q G::F) w':=by
 obtain⟨m1,m2,D,wh,e,a⟩:=QueueA.open_ a;refine F49_of (z7 (zv 0 a rfl rfl (qq1 kS uM1 iIs zIs 1 a rfl n A3 ?_)));rw[yA (by simp)];have h:=e.row n;rw[rows_get]at h;have b:=e.ok.row n;cases hd:qe D n with
 |none=>rw[hd]at h;have h:gL G n=[]:=h.symm;rw[h];refine⟨A2,0,0,rfl,(Clone_spec (ids:=[]) (Rd.nil _ _) (by simp) a).of λv w1 ⟨p,c,f,a⟩=>⟨_,_,_,f,p,c,rfl,?_⟩⟩;exact(QueueA.shut e (z0u [_,_,_,_] a)).p1
 |some d=>rw[hd]at h;have h:d.ids=gL G n:=h;rw[<-h]at b⊢;refine⟨d.p,d.ids.length,d.c,rfl,(Clone_spec (z07 3 rfl λF=>ownsA.rd hd) (by omega) a).of λv w1 ⟨p,c,f,a⟩=>⟨_,_,_,f,p,c,rfl,?_⟩⟩;exact(QueueA.shut e (z0u [_,_,_,_] a)).p1
def Many_spec(b:St W (QueueA q G::F) w):qb Zp 402 #[Zq (A0 ⟨q,0,A2⟩)] w λv w'=>v=Zi Zk G.length/\St W (QueueA q G::F) w':=by
 obtain⟨m1,m2,D,wh,k,b⟩:=QueueA.open_ b;have c:(D.map λx=>x.2.ids.length).sum=G.length:=by rw[<-k.sum];unfold sumL rowsOf;rw[Az];rfl
 have p:=k.ok.all;have o:D.Nodup:=ql4 (λx=>x.1) (by have:=k.keys;unfold rowsOf at this;rw[Az]at this;exact this);refine F402_of (z7 (zv 0 b rfl rfl (qg9 uM1 1 b rfl λi w1 b=>?_)));refine⟨λvs w=>∃V,vs=[Zi Zk ((V.map λx:Name×SlD=>x.2.ids.length).sum:Nat)]/\St W (Row q 172 [.map (A0 m1),.map (A0 m2)]::qd1 Zs vS m1 i D V::qg (Zi Zk) Zs m2 wh::ownsA D::F) w,λ_ w=>q74 i D.length w,⟨[],rfl,b⟩,λn w r=>?_⟩;obtain⟨V,s,b⟩:=r;cases s;refine qqb kS 1 b rfl (λA z y w' b=>?_) λx B t w' a=>?_
 .have e:(V.map λx:Name×SlD=>x.2.ids.length).sum=G.length:=by rw[<-c];exact Nat.le_antisymm (qdd _ z y) (qdd _ o A)
  rw[e];exact⟨rfl,QueueA.shut k b⟩
 .have u:=qd1.left (b.at 1 rfl) D.length;refine qp9 1 a rfl λa=>⟨_,_,_,_,rfl,?_⟩;have a:St W (Row q 172 [.map (A0 m1),.map (A0 m2)]::qd1 Zs vS m1 i D (V++[x])::qg (Zi Zk) Zs m2 wh::ownsA D::F) w':=a;obtain⟨⟨es,l,seen,C⟩,h⟩:=(a.at 1 rfl).of_ex;obtain⟨m,_⟩:=h.of_sep.of_pr;have j:(V++[x]).Nodup:=ql4 (λx=>x.1) m.nod;have d:=qdd (λx:Name×SlD=>x.2.ids.length) j m.sub;have f:=qmp j m.sub;have g:=qd1.left (a.at 1 rfl) D.length;rw[c]at d;simp only[Aq,List.sum_append,A6,List.map_nil,B7,List.sum_nil,Ah,A4,Ad]at d f g;refine⟨⟨V++[x],?_,a⟩,?_⟩
  .rw[w64];simp
  .show q74 i D.length w'<q74 i D.length w;rw[u,g];omega
def d0(D:List (Name×SlD))(n:Name):SlD:=(qe D n).getD ⟨A2,0,[]⟩
def d0_val(D:List (Name×SlD))(n:Name):((qe D n).map vS).getD (Zl A2 0 0)=.slice (d0 D n).p (d0 D n).ids.length (d0 D n).c:=by unfold d0;cases qe D n<;>rfl
def d0_ids(h:RepQ (rowsOf D) wh G)(n:Name):(d0 D n).ids=gL G n:=by rw[<-h.row n,rows_get];unfold d0;cases qe D n<;>rfl
def ownsA.take0(n:Name)(h:St W (ownsA D::F) w):St W (SlA 3 1 iV (d0 D n).p (d0 D n).c (d0 D n).ids::ownsA (qp D n)::F) w:=by
 unfold d0;cases hd:qe D n with
 |some d=>exact ownsA.take hd h
 |none=>rw[ql6 hd];exact z0a h
def adel_aset{κ ν:Type}[DecidableEq κ](L:List (κ×ν))(k:κ)(v:ν):qp (qk L k v) k=qp L k:=by
 induction L with
 |nil=>simp[qk,qp]
 |cons x r w=>
  simp only[qk,qp];by_cases h:x.1=k;.simp[h,qp]
  .simp[h,qp,w]
def Put_spec(n:Name)(id:Int)(a:St W (QueueA q G::F) w):
 qb Zp 384 #[Zq (A0 ⟨q,0,A2⟩),Zs n,Zi Zk id] w λv w'=>v=Zi Zk (gPut G n id).2/\St W (QueueA q (gPut G n id).1::F) w':=by
 obtain⟨m1,m2,D,wh,f,a⟩:=QueueA.open_ a;refine F384_of (z7 (zv 0 a rfl rfl (qq1 kI uM2 iS zS 2 a rfl id As ?_)));rw[yB rfl,f.wh];refine⟨(gW G id).getD ⟨#[]⟩,(gW G id).isSome,by cases gW G id<;>rfl,za (λh=>?_) λh=>?_⟩;.unfold gPut;rw[yB h];exact⟨rfl,QueueA.shut f a⟩
 have l:gW G id=A2:=by simpa using h
 refine z7 (zv 0 a rfl rfl (qq1 kS uM1 iIs zIs 1 a rfl n A3 ?_));rw[yA (by simp),d0_val];have r:=f.ok.row n;have p:=f.ok.all;refine⟨_,_,_,rfl,za (λg=>?_) λg=>?_⟩
 .rw[d0_ids f]at g;have g:8<=(gL G n).length:=by simp at g;omega
  unfold gPut;rw[yA (by simp[l]),yB (.inl g)];exact⟨rfl,QueueA.shut f a⟩
 rw[d0_ids f]at g;have g:(gL G n).length<8:=by simp at g;omega
 refine(Many_spec (QueueA.shut f a)).of λv w1 ⟨u,a⟩=>⟨_,u,za (λc=>?_) λc=>?_⟩
 .have c:64<=G.length:=by simp at c;omega
  unfold gPut;rw[yA (by simp[l]),yB (.inr c)];exact⟨rfl,a⟩
 have c:G.length<64:=by simp at c;omega
 have y:gPut G n id=(G++[(n,id)],0):=by unfold gPut;rw[yA (by simp[l]),yA (by omega)]
 rw[y];obtain⟨m1,m2,D,wh,f,a⟩:=QueueA.open_ a;have i:=d0_ids f n;have m:=z6 W (QL q m1 m2 D wh F);refine⟨StC W _,zd a,z7 (z7 ⟨_,z0b 0 m rfl rfl,_,z0b 0 m rfl rfl,(d0 D n).p,(d0 D n).ids.length,(d0 D n).c,λG w h=>qq1 kS uM1 iIs zIs 1 h rfl n A3 ?_,λb=>?_⟩)⟩
 .rw[yA (by simp),d0_val];exact⟨_,_,_,rfl,rfl,h⟩
 have o:=m.push b (.cells #[Zi Zk id] 3);refine zn (α:=Option Bd×Nat) (V:=λx=>.slice x.1 ((d0 D n).ids++[id]).length x.2) (B:=λx=>Row q 172 [.map (A0 m1),.map (A0 m2)]::qg Zs vS m1 D::qg (Zi Zk) Zs m2 wh::SlA 3 1 iV x.1 x.2 ((d0 D n).ids++[id])::ownsA (qp D n)::F) (A2,0) o (λG w h=>?_) λx=>?_
 .have h:St W (Pt b (.cells #[Zi Zk id] 3)::Row q 172 [.map (A0 m1),.map (A0 m2)]::qg Zs vS m1 D::qg (Zi Zk) Zs m2 wh::ownsA D::(F++pts G)) w:=h;have h:=St.imp h z0d;have h:=ownsA.take0 n (zf 4 0 h rfl);refine qf3 (os:=(d0 D n).ids) (xs:=[id]) iV1 uIs (.inr ⟨_,uIs⟩) iInt sInt zInt rfl 0 h rfl (z07 1 rfl λF=>z0k) rfl iVn (by rw[bInt,i];simp;omega) (by rw[i];simp;omega) λt s z a=>⟨_,_,_,rfl,(t,s),rfl,?_⟩;exact zf 0 3 (zf 1 4 (z04 2 a rfl) rfl) rfl
 have k:=z6 W (Row q 172 [.map (A0 m1),.map (A0 m2)]::qg Zs vS m1 D::qg (Zi Zk) Zs m2 wh::SlA 3 1 iV x.1 x.2 ((d0 D n).ids++[id])::ownsA (qp D n)::F);refine⟨_,_,_,rfl,z0b 0 k rfl rfl,?_⟩;refine Ef.n (α:=Unit) (V:=λ_=>Zt #[]) (B:=λ_=>[qg Zs vS m1 (qk D n ⟨x.1,x.2,(d0 D n).ids++[id]⟩)]) () 1 k rfl (λG w h=>qh1 kS uM1 0 h rfl n ⟨x.1,x.2,(d0 D n).ids++[id]⟩ λw' h=>⟨(),rfl,?_⟩) λ_=>⟨rfl,trivial,λG w h=>?_⟩;.exact z0u [_] h
 .have a:=zb h;refine z7 (zv 0 a rfl rfl (qh1 kI uM2 2 a rfl id n λw' a=>⟨rfl,?_⟩));have j:=f.put l g c;rw[rows_get,show((qe D n).map SlD.ids).getD []=(d0 D n).ids by unfold d0;cases qe D n<;>rfl]at j;have e:=rows_set D n ⟨x.1,x.2,(d0 D n).ids++[id]⟩;rw[<-e]at j;refine QueueA.shut j (m1:=m1) (m2:=m2) ?_;exact zf 0 3 (ownsA.give (D:=D) (n:=n) (d:=⟨x.1,x.2,(d0 D n).ids++[id]⟩) (zf 4 1 (zf 3 0 a rfl) rfl)) rfl
def Drop_raw(id:Int)(z:RepQ (rowsOf D) wh G)(P:(wh.map (·.1)).Nodup)(f:St W (QL q m1 m2 D wh F) w):
 qb Zp 149 #[Zq (A0 ⟨q,0,A2⟩),Zi Zk id] w λv w'=>(gW G id=A2/\v=Zb A3/\St W (QL q m1 m2 D wh F) w')\/
  ∃n I,gW G id=A0 n/\v=Zb As/\RepQ (rowsOf I) (qp wh id) (gDrop G id)/\St W (QL q m1 m2 I (qp wh id) (SlA 3 1 iV (d0 D n).p (d0 D n).c (d0 D n).ids::F)) w':=by
 refine F149_of (z7 (zv 0 f rfl rfl (qq1 kI uM2 iS zS 2 f rfl id As ?_)));rw[yB rfl,z.wh];refine⟨(gW G id).getD ⟨#[]⟩,(gW G id).isSome,by cases gW G id<;>rfl,za (λh=>?_) λh=>?_⟩
 .have E:gW G id=A2:=by simpa using h
  exact .inl ⟨E,rfl,f⟩
 obtain⟨n,K⟩:∃n,gW G id=A0 n:=by
  cases E:gW G id with
  |none=>rw[E]at h;simp at h
  |some n=>exact⟨n,rfl⟩
 rw[K,B2];refine z7 (zv 0 f rfl rfl (qc5 kI uM2 2 f rfl id λw1 f=>z7 (zv 0 f rfl rfl (qq1 kS uM1 iIs zIs 1 f rfl n A3 ?_))));rw[yA (by simp),d0_val];have s:=d0_ids z n;have o:=z.ok.row n;rw[<-s]at o;have f:St W (Row q 172 [.map (A0 m1),.map (A0 m2)]::qg Zs vS m1 D::qg (Zi Zk) Zs m2 (qp wh id)::ownsA (qp D n)::SlA 3 1 iV (d0 D n).p (d0 D n).c (d0 D n).ids::F) w1:=
  zf 0 4 (zf 1 4 (ownsA.take0 n (zf 3 0 f rfl)) rfl) rfl
 generalize t:d0 D n=d at s o f;refine⟨_,_,_,rfl,?_⟩;refine⟨λvs w=>∃(k:Nat) (p:Option Bd) (c:Nat),k<=d.ids.length/\vs=[Zl p ((d.ids.take k).filter λx=>decide (x≠id)).length c,Zi Zk k]/\
  St W (Row q 172 [.map (A0 m1),.map (A0 m2)]::qg Zs vS m1 D::qg (Zi Zk) Zs m2 (qp wh id)::ownsA (qp D n)::SlA 3 1 iV d.p d.c d.ids::SlA 3 1 iV p c ((d.ids.take k).filter λx=>decide (x≠id))::F) w,leftN d.ids.length,⟨0,A2,0,Nat.zero_le _,rfl,z0u [_,_,_,_,_] (z0a f)⟩,λj V i x w M=>?_⟩
 obtain⟨k,p,c,O,N,f⟩:=M;cases N;refine za (λl=>?_) λA=>?_
 .have l:k<d.ids.length:=by have:=yC l;omega
  have H:d.ids[k]?=A0 d.ids[k]:=List.getElem?_eq_getElem l;have m:d.ids.take (k+1)=d.ids.take k++[d.ids[k]]:=by rw[List.take_add_one,H];rfl
  refine z0j iV1 (by decide) (z07 4 rfl z0l) f rfl l H λa R=>zy (R 0 _ rfl) ?_;have J:leftN d.ids.length [Zi Zk ((k+1:Nat):Int)] w<leftN d.ids.length [Zi Zk (k:Int)] w:=by show d.ids.length -(k+1)<d.ids.length - k;omega
  rw[up l (by omega)];refine za (λg=>?_) λg=>?_
  .have g:d.ids[k]≠id:=by simpa using g
   refine zh f λb B f=>?_;refine qf3 (os:=(d.ids.take k).filter λx=>decide (x≠id)) (xs:=[d.ids[k]]) iV1 uIs (.inr ⟨_,uIs⟩) iInt sInt zInt rfl 6 f rfl (z07 0 rfl λF=>z0k) rfl iVn ?_ ?_ λU T L f=>⟨_,_,_,rfl,⟨k+1,U,T,by omega,?_,?_⟩,J⟩
   .have:=Af (λx=>decide (x≠id)) (d.ids.take k);rw[bInt];simp only[A4,Ad,B4]at this⊢;omega
   .have:=Af (λx=>decide (x≠id)) (d.ids.take k);simp only[A4,Ad,B4]at this⊢;omega
   .rw[m,Ac];simp[g]
   .rw[m,Ac];simp only[B1,List.filter_nil,g,ne_eq,not_false_eq_true,decide_true,if_true];exact z04 0 f rfl
  .have g:d.ids[k]=id:=by simpa using g
   refine⟨⟨k+1,j,i,by omega,?_,?_⟩,J⟩;.rw[m,Ac];simp[g]
   .rw[m,Ac];simpa [g]using f
 .have C:k=d.ids.length:=by have:=yD A;omega
  subst C;rw[List.take_length]at f⊢;have u:leftOver (rowsOf D) n id=d.ids.filter λx=>decide (x≠id):=by unfold leftOver;rw[rows_get,<-t];unfold d0;cases qe D n<;>rfl
  have y:=z.drop P K;refine z7 (zv 0 f rfl rfl (qh1 kS uM1 1 f rfl n ⟨j,i,d.ids.filter λx=>decide (x≠id)⟩ λB f=>?_));refine za (λr=>?_) λr=>?_
  .have r:(d.ids.filter λx=>decide (x≠id))=[]:=A9 (by simpa using r);refine z7 (zv 0 f rfl rfl (qc5 kS uM1 1 f rfl n λL f=>.inr ⟨n,qp (qk D n ⟨j,i,d.ids.filter λx=>decide (x≠id)⟩) n,rfl,rfl,?_,?_⟩))
   .have e:rowsOf (qp (qk D n ⟨j,i,d.ids.filter λx=>decide (x≠id)⟩) n)=dropRows (rowsOf D) n id:=by unfold dropRows;rw[u,yB r,rows_del,rows_set]
    rw[e];exact y
   .rw[t];have h:=z04 5 f rfl;have h:St W (Row q 172 [.map (A0 m1),.map (A0 m2)]::qg Zs vS m1 (qp (qk D n ⟨j,i,d.ids.filter λx=>decide (x≠id)⟩) n)::qg (Zi Zk) Zs m2 (qp wh id)::ownsA (qp D n)::SlA 3 1 iV d.p d.c d.ids::F) L:=h;rwa[<-adel_aset D n ⟨j,i,d.ids.filter λx=>decide (x≠id)⟩]at h
  .have r:(d.ids.filter λx=>decide (x≠id))≠[]:=λe=>by rw[e]at r;simp at r
   refine .inr ⟨n,qk D n ⟨j,i,d.ids.filter λx=>decide (x≠id)⟩,rfl,rfl,?_,?_⟩
   .have e:rowsOf (qk D n ⟨j,i,d.ids.filter λx=>decide (x≠id)⟩)=dropRows (rowsOf D) n id:=by unfold dropRows;rw[u,yA r,rows_set]
    rw[e];exact y
   .rw[t];have h:St W (Row q 172 [.map (A0 m1),.map (A0 m2)]::qg Zs vS m1 (qk D n ⟨j,i,d.ids.filter λx=>decide (x≠id)⟩)::qg (Zi Zk) Zs m2 (qp wh id)::ownsA (qp D n)::SlA 3 1 iV d.p d.c d.ids::ownD (n,⟨j,i,d.ids.filter λx=>decide (x≠id)⟩)::F) B:=f;have Q:St W (ownD (n,⟨j,i,d.ids.filter λx=>decide (x≠id)⟩)::ownsA (qp D n)::Row q 172 [.map (A0 m1),.map (A0 m2)]::qg Zs vS m1 (qk D n ⟨j,i,d.ids.filter λx=>decide (x≠id)⟩)::qg (Zi Zk) Zs m2 (qp wh id)::SlA 3 1 iV d.p d.c d.ids::F) B:=zf 4 1 (zf 5 0 h rfl) rfl;exact zf 0 3 (ownsA.give Q) rfl
def Drop_spec(id:Int)(a:St W (QueueA q G::F) w):
 qb Zp 149 #[Zq (A0 ⟨q,0,A2⟩),Zi Zk id] w λv w'=>v=Zb (gW G id).isSome/\St W (QueueA q (gDrop G id)::F) w':=by
 obtain⟨m1,m2,D,wh,f,a⟩:=QueueA.open_ a;have i:(wh.map (·.1)).Nodup:=z18 kI (a.at 2 rfl);refine(Drop_raw id f i a).of λv w1 h=>?_;rcases h with ⟨b,c,a⟩|⟨n,j,b,c,d,a⟩
 .have e:gDrop G id=G:=by unfold gDrop;rw[Aa];intro x g;simp only[yJ];exact λe=>gW_none.1 b (A1.2 ⟨x,g,e⟩)
  rw[b,e];exact⟨c,QueueA.shut f a⟩
 .rw[b];exact⟨c,QueueA.shut d (z04 4 a rfl)⟩
end
end Qu
end
namespace Ri
structure Way where
 bs:List UInt8
 ended:Bool
 told:Bool
 moved:Int
structure PS where
 w0:Way
 w1:Way
 broken:Bool
def Way.new:Way:=⟨[],A3,A3,0⟩
def PS.new:PS:=⟨Way.new,Way.new,A3⟩
def sideB(n:Int):Bool:=n==0||n==1
def Way.end_(w:Way)(k:Int):Bool:=w.ended&&!w.told&&(w.bs.drop k.toNat).isEmpty
def Way.out(w:Way)(k:Int):Way:=⟨w.bs.drop k.toNat,w.ended,w.told||w.end_ k,Zw Zk (w.moved+((w.bs.take k.toNat).length:Int))⟩
def PS.at(s:PS)(n:Int):Way:=if n=0 then s.w0 else s.w1
def PS.to(s:PS)(n:Int):Way:=if n=0 then s.w1 else s.w0
def PS.outB(s:PS)(n k:Int):List UInt8:=if sideB n&&!s.broken then(s.to n).bs.take k.toNat else []
def PS.outE(s:PS)(n k:Int):Bool:=sideB n&&!s.broken&&(s.to n).end_ k
def PS.out(s:PS)(n k:Int):PS:=if sideB n&&!s.broken then(if n=0 then⟨s.w0,s.w1.out k,A3⟩else⟨s.w0.out k,s.w1,A3⟩)else s
def PS.hears(s:PS)(n:Int):Bool:=sideB n&&!s.broken&&!(s.at n).ended
def PS.end_(s:PS)(n:Int):PS:=if s.hears n then(if n=0 then⟨{ s.w0 with ended:=As},s.w1,s.broken⟩else⟨s.w0,{ s.w1 with ended:=As},s.broken⟩)else s
def Way.add(w:Way)(m:Nat)(xs:List UInt8):Way:={ w with bs:=w.bs++xs.take (m - w.bs.length)}
def PS.inN(s:PS)(m:Nat)(n:Int)(xs:List UInt8):Nat:=if s.hears n then min xs.length (m -(s.at n).bs.length)else 0
def PS.in_(s:PS)(m:Nat)(n:Int)(xs:List UInt8):PS:=if s.hears n then(if n=0 then⟨s.w0.add m xs,s.w1,s.broken⟩else⟨s.w0,s.w1.add m xs,s.broken⟩)else s
def PS.room(s:PS)(m:Nat)(n:Int):Nat:=if s.hears n then m -(s.at n).bs.length else 0
def pumpRow(h w:Nat)(most:Int)(w0 w1:Way)(br:Bool):List Bc:=
 [Zq (A0 ⟨h,0,A2⟩),Zb w0.ended,Zb w0.told,Zi Zk w0.moved,Zq (A0 ⟨w,0,A2⟩),Zb w1.ended,Zb w1.told,Zi Zk w1.moved,Zi Zk most,Zb br]
def capOf(most:Int):Nat:=min most.toNat 65536
def PumpA(h:Nat)(most:Int)(s:PS):Asn:=exA λx:Nat×Nat=>qz [
 Row h 336 (pumpRow x.1 x.2 most s.w0 s.w1 s.broken),RingA x.1 (capOf most) s.w0.bs,RingA x.2 (capOf most) s.w1.bs]
def PumpA.open_{W w:Aj}{F:List Asn}{c:Nat}{most:Int}{s:PS}(h:St W (PumpA c most s::F) w):
 ∃a b:Nat,St W (Row c 336 (pumpRow a b most s.w0 s.w1 s.broken)::RingA a (capOf most) s.w0.bs::RingA b (capOf most) s.w1.bs::F) w:=by
 obtain⟨⟨a,b⟩,h⟩:=h.of_ex;exact⟨a,b,h.of_sep⟩
def PumpA.shut{W w:Aj}{F:List Asn}{c a b:Nat}{most:Int}{s:PS}(h:St W (Row c 336 (pumpRow a b most s.w0 s.w1 s.broken)::RingA a (capOf most) s.w0.bs::RingA b (capOf most) s.w1.bs::F) w):St W (PumpA c most s::F) w:=
 z01 (a,b) (zk (l:=[_,_,_]) h)
def pside_spec{W w:Aj}{F:List Asn}(n:Int)(h:St W F w):qb Zp 216 #[Zi Zk n] w λv w'=>v=Zb (sideB n)/\St W F w':=by
 refine F216_of ⟨by decide,?_,h⟩;have e:Int.fdiv n (2 ^ min (Int.toNat 1) (IntKind.bits Zk))=n/2:=by rw[show(2:Int) ^ min (Int.toNat 1) (IntKind.bits Zk)=2 from rfl,Int.fdiv_eq_ediv_of_nonneg _ (by decide)]
 rw[e];congr 1;unfold sideB;rw[Bool.eq_iff_iff];simp;omega
def side_cases{n:Int}(h:sideB n=As):n=0\/n=1:=by simpa [sideB]using h
def hears_spec{W w:Aj}{F:List Asn}{c g f:Nat}{most:Int}{s:PS}(n:Int)(a:St W (Row c 336 (pumpRow g f most s.w0 s.w1 s.broken)::F) w):
 qb Zp 211 #[Zq (A0 ⟨c,0,A2⟩),Zi Zk n] w λv w'=>v=Zq (if s.hears n then(if n=0 then A0 ⟨c,0,A2⟩else A0 ⟨c,4,A2⟩)else A2)/\St W (Row c 336 (pumpRow g f most s.w0 s.w1 s.broken)::F) w':=by
 refine F211_of ((pside_spec n a).of λv w1 ⟨i,a⟩=>⟨_,i,?_⟩);refine za (λh=>⟨?_,a⟩) λh=>?_
 .have h:sideB n=A3:=by simpa using h
  simp[PS.hears,h]
 have e:sideB n=As:=by simpa using h
 refine z7 (LdB.i a rfl (za (λd=>⟨?_,a⟩) λd=>?_));.simp[PS.hears,d]
 rcases side_cases e with rfl|rfl
 .refine z7 ⟨_,rfl,⟨by decide,by decide⟩,LdB.i a rfl (za (λb=>⟨?_,a⟩) λb=>z7 ⟨_,rfl,⟨by decide,by decide⟩,?_,a⟩)⟩;.simp[PS.hears,PS.at,b]
  .simp[PS.hears,PS.at,b,d,e];rfl
 .refine z7 ⟨_,rfl,⟨by decide,by decide⟩,LdB.i a rfl (za (λb=>⟨?_,a⟩) λb=>z7 ⟨_,rfl,⟨by decide,by decide⟩,?_,a⟩)⟩;.simp[PS.hears,PS.at,b]
  .simp[PS.hears,PS.at,b,d,e];rfl
def PEnd_spec{W w:Aj}{F:List Asn}{c:Nat}{most:Int}{s:PS}(n:Int)(a:St W (PumpA c most s::F) w):
 qb Zp 137 #[Zq (A0 ⟨c,0,A2⟩),Zi Zk n] w λv w'=>v=Zb (s.hears n)/\St W (PumpA c most (s.end_ n)::F) w':=by
 obtain⟨g,f,a⟩:=PumpA.open_ a;refine F137_of ((hears_spec n a).of λv w1 ⟨d,a⟩=>⟨_,d,?_⟩);cases b:s.hears n with
 |false=>exact za (λh=>by simp[qi2]at h) λ_=>⟨by simp[qi2],by rw[show s.end_ n=s by simp[PS.end_,b]];exact PumpA.shut a⟩
 |true=>
  rcases side_cases (n:=n) (by simp[PS.hears]at b;simpa using b.1.1)with rfl|rfl
  .refine za (λ_=>z7 (St1.i a (by simp[pumpRow]) λe a=>⟨rfl,?_⟩)) λh=>by simp[qi2]at h
   rw[show s.end_ 0=⟨{ s.w0 with ended:=As},s.w1,s.broken⟩by simp[PS.end_,b]];exact PumpA.shut (s:=⟨{ s.w0 with ended:=As},s.w1,s.broken⟩) a
  .refine za (λ_=>z7 (St1.i a (by simp[pumpRow]) λe a=>⟨rfl,?_⟩)) λh=>by simp[qi2]at h
   rw[show s.end_ 1=⟨s.w0,{ s.w1 with ended:=As},s.broken⟩by simp[PS.end_,b]];exact PumpA.shut (s:=⟨s.w0,{ s.w1 with ended:=As},s.broken⟩) a
def PIn_spec{W w:Aj}{F:List Asn}{e c:Nat}{most:Int}{s:PS}{xs:List UInt8}{p:Option Bd}(n:Int)(g:Rd F p (xs.map qd))(f:xs.length<=c)(a:St W (PumpA e most s::F) w):
 qb Zp 134 #[Zq (A0 ⟨e,0,A2⟩),Zi Zk n,Zl p xs.length c] w λv w'=>v=Zi Zk (s.inN (capOf most) n xs:Nat)/\St W (PumpA e most (s.in_ (capOf most) n xs)::F) w':=by
 obtain⟨k,j,a⟩:=PumpA.open_ a;refine F134_of ((hears_spec n a).of λv w1 ⟨d,a⟩=>⟨_,d,?_⟩);cases b:s.hears n with
 |false=>exact za (λh=>by simp[qi2]at h) λ_=>⟨by simp[PS.inN,b],by rw[show s.in_ (capOf most) n xs=s by simp[PS.in_,b]];exact PumpA.shut a⟩
 |true=>
  rcases side_cases (n:=n) (by simp[PS.hears]at b;simpa using b.1.1)with rfl|rfl
  .refine za (λ_=>z7 (LdP.i a rfl ((Add_spec ((g.cons _).cons _) f a.p1).of λv i ⟨d,a⟩=>⟨_,d,?_,?_⟩))) λh=>by simp[qi2]at h
   .simp[PS.inN,b,PS.at]
   .rw[show s.in_ (capOf most) 0 xs=⟨s.w0.add (capOf most) xs,s.w1,s.broken⟩by simp[PS.in_,b]];exact PumpA.shut (s:=⟨s.w0.add (capOf most) xs,s.w1,s.broken⟩) a.p1
  .refine za (λ_=>z7 (LdP.i a rfl ((Add_spec ((g.cons _).cons _) f a.p2).of λv i ⟨d,a⟩=>⟨_,d,?_,?_⟩))) λh=>by simp[qi2]at h
   .simp[PS.inN,b,PS.at]
   .rw[show s.in_ (capOf most) 1 xs=⟨s.w0,s.w1.add (capOf most) xs,s.broken⟩by simp[PS.in_,b]];exact PumpA.shut (s:=⟨s.w0,s.w1.add (capOf most) xs,s.broken⟩) (z0u [_,_] a)
def PRoom_spec{W w:Aj}{F:List Asn}{d:Nat}{most:Int}{s:PS}(n:Int)(a:St W (PumpA d most s::F) w):
 qb Zp 133 #[Zq (A0 ⟨d,0,A2⟩),Zi Zk n] w λv w'=>v=Zi Zk (s.room (capOf most) n:Nat)/\St W (PumpA d most s::F) w':=by
 obtain⟨g,f,a⟩:=PumpA.open_ a;refine F133_of ((hears_spec n a).of λv w1 ⟨b,a⟩=>⟨_,b,?_⟩);cases c:s.hears n with
 |false=>exact za (λh=>by simp[qi2]at h) λ_=>⟨by simp[PS.room,c],PumpA.shut a⟩
 |true=>
  rcases side_cases (n:=n) (by simp[PS.hears]at c;simpa using c.1.1)with rfl|rfl;.exact za (λ_=>z7 (LdP.i a rfl ((Room_spec a.p1).of λv e ⟨b,a⟩=>⟨_,b,by simp[PS.room,c,PS.at],PumpA.shut a.p1⟩))) λh=>by simp[qi2]at h
  .exact za (λ_=>z7 (LdP.i a rfl ((Room_spec a.p2).of λv e ⟨b,a⟩=>⟨_,b,by simp[PS.room,c,PS.at],PumpA.shut (z0u [_,_] a)⟩))) λh=>by simp[qi2]at h
def out_fin{W w:Aj}{F:List Asn}{a c d b:Nat}{most:Int}{w0 w1:Way}{br:Bool}{bs:List UInt8}(h:St W (Row a 336 (pumpRow c d most w0 w1 br)::RingA c (capOf most) w0.bs::RingA d (capOf most) w1.bs::Row b 5 (bs.map qd)::F) w):
 St W (qi 5 1 (A0 ⟨b,0,A2⟩) bs.length bs.length (bs.map qd)::PumpA a most ⟨w0,w1,br⟩::F) w:=
 qi.whole (by simp) (PumpA.shut (s:=⟨w0,w1,br⟩) h).p1
def POut_spec{W w:Aj}{F:List Asn}{q:Nat}{most:Int}{s:PS}(n k:Int)(a:St W (PumpA q most s::F) w):
 qb Zp 138 #[Zq (A0 ⟨q,0,A2⟩),Zi Zk n,Zi Zk k] w λv w'=>∃p c,v=Zt #[Zl p (s.outB n k).length c,Zb (s.outE n k)]/\St W (qi 5 1 p (s.outB n k).length c ((s.outB n k).map qd)::PumpA q most (s.out n k)::F) w':=by
 obtain⟨t,r,a⟩:=PumpA.open_ a;refine F138_of ((pside_spec n a).of λv w1 ⟨j,a⟩=>⟨_,j,za (λh=>⟨A2,0,?_⟩) λh=>?_⟩)
 .have h:sideB n=A3:=by simpa using h
  rw[show s.out n k=s by simp[PS.out,h],show s.outB n k=[]by simp[PS.outB,h],show s.outE n k=A3 by simp[PS.outE,h]];exact⟨rfl,z1a _ _ _ (PumpA.shut a)⟩
 have o:sideB n=As:=by simpa using h
 refine z7 (LdB.i a rfl (za (λh=>⟨A2,0,?_⟩) λm=>?_))
 .rw[show s.out n k=s by simp[PS.out,h],show s.outB n k=[]by simp[PS.outB,h],show s.outE n k=A3 by simp[PS.outE,h]];exact⟨rfl,z1a _ _ _ (PumpA.shut a)⟩
 rcases side_cases o with rfl|rfl
 .rw[show s.out 0 k=⟨s.w0,s.w1.out k,A3⟩by simp[PS.out,m,o],show s.outB 0 k=s.w1.bs.take k.toNat by simp[PS.outB,m,o,PS.to],show s.outE 0 k=s.w1.end_ k by simp[PS.outE,m,o,PS.to]];rw[m]at a;have f:∀(told e:Bool) (w':Aj) (b:Nat),(s.w1.told||s.w1.end_ k)=told->s.w1.end_ k=e->St W (Row q 336 [Zq (A0 ⟨t,0,A2⟩),Zb s.w0.ended,Zb s.w0.told,Zi Zk s.w0.moved,Zq (A0 ⟨r,0,A2⟩),Zb s.w1.ended,Zb told,Zi Zk (Zw Zk (s.w1.moved+((s.w1.bs.take k.toNat).length:Int))),Zi Zk most,Zb A3]::RingA t (capOf most) s.w0.bs::RingA r (capOf most) (s.w1.bs.drop k.toNat)::Row b 5 ((s.w1.bs.take k.toNat).map qd)::F) w'->
   ∃p c,Zt #[.slice (A0 ⟨b,0,A2⟩) (s.w1.bs.take k.toNat).length (s.w1.bs.take k.toNat).length,Zb e]=Zt #[Zl p (s.w1.bs.take k.toNat).length c,Zb (s.w1.end_ k)]/\St W (qi 5 1 p (s.w1.bs.take k.toNat).length c ((s.w1.bs.take k.toNat).map qd)::PumpA q most ⟨s.w0,s.w1.out k,A3⟩::F) w':=by
   intro told e w' b u x h;subst u;subst x;exact⟨_,_,rfl,out_fin (w1:=s.w1.out k) h⟩
  refine z7 ⟨_,rfl,⟨by decide,by decide⟩,?_⟩;refine qb.of (F217_of (z7 (LdP.i (k0:=4) a rfl ((Take_spec k a.p2).of λv A ⟨b,j,a⟩=>⟨_,_,_,j,?_⟩)))) λv w' j=>j;have a:=z0u [_,_] (z0u [_,_,_] a);refine z7 (LdI.i (k0:=7) a rfl (z7 (St1.i (k0:=7) a (by simp[pumpRow]) λy a=>z7 (LdB.i (k0:=5) a rfl (za (λg=>⟨_,_,_,_,rfl,?_⟩) λg=>z7 (LdB.i (k0:=6) a rfl (za (λl=>⟨_,_,_,_,rfl,?_⟩) λl=>?_)))))))
  .have g:s.w1.ended=A3:=by simpa using g
   exact f _ _ _ _ (by simp[Way.end_,g]) (by simp[Way.end_,g]) a
  .exact f _ _ _ _ (by simp[Way.end_,l]) (by simp[Way.end_,l]) a
  refine z7 (LdP.i (k0:=4) a rfl ((Many_spec a.p2).of λv B ⟨j,a⟩=>⟨_,j,za (λi=>⟨_,_,_,_,rfl,?_⟩) λi=>?_⟩))
  .have i:0<(s.w1.bs.drop k.toNat).length:=by have:=yC i;omega
   have d:(s.w1.bs.drop k.toNat).isEmpty=A3:=by cases hd:s.w1.bs.drop k.toNat with|nil=>rw[hd]at i;simp at i|cons=>rfl
   exact f _ _ _ _ (by simp only[Way.end_,d,Ak,B9]) (by simp only[Way.end_,d,Ak]) (z0u [_,_] a)
  .have i:(s.w1.bs.drop k.toNat).length=0:=by have:=yD i;omega
   have d:(s.w1.bs.drop k.toNat).isEmpty=As:=by rw[B5];exact A9 i
   have g:s.w1.ended=As:=by simpa using g
   refine z7 (St1.i (k0:=6) (z0u [_,_] a) (by simp[pumpRow]) λz a=>⟨_,_,_,_,rfl,?_⟩);exact f _ _ _ _ (by simp only[Way.end_,d,g,l,Am,Ao,Bb]) (by simp only[Way.end_,d,g,l,Am,Ao]) a
 .rw[show s.out 1 k=⟨s.w0.out k,s.w1,A3⟩by simp[PS.out,m,o],show s.outB 1 k=s.w0.bs.take k.toNat by simp[PS.outB,m,o,PS.to],show s.outE 1 k=s.w0.end_ k by simp[PS.outE,m,o,PS.to]];rw[m]at a;have f:∀(told e:Bool) (w':Aj) (b:Nat),(s.w0.told||s.w0.end_ k)=told->s.w0.end_ k=e->St W (Row q 336 [Zq (A0 ⟨t,0,A2⟩),Zb s.w0.ended,Zb told,Zi Zk (Zw Zk (s.w0.moved+((s.w0.bs.take k.toNat).length:Int))),Zq (A0 ⟨r,0,A2⟩),Zb s.w1.ended,Zb s.w1.told,Zi Zk s.w1.moved,Zi Zk most,Zb A3]::RingA t (capOf most) (s.w0.bs.drop k.toNat)::RingA r (capOf most) s.w1.bs::Row b 5 ((s.w0.bs.take k.toNat).map qd)::F) w'->
   ∃p c,Zt #[.slice (A0 ⟨b,0,A2⟩) (s.w0.bs.take k.toNat).length (s.w0.bs.take k.toNat).length,Zb e]=Zt #[Zl p (s.w0.bs.take k.toNat).length c,Zb (s.w0.end_ k)]/\St W (qi 5 1 p (s.w0.bs.take k.toNat).length c ((s.w0.bs.take k.toNat).map qd)::PumpA q most ⟨s.w0.out k,s.w1,A3⟩::F) w':=by
   intro told e w' b u x h;subst u;subst x;exact⟨_,_,rfl,out_fin (w0:=s.w0.out k) h⟩
  refine z7 ⟨_,rfl,⟨by decide,by decide⟩,?_⟩;refine qb.of (F217_of (z7 (LdP.i (k0:=0) a rfl ((Take_spec k a.p1).of λv A ⟨b,j,a⟩=>⟨_,_,_,j,?_⟩)))) λv w' j=>j;have a:=(z0u [_,_,_] a).p1;refine z7 (LdI.i (k0:=3) a rfl (z7 (St1.i (k0:=3) a (by simp[pumpRow]) λy a=>z7 (LdB.i (k0:=1) a rfl (za (λg=>⟨_,_,_,_,rfl,?_⟩) λg=>z7 (LdB.i (k0:=2) a rfl (za (λl=>⟨_,_,_,_,rfl,?_⟩) λl=>?_)))))))
  .have g:s.w0.ended=A3:=by simpa using g
   exact f _ _ _ _ (by simp[Way.end_,g]) (by simp[Way.end_,g]) a
  .exact f _ _ _ _ (by simp[Way.end_,l]) (by simp[Way.end_,l]) a
  refine z7 (LdP.i (k0:=0) a rfl ((Many_spec a.p1).of λv B ⟨j,a⟩=>⟨_,j,za (λi=>⟨_,_,_,_,rfl,?_⟩) λi=>?_⟩))
  .have i:0<(s.w0.bs.drop k.toNat).length:=by have:=yC i;omega
   have d:(s.w0.bs.drop k.toNat).isEmpty=A3:=by cases hd:s.w0.bs.drop k.toNat with|nil=>rw[hd]at i;simp at i|cons=>rfl
   exact f _ _ _ _ (by simp only[Way.end_,d,Ak,B9]) (by simp only[Way.end_,d,Ak]) a.p1
  .have i:(s.w0.bs.drop k.toNat).length=0:=by have:=yD i;omega
   have d:(s.w0.bs.drop k.toNat).isEmpty=As:=by rw[B5];exact A9 i
   have g:s.w0.ended=As:=by simpa using g
   refine z7 (St1.i (k0:=2) a.p1 (by simp[pumpRow]) λz a=>⟨_,_,_,_,rfl,?_⟩);exact f _ _ _ _ (by simp only[Way.end_,d,g,l,Am,Ao,Bb]) (by simp only[Way.end_,d,g,l,Am,Ao]) a
def leftN(n:Nat):List Bc->Aj->Nat:=λvs _=>match vs.getLast? with
 |some (.int _ i)=>n - i.toNat
 |_=>0
def PNew_spec{W w:Aj}{F:List Asn}(most:Int)(d:St W F w):
 qb Zp 363 #[Zi Zk most] w λv w'=>∃c,v=Zq (A0 ⟨c,0,A2⟩)/\St W (PumpA c most PS.new::F) w':=by
 refine F363_of (zh d λc o d=>?_);refine⟨λvs w=>(vs=[Zi Zk 0]/\St W (Row c 336 [Zq A2,Zb A3,Zb A3,Zi Zk 0,Zq A2,Zb A3,Zb A3,Zi Zk 0,Zi Zk most,Zb A3]::F) w)\/(vs=[Zi Zk 1]/\∃a,St W (Row c 336 [Zq (A0 ⟨a,0,A2⟩),Zb A3,Zb A3,Zi Zk 0,Zq A2,Zb A3,Zb A3,Zi Zk 0,Zi Zk most,Zb A3]::RingA a (capOf most) []::F) w)\/(vs=[Zi Zk 2]/\∃a k,St W (Row c 336 (pumpRow a k most Way.new Way.new A3)::RingA a (capOf most) []::RingA k (capOf most) []::F) w),leftN 2,.inl ⟨rfl,d⟩,λi n m=>?_⟩;rcases m with ⟨l,d⟩|⟨l,a,d⟩|⟨l,a,k,d⟩<;>cases l
 .refine za (λ_=>⟨StC W _,zd d,?_⟩) λh=>by simp at h
  refine⟨Nat,0,λr=>Zq (A0 ⟨r,0,A2⟩),λr=>StC W (RingA r (capOf most) []::Row c 336 [Zq A2,Zb A3,Zb A3,Zi Zk 0,Zq A2,Zb A3,Zb A3,Zi Zk 0,Zi Zk most,Zb A3]::F),λG f b=>(New_spec most b).of λv g ⟨r,j,e⟩=>⟨_,j,r,rfl,e⟩,λr=>⟨_,rfl,trivial,_,rfl,⟨by decide,by decide⟩,Unit,(),λ_=>Zt #[],λ_=>StC W (Row c 336 [Zq (A0 ⟨r,0,A2⟩),Zb A3,Zb A3,Zi Zk 0,Zq A2,Zb A3,Zb A3,Zi Zk 0,Zi Zk most,Zb A3]::RingA r (capOf most) []::F),λG f b=>?_,λ_=>⟨rfl,trivial,λG f b=>?_⟩⟩⟩;.exact St1.i (k0:=0) (St.p1 b) (by simp) λg e=>⟨(),rfl,e⟩
  .exact⟨.inr (.inl ⟨rfl,r,zb b⟩),(show(2 - 1:Nat)<2 - 0 by decide)⟩
 .refine za (λ_=>⟨StC W _,zd d,?_⟩) λh=>by simp at h
  refine⟨Nat,0,λr=>Zq (A0 ⟨r,0,A2⟩),λr=>StC W (RingA r (capOf most) []::Row c 336 [Zq (A0 ⟨a,0,A2⟩),Zb A3,Zb A3,Zi Zk 0,Zq A2,Zb A3,Zb A3,Zi Zk 0,Zi Zk most,Zb A3]::RingA a (capOf most) []::F),λG f b=>(New_spec most b).of λv g ⟨r,j,e⟩=>⟨_,j,r,rfl,e⟩,λr=>⟨_,rfl,trivial,_,rfl,⟨by decide,by decide⟩,Unit,(),λ_=>Zt #[],λ_=>StC W (Row c 336 (pumpRow a r most Way.new Way.new A3)::RingA a (capOf most) []::RingA r (capOf most) []::F),λG f b=>?_,λ_=>⟨rfl,trivial,λG f b=>?_⟩⟩⟩;.exact St1.i (k0:=4) (St.p1 b) (by simp) λg e=>⟨(),rfl,e.perm (List.Perm.cons _ (List.Perm.swap _ _ _))⟩
  .exact⟨.inr (.inr ⟨rfl,a,r,zb b⟩),(show(2 - 2:Nat)<2 - 1 by decide)⟩
 .refine za (λh=>by simp at h) λ_=>⟨c,rfl,?_⟩;exact PumpA.shut (s:=PS.new) d
end Ri
end Go.Proofs.YtfjifcfbmhpcaaaGreatDoor
