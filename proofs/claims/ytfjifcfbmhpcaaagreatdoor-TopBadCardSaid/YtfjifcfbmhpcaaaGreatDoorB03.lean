/-
  A part of the proof of TopBad.
-/
import Derived.Test.YtfjifcfbmhpcaaaGreatDoorB02
import Derived.Maps.RangeRun
import Derived.Test.YtfjifcfbmhpcaaaGreatDoorB00
set_option linter.all false
namespace Go.Proofs.YtfjifcfbmhpcaaaGreatDoor
open Go
open Go.IntKind renaming i64 → Zk, wrap → Zw
open Go.Addr renaming add → Za
open Go.Value renaming int → Zi, string → Zs, pointer → Zq, bool → Zb, tuple → Zt, slice → Zl, agg → Zg
open _root_.Option renaming some->A0,none->A8
open Go renaming Value->A1,World->A7,Program->A9,MapEntry->Ag,Addr->B0,TypeId->B2,Oper->B6,Code->Bn,IntKind->Bq
open _root_.List renaming mem_cons_of_mem->A2,mem_map->A4,map_cons->Ab,getElem?_eq_some_iff->Ae,mem_of_getElem?->Af,mem_cons_self->Ah,getElem?_of_mem->Aj,nodup_cons->Ak,map_append->Ap,mem_singleton->Ar,length_append->As,getElem?_map->Av,flatMap_cons->Aw,getElem?_eq_getElem->Ax,mem_cons->B1,nodup_append->B7,length_cons->Bb,take->Bd,all_eq_true->Be,mem_filter->Bg,mem_append->Bh,drop_zero->Bj,drop_drop->Bl,sum_cons->Bm,range->Bt,drop->Bw
open _root_.BitVec renaming ofInt->A3,ofNat->Ac,toNat_ofNat->Au,eq_of_getLsbD_eq->Ay,getLsbD_xor->B4,getLsbD_and->B5
open Go.MapKept renaming run_getObj_map->A5
open Go.IntKind renaming bits->A6
open _root_.Bool renaming and_eq_true->Aa,true->Am,false->Bf,not_true->Bo,false_or->Bp
open _root_.Array renaming getElem?_toList->Ad,getElem?_setIfInBounds->Ao,contains_eq_mem->Az,size->Bu
open _root_.Int renaming toNat_natCast->Ai,toNat->Bc
open _root_.List.Pairwise renaming of_map->An
open _root_.Nat renaming zero_add->Aq,sub_add_cancel->B3,div_eq_of_lt->B9,mod_eq_of_lt->Ba,min_eq_left->Bi,mul_zero->Br,le_refl->Bs,beq->Bv
section
def Rd.n{l:List Asn}{A:Asn}{p:Option B0}{cs:List A1}(n:Nat)(w:nth l n=A0 A)(h:∀F,Rd (A::F) p cs):Rd l p cs:=(h (del l n)).perm (q76 w)
def St.dropL{W w:A7}:∀(r:List Asn) {l:List Asn},St W (r++l) w->St W l w
 |[],_,h=>h
 |_::r,_,h=>St.dropL r h.drop
def Is.ends{W:A7}{C:Cls}{l:List Asn}(h:Is W C l){G:List (Nat×Obj)}{w:A7}(a:C.p G w):St W l w:=zb (W:=W) (l:=l) (G:=G) ((h G w).1 a)
section
variable{W w:World}{l:List Asn}{b:Nat}{t:TypeId}{cs:List Value}{o j k0:Nat}{C:Cls}
def St.cell(n:Nat)(c:St W l w)(a:nth l n=A0 (Row b t cs)){v:A1}(h:cs[k0]?=A0 v):w.cell? ⟨b,k0,A8⟩=A0 v:=(c.at n a).ld h
def LdI.n{k:Bq}{x:Int}{F:Int->Prop}(n:Nat)(d:St W l w)(a:nth l n=A0 (Row b t cs))(h:cs[k0]?=A0 (.int k x))(c:F x):LdI k ⟨b,k0,A8⟩ w F:=⟨x,d.cell n a h,c⟩
def LdB.n{x:Bool}{F:Bool->Prop}(n:Nat)(d:St W l w)(a:nth l n=A0 (Row b t cs))(h:cs[k0]?=A0 (Zb x))(c:F x):LdB ⟨b,k0,A8⟩ w F:=⟨x,d.cell n a h,c⟩
def LdS.n{x:ByteArray}{F:ByteArray->Prop}(n:Nat)(d:St W l w)(a:nth l n=A0 (Row b t cs))(h:cs[k0]?=A0 (Zs x))(c:F x):LdS ⟨b,k0,A8⟩ w F:=⟨x,d.cell n a h,c⟩
def LdP.n{x:Option B0}{F:Option B0->Prop}(n:Nat)(d:St W l w)(a:nth l n=A0 (Row b t cs))(h:cs[k0]?=A0 (Zq x))(c:F x):LdP ⟨b,k0,A8⟩ w F:=⟨x,d.cell n a h,c⟩
def LdL.n{p:Option B0}{m c:Nat}{F:Option B0->Nat->Nat->Prop}(n:Nat)(e:St W l w)(a:nth l n=A0 (Row b t cs))(h:cs[k0]?=A0 (Zl p m c))(d:F p m c):LdL ⟨b,k0,A8⟩ w F:=⟨p,m,c,e.cell n a h,d⟩
def LdM.n{x:Option Nat}{F:Option Nat->Prop}(n:Nat)(d:St W l w)(a:nth l n=A0 (Row b t cs))(h:cs[k0]?=A0 (.map x))(c:F x):LdM ⟨b,k0,A8⟩ w F:=⟨x,d.cell n a h,c⟩
def LdV.n{x:A1}{F:A1->Prop}(n:Nat)(d:St W l w)(a:nth l n=A0 (Row b t cs))(h:cs[k0]?=A0 x)(c:F x):LdV ⟨b,k0,A8⟩ w F:=⟨x,d.cell n a h,c⟩
def LdI.a{k:Bq}{x:Int}{F:Int->Prop}(n:Nat)(d:St W l w)(a:nth l n=A0 (Row b t cs))(h:cs[o+j]?=A0 (.int k x))(c:F x):LdI k (Za ⟨b,o,A8⟩ j) w F:=by rw[qi1];exact LdI.n n d a h c
def LdB.a{x:Bool}{F:Bool->Prop}(n:Nat)(d:St W l w)(a:nth l n=A0 (Row b t cs))(h:cs[o+j]?=A0 (Zb x))(c:F x):LdB (Za ⟨b,o,A8⟩ j) w F:=by rw[qi1];exact LdB.n n d a h c
def LdS.a{x:ByteArray}{F:ByteArray->Prop}(n:Nat)(d:St W l w)(a:nth l n=A0 (Row b t cs))(h:cs[o+j]?=A0 (Zs x))(c:F x):LdS (Za ⟨b,o,A8⟩ j) w F:=by rw[qi1];exact LdS.n n d a h c
def LdP.a{x:Option B0}{F:Option B0->Prop}(n:Nat)(d:St W l w)(a:nth l n=A0 (Row b t cs))(h:cs[o+j]?=A0 (Zq x))(c:F x):LdP (Za ⟨b,o,A8⟩ j) w F:=by rw[qi1];exact LdP.n n d a h c
def LdL.a{p:Option B0}{m c:Nat}{F:Option B0->Nat->Nat->Prop}(n:Nat)(e:St W l w)(a:nth l n=A0 (Row b t cs))(h:cs[o+j]?=A0 (Zl p m c))(d:F p m c):LdL (Za ⟨b,o,A8⟩ j) w F:=by rw[qi1];exact LdL.n n e a h d
def LdM.a{x:Option Nat}{F:Option Nat->Prop}(n:Nat)(d:St W l w)(a:nth l n=A0 (Row b t cs))(h:cs[o+j]?=A0 (.map x))(c:F x):LdM (Za ⟨b,o,A8⟩ j) w F:=by rw[qi1];exact LdM.n n d a h c
def LdV.a{x:A1}{F:A1->Prop}(n:Nat)(d:St W l w)(a:nth l n=A0 (Row b t cs))(h:cs[o+j]?=A0 x)(c:F x):LdV (Za ⟨b,o,A8⟩ j) w F:=by rw[qi1];exact LdV.n n d a h c
def St1.n{v:A1}{F:A7->Prop}(n:Nat)(d:St W l w)(a:nth l n=A0 (Row b t cs))(h:k0<cs.length)(c:∀w',St W (put l n [Row b t (cs.set k0 v)]) w'->F w'):St1 ⟨b,k0,A8⟩ v w F:=
 St1.i (d.at n a) h λw' h=>c w' (z06 n a h)
def St1.a{v:A1}{F:A7->Prop}(n:Nat)(d:St W l w)(a:nth l n=A0 (Row b t cs))(h:o+j<cs.length)(c:∀w',St W (put l n [Row b t (cs.set (o+j) v)]) w'->F w'):St1 (Za ⟨b,o,A8⟩ j) v w F:=by rw[qi1];exact St1.n n d a h c
def St1.zz{v:A1}{F:A7->Prop}(n:Nat)(d:St W l w)(a:nth l n=A0 (Row b t cs))(c:∀w',St W (put l n [Row b t (cs.set (o+j) v)]) w'->F w')(h:o+j < cs.length:=by first|(simp;done)|exact Nat.le_of_ble_eq_true yR):St1 (Za ⟨b,o,A8⟩ j) v w F:=St1.a n d a h c
def St.last{A:Asn}(h:St W (A::l) w):St W (l++[A]) w:=h.perm (List.perm_append_singleton A l).symm
def Is.at(b:Is W C l){A:Asn}{G:List (Nat×Obj)}(n:Nat)(a:nth l n=A0 A)(h:C.p G w):St W (A::(del l n++pts G)) w:=by have c:=((b G w).1 h).at n (qr4 (pts G) a).1;rwa[(qr4 (pts G) a).2.1]at c
def Is.back(n:Nat){A:Asn}(b:nth l n=A0 A){B:List Asn}{G:List (Nat×Obj)}{w':A7}(h:St W (B++(del l n++pts G)) w'):St W (put l n B++pts G) w':=by have w:=qr4 (pts G) b;rw[<-w.2.1]at h;have a:=z06 n w.1 h;rwa[w.2.2]at a
def Is.cell(a:Is W C l)(n:Nat)(d:nth l n=A0 (Row b t cs)){v:A1}(h:cs[k0]?=A0 v){G:List (Nat×Obj)}(c:C.p G w):w.cell? ⟨b,k0,A8⟩=A0 v:=(a.at n d c).ld h
def QtI.n{k:Bq}{x:Int}(n:Nat)(c:Is W C l)(d:nth l n=A0 (Row b t cs))(h:cs[k0]?=A0 (.int k x)):Qt C (.int k x) λw K=>LdI k ⟨b,k0,A8⟩ w λx=>K (.int k x) w:=λG w a=>⟨x,c.cell n d h a,rfl,a⟩
def QtB.n{x:Bool}(n:Nat)(c:Is W C l)(d:nth l n=A0 (Row b t cs))(h:cs[k0]?=A0 (Zb x)):Qt C (Zb x) λw K=>LdB ⟨b,k0,A8⟩ w λx=>K (Zb x) w:=λG w a=>⟨x,c.cell n d h a,rfl,a⟩
def QtS.n{x:ByteArray}(n:Nat)(c:Is W C l)(d:nth l n=A0 (Row b t cs))(h:cs[k0]?=A0 (Zs x)):Qt C (Zs x) λw K=>LdS ⟨b,k0,A8⟩ w λx=>K (Zs x) w:=λG w a=>⟨x,c.cell n d h a,rfl,a⟩
def QtP.n{x:Option B0}(n:Nat)(c:Is W C l)(d:nth l n=A0 (Row b t cs))(h:cs[k0]?=A0 (Zq x)):Qt C (Zq x) λw K=>LdP ⟨b,k0,A8⟩ w λx=>K (Zq x) w:=λG w a=>⟨x,c.cell n d h a,rfl,a⟩
def QtL.n{p:Option B0}{m c:Nat}(n:Nat)(d:Is W C l)(e:nth l n=A0 (Row b t cs))(h:cs[k0]?=A0 (Zl p m c)):Qt C (Zl p m c) λw K=>LdL ⟨b,k0,A8⟩ w λp m c=>K (Zl p m c) w:=λG w a=>⟨p,m,c,d.cell n e h a,rfl,a⟩
def QtM.n{x:Option Nat}(n:Nat)(c:Is W C l)(d:nth l n=A0 (Row b t cs))(h:cs[k0]?=A0 (.map x)):Qt C (.map x) λw K=>LdM ⟨b,k0,A8⟩ w λx=>K (.map x) w:=λG w a=>⟨x,c.cell n d h a,rfl,a⟩
def QtV.n{x:A1}(n:Nat)(c:Is W C l)(d:nth l n=A0 (Row b t cs))(h:cs[k0]?=A0 x):Qt C x λw K=>LdV ⟨b,k0,A8⟩ w λx=>K x w:=λG w a=>⟨x,c.cell n d h a,rfl,a⟩
def QtI.a{k:Bq}{x:Int}(n:Nat)(a:Is W C l)(c:nth l n=A0 (Row b t cs))(h:cs[o+j]?=A0 (.int k x)):Qt C (.int k x) λw K=>LdI k (Za ⟨b,o,A8⟩ j) w λx=>K (.int k x) w:=by rw[qi1];exact QtI.n n a c h
def QtB.a{x:Bool}(n:Nat)(a:Is W C l)(c:nth l n=A0 (Row b t cs))(h:cs[o+j]?=A0 (Zb x)):Qt C (Zb x) λw K=>LdB (Za ⟨b,o,A8⟩ j) w λx=>K (Zb x) w:=by rw[qi1];exact QtB.n n a c h
def QtS.a{x:ByteArray}(n:Nat)(a:Is W C l)(c:nth l n=A0 (Row b t cs))(h:cs[o+j]?=A0 (Zs x)):Qt C (Zs x) λw K=>LdS (Za ⟨b,o,A8⟩ j) w λx=>K (Zs x) w:=by rw[qi1];exact QtS.n n a c h
def QtP.a{x:Option B0}(n:Nat)(a:Is W C l)(c:nth l n=A0 (Row b t cs))(h:cs[o+j]?=A0 (Zq x)):Qt C (Zq x) λw K=>LdP (Za ⟨b,o,A8⟩ j) w λx=>K (Zq x) w:=by rw[qi1];exact QtP.n n a c h
def QtL.a{p:Option B0}{m c:Nat}(n:Nat)(a:Is W C l)(d:nth l n=A0 (Row b t cs))(h:cs[o+j]?=A0 (Zl p m c)):Qt C (Zl p m c) λw K=>LdL (Za ⟨b,o,A8⟩ j) w λp m c=>K (Zl p m c) w:=by rw[qi1];exact QtL.n n a d h
def QtM.a{x:Option Nat}(n:Nat)(a:Is W C l)(c:nth l n=A0 (Row b t cs))(h:cs[o+j]?=A0 (.map x)):Qt C (.map x) λw K=>LdM (Za ⟨b,o,A8⟩ j) w λx=>K (.map x) w:=by rw[qi1];exact QtM.n n a c h
def QtV.a{x:A1}(n:Nat)(a:Is W C l)(c:nth l n=A0 (Row b t cs))(h:cs[o+j]?=A0 x):Qt C x λw K=>LdV (Za ⟨b,o,A8⟩ j) w λx=>K x w:=by rw[qi1];exact QtV.n n a c h
def Ef.n{α:Type}{V:α->A1}{B:α->List Asn}{A:Asn}{Op:A7->(A1->A7->Prop)->Prop}{K:A1->Cls->Prop}(a:α)(n:Nat)(e:Is W C l)(b:nth l n=A0 A)
 (h:∀G w,St W (A::(del l n++pts G)) w->Op w λv w'=>∃x,v=V x/\St W (put l n (B x)++pts G) w')
 (c:∀x,K (V x) (StC W (put l n (B x)))):Ef C Op K:=
 ⟨α,a,V,λx=>StC W (put l n (B x)),λG w d=>h G w (e.at n b d),c⟩
def Ef.n0{α:Type}{V:α->A1}{B:α->List Asn}{Op:A7->(A1->A7->Prop)->Prop}{K:A1->Cls->Prop}(a:α)(d:Is W C l)
 (h:∀G w,St W (l++pts G) w->Op w λv w'=>∃x,v=V x/\St W (B x++pts G) w')
 (b:∀x,K (V x) (StC W (B x))):Ef C Op K:=
 ⟨α,a,V,λx=>StC W (B x),λG w c=>h G w ((d G w).1 c),b⟩
def Ef.st{v:A1}{K:A1->Cls->Prop}(n:Nat)(f:Is W C l)(a:nth l n=A0 (Row b t cs))(h:k0<cs.length)
 (d:K (Zt #[]) (StC W (put l n [Row b t (cs.set k0 v)]))):Ef C (λw K=>St1 ⟨b,k0,A8⟩ v w λw'=>K (Zt #[]) w') K:=
 ⟨Unit,(),λ_=>Zt #[],λ_=>StC W (put l n [Row b t (cs.set k0 v)]),λG w e=>St1.i (f.at n a e) h λw' c=>⟨(),rfl,Is.back n a c⟩,λ_=>d⟩
def Ef.sta{v:A1}{K:A1->Cls->Prop}(n:Nat)(a:Is W C l)(d:nth l n=A0 (Row b t cs))(h:o+j<cs.length)
 (c:K (Zt #[]) (StC W (put l n [Row b t (cs.set (o+j) v)]))):Ef C (λw K=>St1 (Za ⟨b,o,A8⟩ j) v w λw'=>K (Zt #[]) w') K:=by
 rw[qi1];exact Ef.st n a d h c
end
def z8:=@LdI.a
def zg:=@LdS.a
def zi:=@QtI.a
def zk:=@Ef.n0
def zo:=@QtP.a
def zt:=@LdL.a
def zu:=@QtS.a
def zv:=@LdM.a
def zx:=@LdB.a
def zy:=@QtP.n
def z02:=@QtI.n
def z04:=@Rd.n
def z0b:=@QtM.a
def z0h:=@St.dropL
def z0n:=@LdP.a
def z0o:=@St1.n
def z0q:=@Ef.sta
def z0u:=@QtB.a
def z12:=@LdI.n
def z17:=@Is.back
end
section
open Go Go.MapKept
section
variable{κ ν:Type}[DecidableEq κ]
def qe:List (κ×ν)->κ->Option ν
 |[],_=>A8
 |x::r,k=>if x.1=k then A0 x.2 else qe r k
def qk:List (κ×ν)->κ->ν->List (κ×ν)
 |[],k,v=>[(k,v)]
 |x::r,k,v=>if x.1=k then(k,v)::r else x::qk r k v
def qp:List (κ×ν)->κ->List (κ×ν)
 |[],_=>[]
 |x::r,k=>if x.1=k then r else x::qp r k
def qm8{L:List (κ×ν)}{k:κ}:qe L k=A8↔∀x∈L,x.1≠k:=by
 induction L with
 |nil=>simp[qe]
 |cons x r ih=>
  simp only[qe];split;.rename_i h;simp[h]
  .rename_i h;simp[ih,h]
def qg3{L:List (κ×ν)}{k:κ}{v:ν}(h:qe L k=A0 v):(k,v)∈L:=by
 induction L with
 |nil=>simp[qe]at h
 |cons x r w=>
  simp only[qe]at h;split at h;.rename_i e;cases h;subst e;exact Ah
  .exact A2 _ (w h)
def q24{L:List (κ×ν)}(w:(L.map (·.1)).Nodup){k:κ}{v:ν}(h:(k,v)∈L):qe L k=A0 v:=by
 induction L with
 |nil=>cases h
 |cons x r ih=>
  simp only[Ab,Ak]at w;simp only[qe];rcases B1.1 h with h|h;.subst h;simp
  .have:x.1≠k:=λe=>w.1 (A4.2 ⟨_,h,e.symm⟩);rw[yA this];exact ih w.2 h
def qh2(L:List (κ×ν))(k j:κ)(v:ν):qe (qk L k v) j=if k=j then A0 v else qe L j:=by
 induction L with
 |nil=>simp[qk,qe]
 |cons x r a=>
  simp only[qk];split
  .rename_i h;simp only[qe,h];split<;>rfl
  .rename_i h;simp only[qe,a];by_cases w:x.1=j;.rw[yB w,yB w,yA (λe=>h (w.trans e.symm))]
   .rw[yA w,yA w]
def q2a(L:List (κ×ν))(k:κ):(qp L k).Sublist L:=by
 induction L with
 |nil=>exact .slnil
 |cons x r ih=>
  simp only[qp];split;.exact List.sublist_cons_self _ _
  .exact ih.cons_cons _
def qaa{L:List (κ×ν)}(a:(L.map (·.1)).Nodup)(k j:κ):qe (qp L k) j=if k=j then A8 else qe L j:=by
 induction L with
 |nil=>simp[qp,qe]
 |cons x r c=>
  simp only[Ab,Ak]at a;simp only[qp];split
  .rename_i h;by_cases w:k=j
   .rw[yB w,qm8];exact λy b e=>a.1 (A4.2 ⟨y,b,by rw[e,<-w,<-h]⟩)
   .rw[yA w];simp only[qe];rw[yA (λe=>w (h.symm.trans e))]
  .rename_i h;simp only[qe,c a.2];by_cases w:x.1=j;.rw[yB w,yB w,yA (λe=>h (w.trans e.symm))]
   .rw[yA w,yA w]
def qha(L:List (κ×ν))(k:κ)(v:ν):(qk L k v).map (·.1)=if qe L k=A8 then L.map (·.1)++[k]else L.map (·.1):=by
 induction L with
 |nil=>simp[qk,qe]
 |cons x r w=>
  simp only[qk,qe];by_cases h:x.1=k;.simp[h]
  .simp only[yA h,Ab,w];split<;>simp
def qr7{L:List (κ×ν)}(c:(L.map (·.1)).Nodup)(k:κ)(v:ν):((qk L k v).map (·.1)).Nodup:=by
 rw[qha];split
 .rename_i h;rw[qm8]at h;refine B7.2 ⟨c,by simp,λa e b w=>?_⟩;simp only[Ar]at w;subst w;obtain⟨x,d,rfl⟩:=A4.1 e;exact h x d
 .exact c
def qph{L:List (κ×ν)}(h:(L.map (·.1)).Nodup)(k:κ):((qp L k).map (·.1)).Nodup:=((q2a L k).map _).nodup h
def ql6{L:List (κ×ν)}{k:κ}(h:qe L k=A8):qp L k=L:=by
 induction L with
 |nil=>rfl
 |cons x r a=>
  simp only[qe]at h;split at h;.cases h
  .rename_i w;simp only[qp,yA w,a h]
def qbc{L:List (κ×ν)}{k:κ}{v:ν}(h:qe L k=A8):qk L k v=L++[(k,v)]:=by
 induction L with
 |nil=>rfl
 |cons x r a=>
  simp only[qe]at h;split at h;.cases h
  .rename_i w;simp only[qk,yA w,a h,List.cons_append]
def qep{L:List (κ×ν)}{k:κ}{v u:ν}{j:Nat}(w:(L.map (·.1)).Nodup)(h:L[j]?=A0 (k,u)):qk L k v=L.set j (k,v):=by
 induction L generalizing j with
 |nil=>simp at h
 |cons x r b=>
  simp only[Ab,Ak]at w;cases j with
  |zero=>simp at h;subst h;simp[qk]
  |succ j=>
   have a:r[j]?=A0 (k,u):=by simpa using h
   have:x.1≠k:=λe=>w.1 (A4.2 ⟨_,Af a,e.symm⟩);simp only[qk,yA this,List.set_cons_succ,b w.2 a]
def q5p{L:List (κ×ν)}{k:κ}{u:ν}{j:Nat}(w:(L.map (·.1)).Nodup)(h:L[j]?=A0 (k,u)):qp L k=L.eraseIdx j:=by
 induction L generalizing j with
 |nil=>simp at h
 |cons x r b=>
  simp only[Ab,Ak]at w;cases j with
  |zero=>simp at h;subst h;simp[qp]
  |succ j=>
   have a:r[j]?=A0 (k,u):=by simpa using h
   have:x.1≠k:=λe=>w.1 (A4.2 ⟨_,Af a,e.symm⟩);simp only[qp,yA this,List.eraseIdx_cons_succ,b w.2 a]
def q0p{L:List (κ×ν)}{k:κ}{u:ν}{j:Nat}(w:(L.map (·.1)).Nodup)(h:L[j]?=A0 (k,u)):qe L k=A0 u:=q24 w (Af h)
end
def qea{α β:Type}(f:α->β):∀(l:List α) (j:Nat),(l.eraseIdx j).map f=(l.map f).eraseIdx j
 |[],j=>by simp
 |x::r,0=>by simp
 |x::r,j+1=>by simp[qea f r j]
def St.turn{W w:A7}{r:List Asn}{b:Nat}{o o':Obj}(h:St W (Pt b o::r) w):w.heap[b]?=A0 o/\St W (Pt b o'::r) { w with heap:=w.heap.setIfInBounds b o'}:=by
 obtain⟨f,g,l,j,m⟩:=h;have k:w.heap[b]?=A0 o:=l b _ j;have i:b<w.heap.size:=qr6 k;refine⟨k,⟨f.os,f.tape,f.output,by simpa using f.size⟩,λx=>if x=b then A0 o' else g x,λx u a=>?_,by simp[Pt],z10 (λx u a=>?_) m⟩
 .simp only at a;unfold qff;simp only[Ao];split at a;.rename_i e;subst e;cases a;simp[i]
  .rename_i e;rw[yA (λh=>e h.symm)];exact l x u a
 .unfold qh6 at a⊢;cases c:g x with
  |some u=>simp[c]at a
  |none=>
   simp only[c]at a;have d:¬x=b:=λe=>by subst e;rw[show g x=A0 o from j]at c;cases c
   simp only[yA d,c];unfold qff;simp only[Ao];rw[yA (λh=>d h.symm)];exact a
structure qw2(P:A9)(kt:B2){κ:Type}(enc:κ->A1):Prop where
 kind:∃d,P.underlying kt=A0 d/\∀k,IsKey d (enc k)
 inj:∀a b,enc a=enc b->a=b
def qw2.i64{P:A9}{kt:B2}(h:P.underlying kt=A0 (.int Zk)):qw2 P kt (Zi Zk):=⟨⟨_,h,λ_=>rfl⟩,λa b h=>by cases h;rfl⟩
def qw2.str{P:A9}{kt:B2}(h:P.underlying kt=A0 .string):qw2 P kt Zs:=⟨⟨_,h,λ_=>trivial⟩,λa b h=>by cases h;rfl⟩
section
variable{κ ν:Type}{P:Program}{kt et mt:TypeId}{enc:κ->Value}{vl:ν->Value}
def qk3(enc:κ->A1)(vl:ν->A1)(L:List (κ×ν)):List (A1×A1):=L.map λx=>(enc x.1,vl x.2)
def qg(enc:κ->A1)(vl:ν->A1)(m:Nat)(L:List (κ×ν)):Asn:=exA λx:Array Ag×Nat=>qz [
 prA (Stamped x.1 x.2/\x.1.toList.map (λe=>(e.key,e.val))=qk3 enc vl L),Pt m (.map x.1 x.2)]
def qg.open_{W w:A7}{F:List Asn}{m:Nat}{L:List (κ×ν)}(h:St W (qg enc vl m L::F) w):
 ∃es clock,Stamped es clock/\es.toList.map (λe=>(e.key,e.val))=qk3 enc vl L/\St W (Pt m (.map es clock)::F) w:=by
 obtain⟨⟨es,clock⟩,h⟩:=h.of_ex;obtain⟨⟨b,a⟩,h⟩:=h.of_sep.of_pr;exact⟨es,clock,b,a,h⟩
def qg.shut{W w:A7}{F:List Asn}{m clock:Nat}{es:Array Ag}{L:List (κ×ν)}(b:Stamped es clock)(a:es.toList.map (λe=>(e.key,e.val))=qk3 enc vl L)(h:St W (Pt m (.map es clock)::F) w):St W (qg enc vl m L::F) w:=
 z00 (es,clock) (zj (l:=[_,_]) (z01 ⟨b,a⟩ h))
def qdb{es:Array Ag}{L:List (κ×ν)}(h:es.toList.map (λe=>(e.key,e.val))=qk3 enc vl L):es.toList.map (·.key)=(L.map (·.1)).map enc:=by have:=yE (List.map Prod.fst) h;simpa [qk3,Function.comp_def]using this
def qeb{es:Array Ag}{L:List (κ×ν)}(h:es.toList.map (λe=>(e.key,e.val))=qk3 enc vl L){j:Nat}{e:Ag}(w:es.toList[j]?=A0 e):∃k v,L[j]?=A0 (k,v)/\e.key=enc k/\e.val=vl v:=by
 have:=yE (λl:List (A1×A1)=>l[j]?) h;simp only[qk3,Av,w,Option.map_some]at this;cases hL:L[j]? with
 |none=>rw[hL]at this;cases this
 |some x=>rw[hL]at this;simp at this;exact⟨x.1,x.2,rfl,this.1,this.2⟩
def qg.nodup(d:qw2 P kt enc){es:Array Ag}{clock:Nat}{L:List (κ×ν)}(c:Stamped es clock)(h:es.toList.map (λe=>(e.key,e.val))=qk3 enc vl L):(L.map (·.1)).Nodup:=by have:=c.2.2;rw[qdb h]at this;exact An enc (λa b w e=>w (yE enc e)) this
end
section
variable{κ ν:Type}[DecidableEq κ]{P:Program}{kt et mt:TypeId}{enc:κ->Value}{vl:ν->Value}
def quf(n:qw2 P kt enc){es:Array Ag}{clock:Nat}{L:List (κ×ν)}(t:Stamped es clock)(h:es.toList.map (λe=>(e.key,e.val))=qk3 enc vl L)(k:κ){d:TypeDesc}(u:P.underlying kt=A0 d)(a:∀k,IsKey d (enc k)):
 (qe L k=A8/\Instr.findNow d (enc k) es.toList 0=A0 A8/\∀x∈es.toList,x.key≠enc k)\/∃(j:Nat) (e:Ag) (v:ν),qe L k=A0 v/\Instr.findNow d (enc k) es.toList 0=A0 (A0 (j,vl v))/\es.toList[j]?=A0 e/\L[j]?=A0 (k,v)/\e.key=enc k/\e.val=vl v:=by
 have c:∀x∈es.toList,IsKey d x.key:=λx b=>by obtain⟨j,q⟩:=Aj b;obtain⟨f,l,_,e,_⟩:=qeb h q;rw[e];exact a f
 rcases findNow_spec (a k) es.toList 0 c with ⟨g,w⟩|⟨j,e,g,w,m⟩
 .refine .inl ⟨qm8.2 λx b e=>?_,g,w⟩;have:enc x.1∈es.toList.map (·.key):=by rw[qdb h];exact A4.2 ⟨_,A4.2 ⟨x,b,rfl⟩,rfl⟩
  obtain⟨y,r,i⟩:=A4.1 this;exact w y r (by rw[i,e])
 .obtain⟨f,l,o,s,p⟩:=qeb h w;have:f=k:=n.inj _ _ (s.symm.trans m);subst this;exact .inr ⟨j,e,l,q0p (qg.nodup n t h) o,by rw[g,Aq,p],w,o,m,p⟩
variable{W w:World}{l:List Asn}{m:Nat}{L:List (κ×ν)}
def qq1(p:qw2 P kt enc)(o:P.underlying mt=A0 (.map kt et)){z:A1}{a:TypeInfo}(x:P.info? et=A0 a)(r:a.zero=A0 z){F:A1->A7->Prop}(n:Nat)(t:St W l w)(s:nth l n=A0 (qg enc vl m L))(k:κ)(ok:Bool)
 (u:F (if ok=Am then Zt #[((qe L k).map vl).getD z,Zb (qe L k).isSome]else((qe L k).map vl).getD z) w):Run P (Instr.lookup mt (.map (A0 m)) (enc k) ok) w F:=by
 obtain⟨es,clock,y,q,c⟩:=qg.open_ (t.at n s);have i:=(c.turn (o':=.map #[] 0)).1;obtain⟨d,b,h⟩:=p.kind;refine⟨_,w,?_,u⟩;rcases quf p y q k b h with ⟨f,g,_⟩|⟨j,e,v,f,g,_⟩
 .simp[Instr.lookup,run_underlying o,A5 i,run_checkKey b (h k),run_findKey b g,f,zeroValue,typeInfo,x,r]
 .simp[Instr.lookup,run_underlying o,A5 i,run_checkKey b (h k),run_findKey b g,f]
def qh1(y:qw2 P kt enc)(E:P.underlying mt=A0 (.map kt et)){K:A7->Prop}(n:Nat)(H:St W l w)(D:nth l n=A0 (qg enc vl m L))(k:κ)(v:ν)
 (I:∀w',St W (put l n [qg enc vl m (qk L k v)]) w'->K w'):qt8 P (Instr.mapUpdate mt (.map (A0 m)) (enc k) (vl v)) w K:=by
 obtain⟨es,clock,s,u,c⟩:=qg.open_ (H.at n D);obtain⟨d,q,b⟩:=y.kind;have g:∀a h,Stamped a h->a.toList.map (λe=>(e.key,e.val))=qk3 enc vl (qk L k v)->K { w with heap:=w.heap.setIfInBounds m (.map a h)}:=λa h x r=>
  I _ (z06 n D (B:=[_]) (qg.shut x r c.turn.2))
 have t:=(c.turn (o':=.map #[] 0)).1;rcases quf y s u k q b with ⟨x,r,z⟩|⟨j,e,v0,x,r,z,F,G,J⟩
 .refine⟨_,?_,g (es.push { key:=enc k,val:=vl v,born:=clock}) (clock+1) (stamped_push s z) ?_⟩;.simp[Instr.mapUpdate,run_underlying E,A5 t,run_checkKey q (b k),run_findKey q r,run_setObj_map _ t]
  .rw[qbc x];simp[qk3,u]
 .have A:es[j]?=A0 e:=by simpa using z
  refine⟨_,?_,g (es.modify j λe=>{ e with key:=enc k,val:=vl v}) clock (stamped_modify s _ _ (λ_ _=>rfl) (λe' _ o=>by rw[A]at o;cases o;exact G.symm)) ?_⟩;.simp[Instr.mapUpdate,run_underlying E,A5 t,run_checkKey q (b k),run_findKey q r,A,G,run_keyThatStays (b k),run_setObj_map _ t]
  .rw[qep (qg.nodup y s u) F];refine List.ext_getElem? λi=>?_;have p:=yE (λl:List (A1×A1)=>l[i]?) u;simp only[qk3,Av,Ad]at p;simp only[qk3,Av,Ad,Array.getElem?_modify,List.getElem?_set];by_cases f:j=i
   .subst f;have C:j<L.length:=(Ae.1 F).1;simp[A,C]
   .simp[f,p]
def qc5(s:qw2 P kt enc)(v:P.underlying mt=A0 (.map kt et)){ty:B2}{F:A1->A7->Prop}(n:Nat)(C:St W l w)(u:nth l n=A0 (qg enc vl m L))(k:κ)
 (z:∀w',St W (put l n [qg enc vl m (qp L k)]) w'->F (Zt #[]) w'):Run P (Builtin.delete_ #[mt,kt] ty #[.map (A0 m),enc k]) w F:=by
 obtain⟨es,clock,p,g,c⟩:=qg.open_ (C.at n u);obtain⟨d,i,b⟩:=s.kind;have f:∀a h,Stamped a h->a.toList.map (λe=>(e.key,e.val))=qk3 enc vl (qp L k)->F (Zt #[]) { w with heap:=w.heap.setIfInBounds m (.map a h)}:=λa h r o=>
  z _ (z06 n u (B:=[_]) (qg.shut r o c.turn.2))
 have q:=(c.turn (o':=.map #[] 0)).1;rcases quf s p g k i b with ⟨r,o,x⟩|⟨j,e,v0,r,o,x,A,E,D⟩
 .refine⟨_,_,?_,f es clock p (by rw[ql6 r];exact g)⟩;simp[Builtin.delete_,run_underlying v,A5 q,run_checkKey i (b k),run_findKey i o,run_setObj_map _ q]
 .refine⟨_,_,?_,f (es.eraseIdxIfInBounds j) clock (stamped_erase p j) ?_⟩;.simp[Builtin.delete_,run_underlying v,A5 q,run_checkKey i (b k),run_findKey i o,run_setObj_map _ q]
  .rw[q5p (qg.nodup s p g) A];have t:j<es.size:=by simpa using (Ae.1 x).1
   have y:(es.eraseIdxIfInBounds j).toList=es.toList.eraseIdx j:=by unfold Array.eraseIdxIfInBounds;rw[dif_pos t,Array.toList_eraseIdx]
   unfold qk3 at g⊢;rw[y,qea,g,qea]
end
section
variable{κ ν:Type}{P:Program}{kt et mt:TypeId}{enc:κ->Value}{vl:ν->Value}
variable{W w:World}{l:List Asn}{m:Nat}{L:List (κ×ν)}
def qmy(c:P.underlying mt=A0 (.map kt et)){ty:B2}{F:A1->A7->Prop}(n:Nat)(e:St W l w)(b:nth l n=A0 (qg enc vl m L))
 (d:∀w',St W (put l n [qg enc vl m ([]:List (κ×ν))]) w'->F (Zt #[]) w'):Run P (Builtin.clear_ #[mt] ty #[.map (A0 m)]) w F:=by
 obtain⟨es,clock,g,f,h⟩:=qg.open_ (e.at n b);have a:=(h.turn (o':=.map #[] 0)).1;refine⟨_,_,?_,d _ (z06 n b (B:=[_]) (qg.shut (stamped_empty clock) yR h.turn.2))⟩;simp[Builtin.clear_,run_underlying c,A5 a,run_setObj_map _ a]
def qs5.n{F:Nat->A7->Prop}(enc:κ->A1)(vl:ν->A1)(a:St W l w)(h:∀b w',St W (l++[qg enc vl b ([]:List (κ×ν))]) w'->F b w'):qs5 w F:=
 h _ _ (St.last (qg.shut (stamped_empty 0) yR (a.alloc _)))
def qg.of_pt{h:Hp}{b:Nat}(enc:κ->A1)(vl:ν->A1)(a:Pt b (.map #[] 0) h):qg enc vl b ([]:List (κ×ν)) h:=
 ⟨(#[],0),λ_=>A8,λb o w=>by(cases w),⟨stamped_empty 0,rfl⟩,h,λb o w=>by unfold qh6;exact w,a,trivial⟩
def qg.keys(c:qw2 P kt enc){F:List Asn}(h:St W (qg enc vl m L::F) w):(L.map (·.1)).Nodup:=by obtain⟨es,clock,b,a,_⟩:=qg.open_ h;exact qg.nodup c b a
end
def z18:=@qg.keys
def z1c:=@qg.open_
end
section
open Go Go.MapKept
def qwg{a b:ByteArray}(h:a.toList=b.toList):a=b:=by rw[ByteArray.toList_eq,ByteArray.toList_eq]at h;apply ByteArray.ext;exact Array.ext' h
def qv3(a b:ByteArray):(a.toList==b.toList)=decide (a=b):=by rw[Bool.eq_iff_iff];simp only[beq_iff_eq,yJ];exact⟨qwg,λh=>by rw[h]⟩
def qrd{α:Type}(f:α->List A1)(k:Nat)(b:0<k)(w:∀x,(f x).length=k):∀(l:List α) (i:Nat),(l.flatMap f)[i]?=(l[i/k]?).bind λx=>(f x)[i%k]?
 |[],i=>by simp
 |x::l,i=>by
  rw[Aw];rcases Nat.lt_or_ge i k with h|h;.rw[List.getElem?_append_left (by rw[w];exact h),B9 h,Ba h];rfl
  .have c:i/k=(i - k)/k+1:=by have a:=Nat.add_div_right (i - k) b;rwa[B3 h]at a
   have d:i%k=(i - k)%k:=by have a:=Nat.add_mod_right (i - k) k;rwa[B3 h]at a
   rw[List.getElem?_append_right (by rw[w];exact h),w,qrd f k b w l (i - k),c,d];rfl
def qh3{α:Type}(f:α->List A1)(k:Nat)(h:∀x,(f x).length=k):∀l:List α,(l.flatMap f).length=l.length*k
 |[]=>by simp
 |x::l=>by rw[Aw,As,h,qh3 f k h l,Bb,Nat.succ_mul,Nat.add_comm]
def qn9{α:Type}{f:α->List A1}{k:Nat}(w:∀x,(f x).length=k){l:List α}{i j:Nat}{x:α}{v:A1}(b:l[i]?=A0 x)(a:(f x)[j]?=A0 v):(l.flatMap f)[i*k+j]?=A0 v:=by
 have h:j<k:=by have:=(Ae.1 a).1;rwa[w]at this
 rw[qrd f k (by omega) w,Nat.mul_comm i k,Nat.mul_add_div (by omega),B9 h,Nat.add_zero,b,Nat.mul_add_mod,Ba h];exact a
def qt6{α:Type}(f:α->A1):∀xs:List α,xs.flatMap (λx=>[f x])=xs.map f
 |[]=>rfl
 |a::l=>by rw[Aw,qt6 f l];rfl
def SlA{α:Type}(e:B2)(size:Nat)(f:α->List A1)(p:Option B0)(c:Nat)(os:List α):Asn:=qi e size p os.length c (os.flatMap f)
def iV(x:Int):List A1:=[Zi Zk x]
section
variable{α:Type}{f:α->List Value}{size:Nat}{P:Program}{W w:World}{l:List Asn}{p:Option Addr}{os xs:List α}{n c:Nat}{e:TypeId}
def SlA.rd(F:List Asn):Rd (SlA e size f p c os::F) p (os.flatMap f):=z0k F
def SlA.le{F:List Asn}(h:St W (SlA e size f p c os::F) w):os.length<=c:=(qi.le h).2
def SlA.nil(h:St W l w):St W (SlA e size f p 0 ([]:List α)::l) w:=z1a e size p h
def SlA.of_row{q:Nat}{F:List Asn}(a:∀x,(f x).length=size)(h:St W (Row q e (os.flatMap f)::F) w):St W (SlA e size f (A0 ⟨q,0,A8⟩) os.length os::F) w:=
 qi.whole (qh3 f size a os) h
def IxP.el{i:Int}{k:Nat}{x:α}{K:B0->Prop}(h:∀x,(f x).length=size)(b:0<size)(g:Rd l p (os.flatMap f))(e:St W l w)(q:i=(k:Int))(s:k<n)(d:os[k]?=A0 x)
 (o:∀a,(∀j v,(f x)[j]?=A0 v->w.cell? (a.add j)=A0 v)->K a):IxP p n i size K:=by
 subst q;have r:(os.flatMap f)[k*size+0]?=A0 ((f x)[0]'(by rw[h];exact b)):=qn9 h d (Ax _);obtain⟨a,c,_⟩:=g.of e r;refine⟨a,c,⟨by omega,by omega⟩,o _ λj v m=>?_⟩;rw[Ai];exact g.at2 e c (qn9 h d m)
def IxP.elC{C:Cls}{i:Int}{k:Nat}{x:α}{K:B0->Prop}(r:Is W C l)(h:∀x,(f x).length=size)(b:0<size)(e:Rd l p (os.flatMap f))(g:St W l w)(o:i=(k:Int))(s:k<n)(d:os[k]?=A0 x)
 (m:∀a,(∀{G:List (Nat×Obj)} {w:A7},C.p G w->∀j v,(f x)[j]?=A0 v->w.cell? (a.add j)=A0 v)->K a):IxP p n i size K:=by
 subst o;have q:(os.flatMap f)[k*size+0]?=A0 ((f x)[0]'(by rw[h];exact b)):=qn9 h d (Ax _);obtain⟨a,c,_⟩:=e.of g q;refine⟨a,c,⟨by omega,by omega⟩,m _ λ{G w} hw j v hj=>?_⟩;rw[Ai];exact(e.app (pts G)).at2 ((r G w).1 hw) c (qn9 h d hj)
def qf3{sT xT ty:B2}{a:TypeInfo}{z:A1}{sp:Option B0}{sc m:Nat}{F:A1->A7->Prop}(s:∀x,(f x).length=size)(r:P.underlying sT=A0 (.slice e))(i:Src P xT)(A:P.info? e=A0 a)(q:a.size=size)(D:a.zero=A0 z)(g:z.cells.size=size)
 (k:Nat) (E:St W l w) (n:nth l k=A0 (SlA e size f p c os)) (G:Rd (del l k) sp (xs.flatMap f)) (o:m=xs.length) (j:∀x,∀v∈f x,qn1 v)
 (t:(os.length+xs.length)*a.bytes<=140737488355328) (u:os.length+xs.length<=9223372036854775807)
 (y:∀d b w',St W (put l k [SlA e size f d b (os++xs)]) w'->F (.slice d (os++xs).length b) w'):
 Run P (Builtin.append_ #[sT,xT] ty #[Zl p os.length c,Zl sp m sc]) w F:=by
 subst o;refine qp8 r i A q D g (E.at k n) G (qh3 f size s xs) (λv C=>?_) t (by omega) λd b w' h=>?_
 .obtain⟨x,_,i⟩:=List.mem_flatMap.1 C;exact j x v i
 .rw[<-List.flatMap_append,<-As]at h;have:=y d b w' (z06 k n (B:=[_]) h);rwa[As]at this
end
def ql4{α β:Type}(g:α->β){l:List α}(h:(l.map g).Nodup):l.Nodup:=An g (λa b w e=>w (yE g e)) h
def qdd{α:Type}(f:α->Nat):∀{V L:List α},V.Nodup->(∀x∈V,x∈L)->(V.map f).sum<=(L.map f).sum
 |[],L,_,_=>by simp
 |x::V,L,h,a=>by
  simp only[Ak]at h;obtain⟨g,d,rfl⟩:=List.append_of_mem (a x Ah);have b:=qdd f (V:=V) (L:=g++d) h.2 λy w=>by have:=a y (A2 _ w);have c:y≠x:=λe=>h.1 (e ▸ w);simp_all
  simp only[Ap,List.sum_append,Ab,Bm]at b⊢;omega
def qmp{α:Type}{V L:List α}(w:V.Nodup)(b:∀x∈V,x∈L):V.length<=L.length:=by
 have h:∀l:List α,(l.map λ_=>1).sum=l.length:=λl=>by
  induction l with
  |nil=>rfl
  |cons x r a=>simp only[Ab,Bm,a,Bb];omega
 have:=qdd (λ_=>1) w b;rwa[h,h]at this
section
variable{κ ν:Type}{P:Program}{kt et mt:TypeId}{enc:κ->Value}{vl:ν->Value}
structure qks(enc:κ->A1)(vl:ν->A1)(L V:List (κ×ν))(es:Array Ag)(clock:Nat)(seen:Array Nat)(c0:Nat):Prop where
 st:Stamped es clock
 ent:es.toList.map (λe=>(e.key,e.val))=qk3 enc vl L
 old:clock<=c0
 sub:∀x∈V,x∈L
 nod:(V.map (·.1)).Nodup
 len:seen.size=V.length
 seen:∀e∈es.toList,seen.contains e.born=Am↔e.key∈V.map λx=>enc x.1
def qd1(enc:κ->A1)(vl:ν->A1)(m it:Nat)(L V:List (κ×ν)):Asn:=exA λx:Array Ag×Nat×Array Nat×Nat=>qz [
 prA (qks enc vl L V x.1 x.2.1 x.2.2.1 x.2.2.2),Pt m (.map x.1 x.2.1),Pt it (.mapIter (A0 m) x.2.1 x.2.2.1 x.2.2.2)]
def qpp(enc:κ->A1)(vl:ν->A1)(m it:Nat)(L V:List (κ×ν))(x:κ×ν):Asn:=exA λy:Array Ag×Nat×Array Nat×Ag=>qz [
 prA (qks enc vl L (V++[x]) y.1 y.2.1 (y.2.2.1.push y.2.2.2.born) y.2.1/\y.2.2.2∈y.1.toList/\y.2.2.2.key=enc x.1/\y.2.2.2.val=vl x.2),Pt m (.map y.1 y.2.1),Pt it (.mapIter (A0 m) y.2.1 (y.2.2.1.push y.2.2.2.born) y.2.1)]
variable{W w:World}{l:List Asn}{m it:Nat}{L V:List (κ×ν)}
def qg9(d:P.underlying mt=A0 (.map kt et)){F:A1->A7->Prop}(n:Nat)(f:St W l w)(a:nth l n=A0 (qg enc vl m L))
 (e:∀it w',St W (put l n [qd1 enc vl m it L []]) w'->F (Zq (A0 ⟨it,0,A8⟩)) w'):Run P (Instr.range mt (.map (A0 m))) w F:=by
 obtain⟨es,clock,i,b,h⟩:=z1c (f.at n a);have c:=(h.turn (o':=.map #[] 0)).1;have g:=h.alloc (.mapIter (A0 m) clock #[] clock);refine⟨_,_,run_range_map w mt kt et m es clock d c,e _ _ (z06 n a (B:=[_]) ?_)⟩;refine z00 (es,clock,#[],clock) (zj (l:=[_,_,_]) (z01 ⟨i,b,Bs _,by simp,by simp,rfl,by simp⟩ g.p1))
def St.pt{r:List Asn}{b:Nat}{o:Obj}(h:St W (Pt b o::r) w):w.heap[b]?=A0 o:=(h.turn (o':=o)).1
def q74(it n:Nat)(w:A7):Nat:=match w.heap[it]? with
 |some (.mapIter _ _ seen _)=>n - seen.size
 |_=>0
def qd1.left{F:List Asn}(h:St W (qd1 enc vl m it L V::F) w)(n:Nat):q74 it n w=n - V.length:=by obtain⟨⟨es,clock,seen,b⟩,h⟩:=h.of_ex;obtain⟨a,h⟩:=h.of_sep.of_pr;dsimp only at a h;have h:St W (Pt m (.map es clock)::Pt it (.mapIter (A0 m) clock seen b)::F) w:=h;unfold q74;rw[h.p1.pt];show n - seen.size=_;rw[a.len]
def qcp{es:Array Ag}{clock:Nat}(k:Stamped es clock){a b:Ag}(m:a∈es.toList)(l:b∈es.toList):(a.born=b.born↔a=b)/\(a.key=b.key↔a=b):=by
 have inj:∀{β:Type} (g:Ag->β),(es.toList.map g).Nodup->g a=g b->a=b:=λg n h=>by
  obtain⟨i,f⟩:=Aj m;obtain⟨j,d⟩:=Aj l;have w:(es.toList.map g)[i]?=A0 (g a):=by simp[f]
  have c:(es.toList.map g)[j]?=A0 (g b):=by simp[d]
  have:i=j:=by have e:=(Ae.1 w).1;exact(List.getElem?_inj e n).1 (by rw[w,c,h])
  subst this;rw[f]at d;cases d;rfl
 exact⟨⟨inj _ k.2.1,λh=>by rw[h]⟩,⟨inj _ k.2.2,λh=>by rw[h]⟩⟩
def qp9{F:A1->A7->Prop}{x:κ×ν}(n:Nat)(i:St W l w)(c:nth l n=A0 (qpp enc vl m it L V x))
 (g:St W (put l n [qd1 enc vl m it L (V++[x])]) w->F (Zt #[enc x.1,vl x.2]) w):Run P (Instr.entry (Zq (A0 ⟨it,0,A8⟩))) w F:=by
 obtain⟨⟨es,clock,seen,e⟩,h⟩:=(i.at n c).of_ex;obtain⟨⟨a,b,d,f⟩,h⟩:=h.of_sep.of_pr;dsimp only at a h b d f;have h:St W (Pt m (.map es clock)::Pt it (.mapIter (A0 m) clock (seen.push e.born) clock)::del l n) w:=h;refine⟨_,w,run_entry_at w it m clock seen es clock e h.p1.pt h.pt b a.st.2.1,?_⟩;rw[d,f];exact g (z06 n c (B:=[_]) (z00 (es,clock,seen.push e.born,clock) (zj (l:=[_,_,_]) (z01 a h))))
end
section
variable{κ ν:Type}[DecidableEq κ]{P:Program}{kt et mt:TypeId}{enc:κ->Value}{vl:ν->Value}
variable{W w:World}{l:List Asn}{m it:Nat}{L V:List (κ×ν)}
def qqb(K:qw2 P kt enc){ty:B2}{A:A7->Prop}{B:A1->A1->A7->Prop}(n:Nat)(Z:St W l w)(u:nth l n=A0 (qd1 enc vl m it L V))
 (R:(∀x∈L,x∈V)->V.Nodup->(∀x∈V,x∈L)->∀w',St W (put l n [qg enc vl m L]) w'->A w')
 (U:∀x,x∈L->x.1∉V.map (·.1)->∀w',St W (put l n [qpp enc vl m it L V x]) w'->B (enc x.1) (vl x.2) w'):q8g P (Instr.next (Zq (A0 ⟨it,0,A8⟩)) Bf ty) w A B:=by
 obtain⟨⟨es,clock,seen,E⟩,h⟩:=(Z.at n u).of_ex;obtain⟨c,h⟩:=h.of_sep.of_pr;dsimp only at c h;have h:St W (Pt m (.map es clock)::Pt it (.mapIter (A0 m) clock seen E)::del l n) w:=h;have t:=h.pt;have hr:=h.p1.pt;have q:=qg.nodup K c.st c.ent;rcases run_next_at (P:=P) w ty it m clock E seen es clock hr t (λx g=>c.st.1 x g) c.old with ⟨h0,d⟩|⟨e,i,w1,z,d⟩
 .refine⟨_,_,d,.inl ⟨rfl,R (λx g=>?_) ?_ c.sub _ (z06 n u (B:=[_]) (qg.shut c.st c.ent (h.p1.drop)))⟩⟩
  .have F:enc x.1∈es.toList.map (·.key):=by rw[qdb c.ent];exact A4.2 ⟨_,A4.2 ⟨x,g,rfl⟩,rfl⟩
   obtain⟨e,i,C⟩:=A4.1 F;have O:seen.contains e.born=Am:=by
    cases hc:seen.contains e.born with
    |true=>rfl
    |false=>
     have:e∈leftOf es seen:=by unfold leftOf;rw[Array.mem_filter];exact⟨by simpa using i,by rw[hc];rfl⟩
     have hh:=Array.size_pos_of_mem this;omega
   obtain⟨y,G,D⟩:=A4.1 ((c.seen e i).1 O);have:y.1=x.1:=K.inj _ _ (D.trans C);have Q:=q24 q (show(x.1,x.2)∈L from g);have X:=q24 q (show(y.1,y.2)∈L from c.sub y G);rw[this,Q]at X;cases y;cases x;simp_all
  .exact An (·.1) (λa b H e=>H (yE (·.1) e)) c.nod
 .have f:e∈es.toList/\seen.contains e.born=Bf:=by unfold leftOf at i;rw[Array.toList_filter,Bg]at i;exact⟨i.1,by simpa using i.2⟩
  obtain⟨j,Y⟩:=Aj f.1;obtain⟨k,v,M,s,J⟩:=qeb c.ent Y;have p:k∉V.map (·.1):=λI=>by
   have:e.key∈V.map λx=>enc x.1:=by obtain⟨y,G,rfl⟩:=A4.1 I;rw[s];exact A4.2 ⟨y,G,rfl⟩
   have:=(c.seen e f.1).2 this;rw[f.2]at this;cases this
  refine⟨_,_,d,.inr ⟨_,_,rfl,?_⟩⟩;rw[s,J];refine U (k,v) (Af M) p _ (z06 n u (B:=[_]) ?_);have hw:St W (Pt m (.map es clock)::Pt it (.mapIter (A0 m) clock seen E)::del l n) w1:=by
   rcases z with rfl|rfl;.exact h
   .exact h.draws
  have N:=(hw.p1.turn (o':=.mapIter (A0 m) clock (seen.push e.born) clock)).2.p1;refine z00 (es,clock,seen,e) (zj (l:=[_,_,_]) (z01 ⟨⟨c.st,c.ent,Bs _,λx g=>?_,?_,by simp[c.len],λe' o=>?_⟩,f.1,s,J⟩ N))
  .rcases Bh.1 g with g|g;.exact c.sub x g
   .simp only[Ar]at g;subst g;exact Af M
  .rw[Ap];exact B7.2 ⟨c.nod,by simp,λa T b t=>by simp at t;subst t;exact λe=>p (e ▸ T)⟩
  .have r:=qcp c.st o f.1;simp only[Az,Array.mem_push,Ap,Bh,Ab,List.map_nil,Ar,yJ];have:=c.seen e' o;simp only[Az,yJ]at this;rw[this,<-s,r.1,r.2]
end
def z07:=@IxP.elC
def z09:=@SlA.nil
def z0e:=@SlA.rd
def z0f:=@IxP.el
end
abbrev B32:=BitVec 32
abbrev B8:=BitVec 8
def nI{n:Nat}(a:BitVec n):Int:=(a.toNat:Int)
def uV(a:B32):A1:=Zi .u32 (nI a)
def qg4{n:Nat}(a:BitVec n):A3 n (nI a)=a:=by unfold nI;rw[BitVec.ofInt_natCast,BitVec.ofNat_toNat,BitVec.setWidth_eq]
def qne(m:Nat):Zw .u32 (m:Int)=nI (Ac 32 m):=by show(m:Int)%(2 ^ 32:Int)=_;unfold nI;rw[Au];norm_cast
def qtf(m:Nat):Zw .u8 (m:Int)=nI (Ac 8 m):=by show(m:Int)%(2 ^ 8:Int)=_;unfold nI;rw[Au];norm_cast
def qjb(a:B32):Zw .u32 (nI a)=nI a:=by unfold nI;rw[qne];unfold nI;simp
def qrf(a:B8):Zw .u8 (nI a)=nI a:=by unfold nI;rw[qtf];unfold nI;simp
def qcd(a b:B32):Zw .u32 (nI a+nI b)=nI (a+b):=by unfold nI;rw[<-Int.natCast_add,qne];unfold nI;simp[BitVec.toNat_add]
def qkj(a b:B32):Zw .u32 ↑((A3 (A6 .u32) (nI a) ^^^ A3 (A6 .u32) (nI b)).toNat)=nI (a ^^^ b):=by show Zw .u32 ↑((A3 32 (nI a) ^^^ A3 32 (nI b)).toNat)=_;rw[qg4,qg4];exact qjb _
def q0y(a b:B32):Zw .u32 ↑((A3 (A6 .u32) (nI a)&&& A3 (A6 .u32) (nI b)).toNat)=nI (a&&& b):=by show Zw .u32 ↑((A3 32 (nI a)&&& A3 32 (nI b)).toNat)=_;rw[qg4,qg4];exact qjb _
def q4n(a b:B32):Zw .u32 ↑((A3 (A6 .u32) (nI a)|||BitVec.ofInt (A6 .u32) (nI b)).toNat)=nI (a|||b):=by show Zw .u32 ↑((A3 32 (nI a)|||BitVec.ofInt 32 (nI b)).toNat)=_;rw[qg4,qg4];exact qjb _
def qaz(a b:B8):Zw .u8 ↑((A3 (A6 .u8) (nI a) ^^^ A3 (A6 .u8) (nI b)).toNat)=nI (a ^^^ b):=by show Zw .u8 ↑((A3 8 (nI a) ^^^ A3 8 (nI b)).toNat)=_;rw[qg4,qg4];exact qrf _
def qa01(a b:B8):Zw .u8 ↑((A3 (A6 .u8) (nI a)|||BitVec.ofInt (A6 .u8) (nI b)).toNat)=nI (a|||b):=by show Zw .u8 ↑((A3 8 (nI a)|||BitVec.ofInt 8 (nI b)).toNat)=_;rw[qg4,qg4];exact qrf _
def qzo(a:B32)(k:Nat)(h:k<=32):Zw .u32 (nI a*2 ^ min (Bc (k:Int)) (A6 .u32))=nI (a <<< k):=by
 have e:min (Bc (k:Int)) (A6 .u32)=k:=by rw[Ai];exact Bi h
 rw[e];unfold nI;have w:(a.toNat:Int)*2 ^ k=((a.toNat*2 ^ k:Nat):Int):=by norm_cast
 rw[w,qne];unfold nI;rw[Au,BitVec.toNat_shiftLeft,Nat.shiftLeft_eq]
def q6j(a:B32)(k:Nat)(h:k<=32):Int.fdiv (nI a) (2 ^ min (Bc (k:Int)) (A6 .u32))=nI (a >>> k):=by
 have e:min (Bc (k:Int)) (A6 .u32)=k:=by rw[Ai];exact Bi h
 rw[e];unfold nI;rw[BitVec.toNat_ushiftRight,Nat.shiftRight_eq_div_pow];have w:(2:Int) ^ k=((2 ^ k:Nat):Int):=by norm_cast
 rw[w,Int.fdiv_eq_ediv_of_nonneg _ (Int.natCast_nonneg _)];norm_cast
def qny(a:B8):Zw .u32 (nI a)=nI (a.setWidth 32):=by unfold nI;rw[qne];unfold nI;simp
def qky(a:B32):Zw .u8 (nI a)=nI (a.setWidth 8):=by unfold nI;rw[qtf];unfold nI;simp
def qv6(a:B32)(k:Nat):B32:=a >>> k|||a <<<(32 - k)
def ofB(a:B8):UInt8:=⟨a⟩
def K64:List B32:=[1116352408,1899447441,3049323471,3921009573,961987163,1508970993,2453635748,2870763221,3624381080,310598401,607225278,1426881987,1925078388,2162078206,2614888103,3248222580,3835390401,4022224774,264347078,604807628,770255983,1249150122,1555081692,1996064986,2554220882,2821834349,2952996808,3210313671,3336571891,3584528711,113926993,338241895,666307205,773529912,1294757372,1396182291,1695183700,1986661051,2177026350,2456956037,2730485921,2820302411,3259730800,3345764771,3516065817,3600352804,4094571909,275423344,430227734,506948616,659060556,883997877,958139571,1322822218,1537002063,1747873779,1955562222,2024104815,2227730452,2361852424,2428436474,2756734187,3204031479,3329325298]
structure S8 where
 a:B32
 b:B32
 c:B32
 d:B32
 e:B32
 f:B32
 g:B32
 h:B32
deriving DecidableEq
def S8.l(s:S8):List B32:=[s.a,s.b,s.c,s.d,s.e,s.f,s.g,s.h]
def H0:S8:=⟨1779033703,3144134277,1013904242,2773480762,1359893119,2600822924,528734635,1541459225⟩
def qvp(x:B32):B32:=qv6 x 7 ^^^ qv6 x 18 ^^^ x >>> 3
def quq(x:B32):B32:=qv6 x 17 ^^^ qv6 x 19 ^^^ x >>> 10
def q9v(x:B32):B32:=qv6 x 6 ^^^ qv6 x 11 ^^^ qv6 x 25
def qsz(x:B32):B32:=qv6 x 2 ^^^ qv6 x 13 ^^^ qv6 x 22
def chF(e f g:B32):B32:=(e&&& f) ^^^(~~~e&&& g)
def qhr(a b c:B32):B32:=(a&&& b) ^^^(a&&& c) ^^^(b&&& c)
def q301(e f g:B32):g ^^^(e&&&(f ^^^ g))=chF e f g:=by unfold chF;apply Ay;intro i h;simp only[B4,B5,BitVec.getLsbD_not,h,decide_true,Bool.true_and];cases e.getLsbD i<;>cases f.getLsbD i<;>cases g.getLsbD i<;>rfl
def qnz(a b c:B32):(a&&&(b|||c))|||(b&&& c)=qhr a b c:=by unfold qhr;apply Ay;intro i h;simp only[B4,B5,BitVec.getLsbD_or];cases a.getLsbD i<;>cases b.getLsbD i<;>cases c.getLsbD i<;>rfl
def qmz(s:S8)(k w:B32):B32:=s.h+q9v s.e+chF s.e s.f s.g+k+w
def rndY(s:S8):B32:=qsz s.a+qhr s.a s.b s.c
def rnd(s:S8)(k w:B32):S8:=⟨qmz s k w+rndY s,s.a,s.b,s.c,s.d+qmz s k w,s.e,s.f,s.g⟩
def q1d(s:S8):List (B32×B32)->S8
 |[]=>s
 |x::r=>q1d (rnd s x.1 x.2) r
def q0x(s:S8)(x y:List (B32×B32)):q1d s (x++y)=q1d (q1d s x) y:=by
 induction x generalizing s with
 |nil=>rfl
 |cons a r ih=>exact ih _
def qfc:List UInt8->B32->B32
 |[],a=>a
 |c::r,a=>qfc r (a <<< 8|||c.toBitVec.setWidth 32)
def w16(bs:List UInt8):List B32:=(Bt 16).map λj=>qfc ((bs.drop (4*j)).take 4) 0
def q1l(l:List B32):B32:=quq (l.getD (l.length - 2) 0)+l.getD (l.length - 7) 0+qvp (l.getD (l.length - 15) 0)+l.getD (l.length - 16) 0
def q53(l:List B32):Nat->List B32
 |0=>l
 |n+1=>q53 l n++[q1l (q53 l n)]
def qi4(bs:List UInt8):List B32:=q53 (w16 bs) 48
def q55(l:List B32):∀n,(q53 l n).length=l.length+n
 |0=>rfl
 |n+1=>by simp[q53,q55 l n];omega
def qa7(h s:S8):S8:=⟨h.a+s.a,h.b+s.b,h.c+s.c,h.d+s.d,h.e+s.e,h.f+s.f,h.g+s.g,h.h+s.h⟩
def blk(h:S8)(bs:List UInt8):S8:=qa7 h (q1d h (K64.zip (qi4 bs)))
def qt5(h:S8):Nat->List UInt8->S8
 |0,_=>h
 |n+1,bs=>qt5 (blk h (bs.take 64)) n (bs.drop 64)
def qg7(h:S8)(n:Nat)(bs:List UInt8):qt5 h (n+1) bs=qt5 (blk h (bs.take 64)) n (bs.drop 64):=by rw[qt5]
def qfa(h:S8)(bs:List UInt8):qt5 h 0 bs=h:=by rw[qt5]
def q5k(h:S8)(n:Nat)(bs:List UInt8):qt5 h (n+1) bs=blk (qt5 h n bs) ((bs.drop (64*n)).take 64):=by
 induction n generalizing h bs with
 |zero=>rw[qg7,qfa,qfa,Br,Bj]
 |succ n w=>rw[qg7,w,Bl,show 64+64*n=64*(n+1)by omega,<-qg7]
def qom(h:S8)(n:Nat)(x y:List UInt8)(a:64*n<=x.length):qt5 h n (x++y)=qt5 h n x:=by
 induction n generalizing h x with
 |zero=>rw[qfa,qfa]
 |succ n w=>rw[qg7,qg7,List.take_append_of_le_length (by omega),List.drop_append_of_le_length (by omega),w _ _ (by rw[List.length_drop];omega)]
def qov(h:S8)(m n:Nat)(bs:List UInt8):qt5 h (m+n) bs=qt5 (qt5 h m bs) n (bs.drop (64*m)):=by
 induction m generalizing h bs with
 |zero=>rw[Aq,qfa,Br,Bj]
 |succ m w=>rw[show m+1+n=(m+n)+1 by omega,qg7,w,Bl,show 64+64*m=64*(m+1)by omega,<-qg7]
def qqa(n:Nat):List UInt8:=[ofB (Ac 8 (8*n/2 ^ 56)),ofB (Ac 8 (8*n/2 ^ 48)),ofB (Ac 8 (8*n/2 ^ 40)),ofB (Ac 8 (8*n/2 ^ 32)),ofB (Ac 8 (8*n/2 ^ 24)),ofB (Ac 8 (8*n/2 ^ 16)),ofB (Ac 8 (8*n/2 ^ 8)),ofB (Ac 8 (8*n/2 ^ 0))]
def zs(n:Nat):Nat:=(119 - n%64)%64
def qud(n:Nat):List UInt8:=128::(List.replicate (zs n) 0++qqa n)
def qgr(bs:List UInt8):List UInt8:=bs++qud bs.length
def qeh(n:Nat):(qud n).length=zs n+9:=by simp[qud,qqa]
def qiq(n:Nat):Nat:=(n+zs n+9)/64
def outB(s:S8)(i:Nat):UInt8:=ofB ((s.l.getD (i/4) 0 >>>(24 - 8*(i%4))).setWidth 8)
def qxa(s:S8):List UInt8:=(Bt 32).map (outB s)
def qqm(bs:List UInt8):S8:=qt5 H0 (qiq bs.length) (qgr bs)
def sha(bs:List UInt8):List UInt8:=qxa (qqm bs)
def qgd(bs:List UInt8):(sha bs).length=32:=by simp[sha,qxa]
def qd9(x:Nat):UInt8:=UInt8.ofNat (if x<10 then 48+x else 87+x)
def q45:List UInt8->List UInt8
 |[]=>[]
 |b::r=>qd9 (b.toNat/16)::qd9 (b.toNat%16)::q45 r
section
section
variable{P:Program}{W w:World}{l:List Asn}{b:Nat}{t:TypeId}{cs:List Value}{n:Nat}{C:Cls}
def qnp(h:∀j v,cs[j]?=A0 v->w.cell? (Za ⟨b,0,A8⟩ j)=A0 v)(a:cs.length=n):(loadCells ⟨b,0,A8⟩ n).run P w=.ok cs.toArray w:=by have:=run_loadCells_list (P:=P) w ⟨b,0,A8⟩ cs h;rwa[a]at this
def LdA.r{F:Array A1->Prop}(i:Nat)(e:St W l w)(c:nth l i=A0 (Row b t cs))(h:cs.length=n)(d:F cs.toArray):LdA P n ⟨b,0,A8⟩ w F:=
 ⟨cs.toArray,by simpa using h,qnp (λj v a=>by rw[qi1,Aq];exact e.cell i c a) h,d⟩
def QtA.r(i:Nat)(e:Is W C l)(d:nth l i=A0 (Row b t cs))(a:cs.length=n):Qt C (Zg cs.toArray) λw K=>LdA P n ⟨b,0,A8⟩ w λcs=>K (Zg cs) w:=λG w h=>
 ⟨cs.toArray,by simpa using a,qnp (λj v c=>by rw[qi1,Aq];exact e.cell i d c h) a,rfl,h⟩
def q1s{r:List Asn}{h:Array A1}{F:A7->Prop}(f:St W (Row b t cs::r) w)(i:h.size=cs.length)(a:∀v∈h.toList,qn1 v)(d:∀w',St W (Row b t h.toList::r) w'->F w'):StA P ⟨b,0,A8⟩ h w F:=by
 obtain⟨w',g,c⟩:=qu4 (P:=P) (o:=0) h.toList 0 cs w f (by simp;omega) a;rw[qo8 _ _ _ (by simp;omega)]at c;have e:qm1 cs (0+0) h.toList=h.toList:=by unfold qm1;simp[List.drop_of_length_le,i]
 rw[e]at c;exact⟨w',g,d w' c⟩
def StA.r{a:Array A1}{F:A7->Prop}(i:Nat)(e:St W l w)(d:nth l i=A0 (Row b t cs))(g:a.size=cs.length)(c:∀v∈a.toList,qn1 v)(f:∀w',St W (put l i [Row b t a.toList]) w'->F w'):StA P ⟨b,0,A8⟩ a w F:=
 q1s (e.at i d) g c λw' h=>f w' (z06 i d (B:=[_]) h)
def Ef.stA{a:Array A1}{K:A1->Cls->Prop}(i:Nat)(j:Is W C l)(d:nth l i=A0 (Row b t cs))(f:a.size=n)(k:a.size=cs.length)(c:∀v∈a.toList,qn1 v)
 (e:K (Zt #[]) (StC W (put l i [Row b t a.toList]))):Ef C (λw K=>Bu a=n/\StA P ⟨b,0,A8⟩ a w λw'=>K (Zt #[]) w') K:=
 ⟨Unit,(),λ_=>Zt #[],λ_=>StC W (put l i [Row b t a.toList]),λG w g=>⟨f,q1s (j.at i d g) k c λw' h=>⟨(),rfl,z17 i d h⟩⟩,λ_=>e⟩
def Ef.stP{c:Array A1}{a:Array A1}{K:A1->Cls->Prop}(i:Nat)(k:Is W C l)(e:nth l i=A0 (Pt b (.cells c t)))(g:a.size=n)(m:a.size=c.toList.length)(d:∀v∈a.toList,qn1 v)
 (f:K (Zt #[]) (StC W (put l i [Row b t a.toList]))):Ef C (λw K=>Bu a=n/\StA P ⟨b,0,A8⟩ a w λw'=>K (Zt #[]) w') K:=
 ⟨Unit,(),λ_=>Zt #[],λ_=>StC W (put l i [Row b t a.toList]),λG w j=>⟨g,q1s ((k.at i e j).imp z0d) m d λw' h=>⟨(),rfl,z17 i e h⟩⟩,λ_=>f⟩
def IxP.row{N k:Nat}{i:Int}{K:B0->Prop}(w:i=(k:Int))(a:k<N)(h:K ⟨b,k,A8⟩):IxP (A0 ⟨b,0,A8⟩) N i 1 K:=by subst w;refine⟨_,rfl,⟨by omega,by omega⟩,?_⟩;rw[qi1,Ai,Nat.mul_one,Aq];exact h
end
end
namespace Nr
inductive S where
 |reg (ops:List B6) (draw:Bool)
 |cond (c:Operand) (x y:List S)
 |block (id:Nat) (b:List S)
 |loop (b:List S)
 |exit (id:Nat)
 |ret
 |skip
 |bad
inductive AE where
 |nil
 |step (a b rest:AE)
 |join (k:Nat) (sl:List (Nat×Ty)) (ws:List Nat) (fst rest:AE)
 |loop (sl:List (Nat×Ty)) (ws:List Nat) (body:AE)
 |draw (ord:List (Nat×Bool×Nat)) (rest:AE)
 |draw2 (ord:List (Nat×Bool×Nat)) (rest:AE)
def AE.ord'(l:List (Nat×Bool×Nat)):List (Nat×Bool):=l.map λx=>(x.1,x.2.1)
def AE.ann:AE->Ann
 |.nil=>.nil
 |.step a b r=>.step a.ann b.ann r.ann
 |.join k sl _ a r=>.join k sl a.ann r.ann
 |.loop sl _ b=>.loop sl b.ann
 |.draw o r=>.draw (AE.ord' o) r.ann
 |.draw2 o r=>.draw2 (AE.ord' o) r.ann
def AE.a:AE->AE|.step a _ _=>a|.loop _ _ a=>a|_=>.nil
def AE.b:AE->AE|.step _ b _=>b|_=>.nil
def AE.rest:AE->AE|.step _ _ r=>r|.draw _ r=>r|.draw2 _ r=>r|_=>.nil
def AE.slots:AE->List (Nat×Ty)|.loop sl _ _=>sl|_=>[]
def AE.ws:AE->List Nat|.loop _ ws _=>ws|_=>[]
def AE.ord:AE->List (Nat×Bool×Nat)|.draw o _=>o|.draw2 o _=>o|_=>[]
def AE.two:AE->Bool|.draw2 _ _=>Am|_=>Bf
def nth{α:Type}:List α->Nat->Option α
 |[],_=>A8
 |a::_,0=>A0 a
 |_::r,i+1=>nth r i
def gs(L:List B6)(j:Nat):Option Nat:=match nth L j with|some o=>o.dst|none=>A8
def fl:Bn->List S
 |.seq a b=>fl a++fl b
 |.region _ ops d=>[.reg ops.toList d]
 |.cond c x y=>[.cond c (fl x) (fl y)]
 |.block i b=>[.block i (fl b)]
 |.loop b=>[.loop (fl b)]
 |.exit i=>[.exit i]
 |.ret=>[.ret]
 |.skip=>[.skip]
 |_=>[.bad]
@[reducible] def em:List Nat->Nat->Bool
 |[],_=>Bf
 |a::r,t=>match Bv a t with|true=>Am|false=>em r t
def edropK(ws:List Nat):Env->(Env->Prop)->Prop
 |[],K=>K []
 |(s,v)::r,K=>match em ws s with
  |true=>edropK ws r K
  |false=>edropK ws r λe=>K ((s,v)::e)
def bindK:List (Nat×Ty)->List A1->Env->(Env->Prop)->Prop
 |(s,_)::r,v::vs,e,K=>bindK r vs e λe=>K ((s,v)::e)
 |_,_,e,K=>K e
def opsE(P:A9)(n:Nat)(L:List B6):List B6->Env->A7->(Env->A7->Prop)->Prop
 |[],e,w,K=>K e w
 |o::r,e,w,K=>
  match o.guard with
  |none=>opR P r o e w λv w'=>qc2 n o.dst v e λe'=>opsE P n L r e' w' K
  |some (j,h)=>match gs L j with
   |none=>False
   |some s=>match q23 e s with
    |some (.bool b)=>Bif b
     (match h with
      |true=>opR P r o ((s,.bool Am)::e) w λv w'=>qc2 n o.dst v ((s,.bool Am)::e) λe'=>opsE P n L r e' w' K
      |false=>opsE P n L r (q72 o.dst ((s,.bool Am)::e)) w K)
     (match h with
      |false=>opR P r o ((s,.bool Bf)::e) w λv w'=>qc2 n o.dst v ((s,.bool Bf)::e) λe'=>opsE P n L r e' w' K
      |true=>opsE P n L r (q72 o.dst ((s,.bool Bf)::e)) w K)
    |some (.tuple _)=>opsE P n L r (q72 o.dst e) w K
    |_=>False
def bitE(m k:Nat):Bool:=Bv (Nat.mod (Nat.div m (Nat.pow 2 k)) 2) 1
def trimE(d:Nat):qc1->qc1
 |[]=>[]
 |x::r=>match bitE d x.1 with
  |true=>trimE d r
  |false=>x::trimE d r
def stepE(P:A9)(n i:Nat)(h:Bool)(b:Nat)(o:B6)(pend:qc1)(C:Cls)(next:qc1->Env->Cls->Prop)(e:Env):Prop:=
 match kd P o.op with
 |.pure=>opP P o e λv=>qc2 n o.dst v e λe'=>next pend e' C
 |.new=>newE P o e λa mk=>∀c:Nat,qc2 n o.dst (mk c) e λe'=>next (trimE b pend) e' (C.push (c,a))
 |.gen=>match qn4 P o with
  |some l=>match h with
   |false=>exR l λv=>Qt C v (λw K=>opW P o e w K)/\qc2 n o.dst v e λe'=>next ((i,λC=>Qt C v (λw K=>opW P o e w K))::pend) e' C
   |true=>Ef C (λw K=>opW P o e w K) λv D=>asR l v λv=>qo5 (trimE b pend) D/\qc2 n o.dst v e λe'=>next (trimE b pend) e' D
  |none=>False
def step2(P:A9)(n i:Nat)(h:Bool)(a:Nat)(o:B6)(pend:qc1)(C:Cls)(next:qc1->Env->Cls->Prop)(e:Env):Prop:=
 match Two.kd P o.op with
 |.pure=>opP P o e λv=>qc2 n o.dst v e λe'=>next pend e' C
 |.new=>Two.newE P o e λm=>∀k b:Nat,qc2 n o.dst (m.2 k b) e λe'=>next (trimE a pend) e' (C.push (b,m.1 k))
 |.gen=>match qn4 P o with
  |some l=>match h with
   |false=>exR l λv=>Qt C v (λw K=>opW P o e w K)/\qc2 n o.dst v e λe'=>next ((i,λC=>Qt C v (λw K=>opW P o e w K))::pend) e' C
   |true=>Ef C (λw K=>opW P o e w K) λv D=>asR l v λv=>qo5 (trimE a pend) D/\qc2 n o.dst v e λe'=>next (trimE a pend) e' D
  |none=>False
abbrev StepT:=A9->Nat->Nat->Bool->Nat->B6->qc1->Cls->(qc1->Env->Cls->Prop)->Env->Prop
def drawE(st:StepT)(P:A9)(n:Nat)(L:List B6)(K:Env->A7->Prop):List (Nat×Bool×Nat)->qc1->Env->Cls->Prop
 |[],_,e,C=>∀G w,C.p G w->K e w
 |(i,a,b)::r,pend,e,C=>
  match nth L i with
  |some o=>
   match o.guard with
   |none=>st P n i a b o pend C (drawE st P n L K r) e
   |some (j,h)=>match gs L j with
    |none=>False
    |some s=>match q23 e s with
     |some (.bool t)=>Bif t
      (match h with
       |true=>st P n i a b o pend C (drawE st P n L K r) ((s,.bool Am)::e)
       |false=>drawE st P n L K r pend (q72 o.dst ((s,.bool Am)::e)) C)
      (match h with
       |false=>st P n i a b o pend C (drawE st P n L K r) ((s,.bool Bf)::e)
       |true=>drawE st P n L K r pend (q72 o.dst ((s,.bool Bf)::e)) C)
     |some (.tuple _)=>drawE st P n L K r pend (q72 o.dst e) C
     |_=>False
  |none=>False
abbrev RecE:=List S->AE->qh4->Env->A7->Prop
def nl1(P:A9)(n:Nat)(h:RecE)(c:S)(r:List S)(a:AE)(Q:qh4)(e:Env)(w:A7):Prop:=
 match c with
 |.skip=>h r a.rest Q e w
 |.reg L draw=>match draw with
  |false=>opsE P n L L e w λe' w'=>h r a.rest Q e' w'
  |true=>∃C:Cls,C.p [] w/\match a.two with
   |false=>drawE stepE P n L (λe' w'=>h r a.rest Q e' w') a.ord [] e C
   |true=>drawE step2 P n L (λe' w'=>h r a.rest Q e' w') a.ord [] e C
 |.cond c x y=>q11 e c λv=>match v with
  |.bool b=>Bif b
   (h x a.a (q35 (λe' w'=>h r a.rest Q e' w') Q) e w)
   (h y a.b (q35 (λe' w'=>h r a.rest Q e' w') Q) e w)
  |_=>False
 |.block id b=>h b a.a (q4a id (λe' w'=>h r a.rest Q e' w') Q) e w
 |.loop b=>Lp λI μ=>
  (qa2 a.slots e λvs=>I vs w)/\
  qk9 (tys a.slots) λvs=>∀w',I vs w'->
   edropK a.ws e λi=>bindK a.slots vs i λj=>h b a.a (q35 (λg d=>qa2 a.slots g λf=>I f d/\μ f d < μ vs w') Q) j w'
 |.exit id=>Q (.exit id) e w
 |.ret=>Q .ret e w
 |.bad=>False
def nl(P:A9)(n:Nat):Nat->List S->AE->qh4->Env->A7->Prop
 |0,_,_,_,_,_=>False
 |_+1,[],_,Q,e,w=>Q .normal e w
 |f+1,c::r,h,Q,e,w=>match h with
  |.join k sl ws a1 a2=>Jn λJ=>
   nl P n f (Bd k (c::r)) a1 (q35 (λe' w'=>qa2 sl e' λvs=>J vs w') Q) e w/\
   qk9 (tys sl) λvs=>∀w',J vs w'->edropK ws e λa=>bindK sl vs a λb=>nl P n f (Bw k (c::r)) a2 Q b w'
  |h=>nl1 P n (nl P n f) c r h Q e w
def okD(w:Array B6)(b:List Nat)(h:Op->Kd3):List (Nat×Bool×Nat)->List Nat->Bool
 |[],_=>Am
 |(i,a,c)::r,ids=>(match w[i]? with
  |some o=>(match h o.op with
   |.pure=>Am
   |.new=>ids.all λk=>waits b i k==bitE c k
   |.gen=>!a||ids.all λk=>waits b i k==bitE c k)
  |none=>Am)&&okD w b h r (i::ids)
def chkE1(P:A9)(h:List Bn->AE->Bool)(c:Bn)(r:List Bn)(w:AE):Bool:=
 match c with
 |.region _ ops draw=>(match draw with
  |false=>Am
  |true=>match w.two with
   |false=>okD ops (qna ops.toList []) (kd P) w.ord []
   |true=>okD ops (qna ops.toList []) (Two.kd P) w.ord [])&&h r w.rest
 |.cond _ x y=>h (q63 x) w.a&&h (q63 y) w.b&&h r w.rest
 |.block _ b=>h (q63 b) w.a&&h r w.rest
 |.loop b=>w.ws==wr b&&h (q63 b) w.a
 |.skip=>h r w.rest
 |_=>Am
def chkE(P:A9):Nat->List Bn->AE->Bool
 |0,_,_=>Am
 |_+1,[],_=>Am
 |f+1,c::r,h=>match h with
  |.join k _ ws a1 a2=>ws==wrs (Bd k (c::r))&&chkE P f (Bd k (c::r)) a1&&chkE P f (Bw k (c::r)) a2
  |h=>chkE1 P (chkE P f) c r h
def sOf:Bn->S
 |.region _ ops d=>.reg ops.toList d
 |.cond c x y=>.cond c (fl x) (fl y)
 |.block i b=>.block i (fl b)
 |.loop b=>.loop (fl b)
 |.exit i=>.exit i
 |.ret=>.ret
 |.skip=>.skip
 |_=>.bad
def fl_flat(c:Bn):fl c=(q63 c).map sOf:=by
 induction c with
 |seq a b h w=>simp only[fl,q63,Ap,h,w]
 |_=>rfl
def em_eq:∀(l:List Nat) (t:Nat),em l t=q83 l t
 |[],t=>rfl
 |a::r,t=>by unfold em q83;rw[em_eq r t];cases Bv a t<;>rfl
def edropK_eq{ws:List Nat}:∀{e:Env} {K:Env->Prop},edropK ws e K=K (qs7 ws e)
 |[],K=>rfl
 |(s,v)::r,K=>by
  unfold edropK qs7;rw[em_eq];cases q83 ws s with
  |true=>exact edropK_eq
  |false=>exact edropK_eq
def bindK_eq:∀{sl:List (Nat×Ty)} {vs:List A1} {e:Env} {K:Env->Prop},bindK sl vs e K=K (q2c sl vs e)
 |[],vs,e,K=>by cases vs<;>rfl
 |_::_,[],e,K=>rfl
 |(s,u)::r,v::vs,e,K=>by unfold bindK q2c;exact bindK_eq
def nth_eq{α:Type}:∀(l:List α) (i:Nat),nth l i=l[i]?
 |[],i=>by simp[nth]
 |a::r,0=>rfl
 |a::r,i+1=>by simp[nth,nth_eq r i]
def gs_eq(h:Array B6)(j:Nat):gs h.toList j=q69 h j:=by unfold gs q69;rw[nth_eq,Ad];rfl
def opsE_eq{P:A9}{n:Nat}{h:Array B6}:∀(r:List B6),opsE P n h.toList r=qh9 P n h r
 |[]=>by funext e w K;rfl
 |o::r=>by funext e w K;simp only[opsE,qh9,gs_eq,opsE_eq r];rfl
def trimE_eq{b:List Nat}{i w:Nat}:∀{pend:qc1},(∀x∈pend,waits b i x.1=bitE w x.1)->trimE w pend=trim b i pend
 |[],_=>rfl
 |x::r,h=>by have c:=h x Ah;have a:=trimE_eq (pend:=r) λy d=>h y (A2 _ d);unfold trim at a⊢;rw[List.filter_cons,c,trimE,a];cases bitE w x.1<;>rfl
def trim_mem{b:List Nat}{i:Nat}{pend:qc1}{ids:List Nat}(h:∀x∈pend,x.1∈ids):∀x∈trim b i pend,x.1∈i::ids:=λx w=>A2 _ (h x (Bg.1 w).1)
def stepE_eq{P:A9}{n i d:Nat}{b:List Nat}{a:Bool}{o:B6}{pend:qc1}{ids:List Nat}{C:Cls}{next next':qc1->Env->Cls->Prop}{e:Env}(c:∀x∈pend,x.1∈ids)
 (g:(match kd P o.op with|.pure=>Am|.new=>ids.all λk=>waits b i k==bitE d k|.gen=>!a||ids.all λk=>waits b i k==bitE d k)=Am)
 (j:∀pend,(∀x∈pend,x.1∈i::ids)->∀e C,next pend e C=next' pend e C):stepE P n i a d o pend C next e=stepD P n b i a o pend C next' e:=by
 have m:(ids.all λk=>waits b i k==bitE d k)=Am->trimE d pend=trim b i pend:=λh=>trimE_eq λx f=>by have:=Be.1 h x.1 (c x f);simpa using this
 unfold stepE stepD;cases hkd:kd P o.op with
 |pure=>simp only[j pend λx f=>A2 _ (c x f)]
 |new=>simp only[hkd]at g;rw[m g];simp only[j _ (trim_mem c)]
 |gen=>
  simp only[hkd]at g;cases qn4 P o with
  |none=>rfl
  |some l=>
   cases a with
   |false=>
    have p:∀v,next ((i,λC=>Qt C v λw K=>opW P o e w K)::pend)=next' ((i,λC=>Qt C v λw K=>opW P o e w K)::pend):=λv=>by funext e C;exact j _ (λx f=>(B1.1 f).elim (λh=>by rw[h];exact Ah) λh=>A2 _ (c x h)) e C
    simp only[p]
   |true=>simp only[Bo,Bp]at g;simp only[m g,j _ (trim_mem c)]
def step2_eq{P:A9}{n i d:Nat}{b:List Nat}{a:Bool}{o:B6}{pend:qc1}{ids:List Nat}{C:Cls}{next next':qc1->Env->Cls->Prop}{e:Env}(c:∀x∈pend,x.1∈ids)
 (g:(match Two.kd P o.op with|.pure=>Am|.new=>ids.all λk=>waits b i k==bitE d k|.gen=>!a||ids.all λk=>waits b i k==bitE d k)=Am)
 (j:∀pend,(∀x∈pend,x.1∈i::ids)->∀e C,next pend e C=next' pend e C):step2 P n i a d o pend C next e=Two.stepD P n b i a o pend C next' e:=by
 have m:(ids.all λk=>waits b i k==bitE d k)=Am->trimE d pend=trim b i pend:=λh=>trimE_eq λx f=>by have:=Be.1 h x.1 (c x f);simpa using this
 unfold step2 Two.stepD;cases hkd:Two.kd P o.op with
 |pure=>simp only[j pend λx f=>A2 _ (c x f)]
 |new=>simp only[hkd]at g;rw[m g];simp only[j _ (trim_mem c)]
 |gen=>
  simp only[hkd]at g;cases qn4 P o with
  |none=>rfl
  |some l=>
   cases a with
   |false=>
    have p:∀v,next ((i,λC=>Qt C v λw K=>opW P o e w K)::pend)=next' ((i,λC=>Qt C v λw K=>opW P o e w K)::pend):=λv=>by funext e C;exact j _ (λx f=>(B1.1 f).elim (λh=>by rw[h];exact Ah) λh=>A2 _ (c x h)) e C
    simp only[p]
   |true=>simp only[Bo,Bp]at g;simp only[m g,j _ (trim_mem c)]
def drawE_eq{P:A9}{n:Nat}{w:Array B6}{b:List Nat}{K:Env->A7->Prop}:∀(l:List (Nat×Bool×Nat)) (ids:List Nat) (pend:qc1) (e:Env) (C:Cls),okD w b (kd P) l ids=Am->(∀x∈pend,x.1∈ids)->drawE stepE P n w.toList K l pend e C=drawD P n w b K (AE.ord' l) pend e C
 |[],ids,pend,e,C,_,_=>rfl
 |(i,a,k)::r,ids,pend,e,C,h,c=>by
  simp only[okD,Aa]at h;obtain⟨g,j⟩:=h;have f:∀pend,(∀x∈pend,x.1∈i::ids)->∀e C,drawE stepE P n w.toList K r pend e C=drawD P n w b K (AE.ord' r) pend e C:=λpend c e C=>drawE_eq r (i::ids) pend e C j c;have d:∀x∈pend,x.1∈i::ids:=λx m=>A2 _ (c x m);show drawE stepE P n w.toList K ((i,a,k)::r) pend e C=drawD P n w b K ((i,a)::AE.ord' r) pend e C;simp only[drawE,drawD,nth_eq,Ad,gs_eq];cases ho:w[i]? with
  |none=>rfl
  |some o=>rw[ho]at g;simp only[stepE_eq c g f,f pend d];rfl
def draw2_eq{P:A9}{n:Nat}{w:Array B6}{b:List Nat}{K:Env->A7->Prop}:∀(l:List (Nat×Bool×Nat)) (ids:List Nat) (pend:qc1) (e:Env) (C:Cls),okD w b (Two.kd P) l ids=Am->(∀x∈pend,x.1∈ids)->drawE step2 P n w.toList K l pend e C=Two.drawD P n w b K (AE.ord' l) pend e C
 |[],ids,pend,e,C,_,_=>rfl
 |(i,a,k)::r,ids,pend,e,C,h,c=>by
  simp only[okD,Aa]at h;obtain⟨g,j⟩:=h;have f:∀pend,(∀x∈pend,x.1∈i::ids)->∀e C,drawE step2 P n w.toList K r pend e C=Two.drawD P n w b K (AE.ord' r) pend e C:=λpend c e C=>draw2_eq r (i::ids) pend e C j c;have d:∀x∈pend,x.1∈i::ids:=λx m=>A2 _ (c x m);show drawE step2 P n w.toList K ((i,a,k)::r) pend e C=Two.drawD P n w b K ((i,a)::AE.ord' r) pend e C;simp only[drawE,Two.drawD,nth_eq,Ad,gs_eq];cases ho:w[i]? with
  |none=>rfl
  |some o=>rw[ho]at g;simp only[step2_eq c g f,f pend d];rfl
def ann_rest(h:AE):h.ann.rest=h.rest.ann:=by cases h<;>rfl
def ann_a(h:AE):h.ann.a=h.a.ann:=by cases h<;>rfl
def ann_b(h:AE):h.ann.b=h.b.ann:=by cases h<;>rfl
def ann_slots(h:AE):h.ann.slots=h.slots:=by cases h<;>rfl
def ann_two(h:AE):h.ann.two=h.two:=by cases h<;>rfl
def ann_ord(h:AE):h.ann.ord=AE.ord' h.ord:=by cases h<;>rfl
def nl1_eq{P:A9}{n:Nat}{p:List Bn->AE->Bool}{j:RecE}{g:Rec}(d:∀l h,p l h=Am->j (l.map sOf) h=g l h.ann)(c:Bn)(r:List Bn)(h:AE)(f:chkE1 P p c r h=Am):
 nl1 P n j (sOf c) (r.map sOf) h=qa8 P n g c r h.ann:=by
 funext Q e w;cases c with
 |skip=>simp only[sOf,nl1,qa8,ann_rest,d _ _ f]
 |region id ops draw=>
  simp only[chkE1,Aa]at f;obtain⟨a,i⟩:=f;cases draw with
  |false=>simp only[sOf,nl1,qa8,ann_rest,d _ _ i,opsE_eq]
  |true=>
   simp only[sOf,nl1,qa8,ann_rest,d _ _ i,ann_two,ann_ord];cases ht:h.two with
   |false=>simp only[ht]at a;have k:∀K e C,drawE stepE P n ops.toList K h.ord [] e C=drawD P n ops (qna ops.toList []) K (AE.ord' h.ord) [] e C:=λK e C=>drawE_eq h.ord [] [] e C a (λx m=>nomatch m);simp only[k]
   |true=>simp only[ht]at a;have k:∀K e C,drawE step2 P n ops.toList K h.ord [] e C=Two.drawD P n ops (qna ops.toList []) K (AE.ord' h.ord) [] e C:=λK e C=>draw2_eq h.ord [] [] e C a (λx m=>nomatch m);simp only[k]
 |cond c x y=>simp only[chkE1,Aa]at f;obtain⟨⟨a,i⟩,o⟩:=f;simp only[sOf,nl1,qa8,ann_rest,ann_a,ann_b,fl_flat,d _ _ a,d _ _ i,d _ _ o];rfl
 |block id b=>simp only[chkE1,Aa]at f;obtain⟨a,o⟩:=f;simp only[sOf,nl1,qa8,ann_rest,ann_a,fl_flat,d _ _ a,d _ _ o]
 |loop b=>
  simp only[chkE1,Aa]at f;obtain⟨a,i⟩:=f;have a:h.ws=wr b:=by simpa using a
  simp only[sOf,nl1,qa8,ann_slots,ann_a,edropK_eq,bindK_eq,a,fl_flat,d _ _ i]
 |exit id=>rfl
 |ret=>rfl
 |_=>rfl
def nl_eq{P:A9}{n:Nat}:∀(f:Nat) (l:List Bn) (d:AE),chkE P f l d=Am->nl P n f (l.map sOf) d=qx8 P n f l d.ann:=by
 intro f;induction f with
 |zero=>intro l d _;rfl
 |succ f ih=>
  intro l d h;cases l with
  |nil=>funext Q e w;cases d<;>rfl
  |cons c r=>
   cases d with
   |join k sl ws a1 a2=>
    simp only[chkE,Aa]at h;have g:=ih _ _ h.1.2;have i2:=ih _ _ h.2;have i:ws=wrs (Bd k (c::r)):=by simpa using h.1.1
    rw[List.map_take]at g;rw[List.map_drop]at i2;funext Q e w;simp only[Ab]at g i2;simp only[Ab,nl,AE.ann,qx8,edropK_eq,bindK_eq,g,i2,i]
   |nil=>exact nl1_eq ih c r _ h
   |step a b r'=>exact nl1_eq ih c r _ h
   |loop sl ws b=>exact nl1_eq ih c r _ h
   |draw o b=>exact nl1_eq ih c r _ h
   |draw2 o b=>exact nl1_eq ih c r _ h
def finalL(P:A9)(l:List ResultVar)(R:A1->A7->Prop):qh4:=λx e w=>
 match x with
 |.normal=>q66 P l e w λvs=>R (tup vs) w
 |.ret=>q66 P l e w λvs=>R (tup vs) w
 |_=>False
def nlB(P:A9)(fn:Func)(h:AE)(args:List A1)(w:A7)(R:A1->A7->Prop):Prop:=
 match fn.body with
 |some c=>nl P fn.ntmps 3000 (fl c) h (finalL P fn.results.toList R) (qf4 0 args) w
 |none=>False
def chkN(P:A9)(fn:Func)(h:AE)(k:Nat):Bool:=
 Nat.ble k fn.ntmps&&match fn.body with
  |some c=>chk P 3000 (q63 c) h.ann&&chkE P 3000 (q63 c) h
  |none=>Am
def call_n{P:A9}{f:FuncId}{fn:Func}(e:P.funcs[f]?=A0 fn)(b:AE)(args:List A1)(w:A7)(R:A1->A7->Prop)(d:chkN P fn b args.length=Am:=by kernel_rfl):nlB P fn b args w R->qb P f args.toArray w R:=by
 intro h;unfold chkN at d;unfold nlB at h;split at h
 .rename_i c a;simp only[a,Aa]at d;obtain⟨j,g,i⟩:=d;rw[fl_flat,nl_eq _ _ _ i]at h;refine qf2 b.ann ?_ ?_
  .unfold qrp;rw[e];simp only[a,j];exact h
  .unfold qxv;rw[e];simp only[a];exact g
 .exact h.elim
end Nr
end Go.Proofs.YtfjifcfbmhpcaaaGreatDoor
