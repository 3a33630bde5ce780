/-
  TopBad: the law returns true whatever the input.
-/
import Derived.Test.YtfjifcfbmhpcaaaGreatDoorB14
import Derived.Test.YtfjifcfbmhpcaaaGreatDoorB00
set_option linter.all false
namespace Go.Proofs.YtfjifcfbmhpcaaaGreatDoor
open Go
open Go.Proofs.Tryz renaming prog → Zp
open Go.IntKind renaming i64 → Zk
section
open Go Go.ChangeShapes Go.WideShapes Go.ChangeAt Go.RowKit
set_option maxRecDepth 100000 in
theorem qv71(os:Os)(b:os.Started)(H:Type)(enc:TypeId×Value->H):
 ReturnsInHanded {} Tryz.checked os 5 .any (λw args=>(Rows.topBadSpec.pre enc Zp Tryz.f5 Rows.topBadRow.domain false w args/\laidMetH Zp Rows.topBadRow.laid w)/\sizedMet enc Zp Tryz.f5 (OpenSpec.ofChange Rows.topBadSpec) false w args) (Rows.topBadSpec.post enc Zp Tryz.f5 false true false false):=by
 refine returnsInHanded_of_change_and (C:=Tryz.checked) (X:=λw _=>laidMetH Zp Rows.topBadRow.laid w) (λ_ _ _ A h=>h.of_heap A) (by kernel_rfl) b (by kernel_rfl) Tryz.func5
  (ChangeSpec.witness_shaped (enc:=enc) (C:=Tryz.checked) (os:=os) (X:=λw _=>laidMetH Zp Rows.topBadRow.laid w) false (World.laidAll Zp os Rows.topBadRow.laid) #[.agg #[.int Zk 0,.int Zk 0,.int Zk 0,.int Zk 0,.slice none 0 0],.slice none 0 0,.int .u8 0,.string ⟨#[]⟩] 8 (World.laidAll_os _ _ _) (World.shaped_of_ZipB (by kernel_rfl) (by kernel_rfl)) (by kernel_rfl) (by kernel_rfl) (by kernel_rfl) (by rw[MakeChecks.laidMetH_plain _ _ _ (by kernel_rfl)];exact laidMet_laidAll _ (by kernel_rfl) (by kernel_rfl))) ?_
 intro W d args B gs before hval0 hW hcnd _ hL _;have a:∀(j:Nat) t v,Tryz.f5.params[j]?=some t->args[j]?=some v->Value.okWide Zp W .any d t v:=hval0;have k:=hW;obtain⟨p,q,l,hV,rfl,V,Q⟩:=hW;have n:DataW.TrodAll enc Zp W 0 (λ_=>true) true Tryz.f5.params.toList args.toList B p:=l;rw[Tryz.params5]at n a;obtain⟨v0,I,d0,L,q0,r0,i,rfl,rfl,J,t0⟩:=trodAll_cons n;obtain⟨o,G,d1,s,q1,r1,rfl,rfl,rfl,z,T⟩:=trodAll_cons t0;obtain⟨v2,K,d2,E,q2,r2,rfl,rfl,rfl,M,t2⟩:=trodAll_cons T;obtain⟨v3,O,d3,y,q3,r3,rfl,rfl,rfl,x,t3⟩:=trodAll_cons t2;obtain⟨rfl,rfl,rfl⟩:=trodAll_nil t3;obtain rfl:args=#[v0,o,v2,v3]:=by cases args;simp_all
 obtain⟨z0,rfl,P⟩:=qg61 (a 0 _ v0 yR yR) J;obtain⟨p1,R,c1,rfl,g,m,f,c⟩:=qq61 (a 1 _ o yR yR) z;obtain⟨a2,rfl,rfl,rfl,F⟩:=open_int Tryz.underlying5 (a 2 5 v2 yR yR) M;obtain⟨s3,rfl,D⟩:=qt11 Tryz.underlying9 (a 3 _ v3 yR yR) x;refine Calls.mono (q781 (tab_base hL) P f g m c a2 F s3 D) λe W' ⟨v,Y,U,_,Z⟩=>⟨v,Y,?_⟩;subst U;exact quw (tb:=4) laid k yR (λN u=>by subst u;rfl) (by kernel_rfl) Tryz.underlying4 (by rw[Tryz.params5];intro t r;simp at r;rcases r with rfl|rfl|rfl|rfl<;>exact⟨by kernel_rfl,yC (by kernel_rfl)⟩) (St.below Z)
theorem qt71:(Rows.topBadRow.inPlace==Zp.inPlace 5)=true:=by kernel_rfl
theorem qm71:(Rows.topBadRow.unfollowed==Zp.unfollowed 5)=true:=by kernel_rfl
theorem qr71:(Rows.topBadRow.recurses==Zp.recurses 5)=true:=by kernel_rfl
theorem qw71:(Rows.topBadRow.named==Zp.varsNamed 5)=true:=by kernel_rfl
theorem q581:Rows.topBadRow.wf (OpenSpec.ofChange Rows.topBadSpec)=true:=by kernel_rfl
theorem qo71:mapsRowed Zp=true:=by kernel_rfl
theorem qn71:Zp.stopsHeard=true:=by kernel_rfl
theorem qq71:Zp.mayEnter=true:=by kernel_rfl
theorem qz71:(Rows.topBadRow.lifted==Zp.liftsFinal)=true:=by kernel_rfl
theorem q081:joinedFacts Zp 5 Tryz.f5 Rows.topBadSpec Rows.topBadRow=true:=by unfold joinedFacts;rw[qt71,qm71,qr71,qw71,q581,qo71,qn71,qq71,qz71,laid];kernel_rfl
theorem topBad_proved:Rows.TopBadSaid:=
 OpenClaim.holds_of_wide 5 Tryz.f5 yR yR yR yR yR yR yR ⟨rfl,rfl,rfl,rfl,rfl⟩ rfl yR yR yR yR (by kernel_rfl) Tryz.func5 q081
  (yC (by kernel_rfl)) (by unfold Func.isWrapper;first|(rw[yB (by decide+kernel)];kernel_rfl)|(rw[yA (by decide+kernel)];exact⟨rfl,rfl⟩))
  (λos h H enc _=>qv71 os h H enc)
end
end Go.Proofs.YtfjifcfbmhpcaaaGreatDoor
