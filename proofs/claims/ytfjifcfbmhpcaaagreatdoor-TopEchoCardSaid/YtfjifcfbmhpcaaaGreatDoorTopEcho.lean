/-
  TopEcho: the law returns true whatever the input.
-/
import Derived.Test.YtfjifcfbmhpcaaaGreatDoorE36
import Derived.Test.YtfjifcfbmhpcaaaGreatDoorE00
set_option linter.unusedVariables false
set_option linter.unusedSimpArgs false
namespace Go.Proofs.YtfjifcfbmhpcaaaGreatDoor
open Go
open Go.Proofs.Tryz renaming prog → Zp
section
open Go Go.ChangeShapes Go.WideShapes Go.ChangeAt Go.RowKit
set_option maxRecDepth 100000 in
theorem qhj(os:Os)(b:os.Started)(H:Type)(enc:TypeId×Value->H):
 ReturnsInHanded {} Tryz.checked os 3 .any (λw args=>(Rows.topEchoSpec.pre enc Zp Tryz.f3 Rows.topEchoRow.domain false w args/\laidMetH Zp Rows.topEchoRow.laid w)/\sizedMet enc Zp Tryz.f3 (OpenSpec.ofChange Rows.topEchoSpec) false w args) (Rows.topEchoSpec.post enc Zp Tryz.f3 false true false false):=by
 refine returnsInHanded_of_change_and (C:=Tryz.checked) (X:=λw _=>laidMetH Zp Rows.topEchoRow.laid w) (λ_ _ _ E h=>h.of_heap E) (by kernel_rfl) b (by kernel_rfl) Tryz.func3
  (ChangeSpec.witness_shaped (enc:=enc) (C:=Tryz.checked) (os:=os) (X:=λw _=>laidMetH Zp Rows.topEchoRow.laid w) false (World.laidAll Zp os Rows.topEchoRow.laid) #[.slice none 0 0,.slice none 0 0] 8 (World.laidAll_os _ _ _) (World.shaped_of_ZipB (by kernel_rfl) (by kernel_rfl)) (by kernel_rfl) (by kernel_rfl) (by kernel_rfl) (by rw[MakeChecks.laidMetH_plain _ _ _ (by kernel_rfl)];exact laidMet_laidAll _ (by kernel_rfl) (by kernel_rfl))) ?_
 intro W c args B gs before hval0 hW hcnd _ hL _;have a:∀(j:Nat) t v,Tryz.f3.params[j]?=some t->args[j]?=some v->Value.okWide Zp W .any c t v:=hval0;have n:=hW;obtain⟨p,q,g,hV,rfl,F,N⟩:=hW;have x:DataW.TrodAll enc Zp W 0 (λ_=>true) true Tryz.f3.params.toList args.toList B p:=g;rw[Tryz.params3]at x a;obtain⟨v0,L,d0,O,V,U,l,rfl,rfl,R,t0⟩:=trodAll_cons x;obtain⟨s,A,Z,y,q1,r1,rfl,rfl,rfl,K,Q⟩:=trodAll_cons t0;obtain⟨rfl,rfl,rfl⟩:=trodAll_nil Q;obtain rfl:args=#[v0,s]:=by cases args;simp_all
 obtain⟨p0,I,c0,rfl,k,r,f⟩:=qxq uB uU8 cU8 (a 0 _ v0 rfl rfl) R;obtain⟨Y,M,c1,rfl,i,o,m,d⟩:=qxu (a 1 _ s rfl rfl) K;refine Calls.mono (qss (tab_base hL) f k r m i o d) λe T ⟨v,z,D,_,J⟩=>⟨v,z,?_⟩;subst D;exact quw (tb:=4) laid n rfl (λP G=>by subst G;rfl) (by kernel_rfl) Tryz.underlying4 (by rw[Tryz.params3];intro t u;simp at u;rcases u with rfl|rfl<;>exact⟨by kernel_rfl,yC (by kernel_rfl)⟩) (St.below J)
theorem qci:(Rows.topEchoRow.inPlace==Zp.inPlace 3)=true:=by kernel_rfl
theorem qbf:(Rows.topEchoRow.unfollowed==Zp.unfollowed 3)=true:=by kernel_rfl
theorem qdh:(Rows.topEchoRow.recurses==Zp.recurses 3)=true:=by kernel_rfl
theorem qrk:(Rows.topEchoRow.named==Zp.varsNamed 3)=true:=by kernel_rfl
theorem q8r:Rows.topEchoRow.wf (OpenSpec.ofChange Rows.topEchoSpec)=true:=by kernel_rfl
theorem qag:mapsRowed Zp=true:=by kernel_rfl
theorem qif:Zp.stopsHeard=true:=by kernel_rfl
theorem qug:Zp.mayEnter=true:=by kernel_rfl
theorem quk:(Rows.topEchoRow.lifted==Zp.liftsFinal)=true:=by kernel_rfl
theorem qpk:joinedFacts Zp 3 Tryz.f3 Rows.topEchoSpec Rows.topEchoRow=true:=by unfold joinedFacts;rw[qci,qbf,qdh,qrk,q8r,qag,qif,qug,quk,laid];kernel_rfl
theorem topEcho_proved:Rows.TopEchoSaid:=
 OpenClaim.holds_of_wide 3 Tryz.f3 rfl rfl rfl rfl rfl rfl rfl ⟨rfl,rfl,rfl,rfl,rfl⟩ rfl rfl rfl rfl rfl (by kernel_rfl) Tryz.func3 qpk
  (yC (by kernel_rfl)) (by unfold Func.isWrapper;first|(rw[yB (by decide+kernel)];kernel_rfl)|(rw[yA (by decide+kernel)];exact⟨rfl,rfl⟩))
  (λos h H enc _=>qhj os h H enc)
end
end Go.Proofs.YtfjifcfbmhpcaaaGreatDoor
