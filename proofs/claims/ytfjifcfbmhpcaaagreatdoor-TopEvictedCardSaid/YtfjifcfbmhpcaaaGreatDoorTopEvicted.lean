/-
  TopEvicted: the law returns true whatever the input.
-/
import Derived.Test.YtfjifcfbmhpcaaaGreatDoorV35
import Derived.Test.YtfjifcfbmhpcaaaGreatDoorV00
set_option linter.unusedVariables false
set_option linter.unusedSimpArgs false
namespace Go.Proofs.YtfjifcfbmhpcaaaGreatDoor
open Go
open Go.Proofs.Tryz renaming prog → Zp
open Go.IntKind renaming i64 → Zk
section
open Go Go.ChangeShapes Go.WideShapes Go.ChangeAt Go.RowKit
set_option maxRecDepth 100000 in
theorem qo31(os:Os)(b:os.Started)(H:Type)(enc:TypeId×Value->H):
 ReturnsInHanded {} Tryz.checked os 4 .any (λw args=>(Rows.topEvictedSpec.pre enc Zp Tryz.f4 Rows.topEvictedRow.domain false w args/\laidMetH Zp Rows.topEvictedRow.laid w)/\sizedMet enc Zp Tryz.f4 (OpenSpec.ofChange Rows.topEvictedSpec) false w args) (Rows.topEvictedSpec.post enc Zp Tryz.f4 false true false false):=by
 refine returnsInHanded_of_change_and (C:=Tryz.checked) (X:=λw _=>laidMetH Zp Rows.topEvictedRow.laid w) (λ_ _ _ s h=>h.of_heap s) (by kernel_rfl) b (by kernel_rfl) Tryz.func4
  (ChangeSpec.witness_shaped (enc:=enc) (C:=Tryz.checked) (os:=os) (X:=λw _=>laidMetH Zp Rows.topEvictedRow.laid w) false (World.laidAll Zp os Rows.topEvictedRow.laid) #[.agg #[.int Zk 0,.int Zk 0,.int Zk 0,.int Zk 0,.slice none 0 0],.slice none 0 0,.string ⟨#[]⟩] 8 (World.laidAll_os _ _ _) (World.shaped_of_ZipB (by kernel_rfl) (by kernel_rfl)) (by kernel_rfl) (by kernel_rfl) (by kernel_rfl) (by rw[MakeChecks.laidMetH_plain _ _ _ (by kernel_rfl)];exact laidMet_laidAll _ (by kernel_rfl) (by kernel_rfl))) ?_
 intro W c args A gs before hval0 hW hcnd _ hL _;have a:∀(j:Nat) t v,Tryz.f4.params[j]?=some t->args[j]?=some v->Value.okWide Zp W .any c t v:=hval0;have k:=hW;obtain⟨p,q,f,hV,rfl,x,y⟩:=hW;have n:DataW.TrodAll enc Zp W 0 (λ_=>true) true Tryz.f4.params.toList args.toList A p:=f;rw[Tryz.params4]at n a;obtain⟨v0,P,d0,D,q0,r0,m,rfl,rfl,F,t0⟩:=trodAll_cons n;obtain⟨o,M,d1,L,q1,V,rfl,rfl,rfl,U,I⟩:=trodAll_cons t0;obtain⟨v2,J,d2,Q,Y,Z,rfl,rfl,rfl,u,t2⟩:=trodAll_cons I;obtain⟨rfl,rfl,rfl⟩:=trodAll_nil t2;obtain rfl:args=#[v0,o,v2]:=by cases args;simp_all
 obtain⟨z0,rfl,R⟩:=qg61 (a 0 _ v0 rfl rfl) F;obtain⟨p1,O,c1,rfl,g,i,l,d⟩:=qq61 (a 1 _ o rfl rfl) U;obtain⟨B,rfl,K⟩:=qt11 Tryz.underlying9 (a 2 _ v2 rfl rfl) u;refine Calls.mono (qv41 (tab_base hL) R l g i d B K) λe W' ⟨v,z,T,_,N⟩=>⟨v,z,?_⟩;subst T;exact quw (tb:=4) laid k rfl (λG E=>by subst E;rfl) (by kernel_rfl) Tryz.underlying4 (by rw[Tryz.params4];intro t r;simp at r;rcases r with rfl|rfl|rfl<;>exact⟨by kernel_rfl,yC (by kernel_rfl)⟩) (St.below N)
theorem ql31:(Rows.topEvictedRow.inPlace==Zp.inPlace 4)=true:=by kernel_rfl
theorem qg21:(Rows.topEvictedRow.unfollowed==Zp.unfollowed 4)=true:=by kernel_rfl
theorem qe31:(Rows.topEvictedRow.recurses==Zp.recurses 4)=true:=by kernel_rfl
theorem qu31:(Rows.topEvictedRow.named==Zp.varsNamed 4)=true:=by kernel_rfl
theorem qo41:Rows.topEvictedRow.wf (OpenSpec.ofChange Rows.topEvictedSpec)=true:=by kernel_rfl
theorem qn21:mapsRowed Zp=true:=by kernel_rfl
theorem qh21:Zp.stopsHeard=true:=by kernel_rfl
theorem qd31:Zp.mayEnter=true:=by kernel_rfl
theorem qy31:(Rows.topEvictedRow.lifted==Zp.liftsFinal)=true:=by kernel_rfl
theorem q041:joinedFacts Zp 4 Tryz.f4 Rows.topEvictedSpec Rows.topEvictedRow=true:=by unfold joinedFacts;rw[ql31,qg21,qe31,qu31,qo41,qn21,qh21,qd31,qy31,laid];kernel_rfl
theorem topEvicted_proved:Rows.TopEvictedSaid:=
 OpenClaim.holds_of_wide 4 Tryz.f4 rfl rfl rfl rfl rfl rfl rfl ⟨rfl,rfl,rfl,rfl,rfl⟩ rfl rfl rfl rfl rfl (by kernel_rfl) Tryz.func4 q041
  (yC (by kernel_rfl)) (by unfold Func.isWrapper;first|(rw[yB (by decide+kernel)];kernel_rfl)|(rw[yA (by decide+kernel)];exact⟨rfl,rfl⟩))
  (λos h H enc _=>qo31 os h H enc)
end
end Go.Proofs.YtfjifcfbmhpcaaaGreatDoor
