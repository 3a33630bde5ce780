/-
  The walk of the law that what is handed in is as it was.
-/
import Derived.Test.YtbfccpbijimjmaaLaw03c
set_option linter.unusedVariables false
set_option linter.unusedSimpArgs false
namespace Go.Proofs.Ytbfccpbijimjmaa
open Go
theorem Pt.bytes {b : Nat} {e : TypeId} {bs : List UInt8} {k : Nat} : ∀ h, Pt b (Prod.fst (Two.rowB (mkS bs) e) k) h → Row b e (bs.map byteV ++ List.replicate k (.int .u8 0)) h := fun h hb => by
  have e1 : (bytesRow (mkS bs) ((mkS bs).size + k)).toList = bs.map byteV ++ List.replicate k (.int .u8 0) := by
    unfold bytesRow
    rw [mkS_size, Nat.add_sub_cancel_left]
    simp [mkS, byteV, Function.comp_def]
  refine ⟨_, _, hb, e1, fun i hi => ?_⟩
  rw [← e1, Array.length_toList] at hi
  simp only
  omega
theorem Rd.pre {F : List Asn} {b : Nat} {t : TypeId} {cs more : List Value} : Rd (Row b t (cs ++ more) :: F) (some ⟨b, 0, none⟩) cs := Rd.row 0 fun i v h => by
  rw [Nat.zero_add, List.getElem?_append_left (List.getElem?_eq_some_iff.1 h).1]; exact h
theorem QtStr2 {W : World} {C : Cls} {l : List Asn} (hC : Is W C l) {p : Option Addr} {n c : Nat} {bs : List UInt8} (hr : Rd l p (bs.map byteV)) (hl : bs.length = n) :
    Qt C (.string (mkS bs)) (fun w K => Run Try.prog (convert 22 9 (Value.slice p n c)) w fun v w' => AsS v fun x => K (.string x) w') := fun G w hw =>
  str_rd uB uU8 uS ((hC G w).1 hw) (hr.app (pts G)) hl ⟨_, rfl, rfl, hw⟩
theorem Still_walk {W : World} {p q r : Option Addr} {k b : List UInt8} {ws : List (List UInt8)} {c d e : Nat} (hr : Rd [Base W] p (k.map byteV)) (hc : k.length ≤ c) (hcm : c ≤ 9223372036854775807) (hr2 : Rd [Base W] q (b.map byteV)) (hd : b.length ≤ d) (hdm : d ≤ 9223372036854775807)
    (hr3 : Rd [Base W] r (ws.map strV)) (he : ws.length ≤ e) (hem : e ≤ 9223372036854775807) (hok : ∀ o ∈ ws, o.length ≤ 9223372036854775807) :
    CallR Try.prog 8 #[.slice p k.length c, .slice q b.length d, .slice r ws.length e] W fun v w' => v = .bool true ∧ ∃ r, St W (Base W :: r) w' := by
  refine F8_of ((head_spec (St.base W)).of fun v w ⟨hv, hS⟩ => ⟨_, hv, ?_⟩)
  refine Bif.i (fun h => ⟨rfl, _, hS⟩) fun h => Bif.i (fun h2 => ⟨rfl, _, hS⟩) fun h2 => ?_
  have h := of_decide_eq_false h
  have h2 := of_decide_eq_false h2
  refine (greatW_spec hr3 (by omega) hS).of fun v w ⟨g, hv, hg, hS⟩ => ⟨_, hv, Bif.i (fun _ => ⟨rfl, _, hS⟩) fun hgf => ?_⟩
  obtain ⟨hg1, hg2⟩ := hg hgf
  refine str_rd uB uU8 uS hS hr rfl ⟨_, rfl, str_rd uB uU8 uS hS hr2 rfl ⟨_, rfl, ?_⟩⟩
  have hl := macP_len k b
  obtain ⟨m, hm⟩ : ∃ m, macP k b = m := ⟨_, rfl⟩
  rw [hm] at hl
  have z : (arrB m).size = 32 := by rw [arrB_size, hl]
  have zl : (m.map byteV).length = 32 := by rw [List.length_map, hl]
  refine (mac_at hm hr rfl hc (by omega) hr2 rfl hd (by omega) hS).of fun v w ⟨hv, hS⟩ => ⟨_, z, hv, NewC.i hS fun b20 w hS => ⟨z, StA.r 0 hS rfl (by rw [z]; rfl) (arrB_notAgg _) fun w hS => ?_⟩⟩
  have hS : St W [Row b20 26 (m.map byteV), Base W] w := hS
  refine (Proof_spec (hr2.cons _) hd (by omega) (hr3.cons _) (by omega) (by omega) hS).of fun v w ⟨hv, hS⟩ => ⟨_, hv, ?_⟩
  have hC := Is.refl W [Row b20 26 (m.map byteV), Base W]
  have hrL := hr.cons (Row b20 26 (m.map byteV))
  have hrL2 := hr2.cons (Row b20 26 (m.map byteV))
  have hrL3 := hr3.cons (Row b20 26 (m.map byteV))
  refine ⟨StC W _, StC.start hS, Bif.yes rfl ⟨mkS k, QtStr2 hC hrL rfl, Bif.yes (beq_same rfl) ⟨mkS b, QtStr2 hC hrL2 rfl, Bif.yes (beq_same rfl) ⟨arrB m, z, QtA.r 0 hC rfl zl, fun k44 b43 k46 b45 => ?_⟩⟩⟩⟩
  refine Ef.n0 (α := Unit) (V := fun _ => .agg (arrB m)) (B := fun _ => [Row b20 26 (m.map byteV), Base W]) () ((hC.push b43 _).push b45 _) (fun G w h => ?_) fun _ => ⟨arrB m, z, rfl, QtA.r 0 hC rfl zl, _, fun w => eqSum m m hl hl w, _, rfl, Bif.yes (by simp) ?_⟩
  · have h : St W (Pt b45 (Prod.fst (Two.rowB (mkS b) 5) k46) :: Pt b43 (Prod.fst (Two.rowB (mkS k) 5) k44) :: (Row b20 26 (m.map byteV) :: Base W :: pts G)) w := h
    have h := (h.imp Pt.bytes).p1.imp Pt.bytes
    refine (mac_at hm (Rd.n 0 rfl fun F => Rd.pre) (mkS_size k).symm (by omega) (by rw [mkS_size]; omega) (Rd.n 1 rfl fun F => Rd.pre) (mkS_size b).symm (by omega) (by rw [mkS_size]; omega) h).of fun v w ⟨hv, h⟩ => ⟨arrB m, z, hv, (), rfl, h.drop.drop⟩
  refine Ef.n0 (α := Unit) (V := fun _ => .string (mkS (proofP k ws))) (B := fun _ => [Row b20 26 (m.map byteV), Base W]) () (Is.refl W _) (fun G w h => (Proof_spec (hrL.app (pts G)) hc (by omega) (hrL3.app (pts G)) (by omega) (by omega) h).of fun v w' ⟨hv, h⟩ => ⟨_, hv, (), rfl, h⟩) fun _ => ⟨_, rfl, trivial, fun k71 b70 => ?_⟩
  refine Ef.n0 (α := Unit) (V := fun _ => .string (mkS (proofP k ws))) (B := fun _ => [Row b20 26 (m.map byteV), Base W]) () ((Is.refl W _).push b70 _) (fun G w h => ?_) fun _ => ⟨_, rfl, trivial, fun G w h => ⟨?_, _, (StC.ends h).p1⟩⟩
  · have h : St W (Pt b70 (Prod.fst (Two.rowB (mkS k) 5) k71) :: (Row b20 26 (m.map byteV) :: Base W :: pts G)) w := h
    have h := h.imp Pt.bytes
    have hP := Proof_spec (e := e) (d := (mkS k).size + k71) (Rd.n 0 rfl fun F => Rd.pre) (by rw [mkS_size]; omega) (by omega) ((hrL3.app (pts G)).cons _) (by omega) (by omega) h
    rw [← mkS_size k] at hP
    exact hP.of fun v w' ⟨hv, h⟩ => ⟨_, hv, (), rfl, h.drop⟩
  · rw [beq_self_eq_true]
end Go.Proofs.Ytbfccpbijimjmaa
