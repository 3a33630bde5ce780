/-
  The laws of the bytes that go both ways: broken; in pieces.
-/
import Derived.Test.YtneilmoiahphkaaLaw17
set_option linter.unusedVariables false
set_option linter.unusedSimpArgs false
namespace Go.Proofs.Ytneilmoiahphkaa
open Go

theorem brk_hears {s : PS} (h : s.broken = true) (n : Int) : s.hears n = false := by simp [PS.hears, h]
theorem brk_inN {s : PS} (h : s.broken = true) (m : Nat) (n : Int) (xs : List UInt8) : s.inN m n xs = 0 := by simp [PS.inN, brk_hears h]
theorem brk_in {s : PS} (h : s.broken = true) (m : Nat) (n : Int) (xs : List UInt8) : s.in_ m n xs = s := by simp [PS.in_, brk_hears h]
theorem brk_end {s : PS} (h : s.broken = true) (n : Int) : s.end_ n = s := by simp [PS.end_, brk_hears h]
theorem brk_outB {s : PS} (h : s.broken = true) (n k : Int) : s.outB n k = [] := by simp [PS.outB, h]
theorem brk_outE {s : PS} (h : s.broken = true) (n k : Int) : s.outE n k = false := by simp [PS.outE, h]
theorem brk_out {s : PS} (h : s.broken = true) (n k : Int) : s.out n k = s := by simp [PS.out, h]
theorem brk_room {s : PS} (h : s.broken = true) (m : Nat) (n : Int) : s.room m n = 0 := by simp [PS.room, brk_hears h]
theorem brk_waits (s : PS) (n : Int) : s.break_.waits n = 0 := by
  unfold PS.waits PS.to PS.break_
  split
  · split <;> rfl
  · rfl
theorem brk_moved (s : PS) (n : Int) : s.break_.moved n = s.moved n := by
  unfold PS.moved PS.to PS.break_
  split
  · split <;> rfl
  · rfl

theorem Break_walk {W : World} {p q : Option Addr} {os ms : List OpD} {c d : Nat} (most : Int) (wm : (Lit.int .u8 most).wf = true) (hl : Rd [Base W] p (os.flatMap opCells)) (hc : os.length ≤ c) (hcm : c ≤ 9223372036854775807) (hok : ∀ o ∈ os, OpOk W o)
    (hl2 : Rd [Base W] q (ms.flatMap opCells)) (hd : ms.length ≤ d) (hdm : d ≤ 9223372036854775807) (hok2 : ∀ o ∈ ms, OpOk W o) :
    CallR Try.prog 9 #[.int .u8 most, .slice p os.length c, .slice q ms.length d] W fun v w' => v = .bool true ∧ ∃ r, St W (Base W :: r) w' := by
  have hlen : os.length ≤ 9223372036854775807 := Nat.le_trans hc hcm
  have hlen2 : ms.length ≤ 9223372036854775807 := Nat.le_trans hd hdm
  refine F9_of ((head_spec (St.base W)).of fun v w1 ⟨hv, hS⟩ => ⟨_, hv, ?_⟩)
  refine (PNew_spec _ hS).of fun v w2 ⟨pb, hv, hS⟩ => ⟨_, hv, Bif.i (fun h => by cases h) fun _ => ?_⟩
  generalize IntKind.wrap .i64 most = mo at hS
  refine (Great_spec hl (by simp) hlen hS).of fun v w4 ⟨b, hv, hb, hS⟩ => ⟨_, hv, Bif.i (fun _ => ⟨rfl, [], hS.drop⟩) fun hb' => ?_⟩
  refine (Great_spec hl2 (by simp) hlen2 hS).of fun v w4 ⟨b, hv, hb, hS⟩ => ⟨_, hv, Bif.i (fun _ => ⟨rfl, [], hS.drop⟩) fun hb' => ?_⟩
  refine ⟨fun vs w => (∃ k : Nat, vs = [.int .i64 k] ∧ k ≤ os.length) ∧ ∃ s, St W [PumpA pb mo s, Base W] w, leftN os.length, ⟨⟨0, rfl, Nat.zero_le _⟩, _, hS⟩, fun i w hI => ?_⟩
  obtain ⟨⟨k, he, hk⟩, s, hS⟩ := hI
  cases he
  refine Bif.i (fun hlt => ?_) fun _ => ?_
  · have hlt : k < os.length := by have := of_decide_eq_true hlt; omega
    have ho := hok _ (List.getElem_mem hlt)
    have hat := fun (l : List Asn) (w : World) (hm : Base W ∈ l) (hS : St W l w) => op_at hl hm hS hlt
    obtain ⟨a, ha, h0, h1, h2, h3⟩ := hat _ _ (by simp) hS
    generalize os[k] = o at ho h0 h1 h2 h3 hat
    have at' : ∀ (l : List Asn) (w : World), Base W ∈ l → St W l w → w.cell? ((a.add (k * 4)).add 1) = some (.int .i64 o.side) ∧ w.cell? ((a.add (k * 4)).add 2) = some (.slice o.p o.xs.length o.c) ∧ w.cell? ((a.add (k * 4)).add 3) = some (.int .i64 o.nn) := fun l w hm hS => by
      obtain ⟨a', ha', _, h1, h2, h3⟩ := hat l w hm hS
      rw [ha] at ha'; cases ha'
      exact ⟨h1, h2, h3⟩
    refine ⟨a, ha, ⟨by omega, by omega⟩, LdI.at h0 (Bif.i (fun _ => ?_) fun _ => ?_)⟩
    · refine ⟨StC W _, StC.start hS, a, ha, ⟨by omega, by omega⟩, a, ha, ⟨by omega, by omega⟩, o.side, fun G w8 h8 => LdI.at (at' _ _ (by simp) h8).1 ⟨rfl, h8⟩, o.nn, fun G w8 h8 => LdI.at (at' _ _ (by simp) h8).2.2 ⟨rfl, h8⟩, fun v => StC W [PumpA pb mo (s.out o.side o.nn), Base W], fun G w8 h8 => (POut_spec _ _ h8).of fun v w9 ⟨p1, c1, hv, h9⟩ => ⟨_, _, _, _, hv, isR2 ⟨_, _, _, rfl⟩ ⟨_, rfl⟩, h9.drop⟩, fun p1 n1 c1 b1 => ⟨trivial, fun G w8 h8 => ?_⟩⟩
      rw [up hlt hlen]
      exact ⟨⟨⟨k + 1, rfl, by omega⟩, _, StC.ends h8⟩, by show os.length - (k + 1) < os.length - k; omega⟩
    · refine ⟨StC W _, StC.start hS, a, ha, ⟨by omega, by omega⟩, a, ha, ⟨by omega, by omega⟩, o.side, fun G w8 h8 => LdI.at (at' _ _ (by simp) h8).1 ⟨rfl, h8⟩, o.p, o.xs.length, o.c, fun G w8 h8 => LdL.at (at' _ _ (by simp) h8).2.1 ⟨rfl, h8⟩, fun v => StC W [PumpA pb mo (s.in_ (capOf mo) o.side o.xs), Base W], fun G w8 h8 => (PIn_spec _ ((ho.2.1.mem (l := [Base W]) (by simp)).app (pts G)) ho.1 h8).of fun v w9 ⟨hv, h9⟩ => ⟨_, hv, ⟨_, rfl⟩, h9⟩, fun x1 => ⟨trivial, fun G w8 h8 => ?_⟩⟩
      rw [up hlt hlen]
      exact ⟨⟨⟨k + 1, rfl, by omega⟩, _, StC.ends h8⟩, by show os.length - (k + 1) < os.length - k; omega⟩
  refine (PMoved_spec _ hS).of fun v w5 ⟨hv, hS⟩ => ⟨_, hv, (PMoved_spec _ hS).of fun v w6 ⟨hv, hS⟩ => ⟨_, hv, (PBreak_spec hS).of fun v w7 ⟨hv, hS⟩ => ⟨hv, ?_⟩⟩⟩
  have hbr : s.break_.broken = true := rfl
  refine ⟨fun vs w => (∃ k : Nat, vs = [.int .i64 k] ∧ k ≤ ms.length) ∧ St W [PumpA pb mo s.break_, Base W] w, leftN ms.length, ⟨⟨0, rfl, Nat.zero_le _⟩, hS⟩, fun i w hI => ?_⟩
  obtain ⟨⟨k, he, hk⟩, hS⟩ := hI
  cases he
  refine Bif.i (fun hlt => ?_) fun _ => Bif.i (fun _ => ?_) fun h => by cases h
  · have hlt : k < ms.length := by have := of_decide_eq_true hlt; omega
    have ho := hok2 _ (List.getElem_mem hlt)
    obtain ⟨a, ha, h0, h1, h2, h3⟩ := op_at hl2 (by simp) hS hlt
    generalize ms[k] = o at ho h0 h1 h2 h3
    refine ⟨a, ha, ⟨by omega, by omega⟩, LdI.at h0 (LdI.at h1 (LdL.at h2 (LdI.at h3 (NewC.i hS fun b w2 hS => St1.i (k0 := 0) hS (by simp) fun w3 hS => St1.i (k0 := 1) hS (by simp) fun w4 hS => St1.i (k0 := 2) hS (by simp) fun w5 hS => St1.i (k0 := 3) hS (by simp) fun w6 hS => ?_))))⟩
    have hS : St W [Row b _ (opCells o), PumpA pb mo s.break_, Base W] w6 := hS
    refine LdI.i (k0 := 1) hS rfl (LdI.i (k0 := 3) hS rfl ((POut_spec _ _ hS.p1).of fun v w7 ⟨p1, c1, hv, hS⟩ => ⟨_, _, _, _, hv, ?_⟩))
    have hS := hS.drop
    rw [brk_out hbr] at hS
    rw [brk_outB hbr, brk_outE hbr]
    refine LdI.i (k0 := 1) hS.p1 rfl (LdL.i (k0 := 2) hS.p1 rfl ((PIn_spec _ (ho.2.1.mem (by simp)) ho.1 hS).of fun v w8 ⟨hv, hS⟩ => ⟨_, hv, ?_⟩))
    rw [brk_in hbr] at hS
    rw [brk_inN hbr]
    refine Bif.i (fun h => by simp at h) fun _ => Bif.i (fun h => by simp at h) fun _ => Bif.i (fun h => by simp at h) fun _ => ?_
    refine LdI.i (k0 := 1) hS.p1 rfl ((PEnd_spec _ hS).of fun v w9 ⟨hv, hS⟩ => ⟨_, hv, ?_⟩)
    rw [brk_end hbr] at hS
    rw [brk_hears hbr]
    refine Bif.i (fun h => by simp at h) fun _ => LdI.i (k0 := 1) hS.p1 rfl ((PWaits_spec _ hS).of fun v w10 ⟨hv, hS⟩ => ⟨_, hv, ?_⟩)
    rw [brk_waits]
    refine Bif.i (fun h => by simp at h) fun _ => LdI.i (k0 := 1) hS.p1 rfl ((PRoom_spec _ hS).of fun v w11 ⟨hv, hS⟩ => ⟨_, hv, ?_⟩)
    rw [brk_room hbr]
    refine Bif.i (fun h => by simp at h) fun _ => ?_
    rw [up hlt hlen2]
    exact ⟨⟨⟨k + 1, rfl, by omega⟩, hS.p1.drop⟩, by show ms.length - (k + 1) < ms.length - k; omega⟩
  refine (POver_spec hS).of fun v w8 ⟨hv, hS⟩ => ⟨_, hv, Bif.i (fun _ => ?_) fun h => by simp [PS.over, hbr] at h⟩
  refine (PMoved_spec _ hS).of fun v w9 ⟨hv, hS⟩ => ⟨_, hv, Bif.i (fun _ => ?_) fun h => by simp [brk_moved] at h⟩
  refine (PMoved_spec _ hS).of fun v w10 ⟨hv, hS⟩ => ⟨_, hv, Bif.i (fun _ => ?_) fun h => by simp [brk_moved] at h⟩
  refine (PWaits_spec _ hS).of fun v w11 ⟨hv, hS⟩ => ⟨_, hv, Bif.i (fun _ => ?_) fun h => by simp [brk_waits] at h⟩
  refine (PWaits_spec _ hS).of fun v w12 ⟨hv, hS⟩ => ⟨_, hv, by simp [brk_waits], [], hS.drop⟩
end Go.Proofs.Ytneilmoiahphkaa
