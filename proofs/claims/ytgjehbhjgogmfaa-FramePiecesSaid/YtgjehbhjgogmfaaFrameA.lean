/-
  Small aids.
-/
import Derived.Test.YtgjehbhjgogmfaaSl
set_option linter.unusedVariables false
set_option linter.unusedSimpArgs false
namespace Go.Proofs.Ytgjehbhjgogmfaa
open Go
theorem w64 {n : Int} (h0 : -9223372036854775808 ≤ n) (h1 : n ≤ 9223372036854775807) : IntKind.wrap .i64 n = n := IntWalk.i64_in _ ⟨h0, h1⟩
theorem up {k n : Nat} (h : k < n) (hn : n ≤ 9223372036854775807) : IntKind.wrap .i64 ((k : Int) + 1) = ((k + 1 : Nat) : Int) := by rw [w64 (by omega) (by omega)]; omega
def leftN (n : Nat) : List Value → World → Nat := fun vs _ => match vs.getLast? with
  | some (.int _ i) => n - i.toNat
  | _ => 0
theorem take_one {α : Type} {l : List α} {k : Nat} {x : α} (h : l[k]? = some x) : l.take (k + 1) = l.take k ++ [x] := by rw [List.take_add_one, h]; rfl
theorem byte_get {bs : List UInt8} {i : Nat} {x : UInt8} (h : bs[i]? = some x) : (bs.map byteV)[i]? = some (.int .u8 x.toNat) := by rw [List.getElem?_map, h]; rfl
theorem Rd.nonePtr {W w : World} {F : List Asn} {bs : List UInt8} (hr : Rd F none (bs.map byteV)) (hS : St W F w) : bs = [] := by
  cases bs with
  | nil => rfl
  | cons x r => obtain ⟨a, ha, _⟩ := hr.of hS (i := 0) (v := byteV x) rfl; cases ha
theorem i64_wf {x : Int} (h : (Lit.int .i64 x).wf = true) : -9223372036854775808 ≤ x ∧ x ≤ 9223372036854775807 := by
  simpa [Lit.wf, IntKind.min, IntKind.max, IntKind.signed, IntKind.bits] using h
theorem u8_wf {x : Int} (h : (Lit.int .u8 x).wf = true) : 0 ≤ x ∧ x ≤ 255 := by
  simpa [Lit.wf, IntKind.min, IntKind.max, IntKind.signed, IntKind.bits] using h
theorem map_get {k : IntKind} {xs : List Int} {i : Nat} {x : Int} (h : xs[i]? = some x) : (xs.map (Value.int k))[i]? = some (.int k x) := by rw [List.getElem?_map, h]; rfl
theorem Bif.yes {b : Bool} {A B : Prop} (h : b = true) (hA : A) : Bif b A B := Bif.i (fun _ => hA) fun h' => by rw [h] at h'; cases h'
theorem Bif.no {b : Bool} {A B : Prop} (h : b = false) (hB : B) : Bif b A B := Bif.i (fun h' => by rw [h] at h'; cases h') fun _ => hB
theorem u8_of (a : Int) (wa : (Lit.int .u8 a).wf = true) : ∃ x : UInt8, a = (x.toNat : Int) := by
  have hx : 0 ≤ a ∧ a ≤ 255 := by simpa [Lit.wf, IntKind.min, IntKind.max, IntKind.signed, IntKind.bits] using wa
  exact ⟨UInt8.ofNat a.toNat, by rw [UInt8.toNat_ofNat_of_lt' (by show a.toNat < 256; omega)]; omega⟩
/-- A cell is looked at. -/
theorem IxP.one {W w : World} {l : List Asn} {p : Option Addr} {cs : List Value} {n k : Nat} {i : Int} {v : Value} {K : Addr → Prop} (hr : Rd l p cs) (hS : St W l w) (hi : i = (k : Int)) (hn : k < n) (hx : cs[k]? = some v)
    (hK : ∀ a, w.cell? a = some v → K a) : IxP p n i 1 K := by
  have hc : cs[k * 1]? = some v := by rw [Nat.mul_one, hx]
  refine IxP.i hr hS hi hn hc fun a ha => hK _ ?_
  exact hr.at1 hS ha hc
theorem IxP.oneC {W w : World} {C : Cls} {l : List Asn} {p : Option Addr} {cs : List Value} {n k : Nat} {i : Int} {v : Value} {K : Addr → Prop} (hC : Is W C l) (hr : Rd l p cs) (hS : St W l w) (hi : i = (k : Int)) (hn : k < n) (hx : cs[k]? = some v)
    (hK : ∀ a, (∀ G w, C.p G w → w.cell? a = some v) → K a) : IxP p n i 1 K := by
  have hc : cs[k * 1]? = some v := by rw [Nat.mul_one, hx]
  refine IxP.i hr hS hi hn hc fun a ha => hK _ fun G w hw => ?_
  exact (hr.app (pts G)).at1 ((hC G w).1 hw) ha hc
/-- A cell of what was there when the law began: it stays. -/
theorem IxP.base {W : World} {p : Option Addr} {cs : List Value} {n k : Nat} {i : Int} {v : Value} {K : Addr → Prop} (hr : Rd [Base W] p cs) (hi : i = (k : Int)) (hn : k < n) (hx : cs[k]? = some v)
    (hK : ∀ a, (∀ {l : List Asn} {w : World}, Base W ∈ l → St W l w → w.cell? a = some v) → K a) : IxP p n i 1 K := by
  have hc : cs[k * 1]? = some v := by rw [Nat.mul_one, hx]
  refine IxP.i hr (St.base W) hi hn hc fun a ha => hK _ fun {l w} hm hS => ?_
  exact (hr.mem hm).at1 hS ha hc
/-- Nothing is put behind. -/
theorem append_none {P : Program} {w : World} {sT xT ty e : TypeId} {inf : TypeInfo} {p sp : Option Addr} {n c sc : Nat} {F : Value → World → Prop} (hu : P.underlying sT = some (.slice e)) (hx : Src P xT) (hi : P.info? e = some inf) (hn : n ≤ c)
    (hF : F (.slice p n c) w) : Run P (Builtin.append_ #[sT, xT] ty #[.slice p n c, .slice sp 0 sc]) w F := by
  have h1 : (Builtin.firstCells inf.size 0 (.slice sp 0 sc)).run P w = .ok (List.toArray []) w := by
    cases sp with
    | none => rfl
    | some a => simp [Builtin.firstCells]; rfl
  have := append_fits_run (P := P) (w := w) (w' := w) (p := p) (n := n) (m := 0) (c := c) (xs := []) (x := .slice sp 0 sc) (ty := ty) hu hx hi rfl hn (fun s => rfl) h1 (by cases p with | none => exact .inl ⟨rfl, rfl⟩ | some a => exact .inr ⟨a, rfl, rfl⟩)
  exact ⟨_, w, this, hF⟩
/-- Bytes are put behind what is read, into a row of their own. -/
theorem append_new {P : Program} {W w : World} {r : List Asn} {sT xT ty e : TypeId} {inf : TypeInfo} {z : Value} {size : Nat} {p sp : Option Addr} {n c m sc : Nat} {cs xs : List Value} {F : Value → World → Prop} (hu : P.underlying sT = some (.slice e)) (hx : Src P xT) (hi : P.info? e = some inf) (hs : inf.size = size) (hz : inf.zero = some z) (hzs : z.cells.size = size)
    (hS : St W r w) (hp : Rd r p cs) (hcl : cs.length = n * size) (hr : Rd r sp xs) (hxl : xs.length = m * size) (hfit : ¬ n + m ≤ c) (hb : (n + m) * inf.bytes ≤ 140737488355328) (h63 : ((n + m : Nat) : Int) ≤ 9223372036854775807)
    (hF : ∀ p' c' w', St W (OwnS e size p' (n + m) c' (cs ++ xs) :: r) w' → F (.slice p' (n + m) c') w') :
    Run P (Builtin.append_ #[sT, xT] ty #[.slice p n c, .slice sp m sc]) w F := by
  have rd : ∀ {q : Option Addr} {k c : Nat} {ys : List Value}, Rd r q ys → ys.length = k * size → (Builtin.firstCells size k (.slice q k c)).run P w.drew = .ok ys.toArray w.drew := fun {q k c ys} hq hl => by
    refine firstCells_run (fun j v hj => hq.of hS.draws hj) hl fun h0 => ?_
    rcases ys with _ | ⟨v, ys⟩
    · simpa using hl.symm
    · obtain ⟨a, ha, _⟩ := hq.of hS (i := 0) (v := v) rfl
      rw [h0] at ha; cases ha
  have := append_grows_run (P := P) (w := w) (x := .slice sp m sc) (n := n) (m := m) (c := c) (ty := ty) hu hx hi hs hz hfit (fun s => rfl) (rd hr hxl) (rd hp hcl) h63 (growslice_fits (by omega) hb)
  have hge := grownCap_ge w (n + m) c e
  have hS' := St.allocRow (St.draws hS) (cs.toArray ++ xs.toArray ++ Builtin.zeroCells z.cells (grownCap w (n + m) c e - (n + m))) e
  refine ⟨_, _, this, hF _ _ _ (OwnS.of_row ?_ hge ?_ hS')⟩
  · have hz' := zeroCells_length z.cells (grownCap w (n + m) c e - (n + m))
    simp only [Array.toList_append, List.length_append, hcl, hxl, Array.length_toList, hz', hzs]
    rw [← Nat.add_mul, ← Nat.add_mul]
    congr 1
    omega
  · have e1 : (n + m) * size = (cs ++ xs).length := by rw [List.length_append, hcl, hxl, Nat.add_mul]
    rw [e1]
    simp only [Array.toList_append]
    rw [List.take_append_of_le_length (by simp), List.take_of_length_le (by simp)]
end Go.Proofs.Ytgjehbhjgogmfaa
