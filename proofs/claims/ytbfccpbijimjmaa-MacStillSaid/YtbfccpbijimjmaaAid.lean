/-
  Small aids: tests that are known, whole slices, texts.
-/
import Derived.Test.YtbfccpbijimjmaaDigT
import Derived.Test.YtbfccpbijimjmaaApp
set_option linter.unusedVariables false
set_option linter.unusedSimpArgs false
namespace Go.Proofs.Ytbfccpbijimjmaa
open Go
theorem cU8 : Try.prog.cellsOf 5 = 1 := by kernel_rfl
theorem uA32 : Try.prog.underlying 26 = some (.array 32 5) := Try.underlying26
theorem gA32 : Try.prog.eqGuardType Try.prog.depth 26 = false := by kernel_rfl
theorem eqSum {o1 o2 : Operand} (xs ys : List UInt8) (hx : xs.length = 32) (hy : ys.length = 32) (w : World) :
    Sem.run Try.prog (do eqGuard .eql 26 o1 o2 (Value.agg (arrB xs)) (Value.agg (arrB ys)); binOp .eql 26 (Value.agg (arrB xs)) (Value.agg (arrB ys))) w = .ok (.bool (decide (xs = ys))) w :=
  eqB_run uA32 uU8 iU8 cU8 gA32 hx hy _ _ w
theorem beq_same {a b : ByteArray} (h : a = b) : (a.toList == b.toList) = true := by rw [h]; exact beq_self_eq_true _
theorem Bif.yes {b : Bool} {A B : Prop} (h : b = true) (hA : A) : Bif b A B := Bif.i (fun _ => hA) fun h' => by rw [h] at h'; cases h'
theorem Bif.no {b : Bool} {A B : Prop} (h : b = false) (hB : B) : Bif b A B := Bif.i (fun h' => by rw [h] at h'; cases h') fun _ => hB
/-- All of a slice. -/
theorem SlP.all {F : List Asn} {p : Option Addr} {bs : List UInt8} {n c : Nat} {hi : Int} {K : Option Addr → Nat → Nat → Prop} (hr : Rd F p (bs.map byteV)) (hl : bs.length = n) (hn : n ≤ c) (hhi : hi = (n : Int)) (hK : ∀ p', Rd F p' (bs.map byteV) → K p' bs.length c) : SlP p n c 1 0 hi K := by
  refine SlP.i (a := 0) (b := n) hr (by simp [hl]) hn rfl hhi (Nat.zero_le _) (Nat.le_refl _) fun p' hr' => ?_
  rw [Nat.zero_mul, List.drop_zero, Nat.sub_zero, Nat.mul_one, List.take_of_length_le (by simp [hl])] at hr'
  rw [Nat.sub_zero, Nat.sub_zero, ← hl]
  exact hK _ hr'
theorem SlP.allS {W w : World} {l : List Asn} {A : Asn} {p : Option Addr} {bs : List UInt8} {n c : Nat} {hi : Int} {K : Option Addr → Nat → Nat → Prop} (k : Nat) (hS : St W l w) (hk : nth l k = some A) (h : ∀ F, Rd (A :: F) p (bs.map byteV)) (hl : bs.length = n) (hn : n ≤ c) (hhi : hi = (n : Int)) (hK : ∀ p', Rd l p' (bs.map byteV) → K p' bs.length c) : SlP p n c 1 0 hi K :=
  SlP.all (Rd.n k hk h) hl hn hhi hK
theorem sum_at {W w : World} {F : List Asn} {p : Option Addr} {c n : Nat} {bs s : List UInt8} (hs : sha bs = s) (hr : Rd F p (bs.map byteV)) (hl : bs.length = n) (hc : n ≤ c) (hn : n ≤ 1000000) (hS : St W F w) :
    CallR Try.prog 26 #[.slice p n c] w fun v w' => v = .agg (arrB s) ∧ St W F w' := by rw [← hs, ← hl]; exact Sum_spec hr (by omega) (by omega) hS
theorem rsum_at {W w : World} {F : List Asn} {p : Option Addr} {c n : Nat} {bs s : List UInt8} (hs : sha bs = s) (hr : Rd F p (bs.map byteV)) (hl : bs.length = n) (hn : n ≤ 1000000) (hS : St W F w) :
    CallR Try.prog 17 #[.slice p n c] w fun v w' => v = .agg (arrB s) ∧ St W F w' := by rw [← hs, ← hl]; exact RSum_spec hr (by omega) hS
theorem QtStr {W : World} {C : Cls} {l : List Asn} {p : Option Addr} {bs : List UInt8} {n c : Nat} (hC : Is W C l) (hr : Rd l p (bs.map byteV)) (hl : bs.length = n) :
    Qt C (.string (mkS bs)) (fun w K => Run Try.prog (convert 22 9 (Value.slice p n c)) w fun v w' => AsS v fun x => K (.string x) w') := fun G w hw =>
  str_rd uB uU8 uS ((hC G w).1 hw) (hr.app (pts G)) hl ⟨_, rfl, rfl, hw⟩
theorem u8_of (a : Int) (wa : (Lit.int .u8 a).wf = true) : ∃ x : UInt8, a = (x.toNat : Int) := by
  have hx : 0 ≤ a ∧ a ≤ 255 := by simpa [Lit.wf, IntKind.min, IntKind.max, IntKind.signed, IntKind.bits] using wa
  exact ⟨UInt8.ofNat a.toNat, by rw [UInt8.toNat_ofNat_of_lt' (by show a.toNat < 256; omega)]; omega⟩
/-- A cell is looked at. -/
theorem IxP.one {W w : World} {l : List Asn} {p : Option Addr} {cs : List Value} {n k : Nat} {i : Int} {v : Value} {K : Addr → Prop} (hr : Rd l p cs) (hS : St W l w) (hi : i = (k : Int)) (hn : k < n) (hx : cs[k]? = some v)
    (hK : ∀ a, w.cell? a = some v → K a) : IxP p n i 1 K := by
  have hc : cs[k * 1]? = some v := by rw [Nat.mul_one, hx]
  refine IxP.i hr hS hi hn hc fun a ha => hK _ ?_
  exact hr.at1 hS ha hc
theorem IxP.oneC {W w : World} {C : Cls} {l : List Asn} {p : Option Addr} {cs : List Value} {n k : Nat} {i : Int} {v : Value} {K : Addr → Prop} (hC : Is W C l) (hr : Rd l p cs) (hS : St W l w) (hi : i = (k : Int)) (hn : k < n) (hx : cs[k]? = some v)
    (hK : ∀ a, (∀ G w, C.p G w → w.cell? a = some v) → K a) : IxP p n i 1 K := by
  have hc : cs[k * 1]? = some v := by rw [Nat.mul_one, hx]
  refine IxP.i hr hS hi hn hc fun a ha => hK _ fun G w hw => ?_
  exact (hr.app (pts G)).at1 ((hC G w).1 hw) ha hc
/-- A cell of what was there when the law began: it stays. -/
theorem IxP.base {W : World} {p : Option Addr} {cs : List Value} {n k : Nat} {i : Int} {v : Value} {K : Addr → Prop} (hr : Rd [Base W] p cs) (hi : i = (k : Int)) (hn : k < n) (hx : cs[k]? = some v)
    (hK : ∀ a, (∀ {l : List Asn} {w : World}, Base W ∈ l → St W l w → w.cell? a = some v) → K a) : IxP p n i 1 K := by
  have hc : cs[k * 1]? = some v := by rw [Nat.mul_one, hx]
  refine IxP.i hr (St.base W) hi hn hc fun a ha => hK _ fun {l w} hm hS => ?_
  exact (hr.mem hm).at1 hS ha hc
/-- Nothing is put behind. -/
theorem append_none {P : Program} {w : World} {sT xT ty e : TypeId} {inf : TypeInfo} {p sp : Option Addr} {n c sc : Nat} {F : Value → World → Prop} (hu : P.underlying sT = some (.slice e)) (hx : Src P xT) (hi : P.info? e = some inf) (hn : n ≤ c)
    (hF : F (.slice p n c) w) : Run P (Builtin.append_ #[sT, xT] ty #[.slice p n c, .slice sp 0 sc]) w F := by
  have h1 : (Builtin.firstCells inf.size 0 (.slice sp 0 sc)).run P w = .ok (List.toArray []) w := by
    cases sp with
    | none => rfl
    | some a => simp [Builtin.firstCells]; rfl
  have := append_fits_run (P := P) (w := w) (w' := w) (p := p) (n := n) (m := 0) (c := c) (xs := []) (x := .slice sp 0 sc) (ty := ty) hu hx hi rfl hn (fun s => rfl) h1 (by cases p with | none => exact .inl ⟨rfl, rfl⟩ | some a => exact .inr ⟨a, rfl, rfl⟩)
  exact ⟨_, w, this, hF⟩
/-- Bytes are put behind what is read, into a row of their own. -/
theorem append_new {P : Program} {W w : World} {r : List Asn} {sT xT ty e : TypeId} {inf : TypeInfo} {z : Value} {size : Nat} {p sp : Option Addr} {n c m sc : Nat} {cs xs : List Value} {F : Value → World → Prop} (hu : P.underlying sT = some (.slice e)) (hx : Src P xT) (hi : P.info? e = some inf) (hs : inf.size = size) (hz : inf.zero = some z) (hzs : z.cells.size = size)
    (hS : St W r w) (hp : Rd r p cs) (hcl : cs.length = n * size) (hr : Rd r sp xs) (hxl : xs.length = m * size) (hfit : ¬ n + m ≤ c) (hb : (n + m) * inf.bytes ≤ 140737488355328) (h63 : ((n + m : Nat) : Int) ≤ 9223372036854775807)
    (hF : ∀ p' c' w', St W (OwnS e size p' (n + m) c' (cs ++ xs) :: r) w' → F (.slice p' (n + m) c') w') :
    Run P (Builtin.append_ #[sT, xT] ty #[.slice p n c, .slice sp m sc]) w F := by
  have rd : ∀ {q : Option Addr} {k c : Nat} {ys : List Value}, Rd r q ys → ys.length = k * size → (Builtin.firstCells size k (.slice q k c)).run P w.drew = .ok ys.toArray w.drew := fun {q k c ys} hq hl => by
    refine firstCells_run (fun j v hj => hq.of hS.draws hj) hl fun h0 => ?_
    rcases ys with _ | ⟨v, ys⟩
    · simpa using hl.symm
    · obtain ⟨a, ha, _⟩ := hq.of hS (i := 0) (v := v) rfl
      rw [h0] at ha; cases ha
  have := append_grows_run (P := P) (w := w) (x := .slice sp m sc) (n := n) (m := m) (c := c) (ty := ty) hu hx hi hs hz hfit (fun s => rfl) (rd hr hxl) (rd hp hcl) h63 (growslice_fits (by omega) hb)
  have hge := grownCap_ge w (n + m) c e
  have hS' := St.allocRow (St.draws hS) (cs.toArray ++ xs.toArray ++ Builtin.zeroCells z.cells (grownCap w (n + m) c e - (n + m))) e
  refine ⟨_, _, this, hF _ _ _ (OwnS.of_row ?_ hge ?_ hS')⟩
  · have hz' := zeroCells_length z.cells (grownCap w (n + m) c e - (n + m))
    simp only [Array.toList_append, List.length_append, hcl, hxl, Array.length_toList, hz', hzs]
    rw [← Nat.add_mul, ← Nat.add_mul]
    congr 1
    omega
  · have e1 : (n + m) * size = (cs ++ xs).length := by rw [List.length_append, hcl, hxl, Nat.add_mul]
    rw [e1]
    simp only [Array.toList_append]
    rw [List.take_append_of_le_length (by simp), List.take_of_length_le (by simp)]
end Go.Proofs.Ytbfccpbijimjmaa
