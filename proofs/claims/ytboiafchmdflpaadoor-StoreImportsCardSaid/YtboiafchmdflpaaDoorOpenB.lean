/- Bytes that came in, opened. -/
import Derived.Test.YtboiafchmdflpaaDoorGC
import Derived.Test.YtboiafchmdflpaaDoorGD
namespace Go.Proofs.YtboiafchmdflpaaDoor
open Go.ChangeShapes Go.WideShapes Go.ChangeAt Go.RowKit Go.Joins Go.Deep

theorem byte_cells {H : Type} {enc : TypeId × Value → H} {w : World} {base fuel : Nat} {sp : Nat → Bool} {held : Bool} {cs : List Value} {x : DataW H × List MemPlace}
    (h : DataW.trod enc Tryd.prog w base sp held fuel 5 cs = some x) : ∃ b : UInt8, cs = [.int .u8 (b.toNat : Int)] ∧ True := by
  obtain ⟨z, rfl, _, wz⟩ := DataW.trod_int Tryd.underlying5 h
  obtain ⟨h0, h1⟩ := bounds_u8 wz
  obtain ⟨n, rfl⟩ := Int.eq_ofNat_of_zero_le h0
  exact ⟨UInt8.ofNat n, by rw [UInt8.toNat_ofNat', show n % 2 ^ 8 = n by omega], trivial⟩
theorem cells_byte : Tryd.prog.cellsOf 5 = 1 := by kernel_rfl
set_option maxRecDepth 100000 in
theorem open_bytes {H : Type} {enc : TypeId × Value → H} {w : World} {b0 base : Nat} {sp : Nat → Bool} {held : Bool} {v : Value} {d : DataW H} {p : List MemPlace}
    (hv : Value.okWide Tryd.prog w .any b0 66 v) (h : DataW.Trod enc Tryd.prog w base sp held 66 v d p) :
    ∃ (A : Option Addr) (l : List UInt8) (ca : Nat), v = .slice A l.length ca ∧ BysAt w A l ∧ l.length ≤ ca ∧ l.length ≤ 9223372036854775807 := by
  obtain ⟨a0, len, cap, rfl⟩ := okWide_slice Tryd.underlying66 hv
  obtain ⟨fuel, hf⟩ := h
  obtain ⟨A, l, ca, e, h1, h2, h3, _⟩ := slice_cells (k := 1) (f := fun b : UInt8 => [.int .u8 (b.toNat : Int)]) 0 (by omega) (fun _ => rfl) Tryd.underlying66 cells_byte byte_cells hf
  have h5 := Nat.le_trans h1 h2
  refine ⟨A, l, ca, by simpa [Value.cells] using e, fun i hi => ?_, h1, by unfold maxLen at h5; omega⟩
  obtain ⟨b, off, e, hc⟩ := h3 i hi
  exact ⟨b, off, e, by have := hc 0 _ rfl; simpa using this⟩
end Go.Proofs.YtboiafchmdflpaaDoor
