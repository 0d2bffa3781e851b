/- Slices, and slices of slices, that came in, opened; the tables of unicode/utf8, off the row's list. -/
import Derived.Test.YtboiafchmdflpaaDoorOpen14
import Derived.Test.YtboiafchmdflpaaDoorSls
import Derived.Test.YtboiafchmdflpaaDoorVal04
import Derived.Test.YtboiafchmdflpaaDoorRows
import Derived.Lib.LaidU8T
import Derived.PinnedBridge
import Derived.MakeChecks
namespace Go.Proofs.YtboiafchmdflpaaDoor
open Go.ChangeShapes Go.WideShapes Go.ChangeAt Go.RowKit Go.Joins Go.Deep

theorem cells_rd : Tryd.prog.cellsOf 61 = 2 := by kernel_rfl
theorem cells_strs : Tryd.prog.cellsOf 69 = 1 := by kernel_rfl
section
variable {H : Type} {enc : TypeId × Value → H} {w : World} {base fuel : Nat} {sp : Nat → Bool} {held : Bool} {cs : List Value} {x : DataW H × List MemPlace}
theorem rd_cells (h : DataW.trod enc Tryd.prog w base sp held fuel 61 cs = some x) : ∃ r : Rd, cs = [.string r.key, .int .u64 r.ver] ∧ r.key.size ≤ 9223372036854775807 ∧ r.ver < 18446744073709551616 := by
  obtain ⟨xs, n, _, _, hc, hl, hf⟩ := DataW.trod_struct Tryd.underlying61 h
  rw [cells_rd] at hc
  obtain ⟨a, b, rfl⟩ := len_2 hc
  obtain ⟨u, v, rfl⟩ := len_2 (l := xs) hl
  have g0 := hf 0 _ rfl
  have g1 := hf 1 _ rfl
  simp [cells_u64, cells_str] at g0 g1
  obtain ⟨s, e0, h0⟩ := cells_str1 g0
  obtain ⟨m, e1, h1⟩ := cells_u641 g1
  simp at e0 e1
  subst e0 e1
  exact ⟨⟨s, m⟩, rfl, h0, h1⟩
theorem wrSl_cells (h : DataW.trod enc Tryd.prog w base sp held fuel 34 cs = some x) : ∃ s : Sl Wr, cs = [.slice s.A s.l.length s.cap] ∧ WrSlOK w s := by
  obtain ⟨A, l, cap, rfl, h1, h2, h3, h4⟩ := wrs_cells h
  exact ⟨⟨A, l, cap⟩, rfl, h3, ⟨fun i hi => (h4 i hi).1, fun i hi => (h4 i hi).2, le_max (Nat.le_trans h1 h2)⟩⟩
theorem strSl_cells (h : DataW.trod enc Tryd.prog w base sp held fuel 69 cs = some x) : ∃ s : Sl ByteArray, cs = [.slice s.A s.l.length s.cap] ∧ StrSlOK w s := by
  obtain ⟨A, l, ca, e, h1, h2, h3, h4⟩ := slice_cells (k := 1) (f := fun s : ByteArray => [.string s]) noStr (by omega) (fun _ => rfl) Tryd.underlying69 cells_str cells_str1 h
  refine ⟨⟨A, l, ca⟩, e, ⟨fun i hi => ?_, h4, le_max (Nat.le_trans h1 h2)⟩⟩
  obtain ⟨b, off, e, hc⟩ := h3 i hi
  exact ⟨b, off, e, by have := hc 0 _ rfl; simpa using this⟩
end
set_option maxRecDepth 100000 in
theorem open_wrsls {H : Type} {enc : TypeId × Value → H} {w : World} {b0 base : Nat} {sp : Nat → Bool} {held : Bool} {v : Value} {d : DataW H} {p : List MemPlace}
    (hv : Value.okWide Tryd.prog w .any b0 56 v) (h : DataW.Trod enc Tryd.prog w base sp held 56 v d p) :
    ∃ (A : Option Addr) (l : List (Sl Wr)) (ca : Nat), v = .slice A l.length ca ∧ SlsAt w A l ∧ (∀ i, i < l.length → WrSlOK w (l.getD i noSl)) ∧ l.length ≤ 9223372036854775807 := by
  obtain ⟨a0, len, cap, rfl⟩ := okWide_slice Tryd.underlying56 hv
  obtain ⟨fuel, hf⟩ := h
  obtain ⟨A, l, ca, e, h1, h2, h3, h4⟩ := slice_cells (k := 1) (f := fun s : Sl Wr => [.slice s.A s.l.length s.cap]) noSl (by omega) (fun _ => rfl) Tryd.underlying56 cells_wrs wrSl_cells hf
  have h5 := le_max (Nat.le_trans h1 h2)
  refine ⟨A, l, ca, by simpa [Value.cells] using e, fun i hi => ?_, h4, h5⟩
  obtain ⟨b, off, e, hc⟩ := h3 i hi
  exact ⟨b, off, e, by have := hc 0 _ rfl; simpa using this⟩
set_option maxRecDepth 100000 in
theorem open_strsls {H : Type} {enc : TypeId × Value → H} {w : World} {b0 base : Nat} {sp : Nat → Bool} {held : Bool} {v : Value} {d : DataW H} {p : List MemPlace}
    (hv : Value.okWide Tryd.prog w .any b0 65 v) (h : DataW.Trod enc Tryd.prog w base sp held 65 v d p) :
    ∃ (A : Option Addr) (l : List (Sl ByteArray)) (ca : Nat), v = .slice A l.length ca ∧ SlsAt w A l ∧ (∀ i, i < l.length → StrSlOK w (l.getD i noSl)) ∧ l.length ≤ 9223372036854775807 := by
  obtain ⟨a0, len, cap, rfl⟩ := okWide_slice Tryd.underlying65 hv
  obtain ⟨fuel, hf⟩ := h
  obtain ⟨A, l, ca, e, h1, h2, h3, h4⟩ := slice_cells (k := 1) (f := fun s : Sl ByteArray => [.slice s.A s.l.length s.cap]) noSl (by omega) (fun _ => rfl) Tryd.underlying65 cells_strs strSl_cells hf
  have h5 := le_max (Nat.le_trans h1 h2)
  refine ⟨A, l, ca, by simpa [Value.cells] using e, fun i hi => ?_, h4, h5⟩
  obtain ⟨b, off, e, hc⟩ := h3 i hi
  exact ⟨b, off, e, by have := hc 0 _ rfl; simpa using this⟩
set_option maxRecDepth 100000 in
theorem open_rds {H : Type} {enc : TypeId × Value → H} {w : World} {b0 base : Nat} {sp : Nat → Bool} {held : Bool} {v : Value} {d : DataW H} {p : List MemPlace}
    (hv : Value.okWide Tryd.prog w .any b0 57 v) (h : DataW.Trod enc Tryd.prog w base sp held 57 v d p) :
    ∃ (A : Option Addr) (l : List Rd) (ca : Nat), v = .slice A l.length ca ∧ RdsAt w A l ∧ (∀ i, i < l.length → (l.getD i noRd).key.size ≤ 9223372036854775807) ∧ l.length ≤ 9223372036854775807 := by
  obtain ⟨a0, len, cap, rfl⟩ := okWide_slice Tryd.underlying57 hv
  obtain ⟨fuel, hf⟩ := h
  obtain ⟨A, l, ca, e, h1, h2, h3, h4⟩ := slice_cells (k := 2) (f := fun r : Rd => [.string r.key, .int .u64 (r.ver : Int)]) noRd (by omega) (fun _ => rfl) Tryd.underlying57 cells_rd rd_cells hf
  have h5 := le_max (Nat.le_trans h1 h2)
  refine ⟨A, l, ca, by simpa [Value.cells] using e, fun i hi => ?_, fun i hi => (h4 i hi).1, h5⟩
  obtain ⟨b, off, e, hc⟩ := h3 i hi
  exact ⟨b, off, e, by have := hc 0 _ rfl; simpa using this, hc 1 _ rfl⟩
set_option maxRecDepth 100000 in
theorem open_wrsA {H : Type} {enc : TypeId × Value → H} {w : World} {b0 base : Nat} {sp : Nat → Bool} {held : Bool} {v : Value} {d : DataW H} {p : List MemPlace}
    (hv : Value.okWide Tryd.prog w .any b0 34 v) (h : DataW.Trod enc Tryd.prog w base sp held 34 v d p) :
    ∃ (A : Option Addr) (l : List Wr) (ca : Nat), v = .slice A l.length ca ∧ WrsAt w A l ∧ WrsOK l := by
  obtain ⟨a0, len, cap, rfl⟩ := okWide_slice Tryd.underlying34 hv
  obtain ⟨fuel, hf⟩ := h
  obtain ⟨A, l, ca, e, h1, h2, h3, h4⟩ := slice_cells (k := 4) (f := fun r : Wr => [.string r.key, .int .i64 r.val.kind, .int .u64 (r.val.bits : Int), .string r.val.text]) noWr (by omega) (fun _ => rfl) Tryd.underlying34 cells_wr wr_cells hf
  have h5 := le_max (Nat.le_trans h1 h2)
  refine ⟨A, l, ca, by simpa [Value.cells] using e, fun i hi => ?_, ⟨fun i hi => (h4 i hi).1, fun i hi => (h4 i hi).2, h5⟩⟩
  obtain ⟨b, off, e, hc⟩ := h3 i hi
  exact ⟨b, off, e, by have := hc 0 _ rfl; simpa using this, hc 1 _ rfl, hc 2 _ rfl, hc 3 _ rfl⟩
set_option maxRecDepth 100000 in
theorem open_strsA {H : Type} {enc : TypeId × Value → H} {w : World} {b0 base : Nat} {sp : Nat → Bool} {held : Bool} {v : Value} {d : DataW H} {p : List MemPlace}
    (hv : Value.okWide Tryd.prog w .any b0 69 v) (h : DataW.Trod enc Tryd.prog w base sp held 69 v d p) :
    ∃ (A : Option Addr) (l : List ByteArray) (ca : Nat), v = .slice A l.length ca ∧ StrsAt w A l ∧ (∀ i, i < l.length → (l.getD i noStr).size ≤ 9223372036854775807) ∧ l.length ≤ 9223372036854775807 := by
  obtain ⟨a0, len, cap, rfl⟩ := okWide_slice Tryd.underlying69 hv
  obtain ⟨fuel, hf⟩ := h
  obtain ⟨A, l, ca, e, h1, h2, h3, h4⟩ := slice_cells (k := 1) (f := fun s : ByteArray => [.string s]) noStr (by omega) (fun _ => rfl) Tryd.underlying69 cells_str cells_str1 hf
  have h5 := le_max (Nat.le_trans h1 h2)
  refine ⟨A, l, ca, by simpa [Value.cells] using e, fun i hi => ?_, h4, h5⟩
  obtain ⟨b, off, e, hc⟩ := h3 i hi
  exact ⟨b, off, e, by have := hc 0 _ rfl; simpa using this⟩
set_option maxRecDepth 100000 in
theorem open_u8sA {H : Type} {enc : TypeId × Value → H} {w : World} {b0 base : Nat} {sp : Nat → Bool} {held : Bool} {v : Value} {d : DataW H} {p : List MemPlace}
    (hv : Value.okWide Tryd.prog w .any b0 66 v) (h : DataW.Trod enc Tryd.prog w base sp held 66 v d p) :
    ∃ (A : Option Addr) (l : List Nat) (ca : Nat), v = .slice A l.length ca ∧ CellsAt w A l.length (fun i => .int .u8 ((l.getD i 0 : Nat) : Int)) ∧ (∀ i, i < l.length → l.getD i 0 < 256) ∧ l.length ≤ 9223372036854775807 := by
  obtain ⟨a0, len, cap, rfl⟩ := okWide_slice Tryd.underlying66 hv
  obtain ⟨fuel, hf⟩ := h
  obtain ⟨A, l, ca, e, h1, h2, h3, h4⟩ := slice_cells (k := 1) (f := fun n : Nat => [.int .u8 (n : Int)]) 0 (by omega) (fun _ => rfl) Tryd.underlying66 cells_u8 u8_cells hf
  have h5 := le_max (Nat.le_trans h1 h2)
  refine ⟨A, l, ca, by simpa [Value.cells] using e, fun i hi => ?_, h4, h5⟩
  obtain ⟨b, off, e, hc⟩ := h3 i hi
  exact ⟨b, off, e, by have := hc 0 _ rfl; simpa using this⟩
theorem tabs_of {laid : List (String × DataW Unit)} {w : World} (hp : (laid.all fun x => x.2.handleName?.isNone) = true) (h : laidMetH Tryd.prog laid w)
    (h1 : ("unicode/utf8.first", Rows.laid_unicode_utf8_first) ∈ laid) (h2 : ("unicode/utf8.acceptRanges", Rows.laid_unicode_utf8_acceptRanges) ∈ laid) : Tabs w := by
  rw [MakeChecks.laidMetH_plain _ _ _ hp] at h
  have r1 := Lib.laidMet.reads h h1
  have r2 := Lib.laidMet.reads h h2
  rw [show Rows.laid_unicode_utf8_first = Lib.firstData from Pinned.utf8First_eq] at r1
  exact utf8Tabs_of_readsT (U8Types.of196 Tryd.lays196) ⟨by kernel_rfl, by kernel_rfl, by kernel_rfl, by kernel_rfl, by kernel_rfl, by kernel_rfl, by kernel_rfl⟩ r1 r2
end Go.Proofs.YtboiafchmdflpaaDoor
