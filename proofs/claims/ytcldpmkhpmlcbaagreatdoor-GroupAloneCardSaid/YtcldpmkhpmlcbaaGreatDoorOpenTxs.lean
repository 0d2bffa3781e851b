/- Transactions that came in, opened. -/
import Derived.Test.YtcldpmkhpmlcbaaGreatDoorJ23
set_option linter.unusedVariables false
set_option linter.unusedSimpArgs false
namespace Go.Proofs.YtcldpmkhpmlcbaaGreatDoor
open Go.ChangeShapes Go.WideShapes Go.ChangeAt Go.RowKit Go.Joins Go.Deep

/-- A transaction, and where its rows lie. -/
structure TxV where
  t : Tx
  A : Option Addr
  B : Option Addr
  ca : Nat
  cb : Nat
def TxV.vs (x : TxV) : List Value := [.int .i64 x.t.ses, .int .i64 x.t.seq, .slice x.A x.t.rds.length x.ca, .slice x.B x.t.wrs.length x.cb]
def noTxV : TxV := ⟨⟨0, 0, [], []⟩, none, none, 0, 0⟩
instance : Inhabited TxV := ⟨noTxV⟩
def TxsAt (w : World) (S : Option Addr) (l : List TxV) : Prop :=
  ∀ i, i < l.length → ∃ b off, S = some ⟨b, off, none⟩ ∧ (∀ j v, (l.getD i noTxV).vs[j]? = some v → w.cell? ⟨b, off + i * 4 + j, none⟩ = some v) ∧ TxAt w (l.getD i noTxV).t (l.getD i noTxV).A (l.getD i noTxV).B
theorem TxsAt.later {w w' : World} {S : Option Addr} {l : List TxV} (h : TxsAt w S l) (hb : Below w.heap.size w w') : TxsAt w' S l := fun i hi => by
  obtain ⟨b, off, e, h0, h1⟩ := h i hi
  exact ⟨b, off, e, fun j v hj => keep hb (h0 j v hj), h1.later hb⟩
theorem TxsAt.at' {w : World} {S : Option Addr} {l : List TxV} (h : TxsAt w S l) {k : Nat} (hk : k < l.length) : ∃ b off a, S = some ⟨b, off, none⟩ ∧ w.cell? ⟨b, off + k * 4, none⟩ = some (.int .i64 a.t.ses) ∧ w.cell? ⟨b, off + k * 4 + 1, none⟩ = some (.int .i64 a.t.seq) ∧ w.cell? ⟨b, off + k * 4 + 2, none⟩ = some (.slice a.A a.t.rds.length a.ca) ∧ w.cell? ⟨b, off + k * 4 + 3, none⟩ = some (.slice a.B a.t.wrs.length a.cb) ∧ TxAt w a.t a.A a.B ∧ Hid (l.getD k noTxV = a) := by
  obtain ⟨b, off, e, h0, h1⟩ := h k hk
  exact ⟨b, off, _, e, h0 0 _ rfl, h0 1 _ rfl, h0 2 _ rfl, h0 3 _ rfl, h1, rfl⟩
set_option maxRecDepth 100000 in
theorem open_txns {H : Type} {enc : TypeId × Value → H} {w : World} {b0 base : Nat} {sp : Nat → Bool} {held : Bool} {v : Value} {d : DataW H} {p : List MemPlace}
    (hv : Value.okWide Tryz.prog w .any b0 47 v) (h : DataW.Trod enc Tryz.prog w base sp held 47 v d p) :
    ∃ (S : Option Addr) (l : List TxV) (cs : Nat), v = .slice S l.length cs ∧ TxsAt w S l ∧ l.length ≤ 9223372036854775807 := by
  obtain ⟨a0, len, cap, rfl⟩ := okWide_slice Tryz.underlying47 hv
  obtain ⟨fuel, hf⟩ := h
  obtain ⟨A, l, ca, e, h1, h2, h3, h4⟩ := slice_cells (k := 4) (f := fun o : TxV => o.vs) (q := fun o => TxAt w o.t o.A o.B) noTxV (by omega) (fun _ => rfl) Tryz.underlying47 cells_txn (fun h => by
    obtain ⟨t, A, B, ca, cb, e, hT, _⟩ := txn_cells h
    exact ⟨⟨t, A, B, ca, cb⟩, e, hT⟩) hf
  have h5 := le_max (Nat.le_trans h1 h2)
  refine ⟨A, l, ca, by simpa [Value.cells] using e, fun i hi => ?_, h5⟩
  obtain ⟨b, off, e, hc⟩ := h3 i hi
  exact ⟨b, off, e, hc, h4 i hi⟩
end Go.Proofs.YtcldpmkhpmlcbaaGreatDoor
