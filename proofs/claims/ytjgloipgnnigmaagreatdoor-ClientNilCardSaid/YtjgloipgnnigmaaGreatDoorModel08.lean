/- Layers 4 and 8's data: values, reads, writes, transactions; how they lie in memory. -/
import Derived.Test.YtjgloipgnnigmaaGreatDoorNum01
import Derived.Lib.ValidU
namespace Go.Proofs.YtjgloipgnnigmaaGreatDoor
open Go.RowKit Go.Shelf

structure Val where
  kind : Int
  bits : Nat
  text : ByteArray
structure Rd where
  key : ByteArray
  ver : Nat
structure Wr where
  key : ByteArray
  val : Val
structure Tx where
  ses : Int
  seq : Int
  rds : List Rd
  wrs : List Wr
instance : Inhabited Rd := ⟨⟨noStr, 0⟩⟩
instance : Inhabited Wr := ⟨⟨noStr, ⟨0, 0, noStr⟩⟩⟩
def Val.cell (v : Val) : Value := .agg #[.int .i64 v.kind, .int .u64 v.bits, .string v.text]
def noRd : Rd := ⟨noStr, 0⟩
def noWr : Wr := ⟨noStr, ⟨0, 0, noStr⟩⟩

/-- A value's text is a string of Go's, its bits a word. -/
structure Val.Good (v : Val) : Prop where
  b : v.bits < 18446744073709551616
  t : v.text.size ≤ 9223372036854775807
  k0 : -9223372036854775808 ≤ v.kind
  k1 : v.kind ≤ 9223372036854775807

def formedV (v : Val) : Bool :=
  if v.kind = 0 then decide (v.bits = 0) && decide (v.text = noStr)
  else if v.kind = 1 then decide (v.text = noStr) && decide (canonN v.bits = v.bits)
  else decide (v.kind = 2) && decide (v.bits = 0) && decide (v.text.size ≤ 40) && Lib.validD v.text.data.toList

/-- Reads, and writes, that lie in memory. -/
def RdsAt (w : World) (A : Option Addr) (l : List Rd) : Prop :=
  ∀ i, i < l.length → ∃ b off, A = some ⟨b, off, none⟩ ∧ w.cell? ⟨b, off + i * 2, none⟩ = some (.string (l.getD i noRd).key) ∧ w.cell? ⟨b, off + i * 2 + 1, none⟩ = some (.int .u64 (l.getD i noRd).ver)
def WrsAt (w : World) (A : Option Addr) (l : List Wr) : Prop :=
  ∀ i, i < l.length → ∃ b off, A = some ⟨b, off, none⟩ ∧ w.cell? ⟨b, off + i * 4, none⟩ = some (.string (l.getD i noWr).key) ∧ w.cell? ⟨b, off + i * 4 + 1, none⟩ = some (.int .i64 (l.getD i noWr).val.kind) ∧
    w.cell? ⟨b, off + i * 4 + 2, none⟩ = some (.int .u64 (l.getD i noWr).val.bits) ∧ w.cell? ⟨b, off + i * 4 + 3, none⟩ = some (.string (l.getD i noWr).val.text)
theorem RdsAt.later {w w' : World} {A : Option Addr} {l : List Rd} (h : RdsAt w A l) (hb : Below w.heap.size w w') : RdsAt w' A l := by
  intro i hi
  obtain ⟨b, off, e, h0, h1⟩ := h i hi
  exact ⟨b, off, e, keep hb h0, keep hb h1⟩
theorem WrsAt.later {w w' : World} {A : Option Addr} {l : List Wr} (h : WrsAt w A l) (hb : Below w.heap.size w w') : WrsAt w' A l := by
  intro i hi
  obtain ⟨b, off, e, h0, h1, h2, h3⟩ := h i hi
  exact ⟨b, off, e, keep hb h0, keep hb h1, keep hb h2, keep hb h3⟩
theorem RdsAt.at' {w : World} {A : Option Addr} {l : List Rd} (h : RdsAt w A l) {k : Nat} (hk : k < l.length) :
    ∃ b off s n, A = some ⟨b, off, none⟩ ∧ w.cell? ⟨b, off + k * 2, none⟩ = some (.string s) ∧ w.cell? ⟨b, off + k * 2 + 1, none⟩ = some (.int .u64 (n : Nat)) ∧ Hid (l.getD k noRd = ⟨s, n⟩) := by
  obtain ⟨b, off, e, h0, h1⟩ := h k hk
  exact ⟨b, off, _, _, e, h0, h1, rfl⟩
theorem WrsAt.at' {w : World} {A : Option Addr} {l : List Wr} (h : WrsAt w A l) {k : Nat} (hk : k < l.length) :
    ∃ b off s z n t, A = some ⟨b, off, none⟩ ∧ w.cell? ⟨b, off + k * 4, none⟩ = some (.string s) ∧ w.cell? ⟨b, off + k * 4 + 1, none⟩ = some (.int .i64 z) ∧
      w.cell? ⟨b, off + k * 4 + 2, none⟩ = some (.int .u64 (n : Nat)) ∧ w.cell? ⟨b, off + k * 4 + 3, none⟩ = some (.string t) ∧ Hid (l.getD k noWr = ⟨s, ⟨z, n, t⟩⟩) := by
  obtain ⟨b, off, e, h0, h1, h2, h3⟩ := h k hk
  exact ⟨b, off, _, _, _, _, e, h0, h1, h2, h3, rfl⟩

structure TxAt (w : World) (t : Tx) (A B : Option Addr) : Prop where
  rds : RdsAt w A t.rds
  wrs : WrsAt w B t.wrs
  rk : ∀ k, k < t.rds.length → (t.rds.getD k noRd).key.size ≤ 9223372036854775807
  wk : ∀ k, k < t.wrs.length → (t.wrs.getD k noWr).key.size ≤ 9223372036854775807
  wv : ∀ k, k < t.wrs.length → (t.wrs.getD k noWr).val.Good
  rn : t.rds.length ≤ 9223372036854775807
  wn : t.wrs.length ≤ 9223372036854775807
theorem TxAt.later {w w' : World} {t : Tx} {A B : Option Addr} (h : TxAt w t A B) (hb : Below w.heap.size w w') : TxAt w' t A B :=
  ⟨h.rds.later hb, h.wrs.later hb, h.rk, h.wk, h.wv, h.rn, h.wn⟩

/-- A transaction's value: its id's two numbers, its two slices. -/
def txV (t : Tx) (A B : Option Addr) (ca cb : Nat) : Value := .agg #[.int .i64 t.ses, .int .i64 t.seq, .slice A t.rds.length ca, .slice B t.wrs.length cb]

theorem box3 (w : World) (u v x : Value) (t : TypeId) : ∃ W : World, w.alloc (.cells #[u, v, x] t) = W ∧ Below w.heap.size w W ∧ W.cell? ⟨w.heap.size, 0, none⟩ = some u ∧ W.cell? ⟨w.heap.size, 1, none⟩ = some v ∧ W.cell? ⟨w.heap.size, 2, none⟩ = some x :=
  ⟨_, rfl, below1 _ _, by simp, by simp, by simp⟩
theorem box4 (w : World) (u v x y : Value) (t : TypeId) : ∃ W : World, w.alloc (.cells #[u, v, x, y] t) = W ∧ Below w.heap.size w W ∧ W.cell? ⟨w.heap.size, 0, none⟩ = some u ∧ W.cell? ⟨w.heap.size, 1, none⟩ = some v ∧ W.cell? ⟨w.heap.size, 2, none⟩ = some x ∧ W.cell? ⟨w.heap.size, 3, none⟩ = some y :=
  ⟨_, rfl, below1 _ _, by simp, by simp, by simp, by simp⟩
end Go.Proofs.YtjgloipgnnigmaaGreatDoor
