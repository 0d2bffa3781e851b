/- Slices of slices that came in. -/
import Derived.Test.YtboiafchmdflpaaDoorFew14
namespace Go.Proofs.YtboiafchmdflpaaDoor
open Go.RowKit Go.Shelf

/-- A slice that came in: its address, its elements, its capacity. -/
structure Sl (α : Type) where
  A : Option Addr
  l : List α
  cap : Nat
instance {α : Type} : Inhabited (Sl α) := ⟨⟨none, [], 0⟩⟩
def noSl {α : Type} : Sl α := ⟨none, [], 0⟩
def SlsAt {α : Type} (w : World) (A : Option Addr) (ls : List (Sl α)) : Prop := CellsAt w A ls.length fun i => .slice (ls.getD i noSl).A (ls.getD i noSl).l.length (ls.getD i noSl).cap
theorem SlsAt.at' {α : Type} {w : World} {A : Option Addr} {ls : List (Sl α)} (h : SlsAt w A ls) {k : Nat} (hk : k < ls.length) :
    ∃ b off s, A = some ⟨b, off, none⟩ ∧ w.cell? ⟨b, off + k, none⟩ = some (.slice s.A s.l.length s.cap) ∧ Hid (ls.getD k noSl = s) := by
  obtain ⟨b, off, e, h0⟩ := h k hk
  exact ⟨b, off, _, e, h0, rfl⟩
structure WrSlOK (w : World) (s : Sl Wr) : Prop where
  at_ : WrsAt w s.A s.l
  ok : WrsOK s.l
structure StrSlOK (w : World) (s : Sl ByteArray) : Prop where
  at_ : StrsAt w s.A s.l
  k : ∀ i, i < s.l.length → (s.l.getD i noStr).size ≤ 9223372036854775807
  n : s.l.length ≤ 9223372036854775807
end Go.Proofs.YtboiafchmdflpaaDoor
