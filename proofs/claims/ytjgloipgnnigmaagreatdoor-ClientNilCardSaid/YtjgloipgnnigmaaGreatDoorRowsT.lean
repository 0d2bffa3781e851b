/- Rows of reads, and of writes, cell by cell. -/
import Derived.Test.YtjgloipgnnigmaaGreatDoorModel08
import Derived.Test.YtjgloipgnnigmaaGreatDoorRow
namespace Go.Proofs.YtjgloipgnnigmaaGreatDoor
open Go.RowKit

def rdCells (l : List Rd) : List Value := l.flatMap fun x => [.string x.key, .int .u64 x.ver]
def wrCells (l : List Wr) : List Value := l.flatMap fun x => [.string x.key, .int .i64 x.val.kind, .int .u64 x.val.bits, .string x.val.text]
theorem rdCells_snoc (l : List Rd) (x : Rd) : rdCells (l ++ [x]) = rdCells l ++ [.string x.key, .int .u64 x.ver] := by simp [rdCells]
theorem wrCells_snoc (l : List Wr) (x : Wr) : wrCells (l ++ [x]) = wrCells l ++ [.string x.key, .int .i64 x.val.kind, .int .u64 x.val.bits, .string x.val.text] := by simp [wrCells]
theorem rdCells_append (l m : List Rd) : rdCells (l ++ m) = rdCells l ++ rdCells m := by simp [rdCells]
theorem wrCells_append (l m : List Wr) : wrCells (l ++ m) = wrCells l ++ wrCells m := by simp [wrCells]
theorem rdCells_len : ∀ l : List Rd, (rdCells l).length = l.length * 2
  | [] => rfl
  | x :: l => by have := rdCells_len l; simp [rdCells] at *; omega
theorem wrCells_len : ∀ l : List Wr, (wrCells l).length = l.length * 4
  | [] => rfl
  | x :: l => by have := wrCells_len l; simp [wrCells] at *; omega
theorem rdCells_at : ∀ (l : List Rd) (i : Nat), i < l.length → (rdCells l)[i * 2]? = some (.string (l.getD i noRd).key) ∧ (rdCells l)[i * 2 + 1]? = some (.int .u64 (l.getD i noRd).ver)
  | [], i, h => by simp at h
  | x :: l, 0, _ => by simp [rdCells]
  | x :: l, i + 1, h => by
    have := rdCells_at l i (by simpa using h)
    rw [show (i + 1) * 2 = i * 2 + 2 by omega, show i * 2 + 2 + 1 = (i * 2 + 1) + 2 by omega]
    simpa [rdCells] using this
theorem wrCells_at : ∀ (l : List Wr) (i : Nat), i < l.length → (wrCells l)[i * 4]? = some (.string (l.getD i noWr).key) ∧ (wrCells l)[i * 4 + 1]? = some (.int .i64 (l.getD i noWr).val.kind) ∧ (wrCells l)[i * 4 + 2]? = some (.int .u64 (l.getD i noWr).val.bits) ∧ (wrCells l)[i * 4 + 3]? = some (.string (l.getD i noWr).val.text)
  | [], i, h => by simp at h
  | x :: l, 0, _ => by simp [wrCells]
  | x :: l, i + 1, h => by
    have := wrCells_at l i (by simpa using h)
    rw [show (i + 1) * 4 = i * 4 + 4 by omega, show i * 4 + 4 + 1 = (i * 4 + 1) + 4 by omega, show i * 4 + 4 + 2 = (i * 4 + 2) + 4 by omega, show i * 4 + 4 + 3 = (i * 4 + 3) + 4 by omega]
    simpa [wrCells] using this

/-- A slice's block is none that was there. -/
def FreshP (B : Nat) (A : Option Addr) : Prop := ∀ a, A = some a → B ≤ a.block
/-- What is owned, as reads, or as writes. -/
theorem own_rds {w : World} {base : Nat} {e : TypeId} {v : Value} {l : List Rd} (h : w.ownsRow base e 2 v l.length (rdCells l)) :
    ∃ (A : Option Addr) (cap : Nat), v = .slice A l.length cap ∧ l.length ≤ cap ∧ RdsAt w A l ∧ FreshP base A := by
  rcases h.2 with ⟨rfl, h0⟩ | ⟨g, cap, cur, rfl, hfr, hh, hn, _, _, ht⟩
  · exact ⟨none, 0, by rw [h0], by omega, fun i hi => by omega, fun a e => by cases e⟩
  · refine ⟨some ⟨g, 0, none⟩, cap, rfl, hn, fun i hi => ⟨g, 0, rfl, ?_⟩, fun a e => by cases e; exact hfr⟩
    have hc : ∀ j, j < l.length * 2 → w.cell? ⟨g, 0 + j, none⟩ = (rdCells l)[j]? := by
      intro j hj
      have h1 : (cur.toList.take (l.length * 2))[j]? = (rdCells l)[j]? := by rw [ht]
      rw [List.getElem?_take_of_lt (by omega)] at h1
      simp only [World.cell?, hh, Nat.zero_add, Option.isSome_none, Bool.false_eq_true, if_false]
      rw [← Array.getElem?_toList, h1]
    have := rdCells_at l i hi
    exact ⟨by rw [hc _ (by omega)]; exact this.1, by rw [Nat.add_assoc, hc _ (by omega)]; exact this.2⟩
theorem own_wrs {w : World} {base : Nat} {e : TypeId} {v : Value} {l : List Wr} (h : w.ownsRow base e 4 v l.length (wrCells l)) :
    ∃ (A : Option Addr) (cap : Nat), v = .slice A l.length cap ∧ l.length ≤ cap ∧ WrsAt w A l ∧ FreshP base A := by
  rcases h.2 with ⟨rfl, h0⟩ | ⟨g, cap, cur, rfl, hfr, hh, hn, _, _, ht⟩
  · exact ⟨none, 0, by rw [h0], by omega, fun i hi => by omega, fun a e => by cases e⟩
  · refine ⟨some ⟨g, 0, none⟩, cap, rfl, hn, fun i hi => ⟨g, 0, rfl, ?_⟩, fun a e => by cases e; exact hfr⟩
    have hc : ∀ j, j < l.length * 4 → w.cell? ⟨g, 0 + j, none⟩ = (wrCells l)[j]? := by
      intro j hj
      have h1 : (cur.toList.take (l.length * 4))[j]? = (wrCells l)[j]? := by rw [ht]
      rw [List.getElem?_take_of_lt (by omega)] at h1
      simp only [World.cell?, hh, Nat.zero_add, Option.isSome_none, Bool.false_eq_true, if_false]
      rw [← Array.getElem?_toList, h1]
    have := wrCells_at l i hi
    exact ⟨by rw [hc _ (by omega)]; exact this.1, by rw [Nat.add_assoc, hc _ (by omega)]; exact this.2.1, by rw [Nat.add_assoc, hc _ (by omega)]; exact this.2.2.1, by rw [Nat.add_assoc, hc _ (by omega)]; exact this.2.2.2⟩
end Go.Proofs.YtjgloipgnnigmaaGreatDoor
