/- Reads in rows of the call's own. -/
import Derived.Test.YtboiafchmdflpaaDoorModel08
import Derived.Test.YtboiafchmdflpaaDoorRow
namespace Go.Proofs.YtboiafchmdflpaaDoor
open Go.RowKit Go.Shelf

def rdCells (l : List Rd) : List Value := l.flatMap fun x => [.string x.key, .int .u64 x.ver]
theorem rdCells_snoc (l : List Rd) (x : Rd) : rdCells (l ++ [x]) = rdCells l ++ [.string x.key, .int .u64 x.ver] := by simp [rdCells]
theorem rdCells_len : ∀ l : List Rd, (rdCells l).length = l.length * 2
  | [] => rfl
  | x :: l => by have := rdCells_len l; simp [rdCells] at *; omega
theorem rdCells_at : ∀ (l : List Rd) (i : Nat), i < l.length → (rdCells l)[i * 2]? = some (.string (l.getD i noRd).key) ∧ (rdCells l)[i * 2 + 1]? = some (.int .u64 (l.getD i noRd).ver)
  | [], i, h => by simp at h
  | x :: l, 0, _ => by simp [rdCells]
  | x :: l, i + 1, h => by
    have := rdCells_at l i (by simpa using h)
    rw [show (i + 1) * 2 = i * 2 + 2 by omega, show i * 2 + 2 + 1 = (i * 2 + 1) + 2 by omega]
    simpa [rdCells] using this
/-- What is owned, as reads, or as writes. -/
theorem own_rds {w : World} {base : Nat} {e : TypeId} {v : Value} {l : List Rd} (h : w.ownsRow base e 2 v l.length (rdCells l)) :
    ∃ (A : Option Addr) (cap : Nat), v = .slice A l.length cap ∧ l.length ≤ cap ∧ RdsAt w A l := by
  rcases h.2 with ⟨rfl, h0⟩ | ⟨g, cap, cur, rfl, hfr, hh, hn, _, _, ht⟩
  · exact ⟨none, 0, by rw [h0], by omega, fun i hi => by omega⟩
  · refine ⟨some ⟨g, 0, none⟩, cap, rfl, hn, fun i hi => ⟨g, 0, rfl, ?_⟩⟩
    have hc : ∀ j, j < l.length * 2 → w.cell? ⟨g, 0 + j, none⟩ = (rdCells l)[j]? := by
      intro j hj
      have h1 : (cur.toList.take (l.length * 2))[j]? = (rdCells l)[j]? := by rw [ht]
      rw [List.getElem?_take_of_lt (by omega)] at h1
      simp only [World.cell?, hh, Nat.zero_add, Option.isSome_none, Bool.false_eq_true, if_false]
      rw [← Array.getElem?_toList, h1]
    have := rdCells_at l i hi
    exact ⟨by rw [hc _ (by omega)]; exact this.1, by rw [Nat.add_assoc, hc _ (by omega)]; exact this.2⟩
end Go.Proofs.YtboiafchmdflpaaDoor
