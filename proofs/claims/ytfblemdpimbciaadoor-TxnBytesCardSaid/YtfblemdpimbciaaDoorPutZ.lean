/- Contracts of code.Put and value.Put and their references', said for a caller. -/
import Derived.Test.YtfblemdpimbciaaDoorPut04
namespace Go.Proofs.YtfblemdpimbciaaDoor
open Go.RowKit Go.Shelf

theorem put02z (l : List UInt8) (x n : Nat) (xz nz : Int) (hx : xz = x) (hz : nz = n) (A : Option Addr) (ca : Nat) (w : World) (hA : BysAt w A l) (hn : l.length ≤ 900000) (hn8 : n ≤ 8) :
    Calls Tryd.prog 37 #[.slice A l.length ca, .int .u64 xz, .int .i64 nz] w (OwnBys w (l ++ beL x n)) := by
  subst hx hz
  exact put02_any l x n A ca w hA hn hn8
theorem OwnBys.at_ {w : World} {l : List UInt8} {e : Ending} {w' : World} (h : OwnBys w l e w') : ∃ A ca, e = .returned (.slice A l.length ca) ∧ BysAt w' A l ∧ Below w.heap.size w w' := by
  obtain ⟨v, rfl, ho, hb⟩ := h
  obtain ⟨A, ca, rfl, _, hA⟩ := own_bys ho
  exact ⟨A, ca, rfl, hA, hb⟩
theorem bys_nil (w : World) : BysAt w none [] := fun i hi => by simp at hi
theorem formed_text {v : Val} (h : formedV v = true) : v.text.size ≤ 9223372036854775807 := by
  unfold formedV at h
  split at h
  · simp only [Bool.and_eq_true, decide_eq_true_eq] at h
    rw [h.2]; decide
  · split at h
    · simp only [Bool.and_eq_true, decide_eq_true_eq] at h
      rw [h.1]; decide
    · simp only [Bool.and_eq_true, decide_eq_true_eq] at h
      have := h.1.2
      omega
theorem put04t (l : List UInt8) (k : Int) (n : Nat) (t : ByteArray) (ht : t.size ≤ 9223372036854775807) (A : Option Addr) (ca : Nat) (w : World) (hA : BysAt w A l) (hT : Tabs w) (hn : l.length ≤ 700100) :
    Calls Tryd.prog 39 #[.slice A l.length ca, .agg #[.int .i64 k, .int .u64 n, .string t]] w (OwnBys w (l ++ putV ⟨k, n, t⟩)) := put04_any l ⟨k, n, t⟩ ht A ca w hA hT hn
theorem refPut02z (l : List UInt8) (x n : Nat) (xz nz : Int) (hx : xz = x) (hz : nz = n) (A : Option Addr) (ca : Nat) (w : World) (hA : BysAt w A l) (hn : l.length ≤ 900000) (hn8 : n ≤ 8) :
    Calls Tryd.prog 48 #[.slice A l.length ca, .int .u64 xz, .int .i64 nz] w (OwnBys w (l ++ beL x n)) := by
  subst hx hz
  exact refPut02_any l x n A ca w hA hn hn8
theorem good_of {v : Val} (h : formedV v = true) (hb : v.bits < 18446744073709551616) : v.Good := by
  have hk : v.kind = 0 ∨ v.kind = 1 ∨ v.kind = 2 := by
    rcases formedV_kinds h with q | q | q
    · exact .inl q
    · exact .inr (.inl q)
    · exact .inr (.inr q.1)
  exact ⟨hb, formed_text h, by omega, by omega⟩
end Go.Proofs.YtfblemdpimbciaaDoor
