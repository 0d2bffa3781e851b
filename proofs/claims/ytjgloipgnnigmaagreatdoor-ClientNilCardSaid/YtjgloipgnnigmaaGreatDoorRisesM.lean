/- Rising keys, in plain Lean. -/
import Derived.Test.YtjgloipgnnigmaaGreatDoorModel07
namespace Go.Proofs.YtjgloipgnnigmaaGreatDoor

theorem risesTo_at {l : List ByteArray} : ∀ {n k : Nat}, risesTo l n = true → k < n → riseAt l k = true
  | 0, _, _, h => by omega
  | n + 1, k, h, hk => by
    simp only [risesTo, Bool.and_eq_true] at h
    by_cases e : k = n
    · subst e; exact h.2
    · exact risesTo_at h.1 (by omega)
theorem rises_lt {l : List ByteArray} {n : Nat} (h : risesTo l n = true) : ∀ (d i : Nat), i + d + 1 < n → lessS (l.getD i noStr) (l.getD (i + d + 1) noStr) = true
  | 0, i, hi => by
    have := risesTo_at h (k := i + 1) hi
    simp only [riseAt, Bool.and_eq_true, Bool.or_eq_true, beq_iff_eq] at this
    rcases this.2 with e | e
    · omega
    · simpa using e
  | d + 1, i, hi => by
    have h1 := rises_lt h d i (by omega)
    have h2 := rises_lt h 0 (i + d + 1) (by omega)
    exact lessS_trans h1 h2
theorem rises_mono {l : List ByteArray} {n i j : Nat} (h : risesTo l n = true) (hij : i < j) (hj : j < n) : lessS (l.getD i noStr) (l.getD j noStr) = true := by
  have := rises_lt h (j - i - 1) i (by omega)
  rw [show i + (j - i - 1) + 1 = j from by omega] at this
  exact this
theorem rises_key {l : List ByteArray} {n i : Nat} (h : risesTo l n = true) (hi : i < n) : keyB (l.getD i noStr) = true := by
  have := risesTo_at h hi
  simp only [riseAt, Bool.and_eq_true] at this
  exact this.1
end Go.Proofs.YtjgloipgnnigmaaGreatDoor
