/- slices.Sort and slices.Compact at []int, in the words of a slice that the call owns. -/
import Derived.Test.YtjgloipgnnigmaaGreatDoorOwn
import Derived.Test.YtjgloipgnnigmaaGreatDoorShelfB
import Derived.Sort.OwnSortedInts
namespace Go.Proofs.YtjgloipgnnigmaaGreatDoor
open Go.RowKit Go.Sort

def sorted (l : List Int) : List Int := l.mergeSort fun x y => decide (x ≤ y)
theorem sorted_length (l : List Int) : (sorted l).length = l.length := by simp [sorted]

/-- slices.Sort of a slice that is owned: it owns the sorted list. -/
theorem sort_own (base : Nat) (v : Value) (l : List Int) (w : World) (h : w.ownsRow base 3 1 v l.length (l.map (Value.int .i64))) (hl : l.length ≤ 1000000) :
    Calls Tryz.prog 88 #[v] w fun e w' => e = .returned (.tuple #[]) ∧ w'.ownsRow base 3 1 v (sorted l).length ((sorted l).map (Value.int .i64)) ∧ w.grownBy w' v.ownBlock := by
  rcases h.2 with ⟨rfl, h0⟩ | ⟨g, cap, cur, rfl, hbase, hb, h1, h2, h3, h4⟩
  · have hl0 : l = [] := List.eq_nil_of_length_eq_zero h0
    subst hl0
    refine (Tryz.slices_Sort_int_none none 0 w).mono ?_
    rintro e w' ⟨rfl, rfl⟩
    have e0 : sorted [] = [] := by simp [sorted]
    rw [e0]
    exact ⟨rfl, own_nil _ _ _ _, World.grownBy.refl _ _⟩
  · have hH := holds_of_blockI hb (by simpa using h4)
    refine (Tryz.slices_Sort_int g 0 cap l w hH (Array.getElem?_eq_some_iff.1 hb).1 (by omega)).mono ?_
    rintro e w' ⟨rfl, n, os, rfl⟩
    refine ⟨rfl, ?_, grownBy_sortedI _⟩
    have := ownsRow_sortedI (n := n) (os := os) (ss := l) (ts := sorted l) (by simp [sorted]) hbase hb h1 h2 h3
    rw [sorted_length]
    exact this

/-- slices.Compact of a slice that is owned: the slice that it hands back owns the compact list. -/
theorem compact_own (base : Nat) (v : Value) (l : List Int) (w : World) (h : w.ownsRow base 3 1 v l.length (l.map (Value.int .i64))) (hl : l.length ≤ 1000000) :
    Calls Tryz.prog 89 #[v] w fun e w' => (∃ v', e = .returned v' ∧ w'.ownsRow base 3 1 v' (Lib.compact l).length ((Lib.compact l).map (Value.int .i64))) ∧ w.grownBy w' v.ownBlock := by
  rcases h.2 with ⟨rfl, h0⟩ | ⟨g, cap, cur, rfl, hbase, hb, h1, h2, h3, h4⟩
  · have hl0 : l = [] := List.eq_nil_of_length_eq_zero h0
    subst hl0
    refine (Tryz.slices_Compact_int_empty none 0 w).mono ?_
    rintro e w' ⟨rfl, rfl⟩
    exact ⟨⟨_, rfl, own_nil _ _ _ _⟩, World.grownBy.refl _ _⟩
  · have hH := holds_of_blockI hb (by simpa using h4)
    have hle : (Lib.compact l).length ≤ l.length := by
      have := List.length_filter_le (Lib.keeps l.toArray) (List.range l.length)
      simpa [Lib.compact, Lib.compactUpTo] using this
    refine (Tryz.slices_Compact_int g 0 cap l w hH (by omega) h1).mono ?_
    rintro e w' ⟨rfl, q, rfl⟩
    have hg := grownBy_sortedI (w := w) (g := g) (n := q) (os := #[]) (Lib.compact l ++ List.replicate (l.length - (Lib.compact l).length) 0).toArray
    have ho := ownsRow_sortedI (n := q) (os := #[]) (ss := l) (ts := Lib.compact l ++ List.replicate (l.length - (Lib.compact l).length) 0) (by simp; omega) hbase hb h1 h2 h3
    rw [grow_empty] at hg ho
    refine ⟨⟨_, rfl, ?_⟩, hg⟩
    obtain ⟨q1, q2⟩ := ho
    refine ⟨by simp, ?_⟩
    rcases q2 with ⟨e, _⟩ | ⟨g', cap', cur', e, hbase', hb', hn', hc', hz', ht'⟩
    · cases e
    · cases e
      refine .inr ⟨g, cap, cur', rfl, hbase', hb', by omega, hc', hz', ?_⟩
      have : cur'.toList.take (Lib.compact l).length = (cur'.toList.take (l.length * 1)).take (Lib.compact l).length := by
        rw [List.take_take, show min (Lib.compact l).length (l.length * 1) = (Lib.compact l).length from by omega]
      rw [Nat.mul_one, this, ht']
      simp
end Go.Proofs.YtjgloipgnnigmaaGreatDoor
