/- Two slices and a row of four marks that a call of its own makes: what an append, a store and a call leave of them. -/
import Derived.Test.YthpdladfcjcjiaaDoorGroupsM07
namespace Go.Proofs.YthpdladfcjcjiaaDoor
open Go.RowKit

theorem own_kept {w w' : World} {base n size : Nat} {e : TypeId} {v : Value} {xs : List Value} {row : Option Nat} (h : w.ownsRow base e size v n xs) (hg : w.grownBy w' row) (hne : ∀ g, v.ownBlock = some g → some g ≠ row) : w'.ownsRow base e size v n xs := by
  refine ⟨h.1, ?_⟩
  rcases h.2 with h2 | ⟨g, cap, cur, rfl, hb, hh, r⟩
  · exact .inl h2
  · refine .inr ⟨g, cap, cur, rfl, hb, ?_, r⟩
    rw [hg.block g (Array.getElem?_eq_some_iff.1 hh).1 (hne g rfl)]
    exact hh
theorem own_lt {w : World} {base n size : Nat} {e : TypeId} {v : Value} {xs : List Value} (h : w.ownsRow base e size v n xs) : ∀ g, v.ownBlock = some g → g < w.heap.size := by
  rcases h.2 with ⟨rfl, _⟩ | ⟨g, cap, cur, rfl, _, hh, _⟩
  · intro k hk; cases hk
  · intro k hk
    simp [Value.ownBlock] at hk
    subst hk
    exact (Array.getElem?_eq_some_iff.1 hh).1

structure GL (w0 : World) (T : TypeId) (v : Value) (l1 : List ByteArray) (u : Value) (l2 : List ByteArray) (f : Nat → Bool) (w : World) : Prop where
  own : w.ownsRow (w0.heap.size + 1) T 1 v l1.length (l1.map Value.string)
  turned : w.ownsRow (w0.heap.size + 1) T 1 u l2.length (l2.map Value.string)
  apart : ∀ g, v.ownBlock = some g → u.ownBlock ≠ some g
  below : Below w0.heap.size w0 w
  has : ∀ j, j < 4 → w.cell? ⟨w0.heap.size, j, none⟩ = some (.bool (f j))
  free : ∀ j, w.frozen? ⟨w0.heap.size, j, none⟩ = false
  big : w0.heap.size < w.heap.size

section
variable {w0 w w' : World} {T : TypeId} {v u v' : Value} {l1 l2 : List ByteArray} {f : Nat → Bool} {x : ByteArray}

theorem GL.later (h : GL w0 T v l1 u l2 f w) (hb : Below w.heap.size w w') : GL w0 T v l1 u l2 f w' :=
  ⟨own_keep h.own hb, own_keep h.turned hb, h.apart, keepB h.below hb, fun j hj => keep hb (h.has j hj), fun j => by rw [hb.frozen (p := ⟨w0.heap.size, j, none⟩) h.big]; exact h.free j, Nat.lt_of_lt_of_le h.big hb.size⟩
theorem GL.alloc (h : GL w0 T v l1 u l2 f w) (o : Obj) : GL w0 T v l1 u l2 f (w.alloc o) := h.later (below1 w o)

theorem GL.app1 (h : GL w0 T v l1 u l2 f w) (ho : w'.ownsRow (w0.heap.size + 1) T 1 v' (l1.length + 1) (l1.map Value.string ++ [.string x])) (hg : w.grownBy w' v.ownBlock)
    (hv : v'.ownBlock = v.ownBlock ∨ v'.ownBlock = some w.heap.size) : GL w0 T v' (l1 ++ [x]) u l2 f w' := by
  have hblk : w'.heap[w0.heap.size]? = w.heap[w0.heap.size]? := hg.block _ h.big (fun e => by have := own_ge h.own _ e.symm; omega)
  refine ⟨by simpa using ho, own_kept h.turned hg (fun g hu e => h.apart g e.symm hu), fun g hg' hu => ?_, own_below h.below (Nat.le_refl _) (base := w0.heap.size) (w := w) (v := v) (n := l1.length) (xs := l1.map Value.string) (e := T) (size := 1) ?_ hg, fun j hj => ?_, fun j => ?_, Nat.lt_of_lt_of_le h.big hg.size⟩
  · rcases hv with e | e
    · exact h.apart g (by rw [← e]; exact hg') hu
    · rw [e] at hg'
      cases hg'
      exact Nat.lt_irrefl _ (own_lt h.turned _ hu)
  · obtain ⟨q1, q2⟩ := h.own
    refine ⟨q1, ?_⟩
    rcases q2 with q2 | ⟨g, cap, cur, e, hb, r⟩
    · exact .inl q2
    · exact .inr ⟨g, cap, cur, e, by omega, r⟩
  · rw [World.cell?_of_block (w := w) (a := ⟨w0.heap.size, j, none⟩) hblk]; exact h.has j hj
  · rw [World.frozen?_of_block (w := w) (a := ⟨w0.heap.size, j, none⟩) hblk]; exact h.free j
theorem GL.swap (h : GL w0 T v l1 u l2 f w) : GL w0 T u l2 v l1 f w :=
  ⟨h.turned, h.own, fun g hu hv => h.apart g hv hu, h.below, h.has, h.free, h.big⟩
theorem GL.set (h : GL w0 T v l1 u l2 f w) {g : Nat} (f' : Nat → Bool) (h1 : f' g = true) (h2 : ∀ j, j ≠ g → f' j = f j) (hg : g < 4) : GL w0 T v l1 u l2 f' (w.setCell ⟨w0.heap.size, g, none⟩ (.bool true)) := by
  refine ⟨ownsRow_setCell_below h.own (by simp) _, ownsRow_setCell_below h.turned (by simp) _, h.apart, h.below.setCell (Nat.le_refl _) _, fun j hj => ?_, fun j => ?_, by simpa [World.setCell] using h.big⟩
  · by_cases e : j = g
    · subst e
      rw [h1]
      exact World.cell?_setCell_same w _ _ (h.has j hj)
    · rw [h2 j e, World.cell?_setCell_other w _ _ _ (by intro q; cases q; exact e rfl)]
      exact h.has j hj
  · rw [World.frozen?_setCell]; exact h.free j
theorem GL.start (w0 : World) (T t : TypeId) : GL w0 T (.slice none 0 0) [] (.slice none 0 0) [] (fun _ => false) (w0.alloc (.cells #[.bool false, .bool false, .bool false, .bool false] t)) := by
  refine ⟨own_nil _ _ _ _, own_nil _ _ _ _, (fun g hg => by cases hg), below1 _ _, fun j hj => ?_, fun j => World.frozen?_alloc_new w0 _ _ j, by simp⟩
  rw [World.cell?_alloc_new]
  match j, hj with
  | 0, _ => rfl
  | 1, _ => rfl
  | 2, _ => rfl
  | 3, _ => rfl
end

/-! ### Plain: the keys turned -/
def turnedTo (keys : List ByteArray) (b k : Nat) : List ByteArray := (List.range k).map fun i => keys.getD ((i + b) % keys.length) noStr
theorem turnedTo_succ (keys : List ByteArray) (b k : Nat) : turnedTo keys b (k + 1) = turnedTo keys b k ++ [keys.getD ((k + b) % keys.length) noStr] := by
  simp [turnedTo, List.range_succ]
theorem turnedTo_length (keys : List ByteArray) (b k : Nat) : (turnedTo keys b k).length = k := by simp [turnedTo]
theorem mem_turned (keys : List ByteArray) (b : Nat) (x : ByteArray) : x ∈ turnedTo keys b keys.length ↔ x ∈ keys := by
  unfold turnedTo
  rw [List.mem_map]
  constructor
  · rintro ⟨i, hi, rfl⟩
    have hi : i < keys.length := List.mem_range.1 hi
    have : (i + b) % keys.length < keys.length := Nat.mod_lt _ (by omega)
    rw [List.getD_eq_getElem?_getD, List.getElem?_eq_getElem this]
    exact List.getElem_mem _
  · intro hx
    obtain ⟨j, hj, rfl⟩ := List.mem_iff_getElem.1 hx
    refine ⟨(j + (keys.length - b % keys.length)) % keys.length, List.mem_range.2 (Nat.mod_lt _ (by omega)), ?_⟩
    have e : ((j + (keys.length - b % keys.length)) % keys.length + b) % keys.length = j := by
      have hb : b % keys.length < keys.length := Nat.mod_lt _ (by omega)
      rw [Nat.mod_add_mod]
      have : j + (keys.length - b % keys.length) + b = j + keys.length * (1 + b / keys.length) := by
        have := Nat.div_add_mod b keys.length
        rw [Nat.mul_add, Nat.mul_one]
        omega
      rw [this, Nat.add_mul_mod_self_left]
      exact Nat.mod_eq_of_lt hj
    rw [e, List.getD_eq_getElem?_getD, List.getElem?_eq_getElem hj]
    rfl
theorem touchB_mem {k1 k2 : List ByteArray} (c : Cfg) (h : ∀ s, s ∈ k1 ↔ s ∈ k2) (g : Nat) : touchB c k1 g = touchB c k2 g := by
  unfold touchB
  rw [Bool.eq_iff_iff, List.any_eq_true, List.any_eq_true]
  constructor
  · rintro ⟨s, hs, e⟩; exact ⟨s, (h s).1 hs, e⟩
  · rintro ⟨s, hs, e⟩; exact ⟨s, (h s).2 hs, e⟩
theorem groupsL_mem {k1 k2 : List ByteArray} (c : Cfg) (h : ∀ s, s ∈ k1 ↔ s ∈ k2) : groupsL c k1 = groupsL c k2 := by
  have e : touchB c k1 = touchB c k2 := funext (touchB_mem c h)
  unfold groupsL groupsTo
  rw [e]
/-- Up to four groups: no further one has a key. -/
theorem groupsTo_four {c : Cfg} (h : formedB c = true) (keys : List ByteArray) : groupsTo c keys 4 = groupsL c keys := by
  have e : groupsL c keys = groupsTo c keys c.reps.length := by simp [groupsL, h]
  rw [e]
  refine rising_ext (groupsTo_rises c keys 4).1 (groupsTo_rises c keys _).1 (fun x => ?_)
  rw [(groupsTo_rises c keys 4).2, (groupsTo_rises c keys _).2]
  have hl := (formed_len h).2.1
  constructor
  · rintro ⟨g, hg, ht, rfl⟩
    refine ⟨g, ?_, ht, rfl⟩
    unfold touchB at ht
    rw [List.any_eq_true] at ht
    obtain ⟨s, _, es⟩ := ht
    have := (home_range h s).2
    simp only [beq_iff_eq] at es
    omega
  · rintro ⟨g, hg, ht, rfl⟩
    exact ⟨g, by omega, ht, rfl⟩
end Go.Proofs.YthpdladfcjcjiaaDoor
