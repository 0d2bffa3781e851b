/- The plain words of layers 4 and 7: what is computed, in Lean, with no program in sight. -/
import Derived.ProofKit
import Derived.WalkKit
import Derived.Test.YtjgloipgnnigmaaGreatDoorBase
namespace Go.Proofs.YtjgloipgnnigmaaGreatDoor
open Go.RowKit

/-- A lower case letter or a digit. -/
def ldB (b : UInt8) : Bool := (decide (97 ≤ b.toNat) && decide (b.toNat ≤ 122)) || (decide (48 ≤ b.toNat) && decide (b.toNat ≤ 57))
/-- A key. -/
def keyB (s : ByteArray) : Bool := decide (1 ≤ s.size) && decide (s.size ≤ 12) && s.data.toList.all ldB
/-- Of two strings the first is the lesser. -/
def lessS (a b : ByteArray) : Bool := Op.bytesLess a.toList b.toList

theorem bytesLess_eq : ∀ (x y : List UInt8), Op.bytesLess x y = decide (x < y)
  | [], [] => by simp [Op.bytesLess]
  | _ :: _, [] => by simp [Op.bytesLess]
  | [], _ :: _ => by simp [Op.bytesLess]
  | a :: x, b :: y => by
    rw [Op.bytesLess, bytesLess_eq x y]
    simp only [List.cons_lt_cons_iff]
    by_cases h1 : a < b <;> by_cases h2 : a = b <;> by_cases h3 : x < y <;> simp [h1, h2, h3]
theorem bytes_ext {a b : ByteArray} (h : a.toList = b.toList) : a = b := by
  rw [ByteArray.toList_eq, ByteArray.toList_eq] at h
  cases a; cases b
  simp at h
  simp [h]
theorem lessS_irr (a : ByteArray) : lessS a a = false := by
  simp only [lessS, bytesLess_eq, decide_eq_false_iff_not]; exact List.lt_irrefl _
theorem lessS_trans {a b c : ByteArray} (h : lessS a b = true) (h' : lessS b c = true) : lessS a c = true := by
  simp only [lessS, bytesLess_eq, decide_eq_true_eq] at *; exact List.lt_trans h h'
theorem lessS_asym {a b : ByteArray} (h : lessS a b = true) : lessS b a = false := by
  cases h' : lessS b a
  · rfl
  · have := lessS_trans h h'; rw [lessS_irr] at this; cases this
theorem lessS_tri {a b : ByteArray} (h : lessS a b = false) (h' : lessS b a = false) : a = b := by
  simp only [lessS, bytesLess_eq, decide_eq_false_iff_not] at *; exact bytes_ext (List.le_antisymm h' h)
/-- Go's 'x <= y' where y is not below x .. -/
theorem lessS_no {x y : ByteArray} (h : lessS y x = false) : (Op.bytesLess x.toList y.toList || x.toList == y.toList) = true := by
  cases h' : lessS x y
  · obtain rfl := lessS_tri h h'
    simp
  · have : Op.bytesLess x.toList y.toList = true := h'
    simp [this]
/-- .. and where it is. -/
theorem lessS_yes {x y : ByteArray} (h : lessS y x = true) : (Op.bytesLess x.toList y.toList || x.toList == y.toList) = false := by
  have h' : Op.bytesLess x.toList y.toList = false := lessS_asym h
  rw [h', Bool.false_or, beq_eq_false_iff_ne]
  intro e
  obtain rfl := bytes_ext e
  rw [lessS_irr] at h; cases h

/-- A configuration. -/
structure Cfg where
  reps : List Int
  bnds : List ByteArray

def repOK (n : Int) : Bool := n == 1 || n == 3 || n == 5
def noStr : ByteArray := ByteArray.empty
/-- The k-th of a list of strings is a key, and above the one ahead of it. -/
def riseAt (l : List ByteArray) (k : Nat) : Bool := keyB (l.getD k noStr) && (k == 0 || lessS (l.getD (k - 1) noStr) (l.getD k noStr))
def risesTo (l : List ByteArray) : Nat → Bool
  | 0 => true
  | k + 1 => risesTo l k && riseAt l k
def repsTo (l : List Int) : Nat → Bool
  | 0 => true
  | k + 1 => repsTo l k && repOK (l.getD k 0)
def sizesB (c : Cfg) : Bool := decide (1 ≤ c.reps.length) && decide (c.reps.length ≤ 4) && decide (c.bnds.length + 1 = c.reps.length)
def formedB (c : Cfg) : Bool := sizesB c && repsTo c.reps c.reps.length && risesTo c.bnds c.bnds.length

theorem risesTo_false {l : List ByteArray} {k n : Nat} (hk : k < n) (h : riseAt l k = false) : risesTo l n = false := by
  induction n with
  | zero => omega
  | succ n ih =>
    by_cases e : k = n
    · subst e; simp [risesTo, h]
    · simp [risesTo, ih (by omega)]
theorem risesTo_next0 {l : List ByteArray} {k : Nat} {x : ByteArray} (_h : risesTo l k = true) (hx : l.getD k noStr = x) (hkey : keyB x = true) (hk : k = 0) : risesTo l (k + 1) = true := by
  subst hk; simp only [risesTo, riseAt, hx, hkey, beq_self_eq_true, Bool.true_or, Bool.and_self]
theorem risesTo_next {l : List ByteArray} {k : Nat} {x y : ByteArray} (h : risesTo l k = true) (hx : l.getD k noStr = x) (hy : l.getD (k - 1) noStr = y) (hkey : keyB x = true) (hl : lessS y x = true) : risesTo l (k + 1) = true := by
  simp only [risesTo, riseAt, h, hx, hy, hkey, hl, Bool.or_true, Bool.and_self]
theorem repsTo_false {l : List Int} {k n : Nat} (hk : k < n) (h : repOK (l.getD k 0) = false) : repsTo l n = false := by
  induction n with
  | zero => omega
  | succ n ih =>
    by_cases e : k = n
    · subst e; simp only [repsTo, h, Bool.and_false]
    · simp [repsTo, ih (by omega)]
theorem formed_sizes {c : Cfg} (h : sizesB c = false) : formedB c = false := by simp [formedB, h]
theorem formed_rep {c : Cfg} {k : Nat} (hk : k < c.reps.length) (h : repOK (c.reps.getD k 0) = false) : formedB c = false := by
  simp [formedB, repsTo_false hk h]
theorem formed_bnd {c : Cfg} {k : Nat} (hk : k < c.bnds.length) (h : riseAt c.bnds k = false) : formedB c = false := by
  simp [formedB, risesTo_false hk h]
theorem formed_all {c : Cfg} (h : sizesB c = true) (h1 : repsTo c.reps c.reps.length = true) (h2 : risesTo c.bnds c.bnds.length = true) : formedB c = true := by
  simp [formedB, h, h1, h2]

/-! ### How they lie in memory -/
/-- n cells in a row. -/
def CellsAt (w : World) (A : Option Addr) (n : Nat) (f : Nat → Value) : Prop :=
  ∀ i, i < n → ∃ b off, A = some ⟨b, off, none⟩ ∧ w.cell? ⟨b, off + i, none⟩ = some (f i)
def IntsAt (w : World) (A : Option Addr) (l : List Int) : Prop := CellsAt w A l.length fun i => .int .i64 (l.getD i 0)
def StrsAt (w : World) (A : Option Addr) (l : List ByteArray) : Prop := CellsAt w A l.length fun i => .string (l.getD i noStr)
theorem CellsAt.later {w w' : World} {A : Option Addr} {n : Nat} {f : Nat → Value} (h : CellsAt w A n f) (hb : Below w.heap.size w w') : CellsAt w' A n f := by
  intro i hi
  obtain ⟨b, off, e, hc⟩ := h i hi
  exact ⟨b, off, e, keep hb hc⟩

theorem IntsAt.at' {w : World} {A : Option Addr} {l : List Int} (h : IntsAt w A l) {k : Nat} (hk : k < l.length) :
    ∃ b off x, A = some ⟨b, off, none⟩ ∧ w.cell? ⟨b, off + k, none⟩ = some (.int .i64 x) ∧ Hid (l.getD k 0 = x) := by
  obtain ⟨b, off, e, hc⟩ := h k hk
  exact ⟨b, off, _, e, hc, rfl⟩
theorem StrsAt.at' {w : World} {A : Option Addr} {l : List ByteArray} (h : StrsAt w A l) {k : Nat} (hk : k < l.length) :
    ∃ b off x, A = some ⟨b, off, none⟩ ∧ w.cell? ⟨b, off + k, none⟩ = some (.string x) ∧ Hid (l.getD k noStr = x) := by
  obtain ⟨b, off, e, hc⟩ := h k hk
  exact ⟨b, off, _, e, hc, rfl⟩

/-- How a configuration lies in memory: its two slices' cells. -/
structure CfgAt (w : World) (c : Cfg) (A B : Option Addr) : Prop where
  ints : IntsAt w A c.reps
  strs : StrsAt w B c.bnds
  hs : ∀ k, k < c.bnds.length → (c.bnds.getD k noStr).size ≤ 9223372036854775807
  hn : c.reps.length ≤ 9223372036854775807
  hm : c.bnds.length ≤ 9223372036854775807
theorem CfgAt.later {w w' : World} {c : Cfg} {A B : Option Addr} (h : CfgAt w c A B) (hb : Below w.heap.size w w') : CfgAt w' c A B :=
  ⟨CellsAt.later h.ints hb, CellsAt.later h.strs hb, h.hs, h.hn, h.hm⟩

/-- A box of two cells: the world behind it under a name. -/
theorem box2 (w : World) (u v : Value) (t : TypeId) : ∃ W : World, w.alloc (.cells #[u, v] t) = W ∧ Below w.heap.size w W ∧ W.cell? ⟨w.heap.size, 0, none⟩ = some u ∧ W.cell? ⟨w.heap.size, 1, none⟩ = some v :=
  ⟨_, rfl, below1 _ _, by simp, by simp⟩
end Go.Proofs.YtjgloipgnnigmaaGreatDoor
