/- Layer 8's cuts, in plain Lean: a group's reads and writes of a transaction, a transaction's groups. -/
import Derived.Test.YtjgloipgnnigmaaGreatDoorTxF08
import Derived.Test.YtjgloipgnnigmaaGreatDoorRefTxF08
import Derived.Test.YtjgloipgnnigmaaGreatDoorGroups07
import Derived.Test.YtjgloipgnnigmaaGreatDoorRefGroups07
import Derived.Test.YtjgloipgnnigmaaGreatDoorRowsT
namespace Go.Proofs.YtjgloipgnnigmaaGreatDoor
open Go.RowKit Go.Shelf

def hereR (c : Cfg) (g : Int) (x : Rd) : Bool := homeZ c x.key == g
def hereW (c : Cfg) (g : Int) (x : Wr) : Bool := homeZ c x.key == g
def pickR (c : Cfg) (t : Tx) (g : Int) (x : Rd) : Bool := formedB c && formedT t && (homeZ c x.key == g)
def pickW (c : Cfg) (t : Tx) (g : Int) (x : Wr) : Bool := formedB c && formedT t && (homeZ c x.key == g)
def readsL (c : Cfg) (t : Tx) (g : Int) : List Rd := t.rds.filter (pickR c t g)
def writesL (c : Cfg) (t : Tx) (g : Int) : List Wr := t.wrs.filter (pickW c t g)
def groupsT (c : Cfg) (t : Tx) : List Int := if formedT t then groupsL c (rKeys t ++ wKeys t) else []
def RdsPost (w : World) (l : List Rd) (e : Ending) (w' : World) : Prop :=
  ∃ (A : Option Addr) (cap : Nat), e = .returned (.slice A l.length cap) ∧ RdsAt w' A l ∧ Below w.heap.size w w' ∧ FreshP w.heap.size A
def WrsPost (w : World) (l : List Wr) (e : Ending) (w' : World) : Prop :=
  ∃ (A : Option Addr) (cap : Nat), e = .returned (.slice A l.length cap) ∧ WrsAt w' A l ∧ Below w.heap.size w w' ∧ FreshP w.heap.size A

/-! ### One step of a filter -/
theorem filter_take {α : Type} (l : List α) (d : α) (p : α → Bool) (k : Nat) (h : k < l.length) : (l.take (k + 1)).filter p = (l.take k).filter p ++ if p (l.getD k d) then [l.getD k d] else [] := by
  rw [List.take_succ_eq_append_getElem h, List.filter_append]
  have : l.getD k d = l[k] := by simp [List.getD_eq_getElem?_getD, h]
  rw [this]
  cases hp : p l[k] <;> simp [List.filter, hp]
theorem filter_take_len {α : Type} (l : List α) (p : α → Bool) (k : Nat) : ((l.take k).filter p).length ≤ k :=
  Nat.le_trans (List.length_filter_le _ _) (by rw [List.length_take]; omega)

/-! ### The groups: those that have any -/
theorem any_filter {α : Type} (l : List α) (p : α → Bool) : decide (0 < (l.filter p).length) = l.any p := by
  induction l with
  | nil => rfl
  | cons x l ih =>
    cases hp : p x <;> simp [List.filter, hp, ← ih]
theorem pickR_formed {c : Cfg} {t : Tx} {g : Int} (hc : formedB c = true) (ht : formedT t = true) : pickR c t g = hereR c g := by
  funext x; simp [pickR, hc, ht, hereR]
theorem pickW_formed {c : Cfg} {t : Tx} {g : Int} (hc : formedB c = true) (ht : formedT t = true) : pickW c t g = hereW c g := by
  funext x; simp [pickW, hc, ht, hereW]
theorem touch_cut (c : Cfg) (t : Tx) (g : Nat) (hc : formedB c = true) (ht : formedT t = true) :
    decide (0 < (readsL c t g).length + (writesL c t g).length) = touchB c (rKeys t ++ wKeys t) g := by
  have h1 := any_filter t.rds (hereR c g)
  have h2 := any_filter t.wrs (hereW c g)
  have : touchB c (rKeys t ++ wKeys t) g = (t.rds.any (hereR c g) || t.wrs.any (hereW c g)) := by
    rw [← touchTo_all, touchTo_take _ _ _ _ (Nat.le_refl _), List.take_length, List.any_append]
    simp only [rKeys, wKeys, List.any_map]
    rfl
  rw [this, ← h1, ← h2]
  simp only [readsL, writesL, pickR_formed hc ht, pickW_formed hc ht]
  rw [Bool.eq_iff_iff]
  simp only [Bool.or_eq_true, decide_eq_true_eq]
  omega
theorem readsL_no {c : Cfg} {t : Tx} (h : (formedB c && formedT t) = false) (g : Int) : readsL c t g = [] ∧ writesL c t g = [] := by
  constructor <;> (simp only [readsL, writesL, List.filter_eq_nil_iff]; intro x _; simp [pickR, pickW, h])
end Go.Proofs.YtjgloipgnnigmaaGreatDoor
