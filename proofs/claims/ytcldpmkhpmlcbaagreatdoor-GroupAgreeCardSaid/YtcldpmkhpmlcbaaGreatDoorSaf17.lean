/- Layer 17 in plain Lean: what is seen at a stamp that is safe stays. -/
import Derived.Test.YtcldpmkhpmlcbaaGreatDoorJ20
set_option linter.unusedVariables false
set_option linter.unusedSimpArgs false
namespace Go.Proofs.YtcldpmkhpmlcbaaGreatDoor

/-! ### What is safe -/
def SafeAt (q : QD) (s : Nat) : Prop := s ≤ q.clock ∧ ∀ o ∈ q.l, s < o.stamp
theorem next_stamp {q : QD} {i : IdD} {s : Nat} (h : nextQ q = some (i, s)) : ∃ o l, q.l = o :: l ∧ o.stamp = s ∧ o.id = i ∧ o.final = true := by
  unfold nextQ at h
  split at h
  · cases h
  · rename_i o l e
    split at h
    · rename_i hf
      cases h
      exact ⟨o, l, e, rfl, rfl, hf⟩
    · cases h
/-! ### The stamps of the versions -/
structure SOK (m : MachD) : Prop where
  so : m.a.Pairwise (· ≤ ·)
  top : ∀ s ∈ m.a, s ≤ m.q.clock ∧ ∀ o ∈ m.q.l, s ≤ o.stamp
/-- The number of the last version whose stamp isn't above s. -/
def idxA (a : List Nat) (s : Nat) : Nat := (a.takeWhile fun x => decide (x ≤ s)).length - 1
def viewS (m : MachD) (k : ByteArray) (s : Nat) : Option Val := if s < m.a.headD 0 then none else some (getV m.s k (m.s.low + idxA m.a s)).val
structure Stays (m m' : MachD) (s : Nat) : Prop where
  safe : SafeAt m.q s → SafeAt m'.q s
  view : SafeAt m.q s → ∀ k, viewS m' k s = none ∨ viewS m' k s = viewS m k s
theorem Stays.refl (m : MachD) (s : Nat) : Stays m m s := ⟨id, fun _ _ => .inr rfl⟩
theorem Stays.trans {a b d : MachD} {s : Nat} (h : Stays a b s) (h' : Stays b d s) : Stays a d s :=
  ⟨fun e => h'.safe (h.safe e), fun e k => by
    rcases h'.view (h.safe e) k with e1 | e1
    · exact .inl e1
    · rcases h.view e k with e2 | e2
      · exact .inl (e1.trans e2)
      · exact .inr (e1.trans e2)⟩
theorem Stays.same {m m' : MachD} {s : Nat} (hq : SafeAt m.q s → SafeAt m'.q s) (ha : m'.a = m.a) (hs : m'.s = m.s) : Stays m m' s :=
  ⟨hq, fun _ k => .inr (by rw [viewS, viewS, ha, hs])⟩
section
variable {c : Cfg} {g : Int} {n : Nat} {m : MachD}
/-! ### A write -/
end
end Go.Proofs.YtcldpmkhpmlcbaaGreatDoor
