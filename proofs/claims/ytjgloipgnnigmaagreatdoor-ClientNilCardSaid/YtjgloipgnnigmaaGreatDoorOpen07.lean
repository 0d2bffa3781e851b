/- A configuration that came in, opened: how it lies in memory. -/
import Derived.Test.YtjgloipgnnigmaaGreatDoorModel07
import Derived.Test.YtjgloipgnnigmaaGreatDoorProg
import Derived.Lib.SmallJoins
import Derived.OpenShut
namespace Go.Proofs.YtjgloipgnnigmaaGreatDoor
open Go.ChangeShapes Go.WideShapes Go.ChangeAt Go.RowKit Go.Joins

theorem le_max {n : Nat} (h : n ≤ maxLen) : n ≤ 9223372036854775807 := by unfold maxLen at h; omega
theorem cells_cfg : Tryz.prog.cellsOf 25 = 2 := by kernel_rfl
theorem cells_int : Tryz.prog.cellsOf 3 = 1 := by kernel_rfl
theorem cells_str : Tryz.prog.cellsOf 9 = 1 := by kernel_rfl

theorem getD_take {α : Type} (l : List α) (n i : Nat) (d : α) (h : i < n) : (l.take n).getD i d = l.getD i d := by
  simp [List.getD_eq_getElem?_getD, h]

theorem open_ints_at {H : Type} {enc : TypeId × Value → H} {w : World} {base fuel : Nat} {sp : Nat → Bool} {held : Bool} {v : Value} {x : DataW H × List MemPlace}
    (h : DataW.trod enc Tryz.prog w base sp held fuel 22 [v] = some x) : ∃ (A : Option Addr) (l : List Int) (cap : Nat), v = .slice A l.length cap ∧ IntsAt w A l ∧ l.length ≤ cap ∧ cap ≤ maxLen := by
  rcases open_ints Tryz.underlying22 Tryz.underlying3 cells_int h with ⟨hcs, _⟩ | ⟨a, len, cap, zs, hcs, _, hl, hm, hz, _, hc, _⟩
  · simp at hcs
    exact ⟨none, [], 0, by simp [hcs], fun i hi => by simp at hi, by simp, by simp [maxLen]⟩
  · have hlen : len ≤ zs.length := by rw [hz]; split <;> omega
    have el : (zs.take len).length = len := by simp; omega
    refine ⟨some a, zs.take len, cap, by simp at hcs; rw [hcs, el], fun i hi => ?_, by omega, hm⟩
    obtain ⟨b, off, rfl, hc'⟩ := ints_at hc (by rw [el] at hi; omega)
    rw [el] at hi
    exact ⟨b, off, rfl, by rw [hc' i (by omega)]; show _ = some (Value.int .i64 ((zs.take len).getD i 0)); rw [getD_take _ _ _ _ hi]⟩

theorem open_strs_at {H : Type} {enc : TypeId × Value → H} {w : World} {base fuel : Nat} {sp : Nat → Bool} {held : Bool} {v : Value} {x : DataW H × List MemPlace}
    (h : DataW.trod enc Tryz.prog w base sp held fuel 23 [v] = some x) : ∃ (A : Option Addr) (l : List ByteArray) (cap : Nat), v = .slice A l.length cap ∧ StrsAt w A l ∧ l.length ≤ cap ∧ cap ≤ maxLen ∧ ∀ k, k < l.length → (l.getD k noStr).size ≤ maxLen := by
  rcases open_strings Tryz.underlying23 Tryz.underlying9 cells_str h with ⟨hcs, _⟩ | ⟨a, len, cap, ss, hcs, _, hl, hm, hz, _, hc, hw⟩
  · simp at hcs
    exact ⟨none, [], 0, by simp [hcs], fun i hi => by simp at hi, by simp, by simp [maxLen], fun k hk => by simp at hk⟩
  · have hlen : len ≤ ss.length := by rw [hz]; split <;> omega
    have el : (ss.take len).length = len := by simp; omega
    refine ⟨some a, ss.take len, cap, by simp at hcs; rw [hcs, el], fun i hi => ?_, by omega, hm, fun k hk => ?_⟩
    · rw [el] at hi
      have hc0 := hc 0 (by omega)
      obtain ⟨b, off, spot⟩ := a
      have hspot : spot = none := by simpa [Addr.add] using World.cell?_spot hc0
      subst hspot
      refine ⟨b, off, rfl, ?_⟩
      have := hc i (by omega)
      rw [Go.WideShapes.add_plain] at this
      rw [this]
      show _ = some (Value.string ((ss.take len).getD i noStr))
      rw [getD_take _ _ _ _ hi]
      rfl
    · rw [el] at hk
      rw [getD_take _ _ _ _ hk]
      apply hw
      rw [List.getD_eq_getElem?_getD, List.getElem?_eq_getElem (by omega)]
      exact List.getElem_mem _

set_option maxRecDepth 100000 in
theorem open_strs_arg {H : Type} {enc : TypeId × Value → H} {w : World} {b0 base : Nat} {sp : Nat → Bool} {held : Bool} {v : Value} {d : DataW H} {p : List MemPlace}
    (hv : Value.okWide Tryz.prog w .any b0 23 v) (h : DataW.Trod enc Tryz.prog w base sp held 23 v d p) :
    ∃ (K : Option Addr) (l : List ByteArray) (ck : Nat), v = .slice K l.length ck ∧ StrsAt w K l ∧ l.length ≤ 9223372036854775807 ∧ (∀ k, k < l.length → (l.getD k noStr).size ≤ 9223372036854775807) := by
  obtain ⟨a0, len, cap, rfl⟩ := okWide_slice Tryz.underlying23 hv
  obtain ⟨fuel, hf⟩ := h
  obtain ⟨K, l, ck, e, hK, h1, h2, h3⟩ := open_strs_at hf
  exact ⟨K, l, ck, e, hK, le_max (Nat.le_trans h1 h2), fun k hk => le_max (h3 k hk)⟩

set_option maxRecDepth 100000 in
theorem open_cfg {H : Type} {enc : TypeId × Value → H} {w : World} {b0 base : Nat} {sp : Nat → Bool} {held : Bool} {v : Value} {d : DataW H} {p : List MemPlace}
    (hv : Value.okWide Tryz.prog w .any b0 25 v) (h : DataW.Trod enc Tryz.prog w base sp held 25 v d p) :
    ∃ (c : Cfg) (A B : Option Addr) (ca cb : Nat), v = .agg #[.slice A c.reps.length ca, .slice B c.bnds.length cb] ∧ CfgAt w c A B ∧ c.reps.length ≤ ca ∧ c.bnds.length ≤ cb := by
  obtain ⟨v0, v1, y0, y1, n, rfl, _, _, h0, h1⟩ := open_agg2 Tryz.underlying25 (by kernel_rfl) cells_cfg hv h
  obtain ⟨A, l, ca, rfl, hA, hla, hma⟩ := open_ints_at h0
  obtain ⟨B, m, cb, rfl, hB, hlb, hmb, hs⟩ := open_strs_at h1
  have q0 : ∀ k, k < m.length → (m.getD k noStr).size ≤ 9223372036854775807 := fun k hk => le_max (hs k hk)
  have q1 : l.length ≤ 9223372036854775807 := le_max (by omega)
  have q2 : m.length ≤ 9223372036854775807 := le_max (by omega)
  exact ⟨⟨l, m⟩, A, B, ca, cb, rfl, ⟨hA, hB, q0, q1, q2⟩, hla, hlb⟩
end Go.Proofs.YtjgloipgnnigmaaGreatDoor
