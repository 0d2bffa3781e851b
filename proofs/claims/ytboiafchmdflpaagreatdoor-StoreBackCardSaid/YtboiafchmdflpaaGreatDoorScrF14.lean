/- Scripts that go on from a store, in plain Lean; act at their acts. -/
import Derived.Test.YtboiafchmdflpaaGreatDoorGB
import Derived.Test.YtboiafchmdflpaaGreatDoorGE
namespace Go.Proofs.YtboiafchmdflpaaGreatDoor
open Go.RowKit Go.Maps Go.Sort Go.Shelf

def scrF (s : StD) (l : List OpD) : Nat → StD
  | 0 => s
  | k + 1 => actS (scrF s l k) (l.getD k noOp)
theorem scrF_succ (s : StD) (l : List OpD) (k : Nat) : scrF s l (k + 1) = actS (scrF s l k) (l.getD k noOp) := rfl
theorem scrF_ok {s : StD} (h : StOK s) (l : List OpD) : ∀ k, StOK (scrF s l k)
  | 0 => h
  | k + 1 => actS_ok (scrF_ok h l k) _
theorem scrF_len {s : StD} (hs : StOK s) {l : List OpD} (h : fewS l = true) : ∀ k, k ≤ l.length → (items (scrF s l k).ks).length ≤ (items s.ks).length + 12 * k
  | 0, _ => Nat.le_refl _
  | k + 1, hk => by
    have h1 := scrF_len hs h k (by omega)
    have h2 := actS_len (scrF_ok hs l k) ((fewS_at h).2 k (by omega))
    rw [scrF_succ]
    omega
theorem scrF_good {s : StD} (hs : StGood s) {l : List OpD} (h : ∀ i, i < l.length → OpOK (l.getD i noOp)) : ∀ k, k ≤ l.length → StGood (scrF s l k)
  | 0, _ => hs
  | k + 1, hk => actS_good (scrF_good hs h k (by omega)) (h k (by omega))
/-- act, at an act of a script that goes on. -/
theorem act_stepF {w wi : World} {B p q N : Nat} {s0 : StD} {l : List OpD} {S : Option Addr} {LA : Nat → Option Addr} {LC : Nat → Nat} {k : Nat} (hS : OpsAt w S l LA LC) (hw : Below w.heap.size w wi) (hB : w.heap.size ≤ B) (hBw : B ≤ wi.heap.size) (hok : ∀ i, i < l.length → OpOK (l.getD i noOp)) (hf : fewS l = true) (hT : Tabs w) (hk : k < l.length)
    (h0 : StOK s0) (hI : (items s0.ks).length ≤ 600000) (hN : N ≤ 600000) (h : PairAt wi B p q (N + 12 * k) (scrF s0 l k)) :
    Calls Tryz.prog 8 #[.pointer (some ⟨p, 0, none⟩), .pointer (some ⟨q, 0, none⟩), opV (l.getD k noOp) (LA k) (LC k)] wi fun e w' => e = .returned (.bool true) ∧ PairAt w' B p q (N + 12 * (k + 1)) (scrF s0 l (k + 1)) ∧ Below B wi w' := by
  have h6 := fewS_at hf
  have hlen := scrF_len h0 hf k (by omega)
  obtain ⟨b, off, _, _, _, _, _, _, _, d6⟩ := hS k hk
  have := act14_any h hBw (scrF_ok h0 l k) (l.getD k noOp) (LA k) (LC k) (d6.later hw) (hS.low hk hB) (hok k hk) (h6.2 k hk) (hT.later hw) (by omega) (by omega)
  exact this
end Go.Proofs.YtboiafchmdflpaaGreatDoor
