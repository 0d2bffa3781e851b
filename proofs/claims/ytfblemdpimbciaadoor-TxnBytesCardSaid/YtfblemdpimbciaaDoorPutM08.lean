/- Layer 8's bytes, in plain Lean. -/
import Derived.Test.YtfblemdpimbciaaDoorPutId08
import Derived.Test.YtfblemdpimbciaaDoorRisesM
import Derived.Test.YtfblemdpimbciaaDoorRefTxF08
namespace Go.Proofs.YtfblemdpimbciaaDoor
open Go.RowKit Go.Shelf Go.Sort

def encR (x : Rd) : List UInt8 := beL x.key.size 2 ++ x.key.data.toList ++ beL x.ver 8
def encW (x : Wr) : List UInt8 := beL x.key.size 2 ++ x.key.data.toList ++ putV x.val
def encHead (t : Tx) : List UInt8 := putI t.ses t.seq ++ beL t.rds.length 1
def encT (t : Tx) : List UInt8 := encHead t ++ t.rds.flatMap encR ++ beL t.wrs.length 1 ++ t.wrs.flatMap encW
def putT (t : Tx) : List UInt8 := if formedT t then encT t else []
def rTo (m : List UInt8) (t : Tx) (k : Nat) : List UInt8 := m ++ (t.rds.take k).flatMap encR
def wTo (m : List UInt8) (t : Tx) (k : Nat) : List UInt8 := m ++ (t.wrs.take k).flatMap encW
theorem rTo_succ {m : List UInt8} {t : Tx} {k : Nat} {s : ByteArray} {n : Nat} (hk : k < t.rds.length) (h : t.rds.getD k noRd = ⟨s, n⟩) : rTo m t (k + 1) = rTo m t k ++ beL s.size 2 ++ s.data.toList ++ beL n 8 := by
  have e : t.rds[k] = ⟨s, n⟩ := by rw [← h, List.getD_eq_getElem?_getD, List.getElem?_eq_getElem hk]; rfl
  simp [rTo, List.take_succ_eq_append_getElem hk, List.flatMap_append, encR, e]
theorem wTo_succ {m : List UInt8} {t : Tx} {k : Nat} {s : ByteArray} {v : Val} (hk : k < t.wrs.length) (h : t.wrs.getD k noWr = ⟨s, v⟩) : wTo m t (k + 1) = wTo m t k ++ beL s.size 2 ++ s.data.toList ++ putV v := by
  have e : t.wrs[k] = ⟨s, v⟩ := by rw [← h, List.getD_eq_getElem?_getD, List.getElem?_eq_getElem hk]; rfl
  simp [wTo, List.take_succ_eq_append_getElem hk, List.flatMap_append, encW, e]
theorem putV_len (v : Val) : (putV v).length ≤ 50 := by
  unfold putV
  split
  · rename_i h
    rcases formedV_kinds h with q | q | ⟨q, h40⟩
    · simp [encV, q, beL_length]
    · simp [encV, q, beL_length]
    · have : v.text.data.toList.length = v.text.size := by rw [Array.length_toList]; rfl
      simp only [encV, q, List.length_append, beL_length]
      simp [beL_length]
      have : v.text.data.size = v.text.size := rfl
      omega
  · simp
theorem txt_len (s : ByteArray) : s.data.toList.length = s.size := by rw [Array.length_toList]; rfl
theorem flat_len {α : Type} (f : α → List UInt8) (B : Nat) : ∀ l : List α, (∀ x ∈ l, (f x).length ≤ B) → (l.flatMap f).length ≤ l.length * B
  | [], _ => by simp
  | x :: l, h => by
    have h1 := h x (by simp)
    have h2 := flat_len f B l (fun y hy => h y (by simp [hy]))
    rw [List.flatMap_cons, List.length_append, List.length_cons, Nat.add_mul]
    omega
theorem keyB_size {s : ByteArray} (h : keyB s = true) : s.size ≤ 12 := by
  simp only [keyB, Bool.and_eq_true, decide_eq_true_eq] at h
  omega
theorem formedT_rises' {t : Tx} (h : formedT t = true) : risesTo (rKeys t) t.rds.length = true ∧ risesTo (wKeys t) t.wrs.length = true := by
  simp only [formedT, Bool.and_eq_true, decide_eq_true_eq] at h
  exact ⟨h.1.1.2, h.1.2⟩
theorem formed_keyR {t : Tx} (h : formedT t = true) : ∀ k, k < t.rds.length → (t.rds.getD k noRd).key.size ≤ 12 := fun k hk => by
  have := rises_key (formedT_rises' h).1 hk
  rw [rKeys_at hk rfl] at this
  exact keyB_size this
end Go.Proofs.YtfblemdpimbciaaDoor
