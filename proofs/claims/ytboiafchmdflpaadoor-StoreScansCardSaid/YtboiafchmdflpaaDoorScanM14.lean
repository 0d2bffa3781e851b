/- The reference's Scan in plain Lean: over the items, each key once. -/
import Derived.Test.YtboiafchmdflpaaDoorScan14
namespace Go.Proofs.YtboiafchmdflpaaDoor
open Go.RowKit Go.Maps

def rsOne (F : List It) (a b : ByteArray) (n : Nat) (pk : Option ByteArray) (x : It) : List It :=
  if pk = some x.key then [] else if inRange a b x.key && !decide ((seenF F x.key n).val.kind = 0) then [⟨x.key, (seenF F x.key n).val, (seenF F x.key n).num⟩] else []
def rsGo (F : List It) (a b : ByteArray) (n : Nat) : Option ByteArray → List It → List It
  | _, [] => []
  | pk, x :: r => rsOne F a b n pk x ++ rsGo F a b n (some x.key) r
def lastK : Option ByteArray → List It → Option ByteArray
  | pk, [] => pk
  | _, x :: r => lastK (some x.key) r
theorem rsGo_append (F : List It) (a b : ByteArray) (n : Nat) : ∀ (l r : List It) (pk : Option ByteArray), rsGo F a b n pk (l ++ r) = rsGo F a b n pk l ++ rsGo F a b n (lastK pk l) r
  | [], _, _ => rfl
  | x :: l, r, pk => by rw [List.cons_append, rsGo, rsGo_append F a b n l r, rsGo, lastK, List.append_assoc]
theorem lastK_snoc : ∀ (l : List It) (x : It) (pk : Option ByteArray), lastK pk (l ++ [x]) = some x.key
  | [], _, _ => rfl
  | y :: l, x, pk => by rw [List.cons_append, lastK, lastK_snoc l x]
def prevK (L : List It) (k : Nat) : Option ByteArray := if k = 0 then none else some (L.getD (k - 1) noIt).key
theorem lastK_take {L : List It} {k : Nat} (hk : k ≤ L.length) : lastK none (L.take k) = prevK L k := by
  cases k with
  | zero => rfl
  | succ k =>
    rw [List.take_succ_eq_append_getElem (by omega), lastK_snoc, prevK, if_neg (by omega), show k + 1 - 1 = k by omega, List.getD_eq_getElem?_getD, List.getElem?_eq_getElem (by omega)]
    rfl
theorem rsGo_next {F L : List It} {a b : ByteArray} {n k : Nat} {x : It} (hk : k < L.length) (hx : L.getD k noIt = x) : rsGo F a b n none (L.take (k + 1)) = rsGo F a b n none (L.take k) ++ rsOne F a b n (prevK L k) x := by
  have e : L[k] = x := by rw [← hx, List.getD_eq_getElem?_getD, List.getElem?_eq_getElem hk]; rfl
  rw [List.take_succ_eq_append_getElem hk, rsGo_append, lastK_take (by omega), e, rsGo, rsGo, List.append_nil]
theorem rsGo_tail (F : List It) (a b k : ByteArray) (n : Nat) : ∀ (l : List Ver) (r : List It), rsGo F a b n (some k) (itemsOf (k, l) ++ r) = rsGo F a b n (some k) r
  | [], _ => rfl
  | v :: l, r => by
    rw [show itemsOf (k, v :: l) = (⟨k, v.val, v.num⟩ : It) :: itemsOf (k, l) from rfl, List.cons_append, rsGo, rsOne, if_pos rfl, List.nil_append, rsGo_tail F a b k n l r]
theorem rsGo_items (F : List It) (a b : ByteArray) (n : Nat) : ∀ (m : KV), RisesK m → (∀ p ∈ m, p.2 ≠ []) → ∀ pk, (∀ p ∈ m, pk ≠ some p.1) →
    rsGo F a b n pk (items m) = (m.filter fun p => inRange a b p.1 && !decide ((seenF F p.1 n).val.kind = 0)).map fun p => (⟨p.1, (seenF F p.1 n).val, (seenF F p.1 n).num⟩ : It)
  | [], _, _, _, _ => rfl
  | (k, l) :: m, h, hne, pk, hpk => by
    obtain ⟨h1, h2⟩ := List.pairwise_cons.1 h
    cases l with
    | nil => exact absurd rfl (hne (k, []) (by simp))
    | cons v l =>
      have e0 : items ((k, v :: l) :: m) = (⟨k, v.val, v.num⟩ : It) :: (itemsOf (k, l) ++ items m) := rfl
      have ih := rsGo_items F a b n m h2 (fun p hp => hne p (by simp [hp])) (some k) (fun p hp e => lessS_ne (h1 p hp) (Option.some.inj e))
      rw [e0, rsGo, rsGo_tail, ih, rsOne, if_neg (hpk (k, v :: l) (by simp)), List.filter_cons]
      simp only
      split
      · rw [List.map_cons]; rfl
      · rfl
theorem rsGo_scan {m : KV} (h : RisesK m) (hne : ∀ p ∈ m, p.2 ≠ []) (a b : ByteArray) (n : Nat) : rsGo (items m) a b n none (items m) = scanAll m a b n := by
  rw [rsGo_items _ a b n m h hne none (fun _ _ e => by cases e), scanAll]
  have e : ∀ p ∈ m, seenF (items m) p.1 n = seenV p.2 n := fun p hp => by rw [seenF_items h, getK_mem h hp]
  have e1 : m.filter (fun p => inRange a b p.1 && !decide ((seenF (items m) p.1 n).val.kind = 0)) = m.filter (fun p => inRange a b p.1 && !decide ((seenV p.2 n).val.kind = 0)) :=
    List.filter_congr fun p hp => by rw [e p hp]
  rw [e1]
  refine List.map_congr_left fun p hp => ?_
  rw [e p (List.mem_filter.1 hp).1]
def rScanS (L : List It) (low : Nat) (a b : ByteArray) (n : Nat) (most : Int) : List It := if n < low then [] else (rsGo L a b n none L).take most.toNat
theorem rScan_eq {s : StD} (h : StOK s) (a b : ByteArray) (n : Nat) (most : Int) : rScanS (items s.ks) s.low a b n most = scanS s a b n most := by
  rw [rScanS, scanS, rsGo_scan h.rises h.ne]
theorem rs_len {F : List It} {a b : ByteArray} {n : Nat} : ∀ (l : List It) (pk : Option ByteArray), (rsGo F a b n pk l).length ≤ l.length
  | [], _ => Nat.le_refl _
  | x :: l, pk => by
    have h1 := rs_len (F := F) (a := a) (b := b) (n := n) l (some x.key)
    have h2 : (rsOne F a b n pk x).length ≤ 1 := by rw [rsOne]; repeat' split <;> simp
    rw [rsGo, List.length_append, List.length_cons]
    omega
/-- At the loop's end: all has been gone over, or there is no room. -/
theorem rs_done {L : List It} {a b : ByteArray} {n k : Nat} {most : Int} (hl : (rsGo L a b n none (L.take k)).length ≤ most.toNat) (h : k = L.length ∨ ¬ ((rsGo L a b n none (L.take k)).length : Int) < most) : (rsGo L a b n none L).take most.toNat = rsGo L a b n none (L.take k) := by
  rcases h with h | h
  · rw [h, List.take_length] at hl ⊢
    exact List.take_of_length_le hl
  · have e : L = L.take k ++ L.drop k := (List.take_append_drop k L).symm
    have e2 : most.toNat = (rsGo L a b n none (L.take k)).length := by omega
    rw [e2]
    conv => lhs; arg 2; arg 6; rw [e]
    rw [rsGo_append, List.take_left]
end Go.Proofs.YtboiafchmdflpaaDoor
