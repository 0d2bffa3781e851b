/- Both stores side by side: Apply and Collect on the one and on the other. -/
import Derived.Test.YtboiafchmdflpaaDoorPairs14
import Derived.Test.YtboiafchmdflpaaDoorCol14
import Derived.Test.YtboiafchmdflpaaDoorRefCol14
import Derived.Test.YtboiafchmdflpaaDoorRefScan14
namespace Go.Proofs.YtboiafchmdflpaaDoor
open Go.RowKit Go.Maps Go.Sort Go.Shelf

theorem PairAt.up {w : World} {B p q N N' : Nat} {s : StD} (h : PairAt w B p q N s) (hN : N ≤ N') : PairAt w B p q N' s := by
  obtain ⟨O, O2, M, hM, r⟩ := h
  exact ⟨O, O2, M, Nat.le_trans hM hN, r⟩
theorem PairAt.ref {w : World} {B p q N : Nat} {s : StD} (h : PairAt w B p q N s) : ∃ O2, RefAt w B q O2 (items s.ks) s.last s.low := by
  obtain ⟨O, O2, M, hM, h1, h2, h3⟩ := h
  exact ⟨O2, h2⟩
theorem PairAt.store {w : World} {B p q N : Nat} {s : StD} (h : PairAt w B p q N s) : ∃ O M, M ≤ N ∧ StoreAt w B p M O s := by
  obtain ⟨O, O2, M, hM, h1, h2, h3⟩ := h
  exact ⟨O, M, hM, h1⟩
/-- What Apply does to both. -/
structure PairAp (w : World) (B p q N : Nat) (s : StD) (n : Nat) (l : List Wr) (A : Option Addr) (ca : Nat) (O O2 : Nat → Prop) (M : Nat) (E : Int) : Prop where
  lt1 : ∀ k, O k → B ≤ k ∧ k < w.heap.size
  lt2 : ∀ k, O2 k → B ≤ k ∧ k < w.heap.size
  ap : ∀ wz, Below w.heap.size w wz → Calls Tryd.prog 29 #[.pointer (some ⟨p, 0, none⟩), .int .u64 (n : Int), .slice A l.length ca] wz fun e w' => e = .returned (.int .i64 E) ∧ StoreAt w' B p M (ext O wz w') (applyS s n l) ∧ Out O wz w'
  rp : ∀ wz w2, Below w.heap.size w wz → Out O wz w2 → Calls Tryd.prog 30 #[.pointer (some ⟨q, 0, none⟩), .int .u64 (n : Int), .slice A l.length ca] w2 fun e w' => e = .returned (.int .i64 E) ∧ RefAt w' B q (ext O2 w2 w') (items (applyS s n l).ks) (applyS s n l).last (applyS s n l).low ∧ Out O2 w2 w'
  st : ∀ wz w2 w3, Below w.heap.size w wz → StoreAt w2 B p M (ext O wz w2) (applyS s n l) → Out O wz w2 → RefAt w3 B q (ext O2 w2 w3) (items (applyS s n l).ks) (applyS s n l).last (applyS s n l).low → Out O2 w2 w3 → PairAt w3 B p q (N + 12) (applyS s n l) ∧ Below B w w3
theorem applyS_low (s : StD) (n : Nat) (l : List Wr) : (applyS s n l).low = s.low := by
  rw [applyS]; split
  · rfl
  · split <;> rfl
theorem pair_ap {w : World} {B p q N : Nat} {s : StD} (h : PairAt w B p q N s) (hB : B ≤ w.heap.size) (hs : StOK s) (n : Nat) (l : List Wr) (A : Option Addr) (ca : Nat) (hA : WrsAt w A l) (hlow : ∀ a, A = some a → 0 < l.length → a.block < B) (hok : WrsOK l) (h12 : l.length ≤ 12) (hT : Tabs w) (hN : N ≤ 700000) (hI : (items s.ks).length ≤ 700000) :
    ∃ O O2 M E, PairAp w B p q N s n l A ca O O2 M E := by
  obtain ⟨O, O2, M, hM, hSt, hRf, hd⟩ := h
  have he := rApply_eq hs n l
  have hl1 : ∀ a, A = some a → 0 < l.length → ¬ O a.block := fun a e hl ho => by have := hlow a e hl; have := (hSt.lt _ ho).1; omega
  have hl2 : ∀ a, A = some a → 0 < l.length → ¬ O2 a.block := fun a e hl ho => by have := hlow a e hl; have := (hRf.lt _ ho).1; omega
  refine ⟨O, O2, M + l.length, applyE s n l, ⟨hSt.lt, hRf.lt, fun wz hz => ?_, fun wz w2 hz ho => ?_, fun wz w2 w3 hz a1 a2 a3 a4 => ?_⟩⟩
  · exact apply14_any (hSt.later hz) (Nat.le_trans hB hz.size) hs n l A ca (hA.later hz) hl1 hok (hT.later hz) (by omega) (by omega)
  · have hb : Below B wz w2 := ho.below (Nat.le_trans hB hz.size) fun k hk => (hSt.lt k hk).1
    have h9 := refApply_any ((hRf.later hz).out ho fun x h2 h1 => hd x h1 h2) (Nat.le_trans (Nat.le_trans hB hz.size) ho.size) n l A ca ((hA.later hz).out ho hl1) hl2 hok (by omega)
    refine h9.mono ?_
    rintro e w' ⟨rfl, r1, r2⟩
    rw [he.1, he.2.1] at r1
    rw [applyS_low]
    exact ⟨by rw [he.2.2], r1, r2⟩
  · have := pair_step (Nat.le_trans hB hz.size) (hSt.later hz) (hRf.later hz) hd a1 a2 a3 a4 rfl rfl rfl
    exact ⟨this.1.up (by omega), (hz.mono hB).trans this.2⟩
/-- What Collect does to both. -/
structure PairCo (w : World) (B p q N : Nat) (s : StD) (n : Nat) (O O2 : Nat → Prop) (M : Nat) : Prop where
  lt1 : ∀ k, O k → B ≤ k ∧ k < w.heap.size
  lt2 : ∀ k, O2 k → B ≤ k ∧ k < w.heap.size
  co : ∀ wz, Below w.heap.size w wz → Calls Tryd.prog 17 #[.pointer (some ⟨p, 0, none⟩), .int .u64 (n : Int)] wz fun e w' => e = .returned (.tuple #[.int .i64 (colN s n), .int .i64 (colE s n)]) ∧ StoreAt w' B p M (ext O wz w') (colS s n) ∧ Out O wz w'
  rc : ∀ wz w2, Below w.heap.size w wz → Out O wz w2 → Calls Tryd.prog 37 #[.pointer (some ⟨q, 0, none⟩), .int .u64 (n : Int)] w2 fun e w' => e = .returned (.tuple #[.int .i64 (colN s n), .int .i64 (colE s n)]) ∧ RefAt w' B q (ext O2 w2 w') (items (colS s n).ks) (colS s n).last (colS s n).low ∧ Out O2 w2 w'
  st : ∀ wz w2 w3, Below w.heap.size w wz → StoreAt w2 B p M (ext O wz w2) (colS s n) → Out O wz w2 → RefAt w3 B q (ext O2 w2 w3) (items (colS s n).ks) (colS s n).last (colS s n).low → Out O2 w2 w3 → PairAt w3 B p q (N + 12) (colS s n) ∧ Below B w w3
theorem rCol_eq {s : StD} (hs : StOK s) (n : Nat) : rColN (items s.ks) s.last s.low n = colN s n ∧ rColE s.last s.low n = colE s n ∧ rColLow s.last s.low n = (colS s n).low ∧ (colS s n).last = s.last := by
  have e : rColOK s.last s.low n = colOK s n := rfl
  refine ⟨?_, by rw [rColE, colE, e], ?_, ?_⟩
  · rw [rColN, colN, e]
    split
    · have : (items s.ks).filter (needF (items s.ks) n) = items (colK s.ks n) := by
        rw [← items_colK hs.rises hs.falls]
        exact List.filter_congr fun x _ => needF_items hs.rises n x
      rw [this]
      rfl
    · rfl
  · rw [rColLow, colS, e]; split <;> rfl
  · rw [colS]; split <;> rfl
theorem pair_co {w : World} {B p q N : Nat} {s : StD} (h : PairAt w B p q N s) (hB : B ≤ w.heap.size) (hs : StOK s) (n : Nat) (hN : N ≤ 700000) (hI : (items s.ks).length ≤ 700000) : ∃ O O2 M, PairCo w B p q N s n O O2 M := by
  obtain ⟨O, O2, M, hM, hSt, hRf, hd⟩ := h
  have he := rCol_eq hs n
  refine ⟨O, O2, M, ⟨hSt.lt, hRf.lt, fun wz hz => ?_, fun wz w2 hz ho => ?_, fun wz w2 w3 hz a1 a2 a3 a4 => ?_⟩⟩
  · exact col14_any (hSt.later hz) (Nat.le_trans hB hz.size) hs n (by omega) (by omega)
  · have h9 := refCol_any ((hRf.later hz).out ho fun x h2 h1 => hd x h1 h2) (Nat.le_trans (Nat.le_trans hB hz.size) ho.size) n (by omega)
    refine h9.mono ?_
    rintro e w' ⟨rfl, r1, r2⟩
    rw [rColL_items hs, he.2.2.1] at r1
    exact ⟨by rw [he.1, he.2.1], by rw [he.2.2.2]; exact r1, r2⟩
  · have := pair_step (Nat.le_trans hB hz.size) (hSt.later hz) (hRf.later hz) hd a1 a2 a3 a4 rfl rfl rfl
    exact ⟨this.1.up (by omega), (hz.mono hB).trans this.2⟩
theorem rGet_eq {s : StD} (hs : StOK s) (k : ByteArray) (n : Nat) : rGetV (items s.ks) s.low k n = getV s k n ∧ rOldE s.low n = oldE s n := by
  refine ⟨?_, rfl⟩
  rw [rGetV, getV, seenF_items hs.rises]
end Go.Proofs.YtboiafchmdflpaaDoor
