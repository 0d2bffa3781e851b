/- Layer 2's writers: bytes in memory; Clone, Put, PutText and the reference's. -/
import Derived.Test.YtfblemdpimbciaaDoorVal04
import Derived.Test.YtfblemdpimbciaaDoorRow
import Derived.WalkSpells
import Derived.Lib.AppendStr
import Derived.IntWalk
import Derived.Handy
import Derived.Outline
namespace Go.Proofs.YtfblemdpimbciaaDoor
open Go.RowKit Go.Shelf

theorem calls_bq {P : Program} {f : FuncId} {args : Array Value} {w : World} {b c : Bool} (e : b = c)
    (h : Calls P f args w fun e w' => e = .returned (.bool b) ∧ Below w.heap.size w w') :
    Calls P f args w fun e w' => e = .returned (.bool c) ∧ Below w.heap.size w w' := by
  rw [e] at h; exact h
def byC (l : List UInt8) : List Value := l.map fun b => .int .u8 (b.toNat : Int)
def BysAt (w : World) (A : Option Addr) (l : List UInt8) : Prop := CellsAt w A l.length fun i => .int .u8 ((l.getD i 0).toNat : Int)
/-- Bytes handed back, in a row of the call's own. -/
def OwnBys (w : World) (l : List UInt8) (e : Ending) (w' : World) : Prop :=
  ∃ v, e = .returned v ∧ w'.ownsRow w.heap.size 5 1 v l.length (byC l) ∧ Below w.heap.size w w'
/-- A number's n bytes, the greatest first. -/
def beL (x n : Nat) : List UInt8 := (List.range n).map fun i => UInt8.ofNat (x / 2 ^ (8 * (n - 1 - i)))
theorem beL_length (x n : Nat) : (beL x n).length = n := by simp [beL]
theorem beL_take (x n k : Nat) (h : k < n) : (beL x n).take (k + 1) = (beL x n).take k ++ [UInt8.ofNat (x / 2 ^ (8 * (n - 1 - k)))] := by
  rw [List.take_succ_eq_append_getElem (by rw [beL_length]; exact h)]
  congr 2
  simp [beL]
theorem zint_eq {k : IntKind} {a b : Int} (h : a = b) : Value.int k a = Value.int k b := by rw [h]
theorem be_byte (x m : Nat) : (x : Int) / 2 ^ m % 256 = ((UInt8.ofNat (x / 2 ^ m)).toNat : Int) := by
  rw [UInt8.toNat_ofNat']
  rw [show (2 : Nat) ^ 8 = 256 from rfl, Int.natCast_emod, Int.natCast_ediv, Int.natCast_pow]
  rfl
theorem byC_append (l m : List UInt8) : byC (l ++ m) = byC l ++ byC m := by simp [byC]
theorem byC_length (l : List UInt8) : (byC l).length = l.length := by simp [byC]
theorem info_u8 : (Tryd.prog.info? 5).map (fun i => (i.zero, i.size, i.bytes)) = some (some (.int .u8 0), 1, 1) := by kernel_rfl
theorem bys_none {w : World} {l : List UInt8} (h : BysAt w none l) : l = [] := by
  cases l with
  | nil => rfl
  | cons a l => obtain ⟨b, off, e, _⟩ := h 0 (by simp); cases e
theorem bys_zero {w : World} {A : Option Addr} {l : List UInt8} (h : BysAt w A l) : A = none → l.length = 0 := by
  rintro rfl; rw [bys_none h]; rfl
theorem bys_news {w : World} {A : Option Addr} {l : List UInt8} (h : BysAt w A l) : ∀ ad, A = some ad → ∀ j u, (byC l)[j]? = some u → w.cell? (ad.add j) = some u := by
  rintro ad rfl j u hj
  have hj' : j < l.length := by
    have := (List.getElem?_eq_some_iff.1 hj).1
    simpa [byC] using this
  obtain ⟨b', off', e, hc⟩ := h j hj'
  cases e
  rw [Go.WideShapes.add_plain, hc, ← hj]
  simp [byC, List.getD_eq_getElem?_getD, hj']
theorem bys_one (l : List UInt8) : ∀ u ∈ byC l, u.oneCell' = true := fun u hu => by
  obtain ⟨x, _, rfl⟩ := List.mem_map.1 hu; rfl
theorem own_bys {w : World} {base : Nat} {e : TypeId} {v : Value} {l : List UInt8} (h : w.ownsRow base e 1 v l.length (byC l)) :
    ∃ (A : Option Addr) (cap : Nat), v = .slice A l.length cap ∧ l.length ≤ cap ∧ BysAt w A l := by
  unfold byC at h
  rw [map_range_getD l 0] at h
  exact own_cells h

theorem text_row {w : World} {base : Nat} {T : TypeId} {v : Value} {m : List UInt8} {s : ByteArray} (h : w.ownsRow base T 1 v (m.length + s.size) (byC m ++ Lib.strCells s)) : w.ownsRow base T 1 v (m ++ s.data.toList).length (byC (m ++ s.data.toList)) := by
  rw [byC_append, show (m ++ s.data.toList).length = m.length + s.size by rw [List.length_append, Array.length_toList]; rfl]
  exact h
set_option maxRecDepth 100000 in
theorem clone02_any (l : List UInt8) (A : Option Addr) (ca : Nat) (w : World) (hA : BysAt w A l) (hn : l.length ≤ 1000000) :
    Calls Tryd.prog 36 #[.slice A l.length ca] w (OwnBys w l) := by
  have q22 : ∀ (w : World) (a : Option Addr) (n c n' c' : Nat), (binOp .eql 31 (.slice a n c) (.slice none n' c')).run Tryd.prog w = .ok (.bool a.isNone) w := fun w a n c n' c' => Lib.run_eql_slice_nil w _ _ a n c n' c' Tryd.underlying31
  obtain ⟨i0, hi, hz0, hz1, hz2⟩ := info_parts info_u8
  have HA := Lib.hid hA
  cases A with
  | none =>
    have hl := bys_none hA
    clear hA
    go_enter Tryd.func36, Tryd.ntmps36
    go_wp2
    go_ret
    subst hl
    exact ⟨_, rfl, own_nil _ _ _ _, Below.refl _ _⟩
  | some a =>
    clear hA
    go_enter Tryd.func36, Tryd.ntmps36
    go_wp2_with (at_builtin; refine wpList_append_own _ rfl _ _ 31 rfl w.heap.size 5 i0 (.int .u8 0) 1 1 Tryd.underlying31 hi hz0 hz1 hz2 rfl (by decide) _ _ _ rfl (World.ownsRow_made w #[] 0 (Nat.le_refl _) (Nat.zero_le _) (by simp)) a l.length ca (byC l) rfl (by rw [byC_length]; omega) (bys_news (CellsAt.later HA.out (below1 _ _)) a rfl) (bys_one _) (by rw [Nat.zero_add]; exact le_maxLen hn) (by omega) (by simp) ?_)
    intro v' w1 hown hgrow _
    go_wp2
    go_ret
    exact ⟨v', rfl, by simpa using hown, ((Below.refl _ w).alloc (Nat.le_refl _) _).grown hgrow (by simp) (by intro k hk; simp [Value.ownBlock] at hk; omega)⟩

set_option maxRecDepth 100000 in
set_option maxHeartbeats 2000000 in
theorem put02_any (l : List UInt8) (x n : Nat) (A : Option Addr) (ca : Nat) (w : World) (hA : BysAt w A l) (hn : l.length ≤ 900000) (hn8 : n ≤ 8) :
    Calls Tryd.prog 37 #[.slice A l.length ca, .int .u64 x, .int .i64 n] w (OwnBys w (l ++ beL x n)) := by
  obtain ⟨i0, hi, hz0, hz1, hz2⟩ := info_parts info_u8
  have HC := Lib.hid (clone02_any l A ca w hA (by omega))
  clear hA
  go_enter Tryd.func37, Tryd.ntmps37
  go_wp2_with (go_at_call 36; refine HC.out.mono ?_; rintro e w1 ⟨v1, rfl, hO, hb⟩; replace hO := Lib.hid hO)
  go_loopw [0, 7] (fun v i wr => ∃ k : Nat, k ≤ n ∧ i = .int .i64 ((n : Int) - 1 - k) ∧ Hid (wr.ownsRow w.heap.size 5 1 v (l.length + k) (byC (l ++ (beL x n).take k))) ∧ Below w.heap.size w wr) (fun _ i _ => (intOf i + 1).toNat)
  case atStart => exact ⟨0, Nat.zero_le _, zint_eq (by omega), by simpa using hO, hb⟩
  case round =>
    obtain ⟨k, hk, rfl, HO, hw⟩ := hrel
    have HL : Hid ((beL x n).take n = beL x n) := by show _ = _; rw [← beL_length x n, beL_length, List.take_of_length_le (by rw [beL_length]; exact Nat.le_refl _)]
    have HN : Hid ((beL x n).length = n) := beL_length x n
    by_cases hlt : k < n
    · have h0 : (0 : Int) ≤ (n : Int) - 1 - k := by omega
      have HT := Lib.hid (beL_take x n k hlt)
      have HB := Lib.hid (be_byte x (8 * (n - 1 - k)))
      go_wp2_with (at_builtin; refine wpList_append_own _ rfl _ _ 31 rfl w.heap.size 5 i0 (.int .u8 0) 1 1 Tryd.underlying31 hi hz0 hz1 hz2 rfl (by decide) _ _ _ rfl (own_keep HO.out (below1 _ _)) ⟨wr.heap.size, 0, none⟩ 1 1 [.int .u8 ((x : Int) / 2 ^ (8 * (n - 1 - k)) % 256)] rfl rfl (cell_one_new _ _ _) one_cell_int (le_maxLen (by omega)) (by omega) (Nat.le_trans hw.size (below1 _ _).size) ?_; intro v3 w3 HO3 hg3 _; replace hw := own_below (hw.alloc hw.size _) (Nat.le_refl _) (own_keep HO.out (below1 _ _)) hg3; replace HO3 := Lib.hid HO3; clear hg3)
      go_roundw
      case rel => exact ⟨k + 1, by omega, zint_eq (by omega), by show World.ownsRow _ _ _ _ _ _ _; rw [HT.out, ← List.append_assoc, byC_append]; have := HO3.out; rw [HB.out] at this; exact this, hw⟩
      case measure => simp [intOf]; omega
    · have ek : k = n := by omega
      have h0 : ¬ (0 : Int) ≤ (n : Int) - 1 - k := by omega
      go_wp2
      go_ret
      have := HO.out
      rw [ek, HL.out] at this
      refine ⟨_, rfl, ?_, hw⟩
      rw [List.length_append, HN.out]
      exact this

set_option maxRecDepth 100000 in
set_option maxHeartbeats 2000000 in
theorem putText02_any (l : List UInt8) (s : ByteArray) (A : Option Addr) (ca : Nat) (w : World) (hA : BysAt w A l) (hn : l.length ≤ 800000) (hs : s.size ≤ 1000) :
    Calls Tryd.prog 38 #[.slice A l.length ca, .string s] w (OwnBys w (l ++ beL s.size 2 ++ s.data.toList)) := by
  obtain ⟨i0, hi, hz0, hz1, hz2⟩ := info_parts info_u8
  have HC := Lib.hid (put02_any l s.size 2 A ca w hA (by omega) (by decide))
  clear hA
  have hmm : min (s.size : Int) 65535 = (s.size : Int) := by omega
  have hmn : min s.size 65535 = s.size := by omega
  go_enter Tryd.func38, Tryd.ntmps38
  go_wp2_with (first
    | (go_at_call 37; refine HC.out.mono ?_; rintro e w1 ⟨v1, rfl, hO, hb⟩; replace hO := Lib.hid hO)
    | (have _h := hO; at_builtin; refine Lib.wpList_append_own_string _ rfl _ _ 31 9 rfl w.heap.size 5 i0 Tryd.underlying31 Tryd.underlying9 hi hz0 hz1 hz2 v1 (l ++ beL s.size 2).length (byC (l ++ beL s.size 2)) rfl hO.out s rfl (le_maxLen (by rw [List.length_append, beL_length]; omega)) (by rw [List.length_append, beL_length]; omega) hb.size ?_; intro v3 w3 HO3 hg3 _; replace hb := own_below hb (Nat.le_refl _) hO.out hg3; replace HO3 := Lib.hid HO3; clear hg3))
  go_ret
  refine ⟨_, rfl, ?_, hb⟩
  have := HO3.out
  exact text_row this
set_option maxRecDepth 100000 in
set_option maxHeartbeats 2000000 in
theorem refPut02_any (l : List UInt8) (x n : Nat) (A : Option Addr) (ca : Nat) (w : World) (hA : BysAt w A l) (hn : l.length ≤ 900000) (hn8 : n ≤ 8) :
    Calls Tryd.prog 48 #[.slice A l.length ca, .int .u64 x, .int .i64 n] w (OwnBys w (l ++ beL x n)) := by
  obtain ⟨i0, hi, hz0, hz1, hz2⟩ := info_parts info_u8
  have HA := Lib.hid hA
  clear hA
  go_enter Tryd.func48, Tryd.ntmps48
  go_wp2_with (at_builtin; refine wpList_append_row rfl _ _ 31 rfl w.heap.size 5 i0 (.int .u8 0) 1 1 Tryd.underlying31 hi hz0 hz1 hz2 rfl (by decide) (.slice none 0 0) 0 [] rfl (own_nil _ _ _ _) A l.length ca (byC l) rfl (by rw [byC_length]; omega) (bys_zero HA.out) (bys_news HA.out) (bys_one _) (le_maxLen (by omega)) (by omega) (Nat.le_refl _) ?_; intro v3 w3 HO3 hg3 _; have hw3 : Below w.heap.size w w3 := (Below.refl _ w).grown hg3 (Nat.le_refl _) (by intro k hk; cases hk); replace HO3 := Lib.hid HO3; clear hg3)
  go_loopw [7, 8] (fun v i wr => ∃ k : Nat, k ≤ 8 ∧ i = .int .i64 k ∧ Hid (wr.ownsRow w.heap.size 5 1 v (l.length + (k + n - 8)) (byC (l ++ (beL x n).take (k + n - 8)))) ∧ Below w.heap.size w wr) (fun _ i _ => 8 - (intOf i).toNat)
  case atStart => exact ⟨0, by omega, rfl, by
    have e : 0 + n - 8 = 0 := by omega
    rw [e]
    simpa [Hid] using HO3.out, hw3⟩
  case round =>
    obtain ⟨k, hk, rfl, HO, hw⟩ := hrel
    have HL : Hid ((beL x n).take n = beL x n) := by show _ = _; rw [List.take_of_length_le (by rw [beL_length]; exact Nat.le_refl _)]
    have HN : Hid ((beL x n).length = n) := beL_length x n
    by_cases hlt : k < 8
    · by_cases hge : 8 - n ≤ k
      · have HT : Hid ((beL x n).take (k + 1 + n - 8) = (beL x n).take (k + n - 8) ++ [UInt8.ofNat (x / 2 ^ (8 * (n - 1 - (k + n - 8))))]) := by
          show _ = _
          rw [show k + 1 + n - 8 = (k + n - 8) + 1 by omega]
          exact beL_take x n _ (by omega)
        have HB : Hid ((x : Int) / 2 ^ (8 * (7 - k)) % 256 = ((UInt8.ofNat (x / 2 ^ (8 * (n - 1 - (k + n - 8))))).toNat : Int)) := by
          show _ = _
          rw [show 7 - k = n - 1 - (k + n - 8) by omega]
          exact be_byte x _
        have HE : Hid (l.length + (k + 1 + n - 8) = l.length + (k + n - 8) + 1) := by show _ = _; omega
        go_wp2_with (at_builtin; refine wpList_append_own _ rfl _ _ 31 rfl w.heap.size 5 i0 (.int .u8 0) 1 1 Tryd.underlying31 hi hz0 hz1 hz2 rfl (by decide) _ _ _ rfl (own_keep HO.out (below1 _ _)) ⟨wr.heap.size, 0, none⟩ 1 1 [.int .u8 ((x : Int) / 2 ^ (8 * (7 - k)) % 256)] rfl rfl (cell_one_new _ _ _) one_cell_int (le_maxLen (by omega)) (by omega) (Nat.le_trans hw.size (below1 _ _).size) ?_; intro v3 w3 HO3 hg3 _; replace hw := own_below (hw.alloc hw.size _) (Nat.le_refl _) (own_keep HO.out (below1 _ _)) hg3; replace HO3 := Lib.hid HO3; clear hg3)
        go_roundw
        case rel => exact ⟨k + 1, by omega, by go_num, by show World.ownsRow _ _ _ _ _ _ _; rw [HT.out, HE.out, ← List.append_assoc, byC_append]; have := HO3.out; rw [HB.out] at this; exact this, hw⟩
        case measure => simp [intOf]; omega
      · go_wp2_with fail
        go_roundw
        case rel => exact ⟨k + 1, by omega, by go_num, by
          have e : k + 1 + n - 8 = k + n - 8 := by omega
          rw [e]; exact HO, hw⟩
        case measure => simp [intOf]; omega
    · have ek : k = 8 := by omega
      go_wp2
      go_ret
      have := HO.out
      rw [ek, show 8 + n - 8 = n by omega, HL.out] at this
      refine ⟨_, rfl, ?_, hw⟩
      rw [List.length_append, HN.out]
      exact this

set_option maxRecDepth 100000 in
set_option maxHeartbeats 2000000 in
theorem refPutText02_any (l : List UInt8) (s : ByteArray) (A : Option Addr) (ca : Nat) (w : World) (hA : BysAt w A l) (hn : l.length ≤ 800000) (hs : s.size ≤ 1000) :
    Calls Tryd.prog 49 #[.slice A l.length ca, .string s] w (OwnBys w (l ++ beL s.size 2 ++ s.data.toList)) := by
  obtain ⟨i0, hi, hz0, hz1, hz2⟩ := info_parts info_u8
  have HC := Lib.hid (refPut02_any l s.size 2 A ca w hA (by omega) (by decide))
  clear hA
  have h65 : ¬ (65535 : Int) < (s.size : Int) := by omega
  go_enter Tryd.func49, Tryd.ntmps49
  go_wp2_with (first
    | (go_at_call 48; refine HC.out.mono ?_; rintro e w1 ⟨v1, rfl, hO, hb⟩; replace hO := Lib.hid hO)
    | (have _h := hO; at_builtin; refine Lib.wpList_append_own_string _ rfl _ _ 31 9 rfl w.heap.size 5 i0 Tryd.underlying31 Tryd.underlying9 hi hz0 hz1 hz2 v1 (l ++ beL s.size 2).length (byC (l ++ beL s.size 2)) rfl hO.out s rfl (le_maxLen (by rw [List.length_append, beL_length]; omega)) (by rw [List.length_append, beL_length]; omega) hb.size ?_; intro v3 w3 HO3 hg3 _; replace hb := own_below hb (Nat.le_refl _) hO.out hg3; replace HO3 := Lib.hid HO3; clear hg3))
  go_ret
  refine ⟨_, rfl, ?_, hb⟩
  have := HO3.out
  exact text_row this
end Go.Proofs.YtfblemdpimbciaaDoor
