/- Layer 2's writers: bytes in memory; Clone, Put, PutText and the reference's. -/
import Derived.Test.YtboiafchmdflpaaGreatDoorVal04
import Derived.Test.YtboiafchmdflpaaGreatDoorG1
import Derived.WalkSpells
import Derived.Lib.AppendStr
import Derived.IntWalk
import Derived.Handy
import Derived.Outline
namespace Go.Proofs.YtboiafchmdflpaaGreatDoor
open Go.RowKit Go.Shelf

theorem calls_bq {P : Program} {f : FuncId} {args : Array Value} {w : World} {b c : Bool} (e : b = c)
    (h : Calls P f args w fun e w' => e = .returned (.bool b) ∧ Below w.heap.size w w') :
    Calls P f args w fun e w' => e = .returned (.bool c) ∧ Below w.heap.size w w' := by
  rw [e] at h; exact h
def byC (l : List UInt8) : List Value := l.map fun b => .int .u8 (b.toNat : Int)
def BysAt (w : World) (A : Option Addr) (l : List UInt8) : Prop := CellsAt w A l.length fun i => .int .u8 ((l.getD i 0).toNat : Int)
/-- Bytes handed back, in a row of the call's own. -/
def OwnBys (w : World) (l : List UInt8) (e : Ending) (w' : World) : Prop :=
  ∃ v, e = .returned v ∧ w'.ownsRow w.heap.size 5 1 v l.length (byC l) ∧ Below w.heap.size w w'
/-- A number's n bytes, the greatest first. -/
def beL (x n : Nat) : List UInt8 := (List.range n).map fun i => UInt8.ofNat (x / 2 ^ (8 * (n - 1 - i)))
theorem beL_length (x n : Nat) : (beL x n).length = n := by simp [beL]
theorem beL_take (x n k : Nat) (h : k < n) : (beL x n).take (k + 1) = (beL x n).take k ++ [UInt8.ofNat (x / 2 ^ (8 * (n - 1 - k)))] := by
  rw [List.take_succ_eq_append_getElem (by rw [beL_length]; exact h)]
  congr 2
  simp [beL]
theorem zint_eq {k : IntKind} {a b : Int} (h : a = b) : Value.int k a = Value.int k b := by rw [h]
theorem be_byte (x m : Nat) : (x : Int) / 2 ^ m % 256 = ((UInt8.ofNat (x / 2 ^ m)).toNat : Int) := by
  rw [UInt8.toNat_ofNat']
  rw [show (2 : Nat) ^ 8 = 256 from rfl, Int.natCast_emod, Int.natCast_ediv, Int.natCast_pow]
  rfl
theorem byC_append (l m : List UInt8) : byC (l ++ m) = byC l ++ byC m := by simp [byC]
theorem byC_length (l : List UInt8) : (byC l).length = l.length := by simp [byC]
theorem info_u8 : (Tryz.prog.info? 5).map (fun i => (i.zero, i.size, i.bytes)) = some (some (.int .u8 0), 1, 1) := by kernel_rfl
theorem bys_none {w : World} {l : List UInt8} (h : BysAt w none l) : l = [] := by
  cases l with
  | nil => rfl
  | cons a l => obtain ⟨b, off, e, _⟩ := h 0 (by simp); cases e
theorem bys_zero {w : World} {A : Option Addr} {l : List UInt8} (h : BysAt w A l) : A = none → l.length = 0 := by
  rintro rfl; rw [bys_none h]; rfl
theorem bys_news {w : World} {A : Option Addr} {l : List UInt8} (h : BysAt w A l) : ∀ ad, A = some ad → ∀ j u, (byC l)[j]? = some u → w.cell? (ad.add j) = some u := by
  rintro ad rfl j u hj
  have hj' : j < l.length := by
    have := (List.getElem?_eq_some_iff.1 hj).1
    simpa [byC] using this
  obtain ⟨b', off', e, hc⟩ := h j hj'
  cases e
  rw [Go.WideShapes.add_plain, hc, ← hj]
  simp [byC, List.getD_eq_getElem?_getD, hj']
theorem bys_one (l : List UInt8) : ∀ u ∈ byC l, u.oneCell' = true := fun u hu => by
  obtain ⟨x, _, rfl⟩ := List.mem_map.1 hu; rfl
theorem own_bys {w : World} {base : Nat} {e : TypeId} {v : Value} {l : List UInt8} (h : w.ownsRow base e 1 v l.length (byC l)) :
    ∃ (A : Option Addr) (cap : Nat), v = .slice A l.length cap ∧ l.length ≤ cap ∧ BysAt w A l := by
  unfold byC at h
  rw [map_range_getD l 0] at h
  exact own_cells h

theorem text_row {w : World} {base : Nat} {T : TypeId} {v : Value} {m : List UInt8} {s : ByteArray} (h : w.ownsRow base T 1 v (m.length + s.size) (byC m ++ Lib.strCells s)) : w.ownsRow base T 1 v (m ++ s.data.toList).length (byC (m ++ s.data.toList)) := by
  rw [byC_append, show (m ++ s.data.toList).length = m.length + s.size by rw [List.length_append, Array.length_toList]; rfl]
  exact h
set_option maxRecDepth 100000 in
theorem clone02_any (l : List UInt8) (A : Option Addr) (ca : Nat) (w : World) (hA : BysAt w A l) (hn : l.length ≤ 1000000) :
    Calls Tryz.prog 53 #[.slice A l.length ca] w (OwnBys w l) := by
  have q22 : ∀ (w : World) (a : Option Addr) (n c n' c' : Nat), (binOp .eql 39 (.slice a n c) (.slice none n' c')).run Tryz.prog w = .ok (.bool a.isNone) w := fun w a n c n' c' => Lib.run_eql_slice_nil w _ _ a n c n' c' Tryz.underlying39
  obtain ⟨i0, hi, hz0, hz1, hz2⟩ := info_parts info_u8
  have HA := Lib.hid hA
  cases A with
  | none =>
    have hl := bys_none hA
    clear hA
    go_enter Tryz.func53, Tryz.ntmps53
    go_wp2
    go_ret
    subst hl
    exact ⟨_, rfl, own_nil _ _ _ _, Below.refl _ _⟩
  | some a =>
    clear hA
    go_enter Tryz.func53, Tryz.ntmps53
    go_wp2_with (at_builtin; refine wpList_append_own _ rfl _ _ 39 rfl w.heap.size 5 i0 (.int .u8 0) 1 1 Tryz.underlying39 hi hz0 hz1 hz2 rfl (by decide) _ _ _ rfl (World.ownsRow_made w #[] 0 (Nat.le_refl _) (Nat.zero_le _) (by simp)) a l.length ca (byC l) rfl (by rw [byC_length]; omega) (bys_news (CellsAt.later HA.out (below1 _ _)) a rfl) (bys_one _) (by rw [Nat.zero_add]; exact le_maxLen hn) (by omega) (by simp) ?_)
    intro v' w1 hown hgrow _
    go_wp2
    go_ret
    exact ⟨v', rfl, by simpa using hown, ((Below.refl _ w).alloc (Nat.le_refl _) _).grown hgrow (by simp) (by intro k hk; simp [Value.ownBlock] at hk; omega)⟩

set_option maxRecDepth 100000 in
set_option maxHeartbeats 2000000 in
theorem put02_any (l : List UInt8) (x n : Nat) (A : Option Addr) (ca : Nat) (w : World) (hA : BysAt w A l) (hn : l.length ≤ 900000) (hn8 : n ≤ 8) :
    Calls Tryz.prog 27 #[.slice A l.length ca, .int .u64 x, .int .i64 n] w (OwnBys w (l ++ beL x n)) := by
  obtain ⟨i0, hi, hz0, hz1, hz2⟩ := info_parts info_u8
  have HC := Lib.hid (clone02_any l A ca w hA (by omega))
  clear hA
  go_enter Tryz.func27, Tryz.ntmps27
  go_wp2_with (go_at_call 53; refine HC.out.mono ?_; rintro e w1 ⟨v1, rfl, hO, hb⟩; replace hO := Lib.hid hO)
  go_loopw [0, 7] (fun v i wr => ∃ k : Nat, k ≤ n ∧ i = .int .i64 ((n : Int) - 1 - k) ∧ Hid (wr.ownsRow w.heap.size 5 1 v (l.length + k) (byC (l ++ (beL x n).take k))) ∧ Below w.heap.size w wr) (fun _ i _ => (intOf i + 1).toNat)
  case atStart => exact ⟨0, Nat.zero_le _, zint_eq (by omega), by simpa using hO, hb⟩
  case round =>
    obtain ⟨k, hk, rfl, HO, hw⟩ := hrel
    have HL : Hid ((beL x n).take n = beL x n) := by show _ = _; rw [← beL_length x n, beL_length, List.take_of_length_le (by rw [beL_length]; exact Nat.le_refl _)]
    have HN : Hid ((beL x n).length = n) := beL_length x n
    by_cases hlt : k < n
    · have h0 : (0 : Int) ≤ (n : Int) - 1 - k := by omega
      have HT := Lib.hid (beL_take x n k hlt)
      have HB := Lib.hid (be_byte x (8 * (n - 1 - k)))
      go_wp2_with (at_builtin; refine wpList_append_own _ rfl _ _ 39 rfl w.heap.size 5 i0 (.int .u8 0) 1 1 Tryz.underlying39 hi hz0 hz1 hz2 rfl (by decide) _ _ _ rfl (own_keep HO.out (below1 _ _)) ⟨wr.heap.size, 0, none⟩ 1 1 [.int .u8 ((x : Int) / 2 ^ (8 * (n - 1 - k)) % 256)] rfl rfl (cell_one_new _ _ _) one_cell_int (le_maxLen (by omega)) (by omega) (Nat.le_trans hw.size (below1 _ _).size) ?_; intro v3 w3 HO3 hg3 _; replace hw := own_below (hw.alloc hw.size _) (Nat.le_refl _) (own_keep HO.out (below1 _ _)) hg3; replace HO3 := Lib.hid HO3; clear hg3)
      go_roundw
      case rel => exact ⟨k + 1, by omega, zint_eq (by omega), by show World.ownsRow _ _ _ _ _ _ _; rw [HT.out, ← List.append_assoc, byC_append]; have := HO3.out; rw [HB.out] at this; exact this, hw⟩
      case measure => simp [intOf]; omega
    · have ek : k = n := by omega
      have h0 : ¬ (0 : Int) ≤ (n : Int) - 1 - k := by omega
      go_wp2
      go_ret
      have := HO.out
      rw [ek, HL.out] at this
      refine ⟨_, rfl, ?_, hw⟩
      rw [List.length_append, HN.out]
      exact this

set_option maxRecDepth 100000 in
set_option maxHeartbeats 2000000 in
theorem putText02_any (l : List UInt8) (s : ByteArray) (A : Option Addr) (ca : Nat) (w : World) (hA : BysAt w A l) (hn : l.length ≤ 800000) (hs : s.size ≤ 1000) :
    Calls Tryz.prog 30 #[.slice A l.length ca, .string s] w (OwnBys w (l ++ beL s.size 2 ++ s.data.toList)) := by
  obtain ⟨i0, hi, hz0, hz1, hz2⟩ := info_parts info_u8
  have HC := Lib.hid (put02_any l s.size 2 A ca w hA (by omega) (by decide))
  clear hA
  have hmm : min (s.size : Int) 65535 = (s.size : Int) := by omega
  have hmn : min s.size 65535 = s.size := by omega
  go_enter Tryz.func30, Tryz.ntmps30
  go_wp2_with (first
    | (go_at_call 27; refine HC.out.mono ?_; rintro e w1 ⟨v1, rfl, hO, hb⟩; replace hO := Lib.hid hO)
    | (have _h := hO; at_builtin; refine Lib.wpList_append_own_string _ rfl _ _ 39 9 rfl w.heap.size 5 i0 Tryz.underlying39 Tryz.underlying9 hi hz0 hz1 hz2 v1 (l ++ beL s.size 2).length (byC (l ++ beL s.size 2)) rfl hO.out s rfl (le_maxLen (by rw [List.length_append, beL_length]; omega)) (by rw [List.length_append, beL_length]; omega) hb.size ?_; intro v3 w3 HO3 hg3 _; replace hb := own_below hb (Nat.le_refl _) hO.out hg3; replace HO3 := Lib.hid HO3; clear hg3))
  go_ret
  refine ⟨_, rfl, ?_, hb⟩
  have := HO3.out
  exact text_row this
set_option maxRecDepth 100000 in
set_option maxHeartbeats 2000000 in
theorem refPut02_any (l : List UInt8) (x n : Nat) (A : Option Addr) (ca : Nat) (w : World) (hA : BysAt w A l) (hn : l.length ≤ 900000) (hn8 : n ≤ 8) :
    Calls Tryz.prog 32 #[.slice A l.length ca, .int .u64 x, .int .i64 n] w (OwnBys w (l ++ beL x n)) := by
  obtain ⟨i0, hi, hz0, hz1, hz2⟩ := info_parts info_u8
  have HA := Lib.hid hA
  clear hA
  go_enter Tryz.func32, Tryz.ntmps32
  go_wp2_with (at_builtin; refine wpList_append_row rfl _ _ 39 rfl w.heap.size 5 i0 (.int .u8 0) 1 1 Tryz.underlying39 hi hz0 hz1 hz2 rfl (by decide) (.slice none 0 0) 0 [] rfl (own_nil _ _ _ _) A l.length ca (byC l) rfl (by rw [byC_length]; omega) (bys_zero HA.out) (bys_news HA.out) (bys_one _) (le_maxLen (by omega)) (by omega) (Nat.le_refl _) ?_; intro v3 w3 HO3 hg3 _; have hw3 : Below w.heap.size w w3 := (Below.refl _ w).grown hg3 (Nat.le_refl _) (by intro k hk; cases hk); replace HO3 := Lib.hid HO3; clear hg3)
  go_loopw [7, 8] (fun v i wr => ∃ k : Nat, k ≤ 8 ∧ i = .int .i64 k ∧ Hid (wr.ownsRow w.heap.size 5 1 v (l.length + (k + n - 8)) (byC (l ++ (beL x n).take (k + n - 8)))) ∧ Below w.heap.size w wr) (fun _ i _ => 8 - (intOf i).toNat)
  case atStart => exact ⟨0, by omega, rfl, by
    have e : 0 + n - 8 = 0 := by omega
    rw [e]
    simpa [Hid] using HO3.out, hw3⟩
  case round =>
    obtain ⟨k, hk, rfl, HO, hw⟩ := hrel
    have HL : Hid ((beL x n).take n = beL x n) := by show _ = _; rw [List.take_of_length_le (by rw [beL_length]; exact Nat.le_refl _)]
    have HN : Hid ((beL x n).length = n) := beL_length x n
    by_cases hlt : k < 8
    · by_cases hge : 8 - n ≤ k
      · have HT : Hid ((beL x n).take (k + 1 + n - 8) = (beL x n).take (k + n - 8) ++ [UInt8.ofNat (x / 2 ^ (8 * (n - 1 - (k + n - 8))))]) := by
          show _ = _
          rw [show k + 1 + n - 8 = (k + n - 8) + 1 by omega]
          exact beL_take x n _ (by omega)
        have HB : Hid ((x : Int) / 2 ^ (8 * (7 - k)) % 256 = ((UInt8.ofNat (x / 2 ^ (8 * (n - 1 - (k + n - 8))))).toNat : Int)) := by
          show _ = _
          rw [show 7 - k = n - 1 - (k + n - 8) by omega]
          exact be_byte x _
        have HE : Hid (l.length + (k + 1 + n - 8) = l.length + (k + n - 8) + 1) := by show _ = _; omega
        go_wp2_with (at_builtin; refine wpList_append_own _ rfl _ _ 39 rfl w.heap.size 5 i0 (.int .u8 0) 1 1 Tryz.underlying39 hi hz0 hz1 hz2 rfl (by decide) _ _ _ rfl (own_keep HO.out (below1 _ _)) ⟨wr.heap.size, 0, none⟩ 1 1 [.int .u8 ((x : Int) / 2 ^ (8 * (7 - k)) % 256)] rfl rfl (cell_one_new _ _ _) one_cell_int (le_maxLen (by omega)) (by omega) (Nat.le_trans hw.size (below1 _ _).size) ?_; intro v3 w3 HO3 hg3 _; replace hw := own_below (hw.alloc hw.size _) (Nat.le_refl _) (own_keep HO.out (below1 _ _)) hg3; replace HO3 := Lib.hid HO3; clear hg3)
        go_roundw
        case rel => exact ⟨k + 1, by omega, by go_num, by show World.ownsRow _ _ _ _ _ _ _; rw [HT.out, HE.out, ← List.append_assoc, byC_append]; have := HO3.out; rw [HB.out] at this; exact this, hw⟩
        case measure => simp [intOf]; omega
      · go_wp2_with fail
        go_roundw
        case rel => exact ⟨k + 1, by omega, by go_num, by
          have e : k + 1 + n - 8 = k + n - 8 := by omega
          rw [e]; exact HO, hw⟩
        case measure => simp [intOf]; omega
    · have ek : k = 8 := by omega
      go_wp2
      go_ret
      have := HO.out
      rw [ek, show 8 + n - 8 = n by omega, HL.out] at this
      refine ⟨_, rfl, ?_, hw⟩
      rw [List.length_append, HN.out]
      exact this

set_option maxRecDepth 100000 in
set_option maxHeartbeats 2000000 in
theorem refPutText02_any (l : List UInt8) (s : ByteArray) (A : Option Addr) (ca : Nat) (w : World) (hA : BysAt w A l) (hn : l.length ≤ 800000) (hs : s.size ≤ 1000) :
    Calls Tryz.prog 34 #[.slice A l.length ca, .string s] w (OwnBys w (l ++ beL s.size 2 ++ s.data.toList)) := by
  obtain ⟨i0, hi, hz0, hz1, hz2⟩ := info_parts info_u8
  have HC := Lib.hid (refPut02_any l s.size 2 A ca w hA (by omega) (by decide))
  clear hA
  have h65 : ¬ (65535 : Int) < (s.size : Int) := by omega
  go_enter Tryz.func34, Tryz.ntmps34
  go_wp2_with (first
    | (go_at_call 32; refine HC.out.mono ?_; rintro e w1 ⟨v1, rfl, hO, hb⟩; replace hO := Lib.hid hO)
    | (have _h := hO; at_builtin; refine Lib.wpList_append_own_string _ rfl _ _ 39 9 rfl w.heap.size 5 i0 Tryz.underlying39 Tryz.underlying9 hi hz0 hz1 hz2 v1 (l ++ beL s.size 2).length (byC (l ++ beL s.size 2)) rfl hO.out s rfl (le_maxLen (by rw [List.length_append, beL_length]; omega)) (by rw [List.length_append, beL_length]; omega) hb.size ?_; intro v3 w3 HO3 hg3 _; replace hb := own_below hb (Nat.le_refl _) hO.out hg3; replace HO3 := Lib.hid HO3; clear hg3))
  go_ret
  refine ⟨_, rfl, ?_, hb⟩
  have := HO3.out
  exact text_row this
end Go.Proofs.YtboiafchmdflpaaGreatDoor
/- Layer 4's Put and the reference's; layer 8's PutId and the reference's. -/
namespace Go.Proofs.YtboiafchmdflpaaGreatDoor
open Go.RowKit Go.Shelf

theorem BysAt.later {w w' : World} {A : Option Addr} {l : List UInt8} (h : BysAt w A l) (hb : Below w.heap.size w w') : BysAt w' A l := CellsAt.later h hb
/-- Bytes handed back in a later world are bytes handed back. -/
theorem OwnBys.low {w W : World} {l m : List UInt8} {e : Ending} {w' : World} (h : OwnBys W l e w') (HB : Below w.heap.size w W) (em : l = m) : OwnBys w m e w' := by
  subst em
  obtain ⟨v, rfl, ho, hb⟩ := h
  refine ⟨v, rfl, ⟨ho.1, ?_⟩, keepB HB hb⟩
  rcases ho.2 with q2 | ⟨g, cap, cur, e, hg, r⟩
  · exact .inl q2
  · exact .inr ⟨g, cap, cur, e, Nat.le_trans HB.size hg, r⟩
theorem OwnBys.later2 {w W : World} {l m : List UInt8} {e : Ending} {w' : World} (h : OwnBys W l e w') (HB : Below w.heap.size w W) (em : l = m) : ∃ v, e = .returned v ∧ w'.ownsRow w.heap.size 5 1 v m.length (byC m) ∧ Below W.heap.size W w' := by
  obtain ⟨v, e1, ho, hb⟩ := h
  obtain ⟨v', e2, ho', _⟩ := OwnBys.low ⟨v, e1, ho, hb⟩ HB em
  have : v = v' := by rw [e1] at e2; injection e2
  subst this
  exact ⟨v, e1, ho', hb⟩
def encV (v : Val) : List UInt8 :=
  beL v.kind.toNat 1 ++ (if v.kind = 1 then beL v.bits 8 else if v.kind = 2 then beL v.text.size 2 ++ v.text.data.toList else [])
def putV (v : Val) : List UInt8 := if formedV v then encV v else []
theorem formedV_kinds {v : Val} (h : formedV v = true) : v.kind = 0 ∨ v.kind = 1 ∨ (v.kind = 2 ∧ v.text.size ≤ 40) := by
  unfold formedV at h
  split at h
  · rename_i q; exact .inl q
  · split at h
    · rename_i q; exact .inr (.inl q)
    · simp only [Bool.and_eq_true, decide_eq_true_eq] at h
      exact .inr (.inr ⟨h.1.1.1, h.1.2⟩)

set_option maxRecDepth 100000 in
set_option maxHeartbeats 4000000 in
theorem put04_any (l : List UInt8) (v : Val) (hg : v.text.size ≤ 9223372036854775807) (A : Option Addr) (ca : Nat) (w : World) (hA : BysAt w A l) (hT : Tabs w) (hn : l.length ≤ 700100) :
    Calls Tryz.prog 31 #[.slice A l.length ca, v.cell] w (OwnBys w (l ++ putV v)) := by
  obtain ⟨k, n, s⟩ := v
  have hs : s.size ≤ 9223372036854775807 := hg
  clear hg
  unfold Val.cell
  obtain ⟨W, eW, HB, c0, c1, c2⟩ := box3 w (.int .i64 k) (.int .u64 n) (.string s) 53
  have hA := BysAt.later hA HB
  have hT := hT.later HB
  cases hf : formedV ⟨k, n, s⟩
  · have HE : Hid (l = l ++ putV ⟨k, n, s⟩) := by show _ = _; simp [putV, hf]
    go_enter Tryz.func31, Tryz.ntmps31
    go_wp2_with (first
      | (go_at_call 44; refine (calls_bq hf (formedV_any k n s hs _ hT)).mono ?_; rintro e w1 ⟨rfl, hb⟩; replace hA := BysAt.later hA hb; replace HB := keepB HB hb; clear hb)
      | (go_at_call 53; refine (clone02_any l A ca _ hA (by omega)).mono ?_; rintro e w2 hq; have hq := Lib.hid (hq.low HB HE.out); obtain ⟨v2, rfl, ho, hb⟩ := hq.out))
    go_ret
    exact ⟨_, rfl, ho, hb⟩
  · rcases formedV_kinds hf with rfl | rfl | ⟨rfl, h40⟩
    · have HE : Hid (l ++ beL 0 1 = l ++ putV ⟨0, n, s⟩) := by show _ = _; simp [putV, hf, encV]
      go_enter Tryz.func31, Tryz.ntmps31
      go_wp2_with (first
        | (go_at_call 44; refine (calls_bq hf (formedV_any 0 n s hs _ hT)).mono ?_; rintro e w1 ⟨rfl, hb⟩; replace hA := BysAt.later hA hb; replace c0 := keep hb c0; replace c1 := keep hb c1; replace c2 := keep hb c2; replace HB := keepB HB hb; clear hb)
        | (go_at_call 27; refine (put02_any l 0 1 A ca _ hA (by omega) (by decide)).mono ?_; rintro e w2 hq; have hq := Lib.hid (hq.later2 HB HE.out); obtain ⟨v2, rfl, hq0, hb2⟩ := hq.out; replace c0 := keep hb2 c0; clear hq))
      go_ret
      exact ⟨_, rfl, hq0, keepB HB hb2⟩
    · obtain ⟨m, hm⟩ : ∃ m, Hid (l ++ beL 1 1 = m) := ⟨_, rfl⟩
      have hml : m.length ≤ 700101 := by rw [← hm.out, List.length_append, beL_length]; omega
      have HE : Hid (m ++ beL n 8 = l ++ putV ⟨1, n, s⟩) := by show _ = _; rw [← hm.out]; simp [putV, hf, encV]
      have HP : Hid (∀ w, BysAt w A l → Calls Tryz.prog 27 #[.slice A l.length ca, .int .u64 1, .int .i64 1] w (OwnBys w m)) := fun w hw => by rw [← hm.out]; exact put02_any l 1 1 A ca w hw (by omega) (by decide)
      go_enter Tryz.func31, Tryz.ntmps31
      go_wp2_with (first
        | (go_at_call 44; refine (calls_bq hf (formedV_any 1 n s hs _ hT)).mono ?_; rintro e w1 ⟨rfl, hb⟩; replace hA := BysAt.later hA hb; replace c0 := keep hb c0; replace c1 := keep hb c1; replace c2 := keep hb c2; replace HB := keepB HB hb; clear hb)
        | (go_at_call 27; (with_reducible refine (HP.out _ hA).mono ?_); rintro e w2 ⟨v2, rfl, ho, hb⟩; obtain ⟨A1, c1', rfl, _, hB1⟩ := own_bys ho; clear ho; replace c0 := keep hb c0; replace c1 := keep hb c1; replace c2 := keep hb c2; replace HB := keepB HB hb; clear hb)
        | (go_at_call 27; refine (put02_any m n 8 A1 c1' _ hB1 (by omega) (by decide)).mono ?_; rintro e w3 hq; have hq := Lib.hid (hq.low HB HE.out); obtain ⟨v3, rfl, hq0, hb3⟩ := hq.out; clear hq))
      go_ret
      exact ⟨_, rfl, hq0, hb3⟩
    · obtain ⟨m, hm⟩ : ∃ m, Hid (l ++ beL 2 1 = m) := ⟨_, rfl⟩
      have hml : m.length ≤ 700101 := by rw [← hm.out, List.length_append, beL_length]; omega
      have HE : Hid (m ++ beL s.size 2 ++ s.data.toList = l ++ putV ⟨2, n, s⟩) := by show _ = _; rw [← hm.out]; simp [putV, hf, encV]
      have HP : Hid (∀ w, BysAt w A l → Calls Tryz.prog 27 #[.slice A l.length ca, .int .u64 2, .int .i64 1] w (OwnBys w m)) := fun w hw => by rw [← hm.out]; exact put02_any l 2 1 A ca w hw (by omega) (by decide)
      go_enter Tryz.func31, Tryz.ntmps31
      go_wp2_with (first
        | (go_at_call 44; refine (calls_bq hf (formedV_any 2 n s hs _ hT)).mono ?_; rintro e w1 ⟨rfl, hb⟩; replace hA := BysAt.later hA hb; replace c0 := keep hb c0; replace c1 := keep hb c1; replace c2 := keep hb c2; replace HB := keepB HB hb; clear hb)
        | (go_at_call 27; (with_reducible refine (HP.out _ hA).mono ?_); rintro e w2 ⟨v2, rfl, ho, hb⟩; obtain ⟨A1, c1', rfl, _, hB1⟩ := own_bys ho; clear ho; replace c0 := keep hb c0; replace c1 := keep hb c1; replace c2 := keep hb c2; replace HB := keepB HB hb; clear hb)
        | (go_at_call 30; refine (putText02_any m s A1 c1' _ hB1 (by omega) (Nat.le_trans h40 (by decide))).mono ?_; rintro e w3 hq; have hq := Lib.hid (hq.low HB HE.out); obtain ⟨v3, rfl, hq0, hb3⟩ := hq.out; clear hq))
      go_ret
      exact ⟨_, rfl, hq0, hb3⟩
theorem own_zero {w : World} {base : Nat} {T : TypeId} {v : Value} {l : List UInt8} (h : w.ownsRow base T 1 v (0 + l.length) ([] ++ byC l)) : w.ownsRow base T 1 v l.length (byC l) := by
  simpa using h
set_option maxRecDepth 100000 in
set_option maxHeartbeats 4000000 in
theorem refPut04_any (l : List UInt8) (v : Val) (hg : v.Good) (A : Option Addr) (ca : Nat) (w : World) (hA : BysAt w A l) (hn : l.length ≤ 700100) :
    Calls Tryz.prog 35 #[.slice A l.length ca, v.cell] w (OwnBys w (l ++ putV v)) := by
  obtain ⟨k, n, s⟩ := v
  have hs : s.size ≤ 9223372036854775807 := hg.t
  have hnb : n < 18446744073709551616 := hg.b
  clear hg
  unfold Val.cell
  obtain ⟨i0, hi, hz0, hz1, hz2⟩ := info_parts info_u8
  obtain ⟨W, eW, HB, c0, c1, c2⟩ := box3 w (.int .i64 k) (.int .u64 n) (.string s) 53
  have hA := BysAt.later hA HB
  have k0 := c0
  have k1 := c1
  have k2 := c2
  cases hf : formedV ⟨k, n, s⟩
  · have HE : Hid (l = l ++ putV ⟨k, n, s⟩) := by show _ = _; simp [putV, hf]
    go_enter Tryz.func35, Tryz.ntmps35
    go_wp2_with (first
      | (at_builtin; refine wpList_append_row rfl _ _ 39 rfl W.heap.size 5 i0 (.int .u8 0) 1 1 Tryz.underlying39 hi hz0 hz1 hz2 rfl (by decide) (.slice none 0 0) 0 [] rfl (own_nil _ _ _ _) A l.length ca (byC l) rfl (by rw [byC_length]; omega) (bys_zero hA) (bys_news hA) (bys_one _) (le_maxLen (by omega)) (by omega) (Nat.le_refl _) ?_; intro v3 w3 HO3 hg3 _; have hb3 : Below W.heap.size W w3 := (Below.refl _ W).grown hg3 (Nat.le_refl _) (by intro k hk; cases hk); replace c0 := keep hb3 c0; replace c1 := keep hb3 c1; replace c2 := keep hb3 c2; have hO := Lib.hid (own_zero HO3); clear hg3 HO3)
      | (go_at_call 57; refine (calls_bq hf (refFormedV_any k n s hnb hs _)).mono ?_; rintro e w4 ⟨rfl, hb⟩; replace c0 := keep hb c0; replace c1 := keep hb c1; replace c2 := keep hb c2; replace hO := Lib.hid (own_keep hO.out hb); replace hb3 := keepB hb3 hb; clear hb))
    go_ret
    exact OwnBys.low ⟨v3, rfl, hO.out, hb3⟩ HB HE.out
  · rcases formedV_kinds hf with rfl | rfl | ⟨rfl, h40⟩
    · obtain ⟨m, hm⟩ : ∃ m, Hid (l ++ beL 0 1 = m) := ⟨_, rfl⟩
      have hml : m.length ≤ 700101 := by rw [← hm.out, List.length_append, beL_length]; omega
      have HM : Hid (∀ v' (w' : World), w'.ownsRow W.heap.size 5 1 v' (l.length + 1) (byC l ++ [.int .u8 0]) → w'.ownsRow W.heap.size 5 1 v' m.length (byC m)) := fun v' w' hq => by
        rw [← hm.out, byC_append, List.length_append, beL_length]
        exact hq
      have HE : Hid (m = l ++ putV ⟨0, n, s⟩) := by show _ = _; rw [← hm.out]; simp [putV, hf, encV]
      go_enter Tryz.func35, Tryz.ntmps35
      go_wp2_with (first
        | (at_builtin; refine wpList_append_row rfl _ _ 39 rfl W.heap.size 5 i0 (.int .u8 0) 1 1 Tryz.underlying39 hi hz0 hz1 hz2 rfl (by decide) (.slice none 0 0) 0 [] rfl (own_nil _ _ _ _) A l.length ca (byC l) rfl (by rw [byC_length]; omega) (bys_zero hA) (bys_news hA) (bys_one _) (le_maxLen (by omega)) (by omega) (Nat.le_refl _) ?_; intro v3 w3 HO3 hg3 _; have hb3 : Below W.heap.size W w3 := (Below.refl _ W).grown hg3 (Nat.le_refl _) (by intro k hk; cases hk); replace c0 := keep hb3 c0; replace c1 := keep hb3 c1; replace c2 := keep hb3 c2; have hO := Lib.hid (own_zero HO3); clear hg3 HO3)
        | (go_at_call 57; refine (calls_bq hf (refFormedV_any 0 n s hnb hs _)).mono ?_; rintro e w4 ⟨rfl, hb⟩; replace c0 := keep hb c0; replace c1 := keep hb c1; replace c2 := keep hb c2; replace hO := Lib.hid (own_keep hO.out hb); replace hb3 := keepB hb3 hb; clear hb)
        | (have _h := hO; at_builtin; refine wpList_append_own _ rfl _ _ 39 rfl W.heap.size 5 i0 (.int .u8 0) 1 1 Tryz.underlying39 hi hz0 hz1 hz2 rfl (by decide) v3 l.length (byC l) rfl (own_keep hO.out (below1 _ _)) ⟨w4.heap.size, 0, none⟩ 1 1 [.int .u8 0] rfl rfl (cell_one_new _ _ _) one_cell_int (le_maxLen (by omega)) (by omega) (Nat.le_trans hb3.size (below1 _ _).size) ?_; intro v5 w5 HO5 hg5 _; have hb5 := own_below (keepB hb3 (below1 _ _)) (Nat.le_refl _) (own_keep hO.out (below1 _ _)) hg5; replace c0 := keep hb5 k0; replace c1 := keep hb5 k1; replace c2 := keep hb5 k2; have hm5 := Lib.hid (HM.out _ _ HO5); obtain ⟨A1, c1', rfl, _, hB1⟩ := own_bys hm5.out; clear hg5 HO5))
      go_ret
      exact OwnBys.low ⟨_, rfl, hm5.out, hb5⟩ HB HE.out
    · obtain ⟨m, hm⟩ : ∃ m, Hid (l ++ beL 1 1 = m) := ⟨_, rfl⟩
      have hml : m.length ≤ 700101 := by rw [← hm.out, List.length_append, beL_length]; omega
      have HM : Hid (∀ v' (w' : World), w'.ownsRow W.heap.size 5 1 v' (l.length + 1) (byC l ++ [.int .u8 1]) → w'.ownsRow W.heap.size 5 1 v' m.length (byC m)) := fun v' w' hq => by
        rw [← hm.out, byC_append, List.length_append, beL_length]
        exact hq
      have HE : Hid (m ++ beL n 8 = l ++ putV ⟨1, n, s⟩) := by show _ = _; rw [← hm.out]; simp [putV, hf, encV]
      go_enter Tryz.func35, Tryz.ntmps35
      go_wp2_with (first
        | (at_builtin; refine wpList_append_row rfl _ _ 39 rfl W.heap.size 5 i0 (.int .u8 0) 1 1 Tryz.underlying39 hi hz0 hz1 hz2 rfl (by decide) (.slice none 0 0) 0 [] rfl (own_nil _ _ _ _) A l.length ca (byC l) rfl (by rw [byC_length]; omega) (bys_zero hA) (bys_news hA) (bys_one _) (le_maxLen (by omega)) (by omega) (Nat.le_refl _) ?_; intro v3 w3 HO3 hg3 _; have hb3 : Below W.heap.size W w3 := (Below.refl _ W).grown hg3 (Nat.le_refl _) (by intro k hk; cases hk); replace c0 := keep hb3 c0; replace c1 := keep hb3 c1; replace c2 := keep hb3 c2; have hO := Lib.hid (own_zero HO3); clear hg3 HO3)
        | (go_at_call 57; refine (calls_bq hf (refFormedV_any 1 n s hnb hs _)).mono ?_; rintro e w4 ⟨rfl, hb⟩; replace c0 := keep hb c0; replace c1 := keep hb c1; replace c2 := keep hb c2; replace hO := Lib.hid (own_keep hO.out hb); replace hb3 := keepB hb3 hb; clear hb)
        | (have _h := hO; at_builtin; refine wpList_append_own _ rfl _ _ 39 rfl W.heap.size 5 i0 (.int .u8 0) 1 1 Tryz.underlying39 hi hz0 hz1 hz2 rfl (by decide) v3 l.length (byC l) rfl (own_keep hO.out (below1 _ _)) ⟨w4.heap.size, 0, none⟩ 1 1 [.int .u8 1] rfl rfl (cell_one_new _ _ _) one_cell_int (le_maxLen (by omega)) (by omega) (Nat.le_trans hb3.size (below1 _ _).size) ?_; intro v5 w5 HO5 hg5 _; have hb5 := own_below (keepB hb3 (below1 _ _)) (Nat.le_refl _) (own_keep hO.out (below1 _ _)) hg5; replace c0 := keep hb5 k0; replace c1 := keep hb5 k1; replace c2 := keep hb5 k2; have hm5 := Lib.hid (HM.out _ _ HO5); obtain ⟨A1, c1', rfl, _, hB1⟩ := own_bys hm5.out; clear hg5 HO5)
        | (go_at_call 32; refine (refPut02_any m n 8 A1 c1' _ hB1 (by omega) (by decide)).mono ?_; rintro e w6 hq; have hq6 := Lib.hid (hq.low (keepB HB hb5) HE.out); obtain ⟨v6, rfl, hq0, hb6⟩ := hq6.out; clear hq6 hq))
      go_ret
      exact ⟨_, rfl, hq0, hb6⟩
    · obtain ⟨m, hm⟩ : ∃ m, Hid (l ++ beL 2 1 = m) := ⟨_, rfl⟩
      have hml : m.length ≤ 700101 := by rw [← hm.out, List.length_append, beL_length]; omega
      have HM : Hid (∀ v' (w' : World), w'.ownsRow W.heap.size 5 1 v' (l.length + 1) (byC l ++ [.int .u8 2]) → w'.ownsRow W.heap.size 5 1 v' m.length (byC m)) := fun v' w' hq => by
        rw [← hm.out, byC_append, List.length_append, beL_length]
        exact hq
      have HE : Hid (m ++ beL s.size 2 ++ s.data.toList = l ++ putV ⟨2, n, s⟩) := by show _ = _; rw [← hm.out]; simp [putV, hf, encV]
      go_enter Tryz.func35, Tryz.ntmps35
      go_wp2_with (first
        | (at_builtin; refine wpList_append_row rfl _ _ 39 rfl W.heap.size 5 i0 (.int .u8 0) 1 1 Tryz.underlying39 hi hz0 hz1 hz2 rfl (by decide) (.slice none 0 0) 0 [] rfl (own_nil _ _ _ _) A l.length ca (byC l) rfl (by rw [byC_length]; omega) (bys_zero hA) (bys_news hA) (bys_one _) (le_maxLen (by omega)) (by omega) (Nat.le_refl _) ?_; intro v3 w3 HO3 hg3 _; have hb3 : Below W.heap.size W w3 := (Below.refl _ W).grown hg3 (Nat.le_refl _) (by intro k hk; cases hk); replace c0 := keep hb3 c0; replace c1 := keep hb3 c1; replace c2 := keep hb3 c2; have hO := Lib.hid (own_zero HO3); clear hg3 HO3)
        | (go_at_call 57; refine (calls_bq hf (refFormedV_any 2 n s hnb hs _)).mono ?_; rintro e w4 ⟨rfl, hb⟩; replace c0 := keep hb c0; replace c1 := keep hb c1; replace c2 := keep hb c2; replace hO := Lib.hid (own_keep hO.out hb); replace hb3 := keepB hb3 hb; clear hb)
        | (have _h := hO; at_builtin; refine wpList_append_own _ rfl _ _ 39 rfl W.heap.size 5 i0 (.int .u8 0) 1 1 Tryz.underlying39 hi hz0 hz1 hz2 rfl (by decide) v3 l.length (byC l) rfl (own_keep hO.out (below1 _ _)) ⟨w4.heap.size, 0, none⟩ 1 1 [.int .u8 2] rfl rfl (cell_one_new _ _ _) one_cell_int (le_maxLen (by omega)) (by omega) (Nat.le_trans hb3.size (below1 _ _).size) ?_; intro v5 w5 HO5 hg5 _; have hb5 := own_below (keepB hb3 (below1 _ _)) (Nat.le_refl _) (own_keep hO.out (below1 _ _)) hg5; replace c0 := keep hb5 k0; replace c1 := keep hb5 k1; replace c2 := keep hb5 k2; have hm5 := Lib.hid (HM.out _ _ HO5); obtain ⟨A1, c1', rfl, _, hB1⟩ := own_bys hm5.out; clear hg5 HO5)
        | (go_at_call 34; refine (refPutText02_any m s A1 c1' _ hB1 (by omega) (Nat.le_trans h40 (by decide))).mono ?_; rintro e w6 hq; have hq6 := Lib.hid (hq.low (keepB HB hb5) HE.out); obtain ⟨v6, rfl, hq0, hb6⟩ := hq6.out; clear hq6 hq))
      go_ret
      exact ⟨_, rfl, hq0, hb6⟩
end Go.Proofs.YtboiafchmdflpaaGreatDoor
/- Contracts of code.Put and value.Put and their references', said for a caller. -/
namespace Go.Proofs.YtboiafchmdflpaaGreatDoor
open Go.RowKit Go.Shelf

theorem put02z (l : List UInt8) (x n : Nat) (xz nz : Int) (hx : xz = x) (hz : nz = n) (A : Option Addr) (ca : Nat) (w : World) (hA : BysAt w A l) (hn : l.length ≤ 900000) (hn8 : n ≤ 8) :
    Calls Tryz.prog 27 #[.slice A l.length ca, .int .u64 xz, .int .i64 nz] w (OwnBys w (l ++ beL x n)) := by
  subst hx hz
  exact put02_any l x n A ca w hA hn hn8
theorem OwnBys.at_ {w : World} {l : List UInt8} {e : Ending} {w' : World} (h : OwnBys w l e w') : ∃ A ca, e = .returned (.slice A l.length ca) ∧ BysAt w' A l ∧ Below w.heap.size w w' := by
  obtain ⟨v, rfl, ho, hb⟩ := h
  obtain ⟨A, ca, rfl, _, hA⟩ := own_bys ho
  exact ⟨A, ca, rfl, hA, hb⟩
theorem bys_nil (w : World) : BysAt w none [] := fun i hi => by simp at hi
theorem formed_text {v : Val} (h : formedV v = true) : v.text.size ≤ 9223372036854775807 := by
  unfold formedV at h
  split at h
  · simp only [Bool.and_eq_true, decide_eq_true_eq] at h
    rw [h.2]; decide
  · split at h
    · simp only [Bool.and_eq_true, decide_eq_true_eq] at h
      rw [h.1]; decide
    · simp only [Bool.and_eq_true, decide_eq_true_eq] at h
      have := h.1.2
      omega
theorem put04t (l : List UInt8) (k : Int) (n : Nat) (t : ByteArray) (ht : t.size ≤ 9223372036854775807) (A : Option Addr) (ca : Nat) (w : World) (hA : BysAt w A l) (hT : Tabs w) (hn : l.length ≤ 700100) :
    Calls Tryz.prog 31 #[.slice A l.length ca, .agg #[.int .i64 k, .int .u64 n, .string t]] w (OwnBys w (l ++ putV ⟨k, n, t⟩)) := put04_any l ⟨k, n, t⟩ ht A ca w hA hT hn
theorem refPut02z (l : List UInt8) (x n : Nat) (xz nz : Int) (hx : xz = x) (hz : nz = n) (A : Option Addr) (ca : Nat) (w : World) (hA : BysAt w A l) (hn : l.length ≤ 900000) (hn8 : n ≤ 8) :
    Calls Tryz.prog 32 #[.slice A l.length ca, .int .u64 xz, .int .i64 nz] w (OwnBys w (l ++ beL x n)) := by
  subst hx hz
  exact refPut02_any l x n A ca w hA hn hn8
theorem good_of {v : Val} (h : formedV v = true) (hb : v.bits < 18446744073709551616) : v.Good := by
  have hk : v.kind = 0 ∨ v.kind = 1 ∨ v.kind = 2 := by
    rcases formedV_kinds h with q | q | q
    · exact .inl q
    · exact .inr (.inl q)
    · exact .inr (.inr q.1)
  exact ⟨hb, formed_text h, by omega, by omega⟩
end Go.Proofs.YtboiafchmdflpaaGreatDoor
/- Layer 2's readers in plain Lean; what a value's bytes are read as. -/
namespace Go.Proofs.YtboiafchmdflpaaGreatDoor
open Go.RowKit Go.Shelf

theorem rev_ind {α : Type} {P : List α → Prop} (h0 : P []) (h1 : ∀ l a, P l → P (l ++ [a])) (l : List α) : P l := by
  have h : ∀ l : List α, P l.reverse := fun l => by
    induction l with
    | nil => exact h0
    | cons a l ih => rw [List.reverse_cons]; exact h1 _ _ ih
  have := h l.reverse
  rwa [List.reverse_reverse] at this
/-- What a number's bytes tell. -/
def beN (l : List UInt8) : Nat := l.foldl (fun x b => x * 256 + b.toNat) 0
theorem beN_snoc (l : List UInt8) (b : UInt8) : beN (l ++ [b]) = beN l * 256 + b.toNat := by simp [beN, List.foldl_append]
theorem beN_lt (l : List UInt8) : beN l < 256 ^ l.length := by
  refine rev_ind (P := fun l => beN l < 256 ^ l.length) ?_ ?_ l
  · simp [beN]
  · intro l b ih
    rw [beN_snoc, List.length_append, List.length_singleton, Nat.pow_succ]
    have := b.toNat_lt
    omega
theorem beL_succ (x n : Nat) : beL x (n + 1) = beL (x / 256) n ++ [UInt8.ofNat x] := by
  unfold beL
  rw [List.range_succ, List.map_append]
  congr 1
  · apply List.map_congr_left
    intro i hi
    have hi : i < n := by simpa using hi
    congr 1
    rw [Nat.div_div_eq_div_mul, show (256 : Nat) = 2 ^ 8 from rfl, ← Nat.pow_add]
    congr 2
    omega
  · simp
theorem beN_beL : ∀ (n x : Nat), x < 256 ^ n → beN (beL x n) = x
  | 0, x, h => by simp at h; subst h; rfl
  | n + 1, x, h => by
    rw [beL_succ, beN_snoc, beN_beL n (x / 256) (by rw [Nat.pow_succ] at h; omega), UInt8.toNat_ofNat']
    omega
theorem beL_beN (l : List UInt8) : beL (beN l) l.length = l := by
  refine rev_ind (P := fun l => beL (beN l) l.length = l) ?_ ?_ l
  · rfl
  · intro l b ih
    rw [List.length_append, List.length_singleton, beL_succ, beN_snoc]
    have := b.toNat_lt
    rw [show (beN l * 256 + b.toNat) / 256 = beN l by omega, ih]
    congr 2
    apply UInt8.toNat_inj.1
    rw [UInt8.toNat_ofNat']
    omega
/-! ### Readers in plain Lean -/
def strL (l : List UInt8) : ByteArray := ⟨l.toArray⟩
theorem strL_data (l : List UInt8) : (strL l).data.toList = l := rfl
theorem strL_of (s : ByteArray) : strL s.data.toList = s := rfl
theorem strL_size (l : List UInt8) : (strL l).size = l.length := by simp [strL, ByteArray.size]
/-- What is left to a reader; none: it has failed. -/
abbrev RS := Option (List UInt8)
def takeN : RS → Nat → Nat × RS
  | none, _ => (0, none)
  | some l, n => if n ≤ l.length then (beN (l.take n), some (l.drop n)) else (0, none)
def takeT (s : RS) (most : Nat) : ByteArray × RS :=
  match (takeN s 2).2 with
  | none => (noStr, none)
  | some l => if (takeN s 2).1 ≤ most ∧ (takeN s 2).1 ≤ l.length then (strL (l.take (takeN s 2).1), some (l.drop (takeN s 2).1)) else (noStr, none)
theorem takeN_some (l : List UInt8) (n : Nat) : takeN (some l) n = if n ≤ l.length then (beN (l.take n), some (l.drop n)) else (0, none) := rfl
theorem takeN_none (n : Nat) : takeN none n = (0, none) := rfl
theorem takeT_none (n : Nat) : takeT none n = (noStr, none) := rfl
theorem takeN_lt (s : RS) (n : Nat) : (takeN s n).1 < 256 ^ n := by
  have h0 : 0 < 256 ^ n := Nat.pow_pos (by decide)
  cases s with
  | none => exact h0
  | some l =>
    rw [takeN_some]
    split
    · rename_i h
      have := beN_lt (l.take n)
      rw [List.length_take, Nat.min_eq_left h] at this
      exact this
    · exact h0
theorem takeN_put {x n : Nat} (h : x < 256 ^ n) (r : List UInt8) : takeN (some (beL x n ++ r)) n = (x, some r) := by
  have e : (beL x n ++ r).take n = beL x n := by rw [List.take_append_of_le_length (by rw [beL_length]; exact Nat.le_refl _), List.take_of_length_le (by rw [beL_length]; exact Nat.le_refl _)]
  have e2 : (beL x n ++ r).drop n = r := by rw [List.drop_append, List.drop_eq_nil_of_le (by rw [beL_length]; exact Nat.le_refl _), beL_length, Nat.sub_self]; rfl
  rw [takeN_some, if_pos (by rw [List.length_append, beL_length]; omega), e, e2, beN_beL n x h]
theorem takeN_inv {s : RS} {n x : Nat} {r : List UInt8} (h : takeN s n = (x, some r)) : s = some (beL x n ++ r) := by
  cases s with
  | none => cases h
  | some l =>
    rw [takeN_some] at h
    split at h
    · rename_i hn
      simp only [Prod.mk.injEq, Option.some.injEq] at h
      obtain ⟨rfl, rfl⟩ := h
      have := beL_beN (l.take n)
      rw [List.length_take, Nat.min_eq_left hn] at this
      rw [this, List.take_append_drop]
    · cases h
theorem takeT_put {s : ByteArray} {most : Nat} (h : s.size ≤ most) (hm : most < 65536) (r : List UInt8) : takeT (some (beL s.size 2 ++ s.data.toList ++ r)) most = (s, some r) := by
  have e := takeN_put (x := s.size) (n := 2) (by omega) (s.data.toList ++ r)
  rw [← List.append_assoc] at e
  have hl : s.data.toList.length = s.size := by rw [Array.length_toList]; rfl
  unfold takeT
  rw [e]
  simp only
  rw [if_pos ⟨h, by rw [List.length_append]; omega⟩, List.take_append_of_le_length (by omega), List.take_of_length_le (by omega), strL_of, List.drop_append, List.drop_eq_nil_of_le (by omega), hl, Nat.sub_self]
  rfl
theorem takeT_inv {s : RS} {most : Nat} {t : ByteArray} {r : List UInt8} (h : takeT s most = (t, some r)) : s = some (beL t.size 2 ++ t.data.toList ++ r) ∧ t.size ≤ most := by
  unfold takeT at h
  split at h
  · cases h
  · rename_i l hl
    split at h
    · rename_i hn
      simp only [Prod.mk.injEq, Option.some.injEq] at h
      obtain ⟨rfl, rfl⟩ := h
      have e := takeN_inv (s := s) (n := 2) (x := (takeN s 2).1) (r := l) (by rw [← hl])
      rw [strL_size, strL_data, List.length_take, Nat.min_eq_left hn.2]
      refine ⟨?_, hn.1⟩
      rw [List.append_assoc, List.take_append_drop]
      exact e
    · cases h
theorem takeT_size (s : RS) (most : Nat) : (takeT s most).1.size ≤ most := by
  unfold takeT
  split
  · exact Nat.zero_le _
  · split
    · rename_i hn
      rw [strL_size, List.length_take]; omega
    · exact Nat.zero_le _
def zVal : Val := ⟨0, 0, noStr⟩
def takeV (s : RS) : Val × RS :=
  let k := takeN s 1
  let b := if k.1 = 1 then takeN k.2 8 else (0, k.2)
  let t := if k.1 = 2 then takeT b.2 40 else (noStr, b.2)
  if t.2.isSome && formedV ⟨k.1, b.1, t.1⟩ then (⟨k.1, b.1, t.1⟩, t.2) else (zVal, none)
theorem takeV_none : takeV none = (zVal, none) := rfl
theorem takeV_inv {s : RS} {v : Val} {r : List UInt8} (h : takeV s = (v, some r)) : s = some (encV v ++ r) ∧ formedV v = true := by
  unfold takeV at h
  obtain ⟨k, s1, hk⟩ : ∃ k s1, takeN s 1 = (k, s1) := ⟨_, _, rfl⟩
  rw [hk] at h
  by_cases k1 : k = 1
  · subst k1
    obtain ⟨b, s2, hb⟩ : ∃ b s2, takeN s1 8 = (b, s2) := ⟨_, _, rfl⟩
    simp only [if_true, hb, show ¬ ((1 : Nat) = 2) by decide, if_false] at h
    split at h
    · rename_i hf
      simp only [Prod.mk.injEq] at h
      obtain ⟨rfl, rfl⟩ := h
      simp only [Bool.and_eq_true] at hf
      have e1 := takeN_inv hb
      subst e1
      have e2 := takeN_inv hk
      refine ⟨?_, hf.2⟩
      rw [e2]
      simp [encV]
    · cases h
  · by_cases k2 : k = 2
    · subst k2
      obtain ⟨b, s2, hb⟩ : ∃ b s2, takeT s1 40 = (b, s2) := ⟨_, _, rfl⟩
      simp only [if_true, hb, show ¬ ((2 : Nat) = 1) by decide, if_false] at h
      split at h
      · rename_i hf
        simp only [Prod.mk.injEq] at h
        obtain ⟨rfl, rfl⟩ := h
        simp only [Bool.and_eq_true] at hf
        have e1 := (takeT_inv hb).1
        subst e1
        have e2 := takeN_inv hk
        refine ⟨?_, hf.2⟩
        rw [e2]
        simp [encV]
      · cases h
    · simp only [k1, k2, if_false] at h
      split at h
      · rename_i hf
        simp only [Prod.mk.injEq] at h
        obtain ⟨rfl, rfl⟩ := h
        simp only [Bool.and_eq_true] at hf
        have e2 := takeN_inv hk
        refine ⟨?_, hf.2⟩
        rw [e2]
        have h1 : ¬ (k : Int) = 1 := by omega
        have h2 : ¬ (k : Int) = 2 := by omega
        simp [encV, h1, h2]
      · cases h
theorem takeV_put {v : Val} (hb : v.bits < 18446744073709551616) (hf : formedV v = true) (r : List UInt8) : takeV (some (encV v ++ r)) = (v, some r) := by
  obtain ⟨k, b, t⟩ := v
  have hb : b < 18446744073709551616 := hb
  have hk := formedV_kinds hf
  have hf' := hf
  unfold formedV at hf'
  simp only at hf' hk
  rcases hk with rfl | rfl | ⟨rfl, h40⟩
  · simp only [if_true, Bool.and_eq_true, decide_eq_true_eq] at hf'
    obtain ⟨rfl, rfl⟩ := hf'
    have e := takeN_put (x := 0) (n := 1) (by decide) r
    rw [show encV ⟨0, 0, noStr⟩ ++ r = beL 0 1 ++ r by simp [encV]]
    unfold takeV
    simp only [e, Nat.zero_ne_one, if_false, show ¬ ((0 : Nat) = 2) by decide]
    rw [if_pos (by simpa using hf)]
    rfl
  · simp only [show ¬ ((1 : Int) = 0) by decide, if_false, if_true, Bool.and_eq_true, decide_eq_true_eq] at hf'
    obtain ⟨rfl, _⟩ := hf'
    have e := takeN_put (x := 1) (n := 1) (by decide) (beL b 8 ++ r)
    have e2 := takeN_put (x := b) (n := 8) (by omega) r
    rw [show encV ⟨1, b, noStr⟩ ++ r = beL 1 1 ++ (beL b 8 ++ r) by simp [encV]]
    unfold takeV
    simp only [e, e2, if_true, if_false, show ¬ ((1 : Nat) = 2) by decide]
    rw [if_pos (by simpa using hf)]
    rfl
  · simp only [show ¬ ((2 : Int) = 0) by decide, show ¬ ((2 : Int) = 1) by decide, if_false, Bool.and_eq_true, decide_eq_true_eq] at hf'
    obtain ⟨⟨⟨_, rfl⟩, _⟩, _⟩ := hf'
    have e := takeN_put (x := 2) (n := 1) (by decide) (beL t.size 2 ++ t.data.toList ++ r)
    have e2 := takeT_put (s := t) (most := 40) h40 (by decide) r
    rw [show encV ⟨2, 0, t⟩ ++ r = beL 2 1 ++ (beL t.size 2 ++ t.data.toList ++ r) by simp [encV]]
    unfold takeV
    simp only [e, e2, if_true, if_false, show ¬ ((2 : Nat) = 1) by decide]
    rw [if_pos (by simpa using hf)]
    rfl
/-- What is taken as a value is small. -/
def smallV (v : Val) : Prop := v.bits < 18446744073709551616 ∧ v.text.size ≤ 40 ∧ 0 ≤ v.kind ∧ v.kind < 256
theorem small_if {c : Bool} {v : Val} {s : RS} (h : smallV v) : smallV (if c then (v, s) else (zVal, none)).1 := by
  cases c
  · show smallV zVal; exact ⟨by decide, by decide, by decide, by decide⟩
  · exact h
theorem takeV_small (s : RS) : smallV (takeV s).1 := by
  refine small_if ⟨?_, ?_, by simp, ?_⟩
  · dsimp only
    split
    · exact takeN_lt _ 8
    · exact Nat.zero_lt_succ _
  · dsimp only
    split
    · exact takeT_size _ 40
    · exact Nat.zero_le _
  · have := takeN_lt s 1
    simp only
    omega
end Go.Proofs.YtboiafchmdflpaaGreatDoor
