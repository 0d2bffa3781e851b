/- Layer 4's Put and the reference's; layer 8's PutId and the reference's. -/
import Derived.Test.YtfblemdpimbciaaDoorCode02
namespace Go.Proofs.YtfblemdpimbciaaDoor
open Go.RowKit Go.Shelf

theorem BysAt.later {w w' : World} {A : Option Addr} {l : List UInt8} (h : BysAt w A l) (hb : Below w.heap.size w w') : BysAt w' A l := CellsAt.later h hb
/-- Bytes handed back in a later world are bytes handed back. -/
theorem OwnBys.low {w W : World} {l m : List UInt8} {e : Ending} {w' : World} (h : OwnBys W l e w') (HB : Below w.heap.size w W) (em : l = m) : OwnBys w m e w' := by
  subst em
  obtain ⟨v, rfl, ho, hb⟩ := h
  refine ⟨v, rfl, ⟨ho.1, ?_⟩, keepB HB hb⟩
  rcases ho.2 with q2 | ⟨g, cap, cur, e, hg, r⟩
  · exact .inl q2
  · exact .inr ⟨g, cap, cur, e, Nat.le_trans HB.size hg, r⟩
theorem OwnBys.later2 {w W : World} {l m : List UInt8} {e : Ending} {w' : World} (h : OwnBys W l e w') (HB : Below w.heap.size w W) (em : l = m) : ∃ v, e = .returned v ∧ w'.ownsRow w.heap.size 5 1 v m.length (byC m) ∧ Below W.heap.size W w' := by
  obtain ⟨v, e1, ho, hb⟩ := h
  obtain ⟨v', e2, ho', _⟩ := OwnBys.low ⟨v, e1, ho, hb⟩ HB em
  have : v = v' := by rw [e1] at e2; injection e2
  subst this
  exact ⟨v, e1, ho', hb⟩
def encV (v : Val) : List UInt8 :=
  beL v.kind.toNat 1 ++ (if v.kind = 1 then beL v.bits 8 else if v.kind = 2 then beL v.text.size 2 ++ v.text.data.toList else [])
def putV (v : Val) : List UInt8 := if formedV v then encV v else []
theorem formedV_kinds {v : Val} (h : formedV v = true) : v.kind = 0 ∨ v.kind = 1 ∨ (v.kind = 2 ∧ v.text.size ≤ 40) := by
  unfold formedV at h
  split at h
  · rename_i q; exact .inl q
  · split at h
    · rename_i q; exact .inr (.inl q)
    · simp only [Bool.and_eq_true, decide_eq_true_eq] at h
      exact .inr (.inr ⟨h.1.1.1, h.1.2⟩)

set_option maxRecDepth 100000 in
set_option maxHeartbeats 4000000 in
theorem put04_any (l : List UInt8) (v : Val) (hg : v.text.size ≤ 9223372036854775807) (A : Option Addr) (ca : Nat) (w : World) (hA : BysAt w A l) (hT : Tabs w) (hn : l.length ≤ 700100) :
    Calls Tryd.prog 39 #[.slice A l.length ca, v.cell] w (OwnBys w (l ++ putV v)) := by
  obtain ⟨k, n, s⟩ := v
  have hs : s.size ≤ 9223372036854775807 := hg
  clear hg
  unfold Val.cell
  obtain ⟨W, eW, HB, c0, c1, c2⟩ := box3 w (.int .i64 k) (.int .u64 n) (.string s) 62
  have hA := BysAt.later hA HB
  have hT := hT.later HB
  cases hf : formedV ⟨k, n, s⟩
  · have HE : Hid (l = l ++ putV ⟨k, n, s⟩) := by show _ = _; simp [putV, hf]
    go_enter Tryd.func39, Tryd.ntmps39
    go_wp2_with (first
      | (go_at_call 35; refine (calls_bq hf (formedV_any k n s hs _ hT)).mono ?_; rintro e w1 ⟨rfl, hb⟩; replace hA := BysAt.later hA hb; replace HB := keepB HB hb; clear hb)
      | (go_at_call 36; refine (clone02_any l A ca _ hA (by omega)).mono ?_; rintro e w2 hq; have hq := Lib.hid (hq.low HB HE.out); obtain ⟨v2, rfl, ho, hb⟩ := hq.out))
    go_ret
    exact ⟨_, rfl, ho, hb⟩
  · rcases formedV_kinds hf with rfl | rfl | ⟨rfl, h40⟩
    · have HE : Hid (l ++ beL 0 1 = l ++ putV ⟨0, n, s⟩) := by show _ = _; simp [putV, hf, encV]
      go_enter Tryd.func39, Tryd.ntmps39
      go_wp2_with (first
        | (go_at_call 35; refine (calls_bq hf (formedV_any 0 n s hs _ hT)).mono ?_; rintro e w1 ⟨rfl, hb⟩; replace hA := BysAt.later hA hb; replace c0 := keep hb c0; replace c1 := keep hb c1; replace c2 := keep hb c2; replace HB := keepB HB hb; clear hb)
        | (go_at_call 37; refine (put02_any l 0 1 A ca _ hA (by omega) (by decide)).mono ?_; rintro e w2 hq; have hq := Lib.hid (hq.later2 HB HE.out); obtain ⟨v2, rfl, hq0, hb2⟩ := hq.out; replace c0 := keep hb2 c0; clear hq))
      go_ret
      exact ⟨_, rfl, hq0, keepB HB hb2⟩
    · obtain ⟨m, hm⟩ : ∃ m, Hid (l ++ beL 1 1 = m) := ⟨_, rfl⟩
      have hml : m.length ≤ 700101 := by rw [← hm.out, List.length_append, beL_length]; omega
      have HE : Hid (m ++ beL n 8 = l ++ putV ⟨1, n, s⟩) := by show _ = _; rw [← hm.out]; simp [putV, hf, encV]
      have HP : Hid (∀ w, BysAt w A l → Calls Tryd.prog 37 #[.slice A l.length ca, .int .u64 1, .int .i64 1] w (OwnBys w m)) := fun w hw => by rw [← hm.out]; exact put02_any l 1 1 A ca w hw (by omega) (by decide)
      go_enter Tryd.func39, Tryd.ntmps39
      go_wp2_with (first
        | (go_at_call 35; refine (calls_bq hf (formedV_any 1 n s hs _ hT)).mono ?_; rintro e w1 ⟨rfl, hb⟩; replace hA := BysAt.later hA hb; replace c0 := keep hb c0; replace c1 := keep hb c1; replace c2 := keep hb c2; replace HB := keepB HB hb; clear hb)
        | (go_at_call 37; (with_reducible refine (HP.out _ hA).mono ?_); rintro e w2 ⟨v2, rfl, ho, hb⟩; obtain ⟨A1, c1', rfl, _, hB1⟩ := own_bys ho; clear ho; replace c0 := keep hb c0; replace c1 := keep hb c1; replace c2 := keep hb c2; replace HB := keepB HB hb; clear hb)
        | (go_at_call 37; refine (put02_any m n 8 A1 c1' _ hB1 (by omega) (by decide)).mono ?_; rintro e w3 hq; have hq := Lib.hid (hq.low HB HE.out); obtain ⟨v3, rfl, hq0, hb3⟩ := hq.out; clear hq))
      go_ret
      exact ⟨_, rfl, hq0, hb3⟩
    · obtain ⟨m, hm⟩ : ∃ m, Hid (l ++ beL 2 1 = m) := ⟨_, rfl⟩
      have hml : m.length ≤ 700101 := by rw [← hm.out, List.length_append, beL_length]; omega
      have HE : Hid (m ++ beL s.size 2 ++ s.data.toList = l ++ putV ⟨2, n, s⟩) := by show _ = _; rw [← hm.out]; simp [putV, hf, encV]
      have HP : Hid (∀ w, BysAt w A l → Calls Tryd.prog 37 #[.slice A l.length ca, .int .u64 2, .int .i64 1] w (OwnBys w m)) := fun w hw => by rw [← hm.out]; exact put02_any l 2 1 A ca w hw (by omega) (by decide)
      go_enter Tryd.func39, Tryd.ntmps39
      go_wp2_with (first
        | (go_at_call 35; refine (calls_bq hf (formedV_any 2 n s hs _ hT)).mono ?_; rintro e w1 ⟨rfl, hb⟩; replace hA := BysAt.later hA hb; replace c0 := keep hb c0; replace c1 := keep hb c1; replace c2 := keep hb c2; replace HB := keepB HB hb; clear hb)
        | (go_at_call 37; (with_reducible refine (HP.out _ hA).mono ?_); rintro e w2 ⟨v2, rfl, ho, hb⟩; obtain ⟨A1, c1', rfl, _, hB1⟩ := own_bys ho; clear ho; replace c0 := keep hb c0; replace c1 := keep hb c1; replace c2 := keep hb c2; replace HB := keepB HB hb; clear hb)
        | (go_at_call 38; refine (putText02_any m s A1 c1' _ hB1 (by omega) (Nat.le_trans h40 (by decide))).mono ?_; rintro e w3 hq; have hq := Lib.hid (hq.low HB HE.out); obtain ⟨v3, rfl, hq0, hb3⟩ := hq.out; clear hq))
      go_ret
      exact ⟨_, rfl, hq0, hb3⟩
theorem own_zero {w : World} {base : Nat} {T : TypeId} {v : Value} {l : List UInt8} (h : w.ownsRow base T 1 v (0 + l.length) ([] ++ byC l)) : w.ownsRow base T 1 v l.length (byC l) := by
  simpa using h
set_option maxRecDepth 100000 in
set_option maxHeartbeats 4000000 in
theorem refPut04_any (l : List UInt8) (v : Val) (hg : v.Good) (A : Option Addr) (ca : Nat) (w : World) (hA : BysAt w A l) (hn : l.length ≤ 700100) :
    Calls Tryd.prog 50 #[.slice A l.length ca, v.cell] w (OwnBys w (l ++ putV v)) := by
  obtain ⟨k, n, s⟩ := v
  have hs : s.size ≤ 9223372036854775807 := hg.t
  have hnb : n < 18446744073709551616 := hg.b
  clear hg
  unfold Val.cell
  obtain ⟨i0, hi, hz0, hz1, hz2⟩ := info_parts info_u8
  obtain ⟨W, eW, HB, c0, c1, c2⟩ := box3 w (.int .i64 k) (.int .u64 n) (.string s) 62
  have hA := BysAt.later hA HB
  have k0 := c0
  have k1 := c1
  have k2 := c2
  cases hf : formedV ⟨k, n, s⟩
  · have HE : Hid (l = l ++ putV ⟨k, n, s⟩) := by show _ = _; simp [putV, hf]
    go_enter Tryd.func50, Tryd.ntmps50
    go_wp2_with (first
      | (at_builtin; refine wpList_append_row rfl _ _ 31 rfl W.heap.size 5 i0 (.int .u8 0) 1 1 Tryd.underlying31 hi hz0 hz1 hz2 rfl (by decide) (.slice none 0 0) 0 [] rfl (own_nil _ _ _ _) A l.length ca (byC l) rfl (by rw [byC_length]; omega) (bys_zero hA) (bys_news hA) (bys_one _) (le_maxLen (by omega)) (by omega) (Nat.le_refl _) ?_; intro v3 w3 HO3 hg3 _; have hb3 : Below W.heap.size W w3 := (Below.refl _ W).grown hg3 (Nat.le_refl _) (by intro k hk; cases hk); replace c0 := keep hb3 c0; replace c1 := keep hb3 c1; replace c2 := keep hb3 c2; have hO := Lib.hid (own_zero HO3); clear hg3 HO3)
      | (go_at_call 67; refine (calls_bq hf (refFormedV_any k n s hnb hs _)).mono ?_; rintro e w4 ⟨rfl, hb⟩; replace c0 := keep hb c0; replace c1 := keep hb c1; replace c2 := keep hb c2; replace hO := Lib.hid (own_keep hO.out hb); replace hb3 := keepB hb3 hb; clear hb))
    go_ret
    exact OwnBys.low ⟨v3, rfl, hO.out, hb3⟩ HB HE.out
  · rcases formedV_kinds hf with rfl | rfl | ⟨rfl, h40⟩
    · obtain ⟨m, hm⟩ : ∃ m, Hid (l ++ beL 0 1 = m) := ⟨_, rfl⟩
      have hml : m.length ≤ 700101 := by rw [← hm.out, List.length_append, beL_length]; omega
      have HM : Hid (∀ v' (w' : World), w'.ownsRow W.heap.size 5 1 v' (l.length + 1) (byC l ++ [.int .u8 0]) → w'.ownsRow W.heap.size 5 1 v' m.length (byC m)) := fun v' w' hq => by
        rw [← hm.out, byC_append, List.length_append, beL_length]
        exact hq
      have HE : Hid (m = l ++ putV ⟨0, n, s⟩) := by show _ = _; rw [← hm.out]; simp [putV, hf, encV]
      go_enter Tryd.func50, Tryd.ntmps50
      go_wp2_with (first
        | (at_builtin; refine wpList_append_row rfl _ _ 31 rfl W.heap.size 5 i0 (.int .u8 0) 1 1 Tryd.underlying31 hi hz0 hz1 hz2 rfl (by decide) (.slice none 0 0) 0 [] rfl (own_nil _ _ _ _) A l.length ca (byC l) rfl (by rw [byC_length]; omega) (bys_zero hA) (bys_news hA) (bys_one _) (le_maxLen (by omega)) (by omega) (Nat.le_refl _) ?_; intro v3 w3 HO3 hg3 _; have hb3 : Below W.heap.size W w3 := (Below.refl _ W).grown hg3 (Nat.le_refl _) (by intro k hk; cases hk); replace c0 := keep hb3 c0; replace c1 := keep hb3 c1; replace c2 := keep hb3 c2; have hO := Lib.hid (own_zero HO3); clear hg3 HO3)
        | (go_at_call 67; refine (calls_bq hf (refFormedV_any 0 n s hnb hs _)).mono ?_; rintro e w4 ⟨rfl, hb⟩; replace c0 := keep hb c0; replace c1 := keep hb c1; replace c2 := keep hb c2; replace hO := Lib.hid (own_keep hO.out hb); replace hb3 := keepB hb3 hb; clear hb)
        | (have _h := hO; at_builtin; refine wpList_append_own _ rfl _ _ 31 rfl W.heap.size 5 i0 (.int .u8 0) 1 1 Tryd.underlying31 hi hz0 hz1 hz2 rfl (by decide) v3 l.length (byC l) rfl (own_keep hO.out (below1 _ _)) ⟨w4.heap.size, 0, none⟩ 1 1 [.int .u8 0] rfl rfl (cell_one_new _ _ _) one_cell_int (le_maxLen (by omega)) (by omega) (Nat.le_trans hb3.size (below1 _ _).size) ?_; intro v5 w5 HO5 hg5 _; have hb5 := own_below (keepB hb3 (below1 _ _)) (Nat.le_refl _) (own_keep hO.out (below1 _ _)) hg5; replace c0 := keep hb5 k0; replace c1 := keep hb5 k1; replace c2 := keep hb5 k2; have hm5 := Lib.hid (HM.out _ _ HO5); obtain ⟨A1, c1', rfl, _, hB1⟩ := own_bys hm5.out; clear hg5 HO5))
      go_ret
      exact OwnBys.low ⟨_, rfl, hm5.out, hb5⟩ HB HE.out
    · obtain ⟨m, hm⟩ : ∃ m, Hid (l ++ beL 1 1 = m) := ⟨_, rfl⟩
      have hml : m.length ≤ 700101 := by rw [← hm.out, List.length_append, beL_length]; omega
      have HM : Hid (∀ v' (w' : World), w'.ownsRow W.heap.size 5 1 v' (l.length + 1) (byC l ++ [.int .u8 1]) → w'.ownsRow W.heap.size 5 1 v' m.length (byC m)) := fun v' w' hq => by
        rw [← hm.out, byC_append, List.length_append, beL_length]
        exact hq
      have HE : Hid (m ++ beL n 8 = l ++ putV ⟨1, n, s⟩) := by show _ = _; rw [← hm.out]; simp [putV, hf, encV]
      go_enter Tryd.func50, Tryd.ntmps50
      go_wp2_with (first
        | (at_builtin; refine wpList_append_row rfl _ _ 31 rfl W.heap.size 5 i0 (.int .u8 0) 1 1 Tryd.underlying31 hi hz0 hz1 hz2 rfl (by decide) (.slice none 0 0) 0 [] rfl (own_nil _ _ _ _) A l.length ca (byC l) rfl (by rw [byC_length]; omega) (bys_zero hA) (bys_news hA) (bys_one _) (le_maxLen (by omega)) (by omega) (Nat.le_refl _) ?_; intro v3 w3 HO3 hg3 _; have hb3 : Below W.heap.size W w3 := (Below.refl _ W).grown hg3 (Nat.le_refl _) (by intro k hk; cases hk); replace c0 := keep hb3 c0; replace c1 := keep hb3 c1; replace c2 := keep hb3 c2; have hO := Lib.hid (own_zero HO3); clear hg3 HO3)
        | (go_at_call 67; refine (calls_bq hf (refFormedV_any 1 n s hnb hs _)).mono ?_; rintro e w4 ⟨rfl, hb⟩; replace c0 := keep hb c0; replace c1 := keep hb c1; replace c2 := keep hb c2; replace hO := Lib.hid (own_keep hO.out hb); replace hb3 := keepB hb3 hb; clear hb)
        | (have _h := hO; at_builtin; refine wpList_append_own _ rfl _ _ 31 rfl W.heap.size 5 i0 (.int .u8 0) 1 1 Tryd.underlying31 hi hz0 hz1 hz2 rfl (by decide) v3 l.length (byC l) rfl (own_keep hO.out (below1 _ _)) ⟨w4.heap.size, 0, none⟩ 1 1 [.int .u8 1] rfl rfl (cell_one_new _ _ _) one_cell_int (le_maxLen (by omega)) (by omega) (Nat.le_trans hb3.size (below1 _ _).size) ?_; intro v5 w5 HO5 hg5 _; have hb5 := own_below (keepB hb3 (below1 _ _)) (Nat.le_refl _) (own_keep hO.out (below1 _ _)) hg5; replace c0 := keep hb5 k0; replace c1 := keep hb5 k1; replace c2 := keep hb5 k2; have hm5 := Lib.hid (HM.out _ _ HO5); obtain ⟨A1, c1', rfl, _, hB1⟩ := own_bys hm5.out; clear hg5 HO5)
        | (go_at_call 48; refine (refPut02_any m n 8 A1 c1' _ hB1 (by omega) (by decide)).mono ?_; rintro e w6 hq; have hq6 := Lib.hid (hq.low (keepB HB hb5) HE.out); obtain ⟨v6, rfl, hq0, hb6⟩ := hq6.out; clear hq6 hq))
      go_ret
      exact ⟨_, rfl, hq0, hb6⟩
    · obtain ⟨m, hm⟩ : ∃ m, Hid (l ++ beL 2 1 = m) := ⟨_, rfl⟩
      have hml : m.length ≤ 700101 := by rw [← hm.out, List.length_append, beL_length]; omega
      have HM : Hid (∀ v' (w' : World), w'.ownsRow W.heap.size 5 1 v' (l.length + 1) (byC l ++ [.int .u8 2]) → w'.ownsRow W.heap.size 5 1 v' m.length (byC m)) := fun v' w' hq => by
        rw [← hm.out, byC_append, List.length_append, beL_length]
        exact hq
      have HE : Hid (m ++ beL s.size 2 ++ s.data.toList = l ++ putV ⟨2, n, s⟩) := by show _ = _; rw [← hm.out]; simp [putV, hf, encV]
      go_enter Tryd.func50, Tryd.ntmps50
      go_wp2_with (first
        | (at_builtin; refine wpList_append_row rfl _ _ 31 rfl W.heap.size 5 i0 (.int .u8 0) 1 1 Tryd.underlying31 hi hz0 hz1 hz2 rfl (by decide) (.slice none 0 0) 0 [] rfl (own_nil _ _ _ _) A l.length ca (byC l) rfl (by rw [byC_length]; omega) (bys_zero hA) (bys_news hA) (bys_one _) (le_maxLen (by omega)) (by omega) (Nat.le_refl _) ?_; intro v3 w3 HO3 hg3 _; have hb3 : Below W.heap.size W w3 := (Below.refl _ W).grown hg3 (Nat.le_refl _) (by intro k hk; cases hk); replace c0 := keep hb3 c0; replace c1 := keep hb3 c1; replace c2 := keep hb3 c2; have hO := Lib.hid (own_zero HO3); clear hg3 HO3)
        | (go_at_call 67; refine (calls_bq hf (refFormedV_any 2 n s hnb hs _)).mono ?_; rintro e w4 ⟨rfl, hb⟩; replace c0 := keep hb c0; replace c1 := keep hb c1; replace c2 := keep hb c2; replace hO := Lib.hid (own_keep hO.out hb); replace hb3 := keepB hb3 hb; clear hb)
        | (have _h := hO; at_builtin; refine wpList_append_own _ rfl _ _ 31 rfl W.heap.size 5 i0 (.int .u8 0) 1 1 Tryd.underlying31 hi hz0 hz1 hz2 rfl (by decide) v3 l.length (byC l) rfl (own_keep hO.out (below1 _ _)) ⟨w4.heap.size, 0, none⟩ 1 1 [.int .u8 2] rfl rfl (cell_one_new _ _ _) one_cell_int (le_maxLen (by omega)) (by omega) (Nat.le_trans hb3.size (below1 _ _).size) ?_; intro v5 w5 HO5 hg5 _; have hb5 := own_below (keepB hb3 (below1 _ _)) (Nat.le_refl _) (own_keep hO.out (below1 _ _)) hg5; replace c0 := keep hb5 k0; replace c1 := keep hb5 k1; replace c2 := keep hb5 k2; have hm5 := Lib.hid (HM.out _ _ HO5); obtain ⟨A1, c1', rfl, _, hB1⟩ := own_bys hm5.out; clear hg5 HO5)
        | (go_at_call 49; refine (refPutText02_any m s A1 c1' _ hB1 (by omega) (Nat.le_trans h40 (by decide))).mono ?_; rintro e w6 hq; have hq6 := Lib.hid (hq.low (keepB HB hb5) HE.out); obtain ⟨v6, rfl, hq0, hb6⟩ := hq6.out; clear hq6 hq))
      go_ret
      exact ⟨_, rfl, hq0, hb6⟩
end Go.Proofs.YtfblemdpimbciaaDoor
