/- The reference's Put of a transaction. -/
import Derived.Test.YtfblemdpimbciaaDoorPut08
namespace Go.Proofs.YtfblemdpimbciaaDoor
open Go.RowKit Go.Shelf Go.Sort

theorem byte_row {w' : World} {base : Nat} {T : TypeId} {v' : Value} {m : List UInt8} {n : Nat} (hn : n < 256) (h : w'.ownsRow base T 1 v' (m.length + 1) (byC m ++ [.int .u8 (n : Int)])) : w'.ownsRow base T 1 v' (m ++ beL n 1).length (byC (m ++ beL n 1)) := by
  have hb1 : byC (beL n 1) = [.int .u8 (n : Int)] := by
    have := be_byte n 0
    simp [byC, beL]
    omega
  rw [byC_append, List.length_append, beL_length, hb1]
  exact h
set_option maxRecDepth 100000 in
set_option maxHeartbeats 8000000 in
theorem refPut08_any (l : List UInt8) (t : Tx) (A B : Option Addr) (ca cb : Nat) (K : Option Addr) (ck : Nat) (w : World) (hK : BysAt w K l) (hn : l.length ≤ 600000) (h : TxAt w t A B) :
    Calls Tryd.prog 21 #[.slice K l.length ck, txV t A B ca cb] w (OwnBys w (l ++ putT t)) := by
  obtain ⟨i0, hi, hz0, hz1, hz2⟩ := info_parts info_u8
  have hFm := fun wz (hz : Below w.heap.size w wz) => refTxFormed_any t A B ca cb wz (h.later hz)
  unfold txV at hFm ⊢
  obtain ⟨W, eW, HB, c0, c1, c2, c3⟩ := box4 w (.int .i64 t.ses) (.int .i64 t.seq) (.slice A t.rds.length ca) (.slice B t.wrs.length cb) 27
  have hK := BysAt.later hK HB
  have k2 := c2
  have k3 := c3
  cases hf : formedT t
  · have HE : Hid (l = l ++ putT t) := by show _ = _; simp [putT, hf]
    rw [hf] at hFm
    replace hFm := Lib.hid hFm
    clear hf h
    go_enter Tryd.func21, Tryd.ntmps21
    go_wp2_with (first
      | (at_builtin; refine wpList_append_row rfl _ _ 31 rfl W.heap.size 5 i0 (.int .u8 0) 1 1 Tryd.underlying31 hi hz0 hz1 hz2 rfl (by decide) (.slice none 0 0) 0 [] rfl (own_nil _ _ _ _) K l.length ck (byC l) rfl (by rw [byC_length]; omega) (bys_zero hK) (bys_news hK) (bys_one _) (le_maxLen (by omega)) (by omega) (Nat.le_refl _) ?_; intro v3 w3 HO3 hg3 _; have hb3 : Below W.heap.size W w3 := (Below.refl _ W).grown hg3 (Nat.le_refl _) (by intro k hk; cases hk); replace c0 := keep hb3 c0; replace c1 := keep hb3 c1; replace c2 := keep hb3 c2; replace c3 := keep hb3 c3; have hO := Lib.hid (own_zero HO3); clear hg3 HO3)
      | (go_at_call 46; refine (hFm.out _ (keepB HB hb3)).mono ?_; rintro e w4 ⟨rfl, hb⟩; replace hO := Lib.hid (own_keep hO.out hb); replace hb3 := keepB hb3 hb; clear hb))
    go_ret
    exact OwnBys.low ⟨v3, rfl, hO.out, hb3⟩ HB HE.out
  · rw [hf] at hFm
    obtain ⟨hid, h6, h6', h12, h12'⟩ := formedT_parts hf
    obtain ⟨m1, hm1⟩ : ∃ m, Hid (l ++ putI t.ses t.seq = m) := ⟨_, rfl⟩
    obtain ⟨m2, hm2⟩ : ∃ m, Hid (m1 ++ beL t.rds.length 1 = m) := ⟨_, rfl⟩
    obtain ⟨m3, hm3⟩ : ∃ m, Hid (rTo m2 t t.rds.length = m) := ⟨_, rfl⟩
    obtain ⟨m4, hm4⟩ : ∃ m, Hid (m3 ++ beL t.wrs.length 1 = m) := ⟨_, rfl⟩
    have hl1 : m1.length ≤ 600005 := by
      rw [← hm1.out, List.length_append]
      have : (putI t.ses t.seq).length ≤ 5 := by unfold putI encId; split <;> simp [beL_length]
      omega
    have hl2 : m2.length ≤ 600006 := by rw [← hm2.out, List.length_append, beL_length]; omega
    have hl3 : m3.length ≤ 600138 := by rw [← hm3.out]; have := rTo_len hf m2 t.rds.length; omega
    have hl4 : m4.length ≤ 600139 := by rw [← hm4.out, List.length_append, beL_length]; omega
    have HE : Hid (wTo m4 t t.wrs.length = l ++ putT t) := by
      show _ = _
      rw [wTo_all, ← hm4.out, ← hm3.out, rTo_all, ← hm2.out, ← hm1.out, putT, if_pos hf, encT, encHead]
      simp only [List.append_assoc]
    have hrl : ∀ k, (rTo m2 t k).length ≤ 600138 := fun k => by have := rTo_len hf m2 k; omega
    have hwl : ∀ k, (wTo m4 t k).length ≤ 600523 := fun k => by have := wTo_len hf m4 k; omega
    have hkr := formed_keyR hf
    have hkw := formed_keyW hf
    have HP1 : Hid (∀ wz A ca, BysAt wz A l → Calls Tryd.prog 20 #[.slice A l.length ca, .agg #[.int .i64 t.ses, .int .i64 t.seq]] wz (OwnBys wz m1)) := fun wz A ca hA => by rw [← hm1.out]; exact refPutId_any l t.ses t.seq A ca wz hA (by omega)
    have HB2 : Hid (∀ v' (w' : World), w'.ownsRow W.heap.size 5 1 v' (m1.length + 1) (byC m1 ++ [.int .u8 (t.rds.length : Int)]) → w'.ownsRow W.heap.size 5 1 v' m2.length (byC m2)) := fun v' w' hq => by
      rw [← hm2.out]
      exact byte_row (by omega) hq
    have HB4 : Hid (∀ v' (w' : World), w'.ownsRow W.heap.size 5 1 v' (m3.length + 1) (byC m3 ++ [.int .u8 (t.wrs.length : Int)]) → w'.ownsRow W.heap.size 5 1 v' m4.length (byC m4)) := fun v' w' hq => by
      rw [← hm4.out]
      exact byte_row (by omega) hq
    have hw1 : IntKind.u8.wrap (t.rds.length : Int) = (t.rds.length : Int) := IntWalk.u8_in _ (by omega)
    have hw2 : IntKind.u8.wrap (t.wrs.length : Int) = (t.wrs.length : Int) := IntWalk.u8_in _ (by omega)
    have HM2 : Hid (rTo m2 t 0 = m2) := by show _ = _; simp [rTo]
    have HM4 : Hid (wTo m4 t 0 = m4) := by show _ = _; simp [wTo]
    have HX := Lib.hid h
    replace hFm := Lib.hid hFm
    replace hkr := Lib.hid hkr
    replace hkw := Lib.hid hkw
    replace hrl := Lib.hid hrl
    replace hwl := Lib.hid hwl
    clear hf h hm1 hm2 hm4 hid h12 h12'
    go_enter Tryd.func21, Tryd.ntmps21
    go_wp2_with (first
      | (at_builtin; refine wpList_append_row rfl _ _ 31 rfl W.heap.size 5 i0 (.int .u8 0) 1 1 Tryd.underlying31 hi hz0 hz1 hz2 rfl (by decide) (.slice none 0 0) 0 [] rfl (own_nil _ _ _ _) K l.length ck (byC l) rfl (by rw [byC_length]; omega) (bys_zero hK) (bys_news hK) (bys_one _) (le_maxLen (by omega)) (by omega) (Nat.le_refl _) ?_; intro v3 w3 HO3 hg3 _; have hb3 : Below W.heap.size W w3 := (Below.refl _ W).grown hg3 (Nat.le_refl _) (by intro k hk; cases hk); replace c0 := keep hb3 c0; replace c1 := keep hb3 c1; replace c2 := keep hb3 c2; replace c3 := keep hb3 c3; have hO := Lib.hid (own_zero HO3); obtain ⟨A1, c1', rfl, _, hB1⟩ := own_bys hO.out; clear hg3 HO3)
      | (go_at_call 46; refine (hFm.out _ (keepB HB hb3)).mono ?_; rintro e w4 ⟨rfl, hb⟩; replace c0 := keep hb c0; replace c1 := keep hb c1; replace c2 := keep hb c2; replace c3 := keep hb c3; have hB4 := BysAt.later hB1 hb; have hb4 := keepB hb3 hb)
      | (go_at_call 20; refine (HP1.out _ A1 c1' hB4).mono ?_; rintro e w5 ⟨v5, rfl, ho5, hb⟩; replace c2 := keep hb c2; replace c3 := keep hb c3; have hb5 := keepB hb4 hb; have hO5 := Lib.hid (own_base8 ho5 hb4.size); clear ho5)
      | (have _h := hO5; at_builtin; refine wpList_append_own _ rfl _ _ 31 rfl W.heap.size 5 i0 (.int .u8 0) 1 1 Tryd.underlying31 hi hz0 hz1 hz2 rfl (by decide) v5 m1.length (byC m1) rfl (own_keep hO5.out (below1 _ _)) ⟨w5.heap.size, 0, none⟩ 1 1 [.int .u8 (t.rds.length : Int)] rfl rfl (cell_one_new _ _ _) one_cell_int (le_maxLen (by omega)) (by omega) (Nat.le_trans hb5.size (below1 _ _).size) ?_; intro v6 w6 HO6 hg6 _; have hb6 := own_below (keepB hb5 (below1 _ _)) (Nat.le_refl _) (own_keep hO5.out (below1 _ _)) hg6; replace c2 := keep hb6 k2; replace c3 := keep hb6 k3; have ho6 := Lib.hid (HB2.out _ _ HO6); clear hg6 HO6))
    clear eW c0 c1 hK
    go_loopw [5, 6] (fun v i wr => ∃ k : Nat, k ≤ t.rds.length ∧ i = .int .i64 k ∧ Hid (wr.ownsRow W.heap.size 5 1 v (rTo m2 t k).length (byC (rTo m2 t k))) ∧ Below W.heap.size W wr) (fun _ i _ => t.rds.length - (intOf i).toNat)
    case atStart => exact ⟨0, Nat.zero_le _, rfl, by rw [HM2.out]; exact ho6, hb6⟩
    case round =>
      obtain ⟨k, hk, rfl, HO, hwr⟩ := hrel
      obtain ⟨wc, rfl⟩ : ∃ wc : World, wc = wr := ⟨_, rfl⟩
      replace c2 := keep hwr k2
      replace c3 := keep hwr k3
      by_cases hlt : k < t.rds.length
      · obtain ⟨b, off, s, n, rfl, y0, y1, HV⟩ := (HX.out.rds.later (keepB HB hwr)).at' hlt
        have hki : (k : Int) < (t.rds.length : Int) := by omega
        have hS := Lib.hid (rTo_succ (m := m2) hlt HV.out)
        have hs12 : s.size ≤ 12 := by have := hkr.out k hlt; rw [HV.out] at this; exact this
        have hkl := hrl.out k
        obtain ⟨m9, hm9⟩ : ∃ m9, Hid (rTo m2 t k = m9) := ⟨_, rfl⟩
        rw [hm9.out] at HO hS hkl
        obtain ⟨A9, c9, hform, _, hB9⟩ := own_bys HO.out
        subst hform
        obtain ⟨m10, hm10⟩ : ∃ m10, Hid (m9 ++ beL s.size 2 ++ s.data.toList = m10) := ⟨_, rfl⟩
        rw [hm10.out] at hS
        have hl10 : m10.length ≤ 600200 := by
          have := txt_len s
          rw [← hm10.out, List.length_append, List.length_append, beL_length]; omega
        have HT9 : Hid (Calls Tryd.prog 49 #[.slice A9 m9.length c9, .string s] wc (OwnBys wc m10)) := by
          rw [← hm10.out]
          exact refPutText02_any m9 s A9 c9 wc hB9 (by omega) (by omega)
        have HT10 : Hid (∀ wz A ca, BysAt wz A m10 → Calls Tryd.prog 48 #[.slice A m10.length ca, .int .u64 (n : Int), .int .i64 8] wz (OwnBys wz (rTo m2 t (k + 1)))) := fun wz A ca hA => by
          rw [hS.out]
          exact refPut02z m10 n 8 _ 8 rfl rfl A ca wz hA (by omega) (by decide)
        clear hm9 hm10
        go_wp2_with (first
          | (go_at_call 49; (with_reducible refine HT9.out.mono ?_); rintro e w11 hq; obtain ⟨A11, c11, rfl, hB11, hb⟩ := hq.at_; replace c2 := keep hb c2; replace y1 := keep hb y1; have hb11 := keepB hwr hb)
          | (go_at_call 48; refine (HT10.out _ A11 c11 hB11).mono ?_; rintro e w12 ⟨v12, rfl, ho12, hb12'⟩; have hb12 := keepB hb11 hb12'; replace ho12 := Lib.hid (own_base8 ho12 hb11.size)))
        go_roundw
        case rel => exact ⟨k + 1, by omega, by go_num, ho12, hb12⟩
        case measure => simp [intOf]; omega
      · obtain rfl : k = t.rds.length := by omega
        rw [hm3.out] at HO
        clear hlt
        go_wp2_with (have _h := HO; at_builtin; refine wpList_append_own _ rfl _ _ 31 rfl W.heap.size 5 i0 (.int .u8 0) 1 1 Tryd.underlying31 hi hz0 hz1 hz2 rfl (by decide) u5 m3.length (byC m3) rfl (own_keep HO.out (below1 _ _)) ⟨wc.heap.size, 0, none⟩ 1 1 [.int .u8 (t.wrs.length : Int)] rfl rfl (cell_one_new _ _ _) one_cell_int (le_maxLen (by omega)) (by omega) (Nat.le_trans hwr.size (below1 _ _).size) ?_; intro v7 w7 HO7 hg7 _; have hb7 := own_below (keepB hwr (below1 _ _)) (Nat.le_refl _) (own_keep HO.out (below1 _ _)) hg7; have ho7 := Lib.hid (HB4.out _ _ HO7); clear hg7 HO7)
        clear hwr HO ho6
        go_loopw [5, 7] (fun v i wr => ∃ k : Nat, k ≤ t.wrs.length ∧ i = .int .i64 k ∧ Hid (wr.ownsRow W.heap.size 5 1 v (wTo m4 t k).length (byC (wTo m4 t k))) ∧ Below W.heap.size W wr) (fun _ i _ => t.wrs.length - (intOf i).toNat)
        case atStart => exact ⟨0, Nat.zero_le _, rfl, by rw [HM4.out]; exact ho7, hb7⟩
        case round =>
          obtain ⟨k, hk, rfl, HO, hwr⟩ := hrel
          obtain ⟨wc, rfl⟩ : ∃ wc : World, wc = wr := ⟨_, rfl⟩
          replace c3 := keep hwr k3
          by_cases hlt : k < t.wrs.length
          · obtain ⟨b, off, s, z, n, x, rfl, y0, y1, y2, y3, HV⟩ := (HX.out.wrs.later (keepB HB hwr)).at' hlt
            have hki : (k : Int) < (t.wrs.length : Int) := by omega
            have hS := Lib.hid (wTo_succ (m := m4) hlt HV.out)
            have hs12 : s.size ≤ 12 := by have := hkw.out k hlt; rw [HV.out] at this; exact this
            have hgood : (⟨z, n, x⟩ : Val).Good := by have := HX.out.wv k hlt; rw [HV.out] at this; exact this
            have hkl := hwl.out k
            obtain ⟨m9, hm9⟩ : ∃ m9, Hid (wTo m4 t k = m9) := ⟨_, rfl⟩
            rw [hm9.out] at HO hS hkl
            obtain ⟨A9, c9, hform, _, hB9⟩ := own_bys HO.out
            subst hform
            obtain ⟨m10, hm10⟩ : ∃ m10, Hid (m9 ++ beL s.size 2 ++ s.data.toList = m10) := ⟨_, rfl⟩
            rw [hm10.out] at hS
            have hl10 : m10.length ≤ 600600 := by
              have := txt_len s
              rw [← hm10.out, List.length_append, List.length_append, beL_length]; omega
            have HT9 : Hid (Calls Tryd.prog 49 #[.slice A9 m9.length c9, .string s] wc (OwnBys wc m10)) := by
              rw [← hm10.out]
              exact refPutText02_any m9 s A9 c9 wc hB9 (by omega) (by omega)
            have HT10 : Hid (∀ wz A ca, BysAt wz A m10 → Calls Tryd.prog 50 #[.slice A m10.length ca, .agg #[.int .i64 z, .int .u64 (n : Int), .string x]] wz (OwnBys wz (wTo m4 t (k + 1)))) := fun wz A ca hA => by
              rw [hS.out]
              exact refPut04_any m10 ⟨z, n, x⟩ hgood A ca wz hA (by omega)
            clear hm9 hm10 hgood
            go_wp2_with (first
              | (go_at_call 49; (with_reducible refine HT9.out.mono ?_); rintro e w11 hq; obtain ⟨A11, c11, rfl, hB11, hb⟩ := hq.at_; replace c3 := keep hb c3; replace y1 := keep hb y1; replace y2 := keep hb y2; replace y3 := keep hb y3; have hb11 := keepB hwr hb)
              | (go_at_call 50; refine (HT10.out _ A11 c11 hB11).mono ?_; rintro e w12 ⟨v12, rfl, ho12, hb12'⟩; have hb12 := keepB hb11 hb12'; replace ho12 := Lib.hid (own_base8 ho12 hb11.size)))
            go_roundw
            case rel => exact ⟨k + 1, by omega, by go_num, ho12, hb12⟩
            case measure => simp [intOf]; omega
          · obtain rfl : k = t.wrs.length := by omega
            clear hlt
            go_wp2
            go_ret
            exact OwnBys.low ⟨_, rfl, HO.out, hwr⟩ HB HE.out
end Go.Proofs.YtfblemdpimbciaaDoor
