/- The reference's Take of a transaction. -/
import Derived.Test.YtfblemdpimbciaaDoorTake08
import Derived.Test.YtfblemdpimbciaaDoorRefTxF08
namespace Go.Proofs.YtfblemdpimbciaaDoor
open Go.RowKit Go.Shelf Go.Sort

theorem tx_none {s : RS} {s2 : RS} {a b n k : Nat} (h : takeTx s = txEnd a b (takeRs s2 n).1 (takeWs (takeN (takeRs s2 n).2 1).2 (takeN (takeRs s2 n).2 1).1).1 (takeWs (takeN (takeRs s2 n).2 1).2 (takeN (takeRs s2 n).2 1).1).2) (hk : (takeRs s2 k).2 = none) (hn : k ≤ n) : takeTx s = (noTx, none) := by
  rw [h, takeRs_none' hk hn, takeN_none, takeWs_from_none]
  rfl
set_option maxRecDepth 100000 in
set_option maxHeartbeats 16000000 in
theorem refTx_any {w : World} {p : Nat} {s : RS} (h : RRdrAt w p s) :
    Calls Tryd.prog 15 #[.pointer (some ⟨p, 0, none⟩)] w (TxPost w p (fun w' => RRdrAt w' p (takeTx s).2) (takeTx s).1) := by
  obtain ⟨i0, hi, hz0, hz1, hz2⟩ := info_parts info_rd8
  obtain ⟨j0, hj, hy0, hy1, hy2⟩ := info_parts info_wr8
  obtain ⟨W0, eW0, hB0, hs0, hrow0⟩ := mk4 w (.int .i64 0) (.int .i64 0) (.slice none 0 0) (.slice none 0 0) 27
  have hpw := h.lt
  have hR0 := h.later hB0
  have HCI := Lib.hid (refIdT_any hR0)
  obtain ⟨a, b, s1, hI⟩ : ∃ a b s1, Hid (takeI s = ((a, b), s1)) := ⟨_, _, _, rfl⟩
  rw [hI.out] at HCI
  have hnl := takeN_lt s1 1
  obtain ⟨n, hn⟩ : ∃ n, Hid ((takeN s1 1).1 = n) := ⟨_, rfl⟩
  obtain ⟨s2, hs2⟩ : ∃ s2, Hid ((takeN s1 1).2 = s2) := ⟨_, rfl⟩
  rw [hn.out] at hnl
  have HC1 : Hid (∀ wz, RRdrAt wz p s1 → Calls Tryd.prog 43 #[.pointer (some ⟨p, 0, none⟩), .int .i64 1] wz (RTakePost wz p n s2)) := fun wz hw => by rw [← hn.out, ← hs2.out]; exact refTake_any hw 1 1 rfl (by decide)
  have HX : Hid (takeTx s = txEnd a b (takeRs s2 n).1 (takeWs (takeN (takeRs s2 n).2 1).2 (takeN (takeRs s2 n).2 1).1).1 (takeWs (takeN (takeRs s2 n).2 1).2 (takeN (takeRs s2 n).2 1).1).2) := by
    show _ = _
    rw [takeTx, hI.out]
    simp only [hn.out, hs2.out]
  have hwn : IntKind.i64.wrap (n : Int) = n := IntWalk.i64_in _ (by omega)
  clear h hR0 hn hs2 hI
  go_enter Tryd.func15, Tryd.ntmps15
  go_wp2_with (first
    | (go_at_call 17; refine HCI.out.mono ?_; rintro e w1 ⟨he, hR1, ho1⟩; dsimp only at he hR1; subst he; obtain ⟨w2, ew2, hb2, hsz2, hrow2⟩ := mk4 w1 (.int .i64 (a : Int)) (.int .i64 (b : Int)) (.slice none 0 0) (.slice none 0 0) 27; have hss2 := set_same (j := 2) (v := .slice none 0 0) hrow2 rfl; have hss3 := set_same (j := 3) (v := .slice none 0 0) hrow2 rfl; obtain ⟨g0, g1, g2, g3⟩ := mkc4 hrow2; have f2 := frozen_of_row w2 w1.heap.size 2 _ _ hrow2; have f3 := frozen_of_row w2 w1.heap.size 3 _ _ hrow2; have hR2 := hR1.later hb2; have hK2 := TkAt.new hpw hB0 hs0 hrow0 ho1 hb2 hrow2)
    | (go_at_call 43; refine (HC1.out _ hR2).mono ?_; rintro e w3 ⟨rfl, hR3, ho3⟩; have hK3 := Lib.hid (hK2.call ho3)))
  replace hR3 := Lib.hid hR3
  clear ew2 hss2 hss3 g0 g1 g2 g3 f2 f3 hb2 hsz2 hrow2 hR2 hK2 ho3 hR1 ho1 HCI HC1 eW0 hB0 hs0 hrow0
  go_loopw [5] (fun iv wr => ∃ (k : Nat) (vr : Value), iv = .int .i64 k ∧ k ≤ n ∧ Hid (RRdrAt wr p (takeRs s2 k).2) ∧ Hid (TkAt w wr p w.heap.size w1.heap.size a b vr (.slice none 0 0) (takeRs s2 k).1 [])) (fun iv _ => n - (intOf iv).toNat)
  case atStart => exact ⟨0, _, rfl, Nat.zero_le _, hR3, hK3⟩
  case round =>
    obtain ⟨k, vr, rfl, hkn, hR, hK⟩ := hrel
    obtain ⟨wc, rfl⟩ : ∃ wc : World, wc = wr := ⟨_, rfl⟩
    clear hR3 hK3
    have hlen := takeRs_len s2 k
    obtain ⟨rs, sk, hrs⟩ : ∃ rs sk, Hid (takeRs s2 k = (rs, sk)) := ⟨_, _, rfl⟩
    rw [hrs.out] at hR hK hlen
    replace hlen : Hid (rs.length = k) := hlen
    replace hR : Hid (RRdrAt wc p sk) := hR
    replace hK : Hid (TkAt w wc p w.heap.size w1.heap.size a b vr (.slice none 0 0) rs []) := hK
    obtain ⟨A4, c4, hform, _, _, _⟩ := own_rds hK.out.rr
    subst hform
    have rc := hR.out.c2
    obtain ⟨cc, hcc⟩ : ∃ cc, Hid ((decide (k < n) && sk.isSome) = cc) := ⟨_, rfl⟩
    go_upto_region 4 with fail
    go_cut [25] (fun s25 wx => s25 = .bool cc ∧ wc = wx)
    case first =>
      by_cases h0 : k < n
      · have hcc2 : Hid (sk.isSome = cc) := by show _ = _; rw [← hcc.out, decide_eq_true h0, Bool.true_and]
        have t1 : decide ((k : Int) < (n : Int)) = true := decide_eq_true (by omega)
        have t1n : decide (k < n) = true := decide_eq_true h0
        clear h0
        go_wp2
        go_meet
        exact ⟨by rw [hcc2.out], rfl⟩
      · have hcc2 : Hid (cc = false) := by show _ = _; rw [← hcc.out, decide_eq_false h0, Bool.false_and]
        have t1 : decide ((k : Int) < (n : Int)) = false := decide_eq_false (by omega)
        have t1n : decide (k < n) = false := decide_eq_false h0
        clear h0
        go_wp2
        go_meet
        exact ⟨by rw [hcc2.out], rfl⟩
    case rest =>
      obtain ⟨rfl, rfl⟩ := hcut
      cases cc
      · cases sk with
        | none =>
          have HN : Hid (takeTx s = (noTx, none)) := tx_none HX.out (k := k) (by rw [hrs.out]) hkn
          have HR9 : Hid (Calls Tryd.prog 43 #[.pointer (some ⟨p, 0, none⟩), .int .i64 1] wc (RTakePost wc p 0 none)) := refTake_any hR.out 1 1 rfl (by decide)
          clear hcc HX hlen hkn hrs hwn rc
          go_wp2_with (first
            | (go_at_call 43; (with_reducible refine HR9.out.mono ?_); rintro e w21 ⟨rfl, hR21, ho21⟩; have hK21 := hK.out.call ho21; have rc := hR21.c2; have rf := hR21.fz2; have hR22 := hR21.gone; obtain ⟨w22, ew22⟩ : ∃ w22, w21.setCell ⟨p, 2, none⟩ (.bool true) = w22 := ⟨_, rfl⟩; have ho22 := out_cell w21 p 2 (.bool true); rw [ew22] at hR22 ho22; have hK22 := hK21.call ho22; obtain ⟨x0, x1, x2, x3⟩ := mkc4 hK22.zq; have f0 := frozen_of_row w22 w.heap.size 0 _ _ hK22.zq; have f1 := frozen_of_row w22 w.heap.size 1 _ _ hK22.zq; have f2 := frozen_of_row w22 w.heap.size 2 _ _ hK22.zq; have f3 := frozen_of_row w22 w.heap.size 3 _ _ hK22.zq))
          refine wp_loop_rounds 1 ?_
          rw [rounds_succ]
          go_wp2
          obtain ⟨q0, q1, q2, q3⟩ := mkc4 (mks4 hK22.zq (.int .i64 0) (.int .i64 0) (.slice none 0 0) (.slice none 0 0))
          exact bodyPost_ret (v := txV noTx none none 0 0) (by simp [results, Tryd.results15, go_sem, q0, q1, q2, q3]; try rfl) rfl (by rw [HN.out]; exact tx_end (R := fun w' => RRdrAt w' p none) (fun w2 ho => hR22.out ho (fun j hj e => by omega)) (fun w2 _ => noTx_at w2) hK22.out (Nat.le_refl _))
        | some rr =>
          obtain rfl : k = n := by
            have := hcc.out
            simp only [Option.isSome_some, Bool.and_true, decide_eq_false_iff_not] at this
            omega
          obtain ⟨sk, hsk⟩ : ∃ sk, Hid (some rr = sk) := ⟨_, rfl⟩
          rw [hsk.out] at hrs hR
          have hm2l := takeN_lt sk 1
          obtain ⟨m2, hm2⟩ : ∃ m2, Hid ((takeN sk 1).1 = m2) := ⟨_, rfl⟩
          obtain ⟨s4, hs4⟩ : ∃ s4, Hid ((takeN sk 1).2 = s4) := ⟨_, rfl⟩
          rw [hm2.out] at hm2l
          have HX2 : Hid (takeTx s = txEnd a b rs (takeWs s4 m2).1 (takeWs s4 m2).2) := by
            show _ = _
            rw [HX.out, hrs.out]
            simp only [hm2.out, hs4.out]
          have HC2 : Hid (Calls Tryd.prog 43 #[.pointer (some ⟨p, 0, none⟩), .int .i64 1] wc (RTakePost wc p m2 s4)) := by rw [← hm2.out, ← hs4.out]; exact refTake_any hR.out 1 1 rfl (by decide)
          have hrk := takeRs_keys s2 k
          rw [hrs.out] at hrk
          replace hrk : ∀ x ∈ rs, x.key.size ≤ 12 := hrk
          have hwm : IntKind.i64.wrap (m2 : Int) = m2 := IntWalk.i64_in _ (by omega)
          have hr6 : rs.length ≤ 255 := by have := hlen.out; omega
          replace hrk := Lib.hid hrk
          clear hcc HX hkn hrs hwn hm2 hs4 hlen rc hsk
          go_wp2_with (go_at_call 43; (with_reducible refine HC2.out.mono ?_); rintro e w20 ⟨rfl, hR20, ho20⟩; have hK20 := Lib.hid (hK.out.call ho20))
          replace hR20 := Lib.hid hR20
          clear HC2 ho20 hR hK
          go_loopw [8] (fun iv wr => ∃ (k2 : Nat) (vw : Value), iv = .int .i64 k2 ∧ k2 ≤ m2 ∧ Hid (RRdrAt wr p (takeWs s4 k2).2) ∧ Hid (TkAt w wr p w.heap.size w1.heap.size a b (.slice A4 rs.length c4) vw rs (takeWs s4 k2).1)) (fun iv _ => m2 - (intOf iv).toNat)
          case atStart => exact ⟨0, _, rfl, Nat.zero_le _, hR20, hK20⟩
          case round =>
            obtain ⟨k2, vw, rfl, hkm, hR, hK⟩ := hrel
            obtain ⟨wd, rfl⟩ : ∃ wd : World, wd = wr := ⟨_, rfl⟩
            clear hR20 hK20
            have hwlen := takeWs_len s4 k2
            obtain ⟨ws, sk2, hws⟩ : ∃ ws sk, Hid (takeWs s4 k2 = (ws, sk)) := ⟨_, _, rfl⟩
            rw [hws.out] at hR hK hwlen
            replace hwlen : Hid (ws.length = k2) := hwlen
            replace hR : Hid (RRdrAt wd p sk2) := hR
            replace hK : Hid (TkAt w wd p w.heap.size w1.heap.size a b (.slice A4 rs.length c4) vw rs ws) := hK
            obtain ⟨B4, d4, hform, _, _, _⟩ := own_wrs hK.out.rw_
            subst hform
            have rc := hR.out.c2
            obtain ⟨cc, hcc⟩ : ∃ cc, Hid ((decide (k2 < m2) && sk2.isSome) = cc) := ⟨_, rfl⟩
            go_upto_region 10 with fail
            go_cut [51] (fun s51 wx => s51 = .bool cc ∧ wd = wx)
            case first =>
              by_cases h0 : k2 < m2
              · have hcc2 : Hid (sk2.isSome = cc) := by show _ = _; rw [← hcc.out, decide_eq_true h0, Bool.true_and]
                have t1 : decide ((k2 : Int) < (m2 : Int)) = true := decide_eq_true (by omega)
                have t1n : decide (k2 < m2) = true := decide_eq_true h0
                clear h0
                go_wp2
                go_meet
                exact ⟨by rw [hcc2.out], rfl⟩
              · have hcc2 : Hid (cc = false) := by show _ = _; rw [← hcc.out, decide_eq_false h0, Bool.false_and]
                have t1 : decide ((k2 : Int) < (m2 : Int)) = false := decide_eq_false (by omega)
                have t1n : decide (k2 < m2) = false := decide_eq_false h0
                clear h0
                go_wp2
                go_meet
                exact ⟨by rw [hcc2.out], rfl⟩
            case rest =>
              obtain ⟨rfl, rfl⟩ := hcut
              cases cc
              · cases sk2 with
                | none =>
                  have HN : Hid (takeTx s = (noTx, none)) := by
                    show _ = _
                    rw [HX2.out, takeWs_none' (k := k2) (by rw [hws.out]) hkm]
                    rfl
                  have hR9 := hR.out
                  have hK9 := hK.out
                  clear hcc hws hwlen hR hK HX2 rc
                  have rc := hR9.c2
                  have rf := hR9.fz2
                  have hR23 := hR9.gone
                  obtain ⟨w23, ew23⟩ : ∃ w23, wd.setCell ⟨p, 2, none⟩ (.bool true) = w23 := ⟨_, rfl⟩
                  have ho23 := out_cell wd p 2 (.bool true)
                  rw [ew23] at hR23 ho23
                  have hK23 := hK9.call ho23
                  obtain ⟨x0, x1, x2, x3⟩ := mkc4 hK23.zq
                  have f0 := frozen_of_row w23 w.heap.size 0 _ _ hK23.zq
                  have f1 := frozen_of_row w23 w.heap.size 1 _ _ hK23.zq
                  have f2 := frozen_of_row w23 w.heap.size 2 _ _ hK23.zq
                  have f3 := frozen_of_row w23 w.heap.size 3 _ _ hK23.zq
                  go_wp2
                  obtain ⟨q0, q1, q2, q3⟩ := mkc4 (mks4 hK23.zq (.int .i64 0) (.int .i64 0) (.slice none 0 0) (.slice none 0 0))
                  exact bodyPost_ret (v := txV noTx none none 0 0) (by simp [results, Tryd.results15, go_sem, q0, q1, q2, q3]; try rfl) rfl (by rw [HN.out]; exact tx_end (R := fun w' => RRdrAt w' p none) (fun w2 ho => hR23.out ho (fun j hj e => by omega)) (fun w2 _ => noTx_at w2) hK23.out (Nat.le_refl _))
                | some r =>
                  obtain rfl : k2 = m2 := by
                    have := hcc.out
                    simp only [Option.isSome_some, Bool.and_true, decide_eq_false_iff_not] at this
                    omega
                  have hwk := takeWs_keys s4 k2
                  have hwg := takeWs_good s4 k2
                  rw [hws.out] at hwk hwg
                  have HX3 : Hid (takeTx s = txEnd a b rs ws (some r)) := by
                    show _ = _
                    rw [HX2.out, hws.out]
                  obtain ⟨A', B', ca', cb', e1, e2, hTx, hTx2⟩ := hK.out.tx2 hrk.out hwk hwg hr6 (by have := hwlen.out; omega)
                  injection e1 with e1 _ e1'
                  injection e2 with e2 _ e2'
                  subst e1 e1' e2 e2'
                  have HF : Hid (∀ wz, Below wd.heap.size wd wz → Calls Tryd.prog 46 #[.agg #[.int .i64 (a : Int), .int .i64 (b : Int), .slice A4 rs.length c4, .slice B4 ws.length d4]] wz fun e w' => e = .returned (.bool (formedT ⟨a, b, rs, ws⟩)) ∧ Below wz.heap.size wz w') := fun wz hz =>
                    refTxFormed_any ⟨a, b, rs, ws⟩ A4 B4 c4 d4 wz (hTx.later hz)
                  have HT2 := Lib.hid hTx2
                  obtain ⟨c0, c1, c2, c3⟩ := mkc4 hK.out.zg
                  clear hcc hwk hwg hTx hTx2 HX2 hws hwlen
                  cases hf : formedT ⟨a, b, rs, ws⟩
                  · have HN : Hid (takeTx s = (noTx, none)) := by show _ = _; rw [HX3.out]; exact txEnd_bad hf
                    rw [hf] at HF
                    clear hf
                    go_wp2_with (first
                      | (go_at_call 46; refine (HF.out _ (Below.refl _ _)).mono ?_; rintro e w24 ⟨rfl, hb24⟩; have hR24 := hR.out.later hb24; have hK24 := hK.out.later hb24; clear rc; have rc := hR24.c2; have rf := hR24.fz2; have hR25 := hR24.gone; obtain ⟨w25, ew25⟩ : ∃ w25, w24.setCell ⟨p, 2, none⟩ (.bool true) = w25 := ⟨_, rfl⟩; have ho25 := out_cell w24 p 2 (.bool true); rw [ew25] at hR25 ho25; have hK25 := hK24.call ho25; obtain ⟨x0, x1, x2, x3⟩ := mkc4 hK25.zq; have f0 := frozen_of_row w25 w.heap.size 0 _ _ hK25.zq; have f1 := frozen_of_row w25 w.heap.size 1 _ _ hK25.zq; have f2 := frozen_of_row w25 w.heap.size 2 _ _ hK25.zq; have f3 := frozen_of_row w25 w.heap.size 3 _ _ hK25.zq))
                    obtain ⟨q0, q1, q2, q3⟩ := mkc4 (mks4 hK25.zq (.int .i64 0) (.int .i64 0) (.slice none 0 0) (.slice none 0 0))
                    exact bodyPost_ret (v := txV noTx none none 0 0) (by simp [results, Tryd.results15, go_sem, q0, q1, q2, q3]; try rfl) rfl (by rw [HN.out]; exact tx_end (R := fun w' => RRdrAt w' p none) (fun w2 ho => hR25.out ho (fun j hj e => by omega)) (fun w2 _ => noTx_at w2) hK25.out (Nat.le_refl _))
                  · have HN : Hid (takeTx s = (⟨a, b, rs, ws⟩, some r)) := by show _ = _; rw [HX3.out, txEnd, hf]; rfl
                    rw [hf] at HF
                    clear hf
                    go_wp2_with (first
                      | (go_at_call 46; refine (HF.out _ (Below.refl _ _)).mono ?_; rintro e w24 ⟨rfl, hb24⟩; have hR24 := hR.out.later hb24; have hK24 := hK.out.later hb24; replace c0 := keep hb24 c0; replace c1 := keep hb24 c1; replace c2 := keep hb24 c2; replace c3 := keep hb24 c3; obtain ⟨x0, x1, x2, x3⟩ := mkc4 hK24.zq; have f0 := frozen_of_row w24 w.heap.size 0 _ _ hK24.zq; have f1 := frozen_of_row w24 w.heap.size 1 _ _ hK24.zq; have f2 := frozen_of_row w24 w.heap.size 2 _ _ hK24.zq; have f3 := frozen_of_row w24 w.heap.size 3 _ _ hK24.zq))
                    obtain ⟨q0, q1, q2, q3⟩ := mkc4 (mks4 hK24.zq (.int .i64 (a : Int)) (.int .i64 (b : Int)) (.slice A4 rs.length c4) (.slice B4 ws.length d4))
                    exact bodyPost_ret (v := txV ⟨a, b, rs, ws⟩ A4 B4 c4 d4) (by simp [results, Tryd.results15, go_sem, q0, q1, q2, q3, txV]; try rfl) rfl (by rw [HN.out]; exact tx_end (R := fun w' => RRdrAt w' p (some r)) (fun w2 ho => hR24.out ho (fun j hj e => by omega)) (fun w2 ho => (HT2.out w2 ((Out.of_below hb24).trans' ho))) hK24.out (Nat.le_refl _))
              · have hcs : k2 < m2 ∧ sk2.isSome = true := by have := hcc.out; simpa using this
                obtain ⟨hk1, _⟩ := hcs
                have hk1z : (k2 : Int) < (m2 : Int) := by omega
                have hws6 : ws.length ≤ 255 := by have := hwlen.out; omega
                obtain ⟨x, hx⟩ : ∃ x, Hid ((takeT sk2 12).1 = x) := ⟨_, rfl⟩
                obtain ⟨u1, hu1⟩ : ∃ u1, Hid ((takeT sk2 12).2 = u1) := ⟨_, rfl⟩
                obtain ⟨v, hv⟩ : ∃ v, Hid ((takeV u1).1 = v) := ⟨_, rfl⟩
                obtain ⟨u2, hu2⟩ : ∃ u2, Hid ((takeV u1).2 = u2) := ⟨_, rfl⟩
                have HN : Hid (takeWs s4 (k2 + 1) = (ws ++ [⟨x, v⟩], u2)) := takeWs_next hws.out hx.out hu1.out hv.out hu2.out
                have HTt : Hid (Calls Tryd.prog 44 #[.pointer (some ⟨p, 0, none⟩), .int .i64 12] wd (RTextPost wd p x u1)) := by rw [← hx.out, ← hu1.out]; exact refText_any hR.out 12 12 rfl
                have HTv : Hid (∀ wz, RRdrAt wz p u1 → Calls Tryd.prog 45 #[.pointer (some ⟨p, 0, none⟩)] wz fun e w' => e = .returned (.agg #[.int .i64 v.kind, .int .u64 (v.bits : Int), .string v.text]) ∧ RRdrAt w' p u2 ∧ Out (fun j => j = p) wz w') := fun wz hw => by
                  have := refVal_any hw
                  rw [hv.out, hu2.out] at this
                  exact this
                obtain ⟨z, bt, tx⟩ := v
                dsimp only at HTv
                clear hx hu1 hv hu2 hcc hws HX2 hwlen rc
                go_wp2_with (go_at_call 44; (with_reducible refine HTt.out.mono ?_); rintro e w11 ⟨rfl, hR11, ho11⟩; have hK11 := hK.out.call ho11; have c3b := (mkc4 hK11.zg).2.2.2)
                go_region_law (first
                  | (refine ready_append_own_at rfl _ _ 25 rfl (w1.heap.size + 1) 64 j0 _ 4 48 Tryd.underlying25 hj hy0 hy1 hy2 rfl (by decide) (.slice B4 ws.length d4) ws.length (wrCells ws) rfl (own_keep hK12.rw_ (below1 _ _)) ⟨w12.heap.size, 0, none⟩ 1 1 [.string x, .int .i64 z, .int .u64 (bt : Int), .string tx] rfl rfl (World.news_of_block (heap_alloc_new w12 _)) one_cell_wr8 (le_maxLen (by omega)) (by omega) (Nat.le_trans hK12.glt (below1 _ _).size) ?_; intro v15 w15 HO15 hg15 hv15; obtain ⟨A15, c15, rfl⟩ := own_form HO15; have hKa := hK12.later (below1 w12 (.cells #[.string x, .int .i64 z, .int .u64 (bt : Int), .string tx] 64)); have hK15 := Lib.hid (hKa.pushW (x := ⟨x, ⟨z, bt, tx⟩⟩) HO15 hg15 hv15); have hc15 := (hKa.cellW hg15).1; have hf15 := (hKa.cellW hg15).2; have hR15 := Lib.hid ((hR12.later (below1 w12 (.cells #[.string x, .int .i64 z, .int .u64 (bt : Int), .string tx] 64))).out (hKa.outW hg15 (.slice A15 (ws.length + 1) c15)) (fun j hj e => by { have := hKa.pq; have := hKa.qg; omega })); clear HO15 hg15 hv15 hKa)
                  | (go_simp; go_at_call 45; refine (HTv.out _ (hR11.later (below_drew (Below.refl _ _)))).mono ?_; rintro e w12 ⟨rfl, hR12, ho12⟩; have hK12 := (hK11.later (below_drew (Below.refl _ _))).call ho12; have c3c := (mkc4 hK12.zg).2.2.2; have c3d := keep (below1 w12 (.cells #[.string x, .int .i64 z, .int .u64 (bt : Int), .string tx] 64)) c3c))
                all_goals
                  go_wp2
                  go_roundw
                  case rel => exact ⟨k2 + 1, .slice A15 (ws.length + 1) c15, by go_num, hk1, by show RRdrAt _ _ _; rw [HN.out]; exact hR15.out, by show TkAt _ _ _ _ _ _ _ _ _ _ _; rw [HN.out]; exact hK15.out⟩
                  case measure => simp [intOf]; omega
      · have hcs : k < n ∧ sk.isSome = true := by have := hcc.out; simpa using this
        obtain ⟨hk1, _⟩ := hcs
        have hk1z : (k : Int) < (n : Int) := by omega
        have hrs6 : rs.length ≤ 255 := by have := hlen.out; omega
        obtain ⟨x, hx⟩ : ∃ x, Hid ((takeT sk 12).1 = x) := ⟨_, rfl⟩
        obtain ⟨u1, hu1⟩ : ∃ u1, Hid ((takeT sk 12).2 = u1) := ⟨_, rfl⟩
        obtain ⟨m, hm⟩ : ∃ m, Hid ((takeN u1 8).1 = m) := ⟨_, rfl⟩
        obtain ⟨u2, hu2⟩ : ∃ u2, Hid ((takeN u1 8).2 = u2) := ⟨_, rfl⟩
        have HN : Hid (takeRs s2 (k + 1) = (rs ++ [⟨x, m⟩], u2)) := takeRs_next hrs.out hx.out hu1.out hm.out hu2.out
        have HTt : Hid (Calls Tryd.prog 44 #[.pointer (some ⟨p, 0, none⟩), .int .i64 12] wc (RTextPost wc p x u1)) := by rw [← hx.out, ← hu1.out]; exact refText_any hR.out 12 12 rfl
        have HTn : Hid (∀ wz, RRdrAt wz p u1 → Calls Tryd.prog 43 #[.pointer (some ⟨p, 0, none⟩), .int .i64 8] wz (RTakePost wz p m u2)) := fun wz hw => by rw [← hm.out, ← hu2.out]; exact refTake_any hw 8 8 rfl (by decide)
        clear hx hu1 hm hu2 hcc hrs HX hlen rc
        go_wp2_with (go_at_call 44; (with_reducible refine HTt.out.mono ?_); rintro e w11 ⟨rfl, hR11, ho11⟩; have hK11 := hK.out.call ho11; have c2b := (mkc4 hK11.zg).2.2.1)
        go_region_law (first
          | (refine ready_append_own_at rfl _ _ 24 rfl (w1.heap.size + 1) 60 i0 _ 2 24 Tryd.underlying24 hi hz0 hz1 hz2 rfl (by decide) (.slice A4 rs.length c4) rs.length (rdCells rs) rfl (own_keep hK12.rr (below1 _ _)) ⟨w12.heap.size, 0, none⟩ 1 1 [.string x, .int .u64 (m : Int)] rfl rfl (World.news_of_block (heap_alloc_new w12 _)) one_cell_rd8 (le_maxLen (by omega)) (by omega) (Nat.le_trans hK12.glt (below1 _ _).size) ?_; intro v15 w15 HO15 hg15 hv15; obtain ⟨A15, c15, rfl⟩ := own_form HO15; have hKa := hK12.later (below1 w12 (.cells #[.string x, .int .u64 (m : Int)] 60)); have hK15 := Lib.hid (hKa.pushR (x := ⟨x, m⟩) HO15 hg15 hv15); have hc15 := (hKa.cellR hg15).1; have hf15 := (hKa.cellR hg15).2; have hR15 := Lib.hid ((hR12.later (below1 w12 (.cells #[.string x, .int .u64 (m : Int)] 60))).out (hKa.outR hg15 (.slice A15 (rs.length + 1) c15)) (fun j hj e => by { have := hKa.pq; have := hKa.qg; omega })); clear HO15 hg15 hv15 hKa)
          | (go_simp; go_at_call 43; refine (HTn.out _ (hR11.later (below_drew (Below.refl _ _)))).mono ?_; rintro e w12 ⟨rfl, hR12, ho12⟩; have hK12 := (hK11.later (below_drew (Below.refl _ _))).call ho12; have c2c := (mkc4 hK12.zg).2.2.1; have c2d := keep (below1 w12 (.cells #[.string x, .int .u64 (m : Int)] 60)) c2c))
        all_goals
          go_wp2
          go_roundw
          case rel => exact ⟨k + 1, .slice A15 (rs.length + 1) c15, by go_num, hk1, by show RRdrAt _ _ _; rw [HN.out]; exact hR15.out, by show TkAt _ _ _ _ _ _ _ _ _ _ _; rw [HN.out]; exact hK15.out⟩
          case measure => simp [intOf]; omega
end Go.Proofs.YtfblemdpimbciaaDoor
