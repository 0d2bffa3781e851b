/- txn.Take. -/
import Derived.Test.YtfblemdpimbciaaDoorTkM08
import Derived.Deep.DeepCutAuto
import Derived.Deep.AppendLies
namespace Go.Proofs.YtfblemdpimbciaaDoor
open Go.RowKit Go.Shelf Go.Sort

theorem takeRs_next {s : RS} {k : Nat} {rs : List Rd} {sk u1 u2 : RS} {x : ByteArray} {n : Nat} (h : takeRs s k = (rs, sk)) (h1 : (takeT sk 12).1 = x) (h2 : (takeT sk 12).2 = u1) (h3 : (takeN u1 8).1 = n) (h4 : (takeN u1 8).2 = u2) : takeRs s (k + 1) = (rs ++ [⟨x, n⟩], u2) := by
  rw [takeRs, h]
  unfold takeR1
  rw [h1, h2, h3, h4]
theorem takeWs_next {s : RS} {k : Nat} {ws : List Wr} {sk u1 u2 : RS} {x : ByteArray} {v : Val} (h : takeWs s k = (ws, sk)) (h1 : (takeT sk 12).1 = x) (h2 : (takeT sk 12).2 = u1) (h3 : (takeV u1).1 = v) (h4 : (takeV u1).2 = u2) : takeWs s (k + 1) = (ws ++ [⟨x, v⟩], u2) := by
  rw [takeWs, h]
  unfold takeW1
  rw [h1, h2, h3, h4]
theorem TabsP.outP {w wz : World} {p : Nat} (h : TabsP w p) (hp : p < w.heap.size) (ho : OutP p w wz) : TabsP wz p := h.out ho (fun k hk e => by omega)
set_option maxRecDepth 100000 in
set_option maxHeartbeats 16000000 in
theorem rdrTx_any {w : World} {p : Nat} {s : RS} (h : RdrAt w p s) (hT : TabsP w p) :
    Calls Tryd.prog 12 #[.pointer (some ⟨p, 0, none⟩)] w (TxPost w p (fun w' => RdrAt w' p (takeTx s).2) (takeTx s).1) := by
  obtain ⟨i0, hi, hz0, hz1, hz2⟩ := info_parts info_rd8
  obtain ⟨j0, hj, hy0, hy1, hy2⟩ := info_parts info_wr8
  obtain ⟨W0, eW0, hB0, hs0, hrow0⟩ := mk4 w (.int .i64 0) (.int .i64 0) (.slice none 0 0) (.slice none 0 0) 27
  have hpw := h.lt
  have hR0 := h.later hB0
  have HTP : Hid (∀ wz, OutP p w wz → TabsP wz p) := fun wz ho => hT.outP hpw ho
  have HCI := Lib.hid (rdrId_any hR0)
  obtain ⟨a, b, s1, hI⟩ : ∃ a b s1, Hid (takeI s = ((a, b), s1)) := ⟨_, _, _, rfl⟩
  rw [hI.out] at HCI
  have hnl := takeN_lt s1 1
  obtain ⟨n, hn⟩ : ∃ n, Hid ((takeN s1 1).1 = n) := ⟨_, rfl⟩
  obtain ⟨s2, hs2⟩ : ∃ s2, Hid ((takeN s1 1).2 = s2) := ⟨_, rfl⟩
  rw [hn.out] at hnl
  have HC1 : Hid (∀ wz, RdrAt wz p s1 → Calls Tryd.prog 40 #[.pointer (some ⟨p, 0, none⟩), .int .i64 1] wz (TakePost wz p n s2)) := fun wz hw => by rw [← hn.out, ← hs2.out]; exact rdrTake_any hw 1 1 rfl (by decide)
  have HX : Hid (takeTx s = txEnd a b (takeRs s2 n).1 (takeWs (takeN (takeRs s2 n).2 1).2 (takeN (takeRs s2 n).2 1).1).1 (takeWs (takeN (takeRs s2 n).2 1).2 (takeN (takeRs s2 n).2 1).1).2) := by
    show _ = _
    rw [takeTx, hI.out]
    simp only [hn.out, hs2.out]
  have hwn : IntKind.i64.wrap (n : Int) = n := IntWalk.i64_in _ (by omega)
  clear h hR0 hT hn hs2 hI
  go_enter Tryd.func12, Tryd.ntmps12
  go_wp2_with (first
    | (go_at_call 16; refine HCI.out.mono ?_; rintro e w1 ⟨he, hR1, ho1⟩; dsimp only at he hR1; subst he; obtain ⟨w2, ew2, hb2, hsz2, hrow2⟩ := mk4 w1 (.int .i64 (a : Int)) (.int .i64 (b : Int)) (.slice none 0 0) (.slice none 0 0) 27; have hss2 := set_same (j := 2) (v := .slice none 0 0) hrow2 rfl; have hss3 := set_same (j := 3) (v := .slice none 0 0) hrow2 rfl; obtain ⟨g0, g1, g2, g3⟩ := mkc4 hrow2; have f2 := frozen_of_row w2 w1.heap.size 2 _ _ hrow2; have f3 := frozen_of_row w2 w1.heap.size 3 _ _ hrow2; have hR2 := hR1.later hb2; have hK2 := TkAt.new hpw hB0 hs0 hrow0 ho1 hb2 hrow2)
    | (go_at_call 40; refine (HC1.out _ hR2).mono ?_; rintro e w3 ⟨rfl, hR3, ho3⟩; have hK3 := Lib.hid (hK2.call ho3)))
  replace hR3 := Lib.hid hR3
  clear ew2 hss2 hss3 g0 g1 g2 g3 f2 f3 hb2 hsz2 hrow2 hR2 hK2 ho3 hR1 ho1 HCI HC1 eW0 hB0 hs0 hrow0
  go_loopw [22] (fun _ wr => ∃ (k : Nat) (vr : Value), k ≤ n ∧ k ≤ 7 ∧ Hid (RdrAt wr p (takeRs s2 k).2) ∧ Hid (TkAt w wr p w.heap.size w1.heap.size a b vr (.slice none 0 0) (takeRs s2 k).1 [])) (fun _ wr => n - lenAt wr w1.heap.size 2)
  case atStart => exact ⟨0, _, Nat.zero_le _, Nat.zero_le _, hR3, hK3⟩
  case round =>
    obtain ⟨k, vr, hkn, hk7, hR, hK⟩ := hrel
    obtain ⟨wc, rfl⟩ : ∃ wc : World, wc = wr := ⟨_, rfl⟩
    clear hR3 hK3
    have hlen := takeRs_len s2 k
    obtain ⟨rs, sk, hrs⟩ : ∃ rs sk, Hid (takeRs s2 k = (rs, sk)) := ⟨_, _, rfl⟩
    rw [hrs.out] at hR hK hlen
    replace hlen : Hid (rs.length = k) := hlen
    replace hR : Hid (RdrAt wc p sk) := hR
    replace hK : Hid (TkAt w wc p w.heap.size w1.heap.size a b vr (.slice none 0 0) rs []) := hK
    obtain ⟨A4, c4, hform, _, _, _⟩ := own_rds hK.out.rr
    subst hform
    obtain ⟨_, _, c2, c3⟩ := mkc4 hK.out.zg
    obtain ⟨cc, hcc⟩ : ∃ cc, Hid ((decide (rs.length < n) && decide (rs.length ≤ 6)) = cc) := ⟨_, rfl⟩
    go_upto_region 3 with fail
    go_cut [22] (fun s22 wx => s22 = .bool cc ∧ wc = wx)
    case first =>
      by_cases h0 : rs.length < n
      · have t1 : decide ((rs.length : Int) < (n : Int)) = true := decide_eq_true (by omega)
        have t1n : decide (rs.length < n) = true := decide_eq_true h0
        by_cases h1 : rs.length ≤ 6
        · have hcc2 : Hid (cc = true) := by show _ = _; rw [← hcc.out, decide_eq_true h0, decide_eq_true h1]; rfl
          have t2 : decide ((rs.length : Int) ≤ 6) = true := decide_eq_true (by omega)
          have t2n : decide (rs.length ≤ 6) = true := decide_eq_true h1
          clear h0 h1
          go_wp2
          go_meet
          exact ⟨by rw [hcc2.out], rfl⟩
        · have hcc2 : Hid (cc = false) := by show _ = _; rw [← hcc.out, decide_eq_false h1, Bool.and_false]
          have t2 : decide ((rs.length : Int) ≤ 6) = false := decide_eq_false (by omega)
          have t2n : decide (rs.length ≤ 6) = false := decide_eq_false h1
          clear h0 h1
          go_wp2
          go_meet
          exact ⟨by rw [hcc2.out], rfl⟩
      · have hcc2 : Hid (cc = false) := by show _ = _; rw [← hcc.out, decide_eq_false h0, Bool.false_and]
        have t1 : decide ((rs.length : Int) < (n : Int)) = false := decide_eq_false (by omega)
        have t1n : decide (rs.length < n) = false := decide_eq_false h0
        clear h0
        go_wp2
        go_meet
        exact ⟨by rw [hcc2.out], rfl⟩
    case rest =>
      obtain ⟨rfl, rfl⟩ := hcut
      cases cc
      · by_cases h6 : 6 < n
        · have hk : k = 7 := by
            have := hcc.out
            have hl9 := hlen.out
            simp only [Bool.and_eq_false_iff, decide_eq_false_iff_not] at this
            omega
          subst hk
          have HN : Hid (takeTx s = (noTx, none)) := by show _ = _; rw [HX.out]; exact txEnd_bad (formedT_long (.inl (by rw [takeRs_len]; exact h6)))
          have HR9 : Hid (∀ wz, RdrAt wz p none → Calls Tryd.prog 40 #[.pointer (some ⟨p, 0, none⟩), .int .i64 1] wz (TakePost wz p 0 none)) := fun wz hw => rdrTake_any hw 1 1 rfl (by decide)
          have t3 : decide ((6 : Int) < (rs.length : Int)) = true := decide_eq_true (by have := hlen.out; omega)
          have t3n : decide (6 < rs.length) = true := decide_eq_true (by have := hlen.out; omega)
          clear hcc h6 HX hlen hkn hk7 hrs hwn
          go_wp2_with (first
            | (go_at_call 40; (with_reducible refine (rdrBad_any hR.out).mono ?_); rintro e w20 ⟨rfl, hR20, ho20⟩; have hK20 := hK.out.call ho20)
            | (go_at_call 40; (with_reducible refine (HR9.out _ hR20).mono ?_); rintro e w21 ⟨rfl, hR21, ho21⟩; have hK21 := hK20.call ho21; obtain ⟨_, _, d2, d3⟩ := mkc4 hK21.zg))
          refine wp_loop_rounds 1 ?_
          rw [rounds_succ]
          go_wp2_with (first
            | (go_at_call 14; refine (rdrOK_any hR21).mono ?_; rintro e w22 ⟨rfl, rfl⟩)
            | (go_at_call 40; (with_reducible refine (rdrBad_any hR21).mono ?_); rintro e w23 ⟨rfl, hR23, ho23⟩; have hK23 := hK21.call ho23; obtain ⟨x0, x1, x2, x3⟩ := mkc4 hK23.zq; have f0 := frozen_of_row w23 w.heap.size 0 _ _ hK23.zq; have f1 := frozen_of_row w23 w.heap.size 1 _ _ hK23.zq; have f2 := frozen_of_row w23 w.heap.size 2 _ _ hK23.zq; have f3 := frozen_of_row w23 w.heap.size 3 _ _ hK23.zq))
          obtain ⟨q0, q1, q2, q3⟩ := mkc4 (mks4 hK23.zq (.int .i64 0) (.int .i64 0) (.slice none 0 0) (.slice none 0 0))
          exact bodyPost_ret (v := txV noTx none none 0 0) (by simp [results, Tryd.results12, go_sem, q0, q1, q2, q3]; try rfl) rfl (by rw [HN.out]; exact tx_end (R := fun w' => RdrAt w' p none) (fun w2 ho => hR23.out ho (fun j hj e => by omega)) (fun w2 _ => noTx_at w2) hK23.out (Nat.le_refl _))
        · obtain rfl : k = n := by
            have := hcc.out
            have hl9 := hlen.out
            simp only [Bool.and_eq_false_iff, decide_eq_false_iff_not] at this
            omega
          have hm2l := takeN_lt sk 1
          obtain ⟨m2, hm2⟩ : ∃ m2, Hid ((takeN sk 1).1 = m2) := ⟨_, rfl⟩
          obtain ⟨s4, hs4⟩ : ∃ s4, Hid ((takeN sk 1).2 = s4) := ⟨_, rfl⟩
          rw [hm2.out] at hm2l
          have HX2 : Hid (takeTx s = txEnd a b rs (takeWs s4 m2).1 (takeWs s4 m2).2) := by
            show _ = _
            rw [HX.out, hrs.out]
            simp only [hm2.out, hs4.out]
          have HC2 : Hid (Calls Tryd.prog 40 #[.pointer (some ⟨p, 0, none⟩), .int .i64 1] wc (TakePost wc p m2 s4)) := by rw [← hm2.out, ← hs4.out]; exact rdrTake_any hR.out 1 1 rfl (by decide)
          have hrk := takeRs_keys s2 k
          rw [hrs.out] at hrk
          replace hrk : ∀ x ∈ rs, x.key.size ≤ 12 := hrk
          have hwm : IntKind.i64.wrap (m2 : Int) = m2 := IntWalk.i64_in _ (by omega)
          have hr6 : rs.length ≤ 6 := by have := hlen.out; omega
          have t3 : decide ((6 : Int) < (rs.length : Int)) = false := decide_eq_false (by omega)
          have t3n : decide (6 < rs.length) = false := decide_eq_false (by omega)
          replace hrk := Lib.hid hrk
          clear hcc h6 HX hkn hk7 hrs hwn hm2 hs4 c3 hlen
          go_wp2_with (go_at_call 40; (with_reducible refine HC2.out.mono ?_); rintro e w20 ⟨rfl, hR20, ho20⟩; have hK20 := Lib.hid (hK.out.call ho20))
          replace hR20 := Lib.hid hR20
          clear HC2 ho20 c2 hR hK
          go_loopw [52] (fun _ wr => ∃ (k2 : Nat) (vw : Value), k2 ≤ m2 ∧ k2 ≤ 7 ∧ Hid (RdrAt wr p (takeWs s4 k2).2) ∧ Hid (TkAt w wr p w.heap.size w1.heap.size a b (.slice A4 rs.length c4) vw rs (takeWs s4 k2).1)) (fun _ wr => m2 - lenAt wr w1.heap.size 3)
          case atStart => exact ⟨0, _, Nat.zero_le _, Nat.zero_le _, hR20, hK20⟩
          case round =>
            obtain ⟨k2, vw, hkm, hk7, hR, hK⟩ := hrel
            obtain ⟨wd, rfl⟩ : ∃ wd : World, wd = wr := ⟨_, rfl⟩
            clear hR20 hK20
            have hwlen := takeWs_len s4 k2
            obtain ⟨ws, sk2, hws⟩ : ∃ ws sk, Hid (takeWs s4 k2 = (ws, sk)) := ⟨_, _, rfl⟩
            rw [hws.out] at hR hK hwlen
            replace hwlen : Hid (ws.length = k2) := hwlen
            replace hR : Hid (RdrAt wd p sk2) := hR
            replace hK : Hid (TkAt w wd p w.heap.size w1.heap.size a b (.slice A4 rs.length c4) vw rs ws) := hK
            obtain ⟨B4, d4, hform, _, _, _⟩ := own_wrs hK.out.rw_
            subst hform
            obtain ⟨c0, c1, c2, c3⟩ := mkc4 hK.out.zg
            obtain ⟨cc, hcc⟩ : ∃ cc, Hid ((decide (ws.length < m2) && decide (ws.length ≤ 6)) = cc) := ⟨_, rfl⟩
            go_upto_region 8 with fail
            go_cut [52] (fun s52 wx => s52 = .bool cc ∧ wd = wx)
            case first =>
              by_cases h0 : ws.length < m2
              · have t1 : decide ((ws.length : Int) < (m2 : Int)) = true := decide_eq_true (by omega)
                have t1n : decide (ws.length < m2) = true := decide_eq_true h0
                by_cases h1 : ws.length ≤ 6
                · have hcc2 : Hid (cc = true) := by show _ = _; rw [← hcc.out, decide_eq_true h0, decide_eq_true h1]; rfl
                  have t2 : decide ((ws.length : Int) ≤ 6) = true := decide_eq_true (by omega)
                  have t2n : decide (ws.length ≤ 6) = true := decide_eq_true h1
                  clear h0 h1
                  go_wp2
                  go_meet
                  exact ⟨by rw [hcc2.out], rfl⟩
                · have hcc2 : Hid (cc = false) := by show _ = _; rw [← hcc.out, decide_eq_false h1, Bool.and_false]
                  have t2 : decide ((ws.length : Int) ≤ 6) = false := decide_eq_false (by omega)
                  have t2n : decide (ws.length ≤ 6) = false := decide_eq_false h1
                  clear h0 h1
                  go_wp2
                  go_meet
                  exact ⟨by rw [hcc2.out], rfl⟩
              · have hcc2 : Hid (cc = false) := by show _ = _; rw [← hcc.out, decide_eq_false h0, Bool.false_and]
                have t1 : decide ((ws.length : Int) < (m2 : Int)) = false := decide_eq_false (by omega)
                have t1n : decide (ws.length < m2) = false := decide_eq_false h0
                clear h0
                go_wp2
                go_meet
                exact ⟨by rw [hcc2.out], rfl⟩
            case rest =>
              obtain ⟨rfl, rfl⟩ := hcut
              cases cc
              · have hwk := takeWs_keys s4 k2
                have hwg := takeWs_good s4 k2
                rw [hws.out] at hwk hwg
                have HX3 : Hid (takeTx s = txEnd a b rs ws sk2) := by
                  show _ = _
                  have := hcc.out
                  have hl9 := hwlen.out
                  simp only [Bool.and_eq_false_iff, decide_eq_false_iff_not] at this
                  by_cases h7 : m2 ≤ 6
                  · obtain rfl : k2 = m2 := by omega
                    rw [HX2.out, hws.out]
                  · rw [HX2.out, txEnd_bad (formedT_long (.inr (by rw [takeWs_len]; omega))), txEnd_bad (formedT_long (.inr (by omega)))]
                obtain ⟨A', B', ca', cb', e1, e2, hTx, hTx2⟩ := hK.out.tx2 hrk.out hwk hwg (by omega) (by have := hwlen.out; omega)
                injection e1 with e1 _ e1'
                injection e2 with e2 _ e2'
                subst e1 e1' e2 e2'
                have HF : Hid (∀ wz, Below wd.heap.size wd wz → Calls Tryd.prog 8 #[.agg #[.int .i64 (a : Int), .int .i64 (b : Int), .slice A4 rs.length c4, .slice B4 ws.length d4]] wz fun e w' => e = .returned (.bool (formedT ⟨a, b, rs, ws⟩)) ∧ Below wz.heap.size wz w') := fun wz hz =>
                  txFormed_any ⟨a, b, rs, ws⟩ A4 B4 c4 d4 wz (hTx.later hz) ((HTP.out wd hK.out.out).later hz).tabs
                have HT2 := Lib.hid hTx2
                clear hcc hwk hwg hTx hTx2 HX2 hws hwlen
                cases sk2 with
                | none =>
                  have HN : Hid (takeTx s = (noTx, none)) := HX3.out
                  go_wp2_with (first
                    | (go_at_call 14; refine (rdrOK_any hR.out).mono ?_; rintro e w22 ⟨rfl, rfl⟩)
                    | (go_at_call 40; (with_reducible refine (rdrBad_any hR.out).mono ?_); rintro e w23 ⟨rfl, hR23, ho23⟩; have hK23 := hK.out.call ho23; obtain ⟨x0, x1, x2, x3⟩ := mkc4 hK23.zq; have f0 := frozen_of_row w23 w.heap.size 0 _ _ hK23.zq; have f1 := frozen_of_row w23 w.heap.size 1 _ _ hK23.zq; have f2 := frozen_of_row w23 w.heap.size 2 _ _ hK23.zq; have f3 := frozen_of_row w23 w.heap.size 3 _ _ hK23.zq))
                  obtain ⟨q0, q1, q2, q3⟩ := mkc4 (mks4 hK23.zq (.int .i64 0) (.int .i64 0) (.slice none 0 0) (.slice none 0 0))
                  exact bodyPost_ret (v := txV noTx none none 0 0) (by simp [results, Tryd.results12, go_sem, q0, q1, q2, q3]; try rfl) rfl (by rw [HN.out]; exact tx_end (R := fun w' => RdrAt w' p none) (fun w2 ho => hR23.out ho (fun j hj e => by omega)) (fun w2 _ => noTx_at w2) hK23.out (Nat.le_refl _))
                | some r =>
                  cases hf : formedT ⟨a, b, rs, ws⟩
                  · have HN : Hid (takeTx s = (noTx, none)) := by show _ = _; rw [HX3.out]; exact txEnd_bad hf
                    rw [hf] at HF
                    clear hf
                    go_wp2_with (first
                      | (go_at_call 14; refine (rdrOK_any hR.out).mono ?_; rintro e w22 ⟨rfl, rfl⟩)
                      | (go_at_call 8; refine (HF.out _ (Below.refl _ _)).mono ?_; rintro e w24 ⟨rfl, hb24⟩; have hR24 := hR.out.later hb24; have hK24 := hK.out.later hb24)
                      | (go_at_call 40; (with_reducible refine (rdrBad_any hR24).mono ?_); rintro e w25 ⟨rfl, hR25, ho25⟩; have hK25 := hK24.call ho25; obtain ⟨x0, x1, x2, x3⟩ := mkc4 hK25.zq; have f0 := frozen_of_row w25 w.heap.size 0 _ _ hK25.zq; have f1 := frozen_of_row w25 w.heap.size 1 _ _ hK25.zq; have f2 := frozen_of_row w25 w.heap.size 2 _ _ hK25.zq; have f3 := frozen_of_row w25 w.heap.size 3 _ _ hK25.zq))
                    obtain ⟨q0, q1, q2, q3⟩ := mkc4 (mks4 hK25.zq (.int .i64 0) (.int .i64 0) (.slice none 0 0) (.slice none 0 0))
                    exact bodyPost_ret (v := txV noTx none none 0 0) (by simp [results, Tryd.results12, go_sem, q0, q1, q2, q3]; try rfl) rfl (by rw [HN.out]; exact tx_end (R := fun w' => RdrAt w' p none) (fun w2 ho => hR25.out ho (fun j hj e => by omega)) (fun w2 _ => noTx_at w2) hK25.out (Nat.le_refl _))
                  · have HN : Hid (takeTx s = (⟨a, b, rs, ws⟩, some r)) := by show _ = _; rw [HX3.out, txEnd, hf]; rfl
                    rw [hf] at HF
                    clear hf
                    go_wp2_with (first
                      | (go_at_call 14; refine (rdrOK_any hR.out).mono ?_; rintro e w22 ⟨rfl, rfl⟩)
                      | (go_at_call 8; refine (HF.out _ (Below.refl _ _)).mono ?_; rintro e w24 ⟨rfl, hb24⟩; have hR24 := hR.out.later hb24; have hK24 := hK.out.later hb24; replace c0 := keep hb24 c0; replace c1 := keep hb24 c1; replace c2 := keep hb24 c2; replace c3 := keep hb24 c3; obtain ⟨x0, x1, x2, x3⟩ := mkc4 hK24.zq; have f0 := frozen_of_row w24 w.heap.size 0 _ _ hK24.zq; have f1 := frozen_of_row w24 w.heap.size 1 _ _ hK24.zq; have f2 := frozen_of_row w24 w.heap.size 2 _ _ hK24.zq; have f3 := frozen_of_row w24 w.heap.size 3 _ _ hK24.zq))
                    obtain ⟨q0, q1, q2, q3⟩ := mkc4 (mks4 hK24.zq (.int .i64 (a : Int)) (.int .i64 (b : Int)) (.slice A4 rs.length c4) (.slice B4 ws.length d4))
                    exact bodyPost_ret (v := txV ⟨a, b, rs, ws⟩ A4 B4 c4 d4) (by simp [results, Tryd.results12, go_sem, q0, q1, q2, q3, txV]; try rfl) rfl (by rw [HN.out]; exact tx_end (R := fun w' => RdrAt w' p (some r)) (fun w2 ho => hR24.out ho (fun j hj e => by omega)) (fun w2 ho => (HT2.out w2 ((Out.of_below hb24).trans' ho))) hK24.out (Nat.le_refl _))
              · have hcs : ws.length < m2 ∧ ws.length ≤ 6 := by have := hcc.out; simpa using this
                have hk1 : k2 + 1 ≤ m2 ∧ k2 + 1 ≤ 7 := by have := hwlen.out; omega
                obtain ⟨hk1, hk2⟩ := hk1
                obtain ⟨hcs1, hcs2⟩ := hcs
                obtain ⟨x, hx⟩ : ∃ x, Hid ((takeT sk2 12).1 = x) := ⟨_, rfl⟩
                obtain ⟨u1, hu1⟩ : ∃ u1, Hid ((takeT sk2 12).2 = u1) := ⟨_, rfl⟩
                obtain ⟨v, hv⟩ : ∃ v, Hid ((takeV u1).1 = v) := ⟨_, rfl⟩
                obtain ⟨u2, hu2⟩ : ∃ u2, Hid ((takeV u1).2 = u2) := ⟨_, rfl⟩
                have HN : Hid (takeWs s4 (k2 + 1) = (ws ++ [⟨x, v⟩], u2)) := takeWs_next hws.out hx.out hu1.out hv.out hu2.out
                have HTt : Hid (∀ wz, RdrAt wz p sk2 → Calls Tryd.prog 41 #[.pointer (some ⟨p, 0, none⟩), .int .i64 12] wz (TextPost wz p x u1)) := fun wz hw => by rw [← hx.out, ← hu1.out]; exact rdrText_any hw 12 12 rfl
                have HTv : Hid (∀ wz, RdrAt wz p u1 → TabsP wz p → Calls Tryd.prog 42 #[.pointer (some ⟨p, 0, none⟩)] wz fun e w' => e = .returned (.agg #[.int .i64 v.kind, .int .u64 (v.bits : Int), .string v.text]) ∧ RdrAt w' p u2 ∧ Out (fun j => j = p) wz w') := fun wz hw hw2 => by
                  have := rdrVal_any hw hw2
                  rw [hv.out, hu2.out] at this
                  exact this
                obtain ⟨z, bt, tx⟩ := v
                dsimp only at HTv
                clear hx hu1 hv hu2 hcc hws HX2 hwlen
                go_wp2
                go_region_law (first
                  | (refine ready_append_own_at rfl _ _ 25 rfl (w1.heap.size + 1) 64 j0 _ 4 48 Tryd.underlying25 hj hy0 hy1 hy2 rfl (by decide) (.slice B4 ws.length d4) ws.length (wrCells ws) rfl (own_keep hK12.rw_ (below1 _ _)) ⟨w12.heap.size, 0, none⟩ 1 1 [.string x, .int .i64 z, .int .u64 (bt : Int), .string tx] rfl rfl (World.news_of_block (heap_alloc_new w12 _)) one_cell_wr8 (le_maxLen (by omega)) (by omega) (Nat.le_trans hK12.glt (below1 _ _).size) ?_; intro v15 w15 HO15 hg15 hv15; obtain ⟨A15, c15, rfl⟩ := own_form HO15; have hKa := hK12.later (below1 w12 (.cells #[.string x, .int .i64 z, .int .u64 (bt : Int), .string tx] 64)); have hK15 := Lib.hid (hKa.pushW (x := ⟨x, ⟨z, bt, tx⟩⟩) HO15 hg15 hv15); have hc15 := (hKa.cellW hg15).1; have hf15 := (hKa.cellW hg15).2; have hR15 := Lib.hid ((hR12.later (below1 w12 (.cells #[.string x, .int .i64 z, .int .u64 (bt : Int), .string tx] 64))).out (hKa.outW hg15 (.slice A15 (ws.length + 1) c15)) (fun j hj e => by { have := hKa.pq; have := hKa.qg; omega })); clear HO15 hg15 hv15 hKa)
                  | (go_simp; go_at_call 41; refine (HTt.out _ (hR.out.later (below_drew (Below.refl _ _)))).mono ?_; rintro e w11 ⟨rfl, hR11, ho11⟩; have hK11 := (hK.out.later (below_drew (Below.refl _ _))).call ho11; have c3b := (mkc4 hK11.zg).2.2.2)
                  | (go_simp; go_at_call 42; refine (HTv.out _ hR11 (HTP.out _ hK11.out)).mono ?_; rintro e w12 ⟨rfl, hR12, ho12⟩; have hK12 := hK11.call ho12; have c3c := (mkc4 hK12.zg).2.2.2; have c3d := keep (below1 w12 (.cells #[.string x, .int .i64 z, .int .u64 (bt : Int), .string tx] 64)) c3c))
                all_goals
                  go_wp2
                  go_roundw
                  case rel => exact ⟨k2 + 1, .slice A15 (ws.length + 1) c15, hk1, hk2, by show RdrAt _ _ _; rw [HN.out]; exact hR15.out, by show TkAt _ _ _ _ _ _ _ _ _ _ _; rw [HN.out]; exact hK15.out⟩
                  case measure =>
                    have e1 := hK15.out.lenW
                    have e2 := hK.out.lenW
                    rw [List.length_append, List.length_singleton] at e1
                    rw [e1, e2]
                    omega
      · have hcs : rs.length < n ∧ rs.length ≤ 6 := by have := hcc.out; simpa using this
        have hk1 : k + 1 ≤ n ∧ k + 1 ≤ 7 := by have := hlen.out; omega
        obtain ⟨hk1, hk2⟩ := hk1
        obtain ⟨hcs1, hcs2⟩ := hcs
        obtain ⟨x, hx⟩ : ∃ x, Hid ((takeT sk 12).1 = x) := ⟨_, rfl⟩
        obtain ⟨u1, hu1⟩ : ∃ u1, Hid ((takeT sk 12).2 = u1) := ⟨_, rfl⟩
        obtain ⟨m, hm⟩ : ∃ m, Hid ((takeN u1 8).1 = m) := ⟨_, rfl⟩
        obtain ⟨u2, hu2⟩ : ∃ u2, Hid ((takeN u1 8).2 = u2) := ⟨_, rfl⟩
        have HN : Hid (takeRs s2 (k + 1) = (rs ++ [⟨x, m⟩], u2)) := takeRs_next hrs.out hx.out hu1.out hm.out hu2.out
        have HTt : Hid (∀ wz, RdrAt wz p sk → Calls Tryd.prog 41 #[.pointer (some ⟨p, 0, none⟩), .int .i64 12] wz (TextPost wz p x u1)) := fun wz hw => by rw [← hx.out, ← hu1.out]; exact rdrText_any hw 12 12 rfl
        have HTn : Hid (∀ wz, RdrAt wz p u1 → Calls Tryd.prog 40 #[.pointer (some ⟨p, 0, none⟩), .int .i64 8] wz (TakePost wz p m u2)) := fun wz hw => by rw [← hm.out, ← hu2.out]; exact rdrTake_any hw 8 8 rfl (by decide)
        clear hx hu1 hm hu2 hcc hrs HX c3 hlen
        go_wp2
        go_region_law (first
          | (refine ready_append_own_at rfl _ _ 24 rfl (w1.heap.size + 1) 60 i0 _ 2 24 Tryd.underlying24 hi hz0 hz1 hz2 rfl (by decide) (.slice A4 rs.length c4) rs.length (rdCells rs) rfl (own_keep hK12.rr (below1 _ _)) ⟨w12.heap.size, 0, none⟩ 1 1 [.string x, .int .u64 (m : Int)] rfl rfl (World.news_of_block (heap_alloc_new w12 _)) one_cell_rd8 (le_maxLen (by omega)) (by omega) (Nat.le_trans hK12.glt (below1 _ _).size) ?_; intro v15 w15 HO15 hg15 hv15; obtain ⟨A15, c15, rfl⟩ := own_form HO15; have hKa := hK12.later (below1 w12 (.cells #[.string x, .int .u64 (m : Int)] 60)); have hK15 := Lib.hid (hKa.pushR (x := ⟨x, m⟩) HO15 hg15 hv15); have hc15 := (hKa.cellR hg15).1; have hf15 := (hKa.cellR hg15).2; have hR15 := Lib.hid ((hR12.later (below1 w12 (.cells #[.string x, .int .u64 (m : Int)] 60))).out (hKa.outR hg15 (.slice A15 (rs.length + 1) c15)) (fun j hj e => by { have := hKa.pq; have := hKa.qg; omega })); clear HO15 hg15 hv15 hKa)
          | (go_simp; go_at_call 41; refine (HTt.out _ (hR.out.later (below_drew (Below.refl _ _)))).mono ?_; rintro e w11 ⟨rfl, hR11, ho11⟩; have hK11 := (hK.out.later (below_drew (Below.refl _ _))).call ho11; have c2b := (mkc4 hK11.zg).2.2.1)
          | (go_simp; go_at_call 40; refine (HTn.out _ hR11).mono ?_; rintro e w12 ⟨rfl, hR12, ho12⟩; have hK12 := hK11.call ho12; have c2c := (mkc4 hK12.zg).2.2.1; have c2d := keep (below1 w12 (.cells #[.string x, .int .u64 (m : Int)] 60)) c2c))
        all_goals
          go_wp2
          go_roundw
          case rel => exact ⟨k + 1, .slice A15 (rs.length + 1) c15, hk1, hk2, by show RdrAt _ _ _; rw [HN.out]; exact hR15.out, by show TkAt _ _ _ _ _ _ _ _ _ _ _; rw [HN.out]; exact hK15.out⟩
          case measure =>
            have e1 := hK15.out.lenR
            have e2 := hK.out.lenR
            rw [List.length_append, List.length_singleton] at e1
            rw [e1, e2]
            omega
end Go.Proofs.YtfblemdpimbciaaDoor
