/- TxnBack's walk. -/
import Derived.Test.YtfblemdpimbciaaDoorTake08
import Derived.Test.YtfblemdpimbciaaDoorPut08
import Derived.Test.YtfblemdpimbciaaDoorRdrE02
import Derived.Test.YtfblemdpimbciaaDoorSameSelf
import Derived.Test.YtfblemdpimbciaaDoorFew08
import Derived.Deep.RegionHeld3
namespace Go.Proofs.YtfblemdpimbciaaDoor
open Go.RowKit Go.Shelf Go.Sort

theorem txGood_of {w : World} {t : Tx} {A B : Option Addr} (h : TxAt w t A B) (hv : ∀ i, i < t.rds.length → (t.rds.getD i noRd).ver < 18446744073709551616) : TxGood t := by
  refine ⟨fun x hx => ?_, fun x hx => ?_⟩
  · obtain ⟨k, hk, rfl⟩ := List.mem_iff_getElem.1 hx
    have := hv k hk
    rwa [List.getD_eq_getElem?_getD, List.getElem?_eq_getElem hk] at this
  · obtain ⟨k, hk, rfl⟩ := List.mem_iff_getElem.1 hx
    have := (h.wv k hk).b
    rwa [List.getD_eq_getElem?_getD, List.getElem?_eq_getElem hk] at this
theorem encT_len {t : Tx} (h : formedT t = true) : 2 ≤ (encT t).length ∧ (encT t).length ≤ 600523 := by
  have h1 := rTo_len h [] t.rds.length
  have h2 := wTo_len h [] t.wrs.length
  rw [rTo_all, List.nil_append] at h1
  rw [wTo_all, List.nil_append] at h2
  have h3 : (putI t.ses t.seq).length ≤ 5 := by unfold putI encId; split <;> simp [beL_length]
  simp only [encT, encHead, List.length_append, beL_length, List.length_nil] at h1 h2 ⊢
  omega
theorem own_bysC {w : World} {l : List UInt8} {e : Ending} {w' : World} (h : OwnBys w l e w') : ∃ A c, e = .returned (.slice A l.length c) ∧ l.length ≤ c ∧ BysAt w' A l ∧ Below w.heap.size w w' := by
  obtain ⟨v, rfl, ho, hb⟩ := h
  obtain ⟨A, c, rfl, hc, hA⟩ := own_bys ho
  exact ⟨A, c, rfl, hc, hA, hb⟩
set_option maxRecDepth 100000 in
set_option maxHeartbeats 16000000 in
theorem law_tback (t : Tx) (A B : Option Addr) (ca cb : Nat) (cz : Int) (w : World) (h : TxAt w t A B) (hv : ∀ i, i < t.rds.length → (t.rds.getD i noRd).ver < 18446744073709551616) (hz0 : 0 ≤ cz) (hz1 : cz ≤ 65535) (hT : Tabs w) :
    Calls Tryd.prog 3 #[txV t A B ca cb, .int .u16 cz] w fun e w' => e = .returned (.bool true) ∧ Below w.heap.size w w' := by
  have hFw := fun wz (hz : Below w.heap.size w wz) => few08_any t A B ca cb wz (h.later hz)
  have hFm := fun wz (hz : Below w.heap.size w wz) => txFormed_any t A B ca cb wz (h.later hz) (hT.later hz)
  unfold txV at hFw hFm ⊢
  obtain ⟨W, eW, HB, c0, c1, c2, c3⟩ := box4 w (.int .i64 t.ses) (.int .i64 t.seq) (.slice A t.rds.length ca) (.slice B t.wrs.length cb) 27
  cases hfw : fewT t
  · rw [hfw] at hFw
    replace hFw := Lib.hid hFw
    clear hfw hFm h hT
    go_enter Tryd.func3, Tryd.ntmps3
    go_wp2_with (first
      | (go_at_call 6; refine (awake08_any _).mono ?_; rintro e w0 ⟨rfl, hb0⟩; (first | (replace hbb := keepB hbb hb0) | (have hbb := keepB HB hb0; replace c0 := keep hb0 c0; replace c1 := keep hb0 c1; replace c2 := keep hb0 c2; replace c3 := keep hb0 c3)); clear hb0)
      | (go_at_call 7; refine (hFw.out _ hbb).mono ?_; rintro e w1 ⟨rfl, hb1⟩; replace hbb := keepB hbb hb1; clear hb1))
    go_ret
    exact ⟨rfl, hbb⟩
  rw [hfw] at hFw
  replace hFw := Lib.hid hFw
  clear hfw
  cases hf : formedT t
  · rw [hf] at hFm
    replace hFm := Lib.hid hFm
    clear hf h hT
    go_enter Tryd.func3, Tryd.ntmps3
    go_wp2_with (first
      | (go_at_call 6; refine (awake08_any _).mono ?_; rintro e w0 ⟨rfl, hb0⟩; (first | (replace hbb := keepB hbb hb0) | (have hbb := keepB HB hb0; replace c0 := keep hb0 c0; replace c1 := keep hb0 c1; replace c2 := keep hb0 c2; replace c3 := keep hb0 c3)); clear hb0)
      | (go_at_call 7; refine (hFw.out _ hbb).mono ?_; rintro e w1 ⟨rfl, hb1⟩; replace hbb := keepB hbb hb1; replace c0 := keep hb1 c0; replace c1 := keep hb1 c1; replace c2 := keep hb1 c2; replace c3 := keep hb1 c3; clear hb1)
      | (go_at_call 8; refine (hFm.out _ hbb).mono ?_; rintro e w1 ⟨rfl, hb1⟩; replace hbb := keepB hbb hb1; clear hb1))
    go_ret
    exact ⟨rfl, hbb⟩
  rw [hf] at hFm
  replace hFm := Lib.hid hFm
  have hgd := txGood_of h hv
  have hlen := encT_len hf
  have hput : putT t = encT t := if_pos hf
  have htk := takeTx_put hf hgd []
  rw [List.append_nil] at htk
  have hcut := fun k hk => takeTx_cut hf hgd (k := k) hk
  obtain ⟨b, hb⟩ : ∃ b, Hid (encT t = b) := ⟨_, rfl⟩
  have HP : Hid (∀ wz, Below w.heap.size w wz → Calls Tryd.prog 9 #[.slice none 0 0, .agg #[.int .i64 t.ses, .int .i64 t.seq, .slice A t.rds.length ca, .slice B t.wrs.length cb]] wz fun e w' => ∃ A c, e = .returned (.slice A b.length c) ∧ b.length ≤ c ∧ BysAt w' A b ∧ Below wz.heap.size wz w') := fun wz hz => by
    refine (put08_any [] t A B ca cb none 0 wz (bys_nil wz) (by simp) (h.later hz) (hT.later hz)).mono ?_
    intro e w' hq
    rw [List.nil_append, hput, hb.out] at hq
    exact own_bysC hq
  rw [hb.out] at hlen htk hcut
  obtain ⟨j, hj⟩ : ∃ j : Nat, Hid (cz.toNat % b.length = j) := ⟨_, rfl⟩
  have hjl : j < b.length := by rw [← hj.out]; exact Nat.mod_lt _ (by omega)
  have hrem : Int.tmod cz (b.length : Int) = (j : Int) := by
    obtain ⟨m, rfl⟩ := Int.eq_ofNat_of_zero_le hz0
    rw [← hj.out]
    rfl
  have hwz : IntKind.i64.wrap cz = cz := IntWalk.i64_in _ (by omega)
  have hwj : IntKind.i64.wrap (j : Int) = j := IntWalk.i64_in _ (by omega)
  obtain ⟨b2, hb2⟩ : ∃ b2, Hid (b.take j = b2) := ⟨_, rfl⟩
  have hb2l : b2.length = j := by rw [← hb2.out, List.length_take]; omega
  have htq := hcut j hjl
  rw [hb2.out] at htq
  have HTk : Hid (∀ wz p, RdrAt wz p (some b) → TabsP wz p → Calls Tryd.prog 12 #[.pointer (some ⟨p, 0, none⟩)] wz fun e w' => ∃ A B ca cb, e = .returned (.agg #[.int .i64 t.ses, .int .i64 t.seq, .slice A t.rds.length ca, .slice B t.wrs.length cb]) ∧ TxAt w' t A B ∧ RdrAt w' p (some []) ∧ Out (fun k => k = p) wz w') := fun wz p q1 q2 => by
    refine (rdrTx_any q1 q2).mono ?_
    rintro e w' ⟨A, B, ca, cb, rfl, g1, g2, g3⟩
    rw [htk] at g1 g2
    rw [htk]
    exact ⟨A, B, ca, cb, rfl, g1, g2, g3⟩
  have HTq : Hid (∀ wz p, RdrAt wz p (some b2) → TabsP wz p → Calls Tryd.prog 12 #[.pointer (some ⟨p, 0, none⟩)] wz fun e w' => ∃ A B ca cb, e = .returned (.agg #[.int .i64 0, .int .i64 0, .slice A 0 ca, .slice B 0 cb]) ∧ TxAt w' noTx A B ∧ RdrAt w' p none ∧ Out (fun k => k = p) wz w') := fun wz p q1 q2 => by
    refine (rdrTx_any q1 q2).mono ?_
    rintro e w' ⟨A, B, ca, cb, rfl, g1, g2, g3⟩
    rw [htq] at g1 g2
    rw [htq]
    exact ⟨A, B, ca, cb, rfl, g1, g2, g3⟩
  have HSm : Hid (∀ wz A' B' ca' cb', TxAt wz t A' B' → Below w.heap.size w wz → Calls Tryd.prog 11 #[.agg #[.int .i64 t.ses, .int .i64 t.seq, .slice A' t.rds.length ca', .slice B' t.wrs.length cb'], .agg #[.int .i64 t.ses, .int .i64 t.seq, .slice A t.rds.length ca, .slice B t.wrs.length cb]] wz fun e w' => e = .returned (.bool true) ∧ Below wz.heap.size wz w') := fun wz A' B' ca' cb' q1 q2 => by
    have := refTxSame_any t t A' B' A B ca' cb' ca cb wz q1 (h.later q2)
    rw [sameT_self] at this
    exact this
  have HSn : Hid (∀ wz A' B' ca' cb', TxAt wz noTx A' B' → Calls Tryd.prog 11 #[.agg #[.int .i64 0, .int .i64 0, .slice A' 0 ca', .slice B' 0 cb'], .agg #[.int .i64 0, .int .i64 0, .slice none 0 0, .slice none 0 0]] wz fun e w' => e = .returned (.bool true) ∧ Below wz.heap.size wz w') := fun wz A' B' ca' cb' q1 => by
    have := refTxSame_any noTx noTx A' B' none none ca' cb' 0 0 wz q1 (noTx_at wz)
    rw [sameT_self] at this
    exact this
  have t0 : ((b.length : Int) == 0) = false := by rw [beq_eq_false_iff_ne]; omega
  have t0n : (b.length == 0) = false := by rw [beq_eq_false_iff_ne]; omega
  have t0z : ¬ ((b.length : Int) = 0) := by omega
  have HT := Lib.hid hT
  have HB2 := Lib.hid hb2l
  have hbl := hlen.2
  clear hf h hT hput htk hcut hb hlen htq hb2l hv hgd
  go_enter Tryd.func3, Tryd.ntmps3
  go_wp2_with (first
    | (go_at_call 6; refine (awake08_any _).mono ?_; rintro e w0 ⟨rfl, hb0⟩; have hbb := keepB HB hb0; replace c0 := keep hb0 c0; replace c1 := keep hb0 c1; replace c2 := keep hb0 c2; replace c3 := keep hb0 c3; clear hb0)
    | (go_at_call 7; refine (hFw.out _ hbb).mono ?_; rintro e w1 ⟨rfl, hb1⟩; replace hbb := keepB hbb hb1; replace c0 := keep hb1 c0; replace c1 := keep hb1 c1; replace c2 := keep hb1 c2; replace c3 := keep hb1 c3; clear hb1)
    | (go_at_call 8; refine (hFm.out _ hbb).mono ?_; rintro e w2 ⟨rfl, hb1⟩; replace hbb := keepB hbb hb1; replace c0 := keep hb1 c0; replace c1 := keep hb1 c1; replace c2 := keep hb1 c2; replace c3 := keep hb1 c3; clear hb1)
    | (go_at_call 9; refine (HP.out _ hbb).mono ?_; rintro e w3 ⟨A1, c1', rfl, hc1', hB1, hb1⟩; replace hbb := keepB hbb hb1; replace c0 := keep hb1 c0; replace c1 := keep hb1 c1; replace c2 := keep hb1 c2; replace c3 := keep hb1 c3; clear hb1)
    | (go_at_call 10; refine (rdrNew_any b A1 c1' _ hB1 hc1' (by omega)).mono ?_; rintro e w4 ⟨rfl, hR4, hb4⟩; have hwlt : w.heap.size < w3.heap.size := blk_lt c0; have hA1lt : ∀ a, A1 = some a → 0 < b.length → ¬ a.block = w3.heap.size := (fun a ha h0 e => by { have := hB1.lt a ha h0; omega }); have hbb4 := keepB hbb hb4; replace c0 := keep hb4 c0; replace c1 := keep hb4 c1; replace c2 := keep hb4 c2; replace c3 := keep hb4 c3; have hB4 := BysAt.later hB1 hb4))
  have hTP4 := Lib.hid ((HT.out.at_ hbb.size).later hbb4)
  have HEn : Hid (∀ wz p, RdrAt wz p (some []) → Calls Tryd.prog 13 #[.pointer (some ⟨p, 0, none⟩)] wz fun e w' => e = .returned (.bool true) ∧ wz = w') := fun wz p q => rdrEnd_any q
  have HN2 : Hid (∀ wz, BysAt wz A1 b → Calls Tryd.prog 10 #[.slice A1 j c1'] wz fun e w' => e = .returned (.pointer (some ⟨wz.heap.size, 0, none⟩)) ∧ RdrAt w' wz.heap.size (some b2) ∧ Below wz.heap.size wz w') := fun wz q => by
    have := rdrNew_any b2 A1 c1' wz (by rw [← hb2.out]; exact q.pre j) (by rw [HB2.out]; omega) (by rw [HB2.out]; omega)
    rw [HB2.out] at this
    exact this
  have hjz0 : (0 : Int) ≤ (j : Int) := by omega
  have hjzl : (j : Int) ≤ (b.length : Int) := by omega
  have hjc : j ≤ c1' := by omega
  have hjcz : (j : Int) ≤ (c1' : Int) := by omega
  have hsz := sub_zero A1 c1'
  replace hR4 := Lib.hid hR4
  clear hFw hFm HP hb4 hB1 hj
  go_region_held3 (fun w' => w'.cell? ⟨w.heap.size, 0, none⟩ = some (.int .i64 t.ses) ∧ w'.cell? ⟨w.heap.size, 1, none⟩ = some (.int .i64 t.seq) ∧ w'.cell? ⟨w.heap.size, 2, none⟩ = some (.slice A t.rds.length ca) ∧ w'.cell? ⟨w.heap.size, 3, none⟩ = some (.slice B t.wrs.length cb))
    (first | exact ⟨keep (below_drew (Below.refl _ _)) c0, keep (below_drew (Below.refl _ _)) c1, keep (below_drew (Below.refl _ _)) c2, keep (below_drew (Below.refl _ _)) c3⟩ | exact HS5 | exact HS6)
    (first
      | (go_at_call 12; refine (HTk.out _ _ (hR4.out.later (below_drew (Below.refl _ _))) (hTP4.out.later (below_drew (Below.refl _ _)))).mono ?_; rintro e w5 ⟨A5, B5, ca5, cb5, rfl, hX5, hR5, ho5⟩; have hbb5 := (keepB hbb4 (below_drew (Below.refl _ _))).trans (ho5.below (keepB hbb4 (below_drew (Below.refl _ _))).size (fun k e => by omega)); have HS5 := And.intro (ho5.cell (keep (below_drew (Below.refl _ _)) c0) (Nat.ne_of_lt hwlt)) (And.intro (ho5.cell (keep (below_drew (Below.refl _ _)) c1) (Nat.ne_of_lt hwlt)) (And.intro (ho5.cell (keep (below_drew (Below.refl _ _)) c2) (Nat.ne_of_lt hwlt)) (ho5.cell (keep (below_drew (Below.refl _ _)) c3) (Nat.ne_of_lt hwlt)))); have hB5 := (BysAt.later hB4 (below_drew (Below.refl _ _))).out ho5 hA1lt)
      | (go_at_call 11; refine (HSm.out _ A5 B5 ca5 cb5 hX5 hbb5).mono ?_; rintro e w6 ⟨rfl, hb6⟩; have HS6 := And.intro (keep hb6 HS5.1) (And.intro (keep hb6 HS5.2.1) (And.intro (keep hb6 HS5.2.2.1) (keep hb6 HS5.2.2.2))); have hR6 := hR5.later hb6; have hB6 := Lib.hid (BysAt.later hB5 hb6); have hbb6 := keepB hbb5 hb6)
      | (go_at_call 13; refine (HEn.out _ _ hR6).mono ?_; rintro e w7 ⟨rfl, rfl⟩))
  all_goals
    clear HTk HSm HEn hR4 hTP4 HS5 HS6 hX5 hR5 hR6 hB5 hbb5 ho5 hb6 hB4 c0 c1 c2 c3
    go_wp2_with (first
      | (go_at_call 10; refine (HN2.out _ hB6.out).mono ?_; rintro e w8 ⟨rfl, hR8, hb8⟩; have hbb8 := keepB hbb6 hb8; have hTP8 := (HT.out.at_ hbb6.size).later hbb8)
      | (go_at_call 12; refine (HTq.out _ _ hR8 hTP8).mono ?_; rintro e w9 ⟨A9, B9, ca9, cb9, rfl, hX9, hR9, ho9⟩; obtain ⟨w10, ew10, hb10, hs10, hrow10⟩ := mk4 w9 (.int .i64 0) (.int .i64 0) (.slice A9 0 ca9) (.slice B9 0 cb9) 27; have hR10 := hR9.later hb10; have hX10 := hX9.later hb10; have hbb10 := keepB (hbb8.trans (ho9.below hbb8.size (fun k e => by have := hbb6.size; omega))) hb10; obtain ⟨d0, d1, d2, d3⟩ := mkc4 hrow10)
      | (go_at_call 14; refine (rdrOK_any hR10).mono ?_; rintro e w11 ⟨rfl, rfl⟩)
      | (go_at_call 11; refine (HSn.out _ A9 B9 ca9 cb9 hX10).mono ?_; rintro e w12 ⟨rfl, hb12⟩))
    go_ret
    exact ⟨rfl, keepB hbb10 hb12⟩
end Go.Proofs.YtfblemdpimbciaaDoor
