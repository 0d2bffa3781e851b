/- txn.Put. -/
import Derived.Test.YtfblemdpimbciaaDoorTakeM08
import Derived.Test.YtfblemdpimbciaaDoorPutZ
import Derived.Deep.RegionHeld3
namespace Go.Proofs.YtfblemdpimbciaaDoor
open Go.RowKit Go.Shelf Go.Sort

theorem own_base8 {w : World} {base b n size : Nat} {e : TypeId} {v : Value} {xs : List Value} (h : w.ownsRow base e size v n xs) (hb : b ≤ base) : w.ownsRow b e size v n xs := by
  refine ⟨h.1, ?_⟩
  rcases h.2 with q2 | ⟨g, cap, cur, e, hg, r⟩
  · exact .inl q2
  · exact .inr ⟨g, cap, cur, e, Nat.le_trans hb hg, r⟩
theorem rTo_len {t : Tx} (h : formedT t = true) (m : List UInt8) (k : Nat) : (rTo m t k).length ≤ m.length + 132 := by
  obtain ⟨_, h6, _, h12, _⟩ := formedT_parts h
  have := flat_len encR 22 (t.rds.take k) (fun x hx => by
    have := h12 x (List.mem_of_mem_take hx)
    have := txt_len x.key
    simp only [encR, List.length_append, beL_length]; omega)
  rw [List.length_take] at this
  rw [rTo, List.length_append]
  omega
theorem wTo_len {t : Tx} (h : formedT t = true) (m : List UInt8) (k : Nat) : (wTo m t k).length ≤ m.length + 384 := by
  obtain ⟨_, _, h6, _, h12⟩ := formedT_parts h
  have := flat_len encW 64 (t.wrs.take k) (fun x hx => by
    have := (h12 x (List.mem_of_mem_take hx)).1
    have := txt_len x.key
    have := putV_len x.val
    simp only [encW, List.length_append, beL_length]; omega)
  rw [List.length_take] at this
  rw [wTo, List.length_append]
  omega
theorem rTo_all (m : List UInt8) (t : Tx) : rTo m t t.rds.length = m ++ t.rds.flatMap encR := by rw [rTo, List.take_length]
theorem wTo_all (m : List UInt8) (t : Tx) : wTo m t t.wrs.length = m ++ t.wrs.flatMap encW := by rw [wTo, List.take_length]
theorem formed_keyW {t : Tx} (h : formedT t = true) : ∀ k, k < t.wrs.length → (t.wrs.getD k noWr).key.size ≤ 12 := fun k hk => by
  have := (formedT_parts h).2.2.2.2 t.wrs[k] (List.getElem_mem hk)
  rw [List.getD_eq_getElem?_getD, List.getElem?_eq_getElem hk]
  exact this.1
set_option maxRecDepth 100000 in
set_option maxHeartbeats 8000000 in
theorem put08_any (l : List UInt8) (t : Tx) (A B : Option Addr) (ca cb : Nat) (K : Option Addr) (ck : Nat) (w : World) (hK : BysAt w K l) (hn : l.length ≤ 600000) (h : TxAt w t A B) (hT : Tabs w) :
    Calls Tryd.prog 9 #[.slice K l.length ck, txV t A B ca cb] w (OwnBys w (l ++ putT t)) := by
  have hFm := fun wz (hz : Below w.heap.size w wz) => txFormed_any t A B ca cb wz (h.later hz) (hT.later hz)
  unfold txV at hFm ⊢
  obtain ⟨W, eW, HB, c0, c1, c2, c3⟩ := box4 w (.int .i64 t.ses) (.int .i64 t.seq) (.slice A t.rds.length ca) (.slice B t.wrs.length cb) 27
  cases hf : formedT t
  · have HE : Hid (l = l ++ putT t) := by show _ = _; simp [putT, hf]
    rw [hf] at hFm
    replace hFm := Lib.hid hFm
    have hK := BysAt.later hK HB
    clear hf h hT
    go_enter Tryd.func9, Tryd.ntmps9
    go_wp2_with (first
      | (go_at_call 8; refine (hFm.out _ HB).mono ?_; rintro e w1 ⟨rfl, hb⟩; have hK1 := BysAt.later hK hb; have HB1 := keepB HB hb)
      | (go_at_call 36; refine (clone02_any l K ck _ hK1 (by omega)).mono ?_; rintro e w2 hq; have hq := Lib.hid (hq.low HB1 HE.out); obtain ⟨v2, rfl, ho, hb⟩ := hq.out))
    go_ret
    exact ⟨_, rfl, ho, hb⟩
  · rw [hf] at hFm
    obtain ⟨hid, h6, h6', h12, h12'⟩ := formedT_parts hf
    obtain ⟨m1, hm1⟩ : ∃ m, Hid (l ++ putI t.ses t.seq = m) := ⟨_, rfl⟩
    obtain ⟨m2, hm2⟩ : ∃ m, Hid (m1 ++ beL t.rds.length 1 = m) := ⟨_, rfl⟩
    obtain ⟨m3, hm3⟩ : ∃ m, Hid (rTo m2 t t.rds.length = m) := ⟨_, rfl⟩
    obtain ⟨m4, hm4⟩ : ∃ m, Hid (m3 ++ beL t.wrs.length 1 = m) := ⟨_, rfl⟩
    have hl1 : m1.length ≤ 600005 := by
      rw [← hm1.out, List.length_append]
      have : (putI t.ses t.seq).length ≤ 5 := by unfold putI encId; split <;> simp [beL_length]
      omega
    have hl2 : m2.length ≤ 600006 := by rw [← hm2.out, List.length_append, beL_length]; omega
    have hl3 : m3.length ≤ 600138 := by rw [← hm3.out]; have := rTo_len hf m2 t.rds.length; omega
    have hl4 : m4.length ≤ 600139 := by rw [← hm4.out, List.length_append, beL_length]; omega
    have HE : Hid (wTo m4 t t.wrs.length = l ++ putT t) := by
      show _ = _
      rw [wTo_all, ← hm4.out, ← hm3.out, rTo_all, ← hm2.out, ← hm1.out, putT, if_pos hf, encT, encHead]
      simp only [List.append_assoc]
    have hrl : ∀ k, (rTo m2 t k).length ≤ 600138 := fun k => by have := rTo_len hf m2 k; omega
    have hwl : ∀ k, (wTo m4 t k).length ≤ 600523 := fun k => by have := wTo_len hf m4 k; omega
    have hkr := formed_keyR hf
    have hkw := formed_keyW hf
    have HP1 : Hid (∀ wz, Below w.heap.size w wz → Calls Tryd.prog 19 #[.slice K l.length ck, .agg #[.int .i64 t.ses, .int .i64 t.seq]] wz (OwnBys wz m1)) := fun wz hz => by rw [← hm1.out]; exact putId_any l t.ses t.seq K ck wz (BysAt.later hK hz) (by omega)
    have HP2 : Hid (∀ wz A ca, BysAt wz A m1 → Calls Tryd.prog 37 #[.slice A m1.length ca, .int .u64 (t.rds.length : Int), .int .i64 1] wz (OwnBys wz m2)) := fun wz A ca hA => by rw [← hm2.out]; exact put02z m1 t.rds.length 1 _ 1 rfl rfl A ca wz hA (by omega) (by decide)
    have HP4 : Hid (∀ wz A ca, BysAt wz A m3 → Calls Tryd.prog 37 #[.slice A m3.length ca, .int .u64 (t.wrs.length : Int), .int .i64 1] wz (OwnBys wz m4)) := fun wz A ca hA => by rw [← hm4.out]; exact put02z m3 t.wrs.length 1 _ 1 rfl rfl A ca wz hA (by omega) (by decide)
    have hw1 : IntKind.u64.wrap (t.rds.length : Int) = (t.rds.length : Int) := IntWalk.u64_in _ (by omega)
    have hw2 : IntKind.u64.wrap (t.wrs.length : Int) = (t.wrs.length : Int) := IntWalk.u64_in _ (by omega)
    have HM2 : Hid (rTo m2 t 0 = m2) := by show _ = _; simp [rTo]
    have HM4 : Hid (wTo m4 t 0 = m4) := by show _ = _; simp [wTo]
    have HX := Lib.hid h
    have HT := Lib.hid hT
    replace hFm := Lib.hid hFm
    replace hkr := Lib.hid hkr
    replace hkw := Lib.hid hkw
    replace hrl := Lib.hid hrl
    replace hwl := Lib.hid hwl
    clear hf h hT hK hm1 hm2 hm4 hid h12 h12'
    go_enter Tryd.func9, Tryd.ntmps9
    go_wp2_with (go_at_call 8; refine (hFm.out _ HB).mono ?_; rintro e w1 ⟨rfl, hb⟩; replace c0 := keep hb c0; replace c1 := keep hb c1; replace c2 := keep hb c2; replace c3 := keep hb c3; have HB1 := keepB HB hb; clear hb)
    clear eW
    obtain ⟨wb, rfl⟩ : ∃ wb : World, wb = w1 := ⟨_, rfl⟩
    go_region_held3 (fun w' => w'.cell? ⟨w.heap.size, 0, none⟩ = some (.int .i64 t.ses) ∧ w'.cell? ⟨w.heap.size, 1, none⟩ = some (.int .i64 t.seq) ∧ w'.cell? ⟨w.heap.size, 2, none⟩ = some (.slice A t.rds.length ca) ∧ Below wb.heap.size wb w')
      (first | exact ⟨keep (below_drew (Below.refl _ _)) c0, keep (below_drew (Below.refl _ _)) c1, keep (below_drew (Below.refl _ _)) c2, below_drew (Below.refl _ _)⟩ | exact ⟨keep hb2 c0, keep hb2 c1, keep hb2 c2, hb2⟩ | exact ⟨keep hb3 c0, keep hb3 c1, keep hb3 c2, hb3⟩)
      (first
        | (go_at_call 19; (with_reducible refine (HP1.out _ (keepB HB1 (below_drew (Below.refl _ _)))).mono ?_); rintro e w2 hq; obtain ⟨A1, c1', rfl, hB1, hb⟩ := hq.at_; have hb2 : Below wb.heap.size wb w2 := keepB (below_drew (Below.refl _ _)) hb)
        | (go_at_call 37; refine (HP2.out _ A1 c1' hB1).mono ?_; rintro e w3 ⟨v3, rfl, ho3, hb3'⟩; have hb3 : Below wb.heap.size wb w3 := keepB hb2 hb3'; replace ho3 := Lib.hid (own_base8 ho3 (Nat.le_trans HB1.size hb2.size))))
    all_goals
      replace c2 := keep hb3 c2
      replace c3 := keep hb3 c3
      have HB3 := keepB HB1 hb3
      go_wp2
      go_loopw [0, 26] (fun v i wr => ∃ k : Nat, k ≤ t.rds.length ∧ i = .int .i64 k ∧ Hid (wr.ownsRow w.heap.size 5 1 v (rTo m2 t k).length (byC (rTo m2 t k))) ∧ Below w3.heap.size w3 wr) (fun _ i _ => t.rds.length - (intOf i).toNat)
      case atStart => exact ⟨0, Nat.zero_le _, rfl, by rw [HM2.out]; exact ho3, Below.refl _ _⟩
      case round =>
        obtain ⟨k, hk, rfl, HO, hwr⟩ := hrel
        obtain ⟨wc, rfl⟩ : ∃ wc : World, wc = wr := ⟨_, rfl⟩
        by_cases hlt : k < t.rds.length
        · obtain ⟨b, off, s, n, rfl, y0, y1, HV⟩ := (HX.out.rds.later (keepB HB3 hwr)).at' hlt
          have hki : (k : Int) < (t.rds.length : Int) := by omega
          have hS := Lib.hid (rTo_succ (m := m2) hlt HV.out)
          have hs12 : s.size ≤ 12 := by have := hkr.out k hlt; rw [HV.out] at this; exact this
          have hkl := hrl.out k
          obtain ⟨m9, hm9⟩ : ∃ m9, Hid (rTo m2 t k = m9) := ⟨_, rfl⟩
          rw [hm9.out] at HO hS hkl
          obtain ⟨A9, c9, hform, _, hB9⟩ := own_bys HO.out
          subst hform
          obtain ⟨wv, eWv, HBv, x0, x1⟩ := box2 wc (.string s) (.int .u64 (n : Int)) 60
          obtain ⟨m10, hm10⟩ : ∃ m10, Hid (m9 ++ beL s.size 2 ++ s.data.toList = m10) := ⟨_, rfl⟩
          rw [hm10.out] at hS
          have hl10 : m10.length ≤ 600200 := by
            have := txt_len s
            rw [← hm10.out, List.length_append, List.length_append, beL_length]; omega
          have HT9 : Hid (Calls Tryd.prog 38 #[.slice A9 m9.length c9, .string s] wv.drew (OwnBys wv.drew m10)) := by
            rw [← hm10.out]
            exact putText02_any m9 s A9 c9 wv.drew (BysAt.later hB9 (keepB HBv (below_drew (Below.refl _ _)))) (by omega) (by omega)
          have HT10 : Hid (∀ wz A ca, BysAt wz A m10 → Calls Tryd.prog 37 #[.slice A m10.length ca, .int .u64 (n : Int), .int .i64 8] wz (OwnBys wz (rTo m2 t (k + 1)))) := fun wz A ca hA => by
            rw [hS.out]
            exact put02z m10 n 8 _ 8 rfl rfl A ca wz hA (by omega) (by decide)
          clear hm9 hm10
          go_wp2
          clear eWv
          go_region_held3 (fun w' => w'.cell? ⟨wc.heap.size, 0, none⟩ = some (.string s) ∧ w'.cell? ⟨wc.heap.size, 1, none⟩ = some (.int .u64 (n : Int)) ∧ Below wv.heap.size wv w')
            (first | exact ⟨keep (below_drew (Below.refl _ _)) x0, keep (below_drew (Below.refl _ _)) x1, below_drew (Below.refl _ _)⟩ | exact ⟨keep hb11 x0, keep hb11 x1, hb11⟩ | exact ⟨keep hb12 x0, keep hb12 x1, hb12⟩)
            (first
              | (go_at_call 38; (with_reducible refine HT9.out.mono ?_); rintro e w11 hq; obtain ⟨A11, c11, rfl, hB11, hb⟩ := hq.at_; have hb11 : Below wv.heap.size wv w11 := keepB (below_drew (Below.refl _ _)) hb)
              | (go_at_call 37; refine (HT10.out _ A11 c11 hB11).mono ?_; rintro e w12 ⟨v12, rfl, ho12, hb12'⟩; have hb12 : Below wv.heap.size wv w12 := keepB hb11 hb12'; replace ho12 := Lib.hid (own_base8 ho12 (Nat.le_trans HB3.size (Nat.le_trans hwr.size (Nat.le_trans HBv.size hb11.size))))))
          all_goals
            go_wp2
            go_roundw
            case rel => exact ⟨k + 1, by omega, by go_num, ho12, keepB hwr (keepB HBv hb12)⟩
            case measure => simp [intOf]; omega
        · obtain rfl : k = t.rds.length := by omega
          rw [hm3.out] at HO
          obtain ⟨A5, c5, hform, _, hB5⟩ := own_bys HO.out
          subst hform
          replace c3 := keep hwr c3
          clear hlt
          go_wp2_with (go_at_call 37; refine (HP4.out _ A5 c5 hB5).mono ?_; rintro e w5 ⟨v5, rfl, ho5, hb5⟩; replace ho5 := Lib.hid (own_base8 ho5 (Nat.le_trans HB3.size hwr.size)); have hw5 := keepB hwr hb5; replace c3 := keep hb5 c3)
          have HB5 := keepB HB3 hw5
          clear hwr hb5 HO ho3
          go_loopw [0, 47] (fun v i wr => ∃ k : Nat, k ≤ t.wrs.length ∧ i = .int .i64 k ∧ Hid (wr.ownsRow w.heap.size 5 1 v (wTo m4 t k).length (byC (wTo m4 t k))) ∧ Below w5.heap.size w5 wr) (fun _ i _ => t.wrs.length - (intOf i).toNat)
          case atStart => exact ⟨0, Nat.zero_le _, rfl, by rw [HM4.out]; exact ho5, Below.refl _ _⟩
          case round =>
            obtain ⟨k, hk, rfl, HO, hwr⟩ := hrel
            obtain ⟨wc, rfl⟩ : ∃ wc : World, wc = wr := ⟨_, rfl⟩
            by_cases hlt : k < t.wrs.length
            · obtain ⟨b, off, s, z, n, x, rfl, y0, y1, y2, y3, HV⟩ := (HX.out.wrs.later (keepB HB5 hwr)).at' hlt
              have hki : (k : Int) < (t.wrs.length : Int) := by omega
              have hS := Lib.hid (wTo_succ (m := m4) hlt HV.out)
              have hs12 : s.size ≤ 12 := by have := hkw.out k hlt; rw [HV.out] at this; exact this
              have hgt : x.size ≤ 9223372036854775807 := by have := (HX.out.wv k hlt).t; rw [HV.out] at this; exact this
              have hkl := hwl.out k
              obtain ⟨m9, hm9⟩ : ∃ m9, Hid (wTo m4 t k = m9) := ⟨_, rfl⟩
              rw [hm9.out] at HO hS hkl
              obtain ⟨A9, c9, hform, _, hB9⟩ := own_bys HO.out
              subst hform
              obtain ⟨wv, eWv, HBv, x0, x1, x2, x3⟩ := box4 wc (.string s) (.int .i64 z) (.int .u64 (n : Int)) (.string x) 64
              obtain ⟨m10, hm10⟩ : ∃ m10, Hid (m9 ++ beL s.size 2 ++ s.data.toList = m10) := ⟨_, rfl⟩
              rw [hm10.out] at hS
              have hl10 : m10.length ≤ 600600 := by
                have := txt_len s
                rw [← hm10.out, List.length_append, List.length_append, beL_length]; omega
              have HT9 : Hid (Calls Tryd.prog 38 #[.slice A9 m9.length c9, .string s] wv.drew (OwnBys wv.drew m10)) := by
                rw [← hm10.out]
                exact putText02_any m9 s A9 c9 wv.drew (BysAt.later hB9 (keepB HBv (below_drew (Below.refl _ _)))) (by omega) (by omega)
              have HT10 : Hid (∀ wz A ca, BysAt wz A m10 → Below wv.heap.size wv wz → Calls Tryd.prog 39 #[.slice A m10.length ca, .agg #[.int .i64 z, .int .u64 (n : Int), .string x]] wz (OwnBys wz (wTo m4 t (k + 1)))) := fun wz A ca hA hz => by
                rw [hS.out]
                exact put04t m10 z n x hgt A ca wz hA (HT.out.later (keepB HB5 (keepB hwr (keepB HBv hz)))) (by omega)
              clear hm9 hm10
              go_wp2
              clear eWv
              go_region_held3 (fun w' => w'.cell? ⟨wc.heap.size, 0, none⟩ = some (.string s) ∧ w'.cell? ⟨wc.heap.size, 1, none⟩ = some (.int .i64 z) ∧ w'.cell? ⟨wc.heap.size, 2, none⟩ = some (.int .u64 (n : Int)) ∧ w'.cell? ⟨wc.heap.size, 3, none⟩ = some (.string x) ∧ Below wv.heap.size wv w')
                (first | exact ⟨keep (below_drew (Below.refl _ _)) x0, keep (below_drew (Below.refl _ _)) x1, keep (below_drew (Below.refl _ _)) x2, keep (below_drew (Below.refl _ _)) x3, below_drew (Below.refl _ _)⟩ | exact ⟨keep hb11 x0, keep hb11 x1, keep hb11 x2, keep hb11 x3, hb11⟩ | exact ⟨keep hb12 x0, keep hb12 x1, keep hb12 x2, keep hb12 x3, hb12⟩)
                (first
                  | (go_at_call 38; (with_reducible refine HT9.out.mono ?_); rintro e w11 hq; obtain ⟨A11, c11, rfl, hB11, hb⟩ := hq.at_; have hb11 : Below wv.heap.size wv w11 := keepB (below_drew (Below.refl _ _)) hb)
                  | (go_at_call 39; refine (HT10.out _ A11 c11 hB11 hb11).mono ?_; rintro e w12 ⟨v12, rfl, ho12, hb12'⟩; have hb12 : Below wv.heap.size wv w12 := keepB hb11 hb12'; replace ho12 := Lib.hid (own_base8 ho12 (Nat.le_trans HB5.size (Nat.le_trans hwr.size (Nat.le_trans HBv.size hb11.size))))))
              all_goals
                go_wp2
                go_roundw
                case rel => exact ⟨k + 1, by omega, by go_num, ho12, keepB hwr (keepB HBv hb12)⟩
                case measure => simp [intOf]; omega
            · obtain rfl : k = t.wrs.length := by omega
              rw [HE.out] at HO
              have HBe := keepB HB5 hwr
              clear hlt
              go_wp2
              go_ret
              exact ⟨_, rfl, HO.out, HBe⟩
end Go.Proofs.YtfblemdpimbciaaDoor
