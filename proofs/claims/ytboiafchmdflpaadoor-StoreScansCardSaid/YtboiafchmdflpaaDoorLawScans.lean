/- StoreScans' walk. -/
import Derived.Test.YtboiafchmdflpaaDoorScr14
import Derived.Deep.DeepCutAuto
namespace Go.Proofs.YtboiafchmdflpaaDoor
open Go.RowKit Go.Maps Go.Sort Go.Shelf

theorem filter_at {l : List It} {p : It → Bool} {k : Nat} {x : It} (hk : k < l.length) (hx : l.getD k noIt = x) (hp : p x = true) : ((l.take k).filter p).length < (l.filter p).length ∧ (l.filter p).getD ((l.take k).filter p).length noIt = x := by
  have e : l = l.take k ++ x :: l.drop (k + 1) := by
    have : x = l[k] := by rw [← hx, List.getD_eq_getElem?_getD, List.getElem?_eq_getElem hk]; rfl
    rw [this]; simp
  have e2 : l.filter p = (l.take k).filter p ++ x :: (l.drop (k + 1)).filter p := by
    conv => lhs; rw [e]
    rw [List.filter_append, List.filter_cons_of_pos hp]
  rw [e2]
  refine ⟨by simp, ?_⟩
  rw [List.getD_eq_getElem?_getD, List.getElem?_append_right (Nat.le_refl _), Nat.sub_self]
  rfl
set_option maxRecDepth 100000 in
set_option maxHeartbeats 16000000 in
theorem law_scans (l : List OpD) (S : Option Addr) (LA : Nat → Option Addr) (LC : Nat → Nat) (ca : Nat) (a b : ByteArray) (n : Nat) (w : World) (hS : OpsAt w S l LA LC) (hok : ∀ i, i < l.length → OpOK (l.getD i noOp)) (hn : l.length ≤ 9223372036854775807) (ha : a.size ≤ 9223372036854775807) (hb : b.size ≤ 9223372036854775807) (hT : Tabs w) :
    Calls Tryd.prog 5 #[.slice S l.length ca, .agg #[.string a, .string b], .int .u64 (n : Int)] w fun e w' => e = .returned (.bool true) ∧ Below w.heap.size w w' := by
  obtain ⟨W, eW, HB, c0, c1⟩ := box2 w (.string a) (.string b) 52
  have HS := Lib.hid hS
  have HOK := Lib.hid hok
  have HT := Lib.hid hT
  have HF0 := fun wz (hz : Below w.heap.size w wz) => fewS_any l S LA LC ca wz (hS.later hz) hok hn
  clear hS hok hT
  cases hf : fewS l
  · rw [hf] at HF0
    replace HF0 := Lib.hid HF0
    clear hf
    go_enter Tryd.func5, Tryd.ntmps5
    go_wp2_with (first
      | (go_at_call 11; refine (awake14_any _).mono ?_; rintro e w0 ⟨rfl, hb0⟩; (first | replace hbb := keepB hbb hb0 | have hbb := keepB HB hb0); (try replace c0 := keep hb0 c0); (try replace c1 := keep hb0 c1); clear hb0)
      | (go_at_call 12; refine (HF0.out _ hbb).mono ?_; rintro e w1 ⟨rfl, rfl⟩))
    go_ret
    exact ⟨rfl, hbb⟩
  rw [hf] at HF0
  replace HF0 := Lib.hid HF0
  have HFW := Lib.hid hf
  clear hf
  by_cases hk1 : 1000 < a.size
  · have q1 : decide (1000 < (a.size : Int)) = true := by rw [decide_eq_true_iff]; omega
    go_enter Tryd.func5, Tryd.ntmps5
    go_wp2_with (first
      | (go_at_call 11; refine (awake14_any _).mono ?_; rintro e w0 ⟨rfl, hb0⟩; (first | replace hbb := keepB hbb hb0 | have hbb := keepB HB hb0); (try replace c0 := keep hb0 c0); (try replace c1 := keep hb0 c1); clear hb0)
      | (go_at_call 12; refine (HF0.out _ hbb).mono ?_; rintro e w1 ⟨rfl, rfl⟩))
    go_ret
    exact ⟨rfl, hbb⟩
  have q1 : decide (1000 < (a.size : Int)) = false := by rw [decide_eq_false_iff_not]; omega
  by_cases hk3 : 1000 < b.size
  · have q2 : decide (1000 < (b.size : Int)) = true := by rw [decide_eq_true_iff]; omega
    go_enter Tryd.func5, Tryd.ntmps5
    go_wp2_with (first
      | (go_at_call 11; refine (awake14_any _).mono ?_; rintro e w0 ⟨rfl, hb0⟩; (first | replace hbb := keepB hbb hb0 | have hbb := keepB HB hb0); (try replace c0 := keep hb0 c0); (try replace c1 := keep hb0 c1); clear hb0)
      | (go_at_call 12; refine (HF0.out _ hbb).mono ?_; rintro e w1 ⟨rfl, rfl⟩))
    go_ret
    exact ⟨rfl, hbb⟩
  have q2 : decide (1000 < (b.size : Int)) = false := by rw [decide_eq_false_iff_not]; omega
  go_enter Tryd.func5, Tryd.ntmps5
  go_wp2_with (first
    | (go_at_call 11; refine (awake14_any _).mono ?_; rintro e w0 ⟨rfl, hb00⟩; have hb0 : Below w.heap.size w w0 := keepB HB hb00; replace c0 := keep hb00 c0; replace c1 := keep hb00 c1; clear hb00)
    | (go_at_call 12; refine (HF0.out _ hb0).mono ?_; rintro e w9 ⟨rfl, rfl⟩)
    | (go_at_call 13; refine (new14_any _).mono ?_; rintro e w1 ⟨p, rfl, hSt, hb1⟩; obtain ⟨w2, ew2, hb2, hsz2, hrow2⟩ := new3 w1 (.slice none 0 0) (.int .u64 0) (.int .u64 0) 32; have HP := Lib.hid (PairAt.new hSt ew2 rfl hb1.size)))
  have hB2 := keepB hb1 hb2
  have hwB := hb0.size
  clear ew2 hrow2 hsz2 hSt hb1 hb2 eW
  go_loopw [9] (fun i wr => ∃ k : Nat, k ≤ l.length ∧ i = .int .i64 k ∧ Hid (PairAt wr w0.heap.size p w1.heap.size (12 * k) (scrTo l k)) ∧ Below w0.heap.size w0 wr) (fun i _ => l.length - (intOf i).toNat)
  case atStart => exact ⟨0, Nat.zero_le _, rfl, HP, hB2⟩
  case round =>
    obtain ⟨k, hk, rfl, HI, hw⟩ := hrel
    obtain ⟨wi, rfl⟩ : ∃ wi : World, wi = wr := ⟨_, rfl⟩
    have hwf : Below w.heap.size w wi := hb0.trans (hw.mono hwB)
    by_cases hlt : k < l.length
    · have HAct := Lib.hid (act_step HS.out hwf hwB hw.size HOK.out HFW.out HT.out hlt HI.out)
      obtain ⟨b, off, rfl, d0, d1, d2, d3, d4, d5, _⟩ := (HS.out.later hwf) k hlt
      obtain ⟨o, HX⟩ : ∃ o, Hid (l.getD k noOp = o) := ⟨_, rfl⟩
      rw [HX.out] at d0 d1 d2 d3 d4 d5 HAct
      unfold opV at HAct
      have hki : (k : Int) < (l.length : Int) := by omega
      clear HI HP
      go_wp2_with (go_at_call 14; refine HAct.out.mono ?_; rintro e w3 ⟨rfl, hP3, hb3⟩; replace hP3 := Lib.hid hP3)
      go_roundw
      case rel => exact ⟨k + 1, by omega, by go_num, hP3, hw.trans hb3⟩
      case measure => simp [intOf]; omega
    · obtain rfl : k = l.length := by omega
      obtain ⟨M, O, hBe⟩ := behind HFW.out HI.out
      obtain ⟨s, hs⟩ : ∃ s, Hid (scrTo l l.length = s) := ⟨_, rfl⟩
      rw [hs.out] at hBe
      obtain ⟨lo, hlo⟩ : ∃ lo, Hid (s.low = lo) := ⟨_, rfl⟩
      obtain ⟨la, hla⟩ : ∃ la, Hid (s.last = la) := ⟨_, rfl⟩
      have hll : lo ≤ la := by rw [← hlo.out, ← hla.out]; exact hBe.ok.low
      have HLast : Hid (∀ wz, Below wi.heap.size wi wz → Calls Tryd.prog 16 #[.pointer (some ⟨p, 0, none⟩)] wz fun e w' => e = .returned (.int .u64 (la : Int)) ∧ wz = w') := fun wz hz => by
        have := last14_any (hBe.st.later hz)
        rwa [hla.out] at this
      have HLow : Hid (∀ wz, Below wi.heap.size wi wz → Calls Tryd.prog 15 #[.pointer (some ⟨p, 0, none⟩)] wz fun e w' => e = .returned (.int .u64 (lo : Int)) ∧ wz = w') := fun wz hz => by
        have := low14_any (hBe.st.later hz)
        rwa [hlo.out] at this
      have HBe := Lib.hid hBe
      clear hlt hBe HP HI
      by_cases hbig : 4611686018427387904 < la
      · have q2 : decide ((4611686018427387904 : Int) < (la : Int)) = true := by rw [decide_eq_true_iff]; omega
        clear hbig hll
        go_wp2_with (go_at_call 16; refine (HLast.out _ (Below.refl _ _)).mono ?_; rintro e w4 ⟨rfl, rfl⟩)
        go_ret
        exact ⟨rfl, hwf⟩
      · have q2 : decide ((4611686018427387904 : Int) < (la : Int)) = false := by rw [decide_eq_false_iff_not]; omega
        obtain ⟨z, hz⟩ : ∃ z, n % 100 = z := ⟨_, rfl⟩
        have hz1 : z < 100 := by omega
        obtain ⟨n0, hn0⟩ : ∃ n0, lo + z = n0 := ⟨_, rfl⟩
        have e0 : IntKind.u64.wrap ((lo : Int) + (n : Int) % 100) = (n0 : Int) := by rw [show ((lo : Int) + (n : Int) % 100) = ((n0 : Nat) : Int) by omega]; exact IntWalk.u64_in _ (by omega)
        have hsl : s.low ≤ n0 := by rw [hlo.out]; omega
        obtain ⟨L, hL⟩ : ∃ L, Hid (scanAll s.ks noStr noStr n0 = L) := ⟨_, rfl⟩
        obtain ⟨L2, hL2⟩ : ∃ L2, Hid (scanAll s.ks a b n0 = L2) := ⟨_, rfl⟩
        have hLl : L.length ≤ 800000 := by
          rw [← hL.out]
          have h1 := scanAll_len s.ks noStr noStr n0
          have h2 := items_ge HBe.out.ok.ne
          have h3 := HBe.out.few
          omega
        have hLF : Hid (L.filter (fun x => inRange a b x.key) = L2) := by show _ = _; rw [← hL.out, ← hL2.out]; exact (scanAll_part s.ks a b n0).symm
        replace hL := Lib.hid hL.out
        replace hL2 := Lib.hid hL2.out
        replace c0 := keep hw c0
        replace c1 := keep hw c1
        clear hn0 hz hz1 hbig hll
        go_wp2_with (first
          | (go_at_call 16; refine (HLast.out _ (Below.refl _ _)).mono ?_; rintro e w4 ⟨rfl, rfl⟩)
          | (go_at_call 15; refine (HLow.out _ (Below.refl _ _)).mono ?_; rintro e w4 ⟨rfl, rfl⟩))
        refine (HBe.out.scan (Below.refl _ _) hsl hL.out).mono ?_
        rintro e w5 ⟨v5, rfl, hr5, hb5⟩
        obtain ⟨A5, ca5, rfl, _, hI5⟩ := own_its hr5
        replace c0 := keep hb5 c0
        replace c1 := keep hb5 c1
        clear hr5
        go_wp2_with fail
        refine (HBe.out.scan hb5 hsl hL2.out).mono ?_
        rintro e w6 ⟨v6, rfl, hr6, hb6⟩
        obtain ⟨A6, ca6, rfl, _, hI6⟩ := own_its hr6
        replace c0 := keep hb6 c0
        replace c1 := keep hb6 c1
        replace hI5 := hI5.later hb6
        have hw6 := keepB hb5 hb6
        clear hr6 hb5 hb6 e0
        go_wp2
        go_loopw [14, 15] (fun jv iv wr => ∃ i j : Nat, i ≤ L.length ∧ iv = .int .i64 i ∧ jv = .int .i64 j ∧ Hid (((L.take i).filter fun x => inRange a b x.key).length = j) ∧ Below w6.heap.size w6 wr) (fun _ iv _ => L.length - (intOf iv).toNat)
        case atStart => exact ⟨0, 0, Nat.zero_le _, rfl, rfl, rfl, Below.refl _ _⟩
        case round =>
          obtain ⟨i, j, hi, rfl, rfl, HJ, hwr⟩ := hrel
          obtain ⟨wc, rfl⟩ : ∃ wc : World, wc = wr := ⟨_, rfl⟩
          have hwF := keepB hwf (keepB hw6 hwr)
          have hjl : j ≤ L.length := by
            rw [← HJ.out]
            have h1 := List.length_filter_le (fun x : It => inRange a b x.key) (L.take i)
            rw [List.length_take] at h1
            omega
          by_cases hlt : i < L.length
          · obtain ⟨b', off', y, yz, ym, yt, yn, rfl, f0, f1, f2, f3, f4, HY⟩ := (hI5.later hwr).at' hlt
            have hki : (i : Int) < (L.length : Int) := by omega
            have hmem : (⟨y, ⟨yz, ym, yt⟩, yn⟩ : It) ∈ scanAll s.ks noStr noStr n0 := by
              rw [hL.out, ← HY.out, List.getD_eq_getElem?_getD, List.getElem?_eq_getElem hlt]
              exact List.getElem_mem hlt
            obtain ⟨hsee, hkz, pp, hpp, hpk⟩ := scanAll_mem HBe.out.ok.rises hmem
            have hys : y.size ≤ 1000 := by
              have := HBe.out.ok.key _ hpp
              rw [hpk, keyB] at this
              simp at this
              omega
            have HG := Lib.hid (HBe.out.get (keepB hw6 hwr) hys hsl hsee.symm)
            have t1 : (yz == 0) = false := by rw [beq_eq_false_iff_ne]; exact hkz
            have hrise : Hid (∀ i0, i = i0 + 1 → lessS (L.getD i0 noIt).key y = true) := fun i0 e => by
              have := scanAll_next HBe.out.ok.rises (a := noStr) (b := noStr) (n := n0) (k := i0) (by rw [hL.out]; omega)
              rw [hL.out, ← e, HY.out] at this
              exact this
            obtain ⟨cc, hcc⟩ : ∃ cc, Hid (inRange a b y = cc) := ⟨_, rfl⟩
            have g0 := keep hwr c0
            have g1 := keep hwr c1
            have HI6 := Lib.hid (hI6.later hwr)
            have HI5 := Lib.hid (hI5.later hwr)
            clear hmem hsee hkz hpp hpk
            go_wp2_with (go_at_call 18; refine HG.out.mono ?_; rintro e w7 ⟨rfl, hb7⟩; obtain ⟨w8, ew8, hb8, hsz8, hrow8⟩ := new3 w7 (.int .i64 yz) (.int .u64 (ym : Int)) (.string yt) 42; obtain ⟨x0, x1, x2, _⟩ := cells3 hrow8; have hw8 := keepB hb7 hb8; replace f0 := keep hw8 f0; replace f1 := keep hw8 f1; replace f2 := keep hw8 f2; replace f3 := keep hw8 f3; replace f4 := keep hw8 f4; replace g0 := keep hw8 g0; replace g1 := keep hw8 g1; clear hrow8)
            go_cut [145] (fun s145 wx => s145 = .bool false ∧ ∃ nq, wx = w8.drewN nq)
            case first =>
              by_cases hi0 : i = 0
              · subst hi0
                go_quiet (fail)
                go_wp2
                go_meet
                exact ⟨rfl, _, rfl⟩
              · obtain ⟨im, him⟩ : ∃ im, i - 1 = im := ⟨_, rfl⟩
                obtain ⟨b2, off2, z, zz, zm, zt, zn, e9, p0, p1, p2, p3, p4, HZ⟩ := (HI5.out.later hw8).at' (k := im) (by omega)
                injection e9 with e9
                injection e9 with e9 e8
                subst e9 e8
                have hl2 := hrise.out im (by omega)
                rw [HZ.out] at hl2
                have hl' : Op.bytesLess z.toList y.toList = true := hl2
                have hkp : (0 : Int) < (i : Int) := by omega
                have hkn : decide (0 < i) = true := by rw [decide_eq_true_iff]; omega
                have hw1 : IntKind.i64.wrap ((i : Int) - 1) = (im : Int) := by rw [show ((i : Int) - 1) = ((im : Nat) : Int) by omega]; exact IntWalk.i64_in _ (by omega)
                have hkm : (im : Int) < (L.length : Int) := by omega
                have hkm0 : (0 : Int) ≤ (im : Int) := by omega
                clear hi0 him hl2
                go_quiet (fail)
                go_wp2
                go_meet
                exact ⟨rfl, _, rfl⟩
            case rest =>
              obtain ⟨rfl, nq, rfl⟩ := hcut
              go_wp2
              go_cut [168] (fun s168 wx => s168 = .bool (!cc) ∧ ∃ n2, wx = (w8.drewN nq).drewN n2)
              case first =>
                have hc9 := hcc.out
                rw [inRange_eq] at hc9
                replace hc9 := Lib.hid hc9
                cases r1 : Op.bytesLess y.toList a.toList
                · by_cases hbn : b.toList = []
                  · have hbe : b.toList.isEmpty = true := by rw [hbn]; rfl
                    go_quiet (fail)
                    go_wp2
                    go_meet
                    exact ⟨by rw [← hc9.out]; simp [*], _, rfl⟩
                  · have hbe : b.toList.isEmpty = false := by simpa using hbn
                    cases r2 : Op.bytesLess y.toList b.toList
                    · go_quiet (fail)
                      go_wp2
                      go_meet
                      exact ⟨by rw [← hc9.out]; simp [*], _, rfl⟩
                    · go_quiet (fail)
                      go_wp2
                      go_meet
                      exact ⟨by rw [← hc9.out]; simp [*], _, rfl⟩
                · go_quiet (fail)
                  go_wp2
                  go_meet
                  exact ⟨by rw [← hc9.out]; simp [*], _, rfl⟩
              case rest =>
                obtain ⟨rfl, n2, rfl⟩ := hcut
                cases cc
                · have HJ2 : Hid (((L.take (i + 1)).filter fun x => inRange a b x.key).length = j) := by
                    show _ = _
                    rw [filter_no hlt HY.out hcc.out, HJ.out]
                  go_wp2
                  go_roundw
                  case rel => exact ⟨i + 1, j, by omega, by go_num, rfl, HJ2, (by first | exact below_drewN (below_drewN (below_drewN (keepB hwr hw8) _) _) _ | exact below_drewN (below_drewN (keepB hwr hw8) _) _ | exact below_drewN (keepB hwr hw8) _)⟩
                  case measure => simp [intOf]; omega
                · have HJ2 : Hid (((L.take (i + 1)).filter fun x => inRange a b x.key).length = j + 1) := by
                    show _ = _
                    rw [filter_yes hlt HY.out hcc.out, List.length_append, HJ.out]
                    rfl
                  have hfa := filter_at hlt HY.out (p := fun x => inRange a b x.key) hcc.out
                  rw [HJ.out, hLF.out] at hfa
                  obtain ⟨hj1, hj2⟩ := hfa
                  obtain ⟨b6, off6, rfl, z0, z1, z2, z3, z4⟩ := (HI6.out.later hw8) j hj1
                  rw [hj2] at z0 z1 z2 z3 z4
                  have hjn : decide (L2.length ≤ j) = false := by rw [decide_eq_false_iff_not]; omega
                  have hji : decide ((L2.length : Int) ≤ (j : Int)) = false := by rw [decide_eq_false_iff_not]; omega
                  have hjk : (j : Int) < (L2.length : Int) := by omega
                  have hj0 : (0 : Int) ≤ (j : Int) := by omega
                  clear hj2 hj1
                  go_wp2
                  go_quiet (fail)
                  go_wp2
                  go_roundw
                  case rel => exact ⟨i + 1, j + 1, by omega, by go_num, by go_num, HJ2, (by first | exact below_drewN (below_drewN (below_drewN (keepB hwr hw8) _) _) _ | exact below_drewN (below_drewN (keepB hwr hw8) _) _ | exact below_drewN (keepB hwr hw8) _)⟩
                  case measure => simp [intOf]; omega
          · obtain rfl : i = L.length := by omega
            have hj2 : j = L2.length := by rw [← HJ.out, List.take_length, hLF.out]
            have t9 : ((j : Int) == (L2.length : Int)) = true := by simp [hj2]
            clear hj2
            go_wp2
            go_ret
            exact ⟨by simp [*], hwF⟩
end Go.Proofs.YtboiafchmdflpaaDoor
