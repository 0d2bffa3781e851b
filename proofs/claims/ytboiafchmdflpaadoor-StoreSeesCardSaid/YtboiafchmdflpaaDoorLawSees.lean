/- StoreSees' walk. -/
import Derived.Test.YtboiafchmdflpaaDoorScr14
namespace Go.Proofs.YtboiafchmdflpaaDoor
open Go.RowKit Go.Maps Go.Sort Go.Shelf

set_option maxRecDepth 100000 in
set_option maxHeartbeats 16000000 in
theorem law_sees (l : List OpD) (S : Option Addr) (LA : Nat → Option Addr) (LC : Nat → Nat) (ca : Nat) (key : ByteArray) (n : Nat) (w : World) (hS : OpsAt w S l LA LC) (hok : ∀ i, i < l.length → OpOK (l.getD i noOp)) (hn : l.length ≤ 9223372036854775807) (hkey : key.size ≤ 9223372036854775807) (hT : Tabs w) :
    Calls Tryd.prog 4 #[.slice S l.length ca, .string key, .int .u64 (n : Int)] w fun e w' => e = .returned (.bool true) ∧ Below w.heap.size w w' := by
  have HS := Lib.hid hS
  have HOK := Lib.hid hok
  have HT := Lib.hid hT
  have HF0 := fun wz (hz : Below w.heap.size w wz) => fewS_any l S LA LC ca wz (hS.later hz) hok hn
  clear hS hok hT
  cases hf : fewS l
  · rw [hf] at HF0
    replace HF0 := Lib.hid HF0
    clear hf
    go_enter Tryd.func4, Tryd.ntmps4
    go_wp2_with (first
      | (go_at_call 11; refine (awake14_any _).mono ?_; rintro e w0 ⟨rfl, hb0⟩; (first | replace hbb := keepB hbb hb0 | have hbb := hb0); clear hb0)
      | (go_at_call 12; refine (HF0.out _ hbb).mono ?_; rintro e w1 ⟨rfl, rfl⟩))
    go_ret
    exact ⟨rfl, hbb⟩
  rw [hf] at HF0
  replace HF0 := Lib.hid HF0
  have HFW := Lib.hid hf
  clear hf
  by_cases hk1 : 1000 < key.size
  · have q1 : decide (1000 < (key.size : Int)) = true := by rw [decide_eq_true_iff]; omega
    go_enter Tryd.func4, Tryd.ntmps4
    go_wp2_with (first
      | (go_at_call 11; refine (awake14_any _).mono ?_; rintro e w0 ⟨rfl, hb0⟩; (first | replace hbb := keepB hbb hb0 | have hbb := hb0); clear hb0)
      | (go_at_call 12; refine (HF0.out _ hbb).mono ?_; rintro e w1 ⟨rfl, rfl⟩))
    go_ret
    exact ⟨rfl, hbb⟩
  have q1 : decide (1000 < (key.size : Int)) = false := by rw [decide_eq_false_iff_not]; omega
  have hk2 : key.size ≤ 1000 := by omega
  go_enter Tryd.func4, Tryd.ntmps4
  go_wp2_with (first
    | (go_at_call 11; refine (awake14_any _).mono ?_; rintro e w0 ⟨rfl, hb0⟩)
    | (go_at_call 12; refine (HF0.out _ hb0).mono ?_; rintro e w9 ⟨rfl, rfl⟩)
    | (go_at_call 13; refine (new14_any _).mono ?_; rintro e w1 ⟨p, rfl, hSt, hb1⟩; obtain ⟨w2, ew2, hb2, hsz2, hrow2⟩ := new3 w1 (.slice none 0 0) (.int .u64 0) (.int .u64 0) 32; have HP := Lib.hid (PairAt.new hSt ew2 rfl hb1.size)))
  have hB2 := keepB hb1 hb2
  have hwB := hb0.size
  clear ew2 hrow2 hsz2 hSt hb1 hb2
  go_loopw [9] (fun i wr => ∃ k : Nat, k ≤ l.length ∧ i = .int .i64 k ∧ Hid (PairAt wr w0.heap.size p w1.heap.size (12 * k) (scrTo l k)) ∧ Below w0.heap.size w0 wr) (fun i _ => l.length - (intOf i).toNat)
  case atStart => exact ⟨0, Nat.zero_le _, rfl, HP, hB2⟩
  case round =>
    obtain ⟨k, hk, rfl, HI, hw⟩ := hrel
    obtain ⟨wi, rfl⟩ : ∃ wi : World, wi = wr := ⟨_, rfl⟩
    have hwf : Below w.heap.size w wi := hb0.trans (hw.mono hwB)
    by_cases hlt : k < l.length
    · have HAct := Lib.hid (act_step HS.out hwf hwB hw.size HOK.out HFW.out HT.out hlt HI.out)
      obtain ⟨b, off, rfl, d0, d1, d2, d3, d4, d5, _⟩ := (HS.out.later hwf) k hlt
      obtain ⟨o, HX⟩ : ∃ o, Hid (l.getD k noOp = o) := ⟨_, rfl⟩
      rw [HX.out] at d0 d1 d2 d3 d4 d5 HAct
      unfold opV at HAct
      have hki : (k : Int) < (l.length : Int) := by omega
      clear HI HP
      go_wp2_with (go_at_call 14; refine HAct.out.mono ?_; rintro e w3 ⟨rfl, hP3, hb3⟩; replace hP3 := Lib.hid hP3)
      go_roundw
      case rel => exact ⟨k + 1, by omega, by go_num, hP3, hw.trans hb3⟩
      case measure => simp [intOf]; omega
    · obtain rfl : k = l.length := by omega
      obtain ⟨M, O, hBe⟩ := behind HFW.out HI.out
      obtain ⟨s, hs⟩ : ∃ s, Hid (scrTo l l.length = s) := ⟨_, rfl⟩
      rw [hs.out] at hBe
      obtain ⟨lo, hlo⟩ : ∃ lo, Hid (s.low = lo) := ⟨_, rfl⟩
      obtain ⟨la, hla⟩ : ∃ la, Hid (s.last = la) := ⟨_, rfl⟩
      have hll : lo ≤ la := by rw [← hlo.out, ← hla.out]; exact hBe.ok.low
      have HLast : Hid (∀ wz, Below wi.heap.size wi wz → Calls Tryd.prog 16 #[.pointer (some ⟨p, 0, none⟩)] wz fun e w' => e = .returned (.int .u64 (la : Int)) ∧ wz = w') := fun wz hz => by
        have := last14_any (hBe.st.later hz)
        rwa [hla.out] at this
      have HLow : Hid (∀ wz, Below wi.heap.size wi wz → Calls Tryd.prog 15 #[.pointer (some ⟨p, 0, none⟩)] wz fun e w' => e = .returned (.int .u64 (lo : Int)) ∧ wz = w') := fun wz hz => by
        have := low14_any (hBe.st.later hz)
        rwa [hlo.out] at this
      have HBe := Lib.hid hBe
      clear hlt hBe HP HI
      by_cases hbig : 4611686018427387904 < la
      · have q2 : decide ((4611686018427387904 : Int) < (la : Int)) = true := by rw [decide_eq_true_iff]; omega
        clear hbig hll
        go_wp2_with (go_at_call 16; refine (HLast.out _ (Below.refl _ _)).mono ?_; rintro e w4 ⟨rfl, rfl⟩)
        go_ret
        exact ⟨rfl, hwf⟩
      · have q2 : decide ((4611686018427387904 : Int) < (la : Int)) = false := by rw [decide_eq_false_iff_not]; omega
        obtain ⟨z, hz⟩ : ∃ z, n % 100 = z := ⟨_, rfl⟩
        have hz1 : z < 100 := by omega
        obtain ⟨n0, hn0⟩ : ∃ n0, lo + z = n0 := ⟨_, rfl⟩
        obtain ⟨n1, hn1⟩ : ∃ n1, n0 + 1 = n1 := ⟨_, rfl⟩
        have e0 : IntKind.u64.wrap ((lo : Int) + (n : Int) % 100) = (n0 : Int) := by rw [show ((lo : Int) + (n : Int) % 100) = ((n0 : Nat) : Int) by omega]; exact IntWalk.u64_in _ (by omega)
        have e1 : IntKind.u64.wrap ((n0 : Int) + 1) = (n1 : Int) := by rw [show ((n0 : Int) + 1) = ((n1 : Nat) : Int) by omega]; exact IntWalk.u64_in _ (by omega)
        have hlon : lo ≤ n0 := by omega
        have hn01 : n0 < n1 := by omega
        have HN1 := Lib.hid hn1
        obtain ⟨v, hv⟩ : ∃ v, Hid (seenV (getK s.ks key) n0 = v) := ⟨_, rfl⟩
        obtain ⟨u, hu⟩ : ∃ u, Hid (seenV (getK s.ks key) n1 = u) := ⟨_, rfl⟩
        have hvle : v.num ≤ n0 := by rw [← hv.out]; exact seenV_le _ _
        have hup := seenV_up (l := getK s.ks key) n0
        rw [HN1.out, hu.out, hv.out] at hup
        have HGv : Hid (∀ wz, Below wi.heap.size wi wz → Calls Tryd.prog 18 #[.pointer (some ⟨p, 0, none⟩), .string key, .int .u64 (n0 : Int)] wz (GetPost wz v 0)) := fun wz hz => HBe.out.get hz hk2 (by rw [hlo.out]; omega) hv.out
        have HGu : Hid (∀ wz, Below wi.heap.size wi wz → Calls Tryd.prog 18 #[.pointer (some ⟨p, 0, none⟩), .string key, .int .u64 (n1 : Int)] wz (GetPost wz u 0)) := fun wz hz => HBe.out.get hz hk2 (by rw [hlo.out]; omega) hu.out
        have HGx : Hid (∀ wz, Below wi.heap.size wi wz → lo ≤ v.num → v.num ≠ 0 → Calls Tryd.prog 18 #[.pointer (some ⟨p, 0, none⟩), .string key, .int .u64 (v.num : Int)] wz (GetPost wz v 0)) := fun wz hz h1 h2 => HBe.out.get hz hk2 (by rw [hlo.out]; omega) (by
          rw [← hv.out] at h2 ⊢
          exact seenV_self (HBe.out.ok.getK key).1 n0 h2)
        clear hn0 hn1 hz hz1 hbig hll
        replace hup := Lib.hid hup
        go_wp2_with (first
          | (go_at_call 16; refine (HLast.out _ (Below.refl _ _)).mono ?_; rintro e w4 ⟨rfl, rfl⟩)
          | (go_at_call 15; refine (HLow.out _ (Below.refl _ _)).mono ?_; rintro e w4 ⟨rfl, rfl⟩))
        refine (HGv.out _ (Below.refl _ _)).mono ?_
        rintro e w3 ⟨rfl, hb3⟩
        obtain ⟨w4, ew4, hb4, hsz4, hrow4⟩ := new3 w3 (.int .i64 v.val.kind) (.int .u64 (v.val.bits : Int)) (.string v.val.text) 42
        obtain ⟨x0, x1, x2, _⟩ := cells3 hrow4
        have hw4 := keepB hb3 hb4
        clear hrow4
        go_wp2_with fail
        refine (HGu.out _ hw4).mono ?_
        rintro e w5 ⟨rfl, hb5⟩
        obtain ⟨w6, ew6, hb6, hsz6, hrow6⟩ := new3 w5 (.int .i64 u.val.kind) (.int .u64 (u.val.bits : Int)) (.string u.val.text) 42
        obtain ⟨y0, y1, y2, _⟩ := cells3 hrow6
        replace x0 := keep hb6 (keep hb5 x0)
        replace x1 := keep hb6 (keep hb5 x1)
        replace x2 := keep hb6 (keep hb5 x2)
        have hw6 := keepB hw4 (keepB hb5 hb6)
        clear hrow6
        have t1 : decide (n0 < v.num) = false := by rw [decide_eq_false_iff_not]; omega
        have hor := hup.out
        clear hup
        by_cases huv : u = v
        · subst huv
          clear hor HGv HGu hu hv
          by_cases hx : u.num < lo
          · have t2 : decide (u.num < lo) = true := decide_eq_true hx
            clear hx
            go_wp2_with (go_at_call 15; refine (HLow.out _ hw6).mono ?_; rintro e w7 ⟨rfl, rfl⟩)
            go_ret
            exact ⟨rfl, keepB hwf hw6⟩
          · have t2 : decide (u.num < lo) = false := decide_eq_false hx
            by_cases hx0 : u.num = 0
            · have t3 : ((u.num : Int) == 0) = true := by simp [hx0]
              replace hx0 := Lib.hid hx0
              clear hx
              go_wp2_with (go_at_call 15; refine (HLow.out _ hw6).mono ?_; rintro e w7 ⟨rfl, rfl⟩)
              go_ret
              exact ⟨rfl, keepB hwf hw6⟩
            · have t3 : ((u.num : Int) == 0) = false := by rw [beq_eq_false_iff_ne]; omega
              have HG9 := Lib.hid (HGx.out _ hw6 (by omega) hx0)
              clear hx hx0 HGx
              go_wp2_with (first
                | (go_at_call 15; refine (HLow.out _ hw6).mono ?_; rintro e w7 ⟨rfl, rfl⟩)
                | (go_at_call 18; refine HG9.out.mono ?_; rintro e w8 ⟨rfl, hb8⟩; obtain ⟨w9, ew9, hb9, hsz9, hrow9⟩ := new3 w8 (.int .i64 u.val.kind) (.int .u64 (u.val.bits : Int)) (.string u.val.text) 42; obtain ⟨z0, z1, z2, _⟩ := cells3 hrow9; replace x0 := keep hb9 (keep hb8 x0); replace x1 := keep hb9 (keep hb8 x1); replace x2 := keep hb9 (keep hb8 x2); have hw9 := keepB hw6 (keepB hb8 hb9); clear hrow9))
              go_ret
              exact ⟨by simp, keepB hwf hw9⟩
        · have hun : u.num = n1 := hor.resolve_left huv
          have hne : u.num ≠ v.num := by omega
          have t2 : decide (u.num < v.num) = false := by rw [decide_eq_false_iff_not]; omega
          have t4 : ((u.num : Int) != (v.num : Int)) = true := by rw [bne_iff_ne]; omega
          have t4n : (u.num != v.num) = true := by rw [bne_iff_ne]; omega
          have t5 : ((u.num : Int) != (n1 : Int)) = false := by simp [hun]
          have t5n : (u.num != n1) = false := by simp [hun]
          have t6 : ((u.num : Int) == (v.num : Int)) = false := by rw [beq_eq_false_iff_ne]; omega
          have t6n : (u.num == v.num) = false := by rw [beq_eq_false_iff_ne]; omega
          clear huv hor hne hun HGv HGu hu
          by_cases hx : v.num < lo
          · have t7 : decide (v.num < lo) = true := decide_eq_true hx
            clear hx
            go_wp2_with (go_at_call 15; refine (HLow.out _ hw6).mono ?_; rintro e w7 ⟨rfl, rfl⟩)
            go_ret
            exact ⟨rfl, keepB hwf hw6⟩
          · have t7 : decide (v.num < lo) = false := decide_eq_false hx
            by_cases hx0 : v.num = 0
            · have t3 : ((v.num : Int) == 0) = true := by simp [hx0]
              replace hx0 := Lib.hid hx0
              clear hx
              go_wp2_with (go_at_call 15; refine (HLow.out _ hw6).mono ?_; rintro e w7 ⟨rfl, rfl⟩)
              go_ret
              exact ⟨rfl, keepB hwf hw6⟩
            · have t3 : ((v.num : Int) == 0) = false := by rw [beq_eq_false_iff_ne]; omega
              have HG9 := Lib.hid (HGx.out _ hw6 (by omega) hx0)
              clear hx hx0 HGx
              go_wp2_with (first
                | (go_at_call 15; refine (HLow.out _ hw6).mono ?_; rintro e w7 ⟨rfl, rfl⟩)
                | (go_at_call 18; refine HG9.out.mono ?_; rintro e w8 ⟨rfl, hb8⟩; obtain ⟨w9, ew9, hb9, hsz9, hrow9⟩ := new3 w8 (.int .i64 v.val.kind) (.int .u64 (v.val.bits : Int)) (.string v.val.text) 42; obtain ⟨z0, z1, z2, _⟩ := cells3 hrow9; replace x0 := keep hb9 (keep hb8 x0); replace x1 := keep hb9 (keep hb8 x1); replace x2 := keep hb9 (keep hb8 x2); have hw9 := keepB hw6 (keepB hb8 hb9); clear hrow9))
              go_ret
              exact ⟨by simp, keepB hwf hw9⟩
end Go.Proofs.YtboiafchmdflpaaDoor
