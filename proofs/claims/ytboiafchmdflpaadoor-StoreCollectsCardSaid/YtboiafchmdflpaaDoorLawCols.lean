/- StoreCollects' walk. -/
import Derived.Test.YtboiafchmdflpaaDoorScr14
namespace Go.Proofs.YtboiafchmdflpaaDoor
open Go.RowKit Go.Maps Go.Sort Go.Shelf

theorem seen_nil {s : StD} (h : StOK s) (k : ByteArray) (n : Nat) (h0 : (seenV (getK s.ks k) n).val.kind = 0) : (seenV (getK s.ks k) n).val = noVal := by
  rcases seenV_mem' (getK s.ks k) n with e | e
  · rw [e]; rfl
  · have hf := (h.getK k).2.2.1 _ e
    generalize (seenV (getK s.ks k) n).val = v at hf h0
    obtain ⟨kd, b, t⟩ := v
    simp only at h0
    subst h0
    rw [fv0, Bool.and_eq_true] at hf
    rw [of_decide_eq_true hf.1, of_decide_eq_true hf.2]
    rfl
/-- What is seen behind Collect. -/
theorem seen_col {s : StD} (h : StOK s) (k : ByteArray) {m n : Nat} (hc : colOK s m = true) (hm : m ≤ n) : (seenV (getK (colS s m).ks k) n).val = (seenV (getK s.ks k) n).val ∧ ((seenV (getK s.ks k) n).val.kind ≠ 0 → (seenV (getK (colS s m).ks k) n).num = (seenV (getK s.ks k) n).num) := by
  have e : getK (colS s m).ks k = colV (getK s.ks k) m := by rw [colS, if_pos hc]; exact getK_colK h.rises m k
  have hs := seen_colV (getK s.ks k) hm
  by_cases h0 : (seenV (getK s.ks k) n).val.kind = 0
  · refine ⟨?_, fun e9 => absurd h0 e9⟩
    rw [seen_nil h k n h0]
    refine seen_nil (col_ok h m) k n ?_
    rw [e, hs.1, h0]
  · rw [e, hs.2 h0]
    exact ⟨rfl, fun _ => rfl⟩
theorem scan_col {s : StD} (h : StOK s) (a b : ByteArray) {m n : Nat} (hc : colOK s m = true) (hm : m ≤ n) : scanAll (colS s m).ks a b n = scanAll s.ks a b n := by
  rw [colS, if_pos hc]
  exact scanAll_colK h.rises a b hm
theorem colN_ge {s : StD} (h : StOK s) (m : Nat) : 0 ≤ colN s m := by
  rw [colN]
  split
  · have := countK_colK h.rises h.falls m
    omega
  · omega
theorem Behind.old {wi : World} {B p : Nat} {s : StD} {M : Nat} {O : Nat → Prop} (h : Behind wi B p s M O) {wz : World} (hz : Below wi.heap.size wi wz) {x : ByteArray} (hx : x.size ≤ 1000) {n : Nat} (hn : n < s.low) :
    Calls Tryd.prog 18 #[.pointer (some ⟨p, 0, none⟩), .string x, .int .u64 (n : Int)] wz (GetPost wz noVer 9) := by
  have := get14_any (h.st.later hz) x (by unfold maxLen; omega) n (Nat.le_trans (getK_len _ _) (by have := h.few; omega))
  rw [getV, oldE, if_pos hn, if_pos hn] at this
  exact this
theorem Behind.coll {wi : World} {B p : Nat} {s : StD} {M : Nat} {O : Nat → Prop} (h : Behind wi B p s M O) (hB : B ≤ wi.heap.size) {wz : World} (hz : Below wi.heap.size wi wz) (m : Nat) :
    Calls Tryd.prog 17 #[.pointer (some ⟨p, 0, none⟩), .int .u64 (m : Int)] wz fun e w' => e = .returned (.tuple #[.int .i64 (colN s m), .int .i64 (colE s m)]) ∧ Behind w' B p (colS s m) M (ext O wz w') ∧ Out O wz w' ∧ Below B wz w' := by
  have := col14_any (h.st.later hz) (Nat.le_trans hB hz.size) h.ok m (by have := h.n; omega) (by have := h.few; omega)
  refine this.mono ?_
  rintro e w' ⟨rfl, h1, h2⟩
  refine ⟨rfl, ⟨h1, col_ok h.ok m, ?_, h.n⟩, h2, h2.below (Nat.le_trans hB hz.size) fun k hk => (h.st.lt k hk).1⟩
  rw [colS]
  split
  · exact Nat.le_trans (colP_items h.ok m) h.few
  · exact h.few
set_option maxRecDepth 100000 in
set_option maxHeartbeats 16000000 in
theorem law_collects (l : List OpD) (S : Option Addr) (LA : Nat → Option Addr) (LC : Nat → Nat) (ca : Nat) (m n : Nat) (key : ByteArray) (w : World) (hS : OpsAt w S l LA LC) (hok : ∀ i, i < l.length → OpOK (l.getD i noOp)) (hn : l.length ≤ 9223372036854775807) (hkey : key.size ≤ 9223372036854775807) (hm : m < 18446744073709551616) (hT : Tabs w) :
    Calls Tryd.prog 3 #[.slice S l.length ca, .agg #[.int .u64 (m : Int), .int .u64 (n : Int)], .string key] w fun e w' => e = .returned (.bool true) ∧ Below w.heap.size w w' := by
  obtain ⟨W, eW, HB, c0, c1⟩ := box2 w (.int .u64 (m : Int)) (.int .u64 (n : Int)) 24
  have HS := Lib.hid hS
  have HOK := Lib.hid hok
  have HT := Lib.hid hT
  have HF0 := fun wz (hz : Below w.heap.size w wz) => fewS_any l S LA LC ca wz (hS.later hz) hok hn
  clear hS hok hT
  cases hf : fewS l
  · rw [hf] at HF0
    replace HF0 := Lib.hid HF0
    clear hf
    go_enter Tryd.func3, Tryd.ntmps3
    go_wp2
    go_quiet (fail)
    go_wp2_with (first
      | (go_at_call 11; refine (awake14_any _).mono ?_; rintro e w0 ⟨rfl, hb0⟩; (first | replace hbb := keepB hbb hb0 | have hbb := keepB (below_drewN HB _) hb0); clear hb0)
      | (go_at_call 12; refine (HF0.out _ hbb).mono ?_; rintro e w1 ⟨rfl, rfl⟩))
    go_ret
    exact ⟨rfl, hbb⟩
  rw [hf] at HF0
  replace HF0 := Lib.hid HF0
  have HFW := Lib.hid hf
  clear hf
  by_cases hk1 : 1000 < key.size
  · have q1 : decide (1000 < (key.size : Int)) = true := by rw [decide_eq_true_iff]; omega
    go_enter Tryd.func3, Tryd.ntmps3
    go_wp2
    go_quiet (fail)
    go_wp2_with (first
      | (go_at_call 11; refine (awake14_any _).mono ?_; rintro e w0 ⟨rfl, hb0⟩; (first | replace hbb := keepB hbb hb0 | have hbb := keepB (below_drewN HB _) hb0); clear hb0)
      | (go_at_call 12; refine (HF0.out _ hbb).mono ?_; rintro e w1 ⟨rfl, rfl⟩))
    go_ret
    exact ⟨rfl, hbb⟩
  have q1 : decide (1000 < (key.size : Int)) = false := by rw [decide_eq_false_iff_not]; omega
  have hk2 : key.size ≤ 1000 := by omega
  go_enter Tryd.func3, Tryd.ntmps3
  go_wp2
  go_quiet (fail)
  go_wp2_with (first
    | (go_at_call 11; refine (awake14_any _).mono ?_; rintro e w0 ⟨rfl, hb00⟩; have hb0 : Below w.heap.size w w0 := keepB (below_drewN HB _) hb00; clear hb00)
    | (go_at_call 12; refine (HF0.out _ hb0).mono ?_; rintro e w9 ⟨rfl, rfl⟩)
    | (go_at_call 13; refine (new14_any _).mono ?_; rintro e w1 ⟨p, rfl, hSt, hb1⟩; obtain ⟨w2, ew2, hb2, hsz2, hrow2⟩ := new3 w1 (.slice none 0 0) (.int .u64 0) (.int .u64 0) 32; have HP := Lib.hid (PairAt.new hSt ew2 rfl hb1.size)))
  have hB2 := keepB hb1 hb2
  have hwB := hb0.size
  clear ew2 hrow2 hsz2 hSt hb1 hb2 c0 c1 eW
  go_loopw [11] (fun i wr => ∃ k : Nat, k ≤ l.length ∧ i = .int .i64 k ∧ Hid (PairAt wr w0.heap.size p w1.heap.size (12 * k) (scrTo l k)) ∧ Below w0.heap.size w0 wr) (fun i _ => l.length - (intOf i).toNat)
  case atStart => exact ⟨0, Nat.zero_le _, rfl, HP, hB2⟩
  case round =>
    obtain ⟨k, hk, rfl, HI, hw⟩ := hrel
    obtain ⟨wi, rfl⟩ : ∃ wi : World, wi = wr := ⟨_, rfl⟩
    have hwf : Below w.heap.size w wi := hb0.trans (hw.mono hwB)
    by_cases hlt : k < l.length
    · have HAct := Lib.hid (act_step HS.out hwf hwB hw.size HOK.out HFW.out HT.out hlt HI.out)
      obtain ⟨b, off, rfl, d0, d1, d2, d3, d4, d5, _⟩ := (HS.out.later hwf) k hlt
      obtain ⟨o, HX⟩ : ∃ o, Hid (l.getD k noOp = o) := ⟨_, rfl⟩
      rw [HX.out] at d0 d1 d2 d3 d4 d5 HAct
      unfold opV at HAct
      have hki : (k : Int) < (l.length : Int) := by omega
      clear HI HP
      go_wp2_with (go_at_call 14; refine HAct.out.mono ?_; rintro e w3 ⟨rfl, hP3, hb3⟩; replace hP3 := Lib.hid hP3)
      go_roundw
      case rel => exact ⟨k + 1, by omega, by go_num, hP3, hw.trans hb3⟩
      case measure => simp [intOf]; omega
    · obtain rfl : k = l.length := by omega
      obtain ⟨M, O, hBe⟩ := behind HFW.out HI.out
      obtain ⟨s, hs⟩ : ∃ s, Hid (scrTo l l.length = s) := ⟨_, rfl⟩
      rw [hs.out] at hBe
      obtain ⟨lo, hlo⟩ : ∃ lo, Hid (s.low = lo) := ⟨_, rfl⟩
      obtain ⟨la, hla⟩ : ∃ la, Hid (s.last = la) := ⟨_, rfl⟩
      have HLast : Hid (∀ wz, Below wi.heap.size wi wz → Calls Tryd.prog 16 #[.pointer (some ⟨p, 0, none⟩)] wz fun e w' => e = .returned (.int .u64 (la : Int)) ∧ wz = w') := fun wz hz => by
        have := last14_any (hBe.st.later hz)
        rwa [hla.out] at this
      have HLow : Hid (∀ wz, Below wi.heap.size wi wz → Calls Tryd.prog 15 #[.pointer (some ⟨p, 0, none⟩)] wz fun e w' => e = .returned (.int .u64 (lo : Int)) ∧ wz = w') := fun wz hz => by
        have := low14_any (hBe.st.later hz)
        rwa [hlo.out] at this
      have HBe := Lib.hid hBe
      have hBi := hw.size
      clear hlt hBe HP HI
      by_cases hbad : m < lo ∨ la < m
      · have hce : colE s m = 1 := by
          rw [colE, if_neg]
          rw [colOK, hlo.out, hla.out]
          simp only [Bool.and_eq_true, decide_eq_true_eq]
          omega
        have HC := HBe.out.coll hBi (Below.refl _ _) m
        obtain ⟨cn, hcn⟩ : ∃ cn, Hid (colN s m = cn) := ⟨_, rfl⟩
        rw [hce, hcn.out] at HC
        replace HC := Lib.hid HC
        by_cases hb1 : m < lo
        · have t1 : decide (m < lo) = true := decide_eq_true hb1
          clear hbad hce hb1
          go_wp2_with (first
            | (go_at_call 15; refine (HLow.out _ (Below.refl _ _)).mono ?_; rintro e w4 ⟨rfl, rfl⟩)
            | (go_at_call 17; refine HC.out.mono ?_; rintro e w5 ⟨rfl, _, _, hb5⟩))
          go_ret
          exact ⟨rfl, hwf.trans (hb5.mono hwB)⟩
        · have t1 : decide (m < lo) = false := decide_eq_false hb1
          have t2 : decide (la < m) = true := by rw [decide_eq_true_iff]; omega
          clear hbad hce hb1
          go_wp2_with (first
            | (go_at_call 15; refine (HLow.out _ (Below.refl _ _)).mono ?_; rintro e w4 ⟨rfl, rfl⟩)
            | (go_at_call 16; refine (HLast.out _ (Below.refl _ _)).mono ?_; rintro e w4 ⟨rfl, rfl⟩)
            | (go_at_call 17; refine HC.out.mono ?_; rintro e w5 ⟨rfl, _, _, hb5⟩))
          go_ret
          exact ⟨rfl, hwf.trans (hb5.mono hwB)⟩
      · have t1 : decide (m < lo) = false := by rw [decide_eq_false_iff_not]; omega
        have t2 : decide (la < m) = false := by rw [decide_eq_false_iff_not]; omega
        have hcok : colOK s m = true := by
          rw [colOK, hlo.out, hla.out, decide_eq_true (by omega), decide_eq_true (by omega)]; rfl
        have hlom : lo ≤ m := by omega
        obtain ⟨nm, hnm⟩ : ∃ nm : Nat, max n m = nm := ⟨_, rfl⟩
        have hmax : max (n : Int) (m : Int) = (nm : Int) := by rw [← hnm]; omega
        have hmn : m ≤ nm := by omega
        have hsl : s.low ≤ nm := by rw [hlo.out]; omega
        obtain ⟨v, hv⟩ : ∃ v, Hid (seenV (getK s.ks key) nm = v) := ⟨_, rfl⟩
        obtain ⟨u, hu⟩ : ∃ u, Hid (seenV (getK (colS s m).ks key) nm = u) := ⟨_, rfl⟩
        obtain ⟨L, hL⟩ : ∃ L, Hid (scanAll s.ks noStr noStr nm = L) := ⟨_, rfl⟩
        have hLl : L.length ≤ 800000 := by
          rw [← hL.out]
          have h1 := scanAll_len s.ks noStr noStr nm
          have h2 := items_ge HBe.out.ok.ne
          have h3 := HBe.out.few
          omega
        have hsc := seen_col HBe.out.ok key hcok hmn
        rw [hu.out, hv.out] at hsc
        obtain ⟨un, rfl⟩ : ∃ un, u = ⟨un, v.val⟩ := ⟨u.num, by cases u; simp only at hsc; rw [hsc.1]⟩
        have hnn : v.val.kind ≠ 0 → un = v.num := hsc.2
        clear hsc
        replace hnn := Lib.hid hnn
        have hL2 := scan_col HBe.out.ok noStr noStr hcok hmn
        rw [hL.out] at hL2
        replace hL2 := Lib.hid hL2
        have hce : colE s m = 0 := by rw [colE, if_pos hcok]
        have hlow2 : (colS s m).low = m := by rw [colS, if_pos hcok]
        obtain ⟨cn, hcn⟩ : ∃ cn, Hid (colN s m = cn) := ⟨_, rfl⟩
        have hcn0 : 0 ≤ cn := by rw [← hcn.out]; exact colN_ge HBe.out.ok m
        have t3 : decide (cn < 0) = false := by rw [decide_eq_false_iff_not]; omega
        have HC : Hid (∀ wz, Below wi.heap.size wi wz → Calls Tryd.prog 17 #[.pointer (some ⟨p, 0, none⟩), .int .u64 (m : Int)] wz fun e w' => e = .returned (.tuple #[.int .i64 cn, .int .i64 0]) ∧ Behind w' w0.heap.size p (colS s m) M (ext O wz w') ∧ Out O wz w' ∧ Below w0.heap.size wz w') := fun wz hz => by
          have := HBe.out.coll hBi hz m
          rw [hce, hcn.out] at this
          exact this
        have HOlt : Hid (∀ k, O k → k < wi.heap.size) := fun k hk => (HBe.out.st.lt k hk).2
        replace hlow2 := Lib.hid hlow2
        have hsm := sameI_yes (rfl : L = L)
        replace hsm := Lib.hid hsm
        have HGv := Lib.hid (HBe.out.get (Below.refl _ _) hk2 hsl hv.out)
        replace hL := Lib.hid hL.out
        clear hbad hnm hce hlom hcok
        go_wp2_with (first
          | (go_at_call 15; refine (HLow.out _ (Below.refl _ _)).mono ?_; rintro e w4 ⟨rfl, rfl⟩)
          | (go_at_call 16; refine (HLast.out _ (Below.refl _ _)).mono ?_; rintro e w4 ⟨rfl, rfl⟩))
        refine HGv.out.mono ?_
        rintro e w3 ⟨rfl, hb3⟩
        obtain ⟨w4, ew4, hb4, hsz4, hrow4⟩ := new3 w3 (.int .i64 v.val.kind) (.int .u64 (v.val.bits : Int)) (.string v.val.text) 42
        obtain ⟨x0, x1, x2, _⟩ := cells3 hrow4
        have hw4 := keepB hb3 hb4
        have hx9 : Hid (¬ O w3.heap.size) := fun e9 => by have := HOlt.out _ e9; have := hb3.size; omega
        clear hrow4 HGv
        go_wp2_with fail
        refine (HBe.out.scan hw4 hsl hL.out).mono ?_
        rintro e w5 ⟨v5, rfl, hr5, hb5⟩
        obtain ⟨A5, ca5, rfl, _, _⟩ := own_its hr5
        replace x0 := keep hb5 x0
        replace x1 := keep hb5 x1
        replace x2 := keep hb5 x2
        have hw5 := keepB hw4 hb5
        have hr9 : Hid (∀ g, (Value.slice A5 L.length ca5).ownBlock = some g → ¬ O g) := fun g hg e9 => by have h8 := (hr5.lt g hg).1; have := HOlt.out _ e9; have := hw4.size; omega
        replace hr5 := Lib.hid hr5
        go_wp2_with fail
        refine (HC.out _ hw5).mono ?_
        rintro e w6 ⟨rfl, hBe6, ho6, hb6⟩
        replace x0 := ho6.cell x0 hx9.out
        replace x1 := ho6.cell x1 hx9.out
        replace x2 := ho6.cell x2 hx9.out
        have hr6 := Lib.hid (ho6.row hr5.out hr9.out)
        have hw6 : Below w.heap.size w w6 := (keepB hwf hw5).trans (hb6.mono hwB)
        replace hBe6 := Lib.hid hBe6
        clear ho6 hb6 hw5 hw4 hb3 hb4 hb5 hwf
        go_wp2_with fail
        refine (hBe6.out.get (Below.refl _ _) hk2 (by rw [hlow2.out]; exact hmn) hu.out).mono ?_
        rintro e w7 ⟨rfl, hb7⟩
        obtain ⟨w8, ew8, hb8, hsz8, hrow8⟩ := new3 w7 (.int .i64 v.val.kind) (.int .u64 (v.val.bits : Int)) (.string v.val.text) 42
        obtain ⟨y0, y1, y2, _⟩ := cells3 hrow8
        have hw8 := keepB hb7 hb8
        replace x0 := keep hw8 x0
        replace x1 := keep hw8 x1
        replace x2 := keep hw8 x2
        clear hrow8
        go_wp2_with fail
        refine (hBe6.out.scan hw8 (by rw [hlow2.out]; exact hmn) hL2.out).mono ?_
        rintro e w9 ⟨v9, rfl, hr9', hb9⟩
        obtain ⟨A9, ca9, rfl, _, hI9⟩ := own_its hr9'
        have hw9 := keepB hw8 hb9
        obtain ⟨A5', ca5', e5, _, hI5⟩ := own_its hr6.out
        injection e5 with e51 e52 e53
        subst e51 e53
        replace hI5 := hI5.later hw9
        replace x0 := keep hb9 x0
        replace x1 := keep hb9 x1
        replace x2 := keep hb9 x2
        replace y0 := keep hb9 y0
        replace y1 := keep hb9 y1
        replace y2 := keep hb9 y2
        clear hr9'
        go_wp2_with fail
        refine (items14_any L A5 ca5 hI5 hLl).mono ?_
        rintro e w10 ⟨v10, rfl, hr10, hb10⟩
        obtain ⟨A10, ca10, rfl, _, hI10⟩ := own_its hr10
        clear hr10
        go_wp2_with fail
        refine (items14_any L A9 ca9 (hI9.later hb10) hLl).mono ?_
        rintro e w11 ⟨v11, rfl, hr11, hb11⟩
        obtain ⟨A11, ca11, rfl, _, hI11⟩ := own_its hr11
        clear hr11
        go_wp2_with fail
        refine (calls_b14' hsm.out (refSame_any L L A10 A11 ca10 ca11 (hI10.later hb11) hI11 (by omega))).mono ?_
        rintro e w12 ⟨rfl, hb12⟩
        have hb912 : Below w9.heap.size w9 w12 := keepB hb10 (keepB hb11 hb12)
        replace x0 := keep hb912 x0
        replace x1 := keep hb912 x1
        replace x2 := keep hb912 x2
        replace y0 := keep hb912 y0
        replace y1 := keep hb912 y1
        replace y2 := keep hb912 y2
        have hw12 : Below w6.heap.size w6 w12 := keepB hw9 hb912
        have hwF := keepB hw6 hw12
        clear hb10 hb11 hb12 hb912 hw9 hw8 hb7 hb8 hb9 hI5 hI9 hI10 hI11
        by_cases hm0 : m = 0
        · have t4 : ((m : Int) == 0) = true := by simp [hm0]
          have Hm0 := Lib.hid hm0
          clear hm0
          by_cases hz : v.val.kind = 0
          · have t5 : (v.val.kind != 0) = false := by simp [hz]
            clear hz hnn
            go_wp2
            go_ret
            exact ⟨rfl, hwF⟩
          · have t5 : (v.val.kind != 0) = true := by simpa using hz
            obtain rfl := hnn.out hz
            clear hz hnn
            go_wp2
            go_ret
            exact ⟨rfl, hwF⟩
        · have t4 : ((m : Int) == 0) = false := by rw [beq_eq_false_iff_ne]; omega
          obtain ⟨m1, hm1⟩ : ∃ m1, m = m1 + 1 := ⟨m - 1, by omega⟩
          have e7 : IntKind.u64.wrap ((m : Int) - 1) = (m1 : Int) := by rw [show ((m : Int) - 1) = ((m1 : Nat) : Int) by omega]; exact IntWalk.u64_in _ (by omega)
          have HO9 := Lib.hid (hBe6.out.old hw12 hk2 (n := m1) (by rw [hlow2.out]; omega))
          clear hm0 hm1
          by_cases hz : v.val.kind = 0
          · have t5 : (v.val.kind != 0) = false := by simp [hz]
            clear hz hnn
            go_wp2_with (go_at_call 18; refine HO9.out.mono ?_; rintro e w13 ⟨rfl, hb13⟩)
            go_ret
            exact ⟨rfl, (keepB hwF (keepB hb13 (below1 _ _)))⟩
          · have t5 : (v.val.kind != 0) = true := by simpa using hz
            obtain rfl := hnn.out hz
            clear hz hnn
            go_wp2_with (go_at_call 18; refine HO9.out.mono ?_; rintro e w13 ⟨rfl, hb13⟩)
            go_ret
            exact ⟨rfl, (keepB hwF (keepB hb13 (below1 _ _)))⟩
end Go.Proofs.YtboiafchmdflpaaDoor
