/- The reference's Scan. -/
import Derived.Test.YtboiafchmdflpaaDoorScanM14
import Derived.Test.YtboiafchmdflpaaDoorRefGet14
namespace Go.Proofs.YtboiafchmdflpaaDoor
open Go.RowKit Go.Maps

def RScanPost (w : World) (l : List It) (err : Int) (e : Ending) (w' : World) : Prop :=
  ∃ v, e = .returned (.tuple #[v, .int .i64 err]) ∧ w'.ownsRow w.heap.size 102 5 v l.length (itCs l) ∧ Below w.heap.size w w'
/-- Is an item left out, whatever is seen? -/
def rSkip (a b : ByteArray) (pk : Option ByteArray) (x : ByteArray) : Bool := decide (pk = some x) || !inRange a b x
theorem rsOne_skip {F : List It} {a b : ByteArray} {n : Nat} {pk : Option ByteArray} {x : It} (h : rSkip a b pk x.key = true) : rsOne F a b n pk x = [] := by
  rw [rSkip, Bool.or_eq_true] at h
  rw [rsOne]
  rcases h with h | h
  · rw [if_pos (of_decide_eq_true h)]
  · split
    · rfl
    · rw [Bool.not_eq_true'] at h
      rw [h]
      simp
theorem rsOne_go {F : List It} {a b : ByteArray} {n : Nat} {pk : Option ByteArray} {x : It} {v : Ver} (h : rSkip a b pk x.key = false) (hv : seenF F x.key n = v) : rsOne F a b n pk x = if v.val.kind = 0 then [] else [⟨x.key, v.val, v.num⟩] := by
  rw [rSkip, Bool.or_eq_false_iff] at h
  have h2 : inRange a b x.key = true := by have := h.2; rwa [Bool.not_eq_false'] at this
  rw [rsOne, if_neg (of_decide_eq_false h.1), h2, hv]
  by_cases hk : v.val.kind = 0 <;> simp [hk]
theorem rSkip_zero (a b x : ByteArray) : rSkip a b none x = !inRange a b x := by simp [rSkip]
theorem rSkip_some (a b x y : ByteArray) : rSkip a b (some y) x = ((y.toList == x.toList) || !inRange a b x) := by
  rw [rSkip, str_eq_dec]
  simp
set_option maxRecDepth 100000 in
set_option maxHeartbeats 8000000 in
theorem refScan_any {w : World} {B q : Nat} {O : Nat → Prop} {L : List It} {last low : Nat} (h : RefAt w B q O L last low) (a b : ByteArray) (n : Nat) (most : Int) (hI : L.length ≤ 800000) :
    Calls Tryd.prog 39 #[.pointer (some ⟨q, 0, none⟩), .string a, .string b, .int .u64 (n : Int), .int .i64 most] w (RScanPost w (rScanS L low a b n most) (rOldE low n)) := by
  obtain ⟨i0, hi, hz0, hz1, hz2⟩ := info_parts info_it
  have HS := Lib.hid h
  obtain ⟨v, h⟩ := h
  have c0 := h.c0
  have c2 := h.c2
  by_cases hlow : n < low
  · have hl : ((n : Int) < (low : Int)) := by omega
    have HV : Hid (rScanS L low a b n most = []) := by show _ = _; rw [rScanS, if_pos hlow]
    have HE : Hid (rOldE low n = 9) := by show _ = _; rw [rOldE, if_pos hlow]
    clear hlow h
    go_enter Tryd.func39, Tryd.ntmps39
    go_wp2
    go_ret2
    exact ⟨.slice none 0 0, by rw [HE.out]; rfl, by rw [HV.out]; exact own_nil _ _ _ _, Below.refl _ _⟩
  · have hl : ¬ ((n : Int) < (low : Int)) := by omega
    have HV : Hid (rScanS L low a b n most = (rsGo L a b n none L).take most.toNat) := by show _ = _; rw [rScanS, if_neg hlow]
    have HE : Hid (rOldE low n = 0) := by show _ = _; rw [rOldE, if_neg hlow]
    obtain ⟨K, cap, hvv, hcap, hK⟩ := own_its h.row
    have HH := Lib.hid h
    subst hvv
    clear h hlow
    go_enter Tryd.func39, Tryd.ntmps39
    go_wp2
    go_loopw [12, 13] (fun u i wr => ∃ k : Nat, k ≤ L.length ∧ i = .int .i64 k ∧ Hid (wr.ownsRow w.heap.size 102 5 u (rsGo L a b n none (L.take k)).length (itCs (rsGo L a b n none (L.take k)))) ∧ Hid ((rsGo L a b n none (L.take k)).length ≤ most.toNat) ∧ Below w.heap.size w wr) (fun _ i _ => L.length - (intOf i).toNat)
    case atStart => exact ⟨0, Nat.zero_le _, rfl, own_nil _ _ _ _, Nat.zero_le _, Below.refl _ _⟩
    case round =>
      obtain ⟨k, hk, rfl, HO, HM, hw⟩ := hrel
      obtain ⟨wi, rfl⟩ : ∃ wi : World, wi = wr := ⟨_, rfl⟩
      replace c0 := keep hw c0
      obtain ⟨R, hR⟩ : ∃ R, Hid (rsGo L a b n none (L.take k) = R) := ⟨_, rfl⟩
      rw [hR.out] at HO HM
      have hRl : R.length ≤ 800000 := by
        have := rs_len (F := L) (a := a) (b := b) (n := n) (L.take k) none
        rw [hR.out, List.length_take] at this
        omega
      obtain ⟨A4, c4, hform, _, _⟩ := own_its HO.out
      subst hform
      by_cases hlt : k < L.length
      · by_cases hm : (R.length : Int) < most
        · have qm : decide ((R.length : Int) < most) = true := decide_eq_true hm
          have HMR : Hid (R.length + 1 ≤ most.toNat) := by show _ ≤ _; omega
          have hki : (k : Int) < (L.length : Int) := by omega
          obtain ⟨b', off', x, yz, ym, yt, yn, rfl, e0, e1, e2, e3, e4, HY⟩ := (hK.later hw).at' hlt
          have HNX := Lib.hid (rsGo_next (F := L) (a := a) (b := b) (n := n) hlt HY.out)
          obtain ⟨cc, hcc⟩ : ∃ cc, Hid (rSkip a b (prevK L k) x = cc) := ⟨_, rfl⟩
          obtain ⟨v, hv⟩ : ∃ v, Hid (seenF L x n = v) := ⟨_, rfl⟩
          have HSee : Hid (∀ wz, Below wi.heap.size wi wz → Calls Tryd.prog 28 #[.pointer (some ⟨q, 0, none⟩), .string x, .int .u64 (n : Int)] wz (RSeenPost wz v)) := fun wz hz => by
            have := refSeen_any (HS.out.later (keepB hw hz)) x n (by omega)
            rw [hv.out] at this
            exact this
          clear hm
          go_upto_region 8 with fail
          go_cut [74] (fun s74 wx => s74 = .bool cc ∧ wi = wx)
          case first =>
            have hc9 := hcc.out
            by_cases hk0 : k = 0
            · subst hk0
              rw [show prevK L 0 = none from rfl, rSkip_zero, inRange_eq] at hc9
              replace hc9 := Lib.hid hc9
              go_wp2
              all_goals
                go_meet
                exact ⟨by rw [← hc9.out]; first | (simp [*]; done) | (cases hb9 : b.toList <;> simp_all), rfl⟩
            · obtain ⟨b2, off2, y, zz, zm, zt, zn, e9, g0, g1, g2, g3, g4, HZ⟩ := (hK.later hw).at' (k := k - 1) (by omega)
              injection e9 with e9
              injection e9 with e9 e8
              subst e9 e8
              rw [prevK, if_neg hk0, HZ.out, rSkip_some, inRange_eq] at hc9
              replace hc9 := Lib.hid hc9
              have hkp : (0 : Int) < (k : Int) := by omega
              have hkn : decide (0 < k) = true := by rw [decide_eq_true_iff]; omega
              have hw1 : IntKind.i64.wrap ((k : Int) - 1) = ((k - 1 : Nat) : Int) := by rw [IntWalk.i64_in _ (by omega)]; omega
              have hkm : ((k - 1 : Nat) : Int) < (L.length : Int) := by omega
              clear hk0
              go_wp2
              all_goals
                go_meet
                exact ⟨by rw [← hc9.out]; first | (simp [*]; done) | (cases hb9 : b.toList <;> simp_all), rfl⟩
          case rest =>
            obtain ⟨rfl, rfl⟩ := hcut
            cases cc
            · have hgo := rsOne_go (F := L) (n := n) (x := ⟨x, ⟨yz, ym, yt⟩, yn⟩) hcc.out hv.out
              by_cases hvk : v.val.kind = 0
              · have HF : Hid (rsGo L a b n none (L.take (k + 1)) = R) := by show _ = _; rw [HNX.out, hgo, if_pos hvk, hR.out, List.append_nil]
                have q9 : (v.val.kind != 0) = false := by simp [hvk]
                clear hgo hvk
                go_wp2_with (go_at_call 28; refine (HSee.out _ (Below.refl _ _)).mono ?_; rintro e w3 ⟨rfl, hb3⟩; obtain ⟨w4, ew4, hb4, hsz4, hrow4⟩ := new3 w3 (.int .i64 v.val.kind) (.int .u64 (v.val.bits : Int)) (.string v.val.text) 42; obtain ⟨y0, y1, y2, _⟩ := cells3 hrow4; have HO4 := Lib.hid (own_keep (own_keep HO.out hb3) hb4); have hw4 := keepB hw (keepB hb3 hb4); clear hrow4 hsz4)
                go_roundw
                case rel =>
                  refine ⟨k + 1, by omega, by go_num, ?_, ?_, hw4⟩
                  · rw [HF.out]; exact HO4
                  · rw [HF.out]; exact HM
                case measure => simp [intOf]; omega
              · have HF : Hid (rsGo L a b n none (L.take (k + 1)) = R ++ [⟨x, v.val, v.num⟩]) := by show _ = _; rw [HNX.out, hgo, if_neg hvk, hR.out]
                have q9 : (v.val.kind != 0) = true := by simpa using hvk
                clear hgo hvk
                go_wp2_with (first
                  | (go_at_call 28; refine (HSee.out _ (Below.refl _ _)).mono ?_; rintro e w3 ⟨rfl, hb3⟩; obtain ⟨w4, ew4, hb4, hsz4, hrow4⟩ := new3 w3 (.int .i64 v.val.kind) (.int .u64 (v.val.bits : Int)) (.string v.val.text) 42; obtain ⟨y0, y1, y2, _⟩ := cells3 hrow4; have HO4 := Lib.hid (own_keep (own_keep HO.out hb3) hb4); have hw4 := keepB hw (keepB hb3 hb4); clear hrow4 hsz4)
                  | (at_builtin; refine wpList_append_own_at _ rfl _ _ 30 rfl w.heap.size 102 i0 _ 5 56 Tryd.underlying30 hi hz0 hz1 hz2 rfl (by decide) (.slice A4 R.length c4) R.length (itCs R) rfl (own_keep HO4.out (below1 _ _)) ⟨w4.heap.size, 0, none⟩ 1 1 (itC ⟨x, v.val, v.num⟩) rfl rfl (World.news_of_block (heap_alloc_new w4 _)) (itC_one _) (le_maxLen (by omega)) (by omega) (Nat.le_trans hw4.size (below1 _ _).size) ?_; intro v5 w5 HO5 hg5 _ _; have hw5 := own_below (keepB hw4 (below1 w4 _)) (Nat.le_refl _) (own_keep HO4.out (below1 _ _)) hg5; replace HO5 := Lib.hid HO5; clear hg5))
                go_roundw
                case rel =>
                  refine ⟨k + 1, by omega, by go_num, ?_, ?_, hw5⟩
                  · rw [HF.out, itCs_append, List.length_append]; exact HO5
                  · rw [HF.out, List.length_append]; exact HMR
                case measure => simp [intOf]; omega
            · have HF : Hid (rsGo L a b n none (L.take (k + 1)) = R) := by show _ = _; rw [HNX.out, rsOne_skip hcc.out, hR.out, List.append_nil]
              go_wp2
              go_roundw
              case rel =>
                refine ⟨k + 1, by omega, by go_num, ?_, ?_, hw⟩
                · rw [HF.out]; exact HO
                · rw [HF.out]; exact HM
              case measure => simp [intOf]; omega
        · have qm : decide ((R.length : Int) < most) = false := decide_eq_false hm
          have hki : (k : Int) < (L.length : Int) := by omega
          have HF : Hid (rScanS L low a b n most = R) := by
            show _ = _
            rw [HV.out, rs_done (by rw [hR.out]; exact HM.out) (.inr (by rw [hR.out]; exact hm)), hR.out]
          clear hm
          go_wp2
          go_ret2
          refine ⟨_, by rw [HE.out]; rfl, ?_, hw⟩
          rw [HF.out]
          exact HO.out
      · have HF : Hid (rScanS L low a b n most = R) := by
          show _ = _
          rw [HV.out, rs_done (by rw [hR.out]; exact HM.out) (.inl (by omega)), hR.out]
        go_wp2
        go_ret2
        refine ⟨_, by rw [HE.out]; rfl, ?_, hw⟩
        rw [HF.out]
        exact HO.out
end Go.Proofs.YtboiafchmdflpaaDoor
