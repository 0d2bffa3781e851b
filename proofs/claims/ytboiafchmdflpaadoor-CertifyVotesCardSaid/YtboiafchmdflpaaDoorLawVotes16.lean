/- CertifyVotes's walk. -/
import Derived.Test.YtboiafchmdflpaaDoorBoth16
namespace Go.Proofs.YtboiafchmdflpaaDoor
open Go.RowKit Go.Maps Go.Shelf Go.Sort

structure ReadsOK (l : List Rd) : Prop where
  k : ∀ i, i < l.length → (l.getD i noRd).key.size ≤ 9223372036854775807
  n : l.length ≤ 9223372036854775807
set_option maxRecDepth 100000 in
set_option maxHeartbeats 4000000 in
theorem law_votes (ls : List (Sl Wr)) (l : List Rd) (A K : Option Addr) (ca ck : Nat) (w : World) (hA : SlsAt w A ls) (hW : ∀ i, i < ls.length → WrSlOK w (ls.getD i noSl)) (hK : RdsAt w K l) (hok : ReadsOK l) (hT : Tabs w) :
    Calls Tryd.prog 6 #[.slice A ls.length ca, .slice K l.length ck] w fun e w' => e = .returned (.bool true) ∧ Below w.heap.size w w' := by
  have hn := hok.n
  cases hb : bothOK ls
  · have HB := Lib.hid (both_no ls A ca hA hW hT hb)
    clear hb
    go_enter Tryd.func6, Tryd.ntmps6
    go_wp2_with (first
      | (go_at_call 22; refine HB.out.mono ?_; rintro e w1 ⟨rfl, hb1⟩)
      | (go_at_call 23; refine (awake16_any _).mono ?_; rintro e w2 ⟨rfl, hb2⟩; replace hb1 := keepB hb1 hb2; clear hb2))
    go_ret
    exact ⟨rfl, hb1⟩
  · have HB := Lib.hid (both_ok ls A ca hA hW hT hb)
    have hb' := hb
    simp only [bothOK, Bool.and_eq_true, decide_eq_true_eq] at hb'
    have hfew : ∀ k, k < ls.length → fewW (ls.getD k noSl).l = true := fun k hk => by
      rw [List.getD_eq_getElem?_getD, List.getElem?_eq_getElem hk]; exact List.all_eq_true.1 hb'.2 _ (List.getElem_mem hk)
    have hit := bothTo_items hfew ls.length (Nat.le_refl _)
    have hn20 := hb'.1
    obtain ⟨s, hs⟩ : ∃ s, Hid (bothTo ls ls.length = s) := ⟨_, rfl⟩
    have hsok := bothTo_ok ls ls.length
    rw [hs.out] at hit hsok
    clear hb hb' hfew
    by_cases h12 : l.length ≤ 12
    · have q12 : ¬ (12 < (l.length : Int)) := by omega
      go_enter Tryd.func6, Tryd.ntmps6
      go_wp2_with (first
        | (go_at_call 22; refine HB.out.mono ?_; rintro e w1 ⟨p, q, rfl, hP, hb1⟩; rw [hs.out] at hP; replace hP := Lib.hid hP)
        | (go_at_call 23; refine (awake16_any _).mono ?_; rintro e w2 ⟨rfl, hb2⟩; replace hP := Lib.hid (hP.out.later hb2); replace hb1 := keepB hb1 hb2; clear hb2))
      go_loop [8] (fun i => ∃ k : Nat, k ≤ l.length ∧ i = .int .i64 k ∧ Hid ((l.take k).all (fun x => decide (x.key.size ≤ 1000)) = true)) (fun i => l.length - (intOf i).toNat)
      case atStart => exact ⟨0, Nat.zero_le _, rfl, rfl⟩
      case round =>
        obtain ⟨k, hk, rfl, HA⟩ := hrel
        by_cases hlt : k < l.length
        · obtain ⟨b, off, x, n, rfl, d0, d1, HX⟩ := (hK.later hb1).at' hlt
          have hx := hok.k k hlt
          rw [HX.out] at hx
          simp only at hx
          by_cases hx1 : 1000 < x.size
          · go_wp2
            go_ret
            exact ⟨rfl, hb1⟩
          · have HR : Hid ((l.take (k + 1)).all (fun x => decide (x.key.size ≤ 1000)) = true) := all_next hlt HX.out (by simp; omega) HA.out
            go_wp2
            go_round
            case rel => exact ⟨k + 1, by omega, by go_num, HR⟩
            case measure => simp [intOf]; omega
        · have hro : RdsOK l := ⟨fun i hi => by
            have := HA.out
            rw [show l.take k = l from List.take_of_length_le (by omega)] at this
            have h2 := List.all_eq_true.1 this _ (List.getElem_mem hi)
            rw [List.getD_eq_getElem?_getD, List.getElem?_eq_getElem hi]
            simp only [decide_eq_true_eq, Option.getD_some] at h2 ⊢
            unfold maxLen; omega, by omega⟩
          have hKr := hK.later hb1
          obtain ⟨O, O2, M, hM, hS, hR, hd⟩ := hP.out
          have hV := Lib.hid (vote_any hS hsok (by omega) l K ck hKr hro)
          have hV2 : Hid (∀ w3, Below w2.heap.size w2 w3 → Calls Tryd.prog 25 #[.pointer (some ⟨q, 0, none⟩), .slice K l.length ck] w3 fun e w' => e = .returned (.bool (voteB s l)) ∧ Below w3.heap.size w3 w') := fun w3 hb3 => by
            have := refVote_any (hR.later hb3) (by omega) l K ck (hKr.later hb3) hro
            rwa [refVote_eq hsok] at this
          obtain ⟨v, hv⟩ : ∃ v, Hid (voteB s l = v) := ⟨_, rfl⟩
          rw [hv.out] at hV hV2
          have hV3 : Hid (0 < l.length → ∀ w3, Below w2.heap.size w2 w3 → Calls Tryd.prog 24 #[.pointer none, .slice K l.length ck] w3 fun e w' => e = .returned (.bool false) ∧ Below w3.heap.size w3 w') := fun hl w3 hb3 => voteNil l K ck (hKr.later hb3) hl hro
          clear HA hS hR hd hro
          by_cases hl0 : l.length = 0
          · have q0 : ((l.length : Int) == 0) = true := by rw [beq_iff_eq]; omega
            clear hl0
            go_wp2_with (first
              | (go_at_call 24; refine hV.out.mono ?_; rintro e w4 ⟨rfl, hb4⟩)
              | (go_at_call 25; refine (hV2.out _ hb4).mono ?_; rintro e w5 ⟨rfl, hb5⟩; replace hb4 := keepB hb4 hb5))
            go_ret
            exact ⟨rfl, keepB hb1 hb4⟩
          · have q0 : ((l.length : Int) == 0) = false := by rw [beq_eq_false_iff_ne]; omega
            have hlp : Hid (0 < l.length) := Nat.pos_of_ne_zero hl0
            clear hl0
            go_wp2_with (first
              | (go_at_call 24; (with_reducible refine hV.out.mono ?_); rintro e w4 ⟨rfl, hb4⟩)
              | (go_at_call 25; refine (hV2.out _ hb4).mono ?_; rintro e w5 ⟨rfl, hb5⟩; replace hb4 := keepB hb4 hb5)
              | (go_at_call 24; refine (hV3.out hlp.out _ hb4).mono ?_; rintro e w6 ⟨rfl, hb6⟩; replace hb4 := keepB hb4 hb6))
            go_ret
            exact ⟨rfl, keepB hb1 hb4⟩
    · have q12 : 12 < (l.length : Int) := by omega
      go_enter Tryd.func6, Tryd.ntmps6
      go_wp2_with (first
        | (go_at_call 22; refine HB.out.mono ?_; rintro e w1 ⟨p, q, rfl, hP, hb1⟩)
        | (go_at_call 23; refine (awake16_any _).mono ?_; rintro e w2 ⟨rfl, hb2⟩; replace hb1 := keepB hb1 hb2; clear hb2))
      go_ret
      exact ⟨rfl, hb1⟩
end Go.Proofs.YtboiafchmdflpaaDoor
