/- Layer 8's rises, Id and Less; whether a write's value is formed. -/
import Derived.Test.YtjgloipgnnigmaaGreatDoorKeys08
namespace Go.Proofs.YtjgloipgnnigmaaGreatDoor
open Go.RowKit Go.Shelf

set_option maxHeartbeats 1000000 in
theorem rises_any (l : List ByteArray) (K : Option Addr) (ck : Nat) (w : World) (hK : StrsAt w K l) (hn : l.length ≤ 9223372036854775807) (hs : ∀ k, k < l.length → (l.getD k noStr).size ≤ 9223372036854775807) :
    Calls Tryz.prog 143 #[.slice K l.length ck] w fun e w' => e = .returned (.bool (risesTo l l.length)) ∧ Below w.heap.size w w' := by
  go_enter Tryz.func143, Tryz.ntmps143
  go_wp2_with fail

  go_loopw [7] (fun i wr => ∃ k : Nat, k ≤ l.length ∧ i = .int .i64 k ∧ Hid (risesTo l k = true) ∧ Below w.heap.size w wr) (fun i _ => l.length - (intOf i).toNat)
  case atStart => exact ⟨0, Nat.zero_le _, rfl, rfl, Below.refl _ _⟩
  case round =>
    obtain ⟨k, hk, rfl, HA, hw⟩ := hrel
    have hKr := CellsAt.later hK hw
    by_cases hlt : k < l.length
    · obtain ⟨b, off, x, rfl, hc, HX⟩ := StrsAt.at' hKr hlt
      have hsx : x.size ≤ maxLen := by have := hs k hlt; rw [HX.out] at this; exact this
      cases hkey : keyB x
      · have HF : Hid (risesTo l l.length = false) := risesTo_false hlt (by simp only [riseAt, HX.out, hkey, Bool.false_and])
        go_wp2_with (go_at_call 36; refine (key_any _ _ hsx).mono ?_; rintro e w2 ⟨rfl, hb⟩; replace hw := keepB hw hb)
        go_ret
        exact ⟨ret_bool HF.out, hw⟩
      · by_cases hk0 : k = 0
        · have HR : Hid (risesTo l (k + 1) = true) := risesTo_next0 HA.out HX.out hkey hk0
          have hg : decide (0 < k) = false := by rw [decide_eq_false_iff_not]; omega
          clear hk0
          go_wp2_with (go_at_call 36; refine (key_any _ _ hsx).mono ?_; rintro e w2 ⟨rfl, hb⟩; replace hw := keepB hw hb)
          go_roundw
          case rel => exact ⟨k + 1, by omega, by go_num, HR, hw⟩
          case measure => simp [intOf]; omega
        · obtain ⟨b', off', y, e, hc', HY⟩ := StrsAt.at' hKr (k := k - 1) (by omega)
          injection e with e
          injection e with e1 e2
          subst e1 e2
          have hg : decide (0 < k) = true := by rw [decide_eq_true_iff]; omega
          have hi : ((k : Int) - 1).toNat = k - 1 := by omega
          have hk1 : 1 ≤ k := by omega
          cases hl : lessS y x
          · have HF : Hid (risesTo l l.length = false) := risesTo_false hlt (by simp only [riseAt, HX.out, HY.out, hkey, hl, beq_eq_false_iff_ne.2 hk0, Bool.false_or, Bool.and_false])
            have hl' : Op.bytesLess y.toList x.toList = false := hl
            clear hl hk0
            go_wp2_with (go_at_call 36; refine (key_any _ _ hsx).mono ?_; rintro e w2 ⟨rfl, hb⟩; replace hc' := keep hb hc'; replace hw := keepB hw hb)
            go_ret
            exact ⟨ret_bool HF.out, hw⟩
          · have HR : Hid (risesTo l (k + 1) = true) := risesTo_next HA.out HX.out HY.out hkey hl
            have hl' : Op.bytesLess y.toList x.toList = true := hl
            clear hl hk0
            go_wp2_with (go_at_call 36; refine (key_any _ _ hsx).mono ?_; rintro e w2 ⟨rfl, hb⟩; replace hc' := keep hb hc'; replace hw := keepB hw hb)
            go_roundw
            case rel => exact ⟨k + 1, by omega, by go_num, HR, hw⟩
            case measure => simp [intOf]; omega
    · have ek : k = l.length := by omega
      have HF : Hid (risesTo l l.length = true) := by show _ = _; rw [← ek]; exact HA.out
      go_wp2
      go_ret
      exact ⟨ret_bool HF.out, hw⟩

def idB (s q : Int) : Bool := decide (1 ≤ s) && decide (s ≤ 8) && decide (1 ≤ q) && decide (q ≤ 1048576)
def idLess (s q s' q' : Int) : Bool := decide (s < s') || (decide (s = s') && decide (q < q'))
theorem id_any (s q : Int) (w : World) : Calls Tryz.prog 98 #[.agg #[.int .i64 s, .int .i64 q]] w fun e w' => e = .returned (.bool (idB s q)) ∧ Below w.heap.size w w' := by
  obtain ⟨W, eW, HB, c0, c1⟩ := box2 w (.int .i64 s) (.int .i64 q) 33
  have HI : Hid (idB s q = (decide (1 ≤ s) && decide (s ≤ 8) && decide (1 ≤ q) && decide (q ≤ 1048576))) := rfl
  go_enter Tryz.func98, Tryz.ntmps98
  go_wp2
  all_goals go_ret
  all_goals refine ⟨ret_bool ?_, HB⟩
  all_goals rw [HI.out]
  all_goals simp [*] <;> omega
theorem refId_any (s q : Int) (w : World) : Calls Tryz.prog 71 #[.agg #[.int .i64 s, .int .i64 q]] w fun e w' => e = .returned (.bool (idB s q)) ∧ Below w.heap.size w w' := by
  obtain ⟨W, eW, HB, c0, c1⟩ := box2 w (.int .i64 s) (.int .i64 q) 33
  have HI : Hid (idB s q = (decide (1 ≤ s) && decide (s ≤ 8) && decide (1 ≤ q) && decide (q ≤ 1048576))) := rfl
  go_enter Tryz.func71, Tryz.ntmps71
  go_wp2
  all_goals go_ret
  all_goals refine ⟨ret_bool ?_, HB⟩
  all_goals rw [HI.out]
  all_goals simp [*] <;> omega
end Go.Proofs.YtjgloipgnnigmaaGreatDoor
