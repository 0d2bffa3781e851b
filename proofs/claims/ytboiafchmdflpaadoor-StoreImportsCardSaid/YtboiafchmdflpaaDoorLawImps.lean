/- StoreImports' walk. -/
import Derived.Test.YtboiafchmdflpaaDoorImp14
import Derived.Test.YtboiafchmdflpaaDoorRefImp14
import Derived.Test.YtboiafchmdflpaaDoorSame02
namespace Go.Proofs.YtboiafchmdflpaaDoor
open Go.RowKit Go.Maps Go.Sort Go.Shelf

set_option maxRecDepth 100000 in
set_option maxHeartbeats 8000000 in
theorem law_imports (b : List UInt8) (A : Option Addr) (ca : Nat) (w : World) (hA : BysAt w A b) (hle : b.length ≤ ca) (hmx : b.length ≤ 9223372036854775807) (hT : Tabs w) :
    Calls Tryd.prog 10 #[.slice A b.length ca] w fun e w' => e = .returned (.bool true) ∧ Below w.heap.size w w' := by
  by_cases hn : 20000 < b.length
  · have t1 : decide ((20000 : Int) < (b.length : Int)) = true := decide_eq_true (by omega)
    have t1n : decide (20000 < b.length) = true := decide_eq_true hn
    clear hn
    go_enter Tryd.func10, Tryd.ntmps10
    go_wp2_with (go_at_call 11; refine (awake14_any _).mono ?_; rintro e w0 ⟨rfl, hb0⟩; (first | replace hbb := keepB hbb hb0 | have hbb := hb0); clear hb0)
    go_ret
    exact ⟨rfl, hbb⟩
  have t1 : decide ((20000 : Int) < (b.length : Int)) = false := decide_eq_false (by omega)
  have t1n : decide (20000 < b.length) = false := decide_eq_false hn
  have HI := Lib.hid (fun wz (hz : Below w.heap.size w wz) => imp14_any b A ca wz (BysAt.later hA hz) hle (by omega) (hT.later hz))
  have HR := Lib.hid (fun wz (hz : Below w.heap.size w wz) => refImp_any b A ca wz (BysAt.later hA hz) hle (by omega))
  have HT := Lib.hid hT
  have hb20 : b.length ≤ 71000 := by omega
  clear hn hT
  cases hS : impS b with
  | none =>
    have HS := Lib.hid hS
    clear hS
    go_enter Tryd.func10, Tryd.ntmps10
    go_wp2_with (first
      | (go_at_call 11; refine (awake14_any _).mono ?_; rintro e w0 ⟨rfl, hb0⟩)
      | (go_at_call 33; refine (HI.out _ hb0).mono ?_; rintro e w1 hq; rw [ImpPost, HS.out] at hq; obtain ⟨rfl, hb⟩ := hq; have hb1 := keepB hb0 hb)
      | (go_at_call 34; refine (HR.out _ hb1).mono ?_; rintro e w2 hq; rw [RImpPost, HS.out] at hq; obtain ⟨rfl, hb'⟩ := hq; have hb2 := keepB hb1 hb'))
    go_ret
    exact ⟨rfl, hb2⟩
  | some S =>
    obtain ⟨hok, hgd, hee⟩ := impS_ok hS
    have hI8 := impS_le hS hb20
    have hml : (expS S).length ≤ 700000 := by
      have := expTo_len hok S.ks.length
      rw [expTo_all] at this
      omega
    obtain ⟨m, hm⟩ : ∃ m, Hid (expS S = m) := ⟨_, rfl⟩
    have HE : Hid (∀ wz p N O B, StoreAt wz B p N O S → Tabs wz → Calls Tryd.prog 32 #[.pointer (some ⟨p, 0, none⟩)] wz (OwnBys wz m)) := fun wz p N O B h ht => by
      rw [← hm.out]
      exact exp14_any h hok hI8 ht
    have HX : Hid (∀ wz q O B, RefAt wz B q O (items S.ks) S.last S.low → Calls Tryd.prog 36 #[.pointer (some ⟨q, 0, none⟩)] wz (OwnBys wz m)) := fun wz q O B h => by
      rw [← hm.out]
      exact refExp_any h hok hgd hI8
    rw [hm.out] at hml
    have HS := Lib.hid hS
    clear hS hee hm
    go_enter Tryd.func10, Tryd.ntmps10
    go_wp2_with (first
      | (go_at_call 11; refine (awake14_any _).mono ?_; rintro e w0 ⟨rfl, hb0⟩)
      | (go_at_call 33; refine (HI.out _ hb0).mono ?_; rintro e w1 hq; rw [ImpPost, HS.out] at hq; obtain ⟨p, N, O, rfl, _, hSt, hb⟩ := hq; have hb1 := keepB hb0 hb)
      | (go_at_call 34; refine (HR.out _ hb1).mono ?_; rintro e w2 hq; rw [RImpPost, HS.out] at hq; obtain ⟨q, O2, rfl, hRf, hb'⟩ := hq; have hb2 := keepB hb1 hb'; have hSt2 := hSt.later hb')
      | (go_at_call 32; refine (HE.out _ _ _ _ _ hSt2 (HT.out.later hb2)).mono ?_; rintro e w3 hq; obtain ⟨A3, c3, rfl, hB3, hb3⟩ := hq.at_)
      | (go_at_call 36; refine (HX.out _ _ _ _ (hRf.later hb3)).mono ?_; rintro e w4 hq; obtain ⟨A4, c4, rfl, hB4, hb4⟩ := hq.at_)
      | (go_at_call 35; refine (refSame02_any m m A3 A4 c3 c4 _ (BysAt.later hB3 hb4) hB4 (by omega)).mono ?_; rintro e w5 ⟨rfl, hb5⟩))
    go_ret
    exact ⟨by simp, keepB hb2 (keepB hb3 (keepB hb4 hb5))⟩
end Go.Proofs.YtboiafchmdflpaaDoor
