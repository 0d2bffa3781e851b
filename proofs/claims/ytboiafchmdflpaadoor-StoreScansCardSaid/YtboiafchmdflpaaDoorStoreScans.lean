/- parishlaw14.StoreScans returns true for every script, every two texts and every number, and leaves all memory that was there as it was; the listed tables of unicode/utf8 read as they do at the program's start (tied); no other condition. -/
import Derived.Test.YtboiafchmdflpaaDoorLawScans
import Derived.Test.YtboiafchmdflpaaDoorOpenS14
import Derived.Test.YtboiafchmdflpaaDoorCards
import Derived.Test.YtboiafchmdflpaaDoorTie
import Derived.Lay
import Derived.SevenTiedAt
import Derived.Stop.Joined
namespace Go.Proofs.YtboiafchmdflpaaDoor.lawStoreScans
open Go.ChangeShapes Go.WideShapes Go.ChangeAt Go.RowKit

theorem own : ownKnob Tryd.prog.godebug = none := by kernel_rfl
theorem laidOut : laidOutB Tryd.prog = true := by kernel_rfl

set_option maxRecDepth 100000 in
theorem lifted (os : Os) (started : os.Started) (H : Type) (enc : TypeId × Value → H) :
    ReturnsInHanded {} Tryd.checked os 5 .any (fun w args => (Rows.storeScansSpec.pre enc Tryd.prog Tryd.f5 [] false w args ∧ laidMetH Tryd.prog Rows.storeScansRow.laid w) ∧ sizedMet enc Tryd.prog Tryd.f5 (OpenSpec.ofChange Rows.storeScansSpec) false w args)
      (Rows.storeScansSpec.post enc Tryd.prog Tryd.f5 false true false false) := by
  refine returnsInHanded_of_change_and (C := Tryd.checked) (X := fun w _ => laidMetH Tryd.prog Rows.storeScansRow.laid w) (fun _ _ _ hh h => h.of_heap hh) own started (by kernel_rfl) Tryd.func5
    (ChangeSpec.witness_shaped (enc := enc) (C := Tryd.checked) (os := os) (X := fun w _ => laidMetH Tryd.prog Rows.storeScansRow.laid w) false (World.laidAll Tryd.prog os Rows.storeScansRow.laid) #[.slice none 0 0, .agg #[.string ⟨#[]⟩, .string ⟨#[]⟩], .int .u64 0] 8 (World.laidAll_os _ _ _)
      (World.shaped_of_ZipB (by kernel_rfl) (by kernel_rfl)) (by kernel_rfl) (by kernel_rfl) (by kernel_rfl)
      (by rw [MakeChecks.laidMetH_plain _ _ _ (by kernel_rfl)]; exact laidMet_laidAll _ (by kernel_rfl) (by kernel_rfl))) ?_
  intro W base args ds gs before hval0 hW _ _ HLAID _
  have hval : ∀ (j : Nat) t v, Tryd.f5.params[j]? = some t → args[j]? = some v → Value.okWide Tryd.prog W .any base t v := hval0
  have hW' := hW
  obtain ⟨p, q, hA0, hV, rfl, hfz, hnd⟩ := hW
  have hA : DataW.TrodAll enc Tryd.prog W 0 (fun _ => true) true Tryd.f5.params.toList args.toList ds p := hA0
  rw [Tryd.params5] at hA hval
  obtain ⟨v0, v1, v2, d0, d1, d2, p0, p1, p2, rfl, rfl, rfl, h0, h1, h2⟩ := trodAll_three hA
  obtain ⟨S, l, LA, LC, ca, rfl, hs1, hs2, hs3⟩ := open_ops (hval 0 22 v0 rfl rfl) h0
  obtain ⟨a, b, rfl, ha, hb⟩ := open_ps (hval 1 52 v1 rfl rfl) h1
  obtain ⟨z2, rfl, _, _, wz2⟩ := open_int Tryd.underlying23 (hval 2 23 v2 rfl rfl) h2
  obtain ⟨hz2, _⟩ := bounds_u64 wz2
  obtain ⟨n, rfl⟩ := Int.eq_ofNat_of_zero_le hz2
  refine (law_scans l S LA LC ca a b n W hs1 hs2 hs3 ha hb (tabs_of (by kernel_rfl) HLAID (.tail _ (.head _)) (.head _))).mono fun en W' ⟨he, hb⟩ => ?_
  subst he
  exact post_law laidOut (by kernel_rfl) rfl Tryd.underlying4 rfl rfl rfl rfl hW' hb

theorem holds : Rows.StoreScansSaid :=
  OpenClaim.holds_of_wide 5 Tryd.f5 rfl rfl rfl rfl rfl rfl rfl ⟨rfl, rfl, rfl, rfl, rfl⟩ rfl rfl rfl rfl rfl (by kernel_rfl) Tryd.func5 (by kernel_rfl)
    (of_decide_eq_true (by kernel_rfl)) (by unfold Func.isWrapper; rw [if_neg (of_decide_eq_false (by kernel_rfl))]; exact ⟨rfl, rfl⟩)
    (fun os started H enc _ => lifted os started H enc)

theorem card_holds : Rows.StoreScansCardSaid :=
  Claim7.holds_tied_plain_at .later [] [.data, .pinned] true Rows.storeScansCard.stood.harness false holds (fun _ h => by cases h) (by kernel_rfl) (fun _ h => by cases h) storeScans_row_tie rfl ⟨rfl, rfl⟩ (by kernel_rfl) rfl
    (fun f fn hf hfn => by
      obtain rfl : f = 5 := Option.some.inj ((show Tryd.prog.funcNamed Rows.storeScansRow.func = some 5 by kernel_rfl).symm.trans hf) |>.symm
      obtain rfl : fn = Tryd.f5 := (Option.some.inj (Tryd.func5.symm.trans hfn)).symm
      exact ⟨by kernel_rfl, fun j t ht => by
        have hall : (Tryd.f5.params.toList.all fun u => !Tryd.prog.wantsStandIn u) = true := by kernel_rfl
        exact (show Tryd.prog.wantsStandIn t = false by simpa using List.all_eq_true.1 hall t (by simpa using Array.mem_of_getElem? ht))⟩)
    (by kernel_rfl)
#print axioms card_holds
end Go.Proofs.YtboiafchmdflpaaDoor.lawStoreScans
