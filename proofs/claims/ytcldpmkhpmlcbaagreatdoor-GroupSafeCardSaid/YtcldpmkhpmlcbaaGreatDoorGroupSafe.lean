/- parishlaw17.GroupSafe returns true for every configuration, every group and every two lists of commands, and leaves all memory that was there as it was; the listed tables of unicode/utf8 read as they do at the program's start (tied); no other condition. -/
import Derived.Test.YtcldpmkhpmlcbaaGreatDoorLawGSf17
import Derived.Test.YtcldpmkhpmlcbaaGreatDoorCards
import Derived.Test.YtcldpmkhpmlcbaaGreatDoorTie
import Derived.Lay
import Derived.SevenTiedAt
import Derived.Stop.Joined
set_option linter.unusedVariables false
set_option linter.unusedSimpArgs false
namespace Go.Proofs.YtcldpmkhpmlcbaaGreatDoor.lawGroupSafe
open Go.ChangeShapes Go.WideShapes Go.ChangeAt Go.RowKit

theorem own : ownKnob Tryz.prog.godebug = none := by kernel_rfl
theorem laidOut : laidOutB Tryz.prog = true := by kernel_rfl

set_option maxRecDepth 100000 in
theorem lifted (os : Os) (started : os.Started) (H : Type) (enc : TypeId × Value → H) :
    ReturnsInHanded {} Tryz.checked os 6 .any (fun w args => (Rows.groupSafeSpec.pre enc Tryz.prog Tryz.f6 [] false w args ∧ laidMetH Tryz.prog Rows.groupSafeRow.laid w) ∧ sizedMet enc Tryz.prog Tryz.f6 (OpenSpec.ofChange Rows.groupSafeSpec) false w args)
      (Rows.groupSafeSpec.post enc Tryz.prog Tryz.f6 false true false false) := by
  refine returnsInHanded_of_change_and (C := Tryz.checked) (X := fun w _ => laidMetH Tryz.prog Rows.groupSafeRow.laid w) (fun _ _ _ hh h => h.of_heap hh) own started (by kernel_rfl) Tryz.func6
    (ChangeSpec.witness_shaped (enc := enc) (C := Tryz.checked) (os := os) (X := fun w _ => laidMetH Tryz.prog Rows.groupSafeRow.laid w) false (World.laidAll Tryz.prog os Rows.groupSafeRow.laid) #[.agg #[.slice none 0 0, .slice none 0 0], .int .i64 0, .agg #[.slice none 0 0, .slice none 0 0]] 8 (World.laidAll_os _ _ _)
      (World.shaped_of_ZipB (by kernel_rfl) (by kernel_rfl)) (by kernel_rfl) (by kernel_rfl) (by kernel_rfl)
      (by rw [MakeChecks.laidMetH_plain _ _ _ (by kernel_rfl)]; exact laidMet_laidAll _ (by kernel_rfl) (by kernel_rfl))) ?_
  intro W base args ds gs before hval0 hW _ _ HLAID _
  have hval : ∀ (j : Nat) t v, Tryz.f6.params[j]? = some t → args[j]? = some v → Value.okWide Tryz.prog W .any base t v := hval0
  have hW' := hW
  obtain ⟨p, q, hA0, hV, rfl, hfz, hnd⟩ := hW
  have hA : DataW.TrodAll enc Tryz.prog W 0 (fun _ => true) true Tryz.f6.params.toList args.toList ds p := hA0
  rw [Tryz.params6] at hA hval
  obtain ⟨v0, v1, v2, d0, d1, d2, p0, p1, p2, rfl, rfl, rfl, h0, h1, h2⟩ := trodAll_three hA
  obtain ⟨c, A, B, ca, cb, rfl, hc, hca, hcb⟩ := open_cfg (hval 0 25 v0 rfl rfl) h0
  obtain ⟨g, rfl, _, _, hg⟩ := open_int Tryz.underlying3 (hval 1 3 v1 rfl rfl) h1
  obtain ⟨S, l, cs, S2, l2, cs2, rfl, hl, hl2, hn, hn2⟩ := open_two (hval 2 62 v2 rfl rfl) h2
  refine (law_gsafe c l l2 A B S S2 ca cb cs cs2 g W hc hl hl2 hn hn2 (tabs_of (by kernel_rfl) HLAID (.tail _ (.head _)) (.head _))).mono fun en W' ⟨he, hb⟩ => ?_
  subst he
  exact post_law laidOut (by kernel_rfl) rfl Tryz.underlying4 rfl rfl rfl rfl hW' hb

theorem holds : Rows.GroupSafeSaid :=
  OpenClaim.holds_of_wide 6 Tryz.f6 rfl rfl rfl rfl rfl rfl rfl ⟨rfl, rfl, rfl, rfl, rfl⟩ rfl rfl rfl rfl rfl (by kernel_rfl) Tryz.func6 (by kernel_rfl)
    (of_decide_eq_true (by kernel_rfl)) (by unfold Func.isWrapper; rw [if_neg (of_decide_eq_false (by kernel_rfl))]; exact ⟨rfl, rfl⟩)
    (fun os started H enc _ => lifted os started H enc)

theorem card_holds : Rows.GroupSafeCardSaid :=
  Claim7.holds_tied_plain_at .later [] [.data, .pinned] true Rows.groupSafeCard.stood.harness false holds (fun _ h => by cases h) (by kernel_rfl) (fun _ h => by cases h) groupSafe_row_tie rfl ⟨rfl, rfl⟩ (by kernel_rfl) rfl
    (fun f fn hf hfn => by
      obtain rfl : f = 6 := Option.some.inj ((show Tryz.prog.funcNamed Rows.groupSafeRow.func = some 6 by kernel_rfl).symm.trans hf) |>.symm
      obtain rfl : fn = Tryz.f6 := (Option.some.inj (Tryz.func6.symm.trans hfn)).symm
      exact ⟨by kernel_rfl, fun j t ht => by
        have hall : (Tryz.f6.params.toList.all fun u => !Tryz.prog.wantsStandIn u) = true := by kernel_rfl
        exact (show Tryz.prog.wantsStandIn t = false by simpa using List.all_eq_true.1 hall t (by simpa using Array.mem_of_getElem? ht))⟩)
    (by kernel_rfl)
#print axioms card_holds
end Go.Proofs.YtcldpmkhpmlcbaaGreatDoor.lawGroupSafe
