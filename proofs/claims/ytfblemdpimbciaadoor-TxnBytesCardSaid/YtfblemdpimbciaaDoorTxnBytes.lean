/- parishlaw08.TxnBytes returns true for every transaction and every row of bytes, and leaves all memory that was there as it was; the listed tables of unicode/utf8 read as they do at the program's start (tied); no other condition. -/
import Derived.Test.YtfblemdpimbciaaDoorLawTBytes
import Derived.Test.YtfblemdpimbciaaDoorOpenT08
import Derived.Test.YtfblemdpimbciaaDoorCards
import Derived.Test.YtfblemdpimbciaaDoorTie
import Derived.Lay
import Derived.SevenTiedAt
import Derived.Stop.Joined
namespace Go.Proofs.YtfblemdpimbciaaDoor.lawTxnBytes
open Go.ChangeShapes Go.WideShapes Go.ChangeAt Go.RowKit

theorem own : ownKnob Tryd.prog.godebug = none := by kernel_rfl
theorem laidOut : laidOutB Tryd.prog = true := by kernel_rfl

set_option maxRecDepth 100000 in
theorem lifted (os : Os) (started : os.Started) (H : Type) (enc : TypeId × Value → H) :
    ReturnsInHanded {} Tryd.checked os 4 .any (fun w args => (Rows.txnBytesSpec.pre enc Tryd.prog Tryd.f4 [] false w args ∧ laidMetH Tryd.prog Rows.txnBytesRow.laid w) ∧ sizedMet enc Tryd.prog Tryd.f4 (OpenSpec.ofChange Rows.txnBytesSpec) false w args)
      (Rows.txnBytesSpec.post enc Tryd.prog Tryd.f4 false true false false) := by
  refine returnsInHanded_of_change_and (C := Tryd.checked) (X := fun w _ => laidMetH Tryd.prog Rows.txnBytesRow.laid w) (fun _ _ _ hh h => h.of_heap hh) own started (by kernel_rfl) Tryd.func4
    (ChangeSpec.witness_shaped (enc := enc) (C := Tryd.checked) (os := os) (X := fun w _ => laidMetH Tryd.prog Rows.txnBytesRow.laid w) false (World.laidAll Tryd.prog os Rows.txnBytesRow.laid) #[.agg #[.int .i64 0, .int .i64 0, .slice none 0 0, .slice none 0 0], .slice none 0 0] 8 (World.laidAll_os _ _ _)
      (World.shaped_of_ZipB (by kernel_rfl) (by kernel_rfl)) (by kernel_rfl) (by kernel_rfl) (by kernel_rfl)
      (by rw [MakeChecks.laidMetH_plain _ _ _ (by kernel_rfl)]; exact laidMet_laidAll _ (by kernel_rfl) (by kernel_rfl))) ?_
  intro W base args ds gs before hval0 hW _ _ HLAID _
  have hval : ∀ (j : Nat) t v, Tryd.f4.params[j]? = some t → args[j]? = some v → Value.okWide Tryd.prog W .any base t v := hval0
  have hW' := hW
  obtain ⟨p, q, hA0, hV, rfl, hfz, hnd⟩ := hW
  have hA : DataW.TrodAll enc Tryd.prog W 0 (fun _ => true) true Tryd.f4.params.toList args.toList ds p := hA0
  rw [Tryd.params4] at hA hval
  obtain ⟨v0, v1, d0, d1, p0, p1, rfl, rfl, rfl, h0, h1⟩ := trodAll_two hA
  obtain ⟨t, A, B, ca, cb, rfl, hx1, hx2, hx3, hx4⟩ := open_txn (hval 0 27 v0 rfl rfl) h0
  obtain ⟨K, b, ck, rfl, hb1, hb2, hb3⟩ := open_bytes (hval 1 31 v1 rfl rfl) h1
  refine (law_tbytes t A B ca cb b K ck W hx1 hb1 hb2 hb3 (tabs_of (by kernel_rfl) HLAID (.tail _ (.head _)) (.head _))).mono fun en W' ⟨he, hb⟩ => ?_
  subst he
  exact post_law laidOut (by kernel_rfl) rfl Tryd.underlying4 rfl rfl rfl rfl hW' hb

theorem holds : Rows.TxnBytesSaid :=
  OpenClaim.holds_of_wide 4 Tryd.f4 rfl rfl rfl rfl rfl rfl rfl ⟨rfl, rfl, rfl, rfl, rfl⟩ rfl rfl rfl rfl rfl (by kernel_rfl) Tryd.func4 (by kernel_rfl)
    (of_decide_eq_true (by kernel_rfl)) (by unfold Func.isWrapper; rw [if_neg (of_decide_eq_false (by kernel_rfl))]; exact ⟨rfl, rfl⟩)
    (fun os started H enc _ => lifted os started H enc)

theorem card_holds : Rows.TxnBytesCardSaid :=
  Claim7.holds_tied_plain_at .later [] [.data, .pinned] true Rows.txnBytesCard.stood.harness false holds (fun _ h => by cases h) (by kernel_rfl) (fun _ h => by cases h) txnBytes_row_tie rfl ⟨rfl, rfl⟩ (by kernel_rfl) rfl
    (fun f fn hf hfn => by
      obtain rfl : f = 4 := Option.some.inj ((show Tryd.prog.funcNamed Rows.txnBytesRow.func = some 4 by kernel_rfl).symm.trans hf) |>.symm
      obtain rfl : fn = Tryd.f4 := (Option.some.inj (Tryd.func4.symm.trans hfn)).symm
      exact ⟨by kernel_rfl, fun j t ht => by
        have hall : (Tryd.f4.params.toList.all fun u => !Tryd.prog.wantsStandIn u) = true := by kernel_rfl
        exact (show Tryd.prog.wantsStandIn t = false by simpa using List.all_eq_true.1 hall t (by simpa using Array.mem_of_getElem? ht))⟩)
    (by kernel_rfl)
#print axioms card_holds
end Go.Proofs.YtfblemdpimbciaaDoor.lawTxnBytes
