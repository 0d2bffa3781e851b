/- parishlaw16.CertifyOrder returns true for every list of votes and every order, and leaves all memory that was there as it was; no condition. -/
import Derived.Test.YtboiafchmdflpaaOpen16
import Derived.Test.YtboiafchmdflpaaRows
import Derived.Lib.SmallJoins
namespace Go.Proofs.Ytboiafchmdflpaa.lawCertifyOrder
open Go.ChangeShapes Go.WideShapes Go.ChangeAt Go.RowKit Go.Joins

theorem own : ownKnob Try.prog.godebug = none := by kernel_rfl
theorem laidOut : laidOutB Try.prog = true := by kernel_rfl

set_option maxRecDepth 100000 in
theorem lifted (os : Os) (started : os.Started) (H : Type) (enc : TypeId × Value → H) :
    ReturnsInHanded {} Try.checked os 3 .any (Rows.certifyOrderSpec.pre6 enc Try.prog Try.f3 Rows.certifyOrderRow.domain false) (Rows.certifyOrderSpec.post enc Try.prog Try.f3 false true false false) := by
  refine returnsInHanded_of_change (C := Try.checked) own started (by kernel_rfl) Try.func3
    (ChangeSpec.witness6 (enc := enc) (C := Try.checked) false ⟨#[], #[.slice none 0 0, .slice none 0 0], []⟩ 8 (by kernel_rfl) (by kernel_rfl) (by kernel_rfl) (by kernel_rfl)) ?_
  intro W base args ds gs before hval0 hW _ _
  have hval : ∀ (j : Nat) t v, Try.f3.params[j]? = some t → args[j]? = some v → Value.okWide Try.prog W .any base t v := hval0
  have hW' := hW
  obtain ⟨p, q, hA0, hV, rfl, hfz, hnd⟩ := hW
  have hA : DataW.TrodAll enc Try.prog W 0 (fun _ => true) true Try.f3.params.toList args.toList ds p := hA0
  rw [Try.params3] at hA hval
  obtain ⟨v0, v1, d0, d1, p0, p1, rfl, rfl, rfl, h0, h1⟩ := trodAll_two hA
  obtain ⟨A, yes, ca, rfl, hY, hn⟩ := open_bools (hval 0 22 v0 rfl rfl) h0
  obtain ⟨B, ord, cb, rfl, hB, hm, hb8⟩ := open_u8s (hval 1 23 v1 rfl rfl) h1
  refine (law_order_any yes ord A B ca cb W hY hB hb8 hn hm).mono fun en W' ⟨he, hb⟩ => ?_
  subst he
  exact post_law laidOut (by kernel_rfl) rfl Try.underlying4 rfl rfl rfl rfl hW' hb

theorem holds : Rows.CertifyOrderSaid :=
  OpenClaim.holds_of_wide 3 Try.f3 rfl rfl rfl rfl rfl rfl rfl ⟨rfl, rfl, rfl, rfl, rfl⟩ rfl rfl rfl rfl rfl (by kernel_rfl) Try.func3 (by kernel_rfl)
    (of_decide_eq_true (by kernel_rfl)) (by unfold Func.isWrapper; rw [if_neg (of_decide_eq_false (by kernel_rfl))]; exact ⟨rfl, rfl⟩)
    (fun os started H enc _ => lifted os started H enc)
#print axioms holds
end Go.Proofs.Ytboiafchmdflpaa.lawCertifyOrder
