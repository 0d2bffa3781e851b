/- parishref10.Formed, told loosely: some bool. -/
import Derived.Test.YtjgloipgnnigmaaGreatDoorRefM1
import Derived.Test.YtjgloipgnnigmaaGreatDoorRefM2
import Derived.Test.YtjgloipgnnigmaaGreatDoorJ17
set_option linter.unusedVariables false
set_option linter.unusedSimpArgs false
namespace Go.Proofs.YtjgloipgnnigmaaGreatDoor
open Go.RowKit Go.Shelf

theorem neqVal_some (v : Val) : ∃ b : Bool, ∀ w : World, (binOp .neq 28 (.agg #[.int .i64 v.kind, .int .u64 (v.bits : Int), .string v.text]) (.agg #[.int .i64 0, .int .u64 0, .string ⟨#[]⟩])).run Tryz.prog w = .ok (.bool b) w := by
  refine ⟨!((v.kind == 0) && ((v.bits : Int) == 0) && (v.text.toList == (⟨#[]⟩ : ByteArray).toList)), fun w => ?_⟩
  simp [go_sem]
  by_cases h1 : v.kind = 0 <;> by_cases h2 : v.bits = 0 <;> by_cases h3 : v.text.toList = [] <;> simp [h1, h2, h3]
set_option maxRecDepth 100000 in
set_option maxHeartbeats 8000000 in
theorem ref10Formed_some (m : MsgV) (w : World) (hm : MsgAt w m) : Calls Tryz.prog 29 #[.agg m.vs] w (SomeB w) := by
  obtain ⟨W, eW, HB, hszW, hr0⟩ := boxed w m.vs 85
  clear hszW
  have hmW := Lib.hid (hm.later HB)
  have hR := Lib.hid hr0
  have HB0 := Lib.hid HB
  have HK : Below W.heap.size W W := Below.refl _ _
  obtain ⟨b1, h1⟩ := neqVal_some m.val
  have hl0 := nil_list
  have H1 : Hid (∀ wz, Below W.heap.size W wz → Calls Tryz.prog 73 #[.agg m.vs] wz (SomeB wz)) := fun wz hz => ref10First_some m wz (hmW.out.later hz)
  have H2 : Hid (∀ wz, Below W.heap.size W wz → Calls Tryz.prog 74 #[.agg m.vs] wz (SomeB wz)) := fun wz hz => ref10Second_some m wz (hmW.out.later hz)
  have HV : Hid (∀ wz, Calls Tryz.prog 72 #[.agg #[.int .i64 m.val.kind, .int .u64 (m.val.bits : Int), .string m.val.text]] wz (SomeB wz)) := fun wz => calls_someB (refFormedV_any m.val.kind m.val.bits m.val.text hmW.out.v.b hmW.out.v.t wz)
  have HKy : Hid (∀ wz, Calls Tryz.prog 56 #[.string m.key] wz (SomeB wz)) := fun wz => calls_someB (refKey_below m.key wz hmW.out.k)
  skip
  clear hr0 hm HB
  go_enter Tryz.func29, Tryz.ntmps29
  go_upto_region 1 with fail
  obtain ⟨c0, _, _, _, _, _, _, _, _, _, _, _, _, _, _, _, _, _, _, _, _, _, _, _, _, _, _, _, _, _, _, _, _, _⟩ := msg_cs (obj_keep hR.out HK)
  go_cut [20] (fun s wx => (∃ b : Bool, s = .bool b) ∧ Below W.heap.size W wx)
  case first =>
    cases k1 : decide (m.kind < 1) <;> cases k2 : decide (15 < m.kind)
    all_goals
      go_wp2_with (first
        | (refine wpList_load_cells rfl 85 _ rfl ⟨w.heap.size, 0, none⟩ rfl m.vs _ (row_of_obj (obj_keep hR.out HK)) Tryz.underlying85 rfl info_rmsg10 ?_)
        | (go_at_call 73; refine (H1.out _ HK).mono ?_; rintro e wH ⟨r, rfl, hb⟩; replace c0 := keep hb c0; replace HK := keepB HK hb; clear hb; cases r)
        | (go_at_call 74; refine (H2.out _ HK).mono ?_; rintro e wH ⟨r, rfl, hb⟩; replace c0 := keep hb c0; replace HK := keepB HK hb; clear hb))
      all_goals
        go_meet
        exact ⟨⟨_, rfl⟩, HK⟩
  case rest =>
    obtain ⟨⟨b, rfl⟩, HK⟩ := hcut
    obtain ⟨v0, rfl⟩ : ∃ wq : World, wq = wc := ⟨_, rfl⟩
    clear c0
    cases b
    case true =>
      go_wp2
      go_ret
      exact ⟨_, rfl, keepB HB0.out HK⟩
    go_upto_region 3 with fail
    obtain ⟨c0, _, _, _, _, _, _, _, _, _, _, _, _, _, _, _, _, _, _, _, _, _, _, _, _, _, _, c27, _, _, _, _, _, _⟩ := msg_cs (obj_keep hR.out HK)
    go_cut [50] (fun s wx => (∃ b : Bool, s = .bool b) ∧ Below W.heap.size W wx)
    case first =>
      go_wp2_with (first
        | (go_at_call 75; (with_reducible refine (usesS_key _ _).mono ?_); rintro e wH ⟨⟨r, rfl⟩, rfl⟩)
        | (go_at_call 56; refine (HKy.out _).mono ?_; rintro e wH ⟨r, rfl, hb⟩; replace c0 := keep hb c0; replace c27 := keep hb c27; replace HK := keepB HK hb; clear hb))
      all_goals
        go_meet
        exact ⟨⟨_, rfl⟩, HK⟩
    case rest =>
      obtain ⟨⟨b, rfl⟩, HK⟩ := hcut
      obtain ⟨v1, rfl⟩ : ∃ wq : World, wq = wc := ⟨_, rfl⟩
      clear c0 c27
      cases b
      case true =>
        go_wp2
        go_ret
        exact ⟨_, rfl, keepB HB0.out HK⟩
      go_upto_region 5 with fail
      obtain ⟨c0, _, _, _, _, _, _, _, _, _, _, _, _, _, _, _, _, _, _, _, _, _, _, _, _, _, _, _, c28, c29, c30, c31, c32, _⟩ := msg_cs (obj_keep hR.out HK)
      go_cut [70] (fun s wx => (∃ b : Bool, s = .bool b) ∧ Below W.heap.size W wx)
      case first =>
        go_wp2_with (first
          | (go_at_call 75; (with_reducible refine (usesS_value _ _).mono ?_); rintro e wH ⟨⟨r, rfl⟩, rfl⟩))
        all_goals
          go_meet
          exact ⟨⟨_, rfl⟩, HK⟩
      case rest =>
        obtain ⟨⟨b, rfl⟩, HK⟩ := hcut
        obtain ⟨v2, rfl⟩ : ∃ wq : World, wq = wc := ⟨_, rfl⟩
        clear c0 c28 c29 c30 c31 c32
        cases b
        case true =>
          go_wp2
          go_ret
          exact ⟨_, rfl, keepB HB0.out HK⟩
        go_upto_region 7 with fail
        obtain ⟨_, _, _, _, _, _, _, _, _, _, _, _, _, _, _, _, _, _, _, _, _, _, _, _, _, _, _, _, _, c29, c30, c31, c32, _⟩ := msg_cs (obj_keep hR.out HK)
        go_cut [84] (fun s wx => (∃ b : Bool, s = .bool b) ∧ Below W.heap.size W wx)
        case first =>
          go_wp2_with (first
            | (go_at_call 72; refine (HV.out _).mono ?_; rintro e wH ⟨r, rfl, hb⟩; replace c29 := keep hb c29; replace c30 := keep hb c30; replace c31 := keep hb c31; replace c32 := keep hb c32; replace HK := keepB HK hb; clear hb))
          all_goals
            go_meet
            exact ⟨⟨_, rfl⟩, HK⟩
        case rest =>
          obtain ⟨⟨b, rfl⟩, HK⟩ := hcut
          obtain ⟨v3, rfl⟩ : ∃ wq : World, wq = wc := ⟨_, rfl⟩
          clear c29 c30 c31 c32
          obtain ⟨c0, _, _, _, _, _, _, _, _, _, _, _, _, _, _, _, _, _, _, _, _, _, _, _, _, _, _, _, _, _, _, _, _, c33⟩ := msg_cs (obj_keep hR.out HK)
          cases b
          case true =>
            go_wp2
            go_ret
            exact ⟨_, rfl, keepB HB0.out HK⟩
          go_wp2_with (first
            | (go_at_call 75; (with_reducible refine (usesS_data _ _).mono ?_); rintro e wH ⟨⟨r, rfl⟩, rfl⟩))
          all_goals
            go_ret
            exact ⟨_, rfl, keepB HB0.out HK⟩
end Go.Proofs.YtjgloipgnnigmaaGreatDoor
