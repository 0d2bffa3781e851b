/- parishref10.second, told loosely: some bool. -/
import Derived.Test.YtjgloipgnnigmaaGreatDoorRefC10
set_option linter.unusedVariables false
set_option linter.unusedSimpArgs false
namespace Go.Proofs.YtjgloipgnnigmaaGreatDoor
open Go.RowKit Go.Shelf

set_option maxRecDepth 100000 in
set_option maxHeartbeats 8000000 in
theorem ref10Second_some (m : MsgV) (w : World) (hm : MsgAt w m) : Calls Tryz.prog 74 #[.agg m.vs] w (SomeB w) := by
  obtain ⟨W, eW, HB, hszW, hr0⟩ := boxed w m.vs 85
  clear hszW
  have hmW := Lib.hid (hm.later HB)
  have hR := Lib.hid hr0
  have HB0 := Lib.hid HB
  have HK : Below W.heap.size W W := Below.refl _ _
  obtain ⟨b1, h1⟩ : ∃ r, (!idEqB m.ids m.idq 0 0) = r := ⟨_, rfl⟩
  have h2 := neqId m.ids m.idq 0 0
  rw [h1] at h2
  clear h1
  have HF : Hid (∀ wz, Below W.heap.size W wz → Calls Tryz.prog 25 #[.agg #[.int .i64 m.t.ses, .int .i64 m.t.seq, .slice m.A m.t.rds.length m.ca, .slice m.B m.t.wrs.length m.cb]] wz (SomeB wz)) := fun wz hz => calls_someB (refTxFormed_any m.t m.A m.B m.ca m.cb wz (hmW.out.later hz).t)
  have HS : Hid (∀ wz, Below W.heap.size W wz → Calls Tryz.prog 125 #[.agg #[.int .i64 m.t.ses, .int .i64 m.t.seq, .slice m.A m.t.rds.length m.ca, .slice m.B m.t.wrs.length m.cb], .agg #[.int .i64 0, .int .i64 0, .slice none 0 0, .slice none 0 0]] wz (SomeB wz)) := fun wz hz => calls_someB (refTxSame_any m.t ⟨0, 0, [], []⟩ m.A m.B none none m.ca m.cb 0 0 wz (hmW.out.later hz).t (noTx_lies10 _))
  obtain ⟨c0, _, _, _, _, _, _, _, _, _, _, _, _, _, _, _, _, _, _, _, _, _, _, _, _, _, _, _, _, _, _, _, _, _⟩ := msg_cs hr0
  clear hr0 hm HB
  go_enter Tryz.func74, Tryz.ntmps74
  go_upto_region 2 with fail
  obtain ⟨_, _, _, _, _, _, _, _, _, _, _, _, _, _, _, _, _, c17, c18, c19, c20, _, _, _, _, _, _, _, _, _, _, _, _, _⟩ := msg_cs (obj_keep hR.out HK)
  go_cut [25] (fun s wx => (∃ b : Bool, s = .bool b) ∧ Below W.heap.size W wx)
  case first =>
    go_wp2_with (first
      | (go_at_call 75; (with_reducible refine (usesS_txn _ _).mono ?_); rintro e wH ⟨⟨r, rfl⟩, rfl⟩)
      | (go_at_call 25; refine (HF.out _ HK).mono ?_; rintro e wH ⟨r, rfl, hb⟩; replace c17 := keep hb c17; replace c18 := keep hb c18; replace c19 := keep hb c19; replace c20 := keep hb c20; replace HK := keepB HK hb; clear hb)
      | (go_at_call 125; refine (HS.out _ HK).mono ?_; rintro e wH ⟨r, rfl, hb⟩; replace c17 := keep hb c17; replace c18 := keep hb c18; replace c19 := keep hb c19; replace c20 := keep hb c20; replace HK := keepB HK hb; clear hb))
    all_goals
      go_meet
      exact ⟨⟨_, rfl⟩, HK⟩
  case rest =>
    obtain ⟨⟨b, rfl⟩, HK⟩ := hcut
    obtain ⟨v0, rfl⟩ : ∃ wq : World, wq = wc := ⟨_, rfl⟩
    clear c17 c18 c19 c20
    cases b
    case true =>
      go_wp2
      go_ret
      exact ⟨_, rfl, keepB HB0.out HK⟩
    go_upto_region 4 with fail
    obtain ⟨_, _, _, _, _, _, _, _, _, _, _, _, _, _, _, _, _, _, _, _, _, c21, c22, _, _, _, _, _, _, _, _, _, _, _⟩ := msg_cs (obj_keep hR.out HK)
    go_cut [44] (fun s wx => (∃ b : Bool, s = .bool b) ∧ Below W.heap.size W wx)
    case first =>
      go_wp2_with (first
        | (go_at_call 75; (with_reducible refine (usesS_id _ _).mono ?_); rintro e wH ⟨⟨r, rfl⟩, rfl⟩)
        | (go_at_call 71; refine (calls_someB (refId_any _ _ _)).mono ?_; rintro e wH ⟨r, rfl, hb⟩; replace c21 := keep hb c21; replace c22 := keep hb c22; replace HK := keepB HK hb; clear hb))
      all_goals
        go_meet
        exact ⟨⟨_, rfl⟩, HK⟩
    case rest =>
      obtain ⟨⟨b, rfl⟩, HK⟩ := hcut
      obtain ⟨v1, rfl⟩ : ∃ wq : World, wq = wc := ⟨_, rfl⟩
      clear c21 c22
      cases b
      case true =>
        go_wp2
        go_ret
        exact ⟨_, rfl, keepB HB0.out HK⟩
      go_upto_region 6 with fail
      obtain ⟨_, _, _, _, _, _, _, _, _, _, _, _, _, _, _, _, _, _, _, _, _, _, _, c23, c24, c25, _, _, _, _, _, _, _, _⟩ := msg_cs (obj_keep hR.out HK)
      go_cut [81] (fun s wx => (∃ b : Bool, s = .bool b) ∧ Below W.heap.size W wx)
      case first =>
        go_wp2_with (first
          | (go_at_call 75; (with_reducible refine (usesS_group _ _).mono ?_); rintro e wH ⟨⟨r, rfl⟩, rfl⟩)
          | (go_at_call 75; (with_reducible refine (usesS_stamp _ _).mono ?_); rintro e wH ⟨⟨r, rfl⟩, rfl⟩)
          | (go_at_call 75; (with_reducible refine (usesS_yes _ _).mono ?_); rintro e wH ⟨⟨r, rfl⟩, rfl⟩))
        all_goals
          go_meet
          exact ⟨⟨_, rfl⟩, HK⟩
      case rest =>
        obtain ⟨⟨b, rfl⟩, HK⟩ := hcut
        obtain ⟨v2, rfl⟩ : ∃ wq : World, wq = wc := ⟨_, rfl⟩
        clear c23 c24 c25
        obtain ⟨_, _, _, _, _, _, _, _, _, _, _, _, _, _, _, _, _, _, _, _, _, _, _, _, _, _, c26, _, _, _, _, _, _, _⟩ := msg_cs (obj_keep hR.out HK)
        cases b
        case true =>
          go_wp2
          go_ret
          exact ⟨_, rfl, keepB HB0.out HK⟩
        go_wp2_with (first
          | (go_at_call 75; (with_reducible refine (usesS_number _ _).mono ?_); rintro e wH ⟨⟨r, rfl⟩, rfl⟩))
        all_goals
          go_ret
          exact ⟨_, rfl, keepB HB0.out HK⟩
end Go.Proofs.YtjgloipgnnigmaaGreatDoor
