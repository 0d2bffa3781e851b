/- parishref10.first, told loosely: some bool. -/
import Derived.Test.YtjgloipgnnigmaaGreatDoorRefC10
set_option linter.unusedVariables false
set_option linter.unusedSimpArgs false
namespace Go.Proofs.YtjgloipgnnigmaaGreatDoor
open Go.RowKit Go.Shelf

theorem neqBal_some (r : Nat) (n : Int) : ∃ b : Bool, ∀ w : World, (binOp .neq 82 (.agg #[.int .u32 (r : Int), .int .i64 n]) (.agg #[.int .u32 0, .int .i64 0])).run Tryz.prog w = .ok (.bool b) w := by
  refine ⟨!(((r : Int) == 0) && (n == 0)), fun w => ?_⟩
  simp [go_sem]
  by_cases h1 : r = 0 <;> by_cases h2 : n = 0 <;> simp [h1, h2]
def cmdR (m : MsgV) : CmdV := ⟨m.ck, m.ct, m.cA, m.cB, m.cca, m.ccb, m.cis, m.ciq, m.cg, m.cst, m.cy⟩
set_option maxRecDepth 100000 in
set_option maxHeartbeats 8000000 in
theorem ref10First_some (m : MsgV) (w : World) (hm : MsgAt w m) : Calls Tryz.prog 73 #[.agg m.vs] w (SomeB w) := by
  obtain ⟨W, eW, HB, hszW, hr0⟩ := boxed w m.vs 85
  clear hszW
  have hmW := Lib.hid (hm.later HB)
  have hR := Lib.hid hr0
  have HB0 := Lib.hid HB
  have HK : Below W.heap.size W W := Below.refl _ _
  obtain ⟨b1, h1⟩ := neqBal_some m.br m.bn
  obtain ⟨b2, h2⟩ := neqBal_some m.vr m.vn
  have HC : Hid (∀ wz, Below W.heap.size W wz → Calls Tryz.prog 123 #[.agg #[.int .i64 m.ck, .int .i64 m.ct.ses, .int .i64 m.ct.seq, .slice m.cA m.ct.rds.length m.cca, .slice m.cB m.ct.wrs.length m.ccb, .int .i64 m.cis, .int .i64 m.ciq, .int .i64 m.cg, .int .u64 (m.cst : Int), .bool m.cy]] wz (SomeB wz)) := fun wz hz => ref09Formed_some (cmdR m) wz (hmW.out.later hz).c
  have HS : Hid (∀ wz, Below W.heap.size W wz → Calls Tryz.prog 124 #[.agg #[.int .i64 m.ck, .int .i64 m.ct.ses, .int .i64 m.ct.seq, .slice m.cA m.ct.rds.length m.cca, .slice m.cB m.ct.wrs.length m.ccb, .int .i64 m.cis, .int .i64 m.ciq, .int .i64 m.cg, .int .u64 (m.cst : Int), .bool m.cy], .agg #[.int .i64 0, .int .i64 0, .int .i64 0, .slice none 0 0, .slice none 0 0, .int .i64 0, .int .i64 0, .int .i64 0, .int .u64 0, .bool false]] wz (SomeB wz)) := fun wz hz => ref09Same_some (cmdR m) noCmd wz (hmW.out.later hz).c (noTx_lies10 _)
  obtain ⟨c0, _, _, _, _, _, _, _, _, _, _, _, _, _, _, _, _, _, _, _, _, _, _, _, _, _, _, _, _, _, _, _, _, _⟩ := msg_cs hr0
  clear hr0 hm HB
  go_enter Tryz.func73, Tryz.ntmps73
  go_upto_region 2 with fail
  obtain ⟨_, c1, c2, _, _, _, _, _, _, _, _, _, _, _, _, _, _, _, _, _, _, _, _, _, _, _, _, _, _, _, _, _, _, _⟩ := msg_cs (obj_keep hR.out HK)
  go_cut [24] (fun s wx => (∃ b : Bool, s = .bool b) ∧ Below W.heap.size W wx)
  case first =>
    go_wp2_with (first
      | (go_at_call 75; (with_reducible refine (usesS_ballot _ _).mono ?_); rintro e wH ⟨⟨r, rfl⟩, rfl⟩)
      | (go_at_call 122; refine (ref06Formed_some _ _ _).mono ?_; rintro e wH ⟨r, rfl, hb⟩; replace c1 := keep hb c1; replace c2 := keep hb c2; replace HK := keepB HK hb; clear hb))
    all_goals
      go_meet
      exact ⟨⟨_, rfl⟩, HK⟩
  case rest =>
    obtain ⟨⟨b, rfl⟩, HK⟩ := hcut
    obtain ⟨v0, rfl⟩ : ∃ wq : World, wq = wc := ⟨_, rfl⟩
    clear c1 c2
    cases b
    case true =>
      go_wp2
      go_ret
      exact ⟨_, rfl, keepB HB0.out HK⟩
    go_upto_region 4 with fail
    obtain ⟨_, _, _, c3, c4, _, _, _, _, _, _, _, _, _, _, _, _, _, _, _, _, _, _, _, _, _, _, _, _, _, _, _, _, _⟩ := msg_cs (obj_keep hR.out HK)
    go_cut [51] (fun s wx => (∃ b : Bool, s = .bool b) ∧ Below W.heap.size W wx)
    case first =>
      go_wp2_with (first
        | (go_at_call 75; (with_reducible refine (usesS_slot _ _).mono ?_); rintro e wH ⟨⟨r, rfl⟩, rfl⟩)
        | (go_at_call 75; (with_reducible refine (usesS_has _ _).mono ?_); rintro e wH ⟨⟨r, rfl⟩, rfl⟩))
      all_goals
        go_meet
        exact ⟨⟨_, rfl⟩, HK⟩
    case rest =>
      obtain ⟨⟨b, rfl⟩, HK⟩ := hcut
      obtain ⟨v1, rfl⟩ : ∃ wq : World, wq = wc := ⟨_, rfl⟩
      clear c3 c4
      cases b
      case true =>
        go_wp2
        go_ret
        exact ⟨_, rfl, keepB HB0.out HK⟩
      go_upto_region 6 with fail
      obtain ⟨_, _, _, _, c4, c5, c6, _, _, _, _, _, _, _, _, _, _, _, _, _, _, _, _, _, _, _, _, _, _, _, _, _, _, _⟩ := msg_cs (obj_keep hR.out HK)
      go_cut [70] (fun s wx => (∃ b : Bool, s = .bool b) ∧ Below W.heap.size W wx)
      case first =>
        go_wp2_with (first
          | (go_at_call 122; refine (ref06Formed_some _ _ _).mono ?_; rintro e wH ⟨r, rfl, hb⟩; replace c4 := keep hb c4; replace c5 := keep hb c5; replace c6 := keep hb c6; replace HK := keepB HK hb; clear hb))
        all_goals
          go_meet
          exact ⟨⟨_, rfl⟩, HK⟩
      case rest =>
        obtain ⟨⟨b, rfl⟩, HK⟩ := hcut
        obtain ⟨v2, rfl⟩ : ∃ wq : World, wq = wc := ⟨_, rfl⟩
        clear c4 c5 c6
        cases b
        case true =>
          go_wp2
          go_ret
          exact ⟨_, rfl, keepB HB0.out HK⟩
        go_upto_region 8 with fail
        obtain ⟨_, _, _, _, c4, _, _, _, _, _, _, _, _, _, _, _, _, _, _, _, _, _, _, _, _, _, _, _, _, _, _, _, _, _⟩ := msg_cs (obj_keep hR.out HK)
        go_cut [76] (fun s wx => (∃ b : Bool, s = .bool b) ∧ Below W.heap.size W wx)
        case first =>
          go_wp2_with (first
            | (go_at_call 75; (with_reducible refine (usesS_command _ _).mono ?_); rintro e wH ⟨⟨r, rfl⟩, rfl⟩))
          all_goals
            go_meet
            exact ⟨⟨_, rfl⟩, HK⟩
        case rest =>
          obtain ⟨⟨b, rfl⟩, HK⟩ := hcut
          obtain ⟨v3, rfl⟩ : ∃ wq : World, wq = wc := ⟨_, rfl⟩
          clear c4
          obtain ⟨_, _, _, _, _, _, _, c7, c8, c9, c10, c11, c12, c13, c14, c15, c16, _, _, _, _, _, _, _, _, _, _, _, _, _, _, _, _, _⟩ := msg_cs (obj_keep hR.out HK)
          cases b
          all_goals
            go_wp2_with (first
              | (go_at_call 123; refine (HC.out _ HK).mono ?_; rintro e wH ⟨r, rfl, hb⟩; replace HK := keepB HK hb; clear hb)
              | (go_at_call 124; refine (HS.out _ HK).mono ?_; rintro e wH ⟨r, rfl, hb⟩; replace HK := keepB HK hb; clear hb))
            go_ret
            exact ⟨_, rfl, keepB HB0.out HK⟩
end Go.Proofs.YtjgloipgnnigmaaGreatDoor
