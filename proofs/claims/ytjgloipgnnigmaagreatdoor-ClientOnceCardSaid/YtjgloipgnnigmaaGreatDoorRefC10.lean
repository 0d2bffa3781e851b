/- parishref06.Formed, parishref09.Same, parishref09.Formed, told loosely: some bool. -/
import Derived.Test.YtjgloipgnnigmaaGreatDoorJ16
set_option linter.unusedVariables false
set_option linter.unusedSimpArgs false
namespace Go.Proofs.YtjgloipgnnigmaaGreatDoor
open Go.RowKit Go.Shelf

theorem ref06Formed_some (r : Nat) (n : Int) (w : World) : Calls Tryz.prog 122 #[.agg #[.int .u32 (r : Int), .int .i64 n]] w (SomeB w) := by
  obtain ⟨W, eW, HB, c0, c1⟩ := box2 w (.int .u32 (r : Int)) (.int .i64 n) 82
  cases h0 : decide ((0 : Int) ≤ n)
  · go_enter Tryz.func122, Tryz.ntmps122
    go_wp2
    go_ret
    exact ⟨_, rfl, HB⟩
  · cases h1 : decide (n ≤ 4)
    all_goals
      go_enter Tryz.func122, Tryz.ntmps122
      go_wp2
      go_ret
      exact ⟨_, rfl, HB⟩
set_option maxRecDepth 100000 in
set_option maxHeartbeats 4000000 in
theorem ref09Same_some (a b : CmdV) (w : World) (ha : TxAt w a.t a.A a.B) (hb : TxAt w b.t b.A b.B) : Calls Tryz.prog 124 #[.agg a.vs, .agg b.vs] w (SomeB w) := by
  obtain ⟨W0, eW0, HB0, hsz0, hr0⟩ := boxed w a.vs 83
  obtain ⟨W, eW, HBa, hszA, hrA⟩ := boxed W0 b.vs 83
  have HB := keepB HB0 HBa
  clear hsz0 hszA
  obtain ⟨c0, c1, c2, c3, c4, c5, c6, c7, c8, c9⟩ := cmd_cs (obj_keep hr0 HBa)
  obtain ⟨d0, d1, d2, d3, d4, d5, d6, d7, d8, d9⟩ := cmd_cs hrA
  have HS : Hid (Calls Tryz.prog 125 #[.agg #[.int .i64 a.t.ses, .int .i64 a.t.seq, .slice a.A a.t.rds.length a.ca, .slice a.B a.t.wrs.length a.cb], .agg #[.int .i64 b.t.ses, .int .i64 b.t.seq, .slice b.A b.t.rds.length b.ca, .slice b.B b.t.wrs.length b.cb]] W (SomeB W)) := calls_someB (refTxSame_any a.t b.t a.A a.B b.A b.B a.ca a.cb b.ca b.cb W (ha.later HB) (hb.later HB))
  obtain ⟨bI, hbI⟩ : ∃ r, idEqB a.is a.iq b.is b.iq = r := ⟨_, rfl⟩
  have hI := eqlId a.is a.iq b.is b.iq
  rw [hbI] at hI
  clear hr0 hrA ha hb hbI
  cases bI
  all_goals
    go_enter Tryz.func124, Tryz.ntmps124
    go_wp2_with (go_at_call 125; refine HS.out.mono ?_; rintro e w1 ⟨r, rfl, hb⟩)
    all_goals
      go_ret
      first
        | exact ⟨_, rfl, HB⟩
        | exact ⟨_, rfl, keepB HB hb⟩
set_option maxRecDepth 100000 in
set_option maxHeartbeats 4000000 in
theorem ref09Formed_some (a : CmdV) (w : World) (ha : TxAt w a.t a.A a.B) : Calls Tryz.prog 123 #[.agg a.vs] w (SomeB w) := by
  obtain ⟨W, eW, HB, hsz0, hr0⟩ := boxed w a.vs 83
  clear hsz0
  obtain ⟨c0, c1, c2, c3, c4, c5, c6, c7, c8, c9⟩ := cmd_cs hr0
  have haW := Lib.hid (ha.later HB)
  have hr2 := Lib.hid hr0
  clear hr0 ha
  have HN : Hid (∀ wz, Below W.heap.size W wz → Calls Tryz.prog 125 #[.agg #[.int .i64 a.t.ses, .int .i64 a.t.seq, .slice a.A a.t.rds.length a.ca, .slice a.B a.t.wrs.length a.cb], .agg #[.int .i64 0, .int .i64 0, .slice none 0 0, .slice none 0 0]] wz (SomeB wz)) := fun wz hb => calls_someB (refTxSame_any a.t ⟨0, 0, [], []⟩ a.A a.B none none a.ca a.cb 0 0 wz (haW.out.later hb) (noTx_lies10 _))
  have HS : Hid (∀ wz, Below W.heap.size W wz → Calls Tryz.prog 124 #[.agg #[.int .i64 a.k, .int .i64 a.t.ses, .int .i64 a.t.seq, .slice a.A a.t.rds.length a.ca, .slice a.B a.t.wrs.length a.cb, .int .i64 a.is, .int .i64 a.iq, .int .i64 a.g, .int .u64 (a.st : Int), .bool a.y], .agg #[.int .i64 0, .int .i64 0, .int .i64 0, .slice none 0 0, .slice none 0 0, .int .i64 0, .int .i64 0, .int .i64 0, .int .u64 0, .bool false]] wz (SomeB wz)) := fun wz hb => ref09Same_some a noCmd wz (haW.out.later hb) (noTx_lies10 _)
  have HF : Hid (∀ wz, Below W.heap.size W wz → Calls Tryz.prog 25 #[.agg #[.int .i64 a.t.ses, .int .i64 a.t.seq, .slice a.A a.t.rds.length a.ca, .slice a.B a.t.wrs.length a.cb]] wz (SomeB wz)) := fun wz hb => calls_someB (refTxFormed_any a.t a.A a.B a.ca a.cb wz (haW.out.later hb))
  obtain ⟨bI, hbI⟩ : ∃ r, idEqB a.is a.iq 0 0 = r := ⟨_, rfl⟩
  have hI := eqlId a.is a.iq 0 0
  rw [hbI] at hI
  clear hbI
  have HK : Below W.heap.size W W := Below.refl _ _
  go_enter Tryz.func123, Tryz.ntmps123
  go_upto_region 2 with (go_at_call 125; refine (HN.out _ HK).mono ?_; rintro e w1 ⟨r, rfl, hb⟩; replace c0 := keep hb c0; replace c1 := keep hb c1; replace c2 := keep hb c2; replace c3 := keep hb c3; replace c4 := keep hb c4; replace c5 := keep hb c5; replace c6 := keep hb c6; replace c7 := keep hb c7; replace c8 := keep hb c8; replace c9 := keep hb c9; replace HK := keepB HK hb; clear hb)
  go_cut [4] (fun s wx => (∃ b : Bool, s = .bool b) ∧ Below W.heap.size W wx)
  case first =>
    cases r
    all_goals
      go_wp2_with (go_at_call 71; refine (calls_someB (refId_any a.is a.iq _)).mono ?_; rintro e w1 ⟨r2, rfl, hb⟩; replace c0 := keep hb c0; replace c1 := keep hb c1; replace c2 := keep hb c2; replace c3 := keep hb c3; replace c4 := keep hb c4; replace c5 := keep hb c5; replace c6 := keep hb c6; replace c7 := keep hb c7; replace c8 := keep hb c8; replace c9 := keep hb c9; replace HK := keepB HK hb; clear hb; cases r2)
      all_goals
        go_meet
        exact ⟨⟨_, rfl⟩, HK⟩
  case rest =>
    obtain ⟨⟨ab, rfl⟩, HK⟩ := hcut
    obtain ⟨v0, rfl⟩ : ∃ wq : World, wq = wc := ⟨_, rfl⟩
    obtain ⟨c0, c1, c2, c3, c4, c5, c6, c7, c8, c9⟩ := cmd_cs (obj_keep hr2.out HK)
    cases ab <;> cases bI
    all_goals
      go_wp2_with (first
        | (go_at_call 124; refine (HS.out _ HK).mono ?_; rintro e w1 ⟨r3, rfl, hb⟩; replace c0 := keep hb c0; replace c1 := keep hb c1; replace c2 := keep hb c2; replace c3 := keep hb c3; replace c4 := keep hb c4; replace c5 := keep hb c5; replace c6 := keep hb c6; replace c7 := keep hb c7; replace c8 := keep hb c8; replace c9 := keep hb c9; replace HK := keepB HK hb; clear hb)
        | (go_at_call 25; refine (HF.out _ HK).mono ?_; rintro e w1 ⟨r3, rfl, hb⟩; replace c0 := keep hb c0; replace c1 := keep hb c1; replace c2 := keep hb c2; replace c3 := keep hb c3; replace c4 := keep hb c4; replace c5 := keep hb c5; replace c6 := keep hb c6; replace c7 := keep hb c7; replace c8 := keep hb c8; replace c9 := keep hb c9; replace HK := keepB HK hb; clear hb; cases r3))
      all_goals
        go_ret
        exact ⟨_, rfl, keepB HB HK⟩
end Go.Proofs.YtjgloipgnnigmaaGreatDoor
