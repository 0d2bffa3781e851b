/- parishref10.Same, told loosely: some bool. -/
import Derived.Test.YtjgloipgnnigmaaGreatDoorRefM1
import Derived.Test.YtjgloipgnnigmaaGreatDoorJ18
set_option linter.unusedVariables false
set_option linter.unusedSimpArgs false
namespace Go.Proofs.YtjgloipgnnigmaaGreatDoor
open Go.RowKit Go.Shelf

theorem neqBal2_some (r s : Nat) (n k : Int) : ∃ b : Bool, ∀ w : World, (binOp .neq 82 (.agg #[.int .u32 (r : Int), .int .i64 n]) (.agg #[.int .u32 (s : Int), .int .i64 k])).run Tryz.prog w = .ok (.bool b) w := by
  refine ⟨!(((r : Int) == (s : Int)) && (n == k)), fun w => ?_⟩
  simp [go_sem]
  by_cases h1 : (r : Int) = (s : Int) <;> by_cases h2 : n = k <;> simp [h1, h2]
theorem neqVal2_some (v u : Val) : ∃ b : Bool, ∀ w : World, (binOp .neq 28 (.agg #[.int .i64 v.kind, .int .u64 (v.bits : Int), .string v.text]) (.agg #[.int .i64 u.kind, .int .u64 (u.bits : Int), .string u.text])).run Tryz.prog w = .ok (.bool b) w := by
  refine ⟨!((v.kind == u.kind) && ((v.bits : Int) == (u.bits : Int)) && (v.text.toList == u.text.toList)), fun w => ?_⟩
  simp [go_sem]
  by_cases h1 : v.kind = u.kind <;> by_cases h2 : (v.bits : Int) = (u.bits : Int) <;> by_cases h3 : v.text.toList = u.text.toList <;> simp [h1, h2, h3]
set_option maxRecDepth 100000 in
set_option maxHeartbeats 8000000 in
theorem ref10Same_some (a b : MsgV) (w : World) (ha : MsgAt w a) (hb : MsgAt w b) (hd : a.data.length ≤ 900000) : Calls Tryz.prog 119 #[.agg a.vs, .agg b.vs] w (SomeB w) := by
  obtain ⟨W0, eW0, HB0, hsz0, hr0⟩ := boxed w a.vs 85
  obtain ⟨W, eW, HBa, hszA, hrA⟩ := boxed W0 b.vs 85
  have HB := Lib.hid (keepB HB0 HBa)
  clear hsz0 hszA
  have hRa := Lib.hid (obj_keep hr0 HBa)
  have hRb := Lib.hid hrA
  have haW := Lib.hid (ha.later HB.out)
  have hbW := Lib.hid (hb.later HB.out)
  have HK : Below W.heap.size W W := Below.refl _ _
  obtain ⟨b1, h1⟩ := neqBal2_some a.br b.br a.bn b.bn
  obtain ⟨b2, h2⟩ := neqBal2_some a.vr b.vr a.vn b.vn
  obtain ⟨b3, e3⟩ : ∃ r, (!idEqB a.ids a.idq b.ids b.idq) = r := ⟨_, rfl⟩
  have h3 := neqId a.ids a.idq b.ids b.idq
  rw [e3] at h3
  obtain ⟨b4, h4⟩ := neqVal2_some a.val b.val
  have HC : Hid (∀ wz, Below W.heap.size W wz → Calls Tryz.prog 124 #[.agg #[.int .i64 a.ck, .int .i64 a.ct.ses, .int .i64 a.ct.seq, .slice a.cA a.ct.rds.length a.cca, .slice a.cB a.ct.wrs.length a.ccb, .int .i64 a.cis, .int .i64 a.ciq, .int .i64 a.cg, .int .u64 (a.cst : Int), .bool a.cy], .agg #[.int .i64 b.ck, .int .i64 b.ct.ses, .int .i64 b.ct.seq, .slice b.cA b.ct.rds.length b.cca, .slice b.cB b.ct.wrs.length b.ccb, .int .i64 b.cis, .int .i64 b.ciq, .int .i64 b.cg, .int .u64 (b.cst : Int), .bool b.cy]] wz (SomeB wz)) := fun wz hz => ref09Same_some (cmdR a) (cmdR b) wz (haW.out.later hz).c (hbW.out.later hz).c
  have HS : Hid (∀ wz, Below W.heap.size W wz → Calls Tryz.prog 125 #[.agg #[.int .i64 a.t.ses, .int .i64 a.t.seq, .slice a.A a.t.rds.length a.ca, .slice a.B a.t.wrs.length a.cb], .agg #[.int .i64 b.t.ses, .int .i64 b.t.seq, .slice b.A b.t.rds.length b.ca, .slice b.B b.t.wrs.length b.cb]] wz (SomeB wz)) := fun wz hz => calls_someB (refTxSame_any a.t b.t a.A a.B b.A b.B a.ca a.cb b.ca b.cb wz (haW.out.later hz).t (hbW.out.later hz).t)
  have HD : Hid (∀ wz, Below W.heap.size W wz → Calls Tryz.prog 163 #[.slice a.D a.data.length a.cd, .slice b.D b.data.length b.cd] wz (SomeB wz)) := fun wz hz => calls_someB (refSame02_any a.data b.data a.D b.D a.cd b.cd wz (haW.out.later hz).d (hbW.out.later hz).d hd)
  clear hr0 hrA ha hb hd e3
  go_enter Tryz.func119, Tryz.ntmps119
  go_upto_region 1 with fail
  obtain ⟨c0, c1, c2, c3, c4, c5, c6, _, _, _, _, _, _, _, _, _, _, _, _, _, _, c21, c22, c23, c24, _, _, _, _, _, _, _, _, _⟩ := msg_cs (obj_keep hRa.out HK)
  obtain ⟨d0, d1, d2, d3, d4, d5, d6, _, _, _, _, _, _, _, _, _, _, _, _, _, _, d21, d22, d23, d24, _, _, _, _, _, _, _, _, _⟩ := msg_cs (obj_keep hRb.out HK)
  go_cut [58] (fun s wx => (∃ b : Bool, s = .bool b) ∧ Below W.heap.size W wx)
  case first =>
    go_wp2
    all_goals
      go_meet
      exact ⟨⟨_, rfl⟩, HK⟩
  case rest =>
    obtain ⟨⟨bb, rfl⟩, HK⟩ := hcut
    obtain ⟨v0, rfl⟩ : ∃ wq : World, wq = wc := ⟨_, rfl⟩
    clear c0 d0 c1 d1 c2 d2 c3 d3 c4 d4 c5 d5 c6 d6 c21 d21 c22 d22 c23 d23 c24 d24
    cases bb
    case true =>
      go_wp2
      go_ret
      exact ⟨_, rfl, keepB HB.out HK⟩
    go_upto_region 3 with fail
    obtain ⟨_, _, _, _, _, _, _, _, _, _, _, _, _, _, _, _, _, _, _, _, _, _, _, _, _, c25, c26, c27, c28, c29, c30, c31, c32, _⟩ := msg_cs (obj_keep hRa.out HK)
    obtain ⟨_, _, _, _, _, _, _, _, _, _, _, _, _, _, _, _, _, _, _, _, _, _, _, _, _, d25, d26, d27, d28, d29, d30, d31, d32, _⟩ := msg_cs (obj_keep hRb.out HK)
    go_cut [98] (fun s wx => (∃ b : Bool, s = .bool b) ∧ Below W.heap.size W wx)
    case first =>
      go_wp2
      all_goals
        go_meet
        exact ⟨⟨_, rfl⟩, HK⟩
    case rest =>
      obtain ⟨⟨bb, rfl⟩, HK⟩ := hcut
      obtain ⟨v1, rfl⟩ : ∃ wq : World, wq = wc := ⟨_, rfl⟩
      clear c25 d25 c26 d26 c27 d27 c28 d28 c29 d29 c30 d30 c31 d31 c32 d32
      cases bb
      case true =>
        go_wp2
        go_ret
        exact ⟨_, rfl, keepB HB.out HK⟩
      obtain ⟨_, _, _, _, _, _, _, c7, c8, c9, c10, c11, c12, c13, c14, c15, c16, c17, c18, c19, c20, _, _, _, _, _, _, _, _, _, _, _, _, c33⟩ := msg_cs (obj_keep hRa.out HK)
      obtain ⟨_, _, _, _, _, _, _, d7, d8, d9, d10, d11, d12, d13, d14, d15, d16, d17, d18, d19, d20, _, _, _, _, _, _, _, _, _, _, _, _, d33⟩ := msg_cs (obj_keep hRb.out HK)
      go_wp2_with (first
        | (go_at_call 124; refine (HC.out _ HK).mono ?_; rintro e wH ⟨r, rfl, hb⟩; replace c7 := keep hb c7; replace d7 := keep hb d7; replace c8 := keep hb c8; replace d8 := keep hb d8; replace c9 := keep hb c9; replace d9 := keep hb d9; replace c10 := keep hb c10; replace d10 := keep hb d10; replace c11 := keep hb c11; replace d11 := keep hb d11; replace c12 := keep hb c12; replace d12 := keep hb d12; replace c13 := keep hb c13; replace d13 := keep hb d13; replace c14 := keep hb c14; replace d14 := keep hb d14; replace c15 := keep hb c15; replace d15 := keep hb d15; replace c16 := keep hb c16; replace d16 := keep hb d16; replace c17 := keep hb c17; replace d17 := keep hb d17; replace c18 := keep hb c18; replace d18 := keep hb d18; replace c19 := keep hb c19; replace d19 := keep hb d19; replace c20 := keep hb c20; replace d20 := keep hb d20; replace c33 := keep hb c33; replace d33 := keep hb d33; replace HK := keepB HK hb; clear hb; cases r)
        | (go_at_call 125; refine (HS.out _ HK).mono ?_; rintro e wH ⟨r, rfl, hb⟩; replace c7 := keep hb c7; replace d7 := keep hb d7; replace c8 := keep hb c8; replace d8 := keep hb d8; replace c9 := keep hb c9; replace d9 := keep hb d9; replace c10 := keep hb c10; replace d10 := keep hb d10; replace c11 := keep hb c11; replace d11 := keep hb d11; replace c12 := keep hb c12; replace d12 := keep hb d12; replace c13 := keep hb c13; replace d13 := keep hb d13; replace c14 := keep hb c14; replace d14 := keep hb d14; replace c15 := keep hb c15; replace d15 := keep hb d15; replace c16 := keep hb c16; replace d16 := keep hb d16; replace c17 := keep hb c17; replace d17 := keep hb d17; replace c18 := keep hb c18; replace d18 := keep hb d18; replace c19 := keep hb c19; replace d19 := keep hb d19; replace c20 := keep hb c20; replace d20 := keep hb d20; replace c33 := keep hb c33; replace d33 := keep hb d33; replace HK := keepB HK hb; clear hb; cases r)
        | (go_at_call 163; refine (HD.out _ HK).mono ?_; rintro e wH ⟨r, rfl, hb⟩; replace c7 := keep hb c7; replace d7 := keep hb d7; replace c8 := keep hb c8; replace d8 := keep hb d8; replace c9 := keep hb c9; replace d9 := keep hb d9; replace c10 := keep hb c10; replace d10 := keep hb d10; replace c11 := keep hb c11; replace d11 := keep hb d11; replace c12 := keep hb c12; replace d12 := keep hb d12; replace c13 := keep hb c13; replace d13 := keep hb d13; replace c14 := keep hb c14; replace d14 := keep hb d14; replace c15 := keep hb c15; replace d15 := keep hb d15; replace c16 := keep hb c16; replace d16 := keep hb d16; replace c17 := keep hb c17; replace d17 := keep hb d17; replace c18 := keep hb c18; replace d18 := keep hb d18; replace c19 := keep hb c19; replace d19 := keep hb d19; replace c20 := keep hb c20; replace d20 := keep hb d20; replace c33 := keep hb c33; replace d33 := keep hb d33; replace HK := keepB HK hb; clear hb; cases r))
      all_goals
        go_ret
        exact ⟨_, rfl, keepB HB.out HK⟩
end Go.Proofs.YtjgloipgnnigmaaGreatDoor
