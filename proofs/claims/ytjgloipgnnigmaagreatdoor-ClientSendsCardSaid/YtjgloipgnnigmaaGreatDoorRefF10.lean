/- parishref10.Formed tells true of what a session sends. -/
import Derived.Test.YtjgloipgnnigmaaGreatDoorJ16
import Derived.Test.YtjgloipgnnigmaaGreatDoorJ8
import Derived.Test.YtjgloipgnnigmaaGreatDoorJ13
import Derived.Test.YtjgloipgnnigmaaGreatDoorRefTxF08
import Derived.Test.YtjgloipgnnigmaaGreatDoorJ2
set_option linter.unusedVariables false
set_option linter.unusedSimpArgs false
namespace Go.Proofs.YtjgloipgnnigmaaGreatDoor
open Go.RowKit Go.Shelf

/-- A message of the fields that a session uses. -/
def sM (k : Int) (t : Tx) (A B : Option Addr) (ca cb st : Nat) (num : Int) (key : ByteArray) : MsgV := { noMsg with kind := k, t := t, A := A, B := B, ca := ca, cb := cb, st := st, num := num, key := key }
def ZT : Tx := ⟨0, 0, [], []⟩
theorem sameT_self0 : sameT ZT ZT = true := by decide
set_option maxRecDepth 100000 in
set_option maxHeartbeats 4000000 in
theorem ref09Same_zero (w : World) : Calls Tryz.prog 124 #[.agg #[.int .i64 0, .int .i64 0, .int .i64 0, .slice none 0 0, .slice none 0 0, .int .i64 0, .int .i64 0, .int .i64 0, .int .u64 0, .bool false], .agg #[.int .i64 0, .int .i64 0, .int .i64 0, .slice none 0 0, .slice none 0 0, .int .i64 0, .int .i64 0, .int .i64 0, .int .u64 0, .bool false]] w fun e w' => e = .returned (.bool true) ∧ Below w.heap.size w w' := by
  obtain ⟨W0, eW0, HB0, hsz0, hr0⟩ := boxed w #[.int .i64 0, .int .i64 0, .int .i64 0, .slice none 0 0, .slice none 0 0, .int .i64 0, .int .i64 0, .int .i64 0, .int .u64 0, .bool false] 83
  obtain ⟨W, eW, HBa, hszA, hrA⟩ := boxed W0 #[.int .i64 0, .int .i64 0, .int .i64 0, .slice none 0 0, .slice none 0 0, .int .i64 0, .int .i64 0, .int .i64 0, .int .u64 0, .bool false] 83
  have HB := keepB HB0 HBa
  clear hsz0 hszA
  have hr1 := obj_keep hr0 HBa
  obtain ⟨c0, c1, c2, c3, c4, c5, c6, c7, c8, c9⟩ := cmd_cs (x := noCmd) hr1
  obtain ⟨d0, d1, d2, d3, d4, d5, d6, d7, d8, d9⟩ := cmd_cs (x := noCmd) hrA
  replace c0 : W.cell? ⟨w.heap.size, 0, none⟩ = some (.int .i64 0) := c0
  replace d0 : W.cell? ⟨W0.heap.size, 0, none⟩ = some (.int .i64 0) := d0
  replace c1 : W.cell? ⟨w.heap.size, 1, none⟩ = some (.int .i64 0) := c1
  replace d1 : W.cell? ⟨W0.heap.size, 1, none⟩ = some (.int .i64 0) := d1
  replace c2 : W.cell? ⟨w.heap.size, 2, none⟩ = some (.int .i64 0) := c2
  replace d2 : W.cell? ⟨W0.heap.size, 2, none⟩ = some (.int .i64 0) := d2
  replace c3 : W.cell? ⟨w.heap.size, 3, none⟩ = some (.slice none 0 0) := c3
  replace d3 : W.cell? ⟨W0.heap.size, 3, none⟩ = some (.slice none 0 0) := d3
  replace c4 : W.cell? ⟨w.heap.size, 4, none⟩ = some (.slice none 0 0) := c4
  replace d4 : W.cell? ⟨W0.heap.size, 4, none⟩ = some (.slice none 0 0) := d4
  replace c5 : W.cell? ⟨w.heap.size, 5, none⟩ = some (.int .i64 0) := c5
  replace d5 : W.cell? ⟨W0.heap.size, 5, none⟩ = some (.int .i64 0) := d5
  replace c6 : W.cell? ⟨w.heap.size, 6, none⟩ = some (.int .i64 0) := c6
  replace d6 : W.cell? ⟨W0.heap.size, 6, none⟩ = some (.int .i64 0) := d6
  replace c7 : W.cell? ⟨w.heap.size, 7, none⟩ = some (.int .i64 0) := c7
  replace d7 : W.cell? ⟨W0.heap.size, 7, none⟩ = some (.int .i64 0) := d7
  replace c8 : W.cell? ⟨w.heap.size, 8, none⟩ = some (.int .u64 0) := c8
  replace d8 : W.cell? ⟨W0.heap.size, 8, none⟩ = some (.int .u64 0) := d8
  replace c9 : W.cell? ⟨w.heap.size, 9, none⟩ = some (.bool false) := c9
  replace d9 : W.cell? ⟨W0.heap.size, 9, none⟩ = some (.bool false) := d9
  have HS : Hid (Calls Tryz.prog 125 #[.agg #[.int .i64 0, .int .i64 0, .slice none 0 0, .slice none 0 0], .agg #[.int .i64 0, .int .i64 0, .slice none 0 0, .slice none 0 0]] W fun e w' => e = .returned (.bool true) ∧ Below W.heap.size W w') := by
    have := refTxSame_any ZT ZT none none none none 0 0 0 0 W (noTx_lies10 W) (noTx_lies10 W)
    rw [sameT_self0] at this
    exact this
  have hI := eqlId 0 0 0 0
  clear hr0 hr1 hrA
  go_enter Tryz.func124, Tryz.ntmps124
  go_wp2_with (go_at_call 125; refine HS.out.mono ?_; rintro e w1 ⟨rfl, hb⟩)
  go_ret
  exact ⟨rfl, keepB HB hb⟩
theorem info_rmsg10 : (Tryz.prog.info? 85).map (·.size) = some 34 := by kernel_rfl
theorem nil_list : (⟨#[]⟩ : ByteArray).toList = [] := by rw [ByteArray.toList_eq]
theorem neqVal0 (w : World) : (binOp .neq 28 (.agg #[.int .i64 0, .int .u64 0, .string ⟨#[]⟩]) (.agg #[.int .i64 0, .int .u64 0, .string ⟨#[]⟩])).run Tryz.prog w = .ok (.bool false) w := by simp [go_sem]
theorem neqBal0 (w : World) : (binOp .neq 82 (.agg #[.int .u32 0, .int .i64 0]) (.agg #[.int .u32 0, .int .i64 0])).run Tryz.prog w = .ok (.bool false) w := by simp [go_sem]
set_option maxRecDepth 100000 in
set_option maxHeartbeats 4000000 in
theorem ref10First (k : Int) (hk : k = 8 ∨ k = 12 ∨ k = 14) (t : Tx) (A B : Option Addr) (ca cb st : Nat) (num : Int) (key : ByteArray) (w : World) : Calls Tryz.prog 73 #[.agg (sM k t A B ca cb st num key).vs] w fun e w' => e = .returned (.bool true) ∧ Below w.heap.size w w' := by
  obtain ⟨W, eW, HB, hszW, hr0⟩ := boxed w (sM k t A B ca cb st num key).vs 85
  clear hszW
  obtain ⟨c0, c1, c2, c3, c4, c5, c6, c7, c8, c9, c10, c11, c12, c13, c14, c15, c16, _, _, _, _, _, _, _, _, _, _, _, _, _, _, _, _, _⟩ := msg_cs hr0
  replace c0 : W.cell? ⟨w.heap.size, 0, none⟩ = some (.int .i64 k) := c0
  replace c1 : W.cell? ⟨w.heap.size, 1, none⟩ = some (.int .u32 0) := c1
  replace c2 : W.cell? ⟨w.heap.size, 2, none⟩ = some (.int .i64 0) := c2
  replace c3 : W.cell? ⟨w.heap.size, 3, none⟩ = some (.int .i64 0) := c3
  replace c4 : W.cell? ⟨w.heap.size, 4, none⟩ = some (.bool false) := c4
  replace c5 : W.cell? ⟨w.heap.size, 5, none⟩ = some (.int .u32 0) := c5
  replace c6 : W.cell? ⟨w.heap.size, 6, none⟩ = some (.int .i64 0) := c6
  replace c7 : W.cell? ⟨w.heap.size, 7, none⟩ = some (.int .i64 0) := c7
  replace c8 : W.cell? ⟨w.heap.size, 8, none⟩ = some (.int .i64 0) := c8
  replace c9 : W.cell? ⟨w.heap.size, 9, none⟩ = some (.int .i64 0) := c9
  replace c10 : W.cell? ⟨w.heap.size, 10, none⟩ = some (.slice none 0 0) := c10
  replace c11 : W.cell? ⟨w.heap.size, 11, none⟩ = some (.slice none 0 0) := c11
  replace c12 : W.cell? ⟨w.heap.size, 12, none⟩ = some (.int .i64 0) := c12
  replace c13 : W.cell? ⟨w.heap.size, 13, none⟩ = some (.int .i64 0) := c13
  replace c14 : W.cell? ⟨w.heap.size, 14, none⟩ = some (.int .i64 0) := c14
  replace c15 : W.cell? ⟨w.heap.size, 15, none⟩ = some (.int .u64 0) := c15
  replace c16 : W.cell? ⟨w.heap.size, 16, none⟩ = some (.bool false) := c16
  have hS := Lib.hid (ref09Same_zero W)
  have hnb := neqBal0
  clear hr0
  rcases hk with rfl | rfl | rfl
  · go_enter Tryz.func73, Tryz.ntmps73
    go_wp2_with (first
      | (go_at_call 75; with_reducible refine (uses_8_ballot _).mono ?_; rintro e w1 ⟨rfl, rfl⟩)
      | (go_at_call 75; with_reducible refine (uses_8_slot _).mono ?_; rintro e w1 ⟨rfl, rfl⟩)
      | (go_at_call 75; with_reducible refine (uses_8_has _).mono ?_; rintro e w1 ⟨rfl, rfl⟩)
      | (go_at_call 75; with_reducible refine (uses_8_command _).mono ?_; rintro e w1 ⟨rfl, rfl⟩)
      | (go_at_call 75; with_reducible refine (uses_8_txn _).mono ?_; rintro e w1 ⟨rfl, rfl⟩)
      | (go_at_call 75; with_reducible refine (uses_8_id _).mono ?_; rintro e w1 ⟨rfl, rfl⟩)
      | (go_at_call 75; with_reducible refine (uses_8_group _).mono ?_; rintro e w1 ⟨rfl, rfl⟩)
      | (go_at_call 75; with_reducible refine (uses_8_stamp _).mono ?_; rintro e w1 ⟨rfl, rfl⟩)
      | (go_at_call 75; with_reducible refine (uses_8_yes _).mono ?_; rintro e w1 ⟨rfl, rfl⟩)
      | (go_at_call 75; with_reducible refine (uses_8_number _).mono ?_; rintro e w1 ⟨rfl, rfl⟩)
      | (go_at_call 75; with_reducible refine (uses_8_key _).mono ?_; rintro e w1 ⟨rfl, rfl⟩)
      | (go_at_call 75; with_reducible refine (uses_8_value _).mono ?_; rintro e w1 ⟨rfl, rfl⟩)
      | (go_at_call 75; with_reducible refine (uses_8_data _).mono ?_; rintro e w1 ⟨rfl, rfl⟩)
      | (go_at_call 124; refine hS.out.mono ?_; rintro e w1 ⟨rfl, hb⟩))
    go_ret
    exact ⟨rfl, keepB HB hb⟩
  · go_enter Tryz.func73, Tryz.ntmps73
    go_wp2_with (first
      | (go_at_call 75; with_reducible refine (uses_12_ballot _).mono ?_; rintro e w1 ⟨rfl, rfl⟩)
      | (go_at_call 75; with_reducible refine (uses_12_slot _).mono ?_; rintro e w1 ⟨rfl, rfl⟩)
      | (go_at_call 75; with_reducible refine (uses_12_has _).mono ?_; rintro e w1 ⟨rfl, rfl⟩)
      | (go_at_call 75; with_reducible refine (uses_12_command _).mono ?_; rintro e w1 ⟨rfl, rfl⟩)
      | (go_at_call 75; with_reducible refine (uses_12_txn _).mono ?_; rintro e w1 ⟨rfl, rfl⟩)
      | (go_at_call 75; with_reducible refine (uses_12_id _).mono ?_; rintro e w1 ⟨rfl, rfl⟩)
      | (go_at_call 75; with_reducible refine (uses_12_group _).mono ?_; rintro e w1 ⟨rfl, rfl⟩)
      | (go_at_call 75; with_reducible refine (uses_12_stamp _).mono ?_; rintro e w1 ⟨rfl, rfl⟩)
      | (go_at_call 75; with_reducible refine (uses_12_yes _).mono ?_; rintro e w1 ⟨rfl, rfl⟩)
      | (go_at_call 75; with_reducible refine (uses_12_number _).mono ?_; rintro e w1 ⟨rfl, rfl⟩)
      | (go_at_call 75; with_reducible refine (uses_12_key _).mono ?_; rintro e w1 ⟨rfl, rfl⟩)
      | (go_at_call 75; with_reducible refine (uses_12_value _).mono ?_; rintro e w1 ⟨rfl, rfl⟩)
      | (go_at_call 75; with_reducible refine (uses_12_data _).mono ?_; rintro e w1 ⟨rfl, rfl⟩)
      | (go_at_call 124; refine hS.out.mono ?_; rintro e w1 ⟨rfl, hb⟩))
    go_ret
    exact ⟨rfl, keepB HB hb⟩
  · go_enter Tryz.func73, Tryz.ntmps73
    go_wp2_with (first
      | (go_at_call 75; with_reducible refine (uses_14_ballot _).mono ?_; rintro e w1 ⟨rfl, rfl⟩)
      | (go_at_call 75; with_reducible refine (uses_14_slot _).mono ?_; rintro e w1 ⟨rfl, rfl⟩)
      | (go_at_call 75; with_reducible refine (uses_14_has _).mono ?_; rintro e w1 ⟨rfl, rfl⟩)
      | (go_at_call 75; with_reducible refine (uses_14_command _).mono ?_; rintro e w1 ⟨rfl, rfl⟩)
      | (go_at_call 75; with_reducible refine (uses_14_txn _).mono ?_; rintro e w1 ⟨rfl, rfl⟩)
      | (go_at_call 75; with_reducible refine (uses_14_id _).mono ?_; rintro e w1 ⟨rfl, rfl⟩)
      | (go_at_call 75; with_reducible refine (uses_14_group _).mono ?_; rintro e w1 ⟨rfl, rfl⟩)
      | (go_at_call 75; with_reducible refine (uses_14_stamp _).mono ?_; rintro e w1 ⟨rfl, rfl⟩)
      | (go_at_call 75; with_reducible refine (uses_14_yes _).mono ?_; rintro e w1 ⟨rfl, rfl⟩)
      | (go_at_call 75; with_reducible refine (uses_14_number _).mono ?_; rintro e w1 ⟨rfl, rfl⟩)
      | (go_at_call 75; with_reducible refine (uses_14_key _).mono ?_; rintro e w1 ⟨rfl, rfl⟩)
      | (go_at_call 75; with_reducible refine (uses_14_value _).mono ?_; rintro e w1 ⟨rfl, rfl⟩)
      | (go_at_call 75; with_reducible refine (uses_14_data _).mono ?_; rintro e w1 ⟨rfl, rfl⟩)
      | (go_at_call 124; refine hS.out.mono ?_; rintro e w1 ⟨rfl, hb⟩))
    go_ret
    exact ⟨rfl, keepB HB hb⟩
set_option maxRecDepth 100000 in
set_option maxHeartbeats 4000000 in
theorem ref10Second14 (n : Nat) (hn : n ≤ 2147483647) (w : World) : Calls Tryz.prog 74 #[.agg (sM 14 ZT none none 0 0 0 (n : Int) noStr).vs] w fun e w' => e = .returned (.bool true) ∧ Below w.heap.size w w' := by
  obtain ⟨W, eW, HB, hszW, hr0⟩ := boxed w (sM 14 ZT none none 0 0 0 (n : Int) noStr).vs 85
  clear hszW
  obtain ⟨c0, _, _, _, _, _, _, _, _, _, _, _, _, _, _, _, _, c17, c18, c19, c20, c21, c22, c23, c24, c25, c26, _, _, _, _, _, _, _⟩ := msg_cs hr0
  replace c0 : W.cell? ⟨w.heap.size, 0, none⟩ = some (.int .i64 14) := c0
  replace c17 : W.cell? ⟨w.heap.size, 17, none⟩ = some (.int .i64 0) := c17
  replace c18 : W.cell? ⟨w.heap.size, 18, none⟩ = some (.int .i64 0) := c18
  replace c19 : W.cell? ⟨w.heap.size, 19, none⟩ = some (.slice none 0 0) := c19
  replace c20 : W.cell? ⟨w.heap.size, 20, none⟩ = some (.slice none 0 0) := c20
  replace c21 : W.cell? ⟨w.heap.size, 21, none⟩ = some (.int .i64 0) := c21
  replace c22 : W.cell? ⟨w.heap.size, 22, none⟩ = some (.int .i64 0) := c22
  replace c23 : W.cell? ⟨w.heap.size, 23, none⟩ = some (.int .i64 0) := c23
  replace c24 : W.cell? ⟨w.heap.size, 24, none⟩ = some (.int .u64 0) := c24
  replace c25 : W.cell? ⟨w.heap.size, 25, none⟩ = some (.bool false) := c25
  replace c26 : W.cell? ⟨w.heap.size, 26, none⟩ = some (.int .i64 (n : Int)) := c26
  have hS : Hid (Calls Tryz.prog 125 #[.agg #[.int .i64 0, .int .i64 0, .slice none 0 0, .slice none 0 0], .agg #[.int .i64 0, .int .i64 0, .slice none 0 0, .slice none 0 0]] W fun e w' => e = .returned (.bool true) ∧ Below W.heap.size W w') := by
    have := refTxSame_any ZT ZT none none none none 0 0 0 0 W (noTx_lies10 W) (noTx_lies10 W)
    rw [sameT_self0] at this
    exact this
  have q1 : (0 : Int) ≤ (n : Int) := by omega
  have q2 : decide ((n : Int) ≤ 2147483647) = true := by rw [decide_eq_true_iff]; omega
  have q3 : decide ((0 : Int) ≤ (n : Int)) = true := by rw [decide_eq_true_iff]; omega
  clear hn
  have hni := neqId 0 0 0 0
  clear hr0
  go_enter Tryz.func74, Tryz.ntmps74
  go_wp2_with (first
      | (go_at_call 75; with_reducible refine (uses_14_ballot _).mono ?_; rintro e w1 ⟨rfl, rfl⟩)
      | (go_at_call 75; with_reducible refine (uses_14_slot _).mono ?_; rintro e w1 ⟨rfl, rfl⟩)
      | (go_at_call 75; with_reducible refine (uses_14_has _).mono ?_; rintro e w1 ⟨rfl, rfl⟩)
      | (go_at_call 75; with_reducible refine (uses_14_command _).mono ?_; rintro e w1 ⟨rfl, rfl⟩)
      | (go_at_call 75; with_reducible refine (uses_14_txn _).mono ?_; rintro e w1 ⟨rfl, rfl⟩)
      | (go_at_call 75; with_reducible refine (uses_14_id _).mono ?_; rintro e w1 ⟨rfl, rfl⟩)
      | (go_at_call 75; with_reducible refine (uses_14_group _).mono ?_; rintro e w1 ⟨rfl, rfl⟩)
      | (go_at_call 75; with_reducible refine (uses_14_stamp _).mono ?_; rintro e w1 ⟨rfl, rfl⟩)
      | (go_at_call 75; with_reducible refine (uses_14_yes _).mono ?_; rintro e w1 ⟨rfl, rfl⟩)
      | (go_at_call 75; with_reducible refine (uses_14_number _).mono ?_; rintro e w1 ⟨rfl, rfl⟩)
      | (go_at_call 75; with_reducible refine (uses_14_key _).mono ?_; rintro e w1 ⟨rfl, rfl⟩)
      | (go_at_call 75; with_reducible refine (uses_14_value _).mono ?_; rintro e w1 ⟨rfl, rfl⟩)
      | (go_at_call 75; with_reducible refine (uses_14_data _).mono ?_; rintro e w1 ⟨rfl, rfl⟩)
      | (go_at_call 125; refine hS.out.mono ?_; rintro e w1 ⟨rfl, hb⟩; replace c0 := keep hb c0; replace c17 := keep hb c17; replace c18 := keep hb c18; replace c19 := keep hb c19; replace c20 := keep hb c20; replace c21 := keep hb c21; replace c22 := keep hb c22; replace c23 := keep hb c23; replace c24 := keep hb c24; replace c25 := keep hb c25; replace c26 := keep hb c26; replace HB := keepB HB hb))
  go_ret
  exact ⟨rfl, HB⟩
set_option maxRecDepth 100000 in
set_option maxHeartbeats 4000000 in
theorem ref10Second12 (n st : Nat) (key : ByteArray) (hn : n ≤ 2147483647) (w : World) : Calls Tryz.prog 74 #[.agg (sM 12 ZT none none 0 0 st (n : Int) key).vs] w fun e w' => e = .returned (.bool true) ∧ Below w.heap.size w w' := by
  obtain ⟨W, eW, HB, hszW, hr0⟩ := boxed w (sM 12 ZT none none 0 0 st (n : Int) key).vs 85
  clear hszW
  obtain ⟨c0, _, _, _, _, _, _, _, _, _, _, _, _, _, _, _, _, c17, c18, c19, c20, c21, c22, c23, c24, c25, c26, _, _, _, _, _, _, _⟩ := msg_cs hr0
  replace c0 : W.cell? ⟨w.heap.size, 0, none⟩ = some (.int .i64 12) := c0
  replace c17 : W.cell? ⟨w.heap.size, 17, none⟩ = some (.int .i64 0) := c17
  replace c18 : W.cell? ⟨w.heap.size, 18, none⟩ = some (.int .i64 0) := c18
  replace c19 : W.cell? ⟨w.heap.size, 19, none⟩ = some (.slice none 0 0) := c19
  replace c20 : W.cell? ⟨w.heap.size, 20, none⟩ = some (.slice none 0 0) := c20
  replace c21 : W.cell? ⟨w.heap.size, 21, none⟩ = some (.int .i64 0) := c21
  replace c22 : W.cell? ⟨w.heap.size, 22, none⟩ = some (.int .i64 0) := c22
  replace c23 : W.cell? ⟨w.heap.size, 23, none⟩ = some (.int .i64 0) := c23
  replace c24 : W.cell? ⟨w.heap.size, 24, none⟩ = some (.int .u64 (st : Int)) := c24
  replace c25 : W.cell? ⟨w.heap.size, 25, none⟩ = some (.bool false) := c25
  replace c26 : W.cell? ⟨w.heap.size, 26, none⟩ = some (.int .i64 (n : Int)) := c26
  have hS : Hid (Calls Tryz.prog 125 #[.agg #[.int .i64 0, .int .i64 0, .slice none 0 0, .slice none 0 0], .agg #[.int .i64 0, .int .i64 0, .slice none 0 0, .slice none 0 0]] W fun e w' => e = .returned (.bool true) ∧ Below W.heap.size W w') := by
    have := refTxSame_any ZT ZT none none none none 0 0 0 0 W (noTx_lies10 W) (noTx_lies10 W)
    rw [sameT_self0] at this
    exact this
  have q1 : (0 : Int) ≤ (n : Int) := by omega
  have q2 : decide ((n : Int) ≤ 2147483647) = true := by rw [decide_eq_true_iff]; omega
  have q3 : decide ((0 : Int) ≤ (n : Int)) = true := by rw [decide_eq_true_iff]; omega
  clear hn
  have hni := neqId 0 0 0 0
  clear hr0
  go_enter Tryz.func74, Tryz.ntmps74
  go_wp2_with (first
      | (go_at_call 75; with_reducible refine (uses_12_ballot _).mono ?_; rintro e w1 ⟨rfl, rfl⟩)
      | (go_at_call 75; with_reducible refine (uses_12_slot _).mono ?_; rintro e w1 ⟨rfl, rfl⟩)
      | (go_at_call 75; with_reducible refine (uses_12_has _).mono ?_; rintro e w1 ⟨rfl, rfl⟩)
      | (go_at_call 75; with_reducible refine (uses_12_command _).mono ?_; rintro e w1 ⟨rfl, rfl⟩)
      | (go_at_call 75; with_reducible refine (uses_12_txn _).mono ?_; rintro e w1 ⟨rfl, rfl⟩)
      | (go_at_call 75; with_reducible refine (uses_12_id _).mono ?_; rintro e w1 ⟨rfl, rfl⟩)
      | (go_at_call 75; with_reducible refine (uses_12_group _).mono ?_; rintro e w1 ⟨rfl, rfl⟩)
      | (go_at_call 75; with_reducible refine (uses_12_stamp _).mono ?_; rintro e w1 ⟨rfl, rfl⟩)
      | (go_at_call 75; with_reducible refine (uses_12_yes _).mono ?_; rintro e w1 ⟨rfl, rfl⟩)
      | (go_at_call 75; with_reducible refine (uses_12_number _).mono ?_; rintro e w1 ⟨rfl, rfl⟩)
      | (go_at_call 75; with_reducible refine (uses_12_key _).mono ?_; rintro e w1 ⟨rfl, rfl⟩)
      | (go_at_call 75; with_reducible refine (uses_12_value _).mono ?_; rintro e w1 ⟨rfl, rfl⟩)
      | (go_at_call 75; with_reducible refine (uses_12_data _).mono ?_; rintro e w1 ⟨rfl, rfl⟩)
      | (go_at_call 125; refine hS.out.mono ?_; rintro e w1 ⟨rfl, hb⟩; replace c0 := keep hb c0; replace c17 := keep hb c17; replace c18 := keep hb c18; replace c19 := keep hb c19; replace c20 := keep hb c20; replace c21 := keep hb c21; replace c22 := keep hb c22; replace c23 := keep hb c23; replace c24 := keep hb c24; replace c25 := keep hb c25; replace c26 := keep hb c26; replace HB := keepB HB hb))
  go_ret
  exact ⟨rfl, HB⟩
set_option maxRecDepth 100000 in
set_option maxHeartbeats 4000000 in
theorem ref10Second8 (t : Tx) (A B : Option Addr) (ca cb : Nat) (hF : formedT t = true) (w : World) (ht : TxAt w t A B) : Calls Tryz.prog 74 #[.agg (sM 8 t A B ca cb 0 0 noStr).vs] w fun e w' => e = .returned (.bool true) ∧ Below w.heap.size w w' := by
  obtain ⟨W, eW, HB, hszW, hr0⟩ := boxed w (sM 8 t A B ca cb 0 0 noStr).vs 85
  clear hszW
  obtain ⟨c0, _, _, _, _, _, _, _, _, _, _, _, _, _, _, _, _, c17, c18, c19, c20, c21, c22, c23, c24, c25, c26, _, _, _, _, _, _, _⟩ := msg_cs hr0
  replace c0 : W.cell? ⟨w.heap.size, 0, none⟩ = some (.int .i64 8) := c0
  replace c17 : W.cell? ⟨w.heap.size, 17, none⟩ = some (.int .i64 t.ses) := c17
  replace c18 : W.cell? ⟨w.heap.size, 18, none⟩ = some (.int .i64 t.seq) := c18
  replace c19 : W.cell? ⟨w.heap.size, 19, none⟩ = some (.slice A t.rds.length ca) := c19
  replace c20 : W.cell? ⟨w.heap.size, 20, none⟩ = some (.slice B t.wrs.length cb) := c20
  replace c21 : W.cell? ⟨w.heap.size, 21, none⟩ = some (.int .i64 0) := c21
  replace c22 : W.cell? ⟨w.heap.size, 22, none⟩ = some (.int .i64 0) := c22
  replace c23 : W.cell? ⟨w.heap.size, 23, none⟩ = some (.int .i64 0) := c23
  replace c24 : W.cell? ⟨w.heap.size, 24, none⟩ = some (.int .u64 0) := c24
  replace c25 : W.cell? ⟨w.heap.size, 25, none⟩ = some (.bool false) := c25
  replace c26 : W.cell? ⟨w.heap.size, 26, none⟩ = some (.int .i64 0) := c26
  have hS : Hid (Calls Tryz.prog 25 #[.agg #[.int .i64 t.ses, .int .i64 t.seq, .slice A t.rds.length ca, .slice B t.wrs.length cb]] W fun e w' => e = .returned (.bool true) ∧ Below W.heap.size W w') := by
    have := refTxFormed_any t A B ca cb W (ht.later HB)
    rw [hF] at this
    exact this
  have hni := neqId 0 0 0 0
  clear hr0
  go_enter Tryz.func74, Tryz.ntmps74
  go_wp2_with (first
      | (go_at_call 75; with_reducible refine (uses_8_ballot _).mono ?_; rintro e w1 ⟨rfl, rfl⟩)
      | (go_at_call 75; with_reducible refine (uses_8_slot _).mono ?_; rintro e w1 ⟨rfl, rfl⟩)
      | (go_at_call 75; with_reducible refine (uses_8_has _).mono ?_; rintro e w1 ⟨rfl, rfl⟩)
      | (go_at_call 75; with_reducible refine (uses_8_command _).mono ?_; rintro e w1 ⟨rfl, rfl⟩)
      | (go_at_call 75; with_reducible refine (uses_8_txn _).mono ?_; rintro e w1 ⟨rfl, rfl⟩)
      | (go_at_call 75; with_reducible refine (uses_8_id _).mono ?_; rintro e w1 ⟨rfl, rfl⟩)
      | (go_at_call 75; with_reducible refine (uses_8_group _).mono ?_; rintro e w1 ⟨rfl, rfl⟩)
      | (go_at_call 75; with_reducible refine (uses_8_stamp _).mono ?_; rintro e w1 ⟨rfl, rfl⟩)
      | (go_at_call 75; with_reducible refine (uses_8_yes _).mono ?_; rintro e w1 ⟨rfl, rfl⟩)
      | (go_at_call 75; with_reducible refine (uses_8_number _).mono ?_; rintro e w1 ⟨rfl, rfl⟩)
      | (go_at_call 75; with_reducible refine (uses_8_key _).mono ?_; rintro e w1 ⟨rfl, rfl⟩)
      | (go_at_call 75; with_reducible refine (uses_8_value _).mono ?_; rintro e w1 ⟨rfl, rfl⟩)
      | (go_at_call 75; with_reducible refine (uses_8_data _).mono ?_; rintro e w1 ⟨rfl, rfl⟩)
      | (go_at_call 25; refine hS.out.mono ?_; rintro e w1 ⟨rfl, hb⟩; replace c0 := keep hb c0; replace c17 := keep hb c17; replace c18 := keep hb c18; replace c19 := keep hb c19; replace c20 := keep hb c20; replace c21 := keep hb c21; replace c22 := keep hb c22; replace c23 := keep hb c23; replace c24 := keep hb c24; replace c25 := keep hb c25; replace c26 := keep hb c26; replace HB := keepB HB hb))
  go_ret
  exact ⟨rfl, HB⟩
end Go.Proofs.YtjgloipgnnigmaaGreatDoor
