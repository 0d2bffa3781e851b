/- parishref10.Formed, kind 14. -/
import Derived.Test.YtjgloipgnnigmaaGreatDoorRefF10
set_option linter.unusedVariables false
set_option linter.unusedSimpArgs false
namespace Go.Proofs.YtjgloipgnnigmaaGreatDoor
open Go.RowKit Go.Shelf
set_option maxRecDepth 100000 in
set_option maxHeartbeats 4000000 in
theorem ref10Formed14 (n : Nat) (hn : n ≤ 2147483647) (w : World) : Calls Tryz.prog 29 #[.agg (sM 14 ZT none none 0 0 0 (n : Int) noStr).vs] w fun e w' => e = .returned (.bool true) ∧ Below w.heap.size w w' := by
  obtain ⟨W, eW, HB, hszW, hr0⟩ := boxed w (sM 14 ZT none none 0 0 0 (n : Int) noStr).vs 85
  clear hszW
  obtain ⟨c0, _, _, _, _, _, _, _, _, _, _, _, _, _, _, _, _, _, _, _, _, _, _, _, _, _, _, c27, c28, c29, c30, c31, c32, c33⟩ := msg_cs hr0
  replace c0 : W.cell? ⟨w.heap.size, 0, none⟩ = some (.int .i64 14) := c0
  replace c27 : W.cell? ⟨w.heap.size, 27, none⟩ = some (.string ⟨#[]⟩) := c27
  replace c28 : W.cell? ⟨w.heap.size, 28, none⟩ = some (.int .u64 0) := c28
  replace c29 : W.cell? ⟨w.heap.size, 29, none⟩ = some (.int .i64 0) := c29
  replace c30 : W.cell? ⟨w.heap.size, 30, none⟩ = some (.int .u64 0) := c30
  replace c31 : W.cell? ⟨w.heap.size, 31, none⟩ = some (.string ⟨#[]⟩) := c31
  replace c32 : W.cell? ⟨w.heap.size, 32, none⟩ = some (.int .i64 0) := c32
  replace c33 : W.cell? ⟨w.heap.size, 33, none⟩ = some (.slice none 0 0) := c33
  obtain ⟨mm, hmm⟩ : ∃ mm : MsgV, (sM 14 ZT none none 0 0 0 (n : Int) noStr) = mm := ⟨_, rfl⟩
  have h1 : Hid (∀ wz, Below W.heap.size W wz → Calls Tryz.prog 73 #[.agg mm.vs] wz fun e w' => e = .returned (.bool true) ∧ Below wz.heap.size wz w') := fun wz _ => by rw [← hmm]; exact ref10First 14 (.inr (.inr rfl)) ZT none none 0 0 0 (n : Int) noStr wz
  have h2 : Hid (∀ wz, Below W.heap.size W wz → Calls Tryz.prog 74 #[.agg mm.vs] wz fun e w' => e = .returned (.bool true) ∧ Below wz.heap.size wz w') := fun wz hz => by rw [← hmm]; exact ref10Second14 n hn wz
  have hV : Hid (∀ wz, Calls Tryz.prog 72 #[.agg #[.int .i64 0, .int .u64 0, .string ⟨#[]⟩]] wz fun e w' => e = .returned (.bool true) ∧ Below wz.heap.size wz w') := fun wz => refFormedV_any 0 0 noStr (by omega) (by decide) wz
  rw [hmm] at hr0 eW ⊢
  have hR := Lib.hid hr0
  have hvn := neqVal0
  have hl0 := nil_list
  have HK : Below W.heap.size W W := Below.refl _ _
  have HB0 := Lib.hid HB
  clear hr0 hmm HB hn
  go_enter Tryz.func29, Tryz.ntmps29
  go_wp2_with (first
      | (go_at_call 75; with_reducible refine (uses_14_ballot _).mono ?_; rintro e w1 ⟨rfl, rfl⟩)
      | (go_at_call 75; with_reducible refine (uses_14_slot _).mono ?_; rintro e w1 ⟨rfl, rfl⟩)
      | (go_at_call 75; with_reducible refine (uses_14_has _).mono ?_; rintro e w1 ⟨rfl, rfl⟩)
      | (go_at_call 75; with_reducible refine (uses_14_command _).mono ?_; rintro e w1 ⟨rfl, rfl⟩)
      | (go_at_call 75; with_reducible refine (uses_14_txn _).mono ?_; rintro e w1 ⟨rfl, rfl⟩)
      | (go_at_call 75; with_reducible refine (uses_14_id _).mono ?_; rintro e w1 ⟨rfl, rfl⟩)
      | (go_at_call 75; with_reducible refine (uses_14_group _).mono ?_; rintro e w1 ⟨rfl, rfl⟩)
      | (go_at_call 75; with_reducible refine (uses_14_stamp _).mono ?_; rintro e w1 ⟨rfl, rfl⟩)
      | (go_at_call 75; with_reducible refine (uses_14_yes _).mono ?_; rintro e w1 ⟨rfl, rfl⟩)
      | (go_at_call 75; with_reducible refine (uses_14_number _).mono ?_; rintro e w1 ⟨rfl, rfl⟩)
      | (go_at_call 75; with_reducible refine (uses_14_key _).mono ?_; rintro e w1 ⟨rfl, rfl⟩)
      | (go_at_call 75; with_reducible refine (uses_14_value _).mono ?_; rintro e w1 ⟨rfl, rfl⟩)
      | (go_at_call 75; with_reducible refine (uses_14_data _).mono ?_; rintro e w1 ⟨rfl, rfl⟩)
      | (refine wpList_load_cells rfl 85 _ rfl ⟨w.heap.size, 0, none⟩ rfl mm.vs _ (row_of_obj (obj_keep hR.out HK)) Tryz.underlying85 rfl info_rmsg10 ?_)
      | (go_at_call 73; refine (h1.out _ HK).mono ?_; rintro e w1 ⟨rfl, hb⟩; replace c0 := keep hb c0; replace c27 := keep hb c27; replace c28 := keep hb c28; replace c29 := keep hb c29; replace c30 := keep hb c30; replace c31 := keep hb c31; replace c32 := keep hb c32; replace c33 := keep hb c33; replace HK := keepB HK hb; clear hb)
      | (go_at_call 74; refine (h2.out _ HK).mono ?_; rintro e w1 ⟨rfl, hb⟩; replace c0 := keep hb c0; replace c27 := keep hb c27; replace c28 := keep hb c28; replace c29 := keep hb c29; replace c30 := keep hb c30; replace c31 := keep hb c31; replace c32 := keep hb c32; replace c33 := keep hb c33; replace HK := keepB HK hb; clear hb)
      | (go_at_call 72; refine (hV.out _).mono ?_; rintro e w1 ⟨rfl, hb⟩; replace c0 := keep hb c0; replace c27 := keep hb c27; replace c28 := keep hb c28; replace c29 := keep hb c29; replace c30 := keep hb c30; replace c31 := keep hb c31; replace c32 := keep hb c32; replace c33 := keep hb c33; replace HK := keepB HK hb; clear hb))
  go_ret
  exact ⟨rfl, keepB HB0.out HK⟩
end Go.Proofs.YtjgloipgnnigmaaGreatDoor
