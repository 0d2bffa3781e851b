/- ClientNil's walk where the configuration and the session may be. -/
import Derived.Test.YtjgloipgnnigmaaGreatDoorLawNil21
namespace Go.Proofs.YtjgloipgnnigmaaGreatDoor
open Go.RowKit Go.Shelf Go.Sort

set_option maxRecDepth 100000 in
set_option maxHeartbeats 8000000 in
theorem law_nil_yes (c : Cfg) (ses : Int) (o : OpX) (A B : Option Addr) (ca cb : Nat) (w : World) (h : CfgAt w c A B) (ho : OpAt w o) (hk : cliOK ⟨c, A, B, ca, cb, ses⟩ = true) (hf : few21 c [o] = true) :
    Calls Tryz.prog 3 #[.agg #[.slice A c.reps.length ca, .slice B c.bnds.length cb], .int .i64 ses, o.v] w fun e w' => e = .returned (.bool true) ∧ Below w.heap.size w w' := by
  unfold OpX.v
  obtain ⟨W0, eW0, HB0, c0, c1⟩ := box2 w (.slice A c.reps.length ca) (.slice B c.bnds.length cb) 25
  obtain ⟨W, eW, HB1, hsz, hrow⟩ := boxed W0 o.vs 45
  replace c0 := keep HB1 c0
  replace c1 := keep HB1 c1
  have HB := keepB HB0 HB1
  have hC := Lib.hid (h.later HB)
  have HO := Lib.hid (ho.later HB)
  replace hrow := Lib.hid hrow
  clear HB0 HB1 hsz h ho
  replace hf := Lib.hid hf
  have HK := Lib.hid hk
  go_enter Tryz.func3, Tryz.ntmps3
  go_wp2_with (first
        | (refine wpList_load_cells rfl 45 _ rfl ⟨W0.heap.size, 0, none⟩ rfl o.vs _ (row_of_obj hrow.out) Tryz.underlying45 rfl info_op21 ?_)
        | (refine wpList_buildSlice1 rfl 48 45 _ rfl o.vs rfl _ Tryz.underlying48 info_op21 (by rw [op_size]; omega) (by rw [op_size]; omega) (zero_op21 _) ?_; obtain ⟨w5, e5, hb5, hs5, hr5⟩ := boxed w1 o.vs 45; rw [e5]; have hO5 := ops_one hr5 (HO.out.later hb5); have hC5 := hC.out.later hb5; clear e5)
        | (go_at_call 8; refine (awake21_any _).mono ?_; rintro e w1 ⟨rfl, hb⟩; replace c0 := keep hb c0; replace c1 := keep hb c1; replace hrow := Lib.hid (obj_keep hrow.out hb); replace HO := Lib.hid (HO.out.later hb); replace hC := Lib.hid (hC.out.later hb); replace HB := keepB HB hb; clear hb)
        | (go_at_call 9; refine (calls_few hf.out (few21_any c [o] A B (some ⟨w1.heap.size, 0, none⟩) ca cb 1 _ hC5 hO5 (by simp))).mono ?_; rintro e w2 ⟨rfl, hb⟩; replace hb := keepB hb5 hb; replace c0 := keep hb c0; replace c1 := keep hb c1; replace hrow := Lib.hid (obj_keep hrow.out hb); replace HO := Lib.hid (HO.out.later hb); replace hC := Lib.hid (hC.out.later hb); replace HB := keepB HB hb; obtain ⟨d0, d1, d2, d3, d4, d5, d40, dm⟩ := op_cs hrow.out; replace dm := Lib.hid dm; clear hb)
        | (go_at_call 10; refine (read_nil _ _).mono ?_; rintro e w3 ⟨rfl, hb⟩; (first | replace c0 := keep hb c0 | replace c0 := keep hb (keepA _ c0)); (first | replace c1 := keep hb c1 | replace c1 := keep hb (keepA _ c1)); (first | replace d1 := keep hb d1 | replace d1 := keep hb (keepA _ d1)); (first | replace d2 := keep hb d2 | replace d2 := keep hb (keepA _ d2)); (first | replace d3 := keep hb d3 | replace d3 := keep hb (keepA _ d3)); (first | replace d4 := keep hb d4 | replace d4 := keep hb (keepA _ d4)); (first | replace dm := Lib.hid (dm.out.later hb) | replace dm := Lib.hid (dm.out.later (keepB (below1 _ _) hb))); (first | replace HB := keepB HB hb | replace HB := keepB (keepB HB (below1 _ _)) hb); replace hC := Lib.hid (hC.out.later (hb)); clear hb)
        | (go_at_call 11; refine (commit_nil _).mono ?_; rintro e w3 ⟨rfl, hb⟩; (first | replace c0 := keep hb c0 | replace c0 := keep hb (keepA _ c0)); (first | replace c1 := keep hb c1 | replace c1 := keep hb (keepA _ c1)); (first | replace d1 := keep hb d1 | replace d1 := keep hb (keepA _ d1)); (first | replace d2 := keep hb d2 | replace d2 := keep hb (keepA _ d2)); (first | replace d3 := keep hb d3 | replace d3 := keep hb (keepA _ d3)); (first | replace d4 := keep hb d4 | replace d4 := keep hb (keepA _ d4)); (first | replace dm := Lib.hid (dm.out.later hb) | replace dm := Lib.hid (dm.out.later (keepB (below1 _ _) hb))); (first | replace HB := keepB HB hb | replace HB := keepB (keepB HB (below1 _ _)) hb); replace hC := Lib.hid (hC.out.later (hb)); clear hb)
        | (go_at_call 12; refine (snap_nil _ _ _ _).mono ?_; rintro e w3 ⟨rfl, hb⟩; (first | replace c0 := keep hb c0 | replace c0 := keep hb (keepA _ c0)); (first | replace c1 := keep hb c1 | replace c1 := keep hb (keepA _ c1)); (first | replace d1 := keep hb d1 | replace d1 := keep hb (keepA _ d1)); (first | replace d2 := keep hb d2 | replace d2 := keep hb (keepA _ d2)); (first | replace d3 := keep hb d3 | replace d3 := keep hb (keepA _ d3)); (first | replace d4 := keep hb d4 | replace d4 := keep hb (keepA _ d4)); (first | replace dm := Lib.hid (dm.out.later hb) | replace dm := Lib.hid (dm.out.later (keepB (below1 _ _) hb))); (first | replace HB := keepB HB hb | replace HB := keepB (keepB HB (below1 _ _)) hb); replace hC := Lib.hid (hC.out.later (keepB (below1 _ _) hb)); clear hb)
        | (go_at_call 13; refine (handle_nil o.m _).mono ?_; rintro e w3 ⟨rfl, hb⟩; (first | replace c0 := keep hb c0 | replace c0 := keep hb (keepA _ c0)); (first | replace c1 := keep hb c1 | replace c1 := keep hb (keepA _ c1)); (first | replace d1 := keep hb d1 | replace d1 := keep hb (keepA _ d1)); (first | replace d2 := keep hb d2 | replace d2 := keep hb (keepA _ d2)); (first | replace d3 := keep hb d3 | replace d3 := keep hb (keepA _ d3)); (first | replace d4 := keep hb d4 | replace d4 := keep hb (keepA _ d4)); (first | replace dm := Lib.hid (dm.out.later hb) | replace dm := Lib.hid (dm.out.later (keepB (below1 _ _) hb))); (first | replace HB := keepB HB hb | replace HB := keepB (keepB HB (below1 _ _)) hb); replace hC := Lib.hid (hC.out.later (hb)); clear hb)
        | (refine wpList_load_cells rfl 43 _ rfl ⟨W0.heap.size, 6, none⟩ rfl o.m.vs _ dm.out Tryz.underlying43 rfl info_msg10 ?_))
  clear eW0 eW
  simp only [cliOK, Bool.and_eq_true, decide_eq_true_eq] at hk
  obtain ⟨⟨hc, z1⟩, z8⟩ := hk
  have z1' : decide (1 ≤ ses) = true := decide_eq_true z1
  have z8' : decide (ses ≤ 8) = true := decide_eq_true z8
  have HF := Lib.hid hc
  clear hc z1 z8
  obtain ⟨wb, rfl⟩ : ∃ wb : World, wb = w3 := ⟨_, rfl⟩
  simp only [List.append_eq, List.cons_append, List.nil_append]
  go_region_held3 (fun w' => w'.cell? ⟨w.heap.size, 0, none⟩ = some (.slice A c.reps.length ca) ∧ w'.cell? ⟨w.heap.size, 1, none⟩ = some (.slice B c.bnds.length cb) ∧ w'.cell? ⟨W0.heap.size, 1, none⟩ = some (.string o.key) ∧ w'.cell? ⟨W0.heap.size, 2, none⟩ = some (.int .i64 o.val.kind) ∧ w'.cell? ⟨W0.heap.size, 3, none⟩ = some (.int .u64 (o.val.bits : Int)) ∧ w'.cell? ⟨W0.heap.size, 4, none⟩ = some (.string o.val.text) ∧ Below wb.heap.size wb w')
    (first | exact ⟨c0, c1, d1, d2, d3, d4, below_drew (Below.refl _ _)⟩ | (with_reducible exact ⟨keep hb ‹_ ∧ _ ∧ _ ∧ _ ∧ _ ∧ _ ∧ Below wb.heap.size wb _›.1, keep hb ‹_ ∧ _ ∧ _ ∧ _ ∧ _ ∧ _ ∧ Below wb.heap.size wb _›.2.1, keep hb ‹_ ∧ _ ∧ _ ∧ _ ∧ _ ∧ _ ∧ Below wb.heap.size wb _›.2.2.1, keep hb ‹_ ∧ _ ∧ _ ∧ _ ∧ _ ∧ _ ∧ Below wb.heap.size wb _›.2.2.2.1, keep hb ‹_ ∧ _ ∧ _ ∧ _ ∧ _ ∧ _ ∧ Below wb.heap.size wb _›.2.2.2.2.1, keep hb ‹_ ∧ _ ∧ _ ∧ _ ∧ _ ∧ _ ∧ Below wb.heap.size wb _›.2.2.2.2.2.1, keepB ‹_ ∧ _ ∧ _ ∧ _ ∧ _ ∧ _ ∧ Below wb.heap.size wb _›.2.2.2.2.2.2 hb⟩))
    (first
        | (go_at_call 14; refine (begin_nil _).mono ?_; rintro e w7 ⟨rfl, hb⟩)
        | (go_at_call 15; refine (write_nil _ _ _ _ _).mono ?_; rintro e w7 ⟨rfl, hb⟩)
        | (go_at_call 16; refine (abort_nil _).mono ?_; rintro e w7 ⟨rfl, hb⟩)
        | (go_at_call 17; refine (tick_nil _).mono ?_; rintro e w7 ⟨rfl, hb⟩)
        | (go_at_call 18; refine (state_nil _).mono ?_; rintro e w7 ⟨rfl, hb⟩)
        | (go_at_call 19; refine (floor_nil _).mono ?_; rintro e w7 ⟨rfl, hb⟩)
        | (go_at_call 20; refine (cliNew_ok ⟨c, A, B, ca, cb, ses⟩ _ (hC.out.later ‹_ ∧ _ ∧ _ ∧ _ ∧ _ ∧ _ ∧ Below wb.heap.size wb _›.2.2.2.2.2.2) HK.out).mono ?_; rintro e w7 ⟨p, rfl, _, hb⟩)
        | (go_at_call 21; refine (calls_b21 HF.out (refFormed_any c A B ca cb _ (hC.out.later ‹_ ∧ _ ∧ _ ∧ _ ∧ _ ∧ _ ∧ Below wb.heap.size wb _›.2.2.2.2.2.2))).mono ?_; rintro e w7 ⟨rfl, hb⟩))
  all_goals
    have HS : Below wb.heap.size wb _ := (‹_ ∧ _ ∧ _ ∧ _ ∧ _ ∧ _ ∧ Below wb.heap.size wb _›).2.2.2.2.2.2
    go_wp2
    go_ret
    exact ⟨rfl, keepB HB HS⟩
end Go.Proofs.YtjgloipgnnigmaaGreatDoor
