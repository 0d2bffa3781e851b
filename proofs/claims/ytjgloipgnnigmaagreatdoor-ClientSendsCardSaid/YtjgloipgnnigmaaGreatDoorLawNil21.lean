/- parishlaw21's awake; ClientNil's walk. -/
import Derived.Test.YtjgloipgnnigmaaGreatDoorFew21
import Derived.Test.YtjgloipgnnigmaaGreatDoorJ6
import Derived.Test.YtjgloipgnnigmaaGreatDoorJ3
import Derived.Deep.RegionHeld3
import Derived.Lib.QuietBelow
set_option linter.unusedVariables false
set_option linter.unusedSimpArgs false
namespace Go.Proofs.YtjgloipgnnigmaaGreatDoor
open Go.RowKit Go.Shelf Go.Sort

theorem one_at {w : World} {g : Nat} (h : w.cell? ⟨g, 0, none⟩ = some (.int .i64 1)) : CfgAt w ⟨[1], []⟩ (some ⟨g, 0, none⟩) none :=
  ⟨fun i hi => (by simp at hi; subst hi; exact ⟨g, 0, rfl, h⟩), fun i hi => (by simp at hi), fun i hi => (by simp at hi), by simp, by simp⟩
def cfg1 (g : Nat) : CliK := ⟨⟨[1], []⟩, some ⟨g, 0, none⟩, none, 1, 0, 1⟩
theorem cfg1_ok (g : Nat) : cliOK (cfg1 g) = true := show (formedB ⟨[1], []⟩ && decide ((1 : Int) ≤ 1) && decide ((1 : Int) ≤ 8)) = true by decide
theorem new_1 (g : Nat) (w : World) (h : w.cell? ⟨g, 0, none⟩ = some (.int .i64 1)) : Calls Tryz.prog 20 #[.agg #[.slice (some ⟨g, 0, none⟩) 1 1, .slice none 0 0], .int .i64 1] w (CliNewPost w (cfg1 g)) :=
  cliNew_ok (cfg1 g) w (one_at h) (cfg1_ok g)
theorem begin_1 {w : World} {B p : Nat} {K : CliK} {O : Nat → Prop} (h : CliAt w B p K cli0 O) (hB : B ≤ w.heap.size) : Calls Tryz.prog 14 #[.pointer (some ⟨p, 0, none⟩)] w (CliPost w B p K O (.int .i64 0) (beginD cli0)) :=
  begin_any h hB (by decide)
theorem state_1 {w : World} {B p : Nat} {K : CliK} {O : Nat → Prop} (h : CliAt w B p K (beginD cli0) O) : Calls Tryz.prog 18 #[.pointer (some ⟨p, 0, none⟩)] w fun e w' => e = .returned (.int .i64 1) ∧ w = w' :=
  state_any h
set_option maxHeartbeats 1000000 in
theorem awake21_any (w : World) : Calls Tryz.prog 8 #[] w fun e w' => e = .returned (.bool true) ∧ Below w.heap.size w w' := by
  go_enter Tryz.func8, Tryz.ntmps8
  go_wp2_with (first
    | (go_at_call 20; refine (new_1 w.heap.size _ (by simp [go_sem])).mono ?_; rintro e w1 ⟨p, rfl, hC, hb⟩; have hb0 := keepB (below1 _ _) hb; have hp := hC.lo; replace hC := Lib.hid hC)
    | (go_at_call 14; refine (begin_1 hC.out hb.size).mono ?_; rintro e w2 ⟨rfl, hC2, ho⟩; replace hC2 := Lib.hid hC2; have hb2 := ho.below hb0.size (fun k hk => by subst hk; exact Nat.le_trans (below1 w _).size hp))
    | (go_at_call 18; refine (state_1 hC2.out).mono ?_; rintro e w3 ⟨rfl, rfl⟩))
  go_ret
  exact ⟨rfl, hb0.trans hb2⟩
theorem zero_op21 (w : World) : (zeroValue 45).run Tryz.prog w = .ok (.agg #[.int .i64 0, .string ByteArray.empty, .int .i64 0, .int .u64 0, .string ByteArray.empty, .slice none 0 0, .int .i64 0, .int .u32 0, .int .i64 0, .int .i64 0, .bool false, .int .u32 0, .int .i64 0, .int .i64 0, .int .i64 0, .int .i64 0, .slice none 0 0, .slice none 0 0, .int .i64 0, .int .i64 0, .int .i64 0, .int .u64 0, .bool false, .int .i64 0, .int .i64 0, .slice none 0 0, .slice none 0 0, .int .i64 0, .int .i64 0, .int .i64 0, .int .u64 0, .bool false, .int .i64 0, .string ByteArray.empty, .int .u64 0, .int .i64 0, .int .u64 0, .string ByteArray.empty, .int .i64 0, .slice none 0 0, .int .i64 0]) w := by kernel_rfl
theorem ops_one {w : World} {g : Nat} {o : OpX} {t : TypeId} (h : w.heap[g]? = some (.cells o.vs t (0, 0))) (ho : OpAt w o) : OpsAt w (some ⟨g, 0, none⟩) [o] := fun i hi => by
  have : i = 0 := by simp at hi; omega
  subst this
  exact ⟨g, 0, rfl, row_of_obj h, ho⟩
set_option maxRecDepth 100000 in
set_option maxHeartbeats 4000000 in
theorem law_nil_no (c : Cfg) (ses : Int) (o : OpX) (A B : Option Addr) (ca cb : Nat) (w : World) (h : CfgAt w c A B) (ho : OpAt w o) (hq : (few21 c [o] && cliOK ⟨c, A, B, ca, cb, ses⟩) = false) :
    Calls Tryz.prog 3 #[.agg #[.slice A c.reps.length ca, .slice B c.bnds.length cb], .int .i64 ses, o.v] w fun e w' => e = .returned (.bool true) ∧ Below w.heap.size w w' := by
  unfold OpX.v
  obtain ⟨W0, eW0, HB0, c0, c1⟩ := box2 w (.slice A c.reps.length ca) (.slice B c.bnds.length cb) 25
  obtain ⟨W, eW, HB1, hsz, hrow⟩ := boxed W0 o.vs 45
  replace c0 := keep HB1 c0
  replace c1 := keep HB1 c1
  have HB := keepB HB0 HB1
  have hC := Lib.hid (h.later HB)
  have HO := Lib.hid (ho.later HB)
  replace hrow := Lib.hid hrow
  clear HB0 HB1 hsz h ho
  obtain ⟨f, hf⟩ : ∃ f, Hid (few21 c [o] = f) := ⟨_, rfl⟩
  replace hq := Lib.hid hq
  cases f
  · go_enter Tryz.func3, Tryz.ntmps3
    go_wp2_with (first
          | (refine wpList_load_cells rfl 45 _ rfl ⟨W0.heap.size, 0, none⟩ rfl o.vs _ (row_of_obj hrow.out) Tryz.underlying45 rfl info_op21 ?_)
          | (refine wpList_buildSlice1 rfl 48 45 _ rfl o.vs rfl _ Tryz.underlying48 info_op21 (by rw [op_size]; omega) (by rw [op_size]; omega) (zero_op21 _) ?_; obtain ⟨w5, e5, hb5, hs5, hr5⟩ := boxed w1 o.vs 45; rw [e5]; have hO5 := ops_one hr5 (HO.out.later hb5); have hC5 := hC.out.later hb5; clear e5)
          | (go_at_call 8; refine (awake21_any _).mono ?_; rintro e w1 ⟨rfl, hb⟩; replace c0 := keep hb c0; replace c1 := keep hb c1; replace hrow := Lib.hid (obj_keep hrow.out hb); replace HO := Lib.hid (HO.out.later hb); replace hC := Lib.hid (hC.out.later hb); replace HB := keepB HB hb; clear hb)
          | (go_at_call 9; refine (calls_few hf.out (few21_any c [o] A B (some ⟨w1.heap.size, 0, none⟩) ca cb 1 _ hC5 hO5 (by simp))).mono ?_; rintro e w2 ⟨rfl, hb⟩; replace hb := keepB hb5 hb; replace c0 := keep hb c0; replace c1 := keep hb c1; replace hrow := Lib.hid (obj_keep hrow.out hb); replace HO := Lib.hid (HO.out.later hb); replace hC := Lib.hid (hC.out.later hb); replace HB := keepB HB hb; obtain ⟨d0, d1, d2, d3, d4, d5, d40, dm⟩ := op_cs hrow.out; replace dm := Lib.hid dm; clear hb))
    go_ret
    exact ⟨rfl, HB⟩
  · have HT : Hid (True) := trivial
    go_enter Tryz.func3, Tryz.ntmps3
    go_wp2_with (first
          | (refine wpList_load_cells rfl 45 _ rfl ⟨W0.heap.size, 0, none⟩ rfl o.vs _ (row_of_obj hrow.out) Tryz.underlying45 rfl info_op21 ?_)
          | (refine wpList_buildSlice1 rfl 48 45 _ rfl o.vs rfl _ Tryz.underlying48 info_op21 (by rw [op_size]; omega) (by rw [op_size]; omega) (zero_op21 _) ?_; obtain ⟨w5, e5, hb5, hs5, hr5⟩ := boxed w1 o.vs 45; rw [e5]; have hO5 := ops_one hr5 (HO.out.later hb5); have hC5 := hC.out.later hb5; clear e5)
          | (go_at_call 8; refine (awake21_any _).mono ?_; rintro e w1 ⟨rfl, hb⟩; replace c0 := keep hb c0; replace c1 := keep hb c1; replace hrow := Lib.hid (obj_keep hrow.out hb); replace HO := Lib.hid (HO.out.later hb); replace hC := Lib.hid (hC.out.later hb); replace HB := keepB HB hb; clear hb)
          | (go_at_call 9; refine (calls_few hf.out (few21_any c [o] A B (some ⟨w1.heap.size, 0, none⟩) ca cb 1 _ hC5 hO5 (by simp))).mono ?_; rintro e w2 ⟨rfl, hb⟩; replace hb := keepB hb5 hb; replace c0 := keep hb c0; replace c1 := keep hb c1; replace hrow := Lib.hid (obj_keep hrow.out hb); replace HO := Lib.hid (HO.out.later hb); replace hC := Lib.hid (hC.out.later hb); replace HB := keepB HB hb; obtain ⟨d0, d1, d2, d3, d4, d5, d40, dm⟩ := op_cs hrow.out; replace dm := Lib.hid dm; clear hb)
          | (go_at_call 10; refine (read_nil _ _).mono ?_; rintro e w3 ⟨rfl, hb⟩; (first | replace c0 := keep hb c0 | replace c0 := keep hb (keepA _ c0)); (first | replace c1 := keep hb c1 | replace c1 := keep hb (keepA _ c1)); (first | replace d1 := keep hb d1 | replace d1 := keep hb (keepA _ d1)); (first | replace d2 := keep hb d2 | replace d2 := keep hb (keepA _ d2)); (first | replace d3 := keep hb d3 | replace d3 := keep hb (keepA _ d3)); (first | replace d4 := keep hb d4 | replace d4 := keep hb (keepA _ d4)); (first | replace dm := Lib.hid (dm.out.later hb) | replace dm := Lib.hid (dm.out.later (keepB (below1 _ _) hb))); (first | replace HB := keepB HB hb | replace HB := keepB (keepB HB (below1 _ _)) hb); replace hC := Lib.hid (hC.out.later (hb)); clear hb)
          | (go_at_call 11; refine (commit_nil _).mono ?_; rintro e w3 ⟨rfl, hb⟩; (first | replace c0 := keep hb c0 | replace c0 := keep hb (keepA _ c0)); (first | replace c1 := keep hb c1 | replace c1 := keep hb (keepA _ c1)); (first | replace d1 := keep hb d1 | replace d1 := keep hb (keepA _ d1)); (first | replace d2 := keep hb d2 | replace d2 := keep hb (keepA _ d2)); (first | replace d3 := keep hb d3 | replace d3 := keep hb (keepA _ d3)); (first | replace d4 := keep hb d4 | replace d4 := keep hb (keepA _ d4)); (first | replace dm := Lib.hid (dm.out.later hb) | replace dm := Lib.hid (dm.out.later (keepB (below1 _ _) hb))); (first | replace HB := keepB HB hb | replace HB := keepB (keepB HB (below1 _ _)) hb); replace hC := Lib.hid (hC.out.later (hb)); clear hb)
          | (go_at_call 12; refine (snap_nil _ _ _ _).mono ?_; rintro e w3 ⟨rfl, hb⟩; (first | replace c0 := keep hb c0 | replace c0 := keep hb (keepA _ c0)); (first | replace c1 := keep hb c1 | replace c1 := keep hb (keepA _ c1)); (first | replace d1 := keep hb d1 | replace d1 := keep hb (keepA _ d1)); (first | replace d2 := keep hb d2 | replace d2 := keep hb (keepA _ d2)); (first | replace d3 := keep hb d3 | replace d3 := keep hb (keepA _ d3)); (first | replace d4 := keep hb d4 | replace d4 := keep hb (keepA _ d4)); (first | replace dm := Lib.hid (dm.out.later hb) | replace dm := Lib.hid (dm.out.later (keepB (below1 _ _) hb))); (first | replace HB := keepB HB hb | replace HB := keepB (keepB HB (below1 _ _)) hb); replace hC := Lib.hid (hC.out.later (keepB (below1 _ _) hb)); clear hb)
          | (go_at_call 13; refine (handle_nil o.m _).mono ?_; rintro e w3 ⟨rfl, hb⟩; (first | replace c0 := keep hb c0 | replace c0 := keep hb (keepA _ c0)); (first | replace c1 := keep hb c1 | replace c1 := keep hb (keepA _ c1)); (first | replace d1 := keep hb d1 | replace d1 := keep hb (keepA _ d1)); (first | replace d2 := keep hb d2 | replace d2 := keep hb (keepA _ d2)); (first | replace d3 := keep hb d3 | replace d3 := keep hb (keepA _ d3)); (first | replace d4 := keep hb d4 | replace d4 := keep hb (keepA _ d4)); (first | replace dm := Lib.hid (dm.out.later hb) | replace dm := Lib.hid (dm.out.later (keepB (below1 _ _) hb))); (first | replace HB := keepB HB hb | replace HB := keepB (keepB HB (below1 _ _)) hb); replace hC := Lib.hid (hC.out.later (hb)); clear hb)
          | (refine wpList_load_cells rfl 43 _ rfl ⟨W0.heap.size, 6, none⟩ rfl o.m.vs _ dm.out Tryz.underlying43 rfl info_msg10 ?_))
    clear eW0 eW
    cases hk : cliOK ⟨c, A, B, ca, cb, ses⟩
    · have HK := Lib.hid hk
      cases hc : formedB c
      · have HF := Lib.hid hc
        clear hk hc
        obtain ⟨wb, rfl⟩ : ∃ wb : World, wb = w3 := ⟨_, rfl⟩
        have k0 := cell_regrown c0
        have k1 := cell_regrown c1
        have k2 := cell_regrown d1
        have k3 := cell_regrown d2
        have k4 := cell_regrown d3
        have k5 := cell_regrown d4
        have cB : ∀ d os, Calls Tryz.prog 14 #[.pointer none] (grow (redrawn wb d) os) fun e w'' => e = .returned (.int .i64 11) ∧ ∃ p : Regrown, w'' = grow (redrawn wb p.d) p.os := fun d os => Calls.regrown_of (begin_nil _)
        have cW : ∀ d os, Calls Tryz.prog 15 #[.pointer none, .string o.key, .agg #[.int .i64 o.val.kind, .int .u64 (o.val.bits : Int), .string o.val.text]] (grow (redrawn wb d) os) fun e w'' => e = .returned (.int .i64 11) ∧ ∃ p : Regrown, w'' = grow (redrawn wb p.d) p.os := fun d os => Calls.regrown_of (write_nil _ _ _ _ _)
        have cA : ∀ d os, Calls Tryz.prog 16 #[.pointer none] (grow (redrawn wb d) os) fun e w'' => e = .returned (.int .i64 11) ∧ ∃ p : Regrown, w'' = grow (redrawn wb p.d) p.os := fun d os => Calls.regrown_of (abort_nil _)
        have cT : ∀ d os, Calls Tryz.prog 17 #[.pointer none] (grow (redrawn wb d) os) fun e w'' => e = .returned (.slice none 0 0) ∧ ∃ p : Regrown, w'' = grow (redrawn wb p.d) p.os := fun d os => Calls.regrown_of (tick_nil _)
        have cS : ∀ d os, Calls Tryz.prog 18 #[.pointer none] (grow (redrawn wb d) os) fun e w'' => e = .returned (.int .i64 0) ∧ ∃ p : Regrown, w'' = grow (redrawn wb p.d) p.os := fun d os => Calls.regrown_of (state_nil _)
        have cF : ∀ d os, Calls Tryz.prog 19 #[.pointer none] (grow (redrawn wb d) os) fun e w'' => e = .returned (.int .u64 0) ∧ ∃ p : Regrown, w'' = grow (redrawn wb p.d) p.os := fun d os => Calls.regrown_of (floor_nil _)
        have cN : ∀ d os, Calls Tryz.prog 20 #[.agg #[.slice A c.reps.length ca, .slice B c.bnds.length cb], .int .i64 ses] (grow (redrawn wb d) os) fun e w'' => e = .returned (.pointer none) ∧ ∃ p : Regrown, w'' = grow (redrawn wb p.d) p.os := fun d os => Calls.regrown_of (cliNew_no ⟨c, A, B, ca, cb, ses⟩ _ (hC.out.later (below_regrown wb d os)) HK.out)
        have cR : ∀ d os, Calls Tryz.prog 21 #[.agg #[.slice A c.reps.length ca, .slice B c.bnds.length cb]] (grow (redrawn wb d) os) fun e w'' => e = .returned (.bool false) ∧ ∃ p : Regrown, w'' = grow (redrawn wb p.d) p.os := fun d os => Calls.regrown_of (calls_b21 HF.out (refFormed_any c A B ca cb _ (hC.out.later (below_regrown wb d os))))
        simp only [List.append_eq, List.cons_append, List.nil_append]
        refine wp_region_quiet_below (by kernel_rfl) (by kernel_rfl) ?_
        repeat (go_big_quiet_step (first | exact cB _ _ | exact cW _ _ | exact cA _ _ | exact cT _ _ | exact cS _ _ | exact cF _ _ | exact cN _ _ | exact cR _ _))
        refine wpQuiet_nil ?_
        intro _ hw'
        obtain ⟨⟨dq, osq⟩, hw''⟩ := hw'
        subst hw''
        have HQ := below_regrown wb dq osq
        clear k0 k1 k2 k3 k4 k5 cB cW cA cT cS cF cN cR
        go_wp2
        go_ret
        exact ⟨rfl, keepB HB HQ⟩
      · have HF := Lib.hid hc
        simp only [cliOK, hc, Bool.true_and, Bool.and_eq_false_iff, decide_eq_false_iff_not] at hk
        by_cases z1 : 1 ≤ ses
        · have z8 : decide (ses ≤ 8) = false := decide_eq_false (hk.resolve_left (fun q => q z1))
          have z1' : decide (1 ≤ ses) = true := decide_eq_true z1
          clear hk hc z1
          obtain ⟨wb, rfl⟩ : ∃ wb : World, wb = w3 := ⟨_, rfl⟩
          have k0 := cell_regrown c0
          have k1 := cell_regrown c1
          have k2 := cell_regrown d1
          have k3 := cell_regrown d2
          have k4 := cell_regrown d3
          have k5 := cell_regrown d4
          have cB : ∀ d os, Calls Tryz.prog 14 #[.pointer none] (grow (redrawn wb d) os) fun e w'' => e = .returned (.int .i64 11) ∧ ∃ p : Regrown, w'' = grow (redrawn wb p.d) p.os := fun d os => Calls.regrown_of (begin_nil _)
          have cW : ∀ d os, Calls Tryz.prog 15 #[.pointer none, .string o.key, .agg #[.int .i64 o.val.kind, .int .u64 (o.val.bits : Int), .string o.val.text]] (grow (redrawn wb d) os) fun e w'' => e = .returned (.int .i64 11) ∧ ∃ p : Regrown, w'' = grow (redrawn wb p.d) p.os := fun d os => Calls.regrown_of (write_nil _ _ _ _ _)
          have cA : ∀ d os, Calls Tryz.prog 16 #[.pointer none] (grow (redrawn wb d) os) fun e w'' => e = .returned (.int .i64 11) ∧ ∃ p : Regrown, w'' = grow (redrawn wb p.d) p.os := fun d os => Calls.regrown_of (abort_nil _)
          have cT : ∀ d os, Calls Tryz.prog 17 #[.pointer none] (grow (redrawn wb d) os) fun e w'' => e = .returned (.slice none 0 0) ∧ ∃ p : Regrown, w'' = grow (redrawn wb p.d) p.os := fun d os => Calls.regrown_of (tick_nil _)
          have cS : ∀ d os, Calls Tryz.prog 18 #[.pointer none] (grow (redrawn wb d) os) fun e w'' => e = .returned (.int .i64 0) ∧ ∃ p : Regrown, w'' = grow (redrawn wb p.d) p.os := fun d os => Calls.regrown_of (state_nil _)
          have cF : ∀ d os, Calls Tryz.prog 19 #[.pointer none] (grow (redrawn wb d) os) fun e w'' => e = .returned (.int .u64 0) ∧ ∃ p : Regrown, w'' = grow (redrawn wb p.d) p.os := fun d os => Calls.regrown_of (floor_nil _)
          have cN : ∀ d os, Calls Tryz.prog 20 #[.agg #[.slice A c.reps.length ca, .slice B c.bnds.length cb], .int .i64 ses] (grow (redrawn wb d) os) fun e w'' => e = .returned (.pointer none) ∧ ∃ p : Regrown, w'' = grow (redrawn wb p.d) p.os := fun d os => Calls.regrown_of (cliNew_no ⟨c, A, B, ca, cb, ses⟩ _ (hC.out.later (below_regrown wb d os)) HK.out)
          have cR : ∀ d os, Calls Tryz.prog 21 #[.agg #[.slice A c.reps.length ca, .slice B c.bnds.length cb]] (grow (redrawn wb d) os) fun e w'' => e = .returned (.bool true) ∧ ∃ p : Regrown, w'' = grow (redrawn wb p.d) p.os := fun d os => Calls.regrown_of (calls_b21 HF.out (refFormed_any c A B ca cb _ (hC.out.later (below_regrown wb d os))))
          simp only [List.append_eq, List.cons_append, List.nil_append]
          refine wp_region_quiet_below (by kernel_rfl) (by kernel_rfl) ?_
          repeat (go_big_quiet_step (first | exact cB _ _ | exact cW _ _ | exact cA _ _ | exact cT _ _ | exact cS _ _ | exact cF _ _ | exact cN _ _ | exact cR _ _))
          refine wpQuiet_nil ?_
          intro _ hw'
          obtain ⟨⟨dq, osq⟩, hw''⟩ := hw'
          subst hw''
          have HQ := below_regrown wb dq osq
          clear k0 k1 k2 k3 k4 k5 cB cW cA cT cS cF cN cR
          go_wp2
          go_ret
          exact ⟨rfl, keepB HB HQ⟩
        · have z1' : decide (1 ≤ ses) = false := decide_eq_false z1
          clear hk hc z1
          obtain ⟨wb, rfl⟩ : ∃ wb : World, wb = w3 := ⟨_, rfl⟩
          have k0 := cell_regrown c0
          have k1 := cell_regrown c1
          have k2 := cell_regrown d1
          have k3 := cell_regrown d2
          have k4 := cell_regrown d3
          have k5 := cell_regrown d4
          have cB : ∀ d os, Calls Tryz.prog 14 #[.pointer none] (grow (redrawn wb d) os) fun e w'' => e = .returned (.int .i64 11) ∧ ∃ p : Regrown, w'' = grow (redrawn wb p.d) p.os := fun d os => Calls.regrown_of (begin_nil _)
          have cW : ∀ d os, Calls Tryz.prog 15 #[.pointer none, .string o.key, .agg #[.int .i64 o.val.kind, .int .u64 (o.val.bits : Int), .string o.val.text]] (grow (redrawn wb d) os) fun e w'' => e = .returned (.int .i64 11) ∧ ∃ p : Regrown, w'' = grow (redrawn wb p.d) p.os := fun d os => Calls.regrown_of (write_nil _ _ _ _ _)
          have cA : ∀ d os, Calls Tryz.prog 16 #[.pointer none] (grow (redrawn wb d) os) fun e w'' => e = .returned (.int .i64 11) ∧ ∃ p : Regrown, w'' = grow (redrawn wb p.d) p.os := fun d os => Calls.regrown_of (abort_nil _)
          have cT : ∀ d os, Calls Tryz.prog 17 #[.pointer none] (grow (redrawn wb d) os) fun e w'' => e = .returned (.slice none 0 0) ∧ ∃ p : Regrown, w'' = grow (redrawn wb p.d) p.os := fun d os => Calls.regrown_of (tick_nil _)
          have cS : ∀ d os, Calls Tryz.prog 18 #[.pointer none] (grow (redrawn wb d) os) fun e w'' => e = .returned (.int .i64 0) ∧ ∃ p : Regrown, w'' = grow (redrawn wb p.d) p.os := fun d os => Calls.regrown_of (state_nil _)
          have cF : ∀ d os, Calls Tryz.prog 19 #[.pointer none] (grow (redrawn wb d) os) fun e w'' => e = .returned (.int .u64 0) ∧ ∃ p : Regrown, w'' = grow (redrawn wb p.d) p.os := fun d os => Calls.regrown_of (floor_nil _)
          have cN : ∀ d os, Calls Tryz.prog 20 #[.agg #[.slice A c.reps.length ca, .slice B c.bnds.length cb], .int .i64 ses] (grow (redrawn wb d) os) fun e w'' => e = .returned (.pointer none) ∧ ∃ p : Regrown, w'' = grow (redrawn wb p.d) p.os := fun d os => Calls.regrown_of (cliNew_no ⟨c, A, B, ca, cb, ses⟩ _ (hC.out.later (below_regrown wb d os)) HK.out)
          have cR : ∀ d os, Calls Tryz.prog 21 #[.agg #[.slice A c.reps.length ca, .slice B c.bnds.length cb]] (grow (redrawn wb d) os) fun e w'' => e = .returned (.bool true) ∧ ∃ p : Regrown, w'' = grow (redrawn wb p.d) p.os := fun d os => Calls.regrown_of (calls_b21 HF.out (refFormed_any c A B ca cb _ (hC.out.later (below_regrown wb d os))))
          simp only [List.append_eq, List.cons_append, List.nil_append]
          refine wp_region_quiet_below (by kernel_rfl) (by kernel_rfl) ?_
          repeat (go_big_quiet_step (first | exact cB _ _ | exact cW _ _ | exact cA _ _ | exact cT _ _ | exact cS _ _ | exact cF _ _ | exact cN _ _ | exact cR _ _))
          refine wpQuiet_nil ?_
          intro _ hw'
          obtain ⟨⟨dq, osq⟩, hw''⟩ := hw'
          subst hw''
          have HQ := below_regrown wb dq osq
          clear k0 k1 k2 k3 k4 k5 cB cW cA cT cS cF cN cR
          go_wp2
          go_ret
          exact ⟨rfl, keepB HB HQ⟩
    · have := hq.out
      rw [hf.out, hk] at this
      cases this
end Go.Proofs.YtjgloipgnnigmaaGreatDoor
