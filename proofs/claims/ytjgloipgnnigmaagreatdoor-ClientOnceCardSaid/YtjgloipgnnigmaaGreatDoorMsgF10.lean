/- message.Formed, told loosely: some bool. -/
import Derived.Test.YtjgloipgnnigmaaGreatDoorSame10
import Derived.Test.YtjgloipgnnigmaaGreatDoorShelfF
import Derived.Test.YtjgloipgnnigmaaGreatDoorJ5
import Derived.Deep.DeepCutAuto
set_option linter.unusedVariables false
set_option linter.unusedSimpArgs false
namespace Go.Proofs.YtjgloipgnnigmaaGreatDoor
open Go.RowKit Go.Shelf Go.Sort

theorem ite_at {w : World} (P : Prop) [Decidable P] {a b : MsgV} (h1 : MsgAt w a) (h2 : MsgAt w b) : MsgAt w (if P then a else b) := by split <;> assumption
theorem onlyS_at {w : World} {m o : MsgV} (hm : MsgAt w m) (ho : MsgAt w o) (c : Nat) : MsgAt w (onlyS m o c) := by
  unfold onlyS
  repeat' apply ite_at
  all_goals exact ⟨by first | exact ho.c | exact hm.c, by first | exact ho.t | exact hm.t, by first | exact ho.d | exact hm.d, by first | exact ho.k | exact hm.k, by first | exact ho.v | exact hm.v, by first | exact ho.n | exact hm.n⟩
theorem only0_at (m : MsgV) (w : World) : MsgAt w (only0 m) := ⟨noTx_lies10 w, noTx_lies10 w, fun _ hi => absurd hi (Nat.not_lt_zero _), Nat.zero_le _, ⟨by show 0 < _; omega, Nat.zero_le _, by show _ ≤ (0 : Int); omega, by show (0 : Int) ≤ _; omega⟩, Nat.zero_le _⟩
theorem fold_at {w : World} {m : MsgV} (hm : MsgAt w m) (l : List UInt8) : ∀ o, MsgAt w o → MsgAt w (l.foldl (fun o b => onlyS m o b.toNat) o) := by
  induction l with
  | nil => intro o ho; exact ho
  | cons b l ih => intro o ho; exact ih _ (onlyS_at hm ho _)
theorem onlyD_at {w : World} {m : MsgV} (hm : MsgAt w m) : MsgAt w (onlyD m) := fold_at hm _ _ (only0_at m w)
theorem has_some (s : ByteArray) (c : UInt8) (g : Nat) (w : World) (hc : w.cell? ⟨g, 0, none⟩ = some (.string s)) :
    Calls Tryz.prog 93 #[.string ⟨#[c]⟩, .pointer (some ⟨g, 0, none⟩)] w fun e w' => (∃ r : Bool, e = .returned (.bool r)) ∧ w = w' := by
  have h := Tryz.strings_Contains_one s c w
  obtain ⟨r, hr⟩ : ∃ r, decide (0 ≤ Lib.indexByte s.data.toList c) = r := ⟨_, rfl⟩
  rw [hr] at h
  clear hr
  go_enter Tryz.func93, Tryz.ntmps93
  go_wp2_with (go_at_call 94; refine h.mono ?_; rintro e w1 ⟨rfl, rfl⟩)
  go_ret
  exact ⟨⟨_, rfl⟩, rfl⟩
set_option maxRecDepth 100000 in
set_option maxHeartbeats 32000000 in
theorem msgFormed_some (m : MsgV) (w : World) (hm : MsgAt w m) (hT : Tabs w) : Calls Tryz.prog 45 #[.agg m.vs] w (SomeB w) := by
  obtain ⟨W, eW, HB, hszW, hr0⟩ := boxed w m.vs 43
  clear hszW
  obtain ⟨s, hs⟩ : ∃ s, fieldsS m.kind = s := ⟨_, rfl⟩
  have HF : Hid (∀ wz, Calls Tryz.prog 90 #[.int .i64 m.kind] wz fun e w' => e = .returned (.string s) ∧ wz = w') := fun wz => by rw [← hs]; exact fields_any m.kind wz
  obtain ⟨wb, ewb, hbb, cf⟩ : ∃ wb, (W.alloc (.cells #[.string ⟨#[]⟩] 9)).setCell ⟨W.heap.size, 0, none⟩ (.string s) = wb ∧ Below W.heap.size W wb ∧ wb.cell? ⟨W.heap.size, 0, none⟩ = some (.string s) :=
    ⟨_, rfl, Below.setCell (p := ⟨W.heap.size, 0, none⟩) (below1 _ _) (Nat.le_refl _) _, by rw [cell_of_row _ _ _ _ _ _ (blk_set21 _ (heap_alloc_new W _))]; rfl⟩
  obtain ⟨c0, c1, c2, c3, c4, c5, c6, c7, c8, c9, c10, c11, c12, c13, c14, c15, c16, c17, c18, c19, c20, c21, c22, c23, c24, c25, c26, c27, c28, c29, c30, c31, c32, c33⟩ := msg_cs hr0
  have hm2 := Lib.hid ((hm.later HB).later hbb)
  have hT2 := Lib.hid ((hT.later HB).later hbb)
  have HBb := keepB HB hbb
  have hrowb := Lib.hid (obj_keep hr0 hbb)
  clear hr0 hm hT hs
  go_enter Tryz.func45, Tryz.ntmps45
  go_wp2_with (go_at_call 90; refine (HF.out _).mono ?_; rintro e w1 ⟨rfl, rfl⟩)
  try rw [ewb]
  clear ewb
  replace c0 := keep hbb c0
  replace c1 := keep hbb c1
  replace c2 := keep hbb c2
  replace c3 := keep hbb c3
  replace c4 := keep hbb c4
  replace c5 := keep hbb c5
  replace c6 := keep hbb c6
  replace c7 := keep hbb c7
  replace c8 := keep hbb c8
  replace c9 := keep hbb c9
  replace c10 := keep hbb c10
  replace c11 := keep hbb c11
  replace c12 := keep hbb c12
  replace c13 := keep hbb c13
  replace c14 := keep hbb c14
  replace c15 := keep hbb c15
  replace c16 := keep hbb c16
  replace c17 := keep hbb c17
  replace c18 := keep hbb c18
  replace c19 := keep hbb c19
  replace c20 := keep hbb c20
  replace c21 := keep hbb c21
  replace c22 := keep hbb c22
  replace c23 := keep hbb c23
  replace c24 := keep hbb c24
  replace c25 := keep hbb c25
  replace c26 := keep hbb c26
  replace c27 := keep hbb c27
  replace c28 := keep hbb c28
  replace c29 := keep hbb c29
  replace c30 := keep hbb c30
  replace c31 := keep hbb c31
  replace c32 := keep hbb c32
  replace c33 := keep hbb c33
  have k3 := cell_regrown c3
  have k23 := cell_regrown c23
  have k26 := cell_regrown c26
  have k32 := cell_regrown c32
  have k33 := cell_regrown c33
  have kf := cell_regrown cf
  have hCR : ∀ wz, (∃ p : Regrown, wz = grow (redrawn wb p.d) p.os) → CellRow wz ⟨w.heap.size, 0, none⟩ m.vs := fun wz ⟨p, e⟩ => by subst e; exact row_of_obj (obj_keep hrowb.out (below_regrown wb p.d p.os))
  obtain ⟨mo, hmo⟩ : ∃ mo, onlyD m = mo := ⟨_, rfl⟩
  obtain ⟨t1, ht1⟩ : ∃ r, sameM mo m = r := ⟨_, rfl⟩
  have hmoA : Hid (∀ wz, Below wb.heap.size wb wz → MsgAt wz mo) := fun wz hz => by rw [← hmo]; exact onlyD_at (hm2.out.later hz)
  have cO : ∀ d os, Calls Tryz.prog 92 #[.agg m.vs] (grow (redrawn wb d) os) fun e w'' => e = .returned (.agg mo.vs) ∧ ∃ p : Regrown, w'' = grow (redrawn wb p.d) p.os := fun d os => by
    have := only_any m (grow (redrawn wb d) os)
    rw [hmo] at this
    exact Calls.regrown_of this
  have cS : ∀ d os, Calls Tryz.prog 91 #[.agg mo.vs, .agg m.vs] (grow (redrawn wb d) os) fun e w'' => e = .returned (.bool t1) ∧ ∃ p : Regrown, w'' = grow (redrawn wb p.d) p.os := fun d os => by
    have := msgSame_any mo m (grow (redrawn wb d) os) (hmoA.out _ (below_regrown wb d os)) (hm2.out.later (below_regrown wb d os))
    rw [ht1] at this
    exact Calls.regrown_of this
  clear hmo ht1
  cases t0 : s.toList.isEmpty
  case true =>
    refine wp_region_quiet_below (by kernel_rfl) (by kernel_rfl) ?_
    repeat (first | (go_big_quiet_want; refine quiet_load_cells 43 _ rfl ⟨w.heap.size, 0, none⟩ rfl m.vs _ hCR Tryz.underlying43 rfl info_msg34 ?_; simp only [Act.put, List.setIfInBounds_toArray, List.set_cons_succ, List.set_cons_zero]; go_big_quiet_on) | go_big_quiet_step (first | exact cO _ _ | exact cS _ _))
    refine wpQuiet_nil ?_
    intro _ hw'
    obtain ⟨⟨dq, osq⟩, hw''⟩ := hw'
    subst hw''
    have HSq := below_regrown wb dq osq
    go_wp2
    go_ret
    exact ⟨_, rfl, keepB HBb HSq⟩
  cases t1
  case false =>
    refine wp_region_quiet_below (by kernel_rfl) (by kernel_rfl) ?_
    repeat (first | (go_big_quiet_want; refine quiet_load_cells 43 _ rfl ⟨w.heap.size, 0, none⟩ rfl m.vs _ hCR Tryz.underlying43 rfl info_msg34 ?_; simp only [Act.put, List.setIfInBounds_toArray, List.set_cons_succ, List.set_cons_zero]; go_big_quiet_on) | go_big_quiet_step (first | exact cO _ _ | exact cS _ _))
    refine wpQuiet_nil ?_
    intro _ hw'
    obtain ⟨⟨dq, osq⟩, hw''⟩ := hw'
    subst hw''
    have HSq := below_regrown wb dq osq
    go_wp2
    go_ret
    exact ⟨_, rfl, keepB HBb HSq⟩
  cases t2 : decide (m.slot < 0)
  case true =>
    refine wp_region_quiet_below (by kernel_rfl) (by kernel_rfl) ?_
    repeat (first | (go_big_quiet_want; refine quiet_load_cells 43 _ rfl ⟨w.heap.size, 0, none⟩ rfl m.vs _ hCR Tryz.underlying43 rfl info_msg34 ?_; simp only [Act.put, List.setIfInBounds_toArray, List.set_cons_succ, List.set_cons_zero]; go_big_quiet_on) | go_big_quiet_step (first | exact cO _ _ | exact cS _ _))
    refine wpQuiet_nil ?_
    intro _ hw'
    obtain ⟨⟨dq, osq⟩, hw''⟩ := hw'
    subst hw''
    have HSq := below_regrown wb dq osq
    go_wp2
    go_ret
    exact ⟨_, rfl, keepB HBb HSq⟩
  cases t3 : decide (1000000 < m.slot)
  case true =>
    refine wp_region_quiet_below (by kernel_rfl) (by kernel_rfl) ?_
    repeat (first | (go_big_quiet_want; refine quiet_load_cells 43 _ rfl ⟨w.heap.size, 0, none⟩ rfl m.vs _ hCR Tryz.underlying43 rfl info_msg34 ?_; simp only [Act.put, List.setIfInBounds_toArray, List.set_cons_succ, List.set_cons_zero]; go_big_quiet_on) | go_big_quiet_step (first | exact cO _ _ | exact cS _ _))
    refine wpQuiet_nil ?_
    intro _ hw'
    obtain ⟨⟨dq, osq⟩, hw''⟩ := hw'
    subst hw''
    have HSq := below_regrown wb dq osq
    go_wp2
    go_ret
    exact ⟨_, rfl, keepB HBb HSq⟩
  cases t4 : decide (m.num < 0)
  case true =>
    refine wp_region_quiet_below (by kernel_rfl) (by kernel_rfl) ?_
    repeat (first | (go_big_quiet_want; refine quiet_load_cells 43 _ rfl ⟨w.heap.size, 0, none⟩ rfl m.vs _ hCR Tryz.underlying43 rfl info_msg34 ?_; simp only [Act.put, List.setIfInBounds_toArray, List.set_cons_succ, List.set_cons_zero]; go_big_quiet_on) | go_big_quiet_step (first | exact cO _ _ | exact cS _ _))
    refine wpQuiet_nil ?_
    intro _ hw'
    obtain ⟨⟨dq, osq⟩, hw''⟩ := hw'
    subst hw''
    have HSq := below_regrown wb dq osq
    go_wp2
    go_ret
    exact ⟨_, rfl, keepB HBb HSq⟩
  cases t5 : decide (2147483647 < m.num)
  case true =>
    refine wp_region_quiet_below (by kernel_rfl) (by kernel_rfl) ?_
    repeat (first | (go_big_quiet_want; refine quiet_load_cells 43 _ rfl ⟨w.heap.size, 0, none⟩ rfl m.vs _ hCR Tryz.underlying43 rfl info_msg34 ?_; simp only [Act.put, List.setIfInBounds_toArray, List.set_cons_succ, List.set_cons_zero]; go_big_quiet_on) | go_big_quiet_step (first | exact cO _ _ | exact cS _ _))
    refine wpQuiet_nil ?_
    intro _ hw'
    obtain ⟨⟨dq, osq⟩, hw''⟩ := hw'
    subst hw''
    have HSq := below_regrown wb dq osq
    go_wp2
    go_ret
    exact ⟨_, rfl, keepB HBb HSq⟩
  cases t6 : decide (m.g < 0)
  case true =>
    refine wp_region_quiet_below (by kernel_rfl) (by kernel_rfl) ?_
    repeat (first | (go_big_quiet_want; refine quiet_load_cells 43 _ rfl ⟨w.heap.size, 0, none⟩ rfl m.vs _ hCR Tryz.underlying43 rfl info_msg34 ?_; simp only [Act.put, List.setIfInBounds_toArray, List.set_cons_succ, List.set_cons_zero]; go_big_quiet_on) | go_big_quiet_step (first | exact cO _ _ | exact cS _ _))
    refine wpQuiet_nil ?_
    intro _ hw'
    obtain ⟨⟨dq, osq⟩, hw''⟩ := hw'
    subst hw''
    have HSq := below_regrown wb dq osq
    go_wp2
    go_ret
    exact ⟨_, rfl, keepB HBb HSq⟩
  cases t7 : decide (4 ≤ m.g)
  case true =>
    refine wp_region_quiet_below (by kernel_rfl) (by kernel_rfl) ?_
    repeat (first | (go_big_quiet_want; refine quiet_load_cells 43 _ rfl ⟨w.heap.size, 0, none⟩ rfl m.vs _ hCR Tryz.underlying43 rfl info_msg34 ?_; simp only [Act.put, List.setIfInBounds_toArray, List.set_cons_succ, List.set_cons_zero]; go_big_quiet_on) | go_big_quiet_step (first | exact cO _ _ | exact cS _ _))
    refine wpQuiet_nil ?_
    intro _ hw'
    obtain ⟨⟨dq, osq⟩, hw''⟩ := hw'
    subst hw''
    have HSq := below_regrown wb dq osq
    go_wp2
    go_ret
    exact ⟨_, rfl, keepB HBb HSq⟩
  cases t8 : decide (m.err < 0)
  case true =>
    refine wp_region_quiet_below (by kernel_rfl) (by kernel_rfl) ?_
    repeat (first | (go_big_quiet_want; refine quiet_load_cells 43 _ rfl ⟨w.heap.size, 0, none⟩ rfl m.vs _ hCR Tryz.underlying43 rfl info_msg34 ?_; simp only [Act.put, List.setIfInBounds_toArray, List.set_cons_succ, List.set_cons_zero]; go_big_quiet_on) | go_big_quiet_step (first | exact cO _ _ | exact cS _ _))
    refine wpQuiet_nil ?_
    intro _ hw'
    obtain ⟨⟨dq, osq⟩, hw''⟩ := hw'
    subst hw''
    have HSq := below_regrown wb dq osq
    go_wp2
    go_ret
    exact ⟨_, rfl, keepB HBb HSq⟩
  cases t9 : decide (11 < m.err)
  case true =>
    refine wp_region_quiet_below (by kernel_rfl) (by kernel_rfl) ?_
    repeat (first | (go_big_quiet_want; refine quiet_load_cells 43 _ rfl ⟨w.heap.size, 0, none⟩ rfl m.vs _ hCR Tryz.underlying43 rfl info_msg34 ?_; simp only [Act.put, List.setIfInBounds_toArray, List.set_cons_succ, List.set_cons_zero]; go_big_quiet_on) | go_big_quiet_step (first | exact cO _ _ | exact cS _ _))
    refine wpQuiet_nil ?_
    intro _ hw'
    obtain ⟨⟨dq, osq⟩, hw''⟩ := hw'
    subst hw''
    have HSq := below_regrown wb dq osq
    go_wp2
    go_ret
    exact ⟨_, rfl, keepB HBb HSq⟩
  obtain ⟨t10, e10, e10b⟩ : ∃ b, decide ((59900 : Int) < (m.data.length : Int)) = b ∧ decide (59900 < m.data.length) = b := by
    by_cases h : 59900 < m.data.length
    · exact ⟨true, by rw [decide_eq_true_iff]; omega, by rw [decide_eq_true_iff]; exact h⟩
    · exact ⟨false, by rw [decide_eq_false_iff_not]; omega, by rw [decide_eq_false_iff_not]; exact h⟩
  cases t10
  case true =>
    refine wp_region_quiet_below (by kernel_rfl) (by kernel_rfl) ?_
    repeat (first | (go_big_quiet_want; refine quiet_load_cells 43 _ rfl ⟨w.heap.size, 0, none⟩ rfl m.vs _ hCR Tryz.underlying43 rfl info_msg34 ?_; simp only [Act.put, List.setIfInBounds_toArray, List.set_cons_succ, List.set_cons_zero]; go_big_quiet_on) | go_big_quiet_step (first | exact cO _ _ | exact cS _ _))
    refine wpQuiet_nil ?_
    intro _ hw'
    obtain ⟨⟨dq, osq⟩, hw''⟩ := hw'
    subst hw''
    have HSq := below_regrown wb dq osq
    go_wp2
    go_ret
    exact ⟨_, rfl, keepB HBb HSq⟩
  refine wp_region_quiet_below (by kernel_rfl) (by kernel_rfl) ?_
  repeat (first | (go_big_quiet_want; refine quiet_load_cells 43 _ rfl ⟨w.heap.size, 0, none⟩ rfl m.vs _ hCR Tryz.underlying43 rfl info_msg34 ?_; simp only [Act.put, List.setIfInBounds_toArray, List.set_cons_succ, List.set_cons_zero]; go_big_quiet_on) | go_big_quiet_step (first | exact cO _ _ | exact cS _ _))
  refine wpQuiet_nil ?_
  intro _ hw'
  obtain ⟨⟨dq, osq⟩, hw''⟩ := hw'
  subst hw''
  have HSq := below_regrown wb dq osq
  obtain ⟨w2, ew2⟩ : ∃ w2, grow (redrawn wb dq) osq = w2 := ⟨_, rfl⟩
  rw [ew2] at HSq
  try rw [ew2]
  clear ew2 k3 k23 k26 k32 k33 kf cO cS t0 t2 t3 t4 t5 t6 t7 t8 t9 e10 e10b
  replace c0 := keep HSq c0
  replace c1 := keep HSq c1
  replace c2 := keep HSq c2
  replace c3 := keep HSq c3
  replace c4 := keep HSq c4
  replace c5 := keep HSq c5
  replace c6 := keep HSq c6
  replace c7 := keep HSq c7
  replace c8 := keep HSq c8
  replace c9 := keep HSq c9
  replace c10 := keep HSq c10
  replace c11 := keep HSq c11
  replace c12 := keep HSq c12
  replace c13 := keep HSq c13
  replace c14 := keep HSq c14
  replace c15 := keep HSq c15
  replace c16 := keep HSq c16
  replace c17 := keep HSq c17
  replace c18 := keep HSq c18
  replace c19 := keep HSq c19
  replace c20 := keep HSq c20
  replace c21 := keep HSq c21
  replace c22 := keep HSq c22
  replace c23 := keep HSq c23
  replace c24 := keep HSq c24
  replace c25 := keep HSq c25
  replace c26 := keep HSq c26
  replace c27 := keep HSq c27
  replace c28 := keep HSq c28
  replace c29 := keep HSq c29
  replace c30 := keep HSq c30
  replace c31 := keep HSq c31
  replace c32 := keep HSq c32
  replace c33 := keep HSq c33
  replace cf := keep HSq cf
  have hm3 := Lib.hid (hm2.out.later HSq)
  have hT3 := Lib.hid (hT2.out.later HSq)
  have HB2 := Lib.hid (keepB HBb HSq)
  have HK : Below w2.heap.size w2 w2 := Below.refl _ _
  have hrow2 := Lib.hid (obj_keep hrowb.out HSq)
  have cf2 := Lib.hid cf
  have HV : Hid (∀ wz, Below w2.heap.size w2 wz → Calls Tryz.prog 52 #[.agg #[.int .i64 m.val.kind, .int .u64 (m.val.bits : Int), .string m.val.text]] wz (SomeB wz)) := fun wz hz => calls_someB (formedV_any m.val.kind m.val.bits m.val.text hm3.out.v.t wz (hT3.out.later hz))
  have HX : Hid (∀ wz, Below w2.heap.size w2 wz → Calls Tryz.prog 97 #[.agg #[.int .i64 m.t.ses, .int .i64 m.t.seq, .slice m.A m.t.rds.length m.ca, .slice m.B m.t.wrs.length m.cb]] wz (SomeB wz)) := fun wz hz => calls_someB (txFormed_any m.t m.A m.B m.ca m.cb wz (hm3.out.later hz).t (hT3.out.later hz))
  have HC : Hid (∀ wz, Below w2.heap.size w2 wz → Calls Tryz.prog 96 #[.agg #[.int .i64 m.ck, .int .i64 m.ct.ses, .int .i64 m.ct.seq, .slice m.cA m.ct.rds.length m.cca, .slice m.cB m.ct.wrs.length m.ccb, .int .i64 m.cis, .int .i64 m.ciq, .int .i64 m.cg, .int .u64 (m.cst : Int), .bool m.cy]] wz (SomeB wz)) := fun wz hz => cmdFormed_some (cmdOf m) wz (hm3.out.later hz).c (hT3.out.later hz)
  have HKy : Hid (∀ wz, Calls Tryz.prog 36 #[.string m.key] wz (SomeB wz)) := fun wz => calls_someB (key_any m.key wz hm3.out.k)
  clear HF HSq HBb hbb hm2 hT2 hmoA cf c0 c1 c2 c3 c4 c5 c6 c7 c8 c9 c10 c11 c12 c13 c14 c15 c16 c17 c18 c19 c20 c21 c22 c23 c24 c25 c26 c27 c28 c29 c30 c31 c32 c33
  go_upto_region 5 with fail
  obtain ⟨_, c1, c2, _, _, _, _, _, _, _, _, _, _, _, _, _, _, _, _, _, _, _, _, _, _, _, _, _, _, _, _, _, _, _⟩ := msg_cs (obj_keep hrow2.out HK)
  have cf := keep HK cf2.out
  go_cut [64] (fun s wx => (∃ b : Bool, s = .bool b) ∧ Below w2.heap.size w2 wx)
  case first =>
    go_wp2_with (first
      | (go_at_call 93; refine (has_some _ _ _ _ cf).mono ?_; rintro e wH ⟨⟨r, rfl⟩, rfl⟩)
      | (go_at_call 95; refine (ballotF_some _ _ _).mono ?_; rintro e wH ⟨r, rfl, hb⟩; replace c1 := keep hb c1; replace c2 := keep hb c2; replace cf := keep hb cf; replace HK := keepB HK hb; clear hb)
      | (go_at_call 96; refine (HC.out _ HK).mono ?_; rintro e wH ⟨r, rfl, hb⟩; replace c1 := keep hb c1; replace c2 := keep hb c2; replace cf := keep hb cf; replace HK := keepB HK hb; clear hb)
      | (go_at_call 97; refine (HX.out _ HK).mono ?_; rintro e wH ⟨r, rfl, hb⟩; replace c1 := keep hb c1; replace c2 := keep hb c2; replace cf := keep hb cf; replace HK := keepB HK hb; clear hb)
      | (go_at_call 98; refine (calls_someB (id_any _ _ _)).mono ?_; rintro e wH ⟨r, rfl, hb⟩; replace c1 := keep hb c1; replace c2 := keep hb c2; replace cf := keep hb cf; replace HK := keepB HK hb; clear hb)
      | (go_at_call 52; refine (HV.out _ HK).mono ?_; rintro e wH ⟨r, rfl, hb⟩; replace c1 := keep hb c1; replace c2 := keep hb c2; replace cf := keep hb cf; replace HK := keepB HK hb; clear hb)
      | (go_at_call 36; refine (HKy.out _).mono ?_; rintro e wH ⟨r, rfl, hb⟩; replace c1 := keep hb c1; replace c2 := keep hb c2; replace cf := keep hb cf; replace HK := keepB HK hb; clear hb))
    all_goals
      go_meet
      exact ⟨⟨_, rfl⟩, HK⟩
  case rest =>
    obtain ⟨⟨b, rfl⟩, HK⟩ := hcut
    obtain ⟨v0, rfl⟩ : ∃ wq : World, wq = wc := ⟨_, rfl⟩
    clear cf c1 c2
    cases b
    case true =>
      go_wp2
      go_ret
      exact ⟨_, rfl, keepB HB2.out HK⟩
    go_upto_region 6 with fail
    obtain ⟨_, _, _, _, c4, c5, c6, _, _, _, _, _, _, _, _, _, _, _, _, _, _, _, _, _, _, _, _, _, _, _, _, _, _, _⟩ := msg_cs (obj_keep hrow2.out HK)
    have cf := keep HK cf2.out
    go_cut [64] (fun s wx => (∃ b : Bool, s = .bool b) ∧ Below w2.heap.size w2 wx)
    case first =>
      go_wp2_with (first
        | (go_at_call 93; refine (has_some _ _ _ _ cf).mono ?_; rintro e wH ⟨⟨r, rfl⟩, rfl⟩)
        | (go_at_call 95; refine (ballotF_some _ _ _).mono ?_; rintro e wH ⟨r, rfl, hb⟩; replace c4 := keep hb c4; replace c5 := keep hb c5; replace c6 := keep hb c6; replace cf := keep hb cf; replace HK := keepB HK hb; clear hb)
        | (go_at_call 96; refine (HC.out _ HK).mono ?_; rintro e wH ⟨r, rfl, hb⟩; replace c4 := keep hb c4; replace c5 := keep hb c5; replace c6 := keep hb c6; replace cf := keep hb cf; replace HK := keepB HK hb; clear hb)
        | (go_at_call 97; refine (HX.out _ HK).mono ?_; rintro e wH ⟨r, rfl, hb⟩; replace c4 := keep hb c4; replace c5 := keep hb c5; replace c6 := keep hb c6; replace cf := keep hb cf; replace HK := keepB HK hb; clear hb)
        | (go_at_call 98; refine (calls_someB (id_any _ _ _)).mono ?_; rintro e wH ⟨r, rfl, hb⟩; replace c4 := keep hb c4; replace c5 := keep hb c5; replace c6 := keep hb c6; replace cf := keep hb cf; replace HK := keepB HK hb; clear hb)
        | (go_at_call 52; refine (HV.out _ HK).mono ?_; rintro e wH ⟨r, rfl, hb⟩; replace c4 := keep hb c4; replace c5 := keep hb c5; replace c6 := keep hb c6; replace cf := keep hb cf; replace HK := keepB HK hb; clear hb)
        | (go_at_call 36; refine (HKy.out _).mono ?_; rintro e wH ⟨r, rfl, hb⟩; replace c4 := keep hb c4; replace c5 := keep hb c5; replace c6 := keep hb c6; replace cf := keep hb cf; replace HK := keepB HK hb; clear hb))
      all_goals
        go_meet
        exact ⟨⟨_, rfl⟩, HK⟩
    case rest =>
      obtain ⟨⟨b, rfl⟩, HK⟩ := hcut
      obtain ⟨v1, rfl⟩ : ∃ wq : World, wq = wc := ⟨_, rfl⟩
      clear cf c4 c5 c6
      cases b
      case true =>
        go_wp2
        go_ret
        exact ⟨_, rfl, keepB HB2.out HK⟩
      go_upto_region 7 with fail
      obtain ⟨_, _, _, _, c4, _, _, c7, c8, c9, c10, c11, c12, c13, c14, c15, c16, _, _, _, _, _, _, _, _, _, _, _, _, _, _, _, _, _⟩ := msg_cs (obj_keep hrow2.out HK)
      have cf := keep HK cf2.out
      go_cut [64] (fun s wx => (∃ b : Bool, s = .bool b) ∧ Below w2.heap.size w2 wx)
      case first =>
        go_wp2_with (first
          | (go_at_call 93; refine (has_some _ _ _ _ cf).mono ?_; rintro e wH ⟨⟨r, rfl⟩, rfl⟩)
          | (go_at_call 95; refine (ballotF_some _ _ _).mono ?_; rintro e wH ⟨r, rfl, hb⟩; replace c4 := keep hb c4; replace c7 := keep hb c7; replace c8 := keep hb c8; replace c9 := keep hb c9; replace c10 := keep hb c10; replace c11 := keep hb c11; replace c12 := keep hb c12; replace c13 := keep hb c13; replace c14 := keep hb c14; replace c15 := keep hb c15; replace c16 := keep hb c16; replace cf := keep hb cf; replace HK := keepB HK hb; clear hb)
          | (go_at_call 96; refine (HC.out _ HK).mono ?_; rintro e wH ⟨r, rfl, hb⟩; replace c4 := keep hb c4; replace c7 := keep hb c7; replace c8 := keep hb c8; replace c9 := keep hb c9; replace c10 := keep hb c10; replace c11 := keep hb c11; replace c12 := keep hb c12; replace c13 := keep hb c13; replace c14 := keep hb c14; replace c15 := keep hb c15; replace c16 := keep hb c16; replace cf := keep hb cf; replace HK := keepB HK hb; clear hb)
          | (go_at_call 97; refine (HX.out _ HK).mono ?_; rintro e wH ⟨r, rfl, hb⟩; replace c4 := keep hb c4; replace c7 := keep hb c7; replace c8 := keep hb c8; replace c9 := keep hb c9; replace c10 := keep hb c10; replace c11 := keep hb c11; replace c12 := keep hb c12; replace c13 := keep hb c13; replace c14 := keep hb c14; replace c15 := keep hb c15; replace c16 := keep hb c16; replace cf := keep hb cf; replace HK := keepB HK hb; clear hb)
          | (go_at_call 98; refine (calls_someB (id_any _ _ _)).mono ?_; rintro e wH ⟨r, rfl, hb⟩; replace c4 := keep hb c4; replace c7 := keep hb c7; replace c8 := keep hb c8; replace c9 := keep hb c9; replace c10 := keep hb c10; replace c11 := keep hb c11; replace c12 := keep hb c12; replace c13 := keep hb c13; replace c14 := keep hb c14; replace c15 := keep hb c15; replace c16 := keep hb c16; replace cf := keep hb cf; replace HK := keepB HK hb; clear hb)
          | (go_at_call 52; refine (HV.out _ HK).mono ?_; rintro e wH ⟨r, rfl, hb⟩; replace c4 := keep hb c4; replace c7 := keep hb c7; replace c8 := keep hb c8; replace c9 := keep hb c9; replace c10 := keep hb c10; replace c11 := keep hb c11; replace c12 := keep hb c12; replace c13 := keep hb c13; replace c14 := keep hb c14; replace c15 := keep hb c15; replace c16 := keep hb c16; replace cf := keep hb cf; replace HK := keepB HK hb; clear hb)
          | (go_at_call 36; refine (HKy.out _).mono ?_; rintro e wH ⟨r, rfl, hb⟩; replace c4 := keep hb c4; replace c7 := keep hb c7; replace c8 := keep hb c8; replace c9 := keep hb c9; replace c10 := keep hb c10; replace c11 := keep hb c11; replace c12 := keep hb c12; replace c13 := keep hb c13; replace c14 := keep hb c14; replace c15 := keep hb c15; replace c16 := keep hb c16; replace cf := keep hb cf; replace HK := keepB HK hb; clear hb))
        all_goals
          go_meet
          exact ⟨⟨_, rfl⟩, HK⟩
      case rest =>
        obtain ⟨⟨b, rfl⟩, HK⟩ := hcut
        obtain ⟨v2, rfl⟩ : ∃ wq : World, wq = wc := ⟨_, rfl⟩
        clear cf c4 c7 c8 c9 c10 c11 c12 c13 c14 c15 c16
        cases b
        case true =>
          go_wp2
          go_ret
          exact ⟨_, rfl, keepB HB2.out HK⟩
        go_upto_region 9 with fail
        obtain ⟨_, _, _, _, _, _, _, _, _, _, _, _, _, _, _, _, _, c17, c18, c19, c20, _, _, _, _, _, _, _, _, _, _, _, _, _⟩ := msg_cs (obj_keep hrow2.out HK)
        have cf := keep HK cf2.out
        go_cut [93] (fun s wx => (∃ b : Bool, s = .bool b) ∧ Below w2.heap.size w2 wx)
        case first =>
          go_wp2_with (first
            | (go_at_call 93; refine (has_some _ _ _ _ cf).mono ?_; rintro e wH ⟨⟨r, rfl⟩, rfl⟩)
            | (go_at_call 95; refine (ballotF_some _ _ _).mono ?_; rintro e wH ⟨r, rfl, hb⟩; replace c17 := keep hb c17; replace c18 := keep hb c18; replace c19 := keep hb c19; replace c20 := keep hb c20; replace cf := keep hb cf; replace HK := keepB HK hb; clear hb)
            | (go_at_call 96; refine (HC.out _ HK).mono ?_; rintro e wH ⟨r, rfl, hb⟩; replace c17 := keep hb c17; replace c18 := keep hb c18; replace c19 := keep hb c19; replace c20 := keep hb c20; replace cf := keep hb cf; replace HK := keepB HK hb; clear hb)
            | (go_at_call 97; refine (HX.out _ HK).mono ?_; rintro e wH ⟨r, rfl, hb⟩; replace c17 := keep hb c17; replace c18 := keep hb c18; replace c19 := keep hb c19; replace c20 := keep hb c20; replace cf := keep hb cf; replace HK := keepB HK hb; clear hb)
            | (go_at_call 98; refine (calls_someB (id_any _ _ _)).mono ?_; rintro e wH ⟨r, rfl, hb⟩; replace c17 := keep hb c17; replace c18 := keep hb c18; replace c19 := keep hb c19; replace c20 := keep hb c20; replace cf := keep hb cf; replace HK := keepB HK hb; clear hb)
            | (go_at_call 52; refine (HV.out _ HK).mono ?_; rintro e wH ⟨r, rfl, hb⟩; replace c17 := keep hb c17; replace c18 := keep hb c18; replace c19 := keep hb c19; replace c20 := keep hb c20; replace cf := keep hb cf; replace HK := keepB HK hb; clear hb)
            | (go_at_call 36; refine (HKy.out _).mono ?_; rintro e wH ⟨r, rfl, hb⟩; replace c17 := keep hb c17; replace c18 := keep hb c18; replace c19 := keep hb c19; replace c20 := keep hb c20; replace cf := keep hb cf; replace HK := keepB HK hb; clear hb))
          all_goals
            go_meet
            exact ⟨⟨_, rfl⟩, HK⟩
        case rest =>
          obtain ⟨⟨b, rfl⟩, HK⟩ := hcut
          obtain ⟨v3, rfl⟩ : ∃ wq : World, wq = wc := ⟨_, rfl⟩
          clear cf c17 c18 c19 c20
          cases b
          case true =>
            go_wp2
            go_ret
            exact ⟨_, rfl, keepB HB2.out HK⟩
          go_upto_region 10 with fail
          obtain ⟨_, _, _, _, _, _, _, _, _, _, _, _, _, _, _, _, _, _, _, _, _, c21, c22, _, _, _, _, _, _, _, _, _, _, _⟩ := msg_cs (obj_keep hrow2.out HK)
          have cf := keep HK cf2.out
          go_cut [93] (fun s wx => (∃ b : Bool, s = .bool b) ∧ Below w2.heap.size w2 wx)
          case first =>
            go_wp2_with (first
              | (go_at_call 93; refine (has_some _ _ _ _ cf).mono ?_; rintro e wH ⟨⟨r, rfl⟩, rfl⟩)
              | (go_at_call 95; refine (ballotF_some _ _ _).mono ?_; rintro e wH ⟨r, rfl, hb⟩; replace c21 := keep hb c21; replace c22 := keep hb c22; replace cf := keep hb cf; replace HK := keepB HK hb; clear hb)
              | (go_at_call 96; refine (HC.out _ HK).mono ?_; rintro e wH ⟨r, rfl, hb⟩; replace c21 := keep hb c21; replace c22 := keep hb c22; replace cf := keep hb cf; replace HK := keepB HK hb; clear hb)
              | (go_at_call 97; refine (HX.out _ HK).mono ?_; rintro e wH ⟨r, rfl, hb⟩; replace c21 := keep hb c21; replace c22 := keep hb c22; replace cf := keep hb cf; replace HK := keepB HK hb; clear hb)
              | (go_at_call 98; refine (calls_someB (id_any _ _ _)).mono ?_; rintro e wH ⟨r, rfl, hb⟩; replace c21 := keep hb c21; replace c22 := keep hb c22; replace cf := keep hb cf; replace HK := keepB HK hb; clear hb)
              | (go_at_call 52; refine (HV.out _ HK).mono ?_; rintro e wH ⟨r, rfl, hb⟩; replace c21 := keep hb c21; replace c22 := keep hb c22; replace cf := keep hb cf; replace HK := keepB HK hb; clear hb)
              | (go_at_call 36; refine (HKy.out _).mono ?_; rintro e wH ⟨r, rfl, hb⟩; replace c21 := keep hb c21; replace c22 := keep hb c22; replace cf := keep hb cf; replace HK := keepB HK hb; clear hb))
            all_goals
              go_meet
              exact ⟨⟨_, rfl⟩, HK⟩
          case rest =>
            obtain ⟨⟨b, rfl⟩, HK⟩ := hcut
            obtain ⟨v4, rfl⟩ : ∃ wq : World, wq = wc := ⟨_, rfl⟩
            clear cf c21 c22
            cases b
            case true =>
              go_wp2
              go_ret
              exact ⟨_, rfl, keepB HB2.out HK⟩
            go_upto_region 11 with fail
            obtain ⟨_, _, _, _, _, _, _, _, _, _, _, _, _, _, _, _, _, _, _, _, _, _, _, _, _, _, _, _, _, c29, c30, c31, _, _⟩ := msg_cs (obj_keep hrow2.out HK)
            have cf := keep HK cf2.out
            go_cut [93] (fun s wx => (∃ b : Bool, s = .bool b) ∧ Below w2.heap.size w2 wx)
            case first =>
              go_wp2_with (first
                | (go_at_call 93; refine (has_some _ _ _ _ cf).mono ?_; rintro e wH ⟨⟨r, rfl⟩, rfl⟩)
                | (go_at_call 95; refine (ballotF_some _ _ _).mono ?_; rintro e wH ⟨r, rfl, hb⟩; replace c29 := keep hb c29; replace c30 := keep hb c30; replace c31 := keep hb c31; replace cf := keep hb cf; replace HK := keepB HK hb; clear hb)
                | (go_at_call 96; refine (HC.out _ HK).mono ?_; rintro e wH ⟨r, rfl, hb⟩; replace c29 := keep hb c29; replace c30 := keep hb c30; replace c31 := keep hb c31; replace cf := keep hb cf; replace HK := keepB HK hb; clear hb)
                | (go_at_call 97; refine (HX.out _ HK).mono ?_; rintro e wH ⟨r, rfl, hb⟩; replace c29 := keep hb c29; replace c30 := keep hb c30; replace c31 := keep hb c31; replace cf := keep hb cf; replace HK := keepB HK hb; clear hb)
                | (go_at_call 98; refine (calls_someB (id_any _ _ _)).mono ?_; rintro e wH ⟨r, rfl, hb⟩; replace c29 := keep hb c29; replace c30 := keep hb c30; replace c31 := keep hb c31; replace cf := keep hb cf; replace HK := keepB HK hb; clear hb)
                | (go_at_call 52; refine (HV.out _ HK).mono ?_; rintro e wH ⟨r, rfl, hb⟩; replace c29 := keep hb c29; replace c30 := keep hb c30; replace c31 := keep hb c31; replace cf := keep hb cf; replace HK := keepB HK hb; clear hb)
                | (go_at_call 36; refine (HKy.out _).mono ?_; rintro e wH ⟨r, rfl, hb⟩; replace c29 := keep hb c29; replace c30 := keep hb c30; replace c31 := keep hb c31; replace cf := keep hb cf; replace HK := keepB HK hb; clear hb))
              all_goals
                go_meet
                exact ⟨⟨_, rfl⟩, HK⟩
            case rest =>
              obtain ⟨⟨b, rfl⟩, HK⟩ := hcut
              obtain ⟨v5, rfl⟩ : ∃ wq : World, wq = wc := ⟨_, rfl⟩
              clear cf c29 c30 c31
              cases b
              case true =>
                go_wp2
                go_ret
                exact ⟨_, rfl, keepB HB2.out HK⟩
              go_upto_region 13 with fail
              obtain ⟨c0, _, _, _, _, _, _, _, _, _, _, _, _, _, _, _, _, _, _, _, _, _, _, _, _, _, _, c27, _, _, _, _, _, _⟩ := msg_cs (obj_keep hrow2.out HK)
              have cf := keep HK cf2.out
              go_cut [114] (fun s wx => (∃ b : Bool, s = .bool b) ∧ Below w2.heap.size w2 wx)
              case first =>
                go_wp2_with (first
                  | (go_at_call 93; refine (has_some _ _ _ _ cf).mono ?_; rintro e wH ⟨⟨r, rfl⟩, rfl⟩)
                  | (go_at_call 95; refine (ballotF_some _ _ _).mono ?_; rintro e wH ⟨r, rfl, hb⟩; replace c0 := keep hb c0; replace c27 := keep hb c27; replace cf := keep hb cf; replace HK := keepB HK hb; clear hb)
                  | (go_at_call 96; refine (HC.out _ HK).mono ?_; rintro e wH ⟨r, rfl, hb⟩; replace c0 := keep hb c0; replace c27 := keep hb c27; replace cf := keep hb cf; replace HK := keepB HK hb; clear hb)
                  | (go_at_call 97; refine (HX.out _ HK).mono ?_; rintro e wH ⟨r, rfl, hb⟩; replace c0 := keep hb c0; replace c27 := keep hb c27; replace cf := keep hb cf; replace HK := keepB HK hb; clear hb)
                  | (go_at_call 98; refine (calls_someB (id_any _ _ _)).mono ?_; rintro e wH ⟨r, rfl, hb⟩; replace c0 := keep hb c0; replace c27 := keep hb c27; replace cf := keep hb cf; replace HK := keepB HK hb; clear hb)
                  | (go_at_call 52; refine (HV.out _ HK).mono ?_; rintro e wH ⟨r, rfl, hb⟩; replace c0 := keep hb c0; replace c27 := keep hb c27; replace cf := keep hb cf; replace HK := keepB HK hb; clear hb)
                  | (go_at_call 36; refine (HKy.out _).mono ?_; rintro e wH ⟨r, rfl, hb⟩; replace c0 := keep hb c0; replace c27 := keep hb c27; replace cf := keep hb cf; replace HK := keepB HK hb; clear hb))
                all_goals
                  go_meet
                  exact ⟨⟨_, rfl⟩, HK⟩
              case rest =>
                obtain ⟨⟨b, rfl⟩, HK⟩ := hcut
                obtain ⟨v6, rfl⟩ : ∃ wq : World, wq = wc := ⟨_, rfl⟩
                clear cf c0 c27
                cases b
                case true =>
                  go_wp2
                  go_ret
                  exact ⟨_, rfl, keepB HB2.out HK⟩
                go_wp2
                go_ret
                exact ⟨_, rfl, keepB HB2.out HK⟩
end Go.Proofs.YtjgloipgnnigmaaGreatDoor
