/- parishlaw08.TxnOrder returns true for every three ids, and leaves all memory that was there as it was; no condition. -/
import Derived.Test.YthpdladfcjcjiaaRows
import Derived.Test.YthpdladfcjcjiaaBase
import Derived.WalkKit
import Derived.WalkSpells
import Derived.WalkLawsBesides
import Derived.Lib.SmallJoins
namespace Go.Proofs.Ythpdladfcjcjiaa
open Go.ChangeShapes Go.WideShapes Go.ChangeAt Go.RowKit Go.Joins

/-- Session and Seq, compared in that order. -/
def lessB (a b c d : Int) : Bool := decide (a < c) || (a == c && decide (b < d))


set_option maxHeartbeats 400000 in
theorem less_any (a b c d : Int) (w : World) :
    Calls Try.prog 4 #[.agg #[.int .i64 a, .int .i64 b], .agg #[.int .i64 c, .int .i64 d]] w fun e w' => e = .returned (.bool (lessB a b c d)) ∧ Below w.heap.size w w' := by
  by_cases h : a < c
  · have e1 : lessB a b c d = true := by simp [lessB, h]
    rw [e1]; clear e1
    go_enter Try.func4, Try.ntmps4
    go_wp2
    go_ret
    exact ⟨rfl, below2 _ _ _⟩
  · by_cases h2 : a = c
    · subst h2
      have e1 : lessB a b a d = decide (b < d) := by simp [lessB]
      rw [e1]; clear e1
      go_enter Try.func4, Try.ntmps4
      go_wp2
      go_ret
      exact ⟨rfl, below2 _ _ _⟩
    · have e1 : lessB a b c d = false := by simp [lessB, h, h2]
      rw [e1]; clear e1
      go_enter Try.func4, Try.ntmps4
      go_wp2
      go_ret
      exact ⟨rfl, below2 _ _ _⟩

set_option maxHeartbeats 400000 in
theorem id_11 (w : World) : Calls Try.prog 6 #[.agg #[.int .i64 1, .int .i64 1]] w fun e w' => e = .returned (.bool true) ∧ w.alloc (.cells #[.int .i64 1, .int .i64 1] 23) = w' := by
  go_enter Try.func6, Try.ntmps6
  go_wp2
  go_ret
  exact ⟨rfl, rfl⟩



theorem neqId (a b c d : Int) (w : World) : (binOp .neq 23 (.agg #[.int .i64 a, .int .i64 b]) (.agg #[.int .i64 c, .int .i64 d])).run Try.prog w = .ok (.bool (!(a == c && b == d))) w := by
  simp [go_sem]
  by_cases h1 : a = c <;> by_cases h2 : b = d <;> simp [h1, h2]
set_option maxHeartbeats 400000 in
theorem equal8_nil (w : World) : Calls Try.prog 8 #[.slice none 0 0, .slice none 0 0] w fun e w' => e = .returned (.bool true) ∧ w = w' := by
  go_enter Try.func8, Try.ntmps8
  go_wp2
  refine wp_loop_rounds 1 ?_
  rw [rounds_succ]
  go_wp2
  go_ret
  exact ⟨rfl, rfl⟩
set_option maxHeartbeats 400000 in
theorem equal9_nil (w : World) : Calls Try.prog 9 #[.slice none 0 0, .slice none 0 0] w fun e w' => e = .returned (.bool true) ∧ w = w' := by
  go_enter Try.func9, Try.ntmps9
  go_wp2
  refine wp_loop_rounds 1 ?_
  rw [rounds_succ]
  go_wp2
  go_ret
  exact ⟨rfl, rfl⟩
set_option maxHeartbeats 400000 in
theorem awake_any (w : World) : Calls Try.prog 5 #[] w fun e w' => e = .returned (.bool true) ∧ Below w.heap.size w w' := by
  go_enter Try.func5, Try.ntmps5
  go_wp2_with (first | (go_at_call 8; refine (equal8_nil _).mono ?_; rintro e w' ⟨rfl, rfl⟩) | (go_at_call 9; refine (equal9_nil _).mono ?_; rintro e w' ⟨rfl, rfl⟩) | go_in)
  go_ret
  exact ⟨rfl, (((Below.refl _ _).alloc (Nat.le_refl _) _).alloc (by simp) _).alloc (by simp; omega) _⟩

theorem less_asym {a b c d : Int} (h : lessB a b c d = true) : lessB c d a b = false := by
  simp [lessB] at *; omega
theorem less_tot {a b c d : Int} (h : lessB a b c d = false) (h' : lessB c d a b = false) : a = c ∧ b = d := by
  simp [lessB] at *; omega
theorem less_irr (a b : Int) : lessB a b a b = false := by simp [lessB]
theorem less_trans {a b c d e f : Int} (h : lessB a b c d = true) (h' : lessB c d e f = true) : lessB a b e f = true := by
  simp [lessB] at *; omega




theorem box3 (w : World) (a b c d e f : Int) : ∃ W : World, ((w.alloc (.cells #[.int .i64 a, .int .i64 b] 23)).alloc (.cells #[.int .i64 c, .int .i64 d] 23)).alloc (.cells #[.int .i64 e, .int .i64 f] 23) = W ∧ Below w.heap.size w W ∧ W.cell? ⟨w.heap.size, 0, none⟩ = some (.int .i64 a) ∧ W.cell? ⟨w.heap.size, 1, none⟩ = some (.int .i64 b) ∧ W.cell? ⟨w.heap.size + 1, 0, none⟩ = some (.int .i64 c) ∧ W.cell? ⟨w.heap.size + 1, 1, none⟩ = some (.int .i64 d) ∧ W.cell? ⟨w.heap.size + 1 + 1, 0, none⟩ = some (.int .i64 e) ∧ W.cell? ⟨w.heap.size + 1 + 1, 1, none⟩ = some (.int .i64 f) :=
  ⟨_, rfl, (below2 _ _ _).alloc (by simp; omega) _, by simp [go_sem], by simp [go_sem], by simp [go_sem], by simp [go_sem], by simp [go_sem], by simp [go_sem]⟩

set_option maxHeartbeats 1000000 in
theorem law_lt (a b c d e f : Int) (w : World) (g1 : lessB a b c d = true) (g3 : lessB c d e f = true) : Calls Try.prog 3 #[.agg #[.int .i64 a, .int .i64 b], .agg #[.int .i64 c, .int .i64 d], .agg #[.int .i64 e, .int .i64 f]] w
    fun en w' => en = .returned (.bool true) ∧ Below w.heap.size w w' := by
  have p1 := less_irr a b
  have g2 := less_asym g1
  have g4 := less_trans g1 g3
  go_enter Try.func3, Try.ntmps3
  go_wp2_with fail
  obtain ⟨W, eW, HB, c0, c1, c2, c3, c4, c5⟩ := box3 w a b c d e f
  rw [eW]
  clear eW
  go_wp2_with (first | (go_at_call 4; refine (less_any _ _ _ _ _).mono ?_; rintro e w1 ⟨rfl, hb⟩; replace c0 := keep hb c0; replace c1 := keep hb c1; replace c2 := keep hb c2; replace c3 := keep hb c3; replace c4 := keep hb c4; replace c5 := keep hb c5; replace HB := keepB HB hb; clear hb) | (go_at_call 5; refine (awake_any _).mono ?_; rintro e w1 ⟨rfl, hb⟩; replace c0 := keep hb c0; replace c1 := keep hb c1; replace c2 := keep hb c2; replace c3 := keep hb c3; replace c4 := keep hb c4; replace c5 := keep hb c5; replace HB := keepB HB hb; clear hb))
  go_ret
  exact ⟨rfl, HB⟩

set_option maxHeartbeats 1000000 in
theorem law_ge (a b c d e f : Int) (w : World) (g1 : lessB a b c d = true) (g3 : lessB c d e f = false) : Calls Try.prog 3 #[.agg #[.int .i64 a, .int .i64 b], .agg #[.int .i64 c, .int .i64 d], .agg #[.int .i64 e, .int .i64 f]] w
    fun en w' => en = .returned (.bool true) ∧ Below w.heap.size w w' := by
  have p1 := less_irr a b
  have g2 := less_asym g1
  go_enter Try.func3, Try.ntmps3
  go_wp2_with fail
  obtain ⟨W, eW, HB, c0, c1, c2, c3, c4, c5⟩ := box3 w a b c d e f
  rw [eW]
  clear eW
  go_wp2_with (first | (go_at_call 4; refine (less_any _ _ _ _ _).mono ?_; rintro e w1 ⟨rfl, hb⟩; replace c0 := keep hb c0; replace c1 := keep hb c1; replace c2 := keep hb c2; replace c3 := keep hb c3; replace c4 := keep hb c4; replace c5 := keep hb c5; replace HB := keepB HB hb; clear hb) | (go_at_call 5; refine (awake_any _).mono ?_; rintro e w1 ⟨rfl, hb⟩; replace c0 := keep hb c0; replace c1 := keep hb c1; replace c2 := keep hb c2; replace c3 := keep hb c3; replace c4 := keep hb c4; replace c5 := keep hb c5; replace HB := keepB HB hb; clear hb))
  go_ret
  exact ⟨rfl, HB⟩

set_option maxHeartbeats 1000000 in
theorem law_gt (a b c d e f : Int) (w : World) (g1 : lessB a b c d = false) (g2 : lessB c d a b = true) : Calls Try.prog 3 #[.agg #[.int .i64 a, .int .i64 b], .agg #[.int .i64 c, .int .i64 d], .agg #[.int .i64 e, .int .i64 f]] w
    fun en w' => en = .returned (.bool true) ∧ Below w.heap.size w w' := by
  have p1 := less_irr a b

  go_enter Try.func3, Try.ntmps3
  go_wp2_with fail
  obtain ⟨W, eW, HB, c0, c1, c2, c3, c4, c5⟩ := box3 w a b c d e f
  rw [eW]
  clear eW
  go_wp2_with (first | (go_at_call 4; refine (less_any _ _ _ _ _).mono ?_; rintro e w1 ⟨rfl, hb⟩; replace c0 := keep hb c0; replace c1 := keep hb c1; replace c2 := keep hb c2; replace c3 := keep hb c3; replace c4 := keep hb c4; replace c5 := keep hb c5; replace HB := keepB HB hb; clear hb) | (go_at_call 5; refine (awake_any _).mono ?_; rintro e w1 ⟨rfl, hb⟩; replace c0 := keep hb c0; replace c1 := keep hb c1; replace c2 := keep hb c2; replace c3 := keep hb c3; replace c4 := keep hb c4; replace c5 := keep hb c5; replace HB := keepB HB hb; clear hb))
  go_ret
  exact ⟨rfl, HB⟩

set_option maxHeartbeats 1000000 in
theorem law_eq (a b e f : Int) (w : World)  : Calls Try.prog 3 #[.agg #[.int .i64 a, .int .i64 b], .agg #[.int .i64 a, .int .i64 b], .agg #[.int .i64 e, .int .i64 f]] w
    fun en w' => en = .returned (.bool true) ∧ Below w.heap.size w w' := by
  have p1 := less_irr a b
  have hn := neqId a b a b
  go_enter Try.func3, Try.ntmps3
  go_wp2_with fail
  obtain ⟨W, eW, HB, c0, c1, c2, c3, c4, c5⟩ := box3 w a b a b e f
  rw [eW]
  clear eW
  go_wp2_with (first | (go_at_call 4; refine (less_any _ _ _ _ _).mono ?_; rintro e w1 ⟨rfl, hb⟩; replace c0 := keep hb c0; replace c1 := keep hb c1; replace c2 := keep hb c2; replace c3 := keep hb c3; replace c4 := keep hb c4; replace c5 := keep hb c5; replace HB := keepB HB hb; clear hb) | (go_at_call 5; refine (awake_any _).mono ?_; rintro e w1 ⟨rfl, hb⟩; replace c0 := keep hb c0; replace c1 := keep hb c1; replace c2 := keep hb c2; replace c3 := keep hb c3; replace c4 := keep hb c4; replace c5 := keep hb c5; replace HB := keepB HB hb; clear hb))
  go_ret
  exact ⟨rfl, HB⟩

theorem law (a b c d e f : Int) (w : World) : Calls Try.prog 3 #[.agg #[.int .i64 a, .int .i64 b], .agg #[.int .i64 c, .int .i64 d], .agg #[.int .i64 e, .int .i64 f]] w
    fun en w' => en = .returned (.bool true) ∧ Below w.heap.size w w' := by
  cases g1 : lessB a b c d
  · cases g2 : lessB c d a b
    · obtain ⟨rfl, rfl⟩ := less_tot g1 g2
      exact law_eq a b e f w
    · exact law_gt a b c d e f w g1 g2
  · cases g3 : lessB c d e f
    · exact law_ge a b c d e f w g1 g3
    · exact law_lt a b c d e f w g1 g3

theorem own : ownKnob Try.prog.godebug = none := by kernel_rfl
theorem laidOut : laidOutB Try.prog = true := by kernel_rfl
theorem cells23 : Try.prog.cellsOf 23 = 2 := by kernel_rfl

theorem open_id {H : Type} {enc : TypeId × Value → H} {W : World} {b0 base : Nat} {sp : Nat → Bool} {held : Bool} {v : Value} {d : DataW H} {p : List MemPlace}
    (hv : Value.okWide Try.prog W .any b0 23 v) (h : DataW.Trod enc Try.prog W base sp held 23 v d p) : ∃ a b : Int, v = .agg #[.int .i64 a, .int .i64 b] := by
  obtain ⟨c0, c1, y0, y1, m, rfl, _, _, hy0, hy1⟩ := open_agg2 Try.underlying23 (by kernel_rfl) cells23 hv h
  obtain ⟨a, e0, _, _⟩ := DataW.trod_int Try.underlying3 hy0
  obtain ⟨b, e1, _, _⟩ := DataW.trod_int Try.underlying3 hy1
  simp at e0 e1
  exact ⟨a, b, by rw [e0, e1]⟩

set_option maxRecDepth 100000 in
theorem lifted (os : Os) (started : os.Started) (H : Type) (enc : TypeId × Value → H) :
    ReturnsInHanded {} Try.checked os 3 .any (Rows.txnOrderSpec.pre6 enc Try.prog Try.f3 Rows.txnOrderRow.domain false) (Rows.txnOrderSpec.post enc Try.prog Try.f3 false true false false) := by
  refine returnsInHanded_of_change (C := Try.checked) own started (by kernel_rfl) Try.func3
    (ChangeSpec.witness6 (enc := enc) (C := Try.checked) false ⟨#[], #[.agg #[.int .i64 0, .int .i64 0], .agg #[.int .i64 0, .int .i64 0], .agg #[.int .i64 0, .int .i64 0]], []⟩ 8 (by kernel_rfl) (by kernel_rfl) (by kernel_rfl) (by kernel_rfl)) ?_
  intro W base args ds gs before hval0 hW _ _
  have hval : ∀ (j : Nat) t v, Try.f3.params[j]? = some t → args[j]? = some v → Value.okWide Try.prog W .any base t v := hval0
  have hW' := hW
  obtain ⟨p, q, hA0, hV, rfl, hfz, hnd⟩ := hW
  have hA : DataW.TrodAll enc Try.prog W 0 (fun _ => true) true Try.f3.params.toList args.toList ds p := hA0
  rw [Try.params3] at hA hval
  obtain ⟨v0, v1, v2, d0, d1, d2, p0, p1, p2, rfl, rfl, rfl, h0, h1, h2⟩ := trodAll_three hA
  obtain ⟨a, b, rfl⟩ := open_id (hval 0 23 v0 rfl rfl) h0
  obtain ⟨c, d, rfl⟩ := open_id (hval 1 23 v1 rfl rfl) h1
  obtain ⟨e, f, rfl⟩ := open_id (hval 2 23 v2 rfl rfl) h2
  refine (law a b c d e f W).mono fun en W' ⟨he, hb⟩ => ?_
  subst he
  exact post_law laidOut (by kernel_rfl) rfl Try.underlying4 rfl rfl rfl rfl hW' hb

theorem txnOrder_holds : Rows.TxnOrderSaid :=
  OpenClaim.holds_of_wide 3 Try.f3 rfl rfl rfl rfl rfl rfl rfl ⟨rfl, rfl, rfl, rfl, rfl⟩ rfl rfl rfl rfl rfl (by kernel_rfl) Try.func3 (by kernel_rfl)
    (of_decide_eq_true (by kernel_rfl)) (by unfold Func.isWrapper; rw [if_neg (of_decide_eq_false (by kernel_rfl))]; exact ⟨rfl, rfl⟩)
    (fun os started H enc _ => lifted os started H enc)
#print axioms txnOrder_holds
end Go.Proofs.Ythpdladfcjcjiaa
