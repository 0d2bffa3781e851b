/- parishlaw08.TxnForms' walk: true of every two transactions. -/
import Derived.Test.YthpdladfcjcjiaaDoorFew08
import Derived.Test.YthpdladfcjcjiaaDoorRefTxF08
namespace Go.Proofs.YthpdladfcjcjiaaDoor
open Go.RowKit Go.Shelf Go.Sort

theorem sameT_self (a : Tx) : sameT a a = true := by
  have h1 : ∀ (l : List Rd) (n : Nat), rdsTo l l n = true := fun l n => by induction n with
    | zero => rfl
    | succ n ih => simp [rdsTo, ih, rdEq]
  have h2 : ∀ (l : List Wr) (n : Nat), wrsTo l l n = true := fun l n => by induction n with
    | zero => rfl
    | succ n ih => simp [wrsTo, ih, wrEq]
  simp [sameT, idEqB, rdsEq, wrsEq, h1, h2]
set_option maxRecDepth 100000 in
set_option maxHeartbeats 4000000 in
theorem law_forms (a b : Tx) (A B A' B' : Option Addr) (ca cb ca' cb' : Nat) (w : World) (ha : TxAt w a A B) (hb' : TxAt w b A' B') (hT : Tabs w) :
    Calls Tryd.prog 6 #[txV a A B ca cb, txV b A' B' ca' cb'] w fun e w' => e = .returned (.bool true) ∧ Below w.heap.size w w' := by
  unfold txV
  obtain ⟨W, eW, HB, c0, c1, c2, c3, e0, e1, e2, e3⟩ := box44 w (.int .i64 a.ses) (.int .i64 a.seq) (.slice A a.rds.length ca) (.slice B a.wrs.length cb) (.int .i64 b.ses) (.int .i64 b.seq) (.slice A' b.rds.length ca') (.slice B' b.wrs.length cb') 41
  have ha := ha.later HB
  have hb' := hb'.later HB
  have hT := hT.later HB
  obtain ⟨fa, hfa⟩ : ∃ r, Hid (fewT a = r) := ⟨_, rfl⟩
  obtain ⟨fb, hfb⟩ : ∃ r, Hid (fewT b = r) := ⟨_, rfl⟩
  cases fa
  · go_enter Tryd.func6, Tryd.ntmps6
    go_wp2_with (first
      | (go_at_call 23; refine (awake08_any _).mono ?_; rintro e w1 ⟨rfl, hb⟩; replace c0 := keep hb c0; replace c1 := keep hb c1; replace c2 := keep hb c2; replace c3 := keep hb c3; replace e0 := keep hb e0; replace e1 := keep hb e1; replace e2 := keep hb e2; replace e3 := keep hb e3; replace ha := ha.later hb; replace hb' := hb'.later hb; replace hT := hT.later hb; replace HB := keepB HB hb; clear hb)
      | (go_at_call 24; refine (calls_bool hfa.out (few08_any a _ _ _ _ _ ha)).mono ?_; rintro e w1 ⟨rfl, hb⟩; replace c0 := keep hb c0; replace c1 := keep hb c1; replace c2 := keep hb c2; replace c3 := keep hb c3; replace e0 := keep hb e0; replace e1 := keep hb e1; replace e2 := keep hb e2; replace e3 := keep hb e3; replace ha := ha.later hb; replace hb' := hb'.later hb; replace hT := hT.later hb; replace HB := keepB HB hb; clear hb))
    go_ret
    exact ⟨rfl, HB⟩
  · cases fb
    · go_enter Tryd.func6, Tryd.ntmps6
      go_wp2_with (first
        | (go_at_call 23; refine (awake08_any _).mono ?_; rintro e w1 ⟨rfl, hb⟩; replace c0 := keep hb c0; replace c1 := keep hb c1; replace c2 := keep hb c2; replace c3 := keep hb c3; replace e0 := keep hb e0; replace e1 := keep hb e1; replace e2 := keep hb e2; replace e3 := keep hb e3; replace ha := ha.later hb; replace hb' := hb'.later hb; replace hT := hT.later hb; replace HB := keepB HB hb; clear hb)
        | (go_at_call_of 24 (A'); refine (calls_bool hfb.out (few08_any b _ _ _ _ _ hb')).mono ?_; rintro e w1 ⟨rfl, hb⟩; replace c0 := keep hb c0; replace c1 := keep hb c1; replace c2 := keep hb c2; replace c3 := keep hb c3; replace e0 := keep hb e0; replace e1 := keep hb e1; replace e2 := keep hb e2; replace e3 := keep hb e3; replace ha := ha.later hb; replace hb' := hb'.later hb; replace hT := hT.later hb; replace HB := keepB HB hb; clear hb)
        | (go_at_call_of 24 (A); refine (calls_bool hfa.out (few08_any a _ _ _ _ _ ha)).mono ?_; rintro e w1 ⟨rfl, hb⟩; replace c0 := keep hb c0; replace c1 := keep hb c1; replace c2 := keep hb c2; replace c3 := keep hb c3; replace e0 := keep hb e0; replace e1 := keep hb e1; replace e2 := keep hb e2; replace e3 := keep hb e3; replace ha := ha.later hb; replace hb' := hb'.later hb; replace hT := hT.later hb; replace HB := keepB HB hb; clear hb))
      go_ret
      exact ⟨rfl, HB⟩
    · go_enter Tryd.func6, Tryd.ntmps6
      go_wp2_with (first
        | (go_at_call 23; refine (awake08_any _).mono ?_; rintro e w1 ⟨rfl, hb⟩; replace c0 := keep hb c0; replace c1 := keep hb c1; replace c2 := keep hb c2; replace c3 := keep hb c3; replace e0 := keep hb e0; replace e1 := keep hb e1; replace e2 := keep hb e2; replace e3 := keep hb e3; replace ha := ha.later hb; replace hb' := hb'.later hb; replace hT := hT.later hb; replace HB := keepB HB hb; clear hb)
        | (go_at_call_of 24 (A'); refine (calls_bool hfb.out (few08_any b _ _ _ _ _ hb')).mono ?_; rintro e w1 ⟨rfl, hb⟩; replace c0 := keep hb c0; replace c1 := keep hb c1; replace c2 := keep hb c2; replace c3 := keep hb c3; replace e0 := keep hb e0; replace e1 := keep hb e1; replace e2 := keep hb e2; replace e3 := keep hb e3; replace ha := ha.later hb; replace hb' := hb'.later hb; replace hT := hT.later hb; replace HB := keepB HB hb; clear hb)
        | (go_at_call_of 24 (A); refine (calls_bool hfa.out (few08_any a _ _ _ _ _ ha)).mono ?_; rintro e w1 ⟨rfl, hb⟩; replace c0 := keep hb c0; replace c1 := keep hb c1; replace c2 := keep hb c2; replace c3 := keep hb c3; replace e0 := keep hb e0; replace e1 := keep hb e1; replace e2 := keep hb e2; replace e3 := keep hb e3; replace ha := ha.later hb; replace hb' := hb'.later hb; replace hT := hT.later hb; replace HB := keepB HB hb; clear hb))
      obtain ⟨wb, rfl⟩ : ∃ wb : World, wb = w1 := ⟨_, rfl⟩
      have kc0 := cell_regrown c0
      have kc1 := cell_regrown c1
      have kc2 := cell_regrown c2
      have kc3 := cell_regrown c3
      have ke0 := cell_regrown e0
      have ke1 := cell_regrown e1
      have ke2 := cell_regrown e2
      have ke3 := cell_regrown e3
      have q1 : ∀ d os, Calls Tryd.prog 25 #[.agg #[.int .i64 a.ses, .int .i64 a.seq, .slice A a.rds.length ca, .slice B a.wrs.length cb]] (grow (redrawn wb d) os) fun e w'' => e = .returned (.bool (formedT a)) ∧ ∃ p : Regrown, w'' = grow (redrawn wb p.d) p.os := fun d os => Calls.regrown_of (txFormed_any a A B ca cb _ (ha.later (below_regrown wb d os)) (hT.later (below_regrown wb d os)))
      have q2 : ∀ d os, Calls Tryd.prog 26 #[.agg #[.int .i64 a.ses, .int .i64 a.seq, .slice A a.rds.length ca, .slice B a.wrs.length cb]] (grow (redrawn wb d) os) fun e w'' => e = .returned (.bool (formedT a)) ∧ ∃ p : Regrown, w'' = grow (redrawn wb p.d) p.os := fun d os => Calls.regrown_of (refTxFormed_any a A B ca cb _ (ha.later (below_regrown wb d os)))
      have q3 : ∀ d os, Calls Tryd.prog 27 #[.agg #[.int .i64 a.ses, .int .i64 a.seq]] (grow (redrawn wb d) os) fun e w'' => e = .returned (.bool (idB a.ses a.seq)) ∧ ∃ p : Regrown, w'' = grow (redrawn wb p.d) p.os := fun d os => Calls.regrown_of (id_any a.ses a.seq _)
      have q4 : ∀ d os, Calls Tryd.prog 28 #[.agg #[.int .i64 a.ses, .int .i64 a.seq]] (grow (redrawn wb d) os) fun e w'' => e = .returned (.bool (idB a.ses a.seq)) ∧ ∃ p : Regrown, w'' = grow (redrawn wb p.d) p.os := fun d os => Calls.regrown_of (refId_any a.ses a.seq _)
      have q5 : ∀ d os, Calls Tryd.prog 29 #[.agg #[.int .i64 a.ses, .int .i64 a.seq], .agg #[.int .i64 b.ses, .int .i64 b.seq]] (grow (redrawn wb d) os) fun e w'' => e = .returned (.bool (idLess a.ses a.seq b.ses b.seq)) ∧ ∃ p : Regrown, w'' = grow (redrawn wb p.d) p.os := fun d os => Calls.regrown_of (less_any a.ses a.seq b.ses b.seq _)
      have q6 : ∀ d os, Calls Tryd.prog 30 #[.agg #[.int .i64 a.ses, .int .i64 a.seq], .agg #[.int .i64 b.ses, .int .i64 b.seq]] (grow (redrawn wb d) os) fun e w'' => e = .returned (.bool (idLess a.ses a.seq b.ses b.seq)) ∧ ∃ p : Regrown, w'' = grow (redrawn wb p.d) p.os := fun d os => Calls.regrown_of (refLess_any a.ses a.seq b.ses b.seq _)
      have q7 : ∀ d os, Calls Tryd.prog 31 #[.agg #[.int .i64 a.ses, .int .i64 a.seq, .slice A a.rds.length ca, .slice B a.wrs.length cb], .agg #[.int .i64 b.ses, .int .i64 b.seq, .slice A' b.rds.length ca', .slice B' b.wrs.length cb']] (grow (redrawn wb d) os) fun e w'' => e = .returned (.bool (sameT a b)) ∧ ∃ p : Regrown, w'' = grow (redrawn wb p.d) p.os := fun d os => Calls.regrown_of (txSame_any a b A B A' B' ca cb ca' cb' _ (ha.later (below_regrown wb d os)) (hb'.later (below_regrown wb d os)))
      have q8 : ∀ d os, Calls Tryd.prog 32 #[.agg #[.int .i64 a.ses, .int .i64 a.seq, .slice A a.rds.length ca, .slice B a.wrs.length cb], .agg #[.int .i64 b.ses, .int .i64 b.seq, .slice A' b.rds.length ca', .slice B' b.wrs.length cb']] (grow (redrawn wb d) os) fun e w'' => e = .returned (.bool (sameT a b)) ∧ ∃ p : Regrown, w'' = grow (redrawn wb p.d) p.os := fun d os => Calls.regrown_of (refTxSame_any a b A B A' B' ca cb ca' cb' _ (ha.later (below_regrown wb d os)) (hb'.later (below_regrown wb d os)))
      have q9 : ∀ d os, Calls Tryd.prog 31 #[.agg #[.int .i64 a.ses, .int .i64 a.seq, .slice A a.rds.length ca, .slice B a.wrs.length cb], .agg #[.int .i64 a.ses, .int .i64 a.seq, .slice A a.rds.length ca, .slice B a.wrs.length cb]] (grow (redrawn wb d) os) fun e w'' => e = .returned (.bool true) ∧ ∃ p : Regrown, w'' = grow (redrawn wb p.d) p.os := fun d os => Calls.regrown_of (calls_bool (sameT_self a) (txSame_any a a A B A B ca cb ca cb _ (ha.later (below_regrown wb d os)) (ha.later (below_regrown wb d os))))
      refine wp_region_quiet_below (by kernel_rfl) (by kernel_rfl) ?_
      repeat (go_big_quiet_step (first
        | (go_at_call 25; exact q1 _ _)
        | (go_at_call 26; exact q2 _ _)
        | (go_at_call 27; exact q3 _ _)
        | (go_at_call 28; exact q4 _ _)
        | (go_at_call 29; exact q5 _ _)
        | (go_at_call 30; exact q6 _ _)
        | (go_at_call_of 31 (A'); exact q7 _ _)
        | (go_at_call 32; exact q8 _ _)
        | (go_at_call 31; exact q9 _ _)))
      refine wpQuiet_nil ?_
      intro _ hw'
      obtain ⟨⟨dq, osq⟩, hw''⟩ := hw'
      subst hw''
      have HS := below_regrown wb dq osq
      clear kc0 kc1 kc2 kc3 ke0 ke1 ke2 ke3 q1 q2 q3 q4 q5 q6 q7 q8 q9
      go_wp2
      go_ret
      exact ⟨rfl, keepB HB HS⟩
end Go.Proofs.YthpdladfcjcjiaaDoor
