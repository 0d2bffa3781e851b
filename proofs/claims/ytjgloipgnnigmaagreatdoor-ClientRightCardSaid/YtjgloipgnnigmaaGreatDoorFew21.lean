/- Layer 21's few: whether a script is looked at; plain: a message as the reference has it. -/
import Derived.Test.YtjgloipgnnigmaaGreatDoorJ5
import Derived.Test.YtjgloipgnnigmaaGreatDoorJ6
import Derived.Test.YtjgloipgnnigmaaGreatDoorJ3
import Derived.Outline
set_option linter.unusedVariables false
set_option linter.unusedSimpArgs false
namespace Go.Proofs.YtjgloipgnnigmaaGreatDoor
open Go.RowKit Go.Shelf

def fewM (m : MsgV) : Bool := fewT m.ct && fewT m.t && decide (m.key.size ≤ 1000) && decide (m.val.text.size ≤ 1000) && decide (m.data.length ≤ 70000)
def fewO (o : OpX) : Bool := decide (o.key.size ≤ 1000) && decide (o.val.text.size ≤ 1000) && decide (o.keys.length ≤ 10) && fewM o.m && o.keys.all fun k => decide (k.size ≤ 1000)
def few21 (c : Cfg) (l : List OpX) : Bool := (l.take 100).all fewO && decide (l.length ≤ 60) && fewB c
theorem calls_few {P : Program} {f : FuncId} {args : Array Value} {w : World} {z x : Bool} (e : z = x) (h : Calls P f args w fun e w' => e = .returned (.bool z) ∧ Below w.heap.size w w') : Calls P f args w fun e w' => e = .returned (.bool x) ∧ Below w.heap.size w w' := by
  rw [e] at h; exact h
set_option maxHeartbeats 1000000 in
theorem few09_any (k : Int) (t : Tx) (A B : Option Addr) (ca cb : Nat) (i q g : Int) (st : Nat) (y : Bool) (w : World) (h : TxAt w t A B) :
    Calls Tryz.prog 76 #[.agg #[.int .i64 k, .int .i64 t.ses, .int .i64 t.seq, .slice A t.rds.length ca, .slice B t.wrs.length cb, .int .i64 i, .int .i64 q, .int .i64 g, .int .u64 (st : Int), .bool y]] w fun e w' => e = .returned (.bool (fewT t)) ∧ Below w.heap.size w w' := by
  obtain ⟨W, eW, HB, hsz, hrow⟩ := boxed w #[.int .i64 k, .int .i64 t.ses, .int .i64 t.seq, .slice A t.rds.length ca, .slice B t.wrs.length cb, .int .i64 i, .int .i64 q, .int .i64 g, .int .u64 (st : Int), .bool y] 83
  have c1 : W.cell? ⟨w.heap.size, 1, none⟩ = some (.int .i64 t.ses) := by rw [cell_of_row W _ _ _ _ _ hrow]; rfl
  have c2 : W.cell? ⟨w.heap.size, 2, none⟩ = some (.int .i64 t.seq) := by rw [cell_of_row W _ _ _ _ _ hrow]; rfl
  have c3 : W.cell? ⟨w.heap.size, 3, none⟩ = some (.slice A t.rds.length ca) := by rw [cell_of_row W _ _ _ _ _ hrow]; rfl
  have c4 : W.cell? ⟨w.heap.size, 4, none⟩ = some (.slice B t.wrs.length cb) := by rw [cell_of_row W _ _ _ _ _ hrow]; rfl
  have h := h.later HB
  obtain ⟨f, hf⟩ : ∃ f, Hid (fewT t = f) := ⟨_, rfl⟩
  clear hrow hsz
  go_enter Tryz.func76, Tryz.ntmps76
  go_wp2_with (go_at_call 77; refine (calls_few hf.out (few08_any t A B ca cb _ h)).mono ?_; rintro e w1 ⟨rfl, hb⟩; replace HB := keepB HB hb)
  go_ret
  exact ⟨by rw [hf.out]; rfl, HB⟩
set_option maxHeartbeats 2000000 in
theorem few10_any (m : MsgV) (w : World) (h : MsgAt w m) : Calls Tryz.prog 33 #[m.v] w fun e w' => e = .returned (.bool (fewM m)) ∧ Below w.heap.size w w' := by
  unfold MsgV.v
  obtain ⟨W, eW, HB, hsz, hrow⟩ := boxed w m.vs 85
  obtain ⟨_, _, _, _, _, _, _, c7, c8, c9, c10, c11, c12, c13, c14, c15, c16, c17, c18, c19, c20, _, _, _, _, _, _, c27, _, _, _, c31, _, c33⟩ := msg_cs hrow
  have h := h.later HB
  have hc := h.c
  have ht := h.t
  have hk := h.k
  have hv := h.v.t
  have hn := h.n
  obtain ⟨f1, hf1⟩ : ∃ f, Hid (fewT m.ct = f) := ⟨_, rfl⟩
  obtain ⟨f2, hf2⟩ : ∃ f, Hid (fewT m.t = f) := ⟨_, rfl⟩
  have HR : Hid (fewM m = (f1 && f2 && decide (m.key.size ≤ 1000) && decide (m.val.text.size ≤ 1000) && decide (m.data.length ≤ 70000))) := by show _ = _; rw [fewM, hf1.out, hf2.out]
  clear hrow hsz h
  cases f1
  · go_enter Tryz.func33, Tryz.ntmps33
    go_wp2_with (go_at_call 76; refine (calls_few hf1.out (few09_any _ m.ct _ _ _ _ _ _ _ _ _ _ hc)).mono ?_; rintro e w1 ⟨rfl, hb⟩; replace HB := keepB HB hb)
    go_ret
    exact ⟨by rw [HR.out]; rfl, HB⟩
  · cases f2
    · go_enter Tryz.func33, Tryz.ntmps33
      go_wp2_with (first
        | (go_at_call 76; refine (calls_few hf1.out (few09_any _ m.ct _ _ _ _ _ _ _ _ _ _ hc)).mono ?_; rintro e w1 ⟨rfl, hb⟩; replace HB := keepB HB hb; replace ht := ht.later hb; replace c17 := keep hb c17; replace c18 := keep hb c18; replace c19 := keep hb c19; replace c20 := keep hb c20; clear hb)
        | (go_at_call 77; refine (calls_few hf2.out (few08_any m.t _ _ _ _ _ ht)).mono ?_; rintro e w2 ⟨rfl, hb⟩; replace HB := keepB HB hb))
      go_ret
      exact ⟨by rw [HR.out]; rfl, HB⟩
    · by_cases q1 : m.key.size ≤ 1000 <;> by_cases q2 : m.val.text.size ≤ 1000 <;> by_cases q3 : m.data.length ≤ 70000
      all_goals
        have d1 : decide ((m.key.size : Int) ≤ 1000) = decide (m.key.size ≤ 1000) := by rw [decide_eq_decide]; omega
        have d2 : decide ((m.val.text.size : Int) ≤ 1000) = decide (m.val.text.size ≤ 1000) := by rw [decide_eq_decide]; omega
        have d3 : decide ((m.data.length : Int) ≤ 70000) = decide (m.data.length ≤ 70000) := by rw [decide_eq_decide]; omega
        have HR2 : Hid (fewM m = (decide (m.key.size ≤ 1000) && decide (m.val.text.size ≤ 1000) && decide (m.data.length ≤ 70000))) := HR.out
        refine calls_few HR2.out.symm ?_
        first | rw [decide_eq_true q1] at d1 ⊢ | rw [decide_eq_false q1] at d1 ⊢
        first | rw [decide_eq_true q2] at d2 ⊢ | rw [decide_eq_false q2] at d2 ⊢
        first | rw [decide_eq_true q3] at d3 ⊢ | rw [decide_eq_false q3] at d3 ⊢
        clear q1 q2 q3 HR HR2
        go_enter Tryz.func33, Tryz.ntmps33
        go_wp2_with (first
          | (go_at_call 76; refine (calls_few hf1.out (few09_any _ m.ct _ _ _ _ _ _ _ _ _ _ hc)).mono ?_; rintro e w1 ⟨rfl, hb⟩; replace HB := keepB HB hb; replace ht := ht.later hb; replace c17 := keep hb c17; replace c18 := keep hb c18; replace c19 := keep hb c19; replace c20 := keep hb c20; replace c27 := keep hb c27; replace c31 := keep hb c31; replace c33 := keep hb c33; clear hb)
          | (go_at_call 77; refine (calls_few hf2.out (few08_any m.t _ _ _ _ _ ht)).mono ?_; rintro e w2 ⟨rfl, hb⟩; replace HB := keepB HB hb; replace c27 := keep hb c27; replace c31 := keep hb c31; replace c33 := keep hb c33; clear hb))
        go_ret
        exact ⟨rfl, HB⟩

theorem OpsAt.at' {w : World} {S : Option Addr} {l : List OpX} (h : OpsAt w S l) {k : Nat} (hk : k < l.length) : ∃ b off o, S = some ⟨b, off, none⟩ ∧ CellRow w ⟨b, off + k * 41, none⟩ o.vs ∧ OpAt w o ∧ Hid (l.getD k noOpX = o) := by
  obtain ⟨b, off, e, h1, h2⟩ := h k hk
  exact ⟨b, off, _, e, h1, h2, rfl⟩
theorem few_bad {c : Cfg} {l : List OpX} {k : Nat} {o : OpX} (hk : k < l.length) (h1 : k < 100) (h : l.getD k noOpX = o) (hx : fewO o = false) : few21 c l = false := by
  have : (l.take 100).all fewO = false := by
    refine all_bad (d := noOpX) (k := k) (x := o) (by simp; omega) ?_ hx
    rw [← h]
    simp [List.getD_eq_getElem?_getD, h1]
  rw [few21, this]; rfl
theorem ret_few {a b : Bool} (h : a = b) : Ending.returned (.bool b) = .returned (.bool a) := by rw [h]
theorem info_op21 : (Tryz.prog.info? 45).map (·.size) = some 41 := by kernel_rfl
theorem info_msg10 : (Tryz.prog.info? 43).map (·.size) = some 34 := by kernel_rfl
set_option maxRecDepth 100000 in
set_option maxHeartbeats 4000000 in
theorem few21_any (c : Cfg) (l : List OpX) (A B S : Option Addr) (ca cb cs : Nat) (w : World) (h : CfgAt w c A B) (hO : OpsAt w S l) (hn : l.length ≤ 9223372036854775807) :
    Calls Tryz.prog 9 #[.agg #[.slice A c.reps.length ca, .slice B c.bnds.length cb], .slice S l.length cs] w fun e w' => e = .returned (.bool (few21 c l)) ∧ Below w.heap.size w w' := by
  obtain ⟨W, eW, HB, c0, c1⟩ := box2 w (.slice A c.reps.length ca) (.slice B c.bnds.length cb) 25
  have h := Lib.hid (h.later HB)
  have hO := Lib.hid (hO.later HB)
  go_enter Tryz.func9, Tryz.ntmps9
  go_wp2_with fail
  clear eW
  go_loopw [5] (fun i wr => ∃ k : Nat, k ≤ l.length ∧ k ≤ 100 ∧ i = .int .i64 k ∧ Hid ((l.take k).all fewO = true) ∧ Below W.heap.size W wr) (fun i _ => l.length - (intOf i).toNat)
  case atStart => exact ⟨0, Nat.zero_le _, Nat.zero_le _, rfl, rfl, Below.refl _ _⟩
  case round =>
    obtain ⟨k, hk, hk1, rfl, HA, hw⟩ := hrel
    have hB := keepB HB hw
    replace c0 := keep hw c0
    replace c1 := keep hw c1
    by_cases hlt : k < l.length
    · by_cases h100 : k < 100
      · obtain ⟨b, off, o, rfl, hrow, ho, HX⟩ := (hO.out.later hw).at' hlt
        have HR := Lib.hid hrow
        have hks := ho.k
        have hkt := ho.v.t
        have hkn := ho.kn
        have HO := Lib.hid ho
        clear hrow ho
        by_cases z1 : o.key.size ≤ 1000
        · have q1 : ¬ (1000 < (o.key.size : Int)) := by omega
          by_cases z2 : o.val.text.size ≤ 1000
          · have q2 : ¬ (1000 < (o.val.text.size : Int)) := by omega
            by_cases z3 : o.keys.length ≤ 10
            · have q3 : ¬ (10 < (o.keys.length : Int)) := by omega
              obtain ⟨f, hf⟩ : ∃ f, Hid (fewM o.m = f) := ⟨_, rfl⟩
              cases f
              · have HF : Hid (few21 c l = false) := few_bad hlt h100 HX.out (by rw [fewO, hf.out, Bool.and_false, Bool.false_and])
                clear z1 z2 z3
                go_wp2_with (first
            | (refine wpList_load_cells rfl 45 _ rfl ⟨b, off + k * 41, none⟩ rfl o.vs _ HR.out Tryz.underlying45 rfl info_op21 ?_)
            | (refine wpList_store_new rfl 45 _ _ rfl wr o.vs 45 rfl rfl rfl info_op21 rfl (op_one o) ?_; intro W2 HB2 hsz2 hrow2; obtain ⟨d0, d1, d2, d3, d4, d5, d40, dm⟩ := op_cs hrow2; replace dm := Lib.hid dm; replace hw := keepB hw HB2; have HO2 := Lib.hid (HO.out.later HB2); clear hrow2)
            | (refine wpList_load_cells rfl 43 _ rfl ⟨wr.heap.size, 6, none⟩ rfl o.m.vs _ dm.out Tryz.underlying43 rfl info_msg10 ?_)
            | (go_at_call 28; refine (plain_any o.m _).mono ?_; rintro e w3 ⟨rfl, hb⟩; replace hw := keepB hw hb; replace d5 := keep hb d5; replace HO2 := Lib.hid (HO2.out.later hb); clear hb)
            | (go_at_call 33; refine (calls_few hf.out (few10_any o.m _ HO2.out.m)).mono ?_; rintro e w4 ⟨rfl, hb⟩; replace hw := keepB hw hb; replace d5 := keep hb d5; replace HO2 := Lib.hid (HO2.out.later hb); clear hb))
                go_ret
                exact ⟨ret_few HF.out, keepB HB hw⟩
              · have HG : Hid (∀ b, (o.keys.all fun k => decide (k.size ≤ 1000)) = b → fewO o = b) := fun b hb => by rw [fewO, decide_eq_true z1, decide_eq_true z2, decide_eq_true z3, hf.out, hb]; rfl
                clear z1 z2 z3
                go_wp2_with (first
            | (refine wpList_load_cells rfl 45 _ rfl ⟨b, off + k * 41, none⟩ rfl o.vs _ HR.out Tryz.underlying45 rfl info_op21 ?_)
            | (refine wpList_store_new rfl 45 _ _ rfl wr o.vs 45 rfl rfl rfl info_op21 rfl (op_one o) ?_; intro W2 HB2 hsz2 hrow2; obtain ⟨d0, d1, d2, d3, d4, d5, d40, dm⟩ := op_cs hrow2; replace dm := Lib.hid dm; replace hw := keepB hw HB2; have HO2 := Lib.hid (HO.out.later HB2); clear hrow2)
            | (refine wpList_load_cells rfl 43 _ rfl ⟨wr.heap.size, 6, none⟩ rfl o.m.vs _ dm.out Tryz.underlying43 rfl info_msg10 ?_)
            | (go_at_call 28; refine (plain_any o.m _).mono ?_; rintro e w3 ⟨rfl, hb⟩; replace hw := keepB hw hb; replace d5 := keep hb d5; replace HO2 := Lib.hid (HO2.out.later hb); clear hb)
            | (go_at_call 33; refine (calls_few hf.out (few10_any o.m _ HO2.out.m)).mono ?_; rintro e w4 ⟨rfl, hb⟩; replace hw := keepB hw hb; replace d5 := keep hb d5; replace HO2 := Lib.hid (HO2.out.later hb); clear hb))
                go_loop [7] (fun i => ∃ j : Nat, j ≤ o.keys.length ∧ i = .int .i64 j ∧ Hid ((o.keys.take j).all (fun k => decide (k.size ≤ 1000)) = true)) (fun i => o.keys.length - (intOf i).toNat)
                case atStart => exact ⟨0, Nat.zero_le _, rfl, rfl⟩
                case round =>
                  obtain ⟨j, hj, rfl, HJ⟩ := hrel
                  by_cases hjl : j < o.keys.length
                  · obtain ⟨kb, koff, s, ek, kc, KX⟩ := StrsAt.at' HO2.out.ks hjl
                    rw [ek] at d5
                    by_cases z5 : s.size ≤ 1000
                    · have q5 : ¬ (1000 < (s.size : Int)) := by omega
                      have HJ2 : Hid ((o.keys.take (j + 1)).all (fun k => decide (k.size ≤ 1000)) = true) := all_next hjl KX.out (by simpa using z5) HJ.out
                      clear z5
                      go_wp2
                      go_round
                      case rel => exact ⟨j + 1, by omega, by go_num, HJ2⟩
                      case measure => simp [intOf]; omega
                    · have q5 : 1000 < (s.size : Int) := by omega
                      have HF : Hid (few21 c l = false) := few_bad hlt h100 HX.out (HG.out _ (all_bad hjl KX.out (by simpa using z5)))
                      clear z5
                      go_wp2
                      go_ret
                      exact ⟨ret_few HF.out, keepB HB hw⟩
                  · have HA2 : Hid ((l.take (k + 1)).all fewO = true) := all_next hlt HX.out (HG.out _ (by have := HJ.out; rwa [List.take_of_length_le (by omega)] at this)) HA.out
                    go_wp2
                    go_roundw
                    case rel => exact ⟨k + 1, by omega, by omega, by go_num, HA2, hw⟩
                    case measure => simp [intOf]; omega
            · have q3 : 10 < (o.keys.length : Int) := by omega
              have HF : Hid (few21 c l = false) := few_bad hlt h100 HX.out (by rw [fewO, decide_eq_false z3, Bool.and_false]; rfl)
              clear z1 z2 z3
              go_wp2_with (first
            | (refine wpList_load_cells rfl 45 _ rfl ⟨b, off + k * 41, none⟩ rfl o.vs _ HR.out Tryz.underlying45 rfl info_op21 ?_)
            | (refine wpList_store_new rfl 45 _ _ rfl wr o.vs 45 rfl rfl rfl info_op21 rfl (op_one o) ?_; intro W2 HB2 hsz2 hrow2; obtain ⟨d0, d1, d2, d3, d4, d5, d40, dm⟩ := op_cs hrow2; replace dm := Lib.hid dm; replace hw := keepB hw HB2; have HO2 := Lib.hid (HO.out.later HB2); clear hrow2))
              go_ret
              exact ⟨ret_few HF.out, keepB HB hw⟩
          · have q2 : 1000 < (o.val.text.size : Int) := by omega
            have HF : Hid (few21 c l = false) := few_bad hlt h100 HX.out (by rw [fewO, decide_eq_false z2, Bool.and_false]; rfl)
            clear z1 z2
            go_wp2_with (first
            | (refine wpList_load_cells rfl 45 _ rfl ⟨b, off + k * 41, none⟩ rfl o.vs _ HR.out Tryz.underlying45 rfl info_op21 ?_)
            | (refine wpList_store_new rfl 45 _ _ rfl wr o.vs 45 rfl rfl rfl info_op21 rfl (op_one o) ?_; intro W2 HB2 hsz2 hrow2; obtain ⟨d0, d1, d2, d3, d4, d5, d40, dm⟩ := op_cs hrow2; replace dm := Lib.hid dm; replace hw := keepB hw HB2; have HO2 := Lib.hid (HO.out.later HB2); clear hrow2))
            go_ret
            exact ⟨ret_few HF.out, keepB HB hw⟩
        · have q1 : 1000 < (o.key.size : Int) := by omega
          have HF : Hid (few21 c l = false) := few_bad hlt h100 HX.out (by rw [fewO, decide_eq_false z1]; rfl)
          clear z1
          go_wp2_with (first
            | (refine wpList_load_cells rfl 45 _ rfl ⟨b, off + k * 41, none⟩ rfl o.vs _ HR.out Tryz.underlying45 rfl info_op21 ?_)
            | (refine wpList_store_new rfl 45 _ _ rfl wr o.vs 45 rfl rfl rfl info_op21 rfl (op_one o) ?_; intro W2 HB2 hsz2 hrow2; obtain ⟨d0, d1, d2, d3, d4, d5, d40, dm⟩ := op_cs hrow2; replace dm := Lib.hid dm; replace hw := keepB hw HB2; have HO2 := Lib.hid (HO.out.later HB2); clear hrow2))
          go_ret
          exact ⟨ret_few HF.out, keepB HB hw⟩
      · have q100 : decide ((k : Int) < 100) = false := by rw [decide_eq_false_iff_not]; omega
        have q60 : decide ((l.length : Int) ≤ 60) = false := by rw [decide_eq_false_iff_not]; omega
        have HF : Hid (few21 c l = false) := by show _ = _; rw [few21, decide_eq_false (show ¬ l.length ≤ 60 by omega), Bool.and_false]; rfl
        clear h100
        go_wp2
        go_ret
        exact ⟨ret_few HF.out, hB⟩
    · have ek : k = l.length := by omega
      have HA3 : Hid ((l.take 100).all fewO = true) := by show _ = _; rw [List.take_of_length_le (by omega)]; have := HA.out; rw [ek, List.take_length] at this; exact this
      by_cases h60 : l.length ≤ 60
      · have q60 : decide ((l.length : Int) ≤ 60) = true := by rw [decide_eq_true_iff]; omega
        have HF : Hid (few21 c l = fewB c) := by show _ = _; rw [few21, HA3.out, decide_eq_true h60]; rfl
        clear ek HA h60
        go_wp2_with (go_at_call 34; refine (few_any c A B ca cb _ (h.out.later hw)).mono ?_; rintro e w3 ⟨rfl, hb⟩; replace hB := keepB hB hb)
        go_ret
        exact ⟨ret_few HF.out, hB⟩
      · have q60 : decide ((l.length : Int) ≤ 60) = false := by rw [decide_eq_false_iff_not]; omega
        have HF : Hid (few21 c l = false) := by show _ = _; rw [few21, decide_eq_false h60, Bool.and_false]; rfl
        clear ek HA h60
        go_wp2
        go_ret
        exact ⟨ret_few HF.out, hB⟩
end Go.Proofs.YtjgloipgnnigmaaGreatDoor
