/- slices.Clone at versions; slices.IndexFunc with Collect's closure. -/
import Derived.Test.YtboiafchmdflpaaDoorColM14
namespace Go.Proofs.YtboiafchmdflpaaDoor
open Go.RowKit Go.Maps Go.Sort Go.Shelf

theorem verCs_take (l : List Ver) (k : Nat) {j : Nat} {u : Value} (h : (verCs (l.take k))[j]? = some u) : (verCs l)[j]? = some u := by
  conv => lhs; rw [← List.take_append_drop k l, verCs_append]
  rw [List.getElem?_append_left (List.getElem?_eq_some_iff.1 h).1]
  exact h
set_option maxHeartbeats 2000000 in
set_option maxRecDepth 100000 in
theorem clone14_l (l : List Ver) (b ca : Nat) (w : World) (hA : ∀ j u, (verCs l)[j]? = some u → w.cell? ⟨b, 0 + j, none⟩ = some u) (hn : l.length ≤ 900000) :
    Calls Tryd.prog 42 #[.slice (some ⟨b, 0, none⟩) l.length ca] w fun e w' => ∃ v', e = .returned v' ∧ w'.ownsRow w.heap.size 94 4 v' l.length (verCs l) ∧ Below w.heap.size w w' := by
  have q22 : ∀ (w : World) (a : Option Addr) (n c n' c' : Nat), (binOp .eql 91 (.slice a n c) (.slice none n' c')).run Tryd.prog w = .ok (.bool a.isNone) w := fun w a n c n' c' => Lib.run_eql_slice_nil w _ _ a n c n' c' Tryd.underlying91
  obtain ⟨i0, hi, hz0, hz1, hz2⟩ := info_parts info_ver
  have HA := Lib.hid hA
  clear hA
  go_enter Tryd.func42, Tryd.ntmps42
  go_wp2_with (at_builtin; refine wpList_append_own _ rfl _ _ 91 rfl w.heap.size 94 i0 _ 4 40 Tryd.underlying91 hi hz0 hz1 hz2 rfl (by decide) _ _ _ rfl (World.ownsRow_made w #[] 0 (Nat.le_refl _) (Nat.zero_le _) (by simp)) ⟨b, 0, none⟩ l.length ca (verCs l) rfl ?qc1 ?qc2 ?qc3 ?qc4 ?qc5 ?qc6 ?_)
  case qc1 => exact verCs_len l
  case qc2 =>
    intro j u hj
    rw [Go.WideShapes.add_plain]
    exact keepA _ (HA.out j u hj)
  case qc3 => exact verCs_one l
  case qc4 => rw [Nat.zero_add]; exact le_maxLen (by omega)
  case qc5 => omega
  case qc6 => simp
  intro v' w1 hown hgrow _
  go_wp2
  go_ret
  exact ⟨v', rfl, by simpa using hown, ((Below.refl _ w).alloc (Nat.le_refl _) _).grown hgrow (by simp) (by intro k hk; simp [Value.ownBlock] at hk; omega)⟩
theorem clone14_any (l : List Ver) (b m ca : Nat) (w : World) (hA : ∀ j u, (verCs l)[j]? = some u → w.cell? ⟨b, 0 + j, none⟩ = some u) (hn : l.length ≤ 900000) (hm : l.length = m) :
    Calls Tryd.prog 42 #[.slice (some ⟨b, 0, none⟩) m ca] w fun e w' => ∃ A c, e = .returned (.slice A m c) ∧ w'.ownsRow w.heap.size 94 4 (.slice A m c) l.length (verCs l) ∧ Below w.heap.size w w' := by
  subst hm
  refine (clone14_l l b ca w hA hn).mono ?_
  rintro e w' ⟨v', rfl, hr, hb⟩
  obtain ⟨A, c, rfl, _, _⟩ := own_vers hr
  exact ⟨A, c, rfl, hr, hb⟩
set_option maxRecDepth 100000 in
theorem colC_any {w : World} (g : Nat) (n : Nat) (cg : w.cell? ⟨g, 0, none⟩ = some (.int .u64 (n : Int))) (v : Ver) :
    Calls Tryd.prog 41 #[.agg #[.int .u64 (v.num : Int), .int .i64 v.val.kind, .int .u64 (v.val.bits : Int), .string v.val.text], .pointer (some ⟨g, 0, none⟩)] w fun e w' => e = .returned (.bool (decide (v.num ≤ n))) ∧ Below w.heap.size w w' := by
  obtain ⟨W, eW, HB, hsz, hrow⟩ := new4 w (.int .u64 (v.num : Int)) (.int .i64 v.val.kind) (.int .u64 (v.val.bits : Int)) (.string v.val.text) 94
  obtain ⟨c0, c1, c2, c3, _⟩ := cells4 hrow
  have cg' := keep HB cg
  by_cases hv : v.num ≤ n
  · have q : decide ((v.num : Int) ≤ (n : Int)) = true := by rw [decide_eq_true_iff]; omega
    have HQ := Lib.hid (decide_eq_true hv)
    clear hv hrow
    go_enter Tryd.func41, Tryd.ntmps41
    go_wp2
    go_ret
    exact ⟨by rw [HQ.out] <;> rfl, HB⟩
  · have q : decide ((v.num : Int) ≤ (n : Int)) = false := by rw [decide_eq_false_iff_not]; omega
    have HQ := Lib.hid (decide_eq_false hv)
    clear hv hrow
    go_enter Tryd.func41, Tryd.ntmps41
    go_wp2
    go_ret
    exact ⟨by rw [HQ.out] <;> rfl, HB⟩
theorem calls_b14' {P : Program} {f : FuncId} {args : Array Value} {w : World} {z x : Bool} (e : z = x) (h : Calls P f args w fun e w' => e = .returned (.bool z) ∧ Below w.heap.size w w') : Calls P f args w fun e w' => e = .returned (.bool x) ∧ Below w.heap.size w w' := by
  rw [e] at h; exact h
set_option maxRecDepth 100000 in
set_option maxHeartbeats 1000000 in
theorem idxC_any {w : World} (g n : Nat) (cg : w.cell? ⟨g, 0, none⟩ = some (.int .u64 (n : Int))) (l : List Ver) (A : Option Addr) (ca : Nat) (hA : VersAt w A l) (hn : l.length ≤ 900000) :
    Calls Tryd.prog 40 #[.slice A l.length ca, .func (.func 41) #[] #[.pointer (some ⟨g, 0, none⟩)]] w fun e w' => e = .returned (.int .i64 (idxC l n)) ∧ Below w.heap.size w w' := by
  go_enter Tryd.func40, Tryd.ntmps40
  go_wp2_with fail
  go_loopw [8] (fun i wr => ∃ k : Nat, k ≤ l.length ∧ i = .int .i64 k ∧ Hid ((l.take k).all (hiB n) = true) ∧ Below w.heap.size w wr) (fun i _ => l.length - (intOf i).toNat)
  case atStart => exact ⟨0, Nat.zero_le _, rfl, rfl, Below.refl _ _⟩
  case round =>
    obtain ⟨k, hk, rfl, HA, hw⟩ := hrel
    have hr := hA.later hw
    have cgr := keep hw cg
    by_cases hlt : k < l.length
    · obtain ⟨b, off, m, z, bt, t, rfl, d0, d1, d2, d3, HX⟩ := hr.at' hlt
      have hki : (k : Int) < (l.length : Int) := by omega
      by_cases hv : m ≤ n
      · have HI : Hid (idxC l n = (k : Int)) := idxC_hit hlt HA.out HX.out hv
        have HC := Lib.hid (calls_b14' (decide_eq_true hv) (colC_any g n cgr ⟨m, ⟨z, bt, t⟩⟩))
        clear hv hr
        go_wp2_with (go_at_call 41; refine HC.out.mono ?_; rintro e w1 ⟨rfl, hb⟩; replace hw := keepB hw hb)
        go_ret
        exact ⟨by rw [HI.out] <;> rfl, hw⟩
      · have HF : Hid ((l.take (k + 1)).all (hiB n) = true) := all_next hlt HX.out (by rw [hiB]; exact decide_eq_true (by show n < m; omega)) HA.out
        have HC := Lib.hid (calls_b14' (decide_eq_false hv) (colC_any g n cgr ⟨m, ⟨z, bt, t⟩⟩))
        clear hv hr
        go_wp2_with (go_at_call 41; refine HC.out.mono ?_; rintro e w1 ⟨rfl, hb⟩; replace hw := keepB hw hb)
        go_roundw
        case rel => exact ⟨k + 1, by omega, by go_num, HF, hw⟩
        case measure => simp [intOf]; omega
    · have HI : Hid (idxC l n = -1) := by
        show _ = _
        have := HA.out
        rw [show l.take k = l from List.take_of_length_le (by omega)] at this
        exact idxC_none this
      go_wp2
      go_ret
      exact ⟨by rw [HI.out] <;> rfl, hw⟩
end Go.Proofs.YtboiafchmdflpaaDoor
