/- Layer 4's Take. -/
import Derived.Test.YtfblemdpimbciaaDoorRdr02
namespace Go.Proofs.YtfblemdpimbciaaDoor
open Go.RowKit Go.Shelf

theorem Tabs.out {O : Nat → Prop} {w w' : World} (h : Tabs w) (hb : Out O w w') (h1 : ¬ O 0) (h2 : ¬ O 1) : Tabs w' :=
  ⟨fun c hc => hb.cell (h.1 c hc) h1, fun i hi => ⟨hb.cell (h.2 i hi).1 h2, hb.cell (h.2 i hi).2 h2⟩⟩
theorem Tabs.lt {w : World} (h : Tabs w) : 0 < w.heap.size ∧ 1 < w.heap.size :=
  ⟨blk_lt (h.1 0 (by decide)), blk_lt (h.2 0 (by decide)).1⟩
/-- The tables, none of them in a block from p on. -/
structure TabsP (w : World) (p : Nat) : Prop where
  tabs : Tabs w
  g1 : 0 < p
  g2 : 1 < p
theorem Tabs.at_ {w : World} (h : Tabs w) {p : Nat} (hp : w.heap.size ≤ p) : TabsP w p := ⟨h, by have := h.lt.1; omega, by have := h.lt.2; omega⟩
theorem TabsP.out {O : Nat → Prop} {w w' : World} {p : Nat} (h : TabsP w p) (hb : Out O w w') (ho : ∀ k, k < p → ¬ O k) : TabsP w' p :=
  ⟨h.tabs.out hb (ho _ h.g1) (ho _ h.g2), h.g1, h.g2⟩
theorem TabsP.later {w w' : World} {p : Nat} (h : TabsP w p) (hb : Below w.heap.size w w') : TabsP w' p := ⟨h.tabs.later hb, h.g1, h.g2⟩
theorem TabsP.at_ {w w' : World} {p : Nat} (h : TabsP w p) (hb : Out (fun k => k = p) w w') : TabsP w' p := h.out hb (fun _ hk e => by omega)
theorem mk3 (w : World) (u v x : Value) (t : TypeId) : ∃ W : World, w.alloc (.cells #[u, v, x] t) = W ∧ Below w.heap.size w W ∧ W.heap.size = w.heap.size + 1 ∧ W.heap[w.heap.size]? = some (.cells #[u, v, x] t (0, 0)) :=
  ⟨_, rfl, below1 _ _, by simp, heap_alloc_new w _⟩
theorem mkc3 {w : World} {g : Nat} {u v x : Value} {t : TypeId} (h : w.heap[g]? = some (.cells #[u, v, x] t (0, 0))) : w.cell? ⟨g, 0, none⟩ = some u ∧ w.cell? ⟨g, 1, none⟩ = some v ∧ w.cell? ⟨g, 2, none⟩ = some x ∧
    w.frozen? ⟨g, 0, none⟩ = false ∧ w.frozen? ⟨g, 1, none⟩ = false ∧ w.frozen? ⟨g, 2, none⟩ = false := by
  refine ⟨?_, ?_, ?_, frozen_of_row w g _ _ _ h, frozen_of_row w g _ _ _ h, frozen_of_row w g _ _ _ h⟩ <;> (rw [cell_of_row w g _ _ _ _ h]; rfl)
def ValPost (w : World) (p : Nat) (x : Val) (s : RS) (e : Ending) (w' : World) : Prop := e = .returned x.cell ∧ RdrAt w' p s ∧ Out (fun k => k = p) w w'
theorem obj_later' {w w' : World} {g : Nat} {o : Obj} (h : w.heap[g]? = some o) (hb : Below w.heap.size w w') : w'.heap[g]? = some o := by
  rw [hb.block g (Array.getElem?_eq_some_iff.1 h).1]; exact h
/-- But for p all that was there ahead of w is as it was. -/
abbrev OutP (p : Nat) (w w' : World) : Prop := Out (fun k => k = p ∨ w.heap.size ≤ k) w w'
theorem Out.up {w W0 w1 w2 : World} {p : Nat} (h1 : Out (fun k => k = p) W0 w1) (h0 : Below w.heap.size w W0) (h2 : Below w1.heap.size w1 w2) : OutP p w w2 :=
  ((Out.of_below h0).trans' (h1.mono fun _ e => .inl e)).trans' (Out.of_below h2)
theorem Out.up2 {w w2 w3 w4 : World} {p q : Nat} (h : OutP p w w2) (h3 : Out (fun k => k = p) w2 w3) (h4 : Out (fun k => k = q) w3 w4) (hq : w.heap.size ≤ q) : OutP p w w4 :=
  (h.trans' (h3.mono fun _ e => .inl e)).trans' (h4.mono fun _ e => .inr (by omega))
theorem Out.up3 {w w2 w3 : World} {p : Nat} (h : OutP p w w2) (h3 : Out (fun k => k = p) w2 w3) : OutP p w w3 := h.trans' (h3.mono fun _ e => .inl e)
theorem Out.up4 {w w2 w3 : World} {p : Nat} (h : OutP p w w2) (h3 : Below w2.heap.size w2 w3) : OutP p w w3 := h.trans' (Out.of_below h3)
theorem Out.down {w w' : World} {p : Nat} (h : OutP p w w') : Out (fun k => k = p) w w' :=
  ⟨h.os, h.tape, h.output, h.size, fun k hk ho => h.block k hk (fun e => e.elim ho (fun e => by omega))⟩
theorem row_set1 {w w' : World} {q : Nat} {a b c : Value} {t : TypeId} (h : w.heap[q]? = some (.cells #[a, b, c] t (0, 0))) (v : Value) (e : w.setCell ⟨q, 1, none⟩ v = w') : Out (fun k => k = q) w w' ∧ w'.heap[q]? = some (.cells #[a, v, c] t (0, 0)) := by
  subst e
  exact ⟨out_cell w q 1 v, by simpa using obj_set (j := 1) v h⟩
theorem row_set2 {w w' : World} {q : Nat} {a b c : Value} {t : TypeId} (h : w.heap[q]? = some (.cells #[a, b, c] t (0, 0))) (v : Value) (e : w.setCell ⟨q, 2, none⟩ v = w') : Out (fun k => k = q) w w' ∧ w'.heap[q]? = some (.cells #[a, b, v] t (0, 0)) := by
  subst e
  exact ⟨out_cell w q 2 v, by simpa using obj_set (j := 2) v h⟩
theorem mks3 {w : World} {g : Nat} {u v x : Value} {t : TypeId} (h : w.heap[g]? = some (.cells #[u, v, x] t (0, 0))) (u' v' x' : Value) :
    (((w.setCell ⟨g, 0, none⟩ u').setCell ⟨g, 1, none⟩ v').setCell ⟨g, 2, none⟩ x').heap[g]? = some (.cells #[u', v', x'] t (0, 0)) := by
  have := obj_set (j := 2) x' (obj_set (j := 1) v' (obj_set (j := 0) u' h))
  simpa using this
/-- The result is laid in its block. -/
theorem val_end {w wz : World} {p q : Nat} {s : RS} {a b c a' b' c' : Value} {t : TypeId} {x : Val} {e : Ending} (hR : RdrAt wz p s) (_h : wz.heap[q]? = some (.cells #[a, b, c] t (0, 0))) (ho : OutP p w wz) (hq : p < q ∧ w.heap.size ≤ q) (he : e = .returned x.cell) :
    ValPost w p x s e (((wz.setCell ⟨q, 0, none⟩ a').setCell ⟨q, 1, none⟩ b').setCell ⟨q, 2, none⟩ c') := by
  have o1 := out_cell wz q 0 a'
  have o2 := out_cell (wz.setCell ⟨q, 0, none⟩ a') q 1 b'
  have o3 := out_cell ((wz.setCell ⟨q, 0, none⟩ a').setCell ⟨q, 1, none⟩ b') q 2 c'
  have o := (o1.trans' o2).trans' o3
  exact ⟨he, hR.out o (fun _ hk e => by omega), (ho.trans' (o.mono fun _ e => .inr (by omega))).down⟩
set_option maxRecDepth 100000 in
set_option maxHeartbeats 2000000 in
theorem rdrVal1 {w : World} {p : Nat} {s : RS} (h : RdrAt w p s) (hT : TabsP w p) (hk : (takeN s 1).1 = 1) :
    Calls Tryd.prog 42 #[.pointer (some ⟨p, 0, none⟩)] w (ValPost w p (takeV s).1 (takeV s).2) := by
  obtain ⟨W0, eW0, hB0, hs0, hrow0⟩ := mk3 w (.int .i64 0) (.int .u64 0) (.string ⟨#[]⟩) 62
  have hR0 := h.later hB0
  have hT0 := hT.later hB0
  have hpw := h.lt
  have HC1 := Lib.hid (rdrTake_any hR0 1 1 rfl (by decide))
  obtain ⟨s1, hs1⟩ : ∃ s1, Hid ((takeN s 1).2 = s1) := ⟨_, rfl⟩
  rw [hk, hs1.out] at HC1
  obtain ⟨b, hx⟩ : ∃ b, Hid ((takeN s1 8).1 = b) := ⟨_, rfl⟩
  obtain ⟨s2, hs2⟩ : ∃ s2, Hid ((takeN s1 8).2 = s2) := ⟨_, rfl⟩
  have HC2 : Hid (∀ wz, RdrAt wz p s1 → Calls Tryd.prog 40 #[.pointer (some ⟨p, 0, none⟩), .int .i64 8] wz (TakePost wz p b s2)) := fun wz hw => by rw [← hx.out, ← hs2.out]; exact rdrTake_any hw 8 8 rfl (by decide)
  have HV : Hid (takeV s = if s2.isSome && formedV ⟨1, b, noStr⟩ then (⟨1, b, noStr⟩, s2) else (zVal, none)) := by
    show _ = _; unfold takeV; simp only [hk, hs1.out, hx.out, hs2.out, if_true, if_false, show ¬ ((1 : Nat) = 2) by decide]
    rfl
  clear hk
  replace hT0 := Lib.hid hT0
  clear h hT
  cases s2 with
  | none =>
    replace HV : Hid (takeV s = (zVal, none)) := HV.out
    rw [HV.out]
    go_enter Tryd.func42, Tryd.ntmps42
    go_wp2_with (first
      | (go_at_call 40; (with_reducible refine HC1.out.mono ?_); rintro e w1 ⟨rfl, hR1, ho1⟩; obtain ⟨w2, ew2, hb2, hs2', hrow2⟩ := mk3 w1 (.int .i64 1) (.int .u64 0) (.string ⟨#[]⟩) 62; replace ew2 := Lib.hid ew2; have hR2 := hR1.later hb2; have hq := hR1.lt; obtain ⟨c0, c1, c2, f0, f1, f2⟩ := mkc3 hrow2; have z1 := ho1.obj hrow0 (by omega); have z2 := obj_later' z1 hb2; have u2 := Out.up ho1 hB0 hb2; have y0 := ho1.size)
      | (go_at_call 40; rw [ew2.out]; (with_reducible refine (HC2.out _ hR2).mono ?_); rintro e w3 ⟨rfl, hR3, ho3⟩; have hrow3 := ho3.obj hrow2 (by omega); obtain ⟨_, e1, e2, _, g1, g2⟩ := mkc3 hrow3; obtain ⟨w4, ew4⟩ : ∃ w4, Hid (w3.setCell ⟨w1.heap.size, 1, none⟩ (.int .u64 (b : Int)) = w4) := ⟨_, rfl⟩; obtain ⟨ho4, hrow4⟩ := row_set1 hrow3 (.int .u64 (b : Int)) ew4.out; have hR4 := hR3.out ho4 (fun k hk e => by omega); have z4 := ho4.obj (ho3.obj z2 (by omega)) (by omega); have u4 := Out.up2 u2 ho3 ho4 (by omega); have hT4 := Lib.hid ((((hT0.out.at_ ho1).later hb2).at_ ho3).out ho4 (fun k hk e => by omega)); obtain ⟨d0, d1, d2, _⟩ := mkc3 hrow4)
      | (go_at_call 14; rw [ew4.out]; (with_reducible refine (rdrOK_any hR4).mono ?_); rintro e w5 ⟨rfl, rfl⟩)
      | (go_at_call 40; (with_reducible refine (rdrBad_any hR4).mono ?_); rintro e w7 ⟨rfl, hR7, ho7⟩; have z7 := ho7.obj z4 (by omega); have u7 := Out.up3 u4 ho7; obtain ⟨x0, x1, x2, k0, k1, k2⟩ := mkc3 z7))
    obtain ⟨q0, q1, q2, _⟩ := mkc3 (mks3 z7 (.int .i64 0) (.int .u64 0) (.string ⟨#[]⟩))
    exact bodyPost_ret (v := zVal.cell) (by simp [results, Tryd.results42, go_sem, Val.cell, zVal, noStr, q0, q1, q2]; try rfl) rfl (val_end hR7 z7 u7 (by omega) rfl)
  | some r =>
    have HF : ∀ wz, TabsP wz p → Calls Tryd.prog 35 #[.agg #[.int .i64 1, .int .u64 (b : Int), .string ⟨#[]⟩]] wz fun e w' => e = .returned (.bool (formedV ⟨1, b, noStr⟩)) ∧ Below wz.heap.size wz w' := fun wz hw => formedV_any 1 b ⟨#[]⟩ (by decide) wz hw.tabs
    cases hf : formedV ⟨1, b, noStr⟩
    · rw [hf] at HF
      replace HV : Hid (takeV s = (zVal, none)) := by have := HV.out; rw [hf] at this; exact this
      rw [HV.out]
      replace HF := Lib.hid HF
      clear hf
      go_enter Tryd.func42, Tryd.ntmps42
      go_wp2_with (first
        | (go_at_call 40; (with_reducible refine HC1.out.mono ?_); rintro e w1 ⟨rfl, hR1, ho1⟩; obtain ⟨w2, ew2, hb2, hs2', hrow2⟩ := mk3 w1 (.int .i64 1) (.int .u64 0) (.string ⟨#[]⟩) 62; replace ew2 := Lib.hid ew2; have hR2 := hR1.later hb2; have hq := hR1.lt; obtain ⟨c0, c1, c2, f0, f1, f2⟩ := mkc3 hrow2; have z1 := ho1.obj hrow0 (by omega); have z2 := obj_later' z1 hb2; have u2 := Out.up ho1 hB0 hb2; have y0 := ho1.size)
        | (go_at_call 40; rw [ew2.out]; (with_reducible refine (HC2.out _ hR2).mono ?_); rintro e w3 ⟨rfl, hR3, ho3⟩; have hrow3 := ho3.obj hrow2 (by omega); obtain ⟨_, e1, e2, _, g1, g2⟩ := mkc3 hrow3; obtain ⟨w4, ew4⟩ : ∃ w4, Hid (w3.setCell ⟨w1.heap.size, 1, none⟩ (.int .u64 (b : Int)) = w4) := ⟨_, rfl⟩; obtain ⟨ho4, hrow4⟩ := row_set1 hrow3 (.int .u64 (b : Int)) ew4.out; have hR4 := hR3.out ho4 (fun k hk e => by omega); have z4 := ho4.obj (ho3.obj z2 (by omega)) (by omega); have u4 := Out.up2 u2 ho3 ho4 (by omega); have hT4 := Lib.hid ((((hT0.out.at_ ho1).later hb2).at_ ho3).out ho4 (fun k hk e => by omega)); obtain ⟨d0, d1, d2, _⟩ := mkc3 hrow4)
        | (go_at_call 14; rw [ew4.out]; (with_reducible refine (rdrOK_any hR4).mono ?_); rintro e w5 ⟨rfl, rfl⟩)
        | (go_at_call 35; (with_reducible refine (HF.out _ hT4.out).mono ?_); rintro e w6 ⟨rfl, hb6⟩; have hR6 := hR4.later hb6; have z6 := obj_later' z4 hb6; have u6 := Out.up4 u4 hb6; have hrow6 := obj_later' hrow4 hb6; obtain ⟨d0, d1, d2, _⟩ := mkc3 hrow6)
        | (go_at_call 40; (with_reducible refine (rdrBad_any hR6).mono ?_); rintro e w7 ⟨rfl, hR7, ho7⟩; have z7 := ho7.obj z6 (by omega); have u7 := Out.up3 u6 ho7; obtain ⟨x0, x1, x2, k0, k1, k2⟩ := mkc3 z7))
      obtain ⟨q0, q1, q2, _⟩ := mkc3 (mks3 z7 (.int .i64 0) (.int .u64 0) (.string ⟨#[]⟩))
      exact bodyPost_ret (v := zVal.cell) (by simp [results, Tryd.results42, go_sem, Val.cell, zVal, noStr, q0, q1, q2]; try rfl) rfl (val_end hR7 z7 u7 (by omega) rfl)
    · rw [hf] at HF
      replace HV : Hid (takeV s = (⟨1, b, noStr⟩, some r)) := by have := HV.out; rw [hf] at this; exact this
      rw [HV.out]
      replace HF := Lib.hid HF
      clear hf
      go_enter Tryd.func42, Tryd.ntmps42
      go_wp2_with (first
        | (go_at_call 40; (with_reducible refine HC1.out.mono ?_); rintro e w1 ⟨rfl, hR1, ho1⟩; obtain ⟨w2, ew2, hb2, hs2', hrow2⟩ := mk3 w1 (.int .i64 1) (.int .u64 0) (.string ⟨#[]⟩) 62; replace ew2 := Lib.hid ew2; have hR2 := hR1.later hb2; have hq := hR1.lt; obtain ⟨c0, c1, c2, f0, f1, f2⟩ := mkc3 hrow2; have z1 := ho1.obj hrow0 (by omega); have z2 := obj_later' z1 hb2; have u2 := Out.up ho1 hB0 hb2; have y0 := ho1.size)
        | (go_at_call 40; rw [ew2.out]; (with_reducible refine (HC2.out _ hR2).mono ?_); rintro e w3 ⟨rfl, hR3, ho3⟩; have hrow3 := ho3.obj hrow2 (by omega); obtain ⟨_, e1, e2, _, g1, g2⟩ := mkc3 hrow3; obtain ⟨w4, ew4⟩ : ∃ w4, Hid (w3.setCell ⟨w1.heap.size, 1, none⟩ (.int .u64 (b : Int)) = w4) := ⟨_, rfl⟩; obtain ⟨ho4, hrow4⟩ := row_set1 hrow3 (.int .u64 (b : Int)) ew4.out; have hR4 := hR3.out ho4 (fun k hk e => by omega); have z4 := ho4.obj (ho3.obj z2 (by omega)) (by omega); have u4 := Out.up2 u2 ho3 ho4 (by omega); have hT4 := Lib.hid ((((hT0.out.at_ ho1).later hb2).at_ ho3).out ho4 (fun k hk e => by omega)); obtain ⟨d0, d1, d2, _⟩ := mkc3 hrow4)
        | (go_at_call 14; rw [ew4.out]; (with_reducible refine (rdrOK_any hR4).mono ?_); rintro e w5 ⟨rfl, rfl⟩)
        | (go_at_call 35; (with_reducible refine (HF.out _ hT4.out).mono ?_); rintro e w6 ⟨rfl, hb6⟩; have hR6 := hR4.later hb6; have z6 := obj_later' z4 hb6; have u6 := Out.up4 u4 hb6; have hrow6 := obj_later' hrow4 hb6; obtain ⟨d0, d1, d2, _⟩ := mkc3 hrow6; obtain ⟨x0, x1, x2, k0, k1, k2⟩ := mkc3 z6))
      obtain ⟨q0, q1, q2, _⟩ := mkc3 (mks3 z6 (.int .i64 1) (.int .u64 (b : Int)) (.string ⟨#[]⟩))
      exact bodyPost_ret (v := (⟨1, b, noStr⟩ : Val).cell) (by simp [results, Tryd.results42, go_sem, Val.cell, noStr, q0, q1, q2]; try rfl) rfl (val_end hR6 z6 u6 (by omega) rfl)
set_option maxRecDepth 100000 in
set_option maxHeartbeats 2000000 in
theorem rdrVal2 {w : World} {p : Nat} {s : RS} (h : RdrAt w p s) (hT : TabsP w p) (hk : (takeN s 1).1 = 2) :
    Calls Tryd.prog 42 #[.pointer (some ⟨p, 0, none⟩)] w (ValPost w p (takeV s).1 (takeV s).2) := by
  obtain ⟨W0, eW0, hB0, hs0, hrow0⟩ := mk3 w (.int .i64 0) (.int .u64 0) (.string ⟨#[]⟩) 62
  have hR0 := h.later hB0
  have hT0 := hT.later hB0
  have hpw := h.lt
  have HC1 := Lib.hid (rdrTake_any hR0 1 1 rfl (by decide))
  obtain ⟨s1, hs1⟩ : ∃ s1, Hid ((takeN s 1).2 = s1) := ⟨_, rfl⟩
  rw [hk, hs1.out] at HC1
  obtain ⟨t, hx⟩ : ∃ t, Hid ((takeT s1 40).1 = t) := ⟨_, rfl⟩
  obtain ⟨s2, hs2⟩ : ∃ s2, Hid ((takeT s1 40).2 = s2) := ⟨_, rfl⟩
  have HC2 : Hid (∀ wz, RdrAt wz p s1 → Calls Tryd.prog 41 #[.pointer (some ⟨p, 0, none⟩), .int .i64 40] wz (TextPost wz p t s2)) := fun wz hw => by rw [← hx.out, ← hs2.out]; exact rdrText_any hw 40 40 rfl
  have ht40 : t.size ≤ 9223372036854775807 := by have := takeT_size s1 40; rw [hx.out] at this; omega
  have HV : Hid (takeV s = if s2.isSome && formedV ⟨2, 0, t⟩ then (⟨2, 0, t⟩, s2) else (zVal, none)) := by
    show _ = _; unfold takeV; simp only [hk, hs1.out, hx.out, hs2.out, if_true, if_false, show ¬ ((2 : Nat) = 1) by decide]
    rfl
  clear hk
  replace hT0 := Lib.hid hT0
  clear h hT
  cases s2 with
  | none =>
    replace HV : Hid (takeV s = (zVal, none)) := HV.out
    rw [HV.out]
    go_enter Tryd.func42, Tryd.ntmps42
    go_wp2_with (first
      | (go_at_call 40; (with_reducible refine HC1.out.mono ?_); rintro e w1 ⟨rfl, hR1, ho1⟩; obtain ⟨w2, ew2, hb2, hs2', hrow2⟩ := mk3 w1 (.int .i64 2) (.int .u64 0) (.string ⟨#[]⟩) 62; replace ew2 := Lib.hid ew2; have hR2 := hR1.later hb2; have hq := hR1.lt; obtain ⟨c0, c1, c2, f0, f1, f2⟩ := mkc3 hrow2; have z1 := ho1.obj hrow0 (by omega); have z2 := obj_later' z1 hb2; have u2 := Out.up ho1 hB0 hb2; have y0 := ho1.size)
      | (go_at_call 41; rw [ew2.out]; (with_reducible refine (HC2.out _ hR2).mono ?_); rintro e w3 ⟨rfl, hR3, ho3⟩; have hrow3 := ho3.obj hrow2 (by omega); obtain ⟨_, e1, e2, _, g1, g2⟩ := mkc3 hrow3; obtain ⟨w4, ew4⟩ : ∃ w4, Hid (w3.setCell ⟨w1.heap.size, 2, none⟩ (.string t) = w4) := ⟨_, rfl⟩; obtain ⟨ho4, hrow4⟩ := row_set2 hrow3 (.string t) ew4.out; have hR4 := hR3.out ho4 (fun k hk e => by omega); have z4 := ho4.obj (ho3.obj z2 (by omega)) (by omega); have u4 := Out.up2 u2 ho3 ho4 (by omega); have hT4 := Lib.hid ((((hT0.out.at_ ho1).later hb2).at_ ho3).out ho4 (fun k hk e => by omega)); obtain ⟨d0, d1, d2, _⟩ := mkc3 hrow4)
      | (go_at_call 14; rw [ew4.out]; (with_reducible refine (rdrOK_any hR4).mono ?_); rintro e w5 ⟨rfl, rfl⟩)
      | (go_at_call 40; (with_reducible refine (rdrBad_any hR4).mono ?_); rintro e w7 ⟨rfl, hR7, ho7⟩; have z7 := ho7.obj z4 (by omega); have u7 := Out.up3 u4 ho7; obtain ⟨x0, x1, x2, k0, k1, k2⟩ := mkc3 z7))
    obtain ⟨q0, q1, q2, _⟩ := mkc3 (mks3 z7 (.int .i64 0) (.int .u64 0) (.string ⟨#[]⟩))
    exact bodyPost_ret (v := zVal.cell) (by simp [results, Tryd.results42, go_sem, Val.cell, zVal, noStr, q0, q1, q2]; try rfl) rfl (val_end hR7 z7 u7 (by omega) rfl)
  | some r =>
    have HF : ∀ wz, TabsP wz p → Calls Tryd.prog 35 #[.agg #[.int .i64 2, .int .u64 0, .string t]] wz fun e w' => e = .returned (.bool (formedV ⟨2, 0, t⟩)) ∧ Below wz.heap.size wz w' := fun wz hw => formedV_any 2 0 t ht40 wz hw.tabs
    cases hf : formedV ⟨2, 0, t⟩
    · rw [hf] at HF
      replace HV : Hid (takeV s = (zVal, none)) := by have := HV.out; rw [hf] at this; exact this
      rw [HV.out]
      replace HF := Lib.hid HF
      clear hf
      go_enter Tryd.func42, Tryd.ntmps42
      go_wp2_with (first
        | (go_at_call 40; (with_reducible refine HC1.out.mono ?_); rintro e w1 ⟨rfl, hR1, ho1⟩; obtain ⟨w2, ew2, hb2, hs2', hrow2⟩ := mk3 w1 (.int .i64 2) (.int .u64 0) (.string ⟨#[]⟩) 62; replace ew2 := Lib.hid ew2; have hR2 := hR1.later hb2; have hq := hR1.lt; obtain ⟨c0, c1, c2, f0, f1, f2⟩ := mkc3 hrow2; have z1 := ho1.obj hrow0 (by omega); have z2 := obj_later' z1 hb2; have u2 := Out.up ho1 hB0 hb2; have y0 := ho1.size)
        | (go_at_call 41; rw [ew2.out]; (with_reducible refine (HC2.out _ hR2).mono ?_); rintro e w3 ⟨rfl, hR3, ho3⟩; have hrow3 := ho3.obj hrow2 (by omega); obtain ⟨_, e1, e2, _, g1, g2⟩ := mkc3 hrow3; obtain ⟨w4, ew4⟩ : ∃ w4, Hid (w3.setCell ⟨w1.heap.size, 2, none⟩ (.string t) = w4) := ⟨_, rfl⟩; obtain ⟨ho4, hrow4⟩ := row_set2 hrow3 (.string t) ew4.out; have hR4 := hR3.out ho4 (fun k hk e => by omega); have z4 := ho4.obj (ho3.obj z2 (by omega)) (by omega); have u4 := Out.up2 u2 ho3 ho4 (by omega); have hT4 := Lib.hid ((((hT0.out.at_ ho1).later hb2).at_ ho3).out ho4 (fun k hk e => by omega)); obtain ⟨d0, d1, d2, _⟩ := mkc3 hrow4)
        | (go_at_call 14; rw [ew4.out]; (with_reducible refine (rdrOK_any hR4).mono ?_); rintro e w5 ⟨rfl, rfl⟩)
        | (go_at_call 35; (with_reducible refine (HF.out _ hT4.out).mono ?_); rintro e w6 ⟨rfl, hb6⟩; have hR6 := hR4.later hb6; have z6 := obj_later' z4 hb6; have u6 := Out.up4 u4 hb6; have hrow6 := obj_later' hrow4 hb6; obtain ⟨d0, d1, d2, _⟩ := mkc3 hrow6)
        | (go_at_call 40; (with_reducible refine (rdrBad_any hR6).mono ?_); rintro e w7 ⟨rfl, hR7, ho7⟩; have z7 := ho7.obj z6 (by omega); have u7 := Out.up3 u6 ho7; obtain ⟨x0, x1, x2, k0, k1, k2⟩ := mkc3 z7))
      obtain ⟨q0, q1, q2, _⟩ := mkc3 (mks3 z7 (.int .i64 0) (.int .u64 0) (.string ⟨#[]⟩))
      exact bodyPost_ret (v := zVal.cell) (by simp [results, Tryd.results42, go_sem, Val.cell, zVal, noStr, q0, q1, q2]; try rfl) rfl (val_end hR7 z7 u7 (by omega) rfl)
    · rw [hf] at HF
      replace HV : Hid (takeV s = (⟨2, 0, t⟩, some r)) := by have := HV.out; rw [hf] at this; exact this
      rw [HV.out]
      replace HF := Lib.hid HF
      clear hf
      go_enter Tryd.func42, Tryd.ntmps42
      go_wp2_with (first
        | (go_at_call 40; (with_reducible refine HC1.out.mono ?_); rintro e w1 ⟨rfl, hR1, ho1⟩; obtain ⟨w2, ew2, hb2, hs2', hrow2⟩ := mk3 w1 (.int .i64 2) (.int .u64 0) (.string ⟨#[]⟩) 62; replace ew2 := Lib.hid ew2; have hR2 := hR1.later hb2; have hq := hR1.lt; obtain ⟨c0, c1, c2, f0, f1, f2⟩ := mkc3 hrow2; have z1 := ho1.obj hrow0 (by omega); have z2 := obj_later' z1 hb2; have u2 := Out.up ho1 hB0 hb2; have y0 := ho1.size)
        | (go_at_call 41; rw [ew2.out]; (with_reducible refine (HC2.out _ hR2).mono ?_); rintro e w3 ⟨rfl, hR3, ho3⟩; have hrow3 := ho3.obj hrow2 (by omega); obtain ⟨_, e1, e2, _, g1, g2⟩ := mkc3 hrow3; obtain ⟨w4, ew4⟩ : ∃ w4, Hid (w3.setCell ⟨w1.heap.size, 2, none⟩ (.string t) = w4) := ⟨_, rfl⟩; obtain ⟨ho4, hrow4⟩ := row_set2 hrow3 (.string t) ew4.out; have hR4 := hR3.out ho4 (fun k hk e => by omega); have z4 := ho4.obj (ho3.obj z2 (by omega)) (by omega); have u4 := Out.up2 u2 ho3 ho4 (by omega); have hT4 := Lib.hid ((((hT0.out.at_ ho1).later hb2).at_ ho3).out ho4 (fun k hk e => by omega)); obtain ⟨d0, d1, d2, _⟩ := mkc3 hrow4)
        | (go_at_call 14; rw [ew4.out]; (with_reducible refine (rdrOK_any hR4).mono ?_); rintro e w5 ⟨rfl, rfl⟩)
        | (go_at_call 35; (with_reducible refine (HF.out _ hT4.out).mono ?_); rintro e w6 ⟨rfl, hb6⟩; have hR6 := hR4.later hb6; have z6 := obj_later' z4 hb6; have u6 := Out.up4 u4 hb6; have hrow6 := obj_later' hrow4 hb6; obtain ⟨d0, d1, d2, _⟩ := mkc3 hrow6; obtain ⟨x0, x1, x2, k0, k1, k2⟩ := mkc3 z6))
      obtain ⟨q0, q1, q2, _⟩ := mkc3 (mks3 z6 (.int .i64 2) (.int .u64 0) (.string t))
      exact bodyPost_ret (v := (⟨2, 0, t⟩ : Val).cell) (by simp [results, Tryd.results42, go_sem, Val.cell, q0, q1, q2]; try rfl) rfl (val_end hR6 z6 u6 (by omega) rfl)
set_option maxRecDepth 100000 in
set_option maxHeartbeats 2000000 in
theorem rdrValk {w : World} {p : Nat} {s : RS} (h : RdrAt w p s) (hT : TabsP w p) (h1 : (takeN s 1).1 ≠ 1) (h2 : (takeN s 1).1 ≠ 2) :
    Calls Tryd.prog 42 #[.pointer (some ⟨p, 0, none⟩)] w (ValPost w p (takeV s).1 (takeV s).2) := by
  obtain ⟨W0, eW0, hB0, hs0, hrow0⟩ := mk3 w (.int .i64 0) (.int .u64 0) (.string ⟨#[]⟩) 62
  have hR0 := h.later hB0
  have hT0 := hT.later hB0
  have hpw := h.lt
  have HC1 := Lib.hid (rdrTake_any hR0 1 1 rfl (by decide))
  obtain ⟨s1, hs1⟩ : ∃ s1, Hid ((takeN s 1).2 = s1) := ⟨_, rfl⟩
  have hlt := takeN_lt s 1
  obtain ⟨k, hk⟩ : ∃ k, Hid ((takeN s 1).1 = k) := ⟨_, rfl⟩
  rw [hk.out] at h1 h2 hlt
  rw [hk.out, hs1.out] at HC1
  have hwk : IntKind.i64.wrap (k : Int) = k := IntWalk.i64_in _ (by omega)
  have t1 : ((k : Int) == 1) = false := by rw [beq_eq_false_iff_ne]; omega
  have t2 : ((k : Int) == 2) = false := by rw [beq_eq_false_iff_ne]; omega
  have HV : Hid (takeV s = if s1.isSome && formedV ⟨(k : Int), 0, noStr⟩ then (⟨(k : Int), 0, noStr⟩, s1) else (zVal, none)) := by
    show _ = _; unfold takeV; simp only [hk.out, hs1.out, if_neg h1, if_neg h2]
  clear h1 h2 hlt
  replace hT0 := Lib.hid hT0
  clear h hT
  cases s1 with
  | none =>
    replace HV : Hid (takeV s = (zVal, none)) := HV.out
    rw [HV.out]
    go_enter Tryd.func42, Tryd.ntmps42
    go_wp2_with (first
      | (go_at_call 40; (with_reducible refine HC1.out.mono ?_); rintro e w1 ⟨rfl, hR1, ho1⟩; obtain ⟨w2, ew2, hb2, hs2', hrow2⟩ := mk3 w1 (.int .i64 (k : Int)) (.int .u64 0) (.string ⟨#[]⟩) 62; replace ew2 := Lib.hid ew2; have hR2 := hR1.later hb2; have hq := hR1.lt; obtain ⟨c0, c1, c2, f0, f1, f2⟩ := mkc3 hrow2; have z1 := ho1.obj hrow0 (by omega); have z2 := obj_later' z1 hb2; have u2 := Out.up ho1 hB0 hb2; have y0 := ho1.size; have hR4 := hR2; have hrow4 := hrow2; have z4 := z2; have u4 := u2; have hT4 := Lib.hid ((hT0.out.at_ ho1).later hb2); obtain ⟨d0, d1, d2, _⟩ := mkc3 hrow4)
      | (go_at_call 14; rw [ew2.out]; (with_reducible refine (rdrOK_any hR4).mono ?_); rintro e w5 ⟨rfl, rfl⟩)
      | (go_at_call 40; (with_reducible refine (rdrBad_any hR4).mono ?_); rintro e w7 ⟨rfl, hR7, ho7⟩; have z7 := ho7.obj z4 (by omega); have u7 := Out.up3 u4 ho7; obtain ⟨x0, x1, x2, k0, k1, k2⟩ := mkc3 z7))
    obtain ⟨q0, q1, q2, _⟩ := mkc3 (mks3 z7 (.int .i64 0) (.int .u64 0) (.string ⟨#[]⟩))
    exact bodyPost_ret (v := zVal.cell) (by simp [results, Tryd.results42, go_sem, Val.cell, zVal, noStr, q0, q1, q2]; try rfl) rfl (val_end hR7 z7 u7 (by omega) rfl)
  | some r =>
    have HF : ∀ wz, TabsP wz p → Calls Tryd.prog 35 #[.agg #[.int .i64 (k : Int), .int .u64 0, .string ⟨#[]⟩]] wz fun e w' => e = .returned (.bool (formedV ⟨(k : Int), 0, noStr⟩)) ∧ Below wz.heap.size wz w' := fun wz hw => formedV_any (k : Int) 0 ⟨#[]⟩ (by decide) wz hw.tabs
    cases hf : formedV ⟨(k : Int), 0, noStr⟩
    · rw [hf] at HF
      replace HV : Hid (takeV s = (zVal, none)) := by have := HV.out; rw [hf] at this; exact this
      rw [HV.out]
      replace HF := Lib.hid HF
      clear hf
      go_enter Tryd.func42, Tryd.ntmps42
      go_wp2_with (first
        | (go_at_call 40; (with_reducible refine HC1.out.mono ?_); rintro e w1 ⟨rfl, hR1, ho1⟩; obtain ⟨w2, ew2, hb2, hs2', hrow2⟩ := mk3 w1 (.int .i64 (k : Int)) (.int .u64 0) (.string ⟨#[]⟩) 62; replace ew2 := Lib.hid ew2; have hR2 := hR1.later hb2; have hq := hR1.lt; obtain ⟨c0, c1, c2, f0, f1, f2⟩ := mkc3 hrow2; have z1 := ho1.obj hrow0 (by omega); have z2 := obj_later' z1 hb2; have u2 := Out.up ho1 hB0 hb2; have y0 := ho1.size; have hR4 := hR2; have hrow4 := hrow2; have z4 := z2; have u4 := u2; have hT4 := Lib.hid ((hT0.out.at_ ho1).later hb2); obtain ⟨d0, d1, d2, _⟩ := mkc3 hrow4)
        | (go_at_call 14; rw [ew2.out]; (with_reducible refine (rdrOK_any hR4).mono ?_); rintro e w5 ⟨rfl, rfl⟩)
        | (go_at_call 35; (with_reducible refine (HF.out _ hT4.out).mono ?_); rintro e w6 ⟨rfl, hb6⟩; have hR6 := hR4.later hb6; have z6 := obj_later' z4 hb6; have u6 := Out.up4 u4 hb6; have hrow6 := obj_later' hrow4 hb6; obtain ⟨d0, d1, d2, _⟩ := mkc3 hrow6)
        | (go_at_call 40; (with_reducible refine (rdrBad_any hR6).mono ?_); rintro e w7 ⟨rfl, hR7, ho7⟩; have z7 := ho7.obj z6 (by omega); have u7 := Out.up3 u6 ho7; obtain ⟨x0, x1, x2, k0, k1, k2⟩ := mkc3 z7))
      obtain ⟨q0, q1, q2, _⟩ := mkc3 (mks3 z7 (.int .i64 0) (.int .u64 0) (.string ⟨#[]⟩))
      exact bodyPost_ret (v := zVal.cell) (by simp [results, Tryd.results42, go_sem, Val.cell, zVal, noStr, q0, q1, q2]; try rfl) rfl (val_end hR7 z7 u7 (by omega) rfl)
    · rw [hf] at HF
      replace HV : Hid (takeV s = (⟨(k : Int), 0, noStr⟩, some r)) := by have := HV.out; rw [hf] at this; exact this
      rw [HV.out]
      replace HF := Lib.hid HF
      clear hf
      go_enter Tryd.func42, Tryd.ntmps42
      go_wp2_with (first
        | (go_at_call 40; (with_reducible refine HC1.out.mono ?_); rintro e w1 ⟨rfl, hR1, ho1⟩; obtain ⟨w2, ew2, hb2, hs2', hrow2⟩ := mk3 w1 (.int .i64 (k : Int)) (.int .u64 0) (.string ⟨#[]⟩) 62; replace ew2 := Lib.hid ew2; have hR2 := hR1.later hb2; have hq := hR1.lt; obtain ⟨c0, c1, c2, f0, f1, f2⟩ := mkc3 hrow2; have z1 := ho1.obj hrow0 (by omega); have z2 := obj_later' z1 hb2; have u2 := Out.up ho1 hB0 hb2; have y0 := ho1.size; have hR4 := hR2; have hrow4 := hrow2; have z4 := z2; have u4 := u2; have hT4 := Lib.hid ((hT0.out.at_ ho1).later hb2); obtain ⟨d0, d1, d2, _⟩ := mkc3 hrow4)
        | (go_at_call 14; rw [ew2.out]; (with_reducible refine (rdrOK_any hR4).mono ?_); rintro e w5 ⟨rfl, rfl⟩)
        | (go_at_call 35; (with_reducible refine (HF.out _ hT4.out).mono ?_); rintro e w6 ⟨rfl, hb6⟩; have hR6 := hR4.later hb6; have z6 := obj_later' z4 hb6; have u6 := Out.up4 u4 hb6; have hrow6 := obj_later' hrow4 hb6; obtain ⟨d0, d1, d2, _⟩ := mkc3 hrow6; obtain ⟨x0, x1, x2, k0, k1, k2⟩ := mkc3 z6))
      obtain ⟨q0, q1, q2, _⟩ := mkc3 (mks3 z6 (.int .i64 (k : Int)) (.int .u64 0) (.string ⟨#[]⟩))
      exact bodyPost_ret (v := (⟨(k : Int), 0, noStr⟩ : Val).cell) (by simp [results, Tryd.results42, go_sem, Val.cell, noStr, q0, q1, q2]; try rfl) rfl (val_end hR6 z6 u6 (by omega) rfl)
theorem rdrVal_any {w : World} {p : Nat} {s : RS} (h : RdrAt w p s) (hT : TabsP w p) :
    Calls Tryd.prog 42 #[.pointer (some ⟨p, 0, none⟩)] w (ValPost w p (takeV s).1 (takeV s).2) := by
  by_cases h1 : (takeN s 1).1 = 1
  · exact rdrVal1 h hT h1
  · by_cases h2 : (takeN s 1).1 = 2
    · exact rdrVal2 h hT h2
    · exact rdrValk h hT h1 h2
end Go.Proofs.YtfblemdpimbciaaDoor
