/- The reference's Take of a value. -/
import Derived.Test.YtfblemdpimbciaaDoorRRdr02
namespace Go.Proofs.YtfblemdpimbciaaDoor
open Go.RowKit Go.Shelf

def RValPost (w : World) (q : Nat) (x : Val) (s : RS) (e : Ending) (w' : World) : Prop := e = .returned x.cell ∧ RRdrAt w' q s ∧ Out (fun k => k = q) w w'
theorem RRdrAt.gone {w : World} {q : Nat} {s : RS} (h : RRdrAt w q s) : RRdrAt (w.setCell ⟨q, 2, none⟩ (.bool true)) q none := by
  obtain ⟨A, L, ca, k, h⟩ := h
  exact h.fail
theorem RRdrAt.c2 {w : World} {q : Nat} {s : RS} (h : RRdrAt w q s) : w.cell? ⟨q, 2, none⟩ = some (.bool s.isNone) := by
  obtain ⟨A, L, ca, k, h⟩ := h
  exact (mkc3 h.blk).2.2.1
theorem RRdrAt.fz2 {w : World} {q : Nat} {s : RS} (h : RRdrAt w q s) : w.frozen? ⟨q, 2, none⟩ = false := by
  obtain ⟨A, L, ca, k, h⟩ := h
  exact (mkc3 h.blk).2.2.2.2.2
theorem rval_end {w wz : World} {p q : Nat} {s : RS} {a b c a' b' c' : Value} {t : TypeId} {x : Val} {e : Ending} (hR : RRdrAt wz p s) (_h : wz.heap[q]? = some (.cells #[a, b, c] t (0, 0))) (ho : OutP p w wz) (hq : p < q ∧ w.heap.size ≤ q) (he : e = .returned x.cell) :
    RValPost w p x s e (((wz.setCell ⟨q, 0, none⟩ a').setCell ⟨q, 1, none⟩ b').setCell ⟨q, 2, none⟩ c') := by
  have o1 := out_cell wz q 0 a'
  have o2 := out_cell (wz.setCell ⟨q, 0, none⟩ a') q 1 b'
  have o3 := out_cell ((wz.setCell ⟨q, 0, none⟩ a').setCell ⟨q, 1, none⟩ b') q 2 c'
  have o := (o1.trans' o2).trans' o3
  exact ⟨he, hR.out o (fun _ hk e => by omega), (ho.trans' (o.mono fun _ e => .inr (by omega))).down⟩
set_option maxRecDepth 100000 in
set_option maxHeartbeats 2000000 in
theorem refVal1 {w : World} {p : Nat} {s : RS} (h : RRdrAt w p s) (hk : (takeN s 1).1 = 1) :
    Calls Tryd.prog 45 #[.pointer (some ⟨p, 0, none⟩)] w (RValPost w p (takeV s).1 (takeV s).2) := by
  obtain ⟨W0, eW0, hB0, hs0, hrow0⟩ := mk3 w (.int .i64 0) (.int .u64 0) (.string ⟨#[]⟩) 62
  have hR0 := h.later hB0
  have hpw := h.lt
  have HC1 := Lib.hid (refTake_any hR0 1 1 rfl (by decide))
  obtain ⟨s1, hs1⟩ : ∃ s1, Hid ((takeN s 1).2 = s1) := ⟨_, rfl⟩
  rw [hk, hs1.out] at HC1
  obtain ⟨b, hx⟩ : ∃ b, Hid ((takeN s1 8).1 = b) := ⟨_, rfl⟩
  obtain ⟨s2, hs2⟩ : ∃ s2, Hid ((takeN s1 8).2 = s2) := ⟨_, rfl⟩
  have HC2 : Hid (∀ wz, RRdrAt wz p s1 → Calls Tryd.prog 43 #[.pointer (some ⟨p, 0, none⟩), .int .i64 8] wz (RTakePost wz p b s2)) := fun wz hw => by rw [← hx.out, ← hs2.out]; exact refTake_any hw 8 8 rfl (by decide)
  have hb64 : b < 18446744073709551616 := by have := takeN_lt s1 8; rw [hx.out] at this; omega
  have HV : Hid (takeV s = if s2.isSome && formedV ⟨1, b, noStr⟩ then (⟨1, b, noStr⟩, s2) else (zVal, none)) := by
    show _ = _; unfold takeV; simp only [hk, hs1.out, hx.out, hs2.out, if_true, if_false, show ¬ ((1 : Nat) = 2) by decide]
    rfl
  clear hk
  clear h
  cases s2 with
  | none =>
    replace HV : Hid (takeV s = (zVal, none)) := HV.out
    rw [HV.out]
    go_enter Tryd.func45, Tryd.ntmps45
    go_wp2_with (first
      | (go_at_call 43; (with_reducible refine HC1.out.mono ?_); rintro e w1 ⟨rfl, hR1, ho1⟩; obtain ⟨w2, ew2, hb2, hs2', hrow2⟩ := mk3 w1 (.int .i64 1) (.int .u64 0) (.string ⟨#[]⟩) 62; have hss1 := set_same (j := 1) (v := .int .u64 0) hrow2 rfl; have hss2 := set_same (j := 2) (v := .string ⟨#[]⟩) hrow2 rfl; have hR2 := hR1.later hb2; have hq := hR1.lt; obtain ⟨c0, c1, c2, f0, f1, f2⟩ := mkc3 hrow2; have z1 := ho1.obj hrow0 (by omega); have z2 := obj_later' z1 hb2; have u2 := Out.up ho1 hB0 hb2; have y0 := ho1.size)
      | (go_at_call 43; (with_reducible refine (HC2.out _ hR2).mono ?_); rintro e w3 ⟨rfl, hR3, ho3⟩; have hrow3 := ho3.obj hrow2 (by omega); obtain ⟨_, e1, e2, _, g1, g2⟩ := mkc3 hrow3; obtain ⟨w4, ew4⟩ : ∃ w4, w3.setCell ⟨w1.heap.size, 1, none⟩ (.int .u64 (b : Int)) = w4 := ⟨_, rfl⟩; obtain ⟨ho4, hrow4⟩ := row_set1 hrow3 (.int .u64 (b : Int)) ew4; have hR4 := hR3.out ho4 (fun k hk e => by omega); have z4 := ho4.obj (ho3.obj z2 (by omega)) (by omega); have u4 := Out.up2 u2 ho3 ho4 (by omega); obtain ⟨d0, d1, d2, _⟩ := mkc3 hrow4; have rc := hR4.c2; have rf := hR4.fz2; have hG := hR4.gone; obtain ⟨w7, ew7⟩ : ∃ w7, w4.setCell ⟨p, 2, none⟩ (.bool true) = w7 := ⟨_, rfl⟩; rw [ew7] at hG; have ho7 := out_cell w4 p 2 (.bool true); rw [ew7] at ho7; have z7 := ho7.obj z4 (by omega); have u7 := Out.up3 u4 ho7; obtain ⟨x0, x1, x2, k0, k1, k2⟩ := mkc3 z7))
    obtain ⟨q0, q1, q2, _⟩ := mkc3 (mks3 z7 (.int .i64 0) (.int .u64 0) (.string ⟨#[]⟩))
    exact bodyPost_ret (v := zVal.cell) (by simp [results, Tryd.results45, go_sem, Val.cell, zVal, noStr, q0, q1, q2]; try rfl) rfl (rval_end hG z7 u7 (by omega) rfl)
  | some r =>
    have HF : ∀ wz, Calls Tryd.prog 67 #[.agg #[.int .i64 1, .int .u64 (b : Int), .string ⟨#[]⟩]] wz fun e w' => e = .returned (.bool (formedV ⟨1, b, noStr⟩)) ∧ Below wz.heap.size wz w' := fun wz => refFormedV_any 1 b ⟨#[]⟩ hb64 (by decide) wz
    cases hf : formedV ⟨1, b, noStr⟩
    · rw [hf] at HF
      replace HV : Hid (takeV s = (zVal, none)) := by have := HV.out; rw [hf] at this; exact this
      rw [HV.out]
      replace HF := Lib.hid HF
      clear hf
      go_enter Tryd.func45, Tryd.ntmps45
      go_wp2_with (first
        | (go_at_call 43; (with_reducible refine HC1.out.mono ?_); rintro e w1 ⟨rfl, hR1, ho1⟩; obtain ⟨w2, ew2, hb2, hs2', hrow2⟩ := mk3 w1 (.int .i64 1) (.int .u64 0) (.string ⟨#[]⟩) 62; have hss1 := set_same (j := 1) (v := .int .u64 0) hrow2 rfl; have hss2 := set_same (j := 2) (v := .string ⟨#[]⟩) hrow2 rfl; have hR2 := hR1.later hb2; have hq := hR1.lt; obtain ⟨c0, c1, c2, f0, f1, f2⟩ := mkc3 hrow2; have z1 := ho1.obj hrow0 (by omega); have z2 := obj_later' z1 hb2; have u2 := Out.up ho1 hB0 hb2; have y0 := ho1.size)
        | (go_at_call 43; (with_reducible refine (HC2.out _ hR2).mono ?_); rintro e w3 ⟨rfl, hR3, ho3⟩; have hrow3 := ho3.obj hrow2 (by omega); obtain ⟨_, e1, e2, _, g1, g2⟩ := mkc3 hrow3; obtain ⟨w4, ew4⟩ : ∃ w4, w3.setCell ⟨w1.heap.size, 1, none⟩ (.int .u64 (b : Int)) = w4 := ⟨_, rfl⟩; obtain ⟨ho4, hrow4⟩ := row_set1 hrow3 (.int .u64 (b : Int)) ew4; have hR4 := hR3.out ho4 (fun k hk e => by omega); have z4 := ho4.obj (ho3.obj z2 (by omega)) (by omega); have u4 := Out.up2 u2 ho3 ho4 (by omega); obtain ⟨d0, d1, d2, _⟩ := mkc3 hrow4; have rc := hR4.c2; have rf := hR4.fz2; have hG := hR4.gone; obtain ⟨w7, ew7⟩ : ∃ w7, w4.setCell ⟨p, 2, none⟩ (.bool true) = w7 := ⟨_, rfl⟩; rw [ew7] at hG; have ho7 := out_cell w4 p 2 (.bool true); rw [ew7] at ho7; have z7 := ho7.obj z4 (by omega); have u7 := Out.up3 u4 ho7; obtain ⟨x0, x1, x2, k0, k1, k2⟩ := mkc3 z7)
        | (go_at_call 67; (with_reducible refine (HF.out _).mono ?_); rintro e w6 ⟨rfl, hb6⟩; clear ew7 hG ho7 z7 u7 x0 x1 x2 k0 k1 k2; have hR6 := hR4.later hb6; have z6 := obj_later' z4 hb6; have u6 := Out.up4 u4 hb6; have hrow6 := obj_later' hrow4 hb6; obtain ⟨d0, d1, d2, _⟩ := mkc3 hrow6; clear rc rf; have rc := hR6.c2; have rf := hR6.fz2; have hG := hR6.gone; obtain ⟨w7, ew7⟩ : ∃ w7, w6.setCell ⟨p, 2, none⟩ (.bool true) = w7 := ⟨_, rfl⟩; rw [ew7] at hG; have ho7 := out_cell w6 p 2 (.bool true); rw [ew7] at ho7; have z7 := ho7.obj z6 (by omega); have u7 := Out.up3 u6 ho7; obtain ⟨x0, x1, x2, k0, k1, k2⟩ := mkc3 z7))
      obtain ⟨q0, q1, q2, _⟩ := mkc3 (mks3 z7 (.int .i64 0) (.int .u64 0) (.string ⟨#[]⟩))
      exact bodyPost_ret (v := zVal.cell) (by simp [results, Tryd.results45, go_sem, Val.cell, zVal, noStr, q0, q1, q2]; try rfl) rfl (rval_end hG z7 u7 (by omega) rfl)
    · rw [hf] at HF
      replace HV : Hid (takeV s = (⟨1, b, noStr⟩, some r)) := by have := HV.out; rw [hf] at this; exact this
      rw [HV.out]
      replace HF := Lib.hid HF
      clear hf
      go_enter Tryd.func45, Tryd.ntmps45
      go_wp2_with (first
        | (go_at_call 43; (with_reducible refine HC1.out.mono ?_); rintro e w1 ⟨rfl, hR1, ho1⟩; obtain ⟨w2, ew2, hb2, hs2', hrow2⟩ := mk3 w1 (.int .i64 1) (.int .u64 0) (.string ⟨#[]⟩) 62; have hss1 := set_same (j := 1) (v := .int .u64 0) hrow2 rfl; have hss2 := set_same (j := 2) (v := .string ⟨#[]⟩) hrow2 rfl; have hR2 := hR1.later hb2; have hq := hR1.lt; obtain ⟨c0, c1, c2, f0, f1, f2⟩ := mkc3 hrow2; have z1 := ho1.obj hrow0 (by omega); have z2 := obj_later' z1 hb2; have u2 := Out.up ho1 hB0 hb2; have y0 := ho1.size)
        | (go_at_call 43; (with_reducible refine (HC2.out _ hR2).mono ?_); rintro e w3 ⟨rfl, hR3, ho3⟩; have hrow3 := ho3.obj hrow2 (by omega); obtain ⟨_, e1, e2, _, g1, g2⟩ := mkc3 hrow3; obtain ⟨w4, ew4⟩ : ∃ w4, w3.setCell ⟨w1.heap.size, 1, none⟩ (.int .u64 (b : Int)) = w4 := ⟨_, rfl⟩; obtain ⟨ho4, hrow4⟩ := row_set1 hrow3 (.int .u64 (b : Int)) ew4; have hR4 := hR3.out ho4 (fun k hk e => by omega); have z4 := ho4.obj (ho3.obj z2 (by omega)) (by omega); have u4 := Out.up2 u2 ho3 ho4 (by omega); obtain ⟨d0, d1, d2, _⟩ := mkc3 hrow4; have rc := hR4.c2; have rf := hR4.fz2; have hG := hR4.gone; obtain ⟨w7, ew7⟩ : ∃ w7, w4.setCell ⟨p, 2, none⟩ (.bool true) = w7 := ⟨_, rfl⟩; rw [ew7] at hG; have ho7 := out_cell w4 p 2 (.bool true); rw [ew7] at ho7; have z7 := ho7.obj z4 (by omega); have u7 := Out.up3 u4 ho7; obtain ⟨x0, x1, x2, k0, k1, k2⟩ := mkc3 z7)
        | (go_at_call 67; (with_reducible refine (HF.out _).mono ?_); rintro e w6 ⟨rfl, hb6⟩; clear ew7 hG ho7 z7 u7 x0 x1 x2 k0 k1 k2; have hR6 := hR4.later hb6; have z6 := obj_later' z4 hb6; have u6 := Out.up4 u4 hb6; have hrow6 := obj_later' hrow4 hb6; obtain ⟨d0, d1, d2, _⟩ := mkc3 hrow6; obtain ⟨x0, x1, x2, k0, k1, k2⟩ := mkc3 z6))
      obtain ⟨q0, q1, q2, _⟩ := mkc3 (mks3 z6 (.int .i64 1) (.int .u64 (b : Int)) (.string ⟨#[]⟩))
      exact bodyPost_ret (v := (⟨1, b, noStr⟩ : Val).cell) (by simp [results, Tryd.results45, go_sem, Val.cell, noStr, q0, q1, q2]; try rfl) rfl (rval_end hR6 z6 u6 (by omega) rfl)
set_option maxRecDepth 100000 in
set_option maxHeartbeats 2000000 in
theorem refVal2 {w : World} {p : Nat} {s : RS} (h : RRdrAt w p s) (hk : (takeN s 1).1 = 2) :
    Calls Tryd.prog 45 #[.pointer (some ⟨p, 0, none⟩)] w (RValPost w p (takeV s).1 (takeV s).2) := by
  obtain ⟨W0, eW0, hB0, hs0, hrow0⟩ := mk3 w (.int .i64 0) (.int .u64 0) (.string ⟨#[]⟩) 62
  have hR0 := h.later hB0
  have hpw := h.lt
  have HC1 := Lib.hid (refTake_any hR0 1 1 rfl (by decide))
  obtain ⟨s1, hs1⟩ : ∃ s1, Hid ((takeN s 1).2 = s1) := ⟨_, rfl⟩
  rw [hk, hs1.out] at HC1
  obtain ⟨t, hx⟩ : ∃ t, Hid ((takeT s1 40).1 = t) := ⟨_, rfl⟩
  obtain ⟨s2, hs2⟩ : ∃ s2, Hid ((takeT s1 40).2 = s2) := ⟨_, rfl⟩
  have HC2 : Hid (∀ wz, RRdrAt wz p s1 → Calls Tryd.prog 44 #[.pointer (some ⟨p, 0, none⟩), .int .i64 40] wz (RTextPost wz p t s2)) := fun wz hw => by rw [← hx.out, ← hs2.out]; exact refText_any hw 40 40 rfl
  have ht40 : t.size ≤ 9223372036854775807 := by have := takeT_size s1 40; rw [hx.out] at this; omega
  have HV : Hid (takeV s = if s2.isSome && formedV ⟨2, 0, t⟩ then (⟨2, 0, t⟩, s2) else (zVal, none)) := by
    show _ = _; unfold takeV; simp only [hk, hs1.out, hx.out, hs2.out, if_true, if_false, show ¬ ((2 : Nat) = 1) by decide]
    rfl
  clear hk
  clear h
  cases s2 with
  | none =>
    replace HV : Hid (takeV s = (zVal, none)) := HV.out
    rw [HV.out]
    go_enter Tryd.func45, Tryd.ntmps45
    go_wp2_with (first
      | (go_at_call 43; (with_reducible refine HC1.out.mono ?_); rintro e w1 ⟨rfl, hR1, ho1⟩; obtain ⟨w2, ew2, hb2, hs2', hrow2⟩ := mk3 w1 (.int .i64 2) (.int .u64 0) (.string ⟨#[]⟩) 62; have hss1 := set_same (j := 1) (v := .int .u64 0) hrow2 rfl; have hss2 := set_same (j := 2) (v := .string ⟨#[]⟩) hrow2 rfl; have hR2 := hR1.later hb2; have hq := hR1.lt; obtain ⟨c0, c1, c2, f0, f1, f2⟩ := mkc3 hrow2; have z1 := ho1.obj hrow0 (by omega); have z2 := obj_later' z1 hb2; have u2 := Out.up ho1 hB0 hb2; have y0 := ho1.size)
      | (go_at_call 44; (with_reducible refine (HC2.out _ hR2).mono ?_); rintro e w3 ⟨rfl, hR3, ho3⟩; have hrow3 := ho3.obj hrow2 (by omega); obtain ⟨_, e1, e2, _, g1, g2⟩ := mkc3 hrow3; obtain ⟨w4, ew4⟩ : ∃ w4, w3.setCell ⟨w1.heap.size, 2, none⟩ (.string t) = w4 := ⟨_, rfl⟩; obtain ⟨ho4, hrow4⟩ := row_set2 hrow3 (.string t) ew4; have hR4 := hR3.out ho4 (fun k hk e => by omega); have z4 := ho4.obj (ho3.obj z2 (by omega)) (by omega); have u4 := Out.up2 u2 ho3 ho4 (by omega); obtain ⟨d0, d1, d2, _⟩ := mkc3 hrow4; have rc := hR4.c2; have rf := hR4.fz2; have hG := hR4.gone; obtain ⟨w7, ew7⟩ : ∃ w7, w4.setCell ⟨p, 2, none⟩ (.bool true) = w7 := ⟨_, rfl⟩; rw [ew7] at hG; have ho7 := out_cell w4 p 2 (.bool true); rw [ew7] at ho7; have z7 := ho7.obj z4 (by omega); have u7 := Out.up3 u4 ho7; obtain ⟨x0, x1, x2, k0, k1, k2⟩ := mkc3 z7))
    obtain ⟨q0, q1, q2, _⟩ := mkc3 (mks3 z7 (.int .i64 0) (.int .u64 0) (.string ⟨#[]⟩))
    exact bodyPost_ret (v := zVal.cell) (by simp [results, Tryd.results45, go_sem, Val.cell, zVal, noStr, q0, q1, q2]; try rfl) rfl (rval_end hG z7 u7 (by omega) rfl)
  | some r =>
    have HF : ∀ wz, Calls Tryd.prog 67 #[.agg #[.int .i64 2, .int .u64 0, .string t]] wz fun e w' => e = .returned (.bool (formedV ⟨2, 0, t⟩)) ∧ Below wz.heap.size wz w' := fun wz => refFormedV_any 2 0 t (by decide) ht40 wz
    cases hf : formedV ⟨2, 0, t⟩
    · rw [hf] at HF
      replace HV : Hid (takeV s = (zVal, none)) := by have := HV.out; rw [hf] at this; exact this
      rw [HV.out]
      replace HF := Lib.hid HF
      clear hf
      go_enter Tryd.func45, Tryd.ntmps45
      go_wp2_with (first
        | (go_at_call 43; (with_reducible refine HC1.out.mono ?_); rintro e w1 ⟨rfl, hR1, ho1⟩; obtain ⟨w2, ew2, hb2, hs2', hrow2⟩ := mk3 w1 (.int .i64 2) (.int .u64 0) (.string ⟨#[]⟩) 62; have hss1 := set_same (j := 1) (v := .int .u64 0) hrow2 rfl; have hss2 := set_same (j := 2) (v := .string ⟨#[]⟩) hrow2 rfl; have hR2 := hR1.later hb2; have hq := hR1.lt; obtain ⟨c0, c1, c2, f0, f1, f2⟩ := mkc3 hrow2; have z1 := ho1.obj hrow0 (by omega); have z2 := obj_later' z1 hb2; have u2 := Out.up ho1 hB0 hb2; have y0 := ho1.size)
        | (go_at_call 44; (with_reducible refine (HC2.out _ hR2).mono ?_); rintro e w3 ⟨rfl, hR3, ho3⟩; have hrow3 := ho3.obj hrow2 (by omega); obtain ⟨_, e1, e2, _, g1, g2⟩ := mkc3 hrow3; obtain ⟨w4, ew4⟩ : ∃ w4, w3.setCell ⟨w1.heap.size, 2, none⟩ (.string t) = w4 := ⟨_, rfl⟩; obtain ⟨ho4, hrow4⟩ := row_set2 hrow3 (.string t) ew4; have hR4 := hR3.out ho4 (fun k hk e => by omega); have z4 := ho4.obj (ho3.obj z2 (by omega)) (by omega); have u4 := Out.up2 u2 ho3 ho4 (by omega); obtain ⟨d0, d1, d2, _⟩ := mkc3 hrow4; have rc := hR4.c2; have rf := hR4.fz2; have hG := hR4.gone; obtain ⟨w7, ew7⟩ : ∃ w7, w4.setCell ⟨p, 2, none⟩ (.bool true) = w7 := ⟨_, rfl⟩; rw [ew7] at hG; have ho7 := out_cell w4 p 2 (.bool true); rw [ew7] at ho7; have z7 := ho7.obj z4 (by omega); have u7 := Out.up3 u4 ho7; obtain ⟨x0, x1, x2, k0, k1, k2⟩ := mkc3 z7)
        | (go_at_call 67; (with_reducible refine (HF.out _).mono ?_); rintro e w6 ⟨rfl, hb6⟩; clear ew7 hG ho7 z7 u7 x0 x1 x2 k0 k1 k2; have hR6 := hR4.later hb6; have z6 := obj_later' z4 hb6; have u6 := Out.up4 u4 hb6; have hrow6 := obj_later' hrow4 hb6; obtain ⟨d0, d1, d2, _⟩ := mkc3 hrow6; clear rc rf; have rc := hR6.c2; have rf := hR6.fz2; have hG := hR6.gone; obtain ⟨w7, ew7⟩ : ∃ w7, w6.setCell ⟨p, 2, none⟩ (.bool true) = w7 := ⟨_, rfl⟩; rw [ew7] at hG; have ho7 := out_cell w6 p 2 (.bool true); rw [ew7] at ho7; have z7 := ho7.obj z6 (by omega); have u7 := Out.up3 u6 ho7; obtain ⟨x0, x1, x2, k0, k1, k2⟩ := mkc3 z7))
      obtain ⟨q0, q1, q2, _⟩ := mkc3 (mks3 z7 (.int .i64 0) (.int .u64 0) (.string ⟨#[]⟩))
      exact bodyPost_ret (v := zVal.cell) (by simp [results, Tryd.results45, go_sem, Val.cell, zVal, noStr, q0, q1, q2]; try rfl) rfl (rval_end hG z7 u7 (by omega) rfl)
    · rw [hf] at HF
      replace HV : Hid (takeV s = (⟨2, 0, t⟩, some r)) := by have := HV.out; rw [hf] at this; exact this
      rw [HV.out]
      replace HF := Lib.hid HF
      clear hf
      go_enter Tryd.func45, Tryd.ntmps45
      go_wp2_with (first
        | (go_at_call 43; (with_reducible refine HC1.out.mono ?_); rintro e w1 ⟨rfl, hR1, ho1⟩; obtain ⟨w2, ew2, hb2, hs2', hrow2⟩ := mk3 w1 (.int .i64 2) (.int .u64 0) (.string ⟨#[]⟩) 62; have hss1 := set_same (j := 1) (v := .int .u64 0) hrow2 rfl; have hss2 := set_same (j := 2) (v := .string ⟨#[]⟩) hrow2 rfl; have hR2 := hR1.later hb2; have hq := hR1.lt; obtain ⟨c0, c1, c2, f0, f1, f2⟩ := mkc3 hrow2; have z1 := ho1.obj hrow0 (by omega); have z2 := obj_later' z1 hb2; have u2 := Out.up ho1 hB0 hb2; have y0 := ho1.size)
        | (go_at_call 44; (with_reducible refine (HC2.out _ hR2).mono ?_); rintro e w3 ⟨rfl, hR3, ho3⟩; have hrow3 := ho3.obj hrow2 (by omega); obtain ⟨_, e1, e2, _, g1, g2⟩ := mkc3 hrow3; obtain ⟨w4, ew4⟩ : ∃ w4, w3.setCell ⟨w1.heap.size, 2, none⟩ (.string t) = w4 := ⟨_, rfl⟩; obtain ⟨ho4, hrow4⟩ := row_set2 hrow3 (.string t) ew4; have hR4 := hR3.out ho4 (fun k hk e => by omega); have z4 := ho4.obj (ho3.obj z2 (by omega)) (by omega); have u4 := Out.up2 u2 ho3 ho4 (by omega); obtain ⟨d0, d1, d2, _⟩ := mkc3 hrow4; have rc := hR4.c2; have rf := hR4.fz2; have hG := hR4.gone; obtain ⟨w7, ew7⟩ : ∃ w7, w4.setCell ⟨p, 2, none⟩ (.bool true) = w7 := ⟨_, rfl⟩; rw [ew7] at hG; have ho7 := out_cell w4 p 2 (.bool true); rw [ew7] at ho7; have z7 := ho7.obj z4 (by omega); have u7 := Out.up3 u4 ho7; obtain ⟨x0, x1, x2, k0, k1, k2⟩ := mkc3 z7)
        | (go_at_call 67; (with_reducible refine (HF.out _).mono ?_); rintro e w6 ⟨rfl, hb6⟩; clear ew7 hG ho7 z7 u7 x0 x1 x2 k0 k1 k2; have hR6 := hR4.later hb6; have z6 := obj_later' z4 hb6; have u6 := Out.up4 u4 hb6; have hrow6 := obj_later' hrow4 hb6; obtain ⟨d0, d1, d2, _⟩ := mkc3 hrow6; obtain ⟨x0, x1, x2, k0, k1, k2⟩ := mkc3 z6))
      obtain ⟨q0, q1, q2, _⟩ := mkc3 (mks3 z6 (.int .i64 2) (.int .u64 0) (.string t))
      exact bodyPost_ret (v := (⟨2, 0, t⟩ : Val).cell) (by simp [results, Tryd.results45, go_sem, Val.cell, q0, q1, q2]; try rfl) rfl (rval_end hR6 z6 u6 (by omega) rfl)
set_option maxRecDepth 100000 in
set_option maxHeartbeats 2000000 in
theorem refValk {w : World} {p : Nat} {s : RS} (h : RRdrAt w p s) (h1 : (takeN s 1).1 ≠ 1) (h2 : (takeN s 1).1 ≠ 2) :
    Calls Tryd.prog 45 #[.pointer (some ⟨p, 0, none⟩)] w (RValPost w p (takeV s).1 (takeV s).2) := by
  obtain ⟨W0, eW0, hB0, hs0, hrow0⟩ := mk3 w (.int .i64 0) (.int .u64 0) (.string ⟨#[]⟩) 62
  have hR0 := h.later hB0
  have hpw := h.lt
  have HC1 := Lib.hid (refTake_any hR0 1 1 rfl (by decide))
  obtain ⟨s1, hs1⟩ : ∃ s1, Hid ((takeN s 1).2 = s1) := ⟨_, rfl⟩
  have hlt := takeN_lt s 1
  obtain ⟨k, hk⟩ : ∃ k, Hid ((takeN s 1).1 = k) := ⟨_, rfl⟩
  rw [hk.out] at h1 h2 hlt
  rw [hk.out, hs1.out] at HC1
  have hwk : IntKind.i64.wrap (k : Int) = k := IntWalk.i64_in _ (by omega)
  have t1 : ((k : Int) == 1) = false := by rw [beq_eq_false_iff_ne]; omega
  have t2 : ((k : Int) == 2) = false := by rw [beq_eq_false_iff_ne]; omega
  have HV : Hid (takeV s = if s1.isSome && formedV ⟨(k : Int), 0, noStr⟩ then (⟨(k : Int), 0, noStr⟩, s1) else (zVal, none)) := by
    show _ = _; unfold takeV; simp only [hk.out, hs1.out, if_neg h1, if_neg h2]
  clear h1 h2 hlt
  clear h
  cases s1 with
  | none =>
    replace HV : Hid (takeV s = (zVal, none)) := HV.out
    rw [HV.out]
    go_enter Tryd.func45, Tryd.ntmps45
    go_wp2_with (first
      | (go_at_call 43; (with_reducible refine HC1.out.mono ?_); rintro e w1 ⟨rfl, hR1, ho1⟩; obtain ⟨w2, ew2, hb2, hs2', hrow2⟩ := mk3 w1 (.int .i64 (k : Int)) (.int .u64 0) (.string ⟨#[]⟩) 62; have hss1 := set_same (j := 1) (v := .int .u64 0) hrow2 rfl; have hss2 := set_same (j := 2) (v := .string ⟨#[]⟩) hrow2 rfl; have hR2 := hR1.later hb2; have hq := hR1.lt; obtain ⟨c0, c1, c2, f0, f1, f2⟩ := mkc3 hrow2; have z1 := ho1.obj hrow0 (by omega); have z2 := obj_later' z1 hb2; have u2 := Out.up ho1 hB0 hb2; have y0 := ho1.size; have rc := hR2.c2; have rf := hR2.fz2; have hG := hR2.gone; obtain ⟨w7, ew7⟩ : ∃ w7, w2.setCell ⟨p, 2, none⟩ (.bool true) = w7 := ⟨_, rfl⟩; rw [ew7] at hG; have ho7 := out_cell w2 p 2 (.bool true); rw [ew7] at ho7; have z7 := ho7.obj z2 (by omega); have u7 := Out.up3 u2 ho7; obtain ⟨x0, x1, x2, k0, k1, k2⟩ := mkc3 z7))
    obtain ⟨q0, q1, q2, _⟩ := mkc3 (mks3 z7 (.int .i64 0) (.int .u64 0) (.string ⟨#[]⟩))
    exact bodyPost_ret (v := zVal.cell) (by simp [results, Tryd.results45, go_sem, Val.cell, zVal, noStr, q0, q1, q2]; try rfl) rfl (rval_end hG z7 u7 (by omega) rfl)
  | some r =>
    have HF : ∀ wz, Calls Tryd.prog 67 #[.agg #[.int .i64 (k : Int), .int .u64 0, .string ⟨#[]⟩]] wz fun e w' => e = .returned (.bool (formedV ⟨(k : Int), 0, noStr⟩)) ∧ Below wz.heap.size wz w' := fun wz => refFormedV_any (k : Int) 0 ⟨#[]⟩ (by decide) (by decide) wz
    cases hf : formedV ⟨(k : Int), 0, noStr⟩
    · rw [hf] at HF
      replace HV : Hid (takeV s = (zVal, none)) := by have := HV.out; rw [hf] at this; exact this
      rw [HV.out]
      replace HF := Lib.hid HF
      clear hf
      go_enter Tryd.func45, Tryd.ntmps45
      go_wp2_with (first
        | (go_at_call 43; (with_reducible refine HC1.out.mono ?_); rintro e w1 ⟨rfl, hR1, ho1⟩; obtain ⟨w2, ew2, hb2, hs2', hrow2⟩ := mk3 w1 (.int .i64 (k : Int)) (.int .u64 0) (.string ⟨#[]⟩) 62; have hss1 := set_same (j := 1) (v := .int .u64 0) hrow2 rfl; have hss2 := set_same (j := 2) (v := .string ⟨#[]⟩) hrow2 rfl; have hR2 := hR1.later hb2; have hq := hR1.lt; obtain ⟨c0, c1, c2, f0, f1, f2⟩ := mkc3 hrow2; have z1 := ho1.obj hrow0 (by omega); have z2 := obj_later' z1 hb2; have u2 := Out.up ho1 hB0 hb2; have y0 := ho1.size; have rc := hR2.c2; have rf := hR2.fz2; have hG := hR2.gone; obtain ⟨w7, ew7⟩ : ∃ w7, w2.setCell ⟨p, 2, none⟩ (.bool true) = w7 := ⟨_, rfl⟩; rw [ew7] at hG; have ho7 := out_cell w2 p 2 (.bool true); rw [ew7] at ho7; have z7 := ho7.obj z2 (by omega); have u7 := Out.up3 u2 ho7; obtain ⟨x0, x1, x2, k0, k1, k2⟩ := mkc3 z7)
        | (go_at_call 67; (with_reducible refine (HF.out _).mono ?_); rintro e w6 ⟨rfl, hb6⟩; clear ew7 hG ho7 z7 u7 x0 x1 x2 k0 k1 k2; have hR6 := hR2.later hb6; have z6 := obj_later' z2 hb6; have u6 := Out.up4 u2 hb6; have hrow6 := obj_later' hrow2 hb6; obtain ⟨d0, d1, d2, _⟩ := mkc3 hrow6; clear rc rf; have rc := hR6.c2; have rf := hR6.fz2; have hG := hR6.gone; obtain ⟨w7, ew7⟩ : ∃ w7, w6.setCell ⟨p, 2, none⟩ (.bool true) = w7 := ⟨_, rfl⟩; rw [ew7] at hG; have ho7 := out_cell w6 p 2 (.bool true); rw [ew7] at ho7; have z7 := ho7.obj z6 (by omega); have u7 := Out.up3 u6 ho7; obtain ⟨x0, x1, x2, k0, k1, k2⟩ := mkc3 z7))
      obtain ⟨q0, q1, q2, _⟩ := mkc3 (mks3 z7 (.int .i64 0) (.int .u64 0) (.string ⟨#[]⟩))
      exact bodyPost_ret (v := zVal.cell) (by simp [results, Tryd.results45, go_sem, Val.cell, zVal, noStr, q0, q1, q2]; try rfl) rfl (rval_end hG z7 u7 (by omega) rfl)
    · rw [hf] at HF
      replace HV : Hid (takeV s = (⟨(k : Int), 0, noStr⟩, some r)) := by have := HV.out; rw [hf] at this; exact this
      rw [HV.out]
      replace HF := Lib.hid HF
      clear hf
      go_enter Tryd.func45, Tryd.ntmps45
      go_wp2_with (first
        | (go_at_call 43; (with_reducible refine HC1.out.mono ?_); rintro e w1 ⟨rfl, hR1, ho1⟩; obtain ⟨w2, ew2, hb2, hs2', hrow2⟩ := mk3 w1 (.int .i64 (k : Int)) (.int .u64 0) (.string ⟨#[]⟩) 62; have hss1 := set_same (j := 1) (v := .int .u64 0) hrow2 rfl; have hss2 := set_same (j := 2) (v := .string ⟨#[]⟩) hrow2 rfl; have hR2 := hR1.later hb2; have hq := hR1.lt; obtain ⟨c0, c1, c2, f0, f1, f2⟩ := mkc3 hrow2; have z1 := ho1.obj hrow0 (by omega); have z2 := obj_later' z1 hb2; have u2 := Out.up ho1 hB0 hb2; have y0 := ho1.size; have rc := hR2.c2; have rf := hR2.fz2; have hG := hR2.gone; obtain ⟨w7, ew7⟩ : ∃ w7, w2.setCell ⟨p, 2, none⟩ (.bool true) = w7 := ⟨_, rfl⟩; rw [ew7] at hG; have ho7 := out_cell w2 p 2 (.bool true); rw [ew7] at ho7; have z7 := ho7.obj z2 (by omega); have u7 := Out.up3 u2 ho7; obtain ⟨x0, x1, x2, k0, k1, k2⟩ := mkc3 z7)
        | (go_at_call 67; (with_reducible refine (HF.out _).mono ?_); rintro e w6 ⟨rfl, hb6⟩; clear ew7 hG ho7 z7 u7 x0 x1 x2 k0 k1 k2; have hR6 := hR2.later hb6; have z6 := obj_later' z2 hb6; have u6 := Out.up4 u2 hb6; have hrow6 := obj_later' hrow2 hb6; obtain ⟨d0, d1, d2, _⟩ := mkc3 hrow6; obtain ⟨x0, x1, x2, k0, k1, k2⟩ := mkc3 z6))
      obtain ⟨q0, q1, q2, _⟩ := mkc3 (mks3 z6 (.int .i64 (k : Int)) (.int .u64 0) (.string ⟨#[]⟩))
      exact bodyPost_ret (v := (⟨(k : Int), 0, noStr⟩ : Val).cell) (by simp [results, Tryd.results45, go_sem, Val.cell, noStr, q0, q1, q2]; try rfl) rfl (rval_end hR6 z6 u6 (by omega) rfl)
theorem refVal_any {w : World} {p : Nat} {s : RS} (h : RRdrAt w p s) :
    Calls Tryd.prog 45 #[.pointer (some ⟨p, 0, none⟩)] w (RValPost w p (takeV s).1 (takeV s).2) := by
  by_cases h1 : (takeN s 1).1 = 1
  · exact refVal1 h h1
  · by_cases h2 : (takeN s 1).1 = 2
    · exact refVal2 h h2
    · exact refValk h h1 h2
end Go.Proofs.YtfblemdpimbciaaDoor
