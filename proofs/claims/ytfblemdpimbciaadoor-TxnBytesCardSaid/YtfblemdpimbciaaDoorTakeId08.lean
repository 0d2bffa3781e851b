/- txn.TakeId and the reference's. -/
import Derived.Test.YtfblemdpimbciaaDoorTakeM08
import Derived.Test.YtfblemdpimbciaaDoorRTake04
namespace Go.Proofs.YtfblemdpimbciaaDoor
open Go.RowKit Go.Shelf

theorem mk2 (w : World) (u v : Value) (t : TypeId) : ∃ W : World, w.alloc (.cells #[u, v] t) = W ∧ Below w.heap.size w W ∧ W.heap.size = w.heap.size + 1 ∧ W.heap[w.heap.size]? = some (.cells #[u, v] t (0, 0)) :=
  ⟨_, rfl, below1 _ _, by simp, heap_alloc_new w _⟩
theorem mkc2 {w : World} {g : Nat} {u v : Value} {t : TypeId} (h : w.heap[g]? = some (.cells #[u, v] t (0, 0))) : w.cell? ⟨g, 0, none⟩ = some u ∧ w.cell? ⟨g, 1, none⟩ = some v ∧ w.frozen? ⟨g, 0, none⟩ = false ∧ w.frozen? ⟨g, 1, none⟩ = false := by
  refine ⟨?_, ?_, frozen_of_row w g 0 _ _ h, frozen_of_row w g 1 _ _ h⟩ <;> (rw [cell_of_row w g _ _ _ _ h]; rfl)
theorem mks2 {w : World} {g : Nat} {u v : Value} {t : TypeId} (h : w.heap[g]? = some (.cells #[u, v] t (0, 0))) (u' v' : Value) : ((w.setCell ⟨g, 0, none⟩ u').setCell ⟨g, 1, none⟩ v').heap[g]? = some (.cells #[u', v'] t (0, 0)) := by
  have h1 := obj_set (j := 0) u' h
  have h2 := obj_set (j := 1) v' h1
  simpa using h2
def IdPost (w : World) (p : Nat) (x : Nat × Nat) (s : RS) (e : Ending) (w' : World) : Prop := e = .returned (.agg #[.int .i64 (x.1 : Int), .int .i64 (x.2 : Int)]) ∧ RdrAt w' p s ∧ Out (fun k => k = p) w w'
theorem id_end {w wz : World} {p q : Nat} {s : RS} {a' b' : Value} {x : Nat × Nat} {e : Ending} (hR : RdrAt wz p s) (ho : OutP p w wz) (hq : p < q ∧ w.heap.size ≤ q) (he : e = .returned (.agg #[.int .i64 (x.1 : Int), .int .i64 (x.2 : Int)])) :
    IdPost w p x s e ((wz.setCell ⟨q, 0, none⟩ a').setCell ⟨q, 1, none⟩ b') := by
  have o := (out_cell wz q 0 a').trans' (out_cell (wz.setCell ⟨q, 0, none⟩ a') q 1 b')
  exact ⟨he, hR.out o (fun _ hk e => by omega), (ho.trans' (o.mono fun _ e => .inr (by omega))).down⟩
set_option maxRecDepth 100000 in
set_option maxHeartbeats 2000000 in
theorem rdrId_any {w : World} {p : Nat} {s : RS} (h : RdrAt w p s) :
    Calls Tryd.prog 16 #[.pointer (some ⟨p, 0, none⟩)] w (IdPost w p (takeI s).1 (takeI s).2) := by
  obtain ⟨W0, eW0, hB0, hs0, hrow0⟩ := mk2 w (.int .i64 0) (.int .i64 0) 23
  have hR0 := h.later hB0
  have hpw := h.lt
  have HC1 := Lib.hid (rdrTake_any hR0 1 1 rfl (by decide))
  have hal := takeN_lt s 1
  obtain ⟨a, ha⟩ : ∃ a, Hid ((takeN s 1).1 = a) := ⟨_, rfl⟩
  obtain ⟨s1, hs1⟩ : ∃ s1, Hid ((takeN s 1).2 = s1) := ⟨_, rfl⟩
  rw [ha.out, hs1.out] at HC1
  rw [ha.out] at hal
  have hbl := takeN_lt s1 4
  obtain ⟨b, hx⟩ : ∃ b, Hid ((takeN s1 4).1 = b) := ⟨_, rfl⟩
  obtain ⟨s2, hs2⟩ : ∃ s2, Hid ((takeN s1 4).2 = s2) := ⟨_, rfl⟩
  rw [hx.out] at hbl
  have HC2 : Hid (∀ wz, RdrAt wz p s1 → Calls Tryd.prog 40 #[.pointer (some ⟨p, 0, none⟩), .int .i64 4] wz (TakePost wz p b s2)) := fun wz hw => by rw [← hx.out, ← hs2.out]; exact rdrTake_any hw 4 4 rfl (by decide)
  have HI : Hid (takeI s = if s2.isSome && idB (a : Nat) (b : Nat) then ((a, b), s2) else ((0, 0), none)) := by
    show _ = _; unfold takeI; rw [ha.out, hs1.out, hx.out, hs2.out]
  have hwa : IntKind.i64.wrap (a : Int) = a := IntWalk.i64_in _ (by omega)
  have hwb : IntKind.i64.wrap (b : Int) = b := IntWalk.i64_in _ (by omega)
  clear h ha hs1 hx hs2
  cases s2 with
  | none =>
    replace HI : Hid (takeI s = ((0, 0), none)) := HI.out
    rw [HI.out]
    go_enter Tryd.func16, Tryd.ntmps16
    go_wp2_with (first
      | (go_at_call 40; (with_reducible refine HC1.out.mono ?_); rintro e w1 ⟨rfl, hR1, ho1⟩; have z1 := ho1.obj hrow0 (by omega); have u1 := Out.up3 (Out.of_below hB0 : OutP p w W0) ho1)
      | (go_at_call 40; (with_reducible refine (HC2.out _ hR1).mono ?_); rintro e w3 ⟨rfl, hR3, ho3⟩; have z3 := ho3.obj z1 (by omega); obtain ⟨w4, ew4, hb4, hs4, hrow4⟩ := mk2 w3 (.int .i64 (a : Int)) (.int .i64 (b : Int)) 23; have hR4 := hR3.later hb4; have z4 := obj_later' z3 hb4; have u4 := Out.up4 (Out.up3 u1 ho3) hb4; obtain ⟨c0, c1, _, _⟩ := mkc2 hrow4)
      | (go_at_call 14; refine (rdrOK_any hR4).mono ?_; rintro e w5 ⟨rfl, rfl⟩)
      | (go_at_call 40; refine (rdrBad_any hR4).mono ?_; rintro e w6 ⟨rfl, hR6, ho6⟩; have z6 := ho6.obj z4 (by omega); have u6 := Out.up3 u4 ho6; obtain ⟨x0, x1, f0, f1⟩ := mkc2 z6))
    obtain ⟨q0, q1, _, _⟩ := mkc2 (mks2 z6 (.int .i64 0) (.int .i64 0))
    exact bodyPost_ret (v := .agg #[.int .i64 0, .int .i64 0]) (by simp [results, Tryd.results16, go_sem, q0, q1]; try rfl) rfl (id_end hR6 u6 ⟨hpw, Nat.le_refl _⟩ rfl)
  | some r =>
    cases hf : idB (a : Nat) (b : Nat)
    · replace HI : Hid (takeI s = ((0, 0), none)) := by have := HI.out; rw [hf] at this; exact this
      rw [HI.out]
      have HF : Hid (∀ wz, Calls Tryd.prog 29 #[.agg #[.int .i64 (a : Int), .int .i64 (b : Int)]] wz fun e w' => e = .returned (.bool false) ∧ Below wz.heap.size wz w') := fun wz => by rw [← hf]; exact id_any a b wz
      clear hf
      go_enter Tryd.func16, Tryd.ntmps16
      go_wp2_with (first
        | (go_at_call 40; (with_reducible refine HC1.out.mono ?_); rintro e w1 ⟨rfl, hR1, ho1⟩; have z1 := ho1.obj hrow0 (by omega); have u1 := Out.up3 (Out.of_below hB0 : OutP p w W0) ho1)
        | (go_at_call 40; (with_reducible refine (HC2.out _ hR1).mono ?_); rintro e w3 ⟨rfl, hR3, ho3⟩; have z3 := ho3.obj z1 (by omega); obtain ⟨w4, ew4, hb4, hs4, hrow4⟩ := mk2 w3 (.int .i64 (a : Int)) (.int .i64 (b : Int)) 23; have hR4 := hR3.later hb4; have z4 := obj_later' z3 hb4; have u4 := Out.up4 (Out.up3 u1 ho3) hb4; obtain ⟨c0, c1, _, _⟩ := mkc2 hrow4)
        | (go_at_call 14; refine (rdrOK_any hR4).mono ?_; rintro e w5 ⟨rfl, rfl⟩)
        | (go_at_call 29; refine (HF.out _).mono ?_; rintro e w5 ⟨rfl, hb5⟩; have hR5 := hR4.later hb5; have z5 := obj_later' z4 hb5; have u5 := Out.up4 u4 hb5)
        | (go_at_call 40; refine (rdrBad_any hR5).mono ?_; rintro e w6 ⟨rfl, hR6, ho6⟩; have z6 := ho6.obj z5 (by omega); have u6 := Out.up3 u5 ho6; obtain ⟨x0, x1, f0, f1⟩ := mkc2 z6))
      obtain ⟨q0, q1, _, _⟩ := mkc2 (mks2 z6 (.int .i64 0) (.int .i64 0))
      exact bodyPost_ret (v := .agg #[.int .i64 0, .int .i64 0]) (by simp [results, Tryd.results16, go_sem, q0, q1]; try rfl) rfl (id_end hR6 u6 ⟨hpw, Nat.le_refl _⟩ rfl)
    · replace HI : Hid (takeI s = ((a, b), some r)) := by have := HI.out; rw [hf] at this; exact this
      rw [HI.out]
      have HF : Hid (∀ wz, Calls Tryd.prog 29 #[.agg #[.int .i64 (a : Int), .int .i64 (b : Int)]] wz fun e w' => e = .returned (.bool true) ∧ Below wz.heap.size wz w') := fun wz => by rw [← hf]; exact id_any a b wz
      clear hf
      go_enter Tryd.func16, Tryd.ntmps16
      go_wp2_with (first
        | (go_at_call 40; (with_reducible refine HC1.out.mono ?_); rintro e w1 ⟨rfl, hR1, ho1⟩; have z1 := ho1.obj hrow0 (by omega); have u1 := Out.up3 (Out.of_below hB0 : OutP p w W0) ho1)
        | (go_at_call 40; (with_reducible refine (HC2.out _ hR1).mono ?_); rintro e w3 ⟨rfl, hR3, ho3⟩; have z3 := ho3.obj z1 (by omega); obtain ⟨w4, ew4, hb4, hs4, hrow4⟩ := mk2 w3 (.int .i64 (a : Int)) (.int .i64 (b : Int)) 23; have hR4 := hR3.later hb4; have z4 := obj_later' z3 hb4; have u4 := Out.up4 (Out.up3 u1 ho3) hb4; obtain ⟨c0, c1, _, _⟩ := mkc2 hrow4)
        | (go_at_call 14; refine (rdrOK_any hR4).mono ?_; rintro e w5 ⟨rfl, rfl⟩)
        | (go_at_call 29; refine (HF.out _).mono ?_; rintro e w5 ⟨rfl, hb5⟩; have hR5 := hR4.later hb5; have z5 := obj_later' z4 hb5; have u5 := Out.up4 u4 hb5; replace c0 := keep hb5 c0; replace c1 := keep hb5 c1; obtain ⟨x0, x1, f0, f1⟩ := mkc2 z5))
      obtain ⟨q0, q1, _, _⟩ := mkc2 (mks2 z5 (.int .i64 (a : Int)) (.int .i64 (b : Int)))
      exact bodyPost_ret (v := .agg #[.int .i64 (a : Int), .int .i64 (b : Int)]) (by simp [results, Tryd.results16, go_sem, q0, q1]; try rfl) rfl (id_end hR5 u5 ⟨hpw, Nat.le_refl _⟩ rfl)
def RIdPost (w : World) (p : Nat) (x : Nat × Nat) (s : RS) (e : Ending) (w' : World) : Prop := e = .returned (.agg #[.int .i64 (x.1 : Int), .int .i64 (x.2 : Int)]) ∧ RRdrAt w' p s ∧ Out (fun k => k = p) w w'
theorem rid_end {w wz : World} {p q : Nat} {s : RS} {a' b' : Value} {x : Nat × Nat} {e : Ending} (hR : RRdrAt wz p s) (ho : OutP p w wz) (hq : p < q ∧ w.heap.size ≤ q) (he : e = .returned (.agg #[.int .i64 (x.1 : Int), .int .i64 (x.2 : Int)])) :
    RIdPost w p x s e ((wz.setCell ⟨q, 0, none⟩ a').setCell ⟨q, 1, none⟩ b') := by
  have o := (out_cell wz q 0 a').trans' (out_cell (wz.setCell ⟨q, 0, none⟩ a') q 1 b')
  exact ⟨he, hR.out o (fun _ hk e => by omega), (ho.trans' (o.mono fun _ e => .inr (by omega))).down⟩
set_option maxRecDepth 100000 in
set_option maxHeartbeats 2000000 in
theorem refIdT_any {w : World} {p : Nat} {s : RS} (h : RRdrAt w p s) :
    Calls Tryd.prog 17 #[.pointer (some ⟨p, 0, none⟩)] w (RIdPost w p (takeI s).1 (takeI s).2) := by
  obtain ⟨W0, eW0, hB0, hs0, hrow0⟩ := mk2 w (.int .i64 0) (.int .i64 0) 23
  have hR0 := h.later hB0
  have hpw := h.lt
  have HC1 := Lib.hid (refTake_any hR0 1 1 rfl (by decide))
  have hal := takeN_lt s 1
  obtain ⟨a, ha⟩ : ∃ a, Hid ((takeN s 1).1 = a) := ⟨_, rfl⟩
  obtain ⟨s1, hs1⟩ : ∃ s1, Hid ((takeN s 1).2 = s1) := ⟨_, rfl⟩
  rw [ha.out, hs1.out] at HC1
  rw [ha.out] at hal
  have hbl := takeN_lt s1 4
  obtain ⟨b, hx⟩ : ∃ b, Hid ((takeN s1 4).1 = b) := ⟨_, rfl⟩
  obtain ⟨s2, hs2⟩ : ∃ s2, Hid ((takeN s1 4).2 = s2) := ⟨_, rfl⟩
  rw [hx.out] at hbl
  have HC2 : Hid (∀ wz, RRdrAt wz p s1 → Calls Tryd.prog 43 #[.pointer (some ⟨p, 0, none⟩), .int .i64 4] wz (RTakePost wz p b s2)) := fun wz hw => by rw [← hx.out, ← hs2.out]; exact refTake_any hw 4 4 rfl (by decide)
  have HI : Hid (takeI s = if s2.isSome && idB (a : Nat) (b : Nat) then ((a, b), s2) else ((0, 0), none)) := by
    show _ = _; unfold takeI; rw [ha.out, hs1.out, hx.out, hs2.out]
  have hwa : IntKind.i64.wrap (a : Int) = a := IntWalk.i64_in _ (by omega)
  have hwb : IntKind.i64.wrap (b : Int) = b := IntWalk.i64_in _ (by omega)
  clear h ha hs1 hx hs2
  cases s2 with
  | none =>
    replace HI : Hid (takeI s = ((0, 0), none)) := HI.out
    rw [HI.out]
    go_enter Tryd.func17, Tryd.ntmps17
    go_wp2_with (first
      | (go_at_call 43; (with_reducible refine HC1.out.mono ?_); rintro e w1 ⟨rfl, hR1, ho1⟩; have z1 := ho1.obj hrow0 (by omega); have u1 := Out.up3 (Out.of_below hB0 : OutP p w W0) ho1)
      | (go_at_call 43; (with_reducible refine (HC2.out _ hR1).mono ?_); rintro e w3 ⟨rfl, hR3, ho3⟩; have z3 := ho3.obj z1 (by omega); obtain ⟨w4, ew4, hb4, hs4, hrow4⟩ := mk2 w3 (.int .i64 (a : Int)) (.int .i64 (b : Int)) 23; have hR4 := hR3.later hb4; have z4 := obj_later' z3 hb4; have u4 := Out.up4 (Out.up3 u1 ho3) hb4; obtain ⟨c0, c1, _, _⟩ := mkc2 hrow4; have rc := hR4.c2; have rf := hR4.fz2; have hR6 := hR4.gone; obtain ⟨w6, ew6⟩ : ∃ w6, w4.setCell ⟨p, 2, none⟩ (.bool true) = w6 := ⟨_, rfl⟩; have ho6 := out_cell w4 p 2 (.bool true); rw [ew6] at hR6 ho6; have z6 := ho6.obj z4 (by omega); have u6 := Out.up3 u4 ho6; obtain ⟨x0, x1, f0, f1⟩ := mkc2 z6))
    obtain ⟨q0, q1, _, _⟩ := mkc2 (mks2 z6 (.int .i64 0) (.int .i64 0))
    exact bodyPost_ret (v := .agg #[.int .i64 0, .int .i64 0]) (by simp [results, Tryd.results17, go_sem, q0, q1]; try rfl) rfl (rid_end hR6 u6 ⟨hpw, Nat.le_refl _⟩ rfl)
  | some r =>
    cases hf : idB (a : Nat) (b : Nat)
    · replace HI : Hid (takeI s = ((0, 0), none)) := by have := HI.out; rw [hf] at this; exact this
      rw [HI.out]
      have HF : Hid (∀ wz, Calls Tryd.prog 47 #[.agg #[.int .i64 (a : Int), .int .i64 (b : Int)]] wz fun e w' => e = .returned (.bool false) ∧ Below wz.heap.size wz w') := fun wz => by rw [← hf]; exact refId_any a b wz
      clear hf
      go_enter Tryd.func17, Tryd.ntmps17
      go_wp2_with (first
        | (go_at_call 43; (with_reducible refine HC1.out.mono ?_); rintro e w1 ⟨rfl, hR1, ho1⟩; have z1 := ho1.obj hrow0 (by omega); have u1 := Out.up3 (Out.of_below hB0 : OutP p w W0) ho1)
        | (go_at_call 43; (with_reducible refine (HC2.out _ hR1).mono ?_); rintro e w3 ⟨rfl, hR3, ho3⟩; have z3 := ho3.obj z1 (by omega); obtain ⟨w4, ew4, hb4, hs4, hrow4⟩ := mk2 w3 (.int .i64 (a : Int)) (.int .i64 (b : Int)) 23; have hR4 := hR3.later hb4; have z4 := obj_later' z3 hb4; have u4 := Out.up4 (Out.up3 u1 ho3) hb4; obtain ⟨c0, c1, _, _⟩ := mkc2 hrow4; have rc := hR4.c2)
        | (go_at_call 47; refine (HF.out _).mono ?_; rintro e w5 ⟨rfl, hb5⟩; have hR5 := hR4.later hb5; have z5 := obj_later' z4 hb5; have u5 := Out.up4 u4 hb5; clear rc; have rc := hR5.c2; have rf := hR5.fz2; have hR6 := hR5.gone; obtain ⟨w6, ew6⟩ : ∃ w6, w5.setCell ⟨p, 2, none⟩ (.bool true) = w6 := ⟨_, rfl⟩; have ho6 := out_cell w5 p 2 (.bool true); rw [ew6] at hR6 ho6; have z6 := ho6.obj z5 (by omega); have u6 := Out.up3 u5 ho6; obtain ⟨x0, x1, f0, f1⟩ := mkc2 z6))
      obtain ⟨q0, q1, _, _⟩ := mkc2 (mks2 z6 (.int .i64 0) (.int .i64 0))
      exact bodyPost_ret (v := .agg #[.int .i64 0, .int .i64 0]) (by simp [results, Tryd.results17, go_sem, q0, q1]; try rfl) rfl (rid_end hR6 u6 ⟨hpw, Nat.le_refl _⟩ rfl)
    · replace HI : Hid (takeI s = ((a, b), some r)) := by have := HI.out; rw [hf] at this; exact this
      rw [HI.out]
      have HF : Hid (∀ wz, Calls Tryd.prog 47 #[.agg #[.int .i64 (a : Int), .int .i64 (b : Int)]] wz fun e w' => e = .returned (.bool true) ∧ Below wz.heap.size wz w') := fun wz => by rw [← hf]; exact refId_any a b wz
      clear hf
      go_enter Tryd.func17, Tryd.ntmps17
      go_wp2_with (first
        | (go_at_call 43; (with_reducible refine HC1.out.mono ?_); rintro e w1 ⟨rfl, hR1, ho1⟩; have z1 := ho1.obj hrow0 (by omega); have u1 := Out.up3 (Out.of_below hB0 : OutP p w W0) ho1)
        | (go_at_call 43; (with_reducible refine (HC2.out _ hR1).mono ?_); rintro e w3 ⟨rfl, hR3, ho3⟩; have z3 := ho3.obj z1 (by omega); obtain ⟨w4, ew4, hb4, hs4, hrow4⟩ := mk2 w3 (.int .i64 (a : Int)) (.int .i64 (b : Int)) 23; have hR4 := hR3.later hb4; have z4 := obj_later' z3 hb4; have u4 := Out.up4 (Out.up3 u1 ho3) hb4; obtain ⟨c0, c1, _, _⟩ := mkc2 hrow4; have rc := hR4.c2)
        | (go_at_call 47; refine (HF.out _).mono ?_; rintro e w5 ⟨rfl, hb5⟩; have hR5 := hR4.later hb5; have z5 := obj_later' z4 hb5; have u5 := Out.up4 u4 hb5; replace c0 := keep hb5 c0; replace c1 := keep hb5 c1; obtain ⟨x0, x1, f0, f1⟩ := mkc2 z5))
      obtain ⟨q0, q1, _, _⟩ := mkc2 (mks2 z5 (.int .i64 (a : Int)) (.int .i64 (b : Int)))
      exact bodyPost_ret (v := .agg #[.int .i64 (a : Int), .int .i64 (b : Int)]) (by simp [results, Tryd.results17, go_sem, q0, q1]; try rfl) rfl (rid_end hR5 u5 ⟨hpw, Nat.le_refl _⟩ rfl)
end Go.Proofs.YtfblemdpimbciaaDoor
