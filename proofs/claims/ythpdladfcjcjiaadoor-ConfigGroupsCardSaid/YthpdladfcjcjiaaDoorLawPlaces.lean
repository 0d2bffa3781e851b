/- parishlaw07.ConfigPlaces: the walk of the law. -/
import Derived.Test.YthpdladfcjcjiaaDoorPlace07
import Derived.Deep.RegionHeld3
namespace Go.Proofs.YthpdladfcjcjiaaDoor
open Go.RowKit Go.Shelf

theorem keepSome {W w1 : World} (hb : Below W.heap.size W w1) : ∀ {a : Addr} {v : Value}, W.cell? a = some v → w1.cell? a = some v := fun h => keep hb h

set_option maxHeartbeats 1000000 in
theorem awake07 (w : World) : Calls Tryd.prog 13 #[] w fun e w' => e = .returned (.bool true) ∧ Below w.heap.size w w' := by
  have hT : ∀ W : World, W.cell? ⟨w.heap.size, 0, none⟩ = some (.int .i64 3) → Calls Tryd.prog 17 #[.agg #[.slice (some ⟨w.heap.size, 0, none⟩) 1 1, .slice none 0 0]] W fun e w' => e = .returned (.int .i64 3) ∧ Below W.heap.size W w' := fun W hc => by
    have h : CfgAt W ⟨[3], []⟩ (some ⟨w.heap.size, 0, none⟩) none := by
      refine ⟨fun i hi => ?_, fun i hi => ?_, fun i hi => ?_, by simp, by simp⟩
      · simp at hi; subst hi; exact ⟨_, _, rfl, hc⟩
      · simp at hi
      · simp at hi
    have := total_any ⟨[3], []⟩ (some ⟨w.heap.size, 0, none⟩) none 1 0 W h
    have e3 : totZ ⟨[3], []⟩ = 3 := by decide +kernel
    rw [e3] at this
    exact this
  have HT := Lib.hid hT
  clear hT
  go_enter Tryd.func13, Tryd.ntmps13
  go_wp2_with (go_at_call 17; refine (HT.out _ (by simp)).mono ?_; rintro e w1 ⟨rfl, hb⟩)
  go_ret
  exact ⟨rfl, keepB (below1 _ _) hb⟩

set_option maxHeartbeats 2000000 in
theorem law_places (c : Cfg) (g n : Int) (A B : Option Addr) (ca cb : Nat) (w : World) (h : CfgAt w c A B) (hca : c.reps.length ≤ ca) :
    Calls Tryd.prog 3 #[.agg #[.slice A c.reps.length ca, .slice B c.bnds.length cb], .int .i64 g, .int .i64 n] w fun e w' => e = .returned (.bool true) ∧ Below w.heap.size w w' := by
  obtain ⟨W, eW, HB, c0, c1⟩ := box2 w (.slice A c.reps.length ca) (.slice B c.bnds.length cb) 25
  have h := h.later HB
  obtain ⟨x, y, hxy⟩ : ∃ x y, atZ c n = (x, y) := ⟨_, _, rfl⟩
  have HXY := Lib.hid hxy
  clear hxy
  cases hfew : fewB c
  · go_enter Tryd.func3, Tryd.ntmps3
    go_wp2_with (first
      | (go_at_call 13; refine (awake07 _).mono ?_; rintro e w1 ⟨rfl, hb⟩; replace c0 := keep hb c0; replace c1 := keep hb c1; replace h := h.later hb; replace HB := keepB HB hb; clear hb)
      | (go_at_call 14; refine (few_any c A B ca cb _ h).mono ?_; rintro e w1 ⟨rfl, hb⟩; replace c0 := keep hb c0; replace c1 := keep hb c1; replace h := h.later hb; replace HB := keepB HB hb; clear hb))
    go_ret
    exact ⟨rfl, HB⟩
  · go_enter Tryd.func3, Tryd.ntmps3
    go_wp2_with (first
      | (go_at_call 13; refine (awake07 _).mono ?_; rintro e w1 ⟨rfl, hb⟩; replace c0 := keep hb c0; replace c1 := keep hb c1; replace h := h.later hb; replace HB := keepB HB hb; clear hb)
      | (go_at_call 14; refine (few_any c A B ca cb _ h).mono ?_; rintro e w1 ⟨rfl, hb⟩; replace c0 := keep hb c0; replace c1 := keep hb c1; replace h := h.later hb; replace HB := keepB HB hb; clear hb)
      | (go_at_call 15; refine (At_pair HXY.out (at_any c n A B ca cb _ h)).mono ?_; rintro e w1 ⟨rfl, hb⟩; replace c0 := keep hb c0; replace c1 := keep hb c1; replace h := h.later hb; replace HB := keepB HB hb; clear hb)
      | (go_at_call 16; refine (At_pair HXY.out (refAt_any c n A B ca cb _ h)).mono ?_; rintro e w1 ⟨rfl, hb⟩; replace c0 := keep hb c0; replace c1 := keep hb c1; replace h := h.later hb; replace HB := keepB HB hb; clear hb))
    go_region_held3 (fun w' => w'.cell? ⟨w.heap.size, 0, none⟩ = some (.slice A c.reps.length ca) ∧ w'.cell? ⟨w.heap.size, 1, none⟩ = some (.slice B c.bnds.length cb) ∧ Below w1.heap.size w1 w')
      (first | exact ⟨c0, c1, below_drew (Below.refl _ _)⟩ | exact ⟨keep hb ‹_ ∧ _ ∧ Below w1.heap.size w1 _›.1, keep hb ‹_ ∧ _ ∧ Below w1.heap.size w1 _›.2.1, keepB ‹_ ∧ _ ∧ Below w1.heap.size w1 _›.2.2 hb⟩)
      (first
      | (go_at_call 17; refine (total_any c A B ca cb _ (h.later ‹_ ∧ _ ∧ Below w1.heap.size w1 _›.2.2)).mono ?_; rintro e w2 ⟨rfl, hb⟩)
      | (go_at_call 18; refine (refTotal_any c A B ca cb _ (h.later ‹_ ∧ _ ∧ Below w1.heap.size w1 _›.2.2)).mono ?_; rintro e w2 ⟨rfl, hb⟩)
      | (go_at_call 19; refine (place_any c g n A B ca cb _ (h.later ‹_ ∧ _ ∧ Below w1.heap.size w1 _›.2.2) hca).mono ?_; rintro e w2 ⟨rfl, hb⟩)
      | (go_at_call 20; refine (refPlace_any c g n A B ca cb _ (h.later ‹_ ∧ _ ∧ Below w1.heap.size w1 _›.2.2)).mono ?_; rintro e w2 ⟨rfl, hb⟩))
    have HS : Below w1.heap.size w1 _ := (‹_ ∧ _ ∧ Below w1.heap.size w1 _›).2.2
    go_wp2
    go_ret
    exact ⟨rfl, keepB HB HS⟩
end Go.Proofs.YthpdladfcjcjiaaDoor
