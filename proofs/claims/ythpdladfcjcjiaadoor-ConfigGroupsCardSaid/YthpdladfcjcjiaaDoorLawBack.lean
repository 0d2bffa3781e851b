/- parishlaw07.ConfigBack: the walk of the law. -/
import Derived.Test.YthpdladfcjcjiaaDoorLawPlaces
namespace Go.Proofs.YthpdladfcjcjiaaDoor
open Go.RowKit Go.Shelf

theorem place_int {P : Program} {f : FuncId} {args : Array Value} {w : World} {z x : Int} (e : z = x)
    (h : Calls P f args w fun e w' => e = .returned (.int .i64 z) ∧ Below w.heap.size w w') :
    Calls P f args w fun e w' => e = .returned (.int .i64 x) ∧ Below w.heap.size w w' := by
  rw [e] at h; exact h

set_option maxHeartbeats 2000000 in
theorem law_back (c : Cfg) (p : Int) (A B : Option Addr) (ca cb : Nat) (w : World) (h : CfgAt w c A B) (hca : c.reps.length ≤ ca) :
    Calls Tryd.prog 4 #[.agg #[.slice A c.reps.length ca, .slice B c.bnds.length cb], .int .i64 p] w fun e w' => e = .returned (.bool true) ∧ Below w.heap.size w w' := by
  obtain ⟨W, eW, HB, c0, c1⟩ := box2 w (.slice A c.reps.length ca) (.slice B c.bnds.length cb) 25
  have h := h.later HB
  cases hfew : fewB c
  · go_enter Tryd.func4, Tryd.ntmps4
    go_wp2_with (first
      | (go_at_call 13; refine (awake07 _).mono ?_; rintro e w1 ⟨rfl, hb⟩; replace c0 := keep hb c0; replace c1 := keep hb c1; replace h := h.later hb; replace HB := keepB HB hb; clear hb)
      | (go_at_call 14; refine (few_any c A B ca cb _ h).mono ?_; rintro e w1 ⟨rfl, hb⟩; replace c0 := keep hb c0; replace c1 := keep hb c1; replace h := h.later hb; replace HB := keepB HB hb; clear hb))
    go_ret
    exact ⟨rfl, HB⟩
  · have HTOT : Hid (∀ W : World, CfgAt W c A B → Calls Tryd.prog 17 #[.agg #[.slice A c.reps.length ca, .slice B c.bnds.length cb]] W fun e w' => e = .returned (.int .i64 (totZ c)) ∧ Below W.heap.size W w') := fun W hW => total_any c A B ca cb W hW
    have h20 := tot_range c
    have HPA : Hid (∀ k, 0 ≤ k → k < totZ c → placeZ c (atZ c k).1 (atZ c k).2 = k) := fun k k0 k1 => place_at k0 k1
    have HAN : Hid (¬ (0 ≤ p ∧ p < totZ c) → atZ c p = (-1, -1)) := fun hn => at_none hn
    have HPN : Hid (placeZ c (-1) (-1) = -1) := place_none c
    generalize totZ c = tot at *
    go_enter Tryd.func4, Tryd.ntmps4
    go_wp2_with (first
      | (go_at_call 13; refine (awake07 _).mono ?_; rintro e w1 ⟨rfl, hb⟩; replace c0 := keep hb c0; replace c1 := keep hb c1; replace h := h.later hb; replace HB := keepB HB hb; clear hb)
      | (go_at_call 14; refine (few_any c A B ca cb _ h).mono ?_; rintro e w1 ⟨rfl, hb⟩; replace c0 := keep hb c0; replace c1 := keep hb c1; replace h := h.later hb; replace HB := keepB HB hb; clear hb)
      | (go_at_call 17; refine (HTOT.out _ h).mono ?_; rintro e w1 ⟨rfl, hb⟩; replace c0 := keep hb c0; replace c1 := keep hb c1; replace h := h.later hb; replace HB := keepB HB hb; clear hb))
    clear eW
    go_loopw [6] (fun i wr => ∃ k : Int, 0 ≤ k ∧ k ≤ tot ∧ i = .int .i64 k ∧ Below w1.heap.size w1 wr) (fun i _ => (tot - intOf i).toNat)
    case atStart => exact ⟨0, Int.le_refl _, h20.1, rfl, Below.refl _ _⟩
    case round =>
      obtain ⟨k, k0, k1, rfl, hw⟩ := hrel
      have h := h.later hw
      replace c0 := keep hw c0
      replace c1 := keep hw c1
      have hB := keepB HB hw
      by_cases hlt : k < tot
      · obtain ⟨x, y, hxy⟩ : ∃ x y, atZ c k = (x, y) := ⟨_, _, rfl⟩
        have HXY := Lib.hid hxy
        have HP : Hid (placeZ c x y = k) := by have := HPA.out k k0 hlt; rw [hxy] at this; exact this
        clear hxy
        go_wp2_with (first
          | (go_at_call 15; refine (At_pair HXY.out (at_any c k A B ca cb _ h)).mono ?_; rintro e w2 ⟨rfl, hb⟩; replace c0 := keep hb c0; replace c1 := keep hb c1; replace h := h.later hb; replace hw := keepB hw hb; clear hb)
          | (go_at_call 19; refine (place_int HP.out (place_any c x y A B ca cb _ h hca)).mono ?_; rintro e w2 ⟨rfl, hb⟩; replace c0 := keep hb c0; replace c1 := keep hb c1; replace h := h.later hb; replace hw := keepB hw hb; clear hb))
        go_roundw
        case rel => exact ⟨k + 1, by omega, by omega, rfl, hw⟩
        case measure => simp [intOf]; omega
      · obtain ⟨x, y, hxy⟩ : ∃ x y, atZ c p = (x, y) := ⟨_, _, rfl⟩
        have HXY := Lib.hid hxy
        by_cases hp : 0 ≤ p ∧ p < tot
        · obtain ⟨p0, p1⟩ := hp
          clear hxy
          go_wp2_with (go_at_call 15; refine (At_pair HXY.out (at_any c p A B ca cb _ h)).mono ?_; rintro e w2 ⟨rfl, hb⟩; replace c0 := keep hb c0; replace c1 := keep hb c1; replace h := h.later hb; replace hB := keepB hB hb; clear hb)
          go_ret
          exact ⟨rfl, hB⟩
        · have e2 := HAN.out hp
          rw [hxy] at e2
          injection e2 with ex ey
          subst ex ey
          clear hxy
          by_cases p0 : 0 ≤ p
          · have p1 : ¬ p < tot := by omega
            clear hp
            go_wp2_with (first
              | (go_at_call 15; refine (At_pair HXY.out (at_any c p A B ca cb _ h)).mono ?_; rintro e w2 ⟨rfl, hb⟩; replace c0 := keep hb c0; replace c1 := keep hb c1; replace h := h.later hb; replace hB := keepB hB hb; clear hb)
              | (go_at_call 19; refine (place_int HPN.out (place_any c (-1) (-1) A B ca cb _ h hca)).mono ?_; rintro e w2 ⟨rfl, hb⟩; replace hB := keepB hB hb; clear hb))
            go_ret
            exact ⟨rfl, hB⟩
          · clear hp
            go_wp2_with (first
              | (go_at_call 15; refine (At_pair HXY.out (at_any c p A B ca cb _ h)).mono ?_; rintro e w2 ⟨rfl, hb⟩; replace c0 := keep hb c0; replace c1 := keep hb c1; replace h := h.later hb; replace hB := keepB hB hb; clear hb)
              | (go_at_call 19; refine (place_int HPN.out (place_any c (-1) (-1) A B ca cb _ h hca)).mono ?_; rintro e w2 ⟨rfl, hb⟩; replace hB := keepB hB hb; clear hb))
            go_ret
            exact ⟨rfl, hB⟩
end Go.Proofs.YthpdladfcjcjiaaDoor
