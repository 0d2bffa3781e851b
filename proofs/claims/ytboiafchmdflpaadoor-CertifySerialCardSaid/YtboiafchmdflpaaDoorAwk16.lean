/- Layer 16's awake, beside layer 14's contracts. -/
import Derived.Test.YtboiafchmdflpaaDoorTal16b
import Derived.Test.YtboiafchmdflpaaDoorNil14
namespace Go.Proofs.YtboiafchmdflpaaDoor
open Go.RowKit Go.Shelf Go.Maps

set_option maxHeartbeats 400000 in
theorem indexFunc_nil (fn : Value) (w : World) : Calls Tryd.prog 83 #[.slice none 0 0, fn] w fun e w' => e = .returned (.int .i64 (-1)) ∧ Below w.heap.size w w' := by
  go_enter Tryd.func83, Tryd.ntmps83
  go_wp2
  refine wp_loop_rounds 1 ?_
  rw [rounds_succ]
  go_wp2
  go_ret
  exact ⟨rfl, Below.refl _ _⟩
theorem containsFunc_nil (fn : Value) (w : World) : Calls Tryd.prog 49 #[.slice none 0 0, fn] w fun e w' => e = .returned (.bool false) ∧ Below w.heap.size w w' := by
  go_enter Tryd.func49, Tryd.ntmps49
  go_wp2_with (go_at_call 83; refine (indexFunc_nil _ _).mono ?_; rintro e w1 ⟨rfl, hb⟩)
  go_ret
  exact ⟨rfl, hb⟩
theorem below_eq2 {w w' : World} {o o' : Obj} (h : (w.alloc o).alloc o' = w') : Below w.heap.size w w' := h ▸ below2 _ _ _
theorem vote_nil (p : Addr) (w : World) : Calls Tryd.prog 24 #[.pointer (some p), .slice none 0 0] w fun e w' => e = .returned (.bool true) ∧ Below w.heap.size w w' := by
  go_enter Tryd.func24, Tryd.ntmps24
  go_wp2_with (go_at_call 49; refine (containsFunc_nil _ _).mono ?_; rintro e w1 ⟨rfl, hb⟩)
  go_ret
  exact ⟨rfl, keepB (below1 _ _) hb⟩

/-- A slice of one, and of two, ints, that lie in a block of their own. -/
theorem ints1 {w : World} {g : Nat} {x : Int} (h : w.cell? ⟨g, 0, none⟩ = some (.int .i64 x)) : IntsAt w (some ⟨g, 0, none⟩) [x] := fun i hi => by
  simp at hi; subst hi; exact ⟨g, 0, rfl, h⟩
theorem ints2 {w : World} {g : Nat} {x y : Int} (h : w.cell? ⟨g, 0, none⟩ = some (.int .i64 x)) (h' : w.cell? ⟨g, 1, none⟩ = some (.int .i64 y)) : IntsAt w (some ⟨g, 0, none⟩) [x, y] := fun i hi => by
  match i, hi with
  | 0, _ => exact ⟨g, 0, rfl, h⟩
  | 1, _ => exact ⟨g, 0, rfl, h'⟩
  | n + 2, hi => simp at hi; omega
theorem new1 (x : Int) (g c : Nat) (w : World) (h : w.cell? ⟨g, 0, none⟩ = some (.int .i64 x)) : Calls Tryd.prog 46 #[.slice (some ⟨g, 0, none⟩) 1 c] w (NewPost w [x]) :=
  new_ok [x] g 0 c w (ints1 h) (by simp) (by simp) (by simp)
theorem new2 (x : Int) (g c : Nat) (w : World) (h : w.cell? ⟨g, 0, none⟩ = some (.int .i64 x)) (h' : w.cell? ⟨g, 1, none⟩ = some (.int .i64 x)) : Calls Tryd.prog 46 #[.slice (some ⟨g, 0, none⟩) 2 c] w fun e w' => e = .returned (.pointer none) ∧ Below w.heap.size w w' :=
  new_dup [x, x] g 0 c w (ints2 h h') (by simp) (by simp) (by simp)

set_option maxHeartbeats 1000000 in
theorem awake16_any (w : World) : Calls Tryd.prog 23 #[] w fun e w' => e = .returned (.bool true) ∧ Below w.heap.size w w' := by
  have HB := Below.refl w.heap.size w
  have ht0 := Lib.hid (Tally.start (gs := [0]) (by simp))
  go_enter Tryd.func23, Tryd.ntmps23
  go_wp2_with (first
    | (go_at_call 46; refine (new1 0 _ _ _ (by simp [go_sem])).mono ?_; rintro e w1 ⟨p, g, b, cap, rfl, hT, hb⟩; replace HB := keepB (below1 _ _) hb)
    | (go_at_call 47; refine (outcome_any _ hT ht0.out).mono ?_; rintro e w2 ⟨rfl, hb2⟩; replace hT := hT.later hb2; replace HB := keepB HB hb2)
    | (go_at_call 48; refine (put_any 0 true (by omega) (by omega) (by simp) _ hT ht0.out).mono ?_; rintro e w3 ⟨rfl, hT3, hg⟩; replace HB := HB.grown hg HB.size (fun k e => by cases e; exact Nat.le_trans (by simp) hT3.hb))
    | (go_at_call 13; refine (storeNew_any _).mono ?_; rintro e w4 ⟨rfl, hw4⟩; replace HB := keepB HB (below_eq2 hw4))
    | (go_at_call 24; refine (vote_nil _ _).mono ?_; rintro e w5 ⟨rfl, hb5⟩; replace HB := keepB HB hb5))
  go_ret
  exact ⟨rfl, HB⟩

end Go.Proofs.YtboiafchmdflpaaDoor
