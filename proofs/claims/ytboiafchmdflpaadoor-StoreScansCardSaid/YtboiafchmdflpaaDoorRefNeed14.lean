/- The reference's needed. -/
import Derived.Test.YtboiafchmdflpaaDoorRefGet14
namespace Go.Proofs.YtboiafchmdflpaaDoor
open Go.RowKit Go.Maps

def needF (L : List It) (low : Nat) (x : It) : Bool := decide (low < x.num) || (decide (x.num = (seenF L x.key low).num) && !decide (x.val.kind = 0))
theorem needF_items {m : KV} (h : RisesK m) (low : Nat) (x : It) : needF (items m) low x = needV (getK m x.key) low ⟨x.num, x.val⟩ := by rw [needF, needV, seenF_items h]
theorem new5 (w : World) (u v x y z : Value) (t : TypeId) : ∃ W : World, w.alloc (.cells #[u, v, x, y, z] t) = W ∧ Below w.heap.size w W ∧ W.heap.size = w.heap.size + 1 ∧ W.heap[w.heap.size]? = some (.cells #[u, v, x, y, z] t (0, 0)) :=
  ⟨_, rfl, below1 _ _, by simp, heap_alloc_new w _⟩
theorem cells5 {w : World} {g : Nat} {u v x y z : Value} {t : TypeId} (h : w.heap[g]? = some (.cells #[u, v, x, y, z] t (0, 0))) : w.cell? ⟨g, 0, none⟩ = some u ∧ w.cell? ⟨g, 1, none⟩ = some v ∧ w.cell? ⟨g, 2, none⟩ = some x ∧ w.cell? ⟨g, 3, none⟩ = some y ∧ w.cell? ⟨g, 4, none⟩ = some z := by
  refine ⟨?_, ?_, ?_, ?_, ?_⟩ <;> (rw [cell_of_row w g _ _ _ _ h]; rfl)
def itV (x : It) : Value := .agg #[.string x.key, .int .i64 x.val.kind, .int .u64 (x.val.bits : Int), .string x.val.text, .int .u64 (x.num : Int)]
theorem ret_bool_by {w w' : World} {z x : Bool} (h : z = x) (hb : Below w.heap.size w w') : (Ending.returned (.bool z) = Ending.returned (.bool x)) ∧ Below w.heap.size w w' := ⟨by rw [h], hb⟩
set_option maxRecDepth 100000 in
set_option maxHeartbeats 4000000 in
theorem refNeed_any {w : World} {B q : Nat} {O : Nat → Prop} {L : List It} {last low : Nat} (h : RefAt w B q O L last low) (x : It) (n : Nat) (hn : L.length ≤ 900000) :
    Calls Tryd.prog 74 #[.pointer (some ⟨q, 0, none⟩), itV x, .int .u64 (n : Int)] w fun e w' => e = .returned (.bool (needF L n x)) ∧ Below w.heap.size w w' := by
  obtain ⟨W, eW, HB, hsz, hrow⟩ := new5 w (.string x.key) (.int .i64 x.val.kind) (.int .u64 (x.val.bits : Int)) (.string x.val.text) (.int .u64 (x.num : Int)) 102
  obtain ⟨y0, y1, y2, y3, y4⟩ := cells5 hrow
  clear hrow
  have HS := Lib.hid (h.later HB)
  clear h
  obtain ⟨v, hv⟩ : ∃ v, Hid (seenF L x.key n = v) := ⟨_, rfl⟩
  have HF : Hid (needF L n x = (decide (n < x.num) || (decide (x.num = v.num) && !decide (x.val.kind = 0)))) := by show _ = _; rw [needF, hv.out]
  have HSee : Hid (∀ wz, Below W.heap.size W wz → Calls Tryd.prog 28 #[.pointer (some ⟨q, 0, none⟩), .string x.key, .int .u64 (n : Int)] wz (RSeenPost wz v)) := fun wz hz => by
    have := refSeen_any (HS.out.later hz) x.key n hn
    rw [hv.out] at this
    exact this
  unfold itV
  go_enter Tryd.func74, Tryd.ntmps74
  go_wp2_with (go_at_call 28; refine (HSee.out _ (Below.refl _ _)).mono ?_; rintro e w1 ⟨rfl, hb⟩; obtain ⟨W2, eW2, HB2, hsz2, hrow2⟩ := new3 w1 (.int .i64 v.val.kind) (.int .u64 (v.val.bits : Int)) (.string v.val.text) 42; replace y0 := keep HB2 (keep hb y0); replace y1 := keep HB2 (keep hb y1); replace y2 := keep HB2 (keep hb y2); replace y3 := keep HB2 (keep hb y3); replace y4 := keep HB2 (keep hb y4); have HW := keepB (keepB HB hb) HB2; clear hrow2)
  all_goals
    go_ret
    exact ⟨by rw [HF.out]; (by_cases q1 : n < x.num <;> by_cases q2 : x.num = v.num <;> by_cases q3 : x.val.kind = 0 <;> simp [q1, q2, q3] <;> omega), HW⟩
end Go.Proofs.YtboiafchmdflpaaDoor
