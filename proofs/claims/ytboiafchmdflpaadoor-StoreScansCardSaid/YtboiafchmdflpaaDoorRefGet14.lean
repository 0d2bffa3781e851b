/- The reference's Get. -/
import Derived.Test.YtboiafchmdflpaaDoorVote16
namespace Go.Proofs.YtboiafchmdflpaaDoor
open Go.RowKit Go.Maps

def rGetV (L : List It) (low : Nat) (k : ByteArray) (n : Nat) : Ver := if n < low then noVer else seenF L k n
def rOldE (low n : Nat) : Int := if n < low then 9 else 0
set_option maxRecDepth 100000 in
set_option maxHeartbeats 4000000 in
theorem refGet_any {w : World} {B q : Nat} {O : Nat → Prop} {L : List It} {last low : Nat} (h : RefAt w B q O L last low) (k : ByteArray) (n : Nat) (hn : L.length ≤ 900000) :
    Calls Tryd.prog 38 #[.pointer (some ⟨q, 0, none⟩), .string k, .int .u64 (n : Int)] w (GetPost w (rGetV L low k n) (rOldE low n)) := by
  obtain ⟨W, eW, HB, hsz, hrow⟩ := new3 w (.int .i64 0) (.int .u64 0) (.string { data := #[] }) 42
  replace h := h.later HB
  have HS := Lib.hid h
  obtain ⟨vv, h⟩ := h
  have c2 := h.c2
  clear h
  obtain ⟨v, hv⟩ : ∃ v, Hid (seenF L k n = v) := ⟨_, rfl⟩
  obtain ⟨y0, y1, y2, f0, f1, f2⟩ := cells3 hrow
  have HR := Lib.hid hrow
  clear hrow
  by_cases hlow : n < low
  · have hl : ((n : Int) < (low : Int)) := by omega
    have HV : Hid (rGetV L low k n = noVer) := by show _ = _; rw [rGetV, if_pos hlow]
    have HE : Hid (rOldE low n = 9) := by show _ = _; rw [rOldE, if_pos hlow]
    clear hlow
    go_enter Tryd.func38, Tryd.ntmps38
    go_wp2
    obtain ⟨z0, z1, z2, _⟩ := cells3 (set3_cells HR.out (.int .i64 0) (.int .u64 0) (.string { data := #[] }))
    refine bodyPost_ret (v := .tuple #[.agg #[.int .i64 0, .int .u64 0, .string { data := #[] }], .int .u64 0, .int .i64 9]) (by simp [results, Tryd.results38, go_sem, z0, z1, z2]) rfl ⟨?_, ?_⟩
    · rw [HV.out, HE.out]; rfl
    · exact ((HB.setCell (Nat.le_refl _) _).setCell (Nat.le_refl _) _).setCell (Nat.le_refl _) _
  · have hl : ¬ ((n : Int) < (low : Int)) := by omega
    have HV : Hid (rGetV L low k n = v) := by show _ = _; rw [rGetV, if_neg hlow]; exact hv.out
    have HE : Hid (rOldE low n = 0) := by show _ = _; rw [rOldE, if_neg hlow]
    clear hlow
    have HSee : Hid (∀ wz, Below W.heap.size W wz → Calls Tryd.prog 28 #[.pointer (some ⟨q, 0, none⟩), .string k, .int .u64 (n : Int)] wz (RSeenPost wz v)) := fun wz hz => by
      have := refSeen_any (HS.out.later hz) k n hn
      rw [hv.out] at this
      exact this
    go_enter Tryd.func38, Tryd.ntmps38
    go_wp2_with (go_at_call 28; refine (HSee.out _ (Below.refl _ _)).mono ?_; rintro e w1 ⟨rfl, hb⟩; obtain ⟨W2, eW2, HB2, hsz2, hrow2⟩ := new3 w1 (.int .i64 v.val.kind) (.int .u64 (v.val.bits : Int)) (.string v.val.text) 42; obtain ⟨x0, x1, x2, _⟩ := cells3 hrow2; have HR2 := Lib.hid (obj_later (obj_later HR.out hb) HB2); obtain ⟨u0, u1, u2, g0, g1, g2⟩ := cells3 HR2.out; clear hrow2 y0 y1 y2 f0 f1 f2)
    have hne0 : True := trivial
    have hne : ¬ (w1.heap.size = w.heap.size) := by have := hb.size; omega
    have hne2 : ¬ (w.heap.size = w1.heap.size) := by have := hb.size; omega
    obtain ⟨z0, z1, z2, _⟩ := cells3 (set3_cells HR2.out (.int .i64 v.val.kind) (.int .u64 (v.val.bits : Int)) (.string v.val.text))
    refine bodyPost_ret (v := .tuple #[.agg #[.int .i64 v.val.kind, .int .u64 (v.val.bits : Int), .string v.val.text], .int .u64 (v.num : Int), .int .i64 0]) (by simp [results, Tryd.results38, go_sem, z0, z1, z2]) rfl ⟨?_, ?_⟩
    · rw [HV.out, HE.out]
    · exact ((((keepB (keepB HB hb) HB2).setCell (Nat.le_refl _) _).setCell (Nat.le_refl _) _).setCell (Nat.le_refl _) _)
end Go.Proofs.YtboiafchmdflpaaDoor
