/- Layer 8's PutId and the reference's. -/
import Derived.Test.YtfblemdpimbciaaDoorPut04
import Derived.Test.YtfblemdpimbciaaDoorRises08
import Derived.Deep.RegionHeld3
namespace Go.Proofs.YtfblemdpimbciaaDoor
open Go.RowKit Go.Shelf Go.Sort

def encId (s q : Int) : List UInt8 := beL s.toNat 1 ++ beL q.toNat 4
def putI (s q : Int) : List UInt8 := if idB s q then encId s q else []
theorem idB_nat {s q : Int} (h : idB s q = true) : ∃ a b : Nat, s = a ∧ q = b ∧ 1 ≤ a ∧ a ≤ 8 ∧ 1 ≤ b ∧ b ≤ 1048576 := by
  simp only [idB, Bool.and_eq_true, decide_eq_true_eq] at h
  exact ⟨s.toNat, q.toNat, by omega, by omega, by omega, by omega, by omega, by omega⟩

set_option maxRecDepth 100000 in
set_option maxHeartbeats 4000000 in
theorem putId_any (l : List UInt8) (s q : Int) (A : Option Addr) (ca : Nat) (w : World) (hA : BysAt w A l) (hn : l.length ≤ 700000) :
    Calls Tryd.prog 19 #[.slice A l.length ca, .agg #[.int .i64 s, .int .i64 q]] w (OwnBys w (l ++ putI s q)) := by
  obtain ⟨W, eW, HB, c0, c1⟩ := box2 w (.int .i64 s) (.int .i64 q) 23
  have hA := BysAt.later hA HB
  cases hf : idB s q
  · have HE : Hid (l = l ++ putI s q) := by show _ = _; simp [putI, hf]
    go_enter Tryd.func19, Tryd.ntmps19
    go_wp2_with (first
      | (go_at_call 29; refine (calls_bq hf (id_any s q _)).mono ?_; rintro e w1 ⟨rfl, hb⟩; replace hA := BysAt.later hA hb; replace HB := keepB HB hb; clear hb)
      | (go_at_call 36; refine (clone02_any l A ca _ hA (by omega)).mono ?_; rintro e w2 hq; have hq := Lib.hid (hq.low HB HE.out); obtain ⟨v2, rfl, ho, hb⟩ := hq.out))
    go_ret
    exact ⟨_, rfl, ho, hb⟩
  · obtain ⟨a, b, rfl, rfl, ha1, ha8, hb1, hbM⟩ := idB_nat hf
    obtain ⟨m, hm⟩ : ∃ m, Hid (l ++ beL a 1 = m) := ⟨_, rfl⟩
    have hml : m.length ≤ 700001 := by rw [← hm.out, List.length_append, beL_length]; omega
    have HE : Hid (m ++ beL b 4 = l ++ putI a b) := by show _ = _; rw [← hm.out]; simp [putI, hf, encId]
    have HP : Hid (∀ w, BysAt w A l → Calls Tryd.prog 37 #[.slice A l.length ca, .int .u64 a, .int .i64 1] w (OwnBys w m)) := fun w hw => by rw [← hm.out]; exact put02_any l a 1 A ca w hw (by omega) (by decide)
    go_enter Tryd.func19, Tryd.ntmps19
    go_wp2_with (go_at_call 29; refine (calls_bq hf (id_any _ _ _)).mono ?_; rintro e w1 ⟨rfl, hb⟩; replace hA := BysAt.later hA hb; replace c0 := keep hb c0; replace c1 := keep hb c1; replace HB := keepB HB hb; clear hb)
    clear eW hf
    have hwa : IntKind.u64.wrap (a : Int) = a := IntWalk.u64_in _ (by omega)
    have hwb : IntKind.u64.wrap (b : Int) = b := IntWalk.u64_in _ (by omega)
    obtain ⟨wb, rfl⟩ : ∃ wb : World, wb = w1 := ⟨_, rfl⟩
    go_region_held3 (fun w' => w'.cell? ⟨w.heap.size, 0, none⟩ = some (.int .i64 a) ∧ w'.cell? ⟨w.heap.size, 1, none⟩ = some (.int .i64 b) ∧ Below wb.heap.size wb w')
      (first | exact ⟨c0, c1, below_drew (Below.refl _ _)⟩ | exact ⟨keep hb2 c0, keep hb2 c1, hb2⟩ | exact ⟨keep hb3 c0, keep hb3 c1, hb3⟩)
      (first
        | (go_at_call 37; (with_reducible refine (HP.out _ (BysAt.later hA (below_drew (Below.refl _ _)))).mono ?_); rintro e w2 ⟨v2, rfl, ho, hb⟩; obtain ⟨A1, c1', rfl, _, hB1⟩ := own_bys ho; have hb2 : Below wb.heap.size wb w2 := keepB (below_drew (Below.refl _ _)) hb)
        | (go_at_call 37; refine (put02_any m b 4 A1 c1' _ hB1 (by omega) (by decide)).mono ?_; rintro e w3 hq; have hq3 := Lib.hid (hq.low (keepB HB hb2) HE.out); obtain ⟨v3, rfl, ho3, hb3'⟩ := hq; have hb3 : Below wb.heap.size wb w3 := keepB hb2 hb3'))
    all_goals
      go_wp2
      go_ret
      exact hq3.out

set_option maxRecDepth 100000 in
set_option maxHeartbeats 4000000 in
theorem refPutId_any (l : List UInt8) (s q : Int) (A : Option Addr) (ca : Nat) (w : World) (hA : BysAt w A l) (hn : l.length ≤ 700000) :
    Calls Tryd.prog 20 #[.slice A l.length ca, .agg #[.int .i64 s, .int .i64 q]] w (OwnBys w (l ++ putI s q)) := by
  obtain ⟨i0, hi, hz0, hz1, hz2⟩ := info_parts info_u8
  obtain ⟨W, eW, HB, c0, c1⟩ := box2 w (.int .i64 s) (.int .i64 q) 23
  have hA := BysAt.later hA HB
  have k0 := c0
  have k1 := c1
  cases hf : idB s q
  · have HE : Hid (l = l ++ putI s q) := by show _ = _; simp [putI, hf]
    go_enter Tryd.func20, Tryd.ntmps20
    go_wp2_with (first
      | (at_builtin; refine wpList_append_row rfl _ _ 31 rfl W.heap.size 5 i0 (.int .u8 0) 1 1 Tryd.underlying31 hi hz0 hz1 hz2 rfl (by decide) (.slice none 0 0) 0 [] rfl (own_nil _ _ _ _) A l.length ca (byC l) rfl (by rw [byC_length]; omega) (bys_zero hA) (bys_news hA) (bys_one _) (le_maxLen (by omega)) (by omega) (Nat.le_refl _) ?_; intro v3 w3 HO3 hg3 _; have hb3 : Below W.heap.size W w3 := (Below.refl _ W).grown hg3 (Nat.le_refl _) (by intro k hk; cases hk); replace c0 := keep hb3 c0; replace c1 := keep hb3 c1; have hO := Lib.hid (own_zero HO3); clear hg3 HO3)
      | (go_at_call 47; refine (calls_bq hf (refId_any s q _)).mono ?_; rintro e w4 ⟨rfl, hb⟩; replace c0 := keep hb c0; replace c1 := keep hb c1; replace hO := Lib.hid (own_keep hO.out hb); replace hb3 := keepB hb3 hb; clear hb))
    go_ret
    exact OwnBys.low ⟨v3, rfl, hO.out, hb3⟩ HB HE.out
  · obtain ⟨a, b, rfl, rfl, ha1, ha8, hb1, hbM⟩ := idB_nat hf
    obtain ⟨m, hm⟩ : ∃ m, Hid (l ++ beL a 1 = m) := ⟨_, rfl⟩
    have hml : m.length ≤ 700001 := by rw [← hm.out, List.length_append, beL_length]; omega
    have HM : Hid (∀ v' (w' : World), w'.ownsRow W.heap.size 5 1 v' (l.length + 1) (byC l ++ [.int .u8 a]) → w'.ownsRow W.heap.size 5 1 v' m.length (byC m)) := fun v' w' hq => by
      have hb1 : byC (beL a 1) = [.int .u8 (a : Int)] := by
        have := be_byte a 0
        simp [byC, beL]
        omega
      rw [← hm.out, byC_append, List.length_append, beL_length, hb1]
      exact hq
    have HE : Hid (m ++ beL b 4 = l ++ putI a b) := by show _ = _; rw [← hm.out]; simp [putI, hf, encId]
    have hwa : IntKind.u8.wrap (a : Int) = a := IntWalk.u8_in _ (by omega)
    have hwb : IntKind.u64.wrap (b : Int) = b := IntWalk.u64_in _ (by omega)
    go_enter Tryd.func20, Tryd.ntmps20
    go_wp2_with (first
      | (at_builtin; refine wpList_append_row rfl _ _ 31 rfl W.heap.size 5 i0 (.int .u8 0) 1 1 Tryd.underlying31 hi hz0 hz1 hz2 rfl (by decide) (.slice none 0 0) 0 [] rfl (own_nil _ _ _ _) A l.length ca (byC l) rfl (by rw [byC_length]; omega) (bys_zero hA) (bys_news hA) (bys_one _) (le_maxLen (by omega)) (by omega) (Nat.le_refl _) ?_; intro v3 w3 HO3 hg3 _; have hb3 : Below W.heap.size W w3 := (Below.refl _ W).grown hg3 (Nat.le_refl _) (by intro k hk; cases hk); replace c0 := keep hb3 c0; replace c1 := keep hb3 c1; have hO := Lib.hid (own_zero HO3); clear hg3 HO3)
      | (go_at_call 47; refine (calls_bq hf (refId_any _ _ _)).mono ?_; rintro e w4 ⟨rfl, hb⟩; replace c0 := keep hb c0; replace c1 := keep hb c1; replace hO := Lib.hid (own_keep hO.out hb); replace hb3 := keepB hb3 hb; clear hb)
      | (have _h := hO; at_builtin; refine wpList_append_own _ rfl _ _ 31 rfl W.heap.size 5 i0 (.int .u8 0) 1 1 Tryd.underlying31 hi hz0 hz1 hz2 rfl (by decide) v3 l.length (byC l) rfl (own_keep hO.out (below1 _ _)) ⟨w4.heap.size, 0, none⟩ 1 1 [.int .u8 a] rfl rfl (cell_one_new _ _ _) one_cell_int (le_maxLen (by omega)) (by omega) (Nat.le_trans hb3.size (below1 _ _).size) ?_; intro v5 w5 HO5 hg5 _; have hb5 := own_below (keepB hb3 (below1 _ _)) (Nat.le_refl _) (own_keep hO.out (below1 _ _)) hg5; replace c0 := keep hb5 k0; replace c1 := keep hb5 k1; have hm5 := Lib.hid (HM.out _ _ HO5); obtain ⟨A1, c1', rfl, _, hB1⟩ := own_bys hm5.out; clear hg5 HO5)
      | (go_at_call 48; refine (refPut02_any m b 4 A1 c1' _ hB1 (by omega) (by decide)).mono ?_; rintro e w6 hq; have hq6 := Lib.hid (hq.low (keepB HB hb5) HE.out); obtain ⟨v6, rfl, hq0, hb6⟩ := hq6.out; clear hq6 hq))
    go_ret
    exact ⟨_, rfl, hq0, hb6⟩
end Go.Proofs.YtfblemdpimbciaaDoor
