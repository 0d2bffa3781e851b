/- parishlaw07.ConfigKeys: the walk of the law. -/
import Derived.Test.YthpdladfcjcjiaaDoorLawBack
import Derived.Test.YthpdladfcjcjiaaDoorRefGroups07
namespace Go.Proofs.YthpdladfcjcjiaaDoor
open Go.RowKit Go.Shelf

theorem info_str : (Tryd.prog.info? 9).map (fun i => (i.zero, i.size, i.bytes)) = some (some (.string ByteArray.empty), 1, 16) := by kernel_rfl

set_option maxRecDepth 100000 in
set_option maxHeartbeats 4000000 in
theorem law_keys (c : Cfg) (keys : List ByteArray) (A B K : Option Addr) (ca cb ck : Nat) (w : World) (h : CfgAt w c A B) (hK : StrsAt w K keys) (hm : keys.length ≤ 9223372036854775807) :
    Calls Tryd.prog 9 #[.agg #[.slice A c.reps.length ca, .slice B c.bnds.length cb], .slice K keys.length ck] w fun e w' => e = .returned (.bool true) ∧ Below w.heap.size w w' := by
  obtain ⟨W, eW, HB, c0, c1⟩ := box2 w (.slice A c.reps.length ca) (.slice B c.bnds.length cb) 25
  have h := h.later HB
  have hK := CellsAt.later hK HB
  by_cases hall : fewB c = true ∧ fewKeys keys = true
  · obtain ⟨hfew, hfk⟩ := hall
    have hlen : keys.length ≤ 50 := by
      simp only [fewKeys, Bool.and_eq_true, decide_eq_true_eq] at hfk; exact hfk.2
    obtain ⟨i0, hi, hz0, hz1, hz2⟩ := info_parts info_str
    have hgl := groupsTo_length c keys c.reps.length
    have hgl2 : (groupsL c keys).length ≤ 20 := by
      have : c.reps.length ≤ 20 := by
        simp only [fewB, Bool.and_eq_true, decide_eq_true_eq] at hfew; exact hfew.1.2
      unfold groupsL
      split <;> simp <;> omega
    have HGL := Lib.hid hgl2
    clear hgl hgl2
    go_enter Tryd.func9, Tryd.ntmps9
    go_wp2_with (first
      | (go_at_call 13; refine (awake07 _).mono ?_; rintro e w1 ⟨rfl, hb⟩; replace c0 := keep hb c0; replace c1 := keep hb c1; replace h := h.later hb; replace hK := CellsAt.later hK hb; replace HB := keepB HB hb; clear hb)
      | (go_at_call 14; refine (few_any c A B ca cb _ h).mono ?_; rintro e w1 ⟨rfl, hb⟩; replace c0 := keep hb c0; replace c1 := keep hb c1; replace h := h.later hb; replace hK := CellsAt.later hK hb; replace HB := keepB HB hb; clear hb)
      | (go_at_call 47; refine (fewKeys_any keys K ck _ hK hm).mono ?_; rintro e w1 ⟨rfl, rfl⟩))
    clear eW hfew hfk
    go_loopw [5] (fun i wr => ∃ k : Nat, k ≤ keys.length ∧ i = .int .i64 k ∧ Below w1.heap.size w1 wr) (fun i _ => keys.length - (intOf i).toNat)
    case atStart => exact ⟨0, Nat.zero_le _, rfl, Below.refl _ _⟩
    case round =>
      obtain ⟨k, hk, rfl, hw⟩ := hrel
      obtain ⟨wb, rfl⟩ : ∃ wb : World, wb = wr := ⟨_, rfl⟩
      have h := h.later hw
      have hK := CellsAt.later hK hw
      replace c0 := keep hw c0
      replace c1 := keep hw c1
      have hB := keepB HB hw
      by_cases hlt : k < keys.length
      · obtain ⟨bb, off, x, rfl, hc, HX⟩ := StrsAt.at' hK hlt
        have hki : (k : Int) < (keys.length : Int) := by omega
        obtain ⟨g, hg⟩ : ∃ g, homeZ c x = g := ⟨_, rfl⟩
        have HG := Lib.hid hg
        clear hg
        go_wp2
        go_region_held3 (fun w' => w'.cell? ⟨w.heap.size, 0, none⟩ = some (.slice A c.reps.length ca) ∧ w'.cell? ⟨w.heap.size, 1, none⟩ = some (.slice B c.bnds.length cb) ∧ w'.cell? ⟨bb, off + k, none⟩ = some (.string x) ∧ Below wb.heap.size wb w')
          (first | exact ⟨c0, c1, hc, below_drew (Below.refl _ _)⟩ | exact ⟨keep hb ‹_ ∧ _ ∧ _ ∧ Below wb.heap.size wb _›.1, keep hb ‹_ ∧ _ ∧ _ ∧ Below wb.heap.size wb _›.2.1, keep hb ‹_ ∧ _ ∧ _ ∧ Below wb.heap.size wb _›.2.2.1, keepB ‹_ ∧ _ ∧ _ ∧ Below wb.heap.size wb _›.2.2.2 hb⟩)
          (first
          | (go_at_call 22; refine (calls_int HG.out (home_any c x A B ca cb _ (h.later ‹_ ∧ _ ∧ _ ∧ Below wb.heap.size wb _›.2.2.2))).mono ?_; rintro e w2 ⟨rfl, hb⟩)
          | (go_at_call 48; refine (calls_int HG.out (refHome_any c x A B ca cb _ (h.later ‹_ ∧ _ ∧ _ ∧ Below wb.heap.size wb _›.2.2.2))).mono ?_; rintro e w2 ⟨rfl, hb⟩))
        have HS : Below wb.heap.size wb _ := (‹_ ∧ _ ∧ _ ∧ Below wb.heap.size wb _›).2.2.2
        go_wp2
        go_roundw
        case rel => exact ⟨k + 1, by omega, by go_num, keepB hw HS⟩
        case measure => simp [intOf]; omega
      · go_wp2_with (at_builtin; refine wpList_append_strs rfl _ _ 23 rfl wb.heap.size 9 i0 (.string ByteArray.empty) 16 Tryd.underlying23 hi hz0 hz1 hz2 rfl _ _ _ rfl (own_nil _ _ _ _) K keys ck rfl hK (le_maxLen (by omega)) (by omega) (Nat.le_refl _) ?_; intro v3 w3 HO3 hg3)
        have hw3 := own_below (Below.refl wb.heap.size wb) (Nat.le_refl _) (own_nil wb wb.heap.size 1 9) hg3
        have HO4 : w3.ownsRow wb.heap.size 9 1 v3 keys.length (keys.map Value.string) := by simpa using HO3
        clear HO3 hg3
        obtain ⟨K2, cap2, rfl, _, hOwn⟩ := own_strs HO4
        clear HO4
        obtain ⟨wc, rfl⟩ : ∃ wc : World, wc = w3 := ⟨_, rfl⟩
        replace c0 := keep hw3 c0
        replace c1 := keep hw3 c1
        have h := h.later hw3
        have hK := CellsAt.later hK hw3
        replace hB := keepB hB hw3
        go_region_held3 (fun w' => w'.cell? ⟨w.heap.size, 0, none⟩ = some (.slice A c.reps.length ca) ∧ w'.cell? ⟨w.heap.size, 1, none⟩ = some (.slice B c.bnds.length cb) ∧ Below wc.heap.size wc w')
          (first | exact ⟨c0, c1, below_drew (Below.refl _ _)⟩ | exact ⟨keep hb ‹_ ∧ _ ∧ Below wc.heap.size wc _›.1, keep hb ‹_ ∧ _ ∧ Below wc.heap.size wc _›.2.1, keepB ‹_ ∧ _ ∧ Below wc.heap.size wc _›.2.2 hb⟩)
          (first
          | (go_at_call 21; refine (formed_any c A B ca cb _ (h.later ‹_ ∧ _ ∧ Below wc.heap.size wc _›.2.2)).mono ?_; rintro e w2 ⟨rfl, hb⟩)
          | (go_at_call 49; refine (refFormed_any c A B ca cb _ (h.later ‹_ ∧ _ ∧ Below wc.heap.size wc _›.2.2)).mono ?_; rintro e w2 ⟨rfl, hb⟩)
          | (go_at_call 51; refine (groups_any c keys A B K2 ca cb _ _ (h.later ‹_ ∧ _ ∧ Below wc.heap.size wc _›.2.2) (CellsAt.later hOwn ‹_ ∧ _ ∧ Below wc.heap.size wc _›.2.2) (by omega)).mono ?_; rintro e w2 ⟨A1, k1, rfl, hI1, hb⟩)
          | (go_at_call 52; refine (refGroups_any c keys A B K ca cb _ _ (h.later ‹_ ∧ _ ∧ Below wc.heap.size wc _›.2.2) (CellsAt.later hK ‹_ ∧ _ ∧ Below wc.heap.size wc _›.2.2) (by omega)).mono ?_; rintro e w2 ⟨A1, k1, rfl, hI1, hb⟩)
          | (go_at_call 50; refine (ints_same (groupsL c keys) _ _ _ _ _ (by first | assumption | exact CellsAt.later ‹IntsAt _ _ _› hb) (by first | assumption | exact CellsAt.later ‹IntsAt _ _ _› hb) (Nat.le_trans HGL.out (by decide))).mono ?_; rintro e w2 ⟨rfl, hb⟩))
        have HS : Below wc.heap.size wc _ := (‹_ ∧ _ ∧ Below wc.heap.size wc _›).2.2
        go_wp2
        go_ret
        exact ⟨rfl, keepB hB HS⟩
  · by_cases hfew : fewB c = true
    · have hfk : fewKeys keys = false := by
        cases hq : fewKeys keys
        · rfl
        · exact absurd ⟨hfew, hq⟩ hall
      clear hall
      go_enter Tryd.func9, Tryd.ntmps9
      go_wp2_with (first
      | (go_at_call 13; refine (awake07 _).mono ?_; rintro e w1 ⟨rfl, hb⟩; replace c0 := keep hb c0; replace c1 := keep hb c1; replace h := h.later hb; replace hK := CellsAt.later hK hb; replace HB := keepB HB hb; clear hb)
      | (go_at_call 14; refine (few_any c A B ca cb _ h).mono ?_; rintro e w1 ⟨rfl, hb⟩; replace c0 := keep hb c0; replace c1 := keep hb c1; replace h := h.later hb; replace hK := CellsAt.later hK hb; replace HB := keepB HB hb; clear hb)
      | (go_at_call 47; refine (fewKeys_any keys K ck _ hK hm).mono ?_; rintro e w1 ⟨rfl, rfl⟩))
      go_ret
      exact ⟨rfl, HB⟩
    · have hfew : fewB c = false := by simpa using hfew
      clear hall
      go_enter Tryd.func9, Tryd.ntmps9
      go_wp2_with (first
      | (go_at_call 13; refine (awake07 _).mono ?_; rintro e w1 ⟨rfl, hb⟩; replace c0 := keep hb c0; replace c1 := keep hb c1; replace h := h.later hb; replace hK := CellsAt.later hK hb; replace HB := keepB HB hb; clear hb)
      | (go_at_call 14; refine (few_any c A B ca cb _ h).mono ?_; rintro e w1 ⟨rfl, hb⟩; replace c0 := keep hb c0; replace c1 := keep hb c1; replace h := h.later hb; replace hK := CellsAt.later hK hb; replace HB := keepB HB hb; clear hb)
      | (go_at_call 47; refine (fewKeys_any keys K ck _ hK hm).mono ?_; rintro e w1 ⟨rfl, rfl⟩))
      go_ret
      exact ⟨rfl, HB⟩
end Go.Proofs.YthpdladfcjcjiaaDoor
