/- parishlaw07.ConfigRises: the walk of the law. -/
import Derived.Test.YthpdladfcjcjiaaDoorLawBack
import Derived.Test.YthpdladfcjcjiaaDoorHome07
import Derived.IntWalk
namespace Go.Proofs.YthpdladfcjcjiaaDoor
open Go.RowKit Go.Shelf

set_option maxHeartbeats 4000000 in
theorem law_rises (c : Cfg) (a b : ByteArray) (A B : Option Addr) (ca cb : Nat) (w : World) (h : CfgAt w c A B) (ha : a.size ≤ 9223372036854775807) (hb0 : b.size ≤ 9223372036854775807) :
    Calls Tryd.prog 5 #[.agg #[.slice A c.reps.length ca, .slice B c.bnds.length cb], .string a, .string b] w fun e w' => e = .returned (.bool true) ∧ Below w.heap.size w w' := by
  obtain ⟨W, eW, HB, c0, c1⟩ := box2 w (.slice A c.reps.length ca) (.slice B c.bnds.length cb) 25
  have h := h.later HB
  by_cases hall : fewB c = true ∧ a.size ≤ 1000 ∧ b.size ≤ 1000 ∧ formedB c = true
  · obtain ⟨hfew, hsa, hsb, hf⟩ := hall
    have hlen : c.bnds.length ≤ 3 := by have := formed_len hf; omega
    have hlen2 : c.reps.length ≤ 4 := by have := formed_len hf; omega
    have HBD : Hid (∀ i, i < c.bnds.length → homeZ c (c.bnds.getD i noStr) = i + 1) := fun i hi => home_bound hf hi
    have HEM := Lib.hid (home_empty hf)
    have hga := home_range hf a
    have hgb := home_range hf b
    have HMO : Hid (lessS b a = false → homeZ c a ≤ homeZ c b) := fun hab => home_mono hf hab
    obtain ⟨ga, hgae⟩ : ∃ g, homeZ c a = g := ⟨_, rfl⟩
    obtain ⟨gb, hgbe⟩ : ∃ g, homeZ c b = g := ⟨_, rfl⟩
    have HGA := Lib.hid hgae
    have HGB := Lib.hid hgbe
    rw [hgae] at hga HMO
    rw [hgbe] at hgb HMO
    clear hgae hgbe
    obtain ⟨ga0, ga1⟩ := hga
    obtain ⟨gb0, gb1⟩ := hgb
    go_enter Tryd.func5, Tryd.ntmps5
    go_wp2_with (first
      | (go_at_call 13; refine (awake07 _).mono ?_; rintro e w1 ⟨rfl, hb⟩; replace c0 := keep hb c0; replace c1 := keep hb c1; replace h := h.later hb; replace HB := keepB HB hb; clear hb)
      | (go_at_call 14; refine (few_any c A B ca cb _ h).mono ?_; rintro e w1 ⟨rfl, hb⟩; replace c0 := keep hb c0; replace c1 := keep hb c1; replace h := h.later hb; replace HB := keepB HB hb; clear hb)
      | (go_at_call 21; refine (formed_any c A B ca cb _ h).mono ?_; rintro e w1 ⟨rfl, hb⟩; replace c0 := keep hb c0; replace c1 := keep hb c1; replace h := h.later hb; replace HB := keepB HB hb; clear hb))
    clear eW hf hfew
    go_loopw [7] (fun i wr => ∃ k : Nat, k ≤ c.bnds.length ∧ i = .int .i64 k ∧ Below w1.heap.size w1 wr) (fun i _ => c.bnds.length - (intOf i).toNat)
    case atStart => exact ⟨0, Nat.zero_le _, rfl, Below.refl _ _⟩
    case round =>
      obtain ⟨k, hk, rfl, hw⟩ := hrel
      obtain ⟨wb, rfl⟩ : ∃ wb : World, wb = wr := ⟨_, rfl⟩
      have h := h.later hw
      replace c0 := keep hw c0
      replace c1 := keep hw c1
      have hB := keepB HB hw
      by_cases hlt : k < c.bnds.length
      · obtain ⟨bb, off, x, rfl, hc, HX⟩ := StrsAt.at' h.strs hlt
        have HG : Hid (homeZ c x = k + 1) := by show _ = _; rw [← HX.out]; exact HBD.out k hlt
        have hki : (k : Int) < (c.bnds.length : Int) := by omega
        have hwr : IntKind.i64.wrap ((k : Int) + 1) = (k : Int) + 1 := IntWalk.i64_in _ (by omega)
        go_wp2
        go_region_held3 (fun w' => w'.cell? ⟨w.heap.size, 0, none⟩ = some (.slice A c.reps.length ca) ∧ w'.cell? ⟨w.heap.size, 1, none⟩ = some (.slice (some ⟨bb, off, none⟩) c.bnds.length cb) ∧ w'.cell? ⟨bb, off + k, none⟩ = some (.string x) ∧ Below wb.heap.size wb w')
          (first | exact ⟨c0, c1, hc, below_drew (Below.refl _ _)⟩ | exact ⟨keep hb ‹_ ∧ _ ∧ _ ∧ Below wb.heap.size wb _›.1, keep hb ‹_ ∧ _ ∧ _ ∧ Below wb.heap.size wb _›.2.1, keep hb ‹_ ∧ _ ∧ _ ∧ Below wb.heap.size wb _›.2.2.1, keepB ‹_ ∧ _ ∧ _ ∧ Below wb.heap.size wb _›.2.2.2 hb⟩)
          (first
          | (go_at_call 22; refine (place_int HG.out (home_any c x A _ ca cb _ (h.later ‹_ ∧ _ ∧ _ ∧ Below wb.heap.size wb _›.2.2.2))).mono ?_; rintro e w2 ⟨rfl, hb⟩))
        have HS : Below wb.heap.size wb _ := (‹_ ∧ _ ∧ _ ∧ Below wb.heap.size wb _›).2.2.2
        clear hwr
        go_wp2
        go_roundw
        case rel => exact ⟨k + 1, by omega, by go_num, keepB hw HS⟩
        case measure => simp [intOf]; omega
      · go_wp2
        go_region_held3 (fun w' => w'.cell? ⟨w.heap.size, 0, none⟩ = some (.slice A c.reps.length ca) ∧ w'.cell? ⟨w.heap.size, 1, none⟩ = some (.slice B c.bnds.length cb) ∧ Below wb.heap.size wb w')
          (first | exact ⟨c0, c1, below_drew (Below.refl _ _)⟩ | exact ⟨keep hb ‹_ ∧ _ ∧ Below wb.heap.size wb _›.1, keep hb ‹_ ∧ _ ∧ Below wb.heap.size wb _›.2.1, keepB ‹_ ∧ _ ∧ Below wb.heap.size wb _›.2.2 hb⟩)
          (first
          | (go_at_call_of 22 (Value.string a); refine (place_int HGA.out (home_any c a A B ca cb _ (h.later ‹_ ∧ _ ∧ Below wb.heap.size wb _›.2.2))).mono ?_; rintro e w2 ⟨rfl, hb⟩)
          | (go_at_call_of 22 (Value.string b); refine (place_int HGB.out (home_any c b A B ca cb _ (h.later ‹_ ∧ _ ∧ Below wb.heap.size wb _›.2.2))).mono ?_; rintro e w2 ⟨rfl, hb⟩))
        have HS : Below wb.heap.size wb _ := (‹_ ∧ _ ∧ Below wb.heap.size wb _›).2.2
        replace c0 := (‹_ ∧ _ ∧ Below wb.heap.size wb _›).1
        have c1' := (‹_ ∧ _ ∧ Below wb.heap.size wb _›).2.1
        replace hB := keepB hB HS
        replace h := h.later HS
        cases hab : lessS b a
        · have hmo := HMO.out hab
          have hl := lessS_no hab
          clear hab
          go_wp2_with (go_at_call 22; refine (place_int HEM.out (home_any c ⟨#[]⟩ A B ca cb _ h)).mono ?_; rintro e w2 ⟨rfl, hb⟩; replace hB := keepB hB hb; clear hb)
          go_ret
          exact ⟨rfl, hB⟩
        · have hl := lessS_yes hab
          clear hab
          go_wp2_with (go_at_call 22; refine (place_int HEM.out (home_any c ⟨#[]⟩ A B ca cb _ h)).mono ?_; rintro e w2 ⟨rfl, hb⟩; replace hB := keepB hB hb; clear hb)
          go_ret
          exact ⟨rfl, hB⟩
  · by_cases hfew : fewB c = true
    · by_cases hsa : a.size ≤ 1000
      · by_cases hsb : b.size ≤ 1000
        · have hf : formedB c = false := by
            cases hq : formedB c
            · rfl
            · exact absurd ⟨hfew, hsa, hsb, hq⟩ hall
          clear hall
          go_enter Tryd.func5, Tryd.ntmps5
          go_wp2_with (first
      | (go_at_call 13; refine (awake07 _).mono ?_; rintro e w1 ⟨rfl, hb⟩; replace c0 := keep hb c0; replace c1 := keep hb c1; replace h := h.later hb; replace HB := keepB HB hb; clear hb)
      | (go_at_call 14; refine (few_any c A B ca cb _ h).mono ?_; rintro e w1 ⟨rfl, hb⟩; replace c0 := keep hb c0; replace c1 := keep hb c1; replace h := h.later hb; replace HB := keepB HB hb; clear hb)
      | (go_at_call 21; refine (formed_any c A B ca cb _ h).mono ?_; rintro e w1 ⟨rfl, hb⟩; replace c0 := keep hb c0; replace c1 := keep hb c1; replace h := h.later hb; replace HB := keepB HB hb; clear hb))
          go_ret
          exact ⟨rfl, HB⟩
        · clear hall
          go_enter Tryd.func5, Tryd.ntmps5
          go_wp2_with (first
      | (go_at_call 13; refine (awake07 _).mono ?_; rintro e w1 ⟨rfl, hb⟩; replace c0 := keep hb c0; replace c1 := keep hb c1; replace h := h.later hb; replace HB := keepB HB hb; clear hb)
      | (go_at_call 14; refine (few_any c A B ca cb _ h).mono ?_; rintro e w1 ⟨rfl, hb⟩; replace c0 := keep hb c0; replace c1 := keep hb c1; replace h := h.later hb; replace HB := keepB HB hb; clear hb)
      | (go_at_call 21; refine (formed_any c A B ca cb _ h).mono ?_; rintro e w1 ⟨rfl, hb⟩; replace c0 := keep hb c0; replace c1 := keep hb c1; replace h := h.later hb; replace HB := keepB HB hb; clear hb))
          go_ret
          exact ⟨rfl, HB⟩
      · clear hall
        go_enter Tryd.func5, Tryd.ntmps5
        go_wp2_with (first
      | (go_at_call 13; refine (awake07 _).mono ?_; rintro e w1 ⟨rfl, hb⟩; replace c0 := keep hb c0; replace c1 := keep hb c1; replace h := h.later hb; replace HB := keepB HB hb; clear hb)
      | (go_at_call 14; refine (few_any c A B ca cb _ h).mono ?_; rintro e w1 ⟨rfl, hb⟩; replace c0 := keep hb c0; replace c1 := keep hb c1; replace h := h.later hb; replace HB := keepB HB hb; clear hb)
      | (go_at_call 21; refine (formed_any c A B ca cb _ h).mono ?_; rintro e w1 ⟨rfl, hb⟩; replace c0 := keep hb c0; replace c1 := keep hb c1; replace h := h.later hb; replace HB := keepB HB hb; clear hb))
        go_ret
        exact ⟨rfl, HB⟩
    · have hfew : fewB c = false := by simpa using hfew
      clear hall
      go_enter Tryd.func5, Tryd.ntmps5
      go_wp2_with (first
      | (go_at_call 13; refine (awake07 _).mono ?_; rintro e w1 ⟨rfl, hb⟩; replace c0 := keep hb c0; replace c1 := keep hb c1; replace h := h.later hb; replace HB := keepB HB hb; clear hb)
      | (go_at_call 14; refine (few_any c A B ca cb _ h).mono ?_; rintro e w1 ⟨rfl, hb⟩; replace c0 := keep hb c0; replace c1 := keep hb c1; replace h := h.later hb; replace HB := keepB HB hb; clear hb)
      | (go_at_call 21; refine (formed_any c A B ca cb _ h).mono ?_; rintro e w1 ⟨rfl, hb⟩; replace c0 := keep hb c0; replace c1 := keep hb c1; replace h := h.later hb; replace HB := keepB HB hb; clear hb))
      go_ret
      exact ⟨rfl, HB⟩
end Go.Proofs.YthpdladfcjcjiaaDoor
