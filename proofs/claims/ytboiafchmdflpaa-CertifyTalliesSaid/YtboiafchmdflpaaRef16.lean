/- The reference's Tally: place, Put, Outcome and Voted, in the words of the votes that have come. -/
import Derived.Test.YtboiafchmdflpaaTally16
import Derived.Deep.OwnRows
namespace Go.Proofs.Ytboiafchmdflpaa
open Go.RowKit Go.Shelf Go.Maps

structure RefAt (w : World) (base p g v ca cb : Nat) (gs : List Int) (vs : List (Int × Bool)) : Prop where
  c0 : w.cell? ⟨p, 0, none⟩ = some (.slice (some ⟨g, 0, none⟩) gs.length ca)
  c1 : w.cell? ⟨p, 1, none⟩ = some (.slice (some ⟨v, 0, none⟩) gs.length cb)
  ints : IntsAt w (some ⟨g, 0, none⟩) gs
  nums : w.rowIs v 3 gs.length fun i => .int .i64 (numV vs (gs.getD i 0))
  hp : base ≤ p
  hg : base ≤ g
  hv : base ≤ v
  n1 : v ≠ p
  n2 : v ≠ g
theorem rowIs_grown {w w' : World} {row : Option Nat} {b : Nat} {t : TypeId} {n : Nat} {f : Nat → Value} (h : w.rowIs b t n f) (hg : w.grownBy w' row) (hne : some b ≠ row) : w'.rowIs b t n f := by
  obtain ⟨c, hc, h1, h2⟩ := h
  exact ⟨c, by rw [hg.block b (Array.getElem?_eq_some_iff.1 hc).1 hne]; exact hc, h1, h2⟩
theorem RefAt.grown {w w' : World} {base p g v ca cb : Nat} {gs : List Int} {vs : List (Int × Bool)} {row : Option Nat} (h : RefAt w base p g v ca cb gs vs) (hg : w.grownBy w' row) (h1 : some p ≠ row) (h2 : some g ≠ row) (h3 : some v ≠ row) : RefAt w' base p g v ca cb gs vs := by
  refine ⟨hg.cell h.c0 h1, hg.cell h.c1 h1, fun i hi => ?_, rowIs_grown h.nums hg h3, h.hp, h.hg, h.hv, h.n1, h.n2⟩
  obtain ⟨b', off, e, hc⟩ := h.ints i hi
  cases e
  exact ⟨_, _, rfl, hg.cell hc h2⟩
theorem RefAt.later {w w' : World} {base p g v ca cb : Nat} {gs : List Int} {vs : List (Int × Bool)} (h : RefAt w base p g v ca cb gs vs) (hb : Below w.heap.size w w') : RefAt w' base p g v ca cb gs vs :=
  h.grown (grown_of_below hb) (by simp) (by simp) (by simp)
theorem hasI_take {l : List Int} {x : Int} {k : Nat} (hk : k < l.length) (h : hasI (l.take k) x = false) {y : Int} (hy : l.getD k 0 = y) (hne : x ≠ y) : hasI (l.take (k + 1)) x = false := by
  rw [List.getD_eq_getElem?_getD, List.getElem?_eq_getElem hk] at hy
  simp only [Option.getD_some] at hy
  unfold hasI at *
  rw [List.take_succ_eq_append_getElem hk, hy]
  simp only [List.contains_eq_any_beq, List.any_append, List.any_cons, List.any_nil, Bool.or_false, Bool.or_eq_false_iff] at h ⊢
  exact ⟨h, by simpa using hne⟩
def PlacePost (w : World) (gs : List Int) (x : Int) (e : Ending) (w' : World) : Prop := ∃ k : Nat, k < gs.length ∧ gs.getD k 0 = x ∧ e = .returned (.int .i64 (k : Int)) ∧ w = w'
def PlaceBoth (w : World) (gs : List Int) (x : Int) (e : Ending) (w' : World) : Prop := (hasI gs x = true ∧ PlacePost w gs x e w') ∨ (hasI gs x = false ∧ e = .returned (.int .i64 (-1)) ∧ w = w')
set_option maxRecDepth 100000 in
theorem place_both {base p g v ca cb : Nat} {gs : List Int} {vs : List (Int × Bool)} (x : Int) (hn : gs.length ≤ 1000000) (w : World) (h : RefAt w base p g v ca cb gs vs) :
    Calls Try.prog 22 #[.pointer (some ⟨p, 0, none⟩), .int .i64 x] w (PlaceBoth w gs x) := by
  have c0 := h.c0
  have hI := h.ints
  clear h
  go_enter Try.func22, Try.ntmps22
  go_wp2_with fail
  go_loop [5] (fun i => ∃ k : Nat, k ≤ gs.length ∧ i = .int .i64 k ∧ Hid (hasI (gs.take k) x = false)) (fun i => gs.length - (intOf i).toNat)
  case atStart => exact ⟨0, Nat.zero_le _, rfl, rfl⟩
  case round =>
    obtain ⟨k, hk, rfl, HA⟩ := hrel
    by_cases hlt : k < gs.length
    · obtain ⟨b, off, y, e, d0, HX⟩ := IntsAt.at' hI hlt
      cases e
      rw [Nat.zero_add] at d0
      by_cases hx : y = x
      · have HF : Hid (hasI gs x = true) := by show _ = _; rw [← hx]; exact contains_hit hlt HX.out
        have HY : Hid (gs.getD k 0 = x) := by show _ = _; rw [HX.out, hx]
        have h1 : (y == x) = true := by simp [hx]
        clear hx
        go_wp2
        go_ret
        exact .inl ⟨HF.out, k, hlt, HY.out, rfl, rfl⟩
      · have HR : Hid (hasI (gs.take (k + 1)) x = false) := hasI_take hlt HA.out HX.out (Ne.symm hx)
        have h1 : (y == x) = false := by simp [hx]
        clear hx
        go_wp2
        go_round
        case rel => exact ⟨k + 1, by omega, by go_num, HR⟩
        case measure => simp [intOf]; omega
    · have ek : k = gs.length := by omega
      have HF : Hid (hasI gs x = false) := by show _ = _; have := HA.out; rw [ek, List.take_length] at this; exact this
      clear ek
      go_wp2
      go_ret
      exact .inr ⟨HF.out, rfl, rfl⟩
theorem place_yes {base p g v ca cb : Nat} {gs : List Int} {vs : List (Int × Bool)} (x : Int) (hn : gs.length ≤ 1000000) (w : World) (h : RefAt w base p g v ca cb gs vs) (hx : hasI gs x = true) :
    Calls Try.prog 22 #[.pointer (some ⟨p, 0, none⟩), .int .i64 x] w (PlacePost w gs x) :=
  (place_both x hn w h).mono fun e w' hh => by
    rcases hh with ⟨_, h1⟩ | ⟨h1, _⟩
    · exact h1
    · rw [hx] at h1; cases h1
theorem place_no {base p g v ca cb : Nat} {gs : List Int} {vs : List (Int × Bool)} (x : Int) (hn : gs.length ≤ 1000000) (w : World) (h : RefAt w base p g v ca cb gs vs) (hx : hasI gs x = false) :
    Calls Try.prog 22 #[.pointer (some ⟨p, 0, none⟩), .int .i64 x] w fun e w' => e = .returned (.int .i64 (-1)) ∧ w = w' :=
  (place_both x hn w h).mono fun e w' hh => by
    rcases hh with ⟨h1, _⟩ | ⟨_, h1⟩
    · rw [hx] at h1; cases h1
    · exact h1

/-! ### Voted -/
theorem numV_two (vs : List (Int × Bool)) (x : Int) : (numV vs x == 2) = votedV vs x := by
  unfold numV
  by_cases h : hasV vs x = true
  · rw [if_pos h]; cases votedV vs x <;> simp
  · have : vs.find? (fun v => v.1 == x) = none := by
      rw [List.find?_eq_none]
      intro y hy hc
      exact h (List.any_eq_true.2 ⟨y, hy, hc⟩)
    rw [if_neg h]
    simp [votedV, this]
theorem numV_zero (vs : List (Int × Bool)) (x : Int) : (numV vs x != 0) = hasV vs x := by
  unfold numV
  cases h : hasV vs x
  · simp
  · cases votedV vs x <;> simp
theorem Tally.novote {gs : List Int} {vs : List (Int × Bool)} (ht : Tally gs vs) {x : Int} (hx : hasI gs x = false) : hasV vs x = false ∧ votedV vs x = false := by
  have h1 : hasV vs x = false := by
    cases h : hasV vs x
    · rfl
    · obtain ⟨v, hv, rfl⟩ := List.mem_map.1 (hasV_iff.1 h)
      have := List.contains_iff_mem.2 (ht.sub v hv)
      unfold hasI at hx
      rw [hx] at this
      cases this
  have : vs.find? (fun v => v.1 == x) = none := by
    rw [List.find?_eq_none]
    intro y hy hc
    have : hasV vs x = true := List.any_eq_true.2 ⟨y, hy, hc⟩
    rw [h1] at this
    cases this
  exact ⟨h1, by simp [votedV, this]⟩
theorem ret_two {w w' : World} {a b c d : Bool} (ha : c = a) (hb : d = b) (h : Below w.heap.size w w') : Ending.returned (.tuple #[.bool a, .bool b]) = .returned (.tuple #[.bool c, .bool d]) ∧ Below w.heap.size w w' := by
  subst ha hb; exact ⟨rfl, h⟩
set_option maxRecDepth 100000 in
theorem refVoted_any {base p g v ca cb : Nat} {gs : List Int} {vs : List (Int × Bool)} (x : Int) (hn : gs.length ≤ 1000000) (w : World) (h : RefAt w base p g v ca cb gs vs) (ht : Tally gs vs) :
    Calls Try.prog 14 #[.pointer (some ⟨p, 0, none⟩), .int .i64 x] w fun e w' => e = .returned (.tuple #[.bool (votedV vs x), .bool (hasV vs x)]) ∧ Below w.heap.size w w' := by
  have c1 := h.c1
  cases hx : hasI gs x
  · have HN := Lib.hid (ht.novote hx)
    have HX := Lib.hid hx
    clear hx
    go_enter Try.func14, Try.ntmps14
    go_wp2_with (go_at_call 22; refine (place_no x hn _ h HX.out).mono ?_; rintro e w1 ⟨rfl, rfl⟩)
    go_ret2
    exact ret_two HN.out.2 HN.out.1 (Below.refl _ _)
  · have HX := Lib.hid hx
    clear hx
    have H2 := Lib.hid (numV_two vs x)
    have H3 := Lib.hid (numV_zero vs x)
    have HR := Lib.hid h.nums
    go_enter Try.func14, Try.ntmps14
    go_wp2_with (go_at_call 22; refine (place_yes x hn _ h HX.out).mono ?_; rintro e w1 ⟨k, hk, hgk, rfl, rfl⟩; replace hgk := Lib.hid hgk)
    have hki : (k : Int) < (gs.length : Int) := by omega
    have hc := HR.out.cell hk
    rw [hgk.out] at hc
    obtain ⟨z, hz⟩ : ∃ z, Hid (numV vs x = z) := ⟨_, rfl⟩
    rw [hz.out] at hc
    go_quiet (fail)
    go_wp2
    go_ret2
    exact ret_two (by rw [← H2.out, hz.out]) (by rw [← H3.out, hz.out]) (below_drewN (Below.refl _ _) _)

/-! ### Put -/
theorem RefAt.put {w w' : World} {base p g v ca cb k : Nat} {gs : List Int} {vs : List (Int × Bool)} {x : Int} {y : Bool} (h : RefAt w base p g v ca cb gs vs) (ht : Tally gs vs) (hk : k < gs.length) (hgk : gs.getD k 0 = x) (hv : hasV vs x = false)
    (hg : w.grownBy w' (some v)) (hr : w'.rowIs v 3 gs.length fun j => if j = k then .int .i64 (if y then 2 else 1) else .int .i64 (numV vs (gs.getD j 0))) : RefAt w' base p g v ca cb gs (vs ++ [(x, y)]) := by
  have n1 : some p ≠ some v := fun e => h.n1 (by cases e; rfl)
  have n2 : some g ≠ some v := fun e => h.n2 (by cases e; rfl)
  refine ⟨hg.cell h.c0 n1, hg.cell h.c1 n1, fun i hi => ?_, hr.congr fun i hi => ?_, h.hp, h.hg, h.hv, h.n1, h.n2⟩
  · obtain ⟨b', off, e, hc⟩ := h.ints i hi
    cases e
    exact ⟨_, _, rfl, hg.cell hc n2⟩
  · by_cases e : i = k
    · subst e
      rw [if_pos rfl, hgk, numV_snoc_same y hv]
    · rw [if_neg e, numV_snoc_other]
      intro e2
      apply e
      have hn := ht.nodup
      rw [← hgk] at e2
      rw [List.getD_eq_getElem?_getD, List.getElem?_eq_getElem hk, List.getD_eq_getElem?_getD, List.getElem?_eq_getElem hi] at e2
      have e3 : gs[k] = gs[i] := e2
      rcases Nat.lt_trichotomy i k with hlt | heq | hlt
      · exact absurd e3.symm (List.pairwise_iff_getElem.1 hn i k hi hk hlt)
      · exact heq
      · exact absurd e3 (List.pairwise_iff_getElem.1 hn k i hk hi hlt)
def RefPut (w : World) (base p g v ca cb : Nat) (gs : List Int) (vs : List (Int × Bool)) (x : Int) (y : Bool) (e : Ending) (w' : World) : Prop :=
  e = .returned (.bool (mayPut gs vs x)) ∧ RefAt w' base p g v ca cb gs (putV gs vs x y) ∧ w.grownBy w' (some v)
theorem grown_set (w : World) (b k : Nat) (u : Value) : w.grownBy (w.setCell ⟨b, k, none⟩ u) (some b) :=
  ⟨rfl, rfl, rfl, by simp [World.setCell], fun i _ hi => Below.heap_setCell _ _ _ _ (fun e => hi (by rw [e]))⟩
set_option maxRecDepth 100000 in
set_option maxHeartbeats 1000000 in
theorem refPut_any {base p g v ca cb : Nat} {gs : List Int} {vs : List (Int × Bool)} (x : Int) (y : Bool) (hn : gs.length ≤ 1000000) (w : World) (h : RefAt w base p g v ca cb gs vs) (ht : Tally gs vs) :
    Calls Try.prog 11 #[.pointer (some ⟨p, 0, none⟩), .int .i64 x, .bool y] w (RefPut w base p g v ca cb gs vs x y) := by
  have c1 := h.c1
  cases hx : hasI gs x
  · have HM := Lib.hid (show mayPut gs vs x = false by rw [mayPut, show gs.contains x = false from hx]; rfl)
    have HX := Lib.hid hx
    clear hx
    go_enter Try.func11, Try.ntmps11
    go_wp2_with (go_at_call 22; refine (place_no x hn _ h HX.out).mono ?_; rintro e w1 ⟨rfl, rfl⟩)
    go_ret
    exact ⟨ret_bool16 HM.out, by rw [putV_no HM.out]; exact h, World.grownBy.refl _ _⟩
  · have HX := Lib.hid hx
    have HR := Lib.hid h.nums
    have H3 := Lib.hid (numV_zero vs x)
    have H4 := Lib.hid (show gs.contains x = true from hx)
    clear hx
    obtain ⟨z, hz⟩ : ∃ z, Hid (numV vs x = z) := ⟨_, rfl⟩
    by_cases hz0 : z = 0
    · have HV : Hid (hasV vs x = false) := by show _ = _; rw [← H3.out, hz.out, hz0]; rfl
      have HM : Hid (mayPut gs vs x = true) := by show _ = _; rw [mayPut, H4.out, HV.out]; rfl
      have HP : Hid (putV gs vs x y = vs ++ [(x, y)]) := by show _ = _; rw [putV, HM.out]; rfl
      subst hz0
      have HN1 : Hid (some p ≠ some v) := fun e => h.n1 (by cases e; rfl)
      cases y
      all_goals
        go_enter Try.func11, Try.ntmps11
        go_wp2_with (go_at_call 22; refine (place_yes x hn _ h HX.out).mono ?_; rintro e w1 ⟨k, hk, hgk, rfl, rfl⟩; replace hgk := Lib.hid hgk; have hc := HR.out.cell hk; have hf := HR.out.frozen k; rw [hgk.out, hz.out] at hc; have hki : (k : Int) < (gs.length : Int) := (by omega); have c1s : (w.setCell ⟨v, k, none⟩ (.int .i64 1)).cell? ⟨p, 1, none⟩ = some (.slice (some ⟨v, 0, none⟩) gs.length cb) := (grown_set w v k _).cell c1 HN1.out; have hcs : (w.setCell ⟨v, k, none⟩ (.int .i64 1)).cell? ⟨v, k, none⟩ = some (.int .i64 1) := World.cell?_setCell_same' _ _ _ (by rw [hc]; rfl))
        go_ret
      · exact ⟨ret_bool16 HM.out, by rw [HP.out]; exact h.put ht hk hgk.out HV.out (grown_set _ _ _ _) (HR.out.set k _), grown_set _ _ _ _⟩
      · have hg2 := (grown_set w v k (.int .i64 1)).trans (grown_set (w.setCell ⟨v, k, none⟩ (.int .i64 1)) v k (.int .i64 2))
        exact ⟨ret_bool16 HM.out, by rw [HP.out]; exact h.put ht hk hgk.out HV.out hg2 (((HR.out.set k _).set k _).congr fun i _ => by by_cases e : i = k <;> simp [e]), hg2⟩
    · have HV : Hid (hasV vs x = true) := by show _ = _; rw [← H3.out, hz.out]; simpa using hz0
      have HM : Hid (mayPut gs vs x = false) := by show _ = _; rw [mayPut, HV.out]; simp
      have q : (z != 0) = true := by simpa using hz0
      clear hz0
      go_enter Try.func11, Try.ntmps11
      go_wp2_with (go_at_call 22; refine (place_yes x hn _ h HX.out).mono ?_; rintro e w1 ⟨k, hk, hgk, rfl, rfl⟩; replace hgk := Lib.hid hgk; have hc := HR.out.cell hk; rw [hgk.out, hz.out] at hc; have hki : (k : Int) < (gs.length : Int) := (by omega))
      go_ret
      exact ⟨ret_bool16 HM.out, by rw [putV_no HM.out]; exact h, World.grownBy.refl _ _⟩

/-! ### Outcome -/
theorem any_take {l : List Int} {q : Int → Bool} {k : Nat} (hk : k < l.length) {y : Int} (hy : l.getD k 0 = y) : (l.take (k + 1)).any q = ((l.take k).any q || q y) := by
  rw [List.getD_eq_getElem?_getD, List.getElem?_eq_getElem hk] at hy
  simp only [Option.getD_some] at hy
  rw [List.take_succ_eq_append_getElem hk, hy]
  simp
theorem all_take {l : List Int} {q : Int → Bool} {k : Nat} (hk : k < l.length) {y : Int} (hy : l.getD k 0 = y) : (l.take (k + 1)).all q = ((l.take k).all q && q y) := by
  rw [List.getD_eq_getElem?_getD, List.getElem?_eq_getElem hk] at hy
  simp only [Option.getD_some] at hy
  rw [List.take_succ_eq_append_getElem hk, hy]
  simp
def oneTo (gs : List Int) (vs : List (Int × Bool)) (k : Nat) : Bool := (gs.take k).any fun g => numV vs g == 1
def twoTo (gs : List Int) (vs : List (Int × Bool)) (k : Nat) : Bool := (gs.take k).all fun g => numV vs g == 2
theorem any_of_take {l : List Int} {q : Int → Bool} {k : Nat} (h : (l.take k).any q = true) : l.any q = true := by
  obtain ⟨x, hx, hq⟩ := List.any_eq_true.1 h
  exact List.any_eq_true.2 ⟨x, List.mem_of_mem_take hx, hq⟩
set_option maxRecDepth 100000 in
set_option maxHeartbeats 1000000 in
theorem refOutcome_any {base p g v ca cb : Nat} {gs : List Int} {vs : List (Int × Bool)} (hn : gs.length ≤ 1000000) (w : World) (h : RefAt w base p g v ca cb gs vs) (ht : Tally gs vs) :
    Calls Try.prog 12 #[.pointer (some ⟨p, 0, none⟩)] w (OutPost w gs.length vs) := by
  have c1 := h.c1
  have HR := Lib.hid h.nums
  have HT := Lib.hid ht
  clear ht
  go_enter Try.func12, Try.ntmps12
  go_wp2_with fail
  go_loopw [4, 5] (fun a i wr => ∃ k : Nat, k ≤ gs.length ∧ i = .int .i64 k ∧ a = .bool (twoTo gs vs k) ∧ Hid (oneTo gs vs k = false) ∧ Below w.heap.size w wr) (fun _ i _ => gs.length - (intOf i).toNat)
  case atStart => exact ⟨0, Nat.zero_le _, rfl, rfl, rfl, Below.refl _ _⟩
  case round =>
    obtain ⟨k, hk, rfl, rfl, HA, hw⟩ := hrel
    have c1 := keep hw c1
    by_cases hlt : k < gs.length
    · obtain ⟨x, hx⟩ : ∃ x, Hid (gs.getD k 0 = x) := ⟨_, rfl⟩
      obtain ⟨z, hz⟩ : ∃ z, Hid (numV vs x = z) := ⟨_, rfl⟩
      have hc := keep hw (HR.out.cell hlt)
      rw [hx.out, hz.out] at hc
      have H1 : Hid (oneTo gs vs (k + 1) = (z == 1)) := by show _ = _; rw [oneTo, any_take hlt hx.out, show ((gs.take k).any fun g => numV vs g == 1) = false from HA.out, hz.out]; rfl
      have H2 : Hid (twoTo gs vs (k + 1) = (twoTo gs vs k && (z == 2))) := by show _ = _; rw [twoTo, all_take hlt hx.out, hz.out]; rfl
      obtain ⟨t, ht⟩ : ∃ t, Hid (twoTo gs vs k = t) := ⟨_, rfl⟩
      rw [ht.out]
      have hki : (k : Int) < (gs.length : Int) := by omega
      by_cases h1 : z = 1
      · have HN : Hid (anyNo vs = true) := by
          show _ = _
          rw [← HT.out.any_one]
          exact any_of_take (k := k + 1) (by have := H1.out; rw [oneTo] at this; rw [this, h1]; rfl)
        subst h1
        go_wp2
        go_ret2
        exact ret_out (by rw [outYes, HN.out]; rfl) (by rw [outKnown, HN.out]; rfl) hw
      · have H3 : Hid (oneTo gs vs (k + 1) = false) := by show _ = _; rw [H1.out]; simpa using h1
        have q1 : (z == 1) = false := by simpa using h1
        clear h1
        cases t
        all_goals
          go_wp2
          go_roundw
          case rel => exact ⟨k + 1, by omega, by go_num, by rw [H2.out, ht.out]; simp, H3, hw⟩
          case measure => simp [intOf]; omega
    · have ek : k = gs.length := by omega
      have HN : Hid (anyNo vs = false) := by show _ = _; rw [← HT.out.any_one]; have := HA.out; rw [oneTo, ek, List.take_length] at this; exact this
      have H2 : Hid (twoTo gs vs k = (vs.length == gs.length)) := by show _ = _; rw [← HT.out.all_two HN.out, twoTo, ek, List.take_length]
      obtain ⟨t, ht⟩ : ∃ t, Hid (twoTo gs vs k = t) := ⟨_, rfl⟩
      rw [ht.out]
      clear ek
      go_wp2
      go_ret2
      exact ret_out (by rw [outYes, HN.out, ← H2.out, ht.out]; rfl) (by rw [outKnown, HN.out, ← H2.out, ht.out]; rfl) hw

/-! ### New -/
theorem nodup_take {l : List Int} {k : Nat} (hk : k < l.length) (h : (l.take k).Nodup) (hn : ∀ j, j < k → l.getD j 0 ≠ l.getD k 0) : (l.take (k + 1)).Nodup := by
  rw [List.take_succ_eq_append_getElem hk, List.nodup_append]
  refine ⟨h, by simp, fun a ha b hb e => ?_⟩
  simp at hb
  obtain ⟨j, hj, hja⟩ := List.mem_iff_getElem.1 ha
  have hjk : j < k := by simp at hj; omega
  apply hn j hjk
  rw [List.getD_eq_getElem?_getD, List.getD_eq_getElem?_getD, List.getElem?_eq_getElem hk, List.getElem?_eq_getElem (by omega)]
  simp only [Option.getD_some]
  rw [← hb, ← e, ← hja]
  simp
theorem dup_at {l : List Int} {j k : Nat} (hjk : j < k) (hk : k < l.length) (h : l.getD j 0 = l.getD k 0) : ¬ l.Nodup := fun hn => by
  have := List.pairwise_iff_getElem.1 hn j k (by omega) hk hjk
  rw [List.getD_eq_getElem?_getD, List.getD_eq_getElem?_getD, List.getElem?_eq_getElem hk, List.getElem?_eq_getElem (by omega)] at h
  exact this h
theorem below_of_grown {w w' : World} (h : w.grownBy w' none) : Below w.heap.size w w' := ⟨h.os, h.tape, h.output, h.size, fun i hi => h.block i hi (by simp)⟩
theorem ints_cells {w : World} {b off : Nat} {l : List Int} (hI : IntsAt w (some ⟨b, off, none⟩) l) : ∀ j u, (l.map (Value.int .i64))[j]? = some u → w.cell? ((⟨b, off, none⟩ : Addr).add j) = some u := by
  intro j u hj
  have hj' : j < l.length := by
    have := (List.getElem?_eq_some_iff.1 hj).1
    simpa using this
  obtain ⟨b', off', e, hc⟩ := hI j hj'
  cases e
  rw [Go.WideShapes.add_plain, hc, ← hj]
  simp [List.getD_eq_getElem?_getD, hj']
theorem ints_one (l : List Int) : ∀ u ∈ l.map (Value.int .i64), u.oneCell' = true := by
  intro u hu; obtain ⟨x, _, rfl⟩ := List.mem_map.1 hu; rfl
theorem some_ne {a b : Nat} (h : a ≠ b) : some a ≠ some b := fun e => h (by simpa using e)
def okNew (gs : List Int) : Bool := decide (0 < gs.length) && decide gs.Nodup
def RefNewPost (w : World) (gs : List Int) (e : Ending) (w' : World) : Prop := (okNew gs = false ∧ e = .returned (.pointer none) ∧ Below w.heap.size w w') ∨ (okNew gs = true ∧ ∃ p g v ca cb, e = .returned (.pointer (some ⟨p, 0, none⟩)) ∧ RefAt w' w.heap.size p g v ca cb gs [] ∧ Below w.heap.size w w')
set_option maxRecDepth 100000 in
set_option maxHeartbeats 2000000 in
theorem refNew_any (gs : List Int) (A : Option Addr) (cap : Nat) (w : World) (hA : IntsAt w A gs) (hn : gs.length ≤ 1000) :
    Calls Try.prog 10 #[.slice A gs.length cap] w (RefNewPost w gs) := by
  obtain ⟨i0, hi, hz0, hz1, hz2⟩ := info_parts info_int
  have hmk := fun n (h : n ≤ 1000) => run_make_row' (P := Try.prog) 25 3 (.int .i64 0) 8 Try.underlying25 info_int rfl .i64 .i64 n (by omega) (by omega)
  have HMK := Lib.hid (hmk gs.length hn)
  clear hmk
  go_enter Try.func10, Try.ntmps10
  go_wp2_with fail
  go_loopw [3] (fun i wr => ∃ k : Nat, k ≤ gs.length ∧ i = .int .i64 k ∧ Hid ((gs.take k).Nodup) ∧ Below w.heap.size w wr) (fun i _ => gs.length - (intOf i).toNat)
  case atStart => exact ⟨0, Nat.zero_le _, rfl, (by show List.Nodup _; simp), Below.refl _ _⟩
  case round =>
    obtain ⟨k, hk, rfl, HA, hw⟩ := hrel
    obtain ⟨wa, rfl⟩ : ∃ wa : World, wa = wr := ⟨_, rfl⟩
    by_cases hlt : k < gs.length
    · go_wp2_with fail
      go_loopw [4] (fun i wr => ∃ j : Nat, j ≤ k ∧ i = .int .i64 j ∧ Hid (∀ m, m < j → gs.getD m 0 ≠ gs.getD k 0) ∧ Below w.heap.size w wr) (fun i _ => k - (intOf i).toNat)
      case atStart => exact ⟨0, Nat.zero_le _, rfl, fun m hm => absurd hm (Nat.not_lt_zero _), hw⟩
      case round =>
        obtain ⟨j, hj, rfl, HJ, hwj⟩ := hrel
        by_cases hjk : j < k
        · obtain ⟨b, off, x, rfl, d0, HX⟩ := IntsAt.at' (CellsAt.later hA hwj) (show j < gs.length by omega)
          obtain ⟨b', off', y, e, d1, HY⟩ := IntsAt.at' (CellsAt.later hA hwj) hlt
          injection e with e
          injection e with f1 f2
          subst f1 f2
          have hki : (k : Int) < (gs.length : Int) := by omega
          have hji : (j : Int) < (gs.length : Int) := by omega
          by_cases hxy : x = y
          · have HD : Hid (okNew gs = false) := by show _ = _; rw [okNew, decide_eq_false (dup_at hjk hlt (by rw [HX.out, HY.out, hxy]))]; simp
            have q : (x == y) = true := by simp [hxy]
            clear hxy
            go_wp2
            go_quiet (fail)
            go_wp2
            go_ret
            exact .inl ⟨HD.out, rfl, below_drewN hwj _⟩
          · have HJ2 : Hid (∀ m, m < j + 1 → gs.getD m 0 ≠ gs.getD k 0) := fun m hm => by
              by_cases e : m = j
              · subst e; rw [HX.out, HY.out]; exact hxy
              · exact HJ.out m (by omega)
            have q : (x == y) = false := by simp [hxy]
            clear hxy
            go_wp2
            go_quiet (fail)
            go_wp2
            go_roundw
            case rel => exact ⟨j + 1, by omega, by go_num, HJ2, below_drewN hwj _⟩
            case measure => simp [intOf]; omega
        · have ej : j = k := by omega
          have HN : Hid ((gs.take (k + 1)).Nodup) := nodup_take hlt HA.out (fun m hm => HJ.out m (by omega))
          clear ej
          go_wp2
          go_roundw
          case rel => exact ⟨k + 1, by omega, by go_num, HN, hwj⟩
          case measure => simp [intOf]; omega
    · have ek : k = gs.length := by omega
      have HN : Hid (gs.Nodup) := by show List.Nodup _; have := HA.out; rw [ek, List.take_length] at this; exact this
      clear ek
      by_cases h0 : 0 < gs.length
      · have q0 : ((gs.length : Int) == 0) = false := by rw [beq_eq_false_iff_ne]; omega
        have HOK : Hid (okNew gs = true) := by show _ = _; rw [okNew, decide_eq_true h0, decide_eq_true HN.out]; rfl
        have hmk := HMK.out
        obtain ⟨b, off, rfl, _⟩ := (CellsAt.later hA hw) 0 h0
        have HI := Lib.hid hA
        clear hA
        go_wp2_with (at_builtin; refine wpList_append_own _ rfl _ _ 25 rfl (wa.heap.size + 1) 3 i0 (.int .i64 0) 1 8 Try.underlying25 hi hz0 hz1 hz2 rfl (by decide) _ _ _ rfl (World.ownsRow_nil _ _ _ _) ⟨b, off, none⟩ gs.length cap (gs.map (Value.int .i64)) rfl (by simp) (ints_cells (CellsAt.later (CellsAt.later HI.out hw) (below1 _ _))) (ints_one gs) (le_maxLen (by omega)) (by omega) (by simp) ?_)
        intro v3 w3 HO3 hg3 _
        obtain ⟨g, cg, e3, _⟩ := World.ownsRow.form HO3 h0
        rw [e3] at HO3 ⊢
        clear e3
        have hb3 : Below (wa.alloc (.cells #[.slice none 0 0, .slice none 0 0] 52)).heap.size (wa.alloc (.cells #[.slice none 0 0, .slice none 0 0] 52)) w3 := below_of_grown hg3
        have s0 : w3.cell? ⟨wa.heap.size, 0, none⟩ = some (.slice none 0 0) := keep hb3 (by simp)
        have s1 : w3.cell? ⟨wa.heap.size, 1, none⟩ = some (.slice none 0 0) := keep hb3 (by simp)
        have f0 : w3.frozen? ⟨wa.heap.size, 0, none⟩ = false := (hb3.frozen (p := ⟨wa.heap.size, 0, none⟩) (by simp)).trans (by simp)
        have f1 : w3.frozen? ⟨wa.heap.size, 1, none⟩ = false := (hb3.frozen (p := ⟨wa.heap.size, 1, none⟩) (by simp)).trans (by simp)
        have hs3 : wa.heap.size + 1 ≤ w3.heap.size := by have := hb3.size; simpa using this
        have hge : wa.heap.size + 1 ≤ g := own_ge HO3 g rfl
        have hlg : g < w3.heap.size := (HO3.lt g rfl).2
        obtain ⟨A5, cap5, e5, _, hI5⟩ := own_ints HO3
        cases e5
        have hp3 : wa.heap.size < w3.heap.size := by omega
        obtain ⟨W4, eW4⟩ : ∃ W4, (w3.setCell ⟨wa.heap.size, 0, none⟩ (.slice (some ⟨g, 0, none⟩) gs.length cg)).alloc (.cells (madeCells #[.int .i64 0] gs.length) 3) = W4 := ⟨_, rfl⟩
        have t1 : W4.cell? ⟨wa.heap.size, 1, none⟩ = some (.slice none 0 0) := by rw [← eW4]; simp [go_sem, s1, hp3]
        have t0 : W4.cell? ⟨wa.heap.size, 0, none⟩ = some (.slice (some ⟨g, 0, none⟩) gs.length cg) := by rw [← eW4]; exact keepA _ (World.cell?_setCell_same' _ _ _ (by rw [s0]; rfl))
        have u1 : W4.frozen? ⟨wa.heap.size, 1, none⟩ = false := by rw [← eW4]; simp [go_sem, f1, hp3]
        have hI6 : IntsAt W4 (some ⟨g, 0, none⟩) gs := by
          rw [← eW4]
          refine CellsAt.later (fun i hi => ?_) (below1 _ _)
          obtain ⟨b', off', e, hc⟩ := hI5 i hi
          cases e
          exact ⟨_, _, rfl, (grown_set w3 wa.heap.size 0 _).cell hc (some_ne (a := g) (by omega))⟩
        have hr : W4.rowIs w3.heap.size 3 gs.length (fun i => .int .i64 (numV [] (gs.getD i 0))) := by
          rw [← eW4]
          have := World.rowIs_made (w3.setCell ⟨wa.heap.size, 0, none⟩ (.slice (some ⟨g, 0, none⟩) gs.length cg)) (.int .i64 0) gs.length 3
          rw [show (w3.setCell ⟨wa.heap.size, 0, none⟩ (.slice (some ⟨g, 0, none⟩) gs.length cg)).heap.size = w3.heap.size by simp [World.setCell]] at this
          exact this.congr fun i _ => by simp [numV, hasV]
        have hB4 : Below w.heap.size w W4 := by
          rw [← eW4]
          exact (((keepB (keepB hw (below1 _ _)) hb3).setCell (by simp; exact hw.size) _).alloc (by have := hw.size; simp [World.setCell]; omega) _)
        have hS4 : w3.heap.size < W4.heap.size := by rw [← eW4]; simp [World.setCell]
        clear hI5 HO3 hg3 hmk
        have hmk := HMK.out
        go_wp2
        go_ret
        refine .inr ⟨HOK.out, wa.heap.size, g, w3.heap.size, cg, gs.length, rfl, ?_, ?_⟩
        · have hne : ∀ {q : Nat}, q ≠ wa.heap.size → some q ≠ some wa.heap.size := fun h e => h (by simpa using e)
          have hg5 := grown_set W4 wa.heap.size 1 (.slice (some ⟨w3.heap.size, 0, none⟩) gs.length gs.length)
          have hws := hw.size
          refine ⟨?_, World.cell?_setCell_same' _ _ _ (by rw [t1]; rfl), fun i hi => ?_, rowIs_grown hr hg5 (hne (by omega)), by omega, by omega, by omega, by omega, by omega⟩
          · have hnn : (⟨wa.heap.size, 1, none⟩ : Addr) ≠ ⟨wa.heap.size, 0, none⟩ := by simp
            rw [World.cell?_setCell_other (h := hnn)]; exact t0
          · obtain ⟨b', off', e, hc⟩ := hI6 i hi
            cases e
            exact ⟨_, _, rfl, hg5.cell hc (hne (q := g) (by omega))⟩
        · exact hB4.setCell hw.size _
      · have q0 : ((gs.length : Int) == 0) = true := by rw [beq_iff_eq]; omega
        have HOK : Hid (okNew gs = false) := by show _ = _; rw [okNew, decide_eq_false h0]; rfl
        clear h0
        go_wp2
        go_ret
        exact .inl ⟨HOK.out, rfl, hw⟩
end Go.Proofs.Ytboiafchmdflpaa
