/- certify's Tally: New, Put, Outcome and Voted, in the words of the votes that have come. -/
import Derived.Test.YtboiafchmdflpaaDoorNew16
import Derived.Maps.RangeWalk
import Derived.Maps.OwnSet
import Derived.Deep.AppendLies
namespace Go.Proofs.YtboiafchmdflpaaDoor
open Go.RowKit Go.Shelf Go.Maps

/-! ### Maps of bools: a look-up with 'ok' -/
theorem plainElem_bool_inv {H : Type} {P : Program} {e : TypeId} (he : P.underlying e = some .bool) {v : Value} {z : DataW H × List MemPlace} (h : plainElem P e v = some z) : ∃ a, v = .bool a ∧ z = (.lit (.bool a), []) := by
  unfold plainElem at h
  rw [he] at h
  cases v <;> simp at h
  exact ⟨_, rfl, h.symm⟩
theorem wpList_lookup_own_ok_bool {H : Type} {P : Program} (w : World) {ops : Array Oper} {rest : List Oper} {o : Oper} {a : Act} {Q : Exit → Act → World → Prop} (hg : o.guard = none) (m x : Operand) (t : TypeId) (hop : o.op = Op.lookup t m x true)
    (k e : TypeId) (K : Keyed P k) (ht : P.underlying t = some (.map k e)) (he : P.underlying e = some .bool) (hz : (zeroValue e).run P w = .ok (.bool false) w) (b n : Nat) (D : DataW H)
    (hm : a.eval m = .map (some b)) (hown : w.ownsMap P k (plainElem P e) b n D) (key : Value) (kl : Lit) (hx : a.eval x = key) (hkey : keyOf P k key = some kl) (V O : Bool)
    (hV : ∀ c : Bool, D.atKey kl (.lit (.bool false)) = .lit (.bool c) → c = V) (hO : Maps.has D kl = O)
    (hK : wpList P ops Q rest (a.put o.dst (.tuple #[.bool V, .bool O])) w) :
    wpList P ops Q (o :: rest) a w :=
  wpList_lookup_own_ok w hg m x t hop k e K ht (plainElem P e) hz (.lit (.bool false)) [] (plainElem_bool he false) b n D hm hown key kl hx hkey (fun v ps hv => by
    obtain ⟨c, rfl, hc⟩ := plainElem_bool_inv he hv
    rw [hO, hV c (congrArg Prod.fst hc)]
    exact hK)

/-! ### The votes' map, as a datum -/
def putD (D : DataW Unit) (v : Int × Bool) : DataW Unit := D.put (.int .i64 v.1) (.lit (.bool v.2))
def putsD (vs : List (Int × Bool)) : DataW Unit := vs.foldl putD (.map [])
theorem putsD_snoc (vs : List (Int × Bool)) (g : Int) (y : Bool) : putsD (vs ++ [(g, y)]) = (putsD vs).put (.int .i64 g) (.lit (.bool y)) := by
  simp [putsD, putD, List.foldl_append]
theorem has_foldD (g : Int) : ∀ (vs : List (Int × Bool)) (D : DataW Unit), IsMap D → Maps.has (vs.foldl putD D) (.int .i64 g) = (Maps.has D (.int .i64 g) || hasV vs g)
  | [], D, _ => by simp [hasV]
  | v :: vs, D, hD => by
    rw [List.foldl_cons, has_foldD g vs (putD D v) (hD.put _ _)]
    by_cases e : v.1 = g
    · have : Maps.has (putD D v) (.int .i64 g) = true := by rw [putD, e]; exact has_put_same (k := .int .i64 g) hD trivial _
      rw [this]
      simp [hasV, e]
    · have : Maps.has (putD D v) (.int .i64 g) = Maps.has D (.int .i64 g) := has_put_other (fun h => e (by injection h with _ h; exact h.symm)) _
      have e' : (v.1 == g) = false := by simp [e]
      rw [this]
      simp only [hasV, List.any_cons, e', Bool.false_or]
theorem has_putsD (vs : List (Int × Bool)) (g : Int) : Maps.has (putsD vs) (.int .i64 g) = hasV vs g := by
  rw [putsD, has_foldD g vs _ isMap_empty]; simp [Maps.has]
theorem at_foldD (g : Int) (z : DataW Unit) : ∀ (vs : List (Int × Bool)) (D : DataW Unit), IsMap D → (vs.map (·.1)).Nodup → (vs.foldl putD D).atKey (.int .i64 g) z = if hasV vs g then .lit (.bool (votedV vs g)) else D.atKey (.int .i64 g) z
  | [], D, _, _ => by simp [hasV]
  | v :: vs, D, hD, hn => by
    simp only [List.map_cons, List.nodup_cons] at hn
    rw [List.foldl_cons, at_foldD g z vs (putD D v) (hD.put _ _) hn.2]
    by_cases e : v.1 = g
    · have h1 : hasV vs g = false := by
        cases h : hasV vs g
        · rfl
        · exact absurd (e ▸ hasV_iff.1 h) hn.1
      have h2 : (putD D v).atKey (.int .i64 g) z = .lit (.bool v.2) := by rw [putD, e]; exact atKey_put_same (k := .int .i64 g) hD trivial _ _
      rw [h1, h2]
      simp [hasV, votedV, e]
    · have h2 : (putD D v).atKey (.int .i64 g) z = D.atKey (.int .i64 g) z := atKey_put_other (fun h => e (by injection h with _ h; exact h.symm)) _ _
      rw [h2]
      have e' : (v.1 == g) = false := by simp [e]
      have e2 : votedV (v :: vs) g = votedV vs g := by simp only [votedV, List.find?_cons, e']
      have e3 : hasV (v :: vs) g = hasV vs g := by simp only [hasV, List.any_cons, e', Bool.false_or]
      rw [e2, e3]
theorem at_putsD {vs : List (Int × Bool)} (hn : (vs.map (·.1)).Nodup) (g : Int) (z : DataW Unit) : (putsD vs).atKey (.int .i64 g) z = if hasV vs g then .lit (.bool (votedV vs g)) else z := by
  rw [putsD, at_foldD g z vs _ isMap_empty hn]
  simp [DataW.atKey]
theorem voted_of_at {vs : List (Int × Bool)} (hn : (vs.map (·.1)).Nodup) (g : Int) (c : Bool) (h : (putsD vs).atKey (.int .i64 g) (.lit (.bool false)) = .lit (.bool c)) : c = votedV vs g := by
  rw [at_putsD hn] at h
  by_cases hh : hasV vs g = true
  · rw [if_pos hh] at h
    injection h with h
    injection h with h
    exact h.symm
  · rw [if_neg hh] at h
    injection h with h
    injection h with h
    subst h
    have : vs.find? (fun v => v.1 == g) = none := by
      rw [List.find?_eq_none]
      intro x hx hc
      exact hh (List.any_eq_true.2 ⟨x, hx, hc⟩)
    simp [votedV, this]
theorem size_foldD : ∀ (vs : List (Int × Bool)) (D : DataW Unit), Tidy D → (vs.map (·.1)).Nodup → (∀ v ∈ vs, Maps.has D (.int .i64 v.1) = false) → Maps.size (vs.foldl putD D) = Maps.size D + vs.length
  | [], D, _, _, _ => by simp
  | v :: vs, D, hD, hn, hh => by
    simp only [List.map_cons, List.nodup_cons] at hn
    rw [List.foldl_cons, size_foldD vs (putD D v) (hD.put (k := .int .i64 v.1) trivial _) hn.2 (fun u hu => by
      have hne : (Lit.int .i64 u.1) ≠ .int .i64 v.1 := fun h => hn.1 (by injection h with _ h; exact List.mem_map.2 ⟨u, hu, h⟩)
      rw [putD, has_put_other hne]
      exact hh u (List.mem_cons_of_mem _ hu))]
    have h0 := hh v List.mem_cons_self
    have h1 : Maps.size (putD D v) = Maps.size D + 1 := by rw [putD, size_put hD, h0]; rfl
    rw [h1, List.length_cons]
    omega
theorem size_putsD {vs : List (Int × Bool)} (hn : (vs.map (·.1)).Nodup) : Maps.size (putsD vs) = vs.length := by
  rw [putsD, size_foldD vs _ tidy_empty hn (fun v _ => by simp [Maps.has])]
  simp [Maps.size]

/-! ### How a tally lies in memory -/
structure TalAt (w : World) (base p g b cap : Nat) (gs : List Int) (vs : List (Int × Bool)) : Prop where
  c0 : w.cell? ⟨p, 0, none⟩ = some (.slice (some ⟨g, 0, none⟩) gs.length cap)
  c1 : w.cell? ⟨p, 1, none⟩ = some (.map (some b))
  ints : IntsAt w (some ⟨g, 0, none⟩) gs
  own : w.ownsMap Tryd.prog 3 (plainElem (H := Unit) Tryd.prog 4) b vs.length (putsD vs)
  hp : base ≤ p
  hg : base ≤ g
  hb : base ≤ b
  n1 : b ≠ p
  n2 : b ≠ g
theorem TalAt.grown {w w' : World} {base p g b cap : Nat} {gs : List Int} {vs : List (Int × Bool)} {row : Option Nat} (h : TalAt w base p g b cap gs vs) (hg : w.grownBy w' row) (h1 : some p ≠ row) (h2 : some g ≠ row) (h3 : some b ≠ row) : TalAt w' base p g b cap gs vs := by
  refine ⟨hg.cell h.c0 h1, hg.cell h.c1 h1, fun i hi => ?_, h.own.kept hg h3, h.hp, h.hg, h.hb, h.n1, h.n2⟩
  obtain ⟨b', off, e, hc⟩ := h.ints i hi
  cases e
  exact ⟨_, _, rfl, hg.cell hc h2⟩
theorem grown_of_below {w w' : World} (h : Below w.heap.size w w') : w.grownBy w' none := ⟨h.os, h.tape, h.output, h.size, fun i hi _ => h.block i hi⟩
theorem TalAt.later {w w' : World} {base p g b cap : Nat} {gs : List Int} {vs : List (Int × Bool)} (h : TalAt w base p g b cap gs vs) (hb : Below w.heap.size w w') : TalAt w' base p g b cap gs vs :=
  h.grown (grown_of_below hb) (by simp) (by simp) (by simp)
theorem TalAt.put {w w' : World} {base p g b cap : Nat} {gs : List Int} {vs : List (Int × Bool)} {x : Int} {y : Bool} (h : TalAt w base p g b cap gs vs) (hg : w.grownBy w' (some b))
    (ho : w'.ownsMap Tryd.prog 3 (plainElem (H := Unit) Tryd.prog 4) b (vs.length + 1) ((putsD vs).put (.int .i64 x) (.lit (.bool y)))) : TalAt w' base p g b cap gs (vs ++ [(x, y)]) := by
  have n1 : some p ≠ some b := fun e => h.n1 (by cases e; rfl)
  have n2 : some g ≠ some b := fun e => h.n2 (by cases e; rfl)
  refine ⟨hg.cell h.c0 n1, hg.cell h.c1 n1, fun i hi => ?_, ?_, h.hp, h.hg, h.hb, h.n1, h.n2⟩
  · obtain ⟨b', off, e, hc⟩ := h.ints i hi
    cases e
    exact ⟨_, _, rfl, hg.cell hc n2⟩
  · rw [putsD_snoc, List.length_append]
    exact ho
def NewPost (w : World) (gs : List Int) (e : Ending) (w' : World) : Prop := ∃ p g b cap, e = .returned (.pointer (some ⟨p, 0, none⟩)) ∧ TalAt w' w.heap.size p g b cap gs [] ∧ Below w.heap.size w w'
set_option maxRecDepth 100000 in
set_option maxHeartbeats 1000000 in
theorem new_ok (gs : List Int) (b off ca : Nat) (w : World) (hA : IntsAt w (some ⟨b, off, none⟩) gs) (hn : gs.length ≤ 1000000) (h0 : 0 < gs.length) (hd : gs.Nodup) :
    Calls Tryd.prog 46 #[.slice (some ⟨b, off, none⟩) gs.length ca] w (NewPost w gs) := by
  have q0 : ((gs.length : Int) == 0) = false := by rw [beq_eq_false_iff_ne]; omega
  have q1 : decide ((Lib.compact (sorted gs)).length < gs.length) = false := decide_eq_false (compact_nodup hd)
  have hmm := @run_makeMap Tryd.prog
  clear hd
  go_enter Tryd.func46, Tryd.ntmps46
  go_wp2_with (first
    | (go_at_call 79; refine (values16 _ _ _ _).mono ?_; rintro e w1 ⟨rfl, HB, hs, hc⟩)
    | (go_at_call 78; refine (sorted16 w.heap.size (.slice (some ⟨b, off, none⟩) gs.length ca) gs hn _ hs hc (IntsIn.of (CellsAt.later hA HB))).mono ?_; rintro e w2 ⟨A2, c2, rfl, hown, hb⟩)
    | (go_at_call 80; refine (compact16 _ _ (sorted gs) _ (by rw [sorted_length]; rw [sorted_length] at hown; exact hown) (by rw [sorted_length]; exact hn)).mono ?_; rintro e w3 ⟨A3, c3, rfl, hg⟩; have HB3 := keepB HB (own_below hb (Nat.le_refl _) hown hg))
    | (go_at_call 81; refine (clone16_any gs b off ca _ (CellsAt.later hA HB3) hn).mono ?_; rintro e w4 h4; obtain ⟨A4, c4, rfl, hown4, hb4⟩ := OwnPost.slice h4))
  obtain ⟨g, cap, e4, _⟩ := World.ownsRow.form hown4 h0
  cases e4
  have HB4 := keepB HB3 hb4
  have hge : w3.heap.size ≤ g := own_ge hown4 g rfl
  have hlt : g < w4.heap.size := (hown4.lt g rfl).2
  have hsz3 := HB3.size
  have hsz4 := hb4.size
  obtain ⟨A5, cap5, e5, _, hI5⟩ := own_ints hown4
  cases e5
  go_ret
  refine ⟨w4.heap.size + 1, g, w4.heap.size, c4, rfl, ?_, ?_⟩
  · have hI6 : IntsAt ((w4.alloc (.map #[] 0)).alloc (.cells #[.slice (some ⟨g, 0, none⟩) gs.length c4, .map (some w4.heap.size)] 138)) (some ⟨g, 0, none⟩) gs := CellsAt.later (CellsAt.later hI5 (below1 _ _)) (below1 _ _)
    refine ⟨by simp [go_sem], by simp [go_sem], hI6, ((World.ownsMap_made w4 _ _ _).alloc _), by omega, by omega, by omega, by omega, by omega⟩
  · exact keepB HB4 (below2 _ _ _)

theorem keyI : Keyed Tryd.prog 3 := int_keyed Tryd.underlying3
theorem zeroB (w : World) : (zeroValue 4).run Tryd.prog w = .ok (.bool false) w := by kernel_rfl

/-! ### Put -/
def PutPost (w : World) (base p g b cap : Nat) (gs : List Int) (vs : List (Int × Bool)) (x : Int) (y : Bool) (e : Ending) (w' : World) : Prop :=
  e = .returned (.bool (mayPut gs vs x)) ∧ TalAt w' base p g b cap gs (putV gs vs x y) ∧ w.grownBy w' (some b)
theorem putV_no {gs : List Int} {vs : List (Int × Bool)} {x : Int} {y : Bool} (h : mayPut gs vs x = false) : putV gs vs x y = vs := by simp [putV, h]
set_option maxRecDepth 100000 in
set_option maxHeartbeats 1000000 in
theorem put_any {base p g b cap : Nat} {gs : List Int} {vs : List (Int × Bool)} (x : Int) (y : Bool) (hx0 : -9223372036854775808 ≤ x) (hx1 : x ≤ 9223372036854775807) (hn : gs.length ≤ 1000000) (w : World) (h : TalAt w base p g b cap gs vs) (ht : Tally gs vs) :
    Calls Tryd.prog 48 #[.pointer (some ⟨p, 0, none⟩), .int .i64 x, .bool y] w (PutPost w base p g b cap gs vs x y) := by
  have c0 := h.c0
  have c1 := h.c1
  have hI := h.ints
  have hown := h.own
  have hle := ht.le
  cases hg : hasI gs x
  · have HM := Lib.hid (show mayPut gs vs x = false by rw [mayPut, show gs.contains x = false from hg]; rfl)
    go_enter Tryd.func48, Tryd.ntmps48
    go_wp2_with (go_at_call 82; refine (contains16_any gs _ cap x _ hI hn).mono ?_; rintro e w1 ⟨rfl, rfl⟩)
    go_ret
    exact ⟨ret_bool16 HM.out, by rw [putV_no HM.out]; exact h, World.grownBy.refl _ _⟩
  · cases hv : hasV vs x
    · have hm : mayPut gs vs x = true := by rw [mayPut, show gs.contains x = true from hg, hv]; rfl
      have HM := Lib.hid hm
      have HV := Lib.hid (show putV gs vs x y = vs ++ [(x, y)] by simp [putV, hm])
      have HH := Lib.hid hv
      clear hm hv
      go_enter Tryd.func48, Tryd.ntmps48
      go_wp2_with (first
        | (go_at_call 82; refine (contains16_any gs _ cap x _ hI hn).mono ?_; rintro e w1 ⟨rfl, rfl⟩)
        | (at_lookup; refine wpList_lookup_own_ok_bool _ rfl _ _ 136 rfl 3 4 keyI Tryd.underlying136 Tryd.underlying4 (zeroB _) b _ _ rfl (by first | exact hown | exact hown.alloc _) _ _ rfl (keyOf_int_mk Tryd.underlying3 (WalkArith.wf_i64 ⟨hx0, hx1⟩)) (votedV vs x) false (fun c hc => voted_of_at ht.keys x c hc) ((has_putsD vs x).trans HH.out) ?_)
        | (at_mapUpdate; refine wpList_mapUpdate_own _ rfl _ _ _ 136 rfl 3 4 keyI Tryd.underlying136 _ b _ _ rfl (by first | exact hown | exact hown.alloc _) (by unfold maxLen; omega) _ _ _ rfl rfl (keyOf_int_mk Tryd.underlying3 (WalkArith.wf_i64 ⟨hx0, hx1⟩)) _ [] (plainElem_bool Tryd.underlying4 y) ?_; intro w2 hown2 hgr2))
      go_ret
      exact ⟨ret_bool16 HM.out, by rw [HV.out]; exact h.put hgr2 hown2, hgr2⟩
    · have HM := Lib.hid (show mayPut gs vs x = false by simp [mayPut, hv])
      have HH := Lib.hid hv
      clear hv
      go_enter Tryd.func48, Tryd.ntmps48
      go_wp2_with (first
        | (go_at_call 82; refine (contains16_any gs _ cap x _ hI hn).mono ?_; rintro e w1 ⟨rfl, rfl⟩)
        | (at_lookup; refine wpList_lookup_own_ok_bool _ rfl _ _ 136 rfl 3 4 keyI Tryd.underlying136 Tryd.underlying4 (zeroB _) b _ _ rfl (by first | exact hown | exact hown.alloc _) _ _ rfl (keyOf_int_mk Tryd.underlying3 (WalkArith.wf_i64 ⟨hx0, hx1⟩)) (votedV vs x) true (fun c hc => voted_of_at ht.keys x c hc) ((has_putsD vs x).trans HH.out) ?_))
      go_ret
      exact ⟨ret_bool16 HM.out, by rw [putV_no HM.out]; exact h, World.grownBy.refl _ _⟩
theorem put_nil (x : Int) (y : Bool) (w : World) : Calls Tryd.prog 48 #[.pointer none, .int .i64 x, .bool y] w fun e w' => e = .returned (.bool false) ∧ Below w.heap.size w w' := by
  go_enter Tryd.func48, Tryd.ntmps48
  go_wp2
  go_ret
  exact ⟨rfl, Below.refl _ _⟩
theorem outcome_nil (w : World) : Calls Tryd.prog 47 #[.pointer none] w fun e w' => e = .returned (.tuple #[.bool false, .bool false]) ∧ Below w.heap.size w w' := by
  go_enter Tryd.func47, Tryd.ntmps47
  go_wp2
  go_ret2
  exact ⟨rfl, Below.refl _ _⟩

/-! ### Outcome -/
/-- All votes that have come up so far are 'yes'. -/
def GoneYes (vs : List (Int × Bool)) (left : Lit → Bool) : Prop := ∀ v ∈ vs, left (.int .i64 v.1) = false → v.2 = true
theorem GoneYes.start (vs : List (Int × Bool)) : GoneYes vs (Maps.has (putsD vs)) := fun v hv h => by
  rw [has_putsD, hasV_iff.2 (List.mem_map.2 ⟨v, hv, rfl⟩)] at h
  cases h
theorem entry_of {vs : List (Int × Bool)} (hn : (vs.map (·.1)).Nodup) {x : Int} {c : Bool} (h : ∀ zd, (putsD vs).atKey (.int .i64 x) zd = .lit (.bool c)) : ∃ v ∈ vs, v.1 = x ∧ v.2 = c := by
  have h1 := h .nil
  rw [at_putsD hn] at h1
  by_cases hh : hasV vs x = true
  · obtain ⟨v, hv, rfl⟩ := List.mem_map.1 (hasV_iff.1 hh)
    rw [if_pos hh] at h1
    injection h1 with h1
    injection h1 with h1
    exact ⟨v, hv, rfl, by rw [← votedV_of_mem hn hv]; exact h1⟩
  · rw [if_neg hh] at h1
    cases h1
theorem GoneYes.step {vs : List (Int × Bool)} (hn : (vs.map (·.1)).Nodup) {left : Lit → Bool} (hg : GoneYes vs left) {x : Int} (h : ∀ zd, (putsD vs).atKey (.int .i64 x) zd = .lit (.bool true)) : GoneYes vs (fun z => left z && !z.sameKey (.int .i64 x)) := fun v hv hl => by
  by_cases e : v.1 = x
  · obtain ⟨u, hu, hu1, hu2⟩ := entry_of hn h
    have h1 := votedV_of_mem hn hv
    have h2 := votedV_of_mem hn hu
    rw [← h1, e, ← hu1, h2]
    exact hu2
  · refine hg v hv ?_
    have : (Lit.int .i64 v.1).sameKey (.int .i64 x) = false := sameKey_ne (fun h => e (by injection h))
    simpa [this] using hl
theorem GoneYes.end {vs : List (Int × Bool)} {left : Lit → Bool} (hg : GoneYes vs left) (hl : ∀ kl, left kl = false) : anyNo vs = false := by
  rw [anyNo, List.any_eq_false]
  intro v hv
  rw [hg v hv (hl _)]
  simp
def OutPost (w : World) (n : Nat) (vs : List (Int × Bool)) (e : Ending) (w' : World) : Prop := e = .returned (.tuple #[.bool (outYes n vs), .bool (outKnown n vs)]) ∧ Below w.heap.size w w'
theorem ret_out {w w' : World} {n : Nat} {vs : List (Int × Bool)} {a b : Bool} (ha : outYes n vs = a) (hb : outKnown n vs = b) (h : Below w.heap.size w w') : OutPost w n vs (.returned (.tuple #[.bool a, .bool b])) w' := by
  rw [← ha, ← hb]; exact ⟨rfl, h⟩
set_option maxRecDepth 100000 in
set_option maxHeartbeats 1000000 in
theorem outcome_any {base p g b cap : Nat} {gs : List Int} {vs : List (Int × Bool)} (w : World) (h : TalAt w base p g b cap gs vs) (ht : Tally gs vs) :
    Calls Tryd.prog 47 #[.pointer (some ⟨p, 0, none⟩)] w (OutPost w gs.length vs) := by
  have c0 := h.c0
  have c1 := h.c1
  have hown := h.own
  have hle := ht.le
  have HT := Lib.hid ht.keys
  go_enter Tryd.func47, Tryd.ntmps47
  go_wp2_with (at_range; refine wpList_range_own _ rfl _ 136 rfl 3 4 keyI Tryd.underlying136 _ b _ _ rfl hown ?_; intro w0 hrg0 hg0 hs0)
  go_frame
  go_loopw [5] (fun _ wr => ∃ (left : Lit → Bool) (cnt : Nat), wr.ranges Tryd.prog 3 (plainElem (H := Unit) Tryd.prog 4) b w.heap.size vs.length (putsD vs) left cnt ∧ GoneYes vs left ∧ Below w.heap.size w wr) (fun _ wr => wr.rangeLeft b w.heap.size)
  case atStart => exact ⟨_, _, hrg0, GoneYes.start vs, (Below.refl _ w).grown hg0 (Nat.le_refl _) (fun k e => by cases e)⟩
  case round =>
    obtain ⟨left, cnt, hrg, hgone, hw⟩ := hrel
    have HG := Lib.hid hgone
    clear hgone
    have c0 := keep hw c0
    have c1 := keep hw c1
    go_wp2_with (at_next; refine wpList_next_ranges _ rfl _ rfl 3 keyI (plainElem (H := Unit) Tryd.prog 4) (fun x : Int => .int .i64 x) (fun c : Bool => .bool c) (fun key kl hk => by obtain ⟨x, hx, _⟩ := Maps.keyOf_int_inv Tryd.underlying3 hk; exact ⟨x, hx⟩) (fun v y hv => by obtain ⟨c, hc, _⟩ := plainElem_bool_inv Tryd.underlying4 hv; exact ⟨c, hc⟩) b w.heap.size _ _ _ _ rfl hrg ?_ ?_)
    · intro _ hl0
      have HN := Lib.hid (HG.out.end hl0)
      have hown2 := hrg.owns
      clear hl0
      by_cases hall : vs.length = gs.length
      · have HK : Hid (outKnown gs.length vs = true) := by show _ = _; rw [outKnown, HN.out, hall]; simp
        have HY : Hid (outYes gs.length vs = true) := by show _ = _; rw [outYes, HN.out, hall]; simp
        have q : ((vs.length : Int) == (gs.length : Int)) = true := by rw [beq_iff_eq]; omega
        have HS := Lib.hid (size_putsD HT.out)
        clear hall
        have hlen : ∀ nq ty, (Builtin.len_ #[136] ty #[.map (some b)]).run Tryd.prog (wr.drewN nq) = .ok (.int .i64 (vs.length : Int)) (wr.drewN nq) := fun nq ty => by
          have := World.ownsMap.len (show (wr.drewN nq).ownsMap Tryd.prog 3 (plainElem (H := Unit) Tryd.prog 4) b vs.length (putsD vs) from hown2) Tryd.underlying136 ty
          rw [HS.out] at this
          exact this
        go_wp2
        go_quiet (fail)
        go_wp2
        go_ret2
        exact ret_out HY.out HK.out (below_drewN hw _)
      · have HK : Hid (outKnown gs.length vs = false) := by show _ = _; rw [outKnown, HN.out]; simp [hall]
        have HY : Hid (outYes gs.length vs = false) := by show _ = _; rw [outYes, HN.out]; simp [hall]
        have q : ((vs.length : Int) == (gs.length : Int)) = false := by rw [beq_eq_false_iff_ne]; omega
        have HS := Lib.hid (size_putsD HT.out)
        clear hall
        have hlen : ∀ nq ty, (Builtin.len_ #[136] ty #[.map (some b)]).run Tryd.prog (wr.drewN nq) = .ok (.int .i64 (vs.length : Int)) (wr.drewN nq) := fun nq ty => by
          have := World.ownsMap.len (show (wr.drewN nq).ownsMap Tryd.prog 3 (plainElem (H := Unit) Tryd.prog 4) b vs.length (putsD vs) from hown2) Tryd.underlying136 ty
          rw [HS.out] at this
          exact this
        go_wp2
        go_quiet (fail)
        go_wp2
        go_ret2
        exact ret_out HY.out HK.out (below_drewN hw _)
    · intro x
      refine ⟨?_, ?_⟩
      all_goals
        intro kl y1 y2 w1 cnt1 hkey hlk hv hat hrg1 hlt hg1 hs1 hen
        have hw1 : Below w.heap.size w w1 := hw.grown hg1 hw.size (fun k e => by cases e; exact Nat.le_refl _)
        obtain ⟨x', ex, rfl, _⟩ := Maps.keyOf_int_inv Tryd.underlying3 hkey
        obtain rfl : x = x' := by injection ex
        obtain ⟨c', ec, hc'⟩ := plainElem_bool_inv Tryd.underlying4 hv
        injection ec with ec
        injection hc' with hc' _
        subst ec hc'
        have HAT := Lib.hid hat
        clear hat hkey hv ex hs1 hlk
      · have HN : Hid (anyNo vs = true) := by
          obtain ⟨v, hv, _, h2⟩ := entry_of HT.out HAT.out
          exact List.any_eq_true.2 ⟨v, hv, by rw [h2]; rfl⟩
        go_wp2
        go_ret2
        exact ret_out (by rw [outYes, HN.out]; rfl) (by rw [outKnown, HN.out]; rfl) hw1
      · have HG2 := Lib.hid (HG.out.step HT.out HAT.out)
        go_wp2
        go_roundw
        case rel => exact ⟨_, cnt1, hrg1, HG2.out, hw1⟩
        case measure => rw [hrg1.left_eq, hrg.left_eq]; exact hlt
end Go.Proofs.YtboiafchmdflpaaDoor
