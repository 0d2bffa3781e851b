/- New; Begin where the clock is at its end. -/
import Derived.Test.YtcldpmkhpmlcbaaGreatDoorJ12
import Derived.Test.YtcldpmkhpmlcbaaGreatDoorJ11
import Derived.Maps.RangeWalk
import Derived.Maps.OwnSet
import Derived.Deep.AppendLies
import Derived.Test.YtcldpmkhpmlcbaaGreatDoorJ9
set_option linter.unusedVariables false
set_option linter.unusedSimpArgs false
namespace Go.Proofs.YtcldpmkhpmlcbaaGreatDoor
open Go.RowKit Go.Shelf Go.Lib Go.Maps

theorem begin15_full {w : World} {B p : Nat} {x : QD} {v : Value} {es : List EntD} {O : Nat → Prop} (h : QIn w B p x v es O) {i : IdD} {gs : List Int} {b off cap : Nat} (hA : IntsAt w (some ⟨b, off, none⟩) gs) (hn : gs.length ≤ 1000)
    (hi : idOK i = true) (hr : rightB x.g gs = true) (hno : hasQ x i = false) (hc : mostQ ≤ x.clock) (hlen : x.l.length < 900000) :
    Calls Tryz.prog 87 #[.pointer (some ⟨p, 0, none⟩), .agg #[.int .i64 i.ses, .int .i64 i.seq], .slice (some ⟨b, off, none⟩) gs.length cap] w
      (QPost w B p (beginQ x i gs) O (.tuple #[.int .u64 0, .int .i64 7])) := by
  obtain ⟨W, eW, HB, b0, b1⟩ := box2 w (.int .i64 i.ses) (.int .i64 i.seq) 34
  have H := Lib.hid (h.later HB)
  have h0 := Lib.hid h
  have hAW : IntsAt W _ gs := CellsAt.later hA HB
  obtain ⟨c0, c1, c2⟩ := H.out.cs
  have HF := Lib.hid (show hasQ x i = false from hno)
  have hcl : decide ((4611686018427387904 : Int) ≤ (x.clock : Int)) = true := by
    have : 4611686018427387904 ≤ x.clock := hc
    rw [decide_eq_true_iff]; omega
  have HR := Lib.hid hr
  have HQ : Hid (beginQ x i gs = x) := by
    have : beginK x i gs = 7 := by rw [beginK, hi, hr, hno, if_pos hc]; simp
    show _ = _; rw [beginQ, this]; rfl
  have HI := Lib.hid (show idB i.ses i.seq = true from hi)
  clear h hr hi hno hc hA
  go_enter Tryz.func87, Tryz.ntmps87
  go_wp2_with (first
    | (go_at_call 82; (with_reducible refine (calls_eb HI.out (id_any i.ses i.seq _)).mono ?_); rintro e w1 ⟨rfl, hb1⟩; have d0 := keep hb1 c0; have d1 := keep hb1 c1; have d2 := keep hb1 c2; have H1 := Lib.hid (H.out.later hb1); have hA1 : IntsAt w1 _ gs := CellsAt.later hAW hb1; have e0 := keep hb1 b0; have e1 := keep hb1 b1)
    | (go_at_call 143; (with_reducible refine (right15 d0 hA1 hn HR.out).mono ?_); rintro e w2 ⟨rfl, rfl⟩)
    | (go_at_call 144; (with_reducible refine (find15 H1.out i (by omega)).mono ?_); rintro e w2 ⟨rfl, hb2⟩; rw [HF.out]; have f0 := keep hb2 d0; have f1 := keep hb2 d1; have f2 := keep hb2 d2; simp only [Bool.false_eq_true, if_false]))
  go_ret2
  have hb := keepB HB (keepB hb1 hb2)
  exact ⟨rfl, by rw [HQ.out]; exact QAt.stay ⟨_, _, h0.out⟩ hb, Out.of_below hb⟩
/-- A new queue. -/
def QNewPost (w : World) (g : Int) (e : Ending) (w' : World) : Prop := ∃ p, e = .returned (.pointer (some ⟨p, 0, none⟩)) ∧ QAt w' w.heap.size p (q0 g) (fun k => w.heap.size ≤ k ∧ k < w'.heap.size) ∧ Below w.heap.size w w'
theorem stampNew15 {w : World} {g : Int} (h0 : 0 ≤ g) (h4 : g < 4) : Calls Tryz.prog 38 #[.int .i64 g] w (QNewPost w g) := by
  have q1 : ¬ g < 0 := by omega
  have q2 : ¬ (4 : Int) ≤ g := by omega
  go_enter Tryz.func38, Tryz.ntmps38
  go_wp2
  go_ret
  refine ⟨w.heap.size, rfl, ⟨.slice none 0 0, [], ?_⟩, below1 _ _⟩
  exact { blk := heap_alloc_new w _, row := TailRow.nil _ _ _, eq := rfl, one := fun e he => (by cases he), np := List.Pairwise.nil, nm := List.Pairwise.nil, hp := ⟨Nat.le_refl _, by simp⟩, mv := fun g hg => (by cases hg), me := fun e he => (by cases he), lt := fun k hk => hk }
end Go.Proofs.YtcldpmkhpmlcbaaGreatDoor
/- certify's Tally: New, Put, Outcome and Voted, in the words of the votes that have come. -/
namespace Go.Proofs.YtcldpmkhpmlcbaaGreatDoor
open Go.RowKit Go.Shelf Go.Maps

/-! ### Maps of bools: a look-up with 'ok' -/
theorem plainElem_bool_inv {H : Type} {P : Program} {e : TypeId} (he : P.underlying e = some .bool) {v : Value} {z : DataW H × List MemPlace} (h : plainElem P e v = some z) : ∃ a, v = .bool a ∧ z = (.lit (.bool a), []) := by
  unfold plainElem at h
  rw [he] at h
  cases v <;> simp at h
  exact ⟨_, rfl, h.symm⟩
theorem wpList_lookup_own_ok_bool {H : Type} {P : Program} (w : World) {ops : Array Oper} {rest : List Oper} {o : Oper} {a : Act} {Q : Exit → Act → World → Prop} (hg : o.guard = none) (m x : Operand) (t : TypeId) (hop : o.op = Op.lookup t m x true)
    (k e : TypeId) (K : Keyed P k) (ht : P.underlying t = some (.map k e)) (he : P.underlying e = some .bool) (hz : (zeroValue e).run P w = .ok (.bool false) w) (b n : Nat) (D : DataW H)
    (hm : a.eval m = .map (some b)) (hown : w.ownsMap P k (plainElem P e) b n D) (key : Value) (kl : Lit) (hx : a.eval x = key) (hkey : keyOf P k key = some kl) (V O : Bool)
    (hV : ∀ c : Bool, D.atKey kl (.lit (.bool false)) = .lit (.bool c) → c = V) (hO : Maps.has D kl = O)
    (hK : wpList P ops Q rest (a.put o.dst (.tuple #[.bool V, .bool O])) w) :
    wpList P ops Q (o :: rest) a w :=
  wpList_lookup_own_ok w hg m x t hop k e K ht (plainElem P e) hz (.lit (.bool false)) [] (plainElem_bool he false) b n D hm hown key kl hx hkey (fun v ps hv => by
    obtain ⟨c, rfl, hc⟩ := plainElem_bool_inv he hv
    rw [hO, hV c (congrArg Prod.fst hc)]
    exact hK)

/-! ### The votes' map, as a datum -/
def putD (D : DataW Unit) (v : Int × Bool) : DataW Unit := D.put (.int .i64 v.1) (.lit (.bool v.2))
def putsD (vs : List (Int × Bool)) : DataW Unit := vs.foldl putD (.map [])
theorem putsD_snoc (vs : List (Int × Bool)) (g : Int) (y : Bool) : putsD (vs ++ [(g, y)]) = (putsD vs).put (.int .i64 g) (.lit (.bool y)) := by
  simp [putsD, putD, List.foldl_append]
theorem has_foldD (g : Int) : ∀ (vs : List (Int × Bool)) (D : DataW Unit), IsMap D → Maps.has (vs.foldl putD D) (.int .i64 g) = (Maps.has D (.int .i64 g) || hasV vs g)
  | [], D, _ => by simp [hasV]
  | v :: vs, D, hD => by
    rw [List.foldl_cons, has_foldD g vs (putD D v) (hD.put _ _)]
    by_cases e : v.1 = g
    · have : Maps.has (putD D v) (.int .i64 g) = true := by rw [putD, e]; exact has_put_same (k := .int .i64 g) hD trivial _
      rw [this]
      simp [hasV, e]
    · have : Maps.has (putD D v) (.int .i64 g) = Maps.has D (.int .i64 g) := has_put_other (fun h => e (by injection h with _ h; exact h.symm)) _
      have e' : (v.1 == g) = false := by simp [e]
      rw [this]
      simp only [hasV, List.any_cons, e', Bool.false_or]
theorem has_putsD (vs : List (Int × Bool)) (g : Int) : Maps.has (putsD vs) (.int .i64 g) = hasV vs g := by
  rw [putsD, has_foldD g vs _ isMap_empty]; simp [Maps.has]
theorem at_foldD (g : Int) (z : DataW Unit) : ∀ (vs : List (Int × Bool)) (D : DataW Unit), IsMap D → (vs.map (·.1)).Nodup → (vs.foldl putD D).atKey (.int .i64 g) z = if hasV vs g then .lit (.bool (votedV vs g)) else D.atKey (.int .i64 g) z
  | [], D, _, _ => by simp [hasV]
  | v :: vs, D, hD, hn => by
    simp only [List.map_cons, List.nodup_cons] at hn
    rw [List.foldl_cons, at_foldD g z vs (putD D v) (hD.put _ _) hn.2]
    by_cases e : v.1 = g
    · have h1 : hasV vs g = false := by
        cases h : hasV vs g
        · rfl
        · exact absurd (e ▸ hasV_iff.1 h) hn.1
      have h2 : (putD D v).atKey (.int .i64 g) z = .lit (.bool v.2) := by rw [putD, e]; exact atKey_put_same (k := .int .i64 g) hD trivial _ _
      rw [h1, h2]
      simp [hasV, votedV, e]
    · have h2 : (putD D v).atKey (.int .i64 g) z = D.atKey (.int .i64 g) z := atKey_put_other (fun h => e (by injection h with _ h; exact h.symm)) _ _
      rw [h2]
      have e' : (v.1 == g) = false := by simp [e]
      have e2 : votedV (v :: vs) g = votedV vs g := by simp only [votedV, List.find?_cons, e']
      have e3 : hasV (v :: vs) g = hasV vs g := by simp only [hasV, List.any_cons, e', Bool.false_or]
      rw [e2, e3]
theorem at_putsD {vs : List (Int × Bool)} (hn : (vs.map (·.1)).Nodup) (g : Int) (z : DataW Unit) : (putsD vs).atKey (.int .i64 g) z = if hasV vs g then .lit (.bool (votedV vs g)) else z := by
  rw [putsD, at_foldD g z vs _ isMap_empty hn]
  simp [DataW.atKey]
theorem voted_of_at {vs : List (Int × Bool)} (hn : (vs.map (·.1)).Nodup) (g : Int) (c : Bool) (h : (putsD vs).atKey (.int .i64 g) (.lit (.bool false)) = .lit (.bool c)) : c = votedV vs g := by
  rw [at_putsD hn] at h
  by_cases hh : hasV vs g = true
  · rw [if_pos hh] at h
    injection h with h
    injection h with h
    exact h.symm
  · rw [if_neg hh] at h
    injection h with h
    injection h with h
    subst h
    have : vs.find? (fun v => v.1 == g) = none := by
      rw [List.find?_eq_none]
      intro x hx hc
      exact hh (List.any_eq_true.2 ⟨x, hx, hc⟩)
    simp [votedV, this]
theorem size_foldD : ∀ (vs : List (Int × Bool)) (D : DataW Unit), Tidy D → (vs.map (·.1)).Nodup → (∀ v ∈ vs, Maps.has D (.int .i64 v.1) = false) → Maps.size (vs.foldl putD D) = Maps.size D + vs.length
  | [], D, _, _, _ => by simp
  | v :: vs, D, hD, hn, hh => by
    simp only [List.map_cons, List.nodup_cons] at hn
    rw [List.foldl_cons, size_foldD vs (putD D v) (hD.put (k := .int .i64 v.1) trivial _) hn.2 (fun u hu => by
      have hne : (Lit.int .i64 u.1) ≠ .int .i64 v.1 := fun h => hn.1 (by injection h with _ h; exact List.mem_map.2 ⟨u, hu, h⟩)
      rw [putD, has_put_other hne]
      exact hh u (List.mem_cons_of_mem _ hu))]
    have h0 := hh v List.mem_cons_self
    have h1 : Maps.size (putD D v) = Maps.size D + 1 := by rw [putD, size_put hD, h0]; rfl
    rw [h1, List.length_cons]
    omega
theorem size_putsD {vs : List (Int × Bool)} (hn : (vs.map (·.1)).Nodup) : Maps.size (putsD vs) = vs.length := by
  rw [putsD, size_foldD vs _ tidy_empty hn (fun v _ => by simp [Maps.has])]
  simp [Maps.size]

/-! ### How a tally lies in memory -/
structure TalAt (w : World) (base p g b cap : Nat) (gs : List Int) (vs : List (Int × Bool)) : Prop where
  c0 : w.cell? ⟨p, 0, none⟩ = some (.slice (some ⟨g, 0, none⟩) gs.length cap)
  c1 : w.cell? ⟨p, 1, none⟩ = some (.map (some b))
  ints : IntsAt w (some ⟨g, 0, none⟩) gs
  own : w.ownsMap Tryz.prog 3 (plainElem (H := Unit) Tryz.prog 4) b vs.length (putsD vs)
  hp : base ≤ p
  hg : base ≤ g
  hb : base ≤ b
  n1 : b ≠ p
  n2 : b ≠ g
theorem TalAt.grown {w w' : World} {base p g b cap : Nat} {gs : List Int} {vs : List (Int × Bool)} {row : Option Nat} (h : TalAt w base p g b cap gs vs) (hg : w.grownBy w' row) (h1 : some p ≠ row) (h2 : some g ≠ row) (h3 : some b ≠ row) : TalAt w' base p g b cap gs vs := by
  refine ⟨hg.cell h.c0 h1, hg.cell h.c1 h1, fun i hi => ?_, h.own.kept hg h3, h.hp, h.hg, h.hb, h.n1, h.n2⟩
  obtain ⟨b', off, e, hc⟩ := h.ints i hi
  cases e
  exact ⟨_, _, rfl, hg.cell hc h2⟩
theorem grown_of_below {w w' : World} (h : Below w.heap.size w w') : w.grownBy w' none := ⟨h.os, h.tape, h.output, h.size, fun i hi _ => h.block i hi⟩
theorem TalAt.later {w w' : World} {base p g b cap : Nat} {gs : List Int} {vs : List (Int × Bool)} (h : TalAt w base p g b cap gs vs) (hb : Below w.heap.size w w') : TalAt w' base p g b cap gs vs :=
  h.grown (grown_of_below hb) (by simp) (by simp) (by simp)
theorem TalAt.put {w w' : World} {base p g b cap : Nat} {gs : List Int} {vs : List (Int × Bool)} {x : Int} {y : Bool} (h : TalAt w base p g b cap gs vs) (hg : w.grownBy w' (some b))
    (ho : w'.ownsMap Tryz.prog 3 (plainElem (H := Unit) Tryz.prog 4) b (vs.length + 1) ((putsD vs).put (.int .i64 x) (.lit (.bool y)))) : TalAt w' base p g b cap gs (vs ++ [(x, y)]) := by
  have n1 : some p ≠ some b := fun e => h.n1 (by cases e; rfl)
  have n2 : some g ≠ some b := fun e => h.n2 (by cases e; rfl)
  refine ⟨hg.cell h.c0 n1, hg.cell h.c1 n1, fun i hi => ?_, ?_, h.hp, h.hg, h.hb, h.n1, h.n2⟩
  · obtain ⟨b', off, e, hc⟩ := h.ints i hi
    cases e
    exact ⟨_, _, rfl, hg.cell hc n2⟩
  · rw [putsD_snoc, List.length_append]
    exact ho
def NewPost (w : World) (gs : List Int) (e : Ending) (w' : World) : Prop := ∃ p g b cap, e = .returned (.pointer (some ⟨p, 0, none⟩)) ∧ TalAt w' w.heap.size p g b cap gs [] ∧ Below w.heap.size w w'
set_option maxRecDepth 100000 in
set_option maxHeartbeats 1000000 in
theorem new_ok (gs : List Int) (b off ca : Nat) (w : World) (hA : IntsAt w (some ⟨b, off, none⟩) gs) (hn : gs.length ≤ 1000000) (h0 : 0 < gs.length) (hd : gs.Nodup) :
    Calls Tryz.prog 88 #[.slice (some ⟨b, off, none⟩) gs.length ca] w (NewPost w gs) := by
  have q0 : ((gs.length : Int) == 0) = false := by rw [beq_eq_false_iff_ne]; omega
  have q1 : decide ((Lib.compact (sorted gs)).length < gs.length) = false := decide_eq_false (compact_nodup hd)
  have hmm := @run_makeMap Tryz.prog
  clear hd
  go_enter Tryz.func88, Tryz.ntmps88
  go_wp2_with (first
    | (go_at_call 148; refine (values16 _ _ _ _).mono ?_; rintro e w1 ⟨rfl, HB, hs, hc⟩)
    | (go_at_call 147; refine (sorted16 w.heap.size (.slice (some ⟨b, off, none⟩) gs.length ca) gs hn _ hs hc (IntsIn.of (CellsAt.later hA HB))).mono ?_; rintro e w2 ⟨A2, c2, rfl, hown, hb⟩)
    | (go_at_call 149; refine (compact16 _ _ (sorted gs) _ (by rw [sorted_length]; rw [sorted_length] at hown; exact hown) (by rw [sorted_length]; exact hn)).mono ?_; rintro e w3 ⟨A3, c3, rfl, hg⟩; have HB3 := keepB HB (own_below hb (Nat.le_refl _) hown hg))
    | (go_at_call 145; refine (clone16_any gs b off ca _ (CellsAt.later hA HB3) hn).mono ?_; rintro e w4 h4; obtain ⟨A4, c4, rfl, hown4, hb4⟩ := OwnPost.slice h4))
  obtain ⟨g, cap, e4, _⟩ := World.ownsRow.form hown4 h0
  cases e4
  have HB4 := keepB HB3 hb4
  have hge : w3.heap.size ≤ g := own_ge hown4 g rfl
  have hlt : g < w4.heap.size := (hown4.lt g rfl).2
  have hsz3 := HB3.size
  have hsz4 := hb4.size
  obtain ⟨A5, cap5, e5, _, hI5⟩ := own_ints hown4
  cases e5
  go_ret
  refine ⟨w4.heap.size + 1, g, w4.heap.size, c4, rfl, ?_, ?_⟩
  · have hI6 : IntsAt ((w4.alloc (.map #[] 0)).alloc (.cells #[.slice (some ⟨g, 0, none⟩) gs.length c4, .map (some w4.heap.size)] 239)) (some ⟨g, 0, none⟩) gs := CellsAt.later (CellsAt.later hI5 (below1 _ _)) (below1 _ _)
    refine ⟨by simp [go_sem], by simp [go_sem], hI6, ((World.ownsMap_made w4 _ _ _).alloc _), by omega, by omega, by omega, by omega, by omega⟩
  · exact keepB HB4 (below2 _ _ _)

theorem keyI : Keyed Tryz.prog 3 := int_keyed Tryz.underlying3
theorem zeroB (w : World) : (zeroValue 4).run Tryz.prog w = .ok (.bool false) w := by kernel_rfl

/-! ### Voted -/
set_option maxRecDepth 100000 in
theorem voted_any {base p g b cap : Nat} {gs : List Int} {vs : List (Int × Bool)} (x : Int) (hx0 : -9223372036854775808 ≤ x) (hx1 : x ≤ 9223372036854775807) (w : World) (h : TalAt w base p g b cap gs vs) (ht : Tally gs vs) :
    Calls Tryz.prog 92 #[.pointer (some ⟨p, 0, none⟩), .int .i64 x] w fun e w' => e = .returned (.tuple #[.bool (votedV vs x), .bool (hasV vs x)]) ∧ Below w.heap.size w w' := by
  have c1 := h.c1
  have hown := h.own
  go_enter Tryz.func92, Tryz.ntmps92
  go_wp2_with (at_lookup; refine wpList_lookup_own_ok_bool _ rfl _ _ 237 rfl 3 4 keyI Tryz.underlying237 Tryz.underlying4 (zeroB _) b _ _ rfl hown _ _ rfl (keyOf_int_mk Tryz.underlying3 (WalkArith.wf_i64 ⟨hx0, hx1⟩)) (votedV vs x) (hasV vs x) (fun c hc => voted_of_at ht.keys x c hc) (has_putsD vs x) ?_)
  go_ret2
  exact ⟨rfl, Below.refl _ _⟩

/-! ### Put -/
def PutPost (w : World) (base p g b cap : Nat) (gs : List Int) (vs : List (Int × Bool)) (x : Int) (y : Bool) (e : Ending) (w' : World) : Prop :=
  e = .returned (.bool (mayPut gs vs x)) ∧ TalAt w' base p g b cap gs (putV gs vs x y) ∧ w.grownBy w' (some b)
theorem putV_no {gs : List Int} {vs : List (Int × Bool)} {x : Int} {y : Bool} (h : mayPut gs vs x = false) : putV gs vs x y = vs := by simp [putV, h]
set_option maxRecDepth 100000 in
set_option maxHeartbeats 1000000 in
theorem put_any {base p g b cap : Nat} {gs : List Int} {vs : List (Int × Bool)} (x : Int) (y : Bool) (hx0 : -9223372036854775808 ≤ x) (hx1 : x ≤ 9223372036854775807) (hn : gs.length ≤ 1000000) (w : World) (h : TalAt w base p g b cap gs vs) (ht : Tally gs vs) :
    Calls Tryz.prog 90 #[.pointer (some ⟨p, 0, none⟩), .int .i64 x, .bool y] w (PutPost w base p g b cap gs vs x y) := by
  have c0 := h.c0
  have c1 := h.c1
  have hI := h.ints
  have hown := h.own
  have hle := ht.le
  cases hg : hasI gs x
  · have HM := Lib.hid (show mayPut gs vs x = false by rw [mayPut, show gs.contains x = false from hg]; rfl)
    go_enter Tryz.func90, Tryz.ntmps90
    go_wp2_with (go_at_call 85; refine (contains16_any gs _ cap x _ hI hn).mono ?_; rintro e w1 ⟨rfl, rfl⟩)
    go_ret
    exact ⟨ret_bool16 HM.out, by rw [putV_no HM.out]; exact h, World.grownBy.refl _ _⟩
  · cases hv : hasV vs x
    · have hm : mayPut gs vs x = true := by rw [mayPut, show gs.contains x = true from hg, hv]; rfl
      have HM := Lib.hid hm
      have HV := Lib.hid (show putV gs vs x y = vs ++ [(x, y)] by simp [putV, hm])
      have HH := Lib.hid hv
      clear hm hv
      go_enter Tryz.func90, Tryz.ntmps90
      go_wp2_with (first
        | (go_at_call 85; refine (contains16_any gs _ cap x _ hI hn).mono ?_; rintro e w1 ⟨rfl, rfl⟩)
        | (at_lookup; refine wpList_lookup_own_ok_bool _ rfl _ _ 237 rfl 3 4 keyI Tryz.underlying237 Tryz.underlying4 (zeroB _) b _ _ rfl (by first | exact hown | exact hown.alloc _) _ _ rfl (keyOf_int_mk Tryz.underlying3 (WalkArith.wf_i64 ⟨hx0, hx1⟩)) (votedV vs x) false (fun c hc => voted_of_at ht.keys x c hc) ((has_putsD vs x).trans HH.out) ?_)
        | (at_mapUpdate; refine wpList_mapUpdate_own _ rfl _ _ _ 237 rfl 3 4 keyI Tryz.underlying237 _ b _ _ rfl (by first | exact hown | exact hown.alloc _) (by unfold maxLen; omega) _ _ _ rfl rfl (keyOf_int_mk Tryz.underlying3 (WalkArith.wf_i64 ⟨hx0, hx1⟩)) _ [] (plainElem_bool Tryz.underlying4 y) ?_; intro w2 hown2 hgr2))
      go_ret
      exact ⟨ret_bool16 HM.out, by rw [HV.out]; exact h.put hgr2 hown2, hgr2⟩
    · have HM := Lib.hid (show mayPut gs vs x = false by simp [mayPut, hv])
      have HH := Lib.hid hv
      clear hv
      go_enter Tryz.func90, Tryz.ntmps90
      go_wp2_with (first
        | (go_at_call 85; refine (contains16_any gs _ cap x _ hI hn).mono ?_; rintro e w1 ⟨rfl, rfl⟩)
        | (at_lookup; refine wpList_lookup_own_ok_bool _ rfl _ _ 237 rfl 3 4 keyI Tryz.underlying237 Tryz.underlying4 (zeroB _) b _ _ rfl (by first | exact hown | exact hown.alloc _) _ _ rfl (keyOf_int_mk Tryz.underlying3 (WalkArith.wf_i64 ⟨hx0, hx1⟩)) (votedV vs x) true (fun c hc => voted_of_at ht.keys x c hc) ((has_putsD vs x).trans HH.out) ?_))
      go_ret
      exact ⟨ret_bool16 HM.out, by rw [putV_no HM.out]; exact h, World.grownBy.refl _ _⟩
/-! ### Outcome -/
/-- All votes that have come up so far are 'yes'. -/
def GoneYes (vs : List (Int × Bool)) (left : Lit → Bool) : Prop := ∀ v ∈ vs, left (.int .i64 v.1) = false → v.2 = true
theorem GoneYes.start (vs : List (Int × Bool)) : GoneYes vs (Maps.has (putsD vs)) := fun v hv h => by
  rw [has_putsD, hasV_iff.2 (List.mem_map.2 ⟨v, hv, rfl⟩)] at h
  cases h
theorem entry_of {vs : List (Int × Bool)} (hn : (vs.map (·.1)).Nodup) {x : Int} {c : Bool} (h : ∀ zd, (putsD vs).atKey (.int .i64 x) zd = .lit (.bool c)) : ∃ v ∈ vs, v.1 = x ∧ v.2 = c := by
  have h1 := h .nil
  rw [at_putsD hn] at h1
  by_cases hh : hasV vs x = true
  · obtain ⟨v, hv, rfl⟩ := List.mem_map.1 (hasV_iff.1 hh)
    rw [if_pos hh] at h1
    injection h1 with h1
    injection h1 with h1
    exact ⟨v, hv, rfl, by rw [← votedV_of_mem hn hv]; exact h1⟩
  · rw [if_neg hh] at h1
    cases h1
theorem GoneYes.step {vs : List (Int × Bool)} (hn : (vs.map (·.1)).Nodup) {left : Lit → Bool} (hg : GoneYes vs left) {x : Int} (h : ∀ zd, (putsD vs).atKey (.int .i64 x) zd = .lit (.bool true)) : GoneYes vs (fun z => left z && !z.sameKey (.int .i64 x)) := fun v hv hl => by
  by_cases e : v.1 = x
  · obtain ⟨u, hu, hu1, hu2⟩ := entry_of hn h
    have h1 := votedV_of_mem hn hv
    have h2 := votedV_of_mem hn hu
    rw [← h1, e, ← hu1, h2]
    exact hu2
  · refine hg v hv ?_
    have : (Lit.int .i64 v.1).sameKey (.int .i64 x) = false := sameKey_ne (fun h => e (by injection h))
    simpa [this] using hl
theorem GoneYes.end {vs : List (Int × Bool)} {left : Lit → Bool} (hg : GoneYes vs left) (hl : ∀ kl, left kl = false) : anyNo vs = false := by
  rw [anyNo, List.any_eq_false]
  intro v hv
  rw [hg v hv (hl _)]
  simp
def OutPost (w : World) (n : Nat) (vs : List (Int × Bool)) (e : Ending) (w' : World) : Prop := e = .returned (.tuple #[.bool (outYes n vs), .bool (outKnown n vs)]) ∧ Below w.heap.size w w'
theorem ret_out {w w' : World} {n : Nat} {vs : List (Int × Bool)} {a b : Bool} (ha : outYes n vs = a) (hb : outKnown n vs = b) (h : Below w.heap.size w w') : OutPost w n vs (.returned (.tuple #[.bool a, .bool b])) w' := by
  rw [← ha, ← hb]; exact ⟨rfl, h⟩
set_option maxRecDepth 100000 in
set_option maxHeartbeats 1000000 in
theorem outcome_any {base p g b cap : Nat} {gs : List Int} {vs : List (Int × Bool)} (w : World) (h : TalAt w base p g b cap gs vs) (ht : Tally gs vs) :
    Calls Tryz.prog 96 #[.pointer (some ⟨p, 0, none⟩)] w (OutPost w gs.length vs) := by
  have c0 := h.c0
  have c1 := h.c1
  have hown := h.own
  have hle := ht.le
  have HT := Lib.hid ht.keys
  go_enter Tryz.func96, Tryz.ntmps96
  go_wp2_with (at_range; refine wpList_range_own _ rfl _ 237 rfl 3 4 keyI Tryz.underlying237 _ b _ _ rfl hown ?_; intro w0 hrg0 hg0 hs0)
  go_frame
  go_loopw [5] (fun _ wr => ∃ (left : Lit → Bool) (cnt : Nat), wr.ranges Tryz.prog 3 (plainElem (H := Unit) Tryz.prog 4) b w.heap.size vs.length (putsD vs) left cnt ∧ GoneYes vs left ∧ Below w.heap.size w wr) (fun _ wr => wr.rangeLeft b w.heap.size)
  case atStart => exact ⟨_, _, hrg0, GoneYes.start vs, (Below.refl _ w).grown hg0 (Nat.le_refl _) (fun k e => by cases e)⟩
  case round =>
    obtain ⟨left, cnt, hrg, hgone, hw⟩ := hrel
    have HG := Lib.hid hgone
    clear hgone
    have c0 := keep hw c0
    have c1 := keep hw c1
    go_wp2_with (at_next; refine wpList_next_ranges _ rfl _ rfl 3 keyI (plainElem (H := Unit) Tryz.prog 4) (fun x : Int => .int .i64 x) (fun c : Bool => .bool c) (fun key kl hk => by obtain ⟨x, hx, _⟩ := Maps.keyOf_int_inv Tryz.underlying3 hk; exact ⟨x, hx⟩) (fun v y hv => by obtain ⟨c, hc, _⟩ := plainElem_bool_inv Tryz.underlying4 hv; exact ⟨c, hc⟩) b w.heap.size _ _ _ _ rfl hrg ?_ ?_)
    · intro _ hl0
      have HN := Lib.hid (HG.out.end hl0)
      have hown2 := hrg.owns
      clear hl0
      by_cases hall : vs.length = gs.length
      · have HK : Hid (outKnown gs.length vs = true) := by show _ = _; rw [outKnown, HN.out, hall]; simp
        have HY : Hid (outYes gs.length vs = true) := by show _ = _; rw [outYes, HN.out, hall]; simp
        have q : ((vs.length : Int) == (gs.length : Int)) = true := by rw [beq_iff_eq]; omega
        have HS := Lib.hid (size_putsD HT.out)
        clear hall
        have hlen : ∀ nq ty, (Builtin.len_ #[237] ty #[.map (some b)]).run Tryz.prog (wr.drewN nq) = .ok (.int .i64 (vs.length : Int)) (wr.drewN nq) := fun nq ty => by
          have := World.ownsMap.len (show (wr.drewN nq).ownsMap Tryz.prog 3 (plainElem (H := Unit) Tryz.prog 4) b vs.length (putsD vs) from hown2) Tryz.underlying237 ty
          rw [HS.out] at this
          exact this
        go_wp2
        go_quiet (fail)
        go_wp2
        go_ret2
        exact ret_out HY.out HK.out (below_drewN hw _)
      · have HK : Hid (outKnown gs.length vs = false) := by show _ = _; rw [outKnown, HN.out]; simp [hall]
        have HY : Hid (outYes gs.length vs = false) := by show _ = _; rw [outYes, HN.out]; simp [hall]
        have q : ((vs.length : Int) == (gs.length : Int)) = false := by rw [beq_eq_false_iff_ne]; omega
        have HS := Lib.hid (size_putsD HT.out)
        clear hall
        have hlen : ∀ nq ty, (Builtin.len_ #[237] ty #[.map (some b)]).run Tryz.prog (wr.drewN nq) = .ok (.int .i64 (vs.length : Int)) (wr.drewN nq) := fun nq ty => by
          have := World.ownsMap.len (show (wr.drewN nq).ownsMap Tryz.prog 3 (plainElem (H := Unit) Tryz.prog 4) b vs.length (putsD vs) from hown2) Tryz.underlying237 ty
          rw [HS.out] at this
          exact this
        go_wp2
        go_quiet (fail)
        go_wp2
        go_ret2
        exact ret_out HY.out HK.out (below_drewN hw _)
    · intro x
      refine ⟨?_, ?_⟩
      all_goals
        intro kl y1 y2 w1 cnt1 hkey hlk hv hat hrg1 hlt hg1 hs1 hen
        have hw1 : Below w.heap.size w w1 := hw.grown hg1 hw.size (fun k e => by cases e; exact Nat.le_refl _)
        obtain ⟨x', ex, rfl, _⟩ := Maps.keyOf_int_inv Tryz.underlying3 hkey
        obtain rfl : x = x' := by injection ex
        obtain ⟨c', ec, hc'⟩ := plainElem_bool_inv Tryz.underlying4 hv
        injection ec with ec
        injection hc' with hc' _
        subst ec hc'
        have HAT := Lib.hid hat
        clear hat hkey hv ex hs1 hlk
      · have HN : Hid (anyNo vs = true) := by
          obtain ⟨v, hv, _, h2⟩ := entry_of HT.out HAT.out
          exact List.any_eq_true.2 ⟨v, hv, by rw [h2]; rfl⟩
        go_wp2
        go_ret2
        exact ret_out (by rw [outYes, HN.out]; rfl) (by rw [outKnown, HN.out]; rfl) hw1
      · have HG2 := Lib.hid (HG.out.step HT.out HAT.out)
        go_wp2
        go_roundw
        case rel => exact ⟨_, cnt1, hrg1, HG2.out, hw1⟩
        case measure => rw [hrg1.left_eq, hrg.left_eq]; exact hlt
end Go.Proofs.YtcldpmkhpmlcbaaGreatDoor
/- How a group's machine lies in memory. -/
namespace Go.Proofs.YtcldpmkhpmlcbaaGreatDoor
open Go.RowKit Go.Shelf Go.Maps

/-- Who owns a block. -/
inductive Lab where
  | no | m | q | s | mw | md | ms | mv | at_ | log | out | one (i : IdD)
deriving DecidableEq
def relab (lab : Nat → Lab) (w w' : World) (l : Lab) : Nat → Lab := fun k => if w.heap.size ≤ k ∧ k < w'.heap.size then l else lab k
theorem relab_eq {lab : Nat → Lab} {w w' : World} {l : Lab} (h : ∀ k, lab k ≠ .no → k < w.heap.size) (hl : l ≠ .no) : (fun k => relab lab w w' l k = l) = ext (fun k => lab k = l) w w' := by
  funext k
  apply propext
  unfold relab ext
  by_cases hk : w.heap.size ≤ k ∧ k < w'.heap.size
  · simp [hk]
  · rw [if_neg hk]
    exact ⟨fun e => .inl e, fun e => e.elim id (fun e => absurd e hk)⟩
theorem relab_ne {lab : Nat → Lab} {w w' : World} {l l' : Lab} (h : ∀ k, lab k ≠ .no → k < w.heap.size) (hl : l ≠ l') (hl' : l' ≠ .no) : (fun k => relab lab w w' l k = l') = (fun k => lab k = l') := by
  funext k
  apply propext
  unfold relab
  by_cases hk : w.heap.size ≤ k ∧ k < w'.heap.size
  · rw [if_pos hk]
    refine ⟨fun e => absurd e hl, fun e => ?_⟩
    have := h k (by rw [e]; exact hl')
    omega
  · rw [if_neg hk]
theorem cells_out {w w' : World} {A : Option Addr} {n : Nat} {f : Nat → Value} {O : Nat → Prop} (h : CellsAt w A n f) (ho : Out O w w') (hA : ∀ a, A = some a → ¬ O a.block) : CellsAt w' A n f := fun i hi => by
  obtain ⟨b, off, e, hc⟩ := h i hi
  exact ⟨b, off, e, ho.cell hc (hA ⟨b, off, none⟩ e)⟩
theorem cells_out2 {w w' : World} {A : Option Addr} {n : Nat} {f : Nat → Value} {O : Nat → Prop} (h : CellsAt w A n f) (ho : Out O w w') (hA : ∀ a, A = some a → 0 < n → ¬ O a.block) : CellsAt w' A n f := fun i hi => by
  obtain ⟨b, off, e, hc⟩ := h i hi
  exact ⟨b, off, e, ho.cell hc (hA ⟨b, off, none⟩ e (Nat.lt_of_le_of_lt (Nat.zero_le _) hi))⟩
theorem cfg_out {w w' : World} {c : Cfg} {A B : Option Addr} {O : Nat → Prop} (h : CfgAt w c A B) (ho : Out O w w') (hA : ∀ a, A = some a → 0 < c.reps.length → ¬ O a.block) (hB : ∀ a, B = some a → 0 < c.bnds.length → ¬ O a.block) : CfgAt w' c A B :=
  ⟨cells_out2 h.ints ho hA, cells_out2 h.strs ho hB, h.hs, h.hn, h.hm⟩
theorem TalAt.out {w w' : World} {base p g b cap : Nat} {gs : List Int} {vs : List (Int × Bool)} {O : Nat → Prop} (h : TalAt w base p g b cap gs vs) (ho : Out O w w') (hp : ¬ O p) (hg : ¬ O g) (hb : ¬ O b) : TalAt w' base p g b cap gs vs :=
  ⟨ho.cell h.c0 hp, ho.cell h.c1 hp, cells_out h.ints ho (fun a e => by cases e; exact hg), ho.map h.own hb, h.hp, h.hg, h.hb, h.n1, h.n2⟩
/-- Memory that is older than B. -/
def Old (B n : Nat) (A : Option Addr) : Prop := ∀ a, A = some a → 0 < n → a.block < B
theorem Old.not {B n : Nat} {A : Option Addr} (h : Old B n A) {O : Nat → Prop} (hO : ∀ k, O k → B ≤ k) : ∀ a, A = some a → 0 < n → ¬ O a.block := fun a e hn ho => by
  have := h a e hn
  have := hO _ ho
  omega
/-- Memory that is older than B, or one's own. -/
def OldL (B n : Nat) (L : Nat → Prop) (A : Option Addr) : Prop := ∀ a, A = some a → 0 < n → a.block < B ∨ L a.block
theorem OldL.not {B n : Nat} {L : Nat → Prop} {A : Option Addr} (h : OldL B n L A) {O : Nat → Prop} (hO : ∀ k, O k → B ≤ k) (hL : ∀ k, L k → ¬ O k) : ∀ a, A = some a → 0 < n → ¬ O a.block := fun a e hn ho => by
  rcases h a e hn with h | h
  · have := hO _ ho
    omega
  · exact hL _ h ho
theorem OldL.mono {B n : Nat} {L L' : Nat → Prop} {A : Option Addr} (h : OldL B n L A) (hs : ∀ k, L k → L' k) : OldL B n L' A := fun a e hn => (h a e hn).imp id (hs _)
/-- What a row's block may not be only matters where the row has an element. -/
theorem tx_out2 {w w' : World} {t : Tx} {A B : Option Addr} {O : Nat → Prop} (h : TxAt w t A B) (ho : Out O w w') (hA : ∀ a, A = some a → 0 < t.rds.length → ¬ O a.block) (hB : ∀ a, B = some a → 0 < t.wrs.length → ¬ O a.block) : TxAt w' t A B :=
  ⟨fun i hi => by
    obtain ⟨b, off, e, h0, h1⟩ := h.rds i hi
    have := hA _ e (Nat.lt_of_le_of_lt (Nat.zero_le _) hi)
    exact ⟨b, off, e, ho.cell h0 this, ho.cell h1 this⟩, fun i hi => by
    obtain ⟨b, off, e, h0, h1, h2, h3⟩ := h.wrs i hi
    have := hB _ e (Nat.lt_of_le_of_lt (Nat.zero_le _) hi)
    exact ⟨b, off, e, ho.cell h0 this, ho.cell h1 this, ho.cell h2 this, ho.cell h3 this⟩, h.rk, h.wk, h.wv, h.rn, h.wn⟩
/-- A row of a transaction lies in no map. -/
theorem tx_map {w : World} {t : Tx} {A B : Option Addr} (h : TxAt w t A B) {mb : Nat} {es : Array MapEntry} {cl : Nat} (hm : w.heap[mb]? = some (.map es cl)) : (∀ a, A = some a → 0 < t.rds.length → ¬ a.block = mb) ∧ (∀ a, B = some a → 0 < t.wrs.length → ¬ a.block = mb) := by
  refine ⟨fun a e hl z => ?_, fun a e hl z => ?_⟩
  · obtain ⟨b, off, e1, h0, _⟩ := h.rds 0 hl
    rw [e] at e1
    cases e1
    simp only at z
    subst z
    simp [World.cell?, hm] at h0
  · obtain ⟨b, off, e1, h0, _⟩ := h.wrs 0 hl
    rw [e] at e1
    cases e1
    simp only at z
    subst z
    simp [World.cell?, hm] at h0
/-- A waiting one: its block p; L: the blocks that are its. -/
structure WaitIn (w : World) (B p : Nat) (L : Nat → Prop) (x : WaitD) (A A' Ag : Option Addr) (ca cb cg tp tg tb tc : Nat) : Prop where
  blk : w.heap[p]? = some (.cells #[.int .i64 x.t.ses, .int .i64 x.t.seq, .slice A x.t.rds.length ca, .slice A' x.t.wrs.length cb, .slice Ag x.gs.length cg, .pointer (some ⟨tp, 0, none⟩)] 137 (0, 0))
  tx : TxAt w x.t A A'
  oA : OldL B x.t.rds.length L A
  oA' : OldL B x.t.wrs.length L A'
  gr : IntsAt w Ag x.gs
  lg : ∀ a, Ag = some a → L a.block
  tal : TalAt w B tp tg tb tc x.gs x.vs
  lp : L p
  ltp : L tp
  ltg : L tg
  ltb : L tb
def WaitAt (w : World) (B p : Nat) (L : Nat → Prop) (x : WaitD) : Prop := ∃ A A' Ag ca cb cg tp tg tb tc, WaitIn w B p L x A A' Ag ca cb cg tp tg tb tc
theorem WaitIn.out {w w' : World} {B p : Nat} {L O : Nat → Prop} {x : WaitD} {A A' Ag : Option Addr} {ca cb cg tp tg tb tc : Nat} (h : WaitIn w B p L x A A' Ag ca cb cg tp tg tb tc) (ho : Out O w w') (hL : ∀ k, L k → ¬ O k) (hO : ∀ k, O k → B ≤ k) : WaitIn w' B p L x A A' Ag ca cb cg tp tg tb tc :=
  { h with blk := ho.obj h.blk (hL _ h.lp), tx := tx_out2 h.tx ho (h.oA.not hO hL) (h.oA'.not hO hL), gr := cells_out h.gr ho (fun a e => hL _ (h.lg a e)), tal := h.tal.out ho (hL _ h.ltp) (hL _ h.ltg) (hL _ h.ltb) }
theorem WaitAt.out {w w' : World} {B p : Nat} {L O : Nat → Prop} {x : WaitD} (h : WaitAt w B p L x) (ho : Out O w w') (hL : ∀ k, L k → ¬ O k) (hO : ∀ k, O k → B ≤ k) : WaitAt w' B p L x := by
  obtain ⟨A, A', Ag, ca, cb, cg, tp, tg, tb, tc, h⟩ := h
  exact ⟨A, A', Ag, ca, cb, cg, tp, tg, tb, tc, { h with blk := ho.obj h.blk (hL _ h.lp), tx := tx_out2 h.tx ho (h.oA.not hO hL) (h.oA'.not hO hL), gr := cells_out h.gr ho (fun a e => hL _ (h.lg a e)), tal := h.tal.out ho (hL _ h.ltp) (hL _ h.ltg) (hL _ h.ltb) }⟩
/-- A machine's hidden things. -/
structure MachE where
  A : Option Addr
  A' : Option Addr
  ca : Nat
  cb : Nat
  qB : Nat
  qp : Nat
  sB : Nat
  sp : Nat
  N : Nat
  mw : Nat
  md : Nat
  ms : Nat
  mv : Nat
  nw : Nat
  nd : Nat
  ns : Nat
  nv : Nat
  av : Value
  lv : Value
  nl : Nat
  kw : List (IdD × Value)
  kd : List (IdD × Value)
  ks : List (FromD × Value)
  kv : List (FromD × Value)
  cl : List Value
  pp : IdD → Nat
def atV (l : List Nat) : List Value := l.map fun (s : Nat) => Value.int .u64 (s : Int)
def decV (d : Bool × Nat) : Value := .agg #[.bool d.1, .int .u64 (d.2 : Int)]
/-- All of a machine but its own block. -/
structure MachR (w : World) (B : Nat) (c : Cfg) (lab : Nat → Lab) (x : MachD) (E : MachE) : Prop where
  cfg : CfgAt w c E.A E.A'
  oA : Old B c.reps.length E.A
  oA' : Old B c.bnds.length E.A'
  q : QAt w E.qB E.qp x.q (fun k => lab k = .q)
  s : StoreAt w E.sB E.sp E.N (fun k => lab k = .s) x.s
  hw : MapH Tryz.prog 34 okId litId w E.mw E.nw E.kw
  hd : MapH Tryz.prog 34 okId litId w E.md E.nd E.kd
  hs : MapH Tryz.prog 179 okFrom litFrom w E.ms E.ns E.ks
  hv : MapH Tryz.prog 179 okFrom litFrom w E.mv E.nv E.kv
  lmw : lab E.mw = .mw
  lmd : lab E.md = .md
  lms : lab E.ms = .ms
  lmv : lab E.mv = .mv
  kw : ∀ i, getM E.kw i = (getM x.wt i).map fun _ => .pointer (some ⟨E.pp i, 0, none⟩)
  kd : ∀ i, getM E.kd i = (getM x.dc i).map decV
  ks : ∀ i, getM E.ks i = (getM x.st i).map fun s => .int .u64 (s : Int)
  kv : ∀ i, getM E.kv i = (getM x.vo i).map Value.bool
  wt : ∀ i v, getM x.wt i = some v → WaitAt w B (E.pp i) (fun k => lab k = .one i) v
  a : TailRow w B 39 E.av (atV x.a)
  la : ∀ b, E.av.ownBlock = some b → lab b = .at_
  log : w.ownsRow B 41 10 E.lv E.nl E.cl
  ll : ∀ b, E.lv.ownBlock = some b → lab b = .log
  lt : ∀ k, lab k ≠ .no → B ≤ k ∧ k < w.heap.size
def machCells (c : Cfg) (g : Int) (E : MachE) (ov : Value) : Array Value := #[.slice E.A c.reps.length E.ca, .slice E.A' c.bnds.length E.cb, .int .i64 g, .pointer (some ⟨E.qp, 0, none⟩), .pointer (some ⟨E.sp, 0, none⟩), .map (some E.mw), .map (some E.md), .map (some E.ms), .map (some E.mv), E.av, E.lv, ov]
structure MachIn (w : World) (B p : Nat) (c : Cfg) (g : Int) (lab : Nat → Lab) (x : MachD) (E : MachE) (ov : Value) : Prop extends MachR w B c lab x E where
  blk : w.heap[p]? = some (.cells (machCells c g E ov) 107 (0, 0))
  lm : lab p = .m
section
variable {w w' : World} {B p : Nat} {c : Cfg} {g : Int} {lab : Nat → Lab} {x : MachD} {E : MachE} {ov : Value} {O : Nat → Prop}
theorem MachR.out (h : MachR w B c lab x E) (ho : Out O w w') (hL : ∀ k, lab k ≠ .no → lab k ≠ .m → lab k ≠ .out → ¬ O k) (hO : ∀ k, O k → B ≤ k) : MachR w' B c lab x E :=
  have hne : ∀ {k : Nat} {l : Lab}, lab k = l → (l ≠ .no ∧ l ≠ .m ∧ l ≠ .out) → ¬ O k := fun e hl => hL _ (by rw [e]; exact hl.1) (by rw [e]; exact hl.2.1) (by rw [e]; exact hl.2.2)
  { h with
    cfg := cfg_out h.cfg ho (h.oA.not hO) (h.oA'.not hO), q := h.q.out ho (fun k e => hne e (by decide)), s := h.s.out ho (fun k e => hne e (by decide))
    hw := h.hw.out ho (hne h.lmw (by decide)), hd := h.hd.out ho (hne h.lmd (by decide)), hs := h.hs.out ho (hne h.lms (by decide)), hv := h.hv.out ho (hne h.lmv (by decide))
    wt := fun i v e => (h.wt i v e).out ho (fun k e2 => hne e2 ⟨fun z => (by cases z), fun z => (by cases z), fun z => (by cases z)⟩) hO, a := h.a.out ho (fun b e => hne (h.la b e) (by decide)), log := ho.row h.log (fun b e => hne (h.ll b e) (by decide))
    lt := fun k e => ⟨(h.lt k e).1, Nat.lt_of_lt_of_le (h.lt k e).2 ho.size⟩ }
theorem MachR.later (h : MachR w B c lab x E) (hb : Below w.heap.size w w') : MachR w' B c lab x E :=
  h.out (O := fun _ => False) (Out.of_below hb) (fun _ _ _ _ e => e) (fun _ e => e.elim)
theorem MachIn.out (h : MachIn w B p c g lab x E ov) (ho : Out O w w') (hL : ∀ k, lab k ≠ .no → ¬ O k) (hO : ∀ k, O k → B ≤ k) : MachIn w' B p c g lab x E ov :=
  { h.toMachR.out ho (fun k a _ _ => hL k a) hO with blk := ho.obj h.blk (hL _ (by rw [h.lm]; decide)), lm := h.lm }
theorem MachIn.later (h : MachIn w B p c g lab x E ov) (hb : Below w.heap.size w w') : MachIn w' B p c g lab x E ov :=
  h.out (O := fun _ => False) (Out.of_below hb) (fun _ _ e => e) (fun _ e => e.elim)
theorem MachR.relab (h : MachR w' B c lab x E) (hlt : ∀ k, lab k ≠ .no → k < w.heap.size) {l : Lab} (hl : l = .m ∨ l = .out) (hw : ∀ k, w.heap.size ≤ k ∧ k < w'.heap.size → B ≤ k) : MachR w' B c (relab lab w w' l) x E := by
  have hne : ∀ {l' : Lab}, l' ≠ .m → l' ≠ .out → l' ≠ .no → (fun k => Go.Proofs.YtcldpmkhpmlcbaaGreatDoor.relab lab w w' l k = l') = (fun k => lab k = l') := fun h1 h2 h3 => relab_ne hlt (by rcases hl with rfl | rfl; exact fun e => h1 e.symm; exact fun e => h2 e.symm) h3
  have hat : ∀ {k : Nat} {l' : Lab}, lab k = l' → l' ≠ .m → l' ≠ .out → l' ≠ .no → Go.Proofs.YtcldpmkhpmlcbaaGreatDoor.relab lab w w' l k = l' := fun {k l'} e h1 h2 h3 => by
    have := congrFun (hne h1 h2 h3) k
    exact this.mpr e
  exact { h with
    q := by rw [hne (by decide) (by decide) (by decide)]; exact h.q
    s := by rw [hne (by decide) (by decide) (by decide)]; exact h.s
    lmw := hat h.lmw (by decide) (by decide) (by decide), lmd := hat h.lmd (by decide) (by decide) (by decide), lms := hat h.lms (by decide) (by decide) (by decide), lmv := hat h.lmv (by decide) (by decide) (by decide)
    wt := fun i v e => by rw [hne (by intro z; cases z) (by intro z; cases z) (by intro z; cases z)]; exact h.wt i v e
    la := fun b e => hat (h.la b e) (by decide) (by decide) (by decide), ll := fun b e => hat (h.ll b e) (by decide) (by decide) (by decide)
    lt := fun k hk => by
      by_cases hkk : w.heap.size ≤ k ∧ k < w'.heap.size
      · exact ⟨hw k hkk, hkk.2⟩
      · have e : Go.Proofs.YtcldpmkhpmlcbaaGreatDoor.relab lab w w' l k = lab k := if_neg hkk
        rw [e] at hk
        exact h.lt k hk }
theorem MachIn.fz (h : MachIn w B p c g lab x E ov) (j : Nat) : w.frozen? ⟨p, j, none⟩ = false := frozen_of_row w p j _ _ h.blk
theorem MachIn.hB (h : MachIn w B p c g lab x E ov) : B ≤ w.heap.size := by
  have := h.lt p (by rw [h.lm]; decide)
  omega
/-- A cell of the machine's own block is written. -/
theorem MachIn.setP (h : MachIn w B p c g lab x E ov) (j : Nat) (u : Value) : MachR (w.setCell ⟨p, j, none⟩ u) B c lab x E ∧ (w.setCell ⟨p, j, none⟩ u).heap[p]? = some (.cells ((machCells c g E ov).setIfInBounds j u) 107 (0, 0)) :=
  ⟨h.toMachR.out (out_setc w p j u) (fun k _ h2 _ e => h2 (by rw [e]; exact h.lm)) (fun k e => by rw [e]; exact (h.lt p (by rw [h.lm]; decide)).1), blk_setc u h.blk⟩
theorem MachIn.setOut (h : MachIn w B p c g lab x E ov) (u : Value) : MachIn (w.setCell ⟨p, 11, none⟩ u) B p c g lab x E u :=
  { (h.setP 11 u).1 with blk := (h.setP 11 u).2, lm := h.lm }
end
end Go.Proofs.YtcldpmkhpmlcbaaGreatDoor
/- What a machine tells: its row of outputs grows. -/
namespace Go.Proofs.YtcldpmkhpmlcbaaGreatDoor
open Go.RowKit Go.Shelf Go.Maps

def outV (o : OutD) : List Value := [.int .i64 o.kind, .int .i64 o.dst, .int .i64 o.id.ses, .int .i64 o.id.seq, .int .u64 (o.stamp : Int), .bool o.yes]
def outCells (os : List OutD) : List Value := os.flatMap outV
theorem outCells_snoc (os : List OutD) (o : OutD) : outCells (os ++ [o]) = outCells os ++ outV o := by simp [outCells, List.flatMap_append]
theorem info_out17 : (Tryz.prog.info? 43).map (fun i => (i.zero, i.size, i.bytes)) = some (some (.agg #[.int .i64 0, .int .i64 0, .int .i64 0, .int .i64 0, .int .u64 0, .bool false]), 6, 48) := by kernel_rfl
theorem one_cell_out17 {o : OutD} : ∀ u ∈ outV o, u.oneCell' = true := fun u hu => by
  simp [outV] at hu; rcases hu with rfl | rfl | rfl | rfl | rfl | rfl <;> rfl
def OutRow (w : World) (B : Nat) (lab : Nat → Lab) (ov : Value) (os : List OutD) : Prop := w.ownsRow B 43 6 ov os.length (outCells os) ∧ ∀ b, ov.ownBlock = some b → lab b = .out
/-- Labels of older blocks stay. -/
def LabExt (lab lab' : Nat → Lab) (n : Nat) : Prop := ∀ k, k < n → lab' k = lab k
theorem LabExt.refl (lab : Nat → Lab) (n : Nat) : LabExt lab lab n := fun _ _ => rfl
theorem LabExt.trans {a b c : Nat → Lab} {n m : Nat} (h : LabExt a b n) (h' : LabExt b c m) (hn : n ≤ m) : LabExt a c n := fun k hk => (h' k (Nat.lt_of_lt_of_le hk hn)).trans (h k hk)
theorem relab_ext (lab : Nat → Lab) (w w' : World) (l : Lab) : LabExt lab (relab lab w w' l) w.heap.size := fun k hk => if_neg (by omega)
theorem Out.trans_old {O O' : Nat → Prop} {W X Y : World} (h : Out O W X) (h' : Out O' X Y) (hO : ∀ k, k < W.heap.size → O' k → O k) : Out O W Y :=
  ⟨h'.os.trans h.os, h'.tape.trans h.tape, h'.output.trans h.output, Nat.le_trans h.size h'.size, fun k hk hn => (h'.block k (Nat.lt_of_lt_of_le hk h.size) (fun o => hn (hO k hk o))).trans (h.block k hk hn)⟩
section
variable {X w15 : World} {B p : Nat} {c : Cfg} {g : Int} {lab : Nat → Lab} {x : MachD} {E : MachE} {ov ov' : Value}
theorem MachIn.pushOut (h : MachIn X B p c g lab x E ov) (hl : ∀ b, ov.ownBlock = some b → lab b = .out) (hg : X.grownBy w15 ov.ownBlock) {n : Nat} {xs : List Value} (hr : w15.ownsRow B 43 6 ov' n xs) (hv : ov'.ownBlock = ov.ownBlock ∨ ov'.ownBlock = some X.heap.size) :
    MachIn (w15.setCell ⟨p, 11, none⟩ ov') B p c g (relab lab X w15 .out) x E ov' ∧ (w15.setCell ⟨p, 11, none⟩ ov').ownsRow B 43 6 ov' n xs ∧ (∀ b, ov'.ownBlock = some b → relab lab X w15 .out b = .out) ∧ Out (fun k => lab k = .m ∨ lab k = .out) X (w15.setCell ⟨p, 11, none⟩ ov') := by
  have ho : Out (fun k => ov.ownBlock = some k) X w15 := Out.of_grown hg (fun k e => e)
  have hlow : ∀ k, ov.ownBlock = some k → B ≤ k := fun k e => (h.lt k (by rw [hl k e]; decide)).1
  have hpo : ∀ {k}, ov.ownBlock = some k → k ≠ p := fun e z => by
    have := hl _ e
    rw [z, h.lm] at this
    cases this
  have h1 : MachR w15 B c lab x E := h.toMachR.out ho (fun k _ _ h3 e => h3 (hl k e)) hlow
  have hb1 := ho.obj h.blk (fun e => hpo e rfl)
  have hs := ho.size
  have hsz : (w15.setCell ⟨p, 11, none⟩ ov').heap.size = w15.heap.size := by simp [World.setCell]
  have h2 : MachR w15 B c (relab lab X w15 .out) x E := h1.relab (fun k hk => (h.lt k hk).2) (.inr rfl) (fun k hk => Nat.le_trans h.hB hk.1)
  have hlm : relab lab X w15 .out p = .m := by
    have := (h.lt p (by rw [h.lm]; decide)).2
    rw [relab, if_neg (by omega)]
    exact h.lm
  have hM : MachIn w15 B p c g (relab lab X w15 .out) x E ov := { h2 with blk := hb1, lm := hlm }
  have oP := out_setc w15 p 11 ov'
  have hpr : ∀ {k}, ov'.ownBlock = some k → k ≠ p := fun {k} e z => by
    rcases hv with hv | hv
    · rw [hv] at e; exact hpo e z
    · rw [hv] at e
      injection e with e
      have := (h.lt p (by rw [h.lm]; decide)).2
      omega
  refine ⟨hM.setOut ov', oP.row hr (fun b hb e => hpr hb e), fun b hb => ?_, (ho.mono fun k e => .inr (hl k e)).trans' (oP.mono fun k e => by rw [e]; exact .inl h.lm)⟩
  rcases hv with hv | hv
  · rw [hv] at hb
    have h3 := hl b hb
    have := (h.lt b (by rw [h3]; decide)).2
    rw [relab, if_neg (by omega)]
    exact h3
  · rw [hv] at hb
    injection hb with hb
    have h3 := (hr.lt b (by rw [hv, hb])).2
    rw [relab, if_pos ⟨by omega, h3⟩]
end
end Go.Proofs.YtcldpmkhpmlcbaaGreatDoor
