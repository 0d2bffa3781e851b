/- certify.New: a tally of groups, or none. -/
import Derived.Test.YtboiafchmdflpaaDoorSorted16
import Derived.Test.YtboiafchmdflpaaDoorTal16
import Derived.WalkSpells
import Derived.WalkLawsBesides
namespace Go.Proofs.YtboiafchmdflpaaDoor
open Go.RowKit Go.Shelf

theorem ret_bool16 {a b : Bool} (h : a = b) : Ending.returned (.bool b) = .returned (.bool a) := by rw [h]
/-! ### slices.Index, Contains, Clone -/
def IndexPost16 (w : World) (bad : Bool) (e : Ending) (w' : World) : Prop := ∃ z : Int, e = .returned (.int .i64 z) ∧ decide (0 ≤ z) = bad ∧ w = w'
def hasI (l : List Int) (g : Int) : Bool := l.contains g
theorem contains_hit {l : List Int} {k : Nat} {x : Int} (hk : k < l.length) (h : l.getD k 0 = x) : l.contains x = true := by
  rw [List.getD_eq_getElem?_getD, List.getElem?_eq_getElem hk] at h
  simp only [Option.getD_some] at h
  rw [List.contains_iff_mem, ← h]
  exact List.getElem_mem hk
set_option maxRecDepth 100000 in
theorem index16_any (l : List Int) (A : Option Addr) (ca : Nat) (g : Int) (w : World) (hA : IntsAt w A l) (hn : l.length ≤ 1000000) :
    Calls Tryd.prog 99 #[.slice A l.length ca, .int .i64 g] w (IndexPost16 w (hasI l g)) := by
  go_enter Tryd.func99, Tryd.ntmps99
  go_wp2_with fail
  go_loop [8] (fun i => ∃ k : Nat, k ≤ l.length ∧ i = .int .i64 k ∧ Hid ((l.take k).contains g = false)) (fun i => l.length - (intOf i).toNat)
  case atStart => exact ⟨0, Nat.zero_le _, rfl, rfl⟩
  case round =>
    obtain ⟨k, hk, rfl, HA⟩ := hrel
    by_cases hlt : k < l.length
    · obtain ⟨b, off, x, rfl, d0, HX⟩ := IntsAt.at' hA hlt
      by_cases hx : g = x
      · have HF : Hid (hasI l g = true) := by show _ = _; rw [hx, hasI]; exact contains_hit hlt HX.out
        have h1 : (g == x) = true := by simp [hx]
        clear hx
        go_wp2
        go_ret
        exact ⟨_, rfl, by rw [HF.out]; simp, rfl⟩
      · have HR : Hid ((l.take (k + 1)).contains g = false) := by
          show _ = _
          have e := HX.out
          rw [List.getD_eq_getElem?_getD, List.getElem?_eq_getElem hlt] at e
          simp only [Option.getD_some] at e
          have h0 := HA.out
          rw [List.take_succ_eq_append_getElem hlt, e]
          simp only [List.contains_eq_any_beq, List.any_append, List.any_cons, List.any_nil, Bool.or_false, Bool.or_eq_false_iff] at h0 ⊢
          exact ⟨h0, by simpa using hx⟩
        have h1 : (g == x) = false := by simp [hx]
        clear hx
        go_wp2
        go_round
        case rel => exact ⟨k + 1, by omega, by go_num, HR⟩
        case measure => simp [intOf]; omega
    · have ek : k = l.length := by omega
      have HF : Hid (hasI l g = false) := by show _ = _; have := HA.out; rw [ek, List.take_length] at this; rw [hasI]; exact this
      clear ek
      go_wp2
      go_ret
      exact ⟨_, rfl, by rw [HF.out]; simp, rfl⟩
theorem contains16_any (l : List Int) (A : Option Addr) (ca : Nat) (g : Int) (w : World) (hA : IntsAt w A l) (hn : l.length ≤ 1000000) :
    Calls Tryd.prog 82 #[.slice A l.length ca, .int .i64 g] w fun e w' => e = .returned (.bool (hasI l g)) ∧ w = w' := by
  go_enter Tryd.func82, Tryd.ntmps82
  go_wp2_with (go_at_call 99; refine (index16_any l A ca g _ hA hn).mono ?_; rintro e w1 ⟨z, rfl, hz, rfl⟩; replace hz := Lib.hid hz)
  go_ret
  exact ⟨ret_bool16 hz.out.symm, rfl⟩
set_option maxHeartbeats 2000000 in
set_option maxRecDepth 100000 in
theorem clone16_any (l : List Int) (b off ca : Nat) (w : World) (hA : IntsAt w (some ⟨b, off, none⟩) l) (hn : l.length ≤ 1000000) :
    Calls Tryd.prog 81 #[.slice (some ⟨b, off, none⟩) l.length ca] w (OwnPost w l) := by
  have q22 : ∀ (w : World) (a : Option Addr) (n c n' c' : Nat), (binOp .eql 130 (.slice a n c) (.slice none n' c')).run Tryd.prog w = .ok (.bool a.isNone) w := fun w a n c n' c' => Lib.run_eql_slice_nil w _ _ a n c n' c' Tryd.underlying130
  obtain ⟨i0, hi, hz0, hz1, hz2⟩ := info_parts info_int
  have HA := Lib.hid hA
  clear hA
  go_enter Tryd.func81, Tryd.ntmps81
  go_wp2_with (at_builtin; refine wpList_append_own _ rfl _ _ 130 rfl w.heap.size 3 i0 (.int .i64 0) 1 8 Tryd.underlying130 hi hz0 hz1 hz2 rfl (by decide) _ _ _ rfl (World.ownsRow_made w #[] 0 (Nat.le_refl _) (Nat.zero_le _) (by simp)) ⟨b, off, none⟩ l.length ca (l.map (Value.int .i64)) rfl ?qc1 ?qc2 ?qc3 ?qc4 ?qc5 ?qc6 ?_)
  case qc1 => simp
  case qc2 =>
    intro j u hj
    have hj' : j < l.length := by
      have := (List.getElem?_eq_some_iff.1 hj).1
      simpa using this
    obtain ⟨b', off', e, hc⟩ := HA.out j hj'
    cases e
    rw [Go.WideShapes.add_plain]
    refine (keepA _ hc).trans ?_
    rw [← hj]
    simp [List.getD_eq_getElem?_getD, hj']
  case qc3 => intro u hu; obtain ⟨x, _, rfl⟩ := List.mem_map.1 hu; rfl
  case qc4 => rw [Nat.zero_add]; exact le_maxLen hn
  case qc5 => omega
  case qc6 => simp
  intro v' w1 hown hgrow _
  go_wp2
  go_ret
  exact ⟨v', rfl, by simpa using hown, ((Below.refl _ w).alloc (Nat.le_refl _) _).grown hgrow (by simp) (by intro k hk; simp [Value.ownBlock] at hk; omega)⟩

/-! ### Sorted, and then Compact: how many -/
theorem compact_sorted (l : List Int) : (Lib.compact (sorted l)).Pairwise (· < ·) ∧ ∀ x, x ∈ Lib.compact (sorted l) ↔ x ∈ l := by
  unfold sorted
  have hp := List.mergeSort_perm l (fun x y => decide (x ≤ y))
  have hsrt : (l.mergeSort fun x y => decide (x ≤ y)).Pairwise fun x y => decide (x ≤ y) = true :=
    List.pairwise_mergeSort (fun a b c h1 h2 => by simp only [decide_eq_true_eq] at *; omega) (fun a b => by simp only [Bool.or_eq_true, decide_eq_true_eq]; omega) l
  generalize l.mergeSort (fun x y => decide (x ≤ y)) = s at *
  have hs : ∀ i j, i < j → j < s.toArray.size → s.toArray[i]! ≤ s.toArray[j]! := by
    intro i j hij hj
    have hj' : j < s.length := by simpa using hj
    have := List.pairwise_iff_getElem.1 hsrt i j (by omega) hj' hij
    simp only [decide_eq_true_eq] at this
    rw [getElem!_pos s.toArray i (by simp; omega), getElem!_pos s.toArray j (by simp; omega)]
    simpa using this
  obtain ⟨h1, h2⟩ := compact_spec s.toArray hs s.length (by simp)
  refine ⟨h1, fun x => ?_⟩
  rw [show Lib.compact s = Lib.compactUpTo s.toArray s.length from rfl, h2, ← hp.mem_iff, List.mem_iff_getElem]
  constructor
  · rintro ⟨j, hj, e⟩
    rw [getElem!_pos s.toArray j (by simp; omega)] at e
    exact ⟨j, hj, by simpa using e⟩
  · rintro ⟨j, hj, e⟩
    refine ⟨j, hj, ?_⟩
    rw [getElem!_pos s.toArray j (by simp; omega)]
    simpa using e
theorem dup_less : ∀ {l : List Int}, ¬ l.Nodup → ∃ l' : List Int, l'.length < l.length ∧ ∀ x ∈ l, x ∈ l'
  | [], h => absurd List.nodup_nil h
  | a :: l, h => by
    by_cases ha : a ∈ l
    · exact ⟨l, by simp, fun x hx => by rcases List.mem_cons.1 hx with rfl | hx; exact ha; exact hx⟩
    · have hl : ¬ l.Nodup := fun hn => h (List.nodup_cons.2 ⟨ha, hn⟩)
      obtain ⟨l', h1, h2⟩ := dup_less hl
      exact ⟨a :: l', by simp; omega, fun x hx => by rcases List.mem_cons.1 hx with rfl | hx; exact List.mem_cons_self; exact List.mem_cons_of_mem _ (h2 x hx)⟩
theorem rising_nodup {l : List Int} (h : l.Pairwise (· < ·)) : l.Nodup := h.imp (fun {a b} hab e => by omega)
theorem compact_le (l : List Int) : (Lib.compact (sorted l)).length ≤ l.length :=
  nodup_le (rising_nodup (compact_sorted l).1) fun x hx => ((compact_sorted l).2 x).1 hx
theorem compact_nodup {l : List Int} (h : l.Nodup) : ¬ (Lib.compact (sorted l)).length < l.length := by
  have := nodup_le (m := Lib.compact (sorted l)) h fun x hx => ((compact_sorted l).2 x).2 hx
  omega
theorem compact_dup {l : List Int} (h : ¬ l.Nodup) : (Lib.compact (sorted l)).length < l.length := by
  obtain ⟨l', h1, h2⟩ := dup_less h
  have := nodup_le (m := l') (rising_nodup (compact_sorted l).1) fun x hx => h2 x (((compact_sorted l).2 x).1 hx)
  omega

/-! ### New -/
theorem values16 (a : Option Addr) (len cap : Nat) (w : World) :
    Calls Tryd.prog 79 #[.slice a len cap] w fun e w' => e = .returned (.func (.func 98) #[] #[.pointer (some ⟨w.heap.size, 0, none⟩)]) ∧ Below w.heap.size w w' ∧ w.heap.size < w'.heap.size ∧ w'.cell? ⟨w.heap.size, 0, none⟩ = some (.slice a len cap) :=
  (values_any a len cap w).mono fun _ _ ⟨he, hw⟩ => ⟨he, hw ▸ ⟨below1 _ _, by simp, by simp⟩⟩
def SlicePost (w : World) (zs : List Int) (e : Ending) (w' : World) : Prop := ∃ A cap, e = .returned (.slice A zs.length cap) ∧ w'.ownsRow w.heap.size 3 1 (.slice A zs.length cap) zs.length (zs.map (Value.int .i64)) ∧ Below w.heap.size w w'
theorem OwnPost.slice {w : World} {zs : List Int} {e : Ending} {w' : World} (h : OwnPost w zs e w') : SlicePost w zs e w' := by
  obtain ⟨v, rfl, h1, h2⟩ := h
  obtain ⟨A, cap, rfl, _⟩ := own_ints h1
  exact ⟨A, cap, rfl, h1, h2⟩
def SortedPost (w : World) (n : Nat) (zs : List Int) (e : Ending) (w' : World) : Prop := ∃ A cap, e = .returned (.slice A n cap) ∧ w'.ownsRow w.heap.size 3 1 (.slice A n cap) zs.length (zs.map (Value.int .i64)) ∧ Below w.heap.size w w'
theorem sorted16 (Bs : Nat) (sv : Value) (zs : List Int) (hlen : zs.length ≤ 1000000) (w : World) (hBs : Bs < w.heap.size) (hc : w.cell? ⟨Bs, 0, none⟩ = some sv) (hI : IntsIn w.heap.size w sv zs) :
    Calls Tryd.prog 78 #[.func (.func 98) #[] #[.pointer (some ⟨Bs, 0, none⟩)]] w (SortedPost w zs.length (sorted zs)) := by
  refine (sorted_any Bs sv zs hlen w hBs hc hI).mono ?_
  rintro e w' h
  obtain ⟨A, cap, rfl, h1, h2⟩ := OwnPost.slice h
  rw [show (sorted zs).length = zs.length from sorted_length zs] at h1 ⊢
  exact ⟨A, cap, rfl, by rw [sorted_length]; exact h1, h2⟩
def CompactPost (w : World) (v : Value) (zs : List Int) (e : Ending) (w' : World) : Prop := ∃ A cap, e = .returned (.slice A zs.length cap) ∧ w.grownBy w' v.ownBlock
theorem compact16 (base : Nat) (v : Value) (l : List Int) (w : World) (h : w.ownsRow base 3 1 v l.length (l.map (Value.int .i64))) (hl : l.length ≤ 1000000) :
    Calls Tryd.prog 80 #[v] w (CompactPost w v (Lib.compact l)) := by
  refine (compact_own base v l w h hl).mono ?_
  rintro e w' ⟨⟨v', rfl, hown⟩, hg⟩
  obtain ⟨A, cap, rfl, _⟩ := own_ints hown
  exact ⟨A, cap, rfl, hg⟩
set_option maxRecDepth 100000 in
set_option maxHeartbeats 1000000 in
theorem new_empty (A : Option Addr) (ca : Nat) (w : World) :
    Calls Tryd.prog 46 #[.slice A 0 ca] w fun e w' => e = .returned (.pointer none) ∧ Below w.heap.size w w' := by
  go_enter Tryd.func46, Tryd.ntmps46
  go_wp2_with (first
    | (go_at_call 79; refine (values16 _ _ _ _).mono ?_; rintro e w1 ⟨rfl, HB, hs, hc⟩)
    | (go_at_call 78; refine (sorted16 w.heap.size (.slice A 0 ca) [] (Nat.zero_le _) _ hs hc (.inl ⟨A, ca, rfl, rfl⟩)).mono ?_; rintro e w2 ⟨A2, c2, rfl, hown, hb⟩; replace HB := keepB HB hb))
  go_ret
  exact ⟨rfl, HB⟩
set_option maxRecDepth 100000 in
set_option maxHeartbeats 1000000 in
theorem new_dup (gs : List Int) (b off ca : Nat) (w : World) (hA : IntsAt w (some ⟨b, off, none⟩) gs) (hn : gs.length ≤ 1000000) (h0 : 0 < gs.length) (hd : ¬ gs.Nodup) :
    Calls Tryd.prog 46 #[.slice (some ⟨b, off, none⟩) gs.length ca] w fun e w' => e = .returned (.pointer none) ∧ Below w.heap.size w w' := by
  have q0 : ((gs.length : Int) == 0) = false := by rw [beq_eq_false_iff_ne]; omega
  have q1 : decide ((Lib.compact (sorted gs)).length < gs.length) = true := decide_eq_true (compact_dup hd)
  clear hd
  go_enter Tryd.func46, Tryd.ntmps46
  go_wp2_with (first
    | (go_at_call 79; refine (values16 _ _ _ _).mono ?_; rintro e w1 ⟨rfl, HB, hs, hc⟩)
    | (go_at_call 78; refine (sorted16 w.heap.size (.slice (some ⟨b, off, none⟩) gs.length ca) gs hn _ hs hc (IntsIn.of (CellsAt.later hA HB))).mono ?_; rintro e w2 ⟨A2, c2, rfl, hown, hb⟩)
    | (go_at_call 80; refine (compact16 _ _ (sorted gs) _ (by rw [sorted_length]; rw [sorted_length] at hown; exact hown) (by rw [sorted_length]; exact hn)).mono ?_; rintro e w3 ⟨A3, c3, rfl, hg⟩))
  go_ret
  exact ⟨rfl, keepB HB (own_below hb (Nat.le_refl _) hown hg)⟩
end Go.Proofs.YtboiafchmdflpaaDoor
