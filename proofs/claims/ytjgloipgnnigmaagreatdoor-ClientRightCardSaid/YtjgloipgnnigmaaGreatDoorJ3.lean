/- The plain words of layer 7's places: how many replicas, whose place, whose replica. -/
import Derived.Test.YtjgloipgnnigmaaGreatDoorJ1
import Derived.Test.YtjgloipgnnigmaaGreatDoorJ2
set_option linter.unusedVariables false
set_option linter.unusedSimpArgs false
namespace Go.Proofs.YtjgloipgnnigmaaGreatDoor

def sumTo (l : List Int) : Nat → Int
  | 0 => 0
  | k + 1 => sumTo l k + l.getD k 0
def totZ (c : Cfg) : Int := if formedB c then sumTo c.reps c.reps.length else 0
/-- From group g on: whose is the place p? -/
def atGo (l : List Int) : Nat → Nat → Int → Int × Int
  | 0, _, _ => (-1, -1)
  | f + 1, g, p => if p < l.getD g 0 then ((g : Int), p) else atGo l f (g + 1) (p - l.getD g 0)
def atZ (c : Cfg) (p : Int) : Int × Int := if 0 ≤ p ∧ p < totZ c then atGo c.reps c.reps.length 0 p else (-1, -1)
def hasB (c : Cfg) (g n : Int) : Bool := formedB c && decide (0 ≤ g) && decide (g < c.reps.length) && decide (0 ≤ n) && decide (n < c.reps.getD g.toNat 0)
def placeZ (c : Cfg) (g n : Int) : Int := if hasB c g n then sumTo c.reps g.toNat + n else -1

theorem formed_repOK {c : Cfg} (h : formedB c = true) {k : Nat} (hk : k < c.reps.length) : repOK (c.reps.getD k 0) = true := by
  cases hr : repOK (c.reps.getD k 0)
  · rw [formed_rep hk hr] at h; cases h
  · rfl
theorem formed_range {c : Cfg} (h : formedB c = true) {k : Nat} (hk : k < c.reps.length) : 1 ≤ c.reps.getD k 0 ∧ c.reps.getD k 0 ≤ 5 := by
  have := formed_repOK h hk
  simp only [repOK, Bool.or_eq_true, beq_iff_eq, or_assoc] at this
  omega
theorem formed_len {c : Cfg} (h : formedB c = true) : 1 ≤ c.reps.length ∧ c.reps.length ≤ 4 ∧ c.bnds.length + 1 = c.reps.length := by
  have : sizesB c = true := by
    cases hz : sizesB c
    · rw [formed_sizes hz] at h; cases h
    · rfl
  simpa [sizesB, and_assoc] using this
theorem sumTo_range {c : Cfg} (h : formedB c = true) : ∀ k, k ≤ c.reps.length → (k : Int) ≤ sumTo c.reps k ∧ sumTo c.reps k ≤ 5 * k
  | 0, _ => by simp [sumTo]
  | k + 1, hk => by
    have h1 := sumTo_range h k (by omega)
    have h2 := formed_range h (k := k) (by omega)
    simp only [sumTo]
    omega
theorem sumTo_mono {c : Cfg} (h : formedB c = true) {i j : Nat} (hij : i ≤ j) (hj : j ≤ c.reps.length) : sumTo c.reps i ≤ sumTo c.reps j := by
  induction j with
  | zero => have : i = 0 := by omega
            subst this; exact Int.le_refl _
  | succ j ih =>
    by_cases e : i = j + 1
    · subst e; exact Int.le_refl _
    · have h1 := ih (by omega) (by omega)
      have h2 := formed_range h (k := j) (by omega)
      simp only [sumTo]
      omega
theorem tot_range (c : Cfg) : 0 ≤ totZ c ∧ totZ c ≤ 20 := by
  unfold totZ
  split
  · rename_i h
    have h1 := sumTo_range h _ (Nat.le_refl _)
    have h2 := formed_len h
    omega
  · omega

/-- At a replica's place: that replica. -/
theorem atGo_found {c : Cfg} (h : formedB c = true) (g : Nat) (hg : g < c.reps.length) (n : Int) (h0 : 0 ≤ n) (hn : n < c.reps.getD g 0) :
    ∀ (f j : Nat), j ≤ g → g < j + f → atGo c.reps f j (sumTo c.reps g - sumTo c.reps j + n) = ((g : Int), n)
  | 0, j, hj, hf => by omega
  | f + 1, j, hj, hf => by
    unfold atGo
    by_cases e : j = g
    · subst e
      rw [Int.sub_self, Int.zero_add, if_pos hn]
    · have hm := sumTo_mono h (i := j + 1) (j := g) (by omega) (by omega)
      have hs : sumTo c.reps (j + 1) = sumTo c.reps j + c.reps.getD j 0 := rfl
      rw [if_neg (by omega)]
      have := atGo_found h g hg n h0 hn f (j + 1) (by omega) (by omega)
      rw [hs] at this
      rw [← this]
      congr 1
      omega
theorem at_found {c : Cfg} (h : formedB c = true) {g : Nat} (hg : g < c.reps.length) {n : Int} (h0 : 0 ≤ n) (hn : n < c.reps.getD g 0) : atZ c (sumTo c.reps g + n) = ((g : Int), n) := by
  have h1 := sumTo_range h g (by omega)
  have h2 := sumTo_mono h (i := g + 1) (j := c.reps.length) (by omega) (Nat.le_refl _)
  have hs : sumTo c.reps (g + 1) = sumTo c.reps g + c.reps.getD g 0 := rfl
  have ht : totZ c = sumTo c.reps c.reps.length := by simp [totZ, h]
  unfold atZ
  rw [if_pos (by omega)]
  have := atGo_found h g hg n h0 hn c.reps.length 0 (by omega) (by omega)
  have h00 : sumTo c.reps 0 = 0 := rfl
  rw [h00, Int.sub_zero] at this
  exact this
theorem at_none {c : Cfg} {p : Int} (h : ¬ (0 ≤ p ∧ p < totZ c)) : atZ c p = (-1, -1) := by
  unfold atZ; rw [if_neg h]
/-- Each place up to the first k groups' is some replica's. -/
theorem split_place {c : Cfg} (h : formedB c = true) {p : Int} (h0 : 0 ≤ p) : ∀ k, k ≤ c.reps.length → p < sumTo c.reps k → ∃ (g : Nat) (n : Int), g < k ∧ 0 ≤ n ∧ n < c.reps.getD g 0 ∧ p = sumTo c.reps g + n
  | 0, _, hp => by simp [sumTo] at hp; omega
  | k + 1, hk, hp => by
    by_cases hlt : p < sumTo c.reps k
    · obtain ⟨g, n, hg, a, b, e⟩ := split_place h h0 k (by omega) hlt
      exact ⟨g, n, by omega, a, b, e⟩
    · have hs : sumTo c.reps (k + 1) = sumTo c.reps k + c.reps.getD k 0 := rfl
      exact ⟨k, p - sumTo c.reps k, by omega, by omega, by omega, by omega⟩
theorem tot_formed {c : Cfg} {p : Int} (h0 : 0 ≤ p) (h : p < totZ c) : formedB c = true := by
  cases hf : formedB c
  · simp [totZ, hf] at h; omega
  · rfl
/-- Whose place is p, of those that are: the one replica that has it. -/
theorem at_some {c : Cfg} {p : Int} (h0 : 0 ≤ p) (h : p < totZ c) : ∃ (g : Nat) (n : Int), g < c.reps.length ∧ 0 ≤ n ∧ n < c.reps.getD g 0 ∧ p = sumTo c.reps g + n ∧ atZ c p = ((g : Int), n) := by
  have hf := tot_formed h0 h
  have ht : totZ c = sumTo c.reps c.reps.length := by simp [totZ, hf]
  obtain ⟨g, n, hg, a, b, rfl⟩ := split_place hf h0 c.reps.length (Nat.le_refl _) (by omega)
  exact ⟨g, n, hg, a, b, rfl, at_found hf hg a b⟩
theorem has_iff {c : Cfg} {g n : Int} : hasB c g n = true ↔ formedB c = true ∧ 0 ≤ g ∧ g < c.reps.length ∧ 0 ≤ n ∧ n < c.reps.getD g.toNat 0 := by
  simp only [hasB, Bool.and_eq_true, decide_eq_true_eq, and_assoc]
theorem place_found {c : Cfg} (h : formedB c = true) {g : Nat} (hg : g < c.reps.length) {n : Int} (h0 : 0 ≤ n) (hn : n < c.reps.getD g 0) : placeZ c g n = sumTo c.reps g + n := by
  have : hasB c g n = true := has_iff.2 ⟨h, by omega, by omega, h0, by simpa using hn⟩
  unfold placeZ
  rw [if_pos this]
  simp
/-- A place's replica has that place. -/
theorem place_at {c : Cfg} {p : Int} (h0 : 0 ≤ p) (h : p < totZ c) : placeZ c (atZ c p).1 (atZ c p).2 = p := by
  obtain ⟨g, n, hg, a, b, e, e2⟩ := at_some h0 h
  rw [e2]
  rw [place_found (tot_formed h0 h) hg a b, e]
/-- A replica's place is its own. -/
theorem at_place {c : Cfg} {g n : Int} (h : hasB c g n = true) : 0 ≤ placeZ c g n ∧ placeZ c g n < totZ c ∧ atZ c (placeZ c g n) = (g, n) := by
  obtain ⟨hf, h1, h2, h3, h4⟩ := has_iff.1 h
  obtain ⟨k, rfl⟩ := Int.eq_ofNat_of_zero_le h1
  have h4' : n < c.reps.getD k 0 := by simpa using h4
  have hk : k < c.reps.length := by omega
  rw [place_found hf hk h3 h4']
  have q1 := sumTo_range hf k (by omega)
  have q2 := sumTo_mono hf (i := k + 1) (j := c.reps.length) (by omega) (Nat.le_refl _)
  have hs : sumTo c.reps (k + 1) = sumTo c.reps k + c.reps.getD k 0 := rfl
  have ht : totZ c = sumTo c.reps c.reps.length := by simp [totZ, hf]
  exact ⟨by omega, by omega, at_found hf hk h3 h4'⟩
/-- Of all places, the one at which a replica is found is its place. -/
theorem place_of_at {c : Cfg} {p g n : Int} (h0 : 0 ≤ p) (h : p < totZ c) (e : atZ c p = (g, n)) : placeZ c g n = p := by
  have := place_at h0 h
  rw [e] at this
  exact this
theorem place_not {c : Cfg} {g n : Int} (h : hasB c g n = false) : placeZ c g n = -1 := by simp [placeZ, h]
end Go.Proofs.YtjgloipgnnigmaaGreatDoor
/- Layer 7's Total, At and Place, the program's and the reference's: what each returns, of every configuration. -/
namespace Go.Proofs.YtjgloipgnnigmaaGreatDoor
open Go.RowKit Go.Shelf

theorem ret_int {k : IntKind} {a b : Int} (h : a = b) : Ending.returned (.int k b) = .returned (.int k a) := by rw [h]
theorem tot_yes {c : Cfg} (h : formedB c = true) : totZ c = sumTo c.reps c.reps.length := by simp [totZ, h]
theorem tot_no {c : Cfg} (h : formedB c = false) : totZ c = 0 := by simp [totZ, h]

set_option maxHeartbeats 1000000 in
theorem refTotal_any (c : Cfg) (A B : Option Addr) (ca cb : Nat) (w : World) (h : CfgAt w c A B) :
    Calls Tryz.prog 188 #[.agg #[.slice A c.reps.length ca, .slice B c.bnds.length cb]] w fun e w' => e = .returned (.int .i64 (totZ c)) ∧ Below w.heap.size w w' := by
  obtain ⟨W, eW, HB, c0, c1⟩ := box2 w (.slice A c.reps.length ca) (.slice B c.bnds.length cb) 25
  have h := h.later HB
  have hnn := h.hn
  cases hf : formedB c
  · have HT := Lib.hid (tot_no hf)
    go_enter Tryz.func188, Tryz.ntmps188
    go_wp2_with fail
    clear eW
    refine wp_loop_rounds 1 ?_
    rw [rounds_succ]
    by_cases h0 : 0 < c.reps.length
    · go_wp2_with (go_at_call 21; refine (refFormed_any c A B ca cb _ h).mono ?_; rintro e w1 ⟨rfl, hb⟩; replace HB := keepB HB hb)
      go_ret
      exact ⟨ret_int HT.out, HB⟩
    · have h1 : c.reps.length = 0 := by omega
      go_wp2
      go_ret
      exact ⟨ret_int HT.out, HB⟩
  · have HT := Lib.hid (tot_yes hf)
    have HS : Hid (∀ k, k ≤ c.reps.length → (k : Int) ≤ sumTo c.reps k ∧ sumTo c.reps k ≤ 5 * k) := sumTo_range hf
    have hn := (formed_len hf).2.1
    have HR : Hid (∀ k, k < c.reps.length → 1 ≤ c.reps.getD k 0 ∧ c.reps.getD k 0 ≤ 5) := fun k hk => formed_range hf hk
    go_enter Tryz.func188, Tryz.ntmps188
    go_wp2_with fail
    clear eW
    go_loopw [3, 4] (fun n i wr => ∃ k : Nat, k ≤ c.reps.length ∧ i = .int .i64 k ∧ n = .int .i64 (sumTo c.reps k) ∧ Below W.heap.size W wr) (fun _ i _ => c.reps.length - (intOf i).toNat)
    case atStart => exact ⟨0, Nat.zero_le _, rfl, rfl, Below.refl _ _⟩
    case round =>
      obtain ⟨k, hk, rfl, rfl, hw⟩ := hrel
      obtain ⟨s1, s2⟩ := HS.out k hk
      have h := h.later hw
      replace c0 := keep hw c0
      replace c1 := keep hw c1
      by_cases hlt : k < c.reps.length
      · obtain ⟨b, off, x, rfl, hc, HX⟩ := IntsAt.at' h.ints hlt
        have hx := HR.out k hlt
        rw [HX.out] at hx
        obtain ⟨x1, x2⟩ := hx
        have HE : Hid (sumTo c.reps (k + 1) = sumTo c.reps k + x) := by show _ = _; rw [sumTo, HX.out]
        generalize sumTo c.reps k = s at *
        go_wp2_with (go_at_call 21; refine (refFormed_any c _ B ca cb _ h).mono ?_; rintro e w1 ⟨rfl, hb⟩; replace c0 := keep hb c0; replace c1 := keep hb c1; replace hc := keep hb hc; replace hw := keepB hw hb)
        go_roundw
        case rel => exact ⟨k + 1, by omega, by go_num, by rw [HE.out], hw⟩
        case measure => simp [intOf]; omega
      · have HK : Hid (totZ c = sumTo c.reps k) := by show _ = _; rw [HT.out, show k = c.reps.length from by omega]
        generalize sumTo c.reps k = s at *
        go_wp2
        go_ret
        exact ⟨ret_int HK.out, keepB HB hw⟩
end Go.Proofs.YtjgloipgnnigmaaGreatDoor
/- Layer 7's At and Place, the program's and the reference's: what each returns, of every configuration. -/
namespace Go.Proofs.YtjgloipgnnigmaaGreatDoor
open Go.RowKit Go.Shelf

theorem ret_pair {a b : Int} {p : Int × Int} (h : p = (a, b)) : Ending.returned (.tuple #[.int .i64 a, .int .i64 b]) = .returned (.tuple #[.int .i64 p.1, .int .i64 p.2]) := by rw [h]

set_option maxHeartbeats 1000000 in
theorem refAt_any (c : Cfg) (p : Int) (A B : Option Addr) (ca cb : Nat) (w : World) (h : CfgAt w c A B) :
    Calls Tryz.prog 27 #[.agg #[.slice A c.reps.length ca, .slice B c.bnds.length cb], .int .i64 p] w fun e w' => e = .returned (.tuple #[.int .i64 (atZ c p).1, .int .i64 (atZ c p).2]) ∧ Below w.heap.size w w' := by
  obtain ⟨W, eW, HB, c0, c1⟩ := box2 w (.slice A c.reps.length ca) (.slice B c.bnds.length cb) 25
  have h := h.later HB
  have hnn := h.hn
  cases hf : formedB c
  · have HE : Hid (atZ c p = (-1, -1)) := at_none (by rw [tot_no hf]; omega)
    go_enter Tryz.func27, Tryz.ntmps27
    go_wp2_with fail
    clear eW
    refine wp_loop_rounds 1 ?_
    rw [rounds_succ]
    by_cases h0 : 0 < c.reps.length
    · go_wp2_with (go_at_call 21; refine (refFormed_any c A B ca cb _ h).mono ?_; rintro e w1 ⟨rfl, hb⟩; replace HB := keepB HB hb)
      go_ret2
      exact ⟨ret_pair HE.out, HB⟩
    · have h1 : c.reps.length = 0 := by omega
      go_wp2
      go_ret2
      exact ⟨ret_pair HE.out, HB⟩
  · have HT := Lib.hid (tot_yes hf)
    have hff := Lib.hid hf
    have HS : Hid (∀ k, k ≤ c.reps.length → (k : Int) ≤ sumTo c.reps k ∧ sumTo c.reps k ≤ 5 * k) := sumTo_range hf
    have hn := (formed_len hf).2.1
    have HR : Hid (∀ k, k < c.reps.length → 1 ≤ c.reps.getD k 0 ∧ c.reps.getD k 0 ≤ 5) := fun k hk => formed_range hf hk
    go_enter Tryz.func27, Tryz.ntmps27
    go_wp2_with fail
    clear eW
    go_loopw [6, 7] (fun n i wr => ∃ k : Nat, k ≤ c.reps.length ∧ i = .int .i64 k ∧ n = .int .i64 (sumTo c.reps k) ∧ Below W.heap.size W wr ∧ ¬ (0 ≤ p ∧ p < sumTo c.reps k)) (fun _ i _ => c.reps.length - (intOf i).toNat)
    case atStart => exact ⟨0, Nat.zero_le _, rfl, rfl, Below.refl _ _, by show ¬ (0 ≤ p ∧ p < 0); omega⟩
    case round =>
      obtain ⟨k, hk, rfl, rfl, hw, hno⟩ := hrel
      obtain ⟨s1, s2⟩ := HS.out k hk
      have h := h.later hw
      replace c0 := keep hw c0
      replace c1 := keep hw c1
      by_cases hlt : k < c.reps.length
      · obtain ⟨b, off, x, rfl, hc, HX⟩ := IntsAt.at' h.ints hlt
        have hx := HR.out k hlt
        rw [HX.out] at hx
        obtain ⟨x1, x2⟩ := hx
        have HE : Hid (sumTo c.reps (k + 1) = sumTo c.reps k + x) := by show _ = _; rw [sumTo, HX.out]
        have HF : Hid (∀ m : Int, 0 ≤ m → m < x → atZ c (sumTo c.reps k + m) = ((k : Int), m)) := fun m m0 m1 => at_found hff.out hlt m0 (by rw [HX.out]; exact m1)
        generalize hs : sumTo c.reps k = s at *
        clear hs
        go_wp2_with (go_at_call 21; refine (refFormed_any c _ B ca cb _ h).mono ?_; rintro e w1 ⟨rfl, hb⟩; replace c0 := keep hb c0; replace c1 := keep hb c1; replace hc := keep hb hc; replace hw := keepB hw hb)
        go_loop [6, 8] (fun n i => ∃ m : Int, 0 ≤ m ∧ m ≤ x ∧ i = .int .i64 m ∧ n = .int .i64 (s + m) ∧ ¬ (0 ≤ p ∧ p < s + m)) (fun _ i => (x - intOf i).toNat)
        case atStart => exact ⟨0, by omega, by omega, rfl, by rw [Int.add_zero], by rw [Int.add_zero]; exact hno⟩
        case round =>
          obtain ⟨m, m0, m1, rfl, rfl, hno2⟩ := hrel
          by_cases hm : m < x
          · by_cases hp : s + m = p
            · have HE2 : Hid (atZ c p = ((k : Int), m)) := by show _ = _; rw [← hp]; exact HF.out m m0 hm
              have hpb : (s + m == p) = true := by rw [beq_iff_eq]; exact hp
              clear hp hno hno2
              go_wp2
              go_ret2
              exact ⟨ret_pair HE2.out, keepB HB hw⟩
            · have hpb : (s + m == p) = false := by rw [beq_eq_false_iff_ne]; exact hp
              have hno3 : ¬ (0 ≤ p ∧ p < s + (m + 1)) := by omega
              have HN := Lib.hid hno3
              clear hp hno hno2 hno3
              go_wp2
              go_round
              case rel => exact ⟨m + 1, by omega, by omega, rfl, by rw [Int.add_assoc], HN.out⟩
              case measure => simp [intOf]; omega
          · have hmx : m = x := by omega
            have hno3 : ¬ (0 ≤ p ∧ p < s + x) := by omega
            have HN := Lib.hid hno3
            subst hmx
            clear hno hno2 hno3
            go_wp2
            go_roundw
            case rel => exact ⟨k + 1, by omega, by go_num, by rw [HE.out], hw, by rw [HE.out]; exact HN.out⟩
            case measure => simp [intOf]; omega
      · have HK : Hid (atZ c p = (-1, -1)) := by
          show _ = _
          have e : k = c.reps.length := by omega
          subst e
          exact at_none (by rw [HT.out]; exact hno)
        generalize hs : sumTo c.reps k = s at *
        clear hs hno
        go_wp2
        go_ret2
        exact ⟨ret_pair HK.out, keepB HB hw⟩
end Go.Proofs.YtjgloipgnnigmaaGreatDoor
/- Layer 7's Place, the program's and the reference's, and whether a configuration is few. -/
namespace Go.Proofs.YtjgloipgnnigmaaGreatDoor
open Go.RowKit Go.Shelf

theorem At_pair {P : Program} {f : FuncId} {args : Array Value} {w : World} {z : Int × Int} {x y : Int} (e : z = (x, y))
    (h : Calls P f args w fun e w' => e = .returned (.tuple #[.int .i64 z.1, .int .i64 z.2]) ∧ Below w.heap.size w w') :
    Calls P f args w fun e w' => e = .returned (.tuple #[.int .i64 x, .int .i64 y]) ∧ Below w.heap.size w w' := by
  rw [e] at h; exact h

set_option maxHeartbeats 1000000 in
theorem place_any (c : Cfg) (g n : Int) (A B : Option Addr) (ca cb : Nat) (w : World) (h : CfgAt w c A B) (hca : c.reps.length ≤ ca) :
    Calls Tryz.prog 87 #[.agg #[.slice A c.reps.length ca, .slice B c.bnds.length cb], .int .i64 g, .int .i64 n] w fun e w' => e = .returned (.int .i64 (placeZ c g n)) ∧ Below w.heap.size w w' := by
  obtain ⟨W, eW, HB, c0, c1⟩ := box2 w (.slice A c.reps.length ca) (.slice B c.bnds.length cb) 25
  have h := h.later HB
  cases hf : formedB c
  · have HE : Hid (placeZ c g n = -1) := place_not (by simp [hasB, hf])
    go_enter Tryz.func87, Tryz.ntmps87
    go_wp2_with (go_at_call 55; refine (formed_any c A B ca cb _ h).mono ?_; rintro e w1 ⟨rfl, hb⟩; replace c0 := keep hb c0; replace h := h.later hb; replace HB := keepB HB hb)
    go_ret
    exact ⟨ret_int HE.out, HB⟩
  · by_cases g0 : 0 ≤ g
    · by_cases g1 : g < c.reps.length
      · by_cases n0 : 0 ≤ n
        · obtain ⟨k, rfl⟩ := Int.eq_ofNat_of_zero_le g0
          have hk : k < c.reps.length := by omega
          obtain ⟨b, off, x, e, hc, HX⟩ := IntsAt.at' h.ints hk
          subst e
          by_cases n1 : n < x
          · have HE : Hid (placeZ c k n = sumTo c.reps k + n) := place_found hf hk n0 (by rw [HX.out]; exact n1)
            have HS : Hid (∀ k, k ≤ c.reps.length → (k : Int) ≤ sumTo c.reps k ∧ sumTo c.reps k ≤ 5 * k) := sumTo_range hf
            have HR : Hid (∀ k, k < c.reps.length → 1 ≤ c.reps.getD k 0 ∧ c.reps.getD k 0 ≤ 5) := fun k hk => formed_range hf hk
            have hx := HR.out k hk
            rw [HX.out] at hx
            have hn := (formed_len hf).2.1
            go_enter Tryz.func87, Tryz.ntmps87
            go_wp2_with (go_at_call 55; refine (formed_any c _ B ca cb _ h).mono ?_; rintro e w1 ⟨rfl, hb⟩; replace c0 := keep hb c0; replace hc := keep hb hc; replace h := h.later hb; replace HB := keepB HB hb)
            go_loop [2, 41] (fun q i => ∃ (j : Nat), j ≤ k ∧ i = .int .i64 j ∧ q = .int .i64 (n + sumTo c.reps j)) (fun _ i => k - (intOf i).toNat)
            case atStart => exact ⟨0, Nat.zero_le _, rfl, by show _ = Value.int .i64 (n + 0); rw [Int.add_zero]⟩
            case round =>
              obtain ⟨j, hj, rfl, rfl⟩ := hrel
              have hsj := HS.out j (by omega)
              by_cases hlt : j < k
              · obtain ⟨b', off', y, e, hc', HY⟩ := IntsAt.at' h.ints (k := j) (by omega)
                injection e with e
                injection e with e1 e2
                subst e1 e2
                have hy := HR.out j (by omega)
                rw [HY.out] at hy
                have HE2 : Hid (sumTo c.reps (j + 1) = sumTo c.reps j + y) := by show _ = _; rw [sumTo, HY.out]
                generalize hs : sumTo c.reps j = s at *
                clear hs
                go_wp2
                go_round
                case rel => exact ⟨j + 1, by omega, by go_num, by rw [HE2.out, Int.add_assoc]⟩
                case measure => simp [intOf]; omega
              · have HK : Hid (placeZ c k n = n + sumTo c.reps j) := by show _ = _; rw [HE.out, show j = k from by omega, Int.add_comm]
                generalize hs : sumTo c.reps j = s at *
                clear hs
                go_wp2
                go_ret
                exact ⟨ret_int HK.out, HB⟩
          · have HE : Hid (placeZ c k n = -1) := place_not (by
              cases hh : hasB c k n
              · rfl
              · have := (has_iff.1 hh).2.2.2.2
                simp only [Int.toNat_natCast, HX.out] at this
                omega)
            go_enter Tryz.func87, Tryz.ntmps87
            go_wp2_with (go_at_call 55; refine (formed_any c _ B ca cb _ h).mono ?_; rintro e w1 ⟨rfl, hb⟩; replace c0 := keep hb c0; replace hc := keep hb hc; replace h := h.later hb; replace HB := keepB HB hb)
            go_ret
            exact ⟨ret_int HE.out, HB⟩
        · have HE : Hid (placeZ c g n = -1) := place_not (by simp [hasB, n0])
          go_enter Tryz.func87, Tryz.ntmps87
          go_wp2_with (go_at_call 55; refine (formed_any c A B ca cb _ h).mono ?_; rintro e w1 ⟨rfl, hb⟩; replace c0 := keep hb c0; replace h := h.later hb; replace HB := keepB HB hb)
          go_ret
          exact ⟨ret_int HE.out, HB⟩
      · have HE : Hid (placeZ c g n = -1) := place_not (by simp [hasB, g1])
        go_enter Tryz.func87, Tryz.ntmps87
        go_wp2_with (go_at_call 55; refine (formed_any c A B ca cb _ h).mono ?_; rintro e w1 ⟨rfl, hb⟩; replace c0 := keep hb c0; replace h := h.later hb; replace HB := keepB HB hb)
        go_ret
        exact ⟨ret_int HE.out, HB⟩
    · have HE : Hid (placeZ c g n = -1) := place_not (by simp [hasB, g0])
      go_enter Tryz.func87, Tryz.ntmps87
      go_wp2_with (go_at_call 55; refine (formed_any c A B ca cb _ h).mono ?_; rintro e w1 ⟨rfl, hb⟩; replace c0 := keep hb c0; replace h := h.later hb; replace HB := keepB HB hb)
      go_ret
      exact ⟨ret_int HE.out, HB⟩

set_option maxHeartbeats 1000000 in
theorem refPlace_any (c : Cfg) (g n : Int) (A B : Option Addr) (ca cb : Nat) (w : World) (h : CfgAt w c A B) :
    Calls Tryz.prog 161 #[.agg #[.slice A c.reps.length ca, .slice B c.bnds.length cb], .int .i64 g, .int .i64 n] w fun e w' => e = .returned (.int .i64 (placeZ c g n)) ∧ Below w.heap.size w w' := by
  obtain ⟨W, eW, HB, c0, c1⟩ := box2 w (.slice A c.reps.length ca) (.slice B c.bnds.length cb) 25
  have h := h.later HB
  have h20 := tot_range c
  have HTOT : ∀ W : World, CfgAt W c A B → Calls Tryz.prog 188 #[.agg #[.slice A c.reps.length ca, .slice B c.bnds.length cb]] W fun e w' => e = .returned (.int .i64 (totZ c)) ∧ Below W.heap.size W w' := fun W hW => refTotal_any c A B ca cb W hW
  have HAT : Hid (∀ p, 0 ≤ p → p < totZ c → atZ c p = (g, n) → placeZ c g n = p) := fun p p0 p1 e => place_of_at p0 p1 e
  have HNO : Hid ((∀ p : Int, 0 ≤ p → p < totZ c → atZ c p ≠ (g, n)) → placeZ c g n = -1) := fun hno => place_not (by
    cases hh : hasB c g n
    · rfl
    · obtain ⟨q0, q1, q2⟩ := at_place hh
      exact absurd q2 (hno _ q0 q1))
  generalize totZ c = tot at *
  have HTOT := Lib.hid HTOT
  go_enter Tryz.func161, Tryz.ntmps161
  go_wp2_with fail
  clear eW
  go_loopw [7] (fun i wr => ∃ k : Int, 0 ≤ k ∧ k ≤ tot ∧ i = .int .i64 k ∧ Below W.heap.size W wr ∧ Hid (∀ p : Int, 0 ≤ p → p < k → atZ c p ≠ (g, n))) (fun i _ => (tot - intOf i).toNat)
  case atStart => exact ⟨0, Int.le_refl _, h20.1, rfl, Below.refl _ _, fun p h0 h1 => by omega⟩
  case round =>
    obtain ⟨k, k0, k1, rfl, hw, HN⟩ := hrel
    have h := h.later hw
    replace c0 := keep hw c0
    replace c1 := keep hw c1
    by_cases hlt : k < tot
    · obtain ⟨x, y, hxy⟩ : ∃ x y, atZ c k = (x, y) := ⟨_, _, rfl⟩
      have HXY := Lib.hid hxy
      clear hxy
      by_cases hxg : x = g
      · by_cases hyn : y = n
        · have HE : Hid (placeZ c g n = k) := HAT.out k k0 hlt (by rw [HXY.out, hxg, hyn])
          have e1 : (x == g) = true := by rw [beq_iff_eq]; exact hxg
          have e2 : (y == n) = true := by rw [beq_iff_eq]; exact hyn
          clear hxg hyn
          go_wp2_with (first
            | (go_at_call 188; refine (HTOT.out _ h).mono ?_; rintro e w1 ⟨rfl, hb⟩; replace c0 := keep hb c0; replace c1 := keep hb c1; replace h := h.later hb; replace hw := keepB hw hb)
            | (go_at_call 27; refine (At_pair HXY.out (refAt_any c k A B ca cb _ h)).mono ?_; rintro e w1 ⟨rfl, hb⟩; replace hw := keepB hw hb))
          go_ret
          exact ⟨ret_int HE.out, keepB HB hw⟩
        · have HM : Hid (∀ p : Int, 0 ≤ p → p < k + 1 → atZ c p ≠ (g, n)) := fun p p0 p1 e => by
            by_cases hpk : p = k
            · subst hpk; rw [HXY.out] at e; injection e with _ e; exact hyn e
            · exact HN.out p p0 (by omega) e
          have e1 : (x == g) = true := by rw [beq_iff_eq]; exact hxg
          have e2 : (y == n) = false := by rw [beq_eq_false_iff_ne]; exact hyn
          clear hxg hyn
          go_wp2_with (first
            | (go_at_call 188; refine (HTOT.out _ h).mono ?_; rintro e w1 ⟨rfl, hb⟩; replace c0 := keep hb c0; replace c1 := keep hb c1; replace h := h.later hb; replace hw := keepB hw hb)
            | (go_at_call 27; refine (At_pair HXY.out (refAt_any c k A B ca cb _ h)).mono ?_; rintro e w1 ⟨rfl, hb⟩; replace hw := keepB hw hb))
          go_roundw
          case rel => exact ⟨k + 1, by omega, by omega, rfl, hw, HM⟩
          case measure => simp [intOf]; omega
      · have HM : Hid (∀ p : Int, 0 ≤ p → p < k + 1 → atZ c p ≠ (g, n)) := fun p p0 p1 e => by
          by_cases hpk : p = k
          · subst hpk; rw [HXY.out] at e; injection e with e _; exact hxg e
          · exact HN.out p p0 (by omega) e
        have e1 : (x == g) = false := by rw [beq_eq_false_iff_ne]; exact hxg
        clear hxg
        go_wp2_with (first
          | (go_at_call 188; refine (HTOT.out _ h).mono ?_; rintro e w1 ⟨rfl, hb⟩; replace c0 := keep hb c0; replace c1 := keep hb c1; replace h := h.later hb; replace hw := keepB hw hb)
          | (go_at_call 27; refine (At_pair HXY.out (refAt_any c k A B ca cb _ h)).mono ?_; rintro e w1 ⟨rfl, hb⟩; replace hw := keepB hw hb))
        go_roundw
        case rel => exact ⟨k + 1, by omega, by omega, rfl, hw, HM⟩
        case measure => simp [intOf]; omega
    · have HE : Hid (placeZ c g n = -1) := HNO.out (fun p p0 p1 => HN.out p p0 (by omega))
      go_wp2_with (go_at_call 188; refine (HTOT.out _ h).mono ?_; rintro e w1 ⟨rfl, hb⟩; replace hw := keepB hw hb)
      go_ret
      exact ⟨ret_int HE.out, keepB HB hw⟩

/-- Up to the k-th no string is longer than 1000. -/
def shortTo (l : List ByteArray) (m : Nat) : Nat → Bool
  | 0 => true
  | k + 1 => shortTo l m k && decide ((l.getD k noStr).size ≤ m)
def fewB (c : Cfg) : Bool := shortTo c.bnds 1000 (min c.bnds.length 20) && decide (c.reps.length ≤ 20) && decide (c.bnds.length ≤ 20)
theorem shortTo_false {l : List ByteArray} {m k n : Nat} (hk : k < n) (h : ¬ (l.getD k noStr).size ≤ m) : shortTo l m n = false := by
  induction n with
  | zero => omega
  | succ n ih =>
    by_cases e : k = n
    · subst e; simp only [shortTo, decide_eq_false h, Bool.and_false]
    · simp [shortTo, ih (by omega)]
theorem shortTo_next {l : List ByteArray} {m k : Nat} {x : ByteArray} (h : shortTo l m k = true) (hx : l.getD k noStr = x) (hs : x.size ≤ m) : shortTo l m (k + 1) = true := by
  simp only [shortTo, h, hx, decide_eq_true hs, Bool.and_self]

set_option maxHeartbeats 1000000 in
theorem few_any (c : Cfg) (A B : Option Addr) (ca cb : Nat) (w : World) (h : CfgAt w c A B) :
    Calls Tryz.prog 34 #[.agg #[.slice A c.reps.length ca, .slice B c.bnds.length cb]] w fun e w' => e = .returned (.bool (fewB c)) ∧ Below w.heap.size w w' := by
  obtain ⟨W, eW, HB, c0, c1⟩ := box2 w (.slice A c.reps.length ca) (.slice B c.bnds.length cb) 25
  have h := h.later HB
  have hn := h.hn
  have hm := h.hm
  go_enter Tryz.func34, Tryz.ntmps34
  go_wp2_with fail
  clear eW
  go_loop [3] (fun i => ∃ k : Nat, k ≤ c.bnds.length ∧ k ≤ 20 ∧ i = .int .i64 k ∧ Hid (shortTo c.bnds 1000 k = true)) (fun i => c.bnds.length - (intOf i).toNat)
  case atStart => exact ⟨0, Nat.zero_le _, by omega, rfl, rfl⟩
  case round =>
    obtain ⟨k, hk, hk2, rfl, HA⟩ := hrel
    by_cases hlt : k < c.bnds.length ∧ k < 20
    · obtain ⟨hl1, hl2⟩ := hlt
      obtain ⟨b, off, x, rfl, hc, HX⟩ := StrsAt.at' h.strs hl1
      by_cases hs : x.size ≤ 1000
      · have HR : Hid (shortTo c.bnds 1000 (k + 1) = true) := shortTo_next HA.out HX.out hs
        go_wp2
        go_round
        case rel => exact ⟨k + 1, by omega, by omega, by go_num, HR⟩
        case measure => simp [intOf]; omega
      · have HF : Hid (fewB c = false) := by show _ = _; rw [fewB, shortTo_false (k := k) (by omega) (by rw [HX.out]; exact hs)]; rfl
        go_wp2
        go_ret
        exact ⟨ret_bool HF.out, HB⟩
    · have HK : Hid (shortTo c.bnds 1000 (min c.bnds.length 20) = true) := by show _ = _; rw [show min c.bnds.length 20 = k from by omega]; exact HA.out
      have HF : Hid (fewB c = (decide (c.reps.length ≤ 20) && decide (c.bnds.length ≤ 20))) := by show _ = _; rw [fewB, HK.out, Bool.true_and]
      by_cases hl1 : k < c.bnds.length
      · have hl2 : ¬ k < 20 := by omega
        by_cases q1 : c.reps.length ≤ 20
        · have q2 : ¬ c.bnds.length ≤ 20 := by omega
          clear hlt
          go_wp2
          go_ret
          exact ⟨ret_bool (by rw [HF.out]; simp [q1, q2]; try omega), HB⟩
        · clear hlt
          go_wp2
          go_ret
          exact ⟨ret_bool (by rw [HF.out]; simp [q1]), HB⟩
      · by_cases q1 : c.reps.length ≤ 20
        · have q2 : c.bnds.length ≤ 20 := by omega
          clear hlt
          go_wp2
          go_ret
          exact ⟨ret_bool (by rw [HF.out]; simp [q1, q2]; try omega), HB⟩
        · clear hlt
          go_wp2
          go_ret
          exact ⟨ret_bool (by rw [HF.out]; simp [q1]), HB⟩
end Go.Proofs.YtjgloipgnnigmaaGreatDoor
/- The plain words of layer 7's Home: how many bounds are not above a key. -/
namespace Go.Proofs.YtjgloipgnnigmaaGreatDoor

/-- Of the first k strings those that are not above the key. -/
def leTo (l : List ByteArray) (key : ByteArray) : Nat → Nat
  | 0 => 0
  | k + 1 => leTo l key k + if lessS key (l.getD k noStr) then 0 else 1
def homeN (c : Cfg) (key : ByteArray) : Nat := leTo c.bnds key c.bnds.length
def homeZ (c : Cfg) (key : ByteArray) : Int := if formedB c then (homeN c key : Int) else -1

theorem leTo_le (l : List ByteArray) (key : ByteArray) : ∀ k, leTo l key k ≤ k
  | 0 => Nat.le_refl _
  | k + 1 => by have := leTo_le l key k; simp only [leTo]; split <;> omega
/-- Behind a search: below p all are below the key, from p on none is. -/
theorem leTo_found {l : List ByteArray} {key : ByteArray} {n p : Nat} (h : risesTo l n = true) (hp : p ≤ n) (h1 : ∀ m, m < p → lessS (l.getD m noStr) key = true) (h2 : ∀ m, p ≤ m → m < n → lessS (l.getD m noStr) key = false) :
    ∀ k, k ≤ n → leTo l key k = min k p + if p < k ∧ l.getD p noStr = key then 1 else 0
  | 0, _ => by simp [leTo]
  | k + 1, hk => by
    have ih := leTo_found h hp h1 h2 k (by omega)
    have step : leTo l key (k + 1) = leTo l key k + (if lessS key (l.getD k noStr) = true then 0 else 1) := rfl
    rw [step, ih]
    by_cases hkp : k < p
    · have hx := lessS_asym (h1 k hkp)
      rw [if_neg (c := lessS key (l.getD k noStr) = true) (by rw [hx]; decide), if_neg (c := p < k ∧ l.getD p noStr = key) (fun q => by have := q.1; omega), if_neg (c := p < k + 1 ∧ l.getD p noStr = key) (fun q => by have := q.1; omega)]
      omega
    · have hn := h2 k (by omega) (by omega)
      by_cases e : k = p
      · subst e
        rw [if_neg (c := k < k ∧ l.getD k noStr = key) (fun q => by have := q.1; omega)]
        by_cases ek : l.getD k noStr = key
        · rw [if_neg (c := lessS key (l.getD k noStr) = true) (by rw [ek, lessS_irr]; decide), if_pos (c := k < k + 1 ∧ l.getD k noStr = key) ⟨by omega, ek⟩]; omega
        · have hx : lessS key (l.getD k noStr) = true := by
            cases hx : lessS key (l.getD k noStr)
            · exact absurd (lessS_tri hn hx) ek
            · rfl
          rw [if_pos (c := lessS key (l.getD k noStr) = true) hx, if_neg (c := k < k + 1 ∧ l.getD k noStr = key) (fun q => ek q.2)]; omega
      · have hlt := rises_mono h (i := p) (j := k) (by omega) (by omega)
        have hx : lessS key (l.getD k noStr) = true := by
          have hpn := h2 p (Nat.le_refl _) (by omega)
          cases hq : lessS key (l.getD p noStr)
          · have := lessS_tri hpn hq; rw [← this]; exact hlt
          · exact lessS_trans hq hlt
        rw [if_pos (c := lessS key (l.getD k noStr) = true) hx]
        by_cases ek : l.getD p noStr = key
        · rw [if_pos (c := p < k ∧ l.getD p noStr = key) ⟨by omega, ek⟩, if_pos (c := p < k + 1 ∧ l.getD p noStr = key) ⟨by omega, ek⟩]; omega
        · rw [if_neg (c := p < k ∧ l.getD p noStr = key) (fun q => ek q.2), if_neg (c := p < k + 1 ∧ l.getD p noStr = key) (fun q => ek q.2)]; omega
theorem home_range {c : Cfg} (h : formedB c = true) (key : ByteArray) : 0 ≤ homeZ c key ∧ homeZ c key < c.reps.length := by
  have h1 := leTo_le c.bnds key c.bnds.length
  have h2 := (formed_len h).2.2
  simp only [homeZ, h, if_true, homeN]
  omega
theorem home_not {c : Cfg} (h : formedB c = false) (key : ByteArray) : homeZ c key = -1 := by simp [homeZ, h]
theorem home_yes {c : Cfg} (h : formedB c = true) (key : ByteArray) : homeZ c key = (leTo c.bnds key c.bnds.length : Nat) := by simp [homeZ, h, homeN]
end Go.Proofs.YtjgloipgnnigmaaGreatDoor
/- Layer 7's Home, the program's and the reference's, and the binary search beneath it. -/
namespace Go.Proofs.YtjgloipgnnigmaaGreatDoor
open Go.RowKit Go.Shelf

set_option maxHeartbeats 400000 in
theorem lessStr_any (x y : ByteArray) (w : World) : Calls Tryz.prog 134 #[.string x, .string y] w fun e w' => e = .returned (.bool (lessS x y)) ∧ w = w' := by
  cases hl : lessS x y
  all_goals
    have hl' : Op.bytesLess x.toList y.toList = _ := hl
    clear hl
    go_enter Tryz.func134, Tryz.ntmps134
    go_wp2
    go_ret
    exact ⟨rfl, rfl⟩
set_option maxHeartbeats 400000 in
theorem isNaNStr_any (x : ByteArray) (w : World) : Calls Tryz.prog 135 #[.string x] w fun e w' => e = .returned (.bool false) ∧ w = w' := by
  go_enter Tryz.func135, Tryz.ntmps135
  go_wp2
  go_ret
  exact ⟨by simp, rfl⟩

theorem int_eq {k : IntKind} {a b : Int} (h : a = b) : Value.int k a = Value.int k b := by rw [h]
/-- Where a search ends: below p all are below the key, from p on none is. -/
def SearchEnd (l : List ByteArray) (key : ByteArray) (p : Nat) (f : Bool) : Prop :=
  p ≤ l.length ∧ (∀ m, m < p → lessS (l.getD m noStr) key = true) ∧ (∀ m, p ≤ m → m < l.length → lessS (l.getD m noStr) key = false) ∧ (f = true ↔ p < l.length ∧ l.getD p noStr = key)
def SearchPost (l : List ByteArray) (key : ByteArray) (w : World) (e : Ending) (w' : World) : Prop :=
  ∃ p f, e = .returned (.tuple #[.int .i64 (p : Nat), .bool f]) ∧ SearchEnd l key p f ∧ w = w'

theorem half (i j : Nat) (h : i < j) : i ≤ (i + j) / 2 ∧ (i + j) / 2 < j := by omega

set_option maxHeartbeats 1000000 in
theorem search_any (l : List ByteArray) (key : ByteArray) (B : Option Addr) (cb : Nat) (w : World) (h : StrsAt w B l) (hlen : l.length ≤ 1000000) (hr : risesTo l l.length = true) :
    Calls Tryz.prog 85 #[.slice B l.length cb, .string key] w (SearchPost l key w) := by
  have HR := Lib.hid hr
  clear hr
  go_enter Tryz.func85, Tryz.ntmps85
  go_wp2_with fail
  go_loop [7, 8] (fun i j => ∃ a b : Nat, a ≤ b ∧ b ≤ l.length ∧ i = .int .i64 a ∧ j = .int .i64 b ∧ Hid (∀ m, m < a → lessS (l.getD m noStr) key = true) ∧ Hid (∀ m, b ≤ m → m < l.length → lessS (l.getD m noStr) key = false)) (fun i j => (intOf j - intOf i).toNat)
  case atStart => exact ⟨0, l.length, by omega, by omega, rfl, rfl, fun m hm => by omega, fun m hm hm2 => by omega⟩
  case round =>
    obtain ⟨a, b, hab, hb, rfl, rfl, HA, HB⟩ := hrel
    by_cases hlt : a < b
    · obtain ⟨q1, q2⟩ := half a b hlt
      obtain ⟨bb, off, x, rfl, hc, HX⟩ := StrsAt.at' h (k := (a + b) / 2) (by omega)
      cases hl : lessS x key
      · have HB2 : Hid (∀ m, (a + b) / 2 ≤ m → m < l.length → lessS (l.getD m noStr) key = false) := fun m h1 h2 => by
          by_cases e : m = (a + b) / 2
          · rw [e, HX.out]; exact hl
          · have hm := rises_mono HR.out (i := (a + b) / 2) (j := m) (by omega) h2
            rw [HX.out] at hm
            cases hq : lessS (l.getD m noStr) key
            · rfl
            · rw [lessS_trans hm hq] at hl; cases hl
        go_wp2_with (go_at_call 134; refine (lessStr_any _ _ _).mono ?_; rintro e w1 ⟨rfl, rfl⟩)
        go_round
        case rel => exact ⟨a, (a + b) / 2, by omega, by omega, rfl, int_eq (by omega), HA, HB2⟩
        case measure => simp [intOf]; omega
      · have HA2 : Hid (∀ m, m < (a + b) / 2 + 1 → lessS (l.getD m noStr) key = true) := fun m h1 => by
          by_cases e : m = (a + b) / 2
          · rw [e, HX.out]; exact hl
          · have hm := rises_mono HR.out (i := m) (j := (a + b) / 2) (by omega) (by omega)
            rw [HX.out] at hm
            exact lessS_trans hm hl
        go_wp2_with (go_at_call 134; refine (lessStr_any _ _ _).mono ?_; rintro e w1 ⟨rfl, rfl⟩)
        go_round
        case rel => exact ⟨(a + b) / 2 + 1, b, by omega, by omega, int_eq (by omega), rfl, HA2, HB⟩
        case measure => simp [intOf]; omega
    · have hab2 : a = b := by omega
      subst hab2
      by_cases hal : a < l.length
      · obtain ⟨bb, off, x, rfl, hc, HX⟩ := StrsAt.at' h (k := a) hal
        by_cases hx : x = key
        · have HF : Hid (SearchEnd l key a true) := ⟨hb, HA.out, HB.out, by simp only [true_iff]; exact ⟨hal, by rw [HX.out]; exact hx⟩⟩
          have hbq : (x.toList == key.toList) = true := by rw [hx]; simp
          clear hx
          go_wp2
          go_ret2
          exact ⟨_, _, rfl, HF.out, rfl⟩
        · have HF : Hid (SearchEnd l key a false) := ⟨hb, HA.out, HB.out, by
            constructor
            · intro h; cases h
            · rintro ⟨_, h2⟩; rw [HX.out] at h2; exact absurd h2 hx⟩
          have hbq : (x.toList == key.toList) = false := by rw [beq_eq_false_iff_ne]; exact fun e => hx (bytes_ext e)
          clear hx
          go_wp2_with (go_at_call 135; refine (isNaNStr_any _ _).mono ?_; rintro e w1 ⟨rfl, rfl⟩)
          go_ret2
          exact ⟨_, _, rfl, HF.out, rfl⟩
      · have HF : Hid (SearchEnd l key a false) := ⟨hb, HA.out, HB.out, by
          constructor
          · intro h; cases h
          · rintro ⟨h1, _⟩; omega⟩
        go_wp2
        go_ret2
        exact ⟨_, _, rfl, HF.out, rfl⟩

theorem home_search {c : Cfg} (h : formedB c = true) {key : ByteArray} {p : Nat} {f : Bool} (hs : SearchEnd c.bnds key p f) : homeZ c key = (p : Int) + if f then 1 else 0 := by
  have hr : risesTo c.bnds c.bnds.length = true := by
    simp only [formedB, Bool.and_eq_true] at h; exact h.2
  obtain ⟨h0, h1, h2, h3⟩ := hs
  have := leTo_found hr h0 h1 h2 c.bnds.length (Nat.le_refl _)
  rw [home_yes h, this]
  cases f
  · rw [if_neg (fun q => by simpa using h3.2 q)]; simp; omega
  · rw [if_pos (h3.1 rfl)]; simp; omega

set_option maxHeartbeats 1000000 in
theorem home_any (c : Cfg) (key : ByteArray) (A B : Option Addr) (ca cb : Nat) (w : World) (h : CfgAt w c A B) :
    Calls Tryz.prog 40 #[.agg #[.slice A c.reps.length ca, .slice B c.bnds.length cb], .string key] w fun e w' => e = .returned (.int .i64 (homeZ c key)) ∧ Below w.heap.size w w' := by
  obtain ⟨W, eW, HB, c0, c1⟩ := box2 w (.slice A c.reps.length ca) (.slice B c.bnds.length cb) 25
  have h := h.later HB
  cases hf : formedB c
  · have HE := Lib.hid (home_not hf key)
    go_enter Tryz.func40, Tryz.ntmps40
    go_wp2_with (go_at_call 55; refine (formed_any c A B ca cb _ h).mono ?_; rintro e w1 ⟨rfl, hb⟩; replace c0 := keep hb c0; replace c1 := keep hb c1; replace h := h.later hb; replace HB := keepB HB hb; clear hb)
    go_ret
    exact ⟨ret_int HE.out, HB⟩
  · have hr : risesTo c.bnds c.bnds.length = true := by
      simp only [formedB, Bool.and_eq_true] at hf; exact hf.2
    have HR := Lib.hid hr
    have HFS : Hid (∀ p f, SearchEnd c.bnds key p f → homeZ c key = (p : Int) + if f then 1 else 0) := fun p f hs => home_search hf hs
    have hlen : c.bnds.length ≤ 3 := by have := formed_len hf; omega
    clear hr
    go_enter Tryz.func40, Tryz.ntmps40
    go_wp2_with (first
      | (go_at_call 55; refine (formed_any c A B ca cb _ h).mono ?_; rintro e w1 ⟨rfl, hb⟩; replace c0 := keep hb c0; replace c1 := keep hb c1; replace h := h.later hb; replace HB := keepB HB hb; clear hb)
      | (go_at_call 85; refine (search_any c.bnds key B cb _ h.strs (by omega) HR.out).mono ?_; rintro e w2 ⟨p, f, rfl, hs, rfl⟩; have HS := Lib.hid hs; have hp := hs.1; clear hs; cases f))
    all_goals
      go_ret
      exact ⟨ret_int (by rw [HFS.out _ _ HS.out]; simp), HB⟩

set_option maxHeartbeats 1000000 in
theorem refHome_any (c : Cfg) (key : ByteArray) (A B : Option Addr) (ca cb : Nat) (w : World) (h : CfgAt w c A B) :
    Calls Tryz.prog 30 #[.agg #[.slice A c.reps.length ca, .slice B c.bnds.length cb], .string key] w fun e w' => e = .returned (.int .i64 (homeZ c key)) ∧ Below w.heap.size w w' := by
  obtain ⟨W, eW, HB, c0, c1⟩ := box2 w (.slice A c.reps.length ca) (.slice B c.bnds.length cb) 25
  have h := h.later HB
  cases hf : formedB c
  · have HE := Lib.hid (home_not hf key)
    go_enter Tryz.func30, Tryz.ntmps30
    go_wp2_with (go_at_call 21; refine (refFormed_any c A B ca cb _ h).mono ?_; rintro e w1 ⟨rfl, hb⟩; replace c0 := keep hb c0; replace c1 := keep hb c1; replace h := h.later hb; replace HB := keepB HB hb; clear hb)
    go_ret
    exact ⟨ret_int HE.out, HB⟩
  · have HE := Lib.hid (home_yes hf key)
    have hlen : c.bnds.length ≤ 3 := by have := formed_len hf; omega
    have HLE : Hid (∀ k, leTo c.bnds key k ≤ k) := leTo_le c.bnds key
    go_enter Tryz.func30, Tryz.ntmps30
    go_wp2_with (go_at_call 21; refine (refFormed_any c A B ca cb _ h).mono ?_; rintro e w1 ⟨rfl, hb⟩; replace c0 := keep hb c0; replace c1 := keep hb c1; replace h := h.later hb; replace HB := keepB HB hb; clear hb)
    clear eW
    go_loop [5, 6] (fun g i => ∃ k : Nat, k ≤ c.bnds.length ∧ i = .int .i64 k ∧ g = .int .i64 (leTo c.bnds key k : Nat)) (fun _ i => c.bnds.length - (intOf i).toNat)
    case atStart => exact ⟨0, Nat.zero_le _, rfl, rfl⟩
    case round =>
      obtain ⟨k, hk, rfl, rfl⟩ := hrel
      have hle := HLE.out k
      by_cases hlt : k < c.bnds.length
      · obtain ⟨bb, off, x, rfl, hc, HX⟩ := StrsAt.at' h.strs hlt
        cases hl : lessS key x
        · have HE2 : Hid (leTo c.bnds key (k + 1) = leTo c.bnds key k + 1) := by show _ = _; rw [leTo, HX.out, hl]; rfl
          have hl' := lessS_no hl
          clear hl
          generalize leTo c.bnds key k = g at *
          go_wp2
          go_round
          case rel => exact ⟨k + 1, by omega, by go_num, by rw [HE2.out]; go_num⟩
          case measure => simp [intOf]; omega
        · have HE2 : Hid (leTo c.bnds key (k + 1) = leTo c.bnds key k) := by show _ = _; rw [leTo, HX.out, hl]; rfl
          have hl' := lessS_yes hl
          clear hl
          generalize leTo c.bnds key k = g at *
          go_wp2
          go_round
          case rel => exact ⟨k + 1, by omega, by go_num, by rw [HE2.out]⟩
          case measure => simp [intOf]; omega
      · have HK : Hid (homeZ c key = (leTo c.bnds key k : Nat)) := by show _ = _; rw [HE.out, show k = c.bnds.length from by omega]
        generalize leTo c.bnds key k = g at *
        go_wp2
        go_ret
        exact ⟨ret_int HK.out, HB⟩
end Go.Proofs.YtjgloipgnnigmaaGreatDoor
/- The plain words of layer 7's Groups. -/
namespace Go.Proofs.YtjgloipgnnigmaaGreatDoor

def touchB (c : Cfg) (keys : List ByteArray) (g : Nat) : Bool := keys.any fun s => homeZ c s == (g : Int)
/-- Of the first k groups those that have a key, rising. -/
def groupsTo (c : Cfg) (keys : List ByteArray) (k : Nat) : List Int := ((List.range k).filter (touchB c keys)).map Int.ofNat
def groupsL (c : Cfg) (keys : List ByteArray) : List Int := if formedB c then groupsTo c keys c.reps.length else []

theorem groupsTo_succ (c : Cfg) (keys : List ByteArray) (k : Nat) : groupsTo c keys (k + 1) = groupsTo c keys k ++ if touchB c keys k then [(k : Int)] else [] := by
  unfold groupsTo
  rw [List.range_succ, List.filter_append, List.map_append]
  congr 1
  by_cases h : touchB c keys k <;> simp [h]
theorem groupsTo_rises (c : Cfg) (keys : List ByteArray) : ∀ k, (groupsTo c keys k).Pairwise (· < ·) ∧ ∀ x, x ∈ groupsTo c keys k ↔ ∃ g : Nat, g < k ∧ touchB c keys g = true ∧ (g : Int) = x
  | 0 => by simp [groupsTo]
  | k + 1 => by
    obtain ⟨h1, h2⟩ := groupsTo_rises c keys k
    rw [groupsTo_succ]
    cases ht : touchB c keys k
    · simp only [Bool.false_eq_true, if_false, List.append_nil]
      refine ⟨h1, fun x => ?_⟩
      rw [h2]
      constructor
      · rintro ⟨g, a, b, e⟩; exact ⟨g, by omega, b, e⟩
      · rintro ⟨g, a, b, e⟩
        by_cases eg : g = k
        · subst eg; rw [ht] at b; cases b
        · exact ⟨g, by omega, b, e⟩
    · simp only [if_true]
      refine ⟨?_, fun x => ?_⟩
      · rw [List.pairwise_append]
        refine ⟨h1, by simp, fun a ha b hb => ?_⟩
        simp only [List.mem_singleton] at hb
        obtain ⟨g, hg, _, rfl⟩ := (h2 a).1 ha
        subst hb; omega
      · rw [List.mem_append, h2]
        simp only [List.mem_singleton]
        constructor
        · rintro (⟨g, a, b, e⟩ | e)
          · exact ⟨g, by omega, b, e⟩
          · exact ⟨k, by omega, ht, e.symm⟩
        · rintro ⟨g, a, b, e⟩
          by_cases eg : g = k
          · subst eg; exact .inr e.symm
          · exact .inl ⟨g, by omega, b, e⟩
theorem groupsTo_length (c : Cfg) (keys : List ByteArray) : ∀ k, (groupsTo c keys k).length ≤ k
  | 0 => by simp [groupsTo]
  | k + 1 => by
    have := groupsTo_length c keys k
    rw [groupsTo_succ, List.length_append]
    split <;> simp <;> omega
/-- Sorted and compacted, the keys' groups are the groups. -/
theorem groups_of_homes {c : Cfg} (h : formedB c = true) (keys : List ByteArray) : Lib.compact ((keys.map (homeZ c)).mergeSort fun x y => decide (x ≤ y)) = groupsL c keys := by
  obtain ⟨h1, h2⟩ := groupsTo_rises c keys c.reps.length
  have e : groupsL c keys = groupsTo c keys c.reps.length := by simp [groupsL, h]
  rw [e]
  refine sort_compact _ _ h1 (fun x => ?_)
  rw [h2, List.mem_map]
  constructor
  · rintro ⟨s, hs, rfl⟩
    obtain ⟨q1, q2⟩ := home_range h s
    refine ⟨(homeZ c s).toNat, by omega, ?_, by omega⟩
    unfold touchB
    rw [List.any_eq_true]
    exact ⟨s, hs, by rw [beq_iff_eq]; omega⟩
  · rintro ⟨g, hg, ht, rfl⟩
    unfold touchB at ht
    rw [List.any_eq_true] at ht
    obtain ⟨s, hs, e⟩ := ht
    exact ⟨s, hs, by simpa using e⟩
/-- Of the first k keys, is one of group g? -/
def touchTo (c : Cfg) (keys : List ByteArray) (g : Nat) : Nat → Bool
  | 0 => false
  | k + 1 => touchTo c keys g k || homeZ c (keys.getD k noStr) == (g : Int)
theorem touchTo_take (c : Cfg) (keys : List ByteArray) (g : Nat) : ∀ k, k ≤ keys.length → touchTo c keys g k = (keys.take k).any fun s => homeZ c s == (g : Int)
  | 0, _ => by simp [touchTo]
  | k + 1, hk => by
    have h : k < keys.length := by omega
    rw [List.take_succ_eq_append_getElem h, List.any_append, ← touchTo_take c keys g k (by omega)]
    simp [touchTo, List.getD_eq_getElem?_getD, h]
theorem touchTo_all (c : Cfg) (keys : List ByteArray) (g : Nat) : touchTo c keys g keys.length = touchB c keys g := by
  rw [touchTo_take _ _ _ _ (Nat.le_refl _), List.take_length]; rfl
theorem take_map_snoc {α : Type} (l : List ByteArray) (f : ByteArray → α) (k : Nat) (h : k < l.length) : (l.take (k + 1)).map f = (l.take k).map f ++ [f (l.getD k noStr)] := by
  rw [List.take_succ_eq_append_getElem h, List.map_append]
  simp [List.getD_eq_getElem?_getD, h]
end Go.Proofs.YtjgloipgnnigmaaGreatDoor
