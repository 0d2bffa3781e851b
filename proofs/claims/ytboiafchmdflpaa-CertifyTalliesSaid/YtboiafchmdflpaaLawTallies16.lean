/- CertifyTallies' walk. -/
import Derived.Test.YtboiafchmdflpaaRef16
import Derived.Test.YtboiafchmdflpaaAwake16
import Derived.Deep.RegionHeld3
namespace Go.Proofs.Ytboiafchmdflpaa
open Go.RowKit Go.Shelf Go.Maps

section
variable {P : Program} {w : World}
/-- append(v, xs...) where v is owned and xs are a slice of ints, nil let in. -/
theorem wpList_append_ints {ops : Array Oper} {rest : List Oper} {o : Oper} {a : Act} {Q : Exit → Act → World → Prop} (hgd : o.guard = none) (s x : Operand) (t : TypeId)
    (ho : o.op = .call { callee := .builtin .append, args := #[s, x], argTypes := #[t, t] })
    (base : Nat) (e : TypeId) (i : TypeInfo) (z : Value) (bytes : Nat) (ht : P.underlying t = some (.slice e)) (hi : P.info? e = some i) (hz : i.zero = some z)
    (hsize : i.size = 1) (hby : i.bytes = bytes) (hzs : z.cells.size = 1)
    (v : Value) (n : Nat) (xs : List Value) (hs : a.eval s = v) (hown : w.ownsRow base e 1 v n xs)
    (K : Option Addr) (l : List Int) (c : Nat) (hx : a.eval x = .slice K l.length c) (hK : IntsAt w K l)
    (h63 : n + l.length ≤ maxLen) (hbytes : (n + l.length) * bytes ≤ 140737488355328) (hbase : base ≤ w.heap.size)
    (h : ∀ v' w', w'.ownsRow base e 1 v' (n + l.length) (xs ++ l.map (Value.int .i64)) → w.grownBy w' v.ownBlock → wpList P ops Q rest (a.put o.dst v') w') : wpList P ops Q (o :: rest) a w := by
  by_cases h0 : 0 < l.length
  · obtain ⟨b, off, rfl, _⟩ := hK 0 h0
    exact wpList_append_own w hgd s x t ho base e i z 1 bytes ht hi hz hsize hby hzs (by decide) v n xs hs hown ⟨b, off, none⟩ l.length c (l.map (Value.int .i64)) hx (by simp) (ints_cells hK) (ints_one l) h63 hbytes hbase (fun v' w' h1 h2 _ => h v' w' h1 h2)
  · have hk : l = [] := List.eq_nil_of_length_eq_zero (by omega)
    subst hk
    cases K with
    | some ad =>
      exact wpList_append_own w hgd s x t ho base e i z 1 bytes ht hi hz hsize hby hzs (by decide) v n xs hs hown ad 0 c [] hx (by simp) (fun j u hu => by simp at hu) (fun u hu => by simp at hu) h63 hbytes hbase (fun v' w' h1 h2 _ => h v' w' h1 h2)
    | none =>
      refine wpList_plain hgd fun _ hK' => ?_
      have hrun := append_nil_run w base t o.type e i 1 ht hi v n xs hown c
      unfold Oper.wp execOp
      have hx' : a.eval x = .slice none 0 c := hx
      simp only [ho, resolve, invoke, builtin, Sem.run_bind, Sem.run_pure, Result.andThen_ok, List.map_toArray, List.map_cons, List.map_nil, hs, hx', hrun]
      exact hK' _ _ (h v w (by simpa using hown) (World.grownBy.refl w _))
end

theorem newGo_no {gs : List Int} (hok : okNew gs = false) (A : Option Addr) (ca : Nat) (w : World) (hA : IntsAt w A gs) (hn : gs.length ≤ 1000) :
    Calls Try.prog 7 #[.slice A gs.length ca] w fun e w' => e = .returned (.pointer none) ∧ Below w.heap.size w w' := by
  by_cases h0 : 0 < gs.length
  · have hd : ¬ gs.Nodup := fun hd => by rw [okNew, decide_eq_true h0, decide_eq_true hd] at hok; cases hok
    obtain ⟨b, off, rfl, _⟩ := hA 0 h0
    exact new_dup gs b off ca w hA (by omega) h0 hd
  · rw [show gs.length = 0 by omega]
    exact new_empty A ca w
theorem okNew_pos {gs : List Int} (hok : okNew gs = true) : 0 < gs.length := by
  rw [okNew, Bool.and_eq_true, decide_eq_true_iff] at hok; exact hok.1
theorem okNew_nodup {gs : List Int} (hok : okNew gs = true) : gs.Nodup := by
  rw [okNew, Bool.and_eq_true, decide_eq_true_iff, decide_eq_true_iff] at hok; exact hok.2
theorem newGo_yes {gs : List Int} (hok : okNew gs = true) (A : Option Addr) (ca : Nat) (w : World) (hA : IntsAt w A gs) (hn : gs.length ≤ 1000) :
    Calls Try.prog 7 #[.slice A gs.length ca] w (NewPost w gs) := by
  obtain ⟨b, off, rfl, _⟩ := hA 0 (okNew_pos hok)
  exact new_ok gs b off ca w hA (by omega) (okNew_pos hok) (okNew_nodup hok)
theorem newRef_no {gs : List Int} (hok : okNew gs = false) (A : Option Addr) (ca : Nat) (w : World) (hA : IntsAt w A gs) (hn : gs.length ≤ 1000) :
    Calls Try.prog 10 #[.slice A gs.length ca] w fun e w' => e = .returned (.pointer none) ∧ Below w.heap.size w w' :=
  (refNew_any gs A ca w hA hn).mono fun e w' hh => by
    rcases hh with ⟨_, h1⟩ | ⟨h1, _⟩
    · exact h1
    · rw [hok] at h1; cases h1
def RefNewYes (w : World) (gs : List Int) (e : Ending) (w' : World) : Prop := ∃ p g v ca cb, e = .returned (.pointer (some ⟨p, 0, none⟩)) ∧ RefAt w' w.heap.size p g v ca cb gs [] ∧ Below w.heap.size w w'
theorem newRef_yes {gs : List Int} (hok : okNew gs = true) (A : Option Addr) (ca : Nat) (w : World) (hA : IntsAt w A gs) (hn : gs.length ≤ 1000) :
    Calls Try.prog 10 #[.slice A gs.length ca] w (RefNewYes w gs) :=
  (refNew_any gs A ca w hA hn).mono fun e w' hh => by
    rcases hh with ⟨h1, _⟩ | ⟨_, h1⟩
    · rw [hok] at h1; cases h1
    · exact h1

structure VoteD where
  group : Int
  yes : Bool
instance : Inhabited VoteD := ⟨⟨0, false⟩⟩
def noVote : VoteD := ⟨0, false⟩
def VotesAt (w : World) (A : Option Addr) (l : List VoteD) : Prop :=
  ∀ i, i < l.length → ∃ b off, A = some ⟨b, off, none⟩ ∧ w.cell? ⟨b, off + i * 2, none⟩ = some (.int .i64 (l.getD i noVote).group) ∧ w.cell? ⟨b, off + i * 2 + 1, none⟩ = some (.bool (l.getD i noVote).yes)
theorem VotesAt.later {w w' : World} {A : Option Addr} {l : List VoteD} (h : VotesAt w A l) (hb : Below w.heap.size w w') : VotesAt w' A l := by
  intro i hi
  obtain ⟨b, off, e, h0, h1⟩ := h i hi
  exact ⟨b, off, e, keep hb h0, keep hb h1⟩
def vsOf (gs : List Int) (l : List VoteD) : Nat → List (Int × Bool)
  | 0 => []
  | k + 1 => putV gs (vsOf gs l k) (l.getD k noVote).group (l.getD k noVote).yes
theorem tally_vsOf {gs : List Int} (h : gs.Nodup) (l : List VoteD) : ∀ k, Tally gs (vsOf gs l k)
  | 0 => Tally.start h
  | k + 1 => (tally_vsOf h l k).put _ _

theorem below_putT {a w w' : World} {base p g b cap : Nat} {gs : List Int} {vs : List (Int × Bool)} (h : Below a.heap.size a w) (hg : w.grownBy w' (some b)) (hT : TalAt w' base p g b cap gs vs) (hb : a.heap.size ≤ base) : Below a.heap.size a w' :=
  h.grown hg h.size (fun k e => by cases e; exact Nat.le_trans hb hT.hb)
theorem cell_lt {w : World} {b off : Nat} {v : Value} (h : w.cell? ⟨b, off, none⟩ = some v) : b < w.heap.size := by
  rcases Nat.lt_or_ge b w.heap.size with q | q
  · exact q
  · exfalso
    have : w.heap[b]? = none := Array.getElem?_eq_none q
    simp [World.cell?, this] at h
theorem ints_lt {w : World} {g : Nat} {l : List Int} (h : IntsAt w (some ⟨g, 0, none⟩) l) (hp : 0 < l.length) : g < w.heap.size := by
  obtain ⟨b, off, e, hc⟩ := h 0 hp
  cases e
  exact cell_lt hc
set_option maxRecDepth 100000 in
set_option maxHeartbeats 4000000 in
theorem law_tallies (gs : List Int) (l : List VoteD) (A B : Option Addr) (ca cb : Nat) (w : World) (hA : IntsAt w A gs) (hB : VotesAt w B l) (hl : ∀ k, k < l.length → -9223372036854775808 ≤ (l.getD k noVote).group ∧ (l.getD k noVote).group ≤ 9223372036854775807) (h10 : gs.length ≤ 10) (h50 : l.length ≤ 50) :
    Calls Try.prog 4 #[.slice A gs.length ca, .slice B l.length cb] w fun e w' => e = .returned (.bool true) ∧ Below w.heap.size w w' := by
  have q1 : decide ((10 : Int) < (gs.length : Int)) = false := by rw [decide_eq_false_iff_not]; omega
  have q2 : decide ((50 : Int) < (l.length : Int)) = false := by rw [decide_eq_false_iff_not]; omega
  have HL := Lib.hid hl
  have HVO := Lib.hid hB
  clear hl hB
  obtain ⟨i0, hi, hz0, hz1, hz2⟩ := info_parts info_int
  cases hok : okNew gs
  · have HOK := Lib.hid hok
    clear hok
    go_enter Try.func4, Try.ntmps4
    go_wp2_with (first
      | (go_at_call 6; refine (awake16_any _).mono ?_; rintro e w1 ⟨rfl, hb⟩; replace hA := CellsAt.later hA hb; skip)
      | (at_builtin; refine wpList_append_ints rfl _ _ 25 rfl w1.heap.size 3 i0 (.int .i64 0) 8 Try.underlying25 hi hz0 hz1 hz2 rfl _ _ _ rfl (World.ownsRow_nil _ _ _ _) A gs ca rfl hA (le_maxLen (by omega)) (by omega) (Nat.le_refl _) ?_; intro v3 w3 HO3 hg3))
    have HO4 : w3.ownsRow w1.heap.size 3 1 v3 gs.length (gs.map (Value.int .i64)) := by simpa using HO3
    obtain ⟨A5, c5, e5, _, hI⟩ := own_ints HO4
    have hb3 : Below w1.heap.size w1 w3 := below_of_grown hg3
    rw [e5]
    replace hA := CellsAt.later hA hb3
    have HB := keepB hb hb3
    clear e5 HO3 HO4 hg3
    go_wp2_with (first
      | (go_at_call 7; refine (newGo_no HOK.out A5 c5 _ hI (by omega)).mono ?_; rintro e w4 ⟨rfl, hb4⟩; replace hA := CellsAt.later hA hb4; replace HB := keepB HB hb4)
      | (go_at_call 10; refine (newRef_no HOK.out A ca _ hA (by omega)).mono ?_; rintro e w5 ⟨rfl, hb5⟩; replace HB := keepB HB hb5))
    refine wp_loop_rounds 1 ?_
    rw [rounds_succ]
    go_wp2
    all_goals go_ret
    all_goals exact ⟨rfl, HB⟩
  · have HOK := Lib.hid hok
    clear hok
    go_enter Try.func4, Try.ntmps4
    go_wp2_with (first
      | (go_at_call 6; refine (awake16_any _).mono ?_; rintro e w1 ⟨rfl, hb⟩; replace hA := CellsAt.later hA hb; skip)
      | (at_builtin; refine wpList_append_ints rfl _ _ 25 rfl w1.heap.size 3 i0 (.int .i64 0) 8 Try.underlying25 hi hz0 hz1 hz2 rfl _ _ _ rfl (World.ownsRow_nil _ _ _ _) A gs ca rfl hA (le_maxLen (by omega)) (by omega) (Nat.le_refl _) ?_; intro v3 w3 HO3 hg3))
    have HO4 : w3.ownsRow w1.heap.size 3 1 v3 gs.length (gs.map (Value.int .i64)) := by simpa using HO3
    obtain ⟨A5, c5, e5, _, hI⟩ := own_ints HO4
    have hb3 : Below w1.heap.size w1 w3 := below_of_grown hg3
    rw [e5]
    replace hA := CellsAt.later hA hb3
    have HB := keepB hb hb3
    clear e5 HO3 HO4 hg3
    go_wp2_with (first
      | (go_at_call 7; refine (newGo_yes HOK.out A5 c5 _ hI (by omega)).mono ?_; rintro e w4 ⟨p, g, b, cap, rfl, hT, hb4⟩; have lp := cell_lt hT.c0; have lg := ints_lt hT.ints (okNew_pos HOK.out); have lb := hT.own.lt; replace hA := CellsAt.later hA hb4; replace HB := keepB HB hb4)
      | (go_at_call 10; refine (newRef_yes HOK.out A ca _ hA (by omega)).mono ?_; rintro e w5 ⟨p', g', v', ca', cb', rfl, hR, hb5⟩; replace hT := hT.later hb5; replace HB := keepB HB hb5))
    have hws := HB.size
    have e1 := hR.hp
    have e2 := hR.hg
    have e3 := hR.hv
    have NE := Lib.hid (And.intro (some_ne (a := p') (b := b) (by omega)) (And.intro (some_ne (a := g') (b := b) (by omega)) (And.intro (some_ne (a := v') (b := b) (by omega)) (And.intro (some_ne (a := p) (b := v') (by omega)) (And.intro (some_ne (a := g) (b := v') (by omega)) (some_ne (a := b) (b := v') (by omega)))))))
    have hbase : w.heap.size ≤ w3.heap.size := (keepB (keepB hb hb3) (Below.refl _ _)).size
    have hbase2 : w.heap.size ≤ w4.heap.size := Nat.le_trans hbase hb4.size
    clear hA hI hb hb3 hb4 hb5 e1 e2 e3 lp lg lb q1 q2 hws
    obtain ⟨wz, rfl⟩ : ∃ wz : World, wz = w5 := ⟨_, rfl⟩
    go_loopw [8] (fun i wr => ∃ k : Nat, k ≤ l.length ∧ i = .int .i64 k ∧ TalAt wr w3.heap.size p g b cap gs (vsOf gs l k) ∧ RefAt wr w4.heap.size p' g' v' ca' cb' gs (vsOf gs l k) ∧ Below w.heap.size w wr) (fun i _ => l.length - (intOf i).toNat)
    case atStart => exact ⟨0, Nat.zero_le _, rfl, hT, hR, HB⟩
    case round =>
      clear hT hR HB
      obtain ⟨k, hk, rfl, hT, hR, hw⟩ := hrel
      have HT := Lib.hid (tally_vsOf (okNew_nodup HOK.out) l k)
      have HT2 := Lib.hid (tally_vsOf (okNew_nodup HOK.out) l (k + 1))
      by_cases hlt : k < l.length
      · obtain ⟨x, hx⟩ : ∃ x, Hid ((l.getD k noVote).group = x) := ⟨_, rfl⟩
        obtain ⟨y, hy⟩ : ∃ x, Hid ((l.getD k noVote).yes = x) := ⟨_, rfl⟩
        obtain ⟨bb, off, rfl, e0, e1⟩ := HVO.out k hlt
        rw [hx.out] at e0
        rw [hy.out] at e1
        have d0 := keep hw e0
        have d1 := keep hw e1
        have E0 := Lib.hid e0
        have E1 := Lib.hid e1
        clear e0 e1
        have hxb := HL.out k hlt
        rw [hx.out] at hxb
        have hx0 := hxb.1
        have hx1 := hxb.2
        clear hxb
        have HV : Hid (vsOf gs l (k + 1) = putV gs (vsOf gs l k) x y) := by show _ = _; rw [vsOf, hx.out, hy.out]
        have hki : (k : Int) < (l.length : Int) := by omega
        have hk0i : (0 : Int) ≤ (k : Int) := by omega
        obtain ⟨vs2, HV2⟩ : ∃ v, Hid (vsOf gs l (k + 1) = v) := ⟨_, rfl⟩
        rw [HV2.out] at HT2 HV
        generalize vsOf gs l k = vs at *
        go_wp2_with fail
        go_region_held3 (fun w' => w'.cell? ⟨bb, off + k * 2, none⟩ = some (.int .i64 x) ∧ w'.cell? ⟨bb, off + k * 2 + 1, none⟩ = some (.bool y) ∧ Below w.heap.size w w')
          (first | exact ⟨d0, d1, below_drew hw⟩ | exact ⟨keep hb6 E0.out, keep hb6 E1.out, hb6⟩ | exact ⟨keep hb7 E0.out, keep hb7 E1.out, hb7⟩)
          (first
            | (go_at_call 8; refine (put_any x y hx0 hx1 (by omega) _ (hT.later (below_drew (Below.refl _ _))) HT.out).mono ?_; rintro e w6 ⟨rfl, hT6, hg6⟩; have hb6 := below_putT (below_drew hw) hg6 hT6 hbase)
            | (go_at_call 11; refine (refPut_any x y (by omega) _ ((hR.later (below_drew (Below.refl _ _))).grown hg6 NE.out.1 NE.out.2.1 NE.out.2.2.1) HT.out).mono ?_; rintro e w7 ⟨rfl, hR7, hg7⟩; have hb7 := hb6.grown hg7 hb6.size (fun k e => (by cases e; exact Nat.le_trans hbase2 hR7.hv)); have hT7 := hT6.grown hg7 NE.out.2.2.2.1 NE.out.2.2.2.2.1 NE.out.2.2.2.2.2))
        rw [← HV.out] at hT7 hR7
        have c0 := keep hb7 E0.out
        have c1 := keep hb7 E1.out
        clear d0 d1 hT hR hw hg6 hT6 hb6 hg7
        go_wp2_with (first
          | (go_at_call 9; refine (outcome_any _ hT7 HT2.out).mono ?_; rintro e w8 ⟨rfl, hb8⟩; replace c0 := keep hb8 c0; replace c1 := keep hb8 c1; replace hT7 := hT7.later hb8; replace hR7 := hR7.later hb8; replace hb7 := keepB hb7 hb8; clear hb8)
          | (go_at_call 12; refine (refOutcome_any (by omega) _ hR7 HT2.out).mono ?_; rintro e w8 ⟨rfl, hb8⟩; replace c0 := keep hb8 c0; replace c1 := keep hb8 c1; replace hT7 := hT7.later hb8; replace hR7 := hR7.later hb8; replace hb7 := keepB hb7 hb8; clear hb8)
          | (go_at_call 13; refine (voted_any x hx0 hx1 _ hT7 HT2.out).mono ?_; rintro e w8 ⟨rfl, hb8⟩; replace c0 := keep hb8 c0; replace c1 := keep hb8 c1; replace hT7 := hT7.later hb8; replace hR7 := hR7.later hb8; replace hb7 := keepB hb7 hb8; clear hb8)
          | (go_at_call 14; refine (refVoted_any x (by omega) _ hR7 HT2.out).mono ?_; rintro e w8 ⟨rfl, hb8⟩; replace c0 := keep hb8 c0; replace c1 := keep hb8 c1; replace hT7 := hT7.later hb8; replace hR7 := hR7.later hb8; replace hb7 := keepB hb7 hb8; clear hb8))
        go_roundw
        case rel => exact ⟨k + 1, by omega, by go_num, (by rw [HV2.out]; exact hT7), (by rw [HV2.out]; exact hR7), hb7⟩
        case measure => simp [intOf]; omega
      · go_wp2
        go_ret
        exact ⟨rfl, hw⟩

theorem law_tallies_off (n m : Nat) (A B : Option Addr) (ca cb : Nat) (w : World) (hn : n ≤ 9223372036854775807) (hm : m ≤ 9223372036854775807) (h : 10 < n ∨ 50 < m) :
    Calls Try.prog 4 #[.slice A n ca, .slice B m cb] w fun e w' => e = .returned (.bool true) ∧ Below w.heap.size w w' := by
  have hc : (decide ((10 : Int) < (n : Int)) = true) ∨ (decide ((10 : Int) < (n : Int)) = false ∧ decide ((50 : Int) < (m : Int)) = true) := by
    by_cases h1 : 10 < n
    · exact .inl (by rw [decide_eq_true_iff]; omega)
    · exact .inr ⟨by rw [decide_eq_false_iff_not]; omega, by rw [decide_eq_true_iff]; omega⟩
  clear h
  rcases hc with q1 | ⟨q1, q2⟩
  all_goals
    have HB := Below.refl w.heap.size w
    go_enter Try.func4, Try.ntmps4
    go_wp2_with (go_at_call 6; refine (awake16_any _).mono ?_; rintro e w1 ⟨rfl, hb⟩; replace HB := keepB HB hb)
    go_ret
    exact ⟨rfl, HB⟩
theorem law_tallies_any (gs : List Int) (l : List VoteD) (A B : Option Addr) (ca cb : Nat) (w : World) (hA : IntsAt w A gs) (hB : VotesAt w B l) (hl : ∀ k, k < l.length → -9223372036854775808 ≤ (l.getD k noVote).group ∧ (l.getD k noVote).group ≤ 9223372036854775807)
    (hn : gs.length ≤ 9223372036854775807) (hm : l.length ≤ 9223372036854775807) :
    Calls Try.prog 4 #[.slice A gs.length ca, .slice B l.length cb] w fun e w' => e = .returned (.bool true) ∧ Below w.heap.size w w' := by
  by_cases h : 10 < gs.length ∨ 50 < l.length
  · exact law_tallies_off _ _ A B ca cb w hn hm h
  · exact law_tallies gs l A B ca cb w hA hB hl (by omega) (by omega)
end Go.Proofs.Ytboiafchmdflpaa
