/- CertifyOrder's walk. -/
import Derived.Test.YtboiafchmdflpaaAwake16
import Derived.Test.YtboiafchmdflpaaOrdM16
import Derived.Maps.AppendAt
namespace Go.Proofs.Ytboiafchmdflpaa
open Go.RowKit Go.Shelf Go.Maps

def BoolsAt (w : World) (A : Option Addr) (l : List Bool) : Prop := CellsAt w A l.length fun i => .bool (l.getD i false)
def BytesAt (w : World) (A : Option Addr) (l : List Nat) : Prop := CellsAt w A l.length fun i => .int .u8 ((l.getD i 0 : Nat) : Int)
theorem CellsAt.at2 {w : World} {A : Option Addr} {n : Nat} {f : Nat → Value} (h : CellsAt w A n f) {k : Nat} (hk : k < n) : ∃ b off, A = some ⟨b, off, none⟩ ∧ w.cell? ⟨b, off + k, none⟩ = some (f k) := h k hk
def allTo (l : List Bool) (k : Nat) : Bool := (l.take k).all id
theorem allTo_succ {l : List Bool} {k : Nat} (hk : k < l.length) : allTo l (k + 1) = (allTo l k && l.getD k false) := by
  rw [allTo, List.take_succ_eq_append_getElem hk, List.all_append, List.getD_eq_getElem?_getD, List.getElem?_eq_getElem hk]
  simp [allTo]
theorem outcome_eq {base p g b cap : Nat} {gs : List Int} {vs : List (Int × Bool)} {n : Nat} {Y K : Bool} (hn : gs.length = n) (hY : outYes n vs = Y) (hK : outKnown n vs = K) (w : World) (h : TalAt w base p g b cap gs vs) (ht : Tally gs vs) :
    Calls Try.prog 9 #[.pointer (some ⟨p, 0, none⟩)] w fun e w' => e = .returned (.tuple #[.bool Y, .bool K]) ∧ Below w.heap.size w w' := by
  subst hn hY hK
  exact outcome_any w h ht
def PutPost2 (w : World) (base p g b cap : Nat) (gs : List Int) (vs : List (Int × Bool)) (e : Ending) (w' : World) : Prop := ∃ z, e = .returned (.bool z) ∧ TalAt w' base p g b cap gs vs ∧ w.grownBy w' (some b)
theorem put_eq {base p g b cap : Nat} {gs : List Int} {vs : List (Int × Bool)} (x : Nat) (y : Bool) (hx1 : x ≤ 1000000) (hn : gs.length ≤ 1000000) (w : World) (h : TalAt w base p g b cap gs vs) (ht : Tally gs vs) :
    Calls Try.prog 8 #[.pointer (some ⟨p, 0, none⟩), .int .i64 (x : Int), .bool y] w (PutPost2 w base p g b cap gs (putV gs vs x y)) :=
  (put_any x y (by omega) (by omega) hn w h ht).mono fun _ _ ⟨he, h1, h2⟩ => ⟨_, he, h1, h2⟩
theorem below_put {a w w' : World} {base p g b cap : Nat} {gs : List Int} {vs : List (Int × Bool)} (h : Below a.heap.size a w) (hg : w.grownBy w' (some b)) (hT : TalAt w' base p g b cap gs vs) (hb : a.heap.size ≤ base) : Below a.heap.size a w' :=
  h.grown hg h.size (fun k e => by cases e; exact Nat.le_trans hb hT.hb)

set_option maxRecDepth 100000 in
set_option maxHeartbeats 4000000 in
theorem law_order (yes : List Bool) (ord : List Nat) (A B : Option Addr) (ca cb : Nat) (w : World) (hA : BoolsAt w A yes) (hB : BytesAt w B ord) (hb8 : ∀ k, k < ord.length → ord.getD k 0 < 256) (h0 : 0 < yes.length) (h10 : yes.length ≤ 10) (h50 : ord.length ≤ 50) :
    Calls Try.prog 3 #[.slice A yes.length ca, .slice B ord.length cb] w fun e w' => e = .returned (.bool true) ∧ Below w.heap.size w w' := by
  have q0 : ((yes.length : Int) == 0) = false := by rw [beq_eq_false_iff_ne]; omega
  have q1 : decide ((10 : Int) < (yes.length : Int)) = false := by rw [decide_eq_false_iff_not]; omega
  have q2 : decide ((50 : Int) < (ord.length : Int)) = false := by rw [decide_eq_false_iff_not]; omega
  have HB8 := Lib.hid hb8
  clear hb8
  obtain ⟨i0, hi, hz0, hz1, hz2⟩ := info_parts info_int
  go_enter Try.func3, Try.ntmps3
  go_wp2_with (go_at_call 6; refine (awake16_any _).mono ?_; rintro e w1 ⟨rfl, hb⟩)
  have hA := CellsAt.later hA hb
  have hB := CellsAt.later hB hb
  have HB := hb
  clear hb q0 q1 q2
  go_loopw [5, 6, 7] (fun v a i wr => ∃ k : Nat, k ≤ yes.length ∧ i = .int .i64 k ∧ a = .bool (allTo yes k) ∧ Hid (wr.ownsRow w1.heap.size 3 1 v k ((gsN k).map (Value.int .i64))) ∧ Below w1.heap.size w1 wr) (fun _ _ i _ => yes.length - (intOf i).toNat)
  case atStart => exact ⟨0, Nat.zero_le _, rfl, rfl, own_nil _ _ _ _, Below.refl _ _⟩
  case round =>
    obtain ⟨k, hk, rfl, rfl, HO, hw⟩ := hrel
    by_cases hlt : k < yes.length
    · obtain ⟨bb, off, rfl, hc1⟩ := hA.at2 hlt
      have HS := Lib.hid (allTo_succ hlt)
      obtain ⟨y, hy⟩ : ∃ y, Hid (yes.getD k false = y) := ⟨_, rfl⟩
      rw [hy.out] at hc1
      have hc := keep hw hc1
      obtain ⟨z, hz⟩ : ∃ z, Hid (allTo yes k = z) := ⟨_, rfl⟩
      rw [hz.out]
      have HZ : Hid (allTo yes (k + 1) = (z && y)) := by show _ = _; rw [HS.out, hz.out, hy.out]
      cases z
      all_goals
        go_wp2_with (at_builtin; refine wpList_append_own _ rfl _ _ 25 rfl w1.heap.size 3 i0 (.int .i64 0) 1 8 Try.underlying25 hi hz0 hz1 hz2 rfl (by decide) _ _ _ rfl (own_keep HO.out (below1 _ _)) ⟨wr.heap.size, 0, none⟩ 1 1 [.int .i64 (k : Int)] rfl rfl (cell_one_new _ _ _) one_cell_int (le_maxLen (by omega)) (by omega) (Nat.le_trans hw.size (below1 _ _).size) ?_; intro v3 w3 HO3 hg3 _; replace hw := own_below (hw.alloc hw.size _) (Nat.le_refl _) (own_keep HO.out (below1 _ _)) hg3; replace HO3 := Lib.hid HO3; clear hg3; replace hc := keep hw hc1)
        go_roundw
        case rel => exact ⟨k + 1, by omega, by go_num, by rw [HZ.out]; simp, by show World.ownsRow _ _ _ _ _ _ _; rw [gsN_snoc, List.map_append]; exact HO3.out, hw⟩
        case measure => simp [intOf]; omega
    · have ek : k = yes.length := by omega
      have HO' : Hid (wr.ownsRow w1.heap.size 3 1 u5 (gsN yes.length).length ((gsN yes.length).map (Value.int .i64))) := by
        show World.ownsRow _ _ _ _ _ _ _
        have := HO.out
        rw [ek] at this
        rw [gsN_len]
        exact this
      have HALL : Hid (allTo yes k = yes.all id) := by show _ = _; rw [allTo, ek, List.take_length]
      rw [HALL.out]
      obtain ⟨all, hall⟩ : ∃ all, Hid (yes.all id = all) := ⟨_, rfl⟩
      rw [hall.out]
      clear ek HO HALL
      obtain ⟨A5, c5, e5, _, hI⟩ := own_ints HO'.out
      rw [gsN_len] at e5
      rw [e5]
      clear e5
      have hp : 0 < (gsN yes.length).length := by rw [gsN_len]; exact h0
      obtain ⟨b5, o5, rfl, _⟩ := hI 0 hp
      have hnew := new_ok (gsN yes.length) b5 o5 c5 wr hI (by rw [gsN_len]; omega) hp (gsN_nodup _)
      rw [gsN_len] at hnew
      have HNEW := Lib.hid hnew
      clear hnew hp
      have hbase : w1.heap.size ≤ wr.heap.size := hw.size
      obtain ⟨wz, rfl⟩ : ∃ wz : World, wz = wr := ⟨_, rfl⟩
      go_wp2_with (go_at_call 7; refine HNEW.out.mono ?_; rintro e w2 ⟨p, g, b, cap, rfl, hT, hb2⟩; replace hw := keepB hw hb2)
      clear HNEW hI HO'
      go_loopw [9, 10, 11] (fun x y i wr => ∃ k : Nat, k ≤ ord.length + yes.length ∧ i = .int .i64 k ∧ x = .bool (outYes yes.length (vsAt yes ord k)) ∧ y = .bool (outKnown yes.length (vsAt yes ord k)) ∧ TalAt wr wz.heap.size p g b cap (gsN yes.length) (vsAt yes ord k) ∧ Below w1.heap.size w1 wr) (fun _ _ i _ => ord.length + yes.length - (intOf i).toNat)
      case atStart =>
        have e1 : outYes yes.length (vsAt yes ord 0) = false := by simp [outYes, vsAt, anyNo]; omega
        have e2 : outKnown yes.length (vsAt yes ord 0) = false := by simp [outKnown, vsAt, anyNo]; omega
        exact ⟨0, Nat.zero_le _, rfl, by rw [e1], by rw [e2], hT, hw⟩
      case round =>
        clear hT hw hb2
        obtain ⟨k, hk, rfl, rfl, rfl, hTr, hw⟩ := hrel
        have HI := Lib.hid (vsInv (ord := ord) h0 k hk)
        obtain ⟨Y, hY⟩ : ∃ r, Hid (outYes yes.length (vsAt yes ord k) = r) := ⟨_, rfl⟩
        obtain ⟨K, hK⟩ : ∃ r, Hid (outKnown yes.length (vsAt yes ord k) = r) := ⟨_, rfl⟩
        rw [hY.out, hK.out]
        by_cases hlt : k < ord.length + yes.length
        · obtain ⟨gN, hgN⟩ : ∃ r, Hid (gAt ord yes.length k = r) := ⟨_, rfl⟩
          have hglt : gN < yes.length := by rw [← hgN.out]; exact gAt_lt h0 hlt
          obtain ⟨y, hy⟩ : ∃ r, Hid (yesAt yes gN = r) := ⟨_, rfl⟩
          obtain ⟨y2, hy2⟩ : ∃ r, Hid ((!y) = r) := ⟨_, rfl⟩
          have hyy : (y = true ∧ y2 = false) ∨ (y = false ∧ y2 = true) := by rw [← hy2.out]; cases y <;> simp
          have HV : Hid (vsAt yes ord (k + 1) = putV (gsN yes.length) (putV (gsN yes.length) (vsAt yes ord k) gN y) gN y2) := by show _ = _; rw [vsAt, hgN.out, hy.out, hy2.out]
          obtain ⟨Y', hY'⟩ : ∃ r, Hid (outYes yes.length (vsAt yes ord (k + 1)) = r) := ⟨_, rfl⟩
          obtain ⟨K', hK'⟩ : ∃ r, Hid (outKnown yes.length (vsAt yes ord (k + 1)) = r) := ⟨_, rfl⟩
          have HT0 := Lib.hid HI.out.tal
          have HT1 := Lib.hid (HI.out.tal.put gN y)
          have HT2 := Lib.hid ((HI.out.tal.put gN y).put gN y2)
          have HLE : Hid ((gsN yes.length).length ≤ 1000000) := by show _ ≤ _; rw [gsN_len]; omega
          have HST : Hid (K = true → Y' = Y ∧ K' = true) := by
            intro e
            have := known_stays (yes := yes) (ord := ord) h0 hlt (by rw [hK.out]; exact e)
            rw [hY'.out, hK'.out, hY.out] at this
            exact this
          obtain ⟨bb, off, rfl, hcy⟩ := hA.at2 hglt
          rw [show yes.getD gN false = y from hy.out] at hcy
          have hc := keep hw hcy
          have hcase : K = false ∨ (K = true ∧ Y' = Y ∧ K' = true) := by
            cases K
            · exact .inl rfl
            · exact .inr ⟨rfl, HST.out rfl⟩
          clear HST
          have hgi : (0 : Int) ≤ (gN : Int) := by omega
          have hgi2 : (gN : Int) < (yes.length : Int) := by omega
          by_cases hlo : k < ord.length
          · obtain ⟨bo, oo, rfl, hco⟩ := (CellsAt.later hB hw).at2 hlo
            obtain ⟨o, ho⟩ : ∃ r, Hid (ord.getD k 0 = r) := ⟨_, rfl⟩
            have ho8 := HB8.out k hlo
            rw [ho.out] at hco ho8
            have hgo : (o : Int) % (yes.length : Int) = (gN : Int) := by
              have := hgN.out
              rw [gAt, if_pos hlo, ho.out] at this
              rw [← this]; simp
            rcases hcase with rfl | ⟨rfl, rfl, rfl⟩
            all_goals
              rcases hyy with ⟨rfl, rfl⟩ | ⟨rfl, rfl⟩
              all_goals
                go_wp2_with (first
                | (go_at_call 8; (with_reducible refine (put_eq gN _ (by omega) HLE.out _ hTr HT0.out).mono ?_); rintro e w3 ⟨z3, rfl, hT3, hg3⟩; replace hw := below_put hw hg3 hT3 hbase; replace hc := keep hw hcy)
                | (go_at_call 8; (with_reducible refine (put_eq gN _ (by omega) HLE.out _ hT3 HT1.out).mono ?_); rintro e w4 ⟨z4, rfl, hT4, hg4⟩; replace hw := below_put hw hg4 hT4 hbase; replace hc := keep hw hcy)
                | (go_at_call 9; refine (outcome_eq (gsN_len _) (HV.out ▸ hY'.out) (HV.out ▸ hK'.out) _ hT4 HT2.out).mono ?_; rintro e w5 ⟨rfl, hb5⟩; replace hT4 := hT4.later hb5; replace hw := keepB hw hb5))
                go_roundw
                case rel => exact ⟨k + 1, by omega, by go_num, by rw [hY'.out], by rw [hK'.out], by rw [HV.out]; exact hT4, hw⟩
                case measure => simp [intOf]; omega
          · have hgo : (k : Int) - (ord.length : Int) = (gN : Int) := by
              have := hgN.out
              rw [gAt, if_neg hlo] at this
              omega
            rcases hcase with rfl | ⟨rfl, rfl, rfl⟩
            all_goals
              rcases hyy with ⟨rfl, rfl⟩ | ⟨rfl, rfl⟩
              all_goals
                go_wp2_with (first
                | (go_at_call 8; (with_reducible refine (put_eq gN _ (by omega) HLE.out _ hTr HT0.out).mono ?_); rintro e w3 ⟨z3, rfl, hT3, hg3⟩; replace hw := below_put hw hg3 hT3 hbase; replace hc := keep hw hcy)
                | (go_at_call 8; (with_reducible refine (put_eq gN _ (by omega) HLE.out _ hT3 HT1.out).mono ?_); rintro e w4 ⟨z4, rfl, hT4, hg4⟩; replace hw := below_put hw hg4 hT4 hbase; replace hc := keep hw hcy)
                | (go_at_call 9; refine (outcome_eq (gsN_len _) (HV.out ▸ hY'.out) (HV.out ▸ hK'.out) _ hT4 HT2.out).mono ?_; rintro e w5 ⟨rfl, hb5⟩; replace hT4 := hT4.later hb5; replace hw := keepB hw hb5))
                go_roundw
                case rel => exact ⟨k + 1, by omega, by go_num, by rw [hY'.out], by rw [hK'.out], by rw [HV.out]; exact hT4, hw⟩
                case measure => simp [intOf]; omega
        · have ek : k = ord.length + yes.length := by omega
          have hl := known_last (yes := yes) (ord := ord) h0
          rw [← ek, hY.out, hK.out, hall.out] at hl
          obtain ⟨rfl, rfl⟩ := hl
          clear ek
          cases Y
          all_goals
            go_wp2
            go_ret
            exact ⟨rfl, keepB HB hw⟩

theorem law_order_off (n m : Nat) (A B : Option Addr) (ca cb : Nat) (w : World) (hn : n ≤ 9223372036854775807) (hm : m ≤ 9223372036854775807) (h : n = 0 ∨ 10 < n ∨ 50 < m) :
    Calls Try.prog 3 #[.slice A n ca, .slice B m cb] w fun e w' => e = .returned (.bool true) ∧ Below w.heap.size w w' := by
  have hc : ((n : Int) == 0) = true ∨ (((n : Int) == 0) = false ∧ decide ((10 : Int) < (n : Int)) = true) ∨ (((n : Int) == 0) = false ∧ decide ((10 : Int) < (n : Int)) = false ∧ decide ((50 : Int) < (m : Int)) = true) := by
    by_cases h0 : n = 0
    · exact .inl (by rw [beq_iff_eq]; omega)
    · by_cases h1 : 10 < n
      · exact .inr (.inl ⟨by rw [beq_eq_false_iff_ne]; omega, by rw [decide_eq_true_iff]; omega⟩)
      · exact .inr (.inr ⟨by rw [beq_eq_false_iff_ne]; omega, by rw [decide_eq_false_iff_not]; omega, by rw [decide_eq_true_iff]; omega⟩)
  clear h
  rcases hc with q0 | ⟨q0, q1⟩ | ⟨q0, q1, q2⟩
  all_goals
    have HB := Below.refl w.heap.size w
    go_enter Try.func3, Try.ntmps3
    go_wp2_with (go_at_call 6; refine (awake16_any _).mono ?_; rintro e w1 ⟨rfl, hb⟩; replace HB := keepB HB hb)
    go_ret
    exact ⟨rfl, HB⟩
theorem law_order_any (yes : List Bool) (ord : List Nat) (A B : Option Addr) (ca cb : Nat) (w : World) (hA : BoolsAt w A yes) (hB : BytesAt w B ord) (hb8 : ∀ k, k < ord.length → ord.getD k 0 < 256) (hn : yes.length ≤ 9223372036854775807) (hm : ord.length ≤ 9223372036854775807) :
    Calls Try.prog 3 #[.slice A yes.length ca, .slice B ord.length cb] w fun e w' => e = .returned (.bool true) ∧ Below w.heap.size w w' := by
  by_cases h : yes.length = 0 ∨ 10 < yes.length ∨ 50 < ord.length
  · exact law_order_off _ _ A B ca cb w hn hm h
  · exact law_order yes ord A B ca cb w hA hB hb8 (by omega) (by omega) (by omega)
end Go.Proofs.Ytboiafchmdflpaa
