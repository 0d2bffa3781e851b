/- Layer 8's Few, and awake: whether a transaction is looked at; what the program must answer. -/
import Derived.Test.YtjgloipgnnigmaaGreatDoorSame08
namespace Go.Proofs.YtjgloipgnnigmaaGreatDoor
open Go.RowKit Go.Shelf

theorem all_bad {α : Type} {l : List α} {d : α} {p : α → Bool} {k : Nat} {x : α} (hk : k < l.length) (h : l.getD k d = x) (hx : p x = false) : l.all p = false := by
  rw [List.getD_eq_getElem?_getD, List.getElem?_eq_getElem hk] at h
  simp only [Option.getD_some] at h
  rw [List.all_eq_false]
  exact ⟨l[k], List.getElem_mem hk, by rw [h, hx]; simp⟩
theorem all_next {α : Type} {l : List α} {d : α} {p : α → Bool} {k : Nat} {x : α} (hk : k < l.length) (h : l.getD k d = x) (hx : p x = true) (ha : (l.take k).all p = true) : (l.take (k + 1)).all p = true := by
  rw [List.getD_eq_getElem?_getD, List.getElem?_eq_getElem hk] at h
  simp only [Option.getD_some] at h
  rw [List.take_succ_eq_append_getElem hk, List.all_append, ha, h]
  simp [hx]
def rdFew (x : Rd) : Bool := decide (x.key.size ≤ 1000)
def wrFew (x : Wr) : Bool := decide (x.key.size ≤ 1000) && decide (x.val.text.size ≤ 1000)
def fewT (t : Tx) : Bool := decide (t.rds.length ≤ 12) && decide (t.wrs.length ≤ 12) && t.rds.all rdFew && t.wrs.all wrFew

set_option maxRecDepth 100000 in
set_option maxHeartbeats 2000000 in
theorem few08_any (t : Tx) (A B : Option Addr) (ca cb : Nat) (w : World) (h : TxAt w t A B) :
    Calls Tryz.prog 77 #[txV t A B ca cb] w fun e w' => e = .returned (.bool (fewT t)) ∧ Below w.heap.size w w' := by
  unfold txV
  obtain ⟨W, eW, HB, c0, c1, c2, c3⟩ := box4 w (.int .i64 t.ses) (.int .i64 t.seq) (.slice A t.rds.length ca) (.slice B t.wrs.length cb) 37
  have h := h.later HB
  have hrn := h.rn
  have hwn := h.wn
  by_cases hn : t.rds.length ≤ 12
  · by_cases hm : t.wrs.length ≤ 12
    · have q0 : decide ((12 : Int) < (t.rds.length : Int)) = false := by rw [decide_eq_false_iff_not]; omega
      have q1 : decide ((12 : Int) < (t.wrs.length : Int)) = false := by rw [decide_eq_false_iff_not]; omega
      replace hn := Lib.hid hn
      replace hm := Lib.hid hm
      go_enter Tryz.func77, Tryz.ntmps77
      go_wp2_with fail
      clear eW q0 q1
      go_loopw [3] (fun i wr => ∃ k : Nat, k ≤ t.rds.length ∧ i = .int .i64 k ∧ Hid ((t.rds.take k).all rdFew = true) ∧ Below W.heap.size W wr) (fun i _ => t.rds.length - (intOf i).toNat)
      case atStart => exact ⟨0, Nat.zero_le _, rfl, rfl, Below.refl _ _⟩
      case round =>
        obtain ⟨k, hk, rfl, HA, hw⟩ := hrel
        have hB := keepB HB hw
        replace c2 := keep hw c2
        replace c3 := keep hw c3
        by_cases hlt : k < t.rds.length
        · obtain ⟨p, off, s, n, rfl, d0, d1, HX⟩ := (h.later hw).rds.at' (k := k) hlt
          have hki : (k : Int) < t.rds.length := by omega
          by_cases hb : 1000 < s.size
          · have HF : Hid (fewT t = false) := by show _ = _; rw [fewT, all_bad hlt HX.out (by simp [rdFew]; omega)]; simp
            go_wp2
            go_ret
            exact ⟨ret_bool HF.out, hB⟩
          · have HR : Hid ((t.rds.take (k + 1)).all rdFew = true) := all_next hlt HX.out (by simp [rdFew]; omega) HA.out
            go_wp2
            go_roundw
            case rel => exact ⟨k + 1, by omega, by go_num, HR, hw⟩
            case measure => simp [intOf]; omega
        · have ek : k = t.rds.length := by omega
          have HR : Hid (t.rds.all rdFew = true) := by show _ = _; have := HA.out; rw [ek, List.take_length] at this; exact this
          clear ek HA
          go_wp2_with fail
          obtain ⟨wa, rfl⟩ : ∃ wa : World, wa = wr := ⟨_, rfl⟩
          have HR1 := Lib.hid HR.out
          clear HR
          replace h := h.later hw
          replace HB := keepB HB hw
          clear hw hB
          go_loopw [4] (fun i wr => ∃ k : Nat, k ≤ t.wrs.length ∧ i = .int .i64 k ∧ Hid ((t.wrs.take k).all wrFew = true) ∧ Below wa.heap.size wa wr) (fun i _ => t.wrs.length - (intOf i).toNat)
          case atStart => exact ⟨0, Nat.zero_le _, rfl, rfl, Below.refl _ _⟩
          case round =>
            obtain ⟨k, hk, rfl, HA, hw⟩ := hrel
            have hB := keepB HB hw
            replace c2 := keep hw c2
            replace c3 := keep hw c3
            by_cases hlt : k < t.wrs.length
            · obtain ⟨p, off, s, z, n, x, rfl, d0, d1, d2, d3, HX⟩ := (h.later hw).wrs.at' (k := k) hlt
              have hki : (k : Int) < t.wrs.length := by omega
              by_cases hb : 1000 < s.size
              · have HF : Hid (fewT t = false) := by show _ = _; rw [fewT, all_bad hlt HX.out (by simp [wrFew]; omega)]; simp
                go_wp2
                go_ret
                exact ⟨ret_bool HF.out, hB⟩
              · by_cases hb2 : 1000 < x.size
                · have HF : Hid (fewT t = false) := by show _ = _; rw [fewT, all_bad hlt HX.out (by simp [wrFew]; omega)]; simp
                  go_wp2
                  go_ret
                  exact ⟨ret_bool HF.out, hB⟩
                · have HR : Hid ((t.wrs.take (k + 1)).all wrFew = true) := all_next hlt HX.out (by simp [wrFew]; omega) HA.out
                  go_wp2
                  go_roundw
                  case rel => exact ⟨k + 1, by omega, by go_num, HR, hw⟩
                  case measure => simp [intOf]; omega
            · have ek : k = t.wrs.length := by omega
              have HR : Hid (t.wrs.all wrFew = true) := by show _ = _; have := HA.out; rw [ek, List.take_length] at this; exact this
              clear ek HA
              have HF : Hid (fewT t = true) := by show _ = _; rw [fewT, HR1.out, HR.out, decide_eq_true hn.out, decide_eq_true hm.out]; rfl
              go_wp2
              go_ret
              exact ⟨ret_bool HF.out, hB⟩
    · have HF : Hid (fewT t = false) := by show _ = _; rw [fewT, decide_eq_false hm]; simp
      go_enter Tryz.func77, Tryz.ntmps77
      go_wp2
      go_ret
      exact ⟨ret_bool HF.out, HB⟩
  · have HF : Hid (fewT t = false) := by show _ = _; rw [fewT, decide_eq_false hn]; simp
    go_enter Tryz.func77, Tryz.ntmps77
    go_wp2
    go_ret
    exact ⟨ret_bool HF.out, HB⟩

def noTx : Tx := ⟨0, 0, [], []⟩
theorem noTx_at (w : World) : TxAt w noTx none none :=
  ⟨fun _ hi => absurd hi (Nat.not_lt_zero _), fun _ hi => absurd hi (Nat.not_lt_zero _), fun _ hi => absurd hi (Nat.not_lt_zero _), fun _ hi => absurd hi (Nat.not_lt_zero _), fun _ hi => absurd hi (Nat.not_lt_zero _), Nat.zero_le _, Nat.zero_le _⟩
theorem same_noTx (w : World) : Calls Tryz.prog 139 #[.agg #[.int .i64 0, .int .i64 0, .slice none 0 0, .slice none 0 0], .agg #[.int .i64 0, .int .i64 0, .slice none 0 0, .slice none 0 0]] w fun e w' => e = .returned (.bool true) ∧ Below w.heap.size w w' :=
  txSame_any noTx noTx none none none none 0 0 0 0 w (noTx_at w) (noTx_at w)
theorem id_11 (w : World) : Calls Tryz.prog 98 #[.agg #[.int .i64 1, .int .i64 1]] w fun e w' => e = .returned (.bool true) ∧ Below w.heap.size w w' :=
  id_any 1 1 w
end Go.Proofs.YtjgloipgnnigmaaGreatDoor
