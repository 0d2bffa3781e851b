/- Layer 14's statements' data: an Op, a script; few: whether a script is looked at. -/
import Derived.Test.YtboiafchmdflpaaDoorModel08
namespace Go.Proofs.YtboiafchmdflpaaDoor
open Go.RowKit Go.Shelf

theorem all_bad {α : Type} {l : List α} {d : α} {p : α → Bool} {k : Nat} {x : α} (hk : k < l.length) (h : l.getD k d = x) (hx : p x = false) : l.all p = false := by
  rw [List.getD_eq_getElem?_getD, List.getElem?_eq_getElem hk] at h
  simp only [Option.getD_some] at h
  rw [List.all_eq_false]
  exact ⟨l[k], List.getElem_mem hk, by rw [h, hx]; simp⟩
theorem all_next {α : Type} {l : List α} {d : α} {p : α → Bool} {k : Nat} {x : α} (hk : k < l.length) (h : l.getD k d = x) (hx : p x = true) (ha : (l.take k).all p = true) : (l.take (k + 1)).all p = true := by
  rw [List.getD_eq_getElem?_getD, List.getElem?_eq_getElem hk] at h
  simp only [Option.getD_some] at h
  rw [List.take_succ_eq_append_getElem hk, List.all_append, ha, h]
  simp [hx]
theorem take_bad {α : Type} {l : List α} {d : α} {p : α → Bool} {k n : Nat} {x : α} (hk : k < l.length) (hn : k < n) (h : l.getD k d = x) (hx : p x = false) : (l.take n).all p = false := by
  refine all_bad (d := d) (k := k) (x := x) (by simp; omega) ?_ hx
  rw [← h]
  simp [List.getD_eq_getElem?_getD, hn]
def wrFew (x : Wr) : Bool := decide (x.key.size ≤ 1000) && decide (x.val.text.size ≤ 1000)
def fewW (l : List Wr) : Bool := (l.take 20).all wrFew && decide (l.length ≤ 12)

structure WrsOK (l : List Wr) : Prop where
  k : ∀ i, i < l.length → (l.getD i noWr).key.size ≤ 9223372036854775807
  v : ∀ i, i < l.length → (l.getD i noWr).val.Good
  n : l.length ≤ 9223372036854775807
theorem ret_bool14 {a b : Bool} (h : a = b) : Ending.returned (.bool b) = .returned (.bool a) := by rw [h]
theorem calls_same {P : Program} {f : FuncId} {args : Array Value} {w : World} {z x : Bool} (e : z = x) (h : Calls P f args w fun e w' => e = .returned (.bool z) ∧ w = w') : Calls P f args w fun e w' => e = .returned (.bool x) ∧ w = w' := by
  rw [e] at h; exact h
set_option maxRecDepth 100000 in
set_option maxHeartbeats 1000000 in
theorem fewW_any (l : List Wr) (A : Option Addr) (ca : Nat) (w : World) (hA : WrsAt w A l) (hl : WrsOK l) :
    Calls Tryd.prog 26 #[.slice A l.length ca] w fun e w' => e = .returned (.bool (fewW l)) ∧ w = w' := by
  have hn := hl.n
  have HK := Lib.hid hl
  clear hl
  go_enter Tryd.func26, Tryd.ntmps26
  go_wp2_with fail
  go_loop [3] (fun i => ∃ k : Nat, k ≤ l.length ∧ k ≤ 20 ∧ i = .int .i64 k ∧ Hid ((l.take k).all wrFew = true)) (fun i => l.length - (intOf i).toNat)
  case atStart => exact ⟨0, Nat.zero_le _, by omega, rfl, rfl⟩
  case round =>
    obtain ⟨k, hk, hk20, rfl, HA⟩ := hrel
    by_cases hlt : k < l.length
    · by_cases h20 : k < 20
      · obtain ⟨b, off, s, z, n, x, rfl, d0, d1, d2, d3, HX⟩ := hA.at' hlt
        have hki : (k : Int) < l.length := by omega
        have hs := HK.out.k k hlt
        have hx := (HK.out.v k hlt).t
        rw [HX.out] at hs hx
        simp only at hs hx
        by_cases hb : 1000 < s.size
        · have HF : Hid (fewW l = false) := by show _ = _; rw [fewW, take_bad hlt h20 HX.out (by simp [wrFew]; omega)]; rfl
          go_wp2
          go_ret
          exact ⟨ret_bool14 HF.out, rfl⟩
        · by_cases hb2 : 1000 < x.size
          · have HF : Hid (fewW l = false) := by show _ = _; rw [fewW, take_bad hlt h20 HX.out (by simp [wrFew]; omega)]; rfl
            go_wp2
            go_ret
            exact ⟨ret_bool14 HF.out, rfl⟩
          · have HR : Hid ((l.take (k + 1)).all wrFew = true) := all_next hlt HX.out (by simp [wrFew]; omega) HA.out
            go_wp2
            go_round
            case rel => exact ⟨k + 1, by omega, by omega, by go_num, HR⟩
            case measure => simp [intOf]; omega
      · have ek : k = 20 := by omega
        have HF : Hid (fewW l = decide (l.length ≤ 12)) := by show _ = _; rw [fewW, ← ek, HA.out]; rfl
        have hbig : ¬ l.length ≤ 12 := by omega
        have q : decide ((l.length : Int) ≤ 12) = false := by rw [decide_eq_false_iff_not]; omega
        have HF2 : Hid (fewW l = false) := by show _ = _; rw [HF.out, decide_eq_false hbig]
        clear ek
        go_wp2
        go_ret
        exact ⟨ret_bool14 HF2.out, rfl⟩
    · have ek : k = l.length := by omega
      have HF : Hid (fewW l = decide (l.length ≤ 12)) := by
        show _ = _
        have h1 : l.take 20 = l.take k := by rw [ek, List.take_length, List.take_of_length_le (by omega)]
        rw [fewW, h1, HA.out]; rfl
      clear ek
      by_cases h12 : l.length ≤ 12
      · have HF2 : Hid (fewW l = true) := by show _ = _; rw [HF.out, decide_eq_true h12]
        have q : decide ((l.length : Int) ≤ 12) = true := by rw [decide_eq_true_iff]; omega
        go_wp2
        go_ret
        exact ⟨ret_bool14 HF2.out, rfl⟩
      · have HF2 : Hid (fewW l = false) := by show _ = _; rw [HF.out, decide_eq_false h12]
        have q : decide ((l.length : Int) ≤ 12) = false := by rw [decide_eq_false_iff_not]; omega
        go_wp2
        go_ret
        exact ⟨ret_bool14 HF2.out, rfl⟩

/-! ### Ops and scripts -/
structure OpD where
  kind : Int
  l : List Wr
  key : ByteArray
  upto : ByteArray
  num : Nat
  by8 : Nat
instance : Inhabited OpD := ⟨⟨0, [], noStr, noStr, 0, 0⟩⟩
def noOp : OpD := ⟨0, [], noStr, noStr, 0, 0⟩
structure OpOK (o : OpD) : Prop where
  l : WrsOK o.l
  k : o.key.size ≤ 9223372036854775807
  t : o.upto.size ≤ 9223372036854775807
  n : o.num < 18446744073709551616
  b : o.by8 < 256
def opFew (o : OpD) : Bool := fewW o.l && decide (o.key.size ≤ 1000) && decide (o.upto.size ≤ 1000)
def fewS (l : List OpD) : Bool := (l.take 100).all opFew && decide (l.length ≤ 60)
/-- Ops that lie in memory; LA, LC: each one's writes' address and capacity. -/
def OpsAt (w : World) (S : Option Addr) (l : List OpD) (LA : Nat → Option Addr) (LC : Nat → Nat) : Prop :=
  ∀ i, i < l.length → ∃ b off, S = some ⟨b, off, none⟩ ∧ w.cell? ⟨b, off + i * 6, none⟩ = some (.int .i64 (l.getD i noOp).kind) ∧ w.cell? ⟨b, off + i * 6 + 1, none⟩ = some (.slice (LA i) (l.getD i noOp).l.length (LC i)) ∧
    w.cell? ⟨b, off + i * 6 + 2, none⟩ = some (.string (l.getD i noOp).key) ∧ w.cell? ⟨b, off + i * 6 + 3, none⟩ = some (.string (l.getD i noOp).upto) ∧ w.cell? ⟨b, off + i * 6 + 4, none⟩ = some (.int .u64 ((l.getD i noOp).num : Nat)) ∧
    w.cell? ⟨b, off + i * 6 + 5, none⟩ = some (.int .u8 ((l.getD i noOp).by8 : Nat)) ∧ WrsAt w (LA i) (l.getD i noOp).l
theorem OpsAt.later {w w' : World} {S : Option Addr} {l : List OpD} {LA : Nat → Option Addr} {LC : Nat → Nat} (h : OpsAt w S l LA LC) (hb : Below w.heap.size w w') : OpsAt w' S l LA LC := by
  intro i hi
  obtain ⟨b, off, e, h0, h1, h2, h3, h4, h5, h6⟩ := h i hi
  exact ⟨b, off, e, keep hb h0, keep hb h1, keep hb h2, keep hb h3, keep hb h4, keep hb h5, h6.later hb⟩
set_option maxRecDepth 100000 in
set_option maxHeartbeats 2000000 in
theorem fewS_any (l : List OpD) (S : Option Addr) (LA : Nat → Option Addr) (LC : Nat → Nat) (ca : Nat) (w : World) (hS : OpsAt w S l LA LC) (hl : ∀ i, i < l.length → OpOK (l.getD i noOp)) (hn : l.length ≤ 9223372036854775807) :
    Calls Tryd.prog 12 #[.slice S l.length ca] w fun e w' => e = .returned (.bool (fewS l)) ∧ w = w' := by
  have HK := Lib.hid hl
  have HS := Lib.hid hS
  clear hl hS
  go_enter Tryd.func12, Tryd.ntmps12
  go_wp2_with fail
  go_loop [3] (fun i => ∃ k : Nat, k ≤ l.length ∧ k ≤ 100 ∧ i = .int .i64 k ∧ Hid ((l.take k).all opFew = true)) (fun i => l.length - (intOf i).toNat)
  case atStart => exact ⟨0, Nat.zero_le _, by omega, rfl, rfl⟩
  case round =>
    obtain ⟨k, hk, hk100, rfl, HA⟩ := hrel
    by_cases hlt : k < l.length
    · by_cases h100 : k < 100
      · obtain ⟨b, off, rfl, d0, d1, d2, d3, d4, d5, d6⟩ := HS.out k hlt
        have hok := HK.out k hlt
        obtain ⟨o, HX⟩ : ∃ o, Hid (l.getD k noOp = o) := ⟨_, rfl⟩
        rw [HX.out] at d0 d1 d2 d3 d4 d5 d6 hok
        have hs := hok.k
        have ht := hok.t
        have HL := Lib.hid hok.l
        have hki : (k : Int) < l.length := by omega
        clear hok d0 d4 d5
        cases hf : fewW o.l
        · have HF : Hid (fewS l = false) := by show _ = _; rw [fewS, take_bad hlt h100 HX.out (by simp [opFew, hf])]; rfl
          have HFW := Lib.hid hf
          clear hf
          go_wp2_with (go_at_call 26; refine (calls_same HFW.out (fewW_any o.l _ _ _ d6 HL.out)).mono ?_; rintro e w1 ⟨rfl, rfl⟩)
          go_ret
          exact ⟨ret_bool14 HF.out, rfl⟩
        · have HFW := Lib.hid hf
          clear hf
          by_cases hb : 1000 < o.key.size
          · have HF : Hid (fewS l = false) := by show _ = _; rw [fewS, take_bad hlt h100 HX.out (by simp [opFew, HFW.out]; omega)]; rfl
            go_wp2_with (go_at_call 26; refine (calls_same HFW.out (fewW_any o.l _ _ _ d6 HL.out)).mono ?_; rintro e w1 ⟨rfl, rfl⟩)
            go_ret
            exact ⟨ret_bool14 HF.out, rfl⟩
          · by_cases hb2 : 1000 < o.upto.size
            · have HF : Hid (fewS l = false) := by show _ = _; rw [fewS, take_bad hlt h100 HX.out (by simp [opFew, HFW.out]; omega)]; rfl
              go_wp2_with (go_at_call 26; refine (calls_same HFW.out (fewW_any o.l _ _ _ d6 HL.out)).mono ?_; rintro e w1 ⟨rfl, rfl⟩)
              go_ret
              exact ⟨ret_bool14 HF.out, rfl⟩
            · have HR : Hid ((l.take (k + 1)).all opFew = true) := all_next hlt HX.out (by simp [opFew, HFW.out]; omega) HA.out
              go_wp2_with (go_at_call 26; refine (calls_same HFW.out (fewW_any o.l _ _ _ d6 HL.out)).mono ?_; rintro e w1 ⟨rfl, rfl⟩)
              go_round
              case rel => exact ⟨k + 1, by omega, by omega, by go_num, HR⟩
              case measure => simp [intOf]; omega
      · have ek : k = 100 := by omega
        have HF : Hid (fewS l = decide (l.length ≤ 60)) := by show _ = _; rw [fewS, ← ek, HA.out]; rfl
        have hbig : ¬ l.length ≤ 60 := by omega
        have q : decide ((l.length : Int) ≤ 60) = false := by rw [decide_eq_false_iff_not]; omega
        have HF2 : Hid (fewS l = false) := by show _ = _; rw [HF.out, decide_eq_false hbig]
        clear ek
        go_wp2
        go_ret
        exact ⟨ret_bool14 HF2.out, rfl⟩
    · have ek : k = l.length := by omega
      have HF : Hid (fewS l = decide (l.length ≤ 60)) := by
        show _ = _
        have h1 : l.take 100 = l.take k := by rw [ek, List.take_length, List.take_of_length_le (by omega)]
        rw [fewS, h1, HA.out]; rfl
      clear ek
      by_cases h12 : l.length ≤ 60
      · have HF2 : Hid (fewS l = true) := by show _ = _; rw [HF.out, decide_eq_true h12]
        have q : decide ((l.length : Int) ≤ 60) = true := by rw [decide_eq_true_iff]; omega
        go_wp2
        go_ret
        exact ⟨ret_bool14 HF2.out, rfl⟩
      · have HF2 : Hid (fewS l = false) := by show _ = _; rw [HF.out, decide_eq_false h12]
        have q : decide ((l.length : Int) ≤ 60) = false := by rw [decide_eq_false_iff_not]; omega
        go_wp2
        go_ret
        exact ⟨ret_bool14 HF2.out, rfl⟩
end Go.Proofs.YtboiafchmdflpaaDoor
