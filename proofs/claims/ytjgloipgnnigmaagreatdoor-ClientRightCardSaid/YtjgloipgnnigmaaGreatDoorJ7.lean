/- The client's has: whether a key was read, or asked for. The ask that an answer answers. -/
import Derived.Test.YtjgloipgnnigmaaGreatDoorJ5
import Derived.Test.YtjgloipgnnigmaaGreatDoorFew21
import Derived.Test.YtjgloipgnnigmaaGreatDoorJ4
import Derived.Test.YtjgloipgnnigmaaGreatDoorJ3
import Derived.Test.YtjgloipgnnigmaaGreatDoorShelfF
import Derived.Lib.QuietBelow
import Derived.Test.YtjgloipgnnigmaaGreatDoorJ6
import Derived.Test.YtjgloipgnnigmaaGreatDoorJ2
set_option linter.unusedVariables false
set_option linter.unusedSimpArgs false
namespace Go.Proofs.YtjgloipgnnigmaaGreatDoor
open Go.RowKit Go.Shelf

theorem boxS (w : World) (u : Value) (t : TypeId) : ∃ W : World, w.alloc (.cells #[u] t) = W ∧ Below w.heap.size w W ∧ W.cell? ⟨w.heap.size, 0, none⟩ = some u :=
  ⟨_, rfl, below1 _ _, by simp⟩
theorem str_dec21 (a b : ByteArray) : (a.toList == b.toList) = decide (a = b) := by
  by_cases h : a = b
  · simp [h]
  · have : a.toList ≠ b.toList := fun e => h (bytes_ext e)
    simp [h, this]
def IdxPost21 (w : World) (n : Nat) (k : Nat) (e : Ending) (w' : World) : Prop := e = .returned (.int .i64 (if k < n then (k : Int) else -1)) ∧ Below w.heap.size w w'
theorem findIdx_here {α : Type} {l : List α} {d : α} {p : α → Bool} {k : Nat} {x : α} (hk : k < l.length) (h : l.getD k d = x) (hx : p x = true) (ha : (l.take k).all (fun y => !p y) = true) : l.findIdx p = k := by
  rw [getD_eq l d hk] at h
  rw [List.findIdx_eq hk]
  refine ⟨by rw [h]; exact hx, fun j hj => ?_⟩
  have := List.all_eq_true.1 ha (l[j]'(by omega)) (List.mem_take_iff_getElem.2 ⟨j, by omega, rfl⟩)
  simpa using this
theorem findIdx_no {α : Type} {l : List α} {p : α → Bool} (ha : l.all (fun y => !p y) = true) : l.findIdx p = l.length := by
  rw [List.findIdx_eq_length]
  intro x hx
  simpa using List.all_eq_true.1 ha x hx
theorem findIdx_lt {α : Type} (l : List α) (p : α → Bool) : decide (l.findIdx p < l.length) = l.any p := by
  rw [Bool.eq_iff_iff, decide_eq_true_eq, List.findIdx_lt_length, List.any_eq_true]
theorem ret_idx {n k : Nat} {z : Int} (h : z = if k < n then (k : Int) else -1) : Ending.returned (.int .i64 z) = .returned (.int .i64 (if k < n then (k : Int) else -1)) := by rw [h]

theorem has1_any (s : ByteArray) (n : Nat) (key : ByteArray) (g : Nat) (w : World) (cg : w.cell? ⟨g, 0, none⟩ = some (.string key)) :
    Calls Tryz.prog 80 #[.agg #[.string s, .int .u64 (n : Int)], .pointer (some ⟨g, 0, none⟩)] w fun e w' => e = .returned (.bool (decide (s = key))) ∧ Below w.heap.size w w' := by
  obtain ⟨W, eW, HB, c0, c1⟩ := box2 w (.string s) (.int .u64 (n : Int)) 75
  replace cg := keep HB cg
  have q := str_dec21 s key
  go_enter Tryz.func80, Tryz.ntmps80
  go_wp2
  go_ret
  exact ⟨rfl, HB⟩

theorem has2_any (n gr : Nat) (s : ByteArray) (t : Nat) (key : ByteArray) (g : Nat) (w : World) (cg : w.cell? ⟨g, 0, none⟩ = some (.string key)) :
    Calls Tryz.prog 82 #[.agg #[.int .i64 (n : Int), .int .i64 (gr : Int), .string s, .int .u64 (t : Int)], .pointer (some ⟨g, 0, none⟩)] w fun e w' => e = .returned (.bool (decide (s = key))) ∧ Below w.heap.size w w' := by
  obtain ⟨W, eW, HB, c0, c1, c2, c3⟩ := box4 w (.int .i64 (n : Int)) (.int .i64 (gr : Int)) (.string s) (.int .u64 (t : Int)) 103
  replace cg := keep HB cg
  have q := str_dec21 s key
  go_enter Tryz.func82, Tryz.ntmps82
  go_wp2
  go_ret
  exact ⟨rfl, HB⟩
theorem ansC_any (a : AskD) (m : MsgV) (g : Nat) (t : TypeId) (w : World) (hg : w.heap[g]? = some (.cells m.vs t (0, 0))) :
    Calls Tryz.prog 100 #[.agg #[.int .i64 (a.n : Int), .int .i64 (a.g : Int), .string a.key, .int .u64 (a.st : Int)], .pointer (some ⟨g, 0, none⟩)] w fun e w' => e = .returned (.bool (askP m.num m.key a)) ∧ Below w.heap.size w w' := by
  obtain ⟨W, eW, HB, c0, c1, c2, c3⟩ := box4 w (.int .i64 (a.n : Int)) (.int .i64 (a.g : Int)) (.string a.key) (.int .u64 (a.st : Int)) 103
  replace hg := obj_keep hg HB
  have d26 : W.cell? ⟨g, 26, none⟩ = some (.int .i64 m.num) := by rw [cell_of_row W _ _ _ _ _ hg]; rfl
  have d27 : W.cell? ⟨g, 27, none⟩ = some (.string m.key) := by rw [cell_of_row W _ _ _ _ _ hg]; rfl
  clear hg
  by_cases h1 : (a.n : Int) = m.num <;> by_cases h2 : a.key = m.key
  all_goals
    have q1 : ((a.n : Int) == m.num) = decide ((a.n : Int) = m.num) := rfl
    have q2 := str_dec21 a.key m.key
    have HE : Hid (askP m.num m.key a = (decide ((a.n : Int) = m.num) && decide (a.key = m.key))) := rfl
    first | rw [decide_eq_true h1] at q1 HE | rw [decide_eq_false h1] at q1 HE
    first | rw [decide_eq_true h2] at q2 HE | rw [decide_eq_false h2] at q2 HE
    clear h1 h2
    go_enter Tryz.func100, Tryz.ntmps100
    go_wp2
    go_ret
    exact ⟨ret_few HE.out, HB⟩

set_option maxRecDepth 100000 in
theorem idxR_any (l : List Rd) (A : Option Addr) (ca : Nat) (key : ByteArray) (g : Nat) (w : World) (hA : RdsAt w A l) (cg : w.cell? ⟨g, 0, none⟩ = some (.string key)) (hn : l.length ≤ 1000) :
    Calls Tryz.prog 133 #[.slice A l.length ca, .func (.func 80) #[] #[.pointer (some ⟨g, 0, none⟩)]] w (IdxPost21 w l.length (l.findIdx (fun r : Rd => decide (r.key = key)))) := by
  go_enter Tryz.func133, Tryz.ntmps133
  go_wp2_with fail
  go_loopw [8] (fun i wr => ∃ k : Nat, k ≤ l.length ∧ i = .int .i64 k ∧ Hid ((l.take k).all (fun y => !(fun r : Rd => decide (r.key = key)) y) = true) ∧ Below w.heap.size w wr) (fun i _ => l.length - (intOf i).toNat)
  case atStart => exact ⟨0, Nat.zero_le _, rfl, rfl, Below.refl _ _⟩
  case round =>
    obtain ⟨k, hk, rfl, HA, hw⟩ := hrel
    have hr := hA.later hw
    have cgr := keep hw cg
    by_cases hlt : k < l.length
    · obtain ⟨b, off, s, n, rfl, d0, d1, HX⟩ := hr.at' hlt
      cases hv : (fun r : Rd => decide (r.key = key)) ⟨s, n⟩
      · have HF : Hid ((l.take (k + 1)).all (fun y => !(fun r : Rd => decide (r.key = key)) y) = true) := all_next hlt HX.out (by rw [hv]; rfl) HA.out
        replace hv := Lib.hid hv
        go_wp2_with (go_at_call 80; refine (calls_few hv.out (has1_any s n key g _ cgr)).mono ?_; rintro e w1 ⟨rfl, hb⟩; replace hw := keepB hw hb)
        go_roundw
        case rel => exact ⟨k + 1, by omega, by go_num, HF, hw⟩
        case measure => simp [intOf]; omega
      · have HF : Hid ((k : Int) = if l.findIdx (fun r : Rd => decide (r.key = key)) < l.length then ((l.findIdx (fun r : Rd => decide (r.key = key)) : Nat) : Int) else -1) := by show _ = _; rw [findIdx_here hlt HX.out hv HA.out, if_pos hlt]
        replace hv := Lib.hid hv
        go_wp2_with (go_at_call 80; refine (calls_few hv.out (has1_any s n key g _ cgr)).mono ?_; rintro e w1 ⟨rfl, hb⟩; replace hw := keepB hw hb)
        go_ret
        exact ⟨ret_idx HF.out, hw⟩
    · have HF : Hid ((-1 : Int) = if l.findIdx (fun r : Rd => decide (r.key = key)) < l.length then ((l.findIdx (fun r : Rd => decide (r.key = key)) : Nat) : Int) else -1) := by show _ = _; rw [findIdx_no (by have := HA.out; rwa [List.take_of_length_le (by omega)] at this), if_neg (Nat.lt_irrefl _)]
      go_wp2
      go_ret
      exact ⟨ret_idx HF.out, hw⟩

set_option maxRecDepth 100000 in
theorem conR_any (l : List Rd) (A : Option Addr) (ca : Nat) (key : ByteArray) (g : Nat) (w : World) (hA : RdsAt w A l) (cg : w.cell? ⟨g, 0, none⟩ = some (.string key)) (hn : l.length ≤ 1000) :
    Calls Tryz.prog 79 #[.slice A l.length ca, .func (.func 80) #[] #[.pointer (some ⟨g, 0, none⟩)]] w fun e w' => e = .returned (.bool (l.any (fun r : Rd => decide (r.key = key)))) ∧ Below w.heap.size w w' := by
  obtain ⟨z, hz⟩ : ∃ z : Int, Hid ((if l.findIdx (fun r : Rd => decide (r.key = key)) < l.length then ((l.findIdx (fun r : Rd => decide (r.key = key)) : Nat) : Int) else -1) = z) := ⟨_, rfl⟩
  obtain ⟨b, hb0⟩ : ∃ b, Hid (l.any (fun r : Rd => decide (r.key = key)) = b) := ⟨_, rfl⟩
  have hq : decide (0 ≤ z) = b := by
    rw [← hz.out, ← hb0.out, ← findIdx_lt]
    by_cases h : l.findIdx (fun r : Rd => decide (r.key = key)) < l.length
    · rw [if_pos h, decide_eq_true h, decide_eq_true_iff]; omega
    · rw [if_neg h, decide_eq_false h]; rfl
  go_enter Tryz.func79, Tryz.ntmps79
  go_wp2_with (go_at_call 133; refine (idxR_any l A ca key g _ hA cg hn).mono ?_; rintro e w1 ⟨rfl, hb⟩; rw [hz.out])
  go_ret
  exact ⟨ret_few hb0.out, hb⟩

set_option maxRecDepth 100000 in
theorem idxA_any (l : List AskD) (A : Option Addr) (ca : Nat) (key : ByteArray) (g : Nat) (w : World) (hA : AsksAt w A l) (cg : w.cell? ⟨g, 0, none⟩ = some (.string key)) (hn : l.length ≤ 1000) :
    Calls Tryz.prog 99 #[.slice A l.length ca, .func (.func 82) #[] #[.pointer (some ⟨g, 0, none⟩)]] w (IdxPost21 w l.length (l.findIdx (fun a : AskD => decide (a.key = key)))) := by
  go_enter Tryz.func99, Tryz.ntmps99
  go_wp2_with fail
  go_loopw [8] (fun i wr => ∃ k : Nat, k ≤ l.length ∧ i = .int .i64 k ∧ Hid ((l.take k).all (fun y => !(fun a : AskD => decide (a.key = key)) y) = true) ∧ Below w.heap.size w wr) (fun i _ => l.length - (intOf i).toNat)
  case atStart => exact ⟨0, Nat.zero_le _, rfl, rfl, Below.refl _ _⟩
  case round =>
    obtain ⟨k, hk, rfl, HA, hw⟩ := hrel
    have hr := hA.later hw
    have cgr := keep hw cg
    by_cases hlt : k < l.length
    · obtain ⟨b, off, n, gr, s, t, rfl, d0, d1, d2, d3, HX⟩ := hr.at' hlt
      cases hv : (fun a : AskD => decide (a.key = key)) ⟨n, gr, s, t⟩
      · have HF : Hid ((l.take (k + 1)).all (fun y => !(fun a : AskD => decide (a.key = key)) y) = true) := all_next hlt HX.out (by rw [hv]; rfl) HA.out
        replace hv := Lib.hid hv
        go_wp2_with (go_at_call 82; refine (calls_few hv.out (has2_any n gr s t key g _ cgr)).mono ?_; rintro e w1 ⟨rfl, hb⟩; replace hw := keepB hw hb)
        go_roundw
        case rel => exact ⟨k + 1, by omega, by go_num, HF, hw⟩
        case measure => simp [intOf]; omega
      · have HF : Hid ((k : Int) = if l.findIdx (fun a : AskD => decide (a.key = key)) < l.length then ((l.findIdx (fun a : AskD => decide (a.key = key)) : Nat) : Int) else -1) := by show _ = _; rw [findIdx_here hlt HX.out hv HA.out, if_pos hlt]
        replace hv := Lib.hid hv
        go_wp2_with (go_at_call 82; refine (calls_few hv.out (has2_any n gr s t key g _ cgr)).mono ?_; rintro e w1 ⟨rfl, hb⟩; replace hw := keepB hw hb)
        go_ret
        exact ⟨ret_idx HF.out, hw⟩
    · have HF : Hid ((-1 : Int) = if l.findIdx (fun a : AskD => decide (a.key = key)) < l.length then ((l.findIdx (fun a : AskD => decide (a.key = key)) : Nat) : Int) else -1) := by show _ = _; rw [findIdx_no (by have := HA.out; rwa [List.take_of_length_le (by omega)] at this), if_neg (Nat.lt_irrefl _)]
      go_wp2
      go_ret
      exact ⟨ret_idx HF.out, hw⟩

set_option maxRecDepth 100000 in
theorem conA_any (l : List AskD) (A : Option Addr) (ca : Nat) (key : ByteArray) (g : Nat) (w : World) (hA : AsksAt w A l) (cg : w.cell? ⟨g, 0, none⟩ = some (.string key)) (hn : l.length ≤ 1000) :
    Calls Tryz.prog 81 #[.slice A l.length ca, .func (.func 82) #[] #[.pointer (some ⟨g, 0, none⟩)]] w fun e w' => e = .returned (.bool (l.any (fun a : AskD => decide (a.key = key)))) ∧ Below w.heap.size w w' := by
  obtain ⟨z, hz⟩ : ∃ z : Int, Hid ((if l.findIdx (fun a : AskD => decide (a.key = key)) < l.length then ((l.findIdx (fun a : AskD => decide (a.key = key)) : Nat) : Int) else -1) = z) := ⟨_, rfl⟩
  obtain ⟨b, hb0⟩ : ∃ b, Hid (l.any (fun a : AskD => decide (a.key = key)) = b) := ⟨_, rfl⟩
  have hq : decide (0 ≤ z) = b := by
    rw [← hz.out, ← hb0.out, ← findIdx_lt]
    by_cases h : l.findIdx (fun a : AskD => decide (a.key = key)) < l.length
    · rw [if_pos h, decide_eq_true h, decide_eq_true_iff]; omega
    · rw [if_neg h, decide_eq_false h]; rfl
  go_enter Tryz.func81, Tryz.ntmps81
  go_wp2_with (go_at_call 99; refine (idxA_any l A ca key g _ hA cg hn).mono ?_; rintro e w1 ⟨rfl, hb⟩; rw [hz.out])
  go_ret
  exact ⟨ret_few hb0.out, hb⟩

set_option maxRecDepth 100000 in
theorem idxN_any (l : List AskD) (A : Option Addr) (ca : Nat) (m : MsgV) (ty : TypeId) (g : Nat) (w : World) (hA : AsksAt w A l) (cg : w.heap[g]? = some (.cells m.vs ty (0, 0))) (hn : l.length ≤ 1000) :
    Calls Tryz.prog 99 #[.slice A l.length ca, .func (.func 100) #[] #[.pointer (some ⟨g, 0, none⟩)]] w (IdxPost21 w l.length (l.findIdx (askP m.num m.key))) := by
  go_enter Tryz.func99, Tryz.ntmps99
  go_wp2_with fail
  go_loopw [8] (fun i wr => ∃ k : Nat, k ≤ l.length ∧ i = .int .i64 k ∧ Hid ((l.take k).all (fun y => !(askP m.num m.key) y) = true) ∧ Below w.heap.size w wr) (fun i _ => l.length - (intOf i).toNat)
  case atStart => exact ⟨0, Nat.zero_le _, rfl, rfl, Below.refl _ _⟩
  case round =>
    obtain ⟨k, hk, rfl, HA, hw⟩ := hrel
    have hr := hA.later hw
    have cgr := obj_keep cg hw
    by_cases hlt : k < l.length
    · obtain ⟨b, off, n, gr, s, t, rfl, d0, d1, d2, d3, HX⟩ := hr.at' hlt
      cases hv : (askP m.num m.key) ⟨n, gr, s, t⟩
      · have HF : Hid ((l.take (k + 1)).all (fun y => !(askP m.num m.key) y) = true) := all_next hlt HX.out (by rw [hv]; rfl) HA.out
        replace hv := Lib.hid hv
        go_wp2_with (go_at_call 100; refine (calls_few hv.out (ansC_any ⟨n, gr, s, t⟩ m g ty _ cgr)).mono ?_; rintro e w1 ⟨rfl, hb⟩; replace hw := keepB hw hb)
        go_roundw
        case rel => exact ⟨k + 1, by omega, by go_num, HF, hw⟩
        case measure => simp [intOf]; omega
      · have HF : Hid ((k : Int) = if l.findIdx (askP m.num m.key) < l.length then ((l.findIdx (askP m.num m.key) : Nat) : Int) else -1) := by show _ = _; rw [findIdx_here hlt HX.out hv HA.out, if_pos hlt]
        replace hv := Lib.hid hv
        go_wp2_with (go_at_call 100; refine (calls_few hv.out (ansC_any ⟨n, gr, s, t⟩ m g ty _ cgr)).mono ?_; rintro e w1 ⟨rfl, hb⟩; replace hw := keepB hw hb)
        go_ret
        exact ⟨ret_idx HF.out, hw⟩
    · have HF : Hid ((-1 : Int) = if l.findIdx (askP m.num m.key) < l.length then ((l.findIdx (askP m.num m.key) : Nat) : Int) else -1) := by show _ = _; rw [findIdx_no (by have := HA.out; rwa [List.take_of_length_le (by omega)] at this), if_neg (Nat.lt_irrefl _)]
      go_wp2
      go_ret
      exact ⟨ret_idx HF.out, hw⟩

section
variable {w : World} {B p : Nat} {K : CliK} {x : CliD} {O : Nat → Prop}
set_option maxHeartbeats 1000000 in
theorem has_any (h : CliAt w B p K x O) (key : ByteArray) (hr : x.rds.length ≤ 6) (ha : x.asks.length ≤ 6) : Calls Tryz.prog 37 #[.pointer (some ⟨p, 0, none⟩), .string key] w fun e w' => e = .returned (.bool (hasD x key)) ∧ Below w.heap.size w w' := by
  obtain ⟨W, eW, HB, c0⟩ := boxS w (.string key) 9
  replace h := h.later HB
  obtain ⟨vr, vw, va, vk, h⟩ := h
  obtain ⟨_, _, _, _, _, _, _, _, c8, _, c10, _⟩ := h.cs
  obtain ⟨A8, cap8, e8, _, hA8, _⟩ := own_rds h.rowr
  obtain ⟨A10, cap10, e10, _, hA10, _⟩ := own_asks h.rowa
  rw [e8] at c8
  rw [e10] at c10
  obtain ⟨b1, hb1⟩ : ∃ b, Hid (x.rds.any (fun r => decide (r.key = key)) = b) := ⟨_, rfl⟩
  obtain ⟨b2, hb2⟩ : ∃ b, Hid (x.asks.any (fun a => decide (a.key = key)) = b) := ⟨_, rfl⟩
  have HE : Hid (hasD x key = (b1 || b2)) := by show _ = _; rw [hasD, hb1.out, hb2.out]
  clear h e8 e10
  cases b1
  · go_enter Tryz.func37, Tryz.ntmps37
    go_wp2_with (first
      | (go_at_call 79; refine (calls_few hb1.out (conR_any x.rds A8 cap8 key _ _ hA8 c0 (by omega))).mono ?_; rintro e w1 ⟨rfl, hb⟩; replace c10 := keep hb c10; replace c0 := keep hb c0; replace hA10 := hA10.later hb; replace HB := keepB HB hb)
      | (go_at_call 81; refine (calls_few hb2.out (conA_any x.asks A10 cap10 key _ _ hA10 c0 (by omega))).mono ?_; rintro e w2 ⟨rfl, hb⟩; replace HB := keepB HB hb))
    go_ret
    exact ⟨ret_few HE.out, HB⟩
  · go_enter Tryz.func37, Tryz.ntmps37
    go_wp2_with (first
      | (go_at_call 79; refine (calls_few hb1.out (conR_any x.rds A8 cap8 key _ _ hA8 c0 (by omega))).mono ?_; rintro e w1 ⟨rfl, hb⟩; replace HB := keepB HB hb))
    go_ret
    exact ⟨ret_few HE.out, HB⟩
end
end Go.Proofs.YtjgloipgnnigmaaGreatDoor
/- cmp.Compare on strings; the client's wrote: where a key is written, or would be. -/
namespace Go.Proofs.YtjgloipgnnigmaaGreatDoor
open Go.RowKit Go.Shelf

def cmpD (a b : ByteArray) : Int := if lessS a b then -1 else if lessS b a then 1 else 0
theorem nan_any (s : ByteArray) (w : World) : Calls Tryz.prog 104 #[.string s] w fun e w' => e = .returned (.bool false) ∧ w = w' := by
  go_enter Tryz.func104, Tryz.ntmps104
  go_wp2
  go_ret
  exact ⟨by simp, rfl⟩
theorem cmp_any (a b : ByteArray) (w : World) : Calls Tryz.prog 49 #[.string a, .string b] w fun e w' => e = .returned (.int .i64 (cmpD a b)) ∧ w = w' := by
  cases h1 : lessS a b
  · cases h2 : lessS b a
    · have q1 : Op.bytesLess a.toList b.toList = false := h1
      have q2 : Op.bytesLess b.toList a.toList = false := h2
      have HE : Hid (cmpD a b = 0) := by show _ = _; simp [cmpD, h1, h2]
      have q3 : (a.toList == b.toList) = true := by rw [str_dec21, decide_eq_true (lessS_tri h1 h2)]
      clear h1 h2
      go_enter Tryz.func49, Tryz.ntmps49
      go_wp2_with (go_at_call 104; refine (nan_any _ _).mono ?_; rintro e w1 ⟨rfl, rfl⟩)
      go_ret
      exact ⟨by rw [HE.out]; rfl, rfl⟩
    · have q1 : Op.bytesLess a.toList b.toList = false := h1
      have q2 : Op.bytesLess b.toList a.toList = true := h2
      have HE : Hid (cmpD a b = 1) := by show _ = _; simp [cmpD, h1, h2]
      have q3 : (a.toList == b.toList) = false := by
        rw [str_dec21, decide_eq_false_iff_not]
        rintro rfl
        rw [lessS_irr] at h2; cases h2
      clear h1 h2
      go_enter Tryz.func49, Tryz.ntmps49
      go_wp2_with (go_at_call 104; refine (nan_any _ _).mono ?_; rintro e w1 ⟨rfl, rfl⟩)
      go_ret
      exact ⟨by rw [HE.out]; rfl, rfl⟩
  · have q1 : Op.bytesLess a.toList b.toList = true := h1
    have HE : Hid (cmpD a b = -1) := by show _ = _; simp [cmpD, h1]
    clear h1
    go_enter Tryz.func49, Tryz.ntmps49
    go_wp2_with (go_at_call 104; refine (nan_any _ _).mono ?_; rintro e w1 ⟨rfl, rfl⟩)
    go_ret
    exact ⟨by rw [HE.out]; rfl, rfl⟩
theorem wroteC_any (s : ByteArray) (k : Int) (m : Nat) (t key : ByteArray) (w : World) : Calls Tryz.prog 84 #[.agg #[.string s, .int .i64 k, .int .u64 (m : Int), .string t], .string key] w fun e w' => e = .returned (.int .i64 (cmpD s key)) ∧ Below w.heap.size w w' := by
  obtain ⟨W, eW, HB, c0, c1, c2, c3⟩ := box4 w (.string s) (.int .i64 k) (.int .u64 (m : Int)) (.string t) 112
  go_enter Tryz.func84, Tryz.ntmps84
  go_wp2_with (go_at_call 49; refine (cmp_any _ _ _).mono ?_; rintro e w1 ⟨rfl, rfl⟩)
  go_ret
  exact ⟨rfl, HB⟩
theorem low_is {l : List Wr} {key : ByteArray} (hr : (l.map Wr.key).Pairwise (fun a b => lessS a b = true)) {p : Nat} (hp : p ≤ l.length) (h1 : ∀ m, m < p → lessS (l.getD m noWr).key key = true) (h2 : ∀ m, p ≤ m → m < l.length → lessS (l.getD m noWr).key key = false) : lowK l key = p := by
  have hle := low_le l key
  rcases Nat.lt_trichotomy (lowK l key) p with h | h | h
  · have := low_ge (l := l) (key := key) (by omega)
    rw [h1 _ h] at this; cases this
  · exact h
  · have := low_lt h
    rw [h2 _ (Nat.le_refl _) (by omega)] at this; cases this
theorem calls_i {P : Program} {f : FuncId} {args : Array Value} {w : World} {z x : Int} (e : z = x) (h : Calls P f args w fun e w' => e = .returned (.int .i64 z) ∧ Below w.heap.size w w') : Calls P f args w fun e w' => e = .returned (.int .i64 x) ∧ Below w.heap.size w w' := by
  rw [e] at h; exact h
def SrchPost (w : World) (k : Nat) (b : Bool) (e : Ending) (w' : World) : Prop := e = .returned (.tuple #[.int .i64 (k : Int), .bool b]) ∧ Below w.heap.size w w'
set_option maxRecDepth 100000 in
set_option maxHeartbeats 2000000 in
theorem wsearch_any (l : List Wr) (key : ByteArray) (A : Option Addr) (ca : Nat) (w : World) (h : WrsAt w A l) (hr : (l.map Wr.key).Pairwise (fun a b => lessS a b = true)) (hn : l.length ≤ 1000) :
    Calls Tryz.prog 83 #[.slice A l.length ca, .string key, .func (.func 84) #[] #[]] w (SrchPost w (lowK l key) (atK l key)) := by
  have HR := Lib.hid hr
  clear hr
  go_enter Tryz.func83, Tryz.ntmps83
  go_wp2_with fail
  go_loopw [9, 10] (fun i j wr => ∃ a b : Nat, a ≤ b ∧ b ≤ l.length ∧ i = .int .i64 a ∧ j = .int .i64 b ∧ Hid (∀ m, m < a → lessS (l.getD m noWr).key key = true) ∧ Hid (∀ m, b ≤ m → m < l.length → lessS (l.getD m noWr).key key = false) ∧ Below w.heap.size w wr) (fun i j _ => (intOf j - intOf i).toNat)
  case atStart => exact ⟨0, l.length, by omega, by omega, rfl, rfl, fun m hm => by omega, fun m hm hm2 => by omega, Below.refl _ _⟩
  case round =>
    obtain ⟨a, b, hab, hb, rfl, rfl, HA, HB, hw⟩ := hrel
    by_cases hlt : a < b
    · obtain ⟨q1, q2⟩ := half a b hlt
      obtain ⟨bb, off, x, z, n, t, rfl, d0, d1, d2, d3, HX⟩ := (h.later hw).at' (k := (a + b) / 2) (by omega)
      obtain ⟨r, hz⟩ : ∃ r, Hid (cmpD x key = r) := ⟨_, rfl⟩
      cases hl : lessS x key
      · have hrn : decide (r < 0) = false := by
          cases h2 : lessS key x <;> simp [← hz.out, cmpD, hl, h2]
        have HB2 : Hid (∀ m, (a + b) / 2 ≤ m → m < l.length → lessS (l.getD m noWr).key key = false) := fun m h1 h2 => by
          by_cases e : m = (a + b) / 2
          · rw [e, HX.out]; exact hl
          · have hm := wkeys_lt HR.out (i := (a + b) / 2) (j := m) (by omega) h2
            rw [HX.out] at hm
            cases hq : lessS (l.getD m noWr).key key
            · rfl
            · rw [lessS_trans hm hq] at hl; cases hl
        clear hl
        go_wp2_with (go_at_call 84; refine (calls_i hz.out (wroteC_any _ _ _ _ _ _)).mono ?_; rintro e w1 ⟨rfl, hb1⟩; replace hw := keepB hw hb1)
        go_roundw
        case rel => exact ⟨a, (a + b) / 2, by omega, by omega, rfl, int_eq (by omega), HA, HB2, hw⟩
        case measure => simp [intOf]; omega
      · have hrn : decide (r < 0) = true := by
          rw [← hz.out, cmpD, hl]; rfl
        have HA2 : Hid (∀ m, m < (a + b) / 2 + 1 → lessS (l.getD m noWr).key key = true) := fun m h1 => by
          by_cases e : m = (a + b) / 2
          · rw [e, HX.out]; exact hl
          · have hm := wkeys_lt HR.out (i := m) (j := (a + b) / 2) (by omega) (by omega)
            rw [HX.out] at hm
            exact lessS_trans hm hl
        clear hl
        go_wp2_with (go_at_call 84; refine (calls_i hz.out (wroteC_any _ _ _ _ _ _)).mono ?_; rintro e w1 ⟨rfl, hb1⟩; replace hw := keepB hw hb1)
        go_roundw
        case rel => exact ⟨(a + b) / 2 + 1, b, by omega, by omega, int_eq (by omega), rfl, HA2, HB, hw⟩
        case measure => simp [intOf]; omega
    · have eab : a = b := by omega
      subst eab
      have HL : Hid (lowK l key = a) := low_is HR.out hb HA.out HB.out
      by_cases hal : a < l.length
      · have hki : decide (a < l.length) = true := decide_eq_true hal
        obtain ⟨bb, off, x, z, n, t, rfl, d0, d1, d2, d3, HX⟩ := (h.later hw).at' (k := a) hal
        obtain ⟨r, hz⟩ : ∃ r, Hid (cmpD x key = r) := ⟨_, rfl⟩
        have hge := HB.out a (Nat.le_refl _) hal
        rw [HX.out] at hge
        simp only at hge
        by_cases he : x = key
        · have HF : Hid (atK l key = true) := by show _ = _; rw [atK, HL.out, decide_eq_true hal, HX.out, decide_eq_true he]; rfl
          have hr0 : (r == 0) = true := by rw [← hz.out, cmpD, he, lessS_irr]; rfl
          clear he hge
          go_wp2_with (go_at_call 84; refine (calls_i hz.out (wroteC_any _ _ _ _ _ _)).mono ?_; rintro e w1 ⟨rfl, hb1⟩; replace hw := keepB hw hb1)
          go_ret2
          exact ⟨by rw [HL.out, HF.out]; rfl, hw⟩
        · have HF : Hid (atK l key = false) := by show _ = _; rw [atK, HL.out, HX.out, decide_eq_false he, Bool.and_false]
          have hr0 : (r == 0) = false := by
            rw [← hz.out, cmpD, hge]
            cases h2 : lessS key x
            · exact absurd (lessS_tri hge h2) he
            · rfl
          clear he hge
          go_wp2_with (go_at_call 84; refine (calls_i hz.out (wroteC_any _ _ _ _ _ _)).mono ?_; rintro e w1 ⟨rfl, hb1⟩; replace hw := keepB hw hb1)
          go_ret2
          exact ⟨by rw [HL.out, HF.out]; rfl, hw⟩
      · have hki : decide (a < l.length) = false := decide_eq_false hal
        have HF : Hid (atK l key = false) := by show _ = _; rw [atK, HL.out, decide_eq_false hal, Bool.false_and]
        clear hal
        go_wp2
        go_ret2
        exact ⟨by rw [HL.out, HF.out]; rfl, hw⟩
section
variable {w : World} {B p : Nat} {K : CliK} {x : CliD} {O : Nat → Prop}
theorem wrote_any (h : CliAt w B p K x O) (key : ByteArray) (hw : WrOK x.wrs) (hn : x.wrs.length ≤ 6) : Calls Tryz.prog 38 #[.pointer (some ⟨p, 0, none⟩), .string key] w (SrchPost w (lowK x.wrs key) (atK x.wrs key)) := by
  obtain ⟨vr, vw, va, vk, h⟩ := h
  obtain ⟨_, _, _, _, _, _, _, _, _, c9, _⟩ := h.cs
  obtain ⟨A9, cap9, e9, _, hA9, _⟩ := own_wrs h.roww
  rw [e9] at c9
  have HS := Lib.hid (wsearch_any x.wrs key A9 cap9 w hA9 hw.1 (by omega))
  clear h e9 hw
  go_enter Tryz.func38, Tryz.ntmps38
  go_wp2_with (go_at_call 83; refine HS.out.mono ?_; rintro e w1 ⟨rfl, hb⟩)
  go_ret2
  exact ⟨rfl, hb⟩
end
end Go.Proofs.YtjgloipgnnigmaaGreatDoor
/- slices.SortFunc at reads, by their keys: at most twelve. -/
namespace Go.Proofs.YtjgloipgnnigmaaGreatDoor
open Go.RowKit Go.Shelf Go.Sort Go.Lib

instance : Inhabited Rd := ⟨noRd⟩
def encR (r : Rd) : List Value := [.string r.key, .int .u64 (r.ver : Int)]
theorem encR_len (r : Rd) : (encR r).length = 2 := rfl
theorem encR_one (r : Rd) : ∀ v ∈ encR r, v.oneCell' = true := fun v hv => by
  simp [encR] at hv
  rcases hv with rfl | rfl <;> rfl
theorem flat_rd (l : List Rd) : (flatK encR 2 l.toArray).toList = rdCells l := by
  apply List.ext_getElem?
  intro t
  have hs : (flatK encR 2 l.toArray).size = l.length * 2 := by simp
  by_cases ht : t < l.length * 2
  · have hi : t / 2 < l.length := by omega
    have hg := get_flatK encR 2 l.toArray t (by simpa using ht)
    have hr := rdCells_at l (t / 2) hi
    have e0 : l.toArray[t / 2]! = l.getD (t / 2) noRd := by
      rw [getElem!_pos _ _ (by simpa using hi)]
      simp [List.getD_eq_getElem?_getD, hi]
    rw [e0] at hg
    rw [Array.getElem?_toList, Array.getElem?_eq_getElem (by omega), ← getElem!_pos (flatK encR 2 l.toArray) t (by omega), hg]
    rcases Nat.mod_two_eq_zero_or_one t with q | q
    · rw [q, show t = t / 2 * 2 by omega, Nat.mul_div_cancel _ (by decide)] 
      rw [hr.1]
      simp [encR]
    · rw [q, show t = t / 2 * 2 + 1 by omega]
      rw [show (t / 2 * 2 + 1) / 2 = t / 2 by omega, hr.2]
      simp [encR]
  · rw [Array.getElem?_toList, Array.getElem?_eq_none (by omega), List.getElem?_eq_none (by rw [rdCells_len]; omega)]
theorem holds_id {w : World} {g : Nat} {cur : Array Value} {e : TypeId} {F : Array Value} (hb : w.heap[g]? = some (.cells cur e (0, 0))) (ht : cur.toList.take F.size = F.toList) : Holds id w g 0 F := by
  intro j hj
  refine ⟨?_, by simp [World.frozen?, hb]⟩
  have h1 : (cur.toList.take F.size)[j]? = F.toList[j]? := by rw [ht]
  rw [List.getElem?_take_of_lt hj] at h1
  simp only [World.cell?, hb, Nat.zero_add]
  simp only [Option.isSome_none, Bool.false_eq_true, if_false]
  rw [← Array.getElem?_toList, h1]
  simp [hj]
theorem heap_id {w : World} {g n : Nat} {os : Array Obj} {cur : Array Value} {e : TypeId} {fr : Nat × Nat} (d : Array Value) (hb : w.heap[g]? = some (.cells cur e fr)) :
    (grow (putRow id (Sort.ahead w n) g 0 d) os).heap[g]? = some (.cells (putCells id 0 d cur) e fr) := by
  have hg : g < w.heap.size := (Array.getElem?_eq_some_iff.1 hb).1
  rw [heap_grow_old _ _ (by simpa using hg)]
  simp [putRow, mapBlock, Sort.ahead, Array.getElem?_modify, hb, onCells]
theorem grownBy_id {w : World} {g n : Nat} {os : Array Obj} (d : Array Value) : w.grownBy (grow (putRow id (Sort.ahead w n) g 0 d) os) (some g) := by
  refine ⟨rfl, rfl, rfl, by simp, fun k hk hne => ?_⟩
  rw [heap_grow_old _ _ (by simpa using hk)]
  have : g ≠ k := fun e => hne (by rw [e])
  simp [putRow, mapBlock, Sort.ahead, Array.getElem?_modify, this]
theorem take_id (cur F : Array Value) (h : F.size ≤ cur.size) : (putCells id 0 F cur).toList.take F.size = F.toList := by
  apply List.ext_getElem?
  intro j
  by_cases hj : j < F.size
  · rw [List.getElem?_take_of_lt hj, Array.getElem?_toList]
    simp [putCells, hj, show j < cur.size by omega]
  · rw [List.getElem?_take_eq_none (by omega), List.getElem?_eq_none (by simp; omega)]
theorem closureR_any (x y : Rd) (W : World) : Calls Tryz.prog 48 #[.agg #[.string x.key, .int .u64 (x.ver : Int)], .agg #[.string y.key, .int .u64 (y.ver : Int)]] W fun e w' => e = .returned (.int .i64 (cmpD x.key y.key)) ∧ ∃ q os', w' = grow (W.drewN q) os' := by
  have hcon := fun W' => cmp_any x.key y.key W'
  generalize cmpD x.key y.key = r at hcon ⊢
  go_enter Tryz.func48, Tryz.ntmps48
  go_wp2_with (go_at_call 49; refine (hcon _).mono ?_; rintro e w' ⟨rfl, rfl⟩)
  go_ret
  exact ⟨rfl, 0, _, by rw [alloc_eq_grow, alloc_eq_grow, grow_grow]; rfl⟩
theorem lt_cmp (x y : Rd) : ltOf (fun x y : Rd => cmpD x.key y.key) x y = lessS x.key y.key := by
  unfold ltOf cmpD
  cases h : lessS x.key y.key
  · cases h2 : lessS y.key x.key <;> simp [h, h2]
  · simp [h]
theorem swoR : SWO (ltOf fun x y : Rd => cmpD x.key y.key) where
  irrefl x := by rw [lt_cmp]; exact lessS_irr _
  trans x y z h1 h2 := by rw [lt_cmp] at *; exact lessS_trans h1 h2
  ntrans x y z h1 h2 := by
    rw [lt_cmp] at *
    cases h : lessS x.key z.key
    · rfl
    · cases h3 : lessS y.key x.key
      · have e := lessS_tri h1 h3
        rw [e] at h
        rw [h] at h2
        cases h2
      · have := lessS_trans h3 h
        rw [h2] at this
        cases this
theorem lenR (n : Nat) (W : World) (h : n ≤ 12) : Calls Tryz.prog 103 #[.int .u64 n] W fun e w' => (∃ l : Int, e = .returned (.int .i64 l)) ∧ w' = W :=
  (Any.bits_Len Tryz.bitsLen n W (by omega) (by omega)).mono fun _ _ ⟨he, hw⟩ => ⟨⟨_, he⟩, hw⟩
theorem sortR_own (l : List Rd) (B : Nat) (v : Value) (w : World) (h : w.ownsRow B 75 2 v l.length (rdCells l)) (hl : l.length ≤ 12) (h0 : 0 < l.length) :
    Calls Tryz.prog 47 #[v, .func (.func 48) #[] #[]] w fun e w' => e = .returned (.tuple #[]) ∧ ∃ m : List Rd, m.Perm l ∧ m.Pairwise (fun a b => leR a b = true) ∧ w'.ownsRow B 75 2 v m.length (rdCells m) ∧ w.grownBy w' v.ownBlock := by
  rcases h.2 with ⟨_, e⟩ | ⟨g, cap, cur, rfl, hg, hb, hn, hm, hc, ht⟩
  · omega
  · have hF : cur.toList.take (flatK encR 2 l.toArray).size = (flatK encR 2 l.toArray).toList := by rw [flat_rd, size_flatK]; simpa using ht
    have eg : ∀ args w, (callFunc 48 args).run Tryz.prog w = .ok (.enter 48 args) w := enters_of Tryz.func48 (by kernel_rfl) rfl
    have hcon := AnyQ.slices_SortFunc_small_sorted Tryz.sortR 2 Tryz.isAgg75 Tryz.sizeOf75 encR encR_len encR_one (fun x y => cmpD x.key y.key) 48 #[] swoR g 0 cap l.toArray w eg
      (fun _ _ _ _ x y => closureR_any x y _) (holds_id hb hF) (Array.getElem?_eq_some_iff.1 hb).1 (by simpa using hl) lenR
    change Calls Tryz.prog 47 _ _ _ at hcon
    refine Calls.mono hcon ?_
    rintro e w' ⟨he, d', n, os, hp, hs, hw⟩
    have hz : d'.size = l.length := by have := hp.1; simpa using this
    have hpm : d'.toList.Perm l := by
      have := hp.2.2
      have e1 : d'.toList.take l.length = d'.toList := List.take_of_length_le (by simp [hz])
      simpa [e1] using this
    have hlen : d'.toList.length = l.length := hpm.length_eq
    have hF2 : (flatK encR 2 d').toList = rdCells d'.toList := by
      have := flat_rd d'.toList
      simpa using this
    have hw2 : w' = grow (putRow id (Sort.ahead w n) g 0 (flatK encR 2 d')) os := hw
    refine ⟨he, d'.toList, hpm, ?_, ?_, ?_⟩
    · rw [List.pairwise_iff_getElem]
      intro i j hi hj hij
      have := hs i j (Nat.zero_le _) hij (by have := hz; simp at hj; simp; omega)
      rw [lt_cmp, getElem!_pos d' j (by simpa using hj), getElem!_pos d' i (by simpa using hi)] at this
      show (!lessS (d'.toList[j]).key (d'.toList[i]).key) = true
      simp only [Array.getElem_toList]
      rw [this]; rfl
    · rw [hlen, hw2]
      refine ⟨by rw [rdCells_len, hlen], .inr ⟨g, cap, _, rfl, hg, heap_id _ hb, hn, hm, by simp [putCells, hc], ?_⟩⟩
      have := take_id cur (flatK encR 2 d') (by rw [size_flatK, hz, hc]; omega)
      rw [size_flatK, hz, hF2] at this
      exact this
    · rw [hw2]; exact grownBy_id _
/-- Behind an append of one read: the row sorted anew. -/
theorem sort_ins {x : List Rd} {r : Rd} {m : List Rd} (hp : m.Perm (x ++ [r])) (hs : m.Pairwise (fun a b => leR a b = true)) (hn : ((x ++ [r]).map Rd.key).Nodup) : m = insR x r := by
  have h2 := insR_perm x r
  refine sorted_unique (hp.trans h2.symm) hs (insR_sorted x r) ?_
  exact (hp.map Rd.key).symm.nodup hn
end Go.Proofs.YtjgloipgnnigmaaGreatDoor
/- Layer 21's sends and events as data, and how they lie in memory. -/
namespace Go.Proofs.YtjgloipgnnigmaaGreatDoor
open Go.RowKit Go.Shelf

/-- A send: an address, a message with the addresses of its rows. -/
structure SndX where
  dest : Int
  m : MsgV
def noSnd : SndX := ⟨0, noMsg⟩
instance : Inhabited SndX := ⟨noSnd⟩
def SndX.vs (s : SndX) : Array Value := #[.int .i64 s.dest, .int .i64 s.m.kind, .int .u32 (s.m.br : Int), .int .i64 s.m.bn, .int .i64 s.m.slot, .bool s.m.has, .int .u32 (s.m.vr : Int), .int .i64 s.m.vn, .int .i64 s.m.ck, .int .i64 s.m.ct.ses, .int .i64 s.m.ct.seq, .slice s.m.cA s.m.ct.rds.length s.m.cca, .slice s.m.cB s.m.ct.wrs.length s.m.ccb, .int .i64 s.m.cis, .int .i64 s.m.ciq, .int .i64 s.m.cg, .int .u64 (s.m.cst : Int), .bool s.m.cy, .int .i64 s.m.t.ses, .int .i64 s.m.t.seq, .slice s.m.A s.m.t.rds.length s.m.ca, .slice s.m.B s.m.t.wrs.length s.m.cb, .int .i64 s.m.ids, .int .i64 s.m.idq, .int .i64 s.m.g, .int .u64 (s.m.st : Int), .bool s.m.y, .int .i64 s.m.num, .string s.m.key, .int .u64 (s.m.ver : Int), .int .i64 s.m.val.kind, .int .u64 (s.m.val.bits : Int), .string s.m.val.text, .int .i64 s.m.err, .slice s.m.D s.m.data.length s.m.cd]
def safeM (n : Nat) : MsgV := { noMsg with kind := 14, num := (n : Int) }
def readM (n : Nat) (key : ByteArray) (st : Nat) : MsgV := { noMsg with kind := 12, num := (n : Int), key := key, st := st }
def submitM (t : Tx) (A B : Option Addr) (ca cb : Nat) : MsgV := { noMsg with kind := 8, t := t, A := A, B := B, ca := ca, cb := cb }
/-- A send is the one that is told. -/
inductive SndIs : SndX → SndD → Prop where
  | safe (d : Int) (n : Nat) : SndIs ⟨d, safeM n⟩ ⟨d, .safe n⟩
  | read (d : Int) (n : Nat) (k : ByteArray) (st : Nat) : SndIs ⟨d, readM n k st⟩ ⟨d, .read n k st⟩
  | submit (d : Int) (t : Tx) (A B : Option Addr) (ca cb : Nat) : SndIs ⟨d, submitM t A B ca cb⟩ ⟨d, .submit t⟩
inductive SndsIs : List SndX → List SndD → Prop where
  | nil : SndsIs [] []
  | cons {s : SndX} {d : SndD} {l : List SndX} {m : List SndD} : SndIs s d → SndsIs l m → SndsIs (s :: l) (d :: m)
theorem SndsIs.snoc {s : SndX} {d : SndD} : ∀ {l : List SndX} {m : List SndD}, SndsIs l m → SndIs s d → SndsIs (l ++ [s]) (m ++ [d])
  | _, _, .nil, h => .cons h .nil
  | _, _, .cons a b, h => .cons a (b.snoc h)
theorem SndsIs.len : ∀ {l : List SndX} {m : List SndD}, SndsIs l m → l.length = m.length
  | _, _, .nil => rfl
  | _, _, .cons _ b => by simp [b.len]
theorem snd_size (s : SndX) : s.vs.size = 35 := rfl
theorem snd_one (s : SndX) : s.vs.all (·.oneCell') = true := by simp [SndX.vs, Value.oneCell']
def sndCells (l : List SndX) : List Value := l.flatMap fun s => s.vs.toList
theorem sndCells_snoc (l : List SndX) (s : SndX) : sndCells (l ++ [s]) = sndCells l ++ s.vs.toList := by simp [sndCells]
theorem noTx_lies (w : World) : TxAt w ⟨0, 0, [], []⟩ none none :=
  ⟨fun _ hi => absurd hi (Nat.not_lt_zero _), fun _ hi => absurd hi (Nat.not_lt_zero _), fun _ hi => absurd hi (Nat.not_lt_zero _), fun _ hi => absurd hi (Nat.not_lt_zero _), fun _ hi => absurd hi (Nat.not_lt_zero _), Nat.zero_le _, Nat.zero_le _⟩
theorem noVal_good : (⟨0, 0, noStr⟩ : Val).Good := ⟨by show 0 < _; omega, Nat.zero_le _, by show _ ≤ (0 : Int); omega, by show (0 : Int) ≤ _; omega⟩
theorem safe_lies (n : Nat) (w : World) : MsgAt w (safeM n) := ⟨noTx_lies w, noTx_lies w, fun _ hi => absurd hi (Nat.not_lt_zero _), Nat.zero_le _, noVal_good, Nat.zero_le _⟩
theorem read_lies (n : Nat) (key : ByteArray) (st : Nat) (w : World) (hk : key.size ≤ 9223372036854775807) : MsgAt w (readM n key st) := ⟨noTx_lies w, noTx_lies w, fun _ hi => absurd hi (Nat.not_lt_zero _), hk, noVal_good, Nat.zero_le _⟩
/-- A message's rows lie from a block on. -/
def FreshM (base : Nat) (m : MsgV) : Prop := ∀ w w' : World, (∀ k, base ≤ k → k < w.heap.size → w'.heap[k]? = w.heap[k]?) → MsgAt w m → MsgAt w' m
theorem FreshM.mono {base base' : Nat} {m : MsgV} (h : FreshM base m) (hb : base' ≤ base) : FreshM base' m := fun w w' hs hm => h w w' (fun k h1 h2 => hs k (Nat.le_trans hb h1) h2) hm
theorem FreshM.all {base : Nat} {m : MsgV} (h : ∀ w, MsgAt w m) : FreshM base m := fun _ w' _ _ => h w'
theorem cell_same {w w' : World} {b o : Nat} {v : Value} (h : w.cell? ⟨b, o, none⟩ = some v) (hs : b < w.heap.size → w'.heap[b]? = w.heap[b]?) : w'.cell? ⟨b, o, none⟩ = some v := by
  have hb : b < w.heap.size := by
    rcases Nat.lt_or_ge b w.heap.size with q | q
    · exact q
    · exfalso
      have : w.heap[b]? = none := Array.getElem?_eq_none q
      simp [World.cell?, this] at h
  rw [World.cell?_of_block (a := ⟨b, o, none⟩) (hs hb)]; exact h
theorem FreshM.submit {base : Nat} {t : Tx} {A B : Option Addr} {ca cb : Nat} (hA : ∀ a, A = some a → base ≤ a.block) (hB : ∀ a, B = some a → base ≤ a.block) : FreshM base (submitM t A B ca cb) := fun w w' hs hm => by
  have ht := hm.t
  refine ⟨noTx_lies _, ⟨fun i hi => ?_, fun i hi => ?_, ht.rk, ht.wk, ht.wv, ht.rn, ht.wn⟩, fun _ hi => absurd hi (Nat.not_lt_zero _), hm.k, hm.v, hm.n⟩
  · obtain ⟨b, off, e, c0, c1⟩ := ht.rds i hi
    have hb : base ≤ b := hA _ e
    exact ⟨b, off, e, cell_same c0 (hs b hb), cell_same c1 (hs b hb)⟩
  · obtain ⟨b, off, e, c0, c1, c2, c3⟩ := ht.wrs i hi
    have hb : base ≤ b := hB _ e
    exact ⟨b, off, e, cell_same c0 (hs b hb), cell_same c1 (hs b hb), cell_same c2 (hs b hb), cell_same c3 (hs b hb)⟩
/-- Sends handed back: a row of the call's own, what it holds is told, the messages lie in memory. -/
structure SndsAt (w : World) (base : Nat) (v : Value) (l : List SndX) (d : List SndD) : Prop where
  row : w.ownsRow base 81 35 v l.length (sndCells l)
  is : SndsIs l d
  at_ : ∀ s ∈ l, MsgAt w s.m
  fr : ∀ s ∈ l, FreshM base s.m
theorem SndsAt.nil (w : World) (base : Nat) : SndsAt w base (.slice none 0 0) [] [] := ⟨own_nil _ _ _ _, SndsIs.nil, fun _ h => (by cases h), fun _ h => (by cases h)⟩
theorem SndsAt.later {w w' : World} {base : Nat} {v : Value} {l : List SndX} {d : List SndD} (h : SndsAt w base v l d) (hb : Below w.heap.size w w') : SndsAt w' base v l d :=
  ⟨own_keep h.row hb, h.is, fun s hs => (h.at_ s hs).later hb, h.fr⟩
theorem info_snd : (Tryz.prog.info? 81).map (·.size) = some 35 := by kernel_rfl
theorem zero_snd (w : World) : (zeroValue 81).run Tryz.prog w = .ok (.agg #[.int .i64 0, .int .i64 0, .int .u32 0, .int .i64 0, .int .i64 0, .bool false, .int .u32 0, .int .i64 0, .int .i64 0, .int .i64 0, .int .i64 0, .slice none 0 0, .slice none 0 0, .int .i64 0, .int .i64 0, .int .i64 0, .int .u64 0, .bool false, .int .i64 0, .int .i64 0, .slice none 0 0, .slice none 0 0, .int .i64 0, .int .i64 0, .int .i64 0, .int .u64 0, .bool false, .int .i64 0, .string ByteArray.empty, .int .u64 0, .int .i64 0, .int .u64 0, .string ByteArray.empty, .int .i64 0, .slice none 0 0]) w := by kernel_rfl

def EvD.vs (e : EvD) : Array Value := #[.int .i64 e.kind, .int .i64 e.ids, .int .i64 e.idq, .string e.key, .int .i64 e.val.kind, .int .u64 (e.val.bits : Int), .string e.val.text, .int .u64 (e.ver : Int), .bool e.yes, .int .u64 (e.stamp : Int), .int .i64 e.err]
def evCells (l : List EvD) : List Value := l.flatMap fun e => e.vs.toList
theorem evCells_snoc (l : List EvD) (e : EvD) : evCells (l ++ [e]) = evCells l ++ e.vs.toList := by simp [evCells]
theorem ev_size (e : EvD) : e.vs.size = 11 := rfl
theorem ev_one (e : EvD) : e.vs.all (·.oneCell') = true := by simp [EvD.vs, Value.oneCell']
theorem info_ev : (Tryz.prog.info? 71).map (·.size) = some 11 := by kernel_rfl
end Go.Proofs.YtjgloipgnnigmaaGreatDoor
/- The client's sent: what an ask sends. -/
namespace Go.Proofs.YtjgloipgnnigmaaGreatDoor
open Go.RowKit Go.Shelf Go.Sort

def sentX (c : Cfg) (x : CliD) (a : AskD) : SndX := ⟨placeZ c a.g ((x.turn % repN c a.g : Nat) : Int), if a.key = noStr then safeM a.n else readM a.n a.key a.st⟩
theorem sentX_is (c : Cfg) (x : CliD) (a : AskD) : SndIs (sentX c x a) (sentD c x a) := by
  rw [sentX, sentD]
  split
  · exact .safe _ _
  · exact .read _ _ _ _
theorem sentX_lies (c : Cfg) (x : CliD) (a : AskD) (w : World) (hk : a.key.size ≤ 9223372036854775807) : MsgAt w (sentX c x a).m := by
  rw [sentX]
  split
  · exact safe_lies _ _
  · exact read_lies _ _ _ _ hk
theorem noStr_list : noStr.toList = [] := by rw [ByteArray.toList_eq]; rfl
theorem empty_dec (s : ByteArray) : s.toList.isEmpty = decide (s = noStr) := by
  by_cases h : s = noStr
  · subst h; rw [noStr_list]; simp
  · have : s.toList ≠ [] := fun e => h (bytes_ext (by rw [e, noStr_list]))
    simp [h, this]
section
variable {w : World} {B p : Nat} {K : CliK} {x : CliD} {O : Nat → Prop}
def AggPost (w : World) (vs : Array Value) (e : Ending) (w' : World) : Prop := e = .returned (.agg vs) ∧ Below w.heap.size w w'
set_option maxRecDepth 100000 in
set_option maxHeartbeats 2000000 in
theorem sent_any (h : CliAt w B p K x O) (hC : CfgAt w K.c K.A K.B) (hf : formedB K.c = true) (hca : K.c.reps.length ≤ K.ca) (ht : x.turn < 60) (a : AskD) (hg : a.g < K.c.reps.length) :
    Calls Tryz.prog 54 #[.pointer (some ⟨p, 0, none⟩), .agg #[.int .i64 (a.n : Int), .int .i64 (a.g : Int), .string a.key, .int .u64 (a.st : Int)]] w (AggPost w (sentX K.c x a).vs) := by
  obtain ⟨W, eW, HB0, d0, d1, d2, d3⟩ := box4 w (.int .i64 (a.n : Int)) (.int .i64 (a.g : Int)) (.string a.key) (.int .u64 (a.st : Int)) 103
  obtain ⟨wb, ewb, hbb, hszb, hrb⟩ := boxed W #[.int .i64 0, .int .i64 0, .int .u32 0, .int .i64 0, .int .i64 0, .bool false, .int .u32 0, .int .i64 0, .int .i64 0, .int .i64 0, .int .i64 0, .slice none 0 0, .slice none 0 0, .int .i64 0, .int .i64 0, .int .i64 0, .int .u64 0, .bool false, .int .i64 0, .int .i64 0, .slice none 0 0, .slice none 0 0, .int .i64 0, .int .i64 0, .int .i64 0, .int .u64 0, .bool false, .int .i64 0, .string ⟨#[]⟩, .int .u64 0, .int .i64 0, .int .u64 0, .string ⟨#[]⟩, .int .i64 0, .slice none 0 0] 81
  have HB := keepB HB0 hbb
  replace d0 := keep hbb d0
  replace d1 := keep hbb d1
  replace d2 := keep hbb d2
  replace d3 := keep hbb d3
  replace h := h.later HB
  replace hC := hC.later HB
  obtain ⟨vr, vw, va, vk, h⟩ := h
  obtain ⟨c0, c1, _, _, _, _, c6, _⟩ := h.cs
  obtain ⟨rb, roff, r, eA, rc, RX⟩ := IntsAt.at' hC.ints hg
  have hr := formed_range hf hg
  rw [RX.out] at hr
  have hrep : repN K.c a.g = r.toNat := by rw [repN, RX.out]
  have hm : Int.tmod (x.turn : Int) r = ((x.turn % repN K.c a.g : Nat) : Int) := by
    rw [hrep]
    obtain ⟨q, rfl⟩ := Int.eq_ofNat_of_zero_le (show 0 ≤ r by omega)
    simp
    rfl
  have hl4 := (formed_len hf).2.1
  have HE : Hid (sentX K.c x a = ⟨placeZ K.c a.g ((x.turn % repN K.c a.g : Nat) : Int), if a.key = noStr then safeM a.n else readM a.n a.key a.st⟩) := rfl
  obtain ⟨mt, hmt⟩ : ∃ mt : Int, Hid (((x.turn % repN K.c a.g : Nat) : Int) = mt) := ⟨_, rfl⟩
  rw [hmt.out] at hm HE
  obtain ⟨pl, hpl⟩ : ∃ pl, Hid (placeZ K.c a.g mt = pl) := ⟨_, rfl⟩
  rw [hpl.out] at HE
  have HPl : Hid (∀ (d : Nat) (os : Array Obj), Calls Tryz.prog 87 #[K.cv, .int .i64 (a.g : Int), .int .i64 mt] (grow (redrawn wb d) os) fun e w'' => e = .returned (.int .i64 pl) ∧ ∃ p : Regrown, w'' = grow (redrawn wb p.d) p.os) := fun d os => Calls.regrown_of (by
    have := place_any K.c a.g mt K.A K.B K.ca K.cb (grow (redrawn wb d) os) (hC.later (below_regrown wb d os)) hca
    rw [hpl.out] at this
    exact this)
  have hgi : (a.g : Int) < (K.c.reps.length : Int) := by omega
  have hrz : (r == 0) = false := by rw [beq_eq_false_iff_ne]; omega
  have hrz2 : ¬ (r = 0) := by omega
  have hmw : IntKind.i64.wrap mt = mt := by
    have hb1 : (x.turn % repN K.c a.g : Nat) < 60 := Nat.lt_of_le_of_lt (Nat.mod_le _ _) ht
    have := hmt.out
    exact IntWalk.i64_in _ (by omega)
  have cP : ∀ d os, Calls Tryz.prog 87 #[.agg #[.slice (some ⟨rb, roff, none⟩) K.c.reps.length K.ca, .slice K.B K.c.bnds.length K.cb], .int .i64 (a.g : Int), .int .i64 mt] (grow (redrawn wb d) os) fun e w'' => e = .returned (.int .i64 pl) ∧ ∃ p : Regrown, w'' = grow (redrawn wb p.d) p.os := by
    rw [← eA]; exact HPl.out
  rw [eA] at c0
  have k0 := cell_regrown c0
  have k1 := cell_regrown c1
  have k2 := cell_regrown c6
  have k3 := cell_regrown d1
  have k4 := cell_regrown rc
  replace hrb := Lib.hid hrb
  replace HPl := trivial
  clear h hC hr hrep RX eA hl4 hszb
  go_enter Tryz.func54, Tryz.ntmps54
  go_wp2
  refine wp_region_quiet_below (by kernel_rfl) (by kernel_rfl) ?_
  repeat (go_big_quiet_step (first | exact cP _ _))
  refine wpQuiet_nil ?_
  intro _ hw'
  obtain ⟨⟨dq, osq⟩, hw''⟩ := hw'
  subst hw''
  have HQ := below_regrown wb dq osq
  obtain ⟨wq, hwq⟩ : ∃ wq, grow (redrawn wb dq) osq = wq := ⟨_, rfl⟩
  rw [hwq] at HQ ⊢
  replace d0 := keep HQ d0
  replace d2 := keep HQ d2
  replace d3 := keep HQ d3
  have hq := Lib.hid (obj_keep hrb.out HQ)
  clear k0 k1 k2 k3 k4 cP hwq
  have q1 := empty_dec a.key
  by_cases he : a.key = noStr
  · have HS : Hid (sentX K.c x a = ⟨pl, safeM a.n⟩) := by show _ = _; rw [HE.out, if_pos he]
    rw [decide_eq_true he] at q1
    have q2 : a.key.toList = [] := by rw [he, noStr_list]
    clear he
    go_wp2_with (refine wpList_store_row rfl 81 _ _ rfl W.heap.size (SndX.vs ⟨pl, safeM a.n⟩) rfl rfl 81 _ hq.out info_snd rfl (snd_one _) ?_)
    refine bodyPost_ret (v := .agg (SndX.vs ⟨pl, safeM a.n⟩)) (results_cell_row rfl _ _ W.heap.size _ (SndX.vs ⟨pl, safeM a.n⟩) _ _ rfl (setRow_heap _ _ _ _ _ _ hq.out) Tryz.underlying81 rfl info_snd) rfl ⟨by rw [HS.out], below_setRow (keepB HB HQ) HB0.size _⟩
  · have HS : Hid (sentX K.c x a = ⟨pl, readM a.n a.key a.st⟩) := by show _ = _; rw [HE.out, if_neg he]
    rw [decide_eq_false he] at q1
    have q2 : ¬ (a.key.toList = []) := fun e => he (bytes_ext (by rw [e, noStr_list]))
    clear he
    go_wp2_with (refine wpList_store_row rfl 81 _ _ rfl W.heap.size (SndX.vs ⟨pl, readM a.n a.key a.st⟩) rfl rfl 81 _ hq.out info_snd rfl (snd_one _) ?_)
    refine bodyPost_ret (v := .agg (SndX.vs ⟨pl, readM a.n a.key a.st⟩)) (results_cell_row rfl _ _ W.heap.size _ (SndX.vs ⟨pl, readM a.n a.key a.st⟩) _ _ rfl (setRow_heap _ _ _ _ _ _ hq.out) Tryz.underlying81 rfl info_snd) rfl ⟨by rw [HS.out], below_setRow (keepB HB HQ) HB0.size _⟩
end
end Go.Proofs.YtjgloipgnnigmaaGreatDoor
/- The client's cell of a row, behind an append to that row. -/
namespace Go.Proofs.YtjgloipgnnigmaaGreatDoor
open Go.RowKit
section
variable {w : World} {B p : Nat} {K : CliK} {x : CliD} {vr vw va vk : Value} {O : Nat → Prop}
theorem CliIn.cellr (h : CliIn w B p K x vr vw va vk O) {w1 : World} (hg : w.grownBy w1 vr.ownBlock) : w1.cell? ⟨p, 8, none⟩ = some vr ∧ w1.frozen? ⟨p, 8, none⟩ = false := by
  have hblk : w1.heap[p]? = some _ := (Out.of_grown (O := fun k => vr.ownBlock = some k) hg (fun k e => e)).obj h.blk (fun e => (h.mir p e).2 rfl)
  exact ⟨by rw [cell_of_row w1 p _ _ _ _ hblk]; rfl, frozen_of_row w1 p _ _ _ hblk⟩
theorem CliIn.cellw (h : CliIn w B p K x vr vw va vk O) {w1 : World} (hg : w.grownBy w1 vw.ownBlock) : w1.cell? ⟨p, 9, none⟩ = some vw ∧ w1.frozen? ⟨p, 9, none⟩ = false := by
  have hblk : w1.heap[p]? = some _ := (Out.of_grown (O := fun k => vw.ownBlock = some k) hg (fun k e => e)).obj h.blk (fun e => (h.miw p e).2 rfl)
  exact ⟨by rw [cell_of_row w1 p _ _ _ _ hblk]; rfl, frozen_of_row w1 p _ _ _ hblk⟩
theorem CliIn.cella (h : CliIn w B p K x vr vw va vk O) {w1 : World} (hg : w.grownBy w1 va.ownBlock) : w1.cell? ⟨p, 10, none⟩ = some va ∧ w1.frozen? ⟨p, 10, none⟩ = false := by
  have hblk : w1.heap[p]? = some _ := (Out.of_grown (O := fun k => va.ownBlock = some k) hg (fun k e => e)).obj h.blk (fun e => (h.mia p e).2 rfl)
  exact ⟨by rw [cell_of_row w1 p _ _ _ _ hblk]; rfl, frozen_of_row w1 p _ _ _ hblk⟩
end
end Go.Proofs.YtjgloipgnnigmaaGreatDoor
/- Rows of sends. -/
namespace Go.Proofs.YtjgloipgnnigmaaGreatDoor
open Go.RowKit Go.Shelf

theorem info_snd3 : (Tryz.prog.info? 81).map (fun i => (i.zero, i.size, i.bytes)) = some (some (.agg #[.int .i64 0, .int .i64 0, .int .u32 0, .int .i64 0, .int .i64 0, .bool false, .int .u32 0, .int .i64 0, .int .i64 0, .int .i64 0, .int .i64 0, .slice none 0 0, .slice none 0 0, .int .i64 0, .int .i64 0, .int .i64 0, .int .u64 0, .bool false, .int .i64 0, .int .i64 0, .slice none 0 0, .slice none 0 0, .int .i64 0, .int .i64 0, .int .i64 0, .int .u64 0, .bool false, .int .i64 0, .string ByteArray.empty, .int .u64 0, .int .i64 0, .int .u64 0, .string ByteArray.empty, .int .i64 0, .slice none 0 0]), 35, 376) := by kernel_rfl
theorem one_cell_snd (s : SndX) : ∀ u ∈ s.vs.toList, u.oneCell' = true := fun u hu => by
  have := snd_one s
  rw [← Array.all_toList, List.all_eq_true] at this
  exact this u hu
end Go.Proofs.YtjgloipgnnigmaaGreatDoor
/- Small functions that message.Formed comes to, told loosely: some bool. -/
namespace Go.Proofs.YtjgloipgnnigmaaGreatDoor
open Go.RowKit Go.Shelf

/-- Some bool, and all that was there is as it was. -/
def SomeB (w : World) (e : Ending) (w' : World) : Prop := ∃ b : Bool, e = .returned (.bool b) ∧ Below w.heap.size w w'
theorem ballotF_some (r : Nat) (n : Int) (w : World) : Calls Tryz.prog 95 #[.agg #[.int .u32 (r : Int), .int .i64 n]] w (SomeB w) := by
  obtain ⟨W, eW, HB, c0, c1⟩ := box2 w (.int .u32 (r : Int)) (.int .i64 n) 31
  cases h0 : decide ((0 : Int) ≤ n)
  · go_enter Tryz.func95, Tryz.ntmps95
    go_wp2
    go_ret
    exact ⟨_, rfl, HB⟩
  · cases h1 : decide (n < 5)
    all_goals
      go_enter Tryz.func95, Tryz.ntmps95
      go_wp2
      go_ret
      exact ⟨_, rfl, HB⟩
theorem cmdGroup_some (g : Int) (w : World) : Calls Tryz.prog 142 #[.int .i64 g] w (SomeB w) := by
  cases h0 : decide ((0 : Int) ≤ g)
  · go_enter Tryz.func142, Tryz.ntmps142
    go_wp2
    go_ret
    exact ⟨_, rfl, Below.refl _ _⟩
  · cases h1 : decide (g < 4)
    all_goals
      go_enter Tryz.func142, Tryz.ntmps142
      go_wp2
      go_ret
      exact ⟨_, rfl, Below.refl _ _⟩
def fieldsS (k : Int) : ByteArray :=
  if k = 1 then ⟨#[66]⟩
  else if k = 2 then ⟨#[66, 83, 72]⟩
  else if k = 3 then ⟨#[66]⟩
  else if k = 4 then ⟨#[66, 83, 67]⟩
  else if k = 5 then ⟨#[66, 83]⟩
  else if k = 6 then ⟨#[83, 67]⟩
  else if k = 7 then ⟨#[83]⟩
  else if k = 8 then ⟨#[84]⟩
  else if k = 9 then ⟨#[73, 71, 80]⟩
  else if k = 10 then ⟨#[73, 71, 89]⟩
  else if k = 11 then ⟨#[73, 71, 80, 89]⟩
  else if k = 12 then ⟨#[80, 78, 75]⟩
  else if k = 13 then ⟨#[71, 80, 78, 75, 86, 88, 69]⟩
  else if k = 14 then ⟨#[78]⟩
  else if k = 15 then ⟨#[83, 68]⟩
  else ⟨#[]⟩
theorem kind15 (k : Int) : k = 1 ∨ k = 2 ∨ k = 3 ∨ k = 4 ∨ k = 5 ∨ k = 6 ∨ k = 7 ∨ k = 8 ∨ k = 9 ∨ k = 10 ∨ k = 11 ∨ k = 12 ∨ k = 13 ∨ k = 14 ∨ k = 15 ∨ (k ≠ 1 ∧ k ≠ 2 ∧ k ≠ 3 ∧ k ≠ 4 ∧ k ≠ 5 ∧ k ≠ 6 ∧ k ≠ 7 ∧ k ≠ 8 ∧ k ≠ 9 ∧ k ≠ 10 ∧ k ≠ 11 ∧ k ≠ 12 ∧ k ≠ 13 ∧ k ≠ 14 ∧ k ≠ 15) := by omega
theorem fieldsS_none {k : Int} (h : k ≠ 1 ∧ k ≠ 2 ∧ k ≠ 3 ∧ k ≠ 4 ∧ k ≠ 5 ∧ k ≠ 6 ∧ k ≠ 7 ∧ k ≠ 8 ∧ k ≠ 9 ∧ k ≠ 10 ∧ k ≠ 11 ∧ k ≠ 12 ∧ k ≠ 13 ∧ k ≠ 14 ∧ k ≠ 15) : fieldsS k = ⟨#[]⟩ := by
  obtain ⟨h1, h2, h3, h4, h5, h6, h7, h8, h9, h10, h11, h12, h13, h14, h15⟩ := h
  simp only [fieldsS, h1, h2, h3, h4, h5, h6, h7, h8, h9, h10, h11, h12, h13, h14, h15, if_false]
theorem fields_ascii (k : Int) : ∀ b ∈ (fieldsS k).data.toList, b.toNat < 128 := by
  rcases kind15 k with rfl | rfl | rfl | rfl | rfl | rfl | rfl | rfl | rfl | rfl | rfl | rfl | rfl | rfl | rfl | h
  case inr.inr.inr.inr.inr.inr.inr.inr.inr.inr.inr.inr.inr.inr.inr => rw [fieldsS_none h]; decide
  all_goals decide
theorem fields_any (k : Int) (w : World) : Calls Tryz.prog 90 #[.int .i64 k] w fun e w' => e = .returned (.string (fieldsS k)) ∧ w = w' := by
  rcases kind15 k with rfl | rfl | rfl | rfl | rfl | rfl | rfl | rfl | rfl | rfl | rfl | rfl | rfl | rfl | rfl | h
  case inr.inr.inr.inr.inr.inr.inr.inr.inr.inr.inr.inr.inr.inr.inr =>
    rw [fieldsS_none h]
    obtain ⟨h1, h2, h3, h4, h5, h6, h7, h8, h9, h10, h11, h12, h13, h14, h15⟩ := h
    go_enter Tryz.func90, Tryz.ntmps90
    go_wp2
    go_ret
    exact ⟨rfl, rfl⟩
  all_goals
    go_enter Tryz.func90, Tryz.ntmps90
    go_wp2
    go_ret
    exact ⟨rfl, rfl⟩
end Go.Proofs.YtjgloipgnnigmaaGreatDoor
