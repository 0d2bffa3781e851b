/- Layer 8's Same, and the reference's: both tell sameT of every two transactions. -/
import Derived.Test.YtjgloipgnnigmaaGreatDoorJ2
import Derived.Laws.StructEq
import Derived.Test.YtjgloipgnnigmaaGreatDoorJ4
import Derived.Laws.CopyOwn
import Derived.Lib.AppendZerosOnto
import Derived.Lib.AppendZeros
import Derived.Lib.Overlaps
import Derived.IntWalk
set_option linter.unusedVariables false
set_option linter.unusedSimpArgs false
namespace Go.Proofs.YtjgloipgnnigmaaGreatDoor
open Go.RowKit

def rdEq (x y : Rd) : Bool := x.key.toList == y.key.toList && (x.ver : Int) == (y.ver : Int)
def wrEq (x y : Wr) : Bool := x.key.toList == y.key.toList && x.val.kind == y.val.kind && (x.val.bits : Int) == (y.val.bits : Int) && x.val.text.toList == y.val.text.toList
def rdsTo (l m : List Rd) : Nat → Bool
  | 0 => true
  | k + 1 => rdsTo l m k && rdEq (l.getD k noRd) (m.getD k noRd)
def wrsTo (l m : List Wr) : Nat → Bool
  | 0 => true
  | k + 1 => wrsTo l m k && wrEq (l.getD k noWr) (m.getD k noWr)
def rdsEq (l m : List Rd) : Bool := decide (l.length = m.length) && rdsTo l m l.length
def wrsEq (l m : List Wr) : Bool := decide (l.length = m.length) && wrsTo l m l.length
def idEqB (a b c d : Int) : Bool := a == c && b == d
def sameT (a b : Tx) : Bool := idEqB a.ses a.seq b.ses b.seq && rdsEq a.rds b.rds && wrsEq a.wrs b.wrs

theorem rdsTo_false {l m : List Rd} {k n : Nat} (hk : k < n) (h : rdEq (l.getD k noRd) (m.getD k noRd) = false) : rdsTo l m n = false := by
  induction n with
  | zero => omega
  | succ n ih =>
    by_cases e : k = n
    · subst e; simp only [rdsTo, h, Bool.and_false]
    · simp [rdsTo, ih (by omega)]
theorem wrsTo_false {l m : List Wr} {k n : Nat} (hk : k < n) (h : wrEq (l.getD k noWr) (m.getD k noWr) = false) : wrsTo l m n = false := by
  induction n with
  | zero => omega
  | succ n ih =>
    by_cases e : k = n
    · subst e; simp only [wrsTo, h, Bool.and_false]
    · simp [wrsTo, ih (by omega)]

theorem eqlId (a b c d : Int) (w : World) : (binOp .eql 33 (.agg #[.int .i64 a, .int .i64 b]) (.agg #[.int .i64 c, .int .i64 d])).run Tryz.prog w = .ok (.bool (idEqB a b c d)) w := by
  unfold idEqB
  simp [go_sem]
  by_cases h1 : a = c <;> by_cases h2 : b = d <;> simp [h1, h2]
theorem neqId (a b c d : Int) (w : World) : (binOp .neq 33 (.agg #[.int .i64 a, .int .i64 b]) (.agg #[.int .i64 c, .int .i64 d])).run Tryz.prog w = .ok (.bool (!idEqB a b c d)) w := by
  unfold idEqB
  simp [go_sem]
  by_cases h1 : a = c <;> by_cases h2 : b = d <;> simp [h1, h2]
theorem neqRd (s t : ByteArray) (m n : Nat) (w : World) : (binOp .neq 75 (.agg #[.string s, .int .u64 m]) (.agg #[.string t, .int .u64 n])).run Tryz.prog w = .ok (.bool (!rdEq ⟨s, m⟩ ⟨t, n⟩)) w := by
  unfold rdEq
  simp [go_sem]
  by_cases h1 : s.toList = t.toList <;> by_cases h2 : (m : Int) = (n : Int) <;> simp [h1, h2]
theorem neqWr (s t : ByteArray) (k j : Int) (m n : Nat) (x y : ByteArray) (w : World) : (binOp .neq 112 (.agg #[.string s, .int .i64 k, .int .u64 m, .string x]) (.agg #[.string t, .int .i64 j, .int .u64 n, .string y])).run Tryz.prog w = .ok (.bool (!wrEq ⟨s, ⟨k, m, x⟩⟩ ⟨t, ⟨j, n, y⟩⟩)) w := by
  unfold wrEq
  simp [go_sem]
  by_cases h1 : s.toList = t.toList <;> by_cases h2 : k = j <;> by_cases h3 : (m : Int) = (n : Int) <;> by_cases h4 : x.toList = y.toList <;> simp [h1, h2, h3, h4]

set_option maxRecDepth 100000 in
set_option maxHeartbeats 1000000 in
theorem rds_len (l m : List Rd) (nn : Nat) (hl : Hid (l.length = nn)) (hm : Hid (m.length = nn)) (A B : Option Addr) (ca cb : Nat) (w : World) (hA : RdsAt w A l) (hB : RdsAt w B m) (hn : nn ≤ 9223372036854775807) :
    Calls Tryz.prog 178 #[.slice A nn ca, .slice B nn cb] w fun e w' => e = .returned (.bool (rdsTo l m nn)) ∧ Below w.heap.size w w' := by
  go_enter Tryz.func178, Tryz.ntmps178
  go_wp2
  go_loopw [13] (fun i wr => ∃ k : Nat, k ≤ nn ∧ i = .int .i64 k ∧ Hid (rdsTo l m k = true) ∧ Below w.heap.size w wr) (fun i _ => nn - (intOf i).toNat)
  case atStart => exact ⟨0, Nat.zero_le _, rfl, rfl, Below.refl _ _⟩
  case round =>
    obtain ⟨k, hk, rfl, HA, hw⟩ := hrel
    by_cases hlt : k < nn
    · obtain ⟨b, off, s, n, rfl, d0, d1, HX⟩ := (hA.later hw).at' (k := k) (by rw [hl.out]; exact hlt)
      obtain ⟨b', off', s', n', rfl, e0, e1, HY⟩ := (hB.later hw).at' (k := k) (by rw [hm.out]; exact hlt)
      have hki : (k : Int) < nn := by omega
      have hx : ∀ w, (binOp .neq 75 (.agg #[.string s, .int .u64 n]) (.agg #[.string s', .int .u64 n'])).run Tryz.prog w = .ok (.bool (!rdEq ⟨s, n⟩ ⟨s', n'⟩)) w := neqRd s s' n n'
      cases hq : rdEq ⟨s, n⟩ ⟨s', n'⟩
      · have HF : Hid (rdsTo l m nn = false) := rdsTo_false hlt (by rw [HX.out, HY.out]; exact hq)
        rw [hq] at hx
        clear hq
        go_wp2
        go_quiet (fail)
        go_wp2
        go_ret
        exact ⟨ret_bool HF.out, below_drewN hw _⟩
      · have HR : Hid (rdsTo l m (k + 1) = true) := by show _ = _; rw [rdsTo, HA.out, HX.out, HY.out, hq]; rfl
        rw [hq] at hx
        clear hq
        go_wp2
        go_quiet (fail)
        go_wp2
        go_roundw
        case rel => exact ⟨k + 1, by omega, by go_num, HR, below_drewN hw _⟩
        case measure => simp [intOf]; omega
    · have ek : k = nn := by omega
      have HF : Hid (rdsTo l m nn = true) := by show _ = _; rw [← ek]; exact HA.out
      clear ek
      go_wp2
      go_ret
      exact ⟨ret_bool HF.out, hw⟩
set_option maxRecDepth 100000 in
theorem rds_any (l m : List Rd) (A B : Option Addr) (ca cb : Nat) (w : World) (hA : RdsAt w A l) (hB : RdsAt w B m) (hn : l.length ≤ 9223372036854775807) :
    Calls Tryz.prog 178 #[.slice A l.length ca, .slice B m.length cb] w fun e w' => e = .returned (.bool (rdsEq l m)) ∧ Below w.heap.size w w' := by
  by_cases h : l.length = m.length
  · have := rds_len l m l.length rfl h.symm A B ca cb w hA hB hn
    rw [show rdsEq l m = rdsTo l m l.length by simp [rdsEq, h], ← h]
    exact this
  · have HF : Hid (rdsEq l m = false) := by show _ = _; simp [rdsEq, h]
    have h' : ¬ (l.length : Int) = (m.length : Int) := by omega
    clear h
    go_enter Tryz.func178, Tryz.ntmps178
    go_wp2
    go_ret
    exact ⟨ret_bool HF.out, Below.refl _ _⟩

set_option maxRecDepth 100000 in
set_option maxHeartbeats 1000000 in
theorem wrs_len (l m : List Wr) (nn : Nat) (hl : Hid (l.length = nn)) (hm : Hid (m.length = nn)) (A B : Option Addr) (ca cb : Nat) (w : World) (hA : WrsAt w A l) (hB : WrsAt w B m) (hn : nn ≤ 9223372036854775807) :
    Calls Tryz.prog 179 #[.slice A nn ca, .slice B nn cb] w fun e w' => e = .returned (.bool (wrsTo l m nn)) ∧ Below w.heap.size w w' := by
  go_enter Tryz.func179, Tryz.ntmps179
  go_wp2
  go_loopw [13] (fun i wr => ∃ k : Nat, k ≤ nn ∧ i = .int .i64 k ∧ Hid (wrsTo l m k = true) ∧ Below w.heap.size w wr) (fun i _ => nn - (intOf i).toNat)
  case atStart => exact ⟨0, Nat.zero_le _, rfl, rfl, Below.refl _ _⟩
  case round =>
    obtain ⟨k, hk, rfl, HA, hw⟩ := hrel
    by_cases hlt : k < nn
    · obtain ⟨b, off, s, z, n, x, rfl, d0, d1, d2, d3, HX⟩ := (hA.later hw).at' (k := k) (by rw [hl.out]; exact hlt)
      obtain ⟨b', off', s', z', n', x', rfl, e0, e1, e2, e3, HY⟩ := (hB.later hw).at' (k := k) (by rw [hm.out]; exact hlt)
      have hki : (k : Int) < nn := by omega
      have hx : ∀ w, (binOp .neq 112 (.agg #[.string s, .int .i64 z, .int .u64 n, .string x]) (.agg #[.string s', .int .i64 z', .int .u64 n', .string x'])).run Tryz.prog w = .ok (.bool (!wrEq ⟨s, ⟨z, n, x⟩⟩ ⟨s', ⟨z', n', x'⟩⟩)) w := neqWr s s' z z' n n' x x'
      cases hq : wrEq ⟨s, ⟨z, n, x⟩⟩ ⟨s', ⟨z', n', x'⟩⟩
      · have HF : Hid (wrsTo l m nn = false) := wrsTo_false hlt (by rw [HX.out, HY.out]; exact hq)
        rw [hq] at hx
        clear hq
        go_wp2
        go_quiet (fail)
        go_wp2
        go_ret
        exact ⟨ret_bool HF.out, below_drewN hw _⟩
      · have HR : Hid (wrsTo l m (k + 1) = true) := by show _ = _; rw [wrsTo, HA.out, HX.out, HY.out, hq]; rfl
        rw [hq] at hx
        clear hq
        go_wp2
        go_quiet (fail)
        go_wp2
        go_roundw
        case rel => exact ⟨k + 1, by omega, by go_num, HR, below_drewN hw _⟩
        case measure => simp [intOf]; omega
    · have ek : k = nn := by omega
      have HF : Hid (wrsTo l m nn = true) := by show _ = _; rw [← ek]; exact HA.out
      clear ek
      go_wp2
      go_ret
      exact ⟨ret_bool HF.out, hw⟩
set_option maxRecDepth 100000 in
theorem wrs_any (l m : List Wr) (A B : Option Addr) (ca cb : Nat) (w : World) (hA : WrsAt w A l) (hB : WrsAt w B m) (hn : l.length ≤ 9223372036854775807) :
    Calls Tryz.prog 179 #[.slice A l.length ca, .slice B m.length cb] w fun e w' => e = .returned (.bool (wrsEq l m)) ∧ Below w.heap.size w w' := by
  by_cases h : l.length = m.length
  · have := wrs_len l m l.length rfl h.symm A B ca cb w hA hB hn
    rw [show wrsEq l m = wrsTo l m l.length by simp [wrsEq, h], ← h]
    exact this
  · have HF : Hid (wrsEq l m = false) := by show _ = _; simp [wrsEq, h]
    have h' : ¬ (l.length : Int) = (m.length : Int) := by omega
    clear h
    go_enter Tryz.func179, Tryz.ntmps179
    go_wp2
    go_ret
    exact ⟨ret_bool HF.out, Below.refl _ _⟩

theorem box44 (w : World) (a b c d a' b' c' d' : Value) (t : TypeId) : ∃ W : World, (w.alloc (.cells #[a, b, c, d] t)).alloc (.cells #[a', b', c', d'] t) = W ∧ Below w.heap.size w W ∧ W.cell? ⟨w.heap.size, 0, none⟩ = some a ∧ W.cell? ⟨w.heap.size, 1, none⟩ = some b ∧ W.cell? ⟨w.heap.size, 2, none⟩ = some c ∧ W.cell? ⟨w.heap.size, 3, none⟩ = some d ∧ W.cell? ⟨w.heap.size + 1, 0, none⟩ = some a' ∧ W.cell? ⟨w.heap.size + 1, 1, none⟩ = some b' ∧ W.cell? ⟨w.heap.size + 1, 2, none⟩ = some c' ∧ W.cell? ⟨w.heap.size + 1, 3, none⟩ = some d' :=
  ⟨_, rfl, below2 _ _ _, by simp [go_sem], by simp [go_sem], by simp [go_sem], by simp [go_sem], by simp [go_sem], by simp [go_sem], by simp [go_sem], by simp [go_sem]⟩
set_option maxRecDepth 100000 in
set_option maxHeartbeats 2000000 in
theorem txSame_any (a b : Tx) (A B A' B' : Option Addr) (ca cb ca' cb' : Nat) (w : World) (ha : TxAt w a A B) (hb' : TxAt w b A' B') :
    Calls Tryz.prog 139 #[txV a A B ca cb, txV b A' B' ca' cb'] w fun e w' => e = .returned (.bool (sameT a b)) ∧ Below w.heap.size w w' := by
  unfold txV
  obtain ⟨W, eW, HB, c0, c1, c2, c3, e0, e1, e2, e3⟩ := box44 w (.int .i64 a.ses) (.int .i64 a.seq) (.slice A a.rds.length ca) (.slice B a.wrs.length cb) (.int .i64 b.ses) (.int .i64 b.seq) (.slice A' b.rds.length ca') (.slice B' b.wrs.length cb') 37
  have ha := ha.later HB
  have hb' := hb'.later HB
  have hrn := ha.rn
  have hwn := ha.wn
  have hrn' := hb'.rn
  have hwn' := hb'.wn
  have hx := eqlId a.ses a.seq b.ses b.seq
  cases hid : idEqB a.ses a.seq b.ses b.seq
  · have HF : Hid (sameT a b = false) := by show _ = _; rw [sameT, hid]; rfl
    rw [hid] at hx
    clear hid
    go_enter Tryz.func139, Tryz.ntmps139
    go_wp2
    go_ret
    exact ⟨ret_bool HF.out, HB⟩
  · have HF : Hid (sameT a b = (rdsEq a.rds b.rds && wrsEq a.wrs b.wrs)) := by show _ = _; rw [sameT, hid]; rfl
    rw [hid] at hx
    clear hid
    obtain ⟨r1, hr1⟩ : ∃ r, Hid (rdsEq a.rds b.rds = r) := ⟨_, rfl⟩
    obtain ⟨r2, hr2⟩ : ∃ r, Hid (wrsEq a.wrs b.wrs = r) := ⟨_, rfl⟩
    replace HF := Lib.hid HF.out
    rw [hr1.out, hr2.out] at HF
    cases r1
    all_goals
      go_enter Tryz.func139, Tryz.ntmps139
      go_wp2_with (first
        | (go_at_call 178; refine (calls_bool hr1.out (rds_any _ _ _ _ _ _ _ ha.rds hb'.rds hrn)).mono ?_; rintro e w1 ⟨rfl, hb⟩; replace c2 := keep hb c2; replace c3 := keep hb c3; replace e2 := keep hb e2; replace e3 := keep hb e3; replace ha := ha.later hb; replace hb' := hb'.later hb; replace HB := keepB HB hb; clear hb)
        | (go_at_call 179; refine (calls_bool hr2.out (wrs_any _ _ _ _ _ _ _ ha.wrs hb'.wrs hwn)).mono ?_; rintro e w1 ⟨rfl, hb⟩; replace c2 := keep hb c2; replace c3 := keep hb c3; replace e2 := keep hb e2; replace e3 := keep hb e3; replace ha := ha.later hb; replace hb' := hb'.later hb; replace HB := keepB HB hb; clear hb))
      go_ret
      exact ⟨ret_bool (by rw [HF.out]; simp), HB⟩
set_option maxRecDepth 100000 in
set_option maxHeartbeats 2000000 in
theorem refTxSame_any (a b : Tx) (A B A' B' : Option Addr) (ca cb ca' cb' : Nat) (w : World) (ha : TxAt w a A B) (hb' : TxAt w b A' B') :
    Calls Tryz.prog 125 #[txV a A B ca cb, txV b A' B' ca' cb'] w fun e w' => e = .returned (.bool (sameT a b)) ∧ Below w.heap.size w w' := by
  unfold txV
  obtain ⟨W, eW, HB, c0, c1, c2, c3, e0, e1, e2, e3⟩ := box44 w (.int .i64 a.ses) (.int .i64 a.seq) (.slice A a.rds.length ca) (.slice B a.wrs.length cb) (.int .i64 b.ses) (.int .i64 b.seq) (.slice A' b.rds.length ca') (.slice B' b.wrs.length cb') 37
  have ha := ha.later HB
  have hb' := hb'.later HB
  have hrn := ha.rn
  have hwn := ha.wn
  have hrn' := hb'.rn
  have hwn' := hb'.wn
  have hx := neqId a.ses a.seq b.ses b.seq
  cases hid : idEqB a.ses a.seq b.ses b.seq
  · have HF : Hid (sameT a b = false) := by show _ = _; rw [sameT, hid]; rfl
    rw [hid] at hx
    clear hid
    go_enter Tryz.func125, Tryz.ntmps125
    go_wp2
    go_ret
    exact ⟨ret_bool HF.out, HB⟩
  · rw [hid] at hx
    by_cases hlr : a.rds.length = b.rds.length
    · by_cases hlw : a.wrs.length = b.wrs.length
      · have HS : Hid (sameT a b = (rdsTo a.rds b.rds a.rds.length && wrsTo a.wrs b.wrs a.wrs.length)) := by
          show _ = _
          rw [sameT, hid, rdsEq, wrsEq, decide_eq_true hlr, decide_eq_true hlw]
          simp
        have q0 : ((a.rds.length : Int) != (b.rds.length : Int)) = false := by simp; omega
        have q1 : ((a.wrs.length : Int) != (b.wrs.length : Int)) = false := by simp; omega
        replace hlr := Lib.hid hlr
        replace hlw := Lib.hid hlw
        clear hid
        go_enter Tryz.func125, Tryz.ntmps125
        go_wp2
        clear eW hx q0 q1
        go_loopw [5] (fun i wr => ∃ k : Nat, k ≤ a.rds.length ∧ i = .int .i64 k ∧ Hid (rdsTo a.rds b.rds k = true) ∧ Below W.heap.size W wr) (fun i _ => a.rds.length - (intOf i).toNat)
        case atStart => exact ⟨0, Nat.zero_le _, rfl, rfl, Below.refl _ _⟩
        case round =>
          obtain ⟨k, hk, rfl, HA, hw⟩ := hrel
          have hB := keepB HB hw
          replace c2 := keep hw c2
          replace c3 := keep hw c3
          replace e2 := keep hw e2
          replace e3 := keep hw e3
          by_cases hlt : k < a.rds.length
          · have hlt' : k < b.rds.length := by rw [← hlr.out]; exact hlt
            obtain ⟨p, off, s, n, rfl, d0, d1, HX⟩ := (ha.later hw).rds.at' (k := k) hlt
            obtain ⟨p', off', s', n', rfl, f0, f1, HY⟩ := (hb'.later hw).rds.at' (k := k) hlt'
            have hki : (k : Int) < a.rds.length := by omega
            have hki' : (k : Int) < b.rds.length := by omega
            have hx : ∀ w, (binOp .neq 75 (.agg #[.string s, .int .u64 n]) (.agg #[.string s', .int .u64 n'])).run Tryz.prog w = .ok (.bool (!rdEq ⟨s, n⟩ ⟨s', n'⟩)) w := neqRd s s' n n'
            cases hq : rdEq ⟨s, n⟩ ⟨s', n'⟩
            · have HF : Hid (sameT a b = false) := by show _ = _; rw [HS.out, rdsTo_false (k := k) (by omega) (by rw [HX.out, HY.out]; exact hq)]; simp
              rw [hq] at hx
              clear hq
              go_wp2
              go_quiet (fail)
              go_wp2
              go_ret
              exact ⟨ret_bool HF.out, below_drewN hB _⟩
            · have HR : Hid (rdsTo a.rds b.rds (k + 1) = true) := by show _ = _; rw [rdsTo, HA.out, HX.out, HY.out, hq]; rfl
              rw [hq] at hx
              clear hq
              go_wp2
              go_quiet (fail)
              go_wp2
              go_roundw
              case rel => exact ⟨k + 1, by omega, by go_num, HR, below_drewN hw _⟩
              case measure => simp [intOf]; omega
          · have ek : k = a.rds.length := by omega
            have HR : Hid (rdsTo a.rds b.rds a.rds.length = true) := by show _ = _; rw [← ek]; exact HA.out
            clear ek HA
            go_wp2_with fail
            obtain ⟨wa, rfl⟩ : ∃ wa : World, wa = wr := ⟨_, rfl⟩
            have HR1 := Lib.hid HR.out
            clear HR
            replace ha := ha.later hw
            replace hb' := hb'.later hw
            replace HB := keepB HB hw
            clear hw hB
            go_loopw [6] (fun i wr => ∃ k : Nat, k ≤ a.wrs.length ∧ i = .int .i64 k ∧ Hid (wrsTo a.wrs b.wrs k = true) ∧ Below wa.heap.size wa wr) (fun i _ => a.wrs.length - (intOf i).toNat)
            case atStart => exact ⟨0, Nat.zero_le _, rfl, rfl, Below.refl _ _⟩
            case round =>
              obtain ⟨k, hk, rfl, HA, hw⟩ := hrel
              have hB := keepB HB hw
              replace c2 := keep hw c2
              replace c3 := keep hw c3
              replace e2 := keep hw e2
              replace e3 := keep hw e3
              by_cases hlt : k < a.wrs.length
              · have hlt' : k < b.wrs.length := by rw [← hlw.out]; exact hlt
                obtain ⟨p, off, s, z, n, x, rfl, d0, d1, d2, d3, HX⟩ := (ha.later hw).wrs.at' (k := k) hlt
                obtain ⟨p', off', s', z', n', x', rfl, f0, f1, f2, f3, HY⟩ := (hb'.later hw).wrs.at' (k := k) hlt'
                have hki : (k : Int) < a.wrs.length := by omega
                have hki' : (k : Int) < b.wrs.length := by omega
                have hx : ∀ w, (binOp .neq 112 (.agg #[.string s, .int .i64 z, .int .u64 n, .string x]) (.agg #[.string s', .int .i64 z', .int .u64 n', .string x'])).run Tryz.prog w = .ok (.bool (!wrEq ⟨s, ⟨z, n, x⟩⟩ ⟨s', ⟨z', n', x'⟩⟩)) w := neqWr s s' z z' n n' x x'
                cases hq : wrEq ⟨s, ⟨z, n, x⟩⟩ ⟨s', ⟨z', n', x'⟩⟩
                · have HF : Hid (sameT a b = false) := by show _ = _; rw [HS.out, wrsTo_false (k := k) (by omega) (by rw [HX.out, HY.out]; exact hq)]; simp
                  rw [hq] at hx
                  clear hq
                  go_wp2
                  go_quiet (fail)
                  go_wp2
                  go_ret
                  exact ⟨ret_bool HF.out, below_drewN hB _⟩
                · have HR : Hid (wrsTo a.wrs b.wrs (k + 1) = true) := by show _ = _; rw [wrsTo, HA.out, HX.out, HY.out, hq]; rfl
                  rw [hq] at hx
                  clear hq
                  go_wp2
                  go_quiet (fail)
                  go_wp2
                  go_roundw
                  case rel => exact ⟨k + 1, by omega, by go_num, HR, below_drewN hw _⟩
                  case measure => simp [intOf]; omega
              · have ek : k = a.wrs.length := by omega
                have HR : Hid (wrsTo a.wrs b.wrs a.wrs.length = true) := by show _ = _; rw [← ek]; exact HA.out
                clear ek HA
                have HF : Hid (sameT a b = true) := by show _ = _; rw [HS.out, HR1.out, HR.out]; rfl
                go_wp2
                go_ret
                exact ⟨ret_bool HF.out, hB⟩
      · have HF : Hid (sameT a b = false) := by show _ = _; rw [sameT, wrsEq, decide_eq_false hlw]; simp
        have q1 : ((a.wrs.length : Int) != (b.wrs.length : Int)) = true := by simp; omega
        have q0 : ((a.rds.length : Int) != (b.rds.length : Int)) = false := by simp; omega
        clear hid hlw hlr
        go_enter Tryz.func125, Tryz.ntmps125
        go_wp2
        go_ret
        exact ⟨ret_bool HF.out, HB⟩
    · have HF : Hid (sameT a b = false) := by show _ = _; rw [sameT, rdsEq, decide_eq_false hlr]; simp
      have q0 : ((a.rds.length : Int) != (b.rds.length : Int)) = true := by simp; omega
      clear hid hlr
      go_enter Tryz.func125, Tryz.ntmps125
      go_wp2
      go_ret
      exact ⟨ret_bool HF.out, HB⟩
end Go.Proofs.YtjgloipgnnigmaaGreatDoor
/- Layer 8's Few, and awake: whether a transaction is looked at; what the program must answer. -/
namespace Go.Proofs.YtjgloipgnnigmaaGreatDoor
open Go.RowKit Go.Shelf

theorem all_bad {α : Type} {l : List α} {d : α} {p : α → Bool} {k : Nat} {x : α} (hk : k < l.length) (h : l.getD k d = x) (hx : p x = false) : l.all p = false := by
  rw [List.getD_eq_getElem?_getD, List.getElem?_eq_getElem hk] at h
  simp only [Option.getD_some] at h
  rw [List.all_eq_false]
  exact ⟨l[k], List.getElem_mem hk, by rw [h, hx]; simp⟩
theorem all_next {α : Type} {l : List α} {d : α} {p : α → Bool} {k : Nat} {x : α} (hk : k < l.length) (h : l.getD k d = x) (hx : p x = true) (ha : (l.take k).all p = true) : (l.take (k + 1)).all p = true := by
  rw [List.getD_eq_getElem?_getD, List.getElem?_eq_getElem hk] at h
  simp only [Option.getD_some] at h
  rw [List.take_succ_eq_append_getElem hk, List.all_append, ha, h]
  simp [hx]
def rdFew (x : Rd) : Bool := decide (x.key.size ≤ 1000)
def wrFew (x : Wr) : Bool := decide (x.key.size ≤ 1000) && decide (x.val.text.size ≤ 1000)
def fewT (t : Tx) : Bool := decide (t.rds.length ≤ 12) && decide (t.wrs.length ≤ 12) && t.rds.all rdFew && t.wrs.all wrFew

set_option maxRecDepth 100000 in
set_option maxHeartbeats 2000000 in
theorem few08_any (t : Tx) (A B : Option Addr) (ca cb : Nat) (w : World) (h : TxAt w t A B) :
    Calls Tryz.prog 77 #[txV t A B ca cb] w fun e w' => e = .returned (.bool (fewT t)) ∧ Below w.heap.size w w' := by
  unfold txV
  obtain ⟨W, eW, HB, c0, c1, c2, c3⟩ := box4 w (.int .i64 t.ses) (.int .i64 t.seq) (.slice A t.rds.length ca) (.slice B t.wrs.length cb) 37
  have h := h.later HB
  have hrn := h.rn
  have hwn := h.wn
  by_cases hn : t.rds.length ≤ 12
  · by_cases hm : t.wrs.length ≤ 12
    · have q0 : decide ((12 : Int) < (t.rds.length : Int)) = false := by rw [decide_eq_false_iff_not]; omega
      have q1 : decide ((12 : Int) < (t.wrs.length : Int)) = false := by rw [decide_eq_false_iff_not]; omega
      replace hn := Lib.hid hn
      replace hm := Lib.hid hm
      go_enter Tryz.func77, Tryz.ntmps77
      go_wp2_with fail
      clear eW q0 q1
      go_loopw [3] (fun i wr => ∃ k : Nat, k ≤ t.rds.length ∧ i = .int .i64 k ∧ Hid ((t.rds.take k).all rdFew = true) ∧ Below W.heap.size W wr) (fun i _ => t.rds.length - (intOf i).toNat)
      case atStart => exact ⟨0, Nat.zero_le _, rfl, rfl, Below.refl _ _⟩
      case round =>
        obtain ⟨k, hk, rfl, HA, hw⟩ := hrel
        have hB := keepB HB hw
        replace c2 := keep hw c2
        replace c3 := keep hw c3
        by_cases hlt : k < t.rds.length
        · obtain ⟨p, off, s, n, rfl, d0, d1, HX⟩ := (h.later hw).rds.at' (k := k) hlt
          have hki : (k : Int) < t.rds.length := by omega
          by_cases hb : 1000 < s.size
          · have HF : Hid (fewT t = false) := by show _ = _; rw [fewT, all_bad hlt HX.out (by simp [rdFew]; omega)]; simp
            go_wp2
            go_ret
            exact ⟨ret_bool HF.out, hB⟩
          · have HR : Hid ((t.rds.take (k + 1)).all rdFew = true) := all_next hlt HX.out (by simp [rdFew]; omega) HA.out
            go_wp2
            go_roundw
            case rel => exact ⟨k + 1, by omega, by go_num, HR, hw⟩
            case measure => simp [intOf]; omega
        · have ek : k = t.rds.length := by omega
          have HR : Hid (t.rds.all rdFew = true) := by show _ = _; have := HA.out; rw [ek, List.take_length] at this; exact this
          clear ek HA
          go_wp2_with fail
          obtain ⟨wa, rfl⟩ : ∃ wa : World, wa = wr := ⟨_, rfl⟩
          have HR1 := Lib.hid HR.out
          clear HR
          replace h := h.later hw
          replace HB := keepB HB hw
          clear hw hB
          go_loopw [4] (fun i wr => ∃ k : Nat, k ≤ t.wrs.length ∧ i = .int .i64 k ∧ Hid ((t.wrs.take k).all wrFew = true) ∧ Below wa.heap.size wa wr) (fun i _ => t.wrs.length - (intOf i).toNat)
          case atStart => exact ⟨0, Nat.zero_le _, rfl, rfl, Below.refl _ _⟩
          case round =>
            obtain ⟨k, hk, rfl, HA, hw⟩ := hrel
            have hB := keepB HB hw
            replace c2 := keep hw c2
            replace c3 := keep hw c3
            by_cases hlt : k < t.wrs.length
            · obtain ⟨p, off, s, z, n, x, rfl, d0, d1, d2, d3, HX⟩ := (h.later hw).wrs.at' (k := k) hlt
              have hki : (k : Int) < t.wrs.length := by omega
              by_cases hb : 1000 < s.size
              · have HF : Hid (fewT t = false) := by show _ = _; rw [fewT, all_bad hlt HX.out (by simp [wrFew]; omega)]; simp
                go_wp2
                go_ret
                exact ⟨ret_bool HF.out, hB⟩
              · by_cases hb2 : 1000 < x.size
                · have HF : Hid (fewT t = false) := by show _ = _; rw [fewT, all_bad hlt HX.out (by simp [wrFew]; omega)]; simp
                  go_wp2
                  go_ret
                  exact ⟨ret_bool HF.out, hB⟩
                · have HR : Hid ((t.wrs.take (k + 1)).all wrFew = true) := all_next hlt HX.out (by simp [wrFew]; omega) HA.out
                  go_wp2
                  go_roundw
                  case rel => exact ⟨k + 1, by omega, by go_num, HR, hw⟩
                  case measure => simp [intOf]; omega
            · have ek : k = t.wrs.length := by omega
              have HR : Hid (t.wrs.all wrFew = true) := by show _ = _; have := HA.out; rw [ek, List.take_length] at this; exact this
              clear ek HA
              have HF : Hid (fewT t = true) := by show _ = _; rw [fewT, HR1.out, HR.out, decide_eq_true hn.out, decide_eq_true hm.out]; rfl
              go_wp2
              go_ret
              exact ⟨ret_bool HF.out, hB⟩
    · have HF : Hid (fewT t = false) := by show _ = _; rw [fewT, decide_eq_false hm]; simp
      go_enter Tryz.func77, Tryz.ntmps77
      go_wp2
      go_ret
      exact ⟨ret_bool HF.out, HB⟩
  · have HF : Hid (fewT t = false) := by show _ = _; rw [fewT, decide_eq_false hn]; simp
    go_enter Tryz.func77, Tryz.ntmps77
    go_wp2
    go_ret
    exact ⟨ret_bool HF.out, HB⟩

end Go.Proofs.YtjgloipgnnigmaaGreatDoor
/- Layer 21 in plain Lean: the invariant of a session, kept by whatever is done. -/
namespace Go.Proofs.YtjgloipgnnigmaaGreatDoor

def akeys (x : CliD) : List ByteArray := x.rds.map Rd.key ++ x.asks.map AskD.key
structure CliInv (c : Cfg) (N : Nat) (x : CliD) : Prop where
  st : x.state ≤ 3
  sq : x.seq ≤ 1048576
  nm : x.num ≤ N
  tn : x.turn < 60
  an : x.asks.length ≤ 6
  rn : x.rds.length ≤ 6
  wn : x.wrs.length ≤ 6
  kn : x.keys.length ≤ 6
  idle : x.state = 0 → x.asks = [] ∧ x.rds = [] ∧ x.wrs = []
  com : x.state = 2 → x.asks = [] ∧ 0 < x.rds.length + x.wrs.length
  one : inTxn x = true → 1 ≤ x.seq ∧ x.rds.length + x.asks.length ≤ 6 ∧ (akeys x).Nodup ∧ ∀ k ∈ akeys x, keyB k = true
  srt : x.rds.Pairwise (fun a b => leR a b = true)
  wr : WrOK x.wrs
  sn : x.state = 3 → (∀ a ∈ x.asks, a.key = noStr) ∨ (x.floor ≤ x.stamp ∧ ∀ a ∈ x.asks, a.key ≠ noStr)
  ky : ∀ k ∈ x.keys, keyB k = true
  ag : ∀ a ∈ x.asks, a.g < c.reps.length
  ah : ∀ a ∈ x.asks, a.key = noStr ∨ (keyB a.key = true ∧ a.g = homeN c a.key)
  nn : ∀ a ∈ x.asks, a.n ≤ N
theorem inTxn_1 {x : CliD} (h : x.state = 1) : inTxn x = true := by simp [inTxn, h]
theorem inTxn_2 {x : CliD} (h : x.state = 2) : inTxn x = true := by simp [inTxn, h]
theorem inTxn_no {x : CliD} (h1 : x.state ≠ 1) (h2 : x.state ≠ 2) : inTxn x = false := by simp [inTxn, h1, h2]
theorem noStr_nokey : keyB noStr = false := by decide
theorem key_ne {k : ByteArray} (h : keyB k = true) : k ≠ noStr := fun e => by subst e; rw [noStr_nokey] at h; cases h
theorem inv_0 (c : Cfg) (N : Nat) : CliInv c N cli0 :=
  { st := by decide, sq := by decide, nm := Nat.zero_le _, tn := by decide, an := by decide, rn := by decide, wn := by decide, kn := by decide, idle := fun _ => ⟨rfl, rfl, rfl⟩, com := fun h => (by cases h), one := fun h => (by simp [inTxn, cli0] at h), srt := List.Pairwise.nil, wr := wrOK_nil, sn := fun h => (by cases h), ky := fun _ h => (by cases h), ag := fun _ h => (by cases h), ah := fun _ h => (by cases h), nn := fun _ h => (by cases h) }
section
variable {c : Cfg} {N : Nat} {x : CliD}
theorem CliInv.up (h : CliInv c N x) {M : Nat} (hM : N ≤ M) : CliInv c M x := { h with nm := Nat.le_trans h.nm hM, nn := fun a ha => Nat.le_trans (h.nn a ha) hM }
theorem CliInv.rest (h : CliInv c N x) : CliInv c N (restD x) :=
  { st := Nat.zero_le _, sq := h.sq, nm := h.nm, tn := h.tn, an := Nat.zero_le _, rn := Nat.zero_le _, wn := Nat.zero_le _, kn := Nat.zero_le _, idle := fun _ => ⟨rfl, rfl, rfl⟩, com := fun h => (by cases h), one := fun h => (by simp [inTxn, restD] at h), srt := List.Pairwise.nil, wr := wrOK_nil, sn := fun h => (by cases h), ky := fun _ h => (by cases h), ag := fun _ h => (by cases h), ah := fun _ h => (by cases h), nn := fun _ h => (by cases h) }
theorem CliInv.floor (h : CliInv c N x) (n : Nat) (h3 : x.state ≠ 3) : CliInv c N { x with floor := n } := { h with sn := fun e => absurd e h3 }
theorem CliInv.begin (h : CliInv c N x) : CliInv c N (beginD x) := by
  rw [beginD]
  split
  · rename_i h0
    obtain ⟨e1, e2, e3⟩ := h.idle h0.1
    exact { st := by show 1 ≤ 3; decide, sq := by show x.seq + 1 ≤ _; omega, nm := h.nm, tn := h.tn, an := h.an, rn := h.rn, wn := h.wn, kn := h.kn, idle := fun e => (by cases e), com := fun e => (by cases e), one := fun _ => ⟨by show 1 ≤ x.seq + 1; omega, by show x.rds.length + x.asks.length ≤ 6; rw [e1, e2]; decide, by show (akeys x).Nodup; rw [akeys, e1, e2]; exact List.nodup_nil, by show ∀ k ∈ akeys x, _; rw [akeys, e1, e2]; intro k hk; cases hk⟩, srt := h.srt, wr := h.wr, sn := fun e => (by cases e), ky := h.ky, ag := h.ag, ah := h.ah, nn := h.nn }
  · exact h
theorem wantD_len (g : Nat) (k : ByteArray) (s : Nat) : (wantD x g k s).asks.length = x.asks.length + 1 := by simp [wantD]
theorem CliInv.read (h : CliInv c N x) (hf : formedB c = true) (key : ByteArray) : CliInv c (N + 1) (readD c x key) := by
  rw [readD]
  split
  · rename_i h4
    have h1 : x.state = 1 ∧ keyB key = true ∧ hasD x key = false ∧ x.rds.length + x.asks.length < 6 := by
      unfold readK at h4
      split at h4; · cases h4
      split at h4; · cases h4
      split at h4; · cases h4
      split at h4; · cases h4
      rename_i q1 q2 q3 q4
      exact ⟨by omega, by simpa using q2, by simpa using q3, by omega⟩
    obtain ⟨s1, hk, hh, hl⟩ := h1
    obtain ⟨o1, o2, o3, o4⟩ := h.one (inTxn_1 s1)
    have ho : homeN c key < c.reps.length := by
      have := leTo_le c.bnds key c.bnds.length
      have := formed_len hf
      unfold homeN; omega
    have hu := h.up (M := N + 1) (by omega)
    have hak : akeys (wantD x (homeN c key) key 0) = akeys x ++ [key] := by simp [akeys, wantD, askD]
    have hno : key ∉ akeys x := fun hm => by
      simp only [hasD, Bool.or_eq_false_iff, List.any_eq_false, decide_eq_true_eq] at hh
      rcases List.mem_append.1 hm with q | q
      · obtain ⟨r, hr, e⟩ := List.mem_map.1 q; exact hh.1 r hr e
      · obtain ⟨r, hr, e⟩ := List.mem_map.1 q; exact hh.2 r hr e
    exact { hu with
      nm := by show x.num + 1 ≤ N + 1; have := h.nm; omega
      an := by rw [wantD_len]; have := h.an; omega
      idle := fun e => by rw [show (wantD x (homeN c key) key 0).state = x.state from rfl, s1] at e; cases e
      com := fun e => by rw [show (wantD x (homeN c key) key 0).state = x.state from rfl, s1] at e; cases e
      one := fun _ => ⟨o1, by rw [wantD_len]; show x.rds.length + _ ≤ 6; omega, by
        rw [hak, List.nodup_append]
        exact ⟨o3, by simp, fun a ha b hb e => by simp at hb; subst hb; subst e; exact hno ha⟩, by
        rw [hak]
        intro k hkm
        rcases List.mem_append.1 hkm with q | q
        · exact o4 k q
        · simp at q; subst q; exact hk⟩
      sn := fun e => by rw [show (wantD x (homeN c key) key 0).state = x.state from rfl, s1] at e; cases e
      ag := fun a ha => by
        rcases List.mem_append.1 ha with q | q
        · exact h.ag a q
        · simp at q; subst q; exact ho
      ah := fun a ha => by
        rcases List.mem_append.1 ha with q | q
        · exact h.ah a q
        · simp at q; subst q; exact .inr ⟨hk, rfl⟩
      nn := fun a ha => by
        rcases List.mem_append.1 ha with q | q
        · exact hu.nn a q
        · simp at q; subst q; show x.num + 1 ≤ N + 1; have := h.nm; omega }
  · exact h.up (by omega)
theorem insK_len (l : List Wr) (k : Nat) (w : Wr) (hk : k ≤ l.length) : (insK l k w).length = l.length + 1 := by simp [insK]; omega
theorem CliInv.wrs (h : CliInv c N x) {l : List Wr} (hl : l.length ≤ 6) (hw : WrOK l) (h1 : x.state = 1) : CliInv c N { x with wrs := l } :=
  { h with wn := hl, wr := hw, idle := fun e => (by rw [show x.state = 0 from e] at h1; cases h1), com := fun e => (by rw [show x.state = 2 from e] at h1; cases h1) }
theorem CliInv.write (h : CliInv c N x) (key : ByteArray) (v : Val) : CliInv c N (writeD x key v) := by
  have hq : ∀ k, writeK x key v = k → k = 2 ∨ k = 4 → x.state = 1 ∧ keyB key = true ∧ formedV v = true ∧ (k = 2 → atK x.wrs key = true) ∧ (k = 4 → atK x.wrs key = false ∧ x.wrs.length < 6) := by
    intro k e hk
    unfold writeK at e
    split at e; · omega
    rename_i q1
    split at e; · omega
    rename_i q2
    simp only [Bool.and_eq_false_iff, not_or, Bool.not_eq_false] at q2
    refine ⟨by omega, q2.1, q2.2, ?_⟩
    split at e
    · rename_i q3; exact ⟨fun _ => q3, fun e' => by omega⟩
    rename_i q3
    split at e
    · omega
    rename_i q4
    exact ⟨fun e' => by omega, fun _ => ⟨by simpa using q3, by omega⟩⟩
  rw [writeD]
  split
  · rename_i e
    obtain ⟨s1, hk, hv, ha, _⟩ := hq 2 e (.inl rfl)
    have ha := ha rfl
    simp only [atK, Bool.and_eq_true, decide_eq_true_eq] at ha
    exact h.wrs (by simpa using h.wn) (wrOK_set h.wr ha.1 ha.2 hv) s1
  · rename_i e
    obtain ⟨s1, hk, hv, _, ha⟩ := hq 4 e (.inr rfl)
    obtain ⟨ha, hl⟩ := ha rfl
    exact h.wrs (by rw [insK_len _ _ _ (low_le _ _)]; omega) (wrOK_ins h.wr ha hk hv) s1
  · exact h
theorem CliInv.commit (h : CliInv c N x) : CliInv c N (commitD x) := by
  rw [commitD]
  split
  · exact h.rest
  · rename_i e
    unfold commitK at e
    split at e; · cases e
    rename_i q1
    split at e; · cases e
    rename_i q2
    have s1 : x.state = 1 := by omega
    have ha : x.asks = [] := List.eq_nil_of_length_eq_zero (by omega)
    obtain ⟨o1, o2, o3, o4⟩ := h.one (inTxn_1 s1)
    exact { h with st := by show 2 ≤ 3; decide, idle := fun e => (by cases e), com := fun _ => ⟨ha, by show 0 < x.rds.length + x.wrs.length; omega⟩, one := fun _ => ⟨o1, o2, o3, o4⟩, sn := fun e => (by cases e) }
  · exact h
theorem CliInv.abort (h : CliInv c N x) : CliInv c N (abortD x) := by
  rw [abortD]; split
  · exact h.rest
  · exact h
theorem wantsD_state (l : List (Nat × ByteArray × Nat)) : ∀ x : CliD, (wantsD x l).state = x.state ∧ (wantsD x l).seq = x.seq ∧ (wantsD x l).turn = x.turn ∧ (wantsD x l).floor = x.floor ∧ (wantsD x l).rds = x.rds ∧ (wantsD x l).wrs = x.wrs ∧ (wantsD x l).keys = x.keys ∧ (wantsD x l).stamp = x.stamp ∧ (wantsD x l).num = x.num + l.length ∧ (wantsD x l).asks.length = x.asks.length + l.length := by
  induction l with
  | nil => intro x; exact ⟨rfl, rfl, rfl, rfl, rfl, rfl, rfl, rfl, rfl, rfl⟩
  | cons p l ih =>
    intro x
    obtain ⟨g, k, s⟩ := p
    obtain ⟨a1, a2, a3, a4, a5, a6, a7, a8, a9, a10⟩ := ih (wantD x g k s)
    rw [wantsD]
    refine ⟨a1, a2, a3, a4, a5, a6, a7, a8, ?_, ?_⟩
    · rw [a9]; simp [wantD]; omega
    · rw [a10, wantD_len]; simp; omega
theorem wantsD_asks (P : AskD → Prop) (M : Nat) (l : List (Nat × ByteArray × Nat)) : ∀ x : CliD, (∀ a ∈ x.asks, P a) → (∀ p ∈ l, ∀ n, n ≤ M → P ⟨n, p.1, p.2.1, p.2.2⟩) → x.num + l.length ≤ M → ∀ a ∈ (wantsD x l).asks, P a := by
  induction l with
  | nil => intro x h _ _; exact h
  | cons p l ih =>
    intro x h hl hM
    obtain ⟨g, k, s⟩ := p
    rw [wantsD]
    refine ih _ (fun a ha => ?_) (fun p hp => hl p (List.mem_cons_of_mem _ hp)) (by simp [wantD] at hM ⊢; omega)
    rcases List.mem_append.1 ha with q | q
    · exact h a q
    · simp at q; subst q; exact hl (g, k, s) (List.mem_cons_self ..) _ (by simp at hM; show x.num + 1 ≤ M; omega)
/-- Asking many things in a snapshot. -/
theorem CliInv.wants (h : CliInv c N x) (h3 : x.state = 3) (ha : x.asks = []) (l : List (Nat × ByteArray × Nat)) (hl : l.length ≤ 6) (hg : ∀ p ∈ l, p.1 < c.reps.length)
    (hk : (∀ p ∈ l, p.2.1 = noStr) ∨ (x.floor ≤ x.stamp ∧ ∀ p ∈ l, keyB p.2.1 = true ∧ p.1 = homeN c p.2.1)) : CliInv c (N + 6) (wantsD x l) := by
  obtain ⟨a1, a2, a3, a4, a5, a6, a7, a8, a9, a10⟩ := wantsD_state l x
  have hal := fun P hx hp => wantsD_asks P (N + 6) l x hx hp (by have := h.nm; omega)
  have hempty : ∀ (P : AskD → Prop), ∀ a ∈ x.asks, P a := fun P a q => by rw [ha] at q; cases q
  exact {
    st := by rw [a1]; exact h.st
    sq := by rw [a2]; exact h.sq
    nm := by rw [a9]; have := h.nm; omega
    tn := by rw [a3]; exact h.tn
    an := by rw [a10, ha]; simpa using hl
    rn := by rw [a5]; exact h.rn
    wn := by rw [a6]; exact h.wn
    kn := by rw [a7]; exact h.kn
    idle := fun e => by rw [a1, h3] at e; cases e
    com := fun e => by rw [a1, h3] at e; cases e
    one := fun e => by rw [inTxn_no (by rw [a1, h3]; decide) (by rw [a1, h3]; decide)] at e; cases e
    srt := by rw [a5]; exact h.srt
    wr := by rw [a6]; exact h.wr
    sn := fun _ => by
      rcases hk with hk | ⟨hs, hk⟩
      · exact .inl (hal _ (hempty _) fun p hp n _ => hk p hp)
      · exact .inr ⟨by rw [a4, a8]; exact hs, hal _ (hempty _) fun p hp n _ => key_ne (hk p hp).1⟩
    ky := by rw [a7]; exact h.ky
    ag := hal _ (hempty _) fun p hp n _ => hg p hp
    ah := hal _ (hempty _) fun p hp n _ => by
      rcases hk with hk | ⟨_, hk⟩
      · exact .inl (hk p hp)
      · exact .inr (hk p hp)
    nn := hal _ (hempty _) fun p hp n hn => hn }
theorem snapW_len (c : Cfg) (keys : List ByteArray) (hf : formedB c = true) : (snapW c keys).length ≤ 4 := by
  have h1 := formed_len hf
  have h2 := groupsTo_length c keys c.reps.length
  rw [snapW, List.length_map, groupsL, if_pos hf]; omega
theorem groupsL_mem {c : Cfg} {keys : List ByteArray} {g : Int} (h : g ∈ groupsL c keys) : 0 ≤ g ∧ g.toNat < c.reps.length := by
  unfold groupsL at h
  split at h
  · obtain ⟨k, hk, _, rfl⟩ := ((groupsTo_rises c keys c.reps.length).2 g).1 h
    simp [hk]
  · cases h
theorem CliInv.snap (h : CliInv c N x) (hf : formedB c = true) (keys : List ByteArray) : CliInv c (N + 6) (snapD c x keys) := by
  rw [snapD]
  split
  · rename_i e
    unfold snapK at e
    split at e; · cases e
    rename_i q1
    split at e; · cases e
    rename_i q2
    have s0 : x.state = 0 := by omega
    simp only [Bool.and_eq_false_iff, not_or, Bool.not_eq_false, decide_eq_true_eq] at q2
    obtain ⟨⟨k1, k6⟩, kr⟩ := q2
    obtain ⟨e1, e2, e3⟩ := h.idle s0
    have hb : CliInv c N (snap0 x keys) :=
      { h with st := by show 3 ≤ 3; decide, kn := k6, idle := fun e => (by cases e), com := fun e => (by cases e), one := fun e => (by simp [inTxn, snap0] at e), sn := fun _ => .inl (by show ∀ a ∈ x.asks, _; rw [e1]; intro a ha; cases ha), ky := ((rise_iff keys).1 kr).1 }
    refine hb.wants rfl e1 _ (by have := snapW_len c keys hf; omega) (fun p hp => ?_) (.inl fun p hp => ?_)
    · obtain ⟨g, hg, rfl⟩ := List.mem_map.1 hp
      exact (groupsL_mem hg).2
    · obtain ⟨g, hg, rfl⟩ := List.mem_map.1 hp
      rfl
  · exact h.up (by omega)
theorem CliInv.safe (h : CliInv c N x) (hf : formedB c = true) (h3 : x.state = 3) : CliInv c (N + 6) (safeD c x) := by
  rw [safeD]
  split
  · exact h.up (by omega)
  · rename_i e
    unfold safeK at e
    split at e; · cases e
    rename_i q1
    split at e; · cases e
    rename_i q2
    refine h.wants h3 (List.eq_nil_of_length_eq_zero (by omega)) _ (by rw [safeW, List.length_map]; exact h.kn) (fun p hp => ?_) (.inr ⟨by omega, fun p hp => ?_⟩)
    · obtain ⟨k, hk, rfl⟩ := List.mem_map.1 hp
      have := leTo_le c.bnds k c.bnds.length
      have := formed_len hf
      show homeN c k < _
      unfold homeN; omega
    · obtain ⟨k, hk, rfl⟩ := List.mem_map.1 hp
      exact ⟨h.ky k hk, rfl⟩
  · exact h.rest.up (by omega)
theorem mem_erase {α : Type} {l : List α} {i : Nat} {a : α} (h : a ∈ l.eraseIdx i) : a ∈ l := List.mem_of_mem_eraseIdx h
theorem CliInv.answ (h : CliInv c N x) (m : MsgV) : CliInv c N (answD x m) :=
  { h with
    an := Nat.le_trans (List.length_eraseIdx_le _ _) h.an
    idle := fun e => by obtain ⟨e1, e2, e3⟩ := h.idle e; exact ⟨by show x.asks.eraseIdx _ = []; rw [e1]; rfl, e2, e3⟩
    com := fun e => by obtain ⟨e1, e2⟩ := h.com e; exact ⟨by show x.asks.eraseIdx _ = []; rw [e1]; rfl, e2⟩
    one := fun e => by
      obtain ⟨o1, o2, o3, o4⟩ := h.one e
      have hs : (akeys (answD x m)).Sublist (akeys x) := List.Sublist.append (List.Sublist.refl _) ((List.eraseIdx_sublist _ _).map _)
      exact ⟨o1, by show x.rds.length + (x.asks.eraseIdx _).length ≤ 6; have := List.length_eraseIdx_le x.asks (answK x m.num m.key); omega, hs.nodup o3, fun k hk => o4 k (hs.subset hk)⟩
    sn := fun e => (h.sn e).imp (fun q a ha => q a (mem_erase ha)) (fun q => ⟨q.1, fun a ha => q.2 a (mem_erase ha)⟩)
    ag := fun a ha => h.ag a (mem_erase ha)
    ah := fun a ha => h.ah a (mem_erase ha)
    nn := fun a ha => h.nn a (mem_erase ha) }
end
end Go.Proofs.YtjgloipgnnigmaaGreatDoor
/- Laws of no program: 'copy' over a row whose elements take several cells; 'append(s[:0], make(S, k)...)' where there is no room. -/
namespace Go.Proofs.YtjgloipgnnigmaaGreatDoor
open Go.RowKit

section
variable {P : Program} {w : World}
theorem run_copy_rowS (w : World) (dT sT ty elem : TypeId) (size g o dLen dCap : Nat) (a : Addr) (sLen sCap : Nat) (cur : Array Value) (t : TypeId) (cs : List Value)
    (hu : P.underlying dT = some (.slice elem)) (hs : (P.info? elem).map (·.size) = some size)
    (hg : w.heap[g]? = some (.cells cur t (0, 0))) (hn : cs.length = Nat.min sLen dLen * size)
    (hsrc : ∀ j v, cs[j]? = some v → w.cell? (a.add j) = some v) (hfit : o + cs.length ≤ cur.size) (h1 : ∀ v ∈ cs, v.oneCell' = true) :
    (Builtin.copy_ #[dT, sT] ty #[.slice (some ⟨g, o, none⟩) dLen dCap, .slice (some a) sLen sCap]).run P w =
      .ok (goInt (Nat.min sLen dLen)) (w.setRow g (cur.toList.take o ++ cs ++ cur.toList.drop (o + cs.length)).toArray) := by
  have hl := run_loadCells_list (P := P) w a cs hsrc
  have hst := run_storeCells_at P g o t cs 0 cur w hg (by simpa using hfit) h1
  cases hq : P.info? elem with
  | none => simp [hq] at hs
  | some i =>
    have hi : i.size = size := by simpa [hq] using hs
    simp [Builtin.copy_, run_underlying hu, Builtin.lenOf, Builtin.firstCells, sizeOf, typeInfo, hq, hi, ← hn, hl, hst]
theorem grown_setRow (w : World) (g : Nat) (cs : Array Value) : w.grownBy (w.setRow g cs) (some g) :=
  ⟨rfl, rfl, rfl, by simp [World.setRow], fun k _ hk => setRow_other w g k cs (fun e => hk (by rw [e]))⟩
theorem run_copy_spliceS (w : World) (dT sT ty elem : TypeId) (size g o dLen dCap : Nat) (a : Addr) (sLen sCap : Nat) (cur : List Value) (t : TypeId) (cs : List Value)
    (hu : P.underlying dT = some (.slice elem)) (hs : (P.info? elem).map (·.size) = some size)
    (hg : w.heap[g]? = some (.cells cur.toArray t (0, 0))) (hn : cs.length = Nat.min sLen dLen * size)
    (hsrc : ∀ j v, cs[j]? = some v → w.cell? (a.add j) = some v) (hfit : o + cs.length ≤ cur.length) (h1 : ∀ v ∈ cs, v.oneCell' = true) :
    ∃ n w', (Builtin.copy_ #[dT, sT] ty #[.slice (some ⟨g, o, none⟩) dLen dCap, .slice (some a) sLen sCap]).run P w = .ok (goInt n) w' ∧ w'.heap[g]? = some (.cells (splice cur o cs).toArray t (0, 0)) ∧ w.grownBy w' (some g) := by
  refine ⟨_, _, run_copy_rowS w dT sT ty elem size g o dLen dCap a sLen sCap cur.toArray t cs hu hs hg hn hsrc (by simpa using hfit) h1, ?_, grown_setRow _ _ _⟩
  rw [setRow_heap w g cur.toArray _ t _ hg]
  simp [splice]
theorem wpList_copy_spliceS {ops : Array Oper} {rest : List Oper} {o : Oper} {a : Act} {Q : Exit → Act → World → Prop} (hgd : o.guard = none) (d s : Operand) (dT sT : TypeId)
    (ho : o.op = .call { callee := .builtin .copy, args := #[d, s], argTypes := #[dT, sT] }) (elem : TypeId) (size : Nat) (hu : P.underlying dT = some (.slice elem)) (hsz : (P.info? elem).map (·.size) = some size)
    (g off dLen dCap : Nat) (ad : Addr) (sLen sCap : Nat) (hd : a.eval d = .slice (some ⟨g, off, none⟩) dLen dCap) (hs : a.eval s = .slice (some ad) sLen sCap)
    (cur : List Value) (t : TypeId) (hg : w.heap[g]? = some (.cells cur.toArray t (0, 0))) (cs : List Value) (hn : cs.length = Nat.min sLen dLen * size)
    (hsrc : ∀ j v, cs[j]? = some v → w.cell? (ad.add j) = some v) (hfit : off + cs.length ≤ cur.length) (h1 : ∀ v ∈ cs, v.oneCell' = true)
    (h : ∀ (n : Int) (w' : World), Hid (w'.heap[g]? = some (.cells (splice cur off cs).toArray t (0, 0))) → w.grownBy w' (some g) → wpList P ops Q rest (a.put o.dst (goInt n)) w') : wpList P ops Q (o :: rest) a w := by
  obtain ⟨n, w', hr, h2, h3⟩ := run_copy_spliceS (P := P) w dT sT o.type elem size g off dLen dCap ad sLen sCap cur t cs hu hsz hg hn hsrc hfit h1
  refine wpList_plain hgd fun K hK => ?_
  unfold Oper.wp
  simp [execOp, ho, resolve, invoke, builtin, hd, hs, hr, Result.andThen]
  exact hK _ _ (h n w' h2 h3)
theorem step_copy_spliceS {ops : Array Oper} {o : Oper} {a : Act} {K : Act → World → Prop} {Q : Exit → Act → World → Prop} {E : Prop} (hgd : o.guard = none) (d s : Operand) (dT sT : TypeId)
    (ho : o.op = .call { callee := .builtin .copy, args := #[d, s], argTypes := #[dT, sT] }) (elem : TypeId) (size : Nat) (hu : P.underlying dT = some (.slice elem)) (hsz : (P.info? elem).map (·.size) = some size)
    (g off dLen dCap : Nat) (ad : Addr) (sLen sCap : Nat) (hd : a.eval d = .slice (some ⟨g, off, none⟩) dLen dCap) (hs : a.eval s = .slice (some ad) sLen sCap)
    (cur : List Value) (t : TypeId) (hg : w.heap[g]? = some (.cells cur.toArray t (0, 0))) (cs : List Value) (hn : cs.length = Nat.min sLen dLen * size)
    (hsrc : ∀ j v, cs[j]? = some v → w.cell? (ad.add j) = some v) (hfit : off + cs.length ≤ cur.length) (h1 : ∀ v ∈ cs, v.oneCell' = true)
    (h : ∀ (n : Int) (w' : World), Hid (w'.heap[g]? = some (.cells (splice cur off cs).toArray t (0, 0))) → w.grownBy w' (some g) → K (a.put o.dst (goInt n)) w') :
    if Region.wanted o (yielded ops a.tmps) = true then Oper.wp P o a w K Q else E := by
  obtain ⟨n, w', hr, h2, h3⟩ := run_copy_spliceS (P := P) w dT sT o.type elem size g off dLen dCap ad sLen sCap cur t cs hu hsz hg hn hsrc hfit h1
  have hw : Region.wanted o (yielded ops a.tmps) = true := by simp [Region.wanted, hgd]
  rw [if_pos hw]
  unfold Oper.wp
  simp [execOp, ho, resolve, invoke, builtin, hd, hs, hr, Result.andThen]
  exact h n w' h2 h3
end
end Go.Proofs.YtjgloipgnnigmaaGreatDoor
/- Layer 8's Groups alone (as in CutGr08). -/
namespace Go.Proofs.YtjgloipgnnigmaaGreatDoor
open Go.RowKit Go.Shelf Go.Sort

theorem box24t (w : World) (a b a' b' c' d' : Value) (t t' : TypeId) : ∃ W : World, (w.alloc (.cells #[a, b] t)).alloc (.cells #[a', b', c', d'] t') = W ∧ Below w.heap.size w W ∧ W.cell? ⟨w.heap.size, 0, none⟩ = some a ∧ W.cell? ⟨w.heap.size, 1, none⟩ = some b ∧ W.cell? ⟨w.heap.size + 1, 0, none⟩ = some a' ∧ W.cell? ⟨w.heap.size + 1, 1, none⟩ = some b' ∧ W.cell? ⟨w.heap.size + 1, 2, none⟩ = some c' ∧ W.cell? ⟨w.heap.size + 1, 3, none⟩ = some d' :=
  ⟨_, rfl, below2 _ _ _, by simp, by simp, by simp, by simp, by simp, by simp⟩
theorem formed_six {t : Tx} (h : formedT t = true) : t.rds.length ≤ 6 ∧ t.wrs.length ≤ 6 := by
  simp only [formedT, Bool.and_eq_true, decide_eq_true_eq] at h
  exact ⟨h.1.1.1.1.1.2, h.1.1.1.1.2⟩
set_option maxRecDepth 100000 in
set_option maxHeartbeats 4000000 in
theorem txGroups_any (c : Cfg) (t : Tx) (A B A' B' : Option Addr) (ca cb ca' cb' : Nat) (w : World) (h : CfgAt w c A B) (ht : TxAt w t A' B') (hT : Tabs w) :
    Calls Tryz.prog 86 #[.agg #[.slice A c.reps.length ca, .slice B c.bnds.length cb], txV t A' B' ca' cb'] w (IntsPost w (groupsT c t)) := by
  unfold txV
  obtain ⟨W, eW, HB, c0, c1, d0, d1, d2, d3⟩ := box24t w (.slice A c.reps.length ca) (.slice B c.bnds.length cb) (.int .i64 t.ses) (.int .i64 t.seq) (.slice A' t.rds.length ca') (.slice B' t.wrs.length cb') 25 37
  have h := h.later HB
  have ht := ht.later HB
  have hT := hT.later HB
  cases hf : formedT t
  · have HE : Hid (groupsT c t = []) := by show _ = _; simp [groupsT, hf]
    go_enter Tryz.func86, Tryz.ntmps86
    go_wp2_with (go_at_call 97; refine (calls_bool hf (txFormed_any t _ _ _ _ _ ht hT)).mono ?_; rintro e w1 ⟨rfl, hb⟩; replace HB := keepB HB hb)
    go_ret
    rw [HE.out]
    exact ⟨none, 0, rfl, fun i hi => by simp at hi, HB⟩
  · have HE : Hid (groupsT c t = groupsL c (rKeys t ++ wKeys t)) := by show _ = _; simp [groupsT, hf]
    obtain ⟨hn, hm⟩ := formed_six hf
    have hlen : (rKeys t ++ wKeys t).length ≤ 1000 := by rw [List.length_append]; simp only [rKeys, wKeys, List.length_map]; omega
    go_enter Tryz.func86, Tryz.ntmps86
    go_wp2_with (go_at_call 97; refine (calls_bool hf (txFormed_any t _ _ _ _ _ ht hT)).mono ?_; rintro e w1 ⟨rfl, hb⟩; replace HB := keepB HB hb; replace h := h.later hb; replace ht := ht.later hb; replace c0 := keep hb c0; replace c1 := keep hb c1; replace d0 := keep hb d0; replace d1 := keep hb d1; replace d2 := keep hb d2; replace d3 := keep hb d3; clear hb)
    clear eW hf
    obtain ⟨wb, rfl⟩ : ∃ wb : World, wb = w1 := ⟨_, rfl⟩
    generalize hKK : rKeys t ++ wKeys t = KK at *
    have hKeys : ∀ w, TxAt w t A' B' → Calls Tryz.prog 136 #[.agg #[.int .i64 t.ses, .int .i64 t.seq, .slice A' t.rds.length ca', .slice B' t.wrs.length cb']] w (StrsPost w KK) := fun w hw => by rw [← hKK]; exact keys_any t A' B' ca' cb' w hw hn hm
    clear hKK
    go_region_held3 (fun w' => w'.cell? ⟨w.heap.size, 0, none⟩ = some (.slice A c.reps.length ca) ∧ w'.cell? ⟨w.heap.size, 1, none⟩ = some (.slice B c.bnds.length cb) ∧ w'.cell? ⟨w.heap.size + 1, 0, none⟩ = some (.int .i64 t.ses) ∧ w'.cell? ⟨w.heap.size + 1, 1, none⟩ = some (.int .i64 t.seq) ∧ w'.cell? ⟨w.heap.size + 1, 2, none⟩ = some (.slice A' t.rds.length ca') ∧ w'.cell? ⟨w.heap.size + 1, 3, none⟩ = some (.slice B' t.wrs.length cb') ∧ Below wb.heap.size wb w')
      (first | exact ⟨c0, c1, d0, d1, d2, d3, below_drew (Below.refl _ _)⟩ | exact ⟨keep hb2 c0, keep hb2 c1, keep hb2 d0, keep hb2 d1, keep hb2 d2, keep hb2 d3, hb2⟩ | exact ⟨keep hb3 c0, keep hb3 c1, keep hb3 d0, keep hb3 d1, keep hb3 d2, keep hb3 d3, hb3⟩)
      (first
        | (go_at_call 136; refine (hKeys _ (ht.later (below_drew (Below.refl _ _)))).mono ?_; rintro e w2 ⟨K, ck, rfl, _, hK, hb⟩; have hb2 : Below wb.heap.size wb w2 := keepB (below_drew (Below.refl _ _)) hb)
        | (go_at_call 44; refine (groups_any c KK A B K ca cb ck _ (h.later hb2) hK hlen).mono ?_; rintro e w3 ⟨I, ci, rfl, hI, hb'⟩; have hb3 := keepB hb2 hb'))
    all_goals
      go_wp2
      go_ret
      rw [HE.out]
      exact ⟨I, ci, rfl, hI, keepB HB hb3⟩

end Go.Proofs.YtjgloipgnnigmaaGreatDoor
