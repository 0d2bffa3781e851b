/- Layer 8's Same, and the reference's: both tell sameT of every two transactions. -/
import Derived.Test.YtjgloipgnnigmaaGreatDoorTxF08
import Derived.Laws.StructEq
import Derived.Test.YtjgloipgnnigmaaGreatDoorJ5
import Derived.Test.YtjgloipgnnigmaaGreatDoorJ4
import Derived.IntWalk
set_option linter.unusedVariables false
set_option linter.unusedSimpArgs false
namespace Go.Proofs.YtjgloipgnnigmaaGreatDoor
open Go.RowKit

def rdEq (x y : Rd) : Bool := x.key.toList == y.key.toList && (x.ver : Int) == (y.ver : Int)
def wrEq (x y : Wr) : Bool := x.key.toList == y.key.toList && x.val.kind == y.val.kind && (x.val.bits : Int) == (y.val.bits : Int) && x.val.text.toList == y.val.text.toList
def rdsTo (l m : List Rd) : Nat → Bool
  | 0 => true
  | k + 1 => rdsTo l m k && rdEq (l.getD k noRd) (m.getD k noRd)
def wrsTo (l m : List Wr) : Nat → Bool
  | 0 => true
  | k + 1 => wrsTo l m k && wrEq (l.getD k noWr) (m.getD k noWr)
def rdsEq (l m : List Rd) : Bool := decide (l.length = m.length) && rdsTo l m l.length
def wrsEq (l m : List Wr) : Bool := decide (l.length = m.length) && wrsTo l m l.length
def idEqB (a b c d : Int) : Bool := a == c && b == d
def sameT (a b : Tx) : Bool := idEqB a.ses a.seq b.ses b.seq && rdsEq a.rds b.rds && wrsEq a.wrs b.wrs

theorem rdsTo_false {l m : List Rd} {k n : Nat} (hk : k < n) (h : rdEq (l.getD k noRd) (m.getD k noRd) = false) : rdsTo l m n = false := by
  induction n with
  | zero => omega
  | succ n ih =>
    by_cases e : k = n
    · subst e; simp only [rdsTo, h, Bool.and_false]
    · simp [rdsTo, ih (by omega)]
theorem wrsTo_false {l m : List Wr} {k n : Nat} (hk : k < n) (h : wrEq (l.getD k noWr) (m.getD k noWr) = false) : wrsTo l m n = false := by
  induction n with
  | zero => omega
  | succ n ih =>
    by_cases e : k = n
    · subst e; simp only [wrsTo, h, Bool.and_false]
    · simp [wrsTo, ih (by omega)]

theorem eqlId (a b c d : Int) (w : World) : (binOp .eql 33 (.agg #[.int .i64 a, .int .i64 b]) (.agg #[.int .i64 c, .int .i64 d])).run Tryz.prog w = .ok (.bool (idEqB a b c d)) w := by
  unfold idEqB
  simp [go_sem]
  by_cases h1 : a = c <;> by_cases h2 : b = d <;> simp [h1, h2]
theorem neqId (a b c d : Int) (w : World) : (binOp .neq 33 (.agg #[.int .i64 a, .int .i64 b]) (.agg #[.int .i64 c, .int .i64 d])).run Tryz.prog w = .ok (.bool (!idEqB a b c d)) w := by
  unfold idEqB
  simp [go_sem]
  by_cases h1 : a = c <;> by_cases h2 : b = d <;> simp [h1, h2]
theorem neqRd (s t : ByteArray) (m n : Nat) (w : World) : (binOp .neq 75 (.agg #[.string s, .int .u64 m]) (.agg #[.string t, .int .u64 n])).run Tryz.prog w = .ok (.bool (!rdEq ⟨s, m⟩ ⟨t, n⟩)) w := by
  unfold rdEq
  simp [go_sem]
  by_cases h1 : s.toList = t.toList <;> by_cases h2 : (m : Int) = (n : Int) <;> simp [h1, h2]
theorem neqWr (s t : ByteArray) (k j : Int) (m n : Nat) (x y : ByteArray) (w : World) : (binOp .neq 112 (.agg #[.string s, .int .i64 k, .int .u64 m, .string x]) (.agg #[.string t, .int .i64 j, .int .u64 n, .string y])).run Tryz.prog w = .ok (.bool (!wrEq ⟨s, ⟨k, m, x⟩⟩ ⟨t, ⟨j, n, y⟩⟩)) w := by
  unfold wrEq
  simp [go_sem]
  by_cases h1 : s.toList = t.toList <;> by_cases h2 : k = j <;> by_cases h3 : (m : Int) = (n : Int) <;> by_cases h4 : x.toList = y.toList <;> simp [h1, h2, h3, h4]

set_option maxRecDepth 100000 in
set_option maxHeartbeats 1000000 in
theorem rds_len (l m : List Rd) (nn : Nat) (hl : Hid (l.length = nn)) (hm : Hid (m.length = nn)) (A B : Option Addr) (ca cb : Nat) (w : World) (hA : RdsAt w A l) (hB : RdsAt w B m) (hn : nn ≤ 9223372036854775807) :
    Calls Tryz.prog 178 #[.slice A nn ca, .slice B nn cb] w fun e w' => e = .returned (.bool (rdsTo l m nn)) ∧ Below w.heap.size w w' := by
  go_enter Tryz.func178, Tryz.ntmps178
  go_wp2
  go_loopw [13] (fun i wr => ∃ k : Nat, k ≤ nn ∧ i = .int .i64 k ∧ Hid (rdsTo l m k = true) ∧ Below w.heap.size w wr) (fun i _ => nn - (intOf i).toNat)
  case atStart => exact ⟨0, Nat.zero_le _, rfl, rfl, Below.refl _ _⟩
  case round =>
    obtain ⟨k, hk, rfl, HA, hw⟩ := hrel
    by_cases hlt : k < nn
    · obtain ⟨b, off, s, n, rfl, d0, d1, HX⟩ := (hA.later hw).at' (k := k) (by rw [hl.out]; exact hlt)
      obtain ⟨b', off', s', n', rfl, e0, e1, HY⟩ := (hB.later hw).at' (k := k) (by rw [hm.out]; exact hlt)
      have hki : (k : Int) < nn := by omega
      have hx : ∀ w, (binOp .neq 75 (.agg #[.string s, .int .u64 n]) (.agg #[.string s', .int .u64 n'])).run Tryz.prog w = .ok (.bool (!rdEq ⟨s, n⟩ ⟨s', n'⟩)) w := neqRd s s' n n'
      cases hq : rdEq ⟨s, n⟩ ⟨s', n'⟩
      · have HF : Hid (rdsTo l m nn = false) := rdsTo_false hlt (by rw [HX.out, HY.out]; exact hq)
        rw [hq] at hx
        clear hq
        go_wp2
        go_quiet (fail)
        go_wp2
        go_ret
        exact ⟨ret_bool HF.out, below_drewN hw _⟩
      · have HR : Hid (rdsTo l m (k + 1) = true) := by show _ = _; rw [rdsTo, HA.out, HX.out, HY.out, hq]; rfl
        rw [hq] at hx
        clear hq
        go_wp2
        go_quiet (fail)
        go_wp2
        go_roundw
        case rel => exact ⟨k + 1, by omega, by go_num, HR, below_drewN hw _⟩
        case measure => simp [intOf]; omega
    · have ek : k = nn := by omega
      have HF : Hid (rdsTo l m nn = true) := by show _ = _; rw [← ek]; exact HA.out
      clear ek
      go_wp2
      go_ret
      exact ⟨ret_bool HF.out, hw⟩
set_option maxRecDepth 100000 in
theorem rds_any (l m : List Rd) (A B : Option Addr) (ca cb : Nat) (w : World) (hA : RdsAt w A l) (hB : RdsAt w B m) (hn : l.length ≤ 9223372036854775807) :
    Calls Tryz.prog 178 #[.slice A l.length ca, .slice B m.length cb] w fun e w' => e = .returned (.bool (rdsEq l m)) ∧ Below w.heap.size w w' := by
  by_cases h : l.length = m.length
  · have := rds_len l m l.length rfl h.symm A B ca cb w hA hB hn
    rw [show rdsEq l m = rdsTo l m l.length by simp [rdsEq, h], ← h]
    exact this
  · have HF : Hid (rdsEq l m = false) := by show _ = _; simp [rdsEq, h]
    have h' : ¬ (l.length : Int) = (m.length : Int) := by omega
    clear h
    go_enter Tryz.func178, Tryz.ntmps178
    go_wp2
    go_ret
    exact ⟨ret_bool HF.out, Below.refl _ _⟩

set_option maxRecDepth 100000 in
set_option maxHeartbeats 1000000 in
theorem wrs_len (l m : List Wr) (nn : Nat) (hl : Hid (l.length = nn)) (hm : Hid (m.length = nn)) (A B : Option Addr) (ca cb : Nat) (w : World) (hA : WrsAt w A l) (hB : WrsAt w B m) (hn : nn ≤ 9223372036854775807) :
    Calls Tryz.prog 179 #[.slice A nn ca, .slice B nn cb] w fun e w' => e = .returned (.bool (wrsTo l m nn)) ∧ Below w.heap.size w w' := by
  go_enter Tryz.func179, Tryz.ntmps179
  go_wp2
  go_loopw [13] (fun i wr => ∃ k : Nat, k ≤ nn ∧ i = .int .i64 k ∧ Hid (wrsTo l m k = true) ∧ Below w.heap.size w wr) (fun i _ => nn - (intOf i).toNat)
  case atStart => exact ⟨0, Nat.zero_le _, rfl, rfl, Below.refl _ _⟩
  case round =>
    obtain ⟨k, hk, rfl, HA, hw⟩ := hrel
    by_cases hlt : k < nn
    · obtain ⟨b, off, s, z, n, x, rfl, d0, d1, d2, d3, HX⟩ := (hA.later hw).at' (k := k) (by rw [hl.out]; exact hlt)
      obtain ⟨b', off', s', z', n', x', rfl, e0, e1, e2, e3, HY⟩ := (hB.later hw).at' (k := k) (by rw [hm.out]; exact hlt)
      have hki : (k : Int) < nn := by omega
      have hx : ∀ w, (binOp .neq 112 (.agg #[.string s, .int .i64 z, .int .u64 n, .string x]) (.agg #[.string s', .int .i64 z', .int .u64 n', .string x'])).run Tryz.prog w = .ok (.bool (!wrEq ⟨s, ⟨z, n, x⟩⟩ ⟨s', ⟨z', n', x'⟩⟩)) w := neqWr s s' z z' n n' x x'
      cases hq : wrEq ⟨s, ⟨z, n, x⟩⟩ ⟨s', ⟨z', n', x'⟩⟩
      · have HF : Hid (wrsTo l m nn = false) := wrsTo_false hlt (by rw [HX.out, HY.out]; exact hq)
        rw [hq] at hx
        clear hq
        go_wp2
        go_quiet (fail)
        go_wp2
        go_ret
        exact ⟨ret_bool HF.out, below_drewN hw _⟩
      · have HR : Hid (wrsTo l m (k + 1) = true) := by show _ = _; rw [wrsTo, HA.out, HX.out, HY.out, hq]; rfl
        rw [hq] at hx
        clear hq
        go_wp2
        go_quiet (fail)
        go_wp2
        go_roundw
        case rel => exact ⟨k + 1, by omega, by go_num, HR, below_drewN hw _⟩
        case measure => simp [intOf]; omega
    · have ek : k = nn := by omega
      have HF : Hid (wrsTo l m nn = true) := by show _ = _; rw [← ek]; exact HA.out
      clear ek
      go_wp2
      go_ret
      exact ⟨ret_bool HF.out, hw⟩
set_option maxRecDepth 100000 in
theorem wrs_any (l m : List Wr) (A B : Option Addr) (ca cb : Nat) (w : World) (hA : WrsAt w A l) (hB : WrsAt w B m) (hn : l.length ≤ 9223372036854775807) :
    Calls Tryz.prog 179 #[.slice A l.length ca, .slice B m.length cb] w fun e w' => e = .returned (.bool (wrsEq l m)) ∧ Below w.heap.size w w' := by
  by_cases h : l.length = m.length
  · have := wrs_len l m l.length rfl h.symm A B ca cb w hA hB hn
    rw [show wrsEq l m = wrsTo l m l.length by simp [wrsEq, h], ← h]
    exact this
  · have HF : Hid (wrsEq l m = false) := by show _ = _; simp [wrsEq, h]
    have h' : ¬ (l.length : Int) = (m.length : Int) := by omega
    clear h
    go_enter Tryz.func179, Tryz.ntmps179
    go_wp2
    go_ret
    exact ⟨ret_bool HF.out, Below.refl _ _⟩

theorem box44 (w : World) (a b c d a' b' c' d' : Value) (t : TypeId) : ∃ W : World, (w.alloc (.cells #[a, b, c, d] t)).alloc (.cells #[a', b', c', d'] t) = W ∧ Below w.heap.size w W ∧ W.cell? ⟨w.heap.size, 0, none⟩ = some a ∧ W.cell? ⟨w.heap.size, 1, none⟩ = some b ∧ W.cell? ⟨w.heap.size, 2, none⟩ = some c ∧ W.cell? ⟨w.heap.size, 3, none⟩ = some d ∧ W.cell? ⟨w.heap.size + 1, 0, none⟩ = some a' ∧ W.cell? ⟨w.heap.size + 1, 1, none⟩ = some b' ∧ W.cell? ⟨w.heap.size + 1, 2, none⟩ = some c' ∧ W.cell? ⟨w.heap.size + 1, 3, none⟩ = some d' :=
  ⟨_, rfl, below2 _ _ _, by simp [go_sem], by simp [go_sem], by simp [go_sem], by simp [go_sem], by simp [go_sem], by simp [go_sem], by simp [go_sem], by simp [go_sem]⟩
set_option maxRecDepth 100000 in
set_option maxHeartbeats 2000000 in
theorem txSame_any (a b : Tx) (A B A' B' : Option Addr) (ca cb ca' cb' : Nat) (w : World) (ha : TxAt w a A B) (hb' : TxAt w b A' B') :
    Calls Tryz.prog 139 #[txV a A B ca cb, txV b A' B' ca' cb'] w fun e w' => e = .returned (.bool (sameT a b)) ∧ Below w.heap.size w w' := by
  unfold txV
  obtain ⟨W, eW, HB, c0, c1, c2, c3, e0, e1, e2, e3⟩ := box44 w (.int .i64 a.ses) (.int .i64 a.seq) (.slice A a.rds.length ca) (.slice B a.wrs.length cb) (.int .i64 b.ses) (.int .i64 b.seq) (.slice A' b.rds.length ca') (.slice B' b.wrs.length cb') 37
  have ha := ha.later HB
  have hb' := hb'.later HB
  have hrn := ha.rn
  have hwn := ha.wn
  have hrn' := hb'.rn
  have hwn' := hb'.wn
  have hx := eqlId a.ses a.seq b.ses b.seq
  cases hid : idEqB a.ses a.seq b.ses b.seq
  · have HF : Hid (sameT a b = false) := by show _ = _; rw [sameT, hid]; rfl
    rw [hid] at hx
    clear hid
    go_enter Tryz.func139, Tryz.ntmps139
    go_wp2
    go_ret
    exact ⟨ret_bool HF.out, HB⟩
  · have HF : Hid (sameT a b = (rdsEq a.rds b.rds && wrsEq a.wrs b.wrs)) := by show _ = _; rw [sameT, hid]; rfl
    rw [hid] at hx
    clear hid
    obtain ⟨r1, hr1⟩ : ∃ r, Hid (rdsEq a.rds b.rds = r) := ⟨_, rfl⟩
    obtain ⟨r2, hr2⟩ : ∃ r, Hid (wrsEq a.wrs b.wrs = r) := ⟨_, rfl⟩
    replace HF := Lib.hid HF.out
    rw [hr1.out, hr2.out] at HF
    cases r1
    all_goals
      go_enter Tryz.func139, Tryz.ntmps139
      go_wp2_with (first
        | (go_at_call 178; refine (calls_bool hr1.out (rds_any _ _ _ _ _ _ _ ha.rds hb'.rds hrn)).mono ?_; rintro e w1 ⟨rfl, hb⟩; replace c2 := keep hb c2; replace c3 := keep hb c3; replace e2 := keep hb e2; replace e3 := keep hb e3; replace ha := ha.later hb; replace hb' := hb'.later hb; replace HB := keepB HB hb; clear hb)
        | (go_at_call 179; refine (calls_bool hr2.out (wrs_any _ _ _ _ _ _ _ ha.wrs hb'.wrs hwn)).mono ?_; rintro e w1 ⟨rfl, hb⟩; replace c2 := keep hb c2; replace c3 := keep hb c3; replace e2 := keep hb e2; replace e3 := keep hb e3; replace ha := ha.later hb; replace hb' := hb'.later hb; replace HB := keepB HB hb; clear hb))
      go_ret
      exact ⟨ret_bool (by rw [HF.out]; simp), HB⟩
set_option maxRecDepth 100000 in
set_option maxHeartbeats 2000000 in
theorem refTxSame_any (a b : Tx) (A B A' B' : Option Addr) (ca cb ca' cb' : Nat) (w : World) (ha : TxAt w a A B) (hb' : TxAt w b A' B') :
    Calls Tryz.prog 125 #[txV a A B ca cb, txV b A' B' ca' cb'] w fun e w' => e = .returned (.bool (sameT a b)) ∧ Below w.heap.size w w' := by
  unfold txV
  obtain ⟨W, eW, HB, c0, c1, c2, c3, e0, e1, e2, e3⟩ := box44 w (.int .i64 a.ses) (.int .i64 a.seq) (.slice A a.rds.length ca) (.slice B a.wrs.length cb) (.int .i64 b.ses) (.int .i64 b.seq) (.slice A' b.rds.length ca') (.slice B' b.wrs.length cb') 37
  have ha := ha.later HB
  have hb' := hb'.later HB
  have hrn := ha.rn
  have hwn := ha.wn
  have hrn' := hb'.rn
  have hwn' := hb'.wn
  have hx := neqId a.ses a.seq b.ses b.seq
  cases hid : idEqB a.ses a.seq b.ses b.seq
  · have HF : Hid (sameT a b = false) := by show _ = _; rw [sameT, hid]; rfl
    rw [hid] at hx
    clear hid
    go_enter Tryz.func125, Tryz.ntmps125
    go_wp2
    go_ret
    exact ⟨ret_bool HF.out, HB⟩
  · rw [hid] at hx
    by_cases hlr : a.rds.length = b.rds.length
    · by_cases hlw : a.wrs.length = b.wrs.length
      · have HS : Hid (sameT a b = (rdsTo a.rds b.rds a.rds.length && wrsTo a.wrs b.wrs a.wrs.length)) := by
          show _ = _
          rw [sameT, hid, rdsEq, wrsEq, decide_eq_true hlr, decide_eq_true hlw]
          simp
        have q0 : ((a.rds.length : Int) != (b.rds.length : Int)) = false := by simp; omega
        have q1 : ((a.wrs.length : Int) != (b.wrs.length : Int)) = false := by simp; omega
        replace hlr := Lib.hid hlr
        replace hlw := Lib.hid hlw
        clear hid
        go_enter Tryz.func125, Tryz.ntmps125
        go_wp2
        clear eW hx q0 q1
        go_loopw [5] (fun i wr => ∃ k : Nat, k ≤ a.rds.length ∧ i = .int .i64 k ∧ Hid (rdsTo a.rds b.rds k = true) ∧ Below W.heap.size W wr) (fun i _ => a.rds.length - (intOf i).toNat)
        case atStart => exact ⟨0, Nat.zero_le _, rfl, rfl, Below.refl _ _⟩
        case round =>
          obtain ⟨k, hk, rfl, HA, hw⟩ := hrel
          have hB := keepB HB hw
          replace c2 := keep hw c2
          replace c3 := keep hw c3
          replace e2 := keep hw e2
          replace e3 := keep hw e3
          by_cases hlt : k < a.rds.length
          · have hlt' : k < b.rds.length := by rw [← hlr.out]; exact hlt
            obtain ⟨p, off, s, n, rfl, d0, d1, HX⟩ := (ha.later hw).rds.at' (k := k) hlt
            obtain ⟨p', off', s', n', rfl, f0, f1, HY⟩ := (hb'.later hw).rds.at' (k := k) hlt'
            have hki : (k : Int) < a.rds.length := by omega
            have hki' : (k : Int) < b.rds.length := by omega
            have hx : ∀ w, (binOp .neq 75 (.agg #[.string s, .int .u64 n]) (.agg #[.string s', .int .u64 n'])).run Tryz.prog w = .ok (.bool (!rdEq ⟨s, n⟩ ⟨s', n'⟩)) w := neqRd s s' n n'
            cases hq : rdEq ⟨s, n⟩ ⟨s', n'⟩
            · have HF : Hid (sameT a b = false) := by show _ = _; rw [HS.out, rdsTo_false (k := k) (by omega) (by rw [HX.out, HY.out]; exact hq)]; simp
              rw [hq] at hx
              clear hq
              go_wp2
              go_quiet (fail)
              go_wp2
              go_ret
              exact ⟨ret_bool HF.out, below_drewN hB _⟩
            · have HR : Hid (rdsTo a.rds b.rds (k + 1) = true) := by show _ = _; rw [rdsTo, HA.out, HX.out, HY.out, hq]; rfl
              rw [hq] at hx
              clear hq
              go_wp2
              go_quiet (fail)
              go_wp2
              go_roundw
              case rel => exact ⟨k + 1, by omega, by go_num, HR, below_drewN hw _⟩
              case measure => simp [intOf]; omega
          · have ek : k = a.rds.length := by omega
            have HR : Hid (rdsTo a.rds b.rds a.rds.length = true) := by show _ = _; rw [← ek]; exact HA.out
            clear ek HA
            go_wp2_with fail
            obtain ⟨wa, rfl⟩ : ∃ wa : World, wa = wr := ⟨_, rfl⟩
            have HR1 := Lib.hid HR.out
            clear HR
            replace ha := ha.later hw
            replace hb' := hb'.later hw
            replace HB := keepB HB hw
            clear hw hB
            go_loopw [6] (fun i wr => ∃ k : Nat, k ≤ a.wrs.length ∧ i = .int .i64 k ∧ Hid (wrsTo a.wrs b.wrs k = true) ∧ Below wa.heap.size wa wr) (fun i _ => a.wrs.length - (intOf i).toNat)
            case atStart => exact ⟨0, Nat.zero_le _, rfl, rfl, Below.refl _ _⟩
            case round =>
              obtain ⟨k, hk, rfl, HA, hw⟩ := hrel
              have hB := keepB HB hw
              replace c2 := keep hw c2
              replace c3 := keep hw c3
              replace e2 := keep hw e2
              replace e3 := keep hw e3
              by_cases hlt : k < a.wrs.length
              · have hlt' : k < b.wrs.length := by rw [← hlw.out]; exact hlt
                obtain ⟨p, off, s, z, n, x, rfl, d0, d1, d2, d3, HX⟩ := (ha.later hw).wrs.at' (k := k) hlt
                obtain ⟨p', off', s', z', n', x', rfl, f0, f1, f2, f3, HY⟩ := (hb'.later hw).wrs.at' (k := k) hlt'
                have hki : (k : Int) < a.wrs.length := by omega
                have hki' : (k : Int) < b.wrs.length := by omega
                have hx : ∀ w, (binOp .neq 112 (.agg #[.string s, .int .i64 z, .int .u64 n, .string x]) (.agg #[.string s', .int .i64 z', .int .u64 n', .string x'])).run Tryz.prog w = .ok (.bool (!wrEq ⟨s, ⟨z, n, x⟩⟩ ⟨s', ⟨z', n', x'⟩⟩)) w := neqWr s s' z z' n n' x x'
                cases hq : wrEq ⟨s, ⟨z, n, x⟩⟩ ⟨s', ⟨z', n', x'⟩⟩
                · have HF : Hid (sameT a b = false) := by show _ = _; rw [HS.out, wrsTo_false (k := k) (by omega) (by rw [HX.out, HY.out]; exact hq)]; simp
                  rw [hq] at hx
                  clear hq
                  go_wp2
                  go_quiet (fail)
                  go_wp2
                  go_ret
                  exact ⟨ret_bool HF.out, below_drewN hB _⟩
                · have HR : Hid (wrsTo a.wrs b.wrs (k + 1) = true) := by show _ = _; rw [wrsTo, HA.out, HX.out, HY.out, hq]; rfl
                  rw [hq] at hx
                  clear hq
                  go_wp2
                  go_quiet (fail)
                  go_wp2
                  go_roundw
                  case rel => exact ⟨k + 1, by omega, by go_num, HR, below_drewN hw _⟩
                  case measure => simp [intOf]; omega
              · have ek : k = a.wrs.length := by omega
                have HR : Hid (wrsTo a.wrs b.wrs a.wrs.length = true) := by show _ = _; rw [← ek]; exact HA.out
                clear ek HA
                have HF : Hid (sameT a b = true) := by show _ = _; rw [HS.out, HR1.out, HR.out]; rfl
                go_wp2
                go_ret
                exact ⟨ret_bool HF.out, hB⟩
      · have HF : Hid (sameT a b = false) := by show _ = _; rw [sameT, wrsEq, decide_eq_false hlw]; simp
        have q1 : ((a.wrs.length : Int) != (b.wrs.length : Int)) = true := by simp; omega
        have q0 : ((a.rds.length : Int) != (b.rds.length : Int)) = false := by simp; omega
        clear hid hlw hlr
        go_enter Tryz.func125, Tryz.ntmps125
        go_wp2
        go_ret
        exact ⟨ret_bool HF.out, HB⟩
    · have HF : Hid (sameT a b = false) := by show _ = _; rw [sameT, rdsEq, decide_eq_false hlr]; simp
      have q0 : ((a.rds.length : Int) != (b.rds.length : Int)) = true := by simp; omega
      clear hid hlr
      go_enter Tryz.func125, Tryz.ntmps125
      go_wp2
      go_ret
      exact ⟨ret_bool HF.out, HB⟩
end Go.Proofs.YtjgloipgnnigmaaGreatDoor
/- Layer 8's Few, and awake: whether a transaction is looked at; what the program must answer. -/
namespace Go.Proofs.YtjgloipgnnigmaaGreatDoor
open Go.RowKit Go.Shelf

theorem all_bad {α : Type} {l : List α} {d : α} {p : α → Bool} {k : Nat} {x : α} (hk : k < l.length) (h : l.getD k d = x) (hx : p x = false) : l.all p = false := by
  rw [List.getD_eq_getElem?_getD, List.getElem?_eq_getElem hk] at h
  simp only [Option.getD_some] at h
  rw [List.all_eq_false]
  exact ⟨l[k], List.getElem_mem hk, by rw [h, hx]; simp⟩
theorem all_next {α : Type} {l : List α} {d : α} {p : α → Bool} {k : Nat} {x : α} (hk : k < l.length) (h : l.getD k d = x) (hx : p x = true) (ha : (l.take k).all p = true) : (l.take (k + 1)).all p = true := by
  rw [List.getD_eq_getElem?_getD, List.getElem?_eq_getElem hk] at h
  simp only [Option.getD_some] at h
  rw [List.take_succ_eq_append_getElem hk, List.all_append, ha, h]
  simp [hx]
def rdFew (x : Rd) : Bool := decide (x.key.size ≤ 1000)
def wrFew (x : Wr) : Bool := decide (x.key.size ≤ 1000) && decide (x.val.text.size ≤ 1000)
def fewT (t : Tx) : Bool := decide (t.rds.length ≤ 12) && decide (t.wrs.length ≤ 12) && t.rds.all rdFew && t.wrs.all wrFew

set_option maxRecDepth 100000 in
set_option maxHeartbeats 2000000 in
theorem few08_any (t : Tx) (A B : Option Addr) (ca cb : Nat) (w : World) (h : TxAt w t A B) :
    Calls Tryz.prog 77 #[txV t A B ca cb] w fun e w' => e = .returned (.bool (fewT t)) ∧ Below w.heap.size w w' := by
  unfold txV
  obtain ⟨W, eW, HB, c0, c1, c2, c3⟩ := box4 w (.int .i64 t.ses) (.int .i64 t.seq) (.slice A t.rds.length ca) (.slice B t.wrs.length cb) 37
  have h := h.later HB
  have hrn := h.rn
  have hwn := h.wn
  by_cases hn : t.rds.length ≤ 12
  · by_cases hm : t.wrs.length ≤ 12
    · have q0 : decide ((12 : Int) < (t.rds.length : Int)) = false := by rw [decide_eq_false_iff_not]; omega
      have q1 : decide ((12 : Int) < (t.wrs.length : Int)) = false := by rw [decide_eq_false_iff_not]; omega
      replace hn := Lib.hid hn
      replace hm := Lib.hid hm
      go_enter Tryz.func77, Tryz.ntmps77
      go_wp2_with fail
      clear eW q0 q1
      go_loopw [3] (fun i wr => ∃ k : Nat, k ≤ t.rds.length ∧ i = .int .i64 k ∧ Hid ((t.rds.take k).all rdFew = true) ∧ Below W.heap.size W wr) (fun i _ => t.rds.length - (intOf i).toNat)
      case atStart => exact ⟨0, Nat.zero_le _, rfl, rfl, Below.refl _ _⟩
      case round =>
        obtain ⟨k, hk, rfl, HA, hw⟩ := hrel
        have hB := keepB HB hw
        replace c2 := keep hw c2
        replace c3 := keep hw c3
        by_cases hlt : k < t.rds.length
        · obtain ⟨p, off, s, n, rfl, d0, d1, HX⟩ := (h.later hw).rds.at' (k := k) hlt
          have hki : (k : Int) < t.rds.length := by omega
          by_cases hb : 1000 < s.size
          · have HF : Hid (fewT t = false) := by show _ = _; rw [fewT, all_bad hlt HX.out (by simp [rdFew]; omega)]; simp
            go_wp2
            go_ret
            exact ⟨ret_bool HF.out, hB⟩
          · have HR : Hid ((t.rds.take (k + 1)).all rdFew = true) := all_next hlt HX.out (by simp [rdFew]; omega) HA.out
            go_wp2
            go_roundw
            case rel => exact ⟨k + 1, by omega, by go_num, HR, hw⟩
            case measure => simp [intOf]; omega
        · have ek : k = t.rds.length := by omega
          have HR : Hid (t.rds.all rdFew = true) := by show _ = _; have := HA.out; rw [ek, List.take_length] at this; exact this
          clear ek HA
          go_wp2_with fail
          obtain ⟨wa, rfl⟩ : ∃ wa : World, wa = wr := ⟨_, rfl⟩
          have HR1 := Lib.hid HR.out
          clear HR
          replace h := h.later hw
          replace HB := keepB HB hw
          clear hw hB
          go_loopw [4] (fun i wr => ∃ k : Nat, k ≤ t.wrs.length ∧ i = .int .i64 k ∧ Hid ((t.wrs.take k).all wrFew = true) ∧ Below wa.heap.size wa wr) (fun i _ => t.wrs.length - (intOf i).toNat)
          case atStart => exact ⟨0, Nat.zero_le _, rfl, rfl, Below.refl _ _⟩
          case round =>
            obtain ⟨k, hk, rfl, HA, hw⟩ := hrel
            have hB := keepB HB hw
            replace c2 := keep hw c2
            replace c3 := keep hw c3
            by_cases hlt : k < t.wrs.length
            · obtain ⟨p, off, s, z, n, x, rfl, d0, d1, d2, d3, HX⟩ := (h.later hw).wrs.at' (k := k) hlt
              have hki : (k : Int) < t.wrs.length := by omega
              by_cases hb : 1000 < s.size
              · have HF : Hid (fewT t = false) := by show _ = _; rw [fewT, all_bad hlt HX.out (by simp [wrFew]; omega)]; simp
                go_wp2
                go_ret
                exact ⟨ret_bool HF.out, hB⟩
              · by_cases hb2 : 1000 < x.size
                · have HF : Hid (fewT t = false) := by show _ = _; rw [fewT, all_bad hlt HX.out (by simp [wrFew]; omega)]; simp
                  go_wp2
                  go_ret
                  exact ⟨ret_bool HF.out, hB⟩
                · have HR : Hid ((t.wrs.take (k + 1)).all wrFew = true) := all_next hlt HX.out (by simp [wrFew]; omega) HA.out
                  go_wp2
                  go_roundw
                  case rel => exact ⟨k + 1, by omega, by go_num, HR, hw⟩
                  case measure => simp [intOf]; omega
            · have ek : k = t.wrs.length := by omega
              have HR : Hid (t.wrs.all wrFew = true) := by show _ = _; have := HA.out; rw [ek, List.take_length] at this; exact this
              clear ek HA
              have HF : Hid (fewT t = true) := by show _ = _; rw [fewT, HR1.out, HR.out, decide_eq_true hn.out, decide_eq_true hm.out]; rfl
              go_wp2
              go_ret
              exact ⟨ret_bool HF.out, hB⟩
    · have HF : Hid (fewT t = false) := by show _ = _; rw [fewT, decide_eq_false hm]; simp
      go_enter Tryz.func77, Tryz.ntmps77
      go_wp2
      go_ret
      exact ⟨ret_bool HF.out, HB⟩
  · have HF : Hid (fewT t = false) := by show _ = _; rw [fewT, decide_eq_false hn]; simp
    go_enter Tryz.func77, Tryz.ntmps77
    go_wp2
    go_ret
    exact ⟨ret_bool HF.out, HB⟩

def noTx : Tx := ⟨0, 0, [], []⟩
theorem noTx_at (w : World) : TxAt w noTx none none :=
  ⟨fun _ hi => absurd hi (Nat.not_lt_zero _), fun _ hi => absurd hi (Nat.not_lt_zero _), fun _ hi => absurd hi (Nat.not_lt_zero _), fun _ hi => absurd hi (Nat.not_lt_zero _), fun _ hi => absurd hi (Nat.not_lt_zero _), Nat.zero_le _, Nat.zero_le _⟩
theorem same_noTx (w : World) : Calls Tryz.prog 139 #[.agg #[.int .i64 0, .int .i64 0, .slice none 0 0, .slice none 0 0], .agg #[.int .i64 0, .int .i64 0, .slice none 0 0, .slice none 0 0]] w fun e w' => e = .returned (.bool true) ∧ Below w.heap.size w w' :=
  txSame_any noTx noTx none none none none 0 0 0 0 w (noTx_at w) (noTx_at w)
theorem id_11 (w : World) : Calls Tryz.prog 98 #[.agg #[.int .i64 1, .int .i64 1]] w fun e w' => e = .returned (.bool true) ∧ Below w.heap.size w w' :=
  id_any 1 1 w
end Go.Proofs.YtjgloipgnnigmaaGreatDoor
/- Layer 21 in plain Lean: what stays true of a session's state, whatever is done. -/
namespace Go.Proofs.YtjgloipgnnigmaaGreatDoor

theorem getD_eq {α : Type} (l : List α) (d : α) {i : Nat} (h : i < l.length) : l.getD i d = l[i] := by
  rw [List.getD_eq_getElem?_getD, List.getElem?_eq_getElem h]; rfl
theorem risesTo_of {l : List ByteArray} (hk : ∀ k ∈ l, keyB k = true) (hp : l.Pairwise (fun a b => lessS a b = true)) : ∀ n, n ≤ l.length → risesTo l n = true
  | 0, _ => rfl
  | n + 1, hn => by
    rw [risesTo, risesTo_of hk hp n (by omega), Bool.true_and, riseAt]
    have h1 : keyB (l.getD n noStr) = true := by rw [getD_eq l noStr (by omega)]; exact hk _ (List.getElem_mem _)
    rw [h1, Bool.true_and, Bool.or_eq_true]
    by_cases h0 : n = 0
    · left; simp [h0]
    · right
      rw [getD_eq l noStr (by omega), getD_eq l noStr (by omega)]
      exact List.pairwise_iff_getElem.1 hp (n - 1) n (by omega) (by omega) (by omega)
theorem rise_iff (l : List ByteArray) : risesTo l l.length = true ↔ (∀ k ∈ l, keyB k = true) ∧ l.Pairwise (fun a b => lessS a b = true) := by
  constructor
  · intro h
    refine ⟨fun k hk => ?_, List.pairwise_iff_getElem.2 fun i j hi hj hij => ?_⟩
    · obtain ⟨i, hi, rfl⟩ := List.mem_iff_getElem.1 hk
      have := rises_key h hi
      rwa [getD_eq l noStr hi] at this
    · have := rises_mono h hij hj
      rwa [getD_eq l noStr hi, getD_eq l noStr hj] at this
  · rintro ⟨h1, h2⟩
    exact risesTo_of h1 h2 _ (Nat.le_refl _)
theorem rise_nodup {l : List ByteArray} (h : l.Pairwise (fun a b => lessS a b = true)) : l.Nodup :=
  h.imp fun {a b} hab e => by subst e; rw [lessS_irr] at hab; cases hab

/-! ### Where a key is written -/
theorem low_le (l : List Wr) (key : ByteArray) : lowK l key ≤ l.length := (List.takeWhile_prefix _).length_le
theorem low_lt {l : List Wr} {key : ByteArray} {i : Nat} (h : i < lowK l key) : lessS (l.getD i noWr).key key = true := by
  have hl := low_le l key
  have hi : i < (l.takeWhile fun w => lessS w.key key).length := h
  have h1 : (l.takeWhile fun w => lessS w.key key)[i] ∈ l.takeWhile fun w => lessS w.key key := List.getElem_mem hi
  have h2 : lessS (l.takeWhile fun w => lessS w.key key)[i].key key = true := List.all_eq_true.1 (List.all_takeWhile (p := fun w => lessS w.key key) (l := l)) _ h1
  rw [getD_eq l noWr (by omega)]
  have h3 : (l.takeWhile fun w => lessS w.key key)[i] = l[i]'(by omega) := (List.takeWhile_prefix _).getElem _
  rw [h3] at h2
  exact h2
theorem low_ge {l : List Wr} {key : ByteArray} (h : lowK l key < l.length) : lessS (l.getD (lowK l key) noWr).key key = false := by
  rw [getD_eq l noWr h]
  have : ∀ (l : List Wr) (h : lowK l key < l.length), lessS (l[lowK l key]'h).key key = false := by
    intro l
    induction l with
    | nil => intro h; simp at h
    | cons x l ih =>
      intro h
      cases hx : lessS x.key key
      · have e : lowK (x :: l) key = 0 := by simp [lowK, List.takeWhile_cons, hx]
        simp only [e, List.getElem_cons_zero]
        exact hx
      · have e : lowK (x :: l) key = lowK l key + 1 := by simp [lowK, List.takeWhile_cons, hx]
        simp only [e, List.getElem_cons_succ]
        exact ih (by rw [e] at h; simpa using h)
  exact this l h
theorem wkeys_lt {l : List Wr} (hr : (l.map Wr.key).Pairwise (fun a b => lessS a b = true)) {i j : Nat} (hij : i < j) (hj : j < l.length) : lessS (l.getD i noWr).key (l.getD j noWr).key = true := by
  have := List.pairwise_iff_getElem.1 hr i j (by simp; omega) (by simpa using hj) hij
  rw [getD_eq l noWr (by omega), getD_eq l noWr hj]
  simpa using this
/-- From the place on none is below the key. -/
theorem low_up {l : List Wr} {key : ByteArray} (hr : (l.map Wr.key).Pairwise (fun a b => lessS a b = true)) {i : Nat} (h : lowK l key ≤ i) (hi : i < l.length) : lessS (l.getD i noWr).key key = false := by
  have h1 := low_ge (l := l) (key := key) (by omega)
  by_cases e : i = lowK l key
  · rw [e]; exact h1
  · have h2 := wkeys_lt hr (i := lowK l key) (j := i) (by omega) hi
    cases h3 : lessS (l.getD i noWr).key key
    · rfl
    · rw [lessS_trans h2 h3] at h1; cases h1
/-- Where the key isn't there, all from its place on are above it. -/
theorem low_above {l : List Wr} {key : ByteArray} (hr : (l.map Wr.key).Pairwise (fun a b => lessS a b = true)) (hn : atK l key = false) {i : Nat} (h : lowK l key ≤ i) (hi : i < l.length) : lessS key (l.getD i noWr).key = true := by
  have h1 := low_ge (l := l) (key := key) (by omega)
  have h2 : lessS key (l.getD (lowK l key) noWr).key = true := by
    cases h3 : lessS key (l.getD (lowK l key) noWr).key
    · have e := lessS_tri h3 h1
      rw [atK, decide_eq_true (show lowK l key < l.length by omega), Bool.true_and, decide_eq_false_iff_not] at hn
      exact absurd e.symm hn
    · rfl
  by_cases e : i = lowK l key
  · rw [e]; exact h2
  · exact lessS_trans h2 (wkeys_lt hr (by omega) hi)
def WrOK (l : List Wr) : Prop := (l.map Wr.key).Pairwise (fun a b => lessS a b = true) ∧ ∀ w ∈ l, keyB w.key = true ∧ formedV w.val = true
theorem wrOK_nil : WrOK [] := ⟨List.Pairwise.nil, fun _ h => by cases h⟩
theorem wrOK_set {l : List Wr} (h : WrOK l) {i : Nat} (hi : i < l.length) {key : ByteArray} {v : Val} (hk : (l.getD i noWr).key = key) (hv : formedV v = true) : WrOK (l.set i ⟨key, v⟩) := by
  rw [getD_eq l noWr hi] at hk
  have e : (l.set i ⟨key, v⟩).map Wr.key = l.map Wr.key := by
    rw [List.map_set]
    have : key = (l.map Wr.key)[i]'(by simpa using hi) := by simp [hk]
    show (l.map Wr.key).set i key = _
    rw [this]
    exact List.set_getElem_self _
  refine ⟨by rw [e]; exact h.1, fun w hw => ?_⟩
  rcases List.mem_or_eq_of_mem_set hw with hw | rfl
  · exact h.2 w hw
  · exact ⟨by rw [← hk]; exact (h.2 _ (List.getElem_mem hi)).1, hv⟩
theorem wrOK_ins {l : List Wr} (h : WrOK l) {key : ByteArray} {v : Val} (hn : atK l key = false) (hk : keyB key = true) (hv : formedV v = true) : WrOK (insK l (lowK l key) ⟨key, v⟩) := by
  have hle := low_le l key
  refine ⟨?_, fun w hw => ?_⟩
  · have hs : l.map Wr.key = (l.take (lowK l key)).map Wr.key ++ (l.drop (lowK l key)).map Wr.key := by rw [← List.map_append, List.take_append_drop]
    have h1 := h.1
    rw [hs, List.pairwise_append] at h1
    rw [insK, List.map_append, List.map_cons, List.pairwise_append, List.pairwise_cons]
    refine ⟨h1.1, ⟨fun a ha => ?_, h1.2.1⟩, fun a ha b hb => ?_⟩
    · obtain ⟨w, hw, rfl⟩ := List.mem_map.1 ha
      obtain ⟨i, hi, rfl⟩ := List.mem_iff_getElem.1 hw
      have hi' : lowK l key + i < l.length := by simp at hi; omega
      have := low_above h.1 hn (i := lowK l key + i) (by omega) hi'
      rw [getD_eq l noWr hi'] at this
      simpa using this
    · rcases List.mem_cons.1 hb with e | hb
      · rw [e]
        obtain ⟨w, hw, rfl⟩ := List.mem_map.1 ha
        obtain ⟨i, hi, rfl⟩ := List.mem_iff_getElem.1 hw
        have hi' : i < lowK l key := by simp at hi; omega
        have := low_lt (l := l) (key := key) hi'
        rw [getD_eq l noWr (by omega)] at this
        simpa using this
      · exact h1.2.2 a ha b hb
  · rw [insK, List.mem_append, List.mem_cons] at hw
    rcases hw with hw | rfl | hw
    · exact h.2 w (List.mem_of_mem_take hw)
    · exact ⟨hk, hv⟩
    · exact h.2 w (List.mem_of_mem_drop hw)

/-! ### The reads, sorted -/
def leR (a b : Rd) : Bool := !lessS b.key a.key
theorem leR_trans (a b c : Rd) (h1 : leR a b = true) (h2 : leR b c = true) : leR a c = true := by
  simp only [leR, Bool.not_eq_true'] at *
  cases h3 : lessS c.key a.key
  · rfl
  · exfalso
    cases h4 : lessS a.key b.key
    · have e := lessS_tri h4 h1
      rw [e] at h3; rw [h3] at h2; cases h2
    · rw [lessS_trans h3 h4] at h2; cases h2
theorem leR_total (a b : Rd) : (leR a b || leR b a) = true := by
  simp only [leR, Bool.or_eq_true, Bool.not_eq_true']
  cases h : lessS b.key a.key
  · exact .inl rfl
  · exact .inr (lessS_asym h)
theorem insR_perm (l : List Rd) (r : Rd) : (insR l r).Perm (l ++ [r]) := List.mergeSort_perm _ _
theorem insR_sorted (l : List Rd) (r : Rd) : (insR l r).Pairwise (fun a b => leR a b = true) :=
  List.pairwise_mergeSort (le := leR) leR_trans leR_total _
theorem insR_len (l : List Rd) (r : Rd) : (insR l r).length = l.length + 1 := by rw [(insR_perm l r).length_eq]; simp
theorem rkeys_rise {l : List Rd} (hs : l.Pairwise (fun a b => leR a b = true)) (hn : (l.map Rd.key).Nodup) : (l.map Rd.key).Pairwise (fun a b => lessS a b = true) := by
  rw [List.pairwise_map]
  have h2 : l.Pairwise (fun a b => a.key ≠ b.key) := by
    rw [List.Nodup, List.pairwise_map] at hn; exact hn
  refine (hs.and h2).imp fun {a b} h => ?_
  obtain ⟨h1, h2⟩ := h
  simp only [leR, Bool.not_eq_true'] at h1
  cases h3 : lessS a.key b.key
  · exact absurd (lessS_tri h3 h1) h2
  · rfl
/-- A sorted list of the same reads is the same list, where no two have one key. -/
theorem sorted_unique {l m : List Rd} (hp : l.Perm m) (hl : l.Pairwise (fun a b => leR a b = true)) (hm : m.Pairwise (fun a b => leR a b = true)) (hn : (l.map Rd.key).Nodup) : l = m := by
  apply hp.eq_of_pairwise (le := fun a b => leR a b = true) _ hl hm
  intro a b ha hb h1 h2
  simp only [leR, Bool.not_eq_true'] at h1 h2
  have e := lessS_tri h2 h1
  have hb' : b ∈ l := hp.mem_iff.2 hb
  obtain ⟨i, hi, rfl⟩ := List.mem_iff_getElem.1 ha
  obtain ⟨j, hj, rfl⟩ := List.mem_iff_getElem.1 hb'
  have := List.pairwise_iff_getElem.1 hn
  by_cases hij : i = j
  · subst hij; rfl
  · exfalso
    rcases Nat.lt_or_gt_of_ne hij with q | q
    · exact this i j (by simpa using hi) (by simpa using hj) q (by simp [e])
    · exact this j i (by simpa using hj) (by simpa using hi) q (by simp [e])
end Go.Proofs.YtjgloipgnnigmaaGreatDoor
/- Layer 8's Groups alone (as in CutGr08). -/
namespace Go.Proofs.YtjgloipgnnigmaaGreatDoor
open Go.RowKit Go.Shelf Go.Sort

theorem box24t (w : World) (a b a' b' c' d' : Value) (t t' : TypeId) : ∃ W : World, (w.alloc (.cells #[a, b] t)).alloc (.cells #[a', b', c', d'] t') = W ∧ Below w.heap.size w W ∧ W.cell? ⟨w.heap.size, 0, none⟩ = some a ∧ W.cell? ⟨w.heap.size, 1, none⟩ = some b ∧ W.cell? ⟨w.heap.size + 1, 0, none⟩ = some a' ∧ W.cell? ⟨w.heap.size + 1, 1, none⟩ = some b' ∧ W.cell? ⟨w.heap.size + 1, 2, none⟩ = some c' ∧ W.cell? ⟨w.heap.size + 1, 3, none⟩ = some d' :=
  ⟨_, rfl, below2 _ _ _, by simp, by simp, by simp, by simp, by simp, by simp⟩
theorem formed_six {t : Tx} (h : formedT t = true) : t.rds.length ≤ 6 ∧ t.wrs.length ≤ 6 := by
  simp only [formedT, Bool.and_eq_true, decide_eq_true_eq] at h
  exact ⟨h.1.1.1.1.1.2, h.1.1.1.1.2⟩
set_option maxRecDepth 100000 in
set_option maxHeartbeats 4000000 in
theorem txGroups_any (c : Cfg) (t : Tx) (A B A' B' : Option Addr) (ca cb ca' cb' : Nat) (w : World) (h : CfgAt w c A B) (ht : TxAt w t A' B') (hT : Tabs w) :
    Calls Tryz.prog 86 #[.agg #[.slice A c.reps.length ca, .slice B c.bnds.length cb], txV t A' B' ca' cb'] w (IntsPost w (groupsT c t)) := by
  unfold txV
  obtain ⟨W, eW, HB, c0, c1, d0, d1, d2, d3⟩ := box24t w (.slice A c.reps.length ca) (.slice B c.bnds.length cb) (.int .i64 t.ses) (.int .i64 t.seq) (.slice A' t.rds.length ca') (.slice B' t.wrs.length cb') 25 37
  have h := h.later HB
  have ht := ht.later HB
  have hT := hT.later HB
  cases hf : formedT t
  · have HE : Hid (groupsT c t = []) := by show _ = _; simp [groupsT, hf]
    go_enter Tryz.func86, Tryz.ntmps86
    go_wp2_with (go_at_call 97; refine (calls_bool hf (txFormed_any t _ _ _ _ _ ht hT)).mono ?_; rintro e w1 ⟨rfl, hb⟩; replace HB := keepB HB hb)
    go_ret
    rw [HE.out]
    exact ⟨none, 0, rfl, fun i hi => by simp at hi, HB⟩
  · have HE : Hid (groupsT c t = groupsL c (rKeys t ++ wKeys t)) := by show _ = _; simp [groupsT, hf]
    obtain ⟨hn, hm⟩ := formed_six hf
    have hlen : (rKeys t ++ wKeys t).length ≤ 1000 := by rw [List.length_append]; simp only [rKeys, wKeys, List.length_map]; omega
    go_enter Tryz.func86, Tryz.ntmps86
    go_wp2_with (go_at_call 97; refine (calls_bool hf (txFormed_any t _ _ _ _ _ ht hT)).mono ?_; rintro e w1 ⟨rfl, hb⟩; replace HB := keepB HB hb; replace h := h.later hb; replace ht := ht.later hb; replace c0 := keep hb c0; replace c1 := keep hb c1; replace d0 := keep hb d0; replace d1 := keep hb d1; replace d2 := keep hb d2; replace d3 := keep hb d3; clear hb)
    clear eW hf
    obtain ⟨wb, rfl⟩ : ∃ wb : World, wb = w1 := ⟨_, rfl⟩
    generalize hKK : rKeys t ++ wKeys t = KK at *
    have hKeys : ∀ w, TxAt w t A' B' → Calls Tryz.prog 136 #[.agg #[.int .i64 t.ses, .int .i64 t.seq, .slice A' t.rds.length ca', .slice B' t.wrs.length cb']] w (StrsPost w KK) := fun w hw => by rw [← hKK]; exact keys_any t A' B' ca' cb' w hw hn hm
    clear hKK
    go_region_held3 (fun w' => w'.cell? ⟨w.heap.size, 0, none⟩ = some (.slice A c.reps.length ca) ∧ w'.cell? ⟨w.heap.size, 1, none⟩ = some (.slice B c.bnds.length cb) ∧ w'.cell? ⟨w.heap.size + 1, 0, none⟩ = some (.int .i64 t.ses) ∧ w'.cell? ⟨w.heap.size + 1, 1, none⟩ = some (.int .i64 t.seq) ∧ w'.cell? ⟨w.heap.size + 1, 2, none⟩ = some (.slice A' t.rds.length ca') ∧ w'.cell? ⟨w.heap.size + 1, 3, none⟩ = some (.slice B' t.wrs.length cb') ∧ Below wb.heap.size wb w')
      (first | exact ⟨c0, c1, d0, d1, d2, d3, below_drew (Below.refl _ _)⟩ | exact ⟨keep hb2 c0, keep hb2 c1, keep hb2 d0, keep hb2 d1, keep hb2 d2, keep hb2 d3, hb2⟩ | exact ⟨keep hb3 c0, keep hb3 c1, keep hb3 d0, keep hb3 d1, keep hb3 d2, keep hb3 d3, hb3⟩)
      (first
        | (go_at_call 136; refine (hKeys _ (ht.later (below_drew (Below.refl _ _)))).mono ?_; rintro e w2 ⟨K, ck, rfl, _, hK, hb⟩; have hb2 : Below wb.heap.size wb w2 := keepB (below_drew (Below.refl _ _)) hb)
        | (go_at_call 44; refine (groups_any c KK A B K ca cb ck _ (h.later hb2) hK hlen).mono ?_; rintro e w3 ⟨I, ci, rfl, hI, hb'⟩; have hb3 := keepB hb2 hb'))
    all_goals
      go_wp2
      go_ret
      rw [HE.out]
      exact ⟨I, ci, rfl, hI, keepB HB hb3⟩

end Go.Proofs.YtjgloipgnnigmaaGreatDoor
