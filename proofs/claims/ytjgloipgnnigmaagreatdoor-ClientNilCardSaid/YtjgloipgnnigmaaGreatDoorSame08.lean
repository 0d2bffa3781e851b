/- Layer 8's Same, and the reference's: both tell sameT of every two transactions. -/
import Derived.Test.YtjgloipgnnigmaaGreatDoorTxF08
import Derived.Laws.StructEq
namespace Go.Proofs.YtjgloipgnnigmaaGreatDoor
open Go.RowKit

def rdEq (x y : Rd) : Bool := x.key.toList == y.key.toList && (x.ver : Int) == (y.ver : Int)
def wrEq (x y : Wr) : Bool := x.key.toList == y.key.toList && x.val.kind == y.val.kind && (x.val.bits : Int) == (y.val.bits : Int) && x.val.text.toList == y.val.text.toList
def rdsTo (l m : List Rd) : Nat → Bool
  | 0 => true
  | k + 1 => rdsTo l m k && rdEq (l.getD k noRd) (m.getD k noRd)
def wrsTo (l m : List Wr) : Nat → Bool
  | 0 => true
  | k + 1 => wrsTo l m k && wrEq (l.getD k noWr) (m.getD k noWr)
def rdsEq (l m : List Rd) : Bool := decide (l.length = m.length) && rdsTo l m l.length
def wrsEq (l m : List Wr) : Bool := decide (l.length = m.length) && wrsTo l m l.length
def idEqB (a b c d : Int) : Bool := a == c && b == d
def sameT (a b : Tx) : Bool := idEqB a.ses a.seq b.ses b.seq && rdsEq a.rds b.rds && wrsEq a.wrs b.wrs

theorem rdsTo_false {l m : List Rd} {k n : Nat} (hk : k < n) (h : rdEq (l.getD k noRd) (m.getD k noRd) = false) : rdsTo l m n = false := by
  induction n with
  | zero => omega
  | succ n ih =>
    by_cases e : k = n
    · subst e; simp only [rdsTo, h, Bool.and_false]
    · simp [rdsTo, ih (by omega)]
theorem wrsTo_false {l m : List Wr} {k n : Nat} (hk : k < n) (h : wrEq (l.getD k noWr) (m.getD k noWr) = false) : wrsTo l m n = false := by
  induction n with
  | zero => omega
  | succ n ih =>
    by_cases e : k = n
    · subst e; simp only [wrsTo, h, Bool.and_false]
    · simp [wrsTo, ih (by omega)]

theorem eqlId (a b c d : Int) (w : World) : (binOp .eql 33 (.agg #[.int .i64 a, .int .i64 b]) (.agg #[.int .i64 c, .int .i64 d])).run Tryz.prog w = .ok (.bool (idEqB a b c d)) w := by
  unfold idEqB
  simp [go_sem]
  by_cases h1 : a = c <;> by_cases h2 : b = d <;> simp [h1, h2]
theorem neqId (a b c d : Int) (w : World) : (binOp .neq 33 (.agg #[.int .i64 a, .int .i64 b]) (.agg #[.int .i64 c, .int .i64 d])).run Tryz.prog w = .ok (.bool (!idEqB a b c d)) w := by
  unfold idEqB
  simp [go_sem]
  by_cases h1 : a = c <;> by_cases h2 : b = d <;> simp [h1, h2]
theorem neqRd (s t : ByteArray) (m n : Nat) (w : World) : (binOp .neq 75 (.agg #[.string s, .int .u64 m]) (.agg #[.string t, .int .u64 n])).run Tryz.prog w = .ok (.bool (!rdEq ⟨s, m⟩ ⟨t, n⟩)) w := by
  unfold rdEq
  simp [go_sem]
  by_cases h1 : s.toList = t.toList <;> by_cases h2 : (m : Int) = (n : Int) <;> simp [h1, h2]
theorem neqWr (s t : ByteArray) (k j : Int) (m n : Nat) (x y : ByteArray) (w : World) : (binOp .neq 112 (.agg #[.string s, .int .i64 k, .int .u64 m, .string x]) (.agg #[.string t, .int .i64 j, .int .u64 n, .string y])).run Tryz.prog w = .ok (.bool (!wrEq ⟨s, ⟨k, m, x⟩⟩ ⟨t, ⟨j, n, y⟩⟩)) w := by
  unfold wrEq
  simp [go_sem]
  by_cases h1 : s.toList = t.toList <;> by_cases h2 : k = j <;> by_cases h3 : (m : Int) = (n : Int) <;> by_cases h4 : x.toList = y.toList <;> simp [h1, h2, h3, h4]

set_option maxRecDepth 100000 in
set_option maxHeartbeats 1000000 in
theorem rds_len (l m : List Rd) (nn : Nat) (hl : Hid (l.length = nn)) (hm : Hid (m.length = nn)) (A B : Option Addr) (ca cb : Nat) (w : World) (hA : RdsAt w A l) (hB : RdsAt w B m) (hn : nn ≤ 9223372036854775807) :
    Calls Tryz.prog 178 #[.slice A nn ca, .slice B nn cb] w fun e w' => e = .returned (.bool (rdsTo l m nn)) ∧ Below w.heap.size w w' := by
  go_enter Tryz.func178, Tryz.ntmps178
  go_wp2
  go_loopw [13] (fun i wr => ∃ k : Nat, k ≤ nn ∧ i = .int .i64 k ∧ Hid (rdsTo l m k = true) ∧ Below w.heap.size w wr) (fun i _ => nn - (intOf i).toNat)
  case atStart => exact ⟨0, Nat.zero_le _, rfl, rfl, Below.refl _ _⟩
  case round =>
    obtain ⟨k, hk, rfl, HA, hw⟩ := hrel
    by_cases hlt : k < nn
    · obtain ⟨b, off, s, n, rfl, d0, d1, HX⟩ := (hA.later hw).at' (k := k) (by rw [hl.out]; exact hlt)
      obtain ⟨b', off', s', n', rfl, e0, e1, HY⟩ := (hB.later hw).at' (k := k) (by rw [hm.out]; exact hlt)
      have hki : (k : Int) < nn := by omega
      have hx : ∀ w, (binOp .neq 75 (.agg #[.string s, .int .u64 n]) (.agg #[.string s', .int .u64 n'])).run Tryz.prog w = .ok (.bool (!rdEq ⟨s, n⟩ ⟨s', n'⟩)) w := neqRd s s' n n'
      cases hq : rdEq ⟨s, n⟩ ⟨s', n'⟩
      · have HF : Hid (rdsTo l m nn = false) := rdsTo_false hlt (by rw [HX.out, HY.out]; exact hq)
        rw [hq] at hx
        clear hq
        go_wp2
        go_quiet (fail)
        go_wp2
        go_ret
        exact ⟨ret_bool HF.out, below_drewN hw _⟩
      · have HR : Hid (rdsTo l m (k + 1) = true) := by show _ = _; rw [rdsTo, HA.out, HX.out, HY.out, hq]; rfl
        rw [hq] at hx
        clear hq
        go_wp2
        go_quiet (fail)
        go_wp2
        go_roundw
        case rel => exact ⟨k + 1, by omega, by go_num, HR, below_drewN hw _⟩
        case measure => simp [intOf]; omega
    · have ek : k = nn := by omega
      have HF : Hid (rdsTo l m nn = true) := by show _ = _; rw [← ek]; exact HA.out
      clear ek
      go_wp2
      go_ret
      exact ⟨ret_bool HF.out, hw⟩
set_option maxRecDepth 100000 in
theorem rds_any (l m : List Rd) (A B : Option Addr) (ca cb : Nat) (w : World) (hA : RdsAt w A l) (hB : RdsAt w B m) (hn : l.length ≤ 9223372036854775807) :
    Calls Tryz.prog 178 #[.slice A l.length ca, .slice B m.length cb] w fun e w' => e = .returned (.bool (rdsEq l m)) ∧ Below w.heap.size w w' := by
  by_cases h : l.length = m.length
  · have := rds_len l m l.length rfl h.symm A B ca cb w hA hB hn
    rw [show rdsEq l m = rdsTo l m l.length by simp [rdsEq, h], ← h]
    exact this
  · have HF : Hid (rdsEq l m = false) := by show _ = _; simp [rdsEq, h]
    have h' : ¬ (l.length : Int) = (m.length : Int) := by omega
    clear h
    go_enter Tryz.func178, Tryz.ntmps178
    go_wp2
    go_ret
    exact ⟨ret_bool HF.out, Below.refl _ _⟩

set_option maxRecDepth 100000 in
set_option maxHeartbeats 1000000 in
theorem wrs_len (l m : List Wr) (nn : Nat) (hl : Hid (l.length = nn)) (hm : Hid (m.length = nn)) (A B : Option Addr) (ca cb : Nat) (w : World) (hA : WrsAt w A l) (hB : WrsAt w B m) (hn : nn ≤ 9223372036854775807) :
    Calls Tryz.prog 179 #[.slice A nn ca, .slice B nn cb] w fun e w' => e = .returned (.bool (wrsTo l m nn)) ∧ Below w.heap.size w w' := by
  go_enter Tryz.func179, Tryz.ntmps179
  go_wp2
  go_loopw [13] (fun i wr => ∃ k : Nat, k ≤ nn ∧ i = .int .i64 k ∧ Hid (wrsTo l m k = true) ∧ Below w.heap.size w wr) (fun i _ => nn - (intOf i).toNat)
  case atStart => exact ⟨0, Nat.zero_le _, rfl, rfl, Below.refl _ _⟩
  case round =>
    obtain ⟨k, hk, rfl, HA, hw⟩ := hrel
    by_cases hlt : k < nn
    · obtain ⟨b, off, s, z, n, x, rfl, d0, d1, d2, d3, HX⟩ := (hA.later hw).at' (k := k) (by rw [hl.out]; exact hlt)
      obtain ⟨b', off', s', z', n', x', rfl, e0, e1, e2, e3, HY⟩ := (hB.later hw).at' (k := k) (by rw [hm.out]; exact hlt)
      have hki : (k : Int) < nn := by omega
      have hx : ∀ w, (binOp .neq 112 (.agg #[.string s, .int .i64 z, .int .u64 n, .string x]) (.agg #[.string s', .int .i64 z', .int .u64 n', .string x'])).run Tryz.prog w = .ok (.bool (!wrEq ⟨s, ⟨z, n, x⟩⟩ ⟨s', ⟨z', n', x'⟩⟩)) w := neqWr s s' z z' n n' x x'
      cases hq : wrEq ⟨s, ⟨z, n, x⟩⟩ ⟨s', ⟨z', n', x'⟩⟩
      · have HF : Hid (wrsTo l m nn = false) := wrsTo_false hlt (by rw [HX.out, HY.out]; exact hq)
        rw [hq] at hx
        clear hq
        go_wp2
        go_quiet (fail)
        go_wp2
        go_ret
        exact ⟨ret_bool HF.out, below_drewN hw _⟩
      · have HR : Hid (wrsTo l m (k + 1) = true) := by show _ = _; rw [wrsTo, HA.out, HX.out, HY.out, hq]; rfl
        rw [hq] at hx
        clear hq
        go_wp2
        go_quiet (fail)
        go_wp2
        go_roundw
        case rel => exact ⟨k + 1, by omega, by go_num, HR, below_drewN hw _⟩
        case measure => simp [intOf]; omega
    · have ek : k = nn := by omega
      have HF : Hid (wrsTo l m nn = true) := by show _ = _; rw [← ek]; exact HA.out
      clear ek
      go_wp2
      go_ret
      exact ⟨ret_bool HF.out, hw⟩
set_option maxRecDepth 100000 in
theorem wrs_any (l m : List Wr) (A B : Option Addr) (ca cb : Nat) (w : World) (hA : WrsAt w A l) (hB : WrsAt w B m) (hn : l.length ≤ 9223372036854775807) :
    Calls Tryz.prog 179 #[.slice A l.length ca, .slice B m.length cb] w fun e w' => e = .returned (.bool (wrsEq l m)) ∧ Below w.heap.size w w' := by
  by_cases h : l.length = m.length
  · have := wrs_len l m l.length rfl h.symm A B ca cb w hA hB hn
    rw [show wrsEq l m = wrsTo l m l.length by simp [wrsEq, h], ← h]
    exact this
  · have HF : Hid (wrsEq l m = false) := by show _ = _; simp [wrsEq, h]
    have h' : ¬ (l.length : Int) = (m.length : Int) := by omega
    clear h
    go_enter Tryz.func179, Tryz.ntmps179
    go_wp2
    go_ret
    exact ⟨ret_bool HF.out, Below.refl _ _⟩

theorem box44 (w : World) (a b c d a' b' c' d' : Value) (t : TypeId) : ∃ W : World, (w.alloc (.cells #[a, b, c, d] t)).alloc (.cells #[a', b', c', d'] t) = W ∧ Below w.heap.size w W ∧ W.cell? ⟨w.heap.size, 0, none⟩ = some a ∧ W.cell? ⟨w.heap.size, 1, none⟩ = some b ∧ W.cell? ⟨w.heap.size, 2, none⟩ = some c ∧ W.cell? ⟨w.heap.size, 3, none⟩ = some d ∧ W.cell? ⟨w.heap.size + 1, 0, none⟩ = some a' ∧ W.cell? ⟨w.heap.size + 1, 1, none⟩ = some b' ∧ W.cell? ⟨w.heap.size + 1, 2, none⟩ = some c' ∧ W.cell? ⟨w.heap.size + 1, 3, none⟩ = some d' :=
  ⟨_, rfl, below2 _ _ _, by simp [go_sem], by simp [go_sem], by simp [go_sem], by simp [go_sem], by simp [go_sem], by simp [go_sem], by simp [go_sem], by simp [go_sem]⟩
set_option maxRecDepth 100000 in
set_option maxHeartbeats 2000000 in
theorem txSame_any (a b : Tx) (A B A' B' : Option Addr) (ca cb ca' cb' : Nat) (w : World) (ha : TxAt w a A B) (hb' : TxAt w b A' B') :
    Calls Tryz.prog 139 #[txV a A B ca cb, txV b A' B' ca' cb'] w fun e w' => e = .returned (.bool (sameT a b)) ∧ Below w.heap.size w w' := by
  unfold txV
  obtain ⟨W, eW, HB, c0, c1, c2, c3, e0, e1, e2, e3⟩ := box44 w (.int .i64 a.ses) (.int .i64 a.seq) (.slice A a.rds.length ca) (.slice B a.wrs.length cb) (.int .i64 b.ses) (.int .i64 b.seq) (.slice A' b.rds.length ca') (.slice B' b.wrs.length cb') 37
  have ha := ha.later HB
  have hb' := hb'.later HB
  have hrn := ha.rn
  have hwn := ha.wn
  have hrn' := hb'.rn
  have hwn' := hb'.wn
  have hx := eqlId a.ses a.seq b.ses b.seq
  cases hid : idEqB a.ses a.seq b.ses b.seq
  · have HF : Hid (sameT a b = false) := by show _ = _; rw [sameT, hid]; rfl
    rw [hid] at hx
    clear hid
    go_enter Tryz.func139, Tryz.ntmps139
    go_wp2
    go_ret
    exact ⟨ret_bool HF.out, HB⟩
  · have HF : Hid (sameT a b = (rdsEq a.rds b.rds && wrsEq a.wrs b.wrs)) := by show _ = _; rw [sameT, hid]; rfl
    rw [hid] at hx
    clear hid
    obtain ⟨r1, hr1⟩ : ∃ r, Hid (rdsEq a.rds b.rds = r) := ⟨_, rfl⟩
    obtain ⟨r2, hr2⟩ : ∃ r, Hid (wrsEq a.wrs b.wrs = r) := ⟨_, rfl⟩
    replace HF := Lib.hid HF.out
    rw [hr1.out, hr2.out] at HF
    cases r1
    all_goals
      go_enter Tryz.func139, Tryz.ntmps139
      go_wp2_with (first
        | (go_at_call 178; refine (calls_bool hr1.out (rds_any _ _ _ _ _ _ _ ha.rds hb'.rds hrn)).mono ?_; rintro e w1 ⟨rfl, hb⟩; replace c2 := keep hb c2; replace c3 := keep hb c3; replace e2 := keep hb e2; replace e3 := keep hb e3; replace ha := ha.later hb; replace hb' := hb'.later hb; replace HB := keepB HB hb; clear hb)
        | (go_at_call 179; refine (calls_bool hr2.out (wrs_any _ _ _ _ _ _ _ ha.wrs hb'.wrs hwn)).mono ?_; rintro e w1 ⟨rfl, hb⟩; replace c2 := keep hb c2; replace c3 := keep hb c3; replace e2 := keep hb e2; replace e3 := keep hb e3; replace ha := ha.later hb; replace hb' := hb'.later hb; replace HB := keepB HB hb; clear hb))
      go_ret
      exact ⟨ret_bool (by rw [HF.out]; simp), HB⟩
set_option maxRecDepth 100000 in
set_option maxHeartbeats 2000000 in
theorem refTxSame_any (a b : Tx) (A B A' B' : Option Addr) (ca cb ca' cb' : Nat) (w : World) (ha : TxAt w a A B) (hb' : TxAt w b A' B') :
    Calls Tryz.prog 125 #[txV a A B ca cb, txV b A' B' ca' cb'] w fun e w' => e = .returned (.bool (sameT a b)) ∧ Below w.heap.size w w' := by
  unfold txV
  obtain ⟨W, eW, HB, c0, c1, c2, c3, e0, e1, e2, e3⟩ := box44 w (.int .i64 a.ses) (.int .i64 a.seq) (.slice A a.rds.length ca) (.slice B a.wrs.length cb) (.int .i64 b.ses) (.int .i64 b.seq) (.slice A' b.rds.length ca') (.slice B' b.wrs.length cb') 37
  have ha := ha.later HB
  have hb' := hb'.later HB
  have hrn := ha.rn
  have hwn := ha.wn
  have hrn' := hb'.rn
  have hwn' := hb'.wn
  have hx := neqId a.ses a.seq b.ses b.seq
  cases hid : idEqB a.ses a.seq b.ses b.seq
  · have HF : Hid (sameT a b = false) := by show _ = _; rw [sameT, hid]; rfl
    rw [hid] at hx
    clear hid
    go_enter Tryz.func125, Tryz.ntmps125
    go_wp2
    go_ret
    exact ⟨ret_bool HF.out, HB⟩
  · rw [hid] at hx
    by_cases hlr : a.rds.length = b.rds.length
    · by_cases hlw : a.wrs.length = b.wrs.length
      · have HS : Hid (sameT a b = (rdsTo a.rds b.rds a.rds.length && wrsTo a.wrs b.wrs a.wrs.length)) := by
          show _ = _
          rw [sameT, hid, rdsEq, wrsEq, decide_eq_true hlr, decide_eq_true hlw]
          simp
        have q0 : ((a.rds.length : Int) != (b.rds.length : Int)) = false := by simp; omega
        have q1 : ((a.wrs.length : Int) != (b.wrs.length : Int)) = false := by simp; omega
        replace hlr := Lib.hid hlr
        replace hlw := Lib.hid hlw
        clear hid
        go_enter Tryz.func125, Tryz.ntmps125
        go_wp2
        clear eW hx q0 q1
        go_loopw [5] (fun i wr => ∃ k : Nat, k ≤ a.rds.length ∧ i = .int .i64 k ∧ Hid (rdsTo a.rds b.rds k = true) ∧ Below W.heap.size W wr) (fun i _ => a.rds.length - (intOf i).toNat)
        case atStart => exact ⟨0, Nat.zero_le _, rfl, rfl, Below.refl _ _⟩
        case round =>
          obtain ⟨k, hk, rfl, HA, hw⟩ := hrel
          have hB := keepB HB hw
          replace c2 := keep hw c2
          replace c3 := keep hw c3
          replace e2 := keep hw e2
          replace e3 := keep hw e3
          by_cases hlt : k < a.rds.length
          · have hlt' : k < b.rds.length := by rw [← hlr.out]; exact hlt
            obtain ⟨p, off, s, n, rfl, d0, d1, HX⟩ := (ha.later hw).rds.at' (k := k) hlt
            obtain ⟨p', off', s', n', rfl, f0, f1, HY⟩ := (hb'.later hw).rds.at' (k := k) hlt'
            have hki : (k : Int) < a.rds.length := by omega
            have hki' : (k : Int) < b.rds.length := by omega
            have hx : ∀ w, (binOp .neq 75 (.agg #[.string s, .int .u64 n]) (.agg #[.string s', .int .u64 n'])).run Tryz.prog w = .ok (.bool (!rdEq ⟨s, n⟩ ⟨s', n'⟩)) w := neqRd s s' n n'
            cases hq : rdEq ⟨s, n⟩ ⟨s', n'⟩
            · have HF : Hid (sameT a b = false) := by show _ = _; rw [HS.out, rdsTo_false (k := k) (by omega) (by rw [HX.out, HY.out]; exact hq)]; simp
              rw [hq] at hx
              clear hq
              go_wp2
              go_quiet (fail)
              go_wp2
              go_ret
              exact ⟨ret_bool HF.out, below_drewN hB _⟩
            · have HR : Hid (rdsTo a.rds b.rds (k + 1) = true) := by show _ = _; rw [rdsTo, HA.out, HX.out, HY.out, hq]; rfl
              rw [hq] at hx
              clear hq
              go_wp2
              go_quiet (fail)
              go_wp2
              go_roundw
              case rel => exact ⟨k + 1, by omega, by go_num, HR, below_drewN hw _⟩
              case measure => simp [intOf]; omega
          · have ek : k = a.rds.length := by omega
            have HR : Hid (rdsTo a.rds b.rds a.rds.length = true) := by show _ = _; rw [← ek]; exact HA.out
            clear ek HA
            go_wp2_with fail
            obtain ⟨wa, rfl⟩ : ∃ wa : World, wa = wr := ⟨_, rfl⟩
            have HR1 := Lib.hid HR.out
            clear HR
            replace ha := ha.later hw
            replace hb' := hb'.later hw
            replace HB := keepB HB hw
            clear hw hB
            go_loopw [6] (fun i wr => ∃ k : Nat, k ≤ a.wrs.length ∧ i = .int .i64 k ∧ Hid (wrsTo a.wrs b.wrs k = true) ∧ Below wa.heap.size wa wr) (fun i _ => a.wrs.length - (intOf i).toNat)
            case atStart => exact ⟨0, Nat.zero_le _, rfl, rfl, Below.refl _ _⟩
            case round =>
              obtain ⟨k, hk, rfl, HA, hw⟩ := hrel
              have hB := keepB HB hw
              replace c2 := keep hw c2
              replace c3 := keep hw c3
              replace e2 := keep hw e2
              replace e3 := keep hw e3
              by_cases hlt : k < a.wrs.length
              · have hlt' : k < b.wrs.length := by rw [← hlw.out]; exact hlt
                obtain ⟨p, off, s, z, n, x, rfl, d0, d1, d2, d3, HX⟩ := (ha.later hw).wrs.at' (k := k) hlt
                obtain ⟨p', off', s', z', n', x', rfl, f0, f1, f2, f3, HY⟩ := (hb'.later hw).wrs.at' (k := k) hlt'
                have hki : (k : Int) < a.wrs.length := by omega
                have hki' : (k : Int) < b.wrs.length := by omega
                have hx : ∀ w, (binOp .neq 112 (.agg #[.string s, .int .i64 z, .int .u64 n, .string x]) (.agg #[.string s', .int .i64 z', .int .u64 n', .string x'])).run Tryz.prog w = .ok (.bool (!wrEq ⟨s, ⟨z, n, x⟩⟩ ⟨s', ⟨z', n', x'⟩⟩)) w := neqWr s s' z z' n n' x x'
                cases hq : wrEq ⟨s, ⟨z, n, x⟩⟩ ⟨s', ⟨z', n', x'⟩⟩
                · have HF : Hid (sameT a b = false) := by show _ = _; rw [HS.out, wrsTo_false (k := k) (by omega) (by rw [HX.out, HY.out]; exact hq)]; simp
                  rw [hq] at hx
                  clear hq
                  go_wp2
                  go_quiet (fail)
                  go_wp2
                  go_ret
                  exact ⟨ret_bool HF.out, below_drewN hB _⟩
                · have HR : Hid (wrsTo a.wrs b.wrs (k + 1) = true) := by show _ = _; rw [wrsTo, HA.out, HX.out, HY.out, hq]; rfl
                  rw [hq] at hx
                  clear hq
                  go_wp2
                  go_quiet (fail)
                  go_wp2
                  go_roundw
                  case rel => exact ⟨k + 1, by omega, by go_num, HR, below_drewN hw _⟩
                  case measure => simp [intOf]; omega
              · have ek : k = a.wrs.length := by omega
                have HR : Hid (wrsTo a.wrs b.wrs a.wrs.length = true) := by show _ = _; rw [← ek]; exact HA.out
                clear ek HA
                have HF : Hid (sameT a b = true) := by show _ = _; rw [HS.out, HR1.out, HR.out]; rfl
                go_wp2
                go_ret
                exact ⟨ret_bool HF.out, hB⟩
      · have HF : Hid (sameT a b = false) := by show _ = _; rw [sameT, wrsEq, decide_eq_false hlw]; simp
        have q1 : ((a.wrs.length : Int) != (b.wrs.length : Int)) = true := by simp; omega
        have q0 : ((a.rds.length : Int) != (b.rds.length : Int)) = false := by simp; omega
        clear hid hlw hlr
        go_enter Tryz.func125, Tryz.ntmps125
        go_wp2
        go_ret
        exact ⟨ret_bool HF.out, HB⟩
    · have HF : Hid (sameT a b = false) := by show _ = _; rw [sameT, rdsEq, decide_eq_false hlr]; simp
      have q0 : ((a.rds.length : Int) != (b.rds.length : Int)) = true := by simp; omega
      clear hid hlr
      go_enter Tryz.func125, Tryz.ntmps125
      go_wp2
      go_ret
      exact ⟨ret_bool HF.out, HB⟩
end Go.Proofs.YtjgloipgnnigmaaGreatDoor
