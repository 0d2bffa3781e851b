/- Layer 8's Same, and the reference's: both tell sameT of every two transactions. -/
import Derived.Test.YtcldpmkhpmlcbaaGreatDoorJ6
import Derived.Laws.StructEq
import Derived.Test.YtcldpmkhpmlcbaaGreatDoorJ9
import Derived.Lib.QuietBelow
import Derived.BigQuiet
import Derived.Deep.RegionHeld3
import Derived.Test.YtcldpmkhpmlcbaaGreatDoorShelfH
import Derived.RangeFuncBox
import Derived.RangeFuncLeaves
import Derived.Shelf.Abstract
import Derived.WalkKit
import Derived.OwnWalkIn
import Derived.TacticsInMore
import Derived.LoopNIn
import Derived.LoopIn
import Derived.Maps.AppendAt
import Derived.Test.YtcldpmkhpmlcbaaGreatDoorJ8
set_option linter.unusedVariables false
set_option linter.unusedSimpArgs false
namespace Go.Proofs.YtcldpmkhpmlcbaaGreatDoor
open Go.RowKit

def rdEq (x y : Rd) : Bool := x.key.toList == y.key.toList && (x.ver : Int) == (y.ver : Int)
def wrEq (x y : Wr) : Bool := x.key.toList == y.key.toList && x.val.kind == y.val.kind && (x.val.bits : Int) == (y.val.bits : Int) && x.val.text.toList == y.val.text.toList
def rdsTo (l m : List Rd) : Nat → Bool
  | 0 => true
  | k + 1 => rdsTo l m k && rdEq (l.getD k noRd) (m.getD k noRd)
def wrsTo (l m : List Wr) : Nat → Bool
  | 0 => true
  | k + 1 => wrsTo l m k && wrEq (l.getD k noWr) (m.getD k noWr)
def rdsEq (l m : List Rd) : Bool := decide (l.length = m.length) && rdsTo l m l.length
def wrsEq (l m : List Wr) : Bool := decide (l.length = m.length) && wrsTo l m l.length
def idEqB (a b c d : Int) : Bool := a == c && b == d
def sameT (a b : Tx) : Bool := idEqB a.ses a.seq b.ses b.seq && rdsEq a.rds b.rds && wrsEq a.wrs b.wrs

theorem rdsTo_false {l m : List Rd} {k n : Nat} (hk : k < n) (h : rdEq (l.getD k noRd) (m.getD k noRd) = false) : rdsTo l m n = false := by
  induction n with
  | zero => omega
  | succ n ih =>
    by_cases e : k = n
    · subst e; simp only [rdsTo, h, Bool.and_false]
    · simp [rdsTo, ih (by omega)]
theorem wrsTo_false {l m : List Wr} {k n : Nat} (hk : k < n) (h : wrEq (l.getD k noWr) (m.getD k noWr) = false) : wrsTo l m n = false := by
  induction n with
  | zero => omega
  | succ n ih =>
    by_cases e : k = n
    · subst e; simp only [wrsTo, h, Bool.and_false]
    · simp [wrsTo, ih (by omega)]

theorem eqlId (a b c d : Int) (w : World) : (binOp .eql 34 (.agg #[.int .i64 a, .int .i64 b]) (.agg #[.int .i64 c, .int .i64 d])).run Tryz.prog w = .ok (.bool (idEqB a b c d)) w := by
  unfold idEqB
  simp [go_sem]
  by_cases h1 : a = c <;> by_cases h2 : b = d <;> simp [h1, h2]
theorem neqRd (s t : ByteArray) (m n : Nat) (w : World) : (binOp .neq 77 (.agg #[.string s, .int .u64 m]) (.agg #[.string t, .int .u64 n])).run Tryz.prog w = .ok (.bool (!rdEq ⟨s, m⟩ ⟨t, n⟩)) w := by
  unfold rdEq
  simp [go_sem]
  by_cases h1 : s.toList = t.toList <;> by_cases h2 : (m : Int) = (n : Int) <;> simp [h1, h2]
theorem neqWr (s t : ByteArray) (k j : Int) (m n : Nat) (x y : ByteArray) (w : World) : (binOp .neq 79 (.agg #[.string s, .int .i64 k, .int .u64 m, .string x]) (.agg #[.string t, .int .i64 j, .int .u64 n, .string y])).run Tryz.prog w = .ok (.bool (!wrEq ⟨s, ⟨k, m, x⟩⟩ ⟨t, ⟨j, n, y⟩⟩)) w := by
  unfold wrEq
  simp [go_sem]
  by_cases h1 : s.toList = t.toList <;> by_cases h2 : k = j <;> by_cases h3 : (m : Int) = (n : Int) <;> by_cases h4 : x.toList = y.toList <;> simp [h1, h2, h3, h4]

set_option maxRecDepth 100000 in
set_option maxHeartbeats 1000000 in
theorem rds_len (l m : List Rd) (nn : Nat) (hl : Hid (l.length = nn)) (hm : Hid (m.length = nn)) (A B : Option Addr) (ca cb : Nat) (w : World) (hA : RdsAt w A l) (hB : RdsAt w B m) (hn : nn ≤ 9223372036854775807) :
    Calls Tryz.prog 178 #[.slice A nn ca, .slice B nn cb] w fun e w' => e = .returned (.bool (rdsTo l m nn)) ∧ Below w.heap.size w w' := by
  go_enter Tryz.func178, Tryz.ntmps178
  go_wp2
  go_loopw [13] (fun i wr => ∃ k : Nat, k ≤ nn ∧ i = .int .i64 k ∧ Hid (rdsTo l m k = true) ∧ Below w.heap.size w wr) (fun i _ => nn - (intOf i).toNat)
  case atStart => exact ⟨0, Nat.zero_le _, rfl, rfl, Below.refl _ _⟩
  case round =>
    obtain ⟨k, hk, rfl, HA, hw⟩ := hrel
    by_cases hlt : k < nn
    · obtain ⟨b, off, s, n, rfl, d0, d1, HX⟩ := (hA.later hw).at' (k := k) (by rw [hl.out]; exact hlt)
      obtain ⟨b', off', s', n', rfl, e0, e1, HY⟩ := (hB.later hw).at' (k := k) (by rw [hm.out]; exact hlt)
      have hki : (k : Int) < nn := by omega
      have hx : ∀ w, (binOp .neq 77 (.agg #[.string s, .int .u64 n]) (.agg #[.string s', .int .u64 n'])).run Tryz.prog w = .ok (.bool (!rdEq ⟨s, n⟩ ⟨s', n'⟩)) w := neqRd s s' n n'
      cases hq : rdEq ⟨s, n⟩ ⟨s', n'⟩
      · have HF : Hid (rdsTo l m nn = false) := rdsTo_false hlt (by rw [HX.out, HY.out]; exact hq)
        rw [hq] at hx
        clear hq
        go_wp2
        go_quiet (fail)
        go_wp2
        go_ret
        exact ⟨ret_bool HF.out, below_drewN hw _⟩
      · have HR : Hid (rdsTo l m (k + 1) = true) := by show _ = _; rw [rdsTo, HA.out, HX.out, HY.out, hq]; rfl
        rw [hq] at hx
        clear hq
        go_wp2
        go_quiet (fail)
        go_wp2
        go_roundw
        case rel => exact ⟨k + 1, by omega, by go_num, HR, below_drewN hw _⟩
        case measure => simp [intOf]; omega
    · have ek : k = nn := by omega
      have HF : Hid (rdsTo l m nn = true) := by show _ = _; rw [← ek]; exact HA.out
      clear ek
      go_wp2
      go_ret
      exact ⟨ret_bool HF.out, hw⟩
set_option maxRecDepth 100000 in
theorem rds_any (l m : List Rd) (A B : Option Addr) (ca cb : Nat) (w : World) (hA : RdsAt w A l) (hB : RdsAt w B m) (hn : l.length ≤ 9223372036854775807) :
    Calls Tryz.prog 178 #[.slice A l.length ca, .slice B m.length cb] w fun e w' => e = .returned (.bool (rdsEq l m)) ∧ Below w.heap.size w w' := by
  by_cases h : l.length = m.length
  · have := rds_len l m l.length rfl h.symm A B ca cb w hA hB hn
    rw [show rdsEq l m = rdsTo l m l.length by simp [rdsEq, h], ← h]
    exact this
  · have HF : Hid (rdsEq l m = false) := by show _ = _; simp [rdsEq, h]
    have h' : ¬ (l.length : Int) = (m.length : Int) := by omega
    clear h
    go_enter Tryz.func178, Tryz.ntmps178
    go_wp2
    go_ret
    exact ⟨ret_bool HF.out, Below.refl _ _⟩

set_option maxRecDepth 100000 in
set_option maxHeartbeats 1000000 in
theorem wrs_len (l m : List Wr) (nn : Nat) (hl : Hid (l.length = nn)) (hm : Hid (m.length = nn)) (A B : Option Addr) (ca cb : Nat) (w : World) (hA : WrsAt w A l) (hB : WrsAt w B m) (hn : nn ≤ 9223372036854775807) :
    Calls Tryz.prog 179 #[.slice A nn ca, .slice B nn cb] w fun e w' => e = .returned (.bool (wrsTo l m nn)) ∧ Below w.heap.size w w' := by
  go_enter Tryz.func179, Tryz.ntmps179
  go_wp2
  go_loopw [13] (fun i wr => ∃ k : Nat, k ≤ nn ∧ i = .int .i64 k ∧ Hid (wrsTo l m k = true) ∧ Below w.heap.size w wr) (fun i _ => nn - (intOf i).toNat)
  case atStart => exact ⟨0, Nat.zero_le _, rfl, rfl, Below.refl _ _⟩
  case round =>
    obtain ⟨k, hk, rfl, HA, hw⟩ := hrel
    by_cases hlt : k < nn
    · obtain ⟨b, off, s, z, n, x, rfl, d0, d1, d2, d3, HX⟩ := (hA.later hw).at' (k := k) (by rw [hl.out]; exact hlt)
      obtain ⟨b', off', s', z', n', x', rfl, e0, e1, e2, e3, HY⟩ := (hB.later hw).at' (k := k) (by rw [hm.out]; exact hlt)
      have hki : (k : Int) < nn := by omega
      have hx : ∀ w, (binOp .neq 79 (.agg #[.string s, .int .i64 z, .int .u64 n, .string x]) (.agg #[.string s', .int .i64 z', .int .u64 n', .string x'])).run Tryz.prog w = .ok (.bool (!wrEq ⟨s, ⟨z, n, x⟩⟩ ⟨s', ⟨z', n', x'⟩⟩)) w := neqWr s s' z z' n n' x x'
      cases hq : wrEq ⟨s, ⟨z, n, x⟩⟩ ⟨s', ⟨z', n', x'⟩⟩
      · have HF : Hid (wrsTo l m nn = false) := wrsTo_false hlt (by rw [HX.out, HY.out]; exact hq)
        rw [hq] at hx
        clear hq
        go_wp2
        go_quiet (fail)
        go_wp2
        go_ret
        exact ⟨ret_bool HF.out, below_drewN hw _⟩
      · have HR : Hid (wrsTo l m (k + 1) = true) := by show _ = _; rw [wrsTo, HA.out, HX.out, HY.out, hq]; rfl
        rw [hq] at hx
        clear hq
        go_wp2
        go_quiet (fail)
        go_wp2
        go_roundw
        case rel => exact ⟨k + 1, by omega, by go_num, HR, below_drewN hw _⟩
        case measure => simp [intOf]; omega
    · have ek : k = nn := by omega
      have HF : Hid (wrsTo l m nn = true) := by show _ = _; rw [← ek]; exact HA.out
      clear ek
      go_wp2
      go_ret
      exact ⟨ret_bool HF.out, hw⟩
set_option maxRecDepth 100000 in
theorem wrs_any (l m : List Wr) (A B : Option Addr) (ca cb : Nat) (w : World) (hA : WrsAt w A l) (hB : WrsAt w B m) (hn : l.length ≤ 9223372036854775807) :
    Calls Tryz.prog 179 #[.slice A l.length ca, .slice B m.length cb] w fun e w' => e = .returned (.bool (wrsEq l m)) ∧ Below w.heap.size w w' := by
  by_cases h : l.length = m.length
  · have := wrs_len l m l.length rfl h.symm A B ca cb w hA hB hn
    rw [show wrsEq l m = wrsTo l m l.length by simp [wrsEq, h], ← h]
    exact this
  · have HF : Hid (wrsEq l m = false) := by show _ = _; simp [wrsEq, h]
    have h' : ¬ (l.length : Int) = (m.length : Int) := by omega
    clear h
    go_enter Tryz.func179, Tryz.ntmps179
    go_wp2
    go_ret
    exact ⟨ret_bool HF.out, Below.refl _ _⟩

theorem box44 (w : World) (a b c d a' b' c' d' : Value) (t : TypeId) : ∃ W : World, (w.alloc (.cells #[a, b, c, d] t)).alloc (.cells #[a', b', c', d'] t) = W ∧ Below w.heap.size w W ∧ W.cell? ⟨w.heap.size, 0, none⟩ = some a ∧ W.cell? ⟨w.heap.size, 1, none⟩ = some b ∧ W.cell? ⟨w.heap.size, 2, none⟩ = some c ∧ W.cell? ⟨w.heap.size, 3, none⟩ = some d ∧ W.cell? ⟨w.heap.size + 1, 0, none⟩ = some a' ∧ W.cell? ⟨w.heap.size + 1, 1, none⟩ = some b' ∧ W.cell? ⟨w.heap.size + 1, 2, none⟩ = some c' ∧ W.cell? ⟨w.heap.size + 1, 3, none⟩ = some d' :=
  ⟨_, rfl, below2 _ _ _, by simp [go_sem], by simp [go_sem], by simp [go_sem], by simp [go_sem], by simp [go_sem], by simp [go_sem], by simp [go_sem], by simp [go_sem]⟩
set_option maxRecDepth 100000 in
set_option maxHeartbeats 2000000 in
theorem txSame_any (a b : Tx) (A B A' B' : Option Addr) (ca cb ca' cb' : Nat) (w : World) (ha : TxAt w a A B) (hb' : TxAt w b A' B') :
    Calls Tryz.prog 134 #[txV a A B ca cb, txV b A' B' ca' cb'] w fun e w' => e = .returned (.bool (sameT a b)) ∧ Below w.heap.size w w' := by
  unfold txV
  obtain ⟨W, eW, HB, c0, c1, c2, c3, e0, e1, e2, e3⟩ := box44 w (.int .i64 a.ses) (.int .i64 a.seq) (.slice A a.rds.length ca) (.slice B a.wrs.length cb) (.int .i64 b.ses) (.int .i64 b.seq) (.slice A' b.rds.length ca') (.slice B' b.wrs.length cb') 38
  have ha := ha.later HB
  have hb' := hb'.later HB
  have hrn := ha.rn
  have hwn := ha.wn
  have hrn' := hb'.rn
  have hwn' := hb'.wn
  have hx := eqlId a.ses a.seq b.ses b.seq
  cases hid : idEqB a.ses a.seq b.ses b.seq
  · have HF : Hid (sameT a b = false) := by show _ = _; rw [sameT, hid]; rfl
    rw [hid] at hx
    clear hid
    go_enter Tryz.func134, Tryz.ntmps134
    go_wp2
    go_ret
    exact ⟨ret_bool HF.out, HB⟩
  · have HF : Hid (sameT a b = (rdsEq a.rds b.rds && wrsEq a.wrs b.wrs)) := by show _ = _; rw [sameT, hid]; rfl
    rw [hid] at hx
    clear hid
    obtain ⟨r1, hr1⟩ : ∃ r, Hid (rdsEq a.rds b.rds = r) := ⟨_, rfl⟩
    obtain ⟨r2, hr2⟩ : ∃ r, Hid (wrsEq a.wrs b.wrs = r) := ⟨_, rfl⟩
    replace HF := Lib.hid HF.out
    rw [hr1.out, hr2.out] at HF
    cases r1
    all_goals
      go_enter Tryz.func134, Tryz.ntmps134
      go_wp2_with (first
        | (go_at_call 178; refine (calls_bool hr1.out (rds_any _ _ _ _ _ _ _ ha.rds hb'.rds hrn)).mono ?_; rintro e w1 ⟨rfl, hb⟩; replace c2 := keep hb c2; replace c3 := keep hb c3; replace e2 := keep hb e2; replace e3 := keep hb e3; replace ha := ha.later hb; replace hb' := hb'.later hb; replace HB := keepB HB hb; clear hb)
        | (go_at_call 179; refine (calls_bool hr2.out (wrs_any _ _ _ _ _ _ _ ha.wrs hb'.wrs hwn)).mono ?_; rintro e w1 ⟨rfl, hb⟩; replace c2 := keep hb c2; replace c3 := keep hb c3; replace e2 := keep hb e2; replace e3 := keep hb e3; replace ha := ha.later hb; replace hb' := hb'.later hb; replace HB := keepB HB hb; clear hb))
      go_ret
      exact ⟨ret_bool (by rw [HF.out]; simp), HB⟩
end Go.Proofs.YtcldpmkhpmlcbaaGreatDoor
/- A one's stamp; the order of two. -/
namespace Go.Proofs.YtcldpmkhpmlcbaaGreatDoor
open Go.RowKit Go.Shelf Go.Maps

theorem Grew.form {w w' : World} (h : Grew w w') : ∃ q os', w' = Go.Sort.grow (w.drewN q) os' := by
  obtain ⟨p, hp⟩ := regrown_of_below h.1
  have hd := h.2
  refine ⟨w'.drawn - w.drawn, p.os, ?_⟩
  have e : w'.drawn = p.d := by rw [hp]; rfl
  have e2 : w.drewN (w'.drawn - w.drawn) = redrawn w p.d := by
    unfold World.drewN redrawn
    rw [show w.drawn + (w'.drawn - w.drawn) = p.d by omega]
  rw [e2]
  exact hp
def GrewV (w : World) (v : Value) (e : Ending) (w' : World) : Prop := e = .returned v ∧ Grew w w'
theorem grew_2 (w : World) (a b : Obj) : Grew w ((w.alloc a).alloc b) := ⟨below2 _ _ _, Nat.le_refl _⟩
theorem less15 (s q s' q' : Int) (w : World) : Calls Tryz.prog 189 #[.agg #[.int .i64 s, .int .i64 q], .agg #[.int .i64 s', .int .i64 q']] w (GrewV w (.bool (lessI ⟨s, q⟩ ⟨s', q'⟩))) := by
  have HI : Hid (lessI ⟨s, q⟩ ⟨s', q'⟩ = (decide (s < s') || (decide (s = s') && decide (q < q')))) := rfl
  go_enter Tryz.func189, Tryz.ntmps189
  go_wp2
  all_goals go_ret
  all_goals refine ⟨ret_bool ?_, grew_2 _ _ _⟩
  all_goals rw [HI.out]
  all_goals simp_all
theorem nan15 (s : Int) (w : World) : Calls Tryz.prog 207 #[.int .u64 s] w fun e w' => e = .returned (.bool false) ∧ w = w' := by
  go_enter Tryz.func207, Tryz.ntmps207
  go_wp2
  go_ret
  exact ⟨by simp, rfl⟩
def cmpN (a b : Nat) : Int := if a < b then -1 else if b < a then 1 else 0
theorem ret_int15 {a b : Int} (h : a = b) : Ending.returned (.int .i64 b) = .returned (.int .i64 a) := by rw [h]
theorem cmp15 (a b : Nat) (w : World) : Calls Tryz.prog 188 #[.int .u64 (a : Int), .int .u64 (b : Int)] w fun e w' => e = .returned (.int .i64 (cmpN a b)) ∧ w = w' := by
  by_cases h1 : a < b
  · have HC : Hid (cmpN a b = -1) := by show _ = _; rw [cmpN, if_pos h1]
    have q1 : (a : Int) < (b : Int) := by omega
    go_enter Tryz.func188, Tryz.ntmps188
    go_wp2_with (go_at_call 207; refine (nan15 _ _).mono ?_; rintro e w1 ⟨rfl, rfl⟩)
    go_ret
    exact ⟨ret_int15 HC.out, rfl⟩
  · have q1 : ¬ ((a : Int) < (b : Int)) := by omega
    by_cases h2 : b < a
    · have HC : Hid (cmpN a b = 1) := by show _ = _; rw [cmpN, if_neg h1, if_pos h2]
      have q2 : (b : Int) < (a : Int) := by omega
      go_enter Tryz.func188, Tryz.ntmps188
      go_wp2_with (go_at_call 207; refine (nan15 _ _).mono ?_; rintro e w1 ⟨rfl, rfl⟩)
      go_ret
      exact ⟨ret_int15 HC.out, rfl⟩
    · have HC : Hid (cmpN a b = 0) := by show _ = _; rw [cmpN, if_neg h1, if_neg h2]
      have q2 : ¬ ((b : Int) < (a : Int)) := by omega
      go_enter Tryz.func188, Tryz.ntmps188
      go_wp2_with (go_at_call 207; refine (nan15 _ _).mono ?_; rintro e w1 ⟨rfl, rfl⟩)
      go_ret
      exact ⟨ret_int15 HC.out, rfl⟩
theorem ret_st {a b : Nat} (h : a = b) : Ending.returned (.int .u64 (b : Int)) = .returned (.int .u64 (a : Int)) := by rw [h]
theorem wf_u64 {c : Int} (h : (Lit.int .u64 c).wf = true) : ∃ n : Nat, c = (n : Int) := by
  refine ⟨c.toNat, ?_⟩
  have : 0 ≤ c := by
    have hm : IntKind.u64.min = 0 := by decide
    simp [Lit.wf, hm] at h
    omega
  omega
theorem max_cast (a b : Nat) : max (a : Int) (b : Int) = ((max a b : Nat) : Int) := by omega
set_option maxRecDepth 100000 in
set_option maxHeartbeats 2000000 in
theorem stamp15 {w : World} {B p mb : Nat} {gv : Value} {o : OneD} (h : OneIn w B p mb gv o) (hn : (o.known.map (·.1)).Nodup) :
    Calls Tryz.prog 105 #[.pointer (some ⟨p, 0, none⟩)] w (GrewV w (.int .u64 (o.stamp : Int))) := by
  obtain ⟨c0, c1, c2, c3, c4, c5⟩ := h.cs
  have hown := h.kn
  unfold uMap at hown
  obtain ⟨fi, hfi⟩ : ∃ b, o.final = b := ⟨_, rfl⟩
  rw [hfi] at c5
  cases fi
  · have HE : Hid (o.stamp = o.own) := by show _ = _; rw [OneD.stamp, hfi]; rfl
    clear hfi hown
    go_enter Tryz.func105, Tryz.ntmps105
    go_wp2
    go_ret
    exact ⟨ret_st HE.out, Grew.refl _⟩
  · have HE : Hid (o.stamp = topK o.known o.own) := by show _ = _; rw [OneD.stamp, hfi]; rfl
    have HN := Lib.hid hn
    clear hfi hn
    go_enter Tryz.func105, Tryz.ntmps105
    go_wp2_with (at_range; refine wpList_range_d rfl _ rfl keyI15 Tryz.underlying198 rfl hown ?_; intro w0 hrg0 hg0 hs0 hd0)
    go_frame
    go_loopw [3, 5] (fun s _ wr => ∃ (left : Lit → Bool) (cnt sv : Nat), s = .int .u64 (sv : Int) ∧ wr.ranges Tryz.prog 3 (plainElem (H := Unit) Tryz.prog 39) mb w.heap.size o.known.length (putsU o.known) left cnt ∧ Hid (TopTo o.known o.own left sv) ∧ Grew w wr) (fun _ _ wr => wr.rangeLeft mb w.heap.size)
    case atStart => exact ⟨_, _, o.own, rfl, hrg0, Lib.hid (TopTo.start o.known o.own), (Below.refl _ w).grown hg0 (Nat.le_refl _) (fun k e => by cases e), hd0⟩
    case round =>
      obtain ⟨left, cnt, sv, rfl, hrg, hgone, hw⟩ := hrel
      go_wp2_with (at_next; refine wpList_next_d rfl _ rfl .i64 .u64 keyI15 Tryz.underlying3 Tryz.underlying39 rfl hrg ?_ ?_)
      · intro _ hl0
        have HS : Hid (sv = topK o.known o.own) := hgone.out.end hl0
        clear hl0
        go_wp2
        go_ret
        exact ⟨ret_st (by rw [HE.out, HS.out]), hw⟩
      · intro x c w1 cnt1 hwx hwc hlk hat hrg1 hlt hg1 hs1 hd1 hen
        obtain ⟨cn, rfl⟩ := wf_u64 hwc
        have HT := Lib.hid (TopTo.step HN.out hgone.out hat)
        have hw1 : Grew w w1 := ⟨hw.1.grown hg1 hw.1.size (fun k e => by cases e; exact Nat.le_refl _), Nat.le_trans hw.2 hd1⟩
        have hmx := max_cast sv cn
        have HL := Lib.hid (show w1.rangeLeft mb w.heap.size < wr.rangeLeft mb w.heap.size by rw [hrg1.left_eq, hrg.left_eq]; exact hlt)
        clear hat hwc hwx hlk hlt hg1 hs1 hd1
        go_wp2
        go_roundw
        case rel => exact ⟨_, _, max sv cn, rfl, hrg1, HT, hw1⟩
        case measure => exact HL.out
theorem cmpO_eq (a b : OneD) : cmpO a b = if cmpN a.stamp b.stamp ≠ 0 then cmpN a.stamp b.stamp else if lessI a.id b.id then -1 else 1 := by
  unfold cmpO cmpN
  by_cases h1 : a.stamp < b.stamp
  · simp [h1]
  · by_cases h2 : b.stamp < a.stamp
    · simp [h1, h2]
    · simp [h1, h2]
set_option maxRecDepth 100000 in
set_option maxHeartbeats 4000000 in
/-- order's comparator. -/
theorem orderC15 {w : World} {B p mb p' mb' : Nat} {gv gv' : Value} {o o' : OneD} (h : OneIn w B p mb gv o) (h' : OneIn w B p' mb' gv' o') (hn : (o.known.map (·.1)).Nodup) (hn' : (o'.known.map (·.1)).Nodup) :
    Calls Tryz.prog 187 #[.pointer (some ⟨p, 0, none⟩), .pointer (some ⟨p', 0, none⟩)] w (GrewV w (.int .i64 (cmpO o o'))) := by
  have HC := Lib.hid (cmpO_eq o o')
  have H := Lib.hid h
  have H' := Lib.hid h'
  obtain ⟨c0, c1, _⟩ := h.cs
  obtain ⟨d0, d1, _⟩ := h'.cs
  obtain ⟨cv, hcv⟩ : ∃ cv, Hid (cmpN o.stamp o'.stamp = cv) := ⟨_, rfl⟩
  have HCm : Hid (∀ wz, Calls Tryz.prog 188 #[.int .u64 (o.stamp : Int), .int .u64 (o'.stamp : Int)] wz fun e w' => e = .returned (.int .i64 cv) ∧ wz = w') := fun wz => by
    have := cmp15 o.stamp o'.stamp wz
    rw [hcv.out] at this
    exact this
  rw [hcv.out] at HC
  clear h h'
  by_cases hz : cv = 0
  · subst hz
    obtain ⟨lb, hlb⟩ : ∃ lb, Hid (lessI o.id o'.id = lb) := ⟨_, rfl⟩
    have HLe : Hid (∀ wz, Calls Tryz.prog 189 #[.agg #[.int .i64 o.id.ses, .int .i64 o.id.seq], .agg #[.int .i64 o'.id.ses, .int .i64 o'.id.seq]] wz (GrewV wz (.bool lb))) := fun wz => by
      have := less15 o.id.ses o.id.seq o'.id.ses o'.id.seq wz
      rw [hlb.out] at this
      exact this
    have HV : Hid (cmpO o o' = if lb then -1 else 1) := by show _ = _; rw [HC.out, hlb.out]; simp
    clear HC
    go_enter Tryz.func187, Tryz.ntmps187
    go_wp2_with (first
      | (go_at_call 105; (first | ((with_reducible refine (stamp15 (H'.out.later hw1.1) hn').mono ?_); rintro e w2 ⟨rfl, hb⟩; have hw2 := Grew.trans hw1 hb; clear hb) | ((with_reducible refine (stamp15 H.out hn).mono ?_); rintro e w1 ⟨rfl, hw1⟩)))
      | (go_at_call 188; (with_reducible refine (HCm.out _).mono ?_); rintro e w3 ⟨rfl, rfl⟩))
    replace c0 := keep hw2.1 c0
    replace c1 := keep hw2.1 c1
    replace d0 := keep hw2.1 d0
    replace d1 := keep hw2.1 d1
    go_region_held3 (fun w' => w'.cell? ⟨p, 0, none⟩ = some (.int .i64 o.id.ses) ∧ w'.cell? ⟨p, 1, none⟩ = some (.int .i64 o.id.seq) ∧ w'.cell? ⟨p', 0, none⟩ = some (.int .i64 o'.id.ses) ∧ w'.cell? ⟨p', 1, none⟩ = some (.int .i64 o'.id.seq) ∧ Grew w w')
      (first | exact ⟨c0, c1, d0, d1, Grew.drew hw2⟩ | (with_reducible exact ⟨keep hb4.1 c0, keep hb4.1 c1, keep hb4.1 d0, keep hb4.1 d1, hw4⟩))
      ((go_at_call 189; (with_reducible refine (HLe.out _).mono ?_); rintro e w4 ⟨rfl, hb⟩; have hb4 : Grew w2 w4 := Grew.trans (Grew.drew (Grew.refl w2)) hb; have hw4 : Grew w w4 := Grew.trans hw2 hb4))
    cases lb
    · go_wp2
      go_ret
      exact ⟨ret_int15 HV.out, hw4⟩
    · go_wp2
      go_ret
      exact ⟨ret_int15 HV.out, hw4⟩
  · have HV : Hid (cmpO o o' = cv) := by show _ = _; rw [HC.out, if_pos hz]
    have qz : (cv != 0) = true := by rw [bne_iff_ne]; exact hz
    clear HC hz
    go_enter Tryz.func187, Tryz.ntmps187
    go_wp2_with (first
      | (go_at_call 105; (first | ((with_reducible refine (stamp15 (H'.out.later hw1.1) hn').mono ?_); rintro e w2 ⟨rfl, hb⟩; have hw2 := Grew.trans hw1 hb; clear hb) | ((with_reducible refine (stamp15 H.out hn).mono ?_); rintro e w1 ⟨rfl, hw1⟩)))
      | (go_at_call 188; (with_reducible refine (HCm.out _).mono ?_); rintro e w3 ⟨rfl, rfl⟩))
    go_ret
    exact ⟨ret_int15 HV.out, hw2⟩
end Go.Proofs.YtcldpmkhpmlcbaaGreatDoor
/- order: the queue's row of pointers is sorted, by what the ones' blocks say. -/
namespace Go.Proofs.YtcldpmkhpmlcbaaGreatDoor
open Go.RowKit Go.Shelf Go.Sort Go.Lib

/-- Elements of a list, with where they are from. -/
abbrev InL (es : List EntD) := { e : EntD // e ∈ es }
def encE {es : List EntD} (a : InL es) : Value := a.1.ptr
def cmpE {es : List EntD} (a b : InL es) : Int := cmpO a.1.o b.1.o
theorem ltE {es : List EntD} (a b : InL es) : ltOf cmpE a b = ltO a.1.o b.1.o := by
  unfold ltOf cmpE
  exact cmpO_lt _ _
theorem swoE (es : List EntD) : SWO (ltOf (cmpE (es := es))) where
  irrefl x := by rw [ltE]; exact ltO_irr _
  trans x y z h1 h2 := by rw [ltE] at *; exact ltO_trans h1 h2
  ntrans x y z h1 h2 := by
    rw [ltE] at *
    have := leO_trans z.1.o y.1.o x.1.o (by rw [leO, h2]; rfl) (by rw [leO, h1]; rfl)
    simpa [leO] using this
theorem heap_enc {α : Type} [Inhabited α] (enc : α → Value) {w : World} {g off n : Nat} {os : Array Obj} {cur : Array Value} {e : TypeId} {fr : Nat × Nat} (d : Array α) (hb : w.heap[g]? = some (.cells cur e fr)) :
    (grow (putRow enc (Sort.ahead w n) g off d) os).heap[g]? = some (.cells (putCells enc off d cur) e fr) := by
  have hg : g < w.heap.size := (Array.getElem?_eq_some_iff.1 hb).1
  rw [heap_grow_old _ _ (by simpa using hg)]
  simp [putRow, mapBlock, Sort.ahead, Array.getElem?_modify, hb, onCells]
theorem grownBy_enc {α : Type} [Inhabited α] (enc : α → Value) {w : World} {g off n : Nat} {os : Array Obj} (d : Array α) : w.grownBy (grow (putRow enc (Sort.ahead w n) g off d) os) (some g) := by
  refine ⟨rfl, rfl, rfl, by simp, fun k hk hne => ?_⟩
  rw [heap_grow_old _ _ (by simpa using hk)]
  have : g ≠ k := fun e => hne (by rw [e])
  simp [putRow, mapBlock, Sort.ahead, Array.getElem?_modify, this]
theorem take_enc {α : Type} [Inhabited α] (enc : α → Value) (cur : Array Value) (off : Nat) (F : Array α) (h : off + F.size ≤ cur.size) : ((putCells enc off F cur).toList.drop off).take F.size = F.toList.map enc := by
  apply List.ext_getElem?
  intro j
  by_cases hj : j < F.size
  · rw [List.getElem?_take_of_lt hj, List.getElem?_drop, Array.getElem?_toList]
    simp [putCells, hj, show off + j < cur.size by omega]
  · rw [List.getElem?_take_eq_none (by omega), List.getElem?_eq_none (by simp; omega)]
theorem holds_enc {α : Type} [Inhabited α] (enc : α → Value) {w : World} {g off : Nat} {cur : Array Value} {e : TypeId} {F : Array α} (hb : w.heap[g]? = some (.cells cur e (0, 0))) (ht : (cur.toList.drop off).take F.size = F.toList.map enc) : Holds enc w g off F := by
  intro j hj
  refine ⟨?_, by simp [World.frozen?, hb]⟩
  have h1 : ((cur.toList.drop off).take F.size)[j]? = (F.toList.map enc)[j]? := by rw [ht]
  rw [List.getElem?_take_of_lt hj, List.getElem?_drop] at h1
  simp only [World.cell?, hb]
  simp only [Option.isSome_none, Bool.false_eq_true, if_false]
  rw [← Array.getElem?_toList, h1]
  simp [hj]
def SortPost15 (w : World) (B : Nat) (v : Value) (es : List EntD) (e : Ending) (w' : World) : Prop :=
  e = .returned (.tuple #[]) ∧ ∃ es' : List EntD, es'.Perm es ∧ (es'.map EntD.o).Pairwise (fun a b => leO a b = true) ∧ TailRow w' B 191 v (es'.map EntD.ptr) ∧ w.grownBy w' v.ownBlock
theorem sort15 {w : World} {B p : Nat} {x : QD} {v : Value} {es : List EntD} {O : Nat → Prop} (h : QIn w B p x v es O) (hn : ∀ o ∈ x.l, (o.known.map (·.1)).Nodup) (h0 : 0 < es.length) (hsz : es.length < 1000000) :
    Calls Tryz.prog 186 #[v, .func (.func 187) #[] #[]] w (SortPost15 w B v es) := by
  have hnn : ∀ e ∈ es, (e.o.known.map (·.1)).Nodup := fun e he => hn _ (by rw [← h.eq]; exact List.mem_map.2 ⟨e, he, rfl⟩)
  rcases h.row with ⟨_, e⟩ | ⟨g, off, cap, cur, rfl, hg, hb, hlc, hm, hc, ht⟩
  · have := congrArg List.length e; rw [List.length_map, List.length_nil] at this; omega
  · have hInh : Inhabited (InL es) := ⟨⟨es.getD 0 default, ent_mem h0⟩⟩
    have hds : (es.attach.toArray).size = es.length := by simp
    have hdm : es.attach.toArray.toList.map (encE (es := es)) = es.map EntD.ptr := by
      simp only [List.toList_toArray]
      conv => rhs; rw [← List.attach_map_subtype_val es]
      rw [List.map_map]
      rfl
    rw [List.length_map] at hlc ht ⊢
    have hF : (cur.toList.drop off).take (es.attach.toArray).size = (es.attach.toArray).toList.map (encE (es := es)) := by rw [hds, hdm]; exact ht
    have eg : ∀ args w, (callFunc 187 args).run Tryz.prog w = .ok (.enter 187 args) w := enters_of Tryz.func187 (by kernel_rfl) rfl
    have hO : ∀ (m : Nat) (os : Array Obj) (dk : Array (InL es)), Out (fun k => k = g) w (sortWorld encE w g off m dk os) := fun m os dk => Out.of_grown (grownBy_enc encE dk) (fun k e => by cases e; rfl)
    have hcmp : CmpLays1 Tryz.prog 187 #[] (encE (es := es)) cmpE g off (es.attach.toArray).size w := fun m os dk _ a b => by
      have ha := (h.one a.1 a.2).out (hO m os dk) (fun e => blk_ne (h.one a.1 a.2).blk hb (cells_ne (by decide)) e) (fun e => map_ne (h.one a.1 a.2).kn hb e) (fun g' hg' e => row_ne (h.one a.1 a.2).gr hb (by decide) hg' e)
      have hb' := (h.one b.1 b.2).out (hO m os dk) (fun e => blk_ne (h.one b.1 b.2).blk hb (cells_ne (by decide)) e) (fun e => map_ne (h.one b.1 b.2).kn hb e) (fun g' hg' e => row_ne (h.one b.1 b.2).gr hb (by decide) hg' e)
      exact (orderC15 ha hb' (hnn _ a.2) (hnn _ b.2)).mono fun e w' ⟨he, hgw⟩ => ⟨he, hgw.form⟩
    have hcon := Any.slices_SortFunc Tryz.sortO (encE (es := es)) (fun _ => rfl) cmpE (swoE es) 187 #[] g off cap es.attach.toArray w eg hcmp (holds_enc encE hb hF) (Array.getElem?_eq_some_iff.1 hb).1 (by rw [hds]; omega)
    rw [hds] at hcon
    change Calls Tryz.prog 186 _ _ _ at hcon
    refine Calls.mono hcon ?_
    rintro e w' ⟨he, d', n, os, hp, hs, hw⟩
    have hz : d'.size = es.length := by rw [hp.1, hds]
    have hpm : d'.toList.Perm es.attach := by
      have h3 := hp.2.2
      have e1 : d'.toList.take es.length = d'.toList := List.take_of_length_le (by simp [hz])
      have e2 : es.attach.take es.length = es.attach := List.take_of_length_le (by simp)
      simpa [e1, e2] using h3
    have hlen : (d'.toList.map (·.1)).length = es.length := by simp [hz]
    have hmp : (d'.toList.map (·.1)).map EntD.ptr = d'.toList.map (encE (es := es)) := by rw [List.map_map]; rfl
    refine ⟨he, d'.toList.map (·.1), ?_, ?_, ?_, ?_⟩
    · have := hpm.map (Subtype.val)
      rw [List.attach_map_subtype_val] at this
      exact this
    · rw [List.map_map, List.pairwise_map, List.pairwise_iff_getElem]
      intro i j hi hj hij
      have h3 := hs i j (Nat.zero_le _) hij (by simp at hj; omega)
      rw [ltE, getElem!_pos d' j (by simpa using hj), getElem!_pos d' i (by simpa using hi)] at h3
      show (!ltO (d'.toList[j]).1.o (d'.toList[i]).1.o) = true
      simp only [Array.getElem_toList]
      rw [h3]; rfl
    · have hl2 : ((d'.toList.map (·.1)).map EntD.ptr).length = es.length := by rw [List.length_map, hlen]
      rw [hw]
      refine .inr ⟨g, off, cap, _, by rw [hl2], hg, heap_enc encE _ hb, by rw [hl2]; exact hlc, hm, by simp [putCells]; omega, ?_⟩
      have h4 := take_enc (encE (es := es)) cur off d' (by rw [hz]; omega)
      rw [hl2, hmp, ← hz]
      exact h4
    · rw [hw]; exact grownBy_enc encE _
end Go.Proofs.YtcldpmkhpmlcbaaGreatDoor
/- order: the queue is sorted. -/
namespace Go.Proofs.YtcldpmkhpmlcbaaGreatDoor
open Go.RowKit Go.Shelf Go.Sort Go.Lib

theorem OneIn.past_row {w w' : World} {B p mb : Nat} {gv v : Value} {xs : List Value} {o : OneD} (h1 : OneIn w B p mb gv o) (hr : TailRow w B 191 v xs) (ho : Out (fun k => v.ownBlock = some k) w w') : OneIn w' B p mb gv o := by
  refine h1.out ho (fun e2 => hr.ne h1.blk (by decide) e2 rfl) (fun e2 => ?_) (fun g hg' e2 => ?_)
  · rcases hr with ⟨rfl, _⟩ | ⟨g', off, cap, cur, rfl, _, hh, _⟩
    · cases e2
    · injection e2 with e2
      exact map_ne h1.kn hh e2.symm
  · rcases hr with ⟨rfl, _⟩ | ⟨g', off, cap, cur, rfl, _, hh, _⟩
    · cases e2
    · injection e2 with e2
      subst e2
      exact row_ne h1.gr hh (by decide) hg' rfl
theorem QIn.sorted {w w' : World} {B p : Nat} {x : QD} {v : Value} {es es' : List EntD} {O : Nat → Prop} (h : QIn w B p x v es O) (hid : (x.l.map OneD.id).Nodup) (hp : es'.Perm es)
    (hs : (es'.map EntD.o).Pairwise (fun a b => leO a b = true)) (hr : TailRow w' B 191 v (es'.map EntD.ptr)) (hg : w.grownBy w' v.ownBlock) :
    QIn w' B p ⟨x.g, x.clock, sortQ x.l⟩ v es' O := by
  have ho : Out (fun k => v.ownBlock = some k) w w' := Out.of_grown hg (fun k e => e)
  have hm : ∀ e ∈ es', e ∈ es := fun e he => hp.mem_iff.1 he
  exact { blk := ho.obj h.blk (fun e => h.row.ne h.blk (by decide) e rfl), row := hr, eq := by
            have h1 : (es'.map EntD.o).Perm x.l := by rw [← h.eq]; exact hp.map _
            refine sorted_eq (h1.trans (sortQ_perm _).symm) hs (sortQ_sorted _) ?_
            exact ((h1.map OneD.id).nodup_iff).2 hid
          one := fun e he => (h.one e (hm e he)).past_row h.row ho
          np := ((hp.map EntD.p).nodup_iff).2 h.np, nm := ((hp.map EntD.mb).nodup_iff).2 h.nm, hp := h.hp, mv := h.mv, me := fun e he => h.me e (hm e he), lt := fun k hk => ⟨(h.lt k hk).1, Nat.lt_of_lt_of_le (h.lt k hk).2 ho.size⟩ }
def QSortPost (w : World) (B p : Nat) (x : QD) (v : Value) (O : Nat → Prop) (e : Ending) (w' : World) : Prop :=
  e = .returned (.tuple #[]) ∧ Out O w w' ∧ ∃ es', QIn w' B p ⟨x.g, x.clock, sortQ x.l⟩ v es' O
theorem order15 {w : World} {B p : Nat} {x : QD} {v : Value} {es : List EntD} {O : Nat → Prop} (h : QIn w B p x v es O) (hn : ∀ o ∈ x.l, (o.known.map (·.1)).Nodup) (hid : (x.l.map OneD.id).Nodup) (h0 : 0 < es.length) (hsz : es.length < 1000000) :
    Calls Tryz.prog 146 #[.pointer (some ⟨p, 0, none⟩)] w (QSortPost w B p x v O) := by
  obtain ⟨c0, c1, c2⟩ := h.cs
  have HS := Lib.hid (sort15 h hn h0 hsz)
  have H := Lib.hid h
  have HI := Lib.hid hid
  clear h hn h0 hsz hid
  go_enter Tryz.func146, Tryz.ntmps146
  go_wp2_with (go_at_call 186; (with_reducible refine HS.out.mono ?_); rintro e w1 ⟨rfl, es', hp, hs, hr, hg⟩)
  go_end0
  exact ⟨rfl, Out.of_grown hg (fun k e => H.out.mv k e), es', H.out.sorted HI.out hp hs hr hg⟩
end Go.Proofs.YtcldpmkhpmlcbaaGreatDoor
/- slices.Values, AppendSeq, Collect, Sorted at ints: the numbers of a slice, sorted, in a slice of the call's own. -/
namespace Go.Proofs.YtcldpmkhpmlcbaaGreatDoor
open Go.RowKit Go.Shelf

attribute [local go_sem] Oper.semAt_some

/-- What has come when k rounds are over. -/
def upto {α : Type} (f : Nat → α) (k : Nat) : List α := (List.range k).map f
theorem upto_succ {α : Type} (f : Nat → α) (k : Nat) : upto f (k + 1) = upto f k ++ [f k] := by simp [upto, List.range_succ]
theorem upto_length {α : Type} (f : Nat → α) (k : Nat) : (upto f k).length = k := by simp [upto]
theorem upto_all (zs : List Int) : upto (fun j => zs[j]?.getD 0) zs.length = zs := by
  apply List.ext_getElem
  · simp [upto]
  · intro i h1 h2
    simp [upto, h2]
theorem upto_take (zs : List Int) {k : Nat} (hk : k ≤ zs.length) : upto (fun j => zs[j]?.getD 0) k = zs.take k := by
  apply List.ext_getElem
  · simp [upto, hk]
  · intro i h1 h2
    have : i < zs.length := by simp [upto] at h1; omega
    simp [upto, this]
/-- The slice value sv holds the ints zs, in a block below n₀; or it is empty. -/
def IntsIn (n₀ : Nat) (W : World) (sv : Value) (zs : List Int) : Prop :=
  (∃ A cap, sv = .slice A 0 cap ∧ zs = []) ∨ ∃ b off cap, sv = .slice (some ⟨b, off, none⟩) zs.length cap ∧ b < n₀ ∧ ∀ j, j < zs.length → W.cell? ⟨b, off + j, none⟩ = some (.int .i64 (zs[j]?.getD 0))
theorem IntsIn.below {n₀ : Nat} {A B : World} (h : Below n₀ A B) {sv : Value} {zs : List Int} : IntsIn n₀ A sv zs → IntsIn n₀ B sv zs
  | .inl e => .inl e
  | .inr ⟨b, off, cap, e, hb, hc⟩ => .inr ⟨b, off, cap, e, hb, fun j hj => (h.cell (p := ⟨b, off + j, none⟩) hb).trans (hc j hj)⟩
theorem IntsIn.of {w : World} {A : Option Addr} {l : List Int} {cap : Nat} (h : IntsAt w A l) : IntsIn w.heap.size w (.slice A l.length cap) l := by
  by_cases h0 : l = []
  · subst h0; exact .inl ⟨A, cap, rfl, rfl⟩
  · have hp : 0 < l.length := List.length_pos_iff.2 h0
    obtain ⟨b, off, rfl, hc⟩ := h 0 hp
    refine .inr ⟨b, off, cap, rfl, ?_, fun j hj => ?_⟩
    · rcases Nat.lt_or_ge b w.heap.size with q | q
      · exact q
      · exfalso
        have : w.heap[b]? = none := Array.getElem?_eq_none q
        simp [World.cell?, this] at hc
    · obtain ⟨b', off', e, hc'⟩ := h j hj
      cases e
      rw [hc']
      simp [List.getD_eq_getElem?_getD]

set_option maxRecDepth 100000 in
set_option maxHeartbeats 2000000 in
theorem values1_in (F : Fence) (n : Nat) (h7 : F.fn 191) (hro : F.round = none) (hn : 1 ≤ n) (l Bs n₀ b off len cap : Nat) (zs : List Int) (hreach : len * 8 ≤ 140737488351232) (hb : b < n₀) (J Jx : List Int → World → Prop)
    (hY : ∀ pre x W, J pre W → pre.length < len → YieldAt F (n - 1) Tryz.prog l #[.int .i64 x] W fun e W' =>
      (e = .returned (.bool true) ∧ J (pre ++ [x]) W' ∧ Below n₀ W W') ∨ (e = .returned (.bool false) ∧ Jx (pre ++ [x]) W'))
    (W : World) (hBs : W.cell? ⟨Bs, 0, none⟩ = some (.slice (some ⟨b, off, none⟩) len cap)) (hc : ∀ j, j < len → W.cell? ⟨b, off + j, none⟩ = some (.int .i64 (zs[j]?.getD 0))) (h0 : J [] W) :
    CallsIn F n Tryz.prog 191 #[.func (.yield l) #[] #[], .pointer (some ⟨Bs, 0, none⟩)] W fun e W' => (∃ v, e = .returned v) ∧
      ((∃ ys, ys = upto (fun j => zs[j]?.getD 0) len ∧ J ys W') ∨ (∃ pre, (∃ k, k ≤ len ∧ pre = upto (fun j => zs[j]?.getD 0) k) ∧ Jx pre W')) := by
  refine callsIn_of_wp Tryz.func191 rfl h7 ?_ hro
  simp only [Tryz.ntmps191, List.size_toArray, List.length_cons, List.length_nil, Nat.reduceAdd, Nat.reduceSub, Array.replicate_succ, Array.replicate_zero, List.push_toArray, List.append_toArray, List.nil_append, List.cons_append]
  gi_wp2
  gi_loopw [7] (fun i wr => ∃ k : Nat, k ≤ len ∧ i = .int .i64 k ∧ J (upto (fun j => zs[j]?.getD 0) k) wr ∧ Below n₀ W wr)
    (fun i _ => len - (intOf i).toNat)
  case atStart => exact ⟨0, Nat.zero_le _, rfl, h0, Below.refl _ _⟩
  case round =>
    obtain ⟨k, hk, rfl, hJs, hnx⟩ := hrel
    have hcx : k < len → wr.cell? ⟨b, off + k, none⟩ = some (.int .i64 (zs[k]?.getD 0)) := fun h => (hnx.cell (p := ⟨b, off + k, none⟩) hb).trans (hc k h)
    by_cases hlt : k < len
    · obtain ⟨fn, tmps, assign, body, hy, hR⟩ := hY _ (zs[k]?.getD 0) wr hJs (by rw [upto_length]; exact hlt)
      have hcx' := hcx hlt
      gi_wp2
      refine hR.mono ?_
      rintro e W3 (⟨rfl, hJ3, hk3⟩ | ⟨rfl, hJx3⟩)
      · gi_wp2
        go_roundw
        case rel => exact ⟨k + 1, by omega, by simp, by rw [upto_succ]; exact hJ3, hnx.trans hk3⟩
        case measure => simp [intOf]; omega
      · gi_wp2
        refine bodyPost_ret (results_none rfl _ _ _) rfl ?_
        exact ⟨⟨_, rfl⟩, .inr ⟨_, ⟨k + 1, by omega, (upto_succ _ _).symm⟩, hJx3⟩⟩
    · obtain rfl : k = len := by omega
      gi_wp2
      go_end0
      exact ⟨⟨_, rfl⟩, .inl ⟨_, rfl, hJs⟩⟩
set_option maxRecDepth 100000 in
set_option maxHeartbeats 1000000 in
theorem values1_nil_in (F : Fence) (n : Nat) (h7 : F.fn 191) (hro : F.round = none) (l Bs : Nat) (A : Option Addr) (cap : Nat) (J : List Int → World → Prop) (W : World) (hBs : W.cell? ⟨Bs, 0, none⟩ = some (.slice A 0 cap)) (h0 : J [] W) :
    CallsIn F n Tryz.prog 191 #[.func (.yield l) #[] #[], .pointer (some ⟨Bs, 0, none⟩)] W fun e W' => (∃ v, e = .returned v) ∧ J [] W' := by
  refine callsIn_of_wp Tryz.func191 rfl h7 ?_ hro
  simp only [Tryz.ntmps191, List.size_toArray, List.length_cons, List.length_nil, Nat.reduceAdd, Nat.reduceSub, Array.replicate_succ, Array.replicate_zero, List.push_toArray, List.append_toArray, List.nil_append, List.cons_append]
  gi_wp2
  gi_loopw [7] (fun i wr => i = .int .i64 0 ∧ J [] wr) (fun _ _ => 0)
  case atStart => exact ⟨rfl, h0⟩
  case round =>
    obtain ⟨rfl, hJs⟩ := hrel
    gi_wp2
    go_end0
    exact ⟨⟨_, rfl⟩, hJs⟩
theorem values_stops (F : Fence) (n : Nat) (h7 : F.fn 191) (hro : F.round = none) (hn : 1 ≤ n) (Bs n₀ : Nat) (sv : Value) (zs : List Int) (hreach : zs.length * 8 ≤ 140737488351232) (w : World) (hBs : Bs < w.heap.size) (hn₀ : n₀ ≤ w.heap.size)
    (hc : w.cell? ⟨Bs, 0, none⟩ = some sv) (hI : IntsIn n₀ w sv zs) :
    SeqStopsK F n Tryz.prog 191 #[.pointer (some ⟨Bs, 0, none⟩)] (fun x : Int => #[Value.int .i64 x]) (Below n₀) (fun ys => ys = zs) (fun pre => pre <+: zs) zs.length w := fun l J Jx W hW _ _ hY h0 => by
  have hc' := (hW.cell (p := ⟨Bs, 0, none⟩) hBs).trans hc
  rcases hI.below (hW.mono hn₀) with ⟨A, cap, rfl, rfl⟩ | ⟨b, off, cap, rfl, hb, hcs⟩
  · exact (values1_nil_in F n h7 hro l Bs A cap J W hc' h0).mono fun e W' ⟨he, hj⟩ => ⟨he, .inl ⟨_, rfl, hj⟩⟩
  · refine (values1_in F n h7 hro hn l Bs n₀ b off zs.length cap zs hreach hb J Jx hY W hc' hcs h0).mono ?_
    rintro e W' ⟨he, ⟨ys, rfl, hj⟩ | ⟨pre, ⟨k, hk, rfl⟩, hj⟩⟩
    · exact ⟨he, .inl ⟨_, upto_all zs, hj⟩⟩
    · exact ⟨he, .inr ⟨_, by rw [upto_take zs hk]; exact List.take_prefix _ _, hj⟩⟩
end Go.Proofs.YtcldpmkhpmlcbaaGreatDoor
