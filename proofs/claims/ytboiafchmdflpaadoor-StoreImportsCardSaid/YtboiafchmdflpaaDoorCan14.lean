/- The reference's can. -/
import Derived.Test.YtboiafchmdflpaaDoorRefSt14
import Derived.Deep.DeepCutAuto
namespace Go.Proofs.YtboiafchmdflpaaDoor
open Go.RowKit Go.Maps Go.Sort Go.Shelf

set_option maxRecDepth 100000 in
set_option maxHeartbeats 8000000 in
theorem can14_any {w : World} {B q : Nat} {O : Nat → Prop} {L : List It} {la lo : Nat} (h : RefAt w B q O L la lo) (x : It) (hn : L.length ≤ 900000) (hk : x.key.size ≤ maxLen) :
    Calls Tryd.prog 69 #[.pointer (some ⟨q, 0, none⟩), itV x] w fun e w' => e = .returned (.bool (canB la lo L x)) ∧ Below w.heap.size w w' := by
  obtain ⟨W, eW, HB, hsz, hrow⟩ := new5 w (.string x.key) (.int .i64 x.val.kind) (.int .u64 (x.val.bits : Int)) (.string x.val.text) (.int .u64 (x.num : Int)) 102
  obtain ⟨y0, y1, y2, y3, y4⟩ := cells5 hrow
  clear hrow
  obtain ⟨v, h⟩ := h.later HB
  have c0 := h.c0
  have c1 := h.c1
  have c2 := h.c2
  obtain ⟨A, cap, hv, hcap, hA⟩ := own_its h.row
  rw [hv] at c0
  clear h hv hcap
  obtain ⟨k, ⟨z, bt, t⟩, n⟩ := x
  have hk : k.size ≤ maxLen := hk
  unfold itV
  dsimp only at y0 y1 y2 y3 y4 eW ⊢
  obtain ⟨lk, hlk⟩ : ∃ lk, Hid ((lastI L).key = lk) := ⟨_, rfl⟩
  obtain ⟨ln, hln⟩ : ∃ ln, Hid ((lastI L).num = ln) := ⟨_, rfl⟩
  obtain ⟨a1, ha1⟩ : ∃ a, Hid ((!(keyB k && !decide (n = 0) && decide (n ≤ la) && !(decide (n ≤ lo) && decide (z = 0)))) = a) := ⟨_, rfl⟩
  obtain ⟨a2, ha2⟩ : ∃ a, Hid ((decide (L.length = 0) || lessS lk k) = a) := ⟨_, rfl⟩
  have HC : Hid (canB la lo L ⟨k, ⟨z, bt, t⟩, n⟩ = (!a1 && (a2 || (decide (lk = k) && decide (n < ln) && decide (lo < ln))))) := by
    show _ = _
    rw [canB, hlk.out, hln.out, ← ha1.out, ← ha2.out, Bool.not_not]
  have hkc := fun wz => refKey_any k wz hk
  have hKK := Lib.hid hsz
  clear hsz
  go_enter Tryd.func69, Tryd.ntmps69
  go_upto_region 2 with fail
  go_cut [43] (fun s wx => s = .bool a1 ∧ Below W.heap.size W wx)
  case first =>
    cases hb1 : keyB k
    · rw [hb1] at hkc ha1
      have HA : Hid (a1 = true) := ha1.out.symm
      clear hb1 ha1
      go_wp2
      clear eW
      go_quiet ((go_at_call 51; exact quiet_left (hkc _)))
      go_wp2
      go_meet
      exact ⟨by rw [HA.out], below_drewN (Below.refl _ _) _⟩
    rw [hb1] at hkc ha1
    clear hb1
    by_cases h1 : n = 0
    · have HA : Hid (a1 = true) := by show _ = _; rw [← ha1.out, h1]; simp
      have t1 : ((n : Int) == 0) = true := by rw [beq_iff_eq]; omega
      have t1n : (n == 0) = true := by rw [beq_iff_eq]; omega
      clear h1 ha1
      go_wp2
      clear eW
      go_quiet ((go_at_call 51; exact quiet_left (hkc _)))
      go_wp2
      go_meet
      exact ⟨by rw [HA.out], below_drewN (Below.refl _ _) _⟩
    have t1 : ((n : Int) == 0) = false := by rw [beq_eq_false_iff_ne]; omega
    have t1n : (n == 0) = false := by rw [beq_eq_false_iff_ne]; omega
    by_cases h2 : n ≤ la
    case neg =>
      have HA : Hid (a1 = true) := by show _ = _; rw [← ha1.out, decide_eq_false h2]; simp
      have t2 : decide ((la : Int) < (n : Int)) = true := decide_eq_true (by omega)
      have t2n : decide (la < n) = true := decide_eq_true (by omega)
      clear h1 h2 ha1
      go_wp2
      clear eW
      go_quiet ((go_at_call 51; exact quiet_left (hkc _)))
      go_wp2
      go_meet
      exact ⟨by rw [HA.out], below_drewN (Below.refl _ _) _⟩
    have t2 : decide ((la : Int) < (n : Int)) = false := decide_eq_false (by omega)
    have t2n : decide (la < n) = false := decide_eq_false (by omega)
    by_cases h3 : n ≤ lo
    case neg =>
      have HA : Hid (a1 = false) := by show _ = _; rw [← ha1.out, decide_eq_false h1, decide_eq_true h2, decide_eq_false h3]; rfl
      have t3 : decide ((n : Int) ≤ (lo : Int)) = false := decide_eq_false (by omega)
      have t3n : decide (n ≤ lo) = false := decide_eq_false (by omega)
      clear h1 h2 h3 ha1
      go_wp2
      clear eW
      go_quiet ((go_at_call 51; exact quiet_left (hkc _)))
      go_wp2
      go_meet
      exact ⟨by rw [HA.out], below_drewN (Below.refl _ _) _⟩
    have t3 : decide ((n : Int) ≤ (lo : Int)) = true := decide_eq_true (by omega)
    have t3n : decide (n ≤ lo) = true := decide_eq_true (by omega)
    by_cases h4 : z = 0
    · have HA : Hid (a1 = true) := by show _ = _; rw [← ha1.out, decide_eq_true h3, decide_eq_true h4]; simp
      have t4 : (z == 0) = true := by rw [h4]; rfl
      clear h1 h2 h3 h4 ha1
      go_wp2
      clear eW
      go_quiet ((go_at_call 51; exact quiet_left (hkc _)))
      go_wp2
      go_meet
      exact ⟨by rw [HA.out], below_drewN (Below.refl _ _) _⟩
    · have HA : Hid (a1 = false) := by show _ = _; rw [← ha1.out, decide_eq_false h1, decide_eq_true h2, decide_eq_true h3, decide_eq_false h4]; rfl
      have t4 : (z == 0) = false := by rw [beq_eq_false_iff_ne]; exact h4
      clear h1 h2 h3 h4 ha1
      go_wp2
      clear eW
      go_quiet ((go_at_call 51; exact quiet_left (hkc _)))
      go_wp2
      go_meet
      exact ⟨by rw [HA.out], below_drewN (Below.refl _ _) _⟩
  case rest =>
    obtain ⟨rfl, hW1⟩ := hcut
    clear ha1 hkc eW
    cases a1
    case true =>
      go_wp2
      go_ret
      exact ⟨by rw [HC.out]; rfl, keepB HB hW1⟩
    replace c0 := keep hW1 c0
    replace c2 := keep hW1 c2
    replace y0 := keep hW1 y0
    replace y4 := keep hW1 y4
    replace hA := hA.later hW1
    replace HB := keepB HB hW1
    by_cases h0 : L.length = 0
    · have HA : Hid (a2 = true) := by show _ = _; rw [← ha2.out, decide_eq_true h0]; rfl
      have t0 : ((L.length : Int) == 0) = true := by rw [beq_iff_eq]; omega
      have t0n : (L.length == 0) = true := by rw [beq_iff_eq]; omega
      clear h0 ha2
      go_wp2
      go_quiet (fail)
      go_wp2
      go_ret
      exact ⟨by rw [HC.out, HA.out]; rfl, below_drewN HB _⟩
    have t0 : ((L.length : Int) == 0) = false := by rw [beq_eq_false_iff_ne]; omega
    have t0n : (L.length == 0) = false := by rw [beq_eq_false_iff_ne]; omega
    obtain ⟨j, hj⟩ : ∃ j, Hid (L.length = j + 1) := ⟨L.length - 1, by show _ = _; omega⟩
    obtain ⟨b, off, s, z2, bt2, tt, m, rfl, d0, d1, d2, d3, d4, HX⟩ := hA.at' (k := j) (by have := hj.out; omega)
    have hlast : lastI L = ⟨s, ⟨z2, bt2, tt⟩, m⟩ := by rw [lastI, hj.out, Nat.add_sub_cancel]; exact HX.out
    have e1 := hlk.out
    have e2 := hln.out
    rw [hlast] at e1 e2
    have e1 : s = lk := e1
    have e2 : m = ln := e2
    subst e1 e2
    have hwj : IntKind.i64.wrap ((L.length : Int) - 1) = (j : Int) := by have := hj.out; rw [show ((L.length : Int) - 1) = (j : Int) by omega]; exact IntWalk.i64_in _ (by omega)
    have hj0 : (0 : Int) ≤ (j : Int) := by omega
    have hjl : (j : Int) < (L.length : Int) := by have := hj.out; omega
    clear hlast hA hln hlk HX
    cases hl : lessS s k
    case true =>
      have hl' : Op.bytesLess s.toList k.toList = true := hl
      have HA : Hid (a2 = true) := by show _ = _; rw [← ha2.out, hl, Bool.or_true]
      clear h0 ha2 hl
      go_wp2
      go_quiet (fail)
      go_wp2
      go_ret
      exact ⟨by rw [HC.out, HA.out]; rfl, below_drewN HB _⟩
    have hl' : Op.bytesLess s.toList k.toList = false := hl
    have HA : Hid (a2 = false) := by show _ = _; rw [← ha2.out, hl, decide_eq_false h0]; rfl
    clear h0 ha2 hl
    by_cases h5 : s = k
    case neg =>
      have t5 : (s.toList == k.toList) = false := by rw [str_eq_dec, decide_eq_false h5]
      have HR : Hid (canB la lo L ⟨k, ⟨z, bt, t⟩, n⟩ = false) := by show _ = _; rw [HC.out, HA.out, decide_eq_false h5]; rfl
      clear h5
      go_wp2
      go_quiet (fail)
      go_wp2
      go_quiet (fail)
      go_wp2
      go_ret
      exact ⟨by rw [HR.out]; rfl, below_drewN (below_drewN HB _) _⟩
    have t5 : (s.toList == k.toList) = true := by rw [str_eq_dec, decide_eq_true h5]
    by_cases h6 : n < m
    case neg =>
      have HR : Hid (canB la lo L ⟨k, ⟨z, bt, t⟩, n⟩ = false) := by show _ = _; rw [HC.out, HA.out, decide_eq_false h6]; simp
      have t6 : decide ((n : Int) < (m : Int)) = false := decide_eq_false (by omega)
      have t6n : decide (n < m) = false := decide_eq_false h6
      clear h5 h6
      go_wp2
      go_quiet (fail)
      go_wp2
      go_quiet (fail)
      go_wp2
      go_ret
      exact ⟨by rw [HR.out]; rfl, below_drewN (below_drewN HB _) _⟩
    have t6 : decide ((n : Int) < (m : Int)) = true := decide_eq_true (by omega)
    have t6n : decide (n < m) = true := decide_eq_true h6
    by_cases h7 : lo < m
    · have HR : Hid (canB la lo L ⟨k, ⟨z, bt, t⟩, n⟩ = true) := by show _ = _; rw [HC.out, HA.out, decide_eq_true h5, decide_eq_true h6, decide_eq_true h7]; rfl
      have t7 : decide ((lo : Int) < (m : Int)) = true := decide_eq_true (by omega)
      have t7n : decide (lo < m) = true := decide_eq_true h7
      clear h5 h6 h7
      go_wp2
      go_quiet (fail)
      go_wp2
      go_quiet (fail)
      go_wp2
      go_ret
      exact ⟨by rw [HR.out]; rfl, below_drewN (below_drewN HB _) _⟩
    · have HR : Hid (canB la lo L ⟨k, ⟨z, bt, t⟩, n⟩ = false) := by show _ = _; rw [HC.out, HA.out, decide_eq_false h7]; simp
      have t7 : decide ((lo : Int) < (m : Int)) = false := decide_eq_false (by omega)
      have t7n : decide (lo < m) = false := decide_eq_false h7
      clear h5 h6 h7
      go_wp2
      go_quiet (fail)
      go_wp2
      go_quiet (fail)
      go_wp2
      go_ret
      exact ⟨by rw [HR.out]; rfl, below_drewN (below_drewN HB _) _⟩
end Go.Proofs.YtboiafchmdflpaaDoor
