/- The reference's Same of bytes. -/
import Derived.Test.YtfblemdpimbciaaDoorPut04
namespace Go.Proofs.YtfblemdpimbciaaDoor
open Go.RowKit Go.Shelf

theorem take_getD {l m : List UInt8} {k : Nat} (hk : k < l.length) (hm : k < m.length) (h : l.take k = m.take k) (hx : (l.getD k 0).toNat = (m.getD k 0).toNat) : l.take (k + 1) = m.take (k + 1) := by
  have e1 : l.getD k 0 = l[k] := by rw [List.getD_eq_getElem?_getD, List.getElem?_eq_getElem hk]; rfl
  have e2 : m.getD k 0 = m[k] := by rw [List.getD_eq_getElem?_getD, List.getElem?_eq_getElem hm]; rfl
  have e3 : l[k] = m[k] := by rw [← e1, ← e2]; exact UInt8.toNat_inj.1 hx
  rw [List.take_succ_eq_append_getElem hk, List.take_succ_eq_append_getElem hm, h, e3]
theorem BysAt.at8 {w : World} {A : Option Addr} {l : List UInt8} (h : BysAt w A l) {k : Nat} (hk : k < l.length) :
    ∃ b off y, A = some ⟨b, off, none⟩ ∧ w.cell? ⟨b, off + k, none⟩ = some (.int .u8 ((y : Nat) : Int)) ∧ Hid ((l.getD k 0).toNat = y) := by
  obtain ⟨b, off, e, hc⟩ := h k hk
  exact ⟨b, off, _, e, hc, rfl⟩
set_option maxRecDepth 100000 in
set_option maxHeartbeats 1000000 in
theorem refSame02_any (l m : List UInt8) (A B : Option Addr) (ca cb : Nat) (w : World) (hA : BysAt w A l) (hB : BysAt w B m) (hl : l.length ≤ 900000) :
    Calls Tryd.prog 18 #[.slice A l.length ca, .slice B m.length cb] w fun e w' => e = .returned (.bool (decide (l = m))) ∧ Below w.heap.size w w' := by
  by_cases hlen : l.length = m.length
  · have HL := Lib.hid hlen
    have t0 : ((l.length : Int) != (m.length : Int)) = false := by rw [hlen]; simp
    have t0n : (l.length != m.length) = false := by rw [hlen]; simp
    clear hlen
    go_enter Tryd.func18, Tryd.ntmps18
    go_wp2
    go_loopw [5] (fun i wr => ∃ k : Nat, k ≤ l.length ∧ i = .int .i64 k ∧ Hid (l.take k = m.take k) ∧ Below w.heap.size w wr) (fun i _ => l.length - (intOf i).toNat)
    case atStart => exact ⟨0, Nat.zero_le _, rfl, rfl, Below.refl _ _⟩
    case round =>
      obtain ⟨k, hk, rfl, HT, hw⟩ := hrel
      by_cases hlt : k < l.length
      · have hkm : k < m.length := by have := HL.out; omega
        obtain ⟨b, off, y, rfl, d1, HY⟩ := (BysAt.later hA hw).at8 hlt
        obtain ⟨b2, off2, y2, rfl, d2, HY2⟩ := (BysAt.later hB hw).at8 hkm
        have hki : (k : Int) < (l.length : Int) := by omega
        have hkj : (k : Int) < (m.length : Int) := by omega
        have hk0 : (0 : Int) ≤ (k : Int) := by omega
        by_cases hy : y = y2
        · subst hy
          have HN : Hid (l.take (k + 1) = m.take (k + 1)) := take_getD hlt hkm HT.out (by rw [HY.out, HY2.out])
          go_wp2
          go_quiet (fail)
          go_wp2
          go_roundw
          case rel => exact ⟨k + 1, by omega, by go_num, HN, below_drewN hw _⟩
          case measure => simp [intOf]; omega
        · have t1 : ((y : Int) != (y2 : Int)) = true := by rw [bne_iff_ne]; omega
          have t1n : (y != y2) = true := by rw [bne_iff_ne]; exact hy
          have HN : Hid (decide (l = m) = false) := by
            refine decide_eq_false fun e => hy ?_
            rw [← HY.out, ← HY2.out, e]
          clear hy
          go_wp2
          go_quiet (fail)
          go_wp2
          go_ret
          exact ⟨by rw [HN.out]; rfl, below_drewN hw _⟩
      · obtain rfl : k = l.length := by omega
        have HN : Hid (decide (l = m) = true) := by
          refine decide_eq_true ?_
          have h1 := HT.out
          have h2 := HL.out
          rw [List.take_length] at h1
          rw [h1, h2, List.take_length]
        clear hlt
        go_wp2
        go_ret
        exact ⟨by rw [HN.out]; rfl, hw⟩
  · have HN : Hid (decide (l = m) = false) := decide_eq_false fun e => hlen (by rw [e])
    have t0 : ((l.length : Int) != (m.length : Int)) = true := by rw [bne_iff_ne]; omega
    have t0n : (l.length != m.length) = true := by rw [bne_iff_ne]; exact hlen
    clear hlen
    go_enter Tryd.func18, Tryd.ntmps18
    go_wp2
    go_ret
    exact ⟨by rw [HN.out]; rfl, Below.refl _ _⟩
end Go.Proofs.YtfblemdpimbciaaDoor
