/- parishref14.Same. -/
import Derived.Test.YtboiafchmdflpaaGreatDoorScan14
namespace Go.Proofs.YtboiafchmdflpaaGreatDoor
open Go.RowKit Go.Maps Go.Sort Go.Shelf

noncomputable def sameI (l m : List It) : Bool := @decide (l = m) (Classical.propDecidable _)
theorem sameI_yes {l m : List It} (h : l = m) : sameI l m = true := by unfold sameI; exact @decide_eq_true _ (Classical.propDecidable _) h
theorem sameI_no {l m : List It} (h : l ≠ m) : sameI l m = false := by unfold sameI; exact @decide_eq_false _ (Classical.propDecidable _) h
theorem take_next {l m : List It} {k : Nat} {x : It} (hk : k < l.length) (hk2 : k < m.length) (hx : l.getD k noIt = x) (hy : m.getD k noIt = x) (h : l.take k = m.take k) : l.take (k + 1) = m.take (k + 1) := by
  have e1 : l[k] = x := by rw [← hx, List.getD_eq_getElem?_getD, List.getElem?_eq_getElem hk]; rfl
  have e2 : m[k] = x := by rw [← hy, List.getD_eq_getElem?_getD, List.getElem?_eq_getElem hk2]; rfl
  rw [List.take_succ_eq_append_getElem hk, List.take_succ_eq_append_getElem hk2, e1, e2, h]
set_option maxRecDepth 100000 in
set_option maxHeartbeats 4000000 in
theorem refSame_any {w : World} (l m : List It) (A C : Option Addr) (ca cc : Nat) (hA : ItsAt w A l) (hC : ItsAt w C m) (hl : l.length ≤ 900000) :
    Calls Tryz.prog 25 #[.slice A l.length ca, .slice C m.length cc] w fun e w' => e = .returned (.bool (sameI l m)) ∧ Below w.heap.size w w' := by
  by_cases hlen : l.length = m.length
  · have q0 : ((l.length : Int) != (m.length : Int)) = false := by rw [hlen]; simp
    have HLN := Lib.hid hlen
    clear hlen
    go_enter Tryz.func25, Tryz.ntmps25
    go_wp2
    go_loopw [5] (fun i wr => ∃ k : Nat, k ≤ l.length ∧ i = .int .i64 k ∧ Hid (l.take k = m.take k) ∧ Below w.heap.size w wr) (fun i _ => l.length - (intOf i).toNat)
    case atStart => exact ⟨0, Nat.zero_le _, rfl, rfl, Below.refl _ _⟩
    case round =>
      obtain ⟨k, hk, rfl, HE, hw⟩ := hrel
      obtain ⟨wi, rfl⟩ : ∃ wi : World, wi = wr := ⟨_, rfl⟩
      by_cases hlt : k < l.length
      · have hlt2 : k < m.length := by rw [← HLN.out]; exact hlt
        obtain ⟨b1, off1, y, yz, ym, yt, yn, rfl, e0, e1, e2, e3, e4, HY⟩ := (hA.later hw).at' hlt
        obtain ⟨b2, off2, z, zz, zm, zt, zn, rfl, g0, g1, g2, g3, g4, HZ⟩ := (hC.later hw).at' hlt2
        have hki : (k : Int) < (l.length : Int) := by omega
        have hki2 : (k : Int) < (m.length : Int) := by omega
        by_cases hx : (⟨y, ⟨yz, ym, yt⟩, yn⟩ : It) = ⟨z, ⟨zz, zm, zt⟩, zn⟩
        · have HN : Hid (l.take (k + 1) = m.take (k + 1)) := take_next hlt hlt2 HY.out (HZ.out.trans hx.symm) HE.out
          injection hx with hx1 hx2 hx3
          injection hx2 with hx4 hx5 hx6
          subst hx1 hx3 hx4 hx5 hx6
          go_wp2
          go_quiet (fail)
          go_wp2
          go_roundw
          case rel => exact ⟨k + 1, by omega, by go_num, HN, below_drewN hw _⟩
          case measure => simp [intOf]; omega
        · have HF : Hid (sameI l m = false) := sameI_no fun e => hx (HY.out.symm.trans (by rw [e]; exact HZ.out))
          clear HY HZ HE
          by_cases k1 : y.toList = z.toList <;> by_cases k2 : yz = zz <;> by_cases k3 : (ym : Int) = (zm : Int) <;> by_cases k4 : yt.toList = zt.toList <;> by_cases k5 : (yn : Int) = (zn : Int)
          all_goals first
            | (exfalso; apply hx; have k3' : ym = zm := by omega
               have k5' : yn = zn := by omega
               rw [bytes_ext k1, k2, k3', bytes_ext k4, k5']; done)
            | (clear hx
               go_wp2
               go_quiet (fail)
               go_wp2
               go_ret
               exact ⟨by rw [HF.out] <;> rfl, below_drewN hw _⟩)
      · have hf : sameI l m = true := by
          have h9 := HE.out
          rw [List.take_of_length_le (by omega), List.take_of_length_le (by have := HLN.out; omega)] at h9
          exact sameI_yes h9
        have HF := Lib.hid hf
        clear hf
        go_wp2
        go_ret
        exact ⟨by rw [HF.out] <;> rfl, hw⟩
  · have q0 : ((l.length : Int) != (m.length : Int)) = true := by simp; omega
    have hf : sameI l m = false := sameI_no fun e => hlen (by rw [e])
    have HF := Lib.hid hf
    clear hlen hf
    go_enter Tryz.func25, Tryz.ntmps25
    go_wp2
    go_ret
    exact ⟨by rw [HF.out] <;> rfl, Below.refl _ _⟩
end Go.Proofs.YtboiafchmdflpaaGreatDoor
