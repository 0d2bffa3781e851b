/- StorePlays' walk. -/
import Derived.Test.YtboiafchmdflpaaGreatDoorGB
import Derived.Test.YtboiafchmdflpaaGreatDoorRegHQ
import Derived.Test.YtboiafchmdflpaaGreatDoorSame02
import Derived.Test.YtboiafchmdflpaaGreatDoorGE
import Derived.Test.YtboiafchmdflpaaGreatDoorG8
namespace Go.Proofs.YtboiafchmdflpaaGreatDoor
open Go.RowKit Go.Maps Go.Sort Go.Shelf

theorem act_bool {a b : ByteArray} (h : a = b) : a = b := h
set_option maxRecDepth 100000 in
set_option maxHeartbeats 16000000 in
theorem law_plays (l : List OpD) (S : Option Addr) (LA : Nat → Option Addr) (LC : Nat → Nat) (ca : Nat) (w : World) (hS : OpsAt w S l LA LC) (hok : ∀ i, i < l.length → OpOK (l.getD i noOp)) (hn : l.length ≤ 9223372036854775807) (hT : Tabs w) :
    Calls Tryz.prog 3 #[.slice S l.length ca] w fun e w' => e = .returned (.bool true) ∧ Below w.heap.size w w' := by
  have HS := Lib.hid hS
  have HOK := Lib.hid hok
  have HT := Lib.hid hT
  have HF0 := fun wz (hz : Below w.heap.size w wz) => fewS_any l S LA LC ca wz (hS.later hz) hok hn
  clear hS hok hT
  cases hf : fewS l
  · rw [hf] at HF0
    replace HF0 := Lib.hid HF0
    clear hf
    go_enter Tryz.func3, Tryz.ntmps3
    go_wp2_with (first
      | (go_at_call 5; refine (awake14_any _).mono ?_; rintro e w0 ⟨rfl, hb0⟩; (first | replace hbb := keepB hbb hb0 | have hbb := hb0); clear hb0)
      | (go_at_call 6; refine (HF0.out _ hbb).mono ?_; rintro e w1 ⟨rfl, rfl⟩))
    go_ret
    exact ⟨rfl, hbb⟩
  rw [hf] at HF0
  replace HF0 := Lib.hid HF0
  have HFW := Lib.hid hf
  clear hf
  go_enter Tryz.func3, Tryz.ntmps3
  go_wp2_with (first
    | (go_at_call 5; refine (awake14_any _).mono ?_; rintro e w0 ⟨rfl, hb0⟩)
    | (go_at_call 6; refine (HF0.out _ hb0).mono ?_; rintro e w9 ⟨rfl, rfl⟩)
    | (go_at_call 7; refine (new14_any _).mono ?_; rintro e w1 ⟨p, rfl, hSt, hb1⟩; obtain ⟨w2, ew2, hb2, hsz2, hrow2⟩ := new3 w1 (.slice none 0 0) (.int .u64 0) (.int .u64 0) 31; have HP := Lib.hid (PairAt.new hSt ew2 rfl hb1.size)))
  have hB2 := keepB hb1 hb2
  have hwB := hb0.size
  clear ew2 hrow2 hsz2 hSt hb1 hb2
  go_loopw [5] (fun i wr => ∃ k : Nat, k ≤ l.length ∧ i = .int .i64 k ∧ Hid (PairAt wr w0.heap.size p w1.heap.size (12 * k) (scrTo l k)) ∧ Below w0.heap.size w0 wr) (fun i _ => l.length - (intOf i).toNat)
  case atStart => exact ⟨0, Nat.zero_le _, rfl, HP, hB2⟩
  case round =>
    obtain ⟨k, hk, rfl, HI, hw⟩ := hrel
    obtain ⟨wi, rfl⟩ : ∃ wi : World, wi = wr := ⟨_, rfl⟩
    have hwf : Below w.heap.size w wi := hb0.trans (hw.mono hwB)
    by_cases hlt : k < l.length
    · have HAct := Lib.hid (act_step HS.out (keepB hwf (below_drew (Below.refl _ _))) hwB (Nat.le_trans hw.size (Nat.le_refl _)) HOK.out HFW.out HT.out hlt (HI.out.later (below_drew (Below.refl _ _))))
      obtain ⟨b, off, rfl, d0, d1, d2, d3, d4, d5, _⟩ := HS.out k hlt
      have hlen3 := scrTo_len HFW.out (k + 1) hlt
      have h60 := (fewS_at HFW.out).1
      have hok3 := scrTo_ok l (k + 1)
      obtain ⟨s3, hs3⟩ : ∃ s3, Hid (scrTo l (k + 1) = s3) := ⟨_, rfl⟩
      rw [hs3.out] at HAct hlen3 hok3
      obtain ⟨o, HX⟩ : ∃ o, Hid (l.getD k noOp = o) := ⟨_, rfl⟩
      rw [HX.out] at d0 d1 d2 d3 d4 d5 HAct
      unfold opV at HAct
      have HD : Hid (∀ wz, Below w.heap.size w wz → wz.cell? ⟨b, off + k * 6, none⟩ = some (.int .i64 o.kind) ∧ wz.cell? ⟨b, off + k * 6 + 1, none⟩ = some (.slice (LA k) o.l.length (LC k)) ∧ wz.cell? ⟨b, off + k * 6 + 2, none⟩ = some (.string o.key) ∧ wz.cell? ⟨b, off + k * 6 + 3, none⟩ = some (.string o.upto) ∧ wz.cell? ⟨b, off + k * 6 + 4, none⟩ = some (.int .u64 (o.num : Nat)) ∧ wz.cell? ⟨b, off + k * 6 + 5, none⟩ = some (.int .u8 (o.by8 : Nat))) :=
        fun wz hz => ⟨keep hz d0, keep hz d1, keep hz d2, keep hz d3, keep hz d4, keep hz d5⟩
      have hki : (k : Int) < (l.length : Int) := by omega
      have hk0 : (0 : Int) ≤ (k : Int) := by omega
      clear HI HP d0 d1 d2 d3 d4 d5
      go_wp2
      refine wp_region_noPanic ?_
      refine wp_region_held_drew (S := (fun w' => w'.cell? ⟨b, off + k * 6, none⟩ = some (.int .i64 o.kind) ∧ w'.cell? ⟨b, off + k * 6 + 1, none⟩ = some (.slice (LA k) o.l.length (LC k)) ∧ w'.cell? ⟨b, off + k * 6 + 2, none⟩ = some (.string o.key) ∧ w'.cell? ⟨b, off + k * 6 + 3, none⟩ = some (.string o.upto) ∧ w'.cell? ⟨b, off + k * 6 + 4, none⟩ = some (.int .u64 (o.num : Nat)) ∧ w'.cell? ⟨b, off + k * 6 + 5, none⟩ = some (.int .u8 (o.by8 : Nat)))) (by kernel_rfl) (by exact HD.out _ (keepB hwf (below_drew (Below.refl _ _)))) (fun hHeld => ?_)
      refine wpAnyH_take (i := 0) (oi := ?o0) (v := ?v0) ?hi0 (by kernel_rfl) (by kernel_rfl) (by kernel_rfl) ?hq0 (Or.inl ⟨?hg0, ?hy0⟩) hHeld ?rest0
      case hi0 => (simp only [List.getElem?_toArray, List.getElem?_cons_zero]; rfl)
      case hq0 => exact fun _ _ _ h => h
      case hg0 => rfl
      case hy0 => (intro w hSw; (try dsimp only at hSw); go_simp; (try with_reducible rfl))
      (try simp only [Act.put, List.setIfInBounds_toArray, List.set_cons_zero, List.set_cons_succ])
      refine wpAnyH_take (i := 1) (oi := ?o1) (v := ?v1) ?hi1 (by kernel_rfl) (by kernel_rfl) (by kernel_rfl) ?hq1 (Or.inl ⟨?hg1, ?hy1⟩) hHeld ?rest1
      case hi1 => (simp only [List.getElem?_toArray, List.getElem?_cons_succ, List.getElem?_cons_zero]; rfl)
      case hq1 => exact fun _ _ _ h => h
      case hg1 => rfl
      case hy1 => (intro w hSw; (try dsimp only at hSw); go_simp; (try with_reducible rfl))
      (try simp only [Act.put, List.setIfInBounds_toArray, List.set_cons_zero, List.set_cons_succ])
      refine wpAnyH_take (i := 2) (oi := ?o2) (v := ?v2) ?hi2 (by kernel_rfl) (by kernel_rfl) (by kernel_rfl) ?hq2 (Or.inl ⟨?hg2, ?hy2⟩) hHeld ?rest2
      case hi2 => (simp only [List.getElem?_toArray, List.getElem?_cons_succ, List.getElem?_cons_zero]; rfl)
      case hq2 => exact fun _ _ _ h => h
      case hg2 => rfl
      case hy2 => (intro w hSw; (try dsimp only at hSw); go_simp; (try with_reducible rfl))
      (try simp only [Act.put, List.setIfInBounds_toArray, List.set_cons_zero, List.set_cons_succ])
      refine wpAnyH_take (i := 3) (oi := ?o3) (v := ?v3) ?hi3 (by kernel_rfl) (by kernel_rfl) (by kernel_rfl) ?hq3 (Or.inl ⟨?hg3, ?hy3⟩) hHeld ?rest3
      case hi3 => (simp only [List.getElem?_toArray, List.getElem?_cons_succ, List.getElem?_cons_zero]; rfl)
      case hq3 => exact fun _ _ _ h => h
      case hg3 => rfl
      case hy3 => (intro w hSw; (try dsimp only at hSw); go_simp; (try with_reducible rfl))
      (try simp only [Act.put, List.setIfInBounds_toArray, List.set_cons_zero, List.set_cons_succ])
      refine wpAnyH_take (i := 4) (oi := ?o4) (v := ?v4) ?hi4 (by kernel_rfl) (by kernel_rfl) (by kernel_rfl) ?hq4 (Or.inl ⟨?hg4, ?hy4⟩) hHeld ?rest4
      case hi4 => (simp only [List.getElem?_toArray, List.getElem?_cons_succ, List.getElem?_cons_zero]; rfl)
      case hq4 => exact fun _ _ _ h => h
      case hg4 => rfl
      case hy4 => (intro w hSw; (try dsimp only at hSw); go_simp; (try with_reducible rfl))
      (try simp only [Act.put, List.setIfInBounds_toArray, List.set_cons_zero, List.set_cons_succ])
      refine wpAnyH_take (i := 5) (oi := ?o5) (v := ?v5) ?hi5 (by kernel_rfl) (by kernel_rfl) (by kernel_rfl) ?hq5 (Or.inl ⟨?hg5, ?hy5⟩) hHeld ?rest5
      case hi5 => (simp only [List.getElem?_toArray, List.getElem?_cons_succ, List.getElem?_cons_zero]; rfl)
      case hq5 => exact fun _ _ _ h => h
      case hg5 => rfl
      case hy5 => (intro w hSw; (try dsimp only at hSw); go_simp; (try with_reducible rfl))
      (try simp only [Act.put, List.setIfInBounds_toArray, List.set_cons_zero, List.set_cons_succ])
      refine wpAnyH_ready (rs := [6]) (by kernel_rfl) (by simp) ?_
      refine AllReadyH.cons (o := ?p6) ?ho6 (fun K hK => ?step6) AllReadyH.nil
      case ho6 => (simp only [List.getElem?_toArray, List.getElem?_cons_succ, List.getElem?_cons_zero]; rfl)
      go_simp
      (go_at_call 8; refine HAct.out.mono ?_; rintro e w3 ⟨rfl, hP3, hb3⟩; replace hP3 := Lib.hid hP3; have hw3 := hw.trans ((below_drew (Below.refl _ _)).trans (hb3.mono (Nat.le_refl _))); have hwf3 : Below w.heap.size w w3 := hb0.trans (hw3.mono hwB))
      (try go_wp2_with fail)
      refine hK.out _ _ (by exact HD.out _ hwf3) (fun hH2 => ?_)
      clear hHeld hK K
      have hHeld := hH2
      clear hH2
      (try simp only [Act.put, List.setIfInBounds_toArray, List.set_cons_zero, List.set_cons_succ])
      have hI3 : (items s3.ks).length ≤ 800000 := by omega
      obtain ⟨O3, M3, hM3, hSt3⟩ := hP3.out.store
      obtain ⟨O4, hRf3⟩ := hP3.out.ref
      obtain ⟨v3, hR3⟩ := hRf3
      have r0 := hR3.c0
      have r1 := hR3.c1
      have r2 := hR3.c2
      obtain ⟨A3, ca3, hv3, _, _⟩ := own_its hR3.row
      rw [hv3] at r0
      clear hR3 hv3
      have k0 := cell_regrown r0
      have k1 := cell_regrown r1
      have k2 := cell_regrown r2
      have cL : ∀ d os, Calls Tryz.prog 9 #[.pointer (some ⟨p, 0, none⟩)] (grow (redrawn w3 d) os) fun e w'' => e = .returned (.int .u64 (s3.last : Int)) ∧ ∃ p : Regrown, w'' = grow (redrawn w3 p.d) p.os := fun d os => Calls.regrown_of ((last14_any (hSt3.later (below_regrown w3 d os))).mono fun e w' h => ⟨h.1, by rw [← h.2]; exact Below.refl _ _⟩)
      have cW : ∀ d os, Calls Tryz.prog 10 #[.pointer (some ⟨p, 0, none⟩)] (grow (redrawn w3 d) os) fun e w'' => e = .returned (.int .u64 (s3.low : Int)) ∧ ∃ p : Regrown, w'' = grow (redrawn w3 p.d) p.os := fun d os => Calls.regrown_of ((low14_any (hSt3.later (below_regrown w3 d os))).mono fun e w' h => ⟨h.1, by rw [← h.2]; exact Below.refl _ _⟩)
      have cC : ∀ d os, Calls Tryz.prog 11 #[.pointer (some ⟨p, 0, none⟩)] (grow (redrawn w3 d) os) fun e w'' => e = .returned (.int .i64 ((items s3.ks).length : Int)) ∧ ∃ p : Regrown, w'' = grow (redrawn w3 p.d) p.os := fun d os => Calls.regrown_of (count14_any (hSt3.later (below_regrown w3 d os)) hok3 hI3)
      clear hSt3 r0 r1 r2
      refine wpAnyH_rest (k := 7) (by kernel_rfl) rfl rfl (by kernel_rfl) (fun d os => HD.out _ (keepB hwf3 (below_regrown w3 d os))) ?_
      simp only [List.drop_succ_cons, List.drop_zero]
      repeat (go_big_quiet_step (first | (go_at_call 9; exact cL _ _) | (go_at_call 10; exact cW _ _) | (go_at_call 11; exact cC _ _)))
      refine wpQuiet_nil ?_
      intro _ hw'
      obtain ⟨⟨dq, osq⟩, hw''⟩ := hw'
      subst hw''
      refine NoPanic.normal ?_
      have HQ := below_regrown w3 dq osq
      have hPP : Hid (PairAt (grow (redrawn w3 dq) osq) w0.heap.size p w1.heap.size (12 * (k + 1)) (scrTo l (k + 1))) := by
        show PairAt _ _ _ _ _ _
        rw [hs3.out]
        exact hP3.out.later HQ
      clear k0 k1 k2 cL cW cC
      go_wp2
      go_roundw
      case rel => exact ⟨k + 1, by omega, by go_num, hPP, hw3.trans (HQ.mono (Nat.le_trans hw3.size (Nat.le_refl _)))⟩
      case measure => simp [intOf]; omega
    · obtain rfl : k = l.length := by omega
      have h60 := (fewS_at HFW.out).1
      have hlen := scrTo_len HFW.out l.length (Nat.le_refl _)
      have hokF := scrTo_ok l l.length
      have hgdF := scrTo_good HOK.out l.length (Nat.le_refl _)
      obtain ⟨sF, hsF⟩ : ∃ s, Hid (scrTo l l.length = s) := ⟨_, rfl⟩
      rw [hsF.out] at HI hlen hokF hgdF
      obtain ⟨O5, M5, hM5, hSt5⟩ := HI.out.store
      obtain ⟨O6, hRf6⟩ := HI.out.ref
      obtain ⟨m, hm⟩ : ∃ m, Hid (expS sF = m) := ⟨_, rfl⟩
      have hml : m.length ≤ 700000 := by
        have := expTo_len hokF sF.ks.length
        rw [expTo_all, hm.out] at this
        omega
      have HE : Hid (Calls Tryz.prog 13 #[.pointer (some ⟨p, 0, none⟩)] wi (OwnBys wi m)) := by
        rw [← hm.out]
        exact exp14_any hSt5 hokF (by omega) (HT.out.later hwf)
      have HR : Hid (∀ wz, Below wi.heap.size wi wz → Calls Tryz.prog 14 #[.pointer (some ⟨w1.heap.size, 0, none⟩)] wz (OwnBys wz m)) := fun wz hz => by
        rw [← hm.out]
        exact refExp_any (hRf6.later hz) hokF hgdF (by omega)
      clear hlt HI hSt5 hRf6 hm
      go_wp2_with (first
        | (go_at_call 13; refine HE.out.mono ?_; rintro e w7 hq; obtain ⟨A7, c7, rfl, hB7, hb7⟩ := hq.at_)
        | (go_at_call 14; refine (HR.out _ hb7).mono ?_; rintro e w8 hq; obtain ⟨A8, c8, rfl, hB8, hb8⟩ := hq.at_)
        | (go_at_call 12; refine (refSame02_any m m A7 A8 c7 c8 _ (BysAt.later hB7 hb8) hB8 (by omega)).mono ?_; rintro e w9 ⟨rfl, hb9⟩))
      go_ret
      exact ⟨by simp, keepB hwf (keepB hb7 (keepB hb8 hb9))⟩
end Go.Proofs.YtboiafchmdflpaaGreatDoor
