/- parishref10.Formed tells true of what a session sends. -/
import Derived.Test.YtjgloipgnnigmaaGreatDoorJ16
import Derived.Test.YtjgloipgnnigmaaGreatDoorJ7
import Derived.Test.YtjgloipgnnigmaaGreatDoorJ11
import Derived.Test.YtjgloipgnnigmaaGreatDoorRefTxF08
import Derived.Test.YtjgloipgnnigmaaGreatDoorJ1
import Derived.Test.YtjgloipgnnigmaaGreatDoorJ13
import Derived.Test.YtjgloipgnnigmaaGreatDoorLawNil21
import Derived.Test.YtjgloipgnnigmaaGreatDoorJ4
import Derived.Deep.DeepCutAuto
import Derived.Deep.RegionHeld3
import Derived.WalkSpells
import Derived.Lib.AppendStr
import Derived.IntWalk
import Derived.Handy
import Derived.Outline
set_option linter.unusedVariables false
set_option linter.unusedSimpArgs false
namespace Go.Proofs.YtjgloipgnnigmaaGreatDoor
open Go.RowKit Go.Shelf

theorem info_rmsg10 : (Tryz.prog.info? 85).map (·.size) = some 34 := by kernel_rfl
theorem nil_list : (⟨#[]⟩ : ByteArray).toList = [] := by rw [ByteArray.toList_eq]
end Go.Proofs.YtjgloipgnnigmaaGreatDoor
/- parishlaw21.sends, events: as the reference has them. -/
namespace Go.Proofs.YtjgloipgnnigmaaGreatDoor
open Go.RowKit Go.Shelf Go.Sort

theorem sn_S {w w' : World} {a b : Addr} {u : Value} {r : Array Value} (h0 : w.cell? a = some u) (h1 : CellRow w b r) (hb : Below w.heap.size w w') : w'.cell? a = some u ∧ CellRow w' b r ∧ Below w.heap.size w w' := ⟨keep hb h0, h1.later hb, hb⟩
def SendsPost (w : World) (l : List SndX) (e : Ending) (w' : World) : Prop := ∃ v, e = .returned v ∧ w'.ownsRow w.heap.size 166 35 v l.length (sndCells l) ∧ Below w.heap.size w w'
def EvsPost (w : World) (l : List EvD) (e : Ending) (w' : World) : Prop := ∃ v, e = .returned v ∧ w'.ownsRow w.heap.size 169 11 v l.length (evCells l) ∧ Below w.heap.size w w'
theorem sndCells_take {l : List SndX} {k : Nat} (h : k < l.length) : sndCells (l.take (k + 1)) = sndCells (l.take k) ++ (l.getD k noSnd).vs.toList := by
  rw [List.take_succ_eq_append_getElem h, sndCells_snoc, getD_eq l noSnd h]
def noEv : EvD := ⟨0, 0, 0, noStr, noVal, 0, false, 0, 0⟩
theorem evCells_take {l : List EvD} {k : Nat} (h : k < l.length) : evCells (l.take (k + 1)) = evCells (l.take k) ++ (l.getD k noEv).vs.toList := by
  rw [List.take_succ_eq_append_getElem h, evCells_snoc, getD_eq l noEv h]
set_option maxRecDepth 100000 in
set_option maxHeartbeats 4000000 in
theorem events_any (l : List EvD) (v : Value) (bs : Nat) (w : World) (h : w.ownsRow bs 71 11 v l.length (evCells l)) (hn : l.length ≤ 100000) : Calls Tryz.prog 68 #[v] w (EvsPost w l) := by
  obtain ⟨A1, k1, rfl, H1⟩ := own_el (f := fun e : EvD => e.vs.toList) (fun _ => rfl) noEv h
  obtain ⟨i0, hi, hz0, hz1, hz2⟩ := info_parts info_rev3
  clear h
  go_enter Tryz.func68, Tryz.ntmps68
  go_wp2
  go_loopw [3, 4] (fun v i wr => ∃ k : Nat, k ≤ l.length ∧ i = .int .i64 k ∧ Hid (wr.ownsRow w.heap.size 169 11 v k (evCells (l.take k))) ∧ Below w.heap.size w wr) (fun _ i _ => l.length - (intOf i).toNat)
  case atStart => exact ⟨0, Nat.zero_le _, rfl, own_nil _ _ _ _, Below.refl _ _⟩
  case round =>
    obtain ⟨k, hk, rfl, HO, hw⟩ := hrel
    by_cases hlt : k < l.length
    · obtain ⟨g1, rfl, e1⟩ := H1 k hlt
      have HT := Lib.hid (evCells_take hlt)
      obtain ⟨x, hx⟩ : ∃ x, l.getD k noEv = x := ⟨_, rfl⟩
      rw [hx] at e1 HT
      rw [Nat.zero_add] at e1
      clear hx
      replace e1 := Lib.hid (CellRow.later e1 hw)
      have ki : (k : Int) < (l.length : Int) := by omega
      have k0 : (0 : Int) ≤ (k : Int) := by omega
      have hk9 : Hid (k ≤ 100000) := by show _ ≤ _; omega
      have hk1 : Hid (k + 1 ≤ l.length) := hlt
      go_wp2_with (first
        | (refine wpList_load_cells rfl 71 _ rfl ⟨g1, k * 11, none⟩ rfl x.vs _ e1.out Tryz.underlying71 rfl info_ev ?_)
        | (refine wpList_buildSlice1 rfl 119 169 _ rfl x.vs rfl _ Tryz.underlying119 info_rev (by rw [ev_size]; omega) (by rw [ev_size]; omega) (zero_rev _) ?_; obtain ⟨w8, e8, hb8, hs8, hr8⟩ := boxed wr x.vs 169; rw [e8]; have hO8 := Lib.hid (own_keep HO.out hb8); have hb78 := keepB hw hb8; clear hs8)
        | (at_builtin; refine wpList_append_own _ rfl _ _ 119 rfl w.heap.size 169 i0 _ 11 104 Tryz.underlying119 hi hz0 hz1 hz2 rfl (by decide) _ _ _ rfl hO8.out ⟨wr.heap.size, 0, none⟩ 1 1 x.vs.toList rfl rfl (World.news_of_block hr8) (one_cell_ev _) (le_maxLen (by have := hk9.out; omega)) (by have := hk9.out; omega) hb78.size ?_; intro v9 w9 hO9 hg9 _; have hb9 := Lib.hid (own_below hb78 (Nat.le_refl _) hO8.out hg9); replace hO9 := Lib.hid hO9))
      go_roundw
      case rel => exact ⟨k + 1, hk1.out, by go_num, by show World.ownsRow _ _ _ _ _ _ _; rw [HT.out]; exact hO9.out, hb9.out⟩
      case measure => have := hk1.out; simp [intOf]; omega
    · have ek : k = l.length := by omega
      have HO2 := HO.out
      rw [ek, List.take_length] at HO2
      replace HO2 := Lib.hid HO2
      clear ek
      have ki : ¬ ((k : Int) < (l.length : Int)) := by omega
      go_wp2
      go_ret
      exact ⟨_, rfl, HO2.out, hw⟩
set_option maxRecDepth 100000 in
set_option maxHeartbeats 8000000 in
theorem sends_any (l : List SndX) (d : List SndD) (v : Value) (bs : Nat) (w : World) (h : SndsAt w bs v l d) (hn : l.length ≤ 100000) : Calls Tryz.prog 66 #[v] w (SendsPost w l) := by
  obtain ⟨A1, k1, rfl, _, H1⟩ := own_snds h
  obtain ⟨i0, hi, hz0, hz1, hz2⟩ := info_parts info_rsnd3
  clear h
  go_enter Tryz.func66, Tryz.ntmps66
  go_wp2
  go_loopw [3, 4] (fun v i wr => ∃ k : Nat, k ≤ l.length ∧ i = .int .i64 k ∧ Hid (wr.ownsRow w.heap.size 166 35 v k (sndCells (l.take k))) ∧ Below w.heap.size w wr) (fun _ i _ => l.length - (intOf i).toNat)
  case atStart => exact ⟨0, Nat.zero_le _, rfl, own_nil _ _ _ _, Below.refl _ _⟩
  case round =>
    obtain ⟨k, hk, rfl, HO, hw⟩ := hrel
    by_cases hlt : k < l.length
    · obtain ⟨b9, o9, rfl, e0, e1⟩ := H1 k hlt
      have HT := Lib.hid (sndCells_take hlt)
      obtain ⟨s, hs⟩ : ∃ s, l.getD k noSnd = s := ⟨_, rfl⟩
      rw [hs] at e0 e1 HT
      clear hs
      have E0 := Lib.hid e0
      have E1 := Lib.hid e1
      clear e0 e1
      have ki : (k : Int) < (l.length : Int) := by omega
      have k0 : (0 : Int) ≤ (k : Int) := by omega
      have hk9 : Hid (k ≤ 100000) := by show _ ≤ _; omega
      have hk1 : Hid (k + 1 ≤ l.length) := hlt
      obtain ⟨wz, rfl⟩ : ∃ wz : World, wz = wr := ⟨_, rfl⟩
      go_upto_region 5 with fail
      refine wp_region_held_drew (S := (fun w' => w'.cell? ⟨b9, o9 + k * 35, none⟩ = some (.int .i64 s.dest) ∧ CellRow w' ⟨b9, o9 + k * 35 + 1, none⟩ s.m.vs ∧ Below w.heap.size w w')) (by kernel_rfl) (sn_S E0.out E1.out (below_drew hw)) (fun hHeld => ?_)
      refine wpAnyH_take (i := 0) (oi := ?o0_1) (v := ?v0_1) ?hi0_1 (by kernel_rfl) (by kernel_rfl) (by kernel_rfl) ?hq0_1 (Or.inl ⟨?hg0_1, ?hy0_1⟩) hHeld ?rest0_1
      case hi0_1 => (simp only [List.getElem?_toArray, List.getElem?_cons_succ, List.getElem?_cons_zero]; rfl)
      case hq0_1 => exact fun _ _ _ h => h
      case hg0_1 => rfl
      case hy0_1 => (intro w hSw; (try dsimp only at hSw); go_simp; (try with_reducible rfl))
      (try simp only [Act.put, List.setIfInBounds_toArray, List.set_cons_zero, List.set_cons_succ])
      refine wpAnyH_take (i := 1) (oi := ?o1_2) (v := ?v1_2) ?hi1_2 (by kernel_rfl) (by kernel_rfl) (by kernel_rfl) ?hq1_2 (Or.inl ⟨?hg1_2, ?hy1_2⟩) hHeld ?rest1_2
      case hi1_2 => (simp only [List.getElem?_toArray, List.getElem?_cons_succ, List.getElem?_cons_zero]; rfl)
      case hq1_2 => exact fun _ _ _ h => h
      case hg1_2 => rfl
      case hy1_2 => (intro w hSw; (try dsimp only at hSw); go_simp; (try with_reducible rfl))
      (try simp only [Act.put, List.setIfInBounds_toArray, List.set_cons_zero, List.set_cons_succ])
      refine wpAnyH_take (i := 2) (oi := ?o2_3) (v := ?v2_3) ?hi2_3 (by kernel_rfl) (by kernel_rfl) (by kernel_rfl) ?hq2_3 (Or.inl ⟨?hg2_3, ?hy2_3⟩) hHeld ?rest2_3
      case hi2_3 => (simp only [List.getElem?_toArray, List.getElem?_cons_succ, List.getElem?_cons_zero]; rfl)
      case hq2_3 => exact fun _ _ _ h => h
      case hg2_3 => rfl
      case hy2_3 => (intro w hSw; (try dsimp only at hSw); go_simp; (try with_reducible rfl))
      (try simp only [Act.put, List.setIfInBounds_toArray, List.set_cons_zero, List.set_cons_succ])
      refine wpAnyH_take (i := 3) (oi := ?o3_4) (v := ?v3_4) ?hi3_4 (by kernel_rfl) (by kernel_rfl) (by kernel_rfl) ?hq3_4 (Or.inl ⟨?hg3_4, ?hy3_4⟩) hHeld ?rest3_4
      case hi3_4 => (simp only [List.getElem?_toArray, List.getElem?_cons_succ, List.getElem?_cons_zero]; rfl)
      case hq3_4 => exact fun _ _ _ h => h
      case hg3_4 => rfl
      case hy3_4 => (intro w hSw; (try dsimp only at hSw); go_simp; (try with_reducible rfl))
      (try simp only [Act.put, List.setIfInBounds_toArray, List.set_cons_zero, List.set_cons_succ])
      refine wpAnyH_take (i := 4) (oi := ?o4_5) (v := ?v4_5) ?hi4_5 (by kernel_rfl) (by kernel_rfl) (by kernel_rfl) ?hq4_5 (Or.inl ⟨?hg4_5, ?hy4_5⟩) hHeld ?rest4_5
      case hi4_5 => (simp only [List.getElem?_toArray, List.getElem?_cons_succ, List.getElem?_cons_zero]; rfl)
      case hq4_5 => exact fun _ _ _ h => h
      case hg4_5 => rfl
      case hy4_5 => (intro w hSw; (try dsimp only at hSw); go_simp; (try with_reducible rfl))
      (try simp only [Act.put, List.setIfInBounds_toArray, List.set_cons_zero, List.set_cons_succ])
      refine wpAnyH_take (i := 5) (oi := ?o5_6) (v := ?v5_6) ?hi5_6 (by kernel_rfl) (by kernel_rfl) (by kernel_rfl) ?hq5_6 (Or.inl ⟨?hg5_6, ?hy5_6⟩) hHeld ?rest5_6
      case hi5_6 => (simp only [List.getElem?_toArray, List.getElem?_cons_succ, List.getElem?_cons_zero]; rfl)
      case hq5_6 => exact fun _ _ _ h => h
      case hg5_6 => rfl
      case hy5_6 => (intro w hSw; (try dsimp only at hSw); go_simp; (try with_reducible rfl))
      (try simp only [Act.put, List.setIfInBounds_toArray, List.set_cons_zero, List.set_cons_succ])
      refine wpAnyH_take (i := 6) (oi := ?o6_7) (v := ?v6_7) ?hi6_7 (by kernel_rfl) (by kernel_rfl) (by kernel_rfl) ?hq6_7 (Or.inl ⟨?hg6_7, ?hy6_7⟩) hHeld ?rest6_7
      case hi6_7 => (simp only [List.getElem?_toArray, List.getElem?_cons_succ, List.getElem?_cons_zero]; rfl)
      case hq6_7 => exact fun _ _ _ h => h
      case hg6_7 => rfl
      case hy6_7 => (intro w hSw; (try dsimp only at hSw); go_simp; (try with_reducible rfl))
      (try simp only [Act.put, List.setIfInBounds_toArray, List.set_cons_zero, List.set_cons_succ])
      refine wpAnyH_take (i := 7) (oi := ?o7_8) (v := ?v7_8) ?hi7_8 (by kernel_rfl) (by kernel_rfl) (by kernel_rfl) ?hq7_8 (Or.inl ⟨?hg7_8, ?hy7_8⟩) hHeld ?rest7_8
      case hi7_8 => (simp only [List.getElem?_toArray, List.getElem?_cons_succ, List.getElem?_cons_zero]; rfl)
      case hq7_8 => exact fun _ _ _ h => h
      case hg7_8 => rfl
      case hy7_8 => (intro w hSw; (try dsimp only at hSw); go_simp; (try with_reducible rfl))
      (try simp only [Act.put, List.setIfInBounds_toArray, List.set_cons_zero, List.set_cons_succ])
      refine wpAnyH_take (i := 8) (oi := ?o8_9) (v := ?v8_9) ?hi8_9 (by kernel_rfl) (by kernel_rfl) (by kernel_rfl) ?hq8_9 (Or.inl ⟨?hg8_9, ?hy8_9⟩) hHeld ?rest8_9
      case hi8_9 => (simp only [List.getElem?_toArray, List.getElem?_cons_succ, List.getElem?_cons_zero]; rfl)
      case hq8_9 => exact fun _ _ _ h => h
      case hg8_9 => rfl
      case hy8_9 => (intro w hSw; (try dsimp only at hSw); go_simp; (try with_reducible rfl))
      (try simp only [Act.put, List.setIfInBounds_toArray, List.set_cons_zero, List.set_cons_succ])
      refine wpAnyH_take (i := 9) (oi := ?o9_10) (v := ?v9_10) ?hi9_10 (by kernel_rfl) (by kernel_rfl) (by kernel_rfl) ?hq9_10 (Or.inl ⟨?hg9_10, ?hy9_10⟩) hHeld ?rest9_10
      case hi9_10 => (simp only [List.getElem?_toArray, List.getElem?_cons_succ, List.getElem?_cons_zero]; rfl)
      case hq9_10 => exact fun _ _ _ h => h
      case hg9_10 => rfl
      case hy9_10 => (intro w hSw; (try dsimp only at hSw); go_simp; (try with_reducible rfl))
      (try simp only [Act.put, List.setIfInBounds_toArray, List.set_cons_zero, List.set_cons_succ])
      refine wpAnyH_take (i := 10) (oi := ?o10_11) (v := .agg s.m.vs) ?hi10_11 (by kernel_rfl) (by kernel_rfl) (by kernel_rfl) ?hq10_11 (yieldsIf_cells ?hg10_11 43 (.tmp 20) ?hl10_11 ⟨b9, o9 + k * 35 + 1, none⟩ ?hx10_11 _ _ (fun w hw => hw.2.1) Tryz.underlying43 rfl info_msg10) hHeld ?rest10_11
      case hi10_11 => (simp only [List.getElem?_toArray, List.getElem?_cons_succ, List.getElem?_cons_zero]; rfl)
      case hq10_11 => exact fun _ _ _ h => h
      case hg10_11 => rfl
      case hl10_11 => rfl
      case hx10_11 => rfl
      (try simp only [Act.put, List.setIfInBounds_toArray, List.set_cons_zero, List.set_cons_succ])
      refine wpAnyH_ready (rs := [11]) (by kernel_rfl) (by simp) ?_
      refine AllReadyH.cons (o := ?p11_16) ?ho11_16 (fun KK hK => ?step11_16) ?more11_16
      case ho11_16 => (simp only [List.getElem?_toArray, List.getElem?_cons_succ, List.getElem?_cons_zero]; rfl)
      case step11_16 =>
        go_simp
        (go_at_call 28; (with_reducible refine (plain_vs s.m _).mono ?_); rintro e w7 ⟨rfl, hb⟩)
        have hb7 := keepB hHeld.2.2 hb
        have hO7 := own_keep (own_keep HO.out (below_drew (Below.refl _ _))) hb
        (try go_wp2_with fail)
        refine hK.out _ _ (sn_S E0.out E1.out hb7) (fun hH2 => ?_)
        clear hHeld hK KK
        have hHeld := hH2
        clear hH2
        (try simp only [Act.put, List.setIfInBounds_toArray, List.set_cons_zero, List.set_cons_succ])
        refine wpAnyH_take (i := 12) (oi := ?o12_12) (v := (.agg s.vs)) ?hi12_12 (by kernel_rfl) (by kernel_rfl) (by kernel_rfl) ?hq12_12 (yieldsIf_build2 ?hg12_12 166 (.tmp 16) (.tmp 22) ?hl12_12 _ _ _ ?hx12_12 ?hz12_12 (build_rsnd s.dest s.m)) hHeld ?rest12_12
        case hi12_12 => (simp only [List.getElem?_toArray, List.getElem?_cons_succ, List.getElem?_cons_zero]; rfl)
        case hq12_12 => exact fun _ _ _ h => h
        case hg12_12 => rfl
        case hl12_12 => rfl
        case hx12_12 => rfl
        case hz12_12 => rfl
        (try simp only [Act.put, List.setIfInBounds_toArray, List.set_cons_zero, List.set_cons_succ])
        refine wpAnyH_ready (rs := [13]) (by kernel_rfl) (by simp) ?_
        refine AllReadyH.cons (o := ?p13_15) ?ho13_15 (fun KK hK => ?step13_15) ?more13_15
        case ho13_15 => (simp only [List.getElem?_toArray, List.getElem?_cons_succ, List.getElem?_cons_zero]; rfl)
        case step13_15 =>
          rw [if_pos (by rfl)]
          refine wp_buildSlice1 118 166 _ rfl s.vs rfl _ Tryz.underlying118 info_rsnd (by rw [snd_size]; omega) (by rw [snd_size]; omega) (zero_rsnd _) ?_
          obtain ⟨w8, e8, hb8, hs8, hr8⟩ := boxed w7 s.vs 166
          rw [e8]
          clear e8
          have hb78 := keepB hb7 hb8
          have hO8 := own_keep hO7 hb8
          (try go_wp2_with fail)
          refine hK.out _ _ (sn_S E0.out E1.out hb78) (fun hH2 => ?_)
          clear hHeld hK KK
          have hHeld := hH2
          clear hH2
          (try simp only [Act.put, List.setIfInBounds_toArray, List.set_cons_zero, List.set_cons_succ])
          refine wpAnyH_ready (rs := [14]) (by kernel_rfl) (by simp) ?_
          refine AllReadyH.cons (o := ?p14_14) ?ho14_14 (fun KK hK => ?step14_14) ?more14_14
          case ho14_14 => (simp only [List.getElem?_toArray, List.getElem?_cons_succ, List.getElem?_cons_zero]; rfl)
          case step14_14 =>
            refine ready_append_own_at rfl _ _ 118 rfl w.heap.size 166 i0 _ 35 376 Tryz.underlying118 hi hz0 hz1 hz2 rfl (Nat.succ_pos 34) u3 k (sndCells (l.take k)) rfl hO8 ⟨w7.heap.size, 0, none⟩ 1 1 s.vs.toList rfl rfl (World.news_of_block hr8) (one_cell_snd _) (le_maxLen (by have := hk9.out; omega)) (by have := hk9.out; omega) hb78.size ?_
            intro v9 w9 hO9 hg9 _
            have hb9 := own_below hb78 (Nat.le_refl _) hO8 hg9
            (try go_wp2_with fail)
            refine hK.out _ _ (sn_S E0.out E1.out hb9) (fun hH2 => ?_)
            clear hHeld hK KK
            have hHeld := hH2
            clear hH2
            (try simp only [Act.put, List.setIfInBounds_toArray, List.set_cons_zero, List.set_cons_succ])
            refine wpAnyH_take (i := 15) (oi := ?o15_13) (v := ?v15_13) ?hi15_13 (by kernel_rfl) (by kernel_rfl) (by kernel_rfl) ?hq15_13 (Or.inl ⟨?hg15_13, ?hy15_13⟩) hHeld ?rest15_13
            case hi15_13 => (simp only [List.getElem?_toArray, List.getElem?_cons_succ, List.getElem?_cons_zero]; rfl)
            case hq15_13 => exact fun _ _ _ h => h
            case hg15_13 => rfl
            case hy15_13 => (intro w hSw; (try dsimp only at hSw); go_simp; (try with_reducible rfl))
            (try simp only [Act.put, List.setIfInBounds_toArray, List.set_cons_zero, List.set_cons_succ])
            replace hO9 := Lib.hid hO9
            refine wpAnyH_done (by kernel_rfl) ?_ _
            go_wp2
            go_roundw
            case rel => exact ⟨k + 1, hk1.out, by go_num, by show World.ownsRow _ _ _ _ _ _ _; rw [HT.out]; exact hO9.out, hb9⟩
            case measure => have := hk1.out; simp [intOf]; omega
          exact AllReadyH.nil
        exact AllReadyH.nil
      exact AllReadyH.nil
    · have ek : k = l.length := by omega
      have HO2 := HO.out
      rw [ek, List.take_length] at HO2
      replace HO2 := Lib.hid HO2
      clear ek
      have ki : ¬ ((k : Int) < (l.length : Int)) := by omega
      go_wp2
      go_ret
      exact ⟨_, rfl, HO2.out, hw⟩
end Go.Proofs.YtjgloipgnnigmaaGreatDoor
/- Layer 2's writers: bytes in memory; Clone, Put, PutText and the reference's. -/
namespace Go.Proofs.YtjgloipgnnigmaaGreatDoor
open Go.RowKit Go.Shelf

def byC (l : List UInt8) : List Value := l.map fun b => .int .u8 (b.toNat : Int)
def BysAt (w : World) (A : Option Addr) (l : List UInt8) : Prop := CellsAt w A l.length fun i => .int .u8 ((l.getD i 0).toNat : Int)
/-- Bytes handed back, in a row of the call's own. -/
def OwnBys (w : World) (l : List UInt8) (e : Ending) (w' : World) : Prop :=
  ∃ v, e = .returned v ∧ w'.ownsRow w.heap.size 5 1 v l.length (byC l) ∧ Below w.heap.size w w'
end Go.Proofs.YtjgloipgnnigmaaGreatDoor
