/- The reference's client, loosely: sent: what an ask sends is some send, its message lies in memory. -/
import Derived.Test.YtjgloipgnnigmaaGreatDoorJ12
import Derived.Test.YtjgloipgnnigmaaGreatDoorJ9
import Derived.Test.YtjgloipgnnigmaaGreatDoorJ3
import Derived.Test.YtjgloipgnnigmaaGreatDoorJ7
import Derived.Deep.DeepCutAuto
import Derived.Deep.RegionHeld3
import Derived.BigQuiet
import Derived.Test.YtjgloipgnnigmaaGreatDoorJ8
import Derived.Test.YtjgloipgnnigmaaGreatDoorJ11
import Derived.Test.YtjgloipgnnigmaaGreatDoorJ5
import Derived.Test.YtjgloipgnnigmaaGreatDoorCliTxn21
import Derived.Test.YtjgloipgnnigmaaGreatDoorFew21
import Derived.Test.YtjgloipgnnigmaaGreatDoorLawNil21
set_option linter.unusedVariables false
set_option linter.unusedSimpArgs false
namespace Go.Proofs.YtjgloipgnnigmaaGreatDoor
open Go.RowKit Go.Shelf

theorem info_rsnd : (Tryz.prog.info? 166).map (·.size) = some 35 := by kernel_rfl
theorem info_rmsg21 : (Tryz.prog.info? 85).map (·.size) = some 34 := by kernel_rfl
def safeZ (n : Int) : MsgV := { noMsg with kind := 14, num := n }
def readZ (n : Int) (key : ByteArray) (st : Nat) : MsgV := { noMsg with kind := 12, num := n, key := key, st := st }
theorem safeZ_lies (n : Int) (w : World) : MsgAt w (safeZ n) := ⟨noTx_lies w, noTx_lies w, fun _ hi => absurd hi (Nat.not_lt_zero _), Nat.zero_le _, noVal_good, Nat.zero_le _⟩
theorem readZ_lies (n : Int) (key : ByteArray) (st : Nat) (w : World) (hk : key.size ≤ 9223372036854775807) : MsgAt w (readZ n key st) := ⟨noTx_lies w, noTx_lies w, fun _ hi => absurd hi (Nat.not_lt_zero _), hk, noVal_good, Nat.zero_le _⟩
theorem part_safeZ (d n : Int) : partOf (SndX.vs ⟨d, noMsg⟩) 1 (safeZ n).vs = (SndX.vs ⟨d, safeZ n⟩) := rfl
theorem part_readZ (d n n' : Int) (key : ByteArray) (st : Nat) : partOf (SndX.vs ⟨d, safeZ n'⟩) 1 (readZ n key st).vs = (SndX.vs ⟨d, readZ n key st⟩) := rfl
theorem obj_grown {w w' : World} {g g' : Nat} {o : Obj} (h : w.heap[g']? = some o) (hg : w.grownBy w' (some g)) (hne : g' ≠ g) : w'.heap[g']? = some o := by
  rw [hg.block g' (Array.getElem?_eq_some_iff.1 h).1 (fun e => hne (by cases e; rfl))]; exact h
section
variable {w w' : World} {B p n : Nat} {K : CliK} {x : RcD} {O O' : Nat → Prop}
def SndPostR (w : World) (e : Ending) (w' : World) : Prop := ∃ s : SndX, e = .returned (.agg s.vs) ∧ (∀ wz, MsgAt wz s.m) ∧ Below w.heap.size w w'
theorem rc_s4 {wz w' : World} {p g : Nat} {u0 u1 u6 v1 : Value} (c0 : wz.cell? ⟨p, 0, none⟩ = some u0) (c1 : wz.cell? ⟨p, 1, none⟩ = some u1) (c6 : wz.cell? ⟨p, 6, none⟩ = some u6) (d1 : wz.cell? ⟨g, 1, none⟩ = some v1) (hb : Below wz.heap.size wz w') :
    w'.cell? ⟨p, 0, none⟩ = some u0 ∧ w'.cell? ⟨p, 1, none⟩ = some u1 ∧ w'.cell? ⟨p, 6, none⟩ = some u6 ∧ w'.cell? ⟨g, 1, none⟩ = some v1 ∧ Below wz.heap.size wz w' := ⟨keep hb c0, keep hb c1, keep hb c6, keep hb d1, hb⟩
set_option maxRecDepth 100000 in
set_option maxHeartbeats 4000000 in
theorem rcSent_any (h : RcAt w B p K x O) (hC : CfgAt w K.c K.A K.B) (hf : formedB K.c = true) (a : AskR) (hg : a.g < K.c.reps.length) (hk : a.key.size ≤ 9223372036854775807) :
    Calls Tryz.prog 118 #[.pointer (some ⟨p, 0, none⟩), .agg #[.int .i64 a.n, .int .i64 (a.g : Int), .string a.key, .int .u64 (a.st : Int), .bool a.op]] w (SndPostR w) := by
  obtain ⟨W, eW, HB0, hszW, hrW⟩ := boxed w #[.int .i64 a.n, .int .i64 (a.g : Int), .string a.key, .int .u64 (a.st : Int), .bool a.op] 164
  obtain ⟨wb, ewb, hbb, hszb, hrb⟩ := boxed W #[.int .i64 0, .int .i64 0, .int .u32 0, .int .i64 0, .int .i64 0, .bool false, .int .u32 0, .int .i64 0, .int .i64 0, .int .i64 0, .int .i64 0, .slice none 0 0, .slice none 0 0, .int .i64 0, .int .i64 0, .int .i64 0, .int .u64 0, .bool false, .int .i64 0, .int .i64 0, .slice none 0 0, .slice none 0 0, .int .i64 0, .int .i64 0, .int .i64 0, .int .u64 0, .bool false, .int .i64 0, .string ⟨#[]⟩, .int .u64 0, .int .i64 0, .int .u64 0, .string ⟨#[]⟩, .int .i64 0, .slice none 0 0] 166
  have d0 : wb.cell? ⟨w.heap.size, 0, none⟩ = some (.int .i64 a.n) := keep hbb (by rw [cell_of_row W _ _ _ _ _ hrW]; rfl)
  have d1 : wb.cell? ⟨w.heap.size, 1, none⟩ = some (.int .i64 (a.g : Int)) := keep hbb (by rw [cell_of_row W _ _ _ _ _ hrW]; rfl)
  have d2 : wb.cell? ⟨w.heap.size, 2, none⟩ = some (.string a.key) := keep hbb (by rw [cell_of_row W _ _ _ _ _ hrW]; rfl)
  have d3 : wb.cell? ⟨w.heap.size, 3, none⟩ = some (.int .u64 (a.st : Int)) := keep hbb (by rw [cell_of_row W _ _ _ _ _ hrW]; rfl)
  have HB := keepB HB0 hbb
  replace h := h.later HB
  replace hC := hC.later HB
  obtain ⟨vr, vw, va, h⟩ := h
  obtain ⟨c0, c1, _, _, _, _, c6, _⟩ := h.cs
  obtain ⟨rb, roff, r, eA, rc, RX⟩ := IntsAt.at' hC.ints hg
  have hr := formed_range hf hg
  rw [RX.out] at hr
  have hgi : (a.g : Int) < (K.c.reps.length : Int) := by omega
  have hg0 : (0 : Int) ≤ (a.g : Int) := by omega
  have hrz : (r == 0) = false := by rw [beq_eq_false_iff_ne]; omega
  have hrz2 : ¬ (r = 0) := by omega
  obtain ⟨tz, hm⟩ : ∃ tz, Int.tmod x.tn r = tz := ⟨_, rfl⟩
  obtain ⟨pl, hpl⟩ : ∃ pl, Hid (placeZ K.c a.g tz = pl) := ⟨_, rfl⟩
  have HPl : Hid (∀ wy, Below wb.heap.size wb wy → Calls Tryz.prog 161 #[.agg #[.slice K.A K.c.reps.length K.ca, .slice K.B K.c.bnds.length K.cb], .int .i64 (a.g : Int), .int .i64 tz] wy fun e w'' => e = .returned (.int .i64 pl) ∧ Below wy.heap.size wy w'') := fun wy hy => by
    have := refPlace_any K.c a.g tz K.A K.B K.ca K.cb wy (hC.later hy)
    rw [hpl.out] at this
    exact this
  have hlw : W.heap.size < wb.heap.size := by omega
  have hlo : w.heap.size ≤ W.heap.size := HB0.size
  replace hrb := Lib.hid hrb
  replace hszW := Lib.hid hszW
  replace hszb := Lib.hid hszb
  clear h hC hr hrW RX
  have hKA : Hid (K.A = some ⟨rb, roff, none⟩) := eA
  go_enter Tryz.func118, Tryz.ntmps118
  rw [eA] at c0
  go_wp2
  go_quiet (fail)
  go_upto_region 2 with fail
  obtain ⟨wz, hwz⟩ : ∃ wz, wb.drewN nq = wz := ⟨_, rfl⟩
  have hbz : Below wb.heap.size wb wz := by rw [← hwz]; exact below_drewN (Below.refl _ _) _
  rw [hwz]
  rw [eA] at HPl
  replace c0 := keep hbz c0
  replace c1 := keep hbz c1
  replace c6 := keep hbz c6
  replace d0 := keep hbz d0
  replace d1 := keep hbz d1
  replace d2 := keep hbz d2
  replace d3 := keep hbz d3
  have hrbz := Lib.hid (obj_keep hrb.out hbz)
  have hsz0 := Lib.hid hbz.size
  replace HPl : Hid (∀ wy, Below wz.heap.size wz wy → Calls Tryz.prog 161 #[.agg #[.slice (some ⟨rb, roff, none⟩) K.c.reps.length K.ca, .slice K.B K.c.bnds.length K.cb], .int .i64 (a.g : Int), .int .i64 tz] wy fun e w'' => e = .returned (.int .i64 pl) ∧ Below wy.heap.size wy w'') := fun wy hy => HPl.out wy (keepB hbz hy)
  clear hwz eA
  go_cut [6] (fun s wx => ∃ g, s = .pointer (some ⟨g, 0, none⟩) ∧ wx.heap[g]? = some (.cells (SndX.vs ⟨pl, noMsg⟩) 166 (0, 0)) ∧ wz.heap.size ≤ g ∧ Below wz.heap.size wz wx)
  case first =>
    refine wp_region_held_drew (S := (fun w' => w'.cell? ⟨p, 0, none⟩ = some (.slice (some ⟨rb, roff, none⟩) K.c.reps.length K.ca) ∧ w'.cell? ⟨p, 1, none⟩ = some (.slice K.B K.c.bnds.length K.cb) ∧ w'.cell? ⟨p, 6, none⟩ = some (.int .i64 x.tn) ∧ w'.cell? ⟨w.heap.size, 1, none⟩ = some (.int .i64 (a.g : Int)) ∧ Below wz.heap.size wz w')) (by kernel_rfl) (rc_s4 c0 c1 c6 d1 (below_drew (Below.refl _ _))) (fun hHeld => ?_)
    refine wpAnyH_take (i := 0) (oi := ?o0_1) (v := ?v0_1) ?hi0_1 (by kernel_rfl) (by kernel_rfl) (by kernel_rfl) ?hq0_1 (Or.inl ⟨?hg0_1, ?hy0_1⟩) hHeld ?rest0_1
    case hi0_1 => (simp only [List.getElem?_toArray, List.getElem?_cons_succ, List.getElem?_cons_zero]; rfl)
    case hq0_1 => exact fun _ _ _ h => h
    case hg0_1 => rfl
    case hy0_1 => (intro w hSw; (try dsimp only at hSw); go_simp; (try with_reducible rfl))
    (try simp only [Act.put, List.setIfInBounds_toArray, List.set_cons_zero, List.set_cons_succ])
    refine wpAnyH_take (i := 1) (oi := ?o1_2) (v := ?v1_2) ?hi1_2 (by kernel_rfl) (by kernel_rfl) (by kernel_rfl) ?hq1_2 (Or.inl ⟨?hg1_2, ?hy1_2⟩) hHeld ?rest1_2
    case hi1_2 => (simp only [List.getElem?_toArray, List.getElem?_cons_succ, List.getElem?_cons_zero]; rfl)
    case hq1_2 => exact fun _ _ _ h => h
    case hg1_2 => rfl
    case hy1_2 => (intro w hSw; (try dsimp only at hSw); go_simp; (try with_reducible rfl))
    (try simp only [Act.put, List.setIfInBounds_toArray, List.set_cons_zero, List.set_cons_succ])
    refine wpAnyH_take (i := 2) (oi := ?o2_3) (v := ?v2_3) ?hi2_3 (by kernel_rfl) (by kernel_rfl) (by kernel_rfl) ?hq2_3 (Or.inl ⟨?hg2_3, ?hy2_3⟩) hHeld ?rest2_3
    case hi2_3 => (simp only [List.getElem?_toArray, List.getElem?_cons_succ, List.getElem?_cons_zero]; rfl)
    case hq2_3 => exact fun _ _ _ h => h
    case hg2_3 => rfl
    case hy2_3 => (intro w hSw; (try dsimp only at hSw); go_simp; (try with_reducible rfl))
    (try simp only [Act.put, List.setIfInBounds_toArray, List.set_cons_zero, List.set_cons_succ])
    refine wpAnyH_take (i := 3) (oi := ?o3_4) (v := ?v3_4) ?hi3_4 (by kernel_rfl) (by kernel_rfl) (by kernel_rfl) ?hq3_4 (Or.inl ⟨?hg3_4, ?hy3_4⟩) hHeld ?rest3_4
    case hi3_4 => (simp only [List.getElem?_toArray, List.getElem?_cons_succ, List.getElem?_cons_zero]; rfl)
    case hq3_4 => exact fun _ _ _ h => h
    case hg3_4 => rfl
    case hy3_4 => (intro w hSw; (try dsimp only at hSw); go_simp; (try with_reducible rfl))
    (try simp only [Act.put, List.setIfInBounds_toArray, List.set_cons_zero, List.set_cons_succ])
    refine wpAnyH_take (i := 4) (oi := ?o4_5) (v := ?v4_5) ?hi4_5 (by kernel_rfl) (by kernel_rfl) (by kernel_rfl) ?hq4_5 (Or.inl ⟨?hg4_5, ?hy4_5⟩) hHeld ?rest4_5
    case hi4_5 => (simp only [List.getElem?_toArray, List.getElem?_cons_succ, List.getElem?_cons_zero]; rfl)
    case hq4_5 => exact fun _ _ _ h => h
    case hg4_5 => rfl
    case hy4_5 => (intro w hSw; (try dsimp only at hSw); go_simp; (try with_reducible rfl))
    (try simp only [Act.put, List.setIfInBounds_toArray, List.set_cons_zero, List.set_cons_succ])
    refine wpAnyH_take (i := 5) (oi := ?o5_6) (v := ?v5_6) ?hi5_6 (by kernel_rfl) (by kernel_rfl) (by kernel_rfl) ?hq5_6 (Or.inl ⟨?hg5_6, ?hy5_6⟩) hHeld ?rest5_6
    case hi5_6 => (simp only [List.getElem?_toArray, List.getElem?_cons_succ, List.getElem?_cons_zero]; rfl)
    case hq5_6 => exact fun _ _ _ h => h
    case hg5_6 => rfl
    case hy5_6 => (intro w hSw; (try dsimp only at hSw); go_simp; (try with_reducible rfl))
    (try simp only [Act.put, List.setIfInBounds_toArray, List.set_cons_zero, List.set_cons_succ])
    refine wpAnyH_take (i := 6) (oi := ?o6_7) (v := ?v6_7) ?hi6_7 (by kernel_rfl) (by kernel_rfl) (by kernel_rfl) ?hq6_7 (Or.inl ⟨?hg6_7, ?hy6_7⟩) hHeld ?rest6_7
    case hi6_7 => (simp only [List.getElem?_toArray, List.getElem?_cons_succ, List.getElem?_cons_zero]; rfl)
    case hq6_7 => exact fun _ _ _ h => h
    case hg6_7 => rfl
    case hy6_7 => (intro w hSw; (try dsimp only at hSw); go_simp; (try with_reducible rfl))
    (try simp only [Act.put, List.setIfInBounds_toArray, List.set_cons_zero, List.set_cons_succ])
    refine wpAnyH_take (i := 7) (oi := ?o7_8) (v := ?v7_8) ?hi7_8 (by kernel_rfl) (by kernel_rfl) (by kernel_rfl) ?hq7_8 (Or.inl ⟨?hg7_8, ?hy7_8⟩) hHeld ?rest7_8
    case hi7_8 => (simp only [List.getElem?_toArray, List.getElem?_cons_succ, List.getElem?_cons_zero]; rfl)
    case hq7_8 => exact fun _ _ _ h => h
    case hg7_8 => rfl
    case hy7_8 => (intro w hSw; (try dsimp only at hSw); go_simp; (try with_reducible rfl))
    (try simp only [Act.put, List.setIfInBounds_toArray, List.set_cons_zero, List.set_cons_succ])
    refine wpAnyH_take (i := 8) (oi := ?o8_9) (v := ?v8_9) ?hi8_9 (by kernel_rfl) (by kernel_rfl) (by kernel_rfl) ?hq8_9 (Or.inl ⟨?hg8_9, ?hy8_9⟩) hHeld ?rest8_9
    case hi8_9 => (simp only [List.getElem?_toArray, List.getElem?_cons_succ, List.getElem?_cons_zero]; rfl)
    case hq8_9 => exact fun _ _ _ h => h
    case hg8_9 => rfl
    case hy8_9 => (intro w hSw; (try dsimp only at hSw); go_simp; (try with_reducible rfl))
    (try simp only [Act.put, List.setIfInBounds_toArray, List.set_cons_zero, List.set_cons_succ])
    refine wpAnyH_take (i := 9) (oi := ?o9_10) (v := ?v9_10) ?hi9_10 (by kernel_rfl) (by kernel_rfl) (by kernel_rfl) ?hq9_10 (Or.inl ⟨?hg9_10, ?hy9_10⟩) hHeld ?rest9_10
    case hi9_10 => (simp only [List.getElem?_toArray, List.getElem?_cons_succ, List.getElem?_cons_zero]; rfl)
    case hq9_10 => exact fun _ _ _ h => h
    case hg9_10 => rfl
    case hy9_10 => (intro w hSw; (try dsimp only at hSw); go_simp; (try with_reducible rfl))
    (try simp only [Act.put, List.setIfInBounds_toArray, List.set_cons_zero, List.set_cons_succ])
    refine wpAnyH_take (i := 10) (oi := ?o10_11) (v := ?v10_11) ?hi10_11 (by kernel_rfl) (by kernel_rfl) (by kernel_rfl) ?hq10_11 (Or.inl ⟨?hg10_11, ?hy10_11⟩) hHeld ?rest10_11
    case hi10_11 => (simp only [List.getElem?_toArray, List.getElem?_cons_succ, List.getElem?_cons_zero]; rfl)
    case hq10_11 => exact fun _ _ _ h => h
    case hg10_11 => rfl
    case hy10_11 => (intro w hSw; (try dsimp only at hSw); go_simp; (try with_reducible rfl))
    (try simp only [Act.put, List.setIfInBounds_toArray, List.set_cons_zero, List.set_cons_succ])
    refine wpAnyH_take (i := 11) (oi := ?o11_12) (v := ?v11_12) ?hi11_12 (by kernel_rfl) (by kernel_rfl) (by kernel_rfl) ?hq11_12 (Or.inl ⟨?hg11_12, ?hy11_12⟩) hHeld ?rest11_12
    case hi11_12 => (simp only [List.getElem?_toArray, List.getElem?_cons_succ, List.getElem?_cons_zero]; rfl)
    case hq11_12 => exact fun _ _ _ h => h
    case hg11_12 => rfl
    case hy11_12 => (intro w hSw; (try dsimp only at hSw); go_simp; (try with_reducible rfl))
    (try simp only [Act.put, List.setIfInBounds_toArray, List.set_cons_zero, List.set_cons_succ])
    refine wpAnyH_ready (rs := [12, 14]) (by kernel_rfl) (by simp) ?_
    refine AllReadyH.cons (o := ?p12_19) ?ho12_19 (fun KK hK => ?step12_19) ?more12_19
    case ho12_19 => (simp only [List.getElem?_toArray, List.getElem?_cons_succ, List.getElem?_cons_zero]; rfl)
    case step12_19 =>
      go_simp
      (go_at_call 161; refine (HPl.out _ hHeld.2.2.2.2).mono ?_; rintro e w7 ⟨rfl, hb⟩)
      have hb7 := keepB hHeld.2.2.2.2 hb
      (try go_wp2_with fail)
      refine hK.out _ _ (rc_s4 c0 c1 c6 d1 hb7) (fun hH2 => ?_)
      clear hHeld hK KK
      have hHeld := hH2
      clear hH2
      (try simp only [Act.put, List.setIfInBounds_toArray, List.set_cons_zero, List.set_cons_succ])
      refine wpAnyH_take (i := 13) (oi := ?o13_13) (v := ?v13_13) ?hi13_13 (by kernel_rfl) (by kernel_rfl) (by kernel_rfl) ?hq13_13 (Or.inl ⟨?hg13_13, ?hy13_13⟩) hHeld ?rest13_13
      case hi13_13 => (simp only [List.getElem?_toArray, List.getElem?_cons_succ, List.getElem?_cons_zero]; rfl)
      case hq13_13 => exact fun _ _ _ h => h
      case hg13_13 => rfl
      case hy13_13 => (intro w hSw; (try dsimp only at hSw); go_simp; (try with_reducible rfl))
      (try simp only [Act.put, List.setIfInBounds_toArray, List.set_cons_zero, List.set_cons_succ])
      refine wpAnyH_ready (rs := [14]) (by kernel_rfl) (by simp) ?_
      refine AllReadyH.cons (o := ?p14_15) ?ho14_15 (fun KK hK => ?step14_15) ?more14_15
      case ho14_15 => (simp only [List.getElem?_toArray, List.getElem?_cons_succ, List.getElem?_cons_zero]; rfl)
      case step14_15 =>
        go_simp
        obtain ⟨w8, e8, hb8, hs8, hr8⟩ := boxed w7 #[.int .i64 0, .int .i64 0, .int .u32 0, .int .i64 0, .int .i64 0, .bool false, .int .u32 0, .int .i64 0, .int .i64 0, .int .i64 0, .int .i64 0, .slice none 0 0, .slice none 0 0, .int .i64 0, .int .i64 0, .int .i64 0, .int .u64 0, .bool false, .int .i64 0, .int .i64 0, .slice none 0 0, .slice none 0 0, .int .i64 0, .int .i64 0, .int .i64 0, .int .u64 0, .bool false, .int .i64 0, .string ⟨#[]⟩, .int .u64 0, .int .i64 0, .int .u64 0, .string ⟨#[]⟩, .int .i64 0, .slice none 0 0] 166
        rw [e8]
        clear e8
        have hb78 := keepB hb7 hb8
        (try go_wp2_with fail)
        refine hK.out _ _ (rc_s4 c0 c1 c6 d1 hb78) (fun hH2 => ?_)
        clear hHeld hK KK
        have hHeld := hH2
        clear hH2
        (try simp only [Act.put, List.setIfInBounds_toArray, List.set_cons_zero, List.set_cons_succ])
        refine wpAnyH_ready (rs := [15]) (by kernel_rfl) (by simp) ?_
        refine AllReadyH.cons (o := ?p15_14) ?ho15_14 (fun KK hK => ?step15_14) ?more15_14
        case ho15_14 => (simp only [List.getElem?_toArray, List.getElem?_cons_succ, List.getElem?_cons_zero]; rfl)
        case step15_14 =>
          rw [if_pos (by rfl)]
          refine wp_store_row 166 _ _ rfl w7.heap.size (SndX.vs ⟨pl, noMsg⟩) rfl rfl 166 _ hr8 info_rsnd rfl (snd_one _) ?_
          have hb89 := below_setRow hb78 hb7.size (SndX.vs ⟨pl, noMsg⟩)
          (try go_wp2_with fail)
          refine hK.out _ _ (rc_s4 c0 c1 c6 d1 hb89) (fun hH2 => ?_)
          clear hHeld hK KK
          have hHeld := hH2
          clear hH2
          (try simp only [Act.put, List.setIfInBounds_toArray, List.set_cons_zero, List.set_cons_succ])
          refine wpAnyH_done (by kernel_rfl) ?_ _
          go_wp2
          go_meet
          exact ⟨_, rfl, setRow_heap _ _ _ _ _ _ hr8, hb7.size, hb89⟩
        exact AllReadyH.nil
      exact AllReadyH.nil
    refine AllReadyH.cons (o := ?p14_20) ?ho14_20 (fun KK hK => ?step14_20) ?more14_20
    case ho14_20 => (simp only [List.getElem?_toArray, List.getElem?_cons_succ, List.getElem?_cons_zero]; rfl)
    case step14_20 =>
      go_simp
      obtain ⟨w8, e8, hb8, hs8, hr8a⟩ := boxed wz #[.int .i64 0, .int .i64 0, .int .u32 0, .int .i64 0, .int .i64 0, .bool false, .int .u32 0, .int .i64 0, .int .i64 0, .int .i64 0, .int .i64 0, .slice none 0 0, .slice none 0 0, .int .i64 0, .int .i64 0, .int .i64 0, .int .u64 0, .bool false, .int .i64 0, .int .i64 0, .slice none 0 0, .slice none 0 0, .int .i64 0, .int .i64 0, .int .i64 0, .int .u64 0, .bool false, .int .i64 0, .string ⟨#[]⟩, .int .u64 0, .int .i64 0, .int .u64 0, .string ⟨#[]⟩, .int .i64 0, .slice none 0 0] 166
      rw [e8]
      clear e8
      have hb78 := keepB hb8 (below_drew (Below.refl w8.heap.size w8))
      have hr8 := obj_keep hr8a (below_drew (Below.refl w8.heap.size w8))
      (try go_wp2_with fail)
      refine hK.out _ _ (rc_s4 c0 c1 c6 d1 hb78) (fun hH2 => ?_)
      clear hHeld hK KK
      have hHeld := hH2
      clear hH2
      (try simp only [Act.put, List.setIfInBounds_toArray, List.set_cons_zero, List.set_cons_succ])
      refine wpAnyH_ready (rs := [12]) (by kernel_rfl) (by simp) ?_
      refine AllReadyH.cons (o := ?p12_18) ?ho12_18 (fun KK hK => ?step12_18) ?more12_18
      case ho12_18 => (simp only [List.getElem?_toArray, List.getElem?_cons_succ, List.getElem?_cons_zero]; rfl)
      case step12_18 =>
        go_simp
        (go_at_call 161; refine (HPl.out _ hb78).mono ?_; rintro e w7 ⟨rfl, hb⟩)
        have hb7 := keepB hb78 hb
        have hr7 := obj_keep hr8 hb
        (try go_wp2_with fail)
        refine hK.out _ _ (rc_s4 c0 c1 c6 d1 hb7) (fun hH2 => ?_)
        clear hHeld hK KK
        have hHeld := hH2
        clear hH2
        (try simp only [Act.put, List.setIfInBounds_toArray, List.set_cons_zero, List.set_cons_succ])
        refine wpAnyH_take (i := 13) (oi := ?o13_16) (v := ?v13_16) ?hi13_16 (by kernel_rfl) (by kernel_rfl) (by kernel_rfl) ?hq13_16 (Or.inl ⟨?hg13_16, ?hy13_16⟩) hHeld ?rest13_16
        case hi13_16 => (simp only [List.getElem?_toArray, List.getElem?_cons_succ, List.getElem?_cons_zero]; rfl)
        case hq13_16 => exact fun _ _ _ h => h
        case hg13_16 => rfl
        case hy13_16 => (intro w hSw; (try dsimp only at hSw); go_simp; (try with_reducible rfl))
        (try simp only [Act.put, List.setIfInBounds_toArray, List.set_cons_zero, List.set_cons_succ])
        refine wpAnyH_ready (rs := [15]) (by kernel_rfl) (by simp) ?_
        refine AllReadyH.cons (o := ?p15_17) ?ho15_17 (fun KK hK => ?step15_17) ?more15_17
        case ho15_17 => (simp only [List.getElem?_toArray, List.getElem?_cons_succ, List.getElem?_cons_zero]; rfl)
        case step15_17 =>
          rw [if_pos (by rfl)]
          refine wp_store_row 166 _ _ rfl wz.heap.size (SndX.vs ⟨pl, noMsg⟩) rfl rfl 166 _ hr7 info_rsnd rfl (snd_one _) ?_
          have hb89 := below_setRow hb7 (g := wz.heap.size) (Nat.le_refl _) (SndX.vs ⟨pl, noMsg⟩)
          (try go_wp2_with fail)
          refine hK.out _ _ (rc_s4 c0 c1 c6 d1 hb89) (fun hH2 => ?_)
          clear hHeld hK KK
          have hHeld := hH2
          clear hH2
          (try simp only [Act.put, List.setIfInBounds_toArray, List.set_cons_zero, List.set_cons_succ])
          refine wpAnyH_done (by kernel_rfl) ?_ _
          go_wp2
          go_meet
          exact ⟨_, rfl, setRow_heap _ _ _ _ _ _ hr7, Nat.le_refl _, hb89⟩
        exact AllReadyH.nil
      exact AllReadyH.nil
    exact AllReadyH.nil
  case rest =>
    obtain ⟨g, rfl, hg1, hg2, hbg⟩ := hcut
    obtain ⟨wy, rfl⟩ : ∃ wq : World, wq = wc := ⟨_, rfl⟩
    replace d0 := keep hbg d0
    replace d2 := keep hbg d2
    replace d3 := keep hbg d3
    have hrby := Lib.hid (obj_keep hrbz.out hbg)
    have hBy := Lib.hid (keepB HB (keepB hbz hbg))
    replace hg1 := Lib.hid hg1
    have q1 := empty_dec a.key
    have hw0 : Hid (w.heap.size ≤ W.heap.size ∧ W.heap.size < wy.heap.size ∧ W.heap.size < g) := by
      have := hsz0.out; have := hbg.size; show _ ∧ _; exact ⟨by omega, by omega, by omega⟩
    have hgw : Hid (w.heap.size ≤ g) := by have := hw0.out; show _ ≤ _; omega
    have hle0 : Hid (w.heap.size ≤ W.heap.size) := hw0.out.1
    have hne0 : Hid (some w.heap.size ≠ some g) := fun e => by have := hw0.out; cases e; omega
    have hneW : Hid (W.heap.size ≠ g) := fun e => by have := hw0.out; omega
    have hle0' := Lib.hid hBy.out.size
    by_cases he : a.key = noStr
    · rw [decide_eq_true he] at q1
      have q2 : a.key.toList = [] := by rw [he, noStr_list]
      clear he
      go_wp2_with (first
        | (refine wpList_store_part rfl 85 _ _ rfl g 1 (safeZ a.n).vs rfl rfl 166 _ hg1.out info_rmsg21 (by show 1 + 34 ≤ 35; omega) (msg_one _) ?_; intro w5 hr5 hgr5; rw [part_safeZ] at hr5; replace hr5 := Lib.hid hr5; replace d0 := hgr5.cell d0 hne0.out; replace d2 := hgr5.cell d2 hne0.out; replace d3 := hgr5.cell d3 hne0.out; have hrb5 := Lib.hid (obj_grown hrby.out hgr5 hneW.out); have hB5 := Lib.hid (hBy.out.grown hgr5 hBy.out.size (fun b e => by cases e; exact hgw.out)))
        | (refine wpList_load_cells rfl 166 _ rfl ⟨g, 0, none⟩ rfl (SndX.vs ⟨pl, safeZ a.n⟩) _ (row_of_obj hr5.out) Tryz.underlying166 rfl info_rsnd ?_)
        | (refine wpList_store_row rfl 166 _ _ rfl W.heap.size (SndX.vs ⟨pl, safeZ a.n⟩) rfl rfl 166 _ hrb5.out info_rsnd rfl (snd_one _) ?_))
      exact bodyPost_ret (v := .agg (SndX.vs ⟨pl, safeZ a.n⟩)) (results_cell_row rfl _ _ W.heap.size _ (SndX.vs ⟨pl, safeZ a.n⟩) _ _ rfl (setRow_heap _ _ _ _ _ _ hrb5.out) Tryz.underlying166 rfl info_rsnd) rfl ⟨_, rfl, fun wz => safeZ_lies _ wz, below_setRow hB5.out hle0.out _⟩
    · rw [decide_eq_false he] at q1
      have q2 : ¬ (a.key.toList = []) := fun e => he (bytes_ext (by rw [e, noStr_list]))
      clear he
      go_wp2_with (first
        | (refine wpList_store_part rfl 85 _ _ rfl g 1 (safeZ a.n).vs rfl rfl 166 _ hg1.out info_rmsg21 (by show 1 + 34 ≤ 35; omega) (msg_one _) ?_; intro w5 hr5 hgr5; rw [part_safeZ] at hr5; replace hr5 := Lib.hid hr5; replace d0 := hgr5.cell d0 hne0.out; replace d2 := hgr5.cell d2 hne0.out; replace d3 := hgr5.cell d3 hne0.out; have hrb5 := Lib.hid (obj_grown hrby.out hgr5 hneW.out); have hB5 := Lib.hid (hBy.out.grown hgr5 hBy.out.size (fun b e => by cases e; exact hgw.out)))
        | (refine wpList_store_part rfl 85 _ _ rfl g 1 (readZ a.n a.key a.st).vs rfl rfl 166 _ hr5.out info_rmsg21 (by show 1 + 34 ≤ 35; omega) (msg_one _) ?_; intro w6 hr6 hgr6; rw [part_readZ] at hr6; replace hr6 := Lib.hid hr6; replace d0 := hgr6.cell d0 hne0.out; replace d2 := hgr6.cell d2 hne0.out; replace d3 := hgr6.cell d3 hne0.out; have hrb6 := Lib.hid (obj_grown hrb5.out hgr6 hneW.out); have hB6 := Lib.hid (hB5.out.grown hgr6 hB5.out.size (fun b e => by cases e; exact hgw.out)))
        | (refine wpList_load_cells rfl 166 _ rfl ⟨g, 0, none⟩ rfl (SndX.vs ⟨pl, readZ a.n a.key a.st⟩) _ (row_of_obj hr6.out) Tryz.underlying166 rfl info_rsnd ?_)
        | (refine wpList_store_row rfl 166 _ _ rfl W.heap.size (SndX.vs ⟨pl, readZ a.n a.key a.st⟩) rfl rfl 166 _ hrb6.out info_rsnd rfl (snd_one _) ?_))
      exact bodyPost_ret (v := .agg (SndX.vs ⟨pl, readZ a.n a.key a.st⟩)) (results_cell_row rfl _ _ W.heap.size _ (SndX.vs ⟨pl, readZ a.n a.key a.st⟩) _ _ rfl (setRow_heap _ _ _ _ _ _ hrb6.out) Tryz.underlying166 rfl info_rsnd) rfl ⟨_, rfl, fun wz => readZ_lies _ _ _ wz hk, below_setRow hB6.out hle0.out _⟩
end
end Go.Proofs.YtjgloipgnnigmaaGreatDoor
/- The reference's client, loosely: want: one more ask, some send. -/
namespace Go.Proofs.YtjgloipgnnigmaaGreatDoor
open Go.RowKit Go.Shelf Go.Sort

theorem one_cell_askR {a b : Int} {s : ByteArray} {t : Int} {o : Bool} : ∀ u ∈ [Value.int .i64 a, .int .i64 b, .string s, .int .u64 t, .bool o], u.oneCell' = true := fun u hu => by
  simp at hu; rcases hu with rfl | rfl | rfl | rfl | rfl <;> rfl
def rcWant (x : RcD) (g : Nat) (key : ByteArray) (st : Nat) : RcD := { x with num := wrap64 (x.num + 1), asks := x.asks ++ [⟨wrap64 (x.num + 1), g, key, st, true⟩] }
section
variable {w w' w1 : World} {B p n : Nat} {K : CliK} {x : RcD} {O : Nat → Prop} {vr vw va : Value}
theorem RcIn.cella (h : RcIn w B p K x vr vw va O) (hg : w.grownBy w1 va.ownBlock) : w1.cell? ⟨p, 12, none⟩ = some va ∧ w1.frozen? ⟨p, 12, none⟩ = false := by
  have hne : some p ≠ va.ownBlock := fun e => (h.mia p e.symm).2 rfl
  have hb : w1.heap[p]? = some _ := (Out.of_grown (O := fun k => va.ownBlock = some k) hg (fun k e => e)).obj h.blk (fun e => hne e.symm)
  exact ⟨by rw [cell_of_row w1 p _ _ _ _ hb]; rfl, frozen_of_row w1 p 12 _ _ hb⟩
def WantR (w : World) (B p : Nat) (K : CliK) (y : RcD) (O : Nat → Prop) (e : Ending) (w' : World) : Prop := ∃ s : SndX, e = .returned (.agg s.vs) ∧ (∀ wz, MsgAt wz s.m) ∧ RcAt w' B p K y (ext O w w') ∧ Out O w w'
set_option maxRecDepth 100000 in
set_option maxHeartbeats 4000000 in
theorem rcWant_any (h : RcAt w B p K x O) (hC : ∀ w', Below B w w' → CfgAt w' K.c K.A K.B) (hf : formedB K.c = true) (g : Nat) (key : ByteArray) (st : Nat) (hg : g < K.c.reps.length) (hk : key.size ≤ 9223372036854775807) (ha : x.asks.length ≤ 100000) :
    Calls Tryz.prog 110 #[.pointer (some ⟨p, 0, none⟩), .int .i64 (g : Int), .string key, .int .u64 (st : Int)] w (WantR w B p K (rcWant x g key st) O) := by
  obtain ⟨vr, vw, va, h⟩ := h
  have hB := h.hB
  obtain ⟨W, eW, HB, hszW, hrW⟩ := boxed w #[.int .i64 0, .int .i64 0, .int .u32 0, .int .i64 0, .int .i64 0, .bool false, .int .u32 0, .int .i64 0, .int .i64 0, .int .i64 0, .int .i64 0, .slice none 0 0, .slice none 0 0, .int .i64 0, .int .i64 0, .int .i64 0, .int .u64 0, .bool false, .int .i64 0, .int .i64 0, .slice none 0 0, .slice none 0 0, .int .i64 0, .int .i64 0, .int .i64 0, .int .u64 0, .bool false, .int .i64 0, .string ⟨#[]⟩, .int .u64 0, .int .i64 0, .int .u64 0, .string ⟨#[]⟩, .int .i64 0, .slice none 0 0] 166
  have hW := h.later HB
  obtain ⟨_, _, _, _, _, c5, _⟩ := hW.cs
  have f5 := hW.fz 5
  obtain ⟨nu, hnu⟩ : ∃ nu, wrap64 (x.num + 1) = nu := ⟨_, rfl⟩
  have h1 := hW.s5 nu
  obtain ⟨w1, ew1⟩ : ∃ w1, W.setCell ⟨p, 5, none⟩ (.int .i64 nu) = w1 := ⟨_, rfl⟩
  rw [ew1] at h1
  have ho1 : Out O W w1 := by rw [← ew1]; exact rc_out hW.hp (Out.refl _ _)
  obtain ⟨_, _, _, _, _, c5b, _⟩ := h1.cs
  have c5c : w1.cell? ⟨p, 5, none⟩ = some (.int .i64 nu) := c5b
  have hsz1 : w1.heap.size = W.heap.size := by rw [← ew1]; simp [World.setCell]
  obtain ⟨w2, ew2, hb2, hs2, hr2⟩ := boxed w1 #[.int .i64 nu, .int .i64 (g : Int), .string key, .int .u64 (st : Int), .bool true] 164
  have h2 := h1.later hb2
  have d0 : w2.cell? ⟨w1.heap.size, 0, none⟩ = some (.int .i64 nu) := by rw [cell_of_row w2 _ _ _ _ _ hr2]; rfl
  have d1 : w2.cell? ⟨w1.heap.size, 1, none⟩ = some (.int .i64 (g : Int)) := by rw [cell_of_row w2 _ _ _ _ _ hr2]; rfl
  have d2 : w2.cell? ⟨w1.heap.size, 2, none⟩ = some (.string key) := by rw [cell_of_row w2 _ _ _ _ _ hr2]; rfl
  have d3 : w2.cell? ⟨w1.heap.size, 3, none⟩ = some (.int .u64 (st : Int)) := by rw [cell_of_row w2 _ _ _ _ _ hr2]; rfl
  have d4 : w2.cell? ⟨w1.heap.size, 4, none⟩ = some (.bool true) := by rw [cell_of_row w2 _ _ _ _ _ hr2]; rfl
  obtain ⟨_, _, _, _, _, _, _, _, _, _, _, _, c12, _, _⟩ := h2.cs
  obtain ⟨A10, cap10, e10, hcap, hA10, _⟩ := own_asksR h2.rowa
  simp only at e10 hcap
  subst e10
  obtain ⟨i0, hi, hz0, hz1, hz2⟩ := info_parts info_askR
  have hBW := HB.size
  have hBB : B ≤ w2.heap.size := by have := hb2.size; omega
  have c12b := keep (below1 w2 (.cells #[.int .i64 nu, .int .i64 (g : Int), .string key, .int .u64 (st : Int), .bool true] 164)) c12
  replace hsz1 := Lib.hid hsz1
  have haH := Lib.hid ha
  have H2 := Lib.hid h2
  have HRW := Lib.hid hrW
  replace hs2 := Lib.hid hs2
  replace hszW := Lib.hid hszW
  replace hC := Lib.hid hC
  replace HB := Lib.hid HB
  replace h := Lib.hid h
  have na : (askRCells x.asks).length = x.asks.length * 5 := askRCells_len _
  replace na := Lib.hid na
  have nO : Hid (¬ O w1.heap.size) := fun e => by have := (h.out.lt _ e).2; have := hsz1.out; omega
  have nR : Hid (¬ O w.heap.size) := fun e => by have := (h.out.lt _ e).2; omega
  have HOw : Hid (Out O w w2) := ((Out.of_below HB.out).trans' ho1).trans' (Out.of_below hb2)
  have HOW : Hid (Out O W w2) := ho1.trans' (Out.of_below hb2)
  have HLO : Hid (∀ k, O k → B ≤ k) := fun k hk => (h.out.lt k hk).1
  have HS : Hid (∀ wz y O', RcAt wz B p K y O' → CfgAt wz K.c K.A K.B → Calls Tryz.prog 118 #[.pointer (some ⟨p, 0, none⟩), .agg #[.int .i64 nu, .int .i64 (g : Int), .string key, .int .u64 (st : Int), .bool true]] wz (SndPostR wz)) := fun wz y O' a b => rcSent_any a b hf ⟨nu, g, key, st, true⟩ hg hk
  have HY : Hid (rcWant x g key st = { x with num := nu, asks := x.asks ++ [⟨nu, g, key, st, true⟩] }) := by show _ = _; rw [rcWant, hnu]
  clear h1 h2 hW hrW hr2 ho1 c5b hcap hA10
  go_enter Tryz.func110, Tryz.ntmps110
  go_wp2
  go_region_law (first
    | (refine ready_append_own_at rfl _ _ 115 rfl B 164 i0 _ 5 48 Tryz.underlying115 hi hz0 hz1 hz2 rfl (by decide) (.slice A10 x.asks.length cap10) x.asks.length (askRCells x.asks) rfl (own_keep H2.out.rowa (below_drew (below1 _ _))) ⟨w2.heap.size, 0, none⟩ 1 1 [.int .i64 nu, .int .i64 (g : Int), .string key, .int .u64 (st : Int), .bool true] rfl rfl (World.news_of_block (heap_alloc_new w2 _)) one_cell_askR (le_maxLen (by have := haH.out; omega)) (by have := haH.out; omega) (Nat.le_trans hBB (below1 w2 _).size) ?_; intro v15 w15 HO15 hg15 hv15; obtain ⟨A15, c15, rfl⟩ := own_form HO15; have hKa := H2.out.later (below_drew (below1 w2 (.cells #[.int .i64 nu, .int .i64 (g : Int), .string key, .int .u64 (st : Int), .bool true] 164))); have hc15 := (hKa.cella hg15).1; have hf15 := (hKa.cella hg15).2))
  all_goals
    obtain ⟨wF, ewF⟩ : ∃ wF, w15.setCell ⟨p, 12, none⟩ (.slice A15 (x.asks.length + 1) c15) = wF := ⟨_, rfl⟩
    have hO15 : w15.ownsRow B 164 5 (.slice A15 (x.asks.length + 1) c15) (x.asks ++ [(⟨nu, g, key, st, true⟩ : AskR)]).length (askRCells (x.asks ++ [⟨nu, g, key, st, true⟩])) := by
      rw [askRCells_snoc, List.length_append]; exact HO15
    have hK15 := hKa.growa (Out.of_grown hg15 (fun k e => e)) hO15 (own_or hv15)
    have ho15 : Out O w2 wF := by
      rw [← ewF]
      exact rc_out H2.out.hp ((Out.of_below (below_drew (below1 _ _))).trans' (Out.of_grown hg15 (fun k e => (hKa.mia k e).1)))
    rw [ewF] at hK15
    replace d0 := ho15.cell d0 nO.out
    replace d1 := ho15.cell d1 nO.out
    replace d2 := ho15.cell d2 nO.out
    replace d3 := ho15.cell d3 nO.out
    replace d4 := ho15.cell d4 nO.out
    have hRF := Lib.hid ((HOW.out.trans' ho15).obj HRW.out nR.out)
    have hoF := Lib.hid (HOw.out.trans' ho15)
    have hCF := Lib.hid (hC.out wF (hoF.out.below hB HLO.out))
    have hAF := Lib.hid hK15
    have hsz15 := Lib.hid hg15.size
    clear hK15 hO15 ho15 hKa hc15 hf15 hg15 hv15 HO15
    go_wp2_with (first
      | (go_at_call 118; refine (HS.out _ _ _ ⟨_, _, _, hAF.out⟩ hCF.out).mono ?_; rintro e wq ⟨sv, rfl, hlie, hbq⟩)
      | (refine wpList_store_row rfl 166 _ _ rfl w.heap.size sv.vs rfl rfl 166 _ (obj_keep hRF.out hbq) info_rsnd rfl (snd_one _) ?_))
    refine bodyPost_ret (v := .agg sv.vs) (results_cell_row rfl _ _ w.heap.size _ sv.vs _ _ rfl (setRow_heap _ _ _ _ _ _ (obj_keep hRF.out hbq)) Tryz.underlying166 rfl info_rsnd) rfl ⟨sv, rfl, ?_, ?_, ?_⟩
    · exact hlie
    · have hA2 := (hAF.out.later hbq).out (out_setRow wq w.heap.size sv.vs) (fun k hk e => by
        subst e
        rcases hk with q | q
        · exact nR.out q
        · have hz1 := HB.out.size
          have hz2 := hb2.size
          have hz3 := hsz1.out
          have hz4 := hszW.out
          have hz5 : (w2.alloc (.cells #[.int .i64 nu, .int .i64 (g : Int), .string key, .int .u64 (st : Int), .bool true] 164)).drew.heap.size ≤ w.heap.size := q.1
          have hz6 := (below_drew (below1 w2 (.cells #[.int .i64 nu, .int .i64 (g : Int), .string key, .int .u64 (st : Int), .bool true] 164))).size
          omega) (fun k e => by subst e; exact hB)
      rw [HY.out]
      refine ⟨_, _, _, hA2.mono (fun k hk => ?_) (fun k hk => ?_)⟩
      · rcases hk with q | q
        · exact .inl q
        · refine .inr ⟨?_, ?_⟩
          · have hz1 := (HOw.out).size
            have hz6 := (below_drew (below1 w2 (.cells #[.int .i64 nu, .int .i64 (g : Int), .string key, .int .u64 (st : Int), .bool true] 164))).size
            have := q.1
            omega
          · have hz7 := hbq.size
            have hz8 : w15.heap.size = wF.heap.size := by rw [← ewF]; simp [World.setCell]
            have := q.2
            simp only [setRow_size]
            omega
      · rcases hk with q | q
        · exact ⟨HLO.out k q, by have := (h.out.lt k q).2; have := hoF.out.size; have := hbq.size; simp only [setRow_size]; omega⟩
        · exact ⟨by omega, q.2⟩
    · exact (hoF.out.trans' (Out.of_below hbq)).trans ((out_setRow wq w.heap.size sv.vs).mono fun k hk => .inr ⟨by omega, by subst hk; have := hszW.out; have := HOW.out.size; have := (hoF.out.trans' (Out.of_below hbq)).size; have := hRF.out; have hz9 := (Array.getElem?_eq_some_iff.1 hRF.out).1; have := hbq.size; omega⟩)
end
end Go.Proofs.YtjgloipgnnigmaaGreatDoor
/- The reference's client, loosely: Read. -/
namespace Go.Proofs.YtjgloipgnnigmaaGreatDoor
open Go.RowKit Go.Shelf Go.Sort

theorem zero_rsnd (w : World) : (zeroValue 166).run Tryz.prog w = .ok (.agg #[.int .i64 0, .int .i64 0, .int .u32 0, .int .i64 0, .int .i64 0, .bool false, .int .u32 0, .int .i64 0, .int .i64 0, .int .i64 0, .int .i64 0, .slice none 0 0, .slice none 0 0, .int .i64 0, .int .i64 0, .int .i64 0, .int .u64 0, .bool false, .int .i64 0, .int .i64 0, .slice none 0 0, .slice none 0 0, .int .i64 0, .int .i64 0, .int .i64 0, .int .u64 0, .bool false, .int .i64 0, .string ByteArray.empty, .int .u64 0, .int .i64 0, .int .u64 0, .string ByteArray.empty, .int .i64 0, .slice none 0 0]) w := by kernel_rfl
/-- Sends of the reference's: a row of the call's own, the messages lie in memory. -/
structure RSndsAt (w : World) (bs : Nat) (v : Value) (l : List SndX) : Prop where
  row : w.ownsRow bs 166 35 v l.length (sndCells l)
  at_ : ∀ s ∈ l, MsgAt w s.m
def RSndR (w : World) (v : Value) : Prop := ∃ bs l, RSndsAt w bs v l
theorem RSndsAt.later {w w' : World} {bs : Nat} {v : Value} {l : List SndX} (h : RSndsAt w bs v l) (hb : Below w.heap.size w w') : RSndsAt w' bs v l := ⟨own_keep h.row hb, fun s hs => (h.at_ s hs).later hb⟩
theorem rsnd_nil (w : World) : RSndR w (.slice none 0 0) := ⟨0, [], own_nil _ _ _ _, fun s hs => by cases hs⟩
theorem rsnd_one {w : World} {g : Nat} {s : SndX} (h : w.heap[g]? = some (.cells s.vs 166 (0, 0))) (hm : MsgAt w s.m) : RSndR w (.slice (some ⟨g, 0, none⟩) 1 1) := by
  refine ⟨0, [s], ?_, fun y hy => by rw [List.mem_singleton.1 hy]; exact hm⟩
  have := own_one (base := 0) h (snd_size _) (Nat.zero_le _)
  simpa [sndCells] using this
def RcSnd (w : World) (B p : Nat) (K : CliK) (m : Nat) (O : Nat → Prop) (e : Ending) (w' : World) : Prop := ∃ v z, e = .returned (.tuple #[v, .int .i64 z]) ∧ RSndR w' v ∧ RcEnd w B p K m O w'
section
variable {w w' : World} {B p n : Nat} {K : CliK} {x : RcD} {O : Nat → Prop}
theorem RcOK.want (h : RcOK K.c n x) {g : Nat} {key : ByteArray} {st : Nat} (hg : g < K.c.reps.length) (hk : key.size ≤ 9223372036854775807) : RcOK K.c (n + 1) (rcWant x g key st) := by
  refine ⟨?_, Nat.le_succ_of_le h.rn, Nat.le_succ_of_le h.wn, fun a ha => ?_, fun a ha => ?_, h.rk, h.wk, h.kn, h.kk⟩
  · show (x.asks ++ [_]).length ≤ _; rw [List.length_append]; have := h.an; simp; omega
  all_goals
    rcases List.mem_append.1 ha with q | q
    · first | exact h.ag a q | exact h.ak a q
    · rw [List.mem_singleton.1 q]; first | exact hg | exact hk
theorem rcs_no (h : RcAt w B p K x O) (hx : RcOK K.c n x) (z : Int) (hb : Below w.heap.size w w') : RcSnd w B p K (n + 1) O (.returned (.tuple #[.slice none 0 0, .int .i64 z])) w' :=
  ⟨_, z, rfl, rsnd_nil _, h.end_ hx (Nat.le_succ _) hb⟩
set_option maxRecDepth 100000 in
set_option maxHeartbeats 4000000 in
theorem rcRead_any (h : RcAt w B p K x O) (hx : RcOK K.c n x) (hn : n ≤ 1000) (hC : ∀ w', Below B w w' → CfgAt w' K.c K.A K.B) (hf : formedB K.c = true) (key : ByteArray) (hk : key.size ≤ maxLen) :
    Calls Tryz.prog 58 #[.pointer (some ⟨p, 0, none⟩), .string key] w (RcSnd w B p K (n + 1) O) := by
  have h0 := Lib.hid h
  have hB := h.hB
  have hlt := Lib.hid h.lt'
  have HW : Hid (∀ wz O', RcAt wz B p K x O' → Below B w wz → Calls Tryz.prog 110 #[.pointer (some ⟨p, 0, none⟩), .int .i64 (homeN K.c key : Int), .string key, .int .u64 ((0 : Nat) : Int)] wz (WantR wz B p K (rcWant x (homeN K.c key) key 0) O')) :=
    fun wz O' a b => rcWant_any a (fun w' hb => hC w' (b.trans hb)) hf _ key 0 (home_lt hf key) hk (by have := hx.an; omega)
  have HH : Hid (∀ wz, Below w.heap.size w wz → Calls Tryz.prog 30 #[.agg #[.slice K.A K.c.reps.length K.ca, .slice K.B K.c.bnds.length K.cb], .string key] wz fun e w' => e = .returned (.int .i64 (homeN K.c key : Int)) ∧ Below wz.heap.size wz w') := fun wz hz => by
    have := refHome_any K.c key K.A K.B K.ca K.cb wz (hC wz (hz.mono hB))
    rw [show homeZ K.c key = (homeN K.c key : Int) by rw [homeZ, hf, if_pos rfl]] at this
    exact this
  obtain ⟨vr, vw, va, h⟩ := h
  obtain ⟨c0, c1, _, c3, _, _, _, _, _, _, _, c11, c12, _, _⟩ := h.cs
  obtain ⟨A, cap, rfl, hcap, hA, _⟩ := own_asksR h.rowa
  obtain ⟨Aw, capw, rfl, hcapw, hAw, _⟩ := own_wrs h.roww
  have hlen := hx.an
  have hlenw := hx.wn
  have HX := Lib.hid hx
  have hn' := Lib.hid hn
  have hHome := Lib.hid (home_lt hf key)
  clear h hx hC
  have HKy : Hid (∃ r, Calls Tryz.prog 56 #[.string key] w fun e w' => e = .returned (.bool r) ∧ w = w') := ⟨_, refKey_any key w hk⟩
  obtain ⟨r, hKy⟩ := HKy.out
  replace hKy := Lib.hid hKy
  go_enter Tryz.func58, Tryz.ntmps58
  go_wp2_with (go_at_call 56; refine hKy.out.mono ?_; rintro e w1 ⟨rfl, rfl⟩)
  all_goals try (go_ret2; exact rcs_no h0.out HX.out _ (Below.refl _ _))
  go_loop [6] (fun i => ∃ k : Nat, k ≤ x.asks.length ∧ i = .int .i64 k) (fun i => x.asks.length - (intOf i).toNat)
  case atStart => exact ⟨0, Nat.zero_le _, rfl⟩
  case round =>
    obtain ⟨k, hkl, rfl⟩ := hrel
    by_cases hlt2 : k < x.asks.length
    · obtain ⟨b, off, rfl, e0, e1, e2, e3, e4, _⟩ := hA k hlt2
      have ki : (k : Int) < (x.asks.length : Int) := by omega
      have k0 : (0 : Int) ≤ (k : Int) := by omega
      obtain ⟨kk, hkk⟩ : ∃ kk, (x.asks.getD k noAskR).key = kk := ⟨_, rfl⟩
      rw [hkk] at e2
      clear e0 e1 e3 e4 hkk
      cases hq : (kk.toList == key.toList)
      · go_wp2
        go_round
        case rel => exact ⟨k + 1, by omega, by go_num⟩
        case measure => simp [intOf]; omega
      · go_wp2
        go_ret2
        exact rcs_no h0.out HX.out _ (Below.refl _ _)
    · by_cases q6 : 6 ≤ x.asks.length
      · have q6' : (6 : Int) ≤ (x.asks.length : Int) := by omega
        go_wp2
        go_ret2
        exact rcs_no h0.out HX.out _ (Below.refl _ _)
      have q6' : ¬ ((6 : Int) ≤ (x.asks.length : Int)) := by omega
      go_wp2
      go_loop [7] (fun i => ∃ k : Nat, k ≤ x.wrs.length ∧ i = .int .i64 k) (fun i => x.wrs.length - (intOf i).toNat)
      case atStart => exact ⟨0, Nat.zero_le _, rfl⟩
      case round =>
        obtain ⟨k2, hkl2, rfl⟩ := hrel
        by_cases hlt3 : k2 < x.wrs.length
        · obtain ⟨b, off, rfl, e0, _⟩ := hAw k2 hlt3
          have ki : (k2 : Int) < (x.wrs.length : Int) := by omega
          have k0 : (0 : Int) ≤ (k2 : Int) := by omega
          obtain ⟨kk, hkk⟩ : ∃ kk, (x.wrs.getD k2 noWr).key = kk := ⟨_, rfl⟩
          rw [hkk] at e0
          clear hkk
          cases hq : (kk.toList == key.toList)
          · go_wp2
            go_round
            case rel => exact ⟨k2 + 1, by omega, by go_num⟩
            case measure => simp [intOf]; omega
          · go_wp2
            go_ret2
            exact rcs_no h0.out HX.out _ (Below.refl _ _)
        · go_wp2_with (first
            | (go_at_call 30; refine (HH.out _ (Below.refl _ _)).mono ?_; rintro e w6 ⟨rfl, hb6⟩)
            | (go_at_call 110; refine (HW.out _ _ (h0.out.later hb6) (hb6.mono hB)).mono ?_; rintro e w8 ⟨sv, rfl, hm8, hA8, ho8⟩; replace hA8 := Lib.hid hA8; replace ho8 := Lib.hid ho8)
            | (refine wpList_buildSlice1 rfl 118 166 _ rfl _ rfl _ Tryz.underlying118 info_rsnd (by rw [snd_size]; omega) (by rw [snd_size]; omega) (zero_rsnd _) ?_; obtain ⟨w9, e9, hb9, hs9, hr9⟩ := boxed w8 sv.vs 166; rw [e9]))
          go_ret2
          have s6 := hb6.size
          have s9 := hb9.size
          have s8 := ho8.out.size
          exact ⟨_, 0, rfl, rsnd_one hr9 (hm8 _), rc_close hlt.out hB (HX.out.want hHome.out hk) (hA8.out.later hb9) (fun k hk => hk.elim .inl fun q => .inr ⟨by omega, by omega⟩) (((Out.of_below hb6).trans' ho8.out).trans' (Out.of_below hb9))⟩
end
end Go.Proofs.YtjgloipgnnigmaaGreatDoor
/- parishlaw21.answer: a message made an answer: some message that lies in memory. -/
namespace Go.Proofs.YtjgloipgnnigmaaGreatDoor
open Go.RowKit Go.Shelf

section
variable {w : World} {B p : Nat} {K : CliK} {x : CliD} {O : Nat → Prop}
theorem field_idA (a b : Int) (A C : Option Addr) (n k c d : Nat) (w : World) : (Instr.field 37 (.agg #[.int .i64 a, .int .i64 b, .slice A n k, .slice C c d]) 0).run Tryz.prog w = .ok (.agg #[.int .i64 a, .int .i64 b]) w := by kernel_rfl
theorem msg_set_num {w : World} {g : Nat} {m : MsgV} {t : TypeId} (h : w.heap[g]? = some (.cells m.vs t (0, 0))) (n : Int) :
    (w.setCell ⟨g, 26, none⟩ (.int .i64 n)).heap[g]? = some (.cells ({ m with num := n } : MsgV).vs t (0, 0)) := blk_set21 (j := 26) (.int .i64 n) h
theorem msg_set_id {w : World} {g : Nat} {m : MsgV} {t : TypeId} (h : w.heap[g]? = some (.cells m.vs t (0, 0))) (a b : Int) :
    ((w.setCell ⟨g, 21, none⟩ (.int .i64 a)).setCell ⟨g, 22, none⟩ (.int .i64 b)).heap[g]? = some (.cells ({ m with ids := a, idq := b } : MsgV).vs t (0, 0)) :=
  blk_set21 (j := 22) (.int .i64 b) (blk_set21 (j := 21) (.int .i64 a) h)
/-- The answer's rows are those of the message. -/
def AnswPostF (w : World) (m0 : MsgV) (e : Ending) (w' : World) : Prop := ∃ m : MsgV, e = .returned (.agg m.vs) ∧ (∀ wz, MsgAt wz m0 → MsgAt wz m) ∧ Below w.heap.size w w'
theorem ans_fin {w Wm : World} {g : Nat} {m m0 : MsgV} (hm : ∀ wz, MsgAt wz m0 → MsgAt wz m) (hb : Below w.heap.size w Wm) (hg : w.heap.size ≤ g) : AnswPostF w m0 (.returned (.agg m.vs)) (Wm.setRow g m.vs) :=
  ⟨m, rfl, hm, below_setRow hb hg _⟩
set_option maxRecDepth 100000 in
set_option maxHeartbeats 8000000 in
theorem ans_fresh (h : CliAt w B p K x O) (hz : CliSz x) (hr : x.rds.length ≤ 6) (hw : x.wrs.length ≤ 6) (o : OpX) (ho : OpAt w o) :
    Calls Tryz.prog 26 #[.pointer (some ⟨p, 0, none⟩), .agg o.vs] w (AnswPostF w o.m) := by
  obtain ⟨W0, eW, HB, hsz, hrow⟩ := boxed w o.vs 45
  obtain ⟨W1, eW1, HB1, hsz1, hrow1⟩ := boxed W0 #[.int .i64 0, .int .u32 0, .int .i64 0, .int .i64 0, .bool false, .int .u32 0, .int .i64 0, .int .i64 0, .int .i64 0, .int .i64 0, .slice none 0 0, .slice none 0 0, .int .i64 0, .int .i64 0, .int .i64 0, .int .u64 0, .bool false, .int .i64 0, .int .i64 0, .slice none 0 0, .slice none 0 0, .int .i64 0, .int .i64 0, .int .i64 0, .int .u64 0, .bool false, .int .i64 0, .string ⟨#[]⟩, .int .u64 0, .int .i64 0, .int .u64 0, .string ⟨#[]⟩, .int .i64 0, .slice none 0 0] 43
  obtain ⟨d0, d1, d2, d3, d4, d5, d40, dm⟩ := op_cs hrow
  replace d40 := keep HB1 d40
  replace dm := Lib.hid (dm.later HB1)
  replace hrow1 := Lib.hid hrow1
  have HM := Lib.hid ho.m
  have HC := Lib.hid (h.later (keepB HB HB1))
  have hb0 := HB.size
  replace HB := keepB HB HB1
  have hsw : w.heap.size < W1.heap.size := by omega
  have hsw0 : W0.heap.size < W1.heap.size := by omega
  clear hrow d0 d1 d2 d3 d4 d5 h ho HB1
  replace hsz := Lib.hid hsz
  replace hsz1 := Lib.hid hsz1
  obtain ⟨kd, hkd⟩ : ∃ kd, Hid (o.m.kind = kd) := ⟨_, rfl⟩
  by_cases k13 : kd = 13
  · subst k13
    go_enter Tryz.func26, Tryz.ntmps26
    go_wp2_with (first
      | (refine wpList_load_cells rfl 43 _ rfl ⟨w.heap.size, 6, none⟩ rfl o.m.vs _ dm.out Tryz.underlying43 rfl info_msg10 ?_)
      | (refine wpList_store_new rfl 43 _ _ rfl W1 o.m.vs 43 rfl rfl rfl info_msg10 rfl (msg_one o.m) ?_; intro W2 HB2 hsz2 hrow2; replace d40 := keep HB2 d40; replace hrow1 := Lib.hid (obj_keep hrow1.out HB2); replace HC := Lib.hid (HC.out.later HB2); replace HB := keepB HB HB2; obtain ⟨m0, _, _, _, _, _, _, _, _, _, _, _, _, _, _, _, _, _, _, _, _, m21, m22, _, _, _, m26, _⟩ := msg_cs hrow2; have f21 := frozen_of_row W2 W1.heap.size 21 _ _ hrow2; have f22 := frozen_of_row W2 W1.heap.size 22 _ _ hrow2; have f26 := frozen_of_row W2 W1.heap.size 26 _ _ hrow2; replace hrow2 := Lib.hid hrow2; replace hsz2 := Lib.hid hsz2; rw [hkd.out] at m0; clear HB2)
      | (refine wpList_load_cells rfl 43 _ rfl ⟨W1.heap.size, 0, none⟩ rfl ({ o.m with num := o.num } : MsgV).vs _ (row_of_obj (msg_set_num hrow2.out o.num)) Tryz.underlying43 rfl info_msg10 ?_)
      | (refine wpList_store_row rfl 43 _ _ rfl W0.heap.size ({ o.m with num := o.num } : MsgV).vs rfl rfl 43 _ ((out_set21 W2 W1.heap.size 26 _).obj hrow1.out (fun e => by omega)) info_msg10 rfl (msg_one _) ?_))
    exact bodyPost_ret (v := .agg ({ o.m with num := o.num } : MsgV).vs) (results_cell_row rfl _ _ W0.heap.size _ ({ o.m with num := o.num } : MsgV).vs _ _ rfl (setRow_heap _ _ _ _ _ _ ((out_set21 W2 W1.heap.size 26 _).obj hrow1.out (fun e => by omega))) Tryz.underlying43 rfl info_msg10) rfl (ans_fin (fun _ h => ⟨h.c, h.t, h.d, h.k, h.v, h.n⟩) (HB.trans ((out_set21 W2 W1.heap.size 26 _).below HB.size (fun k e => by subst e; omega))) hb0)
  have n13 : (kd == 13) = false := by rw [beq_eq_false_iff_ne]; exact k13
  by_cases k11 : kd = 11
  · subst k11
    by_cases s2 : x.state = 2
    · have q2 : ((x.state : Int) == 2) = true := by rw [beq_iff_eq]; omega
      go_enter Tryz.func26, Tryz.ntmps26
      go_wp2_with (first
        | (refine wpList_load_cells rfl 43 _ rfl ⟨w.heap.size, 6, none⟩ rfl o.m.vs _ dm.out Tryz.underlying43 rfl info_msg10 ?_)
        | (refine wpList_store_new rfl 43 _ _ rfl W1 o.m.vs 43 rfl rfl rfl info_msg10 rfl (msg_one o.m) ?_; intro W2 HB2 hsz2 hrow2; replace d40 := keep HB2 d40; replace hrow1 := Lib.hid (obj_keep hrow1.out HB2); replace HC := Lib.hid (HC.out.later HB2); replace HB := keepB HB HB2; obtain ⟨m0, _, _, _, _, _, _, _, _, _, _, _, _, _, _, _, _, _, _, _, _, m21, m22, _, _, _, m26, _⟩ := msg_cs hrow2; have f21 := frozen_of_row W2 W1.heap.size 21 _ _ hrow2; have f22 := frozen_of_row W2 W1.heap.size 22 _ _ hrow2; have f26 := frozen_of_row W2 W1.heap.size 26 _ _ hrow2; replace hrow2 := Lib.hid hrow2; replace hsz2 := Lib.hid hsz2; rw [hkd.out] at m0; clear HB2)
        | (go_at_call 18; refine (state_any HC.out).mono ?_; rintro e w3 ⟨rfl, rfl⟩)
        | (go_at_call 24; refine (txn_any HC.out hz hr hw).mono ?_; rintro e w3 ⟨A3, B3, ca3, cb3, rfl, _, _, _, hb3⟩; unfold txV; replace m21 := keep hb3 m21; replace m22 := keep hb3 m22; have hrow3 := obj_keep hrow2.out hb3; have f21 := frozen_of_row w3 W1.heap.size 21 _ _ hrow3; have f22 := frozen_of_row w3 W1.heap.size 22 _ _ hrow3; have hfi := field_idA (txnD K.ses x).ses (txnD K.ses x).seq A3 B3 (txnD K.ses x).rds.length ca3 (txnD K.ses x).wrs.length cb3; have hrow1b := Lib.hid (obj_keep hrow1.out hb3); replace hrow3 := Lib.hid hrow3)
        | (refine wpList_load_cells rfl 43 _ rfl ⟨W1.heap.size, 0, none⟩ rfl ({ o.m with ids := (txnD K.ses x).ses, idq := (txnD K.ses x).seq } : MsgV).vs _ (row_of_obj (msg_set_id hrow3.out _ _)) Tryz.underlying43 rfl info_msg10 ?_)
        | (refine wpList_store_row rfl 43 _ _ rfl W0.heap.size ({ o.m with ids := (txnD K.ses x).ses, idq := (txnD K.ses x).seq } : MsgV).vs rfl rfl 43 _ ((out_set21 _ W1.heap.size 22 _).obj ((out_set21 w3 W1.heap.size 21 _).obj hrow1b.out (fun e => by omega)) (fun e => by omega)) info_msg10 rfl (msg_one _) ?_))
      exact bodyPost_ret (v := .agg ({ o.m with ids := (txnD K.ses x).ses, idq := (txnD K.ses x).seq } : MsgV).vs) (results_cell_row rfl _ _ W0.heap.size _ ({ o.m with ids := (txnD K.ses x).ses, idq := (txnD K.ses x).seq } : MsgV).vs _ _ rfl (setRow_heap _ _ _ _ _ _ ((out_set21 _ W1.heap.size 22 _).obj ((out_set21 w3 W1.heap.size 21 _).obj hrow1b.out (fun e => by omega)) (fun e => by omega))) Tryz.underlying43 rfl info_msg10) rfl (ans_fin (fun _ h => ⟨h.c, h.t, h.d, h.k, h.v, h.n⟩) ((HB.trans (hb3.mono HB.size)).trans (((out_set21 w3 W1.heap.size 21 _).trans' (out_set21 _ W1.heap.size 22 _)).below (Nat.le_trans HB.size hb3.size) (fun k e => by subst e; omega))) hb0)
    · have q2 : ((x.state : Int) == 2) = false := by rw [beq_eq_false_iff_ne]; omega
      go_enter Tryz.func26, Tryz.ntmps26
      go_wp2_with (first
        | (refine wpList_load_cells rfl 43 _ rfl ⟨w.heap.size, 6, none⟩ rfl o.m.vs _ dm.out Tryz.underlying43 rfl info_msg10 ?_)
        | (refine wpList_store_new rfl 43 _ _ rfl W1 o.m.vs 43 rfl rfl rfl info_msg10 rfl (msg_one o.m) ?_; intro W2 HB2 hsz2 hrow2; replace d40 := keep HB2 d40; replace hrow1 := Lib.hid (obj_keep hrow1.out HB2); replace HC := Lib.hid (HC.out.later HB2); replace HB := keepB HB HB2; obtain ⟨m0, _, _, _, _, _, _, _, _, _, _, _, _, _, _, _, _, _, _, _, _, m21, m22, _, _, _, m26, _⟩ := msg_cs hrow2; have f21 := frozen_of_row W2 W1.heap.size 21 _ _ hrow2; have f22 := frozen_of_row W2 W1.heap.size 22 _ _ hrow2; have f26 := frozen_of_row W2 W1.heap.size 26 _ _ hrow2; replace hrow2 := Lib.hid hrow2; replace hsz2 := Lib.hid hsz2; rw [hkd.out] at m0; clear HB2)
        | (go_at_call 18; refine (state_any HC.out).mono ?_; rintro e w3 ⟨rfl, rfl⟩)
        | (refine wpList_load_cells rfl 43 _ rfl ⟨W1.heap.size, 0, none⟩ rfl o.m.vs _ (row_of_obj hrow2.out) Tryz.underlying43 rfl info_msg10 ?_)
        | (refine wpList_store_row rfl 43 _ _ rfl W0.heap.size o.m.vs rfl rfl 43 _ hrow1.out info_msg10 rfl (msg_one _) ?_))
      exact bodyPost_ret (v := .agg o.m.vs) (results_cell_row rfl _ _ W0.heap.size _ o.m.vs _ _ rfl (setRow_heap _ _ _ _ _ _ hrow1.out) Tryz.underlying43 rfl info_msg10) rfl (ans_fin (fun _ h => h) HB hb0)
  · have n11 : (kd == 11) = false := by rw [beq_eq_false_iff_ne]; exact k11
    go_enter Tryz.func26, Tryz.ntmps26
    go_wp2_with (first
      | (refine wpList_load_cells rfl 43 _ rfl ⟨w.heap.size, 6, none⟩ rfl o.m.vs _ dm.out Tryz.underlying43 rfl info_msg10 ?_)
      | (refine wpList_store_new rfl 43 _ _ rfl W1 o.m.vs 43 rfl rfl rfl info_msg10 rfl (msg_one o.m) ?_; intro W2 HB2 hsz2 hrow2; replace d40 := keep HB2 d40; replace hrow1 := Lib.hid (obj_keep hrow1.out HB2); replace HC := Lib.hid (HC.out.later HB2); replace HB := keepB HB HB2; obtain ⟨m0, _, _, _, _, _, _, _, _, _, _, _, _, _, _, _, _, _, _, _, _, m21, m22, _, _, _, m26, _⟩ := msg_cs hrow2; have f21 := frozen_of_row W2 W1.heap.size 21 _ _ hrow2; have f22 := frozen_of_row W2 W1.heap.size 22 _ _ hrow2; have f26 := frozen_of_row W2 W1.heap.size 26 _ _ hrow2; replace hrow2 := Lib.hid hrow2; replace hsz2 := Lib.hid hsz2; rw [hkd.out] at m0; clear HB2)
      | (refine wpList_load_cells rfl 43 _ rfl ⟨W1.heap.size, 0, none⟩ rfl o.m.vs _ (row_of_obj hrow2.out) Tryz.underlying43 rfl info_msg10 ?_)
      | (refine wpList_store_row rfl 43 _ _ rfl W0.heap.size o.m.vs rfl rfl 43 _ hrow1.out info_msg10 rfl (msg_one _) ?_))
    exact bodyPost_ret (v := .agg o.m.vs) (results_cell_row rfl _ _ W0.heap.size _ o.m.vs _ _ rfl (setRow_heap _ _ _ _ _ _ hrow1.out) Tryz.underlying43 rfl info_msg10) rfl (ans_fin (fun _ h => h) HB hb0)
end
end Go.Proofs.YtjgloipgnnigmaaGreatDoor
/- What the laws of layer 21 share. -/
namespace Go.Proofs.YtjgloipgnnigmaaGreatDoor
open Go.RowKit Go.Shelf

theorem info_str21 : (Tryz.prog.info? 9).map (fun i => (i.zero, i.size, i.bytes)) = some (some (.string ByteArray.empty), 1, 16) := by kernel_rfl
theorem few21_keys {c : Cfg} {l : List OpX} (h : few21 c l = true) {k : Nat} (hk : k < l.length) : (l.getD k noOpX).keys.length ≤ 10 := by
  simp only [few21, Bool.and_eq_true, decide_eq_true_eq] at h
  have hm : l.getD k noOpX ∈ l.take 100 := by
    rw [List.take_of_length_le (by omega)]; exact getD_mem hk
  have := List.all_eq_true.1 h.1.1 _ hm
  simp only [fewO, Bool.and_eq_true, decide_eq_true_eq] at this
  exact this.1.1.2
theorem opAt_keys {w : World} {o : OpX} (h : OpAt w o) : ∀ k ∈ o.keys, k.size ≤ maxLen := fun s hs => by
  obtain ⟨i, hi, rfl⟩ := List.getElem_of_mem hs
  have := h.kz i hi
  rw [getD_eq o.keys noStr hi] at this
  exact this
theorem plain_vs (m : MsgV) (w : World) : Calls Tryz.prog 28 #[.agg m.vs] w fun e w' => e = .returned (.agg m.vs) ∧ Below w.heap.size w w' := plain_any m w
theorem snds_data : ∀ {l : List SndX} {d : List SndD}, SndsIs l d → ∀ s ∈ l, s.m.data.length ≤ 900000
  | _, _, .nil, _, h => by cases h
  | _, _, .cons h t, s, hs => by
    rcases List.mem_cons.1 hs with rfl | hs
    · cases h <;> exact Nat.zero_le _
    · exact snds_data t s hs
theorem yieldsIf_cells {P : Program} {ops : Array Oper} {S : World → Prop} {op : Oper} {a : Act} (hw : Region.wanted op (yielded ops a.tmps) = true) (ty : TypeId) (x : Operand) (ho : op.op = .load ty x)
    (ad : Addr) (hx : a.eval x = .pointer (some ad)) (cs : Array Value) (d : TypeDesc) (hS : ∀ w, S w → CellRow w ad cs)
    (hu : P.underlying ty = some d) (hd : (match d with | .struct _ | .array _ _ => true | _ => false) = true) (hi : (P.info? ty).map (·.size) = some cs.size) : YieldsIf P ops S op (.agg cs) a :=
  .inl ⟨hw, fun w hw' => by
    unfold execOp
    simp only [ho, hx, Instr.loadAt, Instr.sureAddr, Sem.run_bind, Sem.run_pure, Result.andThen_ok, run_loadVar_cells w ad ty cs d (hS w hw') hu hd hi]⟩
theorem yieldsIf_build2 {P : Program} {ops : Array Oper} {S : World → Prop} {op : Oper} {a : Act} (hw : Region.wanted op (yielded ops a.tmps) = true) (ty : TypeId) (x0 x1 : Operand) (ho : op.op = .build ty #[(0, x0), (1, x1)])
    (v0 v1 v : Value) (h0 : a.eval x0 = v0) (h1 : a.eval x1 = v1) (hr : ∀ w, (Instr.build ty #[(0, v0), (1, v1)]).run P w = .ok v w) : YieldsIf P ops S op v a :=
  .inl ⟨hw, fun w _ => by
    unfold execOp
    simp only [ho, List.map_toArray, List.map_cons, List.map_nil, h0, h1, Sem.run_bind, Sem.run_pure, Result.andThen_ok, hr]⟩
theorem build_rsnd (d : Int) (m : MsgV) (w : World) : (Instr.build 166 #[(0, .int .i64 d), (1, .agg m.vs)]).run Tryz.prog w = .ok (.agg (SndX.vs ⟨d, m⟩)) w := by kernel_rfl
end Go.Proofs.YtjgloipgnnigmaaGreatDoor
