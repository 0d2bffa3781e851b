/- GroupAgree: the walk. -/
import Derived.Test.YtcldpmkhpmlcbaaGreatDoorWBeg17
import Derived.Test.YtcldpmkhpmlcbaaGreatDoorWRun17
import Derived.Test.YtcldpmkhpmlcbaaGreatDoorK4
import Derived.Test.YtcldpmkhpmlcbaaGreatDoorJ22
import Derived.Test.YtcldpmkhpmlcbaaGreatDoorJ17
import Derived.BigQuiet
set_option linter.unusedVariables false
set_option linter.unusedSimpArgs false
namespace Go.Proofs.YtcldpmkhpmlcbaaGreatDoor
open Go.RowKit Go.Shelf Go.Maps

theorem groups_some {c : Cfg} {t : Tx} (hc : formedB c = true) (h : formedT t = true) : 0 < (groupsT c t).length := by
  have hne : rKeys t ++ wKeys t ≠ [] := by
    simp only [formedT, Bool.and_eq_true, Bool.not_eq_true', decide_eq_false_iff_not] at h
    intro e
    have e2 := congrArg List.length e
    simp only [rKeys, wKeys, List.length_append, List.length_map, List.length_nil] at e2
    exact h.1.1.1.2 e2
  obtain ⟨a, l, e⟩ := List.exists_cons_of_ne_nil hne
  obtain ⟨h0, h1⟩ := home_range hc a
  have hr := (groupsTo_rises c (rKeys t ++ wKeys t) c.reps.length).2 (homeZ c a)
  have hm : homeZ c a ∈ groupsT c t := by
    rw [groupsT, if_pos h, groupsL, if_pos hc]
    refine hr.2 ⟨(homeZ c a).toNat, by omega, ?_, by omega⟩
    rw [e, touchB, List.any_cons]
    have : (homeZ c a == ((homeZ c a).toNat : Int)) = true := by rw [beq_iff_eq]; omega
    rw [this, Bool.true_or]
  exact List.length_pos_of_mem hm
/-- One of a transaction's groups. -/
theorem group_at {c : Cfg} {t : Tx} (hc : formedB c = true) {k : Nat} (hk : k < (groupsT c t).length) : ∃ x : Nat, (groupsT c t).getD k 0 = x ∧ x < c.reps.length ∧ (x : Int) ∈ groupsT c t := by
  have hm : (groupsT c t).getD k 0 ∈ groupsT c t := by
    rw [List.getD_eq_getElem?_getD, List.getElem?_eq_getElem hk]; exact List.getElem_mem hk
  obtain ⟨x, e, hx⟩ := group_nat hc hm
  exact ⟨x, e, hx, by rw [← e]; exact hm⟩
theorem End17.dec {w0 wr wz : World} {b : Nat} {c : Cfg} {all : List Tx} {W : Wd} {F : WdE} (hE : End17 c all W) (hp : Plan c all) (h : WdIn w0 wr b c c.reps.length c.reps.length W F) {t : Tx} (ht : t ∈ all) {y : Bool} {s : Nat} {x : Nat} (hx : x < c.reps.length) (hd : getM (W.m x).dc (idT t) = some (y, s)) (hb : Below wr.heap.size wr wz) :
    Calls Tryz.prog 13 #[.pointer (some ⟨F.ps x, 0, none⟩), .agg #[.int .i64 t.ses, .int .i64 t.seq]] wz fun e w' => e = .returned (.tuple #[.bool y, .int .u64 (s : Int), .bool true]) ∧ Below wz.heap.size wz w' := by
  obtain ⟨E, ov, os, hm⟩ := h.m x hx
  have h1 := hm.k.dk (idT t) (by rw [hd]; rfl)
  have := decided17 (hm.m.later hb) (okId_of h1)
  rw [decOf, hd] at this
  exact this
set_option maxRecDepth 100000 in
set_option maxHeartbeats 8000000 in
theorem law_gagree (c : Cfg) (l : List TxV) (pk : List PickV) (A A' S P : Option Addr) (ca cb cs cp : Nat) (w : World) (h : CfgAt w c A A') (hl : TxsAt w S l) (hn : l.length ≤ 9223372036854775807) (hpk : PicksAt w P pk) (hpn : pk.length ≤ 9223372036854775807) (hT : Tabs w) :
    Calls Tryz.prog 4 #[.agg #[.slice A c.reps.length ca, .slice A' c.bnds.length cb], .slice S l.length cs, .slice P pk.length cp] w fun e w' => e = .returned (.bool true) ∧ Below w.heap.size w w' := by
  obtain ⟨W, eW, HB, c0, c1⟩ := box2 w (.slice A c.reps.length ca) (.slice A' c.bnds.length cb) 25
  have hW := Lib.hid (h.later HB)
  have hTW := Lib.hid (hT.later HB)
  have hPW := Lib.hid (hpk.later HB)
  have hAw : Hid (∀ wz, Below W.heap.size W wz → Calls Tryz.prog 9 #[] wz fun e w' => e = .returned (.bool true) ∧ Below wz.heap.size wz w') := fun wz hb => awake17 wz (hTW.out.later hb)
  have hBg := Lib.hid (wbegun17 c l A A' S ca cb cs W hW.out (hl.later HB) hn hTW.out)
  have hpnH := Lib.hid hpn
  clear h hl hT hn hpk hpn
  go_enter Tryz.func4, Tryz.ntmps4
  go_wp2_with fail
  refine hBg.out.mono ?_
  rintro e w1 (⟨rfl, hb1⟩ | ⟨w0, b, F, S', ds, ca', hb0, rfl, hI, hAll, hp⟩)
  · clear hBg hPW
    go_wp2_with (go_at_call 9; (with_reducible refine (hAw.out _ hb1).mono ?_); rintro e w2 ⟨rfl, hb0⟩; replace hb1 := keepB hb1 hb0; clear hb0)
    go_ret
    exact ⟨rfl, keepB HB hb1⟩
  have hb1 : Below W.heap.size W w1 := keepB hb0 hI.b0
  by_cases h100 : 100 < pk.length
  · have q1 : decide ((100 : Int) < (pk.length : Int)) = true := by rw [decide_eq_true_iff]; omega
    clear hBg hPW hI hAll hp h100
    go_wp2_with (go_at_call 9; (with_reducible refine (hAw.out _ hb1).mono ?_); rintro e w2 ⟨rfl, hb2⟩; replace hb1 := keepB hb1 hb2; clear hb2)
    go_ret
    exact ⟨rfl, keepB HB hb1⟩
  have q1 : decide ((100 : Int) < (pk.length : Int)) = false := by rw [decide_eq_false_iff_not]; omega
  have hpH := Lib.hid hp
  have hRun : Hid (∀ wz, Below w1.heap.size w1 wz → Calls Tryz.prog 15 #[.pointer (some ⟨b, 0, none⟩), .slice S' ds.length ca', .slice P pk.length cp] wz fun e w' => e = .returned (.tuple #[]) ∧ ∃ W2 F2, WdIn w0 w' b c c.reps.length c.reps.length W2 F2 ∧ AllAt w0 w' F2 S' ds ∧ End17 c (txsOf ds) W2) := fun wz hb => by
    have hA1 := hAll.step (WdStep.below hb)
    refine (wrun17 (hI.later hb) hpH.out hA1 (hPW.out.later hb0) (by omega)).mono ?_
    rintro e w' ⟨rfl, W2, F2, h1, h2, h3⟩
    exact ⟨rfl, W2, F2, h1, hA1.step h2, h3⟩
  have hb11 : Below w1.heap.size w1 w1 := Below.refl _ _
  clear hBg hPW hI hAll hp h100
  go_wp2_with (first
    | (go_at_call 9; (with_reducible refine (hAw.out _ hb1).mono ?_); rintro e w2 ⟨rfl, hb2⟩; replace hb11 := keepB hb11 hb2; replace hb1 := keepB hb1 hb2; clear hb2)
    | (go_at_call 15; (with_reducible refine (hRun.out _ hb11).mono ?_); rintro e w3 ⟨rfl, W2, F2, hI3, hA3, hE3⟩))
  have hI3H := Lib.hid hI3
  have hA3H := Lib.hid hA3
  have hE3H := Lib.hid hE3
  have hb03 := Lib.hid (keepB hb0 hI3.b0)
  clear hI3 hA3 hE3 hRun hAw hb1 hb11
  go_loopw [10] (fun i wr => ∃ k : Nat, k ≤ ds.length ∧ i = .int .i64 k ∧ Below w3.heap.size w3 wr) (fun i _ => ds.length - (intOf i).toNat)
  case atStart => exact ⟨0, Nat.zero_le _, rfl, Below.refl _ _⟩
  case round =>
    obtain ⟨k, hk, rfl, hw4⟩ := hrel
    obtain ⟨wi, rfl⟩ : ∃ wi : World, wi = wr := ⟨_, rfl⟩
    have e0 := keep (keepB hb03.out hw4) c0
    have e1 := keep (keepB hb03.out hw4) c1
    by_cases hlt : k < ds.length
    · obtain ⟨bt, ot, a, rfl, x0, x1, x2, x3, ht, _, _, HX⟩ := (hA3H.out.step (WdStep.below hw4)).at' hlt
      have hki : (k : Int) < (ds.length : Int) := by omega
      have hk0 : (0 : Int) ≤ (k : Int) := by omega
      have hkH := Lib.hid hlt
      have hkb : k < 1000 := by have := hpH.out.l; rw [txsOf, List.length_map] at this; omega
      have hmem := txsOf_mem hlt HX
      obtain ⟨y, s, hys⟩ := hE3H.out.agree hpH.out hmem
      have hys := Lib.hid hys
      have hmemH := Lib.hid hmem
      have hfT := Lib.hid (hpH.out.f _ hmem)
      obtain ⟨t, At, Bt, cta, ctb⟩ := a
      dsimp only at x0 x1 x2 x3 ht hys hmemH hfT
      obtain ⟨gs, hgs⟩ : ∃ gs, groupsT c t = gs := ⟨_, rfl⟩
      have hGr : Hid (∀ wz, Below wi.heap.size wi wz → Calls Tryz.prog 16 #[.agg #[.slice A c.reps.length ca, .slice A' c.bnds.length cb], .agg #[.int .i64 t.ses, .int .i64 t.seq, .slice At t.rds.length cta, .slice Bt t.wrs.length ctb]] wz (IntsPost wz gs)) := fun wz hb => by
        have h6 := formed_six hfT.out
        have := refGroupsW_any c t A A' At Bt ca cb cta ctb wz (hW.out.later (keepB (keepB hb03.out hw4) hb)) (ht.later (keepB (keepB hI3H.out.b0 hw4) hb)) (by omega) (by omega) (by have := (reps_four hpH.out.c).2; omega)
        rw [hgs] at this
        exact this
      have hgs0 : Hid (0 < gs.length) := by rw [← hgs]; exact groups_some hpH.out.c hfT.out
      have hgat : Hid (∀ j, j < gs.length → ∃ x : Nat, gs.getD j 0 = x ∧ x < c.reps.length ∧ ∀ wz, Below w3.heap.size w3 wz → Calls Tryz.prog 13 #[.pointer (some ⟨F2.ps x, 0, none⟩), .agg #[.int .i64 t.ses, .int .i64 t.seq]] wz fun e w' => e = .returned (.tuple #[.bool y, .int .u64 (s : Int), .bool true]) ∧ Below wz.heap.size wz w') := fun j hj => by
        rw [← hgs] at hj ⊢
        obtain ⟨x, e, hx, hm⟩ := group_at hpH.out.c hj
        exact ⟨x, e, hx, fun wz hb => hE3H.out.dec hpH.out hI3H.out hmemH.out hx (hys.out x hm) hb⟩
      have hglen : Hid (gs.length ≤ c.reps.length ∧ c.reps.length ≤ 4) := by rw [← hgs]; exact ⟨(groupsT_ok (t := t) hpH.out.c).2.2, (reps_four hpH.out.c).2⟩
      clear hlt hk hmem hgs ht
      have x0H := x0
      go_wp2
      go_cut [11] (fun s4 wx => ∃ Ag cg, s4 = .slice Ag gs.length cg ∧ IntsAt wx Ag gs ∧ Below wi.heap.size wi wx)
      case first =>
        have hbD := below_drew (Below.refl wi.heap.size wi)
        go_region_held3 (fun w' => w'.cell? ⟨w.heap.size, 0, none⟩ = some (.slice A c.reps.length ca) ∧ w'.cell? ⟨w.heap.size, 1, none⟩ = some (.slice A' c.bnds.length cb) ∧ w'.cell? ⟨bt, ot + k * 4, none⟩ = some (.int .i64 t.ses) ∧ w'.cell? ⟨bt, ot + k * 4 + 1, none⟩ = some (.int .i64 t.seq) ∧ w'.cell? ⟨bt, ot + k * 4 + 2, none⟩ = some (.slice At t.rds.length cta) ∧ w'.cell? ⟨bt, ot + k * 4 + 3, none⟩ = some (.slice Bt t.wrs.length ctb))
          (first | exact ⟨keep hbD e0, keep hbD e1, keep hbD x0, keep hbD x1, keep hbD x2, keep hbD x3⟩ | exact ⟨keep hbX e0, keep hbX e1, keep hbX x0, keep hbX x1, keep hbX x2, keep hbX x3⟩)
          ((go_at_call 16; (with_reducible refine (hGr.out _ hbD).mono ?_); rintro e w5 ⟨Ag, cg, rfl, hg5, hb5⟩; have hbX := keepB hbD hb5))
        all_goals
          go_wp2
          go_meet
          exact ⟨Ag, cg, rfl, hg5, hbX⟩
      case rest =>
        obtain ⟨Ag, cg, rfl, hgA, hw5⟩ := hcut
        obtain ⟨w5, rfl⟩ : ∃ wq : World, wq = wc := ⟨_, rfl⟩
        replace hgA := Lib.hid hgA
        have hw35 := Lib.hid (keepB hw4 hw5)
        have x0' := keep hw5 x0
        have x1' := keep hw5 x1
        clear x0 x1 x2 x3 e0 e1 hGr x0H
        go_wp2
        go_cut [12, 13, 14] (fun s1 s2 s3 wx => s1 = .bool y ∧ s2 = .int .u64 (s : Int) ∧ s3 = .bool true ∧ Below w5.heap.size w5 wx)
        case first =>
          obtain ⟨x, hx, hxn, hDec⟩ := hgat.out 0 hgs0.out
          replace hDec := Lib.hid hDec
          obtain ⟨bg, og, xv, rfl, g0, hgx⟩ := hgA.out.at' hgs0.out
          rw [Nat.add_zero] at g0
          obtain rfl : xv = (x : Int) := by rw [← hgx.out]; exact hx
          obtain ⟨_, _, m2, _⟩ := (hI3H.out.later hw35.out).cs
          obtain ⟨Am, km, eM, hM⟩ := (hI3H.out.later hw35.out).mach
          obtain ⟨bm, om, rfl, _, p0⟩ := hM x hxn
          rw [eM] at m2
          have xi0 : (0 : Int) ≤ (x : Int) := by omega
          have xi1 : (x : Int) < (c.reps.length : Int) := by omega
          have gl0 : (0 : Int) < (gs.length : Int) := by have := hgs0.out; omega
          have gl1 : 0 < gs.length := hgs0.out
          have gl2 : ¬ gs = [] := fun e => by rw [e] at gl1; exact absurd gl1 (Nat.lt_irrefl _)
          have gl3 : gs ≠ [] := gl2
          clear hx hxn hM eM hgx
          have hbD := below_drew (Below.refl w5.heap.size w5)
          go_region_held3 (fun w' => w'.cell? ⟨b, 2, none⟩ = some (.slice (some ⟨bm, om, none⟩) c.reps.length km) ∧ w'.cell? ⟨bm, om + x, none⟩ = some (.pointer (some ⟨F2.ps x, 0, none⟩)) ∧ w'.cell? ⟨bg, og, none⟩ = some (.int .i64 (x : Int)) ∧ w'.cell? ⟨bt, ot + k * 4, none⟩ = some (.int .i64 t.ses) ∧ w'.cell? ⟨bt, ot + k * 4 + 1, none⟩ = some (.int .i64 t.seq))
            (first | exact ⟨keep hbD m2, keep hbD p0, keep hbD g0, keep hbD x0', keep hbD x1'⟩ | exact ⟨keep hbX m2, keep hbX p0, keep hbX g0, keep hbX x0', keep hbX x1'⟩)
            ((go_at_call 13; (with_reducible refine (hDec.out _ (keepB hw35.out hbD)).mono ?_); rintro e w6 ⟨rfl, hb6⟩; have hbX := keepB hbD hb6))
          all_goals
            go_wp2
            go_meet
            exact ⟨rfl, rfl, rfl, hbX⟩
        case rest =>
          obtain ⟨rfl, rfl, rfl, hw6⟩ := hcut
          obtain ⟨w6, rfl⟩ : ∃ wq : World, wq = wc := ⟨_, rfl⟩
          have hg1 := hgs0.out
          have hw36 := Lib.hid (keepB hw35.out hw6)
          have hgA6 := Lib.hid (hgA.out.later hw6)
          have y0 := keep hw6 x0'
          have y1 := keep hw6 x1'
          clear x0' x1' hgA hw35 hw5 hw6 hgs0 hw4
          go_wp2
          go_loopw [15] (fun i wr => ∃ j : Nat, j ≤ gs.length ∧ i = .int .i64 j ∧ Below w6.heap.size w6 wr) (fun i _ => gs.length - (intOf i).toNat)
          case atStart => exact ⟨1, hg1, rfl, Below.refl _ _⟩
          case round =>
            obtain ⟨j, hj, rfl, hw7⟩ := hrel
            obtain ⟨wj, rfl⟩ : ∃ wi : World, wi = wr := ⟨_, rfl⟩
            by_cases hlt : j < gs.length
            · have hji : (j : Int) < (gs.length : Int) := by omega
              have hj0 : (0 : Int) ≤ (j : Int) := by omega
              have hjH := Lib.hid hlt
              have hjn : Hid (j < 1000000) := by
                show _ < _
                have := hjH.out
                have := hglen.out
                omega
              have hjb : j < 1000000 := hjn.out
              clear hlt
              go_wp2
              go_cut [16, 17, 18] (fun s1 s2 s3 wx => s1 = .bool y ∧ s2 = .int .u64 (s : Int) ∧ s3 = .bool true ∧ Below wj.heap.size wj wx)
              case first =>
                obtain ⟨x, hx, hxn, hDec⟩ := hgat.out j hjH.out
                replace hDec := Lib.hid hDec
                obtain ⟨bg, og, xv, rfl, g0, hgx⟩ := (show IntsAt wj _ gs from hgA6.out.later hw7).at' hjH.out
                obtain rfl : xv = (x : Int) := by rw [← hgx.out]; exact hx
                have hw37 := Lib.hid (keepB hw36.out hw7)
                obtain ⟨_, _, m2, _⟩ := (hI3H.out.later hw37.out).cs
                obtain ⟨Am, km, eM, hM⟩ := (hI3H.out.later hw37.out).mach
                obtain ⟨bm, om, rfl, _, p0⟩ := hM x hxn
                rw [eM] at m2
                have xi0 : (0 : Int) ≤ (x : Int) := by omega
                have xi1 : (x : Int) < (c.reps.length : Int) := by omega
                have z0 := keep hw7 y0
                have z1 := keep hw7 y1
                clear hx hxn hM eM hgx
                have hbD := below_drew (Below.refl wj.heap.size wj)
                go_region_held3 (fun w' => w'.cell? ⟨b, 2, none⟩ = some (.slice (some ⟨bm, om, none⟩) c.reps.length km) ∧ w'.cell? ⟨bm, om + x, none⟩ = some (.pointer (some ⟨F2.ps x, 0, none⟩)) ∧ w'.cell? ⟨bg, og + j, none⟩ = some (.int .i64 (x : Int)) ∧ w'.cell? ⟨bt, ot + k * 4, none⟩ = some (.int .i64 t.ses) ∧ w'.cell? ⟨bt, ot + k * 4 + 1, none⟩ = some (.int .i64 t.seq))
                  (first | exact ⟨keep hbD m2, keep hbD p0, keep hbD g0, keep hbD z0, keep hbD z1⟩ | exact ⟨keep hbX m2, keep hbX p0, keep hbX g0, keep hbX z0, keep hbX z1⟩)
                  ((go_at_call 13; (with_reducible refine (hDec.out _ (keepB hw37.out hbD)).mono ?_); rintro e w8 ⟨rfl, hb8⟩; have hbX := keepB hbD hb8))
                all_goals
                  go_wp2
                  go_meet
                  exact ⟨rfl, rfl, rfl, hbX⟩
              case rest =>
                obtain ⟨rfl, rfl, rfl, hw8⟩ := hcut
                obtain ⟨w8, rfl⟩ : ∃ wq : World, wq = wc := ⟨_, rfl⟩
                have hw78 := Lib.hid (keepB hw7 hw8)
                clear y0 y1 hw7 hw8
                go_wp2
                go_roundw
                case rel => exact ⟨j + 1, hjH.out, by go_num, hw78.out⟩
                case measure => have := hjH.out; simp [intOf]; omega
            · have hE := Lib.hid (keepB hw36.out hw7)
              have hjd : decide ((j : Int) < (gs.length : Int)) = false := by rw [decide_eq_false_iff_not]; omega
              clear y0 y1 hw7
              go_wp2
              go_roundw
              case rel => exact ⟨k + 1, hkH.out, by go_num, hE.out⟩
              case measure => have := hkH.out; simp [intOf]; omega
    · obtain rfl : k = ds.length := by omega
      clear hk
      go_wp2
      go_ret
      exact ⟨rfl, keepB HB (keepB hb03.out hw4)⟩
end Go.Proofs.YtcldpmkhpmlcbaaGreatDoor
