/- GroupSafe: the walk. -/
import Derived.Test.YtcldpmkhpmlcbaaGreatDoorGSafe17
import Derived.Test.YtcldpmkhpmlcbaaGreatDoorLawGOn17
import Derived.Test.YtcldpmkhpmlcbaaGreatDoorOpenTwo
import Derived.BigQuiet
import Derived.Deep.RegionHeld3
import Derived.Lib.QuietBelow
set_option linter.unusedVariables false
set_option linter.unusedSimpArgs false
namespace Go.Proofs.YtcldpmkhpmlcbaaGreatDoor
open Go.RowKit Go.Shelf Go.Maps Go.Sort

theorem cfg_old {w : World} {c : Cfg} {A B : Option Addr} (h : CfgAt w c A B) : Old w.heap.size c.reps.length A ∧ Old w.heap.size c.bnds.length B := ⟨fun a e hn0 => by
    obtain ⟨b, off, e1, hc⟩ := h.ints 0 hn0
    rw [e] at e1; cases e1
    exact blk_lt hc, fun a e hn0 => by
    obtain ⟨b, off, e1, hc⟩ := h.strs 0 hn0
    rw [e] at e1; cases e1
    exact blk_lt hc⟩
theorem cmds_old {w : World} {S : Option Addr} {l : List CmdV} (h : CmdsAt w S l) : ∀ k, k < l.length → Old w.heap.size (l.getD k noCmd).t.rds.length (l.getD k noCmd).A ∧ Old w.heap.size (l.getD k noCmd).t.wrs.length (l.getD k noCmd).B := fun k hk => by
  obtain ⟨_, _, _, _, ht⟩ := h k hk
  refine ⟨fun a e hn0 => ?_, fun a e hn0 => ?_⟩
  · obtain ⟨b, off, e1, hc, _⟩ := ht.rds 0 hn0
    rw [e] at e1; cases e1
    exact blk_lt hc
  · obtain ⟨b, off, e1, hc, _⟩ := ht.wrs 0 hn0
    rw [e] at e1; cases e1
    exact blk_lt hc
/-- Apply of one of a list's commands, at work. -/
theorem SafeIn.applies {w w0 wr : World} {B p n : Nat} {c : Cfg} {g : Int} {lab : Nat → Lab} {x : MachD} {L : Nat → Prop} (h : SafeIn w0 wr B p c g n lab x L) (hn : n ≤ 900) {a : CmdV} (ht : TxAt wr a.t a.A a.B) (oA : Old w.heap.size a.t.rds.length a.A) (oB : Old w.heap.size a.t.wrs.length a.B) (hw : w.heap.size ≤ B) (s : Nat) :
    Calls Tryz.prog 12 #[.pointer (some ⟨p, 0, none⟩), .agg #[.int .i64 a.k, .int .i64 a.t.ses, .int .i64 a.t.seq, .slice a.A a.t.rds.length a.ca, .slice a.B a.t.wrs.length a.cb, .int .i64 a.is, .int .i64 a.iq, .int .i64 a.g, .int .u64 (a.st : Int), .bool a.y]] wr fun e w' => ∃ (v : Value) (lab' : Nat → Lab) (x' : MachD), e = .returned v ∧ SafeIn w0 w' B p c g (n + 2) lab' x' L ∧ Stays x x' s ∧ Out (fun k => ¬ L k) wr w' := by
  obtain ⟨E, ov, os, hG⟩ := h.m
  refine (apply17 hG a ht (fun q e hn0 => .inl (Nat.lt_of_lt_of_le (oA q e hn0) hw)) (fun q e hn0 => .inl (Nat.lt_of_lt_of_le (oB q e hn0) hw)) hn).mono ?_
  rintro e w' ⟨v, rfl, hv⟩
  obtain ⟨lab', h1, h2, h3⟩ := h.apply hv s
  exact ⟨v, lab', _, rfl, h1, h2, h3⟩
set_option maxRecDepth 100000 in
set_option maxHeartbeats 8000000 in
theorem law_gsafe (c : Cfg) (l l2 : List CmdV) (A B' S S2 : Option Addr) (ca cb cs cs2 : Nat) (g : Int) (w : World) (h : CfgAt w c A B') (hl : CmdsAt w S l) (hl' : CmdsAt w S2 l2) (hn : l.length ≤ 9223372036854775807) (hn2 : l2.length ≤ 9223372036854775807) (hT : Tabs w) :
    Calls Tryz.prog 6 #[.agg #[.slice A c.reps.length ca, .slice B' c.bnds.length cb], .int .i64 g, .agg #[.slice S l.length cs, .slice S2 l2.length cs2]] w fun e w' => e = .returned (.bool true) ∧ Below w.heap.size w w' := by
  obtain ⟨W1, eW1, HB1, c0, c1⟩ := box2 w (.slice A c.reps.length ca) (.slice B' c.bnds.length cb) 25
  obtain ⟨W, eW, HB2, d0, d1⟩ := box2 W1 (.slice S l.length cs) (.slice S2 l2.length cs2) 62
  have HB := keepB HB1 HB2
  replace c0 := keep HB2 c0
  replace c1 := keep HB2 c1
  have hW := Lib.hid (h.later HB)
  have hlW := Lib.hid (hl.later HB)
  have hlW2 := Lib.hid (hl'.later HB)
  have hTW := Lib.hid (hT.later HB)
  obtain ⟨bk, hbk⟩ : ∃ bk, W1.heap.size = bk := ⟨_, rfl⟩
  rw [hbk] at d0 d1
  have hAw : Hid (∀ wz, Below W.heap.size W wz → Calls Tryz.prog 9 #[] wz fun e w' => e = .returned (.bool true) ∧ Below wz.heap.size wz w') := fun wz hb => awake17 wz (hTW.out.later hb)
  have hFe : Hid (∀ wz, Below W.heap.size W wz → Calls Tryz.prog 10 #[.agg #[.slice A c.reps.length ca, .slice B' c.bnds.length cb], .slice S l.length cs] wz fun e w' => e = .returned (.bool (fewL c l)) ∧ Below wz.heap.size wz w') := fun wz hb => fewL_any c l A B' S ca cb cs wz (hW.out.later hb) (hlW.out.later hb) hn
  have hFe2 : Hid (∀ wz, Below W.heap.size W wz → Calls Tryz.prog 10 #[.agg #[.slice A c.reps.length ca, .slice B' c.bnds.length cb], .slice S2 l2.length cs2] wz fun e w' => e = .returned (.bool (fewL c l2)) ∧ Below wz.heap.size wz w') := fun wz hb => fewL_any c l2 A B' S2 ca cb cs2 wz (hW.out.later hb) (hlW2.out.later hb) hn2
  have hbb : Below W.heap.size W W := Below.refl _ _
  have hold := Lib.hid (cfg_old h)
  have hlold := Lib.hid (cmds_old hl)
  have hlold2 := Lib.hid (cmds_old hl')
  clear h hl hl' hT HB1 HB2
  cases hf : fewL c l
  · rw [hf] at hFe
    clear hf
    go_enter Tryz.func6, Tryz.ntmps6
    go_wp2_with (first
      | (go_at_call 9; (with_reducible refine (hAw.out _ hbb).mono ?_); rintro e w0 ⟨rfl, hb0⟩; replace hbb := keepB hbb hb0; clear hb0; have y0 := keep hbb c0; have y1 := keep hbb c1; have y2 := keep hbb d0; have y3 := keep hbb d1)
      | (go_at_call 10; (with_reducible refine (hFe.out _ hbb).mono ?_); rintro e w1 ⟨rfl, hb0⟩; replace hbb := keepB hbb hb0; clear hb0; have y0 := keep hbb c0; have y1 := keep hbb c1; have y2 := keep hbb d0; have y3 := keep hbb d1))
    go_ret
    exact ⟨rfl, keepB HB hbb⟩
  rw [hf] at hFe
  have h60 := Lib.hid (fewL_parts hf)
  clear hf
  cases hf : fewL c l2
  · rw [hf] at hFe2
    clear hf
    go_enter Tryz.func6, Tryz.ntmps6
    go_wp2_with (first
      | (go_at_call 9; (with_reducible refine (hAw.out _ hbb).mono ?_); rintro e w0 ⟨rfl, hb0⟩; replace hbb := keepB hbb hb0; clear hb0; have y0 := keep hbb c0; have y1 := keep hbb c1; have y2 := keep hbb d0; have y3 := keep hbb d1)
      | (go_at_call 10; (with_reducible refine (hFe.out _ hbb).mono ?_); rintro e w1 ⟨rfl, hb0⟩; replace hbb := keepB hbb hb0; clear hb0; have y0 := keep hbb c0; have y1 := keep hbb c1; have y2 := keep hbb d0; have y3 := keep hbb d1)
      | (go_at_call 10; (with_reducible refine (hFe2.out _ hbb).mono ?_); rintro e w1 ⟨rfl, hb0⟩; replace hbb := keepB hbb hb0; clear hb0; have y0 := keep hbb c0; have y1 := keep hbb c1; have y2 := keep hbb d0; have y3 := keep hbb d1))
    go_ret
    exact ⟨rfl, keepB HB hbb⟩
  rw [hf] at hFe2
  have h602 := Lib.hid (fewL_parts hf)
  clear hf
  by_cases hok : formedB c = true ∧ 0 ≤ g ∧ g < (c.reps.length : Int)
  case neg =>
    have hNo : Hid (∀ wz, Below W.heap.size W wz → Calls Tryz.prog 11 #[.agg #[.slice A c.reps.length ca, .slice B' c.bnds.length cb], .int .i64 g] wz fun e w' => e = .returned (.pointer none) ∧ Below wz.heap.size wz w') := fun wz hb => grNew_no (hW.out.later hb) hok
    clear hok
    go_enter Tryz.func6, Tryz.ntmps6
    go_wp2_with (first
      | (go_at_call 9; (with_reducible refine (hAw.out _ hbb).mono ?_); rintro e w0 ⟨rfl, hb0⟩; replace hbb := keepB hbb hb0; clear hb0; have y0 := keep hbb c0; have y1 := keep hbb c1; have y2 := keep hbb d0; have y3 := keep hbb d1)
      | (go_at_call 10; (with_reducible refine (hFe.out _ hbb).mono ?_); rintro e w1 ⟨rfl, hb0⟩; replace hbb := keepB hbb hb0; clear hb0; have y0 := keep hbb c0; have y1 := keep hbb c1; have y2 := keep hbb d0; have y3 := keep hbb d1)
      | (go_at_call 10; (with_reducible refine (hFe2.out _ hbb).mono ?_); rintro e w1 ⟨rfl, hb0⟩; replace hbb := keepB hbb hb0; clear hb0; have y0 := keep hbb c0; have y1 := keep hbb c1; have y2 := keep hbb d0; have y3 := keep hbb d1)
      | (go_at_call 11; (with_reducible refine (hNo.out _ hbb).mono ?_); rintro e w2 ⟨rfl, hb0⟩; replace hbb := keepB hbb hb0; clear hb0))
    go_ret
    exact ⟨rfl, keepB HB hbb⟩
  case pos =>
    have hNew : Hid (∀ wz, Below W.heap.size W wz → Calls Tryz.prog 11 #[.agg #[.slice A c.reps.length ca, .slice B' c.bnds.length cb], .int .i64 g] wz fun e w' => ∃ (p : Nat) (lab : Nat → Lab), e = .returned (.pointer (some ⟨p, 0, none⟩)) ∧ SafeIn W w' wz.heap.size p c g 0 lab (mach0 g) (fun _ => False)) := fun wz hb => by
      have hs : w.heap.size ≤ wz.heap.size := Nat.le_trans HB.size hb.size
      refine (grNew_ok (hW.out.later hb) (fun a e hn0 => Nat.lt_of_lt_of_le (hold.out.1 a e hn0) hs) (fun a e hn0 => Nat.lt_of_lt_of_le (hold.out.2 a e hn0) hs) hok.1 hok.2.1 hok.2.2).mono ?_
      rintro e w' ⟨p, lab, E, rfl, hM, hb2, hz⟩
      exact ⟨p, lab, rfl, ⟨⟨_, _, _, GrAt.made hM hz (Below.refl _ _) hok.1 hok.2.1 hok.2.2 (TabB.of hTW.out hb.size (hTW.out.later (keepB hb hb2)))⟩, sok0 g, fun _ e => e.elim, keepB hb hb2, hb.size⟩⟩
    clear hok
    go_enter Tryz.func6, Tryz.ntmps6
    go_wp2_with (first
      | (go_at_call 9; (with_reducible refine (hAw.out _ hbb).mono ?_); rintro e w0 ⟨rfl, hb0⟩; replace hbb := keepB hbb hb0; clear hb0; have y0 := keep hbb c0; have y1 := keep hbb c1; have y2 := keep hbb d0; have y3 := keep hbb d1)
      | (go_at_call 10; (with_reducible refine (hFe.out _ hbb).mono ?_); rintro e w1 ⟨rfl, hb0⟩; replace hbb := keepB hbb hb0; clear hb0; have y0 := keep hbb c0; have y1 := keep hbb c1; have y2 := keep hbb d0; have y3 := keep hbb d1)
      | (go_at_call 10; (with_reducible refine (hFe2.out _ hbb).mono ?_); rintro e w1 ⟨rfl, hb0⟩; replace hbb := keepB hbb hb0; clear hb0; have y0 := keep hbb c0; have y1 := keep hbb c1; have y2 := keep hbb d0; have y3 := keep hbb d1)
      | (go_at_call 11; (with_reducible refine (hNew.out _ hbb).mono ?_); rintro e w5 ⟨p, lab0, rfl, hM0⟩; replace hM0 := Lib.hid hM0; have hWB := Lib.hid hbb.size))
    have hwB : Hid (w.heap.size ≤ w1.heap.size) := Nat.le_trans HB.size hWB.out
    obtain ⟨Bb, hBb⟩ : ∃ Bb, w1.heap.size = Bb := ⟨_, rfl⟩
    rw [hBb] at hM0 hwB
    clear hAw hFe hFe2 hNew hW y0 y1 y2 y3 c0 c1 hbb hBb hTW eW eW1 hWB hold
    go_loopw [8] (fun i wr => ∃ (k : Nat) (lab : Nat → Lab) (x : MachD), k ≤ l.length ∧ i = .int .i64 k ∧ Hid (SafeIn W wr Bb p c g (2 * k) lab x (fun _ => False))) (fun i _ => l.length - (intOf i).toNat)
    case atStart => exact ⟨0, lab0, mach0 g, Nat.zero_le _, rfl, hM0⟩
    case round =>
      obtain ⟨k, lab, x, hk, rfl, HI⟩ := hrel
      obtain ⟨wi, rfl⟩ : ∃ wi : World, wi = wr := ⟨_, rfl⟩
      have z0 := keep HI.out.b d0
      have z1 := keep HI.out.b d1
      by_cases hlt : k < l.length
      · obtain ⟨b, off, a, rfl, hr, ht, HX⟩ := (hlW.out.later HI.out.b).at' hlt
        obtain ⟨x0, x1, x2, x3, x4, x5, x6, x7, x8, x9⟩ := cmd_agg hr
        have ho := hlold.out k hlt
        rw [HX.out] at ho
        have hAp := Lib.hid (HI.out.applies (by have := h60.out; omega) ht ho.1 ho.2 hwB.out 0)
        have hki : (k : Int) < (l.length : Int) := by omega
        have hk0 : (0 : Int) ≤ (k : Int) := by omega
        have hkH := Lib.hid hlt
        have hkb : k < 1000 := by have := h60.out; omega
        clear hr ht ho hlt HI
        go_wp2_with (go_at_call 12; (with_reducible refine hAp.out.mono ?_); rintro e w2 ⟨v, lab', x', rfl, hS', _, _⟩; replace hS' := Lib.hid hS')
        go_roundw
        case rel => exact ⟨k + 1, lab', x', by have := hkH.out; omega, by go_num, hS'⟩
        case measure => have := hkH.out; simp [intOf]; omega
      · obtain rfl : k = l.length := by omega
        have hSf := Lib.hid (HI.out.safe (Below.refl wi.heap.size wi))
        obtain ⟨s, hs⟩ : ∃ s, safeQ x.q = s := ⟨_, rfl⟩
        rw [hs] at hSf
        have hsa : Hid (SafeAt x.q s) := (safe_iff HI.out.qok).1 (by rw [hs]; exact Nat.le_refl _)
        clear hlt hs
        go_wp2_with (go_at_call 19; (with_reducible refine hSf.out.mono ?_); rintro e w3 ⟨rfl, hb3⟩)
        have hB0 := Lib.hid (SafeBlk.made w3)
        have hI0 := Lib.hid ((HI.out.later hb3).own (below3 w3 (.cells keyCells 64) (.cells (zeroL ++ (zeroL ++ (zeroL ++ zeroL))).toArray 67) (.cells #[.int .i64 0, .int .i64 0, .int .i64 0, .int .i64 0] 69)))
        obtain ⟨kb, hkb⟩ : ∃ kb, w3.heap.size = kb := ⟨_, rfl⟩
        have hBk : Hid (Bb ≤ kb) := by
          obtain ⟨_, _, _, hm⟩ := (HI.out.later hb3).m
          show _ ≤ _
          rw [← hkb]
          exact hm.m.hB
        obtain ⟨W9, hW9⟩ : ∃ W9, (((w3.alloc (.cells keyCells 64)).alloc (.cells (zeroL ++ (zeroL ++ (zeroL ++ zeroL))).toArray 67)).alloc (.cells #[.int .i64 0, .int .i64 0, .int .i64 0, .int .i64 0] 69)) = W9 := ⟨_, rfl⟩
        rw [hW9] at hB0 hI0
        unfold keyCells zeroL at hW9
        simp only [List.cons_append, List.nil_append] at hW9
        rw [hW9]
        rw [hkb] at hB0 hI0 ⊢
        have hsz9 : W9.heap.size = kb + 1 + 1 + 1 := by rw [← hW9, ← hkb]; simp
        rw [hsz9] at hI0
        obtain ⟨wb, hwb⟩ : ∃ wb, kb + 1 = wb := ⟨_, rfl⟩
        rw [hwb] at hB0 hI0 ⊢
        obtain ⟨nb, hnb⟩ : ∃ nb, wb + 1 = nb := ⟨_, rfl⟩
        rw [hnb] at hB0 hI0 ⊢
        have hI9 : Hid (SafeIn W W9 Bb p c g (2 * l.length) lab x (fun q => q = kb ∨ q = wb ∨ q = nb)) := hI0.out.mono (fun q hq => .inr (by omega))
        have hne1 : ¬ (kb = wb) := by omega
        have hne2 : ¬ (kb = nb) := by omega
        have hne3 : ¬ (wb = nb) := by omega
        have hne4 : ¬ (nb = wb) := by omega
        obtain ⟨f, hf⟩ : ∃ f : Nat → Val × Int, (fun k => seeM c g x (keyN k) s) = f := ⟨_, rfl⟩
        have hfk : Hid (∀ k, seeM c g x (keyN k) s = f k) := fun k => by rw [← hf]
        have hB9 : Hid (SafeBlk W9 kb wb nb (wasA f 0) (noA f 0)) := hB0.out
        have hlw : Hid (Bb ≤ wb ∧ Bb ≤ nb) := by have := hBk.out; show _ ∧ _; omega
        clear hB0 hI0 hW9 hsz9 hkb hwb hnb hf HI hSf z0 z1 hb3
        go_loopw [13] (fun i wr => ∃ k : Nat, k ≤ 4 ∧ i = .int .i64 k ∧ Hid (SafeIn W wr Bb p c g (2 * l.length) lab x (fun q => q = kb ∨ q = wb ∨ q = nb) ∧ SafeBlk wr kb wb nb (wasA f k) (noA f k))) (fun i _ => 4 - (intOf i).toNat)
        case atStart => exact ⟨0, by omega, rfl, hI9.out, hB9.out⟩
        case round =>
          obtain ⟨k, hk4, rfl, HI⟩ := hrel
          obtain ⟨wi, rfl⟩ : ∃ wi : World, wi = wr := ⟨_, rfl⟩
          have hSe : Hid (∀ j, Calls Tryz.prog 20 #[.pointer (some ⟨p, 0, none⟩), .string (keyN j), .int .u64 (s : Int)] wi (SeePost wi (f j))) := fun j => by
            have := HI.out.1.see (by have := h60.out; omega) (Below.refl wi.heap.size wi) (key := keyN j) (by unfold keyN; split <;> decide) s
            rw [hfk.out] at this
            exact this
          have hkk : k = 0 ∨ k = 1 ∨ k = 2 ∨ k = 3 ∨ k = 4 := by omega
          rcases hkk with rfl | rfl | rfl | rfl | rfl
          · obtain ⟨y, hy⟩ : ∃ y, f 0 = y := ⟨_, rfl⟩
            have hS0 := hSe.out 0
            rw [hy] at hS0
            replace hS0 := Lib.hid hS0
            unfold keyN SeePost at hS0
            have c0 : wi.cell? ⟨kb, 0, none⟩ = some (.string ⟨#[97]⟩) := by rw [cell_of_row wi _ _ _ _ _ HI.out.2.hk]; rfl
            have hNx := Lib.hid (fun w5 (hb : Below wi.heap.size wi w5) o => SafeIn.seen HI.out (by omega) hb o hne1 hne2 hne3 hlw.out)
            rw [hy] at hNx
            have hZz := Lib.hid (fun w5 (hb : Below wi.heap.size wi w5) o => (HI.out.2.later (keepB hb (below1 w5 o))).zero (k := 0) (a := 0) (b := 1) (c := 2) (by omega) rfl rfl rfl)
            replace hy := Lib.hid hy
            clear HI hSe
            go_wp2_with (go_at_call 20; (with_reducible refine hS0.out.mono ?_); rintro e w5 ⟨num, rfl, hb5⟩; have t0 := fun o => (hZz.out w5 hb5 o).1; have t1 := fun o => (hZz.out w5 hb5 o).2.1; have t2 := fun o => (hZz.out w5 hb5 o).2.2.1; have t3 := fun o => (hZz.out w5 hb5 o).2.2.2.1; have t4 := fun o => (hZz.out w5 hb5 o).2.2.2.2.1; have t5 := fun o => (hZz.out w5 hb5 o).2.2.2.2.2.1; have t6 := fun o => (hZz.out w5 hb5 o).2.2.2.2.2.2.1; have t7 := fun o => (hZz.out w5 hb5 o).2.2.2.2.2.2.2)
            have hN2 := Lib.hid (hNx.out w5 hb5 (.cells #[.int .i64 y.1.kind, .int .u64 (y.1.bits : Int), .string y.1.text] 66))
            unfold see3 at hN2
            go_roundw
            case rel => exact ⟨1, by omega, rfl, hN2⟩
            case measure => simp [intOf]
          · obtain ⟨y, hy⟩ : ∃ y, f 1 = y := ⟨_, rfl⟩
            have hS0 := hSe.out 1
            rw [hy] at hS0
            replace hS0 := Lib.hid hS0
            unfold keyN SeePost at hS0
            have c0 : wi.cell? ⟨kb, 1, none⟩ = some (.string ⟨#[99]⟩) := by rw [cell_of_row wi _ _ _ _ _ HI.out.2.hk]; rfl
            have hNx := Lib.hid (fun w5 (hb : Below wi.heap.size wi w5) o => SafeIn.seen HI.out (by omega) hb o hne1 hne2 hne3 hlw.out)
            rw [hy] at hNx
            have hZz := Lib.hid (fun w5 (hb : Below wi.heap.size wi w5) o => (HI.out.2.later (keepB hb (below1 w5 o))).zero (k := 1) (a := 3) (b := 4) (c := 5) (by omega) rfl rfl rfl)
            replace hy := Lib.hid hy
            clear HI hSe
            go_wp2_with (go_at_call 20; (with_reducible refine hS0.out.mono ?_); rintro e w5 ⟨num, rfl, hb5⟩; have t0 := fun o => (hZz.out w5 hb5 o).1; have t1 := fun o => (hZz.out w5 hb5 o).2.1; have t2 := fun o => (hZz.out w5 hb5 o).2.2.1; have t3 := fun o => (hZz.out w5 hb5 o).2.2.2.1; have t4 := fun o => (hZz.out w5 hb5 o).2.2.2.2.1; have t5 := fun o => (hZz.out w5 hb5 o).2.2.2.2.2.1; have t6 := fun o => (hZz.out w5 hb5 o).2.2.2.2.2.2.1; have t7 := fun o => (hZz.out w5 hb5 o).2.2.2.2.2.2.2)
            have hN2 := Lib.hid (hNx.out w5 hb5 (.cells #[.int .i64 y.1.kind, .int .u64 (y.1.bits : Int), .string y.1.text] 66))
            unfold see3 at hN2
            go_roundw
            case rel => exact ⟨2, by omega, rfl, hN2⟩
            case measure => simp [intOf]
          · obtain ⟨y, hy⟩ : ∃ y, f 2 = y := ⟨_, rfl⟩
            have hS0 := hSe.out 2
            rw [hy] at hS0
            replace hS0 := Lib.hid hS0
            unfold keyN SeePost at hS0
            have c0 : wi.cell? ⟨kb, 2, none⟩ = some (.string ⟨#[101]⟩) := by rw [cell_of_row wi _ _ _ _ _ HI.out.2.hk]; rfl
            have hNx := Lib.hid (fun w5 (hb : Below wi.heap.size wi w5) o => SafeIn.seen HI.out (by omega) hb o hne1 hne2 hne3 hlw.out)
            rw [hy] at hNx
            have hZz := Lib.hid (fun w5 (hb : Below wi.heap.size wi w5) o => (HI.out.2.later (keepB hb (below1 w5 o))).zero (k := 2) (a := 6) (b := 7) (c := 8) (by omega) rfl rfl rfl)
            replace hy := Lib.hid hy
            clear HI hSe
            go_wp2_with (go_at_call 20; (with_reducible refine hS0.out.mono ?_); rintro e w5 ⟨num, rfl, hb5⟩; have t0 := fun o => (hZz.out w5 hb5 o).1; have t1 := fun o => (hZz.out w5 hb5 o).2.1; have t2 := fun o => (hZz.out w5 hb5 o).2.2.1; have t3 := fun o => (hZz.out w5 hb5 o).2.2.2.1; have t4 := fun o => (hZz.out w5 hb5 o).2.2.2.2.1; have t5 := fun o => (hZz.out w5 hb5 o).2.2.2.2.2.1; have t6 := fun o => (hZz.out w5 hb5 o).2.2.2.2.2.2.1; have t7 := fun o => (hZz.out w5 hb5 o).2.2.2.2.2.2.2)
            have hN2 := Lib.hid (hNx.out w5 hb5 (.cells #[.int .i64 y.1.kind, .int .u64 (y.1.bits : Int), .string y.1.text] 66))
            unfold see3 at hN2
            go_roundw
            case rel => exact ⟨3, by omega, rfl, hN2⟩
            case measure => simp [intOf]
          · obtain ⟨y, hy⟩ : ∃ y, f 3 = y := ⟨_, rfl⟩
            have hS0 := hSe.out 3
            rw [hy] at hS0
            replace hS0 := Lib.hid hS0
            unfold keyN SeePost at hS0
            have c0 : wi.cell? ⟨kb, 3, none⟩ = some (.string ⟨#[122, 122]⟩) := by rw [cell_of_row wi _ _ _ _ _ HI.out.2.hk]; rfl
            have hNx := Lib.hid (fun w5 (hb : Below wi.heap.size wi w5) o => SafeIn.seen HI.out (by omega) hb o hne1 hne2 hne3 hlw.out)
            rw [hy] at hNx
            have hZz := Lib.hid (fun w5 (hb : Below wi.heap.size wi w5) o => (HI.out.2.later (keepB hb (below1 w5 o))).zero (k := 3) (a := 9) (b := 10) (c := 11) (by omega) rfl rfl rfl)
            replace hy := Lib.hid hy
            clear HI hSe
            go_wp2_with (go_at_call 20; (with_reducible refine hS0.out.mono ?_); rintro e w5 ⟨num, rfl, hb5⟩; have t0 := fun o => (hZz.out w5 hb5 o).1; have t1 := fun o => (hZz.out w5 hb5 o).2.1; have t2 := fun o => (hZz.out w5 hb5 o).2.2.1; have t3 := fun o => (hZz.out w5 hb5 o).2.2.2.1; have t4 := fun o => (hZz.out w5 hb5 o).2.2.2.2.1; have t5 := fun o => (hZz.out w5 hb5 o).2.2.2.2.2.1; have t6 := fun o => (hZz.out w5 hb5 o).2.2.2.2.2.2.1; have t7 := fun o => (hZz.out w5 hb5 o).2.2.2.2.2.2.2)
            have hN2 := Lib.hid (hNx.out w5 hb5 (.cells #[.int .i64 y.1.kind, .int .u64 (y.1.bits : Int), .string y.1.text] 66))
            unfold see3 at hN2
            go_roundw
            case rel => exact ⟨4, by omega, rfl, hN2⟩
            case measure => simp [intOf]
          · have hI4 := Lib.hid HI.out
            clear hSe HI hI9 hB9
            rw [show (((4 : Nat) : Int)) = 4 from rfl]
            go_wp2
            go_loopw [17] (fun i wr => ∃ (k : Nat) (lab' : Nat → Lab) (x' : MachD), k ≤ l2.length ∧ i = .int .i64 k ∧ Hid (SafeIn W wr Bb p c g (2 * l.length + 2 * k) lab' x' (fun q => q = kb ∨ q = wb ∨ q = nb) ∧ SafeBlk wr kb wb nb (wasA f 4) (noA f 4) ∧ Stays x x' s)) (fun i _ => l2.length - (intOf i).toNat)
            case atStart => exact ⟨0, lab, x, Nat.zero_le _, rfl, hI4.out.1, hI4.out.2, Stays.refl _ _⟩
            case round =>
              obtain ⟨k, lab1, x1, hk, rfl, HI⟩ := hrel
              obtain ⟨wq, rfl⟩ : ∃ wq : World, wq = wr := ⟨_, rfl⟩
              have z1 := keep HI.out.1.b d1
              by_cases hlt : k < l2.length
              · obtain ⟨b, off, a, rfl, hr, ht, HX⟩ := (hlW2.out.later HI.out.1.b).at' hlt
                obtain ⟨x0, x11, x12, x3, x4, x5, x6, x7, x8, x9⟩ := cmd_agg hr
                have ho := hlold2.out k hlt
                rw [HX.out] at ho
                have hAp := Lib.hid (HI.out.1.applies (by have := h60.out; have := h602.out; omega) ht ho.1 ho.2 hwB.out s)
                have hki : (k : Int) < (l2.length : Int) := by omega
                have hk0 : (0 : Int) ≤ (k : Int) := by omega
                have hkH := Lib.hid hlt
                have hkb : k < 1000 := by have := h602.out; omega
                clear hr ht ho hlt
                go_wp2_with (go_at_call 12; (with_reducible refine hAp.out.mono ?_); rintro e w2 ⟨v, lab2, x2, rfl, hS', hst', hO'⟩)
                have hBk2 := Lib.hid (HI.out.2.1.out hO')
                have hI2 := Lib.hid hS'
                have hS2 := Lib.hid (HI.out.2.2.trans hst')
                have hqx := Lib.hid hI4.out.1.qok
                have hst : Hid (∀ j, (seeM c g x2 (keyN j) s).2 = 9 ∨ seeM c g x2 (keyN j) s = f j) := fun j => by
                  have := see_stays (c := c) (g := g) hqx.out hI2.out.qok hS2.out hsa.out (keyN j)
                  rw [hfk.out] at this
                  exact this
                have hSe : Hid (∀ j wz, Below w2.heap.size w2 wz → Calls Tryz.prog 20 #[.pointer (some ⟨p, 0, none⟩), .string (keyN j), .int .u64 (s : Int)] wz (SeePost wz (seeM c g x2 (keyN j) s))) := fun j wz hb =>
                  hI2.out.see (by have := h60.out; have := h602.out; omega) hb (key := keyN j) (by unfold keyN; split <;> decide) s
                obtain ⟨sq, hsq⟩ : ∃ sq, safeQ x2.q = sq := ⟨_, rfl⟩
                have hsf : Hid (∀ wz, Below w2.heap.size w2 wz → Calls Tryz.prog 19 #[.pointer (some ⟨p, 0, none⟩)] wz fun e w' => e = .returned (.int .u64 (sq : Int)) ∧ Below wz.heap.size wz w') := fun wz hb => by
                  have := hI2.out.safe hb
                  rw [hsq] at this
                  exact this
                have hsle : decide (sq < s) = false := by
                  rw [decide_eq_false_iff_not, ← hsq]
                  have := (safe_iff hI2.out.qok).2 (hS2.out.safe hsa.out)
                  omega
                clear hsq HI hS' hst' hO' hAp x0 x11 x12 x3 x4 x5 x6 x7 x8 x9 z1
                go_wp2
                go_loopw [18] (fun i wr => ∃ j : Nat, j ≤ 4 ∧ i = .int .i64 j ∧ Below w2.heap.size w2 wr) (fun i _ => 4 - (intOf i).toNat)
                case atStart => exact ⟨0, by omega, rfl, Below.refl _ _⟩
                case round =>
                  obtain ⟨j, hj4, rfl, hw5⟩ := hrel
                  obtain ⟨wj, rfl⟩ : ∃ wj : World, wj = wr := ⟨_, rfl⟩
                  have hjj : j = 0 ∨ j = 1 ∨ j = 2 ∨ j = 3 ∨ j = 4 := by omega
                  rcases hjj with rfl | rfl | rfl | rfl | rfl
                  · obtain ⟨y, hy⟩ : ∃ y, seeM c g x2 (keyN 0) s = y := ⟨_, rfl⟩
                    obtain ⟨u, hu⟩ : ∃ u, f 0 = u := ⟨_, rfl⟩
                    have hS0 := hSe.out 0 wj hw5
                    have hyu := hst.out 0
                    rw [hy] at hS0 hyu
                    rw [hu] at hyu
                    replace hS0 := Lib.hid hS0
                    unfold keyN SeePost at hS0
                    have hBj := hBk2.out.later hw5
                    have c0 : wj.cell? ⟨kb, 0, none⟩ = some (.string ⟨#[97]⟩) := by rw [cell_of_row wj _ _ _ _ _ hBj.hk]; rfl
                    have s0 : wj.cell? ⟨wb, 0, none⟩ = some (.int .i64 u.1.kind) := by rw [cell_of_row wj _ _ _ _ _ hBj.hw, ← hu]; rfl
                    have s1 : wj.cell? ⟨wb, 1, none⟩ = some (.int .u64 (u.1.bits : Int)) := by rw [cell_of_row wj _ _ _ _ _ hBj.hw, ← hu]; rfl
                    have s2 : wj.cell? ⟨wb, 2, none⟩ = some (.string u.1.text) := by rw [cell_of_row wj _ _ _ _ _ hBj.hw, ← hu]; rfl
                    have s3 : wj.cell? ⟨nb, 0, none⟩ = some (.int .i64 u.2) := by rw [cell_of_row wj _ _ _ _ _ hBj.hn, ← hu]; rfl
                    clear hy hu hBj
                    go_wp2_with (go_at_call 20; (with_reducible refine hS0.out.mono ?_); rintro e w5 ⟨num, rfl, hb5⟩)
                    obtain ⟨w6, hw6, hb6, hs6, hr6⟩ := new3 w5 (.int .i64 y.1.kind) (.int .u64 (y.1.bits : Int)) (.string y.1.text) 66
                    rw [hw6]
                    obtain ⟨r0, r1, r2, _⟩ := cells3 hr6
                    have hb56 := keepB hb5 hb6
                    have kr0 := cell_regrown r0
                    have kr1 := cell_regrown r1
                    have kr2 := cell_regrown r2
                    have ks0 := cell_regrown (keep hb56 s0)
                    have ks1 := cell_regrown (keep hb56 s1)
                    have ks2 := cell_regrown (keep hb56 s2)
                    have ks3 := cell_regrown (keep hb56 s3)
                    have hb26 := Lib.hid (keepB hw5 hb56)
                    have qS : ∀ d os, Calls Tryz.prog 19 #[.pointer (some ⟨p, 0, none⟩)] (grow (redrawn w6 d) os) fun e w'' => e = .returned (.int .u64 (sq : Int)) ∧ ∃ p : Regrown, w'' = grow (redrawn w6 p.d) p.os := fun d os => Calls.regrown_of (hsf.out _ (keepB hb26.out (below_regrown w6 d os)))
                    clear hw6 hr6 r0 r1 r2 s0 s1 s2 s3 c0 hb5 hb6 hb56 hs6
                    rcases hyu with hyu | hyu
                    · have q9 : (y.2 != 9) = false := by simp [hyu]
                      clear hyu
                      refine wp_region_quiet_below (by kernel_rfl) (by kernel_rfl) ?_
                      repeat (go_big_quiet_step (first | (go_at_call 19; exact qS _ _)))
                      refine wpQuiet_nil ?_
                      intro _ hw'
                      obtain ⟨⟨dq, osq⟩, hw''⟩ := hw'
                      subst hw''
                      have HS := Lib.hid (keepB hb26.out (below_regrown w6 dq osq))
                      clear kr0 kr1 kr2 ks0 ks1 ks2 ks3 qS
                      go_wp2
                      go_roundw
                      case rel => exact ⟨1, by omega, rfl, HS.out⟩
                      case measure => simp [intOf]
                    · subst hyu
                      by_cases h9 : y.2 = 9
                      · have q9 : (y.2 != 9) = false := by simp [h9]
                        clear h9
                        refine wp_region_quiet_below (by kernel_rfl) (by kernel_rfl) ?_
                        repeat (go_big_quiet_step (first | (go_at_call 19; exact qS _ _)))
                        refine wpQuiet_nil ?_
                        intro _ hw'
                        obtain ⟨⟨dq, osq⟩, hw''⟩ := hw'
                        subst hw''
                        have HS := Lib.hid (keepB hb26.out (below_regrown w6 dq osq))
                        clear kr0 kr1 kr2 ks0 ks1 ks2 ks3 qS
                        go_wp2
                        go_roundw
                        case rel => exact ⟨1, by omega, rfl, HS.out⟩
                        case measure => simp [intOf]
                      · have q9 : (y.2 != 9) = true := by simp [h9]
                        clear h9
                        refine wp_region_quiet_below (by kernel_rfl) (by kernel_rfl) ?_
                        repeat (go_big_quiet_step (first | (go_at_call 19; exact qS _ _)))
                        refine wpQuiet_nil ?_
                        intro _ hw'
                        obtain ⟨⟨dq, osq⟩, hw''⟩ := hw'
                        subst hw''
                        have HS := Lib.hid (keepB hb26.out (below_regrown w6 dq osq))
                        clear kr0 kr1 kr2 ks0 ks1 ks2 ks3 qS
                        go_wp2
                        go_roundw
                        case rel => exact ⟨1, by omega, rfl, HS.out⟩
                        case measure => simp [intOf]
                  · obtain ⟨y, hy⟩ : ∃ y, seeM c g x2 (keyN 1) s = y := ⟨_, rfl⟩
                    obtain ⟨u, hu⟩ : ∃ u, f 1 = u := ⟨_, rfl⟩
                    have hS0 := hSe.out 1 wj hw5
                    have hyu := hst.out 1
                    rw [hy] at hS0 hyu
                    rw [hu] at hyu
                    replace hS0 := Lib.hid hS0
                    unfold keyN SeePost at hS0
                    have hBj := hBk2.out.later hw5
                    have c0 : wj.cell? ⟨kb, 1, none⟩ = some (.string ⟨#[99]⟩) := by rw [cell_of_row wj _ _ _ _ _ hBj.hk]; rfl
                    have s0 : wj.cell? ⟨wb, 3, none⟩ = some (.int .i64 u.1.kind) := by rw [cell_of_row wj _ _ _ _ _ hBj.hw, ← hu]; rfl
                    have s1 : wj.cell? ⟨wb, 4, none⟩ = some (.int .u64 (u.1.bits : Int)) := by rw [cell_of_row wj _ _ _ _ _ hBj.hw, ← hu]; rfl
                    have s2 : wj.cell? ⟨wb, 5, none⟩ = some (.string u.1.text) := by rw [cell_of_row wj _ _ _ _ _ hBj.hw, ← hu]; rfl
                    have s3 : wj.cell? ⟨nb, 1, none⟩ = some (.int .i64 u.2) := by rw [cell_of_row wj _ _ _ _ _ hBj.hn, ← hu]; rfl
                    clear hy hu hBj
                    go_wp2_with (go_at_call 20; (with_reducible refine hS0.out.mono ?_); rintro e w5 ⟨num, rfl, hb5⟩)
                    obtain ⟨w6, hw6, hb6, hs6, hr6⟩ := new3 w5 (.int .i64 y.1.kind) (.int .u64 (y.1.bits : Int)) (.string y.1.text) 66
                    rw [hw6]
                    obtain ⟨r0, r1, r2, _⟩ := cells3 hr6
                    have hb56 := keepB hb5 hb6
                    have kr0 := cell_regrown r0
                    have kr1 := cell_regrown r1
                    have kr2 := cell_regrown r2
                    have ks0 := cell_regrown (keep hb56 s0)
                    have ks1 := cell_regrown (keep hb56 s1)
                    have ks2 := cell_regrown (keep hb56 s2)
                    have ks3 := cell_regrown (keep hb56 s3)
                    have hb26 := Lib.hid (keepB hw5 hb56)
                    have qS : ∀ d os, Calls Tryz.prog 19 #[.pointer (some ⟨p, 0, none⟩)] (grow (redrawn w6 d) os) fun e w'' => e = .returned (.int .u64 (sq : Int)) ∧ ∃ p : Regrown, w'' = grow (redrawn w6 p.d) p.os := fun d os => Calls.regrown_of (hsf.out _ (keepB hb26.out (below_regrown w6 d os)))
                    clear hw6 hr6 r0 r1 r2 s0 s1 s2 s3 c0 hb5 hb6 hb56 hs6
                    rcases hyu with hyu | hyu
                    · have q9 : (y.2 != 9) = false := by simp [hyu]
                      clear hyu
                      refine wp_region_quiet_below (by kernel_rfl) (by kernel_rfl) ?_
                      repeat (go_big_quiet_step (first | (go_at_call 19; exact qS _ _)))
                      refine wpQuiet_nil ?_
                      intro _ hw'
                      obtain ⟨⟨dq, osq⟩, hw''⟩ := hw'
                      subst hw''
                      have HS := Lib.hid (keepB hb26.out (below_regrown w6 dq osq))
                      clear kr0 kr1 kr2 ks0 ks1 ks2 ks3 qS
                      go_wp2
                      go_roundw
                      case rel => exact ⟨2, by omega, rfl, HS.out⟩
                      case measure => simp [intOf]
                    · subst hyu
                      by_cases h9 : y.2 = 9
                      · have q9 : (y.2 != 9) = false := by simp [h9]
                        clear h9
                        refine wp_region_quiet_below (by kernel_rfl) (by kernel_rfl) ?_
                        repeat (go_big_quiet_step (first | (go_at_call 19; exact qS _ _)))
                        refine wpQuiet_nil ?_
                        intro _ hw'
                        obtain ⟨⟨dq, osq⟩, hw''⟩ := hw'
                        subst hw''
                        have HS := Lib.hid (keepB hb26.out (below_regrown w6 dq osq))
                        clear kr0 kr1 kr2 ks0 ks1 ks2 ks3 qS
                        go_wp2
                        go_roundw
                        case rel => exact ⟨2, by omega, rfl, HS.out⟩
                        case measure => simp [intOf]
                      · have q9 : (y.2 != 9) = true := by simp [h9]
                        clear h9
                        refine wp_region_quiet_below (by kernel_rfl) (by kernel_rfl) ?_
                        repeat (go_big_quiet_step (first | (go_at_call 19; exact qS _ _)))
                        refine wpQuiet_nil ?_
                        intro _ hw'
                        obtain ⟨⟨dq, osq⟩, hw''⟩ := hw'
                        subst hw''
                        have HS := Lib.hid (keepB hb26.out (below_regrown w6 dq osq))
                        clear kr0 kr1 kr2 ks0 ks1 ks2 ks3 qS
                        go_wp2
                        go_roundw
                        case rel => exact ⟨2, by omega, rfl, HS.out⟩
                        case measure => simp [intOf]
                  · obtain ⟨y, hy⟩ : ∃ y, seeM c g x2 (keyN 2) s = y := ⟨_, rfl⟩
                    obtain ⟨u, hu⟩ : ∃ u, f 2 = u := ⟨_, rfl⟩
                    have hS0 := hSe.out 2 wj hw5
                    have hyu := hst.out 2
                    rw [hy] at hS0 hyu
                    rw [hu] at hyu
                    replace hS0 := Lib.hid hS0
                    unfold keyN SeePost at hS0
                    have hBj := hBk2.out.later hw5
                    have c0 : wj.cell? ⟨kb, 2, none⟩ = some (.string ⟨#[101]⟩) := by rw [cell_of_row wj _ _ _ _ _ hBj.hk]; rfl
                    have s0 : wj.cell? ⟨wb, 6, none⟩ = some (.int .i64 u.1.kind) := by rw [cell_of_row wj _ _ _ _ _ hBj.hw, ← hu]; rfl
                    have s1 : wj.cell? ⟨wb, 7, none⟩ = some (.int .u64 (u.1.bits : Int)) := by rw [cell_of_row wj _ _ _ _ _ hBj.hw, ← hu]; rfl
                    have s2 : wj.cell? ⟨wb, 8, none⟩ = some (.string u.1.text) := by rw [cell_of_row wj _ _ _ _ _ hBj.hw, ← hu]; rfl
                    have s3 : wj.cell? ⟨nb, 2, none⟩ = some (.int .i64 u.2) := by rw [cell_of_row wj _ _ _ _ _ hBj.hn, ← hu]; rfl
                    clear hy hu hBj
                    go_wp2_with (go_at_call 20; (with_reducible refine hS0.out.mono ?_); rintro e w5 ⟨num, rfl, hb5⟩)
                    obtain ⟨w6, hw6, hb6, hs6, hr6⟩ := new3 w5 (.int .i64 y.1.kind) (.int .u64 (y.1.bits : Int)) (.string y.1.text) 66
                    rw [hw6]
                    obtain ⟨r0, r1, r2, _⟩ := cells3 hr6
                    have hb56 := keepB hb5 hb6
                    have kr0 := cell_regrown r0
                    have kr1 := cell_regrown r1
                    have kr2 := cell_regrown r2
                    have ks0 := cell_regrown (keep hb56 s0)
                    have ks1 := cell_regrown (keep hb56 s1)
                    have ks2 := cell_regrown (keep hb56 s2)
                    have ks3 := cell_regrown (keep hb56 s3)
                    have hb26 := Lib.hid (keepB hw5 hb56)
                    have qS : ∀ d os, Calls Tryz.prog 19 #[.pointer (some ⟨p, 0, none⟩)] (grow (redrawn w6 d) os) fun e w'' => e = .returned (.int .u64 (sq : Int)) ∧ ∃ p : Regrown, w'' = grow (redrawn w6 p.d) p.os := fun d os => Calls.regrown_of (hsf.out _ (keepB hb26.out (below_regrown w6 d os)))
                    clear hw6 hr6 r0 r1 r2 s0 s1 s2 s3 c0 hb5 hb6 hb56 hs6
                    rcases hyu with hyu | hyu
                    · have q9 : (y.2 != 9) = false := by simp [hyu]
                      clear hyu
                      refine wp_region_quiet_below (by kernel_rfl) (by kernel_rfl) ?_
                      repeat (go_big_quiet_step (first | (go_at_call 19; exact qS _ _)))
                      refine wpQuiet_nil ?_
                      intro _ hw'
                      obtain ⟨⟨dq, osq⟩, hw''⟩ := hw'
                      subst hw''
                      have HS := Lib.hid (keepB hb26.out (below_regrown w6 dq osq))
                      clear kr0 kr1 kr2 ks0 ks1 ks2 ks3 qS
                      go_wp2
                      go_roundw
                      case rel => exact ⟨3, by omega, rfl, HS.out⟩
                      case measure => simp [intOf]
                    · subst hyu
                      by_cases h9 : y.2 = 9
                      · have q9 : (y.2 != 9) = false := by simp [h9]
                        clear h9
                        refine wp_region_quiet_below (by kernel_rfl) (by kernel_rfl) ?_
                        repeat (go_big_quiet_step (first | (go_at_call 19; exact qS _ _)))
                        refine wpQuiet_nil ?_
                        intro _ hw'
                        obtain ⟨⟨dq, osq⟩, hw''⟩ := hw'
                        subst hw''
                        have HS := Lib.hid (keepB hb26.out (below_regrown w6 dq osq))
                        clear kr0 kr1 kr2 ks0 ks1 ks2 ks3 qS
                        go_wp2
                        go_roundw
                        case rel => exact ⟨3, by omega, rfl, HS.out⟩
                        case measure => simp [intOf]
                      · have q9 : (y.2 != 9) = true := by simp [h9]
                        clear h9
                        refine wp_region_quiet_below (by kernel_rfl) (by kernel_rfl) ?_
                        repeat (go_big_quiet_step (first | (go_at_call 19; exact qS _ _)))
                        refine wpQuiet_nil ?_
                        intro _ hw'
                        obtain ⟨⟨dq, osq⟩, hw''⟩ := hw'
                        subst hw''
                        have HS := Lib.hid (keepB hb26.out (below_regrown w6 dq osq))
                        clear kr0 kr1 kr2 ks0 ks1 ks2 ks3 qS
                        go_wp2
                        go_roundw
                        case rel => exact ⟨3, by omega, rfl, HS.out⟩
                        case measure => simp [intOf]
                  · obtain ⟨y, hy⟩ : ∃ y, seeM c g x2 (keyN 3) s = y := ⟨_, rfl⟩
                    obtain ⟨u, hu⟩ : ∃ u, f 3 = u := ⟨_, rfl⟩
                    have hS0 := hSe.out 3 wj hw5
                    have hyu := hst.out 3
                    rw [hy] at hS0 hyu
                    rw [hu] at hyu
                    replace hS0 := Lib.hid hS0
                    unfold keyN SeePost at hS0
                    have hBj := hBk2.out.later hw5
                    have c0 : wj.cell? ⟨kb, 3, none⟩ = some (.string ⟨#[122, 122]⟩) := by rw [cell_of_row wj _ _ _ _ _ hBj.hk]; rfl
                    have s0 : wj.cell? ⟨wb, 9, none⟩ = some (.int .i64 u.1.kind) := by rw [cell_of_row wj _ _ _ _ _ hBj.hw, ← hu]; rfl
                    have s1 : wj.cell? ⟨wb, 10, none⟩ = some (.int .u64 (u.1.bits : Int)) := by rw [cell_of_row wj _ _ _ _ _ hBj.hw, ← hu]; rfl
                    have s2 : wj.cell? ⟨wb, 11, none⟩ = some (.string u.1.text) := by rw [cell_of_row wj _ _ _ _ _ hBj.hw, ← hu]; rfl
                    have s3 : wj.cell? ⟨nb, 3, none⟩ = some (.int .i64 u.2) := by rw [cell_of_row wj _ _ _ _ _ hBj.hn, ← hu]; rfl
                    clear hy hu hBj
                    go_wp2_with (go_at_call 20; (with_reducible refine hS0.out.mono ?_); rintro e w5 ⟨num, rfl, hb5⟩)
                    obtain ⟨w6, hw6, hb6, hs6, hr6⟩ := new3 w5 (.int .i64 y.1.kind) (.int .u64 (y.1.bits : Int)) (.string y.1.text) 66
                    rw [hw6]
                    obtain ⟨r0, r1, r2, _⟩ := cells3 hr6
                    have hb56 := keepB hb5 hb6
                    have kr0 := cell_regrown r0
                    have kr1 := cell_regrown r1
                    have kr2 := cell_regrown r2
                    have ks0 := cell_regrown (keep hb56 s0)
                    have ks1 := cell_regrown (keep hb56 s1)
                    have ks2 := cell_regrown (keep hb56 s2)
                    have ks3 := cell_regrown (keep hb56 s3)
                    have hb26 := Lib.hid (keepB hw5 hb56)
                    have qS : ∀ d os, Calls Tryz.prog 19 #[.pointer (some ⟨p, 0, none⟩)] (grow (redrawn w6 d) os) fun e w'' => e = .returned (.int .u64 (sq : Int)) ∧ ∃ p : Regrown, w'' = grow (redrawn w6 p.d) p.os := fun d os => Calls.regrown_of (hsf.out _ (keepB hb26.out (below_regrown w6 d os)))
                    clear hw6 hr6 r0 r1 r2 s0 s1 s2 s3 c0 hb5 hb6 hb56 hs6
                    rcases hyu with hyu | hyu
                    · have q9 : (y.2 != 9) = false := by simp [hyu]
                      clear hyu
                      refine wp_region_quiet_below (by kernel_rfl) (by kernel_rfl) ?_
                      repeat (go_big_quiet_step (first | (go_at_call 19; exact qS _ _)))
                      refine wpQuiet_nil ?_
                      intro _ hw'
                      obtain ⟨⟨dq, osq⟩, hw''⟩ := hw'
                      subst hw''
                      have HS := Lib.hid (keepB hb26.out (below_regrown w6 dq osq))
                      clear kr0 kr1 kr2 ks0 ks1 ks2 ks3 qS
                      go_wp2
                      go_roundw
                      case rel => exact ⟨4, by omega, rfl, HS.out⟩
                      case measure => simp [intOf]
                    · subst hyu
                      by_cases h9 : y.2 = 9
                      · have q9 : (y.2 != 9) = false := by simp [h9]
                        clear h9
                        refine wp_region_quiet_below (by kernel_rfl) (by kernel_rfl) ?_
                        repeat (go_big_quiet_step (first | (go_at_call 19; exact qS _ _)))
                        refine wpQuiet_nil ?_
                        intro _ hw'
                        obtain ⟨⟨dq, osq⟩, hw''⟩ := hw'
                        subst hw''
                        have HS := Lib.hid (keepB hb26.out (below_regrown w6 dq osq))
                        clear kr0 kr1 kr2 ks0 ks1 ks2 ks3 qS
                        go_wp2
                        go_roundw
                        case rel => exact ⟨4, by omega, rfl, HS.out⟩
                        case measure => simp [intOf]
                      · have q9 : (y.2 != 9) = true := by simp [h9]
                        clear h9
                        refine wp_region_quiet_below (by kernel_rfl) (by kernel_rfl) ?_
                        repeat (go_big_quiet_step (first | (go_at_call 19; exact qS _ _)))
                        refine wpQuiet_nil ?_
                        intro _ hw'
                        obtain ⟨⟨dq, osq⟩, hw''⟩ := hw'
                        subst hw''
                        have HS := Lib.hid (keepB hb26.out (below_regrown w6 dq osq))
                        clear kr0 kr1 kr2 ks0 ks1 ks2 ks3 qS
                        go_wp2
                        go_roundw
                        case rel => exact ⟨4, by omega, rfl, HS.out⟩
                        case measure => simp [intOf]
                  · have hE : Hid (SafeIn W wj Bb p c g (2 * l.length + 2 * (k + 1)) lab2 x2 (fun q => q = kb ∨ q = wb ∨ q = nb) ∧ SafeBlk wj kb wb nb (wasA f 4) (noA f 4) ∧ Stays x x2 s) := ⟨hI2.out.later hw5, hBk2.out.later hw5, hS2.out⟩
                    clear hSe hsf hst
                    go_wp2
                    go_roundw
                    case rel => exact ⟨k + 1, lab2, x2, by have := hkH.out; omega, by go_num, hE⟩
                    case measure => have := hkH.out; simp [intOf]; omega
              · obtain rfl : k = l2.length := by omega
                have hE := Lib.hid HI.out.1.b
                clear HI
                go_wp2
                go_ret
                exact ⟨rfl, keepB HB hE.out⟩
end Go.Proofs.YtcldpmkhpmlcbaaGreatDoor
