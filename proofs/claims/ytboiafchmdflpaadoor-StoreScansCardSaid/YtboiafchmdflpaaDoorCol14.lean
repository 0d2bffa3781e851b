/- store.Collect. -/
import Derived.Test.YtboiafchmdflpaaDoorClone14
import Derived.Test.YtboiafchmdflpaaDoorVote16
namespace Go.Proofs.YtboiafchmdflpaaDoor
open Go.RowKit Go.Maps Go.Sort Go.Shelf

def ColPost (w : World) (B p N : Nat) (O : Nat → Prop) (s : StD) (n : Nat) (e : Ending) (w' : World) : Prop :=
  e = .returned (.tuple #[.int .i64 (colN s n), .int .i64 (colE s n)]) ∧ StoreAt w' B p N (ext O w w') (colS s n) ∧ Out O w w'
theorem colP_items {s : StD} (hs : StOK s) (n : Nat) : (items (colK s.ks n)).length ≤ (items s.ks).length := by
  rw [← items_colK hs.rises hs.falls]; exact List.length_filter_le _ _
theorem row_cells {w : World} {B g cap : Nat} {l : List Ver} (h : OwnV w B (.slice (some ⟨g, 0, none⟩) l.length cap) l) : ∀ j u, (verCs l)[j]? = some u → w.cell? ⟨g, 0 + j, none⟩ = some u := fun j u hj => by
  have := World.ownsRow.cells (g := g) h rfl j u hj
  rwa [Go.WideShapes.add_plain] at this
theorem beq_nz {n : Nat} (h : 0 < n) : ((n : Int) == 0) = false := by rw [beq_eq_false_iff_ne]; omega
theorem ext_mid {O : Nat → Prop} {w0 wc w2 w4 : World} (hs : w2.heap.size = wc.heap.size) (h1 : w0.heap.size ≤ wc.heap.size) (h2 : w2.heap.size ≤ w4.heap.size) : ext (ext O w0 wc) w2 w4 = ext O w0 w4 := funext fun k => propext (by
  unfold ext
  constructor
  · rintro ((h | h) | h)
    · exact .inl h
    · exact .inr ⟨h.1, by omega⟩
    · exact .inr ⟨by omega, h.2⟩
  · rintro (h | h)
    · exact .inl (.inl h)
    · by_cases hk : k < wc.heap.size
      · exact .inl (.inr ⟨h.1, hk⟩)
      · exact .inr ⟨by omega, h.2⟩)
theorem take_ne {l : List Ver} {k : Nat} (hk : k < l.length) : l.take (k + 1) ≠ [] := fun e => by
  have := congrArg List.length e
  rw [List.length_take] at this
  simp only [List.length_nil] at this
  omega
set_option maxRecDepth 100000 in
set_option maxHeartbeats 8000000 in
theorem col14_any {w : World} {B p N : Nat} {O : Nat → Prop} {s : StD} (h : StoreAt w B p N O s) (hB : B ≤ w.heap.size) (hs : StOK s) (n : Nat) (hN : N ≤ 800000) (hI : (items s.ks).length ≤ 800000) :
    Calls Tryd.prog 17 #[.pointer (some ⟨p, 0, none⟩), .int .u64 (n : Int)] w (ColPost w B p N O s n) := by
  obtain ⟨W, eW, HB, cg⟩ := box1 w (.int .u64 (n : Int)) 23
  have hWs : W.heap.size = w.heap.size + 1 := by rw [← eW]; simp
  have HS := Lib.hid h
  have HSW := Lib.hid (h.later HB)
  obtain ⟨mb, D, V, h⟩ := h
  have HLT := Lib.hid h.lt
  have h0 := h.later HB
  have c1 := h0.c1
  have c2 := h0.c2
  by_cases hlo : n < s.low
  · have q1 : decide ((n : Int) < (s.low : Int)) = true := by rw [decide_eq_true_iff]; omega
    have q1n : decide (n < s.low) = true := decide_eq_true hlo
    have HE : Hid (colOK s n = false) := by show _ = _; rw [colOK, decide_eq_false (by omega)]; rfl
    clear hlo h h0 hWs
    go_enter Tryd.func17, Tryd.ntmps17
    go_wp2
    go_quiet (fail)
    go_wp2
    go_ret2
    refine ⟨by rw [colN, colE, HE.out]; rfl, ?_, Out.of_below (below_drewN HB _)⟩
    rw [colS, HE.out]
    exact HS.out.stay (below_drewN HB _) (Nat.le_refl _) hB
  · have q1 : decide ((n : Int) < (s.low : Int)) = false := by rw [decide_eq_false_iff_not]; omega
    have q1n : decide (n < s.low) = false := decide_eq_false hlo
    by_cases hhi : s.last < n
    · have q2 : decide ((s.last : Int) < (n : Int)) = true := by rw [decide_eq_true_iff]; omega
      have q2n : decide (s.last < n) = true := decide_eq_true hhi
      have HE : Hid (colOK s n = false) := by show _ = _; rw [colOK, decide_eq_false (p := n ≤ s.last) (by omega), Bool.and_false]
      clear hlo hhi h h0 hWs
      go_enter Tryd.func17, Tryd.ntmps17
      go_wp2
      go_quiet (fail)
      go_wp2
      go_ret2
      refine ⟨by rw [colN, colE, HE.out]; rfl, ?_, Out.of_below (below_drewN HB _)⟩
      rw [colS, HE.out]
      exact HS.out.stay (below_drewN HB _) (Nat.le_refl _) hB
    · have q2 : decide ((s.last : Int) < (n : Int)) = false := by rw [decide_eq_false_iff_not]; omega
      have q2n : decide (s.last < n) = false := decide_eq_false hhi
      have HE : Hid (colOK s n = true) := by show _ = _; rw [colOK, decide_eq_true (p := s.low ≤ n) (by omega), decide_eq_true (by omega)]; rfl
      have hsok2 := col_ok hs n
      rw [colS, HE.out, if_pos rfl] at hsok2
      clear hlo hhi h
      have HH0 := Lib.hid h0
      have HWs := Lib.hid hWs
      clear h0 hWs
      go_enter Tryd.func17, Tryd.ntmps17
      go_wp2
      go_quiet (fail)
      go_upto_region 5 with (go_at_call 31; refine (count14_any (HSW.out.later (below_drewN (Below.refl _ _) _)) hs hI).mono ?_; rintro e w1 ⟨rfl, hb1⟩; have HW1 : Below W.heap.size W w1 := (below_drewN (Below.refl _ _) _).trans hb1; replace cg := keep HW1 cg; replace c2 := keep HW1 c2; have f2 := (HH0.out.later HW1).fz 2; have HH1 := Lib.hid (HH0.out.later HW1))
      have h2 := HH1.out.setLow n
      have hO2 := out_set w1 p 2 (.int .u64 (n : Int))
      have cg2 := keepS (j := 2) (u := .int .u64 (n : Int)) cg (show ¬ (w.heap.size = p) from fun e => by have := (HLT.out p HH1.out.hp).2; omega)
      have HSZ : Hid (W.heap.size ≤ (w1.setCell ⟨p, 2, none⟩ (.int .u64 (n : Int))).heap.size) := Nat.le_trans HW1.size hO2.size
      have hOut2 : Out O W (w1.setCell ⟨p, 2, none⟩ (.int .u64 (n : Int))) := (Out.of_below HW1).trans' (hO2.mono fun k e => by rw [e]; exact HH1.out.hp)
      have HOut2 := Lib.hid hOut2
      replace h2 := Lib.hid h2
      clear hOut2 hO2 c1 c2 f2 HH1 cg q1 q2 HW1 hb1
      revert HSZ HOut2 h2 cg2
      generalize w1.setCell ⟨p, 2, none⟩ (.int .u64 (n : Int)) = wS
      intro cg2 HSZ HOut2 h2
      have c0 := h2.out.c0
      have own := h2.out.keys.own
      go_wp2_with (at_range; refine wpList_range_own _ rfl _ 86 rfl 9 _ keyS Tryd.underlying86 heldE mb N D rfl own ?_; intro w0 hrg0 hg0 hs0)
      go_frame
      have hb0 : Below wS.heap.size wS w0 := Below.grown (Below.refl _ _) hg0 (Nat.le_refl _) (fun k e => by cases e)
      have HH3 := Lib.hid (h2.out.later hb0)
      have HSTART : Hid (colP (Maps.has D) n s.ks = s.ks) := colP_start hs.ne fun q hq => by
        rw [h2.out.keys.has]
        have := hs.ne q hq
        rw [getK_mem hs.rises (l := q.2) hq]
        simpa using this
      replace cg2 := keep hb0 cg2
      have HM := Lib.hid h2.out.keys.hm
      have HOw : Hid (Out O w w0) := ((Out.of_below HB).trans' HOut2.out).trans' (Out.of_below hb0)
      have HS0 := Lib.hid hs0
      clear c0 own hg0 hs0
      go_loopw [] (fun wr => ∃ (left : Lit → Bool) (cnt : Nat) (D' : DataW Value) (V' : ByteArray → Value), wr.ranges Tryd.prog 9 heldE mb wS.heap.size N D' left cnt ∧ Hid (StoreIn wr B p N mb D' V' (ext O w0 wr) ⟨colP left n s.ks, s.last, n⟩) ∧ Hid (Out (fun k => O k ∨ k = wS.heap.size) w0 wr)) (fun wr => wr.rangeLeft mb wS.heap.size)
      case atStart =>
        refine ⟨_, _, D, V, hrg0, ?_, Out.refl _ _⟩
        have h9 := HH3.out.mono (O' := ext O w0 w0) (fun k hk => .inl hk) (fun k hk => hk.elim (HH3.out.lt k) (fun e => by omega))
        have e : (⟨colP (Maps.has D) n s.ks, s.last, n⟩ : StD) = ⟨s.ks, s.last, n⟩ := by rw [HSTART.out]
        show StoreIn _ _ _ _ _ _ _ _ _
        rw [e]
        exact h9
      case round =>
        obtain ⟨left, cnt, D', V', hrg, HI, HOr⟩ := hrel
        obtain ⟨wc, rfl⟩ : ∃ wc : World, wc = wr := ⟨_, rfl⟩
        clear HSTART HH3
        have hOlt : ∀ k, O k → k < wS.heap.size := fun k hk => by have := (HLT.out k hk).2; have := HSZ.out; have := HWs.out; omega
        have hgr : w.heap.size < wS.heap.size := by have := HSZ.out; have := HWs.out; omega
        have hnOg : ¬ (O w.heap.size ∨ w.heap.size = wS.heap.size) := fun e => e.elim (fun e => absurd (HLT.out _ e).2 (Nat.lt_irrefl _)) (fun e => by omega)
        have cgc := HOr.out.cell cg2 hnOg
        replace hOlt := Lib.hid hOlt
        replace hnOg := Lib.hid hnOg
        go_wp2_with (at_next; refine wpList_next_ranges _ rfl _ rfl 9 keyS heldE Value.string id (fun key kl hk => by obtain ⟨x, hx, _⟩ := keyOf_inv hk; exact ⟨x, hx⟩) (fun v _ _ => ⟨v, rfl⟩) mb wS.heap.size N _ _ _ rfl hrg ?_ ?_)
        · intro hc0 hl0
          have hsz0 := HOr.out.size
          have HST : Hid (StoreAt wc B p N (ext O w wc) ⟨colK s.ks n, s.last, n⟩) := by
            refine ⟨mb, D', V', ?_⟩
            have h9 := HI.out
            rw [colP_end hl0] at h9
            exact h9.mono (fun k hk => hk.elim .inl (fun e => .inr ⟨by have := HS0.out; omega, e.2⟩)) (fun k hk => hk.elim (fun hk => ⟨(HLT.out k hk).1, by have := (HLT.out k hk).2; have := HS0.out; omega⟩) (fun e => ⟨by omega, e.2⟩))
          have HOF : Hid (Out O w wc) := HOw.out.trans (HOr.out.mono fun k hk => hk.elim .inl (fun e => .inr ⟨by omega, by have := HS0.out; omega⟩))
          have hle := colP_items hs n
          have HCnt := Lib.hid (count14_any HST.out hsok2 (by show (items (colK s.ks n)).length ≤ _; omega))
          have hsub : IntKind.i64.wrap (((items s.ks).length : Int) - ((items (colK s.ks n)).length : Int)) = ((items s.ks).length : Int) - ((items (colK s.ks n)).length : Int) := IntWalk.i64_in _ (by omega)
          clear hle hc0 hl0 hrg
          go_wp2_with (go_at_call 31; refine HCnt.out.mono ?_; rintro e w5 ⟨rfl, hb5⟩)
          go_ret2
          refine ⟨by rw [colN, colE, HE.out]; rfl, ?_, HOF.out.trans' (Out.of_below hb5)⟩
          have h9 := HST.out.stay hb5 (Nat.le_refl _) (by have := HOF.out.size; omega)
          rw [ext_eq HOF.out.size hb5.size] at h9
          rw [colS, HE.out]
          exact h9
        · intro x c kl yd yp w2 cnt2 hkey hlk hv hat hrg2 hlt hg2 hs2 hen
          obtain ⟨x', ex, rfl, hxs⟩ := keyOf_inv hkey
          injection ex with ex
          subst ex
          simp only [heldE, Option.some.injEq, Prod.mk.injEq] at hv
          obtain ⟨rfl, rfl⟩ := hv
          have hO2 : Out (fun k => k = wS.heap.size) wc w2 := Out.of_grown hg2 (fun k e => by injection e with e; exact e.symm)
          have hI2 : StoreIn w2 B p N mb D' V' (ext O w0 wc) ⟨colP left n s.ks, s.last, n⟩ := HI.out.out hO2 (fun k hk e => hk.elim (fun hk => by have := hOlt.out k hk; omega) (fun e2 => by have := HS0.out; omega))
          have hhas : Maps.has D' (lit x) = true := has_true_of_atKey hat
          have hgl : getK (colP left n s.ks) x = getK s.ks x := by rw [getK_colP hs.rises, if_pos hlk]
          have hkx : getK s.ks x ≠ [] := fun e => by
            have h9 := hI2.keys.has x
            simp only [hgl, e, hhas] at h9
            cases h9
          have hVc : V' x = c := by
            have h1 := hat (.held c)
            rw [hI2.keys.at_ x _ (by show getK (colP left n s.ks) x ≠ []; rw [hgl]; exact hkx)] at h1
            injection h1 with h1
          have hrow : OwnV w2 B c (getK s.ks x) := by
            have h9 := hI2.keys.row x
            rw [hVc] at h9
            have e : getK (⟨colP left n s.ks, s.last, n⟩ : StD).ks x = getK s.ks x := hgl
            rw [e] at h9
            exact h9
          obtain ⟨l, hl⟩ : ∃ l, Hid (getK s.ks x = l) := ⟨_, rfl⟩
          have hll : l.length ≤ 800000 := by rw [← hl.out]; exact Nat.le_trans (getK_len _ _) hI
          rw [hl.out] at hrow hkx
          obtain ⟨g, cap, hform⟩ : ∃ g cap, c = .slice (some ⟨g, 0, none⟩) l.length cap := by
            rcases hrow.2 with ⟨_, h0⟩ | ⟨g, cap, cur, rfl, _⟩
            · exact absurd (List.eq_nil_of_length_eq_zero h0) hkx
            · exact ⟨_, _, rfl⟩
          subst hform
          obtain ⟨hA, hcl⟩ : VersAt w2 (some ⟨g, 0, none⟩) l ∧ l.length ≤ cap := by
            obtain ⟨A, cap', e, h1, h2⟩ := own_vers hrow
            injection e with e1 e2 e3
            subst e1 e3
            exact ⟨h2, h1⟩
          have hcells := row_cells hrow
          have cg3 := hO2.cell cgc (show ¬ (w.heap.size = wS.heap.size) by omega)
          have c0 := hI2.c0
          have hpm := hI2.n1
          have hN9 : N < maxLen := by unfold maxLen; omega
          have hB2 : B ≤ w2.heap.size := by have := HOr.out.size; have := HOw.out.size; omega
          have hidx := idxC_any w.heap.size n cg3 l (some ⟨g, 0, none⟩) cap hA (by omega)
          have HFIN : Hid (∀ w4, ext (ext O w0 wc) w2 w4 = ext O w0 w4 ∨ ¬ (w2.heap.size ≤ w4.heap.size)) := fun w4 => by
            by_cases h9 : w2.heap.size ≤ w4.heap.size
            · exact .inl (ext_mid hs2 HOr.out.size h9)
            · exact .inr h9
          have HOUT : Hid (∀ w4, Out (fun k => k = mb) w2 w4 → Out (fun k => O k ∨ k = wS.heap.size) w0 w4) := fun w4 h9 => (HOr.out.trans' (hO2.mono fun k e => .inr e)).trans' (h9.mono fun k e => .inl (by rw [e]; exact HM.out))
          replace hcells := Lib.hid hcells
          replace hrow := Lib.hid hrow
          replace hVc := Lib.hid hVc
          replace hat := Lib.hid hat
          replace hhas := Lib.hid hhas
          replace hgl := Lib.hid hgl
          replace hlk := Lib.hid hlk
          replace hI2 := Lib.hid hI2
          replace hs2 := Lib.hid hs2
          replace hkx := Lib.hid hkx
          clear hg2 hO2 HI HOr hkey cgc
          by_cases hall : l.all (hiB n) = true
          · rw [idxC_none hall] at hidx
            have HX := Lib.hid hidx
            have HCV : Hid (colV (getK s.ks x) n = l) := by show _ = _; rw [hl.out]; exact colV_none hall
            have hnz := beq_nz (List.length_pos_iff.2 hkx.out)
            clear hidx hall hA
            go_wp2_with (go_at_call 40; refine HX.out.mono ?_; rintro e w3 ⟨rfl, hb3⟩; obtain ⟨w4, hrun4, hrg4, ht4⟩ := ranges_put (hrg2.kept (grownB hb3 none) (by simp) (by simp)) keyS Tryd.underlying86 hN9 (keyOf_lit hxs) (val := .slice (some ⟨g, 0, none⟩) l.length cap) (d := .held (.slice (some ⟨g, 0, none⟩) l.length cap)) (ps := []) rfl hhas.out; replace c0 := keep hb3 c0; replace cg3 := keep hb3 cg3)
            go_roundw
            case rel =>
              have h9 := StoreIn.turnPut hI2.out rfl hs.rises hB2 hlk.out HCV.out hkx.out (own_keep hrow.out hb3) (fun g hg => .inl (by rw [hVc.out]; exact hg)) hb3 ht4 hrg4.owns
              refine ⟨_, _, _, fun y => if y = x then .slice (some ⟨g, 0, none⟩) l.length cap else V' y, hrg4, ?_, HOUT.out _ h9.2⟩
              have h8 := h9.1
              rw [(HFIN.out w4).resolve_right (fun e => e h9.2.size)] at h8
              exact h8
            case measure => rw [hrg4.left_eq, hrg.left_eq]; exact hlt
          · obtain ⟨k, hk, hhi, hlo⟩ := hi_find (by simpa using hall)
            obtain ⟨g', off, m, z, bt, t, e9, d0, d1, d2, d3, HXk⟩ := hA.at' hk
            injection e9 with e9
            injection e9 with e9 e8
            subst e9 e8
            rw [HXk.out] at hlo
            simp only [Nat.zero_add] at d1
            rw [idxC_hit hk hhi HXk.out hlo] at hidx
            have HX := Lib.hid hidx
            have hcol := colV_hit hk hhi HXk.out hlo
            have hki : (k : Int) < (l.length : Int) := by omega
            have HCl : Hid (∀ wz mm (T : List Ver), Below w2.heap.size w2 wz → mm ≤ l.length → T = l.take mm → Calls Tryd.prog 42 #[.slice (some ⟨g, 0, none⟩) mm cap] wz fun e w' => ∃ A c, e = .returned (.slice A mm c) ∧ w'.ownsRow wz.heap.size 94 4 (.slice A mm c) T.length (verCs T) ∧ Below wz.heap.size wz w') := fun wz mm T hz hmm hT => by
              subst hT
              exact clone14_any (l.take mm) g mm cap wz (fun j u hj => keep hz (hcells.out j u (verCs_take l mm hj))) (by rw [List.length_take]; omega) (by rw [List.length_take]; omega)
            clear hidx hall hA d0 d2 d3
            by_cases hz : z = 0
            · rw [if_pos hz] at hcol
              subst hz
              by_cases hk0 : k = 0
              · subst hk0
                have HCV : Hid (colV (getK s.ks x) n = []) := by show _ = _; rw [hl.out, hcol]; rfl
                clear hcol hhi hlo
                go_wp2_with (first
                  | (go_at_call 40; refine HX.out.mono ?_; rintro e w3 ⟨rfl, hb3⟩; replace c0 := keep hb3 c0; replace d1 := keep hb3 d1; replace cg3 := keep hb3 cg3)
                  | (go_at_call 42; refine (HCl.out _ 0 _ hb3 (by omega) rfl).mono ?_; rintro e w4 ⟨A4, c4, rfl, hr4, hb4⟩; obtain ⟨w5, hrun5, hrg5, ht5⟩ := ranges_put (hrg2.kept (grownB (keepB hb3 hb4) none) (by simp) (by simp)) keyS Tryd.underlying86 hN9 (keyOf_lit hxs) (val := .slice A4 0 c4) (d := .held (.slice A4 0 c4)) (ps := []) rfl hhas.out; replace c0 := keep hb4 c0; have c5 := ht5.grown.cell c0 (fun e => hpm (by injection e)))
                  | (at_delete; refine wpList_delete_ranges _ rfl _ _ 86 9 rfl 91 keyS Tryd.underlying86 heldE mb wS.heap.size N _ _ cnt2 rfl hrg5 (.string x) (lit x) rfl (keyOf_lit hxs) ?_; intro w6 cnt6 hrg6 hle6 ht6))
                go_frame
                go_roundw
                case rel =>
                  have h9 := StoreIn.turnDel hI2.out rfl hs.rises hB2 hlk.out HCV.out (keepB hb3 hb4) ht5 ht6 hrg6.owns
                  rw [Maps.strike_twice] at hrg6
                  refine ⟨_, _, _, fun y => if y = x then .slice none 0 0 else V' y, hrg6, ?_, HOUT.out _ h9.2⟩
                  have h8 := h9.1
                  rw [(HFIN.out w6).resolve_right (fun e => e h9.2.size)] at h8
                  exact h8
                case measure => rw [hrg6.left_eq, hrg.left_eq]; omega
              · obtain ⟨j, rfl⟩ : ∃ j, k = j + 1 := ⟨k - 1, by omega⟩
                have HCV : Hid (colV (getK s.ks x) n = l.take (j + 1)) := by show _ = _; rw [hl.out]; exact hcol
                have HTN := Lib.hid (take_ne (l := l) (k := j) (by omega))
                clear hcol hhi hlo hk0
                go_wp2_with (first
                  | (go_at_call 40; refine HX.out.mono ?_; rintro e w3 ⟨rfl, hb3⟩; replace c0 := keep hb3 c0; replace d1 := keep hb3 d1; replace cg3 := keep hb3 cg3)
                  | (go_at_call 42; refine (HCl.out _ (j + 1) _ hb3 (by omega) rfl).mono ?_; rintro e w4 ⟨A4, c4, rfl, hr4, hb4⟩; obtain ⟨w5, hrun5, hrg5, ht5⟩ := ranges_put (hrg2.kept (grownB (keepB hb3 hb4) none) (by simp) (by simp)) keyS Tryd.underlying86 hN9 (keyOf_lit hxs) (val := .slice A4 (j + 1) c4) (d := .held (.slice A4 (j + 1) c4)) (ps := []) rfl hhas.out; replace c0 := keep hb4 c0))
                go_roundw
                case rel =>
                  have h9 := StoreIn.turnPut hI2.out rfl hs.rises hB2 hlk.out HCV.out HTN.out (own_base hr4 (Nat.le_trans hB2 hb3.size)) (fun g hg => .inr (Nat.le_trans hb3.size (hr4.lt g hg).1)) (keepB hb3 hb4) ht5 hrg5.owns
                  refine ⟨_, _, _, fun y => if y = x then .slice A4 (j + 1) c4 else V' y, hrg5, ?_, HOUT.out _ h9.2⟩
                  have h8 := h9.1
                  rw [(HFIN.out w5).resolve_right (fun e => e h9.2.size)] at h8
                  exact h8
                case measure => rw [hrg5.left_eq, hrg.left_eq]; exact hlt
            · rw [if_neg hz] at hcol
              have HCV : Hid (colV (getK s.ks x) n = l.take (k + 1)) := by show _ = _; rw [hl.out]; exact hcol
              have q9 : (z != 0) = true := by simpa using hz
              have HTN := Lib.hid (take_ne hk)
              clear hcol hz hhi hlo
              go_wp2_with (first
                | (go_at_call 40; refine HX.out.mono ?_; rintro e w3 ⟨rfl, hb3⟩; replace c0 := keep hb3 c0; replace d1 := keep hb3 d1; replace cg3 := keep hb3 cg3)
                | (go_at_call 42; refine (HCl.out _ (k + 1) _ hb3 (by omega) rfl).mono ?_; rintro e w4 ⟨A4, c4, rfl, hr4, hb4⟩; obtain ⟨w5, hrun5, hrg5, ht5⟩ := ranges_put (hrg2.kept (grownB (keepB hb3 hb4) none) (by simp) (by simp)) keyS Tryd.underlying86 hN9 (keyOf_lit hxs) (val := .slice A4 (k + 1) c4) (d := .held (.slice A4 (k + 1) c4)) (ps := []) rfl hhas.out; replace c0 := keep hb4 c0))
              go_roundw
              case rel =>
                have h9 := StoreIn.turnPut hI2.out rfl hs.rises hB2 hlk.out HCV.out HTN.out (own_base hr4 (Nat.le_trans hB2 hb3.size)) (fun g hg => .inr (Nat.le_trans hb3.size (hr4.lt g hg).1)) (keepB hb3 hb4) ht5 hrg5.owns
                refine ⟨_, _, _, fun y => if y = x then .slice A4 (k + 1) c4 else V' y, hrg5, ?_, HOUT.out _ h9.2⟩
                have h8 := h9.1
                rw [(HFIN.out w5).resolve_right (fun e => e h9.2.size)] at h8
                exact h8
              case measure => rw [hrg5.left_eq, hrg.left_eq]; exact hlt
end Go.Proofs.YtboiafchmdflpaaDoor
