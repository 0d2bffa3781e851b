/- At: what was there at a stamp. -/
import Derived.Test.YtcldpmkhpmlcbaaGreatDoorGrGet17
import Derived.Test.YtcldpmkhpmlcbaaGreatDoorSaf17
set_option linter.unusedVariables false
set_option linter.unusedSimpArgs false
namespace Go.Proofs.YtcldpmkhpmlcbaaGreatDoor
open Go.RowKit Go.Shelf Go.Maps

/-- What At answers. -/
def atR (c : Cfg) (g : Int) (x : MachD) (key : ByteArray) (s : Nat) : Ver × Int :=
  if homeZ c key ≠ g then (noVer, 1) else if safeQ x.q < s then (noVer, 10) else if s < x.a.headD 0 then (noVer, 9) else (getV x.s key (x.s.low + idxA x.a s), 0)
theorem idx_le {a : List Nat} {s k : Nat} (hk : k < a.length) (hso : a.Pairwise (· ≤ ·)) (h1 : a.getD k 0 ≤ s) (h2 : ∀ j, k < j → j < a.length → s < a.getD j 0) : idxA a s = k := by
  have h3 : (a.takeWhile fun x => decide (x ≤ s)).length = k + 1 := by
    have hall : ∀ j (hj : j < k + 1), a[j]'(by omega) ≤ s := fun j hj => by
      have e : a.getD k 0 = a[k] := by simp [List.getD_eq_getElem?_getD, hk]
      rw [e] at h1
      by_cases q : j = k
      · subst q; exact h1
      · exact Nat.le_trans (List.pairwise_iff_getElem.1 hso j k (by omega) hk (by omega)) h1
    have e : a = a.take (k + 1) ++ a.drop (k + 1) := (List.take_append_drop _ _).symm
    rw [e, List.takeWhile_append_of_pos (fun x hx => by
      obtain ⟨j, hj, rfl⟩ := List.mem_iff_getElem.1 hx
      rw [List.length_take] at hj
      rw [List.getElem_take]
      exact decide_eq_true (hall j (by omega)))]
    rw [List.length_append, List.length_take]
    have : (a.drop (k + 1)).takeWhile (fun x => decide (x ≤ s)) = [] := by
      cases hd : a.drop (k + 1) with
      | nil => rfl
      | cons y l =>
        have hl : k + 1 < a.length := by
          rcases Nat.lt_or_ge (k + 1) a.length with q | q
          · exact q
          · rw [List.drop_eq_nil_of_le q] at hd; cases hd
        have e2 : a.getD (k + 1) 0 = y := by
          rw [List.drop_eq_getElem_cons hl] at hd
          injection hd with hd _
          simp [List.getD_eq_getElem?_getD, hl, hd]
        have := h2 (k + 1) (by omega) hl
        rw [e2] at this
        rw [List.takeWhile_cons, if_neg (by simp; omega)]
    rw [this]
    simp
    omega
  rw [idxA, h3]; rfl
theorem headD_getD {a : List Nat} : a.headD 0 = a.getD 0 0 := by cases a <;> rfl
set_option maxRecDepth 100000 in
set_option maxHeartbeats 4000000 in
theorem at17 {w : World} {B p : Nat} {c : Cfg} {g : Int} {lab : Nat → Lab} {x : MachD} {E : MachE} {ov : Value} (h : MachIn w B p c g lab x E ov) (hq : QOK x.q) (hal : x.a.length + x.s.low = x.s.last + 1) (hll : x.s.low ≤ x.s.last) (hla : x.s.last ≤ 100000) (hso : x.a.Pairwise (· ≤ ·)) {key : ByteArray} (hk : key.size ≤ maxLen) (hn : (getK x.s.ks key).length ≤ 900000) (s : Nat) :
    Calls Tryz.prog 20 #[.pointer (some ⟨p, 0, none⟩), .string key, .int .u64 (s : Int)] w (GetPost w (atR c g x key s).1 (atR c g x key s).2) := by
  obtain ⟨W, eW, HB, hsz, hrow⟩ := new3 w (.int .i64 0) (.int .u64 0) (.string { data := #[] }) 66
  have hM := Lib.hid (h.later HB)
  obtain ⟨c0, c1, c2, c3, c4, _, _, _, _, c9, _⟩ := hM.out.cs
  have hpn : ¬ (p = w.heap.size) := fun e => by
    have := (h.lt p (by rw [h.lm]; decide)).2
    omega
  have HR3 : Hid (Blk3 W w.heap.size (.int .i64 0) (.int .u64 0) (.string { data := #[] })) := ⟨_, hrow⟩
  obtain ⟨y0, y1, y2, f0, f1, f2⟩ := cells3 hrow
  obtain ⟨z, hz⟩ : ∃ z, homeZ c key = z := ⟨_, rfl⟩
  have hHo : Hid (∀ wz, Below W.heap.size W wz → Calls Tryz.prog 52 #[.agg #[.slice E.A c.reps.length E.ca, .slice E.A' c.bnds.length E.cb], .string key] wz fun e w' => e = .returned (.int .i64 z) ∧ Below wz.heap.size wz w') := fun wz hb => by
    have := home_any c key E.A E.A' E.ca E.cb wz ((hM.out.later hb).cfg)
    rw [hz] at this
    exact this
  by_cases hg : z = g
  case neg =>
    have HV : Hid (atR c g x key s = (noVer, 1)) := by show _ = _; rw [atR, hz, if_pos hg]
    have hq' : (z != g) = true := by simp [hg]
    clear hg hz hrow h hM hn hk hq hal hso
    go_enter Tryz.func20, Tryz.ntmps20
    go_wp2
    go_region_held3 (fun w' => w'.cell? ⟨p, 0, none⟩ = some (.slice E.A c.reps.length E.ca) ∧ w'.cell? ⟨p, 1, none⟩ = some (.slice E.A' c.bnds.length E.cb) ∧ w'.cell? ⟨p, 2, none⟩ = some (.int .i64 g))
      (first | exact ⟨c0, c1, c2⟩ | exact ⟨keep hb1 c0, keep hb1 c1, keep hb1 c2⟩ | fail)
      ((go_at_call 52; (with_reducible refine (hHo.out _ (below_drew (Below.refl W.heap.size W))).mono ?_); rintro e w1 ⟨rfl, hb⟩; have hb1 : Below W.heap.size W w1 := keepB (below_drew (Below.refl W.heap.size W)) hb))
    have HR1 := HR3.out.later hb1
    obtain ⟨y0, y1, y2, f0, f1, f2⟩ := HR1.facts
    clear c0 c1 c2 c3 c4 c9 hHo
    go_wp2
    obtain ⟨z0, z1, z2, _⟩ := (HR1.set17 (.int .i64 0) (.int .u64 0) (.string { data := #[] })).facts
    refine bodyPost_ret (v := .tuple #[.agg #[.int .i64 0, .int .u64 0, .string { data := #[] }], .int .u64 0, .int .i64 1]) (by simp [results, Tryz.results20, go_sem, z0, z1, z2]) rfl ⟨?_, ?_⟩
    · rw [HV.out]; rfl
    · exact set3_below (keepB HB hb1) (Nat.le_refl _) _ _ _
  case pos =>
    have hq' : (z != g) = false := by simp [hg]
    have hSa : Hid (∀ wz, Below W.heap.size W wz → Calls Tryz.prog 51 #[.pointer (some ⟨E.qp, 0, none⟩)] wz fun e w' => e = .returned (.int .u64 (safeQ x.q : Int)) ∧ Below wz.heap.size wz w') := fun wz hb => by
      obtain ⟨qv, qes, hQ⟩ := (hM.out.later hb).q
      exact safe15 hQ hq
    obtain ⟨sq, hsq⟩ : ∃ sq, safeQ x.q = sq := ⟨_, rfl⟩
    rw [hsq] at hSa
    by_cases hs : sq < s
    · have HV : Hid (atR c g x key s = (noVer, 10)) := by show _ = _; rw [atR, hz, if_neg (by simp [hg]), hsq, if_pos hs]
      have q3 : decide (sq < s) = true := decide_eq_true hs
      clear hg hz hrow h hM hn hk hq hal hso hs hsq
      go_enter Tryz.func20, Tryz.ntmps20
      go_wp2
      go_region_held3 (fun w' => w'.cell? ⟨p, 0, none⟩ = some (.slice E.A c.reps.length E.ca) ∧ w'.cell? ⟨p, 1, none⟩ = some (.slice E.A' c.bnds.length E.cb) ∧ w'.cell? ⟨p, 2, none⟩ = some (.int .i64 g))
        (first | exact ⟨c0, c1, c2⟩ | exact ⟨keep hb1 c0, keep hb1 c1, keep hb1 c2⟩ | fail)
        ((go_at_call 52; (with_reducible refine (hHo.out _ (below_drew (Below.refl W.heap.size W))).mono ?_); rintro e w1 ⟨rfl, hb⟩; have hb1 : Below W.heap.size W w1 := keepB (below_drew (Below.refl W.heap.size W)) hb))
      have d3 := keep hb1 c3
      clear c0 c1 c2 c3 c4 c9 hHo y0 y1 y2 f0 f1 f2
      go_wp2_with (go_at_call 51; (with_reducible refine (hSa.out _ hb1).mono ?_); rintro e w2 ⟨rfl, hb2⟩; obtain ⟨y0, y1, y2, f0, f1, f2⟩ := ((HR3.out.later hb1).later hb2).facts)
      obtain ⟨z0, z1, z2, _⟩ := (((HR3.out.later hb1).later hb2).set17 (.int .i64 0) (.int .u64 0) (.string { data := #[] })).facts
      refine bodyPost_ret (v := .tuple #[.agg #[.int .i64 0, .int .u64 0, .string { data := #[] }], .int .u64 0, .int .i64 10]) (by simp [results, Tryz.results20, go_sem, z0, z1, z2]) rfl ⟨?_, ?_⟩
      · rw [HV.out]; rfl
      · exact set3_below (keepB HB (keepB hb1 hb2)) (Nat.le_refl _) _ _ _
    · have q3 : decide (sq < s) = false := decide_eq_false hs
      obtain ⟨A9, k9, e9, hc9, hat⟩ := hM.out.a.at_
      have hlen : (atV x.a).length = x.a.length := List.length_map ..
      have hA0 : 0 < x.a.length := by omega
      have hel : Hid (∀ k, k < x.a.length → ∃ b off, A9 = some ⟨b, off, none⟩ ∧ W.cell? ⟨b, off + k, none⟩ = some (.int .u64 ((x.a.getD k 0 : Nat) : Int))) := fun k hk => by
        obtain ⟨b, off, e1, e2⟩ := hat k (.int .u64 ((x.a.getD k 0 : Nat) : Int)) (by simp [atV, List.getD_eq_getElem?_getD, hk])
        exact ⟨b, off, e1, e2⟩
      rw [e9, hlen] at c9
      obtain ⟨b9, o9, rfl, x9⟩ := hel.out 0 hA0
      obtain ⟨a0, ha0⟩ : ∃ a0, x.a.getD 0 0 = a0 := ⟨_, rfl⟩
      rw [ha0] at x9
      rw [Nat.add_zero] at x9
      have hA0' : (0 : Int) < (x.a.length : Int) := by omega
      by_cases hsa : s < a0
      · have HV : Hid (atR c g x key s = (noVer, 9)) := by show _ = _; rw [atR, hz, if_neg (by simp [hg]), hsq, if_neg hs, headD_getD, ha0, if_pos hsa]
        have q4 : decide (s < a0) = true := decide_eq_true hsa
        clear hg hz hrow h hM hn hk hq hal hso hs hsq hsa hat e9 hc9
        go_enter Tryz.func20, Tryz.ntmps20
        go_wp2
        go_region_held3 (fun w' => w'.cell? ⟨p, 0, none⟩ = some (.slice E.A c.reps.length E.ca) ∧ w'.cell? ⟨p, 1, none⟩ = some (.slice E.A' c.bnds.length E.cb) ∧ w'.cell? ⟨p, 2, none⟩ = some (.int .i64 g))
          (first | exact ⟨c0, c1, c2⟩ | exact ⟨keep hb1 c0, keep hb1 c1, keep hb1 c2⟩ | fail)
          ((go_at_call 52; (with_reducible refine (hHo.out _ (below_drew (Below.refl W.heap.size W))).mono ?_); rintro e w1 ⟨rfl, hb⟩; have hb1 : Below W.heap.size W w1 := keepB (below_drew (Below.refl W.heap.size W)) hb))
        have d3 := keep hb1 c3
        have hb1H := Lib.hid hb1
        clear c0 c1 c2 c3 c4 hHo y0 y1 y2 f0 f1 f2 hb1
        go_wp2_with (go_at_call 51; (with_reducible refine (hSa.out _ hb1H.out).mono ?_); rintro e w2 ⟨rfl, hb2⟩; obtain ⟨y0, y1, y2, f0, f1, f2⟩ := ((HR3.out.later hb1H.out).later hb2).facts; have d9 := keep hb2 (keep hb1H.out c9); have z9 := keep hb2 (keep hb1H.out x9))
        obtain ⟨z0, z1, z2, _⟩ := (((HR3.out.later hb1H.out).later hb2).set17 (.int .i64 0) (.int .u64 0) (.string { data := #[] })).facts
        refine bodyPost_ret (v := .tuple #[.agg #[.int .i64 0, .int .u64 0, .string { data := #[] }], .int .u64 0, .int .i64 9]) (by simp [results, Tryz.results20, go_sem, z0, z1, z2]) rfl ⟨?_, ?_⟩
        · rw [HV.out]; rfl
        · exact set3_below (keepB HB (keepB hb1H.out hb2)) (Nat.le_refl _) _ _ _
      · have q4 : decide (s < a0) = false := decide_eq_false hsa
        obtain ⟨ix, hix⟩ : ∃ ix, idxA x.a s = ix := ⟨_, rfl⟩
        obtain ⟨lw, hlw⟩ : ∃ lw, x.s.low = lw := ⟨_, rfl⟩
        obtain ⟨nn, hnn⟩ : ∃ nn, lw + ix = nn := ⟨_, rfl⟩
        obtain ⟨v, hv⟩ : ∃ v, getV x.s key nn = v := ⟨_, rfl⟩
        have HV : Hid (atR c g x key s = (v, 0)) := by show _ = _; rw [atR, hz, if_neg (by simp [hg]), hsq, if_neg hs, headD_getD, ha0, if_neg hsa, hix, hlw, hnn, hv]
        have hixl : ix < x.a.length := by
          rw [← hix, idxA]
          have := takeWhile_le (a := x.a) (s := s)
          omega
        have hIx : Hid (∀ k, k < x.a.length → x.a.getD k 0 ≤ s → (∀ j, k < j → j < x.a.length → s < x.a.getD j 0) → k = ix) := fun k h1 h2 h3 => (idx_le h1 hso h2 h3).symm.trans hix
        have hLo : Hid (∀ wz, Below W.heap.size W wz → Calls Tryz.prog 54 #[.pointer (some ⟨E.sp, 0, none⟩)] wz fun e w' => e = .returned (.int .u64 (lw : Int)) ∧ wz = w') := fun wz hb => by
          have := low14_any (hM.out.later hb).s
          rw [hlw] at this
          exact this
        have hGe : Hid (∀ wz, Below W.heap.size W wz → Calls Tryz.prog 53 #[.pointer (some ⟨E.sp, 0, none⟩), .string key, .int .u64 (nn : Int)] wz (GetPost wz v 0)) := fun wz hb => by
          have := get14_any (hM.out.later hb).s key hk nn hn
          rw [hv, oldE, if_neg (by omega)] at this
          exact this
        have hwr : IntKind.u64.wrap ((lw : Int) + (ix : Int)) = (nn : Int) := by rw [IntWalk.u64_in _ (by omega)]; omega
        have hci : IntKind.u64.wrap (ix : Int) = (ix : Int) := IntWalk.u64_in _ (by omega)
        obtain ⟨L, hL⟩ : ∃ L, x.a.length = L := ⟨_, rfl⟩
        have hLs : Hid (L ≤ 100001) := by show _ ≤ _; omega
        have hsub : IntKind.i64.wrap ((L : Int) - 1) = ((L - 1 : Nat) : Int) := by rw [IntWalk.i64_in _ (by omega)]; omega
        rw [hL] at c9 hel hIx hA0 hA0'
        have hs0 : Hid (x.a.getD 0 0 ≤ s) := by show _ ≤ _; omega
        have hixH := Lib.hid hixl
        clear hg hz hrow h hM hn hk hq hal hso hs hsq hsa hat e9 hc9 hlen hix hlw hnn hv ha0 hixl hla hll
        go_enter Tryz.func20, Tryz.ntmps20
        go_wp2
        go_region_held3 (fun w' => w'.cell? ⟨p, 0, none⟩ = some (.slice E.A c.reps.length E.ca) ∧ w'.cell? ⟨p, 1, none⟩ = some (.slice E.A' c.bnds.length E.cb) ∧ w'.cell? ⟨p, 2, none⟩ = some (.int .i64 g))
          (first | exact ⟨c0, c1, c2⟩ | exact ⟨keep hb1 c0, keep hb1 c1, keep hb1 c2⟩ | fail)
          ((go_at_call 52; (with_reducible refine (hHo.out _ (below_drew (Below.refl W.heap.size W))).mono ?_); rintro e w1 ⟨rfl, hb⟩; have hb1 : Below W.heap.size W w1 := keepB (below_drew (Below.refl W.heap.size W)) hb))
        have d3 := keep hb1 c3
        have hb1H := Lib.hid hb1
        clear c0 c1 c2 c3 hHo y0 y1 y2 f0 f1 f2 hb1
        go_wp2_with (go_at_call 51; (with_reducible refine (hSa.out _ hb1H.out).mono ?_); rintro e w2 ⟨rfl, hb2⟩; have hB2 := Lib.hid (keepB hb1H.out hb2); have d9 := keep hB2.out c9; have z9 := keep hB2.out x9)
        obtain ⟨wb, rfl⟩ : ∃ wb : World, wb = w2 := ⟨_, rfl⟩
        clear d3 hb2 hb1H
        go_loopw [9] (fun i wr => ∃ k : Nat, k < L ∧ i = .int .i64 k ∧ wb = wr ∧ Hid (∀ j, k < j → j < L → s < x.a.getD j 0)) (fun i _ => (intOf i).toNat)
        case atStart => exact ⟨L - 1, by omega, rfl, rfl, fun j h1 h2 => by omega⟩
        case round =>
          obtain ⟨k, hk, rfl, rfl, hup⟩ := hrel
          obtain ⟨b, off, e1, hc⟩ := hel.out k hk
          cases e1
          have hcw := keep hB2.out hc
          obtain ⟨ak, hak⟩ : ∃ ak, x.a.getD k 0 = ak := ⟨_, rfl⟩
          rw [hak] at hcw
          have hkL : (k : Int) < (L : Int) := by omega
          have hk0 : (0 : Int) ≤ (k : Int) := by omega
          clear hc
          by_cases hks : s < ak
          · have hk1 : 1 ≤ k := by
              rcases Nat.eq_zero_or_pos k with q | q
              · have := hs0.out
                rw [q] at hak
                rw [hak] at this
                omega
              · exact q
            have q5 : decide (s < ak) = true := decide_eq_true hks
            have hw1 : IntKind.i64.wrap ((k : Int) - 1) = ((k - 1 : Nat) : Int) := by have := hLs.out; rw [IntWalk.i64_in _ (by omega)]; omega
            have hup' : Hid (∀ j, k - 1 < j → j < L → s < x.a.getD j 0) := fun j h1 h2 => by
              by_cases q : j = k
              · rw [q, hak]; exact hks
              · exact hup.out j (by omega) h2
            clear hks
            go_wp2
            go_roundw
            case rel => exact ⟨k - 1, by omega, rfl, by trivial, hup'⟩
            case measure => simp [intOf]; omega
          · have q5 : decide (s < ak) = false := decide_eq_false hks
            have hki : k = ix := hIx.out k hk (by rw [hak]; omega) hup.out
            subst hki
            have hd4 := keep hB2.out c4
            have hR := Lib.hid (HR3.out.later hB2.out)
            have hS4 : ∀ w4 : World, Below wb.heap.size wb w4 → ∀ u v x, (((w4.setCell ⟨w.heap.size, 0, none⟩ u).setCell ⟨w.heap.size, 1, none⟩ v).setCell ⟨w.heap.size, 2, none⟩ x).cell? ⟨p, 4, none⟩ = some (.pointer (some ⟨E.sp, 0, none⟩)) := fun w4 hb u v x => keepS (keepS (keepS (keep hb hd4) hpn) hpn) hpn
            clear hks hak hup hIx hs0 hel c9 z9 c4 x9
            go_wp2
            clear hcw
            go_region_held3 (fun w' => w'.cell? ⟨p, 4, none⟩ = some (.pointer (some ⟨E.sp, 0, none⟩)))
              (first | exact hd4 | exact keep hb4 hd4 | exact hS4 _ hb4 _ _ _ | fail)
              (first
                | (go_at_call 54; (with_reducible refine (hLo.out _ (keepB hB2.out (below_drew (Below.refl wb.heap.size wb)))).mono ?_); rintro e w3 ⟨rfl, rfl⟩)
                | (go_at_call 53; (with_reducible refine (hGe.out _ (keepB hB2.out (below_drew (Below.refl wb.heap.size wb)))).mono ?_); rintro e w4 ⟨rfl, hb'⟩; have hb4 : Below wb.heap.size wb w4 := keepB (below_drew (Below.refl wb.heap.size wb)) hb'; obtain ⟨y0, y1, y2, f0, f1, f2⟩ := (hR.out.later hb4).facts))
            all_goals
              go_wp2
              obtain ⟨z0, z1, z2, _⟩ := ((hR.out.later hb4).set17 (.int .i64 v.val.kind) (.int .u64 (v.val.bits : Int)) (.string v.val.text)).facts
              refine bodyPost_ret (v := .tuple #[.agg #[.int .i64 v.val.kind, .int .u64 (v.val.bits : Int), .string v.val.text], .int .u64 (v.num : Int), .int .i64 0]) (by simp [results, Tryz.results20, go_sem, z0, z1, z2]) rfl ⟨?_, ?_⟩
              · rw [HV.out]
              · exact set3_below (keepB HB (keepB hB2.out hb4)) (Nat.le_refl _) _ _ _
end Go.Proofs.YtcldpmkhpmlcbaaGreatDoor
