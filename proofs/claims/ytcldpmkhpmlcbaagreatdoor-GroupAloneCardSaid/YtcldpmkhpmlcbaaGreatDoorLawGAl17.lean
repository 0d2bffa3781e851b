/- GroupAlone: the walk. -/
import Derived.Test.YtcldpmkhpmlcbaaGreatDoorJ23
import Derived.Test.YtcldpmkhpmlcbaaGreatDoorGrWai17
import Derived.Test.YtcldpmkhpmlcbaaGreatDoorOpenTxs
import Derived.BigQuiet
set_option linter.unusedVariables false
set_option linter.unusedSimpArgs false
namespace Go.Proofs.YtcldpmkhpmlcbaaGreatDoor
open Go.RowKit Go.Shelf Go.Maps

/-- The i-th transaction's id. -/
def idAt (k : Nat) : IdD := ⟨1 + (k : Int) % 8, 1 + (k : Int) / 8⟩
theorem idAt_inj {i j : Nat} (h : idAt i = idAt j) : i = j := by
  injection h with h1 h2
  omega
def withId (t : Tx) (k : Nat) : Tx := { t with ses := (idAt k).ses, seq := (idAt k).seq }
/-- A machine that is alone, behind k of the list. -/
structure AlIn (w0 wr : World) (B p n k : Nat) (lab : Nat → Lab) (x : MachD) : Prop where
  m : ∃ E ov os, GrAt wr B p cfg1 0 (2 * k) lab x E ov os
  a : AloneOK n x
  nk : n ≤ k
  d : ∀ i, (getM x.dc i).isSome = true → ∃ j, j < k ∧ i = idAt j
  b : Below w0.heap.size w0 wr
  hB : w0.heap.size ≤ B
section
variable {w0 wr wz : World} {B p n k : Nat} {lab : Nat → Lab} {x : MachD}
theorem AlIn.later (h : AlIn w0 wr B p n k lab x) (hb : Below wr.heap.size wr wz) : AlIn w0 wz B p n k lab x := by
  obtain ⟨E, ov, os, hm⟩ := h.m
  exact ⟨⟨E, ov, os, hm.later hb⟩, h.a, h.nk, h.d, keepB h.b hb, h.hB⟩
theorem AlIn.skip (h : AlIn w0 wr B p n k lab x) : AlIn w0 wr B p n (k + 1) lab x := by
  obtain ⟨E, ov, os, hm⟩ := h.m
  exact ⟨⟨E, ov, os, hm.more (by omega)⟩, h.a, Nat.le_succ_of_le h.nk, fun i e => by
    obtain ⟨j, hj, e⟩ := h.d i e
    exact ⟨j, by omega, e⟩, h.b, h.hB⟩
theorem AlIn.no (h : AlIn w0 wr B p n k lab x) : getM x.dc (idAt k) = none := by
  cases e : getM x.dc (idAt k) with
  | none => rfl
  | some d =>
    obtain ⟨j, hj, e2⟩ := h.d (idAt k) (by rw [e]; rfl)
    have := idAt_inj e2
    omega
theorem AlIn.applied (h : AlIn w0 wr B p n k lab x) {t : Tx} (ht : formedT t = true) (hi : idT t = idAt k) (hn : n < mostQ) {v : Value} {A A' : Option Addr} {ca cb : Nat} (ha : ApPost wr wz B p cfg1 0 (2 * k) lab x (beginC t A A' ca cb) v) :
    ∃ lab' : Nat → Lab, AlIn w0 wz B p (n + 1) (k + 1) lab' (aloneM x n t) ∧ OutRow wz B lab' v [⟨4, -1, idAt k, n + 1, voteB x.s t.rds⟩] := by
  obtain ⟨E, ov, os, hm⟩ := h.m
  obtain ⟨lab', E', ov', os', hO, hG, hS⟩ := ha
  have hd := h.no
  rw [← hi] at hd
  obtain ⟨e1, e2⟩ := alone_apply h.a ht hn hd (A := A) (B := A') (ca := ca) (cb := cb)
  rw [e1] at hG
  rw [e2, hi] at hO
  refine ⟨lab', ⟨⟨E', ov', os', hG⟩, alone_ok h.a ht hn hd, Nat.succ_le_succ h.nk, fun i e => ?_, h.b.trans (hS.out.below h.b.size (fun q hq => Nat.le_trans h.hB (hm.lb q hq))), h.hB⟩, hO⟩
  rw [alone_dc, getM_put] at e
  by_cases q : i = idT t
  · exact ⟨k, by omega, by rw [q, hi]⟩
  · rw [if_neg q] at e
    obtain ⟨j, hj, e⟩ := h.d i e
    exact ⟨j, by omega, e⟩
theorem AlIn.get (h : AlIn w0 wr B p n k lab x) (hk : k ≤ 100) (hb : Below wr.heap.size wr wz) {key : ByteArray} (hs : key.size ≤ 9223372036854775807) :
    Calls Tryz.prog 23 #[.pointer (some ⟨p, 0, none⟩), .string key] wz (Get2Post wz (getV x.s key x.s.last)) := by
  obtain ⟨E, ov, os, hm⟩ := h.m
  have h1 := hm.k.its
  have h2 := hm.k.cnt
  have := get17 (hm.m.later hb) (key := key) hs (Nat.le_trans (getK_len _ _) (by omega))
  rw [getG, if_pos (home1 key)] at this
  exact this
theorem AlIn.safe (h : AlIn w0 wr B p n k lab x) (hb : Below wr.heap.size wr wz) :
    Calls Tryz.prog 19 #[.pointer (some ⟨p, 0, none⟩)] wz fun e w' => e = .returned (.int .u64 (n : Int)) ∧ Below wz.heap.size wz w' := by
  obtain ⟨E, ov, os, hm⟩ := h.m
  have := safe17 (hm.m.later hb) hm.k.q
  rw [h.a.q] at this
  exact this
theorem AlIn.wait (h : AlIn w0 wr B p n k lab x) :
    Calls Tryz.prog 24 #[.pointer (some ⟨p, 0, none⟩)] wr fun e w' => e = .returned (.slice none 0 0) ∧ wr = w' := by
  obtain ⟨E, ov, os, hm⟩ := h.m
  exact waiting17_nil hm.m (by rw [h.a.q])
end
theorem voteR_get {s : StD} (hs : StOK s) (x : Rd) : voteR s x = decide ((getV s x.key s.last).num = x.ver) := by
  rw [voteR, getV, if_neg (by have := hs.low; omega)]
theorem vote_next {s : StD} {l : List Rd} {k : Nat} {x : Rd} (hk : k < l.length) (h : l.getD k noRd = x) : ((l.take (k + 1)).all (voteR s)) = ((l.take k).all (voteR s) && voteR s x) := by
  rw [List.getD_eq_getElem?_getD, List.getElem?_eq_getElem hk] at h
  simp only [Option.getD_some] at h
  rw [List.take_succ_eq_append_getElem hk, List.all_append, h]
  simp
theorem withId_at {w : World} {t : Tx} {A B : Option Addr} (h : TxAt w t A B) (k : Nat) : TxAt w (withId t k) A B := ⟨h.rds, h.wrs, h.rk, h.wk, h.wv, h.rn, h.wn⟩
set_option maxRecDepth 100000 in
set_option maxHeartbeats 8000000 in
theorem law_galone (l : List TxV) (S : Option Addr) (cs : Nat) (w : World) (hl : TxsAt w S l) (hn : l.length ≤ 9223372036854775807) (hT : Tabs w) :
    Calls Tryz.prog 7 #[.slice S l.length cs] w fun e w' => e = .returned (.bool true) ∧ Below w.heap.size w w' := by
  have hl2 := Lib.hid hl
  have hTW := Lib.hid hT
  have hAw : Hid (∀ wz, Below w.heap.size w wz → Calls Tryz.prog 9 #[] wz fun e w' => e = .returned (.bool true) ∧ Below wz.heap.size wz w') := fun wz hb => awake17 wz (hTW.out.later hb)
  have hbb : Below w.heap.size w w := Below.refl _ _
  clear hl hT
  by_cases h60 : 60 < l.length
  · have q1 : decide ((60 : Int) < (l.length : Int)) = true := by rw [decide_eq_true_iff]; omega
    clear h60
    go_enter Tryz.func7, Tryz.ntmps7
    go_wp2_with (go_at_call 9; (with_reducible refine (hAw.out _ hbb).mono ?_); rintro e w0 ⟨rfl, hb0⟩; replace hbb := keepB hbb hb0; clear hb0)
    go_ret
    exact ⟨rfl, hbb⟩
  have q1 : decide ((60 : Int) < (l.length : Int)) = false := by rw [decide_eq_false_iff_not]; omega
  have hN : Hid (∀ w1, Below w.heap.size w w1 → Calls Tryz.prog 11 #[.agg #[.slice (some ⟨w1.heap.size, 0, none⟩) 1 1, .slice none 0 0], .int .i64 0] (w1.alloc (.cells #[.int .i64 1] 3)) fun e w2 => ∃ p lab, e = .returned (.pointer (some ⟨p, 0, none⟩)) ∧ AlIn w w2 (w1.alloc (.cells #[.int .i64 1] 3)).heap.size p 0 0 lab (mach0 0)) := fun w1 hb => by
    have hc1 : (w1.alloc (.cells #[.int .i64 1] 3)).cell? ⟨w1.heap.size, 0, none⟩ = some (.int .i64 1) := by simp
    refine (grNew_ok (c := cfg1) (cfg1_lies hc1) (fun a e _ => by cases e; simp) (fun a e => by cases e) cfg1_ok (by decide) (by decide)).mono ?_
    rintro e w2 ⟨p, lab, E, rfl, hM, hb2, hz⟩
    have hb1 : Below w.heap.size w (w1.alloc (.cells #[.int .i64 1] 3)) := keepB hb (below1 _ _)
    exact ⟨p, lab, rfl, ⟨⟨E, _, _, GrAt.made hM hz (Below.refl _ _) cfg1_ok (by decide) (by decide) (TabB.of hTW.out hb1.size (hTW.out.later (keepB hb1 hb2)))⟩, alone0, Nat.le_refl _, fun i e => by simp [mach0, getM_nil] at e, keepB hb1 hb2, hb1.size⟩⟩
  have h60H : Hid (l.length ≤ 60) := by show _ ≤ _; omega
  clear h60
  go_enter Tryz.func7, Tryz.ntmps7
  go_wp2_with (first
    | (go_at_call 9; (with_reducible refine (hAw.out _ hbb).mono ?_); rintro e w0 ⟨rfl, hb0⟩; replace hbb := keepB hbb hb0; clear hb0)
    | (go_at_call 11; (with_reducible refine (hN.out _ hbb).mono ?_); rintro e w2 ⟨p, lab0, rfl, hM0⟩; replace hM0 := Lib.hid hM0))
  obtain ⟨Bb, hBb⟩ : ∃ Bb, (w0.alloc (.cells #[.int .i64 1] 3)).heap.size = Bb := ⟨_, rfl⟩
  rw [hBb] at hM0
  clear hAw hN hbb hBb hTW
  go_loopw [4, 5] (fun c i wr => ∃ (k n : Nat) (lab : Nat → Lab) (x : MachD), k ≤ l.length ∧ c = .int .u64 n ∧ i = .int .i64 k ∧ Hid (AlIn w wr Bb p n k lab x)) (fun _ i _ => l.length - (intOf i).toNat)
  case atStart => exact ⟨0, 0, lab0, mach0 0, Nat.zero_le _, rfl, rfl, hM0⟩
  case round =>
    obtain ⟨k, n, lab, x, hk, rfl, rfl, HI⟩ := hrel
    obtain ⟨wi, rfl⟩ : ∃ wi : World, wi = wr := ⟨_, rfl⟩
    by_cases hlt : k < l.length
    · obtain ⟨b, off, a, rfl, x0, x1, x2, x3, ht, HX⟩ := (hl2.out.later HI.out.b).at' hlt
      obtain ⟨ta, A, B', ca, cb⟩ := a
      dsimp only at x0 x1 x2 x3 ht
      have hki : (k : Int) < (l.length : Int) := by omega
      have hk0 : (0 : Int) ≤ (k : Int) := by omega
      have hkH := Lib.hid hlt
      have hkb : k < 60 := by have := h60H.out; omega
      clear hlt
      go_wp2_with fail
      obtain ⟨t, htd⟩ : ∃ t, withId ta k = t := ⟨_, rfl⟩
      have e0 : 1 + (k : Int) % 8 = t.ses := by rw [← htd]; rfl
      have e1 : 1 + (k : Int) / 8 = t.seq := by rw [← htd]; rfl
      have e2 : ta.rds = t.rds := by rw [← htd]; rfl
      have e3 : ta.wrs = t.wrs := by rw [← htd]; rfl
      have hid : Hid (idT t = idAt k) := by show _ = _; rw [← htd]; rfl
      have ht2 : TxAt wi t A B' := by rw [← htd]; exact withId_at ht k
      have oA : Hid (Old w.heap.size t.rds.length A ∧ Old w.heap.size t.wrs.length B') := by
        obtain ⟨_, _, _, _, ht0⟩ := hl2.out k hkH.out
        rw [HX.out] at ht0
        dsimp only at ht0
        rw [← e2, ← e3]
        refine ⟨fun q e hn0 => ?_, fun q e hn0 => ?_⟩
        · obtain ⟨b, off, e1, hc, _⟩ := ht0.rds 0 hn0
          rw [e] at e1; cases e1
          exact blk_lt hc
        · obtain ⟨b, off, e1, hc, _⟩ := ht0.wrs 0 hn0
          rw [e] at e1; cases e1
          exact blk_lt hc
      rw [e0, e1, e2, e3]
      clear e0 e1 e2 e3 htd ht x0 x1 x2 x3
      obtain ⟨W2, hW2⟩ : ∃ W2, wi.alloc (.cells #[.int .i64 t.ses, .int .i64 t.seq, .slice A t.rds.length ca, .slice B' t.wrs.length cb] 38) = W2 := ⟨_, rfl⟩
      have hb2 : Below wi.heap.size wi W2 := by rw [← hW2]; exact below1 _ _
      have hr2 : W2.heap[wi.heap.size]? = some (.cells #[.int .i64 t.ses, .int .i64 t.seq, .slice A t.rds.length ca, .slice B' t.wrs.length cb] 38 (0, 0)) := by rw [← hW2]; exact heap_alloc_new wi _
      rw [hW2]
      obtain ⟨pb, hpb⟩ : ∃ pb, wi.heap.size = pb := ⟨_, rfl⟩
      rw [hpb] at hr2 ⊢
      have hpn : Hid (lab pb = .no) := by
        obtain ⟨_, _, _, hm⟩ := HI.out.m
        show lab pb = .no
        cases e : lab pb
        case no => rfl
        all_goals exact absurd (hm.lt pb (by rw [e]; intro z; cases z)) (by rw [← hpb]; exact Nat.lt_irrefl _)
      clear hW2
      have hT2 := Lib.hid (ht2.later hb2)
      have hI2 := Lib.hid (HI.out.later hb2)
      clear HI hb2 hpb ht2
      obtain ⟨fB, hfB⟩ : ∃ fB, fewT t = fB := ⟨_, rfl⟩
      obtain ⟨gB, hgB⟩ : ∃ gB, formedT t = gB := ⟨_, rfl⟩
      have hFe : Hid (Calls Tryz.prog 21 #[.agg #[.int .i64 t.ses, .int .i64 t.seq, .slice A t.rds.length ca, .slice B' t.wrs.length cb]] W2 fun e w' => e = .returned (.bool fB) ∧ Below W2.heap.size W2 w') := by
        have := few08_any t A B' ca cb W2 hT2.out
        rw [hfB] at this
        exact this
      refine hFe.out.mono ?_
      rintro e w3 ⟨rfl, hb3⟩
      replace hr2 := obj_later hr2 hb3
      have hT3 := Lib.hid (hT2.out.later hb3)
      have hI3 := Lib.hid (hI2.out.later hb3)
      have hFo : Hid (Calls Tryz.prog 22 #[.agg #[.int .i64 t.ses, .int .i64 t.seq, .slice A t.rds.length ca, .slice B' t.wrs.length cb]] w3 fun e w' => e = .returned (.bool gB) ∧ Below w3.heap.size w3 w') := by
        have := refTxFormed_any t A B' ca cb w3 hT3.out
        rw [hgB] at this
        exact this
      clear hT2 hI2 hFe hb3 hfB
      have y0 : w3.cell? ⟨pb, 0, none⟩ = some (.int .i64 t.ses) := by rw [cell_of_row w3 _ _ _ _ _ hr2]; rfl
      have y1 : w3.cell? ⟨pb, 1, none⟩ = some (.int .i64 t.seq) := by rw [cell_of_row w3 _ _ _ _ _ hr2]; rfl
      have y2 : w3.cell? ⟨pb, 2, none⟩ = some (.slice A t.rds.length ca) := by rw [cell_of_row w3 _ _ _ _ _ hr2]; rfl
      have y3 : w3.cell? ⟨pb, 3, none⟩ = some (.slice B' t.wrs.length cb) := by rw [cell_of_row w3 _ _ _ _ _ hr2]; rfl
      cases fB
      case false =>
        have hE := Lib.hid hI3.out.b
        clear hI3
        go_wp2
        go_ret
        exact ⟨rfl, hE.out⟩
      case true =>
        cases gB
        case false =>
          have hE := Lib.hid hI3.out
          clear hI3 hgB
          go_wp2_with (go_at_call 22; (with_reducible refine hFo.out.mono ?_); rintro e w4 ⟨rfl, hb4⟩)
          have hE4 := Lib.hid (hE.out.later hb4).skip
          clear y0 y1 y2 y3
          go_roundw
          case rel => exact ⟨k + 1, n, lab, x, by have := hkH.out; omega, rfl, by go_num, hE4⟩
          case measure => have := hkH.out; simp [intOf]; omega
        case true =>
          go_wp2_with (go_at_call 22; (with_reducible refine hFo.out.mono ?_); rintro e w4 ⟨rfl, hb4⟩)
          have hI4 := Lib.hid (hI3.out.later hb4)
          have hT4 := Lib.hid (hT3.out.later hb4)
          have hrL := Lib.hid (obj_later hr2 hb4)
          have hf4 := Lib.hid hgB
          have hst : Hid (StOK x.s) := by
            obtain ⟨_, _, _, hm⟩ := hI4.out.m
            exact hm.k.s
          have hrn : Hid (t.rds.length ≤ 100) := by have := (formed_six hgB).1; show _ ≤ _; omega
          have hwn : Hid (t.wrs.length ≤ 100) := by have := (formed_six hgB).2; show _ ≤ _; omega
          clear hI3 hT3 hFo hb4 hr2 y0 y1 y2 y3 hgB
          go_wp2
          go_loopw [7, 8] (fun yv i wr => ∃ k2 : Nat, k2 ≤ t.rds.length ∧ i = .int .i64 k2 ∧ yv = .bool ((t.rds.take k2).all (voteR x.s)) ∧ Below w4.heap.size w4 wr) (fun _ i _ => t.rds.length - (intOf i).toNat)
          case atStart => exact ⟨0, Nat.zero_le _, rfl, rfl, Below.refl _ _⟩
          case round =>
            obtain ⟨k2, hk2, rfl, rfl, hw5⟩ := hrel
            obtain ⟨wj, rfl⟩ : ∃ wj : World, wj = wr := ⟨_, rfl⟩
            have y1 : wj.cell? ⟨pb, 2, none⟩ = some (.slice A t.rds.length ca) := by rw [cell_of_row wj _ _ _ _ _ (obj_later hrL.out hw5)]; rfl
            obtain ⟨yv, hyv⟩ : ∃ yv, (t.rds.take k2).all (voteR x.s) = yv := ⟨_, rfl⟩
            by_cases hlt2 : k2 < t.rds.length
            · obtain ⟨b', off', key, ver, rfl, z0, z1, HR⟩ := (hT4.out.rds.later hw5).at' hlt2
              have hkey : key.size ≤ 9223372036854775807 := by have := hT4.out.rk k2 hlt2; rwa [HR.out] at this
              obtain ⟨v, hv⟩ : ∃ v, getV x.s key x.s.last = v := ⟨_, rfl⟩
              have hG : Hid (Calls Tryz.prog 23 #[.pointer (some ⟨p, 0, none⟩), .string key] wj (Get2Post wj v)) := by
                have := hI4.out.get (by omega) hw5 hkey
                rw [hv] at this
                exact this
              have hvn := Lib.hid (vote_next (s := x.s) hlt2 HR.out)
              have hvr : Hid (voteR x.s ⟨key, ver⟩ = decide (v.num = ver)) := by
                have := voteR_get hst.out ⟨key, ver⟩
                rw [hv] at this
                exact this
              have hki2 : (k2 : Int) < (t.rds.length : Int) := by omega
              have hk02 : (0 : Int) ≤ (k2 : Int) := by omega
              have hk2H := Lib.hid hlt2
              have hk2b : k2 < 1000 := by have := hrn.out; omega
              have hyvH := Lib.hid hyv
              rw [hyv]
              clear hlt2 hv hkey hyv
              obtain ⟨q, hq⟩ : ∃ q, ((v.num : Int) == (ver : Int)) = q := ⟨_, rfl⟩
              have hqd : Hid (decide (v.num = ver) = q) := by
                show _ = _
                rw [← hq]
                by_cases e : v.num = ver
                · simp [e]
                · have e2 : ¬ ((v.num : Int) = (ver : Int)) := by omega
                  simp [e, e2]
              cases yv <;> cases q
              all_goals
                go_wp2_with (go_at_call 23; (with_reducible refine hG.out.mono ?_); rintro e w5 ⟨rfl, hb5⟩; have u0 := keep hb5 y1; have u1 := keep hb5 z0; have u2 := keep hb5 z1; have a0 := fun o => keep (below1 w5 o) u0; have a2 := fun o => keep (below1 w5 o) u2)
                go_roundw
                case rel =>
                  refine ⟨k2 + 1, by have := hk2H.out; omega, by go_num, ?_, keepB (keepB hw5 hb5) (below1 _ _)⟩
                  rw [hvn.out, hyvH.out, hvr.out, hqd.out]
                  try rfl
                case measure => have := hk2H.out; simp [intOf]; omega
            · obtain rfl : k2 = t.rds.length := by omega
              have hyt : Hid (voteB x.s t.rds = yv) := by
                show _ = _
                rw [← hyv, List.take_length]
                rfl
              have hIj := Lib.hid (hI4.out.later hw5)
              have hTj := Lib.hid (hT4.out.later hw5)
              have hrj := obj_later hrL.out hw5
              have u0 : wj.cell? ⟨pb, 0, none⟩ = some (.int .i64 t.ses) := by rw [cell_of_row wj _ _ _ _ _ hrj]; rfl
              have u1 : wj.cell? ⟨pb, 1, none⟩ = some (.int .i64 t.seq) := by rw [cell_of_row wj _ _ _ _ _ hrj]; rfl
              have u3 : wj.cell? ⟨pb, 3, none⟩ = some (.slice B' t.wrs.length cb) := by rw [cell_of_row wj _ _ _ _ _ hrj]; rfl
              have hrJ := Lib.hid hrj
              rw [hyv]
              have hnm : n < mostQ := by have := hI4.out.nk; unfold mostQ; omega
              have hn60 : n < 60 := by have := hI4.out.nk; omega
              obtain ⟨n1, hn1⟩ : ∃ n1, n + 1 = n1 := ⟨_, rfl⟩
              have hwr : IntKind.u64.wrap ((n : Int) + 1) = (n1 : Int) := by rw [IntWalk.u64_in _ (by omega)]; omega
              have hAp : Hid (Calls Tryz.prog 12 #[.pointer (some ⟨p, 0, none⟩), .agg #[.int .i64 1, .int .i64 t.ses, .int .i64 t.seq, .slice A t.rds.length ca, .slice B' t.wrs.length cb, .int .i64 0, .int .i64 0, .int .i64 0, .int .u64 0, .bool false]] wj fun e w' => ∃ (lab' : Nat → Lab) (b6 o6 k6 : Nat), e = .returned (.slice (some ⟨b6, o6, none⟩) 1 k6) ∧ AlIn w w' Bb p n1 (k + 1) lab' (aloneM x n t) ∧ OutLies w' b6 o6 ⟨4, -1, ⟨t.ses, t.seq⟩, n1, yv⟩ ∧ w'.heap[pb]? = some (.cells #[.int .i64 t.ses, .int .i64 t.seq, .slice A t.rds.length ca, .slice B' t.wrs.length cb] 38 (0, 0)) ∧ TxAt w' t A B') := by
                obtain ⟨E, ov, os, hG⟩ := hIj.out.m
                have hw2 := hIj.out.hB
                refine (apply17 hG (beginC t A B' ca cb) hTj.out (fun q e hn0 => .inl (Nat.lt_of_lt_of_le (oA.out.1 q e hn0) hw2)) (fun q e hn0 => .inl (Nat.lt_of_lt_of_le (oA.out.2 q e hn0) hw2)) (by omega)).mono ?_
                rintro e w' ⟨v, rfl, hv⟩
                have hOut := hv
                obtain ⟨_, _, _, _, _, _, hSt⟩ := hOut
                obtain ⟨lab', hI6, hO6⟩ := hIj.out.applied hf4.out hid.out hnm hv
                obtain ⟨A6, k6, e6, hA6⟩ := outs_of_own hO6.1
                obtain ⟨b6, o6, eA, hL⟩ := hA6 0 (by simp)
                rw [hn1] at hI6
                refine ⟨lab', b6, o6, k6, by rw [e6, eA]; rfl, hI6, ?_, hSt.out.obj hrJ.out (fun e => e hpn.out), tx_out2 hTj.out hSt.out (fun q e hn0 ho => ?_) (fun q e hn0 ho => ?_)⟩
                · have e1 : ([⟨4, -1, idAt k, n + 1, voteB x.s t.rds⟩] : List OutD).getD 0 noOut = ⟨4, -1, ⟨t.ses, t.seq⟩, n1, yv⟩ := by
                    rw [← hid.out, hn1, hyt.out]; rfl
                  rw [e1] at hL
                  simpa using hL
                · have h1 := oA.out.1 q e hn0
                  have h2 := hG.lb q.block ho
                  omega
                · have h1 := oA.out.2 q e hn0
                  have h2 := hG.lb q.block ho
                  omega
              have hWr : Hid (yv = true → ∀ y ∈ t.wrs, (getV (aloneM x n t).s y.key (aloneM x n t).s.last).val = y.val) := fun e y hy => written hI4.out.a hf4.out (by rw [hyt.out]; exact e) hy
              replace hn1 := Lib.hid hn1
              clear hI4 hT4 hrj hw5 hk2 hlt2 hyv hst
              go_wp2_with (go_at_call 12; (with_reducible refine hAp.out.mono ?_); rintro e w6 ⟨lab6, b6, o6, k6, rfl, hI6, ⟨z0, z1, z2, z3, z4, z5⟩, hr6, hT6⟩)
              have u0' : w6.cell? ⟨pb, 0, none⟩ = some (.int .i64 t.ses) := by rw [cell_of_row w6 _ _ _ _ _ hr6]; rfl
              have u1' : w6.cell? ⟨pb, 1, none⟩ = some (.int .i64 t.seq) := by rw [cell_of_row w6 _ _ _ _ _ hr6]; rfl
              have hI6H := Lib.hid hI6
              have hSf : Hid (∀ wz, Below w6.heap.size w6 wz → Calls Tryz.prog 19 #[.pointer (some ⟨p, 0, none⟩)] wz fun e w' => e = .returned (.int .u64 (n1 : Int)) ∧ Below wz.heap.size wz w') := fun wz hb => hI6H.out.safe hb
              replace hr6 := Lib.hid hr6
              replace hT6 := Lib.hid hT6
              clear hI6 hIj hTj hAp y1 u0 u1 u3
              go_region_held3 (fun w' => w'.cell? ⟨b6, o6, none⟩ = some (.int .i64 4) ∧ w'.cell? ⟨b6, o6 + 1, none⟩ = some (.int .i64 (-1)) ∧ w'.cell? ⟨b6, o6 + 2, none⟩ = some (.int .i64 t.ses) ∧ w'.cell? ⟨b6, o6 + 3, none⟩ = some (.int .i64 t.seq) ∧ w'.cell? ⟨b6, o6 + 4, none⟩ = some (.int .u64 (n1 : Int)) ∧ w'.cell? ⟨b6, o6 + 5, none⟩ = some (.bool yv) ∧ w'.cell? ⟨pb, 0, none⟩ = some (.int .i64 t.ses) ∧ w'.cell? ⟨pb, 1, none⟩ = some (.int .i64 t.seq))
                (first | exact ⟨z0, z1, z2, z3, z4, z5, u0', u1'⟩ | exact ⟨keep hb67 z0, keep hb67 z1, keep hb67 z2, keep hb67 z3, keep hb67 z4, keep hb67 z5, keep hb67 u0', keep hb67 u1'⟩ | fail)
                ((go_at_call 19; (with_reducible refine (hSf.out _ (below_drew (Below.refl w6.heap.size w6))).mono ?_); rintro e w7 ⟨rfl, hbb⟩; have hb67 : Below w6.heap.size w6 w7 := keepB (below_drew (Below.refl w6.heap.size w6)) hbb))
              have hI7 := Lib.hid (hI6H.out.later hb67)
              have hr7 := Lib.hid (obj_later hr6.out hb67)
              have hT7 := Lib.hid (hT6.out.later hb67)
              obtain ⟨x', hx'⟩ : ∃ x', aloneM x n t = x' := ⟨_, rfl⟩
              rw [hx'] at hI7 hWr
              clear hI6H hSf hT6 hr6 z0 z1 z2 z3 z4 z5 u0' u1' hb67 hbb hx'
              go_wp2
              go_loopw [12] (fun i wr => ∃ k4 : Nat, k4 ≤ t.wrs.length ∧ i = .int .i64 k4 ∧ Below w7.heap.size w7 wr) (fun i _ => t.wrs.length - (intOf i).toNat)
              case atStart => exact ⟨0, Nat.zero_le _, rfl, Below.refl _ _⟩
              case round =>
                obtain ⟨k4, hk4, rfl, hw8⟩ := hrel
                obtain ⟨wk, rfl⟩ : ∃ wk : World, wk = wr := ⟨_, rfl⟩
                have v3 : wk.cell? ⟨pb, 3, none⟩ = some (.slice B' t.wrs.length cb) := by rw [cell_of_row wk _ _ _ _ _ (obj_later hr7.out hw8)]; rfl
                have hkb2 : k < 60 := hkb
                by_cases hgo : k4 < t.wrs.length ∧ yv = true
                · obtain ⟨hlt4, rfl⟩ := hgo
                  obtain ⟨bw, ow, key, zk, zb, zt, rfl, c0, c1, c2, c3, HR⟩ := (hT7.out.wrs.later hw8).at' hlt4
                  have hkey : key.size ≤ 9223372036854775807 := by have := hT7.out.wk k4 hlt4; rwa [HR.out] at this
                  have hmem : (⟨key, ⟨zk, zb, zt⟩⟩ : Wr) ∈ t.wrs := by
                    rw [← HR.out, List.getD_eq_getElem?_getD, List.getElem?_eq_getElem hlt4]
                    exact List.getElem_mem hlt4
                  have hval := hWr.out rfl _ hmem
                  obtain ⟨v, hv⟩ : ∃ v, getV x'.s key x'.s.last = v := ⟨_, rfl⟩
                  have hG : Hid (Calls Tryz.prog 23 #[.pointer (some ⟨p, 0, none⟩), .string key] wk (Get2Post wk v)) := by
                    have := hI7.out.get (by omega) hw8 hkey
                    rw [hv] at this
                    exact this
                  dsimp only at hval
                  rw [hv] at hval
                  obtain ⟨vn, vv⟩ := v
                  dsimp only at hval
                  subst hval
                  unfold Get2Post at hG
                  dsimp only at hG
                  have hki4 : (k4 : Int) < (t.wrs.length : Int) := by omega
                  have hk04 : (0 : Int) ≤ (k4 : Int) := by omega
                  have hk4H := Lib.hid hlt4
                  have hk4b : k4 < 1000 := by have := hwn.out; omega
                  clear hlt4 hv hkey hmem HR
                  go_wp2_with (go_at_call 23; (with_reducible refine hG.out.mono ?_); rintro e w9 ⟨rfl, hb9⟩; have q3 := keep hb9 v3; have q0 := keep hb9 c0; have q1 := keep hb9 c1; have q2 := keep hb9 c2; have q4 := keep hb9 c3; have r1 := fun o => keep (below1 w9 o) q1; have r2 := fun o => keep (below1 w9 o) q2; have r3 := fun o => keep (below1 w9 o) q3; have r4 := fun o => keep (below1 w9 o) q4)
                  go_quiet (fail)
                  go_wp2
                  go_roundw
                  case rel => exact ⟨k4 + 1, by have := hk4H.out; omega, by go_num, below_drewN (keepB (keepB hw8 hb9) (below1 _ _)) _⟩
                  case measure => have := hk4H.out; simp [intOf]; omega
                · have hE := Lib.hid (hI7.out.later hw8)
                  by_cases hlt4 : k4 < t.wrs.length
                  · have hyf : yv = false := by
                      cases yv
                      · rfl
                      · exact absurd ⟨hlt4, rfl⟩ hgo
                    subst hyf
                    have hki4 : (k4 : Int) < (t.wrs.length : Int) := by omega
                    clear hgo hWr
                    go_wp2
                    go_roundw
                    case rel => exact ⟨k + 1, n1, lab6, x', by have := hkH.out; omega, rfl, by go_num, hE⟩
                    case measure => have := hkH.out; simp [intOf]; omega
                  · have hki4 : ¬ (k4 : Int) < (t.wrs.length : Int) := by omega
                    clear hgo hWr
                    go_wp2
                    go_roundw
                    case rel => exact ⟨k + 1, n1, lab6, x', by have := hkH.out; omega, rfl, by go_num, hE⟩
                    case measure => have := hkH.out; simp [intOf]; omega
    · obtain rfl : k = l.length := by omega
      have hW := Lib.hid HI.out.wait
      have hB := Lib.hid HI.out.b
      clear HI
      go_wp2_with (go_at_call 24; (with_reducible refine hW.out.mono ?_); rintro e w5 ⟨rfl, rfl⟩)
      go_ret
      exact ⟨rfl, hB.out⟩
end Go.Proofs.YtcldpmkhpmlcbaaGreatDoor
