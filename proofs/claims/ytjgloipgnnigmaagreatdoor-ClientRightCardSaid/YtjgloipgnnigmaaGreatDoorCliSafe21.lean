/- The client's safe. -/
import Derived.Test.YtjgloipgnnigmaaGreatDoorJ10
import Derived.Test.YtjgloipgnnigmaaGreatDoorJ9
import Derived.Test.YtjgloipgnnigmaaGreatDoorJ3
import Derived.Deep.RegionHeld3
set_option linter.unusedVariables false
set_option linter.unusedSimpArgs false
namespace Go.Proofs.YtjgloipgnnigmaaGreatDoor
open Go.RowKit Go.Shelf Go.Sort

/-- A method's end that sends and tells events. -/
def HandPost (w : World) (B p : Nat) (K : CliK) (O : Nat → Prop) (x : CliD) (d : List SndD) (ev : List EvD) (e : Ending) (w' : World) : Prop :=
  ∃ v1 l v2, e = .returned (.tuple #[v1, v2]) ∧ SndsAt w' w.heap.size v1 l d ∧ w'.ownsRow w.heap.size 71 11 v2 ev.length (evCells ev) ∧ CliAt w' B p K x (ext O w w') ∧ Out O w w'
theorem safe_low {w : World} {B p : Nat} {K : CliK} {x : CliD} {vr vw va vk : Value} {O : Nat → Prop} (h : CliIn w B p K x vr vw va vk O) (m : MsgV) :
    ∃ w1, (w.setCell ⟨p, 12, none⟩ (.int .u64 (min (x.stamp : Int) (m.st : Int)))).drew = w1 ∧ CliIn w1 B p K (lowS x m) vr vw va vk O ∧ Out O w w1 := by
  have h1 := h.s12 (min x.stamp m.st)
  have e : ((min x.stamp m.st : Nat) : Int) = min (x.stamp : Int) (m.st : Int) := by omega
  rw [e] at h1
  exact ⟨_, rfl, h1.later (below_drew (Below.refl _ _)), (out_p h.hp (Out.refl _ _)).trans' (Out.of_below (below_drew (Below.refl _ _)))⟩
theorem rd_lit (c : Cfg) (y : CliD) (g : Nat) (key : ByteArray) (st : Nat) (hk : key ≠ noStr) : (sentX c (wantD y g key st) (askD y g key st)).vs = #[.int .i64 (placeZ c (g : Int) ((y.turn % repN c g : Nat) : Int)), .int .i64 12, .int .u32 0, .int .i64 0, .int .i64 0, .bool false, .int .u32 0, .int .i64 0, .int .i64 0, .int .i64 0, .int .i64 0, .slice none 0 0, .slice none 0 0, .int .i64 0, .int .i64 0, .int .i64 0, .int .u64 0, .bool false, .int .i64 0, .int .i64 0, .slice none 0 0, .slice none 0 0, .int .i64 0, .int .i64 0, .int .i64 0, .int .u64 (st : Int), .bool false, .int .i64 ((y.num + 1 : Nat) : Int), .string key, .int .u64 0, .int .i64 0, .int .u64 0, .string ⟨#[]⟩, .int .i64 0, .slice none 0 0] := by
  have e : (askD y g key st).key = key := rfl
  rw [sentX, e, if_neg hk]
  rfl
def fK (c : Cfg) (st : Nat) (k : ByteArray) : Nat × ByteArray × Nat := (homeN c k, k, st)
def ev3 (ses : Int) (k : ByteArray) : EvD := ⟨3, ses, 0, k, noVal, 0, false, 0, 0⟩
def EvSt (w : World) (base : Nat) (v : Value) (d : List EvD) : Prop := w.ownsRow base 71 11 v d.length (evCells d)
section
variable {w : World} {B p : Nat} {K : CliK} {x : CliD} {O : Nat → Prop}
set_option maxRecDepth 100000 in
set_option maxHeartbeats 4000000 in
/-- Where more is asked. -/
theorem safe_more (h : CliAt w B p K x O) (hB : B ≤ w.heap.size) (m : MsgV) (hK : safeK (lowS x m) = 0) :
    Calls Tryz.prog 50 #[.pointer (some ⟨p, 0, none⟩), .agg m.vs] w (HandPost w B p K O (safeD K.c (lowS x m)) (safeL K.c (lowS x m)) (safeEv K.ses (lowS x m))) := by
  have hlt := Lib.hid h.lt'
  obtain ⟨W, eW, HB, hszW, hrW⟩ := boxed w m.vs 43
  obtain ⟨c0, c1, c2, c3, c4, c5, c6, c7, c8, c9, c10, c11, c12, c13, c14, c15, c16, c17, c18, c19, c20, c21, c22, c23, c24, c25, c26, c27, c28, c29, c30, c31, c32, c33⟩ := msg_cs hrW
  clear c0 c1 c2 c3 c4 c5 c6 c7 c8 c9 c10 c11 c12 c13 c14 c15 c16 c17 c18 c19 c20 c21 c22 c23 c25 c26 c27 c28 c29 c30 c31 c32 c33 hrW
  obtain ⟨vr, vw, va, vk, hW⟩ := h.later HB
  obtain ⟨_, _, _, _, _, _, _, _, _, _, _, _, d12⟩ := hW.cs
  have f12 := hW.fz 12
  obtain ⟨w1, ew1, h1, ho1⟩ := safe_low hW m
  have how := Lib.hid ((Out.of_below HB).trans' ho1)
  obtain ⟨y, hy⟩ : ∃ y, lowS x m = y := ⟨_, rfl⟩
  rw [hy] at hK h1 ⊢
  have ha : 0 < y.asks.length := by
    unfold safeK at hK
    split at hK
    · assumption
    · split at hK; · cases hK
      split at hK <;> cases hK
  have q1 : decide ((0 : Int) < (y.asks.length : Int)) = true := by rw [decide_eq_true_iff]; omega
  have q1b : decide (0 < y.asks.length) = true := by rw [decide_eq_true_iff]; omega
  have HE : Hid (safeD K.c y = y ∧ safeL K.c y = [] ∧ safeEv K.ses y = []) := by show _ ∧ _ ∧ _; simp [safeD, safeL, safeEv, hK]
  obtain ⟨d0, d1, d2, _, _, _, _, d7, _, _, d10, d11, d12b⟩ := h1.cs
  obtain ⟨A10, k10, e10, _⟩ := own_asks h1.rowa
  obtain ⟨A11, k11, e11, _, hA11⟩ := own_strs h1.rowk
  subst e10 e11
  have H1 := Lib.hid h1
  clear hK ha h1 hA11
  go_enter Tryz.func50, Tryz.ntmps50
  go_wp2_with fail
  go_region
  try rw [ew1]
  go_wp2
  go_ret2
  rw [HE.out.1, HE.out.2.1, HE.out.2.2]
  have hs := how.out.size
  exact ⟨_, [], _, rfl, SndsAt.nil _ _, own_nil _ _ _ _, ⟨_, _, _, _, H1.out.mono (fun k hk => .inl hk) (fun k hk => hk.elim (H1.out.lt k) (fun q => ⟨by omega, q.2⟩))⟩, how.out⟩
set_option maxRecDepth 100000 in
set_option maxHeartbeats 4000000 in
/-- Where it is behind. -/
theorem safe_behind (h : CliAt w B p K x O) (hB : B ≤ w.heap.size) (m : MsgV) (hK : safeK (lowS x m) = 1) :
    Calls Tryz.prog 50 #[.pointer (some ⟨p, 0, none⟩), .agg m.vs] w (HandPost w B p K O (safeD K.c (lowS x m)) (safeL K.c (lowS x m)) (safeEv K.ses (lowS x m))) := by
  have hlt := Lib.hid h.lt'
  obtain ⟨W, eW, HB, hszW, hrW⟩ := boxed w m.vs 43
  obtain ⟨c0, c1, c2, c3, c4, c5, c6, c7, c8, c9, c10, c11, c12, c13, c14, c15, c16, c17, c18, c19, c20, c21, c22, c23, c24, c25, c26, c27, c28, c29, c30, c31, c32, c33⟩ := msg_cs hrW
  clear c0 c1 c2 c3 c4 c5 c6 c7 c8 c9 c10 c11 c12 c13 c14 c15 c16 c17 c18 c19 c20 c21 c22 c23 c25 c26 c27 c28 c29 c30 c31 c32 c33 hrW
  obtain ⟨vr, vw, va, vk, hW⟩ := h.later HB
  obtain ⟨_, _, _, _, _, _, _, _, _, _, _, _, d12⟩ := hW.cs
  have f12 := hW.fz 12
  obtain ⟨w1, ew1, h1, ho1⟩ := safe_low hW m
  have how := Lib.hid ((Out.of_below HB).trans' ho1)
  obtain ⟨y, hy⟩ : ∃ y, lowS x m = y := ⟨_, rfl⟩
  rw [hy] at hK h1 ⊢
  have ha : ¬ 0 < y.asks.length ∧ y.stamp < y.floor := by
    unfold safeK at hK
    split at hK
    · cases hK
    · split at hK
      · exact ⟨by assumption, by assumption⟩
      · split at hK <;> cases hK
  have q1 : decide ((0 : Int) < (y.asks.length : Int)) = false := by rw [decide_eq_false_iff_not]; omega
  have q1b : decide (0 < y.asks.length) = false := by rw [decide_eq_false_iff_not]; omega
  have q2 : decide ((y.stamp : Int) < (y.floor : Int)) = true := by rw [decide_eq_true_iff]; omega
  have q2b : decide (y.stamp < y.floor) = true := by rw [decide_eq_true_iff]; omega
  have HE : Hid (safeD K.c y = restD y ∧ safeL K.c y = [] ∧ safeEv K.ses y = [overEv K.ses y 10]) := by show _ ∧ _ ∧ _; simp [safeD, safeL, safeEv, hK]
  obtain ⟨d0, d1, d2, _, _, _, _, d7, _, _, d10, d11, d12b⟩ := h1.cs
  obtain ⟨A10, k10, e10, _⟩ := own_asks h1.rowa
  obtain ⟨A11, k11, e11, _, hA11⟩ := own_strs h1.rowk
  subst e10 e11
  have H1 := Lib.hid h1
  clear hK ha h1 hA11
  go_enter Tryz.func50, Tryz.ntmps50
  go_wp2_with fail
  go_region
  try rw [ew1]
  go_wp2
  go_quiet (fail)
  have hbq : Below w1.heap.size w1 (w1.drewN nq) := below_drewN (Below.refl _ _) _
  have hB1 : B ≤ w1.heap.size := Nat.le_trans hB how.out.size
  have hOv := Lib.hid (over_any (⟨_, _, _, _, H1.out.later hbq⟩ : CliAt (w1.drewN nq) B p K y O) (Nat.le_trans hB1 hbq.size) 10)
  replace hbq := Lib.hid hbq
  go_wp2_with (first
    | (go_at_call 105; refine hOv.out.mono ?_; rintro e w4 ⟨rfl, hA4, ho4⟩; replace hA4 := Lib.hid hA4; replace ho4 := Lib.hid ho4)
    | (refine wpList_buildSlice1 rfl 55 71 _ rfl (overEv K.ses y 10).vs rfl _ Tryz.underlying55 info_ev (by rw [ev_size]; omega) (by rw [ev_size]; omega) (zero_ev _) ?_; obtain ⟨w6, e6, hb6, hs6, hr6⟩ := boxed w4 (overEv K.ses y 10).vs 71; rw [e6]))
  go_ret2
  rw [HE.out.1, HE.out.2.1, HE.out.2.2]
  have s1 := how.out.size
  have s2 := hbq.out.size
  have s3 := ho4.out.size
  have hO6 : w6.ownsRow w.heap.size 71 11 (.slice (some ⟨w4.heap.size, 0, none⟩) 1 1) 1 (evCells [overEv K.ses y 10]) := by
    have := own_one (base := w.heap.size) hr6 (ev_size _) (by omega)
    simpa [evCells] using this
  refine ⟨_, [], _, rfl, SndsAt.nil _ _, hO6, ?_, ((how.out.trans' (Out.of_below hbq.out)).trans' ho4.out).trans' (Out.of_below hb6)⟩
  exact CliAt.wide hA4.out (by omega) s3 hb6 hlt.out hB
set_option maxRecDepth 100000 in
set_option maxHeartbeats 8000000 in
/-- Where it reads. -/
theorem safe_read {N : Nat} (h : CliAt w B p K x O) (hB : B ≤ w.heap.size) (hC : ∀ w', Below B w w' → CfgAt w' K.c K.A K.B) (hf : formedB K.c = true) (hca : K.c.reps.length ≤ K.ca) (hI : CliInv K.c N x) (hN : N ≤ 100000) (hks : ∀ k ∈ x.keys, k.size ≤ 9223372036854775807) (m : MsgV) (hK : safeK (lowS x m) = 2) :
    Calls Tryz.prog 50 #[.pointer (some ⟨p, 0, none⟩), .agg m.vs] w (HandPost w B p K O (safeD K.c (lowS x m)) (safeL K.c (lowS x m)) (safeEv K.ses (lowS x m))) := by
  have hlt := Lib.hid h.lt'
  obtain ⟨W, eW, HB, hszW, hrW⟩ := boxed w m.vs 43
  obtain ⟨c0, c1, c2, c3, c4, c5, c6, c7, c8, c9, c10, c11, c12, c13, c14, c15, c16, c17, c18, c19, c20, c21, c22, c23, c24, c25, c26, c27, c28, c29, c30, c31, c32, c33⟩ := msg_cs hrW
  clear c0 c1 c2 c3 c4 c5 c6 c7 c8 c9 c10 c11 c12 c13 c14 c15 c16 c17 c18 c19 c20 c21 c22 c23 c25 c26 c27 c28 c29 c30 c31 c32 c33 hrW
  obtain ⟨vr, vw, va, vk, hW⟩ := h.later HB
  obtain ⟨_, _, _, _, _, _, _, _, _, _, _, _, d12⟩ := hW.cs
  have f12 := hW.fz 12
  obtain ⟨w1, ew1, h1, ho1⟩ := safe_low hW m
  have how := Lib.hid ((Out.of_below HB).trans' ho1)
  have hyk : (lowS x m).keys = x.keys ∧ (lowS x m).num = x.num ∧ (lowS x m).turn = x.turn := ⟨rfl, rfl, rfl⟩
  obtain ⟨y, hy⟩ : ∃ y, lowS x m = y := ⟨_, rfl⟩
  rw [hy] at hK h1 hyk ⊢
  have ha : y.asks.length = 0 ∧ ¬ y.stamp < y.floor ∧ 0 < y.stamp := by
    unfold safeK at hK
    split at hK
    · cases hK
    · split at hK
      · cases hK
      · split at hK
        · exact ⟨by omega, by assumption, by assumption⟩
        · cases hK
  have q1 : decide ((0 : Int) < (y.asks.length : Int)) = false := by rw [decide_eq_false_iff_not]; omega
  have q1b : decide (0 < y.asks.length) = false := by rw [decide_eq_false_iff_not]; omega
  have q2 : decide ((y.stamp : Int) < (y.floor : Int)) = false := by rw [decide_eq_false_iff_not]; omega
  have q2b : decide (y.stamp < y.floor) = false := by rw [decide_eq_false_iff_not]; omega
  have HE : Hid (safeD K.c y = wantsD y (y.keys.map (fK K.c y.stamp)) ∧ safeL K.c y = wantsL K.c y (y.keys.map (fK K.c y.stamp)) ∧ safeEv K.ses y = []) := by show _ ∧ _ ∧ _; rw [safeD, safeL, safeEv, hK]; exact ⟨rfl, rfl, rfl⟩
  have q3 : decide ((0 : Int) < (y.stamp : Int)) = true := by rw [decide_eq_true_iff]; omega
  have q3b : decide (0 < y.stamp) = true := by rw [decide_eq_true_iff]; omega
  have q4 : ((y.stamp : Int) == 0) = false := by rw [beq_eq_false_iff_ne]; omega
  have hkn : Hid (y.keys.length ≤ 6) := by show _ ≤ _; rw [hyk.1]; exact hI.kn
  have hkk : Hid (∀ k, k < y.keys.length → keyB (y.keys.getD k noStr) = true ∧ (y.keys.getD k noStr).size ≤ 9223372036854775807) := fun k hk => by
    have := getD_mem (d := noStr) hk
    rw [hyk.1] at this ⊢
    exact ⟨hI.ky _ this, hks _ this⟩
  have hnum : Hid (y.num ≤ 100000 ∧ y.asks.length = 0 ∧ y.turn < 60) := by show _ ∧ _ ∧ _; rw [hyk.2.1, hyk.2.2]; exact ⟨Nat.le_trans hI.nm hN, ha.1, hI.tn⟩
  obtain ⟨d0, d1, d2, _, _, _, _, d7, _, _, d10, d11, d12b⟩ := h1.cs
  obtain ⟨A10, k10, e10, _⟩ := own_asks h1.rowa
  obtain ⟨A11, k11, e11, _, hA11⟩ := own_strs h1.rowk
  subst e10 e11
  have HV1 : CliV w1 B p K y (.slice A11 y.keys.length k11) O := ⟨_, _, _, h1⟩
  replace HV1 := Lib.hid HV1
  have hf0 := Lib.hid hf
  have hp0 := Lib.hid h1.hp
  obtain ⟨st, hst⟩ : ∃ st, y.stamp = st := ⟨_, rfl⟩
  rw [hst] at q2 q2b q3 q3b q4 d12b HE
  replace hst := Lib.hid hst
  obtain ⟨i0, hi, hz0, hz1, hz2⟩ := info_parts info_snd3
  clear hK ha h1 hA11 hI hyk hf hks
  go_enter Tryz.func50, Tryz.ntmps50
  go_wp2_with fail
  go_region
  try rw [ew1]
  go_wp2
  go_quiet (fail)
  have hbq : Below w1.heap.size w1 (w1.drewN nq) := below_drewN (Below.refl _ _) _
  have hB1 : B ≤ w1.heap.size := Nat.le_trans hB how.out.size
  obtain ⟨w2, ew2⟩ : ∃ w2, w1.drewN nq = w2 := ⟨_, rfl⟩
  rw [ew2] at hbq
  try rw [ew2]
  have HV2 := Lib.hid (CliV.later HV1.out hbq)
  have how2 := Lib.hid (how.out.trans' (Out.of_below hbq))
  have e11 := keep hbq d11
  go_wp2
  clear ew2
  go_loopw [6, 7, 43] (fun v ev i wr => ∃ k : Nat, k ≤ y.keys.length ∧ i = .int .i64 k ∧ ev = .slice none 0 0 ∧ Hid (WantSt w2 wr B p K O (.slice A11 y.keys.length k11) (wantsD y ((y.keys.take k).map (fK K.c st))) v (wantsL K.c y ((y.keys.take k).map (fK K.c st))) k)) (fun _ _ i _ => y.keys.length - (intOf i).toNat)
  case atStart => exact ⟨0, Nat.zero_le _, rfl, rfl, WantSt.start HV2.out⟩
  case round =>
    obtain ⟨k, hk, rfl, rfl, HS⟩ := hrel
    have hk6 : k ≤ 6 := by have := hkn.out; omega
    obtain ⟨_, _, _, hD⟩ := WantSt.done HS.out how2.out (O := O) (fun k hk => .inl hk) hB hlt.out
    have hbw := Lib.hid (hD.below hB (fun k hk => (hlt.out k hk).1))
    have hBr := Lib.hid (Nat.le_trans hB hD.size)
    by_cases hltk : k < y.keys.length
    · obtain ⟨key, hkey⟩ : ∃ key, y.keys.getD k noStr = key := ⟨_, rfl⟩
      obtain ⟨HN1, HN2⟩ := wants_take (fK K.c st) K.c y hltk hkey
      have hkk1 := hkk.out k hltk
      rw [hkey] at hkk1
      obtain ⟨n1, n2, n3⟩ := wantsD_nums ((y.keys.take k).map (fK K.c st)) y
      obtain ⟨n5, n6⟩ : (wantsD y ((y.keys.take k).map (fK K.c st))).stamp = st ∧ (wantsD y ((y.keys.take k).map (fK K.c st))).keys = y.keys := by
        obtain ⟨_, _, _, _, _, _, a7, a8, _, _⟩ := wantsD_state ((y.keys.take k).map (fK K.c st)) y
        exact ⟨a8.trans hst.out, a7⟩
      obtain ⟨y2, hy2⟩ : ∃ y2, wantsD y ((y.keys.take k).map (fK K.c st)) = y2 := ⟨_, rfl⟩
      obtain ⟨dl, hdl⟩ : ∃ dl, wantsL K.c y ((y.keys.take k).map (fK K.c st)) = dl := ⟨_, rfl⟩
      rw [hy2] at HN1 HN2 n1 n2 n3 n5 n6
      rw [hdl] at HN2
      rw [hy2, hdl] at HS
      rw [List.length_map, List.length_take, Nat.min_eq_left (by omega)] at n1 n2
      clear hy2 hdl
      obtain ⟨g, hg⟩ : ∃ g, homeN K.c key = g := ⟨_, rfl⟩
      have hgl : g < K.c.reps.length := by rw [← hg]; have h1 := formed_len hf0.out; have h2 := leTo_le K.c.bnds key K.c.bnds.length; show leTo _ _ _ < _; omega
      have hz : Hid (homeZ K.c key = ((g : Nat) : Int)) := by show _ = _; rw [homeZ, if_pos hf0.out, hg]
      replace HN1 : Hid (wantsD y ((y.keys.take (k + 1)).map (fK K.c st)) = wantD y2 g key st) := by show _ = _; rw [HN1, fK, hg]
      replace HN2 : Hid (wantsL K.c y ((y.keys.take (k + 1)).map (fK K.c st)) = dl ++ [sentD K.c y2 (askD y2 g key st)]) := by show _ = _; rw [HN2, fK, hg]
      obtain ⟨Ok, l, hAk, hsub, hown, hsi, hsm, hsn, hap, hout⟩ := HS.out
      have hKr := (CliV.keys hAk).1
      rw [n6] at hKr
      obtain ⟨gb, goff, key2, e11b, gc, GX⟩ := StrsAt.at' hKr hltk
      obtain rfl : key2 = key := GX.out.symm.trans hkey
      obtain ⟨A3, k3, rfl⟩ := own_form hown
      have hT1 : y2.turn < 60 := by rw [n3]; exact hnum.out.2.2
      have hT2 : y2.num ≤ 1000000 := by rw [n1]; have := hnum.out.1; omega
      have hT3 : y2.asks.length ≤ 100 := by rw [n2, hnum.out.2.1]; omega
      have hne : key2 ≠ noStr := key_ne hkk1.1
      have hCr : Hid (∀ w', Below wr.heap.size wr w' → CfgAt w' K.c K.A K.B) := fun w' hb => hC w' (hbw.out.trans (hb.mono hBr.out))
      have hcs : wr.cell? ⟨p, 0, none⟩ = some (.slice K.A K.c.reps.length K.ca) ∧ wr.cell? ⟨p, 1, none⟩ = some (.slice K.B K.c.bnds.length K.cb) ∧ wr.cell? ⟨p, 12, none⟩ = some (.int .u64 (st : Int)) ∧ Ok p := by
        obtain ⟨_, _, _, hi⟩ := hAk
        obtain ⟨x0, x1, _, _, _, _, _, _, _, _, _, _, x12⟩ := hi.cs
        rw [n5] at x12
        exact ⟨x0, x1, x12, hi.hp⟩
      obtain ⟨x0, x1, x12, hpk⟩ := hcs
      have hWant : Hid (∀ wz, Below wr.heap.size wr wz → Calls Tryz.prog 39 #[.pointer (some ⟨p, 0, none⟩), .int .i64 (g : Int), .string key2, .int .u64 (st : Int)] wz fun e w' => e = .returned (.agg #[.int .i64 (placeZ K.c (g : Int) ((y2.turn % repN K.c g : Nat) : Int)), .int .i64 12, .int .u32 0, .int .i64 0, .int .i64 0, .bool false, .int .u32 0, .int .i64 0, .int .i64 0, .int .i64 0, .int .i64 0, .slice none 0 0, .slice none 0 0, .int .i64 0, .int .i64 0, .int .i64 0, .int .u64 0, .bool false, .int .i64 0, .int .i64 0, .slice none 0 0, .slice none 0 0, .int .i64 0, .int .i64 0, .int .i64 0, .int .u64 (st : Int), .bool false, .int .i64 ((y2.num + 1 : Nat) : Int), .string key2, .int .u64 0, .int .i64 0, .int .u64 0, .string ⟨#[]⟩, .int .i64 0, .slice none 0 0]) ∧ CliV w' B p K (wantD y2 g key2 st) (.slice A11 y.keys.length k11) (ext Ok wz w') ∧ Out Ok wz w' ∧ w'.cell? ⟨p, 0, none⟩ = some (.slice K.A K.c.reps.length K.ca) ∧ w'.cell? ⟨p, 1, none⟩ = some (.slice K.B K.c.bnds.length K.cb) ∧ w'.cell? ⟨p, 12, none⟩ = some (.int .u64 (st : Int))) := fun wz hb => by
        have h1 := want_v (hAk.later hb) (Nat.le_trans hBr.out hb.size) (fun w' hb' => hC w' ((hbw.out.trans (hb.mono hBr.out)).trans hb')) hf0.out hca hT1 g key2 st hgl hT2 hT3
        rw [rd_lit _ _ _ _ _ hne] at h1
        refine h1.mono fun e w' hh => ?_
        obtain ⟨h2, h3, h4⟩ := hh
        refine ⟨h2, h3, h4, ?_⟩
        obtain ⟨_, _, _, hi⟩ := h3
        obtain ⟨x0, x1, _, _, _, _, _, _, _, _, _, _, x12⟩ := hi.cs
        exact ⟨x0, x1, by rw [show (wantD y2 g key2 st).stamp = st from n5] at x12; exact x12⟩
      have hmx : Hid (l.length ≤ 6) := by show _ ≤ _; omega
      have hml : Hid (l.length + 1 ≤ maxLen) := le_maxLen (by have := hmx.out; omega)
      have hmb : Hid ((l.length + 1) * 376 ≤ 140737488355328) := by have := hmx.out; show _ ≤ _; omega
      obtain ⟨sv, hsv⟩ : ∃ sv, sentX K.c (wantD y2 g key2 st) (askD y2 g key2 st) = sv := ⟨_, rfl⟩
      have hsvi : Hid (SndIs sv (sentD K.c y2 (askD y2 g key2 st)) ∧ ∀ wz, MsgAt wz sv.m) := by
        show _ ∧ _
        rw [← hsv]
        exact ⟨sentX_is K.c _ _, fun wz => sentX_lies K.c _ _ wz hkk1.2⟩
      have hlit : Hid (sv.vs.toList = [.int .i64 (placeZ K.c (g : Int) ((y2.turn % repN K.c g : Nat) : Int)), .int .i64 12, .int .u32 0, .int .i64 0, .int .i64 0, .bool false, .int .u32 0, .int .i64 0, .int .i64 0, .int .i64 0, .int .i64 0, .slice none 0 0, .slice none 0 0, .int .i64 0, .int .i64 0, .int .i64 0, .int .u64 0, .bool false, .int .i64 0, .int .i64 0, .slice none 0 0, .slice none 0 0, .int .i64 0, .int .i64 0, .int .i64 0, .int .u64 (st : Int), .bool false, .int .i64 ((y2.num + 1 : Nat) : Int), .string key2, .int .u64 0, .int .i64 0, .int .u64 0, .string ⟨#[]⟩, .int .i64 0, .slice none 0 0]) := by show _ = _; rw [← hsv, rd_lit _ _ _ _ _ hne]
      have hone : Hid (∀ u ∈ ([.int .i64 (placeZ K.c (g : Int) ((y2.turn % repN K.c g : Nat) : Int)), .int .i64 12, .int .u32 0, .int .i64 0, .int .i64 0, .bool false, .int .u32 0, .int .i64 0, .int .i64 0, .int .i64 0, .int .i64 0, .slice none 0 0, .slice none 0 0, .int .i64 0, .int .i64 0, .int .i64 0, .int .u64 0, .bool false, .int .i64 0, .int .i64 0, .slice none 0 0, .slice none 0 0, .int .i64 0, .int .i64 0, .int .i64 0, .int .u64 (st : Int), .bool false, .int .i64 ((y2.num + 1 : Nat) : Int), .string key2, .int .u64 0, .int .i64 0, .int .u64 0, .string ⟨#[]⟩, .int .i64 0, .slice none 0 0] : List Value), u.oneCell' = true) := by
        intro u hu
        rw [← hlit.out] at hu
        exact one_cell_snd sv u hu
      have hgp : Hid (some p ≠ (Value.slice A3 l.length k3).ownBlock) := fun e => hap p e.symm hpk
      replace hsi := Lib.hid hsi
      replace hsm := Lib.hid hsm
      replace hsn := Lib.hid hsn
      replace hap := Lib.hid hap
      replace hout := Lib.hid hout
      replace hsub := Lib.hid hsub
      replace hAk := Lib.hid hAk
      have hbase : Hid (w2.heap.size ≤ wr.heap.size) := hout.out.size
      clear n1 n2 n3 n5 n6 hT1 hT2 hT3 GX hD hkey hKr hne hsv hkk1 hpk
      subst e11b
      go_wp2
      go_region_held3 (fun w' => w'.cell? ⟨p, 0, none⟩ = some (.slice K.A K.c.reps.length K.ca) ∧ w'.cell? ⟨p, 1, none⟩ = some (.slice K.B K.c.bnds.length K.cb) ∧ w'.cell? ⟨p, 12, none⟩ = some (.int .u64 (st : Int)))
        (first | exact ⟨x0, x1, x12⟩ | (with_reducible exact ⟨keep hbH x0, keep hbH x1, keep hbH x12⟩) | (with_reducible exact ⟨z0, z1, z12⟩) | (with_reducible exact ⟨keep (below1 _ _) z0, keep (below1 _ _) z1, keep (below1 _ _) z12⟩) | (with_reducible exact ⟨keep (below_drew (below1 _ _)) z0, keep (below_drew (below1 _ _)) z1, keep (below_drew (below1 _ _)) z12⟩) | (with_reducible exact ⟨r0, r1, r12⟩))
        (first
          | (go_at_call 40; refine (calls_int hz.out (home_any K.c key2 K.A K.B K.ca K.cb _ (hCr.out _ (below_drew (Below.refl _ _))))).mono ?_; rintro e wH ⟨rfl, hbH0⟩; have hbH : Below wr.heap.size wr wH := keepB (below_drew (Below.refl _ _)) hbH0)
          | (go_at_call 39; refine (hWant.out _ hbH).mono ?_; rintro e w4 ⟨rfl, hA4, ho4, z0, z1, z12⟩; have hown4 := Lib.hid (ho4.row (own_keep hown hbH) hap.out); replace hA4 := Lib.hid hA4; have hsz4 := Nat.le_trans hbase.out (Nat.le_trans hbH.size ho4.size); replace ho4 := Lib.hid ho4)
          | (refine ready_append_own_at rfl _ _ 50 rfl w2.heap.size 81 i0 _ 35 376 Tryz.underlying50 hi hz0 hz1 hz2 rfl (Nat.succ_pos 34) (.slice A3 l.length k3) l.length (sndCells l) rfl (own_keep hown4.out (below1 w4 _)) ⟨w4.heap.size, 0, none⟩ 1 1 [.int .i64 (placeZ K.c (g : Int) ((y2.turn % repN K.c g : Nat) : Int)), .int .i64 12, .int .u32 0, .int .i64 0, .int .i64 0, .bool false, .int .u32 0, .int .i64 0, .int .i64 0, .int .i64 0, .int .i64 0, .slice none 0 0, .slice none 0 0, .int .i64 0, .int .i64 0, .int .i64 0, .int .u64 0, .bool false, .int .i64 0, .int .i64 0, .slice none 0 0, .slice none 0 0, .int .i64 0, .int .i64 0, .int .i64 0, .int .u64 (st : Int), .bool false, .int .i64 ((y2.num + 1 : Nat) : Int), .string key2, .int .u64 0, .int .i64 0, .int .u64 0, .string ⟨#[]⟩, .int .i64 0, .slice none 0 0] rfl rfl (World.news_of_block (heap_alloc_new w4 _)) hone.out hml.out hmb.out (Nat.le_trans hsz4 (below1 w4 _).size) ?_; intro v7 w7 HO7 hg7 hv7; obtain ⟨r0, r1, r12⟩ := (⟨hg7.cell (keep (below1 w4 _) z0) hgp.out, hg7.cell (keep (below1 w4 _) z1) hgp.out, hg7.cell (keep (below1 w4 _) z12) hgp.out⟩ : w7.cell? ⟨p, 0, none⟩ = some (.slice K.A K.c.reps.length K.ca) ∧ w7.cell? ⟨p, 1, none⟩ = some (.slice K.B K.c.bnds.length K.cb) ∧ w7.cell? ⟨p, 12, none⟩ = some (.int .u64 (st : Int))); have hS7 := Lib.hid (WantSt.step (CliV.later hAk.out hbH) hsub.out (own_keep hown hbH) hsi.out hsm.out hsn.out hap.out (hout.out.trans' (Out.of_below hbH)) hA4.out ho4.out (below1 w4 _) hsvi.out.1 hsvi.out.2 (hlit.out ▸ HO7) hg7 hv7); clear HO7 hg7 hv7))
      all_goals
        go_wp2
        go_roundw
        case rel => exact ⟨k + 1, hltk, by go_num, rfl, by show WantSt _ _ _ _ _ _ _ _ _ _ _; rw [HN1.out, HN2.out]; exact hS7.out⟩
        case measure => simp [intOf]; omega
    · have ek : k = y.keys.length := by omega
      have HS3 : Hid (WantSt w2 wr B p K O (.slice A11 y.keys.length k11) (wantsD y (y.keys.map (fK K.c st))) u6 (wantsL K.c y (y.keys.map (fK K.c st))) k) := by
        have := HS.out
        rw [ek, List.take_length] at this
        rw [ek]
        exact this
      have hcs : wr.cell? ⟨p, 12, none⟩ = some (.int .u64 (st : Int)) := by
        obtain ⟨Ok, l, ⟨_, _, _, hi⟩, _⟩ := HS3.out
        obtain ⟨_, _, _, _, _, _, _, _, _, _, _, _, x12⟩ := hi.cs
        obtain ⟨_, _, _, _, _, _, a7, a8, _, _⟩ := wantsD_state (y.keys.map (fK K.c st)) y
        rw [a8, hst.out] at x12
        exact x12
      clear ek HS hD
      go_wp2
      go_ret2
      obtain ⟨l, f1, f2, f3⟩ := WantSt.done HS3.out how2.out (O := O) (fun k hk => .inl hk) hB hlt.out
      rw [HE.out.1, HE.out.2.1, HE.out.2.2]
      exact ⟨_, l, _, rfl, f1, own_nil _ _ _ _, f2, f3⟩
set_option maxRecDepth 100000 in
set_option maxHeartbeats 8000000 in
/-- Where all is nothing. -/
theorem safe_all {N : Nat} (h : CliAt w B p K x O) (hB : B ≤ w.heap.size) (hI : CliInv K.c N x) (m : MsgV) (hK : safeK (lowS x m) = 3) :
    Calls Tryz.prog 50 #[.pointer (some ⟨p, 0, none⟩), .agg m.vs] w (HandPost w B p K O (safeD K.c (lowS x m)) (safeL K.c (lowS x m)) (safeEv K.ses (lowS x m))) := by
  have hlt := Lib.hid h.lt'
  obtain ⟨W, eW, HB, hszW, hrW⟩ := boxed w m.vs 43
  obtain ⟨c0, c1, c2, c3, c4, c5, c6, c7, c8, c9, c10, c11, c12, c13, c14, c15, c16, c17, c18, c19, c20, c21, c22, c23, c24, c25, c26, c27, c28, c29, c30, c31, c32, c33⟩ := msg_cs hrW
  clear c0 c1 c2 c3 c4 c5 c6 c7 c8 c9 c10 c11 c12 c13 c14 c15 c16 c17 c18 c19 c20 c21 c22 c23 c25 c26 c27 c28 c29 c30 c31 c32 c33 hrW
  obtain ⟨vr, vw, va, vk, hW⟩ := h.later HB
  obtain ⟨_, _, _, _, _, _, _, _, _, _, _, _, d12⟩ := hW.cs
  have f12 := hW.fz 12
  obtain ⟨w1, ew1, h1, ho1⟩ := safe_low hW m
  have how := Lib.hid ((Out.of_below HB).trans' ho1)
  have hyk : (lowS x m).keys = x.keys := rfl
  obtain ⟨y, hy⟩ : ∃ y, lowS x m = y := ⟨_, rfl⟩
  rw [hy] at hK h1 hyk ⊢
  have ha : y.asks.length = 0 ∧ ¬ y.stamp < y.floor ∧ y.stamp = 0 := by
    unfold safeK at hK
    split at hK
    · cases hK
    · split at hK
      · cases hK
      · split at hK
        · cases hK
        · exact ⟨by omega, by assumption, by omega⟩
  have q1 : decide ((0 : Int) < (y.asks.length : Int)) = false := by rw [decide_eq_false_iff_not]; omega
  have q1b : decide (0 < y.asks.length) = false := by rw [decide_eq_false_iff_not]; omega
  have q2 : decide ((y.stamp : Int) < (y.floor : Int)) = false := by rw [decide_eq_false_iff_not]; omega
  have q2b : decide (y.stamp < y.floor) = false := by rw [decide_eq_false_iff_not]; omega
  have HE : Hid (safeD K.c y = restD y ∧ safeL K.c y = [] ∧ safeEv K.ses y = y.keys.map (ev3 K.ses) ++ [overEv K.ses y 0]) := by show _ ∧ _ ∧ _; rw [safeD, safeL, safeEv, hK]; exact ⟨rfl, rfl, rfl⟩
  have q3 : decide ((0 : Int) < (y.stamp : Int)) = false := by rw [decide_eq_false_iff_not]; omega
  have q3b : decide (0 < y.stamp) = false := by rw [decide_eq_false_iff_not]; omega
  have q4 : ((y.stamp : Int) == 0) = true := by rw [beq_iff_eq]; omega
  have q4b : decide (y.stamp = 0) = true := by rw [decide_eq_true_iff]; omega
  have hkn : Hid (y.keys.length ≤ 6) := by show _ ≤ _; rw [hyk]; exact hI.kn
  obtain ⟨d0, d1, d2, _, _, _, _, d7, _, _, d10, d11, d12b⟩ := h1.cs
  obtain ⟨A10, k10, e10, _⟩ := own_asks h1.rowa
  obtain ⟨A11, k11, e11, _, hA11⟩ := own_strs h1.rowk
  subst e10 e11
  have HV1 : CliV w1 B p K y (.slice A11 y.keys.length k11) O := ⟨_, _, _, h1⟩
  replace HV1 := Lib.hid HV1
  obtain ⟨i0, hi, hz0, hz1, hz2⟩ := info_parts info_ev3
  clear hK ha h1 hI hyk
  go_enter Tryz.func50, Tryz.ntmps50
  go_wp2_with fail
  go_region
  try rw [ew1]
  go_wp2
  go_quiet (fail)
  have hbq : Below w1.heap.size w1 (w1.drewN nq) := below_drewN (Below.refl _ _) _
  have hB1 : B ≤ w1.heap.size := Nat.le_trans hB how.out.size
  obtain ⟨w2, ew2⟩ : ∃ w2, w1.drewN nq = w2 := ⟨_, rfl⟩
  rw [ew2] at hbq
  try rw [ew2]
  have HV2 := Lib.hid (CliV.later HV1.out hbq)
  have how2 := Lib.hid (how.out.trans' (Out.of_below hbq))
  replace d11 := keep hbq d11
  replace d2 := keep hbq d2
  replace d12b := keep hbq d12b
  replace hA11 := CellsAt.later hA11 hbq
  replace d0 := keep hbq d0
  go_wp2
  clear ew2
  go_loopw [6, 7, 43] (fun v ev i wr => ∃ k : Nat, k ≤ y.keys.length ∧ i = .int .i64 k ∧ v = .slice none 0 0 ∧ Hid (EvSt wr w2.heap.size ev ((y.keys.take k).map (ev3 K.ses))) ∧ Below w2.heap.size w2 wr) (fun _ _ i _ => y.keys.length - (intOf i).toNat)
  case atStart => exact ⟨0, Nat.zero_le _, rfl, rfl, own_nil _ _ _ _, Below.refl _ _⟩
  case round =>
    obtain ⟨k, hk, rfl, rfl, HS, hw⟩ := hrel
    have hk6 : k ≤ 6 := by have := hkn.out; omega
    have d2r := keep hw d2
    have d12r := keep hw d12b
    by_cases hltk : k < y.keys.length
    · have hKr := CellsAt.later hA11 hw
      obtain ⟨gb, goff, key, e11b, gc, GX⟩ := StrsAt.at' hKr hltk
      have HN := Lib.hid (map_take_snoc (ev3 K.ses) hltk GX.out)
      have hlen : ((y.keys.take k).map (ev3 K.ses)).length = k := by rw [List.length_map, List.length_take, Nat.min_eq_left (by omega)]
      obtain ⟨d, hd⟩ : ∃ d, (y.keys.take k).map (ev3 K.ses) = d := ⟨_, rfl⟩
      rw [hd] at HN HS hlen
      have hown : wr.ownsRow w2.heap.size 71 11 u7 d.length (evCells d) := HS.out
      rw [hlen] at hown
      obtain ⟨A3, k3, rfl⟩ := own_form hown
      replace hown := Lib.hid hown
      replace hlen := Lib.hid hlen
      clear GX hd
      subst e11b
      go_wp2_with (first
        | (refine wpList_buildSlice1 rfl 55 71 _ rfl (ev3 K.ses key).vs rfl _ Tryz.underlying55 info_ev (by rw [ev_size]; omega) (by rw [ev_size]; omega) (zero_ev _) ?_; obtain ⟨w6, e6, hb6, hs6, hr6⟩ := boxed wr (ev3 K.ses key).vs 71; rw [e6])
        | (at_builtin; refine wpList_append_own _ rfl _ _ 55 rfl w2.heap.size 71 i0 _ 11 104 Tryz.underlying55 hi hz0 hz1 hz2 rfl (by decide) _ _ _ rfl (own_keep hown.out hb6) ⟨wr.heap.size, 0, none⟩ 1 1 (ev3 K.ses key).vs.toList rfl rfl (World.news_of_block hr6) (one_cell_ev _) (le_maxLen (by omega)) (by omega) (Nat.le_trans hw.size hb6.size) ?_; intro v7 w7 HO7 hg7 _; have hB7 := Lib.hid (own_below (keepB hw hb6) (Nat.le_refl _) (own_keep hown.out hb6) hg7); replace HO7 := Lib.hid HO7; clear hg7))
      go_roundw
      case rel => exact ⟨k + 1, hltk, by go_num, rfl, by show EvSt _ _ _ _; rw [HN.out, EvSt, evCells_snoc, List.length_append, hlen.out]; exact HO7.out, hB7.out⟩
      case measure => simp [intOf]; omega
    · have ek : k = y.keys.length := by omega
      have HS3 : Hid (EvSt wr w2.heap.size u7 (y.keys.map (ev3 K.ses))) := by
        have := HS.out
        rw [ek, List.take_length] at this
        exact this
      clear ek HS
      obtain ⟨d, hd⟩ : ∃ d, y.keys.map (ev3 K.ses) = d := ⟨_, rfl⟩
      have hdl : d.length ≤ 6 := by rw [← hd, List.length_map]; exact hkn.out
      rw [hd] at HS3 HE
      have hown : wr.ownsRow w2.heap.size 71 11 u7 d.length (evCells d) := HS3.out
      obtain ⟨A3, k3, rfl⟩ := own_form hown
      have hA2 : CliAt wr B p K y O := (CliV.later HV2.out hw).toAt
      have hBw2 := how2.out.size
      have hOv := Lib.hid (over_any hA2 (Nat.le_trans hB (Nat.le_trans hBw2 hw.size)) 0)
      have hnr : Hid (∀ g, (Value.slice A3 d.length k3).ownBlock = some g → ¬ O g) := fun g hg e => by have := (hown.lt g hg).1; have := (hlt.out g e).2; omega
      replace hown := Lib.hid hown
      clear hd HS3
      go_wp2_with (first
        | (go_at_call 105; refine hOv.out.mono ?_; rintro e w4 ⟨rfl, hA4, ho4⟩; replace hA4 := Lib.hid hA4; have hO4 := Lib.hid (ho4.row hown.out hnr.out); have hs4 := ho4.size; replace ho4 := Lib.hid ho4)
        | (refine wpList_buildSlice1 rfl 55 71 _ rfl (overEv K.ses y 0).vs rfl _ Tryz.underlying55 info_ev (by rw [ev_size]; omega) (by rw [ev_size]; omega) (zero_ev _) ?_; obtain ⟨w6, e6, hb6, hs6, hr6⟩ := boxed w4 (overEv K.ses y 0).vs 71; rw [e6])
        | (at_builtin; refine wpList_append_own _ rfl _ _ 55 rfl w2.heap.size 71 i0 _ 11 104 Tryz.underlying55 hi hz0 hz1 hz2 rfl (by decide) _ _ _ rfl (own_keep hO4.out hb6) ⟨w4.heap.size, 0, none⟩ 1 1 (overEv K.ses y 0).vs.toList rfl rfl (World.news_of_block hr6) (one_cell_ev _) (le_maxLen (by omega)) (by omega) (by have := hb6.size; have := hw.size; omega) ?_; intro v7 w7 HO7 hg7 _; replace HO7 := Lib.hid HO7; replace hg7 := Lib.hid hg7))
      go_ret2
      rw [HE.out.1, HE.out.2.1, HE.out.2.2]
      have hO7 : Out (fun k => (Value.slice A3 d.length k3).ownBlock = some k) w6 w7 := Out.of_grown hg7.out (fun k e => e)
      have s1 := how2.out.size
      have s2 := hw.size
      have s5 := hb6.size
      have s6 := hO7.size
      have hin : ∀ k, (Value.slice A3 d.length k3).ownBlock = some k → w2.heap.size ≤ k ∧ k < wr.heap.size := fun k hk => hown.out.lt k hk
      refine ⟨_, [], _, rfl, SndsAt.nil _ _, World.ownsRow.mono (by rw [evCells_snoc, List.length_append]; exact HO7.out) s1, ?_, ?_⟩
      · have hA6 := (hA4.out.later hb6).out hO7 (fun k hk e => by
          rcases hk with q | q
          · exact hnr.out k e q
          · have := (hin k e).2; have := q.1; omega)
        obtain ⟨a1, a2, a3, a4, hA⟩ := hA6
        exact ⟨_, _, _, _, hA.mono (fun k hk => hk.elim .inl (fun q => .inr ⟨by omega, by have := q.2; omega⟩)) (fun k hk => hk.elim (fun q => ⟨(hlt.out k q).1, by have := (hlt.out k q).2; omega⟩) (fun q => ⟨by omega, q.2⟩))⟩
      · exact (((how2.out.trans' (Out.of_below hw)).trans' ho4.out).trans' (Out.of_below hb6)).trans (hO7.mono fun k hk => .inr ⟨by have := (hin k hk).1; omega, by have := (hin k hk).2; omega⟩)
end
end Go.Proofs.YtjgloipgnnigmaaGreatDoor
