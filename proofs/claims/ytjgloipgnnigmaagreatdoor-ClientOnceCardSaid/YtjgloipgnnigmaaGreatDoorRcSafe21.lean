/- The reference's client, loosely: safe: a Safe is answered. -/
import Derived.Test.YtjgloipgnnigmaaGreatDoorRcRd21
set_option linter.unusedVariables false
set_option linter.unusedSimpArgs false
namespace Go.Proofs.YtjgloipgnnigmaaGreatDoor
open Go.RowKit Go.Shelf Go.Sort

def RcSE (w : World) (B p : Nat) (K : CliK) (m : Nat) (O : Nat → Prop) (e : Ending) (w' : World) : Prop := ∃ v u, e = .returned (.tuple #[v, u]) ∧ RSndR w' v ∧ RevR w' u ∧ RcEnd w B p K m O w'
section
variable {w w' : World} {B p n : Nat} {K : CliK} {x : RcD} {O : Nat → Prop}
theorem RWantSt.later {w3 wr wz : World} {y : RcD} {v : Value} {k : Nat} {Ok : Nat → Prop} {l : List SndX} (h : RWantSt w3 wr B p K O x y v n k Ok l) (hb : Below wr.heap.size wr wz) : RWantSt w3 wz B p K O x y v n k Ok l :=
  ⟨h.b, h.c.later hb, h.ok, h.an, h.ks, h.sub, own_keep h.own hb, h.sm, h.sn, h.ap, h.out.trans' (Out.of_below hb)⟩
set_option maxRecDepth 100000 in
set_option maxHeartbeats 8000000 in
theorem rcSafe_any (h : RcAt w B p K x O) (hx : RcOK K.c n x) (hn : n ≤ 1000) (hC : ∀ w', Below B w w' → CfgAt w' K.c K.A K.B) (hf : formedB K.c = true) (m : MsgV) :
    Calls Tryz.prog 116 #[.pointer (some ⟨p, 0, none⟩), .agg m.vs] w (RcSE w B p K (n + 1) O) := by
  obtain ⟨W, eW, HB, hszW, hrW⟩ := boxed w m.vs 85
  obtain ⟨_, _, _, _, _, _, _, _, _, _, _, _, _, _, _, _, _, _, _, _, _, _, _, _, q24, _⟩ := msg_cs hrW
  have hB := h.hB
  have hlt := Lib.hid h.lt'
  have hW := h.later HB
  have hBW := HB.size
  obtain ⟨vr, vw, va, hW⟩ := hW
  obtain ⟨_, _, _, _, _, _, _, _, _, _, _, _, _, _, c14⟩ := hW.cs
  have HX := Lib.hid hx
  have hn' := Lib.hid hn
  have H := Lib.hid hW
  clear h hx hrW hszW hW
  go_enter Tryz.func116, Tryz.ntmps116
  go_upto_region 1 with fail
  go_quiet (fail)
  go_upto_if 15 with fail
  obtain ⟨wn, hwn⟩ : ∃ wn, W.drewN nq = wn := ⟨_, rfl⟩
  have hbn : Below W.heap.size W wn := by rw [← hwn]; exact below_drewN (Below.refl _ _) _
  rw [hwn]
  clear hwn
  have Hn := Lib.hid (H.out.later hbn)
  replace c14 := keep hbn c14
  replace q24 := keep hbn q24
  have f14 := Hn.out.fz 14
  go_cut [] (fun wx => ∃ st' : Nat, Hid (RcAt wx B p K { x with stamp := st' } O) ∧ Out O wn wx)
  case first =>
    go_wp2
    all_goals
      go_meet
      first
        | exact ⟨m.st, ⟨_, _, _, Hn.out.s14 m.st⟩, rc_out Hn.out.hp (Out.refl _ _)⟩
        | exact ⟨x.stamp, ⟨_, _, _, Hn.out⟩, Out.refl _ _⟩
  case rest =>
    obtain ⟨st', hA, ho⟩ := hcut
    obtain ⟨w2, rfl⟩ : ∃ wq : World, wq = wc := ⟨_, rfl⟩
    obtain ⟨x2, hx2⟩ : ∃ x2, ({ x with stamp := st' } : RcD) = x2 := ⟨_, rfl⟩
    have hx2s : x2.stamp = st' := by rw [← hx2]
    have hOK2 : RcOK K.c n x2 := by rw [← hx2]; exact HX.out.same (Nat.le_refl _) rfl rfl rfl rfl
    rw [hx2] at hA
    have hOp := Lib.hid (rcOpen_any hA.out hOK2 hn)
    have how2 : Out O w w2 := (Out.of_below (keepB HB hbn)).trans' ho
    have hb2 : Below B w w2 := how2.below hB fun k hk => (hlt.out k hk).1
    obtain ⟨vr2, vw2, va2, hI⟩ := hA.out
    obtain ⟨e0, e1, e2, _, _, _, _, e7, _, _, _, _, _, e13, e14⟩ := hI.cs
    have hks2 := Lib.hid hI.ks
    subst hx2s
    clear hI q24 c14 hx2
    have hOv : Hid (∀ wz er, Below w2.heap.size w2 wz → Calls Tryz.prog 162 #[.pointer (some ⟨p, 0, none⟩), .int .i64 er] wz (RcPost wz B p K (n + 1) O isEv)) := fun wz er hz => rcOver_any (hA.out.later hz) (n + 1) er
    have HX2 := Lib.hid hOK2
    replace how2 := Lib.hid how2
    have hEnd : Hid (∀ wz, Below w2.heap.size w2 wz → RcEnd w B p K (n + 1) O wz) := fun wz hz => rc_close hlt.out hB (HX2.out.same (Nat.le_succ n) rfl rfl rfl rfl) (hA.out.later hz) (fun k hk => .inl hk) (how2.out.trans' (Out.of_below hz))
    by_cases hfl : x2.stamp < x2.floor
    · have hfl2 : decide ((x2.stamp : Int) < (x2.floor : Int)) = true := by rw [decide_eq_true_iff]; omega
      go_wp2_with (go_at_call 111; refine hOp.out.mono ?_; rintro e w9 ⟨⟨z, rfl⟩, rfl⟩)
      all_goals try (go_ret2; exact ⟨_, _, rfl, rsnd_nil _, rev_nil _, hEnd.out _ (Below.refl _ _)⟩)
      go_quiet (fail)
      go_wp2_with (first
        | (go_at_call 162; refine (hOv.out _ _ (below_drewN (Below.refl _ _) _)).mono ?_; rintro e w4 ⟨v4, rfl, ⟨ev, rfl⟩, hE4⟩; replace hE4 := Lib.hid hE4)
        | (refine wpList_buildSlice1 rfl 119 169 _ rfl ev.vs rfl _ Tryz.underlying119 info_rev (by rw [ev_size]; omega) (by rw [ev_size]; omega) (zero_rev _) ?_; obtain ⟨w6, e6, hb6, hs6, hr6⟩ := boxed w4 ev.vs 169; rw [e6]))
      go_ret2
      obtain ⟨⟨y, hy, hA4⟩, ho4⟩ := hE4.out
      have s2 := how2.out.size
      have s4 := ho4.size
      have s6 := hb6.size
      exact ⟨_, _, rfl, rsnd_nil _, rev_one hr6, rc_close hlt.out hB hy (hA4.later hb6) (fun k hk => hk.elim .inl fun q => .inr ⟨by have : w2.heap.size ≤ _ := q.1; omega, by have := q.2; omega⟩) (((how2.out.trans' (Out.of_below (below_drewN (Below.refl _ _) _))).trans' ho4).trans' (Out.of_below hb6))⟩
    · have hfl2 : decide ((x2.stamp : Int) < (x2.floor : Int)) = false := by rw [decide_eq_false_iff_not]; omega
      by_cases hs0 : x2.stamp = 0
      · have hs02 : ((x2.stamp : Int) == 0) = true := by rw [beq_iff_eq]; omega
        have hs03 : (x2.stamp == 0) = true := by rw [beq_iff_eq]; exact hs0
        have hs04 : decide (x2.stamp = 0) = true := decide_eq_true hs0
        clear hs0
        go_wp2_with (go_at_call 111; refine hOp.out.mono ?_; rintro e w9 ⟨⟨z, rfl⟩, rfl⟩)
        all_goals try (go_ret2; exact ⟨_, _, rfl, rsnd_nil _, rev_nil _, hEnd.out _ (Below.refl _ _)⟩)
        go_quiet (fail)
        obtain ⟨w3, hw3⟩ : ∃ w3, w2.drewN nq = w3 := ⟨_, rfl⟩
        have hb3 : Below w2.heap.size w2 w3 := by rw [← hw3]; exact below_drewN (Below.refl _ _) _
        rw [hw3]
        clear hw3
        replace e2 := keep hb3 e2
        replace e13 := keep hb3 e13
        replace e14 := keep hb3 e14
        obtain ⟨i0, hi, hz0, hz1, hz2⟩ := info_parts info_rev3
        have hkn := HX2.out.kn
        have hK3 : StrsAt w3 x2.KA x2.keys := hks2.out w3 (hb3.mono (Nat.le_trans hB how2.out.size))
        go_wp2
        go_loopw [6, 7, 8] (fun o v i wr => o = .slice none 0 0 ∧ ∃ k : Nat, k ≤ x2.keys.length ∧ i = .int .i64 k ∧ Hid (∃ l : List EvD, wr.ownsRow w3.heap.size 169 11 v l.length (evCells l) ∧ l.length ≤ k) ∧ Below w3.heap.size w3 wr) (fun _ _ i _ => x2.keys.length - (intOf i).toNat)
        case atStart => exact ⟨rfl, 0, Nat.zero_le _, rfl, ⟨[], own_nil _ _ _ _, Nat.zero_le _⟩, Below.refl _ _⟩
        case round =>
          obtain ⟨rfl, k, hkl, rfl, HS, hw⟩ := hrel
          obtain ⟨l, hown, hln⟩ := HS.out
          obtain ⟨A3, k3, rfl⟩ := own_form hown
          have e2r := keep hw e2
          have e13r := keep hw e13
          have e14r := keep hw e14
          have hmx : Hid (l.length ≤ 20) := by show _ ≤ _; omega
          replace hln : Hid (l.length ≤ k) := hln
          by_cases hltk : k < x2.keys.length
          · obtain ⟨kb, koff, s, eK, kc, KX⟩ := StrsAt.at' hK3 hltk
            rw [eK] at e13r
            have kcr := keep hw kc
            have ki : (k : Int) < (x2.keys.length : Int) := by omega
            have k0 : (0 : Int) ≤ (k : Int) := by omega
            have hone : Hid (∀ u ∈ ([.int .i64 3, .int .i64 K.ses, .int .i64 0, .string s, .int .i64 0, .int .u64 0, .string ⟨#[]⟩, .int .u64 0, .bool false, .int .u64 0, .int .i64 0] : List Value), u.oneCell' = true) := one_cell_ev ⟨3, K.ses, 0, s, noVal, 0, false, 0, 0⟩
            have hkm : Hid (k + 1 ≤ x2.keys.length) := hltk
            have hml : Hid (l.length + 1 ≤ maxLen) := le_maxLen (by have := hmx.out; omega)
            have hmb : Hid ((l.length + 1) * 104 ≤ 140737488355328) := by have := hmx.out; show _ ≤ _; omega
            go_upto_region 13 with fail
            go_region_held3 (fun w' => w'.cell? ⟨p, 2, none⟩ = some (.int .i64 K.ses) ∧ w'.cell? ⟨p, 13, none⟩ = some (.slice (some ⟨kb, koff, none⟩) x2.keys.length x2.kc) ∧ w'.cell? ⟨kb, koff + k, none⟩ = some (.string s))
              (first | exact ⟨e2r, e13r, kcr⟩ | (with_reducible exact ⟨keep (below1 _ _) e2r, keep (below1 _ _) e13r, keep (below1 _ _) kcr⟩) | (with_reducible exact ⟨keep (below_drew (below1 _ _)) e2r, keep (below_drew (below1 _ _)) e13r, keep (below_drew (below1 _ _)) kcr⟩) | (with_reducible exact ⟨keep hB15 e2, eK ▸ keep hB15 e13, keep hB15 kc⟩))
              (first
                | (refine ready_append_own_at rfl _ _ 119 rfl w3.heap.size 169 i0 _ 11 104 Tryz.underlying119 hi hz0 hz1 hz2 rfl (Nat.succ_pos 10) (.slice A3 l.length k3) l.length (evCells l) rfl (own_keep hown (below_drew (below1 wr _))) ⟨wr.heap.size, 0, none⟩ 1 1 [.int .i64 3, .int .i64 K.ses, .int .i64 0, .string s, .int .i64 0, .int .u64 0, .string ⟨#[]⟩, .int .u64 0, .bool false, .int .u64 0, .int .i64 0] rfl rfl (World.news_of_block (heap_alloc_new wr _)) hone.out hml.out hmb.out (Nat.le_trans hw.size (below_drew (below1 wr _)).size) ?_; intro v15 w15 HO15 hg15 hv15; obtain ⟨A15, c15, rfl⟩ := own_form HO15; have hB15 : Below w3.heap.size w3 w15 := own_below (keepB hw (below_drew (below1 wr _))) (Nat.le_refl _) (own_keep hown (below_drew (below1 wr _))) hg15; replace HO15 := Lib.hid HO15; clear hg15 hv15))
            all_goals
              have hk9 : k ≤ 100 := by have := hkm.out; omega
              go_wp2
              go_roundw
              case rel =>
                refine ⟨rfl, k + 1, hkm.out, by go_num, ⟨l ++ [⟨3, K.ses, 0, s, noVal, 0, false, 0, 0⟩], ?_, by have := hln.out; simp; omega⟩, hB15⟩
                have := HO15.out
                rw [evCells_snoc, List.length_append]
                exact this
              case measure => have := hkm.out; simp [intOf]; omega
          · have hlti : ¬ ((k : Int) < (x2.keys.length : Int)) := by omega
            have hb23 := keepB hb3 hw
            have hap : Hid (∀ g, (Value.slice A3 l.length k3).ownBlock = some g → ¬ O g) := fun g hg e => by
              have h1 := (hown.lt g hg).1
              have h2 := (hlt.out g e).2
              have h3 := how2.out.size
              have h4 := hb3.size
              omega
            clear hltk
            go_wp2_with (first
              | (go_at_call 162; refine (hOv.out _ _ hb23).mono ?_; rintro e w4 ⟨v4, rfl, ⟨ev, rfl⟩, hE4⟩; have hE4' := Lib.hid hE4; have ho4 := hE4.2; have hO4 := Lib.hid (ho4.row hown hap.out); replace ho4 := Lib.hid ho4; clear hE4)
              | (refine wpList_buildSlice1 rfl 119 169 _ rfl ev.vs rfl _ Tryz.underlying119 info_rev (by rw [ev_size]; omega) (by rw [ev_size]; omega) (zero_rev _) ?_; obtain ⟨w6, e6, hb6, hs6, hr6⟩ := boxed w4 ev.vs 169; rw [e6])
              | (at_builtin; refine wpList_append_own_at _ rfl _ _ 119 rfl w3.heap.size 169 i0 _ 11 104 Tryz.underlying119 hi hz0 hz1 hz2 rfl (by decide) _ _ _ rfl (own_keep hO4.out hb6) ⟨w4.heap.size, 0, none⟩ 1 1 ev.vs.toList rfl rfl (World.news_of_block hr6) (one_cell_ev _) (le_maxLen (by have := hmx.out; omega)) (by have := hmx.out; omega) (by have := hb6.size; have := ho4.out.size; have := hw.size; omega) ?_; intro v7 w7 HO7 hg7 _ _; replace HO7 := Lib.hid HO7; replace hg7 := Lib.hid hg7))
            go_ret2
            obtain ⟨⟨y, hy, hA4⟩, _⟩ := hE4'.out
            have hO7 := Out.of_grown (O := fun j => (Value.slice A3 l.length k3).ownBlock = some j) hg7.out (fun j e => e)
            have s3 := hb23.size
            have s4 := ho4.out.size
            have s6 := hb6.size
            have s7 := hO7.size
            have s2 := how2.out.size
            have hrow : ∀ j, (Value.slice A3 l.length k3).ownBlock = some j → w2.heap.size ≤ j ∧ j < wr.heap.size := fun j e => ⟨Nat.le_trans hb3.size (hown.lt j e).1, (hown.lt j e).2⟩
            refine ⟨_, _, rfl, rsnd_nil _, ⟨w3.heap.size, l ++ [ev], ?_⟩, rc_close hlt.out hB hy ((hA4.later hb6).out hO7 (fun j hj e => hj.elim (hap.out j e) (fun q => by have := (hrow j e).2; have := q.1; omega)) (fun j e => by have := (hrow j e).1; omega)) (fun j hj => hj.elim .inl (fun q => .inr ⟨by omega, by have := q.2; omega⟩)) ?_⟩
            · have := HO7.out
              rw [evCells_snoc, List.length_append]
              exact this
            · exact (((how2.out.trans' (Out.of_below hb23)).trans' ho4.out).trans' (Out.of_below hb6)).trans (hO7.mono fun j e => .inr ⟨by have := (hrow j e).1; omega, by have := (hrow j e).2; omega⟩)
      · have hs02 : ((x2.stamp : Int) == 0) = false := by rw [beq_eq_false_iff_ne]; omega
        have hs03 : (x2.stamp == 0) = false := by rw [beq_eq_false_iff_ne]; exact hs0
        have hs04 : decide (x2.stamp = 0) = false := decide_eq_false hs0
        clear hs0
        go_wp2_with (go_at_call 111; refine hOp.out.mono ?_; rintro e w9 ⟨⟨z, rfl⟩, rfl⟩)
        all_goals try (go_ret2; exact ⟨_, _, rfl, rsnd_nil _, rev_nil _, hEnd.out _ (Below.refl _ _)⟩)
        go_quiet (fail)
        obtain ⟨w3, hw3⟩ : ∃ w3, w2.drewN nq = w3 := ⟨_, rfl⟩
        have hb3 : Below w2.heap.size w2 w3 := by rw [← hw3]; exact below_drewN (Below.refl _ _) _
        rw [hw3]
        clear hw3
        replace e13 := keep hb3 e13
        replace e14 := keep hb3 e14
        obtain ⟨i0, hi, hz0, hz1, hz2⟩ := info_parts info_rsnd3
        have hkn := HX2.out.kn
        have hkz := Lib.hid HX2.out.kk
        have hK3 : StrsAt w3 x2.KA x2.keys := hks2.out w3 (hb3.mono (Nat.le_trans hB how2.out.size))
        have hA3 := Lib.hid (hA.out.later hb3)
        have hB3 : Hid (B ≤ w3.heap.size) := hA3.out.hB
        have hbw3 : Hid (Below B w w3) := hb2.trans (hb3.mono (Nat.le_trans hB how2.out.size))
        go_wp2
        go_loopw [7, 6, 8] (fun u v i wr => u = .slice none 0 0 ∧ ∃ k : Nat, k ≤ x2.keys.length ∧ i = .int .i64 k ∧ Hid (∃ y Ok l, RWantSt w3 wr B p K O x2 y v n k Ok l)) (fun _ _ i _ => x2.keys.length - (intOf i).toNat)
        case atStart => exact ⟨rfl, 0, Nat.zero_le _, rfl, Lib.hid ⟨_, _, _, RWantSt.start hA3.out HX2.out⟩⟩
        case round =>
          obtain ⟨rfl, k, hkl, rfl, HS⟩ := hrel
          obtain ⟨y, Ok, l, hS⟩ := HS.out
          obtain ⟨A3, k3, rfl⟩ := own_form hS.own
          have hb3r : Below B w3 wr := hS.out.below hS.b (fun j hj => (hA3.out.lt' j hj).1)
          have hcs : wr.cell? ⟨p, 0, none⟩ = some (.slice K.A K.c.reps.length K.ca) ∧ wr.cell? ⟨p, 1, none⟩ = some (.slice K.B K.c.bnds.length K.cb) ∧ wr.cell? ⟨p, 13, none⟩ = some (.slice x2.KA x2.keys.length x2.kc) ∧ wr.cell? ⟨p, 14, none⟩ = some (.int .u64 (x2.stamp : Int)) := by
            obtain ⟨_, _, _, hi9⟩ := hS.c
            obtain ⟨x0, x1, _, _, _, _, _, _, _, _, _, _, _, x13, x14⟩ := hi9.cs
            rw [hS.ks.1, hS.ks.2.1, hS.ks.2.2.1] at x13
            rw [hS.ks.2.2.2] at x14
            exact ⟨x0, x1, x13, x14⟩
          obtain ⟨x0, x1, x13, x14⟩ := hcs
          have hBr : Hid (B ≤ wr.heap.size) := hS.c.hB
          have hmx : Hid (l.length ≤ 20) := by have := hS.sn; show _ ≤ _; omega
          have hanx : Hid (y.asks.length ≤ 100000) := by have := hS.an; have := hn'.out; show _ ≤ _; omega
          replace hS := Lib.hid hS
          by_cases hltk : k < x2.keys.length
          · obtain ⟨kb, koff, s, eK, kc, KX⟩ := StrsAt.at' hK3 hltk
            rw [eK] at x13
            have ki : (k : Int) < (x2.keys.length : Int) := by omega
            have k0 : (0 : Int) ≤ (k : Int) := by omega
            have hkm : Hid (k + 1 ≤ x2.keys.length) := hltk
            have hk19 : Hid (k < 20) := by show _ < _; omega
            have hks9 : Hid (s.size ≤ 9223372036854775807) := by have := hkz.out _ (getD_mem (d := noStr) hltk); rw [KX.out] at this; exact this
            have hgl : Hid (homeN K.c s < K.c.reps.length) := home_lt hf s
            have hkc : Hid (∀ wz, Below B w3 wz → wz.cell? ⟨kb, koff + k, none⟩ = some (.string s)) := fun wz hz => by
              have h1 := hks2.out wz ((hb3.mono (Nat.le_trans hB how2.out.size)).trans hz)
              obtain ⟨b1, o1, s1, e1, c1, X1⟩ := StrsAt.at' h1 hltk
              rw [eK] at e1
              cases e1
              have : s1 = s := by rw [← X1.out, KX.out]
              rw [this] at c1
              exact c1
            have HSofB : Hid (∀ wz (y' : RcD) O', RcAt wz B p K y' O' → (y'.KA = x2.KA ∧ y'.keys = x2.keys ∧ y'.kc = x2.kc ∧ y'.stamp = x2.stamp) → Below B wr wz → wz.cell? ⟨p, 0, none⟩ = some (.slice K.A K.c.reps.length K.ca) ∧ wz.cell? ⟨p, 1, none⟩ = some (.slice K.B K.c.bnds.length K.cb) ∧ wz.cell? ⟨p, 13, none⟩ = some (.slice (some ⟨kb, koff, none⟩) x2.keys.length x2.kc) ∧ wz.cell? ⟨p, 14, none⟩ = some (.int .u64 (x2.stamp : Int)) ∧ wz.cell? ⟨kb, koff + k, none⟩ = some (.string s)) := fun wz y' O' hA' hk' hb' => by
              obtain ⟨_, _, _, hi9⟩ := hA'
              obtain ⟨x0, x1, _, _, _, _, _, _, _, _, _, _, _, x13, x14⟩ := hi9.cs
              rw [hk'.1, hk'.2.1, hk'.2.2.1, eK] at x13
              rw [hk'.2.2.2] at x14
              exact ⟨x0, x1, x13, x14, hkc.out wz (hb3r.trans hb')⟩
            have HSof : Hid (∀ wz (y' : RcD) O', RcAt wz B p K y' O' → (y'.KA = x2.KA ∧ y'.keys = x2.keys ∧ y'.kc = x2.kc ∧ y'.stamp = x2.stamp) → Below wr.heap.size wr wz → wz.cell? ⟨p, 0, none⟩ = some (.slice K.A K.c.reps.length K.ca) ∧ wz.cell? ⟨p, 1, none⟩ = some (.slice K.B K.c.bnds.length K.cb) ∧ wz.cell? ⟨p, 13, none⟩ = some (.slice (some ⟨kb, koff, none⟩) x2.keys.length x2.kc) ∧ wz.cell? ⟨p, 14, none⟩ = some (.int .u64 (x2.stamp : Int)) ∧ wz.cell? ⟨kb, koff + k, none⟩ = some (.string s)) := fun wz y' O' hA' hk' hb' => HSofB.out wz y' O' hA' hk' (hb'.mono hBr.out)
            have HH : Hid (∀ wz, Below wr.heap.size wr wz → Calls Tryz.prog 30 #[.agg #[.slice K.A K.c.reps.length K.ca, .slice K.B K.c.bnds.length K.cb], .string s] wz fun e w' => e = .returned (.int .i64 (homeN K.c s : Int)) ∧ Below wz.heap.size wz w') := fun wz hz => by
              have := refHome_any K.c s K.A K.B K.ca K.cb wz (hC wz ((hbw3.out.trans hb3r).trans (hz.mono hBr.out)))
              rw [show homeZ K.c s = (homeN K.c s : Int) by rw [homeZ, hf, if_pos rfl]] at this
              exact this
            have HW : Hid (∀ wz, Below wr.heap.size wr wz → Calls Tryz.prog 110 #[.pointer (some ⟨p, 0, none⟩), .int .i64 (homeN K.c s : Int), .string s, .int .u64 (x2.stamp : Int)] wz (WantR wz B p K (rcWant y (homeN K.c s) s x2.stamp) Ok)) := fun wz hz => rcWant_any (hS.out.c.later hz) (fun w' hb => hC w' (((hbw3.out.trans hb3r).trans (hz.mono hBr.out)).trans hb)) hf _ s x2.stamp hgl.out hks9.out hanx.out
            have hml : Hid (l.length + 1 ≤ maxLen) := le_maxLen (by have := hmx.out; omega)
            have hmb : Hid ((l.length + 1) * 376 ≤ 140737488355328) := by have := hmx.out; show _ ≤ _; omega
            have hk9 : k ≤ 100 := by omega
            go_upto_region 14 with fail
            refine wp_region_held_drew (S := (fun w' => w'.cell? ⟨p, 0, none⟩ = some (.slice K.A K.c.reps.length K.ca) ∧ w'.cell? ⟨p, 1, none⟩ = some (.slice K.B K.c.bnds.length K.cb) ∧ w'.cell? ⟨p, 13, none⟩ = some (.slice (some ⟨kb, koff, none⟩) x2.keys.length x2.kc) ∧ w'.cell? ⟨p, 14, none⟩ = some (.int .u64 (x2.stamp : Int)) ∧ w'.cell? ⟨kb, koff + k, none⟩ = some (.string s))) (by kernel_rfl) (HSof.out _ _ _ (hS.out.c.later (below_drew (Below.refl _ _))) hS.out.ks (below_drew (Below.refl _ _))) (fun hHeld => ?_)
            refine wpAnyH_take (i := 0) (oi := ?o0_1) (v := ?v0_1) ?hi0_1 (by kernel_rfl) (by kernel_rfl) (by kernel_rfl) ?hq0_1 (Or.inl ⟨?hg0_1, ?hy0_1⟩) hHeld ?rest0_1
            case hi0_1 => (simp only [List.getElem?_toArray, List.getElem?_cons_succ, List.getElem?_cons_zero]; rfl)
            case hq0_1 => exact fun _ _ _ h => h
            case hg0_1 => rfl
            case hy0_1 => (intro w hSw; (try dsimp only at hSw); go_simp; (try with_reducible rfl))
            (try simp only [Act.put, List.setIfInBounds_toArray, List.set_cons_zero, List.set_cons_succ])
            refine wpAnyH_take (i := 1) (oi := ?o1_2) (v := ?v1_2) ?hi1_2 (by kernel_rfl) (by kernel_rfl) (by kernel_rfl) ?hq1_2 (Or.inl ⟨?hg1_2, ?hy1_2⟩) hHeld ?rest1_2
            case hi1_2 => (simp only [List.getElem?_toArray, List.getElem?_cons_succ, List.getElem?_cons_zero]; rfl)
            case hq1_2 => exact fun _ _ _ h => h
            case hg1_2 => rfl
            case hy1_2 => (intro w hSw; (try dsimp only at hSw); go_simp; (try with_reducible rfl))
            (try simp only [Act.put, List.setIfInBounds_toArray, List.set_cons_zero, List.set_cons_succ])
            refine wpAnyH_take (i := 2) (oi := ?o2_3) (v := ?v2_3) ?hi2_3 (by kernel_rfl) (by kernel_rfl) (by kernel_rfl) ?hq2_3 (Or.inl ⟨?hg2_3, ?hy2_3⟩) hHeld ?rest2_3
            case hi2_3 => (simp only [List.getElem?_toArray, List.getElem?_cons_succ, List.getElem?_cons_zero]; rfl)
            case hq2_3 => exact fun _ _ _ h => h
            case hg2_3 => rfl
            case hy2_3 => (intro w hSw; (try dsimp only at hSw); go_simp; (try with_reducible rfl))
            (try simp only [Act.put, List.setIfInBounds_toArray, List.set_cons_zero, List.set_cons_succ])
            refine wpAnyH_take (i := 3) (oi := ?o3_4) (v := ?v3_4) ?hi3_4 (by kernel_rfl) (by kernel_rfl) (by kernel_rfl) ?hq3_4 (Or.inl ⟨?hg3_4, ?hy3_4⟩) hHeld ?rest3_4
            case hi3_4 => (simp only [List.getElem?_toArray, List.getElem?_cons_succ, List.getElem?_cons_zero]; rfl)
            case hq3_4 => exact fun _ _ _ h => h
            case hg3_4 => rfl
            case hy3_4 => (intro w hSw; (try dsimp only at hSw); go_simp; (try with_reducible rfl))
            (try simp only [Act.put, List.setIfInBounds_toArray, List.set_cons_zero, List.set_cons_succ])
            refine wpAnyH_take (i := 4) (oi := ?o4_5) (v := ?v4_5) ?hi4_5 (by kernel_rfl) (by kernel_rfl) (by kernel_rfl) ?hq4_5 (Or.inl ⟨?hg4_5, ?hy4_5⟩) hHeld ?rest4_5
            case hi4_5 => (simp only [List.getElem?_toArray, List.getElem?_cons_succ, List.getElem?_cons_zero]; rfl)
            case hq4_5 => exact fun _ _ _ h => h
            case hg4_5 => rfl
            case hy4_5 => (intro w hSw; (try dsimp only at hSw); go_simp; (try with_reducible rfl))
            (try simp only [Act.put, List.setIfInBounds_toArray, List.set_cons_zero, List.set_cons_succ])
            refine wpAnyH_take (i := 5) (oi := ?o5_6) (v := ?v5_6) ?hi5_6 (by kernel_rfl) (by kernel_rfl) (by kernel_rfl) ?hq5_6 (Or.inl ⟨?hg5_6, ?hy5_6⟩) hHeld ?rest5_6
            case hi5_6 => (simp only [List.getElem?_toArray, List.getElem?_cons_succ, List.getElem?_cons_zero]; rfl)
            case hq5_6 => exact fun _ _ _ h => h
            case hg5_6 => rfl
            case hy5_6 => (intro w hSw; (try dsimp only at hSw); go_simp; (try with_reducible rfl))
            (try simp only [Act.put, List.setIfInBounds_toArray, List.set_cons_zero, List.set_cons_succ])
            refine wpAnyH_take (i := 6) (oi := ?o6_7) (v := ?v6_7) ?hi6_7 (by kernel_rfl) (by kernel_rfl) (by kernel_rfl) ?hq6_7 (Or.inl ⟨?hg6_7, ?hy6_7⟩) hHeld ?rest6_7
            case hi6_7 => (simp only [List.getElem?_toArray, List.getElem?_cons_succ, List.getElem?_cons_zero]; rfl)
            case hq6_7 => exact fun _ _ _ h => h
            case hg6_7 => rfl
            case hy6_7 => (intro w hSw; (try dsimp only at hSw); go_simp; (try with_reducible rfl))
            (try simp only [Act.put, List.setIfInBounds_toArray, List.set_cons_zero, List.set_cons_succ])
            refine wpAnyH_take (i := 7) (oi := ?o7_8) (v := ?v7_8) ?hi7_8 (by kernel_rfl) (by kernel_rfl) (by kernel_rfl) ?hq7_8 (Or.inl ⟨?hg7_8, ?hy7_8⟩) hHeld ?rest7_8
            case hi7_8 => (simp only [List.getElem?_toArray, List.getElem?_cons_succ, List.getElem?_cons_zero]; rfl)
            case hq7_8 => exact fun _ _ _ h => h
            case hg7_8 => rfl
            case hy7_8 => (intro w hSw; (try dsimp only at hSw); go_simp; (try with_reducible rfl))
            (try simp only [Act.put, List.setIfInBounds_toArray, List.set_cons_zero, List.set_cons_succ])
            refine wpAnyH_take (i := 8) (oi := ?o8_9) (v := ?v8_9) ?hi8_9 (by kernel_rfl) (by kernel_rfl) (by kernel_rfl) ?hq8_9 (Or.inl ⟨?hg8_9, ?hy8_9⟩) hHeld ?rest8_9
            case hi8_9 => (simp only [List.getElem?_toArray, List.getElem?_cons_succ, List.getElem?_cons_zero]; rfl)
            case hq8_9 => exact fun _ _ _ h => h
            case hg8_9 => rfl
            case hy8_9 => (intro w hSw; (try dsimp only at hSw); go_simp; (try with_reducible rfl))
            (try simp only [Act.put, List.setIfInBounds_toArray, List.set_cons_zero, List.set_cons_succ])
            refine wpAnyH_take (i := 9) (oi := ?o9_10) (v := ?v9_10) ?hi9_10 (by kernel_rfl) (by kernel_rfl) (by kernel_rfl) ?hq9_10 (Or.inl ⟨?hg9_10, ?hy9_10⟩) hHeld ?rest9_10
            case hi9_10 => (simp only [List.getElem?_toArray, List.getElem?_cons_succ, List.getElem?_cons_zero]; rfl)
            case hq9_10 => exact fun _ _ _ h => h
            case hg9_10 => rfl
            case hy9_10 => (intro w hSw; (try dsimp only at hSw); go_simp; (try with_reducible rfl))
            (try simp only [Act.put, List.setIfInBounds_toArray, List.set_cons_zero, List.set_cons_succ])
            refine wpAnyH_take (i := 10) (oi := ?o10_11) (v := ?v10_11) ?hi10_11 (by kernel_rfl) (by kernel_rfl) (by kernel_rfl) ?hq10_11 (Or.inl ⟨?hg10_11, ?hy10_11⟩) hHeld ?rest10_11
            case hi10_11 => (simp only [List.getElem?_toArray, List.getElem?_cons_succ, List.getElem?_cons_zero]; rfl)
            case hq10_11 => exact fun _ _ _ h => h
            case hg10_11 => rfl
            case hy10_11 => (intro w hSw; (try dsimp only at hSw); go_simp; (try with_reducible rfl))
            (try simp only [Act.put, List.setIfInBounds_toArray, List.set_cons_zero, List.set_cons_succ])
            refine wpAnyH_take (i := 11) (oi := ?o11_12) (v := ?v11_12) ?hi11_12 (by kernel_rfl) (by kernel_rfl) (by kernel_rfl) ?hq11_12 (Or.inl ⟨?hg11_12, ?hy11_12⟩) hHeld ?rest11_12
            case hi11_12 => (simp only [List.getElem?_toArray, List.getElem?_cons_succ, List.getElem?_cons_zero]; rfl)
            case hq11_12 => exact fun _ _ _ h => h
            case hg11_12 => rfl
            case hy11_12 => (intro w hSw; (try dsimp only at hSw); go_simp; (try with_reducible rfl))
            (try simp only [Act.put, List.setIfInBounds_toArray, List.set_cons_zero, List.set_cons_succ])
            refine wpAnyH_take (i := 12) (oi := ?o12_13) (v := ?v12_13) ?hi12_13 (by kernel_rfl) (by kernel_rfl) (by kernel_rfl) ?hq12_13 (Or.inl ⟨?hg12_13, ?hy12_13⟩) hHeld ?rest12_13
            case hi12_13 => (simp only [List.getElem?_toArray, List.getElem?_cons_succ, List.getElem?_cons_zero]; rfl)
            case hq12_13 => exact fun _ _ _ h => h
            case hg12_13 => rfl
            case hy12_13 => (intro w hSw; (try dsimp only at hSw); go_simp; (try with_reducible rfl))
            (try simp only [Act.put, List.setIfInBounds_toArray, List.set_cons_zero, List.set_cons_succ])
            refine wpAnyH_take (i := 14) (oi := ?o14_14) (v := ?v14_14) ?hi14_14 (by kernel_rfl) (by kernel_rfl) (by kernel_rfl) ?hq14_14 (Or.inl ⟨?hg14_14, ?hy14_14⟩) hHeld ?rest14_14
            case hi14_14 => (simp only [List.getElem?_toArray, List.getElem?_cons_succ, List.getElem?_cons_zero]; rfl)
            case hq14_14 => exact fun _ _ _ h => h
            case hg14_14 => rfl
            case hy14_14 => (intro w hSw; (try dsimp only at hSw); go_simp; (try with_reducible rfl))
            (try simp only [Act.put, List.setIfInBounds_toArray, List.set_cons_zero, List.set_cons_succ])
            refine wpAnyH_take (i := 15) (oi := ?o15_15) (v := ?v15_15) ?hi15_15 (by kernel_rfl) (by kernel_rfl) (by kernel_rfl) ?hq15_15 (Or.inl ⟨?hg15_15, ?hy15_15⟩) hHeld ?rest15_15
            case hi15_15 => (simp only [List.getElem?_toArray, List.getElem?_cons_succ, List.getElem?_cons_zero]; rfl)
            case hq15_15 => exact fun _ _ _ h => h
            case hg15_15 => rfl
            case hy15_15 => (intro w hSw; (try dsimp only at hSw); go_simp; (try with_reducible rfl))
            (try simp only [Act.put, List.setIfInBounds_toArray, List.set_cons_zero, List.set_cons_succ])
            refine wpAnyH_take (i := 16) (oi := ?o16_16) (v := ?v16_16) ?hi16_16 (by kernel_rfl) (by kernel_rfl) (by kernel_rfl) ?hq16_16 (Or.inl ⟨?hg16_16, ?hy16_16⟩) hHeld ?rest16_16
            case hi16_16 => (simp only [List.getElem?_toArray, List.getElem?_cons_succ, List.getElem?_cons_zero]; rfl)
            case hq16_16 => exact fun _ _ _ h => h
            case hg16_16 => rfl
            case hy16_16 => (intro w hSw; (try dsimp only at hSw); go_simp; (try with_reducible rfl))
            (try simp only [Act.put, List.setIfInBounds_toArray, List.set_cons_zero, List.set_cons_succ])
            refine wpAnyH_take (i := 17) (oi := ?o17_17) (v := ?v17_17) ?hi17_17 (by kernel_rfl) (by kernel_rfl) (by kernel_rfl) ?hq17_17 (Or.inl ⟨?hg17_17, ?hy17_17⟩) hHeld ?rest17_17
            case hi17_17 => (simp only [List.getElem?_toArray, List.getElem?_cons_succ, List.getElem?_cons_zero]; rfl)
            case hq17_17 => exact fun _ _ _ h => h
            case hg17_17 => rfl
            case hy17_17 => (intro w hSw; (try dsimp only at hSw); go_simp; (try with_reducible rfl))
            (try simp only [Act.put, List.setIfInBounds_toArray, List.set_cons_zero, List.set_cons_succ])
            refine wpAnyH_take (i := 18) (oi := ?o18_18) (v := ?v18_18) ?hi18_18 (by kernel_rfl) (by kernel_rfl) (by kernel_rfl) ?hq18_18 (Or.inl ⟨?hg18_18, ?hy18_18⟩) hHeld ?rest18_18
            case hi18_18 => (simp only [List.getElem?_toArray, List.getElem?_cons_succ, List.getElem?_cons_zero]; rfl)
            case hq18_18 => exact fun _ _ _ h => h
            case hg18_18 => rfl
            case hy18_18 => (intro w hSw; (try dsimp only at hSw); go_simp; (try with_reducible rfl))
            (try simp only [Act.put, List.setIfInBounds_toArray, List.set_cons_zero, List.set_cons_succ])
            refine wpAnyH_take (i := 19) (oi := ?o19_19) (v := ?v19_19) ?hi19_19 (by kernel_rfl) (by kernel_rfl) (by kernel_rfl) ?hq19_19 (Or.inl ⟨?hg19_19, ?hy19_19⟩) hHeld ?rest19_19
            case hi19_19 => (simp only [List.getElem?_toArray, List.getElem?_cons_succ, List.getElem?_cons_zero]; rfl)
            case hq19_19 => exact fun _ _ _ h => h
            case hg19_19 => rfl
            case hy19_19 => (intro w hSw; (try dsimp only at hSw); go_simp; (try with_reducible rfl))
            (try simp only [Act.put, List.setIfInBounds_toArray, List.set_cons_zero, List.set_cons_succ])
            refine wpAnyH_take (i := 20) (oi := ?o20_20) (v := ?v20_20) ?hi20_20 (by kernel_rfl) (by kernel_rfl) (by kernel_rfl) ?hq20_20 (Or.inl ⟨?hg20_20, ?hy20_20⟩) hHeld ?rest20_20
            case hi20_20 => (simp only [List.getElem?_toArray, List.getElem?_cons_succ, List.getElem?_cons_zero]; rfl)
            case hq20_20 => exact fun _ _ _ h => h
            case hg20_20 => rfl
            case hy20_20 => (intro w hSw; (try dsimp only at hSw); go_simp; (try with_reducible rfl))
            (try simp only [Act.put, List.setIfInBounds_toArray, List.set_cons_zero, List.set_cons_succ])
            refine wpAnyH_take (i := 21) (oi := ?o21_21) (v := ?v21_21) ?hi21_21 (by kernel_rfl) (by kernel_rfl) (by kernel_rfl) ?hq21_21 (Or.inl ⟨?hg21_21, ?hy21_21⟩) hHeld ?rest21_21
            case hi21_21 => (simp only [List.getElem?_toArray, List.getElem?_cons_succ, List.getElem?_cons_zero]; rfl)
            case hq21_21 => exact fun _ _ _ h => h
            case hg21_21 => rfl
            case hy21_21 => (intro w hSw; (try dsimp only at hSw); go_simp; (try with_reducible rfl))
            (try simp only [Act.put, List.setIfInBounds_toArray, List.set_cons_zero, List.set_cons_succ])
            refine wpAnyH_take (i := 22) (oi := ?o22_22) (v := ?v22_22) ?hi22_22 (by kernel_rfl) (by kernel_rfl) (by kernel_rfl) ?hq22_22 (Or.inl ⟨?hg22_22, ?hy22_22⟩) hHeld ?rest22_22
            case hi22_22 => (simp only [List.getElem?_toArray, List.getElem?_cons_succ, List.getElem?_cons_zero]; rfl)
            case hq22_22 => exact fun _ _ _ h => h
            case hg22_22 => rfl
            case hy22_22 => (intro w hSw; (try dsimp only at hSw); go_simp; (try with_reducible rfl))
            (try simp only [Act.put, List.setIfInBounds_toArray, List.set_cons_zero, List.set_cons_succ])
            refine wpAnyH_take (i := 23) (oi := ?o23_23) (v := ?v23_23) ?hi23_23 (by kernel_rfl) (by kernel_rfl) (by kernel_rfl) ?hq23_23 (Or.inl ⟨?hg23_23, ?hy23_23⟩) hHeld ?rest23_23
            case hi23_23 => (simp only [List.getElem?_toArray, List.getElem?_cons_succ, List.getElem?_cons_zero]; rfl)
            case hq23_23 => exact fun _ _ _ h => h
            case hg23_23 => rfl
            case hy23_23 => (intro w hSw; (try dsimp only at hSw); go_simp; (try with_reducible rfl))
            (try simp only [Act.put, List.setIfInBounds_toArray, List.set_cons_zero, List.set_cons_succ])
            refine wpAnyH_take (i := 24) (oi := ?o24_24) (v := ?v24_24) ?hi24_24 (by kernel_rfl) (by kernel_rfl) (by kernel_rfl) ?hq24_24 (Or.inl ⟨?hg24_24, ?hy24_24⟩) hHeld ?rest24_24
            case hi24_24 => (simp only [List.getElem?_toArray, List.getElem?_cons_succ, List.getElem?_cons_zero]; rfl)
            case hq24_24 => exact fun _ _ _ h => h
            case hg24_24 => rfl
            case hy24_24 => (intro w hSw; (try dsimp only at hSw); go_simp; (try with_reducible rfl))
            (try simp only [Act.put, List.setIfInBounds_toArray, List.set_cons_zero, List.set_cons_succ])
            refine wpAnyH_ready (rs := [13]) (by kernel_rfl) (by simp) ?_
            refine AllReadyH.cons (o := ?p13_29) ?ho13_29 (fun KK hK => ?step13_29) ?more13_29
            case ho13_29 => (simp only [List.getElem?_toArray, List.getElem?_cons_succ, List.getElem?_cons_zero]; rfl)
            case step13_29 =>
              go_simp
              (go_at_call 30; refine (HH.out _ (below_drew (Below.refl _ _))).mono ?_; rintro e wH ⟨rfl, hbH0⟩)
              have hbH : Below wr.heap.size wr wH := keepB (below_drew (Below.refl _ _)) hbH0
              (try go_wp2_with fail)
              refine hK.out _ _ (HSof.out _ _ _ (hS.out.c.later hbH) hS.out.ks hbH) (fun hH2 => ?_)
              clear hHeld hK KK
              have hHeld := hH2
              clear hH2
              (try simp only [Act.put, List.setIfInBounds_toArray, List.set_cons_zero, List.set_cons_succ])
              refine wpAnyH_ready (rs := [25]) (by kernel_rfl) (by simp) ?_
              refine AllReadyH.cons (o := ?p25_28) ?ho25_28 (fun KK hK => ?step25_28) ?more25_28
              case ho25_28 => (simp only [List.getElem?_toArray, List.getElem?_cons_succ, List.getElem?_cons_zero]; rfl)
              case step25_28 =>
                go_simp
                (go_at_call 110; refine (HW.out _ hbH).mono ?_; rintro e w4 ⟨sv, rfl, hm4, hA4, ho4⟩)
                have hb4 : Below B wr w4 := (hbH.mono hBr.out).trans (ho4.below (Nat.le_trans hBr.out hbH.size) (fun j hj => (hS.out.c.lt' j hj).1))
                (try go_wp2_with fail)
                refine hK.out _ _ (HSofB.out _ _ _ hA4 hS.out.ks hb4) (fun hH2 => ?_)
                clear hHeld hK KK
                have hHeld := hH2
                clear hH2
                (try simp only [Act.put, List.setIfInBounds_toArray, List.set_cons_zero, List.set_cons_succ])
                refine wpAnyH_ready (rs := [26]) (by kernel_rfl) (by simp) ?_
                refine AllReadyH.cons (o := ?p26_27) ?ho26_27 (fun KK hK => ?step26_27) ?more26_27
                case ho26_27 => (simp only [List.getElem?_toArray, List.getElem?_cons_succ, List.getElem?_cons_zero]; rfl)
                case step26_27 =>
                  rw [if_pos (by rfl)]
                  refine wp_buildSlice1 118 166 _ rfl sv.vs rfl _ Tryz.underlying118 info_rsnd (by rw [snd_size]; omega) (by rw [snd_size]; omega) (zero_rsnd _) ?_
                  obtain ⟨w6, e6, hb6, hs6, hr6⟩ := boxed w4 sv.vs 166
                  rw [e6]
                  clear e6
                  (try go_wp2_with fail)
                  refine hK.out _ _ (HSofB.out _ _ _ (hA4.later hb6) hS.out.ks (hb4.trans (hb6.mono (Nat.le_trans hBr.out hb4.size)))) (fun hH2 => ?_)
                  clear hHeld hK KK
                  have hHeld := hH2
                  clear hH2
                  (try simp only [Act.put, List.setIfInBounds_toArray, List.set_cons_zero, List.set_cons_succ])
                  refine wpAnyH_ready (rs := [27]) (by kernel_rfl) (by simp) ?_
                  refine AllReadyH.cons (o := ?p27_26) ?ho27_26 (fun KK hK => ?step27_26) ?more27_26
                  case ho27_26 => (simp only [List.getElem?_toArray, List.getElem?_cons_succ, List.getElem?_cons_zero]; rfl)
                  case step27_26 =>
                    refine ready_append_own_at rfl _ _ 118 rfl w3.heap.size 166 i0 _ 35 376 Tryz.underlying118 hi hz0 hz1 hz2 rfl (Nat.succ_pos 34) (.slice A3 l.length k3) l.length (sndCells l) rfl (own_keep (ho4.row (own_keep hS.out.own hbH) hS.out.ap) hb6) ⟨w4.heap.size, 0, none⟩ 1 1 sv.vs.toList rfl rfl (World.news_of_block hr6) (one_cell_snd sv) hml.out hmb.out (Nat.le_trans (Nat.le_trans hS.out.out.size (Nat.le_trans hbH.size ho4.size)) hb6.size) ?_
                    intro v7 w7 HO7 hg7 hv7
                    have hS7 := RWantSt.step (hS.out.later hbH) hk19.out hgl.out hks9.out hA4 ho4 hb6 hm4 HO7 hg7 hv7
                    have hb7 : Below B wr w7 := (hb4.trans (hb6.mono (Nat.le_trans hBr.out hb4.size))).grown hg7 (Nat.le_trans (Nat.le_trans hBr.out hb4.size) hb6.size) (fun j e => Nat.le_trans hB3.out (hS.out.own.lt j e).1)
                    (try go_wp2_with fail)
                    refine hK.out _ _ (HSofB.out _ _ _ hS7.c hS7.ks hb7) (fun hH2 => ?_)
                    clear hHeld hK KK
                    have hHeld := hH2
                    clear hH2
                    (try simp only [Act.put, List.setIfInBounds_toArray, List.set_cons_zero, List.set_cons_succ])
                    refine wpAnyH_take (i := 28) (oi := ?o28_25) (v := ?v28_25) ?hi28_25 (by kernel_rfl) (by kernel_rfl) (by kernel_rfl) ?hq28_25 (Or.inl ⟨?hg28_25, ?hy28_25⟩) hHeld ?rest28_25
                    case hi28_25 => (simp only [List.getElem?_toArray, List.getElem?_cons_succ, List.getElem?_cons_zero]; rfl)
                    case hq28_25 => exact fun _ _ _ h => h
                    case hg28_25 => rfl
                    case hy28_25 => (intro w hSw; (try dsimp only at hSw); go_simp; (try with_reducible rfl))
                    (try simp only [Act.put, List.setIfInBounds_toArray, List.set_cons_zero, List.set_cons_succ])
                    refine wpAnyH_done (by kernel_rfl) ?_ _
                    go_wp2
                    go_roundw
                    case rel => exact ⟨rfl, k + 1, hkm.out, by go_num, Lib.hid ⟨_, _, _, hS7⟩⟩
                    case measure => have := hkm.out; simp [intOf]; omega
                  exact AllReadyH.nil
                exact AllReadyH.nil
              exact AllReadyH.nil
            exact AllReadyH.nil
          · have hlti : ¬ ((k : Int) < (x2.keys.length : Int)) := by omega
            go_wp2
            go_ret2
            obtain ⟨f1, f2⟩ := hS.out.done (how2.out.trans' (Out.of_below hb3)) (fun k hk => .inl hk) hB hlt.out
            exact ⟨_, _, rfl, f1, rev_nil _, f2⟩
end
end Go.Proofs.YtjgloipgnnigmaaGreatDoor
