/- The reference's client, loosely: Handle. -/
import Derived.Test.YtjgloipgnnigmaaGreatDoorJ18
import Derived.Test.YtjgloipgnnigmaaGreatDoorJ7
import Derived.Deep.DeepCutAuto
set_option linter.unusedVariables false
set_option linter.unusedSimpArgs false
namespace Go.Proofs.YtjgloipgnnigmaaGreatDoor
open Go.RowKit Go.Shelf Go.Sort

section
variable {w : World} {B p n : Nat} {K : CliK} {x : RcD} {O : Nat → Prop}
theorem info_rmsgH : (Tryz.prog.info? 85).map (·.size) = some 34 := by kernel_rfl
set_option maxRecDepth 100000 in
set_option maxHeartbeats 8000000 in
theorem rcHandle_in (h : RcAt w B p K x O) (hx : RcOK K.c n x) (hn : n ≤ 1000) (hC : ∀ w', Below B w w' → CfgAt w' K.c K.A K.B) (hf : formedB K.c = true) (m : MsgV) (hk : m.key.size ≤ 9223372036854775807)
    (hF : ∀ wz, Below w.heap.size w wz → Calls Tryz.prog 29 #[.agg m.vs] wz (SomeB wz)) :
    Calls Tryz.prog 63 #[.pointer (some ⟨p, 0, none⟩), .agg m.vs] w (RcSE w B p K (n + 1) O) := by
  obtain ⟨W, eW, HB, hszW, hrW⟩ := boxed w m.vs 85
  have hFm := Lib.hid (hF W HB)
  have h0 := Lib.hid h
  have hlt := Lib.hid h.lt'
  have hA0p : O p := by obtain ⟨_, _, _, h9⟩ := h; exact h9.hp
  have hB := h.hB
  have HX := Lib.hid hx
  have hn' := Lib.hid hn
  have HC := Lib.hid hC
  have hrow := Lib.hid hrW
  have hnO : Hid (¬ O w.heap.size) := fun e => by have := (h.lt' _ e).2; omega
  replace hszW := Lib.hid hszW
  replace hk := Lib.hid hk
  have HB0 := Lib.hid HB
  clear hF hC hx hn h hrW
  go_enter Tryz.func63, Tryz.ntmps63
  go_upto_region 3 with (first
    | (refine wpList_load_cells rfl 85 _ rfl ⟨w.heap.size, 0, none⟩ rfl m.vs _ (row_of_obj hrow.out) Tryz.underlying85 rfl info_rmsgH ?_)
    | (go_at_call 29; refine hFm.out.mono ?_; rintro e w1 ⟨r, rfl, hb1⟩; cases r))
  · go_wp2
    go_ret2
    exact ⟨_, _, rfl, ⟨0, [], own_nil _ _ _ _, fun s hs => (by cases hs)⟩, rev_nil _, h0.out.end_ HX.out (Nat.le_succ n) (keepB HB0.out hb1)⟩
  · have hA1 := Lib.hid ((h0.out.later HB).later hb1)
    have hr1 := Lib.hid (obj_keep hrow.out hb1)
    have hB1 : B ≤ w1.heap.size := Nat.le_trans hB (Nat.le_trans HB.size hb1.size)
    have hb01 := Lib.hid (keepB HB0.out hb1)
    obtain ⟨c0, _, _, _, _, _, _, _, _, _, _, _, _, _, _, _, _, _, _, _, _, c21, c22, _, _, _, _, _, _, _, _, _, _, _⟩ := msg_cs hr1.out
    obtain ⟨vr, vw, va, hW1⟩ := hA1.out
    obtain ⟨_, _, _, d3, _, _, _, _, d8, d9, _⟩ := hW1.cs
    clear hW1
    obtain ⟨bI, hbI⟩ : ∃ r, idEqB m.ids m.idq x.ts x.tq = r := ⟨_, rfl⟩
    have hI := eqlId m.ids m.idq x.ts x.tq
    rw [hbI] at hI
    clear hbI hb1
    go_cut [30] (fun s wx => (∃ b : Bool, s = .bool b) ∧ Below w1.heap.size w1 wx)
    case first =>
      cases t1 : (m.kind == 11) <;> cases t2 : (x.st == 2) <;> cases bI
      all_goals
        go_quiet (fail)
        go_wp2
        go_meet
        exact ⟨⟨_, rfl⟩, below_drewN (Below.refl _ _) _⟩
    case rest =>
      obtain ⟨⟨b, rfl⟩, hb2⟩ := hcut
      obtain ⟨w2, rfl⟩ : ∃ wq : World, wq = wc := ⟨_, rfl⟩
      clear c0 c21 c22 d3 d8 d9 hI
      have hA2 := Lib.hid (hA1.out.later hb2)
      have hr2 := Lib.hid (obj_keep hr1.out hb2)
      have hb02 := Lib.hid (keepB hb01.out hb2)
      cases b
      case true =>
        go_upto_region 5 with (go_at_call 112; refine (rcRest_any hA2.out).mono ?_; rintro e w3 ⟨rfl, hA3, ho3⟩; replace hA3 := Lib.hid hA3; replace ho3 := Lib.hid ho3)
        have hr3 := Lib.hid (ho3.out.obj hr2.out hnO.out)
        have hO23 := ho3.out.size
        obtain ⟨vr3, vw3, va3, hW3⟩ := hA3.out
        obtain ⟨_, _, _, _, _, _, _, e7, _⟩ := hW3.cs
        clear hW3
        obtain ⟨_, _, _, _, _, _, _, _, _, _, _, _, _, _, _, _, _, _, _, _, _, _, _, _, c24, c25, _, _, _, _, _, _, _, _⟩ := msg_cs hr3.out
        go_cut [43] (fun s wx => (∃ b : Bool, s = .bool b) ∧ Below w3.heap.size w3 wx)
        case first =>
          obtain ⟨my, hmy⟩ : ∃ b, m.y = b := ⟨_, rfl⟩
          rw [hmy] at c25
          clear hmy
          cases my <;> cases t2 : decide ((x.floor : Int) < (m.st : Int))
          all_goals
            go_quiet (fail)
            go_wp2
            go_meet
            exact ⟨⟨_, rfl⟩, below_drewN (Below.refl _ _) _⟩
        case rest =>
          obtain ⟨⟨b, rfl⟩, hb3⟩ := hcut
          obtain ⟨w4, rfl⟩ : ∃ wq : World, wq = wc := ⟨_, rfl⟩
          clear c24 c25 e7
          have hA4 := Lib.hid (hA3.out.later hb3)
          have hr4 := Lib.hid (obj_keep hr3.out hb3)
          have ho24 := Lib.hid (ho3.out.trans' (Out.of_below hb3))
          obtain ⟨vr4, vw4, va4, hW4⟩ := hA4.out
          obtain ⟨_, _, _, _, _, _, _, e7, _⟩ := hW4.cs
          have f7 := hW4.fz 7
          replace hW4 := Lib.hid hW4
          obtain ⟨_, _, _, _, _, _, _, _, _, _, _, _, _, _, _, _, _, _, _, _, _, c21, c22, _, c24, c25, _, _, _, _, _, _, _, _⟩ := msg_cs hr4.out
          cases b
          · go_wp2
            go_region
            change Exit.then _ _ _ _ (World.drew (World.alloc w4 (.cells (⟨2, m.ids, m.idq, noStr, noVal, 0, m.y, m.st, 0⟩ : EvD).vs 169)))
            obtain ⟨w6, e6, hb6, hr6⟩ : ∃ w6, World.drew (World.alloc w4 (.cells (⟨2, m.ids, m.idq, noStr, noVal, 0, m.y, m.st, 0⟩ : EvD).vs 169)) = w6 ∧ Below w4.heap.size w4 w6 ∧ w6.heap[w4.heap.size]? = some (.cells (⟨2, m.ids, m.idq, noStr, noVal, 0, m.y, m.st, 0⟩ : EvD).vs 169 (0, 0)) := ⟨_, rfl, below_drew (below1 _ _), heap_alloc_new w4 _⟩
            rw [e6]
            clear e6
            go_wp2
            go_ret2
            refine ⟨_, _, rfl, rsnd_nil _, rev_one hr6, rc_close hlt.out hB (RcOK.rest _) (hA4.out.later hb6) (fun k hk => ?_) (((Out.of_below hb02.out).trans' ho24.out).trans' (Out.of_below hb6))⟩
            have z1 := hb02.out.size
            have z2 := hb6.size
            have z3 := hb3.size
            rcases hk with q | q
            · exact .inl q
            · exact .inr ⟨by have := q.1; omega, by have := q.2; omega⟩
          · obtain ⟨w5, e5⟩ : ∃ w5, w4.setCell ⟨p, 7, none⟩ (.int .u64 (m.st : Int)) = w5 := ⟨_, rfl⟩
            have hW5 := hW4.out.s7 m.st
            have ho45 := out_set21 w4 p 7 (.int .u64 (m.st : Int))
            rw [e5] at hW5 ho45
            have hnp : Hid (¬ (w.heap.size = p)) := fun e => hnO.out (e ▸ hA0p)
            have hr5 := Lib.hid (ho45.obj hr4.out hnp.out)
            have hA5 : Hid (RcAt w5 B p K { rcRest x with floor := m.st } (ext O w2 w3)) := ⟨_, _, _, hW5⟩
            have ho25 := Lib.hid (ho24.out.trans' (ho45.mono (fun k e => by rw [e]; exact hA0p)))
            have z4 := ho45.size
            clear hW5 ho45
            go_wp2
            try rw [e5]
            clear e5 c21 c22 c24 c25
            obtain ⟨_, _, _, _, _, _, _, _, _, _, _, _, _, _, _, _, _, _, _, _, _, c21, c22, _, c24, c25, _, _, _, _, _, _, _, _⟩ := msg_cs hr5.out
            go_region
            change Exit.then _ _ _ _ (World.drew (World.alloc w5 (.cells (⟨2, m.ids, m.idq, noStr, noVal, 0, m.y, m.st, 0⟩ : EvD).vs 169)))
            obtain ⟨w6, e6, hb6, hr6⟩ : ∃ w6, World.drew (World.alloc w5 (.cells (⟨2, m.ids, m.idq, noStr, noVal, 0, m.y, m.st, 0⟩ : EvD).vs 169)) = w6 ∧ Below w5.heap.size w5 w6 ∧ w6.heap[w5.heap.size]? = some (.cells (⟨2, m.ids, m.idq, noStr, noVal, 0, m.y, m.st, 0⟩ : EvD).vs 169 (0, 0)) := ⟨_, rfl, below_drew (below1 _ _), heap_alloc_new w5 _⟩
            rw [e6]
            clear e6
            go_wp2
            go_ret2
            refine ⟨_, _, rfl, rsnd_nil _, rev_one hr6, rc_close hlt.out hB (RcOK.same (y := { rcRest x with floor := m.st }) (RcOK.rest (x := x) (n + 1)) (Nat.le_refl _) rfl rfl rfl rfl) (hA5.out.later hb6) (fun k hk => ?_) (((Out.of_below hb02.out).trans' ho25.out).trans' (Out.of_below hb6))⟩
            have z1 := hb02.out.size
            have z2 := hb6.size
            have z3 := hb3.size
            rcases hk with q | q
            · exact .inl q
            · exact .inr ⟨by have := q.1; omega, by have := q.2; omega⟩
      case false =>
        obtain ⟨vr2, vw2, va2, hW2⟩ := hA2.out
        obtain ⟨A, cap, e12, hcap, hA, _⟩ := own_asksR hW2.rowa
        subst e12
        obtain ⟨_, _, _, d3, _, _, _, _, _, _, _, _, d12, _⟩ := hW2.cs
        obtain ⟨c0, _, _, _, _, _, _, _, _, _, _, _, _, _, _, _, _, _, _, _, _, _, _, _, _, _, c26, c27, _, _, _, _, c32, _⟩ := msg_cs hr2.out
        have hlen : Hid (x.asks.length ≤ 20000) := by have := HX.out.an; have := hn'.out; show _ ≤ _; omega
        replace hW2 := Lib.hid hW2
        have hl0 : (⟨#[]⟩ : ByteArray).toList = [] := by rw [ByteArray.toList_eq]
        clear hcap
        go_wp2
        go_loopw [6] (fun i wr => ∃ k : Nat, k ≤ x.asks.length ∧ i = .int .i64 k ∧ Below w2.heap.size w2 wr) (fun i _ => x.asks.length - (intOf i).toNat)
        case atStart => exact ⟨0, Nat.zero_le _, rfl, Below.refl _ _⟩
        case round =>
          obtain ⟨k, hk', rfl, hw⟩ := hrel
          replace d12 := keep hw d12
          replace d3 := keep hw d3
          replace c0 := keep hw c0
          replace c26 := keep hw c26
          replace c27 := keep hw c27
          replace c32 := keep hw c32
          by_cases hl : k < x.asks.length
          · obtain ⟨b, off, rfl, a0, a1, a2, a3, a4, af⟩ := hA k hl
            replace a0 := keep hw a0
            replace a1 := keep hw a1
            replace a2 := keep hw a2
            replace a3 := keep hw a3
            replace a4 := keep hw a4
            have ki : (k : Int) < (x.asks.length : Int) := by omega
            have k0 : (0 : Int) ≤ (k : Int) := by omega
            obtain ⟨a, ha⟩ : ∃ a, x.asks.getD k noAskR = a := ⟨_, rfl⟩
            rw [ha] at a0 a1 a2 a3 a4
            obtain ⟨w9, e9, hb9, hs9, hr9⟩ := boxed wr #[.int .i64 a.n, .int .i64 (a.g : Int), .string a.key, .int .u64 (a.st : Int), .bool a.op] 164
            have hw9 := keepB hw hb9
            cases q13 : (m.kind == 13)
            · go_wp2
              go_ret2
              exact ⟨_, _, rfl, rsnd_nil _, rev_nil _, h0.out.end_ HX.out (Nat.le_succ n) (keepB hb02.out hw)⟩
            · go_upto_region 12 with fail
              try rw [e9]
              clear e9
              replace d12 := keep hb9 d12
              replace d3 := keep hb9 d3
              replace c0 := keep hb9 c0
              replace c26 := keep hb9 c26
              replace c27 := keep hb9 c27
              replace c32 := keep hb9 c32
              obtain ⟨an, ag, ak, ast, aop⟩ := a
              have k0' : w9.cell? ⟨wr.heap.size, 0, none⟩ = some (.int .i64 an) := by rw [cell_of_row w9 _ _ _ _ _ hr9]; rfl
              have k2' : w9.cell? ⟨wr.heap.size, 2, none⟩ = some (.string ak) := by rw [cell_of_row w9 _ _ _ _ _ hr9]; rfl
              have k4' : w9.cell? ⟨wr.heap.size, 4, none⟩ = some (.bool aop) := by rw [cell_of_row w9 _ _ _ _ _ hr9]; rfl
              replace hr9 := Lib.hid hr9
              replace ha := Lib.hid ha
              replace hs9 := Lib.hid hs9
              clear a0 a1 a2 a3 a4
              go_cut [106] (fun s wx => (∃ b : Bool, s = .bool b) ∧ w9 = wx)
              case first =>
                cases aop
                all_goals
                  go_wp2
                  all_goals
                    go_meet
                    exact ⟨⟨_, rfl⟩, rfl⟩
              case rest =>
                obtain ⟨⟨bb, rfl⟩, rfl⟩ := hcut
                clear k0' k4' c26 c27 c32
                cases bb
                case true =>
                  have hz : x.asks.length ≤ 20000 := hlen.out
                  go_wp2
                  go_roundw
                  case rel => exact ⟨k + 1, by omega, by go_num, hw9⟩
                  case measure => simp [intOf]; omega
                case false =>
                  have hW9 := hW2.out.later hw9
                  obtain ⟨h5, hOb⟩ := RcIn.opn hW9 hl
                  have hbp := (hW9.mia b rfl).2
                  obtain ⟨A9, cap9, e9, _, hA9, _⟩ := own_asksR hW9.rowa
                  cases e9
                  obtain ⟨b9, off9, e9, _, _, _, _, a4, af9⟩ := hA9 k hl
                  cases e9
                  replace af9 := af9 (off + k * 5 + 4)
                  obtain ⟨w5, e5⟩ : ∃ w5, w9.setCell ⟨b, off + k * 5 + 4, none⟩ (.bool false) = w5 := ⟨_, rfl⟩
                  have ho5 := out_set21 w9 b (off + k * 5 + 4) (.bool false)
                  rw [e5] at h5 ho5
                  have hnb : Hid (¬ (w.heap.size = b)) := fun e => hnO.out (e ▸ hOb)
                  have hltb := (hA2.out.lt' b hOb).2
                  have hrs := hw.size
                  have hn7 : Hid (¬ (wr.heap.size = b)) := fun e => by omega
                  have hr5 := Lib.hid (ho5.obj (obj_keep hr2.out hw9) hnb.out)
                  have k7 := ho5.cell k2' hn7.out
                  obtain ⟨_, _, _, d3', _⟩ := h5.cs
                  have d3'' : w5.cell? ⟨p, 3, none⟩ = some (.int .i64 x.st) := d3'
                  have hA5 : Hid (RcAt w5 B p K (opnR x k) O) := ⟨_, _, _, h5⟩
                  have hoT : Hid (Out O w w5) := (Out.of_below (keepB hb02.out hw9)).trans' (ho5.mono fun j e => e ▸ hOb)
                  have hbB : Hid (Below B w w5) := hoT.out.below hB fun j hj => (hlt.out j hj).1
                  have HRd := Lib.hid (rcRd_any hA5.out (HX.out.opn hl) hn'.out m hk.out)
                  have HVa := Lib.hid (rcValue_any hA5.out (HX.out.opn hl) hn'.out m)
                  have HSa := Lib.hid (rcSafe_any hA5.out (HX.out.opn hl) hn'.out (fun w' hb => HC.out w' (hbB.out.trans hb)) hf m)
                  clear h5 ho5 k2' hA9 hW9 d3' hA c0
                  cases t1 : (x.st == 1)
                  all_goals
                    go_wp2_with (first
                      | (refine wpList_load_cells rfl 85 _ rfl ⟨w.heap.size, 0, none⟩ rfl m.vs _ (row_of_obj hr5.out) Tryz.underlying85 rfl info_rmsgH ?_)
                      | (go_at_call 115; refine HRd.out.mono ?_; rintro e w6 ⟨v, rfl, hR, hE⟩)
                      | (go_at_call 117; refine HVa.out.mono ?_; rintro e w6 ⟨v, rfl, hR, hE⟩)
                      | (go_at_call 116; refine HSa.out.mono ?_; rintro e w6 ⟨v, u, rfl, hV, hR, hE⟩))
                    all_goals
                      go_ret2
                      first
                        | exact ⟨_, _, rfl, rsnd_nil _, hR, rc_thru hoT.out hE hlt.out hB⟩
                        | exact ⟨_, _, rfl, hV, hR, rc_thru hoT.out hE hlt.out hB⟩
          · have ki : ¬ ((k : Int) < (x.asks.length : Int)) := by omega
            go_wp2
            go_ret2
            exact ⟨_, _, rfl, rsnd_nil _, rev_nil _, h0.out.end_ HX.out (Nat.le_succ n) (keepB hb02.out hw)⟩
end
end Go.Proofs.YtjgloipgnnigmaaGreatDoor
