/- message.only, exactly: the fields that a kind uses. -/
import Derived.Test.YtjgloipgnnigmaaGreatDoorJ11
import Derived.Test.YtjgloipgnnigmaaGreatDoorJ7
import Derived.Test.YtjgloipgnnigmaaGreatDoorJ9
import Derived.Lib.OthersKept
import Derived.RegionTactic
import Derived.BigRegion
set_option linter.unusedVariables false
set_option linter.unusedSimpArgs false
namespace Go.Proofs.YtjgloipgnnigmaaGreatDoor
open Go.RowKit Go.Shelf

def onlyS (m o : MsgV) (c : Nat) : MsgV :=
  if c = 72 then if m.has then { o with has := m.has, vr := m.vr, vn := m.vn, ck := m.ck, ct := m.ct, cA := m.cA, cB := m.cB, cca := m.cca, ccb := m.ccb, cis := m.cis, ciq := m.ciq, cg := m.cg, cst := m.cst, cy := m.cy } else { o with has := m.has }
  else if c = 66 then { o with br := m.br, bn := m.bn }
  else if c = 83 then { o with slot := m.slot }
  else if c = 67 then { o with ck := m.ck, ct := m.ct, cA := m.cA, cB := m.cB, cca := m.cca, ccb := m.ccb, cis := m.cis, ciq := m.ciq, cg := m.cg, cst := m.cst, cy := m.cy }
  else if c = 84 then { o with t := m.t, A := m.A, B := m.B, ca := m.ca, cb := m.cb }
  else if c = 73 then { o with ids := m.ids, idq := m.idq }
  else if c = 71 then { o with g := m.g }
  else if c = 80 then { o with st := m.st }
  else if c = 89 then { o with y := m.y }
  else if c = 78 then { o with num := m.num }
  else if c = 75 then { o with key := m.key }
  else if c = 86 then { o with ver := m.ver }
  else if c = 88 then { o with val := m.val }
  else if c = 69 then { o with err := m.err }
  else if c = 68 then { o with D := m.D, data := m.data, cd := m.cd }
  else o
def cmdOf (m : MsgV) : CmdV := ⟨m.ck, m.ct, m.cA, m.cB, m.cca, m.ccb, m.cis, m.ciq, m.cg, m.cst, m.cy⟩
theorem cmd_one (x : CmdV) : x.vs.all (·.oneCell') = true := by simp [CmdV.vs, Value.oneCell']
theorem info_cmd : (Tryz.prog.info? 39).map (·.size) = some 10 := by kernel_rfl
def only0 (m : MsgV) : MsgV := { noMsg with kind := m.kind }
def onlyTo (m : MsgV) (s : ByteArray) (n : Nat) : MsgV := (s.data.toList.take n).foldl (fun o b => onlyS m o b.toNat) (only0 m)
def onlyD (m : MsgV) : MsgV := onlyTo m (fieldsS m.kind) (fieldsS m.kind).size
theorem onlyTo_succ (m : MsgV) (s : ByteArray) {n : Nat} (h : n < s.size) : onlyTo m s (n + 1) = onlyS m (onlyTo m s n) (s[n]'h).toNat := by
  have hl : n < s.data.toList.length := h
  rw [onlyTo, onlyTo, List.take_succ_eq_append_getElem hl, List.foldl_append]
  rfl
theorem Out.sb {O : Nat → Prop} {w w' : World} {b j : Nat} {v : Value} (hb : O b) (h : Out O w w') : Out O w (w'.setCell ⟨b, j, none⟩ v) := h.trans' ((out_set21 w' b j v).mono fun k hk => by rw [hk]; exact hb)
theorem info_msg34 : (Tryz.prog.info? 43).map (·.size) = some 34 := by kernel_rfl
theorem iterAt_out (w : World) (k : Nat) (s : ByteArray) (p : Nat) : Out (fun j => j = k) w (w.iterAt k s p) := by
  have h := Lib.below_iterAt (Below.refl k w) (Nat.le_refl k) s p
  refine ⟨h.os, h.tape, h.output, h.size, fun j hj hne => ?_⟩
  rcases Nat.lt_or_ge j k with q | q
  · exact h.block j q
  · have : j ≠ k := hne
    simp [World.iterAt, Array.getElem?_setIfInBounds, Ne.symm this]
set_option maxRecDepth 100000 in
set_option maxHeartbeats 8000000 in
theorem only_any (m : MsgV) (w : World) : Calls Tryz.prog 92 #[.agg m.vs] w (AggPost w (onlyD m).vs) := by
  obtain ⟨W0, eW0, HB0, hsz0, hr0⟩ := boxed w m.vs 43
  obtain ⟨W, eW, HBa, hszA, hrA⟩ := boxed W0 #[.int .i64 0, .int .u32 0, .int .i64 0, .int .i64 0, .bool false, .int .u32 0, .int .i64 0, .int .i64 0, .int .i64 0, .int .i64 0, .slice none 0 0, .slice none 0 0, .int .i64 0, .int .i64 0, .int .i64 0, .int .u64 0, .bool false, .int .i64 0, .int .i64 0, .slice none 0 0, .slice none 0 0, .int .i64 0, .int .i64 0, .int .i64 0, .int .u64 0, .bool false, .int .i64 0, .string ⟨#[]⟩, .int .u64 0, .int .i64 0, .int .u64 0, .string ⟨#[]⟩, .int .i64 0, .slice none 0 0] 43
  have HB := keepB HB0 HBa
  have hr1 := obj_keep hr0 HBa
  obtain ⟨s, hs⟩ : ∃ s, fieldsS m.kind = s := ⟨_, rfl⟩
  have hasc : Hid (∀ i (h : i < s.size), (s[i]'h).toNat < 128) := by
    intro i h
    have := fields_ascii m.kind
    rw [hs] at this
    exact this _ (List.getElem_mem (l := s.data.toList) h)
  have HF : Hid (∀ wz, Calls Tryz.prog 90 #[.int .i64 m.kind] wz fun e w' => e = .returned (.string s) ∧ wz = w') := fun wz => by rw [← hs]; exact fields_any m.kind wz
  have HD : Hid (onlyD m = onlyTo m s s.size) := by show _ = _; rw [onlyD, hs]
  rw [HD.out]
  obtain ⟨c0, _⟩ := msg_cs hr1
  replace hr1 := Lib.hid hr1
  replace hrA := Lib.hid hrA
  replace hsz0 := Lib.hid hsz0
  replace hszA := Lib.hid hszA
  clear hr0 hs
  go_enter Tryz.func92, Tryz.ntmps92
  go_wp2_with (first
    | (refine wpList_store_new rfl 43 _ _ rfl W (only0 m).vs 43 rfl rfl rfl info_msg34 rfl (msg_one _) ?_; intro w3 hb3 hs3 hr3; replace c0 := keep hb3 c0; replace hs3 := Lib.hid hs3)
    | (go_at_call 90; refine (HF.out _).mono ?_; rintro e w4 ⟨rfl, rfl⟩))
  have z0 := HB0.size
  have z1 := hsz0.out
  have z2 := hszA.out
  have HB3 := keepB HB hb3
  have hr1' := Lib.hid (obj_keep hr1.out hb3)
  have hrA' := Lib.hid (obj_keep hrA.out hb3)
  have hr3' := Lib.hid hr3

  have z3 := hs3.out
  have hi0 := Lib.hid (World.iter_heap w3 s 0)
  have hbi : Below w3.heap.size w3 (w3.iter s 0) := below1 _ _
  go_loopw [5] (fun _ wr => ∃ pos : Nat, pos ≤ s.size ∧ Hid (wr.heap[w3.heap.size]? = some (.stringIter s pos)) ∧ Hid (wr.heap[W.heap.size]? = some (.cells (onlyTo m s pos).vs 43 (0, 0))) ∧ Hid (wr.heap[w.heap.size]? = some (.cells m.vs 43 (0, 0))) ∧ Hid (wr.heap[W0.heap.size]? = some (.cells #[.int .i64 0, .int .u32 0, .int .i64 0, .int .i64 0, .bool false, .int .u32 0, .int .i64 0, .int .i64 0, .int .i64 0, .int .i64 0, .slice none 0 0, .slice none 0 0, .int .i64 0, .int .i64 0, .int .i64 0, .int .u64 0, .bool false, .int .i64 0, .int .i64 0, .slice none 0 0, .slice none 0 0, .int .i64 0, .int .i64 0, .int .i64 0, .int .u64 0, .bool false, .int .i64 0, .string ⟨#[]⟩, .int .u64 0, .int .i64 0, .int .u64 0, .string ⟨#[]⟩, .int .i64 0, .slice none 0 0] 43 (0, 0))) ∧ Below w.heap.size w wr)
    (fun _ wr => s.size - wr.iterPos w3.heap.size)
  case atStart => exact ⟨0, Nat.zero_le _, hi0, obj_keep hr3'.out hbi, obj_keep hr1'.out hbi, obj_keep hrA'.out hbi, keepB HB3 hbi⟩
  case round =>
    obtain ⟨pos, hps, hk, hro, hrm, hrz, hw⟩ := hrel
    by_cases hp : pos < s.size
    · have hnext : ∀ ty, (Instr.next (.pointer (some ⟨w3.heap.size, 0, none⟩)) true ty).run Tryz.prog wr = _ := fun ty => Lib.run_next_ascii_at wr w3.heap.size s pos ty hk.out hp (hasc.out pos hp)
      have hval := onlyTo_succ m s hp
      have hmu : wr.iterPos w3.heap.size = pos := by simp [World.iterPos, hk.out]
      have hoi := iterAt_out wr w3.heap.size s (pos + 1)
      have hk1 := Lib.iterAt_heap wr w3.heap.size s pos (pos + 1) hk.out
      have hw1 : Below w.heap.size w (wr.iterAt w3.heap.size s (pos + 1)) := Lib.below_iterAt hw (by omega) s (pos + 1)
      obtain ⟨W1, eW1⟩ : ∃ W1, wr.iterAt w3.heap.size s (pos + 1) = W1 := ⟨_, rfl⟩
      rw [eW1] at hnext hoi hk1 hw1
      obtain ⟨o, ho⟩ : ∃ o, onlyTo m s pos = o := ⟨_, rfl⟩
      rw [ho] at hro hval
      have r3 := hoi.obj hro.out (by omega)
      have r1 := hoi.obj hrm.out (by omega)
      have rz := hoi.obj hrz.out (by omega)
      obtain ⟨c0, c1, c2, c3, c4, c5, c6, c7, c8, c9, c10, c11, c12, c13, c14, c15, c16, c17, c18, c19, c20, c21, c22, c23, c24, c25, c26, c27, c28, c29, c30, c31, c32, c33⟩ := msg_cs r1
      obtain ⟨d0, d1, d2, d3, d4, d5, d6, d7, d8, d9, d10, d11, d12, d13, d14, d15, d16, d17, d18, d19, d20, d21, d22, d23, d24, d25, d26, d27, d28, d29, d30, d31, d32, d33⟩ := msg_cs r3
      have fz : ∀ j, W1.frozen? ⟨W.heap.size, j, none⟩ = false := fun j => frozen_of_row W1 W.heap.size j _ _ r3
      obtain ⟨c, hc⟩ : ∃ c, (s[pos]'hp).toNat = c := ⟨_, rfl⟩
      rw [hc] at hnext hval
      have hRel : Hid (∀ wf o', onlyS m o c = o' → Out (fun k => k = W.heap.size) W1 wf → wf.heap[W.heap.size]? = some (.cells o'.vs 43 (0, 0)) → ∃ pos' : Nat, (pos' ≤ s.size ∧ Hid (wf.heap[w3.heap.size]? = some (.stringIter s pos')) ∧ Hid (wf.heap[W.heap.size]? = some (.cells (onlyTo m s pos').vs 43 (0, 0))) ∧ Hid (wf.heap[w.heap.size]? = some (.cells m.vs 43 (0, 0))) ∧ Hid (wf.heap[W0.heap.size]? = some (.cells #[.int .i64 0, .int .u32 0, .int .i64 0, .int .i64 0, .bool false, .int .u32 0, .int .i64 0, .int .i64 0, .int .i64 0, .int .i64 0, .slice none 0 0, .slice none 0 0, .int .i64 0, .int .i64 0, .int .i64 0, .int .u64 0, .bool false, .int .i64 0, .int .i64 0, .slice none 0 0, .slice none 0 0, .int .i64 0, .int .i64 0, .int .i64 0, .int .u64 0, .bool false, .int .i64 0, .string ⟨#[]⟩, .int .u64 0, .int .i64 0, .int .u64 0, .string ⟨#[]⟩, .int .i64 0, .slice none 0 0] 43 (0, 0))) ∧ Below w.heap.size w wf)) := by
        intro wf o' e1 e2 e3
        refine ⟨pos + 1, by omega, e2.obj hk1 (by omega), ?_, e2.obj r1 (by omega), e2.obj rz (by omega), hw1.trans (e2.below (by have := hw1.size; omega) (fun k hk => by omega))⟩
        show _ = _
        rw [hval, e1]
        exact e3
      have hMe : Hid (∀ wf, Out (fun k => k = W.heap.size) W1 wf → s.size - wf.iterPos w3.heap.size < s.size - pos) := by
        intro wf e2
        have : wf.iterPos w3.heap.size = pos + 1 := by simp [World.iterPos, e2.obj hk1 (show ¬ (w3.heap.size = W.heap.size) by omega)]
        rw [this]; omega
      have rcm : Hid (CellRow W1 ⟨w.heap.size, 7, none⟩ (cmdOf m).vs) := row_part r1 (m.vs.toList.take 7) (m.vs.toList.drop 17) _ rfl rfl
      have hne1 : ¬ (w.heap.size = W.heap.size) := by omega
      have hne2 : ¬ (W.heap.size = w.heap.size) := by omega
      have r1h := Lib.hid r1
      replace r3 := Lib.hid r3
      clear hval hoi hk1 eW1 hro hrm hrz ho r1 rz hk hps hc
      have hcc : c = 66 ∨ c = 83 ∨ c = 72 ∨ c = 67 ∨ c = 84 ∨ c = 73 ∨ c = 71 ∨ c = 80 ∨ c = 89 ∨ c = 78 ∨ c = 75 ∨ c = 86 ∨ c = 88 ∨ c = 69 ∨ c = 68 ∨ (c ≠ 66 ∧ c ≠ 83 ∧ c ≠ 72 ∧ c ≠ 67 ∧ c ≠ 84 ∧ c ≠ 73 ∧ c ≠ 71 ∧ c ≠ 80 ∧ c ≠ 89 ∧ c ≠ 78 ∧ c ≠ 75 ∧ c ≠ 86 ∧ c ≠ 88 ∧ c ≠ 69 ∧ c ≠ 68) := by omega
      clear z0 z1 z2 z3
      rcases hcc with rfl | rfl | rfl | rfl | rfl | rfl | rfl | rfl | rfl | rfl | rfl | rfl | rfl | rfl | rfl | ⟨n66, n83, n72, n67, n84, n73, n71, n80, n89, n78, n75, n86, n88, n69, n68⟩
      · go_wp2
        go_roundw
        case rel =>
          refine hRel.out _ { o with br := m.br, bn := m.bn } rfl ?_ ?_
          · ((repeat (refine Out.sb rfl ?_)); exact Out.refl _ _)
          · rw [blk_set21 _ (blk_set21 _ r3.out)]; kernel_rfl
        case measure => rw [hmu]; refine hMe.out _ ?_; ((repeat (refine Out.sb rfl ?_)); exact Out.refl _ _)
      · go_wp2
        go_roundw
        case rel =>
          refine hRel.out _ { o with slot := m.slot } rfl ?_ ?_
          · ((repeat (refine Out.sb rfl ?_)); exact Out.refl _ _)
          · rw [blk_set21 _ r3.out]; kernel_rfl
        case measure => rw [hmu]; refine hMe.out _ ?_; ((repeat (refine Out.sb rfl ?_)); exact Out.refl _ _)
      · cases hh : m.has
        · rw [hh] at c4
          go_wp2
          go_roundw
          case rel =>
            refine hRel.out _ { o with has := false } (by simp [onlyS, hh]) ?_ ?_
            · ((repeat (refine Out.sb rfl ?_)); exact Out.refl _ _)
            · rw [blk_set21 _ r3.out]; kernel_rfl
          case measure => rw [hmu]; refine hMe.out _ ?_; ((repeat (refine Out.sb rfl ?_)); exact Out.refl _ _)
        · rw [hh] at c4
          go_wp2
          have q1 : (W1.setCell ⟨W.heap.size, 4, none⟩ (.bool true)).heap[w.heap.size]? = some (.cells m.vs 43 (0, 0)) := (out_set21 W1 W.heap.size 4 _).obj r1h.out (fun e => hne1 e)
          have q3 : (W1.setCell ⟨W.heap.size, 4, none⟩ (.bool true)).heap[W.heap.size]? = some (.cells ({ o with has := true } : MsgV).vs 43 (0, 0)) := by rw [blk_set21 _ r3.out]; kernel_rfl
          have q4 : Out (fun k => k = W.heap.size) W1 (W1.setCell ⟨W.heap.size, 4, none⟩ (.bool true)) := out_set21 W1 W.heap.size 4 _
          obtain ⟨W2, eW2⟩ : ∃ W2, W1.setCell ⟨W.heap.size, 4, none⟩ (.bool true) = W2 := ⟨_, rfl⟩
          rw [eW2] at q1 q3 q4
          rw [eW2]
          clear c0 c1 c2 c3 c4 c5 c6 c7 c8 c9 c10 c11 c12 c13 c14 c15 c16 c17 c18 c19 c20 c21 c22 c23 c24 c25 c26 c27 c28 c29 c30 c31 c32 c33 d0 d1 d2 d3 d4 d5 d6 d7 d8 d9 d10 d11 d12 d13 d14 d15 d16 d17 d18 d19 d20 d21 d22 d23 d24 d25 d26 d27 d28 d29 d30 d31 d32 d33 fz eW2 hnext
          obtain ⟨c0, c1, c2, c3, c4, c5, c6, c7, c8, c9, c10, c11, c12, c13, c14, c15, c16, _⟩ := msg_cs q1
          obtain ⟨d0, d1, d2, d3, d4, d5, d6, d7, d8, d9, d10, d11, d12, d13, d14, d15, d16, _⟩ := msg_cs q3
          have fz : ∀ j, W2.frozen? ⟨W.heap.size, j, none⟩ = false := fun j => frozen_of_row W2 W.heap.size j _ _ q3
          replace q3 := Lib.hid q3
          clear q1 c0 c1 c2 c3 c4 d0 d1 d2 d3 d4
          go_region
          generalize hS : World.drew _ = wS
          have hSo : Out (fun k => k = W.heap.size) W2 wS := by
            rw [← hS]
            refine Out.trans' ?_ (Out.of_below (below_drew (Below.refl _ _)))
            ((repeat (refine Out.sb rfl ?_)); exact Out.refl _ _)
          have hSr : wS.heap[W.heap.size]? = some (.cells ({ o with has := true, vr := m.vr, vn := m.vn, ck := m.ck, ct := m.ct, cA := m.cA, cB := m.cB, cca := m.cca, ccb := m.ccb, cis := m.cis, ciq := m.ciq, cg := m.cg, cst := m.cst, cy := m.cy } : MsgV).vs 43 (0, 0)) := by
            have hX := blk_set21 (j := 16) (.bool m.cy) (blk_set21 (j := 15) (.int .u64 (m.cst : Int)) (blk_set21 (j := 14) (.int .i64 m.cg) (blk_set21 (j := 13) (.int .i64 m.ciq) (blk_set21 (j := 12) (.int .i64 m.cis) (blk_set21 (j := 11) (.slice m.cB m.ct.wrs.length m.ccb) (blk_set21 (j := 10) (.slice m.cA m.ct.rds.length m.cca) (blk_set21 (j := 9) (.int .i64 m.ct.seq) (blk_set21 (j := 8) (.int .i64 m.ct.ses) (blk_set21 (j := 7) (.int .i64 m.ck) (blk_set21 (j := 6) (.int .i64 m.vn) (blk_set21 (j := 5) (.int .u32 (m.vr : Int)) q3.out)))))))))))
            rw [← hS]
            refine (Out.of_below (O := fun _ => False) (below_drew (Below.refl _ _))).obj (hX.trans ?_) id
            kernel_rfl
          clear hS
          go_wp2
          try go_frame
          go_roundw
          case rel => exact hRel.out _ { o with has := true, vr := m.vr, vn := m.vn, ck := m.ck, ct := m.ct, cA := m.cA, cB := m.cB, cca := m.cca, ccb := m.ccb, cis := m.cis, ciq := m.ciq, cg := m.cg, cst := m.cst, cy := m.cy } (by simp [onlyS, hh]) (Out.trans' q4 hSo) hSr
          case measure => rw [hmu]; exact hMe.out _ (Out.trans' q4 hSo)
      · go_wp2_with (first
          | (refine wpList_load_cells rfl 39 _ rfl ⟨w.heap.size, 7, none⟩ rfl (cmdOf m).vs _ rcm.out Tryz.underlying39 rfl info_cmd ?_)
          | (refine wpList_store_part rfl 39 _ _ rfl W.heap.size 7 (cmdOf m).vs rfl rfl 43 o.vs r3.out info_cmd (by show 7 + 10 ≤ 34; omega) (cmd_one _) ?_; intro wS hrS hgS))
        go_frame
        go_roundw
        case rel =>
          refine hRel.out _ { o with ck := m.ck, ct := m.ct, cA := m.cA, cB := m.cB, cca := m.cca, ccb := m.ccb, cis := m.cis, ciq := m.ciq, cg := m.cg, cst := m.cst, cy := m.cy } rfl (Out.of_grown hgS (fun k e => (Option.some.inj e).symm)) ?_
          rw [hrS]; kernel_rfl
        case measure => rw [hmu]; exact hMe.out _ (Out.of_grown hgS (fun k e => (Option.some.inj e).symm))
      · go_wp2
        go_roundw
        case rel =>
          refine hRel.out _ { o with t := m.t, A := m.A, B := m.B, ca := m.ca, cb := m.cb } rfl ?_ ?_
          · ((repeat (refine Out.sb rfl ?_)); exact Out.refl _ _)
          · rw [blk_set21 _ (blk_set21 _ (blk_set21 _ (blk_set21 _ r3.out)))]; kernel_rfl
        case measure => rw [hmu]; refine hMe.out _ ?_; ((repeat (refine Out.sb rfl ?_)); exact Out.refl _ _)
      · go_wp2
        go_roundw
        case rel =>
          refine hRel.out _ { o with ids := m.ids, idq := m.idq } rfl ?_ ?_
          · ((repeat (refine Out.sb rfl ?_)); exact Out.refl _ _)
          · rw [blk_set21 _ (blk_set21 _ r3.out)]; kernel_rfl
        case measure => rw [hmu]; refine hMe.out _ ?_; ((repeat (refine Out.sb rfl ?_)); exact Out.refl _ _)
      · go_wp2
        go_roundw
        case rel =>
          refine hRel.out _ { o with g := m.g } rfl ?_ ?_
          · ((repeat (refine Out.sb rfl ?_)); exact Out.refl _ _)
          · rw [blk_set21 _ r3.out]; kernel_rfl
        case measure => rw [hmu]; refine hMe.out _ ?_; ((repeat (refine Out.sb rfl ?_)); exact Out.refl _ _)
      · go_wp2
        go_roundw
        case rel =>
          refine hRel.out _ { o with st := m.st } rfl ?_ ?_
          · ((repeat (refine Out.sb rfl ?_)); exact Out.refl _ _)
          · rw [blk_set21 _ r3.out]; kernel_rfl
        case measure => rw [hmu]; refine hMe.out _ ?_; ((repeat (refine Out.sb rfl ?_)); exact Out.refl _ _)
      · go_wp2
        go_roundw
        case rel =>
          refine hRel.out _ { o with y := m.y } rfl ?_ ?_
          · ((repeat (refine Out.sb rfl ?_)); exact Out.refl _ _)
          · rw [blk_set21 _ r3.out]; kernel_rfl
        case measure => rw [hmu]; refine hMe.out _ ?_; ((repeat (refine Out.sb rfl ?_)); exact Out.refl _ _)
      · go_wp2
        go_roundw
        case rel =>
          refine hRel.out _ { o with num := m.num } rfl ?_ ?_
          · ((repeat (refine Out.sb rfl ?_)); exact Out.refl _ _)
          · rw [blk_set21 _ r3.out]; kernel_rfl
        case measure => rw [hmu]; refine hMe.out _ ?_; ((repeat (refine Out.sb rfl ?_)); exact Out.refl _ _)
      · go_wp2
        go_roundw
        case rel =>
          refine hRel.out _ { o with key := m.key } rfl ?_ ?_
          · ((repeat (refine Out.sb rfl ?_)); exact Out.refl _ _)
          · rw [blk_set21 _ r3.out]; kernel_rfl
        case measure => rw [hmu]; refine hMe.out _ ?_; ((repeat (refine Out.sb rfl ?_)); exact Out.refl _ _)
      · go_wp2
        go_roundw
        case rel =>
          refine hRel.out _ { o with ver := m.ver } rfl ?_ ?_
          · ((repeat (refine Out.sb rfl ?_)); exact Out.refl _ _)
          · rw [blk_set21 _ r3.out]; kernel_rfl
        case measure => rw [hmu]; refine hMe.out _ ?_; ((repeat (refine Out.sb rfl ?_)); exact Out.refl _ _)
      · go_wp2
        go_roundw
        case rel =>
          refine hRel.out _ { o with val := m.val } rfl ?_ ?_
          · ((repeat (refine Out.sb rfl ?_)); exact Out.refl _ _)
          · rw [blk_set21 _ (blk_set21 _ (blk_set21 _ r3.out))]; kernel_rfl
        case measure => rw [hmu]; refine hMe.out _ ?_; ((repeat (refine Out.sb rfl ?_)); exact Out.refl _ _)
      · go_wp2
        go_roundw
        case rel =>
          refine hRel.out _ { o with err := m.err } rfl ?_ ?_
          · ((repeat (refine Out.sb rfl ?_)); exact Out.refl _ _)
          · rw [blk_set21 _ r3.out]; kernel_rfl
        case measure => rw [hmu]; refine hMe.out _ ?_; ((repeat (refine Out.sb rfl ?_)); exact Out.refl _ _)
      · go_wp2
        go_roundw
        case rel =>
          refine hRel.out _ { o with D := m.D, data := m.data, cd := m.cd } rfl ?_ ?_
          · ((repeat (refine Out.sb rfl ?_)); exact Out.refl _ _)
          · rw [blk_set21 _ r3.out]; kernel_rfl
        case measure => rw [hmu]; refine hMe.out _ ?_; ((repeat (refine Out.sb rfl ?_)); exact Out.refl _ _)
      · have p66 : ((c : Int) == 66) = false := by rw [beq_eq_false_iff_ne]; omega
        have p83 : ((c : Int) == 83) = false := by rw [beq_eq_false_iff_ne]; omega
        have p72 : ((c : Int) == 72) = false := by rw [beq_eq_false_iff_ne]; omega
        have p67 : ((c : Int) == 67) = false := by rw [beq_eq_false_iff_ne]; omega
        have p84 : ((c : Int) == 84) = false := by rw [beq_eq_false_iff_ne]; omega
        have p73 : ((c : Int) == 73) = false := by rw [beq_eq_false_iff_ne]; omega
        have p71 : ((c : Int) == 71) = false := by rw [beq_eq_false_iff_ne]; omega
        have p80 : ((c : Int) == 80) = false := by rw [beq_eq_false_iff_ne]; omega
        have p89 : ((c : Int) == 89) = false := by rw [beq_eq_false_iff_ne]; omega
        have p78 : ((c : Int) == 78) = false := by rw [beq_eq_false_iff_ne]; omega
        have p75 : ((c : Int) == 75) = false := by rw [beq_eq_false_iff_ne]; omega
        have p86 : ((c : Int) == 86) = false := by rw [beq_eq_false_iff_ne]; omega
        have p88 : ((c : Int) == 88) = false := by rw [beq_eq_false_iff_ne]; omega
        have p69 : ((c : Int) == 69) = false := by rw [beq_eq_false_iff_ne]; omega
        have p68 : ((c : Int) == 68) = false := by rw [beq_eq_false_iff_ne]; omega
        go_wp2
        go_roundw
        case rel => exact hRel.out _ o (by simp only [onlyS, n66, n83, n72, n67, n84, n73, n71, n80, n89, n78, n75, n86, n88, n69, n68, if_false]) (Out.refl _ _) r3.out
        case measure => rw [hmu]; exact hMe.out _ (Out.refl _ _)
    · have ep : pos = s.size := by omega
      have hnext : ∀ ty, (Instr.next (.pointer (some ⟨w3.heap.size, 0, none⟩)) true ty).run Tryz.prog wr = _ := fun ty => Lib.run_next_end_at wr w3.heap.size s pos ty hk.out hp
      have hro2 : Hid (wr.heap[W.heap.size]? = some (.cells (onlyTo m s s.size).vs 43 (0, 0))) := by rw [← ep]; exact hro.out
      have hW0 : w.heap.size ≤ W0.heap.size := z0
      obtain ⟨o, ho⟩ : ∃ o, onlyTo m s s.size = o := ⟨_, rfl⟩
      rw [ho] at hro2
      have ho2 := Lib.hid ho
      replace hW0 := Lib.hid hW0
      clear z0 z1 z2 z3 hro ep ho
      go_wp2_with (first
        | (refine wpList_load_cells rfl 43 _ rfl ⟨W.heap.size, 0, none⟩ rfl o.vs _ (row_of_obj hro2.out) Tryz.underlying43 rfl info_msg34 ?_)
        | (refine wpList_store_row rfl 43 _ _ rfl W0.heap.size o.vs rfl rfl 43 _ hrz.out info_msg34 rfl (msg_one _) ?_))
      refine bodyPost_ret (v := .agg o.vs) (results_cell_row rfl _ _ W0.heap.size _ o.vs _ _ rfl (setRow_heap _ _ _ _ _ _ hrz.out) Tryz.underlying43 rfl info_msg34) rfl ⟨by rw [ho2.out], below_setRow hw hW0.out _⟩
end Go.Proofs.YtjgloipgnnigmaaGreatDoor
