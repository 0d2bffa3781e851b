/- The client's Handle. -/
import Derived.Test.YtjgloipgnnigmaaGreatDoorJ7
import Derived.Test.YtjgloipgnnigmaaGreatDoorJ9
import Derived.Test.YtjgloipgnnigmaaGreatDoorCliSafe21
import Derived.Test.YtjgloipgnnigmaaGreatDoorMsgF10
import Derived.Deep.DeepCutAuto
set_option linter.unusedVariables false
set_option linter.unusedSimpArgs false
namespace Go.Proofs.YtjgloipgnnigmaaGreatDoor
open Go.RowKit Go.Shelf Go.Sort

section
variable {w : World} {B p : Nat} {K : CliK} {x : CliD} {O : Nat → Prop}
/-- Where nothing is done. -/
theorem hand_none {w' : World} {m : MsgV} {fm : Bool} (h : CliAt w B p K x O) (hB : B ≤ w.heap.size) (hb : Below w.heap.size w w') (hK : handK K.ses x m fm = 0) :
    HandPost w B p K O (handD K.c K.ses x m fm) (handL K.c K.ses x m fm) (handEv K.ses x m fm) (.returned (.tuple #[.slice none 0 0, .slice none 0 0])) w' := by
  have e1 : handD K.c K.ses x m fm = x := by simp [handD, hK]
  have e2 : handL K.c K.ses x m fm = [] := by simp [handL, hK]
  have e3 : handEv K.ses x m fm = [] := by simp [handEv, hK]
  rw [e1, e2, e3]
  exact ⟨_, [], _, rfl, SndsAt.nil _ _, own_nil _ _ _ _, h.stay hb hB, Out.of_below hb⟩
theorem hand_wide {w2 w3 w4 w' : World} {y : CliD} (hb2 : Below w.heap.size w w2) (ho3 : Out O w2 w3) (hb4 : Below w3.heap.size w3 w4) (ho5 : Out (ext O w2 w3) w4 w') (hA : CliAt w' B p K y (ext (ext O w2 w3) w4 w')) (hlt : ∀ k, O k → B ≤ k ∧ k < w.heap.size) (hB : B ≤ w.heap.size) :
    CliAt w' B p K y (ext O w w') ∧ Out O w w' := by
  have s1 := hb2.size
  have s2 := ho3.size
  have s3 := hb4.size
  have s4 := ho5.size
  refine ⟨?_, ((((Out.of_below hb2).trans' ho3).trans' (Out.of_below hb4)).trans (ho5.mono fun k hk => hk.elim .inl (fun q => .inr ⟨by omega, by have := q.2; omega⟩)))⟩
  obtain ⟨a1, a2, a3, a4, hI⟩ := hA
  refine ⟨a1, a2, a3, a4, hI.mono (fun k hk => ?_) (fun k hk => ?_)⟩
  · rcases hk with (q | q) | q
    · exact .inl q
    · exact .inr ⟨by omega, by have := q.2; omega⟩
    · exact .inr ⟨by omega, q.2⟩
  · rcases hk with q | q
    · exact ⟨(hlt k q).1, by have := (hlt k q).2; omega⟩
    · exact ⟨by omega, q.2⟩
theorem safeK_le (x : CliD) : safeK x = 0 ∨ safeK x = 1 ∨ safeK x = 2 ∨ safeK x = 3 := by
  unfold safeK
  split
  · exact .inl rfl
  · split
    · exact .inr (.inl rfl)
    · split
      · exact .inr (.inr (.inl rfl))
      · exact .inr (.inr (.inr rfl))
theorem safe_any {N : Nat} (h : CliAt w B p K x O) (hB : B ≤ w.heap.size) (hC : ∀ w', Below B w w' → CfgAt w' K.c K.A K.B) (hf : formedB K.c = true) (hca : K.c.reps.length ≤ K.ca) (hI : CliInv K.c N x) (hN : N ≤ 100000) (hks : ∀ k ∈ x.keys, k.size ≤ 9223372036854775807) (m : MsgV) :
    Calls Tryz.prog 50 #[.pointer (some ⟨p, 0, none⟩), .agg m.vs] w (HandPost w B p K O (safeD K.c (lowS x m)) (safeL K.c (lowS x m)) (safeEv K.ses (lowS x m))) := by
  rcases safeK_le (lowS x m) with q | q | q | q
  · exact safe_more h hB m q
  · exact safe_behind h hB m q
  · exact safe_read h hB hC hf hca hI hN hks m q
  · exact safe_all h hB hI m q
theorem field_id (a b : Int) (A C : Option Addr) (n k c d : Nat) (w : World) : (Instr.field 37 (.agg #[.int .i64 a, .int .i64 b, .slice A n k, .slice C c d]) 0).run Tryz.prog w = .ok (.agg #[.int .i64 a, .int .i64 b]) w := by kernel_rfl
theorem hand_max {w : World} {vr vw va vk : Value} (h : CliIn w B p K x vr vw va vk O) (n : Nat) :
    ∃ w1, (w.setCell ⟨p, 7, none⟩ (.int .u64 (max (x.floor : Int) (n : Int)))).drew = w1 ∧ CliAt w1 B p K { x with floor := max x.floor n } O ∧ Out O w w1 := by
  have h1 := h.s7 (max x.floor n)
  have e : ((max x.floor n : Nat) : Int) = max (x.floor : Int) (n : Int) := by omega
  rw [e] at h1
  exact ⟨_, rfl, ⟨_, _, _, _, h1.later (below_drew (Below.refl _ _))⟩, (out_p h.hp (Out.refl _ _)).trans' (Out.of_below (below_drew (Below.refl _ _)))⟩
theorem CliAt.ext1 {w' w3 : World} {y : CliD} {O' : Nat → Prop} (h : CliAt w' B p K y O') (hB : B ≤ w3.heap.size) : CliAt w' B p K y (ext O' w3 w') := by
  obtain ⟨a1, a2, a3, a4, hI⟩ := h
  exact ⟨a1, a2, a3, a4, hI.mono (fun k hk => .inl hk) (fun k hk => hk.elim (hI.lt k) (fun q => ⟨by omega, q.2⟩))⟩
theorem CliIn.inr {w' : World} {vr vw va vk : Value} (h : CliIn w B p K x vr vw va vk O) {l : List Rd} (hr : w'.ownsRow B 75 2 vr l.length (rdCells l)) (ho : Out (fun k => vr.ownBlock = some k) w w') : CliIn w' B p K { x with rds := l } vr vw va vk O :=
  { h with blk := ho.obj h.blk (fun e => (h.mir p e).2 rfl), rowr := hr, roww := ho.row h.roww (fun g hg e => h.prw g e hg), rowa := ho.row h.rowa (fun g hg e => h.pra g e hg), rowk := ho.row h.rowk (fun g hg e => h.prk g e hg), lt := fun k hk => ⟨(h.lt k hk).1, Nat.lt_of_lt_of_le (h.lt k hk).2 ho.size⟩ }
theorem info_rd21 : (Tryz.prog.info? 75).map (fun i => (i.zero, i.size, i.bytes)) = some (some (.agg #[.string ByteArray.empty, .int .u64 0]), 2, 24) := by kernel_rfl
theorem one_cell_rd21 {s : ByteArray} {n : Int} : ∀ u ∈ [Value.string s, .int .u64 n], u.oneCell' = true := fun u hu => by
  simp at hu; rcases hu with rfl | rfl <;> rfl
theorem read_nodup {N : Nat} (hI : CliInv K.c N x) (h1 : x.state = 1) (m : MsgV) (hb : answB x m = true) : ((x.rds ++ [(⟨m.key, m.ver⟩ : Rd)]).map Rd.key).Nodup ∧ x.rds.length ≤ 5 := by
  obtain ⟨o1, o2, o3, o4⟩ := hI.one (inTxn_1 h1)
  obtain ⟨a1, a2, a3, a4⟩ := answ_spec hb
  have hmem := mem_answA hb
  have hk : m.key ∈ x.asks.map AskD.key := by rw [← a3]; exact List.mem_map_of_mem hmem
  obtain ⟨n1, n2, n3⟩ := List.nodup_append.1 o3
  refine ⟨?_, by have : 0 < x.asks.length := by omega
                 omega⟩
  rw [List.map_append, List.nodup_append]
  refine ⟨n1, by simp, fun a ha b hb => ?_⟩
  have : b = m.key := by simpa using hb
  rw [this]
  exact n3 a ha _ hk
theorem cliSz_ins (h : CliSz x) (m : MsgV) (hm : m.key.size ≤ 9223372036854775807) : CliSz { x with rds := insR x.rds ⟨m.key, m.ver⟩ } := ⟨fun y hy => by
  have := (insR_perm x.rds ⟨m.key, m.ver⟩).subset hy
  rcases List.mem_append.1 this with q | q
  · exact h.r y q
  · rw [List.mem_singleton.1 q]; exact hm, h.w, h.a, h.k⟩
theorem cliSz_answ (h : CliSz x) (m : MsgV) : CliSz (answD x m) := ⟨h.r, h.w, fun y hy => h.a y (mem_erase hy), h.k⟩
set_option maxRecDepth 100000 in
set_option maxHeartbeats 16000000 in
theorem hand_any {N : Nat} (h : CliAt w B p K x O) (hB : B ≤ w.heap.size) (hC : ∀ w', Below B w w' → CfgAt w' K.c K.A K.B) (hT : ∀ w', Below B w w' → Tabs w') (hf : formedB K.c = true) (hca : K.c.reps.length ≤ K.ca) (hI : CliInv K.c N x) (hN : N ≤ 100000) (hz : CliSz x) (m : MsgV) (hm : MsgAt w m) :
    Calls Tryz.prog 13 #[.pointer (some ⟨p, 0, none⟩), .agg m.vs] w fun e w' => ∃ fm, HandPost w B p K O (handD K.c K.ses x m fm) (handL K.c K.ses x m fm) (handEv K.ses x m fm) e w' := by
  obtain ⟨W, eW, HB, hszW, hrW⟩ := boxed w m.vs 43
  obtain ⟨c0, c1, c2, c3, c4, c5, c6, c7, c8, c9, c10, c11, c12, c13, c14, c15, c16, c17, c18, c19, c20, c21, c22, c23, c24, c25, c26, c27, c28, c29, c30, c31, c32, c33⟩ := msg_cs hrW
  clear c1 c2 c3 c4 c5 c6 c7 c8 c9 c10 c11 c12 c13 c14 c15 c16 c17 c18 c19 c20 c23 c26 c32 c33 hszW
  have hlt := Lib.hid h.lt'
  have hFm : Hid (Calls Tryz.prog 45 #[.agg m.vs] W (SomeB W)) := msgFormed_some m W (hm.later HB) (hT W (HB.mono hB))
  have hrow : Hid (W.heap[w.heap.size]? = some (.cells m.vs 43 (0, 0))) := hrW
  have h0 := Lib.hid h
  have hmk := Lib.hid hm.k
  replace hI := Lib.hid hI
  replace hz := Lib.hid hz
  clear hrW hm h
  go_enter Tryz.func13, Tryz.ntmps13
  go_wp2_with (first
    | (refine wpList_load_cells rfl 43 _ rfl ⟨w.heap.size, 0, none⟩ rfl m.vs _ (row_of_obj hrow.out) Tryz.underlying43 rfl info_msg34 ?_)
    | (go_at_call 45; refine hFm.out.mono ?_; rintro e w1 ⟨r, rfl, hb⟩; replace c0 := keep hb c0; replace c21 := keep hb c21; replace c22 := keep hb c22; replace c24 := keep hb c24; replace c25 := keep hb c25; replace c27 := keep hb c27; replace c28 := keep hb c28; replace c29 := keep hb c29; replace c30 := keep hb c30; replace c31 := keep hb c31; have hrow1 := Lib.hid (obj_keep hrow.out hb); have hb1 := Lib.hid (keepB HB hb); have hsW := Lib.hid (Nat.lt_of_lt_of_le (Array.getElem?_eq_some_iff.1 hrow.out).1 hb.size); clear hb; cases r))
  · go_ret2
    exact ⟨false, hand_none h0.out hB hb1.out rfl⟩
  · have hA1 := Lib.hid (CliAt.later h0.out hb1.out)
    have hB1 : B ≤ w1.heap.size := Nat.le_trans hB hb1.out.size
    by_cases hk : m.kind = 11 ∧ x.state = 2
    · obtain ⟨hk1, hk2⟩ := hk
      have q11 : (m.kind == 11) = true := by rw [beq_iff_eq]; exact hk1
      have q13 : (m.kind == 13) = false := by rw [beq_eq_false_iff_ne, hk1]; decide
      have q2 : ((x.state : Int) == 2) = true := by rw [beq_iff_eq]; omega
      have HTx : Hid (∀ wz, Below w1.heap.size w1 wz → Calls Tryz.prog 24 #[.pointer (some ⟨p, 0, none⟩)] wz fun e w' => ∃ A5 A6 k5 k6, e = .returned (.agg #[.int .i64 K.ses, .int .i64 (x.seq : Int), .slice A5 x.rds.length k5, .slice A6 x.wrs.length k6]) ∧ Below wz.heap.size wz w') := fun wz hb => by
        have := txn_any (CliAt.later hA1.out hb) hz.out hI.out.rn hI.out.wn
        rw [show txnD K.ses x = ⟨K.ses, x.seq, x.rds, x.wrs⟩ by rw [txnD, if_pos (inTxn_2 hk2)]] at this
        exact this.mono fun e w' ⟨A, C, ca, cb, e1, _, _, _, e2⟩ => ⟨A, C, ca, cb, e1, e2⟩
      have hId := eqlId m.ids m.idq K.ses (x.seq : Int)
      obtain ⟨bI, hbI⟩ : ∃ r, idEqB m.ids m.idq K.ses (x.seq : Int) = r := ⟨_, rfl⟩
      rw [hbI] at hId
      have hK0 : bI = false → Hid (handK K.ses x m true = 0) := fun e => by
        subst e
        have : ¬ (m.ids = K.ses ∧ m.idq = x.seq) := fun q => by rw [idEqB, q.1, q.2] at hbI; simp at hbI
        show _ = _
        simp [handK, hk1, hk2, this]
      have hK1 : bI = true → Hid (handK K.ses x m true = 1 ∧ m.ids = K.ses ∧ m.idq = x.seq) := fun e => by
        subst e
        have : m.ids = K.ses ∧ m.idq = x.seq := by simpa [idEqB] using hbI
        show _ ∧ _
        exact ⟨by simp [handK, hk1, hk2, this], this⟩
      replace hbI := Lib.hid hbI
      have hfl := fun A C k d w => field_id K.ses (x.seq : Int) A C x.rds.length k x.wrs.length d w
      obtain ⟨vr, vw, va, vk, hW1⟩ := hA1.out
      obtain ⟨_, _, d2, d3, _⟩ := hW1.cs
      clear hW1 hk2 hk1
      go_region_held3 (fun w' => w'.cell? ⟨w.heap.size, 0, none⟩ = some (.int .i64 m.kind) ∧ w'.cell? ⟨p, 3, none⟩ = some (.int .i64 (x.state : Int)) ∧ w'.cell? ⟨w.heap.size, 21, none⟩ = some (.int .i64 m.ids) ∧ w'.cell? ⟨w.heap.size, 22, none⟩ = some (.int .i64 m.idq))
        (first | exact ⟨c0, d3, c21, c22⟩ | (with_reducible exact ⟨keep hbT c0, keep hbT d3, keep hbT c21, keep hbT c22⟩))
        (first | (go_at_call 24; refine (HTx.out _ (below_drew (Below.refl _ _))).mono ?_; rintro e w2 ⟨A5, A6, k5, k6, rfl, hb⟩; have hbT : Below w1.heap.size w1 w2 := keepB (below_drew (Below.refl _ _)) hb))
      have hb2 := Lib.hid (keepB hb1.out hbT)
      replace c25 := keep hbT c25
      replace c24 := keep hbT c24
      replace c21 := keep hbT c21
      replace c22 := keep hbT c22
      replace c0 := keep hbT c0
      have hA2 := Lib.hid (CliAt.later hA1.out hbT)
      have hB2 : B ≤ w2.heap.size := Nat.le_trans hB hb2.out.size
      have hnO : Hid (¬ O w.heap.size) := fun e => by have := (hlt.out _ e).2; omega
      clear d3 hA1
      cases bI
      · have HK := hK0 rfl
        clear hK0 hK1
        go_wp2
        go_ret2
        exact ⟨true, hand_none h0.out hB hb2.out HK.out⟩
      · have HK := hK1 rfl
        have hRest := Lib.hid (rest_any hA2.out hB2)
        have hyy : Hid ((restD x).floor = x.floor) := rfl
        have hE : Hid (handD K.c K.ses x m true = { restD x with floor := if m.y then max x.floor m.st else x.floor } ∧ handL K.c K.ses x m true = [] ∧ handEv K.ses x m true = [(⟨2, m.ids, m.idq, noStr, noVal, 0, m.y, m.st, 0⟩ : EvD)]) := by
          show _ ∧ _ ∧ _
          rw [handD, handL, handEv, HK.out.1, HK.out.2.1, HK.out.2.2]
          exact ⟨rfl, rfl, rfl⟩
        clear hK0 hK1 HK
        cases hy : m.y
        all_goals
          rw [hy] at c25 hE
          replace hE := Lib.hid hE.out
        · go_wp2_with (go_at_call 41; refine hRest.out.mono ?_; rintro e w3 ⟨rfl, hA3, ho3⟩; replace c25 := ho3.cell c25 hnO.out; replace c24 := ho3.cell c24 hnO.out; replace c21 := ho3.cell c21 hnO.out; replace c22 := ho3.cell c22 hnO.out; replace c0 := ho3.cell c0 hnO.out; have hs3 := ho3.size; replace hA3 := Lib.hid hA3; replace ho3 := Lib.hid ho3)
          go_region
          change Exit.then _ _ _ _ (World.drew (World.alloc w3 (.cells (⟨2, m.ids, m.idq, noStr, noVal, 0, false, m.st, 0⟩ : EvD).vs 71)))
          obtain ⟨w5, e5, hb5, hr5⟩ : ∃ w5, World.drew (World.alloc w3 (.cells (⟨2, m.ids, m.idq, noStr, noVal, 0, false, m.st, 0⟩ : EvD).vs 71)) = w5 ∧ Below w3.heap.size w3 w5 ∧ w5.heap[w3.heap.size]? = some (.cells (⟨2, m.ids, m.idq, noStr, noVal, 0, false, m.st, 0⟩ : EvD).vs 71 (0, 0)) := ⟨_, rfl, below_drew (below1 _ _), heap_alloc_new w3 _⟩
          rw [e5]
          clear e5
          go_wp2
          go_ret2
          have hE' := hE.out
          refine ⟨true, ?_⟩
          rw [hE'.1, hE'.2.1, hE'.2.2]
          have hO5 : w5.ownsRow w.heap.size 71 11 (.slice (some ⟨w3.heap.size, 0, none⟩) 1 1) 1 (evCells [(⟨2, m.ids, m.idq, noStr, noVal, 0, false, m.st, 0⟩ : EvD)]) := by
            have := own_one (base := w.heap.size) hr5 (ev_size _) (by have := hb2.out.size; omega)
            simpa [evCells] using this
          refine ⟨_, [], _, rfl, SndsAt.nil _ _, hO5, ?_, ((Out.of_below hb2.out).trans' ho3.out).trans' (Out.of_below hb5)⟩
          exact CliAt.wide (w0 := w) (w1 := w2) (w2 := w3) hA3.out (by have := hb2.out.size; omega) hs3 hb5 hlt.out hB
        · go_wp2_with (go_at_call 41; refine hRest.out.mono ?_; rintro e w3 ⟨rfl, hA3, ho3⟩; replace c25 := ho3.cell c25 hnO.out; replace c24 := ho3.cell c24 hnO.out; replace c21 := ho3.cell c21 hnO.out; replace c22 := ho3.cell c22 hnO.out; replace c0 := ho3.cell c0 hnO.out; have hs3 := ho3.size; obtain ⟨vr, vw, va, vk, hI3⟩ := hA3; obtain ⟨_, _, _, _, _, _, _, d7, _⟩ := hI3.cs; have f7 := hI3.fz 7; obtain ⟨w4, ew4, hA4, ho4⟩ := hand_max hI3 m.st; have hs4 := ho4.size; replace ho3 := Lib.hid ho3; replace hA4 := Lib.hid hA4; clear hI3)
          go_region
          try rw [ew4]
          have hnO4 : ¬ ext O w2 w3 w.heap.size := fun e => e.elim hnO.out (fun q => by have := hsW.out; have := hbT.size; omega)
          replace c25 := ho4.cell c25 hnO4
          replace c24 := ho4.cell c24 hnO4
          replace c21 := ho4.cell c21 hnO4
          replace c22 := ho4.cell c22 hnO4
          replace ho4 := Lib.hid ho4
          clear ew4 hnO4
          go_wp2
          go_region
          change Exit.then _ _ _ _ (World.drew (World.alloc w4 (.cells (⟨2, m.ids, m.idq, noStr, noVal, 0, true, m.st, 0⟩ : EvD).vs 71)))
          obtain ⟨w5, e5, hb5, hr5⟩ : ∃ w5, World.drew (World.alloc w4 (.cells (⟨2, m.ids, m.idq, noStr, noVal, 0, true, m.st, 0⟩ : EvD).vs 71)) = w5 ∧ Below w4.heap.size w4 w5 ∧ w5.heap[w4.heap.size]? = some (.cells (⟨2, m.ids, m.idq, noStr, noVal, 0, true, m.st, 0⟩ : EvD).vs 71 (0, 0)) := ⟨_, rfl, below_drew (below1 _ _), heap_alloc_new w4 _⟩
          rw [e5]
          clear e5
          go_wp2
          go_ret2
          have hE' := hE.out
          refine ⟨true, ?_⟩
          rw [hE'.1, hE'.2.1, hE'.2.2]
          have hO5 : w5.ownsRow w.heap.size 71 11 (.slice (some ⟨w4.heap.size, 0, none⟩) 1 1) 1 (evCells [(⟨2, m.ids, m.idq, noStr, noVal, 0, true, m.st, 0⟩ : EvD)]) := by
            have := own_one (base := w.heap.size) hr5 (ev_size _) (by have := hb2.out.size; omega)
            simpa [evCells] using this
          have hA5 := CliAt.ext1 (w3 := w3) (CliAt.later hA4.out hb5) (by omega)
          obtain ⟨g1, g2⟩ := hand_wide (w3 := w3) (w4 := w3) hb2.out ho3.out (Below.refl _ _) (ho4.out.trans' (Out.of_below hb5)) hA5 hlt.out hB
          exact ⟨_, [], _, rfl, SndsAt.nil _ _, hO5, g1, g2⟩
    · have q11 : (m.kind == 11) = false ∨ ((m.kind == 11) = true ∧ ((x.state : Int) == 2) = false) := by
        by_cases e : m.kind = 11
        · exact .inr ⟨by rw [beq_iff_eq]; exact e, by rw [beq_eq_false_iff_ne]; intro e2; exact hk ⟨e, by omega⟩⟩
        · exact .inl (by rw [beq_eq_false_iff_ne]; exact e)
      have hnk : ¬ (m.kind = 11 ∧ x.state = 2 ∧ m.ids = K.ses ∧ m.idq = x.seq) := fun e => hk ⟨e.1, e.2.1⟩
      by_cases h13 : m.kind = 13
      · have q13 : (m.kind == 13) = true := by rw [beq_iff_eq]; exact h13
        have q11' : (m.kind == 11) = false := by rw [beq_eq_false_iff_ne]; omega
        clear q11 hk
        obtain ⟨vr, vw, va, vk, hW1⟩ := hA1.out
        obtain ⟨_, _, d2, d3, _⟩ := hW1.cs
        clear hW1
        go_quiet (fail)
        have hbq : Below w1.heap.size w1 (w1.drewN nq) := below_drewN (Below.refl _ _) _
        obtain ⟨w2, ew2⟩ : ∃ w2, w1.drewN nq = w2 := ⟨_, rfl⟩
        rw [ew2] at hbq
        try rw [ew2]
        replace c0 := keep hbq c0
        replace c24 := keep hbq c24
        replace c27 := keep hbq c27
        replace c28 := keep hbq c28
        replace c29 := keep hbq c29
        replace c30 := keep hbq c30
        replace c31 := keep hbq c31
        have hrow2 := Lib.hid (obj_keep hrow1.out hbq)
        have hA2 := Lib.hid (CliAt.later hA1.out hbq)
        have hb2 := Lib.hid (keepB hb1.out hbq)
        have hs12 := Lib.hid hbq.size
        have hB2 : B ≤ w2.heap.size := Nat.le_trans hB hb2.out.size
        clear ew2 hbq c21 c22 c25
        cases hab : answB x m
        · have HK : Hid (handK K.ses x m true = 0) := by show _ = _; simp [handK, hnk, h13, hab]
          have hAn := Lib.hid (answered_no hA2.out hI.out.an m hab)
          clear hab hnk h13
          go_wp2_with (first
            | (refine wpList_load_cells rfl 43 _ rfl ⟨w.heap.size, 0, none⟩ rfl m.vs _ (row_of_obj hrow2.out) Tryz.underlying43 rfl info_msg34 ?_)
            | (go_at_call 46; refine hAn.out.mono ?_; rintro e w3 ⟨rfl, hb3⟩; have hb3' := Lib.hid (keepB hb2.out hb3)))
          go_ret2
          exact ⟨true, hand_none h0.out hB (keepB hb3'.out (below1 _ _)) HK.out⟩
        · have hnum := answ_spec hab
          have hIa := Lib.hid (hI.out.answ m)
          have hza := Lib.hid (cliSz_answ hz.out m)
          have hkey : Hid ((answA x m).key = m.key) := hnum.2.2.1
          have hsp := Lib.hid hab
          have hnO : Hid (∀ wz : World, Below w.heap.size w wz → ¬ O wz.heap.size) := fun wz hb e => by have := (hlt.out _ e).2; have := hb.size; omega
          have hnOb : Hid (¬ O w.heap.size) := fun e => by have := (hlt.out _ e).2; omega
          obtain ⟨y, hy⟩ : ∃ y, answD x m = y := ⟨_, rfl⟩
          obtain ⟨aa, haa⟩ : ∃ aa, answA x m = aa := ⟨_, rfl⟩
          have hst : y.state = x.state := by rw [← hy]; rfl
          have hAny : Hid (Calls Tryz.prog 46 #[.pointer (some ⟨p, 0, none⟩), .agg m.vs] w2 fun e w' => e = .returned (.tuple #[.agg #[.int .i64 (aa.n : Int), .int .i64 (aa.g : Int), .string aa.key, .int .u64 (aa.st : Int)], .bool true]) ∧ CliAt w' B p K y (ext O w2 w') ∧ Out O w2 w') := by
            show Calls _ _ _ _ _
            rw [← haa, ← hy]
            exact answered_yes hA2.out hB2 hI.out.an m hab
          rw [haa] at hkey
          rw [hy] at hIa hza
          by_cases s1 : x.state = 1
          · have HK : Hid (handK K.ses x m true = 2) := by show _ = _; simp [handK, hnk, h13, hab, s1]
            have q1 : ((y.state : Int) == 1) = true := by rw [beq_iff_eq, hst]; omega
            have hyr : y.rds = x.rds ∧ y.seq = x.seq ∧ y.wrs = x.wrs := by rw [← hy]; exact ⟨rfl, rfl, rfl⟩
            obtain ⟨hnd, hr5⟩ := read_nodup hI.out s1 m hab
            have HE : Hid (handD K.c K.ses x m true = { y with rds := insR y.rds ⟨m.key, m.ver⟩ } ∧ handL K.c K.ses x m true = [] ∧ handEv K.ses x m true = [(⟨1, K.ses, y.seq, m.key, m.val, m.ver, false, 0, 0⟩ : EvD)]) := by
              show _ ∧ _ ∧ _
              rw [handD, handL, handEv, HK.out, hy]
              refine ⟨?_, rfl, ?_⟩
              · show ({ y with rds := insR x.rds ⟨m.key, m.ver⟩ } : CliD) = _
                rw [hyr.1]
              · show [(⟨1, K.ses, (x.seq : Int), m.key, m.val, m.ver, false, 0, 0⟩ : EvD)] = _
                rw [hyr.2.1]
            rw [← hyr.1] at hnd hr5
            have hst1 : y.state = 1 := by rw [hst]; exact s1
            replace hst1 := Lib.hid hst1
            replace hnd := Lib.hid hnd
            have hr5b := Lib.hid hr5
            replace hyr := Lib.hid hyr
            obtain ⟨i0, hi, hz0, hz1, hz2⟩ := info_parts info_rd21
            clear hab hnk h13 hnum s1 hst
            go_wp2_with (first
              | (refine wpList_load_cells rfl 43 _ rfl ⟨w.heap.size, 0, none⟩ rfl m.vs _ (row_of_obj hrow2.out) Tryz.underlying43 rfl info_msg34 ?_)
              | (go_at_call 46; refine hAny.out.mono ?_; rintro e w3 ⟨rfl, hA3, ho3⟩; replace hA3 := Lib.hid hA3; replace ho3 := Lib.hid ho3)
              | (refine wpList_store_new rfl 103 _ _ rfl w3 #[.int .i64 (aa.n : Int), .int .i64 (aa.g : Int), .string aa.key, .int .u64 (aa.st : Int)] 103 rfl rfl rfl info_ask1 rfl oneAsk ?_; intro w4 hb4 hs4 hr4; replace hs4 := Lib.hid hs4; obtain ⟨vr, vw, va, vk, hW4⟩ := CliAt.later hA3.out hb4; obtain ⟨_, _, _, d3, _, _, _, _, c8, _⟩ := hW4.cs; obtain ⟨A8, k8, e8, _⟩ := own_rds hW4.rowr; subst e8; have f8 := hW4.fz 8; have H4 := Lib.hid hW4; have hrow4 := Lib.hid (obj_keep (ho3.out.obj hrow2.out hnOb.out) hb4); have hs34 := hb4.size; have hs23 := ho3.out.size; clear hW4))
            have hB4 : B ≤ w4.heap.size := Nat.le_trans hB2 (Nat.le_trans hs23 hs34)
            obtain ⟨_, _, _, _, _, _, _, _, _, _, _, _, _, _, _, _, _, _, _, _, _, _, _, _, _, _, _, m27, m28, m29, m30, m31, _⟩ := msg_cs hrow4.out
            have hd4 : Below w4.heap.size w4 (w4.alloc (.cells #[.string m.key, .int .u64 (m.ver : Int)] 75)).drew := below_drew (below1 _ _)
            have c8b := keep (below1 w4 (.cells #[.string m.key, .int .u64 (m.ver : Int)] 75)) c8
            have hmo : Hid (¬ ext O w2 w3 w.heap.size) := fun e => e.elim hnOb.out (fun q => by have := hsW.out; have := hb1.out.size; have := hs12.out; omega)
            go_cut [92] (fun s wx => s = .pointer (some ⟨p, 8, none⟩) ∧ ∃ v, CliIn wx B p K { y with rds := y.rds ++ [⟨m.key, m.ver⟩] } v vw va vk (ext (ext O w2 w3) w4 wx) ∧ Out (ext O w2 w3) w4 wx)
            case first =>
              go_region_law (first
                | (refine ready_append_own_at rfl _ _ 34 rfl B 75 i0 _ 2 24 Tryz.underlying34 hi hz0 hz1 hz2 rfl (by decide) (.slice A8 y.rds.length k8) y.rds.length (rdCells y.rds) rfl (own_keep H4.out.rowr hd4) ⟨w4.heap.size, 0, none⟩ 1 1 [.string m.key, .int .u64 (m.ver : Int)] rfl rfl (World.news_of_block (heap_alloc_new w4 _)) one_cell_rd21 (le_maxLen (by omega)) (by omega) (Nat.le_trans hB4 hd4.size) ?_; intro v15 w15 HO15 hg15 hv15; obtain ⟨A15, c15, rfl⟩ := own_form HO15; have hKa := H4.out.later hd4; have hc15 := (hKa.cellr hg15).1; have hf15 := (hKa.cellr hg15).2))
              all_goals
                go_wp2
                go_meet
                have hO15 : w15.ownsRow B 75 2 (.slice A15 (y.rds.length + 1) c15) (y.rds ++ [(⟨m.key, m.ver⟩ : Rd)]).length (rdCells (y.rds ++ [⟨m.key, m.ver⟩])) := by
                  rw [rdCells_snoc, List.length_append]; exact HO15
                have hK15 := hKa.growr (Nat.le_trans hB4 hd4.size) hg15 hO15 (own_or hv15)
                have ho15 : Out (ext O w2 w3) w4 w15 := (Out.of_below hd4).trans' (Out.of_grown hg15 (fun k e => (hKa.mir k e).1))
                have s15 := hg15.size
                refine ⟨rfl, _, hK15.mono (fun k hk => hk.elim .inl (fun q => .inr ⟨by have := hd4.size; omega, by have := q.2; simp [World.setCell]; omega⟩)) (fun k hk => hk.elim (fun q => ⟨(H4.out.lt k q).1, by have := (H4.out.lt k q).2; have := ho15.size; simp [World.setCell]; omega⟩) (fun q => ⟨by omega, q.2⟩)), out_p H4.out.hp ho15⟩
            case rest =>
              obtain ⟨rfl, v, hI5, ho5⟩ := hcut
              obtain ⟨w5, rfl⟩ : ∃ wq : World, wq = wc := ⟨_, rfl⟩
              obtain ⟨_, _, _, _, _, _, _, _, c8e, _⟩ := hI5.cs
              obtain ⟨A9, k9, e9, _⟩ := own_rds hI5.rowr
              subst e9
              have hSort := Lib.hid (sortR_own _ B _ w5 hI5.rowr (by simp; omega) (by simp))
              have hrow5 := ho5.obj hrow4.out hmo
              have hrow5' := Lib.hid hrow5
              have hs45 := ho5.size
              have H5 := Lib.hid hI5
              have hnv : Hid (some w.heap.size ≠ (Value.slice A9 (y.rds ++ [(⟨m.key, m.ver⟩ : Rd)]).length k9).ownBlock) := fun e => (hI5.mir _ e.symm).1.elim hmo (fun q => by have := hsW.out; have := hb1.out.size; have := hs12.out; omega)
              obtain ⟨nl, hnl⟩ : ∃ nl, (y.rds ++ [(⟨m.key, m.ver⟩ : Rd)]).length = nl := ⟨_, rfl⟩
              rw [hnl] at c8e hSort hnv
              replace ho5 := Lib.hid ho5
              clear hI5 hrow5
              go_wp2_with (go_at_call 47; refine hSort.out.mono ?_; rintro e w6 ⟨rfl, ms, hp, hs, hO6, hg6⟩; replace hp := Lib.hid hp; replace hs := Lib.hid hs; replace hO6 := Lib.hid hO6; replace hg6 := Lib.hid hg6)
              obtain rfl : ms = insR y.rds ⟨m.key, m.ver⟩ := sort_ins hp.out hs.out hnd.out
              have hO6' := hg6.out
              rw [← hnl] at hO6'
              have hO6b := hO6.out
              rw [← hnl] at hO6b
              have hA6i := H5.out.inr hO6b (Out.of_grown hO6' (fun k e => e))
              have hA6 : CliAt w6 B p K { y with rds := insR y.rds ⟨m.key, m.ver⟩ } (ext (ext O w2 w3) w4 w5) := ⟨_, _, _, _, hA6i⟩
              have ho6 : Out (ext (ext O w2 w3) w4 w5) w5 w6 := Out.of_grown hO6' (fun k e => (H5.out.mir k e).1)
              have hrow6 := (Out.of_grown (O := fun k => (Value.slice A9 (y.rds ++ [(⟨m.key, m.ver⟩ : Rd)]).length k9).ownBlock = some k) hO6' (fun k e => e)).obj hrow5'.out (fun e => hnv.out (by rw [← hnl]; exact e.symm))
              have hrl : (insR y.rds ⟨m.key, m.ver⟩).length ≤ 6 := by rw [insR_len]; omega
              have hTx : Hid (∀ wz, Below w6.heap.size w6 wz → Calls Tryz.prog 24 #[.pointer (some ⟨p, 0, none⟩)] wz fun e w' => ∃ A5 A6 k5 k6, e = .returned (.agg #[.int .i64 K.ses, .int .i64 (y.seq : Int), .slice A5 (insR y.rds ⟨m.key, m.ver⟩).length k5, .slice A6 y.wrs.length k6]) ∧ Below wz.heap.size wz w') := fun wz hb => by
                have h1 := txn_any (CliAt.later hA6 hb) (cliSz_ins hza.out m hmk.out) hrl (by show y.wrs.length ≤ 6; exact hIa.out.wn)
                rw [show txnD K.ses ({ y with rds := insR y.rds ⟨m.key, m.ver⟩ } : CliD) = ⟨K.ses, y.seq, insR y.rds ⟨m.key, m.ver⟩, y.wrs⟩ by rw [txnD, if_pos (show inTxn ({ y with rds := insR y.rds ⟨m.key, m.ver⟩ } : CliD) = true from inTxn_1 hst1.out)]] at h1
                exact h1.mono fun e w' ⟨A, C, ca, cb, e1, _, _, _, e2⟩ => ⟨A, C, ca, cb, e1, e2⟩
              obtain ⟨_, _, _, _, _, _, _, _, _, _, _, _, _, _, _, _, _, _, _, _, _, _, _, _, _, _, _, t27, t28, t29, t30, t31, _⟩ := msg_cs hrow6
              have hfl := fun A C k d w => field_id K.ses (y.seq : Int) A C (insR y.rds ⟨m.key, m.ver⟩).length k y.wrs.length d w
              have hs56 := ho6.size
              replace hA6 := Lib.hid hA6
              replace ho6 := Lib.hid ho6
              clear hO6' hO6b hA6i hrow6 hrl hSort H5 hO6 hg6 hp hs
              go_region_held3 (fun w' => w'.cell? ⟨w.heap.size, 27, none⟩ = some (.string m.key) ∧ w'.cell? ⟨w.heap.size, 28, none⟩ = some (.int .u64 (m.ver : Int)) ∧ w'.cell? ⟨w.heap.size, 29, none⟩ = some (.int .i64 m.val.kind) ∧ w'.cell? ⟨w.heap.size, 30, none⟩ = some (.int .u64 (m.val.bits : Int)) ∧ w'.cell? ⟨w.heap.size, 31, none⟩ = some (.string m.val.text))
                (first | exact ⟨t27, t28, t29, t30, t31⟩ | (with_reducible exact ⟨keep hbT t27, keep hbT t28, keep hbT t29, keep hbT t30, keep hbT t31⟩) | (with_reducible exact ⟨keep (below1 _ _) (keep hbT t27), keep (below1 _ _) (keep hbT t28), keep (below1 _ _) (keep hbT t29), keep (below1 _ _) (keep hbT t30), keep (below1 _ _) (keep hbT t31)⟩))
                (first | (go_at_call 24; refine (hTx.out _ (below_drew (Below.refl _ _))).mono ?_; rintro e w7 ⟨A5, A6, k5, k6, rfl, hb⟩; have hbT : Below w6.heap.size w6 w7 := keepB (below_drew (Below.refl _ _)) hb))
              change Exit.then _ _ _ _ (World.alloc w7 (.cells (⟨1, K.ses, y.seq, m.key, m.val, m.ver, false, 0, 0⟩ : EvD).vs 71))
              obtain ⟨w8, e8, hb8, hr8⟩ : ∃ w8, World.alloc w7 (.cells (⟨1, K.ses, y.seq, m.key, m.val, m.ver, false, 0, 0⟩ : EvD).vs 71) = w8 ∧ Below w7.heap.size w7 w8 ∧ w8.heap[w7.heap.size]? = some (.cells (⟨1, K.ses, y.seq, m.key, m.val, m.ver, false, 0, 0⟩ : EvD).vs 71 (0, 0)) := ⟨_, rfl, below1 _ _, heap_alloc_new w7 _⟩
              rw [e8]
              clear e8
              go_wp2
              go_ret2
              refine ⟨true, ?_⟩
              rw [HE.out.1, HE.out.2.1, HE.out.2.2]
              have hb68 : Below w6.heap.size w6 w8 := keepB hbT hb8
              have z2 := hb2.out.size
              have z7 := hbT.size
              have z8 := hb68.size
              have ho8 : Out (ext O w2 w3) w4 w8 := (ho5.out.trans ho6.out).trans' (Out.of_below hb68)
              have hA8 : CliAt w8 B p K { y with rds := insR y.rds ⟨m.key, m.ver⟩ } (ext (ext O w2 w3) w4 w8) := by
                obtain ⟨a1, a2, a3, a4, hI8⟩ := CliAt.later hA6.out hb68
                exact ⟨a1, a2, a3, a4, hI8.mono (fun k hk => hk.elim .inl (fun q => .inr ⟨q.1, by have := q.2; omega⟩)) (fun k hk => hk.elim (fun q => hI8.lt k (.inl q)) (fun q => ⟨by omega, q.2⟩))⟩
              obtain ⟨g1, g2⟩ := hand_wide hb2.out ho3.out hb4 ho8 hA8 hlt.out hB
              have hO8 : w8.ownsRow w.heap.size 71 11 (.slice (some ⟨w7.heap.size, 0, none⟩) 1 1) 1 (evCells [(⟨1, K.ses, y.seq, m.key, m.val, m.ver, false, 0, 0⟩ : EvD)]) := by
                have := own_one (base := w.heap.size) hr8 (ev_size _) (by omega)
                simpa [evCells] using this
              exact ⟨_, [], _, rfl, SndsAt.nil _ _, hO8, g1, g2⟩
          · by_cases hne : m.key = noStr
            · have HK : Hid (handK K.ses x m true = 3) := by show _ = _; simp [handK, hnk, h13, hab, s1, haa, hkey.out, hne]
              have q1 : ((y.state : Int) == 1) = false := by rw [beq_eq_false_iff_ne, hst]; omega
              have q5 : aa.key.toList.isEmpty = true := by rw [empty_dec, decide_eq_true_iff, hkey.out]; exact hne
              have HE : Hid (handD K.c K.ses x m true = safeD K.c (lowS y m) ∧ handL K.c K.ses x m true = safeL K.c (lowS y m) ∧ handEv K.ses x m true = safeEv K.ses (lowS y m)) := by
                show _ ∧ _ ∧ _
                rw [handD, handL, handEv, HK.out, if_pos rfl, hy]
                exact ⟨rfl, rfl, rfl⟩
              clear hab hnk h13 hnum hne s1 hst
              go_wp2_with (first
                | (refine wpList_load_cells rfl 43 _ rfl ⟨w.heap.size, 0, none⟩ rfl m.vs _ (row_of_obj hrow2.out) Tryz.underlying43 rfl info_msg34 ?_)
                | (go_at_call 46; refine hAny.out.mono ?_; rintro e w3 ⟨rfl, hA3, ho3⟩; replace hA3 := Lib.hid hA3; replace ho3 := Lib.hid ho3)
                | (refine wpList_store_new rfl 103 _ _ rfl w3 #[.int .i64 (aa.n : Int), .int .i64 (aa.g : Int), .string aa.key, .int .u64 (aa.st : Int)] 103 rfl rfl rfl info_ask1 rfl oneAsk ?_; intro w4 hb4 hs4 hr4; replace hs4 := Lib.hid hs4; obtain ⟨vr, vw, va, vk, hW4⟩ := CliAt.later hA3.out hb4; obtain ⟨_, _, _, d3, _⟩ := hW4.cs; obtain ⟨⟨f0, f1, f2, f3⟩, -⟩ := cellsAsk hr4; have hA4 := Lib.hid (CliAt.later hA3.out hb4); have hrow4 := Lib.hid (obj_keep (ho3.out.obj hrow2.out hnOb.out) hb4); have hs34 := hb4.size; have hs23 := ho3.out.size; have hb04 : Below B w w4 := (((Out.of_below hb2.out).trans' ho3.out).trans' (Out.of_below hb4)).below hB (fun k hk => (hlt.out k hk).1); have hSafe := Lib.hid (safe_any hA4.out (Nat.le_trans hB2 (Nat.le_trans hs23 hs34)) (fun w' hb => hC w' (hb04.trans hb)) hf hca hIa.out hN hza.out.k m); clear hW4 hb04)
                | (refine wpList_load_cells rfl 43 _ rfl ⟨w.heap.size, 0, none⟩ rfl m.vs _ (row_of_obj hrow4.out) Tryz.underlying43 rfl info_msg34 ?_)
                | (go_at_call 50; refine hSafe.out.mono ?_; rintro e w5 ⟨v5, l5, v6, rfl, hS5, hE5, hA5, ho5⟩; replace hS5 := Lib.hid hS5; replace hE5 := Lib.hid hE5; replace hA5 := Lib.hid hA5; replace ho5 := Lib.hid ho5))
              go_ret2
              refine ⟨true, ?_⟩
              rw [HE.out.1, HE.out.2.1, HE.out.2.2]
              obtain ⟨g1, g2⟩ := hand_wide hb2.out ho3.out hb4 ho5.out hA5.out hlt.out hB
              have hs04 : w.heap.size ≤ w4.heap.size := by have := hb2.out.size; omega
              exact ⟨_, l5, _, rfl, ⟨World.ownsRow.mono hS5.out.row hs04, hS5.out.is, hS5.out.at_, fun s hs2 => (hS5.out.fr s hs2).mono hs04⟩, World.ownsRow.mono hE5.out hs04, g1, g2⟩
            · have HK : Hid (handK K.ses x m true = 4) := by show _ = _; simp [handK, hnk, h13, hab, s1, haa, hkey.out, hne]
              have q1 : ((y.state : Int) == 1) = false := by rw [beq_eq_false_iff_ne, hst]; omega
              have q5 : aa.key.toList.isEmpty = false := by rw [empty_dec, decide_eq_false_iff_not, hkey.out]; exact hne
              have HE : Hid (handD K.c K.ses x m true = seenD y m ∧ handL K.c K.ses x m true = [] ∧ handEv K.ses x m true = seenEv K.ses y m) := by
                show _ ∧ _ ∧ _
                rw [handD, handL, handEv, HK.out, hy]
                exact ⟨rfl, rfl, rfl⟩
              clear hab hnk h13 hnum hne s1 hst
              go_wp2_with (first
                | (refine wpList_load_cells rfl 43 _ rfl ⟨w.heap.size, 0, none⟩ rfl m.vs _ (row_of_obj hrow2.out) Tryz.underlying43 rfl info_msg34 ?_)
                | (go_at_call 46; refine hAny.out.mono ?_; rintro e w3 ⟨rfl, hA3, ho3⟩; replace hA3 := Lib.hid hA3; replace ho3 := Lib.hid ho3)
                | (refine wpList_store_new rfl 103 _ _ rfl w3 #[.int .i64 (aa.n : Int), .int .i64 (aa.g : Int), .string aa.key, .int .u64 (aa.st : Int)] 103 rfl rfl rfl info_ask1 rfl oneAsk ?_; intro w4 hb4 hs4 hr4; replace hs4 := Lib.hid hs4; obtain ⟨vr, vw, va, vk, hW4⟩ := CliAt.later hA3.out hb4; obtain ⟨_, _, _, d3, _⟩ := hW4.cs; obtain ⟨⟨f0, f1, f2, f3⟩, -⟩ := cellsAsk hr4; have hA4 := Lib.hid (CliAt.later hA3.out hb4); have hrow4 := Lib.hid (obj_keep (ho3.out.obj hrow2.out hnOb.out) hb4); have hs34 := hb4.size; have hs23 := ho3.out.size; have hSeen := Lib.hid (seen_any hA4.out (Nat.le_trans hB2 (Nat.le_trans hs23 hs34)) (Nat.le_trans hIa.out.an (by omega)) m); clear hW4)
                | (refine wpList_load_cells rfl 43 _ rfl ⟨w.heap.size, 0, none⟩ rfl m.vs _ (row_of_obj hrow4.out) Tryz.underlying43 rfl info_msg34 ?_)
                | (go_at_call 51; refine hSeen.out.mono ?_; rintro e w5 ⟨v5, rfl, hE5, hA5, ho5⟩; replace hE5 := Lib.hid hE5; replace hA5 := Lib.hid hA5; replace ho5 := Lib.hid ho5))
              go_ret2
              refine ⟨true, ?_⟩
              rw [HE.out.1, HE.out.2.1, HE.out.2.2]
              obtain ⟨g1, g2⟩ := hand_wide hb2.out ho3.out hb4 ho5.out hA5.out hlt.out hB
              exact ⟨_, [], _, rfl, SndsAt.nil _ _, World.ownsRow.mono hE5.out (by have := hb2.out.size; omega), g1, g2⟩
      · have q13 : (m.kind == 13) = false := by rw [beq_eq_false_iff_ne]; exact h13
        have HK : Hid (handK K.ses x m true = 0) := by show _ = _; simp [handK, hnk, h13]
        clear hk hnk h13
        obtain ⟨vr, vw, va, vk, hW1⟩ := hA1.out
        obtain ⟨_, _, d2, d3, _⟩ := hW1.cs
        clear hW1
        rcases q11 with q11 | ⟨q11, q2⟩
        all_goals
          go_quiet (fail)
          go_wp2
          go_ret2
          exact ⟨true, hand_none h0.out hB (keepB hb1.out (below_drewN (Below.refl _ _) _)) HK.out⟩
end
end Go.Proofs.YtjgloipgnnigmaaGreatDoor
