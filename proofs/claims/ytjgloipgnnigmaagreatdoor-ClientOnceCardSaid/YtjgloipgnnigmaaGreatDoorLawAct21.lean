/- parishlaw21.act: what one act makes of the session, and what is told of it. -/
import Derived.Test.YtjgloipgnnigmaaGreatDoorJ19
import Derived.Test.YtjgloipgnnigmaaGreatDoorJ16
import Derived.Test.YtjgloipgnnigmaaGreatDoorJ17
import Derived.Test.YtjgloipgnnigmaaGreatDoorJ13
import Derived.Deep.DeepCutAuto
import Derived.Deep.CutBlock
set_option linter.unusedVariables false
set_option linter.unusedSimpArgs false
namespace Go.Proofs.YtjgloipgnnigmaaGreatDoor
open Go.RowKit Go.Shelf Go.Sort

theorem act_kinds (k : Int) : k = 1 ∨ k = 2 ∨ k = 3 ∨ k = 4 ∨ k = 5 ∨ k = 6 ∨ k = 7 ∨ k = 9 ∨ k = 8 ∨ ((k == 1) = false ∧ (k == 2) = false ∧ (k == 3) = false ∧ (k == 4) = false ∧ (k == 5) = false ∧ (k == 6) = false ∧ (k == 7) = false ∧ (k == 9) = false ∧ (k == 8) = false) := by
  simp only [beq_eq_false_iff_ne]; omega
/-- Behind the switch. -/
def ActSt (w0 : Gap) (w : World) (B p q : Nat) (K : CliK) (n m : Nat) (x : CliD) (wx : World) (a b c d e f : Value) : Prop :=
  ∃ x' ev dd, SndR wx a dd ∧ dd.length ≤ 100 ∧ RSndR wx b ∧ wx.ownsRow w.heap.size 71 11 c ev.length (evCells ev) ∧ ev.length ≤ 1000 ∧ RevR wx d ∧ (∃ z : Int, e = .int .i64 z) ∧ (∃ z : Int, f = .int .i64 z) ∧ (∃ T U, TwoAt w0 wx B p q K (n + 1) (m + 1) x' T U) ∧ Below B w wx ∧ ActIs K x x' ev
def ActPost (w0 : Gap) (w : World) (B p q : Nat) (K : CliK) (n m : Nat) (x : CliD) (e : Ending) (w' : World) : Prop :=
  ∃ (bb : Bool) (v : Value) (x' : CliD) (ev : List EvD), e = .returned (.tuple #[.bool bb, v]) ∧ w'.ownsRow w.heap.size 71 11 v ev.length (evCells ev) ∧ ev.length ≤ 1000 ∧ (∃ T U, TwoAt w0 w' B p q K (n + 1) (m + 1) x' T U) ∧ Below B w w' ∧ ActIs K x x' ev
section
variable {w0 : Gap} {w W w4 w5 : World} {B p q n m T U : Nat} {K : CliK} {x x' : CliD} {a b c d : Value} {dd : List SndD} {ev : List EvD}
theorem actSt_mk {base bs T' U' : Nat} {z1 z2 : Int} (hs : SndF base w4 a dd) (hT : w.heap.size ≤ base) (hd : dd.length ≤ 100) (ho5 : Out (fun k => k < w.heap.size) w4 w5) (hR : RSndR w5 b) (hev : w4.ownsRow bs 71 11 c ev.length (evCells ev)) (hTb : w.heap.size ≤ bs) (hn : ev.length ≤ 1000) (hD : RevR w5 d)
    (hS5 : TwoAt w0 w5 B p q K (n + 1) (m + 1) x' T' U') (hb : Below B w w5) (ha : ActIs K x x' ev) : ActSt w0 w B p q K n m x w5 a b c d (.int .i64 z1) (.int .i64 z2) := by
  obtain ⟨l, hl⟩ := hs
  exact ⟨x', ev, dd, ⟨_, _, hl.out ho5 hT⟩, hd, hR, World.ownsRow.mono (own_out hev ho5 hTb) hTb, hn, hD, ⟨_, rfl⟩, ⟨_, rfl⟩, ⟨_, _, hS5⟩, hb, ha⟩
theorem actSt_no {T' U' : Nat} {z1 z2 : Int} (hR : RSndR w5 b) (hS5 : TwoAt w0 w5 B p q K (n + 1) (m + 1) x' T' U') (hb : Below B w w5) (ha : ActIs K x x' []) : ActSt w0 w B p q K n m x w5 (.slice none 0 0) b (.slice none 0 0) (.slice none 0 0) (.int .i64 z1) (.int .i64 z2) :=
  ⟨x', [], [], ⟨0, [], SndsAt.nil _ _⟩, Nat.zero_le _, hR, own_nil _ _ _ _, Nat.zero_le _, rev_nil _, ⟨_, rfl⟩, ⟨_, rfl⟩, ⟨_, _, hS5⟩, hb, ha⟩
theorem two_answer (h : TwoAt w0 w B p q K n m x T U) (o : OpX) (ho : OpAt w o) : Calls Tryz.prog 26 #[.pointer (some ⟨p, 0, none⟩), .agg o.vs] w (AnswPostF w o.m) := by
  obtain ⟨O, O', y, hO, _⟩ := h.two
  exact ans_fresh hO h.sz h.inv.rn h.inv.wn o ho
set_option maxRecDepth 100000 in
set_option maxHeartbeats 16000000 in
theorem act_any (h : TwoAt w0 w B p q K n m x T U) (hn : n ≤ 1000) (hm : m ≤ 1000) (o : OpX) (ho : ∀ wz, Below B w wz → OpAt wz o) (h10 : o.keys.length ≤ 10) :
    Calls Tryz.prog 23 #[.pointer (some ⟨p, 0, none⟩), .pointer (some ⟨q, 0, none⟩), .agg o.vs] w (ActPost w0 w B p q K n m x) := by
  obtain ⟨W, eW, HB, hszW, hrow⟩ := boxed w o.vs 45
  obtain ⟨d0, d1, d2, d3, d4, d5, d40, dm⟩ := op_cs hrow
  have hBw := h.hB
  have H0 := Lib.hid h.top
  have HS := Lib.hid (h.top.later HB)
  have HF : Hid (formedB K.c = true) := h.c.f
  have HI := Lib.hid h.inv
  have HO := Lib.hid ho
  have HO1 := Lib.hid (ho w (Below.refl _ _))
  have hKz := Lib.hid (opAt_keys HO1.out)
  have hKn := Lib.hid (show ∀ k ∈ o.keys, k.size ≤ 9223372036854775807 from opAt_keys HO1.out)
  have hkk := Lib.hid (show o.key.size ≤ maxLen from HO1.out.k)
  have HBB := Lib.hid (HB.mono hBw)
  have hlw : Hid (w.heap.size ≤ W.heap.size) := HB.size
  obtain ⟨kd, hkd⟩ : ∃ kd, Hid (o.kind = kd) := ⟨_, rfl⟩
  rw [hkd.out] at d0
  replace hrow := Lib.hid hrow
  replace dm := Lib.hid dm
  replace hszW := Lib.hid hszW
  have hn' := Lib.hid hn
  have hm' := Lib.hid hm
  have h10' := Lib.hid h10
  have HBh := Lib.hid HB
  obtain ⟨i0, hi, hz0, hz1, hz2⟩ := info_parts info_str21
  clear h ho hn hm h10 d40
  go_enter Tryz.func23, Tryz.ntmps23
  go_upto_block 0 with fail
  go_cut [8, 9, 10, 11, 12, 13] (fun a b c d e f wx => Hid (ActSt w0 w B p q K n m x wx a b c d e f))
  case first =>
    rcases act_kinds kd with rfl | rfl | rfl | rfl | rfl | rfl | rfl | rfl | rfl | ⟨n1, n2, n3, n4, n5, n6, n7, n9, n8⟩
    · go_wp2_with (first
        | (go_at_call 14; (with_reducible refine (two_begin HS.out).mono ?_); rintro e w4 ⟨rfl, hS4, hb4, ho4⟩; replace hS4 := Lib.hid hS4; replace hb4 := Lib.hid (HBB.out.trans hb4))
        | (go_at_call 57; (with_reducible refine (twr_begin hS4.out).mono ?_); rintro e w5 ⟨z5, rfl, hS5, hb5, ho5⟩; replace hS5 := Lib.hid hS5; replace hb5 := Lib.hid (hb4.out.trans hb5)))
      go_meet
      exact Lib.hid (actSt_no (rsnd_nil _) hS5.out hb5.out .begin_)
    · go_wp2_with (first
        | (go_at_call 10; (with_reducible refine (two_read HS.out hn'.out o.key hkk.out).mono ?_); rintro e w4 ⟨v4, rfl, hR4, hS4, hb4, ho4⟩; replace d1 := ho4.cell d1 (Nat.lt_irrefl _); replace hR4 := Lib.hid hR4; replace hS4 := Lib.hid hS4; replace hb4 := Lib.hid (HBB.out.trans hb4))
        | (go_at_call 58; (with_reducible refine (twr_read hS4.out hm'.out o.key hkk.out).mono ?_); rintro e w5 ⟨v5, z5, rfl, hR5, hS5, hb5, ho5⟩; replace hR5 := Lib.hid hR5; replace hS5 := Lib.hid hS5; replace hb5 := Lib.hid (hb4.out.trans hb5); replace ho5 := Lib.hid ho5))
      go_meet
      exact Lib.hid (actSt_mk (bs := w.heap.size) hR4.out hlw.out (readL_len o.key) ho5.out hR5.out (own_nil _ _ _ _) (Nat.le_refl _) (Nat.zero_le _) (rev_nil _) hS5.out hb5.out (.read_ o.key))
    · go_wp2_with (first
        | (go_at_call 15; (with_reducible refine (two_write HS.out o.key hkk.out o.val HO1.out.v).mono ?_); rintro e w4 ⟨rfl, hS4, hb4, ho4⟩; replace d1 := ho4.cell d1 (Nat.lt_irrefl _); replace d2 := ho4.cell d2 (Nat.lt_irrefl _); replace d3 := ho4.cell d3 (Nat.lt_irrefl _); replace d4 := ho4.cell d4 (Nat.lt_irrefl _); replace hS4 := Lib.hid hS4; replace hb4 := Lib.hid (HBB.out.trans hb4))
        | (go_at_call 59; (with_reducible refine (twr_write hS4.out hm'.out o.key hkk.out o.val HO1.out.v).mono ?_); rintro e w5 ⟨z5, rfl, hS5, hb5, ho5⟩; replace hS5 := Lib.hid hS5; replace hb5 := Lib.hid (hb4.out.trans hb5)))
      go_meet
      exact Lib.hid (actSt_no (rsnd_nil _) hS5.out hb5.out (.write_ o.key o.val))
    · go_wp2_with (first
        | (go_at_call 11; (with_reducible refine (two_commit HS.out).mono ?_); rintro e w4 ⟨v4, rfl, hR4, hS4, hb4, ho4⟩; replace hR4 := Lib.hid hR4; replace hS4 := Lib.hid hS4; replace hb4 := Lib.hid (HBB.out.trans hb4))
        | (go_at_call 60; (with_reducible refine (twr_commit hS4.out hm'.out).mono ?_); rintro e w5 ⟨v5, z5, rfl, hR5, hS5, hb5, ho5⟩; replace hR5 := Lib.hid hR5; replace hS5 := Lib.hid hS5; replace hb5 := Lib.hid (hb4.out.trans hb5); replace ho5 := Lib.hid ho5))
      go_meet
      exact Lib.hid (actSt_mk (bs := w.heap.size) hR4.out hlw.out (commitL_len HF.out) ho5.out hR5.out (own_nil _ _ _ _) (Nat.le_refl _) (Nat.zero_le _) (rev_nil _) hS5.out hb5.out .commit_)
    · go_wp2_with (first
        | (go_at_call 16; (with_reducible refine (two_abort HS.out).mono ?_); rintro e w4 ⟨rfl, hS4, hb4, ho4⟩; replace hS4 := Lib.hid hS4; replace hb4 := Lib.hid (HBB.out.trans hb4))
        | (go_at_call 61; (with_reducible refine (twr_abort hS4.out).mono ?_); rintro e w5 ⟨z5, rfl, hS5, hb5, ho5⟩; replace hS5 := Lib.hid hS5; replace hb5 := Lib.hid (hb4.out.trans hb5)))
      go_meet
      exact Lib.hid (actSt_no (rsnd_nil _) hS5.out hb5.out .abort_)
    · have HOW : Hid (OpAt W o) := HO.out W HBB.out
      go_wp2_with (first
        | (at_builtin; refine wpList_append_strs rfl _ _ 23 rfl W.heap.size 9 i0 (.string ByteArray.empty) 16 Tryz.underlying23 hi hz0 hz1 hz2 rfl _ _ _ rfl (own_nil _ _ _ _) o.K o.keys o.ck rfl HOW.out.ks (le_maxLen (by have := h10'.out; omega)) (by have := h10'.out; omega) (Nat.le_refl _) ?_; intro v3 w3 HO3 hg3; replace HO3 : w3.ownsRow W.heap.size 9 1 v3 o.keys.length (o.keys.map Value.string) := (by simpa using HO3); obtain ⟨A3, c3, rfl⟩ := own_form HO3; have hb3 := Lib.hid (own_below (Below.refl W.heap.size W) (Nat.le_refl _) (own_nil W W.heap.size 1 9) hg3); replace HO3 := Lib.hid HO3; replace hg3 := Lib.hid hg3; replace d5 := keep hb3.out d5)
        | (go_at_call 12; (with_reducible refine (two_snap HS.out hn'.out hb3.out o.keys A3 c3 HO3.out hKz.out).mono ?_); rintro e w4 ⟨v4, rfl, hR4, hS4, hb4, ho4⟩; replace d5 := ho4.cell d5 (Nat.lt_irrefl _); replace hR4 := Lib.hid hR4; replace hS4 := Lib.hid hS4; replace hb4 := Lib.hid ((HBB.out.trans (hb3.out.mono (Nat.le_trans hBw hlw.out))).trans hb4))
        | (go_at_call 62; (with_reducible refine (twr_snap hS4.out hm'.out o.K o.keys o.ck (fun wz hz => (HO.out wz (hb4.out.trans hz)).ks) h10'.out hKn.out).mono ?_); rintro e w5 ⟨v5, z5, rfl, hR5, hS5, hb5, ho5⟩; replace hR5 := Lib.hid hR5; replace hS5 := Lib.hid hS5; replace hb5 := Lib.hid (hb4.out.trans hb5); replace ho5 := Lib.hid ho5))
      go_meet
      exact Lib.hid (actSt_mk (bs := w.heap.size) hR4.out (Nat.le_trans hlw.out hb3.out.size) (snapL_len HF.out o.keys) ho5.out hR5.out (own_nil _ _ _ _) (Nat.le_refl _) (Nat.zero_le _) (rev_nil _) hS5.out hb5.out (.snap_ o.keys))
    · go_wp2_with (first
        | (refine wpList_load_cells rfl 43 _ rfl ⟨w.heap.size, 6, none⟩ rfl o.m.vs _ dm.out Tryz.underlying43 rfl info_msg10 ?_)
        | (refine wpList_store_new rfl 43 _ _ rfl W o.m.vs 43 rfl rfl rfl info_msg10 rfl (msg_one o.m) ?_; intro W2 HB2 hsz2 hrow2; replace hrow2 := Lib.hid hrow2; replace d0 := keep HB2 d0; have HS2 := Lib.hid (HS.out.later HB2); have hb2 := Lib.hid (HBB.out.trans (HB2.mono (Nat.le_trans hBw hlw.out))); have hl2 := Lib.hid HB2.size; clear hsz2)
        | (refine wpList_load_cells rfl 43 _ rfl ⟨W.heap.size, 0, none⟩ rfl o.m.vs _ (row_of_obj hrow2.out) Tryz.underlying43 rfl info_msg10 ?_)
        | (go_at_call 13; (with_reducible refine (two_hand HS2.out hn'.out o.m (HO.out _ hb2.out).m).mono ?_); rintro e w4 ⟨fm, v4, u4, rfl, hR4, hE4, hS4, hb4, ho4⟩; replace hrow2 := Lib.hid (ho4.obj hrow2.out (Nat.not_lt.2 hlw.out)); replace hR4 := Lib.hid hR4; replace hE4 := Lib.hid hE4; replace hS4 := Lib.hid hS4; replace hb4 := Lib.hid (hb2.out.trans hb4))
        | (go_at_call 28; (with_reducible refine (plain_vs o.m _).mono ?_); rintro e w6 ⟨rfl, hb6⟩; replace hR4 := Lib.hid (hR4.out.later hb6); replace hE4 := Lib.hid (own_keep hE4.out hb6); replace hS4 := Lib.hid (hS4.out.later hb6); have hbB6 := hb6.mono (Nat.le_trans (Nat.le_trans hBw hlw.out) (Nat.le_trans hl2.out ho4.size)); replace hb4 := Lib.hid (hb4.out.trans hbB6))
        | (go_at_call 63; (with_reducible refine (twr_hand hS4.out hm'.out o.m (HO.out _ hb4.out).m).mono ?_); rintro e w5 ⟨v5, u5, rfl, hR5, hV5, hS5, hb5, ho5⟩; replace hR5 := Lib.hid hR5; replace hV5 := Lib.hid hV5; replace hS5 := Lib.hid hS5; replace hb5 := Lib.hid (hb4.out.trans hb5); replace ho5 := Lib.hid ho5))
      go_meet
      exact Lib.hid (actSt_mk hR4.out (Nat.le_trans hlw.out hl2.out) (handL_len HI.out o.m fm) ho5.out hR5.out hE4.out (Nat.le_trans hlw.out hl2.out) (handEv_len HI.out o.m fm) hV5.out hS5.out hb5.out (.hand_ o.m fm))
    · go_wp2_with (first
        | (refine wpList_load_cells rfl 43 _ rfl ⟨w.heap.size, 6, none⟩ rfl o.m.vs _ dm.out Tryz.underlying43 rfl info_msg10 ?_)
        | (refine wpList_store_new rfl 43 _ _ rfl W o.m.vs 43 rfl rfl rfl info_msg10 rfl (msg_one o.m) ?_; intro W2 HB2 hsz2 hrow2; replace hrow2 := Lib.hid hrow2; replace d0 := keep HB2 d0; have HS2 := Lib.hid (HS.out.later HB2); have hBc := Lib.hid (keepB HBh.out HB2); have hrow1 := Lib.hid (obj_keep hrow.out HB2); have hb2 := Lib.hid (HBB.out.trans (HB2.mono (Nat.le_trans hBw hlw.out))); clear hsz2)
        | (refine wpList_load_cells rfl 45 _ rfl ⟨w.heap.size, 0, none⟩ rfl o.vs _ (row_of_obj hrow1.out) Tryz.underlying45 rfl info_op21 ?_)
        | (go_at_call 26; (with_reducible refine (two_answer HS2.out o (HO.out _ hb2.out)).mono ?_); rintro e w3 ⟨mm, rfl, hmm, hb3⟩; replace hmm := Lib.hid hmm; have hrow3 := Lib.hid (obj_keep hrow2.out hb3); have hB3 := Lib.hid (keepB hBc.out hb3); clear hb3)
        | (refine wpList_store_row rfl 43 _ _ rfl W.heap.size mm.vs rfl rfl 43 _ hrow3.out info_msg10 rfl (msg_one _) ?_; obtain ⟨w8, e8⟩ : ∃ w8, w3.setRow W.heap.size mm.vs = w8 := ⟨_, rfl⟩; have hB8 : Hid (Below w.heap.size w w8) := (e8 ▸ below_setRow hB3.out hlw.out _); have hrow8 : Hid (w8.heap[W.heap.size]? = some (.cells mm.vs 43 (0, 0))) := (e8 ▸ setRow_heap _ _ _ _ _ _ hrow3.out); rw [e8]; clear e8; have HS8 := Lib.hid (H0.out.later hB8.out); have hb8 := Lib.hid (hB8.out.mono hBw))
        | (refine wpList_load_cells rfl 43 _ rfl ⟨W.heap.size, 0, none⟩ rfl mm.vs _ (row_of_obj hrow8.out) Tryz.underlying43 rfl info_msg10 ?_)
        | (go_at_call 13; (with_reducible refine (two_hand HS8.out hn'.out mm (hmm.out _ (HO.out _ hb8.out).m)).mono ?_); rintro e w4 ⟨fm, v4, u4, rfl, hR4, hE4, hS4, hb4, ho4⟩; replace hrow8 := Lib.hid (ho4.obj hrow8.out (Nat.not_lt.2 hlw.out)); have hl4 := Lib.hid (Nat.le_trans hB8.out.size ho4.size); replace hR4 := Lib.hid hR4; replace hE4 := Lib.hid hE4; replace hS4 := Lib.hid hS4; replace hb4 := Lib.hid (hb8.out.trans hb4))
        | (go_at_call 28; (with_reducible refine (plain_vs mm _).mono ?_); rintro e w6 ⟨rfl, hb6⟩; replace hR4 := Lib.hid (hR4.out.later hb6); replace hE4 := Lib.hid (own_keep hE4.out hb6); replace hS4 := Lib.hid (hS4.out.later hb6); have hbB6 := hb6.mono (Nat.le_trans hBw hl4.out); replace hb4 := Lib.hid (hb4.out.trans hbB6))
        | (go_at_call 63; (with_reducible refine (twr_hand hS4.out hm'.out mm (hmm.out _ (HO.out _ hb4.out).m)).mono ?_); rintro e w5 ⟨v5, u5, rfl, hR5, hV5, hS5, hb5, ho5⟩; replace hR5 := Lib.hid hR5; replace hV5 := Lib.hid hV5; replace hS5 := Lib.hid hS5; replace hb5 := Lib.hid (hb4.out.trans hb5); replace ho5 := Lib.hid ho5))
      go_meet
      exact Lib.hid (actSt_mk hR4.out hB8.out.size (handL_len HI.out mm fm) ho5.out hR5.out hE4.out hB8.out.size (handEv_len HI.out mm fm) hV5.out hS5.out hb5.out (.hand_ mm fm))
    · go_wp2_with (first
        | (go_at_call 17; (with_reducible refine (two_tick HS.out).mono ?_); rintro e w4 ⟨v4, rfl, hR4, hS4, hb4, ho4⟩; replace hR4 := Lib.hid hR4; replace hS4 := Lib.hid hS4; replace hb4 := Lib.hid (HBB.out.trans hb4))
        | (go_at_call 64; (with_reducible refine (twr_tick hS4.out hm'.out).mono ?_); rintro e w5 ⟨v5, rfl, hR5, hS5, hb5, ho5⟩; replace hR5 := Lib.hid hR5; replace hS5 := Lib.hid hS5; replace hb5 := Lib.hid (hb4.out.trans hb5); replace ho5 := Lib.hid ho5))
      go_meet
      exact Lib.hid (actSt_mk (bs := w.heap.size) hR4.out hlw.out (tickL_len HF.out HI.out) ho5.out hR5.out (own_nil _ _ _ _) (Nat.le_refl _) (Nat.zero_le _) (rev_nil _) hS5.out hb5.out .tick_)
    · go_wp2
      go_meet
      exact Lib.hid (actSt_no (rsnd_nil _) (HS.out.up (Nat.le_succ _) (Nat.le_succ _)) HBB.out .none_)
  case rest =>
    obtain ⟨wy, rfl⟩ : ∃ wq : World, wq = wc := ⟨_, rfl⟩
    obtain ⟨x', ev, dd, ⟨bq, sl, hsn⟩, hdl, ⟨bR, lR, hRR⟩, hev, hel, ⟨bV, lV, hRV⟩, ⟨z1, rfl⟩, ⟨z2, rfl⟩, ⟨T', U', hS5⟩, hb5, ha⟩ := hcut.out
    have hsl : Hid (sl.length ≤ 100) := by show _ ≤ _; rw [hsn.is.len]; exact hdl
    have hsB : Hid (B ≤ wy.heap.size) := hS5.hB
    replace hsn := Lib.hid hsn
    replace hRR := Lib.hid hRR
    replace hev := Lib.hid hev
    replace hel := Lib.hid hel
    replace hRV := Lib.hid hRV
    replace hS5 := Lib.hid hS5
    replace hb5 := Lib.hid hb5
    replace ha := Lib.hid ha
    clear hdl hcut d0 d1 d2 d3 d4 d5 dm hrow hi hz0 hz1 hz2
    cases q0 : (z1 == z2)
    · go_wp2
      go_ret2
      exact ⟨_, _, x', ev, rfl, hev.out, hel.out, ⟨_, _, hS5.out⟩, hb5.out, ha.out⟩
    · go_wp2_with (first
        | (go_at_call 66; (with_reducible refine (sends_any sl dd _ bq _ hsn.out (Nat.le_trans hsl.out (by omega))).mono ?_); rintro e w6 ⟨v6, rfl, hO6, hb6⟩; replace hO6 := Lib.hid hO6; have hM6 := Lib.hid (fun s (hs : s ∈ sl) => (And.intro ((hsn.out.at_ s hs).later hb6) (snds_data hsn.out.is s hs))); have hN6 := Lib.hid (hRR.out.later hb6); replace hb6 := Lib.hid hb6)
        | (go_at_call 65; (with_reducible refine (refSame21_some sl lR _ _ _ bR _ hO6.out hN6.out.row (Nat.le_trans hsl.out (by omega)) hM6.out hN6.out.at_).mono ?_); rintro e w7 ⟨r, rfl, hb7⟩; have hb67 := Lib.hid (keepB hb6.out hb7); clear hb7; cases r)
        | (go_at_call 68; (with_reducible refine (events_any ev _ w.heap.size _ (own_keep hev.out hb67.out) (Nat.le_trans hel.out (by omega))).mono ?_); rintro e w8 ⟨v8, rfl, hO8, hb8⟩; replace hO8 := Lib.hid hO8; have hb68 := Lib.hid (keepB hb67.out hb8); clear hb8)
        | (go_at_call 67; (with_reducible refine (refSameEv_some ev lV _ _ _ bV _ hO8.out (own_keep hRV.out hb68.out) (Nat.le_trans hel.out (by omega))).mono ?_); rintro e w9 ⟨r2, rfl, hb9⟩; have hb69 := Lib.hid (keepB hb68.out hb9); clear hb9))
      all_goals
        go_ret2
        first
          | exact ⟨_, _, x', ev, rfl, own_keep hev.out hb69.out, hel.out, ⟨_, _, hS5.out.later hb69.out⟩, hb5.out.trans (hb69.out.mono hsB.out), ha.out⟩
          | exact ⟨_, _, x', ev, rfl, own_keep hev.out hb67.out, hel.out, ⟨_, _, hS5.out.later hb67.out⟩, hb5.out.trans (hb67.out.mono hsB.out), ha.out⟩
end
end Go.Proofs.YtjgloipgnnigmaaGreatDoor
