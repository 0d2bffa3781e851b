/- TxnBytes' walk. -/
import Derived.Test.YtfblemdpimbciaaDoorRefTake08
import Derived.Test.YtfblemdpimbciaaDoorRefPut08
import Derived.Test.YtfblemdpimbciaaDoorRdrL02
import Derived.Test.YtfblemdpimbciaaDoorSameSelf
import Derived.Test.YtfblemdpimbciaaDoorSame02
import Derived.Test.YtfblemdpimbciaaDoorFew08
import Derived.Deep.DeepCutAuto
import Derived.Deep.RegionHeld3
namespace Go.Proofs.YtfblemdpimbciaaDoor
open Go.RowKit Go.Shelf Go.Sort

/-- A block that holds no string. -/
def NoStr (w : World) (q : Nat) : Prop := ∀ j s, w.cell? ⟨q, j, none⟩ ≠ some (.string s)
theorem TxAt.outk {w w' : World} {q : Nat} {t : Tx} {A B : Option Addr} (h : TxAt w t A B) (hn : NoStr w q) (ho : Out (fun k => k = q) w w') : TxAt w' t A B := by
  refine ⟨fun i hi => ?_, fun i hi => ?_, h.rk, h.wk, h.wv, h.rn, h.wn⟩
  · obtain ⟨b, off, e, h0, h1⟩ := h.rds i hi
    have hb : ¬ b = q := fun e => by subst e; exact hn _ _ h0
    exact ⟨b, off, e, ho.cell h0 hb, ho.cell h1 hb⟩
  · obtain ⟨b, off, e, h0, h1, h2, h3⟩ := h.wrs i hi
    have hb : ¬ b = q := fun e => by subst e; exact hn _ _ h0
    exact ⟨b, off, e, ho.cell h0 hb, ho.cell h1 hb, ho.cell h2 hb, ho.cell h3 hb⟩
theorem noStr_R {w : World} {q : Nat} {s : RS} (h : RRdrAt w q s) : NoStr w q := by
  obtain ⟨A, L, ca, k, h⟩ := h
  intro j t e
  rw [cell_of_row w q j _ _ _ h.blk] at e
  match j, e with
  | 0, e => simp at e
  | 1, e => simp at e
  | 2, e => simp at e
  | j + 3, e => simp at e
theorem noStr_P {w : World} {q : Nat} {s : RS} (h : RdrAt w q s) : NoStr w q := by
  obtain ⟨A, n, ca, h⟩ := h
  intro j t e
  rw [cell_of_row w q j _ _ _ h.blk] at e
  match j, e with
  | 0, e => simp at e
  | 1, e => simp at e
  | j + 2, e => simp at e
theorem RRdrIs.outk {w w' : World} {q g : Nat} {s : RS} {A : Option Addr} {L : List UInt8} {ca k : Nat} (h : RRdrIs w q s A L ca k) (hb : Out (fun k => k = g) w w') (hq : q ≠ g) (hA : ∀ a, A = some a → 0 < L.length → a.block ≠ g) : RRdrIs w' q s A L ca k :=
  { blk := hb.obj h.blk hq, cap := h.cap, mx := h.mx, le := h.le, lo := h.lo, by_ := h.by_.out hb hA, st := h.st }
theorem RRdrIs.fresh {w w1 : World} {b : List UInt8} {A : Option Addr} {ca : Nat} (hA : BysAt w A b) (hle : b.length ≤ ca) (hb : b.length ≤ 1000000) (h1 : Below w.heap.size w w1) (h : w1.heap[w.heap.size]? = some (.cells #[.slice A b.length ca, .int .i64 0, .bool false] 40 (0, 0))) : RRdrIs w1 w.heap.size (some b) A b ca 0 :=
  { blk := h, cap := hle, mx := hb, le := Nat.zero_le _, lo := hA.lt, by_ := BysAt.later hA h1, st := fun l e => by injection e with e; rw [← e]; rfl }
theorem box22 (w : World) (a b a' b' : Value) (t : TypeId) : ∃ W : World, (w.alloc (.cells #[a, b] t)).alloc (.cells #[a', b'] t) = W ∧ Below w.heap.size w W ∧ W.cell? ⟨w.heap.size, 0, none⟩ = some a ∧ W.cell? ⟨w.heap.size, 1, none⟩ = some b ∧ W.cell? ⟨w.heap.size + 1, 0, none⟩ = some a' ∧ W.cell? ⟨w.heap.size + 1, 1, none⟩ = some b' := by
  have h1 := below1 w (.cells #[a, b] t)
  have h2 := below1 (w.alloc (.cells #[a, b] t)) (.cells #[a', b'] t)
  have r1 := heap_alloc_new w (.cells #[a, b] t)
  have r2 := heap_alloc_new (w.alloc (.cells #[a, b] t)) (.cells #[a', b'] t)
  have hs : (w.alloc (.cells #[a, b] t)).heap.size = w.heap.size + 1 := by simp
  rw [hs] at r2
  obtain ⟨c0, c1, _, _⟩ := mkc2 (obj_later' r1 h2)
  obtain ⟨d0, d1, _, _⟩ := mkc2 r2
  exact ⟨_, rfl, keepB h1 h2, c0, c1, d0, d1⟩
set_option maxRecDepth 100000 in
set_option maxHeartbeats 16000000 in
theorem law_tbytes (t : Tx) (A B : Option Addr) (ca cb : Nat) (b : List UInt8) (K : Option Addr) (ck : Nat) (w : World) (h : TxAt w t A B) (hK : BysAt w K b) (hle : b.length ≤ ck) (hmx : b.length ≤ 9223372036854775807) (hT : Tabs w) :
    Calls Tryd.prog 4 #[txV t A B ca cb, .slice K b.length ck] w fun e w' => e = .returned (.bool true) ∧ Below w.heap.size w w' := by
  have hFw := fun wz (hz : Below w.heap.size w wz) => few08_any t A B ca cb wz (h.later hz)
  unfold txV at hFw ⊢
  obtain ⟨W, eW, HB, c0, c1, c2, c3⟩ := box4 w (.int .i64 t.ses) (.int .i64 t.seq) (.slice A t.rds.length ca) (.slice B t.wrs.length cb) 27
  cases hfw : fewT t
  · rw [hfw] at hFw
    replace hFw := Lib.hid hFw
    clear hfw h hT hK
    go_enter Tryd.func4, Tryd.ntmps4
    go_wp2_with (first
      | (go_at_call 6; refine (awake08_any _).mono ?_; rintro e w0 ⟨rfl, hb0⟩; (first | (replace hbb := keepB hbb hb0) | (have hbb := keepB HB hb0; replace c0 := keep hb0 c0; replace c1 := keep hb0 c1; replace c2 := keep hb0 c2; replace c3 := keep hb0 c3)); clear hb0)
      | (go_at_call 7; refine (hFw.out _ hbb).mono ?_; rintro e w1 ⟨rfl, hb1⟩; replace hbb := keepB hbb hb1; clear hb1))
    go_ret
    exact ⟨rfl, hbb⟩
  rw [hfw] at hFw
  replace hFw := Lib.hid hFw
  clear hfw
  by_cases hn : 2000 < b.length
  · have t1 : decide ((2000 : Int) < (b.length : Int)) = true := decide_eq_true (by omega)
    have t1n : decide (2000 < b.length) = true := decide_eq_true hn
    clear hn h hT hK
    go_enter Tryd.func4, Tryd.ntmps4
    go_wp2_with (first
      | (go_at_call 6; refine (awake08_any _).mono ?_; rintro e w0 ⟨rfl, hb0⟩; (first | (replace hbb := keepB hbb hb0) | (have hbb := keepB HB hb0; replace c0 := keep hb0 c0; replace c1 := keep hb0 c1; replace c2 := keep hb0 c2; replace c3 := keep hb0 c3)); clear hb0)
      | (go_at_call 7; refine (hFw.out _ hbb).mono ?_; rintro e w1 ⟨rfl, hb1⟩; replace hbb := keepB hbb hb1; clear hb1))
    go_ret
    exact ⟨rfl, hbb⟩
  have t1 : decide ((2000 : Int) < (b.length : Int)) = false := decide_eq_false (by omega)
  have t1n : decide (2000 < b.length) = false := decide_eq_false hn
  have hbl : b.length ≤ 2000 := by omega
  clear hn
  obtain ⟨T, sX, hTX⟩ : ∃ T s, Hid (takeTx (some b) = (T, s)) := ⟨_, _, rfl⟩
  obtain ⟨ia, ib, sI, hTI⟩ : ∃ a c s, Hid (takeI (some b) = ((a, c), s)) := ⟨_, _, _, rfl⟩
  obtain ⟨m1, hm1⟩ : ∃ m, Hid (b ++ putI t.ses t.seq = m) := ⟨_, rfl⟩
  obtain ⟨m2, hm2⟩ : ∃ m, Hid (b ++ putT t = m) := ⟨_, rfl⟩
  have hml1 : m1.length ≤ 900000 := by
    rw [← hm1.out, List.length_append]
    have : (putI t.ses t.seq).length ≤ 5 := by unfold putI encId; split <;> simp [beL_length]
    omega
  have hml2 : m2.length ≤ 900000 := by
    rw [← hm2.out, List.length_append]
    have : (putT t).length ≤ 700000 := by
      unfold putT
      split
      · rename_i hf
        have h1 := rTo_len hf [] t.rds.length
        have h2 := wTo_len hf [] t.wrs.length
        rw [rTo_all, List.nil_append] at h1
        rw [wTo_all, List.nil_append] at h2
        have h3 : (putI t.ses t.seq).length ≤ 5 := by unfold putI encId; split <;> simp [beL_length]
        simp only [encT, encHead, List.length_append, beL_length, List.length_nil] at h1 h2 ⊢
        omega
      · exact Nat.zero_le _
    omega
  have HTk : Hid (∀ wz p, RdrAt wz p (some b) → TabsP wz p → Calls Tryd.prog 12 #[.pointer (some ⟨p, 0, none⟩)] wz fun e w' => ∃ A B ca cb, e = .returned (.agg #[.int .i64 T.ses, .int .i64 T.seq, .slice A T.rds.length ca, .slice B T.wrs.length cb]) ∧ TxAt w' T A B ∧ RdrAt w' p sX ∧ Out (fun k => k = p) wz w') := fun wz p q1 q2 => by
    refine (rdrTx_any q1 q2).mono ?_
    rintro e w' ⟨A, B, ca, cb, rfl, g1, g2, g3⟩
    rw [hTX.out] at g1 g2
    rw [hTX.out]
    exact ⟨A, B, ca, cb, rfl, g1, g2, g3⟩
  have HTr : Hid (∀ wz p, RRdrAt wz p (some b) → Calls Tryd.prog 15 #[.pointer (some ⟨p, 0, none⟩)] wz fun e w' => ∃ A B ca cb, e = .returned (.agg #[.int .i64 T.ses, .int .i64 T.seq, .slice A T.rds.length ca, .slice B T.wrs.length cb]) ∧ TxAt w' T A B ∧ RRdrAt w' p sX ∧ Out (fun k => k = p) wz w') := fun wz p q1 => by
    refine (refTx_any q1).mono ?_
    rintro e w' ⟨A, B, ca, cb, rfl, g1, g2, g3⟩
    rw [hTX.out] at g1 g2
    rw [hTX.out]
    exact ⟨A, B, ca, cb, rfl, g1, g2, g3⟩
  have HIk : Hid (∀ wz p, RdrAt wz p (some b) → Calls Tryd.prog 16 #[.pointer (some ⟨p, 0, none⟩)] wz fun e w' => e = .returned (.agg #[.int .i64 (ia : Int), .int .i64 (ib : Int)]) ∧ RdrAt w' p sI ∧ Out (fun k => k = p) wz w') := fun wz p q1 => by
    have := rdrId_any q1
    rw [hTI.out] at this
    exact this
  have HIr : Hid (∀ wz p, RRdrAt wz p (some b) → Calls Tryd.prog 17 #[.pointer (some ⟨p, 0, none⟩)] wz fun e w' => e = .returned (.agg #[.int .i64 (ia : Int), .int .i64 (ib : Int)]) ∧ RRdrAt w' p sI ∧ Out (fun k => k = p) wz w') := fun wz p q1 => by
    have := refIdT_any q1
    rw [hTI.out] at this
    exact this
  have HP1 : Hid (∀ wz, Below w.heap.size w wz → Calls Tryd.prog 19 #[.slice K b.length ck, .agg #[.int .i64 t.ses, .int .i64 t.seq]] wz (OwnBys wz m1)) := fun wz hz => by rw [← hm1.out]; exact putId_any b t.ses t.seq K ck wz (BysAt.later hK hz) (by omega)
  have HP2 : Hid (∀ wz, Below w.heap.size w wz → Calls Tryd.prog 20 #[.slice K b.length ck, .agg #[.int .i64 t.ses, .int .i64 t.seq]] wz (OwnBys wz m1)) := fun wz hz => by rw [← hm1.out]; exact refPutId_any b t.ses t.seq K ck wz (BysAt.later hK hz) (by omega)
  have HP3 : Hid (∀ wz, Below w.heap.size w wz → Calls Tryd.prog 9 #[.slice K b.length ck, .agg #[.int .i64 t.ses, .int .i64 t.seq, .slice A t.rds.length ca, .slice B t.wrs.length cb]] wz (OwnBys wz m2)) := fun wz hz => by rw [← hm2.out]; exact put08_any b t A B ca cb K ck wz (BysAt.later hK hz) (by omega) (h.later hz) (hT.later hz)
  have HP4 : Hid (∀ wz, Below w.heap.size w wz → Calls Tryd.prog 21 #[.slice K b.length ck, .agg #[.int .i64 t.ses, .int .i64 t.seq, .slice A t.rds.length ca, .slice B t.wrs.length cb]] wz (OwnBys wz m2)) := fun wz hz => by rw [← hm2.out]; exact refPut08_any b t A B ca cb K ck wz (BysAt.later hK hz) (by omega) (h.later hz)
  have HSa : Hid (∀ (m : List UInt8) wz A1 A2 k1 k2, m.length ≤ 900000 → BysAt wz A1 m → BysAt wz A2 m → Calls Tryd.prog 18 #[.slice A1 m.length k1, .slice A2 m.length k2] wz fun e w' => e = .returned (.bool true) ∧ Below wz.heap.size wz w') := fun m wz A1 A2 k1 k2 hm q1 q2 => by
    have := refSame02_any m m A1 A2 k1 k2 wz q1 q2 hm
    simpa using this
  have HSt : Hid (∀ wz A1 B1 a1 b1 A2 B2 a2 b2, TxAt wz T A1 B1 → TxAt wz T A2 B2 → Calls Tryd.prog 11 #[.agg #[.int .i64 T.ses, .int .i64 T.seq, .slice A1 T.rds.length a1, .slice B1 T.wrs.length b1], .agg #[.int .i64 T.ses, .int .i64 T.seq, .slice A2 T.rds.length a2, .slice B2 T.wrs.length b2]] wz fun e w' => e = .returned (.bool true) ∧ Below wz.heap.size wz w') := fun wz A1 B1 a1 b1 A2 B2 a2 b2 q1 q2 => by
    have := refTxSame_any T T A1 B1 A2 B2 a1 b1 a2 b2 wz q1 q2
    rw [sameT_self] at this
    exact this
  have hKb := Lib.hid hK
  have hKlt : Hid (∀ a, K = some a → 0 < b.length → a.block < w.heap.size) := hK.lt
  have HT := Lib.hid hT
  clear h hT hK hTX hTI hm1 hm2
  go_enter Tryd.func4, Tryd.ntmps4
  go_wp2_with (first
    | (go_at_call 6; refine (awake08_any _).mono ?_; rintro e w0 ⟨rfl, hb0⟩; have hbb := keepB HB hb0; replace c0 := keep hb0 c0; replace c1 := keep hb0 c1; replace c2 := keep hb0 c2; replace c3 := keep hb0 c3; clear hb0)
    | (go_at_call 7; refine (hFw.out _ hbb).mono ?_; rintro e w1 ⟨rfl, hb1⟩; replace hbb := keepB hbb hb1; replace c0 := keep hb1 c0; replace c1 := keep hb1 c1; replace c2 := keep hb1 c2; replace c3 := keep hb1 c3; clear hb1)
    | (have _q := hb6; go_at_call 10; refine (rdrNew_any b K ck _ (BysAt.later hKb.out hbb6) hle (by omega)).mono ?_; rintro e w7 ⟨rfl, hR7, hb7⟩; have hbb7 := keepB hbb6 hb7; obtain ⟨w8, ew8, hb8, hs8, hrow8⟩ := mk3 w7 (.slice K b.length ck) (.int .i64 0) (.bool false) 40; have hR8 := hR7.later hb8; have hQ8 := RRdrIs.fresh (BysAt.later hKb.out hbb7) hle (by omega) hb8 hrow8; have hbb8 := keepB hbb7 hb8; have hb78 := keepB hb7 hb8; have hlt67 := hR7.lt)
    | (go_at_call 10; refine (rdrNew_any b K ck _ (BysAt.later hKb.out hbb) hle (by omega)).mono ?_; rintro e w2 ⟨rfl, hR2, hb2⟩; have hwlt : w.heap.size < w1.heap.size := blk_lt c0; have hbb2 := keepB hbb hb2; obtain ⟨w3, ew3, hb3, hs3, hrow3⟩ := mk3 w2 (.slice K b.length ck) (.int .i64 0) (.bool false) 40; have hR3 := hR2.later hb3; have hQ3 := RRdrIs.fresh (BysAt.later hKb.out hbb2) hle (by omega) hb3 hrow3; have hbb3 := keepB hbb2 hb3; have hTP3 := (HT.out.at_ hbb.size).later hbb3; have hb23 := keepB hb2 hb3; replace c0 := keep hb23 c0; replace c1 := keep hb23 c1; replace c2 := keep hb23 c2; replace c3 := keep hb23 c3; have hlt12 := hR2.lt)
    | (go_at_call 12; refine (HTk.out _ _ hR3 hTP3).mono ?_; rintro e w4 ⟨A4, B4, a4, b4, rfl, hX4, hR4, ho4⟩; have hQ4 := hQ3.outk ho4 (by omega) (fun a ha h0 e => by { have := hKlt.out a ha h0; omega }); have hbb4 := hbb3.trans (ho4.below hbb3.size (fun k e => by omega)); replace c0 := ho4.cell c0 (Nat.ne_of_lt hwlt); replace c1 := ho4.cell c1 (Nat.ne_of_lt hwlt); replace c2 := ho4.cell c2 (Nat.ne_of_lt hwlt); replace c3 := ho4.cell c3 (Nat.ne_of_lt hwlt))
    | (go_at_call 15; refine (HTr.out _ _ ⟨_, _, _, _, hQ4⟩).mono ?_; rintro e w5 ⟨A5, B5, a5, b5, rfl, hY5, hQ5, ho5⟩; have hX5 := hX4.outk (noStr_R ⟨_, _, _, _, hQ4⟩) ho5; have hR5 := hR4.out ho5 (fun j hj e => by omega); have hbb5 := hbb4.trans (ho5.below hbb4.size (fun k e => by omega)); replace c0 := ho5.cell c0 (Nat.ne_of_lt (Nat.lt_trans hwlt hlt12)); replace c1 := ho5.cell c1 (Nat.ne_of_lt (Nat.lt_trans hwlt hlt12)); replace c2 := ho5.cell c2 (Nat.ne_of_lt (Nat.lt_trans hwlt hlt12)); replace c3 := ho5.cell c3 (Nat.ne_of_lt (Nat.lt_trans hwlt hlt12)); obtain ⟨w6, ew6, hb6, x0, x1, x2, x3, y0, y1, y2, y3⟩ := box44 w5 (.int .i64 T.ses) (.int .i64 T.seq) (.slice A4 T.rds.length a4) (.slice B4 T.wrs.length b4) (.int .i64 T.ses) (.int .i64 T.seq) (.slice A5 T.rds.length a5) (.slice B5 T.wrs.length b5) 27; have hbb6 := keepB hbb5 hb6; have hX6 := hX5.later hb6; have hY6 := hY5.later hb6; have hR6 := hR5.later hb6; have hQ6 := hQ5.later hb6; replace c0 := keep hb6 c0; replace c1 := keep hb6 c1; replace c2 := keep hb6 c2; replace c3 := keep hb6 c3)
    | (go_at_call 16; refine (HIk.out _ _ hR8).mono ?_; rintro e w9 ⟨rfl, hR9, ho9⟩; have hQ9 := hQ8.outk ho9 (by omega) (fun a ha h0 e => by { have := hKlt.out a ha h0; have := hbb6.size; omega }); have hbA := hb78.trans (ho9.below hb78.size (fun k e => by omega)))
    | (go_at_call 17; refine (HIr.out _ _ ⟨_, _, _, _, hQ9⟩).mono ?_; rintro e w10 ⟨rfl, hQ10, ho10⟩; have hR10 := hR9.out ho10 (fun j hj e => by omega); have hbB := hbA.trans (ho10.below hbA.size (fun k e => by omega)); obtain ⟨w11, ew11, hb11, i0, i1, j0, j1⟩ := box22 w10 (.int .i64 (ia : Int)) (.int .i64 (ib : Int)) (.int .i64 (ia : Int)) (.int .i64 (ib : Int)) 23; have hR11 := Lib.hid (hR10.later hb11); have hQ11 := hQ10.later hb11; have hbC := keepB hbB hb11))
  have hbbC := hbb6.trans (hbC.mono hbb6.size)
  have hR12 := Lib.hid (hR6.later hbC)
  have hQ12 := hQ6.later hbC
  have hX12 := Lib.hid (hX6.later hbC)
  have hY12 := Lib.hid (hY6.later hbC)
  have fX := hQ12.c2
  have fI := hQ11.c2
  replace hQ12 := Lib.hid hQ12
  have HNE : ∀ wz, (binOp .neq 23 (.agg #[.int .i64 (ia : Int), .int .i64 (ib : Int)]) (.agg #[.int .i64 (ia : Int), .int .i64 (ib : Int)])).run Tryd.prog wz = .ok (.bool false) wz := fun wz => by
    have := neqId (ia : Int) (ib : Int) ia ib wz
    simpa [idEqB] using this
  have HSA : Hid (∀ wz, Below w11.heap.size w11 wz → wz.cell? ⟨w.heap.size, 0, none⟩ = some (.int .i64 t.ses) ∧ wz.cell? ⟨w.heap.size, 1, none⟩ = some (.int .i64 t.seq) ∧ wz.cell? ⟨w10.heap.size, 0, none⟩ = some (.int .i64 (ia : Int)) ∧ wz.cell? ⟨w10.heap.size, 1, none⟩ = some (.int .i64 (ib : Int)) ∧ wz.cell? ⟨w10.heap.size + 1, 0, none⟩ = some (.int .i64 (ia : Int)) ∧ wz.cell? ⟨w10.heap.size + 1, 1, none⟩ = some (.int .i64 (ib : Int)) ∧ wz.cell? ⟨w7.heap.size, 2, none⟩ = some (.bool sI.isNone)) :=
    fun wz hz => ⟨keep hz (keep hbC c0), keep hz (keep hbC c1), keep hz i0, keep hz i1, keep hz j0, keep hz j1, keep hz fI⟩
  have HSB : Hid (∀ wz, Below w11.heap.size w11 wz → wz.cell? ⟨w.heap.size, 0, none⟩ = some (.int .i64 t.ses) ∧ wz.cell? ⟨w.heap.size, 1, none⟩ = some (.int .i64 t.seq) ∧ wz.cell? ⟨w.heap.size, 2, none⟩ = some (.slice A t.rds.length ca) ∧ wz.cell? ⟨w.heap.size, 3, none⟩ = some (.slice B t.wrs.length cb) ∧ wz.cell? ⟨w5.heap.size, 0, none⟩ = some (.int .i64 T.ses) ∧ wz.cell? ⟨w5.heap.size, 1, none⟩ = some (.int .i64 T.seq) ∧ wz.cell? ⟨w5.heap.size, 2, none⟩ = some (.slice A4 T.rds.length a4) ∧ wz.cell? ⟨w5.heap.size, 3, none⟩ = some (.slice B4 T.wrs.length b4) ∧ wz.cell? ⟨w5.heap.size + 1, 0, none⟩ = some (.int .i64 T.ses) ∧ wz.cell? ⟨w5.heap.size + 1, 1, none⟩ = some (.int .i64 T.seq) ∧ wz.cell? ⟨w5.heap.size + 1, 2, none⟩ = some (.slice A5 T.rds.length a5) ∧ wz.cell? ⟨w5.heap.size + 1, 3, none⟩ = some (.slice B5 T.wrs.length b5) ∧ wz.cell? ⟨w2.heap.size, 2, none⟩ = some (.bool sX.isNone)) :=
    fun wz hz => ⟨keep hz (keep hbC c0), keep hz (keep hbC c1), keep hz (keep hbC c2), keep hz (keep hbC c3), keep hz (keep hbC x0), keep hz (keep hbC x1), keep hz (keep hbC x2), keep hz (keep hbC x3), keep hz (keep hbC y0), keep hz (keep hbC y1), keep hz (keep hbC y2), keep hz (keep hbC y3), keep hz fX⟩
  clear HTk HTr HIk HIr hFw hX4 hX5 hX6 hY5 hY6 hR2 hR3 hR4 hR5 hR6 hR7 hR8 hR9 hR10 hQ3 hQ4 hQ5 hQ6 hQ8 hQ9 hQ10 ho4 ho5 ho9 ho10 hb2 hb3 hb6 hb7 hb8 hb11 hb23 hb78 hbA hbB hbb hbb2 hbb3 hbb4 hbb5 hbb6 hbb7 hbb8 hbC ew3 ew6 ew8 ew11 hs3 hs8 hrow3 hrow8 c0 c1 c2 c3 x0 x1 x2 x3 y0 y1 y2 y3 i0 i1 j0 j1 fX fI hTP3 hwlt hlt12 hlt67 eW HB
  go_cut [67] (fun s67 wx => s67 = .bool false ∧ Below w11.heap.size w11 wx)
  case first =>
    clear HP3 HP4 HSt HSB hX12 hY12 hR12 hQ12
    cases sI with
    | none =>
      go_region_held3 (fun wz => wz.cell? ⟨w.heap.size, 0, none⟩ = some (.int .i64 t.ses) ∧ wz.cell? ⟨w.heap.size, 1, none⟩ = some (.int .i64 t.seq) ∧ wz.cell? ⟨w10.heap.size, 0, none⟩ = some (.int .i64 (ia : Int)) ∧ wz.cell? ⟨w10.heap.size, 1, none⟩ = some (.int .i64 (ib : Int)) ∧ wz.cell? ⟨w10.heap.size + 1, 0, none⟩ = some (.int .i64 (ia : Int)) ∧ wz.cell? ⟨w10.heap.size + 1, 1, none⟩ = some (.int .i64 (ib : Int)) ∧ wz.cell? ⟨w7.heap.size, 2, none⟩ = some (.bool true))
        (first | exact HSA.out _ (below_drew (Below.refl _ _)) | exact HSA.out _ hb21 | exact HSA.out _ hb22 | exact HSA.out _ hb23)
        (first
          | (go_at_call 14; refine (rdrOK_any (hR11.out.later (below_drew (Below.refl _ _)))).mono ?_; rintro e w20 ⟨rfl, rfl⟩)
          | (go_at_call 19; refine (HP1.out _ (keepB hbbC (below_drew (Below.refl _ _)))).mono ?_; rintro e w21 hq; obtain ⟨A21, c21, rfl, hB21, hb21'⟩ := hq.at_; have hb21 : Below w11.heap.size w11 w21 := keepB (below_drew (Below.refl _ _)) hb21')
          | (go_at_call 20; refine (HP2.out _ (keepB hbbC hb21)).mono ?_; rintro e w22 hq; obtain ⟨A22, c22, rfl, hB22, hb22'⟩ := hq.at_; have hb22 : Below w11.heap.size w11 w22 := keepB hb21 hb22')
          | (go_at_call 18; refine (HSa.out m1 _ A21 A22 c21 c22 hml1 (BysAt.later hB21 hb22') hB22).mono ?_; rintro e w23 ⟨rfl, hb23'⟩; have hb23 : Below w11.heap.size w11 w23 := keepB hb22 hb23'))
      all_goals
        go_wp2
        go_meet
        exact ⟨rfl, hb23⟩
    | some rI =>
      go_region_held3 (fun wz => wz.cell? ⟨w.heap.size, 0, none⟩ = some (.int .i64 t.ses) ∧ wz.cell? ⟨w.heap.size, 1, none⟩ = some (.int .i64 t.seq) ∧ wz.cell? ⟨w10.heap.size, 0, none⟩ = some (.int .i64 (ia : Int)) ∧ wz.cell? ⟨w10.heap.size, 1, none⟩ = some (.int .i64 (ib : Int)) ∧ wz.cell? ⟨w10.heap.size + 1, 0, none⟩ = some (.int .i64 (ia : Int)) ∧ wz.cell? ⟨w10.heap.size + 1, 1, none⟩ = some (.int .i64 (ib : Int)) ∧ wz.cell? ⟨w7.heap.size, 2, none⟩ = some (.bool false))
        (first | exact HSA.out _ (below_drew (Below.refl _ _)) | exact HSA.out _ hb21 | exact HSA.out _ hb22 | exact HSA.out _ hb23)
        (first
          | (go_at_call 14; refine (rdrOK_any (hR11.out.later (below_drew (Below.refl _ _)))).mono ?_; rintro e w20 ⟨rfl, rfl⟩)
          | (go_at_call 19; refine (HP1.out _ (keepB hbbC (below_drew (Below.refl _ _)))).mono ?_; rintro e w21 hq; obtain ⟨A21, c21, rfl, hB21, hb21'⟩ := hq.at_; have hb21 : Below w11.heap.size w11 w21 := keepB (below_drew (Below.refl _ _)) hb21')
          | (go_at_call 20; refine (HP2.out _ (keepB hbbC hb21)).mono ?_; rintro e w22 hq; obtain ⟨A22, c22, rfl, hB22, hb22'⟩ := hq.at_; have hb22 : Below w11.heap.size w11 w22 := keepB hb21 hb22')
          | (go_at_call 18; refine (HSa.out m1 _ A21 A22 c21 c22 hml1 (BysAt.later hB21 hb22') hB22).mono ?_; rintro e w23 ⟨rfl, hb23'⟩; have hb23 : Below w11.heap.size w11 w23 := keepB hb22 hb23'))
      all_goals
        go_wp2
        go_meet
        exact ⟨rfl, hb23⟩
  case rest =>
    obtain ⟨rfl, hW⟩ := hcut
    have hbbW := keepB hbbC hW
    clear HP1 HP2 HSA hR11 HNE
    replace hX12 := Lib.hid (hX12.out.later hW)
    replace hY12 := Lib.hid (hY12.out.later hW)
    replace hR12 := Lib.hid (hR12.out.later hW)
    replace hQ12 := Lib.hid (hQ12.out.later hW)
    have HSC : Hid (∀ wz, Below wc.heap.size wc wz → Below w11.heap.size w11 wz) := fun wz hz => keepB hW hz
    go_wp2
    cases sX with
    | none =>
      go_region_held3 (fun wz => wz.cell? ⟨w.heap.size, 0, none⟩ = some (.int .i64 t.ses) ∧ wz.cell? ⟨w.heap.size, 1, none⟩ = some (.int .i64 t.seq) ∧ wz.cell? ⟨w.heap.size, 2, none⟩ = some (.slice A t.rds.length ca) ∧ wz.cell? ⟨w.heap.size, 3, none⟩ = some (.slice B t.wrs.length cb) ∧ wz.cell? ⟨w5.heap.size, 0, none⟩ = some (.int .i64 T.ses) ∧ wz.cell? ⟨w5.heap.size, 1, none⟩ = some (.int .i64 T.seq) ∧ wz.cell? ⟨w5.heap.size, 2, none⟩ = some (.slice A4 T.rds.length a4) ∧ wz.cell? ⟨w5.heap.size, 3, none⟩ = some (.slice B4 T.wrs.length b4) ∧ wz.cell? ⟨w5.heap.size + 1, 0, none⟩ = some (.int .i64 T.ses) ∧ wz.cell? ⟨w5.heap.size + 1, 1, none⟩ = some (.int .i64 T.seq) ∧ wz.cell? ⟨w5.heap.size + 1, 2, none⟩ = some (.slice A5 T.rds.length a5) ∧ wz.cell? ⟨w5.heap.size + 1, 3, none⟩ = some (.slice B5 T.wrs.length b5) ∧ wz.cell? ⟨w2.heap.size, 2, none⟩ = some (.bool true))
        (first | exact HSB.out _ (HSC.out _ (below_drew (Below.refl _ _))) | exact HSB.out _ (HSC.out _ hb31) | exact HSB.out _ (HSC.out _ hb32) | exact HSB.out _ (HSC.out _ hb33) | exact HSB.out _ (HSC.out _ hb34) | exact HSB.out _ (HSC.out _ hb35))
        (first
          | (go_at_call 9; refine (HP3.out _ (keepB hbbW (below_drew (Below.refl _ _)))).mono ?_; rintro e w31 hq; obtain ⟨A31, c31, rfl, hB31, hb31'⟩ := hq.at_; have hb31 : Below wc.heap.size wc w31 := keepB (below_drew (Below.refl _ _)) hb31')
          | (go_at_call 21; refine (HP4.out _ (keepB hbbW hb31)).mono ?_; rintro e w32 hq; obtain ⟨A32, c32, rfl, hB32, hb32'⟩ := hq.at_; have hb32 : Below wc.heap.size wc w32 := keepB hb31 hb32')
          | (go_at_call 18; refine (HSa.out m2 _ A31 A32 c31 c32 hml2 (BysAt.later hB31 hb32') hB32).mono ?_; rintro e w33 ⟨rfl, hb33'⟩; have hb33 : Below wc.heap.size wc w33 := keepB hb32 hb33')
          | (go_at_call 11; refine (HSt.out _ A4 B4 a4 b4 A5 B5 a5 b5 (hX12.out.later hb33) (hY12.out.later hb33)).mono ?_; rintro e w34 ⟨rfl, hb34'⟩; have hb34 : Below wc.heap.size wc w34 := keepB hb33 hb34'; have hR34 := hR12.out.later hb34; have hQ34 := hQ12.out.later hb34)
          | (go_at_call 14; refine (rdrOK_any hR34).mono ?_; rintro e w36 ⟨rfl, rfl⟩)
          | (go_at_call 22; refine (rdrLeft_any hR34).mono ?_; rintro e w37 ⟨rfl, rfl⟩)
          | (go_at_call 23; refine (refLeft_any hQ34).mono ?_; rintro e w35 ⟨rfl, hb35'⟩; have hb35 : Below wc.heap.size wc w35 := keepB hb34 hb35'))
      all_goals
        go_wp2
        go_ret
        exact ⟨rfl, keepB hbbW hb35⟩
    | some rX =>
      go_region_held3 (fun wz => wz.cell? ⟨w.heap.size, 0, none⟩ = some (.int .i64 t.ses) ∧ wz.cell? ⟨w.heap.size, 1, none⟩ = some (.int .i64 t.seq) ∧ wz.cell? ⟨w.heap.size, 2, none⟩ = some (.slice A t.rds.length ca) ∧ wz.cell? ⟨w.heap.size, 3, none⟩ = some (.slice B t.wrs.length cb) ∧ wz.cell? ⟨w5.heap.size, 0, none⟩ = some (.int .i64 T.ses) ∧ wz.cell? ⟨w5.heap.size, 1, none⟩ = some (.int .i64 T.seq) ∧ wz.cell? ⟨w5.heap.size, 2, none⟩ = some (.slice A4 T.rds.length a4) ∧ wz.cell? ⟨w5.heap.size, 3, none⟩ = some (.slice B4 T.wrs.length b4) ∧ wz.cell? ⟨w5.heap.size + 1, 0, none⟩ = some (.int .i64 T.ses) ∧ wz.cell? ⟨w5.heap.size + 1, 1, none⟩ = some (.int .i64 T.seq) ∧ wz.cell? ⟨w5.heap.size + 1, 2, none⟩ = some (.slice A5 T.rds.length a5) ∧ wz.cell? ⟨w5.heap.size + 1, 3, none⟩ = some (.slice B5 T.wrs.length b5) ∧ wz.cell? ⟨w2.heap.size, 2, none⟩ = some (.bool false))
        (first | exact HSB.out _ (HSC.out _ (below_drew (Below.refl _ _))) | exact HSB.out _ (HSC.out _ hb31) | exact HSB.out _ (HSC.out _ hb32) | exact HSB.out _ (HSC.out _ hb33) | exact HSB.out _ (HSC.out _ hb34) | exact HSB.out _ (HSC.out _ hb35))
        (first
          | (go_at_call 9; refine (HP3.out _ (keepB hbbW (below_drew (Below.refl _ _)))).mono ?_; rintro e w31 hq; obtain ⟨A31, c31, rfl, hB31, hb31'⟩ := hq.at_; have hb31 : Below wc.heap.size wc w31 := keepB (below_drew (Below.refl _ _)) hb31')
          | (go_at_call 21; refine (HP4.out _ (keepB hbbW hb31)).mono ?_; rintro e w32 hq; obtain ⟨A32, c32, rfl, hB32, hb32'⟩ := hq.at_; have hb32 : Below wc.heap.size wc w32 := keepB hb31 hb32')
          | (go_at_call 18; refine (HSa.out m2 _ A31 A32 c31 c32 hml2 (BysAt.later hB31 hb32') hB32).mono ?_; rintro e w33 ⟨rfl, hb33'⟩; have hb33 : Below wc.heap.size wc w33 := keepB hb32 hb33')
          | (go_at_call 11; refine (HSt.out _ A4 B4 a4 b4 A5 B5 a5 b5 (hX12.out.later hb33) (hY12.out.later hb33)).mono ?_; rintro e w34 ⟨rfl, hb34'⟩; have hb34 : Below wc.heap.size wc w34 := keepB hb33 hb34'; have hR34 := hR12.out.later hb34; have hQ34 := hQ12.out.later hb34)
          | (go_at_call 14; refine (rdrOK_any hR34).mono ?_; rintro e w36 ⟨rfl, rfl⟩)
          | (go_at_call 22; refine (rdrLeft_any hR34).mono ?_; rintro e w37 ⟨rfl, rfl⟩)
          | (go_at_call 23; refine (refLeft_any hQ34).mono ?_; rintro e w35 ⟨rfl, hb35'⟩; have hb35 : Below wc.heap.size wc w35 := keepB hb34 hb35'))
      all_goals
        go_wp2
        go_ret
        exact ⟨rfl, keepB hbbW hb35⟩
end Go.Proofs.YtfblemdpimbciaaDoor
