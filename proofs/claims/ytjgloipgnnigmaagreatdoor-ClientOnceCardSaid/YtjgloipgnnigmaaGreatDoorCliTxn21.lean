/- The client's Txn. -/
import Derived.Test.YtjgloipgnnigmaaGreatDoorJ8
import Derived.Deep.RegionHeld3
import Derived.Test.YtjgloipgnnigmaaGreatDoorJ4
set_option linter.unusedVariables false
set_option linter.unusedSimpArgs false
namespace Go.Proofs.YtjgloipgnnigmaaGreatDoor
open Go.RowKit Go.Shelf Go.Sort

/-- What a session holds are strings and values of Go's. -/
structure CliSz (x : CliD) : Prop where
  r : ∀ y ∈ x.rds, y.key.size ≤ 9223372036854775807
  w : ∀ y ∈ x.wrs, y.key.size ≤ 9223372036854775807 ∧ y.val.Good
  a : ∀ y ∈ x.asks, y.key.size ≤ 9223372036854775807
  k : ∀ y ∈ x.keys, y.size ≤ 9223372036854775807
theorem getD_mem {α : Type} {l : List α} {d : α} {k : Nat} (h : k < l.length) : l.getD k d ∈ l := by
  rw [getD_eq l d h]; exact List.getElem_mem h
def TxnPost (w : World) (t : Tx) (e : Ending) (w' : World) : Prop := ∃ A C ca cb, e = .returned (txV t A C ca cb) ∧ TxAt w' t A C ∧ t.rds.length ≤ ca ∧ t.wrs.length ≤ cb ∧ Below w.heap.size w w'
def TxnPostF (w : World) (t : Tx) (e : Ending) (w' : World) : Prop := ∃ A C ca cb, e = .returned (txV t A C ca cb) ∧ TxAt w' t A C ∧ t.rds.length ≤ ca ∧ t.wrs.length ≤ cb ∧ Below w.heap.size w w' ∧ FreshP w.heap.size A ∧ FreshP w.heap.size C
theorem TxnPostF.loose {w w' : World} {t : Tx} {e : Ending} (h : TxnPostF w t e w') : TxnPost w t e w' := by
  obtain ⟨A, C, ca, cb, h1, h2, h3, h4, h5, _⟩ := h
  exact ⟨A, C, ca, cb, h1, h2, h3, h4, h5⟩
theorem oneTx {a b : Int} {A C : Option Addr} {n m c d : Nat} : (#[.int .i64 a, .int .i64 b, .slice A n c, .slice C m d] : Array Value).all (·.oneCell') = true := by simp [Value.oneCell']
theorem cellsTx {w : World} {g : Nat} {a b c d : Value} {t : TypeId} (h : w.heap[g]? = some (.cells #[a, b, c, d] t (0, 0))) :
    (w.cell? ⟨g, 0, none⟩ = some a ∧ w.cell? ⟨g, 1, none⟩ = some b ∧ w.cell? ⟨g, 2, none⟩ = some c ∧ w.cell? ⟨g, 3, none⟩ = some d) ∧ w.frozen? ⟨g, 0, none⟩ = false ∧ w.frozen? ⟨g, 1, none⟩ = false ∧ w.frozen? ⟨g, 2, none⟩ = false ∧ w.frozen? ⟨g, 3, none⟩ = false := by
  refine ⟨⟨?_, ?_, ?_, ?_⟩, frozen_of_row w g _ _ _ h, frozen_of_row w g _ _ _ h, frozen_of_row w g _ _ _ h, frozen_of_row w g _ _ _ h⟩ <;> (rw [cell_of_row w g _ _ _ _ h]; rfl)
theorem keepS21 {W : World} {b c i j : Nat} {v u : Value} (h : W.cell? ⟨b, i, none⟩ = some v) (hne : ¬ (b = c)) : (W.setCell ⟨c, j, none⟩ u).cell? ⟨b, i, none⟩ = some v := by
  rw [World.cell?_of_block (Below.heap_setCell _ _ _ _ hne)]; exact h
theorem keep4 {W : World} {b c i : Nat} {v u0 u1 u2 u3 : Value} (h : W.cell? ⟨b, i, none⟩ = some v) (hne : ¬ (b = c)) : ((((W.setCell ⟨c, 0, none⟩ u0).setCell ⟨c, 1, none⟩ u1).setCell ⟨c, 2, none⟩ u2).setCell ⟨c, 3, none⟩ u3).cell? ⟨b, i, none⟩ = some v :=
  keepS21 (keepS21 (keepS21 (keepS21 h hne) hne) hne) hne
theorem info_txn : (Tryz.prog.info? 37).map (·.size) = some 4 := by kernel_rfl
theorem txn_fin {w W w5 w6 : World} {ses seq : Int} {rds : List Rd} {wrs : List Wr} {A5 A6 : Option Addr} {k5 k6 : Nat} {z0 z1 z2 z3 : Value}
    (hlt : w.heap.size < W.heap.size) (h5 : W.heap.size ≤ w5.heap.size) (HB : Below w.heap.size w W) (hb7 : Below W.heap.size W w6)
    (hr5 : w6.ownsRow W.heap.size 75 2 (.slice A5 rds.length k5) rds.length (rdCells rds))
    (hr6 : w6.ownsRow w5.heap.size 112 4 (.slice A6 wrs.length k6) wrs.length (wrCells wrs))
    (hrw : w6.heap[w.heap.size]? = some (.cells #[z0, z1, z2, z3] 37 (0, 0)))
    (hr : ∀ y ∈ rds, y.key.size ≤ 9223372036854775807) (hwz : ∀ y ∈ wrs, y.key.size ≤ 9223372036854775807 ∧ y.val.Good) (hn : rds.length ≤ 6) (hm : wrs.length ≤ 6) :
    ((((w6.setCell ⟨w.heap.size, 0, none⟩ (.int .i64 ses)).setCell ⟨w.heap.size, 1, none⟩ (.int .i64 seq)).setCell ⟨w.heap.size, 2, none⟩ (.slice A5 rds.length k5)).setCell ⟨w.heap.size, 3, none⟩ (.slice A6 wrs.length k6)).heap[w.heap.size]? =
      some (.cells #[.int .i64 ses, .int .i64 seq, .slice A5 rds.length k5, .slice A6 wrs.length k6] 37 (0, 0)) ∧
    TxnPostF w ⟨ses, seq, rds, wrs⟩ (.returned (.agg #[.int .i64 ses, .int .i64 seq, .slice A5 rds.length k5, .slice A6 wrs.length k6]))
      ((((w6.setCell ⟨w.heap.size, 0, none⟩ (.int .i64 ses)).setCell ⟨w.heap.size, 1, none⟩ (.int .i64 seq)).setCell ⟨w.heap.size, 2, none⟩ (.slice A5 rds.length k5)).setCell ⟨w.heap.size, 3, none⟩ (.slice A6 wrs.length k6)) := by
  refine ⟨by rw [blk_set21 _ (blk_set21 _ (blk_set21 _ (blk_set21 _ hrw)))]; rfl, ?_⟩
  obtain ⟨A, k, e, hk, hA, hFA⟩ := own_rds hr5
  obtain ⟨C, q, e', hq, hC, hFC⟩ := own_wrs hr6
  injection e with eA _ ek
  injection e' with eC _ eq
  subst eA ek eC eq
  refine ⟨A5, A6, k5, k6, rfl, ⟨?_, ?_, ?_, ?_, ?_, by show rds.length ≤ _; omega, by show wrs.length ≤ _; omega⟩, hk, hq, ?_, fun a ea => Nat.le_trans (Nat.le_of_lt hlt) (hFA a ea), fun a ea => Nat.le_trans (Nat.le_of_lt hlt) (Nat.le_trans h5 (hFC a ea))⟩
  · intro i hi
    obtain ⟨b, off, ea, c0, c1⟩ := hA i hi
    have := hFA _ ea
    have hb : W.heap.size ≤ b := this
    exact ⟨b, off, ea, keep4 c0 (by omega), keep4 c1 (by omega)⟩
  · intro i hi
    obtain ⟨b, off, ea, c0, c1, c2, c3⟩ := hC i hi
    have hb : w5.heap.size ≤ b := hFC _ ea
    exact ⟨b, off, ea, keep4 c0 (by omega), keep4 c1 (by omega), keep4 c2 (by omega), keep4 c3 (by omega)⟩
  · intro i hi
    exact hr _ (getD_mem hi)
  · intro i hi
    exact (hwz _ (getD_mem hi)).1
  · intro i hi
    exact (hwz _ (getD_mem hi)).2
  · exact Below.setCell (p := ⟨w.heap.size, 3, none⟩) (Below.setCell (p := ⟨w.heap.size, 2, none⟩) (Below.setCell (p := ⟨w.heap.size, 1, none⟩) (Below.setCell (p := ⟨w.heap.size, 0, none⟩) (keepB HB hb7) (Nat.le_refl _) _) (Nat.le_refl _) _) (Nat.le_refl _) _) (Nat.le_refl _) _
section
variable {w : World} {B p : Nat} {K : CliK} {x : CliD} {O : Nat → Prop}
theorem in_dec (h : CliAt w B p K x O) (k : Int) : Calls Tryz.prog 35 #[.pointer (some ⟨p, 0, none⟩), .int .i64 k] w fun e w' => e = .returned (.bool ((x.state : Int) == k)) ∧ w = w' := in_any h k _ rfl
set_option maxRecDepth 100000 in
set_option maxHeartbeats 4000000 in
theorem txn_fresh (h : CliAt w B p K x O) (hz : CliSz x) (hr : x.rds.length ≤ 6) (hw : x.wrs.length ≤ 6) : Calls Tryz.prog 24 #[.pointer (some ⟨p, 0, none⟩)] w (TxnPostF w (txnD K.ses x)) := by
  obtain ⟨W, eW, HB, hszW, hrW⟩ := boxed w #[.int .i64 0, .int .i64 0, .slice none 0 0, .slice none 0 0] 37
  have hW := Lib.hid (h.later HB)
  have HR := Lib.hid hrW
  clear hrW
  cases ht : inTxn x
  · have s1 : ((x.state : Int) == 1) = false := by
      rw [beq_eq_false_iff_ne]; intro e
      have : x.state = 1 := by omega
      rw [inTxn_1 this] at ht; cases ht
    have s2 : ((x.state : Int) == 2) = false := by
      rw [beq_eq_false_iff_ne]; intro e
      have : x.state = 2 := by omega
      rw [inTxn_2 this] at ht; cases ht
    have HE : Hid (txnD K.ses x = ⟨0, 0, [], []⟩) := by show _ = _; rw [txnD, ht]; rfl
    clear ht
    go_enter Tryz.func24, Tryz.ntmps24
    go_wp2_with (first
      | (go_at_call 35; refine (in_dec hW.out _).mono ?_; rintro e w1 ⟨rfl, rfl⟩; (first | rw [s1] | rw [s2]))
      | (refine wpList_store_row rfl 37 _ _ rfl w.heap.size #[.int .i64 0, .int .i64 0, .slice none 0 0, .slice none 0 0] rfl rfl 37 _ HR.out info_txn rfl oneTx ?_))
    refine bodyPost_ret (v := .agg #[.int .i64 0, .int .i64 0, .slice none 0 0, .slice none 0 0]) (results_cell_row rfl _ _ w.heap.size _ #[.int .i64 0, .int .i64 0, .slice none 0 0, .slice none 0 0] _ _ rfl (setRow_heap _ _ _ _ _ _ HR.out) Tryz.underlying37 rfl info_txn) rfl ?_
    rw [HE.out]
    exact ⟨none, none, 0, 0, rfl, noTx_lies _, Nat.le_refl _, Nat.le_refl _, below_setRow HB (Nat.le_refl _) _, fun _ e => (by cases e), fun _ e => (by cases e)⟩
  · have HE : Hid (txnD K.ses x = ⟨K.ses, x.seq, x.rds, x.wrs⟩) := by show _ = _; rw [txnD, ht]; rfl
    obtain ⟨vr, vw, va, vk, hI⟩ := hW.out
    obtain ⟨_, _, c2, _, c4, _, _, _, c8, c9, _⟩ := hI.cs
    have HCr := Lib.hid (fun wz (hb : Below W.heap.size W wz) => cloneR_any x.rds vr B wz (own_keep hI.rowr hb) (by omega))
    have HCw := Lib.hid (fun wz (hb : Below W.heap.size W wz) => cloneW_any x.wrs vw B wz (own_keep hI.roww hb) (by omega))
    have HIr := Lib.hid hI.rowr
    obtain ⟨A8, q8, e8, _⟩ := own_rds hI.rowr
    obtain ⟨A9, q9, e9, _⟩ := own_wrs hI.roww
    subst e8 e9
    have hlt9 : w.heap.size < W.heap.size := by rw [hszW]; omega
    clear hI hszW
    have npg : ¬ (p = w.heap.size) := fun e => by
      have h9 := (h.lt' p (by obtain ⟨_, _, _, _, q⟩ := h; exact q.hp)).2
      omega
    have hst : x.state = 1 ∨ x.state = 2 := by simpa [inTxn] using ht
    clear ht
    rcases hst with q | q
    · have s1 : ((x.state : Int) == 1) = true := by rw [beq_iff_eq]; omega
      have s2 : ((x.state : Int) == 2) = false := by rw [beq_eq_false_iff_ne]; omega
      clear q
      go_enter Tryz.func24, Tryz.ntmps24
      go_wp2_with (first
        | (go_at_call 35; refine (in_dec hW.out _).mono ?_; rintro e w1 ⟨rfl, rfl⟩; (first | rw [s1] | rw [s2])))
      go_region_held3 (fun w' => w'.cell? ⟨p, 2, none⟩ = some (.int .i64 K.ses) ∧ w'.cell? ⟨p, 4, none⟩ = some (.int .i64 (x.seq : Int)) ∧ w'.cell? ⟨p, 8, none⟩ = some (.slice A8 x.rds.length q8) ∧ w'.cell? ⟨p, 9, none⟩ = some (.slice A9 x.wrs.length q9) )
        (first | exact ⟨c2, c4, c8, c9⟩ | (with_reducible exact ⟨keep hb5 c2, keep hb5 c4, keep hb5 c8, keep hb5 c9⟩) | (with_reducible exact ⟨keep hb7 c2, keep hb7 c4, keep hb7 c8, keep hb7 c9⟩) | (with_reducible exact ⟨keep4 (keep hb7 c2) npg, keep4 (keep hb7 c4) npg, keep4 (keep hb7 c8) npg, keep4 (keep hb7 c9) npg⟩))
        (first
          | (go_at_call 69; refine (HCr.out _ (below_drew (Below.refl _ _))).mono ?_; rintro e w5 ⟨v5, rfl, hr5, hb⟩; have hb5 : Below W.heap.size W w5 := keepB (below_drew (Below.refl _ _)) hb; obtain ⟨A5, k5, rfl⟩ := own_form hr5; replace hr5 := Lib.hid hr5; have h59 := Lib.hid hb5.size)
          | (go_at_call 70; refine (HCw.out _ hb5).mono ?_; rintro e w6 ⟨v6, rfl, hr6, hb6⟩; obtain ⟨A6, k6, rfl⟩ := own_form hr6; replace hr5 := Lib.hid (own_keep hr5.out hb6); replace hr6 := Lib.hid hr6; have hb7 := keepB hb5 hb6; have hrw := Lib.hid (obj_keep HR.out hb7); obtain ⟨⟨z0, z1, z2, z3⟩, y0, y1, y2, y3⟩ := cellsTx hrw.out))
      (try go_meet)
      (try go_wp2)
      obtain ⟨ha, hb⟩ := txn_fin hlt9 h59.out HB hb7 hr5.out hr6.out hrw.out hz.r hz.w hr hw
      refine bodyPost_ret (v := .agg #[.int .i64 K.ses, .int .i64 (x.seq : Int), .slice A5 x.rds.length k5, .slice A6 x.wrs.length k6]) (results_cell_row rfl _ _ w.heap.size _ _ _ _ rfl ha Tryz.underlying37 rfl info_txn) rfl ?_
      rw [HE.out]
      exact hb
    · have s1 : ((x.state : Int) == 1) = false := by rw [beq_eq_false_iff_ne]; omega
      have s2 : ((x.state : Int) == 2) = true := by rw [beq_iff_eq]; omega
      clear q
      go_enter Tryz.func24, Tryz.ntmps24
      go_wp2_with (first
        | (go_at_call 35; refine (in_dec hW.out _).mono ?_; rintro e w1 ⟨rfl, rfl⟩; (first | rw [s1] | rw [s2])))
      go_region_held3 (fun w' => w'.cell? ⟨p, 2, none⟩ = some (.int .i64 K.ses) ∧ w'.cell? ⟨p, 4, none⟩ = some (.int .i64 (x.seq : Int)) ∧ w'.cell? ⟨p, 8, none⟩ = some (.slice A8 x.rds.length q8) ∧ w'.cell? ⟨p, 9, none⟩ = some (.slice A9 x.wrs.length q9) )
        (first | exact ⟨c2, c4, c8, c9⟩ | (with_reducible exact ⟨keep hb5 c2, keep hb5 c4, keep hb5 c8, keep hb5 c9⟩) | (with_reducible exact ⟨keep hb7 c2, keep hb7 c4, keep hb7 c8, keep hb7 c9⟩) | (with_reducible exact ⟨keep4 (keep hb7 c2) npg, keep4 (keep hb7 c4) npg, keep4 (keep hb7 c8) npg, keep4 (keep hb7 c9) npg⟩))
        (first
          | (go_at_call 69; refine (HCr.out _ (below_drew (Below.refl _ _))).mono ?_; rintro e w5 ⟨v5, rfl, hr5, hb⟩; have hb5 : Below W.heap.size W w5 := keepB (below_drew (Below.refl _ _)) hb; obtain ⟨A5, k5, rfl⟩ := own_form hr5; replace hr5 := Lib.hid hr5; have h59 := Lib.hid hb5.size)
          | (go_at_call 70; refine (HCw.out _ hb5).mono ?_; rintro e w6 ⟨v6, rfl, hr6, hb6⟩; obtain ⟨A6, k6, rfl⟩ := own_form hr6; replace hr5 := Lib.hid (own_keep hr5.out hb6); replace hr6 := Lib.hid hr6; have hb7 := keepB hb5 hb6; have hrw := Lib.hid (obj_keep HR.out hb7); obtain ⟨⟨z0, z1, z2, z3⟩, y0, y1, y2, y3⟩ := cellsTx hrw.out))
      (try go_meet)
      (try go_wp2)
      obtain ⟨ha, hb⟩ := txn_fin hlt9 h59.out HB hb7 hr5.out hr6.out hrw.out hz.r hz.w hr hw
      refine bodyPost_ret (v := .agg #[.int .i64 K.ses, .int .i64 (x.seq : Int), .slice A5 x.rds.length k5, .slice A6 x.wrs.length k6]) (results_cell_row rfl _ _ w.heap.size _ _ _ _ rfl ha Tryz.underlying37 rfl info_txn) rfl ?_
      rw [HE.out]
      exact hb
theorem txn_any (h : CliAt w B p K x O) (hz : CliSz x) (hr : x.rds.length ≤ 6) (hw : x.wrs.length ≤ 6) : Calls Tryz.prog 24 #[.pointer (some ⟨p, 0, none⟩)] w (TxnPost w (txnD K.ses x)) :=
  (txn_fresh h hz hr hw).mono fun _ _ hp => hp.loose
end
end Go.Proofs.YtjgloipgnnigmaaGreatDoor
