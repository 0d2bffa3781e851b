/- The reference's readers: Take and TakeText. -/
import Derived.Test.YtfblemdpimbciaaDoorTake04
namespace Go.Proofs.YtfblemdpimbciaaDoor
open Go.RowKit Go.Shelf

structure RRdrIs (w : World) (q : Nat) (s : RS) (A : Option Addr) (L : List UInt8) (ca k : Nat) : Prop where
  blk : w.heap[q]? = some (.cells #[.slice A L.length ca, .int .i64 (k : Int), .bool s.isNone] 40 (0, 0))
  cap : L.length ≤ ca
  mx : L.length ≤ 1000000
  le : k ≤ L.length
  lo : ∀ a, A = some a → 0 < L.length → a.block < q
  by_ : BysAt w A L
  st : ∀ l, s = some l → l = L.drop k
def RRdrAt (w : World) (q : Nat) (s : RS) : Prop := ∃ A L ca k, RRdrIs w q s A L ca k
theorem RRdrIs.out {O : Nat → Prop} {w w' : World} {q : Nat} {s : RS} {A : Option Addr} {L : List UInt8} {ca k : Nat} (h : RRdrIs w q s A L ca k) (hb : Out O w w') (ho : ∀ j, j ≤ q → ¬ O j) : RRdrIs w' q s A L ca k :=
  { blk := hb.obj h.blk (ho q (Nat.le_refl _)), cap := h.cap, mx := h.mx, le := h.le, lo := h.lo, by_ := h.by_.out hb fun a ha h0 => ho _ (Nat.le_of_lt (h.lo a ha h0)), st := h.st }
theorem RRdrIs.later {w w' : World} {q : Nat} {s : RS} {A : Option Addr} {L : List UInt8} {ca k : Nat} (h : RRdrIs w q s A L ca k) (hb : Below w.heap.size w w') : RRdrIs w' q s A L ca k :=
  h.out (O := fun _ => False) (Out.of_below hb) (fun _ _ h => h)
theorem RRdrAt.out {O : Nat → Prop} {w w' : World} {q : Nat} {s : RS} (h : RRdrAt w q s) (hb : Out O w w') (ho : ∀ j, j ≤ q → ¬ O j) : RRdrAt w' q s := by
  obtain ⟨A, L, ca, k, h⟩ := h
  exact ⟨A, L, ca, k, h.out hb ho⟩
theorem RRdrAt.later {w w' : World} {q : Nat} {s : RS} (h : RRdrAt w q s) (hb : Below w.heap.size w w') : RRdrAt w' q s :=
  h.out (O := fun _ => False) (Out.of_below hb) (fun _ _ h => h)
theorem RRdrAt.lt {w : World} {q : Nat} {s : RS} (h : RRdrAt w q s) : q < w.heap.size := by
  obtain ⟨A, L, ca, k, h⟩ := h
  exact (Array.getElem?_eq_some_iff.1 h.blk).1
theorem RRdrIs.fail {w : World} {q : Nat} {s : RS} {A : Option Addr} {L : List UInt8} {ca k : Nat} (h : RRdrIs w q s A L ca k) : RRdrAt (w.setCell ⟨q, 2, none⟩ (.bool true)) q none := by
  have hb := obj_set (j := 2) (.bool true) h.blk
  refine ⟨A, L, ca, k, by simpa using hb, h.cap, h.mx, h.le, h.lo, h.by_.out (out_cell w q 2 _) fun a ha h0 e => ?_, fun l e => (by cases e)⟩
  have := h.lo a ha h0
  omega
theorem RRdrIs.move {w : World} {q : Nat} {l : List UInt8} {A : Option Addr} {L : List UInt8} {ca k n : Nat} (h : RRdrIs w q (some l) A L ca k) (hn : k + n ≤ L.length) (z : Int) (hz : z = ((k + n : Nat) : Int)) : RRdrAt (w.setCell ⟨q, 1, none⟩ (.int .i64 z)) q (some (l.drop n)) := by
  subst hz
  have hb := obj_set (j := 1) (.int .i64 ((k + n : Nat) : Int)) h.blk
  refine ⟨A, L, ca, k + n, by simpa using hb, h.cap, h.mx, hn, h.lo, h.by_.out (out_cell w q 1 _) fun a ha h0 e => ?_, fun l' e => ?_⟩
  · have := h.lo a ha h0
    omega
  · cases e
    rw [h.st l rfl, List.drop_drop]
theorem RRdrIs.left {w : World} {q : Nat} {l : List UInt8} {A : Option Addr} {L : List UInt8} {ca k m : Nat} (h : RRdrIs w q (some l) A L ca k) (hm : l.length = m) : IntKind.i64.wrap ((L.length : Int) - (k : Int)) = (m : Int) := by
  have h1 := h.st l rfl
  have h2 : l.length = L.length - k := by rw [h1, List.length_drop]
  have h3 := h.le
  have h4 := h.mx
  rw [show ((L.length : Int) - (k : Int)) = (m : Int) by omega]
  exact IntWalk.i64_in _ (by omega)
theorem RRdrIs.fits {w : World} {q : Nat} {l : List UInt8} {A : Option Addr} {L : List UInt8} {ca k m n : Nat} (h : RRdrIs w q (some l) A L ca k) (hm : l.length = m) (hn : n ≤ m) : k + n ≤ L.length ∧ L.length ≤ ca ∧ L.length ≤ 1000000 := by
  have h1 := h.st l rfl
  have h2 : l.length = L.length - k := by rw [h1, List.length_drop]
  have h3 := h.le
  exact ⟨by omega, h.cap, h.mx⟩
def RTakePost (w : World) (q : Nat) (x : Nat) (s : RS) (e : Ending) (w' : World) : Prop := e = .returned (.int .u64 (x : Int)) ∧ RRdrAt w' q s ∧ Out (fun k => k = q) w w'
theorem mkq {w : World} {g : Nat} {u v x : Value} {t : TypeId} (h : w.heap[g]? = some (.cells #[u, v, x] t (0, 0))) : w.cell? ⟨g, 0, none⟩ = some u ∧ w.cell? ⟨g, 1, none⟩ = some v ∧ w.cell? ⟨g, 2, none⟩ = some x ∧
    w.frozen? ⟨g, 0, none⟩ = false ∧ w.frozen? ⟨g, 1, none⟩ = false ∧ w.frozen? ⟨g, 2, none⟩ = false := mkc3 h
set_option maxRecDepth 100000 in
set_option maxHeartbeats 2000000 in
theorem refTake_any {w : World} {q : Nat} {s : RS} (h : RRdrAt w q s) (n : Nat) (nz : Int) (hz : nz = n) (hn : n ≤ 8) :
    Calls Tryd.prog 43 #[.pointer (some ⟨q, 0, none⟩), .int .i64 nz] w (RTakePost w q (takeN s n).1 (takeN s n).2) := by
  subst hz
  obtain ⟨A, L, ca, k, h⟩ := h
  obtain ⟨c0, c1, c2, f0, f1, f2⟩ := mkq h.blk
  have hqw : q < w.heap.size := (Array.getElem?_eq_some_iff.1 h.blk).1
  have HI := Lib.hid h
  have h9 : ¬ (8 : Int) < (n : Int) := by omega
  have h8 : decide ((8 : Int) < (n : Int)) = false := decide_eq_false h9
  have h8n : decide (8 < n) = false := decide_eq_false (by omega)
  have h7 : decide ((n : Int) < 0) = false := decide_eq_false (by omega)
  have hle := h.le
  have hmx := h.mx
  clear h
  cases s with
  | none =>
    go_enter Tryd.func43, Tryd.ntmps43
    go_wp2
    go_quiet (fail)
    go_wp2
    go_ret
    exact ⟨rfl, (HI.out.later (below_drewN (Below.refl _ _) _)).fail, (Out.of_below (below_drewN (Below.refl _ _) _)).trans' (out_cell _ _ _ _)⟩
  | some l =>
    have hl := HI.out.st l rfl
    have hll : l.length = L.length - k := by rw [hl, List.length_drop]
    obtain ⟨m, hm⟩ : ∃ m, Hid (l.length = m) := ⟨_, rfl⟩
    have hws : IntKind.i64.wrap ((L.length : Int) - (k : Int)) = (m : Int) := by rw [show ((L.length : Int) - (k : Int)) = (m : Int) by rw [← hm.out]; omega]; exact IntWalk.i64_in _ (by have := hm.out; omega)
    by_cases hlt : m < n
    · have t1 : decide ((m : Int) < (n : Int)) = true := decide_eq_true (by omega)
      have t2 : decide (m < n) = true := decide_eq_true hlt
      have HE : Hid (takeN (some l) n = (0, none)) := by show _ = _; rw [takeN_some, if_neg (by have := hm.out; omega)]
      clear hl hll hlt
      go_enter Tryd.func43, Tryd.ntmps43
      go_wp2
      go_quiet (fail)
      go_wp2
      go_ret
      exact ⟨by rw [HE.out]; rfl, by rw [HE.out]; exact (HI.out.later (below_drewN (Below.refl _ _) _)).fail, (Out.of_below (below_drewN (Below.refl _ _) _)).trans' (out_cell _ _ _ _)⟩
    · have t1 : decide ((m : Int) < (n : Int)) = false := decide_eq_false (by omega)
      have t2 : decide (m < n) = false := decide_eq_false hlt
      have HE : Hid (takeN (some l) n = (beN (l.take n), some (l.drop n))) := by show _ = _; rw [takeN_some, if_pos (by have := hm.out; omega)]
      have hkn : k + n ≤ L.length := by have := hm.out; omega
      have HL := Lib.hid hl
      have hln : n ≤ l.length := by have := hm.out; omega
      clear hl hll hlt
      go_enter Tryd.func43, Tryd.ntmps43
      go_wp2
      go_quiet (fail)
      go_wp2
      go_loopw [5, 6] (fun x i wr => ∃ j : Nat, j ≤ n ∧ i = .int .i64 j ∧ x = .int .u64 (beN (l.take j) : Nat) ∧ Below w.heap.size w wr) (fun _ i _ => n - (intOf i).toNat)
      case atStart => exact ⟨0, Nat.zero_le _, rfl, rfl, below_drewN (Below.refl _ _) _⟩
      case round =>
        obtain ⟨j, hj, rfl, rfl, hw⟩ := hrel
        have HIr := Lib.hid (HI.out.later hw)
        replace c0 := keep hw c0
        replace c1 := keep hw c1
        have fr := frozen_of_row wr q 1 _ _ HIr.out.blk
        by_cases hlt : j < n
        · have hjn : (j : Int) < (n : Int) := by omega
          obtain ⟨g, hg⟩ : ∃ g, Hid (k + j = g) := ⟨_, rfl⟩
          have hgz := hg.out
          have hgl : g < L.length := by omega
          have hgi : (g : Int) < (L.length : Int) := by omega
          have hg0 : (0 : Int) ≤ (g : Int) := by omega
          have hwg : IntKind.i64.wrap ((k : Int) + (j : Int)) = (g : Int) := by rw [show ((k : Int) + (j : Int)) = (g : Int) by omega]; exact IntWalk.i64_in _ (by omega)
          obtain ⟨b, off, y, rfl, hc, hy⟩ := HIr.out.by_.at' hgl
          have hlj : l.getD j 0 = L.getD g 0 := by rw [HL.out, ← hgz]; simp [List.getD_eq_getElem?_getD]
          have e2 : beN (l.take (j + 1)) = beN (l.take j) * 256 + y := by
            rw [beN_take l j (by omega), hlj, hy.out]
          have hyl := (L.getD g 0).toNat_lt
          rw [hy.out] at hyl
          have hsm : beN (l.take j) < 72057594037927936 := by
            have h1 := beN_lt (l.take j)
            rw [List.length_take, Nat.min_eq_left (by omega)] at h1
            have h2 : 256 ^ j ≤ 256 ^ 7 := Nat.pow_le_pow_right (by decide) (by omega)
            omega
          have hwy : IntKind.u64.wrap (y : Int) = y := IntWalk.u64_in _ (by omega)
          obtain ⟨z, hzz⟩ : ∃ z, Hid (beN (l.take j) = z) := ⟨_, rfl⟩
          rw [hzz.out] at e2 hsm ⊢
          replace e2 := Lib.hid e2
          have hwm : IntKind.u64.wrap ((z : Int) * 256) = ((z * 256 : Nat) : Int) := by rw [show ((z : Int) * 256) = ((z * 256 : Nat) : Int) by omega]; exact IntWalk.u64_in _ (by omega)
          have hwm2 : IntKind.u64.wrap ((z : Int) * 256 + (y : Int)) = (z : Int) * 256 + (y : Int) := IntWalk.u64_in _ (by omega)
          clear hgz hlj
          go_wp2
          go_quiet (fail)
          go_wp2
          go_roundw
          case rel => exact ⟨j + 1, by omega, by go_num, by rw [e2.out]; exact zint_eq (by omega), below_drewN hw _⟩
          case measure => simp [intOf]; omega
        · obtain rfl : j = n := by omega
          have hwk : IntKind.i64.wrap ((k : Int) + (j : Int)) = (k : Int) + (j : Int) := IntWalk.i64_in _ (by omega)
          clear hlt
          go_wp2
          go_ret
          refine ⟨by rw [HE.out]; rfl, ?_, (Out.of_below hw).trans' (out_cell _ _ _ _)⟩
          rw [HE.out]
          exact HIr.out.move hkn _ (by omega)
def textOf (n most : Nat) : RS → ByteArray × RS
  | none => (noStr, none)
  | some l => if n ≤ most ∧ n ≤ l.length then (strL (l.take n), some (l.drop n)) else (noStr, none)
theorem takeT_of (s : RS) (most : Nat) : takeT s most = textOf (takeN s 2).1 most (takeN s 2).2 := by
  unfold takeT
  split <;> (rename_i h; rw [h]; rfl)
theorem run_mid (A : Option Addr) (n c k m : Nat) (h1 : k + m ≤ n) (h2 : n ≤ c) (w : World) : (Instr.slice 31 (.slice A n c) (some (.int .i64 (k : Int))) (some (.int .i64 ((k : Int) + (m : Int)))) none).run Tryd.prog w = .ok (.slice (subA A k c) m (c - k)) w := by
  have hs : (sizeOf (Tryd.prog.elem 31)).run Tryd.prog w = .ok 1 w := by go_simp
  rw [run_slice_lh w 31 A n c (by kernel_rfl) .i64 .i64 _ _ (by omega) (by omega) (by omega), hs]
  show Result.ok _ w = _
  simp only [sliced, subA, Int.toNat_natCast, Nat.mul_one]
  rw [show ((k : Int) + (m : Int)).toNat = k + m by omega, Nat.add_sub_cancel_left]
def RTextPost (w : World) (q : Nat) (x : ByteArray) (s : RS) (e : Ending) (w' : World) : Prop := e = .returned (.string x) ∧ RRdrAt w' q s ∧ Out (fun k => k = q) w w'
theorem BysAt.mid {w : World} {A : Option Addr} {L : List UInt8} (h : BysAt w A L) {k n ca : Nat} (hc : L.length ≤ ca) (hn : k + n ≤ L.length) : BysAt w (subA A k ca) ((L.drop k).take n) ∧ ((L.drop k).take n).length = n :=
  ⟨(h.sub hc).pre n, by rw [List.length_take, List.length_drop]; omega⟩
set_option maxRecDepth 100000 in
set_option maxHeartbeats 2000000 in
theorem refText_any {w : World} {q : Nat} {s : RS} (h : RRdrAt w q s) (most : Nat) (mz : Int) (hz : mz = most) :
    Calls Tryd.prog 44 #[.pointer (some ⟨q, 0, none⟩), .int .i64 mz] w (RTextPost w q (takeT s most).1 (takeT s most).2) := by
  subst hz
  have HC := Lib.hid (refTake_any h 2 2 rfl (by decide))
  have hlt := takeN_lt s 2
  obtain ⟨n, hn⟩ : ∃ n, Hid ((takeN s 2).1 = n) := ⟨_, rfl⟩
  obtain ⟨s1, hs1⟩ : ∃ s1, Hid ((takeN s 2).2 = s1) := ⟨_, rfl⟩
  have HT : Hid (takeT s most = textOf n most s1) := by show _ = _; rw [takeT_of, hs1.out, hn.out]
  rw [hn.out, hs1.out] at HC
  rw [hn.out] at hlt
  rw [HT.out]
  clear h hn hs1 HT
  have hwr : IntKind.i64.wrap (n : Int) = n := IntWalk.i64_in _ (by omega)
  cases s1 with
  | none =>
    show Calls _ _ _ _ (RTextPost w q noStr none)
    go_enter Tryd.func44, Tryd.ntmps44
    go_wp2_with (go_at_call 43; refine HC.out.mono ?_; rintro e w1 ⟨rfl, hR, ho⟩; obtain ⟨A, L, ca, k, hI⟩ := hR; obtain ⟨c0, c1, c2, f0, f1, f2⟩ := mkq hI.blk)
    go_quiet (fail)
    go_wp2
    go_ret
    exact ⟨rfl, (hI.later (below_drewN (Below.refl _ _) _)).fail, ho.trans' ((Out.of_below (below_drewN (Below.refl _ _) _)).trans' (out_cell _ _ _ _))⟩
  | some l =>
    show Calls _ _ _ _ (RTextPost w q (if n ≤ most ∧ n ≤ l.length then (strL (l.take n), some (l.drop n)) else (noStr, none)).1 (if n ≤ most ∧ n ≤ l.length then (strL (l.take n), some (l.drop n)) else (noStr, none)).2)
    obtain ⟨m, hm⟩ : ∃ m, Hid (l.length = m) := ⟨_, rfl⟩
    by_cases h1 : most < n
    · rw [if_neg (by omega)]
      have t1 : decide ((most : Int) < (n : Int)) = true := decide_eq_true (by omega)
      have t2 : decide (most < n) = true := decide_eq_true h1
      clear h1
      go_enter Tryd.func44, Tryd.ntmps44
      go_wp2_with (go_at_call 43; refine HC.out.mono ?_; rintro e w1 ⟨rfl, hR, ho⟩; obtain ⟨A, L, ca, k, hI⟩ := hR; obtain ⟨c0, c1, c2, f0, f1, f2⟩ := mkq hI.blk)
      go_quiet (fail)
      go_wp2
      go_ret
      exact ⟨rfl, (hI.later (below_drewN (Below.refl _ _) _)).fail, ho.trans' ((Out.of_below (below_drewN (Below.refl _ _) _)).trans' (out_cell _ _ _ _))⟩
    · have t1 : decide ((most : Int) < (n : Int)) = false := decide_eq_false (by omega)
      have t2 : decide (most < n) = false := decide_eq_false h1
      by_cases h2 : m < n
      · rw [if_neg (by have := hm.out; omega)]
        have t3 : decide ((m : Int) < (n : Int)) = true := decide_eq_true (by omega)
        have t4 : decide (m < n) = true := decide_eq_true h2
        clear h1 h2
        go_enter Tryd.func44, Tryd.ntmps44
        go_wp2_with (go_at_call 43; refine HC.out.mono ?_; rintro e w1 ⟨rfl, hR, ho⟩; obtain ⟨A, L, ca, k, hI⟩ := hR; obtain ⟨c0, c1, c2, f0, f1, f2⟩ := mkq hI.blk; have hws := hI.left hm.out)
        go_quiet (fail)
        go_wp2
        go_ret
        exact ⟨rfl, (hI.later (below_drewN (Below.refl _ _) _)).fail, ho.trans' ((Out.of_below (below_drewN (Below.refl _ _) _)).trans' (out_cell _ _ _ _))⟩
      · rw [if_pos (by have := hm.out; omega)]
        have t3 : decide ((m : Int) < (n : Int)) = false := decide_eq_false (by omega)
        have t4 : decide (m < n) = false := decide_eq_false h2
        have hnm : n ≤ m := by omega
        clear h1 h2
        go_enter Tryd.func44, Tryd.ntmps44
        go_wp2_with (go_at_call 43; refine HC.out.mono ?_; rintro e w1 ⟨rfl, hR, ho⟩; obtain ⟨A, L, ca, k, hI⟩ := hR; obtain ⟨c0, c1, c2, f0, f1, f2⟩ := mkq hI.blk; have hws := hI.left hm.out; have hfit := Lib.hid (hI.fits hm.out hnm))
        have hwkn : IntKind.i64.wrap ((k : Int) + (n : Int)) = (k : Int) + (n : Int) := IntWalk.i64_in _ (by have := hfit.out; omega)
        have hmid := hI.by_.mid hfit.out.2.1 hfit.out.1
        have hsl := run_mid A L.length ca k n hfit.out.1 hfit.out.2.1
        rw [← hI.st l rfl] at hmid
        obtain ⟨A', hA'⟩ : ∃ A', Hid (subA A k ca = A') := ⟨_, rfl⟩
        rw [hA'.out] at hmid hsl
        have hcv : ∀ a, (convert 31 9 (.slice A' n (ca - k))).run Tryd.prog (w1.drewN a) = .ok (.string (strL (l.take n))) (w1.drewN a) := fun a => by
          have := run_text (hmid.1.later (below_drewN (Below.refl _ w1) a)) (ca - k)
          rw [hmid.2] at this
          exact this
        replace hmid := Lib.hid hmid
        go_quiet (fail)
        go_wp2
        go_quiet (fail)
        go_wp2
        go_ret
        exact ⟨rfl, (hI.later (below_drewN (Below.refl _ _) _)).move hfit.out.1 _ rfl, ho.trans' ((Out.of_below (below_drewN (Below.refl _ _) _)).trans' (out_cell _ _ _ _))⟩
/-- What is stored is there already. -/
theorem set_same {w : World} {g j : Nat} {cur : Array Value} {t : TypeId} {v : Value} (h : w.heap[g]? = some (.cells cur t (0, 0))) (hv : cur[j]? = some v) : w.setCell ⟨g, j, none⟩ v = w := by
  have e : (w.setCell ⟨g, j, none⟩ v).heap = w.heap := by
    apply Array.ext_getElem?
    intro i
    by_cases hi : i = g
    · subst hi
      rw [obj_set v h, h]
      congr 2
      apply Array.ext_getElem?
      intro k
      rw [Array.getElem?_setIfInBounds]
      split
      · rename_i hk
        subst hk
        split
        · exact hv.symm
        · rename_i h9
          rw [Array.getElem?_eq_none (by omega)]
      · rfl
    · exact Below.heap_setCell _ _ _ _ hi
  unfold World.setCell at e ⊢
  cases w
  simp only at e ⊢
  rw [e]
end Go.Proofs.YtfblemdpimbciaaDoor
