/- The reference's client: an ask is answered (its Open is set false). -/
import Derived.Test.YtjgloipgnnigmaaGreatDoorRcSafe21
import Derived.Test.YtjgloipgnnigmaaGreatDoorJ11
import Derived.Test.YtjgloipgnnigmaaGreatDoorJ17
import Derived.Test.YtjgloipgnnigmaaGreatDoorJ1
import Derived.Test.YtjgloipgnnigmaaGreatDoorRows
import Derived.Deep.Slices
import Derived.Lib.LaidU8T
import Derived.PinnedBridge
import Derived.MakeChecks
set_option linter.unusedVariables false
set_option linter.unusedSimpArgs false
namespace Go.Proofs.YtjgloipgnnigmaaGreatDoor
open Go.RowKit Go.Shelf

theorem askRCells_opn : ∀ (l : List AskR) (k : Nat), k < l.length → (askRCells l).set (k * 5 + 4) (.bool false) = askRCells (l.set k { l.getD k noAskR with op := false })
  | [], k, h => by simp at h
  | x :: l, 0, _ => by simp [askRCells, AskR.vs]
  | x :: l, k + 1, h => by
    have := askRCells_opn l k (by simpa using h)
    rw [show (k + 1) * 5 + 4 = (k * 5 + 4) + 5 by omega]
    simpa [askRCells, AskR.vs] using this
def opnR (x : RcD) (k : Nat) : RcD := { x with asks := x.asks.set k { x.asks.getD k noAskR with op := false } }
theorem RcOK.opn {c : Cfg} {n : Nat} {x : RcD} (h : RcOK c n x) {k : Nat} (hk : k < x.asks.length) : RcOK c n (opnR x k) := by
  refine ⟨by show (x.asks.set _ _).length ≤ _; rw [List.length_set]; exact h.an, h.rn, h.wn, fun a ha => ?_, fun a ha => ?_, h.rk, h.wk, h.kn, h.kk⟩
  · rcases List.mem_or_eq_of_mem_set ha with q | q
    · exact h.ag a q
    · rw [q]; exact h.ag (x.asks.getD k noAskR) (getD_mem hk)
  · rcases List.mem_or_eq_of_mem_set ha with q | q
    · exact h.ak a q
    · rw [q]; exact h.ak (x.asks.getD k noAskR) (getD_mem hk)
theorem own_off0 {w : World} {base n n' size b off c : Nat} {e : TypeId} {xs : List Value} (h : w.ownsRow base e size (.slice (some ⟨b, off, none⟩) n c) n' xs) : off = 0 := by
  rcases h.2 with ⟨e0, _⟩ | ⟨g', cap, cur, e1, _⟩
  · cases e0
  · cases e1; rfl
section
variable {w w' : World} {B p n : Nat} {K : CliK} {x : RcD} {vr vw va : Value} {O : Nat → Prop}
/-- Behind a store into the row of asks. -/
theorem RcIn.ina (h : RcIn w B p K x vr vw va O) {l : List AskR} (hr : w'.ownsRow B 164 5 va l.length (askRCells l)) (ho : Out (fun k => va.ownBlock = some k) w w') : RcIn w' B p K { x with asks := l } vr vw va O :=
  { h with blk := ho.obj h.blk (fun e => (h.mia p e).2 rfl), rowr := ho.row h.rowr (fun g hg e => h.pra g hg e), roww := ho.row h.roww (fun g hg e => h.pwa g hg e), rowa := hr, ks := fun w2 hb => h.ks w2 ((ho.below h.hB (fun k e => (h.lt k (h.mia k e).1).1)).trans hb), lt := fun k hk => ⟨(h.lt k hk).1, Nat.lt_of_lt_of_le (h.lt k hk).2 ho.size⟩ }
theorem RcIn.opn {b off c : Nat} (h : RcIn w B p K x vr vw (.slice (some ⟨b, off, none⟩) x.asks.length c) O) {k : Nat} (hk : k < x.asks.length) :
    RcIn (w.setCell ⟨b, off + k * 5 + 4, none⟩ (.bool false)) B p K (opnR x k) vr vw (.slice (some ⟨b, off, none⟩) x.asks.length c) O ∧ O b := by
  have h0 := own_off0 h.rowa
  subst h0
  rw [Nat.zero_add]
  refine ⟨h.ina ?_ ?_, (h.mia b rfl).1⟩
  · have := own_set (j := k * 5 + 4) (.bool false) h.rowa
    rw [askRCells_opn _ _ hk] at this
    rw [List.length_set]
    exact this
  · exact (out_set21 w b _ _).mono fun k' e => by rw [e]; rfl
theorem rc_thru {w5 w6 : World} {m : Nat} (h1 : Out O w w5) (hE : RcEnd w5 B p K m O w6) (hlt : ∀ k, O k → B ≤ k ∧ k < w.heap.size) (hB : B ≤ w.heap.size) : RcEnd w B p K m O w6 := by
  obtain ⟨⟨y, hy, hA⟩, ho⟩ := hE
  refine rc_close hlt hB hy hA (fun k hk => hk.elim .inl fun q => .inr ⟨?_, q.2⟩) (h1.trans' ho)
  have := h1.size
  have := q.1
  omega
end
end Go.Proofs.YtjgloipgnnigmaaGreatDoor
/- Layer 4's Put and the reference's; layer 8's PutId and the reference's. -/
namespace Go.Proofs.YtjgloipgnnigmaaGreatDoor
open Go.RowKit Go.Shelf

theorem BysAt.later {w w' : World} {A : Option Addr} {l : List UInt8} (h : BysAt w A l) (hb : Below w.heap.size w w') : BysAt w' A l := CellsAt.later h hb
/-- Bytes handed back in a later world are bytes handed back. -/
theorem OwnBys.low {w W : World} {l m : List UInt8} {e : Ending} {w' : World} (h : OwnBys W l e w') (HB : Below w.heap.size w W) (em : l = m) : OwnBys w m e w' := by
  subst em
  obtain ⟨v, rfl, ho, hb⟩ := h
  refine ⟨v, rfl, ⟨ho.1, ?_⟩, keepB HB hb⟩
  rcases ho.2 with q2 | ⟨g, cap, cur, e, hg, r⟩
  · exact .inl q2
  · exact .inr ⟨g, cap, cur, e, Nat.le_trans HB.size hg, r⟩
end Go.Proofs.YtjgloipgnnigmaaGreatDoor
/- The reference's Same of bytes. -/
namespace Go.Proofs.YtjgloipgnnigmaaGreatDoor
open Go.RowKit Go.Shelf

theorem take_getD {l m : List UInt8} {k : Nat} (hk : k < l.length) (hm : k < m.length) (h : l.take k = m.take k) (hx : (l.getD k 0).toNat = (m.getD k 0).toNat) : l.take (k + 1) = m.take (k + 1) := by
  have e1 : l.getD k 0 = l[k] := by rw [List.getD_eq_getElem?_getD, List.getElem?_eq_getElem hk]; rfl
  have e2 : m.getD k 0 = m[k] := by rw [List.getD_eq_getElem?_getD, List.getElem?_eq_getElem hm]; rfl
  have e3 : l[k] = m[k] := by rw [← e1, ← e2]; exact UInt8.toNat_inj.1 hx
  rw [List.take_succ_eq_append_getElem hk, List.take_succ_eq_append_getElem hm, h, e3]
theorem BysAt.at8 {w : World} {A : Option Addr} {l : List UInt8} (h : BysAt w A l) {k : Nat} (hk : k < l.length) :
    ∃ b off y, A = some ⟨b, off, none⟩ ∧ w.cell? ⟨b, off + k, none⟩ = some (.int .u8 ((y : Nat) : Int)) ∧ Hid ((l.getD k 0).toNat = y) := by
  obtain ⟨b, off, e, hc⟩ := h k hk
  exact ⟨b, off, _, e, hc, rfl⟩
set_option maxRecDepth 100000 in
set_option maxHeartbeats 1000000 in
theorem refSame02_any (l m : List UInt8) (A B : Option Addr) (ca cb : Nat) (w : World) (hA : BysAt w A l) (hB : BysAt w B m) (hl : l.length ≤ 900000) :
    Calls Tryz.prog 163 #[.slice A l.length ca, .slice B m.length cb] w fun e w' => e = .returned (.bool (decide (l = m))) ∧ Below w.heap.size w w' := by
  by_cases hlen : l.length = m.length
  · have HL := Lib.hid hlen
    have t0 : ((l.length : Int) != (m.length : Int)) = false := by rw [hlen]; simp
    have t0n : (l.length != m.length) = false := by rw [hlen]; simp
    clear hlen
    go_enter Tryz.func163, Tryz.ntmps163
    go_wp2
    go_loopw [5] (fun i wr => ∃ k : Nat, k ≤ l.length ∧ i = .int .i64 k ∧ Hid (l.take k = m.take k) ∧ Below w.heap.size w wr) (fun i _ => l.length - (intOf i).toNat)
    case atStart => exact ⟨0, Nat.zero_le _, rfl, rfl, Below.refl _ _⟩
    case round =>
      obtain ⟨k, hk, rfl, HT, hw⟩ := hrel
      by_cases hlt : k < l.length
      · have hkm : k < m.length := by have := HL.out; omega
        obtain ⟨b, off, y, rfl, d1, HY⟩ := (BysAt.later hA hw).at8 hlt
        obtain ⟨b2, off2, y2, rfl, d2, HY2⟩ := (BysAt.later hB hw).at8 hkm
        have hki : (k : Int) < (l.length : Int) := by omega
        have hkj : (k : Int) < (m.length : Int) := by omega
        have hk0 : (0 : Int) ≤ (k : Int) := by omega
        by_cases hy : y = y2
        · subst hy
          have HN : Hid (l.take (k + 1) = m.take (k + 1)) := take_getD hlt hkm HT.out (by rw [HY.out, HY2.out])
          go_wp2
          go_quiet (fail)
          go_wp2
          go_roundw
          case rel => exact ⟨k + 1, by omega, by go_num, HN, below_drewN hw _⟩
          case measure => simp [intOf]; omega
        · have t1 : ((y : Int) != (y2 : Int)) = true := by rw [bne_iff_ne]; omega
          have t1n : (y != y2) = true := by rw [bne_iff_ne]; exact hy
          have HN : Hid (decide (l = m) = false) := by
            refine decide_eq_false fun e => hy ?_
            rw [← HY.out, ← HY2.out, e]
          clear hy
          go_wp2
          go_quiet (fail)
          go_wp2
          go_ret
          exact ⟨by rw [HN.out]; rfl, below_drewN hw _⟩
      · obtain rfl : k = l.length := by omega
        have HN : Hid (decide (l = m) = true) := by
          refine decide_eq_true ?_
          have h1 := HT.out
          have h2 := HL.out
          rw [List.take_length] at h1
          rw [h1, h2, List.take_length]
        clear hlt
        go_wp2
        go_ret
        exact ⟨by rw [HN.out]; rfl, hw⟩
  · have HN : Hid (decide (l = m) = false) := decide_eq_false fun e => hlen (by rw [e])
    have t0 : ((l.length : Int) != (m.length : Int)) = true := by rw [bne_iff_ne]; omega
    have t0n : (l.length != m.length) = true := by rw [bne_iff_ne]; exact hlen
    clear hlen
    go_enter Tryz.func163, Tryz.ntmps163
    go_wp2
    go_ret
    exact ⟨by rw [HN.out]; rfl, Below.refl _ _⟩
end Go.Proofs.YtjgloipgnnigmaaGreatDoor
/- Transactions that came in, opened: how they lie in memory; the tables of unicode/utf8, off the row's list. -/
namespace Go.Proofs.YtjgloipgnnigmaaGreatDoor
open Go.ChangeShapes Go.WideShapes Go.ChangeAt Go.RowKit Go.Joins Go.Deep

theorem cells_id : Tryz.prog.cellsOf 33 = 2 := by kernel_rfl
theorem cells_val : Tryz.prog.cellsOf 28 = 3 := by kernel_rfl
theorem cells_rd : Tryz.prog.cellsOf 75 = 2 := by kernel_rfl
theorem cells_wr : Tryz.prog.cellsOf 112 = 4 := by kernel_rfl
theorem cells_txn : Tryz.prog.cellsOf 37 = 4 := by kernel_rfl
theorem cells_rds : Tryz.prog.cellsOf 34 = 1 := by kernel_rfl
theorem cells_wrs : Tryz.prog.cellsOf 35 = 1 := by kernel_rfl
theorem cells_u64 : Tryz.prog.cellsOf 26 = 1 := by kernel_rfl

theorem len_2 {α : Type} {l : List α} (h : l.length = 2) : ∃ a b, l = [a, b] := by
  match l, h with
  | [a, b], _ => exact ⟨a, b, rfl⟩
theorem len_3 {α : Type} {l : List α} (h : l.length = 3) : ∃ a b c, l = [a, b, c] := by
  match l, h with
  | [a, b, c], _ => exact ⟨a, b, c, rfl⟩
theorem len_4 {α : Type} {l : List α} (h : l.length = 4) : ∃ a b c d, l = [a, b, c, d] := by
  match l, h with
  | [a, b, c, d], _ => exact ⟨a, b, c, d, rfl⟩
section
variable {H : Type} {enc : TypeId × Value → H} {w : World} {base fuel : Nat} {sp : Nat → Bool} {held : Bool} {cs : List Value} {x : DataW H × List MemPlace}

theorem cells_int1 (h : DataW.trod enc Tryz.prog w base sp held fuel 3 cs = some x) : ∃ z : Int, cs = [.int .i64 z] ∧ -9223372036854775808 ≤ z ∧ z ≤ 9223372036854775807 := by
  obtain ⟨z, rfl, _, wz⟩ := DataW.trod_int Tryz.underlying3 h
  obtain ⟨h0, h1⟩ := bounds_i64 wz
  exact ⟨z, rfl, h0, h1⟩
theorem cells_u641 (h : DataW.trod enc Tryz.prog w base sp held fuel 26 cs = some x) : ∃ n : Nat, cs = [.int .u64 n] ∧ n < 18446744073709551616 := by
  obtain ⟨z, rfl, _, wz⟩ := DataW.trod_int Tryz.underlying26 h
  obtain ⟨h0, h1⟩ := bounds_u64 wz
  obtain ⟨n, rfl⟩ := Int.eq_ofNat_of_zero_le h0
  exact ⟨n, rfl, by omega⟩
theorem cells_str1 (h : DataW.trod enc Tryz.prog w base sp held fuel 9 cs = some x) : ∃ s : ByteArray, cs = [.string s] ∧ s.size ≤ 9223372036854775807 := by
  obtain ⟨s, rfl, _, hs⟩ := DataW.trod_string Tryz.underlying9 h
  exact ⟨s, rfl, le_max hs⟩
theorem id_cells (h : DataW.trod enc Tryz.prog w base sp held fuel 33 cs = some x) : ∃ s q : Int, cs = [.int .i64 s, .int .i64 q] ∧ -9223372036854775808 ≤ s ∧ s ≤ 9223372036854775807 ∧ -9223372036854775808 ≤ q ∧ q ≤ 9223372036854775807 := by
  obtain ⟨xs, n, _, _, hc, hl, hf⟩ := DataW.trod_struct Tryz.underlying33 h
  rw [cells_id] at hc
  obtain ⟨a, b, rfl⟩ := len_2 hc
  obtain ⟨u, v, rfl⟩ := len_2 (l := xs) hl
  have g0 := hf 0 _ rfl
  have g1 := hf 1 _ rfl
  simp [cells_int] at g0 g1
  obtain ⟨s, e0, h0, h1⟩ := cells_int1 g0
  obtain ⟨q, e1, h2, h3⟩ := cells_int1 g1
  simp at e0 e1
  subst e0 e1
  exact ⟨s, q, rfl, h0, h1, h2, h3⟩
theorem val_cells (h : DataW.trod enc Tryz.prog w base sp held fuel 28 cs = some x) : ∃ v : Val, cs = [.int .i64 v.kind, .int .u64 v.bits, .string v.text] ∧ v.Good := by
  obtain ⟨xs, n, _, _, hc, hl, hf⟩ := DataW.trod_struct Tryz.underlying28 h
  rw [cells_val] at hc
  obtain ⟨a, b, c, rfl⟩ := len_3 hc
  obtain ⟨u, v, y, rfl⟩ := len_3 (l := xs) hl
  have g0 := hf 0 _ rfl
  have g1 := hf 1 _ rfl
  have g2 := hf 2 _ rfl
  simp [cells_int, cells_u64, cells_str] at g0 g1 g2
  obtain ⟨k, e0, h0, h1⟩ := cells_int1 g0
  obtain ⟨m, e1, h2⟩ := cells_u641 g1
  obtain ⟨s, e2, h3⟩ := cells_str1 g2
  simp at e0 e1 e2
  subst e0 e1 e2
  exact ⟨⟨k, m, s⟩, rfl, h2, h3, h0, h1⟩
theorem rd_cells (h : DataW.trod enc Tryz.prog w base sp held fuel 75 cs = some x) : ∃ r : Rd, cs = [.string r.key, .int .u64 r.ver] ∧ r.key.size ≤ 9223372036854775807 ∧ r.ver < 18446744073709551616 := by
  obtain ⟨xs, n, _, _, hc, hl, hf⟩ := DataW.trod_struct Tryz.underlying75 h
  rw [cells_rd] at hc
  obtain ⟨a, b, rfl⟩ := len_2 hc
  obtain ⟨u, v, rfl⟩ := len_2 (l := xs) hl
  have g0 := hf 0 _ rfl
  have g1 := hf 1 _ rfl
  simp [cells_u64, cells_str] at g0 g1
  obtain ⟨s, e0, h0⟩ := cells_str1 g0
  obtain ⟨m, e1, h1⟩ := cells_u641 g1
  simp at e0 e1
  subst e0 e1
  exact ⟨⟨s, m⟩, rfl, h0, h1⟩
theorem wr_cells (h : DataW.trod enc Tryz.prog w base sp held fuel 112 cs = some x) : ∃ r : Wr, cs = [.string r.key, .int .i64 r.val.kind, .int .u64 r.val.bits, .string r.val.text] ∧ r.key.size ≤ 9223372036854775807 ∧ r.val.Good := by
  obtain ⟨xs, n, _, _, hc, hl, hf⟩ := DataW.trod_struct Tryz.underlying112 h
  rw [cells_wr] at hc
  obtain ⟨a, b, c, d, rfl⟩ := len_4 hc
  obtain ⟨u, v, rfl⟩ := len_2 (l := xs) hl
  have g0 := hf 0 _ rfl
  have g1 := hf 1 _ rfl
  simp [cells_val, cells_str] at g0 g1
  obtain ⟨s, e0, h0⟩ := cells_str1 g0
  obtain ⟨m, e1, h1⟩ := val_cells g1
  simp at e0 e1
  obtain ⟨e1, e2, e3⟩ := e1
  subst e0 e1 e2 e3
  exact ⟨⟨s, m⟩, rfl, h0, h1⟩

/-- A slice of elements of k cells, each of which reads as one of α. -/
theorem slice_cells {α : Type} [Inhabited α] {t e : TypeId} {k : Nat} {f : α → List Value} {q : α → Prop} (d : α) (hkp : 0 < k) (hd : ∀ a, (f a).length = k) (ht : Tryz.prog.underlying t = some (.slice e)) (hk : Tryz.prog.cellsOf e = k)
    (he : ∀ {fuel : Nat} {cs : List Value} {x : DataW H × List MemPlace}, DataW.trod enc Tryz.prog w base sp held fuel e cs = some x → ∃ a, cs = f a ∧ q a)
    (h : DataW.trod enc Tryz.prog w base sp held fuel t cs = some x) :
    ∃ (A : Option Addr) (l : List α) (cap : Nat), cs = [.slice A l.length cap] ∧ l.length ≤ cap ∧ cap ≤ maxLen ∧
      (∀ i, i < l.length → ∃ b off, A = some ⟨b, off, none⟩ ∧ ∀ j v, (f (l.getD i d))[j]? = some v → w.cell? ⟨b, off + i * k + j, none⟩ = some v) ∧ ∀ i, i < l.length → q (l.getD i d) := by
  rcases open_slice ht h with ⟨rfl, _⟩ | ⟨a, len, cap, m, n, D, Pl, rfl, hb, hl, hm, hmm, rfl, hx⟩
  · exact ⟨none, [], 0, rfl, Nat.le_refl _, Nat.zero_le _, fun i hi => absurd hi (Nat.not_lt_zero _), fun i hi => absurd hi (Nat.not_lt_zero _)⟩
  · have hlm : len ≤ m := by rw [hmm]; split <;> omega
    have each : ∀ i, i < len → ∃ y : α, w.cells? base (a.add (i * k)) k = some (f y) ∧ q y := by
      intro i hi
      obtain ⟨cs', h1, h2⟩ := hx i (by omega)
      rw [hk] at h1
      obtain ⟨y, rfl, hy⟩ := he h2
      exact ⟨y, h1, hy⟩
    obtain ⟨g, hg⟩ := choose_lt each
    have hlen : ((List.range len).map g).length = len := by simp
    have hget : ∀ i, i < len → ((List.range len).map g).getD i d = g i := fun i hi => by simp [List.getD_eq_getElem?_getD, hi]
    refine ⟨some a, (List.range len).map g, cap, by rw [hlen], by rw [hlen]; exact hl, hm, fun i hi => ?_, fun i hi => ?_⟩
    · rw [hlen] at hi
      obtain ⟨_, _, hc⟩ := World.cells?_some (hg i hi).1
      rw [hget i hi]
      obtain ⟨_, _, hcz⟩ := World.cells?_some (hg 0 (by omega)).1
      have hc0 := hcz 0 hkp
      obtain ⟨b, off, spot⟩ := a
      have hl0 : 0 < (f (g 0)).length := by rw [hd]; exact hkp
      rw [List.getElem?_eq_getElem hl0] at hc0
      have hspot : spot = none := by simpa [Addr.add] using World.cell?_spot hc0
      subst hspot
      refine ⟨b, off, rfl, fun j v hj => ?_⟩
      have hjk : j < k := by
        have := (List.getElem?_eq_some_iff.1 hj).1
        rw [hd] at this
        exact this
      have := hc j hjk
      rw [hj, Go.WideShapes.add_plain, Go.WideShapes.add_plain] at this
      exact this
    · rw [hlen] at hi
      rw [hget i hi]
      exact (hg i hi).2
theorem rds_cells (h : DataW.trod enc Tryz.prog w base sp held fuel 34 cs = some x) :
    ∃ (A : Option Addr) (l : List Rd) (cap : Nat), cs = [.slice A l.length cap] ∧ l.length ≤ cap ∧ cap ≤ maxLen ∧ RdsAt w A l ∧ ∀ i, i < l.length → (l.getD i noRd).key.size ≤ 9223372036854775807 ∧ (l.getD i noRd).ver < 18446744073709551616 := by
  obtain ⟨A, l, cap, rfl, h1, h2, h3, h4⟩ := slice_cells (k := 2) (f := fun r : Rd => [.string r.key, .int .u64 r.ver]) noRd (by omega) (fun _ => rfl) Tryz.underlying34 cells_rd rd_cells h
  refine ⟨A, l, cap, rfl, h1, h2, fun i hi => ?_, h4⟩
  obtain ⟨b, off, e, hc⟩ := h3 i hi
  exact ⟨b, off, e, hc 0 _ rfl, hc 1 _ rfl⟩
theorem wrs_cells (h : DataW.trod enc Tryz.prog w base sp held fuel 35 cs = some x) :
    ∃ (A : Option Addr) (l : List Wr) (cap : Nat), cs = [.slice A l.length cap] ∧ l.length ≤ cap ∧ cap ≤ maxLen ∧ WrsAt w A l ∧ ∀ i, i < l.length → (l.getD i noWr).key.size ≤ 9223372036854775807 ∧ (l.getD i noWr).val.Good := by
  obtain ⟨A, l, cap, rfl, h1, h2, h3, h4⟩ := slice_cells (k := 4) (f := fun r : Wr => [.string r.key, .int .i64 r.val.kind, .int .u64 r.val.bits, .string r.val.text]) noWr (by omega) (fun _ => rfl) Tryz.underlying35 cells_wr wr_cells h
  refine ⟨A, l, cap, rfl, h1, h2, fun i hi => ?_, h4⟩
  obtain ⟨b, off, e, hc⟩ := h3 i hi
  exact ⟨b, off, e, hc 0 _ rfl, hc 1 _ rfl, hc 2 _ rfl, hc 3 _ rfl⟩
theorem txn_cells (h : DataW.trod enc Tryz.prog w base sp held fuel 37 cs = some x) :
    ∃ (t : Tx) (A B : Option Addr) (ca cb : Nat), cs = [.int .i64 t.ses, .int .i64 t.seq, .slice A t.rds.length ca, .slice B t.wrs.length cb] ∧ TxAt w t A B ∧ t.rds.length ≤ ca ∧ t.wrs.length ≤ cb ∧ ∀ i, i < t.rds.length → (t.rds.getD i noRd).ver < 18446744073709551616 := by
  obtain ⟨xs, n, _, _, hc, hl, hf⟩ := DataW.trod_struct Tryz.underlying37 h
  rw [cells_txn] at hc
  obtain ⟨a, b, c, d, rfl⟩ := len_4 hc
  obtain ⟨u, v, y, rfl⟩ := len_3 (l := xs) hl
  have g0 := hf 0 _ rfl
  have g1 := hf 1 _ rfl
  have g2 := hf 2 _ rfl
  simp [cells_id, cells_rds, cells_wrs] at g0 g1 g2
  obtain ⟨s, q, e0, _⟩ := id_cells g0
  obtain ⟨A, l, ca, e1, h0, h1, hA, h2⟩ := rds_cells g1
  obtain ⟨B, m, cb, e2, h3, h4, hB, h5⟩ := wrs_cells g2
  simp at e0 e1 e2
  obtain ⟨e0, e3⟩ := e0
  subst e0 e1 e2 e3
  have q1 : l.length ≤ 9223372036854775807 := le_max (by omega)
  have q2 : m.length ≤ 9223372036854775807 := le_max (by omega)
  exact ⟨⟨s, q, l, m⟩, A, B, ca, cb, rfl, ⟨hA, hB, fun k hk => (h2 k hk).1, fun k hk => (h5 k hk).1, fun k hk => (h5 k hk).2, q1, q2⟩, h0, h3, fun k hk => (h2 k hk).2⟩
end
theorem tabs_of {laid : List (String × DataW Unit)} {w : World} (hp : (laid.all fun x => x.2.handleName?.isNone) = true) (h : laidMetH Tryz.prog laid w)
    (h1 : ("unicode/utf8.first", Rows.laid_unicode_utf8_first) ∈ laid) (h2 : ("unicode/utf8.acceptRanges", Rows.laid_unicode_utf8_acceptRanges) ∈ laid) : Tabs w := by
  rw [MakeChecks.laidMetH_plain _ _ _ hp] at h
  have r1 := Lib.laidMet.reads h h1
  have r2 := Lib.laidMet.reads h h2
  rw [show Rows.laid_unicode_utf8_first = Lib.firstData from Pinned.utf8First_eq] at r1
  exact utf8Tabs_of_readsT (U8Types.of196 Tryz.lays196) ⟨by kernel_rfl, by kernel_rfl, by kernel_rfl, by kernel_rfl, by kernel_rfl, by kernel_rfl, by kernel_rfl⟩ r1 r2
end Go.Proofs.YtjgloipgnnigmaaGreatDoor
/- A message, an Op of layer 21's statements and a script of them that came in, opened. -/
namespace Go.Proofs.YtjgloipgnnigmaaGreatDoor
open Go.ChangeShapes Go.WideShapes Go.ChangeAt Go.RowKit Go.Joins Go.Deep

theorem cells_bool : Tryz.prog.cellsOf 4 = 1 := by kernel_rfl
theorem cells_u32 : Tryz.prog.cellsOf 29 = 1 := by kernel_rfl
theorem cells_u8 : Tryz.prog.cellsOf 5 = 1 := by kernel_rfl
theorem cells_bys : Tryz.prog.cellsOf 41 = 1 := by kernel_rfl
theorem cells_strs : Tryz.prog.cellsOf 23 = 1 := by kernel_rfl
theorem cells_blt : Tryz.prog.cellsOf 31 = 2 := by kernel_rfl
theorem cells_cmd : Tryz.prog.cellsOf 39 = 10 := by kernel_rfl
theorem cells_errno : Tryz.prog.cellsOf 40 = 1 := by kernel_rfl
theorem cells_msg : Tryz.prog.cellsOf 43 = 34 := by kernel_rfl
theorem cells_op21 : Tryz.prog.cellsOf 45 = 41 := by kernel_rfl
theorem len_6 {α : Type} {l : List α} (h : l.length = 6) : ∃ a0 a1 a2 a3 a4 a5, l = [a0, a1, a2, a3, a4, a5] := by
  match l, h with
  | [a0, a1, a2, a3, a4, a5], _ => exact ⟨a0, a1, a2, a3, a4, a5, rfl⟩
theorem len_7 {α : Type} {l : List α} (h : l.length = 7) : ∃ a0 a1 a2 a3 a4 a5 a6, l = [a0, a1, a2, a3, a4, a5, a6] := by
  match l, h with
  | [a0, a1, a2, a3, a4, a5, a6], _ => exact ⟨a0, a1, a2, a3, a4, a5, a6, rfl⟩
theorem len_10 {α : Type} {l : List α} (h : l.length = 10) : ∃ a0 a1 a2 a3 a4 a5 a6 a7 a8 a9, l = [a0, a1, a2, a3, a4, a5, a6, a7, a8, a9] := by
  match l, h with
  | [a0, a1, a2, a3, a4, a5, a6, a7, a8, a9], _ => exact ⟨a0, a1, a2, a3, a4, a5, a6, a7, a8, a9, rfl⟩
theorem len_17 {α : Type} {l : List α} (h : l.length = 17) : ∃ a0 a1 a2 a3 a4 a5 a6 a7 a8 a9 a10 a11 a12 a13 a14 a15 a16, l = [a0, a1, a2, a3, a4, a5, a6, a7, a8, a9, a10, a11, a12, a13, a14, a15, a16] := by
  match l, h with
  | [a0, a1, a2, a3, a4, a5, a6, a7, a8, a9, a10, a11, a12, a13, a14, a15, a16], _ => exact ⟨a0, a1, a2, a3, a4, a5, a6, a7, a8, a9, a10, a11, a12, a13, a14, a15, a16, rfl⟩
theorem len_34 {α : Type} {l : List α} (h : l.length = 34) : ∃ c0 c1 c2 c3 c4 c5 c6 c7 c8 c9 c10 c11 c12 c13 c14 c15 c16 c17 c18 c19 c20 c21 c22 c23 c24 c25 c26 c27 c28 c29 c30 c31 c32 c33, l = [c0, c1, c2, c3, c4, c5, c6, c7, c8, c9, c10, c11, c12, c13, c14, c15, c16, c17, c18, c19, c20, c21, c22, c23, c24, c25, c26, c27, c28, c29, c30, c31, c32, c33] := by
  obtain ⟨a0, a1, a2, a3, a4, a5, a6, a7, a8, a9, a10, a11, a12, a13, a14, a15, a16, e1⟩ := len_17 (l := l.take 17) (by rw [List.length_take, h]; rfl)
  obtain ⟨b0, b1, b2, b3, b4, b5, b6, b7, b8, b9, b10, b11, b12, b13, b14, b15, b16, e2⟩ := len_17 (l := l.drop 17) (by rw [List.length_drop, h])
  have e := List.take_append_drop 17 l
  rw [e1, e2] at e
  exact ⟨a0, a1, a2, a3, a4, a5, a6, a7, a8, a9, a10, a11, a12, a13, a14, a15, a16, b0, b1, b2, b3, b4, b5, b6, b7, b8, b9, b10, b11, b12, b13, b14, b15, b16, e.symm⟩
theorem len_41 {α : Type} {l : List α} (h : l.length = 41) : ∃ c0 c1 c2 c3 c4 c5 c6 c7 c8 c9 c10 c11 c12 c13 c14 c15 c16 c17 c18 c19 c20 c21 c22 c23 c24 c25 c26 c27 c28 c29 c30 c31 c32 c33 c34 c35 c36 c37 c38 c39 c40, l = [c0, c1, c2, c3, c4, c5, c6, c7, c8, c9, c10, c11, c12, c13, c14, c15, c16, c17, c18, c19, c20, c21, c22, c23, c24, c25, c26, c27, c28, c29, c30, c31, c32, c33, c34, c35, c36, c37, c38, c39, c40] := by
  obtain ⟨a0, a1, a2, a3, a4, a5, a6, a7, a8, a9, a10, a11, a12, a13, a14, a15, a16, a17, a18, a19, a20, a21, a22, a23, a24, a25, a26, a27, a28, a29, a30, a31, a32, a33, e1⟩ := len_34 (l := l.take 34) (by rw [List.length_take, h]; rfl)
  obtain ⟨b0, b1, b2, b3, b4, b5, b6, e2⟩ := len_7 (l := l.drop 34) (by rw [List.length_drop, h])
  have e := List.take_append_drop 34 l
  rw [e1, e2] at e
  exact ⟨a0, a1, a2, a3, a4, a5, a6, a7, a8, a9, a10, a11, a12, a13, a14, a15, a16, a17, a18, a19, a20, a21, a22, a23, a24, a25, a26, a27, a28, a29, a30, a31, a32, a33, b0, b1, b2, b3, b4, b5, b6, e.symm⟩
section
variable {H : Type} {enc : TypeId × Value → H} {w : World} {base fuel : Nat} {sp : Nat → Bool} {held : Bool} {cs : List Value} {x : DataW H × List MemPlace}
theorem cells_bool1 (h : DataW.trod enc Tryz.prog w base sp held fuel 4 cs = some x) : ∃ b : Bool, cs = [.bool b] := by
  obtain ⟨b, rfl, _⟩ := DataW.trod_bool Tryz.underlying4 h
  exact ⟨b, rfl⟩
theorem cells_errno1 (h : DataW.trod enc Tryz.prog w base sp held fuel 40 cs = some x) : ∃ z : Int, cs = [.int .i64 z] := by
  obtain ⟨z, rfl, _, wz⟩ := DataW.trod_int Tryz.underlying40 h
  exact ⟨z, rfl⟩
theorem cells_u321 (h : DataW.trod enc Tryz.prog w base sp held fuel 29 cs = some x) : ∃ n : Nat, cs = [.int .u32 (n : Int)] := by
  obtain ⟨z, rfl, _, wz⟩ := DataW.trod_int Tryz.underlying29 h
  obtain ⟨h0, h1⟩ := bounds_u32 wz
  obtain ⟨n, rfl⟩ := Int.eq_ofNat_of_zero_le h0
  exact ⟨n, rfl⟩
theorem cells_byte1 {fuel : Nat} {cs : List Value} {x : DataW H × List MemPlace} (h : DataW.trod enc Tryz.prog w base sp held fuel 5 cs = some x) : ∃ b : UInt8, cs = [.int .u8 (b.toNat : Int)] ∧ True := by
  obtain ⟨z, rfl, _, wz⟩ := DataW.trod_int Tryz.underlying5 h
  obtain ⟨h0, h1⟩ := bounds_u8 wz
  obtain ⟨n, rfl⟩ := Int.eq_ofNat_of_zero_le h0
  exact ⟨UInt8.ofNat n, by rw [UInt8.toNat_ofNat', show n % 2 ^ 8 = n by omega], trivial⟩
theorem bys_cells (h : DataW.trod enc Tryz.prog w base sp held fuel 41 cs = some x) :
    ∃ (A : Option Addr) (l : List UInt8) (ca : Nat), cs = [.slice A l.length ca] ∧ CellsAt w A l.length (fun i => .int .u8 ((l.getD i 0).toNat : Int)) ∧ l.length ≤ 9223372036854775807 := by
  obtain ⟨A, l, ca, rfl, h1, h2, h3, _⟩ := slice_cells (k := 1) (f := fun b : UInt8 => [.int .u8 (b.toNat : Int)]) 0 (by omega) (fun _ => rfl) Tryz.underlying41 cells_u8 cells_byte1 h
  have h5 := Nat.le_trans h1 h2
  refine ⟨A, l, ca, rfl, fun i hi => ?_, by unfold maxLen at h5; omega⟩
  obtain ⟨b, off, e, hc⟩ := h3 i hi
  exact ⟨b, off, e, by have := hc 0 _ rfl; simpa using this⟩
theorem strs_cells (h : DataW.trod enc Tryz.prog w base sp held fuel 23 cs = some x) :
    ∃ (A : Option Addr) (l : List ByteArray) (ca : Nat), cs = [.slice A l.length ca] ∧ StrsAt w A l ∧ l.length ≤ ca ∧ l.length ≤ 9223372036854775807 ∧ ∀ k, k < l.length → (l.getD k noStr).size ≤ 9223372036854775807 := by
  obtain ⟨A, l, ca, rfl, h1, h2, h3, h4⟩ := slice_cells (k := 1) (f := fun s : ByteArray => [.string s]) noStr (by omega) (fun _ => rfl) Tryz.underlying23 cells_str cells_str1 h
  have h5 := Nat.le_trans h1 h2
  refine ⟨A, l, ca, rfl, fun i hi => ?_, h1, by unfold maxLen at h5; omega, h4⟩
  obtain ⟨b, off, e, hc⟩ := h3 i hi
  exact ⟨b, off, e, by have := hc 0 _ rfl; simpa using this⟩
theorem blt_cells (h : DataW.trod enc Tryz.prog w base sp held fuel 31 cs = some x) : ∃ (r : Nat) (n : Int), cs = [.int .u32 (r : Int), .int .i64 n] := by
  obtain ⟨xs, n, _, _, hc, hl, hf⟩ := DataW.trod_struct Tryz.underlying31 h
  rw [cells_blt] at hc
  obtain ⟨a, b, rfl⟩ := len_2 hc
  obtain ⟨u, v, rfl⟩ := len_2 (l := xs) hl
  have g0 := hf 0 _ rfl
  have g1 := hf 1 _ rfl
  simp [cells_int, cells_u32] at g0 g1
  obtain ⟨s, e0⟩ := cells_u321 g0
  obtain ⟨q, e1, _⟩ := cells_int1 g1
  simp at e0 e1
  subst e0 e1
  exact ⟨s, q, rfl⟩
theorem cmd_cells (h : DataW.trod enc Tryz.prog w base sp held fuel 39 cs = some x) :
    ∃ (k : Int) (t : Tx) (A B : Option Addr) (ca cb : Nat) (i q g : Int) (st : Nat) (y : Bool), cs = [.int .i64 k, .int .i64 t.ses, .int .i64 t.seq, .slice A t.rds.length ca, .slice B t.wrs.length cb, .int .i64 i, .int .i64 q, .int .i64 g, .int .u64 (st : Int), .bool y] ∧ TxAt w t A B := by
  obtain ⟨xs, n, _, _, hc, hl, hf⟩ := DataW.trod_struct Tryz.underlying39 h
  rw [cells_cmd] at hc
  obtain ⟨a0, a1, a2, a3, a4, a5, a6, a7, a8, a9, rfl⟩ := len_10 hc
  obtain ⟨b0, b1, b2, b3, b4, b5, rfl⟩ := len_6 (l := xs) hl
  have g0 := hf 0 _ rfl
  have g1 := hf 1 _ rfl
  have g2 := hf 2 _ rfl
  have g3 := hf 3 _ rfl
  have g4 := hf 4 _ rfl
  have g5 := hf 5 _ rfl
  simp [cells_int, cells_txn, cells_id, cells_u64, cells_bool] at g0 g1 g2 g3 g4 g5
  obtain ⟨k, e0, _⟩ := cells_int1 g0
  obtain ⟨t, A, B, ca, cb, e1, hT, _⟩ := txn_cells g1
  obtain ⟨i, q, e2, _⟩ := id_cells g2
  obtain ⟨g, e3, _⟩ := cells_int1 g3
  obtain ⟨st, e4, _⟩ := cells_u641 g4
  obtain ⟨y, e5⟩ := cells_bool1 g5
  simp at e0 e1 e2 e3 e4 e5
  obtain ⟨e6, e7, e8, e9⟩ := e1
  obtain ⟨e10, e11⟩ := e2
  subst e0 e3 e4 e5 e6 e7 e8 e9 e10 e11
  exact ⟨k, t, A, B, ca, cb, i, q, g, st, y, rfl, hT⟩
set_option maxHeartbeats 1000000 in
theorem msg_cells (h : DataW.trod enc Tryz.prog w base sp held fuel 43 cs = some x) : ∃ m : MsgV, cs = m.vs.toList ∧ MsgAt w m := by
  obtain ⟨xs, n, _, _, hc, hl, hf⟩ := DataW.trod_struct Tryz.underlying43 h
  rw [cells_msg] at hc
  obtain ⟨a0, a1, a2, a3, a4, a5, a6, a7, a8, a9, a10, a11, a12, a13, a14, a15, a16, a17, a18, a19, a20, a21, a22, a23, a24, a25, a26, a27, a28, a29, a30, a31, a32, a33, rfl⟩ := len_34 hc
  obtain ⟨b0, b1, b2, b3, b4, b5, b6, b7, b8, b9, b10, b11, b12, b13, b14, b15, b16, rfl⟩ := len_17 (l := xs) hl
  have g0 := hf 0 _ rfl
  have g1 := hf 1 _ rfl
  have g2 := hf 2 _ rfl
  have g3 := hf 3 _ rfl
  have g4 := hf 4 _ rfl
  have g5 := hf 5 _ rfl
  have g6 := hf 6 _ rfl
  have g7 := hf 7 _ rfl
  have g8 := hf 8 _ rfl
  have g9 := hf 9 _ rfl
  have g10 := hf 10 _ rfl
  have g11 := hf 11 _ rfl
  have g12 := hf 12 _ rfl
  have g13 := hf 13 _ rfl
  have g14 := hf 14 _ rfl
  have g15 := hf 15 _ rfl
  have g16 := hf 16 _ rfl
  simp [cells_int, cells_blt, cells_bool, cells_cmd, cells_txn, cells_id, cells_u64, cells_str, cells_val, cells_errno, cells_bys] at g0 g1 g2 g3 g4 g5 g6 g7 g8 g9 g10 g11 g12 g13 g14 g15 g16
  obtain ⟨kind, e0, _⟩ := cells_int1 g0
  obtain ⟨br, bn, e1⟩ := blt_cells g1
  obtain ⟨slot, e2, _⟩ := cells_int1 g2
  obtain ⟨has, e3⟩ := cells_bool1 g3
  obtain ⟨vr, vn, e4⟩ := blt_cells g4
  obtain ⟨ck, ct, cA, cB, cca, ccb, cis, ciq, cg, cst, cy, e5, hC⟩ := cmd_cells g5
  obtain ⟨t, A, B, ca, cb, e6, hT, _⟩ := txn_cells g6
  obtain ⟨ids, idq, e7, _⟩ := id_cells g7
  obtain ⟨gg, e8, _⟩ := cells_int1 g8
  obtain ⟨st, e9, _⟩ := cells_u641 g9
  obtain ⟨y, e10⟩ := cells_bool1 g10
  obtain ⟨num, e11, _⟩ := cells_int1 g11
  obtain ⟨key, e12, hk⟩ := cells_str1 g12
  obtain ⟨ver, e13, _⟩ := cells_u641 g13
  obtain ⟨vl, e14, hv⟩ := val_cells g14
  obtain ⟨err, e15⟩ := cells_errno1 g15
  obtain ⟨D, data, cd, e16, hd, hn⟩ := bys_cells g16
  simp only [List.cons.injEq, and_true] at e0 e1 e2 e3 e4 e5 e6 e7 e8 e9 e10 e11 e12 e13 e14 e15 e16
  obtain ⟨e1a, e1b⟩ := e1
  obtain ⟨e4a, e4b⟩ := e4
  obtain ⟨e5a, e5b, e5c, e5d, e5e, e5f, e5g, e5h, e5i, e5j⟩ := e5
  obtain ⟨e6a, e6b, e6c, e6d⟩ := e6
  obtain ⟨e7a, e7b⟩ := e7
  obtain ⟨e14a, e14b, e14c⟩ := e14
  subst e0 e1a e1b e2 e3 e4a e4b e5a e5b e5c e5d e5e e5f e5g e5h e5i e5j e6a e6b e6c e6d e7a e7b e8 e9 e10 e11 e12 e13 e14a e14b e14c e15 e16
  exact ⟨⟨kind, br, bn, slot, has, vr, vn, ck, ct, cA, cB, cca, ccb, cis, ciq, cg, cst, cy, t, A, B, ca, cb, ids, idq, gg, st, y, num, key, ver, vl, err, D, data, cd⟩, rfl, hC, hT, hd, hk, hv, hn⟩
set_option maxHeartbeats 1000000 in
theorem op21_cells (h : DataW.trod enc Tryz.prog w base sp held fuel 45 cs = some x) : ∃ o : OpX, cs = o.vs.toList ∧ OpAt w o := by
  obtain ⟨xs, n, _, _, hc, hl, hf⟩ := DataW.trod_struct Tryz.underlying45 h
  rw [cells_op21] at hc
  obtain ⟨a0, a1, a2, a3, a4, a5, a6, a7, a8, a9, a10, a11, a12, a13, a14, a15, a16, a17, a18, a19, a20, a21, a22, a23, a24, a25, a26, a27, a28, a29, a30, a31, a32, a33, a34, a35, a36, a37, a38, a39, a40, rfl⟩ := len_41 hc
  obtain ⟨b0, b1, b2, b3, b4, b5, rfl⟩ := len_6 (l := xs) hl
  have g0 := hf 0 _ rfl
  have g1 := hf 1 _ rfl
  have g2 := hf 2 _ rfl
  have g3 := hf 3 _ rfl
  have g4 := hf 4 _ rfl
  have g5 := hf 5 _ rfl
  simp [cells_int, cells_str, cells_val, cells_strs, cells_msg] at g0 g1 g2 g3 g4 g5
  obtain ⟨kind, e0, _⟩ := cells_int1 g0
  obtain ⟨key, e1, hk⟩ := cells_str1 g1
  obtain ⟨vl, e2, hv⟩ := val_cells g2
  obtain ⟨K, keys, ck, e3, hK, hkc, hkn, hkz⟩ := strs_cells g3
  obtain ⟨m, e4, hm⟩ := msg_cells g4
  obtain ⟨num, e5, _⟩ := cells_int1 g5
  simp only [MsgV.vs, List.cons.injEq, and_true] at e0 e1 e2 e3 e4 e5
  obtain ⟨e2a, e2b, e2c⟩ := e2
  obtain ⟨f0, f1, f2, f3, f4, f5, f6, f7, f8, f9, f10, f11, f12, f13, f14, f15, f16, f17, f18, f19, f20, f21, f22, f23, f24, f25, f26, f27, f28, f29, f30, f31, f32, f33⟩ := e4
  subst e0 e1 e2a e2b e2c e3 e5 f0 f1 f2 f3 f4 f5 f6 f7 f8 f9 f10 f11 f12 f13 f14 f15 f16 f17 f18 f19 f20 f21 f22 f23 f24 f25 f26 f27 f28 f29 f30 f31 f32 f33
  exact ⟨⟨kind, key, vl, K, keys, ck, m, num⟩, rfl, hk, hv, hK, hkz, hkn, hkc, hm⟩
end
theorem vs41 (o : OpX) : o.vs.toList.length = 41 := rfl
set_option maxRecDepth 100000 in
theorem open_ops21 {H : Type} {enc : TypeId × Value → H} {w : World} {b0 base : Nat} {sp : Nat → Bool} {held : Bool} {v : Value} {d : DataW H} {p : List MemPlace}
    (hv : Value.okWide Tryz.prog w .any b0 48 v) (h : DataW.Trod enc Tryz.prog w base sp held 48 v d p) :
    ∃ (S : Option Addr) (l : List OpX) (cs : Nat), v = .slice S l.length cs ∧ OpsAt w S l ∧ l.length ≤ 9223372036854775807 := by
  obtain ⟨a0, len, cap, rfl⟩ := okWide_slice Tryz.underlying48 hv
  obtain ⟨fuel, hf⟩ := h
  obtain ⟨A, l, ca, e, h1, h2, h3, h4⟩ := slice_cells (k := 41) (f := fun o : OpX => o.vs.toList) (q := fun o => OpAt w o) noOpX (by omega) vs41 Tryz.underlying48 cells_op21 (fun h => op21_cells h) hf
  have h5 := le_max (Nat.le_trans h1 h2)
  refine ⟨A, l, ca, by simpa [Value.cells] using e, fun i hi => ?_, h5⟩
  obtain ⟨b, off, e, hc⟩ := h3 i hi
  refine ⟨b, off, e, fun j v hj => ?_, h4 i hi⟩
  rw [Go.WideShapes.add_plain]
  exact hc j v (by rw [Array.getElem?_toList]; exact hj)
end Go.Proofs.YtjgloipgnnigmaaGreatDoor
