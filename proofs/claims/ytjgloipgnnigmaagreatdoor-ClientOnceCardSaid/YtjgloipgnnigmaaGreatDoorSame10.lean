/- bytes.Equal and message.Same, exactly. -/
import Derived.Test.YtjgloipgnnigmaaGreatDoorOnly10
import Derived.Laws.BytesArg
import Derived.Laws.BytesString
set_option linter.unusedVariables false
set_option linter.unusedSimpArgs false
namespace Go.Proofs.YtjgloipgnnigmaaGreatDoor
open Go.RowKit Go.Shelf

def strT (l : List UInt8) : ByteArray := ⟨l.toArray⟩
def BysT (w : World) (A : Option Addr) (l : List UInt8) : Prop := CellsAt w A l.length fun i => .int .u8 ((l.getD i 0).toNat : Int)
theorem run_textT {w : World} {A : Option Addr} {l : List UInt8} (h : BysT w A l) (ca : Nat) : (convert 41 9 (.slice A l.length ca)).run Tryz.prog w = .ok (.string (strT l)) w := by
  cases A with
  | none =>
    have : l = [] := by
      cases l with
      | nil => rfl
      | cons x l => obtain ⟨b, off, e, _⟩ := h 0 (by simp); cases e
    subst this
    exact run_convert_bytes_nil w _ _ Tryz.underlying41 Tryz.underlying5 _ ca _ Tryz.underlying9
  | some a =>
    by_cases h0 : 0 < l.length
    · obtain ⟨b, off, e, _⟩ := h 0 h0
      cases e
      have := run_convert_bytes_arg w 41 5 Tryz.underlying41 Tryz.underlying5 b off l.length ca (l.map fun b => (b.toNat : Int)) (by simp) (fun i hi => by
        obtain ⟨b', off', e', hc⟩ := h i hi
        cases e'
        rw [hc]
        simp [List.getD_eq_getElem?_getD, hi]) 9 Tryz.underlying9
      have e9 : strOfNums (l.map fun b => (b.toNat : Int)) = strT l := by simp [strOfNums, strT, Function.comp_def]
      rw [this, e9]
    · have : l = [] := List.eq_nil_of_length_eq_zero (by omega)
      subst this
      rw [run_convert_bytes_string w _ _ _ _ _ _ Tryz.underlying41 Tryz.underlying5 Tryz.underlying9]
      exact run_bytesToString w a 0 ca [] (by rw [loadCells, loadCellsFrom]; rfl)
def bysEq (l m : List UInt8) : Bool := (strT l).toList == (strT m).toList
theorem bytesEqual_any (l m : List UInt8) (A B : Option Addr) (ca cb : Nat) (w : World) (hA : BysT w A l) (hB : BysT w B m) :
    Calls Tryz.prog 140 #[.slice A l.length ca, .slice B m.length cb] w fun e w' => e = .returned (.bool (bysEq l m)) ∧ w = w' := by
  have h1 := run_textT hA ca
  have h2 := run_textT hB cb
  obtain ⟨s, hs⟩ : ∃ s, strT l = s := ⟨_, rfl⟩
  obtain ⟨t, ht⟩ : ∃ t, strT m = t := ⟨_, rfl⟩
  rw [hs] at h1
  rw [ht] at h2
  rw [bysEq, hs, ht]
  clear hA hB hs ht
  go_enter Tryz.func140, Tryz.ntmps140
  go_wp2
  go_ret
  exact ⟨rfl, rfl⟩
def balEq (a : Nat) (b : Int) (c : Nat) (d : Int) : Bool := (a : Int) == (c : Int) && b == d
theorem eqlBal (a c : Nat) (b d : Int) (w : World) : (binOp .eql 31 (.agg #[.int .u32 (a : Int), .int .i64 b]) (.agg #[.int .u32 (c : Int), .int .i64 d])).run Tryz.prog w = .ok (.bool (balEq a b c d)) w := by
  unfold balEq
  simp [go_sem]
  by_cases h1 : (a : Int) = (c : Int) <;> by_cases h2 : b = d <;> simp [h1, h2]
def valEq (a b : Val) : Bool := a.kind == b.kind && (a.bits : Int) == (b.bits : Int) && a.text.toList == b.text.toList
theorem eqlVal (a b : Val) (w : World) : (binOp .eql 28 (.agg #[.int .i64 a.kind, .int .u64 (a.bits : Int), .string a.text]) (.agg #[.int .i64 b.kind, .int .u64 (b.bits : Int), .string b.text])).run Tryz.prog w = .ok (.bool (valEq a b)) w := by
  unfold valEq
  simp [go_sem]
  by_cases h1 : a.kind = b.kind <;> by_cases h2 : (a.bits : Int) = (b.bits : Int) <;> by_cases h3 : a.text.toList = b.text.toList <;> simp [h1, h2, h3]
def sameM (a b : MsgV) : Bool := a.kind == b.kind && balEq a.br a.bn b.br b.bn && a.slot == b.slot && a.has == b.has && balEq a.vr a.vn b.vr b.vn && idEqB a.ids a.idq b.ids b.idq && a.g == b.g && (a.st : Int) == (b.st : Int) && a.y == b.y && a.num == b.num &&
  a.key.toList == b.key.toList && (a.ver : Int) == (b.ver : Int) && valEq a.val b.val && a.err == b.err && cmdEq (cmdOf a) (cmdOf b) && sameT a.t b.t && bysEq a.data b.data
set_option maxRecDepth 100000 in
set_option maxHeartbeats 16000000 in
theorem msgSame_any (a b : MsgV) (w : World) (ha : MsgAt w a) (hb : MsgAt w b) : Calls Tryz.prog 91 #[.agg a.vs, .agg b.vs] w fun e w' => e = .returned (.bool (sameM a b)) ∧ Below w.heap.size w w' := by
  obtain ⟨W0, eW0, HB0, hsz0, hr0⟩ := boxed w a.vs 43
  obtain ⟨W, eW, HBa, hszA, hrA⟩ := boxed W0 b.vs 43
  have HB := keepB HB0 HBa
  clear hsz0 hszA
  have r1 := obj_keep hr0 HBa
  obtain ⟨c0, c1, c2, c3, c4, c5, c6, c7, c8, c9, c10, c11, c12, c13, c14, c15, c16, c17, c18, c19, c20, c21, c22, c23, c24, c25, c26, c27, c28, c29, c30, c31, c32, c33⟩ := msg_cs r1
  obtain ⟨d0, d1, d2, d3, d4, d5, d6, d7, d8, d9, d10, d11, d12, d13, d14, d15, d16, d17, d18, d19, d20, d21, d22, d23, d24, d25, d26, d27, d28, d29, d30, d31, d32, d33⟩ := msg_cs hrA
  have haW := Lib.hid (ha.later HB)
  have hbW := Lib.hid (hb.later HB)
  obtain ⟨bC, hC⟩ : ∃ r, cmdEq (cmdOf a) (cmdOf b) = r := ⟨_, rfl⟩
  obtain ⟨bT, hT⟩ : ∃ r, sameT a.t b.t = r := ⟨_, rfl⟩
  obtain ⟨bD, hD⟩ : ∃ r, bysEq a.data b.data = r := ⟨_, rfl⟩
  obtain ⟨b1, h1⟩ : ∃ r, balEq a.br a.bn b.br b.bn = r := ⟨_, rfl⟩
  obtain ⟨b2, h2⟩ : ∃ r, balEq a.vr a.vn b.vr b.vn = r := ⟨_, rfl⟩
  obtain ⟨b3, h3⟩ : ∃ r, idEqB a.ids a.idq b.ids b.idq = r := ⟨_, rfl⟩
  obtain ⟨b4, h4⟩ : ∃ r, valEq a.val b.val = r := ⟨_, rfl⟩
  have e1 := eqlBal a.br b.br a.bn b.bn
  have e2 := eqlBal a.vr b.vr a.vn b.vn
  have e3 := eqlId a.ids a.idq b.ids b.idq
  have e4 := eqlVal a.val b.val
  rw [h1] at e1
  rw [h2] at e2
  rw [h3] at e3
  rw [h4] at e4
  have HC : Hid (∀ wz, Below W.heap.size W wz → Calls Tryz.prog 138 #[.agg #[.int .i64 a.ck, .int .i64 a.ct.ses, .int .i64 a.ct.seq, .slice a.cA a.ct.rds.length a.cca, .slice a.cB a.ct.wrs.length a.ccb, .int .i64 a.cis, .int .i64 a.ciq, .int .i64 a.cg, .int .u64 (a.cst : Int), .bool a.cy], .agg #[.int .i64 b.ck, .int .i64 b.ct.ses, .int .i64 b.ct.seq, .slice b.cA b.ct.rds.length b.cca, .slice b.cB b.ct.wrs.length b.ccb, .int .i64 b.cis, .int .i64 b.ciq, .int .i64 b.cg, .int .u64 (b.cst : Int), .bool b.cy]] wz fun e w' => e = .returned (.bool bC) ∧ Below wz.heap.size wz w') := fun wz hz => by
    have := cmdSame_any (cmdOf a) (cmdOf b) wz (haW.out.later hz).c (hbW.out.later hz).c
    rw [hC] at this
    exact this
  have HT : Hid (∀ wz, Below W.heap.size W wz → Calls Tryz.prog 139 #[.agg #[.int .i64 a.t.ses, .int .i64 a.t.seq, .slice a.A a.t.rds.length a.ca, .slice a.B a.t.wrs.length a.cb], .agg #[.int .i64 b.t.ses, .int .i64 b.t.seq, .slice b.A b.t.rds.length b.ca, .slice b.B b.t.wrs.length b.cb]] wz fun e w' => e = .returned (.bool bT) ∧ Below wz.heap.size wz w') := fun wz hz => by
    have := txSame_any a.t b.t a.A a.B b.A b.B a.ca a.cb b.ca b.cb wz (haW.out.later hz).t (hbW.out.later hz).t
    rw [hT] at this
    exact this
  have HD : Hid (∀ wz, Below W.heap.size W wz → Calls Tryz.prog 140 #[.slice a.D a.data.length a.cd, .slice b.D b.data.length b.cd] wz fun e w' => e = .returned (.bool bD) ∧ wz = w') := fun wz hz => by
    have := bytesEqual_any a.data b.data a.D b.D a.cd b.cd wz (haW.out.later hz).d (hbW.out.later hz).d
    rw [hD] at this
    exact this
  have HE : Hid (sameM a b = (a.kind == b.kind && b1 && a.slot == b.slot && a.has == b.has && b2 && b3 && a.g == b.g && (a.st : Int) == (b.st : Int) && a.y == b.y && a.num == b.num &&
    a.key.toList == b.key.toList && (a.ver : Int) == (b.ver : Int) && b4 && a.err == b.err && bC && bT && bD)) := by
    show _ = _
    rw [sameM, h1, h2, h3, h4, hC, hT, hD]
  rw [HE.out]
  clear hr0 hrA ha hb h1 h2 h3 h4 hC hT hD HE r1
  have HK : Below W.heap.size W W := Below.refl _ _
  go_enter Tryz.func91, Tryz.ntmps91
  go_wp2_with (first
    | (go_at_call 138; refine (HC.out _ HK).mono ?_; rintro e w1 ⟨rfl, hb⟩; replace c17 := keep hb c17; replace c18 := keep hb c18; replace c19 := keep hb c19; replace c20 := keep hb c20; replace c33 := keep hb c33; replace d17 := keep hb d17; replace d18 := keep hb d18; replace d19 := keep hb d19; replace d20 := keep hb d20; replace d33 := keep hb d33; replace HK := keepB HK hb; clear hb)
    | (go_at_call 139; refine (HT.out _ HK).mono ?_; rintro e w1 ⟨rfl, hb⟩; replace c33 := keep hb c33; replace d33 := keep hb d33; replace HK := keepB HK hb; clear hb)
    | (go_at_call 140; refine (HD.out _ HK).mono ?_; rintro e w1 ⟨rfl, rfl⟩))
  all_goals
    go_ret
    refine ⟨ret_bool ?_, keepB HB HK⟩
    clear HB HK c0 c1 c2 c3 c4 c5 c6 c7 c8 c9 c10 c11 c12 c13 c14 c15 c16 c17 c18 c19 c20 c21 c22 c23 c24 c25 c26 c27 c28 c29 c30 c31 c32 c33 d0 d1 d2 d3 d4 d5 d6 d7 d8 d9 d10 d11 d12 d13 d14 d15 d16 d17 d18 d19 d20 d21 d22 d23 d24 d25 d26 d27 d28 d29 d30 d31 d32 d33 e1 e2 e3 e4 HC HT HD haW hbW
    simp [*]
end Go.Proofs.YtjgloipgnnigmaaGreatDoor
