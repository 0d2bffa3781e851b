/- A message, an Op of layer 21's statements and a script of them that came in, opened. -/
import Derived.Test.YtjgloipgnnigmaaGreatDoorMsg10
import Derived.Test.YtjgloipgnnigmaaGreatDoorOpen08
namespace Go.Proofs.YtjgloipgnnigmaaGreatDoor
open Go.ChangeShapes Go.WideShapes Go.ChangeAt Go.RowKit Go.Joins Go.Deep

theorem cells_bool : Tryz.prog.cellsOf 4 = 1 := by kernel_rfl
theorem cells_u32 : Tryz.prog.cellsOf 29 = 1 := by kernel_rfl
theorem cells_u8 : Tryz.prog.cellsOf 5 = 1 := by kernel_rfl
theorem cells_bys : Tryz.prog.cellsOf 41 = 1 := by kernel_rfl
theorem cells_strs : Tryz.prog.cellsOf 23 = 1 := by kernel_rfl
theorem cells_blt : Tryz.prog.cellsOf 31 = 2 := by kernel_rfl
theorem cells_cmd : Tryz.prog.cellsOf 39 = 10 := by kernel_rfl
theorem cells_errno : Tryz.prog.cellsOf 40 = 1 := by kernel_rfl
theorem cells_msg : Tryz.prog.cellsOf 43 = 34 := by kernel_rfl
theorem cells_op21 : Tryz.prog.cellsOf 45 = 41 := by kernel_rfl
theorem len_6 {α : Type} {l : List α} (h : l.length = 6) : ∃ a0 a1 a2 a3 a4 a5, l = [a0, a1, a2, a3, a4, a5] := by
  match l, h with
  | [a0, a1, a2, a3, a4, a5], _ => exact ⟨a0, a1, a2, a3, a4, a5, rfl⟩
theorem len_7 {α : Type} {l : List α} (h : l.length = 7) : ∃ a0 a1 a2 a3 a4 a5 a6, l = [a0, a1, a2, a3, a4, a5, a6] := by
  match l, h with
  | [a0, a1, a2, a3, a4, a5, a6], _ => exact ⟨a0, a1, a2, a3, a4, a5, a6, rfl⟩
theorem len_8 {α : Type} {l : List α} (h : l.length = 8) : ∃ a0 a1 a2 a3 a4 a5 a6 a7, l = [a0, a1, a2, a3, a4, a5, a6, a7] := by
  match l, h with
  | [a0, a1, a2, a3, a4, a5, a6, a7], _ => exact ⟨a0, a1, a2, a3, a4, a5, a6, a7, rfl⟩
theorem len_10 {α : Type} {l : List α} (h : l.length = 10) : ∃ a0 a1 a2 a3 a4 a5 a6 a7 a8 a9, l = [a0, a1, a2, a3, a4, a5, a6, a7, a8, a9] := by
  match l, h with
  | [a0, a1, a2, a3, a4, a5, a6, a7, a8, a9], _ => exact ⟨a0, a1, a2, a3, a4, a5, a6, a7, a8, a9, rfl⟩
theorem len_17 {α : Type} {l : List α} (h : l.length = 17) : ∃ a0 a1 a2 a3 a4 a5 a6 a7 a8 a9 a10 a11 a12 a13 a14 a15 a16, l = [a0, a1, a2, a3, a4, a5, a6, a7, a8, a9, a10, a11, a12, a13, a14, a15, a16] := by
  match l, h with
  | [a0, a1, a2, a3, a4, a5, a6, a7, a8, a9, a10, a11, a12, a13, a14, a15, a16], _ => exact ⟨a0, a1, a2, a3, a4, a5, a6, a7, a8, a9, a10, a11, a12, a13, a14, a15, a16, rfl⟩
theorem len_34 {α : Type} {l : List α} (h : l.length = 34) : ∃ c0 c1 c2 c3 c4 c5 c6 c7 c8 c9 c10 c11 c12 c13 c14 c15 c16 c17 c18 c19 c20 c21 c22 c23 c24 c25 c26 c27 c28 c29 c30 c31 c32 c33, l = [c0, c1, c2, c3, c4, c5, c6, c7, c8, c9, c10, c11, c12, c13, c14, c15, c16, c17, c18, c19, c20, c21, c22, c23, c24, c25, c26, c27, c28, c29, c30, c31, c32, c33] := by
  obtain ⟨a0, a1, a2, a3, a4, a5, a6, a7, a8, a9, a10, a11, a12, a13, a14, a15, a16, e1⟩ := len_17 (l := l.take 17) (by rw [List.length_take, h]; rfl)
  obtain ⟨b0, b1, b2, b3, b4, b5, b6, b7, b8, b9, b10, b11, b12, b13, b14, b15, b16, e2⟩ := len_17 (l := l.drop 17) (by rw [List.length_drop, h])
  have e := List.take_append_drop 17 l
  rw [e1, e2] at e
  exact ⟨a0, a1, a2, a3, a4, a5, a6, a7, a8, a9, a10, a11, a12, a13, a14, a15, a16, b0, b1, b2, b3, b4, b5, b6, b7, b8, b9, b10, b11, b12, b13, b14, b15, b16, e.symm⟩
theorem len_41 {α : Type} {l : List α} (h : l.length = 41) : ∃ c0 c1 c2 c3 c4 c5 c6 c7 c8 c9 c10 c11 c12 c13 c14 c15 c16 c17 c18 c19 c20 c21 c22 c23 c24 c25 c26 c27 c28 c29 c30 c31 c32 c33 c34 c35 c36 c37 c38 c39 c40, l = [c0, c1, c2, c3, c4, c5, c6, c7, c8, c9, c10, c11, c12, c13, c14, c15, c16, c17, c18, c19, c20, c21, c22, c23, c24, c25, c26, c27, c28, c29, c30, c31, c32, c33, c34, c35, c36, c37, c38, c39, c40] := by
  obtain ⟨a0, a1, a2, a3, a4, a5, a6, a7, a8, a9, a10, a11, a12, a13, a14, a15, a16, a17, a18, a19, a20, a21, a22, a23, a24, a25, a26, a27, a28, a29, a30, a31, a32, a33, e1⟩ := len_34 (l := l.take 34) (by rw [List.length_take, h]; rfl)
  obtain ⟨b0, b1, b2, b3, b4, b5, b6, e2⟩ := len_7 (l := l.drop 34) (by rw [List.length_drop, h])
  have e := List.take_append_drop 34 l
  rw [e1, e2] at e
  exact ⟨a0, a1, a2, a3, a4, a5, a6, a7, a8, a9, a10, a11, a12, a13, a14, a15, a16, a17, a18, a19, a20, a21, a22, a23, a24, a25, a26, a27, a28, a29, a30, a31, a32, a33, b0, b1, b2, b3, b4, b5, b6, e.symm⟩
section
variable {H : Type} {enc : TypeId × Value → H} {w : World} {base fuel : Nat} {sp : Nat → Bool} {held : Bool} {cs : List Value} {x : DataW H × List MemPlace}
theorem cells_bool1 (h : DataW.trod enc Tryz.prog w base sp held fuel 4 cs = some x) : ∃ b : Bool, cs = [.bool b] := by
  obtain ⟨b, rfl, _⟩ := DataW.trod_bool Tryz.underlying4 h
  exact ⟨b, rfl⟩
theorem cells_errno1 (h : DataW.trod enc Tryz.prog w base sp held fuel 40 cs = some x) : ∃ z : Int, cs = [.int .i64 z] := by
  obtain ⟨z, rfl, _, wz⟩ := DataW.trod_int Tryz.underlying40 h
  exact ⟨z, rfl⟩
theorem cells_u321 (h : DataW.trod enc Tryz.prog w base sp held fuel 29 cs = some x) : ∃ n : Nat, cs = [.int .u32 (n : Int)] := by
  obtain ⟨z, rfl, _, wz⟩ := DataW.trod_int Tryz.underlying29 h
  obtain ⟨h0, h1⟩ := bounds_u32 wz
  obtain ⟨n, rfl⟩ := Int.eq_ofNat_of_zero_le h0
  exact ⟨n, rfl⟩
theorem cells_byte1 {fuel : Nat} {cs : List Value} {x : DataW H × List MemPlace} (h : DataW.trod enc Tryz.prog w base sp held fuel 5 cs = some x) : ∃ b : UInt8, cs = [.int .u8 (b.toNat : Int)] ∧ True := by
  obtain ⟨z, rfl, _, wz⟩ := DataW.trod_int Tryz.underlying5 h
  obtain ⟨h0, h1⟩ := bounds_u8 wz
  obtain ⟨n, rfl⟩ := Int.eq_ofNat_of_zero_le h0
  exact ⟨UInt8.ofNat n, by rw [UInt8.toNat_ofNat', show n % 2 ^ 8 = n by omega], trivial⟩
theorem bys_cells (h : DataW.trod enc Tryz.prog w base sp held fuel 41 cs = some x) :
    ∃ (A : Option Addr) (l : List UInt8) (ca : Nat), cs = [.slice A l.length ca] ∧ CellsAt w A l.length (fun i => .int .u8 ((l.getD i 0).toNat : Int)) ∧ l.length ≤ 9223372036854775807 := by
  obtain ⟨A, l, ca, rfl, h1, h2, h3, _⟩ := slice_cells (k := 1) (f := fun b : UInt8 => [.int .u8 (b.toNat : Int)]) 0 (by omega) (fun _ => rfl) Tryz.underlying41 cells_u8 cells_byte1 h
  have h5 := Nat.le_trans h1 h2
  refine ⟨A, l, ca, rfl, fun i hi => ?_, by unfold maxLen at h5; omega⟩
  obtain ⟨b, off, e, hc⟩ := h3 i hi
  exact ⟨b, off, e, by have := hc 0 _ rfl; simpa using this⟩
theorem strs_cells (h : DataW.trod enc Tryz.prog w base sp held fuel 23 cs = some x) :
    ∃ (A : Option Addr) (l : List ByteArray) (ca : Nat), cs = [.slice A l.length ca] ∧ StrsAt w A l ∧ l.length ≤ ca ∧ l.length ≤ 9223372036854775807 ∧ ∀ k, k < l.length → (l.getD k noStr).size ≤ 9223372036854775807 := by
  obtain ⟨A, l, ca, rfl, h1, h2, h3, h4⟩ := slice_cells (k := 1) (f := fun s : ByteArray => [.string s]) noStr (by omega) (fun _ => rfl) Tryz.underlying23 cells_str cells_str1 h
  have h5 := Nat.le_trans h1 h2
  refine ⟨A, l, ca, rfl, fun i hi => ?_, h1, by unfold maxLen at h5; omega, h4⟩
  obtain ⟨b, off, e, hc⟩ := h3 i hi
  exact ⟨b, off, e, by have := hc 0 _ rfl; simpa using this⟩
theorem blt_cells (h : DataW.trod enc Tryz.prog w base sp held fuel 31 cs = some x) : ∃ (r : Nat) (n : Int), cs = [.int .u32 (r : Int), .int .i64 n] := by
  obtain ⟨xs, n, _, _, hc, hl, hf⟩ := DataW.trod_struct Tryz.underlying31 h
  rw [cells_blt] at hc
  obtain ⟨a, b, rfl⟩ := len_2 hc
  obtain ⟨u, v, rfl⟩ := len_2 (l := xs) hl
  have g0 := hf 0 _ rfl
  have g1 := hf 1 _ rfl
  simp [cells_int, cells_u32] at g0 g1
  obtain ⟨s, e0⟩ := cells_u321 g0
  obtain ⟨q, e1, _⟩ := cells_int1 g1
  simp at e0 e1
  subst e0 e1
  exact ⟨s, q, rfl⟩
theorem cmd_cells (h : DataW.trod enc Tryz.prog w base sp held fuel 39 cs = some x) :
    ∃ (k : Int) (t : Tx) (A B : Option Addr) (ca cb : Nat) (i q g : Int) (st : Nat) (y : Bool), cs = [.int .i64 k, .int .i64 t.ses, .int .i64 t.seq, .slice A t.rds.length ca, .slice B t.wrs.length cb, .int .i64 i, .int .i64 q, .int .i64 g, .int .u64 (st : Int), .bool y] ∧ TxAt w t A B := by
  obtain ⟨xs, n, _, _, hc, hl, hf⟩ := DataW.trod_struct Tryz.underlying39 h
  rw [cells_cmd] at hc
  obtain ⟨a0, a1, a2, a3, a4, a5, a6, a7, a8, a9, rfl⟩ := len_10 hc
  obtain ⟨b0, b1, b2, b3, b4, b5, rfl⟩ := len_6 (l := xs) hl
  have g0 := hf 0 _ rfl
  have g1 := hf 1 _ rfl
  have g2 := hf 2 _ rfl
  have g3 := hf 3 _ rfl
  have g4 := hf 4 _ rfl
  have g5 := hf 5 _ rfl
  simp [cells_int, cells_txn, cells_id, cells_u64, cells_bool] at g0 g1 g2 g3 g4 g5
  obtain ⟨k, e0, _⟩ := cells_int1 g0
  obtain ⟨t, A, B, ca, cb, e1, hT, _⟩ := txn_cells g1
  obtain ⟨i, q, e2, _⟩ := id_cells g2
  obtain ⟨g, e3, _⟩ := cells_int1 g3
  obtain ⟨st, e4, _⟩ := cells_u641 g4
  obtain ⟨y, e5⟩ := cells_bool1 g5
  simp at e0 e1 e2 e3 e4 e5
  obtain ⟨e6, e7, e8, e9⟩ := e1
  obtain ⟨e10, e11⟩ := e2
  subst e0 e3 e4 e5 e6 e7 e8 e9 e10 e11
  exact ⟨k, t, A, B, ca, cb, i, q, g, st, y, rfl, hT⟩
set_option maxHeartbeats 1000000 in
theorem msg_cells (h : DataW.trod enc Tryz.prog w base sp held fuel 43 cs = some x) : ∃ m : MsgV, cs = m.vs.toList ∧ MsgAt w m := by
  obtain ⟨xs, n, _, _, hc, hl, hf⟩ := DataW.trod_struct Tryz.underlying43 h
  rw [cells_msg] at hc
  obtain ⟨a0, a1, a2, a3, a4, a5, a6, a7, a8, a9, a10, a11, a12, a13, a14, a15, a16, a17, a18, a19, a20, a21, a22, a23, a24, a25, a26, a27, a28, a29, a30, a31, a32, a33, rfl⟩ := len_34 hc
  obtain ⟨b0, b1, b2, b3, b4, b5, b6, b7, b8, b9, b10, b11, b12, b13, b14, b15, b16, rfl⟩ := len_17 (l := xs) hl
  have g0 := hf 0 _ rfl
  have g1 := hf 1 _ rfl
  have g2 := hf 2 _ rfl
  have g3 := hf 3 _ rfl
  have g4 := hf 4 _ rfl
  have g5 := hf 5 _ rfl
  have g6 := hf 6 _ rfl
  have g7 := hf 7 _ rfl
  have g8 := hf 8 _ rfl
  have g9 := hf 9 _ rfl
  have g10 := hf 10 _ rfl
  have g11 := hf 11 _ rfl
  have g12 := hf 12 _ rfl
  have g13 := hf 13 _ rfl
  have g14 := hf 14 _ rfl
  have g15 := hf 15 _ rfl
  have g16 := hf 16 _ rfl
  simp [cells_int, cells_blt, cells_bool, cells_cmd, cells_txn, cells_id, cells_u64, cells_str, cells_val, cells_errno, cells_bys] at g0 g1 g2 g3 g4 g5 g6 g7 g8 g9 g10 g11 g12 g13 g14 g15 g16
  obtain ⟨kind, e0, _⟩ := cells_int1 g0
  obtain ⟨br, bn, e1⟩ := blt_cells g1
  obtain ⟨slot, e2, _⟩ := cells_int1 g2
  obtain ⟨has, e3⟩ := cells_bool1 g3
  obtain ⟨vr, vn, e4⟩ := blt_cells g4
  obtain ⟨ck, ct, cA, cB, cca, ccb, cis, ciq, cg, cst, cy, e5, hC⟩ := cmd_cells g5
  obtain ⟨t, A, B, ca, cb, e6, hT, _⟩ := txn_cells g6
  obtain ⟨ids, idq, e7, _⟩ := id_cells g7
  obtain ⟨gg, e8, _⟩ := cells_int1 g8
  obtain ⟨st, e9, _⟩ := cells_u641 g9
  obtain ⟨y, e10⟩ := cells_bool1 g10
  obtain ⟨num, e11, _⟩ := cells_int1 g11
  obtain ⟨key, e12, hk⟩ := cells_str1 g12
  obtain ⟨ver, e13, _⟩ := cells_u641 g13
  obtain ⟨vl, e14, hv⟩ := val_cells g14
  obtain ⟨err, e15⟩ := cells_errno1 g15
  obtain ⟨D, data, cd, e16, hd, hn⟩ := bys_cells g16
  simp only [List.cons.injEq, and_true] at e0 e1 e2 e3 e4 e5 e6 e7 e8 e9 e10 e11 e12 e13 e14 e15 e16
  obtain ⟨e1a, e1b⟩ := e1
  obtain ⟨e4a, e4b⟩ := e4
  obtain ⟨e5a, e5b, e5c, e5d, e5e, e5f, e5g, e5h, e5i, e5j⟩ := e5
  obtain ⟨e6a, e6b, e6c, e6d⟩ := e6
  obtain ⟨e7a, e7b⟩ := e7
  obtain ⟨e14a, e14b, e14c⟩ := e14
  subst e0 e1a e1b e2 e3 e4a e4b e5a e5b e5c e5d e5e e5f e5g e5h e5i e5j e6a e6b e6c e6d e7a e7b e8 e9 e10 e11 e12 e13 e14a e14b e14c e15 e16
  exact ⟨⟨kind, br, bn, slot, has, vr, vn, ck, ct, cA, cB, cca, ccb, cis, ciq, cg, cst, cy, t, A, B, ca, cb, ids, idq, gg, st, y, num, key, ver, vl, err, D, data, cd⟩, rfl, hC, hT, hd, hk, hv, hn⟩
set_option maxHeartbeats 1000000 in
theorem op21_cells (h : DataW.trod enc Tryz.prog w base sp held fuel 45 cs = some x) : ∃ o : OpX, cs = o.vs.toList ∧ OpAt w o := by
  obtain ⟨xs, n, _, _, hc, hl, hf⟩ := DataW.trod_struct Tryz.underlying45 h
  rw [cells_op21] at hc
  obtain ⟨a0, a1, a2, a3, a4, a5, a6, a7, a8, a9, a10, a11, a12, a13, a14, a15, a16, a17, a18, a19, a20, a21, a22, a23, a24, a25, a26, a27, a28, a29, a30, a31, a32, a33, a34, a35, a36, a37, a38, a39, a40, rfl⟩ := len_41 hc
  obtain ⟨b0, b1, b2, b3, b4, b5, rfl⟩ := len_6 (l := xs) hl
  have g0 := hf 0 _ rfl
  have g1 := hf 1 _ rfl
  have g2 := hf 2 _ rfl
  have g3 := hf 3 _ rfl
  have g4 := hf 4 _ rfl
  have g5 := hf 5 _ rfl
  simp [cells_int, cells_str, cells_val, cells_strs, cells_msg] at g0 g1 g2 g3 g4 g5
  obtain ⟨kind, e0, _⟩ := cells_int1 g0
  obtain ⟨key, e1, hk⟩ := cells_str1 g1
  obtain ⟨vl, e2, hv⟩ := val_cells g2
  obtain ⟨K, keys, ck, e3, hK, hkc, hkn, hkz⟩ := strs_cells g3
  obtain ⟨m, e4, hm⟩ := msg_cells g4
  obtain ⟨num, e5, _⟩ := cells_int1 g5
  simp only [MsgV.vs, List.cons.injEq, and_true] at e0 e1 e2 e3 e4 e5
  obtain ⟨e2a, e2b, e2c⟩ := e2
  obtain ⟨f0, f1, f2, f3, f4, f5, f6, f7, f8, f9, f10, f11, f12, f13, f14, f15, f16, f17, f18, f19, f20, f21, f22, f23, f24, f25, f26, f27, f28, f29, f30, f31, f32, f33⟩ := e4
  subst e0 e1 e2a e2b e2c e3 e5 f0 f1 f2 f3 f4 f5 f6 f7 f8 f9 f10 f11 f12 f13 f14 f15 f16 f17 f18 f19 f20 f21 f22 f23 f24 f25 f26 f27 f28 f29 f30 f31 f32 f33
  exact ⟨⟨kind, key, vl, K, keys, ck, m, num⟩, rfl, hk, hv, hK, hkz, hkn, hkc, hm⟩
end
theorem vs41 (o : OpX) : o.vs.toList.length = 41 := rfl
set_option maxRecDepth 100000 in
theorem open_op21 {H : Type} {enc : TypeId × Value → H} {w : World} {b0 base : Nat} {sp : Nat → Bool} {held : Bool} {v : Value} {d : DataW H} {p : List MemPlace}
    (hv : Value.okWide Tryz.prog w .any b0 45 v) (h : DataW.Trod enc Tryz.prog w base sp held 45 v d p) :
    ∃ o : OpX, v = o.v ∧ OpAt w o := by
  obtain ⟨cs, rfl, _⟩ := okWide_struct Tryz.underlying45 hv
  obtain ⟨fuel, hf⟩ := h
  obtain ⟨o, e, ho⟩ := op21_cells hf
  refine ⟨o, ?_, ho⟩
  obtain ⟨l⟩ := cs
  have e' : l = _ := e
  rw [e']
  rfl
set_option maxRecDepth 100000 in
theorem open_ops21 {H : Type} {enc : TypeId × Value → H} {w : World} {b0 base : Nat} {sp : Nat → Bool} {held : Bool} {v : Value} {d : DataW H} {p : List MemPlace}
    (hv : Value.okWide Tryz.prog w .any b0 48 v) (h : DataW.Trod enc Tryz.prog w base sp held 48 v d p) :
    ∃ (S : Option Addr) (l : List OpX) (cs : Nat), v = .slice S l.length cs ∧ OpsAt w S l ∧ l.length ≤ 9223372036854775807 := by
  obtain ⟨a0, len, cap, rfl⟩ := okWide_slice Tryz.underlying48 hv
  obtain ⟨fuel, hf⟩ := h
  obtain ⟨A, l, ca, e, h1, h2, h3, h4⟩ := slice_cells (k := 41) (f := fun o : OpX => o.vs.toList) (q := fun o => OpAt w o) noOpX (by omega) vs41 Tryz.underlying48 cells_op21 (fun h => op21_cells h) hf
  have h5 := le_max (Nat.le_trans h1 h2)
  refine ⟨A, l, ca, by simpa [Value.cells] using e, fun i hi => ?_, h5⟩
  obtain ⟨b, off, e, hc⟩ := h3 i hi
  refine ⟨b, off, e, fun j v hj => ?_, h4 i hi⟩
  rw [Go.WideShapes.add_plain]
  exact hc j v (by rw [Array.getElem?_toList]; exact hj)
end Go.Proofs.YtjgloipgnnigmaaGreatDoor
