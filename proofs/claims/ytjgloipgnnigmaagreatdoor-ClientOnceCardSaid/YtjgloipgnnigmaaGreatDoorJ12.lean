/- The client's Write, where a write is put in. -/
import Derived.Test.YtjgloipgnnigmaaGreatDoorJ11
import Derived.Test.YtjgloipgnnigmaaGreatDoorJ9
import Derived.Deep.RegionLaw
import Derived.Test.YtjgloipgnnigmaaGreatDoorJ5
import Derived.Test.YtjgloipgnnigmaaGreatDoorJ7
import Derived.Deep.RegionHeld3
import Derived.IntWalk
import Derived.BigRegion
import Derived.Test.YtjgloipgnnigmaaGreatDoorJ4
import Derived.Test.YtjgloipgnnigmaaGreatDoorJ2
set_option linter.unusedVariables false
set_option linter.unusedSimpArgs false
namespace Go.Proofs.YtjgloipgnnigmaaGreatDoor
open Go.RowKit Go.Shelf Go.Sort

section
variable {w : World} {B p : Nat} {K : CliK} {x : CliD} {O : Nat → Prop}
set_option maxRecDepth 100000 in
set_option maxHeartbeats 4000000 in
/-- Where a write is put in. -/
theorem write_ins {N : Nat} (h : CliAt w B p K x O) (hB : B ≤ w.heap.size) (hI : CliInv K.c N x) (hT : Tabs w) (key : ByteArray) (hk : key.size ≤ maxLen) (v : Val) (hv : v.Good) (hK : writeK x key v = 4) :
    Calls Tryz.prog 15 #[.pointer (some ⟨p, 0, none⟩), .string key, .agg #[.int .i64 v.kind, .int .u64 (v.bits : Int), .string v.text]] w (CliPost w B p K O (.int .i64 (writeE x key v)) (writeD x key v)) := by
  have s1 : x.state = 1 := by
    rcases Nat.decEq x.state 1 with q | q
    · simp [writeK, q] at hK
    · exact q
  have hfk : keyB key = true ∧ formedV v = true := by
    rcases hq : (keyB key && formedV v) with _ | _
    · simp [writeK, s1, hq] at hK
    · simpa using hq
  obtain ⟨hfk, hfv⟩ := hfk
  have fa : atK x.wrs key = false := by
    rcases hq : atK x.wrs key with _ | _
    · rfl
    · simp [writeK, s1, hfk, hfv, hq] at hK
  have fl : x.wrs.length < 6 := by
    rcases Nat.lt_or_ge x.wrs.length 6 with q | q
    · exact q
    · simp [writeK, s1, hfk, hfv, fa, q] at hK
  have hle := low_le x.wrs key
  have HR : Hid (writeE x key v = 0 ∧ writeD x key v = { x with wrs := insK x.wrs (lowK x.wrs key) ⟨key, v⟩ }) := by show _ ∧ _; simp [writeE, writeD, hK]
  obtain ⟨W, eW, HB, d0, d1, d2⟩ := box3 w (.int .i64 v.kind) (.int .u64 (v.bits : Int)) (.string v.text) 28
  have hW := Lib.hid (h.later HB)
  have hTW := Lib.hid (hT.later HB)
  have hlo := Lib.hid h.lt'
  have q1 : ((x.state : Int) == 1) = true := by rw [beq_iff_eq]; omega
  have HF : Hid (∀ wz, Below W.heap.size W wz → Calls Tryz.prog 52 #[.agg #[.int .i64 v.kind, .int .u64 (v.bits : Int), .string v.text]] wz fun e w' => e = .returned (.bool true) ∧ Below wz.heap.size wz w') := fun wz hb => by
    have := formedV_any v.kind v.bits v.text hv.t wz (hTW.out.later hb)
    rw [← hfv]
    exact this
  have HSe : Hid (∀ wz, CliAt wz B p K x O → Calls Tryz.prog 38 #[.pointer (some ⟨p, 0, none⟩), .string key] wz (SrchPost wz (lowK x.wrs key) false)) := fun wz hz => by
    have := wrote_any hz key hI.wr hI.wn
    rwa [fa] at this
  generalize lowK x.wrs key = lk at hle HR HSe
  replace hfk := Lib.hid hfk
  replace hfv := Lib.hid hfv
  have q6 : decide ((6 : Int) ≤ (x.wrs.length : Int)) = false := by rw [decide_eq_false_iff_not]; omega
  have q6b : decide (6 ≤ x.wrs.length) = false := by rw [decide_eq_false_iff_not]; omega
  have HIns : Hid (∀ wz vw vb, wz.ownsRow B 112 4 vw x.wrs.length (wrCells x.wrs) → wz.heap[vb]? = some (.cells #[.string key, .int .i64 v.kind, .int .u64 (v.bits : Int), .string v.text] 112 (0, 0)) → vw.ownBlock ≠ some vb → B ≤ wz.heap.size → Calls Tryz.prog 53 #[vw, .int .i64 (lk : Int), .slice (some ⟨vb, 0, none⟩) 1 1] wz (InsPostW wz B vw (insK x.wrs lk ⟨key, v⟩))) := fun wz vw vb a1 a2 a3 a4 =>
    insW_any x.wrs lk hle ⟨key, v⟩ B vb vw wz a1 a2 a3 a4 (by omega)
  clear s1 hI hK fa fl hle
  go_enter Tryz.func15, Tryz.ntmps15
  go_wp2_with (first
    | (go_at_call 35; refine (in_any hW.out 1 true q1).mono ?_; rintro e w1 ⟨rfl, rfl⟩)
    | (go_at_call 36; refine (calls_few hfk.out (key_any key _ hk)).mono ?_; rintro e w2 ⟨rfl, hb⟩; replace d0 := keep hb d0; replace d1 := keep hb d1; replace d2 := keep hb d2)
    | (go_at_call 52; refine (HF.out _ hb).mono ?_; rintro e w3 ⟨rfl, hb3⟩; have hb4 := Lib.hid (keepB hb hb3); replace d0 := keep hb3 d0; replace d1 := keep hb3 d1; replace d2 := keep hb3 d2)
    | (go_at_call 38; refine (HSe.out _ (CliAt.later hW.out hb4.out)).mono ?_; rintro e w5 ⟨rfl, hb5⟩; have hb6 := Lib.hid (keepB hb4.out hb5); replace d0 := keep hb5 d0; replace d1 := keep hb5 d1; replace d2 := keep hb5 d2; obtain ⟨vr, vw, va, vk, h5⟩ := CliAt.later hW.out hb6.out; obtain ⟨_, _, _, _, _, _, _, _, _, c9, _⟩ := h5.cs; obtain ⟨A9, cap9, e9, _⟩ := own_wrs h5.roww; subst e9; have f9 := h5.fz 9; have H5 := Lib.hid h5; clear h5))
  have hBW := HB.size
  have hd6 : Below w5.heap.size w5 (w5.alloc (.cells #[.string key, .int .i64 v.kind, .int .u64 (v.bits : Int), .string v.text] 112)).drew := below_drew (below1 _ _)
  have H6 := Lib.hid (H5.out.later hd6)
  have hr6 : (w5.alloc (.cells #[.string key, .int .i64 v.kind, .int .u64 (v.bits : Int), .string v.text] 112)).drew.heap[w5.heap.size]? = some (.cells #[.string key, .int .i64 v.kind, .int .u64 (v.bits : Int), .string v.text] 112 (0, 0)) := heap_alloc_new w5 _
  have nO : Hid (¬ O w.heap.size) := fun e => by have := (hlo.out _ e).2; omega
  have hsz5 := hb6.out.size
  have hne6 : Hid ((Value.slice A9 x.wrs.length cap9).ownBlock ≠ some w5.heap.size) := fun e => by have := (hlo.out _ (H5.out.miw _ e).1).2; omega
  have hB6 := Lib.hid (Nat.le_trans hB (Nat.le_trans hBW (Nat.le_trans hsz5 hd6.size)))
  have j0 := keep hd6 d0
  have j1 := keep hd6 d1
  have j2 := keep hd6 d2
  have j9 := keep hd6 c9
  go_region_law (first
      | (go_simp; go_at_call 53; refine (HIns.out _ _ _ H6.out.roww hr6 hne6.out hB6.out).mono ?_; rintro e w7 ⟨v7, rfl, hO7, hg7, hv7⟩; obtain ⟨A7, c7, rfl⟩ := own_form hO7; obtain ⟨i9, fi9⟩ := CliIn.cellw H6.out hg7; have ho7 : Out O _ w7 := Out.of_grown hg7 (fun k e => (H6.out.miw k e).1); have i0 := ho7.cell j0 nO.out; have i1 := ho7.cell j1 nO.out; have i2 := ho7.cell j2 nO.out; have ho8 : Out O _ (w7.setCell ⟨p, 9, none⟩ (.slice A7 (insK x.wrs lk ⟨key, v⟩).length c7)) := out_p H6.out.hp ho7; have k0 := ho8.cell j0 nO.out; have k1 := ho8.cell j1 nO.out; have k2 := ho8.cell j2 nO.out; have hG7 := Lib.hid (H6.out.groww hB6.out hg7 hO7 (fun g hg => hv7.elim (fun e => .inl (e ▸ hg)) (fun ⟨g', e1, e2⟩ => .inr (by rw [hg] at e1; cases e1; exact e2)))); replace ho8 := Lib.hid ho8; replace hg7 := Lib.hid hg7; clear hO7 hv7))
  all_goals
    go_wp2
    go_ret
    rw [HR.out.1, HR.out.2]
    have z5 := hsz5
    have z6 := hd6.size
    have z8 : (w7.setCell ⟨p, 9, none⟩ (.slice A7 (insK x.wrs lk ⟨key, v⟩).length c7)).heap.size = w7.heap.size := by simp [World.setCell]
    have hF := ((Out.of_below (keepB HB (keepB hb6.out hd6)) : Out O w _).trans' ho8.out)
    refine ⟨rfl, ⟨_, _, _, _, hG7.out.mono (fun k hk => ?_) (fun k hk => ?_)⟩, hF⟩
    · exact hk.elim .inl (fun q => .inr ⟨by omega, by rw [z8]; exact q.2⟩)
    · exact hk.elim (fun q => ⟨(hlo.out k q).1, Nat.lt_of_lt_of_le (hlo.out k q).2 hF.size⟩) (fun q => ⟨by omega, q.2⟩)
end
end Go.Proofs.YtjgloipgnnigmaaGreatDoor
/- How the reference's client lies in memory: one block of fifteen cells and three rows of its own; its keys are a row that nothing changes. -/
namespace Go.Proofs.YtjgloipgnnigmaaGreatDoor
open Go.RowKit

structure AskR where
  n : Int
  g : Nat
  key : ByteArray
  st : Nat
  op : Bool
def noAskR : AskR := ⟨0, 0, noStr, 0, false⟩
instance : Inhabited AskR := ⟨noAskR⟩
def AskR.vs (a : AskR) : List Value := [.int .i64 a.n, .int .i64 (a.g : Int), .string a.key, .int .u64 (a.st : Int), .bool a.op]
def askRCells (l : List AskR) : List Value := l.flatMap AskR.vs
theorem askRCells_snoc (l : List AskR) (a : AskR) : askRCells (l ++ [a]) = askRCells l ++ [.int .i64 a.n, .int .i64 (a.g : Int), .string a.key, .int .u64 (a.st : Int), .bool a.op] := by simp [askRCells, AskR.vs]
theorem askRCells_len : ∀ l : List AskR, (askRCells l).length = l.length * 5
  | [] => rfl
  | x :: l => by have := askRCells_len l; simp [askRCells, AskR.vs] at *; omega
theorem askRCells_at : ∀ (l : List AskR) (i : Nat), i < l.length → (askRCells l)[i * 5]? = some (.int .i64 (l.getD i noAskR).n) ∧ (askRCells l)[i * 5 + 1]? = some (.int .i64 ((l.getD i noAskR).g : Int)) ∧ (askRCells l)[i * 5 + 2]? = some (.string (l.getD i noAskR).key) ∧ (askRCells l)[i * 5 + 3]? = some (.int .u64 ((l.getD i noAskR).st : Int)) ∧ (askRCells l)[i * 5 + 4]? = some (.bool (l.getD i noAskR).op)
  | [], i, h => by simp at h
  | x :: l, 0, _ => by simp [askRCells, AskR.vs]
  | x :: l, i + 1, h => by
    have := askRCells_at l i (by simpa using h)
    rw [show (i + 1) * 5 = i * 5 + 5 by omega, show i * 5 + 5 + 1 = (i * 5 + 1) + 5 by omega, show i * 5 + 5 + 2 = (i * 5 + 2) + 5 by omega, show i * 5 + 5 + 3 = (i * 5 + 3) + 5 by omega, show i * 5 + 5 + 4 = (i * 5 + 4) + 5 by omega]
    simpa [askRCells, AskR.vs] using this
/-- A row of asks at an address. -/
def AsksR (w : World) (A : Option Addr) (l : List AskR) : Prop :=
  ∀ i, i < l.length → ∃ b off, A = some ⟨b, off, none⟩ ∧ w.cell? ⟨b, off + i * 5, none⟩ = some (.int .i64 (l.getD i noAskR).n) ∧ w.cell? ⟨b, off + i * 5 + 1, none⟩ = some (.int .i64 ((l.getD i noAskR).g : Int)) ∧
    w.cell? ⟨b, off + i * 5 + 2, none⟩ = some (.string (l.getD i noAskR).key) ∧ w.cell? ⟨b, off + i * 5 + 3, none⟩ = some (.int .u64 ((l.getD i noAskR).st : Int)) ∧ w.cell? ⟨b, off + i * 5 + 4, none⟩ = some (.bool (l.getD i noAskR).op) ∧ (∀ j, w.frozen? ⟨b, j, none⟩ = false)
theorem own_asksR {w : World} {base : Nat} {e : TypeId} {v : Value} {l : List AskR} (h : w.ownsRow base e 5 v l.length (askRCells l)) :
    ∃ (A : Option Addr) (cap : Nat), v = .slice A l.length cap ∧ l.length ≤ cap ∧ AsksR w A l ∧ FreshP base A := by
  rcases h.2 with ⟨rfl, h0⟩ | ⟨g, cap, cur, rfl, hfr, hh, hn, _, _, ht⟩
  · exact ⟨none, 0, by rw [h0], by omega, fun i hi => by omega, fun a e => by cases e⟩
  · refine ⟨some ⟨g, 0, none⟩, cap, rfl, hn, fun i hi => ⟨g, 0, rfl, ?_⟩, fun a e => by cases e; exact hfr⟩
    have hc : ∀ j, j < l.length * 5 → w.cell? ⟨g, 0 + j, none⟩ = (askRCells l)[j]? := by
      intro j hj
      have h1 : (cur.toList.take (l.length * 5))[j]? = (askRCells l)[j]? := by rw [ht]
      rw [List.getElem?_take_of_lt (by omega)] at h1
      simp only [World.cell?, hh, Nat.zero_add, Option.isSome_none, Bool.false_eq_true, if_false]
      rw [← Array.getElem?_toList, h1]
    have := askRCells_at l i hi
    exact ⟨by rw [hc _ (by omega)]; exact this.1, by rw [Nat.add_assoc, hc _ (by omega)]; exact this.2.1, by rw [Nat.add_assoc, hc _ (by omega)]; exact this.2.2.1, by rw [Nat.add_assoc, hc _ (by omega)]; exact this.2.2.2.1, by rw [Nat.add_assoc, hc _ (by omega)]; exact this.2.2.2.2, fun j => frozen_of_row w g j _ _ hh⟩
theorem info_askR : (Tryz.prog.info? 164).map (fun i => (i.zero, i.size, i.bytes)) = some (some (.agg #[.int .i64 0, .int .i64 0, .string ByteArray.empty, .int .u64 0, .bool false]), 5, 48) := by kernel_rfl
structure RcD where
  st : Int
  sq : Int
  num : Int
  tn : Int
  floor : Nat
  ts : Int
  tq : Int
  rds : List Rd
  wrs : List Wr
  asks : List AskR
  KA : Option Addr
  keys : List ByteArray
  kc : Nat
  stamp : Nat

structure RcIn (w : World) (B p : Nat) (K : CliK) (x : RcD) (vr vw va : Value) (O : Nat → Prop) : Prop where
  blk : w.heap[p]? = some (.cells #[.slice K.A K.c.reps.length K.ca, .slice K.B K.c.bnds.length K.cb, .int .i64 K.ses, .int .i64 x.st, .int .i64 x.sq, .int .i64 x.num, .int .i64 x.tn, .int .u64 (x.floor : Int), .int .i64 x.ts, .int .i64 x.tq, vr, vw, va, .slice x.KA x.keys.length x.kc, .int .u64 (x.stamp : Int)] 117 (0, 0))
  rowr : w.ownsRow B 75 2 vr x.rds.length (rdCells x.rds)
  roww : w.ownsRow B 112 4 vw x.wrs.length (wrCells x.wrs)
  rowa : w.ownsRow B 164 5 va x.asks.length (askRCells x.asks)
  hp : O p
  mir : ∀ g, vr.ownBlock = some g → O g ∧ g ≠ p
  miw : ∀ g, vw.ownBlock = some g → O g ∧ g ≠ p
  mia : ∀ g, va.ownBlock = some g → O g ∧ g ≠ p
  prw : Apart vr vw
  pra : Apart vr va
  pwa : Apart vw va
  lt : ∀ k, O k → B ≤ k ∧ k < w.heap.size
  ks : ∀ w', Below B w w' → StrsAt w' x.KA x.keys
def RcAt (w : World) (B p : Nat) (K : CliK) (x : RcD) (O : Nat → Prop) : Prop := ∃ vr vw va, RcIn w B p K x vr vw va O
section
variable {w w' : World} {B p : Nat} {K : CliK} {x : RcD} {vr vw va : Value} {O O' : Nat → Prop}
theorem RcIn.cs (h : RcIn w B p K x vr vw va O) : w.cell? ⟨p, 0, none⟩ = some (.slice K.A K.c.reps.length K.ca) ∧ w.cell? ⟨p, 1, none⟩ = some (.slice K.B K.c.bnds.length K.cb) ∧ w.cell? ⟨p, 2, none⟩ = some (.int .i64 K.ses) ∧ w.cell? ⟨p, 3, none⟩ = some (.int .i64 x.st) ∧ w.cell? ⟨p, 4, none⟩ = some (.int .i64 x.sq) ∧ w.cell? ⟨p, 5, none⟩ = some (.int .i64 x.num) ∧ w.cell? ⟨p, 6, none⟩ = some (.int .i64 x.tn) ∧ w.cell? ⟨p, 7, none⟩ = some (.int .u64 (x.floor : Int)) ∧ w.cell? ⟨p, 8, none⟩ = some (.int .i64 x.ts) ∧ w.cell? ⟨p, 9, none⟩ = some (.int .i64 x.tq) ∧ w.cell? ⟨p, 10, none⟩ = some (vr) ∧ w.cell? ⟨p, 11, none⟩ = some (vw) ∧ w.cell? ⟨p, 12, none⟩ = some (va) ∧ w.cell? ⟨p, 13, none⟩ = some (.slice x.KA x.keys.length x.kc) ∧ w.cell? ⟨p, 14, none⟩ = some (.int .u64 (x.stamp : Int)) := by
  refine ⟨?_, ?_, ?_, ?_, ?_, ?_, ?_, ?_, ?_, ?_, ?_, ?_, ?_, ?_, ?_⟩ <;> (rw [cell_of_row w p _ _ _ _ h.blk]; rfl)
theorem RcIn.fz (h : RcIn w B p K x vr vw va O) (j : Nat) : w.frozen? ⟨p, j, none⟩ = false := frozen_of_row w p j _ _ h.blk
theorem RcIn.hB (h : RcIn w B p K x vr vw va O) : B ≤ w.heap.size := Nat.le_of_lt (Nat.lt_of_le_of_lt (h.lt p h.hp).1 (h.lt p h.hp).2)
theorem RcIn.out (h : RcIn w B p K x vr vw va O) (hw : Out O' w w') (hd : ∀ k, O k → ¬ O' k) (hl : ∀ k, O' k → B ≤ k) : RcIn w' B p K x vr vw va O :=
  { h with blk := hw.obj h.blk (hd _ h.hp), rowr := hw.row h.rowr (fun g hg => hd g (h.mir g hg).1), roww := hw.row h.roww (fun g hg => hd g (h.miw g hg).1), rowa := hw.row h.rowa (fun g hg => hd g (h.mia g hg).1), ks := fun w2 hb => h.ks w2 ((hw.below h.hB hl).trans hb), lt := fun k hk => ⟨(h.lt k hk).1, Nat.lt_of_lt_of_le (h.lt k hk).2 hw.size⟩ }
theorem RcIn.later (h : RcIn w B p K x vr vw va O) (hb : Below w.heap.size w w') : RcIn w' B p K x vr vw va O := h.out (O' := fun _ => False) (Out.of_below hb) (fun _ _ h => h) (fun _ h => h.elim)
theorem RcIn.mono (h : RcIn w B p K x vr vw va O) (hs : ∀ k, O k → O' k) (hl : ∀ k, O' k → B ≤ k ∧ k < w.heap.size) : RcIn w B p K x vr vw va O' :=
  { h with hp := hs _ h.hp, mir := fun g hg => ⟨hs g (h.mir g hg).1, (h.mir g hg).2⟩, miw := fun g hg => ⟨hs g (h.miw g hg).1, (h.miw g hg).2⟩, mia := fun g hg => ⟨hs g (h.mia g hg).1, (h.mia g hg).2⟩, lt := hl }
theorem RcIn.widen (h : RcIn w' B p K x vr vw va O) (hl : ∀ k, O k → k < w.heap.size) (hB : B ≤ w.heap.size) : RcIn w' B p K x vr vw va (ext O w w') :=
  h.mono (fun k hk => .inl hk) (fun k hk => Or.elim hk (h.lt k) (fun e => ⟨by omega, e.2⟩))
theorem RcAt.out (h : RcAt w B p K x O) (hw : Out O' w w') (hd : ∀ k, O k → ¬ O' k) (hl : ∀ k, O' k → B ≤ k) : RcAt w' B p K x O := by
  obtain ⟨vr, vw, va, h⟩ := h
  exact ⟨vr, vw, va, h.out hw hd hl⟩
theorem RcAt.later (h : RcAt w B p K x O) (hb : Below w.heap.size w w') : RcAt w' B p K x O := h.out (O' := fun _ => False) (Out.of_below hb) (fun _ _ h => h) (fun _ h => h.elim)
theorem RcAt.lt' (h : RcAt w B p K x O) : ∀ k, O k → B ≤ k ∧ k < w.heap.size := by
  obtain ⟨vr, vw, va, h⟩ := h
  exact h.lt
theorem RcAt.hB (h : RcAt w B p K x O) : B ≤ w.heap.size := by
  obtain ⟨vr, vw, va, h⟩ := h
  exact h.hB
theorem RcAt.stay (h : RcAt w B p K x O) (hb : Below w.heap.size w w') : RcAt w' B p K x (ext O w w') := by
  obtain ⟨vr, vw, va, h⟩ := h
  exact ⟨vr, vw, va, (h.later hb).widen (fun k hk => (h.lt k hk).2) h.hB⟩
theorem RcIn.s3 (h : RcIn w B p K x vr vw va O) (n : Int) : RcIn (w.setCell ⟨p, 3, none⟩ (.int .i64 n)) B p K { x with st := n } vr vw va O :=
  { h with blk := by simpa using blk_set21 (j := 3) (.int .i64 n) h.blk, rowr := (out_set21 w p _ _).row h.rowr (fun g hg e => (h.mir g hg).2 e), roww := (out_set21 w p _ _).row h.roww (fun g hg e => (h.miw g hg).2 e), rowa := (out_set21 w p _ _).row h.rowa (fun g hg e => (h.mia g hg).2 e), ks := fun w2 hb => h.ks w2 (((out_set21 w p 3 _).below h.hB (fun k e => by subst e; exact (h.lt _ h.hp).1)).trans hb), lt := fun k hk => ⟨(h.lt k hk).1, Nat.lt_of_lt_of_le (h.lt k hk).2 (out_set21 w p 3 _).size⟩ }
theorem RcIn.s4 (h : RcIn w B p K x vr vw va O) (n : Int) : RcIn (w.setCell ⟨p, 4, none⟩ (.int .i64 n)) B p K { x with sq := n } vr vw va O :=
  { h with blk := by simpa using blk_set21 (j := 4) (.int .i64 n) h.blk, rowr := (out_set21 w p _ _).row h.rowr (fun g hg e => (h.mir g hg).2 e), roww := (out_set21 w p _ _).row h.roww (fun g hg e => (h.miw g hg).2 e), rowa := (out_set21 w p _ _).row h.rowa (fun g hg e => (h.mia g hg).2 e), ks := fun w2 hb => h.ks w2 (((out_set21 w p 4 _).below h.hB (fun k e => by subst e; exact (h.lt _ h.hp).1)).trans hb), lt := fun k hk => ⟨(h.lt k hk).1, Nat.lt_of_lt_of_le (h.lt k hk).2 (out_set21 w p 4 _).size⟩ }
theorem RcIn.s5 (h : RcIn w B p K x vr vw va O) (n : Int) : RcIn (w.setCell ⟨p, 5, none⟩ (.int .i64 n)) B p K { x with num := n } vr vw va O :=
  { h with blk := by simpa using blk_set21 (j := 5) (.int .i64 n) h.blk, rowr := (out_set21 w p _ _).row h.rowr (fun g hg e => (h.mir g hg).2 e), roww := (out_set21 w p _ _).row h.roww (fun g hg e => (h.miw g hg).2 e), rowa := (out_set21 w p _ _).row h.rowa (fun g hg e => (h.mia g hg).2 e), ks := fun w2 hb => h.ks w2 (((out_set21 w p 5 _).below h.hB (fun k e => by subst e; exact (h.lt _ h.hp).1)).trans hb), lt := fun k hk => ⟨(h.lt k hk).1, Nat.lt_of_lt_of_le (h.lt k hk).2 (out_set21 w p 5 _).size⟩ }
theorem RcIn.s6 (h : RcIn w B p K x vr vw va O) (n : Int) : RcIn (w.setCell ⟨p, 6, none⟩ (.int .i64 n)) B p K { x with tn := n } vr vw va O :=
  { h with blk := by simpa using blk_set21 (j := 6) (.int .i64 n) h.blk, rowr := (out_set21 w p _ _).row h.rowr (fun g hg e => (h.mir g hg).2 e), roww := (out_set21 w p _ _).row h.roww (fun g hg e => (h.miw g hg).2 e), rowa := (out_set21 w p _ _).row h.rowa (fun g hg e => (h.mia g hg).2 e), ks := fun w2 hb => h.ks w2 (((out_set21 w p 6 _).below h.hB (fun k e => by subst e; exact (h.lt _ h.hp).1)).trans hb), lt := fun k hk => ⟨(h.lt k hk).1, Nat.lt_of_lt_of_le (h.lt k hk).2 (out_set21 w p 6 _).size⟩ }
theorem RcIn.s7 (h : RcIn w B p K x vr vw va O) (n : Nat) : RcIn (w.setCell ⟨p, 7, none⟩ (.int .u64 (n : Int))) B p K { x with floor := n } vr vw va O :=
  { h with blk := by simpa using blk_set21 (j := 7) (.int .u64 (n : Int)) h.blk, rowr := (out_set21 w p _ _).row h.rowr (fun g hg e => (h.mir g hg).2 e), roww := (out_set21 w p _ _).row h.roww (fun g hg e => (h.miw g hg).2 e), rowa := (out_set21 w p _ _).row h.rowa (fun g hg e => (h.mia g hg).2 e), ks := fun w2 hb => h.ks w2 (((out_set21 w p 7 _).below h.hB (fun k e => by subst e; exact (h.lt _ h.hp).1)).trans hb), lt := fun k hk => ⟨(h.lt k hk).1, Nat.lt_of_lt_of_le (h.lt k hk).2 (out_set21 w p 7 _).size⟩ }
theorem RcIn.s8 (h : RcIn w B p K x vr vw va O) (n : Int) : RcIn (w.setCell ⟨p, 8, none⟩ (.int .i64 n)) B p K { x with ts := n } vr vw va O :=
  { h with blk := by simpa using blk_set21 (j := 8) (.int .i64 n) h.blk, rowr := (out_set21 w p _ _).row h.rowr (fun g hg e => (h.mir g hg).2 e), roww := (out_set21 w p _ _).row h.roww (fun g hg e => (h.miw g hg).2 e), rowa := (out_set21 w p _ _).row h.rowa (fun g hg e => (h.mia g hg).2 e), ks := fun w2 hb => h.ks w2 (((out_set21 w p 8 _).below h.hB (fun k e => by subst e; exact (h.lt _ h.hp).1)).trans hb), lt := fun k hk => ⟨(h.lt k hk).1, Nat.lt_of_lt_of_le (h.lt k hk).2 (out_set21 w p 8 _).size⟩ }
theorem RcIn.s9 (h : RcIn w B p K x vr vw va O) (n : Int) : RcIn (w.setCell ⟨p, 9, none⟩ (.int .i64 n)) B p K { x with tq := n } vr vw va O :=
  { h with blk := by simpa using blk_set21 (j := 9) (.int .i64 n) h.blk, rowr := (out_set21 w p _ _).row h.rowr (fun g hg e => (h.mir g hg).2 e), roww := (out_set21 w p _ _).row h.roww (fun g hg e => (h.miw g hg).2 e), rowa := (out_set21 w p _ _).row h.rowa (fun g hg e => (h.mia g hg).2 e), ks := fun w2 hb => h.ks w2 (((out_set21 w p 9 _).below h.hB (fun k e => by subst e; exact (h.lt _ h.hp).1)).trans hb), lt := fun k hk => ⟨(h.lt k hk).1, Nat.lt_of_lt_of_le (h.lt k hk).2 (out_set21 w p 9 _).size⟩ }
theorem RcIn.s14 (h : RcIn w B p K x vr vw va O) (n : Nat) : RcIn (w.setCell ⟨p, 14, none⟩ (.int .u64 (n : Int))) B p K { x with stamp := n } vr vw va O :=
  { h with blk := by simpa using blk_set21 (j := 14) (.int .u64 (n : Int)) h.blk, rowr := (out_set21 w p _ _).row h.rowr (fun g hg e => (h.mir g hg).2 e), roww := (out_set21 w p _ _).row h.roww (fun g hg e => (h.miw g hg).2 e), rowa := (out_set21 w p _ _).row h.rowa (fun g hg e => (h.mia g hg).2 e), ks := fun w2 hb => h.ks w2 (((out_set21 w p 14 _).below h.hB (fun k e => by subst e; exact (h.lt _ h.hp).1)).trans hb), lt := fun k hk => ⟨(h.lt k hk).1, Nat.lt_of_lt_of_le (h.lt k hk).2 (out_set21 w p 14 _).size⟩ }
theorem RcIn.setk (h : RcIn w B p K x vr vw va O) (KA : Option Addr) (keys : List ByteArray) (kc : Nat) (hk : ∀ w', Below B w w' → StrsAt w' KA keys) : RcIn (w.setCell ⟨p, 13, none⟩ (.slice KA keys.length kc)) B p K { x with KA := KA, keys := keys, kc := kc } vr vw va O :=
  { h with blk := by simpa using blk_set21 (j := 13) (.slice KA keys.length kc) h.blk, rowr := (out_set21 w p _ _).row h.rowr (fun g hg e => (h.mir g hg).2 e), roww := (out_set21 w p _ _).row h.roww (fun g hg e => (h.miw g hg).2 e), rowa := (out_set21 w p _ _).row h.rowa (fun g hg e => (h.mia g hg).2 e), ks := fun w2 hb => hk w2 (((out_set21 w p 13 _).below h.hB (fun k e => by subst e; exact (h.lt _ h.hp).1)).trans hb), lt := fun k hk => ⟨(h.lt k hk).1, Nat.lt_of_lt_of_le (h.lt k hk).2 (out_set21 w p 13 _).size⟩ }
theorem RcIn.nilk (h : RcIn w B p K x vr vw va O) : RcIn (w.setCell ⟨p, 13, none⟩ (.slice none 0 0)) B p K { x with KA := none, keys := [], kc := 0 } vr vw va O :=
  h.setk none [] 0 (fun _ _ i hi => absurd hi (Nat.not_lt_zero _))
/-- The row of rds is another one: one of the call's own, or the one that was there. -/
theorem RcIn.setr (h : RcIn w B p K x vr vw va O) {u : Value} {l : List Rd} (hr : w.ownsRow B 75 2 u l.length (rdCells l)) (hm : ∀ g, u.ownBlock = some g → O g ∧ g ≠ p)
    (aw : Apart u vw) (aa : Apart u va) : RcIn (w.setCell ⟨p, 10, none⟩ u) B p K { x with rds := l } u vw va O :=
  { h with blk := by simpa using blk_set21 (j := 10) u h.blk, rowr := (out_set21 w p _ _).row hr (fun g hg e => (hm g hg).2 e), roww := (out_set21 w p _ _).row h.roww (fun g hg e => (h.miw g hg).2 e), rowa := (out_set21 w p _ _).row h.rowa (fun g hg e => (h.mia g hg).2 e), mir := hm, prw := aw, pra := aa, ks := fun w2 hb => h.ks w2 (((out_set21 w p 10 _).below h.hB (fun k e => by subst e; exact (h.lt _ h.hp).1)).trans hb), lt := fun k hk => ⟨(h.lt k hk).1, Nat.lt_of_lt_of_le (h.lt k hk).2 (out_set21 w p 10 _).size⟩ }
theorem RcIn.nilr (h : RcIn w B p K x vr vw va O) : RcIn (w.setCell ⟨p, 10, none⟩ (.slice none 0 0)) B p K { x with rds := [] } (.slice none 0 0) vw va O :=
  h.setr (l := []) (own_nil _ _ _ _) (fun g hg => by cases hg) (Apart.nil _) (Apart.nil _)
/-- Behind an append to the row of rds, or with a new row. -/
theorem RcIn.growr (h : RcIn w B p K x vr vw va O) {w1 : World} (hg : Out (fun k => vr.ownBlock = some k) w w1) {u : Value} {l : List Rd} (hr : w1.ownsRow B 75 2 u l.length (rdCells l)) (hu : ∀ g, u.ownBlock = some g → vr.ownBlock = some g ∨ w.heap.size ≤ g) :
    RcIn (w1.setCell ⟨p, 10, none⟩ u) B p K { x with rds := l } u vw va (ext O w w1) := by
  have hout := hg
  have hB := h.hB
  have hp := h.lt p h.hp
  have hm : ∀ g, u.ownBlock = some g → ext O w w1 g ∧ g ≠ p := fun g hg' => by
    have hl := (hr.lt g hg').2
    rcases hu g hg' with e | e
    · exact ⟨.inl (h.mir g e).1, (h.mir g e).2⟩
    · exact ⟨.inr ⟨e, hl⟩, by omega⟩
  have aw : Apart u vw := fun g hg' e => by
    rcases hu g hg' with q | q
    · exact h.prw g q e
    · have := (h.lt g (h.miw g e).1).2; omega
  have aa : Apart u va := fun g hg' e => by
    rcases hu g hg' with q | q
    · exact h.pra g q e
    · have := (h.lt g (h.mia g e).1).2; omega
  have hblk : w1.heap[p]? = some _ := hout.obj h.blk (fun e => (h.mir p e).2 rfl)
  have rw := hout.row h.roww (fun g hg' e => h.prw g e hg')
  have ra := hout.row h.rowa (fun g hg' e => h.pra g e hg')
  have ho := out_set21 w1 p 10 u
  have hbw : Below B w (w1.setCell ⟨p, 10, none⟩ u) := (hout.below hB (fun k e => (h.lt k (h.mir k e).1).1)).trans (ho.below (Nat.le_trans hB hg.size) (fun k e => by subst e; exact hp.1))
  exact { blk := by simpa using blk_set21 (j := 10) u hblk, rowr := ho.row hr (fun g hg' e => (hm g hg').2 e), roww := ho.row rw (fun g hg' e => (h.miw g hg').2 e), rowa := ho.row ra (fun g hg' e => (h.mia g hg').2 e), hp := .inl h.hp, mir := hm, miw := fun g hg' => ⟨.inl (h.miw g hg').1, (h.miw g hg').2⟩, mia := fun g hg' => ⟨.inl (h.mia g hg').1, (h.mia g hg').2⟩, prw := aw, pra := aa, pwa := h.pwa, ks := fun w2 hb => h.ks w2 (hbw.trans hb), lt := fun k hk' => Or.elim hk' (fun q => ⟨(h.lt k q).1, by have := (h.lt k q).2; have := hg.size; have := ho.size; omega⟩) (fun q => ⟨by omega, by have := ho.size; omega⟩) }
/-- The row of wrs is another one: one of the call's own, or the one that was there. -/
theorem RcIn.setw (h : RcIn w B p K x vr vw va O) {u : Value} {l : List Wr} (hr : w.ownsRow B 112 4 u l.length (wrCells l)) (hm : ∀ g, u.ownBlock = some g → O g ∧ g ≠ p)
    (ar : Apart u vr) (aa : Apart u va) : RcIn (w.setCell ⟨p, 11, none⟩ u) B p K { x with wrs := l } vr u va O :=
  { h with blk := by simpa using blk_set21 (j := 11) u h.blk, roww := (out_set21 w p _ _).row hr (fun g hg e => (hm g hg).2 e), rowr := (out_set21 w p _ _).row h.rowr (fun g hg e => (h.mir g hg).2 e), rowa := (out_set21 w p _ _).row h.rowa (fun g hg e => (h.mia g hg).2 e), miw := hm, prw := ar.symm, pwa := aa, ks := fun w2 hb => h.ks w2 (((out_set21 w p 11 _).below h.hB (fun k e => by subst e; exact (h.lt _ h.hp).1)).trans hb), lt := fun k hk => ⟨(h.lt k hk).1, Nat.lt_of_lt_of_le (h.lt k hk).2 (out_set21 w p 11 _).size⟩ }
theorem RcIn.nilw (h : RcIn w B p K x vr vw va O) : RcIn (w.setCell ⟨p, 11, none⟩ (.slice none 0 0)) B p K { x with wrs := [] } vr (.slice none 0 0) va O :=
  h.setw (l := []) (own_nil _ _ _ _) (fun g hg => by cases hg) (Apart.nil _) (Apart.nil _)
/-- Behind an append to the row of wrs, or with a new row. -/
theorem RcIn.groww (h : RcIn w B p K x vr vw va O) {w1 : World} (hg : Out (fun k => vw.ownBlock = some k) w w1) {u : Value} {l : List Wr} (hr : w1.ownsRow B 112 4 u l.length (wrCells l)) (hu : ∀ g, u.ownBlock = some g → vw.ownBlock = some g ∨ w.heap.size ≤ g) :
    RcIn (w1.setCell ⟨p, 11, none⟩ u) B p K { x with wrs := l } vr u va (ext O w w1) := by
  have hout := hg
  have hB := h.hB
  have hp := h.lt p h.hp
  have hm : ∀ g, u.ownBlock = some g → ext O w w1 g ∧ g ≠ p := fun g hg' => by
    have hl := (hr.lt g hg').2
    rcases hu g hg' with e | e
    · exact ⟨.inl (h.miw g e).1, (h.miw g e).2⟩
    · exact ⟨.inr ⟨e, hl⟩, by omega⟩
  have ar : Apart u vr := fun g hg' e => by
    rcases hu g hg' with q | q
    · exact h.prw.symm g q e
    · have := (h.lt g (h.mir g e).1).2; omega
  have aa : Apart u va := fun g hg' e => by
    rcases hu g hg' with q | q
    · exact h.pwa g q e
    · have := (h.lt g (h.mia g e).1).2; omega
  have hblk : w1.heap[p]? = some _ := hout.obj h.blk (fun e => (h.miw p e).2 rfl)
  have rr := hout.row h.rowr (fun g hg' e => h.prw.symm g e hg')
  have ra := hout.row h.rowa (fun g hg' e => h.pwa g e hg')
  have ho := out_set21 w1 p 11 u
  have hbw : Below B w (w1.setCell ⟨p, 11, none⟩ u) := (hout.below hB (fun k e => (h.lt k (h.miw k e).1).1)).trans (ho.below (Nat.le_trans hB hg.size) (fun k e => by subst e; exact hp.1))
  exact { blk := by simpa using blk_set21 (j := 11) u hblk, roww := ho.row hr (fun g hg' e => (hm g hg').2 e), rowr := ho.row rr (fun g hg' e => (h.mir g hg').2 e), rowa := ho.row ra (fun g hg' e => (h.mia g hg').2 e), hp := .inl h.hp, miw := hm, mir := fun g hg' => ⟨.inl (h.mir g hg').1, (h.mir g hg').2⟩, mia := fun g hg' => ⟨.inl (h.mia g hg').1, (h.mia g hg').2⟩, prw := ar.symm, pwa := aa, pra := h.pra, ks := fun w2 hb => h.ks w2 (hbw.trans hb), lt := fun k hk' => Or.elim hk' (fun q => ⟨(h.lt k q).1, by have := (h.lt k q).2; have := hg.size; have := ho.size; omega⟩) (fun q => ⟨by omega, by have := ho.size; omega⟩) }
/-- The row of asks is another one: one of the call's own, or the one that was there. -/
theorem RcIn.seta (h : RcIn w B p K x vr vw va O) {u : Value} {l : List AskR} (hr : w.ownsRow B 164 5 u l.length (askRCells l)) (hm : ∀ g, u.ownBlock = some g → O g ∧ g ≠ p)
    (ar : Apart u vr) (aw : Apart u vw) : RcIn (w.setCell ⟨p, 12, none⟩ u) B p K { x with asks := l } vr vw u O :=
  { h with blk := by simpa using blk_set21 (j := 12) u h.blk, rowa := (out_set21 w p _ _).row hr (fun g hg e => (hm g hg).2 e), rowr := (out_set21 w p _ _).row h.rowr (fun g hg e => (h.mir g hg).2 e), roww := (out_set21 w p _ _).row h.roww (fun g hg e => (h.miw g hg).2 e), mia := hm, pra := ar.symm, pwa := aw.symm, ks := fun w2 hb => h.ks w2 (((out_set21 w p 12 _).below h.hB (fun k e => by subst e; exact (h.lt _ h.hp).1)).trans hb), lt := fun k hk => ⟨(h.lt k hk).1, Nat.lt_of_lt_of_le (h.lt k hk).2 (out_set21 w p 12 _).size⟩ }
theorem RcIn.nila (h : RcIn w B p K x vr vw va O) : RcIn (w.setCell ⟨p, 12, none⟩ (.slice none 0 0)) B p K { x with asks := [] } vr vw (.slice none 0 0) O :=
  h.seta (l := []) (own_nil _ _ _ _) (fun g hg => by cases hg) (Apart.nil _) (Apart.nil _)
/-- Behind an append to the row of asks, or with a new row. -/
theorem RcIn.growa (h : RcIn w B p K x vr vw va O) {w1 : World} (hg : Out (fun k => va.ownBlock = some k) w w1) {u : Value} {l : List AskR} (hr : w1.ownsRow B 164 5 u l.length (askRCells l)) (hu : ∀ g, u.ownBlock = some g → va.ownBlock = some g ∨ w.heap.size ≤ g) :
    RcIn (w1.setCell ⟨p, 12, none⟩ u) B p K { x with asks := l } vr vw u (ext O w w1) := by
  have hout := hg
  have hB := h.hB
  have hp := h.lt p h.hp
  have hm : ∀ g, u.ownBlock = some g → ext O w w1 g ∧ g ≠ p := fun g hg' => by
    have hl := (hr.lt g hg').2
    rcases hu g hg' with e | e
    · exact ⟨.inl (h.mia g e).1, (h.mia g e).2⟩
    · exact ⟨.inr ⟨e, hl⟩, by omega⟩
  have ar : Apart u vr := fun g hg' e => by
    rcases hu g hg' with q | q
    · exact h.pra.symm g q e
    · have := (h.lt g (h.mir g e).1).2; omega
  have aw : Apart u vw := fun g hg' e => by
    rcases hu g hg' with q | q
    · exact h.pwa.symm g q e
    · have := (h.lt g (h.miw g e).1).2; omega
  have hblk : w1.heap[p]? = some _ := hout.obj h.blk (fun e => (h.mia p e).2 rfl)
  have rr := hout.row h.rowr (fun g hg' e => h.pra.symm g e hg')
  have rw := hout.row h.roww (fun g hg' e => h.pwa.symm g e hg')
  have ho := out_set21 w1 p 12 u
  have hbw : Below B w (w1.setCell ⟨p, 12, none⟩ u) := (hout.below hB (fun k e => (h.lt k (h.mia k e).1).1)).trans (ho.below (Nat.le_trans hB hg.size) (fun k e => by subst e; exact hp.1))
  exact { blk := by simpa using blk_set21 (j := 12) u hblk, rowa := ho.row hr (fun g hg' e => (hm g hg').2 e), rowr := ho.row rr (fun g hg' e => (h.mir g hg').2 e), roww := ho.row rw (fun g hg' e => (h.miw g hg').2 e), hp := .inl h.hp, mia := hm, mir := fun g hg' => ⟨.inl (h.mir g hg').1, (h.mir g hg').2⟩, miw := fun g hg' => ⟨.inl (h.miw g hg').1, (h.miw g hg').2⟩, pra := ar.symm, pwa := aw.symm, prw := h.prw, ks := fun w2 hb => h.ks w2 (hbw.trans hb), lt := fun k hk' => Or.elim hk' (fun q => ⟨(h.lt k q).1, by have := (h.lt k q).2; have := hg.size; have := ho.size; omega⟩) (fun q => ⟨by omega, by have := ho.size; omega⟩) }
end
end Go.Proofs.YtjgloipgnnigmaaGreatDoor
/- The reference's client, loosely: rest, Begin, Abort, open, over: they end, and write in its own blocks. -/
namespace Go.Proofs.YtjgloipgnnigmaaGreatDoor
open Go.RowKit Go.Shelf

/-- What a reference's client keeps: bounds on its rows. -/
structure RcOK (c : Cfg) (n : Nat) (y : RcD) : Prop where
  an : y.asks.length ≤ 20 * n
  rn : y.rds.length ≤ n
  wn : y.wrs.length ≤ n
  ag : ∀ a ∈ y.asks, a.g < c.reps.length
  ak : ∀ a ∈ y.asks, a.key.size ≤ 9223372036854775807
  rk : ∀ r ∈ y.rds, r.key.size ≤ 9223372036854775807
  wk : ∀ r ∈ y.wrs, r.key.size ≤ 9223372036854775807 ∧ r.val.Good
  kn : y.keys.length ≤ 10
  kk : ∀ k ∈ y.keys, k.size ≤ 9223372036854775807
def rcRest (x : RcD) : RcD := { x with st := 0, ts := 0, tq := 0, rds := [], wrs := [], asks := [], KA := none, keys := [], kc := 0, stamp := 0 }
theorem RcOK.rest {c : Cfg} {x : RcD} (m : Nat) : RcOK c m (rcRest x) :=
  ⟨Nat.zero_le _, Nat.zero_le _, Nat.zero_le _, fun _ h => (by cases h), fun _ h => (by cases h), fun _ h => (by cases h), fun _ h => (by cases h), Nat.zero_le _, fun _ h => (by cases h)⟩
theorem RcOK.same {c : Cfg} {n m : Nat} {x y : RcD} (h : RcOK c n x) (hm : n ≤ m) (h1 : y.rds = x.rds) (h2 : y.wrs = x.wrs) (h3 : y.asks = x.asks) (h4 : y.keys = x.keys) : RcOK c m y := by
  refine ⟨?_, ?_, ?_, ?_, ?_, ?_, ?_, ?_, ?_⟩
  · rw [h3]; have := h.an; omega
  · rw [h1]; have := h.rn; omega
  · rw [h2]; have := h.wn; omega
  · rw [h3]; exact h.ag
  · rw [h3]; exact h.ak
  · rw [h1]; exact h.rk
  · rw [h2]; exact h.wk
  · rw [h4]; exact h.kn
  · rw [h4]; exact h.kk
/-- A method's end: what it gives, the client behind it. -/
def RcEnd (w : World) (B p : Nat) (K : CliK) (m : Nat) (O : Nat → Prop) (w' : World) : Prop := (∃ y, RcOK K.c m y ∧ RcAt w' B p K y (ext O w w')) ∧ Out O w w'
def RcPost (w : World) (B p : Nat) (K : CliK) (m : Nat) (O : Nat → Prop) (V : Value → World → Prop) (e : Ending) (w' : World) : Prop := ∃ v, e = .returned v ∧ V v w' ∧ RcEnd w B p K m O w'
def isErr (v : Value) (_ : World) : Prop := ∃ z : Int, v = .int .i64 z
section
variable {w w' : World} {B p n : Nat} {K : CliK} {x : RcD} {O : Nat → Prop} {vr vw va : Value}
theorem rc_out {v : Value} {j : Nat} (hp : O p) (h : Out O w w') : Out O w (w'.setCell ⟨p, j, none⟩ v) :=
  h.trans' ((out_set21 w' p j v).mono fun k hk => by rw [hk]; exact hp)
theorem RcAt.end_ (h : RcAt w B p K x O) (hx : RcOK K.c n x) {m : Nat} (hm : n ≤ m) (hb : Below w.heap.size w w') : RcEnd w B p K m O w' :=
  ⟨⟨x, hx.same hm rfl rfl rfl rfl, h.stay hb⟩, Out.of_below hb⟩
theorem RcIn.sT (h : RcIn w B p K x vr vw va O) (a b : Int) : RcIn ((((w.setCell ⟨p, 8, none⟩ (.int .i64 a)).setCell ⟨p, 9, none⟩ (.int .i64 b)).setCell ⟨p, 10, none⟩ (.slice none 0 0)).setCell ⟨p, 11, none⟩ (.slice none 0 0)) B p K { x with ts := a, tq := b, rds := [], wrs := [] } (.slice none 0 0) (.slice none 0 0) va O :=
  (((h.s8 a).s9 b).nilr).nilw
set_option maxHeartbeats 1000000 in
theorem rcRest_any (h : RcAt w B p K x O) : Calls Tryz.prog 112 #[.pointer (some ⟨p, 0, none⟩)] w fun e w' => e = .returned (.tuple #[]) ∧ RcAt w' B p K (rcRest x) (ext O w w') ∧ Out O w w' := by
  obtain ⟨vr, vw, va, h⟩ := h
  obtain ⟨c0, c1, c2, c3, c4, c5, c6, c7, c8, c9, c10, c11, c12, c13, c14⟩ := h.cs
  have f3 := h.fz 3
  have f8 := h.fz 8
  have f9 := h.fz 9
  have f10 := h.fz 10
  have f11 := h.fz 11
  have f12 := h.fz 12
  have f13 := h.fz 13
  have f14 := h.fz 14
  go_enter Tryz.func112, Tryz.ntmps112
  go_wp2
  go_end0
  have h1 := ((((h.s3 0).sT 0 0).nila).nilk).s14 0
  exact ⟨rfl, ⟨_, _, _, h1.widen (fun k hk => (h.lt k hk).2) h.hB⟩, rc_out h.hp (rc_out h.hp (rc_out h.hp (rc_out h.hp (rc_out h.hp (rc_out h.hp (rc_out h.hp (rc_out h.hp (Out.refl _ _))))))))⟩
set_option maxHeartbeats 1000000 in
theorem rcAbort_any (h : RcAt w B p K x O) (hx : RcOK K.c n x) : Calls Tryz.prog 61 #[.pointer (some ⟨p, 0, none⟩)] w (RcPost w B p K (n + 1) O isErr) := by
  have h0 := h
  obtain ⟨vr, vw, va, h⟩ := h
  obtain ⟨c0, c1, c2, c3, c4, c5, c6, c7, c8, c9, c10, c11, c12, c13, c14⟩ := h.cs
  go_enter Tryz.func61, Tryz.ntmps61
  go_wp2_with (go_at_call 112; refine (rcRest_any h0).mono ?_; rintro e w1 ⟨rfl, hA, ho⟩)
  all_goals
    go_ret
    first
      | exact ⟨_, rfl, ⟨_, rfl⟩, ⟨_, RcOK.rest _, hA⟩, ho⟩
      | exact ⟨_, rfl, ⟨_, rfl⟩, h0.end_ hx (Nat.le_succ _) (Below.refl _ _)⟩
set_option maxHeartbeats 2000000 in
theorem rcBegin_any (h : RcAt w B p K x O) (hx : RcOK K.c n x) : Calls Tryz.prog 57 #[.pointer (some ⟨p, 0, none⟩)] w (RcPost w B p K (n + 1) O isErr) := by
  have h0 := h
  obtain ⟨vr, vw, va, h⟩ := h
  obtain ⟨c0, c1, c2, c3, c4, c5, c6, c7, c8, c9, c10, c11, c12, c13, c14⟩ := h.cs
  have f3 := h.fz 3
  have f4 := h.fz 4
  have H := Lib.hid h
  obtain ⟨w1, e1⟩ : ∃ w1, (w.setCell ⟨p, 4, none⟩ (.int .i64 (wrap64 (x.sq + 1)))).setCell ⟨p, 3, none⟩ (.int .i64 1) = w1 := ⟨_, rfl⟩
  have h1 := (h.s4 (wrap64 (x.sq + 1))).s3 1
  rw [e1] at h1
  have ho1 : Out O w w1 := by rw [← e1]; exact rc_out h.hp (rc_out h.hp (Out.refl _ _))
  obtain ⟨_, _, d2, _, d4, _, _, _, d8, d9, d10, d11, _⟩ := h1.cs
  have g8 := h1.fz 8
  have g9 := h1.fz 9
  have g10 := h1.fz 10
  have g11 := h1.fz 11
  replace ho1 := Lib.hid ho1
  have H1 := Lib.hid h1
  clear h1 h
  go_enter Tryz.func57, Tryz.ntmps57
  go_wp2
  all_goals try (go_ret; exact ⟨_, rfl, ⟨_, rfl⟩, h0.end_ hx (Nat.le_succ _) (Below.refl _ _)⟩)
  go_region
  all_goals
    go_wp2
    go_ret
    have h2 := (H1.out.later (below_drew (Below.refl _ _))).sT K.ses (wrap64 (x.sq + 1))
    refine ⟨_, rfl, ⟨_, rfl⟩, ⟨_, ?_, _, _, _, h2.widen (fun k hk => (H.out.lt k hk).2) H.out.hB⟩, ?_⟩
    · exact ⟨(hx.same (Nat.le_succ n) rfl rfl rfl rfl).an, Nat.zero_le _, Nat.zero_le _, hx.ag, hx.ak, fun _ h => (by cases h), fun _ h => (by cases h), hx.kn, hx.kk⟩
    · exact rc_out H.out.hp (rc_out H.out.hp (rc_out H.out.hp (rc_out H.out.hp (ho1.out.trans' (Out.of_below (below_drew (Below.refl _ _)))))))
end
end Go.Proofs.YtjgloipgnnigmaaGreatDoor
/- The reference's client, loosely: open, over. -/
namespace Go.Proofs.YtjgloipgnnigmaaGreatDoor
open Go.RowKit Go.Shelf

def isEv (v : Value) (_ : World) : Prop := ∃ e : EvD, v = .agg e.vs
theorem info_rev : (Tryz.prog.info? 169).map (·.size) = some 11 := by kernel_rfl
section
variable {w w' : World} {B p n : Nat} {K : CliK} {x : RcD} {O O' : Nat → Prop} {vr vw va : Value}
theorem RcAt.mono (h : RcAt w B p K x O) (hs : ∀ k, O k → O' k) (hl : ∀ k, O' k → B ≤ k ∧ k < w.heap.size) : RcAt w B p K x O' := by
  obtain ⟨a, b, c, h⟩ := h
  exact ⟨a, b, c, h.mono hs hl⟩
theorem rc_close {y : RcD} {m : Nat} (hlt : ∀ k, O k → B ≤ k ∧ k < w.heap.size) (hB : B ≤ w.heap.size) (hy : RcOK K.c m y) (hA : RcAt w' B p K y O') (hs : ∀ k, O' k → ext O w w' k) (ho : Out O w w') : RcEnd w B p K m O w' :=
  ⟨⟨y, hy, hA.mono hs fun k hk => hk.elim (fun q => ⟨(hlt k q).1, Nat.lt_of_lt_of_le (hlt k q).2 ho.size⟩) (fun q => ⟨Nat.le_trans hB q.1, q.2⟩)⟩, ho⟩
/-- A call within a call: memory is made, the client's method runs, memory is made. -/
theorem RcEnd.wide {w0 w1 w2 w3 : World} {m : Nat} (h : RcEnd w1 B p K m O w2) (h01 : Below w0.heap.size w0 w1) (hb : Below w2.heap.size w2 w3) (hlt : ∀ k, O k → B ≤ k ∧ k < w0.heap.size) (hB : B ≤ w0.heap.size) : RcEnd w0 B p K m O w3 := by
  obtain ⟨⟨y, hy, hA⟩, ho⟩ := h
  have s1 := h01.size
  have s2 := hb.size
  have s3 := ho.size
  exact rc_close hlt hB hy (hA.later hb) (fun k hk => hk.elim .inl fun q => .inr ⟨by omega, by omega⟩) (((Out.of_below h01).trans' ho).trans' (Out.of_below hb))
theorem rc_close_row {w2 : World} {y : RcD} {m g : Nat} (hlt : ∀ k, O k → B ≤ k ∧ k < w.heap.size) (hB : B ≤ w.heap.size) (hy : RcOK K.c m y) (hA : RcAt w2 B p K y O') (hs : ∀ k, O' k → ext O w w2 k ∧ k ≠ g) (ho : Out O w w2) (hg : w.heap.size ≤ g) (hg2 : g < w2.heap.size) (cs : Array Value) : RcEnd w B p K m O (w2.setRow g cs) := by
  refine rc_close hlt hB hy (hA.out (O' := fun k => k = g) ⟨rfl, rfl, rfl, by simp, fun k _ hk => setRow_other w2 g k cs hk⟩ (fun k hk e => (hs k hk).2 e) (fun k e => by subst e; exact Nat.le_trans hB hg)) (fun k hk => (hs k hk).1.elim .inl fun q => .inr ⟨q.1, by simpa using q.2⟩) ?_
  exact ho.trans ⟨rfl, rfl, rfl, by simp, fun k _ hk => setRow_other w2 g k cs (fun e => hk (.inr ⟨by omega, by omega⟩))⟩
set_option maxHeartbeats 1000000 in
theorem rcOpen_any (h : RcAt w B p K x O) (hx : RcOK K.c n x) (hn : n ≤ 1000) : Calls Tryz.prog 111 #[.pointer (some ⟨p, 0, none⟩)] w fun e w' => (∃ z : Int, e = .returned (.int .i64 z)) ∧ w = w' := by
  obtain ⟨vr, vw, va, h⟩ := h
  obtain ⟨_, _, _, _, _, _, _, _, _, _, _, _, c12, _, _⟩ := h.cs
  obtain ⟨A, cap, rfl, hcap, hA, _⟩ := own_asksR h.rowa
  have hlen := hx.an
  clear h hx
  go_enter Tryz.func111, Tryz.ntmps111
  go_wp2
  go_loop [3, 4] (fun m i => ∃ k : Nat, k ≤ x.asks.length ∧ i = .int .i64 k ∧ ∃ z : Int, m = .int .i64 z) (fun _ i => x.asks.length - (intOf i).toNat)
  case atStart => exact ⟨0, Nat.zero_le _, rfl, 0, rfl⟩
  case round =>
    obtain ⟨k, hk, rfl, z, rfl⟩ := hrel
    by_cases hlt : k < x.asks.length
    · obtain ⟨b, off, rfl, e0, e1, e2, e3, e4, _⟩ := hA k hlt
      have ki : (k : Int) < (x.asks.length : Int) := by omega
      have k0 : (0 : Int) ≤ (k : Int) := by omega
      generalize (x.asks.getD k noAskR).op = bo at e4
      cases bo
      all_goals
        go_wp2
        go_round
        case rel => exact ⟨k + 1, by omega, by go_num, _, rfl⟩
        case measure => simp [intOf]; omega
    · go_wp2
      go_ret
      exact ⟨⟨_, rfl⟩, rfl⟩
end
end Go.Proofs.YtjgloipgnnigmaaGreatDoor
/- The reference's client, loosely: over. -/
namespace Go.Proofs.YtjgloipgnnigmaaGreatDoor
open Go.RowKit Go.Shelf

section
variable {w w' : World} {B p n : Nat} {K : CliK} {x : RcD} {O O' : Nat → Prop}
def evO (ses : Int) (s : Nat) (er : Int) : EvD := ⟨4, ses, 0, noStr, noVal, 0, false, s, er⟩
set_option maxRecDepth 100000 in
set_option maxHeartbeats 2000000 in
theorem rcOver_any (h : RcAt w B p K x O) (m : Nat) (er : Int) : Calls Tryz.prog 162 #[.pointer (some ⟨p, 0, none⟩), .int .i64 er] w (RcPost w B p K m O isEv) := by
  obtain ⟨W, eW, HB, hszW, hrW⟩ := boxed w #[.int .i64 0, .int .i64 0, .int .i64 0, .string ⟨#[]⟩, .int .i64 0, .int .u64 0, .string ⟨#[]⟩, .int .u64 0, .bool false, .int .u64 0, .int .i64 0] 169
  have hW := h.later HB
  have HRe := Lib.hid (rcRest_any hW)
  have hlt := Lib.hid h.lt'
  have hB := h.hB
  obtain ⟨vr, vw, va, hW⟩ := hW
  obtain ⟨_, _, c2, _, _, _, _, _, _, _, _, _, _, _, c14⟩ := hW.cs
  have nR : Hid (¬ O w.heap.size) := fun e => by have := (h.lt' _ e).2; omega
  replace hrW := Lib.hid hrW
  replace hszW := Lib.hid hszW
  clear hW
  go_enter Tryz.func162, Tryz.ntmps162
  go_wp2_with (first
    | (go_at_call 112; refine HRe.out.mono ?_; rintro e w4 ⟨rfl, hA4, ho4⟩; have hA5 := hA4; obtain ⟨_, _, _, hA5⟩ := hA5; obtain ⟨_, _, d2, _⟩ := hA5.cs; have hR4 := Lib.hid (ho4.obj hrW.out nR.out); clear hA5; replace hA4 := Lib.hid hA4; replace ho4 := Lib.hid ho4)
    | (refine wpList_store_row rfl 169 _ _ rfl w.heap.size (evO K.ses x.stamp er).vs rfl rfl 169 _ hR4.out info_rev rfl (ev_one _) ?_))
  have hsz := hszW.out
  have hs4 := ho4.out.size
  refine bodyPost_ret (v := .agg (evO K.ses x.stamp er).vs) (results_cell_row rfl _ _ w.heap.size _ (evO K.ses x.stamp er).vs _ _ rfl (setRow_heap _ _ _ _ _ _ hR4.out) Tryz.underlying169 rfl info_rev) rfl ⟨_, rfl, ⟨_, rfl⟩, ?_⟩
  exact rc_close_row hlt.out hB (RcOK.rest (x := x) m) hA4.out (fun k hk => ⟨hk.elim .inl fun q => .inr ⟨by omega, q.2⟩, fun e => by subst e; exact hk.elim nR.out (fun q => by omega)⟩) ((Out.of_below HB).trans' ho4.out) (Nat.le_refl _) (by omega) _
end
end Go.Proofs.YtjgloipgnnigmaaGreatDoor
/- Layer 7's reference Groups: the row that it hands back is a new one. -/
namespace Go.Proofs.YtjgloipgnnigmaaGreatDoor
open Go.RowKit Go.Shelf

set_option maxRecDepth 100000 in
set_option maxHeartbeats 4000000 in
theorem refGroupsF_any (c : Cfg) (keys : List ByteArray) (A B K : Option Addr) (ca cb ck : Nat) (w : World) (h : CfgAt w c A B) (hK : StrsAt w K keys) (hlen : keys.length ≤ 1000) :
    Calls Tryz.prog 114 #[.agg #[.slice A c.reps.length ca, .slice B c.bnds.length cb], .slice K keys.length ck] w (IntsPostF w (groupsL c keys)) := by
  obtain ⟨W, eW, HB, c0, c1⟩ := box2 w (.slice A c.reps.length ca) (.slice B c.bnds.length cb) 25
  have h := h.later HB
  have hK := CellsAt.later hK HB
  have hnn := h.hn
  cases hf : formedB c
  · have HE : Hid (groupsL c keys = []) := by show _ = _; simp [groupsL, hf]
    go_enter Tryz.func114, Tryz.ntmps114
    go_wp2_with fail
    clear eW
    refine wp_loop_rounds 1 ?_
    rw [rounds_succ]
    by_cases h0 : 0 < c.reps.length
    · go_wp2_with (go_at_call 21; refine (refFormed_any c A B ca cb _ h).mono ?_; rintro e w1 ⟨rfl, hb⟩; replace HB := keepB HB hb)
      go_ret
      rw [HE.out]
      exact ⟨none, 0, rfl, fun i hi => (by simp at hi), HB, fun a e => by cases e⟩
    · have h1 : c.reps.length = 0 := by omega
      go_wp2
      go_ret
      rw [HE.out]
      exact ⟨none, 0, rfl, fun i hi => (by simp at hi), HB, fun a e => by cases e⟩
  · have HE : Hid (groupsL c keys = groupsTo c keys c.reps.length) := by show _ = _; simp [groupsL, hf]
    have hn := (formed_len hf).2.1
    have HLN : Hid (∀ k, (groupsTo c keys k).length ≤ k) := groupsTo_length c keys
    have HTA : Hid (∀ g, touchTo c keys g keys.length = touchB c keys g) := touchTo_all c keys
    obtain ⟨i0, hi, hz0, hz1, hz2⟩ := info_parts info_int
    go_enter Tryz.func114, Tryz.ntmps114
    go_wp2_with fail
    clear eW
    go_loopw [5, 6] (fun v i wr => ∃ k : Nat, k ≤ c.reps.length ∧ i = .int .i64 k ∧ Hid (wr.ownsRow W.heap.size 3 1 v (groupsTo c keys k).length ((groupsTo c keys k).map (Value.int .i64))) ∧ Below W.heap.size W wr) (fun _ i _ => c.reps.length - (intOf i).toNat)
    case atStart => exact ⟨0, Nat.zero_le _, rfl, own_nil _ _ _ _, Below.refl _ _⟩
    case round =>
      obtain ⟨k, hk, rfl, HO, hw⟩ := hrel
      have hc0 := keep hw c0
      have hc1 := keep hw c1
      have hl := HLN.out k
      by_cases hlt : k < c.reps.length
      · have hr := h.later hw
        have hf' := Lib.hid hf
        go_wp2_with (go_at_call 21; refine (refFormed_any c A B ca cb _ hr).mono ?_; rintro e w1 ⟨rfl, hb⟩; replace hc0 := keep hb hc0; replace hc1 := keep hb hc1; replace HO := Lib.hid (own_keep HO.out hb); replace hw := keepB hw hb; clear hb hr)
        go_loopw [7, 8] (fun t i wr2 => ∃ j : Nat, j ≤ keys.length ∧ i = .int .i64 j ∧ t = .bool (touchTo c keys k j) ∧ Below w1.heap.size w1 wr2) (fun _ i _ => keys.length - (intOf i).toNat)
        case atStart => exact ⟨0, Nat.zero_le _, rfl, rfl, Below.refl _ _⟩
        case round =>
          obtain ⟨j, hj, rfl, rfl, hw2⟩ := hrel
          obtain ⟨wb, rfl⟩ : ∃ wb : World, wb = wr := ⟨_, rfl⟩
          have hww := keepB hw hw2
          have hr := h.later hww
          have hc0' := keep hw2 hc0
          have hc1' := keep hw2 hc1
          by_cases hlj : j < keys.length
          · obtain ⟨bb, off, x, rfl, hc, HX⟩ := StrsAt.at' (CellsAt.later hK hww) hlj
            obtain ⟨g, hg⟩ : ∃ g, homeZ c x = g := ⟨_, rfl⟩
            have HG := Lib.hid hg
            have HT : Hid (touchTo c keys k (j + 1) = (touchTo c keys k j || g == (k : Int))) := by show _ = _; rw [touchTo, HX.out, hg]
            have hji : (j : Int) < (keys.length : Int) := by omega
            clear hg
            generalize touchTo c keys k j = t at *
            cases t
            · go_wp2
              go_region_held3 (fun w' => w'.cell? ⟨w.heap.size, 0, none⟩ = some (.slice A c.reps.length ca) ∧ w'.cell? ⟨w.heap.size, 1, none⟩ = some (.slice B c.bnds.length cb) ∧ w'.cell? ⟨bb, off + j, none⟩ = some (.string x) ∧ Below wb.heap.size wb w')
              (first | exact ⟨hc0', hc1', hc, below_drew (Below.refl _ _)⟩ | exact ⟨keep hb ‹_ ∧ _ ∧ _ ∧ Below wb.heap.size wb _›.1, keep hb ‹_ ∧ _ ∧ _ ∧ Below wb.heap.size wb _›.2.1, keep hb ‹_ ∧ _ ∧ _ ∧ Below wb.heap.size wb _›.2.2.1, keepB ‹_ ∧ _ ∧ _ ∧ Below wb.heap.size wb _›.2.2.2 hb⟩)
              (first
              | (go_at_call 30; refine (calls_int HG.out (refHome_any c x A B ca cb _ (hr.later ‹_ ∧ _ ∧ _ ∧ Below wb.heap.size wb _›.2.2.2))).mono ?_; rintro e w2 ⟨rfl, hb⟩))
              have HS : Below wb.heap.size wb _ := (‹_ ∧ _ ∧ _ ∧ Below wb.heap.size wb _›).2.2.2
              go_wp2
              go_roundw
              case rel => exact ⟨j + 1, by omega, by go_num, by rw [HT.out]; simp, keepB hw2 HS⟩
              case measure => simp [intOf]; omega
            · go_wp2
              go_quiet (fail)
              go_wp2
              go_roundw
              case rel => exact ⟨j + 1, by omega, by go_num, by rw [HT.out]; simp, below_drewN hw2 _⟩
              case measure => simp [intOf]; omega
          · have ej : j = keys.length := by omega
            have HT : Hid (touchTo c keys k j = touchB c keys k) := by show _ = _; rw [ej]; exact HTA.out k
            have HO2 := Lib.hid (own_keep HO.out hw2)
            have HSU := Lib.hid (groupsTo_succ c keys k)
            cases ht : touchB c keys k
            · have HT2 : Hid (touchTo c keys k j = false) := by show _ = _; rw [HT.out, ht]
              have HG2 : Hid (groupsTo c keys (k + 1) = groupsTo c keys k) := by show _ = _; rw [HSU.out, ht]; simp
              generalize touchTo c keys k j = t at *
              obtain rfl : t = false := HT2.out
              clear ht
              go_wp2
              go_roundw
              case rel => exact ⟨k + 1, by omega, by go_num, by show World.ownsRow _ _ _ _ _ _ _; rw [HG2.out]; exact HO2.out, hww⟩
              case measure => simp [intOf]; omega
            · have HT2 : Hid (touchTo c keys k j = true) := by show _ = _; rw [HT.out, ht]
              have HG2 : Hid (groupsTo c keys (k + 1) = groupsTo c keys k ++ [(k : Int)]) := by show _ = _; rw [HSU.out, ht]; simp
              generalize touchTo c keys k j = t at *
              obtain rfl : t = true := HT2.out
              clear ht
              go_wp2_with (at_builtin; refine wpList_append_own _ rfl _ _ 22 rfl W.heap.size 3 i0 (.int .i64 0) 1 8 Tryz.underlying22 hi hz0 hz1 hz2 rfl (by decide) _ _ _ rfl (own_keep HO2.out (below1 _ _)) ⟨wb.heap.size, 0, none⟩ 1 1 [.int .i64 (k : Int)] rfl rfl (cell_one_new _ _ _) one_cell_int (le_maxLen (by omega)) (by omega) (Nat.le_trans hww.size (below1 _ _).size) ?_; intro v3 w3 HO3 hg3 _; have hw3 := own_below (hww.alloc hww.size _) (Nat.le_refl _) (own_keep HO2.out (below1 _ _)) hg3; replace HO3 := Lib.hid HO3; clear hg3)
              go_roundw
              case rel => exact ⟨k + 1, by omega, by go_num, by show World.ownsRow _ _ _ _ _ _ _; rw [HG2.out, List.map_append, List.length_append]; exact HO3.out, hw3⟩
              case measure => simp [intOf]; omega
      · have HK : Hid (groupsL c keys = groupsTo c keys k) := by show _ = _; rw [HE.out, show k = c.reps.length from by omega]
        clear hl
        generalize groupsTo c keys k = l at *
        go_wp2
        go_ret
        rw [HK.out]
        obtain ⟨A', cap', rfl, _, hI, hF⟩ := own_intsF HO.out
        exact ⟨A', cap', rfl, hI, keepB HB hw, fun a e => Nat.le_trans HB.size (hF a e)⟩
end Go.Proofs.YtjgloipgnnigmaaGreatDoor
/- parishref21.New. -/
namespace Go.Proofs.YtjgloipgnnigmaaGreatDoor
open Go.RowKit Go.Shelf

def rc0 : RcD := ⟨0, 0, 0, 0, 0, 0, 0, [], [], [], none, [], 0, 0⟩
theorem rc0_ok (c : Cfg) : RcOK c 0 rc0 :=
  ⟨Nat.zero_le _, Nat.zero_le _, Nat.zero_le _, fun _ h => (by cases h), fun _ h => (by cases h), fun _ h => (by cases h), fun _ h => (by cases h), Nat.zero_le _, fun _ h => (by cases h)⟩
def RcNewPost (w : World) (K : CliK) (e : Ending) (w' : World) : Prop :=
  ∃ p, e = .returned (.pointer (some ⟨p, 0, none⟩)) ∧ RcAt w' w.heap.size p K rc0 (fun k => k = p) ∧ Below w.heap.size w w'
theorem rc_new {w w' : World} {K : CliK} {B : Nat} (hB : B ≤ w.heap.size) (e : w.alloc (.cells #[.slice K.A K.c.reps.length K.ca, .slice K.B K.c.bnds.length K.cb, .int .i64 K.ses, .int .i64 0, .int .i64 0, .int .i64 0, .int .i64 0, .int .u64 0, .int .i64 0, .int .i64 0, .slice none 0 0, .slice none 0 0, .slice none 0 0, .slice none 0 0, .int .u64 0] 117) = w') :
    RcAt w' B w.heap.size K rc0 (fun k => k = w.heap.size) := by
  subst e
  exact ⟨_, _, _, { blk := heap_alloc_new w _, rowr := own_nil _ _ _ _, roww := own_nil _ _ _ _, rowa := own_nil _ _ _ _, hp := rfl, mir := fun g hg => (by cases hg), miw := fun g hg => (by cases hg), mia := fun g hg => (by cases hg), prw := Apart.nil _, pra := Apart.nil _, pwa := Apart.nil _, lt := fun k hk => by subst hk; exact ⟨hB, by simp⟩, ks := fun _ _ i hi => absurd hi (Nat.not_lt_zero _) }⟩
set_option maxHeartbeats 1000000 in
theorem rcNew_ok (K : CliK) (w : World) (h : CfgAt w K.c K.A K.B) (hk : cliOK K = true) : Calls Tryz.prog 22 #[K.cv, .int .i64 K.ses] w (RcNewPost w K) := by
  simp only [cliOK, Bool.and_eq_true, decide_eq_true_eq] at hk
  obtain ⟨⟨hf, h1⟩, h8⟩ := hk
  obtain ⟨c, A, B, ca, cb, ses⟩ := K
  simp only at h hf h1 h8
  have q1 : ¬ (ses < 1) := by omega
  have q8 : ¬ (8 < ses) := by omega
  obtain ⟨W, eW, HB, c0, c1⟩ := box2 w (.slice A c.reps.length ca) (.slice B c.bnds.length cb) 25
  have h := h.later HB
  go_enter Tryz.func22, Tryz.ntmps22
  go_wp2_with (go_at_call 21; refine (calls_b21 hf (refFormed_any c A B ca cb _ h)).mono ?_; rintro e w1 ⟨rfl, hb⟩; replace HB := keepB HB hb; replace c0 := keep hb c0; replace c1 := keep hb c1)
  go_ret
  exact ⟨w1.heap.size, rfl, rc_new HB.size rfl, HB.alloc HB.size _⟩
theorem rcNew_no (K : CliK) (w : World) (h : CfgAt w K.c K.A K.B) (hk : cliOK K = false) : Calls Tryz.prog 22 #[K.cv, .int .i64 K.ses] w fun e w' => e = .returned (.pointer none) ∧ Below w.heap.size w w' := by
  obtain ⟨c, A, B, ca, cb, ses⟩ := K
  simp only [cliOK] at h hk
  obtain ⟨W, eW, HB, c0, c1⟩ := box2 w (.slice A c.reps.length ca) (.slice B c.bnds.length cb) 25
  have h := h.later HB
  cases hf : formedB c
  · skip
    clear hk
    go_enter Tryz.func22, Tryz.ntmps22
    go_wp2_with (go_at_call 21; refine (calls_b21 hf (refFormed_any c A B ca cb _ h)).mono ?_; rintro e w1 ⟨rfl, hb⟩; replace HB := keepB HB hb; replace c0 := keep hb c0; replace c1 := keep hb c1)
    go_ret
    exact ⟨rfl, HB⟩
  · by_cases q1 : ses < 1
    · skip
      clear hk
      go_enter Tryz.func22, Tryz.ntmps22
      go_wp2_with (go_at_call 21; refine (calls_b21 hf (refFormed_any c A B ca cb _ h)).mono ?_; rintro e w1 ⟨rfl, hb⟩; replace HB := keepB HB hb; replace c0 := keep hb c0; replace c1 := keep hb c1)
      go_ret
      exact ⟨rfl, HB⟩
    · have q8 : 8 < ses := by
        rw [hf, decide_eq_true (show 1 ≤ ses by omega)] at hk
        simp at hk; omega
      clear hk
      go_enter Tryz.func22, Tryz.ntmps22
      go_wp2_with (go_at_call 21; refine (calls_b21 hf (refFormed_any c A B ca cb _ h)).mono ?_; rintro e w1 ⟨rfl, hb⟩; replace HB := keepB HB hb; replace c0 := keep hb c0; replace c1 := keep hb c1)
      go_ret
      exact ⟨rfl, HB⟩
end Go.Proofs.YtjgloipgnnigmaaGreatDoor
