/- How a client lies in memory: one block of thirteen cells and four rows of its own. -/
import Derived.Test.YtjgloipgnnigmaaGreatDoorJ4
import Derived.Test.YtjgloipgnnigmaaGreatDoorJ2
import Derived.IntWalk
import Derived.Test.YtjgloipgnnigmaaGreatDoorJ1
import Derived.Laws.Rows
import Derived.Laws.Tables
import Derived.BigFrame
import Derived.Lib.QuietBelow
import Derived.BigQuiet
set_option linter.unusedVariables false
set_option linter.unusedSimpArgs false
namespace Go.Proofs.YtjgloipgnnigmaaGreatDoor
open Go.RowKit

/-- What a client has from the start: its configuration, and its session. -/
structure CliK where
  c : Cfg
  A : Option Addr
  B : Option Addr
  ca : Nat
  cb : Nat
  ses : Int
abbrev CliK.cv (K : CliK) : Value := .agg #[.slice K.A K.c.reps.length K.ca, .slice K.B K.c.bnds.length K.cb]
def askCells (l : List AskD) : List Value := l.flatMap fun a => [.int .i64 (a.n : Int), .int .i64 (a.g : Int), .string a.key, .int .u64 (a.st : Int)]
theorem askCells_snoc (l : List AskD) (a : AskD) : askCells (l ++ [a]) = askCells l ++ [.int .i64 (a.n : Int), .int .i64 (a.g : Int), .string a.key, .int .u64 (a.st : Int)] := by simp [askCells]
theorem askCells_len : ∀ l : List AskD, (askCells l).length = l.length * 4
  | [] => rfl
  | x :: l => by have := askCells_len l; simp [askCells] at *; omega
theorem askCells_at : ∀ (l : List AskD) (i : Nat), i < l.length → (askCells l)[i * 4]? = some (.int .i64 ((l.getD i noAsk).n : Int)) ∧ (askCells l)[i * 4 + 1]? = some (.int .i64 ((l.getD i noAsk).g : Int)) ∧ (askCells l)[i * 4 + 2]? = some (.string (l.getD i noAsk).key) ∧ (askCells l)[i * 4 + 3]? = some (.int .u64 ((l.getD i noAsk).st : Int))
  | [], i, h => by simp at h
  | x :: l, 0, _ => by simp [askCells]
  | x :: l, i + 1, h => by
    have := askCells_at l i (by simpa using h)
    rw [show (i + 1) * 4 = i * 4 + 4 by omega, show i * 4 + 4 + 1 = (i * 4 + 1) + 4 by omega, show i * 4 + 4 + 2 = (i * 4 + 2) + 4 by omega, show i * 4 + 4 + 3 = (i * 4 + 3) + 4 by omega]
    simpa [askCells] using this
def AsksAt (w : World) (A : Option Addr) (l : List AskD) : Prop :=
  ∀ i, i < l.length → ∃ b off, A = some ⟨b, off, none⟩ ∧ w.cell? ⟨b, off + i * 4, none⟩ = some (.int .i64 ((l.getD i noAsk).n : Int)) ∧ w.cell? ⟨b, off + i * 4 + 1, none⟩ = some (.int .i64 ((l.getD i noAsk).g : Int)) ∧
    w.cell? ⟨b, off + i * 4 + 2, none⟩ = some (.string (l.getD i noAsk).key) ∧ w.cell? ⟨b, off + i * 4 + 3, none⟩ = some (.int .u64 ((l.getD i noAsk).st : Int))
theorem AsksAt.later {w w' : World} {A : Option Addr} {l : List AskD} (h : AsksAt w A l) (hb : Below w.heap.size w w') : AsksAt w' A l := by
  intro i hi
  obtain ⟨b, off, e, h0, h1, h2, h3⟩ := h i hi
  exact ⟨b, off, e, keep hb h0, keep hb h1, keep hb h2, keep hb h3⟩
theorem AsksAt.at' {w : World} {A : Option Addr} {l : List AskD} (h : AsksAt w A l) {k : Nat} (hk : k < l.length) :
    ∃ b off n g s t, A = some ⟨b, off, none⟩ ∧ w.cell? ⟨b, off + k * 4, none⟩ = some (.int .i64 ((n : Nat) : Int)) ∧ w.cell? ⟨b, off + k * 4 + 1, none⟩ = some (.int .i64 ((g : Nat) : Int)) ∧
      w.cell? ⟨b, off + k * 4 + 2, none⟩ = some (.string s) ∧ w.cell? ⟨b, off + k * 4 + 3, none⟩ = some (.int .u64 ((t : Nat) : Int)) ∧ Hid (l.getD k noAsk = ⟨n, g, s, t⟩) := by
  obtain ⟨b, off, e, h0, h1, h2, h3⟩ := h k hk
  exact ⟨b, off, _, _, _, _, e, h0, h1, h2, h3, rfl⟩
theorem own_asks {w : World} {base : Nat} {e : TypeId} {v : Value} {l : List AskD} (h : w.ownsRow base e 4 v l.length (askCells l)) :
    ∃ (A : Option Addr) (cap : Nat), v = .slice A l.length cap ∧ l.length ≤ cap ∧ AsksAt w A l ∧ FreshP base A := by
  rcases h.2 with ⟨rfl, h0⟩ | ⟨g, cap, cur, rfl, hfr, hh, hn, _, _, ht⟩
  · exact ⟨none, 0, by rw [h0], by omega, fun i hi => by omega, fun a e => by cases e⟩
  · refine ⟨some ⟨g, 0, none⟩, cap, rfl, hn, fun i hi => ⟨g, 0, rfl, ?_⟩, fun a e => by cases e; exact hfr⟩
    have hc : ∀ j, j < l.length * 4 → w.cell? ⟨g, 0 + j, none⟩ = (askCells l)[j]? := by
      intro j hj
      have h1 : (cur.toList.take (l.length * 4))[j]? = (askCells l)[j]? := by rw [ht]
      rw [List.getElem?_take_of_lt (by omega)] at h1
      simp only [World.cell?, hh, Nat.zero_add, Option.isSome_none, Bool.false_eq_true, if_false]
      rw [← Array.getElem?_toList, h1]
    have := askCells_at l i hi
    exact ⟨by rw [hc _ (by omega)]; exact this.1, by rw [Nat.add_assoc, hc _ (by omega)]; exact this.2.1, by rw [Nat.add_assoc, hc _ (by omega)]; exact this.2.2.1, by rw [Nat.add_assoc, hc _ (by omega)]; exact this.2.2.2⟩
theorem info_ask : (Tryz.prog.info? 103).map (fun i => (i.zero, i.size, i.bytes)) = some (some (.agg #[.int .i64 0, .int .i64 0, .string ByteArray.empty, .int .u64 0]), 4, 40) := by kernel_rfl
theorem blk_set21 {w : World} {g j : Nat} {cur : Array Value} {t : TypeId} (v : Value) (h : w.heap[g]? = some (.cells cur t (0, 0))) : (w.setCell ⟨g, j, none⟩ v).heap[g]? = some (.cells (cur.setIfInBounds j v) t (0, 0)) := by
  simp [World.setCell, Array.getElem?_modify, h]
theorem out_set21 (w : World) (b j : Nat) (u : Value) : Out (fun k => k = b) w (w.setCell ⟨b, j, none⟩ u) :=
  ⟨rfl, rfl, rfl, by simp [World.setCell], fun k _ hn => Below.heap_setCell _ _ _ _ hn⟩
def Apart (u v : Value) : Prop := ∀ g, u.ownBlock = some g → v.ownBlock ≠ some g
theorem Apart.symm {u v : Value} (h : Apart u v) : Apart v u := fun g hg e => h g e hg
theorem Apart.nil (v : Value) : Apart (.slice none 0 0) v := fun g hg => by cases hg
structure CliIn (w : World) (B p : Nat) (K : CliK) (x : CliD) (vr vw va vk : Value) (O : Nat → Prop) : Prop where
  blk : w.heap[p]? = some (.cells #[.slice K.A K.c.reps.length K.ca, .slice K.B K.c.bnds.length K.cb, .int .i64 K.ses, .int .i64 (x.state : Int), .int .i64 (x.seq : Int), .int .i64 (x.num : Int), .int .i64 (x.turn : Int), .int .u64 (x.floor : Int), vr, vw, va, vk, .int .u64 (x.stamp : Int)] 95 (0, 0))
  rowr : w.ownsRow B 75 2 vr x.rds.length (rdCells x.rds)
  roww : w.ownsRow B 112 4 vw x.wrs.length (wrCells x.wrs)
  rowa : w.ownsRow B 103 4 va x.asks.length (askCells x.asks)
  rowk : w.ownsRow B 9 1 vk x.keys.length ((x.keys).map Value.string)
  hp : O p
  mir : ∀ g, vr.ownBlock = some g → O g ∧ g ≠ p
  miw : ∀ g, vw.ownBlock = some g → O g ∧ g ≠ p
  mia : ∀ g, va.ownBlock = some g → O g ∧ g ≠ p
  mik : ∀ g, vk.ownBlock = some g → O g ∧ g ≠ p
  prw : Apart vr vw
  pra : Apart vr va
  prk : Apart vr vk
  pwa : Apart vw va
  pwk : Apart vw vk
  pak : Apart va vk
  lt : ∀ k, O k → B ≤ k ∧ k < w.heap.size
def CliAt (w : World) (B p : Nat) (K : CliK) (x : CliD) (O : Nat → Prop) : Prop := ∃ vr vw va vk, CliIn w B p K x vr vw va vk O
section
variable {w w' : World} {B p : Nat} {K : CliK} {x : CliD} {vr vw va vk : Value} {O O' : Nat → Prop}
theorem CliIn.cs (h : CliIn w B p K x vr vw va vk O) : w.cell? ⟨p, 0, none⟩ = some (.slice K.A K.c.reps.length K.ca) ∧ w.cell? ⟨p, 1, none⟩ = some (.slice K.B K.c.bnds.length K.cb) ∧ w.cell? ⟨p, 2, none⟩ = some (.int .i64 K.ses) ∧ w.cell? ⟨p, 3, none⟩ = some (.int .i64 (x.state : Int)) ∧ w.cell? ⟨p, 4, none⟩ = some (.int .i64 (x.seq : Int)) ∧ w.cell? ⟨p, 5, none⟩ = some (.int .i64 (x.num : Int)) ∧ w.cell? ⟨p, 6, none⟩ = some (.int .i64 (x.turn : Int)) ∧ w.cell? ⟨p, 7, none⟩ = some (.int .u64 (x.floor : Int)) ∧ w.cell? ⟨p, 8, none⟩ = some (vr) ∧ w.cell? ⟨p, 9, none⟩ = some (vw) ∧ w.cell? ⟨p, 10, none⟩ = some (va) ∧ w.cell? ⟨p, 11, none⟩ = some (vk) ∧ w.cell? ⟨p, 12, none⟩ = some (.int .u64 (x.stamp : Int)) := by
  refine ⟨?_, ?_, ?_, ?_, ?_, ?_, ?_, ?_, ?_, ?_, ?_, ?_, ?_⟩ <;> (rw [cell_of_row w p _ _ _ _ h.blk]; rfl)
theorem CliIn.fz (h : CliIn w B p K x vr vw va vk O) (j : Nat) : w.frozen? ⟨p, j, none⟩ = false := frozen_of_row w p j _ _ h.blk
theorem CliIn.out (h : CliIn w B p K x vr vw va vk O) (hw : Out O' w w') (hd : ∀ k, O k → ¬ O' k) : CliIn w' B p K x vr vw va vk O :=
  { h with blk := hw.obj h.blk (hd _ h.hp), rowr := hw.row h.rowr (fun g hg => hd g (h.mir g hg).1), roww := hw.row h.roww (fun g hg => hd g (h.miw g hg).1), rowa := hw.row h.rowa (fun g hg => hd g (h.mia g hg).1), rowk := hw.row h.rowk (fun g hg => hd g (h.mik g hg).1), lt := fun k hk => ⟨(h.lt k hk).1, Nat.lt_of_lt_of_le (h.lt k hk).2 hw.size⟩ }
theorem CliIn.later (h : CliIn w B p K x vr vw va vk O) (hb : Below w.heap.size w w') : CliIn w' B p K x vr vw va vk O := h.out (O' := fun _ => False) (Out.of_below hb) (fun _ _ h => h)
theorem CliIn.mono (h : CliIn w B p K x vr vw va vk O) (hs : ∀ k, O k → O' k) (hl : ∀ k, O' k → B ≤ k ∧ k < w.heap.size) : CliIn w B p K x vr vw va vk O' :=
  { h with hp := hs _ h.hp, mir := fun g hg => ⟨hs g (h.mir g hg).1, (h.mir g hg).2⟩, miw := fun g hg => ⟨hs g (h.miw g hg).1, (h.miw g hg).2⟩, mia := fun g hg => ⟨hs g (h.mia g hg).1, (h.mia g hg).2⟩, mik := fun g hg => ⟨hs g (h.mik g hg).1, (h.mik g hg).2⟩, lt := hl }
theorem CliIn.widen (h : CliIn w' B p K x vr vw va vk O) (hl : ∀ k, O k → k < w.heap.size) (hB : B ≤ w.heap.size) : CliIn w' B p K x vr vw va vk (ext O w w') :=
  h.mono (fun k hk => .inl hk) (fun k hk => Or.elim hk (h.lt k) (fun e => ⟨by omega, e.2⟩))
theorem CliAt.out (h : CliAt w B p K x O) (hw : Out O' w w') (hd : ∀ k, O k → ¬ O' k) : CliAt w' B p K x O := by
  obtain ⟨vr, vw, va, vk, h⟩ := h
  exact ⟨vr, vw, va, vk, h.out hw hd⟩
theorem CliAt.later (h : CliAt w B p K x O) (hb : Below w.heap.size w w') : CliAt w' B p K x O := h.out (O' := fun _ => False) (Out.of_below hb) (fun _ _ h => h)
theorem CliAt.lo (h : CliAt w B p K x O) : B ≤ p := by
  obtain ⟨vr, vw, va, vk, h⟩ := h
  exact (h.lt p h.hp).1
theorem CliAt.stay (h : CliAt w B p K x O) (hb : Below w.heap.size w w') (hB : B ≤ w.heap.size) : CliAt w' B p K x (ext O w w') := by
  obtain ⟨vr, vw, va, vk, h⟩ := h
  exact ⟨vr, vw, va, vk, (h.later hb).widen (fun k hk => (h.lt k hk).2) hB⟩
theorem CliIn.s3 (h : CliIn w B p K x vr vw va vk O) (n : Nat) : CliIn (w.setCell ⟨p, 3, none⟩ (.int .i64 (n : Int))) B p K { x with state := n } vr vw va vk O :=
  { h with blk := by simpa using blk_set21 (j := 3) (.int .i64 (n : Int)) h.blk, rowr := (out_set21 w p _ _).row h.rowr (fun g hg e => (h.mir g hg).2 e), roww := (out_set21 w p _ _).row h.roww (fun g hg e => (h.miw g hg).2 e), rowa := (out_set21 w p _ _).row h.rowa (fun g hg e => (h.mia g hg).2 e), rowk := (out_set21 w p _ _).row h.rowk (fun g hg e => (h.mik g hg).2 e), lt := fun k hk => ⟨(h.lt k hk).1, Nat.lt_of_lt_of_le (h.lt k hk).2 (out_set21 w p 3 _).size⟩ }
theorem CliIn.s4 (h : CliIn w B p K x vr vw va vk O) (n : Nat) : CliIn (w.setCell ⟨p, 4, none⟩ (.int .i64 (n : Int))) B p K { x with seq := n } vr vw va vk O :=
  { h with blk := by simpa using blk_set21 (j := 4) (.int .i64 (n : Int)) h.blk, rowr := (out_set21 w p _ _).row h.rowr (fun g hg e => (h.mir g hg).2 e), roww := (out_set21 w p _ _).row h.roww (fun g hg e => (h.miw g hg).2 e), rowa := (out_set21 w p _ _).row h.rowa (fun g hg e => (h.mia g hg).2 e), rowk := (out_set21 w p _ _).row h.rowk (fun g hg e => (h.mik g hg).2 e), lt := fun k hk => ⟨(h.lt k hk).1, Nat.lt_of_lt_of_le (h.lt k hk).2 (out_set21 w p 4 _).size⟩ }
theorem CliIn.s5 (h : CliIn w B p K x vr vw va vk O) (n : Nat) : CliIn (w.setCell ⟨p, 5, none⟩ (.int .i64 (n : Int))) B p K { x with num := n } vr vw va vk O :=
  { h with blk := by simpa using blk_set21 (j := 5) (.int .i64 (n : Int)) h.blk, rowr := (out_set21 w p _ _).row h.rowr (fun g hg e => (h.mir g hg).2 e), roww := (out_set21 w p _ _).row h.roww (fun g hg e => (h.miw g hg).2 e), rowa := (out_set21 w p _ _).row h.rowa (fun g hg e => (h.mia g hg).2 e), rowk := (out_set21 w p _ _).row h.rowk (fun g hg e => (h.mik g hg).2 e), lt := fun k hk => ⟨(h.lt k hk).1, Nat.lt_of_lt_of_le (h.lt k hk).2 (out_set21 w p 5 _).size⟩ }
theorem CliIn.s6 (h : CliIn w B p K x vr vw va vk O) (n : Nat) : CliIn (w.setCell ⟨p, 6, none⟩ (.int .i64 (n : Int))) B p K { x with turn := n } vr vw va vk O :=
  { h with blk := by simpa using blk_set21 (j := 6) (.int .i64 (n : Int)) h.blk, rowr := (out_set21 w p _ _).row h.rowr (fun g hg e => (h.mir g hg).2 e), roww := (out_set21 w p _ _).row h.roww (fun g hg e => (h.miw g hg).2 e), rowa := (out_set21 w p _ _).row h.rowa (fun g hg e => (h.mia g hg).2 e), rowk := (out_set21 w p _ _).row h.rowk (fun g hg e => (h.mik g hg).2 e), lt := fun k hk => ⟨(h.lt k hk).1, Nat.lt_of_lt_of_le (h.lt k hk).2 (out_set21 w p 6 _).size⟩ }
theorem CliIn.s7 (h : CliIn w B p K x vr vw va vk O) (n : Nat) : CliIn (w.setCell ⟨p, 7, none⟩ (.int .u64 (n : Int))) B p K { x with floor := n } vr vw va vk O :=
  { h with blk := by simpa using blk_set21 (j := 7) (.int .u64 (n : Int)) h.blk, rowr := (out_set21 w p _ _).row h.rowr (fun g hg e => (h.mir g hg).2 e), roww := (out_set21 w p _ _).row h.roww (fun g hg e => (h.miw g hg).2 e), rowa := (out_set21 w p _ _).row h.rowa (fun g hg e => (h.mia g hg).2 e), rowk := (out_set21 w p _ _).row h.rowk (fun g hg e => (h.mik g hg).2 e), lt := fun k hk => ⟨(h.lt k hk).1, Nat.lt_of_lt_of_le (h.lt k hk).2 (out_set21 w p 7 _).size⟩ }
theorem CliIn.s12 (h : CliIn w B p K x vr vw va vk O) (n : Nat) : CliIn (w.setCell ⟨p, 12, none⟩ (.int .u64 (n : Int))) B p K { x with stamp := n } vr vw va vk O :=
  { h with blk := by simpa using blk_set21 (j := 12) (.int .u64 (n : Int)) h.blk, rowr := (out_set21 w p _ _).row h.rowr (fun g hg e => (h.mir g hg).2 e), roww := (out_set21 w p _ _).row h.roww (fun g hg e => (h.miw g hg).2 e), rowa := (out_set21 w p _ _).row h.rowa (fun g hg e => (h.mia g hg).2 e), rowk := (out_set21 w p _ _).row h.rowk (fun g hg e => (h.mik g hg).2 e), lt := fun k hk => ⟨(h.lt k hk).1, Nat.lt_of_lt_of_le (h.lt k hk).2 (out_set21 w p 12 _).size⟩ }
/-- The row of rds is another one: one of the call's own, or the one that was there. -/
theorem CliIn.setr (h : CliIn w B p K x vr vw va vk O) {u : Value} {l : List Rd} (hr : w.ownsRow B 75 2 u l.length (rdCells l)) (hm : ∀ g, u.ownBlock = some g → O g ∧ g ≠ p)
    (aw : Apart u vw) (aa : Apart u va) (ak : Apart u vk) : CliIn (w.setCell ⟨p, 8, none⟩ u) B p K { x with rds := l } u vw va vk O :=
  { h with blk := by simpa using blk_set21 (j := 8) u h.blk, rowr := (out_set21 w p _ _).row hr (fun g hg e => (hm g hg).2 e), roww := (out_set21 w p _ _).row h.roww (fun g hg e => (h.miw g hg).2 e), rowa := (out_set21 w p _ _).row h.rowa (fun g hg e => (h.mia g hg).2 e), rowk := (out_set21 w p _ _).row h.rowk (fun g hg e => (h.mik g hg).2 e), mir := hm, prw := aw, pra := aa, prk := ak, lt := fun k hk => ⟨(h.lt k hk).1, Nat.lt_of_lt_of_le (h.lt k hk).2 (out_set21 w p 8 _).size⟩ }
theorem CliIn.nilr (h : CliIn w B p K x vr vw va vk O) : CliIn (w.setCell ⟨p, 8, none⟩ (.slice none 0 0)) B p K { x with rds := [] } (.slice none 0 0) vw va vk O :=
  h.setr (l := []) (own_nil _ _ _ _) (fun g hg => by cases hg) (Apart.nil _) (Apart.nil _) (Apart.nil _)
/-- Behind an append to the row of rds. -/
theorem CliIn.growr (h : CliIn w B p K x vr vw va vk O) {w1 : World} (hB : B ≤ w.heap.size) (hg : w.grownBy w1 vr.ownBlock) {u : Value} {l : List Rd} (hr : w1.ownsRow B 75 2 u l.length (rdCells l)) (hu : ∀ g, u.ownBlock = some g → vr.ownBlock = some g ∨ w.heap.size ≤ g) :
    CliIn (w1.setCell ⟨p, 8, none⟩ u) B p K { x with rds := l } u vw va vk (ext O w w1) := by
  have hout : Out (fun k => vr.ownBlock = some k) w w1 := Out.of_grown hg (fun k e => e)
  have hp := h.lt p h.hp
  have hm : ∀ g, u.ownBlock = some g → ext O w w1 g ∧ g ≠ p := fun g hg' => by
    have hl := (hr.lt g hg').2
    rcases hu g hg' with e | e
    · exact ⟨.inl (h.mir g e).1, (h.mir g e).2⟩
    · exact ⟨.inr ⟨e, hl⟩, by omega⟩
  have aw : Apart u vw := fun g hg' e => by
    rcases hu g hg' with q | q
    · exact h.prw g q e
    · have := (h.lt g (h.miw g e).1).2; omega
  have aa : Apart u va := fun g hg' e => by
    rcases hu g hg' with q | q
    · exact h.pra g q e
    · have := (h.lt g (h.mia g e).1).2; omega
  have ak : Apart u vk := fun g hg' e => by
    rcases hu g hg' with q | q
    · exact h.prk g q e
    · have := (h.lt g (h.mik g e).1).2; omega
  have hblk : w1.heap[p]? = some _ := hout.obj h.blk (fun e => (h.mir p e).2 rfl)
  have rw := hout.row h.roww (fun g hg' e => h.prw g e hg')
  have ra := hout.row h.rowa (fun g hg' e => h.pra g e hg')
  have rk := hout.row h.rowk (fun g hg' e => h.prk g e hg')
  have ho := out_set21 w1 p 8 u
  exact { blk := by simpa using blk_set21 (j := 8) u hblk, rowr := ho.row hr (fun g hg' e => (hm g hg').2 e), roww := ho.row rw (fun g hg' e => (h.miw g hg').2 e), rowa := ho.row ra (fun g hg' e => (h.mia g hg').2 e), rowk := ho.row rk (fun g hg' e => (h.mik g hg').2 e), hp := .inl h.hp, mir := hm, miw := fun g hg' => ⟨.inl (h.miw g hg').1, (h.miw g hg').2⟩, mia := fun g hg' => ⟨.inl (h.mia g hg').1, (h.mia g hg').2⟩, mik := fun g hg' => ⟨.inl (h.mik g hg').1, (h.mik g hg').2⟩, prw := aw, pra := aa, prk := ak, pwa := h.pwa, pwk := h.pwk, pak := h.pak, lt := fun k hk' => Or.elim hk' (fun q => ⟨(h.lt k q).1, by have := (h.lt k q).2; have := hg.size; have := ho.size; omega⟩) (fun q => ⟨by omega, by have := ho.size; omega⟩) }
/-- The row of wrs is another one: one of the call's own, or the one that was there. -/
theorem CliIn.setw (h : CliIn w B p K x vr vw va vk O) {u : Value} {l : List Wr} (hr : w.ownsRow B 112 4 u l.length (wrCells l)) (hm : ∀ g, u.ownBlock = some g → O g ∧ g ≠ p)
    (ar : Apart u vr) (aa : Apart u va) (ak : Apart u vk) : CliIn (w.setCell ⟨p, 9, none⟩ u) B p K { x with wrs := l } vr u va vk O :=
  { h with blk := by simpa using blk_set21 (j := 9) u h.blk, roww := (out_set21 w p _ _).row hr (fun g hg e => (hm g hg).2 e), rowr := (out_set21 w p _ _).row h.rowr (fun g hg e => (h.mir g hg).2 e), rowa := (out_set21 w p _ _).row h.rowa (fun g hg e => (h.mia g hg).2 e), rowk := (out_set21 w p _ _).row h.rowk (fun g hg e => (h.mik g hg).2 e), miw := hm, prw := ar.symm, pwa := aa, pwk := ak, lt := fun k hk => ⟨(h.lt k hk).1, Nat.lt_of_lt_of_le (h.lt k hk).2 (out_set21 w p 9 _).size⟩ }
theorem CliIn.nilw (h : CliIn w B p K x vr vw va vk O) : CliIn (w.setCell ⟨p, 9, none⟩ (.slice none 0 0)) B p K { x with wrs := [] } vr (.slice none 0 0) va vk O :=
  h.setw (l := []) (own_nil _ _ _ _) (fun g hg => by cases hg) (Apart.nil _) (Apart.nil _) (Apart.nil _)
/-- Behind an append to the row of wrs. -/
theorem CliIn.groww (h : CliIn w B p K x vr vw va vk O) {w1 : World} (hB : B ≤ w.heap.size) (hg : w.grownBy w1 vw.ownBlock) {u : Value} {l : List Wr} (hr : w1.ownsRow B 112 4 u l.length (wrCells l)) (hu : ∀ g, u.ownBlock = some g → vw.ownBlock = some g ∨ w.heap.size ≤ g) :
    CliIn (w1.setCell ⟨p, 9, none⟩ u) B p K { x with wrs := l } vr u va vk (ext O w w1) := by
  have hout : Out (fun k => vw.ownBlock = some k) w w1 := Out.of_grown hg (fun k e => e)
  have hp := h.lt p h.hp
  have hm : ∀ g, u.ownBlock = some g → ext O w w1 g ∧ g ≠ p := fun g hg' => by
    have hl := (hr.lt g hg').2
    rcases hu g hg' with e | e
    · exact ⟨.inl (h.miw g e).1, (h.miw g e).2⟩
    · exact ⟨.inr ⟨e, hl⟩, by omega⟩
  have ar : Apart u vr := fun g hg' e => by
    rcases hu g hg' with q | q
    · exact h.prw.symm g q e
    · have := (h.lt g (h.mir g e).1).2; omega
  have aa : Apart u va := fun g hg' e => by
    rcases hu g hg' with q | q
    · exact h.pwa g q e
    · have := (h.lt g (h.mia g e).1).2; omega
  have ak : Apart u vk := fun g hg' e => by
    rcases hu g hg' with q | q
    · exact h.pwk g q e
    · have := (h.lt g (h.mik g e).1).2; omega
  have hblk : w1.heap[p]? = some _ := hout.obj h.blk (fun e => (h.miw p e).2 rfl)
  have rr := hout.row h.rowr (fun g hg' e => h.prw.symm g e hg')
  have ra := hout.row h.rowa (fun g hg' e => h.pwa g e hg')
  have rk := hout.row h.rowk (fun g hg' e => h.pwk g e hg')
  have ho := out_set21 w1 p 9 u
  exact { blk := by simpa using blk_set21 (j := 9) u hblk, roww := ho.row hr (fun g hg' e => (hm g hg').2 e), rowr := ho.row rr (fun g hg' e => (h.mir g hg').2 e), rowa := ho.row ra (fun g hg' e => (h.mia g hg').2 e), rowk := ho.row rk (fun g hg' e => (h.mik g hg').2 e), hp := .inl h.hp, miw := hm, mir := fun g hg' => ⟨.inl (h.mir g hg').1, (h.mir g hg').2⟩, mia := fun g hg' => ⟨.inl (h.mia g hg').1, (h.mia g hg').2⟩, mik := fun g hg' => ⟨.inl (h.mik g hg').1, (h.mik g hg').2⟩, prw := ar.symm, pwa := aa, pwk := ak, pra := h.pra, prk := h.prk, pak := h.pak, lt := fun k hk' => Or.elim hk' (fun q => ⟨(h.lt k q).1, by have := (h.lt k q).2; have := hg.size; have := ho.size; omega⟩) (fun q => ⟨by omega, by have := ho.size; omega⟩) }
/-- The row of asks is another one: one of the call's own, or the one that was there. -/
theorem CliIn.seta (h : CliIn w B p K x vr vw va vk O) {u : Value} {l : List AskD} (hr : w.ownsRow B 103 4 u l.length (askCells l)) (hm : ∀ g, u.ownBlock = some g → O g ∧ g ≠ p)
    (ar : Apart u vr) (aw : Apart u vw) (ak : Apart u vk) : CliIn (w.setCell ⟨p, 10, none⟩ u) B p K { x with asks := l } vr vw u vk O :=
  { h with blk := by simpa using blk_set21 (j := 10) u h.blk, rowa := (out_set21 w p _ _).row hr (fun g hg e => (hm g hg).2 e), rowr := (out_set21 w p _ _).row h.rowr (fun g hg e => (h.mir g hg).2 e), roww := (out_set21 w p _ _).row h.roww (fun g hg e => (h.miw g hg).2 e), rowk := (out_set21 w p _ _).row h.rowk (fun g hg e => (h.mik g hg).2 e), mia := hm, pra := ar.symm, pwa := aw.symm, pak := ak, lt := fun k hk => ⟨(h.lt k hk).1, Nat.lt_of_lt_of_le (h.lt k hk).2 (out_set21 w p 10 _).size⟩ }
theorem CliIn.nila (h : CliIn w B p K x vr vw va vk O) : CliIn (w.setCell ⟨p, 10, none⟩ (.slice none 0 0)) B p K { x with asks := [] } vr vw (.slice none 0 0) vk O :=
  h.seta (l := []) (own_nil _ _ _ _) (fun g hg => by cases hg) (Apart.nil _) (Apart.nil _) (Apart.nil _)
/-- Behind an append to the row of asks. -/
theorem CliIn.growa (h : CliIn w B p K x vr vw va vk O) {w1 : World} (hB : B ≤ w.heap.size) (hg : w.grownBy w1 va.ownBlock) {u : Value} {l : List AskD} (hr : w1.ownsRow B 103 4 u l.length (askCells l)) (hu : ∀ g, u.ownBlock = some g → va.ownBlock = some g ∨ w.heap.size ≤ g) :
    CliIn (w1.setCell ⟨p, 10, none⟩ u) B p K { x with asks := l } vr vw u vk (ext O w w1) := by
  have hout : Out (fun k => va.ownBlock = some k) w w1 := Out.of_grown hg (fun k e => e)
  have hp := h.lt p h.hp
  have hm : ∀ g, u.ownBlock = some g → ext O w w1 g ∧ g ≠ p := fun g hg' => by
    have hl := (hr.lt g hg').2
    rcases hu g hg' with e | e
    · exact ⟨.inl (h.mia g e).1, (h.mia g e).2⟩
    · exact ⟨.inr ⟨e, hl⟩, by omega⟩
  have ar : Apart u vr := fun g hg' e => by
    rcases hu g hg' with q | q
    · exact h.pra.symm g q e
    · have := (h.lt g (h.mir g e).1).2; omega
  have aw : Apart u vw := fun g hg' e => by
    rcases hu g hg' with q | q
    · exact h.pwa.symm g q e
    · have := (h.lt g (h.miw g e).1).2; omega
  have ak : Apart u vk := fun g hg' e => by
    rcases hu g hg' with q | q
    · exact h.pak g q e
    · have := (h.lt g (h.mik g e).1).2; omega
  have hblk : w1.heap[p]? = some _ := hout.obj h.blk (fun e => (h.mia p e).2 rfl)
  have rr := hout.row h.rowr (fun g hg' e => h.pra.symm g e hg')
  have rw := hout.row h.roww (fun g hg' e => h.pwa.symm g e hg')
  have rk := hout.row h.rowk (fun g hg' e => h.pak g e hg')
  have ho := out_set21 w1 p 10 u
  exact { blk := by simpa using blk_set21 (j := 10) u hblk, rowa := ho.row hr (fun g hg' e => (hm g hg').2 e), rowr := ho.row rr (fun g hg' e => (h.mir g hg').2 e), roww := ho.row rw (fun g hg' e => (h.miw g hg').2 e), rowk := ho.row rk (fun g hg' e => (h.mik g hg').2 e), hp := .inl h.hp, mia := hm, mir := fun g hg' => ⟨.inl (h.mir g hg').1, (h.mir g hg').2⟩, miw := fun g hg' => ⟨.inl (h.miw g hg').1, (h.miw g hg').2⟩, mik := fun g hg' => ⟨.inl (h.mik g hg').1, (h.mik g hg').2⟩, pra := ar.symm, pwa := aw.symm, pak := ak, prw := h.prw, prk := h.prk, pwk := h.pwk, lt := fun k hk' => Or.elim hk' (fun q => ⟨(h.lt k q).1, by have := (h.lt k q).2; have := hg.size; have := ho.size; omega⟩) (fun q => ⟨by omega, by have := ho.size; omega⟩) }
/-- The row of keys is another one: one of the call's own, or the one that was there. -/
theorem CliIn.setk (h : CliIn w B p K x vr vw va vk O) {u : Value} {l : List ByteArray} (hr : w.ownsRow B 9 1 u l.length ((l).map Value.string)) (hm : ∀ g, u.ownBlock = some g → O g ∧ g ≠ p)
    (ar : Apart u vr) (aw : Apart u vw) (aa : Apart u va) : CliIn (w.setCell ⟨p, 11, none⟩ u) B p K { x with keys := l } vr vw va u O :=
  { h with blk := by simpa using blk_set21 (j := 11) u h.blk, rowk := (out_set21 w p _ _).row hr (fun g hg e => (hm g hg).2 e), rowr := (out_set21 w p _ _).row h.rowr (fun g hg e => (h.mir g hg).2 e), roww := (out_set21 w p _ _).row h.roww (fun g hg e => (h.miw g hg).2 e), rowa := (out_set21 w p _ _).row h.rowa (fun g hg e => (h.mia g hg).2 e), mik := hm, prk := ar.symm, pwk := aw.symm, pak := aa.symm, lt := fun k hk => ⟨(h.lt k hk).1, Nat.lt_of_lt_of_le (h.lt k hk).2 (out_set21 w p 11 _).size⟩ }
theorem CliIn.nilk (h : CliIn w B p K x vr vw va vk O) : CliIn (w.setCell ⟨p, 11, none⟩ (.slice none 0 0)) B p K { x with keys := [] } vr vw va (.slice none 0 0) O :=
  h.setk (l := []) (own_nil _ _ _ _) (fun g hg => by cases hg) (Apart.nil _) (Apart.nil _) (Apart.nil _)
end
end Go.Proofs.YtjgloipgnnigmaaGreatDoor
/- No client: what each method answers. -/
namespace Go.Proofs.YtjgloipgnnigmaaGreatDoor
open Go.RowKit Go.Shelf

theorem calls_b21 {P : Program} {f : FuncId} {args : Array Value} {w : World} {z x : Bool} (e : z = x) (h : Calls P f args w fun e w' => e = .returned (.bool z) ∧ Below w.heap.size w w') : Calls P f args w fun e w' => e = .returned (.bool x) ∧ Below w.heap.size w w' := by
  rw [e] at h; exact h
end Go.Proofs.YtjgloipgnnigmaaGreatDoor
/- client.New, and the small methods: in, Begin, State, Floor. -/
namespace Go.Proofs.YtjgloipgnnigmaaGreatDoor
open Go.RowKit Go.Shelf

def cliOK (K : CliK) : Bool := formedB K.c && decide (1 ≤ K.ses) && decide (K.ses ≤ 8)
def CliNewPost (w : World) (K : CliK) (e : Ending) (w' : World) : Prop :=
  ∃ p, e = .returned (.pointer (some ⟨p, 0, none⟩)) ∧ CliAt w' w.heap.size p K cli0 (fun k => k = p) ∧ Below w.heap.size w w'
theorem cli_new {w w' : World} {K : CliK} {B : Nat} (hB : B ≤ w.heap.size) (e : w.alloc (.cells #[.slice K.A K.c.reps.length K.ca, .slice K.B K.c.bnds.length K.cb, .int .i64 K.ses, .int .i64 0, .int .i64 0, .int .i64 0, .int .i64 0, .int .u64 0, .slice none 0 0, .slice none 0 0, .slice none 0 0, .slice none 0 0, .int .u64 0] 95) = w') :
    CliAt w' B w.heap.size K cli0 (fun k => k = w.heap.size) := by
  subst e
  exact ⟨_, _, _, _, { blk := heap_alloc_new w _, rowr := own_nil _ _ _ _, roww := own_nil _ _ _ _, rowa := own_nil _ _ _ _, rowk := own_nil _ _ _ _, hp := rfl, mir := fun g hg => (by cases hg), miw := fun g hg => (by cases hg), mia := fun g hg => (by cases hg), mik := fun g hg => (by cases hg), prw := Apart.nil _, pra := Apart.nil _, prk := Apart.nil _, pwa := Apart.nil _, pwk := Apart.nil _, pak := Apart.nil _, lt := fun k hk => by subst hk; exact ⟨hB, by simp⟩ }⟩
set_option maxHeartbeats 1000000 in
theorem cliNew_ok (K : CliK) (w : World) (h : CfgAt w K.c K.A K.B) (hk : cliOK K = true) : Calls Tryz.prog 20 #[K.cv, .int .i64 K.ses] w (CliNewPost w K) := by
  simp only [cliOK, Bool.and_eq_true, decide_eq_true_eq] at hk
  obtain ⟨⟨hf, h1⟩, h8⟩ := hk
  obtain ⟨c, A, B, ca, cb, ses⟩ := K
  simp only at h hf h1 h8
  have q1 : ¬ (ses < 1) := by omega
  have q8 : ¬ (8 < ses) := by omega
  obtain ⟨W, eW, HB, c0, c1⟩ := box2 w (.slice A c.reps.length ca) (.slice B c.bnds.length cb) 25
  have h := h.later HB
  go_enter Tryz.func20, Tryz.ntmps20
  go_wp2_with (go_at_call 55; refine (calls_b21 hf (formed_any c A B ca cb _ h)).mono ?_; rintro e w1 ⟨rfl, hb⟩; replace HB := keepB HB hb; replace c0 := keep hb c0; replace c1 := keep hb c1)
  go_ret
  exact ⟨w1.heap.size, rfl, cli_new HB.size rfl, HB.alloc HB.size _⟩
theorem cliNew_no (K : CliK) (w : World) (h : CfgAt w K.c K.A K.B) (hk : cliOK K = false) : Calls Tryz.prog 20 #[K.cv, .int .i64 K.ses] w fun e w' => e = .returned (.pointer none) ∧ Below w.heap.size w w' := by
  obtain ⟨c, A, B, ca, cb, ses⟩ := K
  simp only [cliOK] at h hk
  obtain ⟨W, eW, HB, c0, c1⟩ := box2 w (.slice A c.reps.length ca) (.slice B c.bnds.length cb) 25
  have h := h.later HB
  cases hf : formedB c
  · clear hk
    go_enter Tryz.func20, Tryz.ntmps20
    go_wp2_with (go_at_call 55; refine (calls_b21 hf (formed_any c A B ca cb _ h)).mono ?_; rintro e w1 ⟨rfl, hb⟩; replace HB := keepB HB hb; replace c0 := keep hb c0; replace c1 := keep hb c1)
    go_ret
    exact ⟨rfl, HB⟩
  · by_cases q1 : ses < 1
    · clear hk
      go_enter Tryz.func20, Tryz.ntmps20
      go_wp2_with (go_at_call 55; refine (calls_b21 hf (formed_any c A B ca cb _ h)).mono ?_; rintro e w1 ⟨rfl, hb⟩; replace HB := keepB HB hb; replace c0 := keep hb c0; replace c1 := keep hb c1)
      go_ret
      exact ⟨rfl, HB⟩
    · have q8 : 8 < ses := by
        rw [hf, decide_eq_true (show 1 ≤ ses by omega)] at hk
        simp at hk; omega
      clear hk
      go_enter Tryz.func20, Tryz.ntmps20
      go_wp2_with (go_at_call 55; refine (calls_b21 hf (formed_any c A B ca cb _ h)).mono ?_; rintro e w1 ⟨rfl, hb⟩; replace HB := keepB HB hb; replace c0 := keep hb c0; replace c1 := keep hb c1)
      go_ret
      exact ⟨rfl, HB⟩
end Go.Proofs.YtjgloipgnnigmaaGreatDoor
/- The client's small methods: in, State, Floor, Begin, rest, Abort. -/
namespace Go.Proofs.YtjgloipgnnigmaaGreatDoor
open Go.RowKit Go.Shelf

/-- A method's end: its value, the client behind it. -/
def CliPost (w : World) (B p : Nat) (K : CliK) (O : Nat → Prop) (v : Value) (x : CliD) (e : Ending) (w' : World) : Prop :=
  e = .returned v ∧ CliAt w' B p K x (ext O w w') ∧ Out O w w'
section
variable {w : World} {B p : Nat} {K : CliK} {x : CliD} {O : Nat → Prop}
theorem in_any (h : CliAt w B p K x O) (k : Int) (b : Bool) (hb : ((x.state : Int) == k) = b) : Calls Tryz.prog 35 #[.pointer (some ⟨p, 0, none⟩), .int .i64 k] w fun e w' => e = .returned (.bool b) ∧ w = w' := by
  obtain ⟨vr, vw, va, vk, h⟩ := h
  obtain ⟨_, _, _, c3, _⟩ := h.cs
  cases b
  all_goals
    go_enter Tryz.func35, Tryz.ntmps35
    go_wp2
    go_ret
    exact ⟨rfl, rfl⟩
theorem state_any (h : CliAt w B p K x O) : Calls Tryz.prog 18 #[.pointer (some ⟨p, 0, none⟩)] w fun e w' => e = .returned (.int .i64 (x.state : Int)) ∧ w = w' := by
  obtain ⟨vr, vw, va, vk, h⟩ := h
  obtain ⟨_, _, _, c3, _⟩ := h.cs
  go_enter Tryz.func18, Tryz.ntmps18
  go_wp2
  go_ret
  exact ⟨rfl, rfl⟩
theorem floor_any (h : CliAt w B p K x O) : Calls Tryz.prog 19 #[.pointer (some ⟨p, 0, none⟩)] w fun e w' => e = .returned (.int .u64 (x.floor : Int)) ∧ w = w' := by
  obtain ⟨vr, vw, va, vk, h⟩ := h
  obtain ⟨_, _, _, _, _, _, _, c7, _⟩ := h.cs
  go_enter Tryz.func19, Tryz.ntmps19
  go_wp2
  go_ret
  exact ⟨rfl, rfl⟩
theorem cli_same {w' : World} (h : CliAt w B p K x O) (hB : B ≤ w.heap.size) (e : w = w') : CliAt w' B p K x (ext O w w') ∧ Out O w w' := by
  subst e
  exact ⟨h.stay (Below.refl _ _) hB, Out.refl _ _⟩
theorem out_p {w' : World} {v : Value} {j : Nat} (hp : O p) (h : Out O w w') : Out O w (w'.setCell ⟨p, j, none⟩ v) :=
  h.trans' ((out_set21 w' p j v).mono fun k hk => by rw [hk]; exact hp)
set_option maxRecDepth 100000 in
theorem begin_any (h : CliAt w B p K x O) (hB : B ≤ w.heap.size) (hs : x.seq ≤ 1048576) : Calls Tryz.prog 14 #[.pointer (some ⟨p, 0, none⟩)] w (CliPost w B p K O (.int .i64 (beginE x)) (beginD x)) := by
  have h0 := h
  obtain ⟨vr, vw, va, vk, h⟩ := h
  obtain ⟨_, _, _, c3, c4, _⟩ := h.cs
  have f3 := h.fz 2
  have f4 := h.fz 3
  by_cases s0 : x.state = 0
  · have q0 : ((x.state : Int) == 0) = true := by rw [beq_iff_eq]; omega
    by_cases s1 : x.seq < 1048576
    · have HE : Hid (beginE x = 0 ∧ beginD x = { x with seq := x.seq + 1, state := 1 }) := by show _ ∧ _; simp [beginE, beginD, s0, s1]
      have q1 : decide ((1048576 : Int) ≤ (x.seq : Int)) = false := by rw [decide_eq_false_iff_not]; omega
      have f3 := h.fz 3
      have f4 := h.fz 4
      have hw1 : IntKind.i64.wrap ((x.seq : Int) + 1) = (x.seq : Int) + 1 := IntWalk.i64_in _ (by omega)
      clear s0 s1 hs
      go_enter Tryz.func14, Tryz.ntmps14
      go_wp2_with (go_at_call 35; refine (in_any h0 0 true q0).mono ?_; rintro e w1 ⟨rfl, rfl⟩)
      go_ret
      rw [HE.out.1, HE.out.2]
      have h1 := (h.s4 (x.seq + 1)).s3 1
      exact ⟨rfl, ⟨vr, vw, va, vk, h1.widen (fun k hk => (h.lt k hk).2) hB⟩, out_p h.hp (out_p h.hp (Out.refl _ _))⟩
    · have HE : Hid (beginE x = 7 ∧ beginD x = x) := by show _ ∧ _; simp [beginE, beginD, s0, s1]
      have q1 : decide ((1048576 : Int) ≤ (x.seq : Int)) = true := by rw [decide_eq_true_iff]; omega
      clear s0 s1 hs
      go_enter Tryz.func14, Tryz.ntmps14
      go_wp2_with (go_at_call 35; refine (in_any h0 0 true q0).mono ?_; rintro e w1 ⟨rfl, rfl⟩)
      go_ret
      rw [HE.out.1, HE.out.2]
      exact ⟨rfl, cli_same h0 hB rfl⟩
  · have q0 : ((x.state : Int) == 0) = false := by rw [beq_eq_false_iff_ne]; omega
    have HE : Hid (beginE x = 11 ∧ beginD x = x) := by show _ ∧ _; simp [beginE, beginD, s0]
    clear s0
    go_enter Tryz.func14, Tryz.ntmps14
    go_wp2_with (go_at_call 35; refine (in_any h0 0 false q0).mono ?_; rintro e w1 ⟨rfl, rfl⟩)
    go_ret
    rw [HE.out.1, HE.out.2]
    exact ⟨rfl, cli_same h0 hB rfl⟩
set_option maxHeartbeats 1000000 in
theorem rest_any (h : CliAt w B p K x O) (hB : B ≤ w.heap.size) : Calls Tryz.prog 41 #[.pointer (some ⟨p, 0, none⟩)] w (CliPost w B p K O (.tuple #[]) (restD x)) := by
  obtain ⟨vr, vw, va, vk, h⟩ := h
  obtain ⟨c0, c1, c2, c3, c4, c5, c6, c7, c8, c9, c10, c11, c12⟩ := h.cs
  have f3 := h.fz 3
  have f8 := h.fz 8
  have f9 := h.fz 9
  have f10 := h.fz 10
  have f11 := h.fz 11
  have f12 := h.fz 12
  go_enter Tryz.func41, Tryz.ntmps41
  go_wp2
  go_end0
  have h1 := (((((h.s3 0).nilr).nilw).nila).nilk).s12 0
  exact ⟨rfl, ⟨_, _, _, _, h1.widen (fun k hk => (h.lt k hk).2) hB⟩, out_p h.hp (out_p h.hp (out_p h.hp (out_p h.hp (out_p h.hp (out_p h.hp (Out.refl _ _))))))⟩
end
end Go.Proofs.YtjgloipgnnigmaaGreatDoor
/- Whole structs, loaded and stored by one law each; a message's block, cell by cell. -/
namespace Go.Proofs.YtjgloipgnnigmaaGreatDoor
open Go.RowKit

section
variable {P : Program}
theorem run_loadVar_cells (w : World) (ad : Addr) (ty : TypeId) (cs : Array Value) (d : TypeDesc) (hc : CellRow w ad cs)
    (hu : P.underlying ty = some d) (hd : (match d with | .struct _ | .array _ _ => true | _ => false) = true) (hi : (P.info? ty).map (·.size) = some cs.size) :
    (loadVar ty ad).run P w = .ok (.agg cs) w := by
  have hl : (loadCells ad cs.toList.length).run P w = .ok cs.toList.toArray w :=
    run_loadCells_list (P := P) w ad cs.toList (fun j v hv => hc j v (by simpa using hv))
  cases hq : P.info? ty with
  | none => simp [hq] at hi
  | some i =>
    have hs : i.size = cs.size := by simpa [hq] using hi
    have hagg : (isAgg ty).run P w = .ok true w := by
      unfold isAgg
      rw [Sem.run_bind, run_underlying hu w]
      cases d <;> simp_all
    simp only [Array.length_toList, Array.toArray_toList] at hl
    simp [loadVar, Sem.run_bind, hagg, sizeOf, typeInfo, hq, hs, hl]
theorem wp_load_cells {o : Oper} {a : Act} {w : World} {K : Act → World → Prop} {Q : Exit → Act → World → Prop} (ty : TypeId) (x : Operand) (ho : o.op = .load ty x)
    (ad : Addr) (hx : a.eval x = .pointer (some ad)) (cs : Array Value) (d : TypeDesc) (hc : CellRow w ad cs)
    (hu : P.underlying ty = some d) (hd : (match d with | .struct _ | .array _ _ => true | _ => false) = true) (hi : (P.info? ty).map (·.size) = some cs.size)
    (h : K (a.put o.dst (.agg cs)) w) : o.wp P a w K Q := by
  unfold Oper.wp execOp
  simp only [ho, hx, Instr.loadAt, Instr.sureAddr, Sem.run_bind, Sem.run_pure, Result.andThen_ok, run_loadVar_cells w ad ty cs d hc hu hd hi]
  exact h
theorem wpList_load_cells {ops : Array Oper} {rest : List Oper} {o : Oper} {a : Act} {w : World} {Q : Exit → Act → World → Prop} (hgd : Region.wanted o (yielded ops a.tmps) = true) (ty : TypeId) (x : Operand) (ho : o.op = .load ty x)
    (ad : Addr) (hx : a.eval x = .pointer (some ad)) (cs : Array Value) (d : TypeDesc) (hc : CellRow w ad cs)
    (hu : P.underlying ty = some d) (hd : (match d with | .struct _ | .array _ _ => true | _ => false) = true) (hi : (P.info? ty).map (·.size) = some cs.size)
    (h : wpList P ops Q rest (a.put o.dst (.agg cs)) w) : wpList P ops Q (o :: rest) a w :=
  BigFrame.wpList_want hgd fun _ hK => wp_load_cells ty x ho ad hx cs d hc hu hd hi (hK _ _ h)
end
theorem fold_set (cs : List Value) : ∀ (i : Nat) (base : Array Value), i + cs.length ≤ base.size →
    ((cs.zipIdx i).foldl (fun (a : Array Value) (p : Value × Nat) => a.setIfInBounds (0 + p.2) p.1) base).toList = base.toList.take i ++ cs ++ base.toList.drop (i + cs.length) := by
  induction cs with
  | nil => intro i base _; simp
  | cons c cs ih =>
    intro i base h
    simp only [List.length_cons] at h
    rw [List.zipIdx_cons, List.foldl_cons, ih (i + 1) _ (by simp; omega)]
    simp only [Array.toList_setIfInBounds, Nat.zero_add, List.length_cons]
    apply List.ext_getElem?
    intro k
    simp only [List.getElem?_append, List.length_append, List.length_take, List.length_set, Array.length_toList, List.getElem?_take, List.getElem?_drop, List.getElem?_set, List.length_cons]
    by_cases h1 : k < i
    · simp [h1, show k < i + 1 by omega, show min (i + 1) base.size = i + 1 by omega, show min i base.size = i by omega, show i ≠ k by omega, show k < i + 1 + cs.length by omega, show k < i + (cs.length + 1) by omega]
    · by_cases h2 : k = i
      · subst h2
        simp [show min (k + 1) base.size = k + 1 by omega, show min k base.size = k by omega, show k < base.size by omega, show k < k + 1 + cs.length by omega]
      · by_cases h3 : k < i + 1 + cs.length
        · simp [h1, show ¬ k < i + 1 by omega, show min (i + 1) base.size = i + 1 by omega, show min i base.size = i by omega, h3, show k < i + (cs.length + 1) by omega, show k - i = (k - (i + 1)) + 1 by omega]
        · simp [show min (i + 1) base.size = i + 1 by omega, show min i base.size = i by omega, h3, show ¬ k < i + (cs.length + 1) by omega, show i ≠ i + 1 + cs.length + (k - (i + 1 + cs.length)) by omega]
          congr 1; omega
theorem fold_all (cs base : Array Value) (h : base.size = cs.size) : cs.zipIdx.foldl (fun (a : Array Value) (p : Value × Nat) => a.setIfInBounds (0 + p.2) p.1) base = cs := by
  have := fold_set cs.toList 0 base (by simp; omega)
  apply Array.ext'
  rw [← Array.foldl_toList, Array.toList_zipIdx, this]
  simp [h]
section
variable {P : Program}
theorem run_buildSlice1 (w : World) (t elem : TypeId) (v : Value) (cs : Array Value) (z : Value) (hv : v.cells = cs) (hu : P.underlying t = some (.slice elem)) (hi : (P.info? elem).map (·.size) = some cs.size) (h0 : 0 < cs.size) (h24 : cs.size ≤ 16777216)
    (hz : (zeroValue elem).run P w = .ok z w) :
    (Instr.buildSlice t 1 #[(0, v)]).run P w = .ok (.slice (some ⟨w.heap.size, 0, none⟩) 1 1) (w.alloc (.cells cs elem)) := by
  cases hq : P.info? elem with
  | none => simp [hq] at hi
  | some i =>
    have hs : i.size = cs.size := by simpa [hq] using hi
    have hf : Instr.fill (fun k => some (k * cs.size, cs.size)) ((Array.range cs.size).map (z.cells[· % z.cells.size]!)) [(0, v)] = some cs := by
      simp only [Instr.fill, hv, Nat.zero_mul, Nat.zero_add]
      rw [if_neg (by simp)]
      have := fold_all cs ((Array.range cs.size).map (z.cells[· % z.cells.size]!)) (by simp)
      simpa using this
    have h1 : ¬ (1 * cs.size > 2 ^ 24) := by omega
    have h2 : ¬ (cs.size = 0) := by omega
    simp [Instr.buildSlice, Sem.run_bind, run_underlying hu, sizeOf, typeInfo, hq, hs, h2, hz, hf, newRow, show ¬ (16777216 < cs.size) by omega]
theorem wp_buildSlice1 {o : Oper} {a : Act} {w : World} {K : Act → World → Prop} {Q : Exit → Act → World → Prop} (t elem : TypeId) (x : Operand) (ho : o.op = .buildSlice t 1 #[(0, x)])
    (cs : Array Value) (hx : a.eval x = .agg cs) (z : Value) (hu : P.underlying t = some (.slice elem)) (hi : (P.info? elem).map (·.size) = some cs.size) (h0 : 0 < cs.size) (h24 : cs.size ≤ 16777216) (hz : (zeroValue elem).run P w = .ok z w)
    (h : K (a.put o.dst (.slice (some ⟨w.heap.size, 0, none⟩) 1 1)) (w.alloc (.cells cs elem))) : o.wp P a w K Q := by
  unfold Oper.wp execOp
  simp only [ho, List.map_toArray, List.map_cons, List.map_nil, hx, Sem.run_bind, run_buildSlice1 w t elem (.agg cs) cs z rfl hu hi h0 h24 hz, Result.andThen_ok]
  exact h
theorem wpList_buildSlice1 {ops : Array Oper} {rest : List Oper} {o : Oper} {a : Act} {w : World} {Q : Exit → Act → World → Prop} (hgd : Region.wanted o (yielded ops a.tmps) = true) (t elem : TypeId) (x : Operand) (ho : o.op = .buildSlice t 1 #[(0, x)])
    (cs : Array Value) (hx : a.eval x = .agg cs) (z : Value) (hu : P.underlying t = some (.slice elem)) (hi : (P.info? elem).map (·.size) = some cs.size) (h0 : 0 < cs.size) (h24 : cs.size ≤ 16777216) (hz : (zeroValue elem).run P w = .ok z w)
    (h : wpList P ops Q rest (a.put o.dst (.slice (some ⟨w.heap.size, 0, none⟩) 1 1)) (w.alloc (.cells cs elem))) : wpList P ops Q (o :: rest) a w :=
  BigFrame.wpList_want hgd fun _ hK => wp_buildSlice1 t elem x ho cs hx z hu hi h0 h24 hz (hK _ _ h)
end
theorem row_of_obj {w : World} {g : Nat} {cs : Array Value} {t : TypeId} (h : w.heap[g]? = some (.cells cs t (0, 0))) : CellRow w ⟨g, 0, none⟩ cs := fun j v hv => by
  rw [Go.WideShapes.add_plain, Nat.zero_add, cell_of_row w g j cs t _ h]; exact hv
theorem below_setRow {B : Nat} {a w : World} (h : Below B a w) {g : Nat} (hg : B ≤ g) (cs : Array Value) : Below B a (w.setRow g cs) :=
  h.trans ⟨rfl, rfl, rfl, by simp, fun k hk => setRow_other w g k cs (by omega)⟩
/-- A new block, filled anew: the world behind it under a name. -/
theorem filled (w : World) (old new : Array Value) (t : TypeId) : ∃ W : World, (w.alloc (.cells old t)).setRow w.heap.size new = W ∧ Below w.heap.size w W ∧ W.heap.size = w.heap.size + 1 ∧ W.heap[w.heap.size]? = some (.cells new t (0, 0)) :=
  ⟨_, rfl, below_setRow (below1 _ _) (Nat.le_refl _) _, by simp, setRow_heap _ _ _ _ _ _ (heap_alloc_new w _)⟩
theorem boxed (w : World) (cs : Array Value) (t : TypeId) : ∃ W : World, w.alloc (.cells cs t) = W ∧ Below w.heap.size w W ∧ W.heap.size = w.heap.size + 1 ∧ W.heap[w.heap.size]? = some (.cells cs t (0, 0)) :=
  ⟨_, rfl, below1 _ _, by simp, heap_alloc_new w _⟩
/-- A struct stored into a block that was just made: the world behind it under a name of its own. -/
theorem wpList_store_new {P : Program} {ops : Array Oper} {rest : List Oper} {o : Oper} {a : Act} {w : World} {Q : Exit → Act → World → Prop} (hgd : o.guard = none) (ty : TypeId) (x y : Operand) (ho : o.op = .store ty x y)
    (w0 : World) (cells : Array Value) (t : TypeId) {old : Array Value} (hw : w = w0.alloc (.cells old t)) (hx : a.eval x = .pointer (some ⟨w0.heap.size, 0, none⟩)) (hy : a.eval y = .agg cells)
    (hi : (P.info? ty).map (·.size) = some cells.size) (hold : old.size = cells.size) (h1 : cells.all (·.oneCell') = true)
    (h : ∀ W, Below w0.heap.size w0 W → W.heap.size = w0.heap.size + 1 → W.heap[w0.heap.size]? = some (.cells cells t (0, 0)) → wpList P ops Q rest (a.put o.dst undef) W) : wpList P ops Q (o :: rest) a w := by
  subst hw
  refine wpList_store_row hgd ty x y ho w0.heap.size cells hx hy t old (heap_alloc_new w0 _) hi hold h1 ?_
  obtain ⟨W, eW, hb, hs, hr⟩ := filled w0 old cells t
  rw [eW]
  exact h W hb hs hr
theorem obj_keep {w w' : World} {g : Nat} {o : Obj} (h : w.heap[g]? = some o) (hb : Below w.heap.size w w') : w'.heap[g]? = some o := by
  rw [hb.block g (Array.getElem?_eq_some_iff.1 h).1]; exact h
theorem msg_size (m : MsgV) : m.vs.size = 34 := rfl
theorem op_size (o : OpX) : o.vs.size = 41 := rfl
theorem msg_one (m : MsgV) : m.vs.all (·.oneCell') = true := by simp [MsgV.vs, Value.oneCell']
theorem op_one (o : OpX) : o.vs.all (·.oneCell') = true := by simp [OpX.vs, Value.oneCell']
theorem msg_cs {w : World} {g : Nat} {m : MsgV} {t : TypeId} (h : w.heap[g]? = some (.cells m.vs t (0, 0))) :
    w.cell? ⟨g, 0, none⟩ = some (.int .i64 m.kind) ∧ w.cell? ⟨g, 1, none⟩ = some (.int .u32 (m.br : Int)) ∧ w.cell? ⟨g, 2, none⟩ = some (.int .i64 m.bn) ∧ w.cell? ⟨g, 3, none⟩ = some (.int .i64 m.slot) ∧ w.cell? ⟨g, 4, none⟩ = some (.bool m.has) ∧ w.cell? ⟨g, 5, none⟩ = some (.int .u32 (m.vr : Int)) ∧ w.cell? ⟨g, 6, none⟩ = some (.int .i64 m.vn) ∧ w.cell? ⟨g, 7, none⟩ = some (.int .i64 m.ck) ∧ w.cell? ⟨g, 8, none⟩ = some (.int .i64 m.ct.ses) ∧ w.cell? ⟨g, 9, none⟩ = some (.int .i64 m.ct.seq) ∧ w.cell? ⟨g, 10, none⟩ = some (.slice m.cA m.ct.rds.length m.cca) ∧ w.cell? ⟨g, 11, none⟩ = some (.slice m.cB m.ct.wrs.length m.ccb) ∧ w.cell? ⟨g, 12, none⟩ = some (.int .i64 m.cis) ∧ w.cell? ⟨g, 13, none⟩ = some (.int .i64 m.ciq) ∧ w.cell? ⟨g, 14, none⟩ = some (.int .i64 m.cg) ∧ w.cell? ⟨g, 15, none⟩ = some (.int .u64 (m.cst : Int)) ∧ w.cell? ⟨g, 16, none⟩ = some (.bool m.cy) ∧ w.cell? ⟨g, 17, none⟩ = some (.int .i64 m.t.ses) ∧ w.cell? ⟨g, 18, none⟩ = some (.int .i64 m.t.seq) ∧ w.cell? ⟨g, 19, none⟩ = some (.slice m.A m.t.rds.length m.ca) ∧ w.cell? ⟨g, 20, none⟩ = some (.slice m.B m.t.wrs.length m.cb) ∧ w.cell? ⟨g, 21, none⟩ = some (.int .i64 m.ids) ∧ w.cell? ⟨g, 22, none⟩ = some (.int .i64 m.idq) ∧ w.cell? ⟨g, 23, none⟩ = some (.int .i64 m.g) ∧ w.cell? ⟨g, 24, none⟩ = some (.int .u64 (m.st : Int)) ∧ w.cell? ⟨g, 25, none⟩ = some (.bool m.y) ∧ w.cell? ⟨g, 26, none⟩ = some (.int .i64 m.num) ∧ w.cell? ⟨g, 27, none⟩ = some (.string m.key) ∧ w.cell? ⟨g, 28, none⟩ = some (.int .u64 (m.ver : Int)) ∧ w.cell? ⟨g, 29, none⟩ = some (.int .i64 m.val.kind) ∧ w.cell? ⟨g, 30, none⟩ = some (.int .u64 (m.val.bits : Int)) ∧ w.cell? ⟨g, 31, none⟩ = some (.string m.val.text) ∧ w.cell? ⟨g, 32, none⟩ = some (.int .i64 m.err) ∧ w.cell? ⟨g, 33, none⟩ = some (.slice m.D m.data.length m.cd) := by
  refine ⟨?_, ?_, ?_, ?_, ?_, ?_, ?_, ?_, ?_, ?_, ?_, ?_, ?_, ?_, ?_, ?_, ?_, ?_, ?_, ?_, ?_, ?_, ?_, ?_, ?_, ?_, ?_, ?_, ?_, ?_, ?_, ?_, ?_, ?_⟩ <;> (rw [cell_of_row w g _ _ _ _ h]; rfl)
theorem op_cs {w : World} {g : Nat} {o : OpX} {t : TypeId} (h : w.heap[g]? = some (.cells o.vs t (0, 0))) :
    w.cell? ⟨g, 0, none⟩ = some (.int .i64 o.kind) ∧ w.cell? ⟨g, 1, none⟩ = some (.string o.key) ∧ w.cell? ⟨g, 2, none⟩ = some (.int .i64 o.val.kind) ∧ w.cell? ⟨g, 3, none⟩ = some (.int .u64 (o.val.bits : Int)) ∧ w.cell? ⟨g, 4, none⟩ = some (.string o.val.text) ∧ w.cell? ⟨g, 5, none⟩ = some (.slice o.K o.keys.length o.ck) ∧ w.cell? ⟨g, 40, none⟩ = some (.int .i64 o.num) ∧ CellRow w ⟨g, 6, none⟩ o.m.vs := by
  refine ⟨?_, ?_, ?_, ?_, ?_, ?_, ?_, ?_⟩
  all_goals first | (rw [cell_of_row w g _ _ _ _ h]; rfl) | skip
  intro j v hv
  have hj : j < 34 := by rw [← msg_size o.m]; exact (Array.getElem?_eq_some_iff.1 hv).1
  rw [Go.WideShapes.add_plain, cell_of_row w g _ _ _ _ h]
  have : o.vs.toList = (o.vs.toList.take 6) ++ (o.m.vs.toList ++ [.int .i64 o.num]) := rfl
  rw [← Array.getElem?_toList, this, List.getElem?_append_right (by simp [op_size]), List.getElem?_append_left (by simp [op_size, msg_size]; omega)]
  simp only [List.length_take, Array.length_toList, op_size]
  rw [show 6 + j - min 6 41 = j by omega, Array.getElem?_toList]
  exact hv
end Go.Proofs.YtjgloipgnnigmaaGreatDoor
/- parishlaw21.plain: a message as the reference has it: the same cells. -/
namespace Go.Proofs.YtjgloipgnnigmaaGreatDoor
open Go.RowKit Go.Shelf

theorem info_rmsg : (Tryz.prog.info? 85).map (·.size) = some 34 := by kernel_rfl
set_option maxHeartbeats 1000000 in
theorem plain_any (m : MsgV) (w : World) : Calls Tryz.prog 28 #[m.v] w fun e w' => e = .returned m.v ∧ Below w.heap.size w w' := by
  unfold MsgV.v
  obtain ⟨W, eW, HB, hsz, hrow⟩ := boxed w m.vs 43
  obtain ⟨c0, c1, c2, c3, c4, c5, c6, c7, c8, c9, c10, c11, c12, c13, c14, c15, c16, c17, c18, c19, c20, c21, c22, c23, c24, c25, c26, c27, c28, c29, c30, c31, c32, c33⟩ := msg_cs hrow
  have hlt : w.heap.size < W.heap.size := by omega
  clear hrow hsz
  go_enter Tryz.func28, Tryz.ntmps28
  go_wp2_with (refine wpList_store_row rfl 85 _ _ rfl W.heap.size m.vs rfl rfl 85 _ (heap_alloc_new W _) info_rmsg rfl (msg_one m) ?_)
  have hr := setRow_heap _ _ _ m.vs _ _ (heap_alloc_new W (.cells #[.int .i64 0, .int .u32 0, .int .i64 0, .int .i64 0, .bool false, .int .u32 0, .int .i64 0, .int .i64 0, .int .i64 0, .int .i64 0, .slice none 0 0, .slice none 0 0, .int .i64 0, .int .i64 0, .int .i64 0, .int .u64 0, .bool false, .int .i64 0, .int .i64 0, .slice none 0 0, .slice none 0 0, .int .i64 0, .int .i64 0, .int .i64 0, .int .u64 0, .bool false, .int .i64 0, .string ByteArray.empty, .int .u64 0, .int .i64 0, .int .u64 0, .string ByteArray.empty, .int .i64 0, .slice none 0 0] 85))
  exact bodyPost_ret (v := .agg m.vs) (results_cell_row rfl _ _ W.heap.size _ m.vs _ _ rfl hr Tryz.underlying85 rfl info_rmsg) rfl ⟨rfl, below_setRow (HB.alloc HB.size _) HB.size _⟩
end Go.Proofs.YtjgloipgnnigmaaGreatDoor
/- A whole struct loaded in a quiet walk: by one law. -/
namespace Go.Proofs.YtjgloipgnnigmaaGreatDoor
open Go.RowKit

theorem quiet_load_cells {P : Program} {o : Oper} {a : Act} {C : World → Prop} {K : Act → Prop} (ty : TypeId) (x : Operand) (ho : o.op = .load ty x)
    (ad : Addr) (hx : a.eval x = .pointer (some ad)) (cs : Array Value) (d : TypeDesc) (hc : ∀ w, C w → CellRow w ad cs)
    (hu : P.underlying ty = some d) (hd : (match d with | .struct _ | .array _ _ => true | _ => false) = true) (hi : (P.info? ty).map (·.size) = some cs.size)
    (hk : K (a.put o.dst (.agg cs))) : o.quiet P a C K := by
  refine ⟨.agg cs, fun w hw => ?_, hk⟩
  unfold Oper.quietAt execOp
  simp only [ho, hx, Instr.loadAt, Instr.sureAddr, Sem.run_bind, Sem.run_pure, Result.andThen_ok, run_loadVar_cells w ad ty cs d (hc w hw) hu hd hi]
  exact ⟨rfl, rfl⟩
end Go.Proofs.YtjgloipgnnigmaaGreatDoor
