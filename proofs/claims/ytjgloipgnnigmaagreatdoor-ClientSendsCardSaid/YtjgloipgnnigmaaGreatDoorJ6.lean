/- How a client lies in memory: one block of thirteen cells and four rows of its own. -/
import Derived.Test.YtjgloipgnnigmaaGreatDoorJ5
import Derived.Test.YtjgloipgnnigmaaGreatDoorJ4
import Derived.Test.YtjgloipgnnigmaaGreatDoorJ3
import Derived.IntWalk
import Derived.Lib.QuietBelow
import Derived.BigQuiet
set_option linter.unusedVariables false
set_option linter.unusedSimpArgs false
namespace Go.Proofs.YtjgloipgnnigmaaGreatDoor
open Go.RowKit

/-- What a client has from the start: its configuration, and its session. -/
structure CliK where
  c : Cfg
  A : Option Addr
  B : Option Addr
  ca : Nat
  cb : Nat
  ses : Int
abbrev CliK.cv (K : CliK) : Value := .agg #[.slice K.A K.c.reps.length K.ca, .slice K.B K.c.bnds.length K.cb]
def askCells (l : List AskD) : List Value := l.flatMap fun a => [.int .i64 (a.n : Int), .int .i64 (a.g : Int), .string a.key, .int .u64 (a.st : Int)]
theorem askCells_snoc (l : List AskD) (a : AskD) : askCells (l ++ [a]) = askCells l ++ [.int .i64 (a.n : Int), .int .i64 (a.g : Int), .string a.key, .int .u64 (a.st : Int)] := by simp [askCells]
theorem askCells_len : ∀ l : List AskD, (askCells l).length = l.length * 4
  | [] => rfl
  | x :: l => by have := askCells_len l; simp [askCells] at *; omega
theorem askCells_at : ∀ (l : List AskD) (i : Nat), i < l.length → (askCells l)[i * 4]? = some (.int .i64 ((l.getD i noAsk).n : Int)) ∧ (askCells l)[i * 4 + 1]? = some (.int .i64 ((l.getD i noAsk).g : Int)) ∧ (askCells l)[i * 4 + 2]? = some (.string (l.getD i noAsk).key) ∧ (askCells l)[i * 4 + 3]? = some (.int .u64 ((l.getD i noAsk).st : Int))
  | [], i, h => by simp at h
  | x :: l, 0, _ => by simp [askCells]
  | x :: l, i + 1, h => by
    have := askCells_at l i (by simpa using h)
    rw [show (i + 1) * 4 = i * 4 + 4 by omega, show i * 4 + 4 + 1 = (i * 4 + 1) + 4 by omega, show i * 4 + 4 + 2 = (i * 4 + 2) + 4 by omega, show i * 4 + 4 + 3 = (i * 4 + 3) + 4 by omega]
    simpa [askCells] using this
def AsksAt (w : World) (A : Option Addr) (l : List AskD) : Prop :=
  ∀ i, i < l.length → ∃ b off, A = some ⟨b, off, none⟩ ∧ w.cell? ⟨b, off + i * 4, none⟩ = some (.int .i64 ((l.getD i noAsk).n : Int)) ∧ w.cell? ⟨b, off + i * 4 + 1, none⟩ = some (.int .i64 ((l.getD i noAsk).g : Int)) ∧
    w.cell? ⟨b, off + i * 4 + 2, none⟩ = some (.string (l.getD i noAsk).key) ∧ w.cell? ⟨b, off + i * 4 + 3, none⟩ = some (.int .u64 ((l.getD i noAsk).st : Int))
theorem AsksAt.later {w w' : World} {A : Option Addr} {l : List AskD} (h : AsksAt w A l) (hb : Below w.heap.size w w') : AsksAt w' A l := by
  intro i hi
  obtain ⟨b, off, e, h0, h1, h2, h3⟩ := h i hi
  exact ⟨b, off, e, keep hb h0, keep hb h1, keep hb h2, keep hb h3⟩
theorem AsksAt.at' {w : World} {A : Option Addr} {l : List AskD} (h : AsksAt w A l) {k : Nat} (hk : k < l.length) :
    ∃ b off n g s t, A = some ⟨b, off, none⟩ ∧ w.cell? ⟨b, off + k * 4, none⟩ = some (.int .i64 ((n : Nat) : Int)) ∧ w.cell? ⟨b, off + k * 4 + 1, none⟩ = some (.int .i64 ((g : Nat) : Int)) ∧
      w.cell? ⟨b, off + k * 4 + 2, none⟩ = some (.string s) ∧ w.cell? ⟨b, off + k * 4 + 3, none⟩ = some (.int .u64 ((t : Nat) : Int)) ∧ Hid (l.getD k noAsk = ⟨n, g, s, t⟩) := by
  obtain ⟨b, off, e, h0, h1, h2, h3⟩ := h k hk
  exact ⟨b, off, _, _, _, _, e, h0, h1, h2, h3, rfl⟩
theorem own_asks {w : World} {base : Nat} {e : TypeId} {v : Value} {l : List AskD} (h : w.ownsRow base e 4 v l.length (askCells l)) :
    ∃ (A : Option Addr) (cap : Nat), v = .slice A l.length cap ∧ l.length ≤ cap ∧ AsksAt w A l ∧ FreshP base A := by
  rcases h.2 with ⟨rfl, h0⟩ | ⟨g, cap, cur, rfl, hfr, hh, hn, _, _, ht⟩
  · exact ⟨none, 0, by rw [h0], by omega, fun i hi => by omega, fun a e => by cases e⟩
  · refine ⟨some ⟨g, 0, none⟩, cap, rfl, hn, fun i hi => ⟨g, 0, rfl, ?_⟩, fun a e => by cases e; exact hfr⟩
    have hc : ∀ j, j < l.length * 4 → w.cell? ⟨g, 0 + j, none⟩ = (askCells l)[j]? := by
      intro j hj
      have h1 : (cur.toList.take (l.length * 4))[j]? = (askCells l)[j]? := by rw [ht]
      rw [List.getElem?_take_of_lt (by omega)] at h1
      simp only [World.cell?, hh, Nat.zero_add, Option.isSome_none, Bool.false_eq_true, if_false]
      rw [← Array.getElem?_toList, h1]
    have := askCells_at l i hi
    exact ⟨by rw [hc _ (by omega)]; exact this.1, by rw [Nat.add_assoc, hc _ (by omega)]; exact this.2.1, by rw [Nat.add_assoc, hc _ (by omega)]; exact this.2.2.1, by rw [Nat.add_assoc, hc _ (by omega)]; exact this.2.2.2⟩
theorem info_ask : (Tryz.prog.info? 103).map (fun i => (i.zero, i.size, i.bytes)) = some (some (.agg #[.int .i64 0, .int .i64 0, .string ByteArray.empty, .int .u64 0]), 4, 40) := by kernel_rfl
theorem blk_set21 {w : World} {g j : Nat} {cur : Array Value} {t : TypeId} (v : Value) (h : w.heap[g]? = some (.cells cur t (0, 0))) : (w.setCell ⟨g, j, none⟩ v).heap[g]? = some (.cells (cur.setIfInBounds j v) t (0, 0)) := by
  simp [World.setCell, Array.getElem?_modify, h]
theorem out_set21 (w : World) (b j : Nat) (u : Value) : Out (fun k => k = b) w (w.setCell ⟨b, j, none⟩ u) :=
  ⟨rfl, rfl, rfl, by simp [World.setCell], fun k _ hn => Below.heap_setCell _ _ _ _ hn⟩
def Apart (u v : Value) : Prop := ∀ g, u.ownBlock = some g → v.ownBlock ≠ some g
theorem Apart.symm {u v : Value} (h : Apart u v) : Apart v u := fun g hg e => h g e hg
theorem Apart.nil (v : Value) : Apart (.slice none 0 0) v := fun g hg => by cases hg
theorem Apart.nil' (v : Value) : Apart v (.slice none 0 0) := fun g hg e => by cases e

structure CliIn (w : World) (B p : Nat) (K : CliK) (x : CliD) (vr vw va vk : Value) (O : Nat → Prop) : Prop where
  blk : w.heap[p]? = some (.cells #[.slice K.A K.c.reps.length K.ca, .slice K.B K.c.bnds.length K.cb, .int .i64 K.ses, .int .i64 (x.state : Int), .int .i64 (x.seq : Int), .int .i64 (x.num : Int), .int .i64 (x.turn : Int), .int .u64 (x.floor : Int), vr, vw, va, vk, .int .u64 (x.stamp : Int)] 95 (0, 0))
  rowr : w.ownsRow B 75 2 vr x.rds.length (rdCells x.rds)
  roww : w.ownsRow B 112 4 vw x.wrs.length (wrCells x.wrs)
  rowa : w.ownsRow B 103 4 va x.asks.length (askCells x.asks)
  rowk : w.ownsRow B 9 1 vk x.keys.length ((x.keys).map Value.string)
  hp : O p
  mir : ∀ g, vr.ownBlock = some g → O g ∧ g ≠ p
  miw : ∀ g, vw.ownBlock = some g → O g ∧ g ≠ p
  mia : ∀ g, va.ownBlock = some g → O g ∧ g ≠ p
  mik : ∀ g, vk.ownBlock = some g → O g ∧ g ≠ p
  prw : Apart vr vw
  pra : Apart vr va
  prk : Apart vr vk
  pwa : Apart vw va
  pwk : Apart vw vk
  pak : Apart va vk
  lt : ∀ k, O k → B ≤ k ∧ k < w.heap.size
def CliAt (w : World) (B p : Nat) (K : CliK) (x : CliD) (O : Nat → Prop) : Prop := ∃ vr vw va vk, CliIn w B p K x vr vw va vk O
section
variable {w w' : World} {B p : Nat} {K : CliK} {x : CliD} {vr vw va vk : Value} {O O' : Nat → Prop}
theorem CliIn.cs (h : CliIn w B p K x vr vw va vk O) : w.cell? ⟨p, 0, none⟩ = some (.slice K.A K.c.reps.length K.ca) ∧ w.cell? ⟨p, 1, none⟩ = some (.slice K.B K.c.bnds.length K.cb) ∧ w.cell? ⟨p, 2, none⟩ = some (.int .i64 K.ses) ∧ w.cell? ⟨p, 3, none⟩ = some (.int .i64 (x.state : Int)) ∧ w.cell? ⟨p, 4, none⟩ = some (.int .i64 (x.seq : Int)) ∧ w.cell? ⟨p, 5, none⟩ = some (.int .i64 (x.num : Int)) ∧ w.cell? ⟨p, 6, none⟩ = some (.int .i64 (x.turn : Int)) ∧ w.cell? ⟨p, 7, none⟩ = some (.int .u64 (x.floor : Int)) ∧ w.cell? ⟨p, 8, none⟩ = some (vr) ∧ w.cell? ⟨p, 9, none⟩ = some (vw) ∧ w.cell? ⟨p, 10, none⟩ = some (va) ∧ w.cell? ⟨p, 11, none⟩ = some (vk) ∧ w.cell? ⟨p, 12, none⟩ = some (.int .u64 (x.stamp : Int)) := by
  refine ⟨?_, ?_, ?_, ?_, ?_, ?_, ?_, ?_, ?_, ?_, ?_, ?_, ?_⟩ <;> (rw [cell_of_row w p _ _ _ _ h.blk]; rfl)
theorem CliIn.fz (h : CliIn w B p K x vr vw va vk O) (j : Nat) : w.frozen? ⟨p, j, none⟩ = false := frozen_of_row w p j _ _ h.blk
theorem CliIn.out (h : CliIn w B p K x vr vw va vk O) (hw : Out O' w w') (hd : ∀ k, O k → ¬ O' k) : CliIn w' B p K x vr vw va vk O :=
  { h with blk := hw.obj h.blk (hd _ h.hp), rowr := hw.row h.rowr (fun g hg => hd g (h.mir g hg).1), roww := hw.row h.roww (fun g hg => hd g (h.miw g hg).1), rowa := hw.row h.rowa (fun g hg => hd g (h.mia g hg).1), rowk := hw.row h.rowk (fun g hg => hd g (h.mik g hg).1), lt := fun k hk => ⟨(h.lt k hk).1, Nat.lt_of_lt_of_le (h.lt k hk).2 hw.size⟩ }
theorem CliIn.later (h : CliIn w B p K x vr vw va vk O) (hb : Below w.heap.size w w') : CliIn w' B p K x vr vw va vk O := h.out (O' := fun _ => False) (Out.of_below hb) (fun _ _ h => h)
theorem CliIn.mono (h : CliIn w B p K x vr vw va vk O) (hs : ∀ k, O k → O' k) (hl : ∀ k, O' k → B ≤ k ∧ k < w.heap.size) : CliIn w B p K x vr vw va vk O' :=
  { h with hp := hs _ h.hp, mir := fun g hg => ⟨hs g (h.mir g hg).1, (h.mir g hg).2⟩, miw := fun g hg => ⟨hs g (h.miw g hg).1, (h.miw g hg).2⟩, mia := fun g hg => ⟨hs g (h.mia g hg).1, (h.mia g hg).2⟩, mik := fun g hg => ⟨hs g (h.mik g hg).1, (h.mik g hg).2⟩, lt := hl }
theorem CliIn.widen (h : CliIn w' B p K x vr vw va vk O) (hl : ∀ k, O k → k < w.heap.size) (hB : B ≤ w.heap.size) : CliIn w' B p K x vr vw va vk (ext O w w') :=
  h.mono (fun k hk => .inl hk) (fun k hk => Or.elim hk (h.lt k) (fun e => ⟨by omega, e.2⟩))
theorem CliAt.out (h : CliAt w B p K x O) (hw : Out O' w w') (hd : ∀ k, O k → ¬ O' k) : CliAt w' B p K x O := by
  obtain ⟨vr, vw, va, vk, h⟩ := h
  exact ⟨vr, vw, va, vk, h.out hw hd⟩
theorem CliAt.later (h : CliAt w B p K x O) (hb : Below w.heap.size w w') : CliAt w' B p K x O := h.out (O' := fun _ => False) (Out.of_below hb) (fun _ _ h => h)
theorem CliAt.lo (h : CliAt w B p K x O) : B ≤ p := by
  obtain ⟨vr, vw, va, vk, h⟩ := h
  exact (h.lt p h.hp).1
theorem CliAt.stay (h : CliAt w B p K x O) (hb : Below w.heap.size w w') (hB : B ≤ w.heap.size) : CliAt w' B p K x (ext O w w') := by
  obtain ⟨vr, vw, va, vk, h⟩ := h
  exact ⟨vr, vw, va, vk, (h.later hb).widen (fun k hk => (h.lt k hk).2) hB⟩
theorem CliIn.s3 (h : CliIn w B p K x vr vw va vk O) (n : Nat) : CliIn (w.setCell ⟨p, 3, none⟩ (.int .i64 (n : Int))) B p K { x with state := n } vr vw va vk O :=
  { h with blk := by simpa using blk_set21 (j := 3) (.int .i64 (n : Int)) h.blk, rowr := (out_set21 w p _ _).row h.rowr (fun g hg e => (h.mir g hg).2 e), roww := (out_set21 w p _ _).row h.roww (fun g hg e => (h.miw g hg).2 e), rowa := (out_set21 w p _ _).row h.rowa (fun g hg e => (h.mia g hg).2 e), rowk := (out_set21 w p _ _).row h.rowk (fun g hg e => (h.mik g hg).2 e), lt := fun k hk => ⟨(h.lt k hk).1, Nat.lt_of_lt_of_le (h.lt k hk).2 (out_set21 w p 3 _).size⟩ }
theorem CliIn.s4 (h : CliIn w B p K x vr vw va vk O) (n : Nat) : CliIn (w.setCell ⟨p, 4, none⟩ (.int .i64 (n : Int))) B p K { x with seq := n } vr vw va vk O :=
  { h with blk := by simpa using blk_set21 (j := 4) (.int .i64 (n : Int)) h.blk, rowr := (out_set21 w p _ _).row h.rowr (fun g hg e => (h.mir g hg).2 e), roww := (out_set21 w p _ _).row h.roww (fun g hg e => (h.miw g hg).2 e), rowa := (out_set21 w p _ _).row h.rowa (fun g hg e => (h.mia g hg).2 e), rowk := (out_set21 w p _ _).row h.rowk (fun g hg e => (h.mik g hg).2 e), lt := fun k hk => ⟨(h.lt k hk).1, Nat.lt_of_lt_of_le (h.lt k hk).2 (out_set21 w p 4 _).size⟩ }
theorem CliIn.s5 (h : CliIn w B p K x vr vw va vk O) (n : Nat) : CliIn (w.setCell ⟨p, 5, none⟩ (.int .i64 (n : Int))) B p K { x with num := n } vr vw va vk O :=
  { h with blk := by simpa using blk_set21 (j := 5) (.int .i64 (n : Int)) h.blk, rowr := (out_set21 w p _ _).row h.rowr (fun g hg e => (h.mir g hg).2 e), roww := (out_set21 w p _ _).row h.roww (fun g hg e => (h.miw g hg).2 e), rowa := (out_set21 w p _ _).row h.rowa (fun g hg e => (h.mia g hg).2 e), rowk := (out_set21 w p _ _).row h.rowk (fun g hg e => (h.mik g hg).2 e), lt := fun k hk => ⟨(h.lt k hk).1, Nat.lt_of_lt_of_le (h.lt k hk).2 (out_set21 w p 5 _).size⟩ }
theorem CliIn.s6 (h : CliIn w B p K x vr vw va vk O) (n : Nat) : CliIn (w.setCell ⟨p, 6, none⟩ (.int .i64 (n : Int))) B p K { x with turn := n } vr vw va vk O :=
  { h with blk := by simpa using blk_set21 (j := 6) (.int .i64 (n : Int)) h.blk, rowr := (out_set21 w p _ _).row h.rowr (fun g hg e => (h.mir g hg).2 e), roww := (out_set21 w p _ _).row h.roww (fun g hg e => (h.miw g hg).2 e), rowa := (out_set21 w p _ _).row h.rowa (fun g hg e => (h.mia g hg).2 e), rowk := (out_set21 w p _ _).row h.rowk (fun g hg e => (h.mik g hg).2 e), lt := fun k hk => ⟨(h.lt k hk).1, Nat.lt_of_lt_of_le (h.lt k hk).2 (out_set21 w p 6 _).size⟩ }
theorem CliIn.s7 (h : CliIn w B p K x vr vw va vk O) (n : Nat) : CliIn (w.setCell ⟨p, 7, none⟩ (.int .u64 (n : Int))) B p K { x with floor := n } vr vw va vk O :=
  { h with blk := by simpa using blk_set21 (j := 7) (.int .u64 (n : Int)) h.blk, rowr := (out_set21 w p _ _).row h.rowr (fun g hg e => (h.mir g hg).2 e), roww := (out_set21 w p _ _).row h.roww (fun g hg e => (h.miw g hg).2 e), rowa := (out_set21 w p _ _).row h.rowa (fun g hg e => (h.mia g hg).2 e), rowk := (out_set21 w p _ _).row h.rowk (fun g hg e => (h.mik g hg).2 e), lt := fun k hk => ⟨(h.lt k hk).1, Nat.lt_of_lt_of_le (h.lt k hk).2 (out_set21 w p 7 _).size⟩ }
theorem CliIn.s12 (h : CliIn w B p K x vr vw va vk O) (n : Nat) : CliIn (w.setCell ⟨p, 12, none⟩ (.int .u64 (n : Int))) B p K { x with stamp := n } vr vw va vk O :=
  { h with blk := by simpa using blk_set21 (j := 12) (.int .u64 (n : Int)) h.blk, rowr := (out_set21 w p _ _).row h.rowr (fun g hg e => (h.mir g hg).2 e), roww := (out_set21 w p _ _).row h.roww (fun g hg e => (h.miw g hg).2 e), rowa := (out_set21 w p _ _).row h.rowa (fun g hg e => (h.mia g hg).2 e), rowk := (out_set21 w p _ _).row h.rowk (fun g hg e => (h.mik g hg).2 e), lt := fun k hk => ⟨(h.lt k hk).1, Nat.lt_of_lt_of_le (h.lt k hk).2 (out_set21 w p 12 _).size⟩ }
/-- The row of rds is another one: one of the call's own, or the one that was there. -/
theorem CliIn.setr (h : CliIn w B p K x vr vw va vk O) {u : Value} {l : List Rd} (hr : w.ownsRow B 75 2 u l.length (rdCells l)) (hm : ∀ g, u.ownBlock = some g → O g ∧ g ≠ p)
    (aw : Apart u vw) (aa : Apart u va) (ak : Apart u vk) : CliIn (w.setCell ⟨p, 8, none⟩ u) B p K { x with rds := l } u vw va vk O :=
  { h with blk := by simpa using blk_set21 (j := 8) u h.blk, rowr := (out_set21 w p _ _).row hr (fun g hg e => (hm g hg).2 e), roww := (out_set21 w p _ _).row h.roww (fun g hg e => (h.miw g hg).2 e), rowa := (out_set21 w p _ _).row h.rowa (fun g hg e => (h.mia g hg).2 e), rowk := (out_set21 w p _ _).row h.rowk (fun g hg e => (h.mik g hg).2 e), mir := hm, prw := aw, pra := aa, prk := ak, lt := fun k hk => ⟨(h.lt k hk).1, Nat.lt_of_lt_of_le (h.lt k hk).2 (out_set21 w p 8 _).size⟩ }
theorem CliIn.nilr (h : CliIn w B p K x vr vw va vk O) : CliIn (w.setCell ⟨p, 8, none⟩ (.slice none 0 0)) B p K { x with rds := [] } (.slice none 0 0) vw va vk O :=
  h.setr (l := []) (own_nil _ _ _ _) (fun g hg => by cases hg) (Apart.nil _) (Apart.nil _) (Apart.nil _)
/-- Behind an append to the row of rds. -/
theorem CliIn.growr (h : CliIn w B p K x vr vw va vk O) {w1 : World} (hB : B ≤ w.heap.size) (hg : w.grownBy w1 vr.ownBlock) {u : Value} {l : List Rd} (hr : w1.ownsRow B 75 2 u l.length (rdCells l)) (hu : ∀ g, u.ownBlock = some g → vr.ownBlock = some g ∨ w.heap.size ≤ g) :
    CliIn (w1.setCell ⟨p, 8, none⟩ u) B p K { x with rds := l } u vw va vk (ext O w w1) := by
  have hout : Out (fun k => vr.ownBlock = some k) w w1 := Out.of_grown hg (fun k e => e)
  have hp := h.lt p h.hp
  have hm : ∀ g, u.ownBlock = some g → ext O w w1 g ∧ g ≠ p := fun g hg' => by
    have hl := (hr.lt g hg').2
    rcases hu g hg' with e | e
    · exact ⟨.inl (h.mir g e).1, (h.mir g e).2⟩
    · exact ⟨.inr ⟨e, hl⟩, by omega⟩
  have aw : Apart u vw := fun g hg' e => by
    rcases hu g hg' with q | q
    · exact h.prw g q e
    · have := (h.lt g (h.miw g e).1).2; omega
  have aa : Apart u va := fun g hg' e => by
    rcases hu g hg' with q | q
    · exact h.pra g q e
    · have := (h.lt g (h.mia g e).1).2; omega
  have ak : Apart u vk := fun g hg' e => by
    rcases hu g hg' with q | q
    · exact h.prk g q e
    · have := (h.lt g (h.mik g e).1).2; omega
  have hblk : w1.heap[p]? = some _ := hout.obj h.blk (fun e => (h.mir p e).2 rfl)
  have rw := hout.row h.roww (fun g hg' e => h.prw g e hg')
  have ra := hout.row h.rowa (fun g hg' e => h.pra g e hg')
  have rk := hout.row h.rowk (fun g hg' e => h.prk g e hg')
  have ho := out_set21 w1 p 8 u
  exact { blk := by simpa using blk_set21 (j := 8) u hblk, rowr := ho.row hr (fun g hg' e => (hm g hg').2 e), roww := ho.row rw (fun g hg' e => (h.miw g hg').2 e), rowa := ho.row ra (fun g hg' e => (h.mia g hg').2 e), rowk := ho.row rk (fun g hg' e => (h.mik g hg').2 e), hp := .inl h.hp, mir := hm, miw := fun g hg' => ⟨.inl (h.miw g hg').1, (h.miw g hg').2⟩, mia := fun g hg' => ⟨.inl (h.mia g hg').1, (h.mia g hg').2⟩, mik := fun g hg' => ⟨.inl (h.mik g hg').1, (h.mik g hg').2⟩, prw := aw, pra := aa, prk := ak, pwa := h.pwa, pwk := h.pwk, pak := h.pak, lt := fun k hk' => Or.elim hk' (fun q => ⟨(h.lt k q).1, by have := (h.lt k q).2; have := hg.size; have := ho.size; omega⟩) (fun q => ⟨by omega, by have := ho.size; omega⟩) }
/-- The row of wrs is another one: one of the call's own, or the one that was there. -/
theorem CliIn.setw (h : CliIn w B p K x vr vw va vk O) {u : Value} {l : List Wr} (hr : w.ownsRow B 112 4 u l.length (wrCells l)) (hm : ∀ g, u.ownBlock = some g → O g ∧ g ≠ p)
    (ar : Apart u vr) (aa : Apart u va) (ak : Apart u vk) : CliIn (w.setCell ⟨p, 9, none⟩ u) B p K { x with wrs := l } vr u va vk O :=
  { h with blk := by simpa using blk_set21 (j := 9) u h.blk, roww := (out_set21 w p _ _).row hr (fun g hg e => (hm g hg).2 e), rowr := (out_set21 w p _ _).row h.rowr (fun g hg e => (h.mir g hg).2 e), rowa := (out_set21 w p _ _).row h.rowa (fun g hg e => (h.mia g hg).2 e), rowk := (out_set21 w p _ _).row h.rowk (fun g hg e => (h.mik g hg).2 e), miw := hm, prw := ar.symm, pwa := aa, pwk := ak, lt := fun k hk => ⟨(h.lt k hk).1, Nat.lt_of_lt_of_le (h.lt k hk).2 (out_set21 w p 9 _).size⟩ }
theorem CliIn.nilw (h : CliIn w B p K x vr vw va vk O) : CliIn (w.setCell ⟨p, 9, none⟩ (.slice none 0 0)) B p K { x with wrs := [] } vr (.slice none 0 0) va vk O :=
  h.setw (l := []) (own_nil _ _ _ _) (fun g hg => by cases hg) (Apart.nil _) (Apart.nil _) (Apart.nil _)
/-- Behind an append to the row of wrs. -/
theorem CliIn.groww (h : CliIn w B p K x vr vw va vk O) {w1 : World} (hB : B ≤ w.heap.size) (hg : w.grownBy w1 vw.ownBlock) {u : Value} {l : List Wr} (hr : w1.ownsRow B 112 4 u l.length (wrCells l)) (hu : ∀ g, u.ownBlock = some g → vw.ownBlock = some g ∨ w.heap.size ≤ g) :
    CliIn (w1.setCell ⟨p, 9, none⟩ u) B p K { x with wrs := l } vr u va vk (ext O w w1) := by
  have hout : Out (fun k => vw.ownBlock = some k) w w1 := Out.of_grown hg (fun k e => e)
  have hp := h.lt p h.hp
  have hm : ∀ g, u.ownBlock = some g → ext O w w1 g ∧ g ≠ p := fun g hg' => by
    have hl := (hr.lt g hg').2
    rcases hu g hg' with e | e
    · exact ⟨.inl (h.miw g e).1, (h.miw g e).2⟩
    · exact ⟨.inr ⟨e, hl⟩, by omega⟩
  have ar : Apart u vr := fun g hg' e => by
    rcases hu g hg' with q | q
    · exact h.prw.symm g q e
    · have := (h.lt g (h.mir g e).1).2; omega
  have aa : Apart u va := fun g hg' e => by
    rcases hu g hg' with q | q
    · exact h.pwa g q e
    · have := (h.lt g (h.mia g e).1).2; omega
  have ak : Apart u vk := fun g hg' e => by
    rcases hu g hg' with q | q
    · exact h.pwk g q e
    · have := (h.lt g (h.mik g e).1).2; omega
  have hblk : w1.heap[p]? = some _ := hout.obj h.blk (fun e => (h.miw p e).2 rfl)
  have rr := hout.row h.rowr (fun g hg' e => h.prw.symm g e hg')
  have ra := hout.row h.rowa (fun g hg' e => h.pwa g e hg')
  have rk := hout.row h.rowk (fun g hg' e => h.pwk g e hg')
  have ho := out_set21 w1 p 9 u
  exact { blk := by simpa using blk_set21 (j := 9) u hblk, roww := ho.row hr (fun g hg' e => (hm g hg').2 e), rowr := ho.row rr (fun g hg' e => (h.mir g hg').2 e), rowa := ho.row ra (fun g hg' e => (h.mia g hg').2 e), rowk := ho.row rk (fun g hg' e => (h.mik g hg').2 e), hp := .inl h.hp, miw := hm, mir := fun g hg' => ⟨.inl (h.mir g hg').1, (h.mir g hg').2⟩, mia := fun g hg' => ⟨.inl (h.mia g hg').1, (h.mia g hg').2⟩, mik := fun g hg' => ⟨.inl (h.mik g hg').1, (h.mik g hg').2⟩, prw := ar.symm, pwa := aa, pwk := ak, pra := h.pra, prk := h.prk, pak := h.pak, lt := fun k hk' => Or.elim hk' (fun q => ⟨(h.lt k q).1, by have := (h.lt k q).2; have := hg.size; have := ho.size; omega⟩) (fun q => ⟨by omega, by have := ho.size; omega⟩) }
/-- The row of asks is another one: one of the call's own, or the one that was there. -/
theorem CliIn.seta (h : CliIn w B p K x vr vw va vk O) {u : Value} {l : List AskD} (hr : w.ownsRow B 103 4 u l.length (askCells l)) (hm : ∀ g, u.ownBlock = some g → O g ∧ g ≠ p)
    (ar : Apart u vr) (aw : Apart u vw) (ak : Apart u vk) : CliIn (w.setCell ⟨p, 10, none⟩ u) B p K { x with asks := l } vr vw u vk O :=
  { h with blk := by simpa using blk_set21 (j := 10) u h.blk, rowa := (out_set21 w p _ _).row hr (fun g hg e => (hm g hg).2 e), rowr := (out_set21 w p _ _).row h.rowr (fun g hg e => (h.mir g hg).2 e), roww := (out_set21 w p _ _).row h.roww (fun g hg e => (h.miw g hg).2 e), rowk := (out_set21 w p _ _).row h.rowk (fun g hg e => (h.mik g hg).2 e), mia := hm, pra := ar.symm, pwa := aw.symm, pak := ak, lt := fun k hk => ⟨(h.lt k hk).1, Nat.lt_of_lt_of_le (h.lt k hk).2 (out_set21 w p 10 _).size⟩ }
theorem CliIn.nila (h : CliIn w B p K x vr vw va vk O) : CliIn (w.setCell ⟨p, 10, none⟩ (.slice none 0 0)) B p K { x with asks := [] } vr vw (.slice none 0 0) vk O :=
  h.seta (l := []) (own_nil _ _ _ _) (fun g hg => by cases hg) (Apart.nil _) (Apart.nil _) (Apart.nil _)
/-- Behind an append to the row of asks. -/
theorem CliIn.growa (h : CliIn w B p K x vr vw va vk O) {w1 : World} (hB : B ≤ w.heap.size) (hg : w.grownBy w1 va.ownBlock) {u : Value} {l : List AskD} (hr : w1.ownsRow B 103 4 u l.length (askCells l)) (hu : ∀ g, u.ownBlock = some g → va.ownBlock = some g ∨ w.heap.size ≤ g) :
    CliIn (w1.setCell ⟨p, 10, none⟩ u) B p K { x with asks := l } vr vw u vk (ext O w w1) := by
  have hout : Out (fun k => va.ownBlock = some k) w w1 := Out.of_grown hg (fun k e => e)
  have hp := h.lt p h.hp
  have hm : ∀ g, u.ownBlock = some g → ext O w w1 g ∧ g ≠ p := fun g hg' => by
    have hl := (hr.lt g hg').2
    rcases hu g hg' with e | e
    · exact ⟨.inl (h.mia g e).1, (h.mia g e).2⟩
    · exact ⟨.inr ⟨e, hl⟩, by omega⟩
  have ar : Apart u vr := fun g hg' e => by
    rcases hu g hg' with q | q
    · exact h.pra.symm g q e
    · have := (h.lt g (h.mir g e).1).2; omega
  have aw : Apart u vw := fun g hg' e => by
    rcases hu g hg' with q | q
    · exact h.pwa.symm g q e
    · have := (h.lt g (h.miw g e).1).2; omega
  have ak : Apart u vk := fun g hg' e => by
    rcases hu g hg' with q | q
    · exact h.pak g q e
    · have := (h.lt g (h.mik g e).1).2; omega
  have hblk : w1.heap[p]? = some _ := hout.obj h.blk (fun e => (h.mia p e).2 rfl)
  have rr := hout.row h.rowr (fun g hg' e => h.pra.symm g e hg')
  have rw := hout.row h.roww (fun g hg' e => h.pwa.symm g e hg')
  have rk := hout.row h.rowk (fun g hg' e => h.pak g e hg')
  have ho := out_set21 w1 p 10 u
  exact { blk := by simpa using blk_set21 (j := 10) u hblk, rowa := ho.row hr (fun g hg' e => (hm g hg').2 e), rowr := ho.row rr (fun g hg' e => (h.mir g hg').2 e), roww := ho.row rw (fun g hg' e => (h.miw g hg').2 e), rowk := ho.row rk (fun g hg' e => (h.mik g hg').2 e), hp := .inl h.hp, mia := hm, mir := fun g hg' => ⟨.inl (h.mir g hg').1, (h.mir g hg').2⟩, miw := fun g hg' => ⟨.inl (h.miw g hg').1, (h.miw g hg').2⟩, mik := fun g hg' => ⟨.inl (h.mik g hg').1, (h.mik g hg').2⟩, pra := ar.symm, pwa := aw.symm, pak := ak, prw := h.prw, prk := h.prk, pwk := h.pwk, lt := fun k hk' => Or.elim hk' (fun q => ⟨(h.lt k q).1, by have := (h.lt k q).2; have := hg.size; have := ho.size; omega⟩) (fun q => ⟨by omega, by have := ho.size; omega⟩) }
/-- The row of keys is another one: one of the call's own, or the one that was there. -/
theorem CliIn.setk (h : CliIn w B p K x vr vw va vk O) {u : Value} {l : List ByteArray} (hr : w.ownsRow B 9 1 u l.length ((l).map Value.string)) (hm : ∀ g, u.ownBlock = some g → O g ∧ g ≠ p)
    (ar : Apart u vr) (aw : Apart u vw) (aa : Apart u va) : CliIn (w.setCell ⟨p, 11, none⟩ u) B p K { x with keys := l } vr vw va u O :=
  { h with blk := by simpa using blk_set21 (j := 11) u h.blk, rowk := (out_set21 w p _ _).row hr (fun g hg e => (hm g hg).2 e), rowr := (out_set21 w p _ _).row h.rowr (fun g hg e => (h.mir g hg).2 e), roww := (out_set21 w p _ _).row h.roww (fun g hg e => (h.miw g hg).2 e), rowa := (out_set21 w p _ _).row h.rowa (fun g hg e => (h.mia g hg).2 e), mik := hm, prk := ar.symm, pwk := aw.symm, pak := aa.symm, lt := fun k hk => ⟨(h.lt k hk).1, Nat.lt_of_lt_of_le (h.lt k hk).2 (out_set21 w p 11 _).size⟩ }
theorem CliIn.nilk (h : CliIn w B p K x vr vw va vk O) : CliIn (w.setCell ⟨p, 11, none⟩ (.slice none 0 0)) B p K { x with keys := [] } vr vw va (.slice none 0 0) O :=
  h.setk (l := []) (own_nil _ _ _ _) (fun g hg => by cases hg) (Apart.nil _) (Apart.nil _) (Apart.nil _)
/-- Behind an append to the row of keys. -/
theorem CliIn.growk (h : CliIn w B p K x vr vw va vk O) {w1 : World} (hB : B ≤ w.heap.size) (hg : w.grownBy w1 vk.ownBlock) {u : Value} {l : List ByteArray} (hr : w1.ownsRow B 9 1 u l.length ((l).map Value.string)) (hu : ∀ g, u.ownBlock = some g → vk.ownBlock = some g ∨ w.heap.size ≤ g) :
    CliIn (w1.setCell ⟨p, 11, none⟩ u) B p K { x with keys := l } vr vw va u (ext O w w1) := by
  have hout : Out (fun k => vk.ownBlock = some k) w w1 := Out.of_grown hg (fun k e => e)
  have hp := h.lt p h.hp
  have hm : ∀ g, u.ownBlock = some g → ext O w w1 g ∧ g ≠ p := fun g hg' => by
    have hl := (hr.lt g hg').2
    rcases hu g hg' with e | e
    · exact ⟨.inl (h.mik g e).1, (h.mik g e).2⟩
    · exact ⟨.inr ⟨e, hl⟩, by omega⟩
  have ar : Apart u vr := fun g hg' e => by
    rcases hu g hg' with q | q
    · exact h.prk.symm g q e
    · have := (h.lt g (h.mir g e).1).2; omega
  have aw : Apart u vw := fun g hg' e => by
    rcases hu g hg' with q | q
    · exact h.pwk.symm g q e
    · have := (h.lt g (h.miw g e).1).2; omega
  have aa : Apart u va := fun g hg' e => by
    rcases hu g hg' with q | q
    · exact h.pak.symm g q e
    · have := (h.lt g (h.mia g e).1).2; omega
  have hblk : w1.heap[p]? = some _ := hout.obj h.blk (fun e => (h.mik p e).2 rfl)
  have rr := hout.row h.rowr (fun g hg' e => h.prk.symm g e hg')
  have rw := hout.row h.roww (fun g hg' e => h.pwk.symm g e hg')
  have ra := hout.row h.rowa (fun g hg' e => h.pak.symm g e hg')
  have ho := out_set21 w1 p 11 u
  exact { blk := by simpa using blk_set21 (j := 11) u hblk, rowk := ho.row hr (fun g hg' e => (hm g hg').2 e), rowr := ho.row rr (fun g hg' e => (h.mir g hg').2 e), roww := ho.row rw (fun g hg' e => (h.miw g hg').2 e), rowa := ho.row ra (fun g hg' e => (h.mia g hg').2 e), hp := .inl h.hp, mik := hm, mir := fun g hg' => ⟨.inl (h.mir g hg').1, (h.mir g hg').2⟩, miw := fun g hg' => ⟨.inl (h.miw g hg').1, (h.miw g hg').2⟩, mia := fun g hg' => ⟨.inl (h.mia g hg').1, (h.mia g hg').2⟩, prk := ar.symm, pwk := aw.symm, pak := aa.symm, prw := h.prw, pra := h.pra, pwa := h.pwa, lt := fun k hk' => Or.elim hk' (fun q => ⟨(h.lt k q).1, by have := (h.lt k q).2; have := hg.size; have := ho.size; omega⟩) (fun q => ⟨by omega, by have := ho.size; omega⟩) }
end
end Go.Proofs.YtjgloipgnnigmaaGreatDoor
/- No client: what each method answers. -/
namespace Go.Proofs.YtjgloipgnnigmaaGreatDoor
open Go.RowKit Go.Shelf

theorem calls_b21 {P : Program} {f : FuncId} {args : Array Value} {w : World} {z x : Bool} (e : z = x) (h : Calls P f args w fun e w' => e = .returned (.bool z) ∧ Below w.heap.size w w') : Calls P f args w fun e w' => e = .returned (.bool x) ∧ Below w.heap.size w w' := by
  rw [e] at h; exact h
theorem in_nil (k : Int) (w : World) : Calls Tryz.prog 35 #[.pointer none, .int .i64 k] w fun e w' => e = .returned (.bool false) ∧ w = w' := by
  go_enter Tryz.func35, Tryz.ntmps35
  go_wp2
  go_ret
  exact ⟨rfl, rfl⟩
theorem begin_nil (w : World) : Calls Tryz.prog 14 #[.pointer none] w fun e w' => e = .returned (.int .i64 11) ∧ Below w.heap.size w w' := by
  go_enter Tryz.func14, Tryz.ntmps14
  go_wp2_with (go_at_call 35; refine (in_nil _ _).mono ?_; rintro e w1 ⟨rfl, rfl⟩)
  go_ret
  exact ⟨rfl, Below.refl _ _⟩
theorem read_nil (s : ByteArray) (w : World) : Calls Tryz.prog 10 #[.pointer none, .string s] w fun e w' => e = .returned (.tuple #[.slice none 0 0, .int .i64 11]) ∧ Below w.heap.size w w' := by
  go_enter Tryz.func10, Tryz.ntmps10
  go_wp2_with (go_at_call 35; refine (in_nil _ _).mono ?_; rintro e w1 ⟨rfl, rfl⟩)
  go_ret2
  exact ⟨rfl, Below.refl _ _⟩
theorem write_nil (s : ByteArray) (k : Int) (m : Nat) (t : ByteArray) (w : World) : Calls Tryz.prog 15 #[.pointer none, .string s, .agg #[.int .i64 k, .int .u64 (m : Int), .string t]] w fun e w' => e = .returned (.int .i64 11) ∧ Below w.heap.size w w' := by
  go_enter Tryz.func15, Tryz.ntmps15
  go_wp2_with (go_at_call 35; refine (in_nil _ _).mono ?_; rintro e w1 ⟨rfl, rfl⟩)
  go_ret
  exact ⟨rfl, below1 _ _⟩
theorem commit_nil (w : World) : Calls Tryz.prog 11 #[.pointer none] w fun e w' => e = .returned (.tuple #[.slice none 0 0, .int .i64 11]) ∧ Below w.heap.size w w' := by
  go_enter Tryz.func11, Tryz.ntmps11
  go_wp2_with (go_at_call 35; refine (in_nil _ _).mono ?_; rintro e w1 ⟨rfl, rfl⟩)
  go_ret2
  exact ⟨rfl, Below.refl _ _⟩
theorem abort_nil (w : World) : Calls Tryz.prog 16 #[.pointer none] w fun e w' => e = .returned (.int .i64 11) ∧ Below w.heap.size w w' := by
  go_enter Tryz.func16, Tryz.ntmps16
  go_wp2_with (go_at_call 35; refine (in_nil _ _).mono ?_; rintro e w1 ⟨rfl, rfl⟩)
  go_ret
  exact ⟨rfl, Below.refl _ _⟩
theorem snap_nil (A : Option Addr) (n c : Nat) (w : World) : Calls Tryz.prog 12 #[.pointer none, .slice A n c] w fun e w' => e = .returned (.tuple #[.slice none 0 0, .int .i64 11]) ∧ Below w.heap.size w w' := by
  go_enter Tryz.func12, Tryz.ntmps12
  go_wp2_with (go_at_call 35; refine (in_nil _ _).mono ?_; rintro e w1 ⟨rfl, rfl⟩)
  go_ret2
  exact ⟨rfl, Below.refl _ _⟩
set_option maxHeartbeats 1000000 in
theorem handle_nil (m : MsgV) (w : World) : Calls Tryz.prog 13 #[.pointer none, m.v] w fun e w' => e = .returned (.tuple #[.slice none 0 0, .slice none 0 0]) ∧ Below w.heap.size w w' := by
  unfold MsgV.v MsgV.vs
  go_enter Tryz.func13, Tryz.ntmps13
  go_wp2
  go_ret2
  exact ⟨rfl, below1 _ _⟩
theorem tick_nil (w : World) : Calls Tryz.prog 17 #[.pointer none] w fun e w' => e = .returned (.slice none 0 0) ∧ Below w.heap.size w w' := by
  go_enter Tryz.func17, Tryz.ntmps17
  go_wp2
  go_ret
  exact ⟨rfl, Below.refl _ _⟩
theorem state_nil (w : World) : Calls Tryz.prog 18 #[.pointer none] w fun e w' => e = .returned (.int .i64 0) ∧ Below w.heap.size w w' := by
  go_enter Tryz.func18, Tryz.ntmps18
  go_wp2
  go_ret
  exact ⟨rfl, Below.refl _ _⟩
theorem floor_nil (w : World) : Calls Tryz.prog 19 #[.pointer none] w fun e w' => e = .returned (.int .u64 0) ∧ Below w.heap.size w w' := by
  go_enter Tryz.func19, Tryz.ntmps19
  go_wp2
  go_ret
  exact ⟨rfl, Below.refl _ _⟩
end Go.Proofs.YtjgloipgnnigmaaGreatDoor
/- client.New, and the small methods: in, Begin, State, Floor. -/
namespace Go.Proofs.YtjgloipgnnigmaaGreatDoor
open Go.RowKit Go.Shelf

def cliOK (K : CliK) : Bool := formedB K.c && decide (1 ≤ K.ses) && decide (K.ses ≤ 8)
def CliNewPost (w : World) (K : CliK) (e : Ending) (w' : World) : Prop :=
  ∃ p, e = .returned (.pointer (some ⟨p, 0, none⟩)) ∧ CliAt w' w.heap.size p K cli0 (fun k => k = p) ∧ Below w.heap.size w w'
theorem cli_new {w w' : World} {K : CliK} {B : Nat} (hB : B ≤ w.heap.size) (e : w.alloc (.cells #[.slice K.A K.c.reps.length K.ca, .slice K.B K.c.bnds.length K.cb, .int .i64 K.ses, .int .i64 0, .int .i64 0, .int .i64 0, .int .i64 0, .int .u64 0, .slice none 0 0, .slice none 0 0, .slice none 0 0, .slice none 0 0, .int .u64 0] 95) = w') :
    CliAt w' B w.heap.size K cli0 (fun k => k = w.heap.size) := by
  subst e
  exact ⟨_, _, _, _, { blk := heap_alloc_new w _, rowr := own_nil _ _ _ _, roww := own_nil _ _ _ _, rowa := own_nil _ _ _ _, rowk := own_nil _ _ _ _, hp := rfl, mir := fun g hg => (by cases hg), miw := fun g hg => (by cases hg), mia := fun g hg => (by cases hg), mik := fun g hg => (by cases hg), prw := Apart.nil _, pra := Apart.nil _, prk := Apart.nil _, pwa := Apart.nil _, pwk := Apart.nil _, pak := Apart.nil _, lt := fun k hk => by subst hk; exact ⟨hB, by simp⟩ }⟩
set_option maxHeartbeats 1000000 in
theorem cliNew_ok (K : CliK) (w : World) (h : CfgAt w K.c K.A K.B) (hk : cliOK K = true) : Calls Tryz.prog 20 #[K.cv, .int .i64 K.ses] w (CliNewPost w K) := by
  simp only [cliOK, Bool.and_eq_true, decide_eq_true_eq] at hk
  obtain ⟨⟨hf, h1⟩, h8⟩ := hk
  obtain ⟨c, A, B, ca, cb, ses⟩ := K
  simp only at h hf h1 h8
  have q1 : ¬ (ses < 1) := by omega
  have q8 : ¬ (8 < ses) := by omega
  obtain ⟨W, eW, HB, c0, c1⟩ := box2 w (.slice A c.reps.length ca) (.slice B c.bnds.length cb) 25
  have h := h.later HB
  go_enter Tryz.func20, Tryz.ntmps20
  go_wp2_with (go_at_call 55; refine (calls_b21 hf (formed_any c A B ca cb _ h)).mono ?_; rintro e w1 ⟨rfl, hb⟩; replace HB := keepB HB hb; replace c0 := keep hb c0; replace c1 := keep hb c1)
  go_ret
  exact ⟨w1.heap.size, rfl, cli_new HB.size rfl, HB.alloc HB.size _⟩
theorem cliNew_no (K : CliK) (w : World) (h : CfgAt w K.c K.A K.B) (hk : cliOK K = false) : Calls Tryz.prog 20 #[K.cv, .int .i64 K.ses] w fun e w' => e = .returned (.pointer none) ∧ Below w.heap.size w w' := by
  obtain ⟨c, A, B, ca, cb, ses⟩ := K
  simp only [cliOK] at h hk
  obtain ⟨W, eW, HB, c0, c1⟩ := box2 w (.slice A c.reps.length ca) (.slice B c.bnds.length cb) 25
  have h := h.later HB
  cases hf : formedB c
  · clear hk
    go_enter Tryz.func20, Tryz.ntmps20
    go_wp2_with (go_at_call 55; refine (calls_b21 hf (formed_any c A B ca cb _ h)).mono ?_; rintro e w1 ⟨rfl, hb⟩; replace HB := keepB HB hb; replace c0 := keep hb c0; replace c1 := keep hb c1)
    go_ret
    exact ⟨rfl, HB⟩
  · by_cases q1 : ses < 1
    · clear hk
      go_enter Tryz.func20, Tryz.ntmps20
      go_wp2_with (go_at_call 55; refine (calls_b21 hf (formed_any c A B ca cb _ h)).mono ?_; rintro e w1 ⟨rfl, hb⟩; replace HB := keepB HB hb; replace c0 := keep hb c0; replace c1 := keep hb c1)
      go_ret
      exact ⟨rfl, HB⟩
    · have q8 : 8 < ses := by
        rw [hf, decide_eq_true (show 1 ≤ ses by omega)] at hk
        simp at hk; omega
      clear hk
      go_enter Tryz.func20, Tryz.ntmps20
      go_wp2_with (go_at_call 55; refine (calls_b21 hf (formed_any c A B ca cb _ h)).mono ?_; rintro e w1 ⟨rfl, hb⟩; replace HB := keepB HB hb; replace c0 := keep hb c0; replace c1 := keep hb c1)
      go_ret
      exact ⟨rfl, HB⟩
end Go.Proofs.YtjgloipgnnigmaaGreatDoor
/- The client's small methods: in, State, Floor, Begin, rest, Abort. -/
namespace Go.Proofs.YtjgloipgnnigmaaGreatDoor
open Go.RowKit Go.Shelf

/-- A method's end: its value, the client behind it. -/
def CliPost (w : World) (B p : Nat) (K : CliK) (O : Nat → Prop) (v : Value) (x : CliD) (e : Ending) (w' : World) : Prop :=
  e = .returned v ∧ CliAt w' B p K x (ext O w w') ∧ Out O w w'
section
variable {w : World} {B p : Nat} {K : CliK} {x : CliD} {O : Nat → Prop}
theorem in_any (h : CliAt w B p K x O) (k : Int) (b : Bool) (hb : ((x.state : Int) == k) = b) : Calls Tryz.prog 35 #[.pointer (some ⟨p, 0, none⟩), .int .i64 k] w fun e w' => e = .returned (.bool b) ∧ w = w' := by
  obtain ⟨vr, vw, va, vk, h⟩ := h
  obtain ⟨_, _, _, c3, _⟩ := h.cs
  cases b
  all_goals
    go_enter Tryz.func35, Tryz.ntmps35
    go_wp2
    go_ret
    exact ⟨rfl, rfl⟩
theorem state_any (h : CliAt w B p K x O) : Calls Tryz.prog 18 #[.pointer (some ⟨p, 0, none⟩)] w fun e w' => e = .returned (.int .i64 (x.state : Int)) ∧ w = w' := by
  obtain ⟨vr, vw, va, vk, h⟩ := h
  obtain ⟨_, _, _, c3, _⟩ := h.cs
  go_enter Tryz.func18, Tryz.ntmps18
  go_wp2
  go_ret
  exact ⟨rfl, rfl⟩
theorem floor_any (h : CliAt w B p K x O) : Calls Tryz.prog 19 #[.pointer (some ⟨p, 0, none⟩)] w fun e w' => e = .returned (.int .u64 (x.floor : Int)) ∧ w = w' := by
  obtain ⟨vr, vw, va, vk, h⟩ := h
  obtain ⟨_, _, _, _, _, _, _, c7, _⟩ := h.cs
  go_enter Tryz.func19, Tryz.ntmps19
  go_wp2
  go_ret
  exact ⟨rfl, rfl⟩
theorem cli_same {w' : World} (h : CliAt w B p K x O) (hB : B ≤ w.heap.size) (e : w = w') : CliAt w' B p K x (ext O w w') ∧ Out O w w' := by
  subst e
  exact ⟨h.stay (Below.refl _ _) hB, Out.refl _ _⟩
theorem out_p {w' : World} {v : Value} {j : Nat} (hp : O p) (h : Out O w w') : Out O w (w'.setCell ⟨p, j, none⟩ v) :=
  h.trans' ((out_set21 w' p j v).mono fun k hk => by rw [hk]; exact hp)
set_option maxRecDepth 100000 in
theorem begin_any (h : CliAt w B p K x O) (hB : B ≤ w.heap.size) (hs : x.seq ≤ 1048576) : Calls Tryz.prog 14 #[.pointer (some ⟨p, 0, none⟩)] w (CliPost w B p K O (.int .i64 (beginE x)) (beginD x)) := by
  have h0 := h
  obtain ⟨vr, vw, va, vk, h⟩ := h
  obtain ⟨_, _, _, c3, c4, _⟩ := h.cs
  have f3 := h.fz 2
  have f4 := h.fz 3
  by_cases s0 : x.state = 0
  · have q0 : ((x.state : Int) == 0) = true := by rw [beq_iff_eq]; omega
    by_cases s1 : x.seq < 1048576
    · have HE : Hid (beginE x = 0 ∧ beginD x = { x with seq := x.seq + 1, state := 1 }) := by show _ ∧ _; simp [beginE, beginD, s0, s1]
      have q1 : decide ((1048576 : Int) ≤ (x.seq : Int)) = false := by rw [decide_eq_false_iff_not]; omega
      have f3 := h.fz 3
      have f4 := h.fz 4
      have hw1 : IntKind.i64.wrap ((x.seq : Int) + 1) = (x.seq : Int) + 1 := IntWalk.i64_in _ (by omega)
      clear s0 s1 hs
      go_enter Tryz.func14, Tryz.ntmps14
      go_wp2_with (go_at_call 35; refine (in_any h0 0 true q0).mono ?_; rintro e w1 ⟨rfl, rfl⟩)
      go_ret
      rw [HE.out.1, HE.out.2]
      have h1 := (h.s4 (x.seq + 1)).s3 1
      exact ⟨rfl, ⟨vr, vw, va, vk, h1.widen (fun k hk => (h.lt k hk).2) hB⟩, out_p h.hp (out_p h.hp (Out.refl _ _))⟩
    · have HE : Hid (beginE x = 7 ∧ beginD x = x) := by show _ ∧ _; simp [beginE, beginD, s0, s1]
      have q1 : decide ((1048576 : Int) ≤ (x.seq : Int)) = true := by rw [decide_eq_true_iff]; omega
      clear s0 s1 hs
      go_enter Tryz.func14, Tryz.ntmps14
      go_wp2_with (go_at_call 35; refine (in_any h0 0 true q0).mono ?_; rintro e w1 ⟨rfl, rfl⟩)
      go_ret
      rw [HE.out.1, HE.out.2]
      exact ⟨rfl, cli_same h0 hB rfl⟩
  · have q0 : ((x.state : Int) == 0) = false := by rw [beq_eq_false_iff_ne]; omega
    have HE : Hid (beginE x = 11 ∧ beginD x = x) := by show _ ∧ _; simp [beginE, beginD, s0]
    clear s0
    go_enter Tryz.func14, Tryz.ntmps14
    go_wp2_with (go_at_call 35; refine (in_any h0 0 false q0).mono ?_; rintro e w1 ⟨rfl, rfl⟩)
    go_ret
    rw [HE.out.1, HE.out.2]
    exact ⟨rfl, cli_same h0 hB rfl⟩
set_option maxHeartbeats 1000000 in
theorem rest_any (h : CliAt w B p K x O) (hB : B ≤ w.heap.size) : Calls Tryz.prog 41 #[.pointer (some ⟨p, 0, none⟩)] w (CliPost w B p K O (.tuple #[]) (restD x)) := by
  obtain ⟨vr, vw, va, vk, h⟩ := h
  obtain ⟨c0, c1, c2, c3, c4, c5, c6, c7, c8, c9, c10, c11, c12⟩ := h.cs
  have f3 := h.fz 3
  have f8 := h.fz 8
  have f9 := h.fz 9
  have f10 := h.fz 10
  have f11 := h.fz 11
  have f12 := h.fz 12
  go_enter Tryz.func41, Tryz.ntmps41
  go_wp2
  go_end0
  have h1 := (((((h.s3 0).nilr).nilw).nila).nilk).s12 0
  exact ⟨rfl, ⟨_, _, _, _, h1.widen (fun k hk => (h.lt k hk).2) hB⟩, out_p h.hp (out_p h.hp (out_p h.hp (out_p h.hp (out_p h.hp (out_p h.hp (Out.refl _ _))))))⟩
end
end Go.Proofs.YtjgloipgnnigmaaGreatDoor
/- A whole struct loaded in a quiet walk: by one law. -/
namespace Go.Proofs.YtjgloipgnnigmaaGreatDoor
open Go.RowKit

theorem quiet_load_cells {P : Program} {o : Oper} {a : Act} {C : World → Prop} {K : Act → Prop} (ty : TypeId) (x : Operand) (ho : o.op = .load ty x)
    (ad : Addr) (hx : a.eval x = .pointer (some ad)) (cs : Array Value) (d : TypeDesc) (hc : ∀ w, C w → CellRow w ad cs)
    (hu : P.underlying ty = some d) (hd : (match d with | .struct _ | .array _ _ => true | _ => false) = true) (hi : (P.info? ty).map (·.size) = some cs.size)
    (hk : K (a.put o.dst (.agg cs))) : o.quiet P a C K := by
  refine ⟨.agg cs, fun w hw => ?_, hk⟩
  unfold Oper.quietAt execOp
  simp only [ho, hx, Instr.loadAt, Instr.sureAddr, Sem.run_bind, Sem.run_pure, Result.andThen_ok, run_loadVar_cells w ad ty cs d (hc w hw) hu hd hi]
  exact ⟨rfl, rfl⟩
end Go.Proofs.YtjgloipgnnigmaaGreatDoor
