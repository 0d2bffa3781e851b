/- Transactions that came in, opened. -/
import Derived.Test.YtcldpmkhpmlcbaaGreatDoorJ23
import Derived.Test.YtcldpmkhpmlcbaaGreatDoorWdApp17
import Derived.OpenShut
set_option linter.unusedVariables false
set_option linter.unusedSimpArgs false
namespace Go.Proofs.YtcldpmkhpmlcbaaGreatDoor
open Go.ChangeShapes Go.WideShapes Go.ChangeAt Go.RowKit Go.Joins Go.Deep

/-- A transaction, and where its rows lie. -/
structure TxV where
  t : Tx
  A : Option Addr
  B : Option Addr
  ca : Nat
  cb : Nat
def TxV.vs (x : TxV) : List Value := [.int .i64 x.t.ses, .int .i64 x.t.seq, .slice x.A x.t.rds.length x.ca, .slice x.B x.t.wrs.length x.cb]
def noTxV : TxV := ⟨⟨0, 0, [], []⟩, none, none, 0, 0⟩
instance : Inhabited TxV := ⟨noTxV⟩
def TxsAt (w : World) (S : Option Addr) (l : List TxV) : Prop :=
  ∀ i, i < l.length → ∃ b off, S = some ⟨b, off, none⟩ ∧ (∀ j v, (l.getD i noTxV).vs[j]? = some v → w.cell? ⟨b, off + i * 4 + j, none⟩ = some v) ∧ TxAt w (l.getD i noTxV).t (l.getD i noTxV).A (l.getD i noTxV).B
theorem TxsAt.later {w w' : World} {S : Option Addr} {l : List TxV} (h : TxsAt w S l) (hb : Below w.heap.size w w') : TxsAt w' S l := fun i hi => by
  obtain ⟨b, off, e, h0, h1⟩ := h i hi
  exact ⟨b, off, e, fun j v hj => keep hb (h0 j v hj), h1.later hb⟩
theorem TxsAt.at' {w : World} {S : Option Addr} {l : List TxV} (h : TxsAt w S l) {k : Nat} (hk : k < l.length) : ∃ b off a, S = some ⟨b, off, none⟩ ∧ w.cell? ⟨b, off + k * 4, none⟩ = some (.int .i64 a.t.ses) ∧ w.cell? ⟨b, off + k * 4 + 1, none⟩ = some (.int .i64 a.t.seq) ∧ w.cell? ⟨b, off + k * 4 + 2, none⟩ = some (.slice a.A a.t.rds.length a.ca) ∧ w.cell? ⟨b, off + k * 4 + 3, none⟩ = some (.slice a.B a.t.wrs.length a.cb) ∧ TxAt w a.t a.A a.B ∧ Hid (l.getD k noTxV = a) := by
  obtain ⟨b, off, e, h0, h1⟩ := h k hk
  exact ⟨b, off, _, e, h0 0 _ rfl, h0 1 _ rfl, h0 2 _ rfl, h0 3 _ rfl, h1, rfl⟩
set_option maxRecDepth 100000 in
theorem open_txns {H : Type} {enc : TypeId × Value → H} {w : World} {b0 base : Nat} {sp : Nat → Bool} {held : Bool} {v : Value} {d : DataW H} {p : List MemPlace}
    (hv : Value.okWide Tryz.prog w .any b0 47 v) (h : DataW.Trod enc Tryz.prog w base sp held 47 v d p) :
    ∃ (S : Option Addr) (l : List TxV) (cs : Nat), v = .slice S l.length cs ∧ TxsAt w S l ∧ l.length ≤ 9223372036854775807 := by
  obtain ⟨a0, len, cap, rfl⟩ := okWide_slice Tryz.underlying47 hv
  obtain ⟨fuel, hf⟩ := h
  obtain ⟨A, l, ca, e, h1, h2, h3, h4⟩ := slice_cells (k := 4) (f := fun o : TxV => o.vs) (q := fun o => TxAt w o.t o.A o.B) noTxV (by omega) (fun _ => rfl) Tryz.underlying47 cells_txn (fun h => by
    obtain ⟨t, A, B, ca, cb, e, hT, _⟩ := txn_cells h
    exact ⟨⟨t, A, B, ca, cb⟩, e, hT⟩) hf
  have h5 := le_max (Nat.le_trans h1 h2)
  refine ⟨A, l, ca, by simpa [Value.cells] using e, fun i hi => ?_, h5⟩
  obtain ⟨b, off, e, hc⟩ := h3 i hi
  exact ⟨b, off, e, hc, h4 i hi⟩
end Go.Proofs.YtcldpmkhpmlcbaaGreatDoor
/- GroupAgree: the transactions and the picks in memory, beside the world. -/
namespace Go.Proofs.YtcldpmkhpmlcbaaGreatDoor
open Go.RowKit Go.Shelf Go.Maps

section
variable {w0 w wr wz w3 : World} {b : Nat} {c : Cfg} {j jw : Nat} {W : Wd} {F F1 F2 : WdE}
/-- Nobody's block is written. -/
theorem WdIn.other (h : WdIn w0 wr b c j jw W F) {O : Nat → Prop} (ho : Out O wr wz) (hO : ∀ k, O k → F.ow k = .no ∧ w0.heap.size ≤ k) : WdIn w0 wz b c j jw W F := by
  have hOb : ∀ k, O k → w0.heap.size ≤ k := fun k hk => (hO k hk).2
  have hn : ∀ k, F.ow k ≠ .no → ¬ O k := fun k e z => e (hO k z).1
  exact { h with
    b0 := h.b0.trans (ho.below h.b0.size hOb)
    blk := ho.obj h.blk (hn b (by rw [h.lb]; decide))
    mr := ho.row h.mr (fun k e => hn k (by rw [h.lm k e]; decide))
    wrr := ho.row h.wrr (fun k e => hn k (by rw [h.lw k e]; decide))
    way := fun x hx => ho.row (h.way x hx) (fun k e => hn k (by rw [h.lway x hx k e]; intro z; cases z))
    m := fun g hg => by
      obtain ⟨E, ov, os, hm⟩ := h.m g hg
      exact ⟨E, ov, os, hm.out ho (fun k hk => hn k (by rw [h.lmach g hg k hk]; intro z; cases z)) hOb⟩
    lt := fun k hk => ⟨(h.lt k hk).1, Nat.lt_of_lt_of_le (h.lt k hk).2 ho.size⟩ }
theorem WdStep.other {O : Nat → Prop} (h : WdStep w wr F F1) (ho : Out O wr wz) (hO : ∀ k, O k → w.heap.size ≤ k) : WdStep w wz F F1 :=
  ⟨⟨ho.os.trans h.out.os, ho.tape.trans h.out.tape, ho.output.trans h.out.output, Nat.le_trans h.out.size ho.size, fun k hk hn => by
    rw [ho.block k (Nat.lt_of_lt_of_le hk h.out.size) (fun z => by have := hO k z; omega)]
    exact h.out.block k hk hn⟩, h.keep⟩
/-- The transactions of the run: their own row is nobody's of the world. -/
def AllAt (w0 wr : World) (F : WdE) (S : Option Addr) (l : List TxV) : Prop :=
  ∀ i, i < l.length → ∃ b off, S = some ⟨b, off, none⟩ ∧ F.ow b = .no ∧ b < wr.heap.size ∧ (∀ j v, (l.getD i noTxV).vs[j]? = some v → wr.cell? ⟨b, off + i * 4 + j, none⟩ = some v) ∧ TxAt w0 (l.getD i noTxV).t (l.getD i noTxV).A (l.getD i noTxV).B
theorem AllAt.step {S : Option Addr} {l : List TxV} (h : AllAt w0 wr F S l) (hs : WdStep wr wz F F1) : AllAt w0 wz F1 S l := fun i hi => by
  obtain ⟨b, off, e, h0, h1, h2, h3⟩ := h i hi
  exact ⟨b, off, e, hs.keep b h1 h0, Nat.lt_of_lt_of_le h1 hs.out.size, fun j v hj => hs.out.cell (h2 j v hj) (fun z => z h0), h3⟩
theorem TxAt.old {t : Tx} {A B : Option Addr} (h : TxAt w t A B) : Old w.heap.size t.rds.length A ∧ Old w.heap.size t.wrs.length B := by
  refine ⟨fun a e hn0 => ?_, fun a e hn0 => ?_⟩
  · obtain ⟨b, off, e1, hc, _⟩ := h.rds 0 hn0
    rw [e] at e1; cases e1
    exact blk_lt hc
  · obtain ⟨b, off, e1, hc, _⟩ := h.wrs 0 hn0
    rw [e] at e1; cases e1
    exact blk_lt hc
theorem AllAt.at' {S : Option Addr} {l : List TxV} (h : AllAt w0 wr F S l) {k : Nat} (hk : k < l.length) : ∃ b off a, S = some ⟨b, off, none⟩ ∧ wr.cell? ⟨b, off + k * 4, none⟩ = some (.int .i64 a.t.ses) ∧ wr.cell? ⟨b, off + k * 4 + 1, none⟩ = some (.int .i64 a.t.seq) ∧ wr.cell? ⟨b, off + k * 4 + 2, none⟩ = some (.slice a.A a.t.rds.length a.ca) ∧ wr.cell? ⟨b, off + k * 4 + 3, none⟩ = some (.slice a.B a.t.wrs.length a.cb) ∧ TxAt w0 a.t a.A a.B ∧ Old w0.heap.size a.t.rds.length a.A ∧ Old w0.heap.size a.t.wrs.length a.B ∧ Hid (l.getD k noTxV = a) := by
  obtain ⟨b, off, e, _, _, h0, h1⟩ := h k hk
  exact ⟨b, off, _, e, h0 0 _ rfl, h0 1 _ rfl, h0 2 _ rfl, h0 3 _ rfl, h1, h1.old.1, h1.old.2, rfl⟩
end
/-- One pick. -/
structure PickV where
  g : Nat
  e : Nat
  k : Nat
def PickV.vs (x : PickV) : List Value := [.int .u8 x.g, .int .u8 x.e, .int .u8 x.k]
def noPick : PickV := ⟨0, 0, 0⟩
instance : Inhabited PickV := ⟨noPick⟩
def PicksAt (w : World) (S : Option Addr) (l : List PickV) : Prop :=
  ∀ i, i < l.length → ∃ b off, S = some ⟨b, off, none⟩ ∧ (∀ j v, (l.getD i noPick).vs[j]? = some v → w.cell? ⟨b, off + i * 3 + j, none⟩ = some v) ∧ (l.getD i noPick).g < 256 ∧ (l.getD i noPick).e < 256 ∧ (l.getD i noPick).k < 256
theorem PicksAt.later {w w' : World} {S : Option Addr} {l : List PickV} (h : PicksAt w S l) (hb : Below w.heap.size w w') : PicksAt w' S l := fun i hi => by
  obtain ⟨b, off, e, h0, h1⟩ := h i hi
  exact ⟨b, off, e, fun j v hj => keep hb (h0 j v hj), h1⟩
theorem PicksAt.at' {w : World} {S : Option Addr} {l : List PickV} (h : PicksAt w S l) {k : Nat} (hk : k < l.length) : ∃ (b off : Nat) (a : PickV), S = some ⟨b, off, none⟩ ∧ w.cell? ⟨b, off + k * 3, none⟩ = some (.int .u8 (a.g : Int)) ∧ w.cell? ⟨b, off + k * 3 + 1, none⟩ = some (.int .u8 (a.e : Int)) ∧ w.cell? ⟨b, off + k * 3 + 2, none⟩ = some (.int .u8 (a.k : Int)) ∧ a.g < 256 ∧ a.e < 256 ∧ a.k < 256 := by
  obtain ⟨b, off, e, h0, h1⟩ := h k hk
  exact ⟨b, off, _, e, h0 0 _ rfl, h0 1 _ rfl, h0 2 _ rfl, h1⟩
/-- The transactions alone. -/
def txsOf (l : List TxV) : List Tx := l.map fun a => a.t
theorem txsOf_mem {l : List TxV} {k : Nat} (hk : k < l.length) {a : TxV} (h : Hid (l.getD k noTxV = a)) : a.t ∈ txsOf l := by
  have h := h.out
  rw [List.getD_eq_getElem?_getD, List.getElem?_eq_getElem hk] at h
  rw [txsOf, List.mem_map]
  exact ⟨a, by rw [← h]; exact List.getElem_mem hk, rfl⟩
def begV (a : TxV) : CmdV := beginC a.t a.A a.B a.ca a.cb
/-! ### A command of the run -/
/-- A world that a run comes to. -/
def Run17 (c : Cfg) (all : List Tx) (W : Wd) : Prop := (∃ k G, k ≤ 156 ∧ Reach c all k W ∧ WInv c all k W G) ∧ ∀ h : Nat, h < c.reps.length → W.cnt h ≤ 524
theorem P1.run {c : Cfg} {all : List Tx} {N : Nat} {W : Wd} (h : P1 c all N W) (hN : N ≤ 156) : Run17 c all W := by
  obtain ⟨k, G, h1, h2, h3⟩ := h.ex
  exact ⟨⟨k, G, by omega, h2, h3⟩, fun x hx => by have := h.cn x hx; omega⟩
theorem P3.run {c : Cfg} {all : List Tx} {τ : Nat} {p : Nat → Nat} {W : Wd} (h : P3 c all τ p W) (hp : Plan c all) : Run17 c all W := by
  obtain ⟨k, G, h1, h2, h3, _⟩ := h.ex
  exact ⟨⟨k, G, h1, h2, h3⟩, fun x hx => by have := h.cn x hx; have := h.le x hx; have := h.few hp x; omega⟩
theorem Run17.few {c : Cfg} {all : List Tx} {W : Wd} (h : Run17 c all W) (hp : Plan c all) (x : Nat) : (W.way x).length ≤ 368 := by
  obtain ⟨⟨k, G, h1, _, h3⟩, _⟩ := h
  have := h3.few hp h1 x
  omega
theorem told_dst {c : Cfg} {all : List Tx} {G : Gh} {g : Int} {os : List OutD} (hc : formedB c = true) (h : Told c all G g os) : ∀ o ∈ os, o.kind ≠ 4 → ∃ x : Nat, o.dst = x ∧ x < c.reps.length := fun o ho hk => by
  rcases h o ho with e | ⟨⟨t, _, _, h1, _⟩, _⟩
  · exact absurd e hk
  · exact group_nat hc h1
def ApW (w0 w : World) (b : Nat) (c : Cfg) (W' : Wd) (F : WdE) (e : Ending) (w' : World) : Prop := e = .returned (.tuple #[]) ∧ ∃ F', WdIn w0 w' b c c.reps.length c.reps.length W' F' ∧ WdStep w w' F F'
section
variable {w0 w : World} {b : Nat} {c : Cfg} {all : List Tx} {W : Wd} {F : WdE} {g : Nat}
theorem Run17.begin (h : WdIn w0 w b c c.reps.length c.reps.length W F) (hR : Run17 c all W) (hp : Plan c all) (hg : g < c.reps.length) {a : TxV} (ha : a.t ∈ all) (ht : TxAt w0 a.t a.A a.B) :
    Calls Tryz.prog 45 #[.pointer (some ⟨b, 0, none⟩), .int .i64 g, .agg #[.int .i64 1, .int .i64 a.t.ses, .int .i64 a.t.seq, .slice a.A a.t.rds.length a.ca, .slice a.B a.t.wrs.length a.cb, .int .i64 0, .int .i64 0, .int .i64 0, .int .u64 0, .bool false]] w (ApW w0 w b c (applyW c W g (begV a)) F) := by
  obtain ⟨⟨k, G, h1, h2, h3⟩, hcn⟩ := hR
  have hS := apply_begin (h3.loc g hg) (h3.mok g hg) hp.j ha (hp.f _ ha) (u := k + 1) (fun x i s e => by have := h3.ob x i s e; omega) (by have := h3.ck g hg; omega) a.A a.B a.ca a.cb
  obtain ⟨G', hS⟩ := hS
  have hl := applyO_len (h3.mok g hg) (begV a)
  have hc := hcn g hg
  exact wapply17 h hg (reps_four hp.c).2 (begV a) (ht.later h.b0) ht.old.1 ht.old.2 (by omega) (by omega) (told_dst hp.c hS.told) (fun x => by have := h3.few hp h1 x; omega)
theorem Run17.heard (h : WdIn w0 w b c c.reps.length c.reps.length W F) (hR : Run17 c all W) (hp : Plan c all) (hg : g < c.reps.length) {a : CmdV} (ha : a ∈ W.way g) :
    Calls Tryz.prog 45 #[.pointer (some ⟨b, 0, none⟩), .int .i64 g, .agg a.vs] w (ApW w0 w b c (applyW c W g a) F) := by
  obtain ⟨⟨k, G, h1, h2, h3⟩, hcn⟩ := hR
  have hM := h3.msg g hg a ha
  obtain ⟨G', hS⟩ := apply_heard (h3.loc g hg) (h3.mok g hg) hp.j hM.f (by rcases hM.x with e | e; exact .inl e.1; exact .inr e.1) h3.ob (h3.ck g hg) (fun e => by rcases hM.x with q | q; exact q.2; omega) (fun e => by rcases hM.x with q | q; exact absurd q.1 e; exact q.2)
  have hl := applyO_len (h3.mok g hg) a
  have hc := hcn g hg
  obtain ⟨s1, s2, s3, _, _⟩ := hM.sh
  have ht : TxAt w a.t a.A a.B := by
    rw [s1, s2, s3]
    exact ⟨fun i hi => absurd hi (Nat.not_lt_zero _), fun i hi => absurd hi (Nat.not_lt_zero _), fun i hi => absurd hi (Nat.not_lt_zero _), fun i hi => absurd hi (Nat.not_lt_zero _), fun i hi => absurd hi (Nat.not_lt_zero _), Nat.zero_le _, Nat.zero_le _⟩
  exact wapply17 h hg (reps_four hp.c).2 a ht (by rw [s2]; intro q e; cases e) (by rw [s3]; intro q e; cases e) (by omega) (by omega) (told_dst hp.c hS.told) (fun x => by have := h3.few hp h1 x; omega)
end
end Go.Proofs.YtcldpmkhpmlcbaaGreatDoor
/- GroupAgree: the transactions with ids of their own. -/
namespace Go.Proofs.YtcldpmkhpmlcbaaGreatDoor
open Go.RowKit Go.Shelf Go.Maps

def numT (t : Tx) (k : Nat) : Tx := { t with ses := 1 + (k : Int) % 8, seq := 1 + (k : Int) / 8 }
def numX (a : TxV) (k : Nat) : TxV := { a with t := numT a.t k }
/-- Those of the first k that are formed. -/
def allN (l : List TxV) : Nat → List TxV
  | 0 => []
  | k + 1 => allN l k ++ (if formedT (numT (l.getD k noTxV).t k) then [numX (l.getD k noTxV) k] else [])
theorem allN_skip {l : List TxV} {k : Nat} {a : TxV} (h : l.getD k noTxV = a) (hf : formedT (numT a.t k) = false) : allN l (k + 1) = allN l k := by
  rw [allN, h, hf]; simp
theorem allN_take {l : List TxV} {k : Nat} {a : TxV} (h : l.getD k noTxV = a) (hf : formedT (numT a.t k) = true) : allN l (k + 1) = allN l k ++ [numX a k] := by
  rw [allN, h, hf, if_pos rfl]
theorem allN_len (l : List TxV) : ∀ k, (allN l k).length ≤ k
  | 0 => Nat.le_refl _
  | k + 1 => by
    have := allN_len l k
    rw [allN, List.length_append]
    split <;> simp <;> omega
theorem allN_mem {l : List TxV} : ∀ {k : Nat} {a : TxV}, a ∈ allN l k → ∃ i, i < k ∧ a = numX (l.getD i noTxV) i ∧ formedT a.t = true
  | 0, a, h => by cases h
  | k + 1, a, h => by
    rw [allN, List.mem_append] at h
    rcases h with h | h
    · obtain ⟨i, hi, e⟩ := allN_mem h
      exact ⟨i, by omega, e⟩
    · split at h
      · next hf =>
        rw [List.mem_singleton] at h
        exact ⟨k, by omega, h, by rw [h]; exact hf⟩
      · cases h
theorem allN_plan {c : Cfg} {l : List TxV} {k : Nat} (hc : formedB c = true) (hk : k ≤ 14) : Plan c (txsOf (allN l k)) := by
  refine ⟨hc, fun t ht => ?_, fun t ht t' ht' e => ?_, by rw [txsOf, List.length_map]; have := allN_len l k; omega⟩
  · obtain ⟨a, ha, rfl⟩ := List.mem_map.1 ht
    obtain ⟨_, _, _, e⟩ := allN_mem ha; exact e
  · obtain ⟨a, ha, rfl⟩ := List.mem_map.1 ht
    obtain ⟨a', ha', rfl⟩ := List.mem_map.1 ht'
    obtain ⟨i, _, e1, _⟩ := allN_mem ha
    obtain ⟨i', _, e2, _⟩ := allN_mem ha'
    rw [e1, e2] at e ⊢
    have e3 : (⟨1 + (i : Int) % 8, 1 + (i : Int) / 8⟩ : IdD) = ⟨1 + (i' : Int) % 8, 1 + (i' : Int) / 8⟩ := e
    injection e3 with h1 h2
    have : i = i' := by omega
    rw [this]
theorem numT_at {w : World} {t : Tx} {A B : Option Addr} (h : TxAt w t A B) (k : Nat) : TxAt w (numT t k) A B := ⟨h.rds, h.wrs, h.rk, h.wk, h.wv, h.rn, h.wn⟩
structure BegW (w0 wr : World) (b : Nat) (c : Cfg) (F : WdE) (av : Value) (ds : List TxV) : Prop where
  i : WdIn w0 wr b c c.reps.length c.reps.length world0 F
  r : wr.ownsRow w0.heap.size 38 4 av ds.length (ds.flatMap TxV.vs)
  no : ∀ k, av.ownBlock = some k → F.ow k = .no
  t : ∀ a ∈ ds, TxAt w0 a.t a.A a.B
section
variable {w0 wr wz w3 : World} {b : Nat} {c : Cfg} {F : WdE} {av : Value} {ds : List TxV}
theorem BegW.later (h : BegW w0 wr b c F av ds) (hb : Below wr.heap.size wr wz) : BegW w0 wz b c F av ds := ⟨h.i.later hb, own_keep h.r hb, h.no, h.t⟩
theorem BegW.push (h : BegW w0 wr b c F av ds) {a : TxV} (ht : TxAt w0 a.t a.A a.B) {v' : Value} (hg : wr.grownBy w3 av.ownBlock) (hr : w3.ownsRow w0.heap.size 38 4 v' (ds.length + 1) (ds.flatMap TxV.vs ++ a.vs)) (hv : v'.ownBlock = av.ownBlock ∨ v'.ownBlock = some wr.heap.size) : BegW w0 w3 b c F v' (ds ++ [a]) := by
  refine ⟨h.i.other (O := fun k => av.ownBlock = some k) (Out.of_grown hg (fun k e => e)) (fun k e => ⟨h.no k e, ?_⟩), by simpa using hr, fun k e => ?_, fun x hx => ?_⟩
  · rcases h.r.2 with ⟨rfl, h0⟩ | ⟨g, cap, cur, rfl, hfr, _⟩
    · cases e
    · cases e; exact hfr
  · rcases hv with q | q
    · exact h.no k (by rw [← q]; exact e)
    · rw [q] at e; cases e
      exact h.i.fresh (Nat.le_refl _)
  · rcases List.mem_append.1 hx with hx | hx
    · exact h.t x hx
    · rw [List.mem_singleton.1 hx]; exact ht
theorem BegW.all (h : BegW w0 wr b c F av ds) : ∃ (A : Option Addr) (ca : Nat), av = .slice A ds.length ca ∧ AllAt w0 wr F A ds := by
  obtain ⟨A, ca, e, hk⟩ := row_el17 (n := 4) (fun a : TxV => rfl) noTxV h.r
  refine ⟨A, ca, e, fun k hkl => ?_⟩
  obtain ⟨g, off, e1, h2⟩ := hk k hkl
  have h3 := fun j v hv => (by have := h2 j v hv; rwa [Go.WideShapes.add_plain] at this : wr.cell? ⟨g, off + k * 4 + j, none⟩ = some v)
  have hb : av.ownBlock = some g := by
    rcases h.r.2 with ⟨e2, h0⟩ | ⟨g', cap, cur, e2, _⟩
    · omega
    · rw [e2] at e; injection e with e3; rw [e1] at e3; cases e3; rw [e2]; rfl
  refine ⟨g, off, e1, h.no g hb, blk_lt (h3 0 (.int .i64 (ds.getD k noTxV).t.ses) rfl), fun j v hj => h3 j v ?_, h.t _ (by rw [List.getD_eq_getElem?_getD, List.getElem?_eq_getElem hkl]; exact List.getElem_mem hkl)⟩
  rw [← Array.getElem?_toList]; exact hj
end
/-- A machine more: what group.New leaves. -/
def NewW (w0 wz : World) (b : Nat) (c : Cfg) (g : Nat) (F : WdE) (e : Ending) (w' : World) : Prop :=
  ∃ p lab, e = .returned (.pointer (some ⟨p, 0, none⟩)) ∧ WdIn w0 w' b c g g world0 F ∧ Below wz.heap.size wz w' ∧ (∃ E ov os, GrAt w' w0.heap.size p c (g : Nat) (2 * world0.cnt g) lab (world0.m g) E ov os) ∧ ∀ k, lab k ≠ .no → F.ow k = .no
theorem newW {w0 wz : World} {b : Nat} {c : Cfg} {F : WdE} {A A' : Option Addr} {ca cb g : Nat} (h : WdIn w0 wz b c g g world0 F) (hc : CfgAt w0 c A A') (hT : Tabs w0) (hf : formedB c = true) (hg : g < c.reps.length) :
    Calls Tryz.prog 11 #[.agg #[.slice A c.reps.length ca, .slice A' c.bnds.length cb], .int .i64 g] wz (NewW w0 wz b c g F) := by
  have o1 : Old w0.heap.size c.reps.length A := fun a e hn0 => by
    obtain ⟨b, off, e1, hc⟩ := hc.ints 0 hn0
    rw [e] at e1; cases e1
    exact blk_lt hc
  have o2 : Old w0.heap.size c.bnds.length A' := fun a e hn0 => by
    obtain ⟨b, off, e1, hc⟩ := hc.strs 0 hn0
    rw [e] at e1; cases e1
    exact blk_lt hc
  have hs := h.b0.size
  refine (grNew_at (hc.later h.b0) (fun a e hn0 => Nat.lt_of_lt_of_le (o1 a e hn0) hs) (fun a e hn0 => Nat.lt_of_lt_of_le (o2 a e hn0) hs) hf (by omega) (by omega)).mono ?_
  rintro e w' ⟨p, lab, E, rfl, hM, hb, hz, eA, eA'⟩
  have hM0 := hM.low0 hs (by rw [eA]; exact o1) (by rw [eA']; exact o2)
  refine ⟨p, lab, rfl, h.later hb, hb, ⟨E, _, _, GrAt.made hM0 hz (Below.refl _ _) hf (by omega) (by omega) (TabB.of hT (Nat.le_refl _) (hT.later (keepB h.b0 hb)))⟩, fun k hk => h.fresh (hM.lt k hk).1⟩
end Go.Proofs.YtcldpmkhpmlcbaaGreatDoor
/- Picks that came in, opened. -/
namespace Go.Proofs.YtcldpmkhpmlcbaaGreatDoor
open Go.ChangeShapes Go.WideShapes Go.ChangeAt Go.RowKit Go.Joins Go.Deep

theorem cells_pick : Tryz.prog.cellsOf 114 = 3 := by kernel_rfl
theorem cells_u8p : Tryz.prog.cellsOf 5 = 1 := by kernel_rfl
section
variable {H : Type} {enc : TypeId × Value → H} {w : World} {base fuel : Nat} {sp : Nat → Bool} {held : Bool} {cs : List Value} {x : DataW H × List MemPlace}
theorem u8_cellsP (h : DataW.trod enc Tryz.prog w base sp held fuel 5 cs = some x) : ∃ n : Nat, cs = [.int .u8 (n : Int)] ∧ n < 256 := by
  obtain ⟨z, rfl, _, wz⟩ := DataW.trod_int Tryz.underlying5 h
  obtain ⟨h0, h1⟩ := bounds_u8 wz
  obtain ⟨n, rfl⟩ := Int.eq_ofNat_of_zero_le h0
  exact ⟨n, rfl, by omega⟩
theorem pick_cells (h : DataW.trod enc Tryz.prog w base sp held fuel 114 cs = some x) : ∃ p : PickV, cs = p.vs ∧ p.g < 256 ∧ p.e < 256 ∧ p.k < 256 := by
  obtain ⟨xs, n, _, _, hc, hl, hg⟩ := DataW.trod_array Tryz.underlying114 h
  rw [cells_pick] at hc
  obtain ⟨a, b, c, rfl⟩ := len_3 hc
  obtain ⟨u, v, y, rfl⟩ := len_3 (l := xs) hl
  have g0 := hg 0 (by omega)
  have g1 := hg 1 (by omega)
  have g2 := hg 2 (by omega)
  simp [cells_u8p] at g0 g1 g2
  obtain ⟨i, e0, h0⟩ := u8_cellsP g0
  obtain ⟨j, e1, h1⟩ := u8_cellsP g1
  obtain ⟨k, e2, h2⟩ := u8_cellsP g2
  simp at e0 e1 e2
  subst e0 e1 e2
  exact ⟨⟨i, j, k⟩, rfl, h0, h1, h2⟩
end
set_option maxRecDepth 100000 in
theorem open_picks {H : Type} {enc : TypeId × Value → H} {w : World} {b0 base : Nat} {sp : Nat → Bool} {held : Bool} {v : Value} {d : DataW H} {p : List MemPlace}
    (hv : Value.okWide Tryz.prog w .any b0 48 v) (h : DataW.Trod enc Tryz.prog w base sp held 48 v d p) :
    ∃ (S : Option Addr) (l : List PickV) (cs : Nat), v = .slice S l.length cs ∧ PicksAt w S l ∧ l.length ≤ 9223372036854775807 := by
  obtain ⟨a0, len, cap, rfl⟩ := okWide_slice Tryz.underlying48 hv
  obtain ⟨fuel, hf⟩ := h
  obtain ⟨A, l, ca, e, h1, h2, h3, h4⟩ := slice_cells (k := 3) (f := fun o : PickV => o.vs) (q := fun p => p.g < 256 ∧ p.e < 256 ∧ p.k < 256) noPick (by omega) (fun _ => rfl) Tryz.underlying48 cells_pick (fun h => pick_cells h) hf
  have h5 := le_max (Nat.le_trans h1 h2)
  refine ⟨A, l, ca, by simpa [Value.cells] using e, fun i hi => ?_, h5⟩
  obtain ⟨b, off, e, hc⟩ := h3 i hi
  exact ⟨b, off, e, hc, h4 i hi⟩
end Go.Proofs.YtcldpmkhpmlcbaaGreatDoor
