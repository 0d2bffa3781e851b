/- The common frame of all texts of this seat: facts that stay in later worlds, and the last step of a law's row: from the walk's end to the row's post. No function of the program is named here. -/
import Derived.ProofKit
import Derived.WalkKit
import Derived.Lib.Hide
import Derived.Deep.QuietTactic
import Derived.BigQuiet
import Derived.Laws.AppendOwn
import Derived.Lib.SlicesCompact
import Derived.Maps.AppendAt
import Derived.Laws.CopyOwn
import Derived.Lib.AppendZerosOnto
import Derived.Lib.AppendZeros
import Derived.Lib.Overlaps
import Derived.Maps.Own
namespace Go.Proofs.YtboiafchmdflpaaGreatDoor
open Go.ChangeShapes Go.WideShapes Go.ChangeAt Go.RowKit

/-- A cell that is there stays in a later world. -/
theorem keep {W w1 : World} {a : Addr} {v : Value} (hb : Below W.heap.size W w1) (h : W.cell? a = some v) : w1.cell? a = some v := by
  by_cases ha : a.block < W.heap.size
  · rw [hb.cell ha]; exact h
  · exfalso
    have : W.heap[a.block]? = none := Array.getElem?_eq_none (by omega)
    simp [World.cell?, this] at h
theorem keepB {w W w1 : World} (HB : Below w.heap.size w W) (hb : Below W.heap.size W w1) : Below w.heap.size w w1 :=
  HB.trans (hb.mono HB.size)
theorem keepA {W : World} {a : Addr} {v : Value} (o : Obj) (h : W.cell? a = some v) : (W.alloc o).cell? a = some v :=
  keep ((Below.refl _ W).alloc (Nat.le_refl _) o) h
theorem below1 (w : World) (a : Obj) : Below w.heap.size w (w.alloc a) := (Below.refl _ _).alloc (Nat.le_refl _) _
theorem below2 (w : World) (a b : Obj) : Below w.heap.size w ((w.alloc a).alloc b) := (below1 w a).alloc (by simp) _
theorem below3 (w : World) (a b c : Obj) : Below w.heap.size w (((w.alloc a).alloc b).alloc c) := (below2 w a b).alloc (by simp; omega) _

/-- Quiet calls: a contract that leaves the world as it was, in a region that draws its order. -/
theorem quiet_left {P : Program} {f : FuncId} {args : Array Value} {w : World} {n : Nat} {v : Value}
    (h : Calls P f args (w.drewN n) fun e w' => e = .returned v ∧ w.drewN n = w') : Calls P f args (w.drewN n) fun e w'' => e = .returned v ∧ ∃ m, w'' = w.drewN m :=
  h.mono fun _ _ ⟨he, hm⟩ => ⟨he, n, hm.symm⟩
theorem quiet_add_left {P : Program} {f : FuncId} {args : Array Value} {w : World} {a n : Nat} {v : Value}
    (h : Calls P f args (w.drewN (a + n)) fun e w' => e = .returned v ∧ w.drewN (a + n) = w') :
    Calls P f args (w.drewN (a + n)) fun e w'' => e = .returned v ∧ ∃ m, w'' = w.drewN (a + m) :=
  h.mono fun _ _ ⟨he, hm⟩ => ⟨he, n, hm.symm⟩
theorem below_drewN {B : Nat} {a w : World} (h : Below B a w) (n : Nat) : Below B a (w.drewN n) := ⟨h.os, h.tape, h.output, h.size, h.block⟩
theorem below_drew {B : Nat} {a w : World} (h : Below B a w) : Below B a w.drew := ⟨h.os, h.tape, h.output, h.size, h.block⟩

section
variable {H : Type} {enc : TypeId × Value → H} {P : Program}

theorem trodAll_below (hl : laidOutB P = true) {W W' : World} (hb : Below W.heap.size W W') :
    ∀ {ts : List TypeId} {vs : List Value} {ds : List (DataW H)} {ps : List MemPlace}, (ts.all fun t => P.readableRec t && decide (t < P.types.size)) = true →
      DataW.TrodAll enc P W 0 (fun _ => true) true ts vs ds ps → (∀ x ∈ ps, x.block < W.heap.size) → ∀ sp : Nat → Bool, (∀ x ∈ ps, sp x.block = true) → DataW.TrodAll enc P W' 0 sp true ts vs ds ps
  | [], [], [], _, _, h, _, _, _ => h
  | [], _ :: _, _, _, _, h, _, _, _ => h.elim
  | [], [], _ :: _, _, _, h, _, _, _ => h.elim
  | _ :: _, [], _, _, _, h, _, _, _ => h.elim
  | _ :: _, _ :: _, [], _, _, h, _, _, _ => h.elim
  | t :: ts, v :: vs, d :: ds, ps, hr, h, hlt, sp, hsp => by
    obtain ⟨p, q, h1, h2, rfl⟩ := h
    simp only [List.all_cons, Bool.and_eq_true, decide_eq_true_eq] at hr
    refine ⟨p, q, ?_, trodAll_below hl hb hr.2 h2 (fun x hx => hlt x (List.mem_append_right _ hx)) sp (fun x hx => hsp x (List.mem_append_right _ hx)), rfl⟩
    exact WideElems.Trod_stays hl hr.1.1 hr.1.2 h1 (fun x hx => hb.same (hlt x (List.mem_append_left _ hx))) (fun x hx => hsp x (List.mem_append_left _ hx))

/-- A LAW's POST: it gave true, and what was there is as it was. -/
theorem post_law {f : Func} {s : ChangeSpec} {apart fresh handsOn : Bool} {W W' : World} {args : Array Value} {ds gs : List (DataW H)} {before : List MemPlace} {tb : TypeId}
    (hl : laidOutB P = true) (hr : (f.params.toList.all fun t => P.readableRec t && decide (t < P.types.size)) = true)
    (hrt : f.resultTypes = #[tb]) (ub : P.underlying tb = some .bool) (hv : s.vars = [])
    (hres : (s.fn H (ds ++ [])).results = [.lit (.bool true)]) (hargs : (s.fn H (ds ++ [])).args = ds) (hvs : (s.fn H (ds ++ [])).vars = [])
    (hW : DataW.Whole enc P f.params.toList s.vars apart W args.toList ds gs before) (hb : Below W.heap.size W W') :
    ∃ v, Ending.returned (.bool true) = .returned v ∧ s.post enc P f apart fresh handsOn false W args v W' := by
  refine ⟨_, rfl, ?_⟩
  have hlt : ∀ p ∈ before, p.block < W.heap.size := fun p hp => hW.lt p hp
  obtain ⟨p, q, hA, hV, rfl, hz, hn⟩ := hW
  have hV' := hV
  rw [hv] at hV
  have hg : gs = [] := by
    cases gs with
    | nil => rfl
    | cons _ _ => exact hV.elim
  subst hg
  obtain rfl : q = [] := hV
  have hlt' : ∀ x ∈ p, x.block < W.heap.size := fun x hx => hlt x (by simpa using hx)
  have hold : ∀ x ∈ p, (fun b => decide (b < W.heap.size)) x.block = true := fun x hx => by simpa using hlt' x hx
  refine ⟨ds, [], p ++ [], [], p, [], ⟨p, [], hA, hV', rfl, hz, hn⟩, ?_, ?_, ?_, World.keptBut_mono (fun x hx => ⟨hx, ?_⟩) (hb.frame (· ∈ p ++ [])), fun h => by cases h⟩
  · rw [hres, hrt]
    exact trodAll_mk1 (shut_bool ub true)
  · rw [hargs]
    exact trodAll_below hl hb hr hA hlt' _ hold
  · rw [hv, hvs]
    rfl
  · exact Or.inr (by simpa using hx)
end
end Go.Proofs.YtboiafchmdflpaaGreatDoor
/- The plain words of layers 4 and 7: what is computed, in Lean, with no program in sight. -/
namespace Go.Proofs.YtboiafchmdflpaaGreatDoor
open Go.RowKit

/-- A lower case letter or a digit. -/
def ldB (b : UInt8) : Bool := (decide (97 ≤ b.toNat) && decide (b.toNat ≤ 122)) || (decide (48 ≤ b.toNat) && decide (b.toNat ≤ 57))
/-- A key. -/
def keyB (s : ByteArray) : Bool := decide (1 ≤ s.size) && decide (s.size ≤ 12) && s.data.toList.all ldB
/-- Of two strings the first is the lesser. -/
def lessS (a b : ByteArray) : Bool := Op.bytesLess a.toList b.toList

theorem bytesLess_eq : ∀ (x y : List UInt8), Op.bytesLess x y = decide (x < y)
  | [], [] => by simp [Op.bytesLess]
  | _ :: _, [] => by simp [Op.bytesLess]
  | [], _ :: _ => by simp [Op.bytesLess]
  | a :: x, b :: y => by
    rw [Op.bytesLess, bytesLess_eq x y]
    simp only [List.cons_lt_cons_iff]
    by_cases h1 : a < b <;> by_cases h2 : a = b <;> by_cases h3 : x < y <;> simp [h1, h2, h3]
theorem bytes_ext {a b : ByteArray} (h : a.toList = b.toList) : a = b := by
  rw [ByteArray.toList_eq, ByteArray.toList_eq] at h
  cases a; cases b
  simp at h
  simp [h]
theorem lessS_irr (a : ByteArray) : lessS a a = false := by
  simp only [lessS, bytesLess_eq, decide_eq_false_iff_not]; exact List.lt_irrefl _
theorem lessS_trans {a b c : ByteArray} (h : lessS a b = true) (h' : lessS b c = true) : lessS a c = true := by
  simp only [lessS, bytesLess_eq, decide_eq_true_eq] at *; exact List.lt_trans h h'
theorem lessS_asym {a b : ByteArray} (h : lessS a b = true) : lessS b a = false := by
  cases h' : lessS b a
  · rfl
  · have := lessS_trans h h'; rw [lessS_irr] at this; cases this
theorem lessS_tri {a b : ByteArray} (h : lessS a b = false) (h' : lessS b a = false) : a = b := by
  simp only [lessS, bytesLess_eq, decide_eq_false_iff_not] at *; exact bytes_ext (List.le_antisymm h' h)
/-- Go's 'x <= y' where y is not below x .. -/
theorem lessS_no {x y : ByteArray} (h : lessS y x = false) : (Op.bytesLess x.toList y.toList || x.toList == y.toList) = true := by
  cases h' : lessS x y
  · obtain rfl := lessS_tri h h'
    simp
  · have : Op.bytesLess x.toList y.toList = true := h'
    simp [this]
/-- .. and where it is. -/
theorem lessS_yes {x y : ByteArray} (h : lessS y x = true) : (Op.bytesLess x.toList y.toList || x.toList == y.toList) = false := by
  have h' : Op.bytesLess x.toList y.toList = false := lessS_asym h
  rw [h', Bool.false_or, beq_eq_false_iff_ne]
  intro e
  obtain rfl := bytes_ext e
  rw [lessS_irr] at h; cases h

/-- A configuration. -/
structure Cfg where
  reps : List Int
  bnds : List ByteArray

def repOK (n : Int) : Bool := n == 1 || n == 3 || n == 5
def noStr : ByteArray := ByteArray.empty
/-- The k-th of a list of strings is a key, and above the one ahead of it. -/
def riseAt (l : List ByteArray) (k : Nat) : Bool := keyB (l.getD k noStr) && (k == 0 || lessS (l.getD (k - 1) noStr) (l.getD k noStr))
def risesTo (l : List ByteArray) : Nat → Bool
  | 0 => true
  | k + 1 => risesTo l k && riseAt l k
def repsTo (l : List Int) : Nat → Bool
  | 0 => true
  | k + 1 => repsTo l k && repOK (l.getD k 0)
def sizesB (c : Cfg) : Bool := decide (1 ≤ c.reps.length) && decide (c.reps.length ≤ 4) && decide (c.bnds.length + 1 = c.reps.length)
def formedB (c : Cfg) : Bool := sizesB c && repsTo c.reps c.reps.length && risesTo c.bnds c.bnds.length

theorem risesTo_false {l : List ByteArray} {k n : Nat} (hk : k < n) (h : riseAt l k = false) : risesTo l n = false := by
  induction n with
  | zero => omega
  | succ n ih =>
    by_cases e : k = n
    · subst e; simp [risesTo, h]
    · simp [risesTo, ih (by omega)]
theorem risesTo_next0 {l : List ByteArray} {k : Nat} {x : ByteArray} (_h : risesTo l k = true) (hx : l.getD k noStr = x) (hkey : keyB x = true) (hk : k = 0) : risesTo l (k + 1) = true := by
  subst hk; simp only [risesTo, riseAt, hx, hkey, beq_self_eq_true, Bool.true_or, Bool.and_self]
theorem risesTo_next {l : List ByteArray} {k : Nat} {x y : ByteArray} (h : risesTo l k = true) (hx : l.getD k noStr = x) (hy : l.getD (k - 1) noStr = y) (hkey : keyB x = true) (hl : lessS y x = true) : risesTo l (k + 1) = true := by
  simp only [risesTo, riseAt, h, hx, hy, hkey, hl, Bool.or_true, Bool.and_self]
theorem repsTo_false {l : List Int} {k n : Nat} (hk : k < n) (h : repOK (l.getD k 0) = false) : repsTo l n = false := by
  induction n with
  | zero => omega
  | succ n ih =>
    by_cases e : k = n
    · subst e; simp only [repsTo, h, Bool.and_false]
    · simp [repsTo, ih (by omega)]
theorem formed_sizes {c : Cfg} (h : sizesB c = false) : formedB c = false := by simp [formedB, h]
theorem formed_rep {c : Cfg} {k : Nat} (hk : k < c.reps.length) (h : repOK (c.reps.getD k 0) = false) : formedB c = false := by
  simp [formedB, repsTo_false hk h]
theorem formed_bnd {c : Cfg} {k : Nat} (hk : k < c.bnds.length) (h : riseAt c.bnds k = false) : formedB c = false := by
  simp [formedB, risesTo_false hk h]
theorem formed_all {c : Cfg} (h : sizesB c = true) (h1 : repsTo c.reps c.reps.length = true) (h2 : risesTo c.bnds c.bnds.length = true) : formedB c = true := by
  simp [formedB, h, h1, h2]

/-! ### How they lie in memory -/
/-- n cells in a row. -/
def CellsAt (w : World) (A : Option Addr) (n : Nat) (f : Nat → Value) : Prop :=
  ∀ i, i < n → ∃ b off, A = some ⟨b, off, none⟩ ∧ w.cell? ⟨b, off + i, none⟩ = some (f i)
def IntsAt (w : World) (A : Option Addr) (l : List Int) : Prop := CellsAt w A l.length fun i => .int .i64 (l.getD i 0)
def StrsAt (w : World) (A : Option Addr) (l : List ByteArray) : Prop := CellsAt w A l.length fun i => .string (l.getD i noStr)
theorem CellsAt.later {w w' : World} {A : Option Addr} {n : Nat} {f : Nat → Value} (h : CellsAt w A n f) (hb : Below w.heap.size w w') : CellsAt w' A n f := by
  intro i hi
  obtain ⟨b, off, e, hc⟩ := h i hi
  exact ⟨b, off, e, keep hb hc⟩

theorem IntsAt.at' {w : World} {A : Option Addr} {l : List Int} (h : IntsAt w A l) {k : Nat} (hk : k < l.length) :
    ∃ b off x, A = some ⟨b, off, none⟩ ∧ w.cell? ⟨b, off + k, none⟩ = some (.int .i64 x) ∧ Hid (l.getD k 0 = x) := by
  obtain ⟨b, off, e, hc⟩ := h k hk
  exact ⟨b, off, _, e, hc, rfl⟩
theorem StrsAt.at' {w : World} {A : Option Addr} {l : List ByteArray} (h : StrsAt w A l) {k : Nat} (hk : k < l.length) :
    ∃ b off x, A = some ⟨b, off, none⟩ ∧ w.cell? ⟨b, off + k, none⟩ = some (.string x) ∧ Hid (l.getD k noStr = x) := by
  obtain ⟨b, off, e, hc⟩ := h k hk
  exact ⟨b, off, _, e, hc, rfl⟩

/-- How a configuration lies in memory: its two slices' cells. -/
structure CfgAt (w : World) (c : Cfg) (A B : Option Addr) : Prop where
  ints : IntsAt w A c.reps
  strs : StrsAt w B c.bnds
  hs : ∀ k, k < c.bnds.length → (c.bnds.getD k noStr).size ≤ 9223372036854775807
  hn : c.reps.length ≤ 9223372036854775807
  hm : c.bnds.length ≤ 9223372036854775807
theorem CfgAt.later {w w' : World} {c : Cfg} {A B : Option Addr} (h : CfgAt w c A B) (hb : Below w.heap.size w w') : CfgAt w' c A B :=
  ⟨CellsAt.later h.ints hb, CellsAt.later h.strs hb, h.hs, h.hn, h.hm⟩

/-- A box of two cells: the world behind it under a name. -/
theorem box2 (w : World) (u v : Value) (t : TypeId) : ∃ W : World, w.alloc (.cells #[u, v] t) = W ∧ Below w.heap.size w W ∧ W.cell? ⟨w.heap.size, 0, none⟩ = some u ∧ W.cell? ⟨w.heap.size, 1, none⟩ = some v :=
  ⟨_, rfl, below1 _ _, by simp, by simp⟩
end Go.Proofs.YtboiafchmdflpaaGreatDoor
/- Slices that a call owns: they stay in later worlds, and read as lists. Plain lists: what slices.Sort and slices.Compact make of a list of ints. -/
namespace Go.Proofs.YtboiafchmdflpaaGreatDoor
open Go.RowKit

theorem own_keep {w w1 : World} {base n size : Nat} {e : TypeId} {v : Value} {xs : List Value} (h : w.ownsRow base e size v n xs) (hb : Below w.heap.size w w1) : w1.ownsRow base e size v n xs := by
  refine ⟨h.1, ?_⟩
  rcases h.2 with h2 | ⟨g, cap, cur, hv, hg, hh, r⟩
  · exact .inl h2
  · exact .inr ⟨g, cap, cur, hv, hg, by rw [hb.block g (Array.getElem?_eq_some_iff.1 hh).1]; exact hh, r⟩
theorem own_nil (w : World) (base size : Nat) (e : TypeId) : w.ownsRow base e size (.slice none 0 0) 0 [] := ⟨by simp, .inl ⟨rfl, rfl⟩⟩

theorem own_ge {w : World} {base n size : Nat} {e : TypeId} {v : Value} {xs : List Value} (h : w.ownsRow base e size v n xs) : ∀ k, v.ownBlock = some k → base ≤ k := by
  rcases h.2 with ⟨rfl, _⟩ | ⟨g, cap, cur, rfl, hg, _⟩
  · intro k hk; cases hk
  · intro k hk; simp [Value.ownBlock] at hk; omega
/-- Behind an append (or a sort) of what is owned: all below the base is as it was. -/
theorem own_below {a w w' : World} {base n size : Nat} {e : TypeId} {v : Value} {xs : List Value} (h : Below base a w) (hB : base ≤ a.heap.size) (ho : w.ownsRow base e size v n xs) (hg : w.grownBy w' v.ownBlock) : Below base a w' :=
  h.grown hg (Nat.le_trans hB h.size) (own_ge ho)
theorem calls_int {P : Program} {f : FuncId} {args : Array Value} {w : World} {z x : Int} (e : z = x)
    (h : Calls P f args w fun e w' => e = .returned (.int .i64 z) ∧ Below w.heap.size w w') :
    Calls P f args w fun e w' => e = .returned (.int .i64 x) ∧ Below w.heap.size w w' := by
  rw [e] at h; exact h
theorem one_cell_int {k : IntKind} {x : Int} : ∀ u ∈ [Value.int k x], u.oneCell' = true := fun u hu => by
  cases List.mem_singleton.1 hu; rfl
theorem one_cell_str {x : ByteArray} : ∀ u ∈ [Value.string x], u.oneCell' = true := fun u hu => by
  cases List.mem_singleton.1 hu; rfl
theorem le_maxLen {n : Nat} (h : n ≤ 1000000) : n ≤ maxLen := by unfold maxLen; omega
/-- A list of ints handed back, in memory of the call's own. -/
def IntsPost (w : World) (l : List Int) (e : Ending) (w' : World) : Prop :=
  ∃ (A : Option Addr) (cap : Nat), e = .returned (.slice A l.length cap) ∧ IntsAt w' A l ∧ Below w.heap.size w w'

/-- What is owned, as cells: one cell an element. -/
theorem own_cells {w : World} {base n : Nat} {e : TypeId} {v : Value} {f : Nat → Value} (h : w.ownsRow base e 1 v n ((List.range n).map f)) :
    ∃ (A : Option Addr) (cap : Nat), v = .slice A n cap ∧ n ≤ cap ∧ CellsAt w A n f := by
  rcases h.2 with ⟨rfl, rfl⟩ | ⟨g, cap, cur, rfl, _, hh, hn, _, _, ht⟩
  · exact ⟨none, 0, rfl, by omega, fun i hi => by omega⟩
  · refine ⟨some ⟨g, 0, none⟩, cap, rfl, hn, fun i hi => ⟨g, 0, rfl, ?_⟩⟩
    have h1 : (cur.toList.take (n * 1))[i]? = ((List.range n).map f)[i]? := by rw [ht]
    rw [List.getElem?_take_of_lt (by omega)] at h1
    simp only [World.cell?, hh, Nat.zero_add, Option.isSome_none, Bool.false_eq_true, if_false]
    rw [← Array.getElem?_toList, h1]
    simp [hi]
theorem map_range_getD {α : Type} (l : List α) (d : α) (g : α → Value) : l.map g = (List.range l.length).map fun i => g (l.getD i d) := by
  apply List.ext_getElem
  · simp
  · intro i h1 h2
    have hi : i < l.length := by simpa using h1
    simp [List.getD_eq_getElem?_getD, hi]
theorem own_ints {w : World} {base : Nat} {e : TypeId} {v : Value} {l : List Int} (h : w.ownsRow base e 1 v l.length (l.map (Value.int .i64))) :
    ∃ (A : Option Addr) (cap : Nat), v = .slice A l.length cap ∧ l.length ≤ cap ∧ IntsAt w A l := by
  rw [map_range_getD l 0] at h
  exact own_cells h
theorem own_strs {w : World} {base : Nat} {e : TypeId} {v : Value} {l : List ByteArray} (h : w.ownsRow base e 1 v l.length (l.map Value.string)) :
    ∃ (A : Option Addr) (cap : Nat), v = .slice A l.length cap ∧ l.length ≤ cap ∧ StrsAt w A l := by
  rw [map_range_getD l noStr] at h
  exact own_cells h

section
variable {P : Program} {w : World}
theorem append_nil_run (w : World) (base : Nat) (t ty e : TypeId) (i : TypeInfo) (size : Nat) (ht : P.underlying t = some (.slice e)) (hi : P.info? e = some i)
    (v : Value) (n : Nat) (xs : List Value) (hown : w.ownsRow base e size v n xs) (c : Nat) : (Builtin.append_ #[t, t] ty #[v, .slice none 0 c]).run P w = .ok v w := by
  rcases hown.2 with ⟨rfl, rfl⟩ | ⟨g, cap, cur, rfl, _, _, hnc, _⟩
  · simp [Builtin.append_, run_underlying ht, sizeOf, typeInfo, hi, Builtin.lenOf, Builtin.firstCells]
  · simp [Builtin.append_, run_underlying ht, sizeOf, typeInfo, hi, Builtin.lenOf, Builtin.firstCells, hnc, storeCells]
/-- append(v, keys...) where v is owned and keys are a slice of strings, nil let in. -/
theorem wpList_append_strs {ops : Array Oper} {rest : List Oper} {o : Oper} {a : Act} {Q : Exit → Act → World → Prop} (hgd : o.guard = none) (s x : Operand) (t : TypeId)
    (ho : o.op = .call { callee := .builtin .append, args := #[s, x], argTypes := #[t, t] })
    (base : Nat) (e : TypeId) (i : TypeInfo) (z : Value) (bytes : Nat) (ht : P.underlying t = some (.slice e)) (hi : P.info? e = some i) (hz : i.zero = some z)
    (hsize : i.size = 1) (hby : i.bytes = bytes) (hzs : z.cells.size = 1)
    (v : Value) (n : Nat) (xs : List Value) (hs : a.eval s = v) (hown : w.ownsRow base e 1 v n xs)
    (K : Option Addr) (keys : List ByteArray) (c : Nat) (hx : a.eval x = .slice K keys.length c) (hK : StrsAt w K keys)
    (h63 : n + keys.length ≤ maxLen) (hbytes : (n + keys.length) * bytes ≤ 140737488355328) (hbase : base ≤ w.heap.size)
    (h : ∀ v' w', w'.ownsRow base e 1 v' (n + keys.length) (xs ++ keys.map Value.string) → w.grownBy w' v.ownBlock → wpList P ops Q rest (a.put o.dst v') w') : wpList P ops Q (o :: rest) a w := by
  by_cases h0 : 0 < keys.length
  · obtain ⟨b, off, rfl, _⟩ := hK 0 h0
    refine wpList_append_own w hgd s x t ho base e i z 1 bytes ht hi hz hsize hby hzs (by decide) v n xs hs hown ⟨b, off, none⟩ keys.length c (keys.map Value.string) hx (by simp) (fun j u hu => ?_) (fun u hu => ?_) h63 hbytes hbase (fun v' w' h1 h2 _ => h v' w' h1 h2)
    · have hj : j < keys.length := by
        rcases Nat.lt_or_ge j keys.length with q | q
        · exact q
        · rw [List.getElem?_eq_none (by simpa using q)] at hu; cases hu
      obtain ⟨b', off', e', hc⟩ := hK j hj
      cases e'
      rw [Go.WideShapes.add_plain, hc, ← hu]
      simp [List.getD_eq_getElem?_getD, hj]
    · obtain ⟨s', _, rfl⟩ := List.mem_map.1 hu
      rfl
  · have hk : keys = [] := List.eq_nil_of_length_eq_zero (by omega)
    subst hk
    cases K with
    | some ad =>
      exact wpList_append_own w hgd s x t ho base e i z 1 bytes ht hi hz hsize hby hzs (by decide) v n xs hs hown ad 0 c [] hx (by simp) (fun j u hu => by simp at hu) (fun u hu => by simp at hu) h63 hbytes hbase (fun v' w' h1 h2 _ => h v' w' h1 h2)
    | none =>
      refine wpList_plain hgd fun _ hK' => ?_
      have hrun := append_nil_run w base t o.type e i 1 ht hi v n xs hown c
      unfold Oper.wp execOp
      have hx' : a.eval x = .slice none 0 c := hx
      simp only [ho, resolve, invoke, builtin, Sem.run_bind, Sem.run_pure, Result.andThen_ok, List.map_toArray, List.map_cons, List.map_nil, hs, hx', hrun]
      exact hK' _ _ (h v w (by simpa using hown) (World.grownBy.refl w _))
end

/-! ### Plain lists -/
/-- Two rising lists with the same members are one. -/
theorem rising_ext : ∀ {l m : List Int}, l.Pairwise (· < ·) → m.Pairwise (· < ·) → (∀ x, x ∈ l ↔ x ∈ m) → l = m
  | [], [], _, _, _ => rfl
  | [], b :: m, _, _, h => by simpa using (h b).2 (by simp)
  | a :: l, [], _, _, h => by simpa using (h a).1 (by simp)
  | a :: l, b :: m, hl, hm, h => by
    rw [List.pairwise_cons] at hl hm
    have hab : a = b := by
      have h1 := (h a).1 (by simp)
      have h2 := (h b).2 (by simp)
      simp only [List.mem_cons] at h1 h2
      rcases h1 with rfl | h1
      · rfl
      · rcases h2 with rfl | h2
        · rfl
        · have := hm.1 a h1; have := hl.1 b h2; omega
    subst hab
    congr 1
    refine rising_ext hl.2 hm.2 (fun x => ?_)
    constructor
    · intro hx
      have := (h x).1 (by simp [hx])
      simp only [List.mem_cons] at this
      rcases this with rfl | this
      · exact absurd (hl.1 x hx) (by omega)
      · exact this
    · intro hx
      have := (h x).2 (by simp [hx])
      simp only [List.mem_cons] at this
      rcases this with rfl | this
      · exact absurd (hm.1 x hx) (by omega)
      · exact this

theorem compact_spec (d : Array Int) (hs : ∀ i j, i < j → j < d.size → d[i]! ≤ d[j]!) : ∀ m, m ≤ d.size →
    (Lib.compactUpTo d m).Pairwise (· < ·) ∧ ∀ x, x ∈ Lib.compactUpTo d m ↔ ∃ j, j < m ∧ d[j]! = x
  | 0, _ => by simp [Lib.compactUpTo]
  | m + 1, hm => by
    obtain ⟨h1, h2⟩ := compact_spec d hs m (by omega)
    rw [Lib.compactUpTo_succ]
    cases hk : Lib.keeps d m
    · have hne : m ≠ 0 ∧ d[m]! = d[m - 1]! := by
        have := hk
        simp only [Lib.keeps, decide_eq_false_iff_not, not_or, ne_eq, Decidable.not_not] at this
        exact this
      simp only [Bool.false_eq_true, if_false, List.append_nil]
      refine ⟨h1, fun x => ?_⟩
      rw [h2]
      constructor
      · rintro ⟨j, hj, e⟩; exact ⟨j, by omega, e⟩
      · rintro ⟨j, hj, e⟩
        by_cases ej : j = m
        · subst ej; exact ⟨j - 1, by omega, by rw [← hne.2]; exact e⟩
        · exact ⟨j, by omega, e⟩
    · simp only [if_true]
      refine ⟨?_, fun x => ?_⟩
      · rw [List.pairwise_append]
        refine ⟨h1, by simp, fun a ha b hb => ?_⟩
        simp only [List.mem_singleton] at hb
        subst hb
        obtain ⟨j, hj, rfl⟩ := (h2 a).1 ha
        have hle := hs j m hj (by omega)
        have hne : m = 0 ∨ d[m]! ≠ d[m - 1]! := by simpa [Lib.keeps] using hk
        rcases hne with e | hne
        · omega
        · by_cases ej : j = m - 1
          · subst ej; omega
          · have q1 := hs j (m - 1) (by omega) (by omega)
            have q2 := hs (m - 1) m (by omega) (by omega)
            omega
      · rw [List.mem_append, h2]
        simp only [List.mem_singleton]
        constructor
        · rintro (⟨j, hj, e⟩ | e)
          · exact ⟨j, by omega, e⟩
          · exact ⟨m, by omega, e.symm⟩
        · rintro ⟨j, hj, e⟩
          by_cases ej : j = m
          · subst ej; exact .inr e.symm
          · exact .inl ⟨j, by omega, e⟩
/-- What Sort and then Compact make of a list: the rising list of its members. -/
theorem sort_compact (l r : List Int) (hr : r.Pairwise (· < ·)) (hm : ∀ x, x ∈ l ↔ x ∈ r) : Lib.compact (l.mergeSort fun x y => decide (x ≤ y)) = r := by
  have hp := List.mergeSort_perm l (fun x y => decide (x ≤ y))
  have hsrt : (l.mergeSort fun x y => decide (x ≤ y)).Pairwise fun x y => decide (x ≤ y) = true :=
    List.pairwise_mergeSort (fun a b c h1 h2 => by simp only [decide_eq_true_eq] at *; omega) (fun a b => by simp only [Bool.or_eq_true, decide_eq_true_eq]; omega) l
  generalize l.mergeSort (fun x y => decide (x ≤ y)) = s at *
  have hs : ∀ i j, i < j → j < s.toArray.size → s.toArray[i]! ≤ s.toArray[j]! := by
    intro i j hij hj
    have hj' : j < s.length := by simpa using hj
    have := List.pairwise_iff_getElem.1 hsrt i j (by omega) hj' hij
    simp only [decide_eq_true_eq] at this
    rw [getElem!_pos s.toArray i (by simp; omega), getElem!_pos s.toArray j (by simp; omega)]
    simpa using this
  obtain ⟨h1, h2⟩ := compact_spec s.toArray hs s.length (by simp)
  refine rising_ext h1 hr (fun x => ?_)
  rw [show Lib.compact s = Lib.compactUpTo s.toArray s.length from rfl, h2, ← hm, ← hp.mem_iff, List.mem_iff_getElem]
  constructor
  · rintro ⟨j, hj, e⟩
    rw [getElem!_pos s.toArray j (by simp; omega)] at e
    exact ⟨j, hj, by simpa using e⟩
  · rintro ⟨j, hj, e⟩
    refine ⟨j, hj, ?_⟩
    rw [getElem!_pos s.toArray j (by simp; omega)]
    simpa using e
end Go.Proofs.YtboiafchmdflpaaGreatDoor
/- append(v, row...): v is a row of the call's own, the other row may be nil. -/
namespace Go.Proofs.YtboiafchmdflpaaGreatDoor
open Go.RowKit

section
variable {P : Program} {w : World}
/-- append(v, row...) where v is owned and the row may be nil. -/
theorem wpList_append_row {ops : Array Oper} {rest : List Oper} {o : Oper} {a : Act} {Q : Exit → Act → World → Prop} (hgd : o.guard = none) (s x : Operand) (t : TypeId)
    (ho : o.op = .call { callee := .builtin .append, args := #[s, x], argTypes := #[t, t] })
    (base : Nat) (e : TypeId) (i : TypeInfo) (z : Value) (size bytes : Nat) (ht : P.underlying t = some (.slice e)) (hi : P.info? e = some i) (hz : i.zero = some z)
    (hsize : i.size = size) (hby : i.bytes = bytes) (hzs : z.cells.size = size) (hsz : 0 < size)
    (v : Value) (n : Nat) (xs : List Value) (hs : a.eval s = v) (hown : w.ownsRow base e size v n xs)
    (K : Option Addr) (m c : Nat) (news : List Value) (hx : a.eval x = .slice K m c) (hl : news.length = m * size) (hK : K = none → m = 0) (hnews : ∀ ad, K = some ad → ∀ j u, news[j]? = some u → w.cell? (ad.add j) = some u) (h1 : ∀ u ∈ news, u.oneCell' = true)
    (h63 : n + m ≤ maxLen) (hbytes : (n + m) * bytes ≤ 140737488355328) (hbase : base ≤ w.heap.size)
    (h : ∀ v' w', w'.ownsRow base e size v' (n + m) (xs ++ news) → w.grownBy w' v.ownBlock → (v'.ownBlock = v.ownBlock ∨ v'.ownBlock = some w.heap.size) → wpList P ops Q rest (a.put o.dst v') w') : wpList P ops Q (o :: rest) a w := by
  cases K with
  | some ad => exact wpList_append_own_at w hgd s x t ho base e i z size bytes ht hi hz hsize hby hzs hsz v n xs hs hown ad m c news hx hl (hnews ad rfl) h1 h63 hbytes hbase (fun v' w' h1 h2 _ h3 => h v' w' h1 h2 h3)
  | none =>
    have hm := hK rfl
    subst hm
    have hn0 : news = [] := List.eq_nil_of_length_eq_zero (by omega)
    subst hn0
    refine wpList_plain hgd fun _ hK' => ?_
    have hrun := append_nil_run w base t o.type e i size ht hi v n xs hown c
    unfold Oper.wp execOp
    simp only [ho, resolve, invoke, builtin, Sem.run_bind, Sem.run_pure, Result.andThen_ok, List.map_toArray, List.map_cons, List.map_nil, hs, hx, hrun]
    exact hK' _ _ (h v w (by simpa using hown) (World.grownBy.refl w _) (.inl rfl))
end
end Go.Proofs.YtboiafchmdflpaaGreatDoor
/- Laws of no program: 'copy' over a row whose elements take several cells; 'append(s[:0], make(S, k)...)' where there is no room. -/
namespace Go.Proofs.YtboiafchmdflpaaGreatDoor
open Go.RowKit

section
variable {P : Program} {w : World}
theorem run_copy_rowS (w : World) (dT sT ty elem : TypeId) (size g o dLen dCap : Nat) (a : Addr) (sLen sCap : Nat) (cur : Array Value) (t : TypeId) (cs : List Value)
    (hu : P.underlying dT = some (.slice elem)) (hs : (P.info? elem).map (·.size) = some size)
    (hg : w.heap[g]? = some (.cells cur t (0, 0))) (hn : cs.length = Nat.min sLen dLen * size)
    (hsrc : ∀ j v, cs[j]? = some v → w.cell? (a.add j) = some v) (hfit : o + cs.length ≤ cur.size) (h1 : ∀ v ∈ cs, v.oneCell' = true) :
    (Builtin.copy_ #[dT, sT] ty #[.slice (some ⟨g, o, none⟩) dLen dCap, .slice (some a) sLen sCap]).run P w =
      .ok (goInt (Nat.min sLen dLen)) (w.setRow g (cur.toList.take o ++ cs ++ cur.toList.drop (o + cs.length)).toArray) := by
  have hl := run_loadCells_list (P := P) w a cs hsrc
  have hst := run_storeCells_at P g o t cs 0 cur w hg (by simpa using hfit) h1
  cases hq : P.info? elem with
  | none => simp [hq] at hs
  | some i =>
    have hi : i.size = size := by simpa [hq] using hs
    simp [Builtin.copy_, run_underlying hu, Builtin.lenOf, Builtin.firstCells, sizeOf, typeInfo, hq, hi, ← hn, hl, hst]
theorem grown_setRow (w : World) (g : Nat) (cs : Array Value) : w.grownBy (w.setRow g cs) (some g) :=
  ⟨rfl, rfl, rfl, by simp [World.setRow], fun k _ hk => setRow_other w g k cs (fun e => hk (by rw [e]))⟩
theorem run_copy_spliceS (w : World) (dT sT ty elem : TypeId) (size g o dLen dCap : Nat) (a : Addr) (sLen sCap : Nat) (cur : List Value) (t : TypeId) (cs : List Value)
    (hu : P.underlying dT = some (.slice elem)) (hs : (P.info? elem).map (·.size) = some size)
    (hg : w.heap[g]? = some (.cells cur.toArray t (0, 0))) (hn : cs.length = Nat.min sLen dLen * size)
    (hsrc : ∀ j v, cs[j]? = some v → w.cell? (a.add j) = some v) (hfit : o + cs.length ≤ cur.length) (h1 : ∀ v ∈ cs, v.oneCell' = true) :
    ∃ n w', (Builtin.copy_ #[dT, sT] ty #[.slice (some ⟨g, o, none⟩) dLen dCap, .slice (some a) sLen sCap]).run P w = .ok (goInt n) w' ∧ w'.heap[g]? = some (.cells (splice cur o cs).toArray t (0, 0)) ∧ w.grownBy w' (some g) := by
  refine ⟨_, _, run_copy_rowS w dT sT ty elem size g o dLen dCap a sLen sCap cur.toArray t cs hu hs hg hn hsrc (by simpa using hfit) h1, ?_, grown_setRow _ _ _⟩
  rw [setRow_heap w g cur.toArray _ t _ hg]
  simp [splice]
theorem wpList_copy_spliceS {ops : Array Oper} {rest : List Oper} {o : Oper} {a : Act} {Q : Exit → Act → World → Prop} (hgd : o.guard = none) (d s : Operand) (dT sT : TypeId)
    (ho : o.op = .call { callee := .builtin .copy, args := #[d, s], argTypes := #[dT, sT] }) (elem : TypeId) (size : Nat) (hu : P.underlying dT = some (.slice elem)) (hsz : (P.info? elem).map (·.size) = some size)
    (g off dLen dCap : Nat) (ad : Addr) (sLen sCap : Nat) (hd : a.eval d = .slice (some ⟨g, off, none⟩) dLen dCap) (hs : a.eval s = .slice (some ad) sLen sCap)
    (cur : List Value) (t : TypeId) (hg : w.heap[g]? = some (.cells cur.toArray t (0, 0))) (cs : List Value) (hn : cs.length = Nat.min sLen dLen * size)
    (hsrc : ∀ j v, cs[j]? = some v → w.cell? (ad.add j) = some v) (hfit : off + cs.length ≤ cur.length) (h1 : ∀ v ∈ cs, v.oneCell' = true)
    (h : ∀ (n : Int) (w' : World), Hid (w'.heap[g]? = some (.cells (splice cur off cs).toArray t (0, 0))) → w.grownBy w' (some g) → wpList P ops Q rest (a.put o.dst (goInt n)) w') : wpList P ops Q (o :: rest) a w := by
  obtain ⟨n, w', hr, h2, h3⟩ := run_copy_spliceS (P := P) w dT sT o.type elem size g off dLen dCap ad sLen sCap cur t cs hu hsz hg hn hsrc hfit h1
  refine wpList_plain hgd fun K hK => ?_
  unfold Oper.wp
  simp [execOp, ho, resolve, invoke, builtin, hd, hs, hr, Result.andThen]
  exact hK _ _ (h n w' h2 h3)
theorem step_copy_spliceS {ops : Array Oper} {o : Oper} {a : Act} {K : Act → World → Prop} {Q : Exit → Act → World → Prop} {E : Prop} (hgd : o.guard = none) (d s : Operand) (dT sT : TypeId)
    (ho : o.op = .call { callee := .builtin .copy, args := #[d, s], argTypes := #[dT, sT] }) (elem : TypeId) (size : Nat) (hu : P.underlying dT = some (.slice elem)) (hsz : (P.info? elem).map (·.size) = some size)
    (g off dLen dCap : Nat) (ad : Addr) (sLen sCap : Nat) (hd : a.eval d = .slice (some ⟨g, off, none⟩) dLen dCap) (hs : a.eval s = .slice (some ad) sLen sCap)
    (cur : List Value) (t : TypeId) (hg : w.heap[g]? = some (.cells cur.toArray t (0, 0))) (cs : List Value) (hn : cs.length = Nat.min sLen dLen * size)
    (hsrc : ∀ j v, cs[j]? = some v → w.cell? (ad.add j) = some v) (hfit : off + cs.length ≤ cur.length) (h1 : ∀ v ∈ cs, v.oneCell' = true)
    (h : ∀ (n : Int) (w' : World), Hid (w'.heap[g]? = some (.cells (splice cur off cs).toArray t (0, 0))) → w.grownBy w' (some g) → K (a.put o.dst (goInt n)) w') :
    if Region.wanted o (yielded ops a.tmps) = true then Oper.wp P o a w K Q else E := by
  obtain ⟨n, w', hr, h2, h3⟩ := run_copy_spliceS (P := P) w dT sT o.type elem size g off dLen dCap ad sLen sCap cur t cs hu hsz hg hn hsrc hfit h1
  have hw : Region.wanted o (yielded ops a.tmps) = true := by simp [Region.wanted, hgd]
  rw [if_pos hw]
  unfold Oper.wp
  simp [execOp, ho, resolve, invoke, builtin, hd, hs, hr, Result.andThen]
  exact h n w' h2 h3
/-- append(s[:0], make(S, k)...) where there is no room. -/
theorem wpList_append_zeros {ops : Array Oper} {rest : List Oper} {o : Oper} {a : Act} {Q : Exit → Act → World → Prop} (hgd : o.guard = none) (s x : Operand) (t tn : TypeId)
    (ho : o.op = .call { callee := .builtin .append, args := #[s, x], argTypes := #[t, tn] }) (e : TypeId) (i : TypeInfo) (z : Value) (size bytes : Nat) (ht : P.underlying t = some (.slice e)) (htn : P.underlying tn = some (.int .i64)) (hi : P.info? e = some i) (hz : i.zero = some z)
    (hsize : i.size = size) (hby : i.bytes = bytes) (hzs : z.cells.size = size) (hsz : 0 < size) (base : Option Addr) (cap k : Nat) (z' : Int) (hs : a.eval s = .slice base 0 cap) (hx : a.eval x = .int .i64 z') (hzk : z' = (k : Int)) (h0 : 0 < k) (hcap : cap < k)
    (h63 : k ≤ 1000000) (hbytes : k * bytes ≤ 140737488355328)
    (h : ∀ (G : Nat) (cur : List Value) (w' : World), k ≤ G → G ≤ 9223372036854775807 → cur.length = G * size → w'.heap[w.heap.size]? = some (.cells cur.toArray e (0, 0)) → w.grownBy w' none → w'.heap.size = w.heap.size + 1 → wpList P ops Q rest (a.put o.dst (.slice (some ⟨w.heap.size, 0, none⟩) k G)) w') : wpList P ops Q (o :: rest) a w := by
  subst hzk
  have hold : (Builtin.firstCells i.size 0 (.slice base 0 cap)).run P w.drew = .ok ([] : List Value).toArray w.drew := by
    cases base with
    | none => exact run_firstCells_none _ _ _ _ _
    | some a => exact run_firstCells_some w.drew _ 0 a 0 cap [] (by simp) (fun j v hj => by simp at hj)
  have hr := Lib.run_append_grow_zeros (P := P) w t tn o.type e i z .i64 .i64 ht htn hi hz base 0 cap [] hold k h0 (by omega) (by omega) (by omega) (by rw [hby]; omega) (by rw [hby, Nat.zero_add]; exact growslice_fits hcap hbytes)
  rw [Nat.zero_add] at hr
  refine Lib.wpList_append_run w hgd s x t tn ho _ _ hs hx _ _ hr ?_
  obtain ⟨G, hG⟩ : ∃ G, grownCap w k cap e = G := ⟨_, rfl⟩
  have hg1 : k ≤ G := hG ▸ grownCap_ge w k cap e
  have hg2 : G ≤ maxLen := hG ▸ grownCap_le_maxLen w k cap e (le_maxLen h63)
  rw [hG]
  have hl : (Builtin.zeroCells z.cells k ++ Builtin.zeroCells z.cells (G - k)).toList.length = G * size := by
    have e0 : G = k + (G - k) := by omega
    have : ∀ n, (Builtin.zeroCells z.cells n).size = n * size := fun n => by simp [Builtin.zeroCells, hzs]
    rw [Array.length_toList, Array.size_append, this, this, ← Nat.add_mul]
    congr 1
    omega
  refine h G _ _ hg1 (by unfold maxLen at hg2; omega) hl ?_ ?_ ?_
  · rw [show w.heap.size = w.drew.heap.size from rfl, heap_alloc_new]
    simp
  · exact ⟨rfl, rfl, rfl, by simp, (World.grownBy_alloc w.drew _ none).block⟩
  · simp
end
end Go.Proofs.YtboiafchmdflpaaGreatDoor
/- Frames by sets of blocks: a call writes in the blocks O alone, and makes new ones. -/
namespace Go.Proofs.YtboiafchmdflpaaGreatDoor
open Go.RowKit

/-- But for the blocks O all that was there is as it was. -/
structure Out (O : Nat → Prop) (w w' : World) : Prop where
  os : w'.os = w.os
  tape : w'.tape = w.tape
  output : w'.output = w.output
  size : w.heap.size ≤ w'.heap.size
  block : ∀ k, k < w.heap.size → ¬ O k → w'.heap[k]? = w.heap[k]?
/-- O and the blocks made between w and w'. -/
def ext (O : Nat → Prop) (w w' : World) (k : Nat) : Prop := O k ∨ (w.heap.size ≤ k ∧ k < w'.heap.size)
theorem Out.refl (O : Nat → Prop) (w : World) : Out O w w := ⟨rfl, rfl, rfl, Nat.le_refl _, fun _ _ _ => rfl⟩
theorem Out.trans {O : Nat → Prop} {w w1 w2 : World} (h : Out O w w1) (h' : Out (ext O w w1) w1 w2) : Out O w w2 :=
  ⟨h'.os.trans h.os, h'.tape.trans h.tape, h'.output.trans h.output, Nat.le_trans h.size h'.size, fun k hk ho => by
    rw [h'.block k (Nat.lt_of_lt_of_le hk h.size) (fun e => e.elim ho (fun e => by omega)), h.block k hk ho]⟩
theorem Out.trans' {O : Nat → Prop} {w w1 w2 : World} (h : Out O w w1) (h' : Out O w1 w2) : Out O w w2 :=
  ⟨h'.os.trans h.os, h'.tape.trans h.tape, h'.output.trans h.output, Nat.le_trans h.size h'.size, fun k hk ho => by
    rw [h'.block k (Nat.lt_of_lt_of_le hk h.size) ho, h.block k hk ho]⟩
theorem Out.mono {O O' : Nat → Prop} {w w' : World} (h : Out O w w') (hs : ∀ k, O k → O' k) : Out O' w w' :=
  ⟨h.os, h.tape, h.output, h.size, fun k hk ho => h.block k hk (fun e => ho (hs k e))⟩
theorem Out.of_below {O : Nat → Prop} {w w' : World} (h : Below w.heap.size w w') : Out O w w' := ⟨h.os, h.tape, h.output, h.size, fun k hk _ => h.block k hk⟩
theorem Out.of_grown {O : Nat → Prop} {w w' : World} {row : Option Nat} (h : w.grownBy w' row) (hr : ∀ k, row = some k → O k) : Out O w w' :=
  ⟨h.os, h.tape, h.output, h.size, fun k hk ho => h.block k hk (fun e => ho (hr k e.symm))⟩
theorem Out.below {O : Nat → Prop} {w w' : World} {B : Nat} (h : Out O w w') (hB : B ≤ w.heap.size) (ho : ∀ k, O k → B ≤ k) : Below B w w' :=
  ⟨h.os, h.tape, h.output, h.size, fun k hk => h.block k (Nat.lt_of_lt_of_le hk hB) (fun e => by have := ho k e; omega)⟩
theorem blk_lt {w : World} {a : Addr} {v : Value} (h : w.cell? a = some v) : a.block < w.heap.size := by
  rcases Nat.lt_or_ge a.block w.heap.size with q | q
  · exact q
  · exfalso
    have : w.heap[a.block]? = none := Array.getElem?_eq_none q
    simp [World.cell?, this] at h
theorem Out.cell {O : Nat → Prop} {w w' : World} {a : Addr} {v : Value} (h : Out O w w') (hc : w.cell? a = some v) (ho : ¬ O a.block) : w'.cell? a = some v := by
  rw [World.cell?_of_block (h.block a.block (blk_lt hc) ho)]; exact hc
theorem Out.obj {O : Nat → Prop} {w w' : World} {g : Nat} {o : Obj} (h : Out O w w') (hc : w.heap[g]? = some o) (ho : ¬ O g) : w'.heap[g]? = some o := by
  rw [h.block g (Array.getElem?_eq_some_iff.1 hc).1 ho]; exact hc
theorem Out.row {O : Nat → Prop} {w w' : World} {base n size : Nat} {e : TypeId} {v : Value} {xs : List Value} (h : Out O w w') (hr : w.ownsRow base e size v n xs) (ho : ∀ g, v.ownBlock = some g → ¬ O g) : w'.ownsRow base e size v n xs := by
  refine ⟨hr.1, ?_⟩
  rcases hr.2 with h2 | ⟨g, cap, cur, rfl, hg, hh, r⟩
  · exact .inl h2
  · exact .inr ⟨g, cap, cur, rfl, hg, h.obj hh (ho g rfl), r⟩
theorem Out.map {H : Type} {P : Program} {k : TypeId} {R : Value → Option (DataW H × List MemPlace)} {O : Nat → Prop} {w w' : World} {b n : Nat} {D : DataW H} (h : Out O w w') (hm : w.ownsMap P k R b n D) (ho : ¬ O b) : w'.ownsMap P k R b n D := by
  obtain ⟨es, clock, hb, r⟩ := hm
  exact ⟨es, clock, h.obj hb ho, r⟩
theorem own_lt {w : World} {base n size : Nat} {e : TypeId} {v : Value} {xs : List Value} (h : w.ownsRow base e size v n xs) {g : Nat} (hg : v.ownBlock = some g) : base ≤ g ∧ g < w.heap.size := h.lt g hg
theorem ext_mono {O : Nat → Prop} {w w1 w2 : World} (h2 : w1.heap.size ≤ w2.heap.size) {k : Nat} (h : ext O w w1 k) : ext O w w2 k :=
  h.elim .inl fun h => .inr ⟨h.1, by omega⟩
theorem ext_ext {O : Nat → Prop} {w w1 w2 : World} (h1 : w.heap.size ≤ w1.heap.size) (h2 : w1.heap.size ≤ w2.heap.size) (k : Nat) : ext (ext O w w1) w1 w2 k ↔ ext O w w2 k := by
  unfold ext
  constructor
  · rintro ((h | h) | h)
    · exact .inl h
    · exact .inr ⟨h.1, by omega⟩
    · exact .inr ⟨by omega, h.2⟩
  · rintro (h | h)
    · exact .inl (.inl h)
    · by_cases hk : k < w1.heap.size
      · exact .inl (.inr ⟨h.1, hk⟩)
      · exact .inr ⟨by omega, h.2⟩
theorem CellsAt.out {O : Nat → Prop} {w w' : World} {A : Option Addr} {n : Nat} {f : Nat → Value} (h : CellsAt w A n f) (hb : Out O w w') (ho : ∀ a, A = some a → ¬ O a.block) : CellsAt w' A n f := by
  intro i hi
  obtain ⟨b, off, e, hc⟩ := h i hi
  exact ⟨b, off, e, hb.cell hc (ho ⟨b, off, none⟩ e)⟩
end Go.Proofs.YtboiafchmdflpaaGreatDoor
