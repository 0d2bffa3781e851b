/- The common frame of all texts of this seat: facts that stay in later worlds, and the last step of a law's row: from the walk's end to the row's post. No function of the program is named here. -/
import Derived.ProofKit
import Derived.WalkKit
import Derived.Lib.Hide
import Derived.Deep.QuietTactic
import Derived.BigQuiet
import Derived.Test.YtjgloipgnnigmaaGreatDoorShelfA
import Derived.WalkSpells
import Derived.WalkLawsBesides
import Derived.Lib.ValidU
import Derived.Test.YtjgloipgnnigmaaGreatDoorProg
import Derived.Lib.SmallJoins
import Derived.OpenShut
set_option linter.unusedVariables false
set_option linter.unusedSimpArgs false
namespace Go.Proofs.YtjgloipgnnigmaaGreatDoor
open Go.ChangeShapes Go.WideShapes Go.ChangeAt Go.RowKit

/-- A cell that is there stays in a later world. -/
theorem keep {W w1 : World} {a : Addr} {v : Value} (hb : Below W.heap.size W w1) (h : W.cell? a = some v) : w1.cell? a = some v := by
  by_cases ha : a.block < W.heap.size
  · rw [hb.cell ha]; exact h
  · exfalso
    have : W.heap[a.block]? = none := Array.getElem?_eq_none (by omega)
    simp [World.cell?, this] at h
theorem keepB {w W w1 : World} (HB : Below w.heap.size w W) (hb : Below W.heap.size W w1) : Below w.heap.size w w1 :=
  HB.trans (hb.mono HB.size)
theorem keepA {W : World} {a : Addr} {v : Value} (o : Obj) (h : W.cell? a = some v) : (W.alloc o).cell? a = some v :=
  keep ((Below.refl _ W).alloc (Nat.le_refl _) o) h
theorem below1 (w : World) (a : Obj) : Below w.heap.size w (w.alloc a) := (Below.refl _ _).alloc (Nat.le_refl _) _
theorem below2 (w : World) (a b : Obj) : Below w.heap.size w ((w.alloc a).alloc b) := (below1 w a).alloc (by simp) _
/-- Quiet calls: a contract that leaves the world as it was, in a region that draws its order. -/
theorem quiet_left {P : Program} {f : FuncId} {args : Array Value} {w : World} {n : Nat} {v : Value}
    (h : Calls P f args (w.drewN n) fun e w' => e = .returned v ∧ w.drewN n = w') : Calls P f args (w.drewN n) fun e w'' => e = .returned v ∧ ∃ m, w'' = w.drewN m :=
  h.mono fun _ _ ⟨he, hm⟩ => ⟨he, n, hm.symm⟩
theorem below_drewN {B : Nat} {a w : World} (h : Below B a w) (n : Nat) : Below B a (w.drewN n) := ⟨h.os, h.tape, h.output, h.size, h.block⟩
theorem below_drew {B : Nat} {a w : World} (h : Below B a w) : Below B a w.drew := ⟨h.os, h.tape, h.output, h.size, h.block⟩

section
variable {H : Type} {enc : TypeId × Value → H} {P : Program}

theorem trodAll_below (hl : laidOutB P = true) {W W' : World} (hb : Below W.heap.size W W') :
    ∀ {ts : List TypeId} {vs : List Value} {ds : List (DataW H)} {ps : List MemPlace}, (ts.all fun t => P.readableRec t && decide (t < P.types.size)) = true →
      DataW.TrodAll enc P W 0 (fun _ => true) true ts vs ds ps → (∀ x ∈ ps, x.block < W.heap.size) → ∀ sp : Nat → Bool, (∀ x ∈ ps, sp x.block = true) → DataW.TrodAll enc P W' 0 sp true ts vs ds ps
  | [], [], [], _, _, h, _, _, _ => h
  | [], _ :: _, _, _, _, h, _, _, _ => h.elim
  | [], [], _ :: _, _, _, h, _, _, _ => h.elim
  | _ :: _, [], _, _, _, h, _, _, _ => h.elim
  | _ :: _, _ :: _, [], _, _, h, _, _, _ => h.elim
  | t :: ts, v :: vs, d :: ds, ps, hr, h, hlt, sp, hsp => by
    obtain ⟨p, q, h1, h2, rfl⟩ := h
    simp only [List.all_cons, Bool.and_eq_true, decide_eq_true_eq] at hr
    refine ⟨p, q, ?_, trodAll_below hl hb hr.2 h2 (fun x hx => hlt x (List.mem_append_right _ hx)) sp (fun x hx => hsp x (List.mem_append_right _ hx)), rfl⟩
    exact WideElems.Trod_stays hl hr.1.1 hr.1.2 h1 (fun x hx => hb.same (hlt x (List.mem_append_left _ hx))) (fun x hx => hsp x (List.mem_append_left _ hx))

/-- A LAW's POST: it gave true, and what was there is as it was. -/
theorem post_law {f : Func} {s : ChangeSpec} {apart fresh handsOn : Bool} {W W' : World} {args : Array Value} {ds gs : List (DataW H)} {before : List MemPlace} {tb : TypeId}
    (hl : laidOutB P = true) (hr : (f.params.toList.all fun t => P.readableRec t && decide (t < P.types.size)) = true)
    (hrt : f.resultTypes = #[tb]) (ub : P.underlying tb = some .bool) (hv : s.vars = [])
    (hres : (s.fn H (ds ++ [])).results = [.lit (.bool true)]) (hargs : (s.fn H (ds ++ [])).args = ds) (hvs : (s.fn H (ds ++ [])).vars = [])
    (hW : DataW.Whole enc P f.params.toList s.vars apart W args.toList ds gs before) (hb : Below W.heap.size W W') :
    ∃ v, Ending.returned (.bool true) = .returned v ∧ s.post enc P f apart fresh handsOn false W args v W' := by
  refine ⟨_, rfl, ?_⟩
  have hlt : ∀ p ∈ before, p.block < W.heap.size := fun p hp => hW.lt p hp
  obtain ⟨p, q, hA, hV, rfl, hz, hn⟩ := hW
  have hV' := hV
  rw [hv] at hV
  have hg : gs = [] := by
    cases gs with
    | nil => rfl
    | cons _ _ => exact hV.elim
  subst hg
  obtain rfl : q = [] := hV
  have hlt' : ∀ x ∈ p, x.block < W.heap.size := fun x hx => hlt x (by simpa using hx)
  have hold : ∀ x ∈ p, (fun b => decide (b < W.heap.size)) x.block = true := fun x hx => by simpa using hlt' x hx
  refine ⟨ds, [], p ++ [], [], p, [], ⟨p, [], hA, hV', rfl, hz, hn⟩, ?_, ?_, ?_, World.keptBut_mono (fun x hx => ⟨hx, ?_⟩) (hb.frame (· ∈ p ++ [])), fun h => by cases h⟩
  · rw [hres, hrt]
    exact trodAll_mk1 (shut_bool ub true)
  · rw [hargs]
    exact trodAll_below hl hb hr hA hlt' _ hold
  · rw [hv, hvs]
    rfl
  · exact Or.inr (by simpa using hx)
end
end Go.Proofs.YtjgloipgnnigmaaGreatDoor
/- The plain words of layers 4 and 7: what is computed, in Lean, with no program in sight. -/
namespace Go.Proofs.YtjgloipgnnigmaaGreatDoor
open Go.RowKit

/-- A lower case letter or a digit. -/
def ldB (b : UInt8) : Bool := (decide (97 ≤ b.toNat) && decide (b.toNat ≤ 122)) || (decide (48 ≤ b.toNat) && decide (b.toNat ≤ 57))
/-- A key. -/
def keyB (s : ByteArray) : Bool := decide (1 ≤ s.size) && decide (s.size ≤ 12) && s.data.toList.all ldB
/-- Of two strings the first is the lesser. -/
def lessS (a b : ByteArray) : Bool := Op.bytesLess a.toList b.toList

theorem bytesLess_eq : ∀ (x y : List UInt8), Op.bytesLess x y = decide (x < y)
  | [], [] => by simp [Op.bytesLess]
  | _ :: _, [] => by simp [Op.bytesLess]
  | [], _ :: _ => by simp [Op.bytesLess]
  | a :: x, b :: y => by
    rw [Op.bytesLess, bytesLess_eq x y]
    simp only [List.cons_lt_cons_iff]
    by_cases h1 : a < b <;> by_cases h2 : a = b <;> by_cases h3 : x < y <;> simp [h1, h2, h3]
theorem bytes_ext {a b : ByteArray} (h : a.toList = b.toList) : a = b := by
  rw [ByteArray.toList_eq, ByteArray.toList_eq] at h
  cases a; cases b
  simp at h
  simp [h]
theorem lessS_irr (a : ByteArray) : lessS a a = false := by
  simp only [lessS, bytesLess_eq, decide_eq_false_iff_not]; exact List.lt_irrefl _
theorem lessS_trans {a b c : ByteArray} (h : lessS a b = true) (h' : lessS b c = true) : lessS a c = true := by
  simp only [lessS, bytesLess_eq, decide_eq_true_eq] at *; exact List.lt_trans h h'
theorem lessS_asym {a b : ByteArray} (h : lessS a b = true) : lessS b a = false := by
  cases h' : lessS b a
  · rfl
  · have := lessS_trans h h'; rw [lessS_irr] at this; cases this
theorem lessS_tri {a b : ByteArray} (h : lessS a b = false) (h' : lessS b a = false) : a = b := by
  simp only [lessS, bytesLess_eq, decide_eq_false_iff_not] at *; exact bytes_ext (List.le_antisymm h' h)
/-- Go's 'x <= y' where y is not below x .. -/
theorem lessS_no {x y : ByteArray} (h : lessS y x = false) : (Op.bytesLess x.toList y.toList || x.toList == y.toList) = true := by
  cases h' : lessS x y
  · obtain rfl := lessS_tri h h'
    simp
  · have : Op.bytesLess x.toList y.toList = true := h'
    simp [this]
/-- .. and where it is. -/
theorem lessS_yes {x y : ByteArray} (h : lessS y x = true) : (Op.bytesLess x.toList y.toList || x.toList == y.toList) = false := by
  have h' : Op.bytesLess x.toList y.toList = false := lessS_asym h
  rw [h', Bool.false_or, beq_eq_false_iff_ne]
  intro e
  obtain rfl := bytes_ext e
  rw [lessS_irr] at h; cases h

/-- A configuration. -/
structure Cfg where
  reps : List Int
  bnds : List ByteArray

def repOK (n : Int) : Bool := n == 1 || n == 3 || n == 5
def noStr : ByteArray := ByteArray.empty
/-- The k-th of a list of strings is a key, and above the one ahead of it. -/
def riseAt (l : List ByteArray) (k : Nat) : Bool := keyB (l.getD k noStr) && (k == 0 || lessS (l.getD (k - 1) noStr) (l.getD k noStr))
def risesTo (l : List ByteArray) : Nat → Bool
  | 0 => true
  | k + 1 => risesTo l k && riseAt l k
def repsTo (l : List Int) : Nat → Bool
  | 0 => true
  | k + 1 => repsTo l k && repOK (l.getD k 0)
def sizesB (c : Cfg) : Bool := decide (1 ≤ c.reps.length) && decide (c.reps.length ≤ 4) && decide (c.bnds.length + 1 = c.reps.length)
def formedB (c : Cfg) : Bool := sizesB c && repsTo c.reps c.reps.length && risesTo c.bnds c.bnds.length

theorem risesTo_false {l : List ByteArray} {k n : Nat} (hk : k < n) (h : riseAt l k = false) : risesTo l n = false := by
  induction n with
  | zero => omega
  | succ n ih =>
    by_cases e : k = n
    · subst e; simp [risesTo, h]
    · simp [risesTo, ih (by omega)]
theorem risesTo_next0 {l : List ByteArray} {k : Nat} {x : ByteArray} (_h : risesTo l k = true) (hx : l.getD k noStr = x) (hkey : keyB x = true) (hk : k = 0) : risesTo l (k + 1) = true := by
  subst hk; simp only [risesTo, riseAt, hx, hkey, beq_self_eq_true, Bool.true_or, Bool.and_self]
theorem risesTo_next {l : List ByteArray} {k : Nat} {x y : ByteArray} (h : risesTo l k = true) (hx : l.getD k noStr = x) (hy : l.getD (k - 1) noStr = y) (hkey : keyB x = true) (hl : lessS y x = true) : risesTo l (k + 1) = true := by
  simp only [risesTo, riseAt, h, hx, hy, hkey, hl, Bool.or_true, Bool.and_self]
theorem repsTo_false {l : List Int} {k n : Nat} (hk : k < n) (h : repOK (l.getD k 0) = false) : repsTo l n = false := by
  induction n with
  | zero => omega
  | succ n ih =>
    by_cases e : k = n
    · subst e; simp only [repsTo, h, Bool.and_false]
    · simp [repsTo, ih (by omega)]
theorem formed_sizes {c : Cfg} (h : sizesB c = false) : formedB c = false := by simp [formedB, h]
theorem formed_rep {c : Cfg} {k : Nat} (hk : k < c.reps.length) (h : repOK (c.reps.getD k 0) = false) : formedB c = false := by
  simp [formedB, repsTo_false hk h]
theorem formed_bnd {c : Cfg} {k : Nat} (hk : k < c.bnds.length) (h : riseAt c.bnds k = false) : formedB c = false := by
  simp [formedB, risesTo_false hk h]
theorem formed_all {c : Cfg} (h : sizesB c = true) (h1 : repsTo c.reps c.reps.length = true) (h2 : risesTo c.bnds c.bnds.length = true) : formedB c = true := by
  simp [formedB, h, h1, h2]

/-! ### How they lie in memory -/
/-- n cells in a row. -/
def CellsAt (w : World) (A : Option Addr) (n : Nat) (f : Nat → Value) : Prop :=
  ∀ i, i < n → ∃ b off, A = some ⟨b, off, none⟩ ∧ w.cell? ⟨b, off + i, none⟩ = some (f i)
def IntsAt (w : World) (A : Option Addr) (l : List Int) : Prop := CellsAt w A l.length fun i => .int .i64 (l.getD i 0)
def StrsAt (w : World) (A : Option Addr) (l : List ByteArray) : Prop := CellsAt w A l.length fun i => .string (l.getD i noStr)
theorem CellsAt.later {w w' : World} {A : Option Addr} {n : Nat} {f : Nat → Value} (h : CellsAt w A n f) (hb : Below w.heap.size w w') : CellsAt w' A n f := by
  intro i hi
  obtain ⟨b, off, e, hc⟩ := h i hi
  exact ⟨b, off, e, keep hb hc⟩

theorem IntsAt.at' {w : World} {A : Option Addr} {l : List Int} (h : IntsAt w A l) {k : Nat} (hk : k < l.length) :
    ∃ b off x, A = some ⟨b, off, none⟩ ∧ w.cell? ⟨b, off + k, none⟩ = some (.int .i64 x) ∧ Hid (l.getD k 0 = x) := by
  obtain ⟨b, off, e, hc⟩ := h k hk
  exact ⟨b, off, _, e, hc, rfl⟩
theorem StrsAt.at' {w : World} {A : Option Addr} {l : List ByteArray} (h : StrsAt w A l) {k : Nat} (hk : k < l.length) :
    ∃ b off x, A = some ⟨b, off, none⟩ ∧ w.cell? ⟨b, off + k, none⟩ = some (.string x) ∧ Hid (l.getD k noStr = x) := by
  obtain ⟨b, off, e, hc⟩ := h k hk
  exact ⟨b, off, _, e, hc, rfl⟩

/-- How a configuration lies in memory: its two slices' cells. -/
structure CfgAt (w : World) (c : Cfg) (A B : Option Addr) : Prop where
  ints : IntsAt w A c.reps
  strs : StrsAt w B c.bnds
  hs : ∀ k, k < c.bnds.length → (c.bnds.getD k noStr).size ≤ 9223372036854775807
  hn : c.reps.length ≤ 9223372036854775807
  hm : c.bnds.length ≤ 9223372036854775807
theorem CfgAt.later {w w' : World} {c : Cfg} {A B : Option Addr} (h : CfgAt w c A B) (hb : Below w.heap.size w w') : CfgAt w' c A B :=
  ⟨CellsAt.later h.ints hb, CellsAt.later h.strs hb, h.hs, h.hn, h.hm⟩

/-- A box of two cells: the world behind it under a name. -/
theorem box2 (w : World) (u v : Value) (t : TypeId) : ∃ W : World, w.alloc (.cells #[u, v] t) = W ∧ Below w.heap.size w W ∧ W.cell? ⟨w.heap.size, 0, none⟩ = some u ∧ W.cell? ⟨w.heap.size, 1, none⟩ = some v :=
  ⟨_, rfl, below1 _ _, by simp, by simp⟩
end Go.Proofs.YtjgloipgnnigmaaGreatDoor
/- value.Key and the reference's Key: both tell keyB of every string. -/
namespace Go.Proofs.YtjgloipgnnigmaaGreatDoor
open Go.RowKit Go.Shelf

def cutset : ByteArray := ⟨#[97, 98, 99, 100, 101, 102, 103, 104, 105, 106, 107, 108, 109, 110, 111, 112, 113, 114, 115, 116, 117, 118, 119, 120, 121, 122, 48, 49, 50, 51, 52, 53, 54, 55, 56, 57]⟩
theorem cut_ld (b : UInt8) : cutset.data.toList.contains b = ldB b := by
  have h : ((List.range 256).all fun n => cutset.data.toList.contains (UInt8.ofNat n) == ldB (UInt8.ofNat n)) = true := by decide +kernel
  have := List.all_eq_true.1 h b.toNat (List.mem_range.2 b.toNat_lt)
  simpa using this
theorem dropWhile_nil {p : UInt8 → Bool} : ∀ l : List UInt8, l.dropWhile p = [] ↔ l.all p = true
  | [] => by simp
  | a :: l => by
    cases h : p a
    · simp [h]
    · simp [h, dropWhile_nil l]
theorem trimS_nil (l : List UInt8) : Lib.trimS l cutset.data.toList = [] ↔ l.all ldB = true := by
  have e : (fun b => cutset.data.toList.contains b) = ldB := funext cut_ld
  have e' : (cutset.data.toList.contains ·) = ldB := e
  unfold Lib.trimS Lib.trimLeftS Lib.trimRightS
  rw [e', dropWhile_nil]
  constructor
  · intro h
    have h2 : (l.reverse.dropWhile ldB) = [] := by
      cases hd : l.reverse.dropWhile ldB with
      | nil => rfl
      | cons x xs =>
        exfalso
        have hx : ldB x = false := by
          have := List.head?_dropWhile_not ldB l.reverse
          rw [hd] at this
          simpa using this
        rw [hd] at h
        simp [hx] at h
    rw [dropWhile_nil] at h2
    simpa using h2
  · intro h
    have h2 : l.reverse.dropWhile ldB = [] := by rw [dropWhile_nil]; simpa using h
    rw [h2]; rfl

set_option maxHeartbeats 400000 in
theorem key_any (s : ByteArray) (w : World) (hs : s.size ≤ maxLen) :
    Calls Tryz.prog 36 #[.string s] w fun e w' => e = .returned (.bool (keyB s)) ∧ Below w.heap.size w w' := by
  unfold maxLen at hs
  by_cases h1 : 1 ≤ s.size
  · by_cases h2 : s.size ≤ 12
    · have hcon := Tryz.strings_Trim_laid s cutset w (by omega) (by decide) (ascii_of_all (by decide))
      have hnil := trimS_nil s.data.toList
      have ek : keyB s = s.data.toList.all ldB := by simp [keyB, h1, h2]
      rw [ek]; clear ek
      cases hb : s.data.toList.all ldB
      · have hr : (⟨(Lib.trimS s.data.toList cutset.data.toList).toArray⟩ : ByteArray).toList.isEmpty = false := by
          rw [ByteArray.toList_eq]
          cases hx : Lib.trimS s.data.toList cutset.data.toList with
          | nil => rw [hnil.1 hx] at hb; cases hb
          | cons => simp
        generalize (⟨(Lib.trimS s.data.toList cutset.data.toList).toArray⟩ : ByteArray) = r at hcon hr
        unfold cutset at hcon
        clear hnil hb
        go_enter Tryz.func36, Tryz.ntmps36
        go_wp2_with (go_at_call 78; refine hcon.mono ?_; rintro e w' ⟨rfl, hB⟩)
        go_ret
        exact ⟨rfl, hB⟩
      · have hr : (⟨(Lib.trimS s.data.toList cutset.data.toList).toArray⟩ : ByteArray).toList.isEmpty = true := by
          rw [ByteArray.toList_eq, hnil.2 hb]; rfl
        generalize (⟨(Lib.trimS s.data.toList cutset.data.toList).toArray⟩ : ByteArray) = r at hcon hr
        unfold cutset at hcon
        clear hnil hb
        go_enter Tryz.func36, Tryz.ntmps36
        go_wp2_with (go_at_call 78; refine hcon.mono ?_; rintro e w' ⟨rfl, hB⟩)
        go_ret
        exact ⟨rfl, hB⟩
    · have ek : keyB s = false := by simp [keyB, h2]
      rw [ek]; clear ek
      go_enter Tryz.func36, Tryz.ntmps36
      go_wp2
      go_ret
      exact ⟨rfl, Below.refl _ _⟩
  · have ek : keyB s = false := by simp [keyB, h1]
    rw [ek]; clear ek
    go_enter Tryz.func36, Tryz.ntmps36
    go_wp2
    go_ret
    exact ⟨rfl, Below.refl _ _⟩

theorem ret_bool {a b : Bool} (h : a = b) : Ending.returned (.bool b) = .returned (.bool a) := by rw [h]
theorem take_snoc (s : ByteArray) (k : Nat) (h : k < s.size) : s.data.toList.take (k + 1) = s.data.toList.take k ++ [s[k]] := by
  rw [List.take_succ_eq_append_getElem (by simpa using h)]; rfl
theorem ld_of (c : UInt8) : ldB c = ((decide (97 ≤ (c.toNat : Int)) && decide ((c.toNat : Int) ≤ 122)) || (decide (48 ≤ (c.toNat : Int)) && decide ((c.toNat : Int) ≤ 57))) := by
  unfold ldB
  have e1 : decide (97 ≤ c.toNat) = decide (97 ≤ (c.toNat : Int)) := decide_eq_decide.2 (by omega)
  have e2 : decide (c.toNat ≤ 122) = decide ((c.toNat : Int) ≤ 122) := decide_eq_decide.2 (by omega)
  have e3 : decide (48 ≤ c.toNat) = decide (48 ≤ (c.toNat : Int)) := decide_eq_decide.2 (by omega)
  have e4 : decide (c.toNat ≤ 57) = decide ((c.toNat : Int) ≤ 57) := decide_eq_decide.2 (by omega)
  rw [e1, e2, e3, e4]
theorem ld_yes {c : UInt8} (h : (97 ≤ (c.toNat : Int) ∧ (c.toNat : Int) ≤ 122) ∨ (48 ≤ (c.toNat : Int) ∧ (c.toNat : Int) ≤ 57)) : ldB c = true := by
  rw [ld_of]; simpa using h
theorem ld_no {c : UInt8} (h : ¬ ((97 ≤ (c.toNat : Int) ∧ (c.toNat : Int) ≤ 122) ∨ (48 ≤ (c.toNat : Int) ∧ (c.toNat : Int) ≤ 57))) : ldB c = false := by
  rw [ld_of, Bool.eq_false_iff]; simpa using h
theorem all_false {s : ByteArray} {k : Nat} (h : k < s.size) (hl : ldB s[k] = false) : s.data.toList.all ldB = false := by
  have : s[k] ∈ s.data.toList := by
    have : s.data.toList[k]'(by simpa using h) ∈ s.data.toList := List.getElem_mem _
    exact this
  rw [List.all_eq_false]
  exact ⟨_, this, by simp [hl]⟩

set_option maxHeartbeats 400000 in
theorem refKey_any (s : ByteArray) (w : World) (hs : s.size ≤ maxLen) :
    Calls Tryz.prog 56 #[.string s] w fun e w' => e = .returned (.bool (keyB s)) ∧ w = w' := by
  unfold maxLen at hs
  go_enter Tryz.func56, Tryz.ntmps56
  go_wp2
  go_loop [3] (fun i => ∃ k : Nat, k ≤ s.size ∧ i = .int .i64 k ∧ (s.data.toList.take k).all ldB = true) (fun i => s.size - (intOf i).toNat)
  case atStart => exact ⟨0, Nat.zero_le _, rfl, rfl⟩
  case round =>
    obtain ⟨k, hk, rfl, ha⟩ := hrel
    have HA : Hid ((s.data.toList.take k).all ldB = true) := ha
    clear ha
    by_cases hlt : k < s.size
    · have HT := Lib.hid (take_snoc s k hlt)
      have HF : Hid (ldB s[k] = false → s.data.toList.all ldB = false) := Lib.hid (fun h => all_false hlt h)
      go_wp2
      all_goals first
        | (go_ret
           exact ⟨ret_bool (by rw [keyB, HF.out (ld_no (by omega)), Bool.and_false]), rfl⟩)
        | (go_round
           case rel => exact ⟨k + 1, by omega, by go_num, by rw [HT.out, List.all_append, HA.out, List.all_cons, ld_yes (by omega)]; rfl⟩
           case measure => simp [intOf]; omega)
    · have hall : s.data.toList.all ldB = true := by rw [← List.take_of_length_le (l := s.data.toList) (i := k) (by simp; omega)]; exact HA.out
      have HK : Hid (keyB s = (decide (1 ≤ s.size) && decide (s.size ≤ 12))) := Lib.hid (by rw [keyB, hall, Bool.and_true])
      clear hall
      by_cases h1 : 1 ≤ s.size
      · by_cases h2 : s.size ≤ 12
        all_goals
          go_wp2
          go_ret
          exact ⟨ret_bool (by rw [HK.out]; simp [h1, h2]; try omega), rfl⟩
      · go_wp2
        go_ret
        exact ⟨ret_bool (by rw [HK.out]; simp [h1]), rfl⟩
end Go.Proofs.YtjgloipgnnigmaaGreatDoor
/- Layer 1's Canon, the program's and the reference's. -/
namespace Go.Proofs.YtjgloipgnnigmaaGreatDoor
open Go.RowKit Go.Shelf

/-- A number's bits are a NaN's. -/
def nanB (n : Nat) : Bool := decide (9218868437227405312 < n % 9223372036854775808)
def canonN (n : Nat) : Nat := if nanB n then 9221120237041090560 else n

theorem datum_self (d : Ieee.Datum) : (d.order d != some .eq) = d.isNaN := by
  cases d with
  | nan => rfl
  | infinity s => cases s <;> rfl
  | number s m i =>
    simp [Ieee.Datum.order, Ieee.Datum.isNaN]
theorem read_nan (n : Nat) : (Ieee.double.read n).isNaN = nanB n := by
  have h1 : Ieee.double.signWeight = 9223372036854775808 := rfl
  have h2 : Ieee.double.binade = 4503599627370496 := rfl
  have h3 : Ieee.double.infRung = 9218868437227405312 := rfl
  unfold Ieee.Format.read nanB
  rw [h1, h2, h3]
  dsimp only
  split
  · simp [Ieee.Datum.isNaN]; omega
  · split
    · simp [Ieee.Datum.isNaN]; omega
    · split
      · simp [Ieee.Datum.isNaN]; omega
      · simp [Ieee.Datum.isNaN]; omega
theorem order_self (n : Nat) : (FloatKind.f64.format.order n n != some .eq) = nanB n := by
  have : FloatKind.f64.format.order n n = (Ieee.double.read n).order (Ieee.double.read n) := rfl
  rw [this, datum_self, read_nan]

theorem frombits_run (n : Nat) (w : World) : (callFunc 157 #[.int .u64 n]).run Tryz.prog w = .ok (.value (.float .f64 n)) w := by
  rw [run_callFunc_extern Tryz.func157 (by kernel_rfl) (by kernel_rfl) (by kernel_rfl) (e := Extern.MathFloatBits.float64frombits) (by kernel_rfl)]
  rfl

set_option maxRecDepth 100000 in
theorem isNaN_any (n : Nat) (w : World) : Calls Tryz.prog 156 #[.float .f64 n] w fun e w' => e = .returned (.bool (nanB n)) ∧ w = w' := by
  have h := order_self n
  go_enter Tryz.func156, Tryz.ntmps156
  go_wp2
  go_ret
  exact ⟨rfl, rfl⟩
theorem canon_nan {n : Nat} (h : nanB n = true) : canonN n = 9221120237041090560 := by simp [canonN, h]
theorem canon_num {n : Nat} (h : nanB n = false) : canonN n = n := by simp [canonN, h]
theorem ret_u64 {a b : Nat} (h : a = b) : Ending.returned (.int .u64 b) = .returned (.int .u64 a) := by rw [h]
set_option maxRecDepth 100000 in
theorem canon_any (n : Nat) (w : World) : Calls Tryz.prog 106 #[.int .u64 n] w fun e w' => e = .returned (.int .u64 (canonN n)) ∧ w = w' := by
  have hd := frombits_run n
  cases hn : nanB n
  · have HC := Lib.hid (canon_num hn)
    go_enter Tryz.func106, Tryz.ntmps106
    go_wp2_with (go_at_call 156; refine (isNaN_any n _).mono ?_; rintro e w1 ⟨rfl, rfl⟩)
    go_ret
    exact ⟨ret_u64 HC.out, rfl⟩
  · have HC := Lib.hid (canon_nan hn)
    go_enter Tryz.func106, Tryz.ntmps106
    go_wp2_with (go_at_call 156; refine (isNaN_any n _).mono ?_; rintro e w1 ⟨rfl, rfl⟩)
    go_ret
    exact ⟨ret_u64 HC.out, rfl⟩
theorem and_11 (x : Int) (h0 : 0 ≤ x) (h1 : x < 18446744073709551616) : bits .and .u64 x 2047 = x % 2048 := bits_mask .u64 64 (by decide) wraps_u64 11 (by decide) x h0 h1
theorem and_52 (x : Int) (h0 : 0 ≤ x) (h1 : x < 18446744073709551616) : bits .and .u64 x 4503599627370495 = x % 4503599627370496 := bits_mask .u64 64 (by decide) wraps_u64 52 (by decide) x h0 h1
theorem ret_parts {m m' : Bool} {a a' b b' : Int} (h : m = m') (ha : a = a') (hb : b = b') : Ending.returned (.tuple #[.bool m, .int .u64 a, .int .u64 b]) = .returned (.tuple #[.bool m', .int .u64 a', .int .u64 b']) := by rw [h, ha, hb]
set_option maxRecDepth 100000 in
theorem parts_any (n : Nat) (hn : n < 18446744073709551616) (m : Bool) (E F : Nat) (hm : decide (9223372036854775808 ≤ n) = m) (hE : n / 4503599627370496 % 2048 = E) (hF : n % 4503599627370496 = F) (w : World) :
    Calls Tryz.prog 189 #[.int .u64 n] w fun e w' => e = .returned (.tuple #[.bool m, .int .u64 E, .int .u64 F]) ∧ w = w' := by
  have HP : Ending.returned (.tuple #[.bool (decide ((9223372036854775808 : Int) ≤ n)), .int .u64 (bits .and .u64 (n / 4503599627370496) 2047), .int .u64 (bits .and .u64 n 4503599627370495)]) = .returned (.tuple #[.bool m, .int .u64 E, .int .u64 F]) := by
    subst hm hE hF
    refine ret_parts ?_ ?_ ?_
    · rw [decide_eq_decide]; omega
    · rw [and_11 _ (by omega) (by omega)]; omega
    · rw [and_52 _ (by omega) (by omega)]; omega
  have HP := Lib.hid HP
  clear hm hE hF
  go_enter Tryz.func189, Tryz.ntmps189
  go_wp2
  go_ret3
  exact ⟨HP.out, rfl⟩
def kindN (m : Bool) (E F : Nat) : Nat := if E = 2047 ∧ F ≠ 0 then 0 else if E = 2047 ∧ m = true then 1 else if E = 2047 then 6 else if E = 0 ∧ F = 0 ∧ m = true then 3 else if E = 0 ∧ F = 0 then 4 else if m = true then 2 else 5
set_option maxRecDepth 100000 in
theorem refKind_any (n : Nat) (hn : n < 18446744073709551616) (m : Bool) (E F : Nat) (hm : decide (9223372036854775808 ≤ n) = m) (hE : n / 4503599627370496 % 2048 = E) (hF : n % 4503599627370496 = F) (w : World) :
    Calls Tryz.prog 164 #[.int .u64 n] w fun e w' => e = .returned (.int .i64 (kindN m E F)) ∧ w = w' := by
  have HP := Lib.hid (parts_any n hn m E F hm hE hF)
  clear hm hE hF hn
  have hE : E = 0 ∨ E = 2047 ∨ (E ≠ 0 ∧ E ≠ 2047) := by omega
  have hF : F = 0 ∨ F ≠ 0 := by omega
  rcases hE with rfl | rfl | ⟨e1, e2⟩ <;> rcases hF with rfl | f1 <;> cases m
  all_goals
    go_enter Tryz.func164, Tryz.ntmps164
    go_wp2_with (go_at_call 189; refine (HP.out _).mono ?_; rintro e w1 ⟨rfl, rfl⟩)
    go_ret
    exact ⟨by simp [kindN, *], rfl⟩
theorem kind_zero (n : Nat) : kindN (decide (9223372036854775808 ≤ n)) (n / 4503599627370496 % 2048) (n % 4503599627370496) = 0 ↔ nanB n = true := by
  unfold kindN nanB
  simp only [decide_eq_true_eq]
  split
  · omega
  · split
    · omega
    · split
      · omega
      · split
        · omega
        · split
          · omega
          · split <;> omega
set_option maxRecDepth 100000 in
theorem refCanon_any (n : Nat) (hn : n < 18446744073709551616) (w : World) :
    Calls Tryz.prog 120 #[.int .u64 n] w fun e w' => e = .returned (.int .u64 (canonN n)) ∧ w = w' := by
  have HP := Lib.hid (refKind_any n hn _ _ _ rfl rfl rfl)
  have hz := kind_zero n
  clear hn
  revert HP hz
  generalize kindN (decide (9223372036854775808 ≤ n)) (n / 4503599627370496 % 2048) (n % 4503599627370496) = K
  intro HP hz
  by_cases hk : K = 0
  · subst hk
    have HC := Lib.hid (canon_nan (hz.1 rfl))
    clear hz
    go_enter Tryz.func120, Tryz.ntmps120
    go_wp2_with (go_at_call 164; refine (HP.out _).mono ?_; rintro e w1 ⟨rfl, rfl⟩)
    go_ret
    exact ⟨ret_u64 HC.out, rfl⟩
  · have hb : nanB n = false := by cases h : nanB n; rfl; exact absurd (hz.2 h) hk
    have HC := Lib.hid (canon_num hb)
    have hk' : ((K : Int) == 0) = false := by simp; omega
    clear hz hb
    go_enter Tryz.func120, Tryz.ntmps120
    go_wp2_with (go_at_call 164; refine (HP.out _).mono ?_; rintro e w1 ⟨rfl, rfl⟩)
    go_ret
    exact ⟨ret_u64 HC.out, rfl⟩
end Go.Proofs.YtjgloipgnnigmaaGreatDoor
/- Layers 4 and 8's data: values, reads, writes, transactions; how they lie in memory. -/
namespace Go.Proofs.YtjgloipgnnigmaaGreatDoor
open Go.RowKit Go.Shelf

structure Val where
  kind : Int
  bits : Nat
  text : ByteArray
structure Rd where
  key : ByteArray
  ver : Nat
structure Wr where
  key : ByteArray
  val : Val
structure Tx where
  ses : Int
  seq : Int
  rds : List Rd
  wrs : List Wr
instance : Inhabited Rd := ⟨⟨noStr, 0⟩⟩
instance : Inhabited Wr := ⟨⟨noStr, ⟨0, 0, noStr⟩⟩⟩
def Val.cell (v : Val) : Value := .agg #[.int .i64 v.kind, .int .u64 v.bits, .string v.text]
def noRd : Rd := ⟨noStr, 0⟩
def noWr : Wr := ⟨noStr, ⟨0, 0, noStr⟩⟩

/-- A value's text is a string of Go's, its bits a word. -/
structure Val.Good (v : Val) : Prop where
  b : v.bits < 18446744073709551616
  t : v.text.size ≤ 9223372036854775807
  k0 : -9223372036854775808 ≤ v.kind
  k1 : v.kind ≤ 9223372036854775807

def formedV (v : Val) : Bool :=
  if v.kind = 0 then decide (v.bits = 0) && decide (v.text = noStr)
  else if v.kind = 1 then decide (v.text = noStr) && decide (canonN v.bits = v.bits)
  else decide (v.kind = 2) && decide (v.bits = 0) && decide (v.text.size ≤ 40) && Lib.validD v.text.data.toList

/-- Reads, and writes, that lie in memory. -/
def RdsAt (w : World) (A : Option Addr) (l : List Rd) : Prop :=
  ∀ i, i < l.length → ∃ b off, A = some ⟨b, off, none⟩ ∧ w.cell? ⟨b, off + i * 2, none⟩ = some (.string (l.getD i noRd).key) ∧ w.cell? ⟨b, off + i * 2 + 1, none⟩ = some (.int .u64 (l.getD i noRd).ver)
def WrsAt (w : World) (A : Option Addr) (l : List Wr) : Prop :=
  ∀ i, i < l.length → ∃ b off, A = some ⟨b, off, none⟩ ∧ w.cell? ⟨b, off + i * 4, none⟩ = some (.string (l.getD i noWr).key) ∧ w.cell? ⟨b, off + i * 4 + 1, none⟩ = some (.int .i64 (l.getD i noWr).val.kind) ∧
    w.cell? ⟨b, off + i * 4 + 2, none⟩ = some (.int .u64 (l.getD i noWr).val.bits) ∧ w.cell? ⟨b, off + i * 4 + 3, none⟩ = some (.string (l.getD i noWr).val.text)
theorem RdsAt.later {w w' : World} {A : Option Addr} {l : List Rd} (h : RdsAt w A l) (hb : Below w.heap.size w w') : RdsAt w' A l := by
  intro i hi
  obtain ⟨b, off, e, h0, h1⟩ := h i hi
  exact ⟨b, off, e, keep hb h0, keep hb h1⟩
theorem WrsAt.later {w w' : World} {A : Option Addr} {l : List Wr} (h : WrsAt w A l) (hb : Below w.heap.size w w') : WrsAt w' A l := by
  intro i hi
  obtain ⟨b, off, e, h0, h1, h2, h3⟩ := h i hi
  exact ⟨b, off, e, keep hb h0, keep hb h1, keep hb h2, keep hb h3⟩
theorem RdsAt.at' {w : World} {A : Option Addr} {l : List Rd} (h : RdsAt w A l) {k : Nat} (hk : k < l.length) :
    ∃ b off s n, A = some ⟨b, off, none⟩ ∧ w.cell? ⟨b, off + k * 2, none⟩ = some (.string s) ∧ w.cell? ⟨b, off + k * 2 + 1, none⟩ = some (.int .u64 (n : Nat)) ∧ Hid (l.getD k noRd = ⟨s, n⟩) := by
  obtain ⟨b, off, e, h0, h1⟩ := h k hk
  exact ⟨b, off, _, _, e, h0, h1, rfl⟩
theorem WrsAt.at' {w : World} {A : Option Addr} {l : List Wr} (h : WrsAt w A l) {k : Nat} (hk : k < l.length) :
    ∃ b off s z n t, A = some ⟨b, off, none⟩ ∧ w.cell? ⟨b, off + k * 4, none⟩ = some (.string s) ∧ w.cell? ⟨b, off + k * 4 + 1, none⟩ = some (.int .i64 z) ∧
      w.cell? ⟨b, off + k * 4 + 2, none⟩ = some (.int .u64 (n : Nat)) ∧ w.cell? ⟨b, off + k * 4 + 3, none⟩ = some (.string t) ∧ Hid (l.getD k noWr = ⟨s, ⟨z, n, t⟩⟩) := by
  obtain ⟨b, off, e, h0, h1, h2, h3⟩ := h k hk
  exact ⟨b, off, _, _, _, _, e, h0, h1, h2, h3, rfl⟩

structure TxAt (w : World) (t : Tx) (A B : Option Addr) : Prop where
  rds : RdsAt w A t.rds
  wrs : WrsAt w B t.wrs
  rk : ∀ k, k < t.rds.length → (t.rds.getD k noRd).key.size ≤ 9223372036854775807
  wk : ∀ k, k < t.wrs.length → (t.wrs.getD k noWr).key.size ≤ 9223372036854775807
  wv : ∀ k, k < t.wrs.length → (t.wrs.getD k noWr).val.Good
  rn : t.rds.length ≤ 9223372036854775807
  wn : t.wrs.length ≤ 9223372036854775807
theorem TxAt.later {w w' : World} {t : Tx} {A B : Option Addr} (h : TxAt w t A B) (hb : Below w.heap.size w w') : TxAt w' t A B :=
  ⟨h.rds.later hb, h.wrs.later hb, h.rk, h.wk, h.wv, h.rn, h.wn⟩

/-- A transaction's value: its id's two numbers, its two slices. -/
def txV (t : Tx) (A B : Option Addr) (ca cb : Nat) : Value := .agg #[.int .i64 t.ses, .int .i64 t.seq, .slice A t.rds.length ca, .slice B t.wrs.length cb]

theorem box3 (w : World) (u v x : Value) (t : TypeId) : ∃ W : World, w.alloc (.cells #[u, v, x] t) = W ∧ Below w.heap.size w W ∧ W.cell? ⟨w.heap.size, 0, none⟩ = some u ∧ W.cell? ⟨w.heap.size, 1, none⟩ = some v ∧ W.cell? ⟨w.heap.size, 2, none⟩ = some x :=
  ⟨_, rfl, below1 _ _, by simp, by simp, by simp⟩
theorem box4 (w : World) (u v x y : Value) (t : TypeId) : ∃ W : World, w.alloc (.cells #[u, v, x, y] t) = W ∧ Below w.heap.size w W ∧ W.cell? ⟨w.heap.size, 0, none⟩ = some u ∧ W.cell? ⟨w.heap.size, 1, none⟩ = some v ∧ W.cell? ⟨w.heap.size, 2, none⟩ = some x ∧ W.cell? ⟨w.heap.size, 3, none⟩ = some y :=
  ⟨_, rfl, below1 _ _, by simp, by simp, by simp, by simp⟩
end Go.Proofs.YtjgloipgnnigmaaGreatDoor
/- Layer 10's message as data, layer 21's Op, and how they lie in memory. -/
namespace Go.Proofs.YtjgloipgnnigmaaGreatDoor
open Go.RowKit Go.Shelf

/-- A message: all its fields, with the addresses of the rows in it. -/
structure MsgV where
  kind : Int
  br : Nat
  bn : Int
  slot : Int
  has : Bool
  vr : Nat
  vn : Int
  ck : Int
  ct : Tx
  cA : Option Addr
  cB : Option Addr
  cca : Nat
  ccb : Nat
  cis : Int
  ciq : Int
  cg : Int
  cst : Nat
  cy : Bool
  t : Tx
  A : Option Addr
  B : Option Addr
  ca : Nat
  cb : Nat
  ids : Int
  idq : Int
  g : Int
  st : Nat
  y : Bool
  num : Int
  key : ByteArray
  ver : Nat
  val : Val
  err : Int
  D : Option Addr
  data : List UInt8
  cd : Nat
def MsgV.vs (m : MsgV) : Array Value := #[.int .i64 m.kind, .int .u32 (m.br : Int), .int .i64 m.bn, .int .i64 m.slot, .bool m.has, .int .u32 (m.vr : Int), .int .i64 m.vn, .int .i64 m.ck, .int .i64 m.ct.ses, .int .i64 m.ct.seq, .slice m.cA m.ct.rds.length m.cca, .slice m.cB m.ct.wrs.length m.ccb, .int .i64 m.cis, .int .i64 m.ciq, .int .i64 m.cg, .int .u64 (m.cst : Int), .bool m.cy, .int .i64 m.t.ses, .int .i64 m.t.seq, .slice m.A m.t.rds.length m.ca, .slice m.B m.t.wrs.length m.cb, .int .i64 m.ids, .int .i64 m.idq, .int .i64 m.g, .int .u64 (m.st : Int), .bool m.y, .int .i64 m.num, .string m.key, .int .u64 (m.ver : Int), .int .i64 m.val.kind, .int .u64 (m.val.bits : Int), .string m.val.text, .int .i64 m.err, .slice m.D m.data.length m.cd]
def MsgV.v (m : MsgV) : Value := .agg m.vs
/-- A message's rows lie in memory. -/
structure MsgAt (w : World) (m : MsgV) : Prop where
  c : TxAt w m.ct m.cA m.cB
  t : TxAt w m.t m.A m.B
  d : CellsAt w m.D m.data.length fun i => .int .u8 ((m.data.getD i 0).toNat : Int)
  k : m.key.size ≤ 9223372036854775807
  v : m.val.Good
  n : m.data.length ≤ 9223372036854775807
theorem MsgAt.later {w w' : World} {m : MsgV} (h : MsgAt w m) (hb : Below w.heap.size w w') : MsgAt w' m :=
  ⟨h.c.later hb, h.t.later hb, CellsAt.later h.d hb, h.k, h.v, h.n⟩
/-- An Op of layer 21's statements. -/
structure OpX where
  kind : Int
  key : ByteArray
  val : Val
  K : Option Addr
  keys : List ByteArray
  ck : Nat
  m : MsgV
  num : Int
def OpX.vs (o : OpX) : Array Value := #[.int .i64 o.kind, .string o.key, .int .i64 o.val.kind, .int .u64 (o.val.bits : Int), .string o.val.text, .slice o.K o.keys.length o.ck, .int .i64 o.m.kind, .int .u32 (o.m.br : Int), .int .i64 o.m.bn, .int .i64 o.m.slot, .bool o.m.has, .int .u32 (o.m.vr : Int), .int .i64 o.m.vn, .int .i64 o.m.ck, .int .i64 o.m.ct.ses, .int .i64 o.m.ct.seq, .slice o.m.cA o.m.ct.rds.length o.m.cca, .slice o.m.cB o.m.ct.wrs.length o.m.ccb, .int .i64 o.m.cis, .int .i64 o.m.ciq, .int .i64 o.m.cg, .int .u64 (o.m.cst : Int), .bool o.m.cy, .int .i64 o.m.t.ses, .int .i64 o.m.t.seq, .slice o.m.A o.m.t.rds.length o.m.ca, .slice o.m.B o.m.t.wrs.length o.m.cb, .int .i64 o.m.ids, .int .i64 o.m.idq, .int .i64 o.m.g, .int .u64 (o.m.st : Int), .bool o.m.y, .int .i64 o.m.num, .string o.m.key, .int .u64 (o.m.ver : Int), .int .i64 o.m.val.kind, .int .u64 (o.m.val.bits : Int), .string o.m.val.text, .int .i64 o.m.err, .slice o.m.D o.m.data.length o.m.cd, .int .i64 o.num]
def OpX.v (o : OpX) : Value := .agg o.vs
structure OpAt (w : World) (o : OpX) : Prop where
  k : o.key.size ≤ 9223372036854775807
  v : o.val.Good
  ks : StrsAt w o.K o.keys
  kz : ∀ i, i < o.keys.length → (o.keys.getD i noStr).size ≤ 9223372036854775807
  kn : o.keys.length ≤ 9223372036854775807
  kc : o.keys.length ≤ o.ck
  m : MsgAt w o.m
theorem OpAt.later {w w' : World} {o : OpX} (h : OpAt w o) (hb : Below w.heap.size w w') : OpAt w' o :=
  ⟨h.k, h.v, CellsAt.later h.ks hb, h.kz, h.kn, h.kc, h.m.later hb⟩
def noMsg : MsgV := ⟨0, 0, 0, 0, false, 0, 0, 0, ⟨0, 0, [], []⟩, none, none, 0, 0, 0, 0, 0, 0, false, ⟨0, 0, [], []⟩, none, none, 0, 0, 0, 0, 0, 0, false, 0, noStr, 0, ⟨0, 0, noStr⟩, 0, none, [], 0⟩
instance : Inhabited MsgV := ⟨noMsg⟩
def noOpX : OpX := ⟨0, noStr, ⟨0, 0, noStr⟩, none, [], 0, noMsg, 0⟩
instance : Inhabited OpX := ⟨noOpX⟩
/-- A row of cells. -/
def CellRow (w : World) (a : Addr) (vs : Array Value) : Prop := ∀ j v, vs[j]? = some v → w.cell? (a.add j) = some v
theorem CellRow.later {w w' : World} {a : Addr} {vs : Array Value} (h : CellRow w a vs) (hb : Below w.heap.size w w') : CellRow w' a vs := fun j v hv => keep hb (h j v hv)
/-- A script in memory. -/
def OpsAt (w : World) (S : Option Addr) (l : List OpX) : Prop :=
  ∀ i, i < l.length → ∃ b off, S = some ⟨b, off, none⟩ ∧ CellRow w ⟨b, off + i * 41, none⟩ (l.getD i noOpX).vs ∧ OpAt w (l.getD i noOpX)
theorem OpsAt.later {w w' : World} {S : Option Addr} {l : List OpX} (h : OpsAt w S l) (hb : Below w.heap.size w w') : OpsAt w' S l := fun i hi => by
  obtain ⟨b, off, e, h0, h1⟩ := h i hi
  exact ⟨b, off, e, h0.later hb, h1.later hb⟩
end Go.Proofs.YtjgloipgnnigmaaGreatDoor
/- Layer 4's Formed, the program's and the reference's. -/
namespace Go.Proofs.YtjgloipgnnigmaaGreatDoor
open Go.RowKit Go.Shelf

def Tabs (w : World) : Prop := Lib.Utf8Tabs 0 1 w
theorem Tabs.later {w w' : World} (h : Tabs w) (hb : Below w.heap.size w w') : Tabs w' := Utf8Tabs_below h hb

theorem str_cases (s : ByteArray) : s = { data := #[] } ∨ (s.toList.isEmpty = false ∧ (¬ s.toList = []) ∧ decide (s = noStr) = false) := by
  by_cases h : s = { data := #[] }
  · exact .inl h
  · have h0 : ¬ s.toList = [] := fun e => h ((toList_nil_iff_emptyBytes s).1 e)
    exact .inr ⟨by simpa using h0, h0, by simpa using (show ¬ s = noStr from h)⟩
theorem dec_no : decide (({ data := #[] } : ByteArray) = noStr) = true := decide_eq_true rfl
theorem fv0 (n : Nat) (s : ByteArray) : formedV ⟨0, n, s⟩ = (decide (n = 0) && decide (s = noStr)) := rfl
theorem fv1 (n : Nat) (s : ByteArray) : formedV ⟨1, n, s⟩ = (decide (s = noStr) && decide (canonN n = n)) := rfl
theorem fv2 (n : Nat) (s : ByteArray) : formedV ⟨2, n, s⟩ = (decide (n = 0) && decide (s.size ≤ 40) && Lib.validD s.data.toList) := by simp [formedV]
theorem fv3 {k : Int} (n : Nat) (s : ByteArray) (h0 : k ≠ 0) (h1 : k ≠ 1) (h2 : k ≠ 2) : formedV ⟨k, n, s⟩ = false := by simp [formedV, h0, h1, h2]
theorem kind_cases (k : Int) : k = 0 ∨ k = 1 ∨ k = 2 ∨ ((k == 0) = false ∧ (k == 1) = false ∧ (k == 2) = false) := by
  by_cases h0 : k = 0; exact .inl h0
  by_cases h1 : k = 1; exact .inr (.inl h1)
  by_cases h2 : k = 2; exact .inr (.inr (.inl h2))
  exact .inr (.inr (.inr ⟨by simpa using h0, by simpa using h1, by simpa using h2⟩))

set_option maxRecDepth 100000 in
theorem formedV_any (k : Int) (n : Nat) (s : ByteArray) (hs : s.size ≤ 9223372036854775807) (w : World) (hT : Tabs w) :
    Calls Tryz.prog 52 #[.agg #[.int .i64 k, .int .u64 n, .string s]] w fun e w' => e = .returned (.bool (formedV ⟨k, n, s⟩)) ∧ Below w.heap.size w w' := by
  obtain ⟨W, eW, HB, c0, c1, c2⟩ := box3 w (.int .i64 k) (.int .u64 n) (.string s) 28
  have hT := hT.later HB
  have hn : n = 0 ∨ (¬ n = 0) := by omega
  rcases kind_cases k with rfl | rfl | rfl | ⟨k0, k1, k2⟩
  · rcases hn with rfl | n1 <;> rcases str_cases s with rfl | ⟨s1, s2, s3⟩
    all_goals
      try rw [show ((0 : Nat) : Int) = 0 from rfl] at eW
      go_enter Tryz.func52, Tryz.ntmps52
      go_wp2
      go_ret
      exact ⟨ret_bool (by rw [fv0]; simp [dec_no, *]), by first | exact HB | exact below_drew HB⟩
  · have hc : ((canonN n : Int) == (n : Int)) = decide (canonN n = n) := by
      by_cases h : canonN n = n
      · simp [h]
      · simp [h]; omega
    rcases str_cases s with rfl | ⟨s1, s2, s3⟩
    all_goals
      have hc' := Lib.hid hc
      clear hc
      go_enter Tryz.func52, Tryz.ntmps52
      go_wp2_with fail
      go_quiet ((go_at_call 106; exact quiet_left (canon_any n _)))
      go_wp2
      go_ret
      exact ⟨ret_bool (by rw [fv1]; rw [← hc'.out]; simp [dec_no, *]), below_drewN HB _⟩
  · by_cases hs4 : s.size ≤ 40
    · rcases hn with rfl | n1
      all_goals
        try rw [show ((0 : Nat) : Int) = 0 from rfl] at eW
        go_enter Tryz.func52, Tryz.ntmps52
        go_wp2_with (go_at_call 107; refine (Tryz.utf8_ValidString s _ hs hT).mono ?_; rintro e w1 ⟨rfl, hb⟩; replace HB := keepB HB hb)
        go_ret
        exact ⟨ret_bool (by rw [fv2]; simp [*]), by first | exact HB | exact below_drew HB⟩
    · rcases hn with rfl | n1
      all_goals
        try rw [show ((0 : Nat) : Int) = 0 from rfl] at eW
        go_enter Tryz.func52, Tryz.ntmps52
        go_wp2
        go_ret
        exact ⟨ret_bool (by rw [fv2]; simp [*]), by first | exact HB | exact below_drew HB⟩
  · go_enter Tryz.func52, Tryz.ntmps52
    go_wp2
    go_ret
    exact ⟨ret_bool (by rw [fv3 _ _ (by simpa using k0) (by simpa using k1) (by simpa using k2)]), HB⟩

/-- U+FFFD of one byte is an error; of three it is written so. -/
theorem fffd (n b0 b1 b2 b3 : Nat) (h : (Lib.decodeN n b0 b1 b2 b3).1 = 65533) :
    (Lib.decodeN n b0 b1 b2 b3).2 = if 3 ≤ n ∧ b0 = 239 ∧ b1 = 191 ∧ b2 = 189 then 3 else 1 := by
  unfold Lib.decodeN at h ⊢
  split at h
  · omega
  · rename_i q0
    rw [if_neg q0]
    split at h
    · rename_i q1
      rw [if_pos q1]
      split at h
      · omega
      · rename_i q2
        rw [if_neg q2, if_neg (by omega)]
    · rename_i q1
      rw [if_neg q1]
      split at h
      · rename_i q2
        rw [if_pos q2]
        split at h
        · rename_i q3
          rw [if_pos q3, if_pos (by simp only at h; omega)]
        · rename_i q3
          rw [if_neg q3, if_neg (by omega)]
      · rename_i q2
        rw [if_neg q2]
        split at h
        · rename_i q3
          rw [if_pos q3]
          split at h
          · rename_i q4
            simp only at h
            omega
          · rename_i q4
            rw [if_neg q4, if_neg (by omega)]
        · rename_i q3
          rw [if_neg q3, if_neg (by omega)]
theorem get_at (s : ByteArray) (i : Nat) (h : i < s.size) : s.get! i = s[i]'h := by
  cases s with
  | mk d => exact getElem!_pos d i h
def validAt (s : ByteArray) (pos : Nat) : Bool := Lib.validD (s.data.toList.drop pos)
theorem validAt_end {s : ByteArray} {pos : Nat} (h : ¬ pos < s.size) : validAt s pos = true := by
  have h' : s.data.size ≤ pos := by have : s.data.size = s.size := rfl; omega
  have : s.data.toList.drop pos = [] := List.drop_eq_nil_of_le (by simpa using h')
  unfold validAt
  rw [this]
  exact Lib.validD_nil
theorem validAt_step {s : ByteArray} {pos : Nat} (h : pos < s.size) : validAt s pos = if (Utf8.decode s pos).1 = 65533 ∧ (Utf8.decode s pos).2 = 1 then false else validAt s (pos + (Utf8.decode s pos).2) := by
  have hne : s.data.toList.drop pos ≠ [] := by
    intro h0
    have := congrArg List.length h0
    have hz : s.data.size = s.size := rfl
    simp at this
    omega
  unfold validAt
  rw [Lib.validD_step _ hne, Lib.decodeL_drop, List.drop_drop]
theorem validAt_rune {s : ByteArray} {pos r wd : Nat} (h : pos < s.size) (hd : Utf8.decode s pos = (r, wd)) (hr : r ≠ 65533) : validAt s pos = validAt s (pos + wd) := by
  rw [validAt_step h, hd, if_neg (by simp; omega)]
theorem validAt_short {s : ByteArray} {pos wd : Nat} (h : pos < s.size) (hd : Utf8.decode s pos = (65533, wd)) (hr : s.size - pos < 3) : validAt s pos = false := by
  have hw := fffd (s.size - pos) _ _ _ _ (by rw [← Lib.decode_at, hd])
  rw [← Lib.decode_at, hd, if_neg (by omega)] at hw
  rw [validAt_step h, hd, if_pos ⟨rfl, hw⟩]
theorem validAt_bytes {s : ByteArray} {pos wd : Nat} (h : pos < s.size) (h1 : pos + 1 < s.size) (h2 : pos + 2 < s.size) (hd : Utf8.decode s pos = (65533, wd)) :
    validAt s pos = if (s[pos]'h).toNat = 239 ∧ (s[pos + 1]'h1).toNat = 191 ∧ (s[pos + 2]'h2).toNat = 189 then validAt s (pos + wd) else false := by
  have hw := fffd (s.size - pos) _ _ _ _ (by rw [← Lib.decode_at, hd])
  rw [← Lib.decode_at, hd, get_at _ _ h, get_at _ _ h1, get_at _ _ h2] at hw
  simp only at hw
  rw [validAt_step h, hd]
  by_cases hc : (s[pos]'h).toNat = 239 ∧ (s[pos + 1]'h1).toNat = 191 ∧ (s[pos + 2]'h2).toNat = 189
  · rw [if_pos ⟨by omega, hc⟩] at hw
    rw [if_pos hc, if_neg (by simp; omega)]
  · rw [if_neg (fun x => hc x.2)] at hw
    rw [if_neg hc, if_pos ⟨rfl, hw⟩]

set_option maxRecDepth 100000 in
theorem valid_any (s : ByteArray) (hs : s.size ≤ 9223372036854775807) (w : World) : Calls Tryz.prog 121 #[.string s] w fun e w' => e = .returned (.bool (Lib.validD s.data.toList)) ∧ Below w.heap.size w w' := by
  have HV : Hid (Lib.validD s.data.toList = validAt s 0) := rfl
  go_enter Tryz.func121, Tryz.ntmps121
  go_wp2_with fail
  go_loopw [] (fun wr => ∃ pos : Nat, Hid (validAt s pos = validAt s 0) ∧ wr = w.iter s pos) (fun wr => s.size - wr.iterPos w.heap.size)
  case atStart => exact ⟨0, rfl, rfl⟩
  case round =>
    obtain ⟨pos, hpos, rfl⟩ := hrel
    by_cases hp : pos < s.size
    · have hwd := Lib.width_pos s pos
      have hnx : ∀ ty, (Instr.next (.pointer (some ⟨w.heap.size, 0, none⟩)) true ty).run Tryz.prog (w.iter s pos) = _ := fun ty => run_next_any w s pos ty hp
      obtain ⟨⟨r, wd⟩, hd⟩ : ∃ x, Utf8.decode s pos = x := ⟨_, rfl⟩
      simp only [hd] at hnx hwd
      by_cases hr : r = 65533
      · subst hr
        by_cases h3 : s.size - pos < 3
        · have HQ := Lib.hid (validAt_short hp hd h3)
          have h3' : (s.size : Int) - pos < 3 := by omega
          clear hd
          go_wp2
          go_ret
          exact ⟨ret_bool (by rw [HV.out, ← hpos.out, HQ.out]), below1 _ _⟩
        · have h1 : pos + 1 < s.size := by omega
          have h2 : pos + 2 < s.size := by omega
          have HQ := Lib.hid (validAt_bytes hp h1 h2 hd)
          have h3' : ¬ ((s.size : Int) - pos < 3) := by omega
          clear hd h3
          by_cases e0 : (s[pos]'hp).toNat = 239
          · have q0 : (((s[pos]'hp).toNat : Int) != 239) = false := by rw [e0]; rfl
            by_cases e1 : (s[pos + 1]'h1).toNat = 191
            · have q1 : (((s[pos + 1]'h1).toNat : Int) != 191) = false := by rw [e1]; rfl
              by_cases e2 : (s[pos + 2]'h2).toNat = 189
              · have q2 : (((s[pos + 2]'h2).toNat : Int) != 189) = false := by rw [e2]; rfl
                have HF : Hid (validAt s pos = validAt s (pos + wd)) := by show _ = _; rw [HQ.out, if_pos ⟨e0, e1, e2⟩]
                clear e0 e1 e2 HQ
                go_wp2
                go_roundw
                case rel => exact ⟨pos + wd, by show _ = _; rw [← HF.out, hpos.out], rfl⟩
                case measure => simp; omega
              · have q2 : (((s[pos + 2]'h2).toNat : Int) != 189) = true := by simp; omega
                have HF : Hid (validAt s pos = false) := by show _ = _; rw [HQ.out, if_neg (by omega)]
                clear e0 e1 e2 HQ
                go_wp2
                go_ret
                exact ⟨ret_bool (by rw [HV.out, ← hpos.out, HF.out]), below1 _ _⟩
            · have q1 : (((s[pos + 1]'h1).toNat : Int) != 191) = true := by simp; omega
              have HF : Hid (validAt s pos = false) := by show _ = _; rw [HQ.out, if_neg (by omega)]
              clear e0 e1 HQ
              go_wp2
              go_ret
              exact ⟨ret_bool (by rw [HV.out, ← hpos.out, HF.out]), below1 _ _⟩
          · have q0 : (((s[pos]'hp).toNat : Int) != 239) = true := by simp; omega
            have HF : Hid (validAt s pos = false) := by show _ = _; rw [HQ.out, if_neg (by omega)]
            clear e0 HQ
            go_wp2
            go_ret
            exact ⟨ret_bool (by rw [HV.out, ← hpos.out, HF.out]), below1 _ _⟩
      · have HQ := Lib.hid (validAt_rune hp hd hr)
        have hr' : ((r : Int) == 65533) = false := by simp; omega
        clear hd hr
        go_wp2
        go_roundw
        case rel => exact ⟨pos + wd, by show _ = _; rw [← HQ.out, hpos.out], rfl⟩
        case measure => simp; omega
    · have hnx : ∀ ty, (Instr.next (.pointer (some ⟨w.heap.size, 0, none⟩)) true ty).run Tryz.prog (w.iter s pos) = _ := fun ty => run_next_end w s pos ty hp
      have HE := Lib.hid (validAt_end hp)
      go_wp2
      go_ret
      exact ⟨ret_bool (by rw [HV.out, ← hpos.out, HE.out]), below1 _ _⟩

set_option maxRecDepth 100000 in
theorem refFormedV_any (k : Int) (n : Nat) (s : ByteArray) (hn : n < 18446744073709551616) (hs : s.size ≤ 9223372036854775807) (w : World) :
    Calls Tryz.prog 72 #[.agg #[.int .i64 k, .int .u64 n, .string s]] w fun e w' => e = .returned (.bool (formedV ⟨k, n, s⟩)) ∧ Below w.heap.size w w' := by
  obtain ⟨W, eW, HB, c0, c1, c2⟩ := box3 w (.int .i64 k) (.int .u64 n) (.string s) 28
  rcases kind_cases k with rfl | rfl | rfl | ⟨k0, k1, k2⟩
  · have hn : n = 0 ∨ (¬ n = 0) := by omega
    rcases hn with rfl | n1 <;> rcases str_cases s with rfl | ⟨s1, s2, s3⟩
    all_goals
      try rw [show ((0 : Nat) : Int) = 0 from rfl] at eW
      go_enter Tryz.func72, Tryz.ntmps72
      go_wp2
      go_ret
      exact ⟨ret_bool (by rw [fv0]; simp [dec_no, *]), by first | exact HB | exact below_drew HB⟩
  · have hc : ((canonN n : Int) == (n : Int)) = decide (canonN n = n) := by
      by_cases h : canonN n = n
      · simp [h]
      · simp [h]; omega
    rcases str_cases s with rfl | ⟨s1, s2, s3⟩
    all_goals
      have hc' := Lib.hid hc
      clear hc
      go_enter Tryz.func72, Tryz.ntmps72
      go_wp2_with fail
      go_quiet ((go_at_call 120; exact quiet_left (refCanon_any n hn _)))
      go_wp2
      go_ret
      exact ⟨ret_bool (by rw [fv1]; rw [← hc'.out]; simp [dec_no, *]), below_drewN HB _⟩
  · have hn : n = 0 ∨ (¬ n = 0) := by omega
    by_cases hs4 : s.size ≤ 40
    · rcases hn with rfl | n1
      all_goals
        try rw [show ((0 : Nat) : Int) = 0 from rfl] at eW
        go_enter Tryz.func72, Tryz.ntmps72
        go_wp2_with (go_at_call 121; refine (valid_any s hs _).mono ?_; rintro e w1 ⟨rfl, hb⟩; replace HB := keepB HB hb)
        go_ret
        exact ⟨ret_bool (by rw [fv2]; simp [*]), by first | exact HB | exact below_drew HB⟩
    · rcases hn with rfl | n1
      all_goals
        try rw [show ((0 : Nat) : Int) = 0 from rfl] at eW
        go_enter Tryz.func72, Tryz.ntmps72
        go_wp2
        go_ret
        exact ⟨ret_bool (by rw [fv2]; simp [*]), by first | exact HB | exact below_drew HB⟩
  · go_enter Tryz.func72, Tryz.ntmps72
    go_wp2
    go_ret
    exact ⟨ret_bool (by rw [fv3 _ _ (by simpa using k0) (by simpa using k1) (by simpa using k2)]), HB⟩
end Go.Proofs.YtjgloipgnnigmaaGreatDoor
/- Rising keys, in plain Lean. -/
namespace Go.Proofs.YtjgloipgnnigmaaGreatDoor

theorem risesTo_at {l : List ByteArray} : ∀ {n k : Nat}, risesTo l n = true → k < n → riseAt l k = true
  | 0, _, _, h => by omega
  | n + 1, k, h, hk => by
    simp only [risesTo, Bool.and_eq_true] at h
    by_cases e : k = n
    · subst e; exact h.2
    · exact risesTo_at h.1 (by omega)
theorem rises_lt {l : List ByteArray} {n : Nat} (h : risesTo l n = true) : ∀ (d i : Nat), i + d + 1 < n → lessS (l.getD i noStr) (l.getD (i + d + 1) noStr) = true
  | 0, i, hi => by
    have := risesTo_at h (k := i + 1) hi
    simp only [riseAt, Bool.and_eq_true, Bool.or_eq_true, beq_iff_eq] at this
    rcases this.2 with e | e
    · omega
    · simpa using e
  | d + 1, i, hi => by
    have h1 := rises_lt h d i (by omega)
    have h2 := rises_lt h 0 (i + d + 1) (by omega)
    exact lessS_trans h1 h2
theorem rises_mono {l : List ByteArray} {n i j : Nat} (h : risesTo l n = true) (hij : i < j) (hj : j < n) : lessS (l.getD i noStr) (l.getD j noStr) = true := by
  have := rises_lt h (j - i - 1) i (by omega)
  rw [show i + (j - i - 1) + 1 = j from by omega] at this
  exact this
theorem rises_key {l : List ByteArray} {n i : Nat} (h : risesTo l n = true) (hi : i < n) : keyB (l.getD i noStr) = true := by
  have := risesTo_at h hi
  simp only [riseAt, Bool.and_eq_true] at this
  exact this.1
end Go.Proofs.YtjgloipgnnigmaaGreatDoor
/- A configuration that came in, opened: how it lies in memory. -/
namespace Go.Proofs.YtjgloipgnnigmaaGreatDoor
open Go.ChangeShapes Go.WideShapes Go.ChangeAt Go.RowKit Go.Joins

theorem le_max {n : Nat} (h : n ≤ maxLen) : n ≤ 9223372036854775807 := by unfold maxLen at h; omega
theorem cells_cfg : Tryz.prog.cellsOf 25 = 2 := by kernel_rfl
theorem cells_int : Tryz.prog.cellsOf 3 = 1 := by kernel_rfl
theorem cells_str : Tryz.prog.cellsOf 9 = 1 := by kernel_rfl

theorem getD_take {α : Type} (l : List α) (n i : Nat) (d : α) (h : i < n) : (l.take n).getD i d = l.getD i d := by
  simp [List.getD_eq_getElem?_getD, h]

theorem open_ints_at {H : Type} {enc : TypeId × Value → H} {w : World} {base fuel : Nat} {sp : Nat → Bool} {held : Bool} {v : Value} {x : DataW H × List MemPlace}
    (h : DataW.trod enc Tryz.prog w base sp held fuel 22 [v] = some x) : ∃ (A : Option Addr) (l : List Int) (cap : Nat), v = .slice A l.length cap ∧ IntsAt w A l ∧ l.length ≤ cap ∧ cap ≤ maxLen := by
  rcases open_ints Tryz.underlying22 Tryz.underlying3 cells_int h with ⟨hcs, _⟩ | ⟨a, len, cap, zs, hcs, _, hl, hm, hz, _, hc, _⟩
  · simp at hcs
    exact ⟨none, [], 0, by simp [hcs], fun i hi => by simp at hi, by simp, by simp [maxLen]⟩
  · have hlen : len ≤ zs.length := by rw [hz]; split <;> omega
    have el : (zs.take len).length = len := by simp; omega
    refine ⟨some a, zs.take len, cap, by simp at hcs; rw [hcs, el], fun i hi => ?_, by omega, hm⟩
    obtain ⟨b, off, rfl, hc'⟩ := ints_at hc (by rw [el] at hi; omega)
    rw [el] at hi
    exact ⟨b, off, rfl, by rw [hc' i (by omega)]; show _ = some (Value.int .i64 ((zs.take len).getD i 0)); rw [getD_take _ _ _ _ hi]⟩

theorem open_strs_at {H : Type} {enc : TypeId × Value → H} {w : World} {base fuel : Nat} {sp : Nat → Bool} {held : Bool} {v : Value} {x : DataW H × List MemPlace}
    (h : DataW.trod enc Tryz.prog w base sp held fuel 23 [v] = some x) : ∃ (A : Option Addr) (l : List ByteArray) (cap : Nat), v = .slice A l.length cap ∧ StrsAt w A l ∧ l.length ≤ cap ∧ cap ≤ maxLen ∧ ∀ k, k < l.length → (l.getD k noStr).size ≤ maxLen := by
  rcases open_strings Tryz.underlying23 Tryz.underlying9 cells_str h with ⟨hcs, _⟩ | ⟨a, len, cap, ss, hcs, _, hl, hm, hz, _, hc, hw⟩
  · simp at hcs
    exact ⟨none, [], 0, by simp [hcs], fun i hi => by simp at hi, by simp, by simp [maxLen], fun k hk => by simp at hk⟩
  · have hlen : len ≤ ss.length := by rw [hz]; split <;> omega
    have el : (ss.take len).length = len := by simp; omega
    refine ⟨some a, ss.take len, cap, by simp at hcs; rw [hcs, el], fun i hi => ?_, by omega, hm, fun k hk => ?_⟩
    · rw [el] at hi
      have hc0 := hc 0 (by omega)
      obtain ⟨b, off, spot⟩ := a
      have hspot : spot = none := by simpa [Addr.add] using World.cell?_spot hc0
      subst hspot
      refine ⟨b, off, rfl, ?_⟩
      have := hc i (by omega)
      rw [Go.WideShapes.add_plain] at this
      rw [this]
      show _ = some (Value.string ((ss.take len).getD i noStr))
      rw [getD_take _ _ _ _ hi]
      rfl
    · rw [el] at hk
      rw [getD_take _ _ _ _ hk]
      apply hw
      rw [List.getD_eq_getElem?_getD, List.getElem?_eq_getElem (by omega)]
      exact List.getElem_mem _

set_option maxRecDepth 100000 in
theorem open_cfg {H : Type} {enc : TypeId × Value → H} {w : World} {b0 base : Nat} {sp : Nat → Bool} {held : Bool} {v : Value} {d : DataW H} {p : List MemPlace}
    (hv : Value.okWide Tryz.prog w .any b0 25 v) (h : DataW.Trod enc Tryz.prog w base sp held 25 v d p) :
    ∃ (c : Cfg) (A B : Option Addr) (ca cb : Nat), v = .agg #[.slice A c.reps.length ca, .slice B c.bnds.length cb] ∧ CfgAt w c A B ∧ c.reps.length ≤ ca ∧ c.bnds.length ≤ cb := by
  obtain ⟨v0, v1, y0, y1, n, rfl, _, _, h0, h1⟩ := open_agg2 Tryz.underlying25 (by kernel_rfl) cells_cfg hv h
  obtain ⟨A, l, ca, rfl, hA, hla, hma⟩ := open_ints_at h0
  obtain ⟨B, m, cb, rfl, hB, hlb, hmb, hs⟩ := open_strs_at h1
  have q0 : ∀ k, k < m.length → (m.getD k noStr).size ≤ 9223372036854775807 := fun k hk => le_max (hs k hk)
  have q1 : l.length ≤ 9223372036854775807 := le_max (by omega)
  have q2 : m.length ≤ 9223372036854775807 := le_max (by omega)
  exact ⟨⟨l, m⟩, A, B, ca, cb, rfl, ⟨hA, hB, q0, q1, q2⟩, hla, hlb⟩
end Go.Proofs.YtjgloipgnnigmaaGreatDoor
