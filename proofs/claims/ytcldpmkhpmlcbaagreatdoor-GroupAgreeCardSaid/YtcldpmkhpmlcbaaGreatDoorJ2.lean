/- Frames by sets of blocks: a call writes in the blocks O alone, and makes new ones. -/
import Derived.Test.YtcldpmkhpmlcbaaGreatDoorJ1
import Derived.Maps.Own
import Derived.Maps.RangeWalk
import Derived.Maps.OwnSet
import Derived.Maps.Ext
import Derived.DeepKeys4
import Derived.Laws.CopyOwn
import Derived.Lib.AppendZerosOnto
import Derived.Lib.AppendZeros
import Derived.Lib.Overlaps
set_option linter.unusedVariables false
set_option linter.unusedSimpArgs false
namespace Go.Proofs.YtcldpmkhpmlcbaaGreatDoor
open Go.RowKit

/-- But for the blocks O all that was there is as it was. -/
structure Out (O : Nat → Prop) (w w' : World) : Prop where
  os : w'.os = w.os
  tape : w'.tape = w.tape
  output : w'.output = w.output
  size : w.heap.size ≤ w'.heap.size
  block : ∀ k, k < w.heap.size → ¬ O k → w'.heap[k]? = w.heap[k]?
/-- O and the blocks made between w and w'. -/
def ext (O : Nat → Prop) (w w' : World) (k : Nat) : Prop := O k ∨ (w.heap.size ≤ k ∧ k < w'.heap.size)
theorem Out.refl (O : Nat → Prop) (w : World) : Out O w w := ⟨rfl, rfl, rfl, Nat.le_refl _, fun _ _ _ => rfl⟩
theorem Out.trans {O : Nat → Prop} {w w1 w2 : World} (h : Out O w w1) (h' : Out (ext O w w1) w1 w2) : Out O w w2 :=
  ⟨h'.os.trans h.os, h'.tape.trans h.tape, h'.output.trans h.output, Nat.le_trans h.size h'.size, fun k hk ho => by
    rw [h'.block k (Nat.lt_of_lt_of_le hk h.size) (fun e => e.elim ho (fun e => by omega)), h.block k hk ho]⟩
theorem Out.trans' {O : Nat → Prop} {w w1 w2 : World} (h : Out O w w1) (h' : Out O w1 w2) : Out O w w2 :=
  ⟨h'.os.trans h.os, h'.tape.trans h.tape, h'.output.trans h.output, Nat.le_trans h.size h'.size, fun k hk ho => by
    rw [h'.block k (Nat.lt_of_lt_of_le hk h.size) ho, h.block k hk ho]⟩
theorem Out.mono {O O' : Nat → Prop} {w w' : World} (h : Out O w w') (hs : ∀ k, O k → O' k) : Out O' w w' :=
  ⟨h.os, h.tape, h.output, h.size, fun k hk ho => h.block k hk (fun e => ho (hs k e))⟩
theorem Out.of_below {O : Nat → Prop} {w w' : World} (h : Below w.heap.size w w') : Out O w w' := ⟨h.os, h.tape, h.output, h.size, fun k hk _ => h.block k hk⟩
theorem Out.of_grown {O : Nat → Prop} {w w' : World} {row : Option Nat} (h : w.grownBy w' row) (hr : ∀ k, row = some k → O k) : Out O w w' :=
  ⟨h.os, h.tape, h.output, h.size, fun k hk ho => h.block k hk (fun e => ho (hr k e.symm))⟩
theorem Out.below {O : Nat → Prop} {w w' : World} {B : Nat} (h : Out O w w') (hB : B ≤ w.heap.size) (ho : ∀ k, O k → B ≤ k) : Below B w w' :=
  ⟨h.os, h.tape, h.output, h.size, fun k hk => h.block k (Nat.lt_of_lt_of_le hk hB) (fun e => by have := ho k e; omega)⟩
theorem blk_lt {w : World} {a : Addr} {v : Value} (h : w.cell? a = some v) : a.block < w.heap.size := by
  rcases Nat.lt_or_ge a.block w.heap.size with q | q
  · exact q
  · exfalso
    have : w.heap[a.block]? = none := Array.getElem?_eq_none q
    simp [World.cell?, this] at h
theorem Out.cell {O : Nat → Prop} {w w' : World} {a : Addr} {v : Value} (h : Out O w w') (hc : w.cell? a = some v) (ho : ¬ O a.block) : w'.cell? a = some v := by
  rw [World.cell?_of_block (h.block a.block (blk_lt hc) ho)]; exact hc
theorem Out.obj {O : Nat → Prop} {w w' : World} {g : Nat} {o : Obj} (h : Out O w w') (hc : w.heap[g]? = some o) (ho : ¬ O g) : w'.heap[g]? = some o := by
  rw [h.block g (Array.getElem?_eq_some_iff.1 hc).1 ho]; exact hc
theorem Out.row {O : Nat → Prop} {w w' : World} {base n size : Nat} {e : TypeId} {v : Value} {xs : List Value} (h : Out O w w') (hr : w.ownsRow base e size v n xs) (ho : ∀ g, v.ownBlock = some g → ¬ O g) : w'.ownsRow base e size v n xs := by
  refine ⟨hr.1, ?_⟩
  rcases hr.2 with h2 | ⟨g, cap, cur, rfl, hg, hh, r⟩
  · exact .inl h2
  · exact .inr ⟨g, cap, cur, rfl, hg, h.obj hh (ho g rfl), r⟩
theorem Out.map {H : Type} {P : Program} {k : TypeId} {R : Value → Option (DataW H × List MemPlace)} {O : Nat → Prop} {w w' : World} {b n : Nat} {D : DataW H} (h : Out O w w') (hm : w.ownsMap P k R b n D) (ho : ¬ O b) : w'.ownsMap P k R b n D := by
  obtain ⟨es, clock, hb, r⟩ := hm
  exact ⟨es, clock, h.obj hb ho, r⟩
theorem own_lt {w : World} {base n size : Nat} {e : TypeId} {v : Value} {xs : List Value} (h : w.ownsRow base e size v n xs) {g : Nat} (hg : v.ownBlock = some g) : base ≤ g ∧ g < w.heap.size := h.lt g hg
theorem ext_ext {O : Nat → Prop} {w w1 w2 : World} (h1 : w.heap.size ≤ w1.heap.size) (h2 : w1.heap.size ≤ w2.heap.size) (k : Nat) : ext (ext O w w1) w1 w2 k ↔ ext O w w2 k := by
  unfold ext
  constructor
  · rintro ((h | h) | h)
    · exact .inl h
    · exact .inr ⟨h.1, by omega⟩
    · exact .inr ⟨by omega, h.2⟩
  · rintro (h | h)
    · exact .inl (.inl h)
    · by_cases hk : k < w1.heap.size
      · exact .inl (.inr ⟨h.1, hk⟩)
      · exact .inr ⟨by omega, h.2⟩
theorem CellsAt.out {O : Nat → Prop} {w w' : World} {A : Option Addr} {n : Nat} {f : Nat → Value} (h : CellsAt w A n f) (hb : Out O w w') (ho : ∀ a, A = some a → ¬ O a.block) : CellsAt w' A n f := by
  intro i hi
  obtain ⟨b, off, e, hc⟩ := h i hi
  exact ⟨b, off, e, hb.cell hc (ho ⟨b, off, none⟩ e)⟩
end Go.Proofs.YtcldpmkhpmlcbaaGreatDoor
/- Layer 15 in plain Lean: a group's queue. -/
namespace Go.Proofs.YtcldpmkhpmlcbaaGreatDoor

structure IdD where
  ses : Int
  seq : Int
deriving DecidableEq
def noId : IdD := ⟨0, 0⟩
instance : Inhabited IdD := ⟨noId⟩
def IdD.v (i : IdD) : Value := .agg #[.int .i64 i.ses, .int .i64 i.seq]
structure OneD where
  id : IdD
  gs : List Int
  own : Nat
  known : List (Int × Nat)
  final : Bool
def noOne : OneD := ⟨noId, [], 0, [], false⟩
instance : Inhabited OneD := ⟨noOne⟩
structure QD where
  g : Int
  clock : Nat
  l : List OneD
def mostQ : Nat := 4611686018427387904
def topK (k : List (Int × Nat)) (s : Nat) : Nat := k.foldl (fun s x => max s x.2) s
def OneD.stamp (o : OneD) : Nat := if o.final then topK o.known o.own else o.own
def lessI (a b : IdD) : Bool := decide (a.ses < b.ses) || (decide (a.ses = b.ses) && decide (a.seq < b.seq))
def ltO (a b : OneD) : Bool := decide (a.stamp < b.stamp) || (decide (a.stamp = b.stamp) && lessI a.id b.id)
def leO (a b : OneD) : Bool := !ltO b a
def cmpO (a b : OneD) : Int := if a.stamp < b.stamp then -1 else if b.stamp < a.stamp then 1 else if lessI a.id b.id then -1 else 1
def sortQ (l : List OneD) : List OneD := l.mergeSort leO
theorem lessI_irr (a : IdD) : lessI a a = false := by simp [lessI]
theorem lessI_trans {a b c : IdD} (h1 : lessI a b = true) (h2 : lessI b c = true) : lessI a c = true := by
  simp only [lessI, Bool.or_eq_true, Bool.and_eq_true, decide_eq_true_eq] at *
  omega
theorem lessI_tri {a b : IdD} (h1 : lessI a b = false) (h2 : lessI b a = false) : a = b := by
  obtain ⟨a1, a2⟩ := a
  obtain ⟨b1, b2⟩ := b
  simp only [lessI, Bool.or_eq_false_iff, Bool.and_eq_false_iff, decide_eq_false_iff_not] at *
  have : a1 = b1 := by omega
  have : a2 = b2 := by omega
  subst_vars
  rfl
theorem ltO_iff {a b : OneD} : ltO a b = true ↔ a.stamp < b.stamp ∨ (a.stamp = b.stamp ∧ lessI a.id b.id = true) := by
  simp [ltO]
theorem ltO_irr (a : OneD) : ltO a a = false := by
  cases h : ltO a a
  · rfl
  · rw [ltO_iff] at h
    rcases h with h | ⟨_, h⟩
    · omega
    · rw [lessI_irr] at h; cases h
theorem ltO_trans {a b c : OneD} (h1 : ltO a b = true) (h2 : ltO b c = true) : ltO a c = true := by
  rw [ltO_iff] at *
  rcases h1 with h1 | ⟨e1, h1⟩ <;> rcases h2 with h2 | ⟨e2, h2⟩
  · left; omega
  · left; omega
  · left; omega
  · right; exact ⟨by omega, lessI_trans h1 h2⟩
theorem ltO_asym {a b : OneD} (h : ltO a b = true) : ltO b a = false := by
  cases h2 : ltO b a
  · rfl
  · rw [← ltO_irr a, ltO_trans h h2]
theorem ltO_tri {a b : OneD} (h1 : ltO a b = false) (h2 : ltO b a = false) : a.stamp = b.stamp ∧ a.id = b.id := by
  have h3 : ¬ (a.stamp < b.stamp ∨ (a.stamp = b.stamp ∧ lessI a.id b.id = true)) := fun h => by rw [ltO_iff.2 h] at h1; cases h1
  have h4 : ¬ (b.stamp < a.stamp ∨ (b.stamp = a.stamp ∧ lessI b.id a.id = true)) := fun h => by rw [ltO_iff.2 h] at h2; cases h2
  have e : a.stamp = b.stamp := by omega
  refine ⟨e, lessI_tri ?_ ?_⟩
  · cases q : lessI a.id b.id
    · rfl
    · exact absurd (.inr ⟨e, q⟩) h3
  · cases q : lessI b.id a.id
    · rfl
    · exact absurd (.inr ⟨e.symm, q⟩) h4
theorem cmpO_lt (a b : OneD) : decide (cmpO a b < 0) = ltO a b := by
  unfold cmpO ltO
  by_cases h1 : a.stamp < b.stamp
  · simp [h1]
  · by_cases h2 : b.stamp < a.stamp
    · have : ¬ a.stamp = b.stamp := by omega
      simp [h1, h2, this]
    · have e : a.stamp = b.stamp := by omega
      cases q : lessI a.id b.id <;> simp [h1, h2, e, q]
theorem leO_trans (a b c : OneD) (h1 : leO a b = true) (h2 : leO b c = true) : leO a c = true := by
  simp only [leO, Bool.not_eq_true'] at *
  cases h3 : ltO c a
  · rfl
  · exfalso
    cases h4 : ltO a b
    · have e := ltO_tri h4 h1
      have : ltO c b = true := by
        rw [ltO_iff] at h3 ⊢
        rw [← e.1, ← e.2]; exact h3
      rw [this] at h2; cases h2
    · rw [ltO_trans h3 h4] at h2; cases h2
theorem leO_total (a b : OneD) : (leO a b || leO b a) = true := by
  simp only [leO, Bool.or_eq_true, Bool.not_eq_true']
  cases h : ltO b a
  · exact .inl rfl
  · exact .inr (ltO_asym h)
theorem sortQ_perm (l : List OneD) : (sortQ l).Perm l := List.mergeSort_perm _ _
theorem sortQ_len (l : List OneD) : (sortQ l).length = l.length := (sortQ_perm l).length_eq
theorem sortQ_sorted (l : List OneD) : (sortQ l).Pairwise (fun a b => leO a b = true) := List.pairwise_mergeSort (le := leO) leO_trans leO_total _
/-- A sorted list of the same ones is the same list, where no two have one id. -/
theorem sorted_eq {l m : List OneD} (hp : l.Perm m) (hl : l.Pairwise (fun a b => leO a b = true)) (hm : m.Pairwise (fun a b => leO a b = true)) (hn : (l.map OneD.id).Nodup) : l = m := by
  apply hp.eq_of_pairwise (le := fun a b => leO a b = true) _ hl hm
  intro a b ha hb h1 h2
  simp only [leO, Bool.not_eq_true'] at h1 h2
  have e := (ltO_tri h2 h1).2
  have hb' : b ∈ l := hp.mem_iff.2 hb
  obtain ⟨i, hi, rfl⟩ := List.mem_iff_getElem.1 ha
  obtain ⟨j, hj, rfl⟩ := List.mem_iff_getElem.1 hb'
  have := List.pairwise_iff_getElem.1 hn
  by_cases hij : i = j
  · subst hij; rfl
  · exfalso
    rcases Nat.lt_or_gt_of_ne hij with q | q
    · exact this i j (by simpa using hi) (by simpa using hj) q (by simp [e])
    · exact this j i (by simpa using hj) (by simpa using hi) q (by simp [e])

/-! ### What each method makes of a queue -/
def idOK (i : IdD) : Bool := decide (1 ≤ i.ses) && decide (i.ses ≤ 8) && decide (1 ≤ i.seq) && decide (i.seq ≤ 1048576)
def rightTo (gs : List Int) : Nat → Bool
  | 0 => true
  | k + 1 => rightTo gs k && (decide (0 ≤ gs.getD k 0) && decide (gs.getD k 0 < 4) && (k == 0 || decide (gs.getD (k - 1) 0 < gs.getD k 0)))
def rightB (g : Int) (gs : List Int) : Bool := rightTo gs gs.length && gs.contains g
def findK (l : List OneD) (i : IdD) : Nat := l.findIdx fun o => decide (o.id = i)
def hasQ (q : QD) (i : IdD) : Bool := decide (findK q.l i < q.l.length)
def oneQ (q : QD) (i : IdD) : OneD := q.l.getD (findK q.l i) noOne
def newOne (q : QD) (i : IdD) (gs : List Int) : OneD := ⟨i, gs, q.clock + 1, [], decide (gs.length = 1)⟩
/-- 0: it waits, 2: its form, 7: full, 11: it waited. -/
def beginK (q : QD) (i : IdD) (gs : List Int) : Int := if (idOK i && rightB q.g gs) = false then 2 else if hasQ q i = true then 11 else if mostQ ≤ q.clock then 7 else 0
def beginQ (q : QD) (i : IdD) (gs : List Int) : QD := if beginK q i gs = 0 then ⟨q.g, q.clock + 1, sortQ (q.l ++ [newOne q i gs])⟩ else q
def hasK (k : List (Int × Nat)) (g : Int) : Bool := k.any fun x => decide (x.1 = g)
def learnOne (o : OneD) (g : Int) (s : Nat) : OneD := { o with known := o.known ++ [(g, s)], final := decide (o.known.length + 1 + 1 = o.gs.length) }
/-- 0: nothing or it is learnt, 1: the argument, 6: none. -/
def learnK (q : QD) (i : IdD) (g : Int) (s : Nat) : Nat :=
  if hasQ q i = false then 6 else if (decide (g = q.g) || !(oneQ q i).gs.contains g || decide (s < 1) || decide (mostQ < s)) = true then 1 else if hasK (oneQ q i).known g = true then 0 else 2
def learnE (q : QD) (i : IdD) (g : Int) (s : Nat) : Int := match learnK q i g s with | 6 => 6 | 1 => 1 | _ => 0
def learnQ (q : QD) (i : IdD) (g : Int) (s : Nat) : QD :=
  if learnK q i g s = 2 then
    let o := learnOne (oneQ q i) g s
    ⟨q.g, if o.final then max q.clock o.stamp else q.clock, sortQ (q.l.set (findK q.l i) o)⟩
  else q
def nextQ (q : QD) : Option (IdD × Nat) := match q.l with | [] => none | o :: _ => if o.final then some (o.id, o.stamp) else none
def doneQ (q : QD) : QD := { q with l := q.l.drop 1 }
/-- What stays true of a queue. -/
structure OneOK (q : QD) (o : OneD) : Prop where
  id : idOK o.id = true
  gs : rightB q.g o.gs = true
  own : 1 ≤ o.own ∧ o.own ≤ q.clock
  kn : ∀ x ∈ o.known, x.1 ≠ q.g ∧ o.gs.contains x.1 = true ∧ 1 ≤ x.2 ∧ x.2 ≤ mostQ
  nd : (o.known.map (·.1)).Nodup
  fin : o.final = decide (o.known.length + 1 = o.gs.length)
  top : o.final = true → o.stamp ≤ q.clock
structure QOK (q : QD) : Prop where
  g : 0 ≤ q.g ∧ q.g < 4
  cl : q.clock ≤ mostQ
  one : ∀ o ∈ q.l, OneOK q o
  nd : (q.l.map OneD.id).Nodup
  so : q.l.Pairwise (fun a b => leO a b = true)
def q0 (g : Int) : QD := ⟨g, 0, []⟩
theorem q0_ok {g : Int} (h : 0 ≤ g ∧ g < 4) : QOK (q0 g) := ⟨h, Nat.zero_le _, fun _ h => (by cases h), List.Pairwise.nil, List.Pairwise.nil⟩
theorem topK_le {k : List (Int × Nat)} : ∀ {s : Nat}, s ≤ topK k s := by
  induction k with
  | nil => intro s; exact Nat.le_refl _
  | cons x k ih => intro s; exact Nat.le_trans (Nat.le_max_left s x.2) (ih (s := max s x.2))
theorem findK_lt {l : List OneD} {i : IdD} (h : findK l i < l.length) : (l.getD (findK l i) noOne).id = i := by
  have h2 := List.findIdx_getElem (w := h)
  rw [List.getD_eq_getElem?_getD, List.getElem?_eq_getElem h]
  exact of_decide_eq_true h2
theorem findK_no {l : List OneD} {i : IdD} (h : ¬ findK l i < l.length) : ∀ o ∈ l, o.id ≠ i := by
  intro o ho e
  apply h
  rw [findK, List.findIdx_lt_length]
  exact ⟨o, ho, by simp [e]⟩
theorem hasQ_id {q : QD} {i : IdD} (h : hasQ q i = true) : findK q.l i < q.l.length ∧ (oneQ q i).id = i ∧ oneQ q i ∈ q.l := by
  have h1 : findK q.l i < q.l.length := by simpa [hasQ] using h
  refine ⟨h1, findK_lt h1, ?_⟩
  unfold oneQ
  rw [List.getD_eq_getElem?_getD, List.getElem?_eq_getElem h1]
  exact List.getElem_mem h1
theorem hasQ_no {q : QD} {i : IdD} (h : hasQ q i = false) : ∀ o ∈ q.l, o.id ≠ i := findK_no (by simpa [hasQ] using h)
theorem topK_bound {k : List (Int × Nat)} {m : Nat} : ∀ {s : Nat}, s ≤ m → (∀ x ∈ k, x.2 ≤ m) → topK k s ≤ m := by
  induction k with
  | nil => intro s h _; exact h
  | cons x k ih =>
    intro s h hk
    exact ih (s := max s x.2) (Nat.max_le.2 ⟨h, hk x (List.mem_cons_self ..)⟩) fun y hy => hk y (List.mem_cons_of_mem _ hy)
theorem OneOK.more {q : QD} {o : OneD} (h : OneOK q o) {q' : QD} (hg : q'.g = q.g) (hc : q.clock ≤ q'.clock) : OneOK q' o :=
  ⟨h.id, by rw [hg]; exact h.gs, ⟨h.own.1, Nat.le_trans h.own.2 hc⟩, fun x hx => by rw [hg]; exact h.kn x hx, h.nd, h.fin, fun e => Nat.le_trans (h.top e) hc⟩
theorem begin_ok {q : QD} (h : QOK q) (i : IdD) (gs : List Int) : QOK (beginQ q i gs) := by
  rw [beginQ]
  split
  · rename_i e
    unfold beginK at e
    split at e; · cases e
    rename_i e1
    split at e; · cases e
    rename_i e2
    split at e; · cases e
    rename_i e3
    simp only [Bool.and_eq_false_iff, not_or, Bool.not_eq_false] at e1
    have hno := hasQ_no (by simpa using e2)
    refine ⟨h.g, by show q.clock + 1 ≤ mostQ; omega, fun o ho => ?_, ?_, sortQ_sorted _⟩
    · have ho' := (sortQ_perm _).mem_iff.1 ho
      rcases List.mem_append.1 ho' with ho' | ho'
      · exact (h.one o ho').more rfl (Nat.le_succ _)
      · rw [List.mem_singleton.1 ho']
        exact ⟨e1.1, e1.2, ⟨Nat.succ_le_succ (Nat.zero_le _), Nat.le_refl _⟩, fun x hx => (by cases hx), List.Pairwise.nil, by simp [newOne, eq_comm], fun _ => by simp [newOne, OneD.stamp, topK]⟩
    · refine (((sortQ_perm (q.l ++ [newOne q i gs])).map OneD.id).nodup_iff).2 ?_
      rw [List.map_append, List.nodup_append]
      refine ⟨h.nd, by simp, fun a ha b hb => ?_⟩
      obtain ⟨o, ho, rfl⟩ := List.mem_map.1 ha
      simp only [List.map_cons, List.map_nil, List.mem_singleton] at hb
      rw [hb]
      exact hno o ho
  · exact h
theorem set_ids {l : List OneD} {k : Nat} {o : OneD} (hk : k < l.length) (ho : o.id = (l.getD k noOne).id) : (l.set k o).map OneD.id = l.map OneD.id := by
  rw [List.map_set, ho]
  have : (l.getD k noOne).id = (l.map OneD.id)[k]'(by simpa using hk) := by
    rw [List.getElem_map, List.getD_eq_getElem?_getD, List.getElem?_eq_getElem hk]; rfl
  rw [this]
  exact List.set_getElem_self _
theorem learn_ok {q : QD} (h : QOK q) (i : IdD) (g : Int) (s : Nat) : QOK (learnQ q i g s) := by
  rw [learnQ]
  split
  · rename_i e
    unfold learnK at e
    split at e; · cases e
    rename_i e1
    split at e; · cases e
    rename_i e2
    split at e; · cases e
    rename_i e3
    have e1' : hasQ q i = true := by simpa using e1
    obtain ⟨hk, hid, hm⟩ := hasQ_id e1'
    have hone := h.one _ hm
    simp only [Bool.or_eq_true, decide_eq_true_eq, Bool.not_eq_true', not_or] at e2
    obtain ⟨⟨⟨g1, g2⟩, g3⟩, g4⟩ := e2
    generalize hO : oneQ q i = o0 at *
    have hstamp : (learnOne o0 g s).stamp ≤ max (topK (o0.known ++ [(g, s)]) o0.own) o0.own := by
      unfold OneD.stamp learnOne
      simp only
      split
      · exact Nat.le_max_left _ _
      · exact Nat.le_max_right _ _
    have hmost : (learnOne o0 g s).stamp ≤ mostQ := by
      refine Nat.le_trans hstamp (Nat.max_le.2 ⟨topK_bound (Nat.le_trans hone.own.2 h.cl) fun x hx => ?_, Nat.le_trans hone.own.2 h.cl⟩)
      rcases List.mem_append.1 hx with hx | hx
      · exact (hone.kn x hx).2.2.2
      · rw [List.mem_singleton.1 hx]; show s ≤ mostQ; omega
    refine ⟨h.g, ?_, fun o ho => ?_, ?_, sortQ_sorted _⟩
    · show (if (learnOne o0 g s).final = true then max q.clock (learnOne o0 g s).stamp else q.clock) ≤ mostQ
      split
      · exact Nat.max_le.2 ⟨h.cl, hmost⟩
      · exact h.cl
    · have hc : q.clock ≤ (if (learnOne o0 g s).final = true then max q.clock (learnOne o0 g s).stamp else q.clock) := by
        split
        · exact Nat.le_max_left _ _
        · exact Nat.le_refl _
      rcases List.mem_or_eq_of_mem_set ((sortQ_perm _).mem_iff.1 ho) with ho | ho
      · exact (h.one o ho).more rfl hc
      · rw [ho]
        refine ⟨hone.id, hone.gs, ⟨hone.own.1, Nat.le_trans hone.own.2 hc⟩, fun x hx => ?_, ?_, ?_, fun hf => ?_⟩
        · rcases List.mem_append.1 hx with hx | hx
          · exact hone.kn x hx
          · rw [List.mem_singleton.1 hx]
            exact ⟨g1, by cases q2 : o0.gs.contains g; exact absurd q2 g2; exact q2, by show 1 ≤ s; omega, by show s ≤ mostQ; omega⟩
        · show ((o0.known ++ [(g, s)]).map (·.1)).Nodup
          rw [List.map_append, List.nodup_append]
          refine ⟨hone.nd, by simp, fun a ha b hb => ?_⟩
          obtain ⟨y, hy, rfl⟩ := List.mem_map.1 ha
          simp only [List.map_cons, List.map_nil, List.mem_singleton] at hb
          rw [hb]
          intro e4
          apply e3
          rw [hasK, List.any_eq_true]
          exact ⟨y, hy, by simpa using e4⟩
        · show decide (o0.known.length + 1 + 1 = o0.gs.length) = decide ((o0.known ++ [(g, s)]).length + 1 = o0.gs.length)
          rw [List.length_append]; rfl
        · show (learnOne o0 g s).stamp ≤ if (learnOne o0 g s).final = true then max q.clock (learnOne o0 g s).stamp else q.clock
          rw [if_pos hf]; exact Nat.le_max_right _ _
    · refine (((sortQ_perm (q.l.set (findK q.l i) (learnOne o0 g s))).map OneD.id).nodup_iff).2 ?_
      have : (learnOne o0 g s).id = (q.l.getD (findK q.l i) noOne).id := by rw [← hO]; rfl
      rw [set_ids hk this]
      exact h.nd
  · exact h
theorem done_ok {q : QD} (h : QOK q) : QOK (doneQ q) := by
  refine ⟨h.g, h.cl, fun o ho => (h.one o (List.mem_of_mem_drop ho)).more rfl (Nat.le_refl _), ?_, ?_⟩
  · show ((q.l.drop 1).map OneD.id).Nodup
    rw [List.map_drop]
    exact h.nd.sublist (List.drop_sublist _ _)
  · exact h.so.sublist (List.drop_sublist _ _)
end Go.Proofs.YtcldpmkhpmlcbaaGreatDoor
/- Maps that hold values as they are, whatever type is a key, told as a list of pairs. No function of the program is named here. -/
namespace Go.Proofs.YtcldpmkhpmlcbaaGreatDoor
open Go.RowKit Go.Maps

section
variable {κ V : Type} [DecidableEq κ]
/-- What a list of pairs has at a key; laid in; taken out. -/
def getM (kv : List (κ × V)) (k : κ) : Option V := (kv.find? fun p => decide (p.1 = k)).map (·.2)
def putM (kv : List (κ × V)) (k : κ) (v : V) : List (κ × V) := (k, v) :: kv.filter fun p => !decide (p.1 = k)
def delM (kv : List (κ × V)) (k : κ) : List (κ × V) := kv.filter fun p => !decide (p.1 = k)
theorem getM_nil (k : κ) : getM ([] : List (κ × V)) k = none := rfl
theorem getM_del (kv : List (κ × V)) (k k' : κ) : getM (delM kv k) k' = if k' = k then none else getM kv k' := by
  unfold delM getM
  rw [List.find?_filter]
  by_cases e : k' = k
  · subst e
    rw [if_pos rfl]
    rw [Option.map_eq_none_iff, List.find?_eq_none]
    intro p _ h
    simp at h
  · rw [if_neg e]
    congr 1
    congr 1
    funext p
    by_cases h : p.1 = k'
    · have : ¬ p.1 = k := fun e2 => e (h.symm.trans e2)
      simp [h, e]
    · simp [h]
theorem getM_put (kv : List (κ × V)) (k k' : κ) (v : V) : getM (putM kv k v) k' = if k' = k then some v else getM kv k' := by
  have h := getM_del kv k k'
  unfold delM at h
  unfold putM
  by_cases e : k' = k
  · subst e
    rw [if_pos rfl]
    simp [getM]
  · rw [if_neg e] at h ⊢
    rw [← h]
    have e2 : ¬ k = k' := fun e2 => e e2.symm
    simp [getM, e2]
end
section
variable {κ V U : Type} [DecidableEq κ]
end
/-- Elements that are held as they are. -/
def heldV (v : Value) : Option (DataW Value × List MemPlace) := some (.held v, [])
theorem heldV_inv {v u : Value} {ps : List MemPlace} (h : heldV v = some (.held u, ps)) : v = u := by
  simp only [heldV, Option.some.injEq, Prod.mk.injEq, DataW.held.injEq] at h
  exact h.1
theorem atKey_no {D : DataW Value} {kl : Lit} (h : Maps.has D kl = false) (z : DataW Value) : D.atKey kl z = z := by
  cases D <;> try rfl
  rename_i es
  simp only [Maps.has] at h
  have : es.find? (fun p => p.1.sameKey kl) = none := by
    rw [List.find?_eq_none]
    intro p hp hs
    rw [List.any_eq_false] at h
    exact h p hp hs
  simp [DataW.atKey, this]
/-- Keys of type κ, as the model spells and reads them. -/
structure KeyE {κ : Type} (P : Program) (kt : TypeId) (ok : κ → Prop) (enc : κ → Value) (lit : κ → Lit) : Prop where
  K : Keyed P kt
  of : ∀ k, ok k → keyOf P kt (enc k) = some (lit k)
  inj : ∀ a b, ok a → ok b → lit a = lit b → a = b
  key : ∀ k, ok k → WideAt.IsKeyLit (lit k)
/-- Block b is a map that holds the pairs kv; N bounds how often it was stored into. -/
def MapH {κ : Type} [DecidableEq κ] (P : Program) (kt : TypeId) (ok : κ → Prop) (lit : κ → Lit) (w : World) (b N : Nat) (kv : List (κ × Value)) : Prop :=
  ∃ D, w.ownsMap P kt heldV b N D ∧ (∀ k, ok k → Maps.has D (lit k) = (getM kv k).isSome) ∧ ∀ k v z, ok k → getM kv k = some v → D.atKey (lit k) z = .held v
section
variable {κ : Type} [DecidableEq κ] {P : Program} {kt t e : TypeId} {ok : κ → Prop} {enc : κ → Value} {lit : κ → Lit} {w : World} {b N : Nat} {kv : List (κ × Value)}
theorem MapH.made (w : World) : MapH P kt ok lit (w.alloc (.map #[] 0)) w.heap.size 0 ([] : List (κ × Value)) :=
  ⟨.map [], World.ownsMap_made w P kt heldV, fun _ _ => rfl, fun _ _ _ _ h => by cases h⟩
theorem MapH.out {w' : World} {O : Nat → Prop} (h : MapH P kt ok lit w b N kv) (ho : Out O w w') (hb : ¬ O b) : MapH P kt ok lit w' b N kv := by
  obtain ⟨D, h1, h2, h3⟩ := h
  exact ⟨D, ho.map h1 hb, h2, h3⟩
theorem MapH.later {w' : World} (h : MapH P kt ok lit w b N kv) (hb : Below w.heap.size w w') : MapH P kt ok lit w' b N kv := h.out (O := fun _ => False) (Out.of_below hb) (fun e => e)
theorem MapH.mono {N' : Nat} (h : MapH P kt ok lit w b N kv) (hn : N ≤ N') : MapH P kt ok lit w b N' kv := by
  obtain ⟨D, h1, h2, h3⟩ := h
  exact ⟨D, h1.mono hn, h2, h3⟩
theorem MapH.lt (h : MapH P kt ok lit w b N kv) : b < w.heap.size := by
  obtain ⟨D, h1, _⟩ := h
  exact h1.lt
theorem MapH.look (E : KeyE P kt ok enc lit) (h : MapH P kt ok lit w b N kv) (ht : P.underlying t = some (.map kt e)) {z : Value} (hz : (zeroValue e).run P w = .ok z w) (k : κ) (hk : ok k) :
    (Instr.lookup t (.map (some b)) (enc k) false).run P w = .ok ((getM kv k).getD z) w := by
  obtain ⟨D, h1, h2, h3⟩ := h
  obtain ⟨v, ps, hrun, hv⟩ := h1.lookup E.K ht hz (zd := .held z) (zp := []) rfl (E.of k hk)
  rw [hrun]
  congr 1
  cases hg : getM kv k with
  | none =>
    rw [atKey_no (by rw [h2 k hk, hg]; rfl)] at hv
    exact heldV_inv hv
  | some u =>
    rw [h3 k u _ hk hg] at hv
    exact heldV_inv hv
theorem MapH.look_ok (E : KeyE P kt ok enc lit) (h : MapH P kt ok lit w b N kv) (ht : P.underlying t = some (.map kt e)) {z : Value} (hz : (zeroValue e).run P w = .ok z w) (k : κ) (hk : ok k) :
    (Instr.lookup t (.map (some b)) (enc k) true).run P w = .ok (.tuple #[(getM kv k).getD z, .bool (getM kv k).isSome]) w := by
  obtain ⟨D, h1, h2, h3⟩ := h
  obtain ⟨v, ps, hrun, hv⟩ := h1.look_ok E.K ht hz (zd := .held z) (zp := []) rfl (E.of k hk)
  rw [hrun, h2 k hk]
  congr 3
  cases hg : getM kv k with
  | none =>
    rw [atKey_no (by rw [h2 k hk, hg]; rfl)] at hv
    rw [heldV_inv hv]; rfl
  | some u =>
    rw [h3 k u _ hk hg] at hv
    rw [heldV_inv hv]; rfl
theorem MapH.put (E : KeyE P kt ok enc lit) (h : MapH P kt ok lit w b N kv) (ht : P.underlying t = some (.map kt e)) (hn : N < maxLen) (k : κ) (hk : ok k) (v : Value) :
    ∃ w', (Instr.mapUpdate t (.map (some b)) (enc k) v).run P w = .ok () w' ∧ MapH P kt ok lit w' b (N + 1) (putM kv k v) ∧ w.mapTurned w' b := by
  obtain ⟨D, h1, h2, h3⟩ := h
  obtain ⟨w', hrun, h4, h5⟩ := h1.store E.K ht hn (E.of k hk) (val := v) (d := .held v) (ps := []) rfl
  refine ⟨w', hrun, ⟨_, h4, fun k' hk' => ?_, fun k' u z hk' hu => ?_⟩, h5⟩
  · rw [getM_put]
    by_cases e1 : k' = k
    · subst e1
      rw [if_pos rfl, has_put_same h1.isMap (E.key _ hk)]; rfl
    · rw [if_neg e1, has_put_other (fun e2 => e1 (E.inj _ _ hk' hk e2)), h2 k' hk']
  · rw [getM_put] at hu
    by_cases e1 : k' = k
    · subst e1
      rw [if_pos rfl] at hu
      cases hu
      exact atKey_put_same h1.isMap (E.key _ hk) _ _
    · rw [if_neg e1] at hu
      rw [atKey_put_other (fun e2 => e1 (E.inj _ _ hk' hk e2))]
      exact h3 k' u z hk' hu
theorem MapH.del (E : KeyE P kt ok enc lit) (h : MapH P kt ok lit w b N kv) (ht : P.underlying t = some (.map kt e)) (k : κ) (hk : ok k) (ty : TypeId) :
    ∃ w', (Builtin.delete_ #[t, kt] ty #[.map (some b), enc k]).run P w = .ok (.tuple #[]) w' ∧ MapH P kt ok lit w' b N (delM kv k) ∧ w.mapTurned w' b := by
  obtain ⟨D, h1, h2, h3⟩ := h
  obtain ⟨w', hrun, h4, h5⟩ := h1.drop E.K ht (E.of k hk) ty
  refine ⟨w', hrun, ⟨_, h4, fun k' hk' => ?_, fun k' u z hk' hu => ?_⟩, h5⟩
  · rw [getM_del]
    by_cases e1 : k' = k
    · subst e1
      rw [if_pos rfl, has_del_same]; rfl
    · rw [if_neg e1, has_del_other (fun e2 => e1 (E.inj _ _ hk' hk e2)), h2 k' hk']
  · rw [getM_del] at hu
    by_cases e1 : k' = k
    · subst e1
      rw [if_pos rfl] at hu
      cases hu
    · rw [if_neg e1] at hu
      rw [atKey_del_other (fun e2 => e1 (E.inj _ _ hk' hk e2))]
      exact h3 k' u z hk' hu
/-! ### at the operation -/
variable {ops : Array Oper} {rest : List Oper} {o : Oper} {a : Act} {Q : Exit → Act → World → Prop}
end
theorem blk_setc {w : World} {g j : Nat} {cur : Array Value} {t : TypeId} (v : Value) (h : w.heap[g]? = some (.cells cur t (0, 0))) : (w.setCell ⟨g, j, none⟩ v).heap[g]? = some (.cells (cur.setIfInBounds j v) t (0, 0)) := by
  simp [World.setCell, Array.getElem?_modify, h]
theorem out_setc (w : World) (b j : Nat) (u : Value) : Out (fun k => k = b) w (w.setCell ⟨b, j, none⟩ u) :=
  ⟨rfl, rfl, rfl, by simp [World.setCell], fun k _ hn => Below.heap_setCell _ _ _ _ hn⟩
theorem Out.of_turned {w w' : World} {b : Nat} (h : w.mapTurned w' b) : Out (fun k => k = b) w w' := Out.of_grown h.grown (fun k e => by cases e; rfl)
end Go.Proofs.YtcldpmkhpmlcbaaGreatDoor
/- Ids, and an id with a group, as keys of maps. -/
namespace Go.Proofs.YtcldpmkhpmlcbaaGreatDoor
open Go.RowKit Go.Maps Go.WideMaps

def inI64 (x : Int) : Prop := -9223372036854775808 ≤ x ∧ x ≤ 9223372036854775807
def okId (i : IdD) : Prop := inI64 i.ses ∧ inI64 i.seq
def encId (i : IdD) : Value := .agg #[.int .i64 i.ses, .int .i64 i.seq]
def litId (i : IdD) : Lit := .string (keyBytes [.int .i64 i.ses, .int .i64 i.seq])
theorem laid17 : laidOutB Tryz.prog = true := by kernel_rfl
theorem size17 : ∃ m, Tryz.prog.types.size = m + 3 := ⟨Tryz.prog.types.size - 3, (Nat.sub_add_cancel (of_decide_eq_true (by kernel_rfl))).symm⟩
theorem law_id17 : KeyLaw Tryz.prog 34 := deep_law_laid laid17 (m := 3) (by omega) (of_decide_eq_true (by kernel_rfl)) (by kernel_rfl) (by kernel_rfl)
theorem keyOf_id17 {i : IdD} (h : okId i) : keyOf Tryz.prog 34 (encId i) = some (litId i) := by
  have wa : (Lit.int .i64 i.ses).wf = true := WalkArith.wf_i64 h.1
  have wb : (Lit.int .i64 i.seq).wf = true := WalkArith.wf_i64 h.2
  obtain ⟨m, hm⟩ := size17
  have hkt : Tryz.prog.keyType 34 = true := by kernel_rfl
  have hf : (encId i).formed Tryz.prog 34 = true := by
    have : Tryz.prog.cellsOf 34 = 2 := by kernel_rfl
    simp [Value.formed, encId, Tryz.underlying34, this]
  have hc1 : Tryz.prog.cellsOf 3 = 1 := by kernel_rfl
  have hc2 : Tryz.prog.cellsOf 34 = 2 := by kernel_rfl
  unfold keyOf
  simp only [Tryz.underlying34]
  rw [if_pos (by rw [hkt, hf]; rfl), hm]
  simp [Program.keyLits, Tryz.underlying34, Tryz.underlying3, encId, Value.cells, hc1, hc2, wa, wb, litId]
theorem keyed_id17 : Keyed Tryz.prog 34 := Keyed.of_law law_id17
theorem encId_inj {a b : IdD} (h : encId a = encId b) : a = b := by
  obtain ⟨a1, a2⟩ := a
  obtain ⟨b1, b2⟩ := b
  simp [encId] at h
  obtain ⟨rfl, rfl⟩ := h
  rfl
theorem keyE_id17 : KeyE Tryz.prog 34 okId encId litId where
  K := keyed_id17
  of k hk := keyOf_id17 hk
  inj a b ha hb h := encId_inj (keyed_id17.inj (keyOf_id17 ha) (by rw [h]; exact keyOf_id17 hb))
  key k hk := keyed_id17.key (keyOf_id17 hk)
/-! ### an id and a group -/
abbrev FromD := IdD × Int
def okFrom (i : FromD) : Prop := okId i.1 ∧ inI64 i.2
def encFrom (i : FromD) : Value := .agg #[.int .i64 i.1.ses, .int .i64 i.1.seq, .int .i64 i.2]
def litFrom (i : FromD) : Lit := .string (keyBytes [.int .i64 i.1.ses, .int .i64 i.1.seq, .int .i64 i.2])
theorem law_from17 : KeyLaw Tryz.prog 179 := deep_law_laid laid17 (m := 4) (by omega) (of_decide_eq_true (by kernel_rfl)) (by kernel_rfl) (by kernel_rfl)
theorem keyOf_from17 {i : FromD} (h : okFrom i) : keyOf Tryz.prog 179 (encFrom i) = some (litFrom i) := by
  have wa : (Lit.int .i64 i.1.ses).wf = true := WalkArith.wf_i64 h.1.1
  have wb : (Lit.int .i64 i.1.seq).wf = true := WalkArith.wf_i64 h.1.2
  have wc : (Lit.int .i64 i.2).wf = true := WalkArith.wf_i64 h.2
  obtain ⟨m, hm⟩ := size17
  have hkt : Tryz.prog.keyType 179 = true := by kernel_rfl
  have hc1 : Tryz.prog.cellsOf 3 = 1 := by kernel_rfl
  have hc2 : Tryz.prog.cellsOf 34 = 2 := by kernel_rfl
  have hc3 : Tryz.prog.cellsOf 179 = 3 := by kernel_rfl
  have hf : (encFrom i).formed Tryz.prog 179 = true := by
    simp [Value.formed, encFrom, Tryz.underlying179, hc3]
  unfold keyOf
  simp only [Tryz.underlying179]
  rw [if_pos (by rw [hkt, hf]; rfl), hm]
  simp [Program.keyLits, Tryz.underlying179, Tryz.underlying34, Tryz.underlying3, encFrom, Value.cells, hc1, hc2, hc3, wa, wb, wc, litFrom]
  rw [if_pos (by
    intro k hk
    rcases k with _ | _ | k
    · simp
    · simp
    · omega)]
  rfl
theorem keyed_from17 : Keyed Tryz.prog 179 := Keyed.of_law law_from17
theorem encFrom_inj {a b : FromD} (h : encFrom a = encFrom b) : a = b := by
  obtain ⟨⟨a1, a2⟩, a3⟩ := a
  obtain ⟨⟨b1, b2⟩, b3⟩ := b
  simp [encFrom] at h
  obtain ⟨rfl, rfl, rfl⟩ := h
  rfl
theorem keyE_from17 : KeyE Tryz.prog 179 okFrom encFrom litFrom where
  K := keyed_from17
  of k hk := keyOf_from17 hk
  inj a b ha hb h := encFrom_inj (keyed_from17.inj (keyOf_from17 ha) (by rw [h]; exact keyOf_from17 hb))
  key k hk := keyed_from17.key (keyOf_from17 hk)
end Go.Proofs.YtcldpmkhpmlcbaaGreatDoor
/- Laws of no program: 'copy' over a row whose elements take several cells; 'append(s[:0], make(S, k)...)' where there is no room. -/
namespace Go.Proofs.YtcldpmkhpmlcbaaGreatDoor
open Go.RowKit

section
variable {P : Program} {w : World}
theorem run_copy_rowS (w : World) (dT sT ty elem : TypeId) (size g o dLen dCap : Nat) (a : Addr) (sLen sCap : Nat) (cur : Array Value) (t : TypeId) (cs : List Value)
    (hu : P.underlying dT = some (.slice elem)) (hs : (P.info? elem).map (·.size) = some size)
    (hg : w.heap[g]? = some (.cells cur t (0, 0))) (hn : cs.length = Nat.min sLen dLen * size)
    (hsrc : ∀ j v, cs[j]? = some v → w.cell? (a.add j) = some v) (hfit : o + cs.length ≤ cur.size) (h1 : ∀ v ∈ cs, v.oneCell' = true) :
    (Builtin.copy_ #[dT, sT] ty #[.slice (some ⟨g, o, none⟩) dLen dCap, .slice (some a) sLen sCap]).run P w =
      .ok (goInt (Nat.min sLen dLen)) (w.setRow g (cur.toList.take o ++ cs ++ cur.toList.drop (o + cs.length)).toArray) := by
  have hl := run_loadCells_list (P := P) w a cs hsrc
  have hst := run_storeCells_at P g o t cs 0 cur w hg (by simpa using hfit) h1
  cases hq : P.info? elem with
  | none => simp [hq] at hs
  | some i =>
    have hi : i.size = size := by simpa [hq] using hs
    simp [Builtin.copy_, run_underlying hu, Builtin.lenOf, Builtin.firstCells, sizeOf, typeInfo, hq, hi, ← hn, hl, hst]
theorem grown_setRow (w : World) (g : Nat) (cs : Array Value) : w.grownBy (w.setRow g cs) (some g) :=
  ⟨rfl, rfl, rfl, by simp [World.setRow], fun k _ hk => setRow_other w g k cs (fun e => hk (by rw [e]))⟩
theorem run_copy_spliceS (w : World) (dT sT ty elem : TypeId) (size g o dLen dCap : Nat) (a : Addr) (sLen sCap : Nat) (cur : List Value) (t : TypeId) (cs : List Value)
    (hu : P.underlying dT = some (.slice elem)) (hs : (P.info? elem).map (·.size) = some size)
    (hg : w.heap[g]? = some (.cells cur.toArray t (0, 0))) (hn : cs.length = Nat.min sLen dLen * size)
    (hsrc : ∀ j v, cs[j]? = some v → w.cell? (a.add j) = some v) (hfit : o + cs.length ≤ cur.length) (h1 : ∀ v ∈ cs, v.oneCell' = true) :
    ∃ n w', (Builtin.copy_ #[dT, sT] ty #[.slice (some ⟨g, o, none⟩) dLen dCap, .slice (some a) sLen sCap]).run P w = .ok (goInt n) w' ∧ w'.heap[g]? = some (.cells (splice cur o cs).toArray t (0, 0)) ∧ w.grownBy w' (some g) := by
  refine ⟨_, _, run_copy_rowS w dT sT ty elem size g o dLen dCap a sLen sCap cur.toArray t cs hu hs hg hn hsrc (by simpa using hfit) h1, ?_, grown_setRow _ _ _⟩
  rw [setRow_heap w g cur.toArray _ t _ hg]
  simp [splice]
theorem wpList_copy_spliceS {ops : Array Oper} {rest : List Oper} {o : Oper} {a : Act} {Q : Exit → Act → World → Prop} (hgd : o.guard = none) (d s : Operand) (dT sT : TypeId)
    (ho : o.op = .call { callee := .builtin .copy, args := #[d, s], argTypes := #[dT, sT] }) (elem : TypeId) (size : Nat) (hu : P.underlying dT = some (.slice elem)) (hsz : (P.info? elem).map (·.size) = some size)
    (g off dLen dCap : Nat) (ad : Addr) (sLen sCap : Nat) (hd : a.eval d = .slice (some ⟨g, off, none⟩) dLen dCap) (hs : a.eval s = .slice (some ad) sLen sCap)
    (cur : List Value) (t : TypeId) (hg : w.heap[g]? = some (.cells cur.toArray t (0, 0))) (cs : List Value) (hn : cs.length = Nat.min sLen dLen * size)
    (hsrc : ∀ j v, cs[j]? = some v → w.cell? (ad.add j) = some v) (hfit : off + cs.length ≤ cur.length) (h1 : ∀ v ∈ cs, v.oneCell' = true)
    (h : ∀ (n : Int) (w' : World), Hid (w'.heap[g]? = some (.cells (splice cur off cs).toArray t (0, 0))) → w.grownBy w' (some g) → wpList P ops Q rest (a.put o.dst (goInt n)) w') : wpList P ops Q (o :: rest) a w := by
  obtain ⟨n, w', hr, h2, h3⟩ := run_copy_spliceS (P := P) w dT sT o.type elem size g off dLen dCap ad sLen sCap cur t cs hu hsz hg hn hsrc hfit h1
  refine wpList_plain hgd fun K hK => ?_
  unfold Oper.wp
  simp [execOp, ho, resolve, invoke, builtin, hd, hs, hr, Result.andThen]
  exact hK _ _ (h n w' h2 h3)
theorem step_copy_spliceS {ops : Array Oper} {o : Oper} {a : Act} {K : Act → World → Prop} {Q : Exit → Act → World → Prop} {E : Prop} (hgd : o.guard = none) (d s : Operand) (dT sT : TypeId)
    (ho : o.op = .call { callee := .builtin .copy, args := #[d, s], argTypes := #[dT, sT] }) (elem : TypeId) (size : Nat) (hu : P.underlying dT = some (.slice elem)) (hsz : (P.info? elem).map (·.size) = some size)
    (g off dLen dCap : Nat) (ad : Addr) (sLen sCap : Nat) (hd : a.eval d = .slice (some ⟨g, off, none⟩) dLen dCap) (hs : a.eval s = .slice (some ad) sLen sCap)
    (cur : List Value) (t : TypeId) (hg : w.heap[g]? = some (.cells cur.toArray t (0, 0))) (cs : List Value) (hn : cs.length = Nat.min sLen dLen * size)
    (hsrc : ∀ j v, cs[j]? = some v → w.cell? (ad.add j) = some v) (hfit : off + cs.length ≤ cur.length) (h1 : ∀ v ∈ cs, v.oneCell' = true)
    (h : ∀ (n : Int) (w' : World), Hid (w'.heap[g]? = some (.cells (splice cur off cs).toArray t (0, 0))) → w.grownBy w' (some g) → K (a.put o.dst (goInt n)) w') :
    if Region.wanted o (yielded ops a.tmps) = true then Oper.wp P o a w K Q else E := by
  obtain ⟨n, w', hr, h2, h3⟩ := run_copy_spliceS (P := P) w dT sT o.type elem size g off dLen dCap ad sLen sCap cur t cs hu hsz hg hn hsrc hfit h1
  have hw : Region.wanted o (yielded ops a.tmps) = true := by simp [Region.wanted, hgd]
  rw [if_pos hw]
  unfold Oper.wp
  simp [execOp, ho, resolve, invoke, builtin, hd, hs, hr, Result.andThen]
  exact h n w' h2 h3
/-- append(s[:0], make(S, k)...) where there is no room. -/
theorem wpList_append_zeros {ops : Array Oper} {rest : List Oper} {o : Oper} {a : Act} {Q : Exit → Act → World → Prop} (hgd : o.guard = none) (s x : Operand) (t tn : TypeId)
    (ho : o.op = .call { callee := .builtin .append, args := #[s, x], argTypes := #[t, tn] }) (e : TypeId) (i : TypeInfo) (z : Value) (size bytes : Nat) (ht : P.underlying t = some (.slice e)) (htn : P.underlying tn = some (.int .i64)) (hi : P.info? e = some i) (hz : i.zero = some z)
    (hsize : i.size = size) (hby : i.bytes = bytes) (hzs : z.cells.size = size) (hsz : 0 < size) (base : Option Addr) (cap k : Nat) (z' : Int) (hs : a.eval s = .slice base 0 cap) (hx : a.eval x = .int .i64 z') (hzk : z' = (k : Int)) (h0 : 0 < k) (hcap : cap < k)
    (h63 : k ≤ 1000000) (hbytes : k * bytes ≤ 140737488355328)
    (h : ∀ (G : Nat) (cur : List Value) (w' : World), k ≤ G → G ≤ 9223372036854775807 → cur.length = G * size → w'.heap[w.heap.size]? = some (.cells cur.toArray e (0, 0)) → w.grownBy w' none → w'.heap.size = w.heap.size + 1 → wpList P ops Q rest (a.put o.dst (.slice (some ⟨w.heap.size, 0, none⟩) k G)) w') : wpList P ops Q (o :: rest) a w := by
  subst hzk
  have hold : (Builtin.firstCells i.size 0 (.slice base 0 cap)).run P w.drew = .ok ([] : List Value).toArray w.drew := by
    cases base with
    | none => exact run_firstCells_none _ _ _ _ _
    | some a => exact run_firstCells_some w.drew _ 0 a 0 cap [] (by simp) (fun j v hj => by simp at hj)
  have hr := Lib.run_append_grow_zeros (P := P) w t tn o.type e i z .i64 .i64 ht htn hi hz base 0 cap [] hold k h0 (by omega) (by omega) (by omega) (by rw [hby]; omega) (by rw [hby, Nat.zero_add]; exact growslice_fits hcap hbytes)
  rw [Nat.zero_add] at hr
  refine Lib.wpList_append_run w hgd s x t tn ho _ _ hs hx _ _ hr ?_
  obtain ⟨G, hG⟩ : ∃ G, grownCap w k cap e = G := ⟨_, rfl⟩
  have hg1 : k ≤ G := hG ▸ grownCap_ge w k cap e
  have hg2 : G ≤ maxLen := hG ▸ grownCap_le_maxLen w k cap e (le_maxLen h63)
  rw [hG]
  have hl : (Builtin.zeroCells z.cells k ++ Builtin.zeroCells z.cells (G - k)).toList.length = G * size := by
    have e0 : G = k + (G - k) := by omega
    have : ∀ n, (Builtin.zeroCells z.cells n).size = n * size := fun n => by simp [Builtin.zeroCells, hzs]
    rw [Array.length_toList, Array.size_append, this, this, ← Nat.add_mul]
    congr 1
    omega
  refine h G _ _ hg1 (by unfold maxLen at hg2; omega) hl ?_ ?_ ?_
  · rw [show w.heap.size = w.drew.heap.size from rfl, heap_alloc_new]
    simp
  · exact ⟨rfl, rfl, rfl, by simp, (World.grownBy_alloc w.drew _ none).block⟩
  · simp
end
end Go.Proofs.YtcldpmkhpmlcbaaGreatDoor
/- Rising keys, in plain Lean. -/
namespace Go.Proofs.YtcldpmkhpmlcbaaGreatDoor

theorem risesTo_at {l : List ByteArray} : ∀ {n k : Nat}, risesTo l n = true → k < n → riseAt l k = true
  | 0, _, _, h => by omega
  | n + 1, k, h, hk => by
    simp only [risesTo, Bool.and_eq_true] at h
    by_cases e : k = n
    · subst e; exact h.2
    · exact risesTo_at h.1 (by omega)
theorem rises_lt {l : List ByteArray} {n : Nat} (h : risesTo l n = true) : ∀ (d i : Nat), i + d + 1 < n → lessS (l.getD i noStr) (l.getD (i + d + 1) noStr) = true
  | 0, i, hi => by
    have := risesTo_at h (k := i + 1) hi
    simp only [riseAt, Bool.and_eq_true, Bool.or_eq_true, beq_iff_eq] at this
    rcases this.2 with e | e
    · omega
    · simpa using e
  | d + 1, i, hi => by
    have h1 := rises_lt h d i (by omega)
    have h2 := rises_lt h 0 (i + d + 1) (by omega)
    exact lessS_trans h1 h2
theorem rises_mono {l : List ByteArray} {n i j : Nat} (h : risesTo l n = true) (hij : i < j) (hj : j < n) : lessS (l.getD i noStr) (l.getD j noStr) = true := by
  have := rises_lt h (j - i - 1) i (by omega)
  rw [show i + (j - i - 1) + 1 = j from by omega] at this
  exact this
theorem rises_key {l : List ByteArray} {n i : Nat} (h : risesTo l n = true) (hi : i < n) : keyB (l.getD i noStr) = true := by
  have := risesTo_at h hi
  simp only [riseAt, Bool.and_eq_true] at this
  exact this.1
end Go.Proofs.YtcldpmkhpmlcbaaGreatDoor
