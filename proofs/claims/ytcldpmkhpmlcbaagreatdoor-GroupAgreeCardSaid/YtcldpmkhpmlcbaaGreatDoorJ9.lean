/- Layer 7's reference Groups; whether keys are few; two lists of ints compared. -/
import Derived.Test.YtcldpmkhpmlcbaaGreatDoorJ8
import Derived.Deep.RegionHeld3
import Derived.Test.YtcldpmkhpmlcbaaGreatDoorJ6
import Derived.Test.YtcldpmkhpmlcbaaGreatDoorRefTxF08
import Derived.Test.YtcldpmkhpmlcbaaGreatDoorJ2
import Derived.Test.YtcldpmkhpmlcbaaGreatDoorJ7
import Derived.Test.YtcldpmkhpmlcbaaGreatDoorJ4
import Derived.Maps.RangeWalk
import Derived.Maps.OwnSet
import Derived.Deep.QuietTactic
import Derived.Test.YtcldpmkhpmlcbaaGreatDoorJ5
import Derived.ArgAppend
import Derived.Deep.Onto
set_option linter.unusedVariables false
set_option linter.unusedSimpArgs false
namespace Go.Proofs.YtcldpmkhpmlcbaaGreatDoor
open Go.RowKit Go.Shelf

end Go.Proofs.YtcldpmkhpmlcbaaGreatDoor
/- Layer 8's cuts, in plain Lean: a group's reads and writes of a transaction, a transaction's groups. -/
namespace Go.Proofs.YtcldpmkhpmlcbaaGreatDoor
open Go.RowKit Go.Shelf

def hereR (c : Cfg) (g : Int) (x : Rd) : Bool := homeZ c x.key == g
def hereW (c : Cfg) (g : Int) (x : Wr) : Bool := homeZ c x.key == g
def pickR (c : Cfg) (t : Tx) (g : Int) (x : Rd) : Bool := formedB c && formedT t && (homeZ c x.key == g)
def pickW (c : Cfg) (t : Tx) (g : Int) (x : Wr) : Bool := formedB c && formedT t && (homeZ c x.key == g)
def readsL (c : Cfg) (t : Tx) (g : Int) : List Rd := t.rds.filter (pickR c t g)
def writesL (c : Cfg) (t : Tx) (g : Int) : List Wr := t.wrs.filter (pickW c t g)
def groupsT (c : Cfg) (t : Tx) : List Int := if formedT t then groupsL c (rKeys t ++ wKeys t) else []
def RdsPost (w : World) (l : List Rd) (e : Ending) (w' : World) : Prop :=
  ∃ (A : Option Addr) (cap : Nat), e = .returned (.slice A l.length cap) ∧ RdsAt w' A l ∧ Below w.heap.size w w' ∧ FreshP w.heap.size A
def WrsPost (w : World) (l : List Wr) (e : Ending) (w' : World) : Prop :=
  ∃ (A : Option Addr) (cap : Nat), e = .returned (.slice A l.length cap) ∧ WrsAt w' A l ∧ Below w.heap.size w w' ∧ FreshP w.heap.size A

/-! ### One step of a filter -/
theorem filter_take {α : Type} (l : List α) (d : α) (p : α → Bool) (k : Nat) (h : k < l.length) : (l.take (k + 1)).filter p = (l.take k).filter p ++ if p (l.getD k d) then [l.getD k d] else [] := by
  rw [List.take_succ_eq_append_getElem h, List.filter_append]
  have : l.getD k d = l[k] := by simp [List.getD_eq_getElem?_getD, h]
  rw [this]
  cases hp : p l[k] <;> simp [List.filter, hp]
theorem filter_take_len {α : Type} (l : List α) (p : α → Bool) (k : Nat) : ((l.take k).filter p).length ≤ k :=
  Nat.le_trans (List.length_filter_le _ _) (by rw [List.length_take]; omega)

/-! ### The groups: those that have any -/
theorem any_filter {α : Type} (l : List α) (p : α → Bool) : decide (0 < (l.filter p).length) = l.any p := by
  induction l with
  | nil => rfl
  | cons x l ih =>
    cases hp : p x <;> simp [List.filter, hp, ← ih]
theorem pickR_formed {c : Cfg} {t : Tx} {g : Int} (hc : formedB c = true) (ht : formedT t = true) : pickR c t g = hereR c g := by
  funext x; simp [pickR, hc, ht, hereR]
theorem pickW_formed {c : Cfg} {t : Tx} {g : Int} (hc : formedB c = true) (ht : formedT t = true) : pickW c t g = hereW c g := by
  funext x; simp [pickW, hc, ht, hereW]
theorem touch_cut (c : Cfg) (t : Tx) (g : Nat) (hc : formedB c = true) (ht : formedT t = true) :
    decide (0 < (readsL c t g).length + (writesL c t g).length) = touchB c (rKeys t ++ wKeys t) g := by
  have h1 := any_filter t.rds (hereR c g)
  have h2 := any_filter t.wrs (hereW c g)
  have : touchB c (rKeys t ++ wKeys t) g = (t.rds.any (hereR c g) || t.wrs.any (hereW c g)) := by
    rw [← touchTo_all, touchTo_take _ _ _ _ (Nat.le_refl _), List.take_length, List.any_append]
    simp only [rKeys, wKeys, List.any_map]
    rfl
  rw [this, ← h1, ← h2]
  simp only [readsL, writesL, pickR_formed hc ht, pickW_formed hc ht]
  rw [Bool.eq_iff_iff]
  simp only [Bool.or_eq_true, decide_eq_true_eq]
  omega
theorem readsL_no {c : Cfg} {t : Tx} (h : (formedB c && formedT t) = false) (g : Int) : readsL c t g = [] ∧ writesL c t g = [] := by
  constructor <;> (simp only [readsL, writesL, List.filter_eq_nil_iff]; intro x _; simp [pickR, pickW, h])
end Go.Proofs.YtcldpmkhpmlcbaaGreatDoor
/- Layer 17 in plain Lean: a group's machine. -/
namespace Go.Proofs.YtcldpmkhpmlcbaaGreatDoor

structure WaitD where
  t : Tx
  gs : List Int
  vs : List (Int × Bool)
structure OutD where
  kind : Int
  dst : Int
  id : IdD
  stamp : Nat
  yes : Bool
deriving DecidableEq
structure MachD where
  q : QD
  s : StD
  wt : List (IdD × WaitD)
  dc : List (IdD × (Bool × Nat))
  st : List (FromD × Nat)
  vo : List (FromD × Bool)
  a : List Nat
def mach0 (g : Int) : MachD := ⟨q0 g, st0, [], [], [], [], [0]⟩
def idT (t : Tx) : IdD := ⟨t.ses, t.seq⟩
def tellL (g : Int) (gs : List Int) (k : Int) (i : IdD) (s : Nat) (y : Bool) : List OutD := (gs.filter fun h => !decide (h = g)).map fun h => ⟨k, h, i, s, y⟩
/-- What a Begin of one that waits tells. -/
def againL (g : Int) (q : QD) (i : IdD) (w : WaitD) : List OutD :=
  tellL g w.gs 2 i (oneQ q i).own false ++ if hasV w.vs g then tellL g w.gs 3 i 0 (votedV w.vs g) else []
def learnStep (i : IdD) (p : QD × List (FromD × Nat)) (h : Int) : QD × List (FromD × Nat) :=
  (match getM p.2 (i, h) with | some s => learnQ p.1 i h s | none => p.1, delM p.2 (i, h))
def voteStep (gs : List Int) (i : IdD) (p : List (Int × Bool) × List (FromD × Bool)) (h : Int) : List (Int × Bool) × List (FromD × Bool) :=
  (match getM p.2 (i, h) with | some y => putV gs p.1 h y | none => p.1, delM p.2 (i, h))
def newM (m : MachD) (t : Tx) (gs : List Int) : MachD :=
  let q1 := gs.foldl (learnStep (idT t)) (beginQ m.q (idT t) gs, m.st)
  let v1 := gs.foldl (voteStep gs (idT t)) ([], m.vo)
  { m with q := q1.1, st := q1.2, vo := v1.2, wt := putM m.wt (idT t) ⟨t, gs, v1.1⟩ }
/-- 0: it isn't of this group; 1: decided; 2: it waits; 3: it may not begin; 4: it begins. -/
def beginW (c : Cfg) (g : Int) (m : MachD) (t : Tx) : Nat :=
  if (groupsT c t).contains g = false then 0 else if (getM m.dc (idT t)).isSome then 1 else if (getM m.wt (idT t)).isSome then 2 else if beginK m.q (idT t) (groupsT c t) ≠ 0 then 3 else 4
def noWait : WaitD := ⟨⟨0, 0, [], []⟩, [], []⟩
instance : Inhabited WaitD := ⟨noWait⟩
def waitOf (m : MachD) (i : IdD) : WaitD := (getM m.wt i).getD noWait
def decOf (m : MachD) (i : IdD) : Bool × Nat := (getM m.dc i).getD (false, 0)
def beginM (c : Cfg) (g : Int) (m : MachD) (t : Tx) : MachD := if beginW c g m t = 4 then newM m t (groupsT c t) else m
def beginO (c : Cfg) (g : Int) (m : MachD) (t : Tx) : List OutD :=
  match beginW c g m t with
  | 1 => [⟨4, -1, idT t, (decOf m (idT t)).2, (decOf m (idT t)).1⟩]
  | 2 => againL g m.q (idT t) (waitOf m (idT t))
  | 4 => againL g (beginQ m.q (idT t) (groupsT c t)) (idT t) ⟨t, groupsT c t, []⟩
  | _ => []
/-- A Stamp or a Vote. -/
def heardM (g : Int) (m : MachD) (k : Int) (i : IdD) (h : Int) (s : Nat) (y : Bool) : MachD :=
  if (getM m.dc i).isSome || decide (h = g) then m
  else if (getM m.wt i).isSome then
    if k = 2 then { m with q := learnQ m.q i h s } else { m with wt := putM m.wt i { waitOf m i with vs := putV (waitOf m i).gs (waitOf m i).vs h y } }
  else if k = 2 then (if (getM m.st (i, h)).isSome then m else { m with st := putM m.st (i, h) s })
  else (if (getM m.vo (i, h)).isSome then m else { m with vo := putM m.vo (i, h) y })
/-- The votes once this group has voted. -/
def ownVotes (c : Cfg) (g : Int) (m : MachD) (w : WaitD) : List (Int × Bool) := if hasV w.vs g then w.vs else putV w.gs w.vs g (voteB m.s (readsL c w.t g))
def voteO (c : Cfg) (g : Int) (m : MachD) (i : IdD) (w : WaitD) : List OutD := if hasV w.vs g then [] else tellL g w.gs 3 i 0 (voteB m.s (readsL c w.t g))
def votedM (c : Cfg) (g : Int) (m : MachD) (i : IdD) (w : WaitD) : MachD := { m with wt := putM m.wt i { w with vs := ownVotes c g m w } }
/-- What is written is there, at its stamp. -/
def writeM (m : MachD) (final : Nat) (ws : List Wr) : MachD :=
  let n := m.s.last + 1
  let s1 := applyS m.s n ws
  let a1 := m.a ++ [final]
  if 8 < n ∧ s1.low < n - 8 then { m with s := colS s1 (n - 8), a := a1.drop (n - 8 - s1.low) } else { m with s := s1, a := a1 }
def doneM (m : MachD) (i : IdD) (yes : Bool) (final : Nat) : MachD := { m with q := doneQ m.q, wt := delM m.wt i, dc := putM m.dc i (yes, final) }
/-- One turn of advance: does it go on, the machine, what it tells. -/
def turnM (c : Cfg) (g : Int) (m : MachD) : Bool × MachD × List OutD :=
  match nextQ m.q with
  | none => (false, m, [])
  | some (i, final) =>
    let w := waitOf m i
    let vs := ownVotes c g m w
    if outKnown w.gs.length vs then
      let yes := outYes w.gs.length vs
      let m1 := doneM m i yes final
      let ws := writesL c w.t g
      (true, if yes && !ws.isEmpty then writeM m1 final ws else m1, voteO c g m i w ++ [⟨4, -1, i, final, yes⟩])
    else (false, votedM c g m i w, voteO c g m i w)
def advM (c : Cfg) (g : Int) : Nat → MachD → MachD × List OutD
  | 0, m => (m, [])
  | n + 1, m =>
    let r := turnM c g m
    if r.1 then ((advM c g n r.2.1).1, r.2.2 ++ (advM c g n r.2.1).2) else (r.2.1, r.2.2)
end Go.Proofs.YtcldpmkhpmlcbaaGreatDoor
/- What groups' stamps are known, as a map from groups to stamps. -/
namespace Go.Proofs.YtcldpmkhpmlcbaaGreatDoor
open Go.RowKit Go.Shelf Go.Maps

def putU (D : DataW Unit) (v : Int × Nat) : DataW Unit := D.put (.int .i64 v.1) (.lit (.int .u64 (v.2 : Int)))
def putsU (vs : List (Int × Nat)) : DataW Unit := vs.foldl putU (.map [])
def valK (vs : List (Int × Nat)) (g : Int) : Nat := ((vs.find? fun x => decide (x.1 = g)).map (·.2)).getD 0
theorem putsU_snoc (vs : List (Int × Nat)) (g : Int) (y : Nat) : putsU (vs ++ [(g, y)]) = (putsU vs).put (.int .i64 g) (.lit (.int .u64 (y : Int))) := by
  simp [putsU, putU, List.foldl_append]
theorem hasK_iff {vs : List (Int × Nat)} {g : Int} : hasK vs g = true ↔ g ∈ vs.map (·.1) := by
  simp [hasK]
theorem hasK_cons_ne {v : Int × Nat} {vs : List (Int × Nat)} {g : Int} (e : v.1 ≠ g) : hasK (v :: vs) g = hasK vs g := by
  simp [hasK, e]
theorem has_foldU (g : Int) : ∀ (vs : List (Int × Nat)) (D : DataW Unit), IsMap D → Maps.has (vs.foldl putU D) (.int .i64 g) = (Maps.has D (.int .i64 g) || hasK vs g)
  | [], D, _ => by simp [hasK]
  | v :: vs, D, hD => by
    rw [List.foldl_cons, has_foldU g vs (putU D v) (hD.put _ _)]
    by_cases e : v.1 = g
    · have : Maps.has (putU D v) (.int .i64 g) = true := by rw [putU, e]; exact has_put_same (k := .int .i64 g) hD trivial _
      rw [this]
      simp [hasK, e]
    · have : Maps.has (putU D v) (.int .i64 g) = Maps.has D (.int .i64 g) := has_put_other (fun h => e (by injection h with _ h; exact h.symm)) _
      rw [this, hasK_cons_ne e]
theorem has_putsU (vs : List (Int × Nat)) (g : Int) : Maps.has (putsU vs) (.int .i64 g) = hasK vs g := by
  rw [putsU, has_foldU g vs _ isMap_empty]; simp [Maps.has]
theorem valK_of_mem {vs : List (Int × Nat)} (hn : (vs.map (·.1)).Nodup) {v : Int × Nat} (hv : v ∈ vs) : valK vs v.1 = v.2 := by
  induction vs with
  | nil => cases hv
  | cons x vs ih =>
    simp only [List.map_cons, List.nodup_cons] at hn
    rcases List.mem_cons.1 hv with rfl | hv
    · simp [valK]
    · have e : x.1 ≠ v.1 := fun e => hn.1 (e ▸ List.mem_map.2 ⟨v, hv, rfl⟩)
      have := ih hn.2 hv
      simp only [valK, List.find?_cons, e, decide_false] at this ⊢
      exact this
theorem at_foldU (g : Int) (z : DataW Unit) : ∀ (vs : List (Int × Nat)) (D : DataW Unit), IsMap D → (vs.map (·.1)).Nodup → (vs.foldl putU D).atKey (.int .i64 g) z = if hasK vs g then .lit (.int .u64 (valK vs g : Int)) else D.atKey (.int .i64 g) z
  | [], D, _, _ => by simp [hasK]
  | v :: vs, D, hD, hn => by
    simp only [List.map_cons, List.nodup_cons] at hn
    rw [List.foldl_cons, at_foldU g z vs (putU D v) (hD.put _ _) hn.2]
    by_cases e : v.1 = g
    · have h1 : hasK vs g = false := by
        cases h : hasK vs g
        · rfl
        · exact absurd (e ▸ hasK_iff.1 h) hn.1
      have h2 : (putU D v).atKey (.int .i64 g) z = .lit (.int .u64 (v.2 : Int)) := by rw [putU, e]; exact atKey_put_same (k := .int .i64 g) hD trivial _ _
      rw [h1, h2]
      simp [hasK, valK, e]
    · have h2 : (putU D v).atKey (.int .i64 g) z = D.atKey (.int .i64 g) z := atKey_put_other (fun h => e (by injection h with _ h; exact h.symm)) _ _
      have e2 : valK (v :: vs) g = valK vs g := by simp only [valK, List.find?_cons, e, decide_false]
      rw [h2, hasK_cons_ne e, e2]
theorem at_putsU {vs : List (Int × Nat)} (hn : (vs.map (·.1)).Nodup) (g : Int) (z : DataW Unit) : (putsU vs).atKey (.int .i64 g) z = if hasK vs g then .lit (.int .u64 (valK vs g : Int)) else z := by
  rw [putsU, at_foldU g z vs _ isMap_empty hn]
  simp [DataW.atKey]
theorem valK_no {vs : List (Int × Nat)} {g : Int} (h : hasK vs g = false) : valK vs g = 0 := by
  have : vs.find? (fun x => decide (x.1 = g)) = none := by
    rw [List.find?_eq_none]
    intro x hx hc
    rw [hasK, List.any_eq_false] at h
    exact h x hx hc
  simp [valK, this]
/-- 'm[g]': the stamp, or none. -/
theorem look_putsU {vs : List (Int × Nat)} (hn : (vs.map (·.1)).Nodup) (g : Int) (c : Int) (h : (putsU vs).atKey (.int .i64 g) (.lit (.int .u64 0)) = .lit (.int .u64 c)) : c = (valK vs g : Int) := by
  rw [at_putsU hn] at h
  cases hh : hasK vs g
  · rw [hh, if_neg (by decide)] at h
    injection h with h
    injection h with _ h
    rw [← h, valK_no hh]; rfl
  · rw [hh, if_pos rfl] at h
    injection h with h
    injection h with _ h
    exact h.symm
theorem size_foldU : ∀ (vs : List (Int × Nat)) (D : DataW Unit), Tidy D → (vs.map (·.1)).Nodup → (∀ v ∈ vs, Maps.has D (.int .i64 v.1) = false) → Maps.size (vs.foldl putU D) = Maps.size D + vs.length
  | [], D, _, _, _ => by simp
  | v :: vs, D, hD, hn, hh => by
    simp only [List.map_cons, List.nodup_cons] at hn
    rw [List.foldl_cons, size_foldU vs (putU D v) (hD.put (k := .int .i64 v.1) trivial _) hn.2 (fun u hu => by
      have hne : (Lit.int .i64 u.1) ≠ .int .i64 v.1 := fun h => hn.1 (by injection h with _ h; exact List.mem_map.2 ⟨u, hu, h⟩)
      rw [putU, has_put_other hne]
      exact hh u (List.mem_cons_of_mem _ hu))]
    have h0 := hh v List.mem_cons_self
    have h1 : Maps.size (putU D v) = Maps.size D + 1 := by rw [putU, size_put hD, h0]; rfl
    rw [h1, List.length_cons]
    omega
theorem size_putsU {vs : List (Int × Nat)} (hn : (vs.map (·.1)).Nodup) : Maps.size (putsU vs) = vs.length := by
  rw [putsU, size_foldU vs _ tidy_empty hn (fun v _ => by simp [Maps.has])]
  simp [Maps.size]
theorem entryU {vs : List (Int × Nat)} (hn : (vs.map (·.1)).Nodup) {x : Int} {c : Int} (h : ∀ zd, (putsU vs).atKey (.int .i64 x) zd = .lit (.int .u64 c)) : ∃ v ∈ vs, v.1 = x ∧ (v.2 : Int) = c := by
  have h1 := h .nil
  rw [at_putsU hn] at h1
  cases hh : hasK vs x
  · rw [hh, if_neg (by decide)] at h1
    cases h1
  · obtain ⟨v, hv, rfl⟩ := List.mem_map.1 (hasK_iff.1 hh)
    rw [hh, if_pos rfl] at h1
    injection h1 with h1
    injection h1 with _ h1
    exact ⟨v, hv, rfl, by rw [← valK_of_mem hn hv]; exact h1⟩
/-- The greatest so far. -/
structure TopTo (vs : List (Int × Nat)) (own : Nat) (left : Lit → Bool) (s : Nat) : Prop where
  lo : own ≤ s
  hi : s ≤ topK vs own
  gone : ∀ v ∈ vs, left (.int .i64 v.1) = false → v.2 ≤ s
theorem TopTo.start (vs : List (Int × Nat)) (own : Nat) : TopTo vs own (Maps.has (putsU vs)) own := ⟨Nat.le_refl _, topK_le, fun v hv h => by
  rw [has_putsU, hasK_iff.2 (List.mem_map.2 ⟨v, hv, rfl⟩)] at h
  cases h⟩
theorem mem_topK {vs : List (Int × Nat)} {v : Int × Nat} (hv : v ∈ vs) : ∀ own, v.2 ≤ topK vs own := by
  induction vs with
  | nil => cases hv
  | cons x vs ih =>
    intro own
    rcases List.mem_cons.1 hv with rfl | hv
    · exact Nat.le_trans (Nat.le_max_right own v.2) topK_le
    · exact ih hv _
theorem TopTo.step {vs : List (Int × Nat)} (hn : (vs.map (·.1)).Nodup) {own s : Nat} {left : Lit → Bool} (h : TopTo vs own left s) {x : Int} {c : Nat} (hc : ∀ zd, (putsU vs).atKey (.int .i64 x) zd = .lit (.int .u64 (c : Int))) : TopTo vs own (fun z => left z && !z.sameKey (.int .i64 x)) (max s c) := by
  obtain ⟨u, hu, hu1, hu2⟩ := entryU hn hc
  have hu3 : u.2 = c := by omega
  refine ⟨Nat.le_trans h.lo (Nat.le_max_left _ _), Nat.max_le.2 ⟨h.hi, by rw [← hu3]; exact mem_topK hu _⟩, fun v hv hl => ?_⟩
  by_cases e : v.1 = x
  · have h1 := valK_of_mem hn hv
    have h2 := valK_of_mem hn hu
    rw [e, ← hu1, h2] at h1
    omega
  · refine Nat.le_trans (h.gone v hv ?_) (Nat.le_max_left _ _)
    have : (Lit.int .i64 v.1).sameKey (.int .i64 x) = false := sameKey_ne (fun h => e (by injection h))
    simpa [this] using hl
theorem TopTo.end {vs : List (Int × Nat)} {own s : Nat} {left : Lit → Bool} (h : TopTo vs own left s) (hl : ∀ kl, left kl = false) : s = topK vs own :=
  Nat.le_antisymm h.hi (topK_bound h.lo fun v hv => h.gone v hv (hl _))
end Go.Proofs.YtcldpmkhpmlcbaaGreatDoor
/- How a queue lies in memory; a one's stamp. -/
namespace Go.Proofs.YtcldpmkhpmlcbaaGreatDoor
open Go.RowKit Go.Shelf Go.Maps

def uMap (w : World) (b : Nat) (vs : List (Int × Nat)) : Prop := w.ownsMap Tryz.prog 3 (plainElem (H := Unit) Tryz.prog 39) b vs.length (putsU vs)
theorem keyI15 : Keyed Tryz.prog 3 := int_keyed Tryz.underlying3
structure OneIn (w : World) (B p mb : Nat) (gv : Value) (o : OneD) : Prop where
  blk : w.heap[p]? = some (.cells #[.int .i64 o.id.ses, .int .i64 o.id.seq, gv, .int .u64 (o.own : Int), .map (some mb), .bool o.final] 200 (0, 0))
  gr : w.ownsRow B 3 1 gv o.gs.length (o.gs.map (Value.int .i64))
  kn : uMap w mb o.known
theorem OneIn.cs {w : World} {B p mb : Nat} {gv : Value} {o : OneD} (h : OneIn w B p mb gv o) :
    w.cell? ⟨p, 0, none⟩ = some (.int .i64 o.id.ses) ∧ w.cell? ⟨p, 1, none⟩ = some (.int .i64 o.id.seq) ∧ w.cell? ⟨p, 2, none⟩ = some gv ∧ w.cell? ⟨p, 3, none⟩ = some (.int .u64 (o.own : Int)) ∧ w.cell? ⟨p, 4, none⟩ = some (.map (some mb)) ∧ w.cell? ⟨p, 5, none⟩ = some (.bool o.final) := by
  refine ⟨?_, ?_, ?_, ?_, ?_, ?_⟩ <;> (rw [cell_of_row w p _ _ _ _ h.blk]; rfl)
theorem OneIn.fz {w : World} {B p mb : Nat} {gv : Value} {o : OneD} (h : OneIn w B p mb gv o) (j : Nat) : w.frozen? ⟨p, j, none⟩ = false := frozen_of_row w p j _ _ h.blk
theorem OneIn.out {w w' : World} {B p mb : Nat} {gv : Value} {o : OneD} {O : Nat → Prop} (h : OneIn w B p mb gv o) (ho : Out O w w') (hp : ¬ O p) (hm : ¬ O mb) (hg : ∀ g, gv.ownBlock = some g → ¬ O g) : OneIn w' B p mb gv o :=
  ⟨ho.obj h.blk hp, ho.row h.gr hg, ho.map h.kn hm⟩
theorem OneIn.later {w w' : World} {B p mb : Nat} {gv : Value} {o : OneD} (h : OneIn w B p mb gv o) (hb : Below w.heap.size w w') : OneIn w' B p mb gv o :=
  h.out (O := fun _ => False) (Out.of_below hb) (fun e => e) (fun e => e) (fun _ _ e => e)
end Go.Proofs.YtcldpmkhpmlcbaaGreatDoor
/- A row of the call's own that may have been cut at its head (s = s[k:]): elements of one cell. No function of the program is named here. -/
namespace Go.Proofs.YtcldpmkhpmlcbaaGreatDoor
open Go.RowKit

def TailRow (w : World) (B : Nat) (e : TypeId) (v : Value) (xs : List Value) : Prop :=
  (v = .slice none 0 0 ∧ xs = []) ∨ ∃ g off cap cur, v = .slice (some ⟨g, off, none⟩) xs.length cap ∧ B ≤ g ∧ w.heap[g]? = some (.cells cur e (0, 0)) ∧ xs.length ≤ cap ∧ cap ≤ maxLen ∧ off + cap ≤ cur.size ∧ (cur.toList.drop off).take xs.length = xs
section
variable {w w' : World} {B : Nat} {e : TypeId} {v : Value} {xs : List Value}
theorem TailRow.of_own {n : Nat} (h : w.ownsRow B e 1 v n xs) : TailRow w B e v xs := by
  have hl : xs.length = n := by simpa using h.1
  rcases h.2 with ⟨rfl, rfl⟩ | ⟨g, cap, cur, rfl, hg, hh, h1, h2, h3, h4⟩
  · exact .inl ⟨rfl, List.eq_nil_of_length_eq_zero hl⟩
  · refine .inr ⟨g, 0, cap, cur, by rw [hl], hg, hh, by omega, h2, by omega, ?_⟩
    rw [hl]; simpa using h4
theorem TailRow.nil (w : World) (B : Nat) (e : TypeId) : TailRow w B e (.slice none 0 0) [] := .inl ⟨rfl, rfl⟩
theorem TailRow.lt (h : TailRow w B e v xs) : ∀ g, v.ownBlock = some g → B ≤ g ∧ g < w.heap.size := by
  rintro g hg
  rcases h with ⟨rfl, _⟩ | ⟨g', off, cap, cur, rfl, h1, h2, _⟩
  · cases hg
  · injection hg with hg
    subst hg
    exact ⟨h1, (Array.getElem?_eq_some_iff.1 h2).1⟩
theorem TailRow.out {O : Nat → Prop} (h : TailRow w B e v xs) (ho : Out O w w') (hg : ∀ g, v.ownBlock = some g → ¬ O g) : TailRow w' B e v xs := by
  rcases h with h | ⟨g, off, cap, cur, rfl, h1, h2, r⟩
  · exact .inl h
  · exact .inr ⟨g, off, cap, cur, rfl, h1, ho.obj h2 (hg g rfl), r⟩
theorem TailRow.later (h : TailRow w B e v xs) (hb : Below w.heap.size w w') : TailRow w' B e v xs := h.out (O := fun _ => False) (Out.of_below hb) (fun _ _ e => e)
theorem TailRow.low {B' : Nat} (h : TailRow w B e v xs) (hb : B' ≤ B) : TailRow w B' e v xs := h.imp id fun ⟨g, off, cap, cur, h1, h2, r⟩ => ⟨g, off, cap, cur, h1, Nat.le_trans hb h2, r⟩
theorem TailRow.ne {p : Nat} {cs : Array Value} {t : TypeId} {f : Nat × Nat} (h : TailRow w B e v xs) (hp : w.heap[p]? = some (.cells cs t f)) (hne : e ≠ t) {g : Nat} (hg : v.ownBlock = some g) : g ≠ p := by
  rcases h with ⟨rfl, _⟩ | ⟨g', off, cap, cur, rfl, h1, h2, _⟩
  · cases hg
  · injection hg with hg
    subst hg
    intro e2
    subst e2
    rw [h2] at hp
    injection hp with hp
    injection hp with _ hp
    exact hne hp
/-- Its value, and what is read. -/
theorem TailRow.at_ (h : TailRow w B e v xs) : ∃ (A : Option Addr) (cap : Nat), v = .slice A xs.length cap ∧ xs.length ≤ cap ∧ (∀ i u, xs[i]? = some u → ∃ g off, A = some ⟨g, off, none⟩ ∧ w.cell? ⟨g, off + i, none⟩ = some u) := by
  rcases h with ⟨rfl, rfl⟩ | ⟨g, off, cap, cur, rfl, h1, h2, h3, h4, h5, h6⟩
  · exact ⟨none, 0, rfl, Nat.le_refl _, fun i u hu => by simp at hu⟩
  · refine ⟨some ⟨g, off, none⟩, cap, rfl, h3, fun i u hu => ⟨g, off, rfl, ?_⟩⟩
    have hi : i < xs.length := (List.getElem?_eq_some_iff.1 hu).1
    rw [← h6, List.getElem?_take_of_lt hi, List.getElem?_drop] at hu
    simp only [World.cell?, h2, Option.isSome_none, Bool.false_eq_true, if_false]
    rw [← Array.getElem?_toList, hu]
theorem TailRow.frozen (h : TailRow w B e v xs) : ∀ g j, v.ownBlock = some g → w.frozen? ⟨g, j, none⟩ = false := by
  intro g j hg
  rcases h with ⟨rfl, _⟩ | ⟨g', off, cap, cur, rfl, h1, h2, _⟩
  · cases hg
  · injection hg with hg
    subst hg
    exact frozen_of_row w g' j _ _ h2
/-- The head goes: 's[k:]'. -/
theorem TailRow.cut (h : TailRow w B e v xs) {A : Option Addr} {n cap k : Nat} (hv : v = .slice A n cap) (hk : k ≤ xs.length) :
    TailRow w B e (.slice (if cap = k then A else A.map (·.add (k * 1))) (n - k) (cap - k)) (xs.drop k) := by
  rcases h with ⟨rfl, rfl⟩ | ⟨g, off, cap', cur, rfl, h1, h2, h3, h4, h5, h6⟩
  · have : k = 0 := by simpa using hk
    subst this
    injection hv with e1 e2 e3
    subst e1 e2 e3
    exact .inl ⟨rfl, rfl⟩
  · injection hv with e1 e2 e3
    subst e1 e2 e3
    have hd : ((cur.toList.drop (off + k)).take (xs.length - k)) = xs.drop k := by
      have h7 := congrArg (List.drop k) h6
      rw [List.drop_take, List.drop_drop] at h7
      exact h7
    by_cases hc : cap' = k
    · have e0 : xs.length = k := by omega
      rw [if_pos hc]
      have : xs.drop k = [] := by rw [← e0]; simp
      rw [this]
      exact .inr ⟨g, off, cap' - k, cur, by simp [e0], h1, h2, by simp, by omega, by omega, by simp⟩
    · rw [if_neg hc]
      refine .inr ⟨g, off + k, cap' - k, cur, ?_, h1, h2, ?_, by omega, by omega, ?_⟩
      · simp [Addr.add_lit]
      · simp; omega
      · simpa using hd
end
section
variable {P : Program}
theorem run_append_room_off (w : World) (t ty e : TypeId) (i : TypeInfo) (ht : P.underlying t = some (.slice e)) (hi : P.info? e = some i)
    (g off sLen sCap : Nat) (cur : Array Value) (hg : w.heap[g]? = some (.cells cur e (0, 0)))
    (a : Addr) (m c : Nat) (news : List Value) (hl : news.length = m * i.size) (hnews : ∀ j u, news[j]? = some u → w.cell? (a.add j) = some u) (h1 : ∀ u ∈ news, u.oneCell' = true)
    (hroom : sLen + m ≤ sCap) (hfit : off + sLen * i.size + news.length ≤ cur.size) :
    (Builtin.append_ #[t, t] ty #[.slice (some ⟨g, off, none⟩) sLen sCap, .slice (some a) m c]).run P w =
      .ok (.slice (some ⟨g, off, none⟩) (sLen + m) sCap) (w.setRow g (cur.toList.take (off + sLen * i.size) ++ news ++ cur.toList.drop (off + sLen * i.size + news.length)).toArray) := by
  have hf := run_firstCells_some (P := P) w i.size m a m c news hl hnews
  have hst := run_storeCells_at P g (off + sLen * i.size) e news 0 cur w hg (by simpa using hfit) h1
  simp only [Nat.add_zero] at hst
  simp [Builtin.append_, run_underlying ht, sizeOf, typeInfo, hi, Builtin.lenOf, hroom, hf, Addr.add_lit, hst]
theorem grown_any {w w' : World} (h : w.grownBy w' none) (r : Option Nat) : w.grownBy w' r := ⟨h.os, h.tape, h.output, h.size, fun k hk _ => h.block k hk (by simp)⟩
theorem run_append_tail {w : World} {B : Nat} {e : TypeId} {v : Value} {xs : List Value} (t ty : TypeId) (i : TypeInfo) (z : Value) (bytes : Nat) (ht : P.underlying t = some (.slice e)) (hi : P.info? e = some i) (hz : i.zero = some z)
    (hsize : i.size = 1) (hby : i.bytes = bytes) (hzs : z.cells.size = 1) (h : TailRow w B e v xs) (a : Addr) (c : Nat) (u : Value) (hnews : ∀ j x, [u][j]? = some x → w.cell? (a.add j) = some x) (h1 : ∀ x ∈ [u], x.oneCell' = true)
    (h63 : xs.length + 1 ≤ maxLen) (hbytes : (xs.length + 1) * bytes ≤ 140737488355328) (hB : B ≤ w.heap.size) :
    ∃ v' w', (Builtin.append_ #[t, t] ty #[v, .slice (some a) 1 c]).run P w = .ok v' w' ∧ TailRow w' B e v' (xs ++ [u]) ∧ w.grownBy w' v.ownBlock ∧ (v'.ownBlock = v.ownBlock ∨ ∀ g, v'.ownBlock = some g → w.heap.size ≤ g) := by
  rcases h with ⟨rfl, rfl⟩ | ⟨g, off, cap, cur, rfl, hg, hh, h2, h3, h4, h5⟩
  · obtain ⟨v', w', hr, ho, hgr, _, h6⟩ := run_append_own_at (P := P) w B t ty e i z 1 bytes ht hi hz hsize hby hzs (by decide) (.slice none 0 0) 0 [] (own_nil w B 1 e) a 1 c [u] rfl hnews h1 h63 hbytes hB
    refine ⟨v', w', hr, TailRow.of_own ho, hgr, ?_⟩
    rcases h6 with h6 | h6
    · exact .inl h6
    · exact .inr fun g hg => by rw [h6] at hg; cases hg; exact Nat.le_refl _
  · by_cases hroom : xs.length + 1 ≤ cap
    · have hr := run_append_room_off (P := P) w t ty e i ht hi g off xs.length cap cur hh a 1 c [u] (by rw [hsize]; rfl) hnews h1 hroom (by rw [hsize]; simp; omega)
      refine ⟨_, _, hr, .inr ⟨g, off, cap, _, by rw [List.length_append]; rfl, hg, setRow_heap w g cur _ e _ hh, by simpa using hroom, h3, ?_, ?_⟩, ⟨rfl, rfl, rfl, by simp [World.setRow], fun k _ hk => setRow_other w g k _ (fun e => hk (by simp [Value.ownBlock, e]))⟩, .inl rfl⟩
      · simp [hsize]; omega
      · rw [hsize, Nat.mul_one, List.toList_toArray, List.append_assoc, List.drop_append_of_le_length (by simp; omega), List.drop_take, Nat.add_sub_cancel_left, h5]
        rw [List.length_append, ← List.append_assoc, List.take_append_of_le_length (by simp)]
        exact List.take_of_length_le (by simp)
    · have hlo : xs.length = xs.length * 1 := by omega
      obtain ⟨v', w', hr, ho, hgr⟩ := run_append_arg_grows (P := P) w t ty e i z 1 bytes ht hi hz hsize hby hzs (by decide) ⟨g, off, none⟩ xs.length cap xs hlo (fun j x hx => by
        have hj : j < xs.length := (List.getElem?_eq_some_iff.1 hx).1
        rw [← h5, List.getElem?_take_of_lt hj, List.getElem?_drop] at hx
        rw [Go.WideShapes.add_plain]
        simp only [World.cell?, hh, Option.isSome_none, Bool.false_eq_true, if_false]
        rw [← Array.getElem?_toList, hx]) a 1 c [u] rfl hnews (by omega) h63 hbytes
      exact ⟨v', w', hr, TailRow.of_own (World.ownsRow.mono ho hB), grown_any hgr _, .inr fun g' hg' => (ho.lt g' hg').1⟩
theorem tail_form {w : World} {B : Nat} {e : TypeId} {v : Value} {xs : List Value} (h : TailRow w B e v xs) : ∃ A c, v = .slice A xs.length c := by
  obtain ⟨A, c, h, _⟩ := h.at_
  exact ⟨A, c, h⟩
theorem wpList_append_tail {w : World} {ops : Array Oper} {rest : List Oper} {o : Oper} {a : Act} {Q : Exit → Act → World → Prop} (hgd : o.guard = none) (s x : Operand) (t : TypeId)
    (ho : o.op = .call { callee := .builtin .append, args := #[s, x], argTypes := #[t, t] })
    (B : Nat) (e : TypeId) (i : TypeInfo) (z : Value) (bytes : Nat) (ht : P.underlying t = some (.slice e)) (hi : P.info? e = some i) (hz : i.zero = some z)
    (hsize : i.size = 1) (hby : i.bytes = bytes) (hzs : z.cells.size = 1) (v : Value) (xs : List Value) (hs : a.eval s = v) (h : TailRow w B e v xs)
    (ad : Addr) (c : Nat) (u : Value) (hx : a.eval x = .slice (some ad) 1 c) (hnews : ∀ j x, [u][j]? = some x → w.cell? (ad.add j) = some x) (h1 : ∀ x ∈ [u], x.oneCell' = true)
    (h63 : xs.length + 1 ≤ maxLen) (hbytes : (xs.length + 1) * bytes ≤ 140737488355328) (hB : B ≤ w.heap.size)
    (hK : ∀ v' w', TailRow w' B e v' (xs ++ [u]) → w.grownBy w' v.ownBlock → (v'.ownBlock = v.ownBlock ∨ ∀ g, v'.ownBlock = some g → w.heap.size ≤ g) → wpList P ops Q rest (a.put o.dst v') w') : wpList P ops Q (o :: rest) a w := by
  obtain ⟨v', w', hr, h2, h3, h5⟩ := run_append_tail (P := P) t o.type i z bytes ht hi hz hsize hby hzs h ad c u hnews h1 h63 hbytes hB
  refine wpList_plain hgd fun K hK2 => ?_
  unfold Oper.wp
  simp [execOp, ho, resolve, invoke, builtin, hs, hx, hr, Result.andThen]
  exact hK2 _ _ (hK v' w' h2 h3 h5)
end
end Go.Proofs.YtcldpmkhpmlcbaaGreatDoor
/- How a group's queue lies in memory: one block, a row of pointers, each one's blocks. -/
namespace Go.Proofs.YtcldpmkhpmlcbaaGreatDoor
open Go.RowKit Go.Shelf Go.Maps

/-- A one with its blocks: its own, its map's, its row of groups. -/
structure EntD where
  p : Nat
  mb : Nat
  gv : Value
  o : OneD
instance : Inhabited EntD := ⟨⟨0, 0, .slice none 0 0, noOne⟩⟩
def EntD.ptr (e : EntD) : Value := .pointer (some ⟨e.p, 0, none⟩)
structure QIn (w : World) (B p : Nat) (x : QD) (v : Value) (es : List EntD) (O : Nat → Prop) : Prop where
  blk : w.heap[p]? = some (.cells #[.int .i64 x.g, .int .u64 (x.clock : Int), v] 166 (0, 0))
  row : TailRow w B 191 v (es.map EntD.ptr)
  eq : es.map EntD.o = x.l
  one : ∀ e ∈ es, OneIn w B e.p e.mb e.gv e.o
  np : (es.map EntD.p).Nodup
  nm : (es.map EntD.mb).Nodup
  hp : O p
  mv : ∀ g, v.ownBlock = some g → O g
  me : ∀ e ∈ es, O e.p ∧ O e.mb ∧ ∀ g, e.gv.ownBlock = some g → O g
  lt : ∀ k, O k → B ≤ k ∧ k < w.heap.size
def QAt (w : World) (B p : Nat) (x : QD) (O : Nat → Prop) : Prop := ∃ v es, QIn w B p x v es O
section
variable {w w' : World} {B p : Nat} {x : QD} {v : Value} {es : List EntD} {O O' : Nat → Prop}
theorem QIn.cs (h : QIn w B p x v es O) : w.cell? ⟨p, 0, none⟩ = some (.int .i64 x.g) ∧ w.cell? ⟨p, 1, none⟩ = some (.int .u64 (x.clock : Int)) ∧ w.cell? ⟨p, 2, none⟩ = some v := by
  refine ⟨?_, ?_, ?_⟩ <;> (rw [cell_of_row w p _ _ _ _ h.blk]; rfl)
theorem QIn.fz (h : QIn w B p x v es O) (j : Nat) : w.frozen? ⟨p, j, none⟩ = false := frozen_of_row w p j _ _ h.blk
theorem QIn.out (h : QIn w B p x v es O) (ho : Out O' w w') (hd : ∀ k, O k → ¬ O' k) : QIn w' B p x v es O :=
  { h with blk := ho.obj h.blk (hd _ h.hp), row := h.row.out ho (fun g hg => hd g (h.mv g hg)), one := fun e he => (h.one e he).out ho (hd _ (h.me e he).1) (hd _ (h.me e he).2.1) (fun g hg => hd g ((h.me e he).2.2 g hg)), lt := fun k hk => ⟨(h.lt k hk).1, Nat.lt_of_lt_of_le (h.lt k hk).2 ho.size⟩ }
theorem QIn.later (h : QIn w B p x v es O) (hb : Below w.heap.size w w') : QIn w' B p x v es O := h.out (O' := fun _ => False) (Out.of_below hb) (fun _ _ e => e)
theorem QIn.mono (h : QIn w B p x v es O) (hs : ∀ k, O k → O' k) (hl : ∀ k, O' k → B ≤ k ∧ k < w.heap.size) : QIn w B p x v es O' :=
  { h with hp := hs _ h.hp, mv := fun g hg => hs g (h.mv g hg), me := fun e he => ⟨hs _ (h.me e he).1, hs _ (h.me e he).2.1, fun g hg => hs g ((h.me e he).2.2 g hg)⟩, lt := hl }
theorem QIn.hB (h : QIn w B p x v es O) : B ≤ w.heap.size := Nat.le_of_lt (Nat.lt_of_le_of_lt (h.lt p h.hp).1 (h.lt p h.hp).2)
theorem QIn.widen (h : QIn w' B p x v es O) (hl : ∀ k, O k → k < w.heap.size) (hB : B ≤ w.heap.size) : QIn w' B p x v es (ext O w w') :=
  h.mono (fun k hk => .inl hk) (fun k hk => Or.elim hk (h.lt k) (fun e => ⟨by omega, e.2⟩))
theorem QAt.out (h : QAt w B p x O) (ho : Out O' w w') (hd : ∀ k, O k → ¬ O' k) : QAt w' B p x O := by
  obtain ⟨v, es, h⟩ := h
  exact ⟨v, es, h.out ho hd⟩
theorem QAt.later (h : QAt w B p x O) (hb : Below w.heap.size w w') : QAt w' B p x O := h.out (O' := fun _ => False) (Out.of_below hb) (fun _ _ e => e)
theorem QAt.hB (h : QAt w B p x O) : B ≤ w.heap.size := by
  obtain ⟨v, es, h⟩ := h
  exact h.hB
theorem QAt.stay (h : QAt w B p x O) (hb : Below w.heap.size w w') : QAt w' B p x (ext O w w') := by
  obtain ⟨v, es, h⟩ := h
  exact ⟨v, es, (h.later hb).widen (fun k hk => (h.lt k hk).2) h.hB⟩
/-- The row of pointers, as it is read. -/
theorem QIn.at_ (h : QIn w B p x v es O) : ∃ (A : Option Addr) (cap : Nat), v = .slice A es.length cap ∧ es.length ≤ cap ∧ (∀ i, i < es.length → ∃ g off, A = some ⟨g, off, none⟩ ∧ w.cell? ⟨g, off + i, none⟩ = some (es.getD i default).ptr) := by
  obtain ⟨A, cap, hv, hc, hr⟩ := h.row.at_
  rw [List.length_map] at hv hc
  refine ⟨A, cap, hv, hc, fun i hi => hr i _ ?_⟩
  rw [List.getElem?_map, List.getElem?_eq_getElem hi, List.getD_eq_getElem?_getD, List.getElem?_eq_getElem hi]
  rfl
theorem ent_mem {es : List EntD} {i : Nat} (hi : i < es.length) : es.getD i default ∈ es := by
  rw [List.getD_eq_getElem?_getD, List.getElem?_eq_getElem hi]
  exact List.getElem_mem hi
theorem QIn.at_o (h : QIn w B p x v es O) {i : Nat} (hi : i < es.length) : (es.getD i default).o = x.l.getD i noOne := by
  rw [← h.eq, List.getD_eq_getElem?_getD, List.getD_eq_getElem?_getD, List.getElem?_map, List.getElem?_eq_getElem hi]
  rfl
theorem QIn.len (h : QIn w B p x v es O) : es.length = x.l.length := by rw [← h.eq, List.length_map]
/-- Blocks of different types are different. -/
theorem blk_ne {w : World} {a b : Nat} {o o' : Obj} (h : w.heap[a]? = some o) (h' : w.heap[b]? = some o') (hne : o ≠ o') : a ≠ b := fun e => by
  subst e
  rw [h] at h'
  injection h' with h'
  exact hne h'
theorem cells_ne {a b : Array Value} {s t : TypeId} {f g : Nat × Nat} (h : s ≠ t) : (Obj.cells a s f) ≠ Obj.cells b t g := fun e => by
  injection e with _ e
  exact h e
theorem row_ne {w : World} {B n k g : Nat} {e t : TypeId} {v : Value} {xs : List Value} {cs : Array Value} {f : Nat × Nat} {p : Nat} (h : w.ownsRow B e k v n xs) (hp : w.heap[p]? = some (.cells cs t f)) (hne : e ≠ t) (hg : v.ownBlock = some g) : g ≠ p := by
  rcases h.2 with ⟨rfl, _⟩ | ⟨g', cap, cur, rfl, _, hh, _⟩
  · cases hg
  · injection hg with hg
    subst hg
    exact blk_ne hh hp (cells_ne hne)
theorem map_ne {w : World} {b p : Nat} {vs : List (Int × Nat)} {cs : Array Value} {t : TypeId} {f : Nat × Nat} (h : uMap w b vs) (hp : w.heap[p]? = some (.cells cs t f)) : b ≠ p := by
  obtain ⟨es, clock, hb, _⟩ := h
  exact blk_ne hb hp (fun e => by cases e)
/-- The queue's own block is written. -/
theorem QIn.setB (h : QIn w B p x v es O) (j : Nat) (u : Value) {x' : QD} {v' : Value} (hc : (#[.int .i64 x.g, .int .u64 (x.clock : Int), v] : Array Value).setIfInBounds j u = #[.int .i64 x'.g, .int .u64 (x'.clock : Int), v'])
    (hx : x'.l = x.l) (hr : TailRow w B 191 v' (es.map EntD.ptr)) (hv : ∀ g, v'.ownBlock = some g → O g) : QIn (w.setCell ⟨p, j, none⟩ u) B p x' v' es O := by
  have ho := out_setc w p j u
  have hb := blk_setc (j := j) u h.blk
  rw [hc] at hb
  exact { blk := hb, row := hr.out ho (fun g hg e => hr.ne h.blk (by decide) hg e), eq := by rw [hx]; exact h.eq, one := fun e he => (h.one e he).out ho (fun e2 => blk_ne (h.one e he).blk h.blk (cells_ne (by decide)) e2) (fun e2 => map_ne (h.one e he).kn h.blk e2) (fun g hg e2 => row_ne (h.one e he).gr h.blk (by decide) hg e2), np := h.np, nm := h.nm, hp := h.hp, mv := hv, me := h.me, lt := fun k hk => ⟨(h.lt k hk).1, Nat.lt_of_lt_of_le (h.lt k hk).2 ho.size⟩ }
end
end Go.Proofs.YtcldpmkhpmlcbaaGreatDoor
