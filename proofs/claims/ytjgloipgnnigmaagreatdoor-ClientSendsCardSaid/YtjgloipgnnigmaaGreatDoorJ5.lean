/- Layer 7's reference Groups; whether keys are few; two lists of ints compared. -/
import Derived.Test.YtjgloipgnnigmaaGreatDoorJ4
import Derived.Deep.RegionHeld3
import Derived.Test.YtjgloipgnnigmaaGreatDoorTxF08
import Derived.Test.YtjgloipgnnigmaaGreatDoorRefTxF08
import Derived.Test.YtjgloipgnnigmaaGreatDoorJ1
import Derived.Test.YtjgloipgnnigmaaGreatDoorJ2
import Derived.Maps.Own
import Derived.Laws.Rows
import Derived.Laws.Tables
import Derived.BigFrame
set_option linter.unusedVariables false
set_option linter.unusedSimpArgs false
namespace Go.Proofs.YtjgloipgnnigmaaGreatDoor
open Go.RowKit Go.Shelf

set_option maxRecDepth 100000 in
set_option maxHeartbeats 4000000 in
theorem refGroups_any (c : Cfg) (keys : List ByteArray) (A B K : Option Addr) (ca cb ck : Nat) (w : World) (h : CfgAt w c A B) (hK : StrsAt w K keys) (hlen : keys.length ≤ 1000) :
    Calls Tryz.prog 114 #[.agg #[.slice A c.reps.length ca, .slice B c.bnds.length cb], .slice K keys.length ck] w (IntsPost w (groupsL c keys)) := by
  obtain ⟨W, eW, HB, c0, c1⟩ := box2 w (.slice A c.reps.length ca) (.slice B c.bnds.length cb) 25
  have h := h.later HB
  have hK := CellsAt.later hK HB
  have hnn := h.hn
  cases hf : formedB c
  · have HE : Hid (groupsL c keys = []) := by show _ = _; simp [groupsL, hf]
    go_enter Tryz.func114, Tryz.ntmps114
    go_wp2_with fail
    clear eW
    refine wp_loop_rounds 1 ?_
    rw [rounds_succ]
    by_cases h0 : 0 < c.reps.length
    · go_wp2_with (go_at_call 21; refine (refFormed_any c A B ca cb _ h).mono ?_; rintro e w1 ⟨rfl, hb⟩; replace HB := keepB HB hb)
      go_ret
      rw [HE.out]
      exact ⟨none, 0, rfl, fun i hi => by simp at hi, HB⟩
    · have h1 : c.reps.length = 0 := by omega
      go_wp2
      go_ret
      rw [HE.out]
      exact ⟨none, 0, rfl, fun i hi => by simp at hi, HB⟩
  · have HE : Hid (groupsL c keys = groupsTo c keys c.reps.length) := by show _ = _; simp [groupsL, hf]
    have hn := (formed_len hf).2.1
    have HLN : Hid (∀ k, (groupsTo c keys k).length ≤ k) := groupsTo_length c keys
    have HTA : Hid (∀ g, touchTo c keys g keys.length = touchB c keys g) := touchTo_all c keys
    obtain ⟨i0, hi, hz0, hz1, hz2⟩ := info_parts info_int
    go_enter Tryz.func114, Tryz.ntmps114
    go_wp2_with fail
    clear eW
    go_loopw [5, 6] (fun v i wr => ∃ k : Nat, k ≤ c.reps.length ∧ i = .int .i64 k ∧ Hid (wr.ownsRow W.heap.size 3 1 v (groupsTo c keys k).length ((groupsTo c keys k).map (Value.int .i64))) ∧ Below W.heap.size W wr) (fun _ i _ => c.reps.length - (intOf i).toNat)
    case atStart => exact ⟨0, Nat.zero_le _, rfl, own_nil _ _ _ _, Below.refl _ _⟩
    case round =>
      obtain ⟨k, hk, rfl, HO, hw⟩ := hrel
      have hc0 := keep hw c0
      have hc1 := keep hw c1
      have hl := HLN.out k
      by_cases hlt : k < c.reps.length
      · have hr := h.later hw
        have hf' := Lib.hid hf
        go_wp2_with (go_at_call 21; refine (refFormed_any c A B ca cb _ hr).mono ?_; rintro e w1 ⟨rfl, hb⟩; replace hc0 := keep hb hc0; replace hc1 := keep hb hc1; replace HO := Lib.hid (own_keep HO.out hb); replace hw := keepB hw hb; clear hb hr)
        go_loopw [7, 8] (fun t i wr2 => ∃ j : Nat, j ≤ keys.length ∧ i = .int .i64 j ∧ t = .bool (touchTo c keys k j) ∧ Below w1.heap.size w1 wr2) (fun _ i _ => keys.length - (intOf i).toNat)
        case atStart => exact ⟨0, Nat.zero_le _, rfl, rfl, Below.refl _ _⟩
        case round =>
          obtain ⟨j, hj, rfl, rfl, hw2⟩ := hrel
          obtain ⟨wb, rfl⟩ : ∃ wb : World, wb = wr := ⟨_, rfl⟩
          have hww := keepB hw hw2
          have hr := h.later hww
          have hc0' := keep hw2 hc0
          have hc1' := keep hw2 hc1
          by_cases hlj : j < keys.length
          · obtain ⟨bb, off, x, rfl, hc, HX⟩ := StrsAt.at' (CellsAt.later hK hww) hlj
            obtain ⟨g, hg⟩ : ∃ g, homeZ c x = g := ⟨_, rfl⟩
            have HG := Lib.hid hg
            have HT : Hid (touchTo c keys k (j + 1) = (touchTo c keys k j || g == (k : Int))) := by show _ = _; rw [touchTo, HX.out, hg]
            have hji : (j : Int) < (keys.length : Int) := by omega
            clear hg
            generalize touchTo c keys k j = t at *
            cases t
            · go_wp2
              go_region_held3 (fun w' => w'.cell? ⟨w.heap.size, 0, none⟩ = some (.slice A c.reps.length ca) ∧ w'.cell? ⟨w.heap.size, 1, none⟩ = some (.slice B c.bnds.length cb) ∧ w'.cell? ⟨bb, off + j, none⟩ = some (.string x) ∧ Below wb.heap.size wb w')
              (first | exact ⟨hc0', hc1', hc, below_drew (Below.refl _ _)⟩ | exact ⟨keep hb ‹_ ∧ _ ∧ _ ∧ Below wb.heap.size wb _›.1, keep hb ‹_ ∧ _ ∧ _ ∧ Below wb.heap.size wb _›.2.1, keep hb ‹_ ∧ _ ∧ _ ∧ Below wb.heap.size wb _›.2.2.1, keepB ‹_ ∧ _ ∧ _ ∧ Below wb.heap.size wb _›.2.2.2 hb⟩)
              (first
              | (go_at_call 30; refine (calls_int HG.out (refHome_any c x A B ca cb _ (hr.later ‹_ ∧ _ ∧ _ ∧ Below wb.heap.size wb _›.2.2.2))).mono ?_; rintro e w2 ⟨rfl, hb⟩))
              have HS : Below wb.heap.size wb _ := (‹_ ∧ _ ∧ _ ∧ Below wb.heap.size wb _›).2.2.2
              go_wp2
              go_roundw
              case rel => exact ⟨j + 1, by omega, by go_num, by rw [HT.out]; simp, keepB hw2 HS⟩
              case measure => simp [intOf]; omega
            · go_wp2
              go_quiet (fail)
              go_wp2
              go_roundw
              case rel => exact ⟨j + 1, by omega, by go_num, by rw [HT.out]; simp, below_drewN hw2 _⟩
              case measure => simp [intOf]; omega
          · have ej : j = keys.length := by omega
            have HT : Hid (touchTo c keys k j = touchB c keys k) := by show _ = _; rw [ej]; exact HTA.out k
            have HO2 := Lib.hid (own_keep HO.out hw2)
            have HSU := Lib.hid (groupsTo_succ c keys k)
            cases ht : touchB c keys k
            · have HT2 : Hid (touchTo c keys k j = false) := by show _ = _; rw [HT.out, ht]
              have HG2 : Hid (groupsTo c keys (k + 1) = groupsTo c keys k) := by show _ = _; rw [HSU.out, ht]; simp
              generalize touchTo c keys k j = t at *
              obtain rfl : t = false := HT2.out
              clear ht
              go_wp2
              go_roundw
              case rel => exact ⟨k + 1, by omega, by go_num, by show World.ownsRow _ _ _ _ _ _ _; rw [HG2.out]; exact HO2.out, hww⟩
              case measure => simp [intOf]; omega
            · have HT2 : Hid (touchTo c keys k j = true) := by show _ = _; rw [HT.out, ht]
              have HG2 : Hid (groupsTo c keys (k + 1) = groupsTo c keys k ++ [(k : Int)]) := by show _ = _; rw [HSU.out, ht]; simp
              generalize touchTo c keys k j = t at *
              obtain rfl : t = true := HT2.out
              clear ht
              go_wp2_with (at_builtin; refine wpList_append_own _ rfl _ _ 22 rfl W.heap.size 3 i0 (.int .i64 0) 1 8 Tryz.underlying22 hi hz0 hz1 hz2 rfl (by decide) _ _ _ rfl (own_keep HO2.out (below1 _ _)) ⟨wb.heap.size, 0, none⟩ 1 1 [.int .i64 (k : Int)] rfl rfl (cell_one_new _ _ _) one_cell_int (le_maxLen (by omega)) (by omega) (Nat.le_trans hww.size (below1 _ _).size) ?_; intro v3 w3 HO3 hg3 _; have hw3 := own_below (hww.alloc hww.size _) (Nat.le_refl _) (own_keep HO2.out (below1 _ _)) hg3; replace HO3 := Lib.hid HO3; clear hg3)
              go_roundw
              case rel => exact ⟨k + 1, by omega, by go_num, by show World.ownsRow _ _ _ _ _ _ _; rw [HG2.out, List.map_append, List.length_append]; exact HO3.out, hw3⟩
              case measure => simp [intOf]; omega
      · have HK : Hid (groupsL c keys = groupsTo c keys k) := by show _ = _; rw [HE.out, show k = c.reps.length from by omega]
        clear hl
        generalize groupsTo c keys k = l at *
        go_wp2
        go_ret
        rw [HK.out]
        obtain ⟨A', cap', rfl, _, hI⟩ := own_ints HO.out
        exact ⟨A', cap', rfl, hI, keepB HB hw⟩

/-- few: at most 50, none longer than 1000. -/
def fewKeys (keys : List ByteArray) : Bool := shortTo keys 1000 (min keys.length 60) && decide (keys.length ≤ 50)

end Go.Proofs.YtjgloipgnnigmaaGreatDoor
/- Layer 8's cuts, in plain Lean: a group's reads and writes of a transaction, a transaction's groups. -/
namespace Go.Proofs.YtjgloipgnnigmaaGreatDoor
open Go.RowKit Go.Shelf

def hereR (c : Cfg) (g : Int) (x : Rd) : Bool := homeZ c x.key == g
def hereW (c : Cfg) (g : Int) (x : Wr) : Bool := homeZ c x.key == g
def pickR (c : Cfg) (t : Tx) (g : Int) (x : Rd) : Bool := formedB c && formedT t && (homeZ c x.key == g)
def pickW (c : Cfg) (t : Tx) (g : Int) (x : Wr) : Bool := formedB c && formedT t && (homeZ c x.key == g)
def readsL (c : Cfg) (t : Tx) (g : Int) : List Rd := t.rds.filter (pickR c t g)
def writesL (c : Cfg) (t : Tx) (g : Int) : List Wr := t.wrs.filter (pickW c t g)
def groupsT (c : Cfg) (t : Tx) : List Int := if formedT t then groupsL c (rKeys t ++ wKeys t) else []
def RdsPost (w : World) (l : List Rd) (e : Ending) (w' : World) : Prop :=
  ∃ (A : Option Addr) (cap : Nat), e = .returned (.slice A l.length cap) ∧ RdsAt w' A l ∧ Below w.heap.size w w' ∧ FreshP w.heap.size A
def WrsPost (w : World) (l : List Wr) (e : Ending) (w' : World) : Prop :=
  ∃ (A : Option Addr) (cap : Nat), e = .returned (.slice A l.length cap) ∧ WrsAt w' A l ∧ Below w.heap.size w w' ∧ FreshP w.heap.size A

/-! ### One step of a filter -/
theorem filter_take {α : Type} (l : List α) (d : α) (p : α → Bool) (k : Nat) (h : k < l.length) : (l.take (k + 1)).filter p = (l.take k).filter p ++ if p (l.getD k d) then [l.getD k d] else [] := by
  rw [List.take_succ_eq_append_getElem h, List.filter_append]
  have : l.getD k d = l[k] := by simp [List.getD_eq_getElem?_getD, h]
  rw [this]
  cases hp : p l[k] <;> simp [List.filter, hp]
theorem filter_take_len {α : Type} (l : List α) (p : α → Bool) (k : Nat) : ((l.take k).filter p).length ≤ k :=
  Nat.le_trans (List.length_filter_le _ _) (by rw [List.length_take]; omega)

/-! ### The groups: those that have any -/
theorem any_filter {α : Type} (l : List α) (p : α → Bool) : decide (0 < (l.filter p).length) = l.any p := by
  induction l with
  | nil => rfl
  | cons x l ih =>
    cases hp : p x <;> simp [List.filter, hp, ← ih]
theorem pickR_formed {c : Cfg} {t : Tx} {g : Int} (hc : formedB c = true) (ht : formedT t = true) : pickR c t g = hereR c g := by
  funext x; simp [pickR, hc, ht, hereR]
theorem pickW_formed {c : Cfg} {t : Tx} {g : Int} (hc : formedB c = true) (ht : formedT t = true) : pickW c t g = hereW c g := by
  funext x; simp [pickW, hc, ht, hereW]
theorem touch_cut (c : Cfg) (t : Tx) (g : Nat) (hc : formedB c = true) (ht : formedT t = true) :
    decide (0 < (readsL c t g).length + (writesL c t g).length) = touchB c (rKeys t ++ wKeys t) g := by
  have h1 := any_filter t.rds (hereR c g)
  have h2 := any_filter t.wrs (hereW c g)
  have : touchB c (rKeys t ++ wKeys t) g = (t.rds.any (hereR c g) || t.wrs.any (hereW c g)) := by
    rw [← touchTo_all, touchTo_take _ _ _ _ (Nat.le_refl _), List.take_length, List.any_append]
    simp only [rKeys, wKeys, List.any_map]
    rfl
  rw [this, ← h1, ← h2]
  simp only [readsL, writesL, pickR_formed hc ht, pickW_formed hc ht]
  rw [Bool.eq_iff_iff]
  simp only [Bool.or_eq_true, decide_eq_true_eq]
  omega
theorem readsL_no {c : Cfg} {t : Tx} (h : (formedB c && formedT t) = false) (g : Int) : readsL c t g = [] ∧ writesL c t g = [] := by
  constructor <;> (simp only [readsL, writesL, List.filter_eq_nil_iff]; intro x _; simp [pickR, pickW, h])
end Go.Proofs.YtjgloipgnnigmaaGreatDoor
/- Layer 21's client in plain Lean: what each method makes of a session's state. -/
namespace Go.Proofs.YtjgloipgnnigmaaGreatDoor
open Go.RowKit

structure AskD where
  n : Nat
  g : Nat
  key : ByteArray
  st : Nat
structure CliD where
  state : Nat
  seq : Nat
  num : Nat
  turn : Nat
  floor : Nat
  rds : List Rd
  wrs : List Wr
  asks : List AskD
  keys : List ByteArray
  stamp : Nat
structure EvD where
  kind : Int
  ids : Int
  idq : Int
  key : ByteArray
  val : Val
  ver : Nat
  yes : Bool
  stamp : Nat
  err : Int
inductive MsgD where
  | safe (n : Nat)
  | read (n : Nat) (key : ByteArray) (st : Nat)
  | submit (t : Tx)
structure SndD where
  dest : Int
  m : MsgD
def noAsk : AskD := ⟨0, 0, noStr, 0⟩
def noVal : Val := ⟨0, 0, noStr⟩
def cli0 : CliD := ⟨0, 0, 0, 0, 0, [], [], [], [], 0⟩
def mostS : Nat := 18446744073709551615

def restD (x : CliD) : CliD := { x with state := 0, rds := [], wrs := [], asks := [], keys := [], stamp := 0 }
def beginD (x : CliD) : CliD := if x.state = 0 ∧ x.seq < 1048576 then { x with seq := x.seq + 1, state := 1 } else x
def beginE (x : CliD) : Int := if x.state = 0 then if x.seq < 1048576 then 0 else 7 else 11
def repN (c : Cfg) (g : Nat) : Nat := (c.reps.getD g 0).toNat
def sentD (c : Cfg) (x : CliD) (a : AskD) : SndD := ⟨placeZ c a.g ((x.turn % repN c a.g : Nat) : Int), if a.key = noStr then .safe a.n else .read a.n a.key a.st⟩
def askD (x : CliD) (g : Nat) (key : ByteArray) (st : Nat) : AskD := ⟨x.num + 1, g, key, st⟩
def wantD (x : CliD) (g : Nat) (key : ByteArray) (st : Nat) : CliD := { x with num := x.num + 1, asks := x.asks ++ [askD x g key st] }
def hasD (x : CliD) (key : ByteArray) : Bool := x.rds.any (fun r => decide (r.key = key)) || x.asks.any (fun a => decide (a.key = key))
/-- Where a key is written, or would be. -/
def lowK (l : List Wr) (key : ByteArray) : Nat := (l.takeWhile fun w => lessS w.key key).length
def atK (l : List Wr) (key : ByteArray) : Bool := decide (lowK l key < l.length) && decide ((l.getD (lowK l key) noWr).key = key)
/-- What a Read does: 0: the state, 1: the form, 2: nothing, 3: too long, 4: it asks. -/
def readK (x : CliD) (key : ByteArray) : Nat :=
  if x.state ≠ 1 then 0 else if keyB key = false then 1 else if hasD x key = true then 2 else if 6 ≤ x.rds.length + x.asks.length then 3 else if atK x.wrs key = true then 2 else 4
def readE (x : CliD) (key : ByteArray) : Int := match readK x key with | 0 => 11 | 1 => 2 | 3 => 3 | _ => 0
def readD (c : Cfg) (x : CliD) (key : ByteArray) : CliD := if readK x key = 4 then wantD x (homeN c key) key 0 else x
def readL (c : Cfg) (x : CliD) (key : ByteArray) : List SndD := if readK x key = 4 then [sentD c x (askD x (homeN c key) key 0)] else []
/-- What a Write does: 0: the state, 1: the form, 2: it is set, 3: too long, 4: it is put in. -/
def writeK (x : CliD) (key : ByteArray) (v : Val) : Nat :=
  if x.state ≠ 1 then 0 else if (keyB key && formedV v) = false then 1 else if atK x.wrs key = true then 2 else if 6 ≤ x.wrs.length then 3 else 4
def writeE (x : CliD) (key : ByteArray) (v : Val) : Int := match writeK x key v with | 0 => 11 | 1 => 2 | 3 => 3 | _ => 0
def insK (l : List Wr) (k : Nat) (w : Wr) : List Wr := l.take k ++ w :: l.drop k
def writeD (x : CliD) (key : ByteArray) (v : Val) : CliD :=
  match writeK x key v with
  | 2 => { x with wrs := x.wrs.set (lowK x.wrs key) ⟨key, v⟩ }
  | 4 => { x with wrs := insK x.wrs (lowK x.wrs key) ⟨key, v⟩ }
  | _ => x
def inTxn (x : CliD) : Bool := decide (x.state = 1 ∨ x.state = 2)
def txnD (ses : Int) (x : CliD) : Tx := if inTxn x then ⟨ses, x.seq, x.rds, x.wrs⟩ else ⟨0, 0, [], []⟩
def submitD (c : Cfg) (ses : Int) (x : CliD) : List SndD :=
  (groupsT c (txnD ses x)).flatMap fun g => (List.range (repN c g.toNat)).map fun (i : Nat) => ⟨placeZ c g (i : Int), .submit (txnD ses x)⟩
/-- What a Commit does: 0: the state, 1: nothing to commit, 2: it submits. -/
def commitK (x : CliD) : Nat := if x.state ≠ 1 ∨ 0 < x.asks.length then 0 else if x.rds.length + x.wrs.length = 0 then 1 else 2
def commitE (x : CliD) : Int := if commitK x = 0 then 11 else 0
def commitD (x : CliD) : CliD := match commitK x with | 1 => restD x | 2 => { x with state := 2 } | _ => x
def commitL (c : Cfg) (ses : Int) (x : CliD) : List SndD := if commitK x = 2 then submitD c ses { x with state := 2 } else []
def abortD (x : CliD) : CliD := if x.state = 1 then restD x else x
def abortE (x : CliD) : Int := if x.state = 1 then 0 else 11
/-- What a Snapshot does: 0: the state, 1: the argument, 2: it asks. -/
def snapK (x : CliD) (keys : List ByteArray) : Nat := if x.state ≠ 0 then 0 else if (decide (1 ≤ keys.length) && decide (keys.length ≤ 6) && risesTo keys keys.length) = false then 1 else 2
def snapE (x : CliD) (keys : List ByteArray) : Int := match snapK x keys with | 0 => 11 | 1 => 1 | _ => 0
/-- Asking many things, one behind the other. -/
def wantsD (x : CliD) : List (Nat × ByteArray × Nat) → CliD
  | [] => x
  | (g, k, s) :: l => wantsD (wantD x g k s) l
def wantsL (c : Cfg) (x : CliD) : List (Nat × ByteArray × Nat) → List SndD
  | [] => []
  | (g, k, s) :: l => sentD c x (askD x g k s) :: wantsL c (wantD x g k s) l
def snapW (c : Cfg) (keys : List ByteArray) : List (Nat × ByteArray × Nat) := (groupsL c keys).map fun g => (g.toNat, noStr, 0)
def snap0 (x : CliD) (keys : List ByteArray) : CliD := { x with state := 3, keys := keys, stamp := mostS }
def snapD (c : Cfg) (x : CliD) (keys : List ByteArray) : CliD := if snapK x keys = 2 then wantsD (snap0 x keys) (snapW c keys) else x
def snapL (c : Cfg) (x : CliD) (keys : List ByteArray) : List SndD := if snapK x keys = 2 then wantsL c (snap0 x keys) (snapW c keys) else []
/-- The ask that a number and a key answer. -/
def askP (num : Int) (key : ByteArray) (a : AskD) : Bool := decide ((a.n : Int) = num) && decide (a.key = key)
def answK (x : CliD) (num : Int) (key : ByteArray) : Nat := x.asks.findIdx (askP num key)
def answB (x : CliD) (m : MsgV) : Bool := decide (answK x m.num m.key < x.asks.length) && !(decide (x.state = 1) && decide (m.err ≠ 0))
def answD (x : CliD) (m : MsgV) : CliD := { x with asks := x.asks.eraseIdx (answK x m.num m.key) }
def answA (x : CliD) (m : MsgV) : AskD := x.asks.getD (answK x m.num m.key) noAsk
def overEv (ses : Int) (x : CliD) (e : Int) : EvD := ⟨4, ses, 0, noStr, noVal, 0, false, x.stamp, e⟩
def insR (l : List Rd) (r : Rd) : List Rd := (l ++ [r]).mergeSort fun a b => !lessS b.key a.key
/-- What an answer is, behind taking it out. -/
def lowS (x : CliD) (m : MsgV) : CliD := { x with stamp := min x.stamp m.st }
/-- 0: more is asked, 1: behind, 2: it reads, 3: all is nothing. -/
def safeK (x : CliD) : Nat := if 0 < x.asks.length then 0 else if x.stamp < x.floor then 1 else if 0 < x.stamp then 2 else 3
def safeW (c : Cfg) (x : CliD) : List (Nat × ByteArray × Nat) := x.keys.map fun k => (homeN c k, k, x.stamp)
def safeD (c : Cfg) (x : CliD) : CliD := match safeK x with | 0 => x | 2 => wantsD x (safeW c x) | _ => restD x
def safeL (c : Cfg) (x : CliD) : List SndD := if safeK x = 2 then wantsL c x (safeW c x) else []
def safeEv (ses : Int) (x : CliD) : List EvD :=
  match safeK x with
  | 1 => [overEv ses x 10]
  | 3 => (x.keys.map fun k => ⟨3, ses, 0, k, noVal, 0, false, 0, 0⟩) ++ [overEv ses x 0]
  | _ => []
/-- 0: it failed, 1: it is over, 2: it goes on. -/
def seenK (x : CliD) (m : MsgV) : Nat := if m.err ≠ 0 then 0 else if x.asks.length = 0 then 1 else 2
def seenD (x : CliD) (m : MsgV) : CliD := if seenK x m = 2 then x else restD x
def seenEv (ses : Int) (x : CliD) (m : MsgV) : List EvD :=
  match seenK x m with
  | 0 => [overEv ses x m.err]
  | 1 => [⟨3, ses, 0, m.key, m.val, m.ver, false, x.stamp, 0⟩, overEv ses x 0]
  | _ => [⟨3, ses, 0, m.key, m.val, m.ver, false, x.stamp, 0⟩]
/-- What a message does (fm: it is formed): 0: nothing, 1: an outcome, 2: a read, 3: a stamp, 4: a value of a snapshot. -/
def handK (ses : Int) (x : CliD) (m : MsgV) (fm : Bool) : Nat :=
  if fm = false then 0
  else if m.kind = 11 ∧ x.state = 2 ∧ m.ids = ses ∧ m.idq = x.seq then 1
  else if m.kind = 13 then if answB x m = false then 0 else if x.state = 1 then 2 else if (answA x m).key = noStr then 3 else 4
  else 0
def handD (c : Cfg) (ses : Int) (x : CliD) (m : MsgV) (fm : Bool) : CliD :=
  match handK ses x m fm with
  | 1 => { restD x with floor := if m.y then max x.floor m.st else x.floor }
  | 2 => { answD x m with rds := insR x.rds ⟨m.key, m.ver⟩ }
  | 3 => safeD c (lowS (answD x m) m)
  | 4 => seenD (answD x m) m
  | _ => x
def handL (c : Cfg) (ses : Int) (x : CliD) (m : MsgV) (fm : Bool) : List SndD := if handK ses x m fm = 3 then safeL c (lowS (answD x m) m) else []
def handEv (ses : Int) (x : CliD) (m : MsgV) (fm : Bool) : List EvD :=
  match handK ses x m fm with
  | 1 => [⟨2, ses, x.seq, noStr, noVal, 0, m.y, m.st, 0⟩]
  | 2 => [⟨1, ses, x.seq, m.key, m.val, m.ver, false, 0, 0⟩]
  | 3 => safeEv ses (lowS (answD x m) m)
  | 4 => seenEv ses (answD x m) m
  | _ => []
def tick0 (x : CliD) : CliD := { x with turn := (x.turn + 1) % 60 }
def tickL (c : Cfg) (ses : Int) (x : CliD) : List SndD := if x.state = 2 then submitD c ses (tick0 x) else x.asks.map (sentD c (tick0 x))
end Go.Proofs.YtjgloipgnnigmaaGreatDoor
/- Frames by sets of blocks: a call writes in the blocks O alone, and makes new ones. -/
namespace Go.Proofs.YtjgloipgnnigmaaGreatDoor
open Go.RowKit

/-- But for the blocks O all that was there is as it was. -/
structure Out (O : Nat → Prop) (w w' : World) : Prop where
  os : w'.os = w.os
  tape : w'.tape = w.tape
  output : w'.output = w.output
  size : w.heap.size ≤ w'.heap.size
  block : ∀ k, k < w.heap.size → ¬ O k → w'.heap[k]? = w.heap[k]?
/-- O and the blocks made between w and w'. -/
def ext (O : Nat → Prop) (w w' : World) (k : Nat) : Prop := O k ∨ (w.heap.size ≤ k ∧ k < w'.heap.size)
theorem Out.refl (O : Nat → Prop) (w : World) : Out O w w := ⟨rfl, rfl, rfl, Nat.le_refl _, fun _ _ _ => rfl⟩
theorem Out.trans {O : Nat → Prop} {w w1 w2 : World} (h : Out O w w1) (h' : Out (ext O w w1) w1 w2) : Out O w w2 :=
  ⟨h'.os.trans h.os, h'.tape.trans h.tape, h'.output.trans h.output, Nat.le_trans h.size h'.size, fun k hk ho => by
    rw [h'.block k (Nat.lt_of_lt_of_le hk h.size) (fun e => e.elim ho (fun e => by omega)), h.block k hk ho]⟩
theorem Out.trans' {O : Nat → Prop} {w w1 w2 : World} (h : Out O w w1) (h' : Out O w1 w2) : Out O w w2 :=
  ⟨h'.os.trans h.os, h'.tape.trans h.tape, h'.output.trans h.output, Nat.le_trans h.size h'.size, fun k hk ho => by
    rw [h'.block k (Nat.lt_of_lt_of_le hk h.size) ho, h.block k hk ho]⟩
theorem Out.mono {O O' : Nat → Prop} {w w' : World} (h : Out O w w') (hs : ∀ k, O k → O' k) : Out O' w w' :=
  ⟨h.os, h.tape, h.output, h.size, fun k hk ho => h.block k hk (fun e => ho (hs k e))⟩
theorem Out.of_below {O : Nat → Prop} {w w' : World} (h : Below w.heap.size w w') : Out O w w' := ⟨h.os, h.tape, h.output, h.size, fun k hk _ => h.block k hk⟩
theorem Out.of_grown {O : Nat → Prop} {w w' : World} {row : Option Nat} (h : w.grownBy w' row) (hr : ∀ k, row = some k → O k) : Out O w w' :=
  ⟨h.os, h.tape, h.output, h.size, fun k hk ho => h.block k hk (fun e => ho (hr k e.symm))⟩
theorem Out.below {O : Nat → Prop} {w w' : World} {B : Nat} (h : Out O w w') (hB : B ≤ w.heap.size) (ho : ∀ k, O k → B ≤ k) : Below B w w' :=
  ⟨h.os, h.tape, h.output, h.size, fun k hk => h.block k (Nat.lt_of_lt_of_le hk hB) (fun e => by have := ho k e; omega)⟩
theorem blk_lt {w : World} {a : Addr} {v : Value} (h : w.cell? a = some v) : a.block < w.heap.size := by
  rcases Nat.lt_or_ge a.block w.heap.size with q | q
  · exact q
  · exfalso
    have : w.heap[a.block]? = none := Array.getElem?_eq_none q
    simp [World.cell?, this] at h
theorem Out.cell {O : Nat → Prop} {w w' : World} {a : Addr} {v : Value} (h : Out O w w') (hc : w.cell? a = some v) (ho : ¬ O a.block) : w'.cell? a = some v := by
  rw [World.cell?_of_block (h.block a.block (blk_lt hc) ho)]; exact hc
theorem Out.obj {O : Nat → Prop} {w w' : World} {g : Nat} {o : Obj} (h : Out O w w') (hc : w.heap[g]? = some o) (ho : ¬ O g) : w'.heap[g]? = some o := by
  rw [h.block g (Array.getElem?_eq_some_iff.1 hc).1 ho]; exact hc
theorem Out.row {O : Nat → Prop} {w w' : World} {base n size : Nat} {e : TypeId} {v : Value} {xs : List Value} (h : Out O w w') (hr : w.ownsRow base e size v n xs) (ho : ∀ g, v.ownBlock = some g → ¬ O g) : w'.ownsRow base e size v n xs := by
  refine ⟨hr.1, ?_⟩
  rcases hr.2 with h2 | ⟨g, cap, cur, rfl, hg, hh, r⟩
  · exact .inl h2
  · exact .inr ⟨g, cap, cur, rfl, hg, h.obj hh (ho g rfl), r⟩
theorem Out.map {H : Type} {P : Program} {k : TypeId} {R : Value → Option (DataW H × List MemPlace)} {O : Nat → Prop} {w w' : World} {b n : Nat} {D : DataW H} (h : Out O w w') (hm : w.ownsMap P k R b n D) (ho : ¬ O b) : w'.ownsMap P k R b n D := by
  obtain ⟨es, clock, hb, r⟩ := hm
  exact ⟨es, clock, h.obj hb ho, r⟩
theorem own_lt {w : World} {base n size : Nat} {e : TypeId} {v : Value} {xs : List Value} (h : w.ownsRow base e size v n xs) {g : Nat} (hg : v.ownBlock = some g) : base ≤ g ∧ g < w.heap.size := h.lt g hg
theorem ext_mono {O : Nat → Prop} {w w1 w2 : World} (h2 : w1.heap.size ≤ w2.heap.size) {k : Nat} (h : ext O w w1 k) : ext O w w2 k :=
  h.elim .inl fun h => .inr ⟨h.1, by omega⟩
theorem ext_ext {O : Nat → Prop} {w w1 w2 : World} (h1 : w.heap.size ≤ w1.heap.size) (h2 : w1.heap.size ≤ w2.heap.size) (k : Nat) : ext (ext O w w1) w1 w2 k ↔ ext O w w2 k := by
  unfold ext
  constructor
  · rintro ((h | h) | h)
    · exact .inl h
    · exact .inr ⟨h.1, by omega⟩
    · exact .inr ⟨by omega, h.2⟩
  · rintro (h | h)
    · exact .inl (.inl h)
    · by_cases hk : k < w1.heap.size
      · exact .inl (.inr ⟨h.1, hk⟩)
      · exact .inr ⟨by omega, h.2⟩
theorem CellsAt.out {O : Nat → Prop} {w w' : World} {A : Option Addr} {n : Nat} {f : Nat → Value} (h : CellsAt w A n f) (hb : Out O w w') (ho : ∀ a, A = some a → ¬ O a.block) : CellsAt w' A n f := by
  intro i hi
  obtain ⟨b, off, e, hc⟩ := h i hi
  exact ⟨b, off, e, hb.cell hc (ho ⟨b, off, none⟩ e)⟩
end Go.Proofs.YtjgloipgnnigmaaGreatDoor
/- Whole structs, loaded and stored by one law each; a message's block, cell by cell. -/
namespace Go.Proofs.YtjgloipgnnigmaaGreatDoor
open Go.RowKit

section
variable {P : Program}
theorem run_loadVar_cells (w : World) (ad : Addr) (ty : TypeId) (cs : Array Value) (d : TypeDesc) (hc : CellRow w ad cs)
    (hu : P.underlying ty = some d) (hd : (match d with | .struct _ | .array _ _ => true | _ => false) = true) (hi : (P.info? ty).map (·.size) = some cs.size) :
    (loadVar ty ad).run P w = .ok (.agg cs) w := by
  have hl : (loadCells ad cs.toList.length).run P w = .ok cs.toList.toArray w :=
    run_loadCells_list (P := P) w ad cs.toList (fun j v hv => hc j v (by simpa using hv))
  cases hq : P.info? ty with
  | none => simp [hq] at hi
  | some i =>
    have hs : i.size = cs.size := by simpa [hq] using hi
    have hagg : (isAgg ty).run P w = .ok true w := by
      unfold isAgg
      rw [Sem.run_bind, run_underlying hu w]
      cases d <;> simp_all
    simp only [Array.length_toList, Array.toArray_toList] at hl
    simp [loadVar, Sem.run_bind, hagg, sizeOf, typeInfo, hq, hs, hl]
theorem wp_load_cells {o : Oper} {a : Act} {w : World} {K : Act → World → Prop} {Q : Exit → Act → World → Prop} (ty : TypeId) (x : Operand) (ho : o.op = .load ty x)
    (ad : Addr) (hx : a.eval x = .pointer (some ad)) (cs : Array Value) (d : TypeDesc) (hc : CellRow w ad cs)
    (hu : P.underlying ty = some d) (hd : (match d with | .struct _ | .array _ _ => true | _ => false) = true) (hi : (P.info? ty).map (·.size) = some cs.size)
    (h : K (a.put o.dst (.agg cs)) w) : o.wp P a w K Q := by
  unfold Oper.wp execOp
  simp only [ho, hx, Instr.loadAt, Instr.sureAddr, Sem.run_bind, Sem.run_pure, Result.andThen_ok, run_loadVar_cells w ad ty cs d hc hu hd hi]
  exact h
theorem wpList_load_cells {ops : Array Oper} {rest : List Oper} {o : Oper} {a : Act} {w : World} {Q : Exit → Act → World → Prop} (hgd : Region.wanted o (yielded ops a.tmps) = true) (ty : TypeId) (x : Operand) (ho : o.op = .load ty x)
    (ad : Addr) (hx : a.eval x = .pointer (some ad)) (cs : Array Value) (d : TypeDesc) (hc : CellRow w ad cs)
    (hu : P.underlying ty = some d) (hd : (match d with | .struct _ | .array _ _ => true | _ => false) = true) (hi : (P.info? ty).map (·.size) = some cs.size)
    (h : wpList P ops Q rest (a.put o.dst (.agg cs)) w) : wpList P ops Q (o :: rest) a w :=
  BigFrame.wpList_want hgd fun _ hK => wp_load_cells ty x ho ad hx cs d hc hu hd hi (hK _ _ h)
end
theorem fold_set (cs : List Value) : ∀ (i : Nat) (base : Array Value), i + cs.length ≤ base.size →
    ((cs.zipIdx i).foldl (fun (a : Array Value) (p : Value × Nat) => a.setIfInBounds (0 + p.2) p.1) base).toList = base.toList.take i ++ cs ++ base.toList.drop (i + cs.length) := by
  induction cs with
  | nil => intro i base _; simp
  | cons c cs ih =>
    intro i base h
    simp only [List.length_cons] at h
    rw [List.zipIdx_cons, List.foldl_cons, ih (i + 1) _ (by simp; omega)]
    simp only [Array.toList_setIfInBounds, Nat.zero_add, List.length_cons]
    apply List.ext_getElem?
    intro k
    simp only [List.getElem?_append, List.length_append, List.length_take, List.length_set, Array.length_toList, List.getElem?_take, List.getElem?_drop, List.getElem?_set, List.length_cons]
    by_cases h1 : k < i
    · simp [h1, show k < i + 1 by omega, show min (i + 1) base.size = i + 1 by omega, show min i base.size = i by omega, show i ≠ k by omega, show k < i + 1 + cs.length by omega, show k < i + (cs.length + 1) by omega]
    · by_cases h2 : k = i
      · subst h2
        simp [show min (k + 1) base.size = k + 1 by omega, show min k base.size = k by omega, show k < base.size by omega, show k < k + 1 + cs.length by omega]
      · by_cases h3 : k < i + 1 + cs.length
        · simp [h1, show ¬ k < i + 1 by omega, show min (i + 1) base.size = i + 1 by omega, show min i base.size = i by omega, h3, show k < i + (cs.length + 1) by omega, show k - i = (k - (i + 1)) + 1 by omega]
        · simp [show min (i + 1) base.size = i + 1 by omega, show min i base.size = i by omega, h3, show ¬ k < i + (cs.length + 1) by omega, show i ≠ i + 1 + cs.length + (k - (i + 1 + cs.length)) by omega]
          congr 1; omega
theorem fold_all (cs base : Array Value) (h : base.size = cs.size) : cs.zipIdx.foldl (fun (a : Array Value) (p : Value × Nat) => a.setIfInBounds (0 + p.2) p.1) base = cs := by
  have := fold_set cs.toList 0 base (by simp; omega)
  apply Array.ext'
  rw [← Array.foldl_toList, Array.toList_zipIdx, this]
  simp [h]
section
variable {P : Program}
theorem run_buildSlice1 (w : World) (t elem : TypeId) (v : Value) (cs : Array Value) (z : Value) (hv : v.cells = cs) (hu : P.underlying t = some (.slice elem)) (hi : (P.info? elem).map (·.size) = some cs.size) (h0 : 0 < cs.size) (h24 : cs.size ≤ 16777216)
    (hz : (zeroValue elem).run P w = .ok z w) :
    (Instr.buildSlice t 1 #[(0, v)]).run P w = .ok (.slice (some ⟨w.heap.size, 0, none⟩) 1 1) (w.alloc (.cells cs elem)) := by
  cases hq : P.info? elem with
  | none => simp [hq] at hi
  | some i =>
    have hs : i.size = cs.size := by simpa [hq] using hi
    have hf : Instr.fill (fun k => some (k * cs.size, cs.size)) ((Array.range cs.size).map (z.cells[· % z.cells.size]!)) [(0, v)] = some cs := by
      simp only [Instr.fill, hv, Nat.zero_mul, Nat.zero_add]
      rw [if_neg (by simp)]
      have := fold_all cs ((Array.range cs.size).map (z.cells[· % z.cells.size]!)) (by simp)
      simpa using this
    have h1 : ¬ (1 * cs.size > 2 ^ 24) := by omega
    have h2 : ¬ (cs.size = 0) := by omega
    simp [Instr.buildSlice, Sem.run_bind, run_underlying hu, sizeOf, typeInfo, hq, hs, h2, hz, hf, newRow, show ¬ (16777216 < cs.size) by omega]
theorem wp_buildSlice1 {o : Oper} {a : Act} {w : World} {K : Act → World → Prop} {Q : Exit → Act → World → Prop} (t elem : TypeId) (x : Operand) (ho : o.op = .buildSlice t 1 #[(0, x)])
    (cs : Array Value) (hx : a.eval x = .agg cs) (z : Value) (hu : P.underlying t = some (.slice elem)) (hi : (P.info? elem).map (·.size) = some cs.size) (h0 : 0 < cs.size) (h24 : cs.size ≤ 16777216) (hz : (zeroValue elem).run P w = .ok z w)
    (h : K (a.put o.dst (.slice (some ⟨w.heap.size, 0, none⟩) 1 1)) (w.alloc (.cells cs elem))) : o.wp P a w K Q := by
  unfold Oper.wp execOp
  simp only [ho, List.map_toArray, List.map_cons, List.map_nil, hx, Sem.run_bind, run_buildSlice1 w t elem (.agg cs) cs z rfl hu hi h0 h24 hz, Result.andThen_ok]
  exact h
theorem wpList_buildSlice1 {ops : Array Oper} {rest : List Oper} {o : Oper} {a : Act} {w : World} {Q : Exit → Act → World → Prop} (hgd : Region.wanted o (yielded ops a.tmps) = true) (t elem : TypeId) (x : Operand) (ho : o.op = .buildSlice t 1 #[(0, x)])
    (cs : Array Value) (hx : a.eval x = .agg cs) (z : Value) (hu : P.underlying t = some (.slice elem)) (hi : (P.info? elem).map (·.size) = some cs.size) (h0 : 0 < cs.size) (h24 : cs.size ≤ 16777216) (hz : (zeroValue elem).run P w = .ok z w)
    (h : wpList P ops Q rest (a.put o.dst (.slice (some ⟨w.heap.size, 0, none⟩) 1 1)) (w.alloc (.cells cs elem))) : wpList P ops Q (o :: rest) a w :=
  BigFrame.wpList_want hgd fun _ hK => wp_buildSlice1 t elem x ho cs hx z hu hi h0 h24 hz (hK _ _ h)
end
theorem row_of_obj {w : World} {g : Nat} {cs : Array Value} {t : TypeId} (h : w.heap[g]? = some (.cells cs t (0, 0))) : CellRow w ⟨g, 0, none⟩ cs := fun j v hv => by
  rw [Go.WideShapes.add_plain, Nat.zero_add, cell_of_row w g j cs t _ h]; exact hv
theorem below_setRow {B : Nat} {a w : World} (h : Below B a w) {g : Nat} (hg : B ≤ g) (cs : Array Value) : Below B a (w.setRow g cs) :=
  h.trans ⟨rfl, rfl, rfl, by simp, fun k hk => setRow_other w g k cs (by omega)⟩
/-- A new block, filled anew: the world behind it under a name. -/
theorem filled (w : World) (old new : Array Value) (t : TypeId) : ∃ W : World, (w.alloc (.cells old t)).setRow w.heap.size new = W ∧ Below w.heap.size w W ∧ W.heap.size = w.heap.size + 1 ∧ W.heap[w.heap.size]? = some (.cells new t (0, 0)) :=
  ⟨_, rfl, below_setRow (below1 _ _) (Nat.le_refl _) _, by simp, setRow_heap _ _ _ _ _ _ (heap_alloc_new w _)⟩
theorem boxed (w : World) (cs : Array Value) (t : TypeId) : ∃ W : World, w.alloc (.cells cs t) = W ∧ Below w.heap.size w W ∧ W.heap.size = w.heap.size + 1 ∧ W.heap[w.heap.size]? = some (.cells cs t (0, 0)) :=
  ⟨_, rfl, below1 _ _, by simp, heap_alloc_new w _⟩
/-- A struct stored into a block that was just made: the world behind it under a name of its own. -/
theorem wpList_store_new {P : Program} {ops : Array Oper} {rest : List Oper} {o : Oper} {a : Act} {w : World} {Q : Exit → Act → World → Prop} (hgd : o.guard = none) (ty : TypeId) (x y : Operand) (ho : o.op = .store ty x y)
    (w0 : World) (cells : Array Value) (t : TypeId) {old : Array Value} (hw : w = w0.alloc (.cells old t)) (hx : a.eval x = .pointer (some ⟨w0.heap.size, 0, none⟩)) (hy : a.eval y = .agg cells)
    (hi : (P.info? ty).map (·.size) = some cells.size) (hold : old.size = cells.size) (h1 : cells.all (·.oneCell') = true)
    (h : ∀ W, Below w0.heap.size w0 W → W.heap.size = w0.heap.size + 1 → W.heap[w0.heap.size]? = some (.cells cells t (0, 0)) → wpList P ops Q rest (a.put o.dst undef) W) : wpList P ops Q (o :: rest) a w := by
  subst hw
  refine wpList_store_row hgd ty x y ho w0.heap.size cells hx hy t old (heap_alloc_new w0 _) hi hold h1 ?_
  obtain ⟨W, eW, hb, hs, hr⟩ := filled w0 old cells t
  rw [eW]
  exact h W hb hs hr
theorem obj_keep {w w' : World} {g : Nat} {o : Obj} (h : w.heap[g]? = some o) (hb : Below w.heap.size w w') : w'.heap[g]? = some o := by
  rw [hb.block g (Array.getElem?_eq_some_iff.1 h).1]; exact h
theorem msg_size (m : MsgV) : m.vs.size = 34 := rfl
theorem op_size (o : OpX) : o.vs.size = 41 := rfl
theorem msg_one (m : MsgV) : m.vs.all (·.oneCell') = true := by simp [MsgV.vs, Value.oneCell']
theorem op_one (o : OpX) : o.vs.all (·.oneCell') = true := by simp [OpX.vs, Value.oneCell']
theorem msg_cs {w : World} {g : Nat} {m : MsgV} {t : TypeId} (h : w.heap[g]? = some (.cells m.vs t (0, 0))) :
    w.cell? ⟨g, 0, none⟩ = some (.int .i64 m.kind) ∧ w.cell? ⟨g, 1, none⟩ = some (.int .u32 (m.br : Int)) ∧ w.cell? ⟨g, 2, none⟩ = some (.int .i64 m.bn) ∧ w.cell? ⟨g, 3, none⟩ = some (.int .i64 m.slot) ∧ w.cell? ⟨g, 4, none⟩ = some (.bool m.has) ∧ w.cell? ⟨g, 5, none⟩ = some (.int .u32 (m.vr : Int)) ∧ w.cell? ⟨g, 6, none⟩ = some (.int .i64 m.vn) ∧ w.cell? ⟨g, 7, none⟩ = some (.int .i64 m.ck) ∧ w.cell? ⟨g, 8, none⟩ = some (.int .i64 m.ct.ses) ∧ w.cell? ⟨g, 9, none⟩ = some (.int .i64 m.ct.seq) ∧ w.cell? ⟨g, 10, none⟩ = some (.slice m.cA m.ct.rds.length m.cca) ∧ w.cell? ⟨g, 11, none⟩ = some (.slice m.cB m.ct.wrs.length m.ccb) ∧ w.cell? ⟨g, 12, none⟩ = some (.int .i64 m.cis) ∧ w.cell? ⟨g, 13, none⟩ = some (.int .i64 m.ciq) ∧ w.cell? ⟨g, 14, none⟩ = some (.int .i64 m.cg) ∧ w.cell? ⟨g, 15, none⟩ = some (.int .u64 (m.cst : Int)) ∧ w.cell? ⟨g, 16, none⟩ = some (.bool m.cy) ∧ w.cell? ⟨g, 17, none⟩ = some (.int .i64 m.t.ses) ∧ w.cell? ⟨g, 18, none⟩ = some (.int .i64 m.t.seq) ∧ w.cell? ⟨g, 19, none⟩ = some (.slice m.A m.t.rds.length m.ca) ∧ w.cell? ⟨g, 20, none⟩ = some (.slice m.B m.t.wrs.length m.cb) ∧ w.cell? ⟨g, 21, none⟩ = some (.int .i64 m.ids) ∧ w.cell? ⟨g, 22, none⟩ = some (.int .i64 m.idq) ∧ w.cell? ⟨g, 23, none⟩ = some (.int .i64 m.g) ∧ w.cell? ⟨g, 24, none⟩ = some (.int .u64 (m.st : Int)) ∧ w.cell? ⟨g, 25, none⟩ = some (.bool m.y) ∧ w.cell? ⟨g, 26, none⟩ = some (.int .i64 m.num) ∧ w.cell? ⟨g, 27, none⟩ = some (.string m.key) ∧ w.cell? ⟨g, 28, none⟩ = some (.int .u64 (m.ver : Int)) ∧ w.cell? ⟨g, 29, none⟩ = some (.int .i64 m.val.kind) ∧ w.cell? ⟨g, 30, none⟩ = some (.int .u64 (m.val.bits : Int)) ∧ w.cell? ⟨g, 31, none⟩ = some (.string m.val.text) ∧ w.cell? ⟨g, 32, none⟩ = some (.int .i64 m.err) ∧ w.cell? ⟨g, 33, none⟩ = some (.slice m.D m.data.length m.cd) := by
  refine ⟨?_, ?_, ?_, ?_, ?_, ?_, ?_, ?_, ?_, ?_, ?_, ?_, ?_, ?_, ?_, ?_, ?_, ?_, ?_, ?_, ?_, ?_, ?_, ?_, ?_, ?_, ?_, ?_, ?_, ?_, ?_, ?_, ?_, ?_⟩ <;> (rw [cell_of_row w g _ _ _ _ h]; rfl)
theorem op_cs {w : World} {g : Nat} {o : OpX} {t : TypeId} (h : w.heap[g]? = some (.cells o.vs t (0, 0))) :
    w.cell? ⟨g, 0, none⟩ = some (.int .i64 o.kind) ∧ w.cell? ⟨g, 1, none⟩ = some (.string o.key) ∧ w.cell? ⟨g, 2, none⟩ = some (.int .i64 o.val.kind) ∧ w.cell? ⟨g, 3, none⟩ = some (.int .u64 (o.val.bits : Int)) ∧ w.cell? ⟨g, 4, none⟩ = some (.string o.val.text) ∧ w.cell? ⟨g, 5, none⟩ = some (.slice o.K o.keys.length o.ck) ∧ w.cell? ⟨g, 40, none⟩ = some (.int .i64 o.num) ∧ CellRow w ⟨g, 6, none⟩ o.m.vs := by
  refine ⟨?_, ?_, ?_, ?_, ?_, ?_, ?_, ?_⟩
  all_goals first | (rw [cell_of_row w g _ _ _ _ h]; rfl) | skip
  intro j v hv
  have hj : j < 34 := by rw [← msg_size o.m]; exact (Array.getElem?_eq_some_iff.1 hv).1
  rw [Go.WideShapes.add_plain, cell_of_row w g _ _ _ _ h]
  have : o.vs.toList = (o.vs.toList.take 6) ++ (o.m.vs.toList ++ [.int .i64 o.num]) := rfl
  rw [← Array.getElem?_toList, this, List.getElem?_append_right (by simp [op_size]), List.getElem?_append_left (by simp [op_size, msg_size]; omega)]
  simp only [List.length_take, Array.length_toList, op_size]
  rw [show 6 + j - min 6 41 = j by omega, Array.getElem?_toList]
  exact hv
end Go.Proofs.YtjgloipgnnigmaaGreatDoor
/- parishlaw21.plain: a message as the reference has it: the same cells. -/
namespace Go.Proofs.YtjgloipgnnigmaaGreatDoor
open Go.RowKit Go.Shelf

theorem info_rmsg : (Tryz.prog.info? 85).map (·.size) = some 34 := by kernel_rfl
set_option maxHeartbeats 1000000 in
theorem plain_any (m : MsgV) (w : World) : Calls Tryz.prog 28 #[m.v] w fun e w' => e = .returned m.v ∧ Below w.heap.size w w' := by
  unfold MsgV.v
  obtain ⟨W, eW, HB, hsz, hrow⟩ := boxed w m.vs 43
  obtain ⟨c0, c1, c2, c3, c4, c5, c6, c7, c8, c9, c10, c11, c12, c13, c14, c15, c16, c17, c18, c19, c20, c21, c22, c23, c24, c25, c26, c27, c28, c29, c30, c31, c32, c33⟩ := msg_cs hrow
  have hlt : w.heap.size < W.heap.size := by omega
  clear hrow hsz
  go_enter Tryz.func28, Tryz.ntmps28
  go_wp2_with (refine wpList_store_row rfl 85 _ _ rfl W.heap.size m.vs rfl rfl 85 _ (heap_alloc_new W _) info_rmsg rfl (msg_one m) ?_)
  have hr := setRow_heap _ _ _ m.vs _ _ (heap_alloc_new W (.cells #[.int .i64 0, .int .u32 0, .int .i64 0, .int .i64 0, .bool false, .int .u32 0, .int .i64 0, .int .i64 0, .int .i64 0, .int .i64 0, .slice none 0 0, .slice none 0 0, .int .i64 0, .int .i64 0, .int .i64 0, .int .u64 0, .bool false, .int .i64 0, .int .i64 0, .slice none 0 0, .slice none 0 0, .int .i64 0, .int .i64 0, .int .i64 0, .int .u64 0, .bool false, .int .i64 0, .string ByteArray.empty, .int .u64 0, .int .i64 0, .int .u64 0, .string ByteArray.empty, .int .i64 0, .slice none 0 0] 85))
  exact bodyPost_ret (v := .agg m.vs) (results_cell_row rfl _ _ W.heap.size _ m.vs _ _ rfl hr Tryz.underlying85 rfl info_rmsg) rfl ⟨rfl, below_setRow (HB.alloc HB.size _) HB.size _⟩
end Go.Proofs.YtjgloipgnnigmaaGreatDoor
