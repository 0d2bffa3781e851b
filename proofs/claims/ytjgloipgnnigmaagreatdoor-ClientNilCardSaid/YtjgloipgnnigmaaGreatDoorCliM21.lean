/- Layer 21's client in plain Lean: what each method makes of a session's state. -/
import Derived.Test.YtjgloipgnnigmaaGreatDoorMsg10
import Derived.Test.YtjgloipgnnigmaaGreatDoorCutsM08
namespace Go.Proofs.YtjgloipgnnigmaaGreatDoor
open Go.RowKit

structure AskD where
  n : Nat
  g : Nat
  key : ByteArray
  st : Nat
structure CliD where
  state : Nat
  seq : Nat
  num : Nat
  turn : Nat
  floor : Nat
  rds : List Rd
  wrs : List Wr
  asks : List AskD
  keys : List ByteArray
  stamp : Nat
structure EvD where
  kind : Int
  ids : Int
  idq : Int
  key : ByteArray
  val : Val
  ver : Nat
  yes : Bool
  stamp : Nat
  err : Int
inductive MsgD where
  | safe (n : Nat)
  | read (n : Nat) (key : ByteArray) (st : Nat)
  | submit (t : Tx)
structure SndD where
  dest : Int
  m : MsgD
def noAsk : AskD := ⟨0, 0, noStr, 0⟩
def noVal : Val := ⟨0, 0, noStr⟩
def cli0 : CliD := ⟨0, 0, 0, 0, 0, [], [], [], [], 0⟩
def mostS : Nat := 18446744073709551615

def restD (x : CliD) : CliD := { x with state := 0, rds := [], wrs := [], asks := [], keys := [], stamp := 0 }
def beginD (x : CliD) : CliD := if x.state = 0 ∧ x.seq < 1048576 then { x with seq := x.seq + 1, state := 1 } else x
def beginE (x : CliD) : Int := if x.state = 0 then if x.seq < 1048576 then 0 else 7 else 11
def repN (c : Cfg) (g : Nat) : Nat := (c.reps.getD g 0).toNat
def sentD (c : Cfg) (x : CliD) (a : AskD) : SndD := ⟨placeZ c a.g ((x.turn % repN c a.g : Nat) : Int), if a.key = noStr then .safe a.n else .read a.n a.key a.st⟩
def askD (x : CliD) (g : Nat) (key : ByteArray) (st : Nat) : AskD := ⟨x.num + 1, g, key, st⟩
def wantD (x : CliD) (g : Nat) (key : ByteArray) (st : Nat) : CliD := { x with num := x.num + 1, asks := x.asks ++ [askD x g key st] }
def hasD (x : CliD) (key : ByteArray) : Bool := x.rds.any (fun r => decide (r.key = key)) || x.asks.any (fun a => decide (a.key = key))
/-- Where a key is written, or would be. -/
def lowK (l : List Wr) (key : ByteArray) : Nat := (l.takeWhile fun w => lessS w.key key).length
def atK (l : List Wr) (key : ByteArray) : Bool := decide (lowK l key < l.length) && decide ((l.getD (lowK l key) noWr).key = key)
/-- What a Read does: 0: the state, 1: the form, 2: nothing, 3: too long, 4: it asks. -/
def readK (x : CliD) (key : ByteArray) : Nat :=
  if x.state ≠ 1 then 0 else if keyB key = false then 1 else if hasD x key = true then 2 else if 6 ≤ x.rds.length + x.asks.length then 3 else if atK x.wrs key = true then 2 else 4
def readE (x : CliD) (key : ByteArray) : Int := match readK x key with | 0 => 11 | 1 => 2 | 3 => 3 | _ => 0
def readD (c : Cfg) (x : CliD) (key : ByteArray) : CliD := if readK x key = 4 then wantD x (homeN c key) key 0 else x
def readL (c : Cfg) (x : CliD) (key : ByteArray) : List SndD := if readK x key = 4 then [sentD c x (askD x (homeN c key) key 0)] else []
/-- What a Write does: 0: the state, 1: the form, 2: it is set, 3: too long, 4: it is put in. -/
def writeK (x : CliD) (key : ByteArray) (v : Val) : Nat :=
  if x.state ≠ 1 then 0 else if (keyB key && formedV v) = false then 1 else if atK x.wrs key = true then 2 else if 6 ≤ x.wrs.length then 3 else 4
def writeE (x : CliD) (key : ByteArray) (v : Val) : Int := match writeK x key v with | 0 => 11 | 1 => 2 | 3 => 3 | _ => 0
def insK (l : List Wr) (k : Nat) (w : Wr) : List Wr := l.take k ++ w :: l.drop k
def writeD (x : CliD) (key : ByteArray) (v : Val) : CliD :=
  match writeK x key v with
  | 2 => { x with wrs := x.wrs.set (lowK x.wrs key) ⟨key, v⟩ }
  | 4 => { x with wrs := insK x.wrs (lowK x.wrs key) ⟨key, v⟩ }
  | _ => x
def inTxn (x : CliD) : Bool := decide (x.state = 1 ∨ x.state = 2)
def txnD (ses : Int) (x : CliD) : Tx := if inTxn x then ⟨ses, x.seq, x.rds, x.wrs⟩ else ⟨0, 0, [], []⟩
def submitD (c : Cfg) (ses : Int) (x : CliD) : List SndD :=
  (groupsT c (txnD ses x)).flatMap fun g => (List.range (repN c g.toNat)).map fun (i : Nat) => ⟨placeZ c g (i : Int), .submit (txnD ses x)⟩
/-- What a Commit does: 0: the state, 1: nothing to commit, 2: it submits. -/
def commitK (x : CliD) : Nat := if x.state ≠ 1 ∨ 0 < x.asks.length then 0 else if x.rds.length + x.wrs.length = 0 then 1 else 2
def commitE (x : CliD) : Int := if commitK x = 0 then 11 else 0
def commitD (x : CliD) : CliD := match commitK x with | 1 => restD x | 2 => { x with state := 2 } | _ => x
def commitL (c : Cfg) (ses : Int) (x : CliD) : List SndD := if commitK x = 2 then submitD c ses { x with state := 2 } else []
def abortD (x : CliD) : CliD := if x.state = 1 then restD x else x
def abortE (x : CliD) : Int := if x.state = 1 then 0 else 11
/-- What a Snapshot does: 0: the state, 1: the argument, 2: it asks. -/
def snapK (x : CliD) (keys : List ByteArray) : Nat := if x.state ≠ 0 then 0 else if (decide (1 ≤ keys.length) && decide (keys.length ≤ 6) && risesTo keys keys.length) = false then 1 else 2
def snapE (x : CliD) (keys : List ByteArray) : Int := match snapK x keys with | 0 => 11 | 1 => 1 | _ => 0
/-- Asking many things, one behind the other. -/
def wantsD (x : CliD) : List (Nat × ByteArray × Nat) → CliD
  | [] => x
  | (g, k, s) :: l => wantsD (wantD x g k s) l
def wantsL (c : Cfg) (x : CliD) : List (Nat × ByteArray × Nat) → List SndD
  | [] => []
  | (g, k, s) :: l => sentD c x (askD x g k s) :: wantsL c (wantD x g k s) l
def snapW (c : Cfg) (keys : List ByteArray) : List (Nat × ByteArray × Nat) := (groupsL c keys).map fun g => (g.toNat, noStr, 0)
def snap0 (x : CliD) (keys : List ByteArray) : CliD := { x with state := 3, keys := keys, stamp := mostS }
def snapD (c : Cfg) (x : CliD) (keys : List ByteArray) : CliD := if snapK x keys = 2 then wantsD (snap0 x keys) (snapW c keys) else x
def snapL (c : Cfg) (x : CliD) (keys : List ByteArray) : List SndD := if snapK x keys = 2 then wantsL c (snap0 x keys) (snapW c keys) else []
/-- The ask that a number and a key answer. -/
def askP (num : Int) (key : ByteArray) (a : AskD) : Bool := decide ((a.n : Int) = num) && decide (a.key = key)
def answK (x : CliD) (num : Int) (key : ByteArray) : Nat := x.asks.findIdx (askP num key)
def answB (x : CliD) (m : MsgV) : Bool := decide (answK x m.num m.key < x.asks.length) && !(decide (x.state = 1) && decide (m.err ≠ 0))
def answD (x : CliD) (m : MsgV) : CliD := { x with asks := x.asks.eraseIdx (answK x m.num m.key) }
def answA (x : CliD) (m : MsgV) : AskD := x.asks.getD (answK x m.num m.key) noAsk
def overEv (ses : Int) (x : CliD) (e : Int) : EvD := ⟨4, ses, 0, noStr, noVal, 0, false, x.stamp, e⟩
def insR (l : List Rd) (r : Rd) : List Rd := (l ++ [r]).mergeSort fun a b => !lessS b.key a.key
/-- What an answer is, behind taking it out. -/
def lowS (x : CliD) (m : MsgV) : CliD := { x with stamp := min x.stamp m.st }
/-- 0: more is asked, 1: behind, 2: it reads, 3: all is nothing. -/
def safeK (x : CliD) : Nat := if 0 < x.asks.length then 0 else if x.stamp < x.floor then 1 else if 0 < x.stamp then 2 else 3
def safeW (c : Cfg) (x : CliD) : List (Nat × ByteArray × Nat) := x.keys.map fun k => (homeN c k, k, x.stamp)
def safeD (c : Cfg) (x : CliD) : CliD := match safeK x with | 0 => x | 2 => wantsD x (safeW c x) | _ => restD x
def safeL (c : Cfg) (x : CliD) : List SndD := if safeK x = 2 then wantsL c x (safeW c x) else []
def safeEv (ses : Int) (x : CliD) : List EvD :=
  match safeK x with
  | 1 => [overEv ses x 10]
  | 3 => (x.keys.map fun k => ⟨3, ses, 0, k, noVal, 0, false, 0, 0⟩) ++ [overEv ses x 0]
  | _ => []
/-- 0: it failed, 1: it is over, 2: it goes on. -/
def seenK (x : CliD) (m : MsgV) : Nat := if m.err ≠ 0 then 0 else if x.asks.length = 0 then 1 else 2
def seenD (x : CliD) (m : MsgV) : CliD := if seenK x m = 2 then x else restD x
def seenEv (ses : Int) (x : CliD) (m : MsgV) : List EvD :=
  match seenK x m with
  | 0 => [overEv ses x m.err]
  | 1 => [⟨3, ses, 0, m.key, m.val, m.ver, false, x.stamp, 0⟩, overEv ses x 0]
  | _ => [⟨3, ses, 0, m.key, m.val, m.ver, false, x.stamp, 0⟩]
/-- What a message does (fm: it is formed): 0: nothing, 1: an outcome, 2: a read, 3: a stamp, 4: a value of a snapshot. -/
def handK (ses : Int) (x : CliD) (m : MsgV) (fm : Bool) : Nat :=
  if fm = false then 0
  else if m.kind = 11 ∧ x.state = 2 ∧ m.ids = ses ∧ m.idq = x.seq then 1
  else if m.kind = 13 then if answB x m = false then 0 else if x.state = 1 then 2 else if (answA x m).key = noStr then 3 else 4
  else 0
def handD (c : Cfg) (ses : Int) (x : CliD) (m : MsgV) (fm : Bool) : CliD :=
  match handK ses x m fm with
  | 1 => { restD x with floor := if m.y then max x.floor m.st else x.floor }
  | 2 => { answD x m with rds := insR x.rds ⟨m.key, m.ver⟩ }
  | 3 => safeD c (lowS (answD x m) m)
  | 4 => seenD (answD x m) m
  | _ => x
def handL (c : Cfg) (ses : Int) (x : CliD) (m : MsgV) (fm : Bool) : List SndD := if handK ses x m fm = 3 then safeL c (lowS (answD x m) m) else []
def handEv (ses : Int) (x : CliD) (m : MsgV) (fm : Bool) : List EvD :=
  match handK ses x m fm with
  | 1 => [⟨2, ses, x.seq, noStr, noVal, 0, m.y, m.st, 0⟩]
  | 2 => [⟨1, ses, x.seq, m.key, m.val, m.ver, false, 0, 0⟩]
  | 3 => safeEv ses (lowS (answD x m) m)
  | 4 => seenEv ses (answD x m) m
  | _ => []
def tick0 (x : CliD) : CliD := { x with turn := (x.turn + 1) % 60 }
def tickL (c : Cfg) (ses : Int) (x : CliD) : List SndD := if x.state = 2 then submitD c ses (tick0 x) else x.asks.map (sentD c (tick0 x))
end Go.Proofs.YtjgloipgnnigmaaGreatDoor
