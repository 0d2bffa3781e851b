/- Layer 10's message as data, layer 21's Op, and how they lie in memory. -/
import Derived.Test.YtjgloipgnnigmaaGreatDoorModel08
namespace Go.Proofs.YtjgloipgnnigmaaGreatDoor
open Go.RowKit Go.Shelf

/-- A message: all its fields, with the addresses of the rows in it. -/
structure MsgV where
  kind : Int
  br : Nat
  bn : Int
  slot : Int
  has : Bool
  vr : Nat
  vn : Int
  ck : Int
  ct : Tx
  cA : Option Addr
  cB : Option Addr
  cca : Nat
  ccb : Nat
  cis : Int
  ciq : Int
  cg : Int
  cst : Nat
  cy : Bool
  t : Tx
  A : Option Addr
  B : Option Addr
  ca : Nat
  cb : Nat
  ids : Int
  idq : Int
  g : Int
  st : Nat
  y : Bool
  num : Int
  key : ByteArray
  ver : Nat
  val : Val
  err : Int
  D : Option Addr
  data : List UInt8
  cd : Nat
def MsgV.vs (m : MsgV) : Array Value := #[.int .i64 m.kind, .int .u32 (m.br : Int), .int .i64 m.bn, .int .i64 m.slot, .bool m.has, .int .u32 (m.vr : Int), .int .i64 m.vn, .int .i64 m.ck, .int .i64 m.ct.ses, .int .i64 m.ct.seq, .slice m.cA m.ct.rds.length m.cca, .slice m.cB m.ct.wrs.length m.ccb, .int .i64 m.cis, .int .i64 m.ciq, .int .i64 m.cg, .int .u64 (m.cst : Int), .bool m.cy, .int .i64 m.t.ses, .int .i64 m.t.seq, .slice m.A m.t.rds.length m.ca, .slice m.B m.t.wrs.length m.cb, .int .i64 m.ids, .int .i64 m.idq, .int .i64 m.g, .int .u64 (m.st : Int), .bool m.y, .int .i64 m.num, .string m.key, .int .u64 (m.ver : Int), .int .i64 m.val.kind, .int .u64 (m.val.bits : Int), .string m.val.text, .int .i64 m.err, .slice m.D m.data.length m.cd]
def MsgV.v (m : MsgV) : Value := .agg m.vs
/-- A message's rows lie in memory. -/
structure MsgAt (w : World) (m : MsgV) : Prop where
  c : TxAt w m.ct m.cA m.cB
  t : TxAt w m.t m.A m.B
  d : CellsAt w m.D m.data.length fun i => .int .u8 ((m.data.getD i 0).toNat : Int)
  k : m.key.size ≤ 9223372036854775807
  v : m.val.Good
  n : m.data.length ≤ 9223372036854775807
theorem MsgAt.later {w w' : World} {m : MsgV} (h : MsgAt w m) (hb : Below w.heap.size w w') : MsgAt w' m :=
  ⟨h.c.later hb, h.t.later hb, CellsAt.later h.d hb, h.k, h.v, h.n⟩
/-- An Op of layer 21's statements. -/
structure OpX where
  kind : Int
  key : ByteArray
  val : Val
  K : Option Addr
  keys : List ByteArray
  ck : Nat
  m : MsgV
  num : Int
def OpX.vs (o : OpX) : Array Value := #[.int .i64 o.kind, .string o.key, .int .i64 o.val.kind, .int .u64 (o.val.bits : Int), .string o.val.text, .slice o.K o.keys.length o.ck, .int .i64 o.m.kind, .int .u32 (o.m.br : Int), .int .i64 o.m.bn, .int .i64 o.m.slot, .bool o.m.has, .int .u32 (o.m.vr : Int), .int .i64 o.m.vn, .int .i64 o.m.ck, .int .i64 o.m.ct.ses, .int .i64 o.m.ct.seq, .slice o.m.cA o.m.ct.rds.length o.m.cca, .slice o.m.cB o.m.ct.wrs.length o.m.ccb, .int .i64 o.m.cis, .int .i64 o.m.ciq, .int .i64 o.m.cg, .int .u64 (o.m.cst : Int), .bool o.m.cy, .int .i64 o.m.t.ses, .int .i64 o.m.t.seq, .slice o.m.A o.m.t.rds.length o.m.ca, .slice o.m.B o.m.t.wrs.length o.m.cb, .int .i64 o.m.ids, .int .i64 o.m.idq, .int .i64 o.m.g, .int .u64 (o.m.st : Int), .bool o.m.y, .int .i64 o.m.num, .string o.m.key, .int .u64 (o.m.ver : Int), .int .i64 o.m.val.kind, .int .u64 (o.m.val.bits : Int), .string o.m.val.text, .int .i64 o.m.err, .slice o.m.D o.m.data.length o.m.cd, .int .i64 o.num]
def OpX.v (o : OpX) : Value := .agg o.vs
structure OpAt (w : World) (o : OpX) : Prop where
  k : o.key.size ≤ 9223372036854775807
  v : o.val.Good
  ks : StrsAt w o.K o.keys
  kz : ∀ i, i < o.keys.length → (o.keys.getD i noStr).size ≤ 9223372036854775807
  kn : o.keys.length ≤ 9223372036854775807
  kc : o.keys.length ≤ o.ck
  m : MsgAt w o.m
theorem OpAt.later {w w' : World} {o : OpX} (h : OpAt w o) (hb : Below w.heap.size w w') : OpAt w' o :=
  ⟨h.k, h.v, CellsAt.later h.ks hb, h.kz, h.kn, h.kc, h.m.later hb⟩
def noMsg : MsgV := ⟨0, 0, 0, 0, false, 0, 0, 0, ⟨0, 0, [], []⟩, none, none, 0, 0, 0, 0, 0, 0, false, ⟨0, 0, [], []⟩, none, none, 0, 0, 0, 0, 0, 0, false, 0, noStr, 0, ⟨0, 0, noStr⟩, 0, none, [], 0⟩
instance : Inhabited MsgV := ⟨noMsg⟩
def noOpX : OpX := ⟨0, noStr, ⟨0, 0, noStr⟩, none, [], 0, noMsg, 0⟩
instance : Inhabited OpX := ⟨noOpX⟩
/-- A row of cells. -/
def CellRow (w : World) (a : Addr) (vs : Array Value) : Prop := ∀ j v, vs[j]? = some v → w.cell? (a.add j) = some v
theorem CellRow.later {w w' : World} {a : Addr} {vs : Array Value} (h : CellRow w a vs) (hb : Below w.heap.size w w') : CellRow w' a vs := fun j v hv => keep hb (h j v hv)
/-- A script in memory. -/
def OpsAt (w : World) (S : Option Addr) (l : List OpX) : Prop :=
  ∀ i, i < l.length → ∃ b off, S = some ⟨b, off, none⟩ ∧ CellRow w ⟨b, off + i * 41, none⟩ (l.getD i noOpX).vs ∧ OpAt w (l.getD i noOpX)
theorem OpsAt.later {w w' : World} {S : Option Addr} {l : List OpX} (h : OpsAt w S l) (hb : Below w.heap.size w w') : OpsAt w' S l := fun i hi => by
  obtain ⟨b, off, e, h0, h1⟩ := h i hi
  exact ⟨b, off, e, h0.later hb, h1.later hb⟩
end Go.Proofs.YtjgloipgnnigmaaGreatDoor
