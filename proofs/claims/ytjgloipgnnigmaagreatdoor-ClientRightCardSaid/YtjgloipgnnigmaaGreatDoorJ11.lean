/- command.Same and command.Formed, told loosely: some bool. -/
import Derived.Test.YtjgloipgnnigmaaGreatDoorJ7
import Derived.Test.YtjgloipgnnigmaaGreatDoorJ5
import Derived.Test.YtjgloipgnnigmaaGreatDoorJ8
import Derived.Test.YtjgloipgnnigmaaGreatDoorJ6
import Derived.RegionTactic
import Derived.Test.YtjgloipgnnigmaaGreatDoorJ9
import Derived.Deep.AppendLies
import Derived.WalkSpells
import Derived.IntWalk
import Derived.Outline
set_option linter.unusedVariables false
set_option linter.unusedSimpArgs false
namespace Go.Proofs.YtjgloipgnnigmaaGreatDoor
open Go.RowKit Go.Shelf

/-- A command: its fields, with the addresses of the rows in it. -/
structure CmdV where
  k : Int
  t : Tx
  A : Option Addr
  B : Option Addr
  ca : Nat
  cb : Nat
  is : Int
  iq : Int
  g : Int
  st : Nat
  y : Bool
def CmdV.vs (x : CmdV) : Array Value := #[.int .i64 x.k, .int .i64 x.t.ses, .int .i64 x.t.seq, .slice x.A x.t.rds.length x.ca, .slice x.B x.t.wrs.length x.cb, .int .i64 x.is, .int .i64 x.iq, .int .i64 x.g, .int .u64 (x.st : Int), .bool x.y]
theorem cmd_cs {w : World} {g : Nat} {x : CmdV} {t : TypeId} (h : w.heap[g]? = some (.cells x.vs t (0, 0))) :
    w.cell? ⟨g, 0, none⟩ = some (.int .i64 x.k) ∧ w.cell? ⟨g, 1, none⟩ = some (.int .i64 x.t.ses) ∧ w.cell? ⟨g, 2, none⟩ = some (.int .i64 x.t.seq) ∧ w.cell? ⟨g, 3, none⟩ = some (.slice x.A x.t.rds.length x.ca) ∧ w.cell? ⟨g, 4, none⟩ = some (.slice x.B x.t.wrs.length x.cb) ∧
    w.cell? ⟨g, 5, none⟩ = some (.int .i64 x.is) ∧ w.cell? ⟨g, 6, none⟩ = some (.int .i64 x.iq) ∧ w.cell? ⟨g, 7, none⟩ = some (.int .i64 x.g) ∧ w.cell? ⟨g, 8, none⟩ = some (.int .u64 (x.st : Int)) ∧ w.cell? ⟨g, 9, none⟩ = some (.bool x.y) := by
  refine ⟨?_, ?_, ?_, ?_, ?_, ?_, ?_, ?_, ?_, ?_⟩ <;> (rw [cell_of_row w g _ _ _ _ h]; rfl)
def cmdEq (a b : CmdV) : Bool := a.k == b.k && idEqB a.is a.iq b.is b.iq && a.g == b.g && (a.st : Int) == (b.st : Int) && a.y == b.y && sameT a.t b.t
set_option maxRecDepth 100000 in
set_option maxHeartbeats 4000000 in
theorem cmdSame_any (a b : CmdV) (w : World) (ha : TxAt w a.t a.A a.B) (hb : TxAt w b.t b.A b.B) : Calls Tryz.prog 138 #[.agg a.vs, .agg b.vs] w fun e w' => e = .returned (.bool (cmdEq a b)) ∧ Below w.heap.size w w' := by
  obtain ⟨W0, eW0, HB0, hsz0, hr0⟩ := boxed w a.vs 39
  obtain ⟨W, eW, HBa, hszA, hrA⟩ := boxed W0 b.vs 39
  have HB := keepB HB0 HBa
  clear hsz0 hszA
  obtain ⟨c0, c1, c2, c3, c4, c5, c6, c7, c8, c9⟩ := cmd_cs (obj_keep hr0 HBa)
  obtain ⟨d0, d1, d2, d3, d4, d5, d6, d7, d8, d9⟩ := cmd_cs hrA
  obtain ⟨bT, hbT⟩ : ∃ r, sameT a.t b.t = r := ⟨_, rfl⟩
  have HS : Hid (Calls Tryz.prog 139 #[.agg #[.int .i64 a.t.ses, .int .i64 a.t.seq, .slice a.A a.t.rds.length a.ca, .slice a.B a.t.wrs.length a.cb], .agg #[.int .i64 b.t.ses, .int .i64 b.t.seq, .slice b.A b.t.rds.length b.ca, .slice b.B b.t.wrs.length b.cb]] W fun e w' => e = .returned (.bool bT) ∧ Below W.heap.size W w') := by
    have := txSame_any a.t b.t a.A a.B b.A b.B a.ca a.cb b.ca b.cb W (ha.later HB) (hb.later HB)
    rw [hbT] at this
    exact this
  obtain ⟨bI, hbI⟩ : ∃ r, idEqB a.is a.iq b.is b.iq = r := ⟨_, rfl⟩
  have hI := eqlId a.is a.iq b.is b.iq
  rw [hbI] at hI
  have HE : Hid (cmdEq a b = (a.k == b.k && bI && a.g == b.g && (a.st : Int) == (b.st : Int) && a.y == b.y && bT)) := by show _ = _; rw [cmdEq, hbI, hbT]
  rw [HE.out]
  clear hr0 hrA ha hb hbI hbT HE
  cases bI
  all_goals
    go_enter Tryz.func138, Tryz.ntmps138
    go_wp2_with (go_at_call 139; refine HS.out.mono ?_; rintro e w1 ⟨rfl, hb⟩)
    all_goals
      go_ret
      first
        | exact ⟨ret_bool (by simp [*]), HB⟩
        | exact ⟨ret_bool (by simp [*]), keepB HB hb⟩
theorem calls_someB {P : Program} {f : FuncId} {args : Array Value} {w : World} {b : Bool} (h : Calls P f args w fun e w' => e = .returned (.bool b) ∧ Below w.heap.size w w') : Calls P f args w (SomeB w) := h.mono fun _ _ ⟨h1, h2⟩ => ⟨_, h1, h2⟩
def noCmd : CmdV := ⟨0, ⟨0, 0, [], []⟩, none, none, 0, 0, 0, 0, 0, 0, false⟩
theorem noTx_lies10 (w : World) : TxAt w ⟨0, 0, [], []⟩ none none :=
  ⟨fun _ hi => absurd hi (Nat.not_lt_zero _), fun _ hi => absurd hi (Nat.not_lt_zero _), fun _ hi => absurd hi (Nat.not_lt_zero _), fun _ hi => absurd hi (Nat.not_lt_zero _), fun _ hi => absurd hi (Nat.not_lt_zero _), Nat.zero_le _, Nat.zero_le _⟩
set_option maxRecDepth 100000 in
set_option maxHeartbeats 4000000 in
theorem cmdFormed_some (a : CmdV) (w : World) (ha : TxAt w a.t a.A a.B) (hT : Tabs w) : Calls Tryz.prog 96 #[.agg a.vs] w (SomeB w) := by
  obtain ⟨W, eW, HB, hsz0, hr0⟩ := boxed w a.vs 39
  clear hsz0
  obtain ⟨c0, c1, c2, c3, c4, c5, c6, c7, c8, c9⟩ := cmd_cs hr0
  have haW := Lib.hid (ha.later HB)
  have hTW := Lib.hid (hT.later HB)
  clear hr0 ha hT
  have HS0 : Hid (∀ wz, Below W.heap.size W wz → Calls Tryz.prog 138 #[.agg #[.int .i64 a.k, .int .i64 a.t.ses, .int .i64 a.t.seq, .slice a.A a.t.rds.length a.ca, .slice a.B a.t.wrs.length a.cb, .int .i64 a.is, .int .i64 a.iq, .int .i64 a.g, .int .u64 (a.st : Int), .bool a.y], .agg #[.int .i64 0, .int .i64 0, .int .i64 0, .slice none 0 0, .slice none 0 0, .int .i64 0, .int .i64 0, .int .i64 0, .int .u64 0, .bool false]] wz (SomeB wz)) := fun wz hb => calls_someB (cmdSame_any a noCmd wz (haW.out.later hb) (noTx_lies10 _))
  have HS1 : Hid (∀ wz, Below W.heap.size W wz → Calls Tryz.prog 138 #[.agg #[.int .i64 a.k, .int .i64 a.t.ses, .int .i64 a.t.seq, .slice a.A a.t.rds.length a.ca, .slice a.B a.t.wrs.length a.cb, .int .i64 a.is, .int .i64 a.iq, .int .i64 a.g, .int .u64 (a.st : Int), .bool a.y], .agg #[.int .i64 1, .int .i64 a.t.ses, .int .i64 a.t.seq, .slice a.A a.t.rds.length a.ca, .slice a.B a.t.wrs.length a.cb, .int .i64 0, .int .i64 0, .int .i64 0, .int .u64 0, .bool false]] wz (SomeB wz)) := fun wz hb => calls_someB (cmdSame_any a ⟨1, a.t, a.A, a.B, a.ca, a.cb, 0, 0, 0, 0, false⟩ wz (haW.out.later hb) (haW.out.later hb))
  have HS2 : Hid (∀ wz, Below W.heap.size W wz → Calls Tryz.prog 138 #[.agg #[.int .i64 a.k, .int .i64 a.t.ses, .int .i64 a.t.seq, .slice a.A a.t.rds.length a.ca, .slice a.B a.t.wrs.length a.cb, .int .i64 a.is, .int .i64 a.iq, .int .i64 a.g, .int .u64 (a.st : Int), .bool a.y], .agg #[.int .i64 2, .int .i64 0, .int .i64 0, .slice none 0 0, .slice none 0 0, .int .i64 a.is, .int .i64 a.iq, .int .i64 a.g, .int .u64 (a.st : Int), .bool false]] wz (SomeB wz)) := fun wz hb => calls_someB (cmdSame_any a ⟨2, ⟨0, 0, [], []⟩, none, none, 0, 0, a.is, a.iq, a.g, a.st, false⟩ wz (haW.out.later hb) (noTx_lies10 _))
  have HS3 : Hid (∀ wz, Below W.heap.size W wz → Calls Tryz.prog 138 #[.agg #[.int .i64 a.k, .int .i64 a.t.ses, .int .i64 a.t.seq, .slice a.A a.t.rds.length a.ca, .slice a.B a.t.wrs.length a.cb, .int .i64 a.is, .int .i64 a.iq, .int .i64 a.g, .int .u64 (a.st : Int), .bool a.y], .agg #[.int .i64 3, .int .i64 0, .int .i64 0, .slice none 0 0, .slice none 0 0, .int .i64 a.is, .int .i64 a.iq, .int .i64 a.g, .int .u64 0, .bool a.y]] wz (SomeB wz)) := fun wz hb => calls_someB (cmdSame_any a ⟨3, ⟨0, 0, [], []⟩, none, none, 0, 0, a.is, a.iq, a.g, 0, a.y⟩ wz (haW.out.later hb) (noTx_lies10 _))
  have HF : Hid (∀ wz, Below W.heap.size W wz → Calls Tryz.prog 97 #[.agg #[.int .i64 a.t.ses, .int .i64 a.t.seq, .slice a.A a.t.rds.length a.ca, .slice a.B a.t.wrs.length a.cb]] wz (SomeB wz)) := fun wz hb => calls_someB (txFormed_any a.t a.A a.B a.ca a.cb wz (haW.out.later hb) (hTW.out.later hb))
  obtain ⟨bq, hq⟩ : ∃ b, decide ((a.st : Int) < 9223372036854775808) = b := ⟨_, rfl⟩
  obtain ⟨bp, hp⟩ : ∃ b, decide ((1 : Int) ≤ (a.st : Int)) = b := ⟨_, rfl⟩
  cases k0 : (a.k == 0)
  case true =>
    clear HS1 HS2 HS3
    have HK : Below W.heap.size W W := Below.refl _ _
    go_enter Tryz.func96, Tryz.ntmps96
    go_wp2_with (first
      | (go_at_call 138; refine (HS0.out _ HK).mono ?_; rintro e w1 ⟨r, rfl, hb⟩; replace HK := keepB HK hb; clear hb)
      | (go_at_call 97; refine (HF.out _ HK).mono ?_; rintro e w1 ⟨r, rfl, hb⟩; replace c0 := keep hb c0; replace c1 := keep hb c1; replace c2 := keep hb c2; replace c3 := keep hb c3; replace c4 := keep hb c4; replace c5 := keep hb c5; replace c6 := keep hb c6; replace c7 := keep hb c7; replace c8 := keep hb c8; replace c9 := keep hb c9; replace HK := keepB HK hb; clear hb; cases r)
      | (go_at_call 98; refine (calls_someB (id_any a.is a.iq _)).mono ?_; rintro e w1 ⟨r, rfl, hb⟩; replace c0 := keep hb c0; replace c1 := keep hb c1; replace c2 := keep hb c2; replace c3 := keep hb c3; replace c4 := keep hb c4; replace c5 := keep hb c5; replace c6 := keep hb c6; replace c7 := keep hb c7; replace c8 := keep hb c8; replace c9 := keep hb c9; replace HK := keepB HK hb; clear hb; cases r)
      | (go_at_call 142; refine (cmdGroup_some a.g _).mono ?_; rintro e w1 ⟨r, rfl, hb⟩; replace c0 := keep hb c0; replace c1 := keep hb c1; replace c2 := keep hb c2; replace c3 := keep hb c3; replace c4 := keep hb c4; replace c5 := keep hb c5; replace c6 := keep hb c6; replace c7 := keep hb c7; replace c8 := keep hb c8; replace c9 := keep hb c9; replace HK := keepB HK hb; clear hb; cases r))
    all_goals
      go_ret
      exact ⟨_, rfl, keepB HB HK⟩
  cases k1 : (a.k == 1)
  case true =>
    clear HS0 HS2 HS3
    have HK : Below W.heap.size W W := Below.refl _ _
    go_enter Tryz.func96, Tryz.ntmps96
    go_wp2_with (first
      | (go_at_call 138; refine (HS1.out _ HK).mono ?_; rintro e w1 ⟨r, rfl, hb⟩; replace HK := keepB HK hb; clear hb)
      | (go_at_call 97; refine (HF.out _ HK).mono ?_; rintro e w1 ⟨r, rfl, hb⟩; replace c0 := keep hb c0; replace c1 := keep hb c1; replace c2 := keep hb c2; replace c3 := keep hb c3; replace c4 := keep hb c4; replace c5 := keep hb c5; replace c6 := keep hb c6; replace c7 := keep hb c7; replace c8 := keep hb c8; replace c9 := keep hb c9; replace HK := keepB HK hb; clear hb; cases r)
      | (go_at_call 98; refine (calls_someB (id_any a.is a.iq _)).mono ?_; rintro e w1 ⟨r, rfl, hb⟩; replace c0 := keep hb c0; replace c1 := keep hb c1; replace c2 := keep hb c2; replace c3 := keep hb c3; replace c4 := keep hb c4; replace c5 := keep hb c5; replace c6 := keep hb c6; replace c7 := keep hb c7; replace c8 := keep hb c8; replace c9 := keep hb c9; replace HK := keepB HK hb; clear hb; cases r)
      | (go_at_call 142; refine (cmdGroup_some a.g _).mono ?_; rintro e w1 ⟨r, rfl, hb⟩; replace c0 := keep hb c0; replace c1 := keep hb c1; replace c2 := keep hb c2; replace c3 := keep hb c3; replace c4 := keep hb c4; replace c5 := keep hb c5; replace c6 := keep hb c6; replace c7 := keep hb c7; replace c8 := keep hb c8; replace c9 := keep hb c9; replace HK := keepB HK hb; clear hb; cases r))
    all_goals
      go_ret
      exact ⟨_, rfl, keepB HB HK⟩
  cases k2 : (a.k == 2)
  case true =>
    clear HS0 HS1 HS3
    cases bq <;> cases bp
    all_goals
      have HK : Below W.heap.size W W := Below.refl _ _
      go_enter Tryz.func96, Tryz.ntmps96
      go_wp2_with (first
        | (go_at_call 138; refine (HS2.out _ HK).mono ?_; rintro e w1 ⟨r, rfl, hb⟩; replace HK := keepB HK hb; clear hb)
        | (go_at_call 97; refine (HF.out _ HK).mono ?_; rintro e w1 ⟨r, rfl, hb⟩; replace c0 := keep hb c0; replace c1 := keep hb c1; replace c2 := keep hb c2; replace c3 := keep hb c3; replace c4 := keep hb c4; replace c5 := keep hb c5; replace c6 := keep hb c6; replace c7 := keep hb c7; replace c8 := keep hb c8; replace c9 := keep hb c9; replace HK := keepB HK hb; clear hb; cases r)
        | (go_at_call 98; refine (calls_someB (id_any a.is a.iq _)).mono ?_; rintro e w1 ⟨r, rfl, hb⟩; replace c0 := keep hb c0; replace c1 := keep hb c1; replace c2 := keep hb c2; replace c3 := keep hb c3; replace c4 := keep hb c4; replace c5 := keep hb c5; replace c6 := keep hb c6; replace c7 := keep hb c7; replace c8 := keep hb c8; replace c9 := keep hb c9; replace HK := keepB HK hb; clear hb; cases r)
        | (go_at_call 142; refine (cmdGroup_some a.g _).mono ?_; rintro e w1 ⟨r, rfl, hb⟩; replace c0 := keep hb c0; replace c1 := keep hb c1; replace c2 := keep hb c2; replace c3 := keep hb c3; replace c4 := keep hb c4; replace c5 := keep hb c5; replace c6 := keep hb c6; replace c7 := keep hb c7; replace c8 := keep hb c8; replace c9 := keep hb c9; replace HK := keepB HK hb; clear hb; cases r))
      all_goals
        go_ret
        exact ⟨_, rfl, keepB HB HK⟩
  cases k3 : (a.k == 3)
  case true =>
    clear HS0 HS1 HS2
    have HK : Below W.heap.size W W := Below.refl _ _
    go_enter Tryz.func96, Tryz.ntmps96
    go_wp2_with (first
      | (go_at_call 138; refine (HS3.out _ HK).mono ?_; rintro e w1 ⟨r, rfl, hb⟩; replace HK := keepB HK hb; clear hb)
      | (go_at_call 97; refine (HF.out _ HK).mono ?_; rintro e w1 ⟨r, rfl, hb⟩; replace c0 := keep hb c0; replace c1 := keep hb c1; replace c2 := keep hb c2; replace c3 := keep hb c3; replace c4 := keep hb c4; replace c5 := keep hb c5; replace c6 := keep hb c6; replace c7 := keep hb c7; replace c8 := keep hb c8; replace c9 := keep hb c9; replace HK := keepB HK hb; clear hb; cases r)
      | (go_at_call 98; refine (calls_someB (id_any a.is a.iq _)).mono ?_; rintro e w1 ⟨r, rfl, hb⟩; replace c0 := keep hb c0; replace c1 := keep hb c1; replace c2 := keep hb c2; replace c3 := keep hb c3; replace c4 := keep hb c4; replace c5 := keep hb c5; replace c6 := keep hb c6; replace c7 := keep hb c7; replace c8 := keep hb c8; replace c9 := keep hb c9; replace HK := keepB HK hb; clear hb; cases r)
      | (go_at_call 142; refine (cmdGroup_some a.g _).mono ?_; rintro e w1 ⟨r, rfl, hb⟩; replace c0 := keep hb c0; replace c1 := keep hb c1; replace c2 := keep hb c2; replace c3 := keep hb c3; replace c4 := keep hb c4; replace c5 := keep hb c5; replace c6 := keep hb c6; replace c7 := keep hb c7; replace c8 := keep hb c8; replace c9 := keep hb c9; replace HK := keepB HK hb; clear hb; cases r))
    all_goals
      go_ret
      exact ⟨_, rfl, keepB HB HK⟩
  go_enter Tryz.func96, Tryz.ntmps96
  go_wp2
  go_ret
  exact ⟨_, rfl, HB⟩
end Go.Proofs.YtjgloipgnnigmaaGreatDoor
/- The client's Write, where nothing is written. -/
namespace Go.Proofs.YtjgloipgnnigmaaGreatDoor
open Go.RowKit Go.Shelf Go.Sort

section
variable {w : World} {B p : Nat} {K : CliK} {x : CliD} {O : Nat → Prop}
theorem wri_same {w' : World} {key : ByteArray} {v : Val} {z : Int} (h : CliAt w B p K x O) (hB : B ≤ w.heap.size) (hb : Below w.heap.size w w') (hd : writeD x key v = x) (hz : writeE x key v = z) : CliPost w B p K O (.int .i64 (writeE x key v)) (writeD x key v) (.returned (.int .i64 z)) w' := by
  rw [hd, hz]
  exact ⟨rfl, h.stay hb hB, Out.of_below hb⟩
set_option maxRecDepth 100000 in
set_option maxHeartbeats 2000000 in
/-- Where nothing is written: the state, the form, or too many. -/
theorem write_no {N : Nat} (h : CliAt w B p K x O) (hB : B ≤ w.heap.size) (hI : CliInv K.c N x) (hT : Tabs w) (key : ByteArray) (hk : key.size ≤ maxLen) (v : Val) (hv : v.Good) (hK : writeK x key v ≠ 2 ∧ writeK x key v ≠ 4) :
    Calls Tryz.prog 15 #[.pointer (some ⟨p, 0, none⟩), .string key, .agg #[.int .i64 v.kind, .int .u64 (v.bits : Int), .string v.text]] w (CliPost w B p K O (.int .i64 (writeE x key v)) (writeD x key v)) := by
  obtain ⟨W, eW, HB, d0, d1, d2⟩ := box3 w (.int .i64 v.kind) (.int .u64 (v.bits : Int)) (.string v.text) 28
  have hW := Lib.hid (h.later HB)
  have hTW := Lib.hid (hT.later HB)
  by_cases s1 : x.state = 1
  · have q1 : ((x.state : Int) == 1) = true := by rw [beq_iff_eq]; omega
    obtain ⟨fk, hfk⟩ : ∃ b, keyB key = b := ⟨_, rfl⟩
    cases fk
    · have HR : Hid (writeK x key v = 1) := by show _ = _; simp [writeK, s1, hfk]
      have HP : Hid (∀ w', Below w.heap.size w w' → CliPost w B p K O (.int .i64 (writeE x key v)) (writeD x key v) (.returned (.int .i64 2)) w') := fun w' hb => wri_same h hB hb (by simp [writeD, HR.out]) (by simp [writeE, HR.out])
      replace hfk := Lib.hid hfk
      clear s1 hI hK
      go_enter Tryz.func15, Tryz.ntmps15
      go_wp2_with (first
        | (go_at_call 35; refine (in_any hW.out 1 true q1).mono ?_; rintro e w1 ⟨rfl, rfl⟩)
        | (go_at_call 36; refine (calls_few hfk.out (key_any key _ hk)).mono ?_; rintro e w2 ⟨rfl, hb⟩))
      go_ret
      exact HP.out _ (keepB HB hb)
    · obtain ⟨fv, hfv⟩ : ∃ b, formedV v = b := ⟨_, rfl⟩
      have HF : Hid (∀ wz, Below W.heap.size W wz → Calls Tryz.prog 52 #[.agg #[.int .i64 v.kind, .int .u64 (v.bits : Int), .string v.text]] wz fun e w' => e = .returned (.bool fv) ∧ Below wz.heap.size wz w') := fun wz hb => by
        have := formedV_any v.kind v.bits v.text hv.t wz (hTW.out.later hb)
        rw [← hfv]
        exact this
      cases fv
      · have HR : Hid (writeK x key v = 1) := by show _ = _; simp [writeK, s1, hfv]
        have HP : Hid (∀ w', Below w.heap.size w w' → CliPost w B p K O (.int .i64 (writeE x key v)) (writeD x key v) (.returned (.int .i64 2)) w') := fun w' hb => wri_same h hB hb (by simp [writeD, HR.out]) (by simp [writeE, HR.out])
        replace hfk := Lib.hid hfk
        replace hfv := Lib.hid hfv
        clear s1 hI hK
        go_enter Tryz.func15, Tryz.ntmps15
        go_wp2_with (first
          | (go_at_call 35; refine (in_any hW.out 1 true q1).mono ?_; rintro e w1 ⟨rfl, rfl⟩)
          | (go_at_call 36; refine (calls_few hfk.out (key_any key _ hk)).mono ?_; rintro e w2 ⟨rfl, hb⟩; replace d0 := keep hb d0; replace d1 := keep hb d1; replace d2 := keep hb d2)
          | (go_at_call 52; refine (HF.out _ hb).mono ?_; rintro e w3 ⟨rfl, hb3⟩))
        go_ret
        exact HP.out _ (keepB HB (keepB hb hb3))
      · by_cases fa : atK x.wrs key = true
        · exact absurd (by simp [writeK, s1, hfk, hfv, fa]) hK.1
        · by_cases s6 : 6 ≤ x.wrs.length
          · have HR : Hid (writeK x key v = 3) := by show _ = _; simp [writeK, s1, hfk, hfv, fa, s6]
            have HP : Hid (∀ w', Below w.heap.size w w' → CliPost w B p K O (.int .i64 (writeE x key v)) (writeD x key v) (.returned (.int .i64 3)) w') := fun w' hb => wri_same h hB hb (by simp [writeD, HR.out]) (by simp [writeE, HR.out])
            obtain ⟨lk, hlk⟩ : ∃ k, Hid (lowK x.wrs key = k) := ⟨_, rfl⟩
            have HSe : Hid (∀ wz, CliAt wz B p K x O → Calls Tryz.prog 38 #[.pointer (some ⟨p, 0, none⟩), .string key] wz (SrchPost wz lk false)) := fun wz hz => by
              have := wrote_any hz key hI.wr hI.wn
              rwa [hlk.out, show atK x.wrs key = false by simpa using fa] at this
            have q6 : decide ((6 : Int) ≤ (x.wrs.length : Int)) = true := by rw [decide_eq_true_iff]; omega
            have q6b : decide (6 ≤ x.wrs.length) = true := by rw [decide_eq_true_iff]; omega
            replace hfk := Lib.hid hfk
            replace hfv := Lib.hid hfv
            clear s1 hI hK fa s6
            go_enter Tryz.func15, Tryz.ntmps15
            go_wp2_with (first
              | (go_at_call 35; refine (in_any hW.out 1 true q1).mono ?_; rintro e w1 ⟨rfl, rfl⟩)
              | (go_at_call 36; refine (calls_few hfk.out (key_any key _ hk)).mono ?_; rintro e w2 ⟨rfl, hb⟩; replace d0 := keep hb d0; replace d1 := keep hb d1; replace d2 := keep hb d2)
              | (go_at_call 52; refine (HF.out _ hb).mono ?_; rintro e w3 ⟨rfl, hb3⟩; have hb4 := Lib.hid (keepB hb hb3))
              | (go_at_call 38; refine (HSe.out _ (hW.out.later hb4.out)).mono ?_; rintro e w5 ⟨rfl, hb5⟩; have hb6 := Lib.hid (keepB hb4.out hb5); obtain ⟨_, vw, _, _, h5⟩ := hW.out.later hb6.out; obtain ⟨_, _, _, _, _, _, _, _, _, c9, _⟩ := h5.cs; obtain ⟨A9, cap9, e9, _⟩ := own_wrs h5.roww; subst e9; clear h5))
            go_ret
            exact HP.out _ (keepB HB hb6.out)
          · exact absurd (by simp [writeK, s1, hfk, hfv, fa, s6]) hK.2
  · have q1 : ((x.state : Int) == 1) = false := by rw [beq_eq_false_iff_ne]; omega
    have HR : Hid (writeK x key v = 0) := by show _ = _; simp [writeK, s1]
    have HP : Hid (∀ w', Below w.heap.size w w' → CliPost w B p K O (.int .i64 (writeE x key v)) (writeD x key v) (.returned (.int .i64 11)) w') := fun w' hb => wri_same h hB hb (by simp [writeD, HR.out]) (by simp [writeE, HR.out])
    clear s1 hI hK
    go_enter Tryz.func15, Tryz.ntmps15
    go_wp2_with (go_at_call 35; refine (in_any hW.out 1 false q1).mono ?_; rintro e w1 ⟨rfl, rfl⟩)
    go_ret
    exact HP.out _ HB
end
end Go.Proofs.YtjgloipgnnigmaaGreatDoor
/- The client's Write, where a write is set anew. -/
namespace Go.Proofs.YtjgloipgnnigmaaGreatDoor
open Go.RowKit Go.Shelf Go.Sort

theorem own_set {w : World} {base n size g c j : Nat} {e : TypeId} {xs : List Value} (v : Value) (h : w.ownsRow base e size (.slice (some ⟨g, 0, none⟩) n c) n xs) : (w.setCell ⟨g, j, none⟩ v).ownsRow base e size (.slice (some ⟨g, 0, none⟩) n c) n (xs.set j v) := by
  refine ⟨by rw [List.length_set]; exact h.1, ?_⟩
  rcases h.2 with ⟨e0, _⟩ | ⟨g', cap, cur, e1, hfr, hh, hn, hm, hs, ht⟩
  · cases e0
  · cases e1
    refine .inr ⟨g, c, cur.setIfInBounds j v, rfl, hfr, blk_set21 v hh, hn, hm, by rw [Array.size_setIfInBounds]; exact hs, ?_⟩
    rw [Array.toList_setIfInBounds, List.take_set, ht]
theorem wrCells_set : ∀ (l : List Wr) (k : Nat) (v : Val), k < l.length →
    (((wrCells l).set (k * 4 + 1) (.int .i64 v.kind)).set (k * 4 + 2) (.int .u64 (v.bits : Int))).set (k * 4 + 3) (.string v.text) = wrCells (l.set k ⟨(l.getD k noWr).key, v⟩)
  | [], k, v, h => by simp at h
  | x :: l, 0, v, _ => by simp [wrCells]
  | x :: l, k + 1, v, h => by
    have := wrCells_set l k v (by simpa using h)
    rw [show (k + 1) * 4 + 1 = (k * 4 + 1) + 4 by omega, show (k + 1) * 4 + 2 = (k * 4 + 2) + 4 by omega, show (k + 1) * 4 + 3 = (k * 4 + 3) + 4 by omega]
    simpa [wrCells] using this
section
variable {w w' : World} {B p : Nat} {K : CliK} {x : CliD} {vr vw va vk : Value} {O : Nat → Prop}
/-- Behind a store into the row of writes. -/
theorem CliIn.inw (h : CliIn w B p K x vr vw va vk O) {l : List Wr} (hr : w'.ownsRow B 112 4 vw l.length (wrCells l)) (ho : Out (fun k => vw.ownBlock = some k) w w') : CliIn w' B p K { x with wrs := l } vr vw va vk O :=
  { h with blk := ho.obj h.blk (fun e => (h.miw p e).2 rfl), rowr := ho.row h.rowr (fun g hg e => h.prw g hg e), roww := hr, rowa := ho.row h.rowa (fun g hg e => h.pwa g e hg), rowk := ho.row h.rowk (fun g hg e => h.pwk g e hg), lt := fun k hk => ⟨(h.lt k hk).1, Nat.lt_of_lt_of_le (h.lt k hk).2 ho.size⟩ }
theorem CliIn.setAt {g c : Nat} (h : CliIn w B p K x vr (.slice (some ⟨g, 0, none⟩) x.wrs.length c) va vk O) {k : Nat} (hk : k < x.wrs.length) (key : ByteArray) (e : (x.wrs.getD k noWr).key = key) (v : Val) :
    CliIn (((w.setCell ⟨g, k * 4 + 1, none⟩ (.int .i64 v.kind)).setCell ⟨g, k * 4 + 2, none⟩ (.int .u64 (v.bits : Int))).setCell ⟨g, k * 4 + 3, none⟩ (.string v.text)) B p K { x with wrs := x.wrs.set k ⟨key, v⟩ } vr (.slice (some ⟨g, 0, none⟩) x.wrs.length c) va vk O := by
  refine h.inw ?_ ?_
  · have := own_set (j := k * 4 + 3) (.string v.text) (own_set (j := k * 4 + 2) (.int .u64 (v.bits : Int)) (own_set (j := k * 4 + 1) (.int .i64 v.kind) h.roww))
    rw [wrCells_set _ _ _ hk, e] at this
    rw [List.length_set]
    exact this
  · have hf : ∀ k', k' = g → (Value.slice (some ⟨g, 0, none⟩) x.wrs.length c).ownBlock = some k' := fun k' e => by rw [e]; rfl
    exact (((out_set21 w g _ _).mono hf).trans' ((out_set21 _ g _ _).mono hf)).trans' ((out_set21 _ g _ _).mono hf)
end
section
variable {w : World} {B p : Nat} {K : CliK} {x : CliD} {O : Nat → Prop}
set_option maxRecDepth 100000 in
set_option maxHeartbeats 4000000 in
/-- Where a write is set anew. -/
theorem write_set {N : Nat} (h : CliAt w B p K x O) (hB : B ≤ w.heap.size) (hI : CliInv K.c N x) (hT : Tabs w) (key : ByteArray) (hk : key.size ≤ maxLen) (v : Val) (hv : v.Good) (hK : writeK x key v = 2) :
    Calls Tryz.prog 15 #[.pointer (some ⟨p, 0, none⟩), .string key, .agg #[.int .i64 v.kind, .int .u64 (v.bits : Int), .string v.text]] w (CliPost w B p K O (.int .i64 (writeE x key v)) (writeD x key v)) := by
  have s1 : x.state = 1 := by
    rcases Nat.decEq x.state 1 with q | q
    · simp [writeK, q] at hK
    · exact q
  have hfk : keyB key = true ∧ formedV v = true := by
    rcases hq : (keyB key && formedV v) with _ | _
    · simp [writeK, s1, hq] at hK
    · simpa using hq
  obtain ⟨hfk, hfv⟩ := hfk
  have fa : atK x.wrs key = true := by
    rcases hq : atK x.wrs key with _ | _
    · by_cases q6 : 6 ≤ x.wrs.length
      · simp [writeK, s1, hfk, hfv, hq, q6] at hK
      · simp [writeK, s1, hfk, hfv, hq, q6] at hK
    · rfl
  have hat := fa
  simp only [atK, Bool.and_eq_true, decide_eq_true_eq] at hat
  obtain ⟨hlt, hke⟩ := hat
  have HR : Hid (writeE x key v = 0 ∧ writeD x key v = { x with wrs := x.wrs.set (lowK x.wrs key) ⟨key, v⟩ }) := by show _ ∧ _; simp [writeE, writeD, hK]
  obtain ⟨W, eW, HB, d0, d1, d2⟩ := box3 w (.int .i64 v.kind) (.int .u64 (v.bits : Int)) (.string v.text) 28
  have hW := Lib.hid (h.later HB)
  have hTW := Lib.hid (hT.later HB)
  have hlo := Lib.hid h.lt'
  have q1 : ((x.state : Int) == 1) = true := by rw [beq_iff_eq]; omega
  have HF : Hid (∀ wz, Below W.heap.size W wz → Calls Tryz.prog 52 #[.agg #[.int .i64 v.kind, .int .u64 (v.bits : Int), .string v.text]] wz fun e w' => e = .returned (.bool true) ∧ Below wz.heap.size wz w') := fun wz hb => by
    have := formedV_any v.kind v.bits v.text hv.t wz (hTW.out.later hb)
    rw [← hfv]
    exact this
  have HSe : Hid (∀ wz, CliAt wz B p K x O → Calls Tryz.prog 38 #[.pointer (some ⟨p, 0, none⟩), .string key] wz (SrchPost wz (lowK x.wrs key) true)) := fun wz hz => by
    have := wrote_any hz key hI.wr hI.wn
    rwa [fa] at this
  have hwn := hI.wn
  generalize lowK x.wrs key = lk at hlt hke HR HSe
  replace hfk := Lib.hid hfk
  replace hfv := Lib.hid hfv
  replace hke := Lib.hid hke
  have hgi : (lk : Int) < (x.wrs.length : Int) := by omega
  clear s1 hI hK fa
  go_enter Tryz.func15, Tryz.ntmps15
  go_wp2_with (first
    | (go_at_call 35; refine (in_any hW.out 1 true q1).mono ?_; rintro e w1 ⟨rfl, rfl⟩)
    | (go_at_call 36; refine (calls_few hfk.out (key_any key _ hk)).mono ?_; rintro e w2 ⟨rfl, hb⟩; replace d0 := keep hb d0; replace d1 := keep hb d1; replace d2 := keep hb d2)
    | (go_at_call 52; refine (HF.out _ hb).mono ?_; rintro e w3 ⟨rfl, hb3⟩; have hb4 := Lib.hid (keepB hb hb3); replace d0 := keep hb3 d0; replace d1 := keep hb3 d1; replace d2 := keep hb3 d2)
    | (go_at_call 38; refine (HSe.out _ (CliAt.later hW.out hb4.out)).mono ?_; rintro e w5 ⟨rfl, hb5⟩; have hb6 := Lib.hid (keepB hb4.out hb5); replace d0 := keep hb5 d0; replace d1 := keep hb5 d1; replace d2 := keep hb5 d2))
  obtain ⟨vr, vw, va, vk, h5⟩ := CliAt.later hW.out hb6.out
  obtain ⟨_, _, _, _, _, _, _, _, _, c9, _⟩ := h5.cs
  have hrow := h5.roww
  obtain ⟨g, cap, cur, rfl, hh⟩ : ∃ g cap cur, vw = .slice (some ⟨g, 0, none⟩) x.wrs.length cap ∧ w5.heap[g]? = some (.cells cur 112 (0, 0)) := by
    rcases hrow.2 with ⟨e0, e1⟩ | ⟨g', cap, cur, e1, _, hh, _⟩
    · omega
    · exact ⟨g', cap, cur, e1, hh⟩
  obtain ⟨A9, k9, e9, _, hA9, _⟩ := own_wrs hrow
  cases e9
  obtain ⟨b0, o0, s0, z0, n0, t0, e0, _, f1, f2, f3, _⟩ := hA9.at' hlt
  cases e0
  rw [Nat.zero_add] at f1 f2 f3
  have g1 : w5.frozen? ⟨g, lk * 4 + 1, none⟩ = false := frozen_of_row w5 g _ _ _ hh
  have g2 : w5.frozen? ⟨g, lk * 4 + 2, none⟩ = false := frozen_of_row w5 g _ _ _ hh
  have g3 : w5.frozen? ⟨g, lk * 4 + 3, none⟩ = false := frozen_of_row w5 g _ _ _ hh
  have hOg : Hid (O g) := (h5.miw g rfl).1
  have H5 := Lib.hid h5
  clear h5 hrow hh hA9
  try go_meet
  try go_wp2
  go_region
  go_wp2
  go_ret
  rw [HR.out.1, HR.out.2]
  have hA := H5.out.setAt hlt key hke.out v
  have hd : ∀ wz : World, Below wz.heap.size wz wz.drew := fun wz => below_drew (Below.refl _ _)
  have hog : ∀ k', k' = g → O k' := fun k' e => by rw [e]; exact hOg.out
  exact ⟨rfl, ⟨_, _, _, _, (hA.later (hd _)).widen (fun k hk => (hlo.out k hk).2) hB⟩, ((((Out.of_below (keepB HB hb6.out)).trans' ((out_set21 w5 g _ _).mono hog)).trans' ((out_set21 _ g _ _).mono hog)).trans' ((out_set21 _ g _ _).mono hog)).trans' (Out.of_below (hd _))⟩
end
end Go.Proofs.YtjgloipgnnigmaaGreatDoor
/- ClientSends in plain Lean: what is sent is formed, and goes to a group that it is about. -/
namespace Go.Proofs.YtjgloipgnnigmaaGreatDoor
open Go.RowKit

section
variable {c : Cfg} {N : Nat} {x : CliD}
theorem home_lt (hf : formedB c = true) (key : ByteArray) : homeN c key < c.reps.length := by
  have h1 := formed_len hf
  have h2 := leTo_le c.bnds key c.bnds.length
  rw [homeN]
  omega
theorem txn_formed (h : CliInv c N x) (ses : Int) (h1 : 1 ≤ ses) (h8 : ses ≤ 8) (hx : inTxn x = true) (hp : 0 < x.rds.length + x.wrs.length) : formedT (txnD ses x) = true := by
  obtain ⟨o1, o2, o3, o4⟩ := h.one hx
  have hrk : (x.rds.map Rd.key).Nodup := (List.nodup_append.1 o3).1
  have hr := (rise_iff (x.rds.map Rd.key)).2 ⟨fun k hk => o4 k (List.mem_append_left _ hk), rkeys_rise h.srt hrk⟩
  have hw := (rise_iff (x.wrs.map Wr.key)).2 ⟨fun k hk => by
    obtain ⟨a, ha, rfl⟩ := List.mem_map.1 hk
    exact (h.wr.2 a ha).1, h.wr.1⟩
  rw [List.length_map] at hr hw
  have hs := h.sq
  have hrn := h.rn
  have hwn := h.wn
  have hv : valsB x.wrs = true := by
    unfold valsB
    rw [List.all_eq_true]
    exact fun a ha => (h.wr.2 a ha).2
  have hrk' : rKeys ⟨ses, x.seq, x.rds, x.wrs⟩ = x.rds.map Rd.key := rfl
  have hwk' : wKeys ⟨ses, x.seq, x.rds, x.wrs⟩ = x.wrs.map Wr.key := rfl
  have hid : idB ses (x.seq : Int) = true := by
    simp only [idB, Bool.and_eq_true, decide_eq_true_eq]
    omega
  rw [txnD, if_pos hx, formedT, hrk', hwk', hid, hv]
  simp only [Bool.and_eq_true, decide_eq_true_eq, Bool.not_eq_true', decide_eq_false_iff_not]
  exact ⟨⟨⟨⟨⟨⟨trivial, hrn⟩, hwn⟩, by omega⟩, hr⟩, hw⟩, trivial⟩
end
end Go.Proofs.YtjgloipgnnigmaaGreatDoor
/- slices.Insert at writes, at any place. -/
namespace Go.Proofs.YtjgloipgnnigmaaGreatDoor
open Go.RowKit

def wrC (v : Wr) : List Value := [.string v.key, .int .i64 v.val.kind, .int .u64 (v.val.bits : Int), .string v.val.text]
theorem wrC_len (v : Wr) : (wrC v).length = 4 := rfl
theorem wrC_one (v : Wr) : ∀ u ∈ wrC v, u.oneCell' = true := fun u hu => by
  simp only [wrC, List.mem_cons, List.not_mem_nil, or_false] at hu
  rcases hu with rfl | rfl | rfl | rfl <;> rfl
theorem wrCs_one (l : List Wr) : ∀ u ∈ wrCells l, u.oneCell' = true := fun u hu => by
  obtain ⟨x, _, hu⟩ := List.mem_flatMap.1 hu
  exact wrC_one x u hu
theorem wr_take (l : List Wr) (k : Nat) : (wrCells l).take (k * 4) = wrCells (l.take k) := flat_take wrC 4 wrC_len l k
theorem wr_drop (l : List Wr) (k : Nat) : (wrCells l).drop (k * 4) = wrCells (l.drop k) := flat_drop wrC 4 wrC_len l k
theorem wr_ins (l : List Wr) (k : Nat) (v : Wr) : wrCells (insK l k v) = wrCells (l.take k) ++ wrC v ++ wrCells (l.drop k) := by
  simp [wrCells, insK, wrC]
theorem info_wrt : (Tryz.prog.info? 112).map (fun i => (i.zero, i.size, i.bytes)) = some (some (.agg #[.string ByteArray.empty, .int .i64 0, .int .u64 0, .string ByteArray.empty]), 4, 48) := by kernel_rfl
theorem wr_cells21 (v : Wr) : ∀ (w : World) (vb : Nat), w.heap[vb]? = some (.cells (wrC v).toArray 112 (0, 0)) → ∀ j u, (wrC v)[j]? = some u → w.cell? ((⟨vb, 0, none⟩ : Addr).add j) = some u := fun w vb h j u hu => by
  rw [Go.WideShapes.add_plain, cell_of_row w vb (0 + j) _ _ (0, 0) h, ← hu]
  simp
def InsPostW (w : World) (B : Nat) (v0 : Value) (l : List Wr) (e : Ending) (w' : World) : Prop :=
  ∃ v', e = .returned v' ∧ w'.ownsRow B 112 4 v' l.length (wrCells l) ∧ w.grownBy w' v0.ownBlock ∧ (v'.ownBlock = v0.ownBlock ∨ ∃ g, v'.ownBlock = some g ∧ w.heap.size ≤ g)
theorem insK_end (l : List Wr) (v : Wr) : insK l l.length v = l ++ [v] := by simp [insK]
theorem min_a {a b n k : Nat} (h : a ≤ b) (hn : n = a * k) : n = Nat.min a b * k := by rw [show Nat.min a b = a from Nat.min_eq_left h]; exact hn
theorem min_b {a b n k : Nat} (h : b ≤ a) (hn : n = b * k) : n = Nat.min a b * k := by rw [show Nat.min a b = b from Nat.min_eq_right h]; exact hn
set_option maxRecDepth 100000 in
/-- At the end of the row. -/
theorem insW_end (l : List Wr) (v : Wr) (B vb : Nat) (v0 : Value) (w : World) (h0 : w.ownsRow B 112 4 v0 l.length (wrCells l)) (hv : w.heap[vb]? = some (.cells (wrC v).toArray 112 (0, 0))) (hB : B ≤ w.heap.size) (hn : l.length ≤ 6) :
    Calls Tryz.prog 53 #[v0, .int .i64 (l.length : Int), .slice (some ⟨vb, 0, none⟩) 1 1] w (InsPostW w B v0 (insK l l.length v)) := by
  obtain ⟨i0, hi, hz0, hz1, hz2⟩ := info_parts info_wrt
  have HV := Lib.hid hv
  have HC := Lib.hid (wr_cells21 v)
  have H0 := Lib.hid h0
  have hlen : Hid (wrCells (insK l l.length v) = wrCells l ++ wrC v ∧ (insK l l.length v).length = l.length + 1) := by show _ ∧ _; rw [insK_end]; exact ⟨by simp [wrCells, wrC], by simp⟩
  obtain ⟨A0, cap, rfl⟩ : ∃ A0 cap, v0 = .slice A0 l.length cap := by
    rcases h0.2 with ⟨rfl, e⟩ | ⟨g, cap, cur, rfl, _⟩
    · exact ⟨none, 0, by rw [e]⟩
    · exact ⟨_, _, rfl⟩
  clear hv h0
  by_cases hcl : cap = l.length
  · subst hcl
    go_enter Tryz.func53, Tryz.ntmps53
    go_wp2_with (at_builtin; refine wpList_append_own_at _ rfl _ _ 35 rfl B 112 i0 _ 4 48 Tryz.underlying35 hi hz0 hz1 hz2 rfl (by decide) (.slice A0 l.length l.length) l.length (wrCells l) rfl H0.out ⟨vb, 0, none⟩ 1 1 (wrC v) rfl rfl (HC.out _ _ HV.out) (wrC_one v) (le_maxLen (by omega)) (by omega) hB ?_; intro v' w1 hown hgr hb1 hb2)
    go_ret
    exact ⟨v', rfl, by rw [hlen.out.1, hlen.out.2]; exact hown, hgr, hb2.elim .inl (fun e => .inr ⟨_, e, Nat.le_refl _⟩)⟩
  · go_enter Tryz.func53, Tryz.ntmps53
    go_wp2_with (at_builtin; refine wpList_append_own_at _ rfl _ _ 35 rfl B 112 i0 _ 4 48 Tryz.underlying35 hi hz0 hz1 hz2 rfl (by decide) (.slice A0 l.length cap) l.length (wrCells l) rfl H0.out ⟨vb, 0, none⟩ 1 1 (wrC v) rfl rfl (HC.out _ _ HV.out) (wrC_one v) (le_maxLen (by omega)) (by omega) hB ?_; intro v' w1 hown hgr hb1 hb2)
    go_ret
    exact ⟨v', rfl, by rw [hlen.out.1, hlen.out.2]; exact hown, hgr, hb2.elim .inl (fun e => .inr ⟨_, e, Nat.le_refl _⟩)⟩
set_option maxRecDepth 100000 in
set_option maxHeartbeats 2000000 in
/-- Within the row. -/
theorem insW_in (l : List Wr) (k : Nat) (hk : k < l.length) (v : Wr) (B vb : Nat) (v0 : Value) (w : World) (h0 : w.ownsRow B 112 4 v0 l.length (wrCells l)) (hv : w.heap[vb]? = some (.cells (wrC v).toArray 112 (0, 0))) (hne : v0.ownBlock ≠ some vb) (hB : B ≤ w.heap.size) (hn : l.length ≤ 6) :
    Calls Tryz.prog 53 #[v0, .int .i64 (k : Int), .slice (some ⟨vb, 0, none⟩) 1 1] w (InsPostW w B v0 (insK l k v)) := by
  obtain ⟨i0, hi, hz0, hz1, hz2⟩ := info_parts info_wrt
  have hsz : (Tryz.prog.info? 112).map (·.size) = some 4 := by kernel_rfl
  have HV := Lib.hid hv
  have HC := Lib.hid (wr_cells21 v)
  have hvlt : vb < w.heap.size := (Array.getElem?_eq_some_iff.1 hv).1
  clear hv
  have HIc := Lib.hid (wr_ins l k v)
  have HIl : Hid ((insK l k v).length = l.length + 1) := by show _ = _; simp [insK]; omega
  have HTk := Lib.hid (wr_take l k)
  rcases h0.2 with ⟨rfl, hl0⟩ | ⟨g, cap, cur, rfl, hg, hrow, hncap, hcm, hcs, htk⟩
  · omega
  · have HO0 := Lib.hid (fun j u hj => World.ownsRow.cells (g := g) h0 rfl j u hj)
    have HD := Lib.hid (wr_drop l k)
    have HO : Hid (∀ j u, (wrCells (l.drop k))[j]? = some u → w.cell? ((⟨g, k * 4, none⟩ : Addr).add j) = some u) := fun j u hj => by
      rw [← HD.out, List.getElem?_drop] at hj
      have := HO0.out _ u hj
      simpa [Go.WideShapes.add_plain, Nat.add_assoc] using this
    have HOt : Hid (∀ j u, (wrCells (l.take k))[j]? = some u → w.cell? ((⟨g, 0, none⟩ : Addr).add j) = some u) := fun j u hj => by
      rw [← HTk.out] at hj
      rw [List.getElem?_take] at hj
      split at hj
      · exact HO0.out j u hj
      · cases hj
    have HR := Lib.hid hrow
    have HT := Lib.hid htk
    have hglt : g < w.heap.size := (Array.getElem?_eq_some_iff.1 hrow).1
    have HKd : Hid ((wrCells (l.drop k)).length = (l.length - k) * 4) := by show _ = _; rw [wrCells_len, List.length_drop]
    have HKt : Hid ((wrCells (l.take k)).length = k * 4) := by show _ = _; rw [wrCells_len, List.length_take, Nat.min_eq_left (by omega)]
    have HS := Lib.hid hcs
    have HM := Lib.hid hcm
    clear h0 hrow htk hcs hcm
    have hb0 : ((l.length : Int) == 0) = false := by rw [beq_eq_false_iff_ne]; omega
    have hb1 : ((k : Int) == (l.length : Int)) = false := by rw [beq_eq_false_iff_ne]; omega
    have hgv : g ≠ vb := fun e => hne (by rw [e]; rfl)
    clear hne
    have hk0 : (0 : Int) ≤ (k : Int) := by omega
    have hkl : (k : Int) ≤ (l.length : Int) := by omega
    by_cases hroom : l.length + 1 ≤ cap
    · have hcap63 : cap ≤ 9223372036854775807 := by have := HM.out; unfold maxLen at this; omega
      have hov : (callFunc 108 #[.slice (some ⟨vb, 0, none⟩) 1 1, .slice (some ⟨g, (k + 1) * 4, none⟩) (l.length - k) (cap - (k + 1))]).run Tryz.prog w = .ok (.value (.bool false)) w := by
        rw [run_callFunc_extern Tryz.func108 (by kernel_rfl) (by kernel_rfl) (by kernel_rfl) (e := Extern.SlicesOverlaps.overlaps #[35, 35] #[4]) (by kernel_rfl),
          Lib.run_overlaps_apart w 35 4 112 Tryz.underlying35 4 (fun w => by obtain ⟨i1, h1, _, h2, _⟩ := info_parts info_wrt; simp [sizeOf, typeInfo, h1, h2]) ⟨vb, 0, none⟩ ⟨g, (k + 1) * 4, none⟩ 1 1 (l.length - k) (cap - (k + 1)) (fun e => hgv e.symm) 112 112 4 (cap * 4)
            (by simp [World.shape?, HV.out, wrC]) (by simp [World.shape?, HR.out, HS.out]) (by omega) (by simp [World.frozen?, HV.out]) (by simp [World.frozen?, HV.out])]
        rfl
      have hb2 : ¬ (cap < l.length + 1) := by omega
      have hb3 : ¬ ((cap : Int) < (l.length : Int) + 1) := by omega
      have hcp : ¬ (cap = 0) := by omega
      have hcp1 : ¬ (cap = k + 1) := by omega
      have hcp2 : ¬ (cap = k) := by omega
      have hw1 : IntKind.i64.wrap 1 = 1 := by decide
      have hwk : IntKind.i64.wrap ((k : Int) + 1) = (k : Int) + 1 := IntWalk.i64_in _ (by omega)
      have hbd2 : (l.length : Int) + 1 ≤ (cap : Int) := by omega
      have hbd0 : (0 : Int) ≤ (l.length : Int) + 1 := by omega
      have hbd3 : (k : Int) + 1 ≤ (l.length : Int) + 1 := by omega
      have hbd4 : (0 : Int) ≤ (k : Int) + 1 := by omega
      have hbd5 : (k : Int) ≤ (l.length : Int) + 1 := by omega
      go_enter Tryz.func53, Tryz.ntmps53
      go_wp2_with (simp only [hov])
      have hcs := HS.out
      have hcurl : cur.toList.length = cap * 4 := by rw [Array.length_toList, hcs]
      replace hcs := Lib.hid hcs
      replace hcurl := Lib.hid hcurl
      have hR2 : Hid (w.drew.heap[g]? = some (.cells cur.toList.toArray 112 (0, 0))) := by show _ = _; rw [Array.toArray_toList]; exact HR.out
      have hf1 : Hid ((k + 1) * 4 + (wrCells (l.drop k)).length ≤ cur.toList.length) := by show _ ≤ _; rw [hcurl.out, HKd.out]; omega
      have hm1 : Hid ((wrCells (l.drop k)).length = Nat.min (l.length + 1 - k) (l.length - k) * 4) := min_b (by omega) HKd.out
      have hm2 : Hid ((wrC v).length = Nat.min 1 (l.length + 1 - k) * 4) := min_a (by omega) rfl
      go_region_law ((refine step_copy_spliceS rfl _ _ 35 35 rfl 112 4 Tryz.underlying35 hsz g ((k + 1) * 4) (l.length - k) (cap - (k + 1)) ⟨g, k * 4, none⟩ (l.length + 1 - k) (cap - k) (by simp [Act.eval, Act.put]) (by simp [Act.eval, Act.put]) cur.toList 112 hR2.out (wrCells (l.drop k)) hm1.out HO.out hf1.out (wrCs_one _) ?_; intro n2 w2 hrow2 hgr2))
      all_goals
        have hsl : (splice cur.toList ((k + 1) * 4) (wrCells (l.drop k))).length = cap * 4 := by rw [length_splice _ _ _ hf1.out]; exact hcurl.out
        replace hsl := Lib.hid hsl
        have hf2 : Hid (k * 4 + (wrC v).length ≤ (splice cur.toList ((k + 1) * 4) (wrCells (l.drop k))).length) := by show _ ≤ _; rw [hsl.out, wrC_len]; omega
        go_wp2_with (have _h := hrow2; refine wpList_copy_spliceS rfl _ _ 35 35 rfl 112 4 Tryz.underlying35 hsz g (k * 4) (l.length + 1 - k) (cap - k) ⟨vb, 0, none⟩ 1 1 rfl rfl (splice cur.toList ((k + 1) * 4) (wrCells (l.drop k))) 112 hrow2.out (wrC v) hm2.out (fun j u hj => hgr2.cell (HC.out _ _ HV.out j u hj) (by rw [Go.WideShapes.add_plain]; simp; omega)) hf2.out (wrC_one v) ?_; intro n3 w3 hrow3 hgr3)
        go_ret
        refine ⟨.slice (some ⟨g, 0, none⟩) (l.length + 1) cap, rfl, ⟨?_, .inr ⟨g, cap, _, by rw [HIl.out], hg, hrow3.out, by rw [HIl.out]; exact hroom, HM.out, ?_, ?_⟩⟩, ?_, .inl rfl⟩
        · rw [wrCells_len]
        · rw [List.size_toArray, length_splice _ _ _ hf2.out, hsl.out]
        · have hT := HT.out
          have e1 : (k + 1) * 4 = k * 4 + (wrC v).length := by rw [wrC_len]; omega
          have e2 : (l.length + 1) * 4 = k * 4 + (wrC v).length + (wrCells (l.drop k)).length := by rw [wrC_len, HKd.out]; omega
          have := splice_ins cur.toList (k * 4) (wrC v) (wrCells (l.drop k)) (by rw [wrC_len, hcurl.out]; omega)
          rw [HIl.out, HIc.out, e1, e2]
          show List.take _ (splice _ _ _) = _
          rw [this, ← HTk.out, ← hT, List.take_take, Nat.min_eq_left (by omega)]
        · refine ⟨hgr3.os.trans hgr2.os, hgr3.tape.trans hgr2.tape, hgr3.output.trans hgr2.output, Nat.le_trans hgr2.size hgr3.size, fun k' hk' hne => ?_⟩
          have h2 := hgr2.size
          rw [hgr3.block k' (by have h4 : w.drew.heap.size = w.heap.size := rfl; omega) hne, hgr2.block k' hk' hne]
          rfl
    · obtain rfl : cap = l.length := by omega
      clear hroom
      have hc3 : (l.length : Int) < (l.length : Int) + 1 := by omega
      have hcp2 : ¬ (l.length = k) := by omega
      have hwz : IntKind.i64.wrap ((l.length : Int) + 1 - (k : Int)) = (l.length : Int) + 1 - (k : Int) := IntWalk.i64_in _ (by omega)
      have hwz1 : IntKind.i64.wrap ((l.length : Int) + 1) = (l.length : Int) + 1 := IntWalk.i64_in _ (by omega)
      have hwk : IntKind.i64.wrap ((k : Int) + 1) = (k : Int) + 1 := IntWalk.i64_in _ (by omega)
      have hzk : (l.length : Int) + 1 - (k : Int) = ((l.length + 1 - k : Nat) : Int) := by omega
      have hm2 : Hid ((wrC v).length = Nat.min 1 (l.length + 1 - k) * 4) := min_a (by omega) rfl
      have hm3 : Hid ((wrCells (l.drop k)).length = Nat.min (l.length - k) (l.length - k) * 4) := min_a (Nat.le_refl _) HKd.out
      go_enter Tryz.func53, Tryz.ntmps53
      go_wp2_with (first
        | (at_builtin; refine wpList_append_zerosN rfl _ _ 35 3 rfl 112 i0 _ 4 48 Tryz.underlying35 Tryz.underlying3 hi hz0 hz1 hz2 rfl (by decide) g k l.length (l.length + 1 - k) (l.length + 1) (by omega) _ rfl rfl rfl (by omega) (by omega) (wrCells (l.take k)) HKt.out HOt.out (by omega) (by omega) ?_; intro G cur1 w1 hG1 hG2 hcl1 htk1 hrow1 hgr1 hsz1; replace hrow1 := Lib.hid hrow1; replace hcl1 := Lib.hid hcl1; replace hsz1 := Lib.hid hsz1; replace htk1 := Lib.hid htk1; have hG3 : ¬ (G = k + 1) := (by omega); have hG4 : ¬ (G = k) := (by omega); have hkl1 : (k : Int) ≤ (l.length : Int) + 1 := (by omega); have hbd3 : (k : Int) + 1 ≤ (l.length : Int) + 1 := (by omega); have hbd4 : (0 : Int) ≤ (k : Int) + 1 := (by omega); have hf3 : Hid (k * 4 + (wrC v).length ≤ cur1.length) := (show k * 4 + (wrC v).length ≤ cur1.length by rw [hcl1.out, wrC_len]; omega))
        | (have _h := hrow1; refine wpList_copy_spliceS rfl _ _ 35 35 rfl 112 4 Tryz.underlying35 hsz w.heap.size (k * 4) (l.length + 1 - k) (G - k) ⟨vb, 0, none⟩ 1 1 rfl rfl cur1 112 hrow1.out (wrC v) hm2.out (fun j u hj => hgr1.cell (HC.out _ _ HV.out j u hj) (by simp)) hf3.out (wrC_one v) ?_; intro n2 w2 hrow2 hgr2))
      have hsl : (splice cur1 (k * 4) (wrC v)).length = G * 4 := by rw [length_splice _ _ _ hf3.out]; exact hcl1.out
      replace hsl := Lib.hid hsl
      have hf4 : Hid ((k + 1) * 4 + (wrCells (l.drop k)).length ≤ (splice cur1 (k * 4) (wrC v)).length) := by show _ ≤ _; rw [hsl.out, HKd.out]; omega
      go_region_law ((refine step_copy_spliceS rfl _ _ 35 35 rfl 112 4 Tryz.underlying35 hsz w.heap.size ((k + 1) * 4) (l.length - k) (G - (k + 1)) ⟨g, k * 4, none⟩ (l.length - k) (l.length - k) (by simp [Act.eval, Act.put]) (by simp [Act.eval, Act.put]) (splice cur1 (k * 4) (wrC v)) 112 hrow2.out (wrCells (l.drop k)) hm3.out (fun j u hj => hgr2.cell (hgr1.cell (HO.out j u hj) (by simp)) (by rw [Go.WideShapes.add_plain]; simp; omega)) hf4.out (wrCs_one _) ?_; intro n3 w3 hrow3 hgr3))
      all_goals
        go_wp2
        go_ret
        refine ⟨.slice (some ⟨w.heap.size, 0, none⟩) (l.length + 1) G, rfl, ⟨?_, .inr ⟨w.heap.size, G, _, by rw [HIl.out], hB, hrow3.out, by rw [HIl.out]; exact hG1, by unfold maxLen; omega, ?_, ?_⟩⟩, ?_, .inr ⟨w.heap.size, rfl, Nat.le_refl _⟩⟩
        · rw [wrCells_len]
        · rw [List.size_toArray, length_splice _ _ _ hf4.out, hsl.out]
        · have e1 : (k + 1) * 4 = k * 4 + (wrC v).length := by rw [wrC_len]; omega
          have e2 : (l.length + 1) * 4 = k * 4 + (wrC v).length + (wrCells (l.drop k)).length := by rw [wrC_len, HKd.out]; omega
          have := splice_grow cur1 (k * 4) (wrC v) (wrCells (l.drop k)) hf3.out
          rw [HIl.out, HIc.out, e1, e2]
          show List.take _ (splice _ _ _) = _
          rw [this, htk1.out]
        · have hsz1' := hsz1.out
          have h2 := hgr2.size
          refine ⟨hgr3.os.trans (hgr2.os.trans hgr1.os), hgr3.tape.trans (hgr2.tape.trans hgr1.tape), hgr3.output.trans (hgr2.output.trans hgr1.output), by have := hgr3.size; have h4 : w2.drew.heap.size = w2.heap.size := rfl; omega, fun k' hk' _ => ?_⟩
          rw [hgr3.block k' (by show k' < w2.heap.size; omega) (by simp; omega), show w2.drew.heap[k']? = w2.heap[k']? from rfl, hgr2.block k' (by omega) (by simp; omega), hgr1.block k' hk' (by simp)]
/-- slices.Insert at writes. -/
theorem insW_any (l : List Wr) (k : Nat) (hk : k ≤ l.length) (v : Wr) (B vb : Nat) (v0 : Value) (w : World) (h0 : w.ownsRow B 112 4 v0 l.length (wrCells l)) (hv : w.heap[vb]? = some (.cells (wrC v).toArray 112 (0, 0))) (hne : v0.ownBlock ≠ some vb) (hB : B ≤ w.heap.size) (hn : l.length ≤ 6) :
    Calls Tryz.prog 53 #[v0, .int .i64 (k : Int), .slice (some ⟨vb, 0, none⟩) 1 1] w (InsPostW w B v0 (insK l k v)) := by
  rcases Nat.lt_or_ge k l.length with q | q
  · exact insW_in l k q v B vb v0 w h0 hv hne hB hn
  · obtain rfl : k = l.length := by omega
    exact insW_end l v B vb v0 w h0 hv hB hn
end Go.Proofs.YtjgloipgnnigmaaGreatDoor
/- What is sent, as it lies in memory: each send's cells. -/
namespace Go.Proofs.YtjgloipgnnigmaaGreatDoor
open Go.RowKit Go.Shelf

theorem sndCells_at : ∀ (l : List SndX) (i j : Nat), i < l.length → j < 35 → (sndCells l)[i * 35 + j]? = (l.getD i noSnd).vs[j]?
  | [], i, _, h, _ => by simp at h
  | x :: l, 0, j, _, hj => by
    have hs : x.vs.toList.length = 35 := by rw [Array.length_toList]; exact snd_size x
    show (x.vs.toList ++ sndCells l)[0 * 35 + j]? = _
    rw [List.getElem?_append_left (by omega), ← Array.getElem?_toList, show 0 * 35 + j = j by omega]; rfl
  | x :: l, i + 1, j, h, hj => by
    have hs : x.vs.toList.length = 35 := by rw [Array.length_toList]; exact snd_size x
    show (x.vs.toList ++ sndCells l)[(i + 1) * 35 + j]? = _
    rw [List.getElem?_append_right (by omega), hs, show (i + 1) * 35 + j - 35 = i * 35 + j by omega, sndCells_at l i j (by simpa using h) hj]
    simp
theorem snd_vs (s : SndX) : s.vs.toList = .int .i64 s.dest :: s.m.vs.toList := rfl
theorem snd_vs0 (s : SndX) : s.vs[0]? = some (.int .i64 s.dest) := rfl
theorem snd_vs1 (s : SndX) (j : Nat) : s.vs[j + 1]? = s.m.vs[j]? := by
  rw [← Array.getElem?_toList, snd_vs, List.getElem?_cons_succ, Array.getElem?_toList]
/-- The sends of a list, as the law reads them. -/
theorem own_snds {w : World} {bs : Nat} {v : Value} {l : List SndX} {d : List SndD} (h : SndsAt w bs v l d) :
    ∃ (A : Option Addr) (cap : Nat), v = .slice A l.length cap ∧ l.length ≤ 9223372036854775807 ∧ ∀ k, k < l.length → ∃ b off, A = some ⟨b, off, none⟩ ∧ w.cell? ⟨b, off + k * 35, none⟩ = some (.int .i64 (l.getD k noSnd).dest) ∧ CellRow w ⟨b, off + k * 35 + 1, none⟩ (l.getD k noSnd).m.vs := by
  rcases h.row.2 with ⟨rfl, h0⟩ | ⟨g, cap, cur, rfl, hfr, hh, hn, hmx, _, ht⟩
  · exact ⟨none, 0, by rw [h0], by omega, fun k hk => by omega⟩
  · refine ⟨some ⟨g, 0, none⟩, cap, rfl, by unfold maxLen at hmx; omega, fun k hk => ⟨g, 0, rfl, ?_, fun j v hv => ?_⟩⟩
    all_goals
      have hc : ∀ j, j < l.length * 35 → w.cell? ⟨g, j, none⟩ = (sndCells l)[j]? := by
        intro j hj
        have h1 : (cur.toList.take (l.length * 35))[j]? = (sndCells l)[j]? := by rw [ht]
        rw [List.getElem?_take_of_lt (by omega)] at h1
        simp only [World.cell?, hh, Option.isSome_none, Bool.false_eq_true, if_false]
        rw [← Array.getElem?_toList, h1]
    · rw [show 0 + k * 35 = k * 35 + 0 by omega, hc _ (by omega), sndCells_at l k 0 hk (by omega), snd_vs0]
    · have hj : j < 34 := by rw [← msg_size (l.getD k noSnd).m]; exact (Array.getElem?_eq_some_iff.1 hv).1
      rw [Go.WideShapes.add_plain, show 0 + k * 35 + 1 + j = k * 35 + (j + 1) by omega, hc _ (by omega), sndCells_at l k (j + 1) hk (by omega), snd_vs1]
      exact hv
end Go.Proofs.YtjgloipgnnigmaaGreatDoor
/- A send's cells in a row of sends. -/
namespace Go.Proofs.YtjgloipgnnigmaaGreatDoor
open Go.RowKit Go.Shelf

theorem snd_dest {w : World} {g o : Nat} {s : SndX} (h : CellRow w ⟨g, o, none⟩ s.vs) : w.cell? ⟨g, o, none⟩ = some (.int .i64 s.dest) := by
  have := h 0 _ (snd_vs0 s)
  rw [Go.WideShapes.add_plain, Nat.add_zero] at this
  exact this
theorem snd_msg {w : World} {g o : Nat} {s : SndX} (h : CellRow w ⟨g, o, none⟩ s.vs) : CellRow w ⟨g, o + 1, none⟩ s.m.vs := fun j v hv => by
  have := h (j + 1) v (by rw [snd_vs1]; exact hv)
  rw [Go.WideShapes.add_plain] at this ⊢
  rw [show o + 1 + j = o + (j + 1) by omega]
  exact this
end Go.Proofs.YtjgloipgnnigmaaGreatDoor
