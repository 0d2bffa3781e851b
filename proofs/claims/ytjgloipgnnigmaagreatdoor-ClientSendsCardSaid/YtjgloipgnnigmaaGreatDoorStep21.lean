/- A session's step: each method over the client's state and its invariant, with what is sent and told; the sets of blocks are hidden. -/
import Derived.Test.YtjgloipgnnigmaaGreatDoorCliHand21
import Derived.Test.YtjgloipgnnigmaaGreatDoorJ14
import Derived.Test.YtjgloipgnnigmaaGreatDoorJ13
import Derived.Test.YtjgloipgnnigmaaGreatDoorJ15
set_option linter.unusedVariables false
set_option linter.unusedSimpArgs false
namespace Go.Proofs.YtjgloipgnnigmaaGreatDoor
open Go.RowKit Go.Shelf Go.Sort

section
variable {c : Cfg} {x : CliD}
theorem cliSz_same {y : CliD} (h : CliSz x) (hr : y.rds = x.rds) (hw : y.wrs = x.wrs) (ha : y.asks = x.asks) (hk : y.keys = x.keys) : CliSz y :=
  ⟨by rw [hr]; exact h.r, by rw [hw]; exact h.w, by rw [ha]; exact h.a, by rw [hk]; exact h.k⟩
theorem cliSz_0 : CliSz cli0 := ⟨fun y hy => (by cases hy), fun y hy => (by cases hy), fun y hy => (by cases hy), fun y hy => (by cases hy)⟩
theorem cliSz_rest {y : CliD} (hr : y.rds = []) (hw : y.wrs = []) (ha : y.asks = []) (hk : y.keys = []) : CliSz y :=
  ⟨fun y hy => (by rw [hr] at hy; cases hy), fun y hy => (by rw [hw] at hy; cases hy), fun y hy => (by rw [ha] at hy; cases hy), fun y hy => (by rw [hk] at hy; cases hy)⟩
theorem cliSz_begin (h : CliSz x) : CliSz (beginD x) := by
  rw [beginD]; split
  · exact cliSz_same h rfl rfl rfl rfl
  · exact h
theorem cliSz_want (h : CliSz x) (g : Nat) {k : ByteArray} (s : Nat) (hk : k.size ≤ 9223372036854775807) : CliSz (wantD x g k s) :=
  ⟨h.r, h.w, fun y hy => by
    rcases List.mem_append.1 hy with q | q
    · exact h.a y q
    · rw [List.mem_singleton.1 q]; exact hk, h.k⟩
theorem cliSz_wants : ∀ (l : List (Nat × ByteArray × Nat)) {x : CliD}, CliSz x → (∀ p ∈ l, p.2.1.size ≤ 9223372036854775807) → CliSz (wantsD x l)
  | [], _, h, _ => h
  | (g, k, s) :: l, _, h, hl => cliSz_wants l (cliSz_want h g s (hl (g, k, s) (List.mem_cons_self ..))) fun p hp => hl p (List.mem_cons_of_mem _ hp)
theorem cliSz_read (h : CliSz x) {key : ByteArray} (hk : key.size ≤ 9223372036854775807) : CliSz (readD c x key) := by
  rw [readD]; split
  · exact cliSz_want h _ _ hk
  · exact h
theorem cliSz_write (h : CliSz x) {key : ByteArray} (hk : key.size ≤ 9223372036854775807) {v : Val} (hv : v.Good) : CliSz (writeD x key v) := by
  rw [writeD]; split
  · refine ⟨h.r, fun y hy => ?_, h.a, h.k⟩
    rcases List.mem_or_eq_of_mem_set hy with q | q
    · exact h.w y q
    · rw [q]; exact ⟨hk, hv⟩
  · refine ⟨h.r, fun y hy => ?_, h.a, h.k⟩
    rcases List.mem_append.1 hy with q | q
    · exact h.w y (List.mem_of_mem_take q)
    · rcases List.mem_cons.1 q with q | q
      · rw [q]; exact ⟨hk, hv⟩
      · exact h.w y (List.mem_of_mem_drop q)
  · exact h
theorem cliSz_commit (h : CliSz x) : CliSz (commitD x) := by
  rw [commitD]; split
  · exact cliSz_rest rfl rfl rfl rfl
  · exact cliSz_same h rfl rfl rfl rfl
  · exact h
theorem cliSz_abort (h : CliSz x) : CliSz (abortD x) := by
  rw [abortD]; split
  · exact cliSz_rest rfl rfl rfl rfl
  · exact h
theorem noStr_size : noStr.size ≤ 9223372036854775807 := Nat.zero_le _
theorem cliSz_snap (h : CliSz x) {keys : List ByteArray} (hk : ∀ k ∈ keys, k.size ≤ 9223372036854775807) : CliSz (snapD c x keys) := by
  rw [snapD]; split
  · refine cliSz_wants _ ⟨h.r, h.w, h.a, hk⟩ fun p hp => ?_
    obtain ⟨g, _, rfl⟩ := List.mem_map.1 hp
    exact noStr_size
  · exact h
theorem cliSz_safe (h : CliSz x) : CliSz (safeD c x) := by
  rw [safeD]; split
  · exact h
  · refine cliSz_wants _ h fun p hp => ?_
    obtain ⟨k, hk, rfl⟩ := List.mem_map.1 hp
    exact h.k k hk
  · exact cliSz_rest rfl rfl rfl rfl
theorem cliSz_seen (h : CliSz x) (m : MsgV) : CliSz (seenD x m) := by
  rw [seenD]; split
  · exact h
  · exact cliSz_rest rfl rfl rfl rfl
theorem cliSz_hand (h : CliSz x) (ses : Int) (m : MsgV) (fm : Bool) (hm : m.key.size ≤ 9223372036854775807) : CliSz (handD c ses x m fm) := by
  rw [handD]; split
  · exact cliSz_rest rfl rfl rfl rfl
  · have h1 := cliSz_ins h m hm
    exact ⟨h1.r, h1.w, fun y hy => h.a y (mem_erase hy), h1.k⟩
  · exact cliSz_safe (cliSz_same (cliSz_answ h m) rfl rfl rfl rfl)
  · exact cliSz_seen (cliSz_answ h m) m
  · exact h
end

/-- What stays over a whole script: the configuration's rows, the tables, the bound below which nothing changes. -/
structure StepC (w0 : World) (B : Nat) (K : CliK) : Prop where
  c : ∀ w', Below B w0 w' → CfgAt w' K.c K.A K.B
  t : ∀ w', Below B w0 w' → Tabs w'
  b : B ≤ w0.heap.size
  f : formedB K.c = true
  ca : K.c.reps.length ≤ K.ca
  s1 : 1 ≤ K.ses
  s8 : K.ses ≤ 8
structure StepAt (w0 w : World) (B p : Nat) (K : CliK) (n : Nat) (x : CliD) : Prop where
  c : StepC w0 B K
  at_ : ∃ O, CliAt w B p K x O
  inv : CliInv K.c (6 * n) x
  sz : CliSz x
  b : Below B w0 w
def SndR (w : World) (v : Value) (d : List SndD) : Prop := ∃ bs l, SndsAt w bs v l d
section
variable {w0 w : World} {B p n : Nat} {K : CliK} {x : CliD}
theorem SndR.later {w' : World} {v : Value} {d : List SndD} (h : SndR w v d) (hb : Below w.heap.size w w') : SndR w' v d := by
  obtain ⟨bs, l, h⟩ := h
  exact ⟨bs, l, h.later hb⟩
theorem StepAt.hB (h : StepAt w0 w B p K n x) : B ≤ w.heap.size := Nat.le_trans h.c.b h.b.size
theorem StepAt.later {w' : World} (h : StepAt w0 w B p K n x) (hb : Below w.heap.size w w') : StepAt w0 w' B p K n x := by
  obtain ⟨O, hO⟩ := h.at_
  exact ⟨h.c, ⟨O, hO.later hb⟩, h.inv, h.sz, h.b.trans (hb.mono h.hB)⟩
theorem StepAt.hC (h : StepAt w0 w B p K n x) (w' : World) (hb : Below B w w') : CfgAt w' K.c K.A K.B := h.c.c w' (h.b.trans hb)
theorem StepAt.hT (h : StepAt w0 w B p K n x) (w' : World) (hb : Below B w w') : Tabs w' := h.c.t w' (h.b.trans hb)
theorem StepAt.next {w' : World} {y : CliD} {O : Nat → Prop} (h : StepAt w0 w B p K n x) (hO : CliAt w B p K x O) (hA : CliAt w' B p K y (ext O w w')) (ho : Out O w w') (hi : CliInv K.c (6 * (n + 1)) y) (hs : CliSz y) :
    StepAt w0 w' B p K (n + 1) y ∧ Below B w w' := by
  have hb : Below B w w' := ho.below h.hB fun k hk => (hO.lt' k hk).1
  exact ⟨⟨h.c, ⟨_, hA⟩, hi, hs, h.b.trans hb⟩, hb⟩
theorem StepAt.up (h : StepAt w0 w B p K n x) {m : Nat} (hm : n ≤ m) : StepAt w0 w B p K m x := ⟨h.c, h.at_, h.inv.up (by omega), h.sz, h.b⟩
/-- The ends of steps: a value; sends and an error; sends; sends and events. -/
def StepV (w0 w : World) (B p : Nat) (K : CliK) (n : Nat) (v : Value) (y : CliD) (e : Ending) (w' : World) : Prop := e = .returned v ∧ StepAt w0 w' B p K (n + 1) y ∧ Below B w w'
def StepS (w0 w : World) (B p : Nat) (K : CliK) (n : Nat) (y : CliD) (d : List SndD) (er : Int) (e : Ending) (w' : World) : Prop := ∃ v, e = .returned (.tuple #[v, .int .i64 er]) ∧ SndR w' v d ∧ StepAt w0 w' B p K (n + 1) y ∧ Below B w w'
def StepT (w0 w : World) (B p : Nat) (K : CliK) (n : Nat) (y : CliD) (d : List SndD) (e : Ending) (w' : World) : Prop := ∃ v, e = .returned v ∧ SndR w' v d ∧ StepAt w0 w' B p K (n + 1) y ∧ Below B w w'
def StepH (w0 w : World) (B p : Nat) (K : CliK) (n : Nat) (y : CliD) (d : List SndD) (ev : List EvD) (e : Ending) (w' : World) : Prop :=
  ∃ v u, e = .returned (.tuple #[v, u]) ∧ SndR w' v d ∧ w'.ownsRow w.heap.size 71 11 u ev.length (evCells ev) ∧ StepAt w0 w' B p K (n + 1) y ∧ Below B w w'
theorem step_of_cli {v : Value} {y : CliD} {O : Nat → Prop} {e : Ending} {w' : World} (h : StepAt w0 w B p K n x) (hO : CliAt w B p K x O) (hp : CliPost w B p K O v y e w') (hi : CliInv K.c (6 * (n + 1)) y) (hs : CliSz y) : StepV w0 w B p K n v y e w' := by
  obtain ⟨he, hA, ho⟩ := hp
  exact ⟨he, h.next hO hA ho hi hs⟩
theorem step_of_snd {d : List SndD} {er : Int} {y : CliD} {O : Nat → Prop} {e : Ending} {w' : World} (h : StepAt w0 w B p K n x) (hO : CliAt w B p K x O) (hp : SndPost w B p K O y d er e w') (hi : CliInv K.c (6 * (n + 1)) y) (hs : CliSz y) : StepS w0 w B p K n y d er e w' := by
  obtain ⟨v, l, he, hl, hA, ho⟩ := hp
  exact ⟨v, he, ⟨_, _, hl⟩, h.next hO hA ho hi hs⟩
theorem step_begin (h : StepAt w0 w B p K n x) : Calls Tryz.prog 14 #[.pointer (some ⟨p, 0, none⟩)] w (StepV w0 w B p K n (.int .i64 (beginE x)) (beginD x)) := by
  obtain ⟨O, hO⟩ := h.at_
  exact (begin_any hO h.hB h.inv.sq).mono fun e w' hp => step_of_cli h hO hp (h.inv.begin.up (by omega)) (cliSz_begin h.sz)
theorem step_read (h : StepAt w0 w B p K n x) (hn : n ≤ 1000) (key : ByteArray) (hk : key.size ≤ maxLen) : Calls Tryz.prog 10 #[.pointer (some ⟨p, 0, none⟩), .string key] w (StepS w0 w B p K n (readD K.c x key) (readL K.c x key) (readE x key)) := by
  obtain ⟨O, hO⟩ := h.at_
  exact (read_any hO h.hB h.hC h.c.f h.c.ca h.inv (by omega) key hk).mono fun e w' hp => step_of_snd h hO hp ((h.inv.read h.c.f key).up (by omega)) (cliSz_read h.sz hk)
theorem step_write (h : StepAt w0 w B p K n x) (key : ByteArray) (hk : key.size ≤ maxLen) (v : Val) (hv : v.Good) : Calls Tryz.prog 15 #[.pointer (some ⟨p, 0, none⟩), .string key, .agg #[.int .i64 v.kind, .int .u64 (v.bits : Int), .string v.text]] w (StepV w0 w B p K n (.int .i64 (writeE x key v)) (writeD x key v)) := by
  obtain ⟨O, hO⟩ := h.at_
  have hi := (h.inv.write key v).up (M := 6 * (n + 1)) (by omega)
  have hz := cliSz_write h.sz hk hv
  have hT := h.hT w (Below.refl _ _)
  by_cases q2 : writeK x key v = 2
  · exact (write_set hO h.hB h.inv hT key hk v hv q2).mono fun e w' hp => step_of_cli h hO hp hi hz
  by_cases q4 : writeK x key v = 4
  · exact (write_ins hO h.hB h.inv hT key hk v hv q4).mono fun e w' hp => step_of_cli h hO hp hi hz
  exact (write_no hO h.hB h.inv hT key hk v hv ⟨q2, q4⟩).mono fun e w' hp => step_of_cli h hO hp hi hz
theorem step_commit (h : StepAt w0 w B p K n x) : Calls Tryz.prog 11 #[.pointer (some ⟨p, 0, none⟩)] w (StepS w0 w B p K n (commitD x) (commitL K.c K.ses x) (commitE x)) := by
  obtain ⟨O, hO⟩ := h.at_
  exact (commit_all hO h.hB h.hC h.hT h.c.f h.c.ca h.inv h.sz).mono fun e w' hp => step_of_snd h hO hp (h.inv.commit.up (by omega)) (cliSz_commit h.sz)
theorem step_abort (h : StepAt w0 w B p K n x) : Calls Tryz.prog 16 #[.pointer (some ⟨p, 0, none⟩)] w (StepV w0 w B p K n (.int .i64 (abortE x)) (abortD x)) := by
  obtain ⟨O, hO⟩ := h.at_
  exact (abort_any hO h.hB).mono fun e w' hp => step_of_cli h hO hp (h.inv.abort.up (by omega)) (cliSz_abort h.sz)
/-- A Snapshot of keys that were put into a row of the caller's own. -/
theorem step_snap {w1 : World} (h : StepAt w0 w B p K n x) (hn : n ≤ 1000) (hb : Below w.heap.size w w1) (keys : List ByteArray) (A1 : Option Addr) (c1 : Nat) (hkr : w1.ownsRow w.heap.size 9 1 (.slice A1 keys.length c1) keys.length (keys.map Value.string)) (hs : ∀ k ∈ keys, k.size ≤ maxLen) :
    Calls Tryz.prog 12 #[.pointer (some ⟨p, 0, none⟩), .slice A1 keys.length c1] w1 (StepS w0 w1 B p K n (snapD K.c x keys) (snapL K.c x keys) (snapE x keys)) := by
  obtain ⟨O, hO⟩ := h.at_
  have h1 := h.later hb
  have hO1 := hO.later hb
  have hi := (h1.inv.snap h1.c.f keys).up (M := 6 * (n + 1)) (by omega)
  have hz := cliSz_snap (c := K.c) h1.sz hs
  by_cases q : snapK x keys = 0 ∨ keys.length < 1 ∨ 6 < keys.length
  · exact (snap_no hO1 h1.hB keys A1 c1 q).mono fun e w' hp => step_of_snd h1 hO1 hp hi hz
  have q0 : snapK x keys ≠ 0 := fun e => q (.inl e)
  have s0 : x.state = 0 := by
    refine Decidable.byContradiction fun e => q0 ?_
    rw [snapK, if_pos e]
  refine (snap_yes hO1 h1.hB h1.hC h1.c.f h1.c.ca h1.inv (by omega) keys A1 c1 w.heap.size hkr (fun a ha hOa => ?_) (fun k hk => hs _ (getD_mem hk)) s0 (by omega) (by omega)).mono fun e w' hp => step_of_snd h1 hO1 hp hi hz
  subst ha
  have := (hkr.lt a.block rfl).1
  have := (hO.lt' _ hOa).2
  omega
theorem step_hand (h : StepAt w0 w B p K n x) (hn : n ≤ 1000) (m : MsgV) (hm : MsgAt w m) : Calls Tryz.prog 13 #[.pointer (some ⟨p, 0, none⟩), .agg m.vs] w fun e w' => ∃ fm, StepH w0 w B p K n (handD K.c K.ses x m fm) (handL K.c K.ses x m fm) (handEv K.ses x m fm) e w' := by
  obtain ⟨O, hO⟩ := h.at_
  refine (hand_any hO h.hB h.hC h.hT h.c.f h.c.ca h.inv (by omega) h.sz m hm).mono fun e w' ⟨fm, v1, l, v2, he, hl, hr, hA, ho⟩ => ?_
  exact ⟨fm, v1, v2, he, ⟨_, _, hl⟩, hr, h.next hO hA ho ((h.inv.hand h.c.f K.ses m fm).up (by omega)) (cliSz_hand h.sz K.ses m fm hm.k)⟩
theorem step_tick (h : StepAt w0 w B p K n x) : Calls Tryz.prog 17 #[.pointer (some ⟨p, 0, none⟩)] w (StepT w0 w B p K n (tick0 x) (tickL K.c K.ses x)) := by
  obtain ⟨O, hO⟩ := h.at_
  refine (tick_all hO h.hB h.hC h.hT h.c.f h.c.ca h.inv h.sz).mono fun e w' ⟨v, l, he, hl, hA, ho⟩ => ?_
  exact ⟨v, he, ⟨_, _, hl⟩, h.next hO hA ho (h.inv.tick.up (by omega)) (cliSz_same h.sz rfl rfl rfl rfl)⟩
theorem step_new (K : CliK) (w : World) (hC : CfgAt w K.c K.A K.B) (hT : Tabs w) (hca : K.c.reps.length ≤ K.ca) (hk : cliOK K = true) (w0 : World) (hw0 : w0 = w) :
    Calls Tryz.prog 20 #[K.cv, .int .i64 K.ses] w fun e w' => ∃ p, e = .returned (.pointer (some ⟨p, 0, none⟩)) ∧ StepAt w0 w' w0.heap.size p K 0 cli0 := by
  subst hw0
  have hk' := hk
  simp only [cliOK, Bool.and_eq_true, decide_eq_true_eq] at hk'
  refine (cliNew_ok K w0 hC hk).mono fun e w' ⟨p, he, hA, hb⟩ => ⟨p, he, ⟨?_, ⟨_, hA⟩, inv_0 K.c _, cliSz_0, hb⟩⟩
  exact { c := fun w' hb => hC.later hb, t := fun w' hb => hT.later hb, b := Nat.le_refl _, f := hk'.1.1, ca := hca, s1 := hk'.1.2, s8 := hk'.2 }
end
end Go.Proofs.YtjgloipgnnigmaaGreatDoor
