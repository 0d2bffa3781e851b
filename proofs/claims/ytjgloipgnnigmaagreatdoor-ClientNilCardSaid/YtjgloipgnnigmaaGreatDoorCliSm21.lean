/- The client's small methods: in, State, Floor, Begin, rest, Abort. -/
import Derived.Test.YtjgloipgnnigmaaGreatDoorCliNew21
import Derived.IntWalk
namespace Go.Proofs.YtjgloipgnnigmaaGreatDoor
open Go.RowKit Go.Shelf

/-- A method's end: its value, the client behind it. -/
def CliPost (w : World) (B p : Nat) (K : CliK) (O : Nat → Prop) (v : Value) (x : CliD) (e : Ending) (w' : World) : Prop :=
  e = .returned v ∧ CliAt w' B p K x (ext O w w') ∧ Out O w w'
section
variable {w : World} {B p : Nat} {K : CliK} {x : CliD} {O : Nat → Prop}
theorem in_any (h : CliAt w B p K x O) (k : Int) (b : Bool) (hb : ((x.state : Int) == k) = b) : Calls Tryz.prog 35 #[.pointer (some ⟨p, 0, none⟩), .int .i64 k] w fun e w' => e = .returned (.bool b) ∧ w = w' := by
  obtain ⟨vr, vw, va, vk, h⟩ := h
  obtain ⟨_, _, _, c3, _⟩ := h.cs
  cases b
  all_goals
    go_enter Tryz.func35, Tryz.ntmps35
    go_wp2
    go_ret
    exact ⟨rfl, rfl⟩
theorem state_any (h : CliAt w B p K x O) : Calls Tryz.prog 18 #[.pointer (some ⟨p, 0, none⟩)] w fun e w' => e = .returned (.int .i64 (x.state : Int)) ∧ w = w' := by
  obtain ⟨vr, vw, va, vk, h⟩ := h
  obtain ⟨_, _, _, c3, _⟩ := h.cs
  go_enter Tryz.func18, Tryz.ntmps18
  go_wp2
  go_ret
  exact ⟨rfl, rfl⟩
theorem floor_any (h : CliAt w B p K x O) : Calls Tryz.prog 19 #[.pointer (some ⟨p, 0, none⟩)] w fun e w' => e = .returned (.int .u64 (x.floor : Int)) ∧ w = w' := by
  obtain ⟨vr, vw, va, vk, h⟩ := h
  obtain ⟨_, _, _, _, _, _, _, c7, _⟩ := h.cs
  go_enter Tryz.func19, Tryz.ntmps19
  go_wp2
  go_ret
  exact ⟨rfl, rfl⟩
theorem cli_same {w' : World} (h : CliAt w B p K x O) (hB : B ≤ w.heap.size) (e : w = w') : CliAt w' B p K x (ext O w w') ∧ Out O w w' := by
  subst e
  exact ⟨h.stay (Below.refl _ _) hB, Out.refl _ _⟩
theorem out_p {w' : World} {v : Value} {j : Nat} (hp : O p) (h : Out O w w') : Out O w (w'.setCell ⟨p, j, none⟩ v) :=
  h.trans' ((out_set21 w' p j v).mono fun k hk => by rw [hk]; exact hp)
set_option maxRecDepth 100000 in
theorem begin_any (h : CliAt w B p K x O) (hB : B ≤ w.heap.size) (hs : x.seq ≤ 1048576) : Calls Tryz.prog 14 #[.pointer (some ⟨p, 0, none⟩)] w (CliPost w B p K O (.int .i64 (beginE x)) (beginD x)) := by
  have h0 := h
  obtain ⟨vr, vw, va, vk, h⟩ := h
  obtain ⟨_, _, _, c3, c4, _⟩ := h.cs
  have f3 := h.fz 2
  have f4 := h.fz 3
  by_cases s0 : x.state = 0
  · have q0 : ((x.state : Int) == 0) = true := by rw [beq_iff_eq]; omega
    by_cases s1 : x.seq < 1048576
    · have HE : Hid (beginE x = 0 ∧ beginD x = { x with seq := x.seq + 1, state := 1 }) := by show _ ∧ _; simp [beginE, beginD, s0, s1]
      have q1 : decide ((1048576 : Int) ≤ (x.seq : Int)) = false := by rw [decide_eq_false_iff_not]; omega
      have f3 := h.fz 3
      have f4 := h.fz 4
      have hw1 : IntKind.i64.wrap ((x.seq : Int) + 1) = (x.seq : Int) + 1 := IntWalk.i64_in _ (by omega)
      clear s0 s1 hs
      go_enter Tryz.func14, Tryz.ntmps14
      go_wp2_with (go_at_call 35; refine (in_any h0 0 true q0).mono ?_; rintro e w1 ⟨rfl, rfl⟩)
      go_ret
      rw [HE.out.1, HE.out.2]
      have h1 := (h.s4 (x.seq + 1)).s3 1
      exact ⟨rfl, ⟨vr, vw, va, vk, h1.widen (fun k hk => (h.lt k hk).2) hB⟩, out_p h.hp (out_p h.hp (Out.refl _ _))⟩
    · have HE : Hid (beginE x = 7 ∧ beginD x = x) := by show _ ∧ _; simp [beginE, beginD, s0, s1]
      have q1 : decide ((1048576 : Int) ≤ (x.seq : Int)) = true := by rw [decide_eq_true_iff]; omega
      clear s0 s1 hs
      go_enter Tryz.func14, Tryz.ntmps14
      go_wp2_with (go_at_call 35; refine (in_any h0 0 true q0).mono ?_; rintro e w1 ⟨rfl, rfl⟩)
      go_ret
      rw [HE.out.1, HE.out.2]
      exact ⟨rfl, cli_same h0 hB rfl⟩
  · have q0 : ((x.state : Int) == 0) = false := by rw [beq_eq_false_iff_ne]; omega
    have HE : Hid (beginE x = 11 ∧ beginD x = x) := by show _ ∧ _; simp [beginE, beginD, s0]
    clear s0
    go_enter Tryz.func14, Tryz.ntmps14
    go_wp2_with (go_at_call 35; refine (in_any h0 0 false q0).mono ?_; rintro e w1 ⟨rfl, rfl⟩)
    go_ret
    rw [HE.out.1, HE.out.2]
    exact ⟨rfl, cli_same h0 hB rfl⟩
set_option maxHeartbeats 1000000 in
theorem rest_any (h : CliAt w B p K x O) (hB : B ≤ w.heap.size) : Calls Tryz.prog 41 #[.pointer (some ⟨p, 0, none⟩)] w (CliPost w B p K O (.tuple #[]) (restD x)) := by
  obtain ⟨vr, vw, va, vk, h⟩ := h
  obtain ⟨c0, c1, c2, c3, c4, c5, c6, c7, c8, c9, c10, c11, c12⟩ := h.cs
  have f3 := h.fz 3
  have f8 := h.fz 8
  have f9 := h.fz 9
  have f10 := h.fz 10
  have f11 := h.fz 11
  have f12 := h.fz 12
  go_enter Tryz.func41, Tryz.ntmps41
  go_wp2
  go_end0
  have h1 := (((((h.s3 0).nilr).nilw).nila).nilk).s12 0
  exact ⟨rfl, ⟨_, _, _, _, h1.widen (fun k hk => (h.lt k hk).2) hB⟩, out_p h.hp (out_p h.hp (out_p h.hp (out_p h.hp (out_p h.hp (out_p h.hp (Out.refl _ _))))))⟩
end
end Go.Proofs.YtjgloipgnnigmaaGreatDoor
