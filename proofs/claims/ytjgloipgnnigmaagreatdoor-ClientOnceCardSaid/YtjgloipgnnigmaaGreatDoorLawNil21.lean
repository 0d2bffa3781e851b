/- parishlaw21's awake; ClientNil's walk. -/
import Derived.Test.YtjgloipgnnigmaaGreatDoorFew21
import Derived.Test.YtjgloipgnnigmaaGreatDoorJ5
import Derived.Test.YtjgloipgnnigmaaGreatDoorJ2
import Derived.Deep.RegionHeld3
import Derived.Lib.QuietBelow
set_option linter.unusedVariables false
set_option linter.unusedSimpArgs false
namespace Go.Proofs.YtjgloipgnnigmaaGreatDoor
open Go.RowKit Go.Shelf Go.Sort

theorem one_at {w : World} {g : Nat} (h : w.cell? ⟨g, 0, none⟩ = some (.int .i64 1)) : CfgAt w ⟨[1], []⟩ (some ⟨g, 0, none⟩) none :=
  ⟨fun i hi => (by simp at hi; subst hi; exact ⟨g, 0, rfl, h⟩), fun i hi => (by simp at hi), fun i hi => (by simp at hi), by simp, by simp⟩
def cfg1 (g : Nat) : CliK := ⟨⟨[1], []⟩, some ⟨g, 0, none⟩, none, 1, 0, 1⟩
theorem cfg1_ok (g : Nat) : cliOK (cfg1 g) = true := show (formedB ⟨[1], []⟩ && decide ((1 : Int) ≤ 1) && decide ((1 : Int) ≤ 8)) = true by decide
theorem new_1 (g : Nat) (w : World) (h : w.cell? ⟨g, 0, none⟩ = some (.int .i64 1)) : Calls Tryz.prog 20 #[.agg #[.slice (some ⟨g, 0, none⟩) 1 1, .slice none 0 0], .int .i64 1] w (CliNewPost w (cfg1 g)) :=
  cliNew_ok (cfg1 g) w (one_at h) (cfg1_ok g)
theorem begin_1 {w : World} {B p : Nat} {K : CliK} {O : Nat → Prop} (h : CliAt w B p K cli0 O) (hB : B ≤ w.heap.size) : Calls Tryz.prog 14 #[.pointer (some ⟨p, 0, none⟩)] w (CliPost w B p K O (.int .i64 0) (beginD cli0)) :=
  begin_any h hB (by decide)
theorem state_1 {w : World} {B p : Nat} {K : CliK} {O : Nat → Prop} (h : CliAt w B p K (beginD cli0) O) : Calls Tryz.prog 18 #[.pointer (some ⟨p, 0, none⟩)] w fun e w' => e = .returned (.int .i64 1) ∧ w = w' :=
  state_any h
set_option maxHeartbeats 1000000 in
theorem awake21_any (w : World) : Calls Tryz.prog 8 #[] w fun e w' => e = .returned (.bool true) ∧ Below w.heap.size w w' := by
  go_enter Tryz.func8, Tryz.ntmps8
  go_wp2_with (first
    | (go_at_call 20; refine (new_1 w.heap.size _ (by simp [go_sem])).mono ?_; rintro e w1 ⟨p, rfl, hC, hb⟩; have hb0 := keepB (below1 _ _) hb; have hp := hC.lo; replace hC := Lib.hid hC)
    | (go_at_call 14; refine (begin_1 hC.out hb.size).mono ?_; rintro e w2 ⟨rfl, hC2, ho⟩; replace hC2 := Lib.hid hC2; have hb2 := ho.below hb0.size (fun k hk => by subst hk; exact Nat.le_trans (below1 w _).size hp))
    | (go_at_call 18; refine (state_1 hC2.out).mono ?_; rintro e w3 ⟨rfl, rfl⟩))
  go_ret
  exact ⟨rfl, hb0.trans hb2⟩
end Go.Proofs.YtjgloipgnnigmaaGreatDoor
