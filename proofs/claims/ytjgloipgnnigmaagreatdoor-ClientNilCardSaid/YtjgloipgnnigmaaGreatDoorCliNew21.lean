/- client.New, and the small methods: in, Begin, State, Floor. -/
import Derived.Test.YtjgloipgnnigmaaGreatDoorNil21
import Derived.Test.YtjgloipgnnigmaaGreatDoorFormed07
namespace Go.Proofs.YtjgloipgnnigmaaGreatDoor
open Go.RowKit Go.Shelf

def cliOK (K : CliK) : Bool := formedB K.c && decide (1 ≤ K.ses) && decide (K.ses ≤ 8)
def CliNewPost (w : World) (K : CliK) (e : Ending) (w' : World) : Prop :=
  ∃ p, e = .returned (.pointer (some ⟨p, 0, none⟩)) ∧ CliAt w' w.heap.size p K cli0 (fun k => k = p) ∧ Below w.heap.size w w'
theorem cli_new {w w' : World} {K : CliK} {B : Nat} (hB : B ≤ w.heap.size) (e : w.alloc (.cells #[.slice K.A K.c.reps.length K.ca, .slice K.B K.c.bnds.length K.cb, .int .i64 K.ses, .int .i64 0, .int .i64 0, .int .i64 0, .int .i64 0, .int .u64 0, .slice none 0 0, .slice none 0 0, .slice none 0 0, .slice none 0 0, .int .u64 0] 95) = w') :
    CliAt w' B w.heap.size K cli0 (fun k => k = w.heap.size) := by
  subst e
  exact ⟨_, _, _, _, { blk := heap_alloc_new w _, rowr := own_nil _ _ _ _, roww := own_nil _ _ _ _, rowa := own_nil _ _ _ _, rowk := own_nil _ _ _ _, hp := rfl, mir := fun g hg => (by cases hg), miw := fun g hg => (by cases hg), mia := fun g hg => (by cases hg), mik := fun g hg => (by cases hg), prw := Apart.nil _, pra := Apart.nil _, prk := Apart.nil _, pwa := Apart.nil _, pwk := Apart.nil _, pak := Apart.nil _, lt := fun k hk => by subst hk; exact ⟨hB, by simp⟩ }⟩
set_option maxHeartbeats 1000000 in
theorem cliNew_ok (K : CliK) (w : World) (h : CfgAt w K.c K.A K.B) (hk : cliOK K = true) : Calls Tryz.prog 20 #[K.cv, .int .i64 K.ses] w (CliNewPost w K) := by
  simp only [cliOK, Bool.and_eq_true, decide_eq_true_eq] at hk
  obtain ⟨⟨hf, h1⟩, h8⟩ := hk
  obtain ⟨c, A, B, ca, cb, ses⟩ := K
  simp only at h hf h1 h8
  have q1 : ¬ (ses < 1) := by omega
  have q8 : ¬ (8 < ses) := by omega
  obtain ⟨W, eW, HB, c0, c1⟩ := box2 w (.slice A c.reps.length ca) (.slice B c.bnds.length cb) 25
  have h := h.later HB
  go_enter Tryz.func20, Tryz.ntmps20
  go_wp2_with (go_at_call 55; refine (calls_b21 hf (formed_any c A B ca cb _ h)).mono ?_; rintro e w1 ⟨rfl, hb⟩; replace HB := keepB HB hb; replace c0 := keep hb c0; replace c1 := keep hb c1)
  go_ret
  exact ⟨w1.heap.size, rfl, cli_new HB.size rfl, HB.alloc HB.size _⟩
theorem cliNew_no (K : CliK) (w : World) (h : CfgAt w K.c K.A K.B) (hk : cliOK K = false) : Calls Tryz.prog 20 #[K.cv, .int .i64 K.ses] w fun e w' => e = .returned (.pointer none) ∧ Below w.heap.size w w' := by
  obtain ⟨c, A, B, ca, cb, ses⟩ := K
  simp only [cliOK] at h hk
  obtain ⟨W, eW, HB, c0, c1⟩ := box2 w (.slice A c.reps.length ca) (.slice B c.bnds.length cb) 25
  have h := h.later HB
  cases hf : formedB c
  · clear hk
    go_enter Tryz.func20, Tryz.ntmps20
    go_wp2_with (go_at_call 55; refine (calls_b21 hf (formed_any c A B ca cb _ h)).mono ?_; rintro e w1 ⟨rfl, hb⟩; replace HB := keepB HB hb; replace c0 := keep hb c0; replace c1 := keep hb c1)
    go_ret
    exact ⟨rfl, HB⟩
  · by_cases q1 : ses < 1
    · clear hk
      go_enter Tryz.func20, Tryz.ntmps20
      go_wp2_with (go_at_call 55; refine (calls_b21 hf (formed_any c A B ca cb _ h)).mono ?_; rintro e w1 ⟨rfl, hb⟩; replace HB := keepB HB hb; replace c0 := keep hb c0; replace c1 := keep hb c1)
      go_ret
      exact ⟨rfl, HB⟩
    · have q8 : 8 < ses := by
        rw [hf, decide_eq_true (show 1 ≤ ses by omega)] at hk
        simp at hk; omega
      clear hk
      go_enter Tryz.func20, Tryz.ntmps20
      go_wp2_with (go_at_call 55; refine (calls_b21 hf (formed_any c A B ca cb _ h)).mono ?_; rintro e w1 ⟨rfl, hb⟩; replace HB := keepB HB hb; replace c0 := keep hb c0; replace c1 := keep hb c1)
      go_ret
      exact ⟨rfl, HB⟩
end Go.Proofs.YtjgloipgnnigmaaGreatDoor
