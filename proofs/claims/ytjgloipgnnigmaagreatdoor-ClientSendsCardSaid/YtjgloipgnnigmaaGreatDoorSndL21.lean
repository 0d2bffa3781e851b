/- What is sent, as it lies in memory: each send's cells; what a sent message answers to the law's questions. -/
import Derived.Test.YtjgloipgnnigmaaGreatDoorJ14
import Derived.Test.YtjgloipgnnigmaaGreatDoorCliTxn21
import Derived.Test.YtjgloipgnnigmaaGreatDoorRefG8
import Derived.Test.YtjgloipgnnigmaaGreatDoorRefG12
import Derived.Test.YtjgloipgnnigmaaGreatDoorRefG14
import Derived.Test.YtjgloipgnnigmaaGreatDoorJ16
set_option linter.unusedVariables false
set_option linter.unusedSimpArgs false
namespace Go.Proofs.YtjgloipgnnigmaaGreatDoor
open Go.RowKit Go.Shelf

theorem sndCells_at : ∀ (l : List SndX) (i j : Nat), i < l.length → j < 35 → (sndCells l)[i * 35 + j]? = (l.getD i noSnd).vs[j]?
  | [], i, _, h, _ => by simp at h
  | x :: l, 0, j, _, hj => by
    have hs : x.vs.toList.length = 35 := by rw [Array.length_toList]; exact snd_size x
    show (x.vs.toList ++ sndCells l)[0 * 35 + j]? = _
    rw [List.getElem?_append_left (by omega), ← Array.getElem?_toList, show 0 * 35 + j = j by omega]; rfl
  | x :: l, i + 1, j, h, hj => by
    have hs : x.vs.toList.length = 35 := by rw [Array.length_toList]; exact snd_size x
    show (x.vs.toList ++ sndCells l)[(i + 1) * 35 + j]? = _
    rw [List.getElem?_append_right (by omega), hs, show (i + 1) * 35 + j - 35 = i * 35 + j by omega, sndCells_at l i j (by simpa using h) hj]
    simp
theorem snd_vs (s : SndX) : s.vs.toList = .int .i64 s.dest :: s.m.vs.toList := rfl
theorem snd_vs0 (s : SndX) : s.vs[0]? = some (.int .i64 s.dest) := rfl
theorem snd_vs1 (s : SndX) (j : Nat) : s.vs[j + 1]? = s.m.vs[j]? := by
  rw [← Array.getElem?_toList, snd_vs, List.getElem?_cons_succ, Array.getElem?_toList]
/-- The sends of a list, as the law reads them. -/
theorem own_snds {w : World} {bs : Nat} {v : Value} {l : List SndX} {d : List SndD} (h : SndsAt w bs v l d) :
    ∃ (A : Option Addr) (cap : Nat), v = .slice A l.length cap ∧ l.length ≤ 9223372036854775807 ∧ ∀ k, k < l.length → ∃ b off, A = some ⟨b, off, none⟩ ∧ w.cell? ⟨b, off + k * 35, none⟩ = some (.int .i64 (l.getD k noSnd).dest) ∧ CellRow w ⟨b, off + k * 35 + 1, none⟩ (l.getD k noSnd).m.vs := by
  rcases h.row.2 with ⟨rfl, h0⟩ | ⟨g, cap, cur, rfl, hfr, hh, hn, hmx, _, ht⟩
  · exact ⟨none, 0, by rw [h0], by omega, fun k hk => by omega⟩
  · refine ⟨some ⟨g, 0, none⟩, cap, rfl, by unfold maxLen at hmx; omega, fun k hk => ⟨g, 0, rfl, ?_, fun j v hv => ?_⟩⟩
    all_goals
      have hc : ∀ j, j < l.length * 35 → w.cell? ⟨g, j, none⟩ = (sndCells l)[j]? := by
        intro j hj
        have h1 : (cur.toList.take (l.length * 35))[j]? = (sndCells l)[j]? := by rw [ht]
        rw [List.getElem?_take_of_lt (by omega)] at h1
        simp only [World.cell?, hh, Option.isSome_none, Bool.false_eq_true, if_false]
        rw [← Array.getElem?_toList, h1]
    · rw [show 0 + k * 35 = k * 35 + 0 by omega, hc _ (by omega), sndCells_at l k 0 hk (by omega), snd_vs0]
    · have hj : j < 34 := by rw [← msg_size (l.getD k noSnd).m]; exact (Array.getElem?_eq_some_iff.1 hv).1
      rw [Go.WideShapes.add_plain, show 0 + k * 35 + 1 + j = k * 35 + (j + 1) by omega, hc _ (by omega), sndCells_at l k (j + 1) hk (by omega), snd_vs1]
      exact hv
theorem sndsIs_at : ∀ {l : List SndX} {d : List SndD} (k : Nat), SndsIs l d → k < l.length → ∃ s ∈ d, SndIs (l.getD k noSnd) s
  | _, _, 0, .cons h _, _ => ⟨_, List.mem_cons_self .., h⟩
  | _, _, k + 1, .cons _ h, hk => by
    obtain ⟨s, hs, hi⟩ := sndsIs_at k h (by simpa using hk)
    exact ⟨s, List.mem_cons_of_mem _ hs, by simpa using hi⟩
  | _, _, _, .nil, hk => by simp at hk
/-- One send: where it goes, and what its message is. -/
inductive MsgQ (w : World) (c : Cfg) (g : Nat) : MsgV → Prop where
  | safe (n : Nat) : n ≤ 2147483647 → MsgQ w c g (safeM n)
  | read (n : Nat) (key : ByteArray) (st : Nat) : n ≤ 2147483647 → keyB key = true → key.size ≤ maxLen → homeZ c key = (g : Int) → MsgQ w c g (readM n key st)
  | submit (t : Tx) (A B : Option Addr) (ca cb : Nat) : formedT t = true → TxAt w t A B → t.rds.length ≤ 12 → t.wrs.length ≤ 12 → (∀ z : Int, z = ((readsL c t g).length : Int) + ((writesL c t g).length : Int) → z ≠ 0) → MsgQ w c g (submitM t A B ca cb)
theorem snd_ask {w : World} {c : Cfg} (hf : formedB c = true) {s : SndX} {d : SndD} (h : SndIs s d) (hm : MsgAt w s.m) (ho : SndOk c d) : ∃ g i : Nat, atZ c s.dest = ((g : Int), (i : Int)) ∧ MsgQ w c g s.m := by
  obtain ⟨g, i, hg, hi, hd, hok⟩ := ho
  have hb : hasB c (g : Int) (i : Int) = true := by
    simp only [hasB, hf, Bool.true_and, Bool.and_eq_true, decide_eq_true_eq, Int.toNat_natCast]
    unfold repN at hi
    refine ⟨⟨⟨by omega, by omega⟩, by omega⟩, by omega⟩
  have hat := (at_place hb).2.2
  refine ⟨g, i, ?_, ?_⟩
  · cases h <;> (simp only at hd ⊢; rw [hd]; exact hat)
  · cases h with
    | safe dd n => exact .safe n hok
    | read dd n k st =>
      obtain ⟨h1, h2, h3⟩ := hok
      exact .read n k st h1 h2 hm.k (by rw [homeZ, hf, if_pos rfl, h3])
    | submit dd t A B ca cb =>
      obtain ⟨h1, h2⟩ := hok
      have hl : t.rds.length ≤ 12 ∧ t.wrs.length ≤ 12 := by
        have := h1
        simp only [formedT, Bool.and_eq_true, decide_eq_true_eq] at this
        omega
      refine .submit t A B ca cb h1 hm.t hl.1 hl.2 fun z hz => ?_
      have ht := touch_cut c t g hf h1
      unfold groupsT at h2
      rw [if_pos h1] at h2
      unfold groupsL at h2
      rw [if_pos hf] at h2
      obtain ⟨g', _, htb, he⟩ := ((groupsTo_rises c _ c.reps.length).2 _).1 h2
      obtain rfl : g' = g := by omega
      rw [htb, decide_eq_true_eq] at ht
      omega
theorem MsgQ.later {w w' : World} {c : Cfg} {g : Nat} {m : MsgV} (h : MsgQ w c g m) (hb : Below w.heap.size w w') : MsgQ w' c g m := by
  cases h with
  | safe n h => exact .safe n h
  | read n k st h1 h2 h3 h4 => exact .read n k st h1 h2 h3 h4
  | submit t A B ca cb h1 h2 h3 h4 h5 => exact .submit t A B ca cb h1 (h2.later hb) h3 h4 h5
end Go.Proofs.YtjgloipgnnigmaaGreatDoor
