/- The reference's client, loosely: value: a snapshot's Read is answered. -/
import Derived.Test.YtjgloipgnnigmaaGreatDoorRcWrite21
import Derived.Test.YtjgloipgnnigmaaGreatDoorJ10
import Derived.Test.YtjgloipgnnigmaaGreatDoorJ7
import Derived.Test.YtjgloipgnnigmaaGreatDoorJ11
import Derived.Test.YtjgloipgnnigmaaGreatDoorRefTxF08
import Derived.Test.YtjgloipgnnigmaaGreatDoorJ2
import Derived.Test.YtjgloipgnnigmaaGreatDoorJ9
import Derived.Test.YtjgloipgnnigmaaGreatDoorJ5
set_option linter.unusedVariables false
set_option linter.unusedSimpArgs false
namespace Go.Proofs.YtjgloipgnnigmaaGreatDoor
open Go.RowKit Go.Shelf Go.Sort

theorem info_rev3 : (Tryz.prog.info? 169).map (fun i => (i.zero, i.size, i.bytes)) = some (some (.agg #[.int .i64 0, .int .i64 0, .int .i64 0, .string ByteArray.empty, .int .i64 0, .int .u64 0, .string ByteArray.empty, .int .u64 0, .bool false, .int .u64 0, .int .i64 0]), 11, 104) := by kernel_rfl
theorem zero_rev (w : World) : (zeroValue 169).run Tryz.prog w = .ok (.agg #[.int .i64 0, .int .i64 0, .int .i64 0, .string ByteArray.empty, .int .i64 0, .int .u64 0, .string ByteArray.empty, .int .u64 0, .bool false, .int .u64 0, .int .i64 0]) w := by kernel_rfl
/-- Events of the reference's: a row of the call's own. -/
def RevR (w : World) (v : Value) : Prop := ∃ bs l, w.ownsRow bs 169 11 v l.length (evCells l)
theorem RevR.later {w w' : World} {v : Value} (h : RevR w v) (hb : Below w.heap.size w w') : RevR w' v := by
  obtain ⟨bs, l, h⟩ := h
  exact ⟨bs, l, own_keep h hb⟩
theorem rev_nil (w : World) : RevR w (.slice none 0 0) := ⟨0, [], own_nil _ _ _ _⟩
theorem rev_one {w : World} {g : Nat} {e : EvD} (h : w.heap[g]? = some (.cells e.vs 169 (0, 0))) : RevR w (.slice (some ⟨g, 0, none⟩) 1 1) := by
  refine ⟨0, [e], ?_⟩
  have := own_one (base := 0) h (ev_size _) (Nat.zero_le _)
  simpa [evCells] using this
section
variable {w w' : World} {B p n : Nat} {K : CliK} {x : RcD} {O : Nat → Prop}
def RcEv (w : World) (B p : Nat) (K : CliK) (m : Nat) (O : Nat → Prop) (e : Ending) (w' : World) : Prop := ∃ v, e = .returned v ∧ RevR w' v ∧ RcEnd w B p K m O w'
theorem rcEnd_alloc {w2 w3 : World} {m : Nat} (h : RcEnd w B p K m O w2) (hb : Below w2.heap.size w2 w3) (hlt : ∀ k, O k → B ≤ k ∧ k < w.heap.size) (hB : B ≤ w.heap.size) : RcEnd w B p K m O w3 :=
  h.wide (Below.refl _ _) hb hlt hB
set_option maxRecDepth 100000 in
set_option maxHeartbeats 4000000 in
theorem rcValue_any (h : RcAt w B p K x O) (hx : RcOK K.c n x) (hn : n ≤ 1000) (m : MsgV) : Calls Tryz.prog 117 #[.pointer (some ⟨p, 0, none⟩), .agg m.vs] w (RcEv w B p K (n + 1) O) := by
  obtain ⟨W, eW, HB, hszW, hrW⟩ := boxed w m.vs 85
  obtain ⟨c0, c1, c2, c3, c4, c5, c6, c7, c8, c9, c10, c11, c12, c13, c14, c15, c16, c17, c18, c19, c20, c21, c22, c23, c24, c25, c26, c27, c28, c29, c30, c31, c32, c33⟩ := msg_cs hrW
  clear c0 c1 c2 c3 c4 c5 c6 c7 c8 c9 c10 c11 c12 c13 c14 c15 c16 c17 c18 c19 c20 c21 c22 c23 c24 c25 c26 c33 hrW
  have hW := Lib.hid (h.later HB)
  have hlt := Lib.hid h.lt'
  have hB := h.hB
  have hBW := HB.size
  have HX := Lib.hid hx
  have hn' := Lib.hid hn
  replace hszW := Lib.hid hszW
  clear h hx
  by_cases se : m.err = 0
  · have qe : (m.err != 0) = false := by rw [se]; rfl
    obtain ⟨_, _, _, hWi⟩ := hW.out
    obtain ⟨_, _, d2, _, _, _, _, _, _, _, _, _, _, _, d14⟩ := hWi.cs
    clear hWi se
    go_enter Tryz.func117, Tryz.ntmps117
    go_wp2
    go_region
    change Exit.then _ _ _ _ (World.drew (World.alloc W (.cells (⟨3, K.ses, 0, m.key, m.val, m.ver, false, x.stamp, 0⟩ : EvD).vs 169)))
    obtain ⟨w3, e3, hb3, hr3⟩ : ∃ w3, World.drew (World.alloc W (.cells (⟨3, K.ses, 0, m.key, m.val, m.ver, false, x.stamp, 0⟩ : EvD).vs 169)) = w3 ∧ Below W.heap.size W w3 ∧ w3.heap[W.heap.size]? = some (.cells (⟨3, K.ses, 0, m.key, m.val, m.ver, false, x.stamp, 0⟩ : EvD).vs 169 (0, 0)) := ⟨_, rfl, below_drew (below1 _ _), heap_alloc_new W _⟩
    rw [e3]
    clear e3
    have hHW := Lib.hid (hW.out.later hb3)
    have hb4 := Lib.hid (keepB HB hb3)
    have hO3 : Hid (w3.ownsRow w.heap.size 169 11 (.slice (some ⟨W.heap.size, 0, none⟩) 1 1) 1 (evCells [(⟨3, K.ses, 0, m.key, m.val, m.ver, false, x.stamp, 0⟩ : EvD)])) := by
      have := own_one (base := w.heap.size) hr3 (ev_size _) HB.size
      show World.ownsRow _ _ _ _ _ _ _
      simpa [evCells] using this
    obtain ⟨i0, hi, hz0, hz1, hz2⟩ := info_parts info_rev3
    have hn3 : Hid (¬ O W.heap.size) := fun e => by have := (hlt.out _ e).2; have := HB.size; omega
    have hOv := Lib.hid (rcOver_any hHW.out (n + 1) 0)
    have hOp := Lib.hid (rcOpen_any hHW.out HX.out hn'.out)
    go_wp2_with (first
      | (go_at_call 111; refine hOp.out.mono ?_; rintro e w9 ⟨⟨z, rfl⟩, rfl⟩)
      | (go_at_call 162; refine hOv.out.mono ?_; rintro e w4 ⟨v4, rfl, ⟨ev, rfl⟩, hE4⟩; have hE4' := Lib.hid hE4; have ho4 := hE4.2; have hO4 := Lib.hid (ho4.row hO3.out (fun g hg => (Option.some.inj hg) ▸ hn3.out)); replace ho4 := Lib.hid ho4; clear hE4)
      | (refine wpList_buildSlice1 rfl 119 169 _ rfl ev.vs rfl _ Tryz.underlying119 info_rev (by rw [ev_size]; omega) (by rw [ev_size]; omega) (zero_rev _) ?_; obtain ⟨w6, e6, hb6, hs6, hr6⟩ := boxed w4 ev.vs 169; rw [e6])
      | (at_builtin; refine wpList_append_own _ rfl _ _ 119 rfl w.heap.size 169 i0 _ 11 104 Tryz.underlying119 hi hz0 hz1 hz2 rfl (by decide) _ _ _ rfl (own_keep hO4.out hb6) ⟨w4.heap.size, 0, none⟩ 1 1 ev.vs.toList rfl rfl (World.news_of_block hr6) (one_cell_ev _) (le_maxLen (by omega)) (by omega) (by have := hb6.size; have := ho4.out.size; have := hb4.out.size; omega) ?_; intro v7 w7 HO7 hg7 _; replace HO7 := Lib.hid HO7; replace hg7 := Lib.hid hg7))
    all_goals
      go_ret
    · have hO7 : Out (fun k => k = W.heap.size) w6 w7 := Out.of_grown hg7.out (fun k e => (Option.some.inj e).symm)
      have z3 : W.heap.size < w3.heap.size := (Array.getElem?_eq_some_iff.1 hr3).1
      have s1 := HB.size
      have s4 := hb4.out.size
      have s5 := ho4.out.size
      have s6 := hb6.size
      have s7 := hO7.size
      obtain ⟨⟨y, hy, hA4⟩, _⟩ := hE4'.out
      refine ⟨_, rfl, ⟨w.heap.size, [(⟨3, K.ses, 0, m.key, m.val, m.ver, false, x.stamp, 0⟩ : EvD), ev], ?_⟩, rc_close hlt.out hB hy ((hA4.later hb6).out hO7 (fun k hk e => by
          subst e
          rcases hk with q | q
          · exact hn3.out q
          · have := q.1; omega) (fun k e => by subst e; omega)) (fun k hk => hk.elim .inl (fun q => .inr ⟨by omega, by have := q.2; omega⟩)) ?_⟩
      · have := HO7.out
        simpa [evCells] using this
      · exact (((Out.of_below hb4.out).trans' ho4.out).trans' (Out.of_below hb6)).trans (hO7.mono fun k hk => .inr ⟨by omega, by subst hk; omega⟩)
    · exact ⟨_, rfl, ⟨_, [_], hO3.out⟩, rc_close (y := x) hlt.out hB (HX.out.same (Nat.le_succ n) rfl rfl rfl rfl) hHW.out (fun k hk => .inl hk) (Out.of_below hb4.out)⟩
  · have qe : (m.err != 0) = true := by rw [bne_iff_ne]; exact se
    clear se
    go_enter Tryz.func117, Tryz.ntmps117
    go_wp2_with (first
      | (go_at_call 162; refine (rcOver_any hW.out (n + 1) m.err).mono ?_; rintro e w4 ⟨v4, rfl, ⟨ev, rfl⟩, hE4⟩; replace hE4 := Lib.hid hE4)
      | (refine wpList_buildSlice1 rfl 119 169 _ rfl ev.vs rfl _ Tryz.underlying119 info_rev (by rw [ev_size]; omega) (by rw [ev_size]; omega) (zero_rev _) ?_; obtain ⟨w6, e6, hb6, hs6, hr6⟩ := boxed w4 ev.vs 169; rw [e6]))
    go_ret
    exact ⟨_, rfl, rev_one hr6, hE4.out.wide HB hb6 hlt.out hB⟩
end
end Go.Proofs.YtjgloipgnnigmaaGreatDoor
/- parishref10.uses at the kinds that a session sends: 8, 12, 14. -/
namespace Go.Proofs.YtjgloipgnnigmaaGreatDoor
open Go.RowKit Go.Shelf

theorem lst_ballot : (⟨#[98, 97, 108, 108, 111, 116]⟩ : ByteArray).toList = [98, 97, 108, 108, 111, 116] := by rw [ByteArray.toList_eq]
theorem lst_slot : (⟨#[115, 108, 111, 116]⟩ : ByteArray).toList = [115, 108, 111, 116] := by rw [ByteArray.toList_eq]
theorem lst_has : (⟨#[104, 97, 115]⟩ : ByteArray).toList = [104, 97, 115] := by rw [ByteArray.toList_eq]
theorem lst_command : (⟨#[99, 111, 109, 109, 97, 110, 100]⟩ : ByteArray).toList = [99, 111, 109, 109, 97, 110, 100] := by rw [ByteArray.toList_eq]
theorem lst_txn : (⟨#[116, 120, 110]⟩ : ByteArray).toList = [116, 120, 110] := by rw [ByteArray.toList_eq]
theorem lst_id : (⟨#[105, 100]⟩ : ByteArray).toList = [105, 100] := by rw [ByteArray.toList_eq]
theorem lst_group : (⟨#[103, 114, 111, 117, 112]⟩ : ByteArray).toList = [103, 114, 111, 117, 112] := by rw [ByteArray.toList_eq]
theorem lst_stamp : (⟨#[115, 116, 97, 109, 112]⟩ : ByteArray).toList = [115, 116, 97, 109, 112] := by rw [ByteArray.toList_eq]
theorem lst_yes : (⟨#[121, 101, 115]⟩ : ByteArray).toList = [121, 101, 115] := by rw [ByteArray.toList_eq]
theorem lst_number : (⟨#[110, 117, 109, 98, 101, 114]⟩ : ByteArray).toList = [110, 117, 109, 98, 101, 114] := by rw [ByteArray.toList_eq]
theorem lst_key : (⟨#[107, 101, 121]⟩ : ByteArray).toList = [107, 101, 121] := by rw [ByteArray.toList_eq]
theorem lst_value : (⟨#[118, 97, 108, 117, 101]⟩ : ByteArray).toList = [118, 97, 108, 117, 101] := by rw [ByteArray.toList_eq]
theorem lst_data : (⟨#[100, 97, 116, 97]⟩ : ByteArray).toList = [100, 97, 116, 97] := by rw [ByteArray.toList_eq]
end Go.Proofs.YtjgloipgnnigmaaGreatDoor
/- parishref10.uses at any kind, told loosely: some bool; parishref06.Formed, parishref09.Same and .Formed loosely. -/
namespace Go.Proofs.YtjgloipgnnigmaaGreatDoor
open Go.RowKit Go.Shelf

def SomeU (w : World) (e : Ending) (w' : World) : Prop := (∃ r : Bool, e = .returned (.bool r)) ∧ w = w'
theorem usesS_ballot (k : Int) (w : World) : Calls Tryz.prog 75 #[.int .i64 k, .string ⟨#[98, 97, 108, 108, 111, 116]⟩] w (SomeU w) := by
  have h0 := lst_ballot
  go_enter Tryz.func75, Tryz.ntmps75
  go_wp2
  all_goals
    go_ret
    exact ⟨⟨_, rfl⟩, rfl⟩
theorem usesS_slot (k : Int) (w : World) : Calls Tryz.prog 75 #[.int .i64 k, .string ⟨#[115, 108, 111, 116]⟩] w (SomeU w) := by
  have h0 := lst_ballot
  have h1 := lst_slot
  go_enter Tryz.func75, Tryz.ntmps75
  go_wp2
  all_goals
    go_ret
    exact ⟨⟨_, rfl⟩, rfl⟩
theorem usesS_has (k : Int) (w : World) : Calls Tryz.prog 75 #[.int .i64 k, .string ⟨#[104, 97, 115]⟩] w (SomeU w) := by
  have h0 := lst_ballot
  have h1 := lst_slot
  have h2 := lst_has
  go_enter Tryz.func75, Tryz.ntmps75
  go_wp2
  all_goals
    go_ret
    exact ⟨⟨_, rfl⟩, rfl⟩
theorem usesS_command (k : Int) (w : World) : Calls Tryz.prog 75 #[.int .i64 k, .string ⟨#[99, 111, 109, 109, 97, 110, 100]⟩] w (SomeU w) := by
  have h0 := lst_ballot
  have h1 := lst_slot
  have h2 := lst_has
  have h3 := lst_command
  go_enter Tryz.func75, Tryz.ntmps75
  go_wp2
  all_goals
    go_ret
    exact ⟨⟨_, rfl⟩, rfl⟩
theorem usesS_txn (k : Int) (w : World) : Calls Tryz.prog 75 #[.int .i64 k, .string ⟨#[116, 120, 110]⟩] w (SomeU w) := by
  have h0 := lst_ballot
  have h1 := lst_slot
  have h2 := lst_has
  have h3 := lst_command
  have h4 := lst_txn
  go_enter Tryz.func75, Tryz.ntmps75
  go_wp2
  all_goals
    go_ret
    exact ⟨⟨_, rfl⟩, rfl⟩
theorem usesS_id (k : Int) (w : World) : Calls Tryz.prog 75 #[.int .i64 k, .string ⟨#[105, 100]⟩] w (SomeU w) := by
  have h0 := lst_ballot
  have h1 := lst_slot
  have h2 := lst_has
  have h3 := lst_command
  have h4 := lst_txn
  have h5 := lst_id
  go_enter Tryz.func75, Tryz.ntmps75
  go_wp2
  all_goals
    go_ret
    exact ⟨⟨_, rfl⟩, rfl⟩
theorem usesS_group (k : Int) (w : World) : Calls Tryz.prog 75 #[.int .i64 k, .string ⟨#[103, 114, 111, 117, 112]⟩] w (SomeU w) := by
  have h0 := lst_ballot
  have h1 := lst_slot
  have h2 := lst_has
  have h3 := lst_command
  have h4 := lst_txn
  have h5 := lst_id
  have h6 := lst_group
  go_enter Tryz.func75, Tryz.ntmps75
  go_wp2
  all_goals
    go_ret
    exact ⟨⟨_, rfl⟩, rfl⟩
theorem usesS_stamp (k : Int) (w : World) : Calls Tryz.prog 75 #[.int .i64 k, .string ⟨#[115, 116, 97, 109, 112]⟩] w (SomeU w) := by
  have h0 := lst_ballot
  have h1 := lst_slot
  have h2 := lst_has
  have h3 := lst_command
  have h4 := lst_txn
  have h5 := lst_id
  have h6 := lst_group
  have h7 := lst_stamp
  go_enter Tryz.func75, Tryz.ntmps75
  go_wp2
  all_goals
    go_ret
    exact ⟨⟨_, rfl⟩, rfl⟩
theorem usesS_yes (k : Int) (w : World) : Calls Tryz.prog 75 #[.int .i64 k, .string ⟨#[121, 101, 115]⟩] w (SomeU w) := by
  have h0 := lst_ballot
  have h1 := lst_slot
  have h2 := lst_has
  have h3 := lst_command
  have h4 := lst_txn
  have h5 := lst_id
  have h6 := lst_group
  have h7 := lst_stamp
  have h8 := lst_yes
  go_enter Tryz.func75, Tryz.ntmps75
  go_wp2
  all_goals
    go_ret
    exact ⟨⟨_, rfl⟩, rfl⟩
theorem usesS_number (k : Int) (w : World) : Calls Tryz.prog 75 #[.int .i64 k, .string ⟨#[110, 117, 109, 98, 101, 114]⟩] w (SomeU w) := by
  have h0 := lst_ballot
  have h1 := lst_slot
  have h2 := lst_has
  have h3 := lst_command
  have h4 := lst_txn
  have h5 := lst_id
  have h6 := lst_group
  have h7 := lst_stamp
  have h8 := lst_yes
  have h9 := lst_number
  go_enter Tryz.func75, Tryz.ntmps75
  go_wp2
  all_goals
    go_ret
    exact ⟨⟨_, rfl⟩, rfl⟩
theorem usesS_key (k : Int) (w : World) : Calls Tryz.prog 75 #[.int .i64 k, .string ⟨#[107, 101, 121]⟩] w (SomeU w) := by
  have h0 := lst_ballot
  have h1 := lst_slot
  have h2 := lst_has
  have h3 := lst_command
  have h4 := lst_txn
  have h5 := lst_id
  have h6 := lst_group
  have h7 := lst_stamp
  have h8 := lst_yes
  have h9 := lst_number
  have h10 := lst_key
  go_enter Tryz.func75, Tryz.ntmps75
  go_wp2
  all_goals
    go_ret
    exact ⟨⟨_, rfl⟩, rfl⟩
theorem usesS_value (k : Int) (w : World) : Calls Tryz.prog 75 #[.int .i64 k, .string ⟨#[118, 97, 108, 117, 101]⟩] w (SomeU w) := by
  have h0 := lst_ballot
  have h1 := lst_slot
  have h2 := lst_has
  have h3 := lst_command
  have h4 := lst_txn
  have h5 := lst_id
  have h6 := lst_group
  have h7 := lst_stamp
  have h8 := lst_yes
  have h9 := lst_number
  have h10 := lst_key
  have h11 := lst_value
  go_enter Tryz.func75, Tryz.ntmps75
  go_wp2
  all_goals
    go_ret
    exact ⟨⟨_, rfl⟩, rfl⟩
theorem usesS_data (k : Int) (w : World) : Calls Tryz.prog 75 #[.int .i64 k, .string ⟨#[100, 97, 116, 97]⟩] w (SomeU w) := by
  have h0 := lst_ballot
  have h1 := lst_slot
  have h2 := lst_has
  have h3 := lst_command
  have h4 := lst_txn
  have h5 := lst_id
  have h6 := lst_group
  have h7 := lst_stamp
  have h8 := lst_yes
  have h9 := lst_number
  have h10 := lst_key
  have h11 := lst_value
  have h12 := lst_data
  go_enter Tryz.func75, Tryz.ntmps75
  go_wp2
  all_goals
    go_ret
    exact ⟨⟨_, rfl⟩, rfl⟩
end Go.Proofs.YtjgloipgnnigmaaGreatDoor
/- Layer 21 in plain Lean: what one act makes of a session, and what its events say. -/
namespace Go.Proofs.YtjgloipgnnigmaaGreatDoor

inductive ActIs (K : CliK) (x : CliD) : CliD → List EvD → Prop where
  | begin_ : ActIs K x (beginD x) []
  | read_ (key : ByteArray) : ActIs K x (readD K.c x key) []
  | write_ (key : ByteArray) (v : Val) : ActIs K x (writeD x key v) []
  | commit_ : ActIs K x (commitD x) []
  | abort_ : ActIs K x (abortD x) []
  | snap_ (keys : List ByteArray) : ActIs K x (snapD K.c x keys) []
  | hand_ (m : MsgV) (fm : Bool) : ActIs K x (handD K.c K.ses x m fm) (handEv K.ses x m fm)
  | tick_ : ActIs K x (tick0 x) []
  | none_ : ActIs K x x []
section
variable {K : CliK} {x y : CliD} {ev : List EvD} {N : Nat}
theorem act_floor (h : ActIs K x y ev) : x.floor ≤ y.floor := by
  cases h with
  | begin_ => rw [beginD]; split <;> exact Nat.le_refl _
  | read_ key => rw [readD]; split <;> exact Nat.le_refl _
  | write_ key v => rw [writeD]; split <;> exact Nat.le_refl _
  | commit_ => rw [commitD]; split <;> exact Nat.le_refl _
  | abort_ => rw [abortD]; split <;> exact Nat.le_refl _
  | snap_ keys =>
    rw [snapD]; split
    · rw [(wantsD_state _ _).2.2.2.1]; exact Nat.le_refl _
    · exact Nat.le_refl _
  | hand_ m fm => exact hand_floor
  | tick_ => exact Nat.le_refl _
  | none_ => exact Nat.le_refl _
theorem act_end (h : ActIs K x y ev) (hi : CliInv K.c N x) {e : EvD} (he : e ∈ ev) (hk : e.kind = 4) (h0 : e.err = 0) : x.floor ≤ e.stamp := by
  cases h with
  | hand_ m fm => exact hand_kind4 hi he hk h0
  | _ => cases he
theorem act_yes (h : ActIs K x y ev) {e : EvD} (he : e ∈ ev) (hk : e.kind = 2) (hy : e.yes = true) : e.stamp ≤ y.floor := by
  cases h with
  | hand_ m fm => exact hand_yes he hk hy
  | _ => cases he
/-- An act begins a transaction, or it begins none. -/
theorem act_begun (h : ActIs K x y ev) (hi : CliInv K.c N x) :
    (x.state = 0 ∧ y.state = 1 ∧ y.seq = x.seq + 1 ∧ ev = [] ∧ y.rds = []) ∨ (y.seq = x.seq ∧ (y.state = 1 → x.state = 1) ∧ (y.state = 2 → x.state = 1 ∨ x.state = 2)) := by
  cases h with
  | begin_ =>
    rw [beginD]; split
    · rename_i q; exact .inl ⟨q.1, rfl, rfl, rfl, (hi.idle q.1).2.1⟩
    · exact .inr ⟨rfl, id, .inr⟩
  | read_ key =>
    right; rw [readD]; split
    · exact ⟨rfl, id, .inr⟩
    · exact ⟨rfl, id, .inr⟩
  | write_ key v => right; rw [writeD]; split <;> exact ⟨rfl, id, .inr⟩
  | commit_ =>
    right; rw [commitD]; split
    · exact ⟨rfl, fun e => (by cases e), fun e => (by cases e)⟩
    · rename_i e
      refine ⟨rfl, fun e => (by cases e), fun _ => .inl ?_⟩
      refine Decidable.byContradiction fun q => ?_
      rw [commitK, if_pos (.inl q)] at e; cases e
    · exact ⟨rfl, id, .inr⟩
  | abort_ =>
    right; rw [abortD]; split
    · exact ⟨rfl, fun e => (by cases e), fun e => (by cases e)⟩
    · exact ⟨rfl, id, .inr⟩
  | snap_ keys =>
    right; rw [snapD]; split
    · obtain ⟨a1, a2, _⟩ := wantsD_state (snapW K.c keys) (snap0 x keys)
      rw [a1, a2]
      exact ⟨rfl, fun e => (by cases e), fun e => (by cases e)⟩
    · exact ⟨rfl, id, .inr⟩
  | hand_ m fm =>
    right; rw [handD]
    rcases hand_case K.ses x m fm with e | ⟨e, _⟩ | ⟨e, _, _, _, h3⟩ | ⟨e, _, _, h2, h3, _⟩ | ⟨e, _, _, h2, h3, _⟩ <;> rw [e]
    · exact ⟨rfl, id, .inr⟩
    · exact ⟨rfl, fun e => (by cases e), fun e => (by cases e)⟩
    · exact ⟨rfl, id, .inr⟩
    · have s3 : x.state = 3 := asks_state hi (by have := (answ_spec h2).1; omega) h3
      show (safeD K.c (lowS (answD x m) m)).seq = x.seq ∧ ((safeD K.c (lowS (answD x m) m)).state = 1 → x.state = 1) ∧ ((safeD K.c (lowS (answD x m) m)).state = 2 → x.state = 1 ∨ x.state = 2)
      rw [safeD]
      split
      · exact ⟨rfl, id, .inr⟩
      · obtain ⟨a1, a2, _⟩ := wantsD_state (safeW K.c (lowS (answD x m) m)) (lowS (answD x m) m)
        rw [a1, a2]
        exact ⟨rfl, id, .inr⟩
      · exact ⟨rfl, fun e => (by cases e), fun e => (by cases e)⟩
    · show (seenD (answD x m) m).seq = x.seq ∧ ((seenD (answD x m) m).state = 1 → x.state = 1) ∧ ((seenD (answD x m) m).state = 2 → x.state = 1 ∨ x.state = 2)
      rw [seenD]; split
      · exact ⟨rfl, id, .inr⟩
      · exact ⟨rfl, fun e => (by cases e), fun e => (by cases e)⟩
  | tick_ => exact .inr ⟨rfl, id, .inr⟩
  | none_ => exact .inr ⟨rfl, id, .inr⟩
/-- Outcomes: none, or one alone, of the transaction that is committed. -/
theorem act_told (h : ActIs K x y ev) :
    (∀ e ∈ ev, e.kind ≠ 2) ∨ (∃ b s, ev = [⟨2, K.ses, x.seq, noStr, noVal, 0, b, s, 0⟩] ∧ x.state = 2 ∧ y.state = 0 ∧ y.seq = x.seq) := by
  cases h with
  | hand_ m fm =>
    rcases hand_case K.ses x m fm with e | ⟨e, _, _, h2, _⟩ | ⟨e, _, _, _, h3⟩ | ⟨e, _, _, h2, h3, _⟩ | ⟨e, _, _, h2, h3, _⟩
    · left; intro v hv hk; have := (hand_kind2 hv hk).1; omega
    · right
      refine ⟨m.y, m.st, by rw [handEv, e]; rfl, h2, ?_, ?_⟩ <;> (rw [handD, e]; rfl)
    · left; intro v hv hk; have := (hand_kind2 hv hk).1; omega
    · left; intro v hv hk; have := (hand_kind2 hv hk).1; omega
    · left; intro v hv hk; have := (hand_kind2 hv hk).1; omega
  | _ => left; intro v hv; cases hv
/-- The reads that events tell of. -/
def newR (ev : List EvD) : List Rd := (ev.filter fun e => decide (e.kind = 1)).map fun e => ⟨e.key, e.ver⟩
theorem newR_none {ev : List EvD} (h : ∀ e ∈ ev, e.kind ≠ 1) : newR ev = [] := by
  rw [newR, List.filter_eq_nil_iff.2 (fun e he => by simpa using h e he)]; rfl
theorem newR_len (h : ActIs K x y ev) : (newR ev).length ≤ 1 := by
  cases h with
  | hand_ m fm =>
    by_cases e : handK K.ses x m fm = 2
    · rw [handEv, e]; simp [newR]
    · rw [newR_none fun v hv hk => e (hand_kind1 hv hk)]; exact Nat.zero_le _
  | _ => exact Nat.zero_le _
/-- What is read at last: what was read, and what events tell of. -/
theorem act_reads (h : ActIs K x y ev) (hi : CliInv K.c N x) (hn : y.seq = x.seq) (hs : y.state = 1 ∨ y.state = 2) : y.rds.Perm (x.rds ++ newR ev) := by
  have hq : ∀ {l : List Rd}, l.Perm (l ++ newR []) := fun {l} => by rw [show newR [] = [] from rfl, List.append_nil]
  cases h with
  | begin_ =>
    rw [beginD] at hn ⊢
    split at hn
    · exfalso; have : x.seq + 1 = x.seq := hn; omega
    · rename_i q; rw [if_neg q]; exact hq
  | read_ key => rw [readD]; split <;> exact hq
  | write_ key v => rw [writeD]; split <;> exact hq
  | commit_ =>
    rw [commitD] at hs ⊢
    split at hs
    · rcases hs with e | e <;> cases e
    · exact hq
    · exact hq
  | abort_ =>
    rw [abortD] at hs ⊢
    split at hs
    · rcases hs with e | e <;> cases e
    · rename_i q; rw [if_neg q]; exact hq
  | snap_ keys =>
    rw [snapD]; split
    · rw [(wantsD_state (snapW K.c keys) (snap0 x keys)).2.2.2.2.1]; exact hq
    · exact hq
  | hand_ m fm =>
    rw [handD] at hs ⊢
    rcases hand_case K.ses x m fm with e | ⟨e, _⟩ | ⟨e, _, _, _, h3⟩ | ⟨e, _, _, h2, h3, _⟩ | ⟨e, _, _, h2, h3, _⟩ <;> rw [e] at hs ⊢
    · rw [newR_none fun v hv hk => by have := hand_kind1 hv hk; omega, List.append_nil]
      exact List.Perm.refl _
    · rcases hs with q | q <;> cases q
    · rw [handEv, e]
      exact insR_perm _ _
    · have s3 : x.state = 3 := asks_state hi (by have := (answ_spec h2).1; omega) h3
      exfalso
      revert hs
      show ¬ ((safeD K.c (lowS (answD x m) m)).state = 1 ∨ (safeD K.c (lowS (answD x m) m)).state = 2)
      rw [safeD]
      split
      · show ¬ (x.state = 1 ∨ x.state = 2); omega
      · rw [(wantsD_state _ _).1]; show ¬ (x.state = 1 ∨ x.state = 2); omega
      · show ¬ (0 = 1 ∨ 0 = 2); omega
    · have s3 : x.state = 3 := asks_state hi (by have := (answ_spec h2).1; omega) h3
      exfalso
      revert hs
      show ¬ ((seenD (answD x m) m).state = 1 ∨ (seenD (answD x m) m).state = 2)
      rw [seenD]; split
      · show ¬ (x.state = 1 ∨ x.state = 2); omega
      · show ¬ (0 = 1 ∨ 0 = 2); omega
  | tick_ => exact hq
  | none_ => exact hq
end
end Go.Proofs.YtjgloipgnnigmaaGreatDoor
/- Layer 21 in plain Lean: how much is sent and told. -/
namespace Go.Proofs.YtjgloipgnnigmaaGreatDoor

section
variable {c : Cfg} {x : CliD} {N : Nat} {ses : Int}
theorem wantsL_len (c : Cfg) : ∀ (l : List (Nat × ByteArray × Nat)) (x : CliD), (wantsL c x l).length = l.length
  | [], _ => rfl
  | (g, k, s) :: l, x => by rw [wantsL, List.length_cons, wantsL_len c l, List.length_cons]
theorem readL_len (key : ByteArray) : (readL c x key).length ≤ 100 := by
  rw [readL]; split <;> simp
theorem subTo_len (c : Cfg) (t : Tx) : ∀ L : List Int, (∀ g ∈ L, repN c g.toNat ≤ 5) → (subTo c t L).length ≤ 5 * L.length
  | [], _ => Nat.zero_le _
  | g :: L, h => by
    have ih := subTo_len c t L fun y hy => h y (List.mem_cons_of_mem _ hy)
    have hg := h g (List.mem_cons_self ..)
    have e : (subTo c t (g :: L)).length = repN c g.toNat + (subTo c t L).length := by simp [subTo, subRow]
    rw [e, List.length_cons]
    omega
theorem submitD_len (hf : formedB c = true) : (submitD c ses x).length ≤ 100 := by
  rw [submitD_to]
  have h1 := groupsT_len c (txnD ses x)
  have h2 := (formed_len hf).2.1
  have h3 := subTo_len c (txnD ses x) (groupsT c (txnD ses x)) fun g hg => by
    unfold repN
    by_cases hl : g.toNat < c.reps.length
    · have := formed_range hf hl
      omega
    · rw [List.getD_eq_getElem?_getD, List.getElem?_eq_none (by omega)]; simp
  omega
theorem commitL_len (hf : formedB c = true) : (commitL c ses x).length ≤ 100 := by
  rw [commitL]; split
  · exact submitD_len hf
  · exact Nat.zero_le _
theorem snapL_len (hf : formedB c = true) (keys : List ByteArray) : (snapL c x keys).length ≤ 100 := by
  rw [snapL]; split
  · rw [wantsL_len]; have := snapW_len c keys hf; omega
  · exact Nat.zero_le _
theorem handL_len (h : CliInv c N x) (m : MsgV) (fm : Bool) : (handL c ses x m fm).length ≤ 100 := by
  rw [handL]; split
  · rw [safeL]; split
    · rw [wantsL_len, safeW, List.length_map]
      have := h.kn
      show x.keys.length ≤ 100
      omega
    · exact Nat.zero_le _
  · exact Nat.zero_le _
theorem tickL_len (hf : formedB c = true) (h : CliInv c N x) : (tickL c ses x).length ≤ 100 := by
  rw [tickL]; split
  · exact submitD_len hf
  · rw [List.length_map]; have := h.an; omega
theorem handEv_len (h : CliInv c N x) (m : MsgV) (fm : Bool) : (handEv ses x m fm).length ≤ 1000 := by
  have hk := h.kn
  rw [handEv]
  rcases hand_case ses x m fm with e | ⟨e, _⟩ | ⟨e, _⟩ | ⟨e, _⟩ | ⟨e, _⟩ <;> rw [e]
  · exact Nat.zero_le _
  · show 1 ≤ 1000; omega
  · show 1 ≤ 1000; omega
  · show (safeEv ses (lowS (answD x m) m)).length ≤ 1000
    rw [safeEv]; split
    · show 1 ≤ 1000; omega
    · rw [List.length_append, List.length_map]; show x.keys.length + 1 ≤ 1000; omega
    · exact Nat.zero_le _
  · show (seenEv ses (answD x m) m).length ≤ 1000
    rw [seenEv]; split
    · show 1 ≤ 1000; omega
    · show 2 ≤ 1000; omega
    · show 1 ≤ 1000; omega
end
end Go.Proofs.YtjgloipgnnigmaaGreatDoor
/- An element of an own row of structs, as a row of cells. -/
namespace Go.Proofs.YtjgloipgnnigmaaGreatDoor
open Go.RowKit Go.Shelf

theorem flat_at {α : Type} {f : α → List Value} {n : Nat} (hf : ∀ a, (f a).length = n) (d : α) : ∀ (l : List α) (k j : Nat), k < l.length → j < n → (l.flatMap f)[k * n + j]? = (f (l.getD k d))[j]?
  | [], k, j, h, _ => by simp at h
  | x :: l, 0, j, _, hj => by
    rw [List.flatMap_cons, Nat.zero_mul, Nat.zero_add, List.getElem?_append_left (by rw [hf]; exact hj)]
    rfl
  | x :: l, k + 1, j, h, hj => by
    have := flat_at hf d l k j (by simpa using h) hj
    rw [List.flatMap_cons, List.getElem?_append_right (by rw [hf, Nat.succ_mul]; omega), hf, show (k + 1) * n + j - n = k * n + j by rw [Nat.succ_mul]; omega, this]
    rfl
theorem own_el {α : Type} {f : α → List Value} {n : Nat} (hf : ∀ a, (f a).length = n) (d : α) {w : World} {base : Nat} {e : TypeId} {v : Value} {l : List α} (h : w.ownsRow base e n v l.length (l.flatMap f)) :
    ∃ (A : Option Addr) (cap : Nat), v = .slice A l.length cap ∧ ∀ k, k < l.length → ∃ g, A = some ⟨g, 0, none⟩ ∧ CellRow w ⟨g, 0 + k * n, none⟩ (f (l.getD k d)).toArray := by
  rcases h.2 with ⟨rfl, h0⟩ | ⟨g, cap, cur, rfl, hfr, hh, hn, _, _, ht⟩
  · exact ⟨none, 0, by rw [h0], fun k hk => by omega⟩
  · refine ⟨some ⟨g, 0, none⟩, cap, rfl, fun k hk => ⟨g, rfl, fun j u hu => ?_⟩⟩
    have hj : j < n := by
      have := (Array.getElem?_eq_some_iff.1 hu).1
      simpa [hf] using this
    have hlt : k * n + j < l.length * n := by
      have : (k + 1) * n ≤ l.length * n := Nat.mul_le_mul_right _ hk
      rw [Nat.succ_mul] at this
      omega
    have h1 : (cur.toList.take (l.length * n))[k * n + j]? = (l.flatMap f)[k * n + j]? := by rw [ht]
    rw [List.getElem?_take_of_lt hlt, flat_at hf d l k j hk hj] at h1
    rw [Go.WideShapes.add_plain]
    simp only [World.cell?, hh, Nat.zero_add, Option.isSome_none, Bool.false_eq_true, if_false]
    rw [← Array.getElem?_toList, h1, ← hu]
    simp
end Go.Proofs.YtjgloipgnnigmaaGreatDoor
/- parishref21.SameEvents, loosely: two events compared. -/
namespace Go.Proofs.YtjgloipgnnigmaaGreatDoor
open Go.RowKit Go.Shelf

set_option maxHeartbeats 2000000 in
theorem neqEv_some (e f : EvD) : ∃ b : Bool, ∀ w : World, (binOp .neq 169 (.agg e.vs) (.agg f.vs)).run Tryz.prog w = .ok (.bool b) w := by
  obtain ⟨a1, a2, a3, a4, ⟨a5, a6, a7⟩, a8, a9, a10, a11⟩ := e
  obtain ⟨b1, b2, b3, b4, ⟨b5, b6, b7⟩, b8, b9, b10, b11⟩ := f
  by_cases h1 : a1 = b1
  case neg => exact ⟨true, fun w => by simp [go_sem, EvD.vs, h1]⟩
  by_cases h2 : a2 = b2
  case neg => exact ⟨true, fun w => by simp [go_sem, EvD.vs, h1, h2]⟩
  by_cases h3 : a3 = b3
  case neg => exact ⟨true, fun w => by simp [go_sem, EvD.vs, h1, h2, h3]⟩
  by_cases h4 : a4.toList = b4.toList
  case neg => exact ⟨true, fun w => by simp [go_sem, EvD.vs, h1, h2, h3, h4]⟩
  by_cases h5 : a5 = b5
  case neg => exact ⟨true, fun w => by simp [go_sem, EvD.vs, h1, h2, h3, h4, h5]⟩
  by_cases h6 : (a6 : Int) = (b6 : Int)
  case neg => exact ⟨true, fun w => by simp [go_sem, EvD.vs, h1, h2, h3, h4, h5, h6]⟩
  by_cases h7 : a7.toList = b7.toList
  case neg => exact ⟨true, fun w => by simp [go_sem, EvD.vs, h1, h2, h3, h4, h5, h6, h7]⟩
  by_cases h8 : (a8 : Int) = (b8 : Int)
  case neg => exact ⟨true, fun w => by simp [go_sem, EvD.vs, h1, h2, h3, h4, h5, h6, h7, h8]⟩
  by_cases h9 : a9 = b9
  case neg => exact ⟨true, fun w => by simp [go_sem, EvD.vs, h1, h2, h3, h4, h5, h6, h7, h8, h9]⟩
  by_cases h10 : (a10 : Int) = (b10 : Int)
  case neg => exact ⟨true, fun w => by simp [go_sem, EvD.vs, h1, h2, h3, h4, h5, h6, h7, h8, h9, h10]⟩
  by_cases h11 : a11 = b11
  case neg => exact ⟨true, fun w => by simp [go_sem, EvD.vs, h1, h2, h3, h4, h5, h6, h7, h8, h9, h10, h11]⟩
  exact ⟨false, fun w => by simp [go_sem, EvD.vs, h1, h2, h3, h4, h5, h6, h7, h8, h9, h10, h11]⟩
end Go.Proofs.YtjgloipgnnigmaaGreatDoor
/- parishref21.SameEvents, loosely: some bool. -/
namespace Go.Proofs.YtjgloipgnnigmaaGreatDoor
open Go.RowKit Go.Shelf Go.Sort

set_option maxRecDepth 100000 in
set_option maxHeartbeats 4000000 in
theorem refSameEv_some (l1 l2 : List EvD) (v1 v2 : Value) (b1 b2 : Nat) (w : World) (h1 : w.ownsRow b1 169 11 v1 l1.length (evCells l1)) (h2 : w.ownsRow b2 169 11 v2 l2.length (evCells l2)) (hn : l1.length ≤ 1000000) :
    Calls Tryz.prog 67 #[v1, v2] w (SomeB w) := by
  obtain ⟨A1, k1, rfl, H1⟩ := own_el (f := fun e : EvD => e.vs.toList) (fun _ => rfl) (⟨0, 0, 0, noStr, noVal, 0, false, 0, 0⟩ : EvD) h1
  obtain ⟨A2, k2, rfl, H2⟩ := own_el (f := fun e : EvD => e.vs.toList) (fun _ => rfl) (⟨0, 0, 0, noStr, noVal, 0, false, 0, 0⟩ : EvD) h2
  clear h1 h2
  by_cases hl : l1.length = l2.length
  · have q0 : ((l1.length : Int) != (l2.length : Int)) = false := by rw [hl]; simp
    rw [← hl] at H2 ⊢
    clear q0
    have HH2 := Lib.hid H2
    have HL := Lib.hid hl
    clear hl H2
    go_enter Tryz.func67, Tryz.ntmps67
    go_wp2
    go_loopw [5] (fun i wr => ∃ k : Nat, k ≤ l1.length ∧ i = .int .i64 k ∧ Below w.heap.size w wr) (fun i _ => l1.length - (intOf i).toNat)
    case atStart => exact ⟨0, Nat.zero_le _, rfl, Below.refl _ _⟩
    case round =>
      obtain ⟨k, hk, rfl, hw⟩ := hrel
      by_cases hk1 : k < l1.length
      · obtain ⟨g1, rfl, e1⟩ := H1 k hk1
        obtain ⟨g2, rfl, e2⟩ := HH2.out k hk1
        obtain ⟨x, hx⟩ : ∃ x, l1.getD k ⟨0, 0, 0, noStr, noVal, 0, false, 0, 0⟩ = x := ⟨_, rfl⟩
        obtain ⟨y, hy⟩ : ∃ y, l2.getD k ⟨0, 0, 0, noStr, noVal, 0, false, 0, 0⟩ = y := ⟨_, rfl⟩
        rw [hx] at e1
        rw [hy] at e2
        rw [Nat.zero_add] at e1 e2
        clear hx hy
        have ki : (k : Int) < (l1.length : Int) := by omega
        have k0 : (0 : Int) ≤ (k : Int) := by omega
        obtain ⟨bb, hb⟩ := neqEv_some x y
        go_upto_region 6 with fail
        have hC1 : ∀ wz, (∃ p : Regrown, wz = grow (redrawn wr p.d) p.os) → CellRow wz ⟨g1, k * 11, none⟩ x.vs := fun wz ⟨p, e⟩ => by subst e; exact CellRow.later (CellRow.later e1 hw) (below_regrown wr p.d p.os)
        have hC2 : ∀ wz, (∃ p : Regrown, wz = grow (redrawn wr p.d) p.os) → CellRow wz ⟨g2, k * 11, none⟩ y.vs := fun wz ⟨p, e⟩ => by subst e; exact CellRow.later (CellRow.later e2 hw) (below_regrown wr p.d p.os)
        refine wp_region_quiet_below (by kernel_rfl) (by kernel_rfl) ?_
        repeat (first | (go_big_quiet_want; refine quiet_load_cells 169 _ rfl ⟨g1, k * 11, none⟩ rfl x.vs _ hC1 Tryz.underlying169 rfl info_rev ?_; simp only [Act.put, List.setIfInBounds_toArray, List.set_cons_succ, List.set_cons_zero]; go_big_quiet_on) | (go_big_quiet_want; refine quiet_load_cells 169 _ rfl ⟨g2, k * 11, none⟩ rfl y.vs _ hC2 Tryz.underlying169 rfl info_rev ?_; simp only [Act.put, List.setIfInBounds_toArray, List.set_cons_succ, List.set_cons_zero]; go_big_quiet_on) | go_big_quiet_step (fail))
        refine wpQuiet_nil ?_
        intro _ hw'
        obtain ⟨⟨dq, osq⟩, hw''⟩ := hw'
        subst hw''
        have HSq := below_regrown wr dq osq
        cases bb
        · go_wp2
          go_roundw
          case rel => exact ⟨k + 1, by omega, by go_num, keepB hw HSq⟩
          case measure => simp [intOf]; omega
        · go_wp2
          go_ret
          exact ⟨_, rfl, keepB hw HSq⟩
      · have ki : ¬ ((k : Int) < (l1.length : Int)) := by omega
        go_wp2
        go_ret
        exact ⟨_, rfl, hw⟩
  · have q0 : ((l1.length : Int) != (l2.length : Int)) = true := by rw [bne_iff_ne]; omega
    go_enter Tryz.func67, Tryz.ntmps67
    go_wp2
    go_ret
    exact ⟨_, rfl, Below.refl _ _⟩
end Go.Proofs.YtjgloipgnnigmaaGreatDoor
