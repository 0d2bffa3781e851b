/- The client's Tick. -/
import Derived.Test.YtjgloipgnnigmaaGreatDoorJ10
import Derived.Test.YtjgloipgnnigmaaGreatDoorJ8
import Derived.Test.YtjgloipgnnigmaaGreatDoorCliTxn21
import Derived.Test.YtjgloipgnnigmaaGreatDoorJ9
import Derived.Test.YtjgloipgnnigmaaGreatDoorJ11
import Derived.Deep.Onto
import Derived.RegionTactic
set_option linter.unusedVariables false
set_option linter.unusedSimpArgs false
namespace Go.Proofs.YtjgloipgnnigmaaGreatDoor
open Go.RowKit Go.Shelf Go.Sort

/-- What was sent so far: messages that lie in any memory. -/
def SntSt (w : World) (base : Nat) (v : Value) (d : List SndD) (n : Nat) : Prop :=
  ∃ l, w.ownsRow base 81 35 v l.length (sndCells l) ∧ SndsIs l d ∧ (∀ s ∈ l, ∀ wz, MsgAt wz s.m) ∧ l.length ≤ n
theorem SntSt.snoc {w' : World} {base : Nat} {v' : Value} {n : Nat} {d : List SndD} {l : List SndX} {s : SndX} {z : SndD} (hi : SndsIs l d) (hm : ∀ s ∈ l, ∀ wz, MsgAt wz s.m) (hn : l.length ≤ n) (hs : SndIs s z) (hz : ∀ wz, MsgAt wz s.m)
    (hr : w'.ownsRow base 81 35 v' (l.length + 1) (sndCells l ++ s.vs.toList)) : SntSt w' base v' (d ++ [z]) (n + 1) := by
  refine ⟨l ++ [s], ?_, hi.snoc hs, ?_, by simp; exact hn⟩
  · rw [sndCells_snoc, List.length_append]; exact hr
  · intro y hy
    rcases List.mem_append.1 hy with q | q
    · exact hm y q
    · rw [List.mem_singleton.1 q]; exact hz
theorem SntSt.nil (w : World) (base : Nat) : SntSt w base (.slice none 0 0) [] 0 := ⟨[], own_nil _ _ _ _, SndsIs.nil, fun _ h => (by cases h), Nat.le_refl _⟩
theorem SntSt.mono {w : World} {base : Nat} {v : Value} {n n' : Nat} {d : List SndD} (h : SntSt w base v d n) (hn : n ≤ n') : SntSt w base v d n' := by
  obtain ⟨l, a, b, c, e⟩ := h
  exact ⟨l, a, b, c, Nat.le_trans e hn⟩
theorem map_take_snoc {α β : Type} (f : α → β) {l : List α} {k : Nat} {d a : α} (hk : k < l.length) (e : l.getD k d = a) : (l.take (k + 1)).map f = (l.take k).map f ++ [f a] := by
  have : l[k] = a := by rw [← e, getD_eq l d hk]
  rw [List.take_succ_eq_append_getElem hk, this]
  simp
def TickPost (w : World) (B p : Nat) (K : CliK) (O : Nat → Prop) (x : CliD) (d : List SndD) (e : Ending) (w' : World) : Prop :=
  ∃ v l, e = .returned v ∧ SndsAt w' w.heap.size v l d ∧ CliAt w' B p K x (ext O w w') ∧ Out O w w'
theorem info_ask1t : (Tryz.prog.info? 103).map (·.size) = some 4 := by kernel_rfl
theorem oneAsk {a b c : Int} {s : ByteArray} : (#[.int .i64 a, .int .i64 b, .string s, .int .u64 c] : Array Value).all (·.oneCell') = true := by simp [Value.oneCell']
section
variable {w : World} {B p : Nat} {K : CliK} {x : CliD} {O : Nat → Prop}
set_option maxRecDepth 100000 in
set_option maxHeartbeats 8000000 in
theorem tick_any (h : CliAt w B p K x O) (hB : B ≤ w.heap.size) (hC : ∀ w', Below B w w' → CfgAt w' K.c K.A K.B) (hf : formedB K.c = true) (hca : K.c.reps.length ≤ K.ca) (ht : x.turn < 60) (ha : x.asks.length ≤ 100)
    (hak : ∀ a ∈ x.asks, a.g < K.c.reps.length ∧ a.key.size ≤ 9223372036854775807)
    (HSub : ∀ wz, CliAt wz B p K (tick0 x) O → Out O w wz → Calls Tryz.prog 42 #[.pointer (some ⟨p, 0, none⟩)] wz (SubPost wz (submitD K.c K.ses (tick0 x)))) :
    Calls Tryz.prog 17 #[.pointer (some ⟨p, 0, none⟩)] w (TickPost w B p K O (tick0 x) (tickL K.c K.ses x)) := by
  have hlt := Lib.hid h.lt'
  obtain ⟨vr, vw, va, vk, h⟩ := h
  obtain ⟨_, _, _, _, _, _, c6, _⟩ := h.cs
  have f6 := h.fz 6
  obtain ⟨T, hT⟩ : ∃ T, (x.turn + 1) % 60 = T := ⟨_, rfl⟩
  have hT60 : T < 60 := by rw [← hT]; exact Nat.mod_lt _ (by omega)
  have hm : Int.tmod ((x.turn : Int) + 1) 60 = (T : Int) := by
    rw [← hT, show ((x.turn : Int) + 1) = ((x.turn + 1 : Nat) : Int) by omega]
    rfl
  have hw1 : IntKind.i64.wrap ((x.turn : Int) + 1) = (x.turn : Int) + 1 := IntWalk.i64_in _ (by omega)
  have hw2 : IntKind.i64.wrap (T : Int) = (T : Int) := IntWalk.i64_in _ (by omega)
  obtain ⟨y, hy⟩ : ∃ y, tick0 x = y := ⟨_, rfl⟩
  have hyx : ({ x with turn := T } : CliD) = y := by rw [← hy, tick0, hT]
  have h1 := h.s6 T
  rw [hyx] at h1
  have ho1 : Out O w (w.setCell ⟨p, 6, none⟩ (.int .i64 (T : Int))) := out_p h.hp (Out.refl _ _)
  obtain ⟨w1, ew1⟩ : ∃ w1, w.setCell ⟨p, 6, none⟩ (.int .i64 (T : Int)) = w1 := ⟨_, rfl⟩
  rw [ew1] at h1 ho1
  have hyA : y.asks = x.asks := by rw [← hyx]
  have hyS : y.state = x.state := by rw [← hyx]
  have hyT : y.turn < 60 := by rw [← hyx]; exact hT60
  rw [hy] at HSub ⊢
  obtain ⟨_, _, _, c3, _, _, _, _, _, _, c10, _⟩ := h1.cs
  rw [hyS] at c3
  obtain ⟨A10, cap10, e10, _, hA10, _⟩ := own_asks h1.rowa
  subst e10
  rw [hyA] at hA10 c10
  have h1c := Lib.hid (⟨vr, vw, _, vk, h1⟩ : CliAt w1 B p K y O)
  replace ho1 := Lib.hid ho1
  replace HSub := Lib.hid HSub
  replace hyT := Lib.hid hyT
  have hszw : w1.heap.size = w.heap.size := by rw [← ew1]; simp [World.setCell]
  replace hszw := Lib.hid hszw
  replace hy := Lib.hid hy
  clear h hyx hT hT60 h1 hyS
  by_cases s2 : x.state = 2
  · have q2 : ((x.state : Int) == 2) = true := by rw [beq_iff_eq]; omega
    have HE : Hid (tickL K.c K.ses x = submitD K.c K.ses (tick0 x)) := by show _ = _; rw [tickL, if_pos s2]
    clear s2
    go_enter Tryz.func17, Tryz.ntmps17
    go_wp2_with (go_at_call 42; refine (HSub.out _ h1c.out ho1.out).mono ?_; rintro e w2 ⟨v2, l2, rfl, hs2, hb2⟩)
    go_ret
    rw [HE.out, hy.out]
    obtain ⟨a1, a2, a3, a4, hA⟩ := CliAt.later h1c.out hb2
    exact ⟨v2, l2, rfl, ⟨World.ownsRow.mono hs2.row (Nat.le_of_eq hszw.out.symm), hs2.is, hs2.at_⟩, ⟨a1, a2, a3, a4, hA.widen (fun k hk => (hlt.out k hk).2) hB⟩, ho1.out.trans' (Out.of_below hb2)⟩
  · have q2 : ((x.state : Int) == 2) = false := by rw [beq_eq_false_iff_ne]; omega
    have HE : Hid (tickL K.c K.ses x = x.asks.map (sentD K.c (tick0 x))) := by show _ = _; rw [tickL, if_neg s2]
    clear s2
    go_enter Tryz.func17, Tryz.ntmps17
    go_wp2
    obtain ⟨i0, hi, hz0, hz1, hz2⟩ := info_parts info_snd3
    go_loopw [3, 29] (fun v i wr => ∃ k : Nat, k ≤ x.asks.length ∧ i = .int .i64 k ∧ Hid (SntSt wr w1.heap.size v ((x.asks.take k).map (sentD K.c y)) k) ∧ Below w1.heap.size w1 wr) (fun _ i _ => x.asks.length - (intOf i).toNat)
    case atStart => exact ⟨0, Nat.zero_le _, rfl, SntSt.nil _ _, Below.refl _ _⟩
    case round =>
      obtain ⟨k, hk, rfl, HS, hw⟩ := hrel
      by_cases hltk : k < x.asks.length
      · obtain ⟨b, off, n, g, s, st, rfl, d0, d1, d2, d3, HX⟩ := hA10.at' hltk
        have hmem := hak _ (getD_mem (d := noAsk) hltk)
        rw [HX.out] at hmem
        have HM := map_take_snoc (sentD K.c y) hltk HX.out
        replace HM := Lib.hid HM
        obtain ⟨hg, hks⟩ := hmem
        replace hg : Hid (g < K.c.reps.length) := hg
        replace hks : Hid (s.size ≤ 9223372036854775807) := hks
        replace d0 := keep hw d0
        replace d1 := keep hw d1
        replace d2 := keep hw d2
        replace d3 := keep hw d3
        obtain ⟨l, hown, hsi, hsm, hsn⟩ := HS.out
        obtain ⟨A3, k3, rfl⟩ := own_form hown
        replace hsi := Lib.hid hsi
        replace hsm := Lib.hid hsm
        replace hsn := Lib.hid hsn
        have hmx : Hid (l.length ≤ 100) := by have := hsn.out; show _ ≤ _; omega
        have hgd : Hid (∀ wz, Below w1.heap.size w1 wz → Calls Tryz.prog 54 #[.pointer (some ⟨p, 0, none⟩), .agg #[.int .i64 (n : Int), .int .i64 (g : Int), .string s, .int .u64 (st : Int)]] wz (AggPost wz (sentX K.c y ⟨n, g, s, st⟩).vs)) := fun wz hb =>
          sent_any (CliAt.later h1c.out hb) (hC wz (((ho1.out.below hB (fun k hk => (hlt.out k hk).1)).trans (hb.mono (by have := hszw.out; omega))))) hf hca hyT.out ⟨n, g, s, st⟩ hg.out
        clear HX
        go_wp2_with (first
          | (refine wpList_store_new rfl 103 _ _ rfl wr #[.int .i64 (n : Int), .int .i64 (g : Int), .string s, .int .u64 (st : Int)] 103 rfl rfl rfl info_ask1t rfl oneAsk ?_; intro w4 hb4 hs4 hr4; have hw4 := keepB hw hb4; have hown4 := Lib.hid (own_keep hown hb4); obtain ⟨⟨f0, f1, f2, f3⟩, -⟩ := cellsTx hr4)
          | (go_at_call 54; refine (hgd.out _ hw4).mono ?_; rintro e w5 ⟨rfl, hb5⟩; have hw5 := keepB hw4 hb5; have hown5 := Lib.hid (own_keep hown4.out hb5))
          | (refine wpList_buildSlice1 rfl 50 81 _ rfl (sentX K.c y ⟨n, g, s, st⟩).vs rfl _ Tryz.underlying50 info_snd (by rw [snd_size]; omega) (by rw [snd_size]; omega) (zero_snd _) ?_; obtain ⟨w6, e6, hb6, hs6, hr6⟩ := boxed w5 (sentX K.c y ⟨n, g, s, st⟩).vs 81; rw [e6])
          | (at_builtin; refine wpList_append_own _ rfl _ _ 50 rfl w1.heap.size 81 i0 _ 35 376 Tryz.underlying50 hi hz0 hz1 hz2 rfl (by decide) _ _ _ rfl (own_keep hown5.out hb6) ⟨w5.heap.size, 0, none⟩ 1 1 (sentX K.c y ⟨n, g, s, st⟩).vs.toList rfl rfl (World.news_of_block hr6) (one_cell_snd _) (le_maxLen (by have := hmx.out; omega)) (by have := hmx.out; omega) (Nat.le_trans hw5.size hb6.size) ?_; intro v7 w7 HO7 hg7 _; have hB7 := Lib.hid (own_below (keepB hw5 hb6) (Nat.le_refl _) (own_keep hown5.out hb6) hg7); have hS7 := Lib.hid (SntSt.snoc hsi.out hsm.out hsn.out (sentX_is K.c y ⟨n, g, s, st⟩) (fun wz => sentX_lies K.c y ⟨n, g, s, st⟩ wz hks.out) HO7); clear HO7 hg7))
        go_roundw
        case rel => exact ⟨k + 1, hltk, by go_num, by show SntSt _ _ _ _ _; rw [HM.out]; exact hS7.out, hB7.out⟩
        case measure => simp [intOf]; exact Nat.sub_lt_sub_left hltk (Nat.lt_succ_self k)
      · have ek : k = x.asks.length := by omega
        have HS3 : Hid (SntSt wr w1.heap.size u3 (x.asks.map (sentD K.c y)) k) := by
          have := HS.out
          rw [ek, List.take_length] at this
          rw [ek]
          exact this
        clear ek
        go_wp2
        go_ret
        rw [HE.out, hy.out]
        obtain ⟨l, g1, g2, g3, _⟩ := HS3.out
        obtain ⟨a1, a2, a3, a4, hA⟩ := CliAt.later h1c.out hw
        exact ⟨_, l, rfl, ⟨World.ownsRow.mono g1 (Nat.le_of_eq hszw.out.symm), g2, fun s hs => g3 s hs _⟩, ⟨a1, a2, a3, a4, hA.widen (fun k hk => (hlt.out k hk).2) hB⟩, ho1.out.trans' (Out.of_below hw)⟩
end
end Go.Proofs.YtjgloipgnnigmaaGreatDoor
/- Layer 21 in plain Lean: a message keeps the invariant; what events say. -/
namespace Go.Proofs.YtjgloipgnnigmaaGreatDoor

theorem perm_erase {α : Type} (d : α) : ∀ (l : List α) (i : Nat), i < l.length → (l.getD i d :: l.eraseIdx i).Perm l
  | [], _, h => by simp at h
  | _ :: _, 0, _ => by simp
  | a :: l, i + 1, h => by
    have := perm_erase d l i (by simpa using h)
    rw [List.getD_cons_succ, List.eraseIdx_cons_succ]
    exact (List.Perm.swap _ _ _).trans (this.cons a)
section
variable {c : Cfg} {N : Nat} {x : CliD} {ses : Int} {m : MsgV} {fm : Bool}
theorem answ_spec (h : answB x m = true) : answK x m.num m.key < x.asks.length ∧ ((answA x m).n : Int) = m.num ∧ (answA x m).key = m.key ∧ ¬ (x.state = 1 ∧ m.err ≠ 0) := by
  simp only [answB, Bool.and_eq_true, decide_eq_true_eq, Bool.not_eq_true', Bool.and_eq_false_iff, decide_eq_false_iff_not] at h
  have h1 : answK x m.num m.key < x.asks.length := h.1
  have h2 := List.findIdx_getElem (w := h1)
  rw [answA, getD_eq x.asks noAsk h1]
  simp only [askP, Bool.and_eq_true, decide_eq_true_eq] at h2
  exact ⟨h1, h2.1, h2.2, fun q => h.2.elim (fun z => z q.1) (fun z => z q.2)⟩
theorem hand_case (ses : Int) (x : CliD) (m : MsgV) (fm : Bool) :
    (handK ses x m fm = 0) ∨ (handK ses x m fm = 1 ∧ fm = true ∧ m.kind = 11 ∧ x.state = 2 ∧ m.ids = ses ∧ m.idq = x.seq) ∨ (handK ses x m fm = 2 ∧ fm = true ∧ m.kind = 13 ∧ answB x m = true ∧ x.state = 1) ∨
    (handK ses x m fm = 3 ∧ fm = true ∧ m.kind = 13 ∧ answB x m = true ∧ x.state ≠ 1 ∧ (answA x m).key = noStr) ∨ (handK ses x m fm = 4 ∧ fm = true ∧ m.kind = 13 ∧ answB x m = true ∧ x.state ≠ 1 ∧ (answA x m).key ≠ noStr) := by
  unfold handK
  cases fm
  · exact .inl rfl
  · simp only [Bool.true_eq_false, if_false]
    by_cases h1 : m.kind = 11 ∧ x.state = 2 ∧ m.ids = ses ∧ m.idq = x.seq
    · rw [if_pos h1]; exact .inr (.inl ⟨rfl, (by trivial), h1⟩)
    · rw [if_neg h1]
      by_cases h2 : m.kind = 13
      · rw [if_pos h2]
        cases h3 : answB x m
        · exact .inl rfl
        · simp only [Bool.true_eq_false, if_false]
          by_cases h4 : x.state = 1
          · rw [if_pos h4]; exact .inr (.inr (.inl ⟨rfl, (by trivial), h2, (by trivial), h4⟩))
          · rw [if_neg h4]
            by_cases h5 : (answA x m).key = noStr
            · rw [if_pos h5]; exact .inr (.inr (.inr (.inl ⟨rfl, (by trivial), h2, (by trivial), h4, h5⟩)))
            · rw [if_neg h5]; exact .inr (.inr (.inr (.inr ⟨rfl, (by trivial), h2, (by trivial), h4, h5⟩)))
      · rw [if_neg h2]; exact .inl rfl
theorem asks_state (h : CliInv c N x) (ha : 0 < x.asks.length) (h1 : x.state ≠ 1) : x.state = 3 := by
  have h0 : x.state ≠ 0 := fun e => by have := (h.idle e).1; rw [this] at ha; cases ha
  have h2 : x.state ≠ 2 := fun e => by have := (h.com e).1; rw [this] at ha; cases ha
  have := h.st
  omega
theorem CliInv.low (h : CliInv c N x) (m : MsgV) (hk : ∀ a ∈ x.asks, a.key = noStr) : CliInv c N (lowS x m) := { h with sn := fun _ => .inl hk }
theorem CliInv.seen (h : CliInv c N x) (m : MsgV) : CliInv c N (seenD x m) := by
  rw [seenD]; split
  · exact h
  · exact h.rest
theorem mem_answA (h : answB x m = true) : answA x m ∈ x.asks := by
  have h1 := (answ_spec h).1
  rw [answA, getD_eq x.asks noAsk h1]
  exact List.getElem_mem h1
theorem all_no (h : CliInv c N x) (h3 : x.state = 3) (hb : answB x m = true) (hn : (answA x m).key = noStr) : ∀ a ∈ x.asks, a.key = noStr :=
  (h.sn h3).elim id fun q => absurd hn (q.2 _ (mem_answA hb))
theorem CliInv.hand (h : CliInv c N x) (hf : formedB c = true) (ses : Int) (m : MsgV) (fm : Bool) : CliInv c (N + 6) (handD c ses x m fm) := by
  rw [handD]
  rcases hand_case ses x m fm with e | ⟨e, _, h1⟩ | ⟨e, _, h1, h2, h3⟩ | ⟨e, _, h1, h2, h3, h4⟩ | ⟨e, _, h1, h2, h3, h4⟩ <;> rw [e]
  · exact h.up (by omega)
  · exact (h.rest.floor _ (by show (0 : Nat) ≠ 3; decide)).up (by omega)
  · obtain ⟨o1, o2, o3, o4⟩ := h.one (inTxn_1 h3)
    obtain ⟨a1, a2, a3, a4⟩ := answ_spec h2
    have hl : (x.asks.eraseIdx (answK x m.num m.key)).length + 1 = x.asks.length := by rw [List.length_eraseIdx_of_lt a1]; omega
    have hp : (akeys ({ answD x m with rds := insR x.rds ⟨m.key, m.ver⟩ } : CliD)).Perm (akeys x) := by
      have q1 : ((insR x.rds ⟨m.key, m.ver⟩).map Rd.key).Perm (x.rds.map Rd.key ++ [m.key]) := by
        have := (insR_perm x.rds ⟨m.key, m.ver⟩).map Rd.key
        simpa using this
      have q2 : (m.key :: (x.asks.eraseIdx (answK x m.num m.key)).map AskD.key).Perm (x.asks.map AskD.key) := by
        have := (perm_erase noAsk x.asks (answK x m.num m.key) a1).map AskD.key
        rw [List.map_cons] at this
        rw [show (x.asks.getD (answK x m.num m.key) noAsk).key = m.key from a3] at this
        exact this
      show ((insR x.rds ⟨m.key, m.ver⟩).map Rd.key ++ (x.asks.eraseIdx (answK x m.num m.key)).map AskD.key).Perm _
      refine (q1.append (List.Perm.refl _)).trans ?_
      rw [List.append_assoc]
      exact (List.Perm.refl _).append q2
    have ha := (h.answ m).up (M := N + 6) (by omega)
    exact { ha with
      rn := by show (insR x.rds ⟨m.key, m.ver⟩).length ≤ 6; rw [insR_len]; omega
      idle := fun e => by rw [show x.state = 0 from e] at h3; cases h3
      com := fun e => by rw [show x.state = 2 from e] at h3; cases h3
      one := fun _ => ⟨o1, by show (insR x.rds ⟨m.key, m.ver⟩).length + (x.asks.eraseIdx (answK x m.num m.key)).length ≤ 6; rw [insR_len]; omega, hp.symm.nodup o3, fun k hk => o4 k (hp.subset hk)⟩
      srt := insR_sorted _ _ }
  · have s3 := asks_state h (by have := (answ_spec h2).1; omega) h3
    have hn := all_no h s3 h2 h4
    exact CliInv.safe ((h.answ m).low m fun a ha => hn a (mem_erase ha)) hf s3
  · exact ((h.answ m).seen m).up (by omega)
theorem CliInv.tick (h : CliInv c N x) : CliInv c N (tick0 x) := { h with tn := Nat.mod_lt _ (by decide) }

/-! ### What events say -/
/-- An outcome is told in state 2 alone, of the very transaction. -/
theorem hand_kind2 {ev : EvD} (he : ev ∈ handEv ses x m fm) (hk : ev.kind = 2) : handK ses x m fm = 1 ∧ ev = ⟨2, ses, x.seq, noStr, noVal, 0, m.y, m.st, 0⟩ := by
  rw [handEv] at he
  rcases hand_case ses x m fm with e | ⟨e, _⟩ | ⟨e, _⟩ | ⟨e, _⟩ | ⟨e, _⟩ <;> rw [e] at he
  · cases he
  · simp at he; exact ⟨e, he⟩
  · simp at he; subst he; cases hk
  · exfalso
    simp only [safeEv] at he
    split at he
    · simp [overEv] at he; subst he; cases hk
    · rcases List.mem_append.1 he with q | q
      · obtain ⟨k, _, rfl⟩ := List.mem_map.1 q; cases hk
      · simp [overEv] at q; subst q; cases hk
    · cases he
  · exfalso
    simp only [seenEv] at he
    split at he
    · simp [overEv] at he; subst he; cases hk
    · simp [overEv] at he; rcases he with rfl | rfl <;> cases hk
    · simp at he; subst he; cases hk
/-- A read is told in state 1 alone. -/
theorem hand_kind1 {ev : EvD} (he : ev ∈ handEv ses x m fm) (hk : ev.kind = 1) : handK ses x m fm = 2 := by
  rw [handEv] at he
  rcases hand_case ses x m fm with e | ⟨e, _⟩ | ⟨e, _⟩ | ⟨e, _⟩ | ⟨e, _⟩ <;> rw [e] at he
  · cases he
  · simp at he; subst he; cases hk
  · exact e
  · exfalso
    simp only [safeEv] at he
    split at he
    · simp [overEv] at he; subst he; cases hk
    · rcases List.mem_append.1 he with q | q
      · obtain ⟨k, _, rfl⟩ := List.mem_map.1 q; cases hk
      · simp [overEv] at q; subst q; cases hk
    · cases he
  · exfalso
    simp only [seenEv] at he
    split at he
    · simp [overEv] at he; subst he; cases hk
    · simp [overEv] at he; rcases he with rfl | rfl <;> cases hk
    · simp at he; subst he; cases hk
/-- A snapshot that ends well isn't below the floor. -/
theorem hand_kind4 (h : CliInv c N x) {ev : EvD} (he : ev ∈ handEv ses x m fm) (hk : ev.kind = 4) (h0 : ev.err = 0) : x.floor ≤ ev.stamp := by
  rw [handEv] at he
  rcases hand_case ses x m fm with e | ⟨e, _⟩ | ⟨e, _⟩ | ⟨e, _, h1, h2, h3, h4⟩ | ⟨e, _, h1, h2, h3, h4⟩ <;> rw [e] at he
  · cases he
  · simp at he; subst he; cases hk
  · simp at he; subst he; cases hk
  · simp only [safeEv] at he
    split at he
    · simp [overEv] at he; subst he; cases h0
    · rename_i e3
      rcases List.mem_append.1 he with q | q
      · obtain ⟨k, _, rfl⟩ := List.mem_map.1 q; cases hk
      · simp [overEv] at q; subst q
        unfold safeK at e3
        split at e3; · cases e3
        split at e3; · cases e3
        rename_i q1 q2
        exact Nat.le_of_not_lt q2
    · cases he
  · have s3 := asks_state h (by have := (answ_spec h2).1; omega) h3
    have hs : x.floor ≤ x.stamp := (h.sn s3).elim (fun q => absurd (q _ (mem_answA h2)) h4) (fun q => q.1)
    simp only [seenEv] at he
    split at he
    · rename_i e3
      simp [overEv] at he; subst he
      unfold seenK at e3
      split at e3
      · rename_i q; exact absurd h0 q
      · split at e3 <;> cases e3
    · simp [overEv] at he
      rcases he with rfl | rfl
      · cases hk
      · exact hs
    · simp at he; subst he; cases hk
theorem hand_floor : x.floor ≤ (handD c ses x m fm).floor := by
  rw [handD]
  rcases hand_case ses x m fm with e | ⟨e, _⟩ | ⟨e, _⟩ | ⟨e, _⟩ | ⟨e, _⟩ <;> rw [e]
  · exact Nat.le_refl _
  · show x.floor ≤ if m.y = true then max x.floor m.st else x.floor
    split
    · exact Nat.le_max_left _ _
    · exact Nat.le_refl _
  · exact Nat.le_refl _
  · show x.floor ≤ (safeD c (lowS (answD x m) m)).floor
    rw [safeD]
    split
    · exact Nat.le_refl _
    · rw [(wantsD_state _ _).2.2.2.1]; exact Nat.le_refl _
    · exact Nat.le_refl _
  · show x.floor ≤ (seenD (answD x m) m).floor
    rw [seenD]; split <;> exact Nat.le_refl _
theorem hand_yes {ev : EvD} (he : ev ∈ handEv ses x m fm) (hk : ev.kind = 2) (hy : ev.yes = true) : ev.stamp ≤ (handD c ses x m fm).floor := by
  obtain ⟨e, rfl⟩ := hand_kind2 he hk
  rw [handD, e]
  show m.st ≤ if m.y = true then max x.floor m.st else x.floor
  rw [if_pos hy]
  exact Nat.le_max_right _ _
end
end Go.Proofs.YtjgloipgnnigmaaGreatDoor
/- The client's answered, where something is answered. -/
namespace Go.Proofs.YtjgloipgnnigmaaGreatDoor
open Go.RowKit Go.Shelf Go.Sort

def AnsPost (w : World) (B p : Nat) (K : CliK) (O : Nat → Prop) (x : CliD) (m : MsgV) (e : Ending) (w' : World) : Prop :=
  e = .returned (.tuple #[.agg #[.int .i64 ((answA x m).n : Int), .int .i64 ((answA x m).g : Int), .string (answA x m).key, .int .u64 ((answA x m).st : Int)], .bool true]) ∧ CliAt w' B p K (answD x m) (ext O w w') ∧ Out O w w'
theorem four_set (w : World) (g : Nat) (a b c d : Value) : Out (fun k => k = g) w ((((w.setCell ⟨g, 0, none⟩ a).setCell ⟨g, 1, none⟩ b).setCell ⟨g, 2, none⟩ c).setCell ⟨g, 3, none⟩ d) :=
  (((out_set21 w g 0 a).trans' (out_set21 _ g 1 b)).trans' (out_set21 _ g 2 c)).trans' (out_set21 _ g 3 d)
section
variable {w : World} {B p : Nat} {K : CliK} {x : CliD} {O : Nat → Prop}
set_option maxRecDepth 100000 in
set_option maxHeartbeats 4000000 in
theorem answered_yes (h : CliAt w B p K x O) (hB : B ≤ w.heap.size) (ha : x.asks.length ≤ 6) (m : MsgV) (hK : answB x m = true) :
    Calls Tryz.prog 46 #[.pointer (some ⟨p, 0, none⟩), .agg m.vs] w (AnsPost w B p K O x m) := by
  obtain ⟨W0, eW0, HB0, hsz0, hr0⟩ := boxed w m.vs 43
  obtain ⟨W, eW, HBa, hszA, hrA⟩ := boxed W0 #[.int .i64 0, .int .i64 0, .string ⟨#[]⟩, .int .u64 0] 103
  have HRA := Lib.hid hrA
  clear hrA
  have HB := keepB HB0 HBa
  have hr := obj_keep hr0 HBa
  obtain ⟨c0, c1, c2, c3, c4, c5, c6, c7, c8, c9, c10, c11, c12, c13, c14, c15, c16, c17, c18, c19, c20, c21, c22, c23, c24, c25, c26, c27, c28, c29, c30, c31, c32, c33⟩ := msg_cs hr
  clear c0 c1 c2 c3 c4 c5 c6 c7 c8 c9 c10 c11 c12 c13 c14 c15 c16 c17 c18 c19 c20 c21 c22 c23 c24 c25 c26 c27 c28 c29 c30 c31 c33 hr0
  have hlt := Lib.hid h.lt'
  have hE0 : x.state = 1 → m.err = 0 := fun e => by have := (answ_spec hK).2.2.2; exact Classical.byContradiction fun q => this ⟨e, q⟩
  obtain ⟨vr, vw, va, vk, hW⟩ := h.later HB
  obtain ⟨_, _, _, d3, _, _, _, _, _, _, d10, _⟩ := hW.cs
  have hsp := answ_spec hK
  have hkl0 := hsp.1
  have hrow := hW.rowa
  obtain ⟨gA, cap10, cur, rfl, hh⟩ : ∃ g cap cur, va = .slice (some ⟨g, 0, none⟩) x.asks.length cap ∧ W.heap[g]? = some (.cells cur 103 (0, 0)) := by
    rcases hrow.2 with ⟨e0, e1⟩ | ⟨g', cap, cur, e1, _, hh, _⟩
    · omega
    · exact ⟨g', cap, cur, e1, hh⟩
  clear hh cur
  obtain ⟨A9, k9, e9, _, hA10, _⟩ := own_asks hrow
  cases e9
  have hWc := Lib.hid hW
  clear hW hrow
  replace hsz0 := Lib.hid hsz0
  replace hszA := Lib.hid hszA
  obtain ⟨k, hk⟩ : ∃ k, Hid (x.asks.findIdx (askP m.num m.key) = k) := ⟨_, rfl⟩
  have HI : Hid (∀ wz, Below W.heap.size W wz → Calls Tryz.prog 99 #[.slice (some ⟨gA, 0, none⟩) x.asks.length cap10, .func (.func 100) #[] #[.pointer (some ⟨w.heap.size, 0, none⟩)]] wz (IdxPost21 wz x.asks.length k)) := fun wz hb => by
    have := idxN_any x.asks _ cap10 m _ w.heap.size wz (hA10.later hb) (obj_keep hr hb) (by omega)
    rwa [hk.out] at this
  have hkl : k < x.asks.length := by have := hkl0; rw [answK, hk.out] at this; exact this
  have HX : Hid (∀ wz e w', IdxPost21 wz x.asks.length k e w' → e = .returned (.int .i64 (k : Int)) ∧ Below wz.heap.size wz w') := by
    intro wz e w' hp
    have := hp
    simp only [IdxPost21, if_pos hkl] at this
    exact this
  obtain ⟨b0, o0, n, g, s, t, e0, f0, f1, f2, f3, HD⟩ := hA10.at' hkl
  cases e0
  rw [Nat.zero_add] at f0 f1 f2 f3
  have HE : Hid (answA x m = ⟨n, g, s, t⟩ ∧ answD x m = { x with asks := x.asks.eraseIdx k }) := by
    show _ ∧ _
    rw [answA, answD, answK, hk.out]
    exact ⟨HD.out, rfl⟩
  have q0 : decide ((k : Int) < 0) = false := by rw [decide_eq_false_iff_not]; omega
  have hgi : (k : Int) < (x.asks.length : Int) := by omega
  have hki : (0 : Int) ≤ (k : Int) := by omega
  have hwk : IntKind.i64.wrap ((k : Int) + 1) = (k : Int) + 1 := IntWalk.i64_in _ (by omega)
  have nO : Hid (¬ O W0.heap.size) := fun e => by have := (hlt.out _ e).2; have := HB0.size; omega
  have nP : Hid (∀ wz : World, Below w.heap.size w wz → ¬ O wz.heap.size) := fun wz hb e => by have := (hlt.out _ e).2; have := hb.size; omega
  have HDel : Hid (∀ wz, CliIn wz B p K x vr vw (.slice (some ⟨gA, 0, none⟩) x.asks.length cap10) vk O → Calls Tryz.prog 101 #[.slice (some ⟨gA, 0, none⟩) x.asks.length cap10, .int .i64 (k : Int), .int .i64 ((k : Int) + 1)] wz (DelPost wz B (.slice (some ⟨gA, 0, none⟩) x.asks.length cap10) (x.asks.eraseIdx k))) := fun wz hz =>
    delA_any x.asks k hkl (by omega) B _ wz hz.rowa
  have hBW := HB.size
  clear hK hsp hkl0 HD hA10
  cases hs : decide (x.state = 1)
  case' true => have q1 : ((x.state : Int) == 1) = true := by rw [decide_eq_true_eq] at hs; rw [beq_iff_eq]; omega
  case' true => have q2 : (m.err != 0) = false := by rw [decide_eq_true_eq] at hs; rw [bne_eq_false_iff_eq]; exact hE0 hs
  case' false => have q1 : ((x.state : Int) == 1) = false := by rw [decide_eq_false_iff_not] at hs; rw [beq_eq_false_iff_ne]; omega
  all_goals
    clear hs hE0
    go_enter Tryz.func46, Tryz.ntmps46
    go_wp2_with (first
      | (go_at_call 99; refine (HI.out _ (Below.refl _ _)).mono ?_; intro e w1 hp; obtain ⟨rfl, hb⟩ := HX.out _ _ _ hp; clear hp; replace c32 := keep hb c32; replace d3 := keep hb d3; replace d10 := keep hb d10; replace f0 := keep hb f0; replace f1 := keep hb f1; replace f2 := keep hb f2; replace f3 := keep hb f3; have hb1 := Lib.hid hb)
      | (refine wpList_store_new rfl 103 _ _ rfl w1 #[.int .i64 (n : Int), .int .i64 (g : Int), .string s, .int .u64 (t : Int)] 103 rfl rfl rfl info_ask1 rfl oneAsk ?_; intro w4 hb4 hs4 hr4; have hb14 := Lib.hid (keepB hb1.out hb4); have d10b := keep hb4 d10; have hr4' := Lib.hid hr4)
      | (go_at_call 101; refine (HDel.out _ (hWc.out.later hb14.out)).mono ?_; rintro e w5 ⟨v5, rfl, hO5, hg5, hv5⟩; obtain ⟨A5, c5, rfl⟩ := own_form hO5; have h4 := hWc.out.later hb14.out; obtain ⟨hc5, hf5⟩ := CliIn.cella h4 hg5; have hGr := Lib.hid (h4.growa (Nat.le_trans hB (Nat.le_trans hBW hb14.out.size)) hg5 hO5 (fun g hg => .inl (hv5 ▸ hg))); have ho5 : Out O w4 (w5.setCell ⟨p, 10, none⟩ (.slice A5 (x.asks.eraseIdx k).length c5)) := out_p h4.hp (Out.of_grown hg5 (fun k e => (h4.mia k e).1)); have hRA5 := ho5.obj (obj_keep HRA.out hb14.out) nO.out; have hr5 := ho5.obj hr4'.out (nP.out _ (keepB HB hb1.out)); obtain ⟨⟨i0, i1, i2, i3⟩, -⟩ := cellsAsk hr5; obtain ⟨⟨e0, e1, e2, e3⟩, y0, y1, y2, y3⟩ := cellsAsk hRA5; replace hRA5 := Lib.hid hRA5; replace ho5 := Lib.hid ho5; clear h4 hr5 hO5 hg5 hv5))
    have z0 := HB0.size
    have z1 := hszA.out
    have z2 := hb14.out.size
    have z3 := ho5.out.size
    have z4 : ∀ a b c d : Value, (((((w5.setCell ⟨p, 10, none⟩ (.slice A5 (x.asks.eraseIdx k).length c5)).setCell ⟨W0.heap.size, 0, none⟩ a).setCell ⟨W0.heap.size, 1, none⟩ b).setCell ⟨W0.heap.size, 2, none⟩ c).setCell ⟨W0.heap.size, 3, none⟩ d).heap.size = w5.heap.size := fun a b c d => by simp [World.setCell]
    have z5 : (w5.setCell ⟨p, 10, none⟩ (.slice A5 (x.asks.eraseIdx k).length c5)).heap.size = w5.heap.size := by simp [World.setCell]
    refine bodyPost_ret (v := .tuple #[.agg #[.int .i64 (n : Int), .int .i64 (g : Int), .string s, .int .u64 (t : Int)], .bool true]) (results_cell_tmp (p := 4) (u := 5) rfl _ _ W0.heap.size _ #[.int .i64 (n : Int), .int .i64 (g : Int), .string s, .int .u64 (t : Int)] (0, 0) _ rfl (ask_fin hRA5.out) Tryz.underlying103 rfl info_ask1) rfl ⟨by rw [HE.out.1], ?_, ?_⟩
    · rw [HE.out.2]
      have hA := hGr.out.out (four_set _ W0.heap.size (.int .i64 (n : Int)) (.int .i64 (g : Int)) (.string s) (.int .u64 (t : Int))) (fun k' hk' e => by
        subst e
        rcases hk' with q | q
        · exact nO.out q
        · omega)
      refine ⟨_, _, _, _, hA.mono (fun k' hk' => ?_) (fun k' hk' => ?_)⟩
      · rcases hk' with q | q
        · exact .inl q
        · exact .inr ⟨by omega, by rw [z4]; exact q.2⟩
      · rcases hk' with q | q
        · exact ⟨(hlt.out k' q).1, by rw [z4]; have := (hlt.out k' q).2; omega⟩
        · exact ⟨by omega, q.2⟩
    · refine ((Out.of_below (keepB HB hb14.out)).trans' ho5.out).trans ((four_set _ _ _ _ _ _).mono fun k' hk' => .inr ⟨by omega, by subst hk'; omega⟩)
end
end Go.Proofs.YtjgloipgnnigmaaGreatDoor
/- The client's seen. -/
namespace Go.Proofs.YtjgloipgnnigmaaGreatDoor
open Go.RowKit Go.Shelf Go.Sort

theorem zero_ev (w : World) : (zeroValue 71).run Tryz.prog w = .ok (.agg #[.int .i64 0, .int .i64 0, .int .i64 0, .string ByteArray.empty, .int .i64 0, .int .u64 0, .string ByteArray.empty, .int .u64 0, .bool false, .int .u64 0, .int .i64 0]) w := by kernel_rfl
theorem info_ev3 : (Tryz.prog.info? 71).map (fun i => (i.zero, i.size, i.bytes)) = some (some (.agg #[.int .i64 0, .int .i64 0, .int .i64 0, .string ByteArray.empty, .int .i64 0, .int .u64 0, .string ByteArray.empty, .int .u64 0, .bool false, .int .u64 0, .int .i64 0]), 11, 104) := by kernel_rfl
theorem one_cell_ev (s : EvD) : ∀ u ∈ s.vs.toList, u.oneCell' = true := fun u hu => by
  have := ev_one s
  rw [← Array.all_toList, List.all_eq_true] at this
  exact this u hu
/-- A method's end that tells events. -/
def EvPost (w : World) (B p : Nat) (K : CliK) (O : Nat → Prop) (x : CliD) (d : List EvD) (e : Ending) (w' : World) : Prop :=
  ∃ v, e = .returned v ∧ w'.ownsRow w.heap.size 71 11 v d.length (evCells d) ∧ CliAt w' B p K x (ext O w w') ∧ Out O w w'
section
variable {w : World} {B p : Nat} {K : CliK} {x : CliD} {O : Nat → Prop}
set_option maxRecDepth 100000 in
set_option maxHeartbeats 4000000 in
theorem seen_any (h : CliAt w B p K x O) (hB : B ≤ w.heap.size) (ha : x.asks.length ≤ 100) (m : MsgV) : Calls Tryz.prog 51 #[.pointer (some ⟨p, 0, none⟩), .agg m.vs] w (EvPost w B p K O (seenD x m) (seenEv K.ses x m)) := by
  obtain ⟨W, eW, HB, hszW, hrW⟩ := boxed w m.vs 43
  obtain ⟨c0, c1, c2, c3, c4, c5, c6, c7, c8, c9, c10, c11, c12, c13, c14, c15, c16, c17, c18, c19, c20, c21, c22, c23, c24, c25, c26, c27, c28, c29, c30, c31, c32, c33⟩ := msg_cs hrW
  clear c0 c1 c2 c3 c4 c5 c6 c7 c8 c9 c10 c11 c12 c13 c14 c15 c16 c17 c18 c19 c20 c21 c22 c23 c24 c25 c26 c33 hrW
  have hW := Lib.hid (h.later HB)
  have hlt := Lib.hid h.lt'
  have hBW := Nat.le_trans hB HB.size
  replace hszW := Lib.hid hszW
  by_cases se : m.err = 0
  · have qe : (m.err != 0) = false := by rw [se]; rfl
    obtain ⟨_, _, va, _, hWi⟩ := hW.out
    obtain ⟨_, _, d2, _, _, _, _, _, _, _, d10, _, d12⟩ := hWi.cs
    obtain ⟨A10, cap10, e10, _⟩ := own_asks hWi.rowa
    subst e10
    clear hWi
    by_cases sa : x.asks.length = 0
    · have qa : ((x.asks.length : Int) == 0) = true := by rw [beq_iff_eq]; omega
      have qa2 : decide (x.asks.length = 0) = true := by rw [decide_eq_true_iff]; exact sa
      have HR : Hid (seenD x m = restD x ∧ seenEv K.ses x m = [(⟨3, K.ses, 0, m.key, m.val, m.ver, false, x.stamp, 0⟩ : EvD), overEv K.ses x 0]) := by show _ ∧ _; simp [seenD, seenEv, seenK, se, sa]
      clear se sa
      go_enter Tryz.func51, Tryz.ntmps51
      go_wp2
      go_region
      change Exit.then _ _ _ _ (World.drew (World.alloc W (.cells (⟨3, K.ses, 0, m.key, m.val, m.ver, false, x.stamp, 0⟩ : EvD).vs 71)))
      obtain ⟨w3, e3, hb3, hr3⟩ : ∃ w3, World.drew (World.alloc W (.cells (⟨3, K.ses, 0, m.key, m.val, m.ver, false, x.stamp, 0⟩ : EvD).vs 71)) = w3 ∧ Below W.heap.size W w3 ∧ w3.heap[W.heap.size]? = some (.cells (⟨3, K.ses, 0, m.key, m.val, m.ver, false, x.stamp, 0⟩ : EvD).vs 71 (0, 0)) := ⟨_, rfl, below_drew (below1 _ _), heap_alloc_new W _⟩
      rw [e3]
      clear e3
      have hHW := Lib.hid (CliAt.later hW.out hb3)
      have hb4 := Lib.hid (keepB HB hb3)
      replace d10 := keep hb3 d10
      have hO3 : Hid (w3.ownsRow w.heap.size 71 11 (.slice (some ⟨W.heap.size, 0, none⟩) 1 1) 1 (evCells [(⟨3, K.ses, 0, m.key, m.val, m.ver, false, x.stamp, 0⟩ : EvD)])) := by
        have := own_one (base := w.heap.size) hr3 (ev_size _) HB.size
        show World.ownsRow _ _ _ _ _ _ _
        simpa [evCells] using this
      obtain ⟨i0, hi, hz0, hz1, hz2⟩ := info_parts info_ev3
      have hn3 : Hid (¬ O W.heap.size) := fun e => by have := (hlt.out _ e).2; have := HB.size; omega
      have hOv := Lib.hid (over_any hHW.out (Nat.le_trans hB hb4.out.size) 0)
      go_wp2_with (first
        | (go_at_call 105; refine hOv.out.mono ?_; rintro e w4 ⟨rfl, hA4, ho4⟩; replace hA4 := Lib.hid hA4; have hO4 := Lib.hid (ho4.row hO3.out (fun g hg => (Option.some.inj hg) ▸ hn3.out)); replace ho4 := Lib.hid ho4)
        | (refine wpList_buildSlice1 rfl 55 71 _ rfl (overEv K.ses x 0).vs rfl _ Tryz.underlying55 info_ev (by rw [ev_size]; omega) (by rw [ev_size]; omega) (zero_ev _) ?_; obtain ⟨w6, e6, hb6, hs6, hr6⟩ := boxed w4 (overEv K.ses x 0).vs 71; rw [e6])
        | (at_builtin; refine wpList_append_own _ rfl _ _ 55 rfl w.heap.size 71 i0 _ 11 104 Tryz.underlying55 hi hz0 hz1 hz2 rfl (by decide) _ _ _ rfl (own_keep hO4.out hb6) ⟨w4.heap.size, 0, none⟩ 1 1 (overEv K.ses x 0).vs.toList rfl rfl (World.news_of_block hr6) (one_cell_ev _) (le_maxLen (by omega)) (by omega) (by have := hb6.size; have := ho4.out.size; have := hb4.out.size; omega) ?_; intro v7 w7 HO7 hg7 _; replace HO7 := Lib.hid HO7; replace hg7 := Lib.hid hg7))
      go_ret
      rw [HR.out.1, HR.out.2]
      have hO7 : Out (fun k => k = W.heap.size) w6 w7 := Out.of_grown hg7.out (fun k e => (Option.some.inj e).symm)
      have z3 : W.heap.size < w3.heap.size := (Array.getElem?_eq_some_iff.1 hr3).1
      have s1 := HB.size
      have s4 := hb4.out.size
      have s5 := ho4.out.size
      have s6 := hb6.size
      have s7 := hO7.size
      refine ⟨_, rfl, HO7.out, ?_, ?_⟩
      · obtain ⟨a1, a2, a3, a4, hA⟩ := (hA4.out.later hb6).out hO7 (fun k hk e => by
          subst e
          rcases hk with q | q
          · exact hn3.out q
          · have := q.1; omega)
        exact ⟨_, _, _, _, hA.mono (fun k hk => hk.elim .inl (fun q => .inr ⟨by omega, by have := q.2; omega⟩)) (fun k hk => hk.elim (fun q => ⟨(hlt.out k q).1, by have := (hlt.out k q).2; omega⟩) (fun q => ⟨by omega, q.2⟩))⟩
      · exact (((Out.of_below hb4.out).trans' ho4.out).trans' (Out.of_below hb6)).trans (hO7.mono fun k hk => .inr ⟨by omega, by subst hk; omega⟩)
    · have qa : ((x.asks.length : Int) == 0) = false := by rw [beq_eq_false_iff_ne]; omega
      have qa2 : decide (x.asks.length = 0) = false := by rw [decide_eq_false_iff_not]; exact sa
      have HR : Hid (seenD x m = x ∧ seenEv K.ses x m = [(⟨3, K.ses, 0, m.key, m.val, m.ver, false, x.stamp, 0⟩ : EvD)]) := by show _ ∧ _; simp [seenD, seenEv, seenK, se, sa]
      clear se sa
      go_enter Tryz.func51, Tryz.ntmps51
      go_wp2
      go_region
      change Exit.then _ _ _ _ (World.drew (World.alloc W (.cells (⟨3, K.ses, 0, m.key, m.val, m.ver, false, x.stamp, 0⟩ : EvD).vs 71)))
      obtain ⟨w3, e3, hb3, hr3⟩ : ∃ w3, World.drew (World.alloc W (.cells (⟨3, K.ses, 0, m.key, m.val, m.ver, false, x.stamp, 0⟩ : EvD).vs 71)) = w3 ∧ Below W.heap.size W w3 ∧ w3.heap[W.heap.size]? = some (.cells (⟨3, K.ses, 0, m.key, m.val, m.ver, false, x.stamp, 0⟩ : EvD).vs 71 (0, 0)) := ⟨_, rfl, below_drew (below1 _ _), heap_alloc_new W _⟩
      rw [e3]
      clear e3
      have hHW := Lib.hid (CliAt.later hW.out hb3)
      have hb4 := Lib.hid (keepB HB hb3)
      replace d10 := keep hb3 d10
      have hO3 : Hid (w3.ownsRow w.heap.size 71 11 (.slice (some ⟨W.heap.size, 0, none⟩) 1 1) 1 (evCells [(⟨3, K.ses, 0, m.key, m.val, m.ver, false, x.stamp, 0⟩ : EvD)])) := by
        have := own_one (base := w.heap.size) hr3 (ev_size _) HB.size
        show World.ownsRow _ _ _ _ _ _ _
        simpa [evCells] using this
      go_wp2
      go_ret
      rw [HR.out.1, HR.out.2]
      obtain ⟨a1, a2, a3, a4, hA⟩ := hHW.out
      exact ⟨_, rfl, hO3.out, ⟨a1, a2, a3, a4, hA.widen (fun k hk => (hlt.out k hk).2) hB⟩, Out.of_below hb4.out⟩
  · have qe : (m.err != 0) = true := by rw [bne_iff_ne]; exact se
    have qe2 : decide (m.err = 0) = false := by rw [decide_eq_false_iff_not]; exact se
    have HR : Hid (seenD x m = restD x ∧ seenEv K.ses x m = [overEv K.ses x m.err]) := by show _ ∧ _; simp [seenD, seenEv, seenK, se]
    clear se
    go_enter Tryz.func51, Tryz.ntmps51
    go_wp2_with (first
      | (go_at_call 105; refine (over_any hW.out hBW m.err).mono ?_; rintro e w2 ⟨rfl, hA2, ho2⟩; replace hA2 := Lib.hid hA2; replace ho2 := Lib.hid ho2)
      | (refine wpList_buildSlice1 rfl 55 71 _ rfl _ rfl _ Tryz.underlying55 info_ev (by rw [ev_size]; omega) (by rw [ev_size]; omega) (zero_ev _) ?_; obtain ⟨w3, e3, hb3, hs3, hr3⟩ := boxed w2 (overEv K.ses x m.err).vs 71; rw [e3]))
    go_ret
    rw [HR.out.1, HR.out.2]
    refine ⟨_, rfl, ?_, hA2.out.wide HB.size ho2.out.size hb3 hlt.out hB, ((Out.of_below HB).trans' ho2.out).trans' (Out.of_below hb3)⟩
    have := own_one (base := w.heap.size) hr3 (ev_size _) (by have := HB.size; have := ho2.out.size; omega)
    simpa [evCells] using this
end
end Go.Proofs.YtjgloipgnnigmaaGreatDoor
