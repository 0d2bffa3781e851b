/- The client's Tick. -/
import Derived.Test.YtjgloipgnnigmaaGreatDoorJ8
import Derived.Test.YtjgloipgnnigmaaGreatDoorJ7
import Derived.Test.YtjgloipgnnigmaaGreatDoorCliTxn21
import Derived.Test.YtjgloipgnnigmaaGreatDoorJ6
import Derived.Test.YtjgloipgnnigmaaGreatDoorJ5
import Derived.Deep.RegionLaw
import Derived.WalkSpells
import Derived.IntWalk
import Derived.Test.YtjgloipgnnigmaaGreatDoorJ4
set_option linter.unusedVariables false
set_option linter.unusedSimpArgs false
namespace Go.Proofs.YtjgloipgnnigmaaGreatDoor
open Go.RowKit Go.Shelf Go.Sort

/-- What was sent so far: messages that lie in any memory. -/
def SntSt (w : World) (base : Nat) (v : Value) (d : List SndD) (n : Nat) : Prop :=
  ∃ l, w.ownsRow base 81 35 v l.length (sndCells l) ∧ SndsIs l d ∧ (∀ s ∈ l, ∀ wz, MsgAt wz s.m) ∧ l.length ≤ n
theorem SntSt.snoc {w' : World} {base : Nat} {v' : Value} {n : Nat} {d : List SndD} {l : List SndX} {s : SndX} {z : SndD} (hi : SndsIs l d) (hm : ∀ s ∈ l, ∀ wz, MsgAt wz s.m) (hn : l.length ≤ n) (hs : SndIs s z) (hz : ∀ wz, MsgAt wz s.m)
    (hr : w'.ownsRow base 81 35 v' (l.length + 1) (sndCells l ++ s.vs.toList)) : SntSt w' base v' (d ++ [z]) (n + 1) := by
  refine ⟨l ++ [s], ?_, hi.snoc hs, ?_, by simp; exact hn⟩
  · rw [sndCells_snoc, List.length_append]; exact hr
  · intro y hy
    rcases List.mem_append.1 hy with q | q
    · exact hm y q
    · rw [List.mem_singleton.1 q]; exact hz
theorem SntSt.nil (w : World) (base : Nat) : SntSt w base (.slice none 0 0) [] 0 := ⟨[], own_nil _ _ _ _, SndsIs.nil, fun _ h => (by cases h), Nat.le_refl _⟩
theorem SntSt.mono {w : World} {base : Nat} {v : Value} {n n' : Nat} {d : List SndD} (h : SntSt w base v d n) (hn : n ≤ n') : SntSt w base v d n' := by
  obtain ⟨l, a, b, c, e⟩ := h
  exact ⟨l, a, b, c, Nat.le_trans e hn⟩
theorem map_take_snoc {α β : Type} (f : α → β) {l : List α} {k : Nat} {d a : α} (hk : k < l.length) (e : l.getD k d = a) : (l.take (k + 1)).map f = (l.take k).map f ++ [f a] := by
  have : l[k] = a := by rw [← e, getD_eq l d hk]
  rw [List.take_succ_eq_append_getElem hk, this]
  simp
def TickPost (w : World) (B p : Nat) (K : CliK) (O : Nat → Prop) (x : CliD) (d : List SndD) (e : Ending) (w' : World) : Prop :=
  ∃ v l, e = .returned v ∧ SndsAt w' w.heap.size v l d ∧ CliAt w' B p K x (ext O w w') ∧ Out O w w'
theorem info_ask1t : (Tryz.prog.info? 103).map (·.size) = some 4 := by kernel_rfl
theorem oneAsk {a b c : Int} {s : ByteArray} : (#[.int .i64 a, .int .i64 b, .string s, .int .u64 c] : Array Value).all (·.oneCell') = true := by simp [Value.oneCell']
section
variable {w : World} {B p : Nat} {K : CliK} {x : CliD} {O : Nat → Prop}
set_option maxRecDepth 100000 in
set_option maxHeartbeats 8000000 in
theorem tick_any (h : CliAt w B p K x O) (hB : B ≤ w.heap.size) (hC : ∀ w', Below B w w' → CfgAt w' K.c K.A K.B) (hf : formedB K.c = true) (hca : K.c.reps.length ≤ K.ca) (ht : x.turn < 60) (ha : x.asks.length ≤ 100)
    (hak : ∀ a ∈ x.asks, a.g < K.c.reps.length ∧ a.key.size ≤ 9223372036854775807)
    (HSub : ∀ wz, CliAt wz B p K (tick0 x) O → Out O w wz → Calls Tryz.prog 42 #[.pointer (some ⟨p, 0, none⟩)] wz (SubPost wz (submitD K.c K.ses (tick0 x)))) :
    Calls Tryz.prog 17 #[.pointer (some ⟨p, 0, none⟩)] w (TickPost w B p K O (tick0 x) (tickL K.c K.ses x)) := by
  have hlt := Lib.hid h.lt'
  obtain ⟨vr, vw, va, vk, h⟩ := h
  obtain ⟨_, _, _, _, _, _, c6, _⟩ := h.cs
  have f6 := h.fz 6
  obtain ⟨T, hT⟩ : ∃ T, (x.turn + 1) % 60 = T := ⟨_, rfl⟩
  have hT60 : T < 60 := by rw [← hT]; exact Nat.mod_lt _ (by omega)
  have hm : Int.tmod ((x.turn : Int) + 1) 60 = (T : Int) := by
    rw [← hT, show ((x.turn : Int) + 1) = ((x.turn + 1 : Nat) : Int) by omega]
    rfl
  have hw1 : IntKind.i64.wrap ((x.turn : Int) + 1) = (x.turn : Int) + 1 := IntWalk.i64_in _ (by omega)
  have hw2 : IntKind.i64.wrap (T : Int) = (T : Int) := IntWalk.i64_in _ (by omega)
  obtain ⟨y, hy⟩ : ∃ y, tick0 x = y := ⟨_, rfl⟩
  have hyx : ({ x with turn := T } : CliD) = y := by rw [← hy, tick0, hT]
  have h1 := h.s6 T
  rw [hyx] at h1
  have ho1 : Out O w (w.setCell ⟨p, 6, none⟩ (.int .i64 (T : Int))) := out_p h.hp (Out.refl _ _)
  obtain ⟨w1, ew1⟩ : ∃ w1, w.setCell ⟨p, 6, none⟩ (.int .i64 (T : Int)) = w1 := ⟨_, rfl⟩
  rw [ew1] at h1 ho1
  have hyA : y.asks = x.asks := by rw [← hyx]
  have hyS : y.state = x.state := by rw [← hyx]
  have hyT : y.turn < 60 := by rw [← hyx]; exact hT60
  rw [hy] at HSub ⊢
  obtain ⟨_, _, _, c3, _, _, _, _, _, _, c10, _⟩ := h1.cs
  rw [hyS] at c3
  obtain ⟨A10, cap10, e10, _, hA10, _⟩ := own_asks h1.rowa
  subst e10
  rw [hyA] at hA10 c10
  have h1c := Lib.hid (⟨vr, vw, _, vk, h1⟩ : CliAt w1 B p K y O)
  replace ho1 := Lib.hid ho1
  replace HSub := Lib.hid HSub
  replace hyT := Lib.hid hyT
  have hszw : w1.heap.size = w.heap.size := by rw [← ew1]; simp [World.setCell]
  replace hszw := Lib.hid hszw
  replace hy := Lib.hid hy
  clear h hyx hT hT60 h1 hyS
  by_cases s2 : x.state = 2
  · have q2 : ((x.state : Int) == 2) = true := by rw [beq_iff_eq]; omega
    have HE : Hid (tickL K.c K.ses x = submitD K.c K.ses (tick0 x)) := by show _ = _; rw [tickL, if_pos s2]
    clear s2
    go_enter Tryz.func17, Tryz.ntmps17
    go_wp2_with (go_at_call 42; refine (HSub.out _ h1c.out ho1.out).mono ?_; rintro e w2 ⟨v2, l2, rfl, hs2, hb2⟩)
    go_ret
    rw [HE.out, hy.out]
    obtain ⟨a1, a2, a3, a4, hA⟩ := CliAt.later h1c.out hb2
    exact ⟨v2, l2, rfl, ⟨World.ownsRow.mono hs2.row (Nat.le_of_eq hszw.out.symm), hs2.is, hs2.at_, fun s hs3 => (hs2.fr s hs3).mono (Nat.le_of_eq hszw.out.symm)⟩, ⟨a1, a2, a3, a4, hA.widen (fun k hk => (hlt.out k hk).2) hB⟩, ho1.out.trans' (Out.of_below hb2)⟩
  · have q2 : ((x.state : Int) == 2) = false := by rw [beq_eq_false_iff_ne]; omega
    have HE : Hid (tickL K.c K.ses x = x.asks.map (sentD K.c (tick0 x))) := by show _ = _; rw [tickL, if_neg s2]
    clear s2
    go_enter Tryz.func17, Tryz.ntmps17
    go_wp2
    obtain ⟨i0, hi, hz0, hz1, hz2⟩ := info_parts info_snd3
    go_loopw [3, 29] (fun v i wr => ∃ k : Nat, k ≤ x.asks.length ∧ i = .int .i64 k ∧ Hid (SntSt wr w1.heap.size v ((x.asks.take k).map (sentD K.c y)) k) ∧ Below w1.heap.size w1 wr) (fun _ i _ => x.asks.length - (intOf i).toNat)
    case atStart => exact ⟨0, Nat.zero_le _, rfl, SntSt.nil _ _, Below.refl _ _⟩
    case round =>
      obtain ⟨k, hk, rfl, HS, hw⟩ := hrel
      by_cases hltk : k < x.asks.length
      · obtain ⟨b, off, n, g, s, st, rfl, d0, d1, d2, d3, HX⟩ := hA10.at' hltk
        have hmem := hak _ (getD_mem (d := noAsk) hltk)
        rw [HX.out] at hmem
        have HM := map_take_snoc (sentD K.c y) hltk HX.out
        replace HM := Lib.hid HM
        obtain ⟨hg, hks⟩ := hmem
        replace hg : Hid (g < K.c.reps.length) := hg
        replace hks : Hid (s.size ≤ 9223372036854775807) := hks
        replace d0 := keep hw d0
        replace d1 := keep hw d1
        replace d2 := keep hw d2
        replace d3 := keep hw d3
        obtain ⟨l, hown, hsi, hsm, hsn⟩ := HS.out
        obtain ⟨A3, k3, rfl⟩ := own_form hown
        replace hsi := Lib.hid hsi
        replace hsm := Lib.hid hsm
        replace hsn := Lib.hid hsn
        have hmx : Hid (l.length ≤ 100) := by have := hsn.out; show _ ≤ _; omega
        have hgd : Hid (∀ wz, Below w1.heap.size w1 wz → Calls Tryz.prog 54 #[.pointer (some ⟨p, 0, none⟩), .agg #[.int .i64 (n : Int), .int .i64 (g : Int), .string s, .int .u64 (st : Int)]] wz (AggPost wz (sentX K.c y ⟨n, g, s, st⟩).vs)) := fun wz hb =>
          sent_any (CliAt.later h1c.out hb) (hC wz (((ho1.out.below hB (fun k hk => (hlt.out k hk).1)).trans (hb.mono (by have := hszw.out; omega))))) hf hca hyT.out ⟨n, g, s, st⟩ hg.out
        clear HX
        go_wp2_with (first
          | (refine wpList_store_new rfl 103 _ _ rfl wr #[.int .i64 (n : Int), .int .i64 (g : Int), .string s, .int .u64 (st : Int)] 103 rfl rfl rfl info_ask1t rfl oneAsk ?_; intro w4 hb4 hs4 hr4; have hw4 := keepB hw hb4; have hown4 := Lib.hid (own_keep hown hb4); obtain ⟨⟨f0, f1, f2, f3⟩, -⟩ := cellsTx hr4)
          | (go_at_call 54; refine (hgd.out _ hw4).mono ?_; rintro e w5 ⟨rfl, hb5⟩; have hw5 := keepB hw4 hb5; have hown5 := Lib.hid (own_keep hown4.out hb5))
          | (refine wpList_buildSlice1 rfl 50 81 _ rfl (sentX K.c y ⟨n, g, s, st⟩).vs rfl _ Tryz.underlying50 info_snd (by rw [snd_size]; omega) (by rw [snd_size]; omega) (zero_snd _) ?_; obtain ⟨w6, e6, hb6, hs6, hr6⟩ := boxed w5 (sentX K.c y ⟨n, g, s, st⟩).vs 81; rw [e6])
          | (at_builtin; refine wpList_append_own _ rfl _ _ 50 rfl w1.heap.size 81 i0 _ 35 376 Tryz.underlying50 hi hz0 hz1 hz2 rfl (by decide) _ _ _ rfl (own_keep hown5.out hb6) ⟨w5.heap.size, 0, none⟩ 1 1 (sentX K.c y ⟨n, g, s, st⟩).vs.toList rfl rfl (World.news_of_block hr6) (one_cell_snd _) (le_maxLen (by have := hmx.out; omega)) (by have := hmx.out; omega) (Nat.le_trans hw5.size hb6.size) ?_; intro v7 w7 HO7 hg7 _; have hB7 := Lib.hid (own_below (keepB hw5 hb6) (Nat.le_refl _) (own_keep hown5.out hb6) hg7); have hS7 := Lib.hid (SntSt.snoc hsi.out hsm.out hsn.out (sentX_is K.c y ⟨n, g, s, st⟩) (fun wz => sentX_lies K.c y ⟨n, g, s, st⟩ wz hks.out) HO7); clear HO7 hg7))
        go_roundw
        case rel => exact ⟨k + 1, hltk, by go_num, by show SntSt _ _ _ _ _; rw [HM.out]; exact hS7.out, hB7.out⟩
        case measure => simp [intOf]; exact Nat.sub_lt_sub_left hltk (Nat.lt_succ_self k)
      · have ek : k = x.asks.length := by omega
        have HS3 : Hid (SntSt wr w1.heap.size u3 (x.asks.map (sentD K.c y)) k) := by
          have := HS.out
          rw [ek, List.take_length] at this
          rw [ek]
          exact this
        clear ek
        go_wp2
        go_ret
        rw [HE.out, hy.out]
        obtain ⟨l, g1, g2, g3, _⟩ := HS3.out
        obtain ⟨a1, a2, a3, a4, hA⟩ := CliAt.later h1c.out hw
        exact ⟨_, l, rfl, ⟨World.ownsRow.mono g1 (Nat.le_of_eq hszw.out.symm), g2, fun s hs => g3 s hs _, fun s hs => FreshM.all (g3 s hs)⟩, ⟨a1, a2, a3, a4, hA.widen (fun k hk => (hlt.out k hk).2) hB⟩, ho1.out.trans' (Out.of_below hw)⟩
end
end Go.Proofs.YtjgloipgnnigmaaGreatDoor
/- Laws of no program: 'append' within a row that has room, its source in any memory (the row itself too); 'clear' of a part of a row; 'append(s[:i], make(S, k)...)' where there is no room. -/
namespace Go.Proofs.YtjgloipgnnigmaaGreatDoor
open Go.RowKit

section
variable {P : Program} {w : World}
theorem run_append_splice (t ty e : TypeId) (i : TypeInfo) (size : Nat) (ht : P.underlying t = some (.slice e)) (hi : P.info? e = some i) (hsize : i.size = size)
    (g sLen sCap : Nat) (cur : List Value) (hg : w.heap[g]? = some (.cells cur.toArray e (0, 0)))
    (ad : Addr) (m c : Nat) (news : List Value) (hl : news.length = m * size) (hnews : ∀ j u, news[j]? = some u → w.cell? (ad.add j) = some u) (h1 : ∀ u ∈ news, u.oneCell' = true)
    (hroom : sLen + m ≤ sCap) (hfit : sLen * size + news.length ≤ cur.length) :
    ∃ w', (Builtin.append_ #[t, t] ty #[.slice (some ⟨g, 0, none⟩) sLen sCap, .slice (some ad) m c]).run P w = .ok (.slice (some ⟨g, 0, none⟩) (sLen + m) sCap) w' ∧ w'.heap[g]? = some (.cells (splice cur (sLen * size) news).toArray e (0, 0)) ∧ w.grownBy w' (some g) := by
  subst hsize
  refine ⟨_, run_append_room w t ty e i ht hi g sLen sCap cur.toArray hg ad m c news hl hnews h1 hroom (by simpa using hfit), ?_, grown_setRow _ _ _⟩
  rw [setRow_heap w g cur.toArray _ e _ hg]
  simp [splice]
theorem step_append_splice {ops : Array Oper} {o : Oper} {a : Act} {K : Act → World → Prop} {Q : Exit → Act → World → Prop} {E : Prop} (hgd : o.guard = none) (s x : Operand) (t : TypeId)
    (ho : o.op = .call { callee := .builtin .append, args := #[s, x], argTypes := #[t, t] }) (e : TypeId) (i : TypeInfo) (size : Nat) (ht : P.underlying t = some (.slice e)) (hi : P.info? e = some i) (hsize : i.size = size)
    (g sLen sCap : Nat) (hs : a.eval s = .slice (some ⟨g, 0, none⟩) sLen sCap) (ad : Addr) (m c : Nat) (hx : a.eval x = .slice (some ad) m c) (cur : List Value) (hg : w.heap[g]? = some (.cells cur.toArray e (0, 0)))
    (news : List Value) (hl : news.length = m * size) (hnews : ∀ j u, news[j]? = some u → w.cell? (ad.add j) = some u) (h1 : ∀ u ∈ news, u.oneCell' = true)
    (hroom : sLen + m ≤ sCap) (hfit : sLen * size + news.length ≤ cur.length)
    (h : ∀ w' : World, Hid (w'.heap[g]? = some (.cells (splice cur (sLen * size) news).toArray e (0, 0))) → w.grownBy w' (some g) → K (a.put o.dst (.slice (some ⟨g, 0, none⟩) (sLen + m) sCap)) w') :
    if Region.wanted o (yielded ops a.tmps) = true then Oper.wp P o a w K Q else E := by
  obtain ⟨w', hr, h2, h3⟩ := run_append_splice (P := P) (w := w) t o.type e i size ht hi hsize g sLen sCap cur hg ad m c news hl hnews h1 hroom hfit
  have hw : Region.wanted o (yielded ops a.tmps) = true := by simp [Region.wanted, hgd]
  rw [if_pos hw]
  unfold Oper.wp
  simp [execOp, ho, resolve, invoke, builtin, hs, hx, hr, Result.andThen]
  exact h w' h2 h3
theorem run_clear_splice (t e ty : TypeId) (z : Value) (size : Nat) (ht : P.underlying t = some (.slice e)) (hv : ∀ w, (zeroValue e).run P w = .ok z w) (hz : z.cells.size = size) (h1 : ∀ u ∈ z.cells, u.oneCell' = true)
    (g off n c : Nat) (cur : List Value) (te : TypeId) (hg : w.heap[g]? = some (.cells cur.toArray te (0, 0))) (hfit : off + n * size ≤ cur.length) (hn : 0 < n) :
    ∃ w' cs, (Builtin.clear_ #[t] ty #[.slice (some ⟨g, off, none⟩) n c]).run P w = .ok (.tuple #[]) w' ∧ cs.length = n * size ∧ w'.heap[g]? = some (.cells (splice cur off cs).toArray te (0, 0)) ∧ w.grownBy w' (some g) := by
  have hl : (Builtin.zeroCells z.cells n).toList.length = n * size := by simp [Builtin.zeroCells, hz]
  have h1' : ∀ v ∈ (Builtin.zeroCells z.cells n).toList, v.oneCell' = true := by
    intro v hv
    simp only [Builtin.zeroCells, Array.toList_map, List.mem_map, Array.mem_toList_iff, Array.mem_range] at hv
    obtain ⟨j, hj, rfl⟩ := hv
    have hzp : 0 < z.cells.size := by
      rcases Nat.eq_zero_or_pos z.cells.size with h | h
      · rw [h] at hj; simp at hj
      · exact h
    rw [getElem!_pos z.cells _ (Nat.mod_lt _ hzp)]
    exact h1 _ (Array.getElem_mem _)
  have hst := run_storeCells_at P g off te (Builtin.zeroCells z.cells n).toList 0 cur.toArray w hg (by rw [hl]; simpa using hfit) h1'
  simp only [Nat.add_zero] at hst
  obtain ⟨m, rfl⟩ : ∃ m, n = m + 1 := ⟨n - 1, by omega⟩
  refine ⟨w.setRow g (cur.toArray.toList.take off ++ (Builtin.zeroCells z.cells (m + 1)).toList ++ cur.toArray.toList.drop (off + (Builtin.zeroCells z.cells (m + 1)).toList.length)).toArray, (Builtin.zeroCells z.cells (m + 1)).toList, ?_, hl, ?_, grown_setRow w g _⟩
  · simp [Builtin.clear_, run_underlying ht, hv, hst]
  · rw [setRow_heap w g cur.toArray _ te _ hg]
    simp [splice]
theorem wpList_clear_splice {ops : Array Oper} {rest : List Oper} {o : Oper} {a : Act} {Q : Exit → Act → World → Prop} (hgd : o.guard = none) (s : Operand) (t : TypeId)
    (ho : o.op = .call { callee := .builtin .clear, args := #[s], argTypes := #[t] }) (e : TypeId) (z : Value) (size : Nat) (ht : P.underlying t = some (.slice e)) (hv : ∀ w, (zeroValue e).run P w = .ok z w) (hz : z.cells.size = size) (h1 : ∀ u ∈ z.cells, u.oneCell' = true)
    (g off n c : Nat) (hs : a.eval s = .slice (some ⟨g, off, none⟩) n c) (cur : List Value) (te : TypeId) (hg : w.heap[g]? = some (.cells cur.toArray te (0, 0))) (hfit : off + n * size ≤ cur.length) (hn : 0 < n)
    (h : ∀ (cs : List Value) (w' : World), cs.length = n * size → Hid (w'.heap[g]? = some (.cells (splice cur off cs).toArray te (0, 0))) → w.grownBy w' (some g) → wpList P ops Q rest (a.put o.dst (.tuple #[])) w') : wpList P ops Q (o :: rest) a w := by
  obtain ⟨w', cs, hr, hl, h2, h3⟩ := run_clear_splice (P := P) (w := w) t e o.type z size ht hv hz h1 g off n c cur te hg hfit hn
  refine wpList_plain hgd fun K hK => ?_
  unfold Oper.wp
  simp [execOp, ho, resolve, invoke, builtin, hs, hr, Result.andThen]
  exact hK _ _ (h cs w' hl h2 h3)
/-- append(s[:i], make(S, k)...) where there is no room. -/
theorem wpList_append_zerosN {ops : Array Oper} {rest : List Oper} {o : Oper} {a : Act} {Q : Exit → Act → World → Prop} (hgd : o.guard = none) (s x : Operand) (t tn : TypeId)
    (ho : o.op = .call { callee := .builtin .append, args := #[s, x], argTypes := #[t, tn] }) (e : TypeId) (i : TypeInfo) (z : Value) (size bytes : Nat) (ht : P.underlying t = some (.slice e)) (htn : P.underlying tn = some (.int .i64)) (hi : P.info? e = some i) (hz : i.zero = some z)
    (hsize : i.size = size) (hby : i.bytes = bytes) (hzs : z.cells.size = size) (hsz : 0 < size) (g m cap k N : Nat) (hN : m + k = N) (z' : Int) (hs : a.eval s = .slice (some ⟨g, 0, none⟩) m cap) (hx : a.eval x = .int .i64 z') (hzk : z' = (k : Int)) (h0 : 0 < k) (hcap : cap < m + k)
    (olds : List Value) (hol : olds.length = m * size) (hold : ∀ j u, olds[j]? = some u → w.cell? ((⟨g, 0, none⟩ : Addr).add j) = some u) (h63 : m + k ≤ 1000000) (hbytes : (m + k) * bytes ≤ 140737488355328)
    (h : ∀ (G : Nat) (cur : List Value) (w' : World), N ≤ G → G ≤ 9223372036854775807 → cur.length = G * size → cur.take (m * size) = olds → w'.heap[w.heap.size]? = some (.cells cur.toArray e (0, 0)) → w.grownBy w' none → w'.heap.size = w.heap.size + 1 → wpList P ops Q rest (a.put o.dst (.slice (some ⟨w.heap.size, 0, none⟩) N G)) w') : wpList P ops Q (o :: rest) a w := by
  subst hN
  subst hzk
  subst hsize
  have hold' : (Builtin.firstCells i.size m (.slice (some ⟨g, 0, none⟩) m cap)).run P w.drew = .ok olds.toArray w.drew := run_firstCells_some w.drew _ m ⟨g, 0, none⟩ m cap olds hol (fun j v hj => hold j v hj)
  have hr := Lib.run_append_grow_zeros (P := P) w t tn o.type e i z .i64 .i64 ht htn hi hz (some ⟨g, 0, none⟩) m cap olds hold' k h0 (by omega) (by omega) (by omega) (by rw [hby]; exact Nat.le_trans (Nat.mul_le_mul_right _ (Nat.le_add_left k m)) (by omega)) (by rw [hby]; exact growslice_fits hcap hbytes)
  refine Lib.wpList_append_run w hgd s x t tn ho _ _ hs hx _ _ hr ?_
  obtain ⟨G, hG⟩ : ∃ G, grownCap w (m + k) cap e = G := ⟨_, rfl⟩
  have hg1 : m + k ≤ G := hG ▸ grownCap_ge w (m + k) cap e
  have hg2 : G ≤ maxLen := hG ▸ grownCap_le_maxLen w (m + k) cap e (le_maxLen h63)
  rw [hG]
  have hl : (olds.toArray ++ Builtin.zeroCells z.cells k ++ Builtin.zeroCells z.cells (G - (m + k))).toList.length = G * i.size := by
    have e0 : G = m + (k + (G - (m + k))) := by omega
    have : ∀ n, (Builtin.zeroCells z.cells n).size = n * i.size := fun n => by simp [Builtin.zeroCells, hzs]
    rw [Array.length_toList, Array.size_append, Array.size_append, this, this, List.size_toArray, hol, Nat.add_assoc, ← Nat.add_mul, ← Nat.add_mul]
    congr 1
    omega
  refine h G _ _ hg1 (by unfold maxLen at hg2; omega) hl ?_ ?_ ?_ ?_
  · rw [Array.toList_append, Array.toList_append, List.append_assoc]
    exact List.take_left' (by rw [← hol])
  · rw [show w.heap.size = w.drew.heap.size from rfl, heap_alloc_new]
  · exact ⟨rfl, rfl, rfl, by simp, (World.grownBy_alloc w.drew _ none).block⟩
  · simp
end
end Go.Proofs.YtjgloipgnnigmaaGreatDoor
/- Plain lists: splices, and rows of cells cut at an element. -/
namespace Go.Proofs.YtjgloipgnnigmaaGreatDoor

theorem splice_low {α : Type} (L : List α) (a n : Nat) (c : List α) (h : n ≤ a) (ha : a ≤ L.length) : (splice L a c).take n = L.take n := by
  unfold splice
  rw [List.take_append_of_le_length (by rw [List.length_take]; omega), List.take_take]
  congr 1
  omega
theorem splice_hi {α : Type} (L : List α) (a : Nat) (c : List α) (ha : a ≤ L.length) : (splice L a c).take (a + c.length) = L.take a ++ c := by
  unfold splice
  rw [← List.append_assoc]
  exact List.take_left' (by rw [List.length_append, List.length_take]; omega)
theorem splice_ins {α : Type} (L : List α) (a : Nat) (v t : List α) (h : a + v.length ≤ L.length) : (splice (splice L (a + v.length) t) a v).take (a + v.length + t.length) = L.take a ++ v ++ t := by
  have e1 : (splice L (a + v.length) t).take a = L.take a := splice_low _ _ _ _ (by omega) h
  have e2 : (splice L (a + v.length) t).drop (a + v.length) = t ++ L.drop (a + v.length + t.length) := by
    unfold splice
    exact List.drop_left' (by rw [List.length_take]; omega)
  rw [show splice (splice L (a + v.length) t) a v = (splice L (a + v.length) t).take a ++ (v ++ (splice L (a + v.length) t).drop (a + v.length)) from rfl, e1, e2, ← List.append_assoc, ← List.append_assoc]
  exact List.take_left' (by simp; omega)
theorem splice_grow {α : Type} (L : List α) (a : Nat) (v t : List α) (h : a + v.length ≤ L.length) : (splice (splice L a v) (a + v.length) t).take (a + v.length + t.length) = L.take a ++ v ++ t := by
  rw [splice_hi _ _ _ (by rw [length_splice _ _ _ h]; exact h), splice_hi _ _ _ (by omega)]
theorem flat_take {α β : Type} (f : α → List β) (n : Nat) (hf : ∀ x, (f x).length = n) : ∀ (l : List α) (k : Nat), (l.flatMap f).take (k * n) = (l.take k).flatMap f
  | [], k => by simp
  | x :: l, 0 => by simp
  | x :: l, k + 1 => by
    have := flat_take f n hf l k
    rw [List.flatMap_cons, List.take_succ_cons, List.flatMap_cons, ← this, show (k + 1) * n = (f x).length + k * n by rw [hf, Nat.succ_mul, Nat.add_comm], List.take_length_add_append]
theorem flat_drop {α β : Type} (f : α → List β) (n : Nat) (hf : ∀ x, (f x).length = n) : ∀ (l : List α) (k : Nat), (l.flatMap f).drop (k * n) = (l.drop k).flatMap f
  | [], k => by simp
  | x :: l, 0 => by simp
  | x :: l, k + 1 => by
    have := flat_drop f n hf l k
    rw [List.flatMap_cons, List.drop_succ_cons, ← this, show (k + 1) * n = (f x).length + k * n by rw [hf, Nat.succ_mul, Nat.add_comm], List.drop_length_add_append]
end Go.Proofs.YtjgloipgnnigmaaGreatDoor
/- slices.Delete at asks: one is taken out. -/
namespace Go.Proofs.YtjgloipgnnigmaaGreatDoor
open Go.RowKit

def askC (a : AskD) : List Value := [.int .i64 (a.n : Int), .int .i64 (a.g : Int), .string a.key, .int .u64 (a.st : Int)]
theorem askC_len (a : AskD) : (askC a).length = 4 := rfl
theorem askC_one (a : AskD) : ∀ u ∈ askC a, u.oneCell' = true := fun u hu => by
  simp only [askC, List.mem_cons, List.not_mem_nil, or_false] at hu
  rcases hu with rfl | rfl | rfl | rfl <;> rfl
theorem askCs_one (l : List AskD) : ∀ u ∈ askCells l, u.oneCell' = true := fun u hu => by
  obtain ⟨x, _, hu⟩ := List.mem_flatMap.1 hu
  exact askC_one x u hu
theorem ask_take (l : List AskD) (k : Nat) : (askCells l).take (k * 4) = askCells (l.take k) := flat_take askC 4 askC_len l k
theorem ask_drop (l : List AskD) (k : Nat) : (askCells l).drop (k * 4) = askCells (l.drop k) := flat_drop askC 4 askC_len l k
theorem ask_app (l m : List AskD) : askCells (l ++ m) = askCells l ++ askCells m := by simp [askCells]
theorem del_cells (cur : List Value) (l : List AskD) (k : Nat) (hk : k < l.length) (hc : l.length * 4 ≤ cur.length) (ht : cur.take (l.length * 4) = askCells l) (cs : List Value) :
    (splice (splice cur (k * 4) (askCells (l.drop (k + 1)))) ((l.length - 1) * 4) cs).take ((l.eraseIdx k).length * 4) = askCells (l.eraseIdx k) := by
  have e : (l.eraseIdx k).length = l.length - 1 := by rw [List.length_eraseIdx_of_lt hk]
  have hl : (askCells (l.drop (k + 1))).length = (l.length - (k + 1)) * 4 := by rw [askCells_len, List.length_drop]
  have hf : k * 4 + (askCells (l.drop (k + 1))).length ≤ cur.length := by rw [hl]; omega
  rw [e, splice_low _ _ _ _ (Nat.le_refl _) (by rw [length_splice _ _ _ hf]; omega), show (l.length - 1) * 4 = k * 4 + (askCells (l.drop (k + 1))).length by rw [hl]; omega, splice_hi _ _ _ (by omega)]
  have h1 : cur.take (k * 4) = askCells (l.take k) := by
    rw [← ask_take, ← ht, List.take_take, Nat.min_eq_left (by omega)]
  rw [h1, ← ask_app, List.eraseIdx_eq_take_drop_succ]
theorem info_ask4 : (Tryz.prog.info? 103).map (fun i => (i.zero, i.size, i.bytes)) = some (some (.agg #[.int .i64 0, .int .i64 0, .string ByteArray.empty, .int .u64 0]), 4, 40) := by kernel_rfl
theorem zero_ask (w : World) : (zeroValue 103).run Tryz.prog w = .ok (.agg #[.int .i64 0, .int .i64 0, .string ByteArray.empty, .int .u64 0]) w := by kernel_rfl
theorem ask0_one : ∀ u ∈ (Value.agg #[.int .i64 0, .int .i64 0, .string ByteArray.empty, .int .u64 0]).cells, u.oneCell' = true := by
  intro u hu
  simp [Value.cells] at hu
  rcases hu with rfl | rfl | rfl <;> rfl
def DelPost (w : World) (B : Nat) (v0 : Value) (l : List AskD) (e : Ending) (w' : World) : Prop :=
  ∃ v', e = .returned v' ∧ w'.ownsRow B 103 4 v' l.length (askCells l) ∧ w.grownBy w' v0.ownBlock ∧ v'.ownBlock = v0.ownBlock
set_option maxRecDepth 100000 in
set_option maxHeartbeats 2000000 in
theorem delA_last (l : List AskD) (k : Nat) (hln : l.length = k + 1) (B g : Nat) (cur : Array Value) (w : World) {i0 : TypeInfo} (hi : Tryz.prog.info? 103 = some i0) (hz1 : i0.size = 4) (hg : B ≤ g) (hrow : Hid (w.drew.heap[g]? = some (.cells cur.toList.toArray 103 (0, 0)))) (hm : k + 1 ≤ maxLen) (HC : cur.toList.length = (k + 1) * 4) (HT : cur.toList.take (l.length * 4) = askCells l) :
    Calls Tryz.prog 101 #[.slice (some ⟨g, 0, none⟩) (k + 1) (k + 1), .int .i64 (k : Int), .int .i64 ((k : Int) + 1)] w (DelPost w B (.slice (some ⟨g, 0, none⟩) (k + 1) (k + 1)) (l.eraseIdx k)) := by
  have hq : ((k : Int) == (k : Int) + 1) = false := by rw [beq_eq_false_iff_ne]; omega
  have hb1 : (0 : Int) ≤ (k : Int) := by omega
  have hb2 : (k : Int) ≤ (k : Int) + 1 := by omega
  have hb5 : (0 : Int) ≤ (k : Int) + 1 := by omega
  have HL : Hid ((askCells (l.drop (k + 1))).length = 0 * 4) := by show _ = _; rw [List.drop_eq_nil_of_le (by omega)]; rfl
  have HN : Hid (∀ j u, ([] : List Value)[j]? = some u → w.drew.cell? ((⟨g, 0, none⟩ : Addr).add j) = some u) := fun j u hj => by cases hj
  have hll : Hid ((l.eraseIdx k).length = k) := by show _ = _; rw [List.length_eraseIdx_of_lt (by omega)]; omega
  have HD : Hid (∀ cs, (splice (splice cur.toList (k * 4) []) (k * 4) cs).take ((l.eraseIdx k).length * 4) = askCells (l.eraseIdx k)) := fun cs => by
    have := del_cells cur.toList l k (by omega) (by rw [HC]; omega) HT cs
    rwa [List.drop_eq_nil_of_le (by omega), show l.length - 1 = k by omega] at this
  replace HC := Lib.hid HC
  replace HT := Lib.hid HT
  replace hm := Lib.hid hm
  replace hln := Lib.hid hln
  have hsz1 : Hid ((splice cur.toList (k * 4) ([] : List Value)).length = (k + 1) * 4) := by show _ = _; rw [length_splice _ _ _ (by rw [HC.out]; simp; omega)]; exact HC.out
  have hwk : IntKind.i64.wrap ((k : Int) + 1) = (k : Int) + 1 := IntWalk.i64_in _ (by have := hm.out; unfold maxLen at this; omega)
  go_enter Tryz.func101, Tryz.ntmps101
  go_wp2_with fail
  go_region_law ((refine step_append_splice rfl (.tmp 22) (.tmp 25) 93 rfl 103 i0 4 Tryz.underlying93 hi hz1 g k (k + 1) (by simp [Act.eval, Act.put]) ⟨g, 0, none⟩ 0 0 (by simp [Act.eval, Act.put]) cur.toList hrow.out [] rfl HN.out (fun u hu => by cases hu) (by omega) (by rw [HC.out]; simp; omega) ?_; intro w1 hr1 hg1))
  have hk2 : ¬ (k + 1 = k) := by omega
  go_wp2_with (have _h := hr1; refine wpList_clear_splice rfl _ 93 rfl 103 _ 4 Tryz.underlying93 zero_ask rfl (fun u hu => ask0_one u hu) g (k * 4) 1 1 (by simp [Act.eval, Act.put]) (splice cur.toList (k * 4) []) 103 hr1.out (by rw [hsz1.out]; omega) (by omega) ?_; intro cs w2 hcl2 hr2 hg2)
  go_ret
  refine ⟨.slice (some ⟨g, 0, none⟩) k (k + 1), rfl, ⟨by rw [askCells_len], .inr ⟨g, k + 1, _, by rw [hll.out], hg, hr2.out, by rw [hll.out]; omega, hm.out, ?_, ?_⟩⟩, ?_, rfl⟩
  · rw [List.size_toArray, length_splice _ _ _ (by rw [hcl2, hsz1.out]; omega), hsz1.out]
  · exact HD.out cs
  · refine ⟨hg2.os.trans hg1.os, hg2.tape.trans hg1.tape, hg2.output.trans hg1.output, Nat.le_trans hg1.size hg2.size, fun k' hk' hne => ?_⟩
    have h2 := hg1.size
    rw [hg2.block k' (by have h4 : w.drew.heap.size = w.heap.size := rfl; omega) hne, hg1.block k' hk' hne]
    rfl
set_option maxRecDepth 100000 in
set_option maxHeartbeats 2000000 in
theorem delA_any (l : List AskD) (k : Nat) (hk : k < l.length) (hn : l.length ≤ 100) (B : Nat) (v0 : Value) (w : World) (h0 : w.ownsRow B 103 4 v0 l.length (askCells l)) :
    Calls Tryz.prog 101 #[v0, .int .i64 (k : Int), .int .i64 ((k : Int) + 1)] w (DelPost w B v0 (l.eraseIdx k)) := by
  obtain ⟨i0, hi, hz0, hz1, hz2⟩ := info_parts info_ask4
  rcases h0.2 with ⟨_, e⟩ | ⟨g, cap, cur, rfl, hg, hrow, hncap, hcm, hcs, htk⟩
  · omega
  · have hcap63 : cap ≤ 9223372036854775807 := by have := hcm; unfold maxLen at this; omega
    have hsrc : Hid (cap ≠ k + 1 → ∀ j u, (askCells (l.drop (k + 1)))[j]? = some u → w.drew.cell? ((⟨g, (k + 1) * 4, none⟩ : Addr).add j) = some u) := fun _ t u hu => by
      rw [← ask_drop, List.getElem?_drop] at hu
      have := World.ownsRow.cells (g := g) h0 rfl _ u hu
      show w.cell? _ = _
      simpa [Go.WideShapes.add_plain, Nat.add_assoc] using this
    have hsrc0 : Hid (cap = k + 1 → ∀ j u, (askCells (l.drop (k + 1)))[j]? = some u → w.drew.cell? ((⟨g, 0, none⟩ : Addr).add j) = some u) := fun h t u hu => by
      have : l.drop (k + 1) = [] := List.drop_eq_nil_of_le (by omega)
      rw [this] at hu
      cases hu
    have hl : (askCells (l.drop (k + 1))).length = (l.length - (k + 1)) * 4 := by rw [askCells_len, List.length_drop]
    have hR : Hid (w.drew.heap[g]? = some (.cells cur.toList.toArray 103 (0, 0))) := by show _ = _; rw [Array.toArray_toList]; exact hrow
    have hglt : g < w.heap.size := (Array.getElem?_eq_some_iff.1 hrow).1
    have hcl : cur.toList.length = cap * 4 := by rw [Array.length_toList, hcs]
    have hfit : k * 4 + (askCells (l.drop (k + 1))).length ≤ cur.toList.length := by rw [hl, hcl]; omega
    have HT := Lib.hid htk
    have HL := Lib.hid hl
    have HC := Lib.hid hcl
    have HF := Lib.hid hfit
    have HM := Lib.hid hcm
    have hq : ((k : Int) == (k : Int) + 1) = false := by rw [beq_eq_false_iff_ne]; omega
    have hb1 : (0 : Int) ≤ (k : Int) := by omega
    have hb2 : (k : Int) ≤ (k : Int) + 1 := by omega
    have hb3 : (k : Int) + 1 ≤ (l.length : Int) := by omega
    have hb4 : (l.length : Int) ≤ (cap : Int) := by omega
    have hkc : k ≤ cap := by omega
    have hkc1 : k + 1 ≤ cap := by omega
    have hb5 : (0 : Int) ≤ (k : Int) + 1 := by omega
    have hkl : k ≤ l.length := by omega
    have hkl1 : k + 1 ≤ l.length := by omega
    clear h0 hrow hcs htk hl hcl hfit hcm
    by_cases hck : cap = k + 1
    · subst hck
      have hln : l.length = k + 1 := by omega
      have := delA_last l k hln B g cur w hi hz1 hg hR HM.out HC.out HT.out
      rw [hln]
      exact this
    · have hsr := Lib.hid (hsrc.out hck)
      have hck2 : ¬ (cap = k) := by omega
      go_enter Tryz.func101, Tryz.ntmps101
      go_wp2_with fail
      go_region_law ((refine step_append_splice rfl (.tmp 22) (.tmp 25) 93 rfl 103 i0 4 Tryz.underlying93 hi hz1 g k cap (by simp [Act.eval, Act.put]) ⟨g, (k + 1) * 4, none⟩ (l.length - (k + 1)) (cap - (k + 1)) (by simp [Act.eval, Act.put]) cur.toList hR.out (askCells (l.drop (k + 1))) HL.out hsr.out (askCs_one _) (by omega) HF.out ?_; intro w1 hr1 hg1))
      have he1 : k + (l.length - (k + 1)) ≤ l.length := by omega
      have he2 : ¬ (cap = k + (l.length - (k + 1))) := by omega
      have he3 : (0 : Int) ≤ ((k + (l.length - (k + 1)) : Nat) : Int) := by omega
      have he4 : ((k + (l.length - (k + 1)) : Nat) : Int) ≤ (l.length : Int) := by omega
      have hsz1 : (splice cur.toList (k * 4) (askCells (l.drop (k + 1)))).length = cap * 4 := by rw [length_splice _ _ _ HF.out]; exact HC.out
      replace hsz1 := Lib.hid hsz1
      have hof : Hid ((k + (l.length - (k + 1))) * 4 + (l.length - (k + (l.length - (k + 1)))) * 4 ≤ (splice cur.toList (k * 4) (askCells (l.drop (k + 1)))).length) := by show _ ≤ _; rw [hsz1.out]; omega
      go_wp2_with (have _h := hr1; refine wpList_clear_splice rfl _ 93 rfl 103 _ 4 Tryz.underlying93 zero_ask rfl (fun u hu => ask0_one u hu) g ((k + (l.length - (k + 1))) * 4) (l.length - (k + (l.length - (k + 1)))) (cap - (k + (l.length - (k + 1)))) rfl (splice cur.toList (k * 4) (askCells (l.drop (k + 1)))) 103 hr1.out hof.out (by omega) ?_; intro cs w2 hcl2 hr2 hg2)
      go_ret
      have hll : (l.eraseIdx k).length = k + (l.length - (k + 1)) := by rw [List.length_eraseIdx_of_lt hk]; omega
      have hl1 : k + (l.length - (k + 1)) = l.length - 1 := by omega
      refine ⟨.slice (some ⟨g, 0, none⟩) (k + (l.length - (k + 1))) cap, rfl, ⟨by rw [askCells_len], .inr ⟨g, cap, _, by rw [hll], hg, hr2.out, by rw [hll]; omega, HM.out, ?_, ?_⟩⟩, ?_, rfl⟩
      · have hof2 := hof.out
        rw [List.size_toArray, length_splice _ _ _ (by rw [hcl2]; exact hof2), hsz1.out]
      · show List.take _ (splice _ _ _) = _
        rw [hl1]
        exact del_cells cur.toList l k hk (by rw [HC.out]; omega) HT.out cs
      · refine ⟨hg2.os.trans hg1.os, hg2.tape.trans hg1.tape, hg2.output.trans hg1.output, Nat.le_trans hg1.size hg2.size, fun k' hk' hne => ?_⟩
        have h2 := hg1.size
        rw [hg2.block k' (by have h4 : w.drew.heap.size = w.heap.size := rfl; omega) hne, hg1.block k' hk' hne]
        rfl
end Go.Proofs.YtjgloipgnnigmaaGreatDoor
/- Layer 21 in plain Lean: a message keeps the invariant; what events say. -/
namespace Go.Proofs.YtjgloipgnnigmaaGreatDoor

theorem perm_erase {α : Type} (d : α) : ∀ (l : List α) (i : Nat), i < l.length → (l.getD i d :: l.eraseIdx i).Perm l
  | [], _, h => by simp at h
  | _ :: _, 0, _ => by simp
  | a :: l, i + 1, h => by
    have := perm_erase d l i (by simpa using h)
    rw [List.getD_cons_succ, List.eraseIdx_cons_succ]
    exact (List.Perm.swap _ _ _).trans (this.cons a)
section
variable {c : Cfg} {N : Nat} {x : CliD} {ses : Int} {m : MsgV} {fm : Bool}
theorem answ_spec (h : answB x m = true) : answK x m.num m.key < x.asks.length ∧ ((answA x m).n : Int) = m.num ∧ (answA x m).key = m.key ∧ ¬ (x.state = 1 ∧ m.err ≠ 0) := by
  simp only [answB, Bool.and_eq_true, decide_eq_true_eq, Bool.not_eq_true', Bool.and_eq_false_iff, decide_eq_false_iff_not] at h
  have h1 : answK x m.num m.key < x.asks.length := h.1
  have h2 := List.findIdx_getElem (w := h1)
  rw [answA, getD_eq x.asks noAsk h1]
  simp only [askP, Bool.and_eq_true, decide_eq_true_eq] at h2
  exact ⟨h1, h2.1, h2.2, fun q => h.2.elim (fun z => z q.1) (fun z => z q.2)⟩
theorem hand_case (ses : Int) (x : CliD) (m : MsgV) (fm : Bool) :
    (handK ses x m fm = 0) ∨ (handK ses x m fm = 1 ∧ fm = true ∧ m.kind = 11 ∧ x.state = 2 ∧ m.ids = ses ∧ m.idq = x.seq) ∨ (handK ses x m fm = 2 ∧ fm = true ∧ m.kind = 13 ∧ answB x m = true ∧ x.state = 1) ∨
    (handK ses x m fm = 3 ∧ fm = true ∧ m.kind = 13 ∧ answB x m = true ∧ x.state ≠ 1 ∧ (answA x m).key = noStr) ∨ (handK ses x m fm = 4 ∧ fm = true ∧ m.kind = 13 ∧ answB x m = true ∧ x.state ≠ 1 ∧ (answA x m).key ≠ noStr) := by
  unfold handK
  cases fm
  · exact .inl rfl
  · simp only [Bool.true_eq_false, if_false]
    by_cases h1 : m.kind = 11 ∧ x.state = 2 ∧ m.ids = ses ∧ m.idq = x.seq
    · rw [if_pos h1]; exact .inr (.inl ⟨rfl, (by trivial), h1⟩)
    · rw [if_neg h1]
      by_cases h2 : m.kind = 13
      · rw [if_pos h2]
        cases h3 : answB x m
        · exact .inl rfl
        · simp only [Bool.true_eq_false, if_false]
          by_cases h4 : x.state = 1
          · rw [if_pos h4]; exact .inr (.inr (.inl ⟨rfl, (by trivial), h2, (by trivial), h4⟩))
          · rw [if_neg h4]
            by_cases h5 : (answA x m).key = noStr
            · rw [if_pos h5]; exact .inr (.inr (.inr (.inl ⟨rfl, (by trivial), h2, (by trivial), h4, h5⟩)))
            · rw [if_neg h5]; exact .inr (.inr (.inr (.inr ⟨rfl, (by trivial), h2, (by trivial), h4, h5⟩)))
      · rw [if_neg h2]; exact .inl rfl
theorem asks_state (h : CliInv c N x) (ha : 0 < x.asks.length) (h1 : x.state ≠ 1) : x.state = 3 := by
  have h0 : x.state ≠ 0 := fun e => by have := (h.idle e).1; rw [this] at ha; cases ha
  have h2 : x.state ≠ 2 := fun e => by have := (h.com e).1; rw [this] at ha; cases ha
  have := h.st
  omega
theorem CliInv.low (h : CliInv c N x) (m : MsgV) (hk : ∀ a ∈ x.asks, a.key = noStr) : CliInv c N (lowS x m) := { h with sn := fun _ => .inl hk }
theorem CliInv.seen (h : CliInv c N x) (m : MsgV) : CliInv c N (seenD x m) := by
  rw [seenD]; split
  · exact h
  · exact h.rest
theorem mem_answA (h : answB x m = true) : answA x m ∈ x.asks := by
  have h1 := (answ_spec h).1
  rw [answA, getD_eq x.asks noAsk h1]
  exact List.getElem_mem h1
theorem all_no (h : CliInv c N x) (h3 : x.state = 3) (hb : answB x m = true) (hn : (answA x m).key = noStr) : ∀ a ∈ x.asks, a.key = noStr :=
  (h.sn h3).elim id fun q => absurd hn (q.2 _ (mem_answA hb))
theorem CliInv.hand (h : CliInv c N x) (hf : formedB c = true) (ses : Int) (m : MsgV) (fm : Bool) : CliInv c (N + 6) (handD c ses x m fm) := by
  rw [handD]
  rcases hand_case ses x m fm with e | ⟨e, _, h1⟩ | ⟨e, _, h1, h2, h3⟩ | ⟨e, _, h1, h2, h3, h4⟩ | ⟨e, _, h1, h2, h3, h4⟩ <;> rw [e]
  · exact h.up (by omega)
  · exact (h.rest.floor _ (by show (0 : Nat) ≠ 3; decide)).up (by omega)
  · obtain ⟨o1, o2, o3, o4⟩ := h.one (inTxn_1 h3)
    obtain ⟨a1, a2, a3, a4⟩ := answ_spec h2
    have hl : (x.asks.eraseIdx (answK x m.num m.key)).length + 1 = x.asks.length := by rw [List.length_eraseIdx_of_lt a1]; omega
    have hp : (akeys ({ answD x m with rds := insR x.rds ⟨m.key, m.ver⟩ } : CliD)).Perm (akeys x) := by
      have q1 : ((insR x.rds ⟨m.key, m.ver⟩).map Rd.key).Perm (x.rds.map Rd.key ++ [m.key]) := by
        have := (insR_perm x.rds ⟨m.key, m.ver⟩).map Rd.key
        simpa using this
      have q2 : (m.key :: (x.asks.eraseIdx (answK x m.num m.key)).map AskD.key).Perm (x.asks.map AskD.key) := by
        have := (perm_erase noAsk x.asks (answK x m.num m.key) a1).map AskD.key
        rw [List.map_cons] at this
        rw [show (x.asks.getD (answK x m.num m.key) noAsk).key = m.key from a3] at this
        exact this
      show ((insR x.rds ⟨m.key, m.ver⟩).map Rd.key ++ (x.asks.eraseIdx (answK x m.num m.key)).map AskD.key).Perm _
      refine (q1.append (List.Perm.refl _)).trans ?_
      rw [List.append_assoc]
      exact (List.Perm.refl _).append q2
    have ha := (h.answ m).up (M := N + 6) (by omega)
    exact { ha with
      rn := by show (insR x.rds ⟨m.key, m.ver⟩).length ≤ 6; rw [insR_len]; omega
      idle := fun e => by rw [show x.state = 0 from e] at h3; cases h3
      com := fun e => by rw [show x.state = 2 from e] at h3; cases h3
      one := fun _ => ⟨o1, by show (insR x.rds ⟨m.key, m.ver⟩).length + (x.asks.eraseIdx (answK x m.num m.key)).length ≤ 6; rw [insR_len]; omega, hp.symm.nodup o3, fun k hk => o4 k (hp.subset hk)⟩
      srt := insR_sorted _ _ }
  · have s3 := asks_state h (by have := (answ_spec h2).1; omega) h3
    have hn := all_no h s3 h2 h4
    exact CliInv.safe ((h.answ m).low m fun a ha => hn a (mem_erase ha)) hf s3
  · exact ((h.answ m).seen m).up (by omega)
theorem CliInv.tick (h : CliInv c N x) : CliInv c N (tick0 x) := { h with tn := Nat.mod_lt _ (by decide) }

/-! ### What events say -/
/-- An outcome is told in state 2 alone, of the very transaction. -/
theorem hand_kind2 {ev : EvD} (he : ev ∈ handEv ses x m fm) (hk : ev.kind = 2) : handK ses x m fm = 1 ∧ ev = ⟨2, ses, x.seq, noStr, noVal, 0, m.y, m.st, 0⟩ := by
  rw [handEv] at he
  rcases hand_case ses x m fm with e | ⟨e, _⟩ | ⟨e, _⟩ | ⟨e, _⟩ | ⟨e, _⟩ <;> rw [e] at he
  · cases he
  · simp at he; exact ⟨e, he⟩
  · simp at he; subst he; cases hk
  · exfalso
    simp only [safeEv] at he
    split at he
    · simp [overEv] at he; subst he; cases hk
    · rcases List.mem_append.1 he with q | q
      · obtain ⟨k, _, rfl⟩ := List.mem_map.1 q; cases hk
      · simp [overEv] at q; subst q; cases hk
    · cases he
  · exfalso
    simp only [seenEv] at he
    split at he
    · simp [overEv] at he; subst he; cases hk
    · simp [overEv] at he; rcases he with rfl | rfl <;> cases hk
    · simp at he; subst he; cases hk
/-- A read is told in state 1 alone. -/
theorem hand_kind1 {ev : EvD} (he : ev ∈ handEv ses x m fm) (hk : ev.kind = 1) : handK ses x m fm = 2 := by
  rw [handEv] at he
  rcases hand_case ses x m fm with e | ⟨e, _⟩ | ⟨e, _⟩ | ⟨e, _⟩ | ⟨e, _⟩ <;> rw [e] at he
  · cases he
  · simp at he; subst he; cases hk
  · exact e
  · exfalso
    simp only [safeEv] at he
    split at he
    · simp [overEv] at he; subst he; cases hk
    · rcases List.mem_append.1 he with q | q
      · obtain ⟨k, _, rfl⟩ := List.mem_map.1 q; cases hk
      · simp [overEv] at q; subst q; cases hk
    · cases he
  · exfalso
    simp only [seenEv] at he
    split at he
    · simp [overEv] at he; subst he; cases hk
    · simp [overEv] at he; rcases he with rfl | rfl <;> cases hk
    · simp at he; subst he; cases hk
/-- A snapshot that ends well isn't below the floor. -/
theorem hand_kind4 (h : CliInv c N x) {ev : EvD} (he : ev ∈ handEv ses x m fm) (hk : ev.kind = 4) (h0 : ev.err = 0) : x.floor ≤ ev.stamp := by
  rw [handEv] at he
  rcases hand_case ses x m fm with e | ⟨e, _⟩ | ⟨e, _⟩ | ⟨e, _, h1, h2, h3, h4⟩ | ⟨e, _, h1, h2, h3, h4⟩ <;> rw [e] at he
  · cases he
  · simp at he; subst he; cases hk
  · simp at he; subst he; cases hk
  · simp only [safeEv] at he
    split at he
    · simp [overEv] at he; subst he; cases h0
    · rename_i e3
      rcases List.mem_append.1 he with q | q
      · obtain ⟨k, _, rfl⟩ := List.mem_map.1 q; cases hk
      · simp [overEv] at q; subst q
        unfold safeK at e3
        split at e3; · cases e3
        split at e3; · cases e3
        rename_i q1 q2
        exact Nat.le_of_not_lt q2
    · cases he
  · have s3 := asks_state h (by have := (answ_spec h2).1; omega) h3
    have hs : x.floor ≤ x.stamp := (h.sn s3).elim (fun q => absurd (q _ (mem_answA h2)) h4) (fun q => q.1)
    simp only [seenEv] at he
    split at he
    · rename_i e3
      simp [overEv] at he; subst he
      unfold seenK at e3
      split at e3
      · rename_i q; exact absurd h0 q
      · split at e3 <;> cases e3
    · simp [overEv] at he
      rcases he with rfl | rfl
      · cases hk
      · exact hs
    · simp at he; subst he; cases hk
theorem hand_floor : x.floor ≤ (handD c ses x m fm).floor := by
  rw [handD]
  rcases hand_case ses x m fm with e | ⟨e, _⟩ | ⟨e, _⟩ | ⟨e, _⟩ | ⟨e, _⟩ <;> rw [e]
  · exact Nat.le_refl _
  · show x.floor ≤ if m.y = true then max x.floor m.st else x.floor
    split
    · exact Nat.le_max_left _ _
    · exact Nat.le_refl _
  · exact Nat.le_refl _
  · show x.floor ≤ (safeD c (lowS (answD x m) m)).floor
    rw [safeD]
    split
    · exact Nat.le_refl _
    · rw [(wantsD_state _ _).2.2.2.1]; exact Nat.le_refl _
    · exact Nat.le_refl _
  · show x.floor ≤ (seenD (answD x m) m).floor
    rw [seenD]; split <;> exact Nat.le_refl _
theorem hand_yes {ev : EvD} (he : ev ∈ handEv ses x m fm) (hk : ev.kind = 2) (hy : ev.yes = true) : ev.stamp ≤ (handD c ses x m fm).floor := by
  obtain ⟨e, rfl⟩ := hand_kind2 he hk
  rw [handD, e]
  show m.st ≤ if m.y = true then max x.floor m.st else x.floor
  rw [if_pos hy]
  exact Nat.le_max_right _ _
end
end Go.Proofs.YtjgloipgnnigmaaGreatDoor
/- The client's answered, where something is answered. -/
namespace Go.Proofs.YtjgloipgnnigmaaGreatDoor
open Go.RowKit Go.Shelf Go.Sort

def AnsPost (w : World) (B p : Nat) (K : CliK) (O : Nat → Prop) (x : CliD) (m : MsgV) (e : Ending) (w' : World) : Prop :=
  e = .returned (.tuple #[.agg #[.int .i64 ((answA x m).n : Int), .int .i64 ((answA x m).g : Int), .string (answA x m).key, .int .u64 ((answA x m).st : Int)], .bool true]) ∧ CliAt w' B p K (answD x m) (ext O w w') ∧ Out O w w'
theorem four_set (w : World) (g : Nat) (a b c d : Value) : Out (fun k => k = g) w ((((w.setCell ⟨g, 0, none⟩ a).setCell ⟨g, 1, none⟩ b).setCell ⟨g, 2, none⟩ c).setCell ⟨g, 3, none⟩ d) :=
  (((out_set21 w g 0 a).trans' (out_set21 _ g 1 b)).trans' (out_set21 _ g 2 c)).trans' (out_set21 _ g 3 d)
section
variable {w : World} {B p : Nat} {K : CliK} {x : CliD} {O : Nat → Prop}
set_option maxRecDepth 100000 in
set_option maxHeartbeats 4000000 in
theorem answered_yes (h : CliAt w B p K x O) (hB : B ≤ w.heap.size) (ha : x.asks.length ≤ 6) (m : MsgV) (hK : answB x m = true) :
    Calls Tryz.prog 46 #[.pointer (some ⟨p, 0, none⟩), .agg m.vs] w (AnsPost w B p K O x m) := by
  obtain ⟨W0, eW0, HB0, hsz0, hr0⟩ := boxed w m.vs 43
  obtain ⟨W, eW, HBa, hszA, hrA⟩ := boxed W0 #[.int .i64 0, .int .i64 0, .string ⟨#[]⟩, .int .u64 0] 103
  have HRA := Lib.hid hrA
  clear hrA
  have HB := keepB HB0 HBa
  have hr := obj_keep hr0 HBa
  obtain ⟨c0, c1, c2, c3, c4, c5, c6, c7, c8, c9, c10, c11, c12, c13, c14, c15, c16, c17, c18, c19, c20, c21, c22, c23, c24, c25, c26, c27, c28, c29, c30, c31, c32, c33⟩ := msg_cs hr
  clear c0 c1 c2 c3 c4 c5 c6 c7 c8 c9 c10 c11 c12 c13 c14 c15 c16 c17 c18 c19 c20 c21 c22 c23 c24 c25 c26 c27 c28 c29 c30 c31 c33 hr0
  have hlt := Lib.hid h.lt'
  have hE0 : x.state = 1 → m.err = 0 := fun e => by have := (answ_spec hK).2.2.2; exact Classical.byContradiction fun q => this ⟨e, q⟩
  obtain ⟨vr, vw, va, vk, hW⟩ := h.later HB
  obtain ⟨_, _, _, d3, _, _, _, _, _, _, d10, _⟩ := hW.cs
  have hsp := answ_spec hK
  have hkl0 := hsp.1
  have hrow := hW.rowa
  obtain ⟨gA, cap10, cur, rfl, hh⟩ : ∃ g cap cur, va = .slice (some ⟨g, 0, none⟩) x.asks.length cap ∧ W.heap[g]? = some (.cells cur 103 (0, 0)) := by
    rcases hrow.2 with ⟨e0, e1⟩ | ⟨g', cap, cur, e1, _, hh, _⟩
    · omega
    · exact ⟨g', cap, cur, e1, hh⟩
  clear hh cur
  obtain ⟨A9, k9, e9, _, hA10, _⟩ := own_asks hrow
  cases e9
  have hWc := Lib.hid hW
  clear hW hrow
  replace hsz0 := Lib.hid hsz0
  replace hszA := Lib.hid hszA
  obtain ⟨k, hk⟩ : ∃ k, Hid (x.asks.findIdx (askP m.num m.key) = k) := ⟨_, rfl⟩
  have HI : Hid (∀ wz, Below W.heap.size W wz → Calls Tryz.prog 99 #[.slice (some ⟨gA, 0, none⟩) x.asks.length cap10, .func (.func 100) #[] #[.pointer (some ⟨w.heap.size, 0, none⟩)]] wz (IdxPost21 wz x.asks.length k)) := fun wz hb => by
    have := idxN_any x.asks _ cap10 m _ w.heap.size wz (hA10.later hb) (obj_keep hr hb) (by omega)
    rwa [hk.out] at this
  have hkl : k < x.asks.length := by have := hkl0; rw [answK, hk.out] at this; exact this
  have HX : Hid (∀ wz e w', IdxPost21 wz x.asks.length k e w' → e = .returned (.int .i64 (k : Int)) ∧ Below wz.heap.size wz w') := by
    intro wz e w' hp
    have := hp
    simp only [IdxPost21, if_pos hkl] at this
    exact this
  obtain ⟨b0, o0, n, g, s, t, e0, f0, f1, f2, f3, HD⟩ := hA10.at' hkl
  cases e0
  rw [Nat.zero_add] at f0 f1 f2 f3
  have HE : Hid (answA x m = ⟨n, g, s, t⟩ ∧ answD x m = { x with asks := x.asks.eraseIdx k }) := by
    show _ ∧ _
    rw [answA, answD, answK, hk.out]
    exact ⟨HD.out, rfl⟩
  have q0 : decide ((k : Int) < 0) = false := by rw [decide_eq_false_iff_not]; omega
  have hgi : (k : Int) < (x.asks.length : Int) := by omega
  have hki : (0 : Int) ≤ (k : Int) := by omega
  have hwk : IntKind.i64.wrap ((k : Int) + 1) = (k : Int) + 1 := IntWalk.i64_in _ (by omega)
  have nO : Hid (¬ O W0.heap.size) := fun e => by have := (hlt.out _ e).2; have := HB0.size; omega
  have nP : Hid (∀ wz : World, Below w.heap.size w wz → ¬ O wz.heap.size) := fun wz hb e => by have := (hlt.out _ e).2; have := hb.size; omega
  have HDel : Hid (∀ wz, CliIn wz B p K x vr vw (.slice (some ⟨gA, 0, none⟩) x.asks.length cap10) vk O → Calls Tryz.prog 101 #[.slice (some ⟨gA, 0, none⟩) x.asks.length cap10, .int .i64 (k : Int), .int .i64 ((k : Int) + 1)] wz (DelPost wz B (.slice (some ⟨gA, 0, none⟩) x.asks.length cap10) (x.asks.eraseIdx k))) := fun wz hz =>
    delA_any x.asks k hkl (by omega) B _ wz hz.rowa
  have hBW := HB.size
  clear hK hsp hkl0 HD hA10
  cases hs : decide (x.state = 1)
  case' true => have q1 : ((x.state : Int) == 1) = true := by rw [decide_eq_true_eq] at hs; rw [beq_iff_eq]; omega
  case' true => have q2 : (m.err != 0) = false := by rw [decide_eq_true_eq] at hs; rw [bne_eq_false_iff_eq]; exact hE0 hs
  case' false => have q1 : ((x.state : Int) == 1) = false := by rw [decide_eq_false_iff_not] at hs; rw [beq_eq_false_iff_ne]; omega
  all_goals
    clear hs hE0
    go_enter Tryz.func46, Tryz.ntmps46
    go_wp2_with (first
      | (go_at_call 99; refine (HI.out _ (Below.refl _ _)).mono ?_; intro e w1 hp; obtain ⟨rfl, hb⟩ := HX.out _ _ _ hp; clear hp; replace c32 := keep hb c32; replace d3 := keep hb d3; replace d10 := keep hb d10; replace f0 := keep hb f0; replace f1 := keep hb f1; replace f2 := keep hb f2; replace f3 := keep hb f3; have hb1 := Lib.hid hb)
      | (refine wpList_store_new rfl 103 _ _ rfl w1 #[.int .i64 (n : Int), .int .i64 (g : Int), .string s, .int .u64 (t : Int)] 103 rfl rfl rfl info_ask1 rfl oneAsk ?_; intro w4 hb4 hs4 hr4; have hb14 := Lib.hid (keepB hb1.out hb4); have d10b := keep hb4 d10; have hr4' := Lib.hid hr4)
      | (go_at_call 101; refine (HDel.out _ (hWc.out.later hb14.out)).mono ?_; rintro e w5 ⟨v5, rfl, hO5, hg5, hv5⟩; obtain ⟨A5, c5, rfl⟩ := own_form hO5; have h4 := hWc.out.later hb14.out; obtain ⟨hc5, hf5⟩ := CliIn.cella h4 hg5; have hGr := Lib.hid (h4.growa (Nat.le_trans hB (Nat.le_trans hBW hb14.out.size)) hg5 hO5 (fun g hg => .inl (hv5 ▸ hg))); have ho5 : Out O w4 (w5.setCell ⟨p, 10, none⟩ (.slice A5 (x.asks.eraseIdx k).length c5)) := out_p h4.hp (Out.of_grown hg5 (fun k e => (h4.mia k e).1)); have hRA5 := ho5.obj (obj_keep HRA.out hb14.out) nO.out; have hr5 := ho5.obj hr4'.out (nP.out _ (keepB HB hb1.out)); obtain ⟨⟨i0, i1, i2, i3⟩, -⟩ := cellsAsk hr5; obtain ⟨⟨e0, e1, e2, e3⟩, y0, y1, y2, y3⟩ := cellsAsk hRA5; replace hRA5 := Lib.hid hRA5; replace ho5 := Lib.hid ho5; clear h4 hr5 hO5 hg5 hv5))
    have z0 := HB0.size
    have z1 := hszA.out
    have z2 := hb14.out.size
    have z3 := ho5.out.size
    have z4 : ∀ a b c d : Value, (((((w5.setCell ⟨p, 10, none⟩ (.slice A5 (x.asks.eraseIdx k).length c5)).setCell ⟨W0.heap.size, 0, none⟩ a).setCell ⟨W0.heap.size, 1, none⟩ b).setCell ⟨W0.heap.size, 2, none⟩ c).setCell ⟨W0.heap.size, 3, none⟩ d).heap.size = w5.heap.size := fun a b c d => by simp [World.setCell]
    have z5 : (w5.setCell ⟨p, 10, none⟩ (.slice A5 (x.asks.eraseIdx k).length c5)).heap.size = w5.heap.size := by simp [World.setCell]
    refine bodyPost_ret (v := .tuple #[.agg #[.int .i64 (n : Int), .int .i64 (g : Int), .string s, .int .u64 (t : Int)], .bool true]) (results_cell_tmp (p := 4) (u := 5) rfl _ _ W0.heap.size _ #[.int .i64 (n : Int), .int .i64 (g : Int), .string s, .int .u64 (t : Int)] (0, 0) _ rfl (ask_fin hRA5.out) Tryz.underlying103 rfl info_ask1) rfl ⟨by rw [HE.out.1], ?_, ?_⟩
    · rw [HE.out.2]
      have hA := hGr.out.out (four_set _ W0.heap.size (.int .i64 (n : Int)) (.int .i64 (g : Int)) (.string s) (.int .u64 (t : Int))) (fun k' hk' e => by
        subst e
        rcases hk' with q | q
        · exact nO.out q
        · omega)
      refine ⟨_, _, _, _, hA.mono (fun k' hk' => ?_) (fun k' hk' => ?_)⟩
      · rcases hk' with q | q
        · exact .inl q
        · exact .inr ⟨by omega, by rw [z4]; exact q.2⟩
      · rcases hk' with q | q
        · exact ⟨(hlt.out k' q).1, by rw [z4]; have := (hlt.out k' q).2; omega⟩
        · exact ⟨by omega, q.2⟩
    · refine ((Out.of_below (keepB HB hb14.out)).trans' ho5.out).trans ((four_set _ _ _ _ _ _).mono fun k' hk' => .inr ⟨by omega, by subst hk'; omega⟩)
end
end Go.Proofs.YtjgloipgnnigmaaGreatDoor
/- Parts of a block of cells: a struct stored into a part, a struct loaded out of a part. -/
namespace Go.Proofs.YtjgloipgnnigmaaGreatDoor
open Go.RowKit

section
variable {P : Program}
def partOf (old : Array Value) (off : Nat) (cells : Array Value) : Array Value := (old.toList.take off ++ cells.toList ++ old.toList.drop (off + cells.size)).toArray
theorem run_storeVar_part (w : World) (g off : Nat) (t ty : TypeId) (old cells : Array Value) (hg : w.heap[g]? = some (.cells old t (0, 0))) (hi : (P.info? ty).map (·.size) = some cells.size)
    (hfit : off + cells.size ≤ old.size) (h1 : cells.all (·.oneCell') = true) : (storeVar ty ⟨g, off, none⟩ (.agg cells)).run P w = .ok () (w.setRow g (partOf old off cells)) := by
  have := run_storeCells_at P g off t cells.toList 0 old w hg (by simp; omega) (fun v hv => (Array.all_eq_true_iff_forall_mem.1 h1) v (by simpa using hv))
  cases hq : P.info? ty with
  | none => simp [hq] at hi
  | some i =>
    have hs : cells.size = i.size := by simp [hq] at hi; omega
    simp only [Nat.add_zero, Array.length_toList] at this
    simp [storeVar, sizeOf, typeInfo, hq, Value.cells, hs, partOf]
    rw [← hs]
    simpa using this
theorem wpList_store_part {ops : Array Oper} {rest : List Oper} {o : Oper} {a : Act} {w : World} {Q : Exit → Act → World → Prop} (hgd : o.guard = none) (ty : TypeId) (x y : Operand) (ho : o.op = .store ty x y)
    (g off : Nat) (cells : Array Value) (hx : a.eval x = .pointer (some ⟨g, off, none⟩)) (hy : a.eval y = .agg cells)
    (t : TypeId) (old : Array Value) (hg : w.heap[g]? = some (.cells old t (0, 0))) (hi : (P.info? ty).map (·.size) = some cells.size)
    (hfit : off + cells.size ≤ old.size) (h1 : cells.all (·.oneCell') = true)
    (h : ∀ W : World, W.heap[g]? = some (.cells (partOf old off cells) t (0, 0)) → w.grownBy W (some g) → wpList P ops Q rest (a.put o.dst undef) W) : wpList P ops Q (o :: rest) a w := by
  refine wpList_plain hgd fun _ hK => ?_
  unfold Oper.wp execOp
  simp only [ho, hx, hy, Instr.storeAt, Instr.sureAddr, Sem.run_bind, Sem.run_pure, Result.andThen_ok, run_storeVar_part w g off t ty old cells hg hi hfit h1]
  refine hK _ _ (h _ ?_ ?_)
  · rw [setRow_heap w g old _ t _ hg]
  · exact ⟨rfl, rfl, rfl, by simp [World.setRow], fun k _ hk => setRow_other w g k _ (fun e => hk (by rw [e]))⟩
theorem row_part {w : World} {g off : Nat} {cs : Array Value} {t : TypeId} (h : w.heap[g]? = some (.cells cs t (0, 0))) (pre post : List Value) (sub : Array Value) (hs : cs.toList = pre ++ (sub.toList ++ post)) (ho : pre.length = off) : CellRow w ⟨g, off, none⟩ sub := by
  intro j v hv
  rw [Go.WideShapes.add_plain, cell_of_row w g _ _ _ _ h, ← Array.getElem?_toList, hs, List.getElem?_append_right (by omega), List.getElem?_append_left]
  · rw [show off + j - pre.length = j by omega, Array.getElem?_toList]; exact hv
  · have := (Array.getElem?_eq_some_iff.1 hv).1
    simp; omega
end
end Go.Proofs.YtjgloipgnnigmaaGreatDoor
