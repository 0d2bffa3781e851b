/- slices.Clone of a row that is owned, at reads, writes and strings. -/
import Derived.Test.YtjgloipgnnigmaaGreatDoorJ10
import Derived.Test.YtjgloipgnnigmaaGreatDoorJ6
import Derived.Deep.RegionLaw
import Derived.WalkSpells
import Derived.IntWalk
import Derived.Test.YtjgloipgnnigmaaGreatDoorJ9
set_option linter.unusedVariables false
set_option linter.unusedSimpArgs false
namespace Go.Proofs.YtjgloipgnnigmaaGreatDoor
open Go.RowKit Go.Shelf Go.Sort

theorem rdOne : ∀ (l : List Rd), ∀ u ∈ rdCells l, u.oneCell' = true := fun l u hu => by
  simp only [rdCells, List.mem_flatMap] at hu
  obtain ⟨x, _, hx⟩ := hu
  simp at hx; rcases hx with rfl | rfl <;> rfl
theorem wrOne : ∀ (l : List Wr), ∀ u ∈ wrCells l, u.oneCell' = true := fun l u hu => by
  simp only [wrCells, List.mem_flatMap] at hu
  obtain ⟨x, _, hx⟩ := hu
  simp at hx; rcases hx with rfl | rfl | rfl | rfl <;> rfl
theorem strOne : ∀ (l : List ByteArray), ∀ u ∈ l.map Value.string, u.oneCell' = true := fun l u hu => by
  obtain ⟨x, _, rfl⟩ := List.mem_map.1 hu
  rfl
theorem infoRd : (Tryz.prog.info? 75).map (fun i => (i.zero, i.size, i.bytes)) = some (some (.agg #[.string ByteArray.empty, .int .u64 0]), 2, 24) := by kernel_rfl
theorem infoWr : (Tryz.prog.info? 112).map (fun i => (i.zero, i.size, i.bytes)) = some (some (.agg #[.string ByteArray.empty, .int .i64 0, .int .u64 0, .string ByteArray.empty]), 4, 48) := by kernel_rfl
theorem infoStr : (Tryz.prog.info? 9).map (fun i => (i.zero, i.size, i.bytes)) = some (some (.string ByteArray.empty), 1, 16) := by kernel_rfl
def ClonePost (w : World) (t : TypeId) (k n : Nat) (xs : List Value) (e : Ending) (w' : World) : Prop := ∃ v', e = .returned v' ∧ w'.ownsRow w.heap.size t k v' n xs ∧ Below w.heap.size w w'

set_option maxHeartbeats 2000000 in
set_option maxRecDepth 100000 in
theorem cloneR_cells (l : List Rd) (a : Addr) (ca : Nat) (w : World) (hA : ∀ j u, (rdCells l)[j]? = some u → w.cell? (a.add j) = some u) (hn : l.length ≤ 1000) :
    Calls Tryz.prog 69 #[.slice (some a) l.length ca] w (ClonePost w 75 2 l.length (rdCells l)) := by
  have q22 : ∀ (w : World) (a : Option Addr) (n c n' c' : Nat), (binOp .eql 34 (.slice a n c) (.slice none n' c')).run Tryz.prog w = .ok (.bool a.isNone) w := fun w a n c n' c' => Lib.run_eql_slice_nil w _ _ a n c n' c' Tryz.underlying34
  obtain ⟨i0, hi, hz0, hz1, hz2⟩ := info_parts infoRd
  have HA := Lib.hid hA
  clear hA
  go_enter Tryz.func69, Tryz.ntmps69
  go_wp2_with (at_builtin; refine wpList_append_own _ rfl _ _ 34 rfl w.heap.size 75 i0 _ 2 24 Tryz.underlying34 hi hz0 hz1 hz2 rfl (by decide) _ _ _ rfl (World.ownsRow_made w #[] 0 (Nat.le_refl _) (Nat.zero_le _) (by simp)) a l.length ca (rdCells l) rfl ?qc1 ?qc2 ?qc3 ?qc4 ?qc5 ?qc6 ?_)
  case qc1 => exact rdCells_len l
  case qc2 =>
    intro j u hj
    exact keepA _ (HA.out j u hj)
  case qc3 => exact rdOne l
  case qc4 => rw [Nat.zero_add]; exact le_maxLen (by omega)
  case qc5 => omega
  case qc6 => simp
  intro v' w1 hown hgrow _
  go_wp2
  go_ret
  exact ⟨v', rfl, by simpa using hown, ((Below.refl _ w).alloc (Nat.le_refl _) _).grown hgrow (by simp) (by intro k hk; simp [Value.ownBlock] at hk; omega)⟩
theorem cloneR_nil (w : World) : Calls Tryz.prog 69 #[.slice none 0 0] w (ClonePost w 75 2 0 []) := by
  have q22 : ∀ (w : World) (a : Option Addr) (n c n' c' : Nat), (binOp .eql 34 (.slice a n c) (.slice none n' c')).run Tryz.prog w = .ok (.bool a.isNone) w := fun w a n c n' c' => Lib.run_eql_slice_nil w _ _ a n c n' c' Tryz.underlying34
  go_enter Tryz.func69, Tryz.ntmps69
  go_wp2
  go_ret
  exact ⟨_, rfl, own_nil _ _ _ _, Below.refl _ _⟩
theorem cloneR_any (l : List Rd) (v : Value) (base : Nat) (w : World) (hr : w.ownsRow base 75 2 v l.length (rdCells l)) (hn : l.length ≤ 1000) :
    Calls Tryz.prog 69 #[v] w (ClonePost w 75 2 l.length (rdCells l)) := by
  have hr0 := hr
  rcases hr.2 with ⟨rfl, h0⟩ | ⟨g, cap, cur, rfl, hb, hh, r⟩
  · have : l = [] := List.eq_nil_of_length_eq_zero h0
    subst this
    exact cloneR_nil w
  · exact cloneR_cells l ⟨g, 0, none⟩ cap w (fun j u hj => hr0.cells rfl j u hj) hn

set_option maxHeartbeats 2000000 in
set_option maxRecDepth 100000 in
theorem cloneW_cells (l : List Wr) (a : Addr) (ca : Nat) (w : World) (hA : ∀ j u, (wrCells l)[j]? = some u → w.cell? (a.add j) = some u) (hn : l.length ≤ 1000) :
    Calls Tryz.prog 70 #[.slice (some a) l.length ca] w (ClonePost w 112 4 l.length (wrCells l)) := by
  have q22 : ∀ (w : World) (a : Option Addr) (n c n' c' : Nat), (binOp .eql 35 (.slice a n c) (.slice none n' c')).run Tryz.prog w = .ok (.bool a.isNone) w := fun w a n c n' c' => Lib.run_eql_slice_nil w _ _ a n c n' c' Tryz.underlying35
  obtain ⟨i0, hi, hz0, hz1, hz2⟩ := info_parts infoWr
  have HA := Lib.hid hA
  clear hA
  go_enter Tryz.func70, Tryz.ntmps70
  go_wp2_with (at_builtin; refine wpList_append_own _ rfl _ _ 35 rfl w.heap.size 112 i0 _ 4 48 Tryz.underlying35 hi hz0 hz1 hz2 rfl (by decide) _ _ _ rfl (World.ownsRow_made w #[] 0 (Nat.le_refl _) (Nat.zero_le _) (by simp)) a l.length ca (wrCells l) rfl ?qc1 ?qc2 ?qc3 ?qc4 ?qc5 ?qc6 ?_)
  case qc1 => exact wrCells_len l
  case qc2 =>
    intro j u hj
    exact keepA _ (HA.out j u hj)
  case qc3 => exact wrOne l
  case qc4 => rw [Nat.zero_add]; exact le_maxLen (by omega)
  case qc5 => omega
  case qc6 => simp
  intro v' w1 hown hgrow _
  go_wp2
  go_ret
  exact ⟨v', rfl, by simpa using hown, ((Below.refl _ w).alloc (Nat.le_refl _) _).grown hgrow (by simp) (by intro k hk; simp [Value.ownBlock] at hk; omega)⟩
theorem cloneW_nil (w : World) : Calls Tryz.prog 70 #[.slice none 0 0] w (ClonePost w 112 4 0 []) := by
  have q22 : ∀ (w : World) (a : Option Addr) (n c n' c' : Nat), (binOp .eql 35 (.slice a n c) (.slice none n' c')).run Tryz.prog w = .ok (.bool a.isNone) w := fun w a n c n' c' => Lib.run_eql_slice_nil w _ _ a n c n' c' Tryz.underlying35
  go_enter Tryz.func70, Tryz.ntmps70
  go_wp2
  go_ret
  exact ⟨_, rfl, own_nil _ _ _ _, Below.refl _ _⟩
theorem cloneW_any (l : List Wr) (v : Value) (base : Nat) (w : World) (hr : w.ownsRow base 112 4 v l.length (wrCells l)) (hn : l.length ≤ 1000) :
    Calls Tryz.prog 70 #[v] w (ClonePost w 112 4 l.length (wrCells l)) := by
  have hr0 := hr
  rcases hr.2 with ⟨rfl, h0⟩ | ⟨g, cap, cur, rfl, hb, hh, r⟩
  · have : l = [] := List.eq_nil_of_length_eq_zero h0
    subst this
    exact cloneW_nil w
  · exact cloneW_cells l ⟨g, 0, none⟩ cap w (fun j u hj => hr0.cells rfl j u hj) hn

set_option maxHeartbeats 2000000 in
set_option maxRecDepth 100000 in
theorem cloneS_cells (l : List ByteArray) (a : Addr) (ca : Nat) (w : World) (hA : ∀ j u, (l.map Value.string)[j]? = some u → w.cell? (a.add j) = some u) (hn : l.length ≤ 1000) :
    Calls Tryz.prog 43 #[.slice (some a) l.length ca] w (ClonePost w 9 1 l.length (l.map Value.string)) := by
  have q22 : ∀ (w : World) (a : Option Addr) (n c n' c' : Nat), (binOp .eql 23 (.slice a n c) (.slice none n' c')).run Tryz.prog w = .ok (.bool a.isNone) w := fun w a n c n' c' => Lib.run_eql_slice_nil w _ _ a n c n' c' Tryz.underlying23
  obtain ⟨i0, hi, hz0, hz1, hz2⟩ := info_parts infoStr
  have HA := Lib.hid hA
  clear hA
  go_enter Tryz.func43, Tryz.ntmps43
  go_wp2_with (at_builtin; refine wpList_append_own _ rfl _ _ 23 rfl w.heap.size 9 i0 _ 1 16 Tryz.underlying23 hi hz0 hz1 hz2 rfl (by decide) _ _ _ rfl (World.ownsRow_made w #[] 0 (Nat.le_refl _) (Nat.zero_le _) (by simp)) a l.length ca (l.map Value.string) rfl ?qc1 ?qc2 ?qc3 ?qc4 ?qc5 ?qc6 ?_)
  case qc1 => exact (by simp : (l.map Value.string).length = l.length * 1)
  case qc2 =>
    intro j u hj
    exact keepA _ (HA.out j u hj)
  case qc3 => exact strOne l
  case qc4 => rw [Nat.zero_add]; exact le_maxLen (by omega)
  case qc5 => omega
  case qc6 => simp
  intro v' w1 hown hgrow _
  go_wp2
  go_ret
  exact ⟨v', rfl, by simpa using hown, ((Below.refl _ w).alloc (Nat.le_refl _) _).grown hgrow (by simp) (by intro k hk; simp [Value.ownBlock] at hk; omega)⟩
theorem cloneS_nil (w : World) : Calls Tryz.prog 43 #[.slice none 0 0] w (ClonePost w 9 1 0 []) := by
  have q22 : ∀ (w : World) (a : Option Addr) (n c n' c' : Nat), (binOp .eql 23 (.slice a n c) (.slice none n' c')).run Tryz.prog w = .ok (.bool a.isNone) w := fun w a n c n' c' => Lib.run_eql_slice_nil w _ _ a n c n' c' Tryz.underlying23
  go_enter Tryz.func43, Tryz.ntmps43
  go_wp2
  go_ret
  exact ⟨_, rfl, own_nil _ _ _ _, Below.refl _ _⟩
theorem cloneS_any (l : List ByteArray) (v : Value) (base : Nat) (w : World) (hr : w.ownsRow base 9 1 v l.length (l.map Value.string)) (hn : l.length ≤ 1000) :
    Calls Tryz.prog 43 #[v] w (ClonePost w 9 1 l.length (l.map Value.string)) := by
  have hr0 := hr
  rcases hr.2 with ⟨rfl, h0⟩ | ⟨g, cap, cur, rfl, hb, hh, r⟩
  · have : l = [] := List.eq_nil_of_length_eq_zero h0
    subst this
    exact cloneS_nil w
  · exact cloneS_cells l ⟨g, 0, none⟩ cap w (fun j u hj => hr0.cells rfl j u hj) hn

end Go.Proofs.YtjgloipgnnigmaaGreatDoor
/- Laws of no program: 'append' within a row that has room, its source in any memory (the row itself too); 'clear' of a part of a row; 'append(s[:i], make(S, k)...)' where there is no room. -/
namespace Go.Proofs.YtjgloipgnnigmaaGreatDoor
open Go.RowKit

section
variable {P : Program} {w : World}
theorem run_append_splice (t ty e : TypeId) (i : TypeInfo) (size : Nat) (ht : P.underlying t = some (.slice e)) (hi : P.info? e = some i) (hsize : i.size = size)
    (g sLen sCap : Nat) (cur : List Value) (hg : w.heap[g]? = some (.cells cur.toArray e (0, 0)))
    (ad : Addr) (m c : Nat) (news : List Value) (hl : news.length = m * size) (hnews : ∀ j u, news[j]? = some u → w.cell? (ad.add j) = some u) (h1 : ∀ u ∈ news, u.oneCell' = true)
    (hroom : sLen + m ≤ sCap) (hfit : sLen * size + news.length ≤ cur.length) :
    ∃ w', (Builtin.append_ #[t, t] ty #[.slice (some ⟨g, 0, none⟩) sLen sCap, .slice (some ad) m c]).run P w = .ok (.slice (some ⟨g, 0, none⟩) (sLen + m) sCap) w' ∧ w'.heap[g]? = some (.cells (splice cur (sLen * size) news).toArray e (0, 0)) ∧ w.grownBy w' (some g) := by
  subst hsize
  refine ⟨_, run_append_room w t ty e i ht hi g sLen sCap cur.toArray hg ad m c news hl hnews h1 hroom (by simpa using hfit), ?_, grown_setRow _ _ _⟩
  rw [setRow_heap w g cur.toArray _ e _ hg]
  simp [splice]
theorem wpList_append_splice {ops : Array Oper} {rest : List Oper} {o : Oper} {a : Act} {Q : Exit → Act → World → Prop} (hgd : o.guard = none) (s x : Operand) (t : TypeId)
    (ho : o.op = .call { callee := .builtin .append, args := #[s, x], argTypes := #[t, t] }) (e : TypeId) (i : TypeInfo) (size : Nat) (ht : P.underlying t = some (.slice e)) (hi : P.info? e = some i) (hsize : i.size = size)
    (g sLen sCap : Nat) (hs : a.eval s = .slice (some ⟨g, 0, none⟩) sLen sCap) (ad : Addr) (m c : Nat) (hx : a.eval x = .slice (some ad) m c) (cur : List Value) (hg : w.heap[g]? = some (.cells cur.toArray e (0, 0)))
    (news : List Value) (hl : news.length = m * size) (hnews : ∀ j u, news[j]? = some u → w.cell? (ad.add j) = some u) (h1 : ∀ u ∈ news, u.oneCell' = true)
    (hroom : sLen + m ≤ sCap) (hfit : sLen * size + news.length ≤ cur.length)
    (h : ∀ w' : World, Hid (w'.heap[g]? = some (.cells (splice cur (sLen * size) news).toArray e (0, 0))) → w.grownBy w' (some g) → wpList P ops Q rest (a.put o.dst (.slice (some ⟨g, 0, none⟩) (sLen + m) sCap)) w') : wpList P ops Q (o :: rest) a w := by
  obtain ⟨w', hr, h2, h3⟩ := run_append_splice (P := P) (w := w) t o.type e i size ht hi hsize g sLen sCap cur hg ad m c news hl hnews h1 hroom hfit
  refine wpList_plain hgd fun K hK => ?_
  unfold Oper.wp
  simp [execOp, ho, resolve, invoke, builtin, hs, hx, hr, Result.andThen]
  exact hK _ _ (h w' h2 h3)
theorem step_append_splice {ops : Array Oper} {o : Oper} {a : Act} {K : Act → World → Prop} {Q : Exit → Act → World → Prop} {E : Prop} (hgd : o.guard = none) (s x : Operand) (t : TypeId)
    (ho : o.op = .call { callee := .builtin .append, args := #[s, x], argTypes := #[t, t] }) (e : TypeId) (i : TypeInfo) (size : Nat) (ht : P.underlying t = some (.slice e)) (hi : P.info? e = some i) (hsize : i.size = size)
    (g sLen sCap : Nat) (hs : a.eval s = .slice (some ⟨g, 0, none⟩) sLen sCap) (ad : Addr) (m c : Nat) (hx : a.eval x = .slice (some ad) m c) (cur : List Value) (hg : w.heap[g]? = some (.cells cur.toArray e (0, 0)))
    (news : List Value) (hl : news.length = m * size) (hnews : ∀ j u, news[j]? = some u → w.cell? (ad.add j) = some u) (h1 : ∀ u ∈ news, u.oneCell' = true)
    (hroom : sLen + m ≤ sCap) (hfit : sLen * size + news.length ≤ cur.length)
    (h : ∀ w' : World, Hid (w'.heap[g]? = some (.cells (splice cur (sLen * size) news).toArray e (0, 0))) → w.grownBy w' (some g) → K (a.put o.dst (.slice (some ⟨g, 0, none⟩) (sLen + m) sCap)) w') :
    if Region.wanted o (yielded ops a.tmps) = true then Oper.wp P o a w K Q else E := by
  obtain ⟨w', hr, h2, h3⟩ := run_append_splice (P := P) (w := w) t o.type e i size ht hi hsize g sLen sCap cur hg ad m c news hl hnews h1 hroom hfit
  have hw : Region.wanted o (yielded ops a.tmps) = true := by simp [Region.wanted, hgd]
  rw [if_pos hw]
  unfold Oper.wp
  simp [execOp, ho, resolve, invoke, builtin, hs, hx, hr, Result.andThen]
  exact h w' h2 h3
theorem run_clear_splice (t e ty : TypeId) (z : Value) (size : Nat) (ht : P.underlying t = some (.slice e)) (hv : ∀ w, (zeroValue e).run P w = .ok z w) (hz : z.cells.size = size) (h1 : ∀ u ∈ z.cells, u.oneCell' = true)
    (g off n c : Nat) (cur : List Value) (te : TypeId) (hg : w.heap[g]? = some (.cells cur.toArray te (0, 0))) (hfit : off + n * size ≤ cur.length) (hn : 0 < n) :
    ∃ w' cs, (Builtin.clear_ #[t] ty #[.slice (some ⟨g, off, none⟩) n c]).run P w = .ok (.tuple #[]) w' ∧ cs.length = n * size ∧ w'.heap[g]? = some (.cells (splice cur off cs).toArray te (0, 0)) ∧ w.grownBy w' (some g) := by
  have hl : (Builtin.zeroCells z.cells n).toList.length = n * size := by simp [Builtin.zeroCells, hz]
  have h1' : ∀ v ∈ (Builtin.zeroCells z.cells n).toList, v.oneCell' = true := by
    intro v hv
    simp only [Builtin.zeroCells, Array.toList_map, List.mem_map, Array.mem_toList_iff, Array.mem_range] at hv
    obtain ⟨j, hj, rfl⟩ := hv
    have hzp : 0 < z.cells.size := by
      rcases Nat.eq_zero_or_pos z.cells.size with h | h
      · rw [h] at hj; simp at hj
      · exact h
    rw [getElem!_pos z.cells _ (Nat.mod_lt _ hzp)]
    exact h1 _ (Array.getElem_mem _)
  have hst := run_storeCells_at P g off te (Builtin.zeroCells z.cells n).toList 0 cur.toArray w hg (by rw [hl]; simpa using hfit) h1'
  simp only [Nat.add_zero] at hst
  obtain ⟨m, rfl⟩ : ∃ m, n = m + 1 := ⟨n - 1, by omega⟩
  refine ⟨w.setRow g (cur.toArray.toList.take off ++ (Builtin.zeroCells z.cells (m + 1)).toList ++ cur.toArray.toList.drop (off + (Builtin.zeroCells z.cells (m + 1)).toList.length)).toArray, (Builtin.zeroCells z.cells (m + 1)).toList, ?_, hl, ?_, grown_setRow w g _⟩
  · simp [Builtin.clear_, run_underlying ht, hv, hst]
  · rw [setRow_heap w g cur.toArray _ te _ hg]
    simp [splice]
theorem wpList_clear_splice {ops : Array Oper} {rest : List Oper} {o : Oper} {a : Act} {Q : Exit → Act → World → Prop} (hgd : o.guard = none) (s : Operand) (t : TypeId)
    (ho : o.op = .call { callee := .builtin .clear, args := #[s], argTypes := #[t] }) (e : TypeId) (z : Value) (size : Nat) (ht : P.underlying t = some (.slice e)) (hv : ∀ w, (zeroValue e).run P w = .ok z w) (hz : z.cells.size = size) (h1 : ∀ u ∈ z.cells, u.oneCell' = true)
    (g off n c : Nat) (hs : a.eval s = .slice (some ⟨g, off, none⟩) n c) (cur : List Value) (te : TypeId) (hg : w.heap[g]? = some (.cells cur.toArray te (0, 0))) (hfit : off + n * size ≤ cur.length) (hn : 0 < n)
    (h : ∀ (cs : List Value) (w' : World), cs.length = n * size → Hid (w'.heap[g]? = some (.cells (splice cur off cs).toArray te (0, 0))) → w.grownBy w' (some g) → wpList P ops Q rest (a.put o.dst (.tuple #[])) w') : wpList P ops Q (o :: rest) a w := by
  obtain ⟨w', cs, hr, hl, h2, h3⟩ := run_clear_splice (P := P) (w := w) t e o.type z size ht hv hz h1 g off n c cur te hg hfit hn
  refine wpList_plain hgd fun K hK => ?_
  unfold Oper.wp
  simp [execOp, ho, resolve, invoke, builtin, hs, hr, Result.andThen]
  exact hK _ _ (h cs w' hl h2 h3)
/-- append(s[:i], make(S, k)...) where there is no room. -/
theorem wpList_append_zerosN {ops : Array Oper} {rest : List Oper} {o : Oper} {a : Act} {Q : Exit → Act → World → Prop} (hgd : o.guard = none) (s x : Operand) (t tn : TypeId)
    (ho : o.op = .call { callee := .builtin .append, args := #[s, x], argTypes := #[t, tn] }) (e : TypeId) (i : TypeInfo) (z : Value) (size bytes : Nat) (ht : P.underlying t = some (.slice e)) (htn : P.underlying tn = some (.int .i64)) (hi : P.info? e = some i) (hz : i.zero = some z)
    (hsize : i.size = size) (hby : i.bytes = bytes) (hzs : z.cells.size = size) (hsz : 0 < size) (g m cap k N : Nat) (hN : m + k = N) (z' : Int) (hs : a.eval s = .slice (some ⟨g, 0, none⟩) m cap) (hx : a.eval x = .int .i64 z') (hzk : z' = (k : Int)) (h0 : 0 < k) (hcap : cap < m + k)
    (olds : List Value) (hol : olds.length = m * size) (hold : ∀ j u, olds[j]? = some u → w.cell? ((⟨g, 0, none⟩ : Addr).add j) = some u) (h63 : m + k ≤ 1000000) (hbytes : (m + k) * bytes ≤ 140737488355328)
    (h : ∀ (G : Nat) (cur : List Value) (w' : World), N ≤ G → G ≤ 9223372036854775807 → cur.length = G * size → cur.take (m * size) = olds → w'.heap[w.heap.size]? = some (.cells cur.toArray e (0, 0)) → w.grownBy w' none → w'.heap.size = w.heap.size + 1 → wpList P ops Q rest (a.put o.dst (.slice (some ⟨w.heap.size, 0, none⟩) N G)) w') : wpList P ops Q (o :: rest) a w := by
  subst hN
  subst hzk
  subst hsize
  have hold' : (Builtin.firstCells i.size m (.slice (some ⟨g, 0, none⟩) m cap)).run P w.drew = .ok olds.toArray w.drew := run_firstCells_some w.drew _ m ⟨g, 0, none⟩ m cap olds hol (fun j v hj => hold j v hj)
  have hr := Lib.run_append_grow_zeros (P := P) w t tn o.type e i z .i64 .i64 ht htn hi hz (some ⟨g, 0, none⟩) m cap olds hold' k h0 (by omega) (by omega) (by omega) (by rw [hby]; exact Nat.le_trans (Nat.mul_le_mul_right _ (Nat.le_add_left k m)) (by omega)) (by rw [hby]; exact growslice_fits hcap hbytes)
  refine Lib.wpList_append_run w hgd s x t tn ho _ _ hs hx _ _ hr ?_
  obtain ⟨G, hG⟩ : ∃ G, grownCap w (m + k) cap e = G := ⟨_, rfl⟩
  have hg1 : m + k ≤ G := hG ▸ grownCap_ge w (m + k) cap e
  have hg2 : G ≤ maxLen := hG ▸ grownCap_le_maxLen w (m + k) cap e (le_maxLen h63)
  rw [hG]
  have hl : (olds.toArray ++ Builtin.zeroCells z.cells k ++ Builtin.zeroCells z.cells (G - (m + k))).toList.length = G * i.size := by
    have e0 : G = m + (k + (G - (m + k))) := by omega
    have : ∀ n, (Builtin.zeroCells z.cells n).size = n * i.size := fun n => by simp [Builtin.zeroCells, hzs]
    rw [Array.length_toList, Array.size_append, Array.size_append, this, this, List.size_toArray, hol, Nat.add_assoc, ← Nat.add_mul, ← Nat.add_mul]
    congr 1
    omega
  refine h G _ _ hg1 (by unfold maxLen at hg2; omega) hl ?_ ?_ ?_ ?_
  · rw [Array.toList_append, Array.toList_append, List.append_assoc]
    exact List.take_left' (by rw [← hol])
  · rw [show w.heap.size = w.drew.heap.size from rfl, heap_alloc_new]
  · exact ⟨rfl, rfl, rfl, by simp, (World.grownBy_alloc w.drew _ none).block⟩
  · simp
end
end Go.Proofs.YtjgloipgnnigmaaGreatDoor
/- Plain lists: splices, and rows of cells cut at an element. -/
namespace Go.Proofs.YtjgloipgnnigmaaGreatDoor

theorem splice_low {α : Type} (L : List α) (a n : Nat) (c : List α) (h : n ≤ a) (ha : a ≤ L.length) : (splice L a c).take n = L.take n := by
  unfold splice
  rw [List.take_append_of_le_length (by rw [List.length_take]; omega), List.take_take]
  congr 1
  omega
theorem splice_hi {α : Type} (L : List α) (a : Nat) (c : List α) (ha : a ≤ L.length) : (splice L a c).take (a + c.length) = L.take a ++ c := by
  unfold splice
  rw [← List.append_assoc]
  exact List.take_left' (by rw [List.length_append, List.length_take]; omega)
theorem splice_ins {α : Type} (L : List α) (a : Nat) (v t : List α) (h : a + v.length ≤ L.length) : (splice (splice L (a + v.length) t) a v).take (a + v.length + t.length) = L.take a ++ v ++ t := by
  have e1 : (splice L (a + v.length) t).take a = L.take a := splice_low _ _ _ _ (by omega) h
  have e2 : (splice L (a + v.length) t).drop (a + v.length) = t ++ L.drop (a + v.length + t.length) := by
    unfold splice
    exact List.drop_left' (by rw [List.length_take]; omega)
  rw [show splice (splice L (a + v.length) t) a v = (splice L (a + v.length) t).take a ++ (v ++ (splice L (a + v.length) t).drop (a + v.length)) from rfl, e1, e2, ← List.append_assoc, ← List.append_assoc]
  exact List.take_left' (by simp; omega)
theorem splice_grow {α : Type} (L : List α) (a : Nat) (v t : List α) (h : a + v.length ≤ L.length) : (splice (splice L a v) (a + v.length) t).take (a + v.length + t.length) = L.take a ++ v ++ t := by
  rw [splice_hi _ _ _ (by rw [length_splice _ _ _ h]; exact h), splice_hi _ _ _ (by omega)]
theorem flat_take {α β : Type} (f : α → List β) (n : Nat) (hf : ∀ x, (f x).length = n) : ∀ (l : List α) (k : Nat), (l.flatMap f).take (k * n) = (l.take k).flatMap f
  | [], k => by simp
  | x :: l, 0 => by simp
  | x :: l, k + 1 => by
    have := flat_take f n hf l k
    rw [List.flatMap_cons, List.take_succ_cons, List.flatMap_cons, ← this, show (k + 1) * n = (f x).length + k * n by rw [hf, Nat.succ_mul, Nat.add_comm], List.take_length_add_append]
theorem flat_drop {α β : Type} (f : α → List β) (n : Nat) (hf : ∀ x, (f x).length = n) : ∀ (l : List α) (k : Nat), (l.flatMap f).drop (k * n) = (l.drop k).flatMap f
  | [], k => by simp
  | x :: l, 0 => by simp
  | x :: l, k + 1 => by
    have := flat_drop f n hf l k
    rw [List.flatMap_cons, List.drop_succ_cons, ← this, show (k + 1) * n = (f x).length + k * n by rw [hf, Nat.succ_mul, Nat.add_comm], List.drop_length_add_append]
end Go.Proofs.YtjgloipgnnigmaaGreatDoor
/- slices.Delete at asks: one is taken out. -/
namespace Go.Proofs.YtjgloipgnnigmaaGreatDoor
open Go.RowKit

def askC (a : AskD) : List Value := [.int .i64 (a.n : Int), .int .i64 (a.g : Int), .string a.key, .int .u64 (a.st : Int)]
theorem askC_len (a : AskD) : (askC a).length = 4 := rfl
theorem askC_one (a : AskD) : ∀ u ∈ askC a, u.oneCell' = true := fun u hu => by
  simp only [askC, List.mem_cons, List.not_mem_nil, or_false] at hu
  rcases hu with rfl | rfl | rfl | rfl <;> rfl
theorem askCs_one (l : List AskD) : ∀ u ∈ askCells l, u.oneCell' = true := fun u hu => by
  obtain ⟨x, _, hu⟩ := List.mem_flatMap.1 hu
  exact askC_one x u hu
theorem ask_take (l : List AskD) (k : Nat) : (askCells l).take (k * 4) = askCells (l.take k) := flat_take askC 4 askC_len l k
theorem ask_drop (l : List AskD) (k : Nat) : (askCells l).drop (k * 4) = askCells (l.drop k) := flat_drop askC 4 askC_len l k
theorem ask_app (l m : List AskD) : askCells (l ++ m) = askCells l ++ askCells m := by simp [askCells]
theorem del_cells (cur : List Value) (l : List AskD) (k : Nat) (hk : k < l.length) (hc : l.length * 4 ≤ cur.length) (ht : cur.take (l.length * 4) = askCells l) (cs : List Value) :
    (splice (splice cur (k * 4) (askCells (l.drop (k + 1)))) ((l.length - 1) * 4) cs).take ((l.eraseIdx k).length * 4) = askCells (l.eraseIdx k) := by
  have e : (l.eraseIdx k).length = l.length - 1 := by rw [List.length_eraseIdx_of_lt hk]
  have hl : (askCells (l.drop (k + 1))).length = (l.length - (k + 1)) * 4 := by rw [askCells_len, List.length_drop]
  have hf : k * 4 + (askCells (l.drop (k + 1))).length ≤ cur.length := by rw [hl]; omega
  rw [e, splice_low _ _ _ _ (Nat.le_refl _) (by rw [length_splice _ _ _ hf]; omega), show (l.length - 1) * 4 = k * 4 + (askCells (l.drop (k + 1))).length by rw [hl]; omega, splice_hi _ _ _ (by omega)]
  have h1 : cur.take (k * 4) = askCells (l.take k) := by
    rw [← ask_take, ← ht, List.take_take, Nat.min_eq_left (by omega)]
  rw [h1, ← ask_app, List.eraseIdx_eq_take_drop_succ]
theorem info_ask4 : (Tryz.prog.info? 103).map (fun i => (i.zero, i.size, i.bytes)) = some (some (.agg #[.int .i64 0, .int .i64 0, .string ByteArray.empty, .int .u64 0]), 4, 40) := by kernel_rfl
theorem zero_ask (w : World) : (zeroValue 103).run Tryz.prog w = .ok (.agg #[.int .i64 0, .int .i64 0, .string ByteArray.empty, .int .u64 0]) w := by kernel_rfl
theorem ask0_one : ∀ u ∈ (Value.agg #[.int .i64 0, .int .i64 0, .string ByteArray.empty, .int .u64 0]).cells, u.oneCell' = true := by
  intro u hu
  simp [Value.cells] at hu
  rcases hu with rfl | rfl | rfl <;> rfl
def DelPost (w : World) (B : Nat) (v0 : Value) (l : List AskD) (e : Ending) (w' : World) : Prop :=
  ∃ v', e = .returned v' ∧ w'.ownsRow B 103 4 v' l.length (askCells l) ∧ w.grownBy w' v0.ownBlock ∧ v'.ownBlock = v0.ownBlock
set_option maxRecDepth 100000 in
set_option maxHeartbeats 2000000 in
theorem delA_last (l : List AskD) (k : Nat) (hln : l.length = k + 1) (B g : Nat) (cur : Array Value) (w : World) {i0 : TypeInfo} (hi : Tryz.prog.info? 103 = some i0) (hz1 : i0.size = 4) (hg : B ≤ g) (hrow : Hid (w.drew.heap[g]? = some (.cells cur.toList.toArray 103 (0, 0)))) (hm : k + 1 ≤ maxLen) (HC : cur.toList.length = (k + 1) * 4) (HT : cur.toList.take (l.length * 4) = askCells l) :
    Calls Tryz.prog 101 #[.slice (some ⟨g, 0, none⟩) (k + 1) (k + 1), .int .i64 (k : Int), .int .i64 ((k : Int) + 1)] w (DelPost w B (.slice (some ⟨g, 0, none⟩) (k + 1) (k + 1)) (l.eraseIdx k)) := by
  have hq : ((k : Int) == (k : Int) + 1) = false := by rw [beq_eq_false_iff_ne]; omega
  have hb1 : (0 : Int) ≤ (k : Int) := by omega
  have hb2 : (k : Int) ≤ (k : Int) + 1 := by omega
  have hb5 : (0 : Int) ≤ (k : Int) + 1 := by omega
  have HL : Hid ((askCells (l.drop (k + 1))).length = 0 * 4) := by show _ = _; rw [List.drop_eq_nil_of_le (by omega)]; rfl
  have HN : Hid (∀ j u, ([] : List Value)[j]? = some u → w.drew.cell? ((⟨g, 0, none⟩ : Addr).add j) = some u) := fun j u hj => by cases hj
  have hll : Hid ((l.eraseIdx k).length = k) := by show _ = _; rw [List.length_eraseIdx_of_lt (by omega)]; omega
  have HD : Hid (∀ cs, (splice (splice cur.toList (k * 4) []) (k * 4) cs).take ((l.eraseIdx k).length * 4) = askCells (l.eraseIdx k)) := fun cs => by
    have := del_cells cur.toList l k (by omega) (by rw [HC]; omega) HT cs
    rwa [List.drop_eq_nil_of_le (by omega), show l.length - 1 = k by omega] at this
  replace HC := Lib.hid HC
  replace HT := Lib.hid HT
  replace hm := Lib.hid hm
  replace hln := Lib.hid hln
  have hsz1 : Hid ((splice cur.toList (k * 4) ([] : List Value)).length = (k + 1) * 4) := by show _ = _; rw [length_splice _ _ _ (by rw [HC.out]; simp; omega)]; exact HC.out
  have hwk : IntKind.i64.wrap ((k : Int) + 1) = (k : Int) + 1 := IntWalk.i64_in _ (by have := hm.out; unfold maxLen at this; omega)
  go_enter Tryz.func101, Tryz.ntmps101
  go_wp2_with fail
  go_region_law ((refine step_append_splice rfl (.tmp 22) (.tmp 25) 93 rfl 103 i0 4 Tryz.underlying93 hi hz1 g k (k + 1) (by simp [Act.eval, Act.put]) ⟨g, 0, none⟩ 0 0 (by simp [Act.eval, Act.put]) cur.toList hrow.out [] rfl HN.out (fun u hu => by cases hu) (by omega) (by rw [HC.out]; simp; omega) ?_; intro w1 hr1 hg1))
  have hk2 : ¬ (k + 1 = k) := by omega
  go_wp2_with (have _h := hr1; refine wpList_clear_splice rfl _ 93 rfl 103 _ 4 Tryz.underlying93 zero_ask rfl (fun u hu => ask0_one u hu) g (k * 4) 1 1 (by simp [Act.eval, Act.put]) (splice cur.toList (k * 4) []) 103 hr1.out (by rw [hsz1.out]; omega) (by omega) ?_; intro cs w2 hcl2 hr2 hg2)
  go_ret
  refine ⟨.slice (some ⟨g, 0, none⟩) k (k + 1), rfl, ⟨by rw [askCells_len], .inr ⟨g, k + 1, _, by rw [hll.out], hg, hr2.out, by rw [hll.out]; omega, hm.out, ?_, ?_⟩⟩, ?_, rfl⟩
  · rw [List.size_toArray, length_splice _ _ _ (by rw [hcl2, hsz1.out]; omega), hsz1.out]
  · exact HD.out cs
  · refine ⟨hg2.os.trans hg1.os, hg2.tape.trans hg1.tape, hg2.output.trans hg1.output, Nat.le_trans hg1.size hg2.size, fun k' hk' hne => ?_⟩
    have h2 := hg1.size
    rw [hg2.block k' (by have h4 : w.drew.heap.size = w.heap.size := rfl; omega) hne, hg1.block k' hk' hne]
    rfl
set_option maxRecDepth 100000 in
set_option maxHeartbeats 2000000 in
theorem delA_any (l : List AskD) (k : Nat) (hk : k < l.length) (hn : l.length ≤ 100) (B : Nat) (v0 : Value) (w : World) (h0 : w.ownsRow B 103 4 v0 l.length (askCells l)) :
    Calls Tryz.prog 101 #[v0, .int .i64 (k : Int), .int .i64 ((k : Int) + 1)] w (DelPost w B v0 (l.eraseIdx k)) := by
  obtain ⟨i0, hi, hz0, hz1, hz2⟩ := info_parts info_ask4
  rcases h0.2 with ⟨_, e⟩ | ⟨g, cap, cur, rfl, hg, hrow, hncap, hcm, hcs, htk⟩
  · omega
  · have hcap63 : cap ≤ 9223372036854775807 := by have := hcm; unfold maxLen at this; omega
    have hsrc : Hid (cap ≠ k + 1 → ∀ j u, (askCells (l.drop (k + 1)))[j]? = some u → w.drew.cell? ((⟨g, (k + 1) * 4, none⟩ : Addr).add j) = some u) := fun _ t u hu => by
      rw [← ask_drop, List.getElem?_drop] at hu
      have := World.ownsRow.cells (g := g) h0 rfl _ u hu
      show w.cell? _ = _
      simpa [Go.WideShapes.add_plain, Nat.add_assoc] using this
    have hsrc0 : Hid (cap = k + 1 → ∀ j u, (askCells (l.drop (k + 1)))[j]? = some u → w.drew.cell? ((⟨g, 0, none⟩ : Addr).add j) = some u) := fun h t u hu => by
      have : l.drop (k + 1) = [] := List.drop_eq_nil_of_le (by omega)
      rw [this] at hu
      cases hu
    have hl : (askCells (l.drop (k + 1))).length = (l.length - (k + 1)) * 4 := by rw [askCells_len, List.length_drop]
    have hR : Hid (w.drew.heap[g]? = some (.cells cur.toList.toArray 103 (0, 0))) := by show _ = _; rw [Array.toArray_toList]; exact hrow
    have hglt : g < w.heap.size := (Array.getElem?_eq_some_iff.1 hrow).1
    have hcl : cur.toList.length = cap * 4 := by rw [Array.length_toList, hcs]
    have hfit : k * 4 + (askCells (l.drop (k + 1))).length ≤ cur.toList.length := by rw [hl, hcl]; omega
    have HT := Lib.hid htk
    have HL := Lib.hid hl
    have HC := Lib.hid hcl
    have HF := Lib.hid hfit
    have HM := Lib.hid hcm
    have hq : ((k : Int) == (k : Int) + 1) = false := by rw [beq_eq_false_iff_ne]; omega
    have hb1 : (0 : Int) ≤ (k : Int) := by omega
    have hb2 : (k : Int) ≤ (k : Int) + 1 := by omega
    have hb3 : (k : Int) + 1 ≤ (l.length : Int) := by omega
    have hb4 : (l.length : Int) ≤ (cap : Int) := by omega
    have hkc : k ≤ cap := by omega
    have hkc1 : k + 1 ≤ cap := by omega
    have hb5 : (0 : Int) ≤ (k : Int) + 1 := by omega
    have hkl : k ≤ l.length := by omega
    have hkl1 : k + 1 ≤ l.length := by omega
    clear h0 hrow hcs htk hl hcl hfit hcm
    by_cases hck : cap = k + 1
    · subst hck
      have hln : l.length = k + 1 := by omega
      have := delA_last l k hln B g cur w hi hz1 hg hR HM.out HC.out HT.out
      rw [hln]
      exact this
    · have hsr := Lib.hid (hsrc.out hck)
      have hck2 : ¬ (cap = k) := by omega
      go_enter Tryz.func101, Tryz.ntmps101
      go_wp2_with fail
      go_region_law ((refine step_append_splice rfl (.tmp 22) (.tmp 25) 93 rfl 103 i0 4 Tryz.underlying93 hi hz1 g k cap (by simp [Act.eval, Act.put]) ⟨g, (k + 1) * 4, none⟩ (l.length - (k + 1)) (cap - (k + 1)) (by simp [Act.eval, Act.put]) cur.toList hR.out (askCells (l.drop (k + 1))) HL.out hsr.out (askCs_one _) (by omega) HF.out ?_; intro w1 hr1 hg1))
      have he1 : k + (l.length - (k + 1)) ≤ l.length := by omega
      have he2 : ¬ (cap = k + (l.length - (k + 1))) := by omega
      have he3 : (0 : Int) ≤ ((k + (l.length - (k + 1)) : Nat) : Int) := by omega
      have he4 : ((k + (l.length - (k + 1)) : Nat) : Int) ≤ (l.length : Int) := by omega
      have hsz1 : (splice cur.toList (k * 4) (askCells (l.drop (k + 1)))).length = cap * 4 := by rw [length_splice _ _ _ HF.out]; exact HC.out
      replace hsz1 := Lib.hid hsz1
      have hof : Hid ((k + (l.length - (k + 1))) * 4 + (l.length - (k + (l.length - (k + 1)))) * 4 ≤ (splice cur.toList (k * 4) (askCells (l.drop (k + 1)))).length) := by show _ ≤ _; rw [hsz1.out]; omega
      go_wp2_with (have _h := hr1; refine wpList_clear_splice rfl _ 93 rfl 103 _ 4 Tryz.underlying93 zero_ask rfl (fun u hu => ask0_one u hu) g ((k + (l.length - (k + 1))) * 4) (l.length - (k + (l.length - (k + 1)))) (cap - (k + (l.length - (k + 1)))) rfl (splice cur.toList (k * 4) (askCells (l.drop (k + 1)))) 103 hr1.out hof.out (by omega) ?_; intro cs w2 hcl2 hr2 hg2)
      go_ret
      have hll : (l.eraseIdx k).length = k + (l.length - (k + 1)) := by rw [List.length_eraseIdx_of_lt hk]; omega
      have hl1 : k + (l.length - (k + 1)) = l.length - 1 := by omega
      refine ⟨.slice (some ⟨g, 0, none⟩) (k + (l.length - (k + 1))) cap, rfl, ⟨by rw [askCells_len], .inr ⟨g, cap, _, by rw [hll], hg, hr2.out, by rw [hll]; omega, HM.out, ?_, ?_⟩⟩, ?_, rfl⟩
      · have hof2 := hof.out
        rw [List.size_toArray, length_splice _ _ _ (by rw [hcl2]; exact hof2), hsz1.out]
      · show List.take _ (splice _ _ _) = _
        rw [hl1]
        exact del_cells cur.toList l k hk (by rw [HC.out]; omega) HT.out cs
      · refine ⟨hg2.os.trans hg1.os, hg2.tape.trans hg1.tape, hg2.output.trans hg1.output, Nat.le_trans hg1.size hg2.size, fun k' hk' hne => ?_⟩
        have h2 := hg1.size
        rw [hg2.block k' (by have h4 : w.drew.heap.size = w.heap.size := rfl; omega) hne, hg1.block k' hk' hne]
        rfl
end Go.Proofs.YtjgloipgnnigmaaGreatDoor
/- The client's Write, where nothing is written. -/
namespace Go.Proofs.YtjgloipgnnigmaaGreatDoor
open Go.RowKit Go.Shelf Go.Sort

section
variable {w : World} {B p : Nat} {K : CliK} {x : CliD} {O : Nat → Prop}
theorem wri_same {w' : World} {key : ByteArray} {v : Val} {z : Int} (h : CliAt w B p K x O) (hB : B ≤ w.heap.size) (hb : Below w.heap.size w w') (hd : writeD x key v = x) (hz : writeE x key v = z) : CliPost w B p K O (.int .i64 (writeE x key v)) (writeD x key v) (.returned (.int .i64 z)) w' := by
  rw [hd, hz]
  exact ⟨rfl, h.stay hb hB, Out.of_below hb⟩
set_option maxRecDepth 100000 in
set_option maxHeartbeats 2000000 in
/-- Where nothing is written: the state, the form, or too many. -/
theorem write_no {N : Nat} (h : CliAt w B p K x O) (hB : B ≤ w.heap.size) (hI : CliInv K.c N x) (hT : Tabs w) (key : ByteArray) (hk : key.size ≤ maxLen) (v : Val) (hv : v.Good) (hK : writeK x key v ≠ 2 ∧ writeK x key v ≠ 4) :
    Calls Tryz.prog 15 #[.pointer (some ⟨p, 0, none⟩), .string key, .agg #[.int .i64 v.kind, .int .u64 (v.bits : Int), .string v.text]] w (CliPost w B p K O (.int .i64 (writeE x key v)) (writeD x key v)) := by
  obtain ⟨W, eW, HB, d0, d1, d2⟩ := box3 w (.int .i64 v.kind) (.int .u64 (v.bits : Int)) (.string v.text) 28
  have hW := Lib.hid (h.later HB)
  have hTW := Lib.hid (hT.later HB)
  by_cases s1 : x.state = 1
  · have q1 : ((x.state : Int) == 1) = true := by rw [beq_iff_eq]; omega
    obtain ⟨fk, hfk⟩ : ∃ b, keyB key = b := ⟨_, rfl⟩
    cases fk
    · have HR : Hid (writeK x key v = 1) := by show _ = _; simp [writeK, s1, hfk]
      have HP : Hid (∀ w', Below w.heap.size w w' → CliPost w B p K O (.int .i64 (writeE x key v)) (writeD x key v) (.returned (.int .i64 2)) w') := fun w' hb => wri_same h hB hb (by simp [writeD, HR.out]) (by simp [writeE, HR.out])
      replace hfk := Lib.hid hfk
      clear s1 hI hK
      go_enter Tryz.func15, Tryz.ntmps15
      go_wp2_with (first
        | (go_at_call 35; refine (in_any hW.out 1 true q1).mono ?_; rintro e w1 ⟨rfl, rfl⟩)
        | (go_at_call 36; refine (calls_few hfk.out (key_any key _ hk)).mono ?_; rintro e w2 ⟨rfl, hb⟩))
      go_ret
      exact HP.out _ (keepB HB hb)
    · obtain ⟨fv, hfv⟩ : ∃ b, formedV v = b := ⟨_, rfl⟩
      have HF : Hid (∀ wz, Below W.heap.size W wz → Calls Tryz.prog 52 #[.agg #[.int .i64 v.kind, .int .u64 (v.bits : Int), .string v.text]] wz fun e w' => e = .returned (.bool fv) ∧ Below wz.heap.size wz w') := fun wz hb => by
        have := formedV_any v.kind v.bits v.text hv.t wz (hTW.out.later hb)
        rw [← hfv]
        exact this
      cases fv
      · have HR : Hid (writeK x key v = 1) := by show _ = _; simp [writeK, s1, hfv]
        have HP : Hid (∀ w', Below w.heap.size w w' → CliPost w B p K O (.int .i64 (writeE x key v)) (writeD x key v) (.returned (.int .i64 2)) w') := fun w' hb => wri_same h hB hb (by simp [writeD, HR.out]) (by simp [writeE, HR.out])
        replace hfk := Lib.hid hfk
        replace hfv := Lib.hid hfv
        clear s1 hI hK
        go_enter Tryz.func15, Tryz.ntmps15
        go_wp2_with (first
          | (go_at_call 35; refine (in_any hW.out 1 true q1).mono ?_; rintro e w1 ⟨rfl, rfl⟩)
          | (go_at_call 36; refine (calls_few hfk.out (key_any key _ hk)).mono ?_; rintro e w2 ⟨rfl, hb⟩; replace d0 := keep hb d0; replace d1 := keep hb d1; replace d2 := keep hb d2)
          | (go_at_call 52; refine (HF.out _ hb).mono ?_; rintro e w3 ⟨rfl, hb3⟩))
        go_ret
        exact HP.out _ (keepB HB (keepB hb hb3))
      · by_cases fa : atK x.wrs key = true
        · exact absurd (by simp [writeK, s1, hfk, hfv, fa]) hK.1
        · by_cases s6 : 6 ≤ x.wrs.length
          · have HR : Hid (writeK x key v = 3) := by show _ = _; simp [writeK, s1, hfk, hfv, fa, s6]
            have HP : Hid (∀ w', Below w.heap.size w w' → CliPost w B p K O (.int .i64 (writeE x key v)) (writeD x key v) (.returned (.int .i64 3)) w') := fun w' hb => wri_same h hB hb (by simp [writeD, HR.out]) (by simp [writeE, HR.out])
            obtain ⟨lk, hlk⟩ : ∃ k, Hid (lowK x.wrs key = k) := ⟨_, rfl⟩
            have HSe : Hid (∀ wz, CliAt wz B p K x O → Calls Tryz.prog 38 #[.pointer (some ⟨p, 0, none⟩), .string key] wz (SrchPost wz lk false)) := fun wz hz => by
              have := wrote_any hz key hI.wr hI.wn
              rwa [hlk.out, show atK x.wrs key = false by simpa using fa] at this
            have q6 : decide ((6 : Int) ≤ (x.wrs.length : Int)) = true := by rw [decide_eq_true_iff]; omega
            have q6b : decide (6 ≤ x.wrs.length) = true := by rw [decide_eq_true_iff]; omega
            replace hfk := Lib.hid hfk
            replace hfv := Lib.hid hfv
            clear s1 hI hK fa s6
            go_enter Tryz.func15, Tryz.ntmps15
            go_wp2_with (first
              | (go_at_call 35; refine (in_any hW.out 1 true q1).mono ?_; rintro e w1 ⟨rfl, rfl⟩)
              | (go_at_call 36; refine (calls_few hfk.out (key_any key _ hk)).mono ?_; rintro e w2 ⟨rfl, hb⟩; replace d0 := keep hb d0; replace d1 := keep hb d1; replace d2 := keep hb d2)
              | (go_at_call 52; refine (HF.out _ hb).mono ?_; rintro e w3 ⟨rfl, hb3⟩; have hb4 := Lib.hid (keepB hb hb3))
              | (go_at_call 38; refine (HSe.out _ (hW.out.later hb4.out)).mono ?_; rintro e w5 ⟨rfl, hb5⟩; have hb6 := Lib.hid (keepB hb4.out hb5); obtain ⟨_, vw, _, _, h5⟩ := hW.out.later hb6.out; obtain ⟨_, _, _, _, _, _, _, _, _, c9, _⟩ := h5.cs; obtain ⟨A9, cap9, e9, _⟩ := own_wrs h5.roww; subst e9; clear h5))
            go_ret
            exact HP.out _ (keepB HB hb6.out)
          · exact absurd (by simp [writeK, s1, hfk, hfv, fa, s6]) hK.2
  · have q1 : ((x.state : Int) == 1) = false := by rw [beq_eq_false_iff_ne]; omega
    have HR : Hid (writeK x key v = 0) := by show _ = _; simp [writeK, s1]
    have HP : Hid (∀ w', Below w.heap.size w w' → CliPost w B p K O (.int .i64 (writeE x key v)) (writeD x key v) (.returned (.int .i64 11)) w') := fun w' hb => wri_same h hB hb (by simp [writeD, HR.out]) (by simp [writeE, HR.out])
    clear s1 hI hK
    go_enter Tryz.func15, Tryz.ntmps15
    go_wp2_with (go_at_call 35; refine (in_any hW.out 1 false q1).mono ?_; rintro e w1 ⟨rfl, rfl⟩)
    go_ret
    exact HP.out _ HB
end
end Go.Proofs.YtjgloipgnnigmaaGreatDoor
