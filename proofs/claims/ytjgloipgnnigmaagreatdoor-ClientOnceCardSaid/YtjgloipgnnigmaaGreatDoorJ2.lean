/- Slices that a call owns: they stay in later worlds, and read as lists. Plain lists: what slices.Sort and slices.Compact make of a list of ints. -/
import Derived.Test.YtjgloipgnnigmaaGreatDoorJ1
import Derived.Laws.AppendOwn
import Derived.Lib.SlicesCompact
import Derived.Deep.RegionHeld3
set_option linter.unusedVariables false
set_option linter.unusedSimpArgs false
namespace Go.Proofs.YtjgloipgnnigmaaGreatDoor
open Go.RowKit

theorem own_keep {w w1 : World} {base n size : Nat} {e : TypeId} {v : Value} {xs : List Value} (h : w.ownsRow base e size v n xs) (hb : Below w.heap.size w w1) : w1.ownsRow base e size v n xs := by
  refine ⟨h.1, ?_⟩
  rcases h.2 with h2 | ⟨g, cap, cur, hv, hg, hh, r⟩
  · exact .inl h2
  · exact .inr ⟨g, cap, cur, hv, hg, by rw [hb.block g (Array.getElem?_eq_some_iff.1 hh).1]; exact hh, r⟩
theorem own_nil (w : World) (base size : Nat) (e : TypeId) : w.ownsRow base e size (.slice none 0 0) 0 [] := ⟨by simp, .inl ⟨rfl, rfl⟩⟩

theorem own_ge {w : World} {base n size : Nat} {e : TypeId} {v : Value} {xs : List Value} (h : w.ownsRow base e size v n xs) : ∀ k, v.ownBlock = some k → base ≤ k := by
  rcases h.2 with ⟨rfl, _⟩ | ⟨g, cap, cur, rfl, hg, _⟩
  · intro k hk; cases hk
  · intro k hk; simp [Value.ownBlock] at hk; omega
/-- Behind an append (or a sort) of what is owned: all below the base is as it was. -/
theorem own_below {a w w' : World} {base n size : Nat} {e : TypeId} {v : Value} {xs : List Value} (h : Below base a w) (hB : base ≤ a.heap.size) (ho : w.ownsRow base e size v n xs) (hg : w.grownBy w' v.ownBlock) : Below base a w' :=
  h.grown hg (Nat.le_trans hB h.size) (own_ge ho)
theorem calls_int {P : Program} {f : FuncId} {args : Array Value} {w : World} {z x : Int} (e : z = x)
    (h : Calls P f args w fun e w' => e = .returned (.int .i64 z) ∧ Below w.heap.size w w') :
    Calls P f args w fun e w' => e = .returned (.int .i64 x) ∧ Below w.heap.size w w' := by
  rw [e] at h; exact h
theorem one_cell_int {k : IntKind} {x : Int} : ∀ u ∈ [Value.int k x], u.oneCell' = true := fun u hu => by
  cases List.mem_singleton.1 hu; rfl
theorem one_cell_str {x : ByteArray} : ∀ u ∈ [Value.string x], u.oneCell' = true := fun u hu => by
  cases List.mem_singleton.1 hu; rfl
theorem le_maxLen {n : Nat} (h : n ≤ 1000000) : n ≤ maxLen := by unfold maxLen; omega
/-- A list of ints handed back, in memory of the call's own. -/
def IntsPost (w : World) (l : List Int) (e : Ending) (w' : World) : Prop :=
  ∃ (A : Option Addr) (cap : Nat), e = .returned (.slice A l.length cap) ∧ IntsAt w' A l ∧ Below w.heap.size w w'

/-- What is owned, as cells: one cell an element. -/
theorem own_cells {w : World} {base n : Nat} {e : TypeId} {v : Value} {f : Nat → Value} (h : w.ownsRow base e 1 v n ((List.range n).map f)) :
    ∃ (A : Option Addr) (cap : Nat), v = .slice A n cap ∧ n ≤ cap ∧ CellsAt w A n f := by
  rcases h.2 with ⟨rfl, rfl⟩ | ⟨g, cap, cur, rfl, _, hh, hn, _, _, ht⟩
  · exact ⟨none, 0, rfl, by omega, fun i hi => by omega⟩
  · refine ⟨some ⟨g, 0, none⟩, cap, rfl, hn, fun i hi => ⟨g, 0, rfl, ?_⟩⟩
    have h1 : (cur.toList.take (n * 1))[i]? = ((List.range n).map f)[i]? := by rw [ht]
    rw [List.getElem?_take_of_lt (by omega)] at h1
    simp only [World.cell?, hh, Nat.zero_add, Option.isSome_none, Bool.false_eq_true, if_false]
    rw [← Array.getElem?_toList, h1]
    simp [hi]
theorem map_range_getD {α : Type} (l : List α) (d : α) (g : α → Value) : l.map g = (List.range l.length).map fun i => g (l.getD i d) := by
  apply List.ext_getElem
  · simp
  · intro i h1 h2
    have hi : i < l.length := by simpa using h1
    simp [List.getD_eq_getElem?_getD, hi]
theorem own_ints {w : World} {base : Nat} {e : TypeId} {v : Value} {l : List Int} (h : w.ownsRow base e 1 v l.length (l.map (Value.int .i64))) :
    ∃ (A : Option Addr) (cap : Nat), v = .slice A l.length cap ∧ l.length ≤ cap ∧ IntsAt w A l := by
  rw [map_range_getD l 0] at h
  exact own_cells h
theorem own_strs {w : World} {base : Nat} {e : TypeId} {v : Value} {l : List ByteArray} (h : w.ownsRow base e 1 v l.length (l.map Value.string)) :
    ∃ (A : Option Addr) (cap : Nat), v = .slice A l.length cap ∧ l.length ≤ cap ∧ StrsAt w A l := by
  rw [map_range_getD l noStr] at h
  exact own_cells h

section
variable {P : Program} {w : World}
theorem append_nil_run (w : World) (base : Nat) (t ty e : TypeId) (i : TypeInfo) (size : Nat) (ht : P.underlying t = some (.slice e)) (hi : P.info? e = some i)
    (v : Value) (n : Nat) (xs : List Value) (hown : w.ownsRow base e size v n xs) (c : Nat) : (Builtin.append_ #[t, t] ty #[v, .slice none 0 c]).run P w = .ok v w := by
  rcases hown.2 with ⟨rfl, rfl⟩ | ⟨g, cap, cur, rfl, _, _, hnc, _⟩
  · simp [Builtin.append_, run_underlying ht, sizeOf, typeInfo, hi, Builtin.lenOf, Builtin.firstCells]
  · simp [Builtin.append_, run_underlying ht, sizeOf, typeInfo, hi, Builtin.lenOf, Builtin.firstCells, hnc, storeCells]
/-- append(v, keys...) where v is owned and keys are a slice of strings, nil let in. -/
theorem wpList_append_strs {ops : Array Oper} {rest : List Oper} {o : Oper} {a : Act} {Q : Exit → Act → World → Prop} (hgd : o.guard = none) (s x : Operand) (t : TypeId)
    (ho : o.op = .call { callee := .builtin .append, args := #[s, x], argTypes := #[t, t] })
    (base : Nat) (e : TypeId) (i : TypeInfo) (z : Value) (bytes : Nat) (ht : P.underlying t = some (.slice e)) (hi : P.info? e = some i) (hz : i.zero = some z)
    (hsize : i.size = 1) (hby : i.bytes = bytes) (hzs : z.cells.size = 1)
    (v : Value) (n : Nat) (xs : List Value) (hs : a.eval s = v) (hown : w.ownsRow base e 1 v n xs)
    (K : Option Addr) (keys : List ByteArray) (c : Nat) (hx : a.eval x = .slice K keys.length c) (hK : StrsAt w K keys)
    (h63 : n + keys.length ≤ maxLen) (hbytes : (n + keys.length) * bytes ≤ 140737488355328) (hbase : base ≤ w.heap.size)
    (h : ∀ v' w', w'.ownsRow base e 1 v' (n + keys.length) (xs ++ keys.map Value.string) → w.grownBy w' v.ownBlock → wpList P ops Q rest (a.put o.dst v') w') : wpList P ops Q (o :: rest) a w := by
  by_cases h0 : 0 < keys.length
  · obtain ⟨b, off, rfl, _⟩ := hK 0 h0
    refine wpList_append_own w hgd s x t ho base e i z 1 bytes ht hi hz hsize hby hzs (by decide) v n xs hs hown ⟨b, off, none⟩ keys.length c (keys.map Value.string) hx (by simp) (fun j u hu => ?_) (fun u hu => ?_) h63 hbytes hbase (fun v' w' h1 h2 _ => h v' w' h1 h2)
    · have hj : j < keys.length := by
        rcases Nat.lt_or_ge j keys.length with q | q
        · exact q
        · rw [List.getElem?_eq_none (by simpa using q)] at hu; cases hu
      obtain ⟨b', off', e', hc⟩ := hK j hj
      cases e'
      rw [Go.WideShapes.add_plain, hc, ← hu]
      simp [List.getD_eq_getElem?_getD, hj]
    · obtain ⟨s', _, rfl⟩ := List.mem_map.1 hu
      rfl
  · have hk : keys = [] := List.eq_nil_of_length_eq_zero (by omega)
    subst hk
    cases K with
    | some ad =>
      exact wpList_append_own w hgd s x t ho base e i z 1 bytes ht hi hz hsize hby hzs (by decide) v n xs hs hown ad 0 c [] hx (by simp) (fun j u hu => by simp at hu) (fun u hu => by simp at hu) h63 hbytes hbase (fun v' w' h1 h2 _ => h v' w' h1 h2)
    | none =>
      refine wpList_plain hgd fun _ hK' => ?_
      have hrun := append_nil_run w base t o.type e i 1 ht hi v n xs hown c
      unfold Oper.wp execOp
      have hx' : a.eval x = .slice none 0 c := hx
      simp only [ho, resolve, invoke, builtin, Sem.run_bind, Sem.run_pure, Result.andThen_ok, List.map_toArray, List.map_cons, List.map_nil, hs, hx', hrun]
      exact hK' _ _ (h v w (by simpa using hown) (World.grownBy.refl w _))
end

/-! ### Plain lists -/
/-- Two rising lists with the same members are one. -/
theorem rising_ext : ∀ {l m : List Int}, l.Pairwise (· < ·) → m.Pairwise (· < ·) → (∀ x, x ∈ l ↔ x ∈ m) → l = m
  | [], [], _, _, _ => rfl
  | [], b :: m, _, _, h => by simpa using (h b).2 (by simp)
  | a :: l, [], _, _, h => by simpa using (h a).1 (by simp)
  | a :: l, b :: m, hl, hm, h => by
    rw [List.pairwise_cons] at hl hm
    have hab : a = b := by
      have h1 := (h a).1 (by simp)
      have h2 := (h b).2 (by simp)
      simp only [List.mem_cons] at h1 h2
      rcases h1 with rfl | h1
      · rfl
      · rcases h2 with rfl | h2
        · rfl
        · have := hm.1 a h1; have := hl.1 b h2; omega
    subst hab
    congr 1
    refine rising_ext hl.2 hm.2 (fun x => ?_)
    constructor
    · intro hx
      have := (h x).1 (by simp [hx])
      simp only [List.mem_cons] at this
      rcases this with rfl | this
      · exact absurd (hl.1 x hx) (by omega)
      · exact this
    · intro hx
      have := (h x).2 (by simp [hx])
      simp only [List.mem_cons] at this
      rcases this with rfl | this
      · exact absurd (hm.1 x hx) (by omega)
      · exact this

theorem compact_spec (d : Array Int) (hs : ∀ i j, i < j → j < d.size → d[i]! ≤ d[j]!) : ∀ m, m ≤ d.size →
    (Lib.compactUpTo d m).Pairwise (· < ·) ∧ ∀ x, x ∈ Lib.compactUpTo d m ↔ ∃ j, j < m ∧ d[j]! = x
  | 0, _ => by simp [Lib.compactUpTo]
  | m + 1, hm => by
    obtain ⟨h1, h2⟩ := compact_spec d hs m (by omega)
    rw [Lib.compactUpTo_succ]
    cases hk : Lib.keeps d m
    · have hne : m ≠ 0 ∧ d[m]! = d[m - 1]! := by
        have := hk
        simp only [Lib.keeps, decide_eq_false_iff_not, not_or, ne_eq, Decidable.not_not] at this
        exact this
      simp only [Bool.false_eq_true, if_false, List.append_nil]
      refine ⟨h1, fun x => ?_⟩
      rw [h2]
      constructor
      · rintro ⟨j, hj, e⟩; exact ⟨j, by omega, e⟩
      · rintro ⟨j, hj, e⟩
        by_cases ej : j = m
        · subst ej; exact ⟨j - 1, by omega, by rw [← hne.2]; exact e⟩
        · exact ⟨j, by omega, e⟩
    · simp only [if_true]
      refine ⟨?_, fun x => ?_⟩
      · rw [List.pairwise_append]
        refine ⟨h1, by simp, fun a ha b hb => ?_⟩
        simp only [List.mem_singleton] at hb
        subst hb
        obtain ⟨j, hj, rfl⟩ := (h2 a).1 ha
        have hle := hs j m hj (by omega)
        have hne : m = 0 ∨ d[m]! ≠ d[m - 1]! := by simpa [Lib.keeps] using hk
        rcases hne with e | hne
        · omega
        · by_cases ej : j = m - 1
          · subst ej; omega
          · have q1 := hs j (m - 1) (by omega) (by omega)
            have q2 := hs (m - 1) m (by omega) (by omega)
            omega
      · rw [List.mem_append, h2]
        simp only [List.mem_singleton]
        constructor
        · rintro (⟨j, hj, e⟩ | e)
          · exact ⟨j, by omega, e⟩
          · exact ⟨m, by omega, e.symm⟩
        · rintro ⟨j, hj, e⟩
          by_cases ej : j = m
          · subst ej; exact .inr e.symm
          · exact .inl ⟨j, by omega, e⟩
/-- What Sort and then Compact make of a list: the rising list of its members. -/
theorem sort_compact (l r : List Int) (hr : r.Pairwise (· < ·)) (hm : ∀ x, x ∈ l ↔ x ∈ r) : Lib.compact (l.mergeSort fun x y => decide (x ≤ y)) = r := by
  have hp := List.mergeSort_perm l (fun x y => decide (x ≤ y))
  have hsrt : (l.mergeSort fun x y => decide (x ≤ y)).Pairwise fun x y => decide (x ≤ y) = true :=
    List.pairwise_mergeSort (fun a b c h1 h2 => by simp only [decide_eq_true_eq] at *; omega) (fun a b => by simp only [Bool.or_eq_true, decide_eq_true_eq]; omega) l
  generalize l.mergeSort (fun x y => decide (x ≤ y)) = s at *
  have hs : ∀ i j, i < j → j < s.toArray.size → s.toArray[i]! ≤ s.toArray[j]! := by
    intro i j hij hj
    have hj' : j < s.length := by simpa using hj
    have := List.pairwise_iff_getElem.1 hsrt i j (by omega) hj' hij
    simp only [decide_eq_true_eq] at this
    rw [getElem!_pos s.toArray i (by simp; omega), getElem!_pos s.toArray j (by simp; omega)]
    simpa using this
  obtain ⟨h1, h2⟩ := compact_spec s.toArray hs s.length (by simp)
  refine rising_ext h1 hr (fun x => ?_)
  rw [show Lib.compact s = Lib.compactUpTo s.toArray s.length from rfl, h2, ← hm, ← hp.mem_iff, List.mem_iff_getElem]
  constructor
  · rintro ⟨j, hj, e⟩
    rw [getElem!_pos s.toArray j (by simp; omega)] at e
    exact ⟨j, hj, by simpa using e⟩
  · rintro ⟨j, hj, e⟩
    refine ⟨j, hj, ?_⟩
    rw [getElem!_pos s.toArray j (by simp; omega)]
    simpa using e
end Go.Proofs.YtjgloipgnnigmaaGreatDoor
/- Layer 8's keys: all keys of a transaction, in one list. -/
namespace Go.Proofs.YtjgloipgnnigmaaGreatDoor
open Go.RowKit Go.Shelf

theorem info_str8 : (Tryz.prog.info? 9).map (fun i => (i.zero, i.size, i.bytes)) = some (some (.string ByteArray.empty), 1, 16) := by kernel_rfl

def rKeys (t : Tx) : List ByteArray := t.rds.map (·.key)
def wKeys (t : Tx) : List ByteArray := t.wrs.map (·.key)
def StrsPost (w : World) (l : List ByteArray) (e : Ending) (w' : World) : Prop :=
  ∃ (A : Option Addr) (cap : Nat), e = .returned (.slice A l.length cap) ∧ l.length ≤ cap ∧ StrsAt w' A l ∧ Below w.heap.size w w'

theorem take_keyR {l : List Rd} {k : Nat} {s : ByteArray} {n : Nat} (hk : k < l.length) (h : l.getD k noRd = ⟨s, n⟩) : (l.take (k + 1)).map (·.key) = (l.take k).map (·.key) ++ [s] := by
  rw [List.take_succ_eq_append_getElem hk, List.map_append]
  rw [List.getD_eq_getElem?_getD, List.getElem?_eq_getElem hk] at h
  simp only [Option.getD_some] at h
  simp [h]
theorem take_keyW {l : List Wr} {k : Nat} {s : ByteArray} {v : Val} (hk : k < l.length) (h : l.getD k noWr = ⟨s, v⟩) : (l.take (k + 1)).map (·.key) = (l.take k).map (·.key) ++ [s] := by
  rw [List.take_succ_eq_append_getElem hk, List.map_append]
  rw [List.getD_eq_getElem?_getD, List.getElem?_eq_getElem hk] at h
  simp only [Option.getD_some] at h
  simp [h]
theorem cell_one_new2 (w : World) (o : Obj) (v : Value) (t : TypeId) : ∀ (j : Nat) (u : Value), [v][j]? = some u → ((w.alloc o).alloc (.cells #[v] t)).cell? ((⟨w.heap.size + 1, 0, none⟩ : Addr).add j) = some u := by
  intro j u hu
  cases j with
  | zero => simp at hu; subst hu; simp [Addr.add]
  | succ j => simp at hu

set_option maxRecDepth 100000 in
set_option maxHeartbeats 2000000 in
theorem keys_any (t : Tx) (A B : Option Addr) (ca cb : Nat) (w : World) (h : TxAt w t A B) (hn : t.rds.length ≤ 6) (hm : t.wrs.length ≤ 6) :
    Calls Tryz.prog 136 #[txV t A B ca cb] w (StrsPost w (rKeys t ++ wKeys t)) := by
  unfold txV
  obtain ⟨W, eW, HB, c0, c1, c2, c3⟩ := box4 w (.int .i64 t.ses) (.int .i64 t.seq) (.slice A t.rds.length ca) (.slice B t.wrs.length cb) 37
  have h := h.later HB
  obtain ⟨i0, hi, hz0, hz1, hz2⟩ := info_parts info_str8
  go_enter Tryz.func136, Tryz.ntmps136
  go_wp2_with fail
  clear eW

  go_loopw [3, 11] (fun v i wr => ∃ k : Nat, k ≤ t.rds.length ∧ i = .int .i64 k ∧ Hid (wr.ownsRow W.heap.size 9 1 v k (((t.rds.take k).map (·.key)).map Value.string)) ∧ Below W.heap.size W wr) (fun _ i _ => t.rds.length - (intOf i).toNat)
  case atStart => exact ⟨0, Nat.zero_le _, rfl, own_nil _ _ _ _, Below.refl _ _⟩
  case round =>
    obtain ⟨k, hk, rfl, HO, hw⟩ := hrel
    have hr := h.later hw
    replace c0 := keep hw c0
    replace c2 := keep hw c2
    replace c3 := keep hw c3
    by_cases hlt : k < t.rds.length
    · obtain ⟨b, off, s, n, rfl, d0, d1, HX⟩ := hr.rds.at' hlt
      have HT := Lib.hid (take_keyR hlt HX.out)
      go_wp2_with (at_builtin; refine wpList_append_own _ rfl _ _ 23 rfl W.heap.size 9 i0 (.string noStr) 1 16 Tryz.underlying23 hi hz0 hz1 hz2 rfl (by decide) _ _ _ rfl (own_keep HO.out (below2 _ _ _)) ⟨wr.heap.size + 1, 0, none⟩ 1 1 [.string s] rfl rfl (cell_one_new2 _ _ _ _) one_cell_str (le_maxLen (by omega)) (by omega) (Nat.le_trans hw.size (below2 _ _ _).size) ?_; intro v3 w3 HO3 hg3 _; replace hw := own_below (keepB hw (below2 _ _ _)) (Nat.le_refl _) (own_keep HO.out (below2 _ _ _)) hg3; replace HO3 := Lib.hid HO3; clear hg3)
      go_roundw
      case rel => exact ⟨k + 1, by omega, by go_num, by show World.ownsRow _ _ _ _ _ _ _; rw [HT.out, List.map_append]; exact HO3.out, hw⟩
      case measure => simp [intOf]; omega
    · have ek : k = t.rds.length := by omega
      have HO1 : Hid (wr.ownsRow W.heap.size 9 1 u3 (rKeys t).length ((rKeys t ++ (t.wrs.take 0).map (·.key)).map Value.string)) := by
        show World.ownsRow _ _ _ _ _ _ _
        have := HO.out
        rw [ek, List.take_length] at this
        rw [rKeys, List.length_map, List.take_zero, List.map_nil, List.append_nil]
        exact this
      have hKL : (rKeys t).length ≤ 6 := by rw [rKeys, List.length_map]; exact hn
      have HR : Hid (rKeys t ++ wKeys t = rKeys t ++ (t.wrs.take t.wrs.length).map (·.key)) := by show _ = _; rw [List.take_length]; rfl
      have HN : Hid ((rKeys t ++ wKeys t).length = (rKeys t).length + t.wrs.length) := by show _ = _; rw [List.length_append]; simp [wKeys]
      clear HO hr
      generalize rKeys t = L at *
      go_wp2_with fail
      clear ek hlt hk
      obtain ⟨wb, rfl⟩ : ∃ wb : World, wb = wr := ⟨_, rfl⟩
      go_loopw [3, 24] (fun v i wr => ∃ j : Nat, j ≤ t.wrs.length ∧ i = .int .i64 j ∧ Hid (wr.ownsRow W.heap.size 9 1 v (L.length + j) ((L ++ (t.wrs.take j).map (·.key)).map Value.string)) ∧ Below W.heap.size W wr) (fun _ i _ => t.wrs.length - (intOf i).toNat)
      case atStart => exact ⟨0, Nat.zero_le _, rfl, HO1, hw⟩
      case round =>
        obtain ⟨j, hj, rfl, HO, hw2⟩ := hrel
        clear HO1 hw
        have hr := h.later hw2
        by_cases hlj : j < t.wrs.length
        · obtain ⟨b, off, s, z, n, x, rfl, d0, d1, d2, d3, HX⟩ := hr.wrs.at' hlj
          have HT := Lib.hid (take_keyW hlj HX.out)
          go_wp2_with (at_builtin; refine wpList_append_own _ rfl _ _ 23 rfl W.heap.size 9 i0 (.string noStr) 1 16 Tryz.underlying23 hi hz0 hz1 hz2 rfl (by decide) _ _ _ rfl (own_keep HO.out (below2 _ _ _)) ⟨wr.heap.size + 1, 0, none⟩ 1 1 [.string s] rfl rfl (cell_one_new2 _ _ _ _) one_cell_str (le_maxLen (by omega)) (by omega) (Nat.le_trans hw2.size (below2 _ _ _).size) ?_; intro v3 w3 HO3 hg3 _; replace hw2 := own_below (keepB hw2 (below2 _ _ _)) (Nat.le_refl _) (own_keep HO.out (below2 _ _ _)) hg3; replace HO3 := Lib.hid HO3; clear hg3)
          go_roundw
          case rel => exact ⟨j + 1, by omega, by go_num, by show World.ownsRow _ _ _ _ _ _ _; rw [HT.out, ← List.append_assoc, List.map_append]; exact HO3.out, hw2⟩
          case measure => simp [intOf]; omega
        · have ej : j = t.wrs.length := by omega
          go_wp2
          go_ret
          have := HO.out
          rw [ej, ← HR.out, ← HN.out] at this
          obtain ⟨A', cap', rfl, hc, hI⟩ := own_strs this
          exact ⟨A', cap', rfl, hc, hI, keepB HB hw2⟩
end Go.Proofs.YtjgloipgnnigmaaGreatDoor
/- Layer 8's rises, Id and Less; whether a write's value is formed. -/
namespace Go.Proofs.YtjgloipgnnigmaaGreatDoor
open Go.RowKit Go.Shelf

set_option maxHeartbeats 1000000 in
theorem rises_any (l : List ByteArray) (K : Option Addr) (ck : Nat) (w : World) (hK : StrsAt w K l) (hn : l.length ≤ 9223372036854775807) (hs : ∀ k, k < l.length → (l.getD k noStr).size ≤ 9223372036854775807) :
    Calls Tryz.prog 143 #[.slice K l.length ck] w fun e w' => e = .returned (.bool (risesTo l l.length)) ∧ Below w.heap.size w w' := by
  go_enter Tryz.func143, Tryz.ntmps143
  go_wp2_with fail

  go_loopw [7] (fun i wr => ∃ k : Nat, k ≤ l.length ∧ i = .int .i64 k ∧ Hid (risesTo l k = true) ∧ Below w.heap.size w wr) (fun i _ => l.length - (intOf i).toNat)
  case atStart => exact ⟨0, Nat.zero_le _, rfl, rfl, Below.refl _ _⟩
  case round =>
    obtain ⟨k, hk, rfl, HA, hw⟩ := hrel
    have hKr := CellsAt.later hK hw
    by_cases hlt : k < l.length
    · obtain ⟨b, off, x, rfl, hc, HX⟩ := StrsAt.at' hKr hlt
      have hsx : x.size ≤ maxLen := by have := hs k hlt; rw [HX.out] at this; exact this
      cases hkey : keyB x
      · have HF : Hid (risesTo l l.length = false) := risesTo_false hlt (by simp only [riseAt, HX.out, hkey, Bool.false_and])
        go_wp2_with (go_at_call 36; refine (key_any _ _ hsx).mono ?_; rintro e w2 ⟨rfl, hb⟩; replace hw := keepB hw hb)
        go_ret
        exact ⟨ret_bool HF.out, hw⟩
      · by_cases hk0 : k = 0
        · have HR : Hid (risesTo l (k + 1) = true) := risesTo_next0 HA.out HX.out hkey hk0
          have hg : decide (0 < k) = false := by rw [decide_eq_false_iff_not]; omega
          clear hk0
          go_wp2_with (go_at_call 36; refine (key_any _ _ hsx).mono ?_; rintro e w2 ⟨rfl, hb⟩; replace hw := keepB hw hb)
          go_roundw
          case rel => exact ⟨k + 1, by omega, by go_num, HR, hw⟩
          case measure => simp [intOf]; omega
        · obtain ⟨b', off', y, e, hc', HY⟩ := StrsAt.at' hKr (k := k - 1) (by omega)
          injection e with e
          injection e with e1 e2
          subst e1 e2
          have hg : decide (0 < k) = true := by rw [decide_eq_true_iff]; omega
          have hi : ((k : Int) - 1).toNat = k - 1 := by omega
          have hk1 : 1 ≤ k := by omega
          cases hl : lessS y x
          · have HF : Hid (risesTo l l.length = false) := risesTo_false hlt (by simp only [riseAt, HX.out, HY.out, hkey, hl, beq_eq_false_iff_ne.2 hk0, Bool.false_or, Bool.and_false])
            have hl' : Op.bytesLess y.toList x.toList = false := hl
            clear hl hk0
            go_wp2_with (go_at_call 36; refine (key_any _ _ hsx).mono ?_; rintro e w2 ⟨rfl, hb⟩; replace hc' := keep hb hc'; replace hw := keepB hw hb)
            go_ret
            exact ⟨ret_bool HF.out, hw⟩
          · have HR : Hid (risesTo l (k + 1) = true) := risesTo_next HA.out HX.out HY.out hkey hl
            have hl' : Op.bytesLess y.toList x.toList = true := hl
            clear hl hk0
            go_wp2_with (go_at_call 36; refine (key_any _ _ hsx).mono ?_; rintro e w2 ⟨rfl, hb⟩; replace hc' := keep hb hc'; replace hw := keepB hw hb)
            go_roundw
            case rel => exact ⟨k + 1, by omega, by go_num, HR, hw⟩
            case measure => simp [intOf]; omega
    · have ek : k = l.length := by omega
      have HF : Hid (risesTo l l.length = true) := by show _ = _; rw [← ek]; exact HA.out
      go_wp2
      go_ret
      exact ⟨ret_bool HF.out, hw⟩

def idB (s q : Int) : Bool := decide (1 ≤ s) && decide (s ≤ 8) && decide (1 ≤ q) && decide (q ≤ 1048576)
theorem id_any (s q : Int) (w : World) : Calls Tryz.prog 98 #[.agg #[.int .i64 s, .int .i64 q]] w fun e w' => e = .returned (.bool (idB s q)) ∧ Below w.heap.size w w' := by
  obtain ⟨W, eW, HB, c0, c1⟩ := box2 w (.int .i64 s) (.int .i64 q) 33
  have HI : Hid (idB s q = (decide (1 ≤ s) && decide (s ≤ 8) && decide (1 ≤ q) && decide (q ≤ 1048576))) := rfl
  go_enter Tryz.func98, Tryz.ntmps98
  go_wp2
  all_goals go_ret
  all_goals refine ⟨ret_bool ?_, HB⟩
  all_goals rw [HI.out]
  all_goals simp [*] <;> omega
theorem refId_any (s q : Int) (w : World) : Calls Tryz.prog 71 #[.agg #[.int .i64 s, .int .i64 q]] w fun e w' => e = .returned (.bool (idB s q)) ∧ Below w.heap.size w w' := by
  obtain ⟨W, eW, HB, c0, c1⟩ := box2 w (.int .i64 s) (.int .i64 q) 33
  have HI : Hid (idB s q = (decide (1 ≤ s) && decide (s ≤ 8) && decide (1 ≤ q) && decide (q ≤ 1048576))) := rfl
  go_enter Tryz.func71, Tryz.ntmps71
  go_wp2
  all_goals go_ret
  all_goals refine ⟨ret_bool ?_, HB⟩
  all_goals rw [HI.out]
  all_goals simp [*] <;> omega
end Go.Proofs.YtjgloipgnnigmaaGreatDoor
/- Layer 8's Formed: what txn.Formed tells. -/
namespace Go.Proofs.YtjgloipgnnigmaaGreatDoor
open Go.RowKit Go.Shelf

def valsB (l : List Wr) : Bool := l.all fun x => formedV x.val
def formedT (t : Tx) : Bool :=
  idB t.ses t.seq && decide (t.rds.length ≤ 6) && decide (t.wrs.length ≤ 6) && !decide (t.rds.length + t.wrs.length = 0) &&
    risesTo (rKeys t) t.rds.length && risesTo (wKeys t) t.wrs.length && valsB t.wrs

set_option maxRecDepth 100000 in
theorem badVal_any (s t : ByteArray) (k : Int) (n : Nat) (ht : t.size ≤ 9223372036854775807) (w : World) (hT : Tabs w) : Calls Tryz.prog 145 #[.agg #[.string s, .int .i64 k, .int .u64 n, .string t]] w fun e w' => e = .returned (.bool (!formedV ⟨k, n, t⟩)) ∧ Below w.heap.size w w' := by
  obtain ⟨W, eW, HB, c0, c1, c2, c3⟩ := box4 w (.string s) (.int .i64 k) (.int .u64 n) (.string t) 112
  have hT := hT.later HB
  go_enter Tryz.func145, Tryz.ntmps145
  go_wp2_with (go_at_call 52; refine (formedV_any k n t ht _ hT).mono ?_; rintro e w1 ⟨rfl, hb⟩; replace HB := keepB HB hb)
  go_ret
  exact ⟨rfl, HB⟩

def IndexPost (w : World) (bad : Bool) (e : Ending) (w' : World) : Prop := ∃ z : Int, e = .returned (.int .i64 z) ∧ decide (0 ≤ z) = bad ∧ Below w.heap.size w w'
theorem valsB_bad {l : List Wr} {k : Nat} {x : Wr} (hk : k < l.length) (h : l.getD k noWr = x) (hx : formedV x.val = false) : valsB l = false := by
  rw [List.getD_eq_getElem?_getD, List.getElem?_eq_getElem hk] at h
  simp only [Option.getD_some] at h
  unfold valsB
  rw [List.all_eq_false]
  exact ⟨l[k], List.getElem_mem hk, by rw [h, hx]; simp⟩
theorem valsB_next {l : List Wr} {k : Nat} {x : Wr} (hk : k < l.length) (h : l.getD k noWr = x) (hx : formedV x.val = true) (ha : valsB (l.take k) = true) : valsB (l.take (k + 1)) = true := by
  rw [List.getD_eq_getElem?_getD, List.getElem?_eq_getElem hk] at h
  simp only [Option.getD_some] at h
  unfold valsB at *
  rw [List.take_succ_eq_append_getElem hk, List.all_append, ha, h]
  simp [hx]

set_option maxRecDepth 100000 in
theorem index_any (l : List Wr) (A : Option Addr) (ca : Nat) (w : World) (hA : WrsAt w A l) (hv : ∀ k, k < l.length → (l.getD k noWr).val.Good) (hn : l.length ≤ 9223372036854775807) (hT : Tabs w) :
    Calls Tryz.prog 181 #[.slice A l.length ca, .func (.func 145) #[] #[]] w (IndexPost w (!valsB l)) := by
  go_enter Tryz.func181, Tryz.ntmps181
  go_wp2_with fail
  go_loopw [8] (fun i wr => ∃ k : Nat, k ≤ l.length ∧ i = .int .i64 k ∧ Hid (valsB (l.take k) = true) ∧ Below w.heap.size w wr) (fun i _ => l.length - (intOf i).toNat)
  case atStart => exact ⟨0, Nat.zero_le _, rfl, rfl, Below.refl _ _⟩
  case round =>
    obtain ⟨k, hk, rfl, HA, hw⟩ := hrel
    have hr := hA.later hw
    have hTr := hT.later hw
    by_cases hlt : k < l.length
    · obtain ⟨b, off, s, z, n, t, rfl, d0, d1, d2, d3, HX⟩ := hr.at' hlt
      have hg := hv k hlt
      rw [HX.out] at hg
      have ht : t.size ≤ 9223372036854775807 := hg.t
      clear hg
      cases hf : formedV ⟨z, n, t⟩
      · have HF : Hid ((!valsB l) = true) := by show _ = _; rw [valsB_bad hlt HX.out hf]; rfl
        have hbad : (!formedV ⟨z, n, t⟩) = true := by rw [hf]; rfl
        go_wp2_with (go_at_call 145; refine (badVal_any s t z n ht _ hTr).mono ?_; rintro e w1 ⟨rfl, hb⟩; replace hw := keepB hw hb)
        go_ret
        exact ⟨_, rfl, by rw [HF.out]; simp, hw⟩
      · have HF : Hid (valsB (l.take (k + 1)) = true) := valsB_next hlt HX.out hf HA.out
        have hbad : (!formedV ⟨z, n, t⟩) = false := by rw [hf]; rfl
        go_wp2_with (go_at_call 145; refine (badVal_any s t z n ht _ hTr).mono ?_; rintro e w1 ⟨rfl, hb⟩; replace hw := keepB hw hb)
        go_roundw
        case rel => exact ⟨k + 1, by omega, by go_num, HF, hw⟩
        case measure => simp [intOf]; omega
    · have ek : k = l.length := by omega
      have HF : Hid ((!valsB l) = false) := by show _ = _; have := HA.out; rw [ek, List.take_length] at this; rw [this]; rfl
      go_wp2
      go_ret
      exact ⟨_, rfl, by rw [HF.out]; simp, hw⟩
set_option maxRecDepth 100000 in
theorem contains_any (l : List Wr) (A : Option Addr) (ca : Nat) (w : World) (hA : WrsAt w A l) (hv : ∀ k, k < l.length → (l.getD k noWr).val.Good) (hn : l.length ≤ 9223372036854775807) (hT : Tabs w) :
    Calls Tryz.prog 144 #[.slice A l.length ca, .func (.func 145) #[] #[]] w fun e w' => e = .returned (.bool (!valsB l)) ∧ Below w.heap.size w w' := by
  go_enter Tryz.func144, Tryz.ntmps144
  go_wp2_with (go_at_call 181; refine (index_any l A ca _ hA hv hn hT).mono ?_; rintro e w1 ⟨z, rfl, hz, hb⟩; replace hz := Lib.hid hz)
  go_ret
  exact ⟨ret_bool hz.out.symm, hb⟩

theorem strs_left {w : World} {K : Option Addr} {L M : List ByteArray} (h : StrsAt w K (L ++ M)) : StrsAt w K L := by
  intro i hi
  obtain ⟨b, off, e, hc⟩ := h i (by rw [List.length_append]; omega)
  refine ⟨b, off, e, ?_⟩
  rw [hc]
  show some (Value.string ((L ++ M).getD i noStr)) = some (Value.string (L.getD i noStr))
  rw [List.getD_eq_getElem?_getD, List.getD_eq_getElem?_getD, List.getElem?_append_left hi]
theorem strs_right {w : World} {b off : Nat} {L M : List ByteArray} (h : StrsAt w (some ⟨b, off, none⟩) (L ++ M)) : StrsAt w (some ⟨b, off + L.length, none⟩) M := by
  intro i hi
  obtain ⟨b', off', e, hc⟩ := h (L.length + i) (by rw [List.length_append]; omega)
  injection e with e
  injection e with e1 e2
  subst e1 e2
  refine ⟨_, _, rfl, ?_⟩
  rw [Nat.add_assoc, hc]
  show some (Value.string ((L ++ M).getD (L.length + i) noStr)) = some (Value.string (M.getD i noStr))
  rw [List.getD_eq_getElem?_getD, List.getD_eq_getElem?_getD, List.getElem?_append_right (by omega), Nat.add_sub_cancel_left]
theorem rKeys_size {w : World} {t : Tx} {A B : Option Addr} (h : TxAt w t A B) : ∀ k, k < (rKeys t).length → ((rKeys t).getD k noStr).size ≤ 9223372036854775807 := by
  intro k hk
  have hk' : k < t.rds.length := by simpa [rKeys] using hk
  have := h.rk k hk'
  rw [List.getD_eq_getElem?_getD, List.getElem?_eq_getElem hk'] at this
  rw [List.getD_eq_getElem?_getD, List.getElem?_eq_getElem hk]
  simpa [rKeys] using this
theorem wKeys_size {w : World} {t : Tx} {A B : Option Addr} (h : TxAt w t A B) : ∀ k, k < (wKeys t).length → ((wKeys t).getD k noStr).size ≤ 9223372036854775807 := by
  intro k hk
  have hk' : k < t.wrs.length := by simpa [wKeys] using hk
  have := h.wk k hk'
  rw [List.getD_eq_getElem?_getD, List.getElem?_eq_getElem hk'] at this
  rw [List.getD_eq_getElem?_getD, List.getElem?_eq_getElem hk]
  simpa [wKeys] using this

theorem calls_bool {P : Program} {f : FuncId} {args : Array Value} {w : World} {z x : Bool} (e : z = x)
    (h : Calls P f args w fun e w' => e = .returned (.bool z) ∧ Below w.heap.size w w') :
    Calls P f args w fun e w' => e = .returned (.bool x) ∧ Below w.heap.size w w' := by
  rw [e] at h; exact h
theorem keys_at (t : Tx) (A B : Option Addr) (ca cb : Nat) (w : World) (h : TxAt w t A B) (hn : t.rds.length ≤ 6) (hm : t.wrs.length ≤ 6) (h0 : ¬ t.rds.length + t.wrs.length = 0) :
    Calls Tryz.prog 136 #[txV t A B ca cb] w fun e w' => ∃ (b off ck : Nat), e = .returned (.slice (some ⟨b, off, none⟩) (t.rds.length + t.wrs.length) ck) ∧ t.rds.length + t.wrs.length ≤ ck ∧ StrsAt w' (some ⟨b, off, none⟩) (rKeys t ++ wKeys t) ∧ Below w.heap.size w w' := by
  refine (keys_any t A B ca cb w h hn hm).mono ?_
  rintro e w' ⟨K, ck, rfl, hck, hK, hb⟩
  have hl : (rKeys t ++ wKeys t).length = t.rds.length + t.wrs.length := by simp [rKeys, wKeys]
  rw [hl] at hck ⊢
  obtain ⟨b, off, rfl, _⟩ := hK 0 (by omega)
  exact ⟨b, off, ck, rfl, hck, hK, hb⟩
theorem rises_left {t : Tx} {K : Option Addr} {ck : Nat} {w : World} (hK : StrsAt w K (rKeys t ++ wKeys t)) (h6 : t.rds.length ≤ 6) (hs : ∀ k, k < (rKeys t).length → ((rKeys t).getD k noStr).size ≤ 9223372036854775807) :
    Calls Tryz.prog 143 #[.slice K t.rds.length ck] w fun e w' => e = .returned (.bool (risesTo (rKeys t) (rKeys t).length)) ∧ Below w.heap.size w w' := by
  have hl : t.rds.length = (rKeys t).length := by simp [rKeys]
  rw [hl]
  exact rises_any _ _ _ _ (strs_left hK) (by omega) hs
theorem rises_right {t : Tx} {b off ck : Nat} {w : World} (hK : StrsAt w (some ⟨b, off, none⟩) (rKeys t ++ wKeys t)) (h6 : t.wrs.length ≤ 6) (hck : t.rds.length + t.wrs.length ≤ ck) (hs : ∀ k, k < (wKeys t).length → ((wKeys t).getD k noStr).size ≤ 9223372036854775807) (m c : Nat) (K' : Option Addr) (hm : m = t.wrs.length) (hK' : K' = if ck = t.rds.length then some ⟨b, off, none⟩ else some ⟨b, off + t.rds.length, none⟩) :
    Calls Tryz.prog 143 #[.slice K' m c] w fun e w' => e = .returned (.bool (risesTo (wKeys t) (wKeys t).length)) ∧ Below w.heap.size w w' := by
  have hl : t.wrs.length = (wKeys t).length := by simp [wKeys]
  have hl2 : t.rds.length = (rKeys t).length := by simp [rKeys]
  subst hm
  rw [hl]
  refine rises_any _ _ _ _ ?_ (by omega) hs
  subst hK'
  split
  · intro i hi
    omega
  · rw [hl2]
    exact strs_right hK

set_option maxRecDepth 100000 in
set_option maxHeartbeats 2000000 in
theorem txFormed_any (t : Tx) (A B : Option Addr) (ca cb : Nat) (w : World) (h : TxAt w t A B) (hT : Tabs w) :
    Calls Tryz.prog 97 #[txV t A B ca cb] w fun e w' => e = .returned (.bool (formedT t)) ∧ Below w.heap.size w w' := by
  unfold txV
  obtain ⟨W, eW, HB, c0, c1, c2, c3⟩ := box4 w (.int .i64 t.ses) (.int .i64 t.seq) (.slice A t.rds.length ca) (.slice B t.wrs.length cb) 37
  have h := h.later HB
  have hT := hT.later HB
  have HS1 := Lib.hid (rKeys_size h)
  have HS2 := Lib.hid (wKeys_size h)
  have HE : Hid (formedT t = (idB t.ses t.seq && decide (t.rds.length ≤ 6) && decide (t.wrs.length ≤ 6) && !decide (t.rds.length + t.wrs.length = 0) && risesTo (rKeys t) (rKeys t).length && risesTo (wKeys t) (wKeys t).length && valsB t.wrs)) := by
    show _ = _
    rw [formedT, show (rKeys t).length = t.rds.length by simp [rKeys], show (wKeys t).length = t.wrs.length by simp [wKeys]]
  have hrn := h.rn
  have hwn := h.wn
  cases hid : idB t.ses t.seq
  · have HF : Hid (formedT t = false) := by show _ = _; rw [HE.out, hid]; simp
    go_enter Tryz.func97, Tryz.ntmps97
    go_wp2_with (go_at_call 98; refine (id_any _ _ _).mono ?_; rintro e w1 ⟨rfl, hb⟩; replace HB := keepB HB hb)
    go_ret
    exact ⟨ret_bool HF.out, HB⟩
  · by_cases hn : t.rds.length ≤ 6
    · by_cases hm : t.wrs.length ≤ 6
      · by_cases h0 : t.rds.length + t.wrs.length = 0
        · have HF : Hid (formedT t = false) := by show _ = _; rw [HE.out]; simp [h0]
          have h0' : ((t.rds.length : Int) + (t.wrs.length : Int) == 0) = true := by simp; omega
          go_enter Tryz.func97, Tryz.ntmps97
          go_wp2_with (go_at_call 98; refine (id_any _ _ _).mono ?_; rintro e w1 ⟨rfl, hb⟩; replace c2 := keep hb c2; replace c3 := keep hb c3; replace HB := keepB HB hb)
          go_ret
          exact ⟨ret_bool HF.out, HB⟩
        · have HF : Hid (formedT t = (risesTo (rKeys t) (rKeys t).length && risesTo (wKeys t) (wKeys t).length && valsB t.wrs)) := by
            show _ = _
            rw [HE.out, hid, decide_eq_true hn, decide_eq_true hm, decide_eq_false h0]
            simp
          have h0' : ((t.rds.length : Int) + (t.wrs.length : Int) == 0) = false := by simp; omega
          have h0n := Lib.hid h0
          clear h0
          obtain ⟨r1, hr1⟩ : ∃ r, Hid (risesTo (rKeys t) (rKeys t).length = r) := ⟨_, rfl⟩
          obtain ⟨r2, hr2⟩ : ∃ r, Hid (risesTo (wKeys t) (wKeys t).length = r) := ⟨_, rfl⟩
          obtain ⟨r3, hr3⟩ : ∃ r, Hid ((!valsB t.wrs) = r) := ⟨_, rfl⟩
          have hvv : valsB t.wrs = !r3 := by rw [← hr3.out]; simp
          replace HF := Lib.hid HF.out
          rw [hr1.out, hr2.out, hvv] at HF
          clear hvv
          have hcase : r1 = false ∨ (r1 = true ∧ r2 = false) ∨ (r1 = true ∧ r2 = true) := by cases r1 <;> cases r2 <;> simp
          rcases hcase with rfl | ⟨rfl, rfl⟩ | ⟨rfl, rfl⟩
          · replace HF := Lib.hid (show formedT t = false by rw [HF.out]; simp)
            go_enter Tryz.func97, Tryz.ntmps97
            go_wp2_with (first
              | (go_at_call 98; refine (id_any _ _ _).mono ?_; rintro e w1 ⟨rfl, hb⟩; replace c0 := keep hb c0; replace c1 := keep hb c1; replace c2 := keep hb c2; replace c3 := keep hb c3; replace h := h.later hb; replace hT := hT.later hb; replace HB := keepB HB hb; clear hb)
              | (go_at_call 136; refine (keys_at t A B ca cb _ h hn hm h0n.out).mono ?_; rintro e w2 ⟨bk, ok, ck, rfl, hck, hK, hb⟩; replace c2 := keep hb c2; replace c3 := keep hb c3; replace h := h.later hb; replace hT := hT.later hb; replace HB := keepB HB hb; clear hb; have hck' : t.rds.length ≤ ck := (by omega))
              | (go_at_call 143; refine (calls_bool hr2.out (rises_right hK hm hck HS2.out _ _ _ (by omega) (by rfl))).mono ?_; rintro e w4 ⟨rfl, hb⟩; replace c3 := keep hb c3; replace h := h.later hb; replace hT := hT.later hb; replace HB := keepB HB hb; clear hb)
              | (go_at_call 143; refine (calls_bool hr1.out (rises_left hK hn HS1.out)).mono ?_; rintro e w3 ⟨rfl, hb⟩; replace c3 := keep hb c3; replace h := h.later hb; replace hT := hT.later hb; replace hK := CellsAt.later hK hb; replace HB := keepB HB hb; clear hb)
              | (go_at_call 144; refine (calls_bool hr3.out (contains_any t.wrs B cb _ h.wrs h.wv h.wn hT)).mono ?_; rintro e w5 ⟨rfl, hb⟩; replace HB := keepB HB hb; clear hb))
            all_goals go_ret
            all_goals exact ⟨ret_bool HF.out, HB⟩
          · replace HF := Lib.hid (show formedT t = false by rw [HF.out]; simp)
            go_enter Tryz.func97, Tryz.ntmps97
            go_wp2_with (first
              | (go_at_call 98; refine (id_any _ _ _).mono ?_; rintro e w1 ⟨rfl, hb⟩; replace c0 := keep hb c0; replace c1 := keep hb c1; replace c2 := keep hb c2; replace c3 := keep hb c3; replace h := h.later hb; replace hT := hT.later hb; replace HB := keepB HB hb; clear hb)
              | (go_at_call 136; refine (keys_at t A B ca cb _ h hn hm h0n.out).mono ?_; rintro e w2 ⟨bk, ok, ck, rfl, hck, hK, hb⟩; replace c2 := keep hb c2; replace c3 := keep hb c3; replace h := h.later hb; replace hT := hT.later hb; replace HB := keepB HB hb; clear hb; have hck' : t.rds.length ≤ ck := (by omega))
              | (go_at_call 143; refine (calls_bool hr2.out (rises_right hK hm hck HS2.out _ _ _ (by omega) (by rfl))).mono ?_; rintro e w4 ⟨rfl, hb⟩; replace c3 := keep hb c3; replace h := h.later hb; replace hT := hT.later hb; replace HB := keepB HB hb; clear hb)
              | (go_at_call 143; refine (calls_bool hr1.out (rises_left hK hn HS1.out)).mono ?_; rintro e w3 ⟨rfl, hb⟩; replace c3 := keep hb c3; replace h := h.later hb; replace hT := hT.later hb; replace hK := CellsAt.later hK hb; replace HB := keepB HB hb; clear hb)
              | (go_at_call 144; refine (calls_bool hr3.out (contains_any t.wrs B cb _ h.wrs h.wv h.wn hT)).mono ?_; rintro e w5 ⟨rfl, hb⟩; replace HB := keepB HB hb; clear hb))
            all_goals go_ret
            all_goals exact ⟨ret_bool HF.out, HB⟩
          · cases r3
            all_goals
              go_enter Tryz.func97, Tryz.ntmps97
              go_wp2_with (first
                | (go_at_call 98; refine (id_any _ _ _).mono ?_; rintro e w1 ⟨rfl, hb⟩; replace c0 := keep hb c0; replace c1 := keep hb c1; replace c2 := keep hb c2; replace c3 := keep hb c3; replace h := h.later hb; replace hT := hT.later hb; replace HB := keepB HB hb; clear hb)
                | (go_at_call 136; refine (keys_at t A B ca cb _ h hn hm h0n.out).mono ?_; rintro e w2 ⟨bk, ok, ck, rfl, hck, hK, hb⟩; replace c2 := keep hb c2; replace c3 := keep hb c3; replace h := h.later hb; replace hT := hT.later hb; replace HB := keepB HB hb; clear hb; have hck' : t.rds.length ≤ ck := (by omega))
                | (go_at_call 143; refine (calls_bool hr2.out (rises_right hK hm hck HS2.out _ _ _ (by omega) (by rfl))).mono ?_; rintro e w4 ⟨rfl, hb⟩; replace c3 := keep hb c3; replace h := h.later hb; replace hT := hT.later hb; replace HB := keepB HB hb; clear hb)
                | (go_at_call 143; refine (calls_bool hr1.out (rises_left hK hn HS1.out)).mono ?_; rintro e w3 ⟨rfl, hb⟩; replace c3 := keep hb c3; replace h := h.later hb; replace hT := hT.later hb; replace hK := CellsAt.later hK hb; replace HB := keepB HB hb; clear hb)
                | (go_at_call 144; refine (calls_bool hr3.out (contains_any t.wrs B cb _ h.wrs h.wv h.wn hT)).mono ?_; rintro e w5 ⟨rfl, hb⟩; replace HB := keepB HB hb; clear hb))
              all_goals go_ret
              all_goals exact ⟨ret_bool HF.out, HB⟩
      · have HF : Hid (formedT t = false) := by show _ = _; rw [HE.out]; simp [hm]
        go_enter Tryz.func97, Tryz.ntmps97
        go_wp2_with (go_at_call 98; refine (id_any _ _ _).mono ?_; rintro e w1 ⟨rfl, hb⟩; replace c2 := keep hb c2; replace c3 := keep hb c3; replace HB := keepB HB hb)
        go_ret
        exact ⟨ret_bool HF.out, HB⟩
    · have HF : Hid (formedT t = false) := by show _ = _; rw [HE.out]; simp [hn]
      go_enter Tryz.func97, Tryz.ntmps97
      go_wp2_with (go_at_call 98; refine (id_any _ _ _).mono ?_; rintro e w1 ⟨rfl, hb⟩; replace c2 := keep hb c2; replace c3 := keep hb c3; replace HB := keepB HB hb)
      go_ret
      exact ⟨ret_bool HF.out, HB⟩
end Go.Proofs.YtjgloipgnnigmaaGreatDoor
/- config.Formed and the reference's Formed: both tell formedB of every configuration. -/
namespace Go.Proofs.YtjgloipgnnigmaaGreatDoor
open Go.RowKit Go.Shelf

set_option maxHeartbeats 1000000 in
theorem formed_any (c : Cfg) (A B : Option Addr) (ca cb : Nat) (w : World) (h : CfgAt w c A B) :
    Calls Tryz.prog 55 #[.agg #[.slice A c.reps.length ca, .slice B c.bnds.length cb]] w fun e w' => e = .returned (.bool (formedB c)) ∧ Below w.heap.size w w' := by
  cases hz : sizesB c
  · rw [formed_sizes hz]
    have hn := h.hn
    have hm := h.hm
    by_cases z1 : 1 ≤ c.reps.length
    · by_cases z2 : c.reps.length ≤ 4
      · have z3 : c.bnds.length + 1 ≠ c.reps.length := by
          intro e
          simp [sizesB, z1, z2, e] at hz
        have z3' : ((c.bnds.length : Int) != (c.reps.length : Int) - 1) = true := by rw [bne_iff_ne]; omega
        clear hz z3
        obtain ⟨W, eW, HB, c0, c1⟩ := box2 w (.slice A c.reps.length ca) (.slice B c.bnds.length cb) 25
        go_enter Tryz.func55, Tryz.ntmps55
        go_wp2
        go_ret
        exact ⟨rfl, HB⟩
      · clear hz
        obtain ⟨W, eW, HB, c0, c1⟩ := box2 w (.slice A c.reps.length ca) (.slice B c.bnds.length cb) 25
        go_enter Tryz.func55, Tryz.ntmps55
        go_wp2
        go_ret
        exact ⟨rfl, HB⟩
    · clear hz
      obtain ⟨W, eW, HB, c0, c1⟩ := box2 w (.slice A c.reps.length ca) (.slice B c.bnds.length cb) 25
      go_enter Tryz.func55, Tryz.ntmps55
      go_wp2
      go_ret
      exact ⟨rfl, HB⟩
  · have h1 : 1 ≤ c.reps.length ∧ c.reps.length ≤ 4 ∧ c.bnds.length + 1 = c.reps.length := by simpa [sizesB, and_assoc] using hz
    obtain ⟨z1, z2, z3⟩ := h1
    have z3' : ((c.bnds.length : Int) != (c.reps.length : Int) - 1) = false := by rw [bne_eq_false_iff_eq]; omega
    have zm : c.bnds.length ≤ 3 := by omega
    have HZ := Lib.hid hz
    clear z3 hz
    obtain ⟨W, eW, HB, c0, c1⟩ := box2 w (.slice A c.reps.length ca) (.slice B c.bnds.length cb) 25
    have h := h.later HB
    go_enter Tryz.func55, Tryz.ntmps55
    go_wp2_with fail
    clear eW z3'
    go_loop [30] (fun i => ∃ k : Nat, k ≤ c.reps.length ∧ i = .int .i64 k ∧ Hid (repsTo c.reps k = true)) (fun i => c.reps.length - (intOf i).toNat)
    case atStart => exact ⟨0, Nat.zero_le _, rfl, rfl⟩
    case round =>
      obtain ⟨k, hk, rfl, HA⟩ := hrel
      by_cases hlt : k < c.reps.length
      · obtain ⟨b, off, x, rfl, hc, HX⟩ := IntsAt.at' h.ints hlt
        cases hr : repOK x
        · have HF : Hid (formedB c = false) := formed_rep hlt (by rw [HX.out]; exact hr)
          have n1 : (x != 1) = true := by rw [bne_iff_ne]; rintro rfl; exact absurd hr (by decide)
          have n3 : (x != 3) = true := by rw [bne_iff_ne]; rintro rfl; exact absurd hr (by decide)
          have n5 : (x != 5) = true := by rw [bne_iff_ne]; rintro rfl; exact absurd hr (by decide)
          clear hr
          go_wp2
          go_ret
          exact ⟨ret_bool HF.out, HB⟩
        · have HR : Hid (repsTo c.reps (k + 1) = true) := by show _ = _; simp only [repsTo, HA.out, HX.out, hr, Bool.and_self]
          have hor : x = 1 ∨ x = 3 ∨ x = 5 := by simpa [repOK, or_assoc] using hr
          clear hr
          rcases hor with rfl | rfl | rfl
          all_goals
            go_wp2
            go_round
            case rel => exact ⟨k + 1, by omega, by go_num, HR⟩
            case measure => simp [intOf]; omega
      · have ek : k = c.reps.length := by omega
        have HR : Hid (repsTo c.reps c.reps.length = true) := by rw [← ek]; exact HA
        clear HA
        go_wp2
        go_loopw [48] (fun i wr => ∃ k : Nat, k ≤ c.bnds.length ∧ i = .int .i64 k ∧ Hid (risesTo c.bnds k = true) ∧ Below W.heap.size W wr) (fun i _ => c.bnds.length - (intOf i).toNat)
        case atStart => exact ⟨0, Nat.zero_le _, rfl, rfl, Below.refl _ _⟩
        case round =>
          obtain ⟨k, hk, rfl, HA, hw⟩ := hrel
          have hB := keepB HB hw
          have h := h.later hw
          replace c0 := keep hw c0
          replace c1 := keep hw c1
          by_cases hlt : k < c.bnds.length
          · obtain ⟨b, off, x, rfl, hc, HX⟩ := StrsAt.at' h.strs hlt
            have hsx : x.size ≤ maxLen := by have := h.hs k hlt; rw [HX.out] at this; exact this
            cases hkey : keyB x
            · have HF : Hid (formedB c = false) := formed_bnd hlt (by simp only [riseAt, HX.out, hkey, Bool.false_and])
              go_wp2_with (go_at_call 36; refine (key_any _ _ hsx).mono ?_; rintro e w2 ⟨rfl, hb⟩; replace hB := keepB hB hb)
              go_ret
              exact ⟨ret_bool HF.out, hB⟩
            · by_cases hk0 : k = 0
              · have HR : Hid (risesTo c.bnds (k + 1) = true) := risesTo_next0 HA.out HX.out hkey hk0
                have hg : decide (0 < k) = false := by rw [decide_eq_false_iff_not]; omega
                clear hk0
                go_wp2_with (go_at_call 36; refine (key_any _ _ hsx).mono ?_; rintro e w2 ⟨rfl, hb⟩; replace hw := hw.trans (hb.mono hw.size))
                go_roundw
                case rel => exact ⟨k + 1, by omega, by go_num, HR, hw⟩
                case measure => simp [intOf]; omega
              · obtain ⟨b', off', y, e, hc', HY⟩ := StrsAt.at' h.strs (k := k - 1) (by omega)
                injection e with e
                injection e with e1 e2
                subst e1 e2
                have hg : decide (0 < k) = true := by rw [decide_eq_true_iff]; omega
                have hi : ((k : Int) - 1).toNat = k - 1 := by omega
                have hk1 : 1 ≤ k := by omega
                cases hl : lessS y x
                · have HF : Hid (formedB c = false) := formed_bnd hlt (by simp only [riseAt, HX.out, HY.out, hkey, hl, beq_eq_false_iff_ne.2 hk0, Bool.false_or, Bool.and_false])
                  have hl' : Op.bytesLess y.toList x.toList = false := hl
                  clear hl hk0
                  go_wp2_with (go_at_call 36; refine (key_any _ _ hsx).mono ?_; rintro e w2 ⟨rfl, hb⟩; replace hc' := keep hb hc'; replace c1 := keep hb c1; replace hB := keepB hB hb)
                  go_ret
                  exact ⟨ret_bool HF.out, hB⟩
                · have HR : Hid (risesTo c.bnds (k + 1) = true) := risesTo_next HA.out HX.out HY.out hkey hl
                  have hl' : Op.bytesLess y.toList x.toList = true := hl
                  clear hl hk0
                  go_wp2_with (go_at_call 36; refine (key_any _ _ hsx).mono ?_; rintro e w2 ⟨rfl, hb⟩; replace hc' := keep hb hc'; replace c1 := keep hb c1; replace hw := hw.trans (hb.mono hw.size))
                  go_roundw
                  case rel => exact ⟨k + 1, by omega, by go_num, HR, hw⟩
                  case measure => simp [intOf]; omega
          · have ek : k = c.bnds.length := by omega
            have HF : Hid (formedB c = true) := formed_all HZ.out HR.out (by rw [← ek]; exact HA.out)
            go_wp2
            go_ret
            exact ⟨ret_bool HF.out, hB⟩
end Go.Proofs.YtjgloipgnnigmaaGreatDoor
/- The reference's Formed of layer 7: formedB of every configuration. -/
namespace Go.Proofs.YtjgloipgnnigmaaGreatDoor
open Go.RowKit Go.Shelf

set_option maxHeartbeats 1000000 in
theorem refFormed_any (c : Cfg) (A B : Option Addr) (ca cb : Nat) (w : World) (h : CfgAt w c A B) :
    Calls Tryz.prog 21 #[.agg #[.slice A c.reps.length ca, .slice B c.bnds.length cb]] w fun e w' => e = .returned (.bool (formedB c)) ∧ Below w.heap.size w w' := by
  obtain ⟨W, eW, HB, c0, c1⟩ := box2 w (.slice A c.reps.length ca) (.slice B c.bnds.length cb) 25
  cases hz : sizesB c
  · rw [formed_sizes hz]
    have hn := h.hn
    have hm := h.hm
    by_cases z1 : 1 ≤ c.reps.length
    · by_cases z2 : c.reps.length ≤ 4
      · have z3 : c.bnds.length + 1 ≠ c.reps.length := by
          intro e
          simp [sizesB, z1, z2, e] at hz
        have z3' : ((c.bnds.length : Int) != (c.reps.length : Int) - 1) = true := by rw [bne_iff_ne]; omega
        clear hz z3
        go_enter Tryz.func21, Tryz.ntmps21
        go_wp2
        go_ret
        exact ⟨rfl, HB⟩
      · clear hz
        go_enter Tryz.func21, Tryz.ntmps21
        go_wp2
        go_ret
        exact ⟨rfl, HB⟩
    · clear hz
      go_enter Tryz.func21, Tryz.ntmps21
      go_wp2
      go_ret
      exact ⟨rfl, HB⟩
  · have h1 : 1 ≤ c.reps.length ∧ c.reps.length ≤ 4 ∧ c.bnds.length + 1 = c.reps.length := by simpa [sizesB, and_assoc] using hz
    obtain ⟨z1, z2, z3⟩ := h1
    have z3' : ((c.bnds.length : Int) != (c.reps.length : Int) - 1) = false := by rw [bne_eq_false_iff_eq]; omega
    have zm : c.bnds.length ≤ 3 := by omega
    have HZ := Lib.hid hz
    have HZ3 := Lib.hid z3
    clear z3 hz
    have h := h.later HB
    go_enter Tryz.func21, Tryz.ntmps21
    go_wp2_with fail
    clear eW z3'
    go_loop [4] (fun i => ∃ k : Nat, k ≤ c.reps.length ∧ i = .int .i64 k ∧ Hid (repsTo c.reps k = true)) (fun i => c.reps.length - (intOf i).toNat)
    case atStart => exact ⟨0, Nat.zero_le _, rfl, rfl⟩
    case round =>
      obtain ⟨k, hk, rfl, HA⟩ := hrel
      by_cases hlt : k < c.reps.length
      · obtain ⟨b, off, x, rfl, hc, HX⟩ := IntsAt.at' h.ints hlt
        cases hr : repOK x
        · have HF : Hid (formedB c = false) := formed_rep hlt (by rw [HX.out]; exact hr)
          have n1 : (x != 1) = true := by rw [bne_iff_ne]; rintro rfl; exact absurd hr (by decide)
          have n3 : (x != 3) = true := by rw [bne_iff_ne]; rintro rfl; exact absurd hr (by decide)
          have n5 : (x != 5) = true := by rw [bne_iff_ne]; rintro rfl; exact absurd hr (by decide)
          clear hr
          go_wp2
          go_ret
          exact ⟨ret_bool HF.out, HB⟩
        · have HR : Hid (repsTo c.reps (k + 1) = true) := by show _ = _; simp only [repsTo, HA.out, HX.out, hr, Bool.and_self]
          have hor : x = 1 ∨ x = 3 ∨ x = 5 := by simpa [repOK, or_assoc] using hr
          clear hr
          rcases hor with rfl | rfl | rfl
          all_goals
            go_wp2
            go_round
            case rel => exact ⟨k + 1, by omega, by go_num, HR⟩
            case measure => simp [intOf]; omega
      · have ek : k = c.reps.length := by omega
        have HR : Hid (repsTo c.reps c.reps.length = true) := by rw [← ek]; exact HA
        clear HA
        go_wp2
        go_loopw [5] (fun i wr => ∃ k : Nat, k ≤ c.bnds.length ∧ i = .int .i64 k ∧ Hid (risesTo c.bnds k = true) ∧ Below W.heap.size W wr) (fun i _ => c.bnds.length - (intOf i).toNat)
        case atStart => exact ⟨0, Nat.zero_le _, rfl, rfl, Below.refl _ _⟩
        case round =>
          obtain ⟨k, hk, rfl, HA, hw⟩ := hrel
          have hB := keepB HB hw
          have h := h.later hw
          replace c0 := keep hw c0
          replace c1 := keep hw c1
          have hk2 := HZ3.out
          by_cases hlt : k < c.bnds.length
          · obtain ⟨b, off, x, rfl, hc, HX⟩ := StrsAt.at' h.strs hlt
            have hlt2 : (k : Int) < (c.reps.length : Int) - 1 := by omega
            clear hk2
            have hsx : x.size ≤ maxLen := by have := h.hs k hlt; rw [HX.out] at this; exact this
            have hki : (k : Int) < (c.bnds.length : Int) := by omega
            cases hkey : keyB x
            · have HF : Hid (formedB c = false) := formed_bnd hlt (by simp only [riseAt, HX.out, hkey, Bool.false_and])
              go_wp2
              go_quiet ((go_at_call 56; exact quiet_left (refKey_any _ _ hsx)))
              go_wp2
              go_ret
              exact ⟨ret_bool HF.out, below_drewN hB _⟩
            · by_cases hk0 : k = 0
              · have HR : Hid (risesTo c.bnds (k + 1) = true) := risesTo_next0 HA.out HX.out hkey hk0
                have hg : decide (0 < k) = false := by rw [decide_eq_false_iff_not]; omega
                clear hk0
                go_wp2
                go_quiet ((go_at_call 56; exact quiet_left (refKey_any _ _ hsx)))
                go_wp2
                go_roundw
                case rel => exact ⟨k + 1, by omega, by go_num, HR, below_drewN hw _⟩
                case measure => simp [intOf]; omega
              · obtain ⟨b', off', y, e, hc', HY⟩ := StrsAt.at' h.strs (k := k - 1) (by omega)
                injection e with e
                injection e with e1 e2
                subst e1 e2
                have hg : decide (0 < k) = true := by rw [decide_eq_true_iff]; omega
                have hi : ((k : Int) - 1).toNat = k - 1 := by omega
                have hk1 : 1 ≤ k := by omega
                have hk1i : (1 : Int) ≤ (k : Int) := by omega
                have hk2i : (k : Int) - 1 < (c.bnds.length : Int) := by omega
                cases hl : lessS y x
                · have HF : Hid (formedB c = false) := formed_bnd hlt (by simp only [riseAt, HX.out, HY.out, hkey, hl, beq_eq_false_iff_ne.2 hk0, Bool.false_or, Bool.and_false])
                  have hl' : (Op.bytesLess x.toList y.toList || x.toList == y.toList) = true := lessS_no hl
                  clear hl hk0
                  go_wp2
                  go_quiet ((go_at_call 56; exact quiet_left (refKey_any _ _ hsx)))
                  go_wp2
                  go_ret
                  exact ⟨ret_bool HF.out, below_drewN hB _⟩
                · have HR : Hid (risesTo c.bnds (k + 1) = true) := risesTo_next HA.out HX.out HY.out hkey hl
                  have hl' : (Op.bytesLess x.toList y.toList || x.toList == y.toList) = false := lessS_yes hl
                  clear hl hk0
                  go_wp2
                  go_quiet ((go_at_call 56; exact quiet_left (refKey_any _ _ hsx)))
                  go_wp2
                  go_roundw
                  case rel => exact ⟨k + 1, by omega, by go_num, HR, below_drewN hw _⟩
                  case measure => simp [intOf]; omega
          · have ek : k = c.bnds.length := by omega
            have hlt2 : ¬ (k : Int) < (c.reps.length : Int) - 1 := by omega
            clear hk2
            have HF : Hid (formedB c = true) := formed_all HZ.out HR.out (by rw [← ek]; exact HA.out)
            clear ek
            go_wp2
            go_ret
            exact ⟨ret_bool HF.out, hB⟩
end Go.Proofs.YtjgloipgnnigmaaGreatDoor
