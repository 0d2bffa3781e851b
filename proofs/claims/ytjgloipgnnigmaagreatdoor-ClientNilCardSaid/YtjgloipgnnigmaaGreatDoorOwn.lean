/- Slices that a call owns: they stay in later worlds, and read as lists. Plain lists: what slices.Sort and slices.Compact make of a list of ints. -/
import Derived.Test.YtjgloipgnnigmaaGreatDoorModel07
import Derived.Laws.AppendOwn
import Derived.Lib.SlicesCompact
namespace Go.Proofs.YtjgloipgnnigmaaGreatDoor
open Go.RowKit

theorem own_keep {w w1 : World} {base n size : Nat} {e : TypeId} {v : Value} {xs : List Value} (h : w.ownsRow base e size v n xs) (hb : Below w.heap.size w w1) : w1.ownsRow base e size v n xs := by
  refine ⟨h.1, ?_⟩
  rcases h.2 with h2 | ⟨g, cap, cur, hv, hg, hh, r⟩
  · exact .inl h2
  · exact .inr ⟨g, cap, cur, hv, hg, by rw [hb.block g (Array.getElem?_eq_some_iff.1 hh).1]; exact hh, r⟩
theorem own_nil (w : World) (base size : Nat) (e : TypeId) : w.ownsRow base e size (.slice none 0 0) 0 [] := ⟨by simp, .inl ⟨rfl, rfl⟩⟩

theorem own_ge {w : World} {base n size : Nat} {e : TypeId} {v : Value} {xs : List Value} (h : w.ownsRow base e size v n xs) : ∀ k, v.ownBlock = some k → base ≤ k := by
  rcases h.2 with ⟨rfl, _⟩ | ⟨g, cap, cur, rfl, hg, _⟩
  · intro k hk; cases hk
  · intro k hk; simp [Value.ownBlock] at hk; omega
/-- Behind an append (or a sort) of what is owned: all below the base is as it was. -/
theorem own_below {a w w' : World} {base n size : Nat} {e : TypeId} {v : Value} {xs : List Value} (h : Below base a w) (hB : base ≤ a.heap.size) (ho : w.ownsRow base e size v n xs) (hg : w.grownBy w' v.ownBlock) : Below base a w' :=
  h.grown hg (Nat.le_trans hB h.size) (own_ge ho)
theorem calls_int {P : Program} {f : FuncId} {args : Array Value} {w : World} {z x : Int} (e : z = x)
    (h : Calls P f args w fun e w' => e = .returned (.int .i64 z) ∧ Below w.heap.size w w') :
    Calls P f args w fun e w' => e = .returned (.int .i64 x) ∧ Below w.heap.size w w' := by
  rw [e] at h; exact h
theorem one_cell_int {k : IntKind} {x : Int} : ∀ u ∈ [Value.int k x], u.oneCell' = true := fun u hu => by
  cases List.mem_singleton.1 hu; rfl
theorem one_cell_str {x : ByteArray} : ∀ u ∈ [Value.string x], u.oneCell' = true := fun u hu => by
  cases List.mem_singleton.1 hu; rfl
theorem le_maxLen {n : Nat} (h : n ≤ 1000000) : n ≤ maxLen := by unfold maxLen; omega
/-- A list of ints handed back, in memory of the call's own. -/
def IntsPost (w : World) (l : List Int) (e : Ending) (w' : World) : Prop :=
  ∃ (A : Option Addr) (cap : Nat), e = .returned (.slice A l.length cap) ∧ IntsAt w' A l ∧ Below w.heap.size w w'

/-- What is owned, as cells: one cell an element. -/
theorem own_cells {w : World} {base n : Nat} {e : TypeId} {v : Value} {f : Nat → Value} (h : w.ownsRow base e 1 v n ((List.range n).map f)) :
    ∃ (A : Option Addr) (cap : Nat), v = .slice A n cap ∧ n ≤ cap ∧ CellsAt w A n f := by
  rcases h.2 with ⟨rfl, rfl⟩ | ⟨g, cap, cur, rfl, _, hh, hn, _, _, ht⟩
  · exact ⟨none, 0, rfl, by omega, fun i hi => by omega⟩
  · refine ⟨some ⟨g, 0, none⟩, cap, rfl, hn, fun i hi => ⟨g, 0, rfl, ?_⟩⟩
    have h1 : (cur.toList.take (n * 1))[i]? = ((List.range n).map f)[i]? := by rw [ht]
    rw [List.getElem?_take_of_lt (by omega)] at h1
    simp only [World.cell?, hh, Nat.zero_add, Option.isSome_none, Bool.false_eq_true, if_false]
    rw [← Array.getElem?_toList, h1]
    simp [hi]
theorem map_range_getD {α : Type} (l : List α) (d : α) (g : α → Value) : l.map g = (List.range l.length).map fun i => g (l.getD i d) := by
  apply List.ext_getElem
  · simp
  · intro i h1 h2
    have hi : i < l.length := by simpa using h1
    simp [List.getD_eq_getElem?_getD, hi]
theorem own_ints {w : World} {base : Nat} {e : TypeId} {v : Value} {l : List Int} (h : w.ownsRow base e 1 v l.length (l.map (Value.int .i64))) :
    ∃ (A : Option Addr) (cap : Nat), v = .slice A l.length cap ∧ l.length ≤ cap ∧ IntsAt w A l := by
  rw [map_range_getD l 0] at h
  exact own_cells h
theorem own_strs {w : World} {base : Nat} {e : TypeId} {v : Value} {l : List ByteArray} (h : w.ownsRow base e 1 v l.length (l.map Value.string)) :
    ∃ (A : Option Addr) (cap : Nat), v = .slice A l.length cap ∧ l.length ≤ cap ∧ StrsAt w A l := by
  rw [map_range_getD l noStr] at h
  exact own_cells h

section
variable {P : Program} {w : World}
theorem append_nil_run (w : World) (base : Nat) (t ty e : TypeId) (i : TypeInfo) (size : Nat) (ht : P.underlying t = some (.slice e)) (hi : P.info? e = some i)
    (v : Value) (n : Nat) (xs : List Value) (hown : w.ownsRow base e size v n xs) (c : Nat) : (Builtin.append_ #[t, t] ty #[v, .slice none 0 c]).run P w = .ok v w := by
  rcases hown.2 with ⟨rfl, rfl⟩ | ⟨g, cap, cur, rfl, _, _, hnc, _⟩
  · simp [Builtin.append_, run_underlying ht, sizeOf, typeInfo, hi, Builtin.lenOf, Builtin.firstCells]
  · simp [Builtin.append_, run_underlying ht, sizeOf, typeInfo, hi, Builtin.lenOf, Builtin.firstCells, hnc, storeCells]
/-- append(v, keys...) where v is owned and keys are a slice of strings, nil let in. -/
theorem wpList_append_strs {ops : Array Oper} {rest : List Oper} {o : Oper} {a : Act} {Q : Exit → Act → World → Prop} (hgd : o.guard = none) (s x : Operand) (t : TypeId)
    (ho : o.op = .call { callee := .builtin .append, args := #[s, x], argTypes := #[t, t] })
    (base : Nat) (e : TypeId) (i : TypeInfo) (z : Value) (bytes : Nat) (ht : P.underlying t = some (.slice e)) (hi : P.info? e = some i) (hz : i.zero = some z)
    (hsize : i.size = 1) (hby : i.bytes = bytes) (hzs : z.cells.size = 1)
    (v : Value) (n : Nat) (xs : List Value) (hs : a.eval s = v) (hown : w.ownsRow base e 1 v n xs)
    (K : Option Addr) (keys : List ByteArray) (c : Nat) (hx : a.eval x = .slice K keys.length c) (hK : StrsAt w K keys)
    (h63 : n + keys.length ≤ maxLen) (hbytes : (n + keys.length) * bytes ≤ 140737488355328) (hbase : base ≤ w.heap.size)
    (h : ∀ v' w', w'.ownsRow base e 1 v' (n + keys.length) (xs ++ keys.map Value.string) → w.grownBy w' v.ownBlock → wpList P ops Q rest (a.put o.dst v') w') : wpList P ops Q (o :: rest) a w := by
  by_cases h0 : 0 < keys.length
  · obtain ⟨b, off, rfl, _⟩ := hK 0 h0
    refine wpList_append_own w hgd s x t ho base e i z 1 bytes ht hi hz hsize hby hzs (by decide) v n xs hs hown ⟨b, off, none⟩ keys.length c (keys.map Value.string) hx (by simp) (fun j u hu => ?_) (fun u hu => ?_) h63 hbytes hbase (fun v' w' h1 h2 _ => h v' w' h1 h2)
    · have hj : j < keys.length := by
        rcases Nat.lt_or_ge j keys.length with q | q
        · exact q
        · rw [List.getElem?_eq_none (by simpa using q)] at hu; cases hu
      obtain ⟨b', off', e', hc⟩ := hK j hj
      cases e'
      rw [Go.WideShapes.add_plain, hc, ← hu]
      simp [List.getD_eq_getElem?_getD, hj]
    · obtain ⟨s', _, rfl⟩ := List.mem_map.1 hu
      rfl
  · have hk : keys = [] := List.eq_nil_of_length_eq_zero (by omega)
    subst hk
    cases K with
    | some ad =>
      exact wpList_append_own w hgd s x t ho base e i z 1 bytes ht hi hz hsize hby hzs (by decide) v n xs hs hown ad 0 c [] hx (by simp) (fun j u hu => by simp at hu) (fun u hu => by simp at hu) h63 hbytes hbase (fun v' w' h1 h2 _ => h v' w' h1 h2)
    | none =>
      refine wpList_plain hgd fun _ hK' => ?_
      have hrun := append_nil_run w base t o.type e i 1 ht hi v n xs hown c
      unfold Oper.wp execOp
      have hx' : a.eval x = .slice none 0 c := hx
      simp only [ho, resolve, invoke, builtin, Sem.run_bind, Sem.run_pure, Result.andThen_ok, List.map_toArray, List.map_cons, List.map_nil, hs, hx', hrun]
      exact hK' _ _ (h v w (by simpa using hown) (World.grownBy.refl w _))
end

/-! ### Plain lists -/
/-- Two rising lists with the same members are one. -/
theorem rising_ext : ∀ {l m : List Int}, l.Pairwise (· < ·) → m.Pairwise (· < ·) → (∀ x, x ∈ l ↔ x ∈ m) → l = m
  | [], [], _, _, _ => rfl
  | [], b :: m, _, _, h => by simpa using (h b).2 (by simp)
  | a :: l, [], _, _, h => by simpa using (h a).1 (by simp)
  | a :: l, b :: m, hl, hm, h => by
    rw [List.pairwise_cons] at hl hm
    have hab : a = b := by
      have h1 := (h a).1 (by simp)
      have h2 := (h b).2 (by simp)
      simp only [List.mem_cons] at h1 h2
      rcases h1 with rfl | h1
      · rfl
      · rcases h2 with rfl | h2
        · rfl
        · have := hm.1 a h1; have := hl.1 b h2; omega
    subst hab
    congr 1
    refine rising_ext hl.2 hm.2 (fun x => ?_)
    constructor
    · intro hx
      have := (h x).1 (by simp [hx])
      simp only [List.mem_cons] at this
      rcases this with rfl | this
      · exact absurd (hl.1 x hx) (by omega)
      · exact this
    · intro hx
      have := (h x).2 (by simp [hx])
      simp only [List.mem_cons] at this
      rcases this with rfl | this
      · exact absurd (hm.1 x hx) (by omega)
      · exact this

theorem compact_spec (d : Array Int) (hs : ∀ i j, i < j → j < d.size → d[i]! ≤ d[j]!) : ∀ m, m ≤ d.size →
    (Lib.compactUpTo d m).Pairwise (· < ·) ∧ ∀ x, x ∈ Lib.compactUpTo d m ↔ ∃ j, j < m ∧ d[j]! = x
  | 0, _ => by simp [Lib.compactUpTo]
  | m + 1, hm => by
    obtain ⟨h1, h2⟩ := compact_spec d hs m (by omega)
    rw [Lib.compactUpTo_succ]
    cases hk : Lib.keeps d m
    · have hne : m ≠ 0 ∧ d[m]! = d[m - 1]! := by
        have := hk
        simp only [Lib.keeps, decide_eq_false_iff_not, not_or, ne_eq, Decidable.not_not] at this
        exact this
      simp only [Bool.false_eq_true, if_false, List.append_nil]
      refine ⟨h1, fun x => ?_⟩
      rw [h2]
      constructor
      · rintro ⟨j, hj, e⟩; exact ⟨j, by omega, e⟩
      · rintro ⟨j, hj, e⟩
        by_cases ej : j = m
        · subst ej; exact ⟨j - 1, by omega, by rw [← hne.2]; exact e⟩
        · exact ⟨j, by omega, e⟩
    · simp only [if_true]
      refine ⟨?_, fun x => ?_⟩
      · rw [List.pairwise_append]
        refine ⟨h1, by simp, fun a ha b hb => ?_⟩
        simp only [List.mem_singleton] at hb
        subst hb
        obtain ⟨j, hj, rfl⟩ := (h2 a).1 ha
        have hle := hs j m hj (by omega)
        have hne : m = 0 ∨ d[m]! ≠ d[m - 1]! := by simpa [Lib.keeps] using hk
        rcases hne with e | hne
        · omega
        · by_cases ej : j = m - 1
          · subst ej; omega
          · have q1 := hs j (m - 1) (by omega) (by omega)
            have q2 := hs (m - 1) m (by omega) (by omega)
            omega
      · rw [List.mem_append, h2]
        simp only [List.mem_singleton]
        constructor
        · rintro (⟨j, hj, e⟩ | e)
          · exact ⟨j, by omega, e⟩
          · exact ⟨m, by omega, e.symm⟩
        · rintro ⟨j, hj, e⟩
          by_cases ej : j = m
          · subst ej; exact .inr e.symm
          · exact .inl ⟨j, by omega, e⟩
/-- What Sort and then Compact make of a list: the rising list of its members. -/
theorem sort_compact (l r : List Int) (hr : r.Pairwise (· < ·)) (hm : ∀ x, x ∈ l ↔ x ∈ r) : Lib.compact (l.mergeSort fun x y => decide (x ≤ y)) = r := by
  have hp := List.mergeSort_perm l (fun x y => decide (x ≤ y))
  have hsrt : (l.mergeSort fun x y => decide (x ≤ y)).Pairwise fun x y => decide (x ≤ y) = true :=
    List.pairwise_mergeSort (fun a b c h1 h2 => by simp only [decide_eq_true_eq] at *; omega) (fun a b => by simp only [Bool.or_eq_true, decide_eq_true_eq]; omega) l
  generalize l.mergeSort (fun x y => decide (x ≤ y)) = s at *
  have hs : ∀ i j, i < j → j < s.toArray.size → s.toArray[i]! ≤ s.toArray[j]! := by
    intro i j hij hj
    have hj' : j < s.length := by simpa using hj
    have := List.pairwise_iff_getElem.1 hsrt i j (by omega) hj' hij
    simp only [decide_eq_true_eq] at this
    rw [getElem!_pos s.toArray i (by simp; omega), getElem!_pos s.toArray j (by simp; omega)]
    simpa using this
  obtain ⟨h1, h2⟩ := compact_spec s.toArray hs s.length (by simp)
  refine rising_ext h1 hr (fun x => ?_)
  rw [show Lib.compact s = Lib.compactUpTo s.toArray s.length from rfl, h2, ← hm, ← hp.mem_iff, List.mem_iff_getElem]
  constructor
  · rintro ⟨j, hj, e⟩
    rw [getElem!_pos s.toArray j (by simp; omega)] at e
    exact ⟨j, hj, by simpa using e⟩
  · rintro ⟨j, hj, e⟩
    refine ⟨j, hj, ?_⟩
    rw [getElem!_pos s.toArray j (by simp; omega)]
    simpa using e
end Go.Proofs.YtjgloipgnnigmaaGreatDoor
