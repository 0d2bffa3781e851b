/- slices.Sort and slices.Compact at []int, in the words of a slice that the call owns. -/
import Derived.Test.YtjgloipgnnigmaaGreatDoorJ2
import Derived.Test.YtjgloipgnnigmaaGreatDoorShelfB
import Derived.Sort.OwnSortedInts
import Derived.Test.YtjgloipgnnigmaaGreatDoorJ3
import Derived.WalkSpells
import Derived.Deep.RegionHeld3
import Derived.Maps.AppendAt
import Derived.Test.YtjgloipgnnigmaaGreatDoorJ1
import Derived.Test.YtjgloipgnnigmaaGreatDoorRefTxF08
import Derived.Maps.Own
set_option linter.unusedVariables false
set_option linter.unusedSimpArgs false
namespace Go.Proofs.YtjgloipgnnigmaaGreatDoor
open Go.RowKit Go.Sort

def sorted (l : List Int) : List Int := l.mergeSort fun x y => decide (x ≤ y)
theorem sorted_length (l : List Int) : (sorted l).length = l.length := by simp [sorted]

/-- slices.Sort of a slice that is owned: it owns the sorted list. -/
theorem sort_own (base : Nat) (v : Value) (l : List Int) (w : World) (h : w.ownsRow base 3 1 v l.length (l.map (Value.int .i64))) (hl : l.length ≤ 1000000) :
    Calls Tryz.prog 88 #[v] w fun e w' => e = .returned (.tuple #[]) ∧ w'.ownsRow base 3 1 v (sorted l).length ((sorted l).map (Value.int .i64)) ∧ w.grownBy w' v.ownBlock := by
  rcases h.2 with ⟨rfl, h0⟩ | ⟨g, cap, cur, rfl, hbase, hb, h1, h2, h3, h4⟩
  · have hl0 : l = [] := List.eq_nil_of_length_eq_zero h0
    subst hl0
    refine (Tryz.slices_Sort_int_none none 0 w).mono ?_
    rintro e w' ⟨rfl, rfl⟩
    have e0 : sorted [] = [] := by simp [sorted]
    rw [e0]
    exact ⟨rfl, own_nil _ _ _ _, World.grownBy.refl _ _⟩
  · have hH := holds_of_blockI hb (by simpa using h4)
    refine (Tryz.slices_Sort_int g 0 cap l w hH (Array.getElem?_eq_some_iff.1 hb).1 (by omega)).mono ?_
    rintro e w' ⟨rfl, n, os, rfl⟩
    refine ⟨rfl, ?_, grownBy_sortedI _⟩
    have := ownsRow_sortedI (n := n) (os := os) (ss := l) (ts := sorted l) (by simp [sorted]) hbase hb h1 h2 h3
    rw [sorted_length]
    exact this

/-- slices.Compact of a slice that is owned: the slice that it hands back owns the compact list. -/
theorem compact_own (base : Nat) (v : Value) (l : List Int) (w : World) (h : w.ownsRow base 3 1 v l.length (l.map (Value.int .i64))) (hl : l.length ≤ 1000000) :
    Calls Tryz.prog 89 #[v] w fun e w' => (∃ v', e = .returned v' ∧ w'.ownsRow base 3 1 v' (Lib.compact l).length ((Lib.compact l).map (Value.int .i64))) ∧ w.grownBy w' v.ownBlock := by
  rcases h.2 with ⟨rfl, h0⟩ | ⟨g, cap, cur, rfl, hbase, hb, h1, h2, h3, h4⟩
  · have hl0 : l = [] := List.eq_nil_of_length_eq_zero h0
    subst hl0
    refine (Tryz.slices_Compact_int_empty none 0 w).mono ?_
    rintro e w' ⟨rfl, rfl⟩
    exact ⟨⟨_, rfl, own_nil _ _ _ _⟩, World.grownBy.refl _ _⟩
  · have hH := holds_of_blockI hb (by simpa using h4)
    have hle : (Lib.compact l).length ≤ l.length := by
      have := List.length_filter_le (Lib.keeps l.toArray) (List.range l.length)
      simpa [Lib.compact, Lib.compactUpTo] using this
    refine (Tryz.slices_Compact_int g 0 cap l w hH (by omega) h1).mono ?_
    rintro e w' ⟨rfl, q, rfl⟩
    have hg := grownBy_sortedI (w := w) (g := g) (n := q) (os := #[]) (Lib.compact l ++ List.replicate (l.length - (Lib.compact l).length) 0).toArray
    have ho := ownsRow_sortedI (n := q) (os := #[]) (ss := l) (ts := Lib.compact l ++ List.replicate (l.length - (Lib.compact l).length) 0) (by simp; omega) hbase hb h1 h2 h3
    rw [grow_empty] at hg ho
    refine ⟨⟨_, rfl, ?_⟩, hg⟩
    obtain ⟨q1, q2⟩ := ho
    refine ⟨by simp, ?_⟩
    rcases q2 with ⟨e, _⟩ | ⟨g', cap', cur', e, hbase', hb', hn', hc', hz', ht'⟩
    · cases e
    · cases e
      refine .inr ⟨g, cap, cur', rfl, hbase', hb', by omega, hc', hz', ?_⟩
      have : cur'.toList.take (Lib.compact l).length = (cur'.toList.take (l.length * 1)).take (Lib.compact l).length := by
        rw [List.take_take, show min (Lib.compact l).length (l.length * 1) = (Lib.compact l).length from by omega]
      rw [Nat.mul_one, this, ht']
      simp
end Go.Proofs.YtjgloipgnnigmaaGreatDoor
/- Layer 7's Groups: what config.Groups returns, of every configuration and at most 1000 keys. -/
namespace Go.Proofs.YtjgloipgnnigmaaGreatDoor
open Go.RowKit Go.Shelf

theorem info_int : (Tryz.prog.info? 3).map (fun i => (i.zero, i.size, i.bytes)) = some (some (.int .i64 0), 1, 8) := by kernel_rfl

/-- A row of ints of the call's own. -/
def IntsPostF (w : World) (l : List Int) (e : Ending) (w' : World) : Prop :=
  ∃ (A : Option Addr) (cap : Nat), e = .returned (.slice A l.length cap) ∧ IntsAt w' A l ∧ Below w.heap.size w w' ∧ ∀ a, A = some a → w.heap.size ≤ a.block
theorem own_intsF {w : World} {base : Nat} {e : TypeId} {v : Value} {l : List Int} (h : w.ownsRow base e 1 v l.length (l.map (Value.int .i64))) :
    ∃ (A : Option Addr) (cap : Nat), v = .slice A l.length cap ∧ l.length ≤ cap ∧ IntsAt w A l ∧ ∀ a, A = some a → base ≤ a.block := by
  obtain ⟨A, cap, e1, h1, h2⟩ := own_ints h
  refine ⟨A, cap, e1, h1, h2, fun a ea => ?_⟩
  rcases h.2 with ⟨e2, _⟩ | ⟨g, cap, cur, e2, hfr, _⟩
  · rw [e1, ea] at e2; cases e2
  · rw [e1, ea] at e2; cases e2; exact hfr
set_option maxRecDepth 100000 in
set_option maxHeartbeats 2000000 in
theorem groups_anyF (c : Cfg) (keys : List ByteArray) (A B K : Option Addr) (ca cb ck : Nat) (w : World) (h : CfgAt w c A B) (hK : StrsAt w K keys) (hlen : keys.length ≤ 1000) :
    Calls Tryz.prog 44 #[.agg #[.slice A c.reps.length ca, .slice B c.bnds.length cb], .slice K keys.length ck] w (IntsPostF w (groupsL c keys)) := by
  obtain ⟨W, eW, HB, c0, c1⟩ := box2 w (.slice A c.reps.length ca) (.slice B c.bnds.length cb) 25
  have h := h.later HB
  have hK := CellsAt.later hK HB
  cases hf : formedB c
  · have HE : Hid (groupsL c keys = []) := by show _ = _; simp [groupsL, hf]
    go_enter Tryz.func44, Tryz.ntmps44
    go_wp2_with (go_at_call 55; refine (formed_any c A B ca cb _ h).mono ?_; rintro e w1 ⟨rfl, hb⟩; replace c0 := keep hb c0; replace c1 := keep hb c1; replace h := h.later hb; replace HB := keepB HB hb; clear hb)
    go_ret
    rw [HE.out]
    exact ⟨none, 0, rfl, fun i hi => by simp at hi, HB, fun a e => by cases e⟩
  · have HE := Lib.hid (groups_of_homes hf keys)
    have HL : Hid (keys.map (homeZ c) = (keys.take keys.length).map (homeZ c)) := by show _ = _; rw [List.take_length]
    obtain ⟨i0, hi, hz0, hz1, hz2⟩ := info_parts info_int
    go_enter Tryz.func44, Tryz.ntmps44
    go_wp2_with (go_at_call 55; refine (formed_any c A B ca cb _ h).mono ?_; rintro e w1 ⟨rfl, hb⟩; replace c0 := keep hb c0; replace c1 := keep hb c1; replace h := h.later hb; replace hK := CellsAt.later hK hb; replace HB := keepB HB hb; clear hb)
    clear eW hf
    go_loopw [5, 13] (fun v i wr => ∃ k : Nat, k ≤ keys.length ∧ i = .int .i64 k ∧ Hid (wr.ownsRow w1.heap.size 3 1 v k (((keys.take k).map (homeZ c)).map (Value.int .i64))) ∧ Below w1.heap.size w1 wr) (fun _ i _ => keys.length - (intOf i).toNat)
    case atStart => exact ⟨0, Nat.zero_le _, rfl, own_nil _ _ _ _, Below.refl _ _⟩
    case round =>
      obtain ⟨k, hk, rfl, HO, hw⟩ := hrel
      by_cases hlt : k < keys.length
      · have h := h.later hw
        have hKr := CellsAt.later hK hw
        replace c0 := keep hw c0
        replace c1 := keep hw c1
        obtain ⟨bb, off, x, rfl, hc, HX⟩ := StrsAt.at' hKr hlt
        obtain ⟨g, hg⟩ : ∃ g, homeZ c x = g := ⟨_, rfl⟩
        have HG := Lib.hid hg
        have HT : Hid ((keys.take (k + 1)).map (homeZ c) = (keys.take k).map (homeZ c) ++ [g]) := by show _ = _; rw [take_map_snoc _ _ _ hlt, HX.out, hg]
        clear hg
        go_wp2_with (first
          | (go_at_call 40; refine (calls_int HG.out (home_any c x A B ca cb _ h)).mono ?_; rintro e w2 ⟨rfl, hb⟩; replace HO := Lib.hid (own_keep HO.out hb); replace hw := keepB hw hb; clear hb)
          | (at_builtin; refine wpList_append_own _ rfl _ _ 22 rfl w1.heap.size 3 i0 (.int .i64 0) 1 8 Tryz.underlying22 hi hz0 hz1 hz2 rfl (by decide) _ _ _ rfl (own_keep HO.out (below1 _ _)) ⟨w2.heap.size, 0, none⟩ 1 1 [.int .i64 g] rfl rfl (cell_one_new _ _ _) one_cell_int (le_maxLen (by omega)) (by omega) (Nat.le_trans hw.size (below1 _ _).size) ?_; intro v3 w3 HO3 hg3 _; replace hw := own_below (hw.alloc hw.size _) (Nat.le_refl _) (own_keep HO.out (below1 _ _)) hg3; replace HO3 := Lib.hid HO3; clear hg3))
        go_roundw
        case rel => exact ⟨k + 1, by omega, by go_num, by show World.ownsRow _ _ _ _ _ _ _; rw [HT.out, List.map_append]; exact HO3.out, hw⟩
        case measure => simp [intOf]; omega
      · have ek : k = keys.length := by omega
        have HO' : Hid (wr.ownsRow w1.heap.size 3 1 u5 (keys.map (homeZ c)).length ((keys.map (homeZ c)).map (Value.int .i64))) := by
          show World.ownsRow _ _ _ _ _ _ _
          have := HO.out
          rw [ek] at this
          rw [List.length_map]
          rw [← HL.out] at this
          exact this
        have hll : (keys.map (homeZ c)).length ≤ 1000000 := by rw [List.length_map]; omega
        have hll2 : (sorted (keys.map (homeZ c))).length ≤ 1000000 := by rw [sorted_length]; exact hll
        have HE2 : Hid (Lib.compact (sorted (keys.map (homeZ c))) = groupsL c keys) := HE.out
        clear HO
        generalize keys.map (homeZ c) = l at *
        go_wp2_with (first
          | (go_at_call 88; refine (sort_own w1.heap.size u5 l _ HO'.out hll).mono ?_; rintro e w2 ⟨rfl, HO2, hg2⟩; replace hw := own_below hw (Nat.le_refl _) HO'.out hg2; replace HO2 := Lib.hid HO2; clear hg2)
          | (go_at_call 89; refine (compact_own w1.heap.size u5 (sorted l) _ HO2.out hll2).mono ?_; rintro e w3 ⟨⟨v3, rfl, HO3⟩, hg3⟩; replace hw := own_below hw (Nat.le_refl _) HO2.out hg3; replace HO3 := Lib.hid HO3; clear hg3))
        go_ret
        have := HO3.out
        rw [HE2.out] at this
        obtain ⟨A', cap', rfl, _, hI, hfr⟩ := own_intsF this
        exact ⟨A', cap', rfl, hI, keepB HB hw, fun a e => Nat.le_trans HB.size (hfr a e)⟩
theorem groups_any (c : Cfg) (keys : List ByteArray) (A B K : Option Addr) (ca cb ck : Nat) (w : World) (h : CfgAt w c A B) (hK : StrsAt w K keys) (hlen : keys.length ≤ 1000) :
    Calls Tryz.prog 44 #[.agg #[.slice A c.reps.length ca, .slice B c.bnds.length cb], .slice K keys.length ck] w (IntsPost w (groupsL c keys)) :=
  (groups_anyF c keys A B K ca cb ck w h hK hlen).mono fun _ _ ⟨A', cap', e, hI, hb, _⟩ => ⟨A', cap', e, hI, hb⟩
end Go.Proofs.YtjgloipgnnigmaaGreatDoor
/- Layer 7's reference Groups; whether keys are few; two lists of ints compared. -/
namespace Go.Proofs.YtjgloipgnnigmaaGreatDoor
open Go.RowKit Go.Shelf

end Go.Proofs.YtjgloipgnnigmaaGreatDoor
/- append(v, row...): v is a row of the call's own, the other row may be nil. -/
namespace Go.Proofs.YtjgloipgnnigmaaGreatDoor
open Go.RowKit

section
variable {P : Program} {w : World}
/-- append(v, row...) where v is owned and the row may be nil. -/
theorem wpList_append_row {ops : Array Oper} {rest : List Oper} {o : Oper} {a : Act} {Q : Exit → Act → World → Prop} (hgd : o.guard = none) (s x : Operand) (t : TypeId)
    (ho : o.op = .call { callee := .builtin .append, args := #[s, x], argTypes := #[t, t] })
    (base : Nat) (e : TypeId) (i : TypeInfo) (z : Value) (size bytes : Nat) (ht : P.underlying t = some (.slice e)) (hi : P.info? e = some i) (hz : i.zero = some z)
    (hsize : i.size = size) (hby : i.bytes = bytes) (hzs : z.cells.size = size) (hsz : 0 < size)
    (v : Value) (n : Nat) (xs : List Value) (hs : a.eval s = v) (hown : w.ownsRow base e size v n xs)
    (K : Option Addr) (m c : Nat) (news : List Value) (hx : a.eval x = .slice K m c) (hl : news.length = m * size) (hK : K = none → m = 0) (hnews : ∀ ad, K = some ad → ∀ j u, news[j]? = some u → w.cell? (ad.add j) = some u) (h1 : ∀ u ∈ news, u.oneCell' = true)
    (h63 : n + m ≤ maxLen) (hbytes : (n + m) * bytes ≤ 140737488355328) (hbase : base ≤ w.heap.size)
    (h : ∀ v' w', w'.ownsRow base e size v' (n + m) (xs ++ news) → w.grownBy w' v.ownBlock → (v'.ownBlock = v.ownBlock ∨ v'.ownBlock = some w.heap.size) → wpList P ops Q rest (a.put o.dst v') w') : wpList P ops Q (o :: rest) a w := by
  cases K with
  | some ad => exact wpList_append_own_at w hgd s x t ho base e i z size bytes ht hi hz hsize hby hzs hsz v n xs hs hown ad m c news hx hl (hnews ad rfl) h1 h63 hbytes hbase (fun v' w' h1 h2 _ h3 => h v' w' h1 h2 h3)
  | none =>
    have hm := hK rfl
    subst hm
    have hn0 : news = [] := List.eq_nil_of_length_eq_zero (by omega)
    subst hn0
    refine wpList_plain hgd fun _ hK' => ?_
    have hrun := append_nil_run w base t o.type e i size ht hi v n xs hown c
    unfold Oper.wp execOp
    simp only [ho, resolve, invoke, builtin, Sem.run_bind, Sem.run_pure, Result.andThen_ok, List.map_toArray, List.map_cons, List.map_nil, hs, hx, hrun]
    exact hK' _ _ (h v w (by simpa using hown) (World.grownBy.refl w _) (.inl rfl))
end
end Go.Proofs.YtjgloipgnnigmaaGreatDoor
/- Rows of reads, and of writes, cell by cell. -/
namespace Go.Proofs.YtjgloipgnnigmaaGreatDoor
open Go.RowKit

def rdCells (l : List Rd) : List Value := l.flatMap fun x => [.string x.key, .int .u64 x.ver]
def wrCells (l : List Wr) : List Value := l.flatMap fun x => [.string x.key, .int .i64 x.val.kind, .int .u64 x.val.bits, .string x.val.text]
theorem rdCells_snoc (l : List Rd) (x : Rd) : rdCells (l ++ [x]) = rdCells l ++ [.string x.key, .int .u64 x.ver] := by simp [rdCells]
theorem wrCells_snoc (l : List Wr) (x : Wr) : wrCells (l ++ [x]) = wrCells l ++ [.string x.key, .int .i64 x.val.kind, .int .u64 x.val.bits, .string x.val.text] := by simp [wrCells]
theorem rdCells_append (l m : List Rd) : rdCells (l ++ m) = rdCells l ++ rdCells m := by simp [rdCells]
theorem wrCells_append (l m : List Wr) : wrCells (l ++ m) = wrCells l ++ wrCells m := by simp [wrCells]
theorem rdCells_len : ∀ l : List Rd, (rdCells l).length = l.length * 2
  | [] => rfl
  | x :: l => by have := rdCells_len l; simp [rdCells] at *; omega
theorem wrCells_len : ∀ l : List Wr, (wrCells l).length = l.length * 4
  | [] => rfl
  | x :: l => by have := wrCells_len l; simp [wrCells] at *; omega
theorem rdCells_at : ∀ (l : List Rd) (i : Nat), i < l.length → (rdCells l)[i * 2]? = some (.string (l.getD i noRd).key) ∧ (rdCells l)[i * 2 + 1]? = some (.int .u64 (l.getD i noRd).ver)
  | [], i, h => by simp at h
  | x :: l, 0, _ => by simp [rdCells]
  | x :: l, i + 1, h => by
    have := rdCells_at l i (by simpa using h)
    rw [show (i + 1) * 2 = i * 2 + 2 by omega, show i * 2 + 2 + 1 = (i * 2 + 1) + 2 by omega]
    simpa [rdCells] using this
theorem wrCells_at : ∀ (l : List Wr) (i : Nat), i < l.length → (wrCells l)[i * 4]? = some (.string (l.getD i noWr).key) ∧ (wrCells l)[i * 4 + 1]? = some (.int .i64 (l.getD i noWr).val.kind) ∧ (wrCells l)[i * 4 + 2]? = some (.int .u64 (l.getD i noWr).val.bits) ∧ (wrCells l)[i * 4 + 3]? = some (.string (l.getD i noWr).val.text)
  | [], i, h => by simp at h
  | x :: l, 0, _ => by simp [wrCells]
  | x :: l, i + 1, h => by
    have := wrCells_at l i (by simpa using h)
    rw [show (i + 1) * 4 = i * 4 + 4 by omega, show i * 4 + 4 + 1 = (i * 4 + 1) + 4 by omega, show i * 4 + 4 + 2 = (i * 4 + 2) + 4 by omega, show i * 4 + 4 + 3 = (i * 4 + 3) + 4 by omega]
    simpa [wrCells] using this

/-- A slice's block is none that was there. -/
def FreshP (B : Nat) (A : Option Addr) : Prop := ∀ a, A = some a → B ≤ a.block
/-- What is owned, as reads, or as writes. -/
theorem own_rds {w : World} {base : Nat} {e : TypeId} {v : Value} {l : List Rd} (h : w.ownsRow base e 2 v l.length (rdCells l)) :
    ∃ (A : Option Addr) (cap : Nat), v = .slice A l.length cap ∧ l.length ≤ cap ∧ RdsAt w A l ∧ FreshP base A := by
  rcases h.2 with ⟨rfl, h0⟩ | ⟨g, cap, cur, rfl, hfr, hh, hn, _, _, ht⟩
  · exact ⟨none, 0, by rw [h0], by omega, fun i hi => by omega, fun a e => by cases e⟩
  · refine ⟨some ⟨g, 0, none⟩, cap, rfl, hn, fun i hi => ⟨g, 0, rfl, ?_⟩, fun a e => by cases e; exact hfr⟩
    have hc : ∀ j, j < l.length * 2 → w.cell? ⟨g, 0 + j, none⟩ = (rdCells l)[j]? := by
      intro j hj
      have h1 : (cur.toList.take (l.length * 2))[j]? = (rdCells l)[j]? := by rw [ht]
      rw [List.getElem?_take_of_lt (by omega)] at h1
      simp only [World.cell?, hh, Nat.zero_add, Option.isSome_none, Bool.false_eq_true, if_false]
      rw [← Array.getElem?_toList, h1]
    have := rdCells_at l i hi
    exact ⟨by rw [hc _ (by omega)]; exact this.1, by rw [Nat.add_assoc, hc _ (by omega)]; exact this.2⟩
theorem own_wrs {w : World} {base : Nat} {e : TypeId} {v : Value} {l : List Wr} (h : w.ownsRow base e 4 v l.length (wrCells l)) :
    ∃ (A : Option Addr) (cap : Nat), v = .slice A l.length cap ∧ l.length ≤ cap ∧ WrsAt w A l ∧ FreshP base A := by
  rcases h.2 with ⟨rfl, h0⟩ | ⟨g, cap, cur, rfl, hfr, hh, hn, _, _, ht⟩
  · exact ⟨none, 0, by rw [h0], by omega, fun i hi => by omega, fun a e => by cases e⟩
  · refine ⟨some ⟨g, 0, none⟩, cap, rfl, hn, fun i hi => ⟨g, 0, rfl, ?_⟩, fun a e => by cases e; exact hfr⟩
    have hc : ∀ j, j < l.length * 4 → w.cell? ⟨g, 0 + j, none⟩ = (wrCells l)[j]? := by
      intro j hj
      have h1 : (cur.toList.take (l.length * 4))[j]? = (wrCells l)[j]? := by rw [ht]
      rw [List.getElem?_take_of_lt (by omega)] at h1
      simp only [World.cell?, hh, Nat.zero_add, Option.isSome_none, Bool.false_eq_true, if_false]
      rw [← Array.getElem?_toList, h1]
    have := wrCells_at l i hi
    exact ⟨by rw [hc _ (by omega)]; exact this.1, by rw [Nat.add_assoc, hc _ (by omega)]; exact this.2.1, by rw [Nat.add_assoc, hc _ (by omega)]; exact this.2.2.1, by rw [Nat.add_assoc, hc _ (by omega)]; exact this.2.2.2⟩
end Go.Proofs.YtjgloipgnnigmaaGreatDoor
/- Layer 8's cuts, in plain Lean: a group's reads and writes of a transaction, a transaction's groups. -/
namespace Go.Proofs.YtjgloipgnnigmaaGreatDoor
open Go.RowKit Go.Shelf

def hereR (c : Cfg) (g : Int) (x : Rd) : Bool := homeZ c x.key == g
def hereW (c : Cfg) (g : Int) (x : Wr) : Bool := homeZ c x.key == g
def pickR (c : Cfg) (t : Tx) (g : Int) (x : Rd) : Bool := formedB c && formedT t && (homeZ c x.key == g)
def pickW (c : Cfg) (t : Tx) (g : Int) (x : Wr) : Bool := formedB c && formedT t && (homeZ c x.key == g)
def readsL (c : Cfg) (t : Tx) (g : Int) : List Rd := t.rds.filter (pickR c t g)
def writesL (c : Cfg) (t : Tx) (g : Int) : List Wr := t.wrs.filter (pickW c t g)
def groupsT (c : Cfg) (t : Tx) : List Int := if formedT t then groupsL c (rKeys t ++ wKeys t) else []
def RdsPost (w : World) (l : List Rd) (e : Ending) (w' : World) : Prop :=
  ∃ (A : Option Addr) (cap : Nat), e = .returned (.slice A l.length cap) ∧ RdsAt w' A l ∧ Below w.heap.size w w' ∧ FreshP w.heap.size A
def WrsPost (w : World) (l : List Wr) (e : Ending) (w' : World) : Prop :=
  ∃ (A : Option Addr) (cap : Nat), e = .returned (.slice A l.length cap) ∧ WrsAt w' A l ∧ Below w.heap.size w w' ∧ FreshP w.heap.size A

/-! ### One step of a filter -/
theorem filter_take {α : Type} (l : List α) (d : α) (p : α → Bool) (k : Nat) (h : k < l.length) : (l.take (k + 1)).filter p = (l.take k).filter p ++ if p (l.getD k d) then [l.getD k d] else [] := by
  rw [List.take_succ_eq_append_getElem h, List.filter_append]
  have : l.getD k d = l[k] := by simp [List.getD_eq_getElem?_getD, h]
  rw [this]
  cases hp : p l[k] <;> simp [List.filter, hp]
theorem filter_take_len {α : Type} (l : List α) (p : α → Bool) (k : Nat) : ((l.take k).filter p).length ≤ k :=
  Nat.le_trans (List.length_filter_le _ _) (by rw [List.length_take]; omega)

/-! ### The groups: those that have any -/
theorem any_filter {α : Type} (l : List α) (p : α → Bool) : decide (0 < (l.filter p).length) = l.any p := by
  induction l with
  | nil => rfl
  | cons x l ih =>
    cases hp : p x <;> simp [List.filter, hp, ← ih]
theorem pickR_formed {c : Cfg} {t : Tx} {g : Int} (hc : formedB c = true) (ht : formedT t = true) : pickR c t g = hereR c g := by
  funext x; simp [pickR, hc, ht, hereR]
theorem pickW_formed {c : Cfg} {t : Tx} {g : Int} (hc : formedB c = true) (ht : formedT t = true) : pickW c t g = hereW c g := by
  funext x; simp [pickW, hc, ht, hereW]
theorem touch_cut (c : Cfg) (t : Tx) (g : Nat) (hc : formedB c = true) (ht : formedT t = true) :
    decide (0 < (readsL c t g).length + (writesL c t g).length) = touchB c (rKeys t ++ wKeys t) g := by
  have h1 := any_filter t.rds (hereR c g)
  have h2 := any_filter t.wrs (hereW c g)
  have : touchB c (rKeys t ++ wKeys t) g = (t.rds.any (hereR c g) || t.wrs.any (hereW c g)) := by
    rw [← touchTo_all, touchTo_take _ _ _ _ (Nat.le_refl _), List.take_length, List.any_append]
    simp only [rKeys, wKeys, List.any_map]
    rfl
  rw [this, ← h1, ← h2]
  simp only [readsL, writesL, pickR_formed hc ht, pickW_formed hc ht]
  rw [Bool.eq_iff_iff]
  simp only [Bool.or_eq_true, decide_eq_true_eq]
  omega
theorem readsL_no {c : Cfg} {t : Tx} (h : (formedB c && formedT t) = false) (g : Int) : readsL c t g = [] ∧ writesL c t g = [] := by
  constructor <;> (simp only [readsL, writesL, List.filter_eq_nil_iff]; intro x _; simp [pickR, pickW, h])
end Go.Proofs.YtjgloipgnnigmaaGreatDoor
/- Layer 21's client in plain Lean: what each method makes of a session's state. -/
namespace Go.Proofs.YtjgloipgnnigmaaGreatDoor
open Go.RowKit

structure AskD where
  n : Nat
  g : Nat
  key : ByteArray
  st : Nat
structure CliD where
  state : Nat
  seq : Nat
  num : Nat
  turn : Nat
  floor : Nat
  rds : List Rd
  wrs : List Wr
  asks : List AskD
  keys : List ByteArray
  stamp : Nat
structure EvD where
  kind : Int
  ids : Int
  idq : Int
  key : ByteArray
  val : Val
  ver : Nat
  yes : Bool
  stamp : Nat
  err : Int
inductive MsgD where
  | safe (n : Nat)
  | read (n : Nat) (key : ByteArray) (st : Nat)
  | submit (t : Tx)
structure SndD where
  dest : Int
  m : MsgD
def noAsk : AskD := ⟨0, 0, noStr, 0⟩
def noVal : Val := ⟨0, 0, noStr⟩
def cli0 : CliD := ⟨0, 0, 0, 0, 0, [], [], [], [], 0⟩
def mostS : Nat := 18446744073709551615

def restD (x : CliD) : CliD := { x with state := 0, rds := [], wrs := [], asks := [], keys := [], stamp := 0 }
def beginD (x : CliD) : CliD := if x.state = 0 ∧ x.seq < 1048576 then { x with seq := x.seq + 1, state := 1 } else x
def beginE (x : CliD) : Int := if x.state = 0 then if x.seq < 1048576 then 0 else 7 else 11
def repN (c : Cfg) (g : Nat) : Nat := (c.reps.getD g 0).toNat
def sentD (c : Cfg) (x : CliD) (a : AskD) : SndD := ⟨placeZ c a.g ((x.turn % repN c a.g : Nat) : Int), if a.key = noStr then .safe a.n else .read a.n a.key a.st⟩
def askD (x : CliD) (g : Nat) (key : ByteArray) (st : Nat) : AskD := ⟨x.num + 1, g, key, st⟩
def wantD (x : CliD) (g : Nat) (key : ByteArray) (st : Nat) : CliD := { x with num := x.num + 1, asks := x.asks ++ [askD x g key st] }
def hasD (x : CliD) (key : ByteArray) : Bool := x.rds.any (fun r => decide (r.key = key)) || x.asks.any (fun a => decide (a.key = key))
/-- Where a key is written, or would be. -/
def lowK (l : List Wr) (key : ByteArray) : Nat := (l.takeWhile fun w => lessS w.key key).length
def atK (l : List Wr) (key : ByteArray) : Bool := decide (lowK l key < l.length) && decide ((l.getD (lowK l key) noWr).key = key)
/-- What a Read does: 0: the state, 1: the form, 2: nothing, 3: too long, 4: it asks. -/
def readK (x : CliD) (key : ByteArray) : Nat :=
  if x.state ≠ 1 then 0 else if keyB key = false then 1 else if hasD x key = true then 2 else if 6 ≤ x.rds.length + x.asks.length then 3 else if atK x.wrs key = true then 2 else 4
def readE (x : CliD) (key : ByteArray) : Int := match readK x key with | 0 => 11 | 1 => 2 | 3 => 3 | _ => 0
def readD (c : Cfg) (x : CliD) (key : ByteArray) : CliD := if readK x key = 4 then wantD x (homeN c key) key 0 else x
def readL (c : Cfg) (x : CliD) (key : ByteArray) : List SndD := if readK x key = 4 then [sentD c x (askD x (homeN c key) key 0)] else []
/-- What a Write does: 0: the state, 1: the form, 2: it is set, 3: too long, 4: it is put in. -/
def writeK (x : CliD) (key : ByteArray) (v : Val) : Nat :=
  if x.state ≠ 1 then 0 else if (keyB key && formedV v) = false then 1 else if atK x.wrs key = true then 2 else if 6 ≤ x.wrs.length then 3 else 4
def writeE (x : CliD) (key : ByteArray) (v : Val) : Int := match writeK x key v with | 0 => 11 | 1 => 2 | 3 => 3 | _ => 0
def insK (l : List Wr) (k : Nat) (w : Wr) : List Wr := l.take k ++ w :: l.drop k
def writeD (x : CliD) (key : ByteArray) (v : Val) : CliD :=
  match writeK x key v with
  | 2 => { x with wrs := x.wrs.set (lowK x.wrs key) ⟨key, v⟩ }
  | 4 => { x with wrs := insK x.wrs (lowK x.wrs key) ⟨key, v⟩ }
  | _ => x
def inTxn (x : CliD) : Bool := decide (x.state = 1 ∨ x.state = 2)
def txnD (ses : Int) (x : CliD) : Tx := if inTxn x then ⟨ses, x.seq, x.rds, x.wrs⟩ else ⟨0, 0, [], []⟩
def submitD (c : Cfg) (ses : Int) (x : CliD) : List SndD :=
  (groupsT c (txnD ses x)).flatMap fun g => (List.range (repN c g.toNat)).map fun (i : Nat) => ⟨placeZ c g (i : Int), .submit (txnD ses x)⟩
/-- What a Commit does: 0: the state, 1: nothing to commit, 2: it submits. -/
def commitK (x : CliD) : Nat := if x.state ≠ 1 ∨ 0 < x.asks.length then 0 else if x.rds.length + x.wrs.length = 0 then 1 else 2
def commitE (x : CliD) : Int := if commitK x = 0 then 11 else 0
def commitD (x : CliD) : CliD := match commitK x with | 1 => restD x | 2 => { x with state := 2 } | _ => x
def commitL (c : Cfg) (ses : Int) (x : CliD) : List SndD := if commitK x = 2 then submitD c ses { x with state := 2 } else []
def abortD (x : CliD) : CliD := if x.state = 1 then restD x else x
def abortE (x : CliD) : Int := if x.state = 1 then 0 else 11
/-- What a Snapshot does: 0: the state, 1: the argument, 2: it asks. -/
def snapK (x : CliD) (keys : List ByteArray) : Nat := if x.state ≠ 0 then 0 else if (decide (1 ≤ keys.length) && decide (keys.length ≤ 6) && risesTo keys keys.length) = false then 1 else 2
def snapE (x : CliD) (keys : List ByteArray) : Int := match snapK x keys with | 0 => 11 | 1 => 1 | _ => 0
/-- Asking many things, one behind the other. -/
def wantsD (x : CliD) : List (Nat × ByteArray × Nat) → CliD
  | [] => x
  | (g, k, s) :: l => wantsD (wantD x g k s) l
def wantsL (c : Cfg) (x : CliD) : List (Nat × ByteArray × Nat) → List SndD
  | [] => []
  | (g, k, s) :: l => sentD c x (askD x g k s) :: wantsL c (wantD x g k s) l
def snapW (c : Cfg) (keys : List ByteArray) : List (Nat × ByteArray × Nat) := (groupsL c keys).map fun g => (g.toNat, noStr, 0)
def snap0 (x : CliD) (keys : List ByteArray) : CliD := { x with state := 3, keys := keys, stamp := mostS }
def snapD (c : Cfg) (x : CliD) (keys : List ByteArray) : CliD := if snapK x keys = 2 then wantsD (snap0 x keys) (snapW c keys) else x
def snapL (c : Cfg) (x : CliD) (keys : List ByteArray) : List SndD := if snapK x keys = 2 then wantsL c (snap0 x keys) (snapW c keys) else []
/-- The ask that a number and a key answer. -/
def askP (num : Int) (key : ByteArray) (a : AskD) : Bool := decide ((a.n : Int) = num) && decide (a.key = key)
def answK (x : CliD) (num : Int) (key : ByteArray) : Nat := x.asks.findIdx (askP num key)
def answB (x : CliD) (m : MsgV) : Bool := decide (answK x m.num m.key < x.asks.length) && !(decide (x.state = 1) && decide (m.err ≠ 0))
def answD (x : CliD) (m : MsgV) : CliD := { x with asks := x.asks.eraseIdx (answK x m.num m.key) }
def answA (x : CliD) (m : MsgV) : AskD := x.asks.getD (answK x m.num m.key) noAsk
def overEv (ses : Int) (x : CliD) (e : Int) : EvD := ⟨4, ses, 0, noStr, noVal, 0, false, x.stamp, e⟩
def insR (l : List Rd) (r : Rd) : List Rd := (l ++ [r]).mergeSort fun a b => !lessS b.key a.key
/-- What an answer is, behind taking it out. -/
def lowS (x : CliD) (m : MsgV) : CliD := { x with stamp := min x.stamp m.st }
/-- 0: more is asked, 1: behind, 2: it reads, 3: all is nothing. -/
def safeK (x : CliD) : Nat := if 0 < x.asks.length then 0 else if x.stamp < x.floor then 1 else if 0 < x.stamp then 2 else 3
def safeW (c : Cfg) (x : CliD) : List (Nat × ByteArray × Nat) := x.keys.map fun k => (homeN c k, k, x.stamp)
def safeD (c : Cfg) (x : CliD) : CliD := match safeK x with | 0 => x | 2 => wantsD x (safeW c x) | _ => restD x
def safeL (c : Cfg) (x : CliD) : List SndD := if safeK x = 2 then wantsL c x (safeW c x) else []
def safeEv (ses : Int) (x : CliD) : List EvD :=
  match safeK x with
  | 1 => [overEv ses x 10]
  | 3 => (x.keys.map fun k => ⟨3, ses, 0, k, noVal, 0, false, 0, 0⟩) ++ [overEv ses x 0]
  | _ => []
/-- 0: it failed, 1: it is over, 2: it goes on. -/
def seenK (x : CliD) (m : MsgV) : Nat := if m.err ≠ 0 then 0 else if x.asks.length = 0 then 1 else 2
def seenD (x : CliD) (m : MsgV) : CliD := if seenK x m = 2 then x else restD x
def seenEv (ses : Int) (x : CliD) (m : MsgV) : List EvD :=
  match seenK x m with
  | 0 => [overEv ses x m.err]
  | 1 => [⟨3, ses, 0, m.key, m.val, m.ver, false, x.stamp, 0⟩, overEv ses x 0]
  | _ => [⟨3, ses, 0, m.key, m.val, m.ver, false, x.stamp, 0⟩]
/-- What a message does (fm: it is formed): 0: nothing, 1: an outcome, 2: a read, 3: a stamp, 4: a value of a snapshot. -/
def handK (ses : Int) (x : CliD) (m : MsgV) (fm : Bool) : Nat :=
  if fm = false then 0
  else if m.kind = 11 ∧ x.state = 2 ∧ m.ids = ses ∧ m.idq = x.seq then 1
  else if m.kind = 13 then if answB x m = false then 0 else if x.state = 1 then 2 else if (answA x m).key = noStr then 3 else 4
  else 0
def handD (c : Cfg) (ses : Int) (x : CliD) (m : MsgV) (fm : Bool) : CliD :=
  match handK ses x m fm with
  | 1 => { restD x with floor := if m.y then max x.floor m.st else x.floor }
  | 2 => { answD x m with rds := insR x.rds ⟨m.key, m.ver⟩ }
  | 3 => safeD c (lowS (answD x m) m)
  | 4 => seenD (answD x m) m
  | _ => x
def handL (c : Cfg) (ses : Int) (x : CliD) (m : MsgV) (fm : Bool) : List SndD := if handK ses x m fm = 3 then safeL c (lowS (answD x m) m) else []
def handEv (ses : Int) (x : CliD) (m : MsgV) (fm : Bool) : List EvD :=
  match handK ses x m fm with
  | 1 => [⟨2, ses, x.seq, noStr, noVal, 0, m.y, m.st, 0⟩]
  | 2 => [⟨1, ses, x.seq, m.key, m.val, m.ver, false, 0, 0⟩]
  | 3 => safeEv ses (lowS (answD x m) m)
  | 4 => seenEv ses (answD x m) m
  | _ => []
def tick0 (x : CliD) : CliD := { x with turn := (x.turn + 1) % 60 }
def tickL (c : Cfg) (ses : Int) (x : CliD) : List SndD := if x.state = 2 then submitD c ses (tick0 x) else x.asks.map (sentD c (tick0 x))
end Go.Proofs.YtjgloipgnnigmaaGreatDoor
/- Frames by sets of blocks: a call writes in the blocks O alone, and makes new ones. -/
namespace Go.Proofs.YtjgloipgnnigmaaGreatDoor
open Go.RowKit

/-- But for the blocks O all that was there is as it was. -/
structure Out (O : Nat → Prop) (w w' : World) : Prop where
  os : w'.os = w.os
  tape : w'.tape = w.tape
  output : w'.output = w.output
  size : w.heap.size ≤ w'.heap.size
  block : ∀ k, k < w.heap.size → ¬ O k → w'.heap[k]? = w.heap[k]?
/-- O and the blocks made between w and w'. -/
def ext (O : Nat → Prop) (w w' : World) (k : Nat) : Prop := O k ∨ (w.heap.size ≤ k ∧ k < w'.heap.size)
theorem Out.refl (O : Nat → Prop) (w : World) : Out O w w := ⟨rfl, rfl, rfl, Nat.le_refl _, fun _ _ _ => rfl⟩
theorem Out.trans {O : Nat → Prop} {w w1 w2 : World} (h : Out O w w1) (h' : Out (ext O w w1) w1 w2) : Out O w w2 :=
  ⟨h'.os.trans h.os, h'.tape.trans h.tape, h'.output.trans h.output, Nat.le_trans h.size h'.size, fun k hk ho => by
    rw [h'.block k (Nat.lt_of_lt_of_le hk h.size) (fun e => e.elim ho (fun e => by omega)), h.block k hk ho]⟩
theorem Out.trans' {O : Nat → Prop} {w w1 w2 : World} (h : Out O w w1) (h' : Out O w1 w2) : Out O w w2 :=
  ⟨h'.os.trans h.os, h'.tape.trans h.tape, h'.output.trans h.output, Nat.le_trans h.size h'.size, fun k hk ho => by
    rw [h'.block k (Nat.lt_of_lt_of_le hk h.size) ho, h.block k hk ho]⟩
theorem Out.mono {O O' : Nat → Prop} {w w' : World} (h : Out O w w') (hs : ∀ k, O k → O' k) : Out O' w w' :=
  ⟨h.os, h.tape, h.output, h.size, fun k hk ho => h.block k hk (fun e => ho (hs k e))⟩
theorem Out.of_below {O : Nat → Prop} {w w' : World} (h : Below w.heap.size w w') : Out O w w' := ⟨h.os, h.tape, h.output, h.size, fun k hk _ => h.block k hk⟩
theorem Out.of_grown {O : Nat → Prop} {w w' : World} {row : Option Nat} (h : w.grownBy w' row) (hr : ∀ k, row = some k → O k) : Out O w w' :=
  ⟨h.os, h.tape, h.output, h.size, fun k hk ho => h.block k hk (fun e => ho (hr k e.symm))⟩
theorem Out.below {O : Nat → Prop} {w w' : World} {B : Nat} (h : Out O w w') (hB : B ≤ w.heap.size) (ho : ∀ k, O k → B ≤ k) : Below B w w' :=
  ⟨h.os, h.tape, h.output, h.size, fun k hk => h.block k (Nat.lt_of_lt_of_le hk hB) (fun e => by have := ho k e; omega)⟩
theorem blk_lt {w : World} {a : Addr} {v : Value} (h : w.cell? a = some v) : a.block < w.heap.size := by
  rcases Nat.lt_or_ge a.block w.heap.size with q | q
  · exact q
  · exfalso
    have : w.heap[a.block]? = none := Array.getElem?_eq_none q
    simp [World.cell?, this] at h
theorem Out.cell {O : Nat → Prop} {w w' : World} {a : Addr} {v : Value} (h : Out O w w') (hc : w.cell? a = some v) (ho : ¬ O a.block) : w'.cell? a = some v := by
  rw [World.cell?_of_block (h.block a.block (blk_lt hc) ho)]; exact hc
theorem Out.obj {O : Nat → Prop} {w w' : World} {g : Nat} {o : Obj} (h : Out O w w') (hc : w.heap[g]? = some o) (ho : ¬ O g) : w'.heap[g]? = some o := by
  rw [h.block g (Array.getElem?_eq_some_iff.1 hc).1 ho]; exact hc
theorem Out.row {O : Nat → Prop} {w w' : World} {base n size : Nat} {e : TypeId} {v : Value} {xs : List Value} (h : Out O w w') (hr : w.ownsRow base e size v n xs) (ho : ∀ g, v.ownBlock = some g → ¬ O g) : w'.ownsRow base e size v n xs := by
  refine ⟨hr.1, ?_⟩
  rcases hr.2 with h2 | ⟨g, cap, cur, rfl, hg, hh, r⟩
  · exact .inl h2
  · exact .inr ⟨g, cap, cur, rfl, hg, h.obj hh (ho g rfl), r⟩
theorem Out.map {H : Type} {P : Program} {k : TypeId} {R : Value → Option (DataW H × List MemPlace)} {O : Nat → Prop} {w w' : World} {b n : Nat} {D : DataW H} (h : Out O w w') (hm : w.ownsMap P k R b n D) (ho : ¬ O b) : w'.ownsMap P k R b n D := by
  obtain ⟨es, clock, hb, r⟩ := hm
  exact ⟨es, clock, h.obj hb ho, r⟩
theorem CellsAt.out {O : Nat → Prop} {w w' : World} {A : Option Addr} {n : Nat} {f : Nat → Value} (h : CellsAt w A n f) (hb : Out O w w') (ho : ∀ a, A = some a → ¬ O a.block) : CellsAt w' A n f := by
  intro i hi
  obtain ⟨b, off, e, hc⟩ := h i hi
  exact ⟨b, off, e, hb.cell hc (ho ⟨b, off, none⟩ e)⟩
end Go.Proofs.YtjgloipgnnigmaaGreatDoor
/- Layer 21 in plain Lean: what stays true of a session's state, whatever is done. -/
namespace Go.Proofs.YtjgloipgnnigmaaGreatDoor

theorem getD_eq {α : Type} (l : List α) (d : α) {i : Nat} (h : i < l.length) : l.getD i d = l[i] := by
  rw [List.getD_eq_getElem?_getD, List.getElem?_eq_getElem h]; rfl
theorem risesTo_of {l : List ByteArray} (hk : ∀ k ∈ l, keyB k = true) (hp : l.Pairwise (fun a b => lessS a b = true)) : ∀ n, n ≤ l.length → risesTo l n = true
  | 0, _ => rfl
  | n + 1, hn => by
    rw [risesTo, risesTo_of hk hp n (by omega), Bool.true_and, riseAt]
    have h1 : keyB (l.getD n noStr) = true := by rw [getD_eq l noStr (by omega)]; exact hk _ (List.getElem_mem _)
    rw [h1, Bool.true_and, Bool.or_eq_true]
    by_cases h0 : n = 0
    · left; simp [h0]
    · right
      rw [getD_eq l noStr (by omega), getD_eq l noStr (by omega)]
      exact List.pairwise_iff_getElem.1 hp (n - 1) n (by omega) (by omega) (by omega)
theorem rise_iff (l : List ByteArray) : risesTo l l.length = true ↔ (∀ k ∈ l, keyB k = true) ∧ l.Pairwise (fun a b => lessS a b = true) := by
  constructor
  · intro h
    refine ⟨fun k hk => ?_, List.pairwise_iff_getElem.2 fun i j hi hj hij => ?_⟩
    · obtain ⟨i, hi, rfl⟩ := List.mem_iff_getElem.1 hk
      have := rises_key h hi
      rwa [getD_eq l noStr hi] at this
    · have := rises_mono h hij hj
      rwa [getD_eq l noStr hi, getD_eq l noStr hj] at this
  · rintro ⟨h1, h2⟩
    exact risesTo_of h1 h2 _ (Nat.le_refl _)
/-! ### Where a key is written -/
theorem low_le (l : List Wr) (key : ByteArray) : lowK l key ≤ l.length := (List.takeWhile_prefix _).length_le
theorem low_lt {l : List Wr} {key : ByteArray} {i : Nat} (h : i < lowK l key) : lessS (l.getD i noWr).key key = true := by
  have hl := low_le l key
  have hi : i < (l.takeWhile fun w => lessS w.key key).length := h
  have h1 : (l.takeWhile fun w => lessS w.key key)[i] ∈ l.takeWhile fun w => lessS w.key key := List.getElem_mem hi
  have h2 : lessS (l.takeWhile fun w => lessS w.key key)[i].key key = true := List.all_eq_true.1 (List.all_takeWhile (p := fun w => lessS w.key key) (l := l)) _ h1
  rw [getD_eq l noWr (by omega)]
  have h3 : (l.takeWhile fun w => lessS w.key key)[i] = l[i]'(by omega) := (List.takeWhile_prefix _).getElem _
  rw [h3] at h2
  exact h2
theorem low_ge {l : List Wr} {key : ByteArray} (h : lowK l key < l.length) : lessS (l.getD (lowK l key) noWr).key key = false := by
  rw [getD_eq l noWr h]
  have : ∀ (l : List Wr) (h : lowK l key < l.length), lessS (l[lowK l key]'h).key key = false := by
    intro l
    induction l with
    | nil => intro h; simp at h
    | cons x l ih =>
      intro h
      cases hx : lessS x.key key
      · have e : lowK (x :: l) key = 0 := by simp [lowK, List.takeWhile_cons, hx]
        simp only [e, List.getElem_cons_zero]
        exact hx
      · have e : lowK (x :: l) key = lowK l key + 1 := by simp [lowK, List.takeWhile_cons, hx]
        simp only [e, List.getElem_cons_succ]
        exact ih (by rw [e] at h; simpa using h)
  exact this l h
theorem wkeys_lt {l : List Wr} (hr : (l.map Wr.key).Pairwise (fun a b => lessS a b = true)) {i j : Nat} (hij : i < j) (hj : j < l.length) : lessS (l.getD i noWr).key (l.getD j noWr).key = true := by
  have := List.pairwise_iff_getElem.1 hr i j (by simp; omega) (by simpa using hj) hij
  rw [getD_eq l noWr (by omega), getD_eq l noWr hj]
  simpa using this
/-- Where the key isn't there, all from its place on are above it. -/
theorem low_above {l : List Wr} {key : ByteArray} (hr : (l.map Wr.key).Pairwise (fun a b => lessS a b = true)) (hn : atK l key = false) {i : Nat} (h : lowK l key ≤ i) (hi : i < l.length) : lessS key (l.getD i noWr).key = true := by
  have h1 := low_ge (l := l) (key := key) (by omega)
  have h2 : lessS key (l.getD (lowK l key) noWr).key = true := by
    cases h3 : lessS key (l.getD (lowK l key) noWr).key
    · have e := lessS_tri h3 h1
      rw [atK, decide_eq_true (show lowK l key < l.length by omega), Bool.true_and, decide_eq_false_iff_not] at hn
      exact absurd e.symm hn
    · rfl
  by_cases e : i = lowK l key
  · rw [e]; exact h2
  · exact lessS_trans h2 (wkeys_lt hr (by omega) hi)
def WrOK (l : List Wr) : Prop := (l.map Wr.key).Pairwise (fun a b => lessS a b = true) ∧ ∀ w ∈ l, keyB w.key = true ∧ formedV w.val = true
theorem wrOK_nil : WrOK [] := ⟨List.Pairwise.nil, fun _ h => by cases h⟩
theorem wrOK_set {l : List Wr} (h : WrOK l) {i : Nat} (hi : i < l.length) {key : ByteArray} {v : Val} (hk : (l.getD i noWr).key = key) (hv : formedV v = true) : WrOK (l.set i ⟨key, v⟩) := by
  rw [getD_eq l noWr hi] at hk
  have e : (l.set i ⟨key, v⟩).map Wr.key = l.map Wr.key := by
    rw [List.map_set]
    have : key = (l.map Wr.key)[i]'(by simpa using hi) := by simp [hk]
    show (l.map Wr.key).set i key = _
    rw [this]
    exact List.set_getElem_self _
  refine ⟨by rw [e]; exact h.1, fun w hw => ?_⟩
  rcases List.mem_or_eq_of_mem_set hw with hw | rfl
  · exact h.2 w hw
  · exact ⟨by rw [← hk]; exact (h.2 _ (List.getElem_mem hi)).1, hv⟩
theorem wrOK_ins {l : List Wr} (h : WrOK l) {key : ByteArray} {v : Val} (hn : atK l key = false) (hk : keyB key = true) (hv : formedV v = true) : WrOK (insK l (lowK l key) ⟨key, v⟩) := by
  have hle := low_le l key
  refine ⟨?_, fun w hw => ?_⟩
  · have hs : l.map Wr.key = (l.take (lowK l key)).map Wr.key ++ (l.drop (lowK l key)).map Wr.key := by rw [← List.map_append, List.take_append_drop]
    have h1 := h.1
    rw [hs, List.pairwise_append] at h1
    rw [insK, List.map_append, List.map_cons, List.pairwise_append, List.pairwise_cons]
    refine ⟨h1.1, ⟨fun a ha => ?_, h1.2.1⟩, fun a ha b hb => ?_⟩
    · obtain ⟨w, hw, rfl⟩ := List.mem_map.1 ha
      obtain ⟨i, hi, rfl⟩ := List.mem_iff_getElem.1 hw
      have hi' : lowK l key + i < l.length := by simp at hi; omega
      have := low_above h.1 hn (i := lowK l key + i) (by omega) hi'
      rw [getD_eq l noWr hi'] at this
      simpa using this
    · rcases List.mem_cons.1 hb with e | hb
      · rw [e]
        obtain ⟨w, hw, rfl⟩ := List.mem_map.1 ha
        obtain ⟨i, hi, rfl⟩ := List.mem_iff_getElem.1 hw
        have hi' : i < lowK l key := by simp at hi; omega
        have := low_lt (l := l) (key := key) hi'
        rw [getD_eq l noWr (by omega)] at this
        simpa using this
      · exact h1.2.2 a ha b hb
  · rw [insK, List.mem_append, List.mem_cons] at hw
    rcases hw with hw | rfl | hw
    · exact h.2 w (List.mem_of_mem_take hw)
    · exact ⟨hk, hv⟩
    · exact h.2 w (List.mem_of_mem_drop hw)

/-! ### The reads, sorted -/
def leR (a b : Rd) : Bool := !lessS b.key a.key
theorem leR_trans (a b c : Rd) (h1 : leR a b = true) (h2 : leR b c = true) : leR a c = true := by
  simp only [leR, Bool.not_eq_true'] at *
  cases h3 : lessS c.key a.key
  · rfl
  · exfalso
    cases h4 : lessS a.key b.key
    · have e := lessS_tri h4 h1
      rw [e] at h3; rw [h3] at h2; cases h2
    · rw [lessS_trans h3 h4] at h2; cases h2
theorem leR_total (a b : Rd) : (leR a b || leR b a) = true := by
  simp only [leR, Bool.or_eq_true, Bool.not_eq_true']
  cases h : lessS b.key a.key
  · exact .inl rfl
  · exact .inr (lessS_asym h)
theorem insR_perm (l : List Rd) (r : Rd) : (insR l r).Perm (l ++ [r]) := List.mergeSort_perm _ _
theorem insR_sorted (l : List Rd) (r : Rd) : (insR l r).Pairwise (fun a b => leR a b = true) :=
  List.pairwise_mergeSort (le := leR) leR_trans leR_total _
theorem insR_len (l : List Rd) (r : Rd) : (insR l r).length = l.length + 1 := by rw [(insR_perm l r).length_eq]; simp
theorem rkeys_rise {l : List Rd} (hs : l.Pairwise (fun a b => leR a b = true)) (hn : (l.map Rd.key).Nodup) : (l.map Rd.key).Pairwise (fun a b => lessS a b = true) := by
  rw [List.pairwise_map]
  have h2 : l.Pairwise (fun a b => a.key ≠ b.key) := by
    rw [List.Nodup, List.pairwise_map] at hn; exact hn
  refine (hs.and h2).imp fun {a b} h => ?_
  obtain ⟨h1, h2⟩ := h
  simp only [leR, Bool.not_eq_true'] at h1
  cases h3 : lessS a.key b.key
  · exact absurd (lessS_tri h3 h1) h2
  · rfl
/-- A sorted list of the same reads is the same list, where no two have one key. -/
theorem sorted_unique {l m : List Rd} (hp : l.Perm m) (hl : l.Pairwise (fun a b => leR a b = true)) (hm : m.Pairwise (fun a b => leR a b = true)) (hn : (l.map Rd.key).Nodup) : l = m := by
  apply hp.eq_of_pairwise (le := fun a b => leR a b = true) _ hl hm
  intro a b ha hb h1 h2
  simp only [leR, Bool.not_eq_true'] at h1 h2
  have e := lessS_tri h2 h1
  have hb' : b ∈ l := hp.mem_iff.2 hb
  obtain ⟨i, hi, rfl⟩ := List.mem_iff_getElem.1 ha
  obtain ⟨j, hj, rfl⟩ := List.mem_iff_getElem.1 hb'
  have := List.pairwise_iff_getElem.1 hn
  by_cases hij : i = j
  · subst hij; rfl
  · exfalso
    rcases Nat.lt_or_gt_of_ne hij with q | q
    · exact this i j (by simpa using hi) (by simpa using hj) q (by simp [e])
    · exact this j i (by simpa using hj) (by simpa using hi) q (by simp [e])
end Go.Proofs.YtjgloipgnnigmaaGreatDoor
/- append to a row of the call's own, where it comes up in a region whose order is drawn. No function of the program is named here. -/
namespace Go.Proofs.YtjgloipgnnigmaaGreatDoor
open Go.RowKit

theorem ready_append_own_at {P : Program} {w : World} {ops : Array Oper} {o : Oper} {a : Act} {Q : Exit → Act → World → Prop} {next : Act → World → Prop} (hgd : o.guard = none) (s x : Operand) (t : TypeId)
    (ho : o.op = .call { callee := .builtin .append, args := #[s, x], argTypes := #[t, t] })
    (base : Nat) (e : TypeId) (i : TypeInfo) (z : Value) (size bytes : Nat) (ht : P.underlying t = some (.slice e)) (hi : P.info? e = some i) (hz : i.zero = some z)
    (hsize : i.size = size) (hby : i.bytes = bytes) (hzs : z.cells.size = size) (hsz : 0 < size)
    (v : Value) (n : Nat) (xs : List Value) (hs : a.eval s = v) (hown : w.ownsRow base e size v n xs)
    (ad : Addr) (m c : Nat) (news : List Value) (hx : a.eval x = .slice (some ad) m c) (hl : news.length = m * size) (hnews : ∀ j u, news[j]? = some u → w.cell? (ad.add j) = some u) (h1 : ∀ u ∈ news, u.oneCell' = true)
    (h63 : n + m ≤ maxLen) (hbytes : (n + m) * bytes ≤ 140737488355328) (hbase : base ≤ w.heap.size)
    (h : ∀ v' w', w'.ownsRow base e size v' (n + m) (xs ++ news) → w.grownBy w' v.ownBlock → (v'.ownBlock = v.ownBlock ∨ v'.ownBlock = some w.heap.size) → next (a.put o.dst v') w') :
    if Region.wanted o (yielded ops a.tmps) = true then Oper.wp P o a w next Q else next (a.put o.dst undef) w := by
  rw [if_pos (by simp [Region.wanted, hgd])]
  obtain ⟨v', w', hr, h2, h3, _, h5⟩ := run_append_own_at (P := P) w base t o.type e i z size bytes ht hi hz hsize hby hzs hsz v n xs hown ad m c news hl hnews h1 h63 hbytes hbase
  unfold Oper.wp execOp
  simp only [ho, resolve, invoke, builtin, Sem.run_bind, Sem.run_pure, Result.andThen_ok, List.map_toArray, List.map_cons, List.map_nil, hs, hx, hr]
  exact h v' w' h2 h3 h5
theorem own_form {w : World} {base n size : Nat} {e : TypeId} {v : Value} {xs : List Value} (h : w.ownsRow base e size v n xs) : ∃ A c, v = .slice A n c := by
  rcases h.2 with ⟨rfl, rfl⟩ | ⟨g, cap, cur, rfl, _⟩
  · exact ⟨_, _, rfl⟩
  · exact ⟨_, _, rfl⟩
end Go.Proofs.YtjgloipgnnigmaaGreatDoor
