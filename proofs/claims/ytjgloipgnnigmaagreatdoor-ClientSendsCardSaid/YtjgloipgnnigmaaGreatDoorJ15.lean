/- slices.Insert at writes, at any place. -/
import Derived.Test.YtjgloipgnnigmaaGreatDoorJ11
import Derived.Test.YtjgloipgnnigmaaGreatDoorJ6
import Derived.Deep.AppendLies
import Derived.WalkSpells
import Derived.IntWalk
import Derived.Outline
import Derived.Test.YtjgloipgnnigmaaGreatDoorJ14
import Derived.Test.YtjgloipgnnigmaaGreatDoorJ12
import Derived.Deep.RegionLaw
import Derived.Test.YtjgloipgnnigmaaGreatDoorJ5
set_option linter.unusedVariables false
set_option linter.unusedSimpArgs false
namespace Go.Proofs.YtjgloipgnnigmaaGreatDoor
open Go.RowKit

def wrC (v : Wr) : List Value := [.string v.key, .int .i64 v.val.kind, .int .u64 (v.val.bits : Int), .string v.val.text]
theorem wrC_len (v : Wr) : (wrC v).length = 4 := rfl
theorem wrC_one (v : Wr) : ∀ u ∈ wrC v, u.oneCell' = true := fun u hu => by
  simp only [wrC, List.mem_cons, List.not_mem_nil, or_false] at hu
  rcases hu with rfl | rfl | rfl | rfl <;> rfl
theorem wrCs_one (l : List Wr) : ∀ u ∈ wrCells l, u.oneCell' = true := fun u hu => by
  obtain ⟨x, _, hu⟩ := List.mem_flatMap.1 hu
  exact wrC_one x u hu
theorem wr_take (l : List Wr) (k : Nat) : (wrCells l).take (k * 4) = wrCells (l.take k) := flat_take wrC 4 wrC_len l k
theorem wr_drop (l : List Wr) (k : Nat) : (wrCells l).drop (k * 4) = wrCells (l.drop k) := flat_drop wrC 4 wrC_len l k
theorem wr_ins (l : List Wr) (k : Nat) (v : Wr) : wrCells (insK l k v) = wrCells (l.take k) ++ wrC v ++ wrCells (l.drop k) := by
  simp [wrCells, insK, wrC]
theorem info_wrt : (Tryz.prog.info? 112).map (fun i => (i.zero, i.size, i.bytes)) = some (some (.agg #[.string ByteArray.empty, .int .i64 0, .int .u64 0, .string ByteArray.empty]), 4, 48) := by kernel_rfl
theorem wr_cells21 (v : Wr) : ∀ (w : World) (vb : Nat), w.heap[vb]? = some (.cells (wrC v).toArray 112 (0, 0)) → ∀ j u, (wrC v)[j]? = some u → w.cell? ((⟨vb, 0, none⟩ : Addr).add j) = some u := fun w vb h j u hu => by
  rw [Go.WideShapes.add_plain, cell_of_row w vb (0 + j) _ _ (0, 0) h, ← hu]
  simp
def InsPostW (w : World) (B : Nat) (v0 : Value) (l : List Wr) (e : Ending) (w' : World) : Prop :=
  ∃ v', e = .returned v' ∧ w'.ownsRow B 112 4 v' l.length (wrCells l) ∧ w.grownBy w' v0.ownBlock ∧ (v'.ownBlock = v0.ownBlock ∨ ∃ g, v'.ownBlock = some g ∧ w.heap.size ≤ g)
theorem insK_end (l : List Wr) (v : Wr) : insK l l.length v = l ++ [v] := by simp [insK]
theorem min_a {a b n k : Nat} (h : a ≤ b) (hn : n = a * k) : n = Nat.min a b * k := by rw [show Nat.min a b = a from Nat.min_eq_left h]; exact hn
theorem min_b {a b n k : Nat} (h : b ≤ a) (hn : n = b * k) : n = Nat.min a b * k := by rw [show Nat.min a b = b from Nat.min_eq_right h]; exact hn
set_option maxRecDepth 100000 in
/-- At the end of the row. -/
theorem insW_end (l : List Wr) (v : Wr) (B vb : Nat) (v0 : Value) (w : World) (h0 : w.ownsRow B 112 4 v0 l.length (wrCells l)) (hv : w.heap[vb]? = some (.cells (wrC v).toArray 112 (0, 0))) (hB : B ≤ w.heap.size) (hn : l.length ≤ 6) :
    Calls Tryz.prog 53 #[v0, .int .i64 (l.length : Int), .slice (some ⟨vb, 0, none⟩) 1 1] w (InsPostW w B v0 (insK l l.length v)) := by
  obtain ⟨i0, hi, hz0, hz1, hz2⟩ := info_parts info_wrt
  have HV := Lib.hid hv
  have HC := Lib.hid (wr_cells21 v)
  have H0 := Lib.hid h0
  have hlen : Hid (wrCells (insK l l.length v) = wrCells l ++ wrC v ∧ (insK l l.length v).length = l.length + 1) := by show _ ∧ _; rw [insK_end]; exact ⟨by simp [wrCells, wrC], by simp⟩
  obtain ⟨A0, cap, rfl⟩ : ∃ A0 cap, v0 = .slice A0 l.length cap := by
    rcases h0.2 with ⟨rfl, e⟩ | ⟨g, cap, cur, rfl, _⟩
    · exact ⟨none, 0, by rw [e]⟩
    · exact ⟨_, _, rfl⟩
  clear hv h0
  by_cases hcl : cap = l.length
  · subst hcl
    go_enter Tryz.func53, Tryz.ntmps53
    go_wp2_with (at_builtin; refine wpList_append_own_at _ rfl _ _ 35 rfl B 112 i0 _ 4 48 Tryz.underlying35 hi hz0 hz1 hz2 rfl (by decide) (.slice A0 l.length l.length) l.length (wrCells l) rfl H0.out ⟨vb, 0, none⟩ 1 1 (wrC v) rfl rfl (HC.out _ _ HV.out) (wrC_one v) (le_maxLen (by omega)) (by omega) hB ?_; intro v' w1 hown hgr hb1 hb2)
    go_ret
    exact ⟨v', rfl, by rw [hlen.out.1, hlen.out.2]; exact hown, hgr, hb2.elim .inl (fun e => .inr ⟨_, e, Nat.le_refl _⟩)⟩
  · go_enter Tryz.func53, Tryz.ntmps53
    go_wp2_with (at_builtin; refine wpList_append_own_at _ rfl _ _ 35 rfl B 112 i0 _ 4 48 Tryz.underlying35 hi hz0 hz1 hz2 rfl (by decide) (.slice A0 l.length cap) l.length (wrCells l) rfl H0.out ⟨vb, 0, none⟩ 1 1 (wrC v) rfl rfl (HC.out _ _ HV.out) (wrC_one v) (le_maxLen (by omega)) (by omega) hB ?_; intro v' w1 hown hgr hb1 hb2)
    go_ret
    exact ⟨v', rfl, by rw [hlen.out.1, hlen.out.2]; exact hown, hgr, hb2.elim .inl (fun e => .inr ⟨_, e, Nat.le_refl _⟩)⟩
set_option maxRecDepth 100000 in
set_option maxHeartbeats 2000000 in
/-- Within the row. -/
theorem insW_in (l : List Wr) (k : Nat) (hk : k < l.length) (v : Wr) (B vb : Nat) (v0 : Value) (w : World) (h0 : w.ownsRow B 112 4 v0 l.length (wrCells l)) (hv : w.heap[vb]? = some (.cells (wrC v).toArray 112 (0, 0))) (hne : v0.ownBlock ≠ some vb) (hB : B ≤ w.heap.size) (hn : l.length ≤ 6) :
    Calls Tryz.prog 53 #[v0, .int .i64 (k : Int), .slice (some ⟨vb, 0, none⟩) 1 1] w (InsPostW w B v0 (insK l k v)) := by
  obtain ⟨i0, hi, hz0, hz1, hz2⟩ := info_parts info_wrt
  have hsz : (Tryz.prog.info? 112).map (·.size) = some 4 := by kernel_rfl
  have HV := Lib.hid hv
  have HC := Lib.hid (wr_cells21 v)
  have hvlt : vb < w.heap.size := (Array.getElem?_eq_some_iff.1 hv).1
  clear hv
  have HIc := Lib.hid (wr_ins l k v)
  have HIl : Hid ((insK l k v).length = l.length + 1) := by show _ = _; simp [insK]; omega
  have HTk := Lib.hid (wr_take l k)
  rcases h0.2 with ⟨rfl, hl0⟩ | ⟨g, cap, cur, rfl, hg, hrow, hncap, hcm, hcs, htk⟩
  · omega
  · have HO0 := Lib.hid (fun j u hj => World.ownsRow.cells (g := g) h0 rfl j u hj)
    have HD := Lib.hid (wr_drop l k)
    have HO : Hid (∀ j u, (wrCells (l.drop k))[j]? = some u → w.cell? ((⟨g, k * 4, none⟩ : Addr).add j) = some u) := fun j u hj => by
      rw [← HD.out, List.getElem?_drop] at hj
      have := HO0.out _ u hj
      simpa [Go.WideShapes.add_plain, Nat.add_assoc] using this
    have HOt : Hid (∀ j u, (wrCells (l.take k))[j]? = some u → w.cell? ((⟨g, 0, none⟩ : Addr).add j) = some u) := fun j u hj => by
      rw [← HTk.out] at hj
      rw [List.getElem?_take] at hj
      split at hj
      · exact HO0.out j u hj
      · cases hj
    have HR := Lib.hid hrow
    have HT := Lib.hid htk
    have hglt : g < w.heap.size := (Array.getElem?_eq_some_iff.1 hrow).1
    have HKd : Hid ((wrCells (l.drop k)).length = (l.length - k) * 4) := by show _ = _; rw [wrCells_len, List.length_drop]
    have HKt : Hid ((wrCells (l.take k)).length = k * 4) := by show _ = _; rw [wrCells_len, List.length_take, Nat.min_eq_left (by omega)]
    have HS := Lib.hid hcs
    have HM := Lib.hid hcm
    clear h0 hrow htk hcs hcm
    have hb0 : ((l.length : Int) == 0) = false := by rw [beq_eq_false_iff_ne]; omega
    have hb1 : ((k : Int) == (l.length : Int)) = false := by rw [beq_eq_false_iff_ne]; omega
    have hgv : g ≠ vb := fun e => hne (by rw [e]; rfl)
    clear hne
    have hk0 : (0 : Int) ≤ (k : Int) := by omega
    have hkl : (k : Int) ≤ (l.length : Int) := by omega
    by_cases hroom : l.length + 1 ≤ cap
    · have hcap63 : cap ≤ 9223372036854775807 := by have := HM.out; unfold maxLen at this; omega
      have hov : (callFunc 108 #[.slice (some ⟨vb, 0, none⟩) 1 1, .slice (some ⟨g, (k + 1) * 4, none⟩) (l.length - k) (cap - (k + 1))]).run Tryz.prog w = .ok (.value (.bool false)) w := by
        rw [run_callFunc_extern Tryz.func108 (by kernel_rfl) (by kernel_rfl) (by kernel_rfl) (e := Extern.SlicesOverlaps.overlaps #[35, 35] #[4]) (by kernel_rfl),
          Lib.run_overlaps_apart w 35 4 112 Tryz.underlying35 4 (fun w => by obtain ⟨i1, h1, _, h2, _⟩ := info_parts info_wrt; simp [sizeOf, typeInfo, h1, h2]) ⟨vb, 0, none⟩ ⟨g, (k + 1) * 4, none⟩ 1 1 (l.length - k) (cap - (k + 1)) (fun e => hgv e.symm) 112 112 4 (cap * 4)
            (by simp [World.shape?, HV.out, wrC]) (by simp [World.shape?, HR.out, HS.out]) (by omega) (by simp [World.frozen?, HV.out]) (by simp [World.frozen?, HV.out])]
        rfl
      have hb2 : ¬ (cap < l.length + 1) := by omega
      have hb3 : ¬ ((cap : Int) < (l.length : Int) + 1) := by omega
      have hcp : ¬ (cap = 0) := by omega
      have hcp1 : ¬ (cap = k + 1) := by omega
      have hcp2 : ¬ (cap = k) := by omega
      have hw1 : IntKind.i64.wrap 1 = 1 := by decide
      have hwk : IntKind.i64.wrap ((k : Int) + 1) = (k : Int) + 1 := IntWalk.i64_in _ (by omega)
      have hbd2 : (l.length : Int) + 1 ≤ (cap : Int) := by omega
      have hbd0 : (0 : Int) ≤ (l.length : Int) + 1 := by omega
      have hbd3 : (k : Int) + 1 ≤ (l.length : Int) + 1 := by omega
      have hbd4 : (0 : Int) ≤ (k : Int) + 1 := by omega
      have hbd5 : (k : Int) ≤ (l.length : Int) + 1 := by omega
      go_enter Tryz.func53, Tryz.ntmps53
      go_wp2_with (simp only [hov])
      have hcs := HS.out
      have hcurl : cur.toList.length = cap * 4 := by rw [Array.length_toList, hcs]
      replace hcs := Lib.hid hcs
      replace hcurl := Lib.hid hcurl
      have hR2 : Hid (w.drew.heap[g]? = some (.cells cur.toList.toArray 112 (0, 0))) := by show _ = _; rw [Array.toArray_toList]; exact HR.out
      have hf1 : Hid ((k + 1) * 4 + (wrCells (l.drop k)).length ≤ cur.toList.length) := by show _ ≤ _; rw [hcurl.out, HKd.out]; omega
      have hm1 : Hid ((wrCells (l.drop k)).length = Nat.min (l.length + 1 - k) (l.length - k) * 4) := min_b (by omega) HKd.out
      have hm2 : Hid ((wrC v).length = Nat.min 1 (l.length + 1 - k) * 4) := min_a (by omega) rfl
      go_region_law ((refine step_copy_spliceS rfl _ _ 35 35 rfl 112 4 Tryz.underlying35 hsz g ((k + 1) * 4) (l.length - k) (cap - (k + 1)) ⟨g, k * 4, none⟩ (l.length + 1 - k) (cap - k) (by simp [Act.eval, Act.put]) (by simp [Act.eval, Act.put]) cur.toList 112 hR2.out (wrCells (l.drop k)) hm1.out HO.out hf1.out (wrCs_one _) ?_; intro n2 w2 hrow2 hgr2))
      all_goals
        have hsl : (splice cur.toList ((k + 1) * 4) (wrCells (l.drop k))).length = cap * 4 := by rw [length_splice _ _ _ hf1.out]; exact hcurl.out
        replace hsl := Lib.hid hsl
        have hf2 : Hid (k * 4 + (wrC v).length ≤ (splice cur.toList ((k + 1) * 4) (wrCells (l.drop k))).length) := by show _ ≤ _; rw [hsl.out, wrC_len]; omega
        go_wp2_with (have _h := hrow2; refine wpList_copy_spliceS rfl _ _ 35 35 rfl 112 4 Tryz.underlying35 hsz g (k * 4) (l.length + 1 - k) (cap - k) ⟨vb, 0, none⟩ 1 1 rfl rfl (splice cur.toList ((k + 1) * 4) (wrCells (l.drop k))) 112 hrow2.out (wrC v) hm2.out (fun j u hj => hgr2.cell (HC.out _ _ HV.out j u hj) (by rw [Go.WideShapes.add_plain]; simp; omega)) hf2.out (wrC_one v) ?_; intro n3 w3 hrow3 hgr3)
        go_ret
        refine ⟨.slice (some ⟨g, 0, none⟩) (l.length + 1) cap, rfl, ⟨?_, .inr ⟨g, cap, _, by rw [HIl.out], hg, hrow3.out, by rw [HIl.out]; exact hroom, HM.out, ?_, ?_⟩⟩, ?_, .inl rfl⟩
        · rw [wrCells_len]
        · rw [List.size_toArray, length_splice _ _ _ hf2.out, hsl.out]
        · have hT := HT.out
          have e1 : (k + 1) * 4 = k * 4 + (wrC v).length := by rw [wrC_len]; omega
          have e2 : (l.length + 1) * 4 = k * 4 + (wrC v).length + (wrCells (l.drop k)).length := by rw [wrC_len, HKd.out]; omega
          have := splice_ins cur.toList (k * 4) (wrC v) (wrCells (l.drop k)) (by rw [wrC_len, hcurl.out]; omega)
          rw [HIl.out, HIc.out, e1, e2]
          show List.take _ (splice _ _ _) = _
          rw [this, ← HTk.out, ← hT, List.take_take, Nat.min_eq_left (by omega)]
        · refine ⟨hgr3.os.trans hgr2.os, hgr3.tape.trans hgr2.tape, hgr3.output.trans hgr2.output, Nat.le_trans hgr2.size hgr3.size, fun k' hk' hne => ?_⟩
          have h2 := hgr2.size
          rw [hgr3.block k' (by have h4 : w.drew.heap.size = w.heap.size := rfl; omega) hne, hgr2.block k' hk' hne]
          rfl
    · obtain rfl : cap = l.length := by omega
      clear hroom
      have hc3 : (l.length : Int) < (l.length : Int) + 1 := by omega
      have hcp2 : ¬ (l.length = k) := by omega
      have hwz : IntKind.i64.wrap ((l.length : Int) + 1 - (k : Int)) = (l.length : Int) + 1 - (k : Int) := IntWalk.i64_in _ (by omega)
      have hwz1 : IntKind.i64.wrap ((l.length : Int) + 1) = (l.length : Int) + 1 := IntWalk.i64_in _ (by omega)
      have hwk : IntKind.i64.wrap ((k : Int) + 1) = (k : Int) + 1 := IntWalk.i64_in _ (by omega)
      have hzk : (l.length : Int) + 1 - (k : Int) = ((l.length + 1 - k : Nat) : Int) := by omega
      have hm2 : Hid ((wrC v).length = Nat.min 1 (l.length + 1 - k) * 4) := min_a (by omega) rfl
      have hm3 : Hid ((wrCells (l.drop k)).length = Nat.min (l.length - k) (l.length - k) * 4) := min_a (Nat.le_refl _) HKd.out
      go_enter Tryz.func53, Tryz.ntmps53
      go_wp2_with (first
        | (at_builtin; refine wpList_append_zerosN rfl _ _ 35 3 rfl 112 i0 _ 4 48 Tryz.underlying35 Tryz.underlying3 hi hz0 hz1 hz2 rfl (by decide) g k l.length (l.length + 1 - k) (l.length + 1) (by omega) _ rfl rfl rfl (by omega) (by omega) (wrCells (l.take k)) HKt.out HOt.out (by omega) (by omega) ?_; intro G cur1 w1 hG1 hG2 hcl1 htk1 hrow1 hgr1 hsz1; replace hrow1 := Lib.hid hrow1; replace hcl1 := Lib.hid hcl1; replace hsz1 := Lib.hid hsz1; replace htk1 := Lib.hid htk1; have hG3 : ¬ (G = k + 1) := (by omega); have hG4 : ¬ (G = k) := (by omega); have hkl1 : (k : Int) ≤ (l.length : Int) + 1 := (by omega); have hbd3 : (k : Int) + 1 ≤ (l.length : Int) + 1 := (by omega); have hbd4 : (0 : Int) ≤ (k : Int) + 1 := (by omega); have hf3 : Hid (k * 4 + (wrC v).length ≤ cur1.length) := (show k * 4 + (wrC v).length ≤ cur1.length by rw [hcl1.out, wrC_len]; omega))
        | (have _h := hrow1; refine wpList_copy_spliceS rfl _ _ 35 35 rfl 112 4 Tryz.underlying35 hsz w.heap.size (k * 4) (l.length + 1 - k) (G - k) ⟨vb, 0, none⟩ 1 1 rfl rfl cur1 112 hrow1.out (wrC v) hm2.out (fun j u hj => hgr1.cell (HC.out _ _ HV.out j u hj) (by simp)) hf3.out (wrC_one v) ?_; intro n2 w2 hrow2 hgr2))
      have hsl : (splice cur1 (k * 4) (wrC v)).length = G * 4 := by rw [length_splice _ _ _ hf3.out]; exact hcl1.out
      replace hsl := Lib.hid hsl
      have hf4 : Hid ((k + 1) * 4 + (wrCells (l.drop k)).length ≤ (splice cur1 (k * 4) (wrC v)).length) := by show _ ≤ _; rw [hsl.out, HKd.out]; omega
      go_region_law ((refine step_copy_spliceS rfl _ _ 35 35 rfl 112 4 Tryz.underlying35 hsz w.heap.size ((k + 1) * 4) (l.length - k) (G - (k + 1)) ⟨g, k * 4, none⟩ (l.length - k) (l.length - k) (by simp [Act.eval, Act.put]) (by simp [Act.eval, Act.put]) (splice cur1 (k * 4) (wrC v)) 112 hrow2.out (wrCells (l.drop k)) hm3.out (fun j u hj => hgr2.cell (hgr1.cell (HO.out j u hj) (by simp)) (by rw [Go.WideShapes.add_plain]; simp; omega)) hf4.out (wrCs_one _) ?_; intro n3 w3 hrow3 hgr3))
      all_goals
        go_wp2
        go_ret
        refine ⟨.slice (some ⟨w.heap.size, 0, none⟩) (l.length + 1) G, rfl, ⟨?_, .inr ⟨w.heap.size, G, _, by rw [HIl.out], hB, hrow3.out, by rw [HIl.out]; exact hG1, by unfold maxLen; omega, ?_, ?_⟩⟩, ?_, .inr ⟨w.heap.size, rfl, Nat.le_refl _⟩⟩
        · rw [wrCells_len]
        · rw [List.size_toArray, length_splice _ _ _ hf4.out, hsl.out]
        · have e1 : (k + 1) * 4 = k * 4 + (wrC v).length := by rw [wrC_len]; omega
          have e2 : (l.length + 1) * 4 = k * 4 + (wrC v).length + (wrCells (l.drop k)).length := by rw [wrC_len, HKd.out]; omega
          have := splice_grow cur1 (k * 4) (wrC v) (wrCells (l.drop k)) hf3.out
          rw [HIl.out, HIc.out, e1, e2]
          show List.take _ (splice _ _ _) = _
          rw [this, htk1.out]
        · have hsz1' := hsz1.out
          have h2 := hgr2.size
          refine ⟨hgr3.os.trans (hgr2.os.trans hgr1.os), hgr3.tape.trans (hgr2.tape.trans hgr1.tape), hgr3.output.trans (hgr2.output.trans hgr1.output), by have := hgr3.size; have h4 : w2.drew.heap.size = w2.heap.size := rfl; omega, fun k' hk' _ => ?_⟩
          rw [hgr3.block k' (by show k' < w2.heap.size; omega) (by simp; omega), show w2.drew.heap[k']? = w2.heap[k']? from rfl, hgr2.block k' (by omega) (by simp; omega), hgr1.block k' hk' (by simp)]
/-- slices.Insert at writes. -/
theorem insW_any (l : List Wr) (k : Nat) (hk : k ≤ l.length) (v : Wr) (B vb : Nat) (v0 : Value) (w : World) (h0 : w.ownsRow B 112 4 v0 l.length (wrCells l)) (hv : w.heap[vb]? = some (.cells (wrC v).toArray 112 (0, 0))) (hne : v0.ownBlock ≠ some vb) (hB : B ≤ w.heap.size) (hn : l.length ≤ 6) :
    Calls Tryz.prog 53 #[v0, .int .i64 (k : Int), .slice (some ⟨vb, 0, none⟩) 1 1] w (InsPostW w B v0 (insK l k v)) := by
  rcases Nat.lt_or_ge k l.length with q | q
  · exact insW_in l k q v B vb v0 w h0 hv hne hB hn
  · obtain rfl : k = l.length := by omega
    exact insW_end l v B vb v0 w h0 hv hB hn
end Go.Proofs.YtjgloipgnnigmaaGreatDoor
/- The client's Write, where a write is put in. -/
namespace Go.Proofs.YtjgloipgnnigmaaGreatDoor
open Go.RowKit Go.Shelf Go.Sort

section
variable {w : World} {B p : Nat} {K : CliK} {x : CliD} {O : Nat → Prop}
set_option maxRecDepth 100000 in
set_option maxHeartbeats 4000000 in
/-- Where a write is put in. -/
theorem write_ins {N : Nat} (h : CliAt w B p K x O) (hB : B ≤ w.heap.size) (hI : CliInv K.c N x) (hT : Tabs w) (key : ByteArray) (hk : key.size ≤ maxLen) (v : Val) (hv : v.Good) (hK : writeK x key v = 4) :
    Calls Tryz.prog 15 #[.pointer (some ⟨p, 0, none⟩), .string key, .agg #[.int .i64 v.kind, .int .u64 (v.bits : Int), .string v.text]] w (CliPost w B p K O (.int .i64 (writeE x key v)) (writeD x key v)) := by
  have s1 : x.state = 1 := by
    rcases Nat.decEq x.state 1 with q | q
    · simp [writeK, q] at hK
    · exact q
  have hfk : keyB key = true ∧ formedV v = true := by
    rcases hq : (keyB key && formedV v) with _ | _
    · simp [writeK, s1, hq] at hK
    · simpa using hq
  obtain ⟨hfk, hfv⟩ := hfk
  have fa : atK x.wrs key = false := by
    rcases hq : atK x.wrs key with _ | _
    · rfl
    · simp [writeK, s1, hfk, hfv, hq] at hK
  have fl : x.wrs.length < 6 := by
    rcases Nat.lt_or_ge x.wrs.length 6 with q | q
    · exact q
    · simp [writeK, s1, hfk, hfv, fa, q] at hK
  have hle := low_le x.wrs key
  have HR : Hid (writeE x key v = 0 ∧ writeD x key v = { x with wrs := insK x.wrs (lowK x.wrs key) ⟨key, v⟩ }) := by show _ ∧ _; simp [writeE, writeD, hK]
  obtain ⟨W, eW, HB, d0, d1, d2⟩ := box3 w (.int .i64 v.kind) (.int .u64 (v.bits : Int)) (.string v.text) 28
  have hW := Lib.hid (h.later HB)
  have hTW := Lib.hid (hT.later HB)
  have hlo := Lib.hid h.lt'
  have q1 : ((x.state : Int) == 1) = true := by rw [beq_iff_eq]; omega
  have HF : Hid (∀ wz, Below W.heap.size W wz → Calls Tryz.prog 52 #[.agg #[.int .i64 v.kind, .int .u64 (v.bits : Int), .string v.text]] wz fun e w' => e = .returned (.bool true) ∧ Below wz.heap.size wz w') := fun wz hb => by
    have := formedV_any v.kind v.bits v.text hv.t wz (hTW.out.later hb)
    rw [← hfv]
    exact this
  have HSe : Hid (∀ wz, CliAt wz B p K x O → Calls Tryz.prog 38 #[.pointer (some ⟨p, 0, none⟩), .string key] wz (SrchPost wz (lowK x.wrs key) false)) := fun wz hz => by
    have := wrote_any hz key hI.wr hI.wn
    rwa [fa] at this
  generalize lowK x.wrs key = lk at hle HR HSe
  replace hfk := Lib.hid hfk
  replace hfv := Lib.hid hfv
  have q6 : decide ((6 : Int) ≤ (x.wrs.length : Int)) = false := by rw [decide_eq_false_iff_not]; omega
  have q6b : decide (6 ≤ x.wrs.length) = false := by rw [decide_eq_false_iff_not]; omega
  have HIns : Hid (∀ wz vw vb, wz.ownsRow B 112 4 vw x.wrs.length (wrCells x.wrs) → wz.heap[vb]? = some (.cells #[.string key, .int .i64 v.kind, .int .u64 (v.bits : Int), .string v.text] 112 (0, 0)) → vw.ownBlock ≠ some vb → B ≤ wz.heap.size → Calls Tryz.prog 53 #[vw, .int .i64 (lk : Int), .slice (some ⟨vb, 0, none⟩) 1 1] wz (InsPostW wz B vw (insK x.wrs lk ⟨key, v⟩))) := fun wz vw vb a1 a2 a3 a4 =>
    insW_any x.wrs lk hle ⟨key, v⟩ B vb vw wz a1 a2 a3 a4 (by omega)
  clear s1 hI hK fa fl hle
  go_enter Tryz.func15, Tryz.ntmps15
  go_wp2_with (first
    | (go_at_call 35; refine (in_any hW.out 1 true q1).mono ?_; rintro e w1 ⟨rfl, rfl⟩)
    | (go_at_call 36; refine (calls_few hfk.out (key_any key _ hk)).mono ?_; rintro e w2 ⟨rfl, hb⟩; replace d0 := keep hb d0; replace d1 := keep hb d1; replace d2 := keep hb d2)
    | (go_at_call 52; refine (HF.out _ hb).mono ?_; rintro e w3 ⟨rfl, hb3⟩; have hb4 := Lib.hid (keepB hb hb3); replace d0 := keep hb3 d0; replace d1 := keep hb3 d1; replace d2 := keep hb3 d2)
    | (go_at_call 38; refine (HSe.out _ (CliAt.later hW.out hb4.out)).mono ?_; rintro e w5 ⟨rfl, hb5⟩; have hb6 := Lib.hid (keepB hb4.out hb5); replace d0 := keep hb5 d0; replace d1 := keep hb5 d1; replace d2 := keep hb5 d2; obtain ⟨vr, vw, va, vk, h5⟩ := CliAt.later hW.out hb6.out; obtain ⟨_, _, _, _, _, _, _, _, _, c9, _⟩ := h5.cs; obtain ⟨A9, cap9, e9, _⟩ := own_wrs h5.roww; subst e9; have f9 := h5.fz 9; have H5 := Lib.hid h5; clear h5))
  have hBW := HB.size
  have hd6 : Below w5.heap.size w5 (w5.alloc (.cells #[.string key, .int .i64 v.kind, .int .u64 (v.bits : Int), .string v.text] 112)).drew := below_drew (below1 _ _)
  have H6 := Lib.hid (H5.out.later hd6)
  have hr6 : (w5.alloc (.cells #[.string key, .int .i64 v.kind, .int .u64 (v.bits : Int), .string v.text] 112)).drew.heap[w5.heap.size]? = some (.cells #[.string key, .int .i64 v.kind, .int .u64 (v.bits : Int), .string v.text] 112 (0, 0)) := heap_alloc_new w5 _
  have nO : Hid (¬ O w.heap.size) := fun e => by have := (hlo.out _ e).2; omega
  have hsz5 := hb6.out.size
  have hne6 : Hid ((Value.slice A9 x.wrs.length cap9).ownBlock ≠ some w5.heap.size) := fun e => by have := (hlo.out _ (H5.out.miw _ e).1).2; omega
  have hB6 := Lib.hid (Nat.le_trans hB (Nat.le_trans hBW (Nat.le_trans hsz5 hd6.size)))
  have j0 := keep hd6 d0
  have j1 := keep hd6 d1
  have j2 := keep hd6 d2
  have j9 := keep hd6 c9
  go_region_law (first
      | (go_simp; go_at_call 53; refine (HIns.out _ _ _ H6.out.roww hr6 hne6.out hB6.out).mono ?_; rintro e w7 ⟨v7, rfl, hO7, hg7, hv7⟩; obtain ⟨A7, c7, rfl⟩ := own_form hO7; obtain ⟨i9, fi9⟩ := CliIn.cellw H6.out hg7; have ho7 : Out O _ w7 := Out.of_grown hg7 (fun k e => (H6.out.miw k e).1); have i0 := ho7.cell j0 nO.out; have i1 := ho7.cell j1 nO.out; have i2 := ho7.cell j2 nO.out; have ho8 : Out O _ (w7.setCell ⟨p, 9, none⟩ (.slice A7 (insK x.wrs lk ⟨key, v⟩).length c7)) := out_p H6.out.hp ho7; have k0 := ho8.cell j0 nO.out; have k1 := ho8.cell j1 nO.out; have k2 := ho8.cell j2 nO.out; have hG7 := Lib.hid (H6.out.groww hB6.out hg7 hO7 (fun g hg => hv7.elim (fun e => .inl (e ▸ hg)) (fun ⟨g', e1, e2⟩ => .inr (by rw [hg] at e1; cases e1; exact e2)))); replace ho8 := Lib.hid ho8; replace hg7 := Lib.hid hg7; clear hO7 hv7))
  all_goals
    go_wp2
    go_ret
    rw [HR.out.1, HR.out.2]
    have z5 := hsz5
    have z6 := hd6.size
    have z8 : (w7.setCell ⟨p, 9, none⟩ (.slice A7 (insK x.wrs lk ⟨key, v⟩).length c7)).heap.size = w7.heap.size := by simp [World.setCell]
    have hF := ((Out.of_below (keepB HB (keepB hb6.out hd6)) : Out O w _).trans' ho8.out)
    refine ⟨rfl, ⟨_, _, _, _, hG7.out.mono (fun k hk => ?_) (fun k hk => ?_)⟩, hF⟩
    · exact hk.elim .inl (fun q => .inr ⟨by omega, by rw [z8]; exact q.2⟩)
    · exact hk.elim (fun q => ⟨(hlo.out k q).1, Nat.lt_of_lt_of_le (hlo.out k q).2 hF.size⟩) (fun q => ⟨by omega, q.2⟩)
end
end Go.Proofs.YtjgloipgnnigmaaGreatDoor
/- Layer 8's cuts: txn.Reads and Writes. -/
namespace Go.Proofs.YtjgloipgnnigmaaGreatDoor
open Go.RowKit Go.Shelf

theorem info_rd : (Tryz.prog.info? 75).map (fun i => (i.zero, i.size, i.bytes)) = some (some (.agg #[.string ByteArray.empty, .int .u64 0]), 2, 24) := by kernel_rfl
theorem info_wr : (Tryz.prog.info? 112).map (fun i => (i.zero, i.size, i.bytes)) = some (some (.agg #[.string ByteArray.empty, .int .i64 0, .int .u64 0, .string ByteArray.empty]), 4, 48) := by kernel_rfl
theorem box24 (w : World) (a b a' b' c' d' : Value) (t t' : TypeId) : ∃ W : World, (w.alloc (.cells #[a, b] t)).alloc (.cells #[a', b', c', d'] t') = W ∧ Below w.heap.size w W ∧ W.cell? ⟨w.heap.size, 0, none⟩ = some a ∧ W.cell? ⟨w.heap.size, 1, none⟩ = some b ∧ W.cell? ⟨w.heap.size + 1, 0, none⟩ = some a' ∧ W.cell? ⟨w.heap.size + 1, 1, none⟩ = some b' ∧ W.cell? ⟨w.heap.size + 1, 2, none⟩ = some c' ∧ W.cell? ⟨w.heap.size + 1, 3, none⟩ = some d' :=
  ⟨_, rfl, below2 _ _ _, by simp, by simp, by simp, by simp, by simp, by simp⟩
theorem cells_two (w : World) (u v : Value) (t : TypeId) : ∀ (j : Nat) (x : Value), [u, v][j]? = some x → (w.alloc (.cells #[u, v] t)).cell? ((⟨w.heap.size, 0, none⟩ : Addr).add j) = some x := by
  intro j x hx
  match j with
  | 0 => simp at hx; subst hx; simp [Addr.add]
  | 1 => simp at hx; subst hx; simp [Addr.add]
  | j + 2 => simp at hx
theorem cells_four (w : World) (u v y z : Value) (t : TypeId) : ∀ (j : Nat) (x : Value), [u, v, y, z][j]? = some x → (w.alloc (.cells #[u, v, y, z] t)).cell? ((⟨w.heap.size, 0, none⟩ : Addr).add j) = some x := by
  intro j x hx
  match j with
  | 0 => simp at hx; subst hx; simp [Addr.add]
  | 1 => simp at hx; subst hx; simp [Addr.add]
  | 2 => simp at hx; subst hx; simp [Addr.add]
  | 3 => simp at hx; subst hx; simp [Addr.add]
  | j + 4 => simp at hx
theorem one_cell_rd {s : ByteArray} {n : Nat} : ∀ u ∈ [Value.string s, Value.int .u64 n], u.oneCell' = true := fun u hu => by
  simp at hu; rcases hu with rfl | rfl <;> rfl
theorem one_cell_wr {s t : ByteArray} {z : Int} {n : Nat} : ∀ u ∈ [Value.string s, Value.int .i64 z, Value.int .u64 n, Value.string t], u.oneCell' = true := fun u hu => by
  simp at hu; rcases hu with rfl | rfl | rfl | rfl <;> rfl
theorem read_snoc {c : Cfg} {t : Tx} {g : Int} {k : Nat} {s : ByteArray} {n : Nat} (hk : k < t.rds.length) (h : t.rds.getD k noRd = ⟨s, n⟩) :
    (t.rds.take (k + 1)).filter (pickR c t g) = (t.rds.take k).filter (pickR c t g) ++ if formedB c && formedT t && (homeZ c s == g) then [⟨s, n⟩] else [] := by
  rw [filter_take _ noRd _ _ hk, h]; rfl
theorem write_snoc {c : Cfg} {t : Tx} {g : Int} {k : Nat} {s : ByteArray} {v : Val} (hk : k < t.wrs.length) (h : t.wrs.getD k noWr = ⟨s, v⟩) :
    (t.wrs.take (k + 1)).filter (pickW c t g) = (t.wrs.take k).filter (pickW c t g) ++ if formedB c && formedT t && (homeZ c s == g) then [⟨s, v⟩] else [] := by
  rw [filter_take _ noWr _ _ hk, h]; rfl

end Go.Proofs.YtjgloipgnnigmaaGreatDoor
