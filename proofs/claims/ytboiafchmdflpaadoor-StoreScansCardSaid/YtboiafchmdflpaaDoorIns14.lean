/- Rows of versions; slices.Insert(s, 0, v) at versions. -/
import Derived.Test.YtboiafchmdflpaaDoorCopyS
import Derived.Test.YtboiafchmdflpaaDoorSt14
import Derived.Deep.AppendLies
import Derived.WalkSpells
import Derived.IntWalk
import Derived.Outline
namespace Go.Proofs.YtboiafchmdflpaaDoor
open Go.RowKit

def verC (v : Ver) : List Value := [.int .u64 (v.num : Int), .int .i64 v.val.kind, .int .u64 (v.val.bits : Int), .string v.val.text]
def verCs (l : List Ver) : List Value := l.flatMap verC
theorem verCs_cons (v : Ver) (l : List Ver) : verCs (v :: l) = verC v ++ verCs l := rfl
theorem verCs_len : ∀ l : List Ver, (verCs l).length = l.length * 4
  | [] => rfl
  | x :: l => by have := verCs_len l; rw [verCs_cons, List.length_append, this]; simp [verC]; omega
theorem verC_one (v : Ver) : ∀ u ∈ verC v, u.oneCell' = true := fun u hu => by
  simp only [verC, List.mem_cons, List.not_mem_nil, or_false] at hu
  rcases hu with rfl | rfl | rfl | rfl <;> rfl
theorem verCs_one (l : List Ver) : ∀ u ∈ verCs l, u.oneCell' = true := fun u hu => by
  obtain ⟨x, _, hu⟩ := List.mem_flatMap.1 hu
  exact verC_one x u hu
theorem info_ver : (Tryd.prog.info? 94).map (fun i => (i.zero, i.size, i.bytes)) = some (some (.agg #[.int .u64 0, .int .i64 0, .int .u64 0, .string ByteArray.empty]), 4, 40) := by kernel_rfl
/-- A slice of versions of the call's own. -/
def OwnV (w : World) (B : Nat) (v : Value) (l : List Ver) : Prop := w.ownsRow B 94 4 v l.length (verCs l)
def InsPost (w : World) (B : Nat) (v0 : Value) (l : List Ver) (e : Ending) (w' : World) : Prop :=
  ∃ v', e = .returned v' ∧ OwnV w' B v' l ∧ w.grownBy w' v0.ownBlock ∧ (v'.ownBlock = v0.ownBlock ∨ ∃ g, v'.ownBlock = some g ∧ w.heap.size ≤ g)

theorem min_fst {a b n k : Nat} (h : a ≤ b) (hn : n = a * k) : n = Nat.min a b * k := by rw [show Nat.min a b = a from Nat.min_eq_left h]; exact hn
theorem verCs_append (l m : List Ver) : verCs (l ++ m) = verCs l ++ verCs m := by simp [verCs]
theorem one_cells (v : Ver) : ∀ (w : World) (vb : Nat), w.heap[vb]? = some (.cells (verC v).toArray 94 (0, 0)) → ∀ j u, (verC v)[j]? = some u → w.cell? ((⟨vb, 0, none⟩ : Addr).add j) = some u := fun w vb h j u hu => by
  rw [Go.WideShapes.add_plain, cell_of_row w vb (0 + j) _ _ (0, 0) h, ← hu]
  simp
theorem min_snd {a b n k : Nat} (h : b ≤ a) (hn : n = b * k) : n = Nat.min a b * k := by rw [show Nat.min a b = b from Nat.min_eq_right h]; exact hn
theorem splice_two {α : Type} (L c x : List α) : (splice (splice L 0 c) c.length x).take (c.length + x.length) = c ++ x := by
  have e : (splice L 0 c) = c ++ L.drop c.length := by simp [splice]
  rw [e, splice, List.take_left, ← List.append_assoc]
  exact List.take_left' (by simp)
theorem splice_two' {α : Type} (L c x : List α) (h : c.length + x.length ≤ L.length) : (splice (splice L c.length x) 0 c).take (c.length + x.length) = c ++ x := by
  have e : (splice L c.length x).drop c.length = x ++ L.drop (c.length + x.length) := by
    rw [splice, List.drop_append_of_le_length (by simp; omega), List.drop_take_self, List.nil_append]
  rw [splice, List.take_zero, List.nil_append, Nat.zero_add, e, ← List.append_assoc]
  exact List.take_left' (by simp)
set_option maxRecDepth 100000 in
set_option maxHeartbeats 2000000 in
theorem insert_any (l : List Ver) (v : Ver) (B vb : Nat) (v0 : Value) (w : World) (h0 : OwnV w B v0 l) (hv : w.heap[vb]? = some (.cells (verC v).toArray 94 (0, 0))) (hne : v0.ownBlock ≠ some vb) (hB : B ≤ w.heap.size) (hn : l.length ≤ 900000) (hnn : l = [] → v0 = .slice none 0 0) :
    Calls Tryd.prog 55 #[v0, .int .i64 0, .slice (some ⟨vb, 0, none⟩) 1 1] w (InsPost w B v0 (v :: l)) := by
  obtain ⟨i0, hi, hz0, hz1, hz2⟩ := info_parts info_ver
  have hsz : (Tryd.prog.info? 94).map (·.size) = some 4 := by kernel_rfl
  have H0 := Lib.hid h0
  have HV := Lib.hid hv
  have hvc := one_cells v
  have HC := Lib.hid hvc
  clear hvc
  have hvlt : vb < w.heap.size := (Array.getElem?_eq_some_iff.1 hv).1
  clear hv
  rcases h0.2 with ⟨rfl, hl0⟩ | ⟨g, cap, cur, rfl, hg, hrow, hncap, hcm, hcs, htk⟩
  · have hl : l = [] := List.eq_nil_of_length_eq_zero hl0
    subst hl
    clear h0 hl0
    go_enter Tryd.func55, Tryd.ntmps55
    go_wp2_with (at_builtin; refine wpList_append_own_at _ rfl _ _ 91 rfl B 94 i0 _ 4 40 Tryd.underlying91 hi hz0 hz1 hz2 rfl (by decide) (.slice none 0 0) 0 [] rfl (own_nil _ _ _ _) ⟨vb, 0, none⟩ 1 1 (verC v) rfl rfl (HC.out _ _ HV.out) (verC_one v) (le_maxLen (by omega)) (by omega) hB ?_; intro v' w1 hown hgr hb1 hb2)
    go_ret
    refine ⟨v', rfl, ?_, hgr, ?_⟩
    · exact hown
    · rcases hb2 with e | e
      · exact .inl e
      · exact .inr ⟨_, e, Nat.le_refl _⟩
  · have hl : l ≠ [] := fun e => by cases hnn e
    have hpos : 0 < l.length := List.length_pos_iff.2 hl
    have HO := Lib.hid (fun j u hj => World.ownsRow.cells (g := g) h0 rfl j u hj)
    have HR := Lib.hid hrow
    have HT := Lib.hid htk
    have hglt : g < w.heap.size := (Array.getElem?_eq_some_iff.1 hrow).1
    have HK := Lib.hid (verCs_len l)
    have HS := Lib.hid hcs
    have HM := Lib.hid hcm
    clear h0 hnn hl hrow htk hcs hcm
    have hb0 : ((l.length : Int) == 0) = false := by rw [beq_eq_false_iff_ne]; omega
    have hb1 : ((0 : Int) == (l.length : Int)) = false := by rw [beq_eq_false_iff_ne]; omega
    have hgv : g ≠ vb := fun e => hne (by rw [e]; rfl)
    clear hne
    by_cases hroom : l.length + 1 ≤ cap
    · have hov : (callFunc 89 #[.slice (some ⟨vb, 0, none⟩) 1 1, .slice (some ⟨g, 4, none⟩) l.length (cap - 1)]).run Tryd.prog w = .ok (.value (.bool false)) w := by
        rw [run_callFunc_extern Tryd.func89 (by kernel_rfl) (by kernel_rfl) (by kernel_rfl) (e := Extern.SlicesOverlaps.overlaps #[91, 91] #[4]) (by kernel_rfl),
          Lib.run_overlaps_apart w 91 4 94 Tryd.underlying91 4 (fun w => by obtain ⟨i1, h1, _, h2, _⟩ := info_parts info_ver; simp [sizeOf, typeInfo, h1, h2]) ⟨vb, 0, none⟩ ⟨g, 4, none⟩ 1 1 l.length (cap - 1) (fun e => hgv e.symm) 94 94 4 (cap * 4)
            (by simp [World.shape?, HV.out, verC]) (by simp [World.shape?, HR.out, HS.out]) (by omega) (by simp [World.frozen?, HV.out]) (by simp [World.frozen?, HV.out])]
        rfl
      have hb2 : ¬ (cap < l.length + 1) := by omega
      have hb3 : ¬ ((cap : Int) < (l.length : Int) + 1) := by omega
      have hcp : ¬ (cap = 0) := by omega
      have hcp1 : ¬ (cap = 1) := by omega
      have hw1 : IntKind.i64.wrap 1 = 1 := by decide
      have hbd : (1 : Int) ≤ (l.length : Int) + 1 := by omega
      have hbd2 : (l.length : Int) + 1 ≤ (cap : Int) := by omega
      have hbd0 : (0 : Int) ≤ (l.length : Int) + 1 := by omega
      have hcap63 : cap ≤ 9223372036854775807 := by have := HM.out; unfold maxLen at this; omega
      go_enter Tryd.func55, Tryd.ntmps55
      go_wp2_with (simp only [hov])
      have hcs := HS.out
      have hcurl : cur.toList.length = cap * 4 := by rw [Array.length_toList, hcs]
      replace hcs := Lib.hid hcs
      replace hcurl := Lib.hid hcurl
      go_region_law ((refine step_copy_spliceS rfl _ _ 91 91 rfl 94 4 Tryd.underlying91 hsz g 4 l.length (cap - 1) ⟨g, 0, none⟩ (l.length + 1) cap (by simp [Act.eval, Act.put]) (by simp [Act.eval, Act.put]) cur.toList 94 (by exact HR.out) (verCs l) (min_snd (by omega) HK.out) HO.out (by rw [hcurl.out, HK.out]; omega) (verCs_one l) ?_; intro n2 w2 hrow2 hgr2))
      all_goals
        have hsl : (splice cur.toList 4 (verCs l)).length = cap * 4 := by rw [length_splice _ _ _ (by rw [hcurl.out, HK.out]; omega)]; exact hcurl.out
        replace hsl := Lib.hid hsl
        go_wp2_with (have _h := hrow2; refine wpList_copy_spliceS rfl _ _ 91 91 rfl 94 4 Tryd.underlying91 hsz g 0 (l.length + 1) cap ⟨vb, 0, none⟩ 1 1 rfl rfl (splice cur.toList 4 (verCs l)) 94 hrow2.out (verC v) (min_fst (by omega) rfl) (fun j u hj => hgr2.cell (HC.out _ _ HV.out j u hj) (by rw [Go.WideShapes.add_plain]; simp; omega)) (by rw [hsl.out]; show 0 + 4 ≤ _; omega) (verC_one v) ?_; intro n3 w3 hrow3 hgr3)
        go_ret
        have hlen : (verC v).length + (verCs l).length ≤ cur.toList.length := by rw [HK.out, hcurl.out]; show 4 + _ ≤ _; omega
        refine ⟨_, rfl, ⟨?_, .inr ⟨g, cap, _, rfl, hg, hrow3.out, hroom, HM.out, ?_, ?_⟩⟩, ?_, .inl rfl⟩
        · rw [verCs_len]
        · have := length_splice (splice cur.toList 4 (verCs l)) 0 (verC v) (by rw [hsl.out]; show 0 + 4 ≤ _; omega)
          rw [List.size_toArray, this, hsl.out]
        · have := splice_two' cur.toList (verC v) (verCs l) hlen
          rw [HK.out] at this
          rw [show (v :: l).length * 4 = (verC v).length + l.length * 4 by show (l.length + 1) * 4 = 4 + _; omega]
          exact this
        · refine ⟨hgr3.os.trans hgr2.os, hgr3.tape.trans hgr2.tape, hgr3.output.trans hgr2.output, Nat.le_trans hgr2.size hgr3.size, fun k hk hne => ?_⟩
          have h2 := hgr2.size
          rw [hgr3.block k (by have h4 : w.drew.heap.size = w.heap.size := rfl; omega) hne, hgr2.block k hk hne]
          rfl
    · have hc3 : (cap : Int) < (l.length : Int) + 1 := by omega
      go_enter Tryd.func55, Tryd.ntmps55
      go_wp2_with (first
        | (at_builtin; refine wpList_append_zeros rfl _ _ 91 3 rfl 94 i0 _ 4 40 Tryd.underlying91 Tryd.underlying3 hi hz0 hz1 hz2 rfl (by decide) (some ⟨g, 0, none⟩) cap (l.length + 1) _ rfl rfl (by simp) (by omega) (by omega) (by omega) (by omega) ?_; intro G cur1 w1 hG1 hG2 hcl1 hrow1 hgr1 hsz1; replace hrow1 := Lib.hid hrow1; replace hcl1 := Lib.hid hcl1; replace hsz1 := Lib.hid hsz1)
        | (have _h := hrow1; refine wpList_copy_spliceS rfl _ _ 91 91 rfl 94 4 Tryd.underlying91 hsz w.heap.size 0 (l.length + 1) G ⟨vb, 0, none⟩ 1 1 rfl rfl cur1 94 hrow1.out (verC v) (min_fst (by omega) rfl) (fun j u hj => hgr1.cell (HC.out _ _ HV.out j u hj) (by simp)) (by have := hcl1.out; show 0 + 4 ≤ _; omega) (verC_one v) ?_; intro n2 w2 hrow2 hgr2))
      have hG3 : ¬ (G = 1) := by omega
      have hcp : ¬ (cap = 0) := by omega
      have hw1 : IntKind.i64.wrap 1 = 1 := by decide
      have hbd : (1 : Int) ≤ (l.length : Int) + 1 := by omega
      have hsl : (splice cur1 0 (verC v)).length = G * 4 := by rw [length_splice _ _ _ (by have := hcl1.out; show 0 + 4 ≤ _; omega)]; exact hcl1.out
      replace hsl := Lib.hid hsl
      go_region_law ((refine step_copy_spliceS rfl _ _ 91 91 rfl 94 4 Tryd.underlying91 hsz w.heap.size 4 l.length (G - 1) ⟨g, 0, none⟩ l.length cap (by simp [Act.eval, Act.put]) (by simp [Act.eval, Act.put]) (splice cur1 0 (verC v)) 94 hrow2.out (verCs l) (min_fst (Nat.le_refl _) HK.out) (fun j u hj => hgr2.cell (hgr1.cell (HO.out j u hj) (by simp)) (by rw [Go.WideShapes.add_plain]; simp; omega)) (by rw [hsl.out, HK.out]; omega) (verCs_one l) ?_; intro n3 w3 hrow3 hgr3))
      all_goals
        go_wp2
        go_ret
        refine ⟨_, rfl, ⟨?_, .inr ⟨w.heap.size, G, _, rfl, hB, hrow3.out, hG1, by unfold maxLen; omega, ?_, ?_⟩⟩, ?_, .inr ⟨w.heap.size, rfl, Nat.le_refl _⟩⟩
        · rw [verCs_len]
        · have := length_splice (splice cur1 0 (verC v)) 4 (verCs l) (by rw [hsl.out, HK.out]; omega)
          rw [List.size_toArray, this, hsl.out]
        · have := splice_two cur1 (verC v) (verCs l)
          rw [HK.out] at this
          rw [show (v :: l).length * 4 = (verC v).length + l.length * 4 by show (l.length + 1) * 4 = 4 + _; omega]
          exact this
        · have hsz1' := hsz1.out
          have h2 := hgr2.size
          refine ⟨hgr3.os.trans (hgr2.os.trans hgr1.os), hgr3.tape.trans (hgr2.tape.trans hgr1.tape), hgr3.output.trans (hgr2.output.trans hgr1.output), by have := hgr3.size; have h4 : w2.drew.heap.size = w2.heap.size := rfl; omega, fun k hk _ => ?_⟩
          rw [hgr3.block k (by show k < w2.heap.size; omega) (by simp; omega), show w2.drew.heap[k]? = w2.heap[k]? from rfl, hgr2.block k (by omega) (by simp; omega), hgr1.block k hk (by simp)]
end Go.Proofs.YtboiafchmdflpaaDoor
