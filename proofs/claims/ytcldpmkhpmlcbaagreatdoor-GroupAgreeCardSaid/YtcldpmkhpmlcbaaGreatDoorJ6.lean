/- How the reference's store lies in memory; Seen. -/
import Derived.Test.YtcldpmkhpmlcbaaGreatDoorJ5
import Derived.Test.YtcldpmkhpmlcbaaGreatDoorJ1
import Derived.Deep.RegionHeld3
set_option linter.unusedVariables false
set_option linter.unusedSimpArgs false
namespace Go.Proofs.YtcldpmkhpmlcbaaGreatDoor
open Go.RowKit Go.Maps Go.Shelf Go.Sort

def itC (x : It) : List Value := [.string x.key, .int .i64 x.val.kind, .int .u64 (x.val.bits : Int), .string x.val.text, .int .u64 (x.num : Int)]
def itCs (l : List It) : List Value := l.flatMap itC
def ItsAt (w : World) (A : Option Addr) (l : List It) : Prop :=
  ∀ i, i < l.length → ∃ b off, A = some ⟨b, off, none⟩ ∧ w.cell? ⟨b, off + i * 5, none⟩ = some (.string (l.getD i noIt).key) ∧ w.cell? ⟨b, off + i * 5 + 1, none⟩ = some (.int .i64 (l.getD i noIt).val.kind) ∧
    w.cell? ⟨b, off + i * 5 + 2, none⟩ = some (.int .u64 ((l.getD i noIt).val.bits : Nat)) ∧ w.cell? ⟨b, off + i * 5 + 3, none⟩ = some (.string (l.getD i noIt).val.text) ∧ w.cell? ⟨b, off + i * 5 + 4, none⟩ = some (.int .u64 ((l.getD i noIt).num : Nat))
theorem ItsAt.later {w w' : World} {A : Option Addr} {l : List It} (h : ItsAt w A l) (hb : Below w.heap.size w w') : ItsAt w' A l := by
  intro i hi
  obtain ⟨b, off, e, h0, h1, h2, h3, h4⟩ := h i hi
  exact ⟨b, off, e, keep hb h0, keep hb h1, keep hb h2, keep hb h3, keep hb h4⟩
theorem ItsAt.at' {w : World} {A : Option Addr} {l : List It} (h : ItsAt w A l) {k : Nat} (hk : k < l.length) :
    ∃ b off s z m t n, A = some ⟨b, off, none⟩ ∧ w.cell? ⟨b, off + k * 5, none⟩ = some (.string s) ∧ w.cell? ⟨b, off + k * 5 + 1, none⟩ = some (.int .i64 z) ∧
      w.cell? ⟨b, off + k * 5 + 2, none⟩ = some (.int .u64 (m : Nat)) ∧ w.cell? ⟨b, off + k * 5 + 3, none⟩ = some (.string t) ∧ w.cell? ⟨b, off + k * 5 + 4, none⟩ = some (.int .u64 (n : Nat)) ∧ Hid (l.getD k noIt = ⟨s, ⟨z, m, t⟩, n⟩) := by
  obtain ⟨b, off, e, h0, h1, h2, h3, h4⟩ := h k hk
  exact ⟨b, off, _, _, _, _, _, e, h0, h1, h2, h3, h4, rfl⟩
/-- The reference's store: its items in a row. -/
structure RefIn (w : World) (B q : Nat) (v : Value) (O : Nat → Prop) (L : List It) (last low : Nat) : Prop where
  blk : w.heap[q]? = some (.cells #[v, .int .u64 (last : Int), .int .u64 (low : Int)] 121 (0, 0))
  row : w.ownsRow B 128 5 v L.length (itCs L)
  hq : O q
  mine : ∀ g, v.ownBlock = some g → O g ∧ g ≠ q
  lt : ∀ k, O k → B ≤ k ∧ k < w.heap.size
def RefAt (w : World) (B q : Nat) (O : Nat → Prop) (L : List It) (last low : Nat) : Prop := ∃ v, RefIn w B q v O L last low
section
variable {w w' : World} {B q : Nat} {v : Value} {O O' : Nat → Prop} {L : List It} {last low : Nat}
theorem RefIn.c0 (h : RefIn w B q v O L last low) : w.cell? ⟨q, 0, none⟩ = some v := by
  rw [cell_of_row w q 0 _ _ _ h.blk]; rfl
theorem RefIn.c1 (h : RefIn w B q v O L last low) : w.cell? ⟨q, 1, none⟩ = some (.int .u64 (last : Int)) := by
  rw [cell_of_row w q 1 _ _ _ h.blk]; rfl
theorem RefIn.c2 (h : RefIn w B q v O L last low) : w.cell? ⟨q, 2, none⟩ = some (.int .u64 (low : Int)) := by
  rw [cell_of_row w q 2 _ _ _ h.blk]; rfl
theorem RefIn.fz (h : RefIn w B q v O L last low) (j : Nat) : w.frozen? ⟨q, j, none⟩ = false := frozen_of_row w q j _ _ h.blk
theorem RefIn.out (h : RefIn w B q v O L last low) (hw : Out O' w w') (hd : ∀ k, O k → ¬ O' k) : RefIn w' B q v O L last low :=
  ⟨hw.obj h.blk (hd _ h.hq), hw.row h.row (fun g hg => hd g (h.mine g hg).1), h.hq, h.mine, fun k hk => ⟨(h.lt k hk).1, Nat.lt_of_lt_of_le (h.lt k hk).2 hw.size⟩⟩
theorem RefIn.later (h : RefIn w B q v O L last low) (hb : Below w.heap.size w w') : RefIn w' B q v O L last low :=
  h.out (O' := fun _ => False) (Out.of_below hb) (fun _ _ h => h)
theorem RefIn.mono (h : RefIn w B q v O L last low) (hs : ∀ k, O k → O' k) (hl : ∀ k, O' k → B ≤ k ∧ k < w.heap.size) : RefIn w B q v O' L last low :=
  ⟨h.blk, h.row, hs _ h.hq, fun g hg => ⟨hs g (h.mine g hg).1, (h.mine g hg).2⟩, hl⟩
theorem RefAt.out (h : RefAt w B q O L last low) (hw : Out O' w w') (hd : ∀ k, O k → ¬ O' k) : RefAt w' B q O L last low := by
  obtain ⟨v, h⟩ := h
  exact ⟨v, h.out hw hd⟩
theorem RefAt.later (h : RefAt w B q O L last low) (hb : Below w.heap.size w w') : RefAt w' B q O L last low :=
  h.out (O' := fun _ => False) (Out.of_below hb) (fun _ _ h => h)
theorem RefAt.stay (h : RefAt w B q O L last low) (hb : Below w.heap.size w w') (hB : B ≤ w.heap.size) : RefAt w' B q (ext O w w') L last low := by
  obtain ⟨v, h⟩ := h.later hb
  exact ⟨v, h.mono (fun k hk => .inl hk) (fun k hk => Or.elim hk (h.lt k) (fun e => ⟨by omega, e.2⟩))⟩
theorem RefIn.setLast (h : RefIn w B q v O L last low) (n : Nat) : RefIn (w.setCell ⟨q, 1, none⟩ (.int .u64 (n : Int))) B q v O L n low := by
  have hb := blk_set (j := 1) (.int .u64 (n : Int)) h.blk
  have ho := out_set w q 1 (.int .u64 (n : Int))
  exact { blk := by simpa using hb, row := ho.row h.row (fun g hg e => (h.mine g hg).2 e), hq := h.hq, mine := h.mine, lt := fun k hk => ⟨(h.lt k hk).1, by have := (h.lt k hk).2; have := ho.size; omega⟩ }
theorem RefIn.setLow (h : RefIn w B q v O L last low) (n : Nat) : RefIn (w.setCell ⟨q, 2, none⟩ (.int .u64 (n : Int))) B q v O L last n := by
  have hb := blk_set (j := 2) (.int .u64 (n : Int)) h.blk
  have ho := out_set w q 2 (.int .u64 (n : Int))
  exact { blk := by simpa using hb, row := ho.row h.row (fun g hg e => (h.mine g hg).2 e), hq := h.hq, mine := h.mine, lt := fun k hk => ⟨(h.lt k hk).1, by have := (h.lt k hk).2; have := ho.size; omega⟩ }
end
end Go.Proofs.YtcldpmkhpmlcbaaGreatDoor
/- Layer 8's keys: all keys of a transaction, in one list. -/
namespace Go.Proofs.YtcldpmkhpmlcbaaGreatDoor
open Go.RowKit Go.Shelf

theorem info_str8 : (Tryz.prog.info? 9).map (fun i => (i.zero, i.size, i.bytes)) = some (some (.string ByteArray.empty), 1, 16) := by kernel_rfl

def rKeys (t : Tx) : List ByteArray := t.rds.map (·.key)
def wKeys (t : Tx) : List ByteArray := t.wrs.map (·.key)
def StrsPost (w : World) (l : List ByteArray) (e : Ending) (w' : World) : Prop :=
  ∃ (A : Option Addr) (cap : Nat), e = .returned (.slice A l.length cap) ∧ l.length ≤ cap ∧ StrsAt w' A l ∧ Below w.heap.size w w'

theorem take_keyR {l : List Rd} {k : Nat} {s : ByteArray} {n : Nat} (hk : k < l.length) (h : l.getD k noRd = ⟨s, n⟩) : (l.take (k + 1)).map (·.key) = (l.take k).map (·.key) ++ [s] := by
  rw [List.take_succ_eq_append_getElem hk, List.map_append]
  rw [List.getD_eq_getElem?_getD, List.getElem?_eq_getElem hk] at h
  simp only [Option.getD_some] at h
  simp [h]
theorem take_keyW {l : List Wr} {k : Nat} {s : ByteArray} {v : Val} (hk : k < l.length) (h : l.getD k noWr = ⟨s, v⟩) : (l.take (k + 1)).map (·.key) = (l.take k).map (·.key) ++ [s] := by
  rw [List.take_succ_eq_append_getElem hk, List.map_append]
  rw [List.getD_eq_getElem?_getD, List.getElem?_eq_getElem hk] at h
  simp only [Option.getD_some] at h
  simp [h]
theorem cell_one_new2 (w : World) (o : Obj) (v : Value) (t : TypeId) : ∀ (j : Nat) (u : Value), [v][j]? = some u → ((w.alloc o).alloc (.cells #[v] t)).cell? ((⟨w.heap.size + 1, 0, none⟩ : Addr).add j) = some u := by
  intro j u hu
  cases j with
  | zero => simp at hu; subst hu; simp [Addr.add]
  | succ j => simp at hu

set_option maxRecDepth 100000 in
set_option maxHeartbeats 2000000 in
theorem keys_any (t : Tx) (A B : Option Addr) (ca cb : Nat) (w : World) (h : TxAt w t A B) (hn : t.rds.length ≤ 6) (hm : t.wrs.length ≤ 6) :
    Calls Tryz.prog 135 #[txV t A B ca cb] w (StrsPost w (rKeys t ++ wKeys t)) := by
  unfold txV
  obtain ⟨W, eW, HB, c0, c1, c2, c3⟩ := box4 w (.int .i64 t.ses) (.int .i64 t.seq) (.slice A t.rds.length ca) (.slice B t.wrs.length cb) 38
  have h := h.later HB
  obtain ⟨i0, hi, hz0, hz1, hz2⟩ := info_parts info_str8
  go_enter Tryz.func135, Tryz.ntmps135
  go_wp2_with fail
  clear eW

  go_loopw [3, 11] (fun v i wr => ∃ k : Nat, k ≤ t.rds.length ∧ i = .int .i64 k ∧ Hid (wr.ownsRow W.heap.size 9 1 v k (((t.rds.take k).map (·.key)).map Value.string)) ∧ Below W.heap.size W wr) (fun _ i _ => t.rds.length - (intOf i).toNat)
  case atStart => exact ⟨0, Nat.zero_le _, rfl, own_nil _ _ _ _, Below.refl _ _⟩
  case round =>
    obtain ⟨k, hk, rfl, HO, hw⟩ := hrel
    have hr := h.later hw
    replace c0 := keep hw c0
    replace c2 := keep hw c2
    replace c3 := keep hw c3
    by_cases hlt : k < t.rds.length
    · obtain ⟨b, off, s, n, rfl, d0, d1, HX⟩ := hr.rds.at' hlt
      have HT := Lib.hid (take_keyR hlt HX.out)
      go_wp2_with (at_builtin; refine wpList_append_own _ rfl _ _ 23 rfl W.heap.size 9 i0 (.string noStr) 1 16 Tryz.underlying23 hi hz0 hz1 hz2 rfl (by decide) _ _ _ rfl (own_keep HO.out (below2 _ _ _)) ⟨wr.heap.size + 1, 0, none⟩ 1 1 [.string s] rfl rfl (cell_one_new2 _ _ _ _) one_cell_str (le_maxLen (by omega)) (by omega) (Nat.le_trans hw.size (below2 _ _ _).size) ?_; intro v3 w3 HO3 hg3 _; replace hw := own_below (keepB hw (below2 _ _ _)) (Nat.le_refl _) (own_keep HO.out (below2 _ _ _)) hg3; replace HO3 := Lib.hid HO3; clear hg3)
      go_roundw
      case rel => exact ⟨k + 1, by omega, by go_num, by show World.ownsRow _ _ _ _ _ _ _; rw [HT.out, List.map_append]; exact HO3.out, hw⟩
      case measure => simp [intOf]; omega
    · have ek : k = t.rds.length := by omega
      have HO1 : Hid (wr.ownsRow W.heap.size 9 1 u3 (rKeys t).length ((rKeys t ++ (t.wrs.take 0).map (·.key)).map Value.string)) := by
        show World.ownsRow _ _ _ _ _ _ _
        have := HO.out
        rw [ek, List.take_length] at this
        rw [rKeys, List.length_map, List.take_zero, List.map_nil, List.append_nil]
        exact this
      have hKL : (rKeys t).length ≤ 6 := by rw [rKeys, List.length_map]; exact hn
      have HR : Hid (rKeys t ++ wKeys t = rKeys t ++ (t.wrs.take t.wrs.length).map (·.key)) := by show _ = _; rw [List.take_length]; rfl
      have HN : Hid ((rKeys t ++ wKeys t).length = (rKeys t).length + t.wrs.length) := by show _ = _; rw [List.length_append]; simp [wKeys]
      clear HO hr
      generalize rKeys t = L at *
      go_wp2_with fail
      clear ek hlt hk
      obtain ⟨wb, rfl⟩ : ∃ wb : World, wb = wr := ⟨_, rfl⟩
      go_loopw [3, 24] (fun v i wr => ∃ j : Nat, j ≤ t.wrs.length ∧ i = .int .i64 j ∧ Hid (wr.ownsRow W.heap.size 9 1 v (L.length + j) ((L ++ (t.wrs.take j).map (·.key)).map Value.string)) ∧ Below W.heap.size W wr) (fun _ i _ => t.wrs.length - (intOf i).toNat)
      case atStart => exact ⟨0, Nat.zero_le _, rfl, HO1, hw⟩
      case round =>
        obtain ⟨j, hj, rfl, HO, hw2⟩ := hrel
        clear HO1 hw
        have hr := h.later hw2
        by_cases hlj : j < t.wrs.length
        · obtain ⟨b, off, s, z, n, x, rfl, d0, d1, d2, d3, HX⟩ := hr.wrs.at' hlj
          have HT := Lib.hid (take_keyW hlj HX.out)
          go_wp2_with (at_builtin; refine wpList_append_own _ rfl _ _ 23 rfl W.heap.size 9 i0 (.string noStr) 1 16 Tryz.underlying23 hi hz0 hz1 hz2 rfl (by decide) _ _ _ rfl (own_keep HO.out (below2 _ _ _)) ⟨wr.heap.size + 1, 0, none⟩ 1 1 [.string s] rfl rfl (cell_one_new2 _ _ _ _) one_cell_str (le_maxLen (by omega)) (by omega) (Nat.le_trans hw2.size (below2 _ _ _).size) ?_; intro v3 w3 HO3 hg3 _; replace hw2 := own_below (keepB hw2 (below2 _ _ _)) (Nat.le_refl _) (own_keep HO.out (below2 _ _ _)) hg3; replace HO3 := Lib.hid HO3; clear hg3)
          go_roundw
          case rel => exact ⟨j + 1, by omega, by go_num, by show World.ownsRow _ _ _ _ _ _ _; rw [HT.out, ← List.append_assoc, List.map_append]; exact HO3.out, hw2⟩
          case measure => simp [intOf]; omega
        · have ej : j = t.wrs.length := by omega
          go_wp2
          go_ret
          have := HO.out
          rw [ej, ← HR.out, ← HN.out] at this
          obtain ⟨A', cap', rfl, hc, hI⟩ := own_strs this
          exact ⟨A', cap', rfl, hc, hI, keepB HB hw2⟩
end Go.Proofs.YtcldpmkhpmlcbaaGreatDoor
/- Layer 8's rises, Id and Less; whether a write's value is formed. -/
namespace Go.Proofs.YtcldpmkhpmlcbaaGreatDoor
open Go.RowKit Go.Shelf

set_option maxHeartbeats 1000000 in
theorem rises_any (l : List ByteArray) (K : Option Addr) (ck : Nat) (w : World) (hK : StrsAt w K l) (hn : l.length ≤ 9223372036854775807) (hs : ∀ k, k < l.length → (l.getD k noStr).size ≤ 9223372036854775807) :
    Calls Tryz.prog 136 #[.slice K l.length ck] w fun e w' => e = .returned (.bool (risesTo l l.length)) ∧ Below w.heap.size w w' := by
  go_enter Tryz.func136, Tryz.ntmps136
  go_wp2_with fail

  go_loopw [7] (fun i wr => ∃ k : Nat, k ≤ l.length ∧ i = .int .i64 k ∧ Hid (risesTo l k = true) ∧ Below w.heap.size w wr) (fun i _ => l.length - (intOf i).toNat)
  case atStart => exact ⟨0, Nat.zero_le _, rfl, rfl, Below.refl _ _⟩
  case round =>
    obtain ⟨k, hk, rfl, HA, hw⟩ := hrel
    have hKr := CellsAt.later hK hw
    by_cases hlt : k < l.length
    · obtain ⟨b, off, x, rfl, hc, HX⟩ := StrsAt.at' hKr hlt
      have hsx : x.size ≤ maxLen := by have := hs k hlt; rw [HX.out] at this; exact this
      cases hkey : keyB x
      · have HF : Hid (risesTo l l.length = false) := risesTo_false hlt (by simp only [riseAt, HX.out, hkey, Bool.false_and])
        go_wp2_with (go_at_call 79; refine (key_any _ _ hsx).mono ?_; rintro e w2 ⟨rfl, hb⟩; replace hw := keepB hw hb)
        go_ret
        exact ⟨ret_bool HF.out, hw⟩
      · by_cases hk0 : k = 0
        · have HR : Hid (risesTo l (k + 1) = true) := risesTo_next0 HA.out HX.out hkey hk0
          have hg : decide (0 < k) = false := by rw [decide_eq_false_iff_not]; omega
          clear hk0
          go_wp2_with (go_at_call 79; refine (key_any _ _ hsx).mono ?_; rintro e w2 ⟨rfl, hb⟩; replace hw := keepB hw hb)
          go_roundw
          case rel => exact ⟨k + 1, by omega, by go_num, HR, hw⟩
          case measure => simp [intOf]; omega
        · obtain ⟨b', off', y, e, hc', HY⟩ := StrsAt.at' hKr (k := k - 1) (by omega)
          injection e with e
          injection e with e1 e2
          subst e1 e2
          have hg : decide (0 < k) = true := by rw [decide_eq_true_iff]; omega
          have hi : ((k : Int) - 1).toNat = k - 1 := by omega
          have hk1 : 1 ≤ k := by omega
          cases hl : lessS y x
          · have HF : Hid (risesTo l l.length = false) := risesTo_false hlt (by simp only [riseAt, HX.out, HY.out, hkey, hl, beq_eq_false_iff_ne.2 hk0, Bool.false_or, Bool.and_false])
            have hl' : Op.bytesLess y.toList x.toList = false := hl
            clear hl hk0
            go_wp2_with (go_at_call 79; refine (key_any _ _ hsx).mono ?_; rintro e w2 ⟨rfl, hb⟩; replace hc' := keep hb hc'; replace hw := keepB hw hb)
            go_ret
            exact ⟨ret_bool HF.out, hw⟩
          · have HR : Hid (risesTo l (k + 1) = true) := risesTo_next HA.out HX.out HY.out hkey hl
            have hl' : Op.bytesLess y.toList x.toList = true := hl
            clear hl hk0
            go_wp2_with (go_at_call 79; refine (key_any _ _ hsx).mono ?_; rintro e w2 ⟨rfl, hb⟩; replace hc' := keep hb hc'; replace hw := keepB hw hb)
            go_roundw
            case rel => exact ⟨k + 1, by omega, by go_num, HR, hw⟩
            case measure => simp [intOf]; omega
    · have ek : k = l.length := by omega
      have HF : Hid (risesTo l l.length = true) := by show _ = _; rw [← ek]; exact HA.out
      go_wp2
      go_ret
      exact ⟨ret_bool HF.out, hw⟩

def idB (s q : Int) : Bool := decide (1 ≤ s) && decide (s ≤ 8) && decide (1 ≤ q) && decide (q ≤ 1048576)
theorem id_any (s q : Int) (w : World) : Calls Tryz.prog 82 #[.agg #[.int .i64 s, .int .i64 q]] w fun e w' => e = .returned (.bool (idB s q)) ∧ Below w.heap.size w w' := by
  obtain ⟨W, eW, HB, c0, c1⟩ := box2 w (.int .i64 s) (.int .i64 q) 34
  have HI : Hid (idB s q = (decide (1 ≤ s) && decide (s ≤ 8) && decide (1 ≤ q) && decide (q ≤ 1048576))) := rfl
  go_enter Tryz.func82, Tryz.ntmps82
  go_wp2
  all_goals go_ret
  all_goals refine ⟨ret_bool ?_, HB⟩
  all_goals rw [HI.out]
  all_goals simp [*] <;> omega
theorem refId_any (s q : Int) (w : World) : Calls Tryz.prog 55 #[.agg #[.int .i64 s, .int .i64 q]] w fun e w' => e = .returned (.bool (idB s q)) ∧ Below w.heap.size w w' := by
  obtain ⟨W, eW, HB, c0, c1⟩ := box2 w (.int .i64 s) (.int .i64 q) 34
  have HI : Hid (idB s q = (decide (1 ≤ s) && decide (s ≤ 8) && decide (1 ≤ q) && decide (q ≤ 1048576))) := rfl
  go_enter Tryz.func55, Tryz.ntmps55
  go_wp2
  all_goals go_ret
  all_goals refine ⟨ret_bool ?_, HB⟩
  all_goals rw [HI.out]
  all_goals simp [*] <;> omega
end Go.Proofs.YtcldpmkhpmlcbaaGreatDoor
/- Layer 8's Formed: what txn.Formed tells. -/
namespace Go.Proofs.YtcldpmkhpmlcbaaGreatDoor
open Go.RowKit Go.Shelf

def valsB (l : List Wr) : Bool := l.all fun x => formedV x.val
def formedT (t : Tx) : Bool :=
  idB t.ses t.seq && decide (t.rds.length ≤ 6) && decide (t.wrs.length ≤ 6) && !decide (t.rds.length + t.wrs.length = 0) &&
    risesTo (rKeys t) t.rds.length && risesTo (wKeys t) t.wrs.length && valsB t.wrs

set_option maxRecDepth 100000 in
theorem badVal_any (s t : ByteArray) (k : Int) (n : Nat) (ht : t.size ≤ 9223372036854775807) (w : World) (hT : Tabs w) : Calls Tryz.prog 138 #[.agg #[.string s, .int .i64 k, .int .u64 n, .string t]] w fun e w' => e = .returned (.bool (!formedV ⟨k, n, t⟩)) ∧ Below w.heap.size w w' := by
  obtain ⟨W, eW, HB, c0, c1, c2, c3⟩ := box4 w (.string s) (.int .i64 k) (.int .u64 n) (.string t) 79
  have hT := hT.later HB
  go_enter Tryz.func138, Tryz.ntmps138
  go_wp2_with (go_at_call 139; refine (formedV_any k n t ht _ hT).mono ?_; rintro e w1 ⟨rfl, hb⟩; replace HB := keepB HB hb)
  go_ret
  exact ⟨rfl, HB⟩

def IndexPost (w : World) (bad : Bool) (e : Ending) (w' : World) : Prop := ∃ z : Int, e = .returned (.int .i64 z) ∧ decide (0 ≤ z) = bad ∧ Below w.heap.size w w'
theorem valsB_bad {l : List Wr} {k : Nat} {x : Wr} (hk : k < l.length) (h : l.getD k noWr = x) (hx : formedV x.val = false) : valsB l = false := by
  rw [List.getD_eq_getElem?_getD, List.getElem?_eq_getElem hk] at h
  simp only [Option.getD_some] at h
  unfold valsB
  rw [List.all_eq_false]
  exact ⟨l[k], List.getElem_mem hk, by rw [h, hx]; simp⟩
theorem valsB_next {l : List Wr} {k : Nat} {x : Wr} (hk : k < l.length) (h : l.getD k noWr = x) (hx : formedV x.val = true) (ha : valsB (l.take k) = true) : valsB (l.take (k + 1)) = true := by
  rw [List.getD_eq_getElem?_getD, List.getElem?_eq_getElem hk] at h
  simp only [Option.getD_some] at h
  unfold valsB at *
  rw [List.take_succ_eq_append_getElem hk, List.all_append, ha, h]
  simp [hx]

set_option maxRecDepth 100000 in
theorem index_any (l : List Wr) (A : Option Addr) (ca : Nat) (w : World) (hA : WrsAt w A l) (hv : ∀ k, k < l.length → (l.getD k noWr).val.Good) (hn : l.length ≤ 9223372036854775807) (hT : Tabs w) :
    Calls Tryz.prog 180 #[.slice A l.length ca, .func (.func 138) #[] #[]] w (IndexPost w (!valsB l)) := by
  go_enter Tryz.func180, Tryz.ntmps180
  go_wp2_with fail
  go_loopw [8] (fun i wr => ∃ k : Nat, k ≤ l.length ∧ i = .int .i64 k ∧ Hid (valsB (l.take k) = true) ∧ Below w.heap.size w wr) (fun i _ => l.length - (intOf i).toNat)
  case atStart => exact ⟨0, Nat.zero_le _, rfl, rfl, Below.refl _ _⟩
  case round =>
    obtain ⟨k, hk, rfl, HA, hw⟩ := hrel
    have hr := hA.later hw
    have hTr := hT.later hw
    by_cases hlt : k < l.length
    · obtain ⟨b, off, s, z, n, t, rfl, d0, d1, d2, d3, HX⟩ := hr.at' hlt
      have hg := hv k hlt
      rw [HX.out] at hg
      have ht : t.size ≤ 9223372036854775807 := hg.t
      clear hg
      cases hf : formedV ⟨z, n, t⟩
      · have HF : Hid ((!valsB l) = true) := by show _ = _; rw [valsB_bad hlt HX.out hf]; rfl
        have hbad : (!formedV ⟨z, n, t⟩) = true := by rw [hf]; rfl
        go_wp2_with (go_at_call 138; refine (badVal_any s t z n ht _ hTr).mono ?_; rintro e w1 ⟨rfl, hb⟩; replace hw := keepB hw hb)
        go_ret
        exact ⟨_, rfl, by rw [HF.out]; simp, hw⟩
      · have HF : Hid (valsB (l.take (k + 1)) = true) := valsB_next hlt HX.out hf HA.out
        have hbad : (!formedV ⟨z, n, t⟩) = false := by rw [hf]; rfl
        go_wp2_with (go_at_call 138; refine (badVal_any s t z n ht _ hTr).mono ?_; rintro e w1 ⟨rfl, hb⟩; replace hw := keepB hw hb)
        go_roundw
        case rel => exact ⟨k + 1, by omega, by go_num, HF, hw⟩
        case measure => simp [intOf]; omega
    · have ek : k = l.length := by omega
      have HF : Hid ((!valsB l) = false) := by show _ = _; have := HA.out; rw [ek, List.take_length] at this; rw [this]; rfl
      go_wp2
      go_ret
      exact ⟨_, rfl, by rw [HF.out]; simp, hw⟩
set_option maxRecDepth 100000 in
theorem contains_any (l : List Wr) (A : Option Addr) (ca : Nat) (w : World) (hA : WrsAt w A l) (hv : ∀ k, k < l.length → (l.getD k noWr).val.Good) (hn : l.length ≤ 9223372036854775807) (hT : Tabs w) :
    Calls Tryz.prog 137 #[.slice A l.length ca, .func (.func 138) #[] #[]] w fun e w' => e = .returned (.bool (!valsB l)) ∧ Below w.heap.size w w' := by
  go_enter Tryz.func137, Tryz.ntmps137
  go_wp2_with (go_at_call 180; refine (index_any l A ca _ hA hv hn hT).mono ?_; rintro e w1 ⟨z, rfl, hz, hb⟩; replace hz := Lib.hid hz)
  go_ret
  exact ⟨ret_bool hz.out.symm, hb⟩

theorem strs_left {w : World} {K : Option Addr} {L M : List ByteArray} (h : StrsAt w K (L ++ M)) : StrsAt w K L := by
  intro i hi
  obtain ⟨b, off, e, hc⟩ := h i (by rw [List.length_append]; omega)
  refine ⟨b, off, e, ?_⟩
  rw [hc]
  show some (Value.string ((L ++ M).getD i noStr)) = some (Value.string (L.getD i noStr))
  rw [List.getD_eq_getElem?_getD, List.getD_eq_getElem?_getD, List.getElem?_append_left hi]
theorem strs_right {w : World} {b off : Nat} {L M : List ByteArray} (h : StrsAt w (some ⟨b, off, none⟩) (L ++ M)) : StrsAt w (some ⟨b, off + L.length, none⟩) M := by
  intro i hi
  obtain ⟨b', off', e, hc⟩ := h (L.length + i) (by rw [List.length_append]; omega)
  injection e with e
  injection e with e1 e2
  subst e1 e2
  refine ⟨_, _, rfl, ?_⟩
  rw [Nat.add_assoc, hc]
  show some (Value.string ((L ++ M).getD (L.length + i) noStr)) = some (Value.string (M.getD i noStr))
  rw [List.getD_eq_getElem?_getD, List.getD_eq_getElem?_getD, List.getElem?_append_right (by omega), Nat.add_sub_cancel_left]
theorem rKeys_size {w : World} {t : Tx} {A B : Option Addr} (h : TxAt w t A B) : ∀ k, k < (rKeys t).length → ((rKeys t).getD k noStr).size ≤ 9223372036854775807 := by
  intro k hk
  have hk' : k < t.rds.length := by simpa [rKeys] using hk
  have := h.rk k hk'
  rw [List.getD_eq_getElem?_getD, List.getElem?_eq_getElem hk'] at this
  rw [List.getD_eq_getElem?_getD, List.getElem?_eq_getElem hk]
  simpa [rKeys] using this
theorem wKeys_size {w : World} {t : Tx} {A B : Option Addr} (h : TxAt w t A B) : ∀ k, k < (wKeys t).length → ((wKeys t).getD k noStr).size ≤ 9223372036854775807 := by
  intro k hk
  have hk' : k < t.wrs.length := by simpa [wKeys] using hk
  have := h.wk k hk'
  rw [List.getD_eq_getElem?_getD, List.getElem?_eq_getElem hk'] at this
  rw [List.getD_eq_getElem?_getD, List.getElem?_eq_getElem hk]
  simpa [wKeys] using this

theorem calls_bool {P : Program} {f : FuncId} {args : Array Value} {w : World} {z x : Bool} (e : z = x)
    (h : Calls P f args w fun e w' => e = .returned (.bool z) ∧ Below w.heap.size w w') :
    Calls P f args w fun e w' => e = .returned (.bool x) ∧ Below w.heap.size w w' := by
  rw [e] at h; exact h
theorem keys_at (t : Tx) (A B : Option Addr) (ca cb : Nat) (w : World) (h : TxAt w t A B) (hn : t.rds.length ≤ 6) (hm : t.wrs.length ≤ 6) (h0 : ¬ t.rds.length + t.wrs.length = 0) :
    Calls Tryz.prog 135 #[txV t A B ca cb] w fun e w' => ∃ (b off ck : Nat), e = .returned (.slice (some ⟨b, off, none⟩) (t.rds.length + t.wrs.length) ck) ∧ t.rds.length + t.wrs.length ≤ ck ∧ StrsAt w' (some ⟨b, off, none⟩) (rKeys t ++ wKeys t) ∧ Below w.heap.size w w' := by
  refine (keys_any t A B ca cb w h hn hm).mono ?_
  rintro e w' ⟨K, ck, rfl, hck, hK, hb⟩
  have hl : (rKeys t ++ wKeys t).length = t.rds.length + t.wrs.length := by simp [rKeys, wKeys]
  rw [hl] at hck ⊢
  obtain ⟨b, off, rfl, _⟩ := hK 0 (by omega)
  exact ⟨b, off, ck, rfl, hck, hK, hb⟩
theorem rises_left {t : Tx} {K : Option Addr} {ck : Nat} {w : World} (hK : StrsAt w K (rKeys t ++ wKeys t)) (h6 : t.rds.length ≤ 6) (hs : ∀ k, k < (rKeys t).length → ((rKeys t).getD k noStr).size ≤ 9223372036854775807) :
    Calls Tryz.prog 136 #[.slice K t.rds.length ck] w fun e w' => e = .returned (.bool (risesTo (rKeys t) (rKeys t).length)) ∧ Below w.heap.size w w' := by
  have hl : t.rds.length = (rKeys t).length := by simp [rKeys]
  rw [hl]
  exact rises_any _ _ _ _ (strs_left hK) (by omega) hs
theorem rises_right {t : Tx} {b off ck : Nat} {w : World} (hK : StrsAt w (some ⟨b, off, none⟩) (rKeys t ++ wKeys t)) (h6 : t.wrs.length ≤ 6) (hck : t.rds.length + t.wrs.length ≤ ck) (hs : ∀ k, k < (wKeys t).length → ((wKeys t).getD k noStr).size ≤ 9223372036854775807) (m c : Nat) (K' : Option Addr) (hm : m = t.wrs.length) (hK' : K' = if ck = t.rds.length then some ⟨b, off, none⟩ else some ⟨b, off + t.rds.length, none⟩) :
    Calls Tryz.prog 136 #[.slice K' m c] w fun e w' => e = .returned (.bool (risesTo (wKeys t) (wKeys t).length)) ∧ Below w.heap.size w w' := by
  have hl : t.wrs.length = (wKeys t).length := by simp [wKeys]
  have hl2 : t.rds.length = (rKeys t).length := by simp [rKeys]
  subst hm
  rw [hl]
  refine rises_any _ _ _ _ ?_ (by omega) hs
  subst hK'
  split
  · intro i hi
    omega
  · rw [hl2]
    exact strs_right hK

set_option maxRecDepth 100000 in
set_option maxHeartbeats 2000000 in
theorem txFormed_any (t : Tx) (A B : Option Addr) (ca cb : Nat) (w : World) (h : TxAt w t A B) (hT : Tabs w) :
    Calls Tryz.prog 81 #[txV t A B ca cb] w fun e w' => e = .returned (.bool (formedT t)) ∧ Below w.heap.size w w' := by
  unfold txV
  obtain ⟨W, eW, HB, c0, c1, c2, c3⟩ := box4 w (.int .i64 t.ses) (.int .i64 t.seq) (.slice A t.rds.length ca) (.slice B t.wrs.length cb) 38
  have h := h.later HB
  have hT := hT.later HB
  have HS1 := Lib.hid (rKeys_size h)
  have HS2 := Lib.hid (wKeys_size h)
  have HE : Hid (formedT t = (idB t.ses t.seq && decide (t.rds.length ≤ 6) && decide (t.wrs.length ≤ 6) && !decide (t.rds.length + t.wrs.length = 0) && risesTo (rKeys t) (rKeys t).length && risesTo (wKeys t) (wKeys t).length && valsB t.wrs)) := by
    show _ = _
    rw [formedT, show (rKeys t).length = t.rds.length by simp [rKeys], show (wKeys t).length = t.wrs.length by simp [wKeys]]
  have hrn := h.rn
  have hwn := h.wn
  cases hid : idB t.ses t.seq
  · have HF : Hid (formedT t = false) := by show _ = _; rw [HE.out, hid]; simp
    go_enter Tryz.func81, Tryz.ntmps81
    go_wp2_with (go_at_call 82; refine (id_any _ _ _).mono ?_; rintro e w1 ⟨rfl, hb⟩; replace HB := keepB HB hb)
    go_ret
    exact ⟨ret_bool HF.out, HB⟩
  · by_cases hn : t.rds.length ≤ 6
    · by_cases hm : t.wrs.length ≤ 6
      · by_cases h0 : t.rds.length + t.wrs.length = 0
        · have HF : Hid (formedT t = false) := by show _ = _; rw [HE.out]; simp [h0]
          have h0' : ((t.rds.length : Int) + (t.wrs.length : Int) == 0) = true := by simp; omega
          go_enter Tryz.func81, Tryz.ntmps81
          go_wp2_with (go_at_call 82; refine (id_any _ _ _).mono ?_; rintro e w1 ⟨rfl, hb⟩; replace c2 := keep hb c2; replace c3 := keep hb c3; replace HB := keepB HB hb)
          go_ret
          exact ⟨ret_bool HF.out, HB⟩
        · have HF : Hid (formedT t = (risesTo (rKeys t) (rKeys t).length && risesTo (wKeys t) (wKeys t).length && valsB t.wrs)) := by
            show _ = _
            rw [HE.out, hid, decide_eq_true hn, decide_eq_true hm, decide_eq_false h0]
            simp
          have h0' : ((t.rds.length : Int) + (t.wrs.length : Int) == 0) = false := by simp; omega
          have h0n := Lib.hid h0
          clear h0
          obtain ⟨r1, hr1⟩ : ∃ r, Hid (risesTo (rKeys t) (rKeys t).length = r) := ⟨_, rfl⟩
          obtain ⟨r2, hr2⟩ : ∃ r, Hid (risesTo (wKeys t) (wKeys t).length = r) := ⟨_, rfl⟩
          obtain ⟨r3, hr3⟩ : ∃ r, Hid ((!valsB t.wrs) = r) := ⟨_, rfl⟩
          have hvv : valsB t.wrs = !r3 := by rw [← hr3.out]; simp
          replace HF := Lib.hid HF.out
          rw [hr1.out, hr2.out, hvv] at HF
          clear hvv
          have hcase : r1 = false ∨ (r1 = true ∧ r2 = false) ∨ (r1 = true ∧ r2 = true) := by cases r1 <;> cases r2 <;> simp
          rcases hcase with rfl | ⟨rfl, rfl⟩ | ⟨rfl, rfl⟩
          · replace HF := Lib.hid (show formedT t = false by rw [HF.out]; simp)
            go_enter Tryz.func81, Tryz.ntmps81
            go_wp2_with (first
              | (go_at_call 82; refine (id_any _ _ _).mono ?_; rintro e w1 ⟨rfl, hb⟩; replace c0 := keep hb c0; replace c1 := keep hb c1; replace c2 := keep hb c2; replace c3 := keep hb c3; replace h := h.later hb; replace hT := hT.later hb; replace HB := keepB HB hb; clear hb)
              | (go_at_call 135; refine (keys_at t A B ca cb _ h hn hm h0n.out).mono ?_; rintro e w2 ⟨bk, ok, ck, rfl, hck, hK, hb⟩; replace c2 := keep hb c2; replace c3 := keep hb c3; replace h := h.later hb; replace hT := hT.later hb; replace HB := keepB HB hb; clear hb; have hck' : t.rds.length ≤ ck := (by omega))
              | (go_at_call 136; refine (calls_bool hr2.out (rises_right hK hm hck HS2.out _ _ _ (by omega) (by rfl))).mono ?_; rintro e w4 ⟨rfl, hb⟩; replace c3 := keep hb c3; replace h := h.later hb; replace hT := hT.later hb; replace HB := keepB HB hb; clear hb)
              | (go_at_call 136; refine (calls_bool hr1.out (rises_left hK hn HS1.out)).mono ?_; rintro e w3 ⟨rfl, hb⟩; replace c3 := keep hb c3; replace h := h.later hb; replace hT := hT.later hb; replace hK := CellsAt.later hK hb; replace HB := keepB HB hb; clear hb)
              | (go_at_call 137; refine (calls_bool hr3.out (contains_any t.wrs B cb _ h.wrs h.wv h.wn hT)).mono ?_; rintro e w5 ⟨rfl, hb⟩; replace HB := keepB HB hb; clear hb))
            all_goals go_ret
            all_goals exact ⟨ret_bool HF.out, HB⟩
          · replace HF := Lib.hid (show formedT t = false by rw [HF.out]; simp)
            go_enter Tryz.func81, Tryz.ntmps81
            go_wp2_with (first
              | (go_at_call 82; refine (id_any _ _ _).mono ?_; rintro e w1 ⟨rfl, hb⟩; replace c0 := keep hb c0; replace c1 := keep hb c1; replace c2 := keep hb c2; replace c3 := keep hb c3; replace h := h.later hb; replace hT := hT.later hb; replace HB := keepB HB hb; clear hb)
              | (go_at_call 135; refine (keys_at t A B ca cb _ h hn hm h0n.out).mono ?_; rintro e w2 ⟨bk, ok, ck, rfl, hck, hK, hb⟩; replace c2 := keep hb c2; replace c3 := keep hb c3; replace h := h.later hb; replace hT := hT.later hb; replace HB := keepB HB hb; clear hb; have hck' : t.rds.length ≤ ck := (by omega))
              | (go_at_call 136; refine (calls_bool hr2.out (rises_right hK hm hck HS2.out _ _ _ (by omega) (by rfl))).mono ?_; rintro e w4 ⟨rfl, hb⟩; replace c3 := keep hb c3; replace h := h.later hb; replace hT := hT.later hb; replace HB := keepB HB hb; clear hb)
              | (go_at_call 136; refine (calls_bool hr1.out (rises_left hK hn HS1.out)).mono ?_; rintro e w3 ⟨rfl, hb⟩; replace c3 := keep hb c3; replace h := h.later hb; replace hT := hT.later hb; replace hK := CellsAt.later hK hb; replace HB := keepB HB hb; clear hb)
              | (go_at_call 137; refine (calls_bool hr3.out (contains_any t.wrs B cb _ h.wrs h.wv h.wn hT)).mono ?_; rintro e w5 ⟨rfl, hb⟩; replace HB := keepB HB hb; clear hb))
            all_goals go_ret
            all_goals exact ⟨ret_bool HF.out, HB⟩
          · cases r3
            all_goals
              go_enter Tryz.func81, Tryz.ntmps81
              go_wp2_with (first
                | (go_at_call 82; refine (id_any _ _ _).mono ?_; rintro e w1 ⟨rfl, hb⟩; replace c0 := keep hb c0; replace c1 := keep hb c1; replace c2 := keep hb c2; replace c3 := keep hb c3; replace h := h.later hb; replace hT := hT.later hb; replace HB := keepB HB hb; clear hb)
                | (go_at_call 135; refine (keys_at t A B ca cb _ h hn hm h0n.out).mono ?_; rintro e w2 ⟨bk, ok, ck, rfl, hck, hK, hb⟩; replace c2 := keep hb c2; replace c3 := keep hb c3; replace h := h.later hb; replace hT := hT.later hb; replace HB := keepB HB hb; clear hb; have hck' : t.rds.length ≤ ck := (by omega))
                | (go_at_call 136; refine (calls_bool hr2.out (rises_right hK hm hck HS2.out _ _ _ (by omega) (by rfl))).mono ?_; rintro e w4 ⟨rfl, hb⟩; replace c3 := keep hb c3; replace h := h.later hb; replace hT := hT.later hb; replace HB := keepB HB hb; clear hb)
                | (go_at_call 136; refine (calls_bool hr1.out (rises_left hK hn HS1.out)).mono ?_; rintro e w3 ⟨rfl, hb⟩; replace c3 := keep hb c3; replace h := h.later hb; replace hT := hT.later hb; replace hK := CellsAt.later hK hb; replace HB := keepB HB hb; clear hb)
                | (go_at_call 137; refine (calls_bool hr3.out (contains_any t.wrs B cb _ h.wrs h.wv h.wn hT)).mono ?_; rintro e w5 ⟨rfl, hb⟩; replace HB := keepB HB hb; clear hb))
              all_goals go_ret
              all_goals exact ⟨ret_bool HF.out, HB⟩
      · have HF : Hid (formedT t = false) := by show _ = _; rw [HE.out]; simp [hm]
        go_enter Tryz.func81, Tryz.ntmps81
        go_wp2_with (go_at_call 82; refine (id_any _ _ _).mono ?_; rintro e w1 ⟨rfl, hb⟩; replace c2 := keep hb c2; replace c3 := keep hb c3; replace HB := keepB HB hb)
        go_ret
        exact ⟨ret_bool HF.out, HB⟩
    · have HF : Hid (formedT t = false) := by show _ = _; rw [HE.out]; simp [hn]
      go_enter Tryz.func81, Tryz.ntmps81
      go_wp2_with (go_at_call 82; refine (id_any _ _ _).mono ?_; rintro e w1 ⟨rfl, hb⟩; replace c2 := keep hb c2; replace c3 := keep hb c3; replace HB := keepB HB hb)
      go_ret
      exact ⟨ret_bool HF.out, HB⟩
end Go.Proofs.YtcldpmkhpmlcbaaGreatDoor
/- Layer 8's Less and the reference's. -/
namespace Go.Proofs.YtcldpmkhpmlcbaaGreatDoor
open Go.RowKit Go.Shelf

end Go.Proofs.YtcldpmkhpmlcbaaGreatDoor
