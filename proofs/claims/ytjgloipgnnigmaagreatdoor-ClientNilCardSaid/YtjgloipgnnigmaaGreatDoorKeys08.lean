/- Layer 8's keys: all keys of a transaction, in one list. -/
import Derived.Test.YtjgloipgnnigmaaGreatDoorVal04
import Derived.Test.YtjgloipgnnigmaaGreatDoorOwn
namespace Go.Proofs.YtjgloipgnnigmaaGreatDoor
open Go.RowKit Go.Shelf

theorem info_str8 : (Tryz.prog.info? 9).map (fun i => (i.zero, i.size, i.bytes)) = some (some (.string ByteArray.empty), 1, 16) := by kernel_rfl

def rKeys (t : Tx) : List ByteArray := t.rds.map (·.key)
def wKeys (t : Tx) : List ByteArray := t.wrs.map (·.key)
def StrsPost (w : World) (l : List ByteArray) (e : Ending) (w' : World) : Prop :=
  ∃ (A : Option Addr) (cap : Nat), e = .returned (.slice A l.length cap) ∧ l.length ≤ cap ∧ StrsAt w' A l ∧ Below w.heap.size w w'

theorem take_keyR {l : List Rd} {k : Nat} {s : ByteArray} {n : Nat} (hk : k < l.length) (h : l.getD k noRd = ⟨s, n⟩) : (l.take (k + 1)).map (·.key) = (l.take k).map (·.key) ++ [s] := by
  rw [List.take_succ_eq_append_getElem hk, List.map_append]
  rw [List.getD_eq_getElem?_getD, List.getElem?_eq_getElem hk] at h
  simp only [Option.getD_some] at h
  simp [h]
theorem take_keyW {l : List Wr} {k : Nat} {s : ByteArray} {v : Val} (hk : k < l.length) (h : l.getD k noWr = ⟨s, v⟩) : (l.take (k + 1)).map (·.key) = (l.take k).map (·.key) ++ [s] := by
  rw [List.take_succ_eq_append_getElem hk, List.map_append]
  rw [List.getD_eq_getElem?_getD, List.getElem?_eq_getElem hk] at h
  simp only [Option.getD_some] at h
  simp [h]
theorem cell_one_new2 (w : World) (o : Obj) (v : Value) (t : TypeId) : ∀ (j : Nat) (u : Value), [v][j]? = some u → ((w.alloc o).alloc (.cells #[v] t)).cell? ((⟨w.heap.size + 1, 0, none⟩ : Addr).add j) = some u := by
  intro j u hu
  cases j with
  | zero => simp at hu; subst hu; simp [Addr.add]
  | succ j => simp at hu

set_option maxRecDepth 100000 in
set_option maxHeartbeats 2000000 in
theorem keys_any (t : Tx) (A B : Option Addr) (ca cb : Nat) (w : World) (h : TxAt w t A B) (hn : t.rds.length ≤ 6) (hm : t.wrs.length ≤ 6) :
    Calls Tryz.prog 136 #[txV t A B ca cb] w (StrsPost w (rKeys t ++ wKeys t)) := by
  unfold txV
  obtain ⟨W, eW, HB, c0, c1, c2, c3⟩ := box4 w (.int .i64 t.ses) (.int .i64 t.seq) (.slice A t.rds.length ca) (.slice B t.wrs.length cb) 37
  have h := h.later HB
  obtain ⟨i0, hi, hz0, hz1, hz2⟩ := info_parts info_str8
  go_enter Tryz.func136, Tryz.ntmps136
  go_wp2_with fail
  clear eW

  go_loopw [3, 11] (fun v i wr => ∃ k : Nat, k ≤ t.rds.length ∧ i = .int .i64 k ∧ Hid (wr.ownsRow W.heap.size 9 1 v k (((t.rds.take k).map (·.key)).map Value.string)) ∧ Below W.heap.size W wr) (fun _ i _ => t.rds.length - (intOf i).toNat)
  case atStart => exact ⟨0, Nat.zero_le _, rfl, own_nil _ _ _ _, Below.refl _ _⟩
  case round =>
    obtain ⟨k, hk, rfl, HO, hw⟩ := hrel
    have hr := h.later hw
    replace c0 := keep hw c0
    replace c2 := keep hw c2
    replace c3 := keep hw c3
    by_cases hlt : k < t.rds.length
    · obtain ⟨b, off, s, n, rfl, d0, d1, HX⟩ := hr.rds.at' hlt
      have HT := Lib.hid (take_keyR hlt HX.out)
      go_wp2_with (at_builtin; refine wpList_append_own _ rfl _ _ 23 rfl W.heap.size 9 i0 (.string noStr) 1 16 Tryz.underlying23 hi hz0 hz1 hz2 rfl (by decide) _ _ _ rfl (own_keep HO.out (below2 _ _ _)) ⟨wr.heap.size + 1, 0, none⟩ 1 1 [.string s] rfl rfl (cell_one_new2 _ _ _ _) one_cell_str (le_maxLen (by omega)) (by omega) (Nat.le_trans hw.size (below2 _ _ _).size) ?_; intro v3 w3 HO3 hg3 _; replace hw := own_below (keepB hw (below2 _ _ _)) (Nat.le_refl _) (own_keep HO.out (below2 _ _ _)) hg3; replace HO3 := Lib.hid HO3; clear hg3)
      go_roundw
      case rel => exact ⟨k + 1, by omega, by go_num, by show World.ownsRow _ _ _ _ _ _ _; rw [HT.out, List.map_append]; exact HO3.out, hw⟩
      case measure => simp [intOf]; omega
    · have ek : k = t.rds.length := by omega
      have HO1 : Hid (wr.ownsRow W.heap.size 9 1 u3 (rKeys t).length ((rKeys t ++ (t.wrs.take 0).map (·.key)).map Value.string)) := by
        show World.ownsRow _ _ _ _ _ _ _
        have := HO.out
        rw [ek, List.take_length] at this
        rw [rKeys, List.length_map, List.take_zero, List.map_nil, List.append_nil]
        exact this
      have hKL : (rKeys t).length ≤ 6 := by rw [rKeys, List.length_map]; exact hn
      have HR : Hid (rKeys t ++ wKeys t = rKeys t ++ (t.wrs.take t.wrs.length).map (·.key)) := by show _ = _; rw [List.take_length]; rfl
      have HN : Hid ((rKeys t ++ wKeys t).length = (rKeys t).length + t.wrs.length) := by show _ = _; rw [List.length_append]; simp [wKeys]
      clear HO hr
      generalize rKeys t = L at *
      go_wp2_with fail
      clear ek hlt hk
      obtain ⟨wb, rfl⟩ : ∃ wb : World, wb = wr := ⟨_, rfl⟩
      go_loopw [3, 24] (fun v i wr => ∃ j : Nat, j ≤ t.wrs.length ∧ i = .int .i64 j ∧ Hid (wr.ownsRow W.heap.size 9 1 v (L.length + j) ((L ++ (t.wrs.take j).map (·.key)).map Value.string)) ∧ Below W.heap.size W wr) (fun _ i _ => t.wrs.length - (intOf i).toNat)
      case atStart => exact ⟨0, Nat.zero_le _, rfl, HO1, hw⟩
      case round =>
        obtain ⟨j, hj, rfl, HO, hw2⟩ := hrel
        clear HO1 hw
        have hr := h.later hw2
        by_cases hlj : j < t.wrs.length
        · obtain ⟨b, off, s, z, n, x, rfl, d0, d1, d2, d3, HX⟩ := hr.wrs.at' hlj
          have HT := Lib.hid (take_keyW hlj HX.out)
          go_wp2_with (at_builtin; refine wpList_append_own _ rfl _ _ 23 rfl W.heap.size 9 i0 (.string noStr) 1 16 Tryz.underlying23 hi hz0 hz1 hz2 rfl (by decide) _ _ _ rfl (own_keep HO.out (below2 _ _ _)) ⟨wr.heap.size + 1, 0, none⟩ 1 1 [.string s] rfl rfl (cell_one_new2 _ _ _ _) one_cell_str (le_maxLen (by omega)) (by omega) (Nat.le_trans hw2.size (below2 _ _ _).size) ?_; intro v3 w3 HO3 hg3 _; replace hw2 := own_below (keepB hw2 (below2 _ _ _)) (Nat.le_refl _) (own_keep HO.out (below2 _ _ _)) hg3; replace HO3 := Lib.hid HO3; clear hg3)
          go_roundw
          case rel => exact ⟨j + 1, by omega, by go_num, by show World.ownsRow _ _ _ _ _ _ _; rw [HT.out, ← List.append_assoc, List.map_append]; exact HO3.out, hw2⟩
          case measure => simp [intOf]; omega
        · have ej : j = t.wrs.length := by omega
          go_wp2
          go_ret
          have := HO.out
          rw [ej, ← HR.out, ← HN.out] at this
          obtain ⟨A', cap', rfl, hc, hI⟩ := own_strs this
          exact ⟨A', cap', rfl, hc, hI, keepB HB hw2⟩
end Go.Proofs.YtjgloipgnnigmaaGreatDoor
