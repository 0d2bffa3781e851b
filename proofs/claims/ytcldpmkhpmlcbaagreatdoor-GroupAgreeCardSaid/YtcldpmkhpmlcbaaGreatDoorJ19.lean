/- Layer 8's cuts: txn.Reads and Writes. -/
import Derived.Test.YtcldpmkhpmlcbaaGreatDoorJ9
import Derived.Test.YtcldpmkhpmlcbaaGreatDoorJ16
import Derived.Test.YtcldpmkhpmlcbaaGreatDoorJ18
import Derived.Test.YtcldpmkhpmlcbaaGreatDoorJ14
import Derived.Test.YtcldpmkhpmlcbaaGreatDoorJ10
import Derived.Test.YtcldpmkhpmlcbaaGreatDoorJ1
import Derived.Test.YtcldpmkhpmlcbaaGreatDoorJ17
import Derived.Test.YtcldpmkhpmlcbaaGreatDoorJ8
set_option linter.unusedVariables false
set_option linter.unusedSimpArgs false
namespace Go.Proofs.YtcldpmkhpmlcbaaGreatDoor
open Go.RowKit Go.Shelf

theorem info_rd : (Tryz.prog.info? 77).map (fun i => (i.zero, i.size, i.bytes)) = some (some (.agg #[.string ByteArray.empty, .int .u64 0]), 2, 24) := by kernel_rfl
theorem info_wr : (Tryz.prog.info? 79).map (fun i => (i.zero, i.size, i.bytes)) = some (some (.agg #[.string ByteArray.empty, .int .i64 0, .int .u64 0, .string ByteArray.empty]), 4, 48) := by kernel_rfl
theorem box24 (w : World) (a b a' b' c' d' : Value) (t t' : TypeId) : ∃ W : World, (w.alloc (.cells #[a, b] t)).alloc (.cells #[a', b', c', d'] t') = W ∧ Below w.heap.size w W ∧ W.cell? ⟨w.heap.size, 0, none⟩ = some a ∧ W.cell? ⟨w.heap.size, 1, none⟩ = some b ∧ W.cell? ⟨w.heap.size + 1, 0, none⟩ = some a' ∧ W.cell? ⟨w.heap.size + 1, 1, none⟩ = some b' ∧ W.cell? ⟨w.heap.size + 1, 2, none⟩ = some c' ∧ W.cell? ⟨w.heap.size + 1, 3, none⟩ = some d' :=
  ⟨_, rfl, below2 _ _ _, by simp, by simp, by simp, by simp, by simp, by simp⟩
theorem cells_two (w : World) (u v : Value) (t : TypeId) : ∀ (j : Nat) (x : Value), [u, v][j]? = some x → (w.alloc (.cells #[u, v] t)).cell? ((⟨w.heap.size, 0, none⟩ : Addr).add j) = some x := by
  intro j x hx
  match j with
  | 0 => simp at hx; subst hx; simp [Addr.add]
  | 1 => simp at hx; subst hx; simp [Addr.add]
  | j + 2 => simp at hx
theorem cells_four (w : World) (u v y z : Value) (t : TypeId) : ∀ (j : Nat) (x : Value), [u, v, y, z][j]? = some x → (w.alloc (.cells #[u, v, y, z] t)).cell? ((⟨w.heap.size, 0, none⟩ : Addr).add j) = some x := by
  intro j x hx
  match j with
  | 0 => simp at hx; subst hx; simp [Addr.add]
  | 1 => simp at hx; subst hx; simp [Addr.add]
  | 2 => simp at hx; subst hx; simp [Addr.add]
  | 3 => simp at hx; subst hx; simp [Addr.add]
  | j + 4 => simp at hx
theorem one_cell_rd {s : ByteArray} {n : Nat} : ∀ u ∈ [Value.string s, Value.int .u64 n], u.oneCell' = true := fun u hu => by
  simp at hu; rcases hu with rfl | rfl <;> rfl
theorem one_cell_wr {s t : ByteArray} {z : Int} {n : Nat} : ∀ u ∈ [Value.string s, Value.int .i64 z, Value.int .u64 n, Value.string t], u.oneCell' = true := fun u hu => by
  simp at hu; rcases hu with rfl | rfl | rfl | rfl <;> rfl
theorem read_snoc {c : Cfg} {t : Tx} {g : Int} {k : Nat} {s : ByteArray} {n : Nat} (hk : k < t.rds.length) (h : t.rds.getD k noRd = ⟨s, n⟩) :
    (t.rds.take (k + 1)).filter (pickR c t g) = (t.rds.take k).filter (pickR c t g) ++ if formedB c && formedT t && (homeZ c s == g) then [⟨s, n⟩] else [] := by
  rw [filter_take _ noRd _ _ hk, h]; rfl
theorem write_snoc {c : Cfg} {t : Tx} {g : Int} {k : Nat} {s : ByteArray} {v : Val} (hk : k < t.wrs.length) (h : t.wrs.getD k noWr = ⟨s, v⟩) :
    (t.wrs.take (k + 1)).filter (pickW c t g) = (t.wrs.take k).filter (pickW c t g) ++ if formedB c && formedT t && (homeZ c s == g) then [⟨s, v⟩] else [] := by
  rw [filter_take _ noWr _ _ hk, h]; rfl

set_option maxRecDepth 100000 in
set_option maxHeartbeats 4000000 in
theorem reads_any (c : Cfg) (t : Tx) (g : Int) (A B A' B' : Option Addr) (ca cb ca' cb' : Nat) (w : World) (h : CfgAt w c A B) (ht : TxAt w t A' B') (hT : Tabs w) (hn : t.rds.length ≤ 12) :
    Calls Tryz.prog 94 #[.agg #[.slice A c.reps.length ca, .slice B c.bnds.length cb], txV t A' B' ca' cb', .int .i64 g] w (RdsPost w (readsL c t g)) := by
  unfold txV
  obtain ⟨W, eW, HB, c0, c1, d0, d1, d2, d3⟩ := box24 w (.slice A c.reps.length ca) (.slice B c.bnds.length cb) (.int .i64 t.ses) (.int .i64 t.seq) (.slice A' t.rds.length ca') (.slice B' t.wrs.length cb') 25 38
  have h := h.later HB
  have ht := ht.later HB
  have hT := hT.later HB
  obtain ⟨i0, hi, hz0, hz1, hz2⟩ := info_parts info_rd
  have HL : Hid (readsL c t g = (t.rds.take t.rds.length).filter (pickR c t g)) := by show _ = _; rw [List.take_length]; rfl
  have HLN : Hid (∀ k, ((t.rds.take k).filter (pickR c t g)).length ≤ k) := fun k => filter_take_len _ _ k
  obtain ⟨fc, hfc⟩ : ∃ r, Hid (formedB c = r) := ⟨_, rfl⟩
  obtain ⟨ft, hft⟩ : ∃ r, Hid (formedT t = r) := ⟨_, rfl⟩
  go_enter Tryz.func94, Tryz.ntmps94
  go_wp2_with fail
  clear eW
  go_loopw [7, 13] (fun v i wr => ∃ k : Nat, k ≤ t.rds.length ∧ i = .int .i64 k ∧ Hid (wr.ownsRow W.heap.size 77 2 v ((t.rds.take k).filter (pickR c t g)).length (rdCells ((t.rds.take k).filter (pickR c t g)))) ∧ Below W.heap.size W wr) (fun _ i _ => t.rds.length - (intOf i).toNat)
  case atStart => exact ⟨0, Nat.zero_le _, rfl, own_nil _ _ _ _, Below.refl _ _⟩
  case round =>
    obtain ⟨k, hk, rfl, HO, hw⟩ := hrel
    have hl := HLN.out k
    by_cases hlt : k < t.rds.length
    · obtain ⟨b, off, s, n, rfl, e0, e1, HX⟩ := (ht.rds.later hw).at' hlt
      have HT := Lib.hid (read_snoc (c := c) (g := g) hlt HX.out)
      obtain ⟨wa, ewa, hba, x0, x1⟩ := box2 wr (.string s) (.int .u64 n) 77
      have c2' := keep hw d2
      have hwa := keepB hw hba
      replace HO := Lib.hid (own_keep HO.out hba)
      have hr := h.later hwa
      have htr := ht.later hwa
      have hTr := hT.later hwa
      replace c0 := keep hwa c0
      replace c1 := keep hwa c1
      replace d0 := keep hwa d0
      replace d1 := keep hwa d1
      replace d2 := keep hwa d2
      replace d3 := keep hwa d3
      obtain ⟨z, hz⟩ : ∃ z, Hid (homeZ c s = z) := ⟨_, rfl⟩
      have HZ : Hid ((if formedB c && formedT t && (homeZ c s == g) then [⟨s, n⟩] else []) = if fc && ft && (z == g) then [(⟨s, n⟩ : Rd)] else []) := by show _ = _; rw [hfc.out, hft.out, hz.out]
      generalize hL : ((t.rds.take k).filter (pickR c t g)) = L at *
      have hLk : L.length ≤ 12 := by omega
      clear hL
      cases fc
      · go_wp2_with (go_at_call 37; refine (calls_bool hfc.out (formed_any c A B ca cb _ hr)).mono ?_; rintro e w1 ⟨rfl, hb⟩; replace HO := Lib.hid (own_keep HO.out hb); replace hwa := keepB hwa hb; clear hb)
        go_roundw
        case rel => exact ⟨k + 1, by omega, by go_num, by show World.ownsRow _ _ _ _ _ _ _; rw [HT.out, HZ.out]; simpa using HO.out, hwa⟩
        case measure => simp [intOf]; omega
      · cases ft
        · go_wp2_with (first
            | (go_at_call 37; refine (calls_bool hfc.out (formed_any c A B ca cb _ hr)).mono ?_; rintro e w1 ⟨rfl, hb⟩; replace HO := Lib.hid (own_keep HO.out hb); replace hwa := keepB hwa hb; replace htr := htr.later hb; replace hTr := hTr.later hb; replace d0 := keep hb d0; replace d1 := keep hb d1; replace d2 := keep hb d2; replace d3 := keep hb d3; clear hb)
            | (go_at_call 81; refine (calls_bool hft.out (txFormed_any t _ _ _ _ _ htr hTr)).mono ?_; rintro e w2 ⟨rfl, hb⟩; replace HO := Lib.hid (own_keep HO.out hb); replace hwa := keepB hwa hb; clear hb))
          go_roundw
          case rel => exact ⟨k + 1, by omega, by go_num, by show World.ownsRow _ _ _ _ _ _ _; rw [HT.out, HZ.out]; simpa using HO.out, hwa⟩
          case measure => simp [intOf]; omega
        · cases hzg : z == g
          · go_wp2_with (first
              | (go_at_call 37; refine (calls_bool hfc.out (formed_any c A B ca cb _ hr)).mono ?_; rintro e w1 ⟨rfl, hb⟩; replace HO := Lib.hid (own_keep HO.out hb); replace hwa := keepB hwa hb; replace htr := htr.later hb; replace hr := hr.later hb; replace hTr := hTr.later hb; replace c0 := keep hb c0; replace c1 := keep hb c1; replace d0 := keep hb d0; replace d1 := keep hb d1; replace d2 := keep hb d2; replace d3 := keep hb d3; replace x0 := keep hb x0; clear hb)
              | (go_at_call 81; refine (calls_bool hft.out (txFormed_any t _ _ _ _ _ htr hTr)).mono ?_; rintro e w2 ⟨rfl, hb⟩; replace HO := Lib.hid (own_keep HO.out hb); replace hwa := keepB hwa hb; replace hr := hr.later hb; replace c0 := keep hb c0; replace c1 := keep hb c1; replace x0 := keep hb x0; clear hb)
              | (go_at_call 52; refine (calls_int hz.out (home_any c s A B ca cb _ hr)).mono ?_; rintro e w3 ⟨rfl, hb⟩; replace HO := Lib.hid (own_keep HO.out hb); replace hwa := keepB hwa hb; clear hb))
            go_roundw
            case rel => exact ⟨k + 1, by omega, by go_num, by show World.ownsRow _ _ _ _ _ _ _; rw [HT.out, HZ.out]; simpa [hzg] using HO.out, hwa⟩
            case measure => simp [intOf]; omega
          · go_wp2_with (first
              | (go_at_call 37; refine (calls_bool hfc.out (formed_any c A B ca cb _ hr)).mono ?_; rintro e w1 ⟨rfl, hb⟩; replace HO := Lib.hid (own_keep HO.out hb); replace hwa := keepB hwa hb; replace htr := htr.later hb; replace hr := hr.later hb; replace hTr := hTr.later hb; replace c0 := keep hb c0; replace c1 := keep hb c1; replace d0 := keep hb d0; replace d1 := keep hb d1; replace d2 := keep hb d2; replace d3 := keep hb d3; replace x0 := keep hb x0; replace x1 := keep hb x1; clear hb)
              | (go_at_call 81; refine (calls_bool hft.out (txFormed_any t _ _ _ _ _ htr hTr)).mono ?_; rintro e w2 ⟨rfl, hb⟩; replace HO := Lib.hid (own_keep HO.out hb); replace hwa := keepB hwa hb; replace hr := hr.later hb; replace c0 := keep hb c0; replace c1 := keep hb c1; replace x0 := keep hb x0; replace x1 := keep hb x1; clear hb)
              | (go_at_call 52; refine (calls_int hz.out (home_any c s A B ca cb _ hr)).mono ?_; rintro e w3 ⟨rfl, hb⟩; replace HO := Lib.hid (own_keep HO.out hb); replace hwa := keepB hwa hb; replace x0 := keep hb x0; replace x1 := keep hb x1; clear hb)
              | (at_builtin; refine wpList_append_own _ rfl _ _ 35 rfl W.heap.size 77 i0 (.agg #[.string noStr, .int .u64 0]) 2 24 Tryz.underlying35 hi hz0 hz1 hz2 rfl (by decide) _ _ _ rfl (own_keep HO.out (below1 _ _)) ⟨w3.heap.size, 0, none⟩ 1 1 [.string s, .int .u64 n] rfl rfl (cells_two _ _ _ _) one_cell_rd (le_maxLen (by omega)) (by omega) (Nat.le_trans hwa.size (below1 _ _).size) ?_; intro v3 w4 HO3 hg3 _; replace hwa := own_below (keepB hwa (below1 _ _)) (Nat.le_refl _) (own_keep HO.out (below1 _ _)) hg3; replace HO3 := Lib.hid HO3; clear hg3))
            go_roundw
            case rel => exact ⟨k + 1, by omega, by go_num, by show World.ownsRow _ _ _ _ _ _ _; rw [HT.out, HZ.out, hzg]; simpa [rdCells_snoc] using HO3.out, hwa⟩
            case measure => simp [intOf]; omega
    · have ek : k = t.rds.length := by omega
      go_wp2
      go_ret
      have := HO.out
      rw [ek, ← HL.out] at this
      obtain ⟨A', cap', rfl, _, hI, hF⟩ := own_rds this
      exact ⟨A', cap', rfl, hI, keepB HB hw, fun a e => Nat.le_trans HB.size (hF a e)⟩
set_option maxRecDepth 100000 in
set_option maxHeartbeats 4000000 in
theorem writes_any (c : Cfg) (t : Tx) (g : Int) (A B A' B' : Option Addr) (ca cb ca' cb' : Nat) (w : World) (h : CfgAt w c A B) (ht : TxAt w t A' B') (hT : Tabs w) (hn : t.wrs.length ≤ 12) :
    Calls Tryz.prog 98 #[.agg #[.slice A c.reps.length ca, .slice B c.bnds.length cb], txV t A' B' ca' cb', .int .i64 g] w (WrsPost w (writesL c t g)) := by
  unfold txV
  obtain ⟨W, eW, HB, c0, c1, d0, d1, d2, d3⟩ := box24 w (.slice A c.reps.length ca) (.slice B c.bnds.length cb) (.int .i64 t.ses) (.int .i64 t.seq) (.slice A' t.rds.length ca') (.slice B' t.wrs.length cb') 25 38
  have h := h.later HB
  have ht := ht.later HB
  have hT := hT.later HB
  obtain ⟨i0, hi, hz0, hz1, hz2⟩ := info_parts info_wr
  have HL : Hid (writesL c t g = (t.wrs.take t.wrs.length).filter (pickW c t g)) := by show _ = _; rw [List.take_length]; rfl
  have HLN : Hid (∀ k, ((t.wrs.take k).filter (pickW c t g)).length ≤ k) := fun k => filter_take_len _ _ k
  obtain ⟨fc, hfc⟩ : ∃ r, Hid (formedB c = r) := ⟨_, rfl⟩
  obtain ⟨ft, hft⟩ : ∃ r, Hid (formedT t = r) := ⟨_, rfl⟩
  go_enter Tryz.func98, Tryz.ntmps98
  go_wp2_with fail
  clear eW
  go_loopw [7, 13] (fun v i wr => ∃ k : Nat, k ≤ t.wrs.length ∧ i = .int .i64 k ∧ Hid (wr.ownsRow W.heap.size 79 4 v ((t.wrs.take k).filter (pickW c t g)).length (wrCells ((t.wrs.take k).filter (pickW c t g)))) ∧ Below W.heap.size W wr) (fun _ i _ => t.wrs.length - (intOf i).toNat)
  case atStart => exact ⟨0, Nat.zero_le _, rfl, own_nil _ _ _ _, Below.refl _ _⟩
  case round =>
    obtain ⟨k, hk, rfl, HO, hw⟩ := hrel
    have hl := HLN.out k
    by_cases hlt : k < t.wrs.length
    · obtain ⟨b, off, s, zz, n, x, rfl, e0, e1, e2, e3, HX⟩ := (ht.wrs.later hw).at' hlt
      have HT := Lib.hid (write_snoc (c := c) (g := g) hlt HX.out)
      obtain ⟨wa, ewa, hba, x0, x1, x2, x3⟩ := box4 wr (.string s) (.int .i64 zz) (.int .u64 n) (.string x) 79
      have c3' := keep hw d3
      have hwa := keepB hw hba
      replace HO := Lib.hid (own_keep HO.out hba)
      have hr := h.later hwa
      have htr := ht.later hwa
      have hTr := hT.later hwa
      replace c0 := keep hwa c0
      replace c1 := keep hwa c1
      replace d0 := keep hwa d0
      replace d1 := keep hwa d1
      replace d2 := keep hwa d2
      replace d3 := keep hwa d3
      obtain ⟨z, hz⟩ : ∃ z, Hid (homeZ c s = z) := ⟨_, rfl⟩
      have HZ : Hid ((if formedB c && formedT t && (homeZ c s == g) then [⟨s, ⟨zz, n, x⟩⟩] else []) = if fc && ft && (z == g) then [(⟨s, ⟨zz, n, x⟩⟩ : Wr)] else []) := by show _ = _; rw [hfc.out, hft.out, hz.out]
      generalize hL : ((t.wrs.take k).filter (pickW c t g)) = L at *
      have hLk : L.length ≤ 12 := by omega
      clear hL
      cases fc
      · go_wp2_with (go_at_call 37; refine (calls_bool hfc.out (formed_any c A B ca cb _ hr)).mono ?_; rintro e w1 ⟨rfl, hb⟩; replace HO := Lib.hid (own_keep HO.out hb); replace hwa := keepB hwa hb; clear hb)
        go_roundw
        case rel => exact ⟨k + 1, by omega, by go_num, by show World.ownsRow _ _ _ _ _ _ _; rw [HT.out, HZ.out]; simpa using HO.out, hwa⟩
        case measure => simp [intOf]; omega
      · cases ft
        · go_wp2_with (first
            | (go_at_call 37; refine (calls_bool hfc.out (formed_any c A B ca cb _ hr)).mono ?_; rintro e w1 ⟨rfl, hb⟩; replace HO := Lib.hid (own_keep HO.out hb); replace hwa := keepB hwa hb; replace htr := htr.later hb; replace hTr := hTr.later hb; replace d0 := keep hb d0; replace d1 := keep hb d1; replace d2 := keep hb d2; replace d3 := keep hb d3; clear hb)
            | (go_at_call 81; refine (calls_bool hft.out (txFormed_any t _ _ _ _ _ htr hTr)).mono ?_; rintro e w2 ⟨rfl, hb⟩; replace HO := Lib.hid (own_keep HO.out hb); replace hwa := keepB hwa hb; clear hb))
          go_roundw
          case rel => exact ⟨k + 1, by omega, by go_num, by show World.ownsRow _ _ _ _ _ _ _; rw [HT.out, HZ.out]; simpa using HO.out, hwa⟩
          case measure => simp [intOf]; omega
        · cases hzg : z == g
          · go_wp2_with (first
              | (go_at_call 37; refine (calls_bool hfc.out (formed_any c A B ca cb _ hr)).mono ?_; rintro e w1 ⟨rfl, hb⟩; replace HO := Lib.hid (own_keep HO.out hb); replace hwa := keepB hwa hb; replace htr := htr.later hb; replace hr := hr.later hb; replace hTr := hTr.later hb; replace c0 := keep hb c0; replace c1 := keep hb c1; replace d0 := keep hb d0; replace d1 := keep hb d1; replace d2 := keep hb d2; replace d3 := keep hb d3; replace x0 := keep hb x0; clear hb)
              | (go_at_call 81; refine (calls_bool hft.out (txFormed_any t _ _ _ _ _ htr hTr)).mono ?_; rintro e w2 ⟨rfl, hb⟩; replace HO := Lib.hid (own_keep HO.out hb); replace hwa := keepB hwa hb; replace hr := hr.later hb; replace c0 := keep hb c0; replace c1 := keep hb c1; replace x0 := keep hb x0; clear hb)
              | (go_at_call 52; refine (calls_int hz.out (home_any c s A B ca cb _ hr)).mono ?_; rintro e w3 ⟨rfl, hb⟩; replace HO := Lib.hid (own_keep HO.out hb); replace hwa := keepB hwa hb; clear hb))
            go_roundw
            case rel => exact ⟨k + 1, by omega, by go_num, by show World.ownsRow _ _ _ _ _ _ _; rw [HT.out, HZ.out]; simpa [hzg] using HO.out, hwa⟩
            case measure => simp [intOf]; omega
          · go_wp2_with (first
              | (go_at_call 37; refine (calls_bool hfc.out (formed_any c A B ca cb _ hr)).mono ?_; rintro e w1 ⟨rfl, hb⟩; replace HO := Lib.hid (own_keep HO.out hb); replace hwa := keepB hwa hb; replace htr := htr.later hb; replace hr := hr.later hb; replace hTr := hTr.later hb; replace c0 := keep hb c0; replace c1 := keep hb c1; replace d0 := keep hb d0; replace d1 := keep hb d1; replace d2 := keep hb d2; replace d3 := keep hb d3; replace x0 := keep hb x0; replace x1 := keep hb x1; replace x2 := keep hb x2; replace x3 := keep hb x3; clear hb)
              | (go_at_call 81; refine (calls_bool hft.out (txFormed_any t _ _ _ _ _ htr hTr)).mono ?_; rintro e w2 ⟨rfl, hb⟩; replace HO := Lib.hid (own_keep HO.out hb); replace hwa := keepB hwa hb; replace hr := hr.later hb; replace c0 := keep hb c0; replace c1 := keep hb c1; replace x0 := keep hb x0; replace x1 := keep hb x1; replace x2 := keep hb x2; replace x3 := keep hb x3; clear hb)
              | (go_at_call 52; refine (calls_int hz.out (home_any c s A B ca cb _ hr)).mono ?_; rintro e w3 ⟨rfl, hb⟩; replace HO := Lib.hid (own_keep HO.out hb); replace hwa := keepB hwa hb; replace x0 := keep hb x0; replace x1 := keep hb x1; replace x2 := keep hb x2; replace x3 := keep hb x3; clear hb)
              | (at_builtin; refine wpList_append_own _ rfl _ _ 36 rfl W.heap.size 79 i0 (.agg #[.string noStr, .int .i64 0, .int .u64 0, .string noStr]) 4 48 Tryz.underlying36 hi hz0 hz1 hz2 rfl (by decide) _ _ _ rfl (own_keep HO.out (below1 _ _)) ⟨w3.heap.size, 0, none⟩ 1 1 [.string s, .int .i64 zz, .int .u64 n, .string x] rfl rfl (cells_four _ _ _ _ _ _) one_cell_wr (le_maxLen (by omega)) (by omega) (Nat.le_trans hwa.size (below1 _ _).size) ?_; intro v3 w4 HO3 hg3 _; replace hwa := own_below (keepB hwa (below1 _ _)) (Nat.le_refl _) (own_keep HO.out (below1 _ _)) hg3; replace HO3 := Lib.hid HO3; clear hg3))
            go_roundw
            case rel => exact ⟨k + 1, by omega, by go_num, by show World.ownsRow _ _ _ _ _ _ _; rw [HT.out, HZ.out, hzg]; simpa [wrCells_snoc] using HO3.out, hwa⟩
            case measure => simp [intOf]; omega
    · have ek : k = t.wrs.length := by omega
      go_wp2
      go_ret
      have := HO.out
      rw [ek, ← HL.out] at this
      obtain ⟨A', cap', rfl, _, hI, hF⟩ := own_wrs this
      exact ⟨A', cap', rfl, hI, keepB HB hw, fun a e => Nat.le_trans HB.size (hF a e)⟩
end Go.Proofs.YtcldpmkhpmlcbaaGreatDoor
/- Layer 17 in plain Lean: a command, and that what was decided stays. -/
namespace Go.Proofs.YtcldpmkhpmlcbaaGreatDoor

def applyA (c : Cfg) (g : Int) (m : MachD) (a : CmdV) : MachD := if a.k = 1 then beginM c g m a.t else if a.k = 2 ∨ a.k = 3 then heardM g m a.k ⟨a.is, a.iq⟩ a.g a.st a.y else m
def applyP (c : Cfg) (g : Int) (m : MachD) (a : CmdV) : List OutD := if a.k = 1 then beginO c g m a.t else []
/-- All that a formed command does. -/
def applyM (c : Cfg) (g : Int) (m : MachD) (a : CmdV) : MachD := if formedC a then (advM c g ((applyA c g m a).q.l.length + 1) (applyA c g m a)).1 else m
def applyO (c : Cfg) (g : Int) (m : MachD) (a : CmdV) : List OutD := if formedC a then applyP c g m a ++ (advM c g ((applyA c g m a).q.l.length + 1) (applyA c g m a)).2 else []
/-- What a formed command's fields are. -/
structure CmdOK (a : CmdV) : Prop where
  k : a.k = 0 ∨ a.k = 1 ∨ a.k = 2 ∨ a.k = 3
  t : a.k = 1 → formedT a.t = true
  id : a.k = 2 ∨ a.k = 3 → idB a.is a.iq = true ∧ (0 ≤ a.g ∧ a.g < 4)
  st : a.k = 2 ∨ a.k = 3 → a.st < 9223372036854775808
theorem cmdOK_of {a : CmdV} (h : formedC a = true) : CmdOK a := by
  unfold formedC at h
  split at h
  · rename_i e
    have e : a.k = 0 := by simpa using e
    exact ⟨.inl e, fun q => by omega, fun q => by omega, fun q => by omega⟩
  · split at h
    · rename_i e
      have e : a.k = 1 := by simpa using e
      simp only [Bool.and_eq_true] at h
      exact ⟨.inr (.inl e), fun _ => h.1, fun q => by omega, fun q => by omega⟩
    · split at h
      · rename_i e
        have e : a.k = 2 := by simpa using e
        simp only [Bool.and_eq_true, decide_eq_true_eq, groupC] at h
        refine ⟨.inr (.inr (.inl e)), fun q => by omega, fun _ => ⟨h.1.1.1.1, h.1.2⟩, fun _ => ?_⟩
        have := h.1.1.2
        omega
      · split at h
        · rename_i e
          have e : a.k = 3 := by simpa using e
          simp only [Bool.and_eq_true, decide_eq_true_eq, groupC] at h
          refine ⟨.inr (.inr (.inr e)), fun q => by omega, fun _ => ⟨h.1.1, h.1.2⟩, fun _ => ?_⟩
          have h2 := h.2
          simp only [cmdEq, Bool.and_eq_true, beq_iff_eq] at h2
          have := h2.1.1.2
          omega
        · cases h
section
variable {c : Cfg} {g : Int} {n : Nat} {m : MachD}
theorem applyA_ok (h : MOK c g n m) {a : CmdV} (ha : CmdOK a) : MOK c g (n + 1) (applyA c g m a) := by
  unfold applyA
  split
  · rename_i e; exact begin_okM h (ha.t e)
  · split
    · rename_i e
      have := ha.st e
      exact (heard_ok h a.k ⟨a.is, a.iq⟩ a.g (by omega) a.y).more (Nat.le_succ _)
    · exact h.more (Nat.le_succ _)
theorem apply_okM (h : MOK c g n m) (a : CmdV) : MOK c g (n + 1) (applyM c g m a) := by
  unfold applyM
  split
  · rename_i hf
    exact adv_okM _ (applyA_ok h (cmdOK_of hf))
  · exact h.more (Nat.le_succ _)
/-! ### What is decided stays; what is told of it is so -/
def DecKeep (m m' : MachD) : Prop := ∀ i d, getM m.dc i = some d → getM m'.dc i = some d
def OutSaid (m : MachD) (os : List OutD) : Prop := ∀ o ∈ os, o.kind = 4 → o.dst = -1 ∧ getM m.dc o.id = some (o.yes, o.stamp)
theorem DecKeep.refl (m : MachD) : DecKeep m m := fun _ _ h => h
theorem DecKeep.trans {a b d : MachD} (h : DecKeep a b) (h' : DecKeep b d) : DecKeep a d := fun i x e => h' i x (h i x e)
theorem OutSaid.later {a b : MachD} {os : List OutD} (h : OutSaid a os) (hk : DecKeep a b) : OutSaid b os := fun o ho e => ⟨(h o ho e).1, hk _ _ (h o ho e).2⟩
theorem OutSaid.append {a : MachD} {os os' : List OutD} (h : OutSaid a os) (h' : OutSaid a os') : OutSaid a (os ++ os') := fun o ho => by
  rcases List.mem_append.1 ho with ho | ho
  · exact h o ho
  · exact h' o ho
theorem OutSaid.nil (a : MachD) : OutSaid a [] := fun o ho => by cases ho
theorem tell_said {m : MachD} {gs : List Int} {k : Int} {i : IdD} {s : Nat} {y : Bool} (hk : k ≠ 4) : OutSaid m (tellL g gs k i s y) := by
  intro o ho e
  obtain ⟨h, _, rfl⟩ := List.mem_map.1 ho
  exact absurd e hk
theorem again_said {m : MachD} {q : QD} {i : IdD} {w : WaitD} : OutSaid m (againL g q i w) := by
  unfold againL
  refine OutSaid.append (tell_said (by decide)) ?_
  split
  · exact tell_said (by decide)
  · exact OutSaid.nil _
theorem begin_said {t : Tx} : DecKeep m (beginM c g m t) ∧ OutSaid (beginM c g m t) (beginO c g m t) := by
  have hk : DecKeep m (beginM c g m t) := by
    unfold beginM
    split
    · exact fun i d e => e
    · exact DecKeep.refl _
  refine ⟨hk, ?_⟩
  unfold beginO
  split
  · rename_i hW
    have hd : (getM m.dc (idT t)).isSome = true := by
      unfold beginW at hW
      split at hW; · cases hW
      split at hW
      · assumption
      · repeat' split at hW
        all_goals cases hW
    obtain ⟨d, hd⟩ := Option.isSome_iff_exists.1 hd
    intro o ho _
    rw [List.mem_singleton] at ho
    subst ho
    refine ⟨rfl, hk _ _ ?_⟩
    rw [decOf, hd]
    rfl
  · exact again_said
  · exact again_said
  · exact OutSaid.nil _
theorem heard_said {k : Int} {i : IdD} {h : Int} {s : Nat} {y : Bool} : DecKeep m (heardM g m k i h s y) := by
  unfold heardM
  repeat' split
  all_goals exact fun i d e => e
theorem write_dc (m : MachD) (final : Nat) (ws : List Wr) : (writeM m final ws).dc = m.dc := by
  unfold writeM
  simp only
  split <;> rfl
theorem turn_said (h : MOK c g n m) : DecKeep m (turnM c g m).2.1 ∧ OutSaid (turnM c g m).2.1 (turnM c g m).2.2 := by
  unfold turnM
  split
  · exact ⟨DecKeep.refl _, OutSaid.nil _⟩
  · rename_i i final hn
    obtain ⟨v, hv, hw, hok⟩ := next_waits h hn
    have hno : getM m.dc i = none := by
      cases e : getM m.dc i with
      | none => rfl
      | some d =>
        have := h.dis i (by rw [e]; rfl)
        rw [hv] at this; cases this
    have hvo : ∀ m' : MachD, OutSaid m' (voteO c g m i v) := fun m' => by
      unfold voteO
      split
      · exact OutSaid.nil _
      · exact tell_said (by decide)
    simp only
    rw [hw]
    split
    · have hk : DecKeep m (doneM m i (outYes v.gs.length (ownVotes c g m v)) final) := fun j d e => by
        show getM (putM m.dc i _) j = some d
        rw [getM_put]
        by_cases ej : j = i
        · subst ej; rw [hno] at e; cases e
        · rw [if_neg ej]; exact e
      have hs : getM (doneM m i (outYes v.gs.length (ownVotes c g m v)) final).dc i = some (outYes v.gs.length (ownVotes c g m v), final) := by
        show getM (putM m.dc i _) i = _
        rw [getM_put, if_pos rfl]
      have hmid : DecKeep (doneM m i (outYes v.gs.length (ownVotes c g m v)) final) (if (outYes v.gs.length (ownVotes c g m v) && !(writesL c v.t g).isEmpty) = true then writeM (doneM m i (outYes v.gs.length (ownVotes c g m v)) final) final (writesL c v.t g) else doneM m i (outYes v.gs.length (ownVotes c g m v)) final) := by
        split
        · intro j d e; rw [write_dc]; exact e
        · exact DecKeep.refl _
      refine ⟨hk.trans hmid, OutSaid.append (hvo _) ?_⟩
      intro o ho _
      rw [List.mem_singleton] at ho
      subst ho
      exact ⟨rfl, hmid _ _ hs⟩
    · exact ⟨fun j d e => e, hvo _⟩
theorem adv_said : ∀ (k : Nat) {m : MachD}, MOK c g n m → DecKeep m (advM c g k m).1 ∧ OutSaid (advM c g k m).1 (advM c g k m).2
  | 0, m, h => ⟨DecKeep.refl _, OutSaid.nil _⟩
  | k + 1, m, h => by
    obtain ⟨h1, h2⟩ := turn_said h
    have h3 := (turn_okM h).1
    unfold advM
    simp only
    split
    · obtain ⟨h4, h5⟩ := adv_said k h3
      exact ⟨h1.trans h4, (h2.later h4).append h5⟩
    · exact ⟨h1, h2⟩
theorem apply_said (h : MOK c g n m) (a : CmdV) : DecKeep m (applyM c g m a) ∧ OutSaid (applyM c g m a) (applyO c g m a) := by
  unfold applyM applyO
  split
  · rename_i hf
    have h1 := applyA_ok h (cmdOK_of hf)
    obtain ⟨h2, h3⟩ := adv_said ((applyA c g m a).q.l.length + 1) h1
    have h4 : DecKeep m (applyA c g m a) ∧ OutSaid (applyA c g m a) (applyP c g m a) := by
      unfold applyA applyP
      split
      · exact begin_said
      · split
        · exact ⟨heard_said, OutSaid.nil _⟩
        · exact ⟨DecKeep.refl _, OutSaid.nil _⟩
    exact ⟨h4.1.trans h2, (h4.2.later h2).append h3⟩
  · exact ⟨DecKeep.refl _, OutSaid.nil _⟩
/-! ### How much is told -/
theorem tellL_len {gs : List Int} {k : Int} {i : IdD} {s : Nat} {y : Bool} : (tellL g gs k i s y).length ≤ gs.length := by
  unfold tellL
  rw [List.length_map]
  exact List.length_filter_le _ _
theorem again_len {q : QD} {i : IdD} {w : WaitD} : (againL g q i w).length ≤ 2 * w.gs.length := by
  unfold againL
  rw [List.length_append]
  have h1 := tellL_len (g := g) (gs := w.gs) (k := 2) (i := i) (s := (oneQ q i).own) (y := false)
  have h2 := tellL_len (g := g) (gs := w.gs) (k := 3) (i := i) (s := 0) (y := votedV w.vs g)
  split
  · omega
  · simp only [List.length_nil]; omega
theorem beginO_len (h : MOK c g n m) {t : Tx} : (beginO c g m t).length ≤ 8 := by
  have h4 := (groupsT_ok (t := t) h.cf).2.2
  have h5 := reps_four h.cf
  unfold beginO
  split
  · simp
  · rename_i hW
    have hd : (getM m.wt (idT t)).isSome = true := by
      unfold beginW at hW
      split at hW; · cases hW
      split at hW; · cases hW
      split at hW
      · assumption
      · split at hW <;> cases hW
    obtain ⟨v, hv⟩ := Option.isSome_iff_exists.1 hd
    have := again_len (g := g) (q := m.q) (i := idT t) (w := waitOf m (idT t))
    rw [show waitOf m (idT t) = v by rw [waitOf, hv]; rfl] at this ⊢
    have := (h.w _ v hv).four h.cf
    omega
  · have := again_len (g := g) (q := beginQ m.q (idT t) (groupsT c t)) (i := idT t) (w := ⟨t, groupsT c t, []⟩)
    simp only at this
    omega
  · simp
theorem turn_len (h : MOK c g n m) : (turnM c g m).2.2.length ≤ 5 := by
  unfold turnM
  split
  · simp
  · rename_i i final hn
    obtain ⟨v, hv, hw, hok⟩ := next_waits h hn
    have h4 := hok.four h.cf
    have hvo : (voteO c g m i v).length ≤ 4 := by
      unfold voteO
      split
      · simp
      · have := tellL_len (g := g) (gs := v.gs) (k := 3) (i := i) (s := 0) (y := voteB m.s (readsL c v.t g)); omega
    simp only
    rw [hw]
    split
    · rw [List.length_append, List.length_singleton]; omega
    · show (voteO c g m i v).length ≤ 5; omega
theorem adv_len : ∀ (k : Nat) {m : MachD}, MOK c g n m → (advM c g k m).2.length ≤ 5 * k
  | 0, m, h => Nat.le_refl _
  | k + 1, m, h => by
    have h1 := turn_len h
    have h3 := (turn_okM h).1
    unfold advM
    simp only
    split
    · have := adv_len k h3
      rw [List.length_append]; omega
    · show (turnM c g m).2.2.length ≤ _; omega
theorem applyO_len (h : MOK c g n m) (a : CmdV) : (applyO c g m a).length ≤ 5 * n + 20 := by
  unfold applyO
  split
  · rename_i hf
    have h1 := applyA_ok h (cmdOK_of hf)
    have h2 := adv_len ((applyA c g m a).q.l.length + 1) h1
    have h3 := h1.cnt
    have h4 : (applyP c g m a).length ≤ 8 := by
      unfold applyP
      split
      · exact beginO_len h
      · simp
    rw [List.length_append]
    omega
  · simp
end
end Go.Proofs.YtcldpmkhpmlcbaaGreatDoor
/- The reference's Scan in plain Lean: over the items, each key once. -/
namespace Go.Proofs.YtcldpmkhpmlcbaaGreatDoor
open Go.RowKit Go.Maps

end Go.Proofs.YtcldpmkhpmlcbaaGreatDoor
/- Layer 14's laws in plain Lean: what is seen at rising numbers, scanned in part, collected. -/
namespace Go.Proofs.YtcldpmkhpmlcbaaGreatDoor
open Go.RowKit Go.Maps

/-! ### Seen -/
theorem seenV_mem' (l : List Ver) (n : Nat) : seenV l n = noVer ∨ seenV l n ∈ l := by
  rw [seenV]
  cases hf : l.find? fun v => decide (v.num ≤ n) with
  | none => exact .inl rfl
  | some u => exact .inr (List.mem_of_find?_eq_some hf)

/-! ### Scan -/
/-! ### Collect -/
end Go.Proofs.YtcldpmkhpmlcbaaGreatDoor
/- Layer 8's Few, and awake: whether a transaction is looked at; what the program must answer. -/
namespace Go.Proofs.YtcldpmkhpmlcbaaGreatDoor
open Go.RowKit Go.Shelf

def rdFew (x : Rd) : Bool := decide (x.key.size ≤ 1000)
def fewT (t : Tx) : Bool := decide (t.rds.length ≤ 12) && decide (t.wrs.length ≤ 12) && t.rds.all rdFew && t.wrs.all wrFew

set_option maxRecDepth 100000 in
set_option maxHeartbeats 2000000 in
theorem few08_any (t : Tx) (A B : Option Addr) (ca cb : Nat) (w : World) (h : TxAt w t A B) :
    Calls Tryz.prog 21 #[txV t A B ca cb] w fun e w' => e = .returned (.bool (fewT t)) ∧ Below w.heap.size w w' := by
  unfold txV
  obtain ⟨W, eW, HB, c0, c1, c2, c3⟩ := box4 w (.int .i64 t.ses) (.int .i64 t.seq) (.slice A t.rds.length ca) (.slice B t.wrs.length cb) 38
  have h := h.later HB
  have hrn := h.rn
  have hwn := h.wn
  by_cases hn : t.rds.length ≤ 12
  · by_cases hm : t.wrs.length ≤ 12
    · have q0 : decide ((12 : Int) < (t.rds.length : Int)) = false := by rw [decide_eq_false_iff_not]; omega
      have q1 : decide ((12 : Int) < (t.wrs.length : Int)) = false := by rw [decide_eq_false_iff_not]; omega
      replace hn := Lib.hid hn
      replace hm := Lib.hid hm
      go_enter Tryz.func21, Tryz.ntmps21
      go_wp2_with fail
      clear eW q0 q1
      go_loopw [3] (fun i wr => ∃ k : Nat, k ≤ t.rds.length ∧ i = .int .i64 k ∧ Hid ((t.rds.take k).all rdFew = true) ∧ Below W.heap.size W wr) (fun i _ => t.rds.length - (intOf i).toNat)
      case atStart => exact ⟨0, Nat.zero_le _, rfl, rfl, Below.refl _ _⟩
      case round =>
        obtain ⟨k, hk, rfl, HA, hw⟩ := hrel
        have hB := keepB HB hw
        replace c2 := keep hw c2
        replace c3 := keep hw c3
        by_cases hlt : k < t.rds.length
        · obtain ⟨p, off, s, n, rfl, d0, d1, HX⟩ := (h.later hw).rds.at' (k := k) hlt
          have hki : (k : Int) < t.rds.length := by omega
          by_cases hb : 1000 < s.size
          · have HF : Hid (fewT t = false) := by show _ = _; rw [fewT, all_bad hlt HX.out (by simp [rdFew]; omega)]; simp
            go_wp2
            go_ret
            exact ⟨ret_bool HF.out, hB⟩
          · have HR : Hid ((t.rds.take (k + 1)).all rdFew = true) := all_next hlt HX.out (by simp [rdFew]; omega) HA.out
            go_wp2
            go_roundw
            case rel => exact ⟨k + 1, by omega, by go_num, HR, hw⟩
            case measure => simp [intOf]; omega
        · have ek : k = t.rds.length := by omega
          have HR : Hid (t.rds.all rdFew = true) := by show _ = _; have := HA.out; rw [ek, List.take_length] at this; exact this
          clear ek HA
          go_wp2_with fail
          obtain ⟨wa, rfl⟩ : ∃ wa : World, wa = wr := ⟨_, rfl⟩
          have HR1 := Lib.hid HR.out
          clear HR
          replace h := h.later hw
          replace HB := keepB HB hw
          clear hw hB
          go_loopw [4] (fun i wr => ∃ k : Nat, k ≤ t.wrs.length ∧ i = .int .i64 k ∧ Hid ((t.wrs.take k).all wrFew = true) ∧ Below wa.heap.size wa wr) (fun i _ => t.wrs.length - (intOf i).toNat)
          case atStart => exact ⟨0, Nat.zero_le _, rfl, rfl, Below.refl _ _⟩
          case round =>
            obtain ⟨k, hk, rfl, HA, hw⟩ := hrel
            have hB := keepB HB hw
            replace c2 := keep hw c2
            replace c3 := keep hw c3
            by_cases hlt : k < t.wrs.length
            · obtain ⟨p, off, s, z, n, x, rfl, d0, d1, d2, d3, HX⟩ := (h.later hw).wrs.at' (k := k) hlt
              have hki : (k : Int) < t.wrs.length := by omega
              by_cases hb : 1000 < s.size
              · have HF : Hid (fewT t = false) := by show _ = _; rw [fewT, all_bad hlt HX.out (by simp [wrFew]; omega)]; simp
                go_wp2
                go_ret
                exact ⟨ret_bool HF.out, hB⟩
              · by_cases hb2 : 1000 < x.size
                · have HF : Hid (fewT t = false) := by show _ = _; rw [fewT, all_bad hlt HX.out (by simp [wrFew]; omega)]; simp
                  go_wp2
                  go_ret
                  exact ⟨ret_bool HF.out, hB⟩
                · have HR : Hid ((t.wrs.take (k + 1)).all wrFew = true) := all_next hlt HX.out (by simp [wrFew]; omega) HA.out
                  go_wp2
                  go_roundw
                  case rel => exact ⟨k + 1, by omega, by go_num, HR, hw⟩
                  case measure => simp [intOf]; omega
            · have ek : k = t.wrs.length := by omega
              have HR : Hid (t.wrs.all wrFew = true) := by show _ = _; have := HA.out; rw [ek, List.take_length] at this; exact this
              clear ek HA
              have HF : Hid (fewT t = true) := by show _ = _; rw [fewT, HR1.out, HR.out, decide_eq_true hn.out, decide_eq_true hm.out]; rfl
              go_wp2
              go_ret
              exact ⟨ret_bool HF.out, hB⟩
    · have HF : Hid (fewT t = false) := by show _ = _; rw [fewT, decide_eq_false hm]; simp
      go_enter Tryz.func21, Tryz.ntmps21
      go_wp2
      go_ret
      exact ⟨ret_bool HF.out, HB⟩
  · have HF : Hid (fewT t = false) := by show _ = _; rw [fewT, decide_eq_false hn]; simp
    go_enter Tryz.func21, Tryz.ntmps21
    go_wp2
    go_ret
    exact ⟨ret_bool HF.out, HB⟩

end Go.Proofs.YtcldpmkhpmlcbaaGreatDoor
/- parishref09.Few. -/
namespace Go.Proofs.YtcldpmkhpmlcbaaGreatDoor
open Go.RowKit Go.Shelf

end Go.Proofs.YtcldpmkhpmlcbaaGreatDoor
