/- Layer 8's cuts: txn.Reads and Writes. -/
import Derived.Test.YthpdladfcjcjiaaDoorCutsM08
namespace Go.Proofs.YthpdladfcjcjiaaDoor
open Go.RowKit Go.Shelf

theorem info_rd : (Tryd.prog.info? 80).map (fun i => (i.zero, i.size, i.bytes)) = some (some (.agg #[.string ByteArray.empty, .int .u64 0]), 2, 24) := by kernel_rfl
theorem info_wr : (Tryd.prog.info? 84).map (fun i => (i.zero, i.size, i.bytes)) = some (some (.agg #[.string ByteArray.empty, .int .i64 0, .int .u64 0, .string ByteArray.empty]), 4, 48) := by kernel_rfl
theorem box24 (w : World) (a b a' b' c' d' : Value) (t t' : TypeId) : ∃ W : World, (w.alloc (.cells #[a, b] t)).alloc (.cells #[a', b', c', d'] t') = W ∧ Below w.heap.size w W ∧ W.cell? ⟨w.heap.size, 0, none⟩ = some a ∧ W.cell? ⟨w.heap.size, 1, none⟩ = some b ∧ W.cell? ⟨w.heap.size + 1, 0, none⟩ = some a' ∧ W.cell? ⟨w.heap.size + 1, 1, none⟩ = some b' ∧ W.cell? ⟨w.heap.size + 1, 2, none⟩ = some c' ∧ W.cell? ⟨w.heap.size + 1, 3, none⟩ = some d' :=
  ⟨_, rfl, below2 _ _ _, by simp, by simp, by simp, by simp, by simp, by simp⟩
theorem cells_two (w : World) (u v : Value) (t : TypeId) : ∀ (j : Nat) (x : Value), [u, v][j]? = some x → (w.alloc (.cells #[u, v] t)).cell? ((⟨w.heap.size, 0, none⟩ : Addr).add j) = some x := by
  intro j x hx
  match j with
  | 0 => simp at hx; subst hx; simp [Addr.add]
  | 1 => simp at hx; subst hx; simp [Addr.add]
  | j + 2 => simp at hx
theorem cells_four (w : World) (u v y z : Value) (t : TypeId) : ∀ (j : Nat) (x : Value), [u, v, y, z][j]? = some x → (w.alloc (.cells #[u, v, y, z] t)).cell? ((⟨w.heap.size, 0, none⟩ : Addr).add j) = some x := by
  intro j x hx
  match j with
  | 0 => simp at hx; subst hx; simp [Addr.add]
  | 1 => simp at hx; subst hx; simp [Addr.add]
  | 2 => simp at hx; subst hx; simp [Addr.add]
  | 3 => simp at hx; subst hx; simp [Addr.add]
  | j + 4 => simp at hx
theorem one_cell_rd {s : ByteArray} {n : Nat} : ∀ u ∈ [Value.string s, Value.int .u64 n], u.oneCell' = true := fun u hu => by
  simp at hu; rcases hu with rfl | rfl <;> rfl
theorem one_cell_wr {s t : ByteArray} {z : Int} {n : Nat} : ∀ u ∈ [Value.string s, Value.int .i64 z, Value.int .u64 n, Value.string t], u.oneCell' = true := fun u hu => by
  simp at hu; rcases hu with rfl | rfl | rfl | rfl <;> rfl
theorem read_snoc {c : Cfg} {t : Tx} {g : Int} {k : Nat} {s : ByteArray} {n : Nat} (hk : k < t.rds.length) (h : t.rds.getD k noRd = ⟨s, n⟩) :
    (t.rds.take (k + 1)).filter (pickR c t g) = (t.rds.take k).filter (pickR c t g) ++ if formedB c && formedT t && (homeZ c s == g) then [⟨s, n⟩] else [] := by
  rw [filter_take _ noRd _ _ hk, h]; rfl
theorem write_snoc {c : Cfg} {t : Tx} {g : Int} {k : Nat} {s : ByteArray} {v : Val} (hk : k < t.wrs.length) (h : t.wrs.getD k noWr = ⟨s, v⟩) :
    (t.wrs.take (k + 1)).filter (pickW c t g) = (t.wrs.take k).filter (pickW c t g) ++ if formedB c && formedT t && (homeZ c s == g) then [⟨s, v⟩] else [] := by
  rw [filter_take _ noWr _ _ hk, h]; rfl

set_option maxRecDepth 100000 in
set_option maxHeartbeats 4000000 in
theorem reads_any (c : Cfg) (t : Tx) (g : Int) (A B A' B' : Option Addr) (ca cb ca' cb' : Nat) (w : World) (h : CfgAt w c A B) (ht : TxAt w t A' B') (hT : Tabs w) (hn : t.rds.length ≤ 12) :
    Calls Tryd.prog 53 #[.agg #[.slice A c.reps.length ca, .slice B c.bnds.length cb], txV t A' B' ca' cb', .int .i64 g] w (RdsPost w (readsL c t g)) := by
  unfold txV
  obtain ⟨W, eW, HB, c0, c1, d0, d1, d2, d3⟩ := box24 w (.slice A c.reps.length ca) (.slice B c.bnds.length cb) (.int .i64 t.ses) (.int .i64 t.seq) (.slice A' t.rds.length ca') (.slice B' t.wrs.length cb') 25 41
  have h := h.later HB
  have ht := ht.later HB
  have hT := hT.later HB
  obtain ⟨i0, hi, hz0, hz1, hz2⟩ := info_parts info_rd
  have HL : Hid (readsL c t g = (t.rds.take t.rds.length).filter (pickR c t g)) := by show _ = _; rw [List.take_length]; rfl
  have HLN : Hid (∀ k, ((t.rds.take k).filter (pickR c t g)).length ≤ k) := fun k => filter_take_len _ _ k
  obtain ⟨fc, hfc⟩ : ∃ r, Hid (formedB c = r) := ⟨_, rfl⟩
  obtain ⟨ft, hft⟩ : ∃ r, Hid (formedT t = r) := ⟨_, rfl⟩
  go_enter Tryd.func53, Tryd.ntmps53
  go_wp2_with fail
  clear eW
  go_loopw [7, 13] (fun v i wr => ∃ k : Nat, k ≤ t.rds.length ∧ i = .int .i64 k ∧ Hid (wr.ownsRow W.heap.size 80 2 v ((t.rds.take k).filter (pickR c t g)).length (rdCells ((t.rds.take k).filter (pickR c t g)))) ∧ Below W.heap.size W wr) (fun _ i _ => t.rds.length - (intOf i).toNat)
  case atStart => exact ⟨0, Nat.zero_le _, rfl, own_nil _ _ _ _, Below.refl _ _⟩
  case round =>
    obtain ⟨k, hk, rfl, HO, hw⟩ := hrel
    have hl := HLN.out k
    by_cases hlt : k < t.rds.length
    · obtain ⟨b, off, s, n, rfl, e0, e1, HX⟩ := (ht.rds.later hw).at' hlt
      have HT := Lib.hid (read_snoc (c := c) (g := g) hlt HX.out)
      obtain ⟨wa, ewa, hba, x0, x1⟩ := box2 wr (.string s) (.int .u64 n) 80
      have c2' := keep hw d2
      have hwa := keepB hw hba
      replace HO := Lib.hid (own_keep HO.out hba)
      have hr := h.later hwa
      have htr := ht.later hwa
      have hTr := hT.later hwa
      replace c0 := keep hwa c0
      replace c1 := keep hwa c1
      replace d0 := keep hwa d0
      replace d1 := keep hwa d1
      replace d2 := keep hwa d2
      replace d3 := keep hwa d3
      obtain ⟨z, hz⟩ : ∃ z, Hid (homeZ c s = z) := ⟨_, rfl⟩
      have HZ : Hid ((if formedB c && formedT t && (homeZ c s == g) then [⟨s, n⟩] else []) = if fc && ft && (z == g) then [(⟨s, n⟩ : Rd)] else []) := by show _ = _; rw [hfc.out, hft.out, hz.out]
      generalize hL : ((t.rds.take k).filter (pickR c t g)) = L at *
      have hLk : L.length ≤ 12 := by omega
      clear hL
      cases fc
      · go_wp2_with (go_at_call 21; refine (calls_bool hfc.out (formed_any c A B ca cb _ hr)).mono ?_; rintro e w1 ⟨rfl, hb⟩; replace HO := Lib.hid (own_keep HO.out hb); replace hwa := keepB hwa hb; clear hb)
        go_roundw
        case rel => exact ⟨k + 1, by omega, by go_num, by show World.ownsRow _ _ _ _ _ _ _; rw [HT.out, HZ.out]; simpa using HO.out, hwa⟩
        case measure => simp [intOf]; omega
      · cases ft
        · go_wp2_with (first
            | (go_at_call 21; refine (calls_bool hfc.out (formed_any c A B ca cb _ hr)).mono ?_; rintro e w1 ⟨rfl, hb⟩; replace HO := Lib.hid (own_keep HO.out hb); replace hwa := keepB hwa hb; replace htr := htr.later hb; replace hTr := hTr.later hb; replace d0 := keep hb d0; replace d1 := keep hb d1; replace d2 := keep hb d2; replace d3 := keep hb d3; clear hb)
            | (go_at_call 25; refine (calls_bool hft.out (txFormed_any t _ _ _ _ _ htr hTr)).mono ?_; rintro e w2 ⟨rfl, hb⟩; replace HO := Lib.hid (own_keep HO.out hb); replace hwa := keepB hwa hb; clear hb))
          go_roundw
          case rel => exact ⟨k + 1, by omega, by go_num, by show World.ownsRow _ _ _ _ _ _ _; rw [HT.out, HZ.out]; simpa using HO.out, hwa⟩
          case measure => simp [intOf]; omega
        · cases hzg : z == g
          · go_wp2_with (first
              | (go_at_call 21; refine (calls_bool hfc.out (formed_any c A B ca cb _ hr)).mono ?_; rintro e w1 ⟨rfl, hb⟩; replace HO := Lib.hid (own_keep HO.out hb); replace hwa := keepB hwa hb; replace htr := htr.later hb; replace hr := hr.later hb; replace hTr := hTr.later hb; replace c0 := keep hb c0; replace c1 := keep hb c1; replace d0 := keep hb d0; replace d1 := keep hb d1; replace d2 := keep hb d2; replace d3 := keep hb d3; replace x0 := keep hb x0; clear hb)
              | (go_at_call 25; refine (calls_bool hft.out (txFormed_any t _ _ _ _ _ htr hTr)).mono ?_; rintro e w2 ⟨rfl, hb⟩; replace HO := Lib.hid (own_keep HO.out hb); replace hwa := keepB hwa hb; replace hr := hr.later hb; replace c0 := keep hb c0; replace c1 := keep hb c1; replace x0 := keep hb x0; clear hb)
              | (go_at_call 22; refine (calls_int hz.out (home_any c s A B ca cb _ hr)).mono ?_; rintro e w3 ⟨rfl, hb⟩; replace HO := Lib.hid (own_keep HO.out hb); replace hwa := keepB hwa hb; clear hb))
            go_roundw
            case rel => exact ⟨k + 1, by omega, by go_num, by show World.ownsRow _ _ _ _ _ _ _; rw [HT.out, HZ.out]; simpa [hzg] using HO.out, hwa⟩
            case measure => simp [intOf]; omega
          · go_wp2_with (first
              | (go_at_call 21; refine (calls_bool hfc.out (formed_any c A B ca cb _ hr)).mono ?_; rintro e w1 ⟨rfl, hb⟩; replace HO := Lib.hid (own_keep HO.out hb); replace hwa := keepB hwa hb; replace htr := htr.later hb; replace hr := hr.later hb; replace hTr := hTr.later hb; replace c0 := keep hb c0; replace c1 := keep hb c1; replace d0 := keep hb d0; replace d1 := keep hb d1; replace d2 := keep hb d2; replace d3 := keep hb d3; replace x0 := keep hb x0; replace x1 := keep hb x1; clear hb)
              | (go_at_call 25; refine (calls_bool hft.out (txFormed_any t _ _ _ _ _ htr hTr)).mono ?_; rintro e w2 ⟨rfl, hb⟩; replace HO := Lib.hid (own_keep HO.out hb); replace hwa := keepB hwa hb; replace hr := hr.later hb; replace c0 := keep hb c0; replace c1 := keep hb c1; replace x0 := keep hb x0; replace x1 := keep hb x1; clear hb)
              | (go_at_call 22; refine (calls_int hz.out (home_any c s A B ca cb _ hr)).mono ?_; rintro e w3 ⟨rfl, hb⟩; replace HO := Lib.hid (own_keep HO.out hb); replace hwa := keepB hwa hb; replace x0 := keep hb x0; replace x1 := keep hb x1; clear hb)
              | (at_builtin; refine wpList_append_own _ rfl _ _ 38 rfl W.heap.size 80 i0 (.agg #[.string noStr, .int .u64 0]) 2 24 Tryd.underlying38 hi hz0 hz1 hz2 rfl (by decide) _ _ _ rfl (own_keep HO.out (below1 _ _)) ⟨w3.heap.size, 0, none⟩ 1 1 [.string s, .int .u64 n] rfl rfl (cells_two _ _ _ _) one_cell_rd (le_maxLen (by omega)) (by omega) (Nat.le_trans hwa.size (below1 _ _).size) ?_; intro v3 w4 HO3 hg3 _; replace hwa := own_below (keepB hwa (below1 _ _)) (Nat.le_refl _) (own_keep HO.out (below1 _ _)) hg3; replace HO3 := Lib.hid HO3; clear hg3))
            go_roundw
            case rel => exact ⟨k + 1, by omega, by go_num, by show World.ownsRow _ _ _ _ _ _ _; rw [HT.out, HZ.out, hzg]; simpa [rdCells_snoc] using HO3.out, hwa⟩
            case measure => simp [intOf]; omega
    · have ek : k = t.rds.length := by omega
      go_wp2
      go_ret
      have := HO.out
      rw [ek, ← HL.out] at this
      obtain ⟨A', cap', rfl, _, hI, hF⟩ := own_rds this
      exact ⟨A', cap', rfl, hI, keepB HB hw, fun a e => Nat.le_trans HB.size (hF a e)⟩
set_option maxRecDepth 100000 in
set_option maxHeartbeats 4000000 in
theorem writes_any (c : Cfg) (t : Tx) (g : Int) (A B A' B' : Option Addr) (ca cb ca' cb' : Nat) (w : World) (h : CfgAt w c A B) (ht : TxAt w t A' B') (hT : Tabs w) (hn : t.wrs.length ≤ 12) :
    Calls Tryd.prog 54 #[.agg #[.slice A c.reps.length ca, .slice B c.bnds.length cb], txV t A' B' ca' cb', .int .i64 g] w (WrsPost w (writesL c t g)) := by
  unfold txV
  obtain ⟨W, eW, HB, c0, c1, d0, d1, d2, d3⟩ := box24 w (.slice A c.reps.length ca) (.slice B c.bnds.length cb) (.int .i64 t.ses) (.int .i64 t.seq) (.slice A' t.rds.length ca') (.slice B' t.wrs.length cb') 25 41
  have h := h.later HB
  have ht := ht.later HB
  have hT := hT.later HB
  obtain ⟨i0, hi, hz0, hz1, hz2⟩ := info_parts info_wr
  have HL : Hid (writesL c t g = (t.wrs.take t.wrs.length).filter (pickW c t g)) := by show _ = _; rw [List.take_length]; rfl
  have HLN : Hid (∀ k, ((t.wrs.take k).filter (pickW c t g)).length ≤ k) := fun k => filter_take_len _ _ k
  obtain ⟨fc, hfc⟩ : ∃ r, Hid (formedB c = r) := ⟨_, rfl⟩
  obtain ⟨ft, hft⟩ : ∃ r, Hid (formedT t = r) := ⟨_, rfl⟩
  go_enter Tryd.func54, Tryd.ntmps54
  go_wp2_with fail
  clear eW
  go_loopw [7, 13] (fun v i wr => ∃ k : Nat, k ≤ t.wrs.length ∧ i = .int .i64 k ∧ Hid (wr.ownsRow W.heap.size 84 4 v ((t.wrs.take k).filter (pickW c t g)).length (wrCells ((t.wrs.take k).filter (pickW c t g)))) ∧ Below W.heap.size W wr) (fun _ i _ => t.wrs.length - (intOf i).toNat)
  case atStart => exact ⟨0, Nat.zero_le _, rfl, own_nil _ _ _ _, Below.refl _ _⟩
  case round =>
    obtain ⟨k, hk, rfl, HO, hw⟩ := hrel
    have hl := HLN.out k
    by_cases hlt : k < t.wrs.length
    · obtain ⟨b, off, s, zz, n, x, rfl, e0, e1, e2, e3, HX⟩ := (ht.wrs.later hw).at' hlt
      have HT := Lib.hid (write_snoc (c := c) (g := g) hlt HX.out)
      obtain ⟨wa, ewa, hba, x0, x1, x2, x3⟩ := box4 wr (.string s) (.int .i64 zz) (.int .u64 n) (.string x) 84
      have c3' := keep hw d3
      have hwa := keepB hw hba
      replace HO := Lib.hid (own_keep HO.out hba)
      have hr := h.later hwa
      have htr := ht.later hwa
      have hTr := hT.later hwa
      replace c0 := keep hwa c0
      replace c1 := keep hwa c1
      replace d0 := keep hwa d0
      replace d1 := keep hwa d1
      replace d2 := keep hwa d2
      replace d3 := keep hwa d3
      obtain ⟨z, hz⟩ : ∃ z, Hid (homeZ c s = z) := ⟨_, rfl⟩
      have HZ : Hid ((if formedB c && formedT t && (homeZ c s == g) then [⟨s, ⟨zz, n, x⟩⟩] else []) = if fc && ft && (z == g) then [(⟨s, ⟨zz, n, x⟩⟩ : Wr)] else []) := by show _ = _; rw [hfc.out, hft.out, hz.out]
      generalize hL : ((t.wrs.take k).filter (pickW c t g)) = L at *
      have hLk : L.length ≤ 12 := by omega
      clear hL
      cases fc
      · go_wp2_with (go_at_call 21; refine (calls_bool hfc.out (formed_any c A B ca cb _ hr)).mono ?_; rintro e w1 ⟨rfl, hb⟩; replace HO := Lib.hid (own_keep HO.out hb); replace hwa := keepB hwa hb; clear hb)
        go_roundw
        case rel => exact ⟨k + 1, by omega, by go_num, by show World.ownsRow _ _ _ _ _ _ _; rw [HT.out, HZ.out]; simpa using HO.out, hwa⟩
        case measure => simp [intOf]; omega
      · cases ft
        · go_wp2_with (first
            | (go_at_call 21; refine (calls_bool hfc.out (formed_any c A B ca cb _ hr)).mono ?_; rintro e w1 ⟨rfl, hb⟩; replace HO := Lib.hid (own_keep HO.out hb); replace hwa := keepB hwa hb; replace htr := htr.later hb; replace hTr := hTr.later hb; replace d0 := keep hb d0; replace d1 := keep hb d1; replace d2 := keep hb d2; replace d3 := keep hb d3; clear hb)
            | (go_at_call 25; refine (calls_bool hft.out (txFormed_any t _ _ _ _ _ htr hTr)).mono ?_; rintro e w2 ⟨rfl, hb⟩; replace HO := Lib.hid (own_keep HO.out hb); replace hwa := keepB hwa hb; clear hb))
          go_roundw
          case rel => exact ⟨k + 1, by omega, by go_num, by show World.ownsRow _ _ _ _ _ _ _; rw [HT.out, HZ.out]; simpa using HO.out, hwa⟩
          case measure => simp [intOf]; omega
        · cases hzg : z == g
          · go_wp2_with (first
              | (go_at_call 21; refine (calls_bool hfc.out (formed_any c A B ca cb _ hr)).mono ?_; rintro e w1 ⟨rfl, hb⟩; replace HO := Lib.hid (own_keep HO.out hb); replace hwa := keepB hwa hb; replace htr := htr.later hb; replace hr := hr.later hb; replace hTr := hTr.later hb; replace c0 := keep hb c0; replace c1 := keep hb c1; replace d0 := keep hb d0; replace d1 := keep hb d1; replace d2 := keep hb d2; replace d3 := keep hb d3; replace x0 := keep hb x0; clear hb)
              | (go_at_call 25; refine (calls_bool hft.out (txFormed_any t _ _ _ _ _ htr hTr)).mono ?_; rintro e w2 ⟨rfl, hb⟩; replace HO := Lib.hid (own_keep HO.out hb); replace hwa := keepB hwa hb; replace hr := hr.later hb; replace c0 := keep hb c0; replace c1 := keep hb c1; replace x0 := keep hb x0; clear hb)
              | (go_at_call 22; refine (calls_int hz.out (home_any c s A B ca cb _ hr)).mono ?_; rintro e w3 ⟨rfl, hb⟩; replace HO := Lib.hid (own_keep HO.out hb); replace hwa := keepB hwa hb; clear hb))
            go_roundw
            case rel => exact ⟨k + 1, by omega, by go_num, by show World.ownsRow _ _ _ _ _ _ _; rw [HT.out, HZ.out]; simpa [hzg] using HO.out, hwa⟩
            case measure => simp [intOf]; omega
          · go_wp2_with (first
              | (go_at_call 21; refine (calls_bool hfc.out (formed_any c A B ca cb _ hr)).mono ?_; rintro e w1 ⟨rfl, hb⟩; replace HO := Lib.hid (own_keep HO.out hb); replace hwa := keepB hwa hb; replace htr := htr.later hb; replace hr := hr.later hb; replace hTr := hTr.later hb; replace c0 := keep hb c0; replace c1 := keep hb c1; replace d0 := keep hb d0; replace d1 := keep hb d1; replace d2 := keep hb d2; replace d3 := keep hb d3; replace x0 := keep hb x0; replace x1 := keep hb x1; replace x2 := keep hb x2; replace x3 := keep hb x3; clear hb)
              | (go_at_call 25; refine (calls_bool hft.out (txFormed_any t _ _ _ _ _ htr hTr)).mono ?_; rintro e w2 ⟨rfl, hb⟩; replace HO := Lib.hid (own_keep HO.out hb); replace hwa := keepB hwa hb; replace hr := hr.later hb; replace c0 := keep hb c0; replace c1 := keep hb c1; replace x0 := keep hb x0; replace x1 := keep hb x1; replace x2 := keep hb x2; replace x3 := keep hb x3; clear hb)
              | (go_at_call 22; refine (calls_int hz.out (home_any c s A B ca cb _ hr)).mono ?_; rintro e w3 ⟨rfl, hb⟩; replace HO := Lib.hid (own_keep HO.out hb); replace hwa := keepB hwa hb; replace x0 := keep hb x0; replace x1 := keep hb x1; replace x2 := keep hb x2; replace x3 := keep hb x3; clear hb)
              | (at_builtin; refine wpList_append_own _ rfl _ _ 39 rfl W.heap.size 84 i0 (.agg #[.string noStr, .int .i64 0, .int .u64 0, .string noStr]) 4 48 Tryd.underlying39 hi hz0 hz1 hz2 rfl (by decide) _ _ _ rfl (own_keep HO.out (below1 _ _)) ⟨w3.heap.size, 0, none⟩ 1 1 [.string s, .int .i64 zz, .int .u64 n, .string x] rfl rfl (cells_four _ _ _ _ _ _) one_cell_wr (le_maxLen (by omega)) (by omega) (Nat.le_trans hwa.size (below1 _ _).size) ?_; intro v3 w4 HO3 hg3 _; replace hwa := own_below (keepB hwa (below1 _ _)) (Nat.le_refl _) (own_keep HO.out (below1 _ _)) hg3; replace HO3 := Lib.hid HO3; clear hg3))
            go_roundw
            case rel => exact ⟨k + 1, by omega, by go_num, by show World.ownsRow _ _ _ _ _ _ _; rw [HT.out, HZ.out, hzg]; simpa [wrCells_snoc] using HO3.out, hwa⟩
            case measure => simp [intOf]; omega
    · have ek : k = t.wrs.length := by omega
      go_wp2
      go_ret
      have := HO.out
      rw [ek, ← HL.out] at this
      obtain ⟨A', cap', rfl, _, hI, hF⟩ := own_wrs this
      exact ⟨A', cap', rfl, hI, keepB HB hw, fun a e => Nat.le_trans HB.size (hF a e)⟩
end Go.Proofs.YthpdladfcjcjiaaDoor
