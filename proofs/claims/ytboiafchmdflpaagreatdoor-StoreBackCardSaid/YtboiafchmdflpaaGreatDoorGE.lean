/- What a store exports, in plain Lean. -/
import Derived.Test.YtboiafchmdflpaaGreatDoorGB
import Derived.Test.YtboiafchmdflpaaGreatDoorGD
import Derived.Deep.RegionHeld3
import Derived.Test.YtboiafchmdflpaaGreatDoorG9
namespace Go.Proofs.YtboiafchmdflpaaGreatDoor
open Go.RowKit

def encVer (v : Ver) : List UInt8 := beL v.num 8 ++ putV v.val
def encK (p : ByteArray × List Ver) : List UInt8 := beL p.1.size 2 ++ p.1.data.toList ++ beL p.2.length 4 ++ p.2.flatMap encVer
def expH (s : StD) : List UInt8 := beL s.last 8 ++ beL s.low 8 ++ beL s.ks.length 4
def expS (s : StD) : List UInt8 := expH s ++ s.ks.flatMap encK
theorem txt_len (s : ByteArray) : s.data.toList.length = s.size := by rw [Array.length_toList]; rfl
theorem putV_len14 (v : Val) : (putV v).length ≤ 50 := by
  unfold putV
  split
  · rename_i h
    rcases formedV_kinds h with q | q | ⟨q, h40⟩
    · simp [encV, q, beL_length]
    · simp [encV, q, beL_length]
    · have := txt_len v.text
      simp only [encV, q, List.length_append, beL_length]
      simp [beL_length]
      have : v.text.data.size = v.text.size := rfl
      omega
  · simp
theorem encVer_len (v : Ver) : (encVer v).length ≤ 58 := by
  have := putV_len14 v.val
  rw [encVer, List.length_append, beL_length]
  omega
theorem flat_le {α : Type} (f : α → List UInt8) (g : α → Nat) : ∀ l : List α, (∀ x ∈ l, (f x).length ≤ g x) → (l.flatMap f).length ≤ (l.map g).sum
  | [], _ => by simp
  | x :: l, h => by
    have h1 := h x (by simp)
    have h2 := flat_le f g l (fun y hy => h y (by simp [hy]))
    rw [List.flatMap_cons, List.length_append, List.map_cons, List.sum_cons]
    omega
theorem sum_const {α : Type} (c : Nat) : ∀ l : List α, (l.map fun _ => c).sum = c * l.length
  | [] => rfl
  | x :: l => by rw [List.map_cons, List.sum_cons, sum_const c l, List.length_cons, Nat.mul_succ]; omega
theorem vers_len (l : List Ver) : (l.flatMap encVer).length ≤ 58 * l.length := by
  have := flat_le encVer (fun _ => 58) l (fun x _ => encVer_len x)
  rw [sum_const] at this
  exact this
theorem encK_len {p : ByteArray × List Ver} (hk : p.1.size ≤ 12) (hne : p.2 ≠ []) : (encK p).length ≤ 76 * p.2.length := by
  have h1 := vers_len p.2
  have h2 : 0 < p.2.length := List.length_pos_iff.2 hne
  rw [encK, List.length_append, List.length_append, List.length_append, beL_length, beL_length, txt_len]
  omega
theorem items_cons_len (p : ByteArray × List Ver) (m : KV) : (items (p :: m)).length = p.2.length + (items m).length := by
  rw [show items (p :: m) = itemsOf p ++ items m from rfl, List.length_append, itemsOf, List.length_map]
theorem keys_len : ∀ (m : KV), (∀ p ∈ m, p.1.size ≤ 12 ∧ p.2 ≠ []) → (m.flatMap encK).length ≤ 76 * (items m).length
  | [], _ => by simp
  | p :: m, h => by
    have h1 := encK_len (h p (by simp)).1 (h p (by simp)).2
    have h2 := keys_len m (fun q hq => h q (by simp [hq]))
    rw [List.flatMap_cons, List.length_append, items_cons_len]
    omega
theorem keyB_12 {s : ByteArray} (h : keyB s = true) : s.size ≤ 12 := by
  simp only [keyB, Bool.and_eq_true, decide_eq_true_eq] at h
  omega
theorem items_take_le (m : KV) (k : Nat) : (items (m.take k)).length ≤ (items m).length := by
  have h : items m = items (m.take k) ++ items (m.drop k) := by
    rw [items, items, items, ← List.flatMap_append, List.take_append_drop]
  rw [h, List.length_append]
  omega
theorem expH_len (s : StD) : (expH s).length = 20 := by
  rw [expH, List.length_append, List.length_append, beL_length, beL_length, beL_length]
/-- The bytes ahead of the k-th key. -/
def expTo (s : StD) (k : Nat) : List UInt8 := expH s ++ (s.ks.take k).flatMap encK
theorem expTo_len {s : StD} (h : StOK s) (k : Nat) : (expTo s k).length ≤ 20 + 76 * (items s.ks).length := by
  have h1 := keys_len (s.ks.take k) (fun p hp => ⟨keyB_12 (h.key p (List.mem_of_mem_take hp)), h.ne p (List.mem_of_mem_take hp)⟩)
  have h2 := items_take_le s.ks k
  rw [expTo, List.length_append, expH_len]
  omega
theorem expTo_zero (s : StD) : expTo s 0 = expH s := by simp [expTo]
theorem expTo_all (s : StD) : expTo s s.ks.length = expS s := by rw [expTo, List.take_length, expS]
theorem expTo_succ {s : StD} {k : Nat} (hk : k < s.ks.length) : expTo s (k + 1) = expTo s k ++ encK s.ks[k] := by
  rw [expTo, expTo, List.take_succ_eq_append_getElem hk, List.flatMap_append, List.append_assoc]
  simp
/-- A key's bytes ahead of its j-th version. -/
def keyTo (m : List UInt8) (x : ByteArray) (l : List Ver) (j : Nat) : List UInt8 := m ++ beL x.size 2 ++ x.data.toList ++ beL l.length 4 ++ (l.take j).flatMap encVer
theorem keyTo_len (m : List UInt8) {x : ByteArray} (hx : x.size ≤ 12) (l : List Ver) (j : Nat) : (keyTo m x l j).length ≤ m.length + 18 + 58 * l.length := by
  have h1 := vers_len (l.take j)
  have h2 : (l.take j).length ≤ l.length := by rw [List.length_take]; omega
  rw [keyTo, List.length_append, List.length_append, List.length_append, List.length_append, beL_length, beL_length, txt_len]
  omega
theorem keyTo_all (m : List UInt8) (x : ByteArray) (l : List Ver) : keyTo m x l l.length = m ++ encK (x, l) := by
  rw [keyTo, List.take_length, encK]
  simp [List.append_assoc]
theorem keyTo_succ {m : List UInt8} {x : ByteArray} {l : List Ver} {j : Nat} {v : Ver} (hj : j < l.length) (hv : l.getD j noVer = v) : keyTo m x l (j + 1) = keyTo m x l j ++ beL v.num 8 ++ putV v.val := by
  have e : l[j] = v := by rw [← hv, List.getD_eq_getElem?_getD, List.getElem?_eq_getElem hj]; rfl
  rw [keyTo, keyTo, List.take_succ_eq_append_getElem hj, List.flatMap_append, e]
  simp [encVer, List.append_assoc]

/-! ### Words -/
structure StGood (s : StD) : Prop where
  vals : ∀ p ∈ s.ks, ∀ v ∈ p.2, v.val.bits < 18446744073709551616
  last : s.last < 18446744073709551616
  low : s.low < 18446744073709551616
theorem st0_good : StGood st0 := ⟨by simp [st0], by simp [st0], by simp [st0]⟩
def valsG (m : KV) : Prop := ∀ p ∈ m, ∀ v ∈ p.2, v.val.bits < 18446744073709551616
theorem putW_good {m : KV} (h : valsG m) (n : Nat) {x : Wr} (hx : x.val.bits < 18446744073709551616) : valsG (putW n m x) := by
  intro p hp v hv
  rcases mem_putK hp with rfl | hp
  · rcases List.mem_cons.1 hv with rfl | hv
    · exact hx
    · by_cases h0 : getK m x.key = []
      · rw [h0] at hv; cases hv
      · exact h _ (getK_in h0) v hv
  · exact h p hp v hv
theorem putWs_good (n : Nat) : ∀ (l : List Wr) {m : KV}, valsG m → (∀ x ∈ l, x.val.bits < 18446744073709551616) → valsG (putWs n m l)
  | [], _, h, _ => h
  | x :: l, m, h, hl => putWs_good n l (m := putW n m x) (putW_good h n (hl x (by simp))) (fun y hy => hl y (by simp [hy]))
theorem apply_good {s : StD} (h : StGood s) {n : Nat} (hn : n < 18446744073709551616) {l : List Wr} (hl : ∀ x ∈ l, x.val.bits < 18446744073709551616) : StGood (applyS s n l) := by
  unfold applyS
  split
  · exact h
  · split
    · exact ⟨putWs_good n l h.vals hl, hn, h.low⟩
    · exact h
theorem col_good {s : StD} (h : StGood s) {n : Nat} (hn : n < 18446744073709551616) : StGood (colS s n) := by
  unfold colS
  split
  · refine ⟨fun p hp v hv => ?_, h.last, hn⟩
    obtain ⟨q, hq, rfl, _⟩ := mem_colK hp
    exact h.vals q hq v (colV_sub v hv)
  · exact h
theorem wrs_bits {l : List Wr} (h : WrsOK l) : ∀ x ∈ l, x.val.bits < 18446744073709551616 := by
  intro x hx
  obtain ⟨i, hi, rfl⟩ := List.mem_iff_getElem.1 hx
  have := (h.v i hi).b
  rw [List.getD_eq_getElem?_getD, List.getElem?_eq_getElem hi] at this
  exact this
theorem actS_good {s : StD} (h : StGood s) {o : OpD} (ho : OpOK o) : StGood (actS s o) := by
  rw [actS]
  split
  · exact apply_good h (Nat.mod_lt _ (by decide)) (wrs_bits ho.l)
  · split
    · exact col_good h ho.n
    · split
      · exact apply_good h ho.n (wrs_bits ho.l)
      · exact h
theorem scrTo_good {l : List OpD} (h : ∀ i, i < l.length → OpOK (l.getD i noOp)) : ∀ k, k ≤ l.length → StGood (scrTo l k)
  | 0, _ => st0_good
  | k + 1, hk => actS_good (scrTo_good h k (by omega)) (h k (by omega))
end Go.Proofs.YtboiafchmdflpaaGreatDoor
/- store.Export. -/
namespace Go.Proofs.YtboiafchmdflpaaGreatDoor
open Go.RowKit Go.Maps Go.Sort Go.Shelf

theorem keyTo_le (m : List UInt8) (x : ByteArray) (l : List Ver) (j : Nat) : (keyTo m x l j).length ≤ (keyTo m x l l.length).length := by
  have h : l.flatMap encVer = (l.take j).flatMap encVer ++ (l.drop j).flatMap encVer := by rw [← List.flatMap_append, List.take_append_drop]
  rw [keyTo, keyTo, List.take_length, h]
  simp only [List.length_append]
  omega
set_option maxRecDepth 100000 in
set_option maxHeartbeats 8000000 in
theorem exp14_any {w : World} {B p N : Nat} {O : Nat → Prop} {s : StD} (h : StoreAt w B p N O s) (hs : StOK s) (hI : (items s.ks).length ≤ 8000) (hT : Tabs w) :
    Calls Tryz.prog 13 #[.pointer (some ⟨p, 0, none⟩)] w (OwnBys w (expS s)) := by
  obtain ⟨mb, D, V, h⟩ := h
  have c0 := h.c0
  have c1 := h.c1
  have c2 := h.c2
  have HK := Lib.hid h.keys
  clear h
  have hkl : s.ks.length ≤ 8000 := Nat.le_trans (items_ge hs.ne) hI
  have hsz := Lib.hid (size_of HK.out hs.rises hs.ne)
  have hwk : IntKind.u64.wrap (s.ks.length : Int) = (s.ks.length : Int) := IntWalk.u64_in _ (by omega)
  have HT := Lib.hid hT
  clear hT
  obtain ⟨m1, hm1⟩ : ∃ m, Hid (beL s.last 8 = m) := ⟨_, rfl⟩
  obtain ⟨m2, hm2⟩ : ∃ m, Hid (m1 ++ beL s.low 8 = m) := ⟨_, rfl⟩
  obtain ⟨m3, hm3⟩ : ∃ m, Hid (m2 ++ beL s.ks.length 4 = m) := ⟨_, rfl⟩
  have hl1 : m1.length ≤ 8 := by rw [← hm1.out, beL_length]; omega
  have hl2 : m2.length ≤ 16 := by rw [← hm2.out, List.length_append, beL_length]; omega
  have hl3 : m3.length ≤ 20 := by rw [← hm3.out, List.length_append, beL_length]; omega
  have HM3 : Hid (m3 = expTo s 0) := by show _ = _; rw [expTo_zero, ← hm3.out, ← hm2.out, ← hm1.out, expH]
  have HP1 : Hid (∀ wz, Calls Tryz.prog 27 #[.slice none 0 0, .int .u64 (s.last : Int), .int .i64 8] wz (OwnBys wz m1)) := fun wz => by rw [← hm1.out]; exact put02z [] s.last 8 _ 8 rfl rfl none 0 wz (bys_nil wz) (by simp) (by decide)
  have HP2 : Hid (∀ wz A ca, BysAt wz A m1 → Calls Tryz.prog 27 #[.slice A m1.length ca, .int .u64 (s.low : Int), .int .i64 8] wz (OwnBys wz m2)) := fun wz A ca hA => by rw [← hm2.out]; exact put02z m1 s.low 8 _ 8 rfl rfl A ca wz hA (by omega) (by decide)
  have HP3 : Hid (∀ wz A ca, BysAt wz A m2 → Calls Tryz.prog 27 #[.slice A m2.length ca, .int .u64 (s.ks.length : Int), .int .i64 4] wz (OwnBys wz m3)) := fun wz A ca hA => by rw [← hm3.out]; exact put02z m2 s.ks.length 4 _ 4 rfl rfl A ca wz hA (by omega) (by decide)
  clear hm1 hm2 hm3
  obtain ⟨wb, rfl⟩ : ∃ wb : World, wb = w := ⟨_, rfl⟩
  have hl0 : 20 + 76 * (items s.ks).length ≤ 700000 := by omega
  go_enter Tryz.func13, Tryz.ntmps13
  go_wp2
  go_region_held3 (fun w' => w'.cell? ⟨p, 1, none⟩ = some (.int .u64 (s.last : Int)) ∧ w'.cell? ⟨p, 2, none⟩ = some (.int .u64 (s.low : Int)) ∧ Below wb.heap.size wb w')
    (first | exact ⟨keep (below_drew (Below.refl _ _)) c1, keep (below_drew (Below.refl _ _)) c2, below_drew (Below.refl _ _)⟩ | exact ⟨keep hb2 c1, keep hb2 c2, hb2⟩ | exact ⟨keep hb3 c1, keep hb3 c2, hb3⟩)
    (first
      | (go_at_call 27; (with_reducible refine (HP1.out _).mono ?_); rintro e w2 hq; obtain ⟨A1, c1', rfl, hB1, hb⟩ := hq.at_; have hb2 : Below wb.heap.size wb w2 := keepB (below_drew (Below.refl _ _)) hb)
      | (go_at_call 27; refine (HP2.out _ A1 c1' hB1).mono ?_; rintro e w3 hq; obtain ⟨A2, c2', rfl, hB2, hb'⟩ := hq.at_; have hb3 : Below wb.heap.size wb w3 := keepB hb2 hb'))
  all_goals
    have d0 := keep hb3 c0
    have HK3 := Lib.hid (HK.out.later hb3)
    have hlen := fun ty => HK3.out.own.len Tryz.underlying47 ty
    rw [hsz.out] at hlen
    go_wp2_with (first
      | (go_at_call 27; refine (HP3.out _ A2 c2' hB2).mono ?_; rintro e w4 ⟨v4, rfl, ho4, hb4'⟩; have hb4 : Below wb.heap.size wb w4 := keepB hb3 hb4'; replace d0 := keep hb4 c0; have HK4 := Lib.hid (HK.out.later hb4); have ho4 := Lib.hid (own_base ho4 hb3.size))
      | (go_at_call 29; refine (mapsKeys_any (some mb) w4).mono ?_; rintro e w5 ⟨rfl, rfl⟩)
      | (go_at_call 28; refine (sortedKeys_any HK4.out hs.rises hs.ne (by omega)).mono ?_; rintro e w6 ⟨A, cap, rfl, hA, hb6'⟩; have ho6 := Lib.hid (own_keep ho4.out hb6'); have hb6 : Below wb.heap.size wb w6 := keepB hb4 hb6'))
    go_loopw [3, 35] (fun v i wr => ∃ k : Nat, k ≤ s.ks.length ∧ i = .int .i64 k ∧ Hid (wr.ownsRow wb.heap.size 5 1 v (expTo s k).length (byC (expTo s k))) ∧ Below wb.heap.size wb wr ∧ Below w6.heap.size w6 wr) (fun _ i _ => s.ks.length - (intOf i).toNat)
    case atStart => exact ⟨0, Nat.zero_le _, rfl, by rw [← HM3.out]; exact ho6, hb6, Below.refl _ _⟩
    case round =>
      obtain ⟨k, hk, rfl, HO, hw, hw6⟩ := hrel
      obtain ⟨wi, rfl⟩ : ∃ wi : World, wi = wr := ⟨_, rfl⟩
      by_cases hlt : k < s.ks.length
      · obtain ⟨b3, off3, x, rfl, d1, HX⟩ := StrsAt.at' (CellsAt.later hA hw6) (k := k) (by rw [List.length_map]; exact hlt)
        have hki : (k : Int) < (s.ks.length : Int) := by omega
        have hx1 : s.ks[k].1 = x := by
          have := HX.out
          rw [List.getD_eq_getElem?_getD, List.getElem?_map, List.getElem?_eq_getElem hlt] at this
          exact this
        have hx2 : getK s.ks x = s.ks[k].2 := by rw [← hx1]; exact getK_mem hs.rises (List.getElem_mem hlt)
        have hx12 : x.size ≤ 12 := by rw [← hx1]; exact keyB_12 (hs.key _ (List.getElem_mem hlt))
        have hxm : x.size ≤ maxLen := by unfold maxLen; omega
        obtain ⟨lv, hlv⟩ : ∃ lv, Hid (getK s.ks x = lv) := ⟨_, rfl⟩
        have HN : Hid (expTo s (k + 1) = keyTo (expTo s k) x lv lv.length) := by
          show _ = _
          rw [expTo_succ hlt, keyTo_all, ← hlv.out, hx2, ← hx1]
        have hlvn : lv.length ≤ 8000 := by rw [← hlv.out]; exact Nat.le_trans (getK_len _ _) hI
        have hml := expTo_len hs k
        obtain ⟨m, hm⟩ : ∃ m, Hid (expTo s k = m) := ⟨_, rfl⟩
        rw [hm.out] at HO HN hml
        have HKi := Lib.hid (HK.out.later hw)
        have hrow := HKi.out.row x
        rw [hlv.out] at hrow
        obtain ⟨A', cv, hV, hcv, hvers⟩ := own_vers hrow
        have e0 := keep hw c0
        have HLK : Hid (∀ wz, Below wi.heap.size wi wz → (Instr.lookup 47 (.map (some mb)) (.string x) false).run Tryz.prog wz = .ok (.slice A' lv.length cv) wz) := fun wz hz => by
          have := (HKi.out.later hz).look x hxm
          rw [hV] at this
          exact this
        obtain ⟨A5, c5, hform, _, hB5⟩ := own_bys HO.out
        subst hform
        have hlk1 := HLK.out _ (below_drew (Below.refl _ wi))
        have hwl : IntKind.u64.wrap (lv.length : Int) = (lv.length : Int) := IntWalk.u64_in _ (by omega)
        obtain ⟨m5, hm5⟩ : ∃ m5, Hid (m ++ beL x.size 2 ++ x.data.toList = m5) := ⟨_, rfl⟩
        have hl5 : m5.length ≤ 700100 := by
          have := txt_len x
          rw [← hm5.out, List.length_append, List.length_append, beL_length]; omega
        have HT5 : Hid (Calls Tryz.prog 30 #[.slice A5 m.length c5, .string x] wi.drew (OwnBys wi.drew m5)) := by
          rw [← hm5.out]
          exact putText02_any m x A5 c5 wi.drew (BysAt.later hB5 (below_drew (Below.refl _ _))) (by omega) (by omega)
        have HT6 : Hid (∀ wz A ca, BysAt wz A m5 → Calls Tryz.prog 27 #[.slice A m5.length ca, .int .u64 (lv.length : Int), .int .i64 4] wz (OwnBys wz (keyTo m x lv 0))) := fun wz A ca hA => by
          have e : keyTo m x lv 0 = m5 ++ beL lv.length 4 := by rw [← hm5.out]; simp [keyTo]
          rw [e]
          exact put02z m5 lv.length 4 _ 4 rfl rfl A ca wz hA (by omega) (by decide)
        clear hx1 hx2 hV hrow hm5
        go_wp2
        go_region_held3 (fun w' => w'.cell? ⟨p, 0, none⟩ = some (.map (some mb)) ∧ Below wi.heap.size wi w')
          (first | exact ⟨keep (below_drew (Below.refl _ _)) e0, below_drew (Below.refl _ _)⟩ | exact ⟨keep hb7 e0, hb7⟩ | exact ⟨keep hb8 e0, hb8⟩)
          (first
            | (go_at_call 30; (with_reducible refine HT5.out.mono ?_); rintro e w7 hq; obtain ⟨A7, c7, rfl, hB7, hb⟩ := hq.at_; have hb7 : Below wi.heap.size wi w7 := keepB (below_drew (Below.refl _ _)) hb; have hlk2 := HLK.out _ hb7)
            | (go_at_call 27; refine (HT6.out _ A7 c7 hB7).mono ?_; rintro e w8 ⟨v8, rfl, ho8, hb8'⟩; have hb8 : Below wi.heap.size wi w8 := keepB hb7 hb8'; replace ho8 := Lib.hid (own_base ho8 (Nat.le_trans hw.size hb7.size))))
        all_goals
          have e8 := keep hb8 e0
          have hlk3 := HLK.out _ hb8
          go_wp2
          have hwB := Nat.le_trans hw.size hb8.size
          go_loopw [3, 7, 58] (fun v _ i wr => ∃ j : Nat, j ≤ lv.length ∧ i = .int .i64 j ∧ Hid (wr.ownsRow wb.heap.size 5 1 v (keyTo m x lv j).length (byC (keyTo m x lv j))) ∧ Below w8.heap.size w8 wr) (fun _ _ i _ => lv.length - (intOf i).toNat)
          case atStart => exact ⟨0, Nat.zero_le _, rfl, ho8, Below.refl _ _⟩
          case round =>
            obtain ⟨j, hj, rfl, HO2, hwr⟩ := hrel
            obtain ⟨wc, rfl⟩ : ∃ wc : World, wc = wr := ⟨_, rfl⟩
            by_cases hjl : j < lv.length
            · obtain ⟨b, off, n, z, bt, t, rfl, y0, y1, y2, y3, HV⟩ := (hvers.later (keepB hb8 hwr)).at' hjl
              have hji : (j : Int) < (lv.length : Int) := by omega
              have hS := Lib.hid (keyTo_succ (m := m) (x := x) hjl HV.out)
              have hgt : t.size ≤ 9223372036854775807 := by
                have h1 := (hs.getK x).2.2.1 ⟨n, ⟨z, bt, t⟩⟩ (by
                  rw [hlv.out, ← HV.out, List.getD_eq_getElem?_getD, List.getElem?_eq_getElem hjl]
                  exact List.getElem_mem hjl)
                exact formed_text h1
              have hkl2 : (keyTo m x lv j).length ≤ 700000 := by
                have h1 := keyTo_le m x lv j
                rw [← HN.out] at h1
                have h2 := expTo_len hs (k + 1)
                omega
              obtain ⟨m9, hm9⟩ : ∃ m9, Hid (keyTo m x lv j = m9) := ⟨_, rfl⟩
              rw [hm9.out] at HO2 hS hkl2
              obtain ⟨A9, c9, hform, _, hB9⟩ := own_bys HO2.out
              subst hform
              obtain ⟨wv, eWv, HBv, hszv, hrowv⟩ := new4 wc (.int .u64 (n : Int)) (.int .i64 z) (.int .u64 (bt : Int)) (.string t) 72
              obtain ⟨x0, x1, x2, x3, _⟩ := cells4 hrowv
              obtain ⟨m10, hm10⟩ : ∃ m10, Hid (m9 ++ beL n 8 = m10) := ⟨_, rfl⟩
              rw [hm10.out] at hS
              have hl10 : m10.length ≤ 700008 := by rw [← hm10.out, List.length_append, beL_length]; omega
              have HT9 : Hid (Calls Tryz.prog 27 #[.slice A9 m9.length c9, .int .u64 (n : Int), .int .i64 8] wv.drew (OwnBys wv.drew m10)) := by
                rw [← hm10.out]
                exact put02z m9 n 8 _ 8 rfl rfl A9 c9 wv.drew (BysAt.later hB9 (keepB HBv (below_drew (Below.refl _ _)))) (by omega) (by decide)
              have HT10 : Hid (∀ wz A ca, BysAt wz A m10 → Below wv.heap.size wv wz → Calls Tryz.prog 31 #[.slice A m10.length ca, .agg #[.int .i64 z, .int .u64 (bt : Int), .string t]] wz (OwnBys wz (keyTo m x lv (j + 1)))) := fun wz A ca hA hz => by
                rw [hS.out]
                exact put04t m10 z bt t hgt A ca wz hA (HT.out.later (keepB hw (keepB hb8 (keepB hwr (keepB HBv hz))))) (by omega)
              replace hszv := Lib.hid hszv
              clear hm9 hm10 hrowv
              go_wp2
              clear eWv
              go_region_held3 (fun w' => w'.cell? ⟨wc.heap.size, 0, none⟩ = some (.int .u64 (n : Int)) ∧ w'.cell? ⟨wc.heap.size, 1, none⟩ = some (.int .i64 z) ∧ w'.cell? ⟨wc.heap.size, 2, none⟩ = some (.int .u64 (bt : Int)) ∧ w'.cell? ⟨wc.heap.size, 3, none⟩ = some (.string t) ∧ Below wv.heap.size wv w')
                (first | exact ⟨keep (below_drew (Below.refl _ _)) x0, keep (below_drew (Below.refl _ _)) x1, keep (below_drew (Below.refl _ _)) x2, keep (below_drew (Below.refl _ _)) x3, below_drew (Below.refl _ _)⟩ | exact ⟨keep hb11 x0, keep hb11 x1, keep hb11 x2, keep hb11 x3, hb11⟩ | exact ⟨keep hb12 x0, keep hb12 x1, keep hb12 x2, keep hb12 x3, hb12⟩)
                (first
                  | (go_at_call 27; (with_reducible refine HT9.out.mono ?_); rintro e w11 hq; obtain ⟨A11, c11, rfl, hB11, hb⟩ := hq.at_; have hb11 : Below wv.heap.size wv w11 := keepB (below_drew (Below.refl _ _)) hb)
                  | (go_at_call 31; refine (HT10.out _ A11 c11 hB11 hb11).mono ?_; rintro e w12 ⟨v12, rfl, ho12, hb12'⟩; have hb12 : Below wv.heap.size wv w12 := keepB hb11 hb12'; replace ho12 := Lib.hid (own_base ho12 (Nat.le_trans hwB (Nat.le_trans hwr.size (Nat.le_trans HBv.size hb11.size))))))
              all_goals
                go_wp2
                go_roundw
                case rel => exact ⟨j + 1, by omega, by go_num, ho12, keepB hwr (keepB HBv hb12)⟩
                case measure => simp [intOf]; omega
            · obtain rfl : j = lv.length := by omega
              go_wp2
              go_roundw
              case rel =>
                refine ⟨k + 1, by omega, by go_num, ?_, keepB hw (keepB hb8 hwr), keepB hw6 (keepB hb8 hwr)⟩
                rw [HN.out]
                exact HO2
              case measure => simp [intOf]; omega
      · obtain rfl : k = s.ks.length := by omega
        go_wp2
        go_ret
        refine ⟨_, rfl, ?_, hw⟩
        rw [← expTo_all]
        exact HO.out
end Go.Proofs.YtboiafchmdflpaaGreatDoor
/- The reference's Export. -/
namespace Go.Proofs.YtboiafchmdflpaaGreatDoor
open Go.RowKit Go.Maps Go.Sort Go.Shelf

/-- Where the k-th key's items begin. -/
def posK (m : KV) (k : Nat) : Nat := (items (m.take k)).length
theorem posK_zero (m : KV) : posK m 0 = 0 := rfl
theorem posK_all (m : KV) : posK m m.length = (items m).length := by rw [posK, List.take_length]
theorem items_app (a b : KV) : items (a ++ b) = items a ++ items b := by simp [items]
theorem posK_succ {m : KV} {k : Nat} (hk : k < m.length) : posK m (k + 1) = posK m k + m[k].2.length := by
  rw [posK, posK, List.take_succ_eq_append_getElem hk, items_app, List.length_append, items_cons_len]
  rfl
theorem posK_le (m : KV) (k : Nat) : posK m k ≤ (items m).length := items_take_le m k
theorem posK_lt {m : KV} {k : Nat} (hne : ∀ p ∈ m, p.2 ≠ []) (hk : k < m.length) : posK m k < (items m).length := by
  have h1 := posK_succ hk
  have h2 := posK_le m (k + 1)
  have h3 : 0 < m[k].2.length := List.length_pos_iff.2 (hne _ (List.getElem_mem hk))
  omega
theorem item_at {m : KV} {k j : Nat} (hk : k < m.length) (hj : j < m[k].2.length) : (items m).getD (posK m k + j) noIt = ⟨m[k].1, (m[k].2.getD j noVer).val, (m[k].2.getD j noVer).num⟩ := by
  have e : m = m.take k ++ m[k] :: m.drop (k + 1) := by simp
  have e2 : items m = items (m.take k) ++ (itemsOf m[k] ++ items (m.drop (k + 1))) := by
    conv => lhs; rw [e]
    rw [items_app]
    rfl
  have hl : j < (itemsOf m[k]).length := by rw [itemsOf, List.length_map]; exact hj
  rw [List.getD_eq_getElem?_getD, e2, posK, List.getElem?_append_right (Nat.le_add_right _ _), Nat.add_sub_cancel_left, List.getElem?_append_left hl, itemsOf, List.getElem?_map, List.getElem?_eq_getElem hj, List.getD_eq_getElem?_getD, List.getElem?_eq_getElem hj]
  rfl
theorem item_next {m : KV} {k : Nat} (hr : RisesK m) (hne : ∀ p ∈ m, p.2 ≠ []) (hk : k < m.length) (hn : posK m k + m[k].2.length < (items m).length) : ((items m).getD (posK m k + m[k].2.length) noIt).key ≠ m[k].1 := by
  rw [← posK_succ hk] at hn ⊢
  have hk1 : k + 1 < m.length := by
    rcases Nat.lt_or_ge (k + 1) m.length with q | q
    · exact q
    · have : k + 1 = m.length := by omega
      rw [this, posK_all] at hn
      omega
  have h0 : 0 < m[k + 1].2.length := List.length_pos_iff.2 (hne _ (List.getElem_mem hk1))
  have e := item_at (j := 0) hk1 h0
  rw [Nat.add_zero] at e
  rw [e]
  exact (lessS_ne (List.pairwise_iff_getElem.1 hr k (k + 1) hk hk1 (by omega))).symm
set_option maxRecDepth 100000 in
set_option maxHeartbeats 2000000 in
theorem refRun_any {w : World} {B q : Nat} {O : Nat → Prop} {L : List It} {last low : Nat} (h : RefAt w B q O L last low) (i n : Nat) (x : ByteArray) (hn : L.length ≤ 900000) (h0 : 0 < n) (hin : i + n ≤ L.length) (hx : ∀ j, j < n → (L.getD (i + j) noIt).key = x) (hne : i + n < L.length → (L.getD (i + n) noIt).key ≠ x) :
    Calls Tryz.prog 33 #[.pointer (some ⟨q, 0, none⟩), .int .i64 (i : Int)] w fun e w' => e = .returned (.int .i64 (n : Int)) ∧ Below w.heap.size w w' := by
  obtain ⟨v, h⟩ := h
  have c0 := h.c0
  obtain ⟨A, cap, hv, hcap, hA⟩ := own_its h.row
  rw [hv] at c0
  have HX := Lib.hid hx
  have HNE := Lib.hid hne
  clear h hv hcap hx hne
  go_enter Tryz.func33, Tryz.ntmps33
  go_wp2
  go_loopw [5] (fun iv wr => ∃ j : Nat, j ≤ n ∧ iv = .int .i64 j ∧ Below w.heap.size w wr) (fun iv _ => n - (intOf iv).toNat)
  case atStart => exact ⟨0, Nat.zero_le _, rfl, Below.refl _ _⟩
  case round =>
    obtain ⟨j, hj, rfl, hw⟩ := hrel
    replace c0 := keep hw c0
    obtain ⟨b, off, y, z, bt, t, m, rfl, d0, _, _, _, _, HY⟩ := (hA.later hw).at' (k := i) (by omega)
    have hyx : y = x := by
      have := HX.out 0 h0
      rw [Nat.add_zero, HY.out] at this
      exact this
    subst hyx
    obtain ⟨g, hg⟩ : ∃ g, Hid (i + j = g) := ⟨_, rfl⟩
    have hgo := hg.out
    have hwg : IntKind.i64.wrap ((i : Int) + (j : Int)) = (g : Int) := by rw [show ((i : Int) + (j : Int)) = (g : Int) by omega]; exact IntWalk.i64_in _ (by omega)
    have hi0 : (0 : Int) ≤ (i : Int) := by omega
    have hiL : (i : Int) < (L.length : Int) := by omega
    have hg0 : (0 : Int) ≤ (g : Int) := by omega
    by_cases hlt : j < n
    · obtain ⟨b2, off2, y2, _, _, _, _, e9, d2, _, _, _, _, HY2⟩ := (hA.later hw).at' (k := g) (by omega)
      injection e9 with e9
      injection e9 with e9 e8
      subst e9 e8
      have hyx2 : y2 = y := by
        have := HX.out j hlt
        rw [hgo, HY2.out] at this
        exact this
      subst hyx2
      have hgL : (g : Int) < (L.length : Int) := by omega
      have tb : decide ((g : Int) < (L.length : Int)) = true := decide_eq_true hgL
      have tn : decide (g < L.length) = true := decide_eq_true (by omega)
      clear hgo
      go_wp2
      go_quiet (fail)
      go_wp2
      go_roundw
      case rel => exact ⟨j + 1, by omega, by go_num, below_drewN hw _⟩
      case measure => simp [intOf]; omega
    · have ejn : Hid (j = n) := by show _ = _; omega
      by_cases hgl : g < L.length
      · obtain ⟨b2, off2, y2, _, _, _, _, e9, d2, _, _, _, _, HY2⟩ := (hA.later hw).at' (k := g) hgl
        injection e9 with e9
        injection e9 with e9 e8
        subst e9 e8
        have hyx2 : y2 ≠ y := by
          have := HNE.out (by have := ejn.out; omega)
          rw [← ejn.out, hgo, HY2.out] at this
          exact this
        have hgL : (g : Int) < (L.length : Int) := by omega
        have tb : decide ((g : Int) < (L.length : Int)) = true := decide_eq_true hgL
        have tn : decide (g < L.length) = true := decide_eq_true (by omega)
        have te : (y2.toList == y.toList) = false := by rw [str_eq_dec, decide_eq_false hyx2]
        clear hgo hyx2
        go_wp2
        go_quiet (fail)
        go_wp2
        go_ret
        exact ⟨by rw [ejn.out]; rfl, below_drewN hw _⟩
      · have tb : decide ((g : Int) < (L.length : Int)) = false := decide_eq_false (by omega)
        have tn : decide (g < L.length) = false := decide_eq_false (by omega)
        clear hgo
        go_wp2
        go_quiet (fail)
        go_wp2
        go_ret
        exact ⟨by rw [ejn.out]; rfl, below_drewN hw _⟩
set_option maxRecDepth 100000 in
set_option maxHeartbeats 8000000 in
theorem refExp_any {w : World} {B q : Nat} {O : Nat → Prop} {s : StD} (h : RefAt w B q O (items s.ks) s.last s.low) (hs : StOK s) (hg : StGood s) (hI : (items s.ks).length ≤ 8000) :
    Calls Tryz.prog 14 #[.pointer (some ⟨q, 0, none⟩)] w (OwnBys w (expS s)) := by
  have HR := Lib.hid h
  obtain ⟨v, h⟩ := h
  have c0 := h.c0
  have c1 := h.c1
  have c2 := h.c2
  obtain ⟨A, cap, hv, hcap, hA⟩ := own_its h.row
  rw [hv] at c0
  clear h hv hcap
  have hkl : s.ks.length ≤ 8000 := Nat.le_trans (items_ge hs.ne) hI
  have hwk : IntKind.u64.wrap (s.ks.length : Int) = (s.ks.length : Int) := IntWalk.u64_in _ (by omega)
  have HRun : Hid (∀ k, k < s.ks.length → ∀ wz, Below w.heap.size w wz → Calls Tryz.prog 33 #[.pointer (some ⟨q, 0, none⟩), .int .i64 (posK s.ks k : Int)] wz fun e w' => e = .returned (.int .i64 ((getK s.ks ((s.ks.getD k (noStr, [])).1)).length : Int)) ∧ Below wz.heap.size wz w') := fun k hk wz hz => by
    have e : s.ks.getD k (noStr, []) = s.ks[k] := by rw [List.getD_eq_getElem?_getD, List.getElem?_eq_getElem hk]; rfl
    have e2 : getK s.ks s.ks[k].1 = s.ks[k].2 := getK_mem hs.rises (List.getElem_mem hk)
    rw [e, e2]
    refine refRun_any (HR.out.later hz) (posK s.ks k) s.ks[k].2.length s.ks[k].1 (by omega) (List.length_pos_iff.2 (hs.ne _ (List.getElem_mem hk))) ?_ ?_ ?_
    · rw [← posK_succ hk]; exact posK_le _ _
    · intro j hj
      rw [item_at hk hj]
    · exact item_next hs.rises hs.ne hk
  obtain ⟨m1, hm1⟩ : ∃ m, Hid (beL s.last 8 = m) := ⟨_, rfl⟩
  obtain ⟨m2, hm2⟩ : ∃ m, Hid (m1 ++ beL s.low 8 = m) := ⟨_, rfl⟩
  obtain ⟨m3, hm3⟩ : ∃ m, Hid (m2 ++ beL s.ks.length 4 = m) := ⟨_, rfl⟩
  have hl1 : m1.length ≤ 8 := by rw [← hm1.out, beL_length]; omega
  have hl2 : m2.length ≤ 16 := by rw [← hm2.out, List.length_append, beL_length]; omega
  have hl3 : m3.length ≤ 20 := by rw [← hm3.out, List.length_append, beL_length]; omega
  have HM3 : Hid (m3 = expTo s 0) := by show _ = _; rw [expTo_zero, ← hm3.out, ← hm2.out, ← hm1.out, expH]
  have HP1 : Hid (∀ wz, Calls Tryz.prog 32 #[.slice none 0 0, .int .u64 (s.last : Int), .int .i64 8] wz (OwnBys wz m1)) := fun wz => by rw [← hm1.out]; exact refPut02z [] s.last 8 _ 8 rfl rfl none 0 wz (bys_nil wz) (by simp) (by decide)
  have HP2 : Hid (∀ wz A ca, BysAt wz A m1 → Calls Tryz.prog 32 #[.slice A m1.length ca, .int .u64 (s.low : Int), .int .i64 8] wz (OwnBys wz m2)) := fun wz A ca hA => by rw [← hm2.out]; exact refPut02z m1 s.low 8 _ 8 rfl rfl A ca wz hA (by omega) (by decide)
  have HP3 : Hid (∀ wz A ca, BysAt wz A m2 → Calls Tryz.prog 32 #[.slice A m2.length ca, .int .u64 (s.ks.length : Int), .int .i64 4] wz (OwnBys wz m3)) := fun wz A ca hA => by rw [← hm3.out]; exact refPut02z m2 s.ks.length 4 _ 4 rfl rfl A ca wz hA (by omega) (by decide)
  clear hm1 hm2 hm3
  have hl0 : 20 + 76 * (items s.ks).length ≤ 700000 := by omega
  have hpl := posK_all s.ks
  obtain ⟨L, hL⟩ : ∃ L, Hid (items s.ks = L) := ⟨_, rfl⟩
  have hplt : Hid (∀ k, k < s.ks.length → posK s.ks k < L.length) := fun k hk => by rw [← hL.out]; exact posK_lt hs.ne hk
  rw [hL.out] at hA c0 hI hpl
  replace hpl := Lib.hid hpl
  go_enter Tryz.func14, Tryz.ntmps14
  go_wp2_with (first
    | (go_at_call 32; (with_reducible refine (HP1.out _).mono ?_); rintro e w2 hq; obtain ⟨A1, c1', rfl, hB1, hb2⟩ := hq.at_; replace c2 := keep hb2 c2)
    | (go_at_call 32; refine (HP2.out _ A1 c1' hB1).mono ?_; rintro e w3 hq; obtain ⟨A2, c2', rfl, hB2, hb'⟩ := hq.at_; have hb3 := keepB hb2 hb'))
  go_loopw [4, 5] (fun kv iv wr => ∃ k : Nat, k ≤ s.ks.length ∧ kv = .int .i64 k ∧ iv = .int .i64 (posK s.ks k) ∧ Below w3.heap.size w3 wr) (fun kv _ _ => s.ks.length - (intOf kv).toNat)
  case atStart => exact ⟨0, Nat.zero_le _, rfl, rfl, Below.refl _ _⟩
  case round =>
    obtain ⟨k, hk, rfl, rfl, hw⟩ := hrel
    obtain ⟨wi, rfl⟩ : ∃ wi : World, wi = wr := ⟨_, rfl⟩
    have d0 := keep (keepB hb3 hw) c0
    by_cases hlt : k < s.ks.length
    · have hR := Lib.hid (HRun.out k hlt wi (keepB hb3 hw))
      have hsuc := posK_succ hlt
      have hle := posK_le s.ks (k + 1)
      have hpk := hplt.out k hlt
      rw [hL.out] at hle
      have e : s.ks.getD k (noStr, []) = s.ks[k] := by rw [List.getD_eq_getElem?_getD, List.getElem?_eq_getElem hlt]; rfl
      have e2 : getK s.ks s.ks[k].1 = s.ks[k].2 := getK_mem hs.rises (List.getElem_mem hlt)
      rw [e, e2] at hR
      obtain ⟨n, hn⟩ : ∃ n, Hid ((s.ks[k]'hlt).2.length = n) := ⟨_, rfl⟩
      rw [hn.out] at hR hsuc
      obtain ⟨pk, hpk2⟩ : ∃ pk, Hid (posK s.ks k = pk) := ⟨_, rfl⟩
      rw [hpk2.out] at hR hsuc hpk ⊢
      have hwr : IntKind.i64.wrap ((pk : Int) + (n : Int)) = (pk : Int) + (n : Int) := IntWalk.i64_in _ (by omega)
      replace hsuc := Lib.hid hsuc
      clear e e2 hle
      go_wp2_with (go_at_call 33; refine hR.out.mono ?_; rintro e w4 ⟨rfl, hb4⟩)
      go_roundw
      case rel => exact ⟨k + 1, by omega, by go_num, by rw [hsuc.out]; exact zint_eq (by omega), keepB hw hb4⟩
      case measure => simp [intOf]; omega
    · obtain rfl : k = s.ks.length := by omega
      have hpk : posK s.ks s.ks.length = L.length := hpl.out
      rw [hpk]
      have hb5 := keepB hb3 hw
      have hB3 := BysAt.later hB2 hw
      clear hlt
      go_wp2_with (go_at_call 32; refine (HP3.out _ A2 c2' hB3).mono ?_; rintro e w5 ⟨v5, rfl, ho5, hb6'⟩; have hb6 := keepB hb5 hb6'; replace ho5 := Lib.hid (own_base ho5 hb5.size))
      go_loopw [3, 6] (fun v iv wr => ∃ k : Nat, k ≤ s.ks.length ∧ iv = .int .i64 (posK s.ks k) ∧ Hid (wr.ownsRow w.heap.size 5 1 v (expTo s k).length (byC (expTo s k))) ∧ Below w.heap.size w wr) (fun _ iv _ => L.length - (intOf iv).toNat)
      case atStart => exact ⟨0, Nat.zero_le _, rfl, by rw [← HM3.out]; exact ho5, hb6⟩
      case round =>
        obtain ⟨k, hk, rfl, HO, hwr⟩ := hrel
        obtain ⟨wj, rfl⟩ : ∃ wj : World, wj = wr := ⟨_, rfl⟩
        have e0 := keep hwr c0
        by_cases hlt : k < s.ks.length
        · have hR := Lib.hid (HRun.out k hlt)
          have hsuc := posK_succ hlt
          have hle := posK_le s.ks (k + 1)
          have hpk := hplt.out k hlt
          rw [hL.out] at hle
          have e : s.ks.getD k (noStr, []) = s.ks[k] := by rw [List.getD_eq_getElem?_getD, List.getElem?_eq_getElem hlt]; rfl
          have e2 : getK s.ks s.ks[k].1 = s.ks[k].2 := getK_mem hs.rises (List.getElem_mem hlt)
          rw [e, e2] at hR
          have hitem := fun j hj => item_at (k := k) (j := j) hlt hj
          rw [hL.out] at hitem
          have hx12 : s.ks[k].1.size ≤ 12 := keyB_12 (hs.key _ (List.getElem_mem hlt))
          have hvok := hs.val _ (List.getElem_mem hlt)
          have hvg := hg.vals _ (List.getElem_mem hlt)
          have HN : Hid (expTo s (k + 1) = keyTo (expTo s k) s.ks[k].1 s.ks[k].2 s.ks[k].2.length) := by
            show _ = _
            rw [expTo_succ hlt, keyTo_all]
          have hl9 := expTo_len hs (k + 1)
          have hn0 : 0 < s.ks[k].2.length := List.length_pos_iff.2 (hs.ne _ (List.getElem_mem hlt))
          clear e e2
          obtain ⟨p, hp⟩ : ∃ p, Hid (s.ks[k]'hlt = p) := ⟨_, rfl⟩
          rw [hp.out] at hR hsuc hitem hx12 hvok hvg HN hn0
          obtain ⟨x, lv⟩ := p
          replace hR : Hid (∀ wz, Below w.heap.size w wz → Calls Tryz.prog 33 #[.pointer (some ⟨q, 0, none⟩), .int .i64 (posK s.ks k : Int)] wz fun e w' => e = .returned (.int .i64 (lv.length : Int)) ∧ Below wz.heap.size wz w') := hR
          replace hsuc : posK s.ks (k + 1) = posK s.ks k + lv.length := hsuc
          replace hitem : ∀ j, j < lv.length → L.getD (posK s.ks k + j) noIt = ⟨x, (lv.getD j noVer).val, (lv.getD j noVer).num⟩ := hitem
          replace hx12 : x.size ≤ 12 := hx12
          replace hvok : ∀ v ∈ lv, formedV v.val = true := hvok
          replace hvg : ∀ v ∈ lv, v.val.bits < 18446744073709551616 := hvg
          replace HN : Hid (expTo s (k + 1) = keyTo (expTo s k) x lv lv.length) := HN
          replace hn0 : 0 < lv.length := hn0
          have hml := expTo_len hs k
          obtain ⟨m, hm⟩ : ∃ m, Hid (expTo s k = m) := ⟨_, rfl⟩
          rw [hm.out] at HO HN hml
          have hl8 : (keyTo m x lv lv.length).length ≤ 700000 := by rw [← HN.out]; omega
          obtain ⟨pk, hpk2⟩ : ∃ pk, Hid (posK s.ks k = pk) := ⟨_, rfl⟩
          rw [hpk2.out] at hR hsuc hpk hitem ⊢
          obtain ⟨pn, hpn⟩ : ∃ pn, Hid (pk + lv.length = pn) := ⟨_, rfl⟩
          rw [hpn.out] at hsuc
          have hpnL : pn ≤ L.length := by omega
          have hpno := hpn.out
          obtain ⟨b, off, y, z0, bt0, t0, num0, rfl, y0, _, _, _, _, HY⟩ := (hA.later hwr).at' hpk
          have hyx : y = x := by
            have := hitem 0 hn0
            rw [Nat.add_zero, HY.out] at this
            exact congrArg It.key this
          subst hyx
          have hwrp : IntKind.i64.wrap ((pk : Int) + (lv.length : Int)) = (pn : Int) := by rw [show ((pk : Int) + (lv.length : Int)) = (pn : Int) by omega]; exact IntWalk.i64_in _ (by omega)
          have hwl : IntKind.u64.wrap (lv.length : Int) = (lv.length : Int) := IntWalk.u64_in _ (by omega)
          have hpki : (pk : Int) < (L.length : Int) := by omega
          have hpk0 : (0 : Int) ≤ (pk : Int) := by omega
          replace hitem := Lib.hid hitem
          replace hvok := Lib.hid hvok
          replace hvg := Lib.hid hvg
          replace hsuc := Lib.hid hsuc
          obtain ⟨A6, c6, hform, _, hB6⟩ := own_bys HO.out
          subst hform
          obtain ⟨m5, hm5⟩ : ∃ m5, Hid (m ++ beL y.size 2 ++ y.data.toList = m5) := ⟨_, rfl⟩
          have hl5 : m5.length ≤ 700100 := by
            have := txt_len y
            rw [← hm5.out, List.length_append, List.length_append, beL_length]; omega
          have HT5 : Hid (∀ wz, Below wj.heap.size wj wz → Calls Tryz.prog 34 #[.slice A6 m.length c6, .string y] wz (OwnBys wz m5)) := fun wz hz => by
            rw [← hm5.out]
            exact refPutText02_any m y A6 c6 wz (BysAt.later hB6 hz) (by omega) (by omega)
          have HT6 : Hid (∀ wz A ca, BysAt wz A m5 → Calls Tryz.prog 32 #[.slice A m5.length ca, .int .u64 (lv.length : Int), .int .i64 4] wz (OwnBys wz (keyTo m y lv 0))) := fun wz A ca hA => by
            have e : keyTo m y lv 0 = m5 ++ beL lv.length 4 := by rw [← hm5.out]; simp [keyTo]
            rw [e]
            exact refPut02z m5 lv.length 4 _ 4 rfl rfl A ca wz hA (by omega) (by decide)
          have hlv0 := hn0
          clear hpno hle hm5 hn0 hl9
          go_wp2_with (first
            | (go_at_call 33; refine (hR.out _ hwr).mono ?_; rintro e w6 ⟨rfl, hb7⟩; replace e0 := keep hb7 e0; replace y0 := keep hb7 y0)
            | (go_at_call 34; refine (HT5.out _ hb7).mono ?_; rintro e w7 hq; obtain ⟨A7, c7, rfl, hB7, hb⟩ := hq.at_; have hb8 := keepB hb7 hb)
            | (go_at_call 32; refine (HT6.out _ A7 c7 hB7).mono ?_; rintro e w8 ⟨v8, rfl, ho8, hb9'⟩; have hb9 := keepB hb8 hb9'; replace ho8 := Lib.hid (own_base ho8 (Nat.le_trans hwr.size hb8.size))))
          have hwB := Nat.le_trans hwr.size hb9.size
          go_loopw [3, 8] (fun v iv wr => ∃ j g : Nat, j ≤ lv.length ∧ iv = .int .i64 g ∧ Hid (pk + j = g) ∧ Hid (wr.ownsRow w.heap.size 5 1 v (keyTo m y lv j).length (byC (keyTo m y lv j))) ∧ Below w8.heap.size w8 wr) (fun _ iv _ => pn - (intOf iv).toNat)
          case atStart => exact ⟨0, pk, Nat.zero_le _, rfl, rfl, ho8, Below.refl _ _⟩
          case round =>
            obtain ⟨j, g, hj, rfl, hg, HO2, hw2⟩ := hrel
            obtain ⟨wc, rfl⟩ : ∃ wc : World, wc = wr := ⟨_, rfl⟩
            have hwF := keepB hwr (keepB hb9 hw2)
            have f0 := keep hwF c0
            by_cases hjl : j < lv.length
            · obtain ⟨b2, off2, y2, z, bt, t, num, e9, _, g1, g2, g3, g4, HY2⟩ := (hA.later hwF).at' (k := g) (by have := hg.out; have := hpn.out; omega)
              injection e9 with e9
              injection e9 with e9 e8
              subst e9 e8
              have hit := hitem.out j hjl
              rw [hg.out, HY2.out] at hit
              obtain ⟨ve, hve⟩ : ∃ ve, Hid (lv.getD j noVer = ve) := ⟨_, rfl⟩
              rw [hve.out] at hit
              have hmem : ve ∈ lv := by rw [← hve.out, List.getD_eq_getElem?_getD, List.getElem?_eq_getElem hjl]; exact List.getElem_mem hjl
              obtain ⟨vn, vv⟩ := ve
              injection hit with _ hv1 hv2
              subst hv1 hv2
              have hgd := good_of (hvok.out _ hmem) (hvg.out _ hmem)
              have hS := Lib.hid (keyTo_succ (m := m) (x := y) hjl hve.out)
              have hkl2 : (keyTo m y lv j).length ≤ 700000 := Nat.le_trans (keyTo_le m y lv j) hl8
              obtain ⟨m9, hm9⟩ : ∃ m9, Hid (keyTo m y lv j = m9) := ⟨_, rfl⟩
              rw [hm9.out] at HO2 hS hkl2
              obtain ⟨A9, c9, hform, _, hB9⟩ := own_bys HO2.out
              subst hform
              obtain ⟨m10, hm10⟩ : ∃ m10, Hid (m9 ++ beL num 8 = m10) := ⟨_, rfl⟩
              have hl10 : m10.length ≤ 700008 := by rw [← hm10.out, List.length_append, beL_length]; omega
              have HT9 : Hid (∀ wz, Below wc.heap.size wc wz → Calls Tryz.prog 32 #[.slice A9 m9.length c9, .int .u64 (num : Int), .int .i64 8] wz (OwnBys wz m10)) := fun wz hz => by
                rw [← hm10.out]
                exact refPut02z m9 num 8 _ 8 rfl rfl A9 c9 wz (BysAt.later hB9 hz) (by omega) (by decide)
              have HT10 : Hid (∀ wz A ca, BysAt wz A m10 → Calls Tryz.prog 35 #[.slice A m10.length ca, .agg #[.int .i64 z, .int .u64 (bt : Int), .string t]] wz (OwnBys wz (keyTo m y lv (j + 1)))) := fun wz A ca hA => by
                have e : keyTo m y lv (j + 1) = m10 ++ putV ⟨z, bt, t⟩ := by rw [hS.out, ← hm10.out]
                rw [e]
                exact refPut04_any m10 ⟨z, bt, t⟩ hgd A ca wz hA (by omega)
              have hgi : (g : Int) < (L.length : Int) := by have := hg.out; have := hpn.out; omega
              have hg0 : (0 : Int) ≤ (g : Int) := by omega
              have hgp : (g : Int) < (pn : Int) := by have := hg.out; have := hpn.out; omega
              have hlt9 : g < pn := by omega
              clear hm9 hm10 hgd hmem
              go_wp2_with (first
                | (go_at_call 32; (with_reducible refine (HT9.out _ (Below.refl _ _)).mono ?_); rintro e w11 hq; obtain ⟨A11, c11, rfl, hB11, hb11⟩ := hq.at_; replace f0 := keep hb11 f0; replace g1 := keep hb11 g1; replace g2 := keep hb11 g2; replace g3 := keep hb11 g3)
                | (go_at_call 35; refine (HT10.out _ A11 c11 hB11).mono ?_; rintro e w12 ⟨v12, rfl, ho12, hb12'⟩; have hb12 := keepB hb11 hb12'; replace ho12 := Lib.hid (own_base ho12 (Nat.le_trans hwF.size hb11.size))))
              go_roundw
              case rel => exact ⟨j + 1, g + 1, by omega, by go_num, (by show _ = _; have := hg.out; omega), ho12, keepB hw2 hb12⟩
              case measure => simp [intOf]; omega
            · obtain rfl : j = lv.length := by omega
              have hgp : g = pn := by rw [← hg.out, hpn.out]
              subst hgp
              have hnn : Hid (posK s.ks (k + 1) = g) := hsuc
              have hlt9 : pk < g := by have := hpn.out; have := hlv0; omega
              go_wp2_with (go_at_call 33; refine (hR.out _ hwF).mono ?_; rintro e w13 ⟨rfl, hb13⟩; have ho13 := Lib.hid (own_keep HO2.out hb13))
              go_roundw
              case rel =>
                refine ⟨k + 1, by omega, by rw [hnn.out], ?_, keepB hwF hb13⟩
                rw [HN.out]
                exact ho13.out
              case measure => simp [intOf]; omega
        · obtain rfl : k = s.ks.length := by omega
          have hpk : posK s.ks s.ks.length = L.length := hpl.out
          rw [hpk]
          clear hlt
          go_wp2
          go_ret
          refine ⟨_, rfl, ?_, hwr⟩
          rw [← expTo_all]
          exact HO.out
end Go.Proofs.YtboiafchmdflpaaGreatDoor
