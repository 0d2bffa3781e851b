/- The reference's Formed, of writes. -/
import Derived.Test.YtboiafchmdflpaaGreatDoorApply14
namespace Go.Proofs.YtboiafchmdflpaaGreatDoor
open Go.RowKit Go.Maps Go.Shelf Go.Sort

theorem refKey_below (s : ByteArray) (w : World) (hs : s.size ≤ maxLen) :
    Calls Tryz.prog 64 #[.string s] w fun e w' => e = .returned (.bool (keyB s)) ∧ Below w.heap.size w w' :=
  (refKey_any s w hs).mono fun _ _ ⟨he, hw⟩ => ⟨he, hw ▸ Below.refl _ _⟩
theorem wrsOK_bad {l : List Wr} {k : Nat} (hk : k < l.length) (h : wrOK l k = false) : wrsOK l = false := wrsTo_false hk h
set_option maxRecDepth 100000 in
set_option maxHeartbeats 8000000 in
theorem refFormed14_any (l : List Wr) (A : Option Addr) (ca : Nat) (w : World) (hA : WrsAt w A l) (hok : WrsOK l) (hn : l.length ≤ 1000000) :
    Calls Tryz.prog 46 #[.slice A l.length ca] w fun e w' => e = .returned (.bool (wrsOK l)) ∧ Below w.heap.size w w' := by
  go_enter Tryz.func46, Tryz.ntmps46
  go_wp2
  go_loopw [3] (fun i wr => ∃ k : Nat, k ≤ l.length ∧ i = .int .i64 k ∧ Hid (wrsTo l k = true) ∧ Below w.heap.size w wr) (fun i _ => l.length - (intOf i).toNat)
  case atStart => exact ⟨0, Nat.zero_le _, rfl, rfl, Below.refl _ _⟩
  case round =>
    obtain ⟨k, hk, rfl, HA, hw⟩ := hrel
    obtain ⟨wb, rfl⟩ : ∃ wb : World, wb = wr := ⟨_, rfl⟩
    have hr := hA.later hw
    by_cases hlt : k < l.length
    · obtain ⟨b, off, x, z, m, tx, rfl, d0, d1, d2, d3, HX⟩ := hr.at' hlt
      have hsx : x.size ≤ maxLen := by have := hok.k k hlt; rw [HX.out] at this; exact this
      have hgg := hok.v k hlt
      rw [HX.out] at hgg
      have hgb := hgg.b
      have hgt := hgg.t
      simp only at hgb hgt
      clear hgg
      have hki : (k : Int) < (l.length : Int) := by omega
      cases hkey : keyB x
      · have HF := Lib.hid (wrsOK_bad hlt (wrOK_key HX.out hkey))
        replace hkey := Lib.hid hkey
        go_wp2
        have k0 := cell_regrown d0
        have cK : ∀ d os, Calls Tryz.prog 64 #[.string x] (grow (redrawn wb d) os) fun e w'' => e = .returned (.bool false) ∧ ∃ p : Regrown, w'' = grow (redrawn wb p.d) p.os := fun d os => Calls.regrown_of (calls_b14 hkey.out (refKey_below x _ hsx))
        refine wp_region_quiet_below (by kernel_rfl) (by kernel_rfl) ?_
        repeat (go_big_quiet_step (first | exact cK _ _))
        refine wpQuiet_nil ?_
        intro _ hw'
        obtain ⟨⟨dq, osq⟩, hw''⟩ := hw'
        subst hw''
        have HQ := below_regrown wb dq osq
        clear k0 cK
        go_wp2
        go_ret
        exact ⟨ret_bool14 HF.out, keepB hw HQ⟩
      · obtain ⟨fv, hfv⟩ : ∃ fv, formedV ⟨z, m, tx⟩ = fv := ⟨_, rfl⟩
        cases fv
        · have HF := Lib.hid (wrsOK_bad hlt (wrOK_val HX.out hfv))
          replace hkey := Lib.hid hkey
          replace hfv := Lib.hid hfv
          go_wp2
          have k0 := cell_regrown d0
          have k1 := cell_regrown d1
          have k2 := cell_regrown d2
          have k3 := cell_regrown d3
          have cK : ∀ d os, Calls Tryz.prog 64 #[.string x] (grow (redrawn wb d) os) fun e w'' => e = .returned (.bool true) ∧ ∃ p : Regrown, w'' = grow (redrawn wb p.d) p.os := fun d os => Calls.regrown_of (calls_b14 hkey.out (refKey_below x _ hsx))
          have cF : ∀ d os, Calls Tryz.prog 57 #[.agg #[.int .i64 z, .int .u64 m, .string tx]] (grow (redrawn wb d) os) fun e w'' => e = .returned (.bool false) ∧ ∃ p : Regrown, w'' = grow (redrawn wb p.d) p.os := fun d os => Calls.regrown_of (calls_b14 hfv.out (refFormedV_any z m tx hgb hgt _))
          refine wp_region_quiet_below (by kernel_rfl) (by kernel_rfl) ?_
          repeat (go_big_quiet_step (first | exact cK _ _ | exact cF _ _))
          refine wpQuiet_nil ?_
          intro _ hw'
          obtain ⟨⟨dq, osq⟩, hw''⟩ := hw'
          subst hw''
          have HQ := below_regrown wb dq osq
          clear k0 k1 k2 k3 cK cF
          go_wp2
          go_ret
          exact ⟨ret_bool14 HF.out, keepB hw HQ⟩
        · by_cases hk0 : k = 0
          · have HR : Hid (wrsTo l (k + 1) = true) := wrsTo_next0 HX.out hkey hfv hk0
            have hg : decide (0 < k) = false := by rw [decide_eq_false_iff_not]; omega
            clear hk0
            replace hkey := Lib.hid hkey
            replace hfv := Lib.hid hfv
            go_wp2
            have k0 := cell_regrown d0
            have k1 := cell_regrown d1
            have k2 := cell_regrown d2
            have k3 := cell_regrown d3
            have cK : ∀ d os, Calls Tryz.prog 64 #[.string x] (grow (redrawn wb d) os) fun e w'' => e = .returned (.bool true) ∧ ∃ p : Regrown, w'' = grow (redrawn wb p.d) p.os := fun d os => Calls.regrown_of (calls_b14 hkey.out (refKey_below x _ hsx))
            have cF : ∀ d os, Calls Tryz.prog 57 #[.agg #[.int .i64 z, .int .u64 m, .string tx]] (grow (redrawn wb d) os) fun e w'' => e = .returned (.bool true) ∧ ∃ p : Regrown, w'' = grow (redrawn wb p.d) p.os := fun d os => Calls.regrown_of (calls_b14 hfv.out (refFormedV_any z m tx hgb hgt _))
            refine wp_region_quiet_below (by kernel_rfl) (by kernel_rfl) ?_
            repeat (go_big_quiet_step (first | exact cK _ _ | exact cF _ _))
            refine wpQuiet_nil ?_
            intro _ hw'
            obtain ⟨⟨dq, osq⟩, hw''⟩ := hw'
            subst hw''
            have HQ := below_regrown wb dq osq
            clear k0 k1 k2 k3 cK cF
            go_wp2
            go_roundw
            case rel => exact ⟨k + 1, by omega, by go_num, HR, keepB hw HQ⟩
            case measure => simp [intOf]; omega
          · obtain ⟨b', off', y, z', n', tx', e, e0, _, _, _, HZ⟩ := hr.at' (k := k - 1) (by omega)
            injection e with e
            injection e with f1 f2
            subst f1 f2
            have hg : decide (0 < k) = true := by rw [decide_eq_true_iff]; omega
            have hi : ((k : Int) - 1).toNat = k - 1 := by omega
            have hk1 : 1 ≤ k := by omega
            have hk1i : (1 : Int) ≤ (k : Int) := by omega
            have hk2i : (k : Int) - 1 < (l.length : Int) := by omega
            cases hl2 : lessS y x
            · have HF := Lib.hid (wrsOK_bad hlt (wrOK_less HX.out HZ.out hk0 hl2))
              have hl' : (Op.bytesLess x.toList y.toList || x.toList == y.toList) = true := lessS_no hl2
              clear hk0 hl2
              replace hkey := Lib.hid hkey
              replace hfv := Lib.hid hfv
              go_wp2
              have k0 := cell_regrown d0
              have k1 := cell_regrown d1
              have k2 := cell_regrown d2
              have k3 := cell_regrown d3
              have k4 := cell_regrown e0
              have cK : ∀ d os, Calls Tryz.prog 64 #[.string x] (grow (redrawn wb d) os) fun e w'' => e = .returned (.bool true) ∧ ∃ p : Regrown, w'' = grow (redrawn wb p.d) p.os := fun d os => Calls.regrown_of (calls_b14 hkey.out (refKey_below x _ hsx))
              have cF : ∀ d os, Calls Tryz.prog 57 #[.agg #[.int .i64 z, .int .u64 m, .string tx]] (grow (redrawn wb d) os) fun e w'' => e = .returned (.bool true) ∧ ∃ p : Regrown, w'' = grow (redrawn wb p.d) p.os := fun d os => Calls.regrown_of (calls_b14 hfv.out (refFormedV_any z m tx hgb hgt _))
              refine wp_region_quiet_below (by kernel_rfl) (by kernel_rfl) ?_
              repeat (go_big_quiet_step (first | exact cK _ _ | exact cF _ _))
              refine wpQuiet_nil ?_
              intro _ hw'
              obtain ⟨⟨dq, osq⟩, hw''⟩ := hw'
              subst hw''
              have HQ := below_regrown wb dq osq
              clear k0 k1 k2 k3 k4 cK cF
              go_wp2
              go_ret
              exact ⟨ret_bool14 HF.out, keepB hw HQ⟩
            · have HR : Hid (wrsTo l (k + 1) = true) := wrsTo_next HA.out HX.out HZ.out hkey hfv hl2
              have hl' : (Op.bytesLess x.toList y.toList || x.toList == y.toList) = false := lessS_yes hl2
              clear hk0 hl2
              replace hkey := Lib.hid hkey
              replace hfv := Lib.hid hfv
              go_wp2
              have k0 := cell_regrown d0
              have k1 := cell_regrown d1
              have k2 := cell_regrown d2
              have k3 := cell_regrown d3
              have k4 := cell_regrown e0
              have cK : ∀ d os, Calls Tryz.prog 64 #[.string x] (grow (redrawn wb d) os) fun e w'' => e = .returned (.bool true) ∧ ∃ p : Regrown, w'' = grow (redrawn wb p.d) p.os := fun d os => Calls.regrown_of (calls_b14 hkey.out (refKey_below x _ hsx))
              have cF : ∀ d os, Calls Tryz.prog 57 #[.agg #[.int .i64 z, .int .u64 m, .string tx]] (grow (redrawn wb d) os) fun e w'' => e = .returned (.bool true) ∧ ∃ p : Regrown, w'' = grow (redrawn wb p.d) p.os := fun d os => Calls.regrown_of (calls_b14 hfv.out (refFormedV_any z m tx hgb hgt _))
              refine wp_region_quiet_below (by kernel_rfl) (by kernel_rfl) ?_
              repeat (go_big_quiet_step (first | exact cK _ _ | exact cF _ _))
              refine wpQuiet_nil ?_
              intro _ hw'
              obtain ⟨⟨dq, osq⟩, hw''⟩ := hw'
              subst hw''
              have HQ := below_regrown wb dq osq
              clear k0 k1 k2 k3 k4 cK cF
              go_wp2
              go_roundw
              case rel => exact ⟨k + 1, by omega, by go_num, HR, keepB hw HQ⟩
              case measure => simp [intOf]; omega
    · have hfull : Hid (wrsOK l = true) := by show _ = _; rw [wrsOK, show l.length = k by omega]; exact HA.out
      clear HA
      go_wp2
      go_ret
      exact ⟨ret_bool14 hfull.out, hw⟩
end Go.Proofs.YtboiafchmdflpaaGreatDoor
/- How the reference's store lies in memory; Seen. -/
namespace Go.Proofs.YtboiafchmdflpaaGreatDoor
open Go.RowKit Go.Maps Go.Shelf Go.Sort

def itC (x : It) : List Value := [.string x.key, .int .i64 x.val.kind, .int .u64 (x.val.bits : Int), .string x.val.text, .int .u64 (x.num : Int)]
def itCs (l : List It) : List Value := l.flatMap itC
theorem itCs_append (l m : List It) : itCs (l ++ m) = itCs l ++ itCs m := by simp [itCs]
theorem itCs_len : ∀ l : List It, (itCs l).length = l.length * 5
  | [] => rfl
  | x :: l => by have := itCs_len l; rw [show itCs (x :: l) = itC x ++ itCs l from rfl, List.length_append, this]; simp [itC]; omega
theorem itC_one (v : It) : ∀ u ∈ itC v, u.oneCell' = true := fun u hu => by
  simp only [itC, List.mem_cons, List.not_mem_nil, or_false] at hu
  rcases hu with rfl | rfl | rfl | rfl | rfl <;> rfl
theorem itCs_one (l : List It) : ∀ u ∈ itCs l, u.oneCell' = true := fun u hu => by
  obtain ⟨x, _, hu⟩ := List.mem_flatMap.1 hu
  exact itC_one x u hu
def ItsAt (w : World) (A : Option Addr) (l : List It) : Prop :=
  ∀ i, i < l.length → ∃ b off, A = some ⟨b, off, none⟩ ∧ w.cell? ⟨b, off + i * 5, none⟩ = some (.string (l.getD i noIt).key) ∧ w.cell? ⟨b, off + i * 5 + 1, none⟩ = some (.int .i64 (l.getD i noIt).val.kind) ∧
    w.cell? ⟨b, off + i * 5 + 2, none⟩ = some (.int .u64 ((l.getD i noIt).val.bits : Nat)) ∧ w.cell? ⟨b, off + i * 5 + 3, none⟩ = some (.string (l.getD i noIt).val.text) ∧ w.cell? ⟨b, off + i * 5 + 4, none⟩ = some (.int .u64 ((l.getD i noIt).num : Nat))
theorem ItsAt.later {w w' : World} {A : Option Addr} {l : List It} (h : ItsAt w A l) (hb : Below w.heap.size w w') : ItsAt w' A l := by
  intro i hi
  obtain ⟨b, off, e, h0, h1, h2, h3, h4⟩ := h i hi
  exact ⟨b, off, e, keep hb h0, keep hb h1, keep hb h2, keep hb h3, keep hb h4⟩
theorem ItsAt.at' {w : World} {A : Option Addr} {l : List It} (h : ItsAt w A l) {k : Nat} (hk : k < l.length) :
    ∃ b off s z m t n, A = some ⟨b, off, none⟩ ∧ w.cell? ⟨b, off + k * 5, none⟩ = some (.string s) ∧ w.cell? ⟨b, off + k * 5 + 1, none⟩ = some (.int .i64 z) ∧
      w.cell? ⟨b, off + k * 5 + 2, none⟩ = some (.int .u64 (m : Nat)) ∧ w.cell? ⟨b, off + k * 5 + 3, none⟩ = some (.string t) ∧ w.cell? ⟨b, off + k * 5 + 4, none⟩ = some (.int .u64 (n : Nat)) ∧ Hid (l.getD k noIt = ⟨s, ⟨z, m, t⟩, n⟩) := by
  obtain ⟨b, off, e, h0, h1, h2, h3, h4⟩ := h k hk
  exact ⟨b, off, _, _, _, _, _, e, h0, h1, h2, h3, h4, rfl⟩
theorem itCs_at : ∀ (l : List It) (i : Nat), i < l.length → (itCs l)[i * 5]? = some (.string (l.getD i noIt).key) ∧ (itCs l)[i * 5 + 1]? = some (.int .i64 (l.getD i noIt).val.kind) ∧ (itCs l)[i * 5 + 2]? = some (.int .u64 ((l.getD i noIt).val.bits : Nat)) ∧ (itCs l)[i * 5 + 3]? = some (.string (l.getD i noIt).val.text) ∧ (itCs l)[i * 5 + 4]? = some (.int .u64 ((l.getD i noIt).num : Nat))
  | [], i, h => by simp at h
  | x :: l, 0, _ => by simp [itCs, itC]
  | x :: l, i + 1, h => by
    have := itCs_at l i (by simpa using h)
    rw [show (i + 1) * 5 = i * 5 + 5 by omega, show i * 5 + 5 + 1 = (i * 5 + 1) + 5 by omega, show i * 5 + 5 + 2 = (i * 5 + 2) + 5 by omega, show i * 5 + 5 + 3 = (i * 5 + 3) + 5 by omega, show i * 5 + 5 + 4 = (i * 5 + 4) + 5 by omega]
    simpa [itCs, itC] using this
theorem own_its {w : World} {B : Nat} {e : TypeId} {v : Value} {l : List It} (h : w.ownsRow B e 5 v l.length (itCs l)) : ∃ (A : Option Addr) (cap : Nat), v = .slice A l.length cap ∧ l.length ≤ cap ∧ ItsAt w A l := by
  rcases h.2 with ⟨rfl, h0⟩ | ⟨g, cap, cur, rfl, hfr, hh, hn, _, _, ht⟩
  · exact ⟨none, 0, by rw [h0], by omega, fun i hi => by omega⟩
  · refine ⟨some ⟨g, 0, none⟩, cap, rfl, hn, fun i hi => ⟨g, 0, rfl, ?_⟩⟩
    have hc : ∀ j, j < l.length * 5 → w.cell? ⟨g, 0 + j, none⟩ = (itCs l)[j]? := by
      intro j hj
      have h1 : (cur.toList.take (l.length * 5))[j]? = (itCs l)[j]? := by rw [ht]
      rw [List.getElem?_take_of_lt (by omega)] at h1
      simp only [World.cell?, hh, Nat.zero_add, Option.isSome_none, Bool.false_eq_true, if_false]
      rw [← Array.getElem?_toList, h1]
    have := itCs_at l i hi
    exact ⟨by rw [hc _ (by omega)]; exact this.1, by rw [Nat.add_assoc, hc _ (by omega)]; exact this.2.1, by rw [Nat.add_assoc, hc _ (by omega)]; exact this.2.2.1, by rw [Nat.add_assoc, hc _ (by omega)]; exact this.2.2.2.1, by rw [Nat.add_assoc, hc _ (by omega)]; exact this.2.2.2.2⟩
theorem its_cell {w : World} {b off : Nat} {l : List It} (h : ItsAt w (some ⟨b, off, none⟩) l) (j : Nat) (hj : j < l.length * 5) : w.cell? ⟨b, off + j, none⟩ = (itCs l)[j]? := by
  obtain ⟨b', off', e, h0, h1, h2, h3, h4⟩ := h (j / 5) (by omega)
  cases e
  have hr := itCs_at l (j / 5) (by omega)
  have hd : j = j / 5 * 5 + j % 5 := by omega
  have hm : j % 5 = 0 ∨ j % 5 = 1 ∨ j % 5 = 2 ∨ j % 5 = 3 ∨ j % 5 = 4 := by omega
  generalize j / 5 = i at *
  rcases hm with e | e | e | e | e
  all_goals
    rw [e] at hd
    subst hd
  · rw [Nat.add_zero, h0, hr.1]
  · rw [← Nat.add_assoc, h1, hr.2.1]
  · rw [← Nat.add_assoc, h2, hr.2.2.1]
  · rw [← Nat.add_assoc, h3, hr.2.2.2.1]
  · rw [← Nat.add_assoc, h4, hr.2.2.2.2]
theorem itCs_drop : ∀ (l : List It) (k : Nat), itCs (l.drop k) = (itCs l).drop (k * 5)
  | l, 0 => by simp
  | [], k + 1 => by simp [itCs]
  | x :: l, k + 1 => by
    rw [List.drop_succ_cons, itCs_drop l k, show itCs (x :: l) = itC x ++ itCs l from rfl, show (k + 1) * 5 = (itC x).length + k * 5 by show (k + 1) * 5 = 5 + k * 5; omega, List.drop_append, List.drop_eq_nil_of_le (Nat.le_add_right _ _), Nat.add_sub_cancel_left, List.nil_append]
theorem its_news {w : World} {b off : Nat} {l : List It} (h : ItsAt w (some ⟨b, off, none⟩) l) (k : Nat) : ∀ ad, some (⟨b, off + k * 5, none⟩ : Addr) = some ad → ∀ j u, (itCs (l.drop k))[j]? = some u → w.cell? (ad.add j) = some u := by
  intro ad e j u hu
  cases e
  rw [itCs_drop, List.getElem?_drop] at hu
  have hj : k * 5 + j < l.length * 5 := by
    have := (List.getElem?_eq_some_iff.1 hu).1
    rwa [itCs_len] at this
  rw [Go.WideShapes.add_plain, Nat.add_assoc, its_cell h _ hj, hu]
theorem info_it : (Tryz.prog.info? 76).map (fun i => (i.zero, i.size, i.bytes)) = some (some (.agg #[.string ByteArray.empty, .int .i64 0, .int .u64 0, .string ByteArray.empty, .int .u64 0]), 5, 56) := by kernel_rfl

/-- The reference's store: its items in a row. -/
structure RefIn (w : World) (B q : Nat) (v : Value) (O : Nat → Prop) (L : List It) (last low : Nat) : Prop where
  blk : w.heap[q]? = some (.cells #[v, .int .u64 (last : Int), .int .u64 (low : Int)] 31 (0, 0))
  row : w.ownsRow B 76 5 v L.length (itCs L)
  hq : O q
  mine : ∀ g, v.ownBlock = some g → O g ∧ g ≠ q
  lt : ∀ k, O k → B ≤ k ∧ k < w.heap.size
def RefAt (w : World) (B q : Nat) (O : Nat → Prop) (L : List It) (last low : Nat) : Prop := ∃ v, RefIn w B q v O L last low
section
variable {w w' : World} {B q : Nat} {v : Value} {O O' : Nat → Prop} {L : List It} {last low : Nat}
theorem RefIn.c0 (h : RefIn w B q v O L last low) : w.cell? ⟨q, 0, none⟩ = some v := by
  rw [cell_of_row w q 0 _ _ _ h.blk]; rfl
theorem RefIn.c1 (h : RefIn w B q v O L last low) : w.cell? ⟨q, 1, none⟩ = some (.int .u64 (last : Int)) := by
  rw [cell_of_row w q 1 _ _ _ h.blk]; rfl
theorem RefIn.c2 (h : RefIn w B q v O L last low) : w.cell? ⟨q, 2, none⟩ = some (.int .u64 (low : Int)) := by
  rw [cell_of_row w q 2 _ _ _ h.blk]; rfl
theorem RefIn.fz (h : RefIn w B q v O L last low) (j : Nat) : w.frozen? ⟨q, j, none⟩ = false := frozen_of_row w q j _ _ h.blk
theorem RefIn.out (h : RefIn w B q v O L last low) (hw : Out O' w w') (hd : ∀ k, O k → ¬ O' k) : RefIn w' B q v O L last low :=
  ⟨hw.obj h.blk (hd _ h.hq), hw.row h.row (fun g hg => hd g (h.mine g hg).1), h.hq, h.mine, fun k hk => ⟨(h.lt k hk).1, Nat.lt_of_lt_of_le (h.lt k hk).2 hw.size⟩⟩
theorem RefIn.later (h : RefIn w B q v O L last low) (hb : Below w.heap.size w w') : RefIn w' B q v O L last low :=
  h.out (O' := fun _ => False) (Out.of_below hb) (fun _ _ h => h)
theorem RefIn.mono (h : RefIn w B q v O L last low) (hs : ∀ k, O k → O' k) (hl : ∀ k, O' k → B ≤ k ∧ k < w.heap.size) : RefIn w B q v O' L last low :=
  ⟨h.blk, h.row, hs _ h.hq, fun g hg => ⟨hs g (h.mine g hg).1, (h.mine g hg).2⟩, hl⟩
theorem RefAt.out (h : RefAt w B q O L last low) (hw : Out O' w w') (hd : ∀ k, O k → ¬ O' k) : RefAt w' B q O L last low := by
  obtain ⟨v, h⟩ := h
  exact ⟨v, h.out hw hd⟩
theorem RefAt.later (h : RefAt w B q O L last low) (hb : Below w.heap.size w w') : RefAt w' B q O L last low :=
  h.out (O' := fun _ => False) (Out.of_below hb) (fun _ _ h => h)
theorem RefAt.stay (h : RefAt w B q O L last low) (hb : Below w.heap.size w w') (hB : B ≤ w.heap.size) : RefAt w' B q (ext O w w') L last low := by
  obtain ⟨v, h⟩ := h.later hb
  exact ⟨v, h.mono (fun k hk => .inl hk) (fun k hk => Or.elim hk (h.lt k) (fun e => ⟨by omega, e.2⟩))⟩
theorem RefIn.setLast (h : RefIn w B q v O L last low) (n : Nat) : RefIn (w.setCell ⟨q, 1, none⟩ (.int .u64 (n : Int))) B q v O L n low := by
  have hb := blk_set (j := 1) (.int .u64 (n : Int)) h.blk
  have ho := out_set w q 1 (.int .u64 (n : Int))
  exact { blk := by simpa using hb, row := ho.row h.row (fun g hg e => (h.mine g hg).2 e), hq := h.hq, mine := h.mine, lt := fun k hk => ⟨(h.lt k hk).1, by have := (h.lt k hk).2; have := ho.size; omega⟩ }
theorem RefIn.setLow (h : RefIn w B q v O L last low) (n : Nat) : RefIn (w.setCell ⟨q, 2, none⟩ (.int .u64 (n : Int))) B q v O L last n := by
  have hb := blk_set (j := 2) (.int .u64 (n : Int)) h.blk
  have ho := out_set w q 2 (.int .u64 (n : Int))
  exact { blk := by simpa using hb, row := ho.row h.row (fun g hg e => (h.mine g hg).2 e), hq := h.hq, mine := h.mine, lt := fun k hk => ⟨(h.lt k hk).1, by have := (h.lt k hk).2; have := ho.size; omega⟩ }
/-- The list is another row of the call's own. -/
theorem RefIn.setList {w1 : World} {v' : Value} {L' : List It} (h : RefIn w B q v O L last low) (hb : Below w.heap.size w w1) (hr : w1.ownsRow w.heap.size 76 5 v' L'.length (itCs L')) :
    RefIn (w1.setCell ⟨q, 0, none⟩ v') B q v' (ext O w (w1.setCell ⟨q, 0, none⟩ v')) L' last low := by
  have h1 := h.later hb
  have hs := blk_set (j := 0) v' h1.blk
  have ho := out_set w1 q 0 v'
  have hqlt := (h.lt q h.hq)
  have hsz := hb.size
  have hne : ∀ g, v'.ownBlock = some g → g ≠ q := fun g hg e => by have := (hr.lt g hg).1; omega
  have hr2 := ho.row hr (fun g hg e => hne g hg e)
  refine { blk := by simpa using hs, row := ⟨hr2.1, ?_⟩, hq := .inl h.hq, mine := fun g hg => ⟨.inr ⟨(hr2.lt g hg).1, (hr2.lt g hg).2⟩, hne g hg⟩, lt := fun k hk => Or.elim hk (fun hk => ⟨(h.lt k hk).1, by have := (h.lt k hk).2; have := ho.size; omega⟩) (fun e => ⟨by omega, e.2⟩) }
  rcases hr2.2 with e | ⟨g, cap, cur, e, hg, r⟩
  · exact .inl e
  · exact .inr ⟨g, cap, cur, e, by omega, r⟩
end
theorem seenF_here {L : List It} {k : ByteArray} {j n : Nat} {x : It} (hj : j < L.length) (h : (L.take j).all (fun x => !(decide (x.key = k) && decide (x.num ≤ n))) = true) (hx : L.getD j noIt = x) (h1 : x.key = k) (h2 : x.num ≤ n) : seenF L k n = ⟨x.num, x.val⟩ := by
  have e : L = L.take j ++ x :: L.drop (j + 1) := by
    have : x = L[j] := by rw [← hx, List.getD_eq_getElem?_getD, List.getElem?_eq_getElem hj]; rfl
    rw [this]; simp
  rw [e, seenF, List.find?_append, find_none fun y hy => (by have := List.all_eq_true.1 h y hy; rwa [Bool.not_eq_true'] at this), List.find?_cons, decide_eq_true h1, decide_eq_true h2]
  rfl
theorem seenF_none {L : List It} {k : ByteArray} {n : Nat} (h : L.all (fun x => !(decide (x.key = k) && decide (x.num ≤ n))) = true) : seenF L k n = noVer := by
  rw [seenF, find_none fun y hy => (by have := List.all_eq_true.1 h y hy; rwa [Bool.not_eq_true'] at this)]
  rfl
theorem str_eq_dec (a b : ByteArray) : (a.toList == b.toList) = decide (a = b) := by
  by_cases h : a = b
  · simp [h]
  · have : a.toList ≠ b.toList := fun e => h (bytes_ext e)
    simp [h, this]
def RSeenPost (w : World) (v : Ver) (e : Ending) (w' : World) : Prop :=
  e = .returned (.tuple #[.agg #[.int .i64 v.val.kind, .int .u64 (v.val.bits : Int), .string v.val.text], .int .u64 (v.num : Int)]) ∧ Below w.heap.size w w'
set_option maxRecDepth 100000 in
set_option maxHeartbeats 2000000 in
theorem refSeen_any {w : World} {B q : Nat} {O : Nat → Prop} {L : List It} {last low : Nat} (h : RefAt w B q O L last low) (k : ByteArray) (n : Nat) (hn : L.length ≤ 900000) :
    Calls Tryz.prog 52 #[.pointer (some ⟨q, 0, none⟩), .string k, .int .u64 (n : Int)] w (RSeenPost w (seenF L k n)) := by
  obtain ⟨W, eW, HB, hsz, hrow⟩ := new3 w (.int .i64 0) (.int .u64 0) (.string { data := #[] }) 53
  obtain ⟨v, h⟩ := h
  have hqlt := (h.lt q h.hq).2
  have hbl : ∀ g, v.ownBlock = some g → g < w.heap.size := fun g hg => (h.lt g (h.mine g hg).1).2
  replace h := h.later HB
  have c0 := h.c0
  obtain ⟨A, cap, hv, hcap, hA⟩ := own_its h.row
  rw [hv] at c0 hbl
  have HBL := Lib.hid hbl
  clear hbl
  have HR := Lib.hid hrow
  have HZ := Lib.hid hsz
  clear h hv hcap hrow hsz
  go_enter Tryz.func52, Tryz.ntmps52
  go_wp2
  go_loopw [8] (fun i wr => ∃ j : Nat, j ≤ L.length ∧ i = .int .i64 j ∧ Hid ((L.take j).all (fun x => !(decide (x.key = k) && decide (x.num ≤ n))) = true) ∧ Below W.heap.size W wr) (fun i _ => L.length - (intOf i).toNat)
  case atStart => exact ⟨0, Nat.zero_le _, rfl, rfl, Below.refl _ _⟩
  case round =>
    obtain ⟨j, hj, rfl, HA, hw⟩ := hrel
    have hrow := obj_later HR.out hw
    obtain ⟨y0, y1, y2, f0, f1, f2⟩ := cells3 hrow
    replace c0 := keep hw c0
    clear hrow eW
    have hglt : w.heap.size < wr.heap.size := by have := hw.size; have := HZ.out; omega
    by_cases hlt : j < L.length
    · obtain ⟨b, off, x, z, bt, t, m, rfl, d0, d1, d2, d3, d4, HX⟩ := (hA.later hw).at' hlt
      have hki : (j : Int) < (L.length : Int) := by omega
      by_cases hx : x = k
      · have q1 : (x.toList == k.toList) = true := by rw [str_eq_dec, decide_eq_true hx]
        by_cases hle : m ≤ n
        · have HS : Hid (seenF L k n = ⟨m, ⟨z, bt, t⟩⟩) := seenF_here hlt HA.out HX.out hx hle
          have hle' : ((m : Int) ≤ (n : Int)) := by omega
          have hblt := HBL.out b rfl
          have n1 : ¬ (q = w.heap.size) := by omega
          have n2 : ¬ (w.heap.size = q) := by omega
          have n3 : ¬ (b = w.heap.size) := by omega
          have n4 : ¬ (w.heap.size = b) := by omega
          clear hx
          go_wp2
          go_region_held3 (fun w' => w'.cell? ⟨q, 0, none⟩ = some (.slice (some ⟨b, off, none⟩) L.length cap) ∧ w'.cell? ⟨b, off + j * 5 + 1, none⟩ = some (.int .i64 z) ∧ w'.cell? ⟨b, off + j * 5 + 1 + 1, none⟩ = some (.int .u64 (bt : Int)) ∧ w'.cell? ⟨b, off + j * 5 + 1 + 2, none⟩ = some (.string t) ∧ w'.cell? ⟨b, off + j * 5 + 4, none⟩ = some (.int .u64 (m : Int))) (go_keep) (fail)
          all_goals
            go_wp2
            obtain ⟨z0, z1, z2, _⟩ := cells3 (set3_cells (obj_later HR.out hw) (.int .i64 z) (.int .u64 (bt : Int)) (.string t))
            refine bodyPost_ret (v := .tuple #[.agg #[.int .i64 z, .int .u64 (bt : Int), .string t], .int .u64 (m : Int)]) (by simp [results, Tryz.results52, go_sem, z0, z1, z2]) rfl ⟨by rw [HS.out], below_drew ((((keepB HB hw).setCell (Nat.le_refl _) _).setCell (Nat.le_refl _) _).setCell (Nat.le_refl _) _)⟩
        · have HR2 : Hid ((L.take (j + 1)).all (fun x => !(decide (x.key = k) && decide (x.num ≤ n))) = true) := all_next hlt HX.out (by simp; omega) HA.out
          have hle' : ¬ ((m : Int) ≤ (n : Int)) := by omega
          clear hx
          go_wp2
          go_roundw
          case rel => exact ⟨j + 1, by omega, by go_num, HR2, hw⟩
          case measure => simp [intOf]; omega
      · have q1 : (x.toList == k.toList) = false := by rw [str_eq_dec, decide_eq_false hx]
        have HR2 : Hid ((L.take (j + 1)).all (fun x => !(decide (x.key = k) && decide (x.num ≤ n))) = true) := all_next hlt HX.out (by simp [hx]) HA.out
        clear hx
        go_wp2
        go_roundw
        case rel => exact ⟨j + 1, by omega, by go_num, HR2, hw⟩
        case measure => simp [intOf]; omega
    · have HS : Hid (seenF L k n = noVer) := by
        show _ = _
        have e : L.take j = L := List.take_of_length_le (by omega)
        have := HA.out
        rw [e] at this
        exact seenF_none this
      go_wp2
      obtain ⟨z0, z1, z2, _⟩ := cells3 (set3_cells (obj_later HR.out hw) (.int .i64 0) (.int .u64 0) (.string { data := #[] }))
      refine bodyPost_ret (v := .tuple #[.agg #[.int .i64 0, .int .u64 0, .string { data := #[] }], .int .u64 0]) (by simp [results, Tryz.results52, go_sem, z0, z1, z2]) rfl ⟨by rw [HS.out]; rfl, (((keepB HB hw).setCell (Nat.le_refl _) _).setCell (Nat.le_refl _) _).setCell (Nat.le_refl _) _⟩
end Go.Proofs.YtboiafchmdflpaaGreatDoor
