/- Layer 8's Groups, and the reference's. -/
import Derived.Test.YthpdladfcjcjiaaDoorRefCuts08
import Derived.IntWalk
namespace Go.Proofs.YthpdladfcjcjiaaDoor
open Go.RowKit Go.Shelf Go.Sort

def anyIn (c : Cfg) (t : Tx) (g : Nat) : Bool := decide (0 < (readsL c t g).length + (writesL c t g).length)
def cutGr (c : Cfg) (t : Tx) (k : Nat) : List Int := ((List.range k).filter (anyIn c t)).map Int.ofNat
theorem cutGr_succ (c : Cfg) (t : Tx) (k : Nat) : cutGr c t (k + 1) = cutGr c t k ++ if anyIn c t k then [(k : Int)] else [] := by
  unfold cutGr
  rw [List.range_succ, List.filter_append, List.map_append]
  congr 1
  by_cases h : anyIn c t k <;> simp [h]
theorem cutGr_length (c : Cfg) (t : Tx) : ∀ k, (cutGr c t k).length ≤ k
  | 0 => by simp [cutGr]
  | k + 1 => by
    have := cutGr_length c t k
    rw [cutGr_succ, List.length_append]
    split <;> simp <;> omega
theorem cutGr_all (c : Cfg) (t : Tx) : cutGr c t c.reps.length = groupsT c t := by
  cases hc : formedB c
  · have : ∀ g, anyIn c t g = false := fun g => by
      have := readsL_no (c := c) (t := t) (by rw [hc, Bool.false_and]) g
      simp [anyIn, this.1, this.2]
    simp [cutGr, groupsT, groupsL, hc, List.filter_eq_nil_iff, this]
  · cases ht : formedT t
    · have : ∀ g, anyIn c t g = false := fun g => by
        have := readsL_no (c := c) (t := t) (by rw [ht, Bool.and_false]) g
        simp [anyIn, this.1, this.2]
      simp [cutGr, groupsT, ht, List.filter_eq_nil_iff, this]
    · have : anyIn c t = touchB c (rKeys t ++ wKeys t) := funext fun g => touch_cut c t g hc ht
      simp [cutGr, groupsT, ht, groupsL, hc, groupsTo, this]

theorem formed_six {t : Tx} (h : formedT t = true) : t.rds.length ≤ 6 ∧ t.wrs.length ≤ 6 := by
  simp only [formedT, Bool.and_eq_true, decide_eq_true_eq] at h
  exact ⟨h.1.1.1.1.1.2, h.1.1.1.1.2⟩
set_option maxRecDepth 100000 in
set_option maxHeartbeats 4000000 in
theorem txGroups_any (c : Cfg) (t : Tx) (A B A' B' : Option Addr) (ca cb ca' cb' : Nat) (w : World) (h : CfgAt w c A B) (ht : TxAt w t A' B') (hT : Tabs w) :
    Calls Tryd.prog 57 #[.agg #[.slice A c.reps.length ca, .slice B c.bnds.length cb], txV t A' B' ca' cb'] w (IntsPost w (groupsT c t)) := by
  unfold txV
  obtain ⟨W, eW, HB, c0, c1, d0, d1, d2, d3⟩ := box24 w (.slice A c.reps.length ca) (.slice B c.bnds.length cb) (.int .i64 t.ses) (.int .i64 t.seq) (.slice A' t.rds.length ca') (.slice B' t.wrs.length cb') 25 41
  have h := h.later HB
  have ht := ht.later HB
  have hT := hT.later HB
  cases hf : formedT t
  · have HE : Hid (groupsT c t = []) := by show _ = _; simp [groupsT, hf]
    go_enter Tryd.func57, Tryd.ntmps57
    go_wp2_with (go_at_call 25; refine (calls_bool hf (txFormed_any t _ _ _ _ _ ht hT)).mono ?_; rintro e w1 ⟨rfl, hb⟩; replace HB := keepB HB hb)
    go_ret
    rw [HE.out]
    exact ⟨none, 0, rfl, fun i hi => by simp at hi, HB⟩
  · have HE : Hid (groupsT c t = groupsL c (rKeys t ++ wKeys t)) := by show _ = _; simp [groupsT, hf]
    obtain ⟨hn, hm⟩ := formed_six hf
    have hlen : (rKeys t ++ wKeys t).length ≤ 1000 := by rw [List.length_append]; simp only [rKeys, wKeys, List.length_map]; omega
    go_enter Tryd.func57, Tryd.ntmps57
    go_wp2_with (go_at_call 25; refine (calls_bool hf (txFormed_any t _ _ _ _ _ ht hT)).mono ?_; rintro e w1 ⟨rfl, hb⟩; replace HB := keepB HB hb; replace h := h.later hb; replace ht := ht.later hb; replace c0 := keep hb c0; replace c1 := keep hb c1; replace d0 := keep hb d0; replace d1 := keep hb d1; replace d2 := keep hb d2; replace d3 := keep hb d3; clear hb)
    clear eW hf
    obtain ⟨wb, rfl⟩ : ∃ wb : World, wb = w1 := ⟨_, rfl⟩
    generalize hKK : rKeys t ++ wKeys t = KK at *
    have hKeys : ∀ w, TxAt w t A' B' → Calls Tryd.prog 61 #[.agg #[.int .i64 t.ses, .int .i64 t.seq, .slice A' t.rds.length ca', .slice B' t.wrs.length cb']] w (StrsPost w KK) := fun w hw => by rw [← hKK]; exact keys_any t A' B' ca' cb' w hw hn hm
    clear hKK
    go_region_held3 (fun w' => w'.cell? ⟨w.heap.size, 0, none⟩ = some (.slice A c.reps.length ca) ∧ w'.cell? ⟨w.heap.size, 1, none⟩ = some (.slice B c.bnds.length cb) ∧ w'.cell? ⟨w.heap.size + 1, 0, none⟩ = some (.int .i64 t.ses) ∧ w'.cell? ⟨w.heap.size + 1, 1, none⟩ = some (.int .i64 t.seq) ∧ w'.cell? ⟨w.heap.size + 1, 2, none⟩ = some (.slice A' t.rds.length ca') ∧ w'.cell? ⟨w.heap.size + 1, 3, none⟩ = some (.slice B' t.wrs.length cb') ∧ Below wb.heap.size wb w')
      (first | exact ⟨c0, c1, d0, d1, d2, d3, below_drew (Below.refl _ _)⟩ | exact ⟨keep hb2 c0, keep hb2 c1, keep hb2 d0, keep hb2 d1, keep hb2 d2, keep hb2 d3, hb2⟩ | exact ⟨keep hb3 c0, keep hb3 c1, keep hb3 d0, keep hb3 d1, keep hb3 d2, keep hb3 d3, hb3⟩)
      (first
        | (go_at_call 61; refine (hKeys _ (ht.later (below_drew (Below.refl _ _)))).mono ?_; rintro e w2 ⟨K, ck, rfl, _, hK, hb⟩; have hb2 : Below wb.heap.size wb w2 := keepB (below_drew (Below.refl _ _)) hb)
        | (go_at_call 51; refine (groups_any c KK A B K ca cb ck _ (h.later hb2) hK hlen).mono ?_; rintro e w3 ⟨I, ci, rfl, hI, hb'⟩; have hb3 := keepB hb2 hb'))
    all_goals
      go_wp2
      go_ret
      rw [HE.out]
      exact ⟨I, ci, rfl, hI, keepB HB hb3⟩

set_option maxRecDepth 100000 in
set_option maxHeartbeats 4000000 in
theorem refGroups08_any (c : Cfg) (t : Tx) (A B A' B' : Option Addr) (ca cb ca' cb' : Nat) (w : World) (h : CfgAt w c A B) (ht : TxAt w t A' B') (hn : t.rds.length ≤ 12) (hm : t.wrs.length ≤ 12) (hc20 : c.reps.length ≤ 20) :
    Calls Tryd.prog 58 #[.agg #[.slice A c.reps.length ca, .slice B c.bnds.length cb], txV t A' B' ca' cb'] w (IntsPost w (groupsT c t)) := by
  unfold txV
  obtain ⟨W, eW, HB, c0, c1, d0, d1, d2, d3⟩ := box24 w (.slice A c.reps.length ca) (.slice B c.bnds.length cb) (.int .i64 t.ses) (.int .i64 t.seq) (.slice A' t.rds.length ca') (.slice B' t.wrs.length cb') 25 41
  have h := h.later HB
  have ht := ht.later HB
  have HE : Hid (groupsT c t = cutGr c t c.reps.length) := (cutGr_all c t).symm
  have HLN : Hid (∀ k, (cutGr c t k).length ≤ k) := cutGr_length c t
  obtain ⟨i0, hi, hz0, hz1, hz2⟩ := info_parts info_int
  go_enter Tryd.func58, Tryd.ntmps58
  go_wp2_with fail
  clear eW
  go_loopw [5, 6] (fun v i wr => ∃ k : Nat, k ≤ c.reps.length ∧ i = .int .i64 k ∧ Hid (wr.ownsRow W.heap.size 3 1 v (cutGr c t k).length ((cutGr c t k).map (Value.int .i64))) ∧ Below W.heap.size W wr) (fun _ i _ => c.reps.length - (intOf i).toNat)
  case atStart => exact ⟨0, Nat.zero_le _, rfl, own_nil _ _ _ _, Below.refl _ _⟩
  case round =>
    obtain ⟨k, hk, rfl, HO, hw⟩ := hrel
    have hl := HLN.out k
    have h := h.later hw
    have ht := ht.later hw
    have c0 := keep hw c0
    have c1 := keep hw c1
    have d0 := keep hw d0
    have d1 := keep hw d1
    have d2 := keep hw d2
    have d3 := keep hw d3
    by_cases hlt : k < c.reps.length
    · have HR := Lib.hid (refReads_any c t k A B A' B' ca cb ca' cb' · · · hn)
      have HW := Lib.hid (refWrites_any c t k A B A' B' ca cb ca' cb' · · · hm)
      have HS : Hid (cutGr c t (k + 1) = cutGr c t k ++ if anyIn c t k then [(k : Int)] else []) := cutGr_succ c t k
      have hx : (readsL c t k).length ≤ 12 := Nat.le_trans (List.length_filter_le _ _) hn
      have hy : (writesL c t k).length ≤ 12 := Nat.le_trans (List.length_filter_le _ _) hm
      have HA : Hid (anyIn c t k = decide ((0 : Int) < ((readsL c t k).length : Int) + ((writesL c t k).length : Int))) := by
        show _ = _
        unfold anyIn
        congr 1
        rw [eq_iff_iff]; omega
      obtain ⟨any, hany⟩ : ∃ r, Hid (anyIn c t k = r) := ⟨_, rfl⟩
      generalize hrl : readsL c t k = rl at *
      generalize hwl : writesL c t k = wl at *
      have hwr : IntKind.i64.wrap ((rl.length : Int) + (wl.length : Int)) = (rl.length : Int) + (wl.length : Int) := IntWalk.i64_in _ (by omega)
      have hq : decide ((0 : Int) < (rl.length : Int) + (wl.length : Int)) = any := by rw [← HA.out, hany.out]
      clear hx hy
      unfold txV at HR HW
      go_wp2_with fail
      go_region_held3 (fun w' => w'.cell? ⟨w.heap.size, 0, none⟩ = some (.slice A c.reps.length ca) ∧ w'.cell? ⟨w.heap.size, 1, none⟩ = some (.slice B c.bnds.length cb) ∧ w'.cell? ⟨w.heap.size + 1, 0, none⟩ = some (.int .i64 t.ses) ∧ w'.cell? ⟨w.heap.size + 1, 1, none⟩ = some (.int .i64 t.seq) ∧ w'.cell? ⟨w.heap.size + 1, 2, none⟩ = some (.slice A' t.rds.length ca') ∧ w'.cell? ⟨w.heap.size + 1, 3, none⟩ = some (.slice B' t.wrs.length cb') ∧ Below wr.heap.size wr w')
        (first | exact ⟨c0, c1, d0, d1, d2, d3, below_drew (Below.refl _ _)⟩ | exact ⟨keep hb2 c0, keep hb2 c1, keep hb2 d0, keep hb2 d1, keep hb2 d2, keep hb2 d3, hb2⟩ | exact ⟨keep hb3 c0, keep hb3 c1, keep hb3 d0, keep hb3 d1, keep hb3 d2, keep hb3 d3, hb3⟩)
        (first
          | (go_at_call 55; refine (HR.out _ (h.later (below_drew (Below.refl _ _))) (ht.later (below_drew (Below.refl _ _)))).mono ?_; rintro e w2 ⟨K, ck, rfl, _, hb, _⟩; have hb2 : Below wr.heap.size wr w2 := keepB (below_drew (Below.refl _ _)) hb)
          | (go_at_call 56; refine (HW.out _ (h.later hb2) (ht.later hb2)).mono ?_; rintro e w3 ⟨I, ci, rfl, _, hb', _⟩; have hb3 := keepB hb2 hb'))
      replace HO := Lib.hid (own_keep HO.out hb3)
      replace hw := keepB hw hb3
      clear hb3 hb2 hb hb' hwr HR HW
      cases any
      · go_wp2
        go_roundw
        case rel => exact ⟨k + 1, by omega, by go_num, by show World.ownsRow _ _ _ _ _ _ _; rw [HS.out, hany.out]; simpa using HO.out, hw⟩
        case measure => simp [intOf]; omega
      · go_wp2_with (at_builtin; refine wpList_append_own _ rfl _ _ 22 rfl W.heap.size 3 i0 (.int .i64 0) 1 8 Tryd.underlying22 hi hz0 hz1 hz2 rfl (by decide) _ _ _ rfl (own_keep HO.out (below1 _ _)) ⟨w3.heap.size, 0, none⟩ 1 1 [.int .i64 k] rfl rfl (cell_one_new _ _ _) one_cell_int (le_maxLen (by omega)) (by omega) (Nat.le_trans hw.size (below1 _ _).size) ?_; intro v3 w4 HO3 hg3 _; replace hw := own_below (hw.alloc hw.size _) (Nat.le_refl _) (own_keep HO.out (below1 _ _)) hg3; replace HO3 := Lib.hid HO3; clear hg3)
        go_roundw
        case rel => exact ⟨k + 1, by omega, by go_num, by show World.ownsRow _ _ _ _ _ _ _; rw [HS.out, hany.out]; simpa using HO3.out, hw⟩
        case measure => simp [intOf]; omega
    · have ek : k = c.reps.length := by omega
      go_wp2
      go_ret
      have := HO.out
      rw [ek, ← HE.out] at this
      obtain ⟨A', cap', rfl, _, hI⟩ := own_ints this
      exact ⟨A', cap', rfl, hI, keepB HB hw⟩
end Go.Proofs.YthpdladfcjcjiaaDoor
