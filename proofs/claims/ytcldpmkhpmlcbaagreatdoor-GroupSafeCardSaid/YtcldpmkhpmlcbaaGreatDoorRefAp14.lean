/- The reference's Apply. -/
import Derived.Test.YtcldpmkhpmlcbaaGreatDoorJ6
import Derived.Deep.AppendLies
set_option linter.unusedVariables false
set_option linter.unusedSimpArgs false
namespace Go.Proofs.YtcldpmkhpmlcbaaGreatDoor
open Go.RowKit Go.Maps Go.Shelf Go.Sort

def insW (n : Nat) (L : List It) (x : Wr) : List It := insF L ⟨x.key, x.val, n⟩
def insWs (n : Nat) (L : List It) (l : List Wr) : List It := l.foldl (insW n) L
theorem insWs_snoc (n : Nat) (L : List It) (l : List Wr) (x : Wr) : insWs n L (l ++ [x]) = insW n (insWs n L l) x := by simp [insWs, List.foldl_append]
theorem insF_len (L : List It) (x : It) : (insF L x).length = L.length + 1 := by
  rw [insF, List.length_append, List.length_cons]
  have e := congrArg List.length (List.takeWhile_append_dropWhile (p := fun y : It => lessS y.key x.key) (l := L))
  rw [List.length_append] at e
  omega
theorem insWs_len (n : Nat) : ∀ (l : List Wr) (L : List It), (insWs n L l).length = L.length + l.length
  | [], _ => rfl
  | x :: l, L => by
    have := insWs_len n l (insW n L x)
    rw [show insWs n L (x :: l) = insWs n (insW n L x) l from rfl, this, insW, insF_len, List.length_cons]
    omega
theorem insWs_items {m : KV} (h : RisesK m) (n : Nat) : ∀ l : List Wr, insWs n (items m) l = items (putWs n m l) := by
  intro l
  induction l generalizing m with
  | nil => rfl
  | cons x l ih =>
    rw [show insWs n (items m) (x :: l) = insWs n (insW n (items m) x) l from rfl, insW, insF_items h x.key ⟨n, x.val⟩]
    exact ih (putK_rises h _ _)
def rApplyL (L : List It) (last n : Nat) (l : List Wr) : List It := if n ≤ last then L else if wrsOK l then insWs n L l else L
def rLast (last n : Nat) (l : List Wr) : Nat := if n ≤ last then last else if wrsOK l then n else last
def rApplyE (last n : Nat) (l : List Wr) : Int := if n ≤ last then 1 else if wrsOK l then 0 else 2
def RApplyPost (w : World) (B q : Nat) (O : Nat → Prop) (L : List It) (last low n : Nat) (l : List Wr) (e : Ending) (w' : World) : Prop :=
  e = .returned (.int .i64 (rApplyE last n l)) ∧ RefAt w' B q (ext O w w') (rApplyL L last n l) (rLast last n l) low ∧ Out O w w'
theorem ins_at {L : List It} {k : ByteArray} {j : Nat} {x : It} (h : (L.take j).all (fun y => lessS y.key k) = true) (he : ∀ y, L[j]? = some y → lessS y.key k = false) (hk : x.key = k) : insF L x = L.take j ++ x :: L.drop j := by
  have e : L = L.take j ++ L.drop j := (List.take_append_drop j L).symm
  have hall : ∀ y ∈ L.take j, (fun y : It => lessS y.key x.key) y = true := fun y hy => by rw [hk]; exact List.all_eq_true.1 h y hy
  rw [insF]
  conv => lhs; rw [e]
  rw [takeWhile_append_all hall, dropWhile_append_all hall]
  have hd : (L.drop j).takeWhile (fun y => lessS y.key x.key) = [] ∧ (L.drop j).dropWhile (fun y => lessS y.key x.key) = L.drop j := by
    cases hdj : L.drop j with
    | nil => exact ⟨rfl, rfl⟩
    | cons y r =>
      have := he y (by rw [← List.head?_drop, hdj]; rfl)
      simp [hk, this]
  rw [hd.1, hd.2, List.append_nil]
set_option maxRecDepth 100000 in
set_option maxHeartbeats 8000000 in
theorem refApply_any {w : World} {B q : Nat} {O : Nat → Prop} {L : List It} {last low : Nat} (h : RefAt w B q O L last low) (hB : B ≤ w.heap.size) (n : Nat) (l : List Wr) (A : Option Addr) (ca : Nat) (hA : WrsAt w A l) (hAO : ∀ a, A = some a → 0 < l.length → ¬ O a.block) (hok : WrsOK l)
    (hI : L.length + l.length ≤ 800000) :
    Calls Tryz.prog 49 #[.pointer (some ⟨q, 0, none⟩), .int .u64 (n : Int), .slice A l.length ca] w (RApplyPost w B q O L last low n l) := by
  obtain ⟨i0, hi, hz0, hz1, hz2⟩ := info_parts info_it
  have HS := Lib.hid h
  obtain ⟨v, h⟩ := h
  have c1 := h.c1
  clear h
  by_cases hn : n ≤ last
  · have hl : ((n : Int) ≤ (last : Int)) := by omega
    have HE : Hid (rApplyE last n l = 1 ∧ rApplyL L last n l = L ∧ rLast last n l = last) := by show _ ∧ _ ∧ _; simp [rApplyE, rApplyL, rLast, hn]
    clear hn
    go_enter Tryz.func49, Tryz.ntmps49
    go_wp2
    go_ret
    refine ⟨ret_int14 HE.out.1, ?_, Out.refl _ _⟩
    rw [HE.out.2.1, HE.out.2.2]
    exact HS.out.stay (Below.refl _ _) hB
  · have hl : ¬ ((n : Int) ≤ (last : Int)) := by omega
    have HNN := Lib.hid hn
    clear hn
    cases hw : wrsOK l
    · have HW := Lib.hid hw
      have HE : Hid (rApplyE last n l = 2 ∧ rApplyL L last n l = L ∧ rLast last n l = last) := by show _ ∧ _ ∧ _; simp [rApplyE, rApplyL, rLast, HNN.out, hw]
      clear hw
      go_enter Tryz.func49, Tryz.ntmps49
      go_wp2_with (go_at_call 102; refine (calls_b14 HW.out (refFormed14_any l A ca _ hA hok (by omega))).mono ?_; rintro e w1 ⟨rfl, hb⟩)
      go_ret
      refine ⟨ret_int14 HE.out.1, ?_, Out.of_below hb⟩
      rw [HE.out.2.1, HE.out.2.2]
      exact HS.out.stay hb hB
    · have HW := Lib.hid hw
      have HE : Hid (rApplyE last n l = 0 ∧ rApplyL L last n l = insWs n L l ∧ rLast last n l = n) := by show _ ∧ _ ∧ _; simp [rApplyE, rApplyL, rLast, HNN.out, hw]
      clear hw
      go_enter Tryz.func49, Tryz.ntmps49
      go_wp2_with (go_at_call 102; refine (calls_b14 HW.out (refFormed14_any l A ca _ hA hok (by omega))).mono ?_; rintro e w1 ⟨rfl, hb⟩)
      go_loopw [7] (fun i wr => ∃ j : Nat, j ≤ l.length ∧ i = .int .i64 j ∧ Hid (RefAt wr B q (ext O w wr) (insWs n L (l.take j)) last low) ∧ Out O w wr) (fun i _ => l.length - (intOf i).toNat)
      case atStart => exact ⟨0, Nat.zero_le _, rfl, HS.out.stay hb hB, Out.of_below hb⟩
      case round =>
        obtain ⟨j, hj, rfl, HI, hout⟩ := hrel
        obtain ⟨wc, rfl⟩ : ∃ wc : World, wc = wr := ⟨_, rfl⟩
        obtain ⟨v2, h2⟩ := HI.out
        obtain ⟨L2, hL2⟩ : ∃ L2, Hid (insWs n L (l.take j) = L2) := ⟨_, rfl⟩
        rw [hL2.out] at h2
        have hL2n : L2.length ≤ 800000 := by rw [← hL2.out, insWs_len, List.length_take]; omega
        have c0 := h2.c0
        have c1 := h2.c1
        have f0 := h2.fz 0
        have f1 := h2.fz 1
        by_cases hlt : j < l.length
        · obtain ⟨b, off, x, z, m, tx, rfl, d0, d1, d2, d3, HX⟩ := (hA.out hout hAO).at' hlt
          have hki : (j : Int) < (l.length : Int) := by omega
          obtain ⟨K, cap, hv, hcap, hK⟩ := own_its h2.row
          have hKK : K = none ∨ ∃ g, K = some ⟨g, 0, none⟩ := by
            rcases h2.row.2 with ⟨e, _⟩ | ⟨g, _, _, e, _⟩
            · rw [hv] at e; injection e with e; exact .inl e
            · rw [hv] at e; injection e with e; exact .inr ⟨_, e⟩
          replace hKK := Lib.hid hKK
          have HV := Lib.hid hv
          rw [hv] at c0
          clear hv
          go_wp2
          go_loopw [8, 9] (fun u i wr => ∃ k : Nat, k ≤ L2.length ∧ i = .int .i64 k ∧ Hid ((L2.take k).all (fun y => lessS y.key x) = true) ∧ Hid (wr.ownsRow wc.heap.size 128 5 u k (itCs (L2.take k))) ∧ Below wc.heap.size wc wr) (fun _ i _ => L2.length - (intOf i).toNat)
          case atStart => exact ⟨0, Nat.zero_le _, rfl, rfl, own_nil _ _ _ _, Below.refl _ _⟩
          case round =>
            obtain ⟨k, hk, rfl, HA, HO, hw⟩ := hrel
            obtain ⟨wi, rfl⟩ : ∃ wi : World, wi = wr := ⟨_, rfl⟩
            have c0k := c0
            replace c0 := keep hw c0
            replace c1 := keep hw c1
            have d0k := d0
            have d1k := d1
            have d2k := d2
            have d3k := d3
            replace d0 := keep hw d0
            replace d1 := keep hw d1
            replace d2 := keep hw d2
            replace d3 := keep hw d3
            have HD : Hid (∀ w', Below wc.heap.size wc w' → w'.cell? ⟨b, off + j * 4, none⟩ = some (.string x) ∧ w'.cell? ⟨b, off + j * 4 + 1, none⟩ = some (.int .i64 z) ∧ w'.cell? ⟨b, off + j * 4 + 1 + 1, none⟩ = some (.int .u64 (m : Int)) ∧ w'.cell? ⟨b, off + j * 4 + 1 + 2, none⟩ = some (.string tx)) :=
              fun w' hb => ⟨keep hb d0k, keep hb d1k, keep hb d2k, keep hb d3k⟩
            have HC : Hid (∀ w', Below wc.heap.size wc w' → w'.cell? ⟨q, 0, none⟩ = some (.slice K L2.length cap) ∧ w'.frozen? ⟨q, 0, none⟩ = false) :=
              fun w' hb => ⟨keep hb c0k, by rw [hb.frozen (p := ⟨q, 0, none⟩) (blk_lt c0k)]; exact f0⟩
            clear d0k d1k d2k d3k c0k
            by_cases hkl : k < L2.length
            · obtain ⟨b', off', y, yz, ym, yt, yn, rfl, e0, e1, e2, e3, e4, HY⟩ := (hK.later hw).at' hkl
              have hki2 : (k : Int) < (L2.length : Int) := by omega
              cases hl : lessS y x
              · have hl' : Op.bytesLess y.toList x.toList = false := hl
                have HE2 : Hid (∀ y', L2[k]? = some y' → lessS y'.key x = false) := fun y' hy => by
                  have : L2.getD k noIt = y' := by rw [List.getD_eq_getElem?_getD, hy]; rfl
                  rw [HY.out] at this; rw [← this]; exact hl
                clear hl
                have hck : ¬ (cap = k) := by omega
                have hbd1 : (0 : Int) ≤ (k : Int) := by omega
                have hbd2 : (k : Int) ≤ (L2.length : Int) := by omega
                go_wp2
                go_quiet (fail)
                go_wp2
                generalize hwj : wi.drewN _ = wj
                have hw2 : Below wc.heap.size wc wj := hwj ▸ below_drewN hw _
                have HO2 : Hid (wj.ownsRow wc.heap.size 128 5 u8 k (itCs (L2.take k))) := by rw [← hwj]; exact HO
                clear hwj
                go_region_held3 (fun w' => w'.cell? ⟨b, off + j * 4, none⟩ = some (.string x) ∧ w'.cell? ⟨b, off + j * 4 + 1, none⟩ = some (.int .i64 z) ∧ w'.cell? ⟨b, off + j * 4 + 1 + 1, none⟩ = some (.int .u64 (m : Int)) ∧ w'.cell? ⟨b, off + j * 4 + 1 + 2, none⟩ = some (.string tx))
                  (first | exact HD.out _ (keepB hw2 (below_drew (Below.refl _ _))) | exact HD.out _ (keepB hw2 (below_drew (below1 _ _))) | exact HD.out _ hbw3)
                  ((refine step_append_lies _ (by rfl) _ _ 119 (by rfl) wc.heap.size 128 i0 _ 5 56 Tryz.underlying119 hi hz0 hz1 hz2 rfl (by decide) u8 k (itCs (L2.take k)) (by rfl) (own_keep HO2.out (below_drew (below1 _ _))) ⟨wj.heap.size, 0, none⟩ 1 1 (itC ⟨x, ⟨z, m, tx⟩, n⟩) (by rfl) rfl (World.news_of_block (heap_alloc_new wj _)) (itC_one _) (by decide) (le_maxLen (by omega)) (by omega) (Nat.le_trans hw2.size (below_drew (below1 _ _)).size) _ rfl ?_; intro g3 cap3 w3 hown3 hgr3 hat3 hlt3; have hbw3 : Below wc.heap.size wc w3 := own_below (keepB hw2 (below_drew (below1 wj _))) (Nat.le_refl _) (own_keep HO2.out (below_drew (below1 wj _))) hgr3))
                all_goals
                  have c0' := (HC.out _ hbw3).1
                  replace hown3 := Lib.hid hown3
                  clear hgr3 hat3 hlt3
                  go_wp2_with (at_builtin; refine wpList_append_row rfl _ _ 119 rfl wc.heap.size 128 i0 _ 5 56 Tryz.underlying119 hi hz0 hz1 hz2 rfl (by decide) (.slice (some ⟨g3, 0, none⟩) (k + 1) cap3) (k + 1) (itCs (L2.take k) ++ itC ⟨x, ⟨z, m, tx⟩, n⟩) rfl hown3.out (some ⟨b', off' + k * 5, none⟩) (L2.length - k) (cap - k) (itCs (L2.drop k)) rfl (by rw [itCs_len, List.length_drop]) (fun e => by cases e) (its_news (hK.later hbw3) k) (itCs_one _) (le_maxLen (by omega)) (by omega) hbw3.size ?_; intro v4 w4 hown4 hgr4 _; have hbw4 : Below wc.heap.size wc w4 := own_below hbw3 (Nat.le_refl _) hown3.out hgr4; obtain ⟨g4, cap4, e4, _⟩ := World.ownsRow.form hown4 (by omega); subst e4; replace hown4 := Lib.hid hown4; obtain ⟨c0w, f0w⟩ := (HC.out _ hbw4); clear hgr4)
                  go_roundw
                  case rel =>
                    have hT4 : insW n L2 ⟨x, ⟨z, m, tx⟩⟩ = L2.take k ++ ⟨x, ⟨z, m, tx⟩, n⟩ :: L2.drop k := ins_at HA.out HE2.out rfl
                    have hT5 : insWs n L (l.take (j + 1)) = insW n L2 ⟨x, ⟨z, m, tx⟩⟩ := by
                      have e : l.getD j noWr = l[j] := by rw [List.getD_eq_getElem?_getD, List.getElem?_eq_getElem hlt]; rfl
                      rw [List.take_succ_eq_append_getElem hlt, insWs_snoc, hL2.out, ← e, HX.out]
                    have hl4 : (insW n L2 ⟨x, ⟨z, m, tx⟩⟩).length = k + 1 + (L2.length - k) := by rw [insW, insF_len]; omega
                    have hr4 := hown4.out
                    rw [← hl4] at hr4
                    have hc4 : itCs (insW n L2 ⟨x, ⟨z, m, tx⟩⟩) = itCs (L2.take k) ++ itC ⟨x, ⟨z, m, tx⟩, n⟩ ++ itCs (L2.drop k) := by rw [hT4]; simp [itCs]
                    rw [← hc4] at hr4
                    have hset := RefIn.setList h2 hbw4 hr4
                    rw [hl4] at hset
                    have hsz4 := hbw4.size
                    refine ⟨j + 1, by omega, by go_num, ?_, hout.trans (((Out.of_below hbw4).trans' ((out_set w4 q 0 _).mono fun k e => by rw [e]; exact h2.hq)))⟩
                    rw [ext_eq hout.size (Nat.le_trans hbw4.size (out_set w4 q 0 _).size)] at hset
                    rw [hT5]
                    exact ⟨_, hset⟩
                  case measure => simp [intOf]; omega
              · have hl' : Op.bytesLess y.toList x.toList = true := hl
                have HR : Hid ((L2.take (k + 1)).all (fun y => lessS y.key x) = true) := all_next hkl HY.out hl HA.out
                have HT2 : Hid (L2.take (k + 1) = L2.take k ++ [⟨y, ⟨yz, ym, yt⟩, yn⟩]) := by
                  show _ = _
                  have e : L2.getD k noIt = L2[k] := by rw [List.getD_eq_getElem?_getD, List.getElem?_eq_getElem hkl]; rfl
                  rw [List.take_succ_eq_append_getElem hkl, ← e, HY.out]
                clear hl
                go_wp2
                go_quiet (fail)
                go_wp2_with (at_builtin; refine wpList_append_own_at _ rfl _ _ 119 rfl wc.heap.size 128 i0 _ 5 56 Tryz.underlying119 hi hz0 hz1 hz2 rfl (by decide) _ _ _ rfl (own_keep HO.out (below_drewN (below1 _ _) _)) ⟨wi.heap.size, 0, none⟩ 1 1 (itC ⟨y, ⟨yz, ym, yt⟩, yn⟩) rfl rfl (World.news_of_block (heap_alloc_new wi _)) (itC_one _) (le_maxLen (by omega)) (by omega) (Nat.le_trans hw.size (below_drewN (below1 _ _) _).size) ?_; intro v3 w3 HO3 hg3 _ _)
                have hb3 := own_below (keepB hw (below_drewN (below1 wi _) _)) (Nat.le_refl _) (own_keep HO.out (below_drewN (below1 wi _) _)) hg3
                go_roundw
                case rel =>
                  refine ⟨k + 1, by omega, by go_num, HR, ?_, hb3⟩
                  show World.ownsRow _ _ _ _ _ _ _
                  rw [HT2.out, itCs_append]
                  exact HO3
                case measure => simp [intOf]; omega
            · obtain rfl : k = L2.length := by omega
              have hfull := HA.out
              rw [List.take_length] at hfull
              replace hfull := Lib.hid hfull
              rw [List.take_length] at HO
              clear HA
              have hbd1 : (0 : Int) ≤ (L2.length : Int) := by omega
              rcases hKK.out with rfl | ⟨g', rfl⟩ <;> by_cases hck : cap = L2.length
              all_goals
                go_wp2
                go_quiet (fail)
                go_wp2
                generalize hwj : wi.drewN _ = wj
                have hw2 : Below wc.heap.size wc wj := hwj ▸ below_drewN hw _
                have HO2 : Hid (wj.ownsRow wc.heap.size 128 5 u8 L2.length (itCs L2)) := by rw [← hwj]; exact HO
                clear hwj
                go_region_held3 (fun w' => w'.cell? ⟨b, off + j * 4, none⟩ = some (.string x) ∧ w'.cell? ⟨b, off + j * 4 + 1, none⟩ = some (.int .i64 z) ∧ w'.cell? ⟨b, off + j * 4 + 1 + 1, none⟩ = some (.int .u64 (m : Int)) ∧ w'.cell? ⟨b, off + j * 4 + 1 + 2, none⟩ = some (.string tx))
                  (first | exact HD.out _ (keepB hw2 (below_drew (Below.refl _ _))) | exact HD.out _ (keepB hw2 (below_drew (below1 _ _))) | exact HD.out _ hbw3)
                  ((refine step_append_lies _ (by rfl) _ _ 119 (by rfl) wc.heap.size 128 i0 _ 5 56 Tryz.underlying119 hi hz0 hz1 hz2 rfl (by decide) u8 L2.length (itCs L2) (by rfl) (own_keep HO2.out (below_drew (below1 _ _))) ⟨wj.heap.size, 0, none⟩ 1 1 (itC ⟨x, ⟨z, m, tx⟩, n⟩) (by rfl) rfl (World.news_of_block (heap_alloc_new wj _)) (itC_one _) (by decide) (le_maxLen (by omega)) (by omega) (Nat.le_trans hw2.size (below_drew (below1 _ _)).size) _ rfl ?_; intro g3 cap3 w3 hown3 hgr3 hat3 hlt3; have hbw3 : Below wc.heap.size wc w3 := own_below (keepB hw2 (below_drew (below1 wj _))) (Nat.le_refl _) (own_keep HO2.out (below_drew (below1 wj _))) hgr3))
                all_goals
                  have c0' := (HC.out _ hbw3).1
                  replace hown3 := Lib.hid hown3
                  clear hgr3 hat3 hlt3
                  go_wp2_with (at_builtin; refine wpList_append_row rfl _ _ 119 rfl wc.heap.size 128 i0 _ 5 56 Tryz.underlying119 hi hz0 hz1 hz2 rfl (by decide) (.slice (some ⟨g3, 0, none⟩) (L2.length + 1) cap3) (L2.length + 1) (itCs L2 ++ itC ⟨x, ⟨z, m, tx⟩, n⟩) rfl hown3.out _ 0 _ [] rfl rfl (fun _ => rfl) (fun _ _ j u hu => by simp at hu) (fun u hu => by simp at hu) (le_maxLen (by omega)) (by omega) hbw3.size ?_; intro v4 w4 hown4 hgr4 _; have hbw4 : Below wc.heap.size wc w4 := own_below hbw3 (Nat.le_refl _) hown3.out hgr4; obtain ⟨g4, cap4, e4, _⟩ := World.ownsRow.form hown4 (by omega); subst e4; replace hown4 := Lib.hid hown4; obtain ⟨c0w, f0w⟩ := (HC.out _ hbw4); clear hgr4)
                  go_roundw
                  case rel =>
                    have hT4 : insW n L2 ⟨x, ⟨z, m, tx⟩⟩ = L2 ++ [⟨x, ⟨z, m, tx⟩, n⟩] := by
                      have := ins_at (L := L2) (k := x) (j := L2.length) (x := ⟨x, ⟨z, m, tx⟩, n⟩) (by rw [List.take_length]; exact hfull.out) (fun y hy => by simp at hy) rfl
                      rw [List.take_length, List.drop_length] at this
                      exact this
                    have hT5 : insWs n L (l.take (j + 1)) = insW n L2 ⟨x, ⟨z, m, tx⟩⟩ := by
                      have e : l.getD j noWr = l[j] := by rw [List.getD_eq_getElem?_getD, List.getElem?_eq_getElem hlt]; rfl
                      rw [List.take_succ_eq_append_getElem hlt, insWs_snoc, hL2.out, ← e, HX.out]
                    have hl4 : (insW n L2 ⟨x, ⟨z, m, tx⟩⟩).length = L2.length + 1 + 0 := by rw [insW, insF_len]
                    have hr4 := hown4.out
                    rw [← hl4] at hr4
                    have hc4 : itCs (insW n L2 ⟨x, ⟨z, m, tx⟩⟩) = itCs L2 ++ itC ⟨x, ⟨z, m, tx⟩, n⟩ ++ [] := by rw [hT4]; simp [itCs]
                    rw [← hc4] at hr4
                    have hset := RefIn.setList h2 hbw4 hr4
                    rw [hl4] at hset
                    have hsz4 := hbw4.size
                    refine ⟨j + 1, by omega, by go_num, ?_, hout.trans (((Out.of_below hbw4).trans' ((out_set w4 q 0 _).mono fun k e => by rw [e]; exact h2.hq)))⟩
                    rw [ext_eq hout.size (Nat.le_trans hbw4.size (out_set w4 q 0 _).size)] at hset
                    rw [hT5]
                    exact ⟨_, hset⟩
                  case measure => simp [intOf]; omega
        · have ej : j = l.length := by omega
          have HL := Lib.hid (h2.setLast n)
          have HE2 : Hid (insWs n L l = L2) := by show _ = _; rw [← hL2.out, ej, List.take_length]
          clear hlt
          go_wp2
          go_ret
          refine ⟨ret_int14 HE.out.1, ?_, hout.trans ((out_set wc q 1 _).mono fun k e => by rw [e]; exact h2.hq)⟩
          · rw [HE.out.2.1, HE.out.2.2, HE2.out]
            have e1 : ext O w (wc.setCell ⟨q, 1, none⟩ (.int .u64 (n : Int))) = ext O w wc := funext fun k => by simp [ext]
            rw [e1]
            exact ⟨v2, HL.out⟩
end Go.Proofs.YtcldpmkhpmlcbaaGreatDoor
