/- The reference's Get. -/
import Derived.Test.YtboiafchmdflpaaGreatDoorG6
namespace Go.Proofs.YtboiafchmdflpaaGreatDoor
open Go.RowKit Go.Maps

def rGetV (L : List It) (low : Nat) (k : ByteArray) (n : Nat) : Ver := if n < low then noVer else seenF L k n
def rOldE (low n : Nat) : Int := if n < low then 9 else 0
set_option maxRecDepth 100000 in
set_option maxHeartbeats 4000000 in
theorem refGet_any {w : World} {B q : Nat} {O : Nat → Prop} {L : List It} {last low : Nat} (h : RefAt w B q O L last low) (k : ByteArray) (n : Nat) (hn : L.length ≤ 900000) :
    Calls Tryz.prog 22 #[.pointer (some ⟨q, 0, none⟩), .string k, .int .u64 (n : Int)] w (GetPost w (rGetV L low k n) (rOldE low n)) := by
  obtain ⟨W, eW, HB, hsz, hrow⟩ := new3 w (.int .i64 0) (.int .u64 0) (.string { data := #[] }) 53
  replace h := h.later HB
  have HS := Lib.hid h
  obtain ⟨vv, h⟩ := h
  have c2 := h.c2
  clear h
  obtain ⟨v, hv⟩ : ∃ v, Hid (seenF L k n = v) := ⟨_, rfl⟩
  obtain ⟨y0, y1, y2, f0, f1, f2⟩ := cells3 hrow
  have HR := Lib.hid hrow
  clear hrow
  by_cases hlow : n < low
  · have hl : ((n : Int) < (low : Int)) := by omega
    have HV : Hid (rGetV L low k n = noVer) := by show _ = _; rw [rGetV, if_pos hlow]
    have HE : Hid (rOldE low n = 9) := by show _ = _; rw [rOldE, if_pos hlow]
    clear hlow
    go_enter Tryz.func22, Tryz.ntmps22
    go_wp2
    obtain ⟨z0, z1, z2, _⟩ := cells3 (set3_cells HR.out (.int .i64 0) (.int .u64 0) (.string { data := #[] }))
    refine bodyPost_ret (v := .tuple #[.agg #[.int .i64 0, .int .u64 0, .string { data := #[] }], .int .u64 0, .int .i64 9]) (by simp [results, Tryz.results22, go_sem, z0, z1, z2]) rfl ⟨?_, ?_⟩
    · rw [HV.out, HE.out]; rfl
    · exact ((HB.setCell (Nat.le_refl _) _).setCell (Nat.le_refl _) _).setCell (Nat.le_refl _) _
  · have hl : ¬ ((n : Int) < (low : Int)) := by omega
    have HV : Hid (rGetV L low k n = v) := by show _ = _; rw [rGetV, if_neg hlow]; exact hv.out
    have HE : Hid (rOldE low n = 0) := by show _ = _; rw [rOldE, if_neg hlow]
    clear hlow
    have HSee : Hid (∀ wz, Below W.heap.size W wz → Calls Tryz.prog 52 #[.pointer (some ⟨q, 0, none⟩), .string k, .int .u64 (n : Int)] wz (RSeenPost wz v)) := fun wz hz => by
      have := refSeen_any (HS.out.later hz) k n hn
      rw [hv.out] at this
      exact this
    go_enter Tryz.func22, Tryz.ntmps22
    go_wp2_with (go_at_call 52; refine (HSee.out _ (Below.refl _ _)).mono ?_; rintro e w1 ⟨rfl, hb⟩; obtain ⟨W2, eW2, HB2, hsz2, hrow2⟩ := new3 w1 (.int .i64 v.val.kind) (.int .u64 (v.val.bits : Int)) (.string v.val.text) 53; obtain ⟨x0, x1, x2, _⟩ := cells3 hrow2; have HR2 := Lib.hid (obj_later (obj_later HR.out hb) HB2); obtain ⟨u0, u1, u2, g0, g1, g2⟩ := cells3 HR2.out; clear hrow2 y0 y1 y2 f0 f1 f2)
    have hne0 : True := trivial
    have hne : ¬ (w1.heap.size = w.heap.size) := by have := hb.size; omega
    have hne2 : ¬ (w.heap.size = w1.heap.size) := by have := hb.size; omega
    obtain ⟨z0, z1, z2, _⟩ := cells3 (set3_cells HR2.out (.int .i64 v.val.kind) (.int .u64 (v.val.bits : Int)) (.string v.val.text))
    refine bodyPost_ret (v := .tuple #[.agg #[.int .i64 v.val.kind, .int .u64 (v.val.bits : Int), .string v.val.text], .int .u64 (v.num : Int), .int .i64 0]) (by simp [results, Tryz.results22, go_sem, z0, z1, z2]) rfl ⟨?_, ?_⟩
    · rw [HV.out, HE.out]
    · exact ((((keepB (keepB HB hb) HB2).setCell (Nat.le_refl _) _).setCell (Nat.le_refl _) _).setCell (Nat.le_refl _) _)
end Go.Proofs.YtboiafchmdflpaaGreatDoor
/- The reference's needed. -/
namespace Go.Proofs.YtboiafchmdflpaaGreatDoor
open Go.RowKit Go.Maps

def needF (L : List It) (low : Nat) (x : It) : Bool := decide (low < x.num) || (decide (x.num = (seenF L x.key low).num) && !decide (x.val.kind = 0))
theorem needF_items {m : KV} (h : RisesK m) (low : Nat) (x : It) : needF (items m) low x = needV (getK m x.key) low ⟨x.num, x.val⟩ := by rw [needF, needV, seenF_items h]
theorem new5 (w : World) (u v x y z : Value) (t : TypeId) : ∃ W : World, w.alloc (.cells #[u, v, x, y, z] t) = W ∧ Below w.heap.size w W ∧ W.heap.size = w.heap.size + 1 ∧ W.heap[w.heap.size]? = some (.cells #[u, v, x, y, z] t (0, 0)) :=
  ⟨_, rfl, below1 _ _, by simp, heap_alloc_new w _⟩
theorem cells5 {w : World} {g : Nat} {u v x y z : Value} {t : TypeId} (h : w.heap[g]? = some (.cells #[u, v, x, y, z] t (0, 0))) : w.cell? ⟨g, 0, none⟩ = some u ∧ w.cell? ⟨g, 1, none⟩ = some v ∧ w.cell? ⟨g, 2, none⟩ = some x ∧ w.cell? ⟨g, 3, none⟩ = some y ∧ w.cell? ⟨g, 4, none⟩ = some z := by
  refine ⟨?_, ?_, ?_, ?_, ?_⟩ <;> (rw [cell_of_row w g _ _ _ _ h]; rfl)
def itV (x : It) : Value := .agg #[.string x.key, .int .i64 x.val.kind, .int .u64 (x.val.bits : Int), .string x.val.text, .int .u64 (x.num : Int)]
theorem ret_bool_by {w w' : World} {z x : Bool} (h : z = x) (hb : Below w.heap.size w w') : (Ending.returned (.bool z) = Ending.returned (.bool x)) ∧ Below w.heap.size w w' := ⟨by rw [h], hb⟩
set_option maxRecDepth 100000 in
set_option maxHeartbeats 4000000 in
theorem refNeed_any {w : World} {B q : Nat} {O : Nat → Prop} {L : List It} {last low : Nat} (h : RefAt w B q O L last low) (x : It) (n : Nat) (hn : L.length ≤ 900000) :
    Calls Tryz.prog 50 #[.pointer (some ⟨q, 0, none⟩), itV x, .int .u64 (n : Int)] w fun e w' => e = .returned (.bool (needF L n x)) ∧ Below w.heap.size w w' := by
  obtain ⟨W, eW, HB, hsz, hrow⟩ := new5 w (.string x.key) (.int .i64 x.val.kind) (.int .u64 (x.val.bits : Int)) (.string x.val.text) (.int .u64 (x.num : Int)) 76
  obtain ⟨y0, y1, y2, y3, y4⟩ := cells5 hrow
  clear hrow
  have HS := Lib.hid (h.later HB)
  clear h
  obtain ⟨v, hv⟩ : ∃ v, Hid (seenF L x.key n = v) := ⟨_, rfl⟩
  have HF : Hid (needF L n x = (decide (n < x.num) || (decide (x.num = v.num) && !decide (x.val.kind = 0)))) := by show _ = _; rw [needF, hv.out]
  have HSee : Hid (∀ wz, Below W.heap.size W wz → Calls Tryz.prog 52 #[.pointer (some ⟨q, 0, none⟩), .string x.key, .int .u64 (n : Int)] wz (RSeenPost wz v)) := fun wz hz => by
    have := refSeen_any (HS.out.later hz) x.key n hn
    rw [hv.out] at this
    exact this
  unfold itV
  go_enter Tryz.func50, Tryz.ntmps50
  go_wp2_with (go_at_call 52; refine (HSee.out _ (Below.refl _ _)).mono ?_; rintro e w1 ⟨rfl, hb⟩; obtain ⟨W2, eW2, HB2, hsz2, hrow2⟩ := new3 w1 (.int .i64 v.val.kind) (.int .u64 (v.val.bits : Int)) (.string v.val.text) 53; replace y0 := keep HB2 (keep hb y0); replace y1 := keep HB2 (keep hb y1); replace y2 := keep HB2 (keep hb y2); replace y3 := keep HB2 (keep hb y3); replace y4 := keep HB2 (keep hb y4); have HW := keepB (keepB HB hb) HB2; clear hrow2)
  all_goals
    go_ret
    exact ⟨by rw [HF.out]; (by_cases q1 : n < x.num <;> by_cases q2 : x.num = v.num <;> by_cases q3 : x.val.kind = 0 <;> simp [q1, q2, q3] <;> omega), HW⟩
end Go.Proofs.YtboiafchmdflpaaGreatDoor
/- The reference's Collect. -/
namespace Go.Proofs.YtboiafchmdflpaaGreatDoor
open Go.RowKit Go.Maps

def rColOK (last low n : Nat) : Bool := decide (low ≤ n) && decide (n ≤ last)
def rColL (L : List It) (last low n : Nat) : List It := if rColOK last low n then L.filter (needF L n) else L
def rColLow (last low n : Nat) : Nat := if rColOK last low n then n else low
def rColN (L : List It) (last low n : Nat) : Int := if rColOK last low n then (L.length : Int) - ((L.filter (needF L n)).length : Int) else 0
def rColE (last low n : Nat) : Int := if rColOK last low n then 0 else 1
theorem rColL_items {s : StD} (h : StOK s) (n : Nat) : rColL (items s.ks) s.last s.low n = items (colS s n).ks := by
  rw [rColL, colS, show rColOK s.last s.low n = colOK s n from rfl]
  split
  · rw [← items_colK h.rises h.falls]
    exact List.filter_congr fun x _ => needF_items h.rises n x
  · rfl
def RColPost (w : World) (B q : Nat) (O : Nat → Prop) (L : List It) (last low n : Nat) (e : Ending) (w' : World) : Prop :=
  e = .returned (.tuple #[.int .i64 (rColN L last low n), .int .i64 (rColE last low n)]) ∧ RefAt w' B q (ext O w w') (rColL L last low n) last (rColLow last low n) ∧ Out O w w'
theorem filter_yes {L : List It} {p : It → Bool} {k : Nat} {x : It} (hk : k < L.length) (hx : L.getD k noIt = x) (hp : p x = true) : (L.take (k + 1)).filter p = (L.take k).filter p ++ [x] := by
  have e : L[k] = x := by rw [← hx, List.getD_eq_getElem?_getD, List.getElem?_eq_getElem hk]; rfl
  rw [List.take_succ_eq_append_getElem hk, e, List.filter_append, List.filter_cons_of_pos hp]; rfl
theorem filter_no {L : List It} {p : It → Bool} {k : Nat} {x : It} (hk : k < L.length) (hx : L.getD k noIt = x) (hp : p x = false) : (L.take (k + 1)).filter p = (L.take k).filter p := by
  have e : L[k] = x := by rw [← hx, List.getD_eq_getElem?_getD, List.getElem?_eq_getElem hk]; rfl
  rw [List.take_succ_eq_append_getElem hk, e, List.filter_append, List.filter_cons_of_neg (by rw [hp]; decide)]
  simp
set_option maxRecDepth 100000 in
set_option maxHeartbeats 4000000 in
theorem refCol_any {w : World} {B q : Nat} {O : Nat → Prop} {L : List It} {last low : Nat} (h : RefAt w B q O L last low) (hB : B ≤ w.heap.size) (n : Nat) (hI : L.length ≤ 800000) :
    Calls Tryz.prog 20 #[.pointer (some ⟨q, 0, none⟩), .int .u64 (n : Int)] w (RColPost w B q O L last low n) := by
  obtain ⟨i0, hi, hz0, hz1, hz2⟩ := info_parts info_it
  have HS := Lib.hid h
  obtain ⟨v, h⟩ := h
  have c0 := h.c0
  have c1 := h.c1
  have c2 := h.c2
  have f0 := h.fz 0
  have f2 := h.fz 2
  by_cases hlo : n < low
  · have q1 : ((n : Int) < (low : Int)) := by omega
    have HE : Hid (rColOK last low n = false) := by show _ = _; rw [rColOK, decide_eq_false (by omega)]; rfl
    clear hlo h
    go_enter Tryz.func20, Tryz.ntmps20
    go_wp2
    go_ret2
    refine ⟨by rw [rColN, rColE, HE.out]; rfl, ?_, Out.refl _ _⟩
    rw [rColL, rColLow, HE.out]
    exact HS.out.stay (Below.refl _ _) hB
  · have q1 : ¬ ((n : Int) < (low : Int)) := by omega
    by_cases hhi : last < n
    · have q2 : ((last : Int) < (n : Int)) := by omega
      have HE : Hid (rColOK last low n = false) := by show _ = _; rw [rColOK, decide_eq_false (p := n ≤ last) (by omega), Bool.and_false]
      clear hlo hhi h
      go_enter Tryz.func20, Tryz.ntmps20
      go_wp2
      go_ret2
      refine ⟨by rw [rColN, rColE, HE.out]; rfl, ?_, Out.refl _ _⟩
      rw [rColL, rColLow, HE.out]
      exact HS.out.stay (Below.refl _ _) hB
    · have q2 : ¬ ((last : Int) < (n : Int)) := by omega
      have HE : Hid (rColOK last low n = true) := by show _ = _; rw [rColOK, decide_eq_true (p := low ≤ n) (by omega), decide_eq_true (by omega)]; rfl
      clear hlo hhi
      obtain ⟨K, cap, hvv, hcap, hK⟩ := own_its h.row
      have HH := Lib.hid h
      subst hvv
      clear h
      go_enter Tryz.func20, Tryz.ntmps20
      go_wp2
      go_loopw [6, 7] (fun u i wr => ∃ k : Nat, k ≤ L.length ∧ i = .int .i64 k ∧ Hid (wr.ownsRow w.heap.size 76 5 u ((L.take k).filter (needF L n)).length (itCs ((L.take k).filter (needF L n)))) ∧ Below w.heap.size w wr) (fun _ i _ => L.length - (intOf i).toNat)
      case atStart => exact ⟨0, Nat.zero_le _, rfl, own_nil _ _ _ _, Below.refl _ _⟩
      case round =>
        obtain ⟨k, hk, rfl, HO, hw⟩ := hrel
        obtain ⟨wi, rfl⟩ : ∃ wi : World, wi = wr := ⟨_, rfl⟩
        replace f0 : wi.frozen? ⟨q, 0, none⟩ = false := by rw [hw.frozen (p := ⟨q, 0, none⟩) (blk_lt c0)]; exact f0
        replace f2 : wi.frozen? ⟨q, 2, none⟩ = false := by rw [hw.frozen (p := ⟨q, 2, none⟩) (blk_lt c2)]; exact f2
        replace c0 := keep hw c0
        replace c1 := keep hw c1
        replace c2 := keep hw c2
        obtain ⟨T, hT⟩ : ∃ T, Hid ((L.take k).filter (needF L n) = T) := ⟨_, rfl⟩
        rw [hT.out] at HO
        have hTl : T.length ≤ L.length := by
          rw [← hT.out]
          exact Nat.le_trans (List.length_filter_le ..) (by rw [List.length_take]; omega)
        obtain ⟨A4, c4, hform, _, _⟩ := own_its HO.out
        subst hform
        by_cases hlt : k < L.length
        · obtain ⟨b', off', y, yz, ym, yt, yn, rfl, e0, e1, e2, e3, e4, HY⟩ := (hK.later hw).at' hlt
          have hki : (k : Int) < (L.length : Int) := by omega
          have hnd := refNeed_any (HS.out.later hw) ⟨y, ⟨yz, ym, yt⟩, yn⟩ n (by omega)
          unfold itV at hnd
          cases hc : needF L n ⟨y, ⟨yz, ym, yt⟩, yn⟩
          · rw [hc] at hnd
            have HN := Lib.hid hnd
            have HF : Hid ((L.take (k + 1)).filter (needF L n) = T) := (filter_no hlt HY.out hc).trans hT.out
            clear hnd hc
            go_wp2_with (go_at_call 50; refine HN.out.mono ?_; rintro e w3 ⟨rfl, hb3⟩; have HO3 := Lib.hid (own_keep HO.out hb3))
            go_roundw
            case rel =>
              refine ⟨k + 1, by omega, by go_num, ?_, keepB hw hb3⟩
              rw [HF.out]
              exact HO3
            case measure => simp [intOf]; omega
          · rw [hc] at hnd
            have HN := Lib.hid hnd
            have HF : Hid ((L.take (k + 1)).filter (needF L n) = T ++ [⟨y, ⟨yz, ym, yt⟩, yn⟩]) := by show _ = _; rw [filter_yes hlt HY.out hc, hT.out]
            clear hnd hc
            go_wp2_with (first
              | (go_at_call 50; refine HN.out.mono ?_; rintro e w3 ⟨rfl, hb3⟩; have HO3 := Lib.hid (own_keep HO.out hb3); have hw3 := keepB hw hb3; replace c0 := keep hb3 c0; replace e0 := keep hb3 e0; replace e1 := keep hb3 e1; replace e2 := keep hb3 e2; replace e3 := keep hb3 e3; replace e4 := keep hb3 e4)
              | (at_builtin; refine wpList_append_own_at _ rfl _ _ 28 rfl w.heap.size 76 i0 _ 5 56 Tryz.underlying28 hi hz0 hz1 hz2 rfl (by decide) (.slice A4 T.length c4) T.length (itCs T) rfl (own_keep HO3.out (below1 _ _)) ⟨w3.heap.size, 0, none⟩ 1 1 (itC ⟨y, ⟨yz, ym, yt⟩, yn⟩) rfl rfl (World.news_of_block (heap_alloc_new w3 _)) (itC_one _) (le_maxLen (by omega)) (by omega) (Nat.le_trans hw3.size (below1 _ _).size) ?_; intro v5 w5 HO5 hg5 _ _; have hw5 := own_below (keepB hw3 (below1 w3 _)) (Nat.le_refl _) (own_keep HO3.out (below1 _ _)) hg5; replace HO5 := Lib.hid HO5; clear hg5))
            go_roundw
            case rel =>
              refine ⟨k + 1, by omega, by go_num, ?_, hw5⟩
              rw [HF.out, itCs_append, List.length_append]
              exact HO5
            case measure => simp [intOf]; omega
        · obtain rfl : k = L.length := by omega
          have hTT : T = L.filter (needF L n) := by rw [← hT.out, List.take_length]
          have h1 := RefIn.setList HH.out hw HO.out
          have h2 := RefIn.setLow h1 n
          have ho : Out O w ((wi.setCell ⟨q, 0, none⟩ (.slice A4 T.length c4)).setCell ⟨q, 2, none⟩ (.int .u64 (n : Int))) :=
            ((Out.of_below hw).trans' ((out_set wi q 0 _).mono fun k e => by rw [e]; exact HH.out.hq)).trans' ((out_set _ q 2 _).mono fun k e => by rw [e]; exact HH.out.hq)
          have H2 := Lib.hid h2
          have HOut := Lib.hid ho
          have hsub : IntKind.i64.wrap ((L.length : Int) - (T.length : Int)) = (L.length : Int) - (T.length : Int) := IntWalk.i64_in _ (by omega)
          have HTT := Lib.hid hTT
          clear h1 h2 ho hTT hlt
          go_wp2
          go_ret2
          refine ⟨by rw [rColN, rColE, HE.out, ← HTT.out]; rfl, ?_, HOut.out⟩
          rw [rColL, rColLow, HE.out]
          rw [show ext O w ((wi.setCell ⟨q, 0, none⟩ (.slice A4 T.length c4)).setCell ⟨q, 2, none⟩ (.int .u64 (n : Int))) = ext O w (wi.setCell ⟨q, 0, none⟩ (.slice A4 T.length c4)) from funext fun k => by simp [ext]]
          simp only [if_true, ← HTT.out]
          exact ⟨_, H2.out⟩
end Go.Proofs.YtboiafchmdflpaaGreatDoor
