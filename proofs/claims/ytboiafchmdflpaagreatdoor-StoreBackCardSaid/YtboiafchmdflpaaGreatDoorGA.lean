/- The reference's Scan in plain Lean: over the items, each key once. -/
import Derived.Test.YtboiafchmdflpaaGreatDoorScan14
import Derived.Test.YtboiafchmdflpaaGreatDoorG9
import Derived.Test.YtboiafchmdflpaaGreatDoorG6
import Derived.Test.YtboiafchmdflpaaGreatDoorG8
namespace Go.Proofs.YtboiafchmdflpaaGreatDoor
open Go.RowKit Go.Maps

def rsOne (F : List It) (a b : ByteArray) (n : Nat) (pk : Option ByteArray) (x : It) : List It :=
  if pk = some x.key then [] else if inRange a b x.key && !decide ((seenF F x.key n).val.kind = 0) then [⟨x.key, (seenF F x.key n).val, (seenF F x.key n).num⟩] else []
def rsGo (F : List It) (a b : ByteArray) (n : Nat) : Option ByteArray → List It → List It
  | _, [] => []
  | pk, x :: r => rsOne F a b n pk x ++ rsGo F a b n (some x.key) r
def lastK : Option ByteArray → List It → Option ByteArray
  | pk, [] => pk
  | _, x :: r => lastK (some x.key) r
theorem rsGo_append (F : List It) (a b : ByteArray) (n : Nat) : ∀ (l r : List It) (pk : Option ByteArray), rsGo F a b n pk (l ++ r) = rsGo F a b n pk l ++ rsGo F a b n (lastK pk l) r
  | [], _, _ => rfl
  | x :: l, r, pk => by rw [List.cons_append, rsGo, rsGo_append F a b n l r, rsGo, lastK, List.append_assoc]
theorem lastK_snoc : ∀ (l : List It) (x : It) (pk : Option ByteArray), lastK pk (l ++ [x]) = some x.key
  | [], _, _ => rfl
  | y :: l, x, pk => by rw [List.cons_append, lastK, lastK_snoc l x]
def prevK (L : List It) (k : Nat) : Option ByteArray := if k = 0 then none else some (L.getD (k - 1) noIt).key
theorem lastK_take {L : List It} {k : Nat} (hk : k ≤ L.length) : lastK none (L.take k) = prevK L k := by
  cases k with
  | zero => rfl
  | succ k =>
    rw [List.take_succ_eq_append_getElem (by omega), lastK_snoc, prevK, if_neg (by omega), show k + 1 - 1 = k by omega, List.getD_eq_getElem?_getD, List.getElem?_eq_getElem (by omega)]
    rfl
theorem rsGo_next {F L : List It} {a b : ByteArray} {n k : Nat} {x : It} (hk : k < L.length) (hx : L.getD k noIt = x) : rsGo F a b n none (L.take (k + 1)) = rsGo F a b n none (L.take k) ++ rsOne F a b n (prevK L k) x := by
  have e : L[k] = x := by rw [← hx, List.getD_eq_getElem?_getD, List.getElem?_eq_getElem hk]; rfl
  rw [List.take_succ_eq_append_getElem hk, rsGo_append, lastK_take (by omega), e, rsGo, rsGo, List.append_nil]
theorem rsGo_tail (F : List It) (a b k : ByteArray) (n : Nat) : ∀ (l : List Ver) (r : List It), rsGo F a b n (some k) (itemsOf (k, l) ++ r) = rsGo F a b n (some k) r
  | [], _ => rfl
  | v :: l, r => by
    rw [show itemsOf (k, v :: l) = (⟨k, v.val, v.num⟩ : It) :: itemsOf (k, l) from rfl, List.cons_append, rsGo, rsOne, if_pos rfl, List.nil_append, rsGo_tail F a b k n l r]
theorem rsGo_items (F : List It) (a b : ByteArray) (n : Nat) : ∀ (m : KV), RisesK m → (∀ p ∈ m, p.2 ≠ []) → ∀ pk, (∀ p ∈ m, pk ≠ some p.1) →
    rsGo F a b n pk (items m) = (m.filter fun p => inRange a b p.1 && !decide ((seenF F p.1 n).val.kind = 0)).map fun p => (⟨p.1, (seenF F p.1 n).val, (seenF F p.1 n).num⟩ : It)
  | [], _, _, _, _ => rfl
  | (k, l) :: m, h, hne, pk, hpk => by
    obtain ⟨h1, h2⟩ := List.pairwise_cons.1 h
    cases l with
    | nil => exact absurd rfl (hne (k, []) (by simp))
    | cons v l =>
      have e0 : items ((k, v :: l) :: m) = (⟨k, v.val, v.num⟩ : It) :: (itemsOf (k, l) ++ items m) := rfl
      have ih := rsGo_items F a b n m h2 (fun p hp => hne p (by simp [hp])) (some k) (fun p hp e => lessS_ne (h1 p hp) (Option.some.inj e))
      rw [e0, rsGo, rsGo_tail, ih, rsOne, if_neg (hpk (k, v :: l) (by simp)), List.filter_cons]
      simp only
      split
      · rw [List.map_cons]; rfl
      · rfl
theorem rsGo_scan {m : KV} (h : RisesK m) (hne : ∀ p ∈ m, p.2 ≠ []) (a b : ByteArray) (n : Nat) : rsGo (items m) a b n none (items m) = scanAll m a b n := by
  rw [rsGo_items _ a b n m h hne none (fun _ _ e => by cases e), scanAll]
  have e : ∀ p ∈ m, seenF (items m) p.1 n = seenV p.2 n := fun p hp => by rw [seenF_items h, getK_mem h hp]
  have e1 : m.filter (fun p => inRange a b p.1 && !decide ((seenF (items m) p.1 n).val.kind = 0)) = m.filter (fun p => inRange a b p.1 && !decide ((seenV p.2 n).val.kind = 0)) :=
    List.filter_congr fun p hp => by rw [e p hp]
  rw [e1]
  refine List.map_congr_left fun p hp => ?_
  rw [e p (List.mem_filter.1 hp).1]
def rScanS (L : List It) (low : Nat) (a b : ByteArray) (n : Nat) (most : Int) : List It := if n < low then [] else (rsGo L a b n none L).take most.toNat
theorem rScan_eq {s : StD} (h : StOK s) (a b : ByteArray) (n : Nat) (most : Int) : rScanS (items s.ks) s.low a b n most = scanS s a b n most := by
  rw [rScanS, scanS, rsGo_scan h.rises h.ne]
theorem rs_len {F : List It} {a b : ByteArray} {n : Nat} : ∀ (l : List It) (pk : Option ByteArray), (rsGo F a b n pk l).length ≤ l.length
  | [], _ => Nat.le_refl _
  | x :: l, pk => by
    have h1 := rs_len (F := F) (a := a) (b := b) (n := n) l (some x.key)
    have h2 : (rsOne F a b n pk x).length ≤ 1 := by rw [rsOne]; repeat' split <;> simp
    rw [rsGo, List.length_append, List.length_cons]
    omega
/-- At the loop's end: all has been gone over, or there is no room. -/
theorem rs_done {L : List It} {a b : ByteArray} {n k : Nat} {most : Int} (hl : (rsGo L a b n none (L.take k)).length ≤ most.toNat) (h : k = L.length ∨ ¬ ((rsGo L a b n none (L.take k)).length : Int) < most) : (rsGo L a b n none L).take most.toNat = rsGo L a b n none (L.take k) := by
  rcases h with h | h
  · rw [h, List.take_length] at hl ⊢
    exact List.take_of_length_le hl
  · have e : L = L.take k ++ L.drop k := (List.take_append_drop k L).symm
    have e2 : most.toNat = (rsGo L a b n none (L.take k)).length := by omega
    rw [e2]
    conv => lhs; arg 2; arg 6; rw [e]
    rw [rsGo_append, List.take_left]
end Go.Proofs.YtboiafchmdflpaaGreatDoor
/- The reference's Scan. -/
namespace Go.Proofs.YtboiafchmdflpaaGreatDoor
open Go.RowKit Go.Maps

def RScanPost (w : World) (l : List It) (err : Int) (e : Ending) (w' : World) : Prop :=
  ∃ v, e = .returned (.tuple #[v, .int .i64 err]) ∧ w'.ownsRow w.heap.size 76 5 v l.length (itCs l) ∧ Below w.heap.size w w'
/-- Is an item left out, whatever is seen? -/
def rSkip (a b : ByteArray) (pk : Option ByteArray) (x : ByteArray) : Bool := decide (pk = some x) || !inRange a b x
theorem rsOne_skip {F : List It} {a b : ByteArray} {n : Nat} {pk : Option ByteArray} {x : It} (h : rSkip a b pk x.key = true) : rsOne F a b n pk x = [] := by
  rw [rSkip, Bool.or_eq_true] at h
  rw [rsOne]
  rcases h with h | h
  · rw [if_pos (of_decide_eq_true h)]
  · split
    · rfl
    · rw [Bool.not_eq_true'] at h
      rw [h]
      simp
theorem rsOne_go {F : List It} {a b : ByteArray} {n : Nat} {pk : Option ByteArray} {x : It} {v : Ver} (h : rSkip a b pk x.key = false) (hv : seenF F x.key n = v) : rsOne F a b n pk x = if v.val.kind = 0 then [] else [⟨x.key, v.val, v.num⟩] := by
  rw [rSkip, Bool.or_eq_false_iff] at h
  have h2 : inRange a b x.key = true := by have := h.2; rwa [Bool.not_eq_false'] at this
  rw [rsOne, if_neg (of_decide_eq_false h.1), h2, hv]
  by_cases hk : v.val.kind = 0 <;> simp [hk]
theorem rSkip_zero (a b x : ByteArray) : rSkip a b none x = !inRange a b x := by simp [rSkip]
theorem rSkip_some (a b x y : ByteArray) : rSkip a b (some y) x = ((y.toList == x.toList) || !inRange a b x) := by
  rw [rSkip, str_eq_dec]
  simp
set_option maxRecDepth 100000 in
set_option maxHeartbeats 8000000 in
theorem refScan_any {w : World} {B q : Nat} {O : Nat → Prop} {L : List It} {last low : Nat} (h : RefAt w B q O L last low) (a b : ByteArray) (n : Nat) (most : Int) (hI : L.length ≤ 800000) :
    Calls Tryz.prog 24 #[.pointer (some ⟨q, 0, none⟩), .string a, .string b, .int .u64 (n : Int), .int .i64 most] w (RScanPost w (rScanS L low a b n most) (rOldE low n)) := by
  obtain ⟨i0, hi, hz0, hz1, hz2⟩ := info_parts info_it
  have HS := Lib.hid h
  obtain ⟨v, h⟩ := h
  have c0 := h.c0
  have c2 := h.c2
  by_cases hlow : n < low
  · have hl : ((n : Int) < (low : Int)) := by omega
    have HV : Hid (rScanS L low a b n most = []) := by show _ = _; rw [rScanS, if_pos hlow]
    have HE : Hid (rOldE low n = 9) := by show _ = _; rw [rOldE, if_pos hlow]
    clear hlow h
    go_enter Tryz.func24, Tryz.ntmps24
    go_wp2
    go_ret2
    exact ⟨.slice none 0 0, by rw [HE.out]; rfl, by rw [HV.out]; exact own_nil _ _ _ _, Below.refl _ _⟩
  · have hl : ¬ ((n : Int) < (low : Int)) := by omega
    have HV : Hid (rScanS L low a b n most = (rsGo L a b n none L).take most.toNat) := by show _ = _; rw [rScanS, if_neg hlow]
    have HE : Hid (rOldE low n = 0) := by show _ = _; rw [rOldE, if_neg hlow]
    obtain ⟨K, cap, hvv, hcap, hK⟩ := own_its h.row
    have HH := Lib.hid h
    subst hvv
    clear h hlow
    go_enter Tryz.func24, Tryz.ntmps24
    go_wp2
    go_loopw [12, 13] (fun u i wr => ∃ k : Nat, k ≤ L.length ∧ i = .int .i64 k ∧ Hid (wr.ownsRow w.heap.size 76 5 u (rsGo L a b n none (L.take k)).length (itCs (rsGo L a b n none (L.take k)))) ∧ Hid ((rsGo L a b n none (L.take k)).length ≤ most.toNat) ∧ Below w.heap.size w wr) (fun _ i _ => L.length - (intOf i).toNat)
    case atStart => exact ⟨0, Nat.zero_le _, rfl, own_nil _ _ _ _, Nat.zero_le _, Below.refl _ _⟩
    case round =>
      obtain ⟨k, hk, rfl, HO, HM, hw⟩ := hrel
      obtain ⟨wi, rfl⟩ : ∃ wi : World, wi = wr := ⟨_, rfl⟩
      replace c0 := keep hw c0
      obtain ⟨R, hR⟩ : ∃ R, Hid (rsGo L a b n none (L.take k) = R) := ⟨_, rfl⟩
      rw [hR.out] at HO HM
      have hRl : R.length ≤ 800000 := by
        have := rs_len (F := L) (a := a) (b := b) (n := n) (L.take k) none
        rw [hR.out, List.length_take] at this
        omega
      obtain ⟨A4, c4, hform, _, _⟩ := own_its HO.out
      subst hform
      by_cases hlt : k < L.length
      · by_cases hm : (R.length : Int) < most
        · have qm : decide ((R.length : Int) < most) = true := decide_eq_true hm
          have HMR : Hid (R.length + 1 ≤ most.toNat) := by show _ ≤ _; omega
          have hki : (k : Int) < (L.length : Int) := by omega
          obtain ⟨b', off', x, yz, ym, yt, yn, rfl, e0, e1, e2, e3, e4, HY⟩ := (hK.later hw).at' hlt
          have HNX := Lib.hid (rsGo_next (F := L) (a := a) (b := b) (n := n) hlt HY.out)
          obtain ⟨cc, hcc⟩ : ∃ cc, Hid (rSkip a b (prevK L k) x = cc) := ⟨_, rfl⟩
          obtain ⟨v, hv⟩ : ∃ v, Hid (seenF L x n = v) := ⟨_, rfl⟩
          have HSee : Hid (∀ wz, Below wi.heap.size wi wz → Calls Tryz.prog 52 #[.pointer (some ⟨q, 0, none⟩), .string x, .int .u64 (n : Int)] wz (RSeenPost wz v)) := fun wz hz => by
            have := refSeen_any (HS.out.later (keepB hw hz)) x n (by omega)
            rw [hv.out] at this
            exact this
          clear hm
          go_upto_region 8 with fail
          go_cut [74] (fun s74 wx => s74 = .bool cc ∧ wi = wx)
          case first =>
            have hc9 := hcc.out
            by_cases hk0 : k = 0
            · subst hk0
              rw [show prevK L 0 = none from rfl, rSkip_zero, inRange_eq] at hc9
              replace hc9 := Lib.hid hc9
              go_wp2
              all_goals
                go_meet
                exact ⟨by rw [← hc9.out]; first | (simp [*]; done) | (cases hb9 : b.toList <;> simp_all), rfl⟩
            · obtain ⟨b2, off2, y, zz, zm, zt, zn, e9, g0, g1, g2, g3, g4, HZ⟩ := (hK.later hw).at' (k := k - 1) (by omega)
              injection e9 with e9
              injection e9 with e9 e8
              subst e9 e8
              rw [prevK, if_neg hk0, HZ.out, rSkip_some, inRange_eq] at hc9
              replace hc9 := Lib.hid hc9
              have hkp : (0 : Int) < (k : Int) := by omega
              have hkn : decide (0 < k) = true := by rw [decide_eq_true_iff]; omega
              have hw1 : IntKind.i64.wrap ((k : Int) - 1) = ((k - 1 : Nat) : Int) := by rw [IntWalk.i64_in _ (by omega)]; omega
              have hkm : ((k - 1 : Nat) : Int) < (L.length : Int) := by omega
              clear hk0
              go_wp2
              all_goals
                go_meet
                exact ⟨by rw [← hc9.out]; first | (simp [*]; done) | (cases hb9 : b.toList <;> simp_all), rfl⟩
          case rest =>
            obtain ⟨rfl, rfl⟩ := hcut
            cases cc
            · have hgo := rsOne_go (F := L) (n := n) (x := ⟨x, ⟨yz, ym, yt⟩, yn⟩) hcc.out hv.out
              by_cases hvk : v.val.kind = 0
              · have HF : Hid (rsGo L a b n none (L.take (k + 1)) = R) := by show _ = _; rw [HNX.out, hgo, if_pos hvk, hR.out, List.append_nil]
                have q9 : (v.val.kind != 0) = false := by simp [hvk]
                clear hgo hvk
                go_wp2_with (go_at_call 52; refine (HSee.out _ (Below.refl _ _)).mono ?_; rintro e w3 ⟨rfl, hb3⟩; obtain ⟨w4, ew4, hb4, hsz4, hrow4⟩ := new3 w3 (.int .i64 v.val.kind) (.int .u64 (v.val.bits : Int)) (.string v.val.text) 53; obtain ⟨y0, y1, y2, _⟩ := cells3 hrow4; have HO4 := Lib.hid (own_keep (own_keep HO.out hb3) hb4); have hw4 := keepB hw (keepB hb3 hb4); clear hrow4 hsz4)
                go_roundw
                case rel =>
                  refine ⟨k + 1, by omega, by go_num, ?_, ?_, hw4⟩
                  · rw [HF.out]; exact HO4
                  · rw [HF.out]; exact HM
                case measure => simp [intOf]; omega
              · have HF : Hid (rsGo L a b n none (L.take (k + 1)) = R ++ [⟨x, v.val, v.num⟩]) := by show _ = _; rw [HNX.out, hgo, if_neg hvk, hR.out]
                have q9 : (v.val.kind != 0) = true := by simpa using hvk
                clear hgo hvk
                go_wp2_with (first
                  | (go_at_call 52; refine (HSee.out _ (Below.refl _ _)).mono ?_; rintro e w3 ⟨rfl, hb3⟩; obtain ⟨w4, ew4, hb4, hsz4, hrow4⟩ := new3 w3 (.int .i64 v.val.kind) (.int .u64 (v.val.bits : Int)) (.string v.val.text) 53; obtain ⟨y0, y1, y2, _⟩ := cells3 hrow4; have HO4 := Lib.hid (own_keep (own_keep HO.out hb3) hb4); have hw4 := keepB hw (keepB hb3 hb4); clear hrow4 hsz4)
                  | (at_builtin; refine wpList_append_own_at _ rfl _ _ 28 rfl w.heap.size 76 i0 _ 5 56 Tryz.underlying28 hi hz0 hz1 hz2 rfl (by decide) (.slice A4 R.length c4) R.length (itCs R) rfl (own_keep HO4.out (below1 _ _)) ⟨w4.heap.size, 0, none⟩ 1 1 (itC ⟨x, v.val, v.num⟩) rfl rfl (World.news_of_block (heap_alloc_new w4 _)) (itC_one _) (le_maxLen (by omega)) (by omega) (Nat.le_trans hw4.size (below1 _ _).size) ?_; intro v5 w5 HO5 hg5 _ _; have hw5 := own_below (keepB hw4 (below1 w4 _)) (Nat.le_refl _) (own_keep HO4.out (below1 _ _)) hg5; replace HO5 := Lib.hid HO5; clear hg5))
                go_roundw
                case rel =>
                  refine ⟨k + 1, by omega, by go_num, ?_, ?_, hw5⟩
                  · rw [HF.out, itCs_append, List.length_append]; exact HO5
                  · rw [HF.out, List.length_append]; exact HMR
                case measure => simp [intOf]; omega
            · have HF : Hid (rsGo L a b n none (L.take (k + 1)) = R) := by show _ = _; rw [HNX.out, rsOne_skip hcc.out, hR.out, List.append_nil]
              go_wp2
              go_roundw
              case rel =>
                refine ⟨k + 1, by omega, by go_num, ?_, ?_, hw⟩
                · rw [HF.out]; exact HO
                · rw [HF.out]; exact HM
              case measure => simp [intOf]; omega
        · have qm : decide ((R.length : Int) < most) = false := decide_eq_false hm
          have hki : (k : Int) < (L.length : Int) := by omega
          have HF : Hid (rScanS L low a b n most = R) := by
            show _ = _
            rw [HV.out, rs_done (by rw [hR.out]; exact HM.out) (.inr (by rw [hR.out]; exact hm)), hR.out]
          clear hm
          go_wp2
          go_ret2
          refine ⟨_, by rw [HE.out]; rfl, ?_, hw⟩
          rw [HF.out]
          exact HO.out
      · have HF : Hid (rScanS L low a b n most = R) := by
          show _ = _
          rw [HV.out, rs_done (by rw [hR.out]; exact HM.out) (.inl (by omega)), hR.out]
        go_wp2
        go_ret2
        refine ⟨_, by rw [HE.out]; rfl, ?_, hw⟩
        rw [HF.out]
        exact HO.out
end Go.Proofs.YtboiafchmdflpaaGreatDoor
/- Both stores side by side: Apply and Collect on the one and on the other. -/
namespace Go.Proofs.YtboiafchmdflpaaGreatDoor
open Go.RowKit Go.Maps Go.Sort Go.Shelf

theorem PairAt.up {w : World} {B p q N N' : Nat} {s : StD} (h : PairAt w B p q N s) (hN : N ≤ N') : PairAt w B p q N' s := by
  obtain ⟨O, O2, M, hM, r⟩ := h
  exact ⟨O, O2, M, Nat.le_trans hM hN, r⟩
theorem PairAt.ref {w : World} {B p q N : Nat} {s : StD} (h : PairAt w B p q N s) : ∃ O2, RefAt w B q O2 (items s.ks) s.last s.low := by
  obtain ⟨O, O2, M, hM, h1, h2, h3⟩ := h
  exact ⟨O2, h2⟩
theorem PairAt.store {w : World} {B p q N : Nat} {s : StD} (h : PairAt w B p q N s) : ∃ O M, M ≤ N ∧ StoreAt w B p M O s := by
  obtain ⟨O, O2, M, hM, h1, h2, h3⟩ := h
  exact ⟨O, M, hM, h1⟩
/-- What Apply does to both. -/
structure PairAp (w : World) (B p q N : Nat) (s : StD) (n : Nat) (l : List Wr) (A : Option Addr) (ca : Nat) (O O2 : Nat → Prop) (M : Nat) (E : Int) : Prop where
  lt1 : ∀ k, O k → B ≤ k ∧ k < w.heap.size
  lt2 : ∀ k, O2 k → B ≤ k ∧ k < w.heap.size
  ap : ∀ wz, Below w.heap.size w wz → Calls Tryz.prog 16 #[.pointer (some ⟨p, 0, none⟩), .int .u64 (n : Int), .slice A l.length ca] wz fun e w' => e = .returned (.int .i64 E) ∧ StoreAt w' B p M (ext O wz w') (applyS s n l) ∧ Out O wz w'
  rp : ∀ wz w2, Below w.heap.size w wz → Out O wz w2 → Calls Tryz.prog 18 #[.pointer (some ⟨q, 0, none⟩), .int .u64 (n : Int), .slice A l.length ca] w2 fun e w' => e = .returned (.int .i64 E) ∧ RefAt w' B q (ext O2 w2 w') (items (applyS s n l).ks) (applyS s n l).last (applyS s n l).low ∧ Out O2 w2 w'
  st : ∀ wz w2 w3, Below w.heap.size w wz → StoreAt w2 B p M (ext O wz w2) (applyS s n l) → Out O wz w2 → RefAt w3 B q (ext O2 w2 w3) (items (applyS s n l).ks) (applyS s n l).last (applyS s n l).low → Out O2 w2 w3 → PairAt w3 B p q (N + 12) (applyS s n l) ∧ Below B w w3
theorem applyS_low (s : StD) (n : Nat) (l : List Wr) : (applyS s n l).low = s.low := by
  rw [applyS]; split
  · rfl
  · split <;> rfl
theorem pair_ap {w : World} {B p q N : Nat} {s : StD} (h : PairAt w B p q N s) (hB : B ≤ w.heap.size) (hs : StOK s) (n : Nat) (l : List Wr) (A : Option Addr) (ca : Nat) (hA : WrsAt w A l) (hlow : ∀ a, A = some a → 0 < l.length → a.block < B) (hok : WrsOK l) (h12 : l.length ≤ 12) (hT : Tabs w) (hN : N ≤ 700000) (hI : (items s.ks).length ≤ 700000) :
    ∃ O O2 M E, PairAp w B p q N s n l A ca O O2 M E := by
  obtain ⟨O, O2, M, hM, hSt, hRf, hd⟩ := h
  have he := rApply_eq hs n l
  have hl1 : ∀ a, A = some a → 0 < l.length → ¬ O a.block := fun a e hl ho => by have := hlow a e hl; have := (hSt.lt _ ho).1; omega
  have hl2 : ∀ a, A = some a → 0 < l.length → ¬ O2 a.block := fun a e hl ho => by have := hlow a e hl; have := (hRf.lt _ ho).1; omega
  refine ⟨O, O2, M + l.length, applyE s n l, ⟨hSt.lt, hRf.lt, fun wz hz => ?_, fun wz w2 hz ho => ?_, fun wz w2 w3 hz a1 a2 a3 a4 => ?_⟩⟩
  · exact apply14_any (hSt.later hz) (Nat.le_trans hB hz.size) hs n l A ca (hA.later hz) hl1 hok (hT.later hz) (by omega) (by omega)
  · have hb : Below B wz w2 := ho.below (Nat.le_trans hB hz.size) fun k hk => (hSt.lt k hk).1
    have h9 := refApply_any ((hRf.later hz).out ho fun x h2 h1 => hd x h1 h2) (Nat.le_trans (Nat.le_trans hB hz.size) ho.size) n l A ca ((hA.later hz).out ho hl1) hl2 hok (by omega)
    refine h9.mono ?_
    rintro e w' ⟨rfl, r1, r2⟩
    rw [he.1, he.2.1] at r1
    rw [applyS_low]
    exact ⟨by rw [he.2.2], r1, r2⟩
  · have := pair_step (Nat.le_trans hB hz.size) (hSt.later hz) (hRf.later hz) hd a1 a2 a3 a4 rfl rfl rfl
    exact ⟨this.1.up (by omega), (hz.mono hB).trans this.2⟩
/-- What Collect does to both. -/
structure PairCo (w : World) (B p q N : Nat) (s : StD) (n : Nat) (O O2 : Nat → Prop) (M : Nat) : Prop where
  lt1 : ∀ k, O k → B ≤ k ∧ k < w.heap.size
  lt2 : ∀ k, O2 k → B ≤ k ∧ k < w.heap.size
  co : ∀ wz, Below w.heap.size w wz → Calls Tryz.prog 19 #[.pointer (some ⟨p, 0, none⟩), .int .u64 (n : Int)] wz fun e w' => e = .returned (.tuple #[.int .i64 (colN s n), .int .i64 (colE s n)]) ∧ StoreAt w' B p M (ext O wz w') (colS s n) ∧ Out O wz w'
  rc : ∀ wz w2, Below w.heap.size w wz → Out O wz w2 → Calls Tryz.prog 20 #[.pointer (some ⟨q, 0, none⟩), .int .u64 (n : Int)] w2 fun e w' => e = .returned (.tuple #[.int .i64 (colN s n), .int .i64 (colE s n)]) ∧ RefAt w' B q (ext O2 w2 w') (items (colS s n).ks) (colS s n).last (colS s n).low ∧ Out O2 w2 w'
  st : ∀ wz w2 w3, Below w.heap.size w wz → StoreAt w2 B p M (ext O wz w2) (colS s n) → Out O wz w2 → RefAt w3 B q (ext O2 w2 w3) (items (colS s n).ks) (colS s n).last (colS s n).low → Out O2 w2 w3 → PairAt w3 B p q (N + 12) (colS s n) ∧ Below B w w3
theorem rCol_eq {s : StD} (hs : StOK s) (n : Nat) : rColN (items s.ks) s.last s.low n = colN s n ∧ rColE s.last s.low n = colE s n ∧ rColLow s.last s.low n = (colS s n).low ∧ (colS s n).last = s.last := by
  have e : rColOK s.last s.low n = colOK s n := rfl
  refine ⟨?_, by rw [rColE, colE, e], ?_, ?_⟩
  · rw [rColN, colN, e]
    split
    · have : (items s.ks).filter (needF (items s.ks) n) = items (colK s.ks n) := by
        rw [← items_colK hs.rises hs.falls]
        exact List.filter_congr fun x _ => needF_items hs.rises n x
      rw [this]
      rfl
    · rfl
  · rw [rColLow, colS, e]; split <;> rfl
  · rw [colS]; split <;> rfl
theorem pair_co {w : World} {B p q N : Nat} {s : StD} (h : PairAt w B p q N s) (hB : B ≤ w.heap.size) (hs : StOK s) (n : Nat) (hN : N ≤ 700000) (hI : (items s.ks).length ≤ 700000) : ∃ O O2 M, PairCo w B p q N s n O O2 M := by
  obtain ⟨O, O2, M, hM, hSt, hRf, hd⟩ := h
  have he := rCol_eq hs n
  refine ⟨O, O2, M, ⟨hSt.lt, hRf.lt, fun wz hz => ?_, fun wz w2 hz ho => ?_, fun wz w2 w3 hz a1 a2 a3 a4 => ?_⟩⟩
  · exact col14_any (hSt.later hz) (Nat.le_trans hB hz.size) hs n (by omega) (by omega)
  · have h9 := refCol_any ((hRf.later hz).out ho fun x h2 h1 => hd x h1 h2) (Nat.le_trans (Nat.le_trans hB hz.size) ho.size) n (by omega)
    refine h9.mono ?_
    rintro e w' ⟨rfl, r1, r2⟩
    rw [rColL_items hs, he.2.2.1] at r1
    exact ⟨by rw [he.1, he.2.1], by rw [he.2.2.2]; exact r1, r2⟩
  · have := pair_step (Nat.le_trans hB hz.size) (hSt.later hz) (hRf.later hz) hd a1 a2 a3 a4 rfl rfl rfl
    exact ⟨this.1.up (by omega), (hz.mono hB).trans this.2⟩
theorem rGet_eq {s : StD} (hs : StOK s) (k : ByteArray) (n : Nat) : rGetV (items s.ks) s.low k n = getV s k n ∧ rOldE s.low n = oldE s n := by
  refine ⟨?_, rfl⟩
  rw [rGetV, getV, seenF_items hs.rises]
end Go.Proofs.YtboiafchmdflpaaGreatDoor
/- parishlaw14.items. -/
namespace Go.Proofs.YtboiafchmdflpaaGreatDoor
open Go.RowKit Go.Maps Go.Sort Go.Shelf

set_option maxRecDepth 100000 in
set_option maxHeartbeats 4000000 in
theorem items14_any {w : World} (l : List It) (A : Option Addr) (ca : Nat) (hA : ItsAt w A l) (hl : l.length ≤ 800000) :
    Calls Tryz.prog 26 #[.slice A l.length ca] w fun e w' => ∃ v, e = .returned v ∧ w'.ownsRow w.heap.size 76 5 v l.length (itCs l) ∧ Below w.heap.size w w' := by
  obtain ⟨i0, hi, hz0, hz1, hz2⟩ := info_parts info_it
  go_enter Tryz.func26, Tryz.ntmps26
  go_wp2
  go_loopw [3, 4] (fun u i wr => ∃ k : Nat, k ≤ l.length ∧ i = .int .i64 k ∧ Hid (wr.ownsRow w.heap.size 76 5 u k (itCs (l.take k))) ∧ Below w.heap.size w wr) (fun _ i _ => l.length - (intOf i).toNat)
  case atStart => exact ⟨0, Nat.zero_le _, rfl, own_nil _ _ _ _, Below.refl _ _⟩
  case round =>
    obtain ⟨k, hk, rfl, HO, hw⟩ := hrel
    obtain ⟨wi, rfl⟩ : ∃ wi : World, wi = wr := ⟨_, rfl⟩
    by_cases hlt : k < l.length
    · obtain ⟨b', off', y, yz, ym, yt, yn, rfl, e0, e1, e2, e3, e4, HY⟩ := (hA.later hw).at' hlt
      have hki : (k : Int) < (l.length : Int) := by omega
      have HT : Hid (l.take (k + 1) = l.take k ++ [⟨y, ⟨yz, ym, yt⟩, yn⟩]) := by
        show _ = _
        have e : l.getD k noIt = l[k] := by rw [List.getD_eq_getElem?_getD, List.getElem?_eq_getElem hlt]; rfl
        rw [List.take_succ_eq_append_getElem hlt, ← e, HY.out]
      go_wp2_with (at_builtin; refine wpList_append_own_at _ rfl _ _ 28 rfl w.heap.size 76 i0 _ 5 56 Tryz.underlying28 hi hz0 hz1 hz2 rfl (by decide) _ _ _ rfl (own_keep HO.out (below1 _ _)) ⟨wi.heap.size, 0, none⟩ 1 1 (itC ⟨y, ⟨yz, ym, yt⟩, yn⟩) rfl rfl (World.news_of_block (heap_alloc_new wi _)) (itC_one _) (le_maxLen (by omega)) (by omega) (Nat.le_trans hw.size (below1 _ _).size) ?_; intro v3 w3 HO3 hg3 _ _)
      have hb3 := own_below (keepB hw (below1 wi _)) (Nat.le_refl _) (own_keep HO.out (below1 wi _)) hg3
      go_roundw
      case rel =>
        refine ⟨k + 1, by omega, by go_num, ?_, hb3⟩
        show World.ownsRow _ _ _ _ _ _ _
        rw [HT.out, itCs_append]
        exact HO3
      case measure => simp [intOf]; omega
    · obtain rfl : k = l.length := by omega
      rw [List.take_length] at HO
      go_wp2
      go_ret
      exact ⟨_, rfl, HO.out, hw⟩
end Go.Proofs.YtboiafchmdflpaaGreatDoor
