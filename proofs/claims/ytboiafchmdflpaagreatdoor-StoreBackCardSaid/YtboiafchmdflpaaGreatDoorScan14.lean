/- store.Scan. -/
import Derived.Test.YtboiafchmdflpaaGreatDoorG7
import Derived.Test.YtboiafchmdflpaaGreatDoorRefAp14
namespace Go.Proofs.YtboiafchmdflpaaGreatDoor
open Go.RowKit Go.Maps Go.Sort Go.Shelf

def scanIt (p : ByteArray × List Ver) (n : Nat) : It := ⟨p.1, (seenV p.2 n).val, (seenV p.2 n).num⟩
def scanP (a b : ByteArray) (n : Nat) (p : ByteArray × List Ver) : Bool := inRange a b p.1 && !decide ((seenV p.2 n).val.kind = 0)
theorem scanAll_eq (m : KV) (a b : ByteArray) (n : Nat) : scanAll m a b n = (m.filter (scanP a b n)).map fun p => scanIt p n := rfl
def scanTo (m : KV) (a b : ByteArray) (n : Nat) (most : Int) (i : Nat) : List It := (scanAll (m.take i) a b n).take most.toNat
theorem scanTo_zero (m : KV) (a b : ByteArray) (n : Nat) (most : Int) : scanTo m a b n most 0 = [] := by simp [scanTo, scanAll]
theorem scanTo_len (m : KV) (a b : ByteArray) (n : Nat) (most : Int) (i : Nat) : (scanTo m a b n most i).length ≤ i := by
  rw [scanTo, List.length_take, scanAll, List.length_map]
  have h1 := List.length_filter_le (fun p => inRange a b p.1 && !decide ((seenV p.2 n).val.kind = 0)) (m.take i)
  rw [List.length_take] at h1
  omega
theorem scanAll_snoc (m : KV) (a b : ByteArray) (n : Nat) {i : Nat} (hi : i < m.length) : scanAll (m.take (i + 1)) a b n = scanAll (m.take i) a b n ++ if scanP a b n m[i] then [scanIt m[i] n] else [] := by
  rw [List.take_succ_eq_append_getElem hi, scanAll_eq, scanAll_eq, List.filter_append, List.map_append]
  congr 1
  by_cases h : scanP a b n m[i] = true
  · rw [if_pos h, List.filter_cons_of_pos h]; rfl
  · rw [if_neg h, List.filter_cons_of_neg h]; rfl
theorem scanTo_yes {m : KV} {a b : ByteArray} {n i : Nat} {most : Int} (hi : i < m.length) (hp : scanP a b n m[i] = true) (hl : ((scanTo m a b n most i).length : Int) < most) : scanTo m a b n most (i + 1) = scanTo m a b n most i ++ [scanIt m[i] n] := by
  rw [scanTo, List.length_take] at hl
  rw [scanTo, scanTo, scanAll_snoc m a b n hi, if_pos hp]
  generalize scanAll (m.take i) a b n = A at hl ⊢
  rw [List.take_of_length_le (l := A ++ _) (by simp; omega), List.take_of_length_le (l := A) (by omega)]
theorem scanTo_no {m : KV} {a b : ByteArray} {n i : Nat} {most : Int} (hi : i < m.length) (h : scanP a b n m[i] = false ∨ ¬ ((scanTo m a b n most i).length : Int) < most) : scanTo m a b n most (i + 1) = scanTo m a b n most i := by
  rw [scanTo, scanTo, scanAll_snoc m a b n hi]
  rcases h with h | h
  · rw [h]; simp
  · rw [scanTo, List.length_take] at h
    rw [List.take_append_of_le_length (by omega)]
theorem scanTo_all (m : KV) (a b : ByteArray) (n : Nat) (most : Int) : scanTo m a b n most m.length = (scanAll m a b n).take most.toNat := by rw [scanTo, List.take_length]
theorem inRange_eq (a b k : ByteArray) : inRange a b k = (!Op.bytesLess k.toList a.toList && (decide (b.toList = []) || Op.bytesLess k.toList b.toList)) := by
  have e : (b = noStr) = (b.toList = []) := propext ⟨fun h => by rw [h, ByteArray.toList_eq]; rfl, fun h => bytes_ext (by rw [h, ByteArray.toList_eq]; rfl)⟩
  simp only [inRange, lessS, e]
theorem own_base {w : World} {base base' n size : Nat} {e : TypeId} {v : Value} {xs : List Value} (h : w.ownsRow base e size v n xs) (hb : base' ≤ base) : w.ownsRow base' e size v n xs := by
  refine ⟨h.1, ?_⟩
  rcases h.2 with h2 | ⟨g, cap, cur, hv, hg, r⟩
  · exact .inl h2
  · exact .inr ⟨g, cap, cur, hv, Nat.le_trans hb hg, r⟩
theorem info_sit : (Tryz.prog.info? 95).map (fun i => (i.zero, i.size, i.bytes)) = some (some (.agg #[.string ByteArray.empty, .int .i64 0, .int .u64 0, .string ByteArray.empty, .int .u64 0]), 5, 56) := by kernel_rfl
def ScanPost (w : World) (l : List It) (err : Int) (e : Ending) (w' : World) : Prop :=
  ∃ v, e = .returned (.tuple #[v, .int .i64 err]) ∧ w'.ownsRow w.heap.size 95 5 v l.length (itCs l) ∧ Below w.heap.size w w'
theorem items_ge {m : KV} (hne : ∀ p ∈ m, p.2 ≠ []) : m.length ≤ (items m).length := by
  induction m with
  | nil => exact Nat.le_refl _
  | cons p m ih =>
    have e : (items (p :: m)).length = p.2.length + (items m).length := by
      rw [show items (p :: m) = itemsOf p ++ items m from rfl, List.length_append, itemsOf, List.length_map]
    have h1 := ih fun q hq => hne q (List.mem_cons_of_mem _ hq)
    have h2 : 0 < p.2.length := List.length_pos_iff.2 (hne p (List.mem_cons_self ..))
    rw [e, List.length_cons]
    omega
set_option maxRecDepth 100000 in
set_option maxHeartbeats 4000000 in
theorem scan14_any {w : World} {B p N : Nat} {O : Nat → Prop} {s : StD} (h : StoreAt w B p N O s) (hs : StOK s) (a b : ByteArray) (n : Nat) (most : Int) (hI : (items s.ks).length ≤ 800000) :
    Calls Tryz.prog 23 #[.pointer (some ⟨p, 0, none⟩), .string a, .string b, .int .u64 (n : Int), .int .i64 most] w (ScanPost w (scanS s a b n most) (oldE s n)) := by
  have HS := Lib.hid h
  obtain ⟨mb, D, V, h⟩ := h
  have c0 := h.c0
  have c2 := h.c2
  have HK := Lib.hid h.keys
  clear h
  have hkl : s.ks.length ≤ 800000 := Nat.le_trans (items_ge hs.ne) hI
  by_cases hlow : n < s.low
  · have hl : ((n : Int) < (s.low : Int)) := by omega
    have HV : Hid (scanS s a b n most = []) := by show _ = _; rw [scanS, if_pos hlow]
    have HE : Hid (oldE s n = 9) := by show _ = _; rw [oldE, if_pos hlow]
    clear hlow
    go_enter Tryz.func23, Tryz.ntmps23
    go_wp2
    go_ret2
    exact ⟨.slice none 0 0, by rw [HE.out]; rfl, by rw [HV.out]; exact own_nil _ _ _ _, Below.refl _ _⟩
  · have hl : ¬ ((n : Int) < (s.low : Int)) := by omega
    have HV : Hid (scanS s a b n most = scanTo s.ks a b n most s.ks.length) := by show _ = _; rw [scanS, if_neg hlow, scanTo_all]
    have HE : Hid (oldE s n = 0) := by show _ = _; rw [oldE, if_neg hlow]
    clear hlow
    obtain ⟨i0, hi, hz0, hz1, hz2⟩ := info_parts info_sit
    go_enter Tryz.func23, Tryz.ntmps23
    go_wp2_with (first
      | (go_at_call 29; refine (mapsKeys_any (some mb) w).mono ?_; rintro e w1 ⟨rfl, rfl⟩)
      | (go_at_call 28; refine (sortedKeys_any HK.out hs.rises hs.ne hkl).mono ?_; rintro e w2 ⟨A, cap, rfl, hA, hb2⟩))
    go_loopw [12, 33] (fun v i wr => ∃ k : Nat, k ≤ s.ks.length ∧ i = .int .i64 k ∧ Hid (wr.ownsRow w2.heap.size 95 5 v (scanTo s.ks a b n most k).length (itCs (scanTo s.ks a b n most k))) ∧ Below w2.heap.size w2 wr) (fun _ i _ => s.ks.length - (intOf i).toNat)
    case atStart => exact ⟨0, Nat.zero_le _, rfl, by rw [scanTo_zero]; exact own_nil _ _ _ _, Below.refl _ _⟩
    case round =>
      obtain ⟨k, hk, rfl, HO, hw⟩ := hrel
      obtain ⟨wi, rfl⟩ : ∃ wi : World, wi = wr := ⟨_, rfl⟩
      by_cases hlt : k < s.ks.length
      · obtain ⟨b3, off3, x, rfl, d0, HX⟩ := StrsAt.at' (CellsAt.later hA hw) (k := k) (by rw [List.length_map]; exact hlt)
        have hki : (k : Int) < (s.ks.length : Int) := by omega
        obtain ⟨T, hT⟩ : ∃ T, Hid (scanTo s.ks a b n most k = T) := ⟨_, rfl⟩
        rw [hT.out] at HO
        obtain ⟨v, hv⟩ : ∃ v, Hid (seenV (getK s.ks x) n = v) := ⟨_, rfl⟩
        have hx1 : s.ks[k].1 = x := by
          have := HX.out
          rw [List.getD_eq_getElem?_getD, List.getElem?_map, List.getElem?_eq_getElem hlt] at this
          exact this
        have hx2 : getK s.ks x = s.ks[k].2 := by rw [← hx1]; exact getK_mem hs.rises (List.getElem_mem hlt)
        have hxk : x.size ≤ 1000 := by
          have := hs.key _ (List.getElem_mem hlt)
          rw [hx1, keyB] at this
          simp at this
          omega
        have hit : scanIt s.ks[k] n = ⟨x, v.val, v.num⟩ := by rw [scanIt, ← hx2, hv.out, hx1]
        have hp : scanP a b n s.ks[k] = (inRange a b x && !decide (v.val.kind = 0)) := by rw [scanP, ← hx2, hv.out, hx1]
        have HSee : Hid (Calls Tryz.prog 51 #[.pointer (some ⟨p, 0, none⟩), .string x, .int .u64 (n : Int)] wi (SeenPost wi v)) := by
          have := seen14_any (HS.out.later (keepB hb2 hw)) x (by unfold maxLen; omega) n (Nat.le_trans (getK_len _ _) (by omega))
          rw [hv.out] at this
          exact this
        have hTl : T.length ≤ 800000 := by rw [← hT.out]; exact Nat.le_trans (scanTo_len ..) (by omega)
        obtain ⟨cc, hcc⟩ : ∃ cc, Hid ((inRange a b x && !decide (v.val.kind = 0) && decide ((T.length : Int) < most)) = cc) := ⟨_, rfl⟩
        have HN : Hid (cc = false → scanTo s.ks a b n most (k + 1) = T) := fun e => by
          have h9 := hcc.out
          rw [e, Bool.and_eq_false_iff, ← hp] at h9
          refine (scanTo_no hlt ?_).trans hT.out
          rcases h9 with h9 | h9
          · exact .inl h9
          · exact .inr (by rw [hT.out]; exact of_decide_eq_false h9)
        have HY : Hid (cc = true → scanTo s.ks a b n most (k + 1) = T ++ [⟨x, v.val, v.num⟩]) := fun e => by
          have h9 := hcc.out
          rw [e, Bool.and_eq_true, ← hp] at h9
          have := scanTo_yes hlt h9.1 (by rw [hT.out]; exact of_decide_eq_true h9.2)
          rw [this, hT.out, hit]
        obtain ⟨A4, c4, hform, _, _⟩ := own_its HO.out
        subst hform
        clear hx1 hx2 hit hp
        go_upto_region 10 with (go_at_call 51; refine HSee.out.mono ?_; rintro e w3 ⟨rfl, hb3⟩; obtain ⟨w4, ew4, hb4, hsz4, hrow4⟩ := new4 w3 (.int .u64 (v.num : Int)) (.int .i64 v.val.kind) (.int .u64 (v.val.bits : Int)) (.string v.val.text) 72; obtain ⟨y0, y1, y2, y3, _⟩ := cells4 hrow4; have HO4 := Lib.hid (own_keep (own_keep HO.out hb3) hb4); have hw4 := keepB hw (keepB hb3 hb4); replace hrow4 := Lib.hid hrow4; replace hsz4 := Lib.hid hsz4)
        go_cut [64] (fun s64 wx => s64 = .bool cc ∧ w4 = wx)
        case first =>
          go_wp2
          all_goals
            go_meet
            exact ⟨by rw [← hcc.out, inRange_eq]; simp [*], rfl⟩
        case rest =>
          obtain ⟨rfl, rfl⟩ := hcut
          cases cc
          · go_wp2
            go_roundw
            case rel =>
              refine ⟨k + 1, by omega, by go_num, ?_, hw4⟩
              rw [HN.out rfl]
              exact HO4
            case measure => simp [intOf]; omega
          · go_wp2_with (at_builtin; refine wpList_append_own_at _ rfl _ _ 56 rfl w2.heap.size 95 i0 _ 5 56 Tryz.underlying56 hi hz0 hz1 hz2 rfl (by decide) (.slice A4 T.length c4) T.length (itCs T) rfl (own_keep HO4.out (below1 _ _)) ⟨w4.heap.size, 0, none⟩ 1 1 (itC ⟨x, v.val, v.num⟩) rfl rfl (World.news_of_block (heap_alloc_new w4 _)) (itC_one _) (le_maxLen (by omega)) (by omega) (Nat.le_trans hw4.size (below1 _ _).size) ?_; intro v5 w5 HO5 hg5 _ _; have hw5 := own_below (keepB hw4 (below1 w4 _)) (Nat.le_refl _) (own_keep HO4.out (below1 _ _)) hg5; replace HO5 := Lib.hid HO5; clear hg5)
            go_roundw
            case rel =>
              refine ⟨k + 1, by omega, by go_num, ?_, hw5⟩
              rw [HY.out rfl, itCs_append, List.length_append]
              exact HO5
            case measure => simp [intOf]; omega
      · obtain rfl : k = s.ks.length := by omega
        have HO5 := Lib.hid (own_base HO.out hb2.size)
        have hw5 := keepB hb2 hw
        go_wp2
        go_ret2
        refine ⟨_, by rw [HE.out]; rfl, ?_, hw5⟩
        rw [HV.out]
        exact HO5
end Go.Proofs.YtboiafchmdflpaaGreatDoor
