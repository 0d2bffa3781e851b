/- Layer 14's laws in plain Lean: what is seen at rising numbers, scanned in part, collected. -/
import Derived.Test.YtboiafchmdflpaaGreatDoorGA
import Derived.Test.YtboiafchmdflpaaGreatDoorSame14
namespace Go.Proofs.YtboiafchmdflpaaGreatDoor
open Go.RowKit Go.Maps

/-! ### Seen -/
theorem seenV_le (l : List Ver) (n : Nat) : (seenV l n).num ≤ n := by
  induction l with
  | nil => exact Nat.zero_le _
  | cons v l ih =>
    by_cases hv : v.num ≤ n
    · rw [seenV_cons_lo hv]; exact hv
    · rw [seenV_cons_hi (by omega)]; exact ih
theorem seenV_up {l : List Ver} (n : Nat) : seenV l (n + 1) = seenV l n ∨ (seenV l (n + 1)).num = n + 1 := by
  induction l with
  | nil => exact .inl rfl
  | cons v l ih =>
    by_cases hv : v.num ≤ n
    · rw [seenV_cons_lo hv, seenV_cons_lo (by omega)]; exact .inl rfl
    · by_cases h1 : v.num = n + 1
      · rw [seenV_cons_lo (n := n + 1) (by omega)]; exact .inr h1
      · rw [seenV_cons_hi (by omega), seenV_cons_hi (by omega)]; exact ih
theorem seenV_self {l : List Ver} (hf : Falls l) (n : Nat) (h0 : (seenV l n).num ≠ 0) : seenV l (seenV l n).num = seenV l n := by
  induction l with
  | nil => exact absurd rfl h0
  | cons v l ih =>
    obtain ⟨h1, h2⟩ := List.pairwise_cons.1 hf
    by_cases hv : v.num ≤ n
    · rw [seenV_cons_lo hv, seenV_cons_lo (Nat.le_refl _)]
    · have hle := seenV_le l n
      rw [seenV_cons_hi (n := n) (by omega)] at h0 ⊢
      rw [seenV_cons_hi (by omega)]
      exact ih h2 h0
theorem seenV_mem' (l : List Ver) (n : Nat) : seenV l n = noVer ∨ seenV l n ∈ l := by
  rw [seenV]
  cases hf : l.find? fun v => decide (v.num ≤ n) with
  | none => exact .inl rfl
  | some u => exact .inr (List.mem_of_find?_eq_some hf)

/-! ### Scan -/
theorem inRange_all (k : ByteArray) : inRange noStr noStr k = true := by
  have e : ∀ l : List UInt8, Op.bytesLess l [] = false := fun l => by cases l <;> rfl
  have e2 : noStr.toList = [] := by rw [ByteArray.toList_eq]; rfl
  simp [inRange, lessS, e, e2]
theorem scanAll_part (m : KV) (a b : ByteArray) (n : Nat) : scanAll m a b n = (scanAll m noStr noStr n).filter fun x => inRange a b x.key := by
  rw [scanAll, scanAll, List.filter_map, List.filter_filter]
  congr 1
  refine List.filter_congr fun p _ => ?_
  simp [Function.comp, inRange_all]
theorem scanAll_len (m : KV) (a b : ByteArray) (n : Nat) : (scanAll m a b n).length ≤ m.length := by
  rw [scanAll, List.length_map]; exact List.length_filter_le _ _
theorem scanAll_mem {m : KV} (h : RisesK m) {a b : ByteArray} {n : Nat} {x : It} (hx : x ∈ scanAll m a b n) : (⟨x.num, x.val⟩ : Ver) = seenV (getK m x.key) n ∧ x.val.kind ≠ 0 ∧ ∃ p ∈ m, p.1 = x.key := by
  obtain ⟨p, hp, rfl⟩ := List.mem_map.1 hx
  obtain ⟨hp, hc⟩ := List.mem_filter.1 hp
  simp only [Bool.and_eq_true, Bool.not_eq_true', decide_eq_false_iff_not] at hc
  refine ⟨?_, hc.2, p, hp, rfl⟩
  rw [getK_mem h (l := p.2) hp]
theorem scanAll_rises {m : KV} (h : RisesK m) (a b : ByteArray) (n : Nat) : (scanAll m a b n).Pairwise fun x y => lessS x.key y.key = true := by
  rw [scanAll, List.pairwise_map]
  exact (List.Pairwise.filter _ h)
theorem scanAll_next {m : KV} (h : RisesK m) {a b : ByteArray} {n k : Nat} (hk : k + 1 < (scanAll m a b n).length) : lessS ((scanAll m a b n).getD k noIt).key ((scanAll m a b n).getD (k + 1) noIt).key = true := by
  have := List.pairwise_iff_getElem.1 (scanAll_rises h a b n) k (k + 1) (by omega) hk (by omega)
  rw [List.getD_eq_getElem?_getD, List.getElem?_eq_getElem (by omega), List.getD_eq_getElem?_getD, List.getElem?_eq_getElem hk]
  exact this

/-! ### Collect -/
theorem scanAll_colK {m : KV} (h : RisesK m) (a b : ByteArray) {low n : Nat} (hn : low ≤ n) : scanAll (colK m low) a b n = scanAll m a b n := by
  induction m with
  | nil => rfl
  | cons p m ih =>
    obtain ⟨h1, h2⟩ := List.pairwise_cons.1 h
    have hs := seen_colV p.2 hn
    have e0 : ∀ (q : ByteArray × List Ver) (r : KV), scanAll (q :: r) a b n = (if scanP a b n q then [scanIt q n] else []) ++ scanAll r a b n := fun q r => by
      rw [scanAll_eq, scanAll_eq, List.filter_cons]
      split
      · rfl
      · rfl
    have hp : scanP a b n (p.1, colV p.2 low) = scanP a b n p := by rw [scanP, scanP]; simp only [hs.1]
    rw [colK]
    split
    · rename_i he
      have h0 : colV p.2 low = [] := by simpa using he
      rw [h0] at hs
      have : scanP a b n p = false := by
        rw [scanP]
        have hk : (seenV p.2 n).val.kind = 0 := hs.1.symm
        simp [hk]
      rw [ih h2, e0, this]
      rfl
    · rw [e0, e0, ih h2, hp]
      split
      · rename_i hsp
        have hk : (seenV p.2 n).val.kind ≠ 0 := by
          rw [scanP] at hsp
          simp only [Bool.and_eq_true, Bool.not_eq_true', decide_eq_false_iff_not] at hsp
          exact hsp.2
        rw [scanIt, scanIt]
        simp only [hs.2 hk]
      · rfl
theorem countK_colK {m : KV} (h : RisesK m) (hf : ∀ p ∈ m, Falls p.2) (low : Nat) : countK (colK m low) ≤ countK m := by
  rw [countK, countK, ← items_colK h hf]
  exact List.length_filter_le _ _
end Go.Proofs.YtboiafchmdflpaaGreatDoor
/- parishlaw14.act: an Op on both stores. -/
namespace Go.Proofs.YtboiafchmdflpaaGreatDoor
open Go.RowKit Go.Maps Go.Sort Go.Shelf

def atA (s : StD) (o : OpD) : Nat := (s.last + o.by8 % 5) % 18446744073709551616
def actS (s : StD) (o : OpD) : StD := if o.kind = 1 then applyS s (atA s o) o.l else if o.kind = 2 then colS s o.num else if o.kind = 5 then applyS s o.num o.l else s
abbrev opV (o : OpD) (A : Option Addr) (ca : Nat) : Value := .agg #[.int .i64 o.kind, .slice A o.l.length ca, .string o.key, .string o.upto, .int .u64 (o.num : Int), .int .u8 (o.by8 : Int)]
def ActPost (w : World) (B p q N : Nat) (s' : StD) (e : Ending) (w' : World) : Prop := e = .returned (.bool true) ∧ PairAt w' B p q (N + 12) s' ∧ Below B w w'
theorem new6 (w : World) (a b c d e f : Value) (t : TypeId) : ∃ W : World, w.alloc (.cells #[a, b, c, d, e, f] t) = W ∧ Below w.heap.size w W ∧ W.heap.size = w.heap.size + 1 ∧ W.heap[w.heap.size]? = some (.cells #[a, b, c, d, e, f] t (0, 0)) :=
  ⟨_, rfl, below1 _ _, by simp, heap_alloc_new w _⟩
theorem cells6 {w : World} {g : Nat} {a b c d e f : Value} {t : TypeId} (h : w.heap[g]? = some (.cells #[a, b, c, d, e, f] t (0, 0))) : w.cell? ⟨g, 0, none⟩ = some a ∧ w.cell? ⟨g, 1, none⟩ = some b ∧ w.cell? ⟨g, 2, none⟩ = some c ∧ w.cell? ⟨g, 3, none⟩ = some d ∧ w.cell? ⟨g, 4, none⟩ = some e ∧ w.cell? ⟨g, 5, none⟩ = some f := by
  refine ⟨?_, ?_, ?_, ?_, ?_, ?_⟩ <;> (rw [cell_of_row w g _ _ _ _ h]; rfl)
theorem act_1 (s : StD) {l : List Wr} {k t : ByteArray} {n b : Nat} : actS s ⟨1, l, k, t, n, b⟩ = applyS s (atA s ⟨1, l, k, t, n, b⟩) l := by simp [actS]
theorem act_2 (s : StD) {l : List Wr} {k t : ByteArray} {n b : Nat} : actS s ⟨2, l, k, t, n, b⟩ = colS s n := by simp [actS]
theorem act_5 (s : StD) {l : List Wr} {k t : ByteArray} {n b : Nat} : actS s ⟨5, l, k, t, n, b⟩ = applyS s n l := by simp [actS]
theorem act_3 (s : StD) {l : List Wr} {k t : ByteArray} {n b : Nat} : actS s ⟨3, l, k, t, n, b⟩ = s := by simp [actS]
theorem act_4 (s : StD) {l : List Wr} {k t : ByteArray} {n b : Nat} : actS s ⟨4, l, k, t, n, b⟩ = s := by simp [actS]
theorem act_0 (s : StD) {o : OpD} (h1 : o.kind ≠ 1) (h2 : o.kind ≠ 2) (h5 : o.kind ≠ 5) : actS s o = s := by simp [actS, h1, h2, h5]
theorem wrap_u64 (a : Nat) : IntKind.u64.wrap (a : Int) = ((a % 18446744073709551616 : Nat) : Int) := by
  simp [IntKind.wrap, IntKind.signed, IntKind.bits]
theorem atA_eq (s : StD) (o : OpD) {n : Nat} (h : atA s o = n) : IntKind.u64.wrap ((s.last : Int) + (o.by8 : Int) % 5) = (n : Int) := by
  rw [← h, atA, ← wrap_u64, Int.natCast_add, Int.natCast_emod]
  rfl
theorem scanS_len {s : StD} (hs : StOK s) (a b : ByteArray) (n : Nat) (most : Int) : (scanS s a b n most).length ≤ (items s.ks).length := by
  rw [scanS]
  split
  · exact Nat.zero_le _
  · rw [List.length_take]
    have h1 := scanAll_len s.ks a b n
    have h2 := items_ge hs.ne
    omega
set_option maxRecDepth 100000 in
set_option maxHeartbeats 8000000 in
theorem act14_any {w : World} {B p q N : Nat} {s : StD} (h : PairAt w B p q N s) (hB : B ≤ w.heap.size) (hs : StOK s) (o : OpD) (A : Option Addr) (ca : Nat) (hA : WrsAt w A o.l) (hlow : ∀ a, A = some a → 0 < o.l.length → a.block < B) (hok : OpOK o) (hfew : opFew o = true) (hT : Tabs w) (hN : N ≤ 700000) (hI : (items s.ks).length ≤ 700000) :
    Calls Tryz.prog 8 #[.pointer (some ⟨p, 0, none⟩), .pointer (some ⟨q, 0, none⟩), opV o A ca] w (ActPost w B p q N (actS s o)) := by
  obtain ⟨kd, l, key, upto, num, by8⟩ := o
  have hfw : fewW l = true ∧ key.size ≤ 1000 ∧ upto.size ≤ 1000 := by
    simp only [opFew, Bool.and_eq_true, decide_eq_true_eq] at hfew
    exact ⟨hfew.1.1, hfew.1.2, hfew.2⟩
  have h12 := fewW_len hfw.1
  have hb8 : by8 < 256 := hok.b
  have hnum : num < 18446744073709551616 := hok.n
  obtain ⟨W, eW, HB, hsz, hrow⟩ := new6 w (.int .i64 kd) (.slice A l.length ca) (.string key) (.string upto) (.int .u64 (num : Int)) (.int .u8 (by8 : Int)) 35
  obtain ⟨c0, c1, c2, c3, c4, c5⟩ := cells6 hrow
  have hWs := HB.size
  have hBW : B ≤ W.heap.size := by omega
  have HLOK := Lib.hid hok.l
  have HT := Lib.hid hT
  have HA := Lib.hid hA
  have HLOW := Lib.hid hlow
  have HP := Lib.hid h
  replace hsz := Lib.hid hsz
  clear hrow hok hT hA hlow h hfew
  unfold opV
  by_cases k1 : kd = 1
  · subst k1
    rw [act_1]
    obtain ⟨O, O2, M, E, hp⟩ := pair_ap HP.out hB hs (atA s ⟨1, l, key, upto, num, by8⟩) l A ca HA.out HLOW.out HLOK.out h12 HT.out hN hI
    obtain ⟨n, hn⟩ : ∃ n, Hid (atA s ⟨1, l, key, upto, num, by8⟩ = n) := ⟨_, rfl⟩
    rw [hn.out] at hp ⊢
    obtain ⟨O9, hR9⟩ := HP.out.ref
    obtain ⟨vv, hR9⟩ := hR9
    have r1 := keep HB hR9.c1
    have hw := atA_eq s _ hn.out
    have hnO : ¬ O w.heap.size := fun e => absurd (hp.lt1 _ e).2 (Nat.lt_irrefl _)
    have hnO2 : ¬ O2 w.heap.size := fun e => absurd (hp.lt2 _ e).2 (Nat.lt_irrefl _)
    replace hp := Lib.hid hp
    replace hnO := Lib.hid hnO
    replace hnO2 := Lib.hid hnO2
    clear hR9
    go_enter Tryz.func8, Tryz.ntmps8
    go_wp2
    go_quiet (fail)
    go_wp2
    go_region_held3 (fun w' => w'.cell? ⟨w.heap.size, 1, none⟩ = some (.slice A l.length ca))
      (first | (with_reducible exact keep (below_drew (below_drewN (Below.refl _ _) _)) c1) | (with_reducible exact d7) | (with_reducible exact d8))
      (first
        | (go_at_call 16; refine (hp.out.ap _ (keepB HB (below_drew (below_drewN (Below.refl _ _) _)))).mono ?_; rintro e w12 ⟨rfl, hS4, ho4⟩; have d7 := ho4.cell (keep (below_drew (below_drewN (Below.refl _ _) _)) c1) hnO.out)
        | (go_at_call 18; refine (hp.out.rp _ _ (keepB HB (below_drew (below_drewN (Below.refl _ _) _))) ho4).mono ?_; rintro e w13 ⟨rfl, hR5, ho5⟩; have HQ := Lib.hid (hp.out.st _ _ _ (keepB HB (below_drew (below_drewN (Below.refl _ _) _))) hS4 ho4 hR5 ho5); have d8 := ho5.cell d7 hnO2.out))
    all_goals
      go_wp2
      go_ret
      exact ⟨by simp, HQ.out.1, HQ.out.2⟩
  by_cases k2 : kd = 2
  · subst k2
    rw [act_2]
    obtain ⟨O, O2, M, hp⟩ := pair_co HP.out hB hs num hN hI
    have hnO : ¬ O w.heap.size := fun e => absurd (hp.lt1 _ e).2 (Nat.lt_irrefl _)
    obtain ⟨cn, hcn⟩ : ∃ cn, Hid (colN s num = cn) := ⟨_, rfl⟩
    obtain ⟨ce, hce⟩ : ∃ ce, Hid (colE s num = ce) := ⟨_, rfl⟩
    have HC1 : Hid (Calls Tryz.prog 19 #[.pointer (some ⟨p, 0, none⟩), .int .u64 (num : Int)] W fun e w' => e = .returned (.tuple #[.int .i64 cn, .int .i64 ce]) ∧ StoreAt w' B p M (ext O W w') (colS s num) ∧ Out O W w') := by
      have := hp.co W HB
      rw [hcn.out, hce.out] at this
      exact this
    have HC2 : Hid (∀ w2, Out O W w2 → Calls Tryz.prog 20 #[.pointer (some ⟨q, 0, none⟩), .int .u64 (num : Int)] w2 fun e w' => e = .returned (.tuple #[.int .i64 cn, .int .i64 ce]) ∧ RefAt w' B q (ext O2 w2 w') (items (colS s num).ks) (colS s num).last (colS s num).low ∧ Out O2 w2 w') := fun w2 ho => by
      have := hp.rc W w2 HB ho
      rw [hcn.out, hce.out] at this
      exact this
    replace hp := Lib.hid hp
    replace hnO := Lib.hid hnO
    clear k1
    go_enter Tryz.func8, Tryz.ntmps8
    go_wp2_with (first
      | (go_at_call 19; refine HC1.out.mono ?_; rintro e w3 ⟨rfl, hS4, ho4⟩; replace c4 := ho4.cell c4 hnO.out)
      | (go_at_call 20; refine (HC2.out _ ho4).mono ?_; rintro e w4 ⟨rfl, hR5, ho5⟩; have HQ := Lib.hid (hp.out.st _ _ _ HB hS4 ho4 hR5 ho5)))
    all_goals
      go_ret
      exact ⟨by simp, HQ.out.1, HQ.out.2⟩
  by_cases k3 : kd = 3
  · subst k3
    rw [act_3]
    obtain ⟨O, M, hM, hSt⟩ := HP.out.store
    obtain ⟨O2, hRf⟩ := HP.out.ref
    obtain ⟨v, hv⟩ : ∃ v, Hid (getV s key num = v) := ⟨_, rfl⟩
    obtain ⟨er, her⟩ : ∃ er, Hid (oldE s num = er) := ⟨_, rfl⟩
    have hkm : key.size ≤ maxLen := by unfold maxLen; omega
    have HG : Hid (∀ wz, Below W.heap.size W wz → Calls Tryz.prog 21 #[.pointer (some ⟨p, 0, none⟩), .string key, .int .u64 (num : Int)] wz (GetPost wz v er)) := fun wz hz => by
      have := get14_any (hSt.later (keepB HB hz)) key hkm num (Nat.le_trans (getK_len _ _) (by omega))
      rw [hv.out, her.out] at this
      exact this
    have HRG : Hid (∀ wz, Below W.heap.size W wz → Calls Tryz.prog 22 #[.pointer (some ⟨q, 0, none⟩), .string key, .int .u64 (num : Int)] wz (GetPost wz v er)) := fun wz hz => by
      have := refGet_any (hRf.later (keepB HB hz)) key num (by omega)
      rw [(rGet_eq hs key num).1, (rGet_eq hs key num).2, hv.out, her.out] at this
      exact this
    clear k1 k2 hSt hRf
    go_enter Tryz.func8, Tryz.ntmps8
    go_wp2_with (first
      | (go_at_call 21; refine (HG.out _ (Below.refl _ _)).mono ?_; rintro e w3 ⟨rfl, hb3⟩; obtain ⟨w4, ew4, hb4, hsz4, hrow4⟩ := new3 w3 (.int .i64 v.val.kind) (.int .u64 (v.val.bits : Int)) (.string v.val.text) 53; obtain ⟨x0, x1, x2, _⟩ := cells3 hrow4; replace c2 := keep hb4 (keep hb3 c2); replace c4 := keep hb4 (keep hb3 c4); have hw4 := keepB hb3 hb4; clear hrow4)
      | (go_at_call 22; refine (HRG.out _ hw4).mono ?_; rintro e w5 ⟨rfl, hb5⟩; obtain ⟨w6, ew6, hb6, hsz6, hrow6⟩ := new3 w5 (.int .i64 v.val.kind) (.int .u64 (v.val.bits : Int)) (.string v.val.text) 53; obtain ⟨y0, y1, y2, _⟩ := cells3 hrow6; replace x0 := keep hb6 (keep hb5 x0); replace x1 := keep hb6 (keep hb5 x1); replace x2 := keep hb6 (keep hb5 x2); have hw6 := keepB hw4 (keepB hb5 hb6); clear hrow6))
    all_goals
      go_ret
      exact ⟨by simp, (HP.out.later (keepB HB hw6)).up (by omega), (keepB HB hw6).mono hB⟩
  by_cases k4 : kd = 4
  · subst k4
    rw [act_4]
    obtain ⟨O, M, hM, hSt⟩ := HP.out.store
    obtain ⟨O2, hRf⟩ := HP.out.ref
    obtain ⟨L, hL⟩ : ∃ L, Hid (scanS s key upto num ((by8 : Int) - 2) = L) := ⟨_, rfl⟩
    obtain ⟨er, her⟩ : ∃ er, Hid (oldE s num = er) := ⟨_, rfl⟩
    have hLl : L.length ≤ 800000 := by rw [← hL.out]; exact Nat.le_trans (scanS_len hs _ _ _ _) (by omega)
    have HG : Hid (Calls Tryz.prog 23 #[.pointer (some ⟨p, 0, none⟩), .string key, .string upto, .int .u64 (num : Int), .int .i64 ((by8 : Int) - 2)] W (ScanPost W L er)) := by
      have := scan14_any (hSt.later HB) hs key upto num ((by8 : Int) - 2) (by omega)
      rw [hL.out, her.out] at this
      exact this
    have HRG : Hid (∀ wz, Below W.heap.size W wz → Calls Tryz.prog 24 #[.pointer (some ⟨q, 0, none⟩), .string key, .string upto, .int .u64 (num : Int), .int .i64 ((by8 : Int) - 2)] wz (RScanPost wz L er)) := fun wz hz => by
      have := refScan_any (hRf.later (keepB HB hz)) key upto num ((by8 : Int) - 2) (by omega)
      rw [rScan_eq hs, (rGet_eq hs key num).2, hL.out, her.out] at this
      exact this
    have hsm := sameI_yes (rfl : L = L)
    replace hsm := Lib.hid hsm
    clear k1 k2 k3 hSt hRf
    go_enter Tryz.func8, Tryz.ntmps8
    go_wp2_with (first
      | (go_at_call 23; refine HG.out.mono ?_; rintro e w3 ⟨v3, rfl, hr3, hb3⟩; obtain ⟨A3, cA3, rfl, _, hI3⟩ := own_its hr3; replace c2 := keep hb3 c2; replace c3 := keep hb3 c3; replace c4 := keep hb3 c4; replace c5 := keep hb3 c5; clear hr3)
      | (go_at_call 24; refine (HRG.out _ hb3).mono ?_; rintro e w4 ⟨v4, rfl, hr4, hb4⟩; obtain ⟨A4, cA4, rfl, _, hI4⟩ := own_its hr4; clear hr4)
      | (go_at_call 26; refine (items14_any L A3 cA3 (hI3.later hb4) hLl).mono ?_; rintro e w5 ⟨v5, rfl, hr5, hb5⟩; obtain ⟨A5, cA5, rfl, _, hI5⟩ := own_its hr5; clear hr5)
      | (go_at_call 25; refine (calls_b14' hsm.out (refSame_any L L A5 A4 cA5 cA4 hI5 (hI4.later hb5) (by omega))).mono ?_; rintro e w6 ⟨rfl, hb6⟩; have hw6 := keepB hb3 (keepB hb4 (keepB hb5 hb6))))
    all_goals
      go_ret
      exact ⟨by simp, (HP.out.later (keepB HB hw6)).up (by omega), (keepB HB hw6).mono hB⟩
  by_cases k5 : kd = 5
  · subst k5
    rw [act_5]
    obtain ⟨O, O2, M, E, hp⟩ := pair_ap HP.out hB hs num l A ca HA.out HLOW.out HLOK.out h12 HT.out hN hI
    have hnO : ¬ O w.heap.size := fun e => absurd (hp.lt1 _ e).2 (Nat.lt_irrefl _)
    have hnO2 : ¬ O2 w.heap.size := fun e => absurd (hp.lt2 _ e).2 (Nat.lt_irrefl _)
    replace hp := Lib.hid hp
    replace hnO := Lib.hid hnO
    replace hnO2 := Lib.hid hnO2
    clear k1 k2 k3 k4
    go_enter Tryz.func8, Tryz.ntmps8
    go_wp2
    go_region_held3 (fun w' => w'.cell? ⟨w.heap.size, 1, none⟩ = some (.slice A l.length ca) ∧ w'.cell? ⟨w.heap.size, 4, none⟩ = some (.int .u64 (num : Int)))
      (first | (with_reducible exact ⟨keep (below_drew (Below.refl _ _)) c1, keep (below_drew (Below.refl _ _)) c4⟩) | (with_reducible exact ⟨d7, e7⟩) | (with_reducible exact ⟨d8, e8⟩))
      (first
        | (go_at_call 16; refine (hp.out.ap _ (keepB HB (below_drew (Below.refl _ _)))).mono ?_; rintro e w12 ⟨rfl, hS4, ho4⟩; have d7 := ho4.cell (keep (below_drew (Below.refl _ _)) c1) hnO.out; have e7 := ho4.cell (keep (below_drew (Below.refl _ _)) c4) hnO.out)
        | (go_at_call 18; refine (hp.out.rp _ _ (keepB HB (below_drew (Below.refl _ _))) ho4).mono ?_; rintro e w13 ⟨rfl, hR5, ho5⟩; have HQ := Lib.hid (hp.out.st _ _ _ (keepB HB (below_drew (Below.refl _ _))) hS4 ho4 hR5 ho5); have d8 := ho5.cell d7 hnO2.out; have e8 := ho5.cell e7 hnO2.out))
    all_goals
      go_wp2
      go_ret
      exact ⟨by simp, HQ.out.1, HQ.out.2⟩
  · rw [act_0 s k1 k2 k5]
    have b1 : (kd == 1) = false := by rw [beq_eq_false_iff_ne]; exact k1
    have b2 : (kd == 2) = false := by rw [beq_eq_false_iff_ne]; exact k2
    have b3 : (kd == 3) = false := by rw [beq_eq_false_iff_ne]; exact k3
    have b4 : (kd == 4) = false := by rw [beq_eq_false_iff_ne]; exact k4
    have b5 : (kd == 5) = false := by rw [beq_eq_false_iff_ne]; exact k5
    clear k1 k2 k3 k4 k5
    go_enter Tryz.func8, Tryz.ntmps8
    go_wp2
    go_ret
    exact ⟨rfl, (HP.out.later HB).up (by omega), HB.mono hB⟩
end Go.Proofs.YtboiafchmdflpaaGreatDoor
/- Scripts in plain Lean: what both stores are behind the first acts. -/
namespace Go.Proofs.YtboiafchmdflpaaGreatDoor
open Go.RowKit Go.Maps Go.Sort Go.Shelf

def scrTo (l : List OpD) : Nat → StD
  | 0 => st0
  | k + 1 => actS (scrTo l k) (l.getD k noOp)
theorem scrTo_succ (l : List OpD) (k : Nat) : scrTo l (k + 1) = actS (scrTo l k) (l.getD k noOp) := rfl
theorem actS_ok {s : StD} (h : StOK s) (o : OpD) : StOK (actS s o) := by
  rw [actS]
  split
  · exact apply_ok h _ _
  · split
    · exact col_ok h _
    · split
      · exact apply_ok h _ _
      · exact h
theorem scrTo_ok (l : List OpD) : ∀ k, StOK (scrTo l k)
  | 0 => st0_ok
  | k + 1 => actS_ok (scrTo_ok l k) _
theorem actS_len {s : StD} (h : StOK s) {o : OpD} (ho : opFew o = true) : (items (actS s o).ks).length ≤ (items s.ks).length + 12 := by
  have h12 : o.l.length ≤ 12 := by
    simp only [opFew, Bool.and_eq_true] at ho
    exact fewW_len ho.1.1
  rw [actS]
  split
  · have := items_apply_len h (atA s o) o.l; omega
  · split
    · rw [colS]
      split
      · have := colP_items h o.num
        show (items (colK s.ks o.num)).length ≤ _
        omega
      · omega
    · split
      · have := items_apply_len h o.num o.l; omega
      · omega
theorem fewS_at {l : List OpD} (h : fewS l = true) : l.length ≤ 60 ∧ ∀ k, k < l.length → opFew (l.getD k noOp) = true := by
  simp only [fewS, Bool.and_eq_true, decide_eq_true_eq] at h
  refine ⟨h.2, fun k hk => ?_⟩
  have h1 := h.1
  rw [List.take_of_length_le (by omega)] at h1
  rw [List.getD_eq_getElem?_getD, List.getElem?_eq_getElem hk]
  exact List.all_eq_true.1 h1 _ (List.getElem_mem hk)
theorem scrTo_len {l : List OpD} (h : fewS l = true) : ∀ k, k ≤ l.length → (items (scrTo l k).ks).length ≤ 12 * k
  | 0, _ => Nat.le_refl _
  | k + 1, hk => by
    have h1 := scrTo_len h k (by omega)
    have h2 := actS_len (scrTo_ok l k) ((fewS_at h).2 k (by omega))
    rw [scrTo_succ]
    omega
theorem OpsAt.low {w : World} {S : Option Addr} {l : List OpD} {LA : Nat → Option Addr} {LC : Nat → Nat} (h : OpsAt w S l LA LC) {k : Nat} (hk : k < l.length) {B : Nat} (hB : w.heap.size ≤ B) : ∀ a, LA k = some a → 0 < (l.getD k noOp).l.length → a.block < B := by
  intro a e hl
  obtain ⟨b, off, _, _, _, _, _, _, _, h6⟩ := h k hk
  obtain ⟨b2, off2, e2, h0, _⟩ := h6 0 hl
  rw [e] at e2
  cases e2
  have h9 : b2 < w.heap.size := blk_lt h0
  show b2 < B
  omega
/-- act, at a script's act. -/
theorem act_step {w wi : World} {B p q : Nat} {l : List OpD} {S : Option Addr} {LA : Nat → Option Addr} {LC : Nat → Nat} {k : Nat} (hS : OpsAt w S l LA LC) (hw : Below w.heap.size w wi) (hB : w.heap.size ≤ B) (hBw : B ≤ wi.heap.size) (hok : ∀ i, i < l.length → OpOK (l.getD i noOp)) (hf : fewS l = true) (hT : Tabs w) (hk : k < l.length) (h : PairAt wi B p q (12 * k) (scrTo l k)) :
    Calls Tryz.prog 8 #[.pointer (some ⟨p, 0, none⟩), .pointer (some ⟨q, 0, none⟩), opV (l.getD k noOp) (LA k) (LC k)] wi fun e w' => e = .returned (.bool true) ∧ PairAt w' B p q (12 * (k + 1)) (scrTo l (k + 1)) ∧ Below B wi w' := by
  have h6 := fewS_at hf
  have hlen := scrTo_len hf k (by omega)
  obtain ⟨b, off, _, _, _, _, _, _, _, d6⟩ := hS k hk
  have := act14_any h hBw (scrTo_ok l k) (l.getD k noOp) (LA k) (LC k) (d6.later hw) (hS.low hk hB) (hok k hk) (h6.2 k hk) (hT.later hw) (by omega) (by omega)
  exact this
/-- What a law asks of the store behind the script. -/
structure Behind (wi : World) (B p : Nat) (s : StD) (M : Nat) (O : Nat → Prop) : Prop where
  st : StoreAt wi B p M O s
  ok : StOK s
  few : (items s.ks).length ≤ 720
  n : M ≤ 720
theorem behind {wi : World} {B p q : Nat} {l : List OpD} (hf : fewS l = true) (h : PairAt wi B p q (12 * l.length) (scrTo l l.length)) : ∃ M O, Behind wi B p (scrTo l l.length) M O := by
  have h6 := fewS_at hf
  have hlen := scrTo_len hf l.length (Nat.le_refl _)
  obtain ⟨O, M, hM, hs⟩ := h.store
  exact ⟨M, O, hs, scrTo_ok _ _, by omega, by omega⟩
theorem Behind.get {wi : World} {B p : Nat} {s : StD} {M : Nat} {O : Nat → Prop} (h : Behind wi B p s M O) {wz : World} (hz : Below wi.heap.size wi wz) {x : ByteArray} (hx : x.size ≤ 1000) {n : Nat} {v : Ver} (hn : s.low ≤ n) (hv : seenV (getK s.ks x) n = v) :
    Calls Tryz.prog 21 #[.pointer (some ⟨p, 0, none⟩), .string x, .int .u64 (n : Int)] wz (GetPost wz v 0) := by
  have := get14_any (h.st.later hz) x (by unfold maxLen; omega) n (Nat.le_trans (getK_len _ _) (by have := h.few; omega))
  rw [getV, oldE, if_neg (by omega), if_neg (by omega), hv] at this
  exact this
theorem Behind.scan {wi : World} {B p : Nat} {s : StD} {M : Nat} {O : Nat → Prop} (h : Behind wi B p s M O) {wz : World} (hz : Below wi.heap.size wi wz) {a b : ByteArray} {n : Nat} {L : List It} (hn : s.low ≤ n) (hL : scanAll s.ks a b n = L) :
    Calls Tryz.prog 23 #[.pointer (some ⟨p, 0, none⟩), .string a, .string b, .int .u64 (n : Int), .int .i64 1000] wz (ScanPost wz L 0) := by
  have := scan14_any (h.st.later hz) h.ok a b n 1000 (by have := h.few; omega)
  have hl : (scanAll s.ks a b n).length ≤ 1000 := by
    have h1 := scanAll_len s.ks a b n
    have h2 := items_ge h.ok.ne
    have h3 := h.few
    omega
  rw [scanS, oldE, if_neg (by omega), if_neg (by omega), List.take_of_length_le (by simpa using hl), hL] at this
  exact this
end Go.Proofs.YtboiafchmdflpaaGreatDoor
