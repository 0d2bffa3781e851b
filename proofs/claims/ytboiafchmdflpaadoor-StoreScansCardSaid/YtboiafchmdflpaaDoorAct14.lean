/- parishlaw14.act: an Op on both stores. -/
import Derived.Test.YtboiafchmdflpaaDoorPair14
import Derived.Test.YtboiafchmdflpaaDoorItems14
import Derived.Test.YtboiafchmdflpaaDoorSame14
import Derived.Test.YtboiafchmdflpaaDoorSeeM14
namespace Go.Proofs.YtboiafchmdflpaaDoor
open Go.RowKit Go.Maps Go.Sort Go.Shelf

def atA (s : StD) (o : OpD) : Nat := (s.last + o.by8 % 5) % 18446744073709551616
def actS (s : StD) (o : OpD) : StD := if o.kind = 1 then applyS s (atA s o) o.l else if o.kind = 2 then colS s o.num else if o.kind = 5 then applyS s o.num o.l else s
abbrev opV (o : OpD) (A : Option Addr) (ca : Nat) : Value := .agg #[.int .i64 o.kind, .slice A o.l.length ca, .string o.key, .string o.upto, .int .u64 (o.num : Int), .int .u8 (o.by8 : Int)]
def ActPost (w : World) (B p q N : Nat) (s' : StD) (e : Ending) (w' : World) : Prop := e = .returned (.bool true) ∧ PairAt w' B p q (N + 12) s' ∧ Below B w w'
theorem new6 (w : World) (a b c d e f : Value) (t : TypeId) : ∃ W : World, w.alloc (.cells #[a, b, c, d, e, f] t) = W ∧ Below w.heap.size w W ∧ W.heap.size = w.heap.size + 1 ∧ W.heap[w.heap.size]? = some (.cells #[a, b, c, d, e, f] t (0, 0)) :=
  ⟨_, rfl, below1 _ _, by simp, heap_alloc_new w _⟩
theorem cells6 {w : World} {g : Nat} {a b c d e f : Value} {t : TypeId} (h : w.heap[g]? = some (.cells #[a, b, c, d, e, f] t (0, 0))) : w.cell? ⟨g, 0, none⟩ = some a ∧ w.cell? ⟨g, 1, none⟩ = some b ∧ w.cell? ⟨g, 2, none⟩ = some c ∧ w.cell? ⟨g, 3, none⟩ = some d ∧ w.cell? ⟨g, 4, none⟩ = some e ∧ w.cell? ⟨g, 5, none⟩ = some f := by
  refine ⟨?_, ?_, ?_, ?_, ?_, ?_⟩ <;> (rw [cell_of_row w g _ _ _ _ h]; rfl)
theorem act_1 (s : StD) {l : List Wr} {k t : ByteArray} {n b : Nat} : actS s ⟨1, l, k, t, n, b⟩ = applyS s (atA s ⟨1, l, k, t, n, b⟩) l := by simp [actS]
theorem act_2 (s : StD) {l : List Wr} {k t : ByteArray} {n b : Nat} : actS s ⟨2, l, k, t, n, b⟩ = colS s n := by simp [actS]
theorem act_5 (s : StD) {l : List Wr} {k t : ByteArray} {n b : Nat} : actS s ⟨5, l, k, t, n, b⟩ = applyS s n l := by simp [actS]
theorem act_3 (s : StD) {l : List Wr} {k t : ByteArray} {n b : Nat} : actS s ⟨3, l, k, t, n, b⟩ = s := by simp [actS]
theorem act_4 (s : StD) {l : List Wr} {k t : ByteArray} {n b : Nat} : actS s ⟨4, l, k, t, n, b⟩ = s := by simp [actS]
theorem act_0 (s : StD) {o : OpD} (h1 : o.kind ≠ 1) (h2 : o.kind ≠ 2) (h5 : o.kind ≠ 5) : actS s o = s := by simp [actS, h1, h2, h5]
theorem wrap_u64 (a : Nat) : IntKind.u64.wrap (a : Int) = ((a % 18446744073709551616 : Nat) : Int) := by
  simp [IntKind.wrap, IntKind.signed, IntKind.bits]
theorem atA_eq (s : StD) (o : OpD) {n : Nat} (h : atA s o = n) : IntKind.u64.wrap ((s.last : Int) + (o.by8 : Int) % 5) = (n : Int) := by
  rw [← h, atA, ← wrap_u64, Int.natCast_add, Int.natCast_emod]
  rfl
theorem scanS_len {s : StD} (hs : StOK s) (a b : ByteArray) (n : Nat) (most : Int) : (scanS s a b n most).length ≤ (items s.ks).length := by
  rw [scanS]
  split
  · exact Nat.zero_le _
  · rw [List.length_take]
    have h1 := scanAll_len s.ks a b n
    have h2 := items_ge hs.ne
    omega
set_option maxRecDepth 100000 in
set_option maxHeartbeats 8000000 in
theorem act14_any {w : World} {B p q N : Nat} {s : StD} (h : PairAt w B p q N s) (hB : B ≤ w.heap.size) (hs : StOK s) (o : OpD) (A : Option Addr) (ca : Nat) (hA : WrsAt w A o.l) (hlow : ∀ a, A = some a → 0 < o.l.length → a.block < B) (hok : OpOK o) (hfew : opFew o = true) (hT : Tabs w) (hN : N ≤ 700000) (hI : (items s.ks).length ≤ 700000) :
    Calls Tryd.prog 14 #[.pointer (some ⟨p, 0, none⟩), .pointer (some ⟨q, 0, none⟩), opV o A ca] w (ActPost w B p q N (actS s o)) := by
  obtain ⟨kd, l, key, upto, num, by8⟩ := o
  have hfw : fewW l = true ∧ key.size ≤ 1000 ∧ upto.size ≤ 1000 := by
    simp only [opFew, Bool.and_eq_true, decide_eq_true_eq] at hfew
    exact ⟨hfew.1.1, hfew.1.2, hfew.2⟩
  have h12 := fewW_len hfw.1
  have hb8 : by8 < 256 := hok.b
  have hnum : num < 18446744073709551616 := hok.n
  obtain ⟨W, eW, HB, hsz, hrow⟩ := new6 w (.int .i64 kd) (.slice A l.length ca) (.string key) (.string upto) (.int .u64 (num : Int)) (.int .u8 (by8 : Int)) 36
  obtain ⟨c0, c1, c2, c3, c4, c5⟩ := cells6 hrow
  have hWs := HB.size
  have hBW : B ≤ W.heap.size := by omega
  have HLOK := Lib.hid hok.l
  have HT := Lib.hid hT
  have HA := Lib.hid hA
  have HLOW := Lib.hid hlow
  have HP := Lib.hid h
  replace hsz := Lib.hid hsz
  clear hrow hok hT hA hlow h hfew
  unfold opV
  by_cases k1 : kd = 1
  · subst k1
    rw [act_1]
    obtain ⟨O, O2, M, E, hp⟩ := pair_ap HP.out hB hs (atA s ⟨1, l, key, upto, num, by8⟩) l A ca HA.out HLOW.out HLOK.out h12 HT.out hN hI
    obtain ⟨n, hn⟩ : ∃ n, Hid (atA s ⟨1, l, key, upto, num, by8⟩ = n) := ⟨_, rfl⟩
    rw [hn.out] at hp ⊢
    obtain ⟨O9, hR9⟩ := HP.out.ref
    obtain ⟨vv, hR9⟩ := hR9
    have r1 := keep HB hR9.c1
    have hw := atA_eq s _ hn.out
    have hnO : ¬ O w.heap.size := fun e => absurd (hp.lt1 _ e).2 (Nat.lt_irrefl _)
    have hnO2 : ¬ O2 w.heap.size := fun e => absurd (hp.lt2 _ e).2 (Nat.lt_irrefl _)
    replace hp := Lib.hid hp
    replace hnO := Lib.hid hnO
    replace hnO2 := Lib.hid hnO2
    clear hR9
    go_enter Tryd.func14, Tryd.ntmps14
    go_wp2
    go_quiet (fail)
    go_wp2
    go_region_held3 (fun w' => w'.cell? ⟨w.heap.size, 1, none⟩ = some (.slice A l.length ca))
      (first | (with_reducible exact keep (below_drew (below_drewN (Below.refl _ _) _)) c1) | (with_reducible exact d7) | (with_reducible exact d8))
      (first
        | (go_at_call 29; refine (hp.out.ap _ (keepB HB (below_drew (below_drewN (Below.refl _ _) _)))).mono ?_; rintro e w12 ⟨rfl, hS4, ho4⟩; have d7 := ho4.cell (keep (below_drew (below_drewN (Below.refl _ _) _)) c1) hnO.out)
        | (go_at_call 30; refine (hp.out.rp _ _ (keepB HB (below_drew (below_drewN (Below.refl _ _) _))) ho4).mono ?_; rintro e w13 ⟨rfl, hR5, ho5⟩; have HQ := Lib.hid (hp.out.st _ _ _ (keepB HB (below_drew (below_drewN (Below.refl _ _) _))) hS4 ho4 hR5 ho5); have d8 := ho5.cell d7 hnO2.out))
    all_goals
      go_wp2
      go_ret
      exact ⟨by simp, HQ.out.1, HQ.out.2⟩
  by_cases k2 : kd = 2
  · subst k2
    rw [act_2]
    obtain ⟨O, O2, M, hp⟩ := pair_co HP.out hB hs num hN hI
    have hnO : ¬ O w.heap.size := fun e => absurd (hp.lt1 _ e).2 (Nat.lt_irrefl _)
    obtain ⟨cn, hcn⟩ : ∃ cn, Hid (colN s num = cn) := ⟨_, rfl⟩
    obtain ⟨ce, hce⟩ : ∃ ce, Hid (colE s num = ce) := ⟨_, rfl⟩
    have HC1 : Hid (Calls Tryd.prog 17 #[.pointer (some ⟨p, 0, none⟩), .int .u64 (num : Int)] W fun e w' => e = .returned (.tuple #[.int .i64 cn, .int .i64 ce]) ∧ StoreAt w' B p M (ext O W w') (colS s num) ∧ Out O W w') := by
      have := hp.co W HB
      rw [hcn.out, hce.out] at this
      exact this
    have HC2 : Hid (∀ w2, Out O W w2 → Calls Tryd.prog 37 #[.pointer (some ⟨q, 0, none⟩), .int .u64 (num : Int)] w2 fun e w' => e = .returned (.tuple #[.int .i64 cn, .int .i64 ce]) ∧ RefAt w' B q (ext O2 w2 w') (items (colS s num).ks) (colS s num).last (colS s num).low ∧ Out O2 w2 w') := fun w2 ho => by
      have := hp.rc W w2 HB ho
      rw [hcn.out, hce.out] at this
      exact this
    replace hp := Lib.hid hp
    replace hnO := Lib.hid hnO
    clear k1
    go_enter Tryd.func14, Tryd.ntmps14
    go_wp2_with (first
      | (go_at_call 17; refine HC1.out.mono ?_; rintro e w3 ⟨rfl, hS4, ho4⟩; replace c4 := ho4.cell c4 hnO.out)
      | (go_at_call 37; refine (HC2.out _ ho4).mono ?_; rintro e w4 ⟨rfl, hR5, ho5⟩; have HQ := Lib.hid (hp.out.st _ _ _ HB hS4 ho4 hR5 ho5)))
    all_goals
      go_ret
      exact ⟨by simp, HQ.out.1, HQ.out.2⟩
  by_cases k3 : kd = 3
  · subst k3
    rw [act_3]
    obtain ⟨O, M, hM, hSt⟩ := HP.out.store
    obtain ⟨O2, hRf⟩ := HP.out.ref
    obtain ⟨v, hv⟩ : ∃ v, Hid (getV s key num = v) := ⟨_, rfl⟩
    obtain ⟨er, her⟩ : ∃ er, Hid (oldE s num = er) := ⟨_, rfl⟩
    have hkm : key.size ≤ maxLen := by unfold maxLen; omega
    have HG : Hid (∀ wz, Below W.heap.size W wz → Calls Tryd.prog 18 #[.pointer (some ⟨p, 0, none⟩), .string key, .int .u64 (num : Int)] wz (GetPost wz v er)) := fun wz hz => by
      have := get14_any (hSt.later (keepB HB hz)) key hkm num (Nat.le_trans (getK_len _ _) (by omega))
      rw [hv.out, her.out] at this
      exact this
    have HRG : Hid (∀ wz, Below W.heap.size W wz → Calls Tryd.prog 38 #[.pointer (some ⟨q, 0, none⟩), .string key, .int .u64 (num : Int)] wz (GetPost wz v er)) := fun wz hz => by
      have := refGet_any (hRf.later (keepB HB hz)) key num (by omega)
      rw [(rGet_eq hs key num).1, (rGet_eq hs key num).2, hv.out, her.out] at this
      exact this
    clear k1 k2 hSt hRf
    go_enter Tryd.func14, Tryd.ntmps14
    go_wp2_with (first
      | (go_at_call 18; refine (HG.out _ (Below.refl _ _)).mono ?_; rintro e w3 ⟨rfl, hb3⟩; obtain ⟨w4, ew4, hb4, hsz4, hrow4⟩ := new3 w3 (.int .i64 v.val.kind) (.int .u64 (v.val.bits : Int)) (.string v.val.text) 42; obtain ⟨x0, x1, x2, _⟩ := cells3 hrow4; replace c2 := keep hb4 (keep hb3 c2); replace c4 := keep hb4 (keep hb3 c4); have hw4 := keepB hb3 hb4; clear hrow4)
      | (go_at_call 38; refine (HRG.out _ hw4).mono ?_; rintro e w5 ⟨rfl, hb5⟩; obtain ⟨w6, ew6, hb6, hsz6, hrow6⟩ := new3 w5 (.int .i64 v.val.kind) (.int .u64 (v.val.bits : Int)) (.string v.val.text) 42; obtain ⟨y0, y1, y2, _⟩ := cells3 hrow6; replace x0 := keep hb6 (keep hb5 x0); replace x1 := keep hb6 (keep hb5 x1); replace x2 := keep hb6 (keep hb5 x2); have hw6 := keepB hw4 (keepB hb5 hb6); clear hrow6))
    all_goals
      go_ret
      exact ⟨by simp, (HP.out.later (keepB HB hw6)).up (by omega), (keepB HB hw6).mono hB⟩
  by_cases k4 : kd = 4
  · subst k4
    rw [act_4]
    obtain ⟨O, M, hM, hSt⟩ := HP.out.store
    obtain ⟨O2, hRf⟩ := HP.out.ref
    obtain ⟨L, hL⟩ : ∃ L, Hid (scanS s key upto num ((by8 : Int) - 2) = L) := ⟨_, rfl⟩
    obtain ⟨er, her⟩ : ∃ er, Hid (oldE s num = er) := ⟨_, rfl⟩
    have hLl : L.length ≤ 800000 := by rw [← hL.out]; exact Nat.le_trans (scanS_len hs _ _ _ _) (by omega)
    have HG : Hid (Calls Tryd.prog 19 #[.pointer (some ⟨p, 0, none⟩), .string key, .string upto, .int .u64 (num : Int), .int .i64 ((by8 : Int) - 2)] W (ScanPost W L er)) := by
      have := scan14_any (hSt.later HB) hs key upto num ((by8 : Int) - 2) (by omega)
      rw [hL.out, her.out] at this
      exact this
    have HRG : Hid (∀ wz, Below W.heap.size W wz → Calls Tryd.prog 39 #[.pointer (some ⟨q, 0, none⟩), .string key, .string upto, .int .u64 (num : Int), .int .i64 ((by8 : Int) - 2)] wz (RScanPost wz L er)) := fun wz hz => by
      have := refScan_any (hRf.later (keepB HB hz)) key upto num ((by8 : Int) - 2) (by omega)
      rw [rScan_eq hs, (rGet_eq hs key num).2, hL.out, her.out] at this
      exact this
    have hsm := sameI_yes (rfl : L = L)
    replace hsm := Lib.hid hsm
    clear k1 k2 k3 hSt hRf
    go_enter Tryd.func14, Tryd.ntmps14
    go_wp2_with (first
      | (go_at_call 19; refine HG.out.mono ?_; rintro e w3 ⟨v3, rfl, hr3, hb3⟩; obtain ⟨A3, cA3, rfl, _, hI3⟩ := own_its hr3; replace c2 := keep hb3 c2; replace c3 := keep hb3 c3; replace c4 := keep hb3 c4; replace c5 := keep hb3 c5; clear hr3)
      | (go_at_call 39; refine (HRG.out _ hb3).mono ?_; rintro e w4 ⟨v4, rfl, hr4, hb4⟩; obtain ⟨A4, cA4, rfl, _, hI4⟩ := own_its hr4; clear hr4)
      | (go_at_call 21; refine (items14_any L A3 cA3 (hI3.later hb4) hLl).mono ?_; rintro e w5 ⟨v5, rfl, hr5, hb5⟩; obtain ⟨A5, cA5, rfl, _, hI5⟩ := own_its hr5; clear hr5)
      | (go_at_call 20; refine (calls_b14' hsm.out (refSame_any L L A5 A4 cA5 cA4 hI5 (hI4.later hb5) (by omega))).mono ?_; rintro e w6 ⟨rfl, hb6⟩; have hw6 := keepB hb3 (keepB hb4 (keepB hb5 hb6))))
    all_goals
      go_ret
      exact ⟨by simp, (HP.out.later (keepB HB hw6)).up (by omega), (keepB HB hw6).mono hB⟩
  by_cases k5 : kd = 5
  · subst k5
    rw [act_5]
    obtain ⟨O, O2, M, E, hp⟩ := pair_ap HP.out hB hs num l A ca HA.out HLOW.out HLOK.out h12 HT.out hN hI
    have hnO : ¬ O w.heap.size := fun e => absurd (hp.lt1 _ e).2 (Nat.lt_irrefl _)
    have hnO2 : ¬ O2 w.heap.size := fun e => absurd (hp.lt2 _ e).2 (Nat.lt_irrefl _)
    replace hp := Lib.hid hp
    replace hnO := Lib.hid hnO
    replace hnO2 := Lib.hid hnO2
    clear k1 k2 k3 k4
    go_enter Tryd.func14, Tryd.ntmps14
    go_wp2
    go_region_held3 (fun w' => w'.cell? ⟨w.heap.size, 1, none⟩ = some (.slice A l.length ca) ∧ w'.cell? ⟨w.heap.size, 4, none⟩ = some (.int .u64 (num : Int)))
      (first | (with_reducible exact ⟨keep (below_drew (Below.refl _ _)) c1, keep (below_drew (Below.refl _ _)) c4⟩) | (with_reducible exact ⟨d7, e7⟩) | (with_reducible exact ⟨d8, e8⟩))
      (first
        | (go_at_call 29; refine (hp.out.ap _ (keepB HB (below_drew (Below.refl _ _)))).mono ?_; rintro e w12 ⟨rfl, hS4, ho4⟩; have d7 := ho4.cell (keep (below_drew (Below.refl _ _)) c1) hnO.out; have e7 := ho4.cell (keep (below_drew (Below.refl _ _)) c4) hnO.out)
        | (go_at_call 30; refine (hp.out.rp _ _ (keepB HB (below_drew (Below.refl _ _))) ho4).mono ?_; rintro e w13 ⟨rfl, hR5, ho5⟩; have HQ := Lib.hid (hp.out.st _ _ _ (keepB HB (below_drew (Below.refl _ _))) hS4 ho4 hR5 ho5); have d8 := ho5.cell d7 hnO2.out; have e8 := ho5.cell e7 hnO2.out))
    all_goals
      go_wp2
      go_ret
      exact ⟨by simp, HQ.out.1, HQ.out.2⟩
  · rw [act_0 s k1 k2 k5]
    have b1 : (kd == 1) = false := by rw [beq_eq_false_iff_ne]; exact k1
    have b2 : (kd == 2) = false := by rw [beq_eq_false_iff_ne]; exact k2
    have b3 : (kd == 3) = false := by rw [beq_eq_false_iff_ne]; exact k3
    have b4 : (kd == 4) = false := by rw [beq_eq_false_iff_ne]; exact k4
    have b5 : (kd == 5) = false := by rw [beq_eq_false_iff_ne]; exact k5
    clear k1 k2 k3 k4 k5
    go_enter Tryd.func14, Tryd.ntmps14
    go_wp2
    go_ret
    exact ⟨rfl, (HP.out.later HB).up (by omega), HB.mono hB⟩
end Go.Proofs.YtboiafchmdflpaaDoor
