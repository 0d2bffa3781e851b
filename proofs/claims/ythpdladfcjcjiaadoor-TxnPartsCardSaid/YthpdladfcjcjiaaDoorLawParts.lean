/- parishlaw08.TxnParts' walk. -/
import Derived.Test.YthpdladfcjcjiaaDoorPartsM08
namespace Go.Proofs.YthpdladfcjcjiaaDoor
open Go.RowKit Go.Shelf Go.Sort

theorem keep11 {wb w' : World} {a0 a1 a2 a3 a4 a5 a6 a7 a8 a9 : Addr} {v0 v1 v2 v3 v4 v5 v6 v7 v8 v9 : Value} (h0 : wb.cell? a0 = some v0) (h1 : wb.cell? a1 = some v1) (h2 : wb.cell? a2 = some v2) (h3 : wb.cell? a3 = some v3) (h4 : wb.cell? a4 = some v4) (h5 : wb.cell? a5 = some v5) (h6 : wb.cell? a6 = some v6) (h7 : wb.cell? a7 = some v7) (h8 : wb.cell? a8 = some v8) (h9 : wb.cell? a9 = some v9) (hb : Below wb.heap.size wb w') :
    w'.cell? a0 = some v0 ∧ w'.cell? a1 = some v1 ∧ w'.cell? a2 = some v2 ∧ w'.cell? a3 = some v3 ∧ w'.cell? a4 = some v4 ∧ w'.cell? a5 = some v5 ∧ w'.cell? a6 = some v6 ∧ w'.cell? a7 = some v7 ∧ w'.cell? a8 = some v8 ∧ w'.cell? a9 = some v9 ∧ Below wb.heap.size wb w' :=
  ⟨keep hb h0, keep hb h1, keep hb h2, keep hb h3, keep hb h4, keep hb h5, keep hb h6, keep hb h7, keep hb h8, keep hb h9, hb⟩
theorem cell_one_set (w : World) (p : Addr) (x v : Value) (t : TypeId) : ∀ (j : Nat) (u : Value), [v][j]? = some u → ((w.setCell p x).alloc (.cells #[v] t)).cell? ((⟨w.heap.size, 0, none⟩ : Addr).add j) = some u := by
  have := cell_one_new (w.setCell p x) v t
  rwa [World.size_setCell] at this
theorem own_slice {w : World} {base n size : Nat} {e : TypeId} {v : Value} {xs : List Value} (h : w.ownsRow base e size v n xs) : ∃ A c, v = .slice A n c := by
  rcases h.2 with ⟨rfl, rfl⟩ | ⟨g, cap, cur, rfl, _⟩
  · exact ⟨_, _, rfl⟩
  · exact ⟨_, _, rfl⟩
set_option maxRecDepth 100000 in
set_option maxHeartbeats 8000000 in
theorem law_parts (c : Cfg) (t : Tx) (A B A' B' : Option Addr) (ca cb ca' cb' : Nat) (w : World) (h : CfgAt w c A B) (ht : TxAt w t A' B') (hT : Tabs w) :
    Calls Tryd.prog 12 #[.agg #[.slice A c.reps.length ca, .slice B c.bnds.length cb], txV t A' B' ca' cb'] w fun e w' => e = .returned (.bool true) ∧ Below w.heap.size w w' := by
  unfold txV
  obtain ⟨W, eW, HB, c0, c1, d0, d1, d2, d3⟩ := box24 w (.slice A c.reps.length ca) (.slice B c.bnds.length cb) (.int .i64 t.ses) (.int .i64 t.seq) (.slice A' t.rds.length ca') (.slice B' t.wrs.length cb') 25 41
  have h := h.later HB
  have ht := ht.later HB
  have hT := hT.later HB
  obtain ⟨ft, hft⟩ : ∃ r, Hid (fewT t = r) := ⟨_, rfl⟩
  obtain ⟨fc, hfc⟩ : ∃ r, Hid (fewB c = r) := ⟨_, rfl⟩
  obtain ⟨gt, hgt⟩ : ∃ r, Hid (formedT t = r) := ⟨_, rfl⟩
  obtain ⟨gc, hgc⟩ : ∃ r, Hid (formedB c = r) := ⟨_, rfl⟩
  cases ft
  case false =>
    go_enter Tryd.func12, Tryd.ntmps12
    go_wp2_with (first
      | (go_at_call 23; refine (awake08_any _).mono ?_; rintro e w1 ⟨rfl, hb⟩; replace h := h.later hb; replace ht := ht.later hb; replace hT := hT.later hb; replace c0 := keep hb c0; replace c1 := keep hb c1; replace d0 := keep hb d0; replace d1 := keep hb d1; replace d2 := keep hb d2; replace d3 := keep hb d3; replace HB := keepB HB hb; clear hb)
      | (go_at_call 24; refine (calls_bool hft.out (few08_any t _ _ _ _ _ ht)).mono ?_; rintro e w1 ⟨rfl, hb⟩; replace h := h.later hb; replace ht := ht.later hb; replace hT := hT.later hb; replace c0 := keep hb c0; replace c1 := keep hb c1; replace d0 := keep hb d0; replace d1 := keep hb d1; replace d2 := keep hb d2; replace d3 := keep hb d3; replace HB := keepB HB hb; clear hb)
      | (go_at_call 14; refine (calls_bool hfc.out (few_any c _ _ _ _ _ h)).mono ?_; rintro e w1 ⟨rfl, hb⟩; replace h := h.later hb; replace ht := ht.later hb; replace hT := hT.later hb; replace c0 := keep hb c0; replace c1 := keep hb c1; replace d0 := keep hb d0; replace d1 := keep hb d1; replace d2 := keep hb d2; replace d3 := keep hb d3; replace HB := keepB HB hb; clear hb)
      | (go_at_call 25; refine (calls_bool hgt.out (txFormed_any t _ _ _ _ _ ht hT)).mono ?_; rintro e w1 ⟨rfl, hb⟩; replace h := h.later hb; replace ht := ht.later hb; replace hT := hT.later hb; replace c0 := keep hb c0; replace c1 := keep hb c1; replace d0 := keep hb d0; replace d1 := keep hb d1; replace d2 := keep hb d2; replace d3 := keep hb d3; replace HB := keepB HB hb; clear hb)
      | (go_at_call 49; refine (calls_bool hgc.out (refFormed_any c _ _ _ _ _ h)).mono ?_; rintro e w1 ⟨rfl, hb⟩; replace h := h.later hb; replace ht := ht.later hb; replace hT := hT.later hb; replace c0 := keep hb c0; replace c1 := keep hb c1; replace d0 := keep hb d0; replace d1 := keep hb d1; replace d2 := keep hb d2; replace d3 := keep hb d3; replace HB := keepB HB hb; clear hb))
    go_ret
    exact ⟨rfl, HB⟩
  cases fc
  case false =>
    go_enter Tryd.func12, Tryd.ntmps12
    go_wp2_with (first
      | (go_at_call 23; refine (awake08_any _).mono ?_; rintro e w1 ⟨rfl, hb⟩; replace h := h.later hb; replace ht := ht.later hb; replace hT := hT.later hb; replace c0 := keep hb c0; replace c1 := keep hb c1; replace d0 := keep hb d0; replace d1 := keep hb d1; replace d2 := keep hb d2; replace d3 := keep hb d3; replace HB := keepB HB hb; clear hb)
      | (go_at_call 24; refine (calls_bool hft.out (few08_any t _ _ _ _ _ ht)).mono ?_; rintro e w1 ⟨rfl, hb⟩; replace h := h.later hb; replace ht := ht.later hb; replace hT := hT.later hb; replace c0 := keep hb c0; replace c1 := keep hb c1; replace d0 := keep hb d0; replace d1 := keep hb d1; replace d2 := keep hb d2; replace d3 := keep hb d3; replace HB := keepB HB hb; clear hb)
      | (go_at_call 14; refine (calls_bool hfc.out (few_any c _ _ _ _ _ h)).mono ?_; rintro e w1 ⟨rfl, hb⟩; replace h := h.later hb; replace ht := ht.later hb; replace hT := hT.later hb; replace c0 := keep hb c0; replace c1 := keep hb c1; replace d0 := keep hb d0; replace d1 := keep hb d1; replace d2 := keep hb d2; replace d3 := keep hb d3; replace HB := keepB HB hb; clear hb)
      | (go_at_call 25; refine (calls_bool hgt.out (txFormed_any t _ _ _ _ _ ht hT)).mono ?_; rintro e w1 ⟨rfl, hb⟩; replace h := h.later hb; replace ht := ht.later hb; replace hT := hT.later hb; replace c0 := keep hb c0; replace c1 := keep hb c1; replace d0 := keep hb d0; replace d1 := keep hb d1; replace d2 := keep hb d2; replace d3 := keep hb d3; replace HB := keepB HB hb; clear hb)
      | (go_at_call 49; refine (calls_bool hgc.out (refFormed_any c _ _ _ _ _ h)).mono ?_; rintro e w1 ⟨rfl, hb⟩; replace h := h.later hb; replace ht := ht.later hb; replace hT := hT.later hb; replace c0 := keep hb c0; replace c1 := keep hb c1; replace d0 := keep hb d0; replace d1 := keep hb d1; replace d2 := keep hb d2; replace d3 := keep hb d3; replace HB := keepB HB hb; clear hb))
    go_ret
    exact ⟨rfl, HB⟩
  cases gt
  case false =>
    go_enter Tryd.func12, Tryd.ntmps12
    go_wp2_with (first
      | (go_at_call 23; refine (awake08_any _).mono ?_; rintro e w1 ⟨rfl, hb⟩; replace h := h.later hb; replace ht := ht.later hb; replace hT := hT.later hb; replace c0 := keep hb c0; replace c1 := keep hb c1; replace d0 := keep hb d0; replace d1 := keep hb d1; replace d2 := keep hb d2; replace d3 := keep hb d3; replace HB := keepB HB hb; clear hb)
      | (go_at_call 24; refine (calls_bool hft.out (few08_any t _ _ _ _ _ ht)).mono ?_; rintro e w1 ⟨rfl, hb⟩; replace h := h.later hb; replace ht := ht.later hb; replace hT := hT.later hb; replace c0 := keep hb c0; replace c1 := keep hb c1; replace d0 := keep hb d0; replace d1 := keep hb d1; replace d2 := keep hb d2; replace d3 := keep hb d3; replace HB := keepB HB hb; clear hb)
      | (go_at_call 14; refine (calls_bool hfc.out (few_any c _ _ _ _ _ h)).mono ?_; rintro e w1 ⟨rfl, hb⟩; replace h := h.later hb; replace ht := ht.later hb; replace hT := hT.later hb; replace c0 := keep hb c0; replace c1 := keep hb c1; replace d0 := keep hb d0; replace d1 := keep hb d1; replace d2 := keep hb d2; replace d3 := keep hb d3; replace HB := keepB HB hb; clear hb)
      | (go_at_call 25; refine (calls_bool hgt.out (txFormed_any t _ _ _ _ _ ht hT)).mono ?_; rintro e w1 ⟨rfl, hb⟩; replace h := h.later hb; replace ht := ht.later hb; replace hT := hT.later hb; replace c0 := keep hb c0; replace c1 := keep hb c1; replace d0 := keep hb d0; replace d1 := keep hb d1; replace d2 := keep hb d2; replace d3 := keep hb d3; replace HB := keepB HB hb; clear hb)
      | (go_at_call 49; refine (calls_bool hgc.out (refFormed_any c _ _ _ _ _ h)).mono ?_; rintro e w1 ⟨rfl, hb⟩; replace h := h.later hb; replace ht := ht.later hb; replace hT := hT.later hb; replace c0 := keep hb c0; replace c1 := keep hb c1; replace d0 := keep hb d0; replace d1 := keep hb d1; replace d2 := keep hb d2; replace d3 := keep hb d3; replace HB := keepB HB hb; clear hb))
    go_ret
    exact ⟨rfl, HB⟩
  cases gc
  case false =>
    go_enter Tryd.func12, Tryd.ntmps12
    go_wp2_with (first
      | (go_at_call 23; refine (awake08_any _).mono ?_; rintro e w1 ⟨rfl, hb⟩; replace h := h.later hb; replace ht := ht.later hb; replace hT := hT.later hb; replace c0 := keep hb c0; replace c1 := keep hb c1; replace d0 := keep hb d0; replace d1 := keep hb d1; replace d2 := keep hb d2; replace d3 := keep hb d3; replace HB := keepB HB hb; clear hb)
      | (go_at_call 24; refine (calls_bool hft.out (few08_any t _ _ _ _ _ ht)).mono ?_; rintro e w1 ⟨rfl, hb⟩; replace h := h.later hb; replace ht := ht.later hb; replace hT := hT.later hb; replace c0 := keep hb c0; replace c1 := keep hb c1; replace d0 := keep hb d0; replace d1 := keep hb d1; replace d2 := keep hb d2; replace d3 := keep hb d3; replace HB := keepB HB hb; clear hb)
      | (go_at_call 14; refine (calls_bool hfc.out (few_any c _ _ _ _ _ h)).mono ?_; rintro e w1 ⟨rfl, hb⟩; replace h := h.later hb; replace ht := ht.later hb; replace hT := hT.later hb; replace c0 := keep hb c0; replace c1 := keep hb c1; replace d0 := keep hb d0; replace d1 := keep hb d1; replace d2 := keep hb d2; replace d3 := keep hb d3; replace HB := keepB HB hb; clear hb)
      | (go_at_call 25; refine (calls_bool hgt.out (txFormed_any t _ _ _ _ _ ht hT)).mono ?_; rintro e w1 ⟨rfl, hb⟩; replace h := h.later hb; replace ht := ht.later hb; replace hT := hT.later hb; replace c0 := keep hb c0; replace c1 := keep hb c1; replace d0 := keep hb d0; replace d1 := keep hb d1; replace d2 := keep hb d2; replace d3 := keep hb d3; replace HB := keepB HB hb; clear hb)
      | (go_at_call 49; refine (calls_bool hgc.out (refFormed_any c _ _ _ _ _ h)).mono ?_; rintro e w1 ⟨rfl, hb⟩; replace h := h.later hb; replace ht := ht.later hb; replace hT := hT.later hb; replace c0 := keep hb c0; replace c1 := keep hb c1; replace d0 := keep hb d0; replace d1 := keep hb d1; replace d2 := keep hb d2; replace d3 := keep hb d3; replace HB := keepB HB hb; clear hb))
    go_ret
    exact ⟨rfl, HB⟩
  obtain ⟨hn, hm⟩ := formed_six hgt.out
  have hc20 := fewB_parts hfc.out
  obtain ⟨i0, hi, hz0, hz1, hz2⟩ := info_parts info_rd
  obtain ⟨j0, ji, jz0, jz1, jz2⟩ := info_parts info_wr
  obtain ⟨l0, li, lz0, lz1, lz2⟩ := info_parts info_int
  go_enter Tryd.func12, Tryd.ntmps12
  go_wp2_with (first
    | (go_at_call 23; refine (awake08_any _).mono ?_; rintro e w1 ⟨rfl, hb⟩; replace h := h.later hb; replace ht := ht.later hb; replace hT := hT.later hb; replace c0 := keep hb c0; replace c1 := keep hb c1; replace d0 := keep hb d0; replace d1 := keep hb d1; replace d2 := keep hb d2; replace d3 := keep hb d3; replace HB := keepB HB hb; clear hb)
    | (go_at_call 24; refine (calls_bool hft.out (few08_any t _ _ _ _ _ ht)).mono ?_; rintro e w1 ⟨rfl, hb⟩; replace h := h.later hb; replace ht := ht.later hb; replace hT := hT.later hb; replace c0 := keep hb c0; replace c1 := keep hb c1; replace d0 := keep hb d0; replace d1 := keep hb d1; replace d2 := keep hb d2; replace d3 := keep hb d3; replace HB := keepB HB hb; clear hb)
    | (go_at_call 14; refine (calls_bool hfc.out (few_any c _ _ _ _ _ h)).mono ?_; rintro e w1 ⟨rfl, hb⟩; replace h := h.later hb; replace ht := ht.later hb; replace hT := hT.later hb; replace c0 := keep hb c0; replace c1 := keep hb c1; replace d0 := keep hb d0; replace d1 := keep hb d1; replace d2 := keep hb d2; replace d3 := keep hb d3; replace HB := keepB HB hb; clear hb)
    | (go_at_call 25; refine (calls_bool hgt.out (txFormed_any t _ _ _ _ _ ht hT)).mono ?_; rintro e w1 ⟨rfl, hb⟩; replace h := h.later hb; replace ht := ht.later hb; replace hT := hT.later hb; replace c0 := keep hb c0; replace c1 := keep hb c1; replace d0 := keep hb d0; replace d1 := keep hb d1; replace d2 := keep hb d2; replace d3 := keep hb d3; replace HB := keepB HB hb; clear hb)
    | (go_at_call 49; refine (calls_bool hgc.out (refFormed_any c _ _ _ _ _ h)).mono ?_; rintro e w1 ⟨rfl, hb⟩; replace h := h.later hb; replace ht := ht.later hb; replace hT := hT.later hb; replace c0 := keep hb c0; replace c1 := keep hb c1; replace d0 := keep hb d0; replace d1 := keep hb d1; replace d2 := keep hb d2; replace d3 := keep hb d3; replace HB := keepB HB hb; clear hb))
  clear eW
  obtain ⟨wb, rfl⟩ : ∃ wb : World, wb = w1 := ⟨_, rfl⟩
  have HLR := Lib.hid (rdsUpTo_len hgc.out hgt.out)
  have HLW := Lib.hid (wrsUpTo_len hgc.out hgt.out)
  have HLG := Lib.hid (cutGr_length c t)
  go_loopw [6, 7] (fun z i wr => ∃ (k : Nat) (v u : Value), k ≤ c.reps.length ∧ i = .int .i64 k ∧ Hid (P3 wb ⟨80, 2, v, (rdsUpTo c t k).length, rdCells (rdsUpTo c t k)⟩ ⟨84, 4, u, (wrsUpTo c t k).length, wrCells (wrsUpTo c t k)⟩ ⟨3, 1, z, (cutGr c t k).length, (cutGr c t k).map (Value.int .i64)⟩ wr) ∧ Hid (Blk4 wr wb.heap.size (.int .i64 0) (.int .i64 0) v u)) (fun _ i _ => c.reps.length - (intOf i).toNat)
  case atStart => exact ⟨0, _, _, Nat.zero_le _, rfl, P3.start wb _ _ _ _, ⟨_, heap_alloc_new _ _⟩⟩
  case round =>
    obtain ⟨k, v, u, hk, rfl, HP, HY⟩ := hrel
    have hbw := HP.out.below
    have HD := Lib.hid (And.intro c0 (And.intro c1 (And.intro d0 (And.intro d1 (And.intro d2 d3)))))
    have Hh := Lib.hid h
    have Hht := Lib.hid ht
    have HhT := Lib.hid hT
    have h := h.later hbw
    have ht := ht.later hbw
    have hT := hT.later hbw
    have c0 := keep hbw c0
    have c1 := keep hbw c1
    have d0 := keep hbw d0
    have d1 := keep hbw d1
    have d2 := keep hbw d2
    have d3 := keep hbw d3
    have q1 := HLR.out k
    have q2 := HLW.out k
    have q3 := HLG.out k
    by_cases hlt : k < c.reps.length
    · have HR := Lib.hid (reads_any c t k A B A' B' ca cb ca' cb' · · · · (Nat.le_trans hn (by decide)))
      have HW := Lib.hid (writes_any c t k A B A' B' ca cb ca' cb' · · · · (Nat.le_trans hm (by decide)))
      have HS1 : Hid (rdsUpTo c t (k + 1) = rdsUpTo c t k ++ readsL c t k) := rdsUpTo_succ c t k
      have HS2 : Hid (wrsUpTo c t (k + 1) = wrsUpTo c t k ++ writesL c t k) := wrsUpTo_succ c t k
      have HS3 : Hid (cutGr c t (k + 1) = cutGr c t k ++ if anyIn c t k then [(k : Int)] else []) := cutGr_succ c t k
      have hx : (readsL c t k).length ≤ 6 := Nat.le_trans (List.length_filter_le _ _) hn
      have hy : (writesL c t k).length ≤ 6 := Nat.le_trans (List.length_filter_le _ _) hm
      have HA : Hid (anyIn c t k = decide ((0 : Int) < ((readsL c t k).length : Int) + ((writesL c t k).length : Int))) := by
        show _ = _
        unfold anyIn
        congr 1
        rw [eq_iff_iff]; omega
      obtain ⟨any, hany⟩ : ∃ r, Hid (anyIn c t k = r) := ⟨_, rfl⟩
      generalize hrl : readsL c t k = rl at *
      generalize hwl : writesL c t k = wl at *
      generalize hLL : rdsUpTo c t k = L at *
      generalize hMM : wrsUpTo c t k = M at *
      generalize hGG : cutGr c t k = G at *
      clear hLL hMM hGG hrl hwl
      have hwr : IntKind.i64.wrap ((rl.length : Int) + (wl.length : Int)) = (rl.length : Int) + (wl.length : Int) := IntWalk.i64_in _ (by omega)
      have hq : decide ((0 : Int) < (rl.length : Int) + (wl.length : Int)) = any := by rw [← HA.out, hany.out]
      have HBL0 : Hid (wb.heap.size < wr.heap.size) := HP.out.big
      unfold txV at HR HW
      go_wp2_with fail
      go_region_held3 (fun w' => w'.cell? ⟨w.heap.size, 0, none⟩ = some (.slice A c.reps.length ca) ∧ w'.cell? ⟨w.heap.size, 1, none⟩ = some (.slice B c.bnds.length cb) ∧ w'.cell? ⟨w.heap.size + 1, 0, none⟩ = some (.int .i64 t.ses) ∧ w'.cell? ⟨w.heap.size + 1, 1, none⟩ = some (.int .i64 t.seq) ∧ w'.cell? ⟨w.heap.size + 1, 2, none⟩ = some (.slice A' t.rds.length ca') ∧ w'.cell? ⟨w.heap.size + 1, 3, none⟩ = some (.slice B' t.wrs.length cb') ∧ Below wr.heap.size wr w')
        (with_reducible refine keep7 c0 c1 d0 d1 d2 d3 ?_; first | (with_reducible exact below_drew (Below.refl _ _)) | go_grown)
        (first
          | (go_at_call 53; refine (HR.out _ (h.later ‹_ ∧ _ ∧ _ ∧ _ ∧ _ ∧ _ ∧ Below wr.heap.size wr _›.2.2.2.2.2.2) (ht.later ‹_ ∧ _ ∧ _ ∧ _ ∧ _ ∧ _ ∧ Below wr.heap.size wr _›.2.2.2.2.2.2) (hT.later ‹_ ∧ _ ∧ _ ∧ _ ∧ _ ∧ _ ∧ Below wr.heap.size wr _›.2.2.2.2.2.2)).mono ?_; rintro e w2 ⟨K, ck, rfl, hK, hb, hFK⟩; have hb2 : Below wr.heap.size wr w2 := keepB ‹_ ∧ _ ∧ _ ∧ _ ∧ _ ∧ _ ∧ Below wr.heap.size wr _›.2.2.2.2.2.2 hb; have hz2 := hb2.size)
          | (go_at_call 54; refine (HW.out _ (h.later ‹_ ∧ _ ∧ _ ∧ _ ∧ _ ∧ _ ∧ Below wr.heap.size wr _›.2.2.2.2.2.2) (ht.later ‹_ ∧ _ ∧ _ ∧ _ ∧ _ ∧ _ ∧ Below wr.heap.size wr _›.2.2.2.2.2.2) (hT.later ‹_ ∧ _ ∧ _ ∧ _ ∧ _ ∧ _ ∧ Below wr.heap.size wr _›.2.2.2.2.2.2)).mono ?_; rintro e w3 ⟨I, ci, rfl, hI, hb', hFI⟩; have hb3 : Below wr.heap.size wr w3 := keepB ‹_ ∧ _ ∧ _ ∧ _ ∧ _ ∧ _ ∧ Below wr.heap.size wr _›.2.2.2.2.2.2 hb'; have hz3 := hb3.size))
      have HP3 := Lib.hid (HP.out.later hb3)
      have Y3 := Lib.hid (HY.out.later hb3)
      have hK3 := Lib.hid (hK.later hb')
      have HVL : Hid (∀ g, v.ownBlock = some g → g < w2.heap.size) := fun g hg => Nat.lt_of_lt_of_le (own_lt HP.out.o1 g hg) hz2
      have HBL : Hid (wb.heap.size < w2.heap.size) := Nat.lt_of_lt_of_le HBL0.out hz2
      obtain ⟨x0, x1, x2, x3, k0, k1, k2, k3⟩ := Y3.out.facts
      have c0 := keep hb3 c0
      have c1 := keep hb3 c1
      clear hbw hK hb hb2 HP HY HR HW HA d0 d1 d2 d3 hz2 hz3
      cases any
      · go_wp2_with (first
          | (at_builtin; refine wpList_append_row rfl _ _ 38 rfl (wb.heap.size + 1) 80 i0 (.agg #[.string noStr, .int .u64 0]) 2 24 Tryd.underlying38 hi hz0 hz1 hz2 rfl (by decide) v L.length (rdCells L) rfl HP3.out.o1 K rl.length ck (rdCells rl) rfl (rdCells_len _) (rds_none hK3.out) (rds_news hK3.out) (rds_one _) (le_maxLen (by omega)) (by omega) HP3.out.big ?_; intro v4 w4 HO4 hg4 hv4; obtain ⟨A4, c4, rfl⟩ := own_slice HO4; have HP4 := Lib.hid (HP3.out.app HO4 hg4 hv4); have Y4 := Lib.hid (Y3.out.grown hg4 (ne_own HP3.out.o1)); have hI4 := Lib.hid (hI.grown hFI HVL.out hg4); obtain ⟨y0, y1, y2, y3, f0, f1, f2, f3⟩ := Y4.out.facts; have HP5 := Lib.hid ((HP4.out.set 2 (.slice A4 (L.length + rl.length) c4)).rot); have Y5 := Lib.hid (Y4.out.set2 (.slice A4 (L.length + rl.length) c4)); have hI5 := Lib.hid (hI4.out.set hFI HBL.out 2 (.slice A4 (L.length + rl.length) c4)))
          | (at_builtin; refine wpList_append_row rfl _ _ 39 rfl (wb.heap.size + 1) 84 j0 (.agg #[.string noStr, .int .i64 0, .int .u64 0, .string noStr]) 4 48 Tryd.underlying39 ji jz0 jz1 jz2 rfl (by decide) u M.length (wrCells M) rfl HP5.out.o1 I wl.length ci (wrCells wl) rfl (wrCells_len _) (wrs_none hI5.out) (wrs_news hI5.out) (wrs_one _) (le_maxLen (by omega)) (by omega) HP5.out.big ?_; intro v6 w6 HO6 hg6 hv6; obtain ⟨A6, c6, rfl⟩ := own_slice HO6; have HP6 := Lib.hid (HP5.out.app HO6 hg6 hv6); have Y6 := Lib.hid (Y5.out.grown hg6 (ne_own HP5.out.o1)); obtain ⟨g0, g1, g2, g3, e0, e1, e2, e3⟩ := Y6.out.facts; have HP7 := Lib.hid ((HP6.out.set 3 (.slice A6 (M.length + wl.length) c6)).rot); have Y7 := Lib.hid (Y6.out.set3 (.slice A6 (M.length + wl.length) c6)); have HPA := Lib.hid (HP7.out.later (below1 _ (.cells #[.int .i64 (k : Int)] 3))); have YA := Lib.hid (Y7.out.later (below1 _ (.cells #[.int .i64 (k : Int)] 3)))))
        go_roundw
        case rel =>
          refine ⟨k + 1, .slice A4 (L.length + rl.length) c4, .slice A6 (M.length + wl.length) c6, by omega, by go_num, ?_, ?_⟩
          · show P3 _ _ _ _ _
            rw [HS1.out, HS2.out, HS3.out, hany.out]
            simpa [rdCells_append, wrCells_append] using HP7.out.rot
          · exact Y7.out
        case measure => simp [intOf]; omega
      · go_wp2_with (first
          | (at_builtin; refine wpList_append_row rfl _ _ 38 rfl (wb.heap.size + 1) 80 i0 (.agg #[.string noStr, .int .u64 0]) 2 24 Tryd.underlying38 hi hz0 hz1 hz2 rfl (by decide) v L.length (rdCells L) rfl HP3.out.o1 K rl.length ck (rdCells rl) rfl (rdCells_len _) (rds_none hK3.out) (rds_news hK3.out) (rds_one _) (le_maxLen (by omega)) (by omega) HP3.out.big ?_; intro v4 w4 HO4 hg4 hv4; obtain ⟨A4, c4, rfl⟩ := own_slice HO4; have HP4 := Lib.hid (HP3.out.app HO4 hg4 hv4); have Y4 := Lib.hid (Y3.out.grown hg4 (ne_own HP3.out.o1)); have hI4 := Lib.hid (hI.grown hFI HVL.out hg4); obtain ⟨y0, y1, y2, y3, f0, f1, f2, f3⟩ := Y4.out.facts; have HP5 := Lib.hid ((HP4.out.set 2 (.slice A4 (L.length + rl.length) c4)).rot); have Y5 := Lib.hid (Y4.out.set2 (.slice A4 (L.length + rl.length) c4)); have hI5 := Lib.hid (hI4.out.set hFI HBL.out 2 (.slice A4 (L.length + rl.length) c4)))
          | (at_builtin; refine wpList_append_row rfl _ _ 39 rfl (wb.heap.size + 1) 84 j0 (.agg #[.string noStr, .int .i64 0, .int .u64 0, .string noStr]) 4 48 Tryd.underlying39 ji jz0 jz1 jz2 rfl (by decide) u M.length (wrCells M) rfl HP5.out.o1 I wl.length ci (wrCells wl) rfl (wrCells_len _) (wrs_none hI5.out) (wrs_news hI5.out) (wrs_one _) (le_maxLen (by omega)) (by omega) HP5.out.big ?_; intro v6 w6 HO6 hg6 hv6; obtain ⟨A6, c6, rfl⟩ := own_slice HO6; have HP6 := Lib.hid (HP5.out.app HO6 hg6 hv6); have Y6 := Lib.hid (Y5.out.grown hg6 (ne_own HP5.out.o1)); obtain ⟨g0, g1, g2, g3, e0, e1, e2, e3⟩ := Y6.out.facts; have HP7 := Lib.hid ((HP6.out.set 3 (.slice A6 (M.length + wl.length) c6)).rot); have Y7 := Lib.hid (Y6.out.set3 (.slice A6 (M.length + wl.length) c6)); have HPA := Lib.hid (HP7.out.later (below1 _ (.cells #[.int .i64 (k : Int)] 3))); have YA := Lib.hid (Y7.out.later (below1 _ (.cells #[.int .i64 (k : Int)] 3))))
          | (at_builtin; refine wpList_append_own_at _ rfl _ _ 22 rfl (wb.heap.size + 1) 3 l0 (.int .i64 0) 1 8 Tryd.underlying22 li lz0 lz1 lz2 rfl (by decide) u6 G.length (G.map (Value.int .i64)) rfl HPA.out.o1 ⟨w6.heap.size, 0, none⟩ 1 1 [.int .i64 k] rfl rfl (cell_one_set _ _ _ _ _) one_cell_int (le_maxLen (by omega)) (by omega) HPA.out.big ?_; intro v8 w8 HO8 hg8 _ hv8; have HP8 := Lib.hid (HPA.out.app HO8 hg8 hv8); have Y8 := Lib.hid (YA.out.grown hg8 (ne_own HPA.out.o1))))
        go_roundw
        case rel =>
          refine ⟨k + 1, .slice A4 (L.length + rl.length) c4, .slice A6 (M.length + wl.length) c6, by omega, by go_num, ?_, ?_⟩
          · show P3 _ _ _ _ _
            rw [HS1.out, HS2.out, HS3.out, hany.out]
            simpa [rdCells_append, wrCells_append] using HP8.out.rot
          · exact Y8.out
        case measure => simp [intOf]; omega
    · have ek : k = c.reps.length := by omega
      have HE := Lib.hid (cutGr_all c t)
      have HE1 := Lib.hid (rdsUpTo_all hgc.out hgt.out)
      have HE2 := Lib.hid (wrsUpTo_all hgc.out hgt.out)
      have HP6 := ((HP.out.set 0 (.int .i64 t.ses)).set 1 (.int .i64 t.seq))
      have HLG2 := HLG.out k
      rw [ek, HE.out] at HLG2
      rw [ek, HE1.out, HE2.out, HE.out] at HP6
      obtain ⟨V, cv, rfl, _, hV, _⟩ := own_rds HP6.o1
      obtain ⟨U, cu, rfl, _, hU, _⟩ := own_wrs HP6.o2
      obtain ⟨Z, cz, rfl, _, hZ⟩ := own_ints HP6.o3
      have Y6 := (HY.out.set01 (.int .i64 t.ses) (.int .i64 t.seq)).facts
      obtain ⟨x0, x1, x2, x3, k0, k1, k2, k3⟩ := HY.out.facts
      have hb6 := HP6.below
      obtain ⟨p0, p1, p2, p3, p4, p5⟩ := HD.out
      replace p0 := keep hb6 p0
      replace p1 := keep hb6 p1
      replace p2 := keep hb6 p2
      replace p3 := keep hb6 p3
      replace p4 := keep hb6 p4
      replace p5 := keep hb6 p5
      have h := Hh.out.later hb6
      have ht := Hht.out.later hb6
      have hT := HhT.out.later hb6
      replace HB := keepB HB hb6
      obtain ⟨y0, y1, y2, y3, _, _, _, _⟩ := Y6
      have HVU := Lib.hid (⟨hV, hU, ht.rk, ht.wk, ht.wv, ht.rn, ht.wn⟩ : TxAt _ t V U)
      have HSM := Lib.hid (fun wx p q => calls_bool (sameT_self t) (refTxSame_any t t V U A' B' cv cu ca' cb' wx p q))
      have HG := Lib.hid (txGroups_any c t A B A' B' ca cb ca' cb')
      unfold txV at HSM HG
      generalize hgl : groupsT c t = gl at *
      clear hgt hgc hft hfc HP6 hb6 hV hU HD Hh Hht HhT
      go_wp2_with (first
        | (go_at_call 32; refine (HSM.out _ HVU.out ht).mono ?_; rintro e w2 ⟨rfl, hb⟩; replace p0 := keep hb p0; replace p1 := keep hb p1; replace p2 := keep hb p2; replace p3 := keep hb p3; replace p4 := keep hb p4; replace p5 := keep hb p5; replace h := h.later hb; replace ht := ht.later hb; replace hT := hT.later hb; replace hZ := CellsAt.later hZ hb; replace HB := keepB HB hb; clear hb)
        | (go_at_call 57; refine (HG.out _ h ht hT).mono ?_; rintro e w3 ⟨N, cn, rfl, hN, hb⟩; replace hZ := CellsAt.later hZ hb; replace HB := keepB HB hb; clear hb)
        | (go_at_call 50; refine (ints_same gl Z N cz cn _ hZ hN (by omega)).mono ?_; rintro e w4 ⟨rfl, hb⟩; replace HB := keepB HB hb; clear hb))
      go_ret
      exact ⟨rfl, HB⟩
end Go.Proofs.YthpdladfcjcjiaaDoor
