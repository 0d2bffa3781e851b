/- parishlaw08.TxnCuts' walk. -/
import Derived.Test.YthpdladfcjcjiaaDoorCutGr08
import Derived.Test.YthpdladfcjcjiaaDoorLawForms
import Derived.Deep.RegionHeld3
import Derived.Deep.DeepCutAuto
import Derived.Handy
namespace Go.Proofs.YthpdladfcjcjiaaDoor
open Go.RowKit Go.Shelf Go.Sort

def cutTx (c : Cfg) (t : Tx) (g : Int) : Tx := ⟨0, 0, readsL c t g, writesL c t g⟩
theorem fewT_parts {t : Tx} (h : fewT t = true) : t.rds.length ≤ 12 ∧ t.wrs.length ≤ 12 := by
  simp only [fewT, Bool.and_eq_true, decide_eq_true_eq] at h
  exact ⟨h.1.1.1, h.1.1.2⟩
theorem fewB_parts {c : Cfg} (h : fewB c = true) : c.reps.length ≤ 20 := by
  simp only [fewB, Bool.and_eq_true, decide_eq_true_eq] at h
  exact h.1.2

/-- A block of four cells that nobody has frozen. -/
def Blk4 (w : World) (g : Nat) (a b c d : Value) : Prop := ∃ t, w.heap[g]? = some (.cells #[a, b, c, d] t (0, 0))
theorem Blk4.later {w w1 : World} {g : Nat} {a b c d : Value} (h : Blk4 w g a b c d) (hb : Below w.heap.size w w1) : Blk4 w1 g a b c d := by
  obtain ⟨t, h⟩ := h
  exact ⟨t, by rw [hb.block g (Array.getElem?_eq_some_iff.1 h).1]; exact h⟩
theorem Blk4.new {W w1 : World} {a b c d : Value} {t : TypeId} (hb : Below (W.alloc (.cells #[a, b, c, d] t)).heap.size (W.alloc (.cells #[a, b, c, d] t)) w1) : Blk4 w1 W.heap.size a b c d :=
  Blk4.later ⟨t, heap_alloc_new W _⟩ hb
theorem Blk4.newd {W w1 : World} {a b c d : Value} {t : TypeId} (hb : Below (W.alloc (.cells #[a, b, c, d] t)).drew.heap.size (W.alloc (.cells #[a, b, c, d] t)).drew w1) : Blk4 w1 W.heap.size a b c d :=
  Blk4.later (w := (W.alloc (.cells #[a, b, c, d] t)).drew) ⟨t, heap_alloc_new W _⟩ hb
theorem Blk4.facts {w : World} {g : Nat} {a b c d : Value} (h : Blk4 w g a b c d) : w.cell? ⟨g, 0, none⟩ = some a ∧ w.cell? ⟨g, 1, none⟩ = some b ∧ w.cell? ⟨g, 2, none⟩ = some c ∧ w.cell? ⟨g, 3, none⟩ = some d ∧ w.frozen? ⟨g, 0, none⟩ = false ∧ w.frozen? ⟨g, 1, none⟩ = false ∧ w.frozen? ⟨g, 2, none⟩ = false ∧ w.frozen? ⟨g, 3, none⟩ = false := by
  obtain ⟨t, h⟩ := h
  refine ⟨?_, ?_, ?_, ?_, ?_, ?_, ?_, ?_⟩ <;> simp [World.cell?, World.frozen?, h]
theorem Blk4.no_string {w : World} {g : Nat} {x y : Int} {A B : Option Addr} {n m ca cb : Nat} (Y : Blk4 w g (.int .i64 x) (.int .i64 y) (.slice A n ca) (.slice B m cb)) {b o : Nat} {s : ByteArray} (h : w.cell? ⟨b, o, none⟩ = some (.string s)) : b ≠ g := by
  rintro rfl
  obtain ⟨t, Y⟩ := Y
  simp only [World.cell?, Y, Option.isSome_none, Bool.false_eq_true, if_false] at h
  match o with
  | 0 => simp at h
  | 1 => simp at h
  | 2 => simp at h
  | 3 => simp at h
  | o + 4 => simp at h
def set4 (w : World) (g : Nat) (a b c d : Value) : World := (((w.setCell ⟨g, 0, none⟩ a).setCell ⟨g, 1, none⟩ b).setCell ⟨g, 2, none⟩ c).setCell ⟨g, 3, none⟩ d
theorem Blk4.set {w : World} {g : Nat} {a b c d : Value} (Y : Blk4 w g a b c d) (a' b' c' d' : Value) : Blk4 (set4 w g a' b' c' d') g a' b' c' d' := by
  obtain ⟨t, Y⟩ := Y
  refine ⟨t, ?_⟩
  simp [set4, World.setCell, Array.getElem?_modify, Y]
theorem set4_other (w : World) (g : Nat) (a b c d : Value) (k : Nat) (h : k ≠ g) : (set4 w g a b c d).heap[k]? = w.heap[k]? := by
  unfold set4
  rw [Below.heap_setCell _ _ _ _ h, Below.heap_setCell _ _ _ _ h, Below.heap_setCell _ _ _ _ h, Below.heap_setCell _ _ _ _ h]
theorem set4_below {B : Nat} {a0 w : World} (hb : Below B a0 w) {g : Nat} (hg : B ≤ g) (a b c d : Value) : Below B a0 (set4 w g a b c d) :=
  (((hb.setCell (p := ⟨g, 0, none⟩) hg a).setCell (p := ⟨g, 1, none⟩) hg b).setCell (p := ⟨g, 2, none⟩) hg c).setCell (p := ⟨g, 3, none⟩) hg d
theorem RdsAt.past {w w' : World} {g : Nat} {x y : Int} {A B K : Option Addr} {n m ca cb : Nat} {l : List Rd} (hK : RdsAt w K l) (Y : Blk4 w g (.int .i64 x) (.int .i64 y) (.slice A n ca) (.slice B m cb)) (hh : ∀ b, b ≠ g → w'.heap[b]? = w.heap[b]?) : RdsAt w' K l := by
  intro i hi
  obtain ⟨b, off, e, h0, h1⟩ := hK i hi
  have hb := hh b (Y.no_string h0)
  exact ⟨b, off, e, (World.cell?_of_block hb).trans h0, (World.cell?_of_block hb).trans h1⟩
theorem WrsAt.past {w w' : World} {g : Nat} {x y : Int} {A B K : Option Addr} {n m ca cb : Nat} {l : List Wr} (hK : WrsAt w K l) (Y : Blk4 w g (.int .i64 x) (.int .i64 y) (.slice A n ca) (.slice B m cb)) (hh : ∀ b, b ≠ g → w'.heap[b]? = w.heap[b]?) : WrsAt w' K l := by
  intro i hi
  obtain ⟨b, off, e, h0, h1, h2, h3⟩ := hK i hi
  have hb := hh b (Y.no_string h0)
  exact ⟨b, off, e, (World.cell?_of_block hb).trans h0, (World.cell?_of_block hb).trans h1, (World.cell?_of_block hb).trans h2, (World.cell?_of_block hb).trans h3⟩
theorem keep7 {wb w' : World} {a0 a1 a2 a3 a4 a5 : Addr} {v0 v1 v2 v3 v4 v5 : Value} (h0 : wb.cell? a0 = some v0) (h1 : wb.cell? a1 = some v1) (h2 : wb.cell? a2 = some v2) (h3 : wb.cell? a3 = some v3) (h4 : wb.cell? a4 = some v4) (h5 : wb.cell? a5 = some v5) (hb : Below wb.heap.size wb w') :
    w'.cell? a0 = some v0 ∧ w'.cell? a1 = some v1 ∧ w'.cell? a2 = some v2 ∧ w'.cell? a3 = some v3 ∧ w'.cell? a4 = some v4 ∧ w'.cell? a5 = some v5 ∧ Below wb.heap.size wb w' :=
  ⟨keep hb h0, keep hb h1, keep hb h2, keep hb h3, keep hb h4, keep hb h5, hb⟩
theorem keep15 {wb w' : World} {a0 a1 a2 a3 a4 a5 a6 a7 a8 a9 a10 a11 a12 a13 : Addr} {v0 v1 v2 v3 v4 v5 v6 v7 v8 v9 v10 v11 v12 v13 : Value} (h0 : wb.cell? a0 = some v0) (h1 : wb.cell? a1 = some v1) (h2 : wb.cell? a2 = some v2) (h3 : wb.cell? a3 = some v3) (h4 : wb.cell? a4 = some v4) (h5 : wb.cell? a5 = some v5) (h6 : wb.cell? a6 = some v6) (h7 : wb.cell? a7 = some v7) (h8 : wb.cell? a8 = some v8) (h9 : wb.cell? a9 = some v9) (h10 : wb.cell? a10 = some v10) (h11 : wb.cell? a11 = some v11) (h12 : wb.cell? a12 = some v12) (h13 : wb.cell? a13 = some v13) (hb : Below wb.heap.size wb w') :
    w'.cell? a0 = some v0 ∧ w'.cell? a1 = some v1 ∧ w'.cell? a2 = some v2 ∧ w'.cell? a3 = some v3 ∧ w'.cell? a4 = some v4 ∧ w'.cell? a5 = some v5 ∧ w'.cell? a6 = some v6 ∧ w'.cell? a7 = some v7 ∧ w'.cell? a8 = some v8 ∧ w'.cell? a9 = some v9 ∧ w'.cell? a10 = some v10 ∧ w'.cell? a11 = some v11 ∧ w'.cell? a12 = some v12 ∧ w'.cell? a13 = some v13 ∧ Below wb.heap.size wb w' :=
  ⟨keep hb h0, keep hb h1, keep hb h2, keep hb h3, keep hb h4, keep hb h5, keep hb h6, keep hb h7, keep hb h8, keep hb h9, keep hb h10, keep hb h11, keep hb h12, keep hb h13, hb⟩
theorem getD_mem {α : Type} (l : List α) (d : α) (k : Nat) (h : k < l.length) : l.getD k d ∈ l := by
  rw [List.getD_eq_getElem?_getD, List.getElem?_eq_getElem h]
  exact List.getElem_mem h
theorem mem_getD {α : Type} {l : List α} (d : α) {x : α} (h : x ∈ l) : ∃ k, k < l.length ∧ l.getD k d = x := by
  obtain ⟨k, hk, e⟩ := List.mem_iff_getElem.1 h
  exact ⟨k, hk, by rw [List.getD_eq_getElem?_getD, List.getElem?_eq_getElem hk]; exact e⟩
theorem txAt_cut {w0 w : World} {t : Tx} {A B K I : Option Addr} (ht : TxAt w0 t A B) (c : Cfg) (g : Int) (hK : RdsAt w K (readsL c t g)) (hI : WrsAt w I (writesL c t g)) : TxAt w (cutTx c t g) K I := by
  refine ⟨hK, hI, fun k hk => ?_, fun k hk => ?_, fun k hk => ?_, Nat.le_trans (List.length_filter_le _ _) ht.rn, Nat.le_trans (List.length_filter_le _ _) ht.wn⟩
  · obtain ⟨j, hj, e⟩ := mem_getD noRd (List.mem_filter.1 (getD_mem (readsL c t g) noRd k hk)).1
    show ((readsL c t g).getD k noRd).key.size ≤ _
    rw [← e]; exact ht.rk j hj
  · obtain ⟨j, hj, e⟩ := mem_getD noWr (List.mem_filter.1 (getD_mem (writesL c t g) noWr k hk)).1
    show ((writesL c t g).getD k noWr).key.size ≤ _
    rw [← e]; exact ht.wk j hj
  · obtain ⟨j, hj, e⟩ := mem_getD noWr (List.mem_filter.1 (getD_mem (writesL c t g) noWr k hk)).1
    show ((writesL c t g).getD k noWr).val.Good
    rw [← e]; exact ht.wv j hj
set_option maxRecDepth 100000 in
set_option maxHeartbeats 4000000 in
theorem law_cuts (c : Cfg) (t : Tx) (g : Int) (A B A' B' : Option Addr) (ca cb ca' cb' : Nat) (w : World) (h : CfgAt w c A B) (ht : TxAt w t A' B') (hT : Tabs w) :
    Calls Tryd.prog 11 #[.agg #[.slice A c.reps.length ca, .slice B c.bnds.length cb], txV t A' B' ca' cb', .int .i64 g] w fun e w' => e = .returned (.bool true) ∧ Below w.heap.size w w' := by
  unfold txV
  obtain ⟨W, eW, HB, c0, c1, d0, d1, d2, d3⟩ := box24 w (.slice A c.reps.length ca) (.slice B c.bnds.length cb) (.int .i64 t.ses) (.int .i64 t.seq) (.slice A' t.rds.length ca') (.slice B' t.wrs.length cb') 25 41
  have h := h.later HB
  have ht := ht.later HB
  have hT := hT.later HB
  obtain ⟨ft, hft⟩ : ∃ r, Hid (fewT t = r) := ⟨_, rfl⟩
  obtain ⟨fc, hfc⟩ : ∃ r, Hid (fewB c = r) := ⟨_, rfl⟩
  cases ft
  · go_enter Tryd.func11, Tryd.ntmps11
    go_wp2_with (first
      | (go_at_call 23; refine (awake08_any _).mono ?_; rintro e w1 ⟨rfl, hb⟩; replace h := h.later hb; replace ht := ht.later hb; replace hT := hT.later hb; replace c0 := keep hb c0; replace c1 := keep hb c1; replace d0 := keep hb d0; replace d1 := keep hb d1; replace d2 := keep hb d2; replace d3 := keep hb d3; replace HB := keepB HB hb; clear hb)
      | (go_at_call 24; refine (calls_bool hft.out (few08_any t _ _ _ _ _ ht)).mono ?_; rintro e w1 ⟨rfl, hb⟩; replace h := h.later hb; replace ht := ht.later hb; replace hT := hT.later hb; replace c0 := keep hb c0; replace c1 := keep hb c1; replace d0 := keep hb d0; replace d1 := keep hb d1; replace d2 := keep hb d2; replace d3 := keep hb d3; replace HB := keepB HB hb; clear hb))
    go_ret
    exact ⟨rfl, HB⟩
  · cases fc
    · go_enter Tryd.func11, Tryd.ntmps11
      go_wp2_with (first
        | (go_at_call 23; refine (awake08_any _).mono ?_; rintro e w1 ⟨rfl, hb⟩; replace h := h.later hb; replace ht := ht.later hb; replace hT := hT.later hb; replace c0 := keep hb c0; replace c1 := keep hb c1; replace d0 := keep hb d0; replace d1 := keep hb d1; replace d2 := keep hb d2; replace d3 := keep hb d3; replace HB := keepB HB hb; clear hb)
        | (go_at_call 24; refine (calls_bool hft.out (few08_any t _ _ _ _ _ ht)).mono ?_; rintro e w1 ⟨rfl, hb⟩; replace h := h.later hb; replace ht := ht.later hb; replace hT := hT.later hb; replace c0 := keep hb c0; replace c1 := keep hb c1; replace d0 := keep hb d0; replace d1 := keep hb d1; replace d2 := keep hb d2; replace d3 := keep hb d3; replace HB := keepB HB hb; clear hb)
        | (go_at_call 14; refine (calls_bool hfc.out (few_any c _ _ _ _ _ h)).mono ?_; rintro e w1 ⟨rfl, hb⟩; replace h := h.later hb; replace ht := ht.later hb; replace hT := hT.later hb; replace c0 := keep hb c0; replace c1 := keep hb c1; replace d0 := keep hb d0; replace d1 := keep hb d1; replace d2 := keep hb d2; replace d3 := keep hb d3; replace HB := keepB HB hb; clear hb))
      go_ret
      exact ⟨rfl, HB⟩
    · obtain ⟨hn, hm⟩ := fewT_parts hft.out
      have hc20 := fewB_parts hfc.out
      go_enter Tryd.func11, Tryd.ntmps11
      go_wp2_with (first
        | (go_at_call 23; refine (awake08_any _).mono ?_; rintro e w1 ⟨rfl, hb⟩; replace h := h.later hb; replace ht := ht.later hb; replace hT := hT.later hb; replace c0 := keep hb c0; replace c1 := keep hb c1; replace d0 := keep hb d0; replace d1 := keep hb d1; replace d2 := keep hb d2; replace d3 := keep hb d3; replace HB := keepB HB hb; clear hb)
        | (go_at_call 24; refine (calls_bool hft.out (few08_any t _ _ _ _ _ ht)).mono ?_; rintro e w1 ⟨rfl, hb⟩; replace h := h.later hb; replace ht := ht.later hb; replace hT := hT.later hb; replace c0 := keep hb c0; replace c1 := keep hb c1; replace d0 := keep hb d0; replace d1 := keep hb d1; replace d2 := keep hb d2; replace d3 := keep hb d3; replace HB := keepB HB hb; clear hb)
        | (go_at_call 14; refine (calls_bool hfc.out (few_any c _ _ _ _ _ h)).mono ?_; rintro e w1 ⟨rfl, hb⟩; replace h := h.later hb; replace ht := ht.later hb; replace hT := hT.later hb; replace c0 := keep hb c0; replace c1 := keep hb c1; replace d0 := keep hb d0; replace d1 := keep hb d1; replace d2 := keep hb d2; replace d3 := keep hb d3; replace HB := keepB HB hb; clear hb))
      clear eW
      obtain ⟨wb, rfl⟩ : ∃ wb : World, wb = w1 := ⟨_, rfl⟩
      have HR := Lib.hid (reads_any c t g A B A' B' ca cb ca' cb' · · · · hn)
      have HW := Lib.hid (writes_any c t g A B A' B' ca cb ca' cb' · · · · hm)
      unfold txV at HR HW
      have HR2 := Lib.hid (refReads_any c t g A B A' B' ca cb ca' cb' · · · hn)
      have HW2 := Lib.hid (refWrites_any c t g A B A' B' ca cb ca' cb' · · · hm)
      have HG := Lib.hid (txGroups_any c t A B A' B' ca cb ca' cb')
      have HG2 := Lib.hid (refGroups08_any c t A B A' B' ca cb ca' cb' · · · hn hm hc20)
      have HTC := Lib.hid (fun (wx : World) (K I : Option Addr) => txAt_cut (w := wx) (K := K) (I := I) ht c g)
      have HLG : Hid ((groupsT c t).length ≤ 1000000) := by
        show _ ≤ _
        have := cutGr_length c t c.reps.length
        rw [cutGr_all] at this
        omega
      unfold txV at HR2 HW2 HG HG2
      unfold cutTx at HTC
      generalize hrl : readsL c t g = rl at *
      generalize hwl : writesL c t g = wl at *
      go_cut [7] (fun s7 wx => ∃ (gb : Nat) (K I : Option Addr) (ck ci : Nat), s7 = .pointer (some ⟨gb, 0, none⟩) ∧ wx.cell? ⟨gb, 0, none⟩ = some (.int .i64 0) ∧ wx.cell? ⟨gb, 1, none⟩ = some (.int .i64 0) ∧ wx.cell? ⟨gb, 2, none⟩ = some (.slice K rl.length ck) ∧ wx.cell? ⟨gb, 3, none⟩ = some (.slice I wl.length ci) ∧ RdsAt wx K rl ∧ WrsAt wx I wl ∧ Below wb.heap.size wb wx)
      case first =>
        go_region_held3 (fun w' => w'.cell? ⟨w.heap.size, 0, none⟩ = some (.slice A c.reps.length ca) ∧ w'.cell? ⟨w.heap.size, 1, none⟩ = some (.slice B c.bnds.length cb) ∧ w'.cell? ⟨w.heap.size + 1, 0, none⟩ = some (.int .i64 t.ses) ∧ w'.cell? ⟨w.heap.size + 1, 1, none⟩ = some (.int .i64 t.seq) ∧ w'.cell? ⟨w.heap.size + 1, 2, none⟩ = some (.slice A' t.rds.length ca') ∧ w'.cell? ⟨w.heap.size + 1, 3, none⟩ = some (.slice B' t.wrs.length cb') ∧ Below wb.heap.size wb w')
          (with_reducible refine keep7 c0 c1 d0 d1 d2 d3 ?_; first | (with_reducible exact below_drew (Below.refl _ _)) | go_grown)
          (first
            | (go_at_call 53; refine (HR.out _ (h.later ‹_ ∧ _ ∧ _ ∧ _ ∧ _ ∧ _ ∧ Below wb.heap.size wb _›.2.2.2.2.2.2) (ht.later ‹_ ∧ _ ∧ _ ∧ _ ∧ _ ∧ _ ∧ Below wb.heap.size wb _›.2.2.2.2.2.2) (hT.later ‹_ ∧ _ ∧ _ ∧ _ ∧ _ ∧ _ ∧ Below wb.heap.size wb _›.2.2.2.2.2.2)).mono ?_; rintro e w2 ⟨K, ck, rfl, hK, hb, _⟩; have hb2 : Below wb.heap.size wb w2 := keepB ‹_ ∧ _ ∧ _ ∧ _ ∧ _ ∧ _ ∧ Below wb.heap.size wb _›.2.2.2.2.2.2 hb; have hz2 := hb2.size; (try have Y := Blk4.newd hb))
            | (go_at_call 54; refine (HW.out _ (h.later ‹_ ∧ _ ∧ _ ∧ _ ∧ _ ∧ _ ∧ Below wb.heap.size wb _›.2.2.2.2.2.2) (ht.later ‹_ ∧ _ ∧ _ ∧ _ ∧ _ ∧ _ ∧ Below wb.heap.size wb _›.2.2.2.2.2.2) (hT.later ‹_ ∧ _ ∧ _ ∧ _ ∧ _ ∧ _ ∧ Below wb.heap.size wb _›.2.2.2.2.2.2)).mono ?_; rintro e w3 ⟨I, ci, rfl, hI, hb', _⟩; have hb3 : Below wb.heap.size wb w3 := keepB ‹_ ∧ _ ∧ _ ∧ _ ∧ _ ∧ _ ∧ Below wb.heap.size wb _›.2.2.2.2.2.2 hb'; have hz3 := hb3.size; (first | have Y := Y.later hb' | have Y := Blk4.new hb' | skip); (try (obtain ⟨y0, y1, y2, y3, f0, f1, f2, f3⟩ := Y.facts))))
        all_goals (go_wp2_with fail; go_meet)
        · exact ⟨_, K, I, ck, ci, rfl, by simp, by simp, by simp, by simp, (hK.later hb').later (below1 _ _), hI.later (below1 _ _), hb3.alloc hz3 _⟩
        all_goals
          refine ⟨_, K, I, ck, ci, rfl, ?_⟩
          have Z := (Y.set (.int .i64 0) (.int .i64 0) (.slice K rl.length ck) (.slice I wl.length ci)).facts
          have hK3 : RdsAt w3 K rl := by first | exact hK.later hb' | exact hK.later (keepB (below1 _ _) hb')
          exact ⟨Z.1, Z.2.1, Z.2.2.1, Z.2.2.2.1, hK3.past Y (set4_other _ _ _ _ _ _), hI.past Y (set4_other _ _ _ _ _ _), set4_below hb3 (by omega) _ _ _ _⟩
      case rest =>
        obtain ⟨gb, K, I, ck, ci, rfl, y0, y1, y2, y3, hK, hI, hbc⟩ := hcut
        have hKI := HTC.out _ _ _ hK hI
        replace h := h.later hbc
        replace ht := ht.later hbc
        replace hT := hT.later hbc
        replace c0 := keep hbc c0
        replace c1 := keep hbc c1
        replace d0 := keep hbc d0
        replace d1 := keep hbc d1
        replace d2 := keep hbc d2
        replace d3 := keep hbc d3
        replace HB := keepB HB hbc
        clear hbc HR HW hK hI
        go_wp2_with fail
        obtain ⟨wd, rfl⟩ : ∃ wd : World, wd = wc := ⟨_, rfl⟩
        go_cut [8] (fun s8 wx => ∃ (gb : Nat) (K2 I2 : Option Addr) (ck ci : Nat), s8 = .pointer (some ⟨gb, 0, none⟩) ∧ wx.cell? ⟨gb, 0, none⟩ = some (.int .i64 0) ∧ wx.cell? ⟨gb, 1, none⟩ = some (.int .i64 0) ∧ wx.cell? ⟨gb, 2, none⟩ = some (.slice K2 rl.length ck) ∧ wx.cell? ⟨gb, 3, none⟩ = some (.slice I2 wl.length ci) ∧ RdsAt wx K2 rl ∧ WrsAt wx I2 wl ∧ Below wd.heap.size wd wx)
        case first =>
          go_region_held3 (fun w' => w'.cell? ⟨w.heap.size, 0, none⟩ = some (.slice A c.reps.length ca) ∧ w'.cell? ⟨w.heap.size, 1, none⟩ = some (.slice B c.bnds.length cb) ∧ w'.cell? ⟨w.heap.size + 1, 0, none⟩ = some (.int .i64 t.ses) ∧ w'.cell? ⟨w.heap.size + 1, 1, none⟩ = some (.int .i64 t.seq) ∧ w'.cell? ⟨w.heap.size + 1, 2, none⟩ = some (.slice A' t.rds.length ca') ∧ w'.cell? ⟨w.heap.size + 1, 3, none⟩ = some (.slice B' t.wrs.length cb') ∧ Below wd.heap.size wd w')
            (with_reducible refine keep7 c0 c1 d0 d1 d2 d3 ?_; first | (with_reducible exact below_drew (Below.refl _ _)) | go_grown)
            (first
              | (go_at_call 55; refine (HR2.out _ (h.later ‹_ ∧ _ ∧ _ ∧ _ ∧ _ ∧ _ ∧ Below wd.heap.size wd _›.2.2.2.2.2.2) (ht.later ‹_ ∧ _ ∧ _ ∧ _ ∧ _ ∧ _ ∧ Below wd.heap.size wd _›.2.2.2.2.2.2)).mono ?_; rintro e w2 ⟨K2, ck, rfl, hK2, hb, _⟩; have hb2 : Below wd.heap.size wd w2 := keepB ‹_ ∧ _ ∧ _ ∧ _ ∧ _ ∧ _ ∧ Below wd.heap.size wd _›.2.2.2.2.2.2 hb; have hz2 := hb2.size; (try have Y := Blk4.newd hb))
              | (go_at_call 56; refine (HW2.out _ (h.later ‹_ ∧ _ ∧ _ ∧ _ ∧ _ ∧ _ ∧ Below wd.heap.size wd _›.2.2.2.2.2.2) (ht.later ‹_ ∧ _ ∧ _ ∧ _ ∧ _ ∧ _ ∧ Below wd.heap.size wd _›.2.2.2.2.2.2)).mono ?_; rintro e w3 ⟨I2, ci, rfl, hI2, hb', _⟩; have hb3 : Below wd.heap.size wd w3 := keepB ‹_ ∧ _ ∧ _ ∧ _ ∧ _ ∧ _ ∧ Below wd.heap.size wd _›.2.2.2.2.2.2 hb'; have hz3 := hb3.size; (first | have Y := Y.later hb' | have Y := Blk4.new hb' | skip); (try (obtain ⟨y0, y1, y2, y3, f0, f1, f2, f3⟩ := Y.facts))))
          all_goals (go_wp2_with fail; go_meet)
          · exact ⟨_, K2, I2, ck, ci, rfl, by simp, by simp, by simp, by simp, (hK2.later hb').later (below1 _ _), hI2.later (below1 _ _), hb3.alloc hz3 _⟩
          all_goals
            refine ⟨_, K2, I2, ck, ci, rfl, ?_⟩
            have Z := (Y.set (.int .i64 0) (.int .i64 0) (.slice K2 rl.length ck) (.slice I2 wl.length ci)).facts
            have hK3 : RdsAt w3 K2 rl := by first | exact hK2.later hb' | exact hK2.later (keepB (below1 _ _) hb')
            exact ⟨Z.1, Z.2.1, Z.2.2.1, Z.2.2.2.1, hK3.past Y (set4_other _ _ _ _ _ _), hI2.past Y (set4_other _ _ _ _ _ _), set4_below hb3 (by omega) _ _ _ _⟩
        case rest =>
          obtain ⟨gd, K2, I2, ck2, ci2, rfl, z0, z1, z2, z3, hK2, hI2, hbc⟩ := hcut
          have hKI2 := HTC.out _ _ _ hK2 hI2
          replace hKI := hKI.later hbc
          replace h := h.later hbc
          replace ht := ht.later hbc
          replace hT := hT.later hbc
          replace c0 := keep hbc c0
          replace c1 := keep hbc c1
          replace d0 := keep hbc d0
          replace d1 := keep hbc d1
          replace d2 := keep hbc d2
          replace d3 := keep hbc d3
          replace y0 := keep hbc y0
          replace y1 := keep hbc y1
          replace y2 := keep hbc y2
          replace y3 := keep hbc y3
          replace HB := keepB HB hbc
          clear hbc HR2 HW2 hK2 hI2 HTC
          have HSM := Lib.hid (fun wx p q => calls_bool (sameT_self (⟨0, 0, rl, wl⟩ : Tx)) (refTxSame_any ⟨0, 0, rl, wl⟩ ⟨0, 0, rl, wl⟩ K I K2 I2 ck ci ck2 ci2 wx p q))
          unfold txV at HSM
          generalize hgl : groupsT c t = gl at *
          go_wp2_with fail
          obtain ⟨wf, rfl⟩ : ∃ wf : World, wf = wc := ⟨_, rfl⟩
          go_region_held3 (fun w' => w'.cell? ⟨w.heap.size, 0, none⟩ = some (.slice A c.reps.length ca) ∧ w'.cell? ⟨w.heap.size, 1, none⟩ = some (.slice B c.bnds.length cb) ∧ w'.cell? ⟨w.heap.size + 1, 0, none⟩ = some (.int .i64 t.ses) ∧ w'.cell? ⟨w.heap.size + 1, 1, none⟩ = some (.int .i64 t.seq) ∧ w'.cell? ⟨w.heap.size + 1, 2, none⟩ = some (.slice A' t.rds.length ca') ∧ w'.cell? ⟨w.heap.size + 1, 3, none⟩ = some (.slice B' t.wrs.length cb') ∧ w'.cell? ⟨gb, 0, none⟩ = some (.int .i64 0) ∧ w'.cell? ⟨gb, 1, none⟩ = some (.int .i64 0) ∧ w'.cell? ⟨gb, 2, none⟩ = some (.slice K rl.length ck) ∧ w'.cell? ⟨gb, 3, none⟩ = some (.slice I wl.length ci) ∧ w'.cell? ⟨gd, 0, none⟩ = some (.int .i64 0) ∧ w'.cell? ⟨gd, 1, none⟩ = some (.int .i64 0) ∧ w'.cell? ⟨gd, 2, none⟩ = some (.slice K2 rl.length ck2) ∧ w'.cell? ⟨gd, 3, none⟩ = some (.slice I2 wl.length ci2) ∧ Below wf.heap.size wf w')
            (with_reducible refine keep15 c0 c1 d0 d1 d2 d3 y0 y1 y2 y3 z0 z1 z2 z3 ?_; first | (with_reducible exact below_drew (Below.refl _ _)) | go_grown)
            (first
              | (go_at_call 32; refine (HSM.out _ (hKI.later ‹_ ∧ _ ∧ _ ∧ _ ∧ _ ∧ _ ∧ _ ∧ _ ∧ _ ∧ _ ∧ _ ∧ _ ∧ _ ∧ _ ∧ Below wf.heap.size wf _›.2.2.2.2.2.2.2.2.2.2.2.2.2.2) (hKI2.later ‹_ ∧ _ ∧ _ ∧ _ ∧ _ ∧ _ ∧ _ ∧ _ ∧ _ ∧ _ ∧ _ ∧ _ ∧ _ ∧ _ ∧ Below wf.heap.size wf _›.2.2.2.2.2.2.2.2.2.2.2.2.2.2)).mono ?_; rintro e w2 ⟨rfl, hb⟩; have hb2 : Below wf.heap.size wf w2 := keepB ‹_ ∧ _ ∧ _ ∧ _ ∧ _ ∧ _ ∧ _ ∧ _ ∧ _ ∧ _ ∧ _ ∧ _ ∧ _ ∧ _ ∧ Below wf.heap.size wf _›.2.2.2.2.2.2.2.2.2.2.2.2.2.2 hb; have hz2 := hb2.size)
              | (go_at_call 57; refine (HG.out _ (h.later ‹_ ∧ _ ∧ _ ∧ _ ∧ _ ∧ _ ∧ _ ∧ _ ∧ _ ∧ _ ∧ _ ∧ _ ∧ _ ∧ _ ∧ Below wf.heap.size wf _›.2.2.2.2.2.2.2.2.2.2.2.2.2.2) (ht.later ‹_ ∧ _ ∧ _ ∧ _ ∧ _ ∧ _ ∧ _ ∧ _ ∧ _ ∧ _ ∧ _ ∧ _ ∧ _ ∧ _ ∧ Below wf.heap.size wf _›.2.2.2.2.2.2.2.2.2.2.2.2.2.2) (hT.later ‹_ ∧ _ ∧ _ ∧ _ ∧ _ ∧ _ ∧ _ ∧ _ ∧ _ ∧ _ ∧ _ ∧ _ ∧ _ ∧ _ ∧ Below wf.heap.size wf _›.2.2.2.2.2.2.2.2.2.2.2.2.2.2)).mono ?_; rintro e w3 ⟨M, cm, rfl, hM, hb⟩; have hb3 : Below wf.heap.size wf w3 := keepB ‹_ ∧ _ ∧ _ ∧ _ ∧ _ ∧ _ ∧ _ ∧ _ ∧ _ ∧ _ ∧ _ ∧ _ ∧ _ ∧ _ ∧ Below wf.heap.size wf _›.2.2.2.2.2.2.2.2.2.2.2.2.2.2 hb; have hz3 := hb3.size)
              | (go_at_call 58; refine (HG2.out _ (h.later ‹_ ∧ _ ∧ _ ∧ _ ∧ _ ∧ _ ∧ _ ∧ _ ∧ _ ∧ _ ∧ _ ∧ _ ∧ _ ∧ _ ∧ Below wf.heap.size wf _›.2.2.2.2.2.2.2.2.2.2.2.2.2.2) (ht.later ‹_ ∧ _ ∧ _ ∧ _ ∧ _ ∧ _ ∧ _ ∧ _ ∧ _ ∧ _ ∧ _ ∧ _ ∧ _ ∧ _ ∧ Below wf.heap.size wf _›.2.2.2.2.2.2.2.2.2.2.2.2.2.2)).mono ?_; rintro e w4 ⟨N, cn, rfl, hN, hb⟩; have hb4 : Below wf.heap.size wf w4 := keepB ‹_ ∧ _ ∧ _ ∧ _ ∧ _ ∧ _ ∧ _ ∧ _ ∧ _ ∧ _ ∧ _ ∧ _ ∧ _ ∧ _ ∧ Below wf.heap.size wf _›.2.2.2.2.2.2.2.2.2.2.2.2.2.2 hb; have hz4 := hb4.size; replace hM := CellsAt.later hM hb)
              | (go_at_call 50; refine (ints_same gl M N cm cn _ hM hN HLG.out).mono ?_; rintro e w5 ⟨rfl, hb⟩; have hb5 : Below wf.heap.size wf w5 := keepB ‹_ ∧ _ ∧ _ ∧ _ ∧ _ ∧ _ ∧ _ ∧ _ ∧ _ ∧ _ ∧ _ ∧ _ ∧ _ ∧ _ ∧ Below wf.heap.size wf _›.2.2.2.2.2.2.2.2.2.2.2.2.2.2 hb; have hz5 := hb5.size))
          all_goals
            go_wp2
            go_ret
            exact ⟨rfl, keepB HB (by assumption)⟩
end Go.Proofs.YthpdladfcjcjiaaDoor
