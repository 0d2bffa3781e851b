/- CertifyFresh's walk. -/
import Derived.Test.YtboiafchmdflpaaDoorBoth16
import Derived.Test.YtboiafchmdflpaaDoorRdsM
namespace Go.Proofs.YtboiafchmdflpaaDoor
open Go.RowKit Go.Maps Go.Shelf Go.Sort

/-! ### The plain law -/
theorem getK_puts_no {n : Nat} {k : ByteArray} : ∀ (l : List Wr) {m : KV}, RisesK m → (∀ x ∈ l, x.key ≠ k) → getK (putWs n m l) k = getK m k
  | [], _, _, _ => rfl
  | x :: l, m, h, hk => by
    have h2 : getK (putWs n (putW n m x) l) k = getK (putW n m x) k := getK_puts_no l (putK_rises h _ _) (fun y hy => hk y (by simp [hy]))
    rw [show putWs n m (x :: l) = putWs n (putW n m x) l from rfl, h2, putW, getK_putK h, if_neg (fun e => hk x (by simp) e.symm)]
theorem getK_puts_yes {n : Nat} {k : ByteArray} : ∀ (l : List Wr) {m : KV}, RisesK m → (∃ x ∈ l, x.key = k) → ∃ v r, getK (putWs n m l) k = v :: r ∧ v.num = n
  | [], _, _, h => by obtain ⟨x, hx, _⟩ := h; cases hx
  | x :: l, m, h, hk => by
    rw [show putWs n m (x :: l) = putWs n (putW n m x) l from rfl]
    by_cases hl : ∃ y ∈ l, y.key = k
    · exact getK_puts_yes l (putK_rises h _ _) hl
    · obtain ⟨y, hy, e⟩ := hk
      have hx : x.key = k := by
        rcases List.mem_cons.1 hy with rfl | hy
        · exact e
        · exact absurd ⟨y, hy, e⟩ hl
      have h2 : getK (putWs n (putW n m x) l) k = getK (putW n m x) k := getK_puts_no l (putK_rises h _ _) (fun y hy e => hl ⟨y, hy, e⟩)
      rw [h2, putW, getK_putK h, if_pos hx.symm]
      exact ⟨_, _, rfl, rfl⟩
theorem seen_top {l : List Ver} {a b : Nat} (h : ∀ v ∈ l, v.num ≤ a) (hab : a ≤ b) : seenV l b = seenV l a := by
  cases l with
  | nil => rfl
  | cons v l =>
    have := h v (by simp)
    rw [seenV_cons_lo (show v.num ≤ b by omega), seenV_cons_lo this]
def hitB (more : List Wr) (k : ByteArray) : Bool := more.any fun x => decide (x.key = k)
def touchB (keys : List ByteArray) (more : List Wr) : Bool := keys.any (hitB more)
def freshR (s : StD) (k : ByteArray) : Rd := ⟨k, (seenV (getK s.ks k) s.last).num⟩
theorem fresh_yes (s : StD) (keys : List ByteArray) : voteB s (keys.map (freshR s)) = true := by
  rw [voteB, List.all_eq_true]
  intro x hx
  obtain ⟨k, _, rfl⟩ := List.mem_map.1 hx
  simp [voteR, freshR]
theorem fresh_after {s : StD} (hs : StOK s) (keys : List ByteArray) (more : List Wr) (hm : wrsOK more = true) : voteB (applyS s (s.last + 1) more) (keys.map (freshR s)) = !touchB keys more := by
  have ha : applyS s (s.last + 1) more = ⟨putWs (s.last + 1) s.ks more, s.last + 1, s.low⟩ := by
    rw [applyS, if_neg (by omega), if_pos hm]
  have one : ∀ k, voteR (applyS s (s.last + 1) more) (freshR s k) = !hitB more k := fun k => by
    have htop := (hs.getK k).2.1
    rw [ha, voteR]
    by_cases hk : ∃ x ∈ more, x.key = k
    · have hh : hitB more k = true := by
        obtain ⟨x, hx, e⟩ := hk
        exact List.any_eq_true.2 ⟨x, hx, by simp [e]⟩
      obtain ⟨v, r, e, hv⟩ := getK_puts_yes (n := s.last + 1) more hs.rises hk
      have hle : (seenV (getK s.ks k) s.last).num ≤ s.last := by
        rw [seenV]
        cases hf : (getK s.ks k).find? fun v => decide (v.num ≤ s.last) with
        | none => exact Nat.zero_le _
        | some u => exact (htop u (List.mem_of_find?_eq_some hf)).2
      have h1 : (seenV (getK (putWs (s.last + 1) s.ks more) k) (s.last + 1)).num = s.last + 1 := by rw [e, seenV_cons_lo (show v.num ≤ s.last + 1 by omega), hv]
      rw [hh]
      show decide ((seenV (getK (putWs (s.last + 1) s.ks more) k) (s.last + 1)).num = (seenV (getK s.ks k) s.last).num) = false
      rw [decide_eq_false_iff_not]
      omega
    · have hh : hitB more k = false := by
        rw [hitB, List.any_eq_false]
        intro x hx
        simp only [decide_eq_true_eq]
        exact fun e => hk ⟨x, hx, e⟩
      have h1 : seenV (getK (putWs (s.last + 1) s.ks more) k) (s.last + 1) = seenV (getK s.ks k) s.last := by
        rw [getK_puts_no more hs.rises (fun x hx e => hk ⟨x, hx, e⟩), seen_top (fun v hv => (htop v hv).2) (Nat.le_succ _)]
      rw [hh]
      show decide ((seenV (getK (putWs (s.last + 1) s.ks more) k) (s.last + 1)).num = (seenV (getK s.ks k) s.last).num) = true
      rw [decide_eq_true_eq, h1]
  rw [voteB, touchB]
  induction keys with
  | nil => rfl
  | cons k keys ih => simp [one, ih]
def touchTo (keys : List ByteArray) (more : List Wr) (i : Nat) : Bool := touchB (keys.take i) more
def touchIn (keys : List ByteArray) (more : List Wr) (i k : Nat) (x : ByteArray) : Bool := touchTo keys more i || hitB (more.take k) x
theorem touchTo_succ {keys : List ByteArray} {more : List Wr} {i : Nat} {x : ByteArray} (hi : i < keys.length) (hx : keys.getD i noStr = x) : touchTo keys more (i + 1) = touchIn keys more i more.length x := by
  have e : keys[i] = x := by rw [← hx, List.getD_eq_getElem?_getD, List.getElem?_eq_getElem hi]; rfl
  rw [touchTo, touchB, List.take_succ_eq_append_getElem hi, List.any_append, touchIn, List.take_length, e, touchTo, touchB]
  simp
theorem touchIn_succ {keys : List ByteArray} {more : List Wr} {i k : Nat} {x : ByteArray} {y : Wr} (hk : k < more.length) (hy : more.getD k noWr = y) : touchIn keys more i (k + 1) x = (touchIn keys more i k x || decide (y.key = x)) := by
  have e : more[k] = y := by rw [← hy, List.getD_eq_getElem?_getD, List.getElem?_eq_getElem hk]; rfl
  rw [touchIn, touchIn, hitB, hitB, List.take_succ_eq_append_getElem hk, List.any_append, e, Bool.or_assoc]
  simp
theorem touchIn_zero (keys : List ByteArray) (more : List Wr) (i : Nat) (x : ByteArray) : touchIn keys more i 0 x = touchTo keys more i := by simp [touchIn, hitB]
theorem bool_ext {a b : Bool} (h : a = b) : Value.bool a = .bool b := by rw [h]
theorem info_rd : (Tryd.prog.info? 61).map (fun i => (i.zero, i.size, i.bytes)) = some (some (.agg #[.string ByteArray.empty, .int .u64 0]), 2, 24) := by kernel_rfl
theorem rdC_one (x : Rd) : ∀ u ∈ [Value.string x.key, .int .u64 (x.ver : Int)], u.oneCell' = true := fun u hu => by
  simp only [List.mem_cons, List.not_mem_nil, or_false] at hu
  rcases hu with rfl | rfl <;> rfl
structure KeysOK (l : List ByteArray) : Prop where
  k : ∀ i, i < l.length → (l.getD i noStr).size ≤ 9223372036854775807
  n : l.length ≤ 9223372036854775807
/-- The world under a new name, of which it is known what it is good for. -/
theorem world_gen {B : Nat} {wi w0 : World} (F : World → Prop) (hb : Below B wi w0) (h : ∀ wX, Below B wi wX → F wX) : F w0 := h w0 hb
set_option maxRecDepth 100000 in
set_option maxHeartbeats 8000000 in
theorem law_fresh (ls : List (Sl Wr)) (keys : List ByteArray) (more : List Wr) (A K R : Option Addr) (ca ck cr : Nat) (w : World) (hA : SlsAt w A ls) (hW : ∀ i, i < ls.length → WrSlOK w (ls.getD i noSl)) (hK : StrsAt w K keys) (hok : KeysOK keys) (hR : WrsAt w R more) (hro : WrsOK more) (hT : Tabs w) :
    Calls Tryd.prog 8 #[.slice A ls.length ca, .slice K keys.length ck, .slice R more.length cr] w fun e w' => e = .returned (.bool true) ∧ Below w.heap.size w w' := by
  have hn := hok.n
  cases hb : bothOK ls
  · have HB := Lib.hid (both_no ls A ca hA hW hT hb)
    clear hb
    go_enter Tryd.func8, Tryd.ntmps8
    go_wp2_with (first
      | (go_at_call 22; refine HB.out.mono ?_; rintro e w1 ⟨rfl, hb1⟩)
      | (go_at_call 23; refine (awake16_any _).mono ?_; rintro e w2 ⟨rfl, hb2⟩; replace hb1 := keepB hb1 hb2; clear hb2))
    go_ret
    exact ⟨rfl, hb1⟩
  · have HB := Lib.hid (both_ok ls A ca hA hW hT hb)
    have hb' := hb
    simp only [bothOK, Bool.and_eq_true, decide_eq_true_eq] at hb'
    have hfew : ∀ k, k < ls.length → fewW (ls.getD k noSl).l = true := fun k hk => by
      rw [List.getD_eq_getElem?_getD, List.getElem?_eq_getElem hk]; exact List.all_eq_true.1 hb'.2 _ (List.getElem_mem hk)
    have hit := bothTo_items hfew ls.length (Nat.le_refl _)
    have hn20 := hb'.1
    have hla := bothTo_last ls ls.length
    obtain ⟨s, hs⟩ : ∃ s, Hid (bothTo ls ls.length = s) := ⟨_, rfl⟩
    have hsok := bothTo_ok ls ls.length
    rw [hs.out] at hit hsok hla
    clear hb hb' hfew
    by_cases h12 : keys.length ≤ 12
    · have q12 : decide (12 < (keys.length : Int)) = false := by rw [decide_eq_false_iff_not]; omega
      cases hfw : fewW more
      · replace hfw := Lib.hid hfw
        go_enter Tryd.func8, Tryd.ntmps8
        go_wp2_with (first
          | (go_at_call 22; refine HB.out.mono ?_; rintro e w1 ⟨p, q, rfl, hP, hb1⟩)
          | (go_at_call 23; refine (awake16_any _).mono ?_; rintro e w2 ⟨rfl, hb2⟩; replace hb1 := keepB hb1 hb2; clear hb2)
          | (go_at_call 26; refine (calls_same hfw.out (fewW_any more R cr _ (hR.later hb1) hro)).mono ?_; rintro e w3 ⟨rfl, rfl⟩))
        go_ret
        exact ⟨rfl, hb1⟩
      · have h12m := fewW_len hfw
        replace hfw := Lib.hid hfw
        cases hwo : wrsOK more
        · replace hwo := Lib.hid hwo
          go_enter Tryd.func8, Tryd.ntmps8
          go_wp2_with (first
            | (go_at_call 22; refine HB.out.mono ?_; rintro e w1 ⟨p, q, rfl, hP, hb1⟩)
            | (go_at_call 23; refine (awake16_any _).mono ?_; rintro e w2 ⟨rfl, hb2⟩; replace hb1 := keepB hb1 hb2; clear hb2)
            | (go_at_call 26; refine (calls_same hfw.out (fewW_any more R cr _ (hR.later hb1) hro)).mono ?_; rintro e w3 ⟨rfl, rfl⟩)
            | (go_at_call 27; refine (calls_b14 hwo.out (refFormed14_any more R cr _ (hR.later hb1) hro (by omega))).mono ?_; rintro e w4 ⟨rfl, hb4⟩; replace hb1 := keepB hb1 hb4; clear hb4))
          go_ret
          exact ⟨rfl, hb1⟩
        · replace hwo := Lib.hid hwo
          go_enter Tryd.func8, Tryd.ntmps8
          go_wp2_with (first
            | (go_at_call 22; refine HB.out.mono ?_; rintro e w1 ⟨p, q, rfl, hP, hb1⟩; rw [hs.out] at hP; replace hP := Lib.hid hP)
            | (go_at_call 23; refine (awake16_any _).mono ?_; rintro e w2 ⟨rfl, hb2⟩; replace hP := Lib.hid (hP.out.later hb2); replace hb1 := keepB hb1 hb2; clear hb2)
            | (go_at_call 26; refine (calls_same hfw.out (fewW_any more R cr _ (hR.later hb1) hro)).mono ?_; rintro e w3 ⟨rfl, rfl⟩)
            | (go_at_call 27; refine (calls_b14 hwo.out (refFormed14_any more R cr _ (hR.later hb1) hro (by omega))).mono ?_; rintro e w4 ⟨rfl, hb4⟩; replace hP := Lib.hid (hP.out.later hb4); replace hb1 := keepB hb1 hb4; clear hb4))
          obtain ⟨O, O2, M, hM, hS, _, _⟩ := hP.out
          obtain ⟨i0, hi, hz0, hz1, hz2⟩ := info_parts info_rd
          have HSS := Lib.hid hS
          have hOlt := Lib.hid (fun k hk => (hS.lt k hk).2)
          have hOge := Lib.hid (fun k hk => (hS.lt k hk).1)
          clear hS hP
          go_loopw [10, 11] (fun v i wr => ∃ k : Nat, k ≤ keys.length ∧ i = .int .i64 k ∧ Hid ((keys.take k).all (fun x => decide (x.size ≤ 1000)) = true) ∧ Hid (wr.ownsRow w4.heap.size 61 2 v k (rdCells ((keys.take k).map (freshR s)))) ∧ Below w4.heap.size w4 wr) (fun _ i _ => keys.length - (intOf i).toNat)
          case atStart => exact ⟨0, Nat.zero_le _, rfl, rfl, own_nil _ _ _ _, Below.refl _ _⟩
          case round =>
            obtain ⟨k, hk, rfl, HA, HO, hw⟩ := hrel
            obtain ⟨wi, rfl⟩ : ∃ wi : World, wi = wr := ⟨_, rfl⟩
            by_cases hlt : k < keys.length
            · obtain ⟨b, off, x, rfl, d0, HX⟩ := (StrsAt.at' (CellsAt.later hK (keepB hb1 hw)) hlt)
              have hki : (k : Int) < (keys.length : Int) := by omega
              by_cases hx1 : 1000 < x.size
              · go_wp2
                go_ret
                exact ⟨rfl, keepB hb1 hw⟩
              · have HR1 : Hid ((keys.take (k + 1)).all (fun x => decide (x.size ≤ 1000)) = true) := all_next hlt HX.out (by simp; omega) HA.out
                have HT2 : Hid ((keys.take (k + 1)).map (freshR s) = (keys.take k).map (freshR s) ++ [freshR s x]) := by
                  show _ = _
                  have e : keys.getD k noStr = keys[k] := by rw [List.getD_eq_getElem?_getD, List.getElem?_eq_getElem hlt]; rfl
                  rw [List.take_succ_eq_append_getElem hlt, List.map_append, ← e, HX.out]; rfl
                obtain ⟨v, hv⟩ : ∃ v, Hid (seenV (getK s.ks x) s.last = v) := ⟨_, rfl⟩
                have hlow := hsok.low
                have HG : Hid (∀ wz, StoreAt wz w.heap.size p M O s → Calls Tryd.prog 18 #[.pointer (some ⟨p, 0, none⟩), .string x, .int .u64 (s.last : Int)] wz (GetPost wz v 0)) := fun wz hh => by
                  have := get14_any hh x (by unfold maxLen; omega) s.last (Nat.le_trans (getK_len _ _) (by omega))
                  rw [getV, oldE, if_neg (by omega), if_neg (by omega), hv.out] at this
                  exact this
                have HH := Lib.hid (HSS.out.later hw)
                have n1 : ¬ (b = wi.heap.size) := by have h9 : b < wi.heap.size := blk_lt d0; omega
                have n2 : ¬ (wi.heap.size = b) := by omega
                go_wp2
                go_region_held3 (fun w' => w'.cell? ⟨b, off + k, none⟩ = some (.string x))
                  (first | (with_reducible exact keepD d0) | (with_reducible exact keepD (keepA _ d0)) | (with_reducible exact keep hb2 d0) | (with_reducible exact keepA _ (keep hb2 d0)) | (with_reducible exact keepS (keepS (keepS (keep hb2 d0) n1) n1) n1))
                  (first
                    | (go_at_call 16; refine (last14_any (HH.out.later (by first | exact below_drew (Below.refl _ _) | exact below_drew (below1 _ _)))).mono ?_; rintro e w5 ⟨rfl, rfl⟩)
                    | (go_at_call 18; refine (HG.out _ (HH.out.later (by first | exact below_drew (Below.refl _ _) | exact below_drew (below1 _ _)))).mono ?_; rintro e w6 ⟨rfl, hb⟩; have hb2 : Below wi.heap.size wi w6 := keepB (by first | exact below_drew (Below.refl _ _) | exact below_drew (below1 _ _)) hb; (try have Y := Blk3.newd hb); (try (obtain ⟨y0, y1, y2, f0, f1, f2⟩ := Y.facts))))
                all_goals
                  refine world_gen (B := wi.heap.size) (wi := wi) (Exit.then _ _ _ _) (by first | exact ((hb2.setCell (Nat.le_refl _) _).setCell (Nat.le_refl _) _).setCell (Nat.le_refl _) _ | exact hb2.alloc hb2.size _) ?_
                  intro wX hbX
                  have dX := keep hbX d0
                  have HO2 := Lib.hid (own_keep HO.out hbX)
                  have hwX := keepB hw hbX
                  have hszX := hwX.size
                  clear hbX hb2 n1 n2 d0
                  go_wp2_with (at_builtin; refine wpList_append_own_at _ rfl _ _ 57 rfl w4.heap.size 61 i0 _ 2 24 Tryd.underlying57 hi hz0 hz1 hz2 rfl (by decide) u10 k (rdCells ((keys.take k).map (freshR s))) rfl (own_keep HO2.out (below1 _ _)) ⟨wX.heap.size, 0, none⟩ 1 1 [.string x, .int .u64 (v.num : Int)] rfl rfl (World.news_of_block (heap_alloc_new wX _)) (rdC_one ⟨x, v.num⟩) (le_maxLen (by omega)) (by omega) (Nat.le_trans hszX (below1 _ _).size) ?_; intro v7 w7 HO7 hg7 _ _; have hw7 := own_below (keepB hwX (below1 wX _)) (Nat.le_refl _) (own_keep HO2.out (below1 _ _)) hg7; replace HO7 := Lib.hid HO7; clear hg7)
                  go_roundw
                  case rel =>
                    refine ⟨k + 1, by omega, by go_num, HR1, ?_, hw7⟩
                    show World.ownsRow _ _ _ _ _ _ _
                    rw [HT2.out, rdCells_snoc]
                    have e : (freshR s x).ver = v.num := by rw [← hv.out]; rfl
                    rw [e]
                    exact HO7.out
                  case measure => simp [intOf]; omega
            · have ek : k = keys.length := by omega
              have hfull := HA.out
              have hO := HO.out
              rw [ek, List.take_length] at hfull hO
              obtain ⟨reads, hreads⟩ : ∃ reads, Hid (keys.map (freshR s) = reads) := ⟨_, rfl⟩
              have hrl : keys.length = reads.length := by rw [← hreads.out, List.length_map]
              rw [hreads.out, hrl] at hO
              obtain ⟨Ar, cr2, hv10, hcr, hRd⟩ := own_rds hO
              have hrok : RdsOK reads := ⟨fun i hi => by
                rw [← hreads.out]
                have hi' : i < keys.length := by omega
                have h2 := List.all_eq_true.1 hfull _ (List.getElem_mem hi')
                rw [List.getD_eq_getElem?_getD, List.getElem?_map, List.getElem?_eq_getElem hi']
                simp only [decide_eq_true_eq, Option.map_some, Option.getD_some, freshR] at h2 ⊢
                unfold maxLen; omega, by omega⟩
              have hVy : voteB s reads = true := by rw [← hreads.out]; exact fresh_yes s keys
              have hVa : Hid (voteB (applyS s (s.last + 1) more) reads = !touchB keys more) := by show _ = _; rw [← hreads.out]; exact fresh_after hsok keys more hwo.out
              have hS := HSS.out.later hw
              have hbw := keepB hb1 hw
              have hwB := hbw.size
              have hVote := Lib.hid (calls_b16 hVy (vote_any hS hsok (by omega) reads Ar cr2 hRd hrok))
              have hgR : Hid (∀ g, u10.ownBlock = some g → ¬ O g) := fun g hg ho => by
                have h1 := (hO.lt g hg).1
                have h2 := hOlt.out g ho
                omega
              have hE : Hid (applyE s (s.last + 1) more = 0) := by show _ = _; rw [applyE, if_neg (by omega), if_pos hwo.out]
              have hAp : Hid (∀ wz, Below wi.heap.size wi wz → Calls Tryd.prog 29 #[.pointer (some ⟨p, 0, none⟩), .int .u64 ((s.last : Int) + 1), .slice R more.length cr] wz fun e w' => e = .returned (.int .i64 0) ∧ StoreAt w' w.heap.size p (M + more.length) (ext O wz w') (applyS s (s.last + 1) more) ∧ Out O wz w') := fun wz hz => by
                have := apply14_any (hS.later hz) (Nat.le_trans hwB hz.size) hsok (s.last + 1) more R cr (hR.later (keepB hbw hz)) (hR.low (Nat.le_refl _) hOge.out) hro (hT.later (keepB hbw hz)) (by omega) (by omega)
                rw [show ((s.last + 1 : Nat) : Int) = (s.last : Int) + 1 by omega] at this
                exact this.mono fun e w' h => ⟨by rw [h.1, hE.out], h.2.1, h.2.2⟩
              have hLs : Hid (∀ wz, Below wi.heap.size wi wz → Calls Tryd.prog 16 #[.pointer (some ⟨p, 0, none⟩)] wz fun e w' => e = .returned (.int .u64 (s.last : Int)) ∧ wz = w') := fun wz hz => last14_any (hS.later hz)
              have HRL := Lib.hid hrl
              have HOr := Lib.hid hO
              have HV10 := Lib.hid hv10
              subst hv10
              clear ek hfull hO hRd hVy HA HO hrl
              go_wp2_with (first
                | (go_at_call 24; refine hVote.out.mono ?_; rintro e w8 ⟨rfl, hb8⟩)
                | (go_at_call 16; refine (hLs.out _ hb8).mono ?_; rintro e w9 ⟨rfl, rfl⟩)
                | (go_at_call 29; refine (hAp.out _ hb8).mono ?_; rintro e w10 ⟨rfl, hS10, ho10⟩))
              have hb10 : Below w.heap.size w w10 := (keepB hbw hb8).trans (ho10.below (keepB hbw hb8).size hOge.out)
              have hO10 : Hid (w10.ownsRow w4.heap.size 61 2 (.slice Ar reads.length cr2) reads.length (rdCells reads)) := ho10.row (own_keep HOr.out hb8) hgR.out
              have hS10' := Lib.hid hS10
              have hok10 := apply_ok hsok (s.last + 1) more
              have hit10 := items_apply_len hsok (s.last + 1) more
              have hm10 : more.length ≤ 12 := h12m
              clear hS10 ho10
              go_loopw [15, 16] (fun t i wr => ∃ k : Nat, k ≤ keys.length ∧ i = .int .i64 k ∧ t = .bool (touchTo keys more k) ∧ Below w10.heap.size w10 wr) (fun _ i _ => keys.length - (intOf i).toNat)
              case atStart => exact ⟨0, Nat.zero_le _, rfl, rfl, Below.refl _ _⟩
              case round =>
                obtain ⟨k, hk, rfl, rfl, hwk⟩ := hrel
                obtain ⟨wk, rfl⟩ : ∃ wk : World, wk = wr := ⟨_, rfl⟩
                by_cases hlt : k < keys.length
                · obtain ⟨b, off, x, rfl, d0, HX⟩ := (StrsAt.at' (CellsAt.later hK (keepB hb10 hwk)) hlt)
                  have hki : (k : Int) < (keys.length : Int) := by omega
                  obtain ⟨t0, ht0⟩ : ∃ t0, Hid (touchTo keys more k = t0) := ⟨_, rfl⟩
                  rw [ht0.out]
                  go_wp2
                  go_loopw [15, 17] (fun t i wr => ∃ j : Nat, j ≤ more.length ∧ i = .int .i64 j ∧ t = .bool (touchIn keys more k j x) ∧ Below w10.heap.size w10 wr) (fun _ i _ => more.length - (intOf i).toNat)
                  case atStart => exact ⟨0, Nat.zero_le _, rfl, bool_ext (by rw [touchIn_zero, ht0.out]), hwk⟩
                  case round =>
                    obtain ⟨j, hj, rfl, rfl, hwj⟩ := hrel
                    by_cases hlj : j < more.length
                    · obtain ⟨b2, off2, y, z, m, tx, rfl, e0, _, _, _, HY⟩ := (hR.later (keepB hb10 hwj)).at' hlj
                      have d0' := CellsAt.later hK (keepB hb10 hwj)
                      obtain ⟨b3, off3, x3, e3, d3, HX3⟩ := StrsAt.at' d0' hlt
                      injection e3 with e3
                      injection e3 with f1 f2
                      subst f1 f2
                      have ex3 : x3 = x := by rw [← HX3.out, HX.out]
                      subst ex3
                      have hji : (j : Int) < (more.length : Int) := by omega
                      have HT3 := Lib.hid (touchIn_succ (keys := keys) (i := k) (x := x3) hlj HY.out)
                      obtain ⟨t1, ht1⟩ : ∃ t1, Hid (touchIn keys more k j x3 = t1) := ⟨_, rfl⟩
                      rw [ht1.out]
                      have hcmp := str_eq_dec y x3
                      cases t1
                      · by_cases hyx : y = x3
                        · have q1 : (y.toList == x3.toList) = true := by rw [hcmp, decide_eq_true hyx]
                          have HR3 : Hid (touchIn keys more k (j + 1) x3 = true) := by show _ = _; rw [HT3.out, decide_eq_true hyx, Bool.or_true]
                          clear hyx hcmp
                          go_wp2
                          go_quiet (fail)
                          go_wp2
                          go_roundw
                          case rel => exact ⟨j + 1, by omega, by go_num, bool_ext HR3.out.symm, below_drewN hwj _⟩
                          case measure => simp [intOf]; omega
                        · have q1 : (y.toList == x3.toList) = false := by rw [hcmp, decide_eq_false hyx]
                          have HR3 : Hid (touchIn keys more k (j + 1) x3 = false) := by show _ = _; rw [HT3.out, decide_eq_false hyx, ht1.out]; rfl
                          clear hyx hcmp
                          go_wp2
                          go_quiet (fail)
                          go_wp2
                          go_roundw
                          case rel => exact ⟨j + 1, by omega, by go_num, bool_ext HR3.out.symm, below_drewN hwj _⟩
                          case measure => simp [intOf]; omega
                      · have HR3 : Hid (touchIn keys more k (j + 1) x3 = true) := by show _ = _; rw [HT3.out, ht1.out]; rfl
                        clear hcmp
                        go_wp2
                        go_quiet (fail)
                        go_wp2
                        go_roundw
                        case rel => exact ⟨j + 1, by omega, by go_num, bool_ext HR3.out.symm, below_drewN hwj _⟩
                        case measure => simp [intOf]; omega
                    · have HR3 : Hid (touchTo keys more (k + 1) = touchIn keys more k j x) := by show _ = _; rw [touchTo_succ hlt HX.out, show more.length = j by omega]
                      go_wp2
                      go_roundw
                      case rel => exact ⟨k + 1, by omega, by go_num, bool_ext HR3.out.symm, hwj⟩
                      case measure => simp [intOf]; omega
                · have HTE : Hid (touchTo keys more k = touchB keys more) := by show _ = _; rw [touchTo, show keys.take k = keys from List.take_of_length_le (by omega)]
                  obtain ⟨t0, ht0⟩ : ∃ t0, Hid (touchTo keys more k = t0) := ⟨_, rfl⟩
                  rw [ht0.out]
                  have hO11 := own_keep hO10.out hwk
                  obtain ⟨Ar2, cr3, hv11, _, hRd2⟩ := own_rds hO11
                  injection hv11 with g1 _ g3
                  subst g1 g3
                  have hVf : voteB (applyS s (s.last + 1) more) reads = !t0 := by rw [hVa.out, ← HTE.out, ht0.out]
                  have hVote2 := Lib.hid (calls_b16 hVf (vote_any (hS10'.out.later hwk) hok10 (by omega) reads Ar cr2 hRd2 hrok))
                  clear hO11 hRd2 hVf hVote hLs hAp
                  go_wp2_with (go_at_call 24; refine hVote2.out.mono ?_; rintro e w12 ⟨rfl, hb12⟩)
                  go_ret
                  exact ⟨by simp, keepB (keepB hb10 hwk) hb12⟩
    · have q12 : 12 < (keys.length : Int) := by omega
      go_enter Tryd.func8, Tryd.ntmps8
      go_wp2_with (first
        | (go_at_call 22; refine HB.out.mono ?_; rintro e w1 ⟨p, q, rfl, hP, hb1⟩)
        | (go_at_call 23; refine (awake16_any _).mono ?_; rintro e w2 ⟨rfl, hb2⟩; replace hb1 := keepB hb1 hb2; clear hb2))
      go_ret
      exact ⟨rfl, hb1⟩
end Go.Proofs.YtboiafchmdflpaaDoor
