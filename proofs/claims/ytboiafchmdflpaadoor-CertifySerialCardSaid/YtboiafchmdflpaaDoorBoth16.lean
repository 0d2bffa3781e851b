/- Layer 16's statements: both stores out of a list of writes. -/
import Derived.Test.YtboiafchmdflpaaDoorVote16
import Derived.Test.YtboiafchmdflpaaDoorSls
import Derived.Test.YtboiafchmdflpaaDoorAwk16
namespace Go.Proofs.YtboiafchmdflpaaDoor
open Go.RowKit Go.Maps Go.Shelf Go.Sort

def bothTo (ls : List (Sl Wr)) : Nat → StD
  | 0 => st0
  | k + 1 => applyS (bothTo ls k) (k + 1) (ls.getD k noSl).l
def bothOK (ls : List (Sl Wr)) : Bool := decide (ls.length ≤ 20) && ls.all fun s => fewW s.l
theorem bothTo_ok (ls : List (Sl Wr)) : ∀ k, StOK (bothTo ls k)
  | 0 => st0_ok
  | k + 1 => apply_ok (bothTo_ok ls k) _ _
theorem bothTo_last (ls : List (Sl Wr)) : ∀ k, (bothTo ls k).last ≤ k
  | 0 => Nat.le_refl _
  | k + 1 => by
    have := bothTo_last ls k
    rw [bothTo, applyS]
    split
    · omega
    · split
      · exact Nat.le_refl _
      · omega
theorem bothTo_low (ls : List (Sl Wr)) : ∀ k, (bothTo ls k).low = 0
  | 0 => rfl
  | k + 1 => by
    have := bothTo_low ls k
    rw [bothTo, applyS]
    split
    · exact this
    · split <;> exact this
theorem items_apply_len {s : StD} (h : StOK s) (n : Nat) (l : List Wr) : (items (applyS s n l).ks).length ≤ (items s.ks).length + l.length := by
  rw [applyS]
  split
  · omega
  · split
    · rw [items_puts_len n l h.rises]; exact Nat.le_refl _
    · omega
theorem fewW_len {l : List Wr} (h : fewW l = true) : l.length ≤ 12 := by
  simp only [fewW, Bool.and_eq_true, decide_eq_true_eq] at h; exact h.2
theorem bothTo_items {ls : List (Sl Wr)} {n : Nat} (h : ∀ k, k < n → fewW (ls.getD k noSl).l = true) : ∀ k, k ≤ n → (items (bothTo ls k).ks).length ≤ 12 * k
  | 0, _ => Nat.le_refl _
  | k + 1, hk => by
    have h1 := bothTo_items h k (by omega)
    have h2 := items_apply_len (bothTo_ok ls k) (k + 1) (ls.getD k noSl).l
    have h3 := fewW_len (h k (by omega))
    rw [bothTo]
    omega
theorem rApply_eq {s : StD} (h : StOK s) (n : Nat) (l : List Wr) : rApplyL (items s.ks) s.last n l = items (applyS s n l).ks ∧ rLast s.last n l = (applyS s n l).last ∧ rApplyE s.last n l = applyE s n l := by
  rw [rApplyL, rLast, rApplyE, applyS, applyE]
  split
  · exact ⟨rfl, rfl, rfl⟩
  · split
    · exact ⟨insWs_items h.rises n l, rfl, rfl⟩
    · exact ⟨rfl, rfl, rfl⟩
theorem StoreAt.lt {w : World} {B p N : Nat} {O : Nat → Prop} {s : StD} (h : StoreAt w B p N O s) : ∀ k, O k → B ≤ k ∧ k < w.heap.size := by
  obtain ⟨mb, D, V, h⟩ := h; exact h.lt
theorem RefAt.lt {w : World} {B q : Nat} {O : Nat → Prop} {L : List It} {last low : Nat} (h : RefAt w B q O L last low) : ∀ k, O k → B ≤ k ∧ k < w.heap.size := by
  obtain ⟨v, h⟩ := h; exact h.lt
theorem StoreAt.base {w : World} {B B' p N : Nat} {O : Nat → Prop} {s : StD} (h : StoreAt w B p N O s) (hB : B' ≤ B) : StoreAt w B' p N O s := by
  obtain ⟨mb, D, V, h⟩ := h
  refine ⟨mb, D, V, ?_⟩
  have hrow : ∀ k, OwnV w B' (V k) (getK s.ks k) := fun k => ⟨(h.keys.row k).1, (h.keys.row k).2.imp id fun ⟨g, cap, cur, e, hg, r⟩ => ⟨g, cap, cur, e, by omega, r⟩⟩
  exact { blk := h.blk, keys := { own := h.keys.own, has := h.keys.has, at_ := h.keys.at_, row := hrow, nil := h.keys.nil, apart := h.keys.apart, mine := h.keys.mine, hm := h.keys.hm }, hp := h.hp, n1 := h.n1, n2 := h.n2, lt := fun k hk => ⟨by have := (h.lt k hk).1; omega, (h.lt k hk).2⟩ }
/-- Both stores, in blocks that they do not share. -/
def PairAt (w : World) (B p q N : Nat) (s : StD) : Prop :=
  ∃ (O O2 : Nat → Prop) (M : Nat), M ≤ N ∧ StoreAt w B p M O s ∧ RefAt w B q O2 (items s.ks) s.last s.low ∧ ∀ k, O k → ¬ O2 k
theorem PairAt.later {w w' : World} {B p q N : Nat} {s : StD} (h : PairAt w B p q N s) (hb : Below w.heap.size w w') : PairAt w' B p q N s := by
  obtain ⟨O, O2, M, hM, h1, h2, h5⟩ := h
  exact ⟨O, O2, M, hM, h1.later hb, h2.later hb, h5⟩
theorem pair_step {w w2 w3 : World} {B p q M N : Nat} {O O2 : Nat → Prop} {s s' : StD} {L' : List It} {last low : Nat} (hB : B ≤ w.heap.size) (hS : StoreAt w B p M O s) (hR : RefAt w B q O2 (items s.ks) s.last s.low) (hd : ∀ k, O k → ¬ O2 k)
    (hS2 : StoreAt w2 B p N (ext O w w2) s') (ho : Out O w w2) (hR3 : RefAt w3 B q (ext O2 w2 w3) L' last low) (ho3 : Out O2 w2 w3) (e1 : L' = items s'.ks) (e2 : last = s'.last) (e3 : low = s'.low) : PairAt w3 B p q N s' ∧ Below B w w3 := by
  subst e1 e2 e3
  have h1 := ho.size
  have h3 := ho3.size
  have hd2 : ∀ k, ext O w w2 k → ¬ O2 k := fun k hk h2 => hk.elim (fun h => hd k h h2) (fun h => by have := (hR.lt k h2).2; omega)
  refine ⟨⟨_, _, N, Nat.le_refl _, hS2.out ho3 hd2, hR3, fun k hk h2 => ?_⟩, ?_⟩
  · rcases h2 with h2 | h2
    · exact hd2 k hk h2
    · have := (hS2.lt k hk).2; omega
  · exact (ho.below hB fun k hk => (hS.lt k hk).1).trans (ho3.below (by omega) fun k hk => (hR.lt k hk).1)
/-- A new reference's store. -/
theorem ref_new {w w1 : World} {B : Nat} (hB : B ≤ w.heap.size) (h : w1.heap[w.heap.size]? = some (.cells #[.slice none 0 0, .int .u64 0, .int .u64 0] 32 (0, 0))) (hs : w1.heap.size = w.heap.size + 1) : RefAt w1 B w.heap.size (fun k => k = w.heap.size) [] 0 0 :=
  ⟨_, { blk := h, row := own_nil _ _ _ _, hq := rfl, mine := fun g hg => (by cases hg), lt := fun k hk => ⟨by omega, by omega⟩ }⟩

theorem PairAt.new {w w1 w2 : World} {p : Nat} {T : TypeId} (hS : StoreAt w1 w.heap.size p 0 (ext noB w w1) st0) (h2 : w1.alloc (.cells #[.slice none 0 0, .int .u64 0, .int .u64 0] T) = w2) (hT : T = 32) (hs : w.heap.size ≤ w1.heap.size) : PairAt w2 w.heap.size p w1.heap.size 0 st0 := by
  subst hT h2
  refine ⟨_, _, 0, Nat.le_refl _, hS.later (below1 _ _), ref_new hs (heap_alloc_new w1 _) (by simp), fun k hk e => ?_⟩
  rcases hk with hk | hk
  · exact hk
  · omega
def BothPost (w : World) (ls : List (Sl Wr)) (e : Ending) (w' : World) : Prop :=
  ∃ p q, e = .returned (.tuple #[.pointer (some ⟨p, 0, none⟩), .pointer (some ⟨q, 0, none⟩), .bool true]) ∧ PairAt w' w.heap.size p q (12 * ls.length) (bothTo ls ls.length) ∧ Below w.heap.size w w'
/-- What 'both' gives where the list is not looked at. -/
def NotBoth (w : World) (e : Ending) (w' : World) : Prop := e = .returned (.tuple #[.pointer none, .pointer none, .bool false]) ∧ Below w.heap.size w w'
theorem bothOK_bad {ls : List (Sl Wr)} {k : Nat} {s : Sl Wr} (hk : k < ls.length) (h : ls.getD k noSl = s) (hf : fewW s.l = false) : bothOK ls = false := by
  rw [bothOK, all_bad (d := noSl) hk h hf]; simp
def Both (w : World) (ls : List (Sl Wr)) (e : Ending) (w' : World) : Prop := (bothOK ls = true ∧ BothPost w ls e w') ∨ (bothOK ls = false ∧ NotBoth w e w')
set_option maxRecDepth 100000 in
set_option maxHeartbeats 4000000 in
theorem both_any {w : World} (ls : List (Sl Wr)) (A : Option Addr) (ca : Nat) (hA : SlsAt w A ls) (hW : ∀ i, i < ls.length → WrSlOK w (ls.getD i noSl)) (hT : Tabs w) :
    Calls Tryd.prog 22 #[.slice A ls.length ca] w (Both w ls) := by
  have HW := Lib.hid hW
  have HT := Lib.hid hT
  clear hW hT
  by_cases hn : ls.length ≤ 20
  · have hn20 : ¬ (20 < (ls.length : Int)) := by omega
    go_enter Tryd.func22, Tryd.ntmps22
    go_wp2_with (go_at_call 13; refine (new14_any _).mono ?_; rintro e w1 ⟨p, rfl, hS, hb1⟩; obtain ⟨w2, ew2, hb2, hsz2, hrow2⟩ := new3 w1 (.slice none 0 0) (.int .u64 0) (.int .u64 0) 32; have HP := Lib.hid (PairAt.new hS ew2 rfl hb1.size))
    go_loopw [7] (fun i wr => ∃ k : Nat, k ≤ ls.length ∧ i = .int .i64 k ∧ Hid (∀ i, i < k → fewW (ls.getD i noSl).l = true) ∧ Hid (PairAt wr w.heap.size p w1.heap.size (12 * k) (bothTo ls k)) ∧ Below w.heap.size w wr) (fun i _ => ls.length - (intOf i).toNat)
    case atStart => exact ⟨0, Nat.zero_le _, rfl, fun i hi => absurd hi (Nat.not_lt_zero i), HP, keepB hb1 hb2⟩
    case round =>
      obtain ⟨k, hk, rfl, HF, HI, hw⟩ := hrel
      clear ew2 hb2 hsz2 hrow2 hS
      by_cases hlt : k < ls.length
      · obtain ⟨b, off, sl, rfl, d0w, HX⟩ := SlsAt.at' hA hlt
        have d0 := keep hw d0w
        have hki : (k : Int) < (ls.length : Int) := by omega
        obtain ⟨O, O2, M, hM, hS, hR, hd⟩ := HI.out
        have hsl := HW.out k hlt
        rw [HX.out] at hsl
        have hfw0 := fewW_any sl.l sl.A sl.cap wr (hsl.at_.later hw) hsl.ok
        cases hfw : fewW sl.l
        · have HB0 := Lib.hid (bothOK_bad hlt HX.out hfw)
          have HFw : Hid (Calls Tryd.prog 26 #[.slice sl.A sl.l.length sl.cap] wr fun e w' => e = .returned (.bool false) ∧ wr = w') := calls_same hfw hfw0
          clear hfw hfw0 HI hS hR hd
          go_wp2_with (go_at_call 26; refine HFw.out.mono ?_; rintro e w3 ⟨rfl, rfl⟩)
          go_ret3
          exact .inr ⟨HB0.out, rfl, hw⟩
        have HFN : Hid (∀ i, i < k + 1 → fewW (ls.getD i noSl).l = true) := fun i hi => by
          by_cases e : i = k
          · rw [e, HX.out]; exact hfw
          · exact HF.out i (by omega)
        have hlen := fewW_len hfw
        have hBs := hw.size
        have hlow := hsl.at_.low (O := O) (Nat.le_refl _) (fun x hx => (hS.lt x hx).1)
        have hlow2 := hsl.at_.low (O := O2) (Nat.le_refl _) (fun x hx => (hR.lt x hx).1)
        have hit := bothTo_items HF.out k (Nat.le_refl _)
        have hAp : Calls Tryd.prog 29 #[.pointer (some ⟨p, 0, none⟩), .int .u64 ((k : Int) + 1), .slice sl.A sl.l.length sl.cap] wr (ApplyPost wr w.heap.size p M O (bothTo ls k) (k + 1) sl.l) := by
          have := apply14_any hS hBs (bothTo_ok ls k) (k + 1) sl.l sl.A sl.cap (hsl.at_.later hw) hlow hsl.ok (HT.out.later hw) (by omega) (by omega)
          rw [show ((k + 1 : Nat) : Int) = (k : Int) + 1 by omega] at this
          exact this
        have hRp : Hid (∀ w2, Out O wr w2 → Calls Tryd.prog 30 #[.pointer (some ⟨w1.heap.size, 0, none⟩), .int .u64 ((k : Int) + 1), .slice sl.A sl.l.length sl.cap] w2 (RApplyPost w2 w.heap.size w1.heap.size O2 (items (bothTo ls k).ks) (bothTo ls k).last (bothTo ls k).low (k + 1) sl.l)) := fun w2 ho => by
          have hb := ho.below hBs fun x hx => (hS.lt x hx).1
          have := refApply_any (hR.out ho fun x h2 h1 => hd x h1 h2) (Nat.le_trans hBs ho.size) (k + 1) sl.l sl.A sl.cap (hsl.at_.later (hw.trans hb)) hlow2 hsl.ok (by omega)
          rw [show ((k + 1 : Nat) : Int) = (k : Int) + 1 by omega] at this
          exact this
        have hw1 : IntKind.u64.wrap (k : Int) = k := IntWalk.u64_in _ (by omega)
        have hw2 : IntKind.u64.wrap ((k : Int) + 1) = (k : Int) + 1 := IntWalk.u64_in _ (by omega)
        have HST : Hid (∀ w2 w3, StoreAt w2 w.heap.size p (M + sl.l.length) (ext O wr w2) (applyS (bothTo ls k) (k + 1) sl.l) → Out O wr w2 → RefAt w3 w.heap.size w1.heap.size (ext O2 w2 w3) (rApplyL (items (bothTo ls k).ks) (bothTo ls k).last (k + 1) sl.l) (rLast (bothTo ls k).last (k + 1) sl.l) (bothTo ls k).low → Out O2 w2 w3 → PairAt w3 w.heap.size p w1.heap.size (12 * (k + 1)) (bothTo ls (k + 1)) ∧ Below w.heap.size wr w3) := fun w2 w3 a1 a2 a3 a4 => by
          have he := rApply_eq (bothTo_ok ls k) (k + 1) sl.l
          have hlw : (bothTo ls k).low = (applyS (bothTo ls k) (k + 1) sl.l).low := by
            rw [applyS]; split
            · rfl
            · split <;> rfl
          obtain ⟨⟨P1, P2, M2, hM2, r⟩, hb⟩ := pair_step hBs hS hR hd a1 a2 a3 a4 he.1 he.2.1 hlw
          refine ⟨⟨P1, P2, M2, by omega, ?_⟩, hb⟩
          rw [show bothTo ls (k + 1) = applyS (bothTo ls k) (k + 1) (ls.getD k noSl).l from rfl, HX.out]
          exact r
        have HD4 : Hid (∀ w2, Out O wr w2 → w2.cell? ⟨b, off + k, none⟩ = some (.slice sl.A sl.l.length sl.cap)) := fun w2 ho => keep (hw.trans (ho.below hBs fun x hx => (hS.lt x hx).1)) d0w
        have HAp := Lib.hid hAp
        have hfew : Calls Tryd.prog 26 #[.slice sl.A sl.l.length sl.cap] wr fun e w' => e = .returned (.bool true) ∧ wr = w' := calls_same hfw hfw0
        have HFw := Lib.hid hfew
        clear hAp hfew hfw hfw0 hlow hlow2 hS hR hd hit HI
        go_wp2_with (first
          | (go_at_call 26; refine HFw.out.mono ?_; rintro e w3 ⟨rfl, rfl⟩)
          | (go_at_call 29; refine HAp.out.mono ?_; rintro e w4 ⟨rfl, hS4, ho4⟩; have d1 := HD4.out _ ho4)
          | (go_at_call 30; refine (hRp.out _ ho4).mono ?_; rintro e w5 ⟨rfl, hR5, ho5⟩; have HQ := Lib.hid (HST.out _ _ hS4 ho4 hR5 ho5)))
        go_roundw
        case rel => exact ⟨k + 1, by omega, by go_num, HFN, HQ.out.1, hw.trans HQ.out.2⟩
        case measure => simp [intOf]; omega
      · have ek : k = ls.length := by omega
        clear hlt
        go_wp2
        go_ret3
        refine .inl ⟨?_, p, w1.heap.size, rfl, ?_, hw⟩
        · rw [bothOK, decide_eq_true hn, Bool.true_and, List.all_eq_true]
          intro x hx
          obtain ⟨i, hi, rfl⟩ := List.mem_iff_getElem.1 hx
          have := HF.out i (by omega)
          rwa [List.getD_eq_getElem?_getD, List.getElem?_eq_getElem hi] at this
        · rw [← ek]; exact HI.out
  · have hn20 : 20 < (ls.length : Int) := by omega
    go_enter Tryd.func22, Tryd.ntmps22
    go_wp2_with (go_at_call 13; refine (new14_any _).mono ?_; rintro e w1 ⟨p, rfl, hS, hb1⟩)
    go_ret3
    exact .inr ⟨by rw [bothOK, decide_eq_false hn]; rfl, rfl, hb1.alloc hb1.size _⟩
theorem both_ok {w : World} (ls : List (Sl Wr)) (A : Option Addr) (ca : Nat) (hA : SlsAt w A ls) (hW : ∀ i, i < ls.length → WrSlOK w (ls.getD i noSl)) (hT : Tabs w) (hb : bothOK ls = true) :
    Calls Tryd.prog 22 #[.slice A ls.length ca] w (BothPost w ls) :=
  (both_any ls A ca hA hW hT).mono fun _ _ h => h.elim (fun h => h.2) (fun h => by rw [hb] at h; cases h.1)
theorem both_no {w : World} (ls : List (Sl Wr)) (A : Option Addr) (ca : Nat) (hA : SlsAt w A ls) (hW : ∀ i, i < ls.length → WrSlOK w (ls.getD i noSl)) (hT : Tabs w) (hb : bothOK ls = false) :
    Calls Tryd.prog 22 #[.slice A ls.length ca] w (NotBoth w) :=
  (both_any ls A ca hA hW hT).mono fun _ _ h => h.elim (fun h => by rw [hb] at h; cases h.1) (fun h => h.2)
end Go.Proofs.YtboiafchmdflpaaDoor
