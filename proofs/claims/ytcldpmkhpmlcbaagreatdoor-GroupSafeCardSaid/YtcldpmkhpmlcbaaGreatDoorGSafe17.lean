/- GroupSafe: what holds while it runs. -/
import Derived.Test.YtcldpmkhpmlcbaaGreatDoorGrSee17
import Derived.Test.YtcldpmkhpmlcbaaGreatDoorJ23
set_option linter.unusedVariables false
set_option linter.unusedSimpArgs false
namespace Go.Proofs.YtcldpmkhpmlcbaaGreatDoor
open Go.RowKit Go.Shelf Go.Maps

/-- What At says of a key at a stamp: its value, and its error. -/
def seeM (c : Cfg) (g : Int) (x : MachD) (key : ByteArray) (s : Nat) : Val × Int := ((atR c g x key s).1.val, (atR c g x key s).2)
theorem see_stays {c : Cfg} {g : Int} {x x' : MachD} (hq : QOK x.q) (hq' : QOK x'.q) {s : Nat} (h : Stays x x' s) (hs : SafeAt x.q s) (key : ByteArray) : (seeM c g x' key s).2 = 9 ∨ seeM c g x' key s = seeM c g x key s := by
  have h1 := (safe_iff hq).2 hs
  have h2 := (safe_iff hq').2 (h.safe hs)
  have h3 := h.view hs key
  unfold viewS at h3
  unfold seeM atR
  by_cases hh : homeZ c key = g
  · have q1 : ¬ safeQ x.q < s := by omega
    have q2 : ¬ safeQ x'.q < s := by omega
    simp only [hh, ne_eq, not_true_eq_false, if_false, if_neg q1, if_neg q2]
    by_cases ho' : s < x'.a.headD 0
    · left
      rw [if_pos ho']
    · right
      rw [if_neg ho'] at h3 ⊢
      by_cases ho : s < x.a.headD 0
      · rw [if_pos ho] at h3
        rcases h3 with h3 | h3 <;> cases h3
      · rw [if_neg ho] at h3 ⊢
        rcases h3 with h3 | h3
        · cases h3
        · injection h3 with h3
          simp only [h3]
  · right
    simp only [ne_eq, hh, not_false_eq_true, if_true]
/-- The law's four keys. -/
def keyN (k : Nat) : ByteArray := match k with
  | 0 => ⟨#[97]⟩
  | 1 => ⟨#[99]⟩
  | 2 => ⟨#[101]⟩
  | _ => ⟨#[122, 122]⟩
def keyCells : Array Value := #[.string ⟨#[97]⟩, .string ⟨#[99]⟩, .string ⟨#[101]⟩, .string ⟨#[122, 122]⟩]
def valL (v : Val) : List Value := [.int .i64 v.kind, .int .u64 (v.bits : Int), .string v.text]
def zeroL : List Value := [.int .i64 0, .int .u64 0, .string ⟨#[]⟩]
/-- The values that were seen, up to k; the errors. -/
def wasA (f : Nat → Val × Int) (k : Nat) : Array Value := ((if 0 < k then valL (f 0).1 else zeroL) ++ ((if 1 < k then valL (f 1).1 else zeroL) ++ ((if 2 < k then valL (f 2).1 else zeroL) ++ (if 3 < k then valL (f 3).1 else zeroL)))).toArray
def noA (f : Nat → Val × Int) (k : Nat) : Array Value := #[.int .i64 (if 0 < k then (f 0).2 else 0), .int .i64 (if 1 < k then (f 1).2 else 0), .int .i64 (if 2 < k then (f 2).2 else 0), .int .i64 (if 3 < k then (f 3).2 else 0)]
/-- A machine at work, and what the call's own blocks hold. -/
structure SafeIn (w0 wr : World) (B p : Nat) (c : Cfg) (g : Int) (n : Nat) (lab : Nat → Lab) (x : MachD) (L : Nat → Prop) : Prop where
  m : ∃ E ov os, GrAt wr B p c g n lab x E ov os
  so : SOK x
  l : ∀ k, L k → lab k = .no ∧ k < wr.heap.size
  b : Below w0.heap.size w0 wr
  hB : w0.heap.size ≤ B
section
variable {w0 wr wz : World} {B p n : Nat} {c : Cfg} {g : Int} {lab : Nat → Lab} {x : MachD} {L : Nat → Prop}
theorem SafeIn.later (h : SafeIn w0 wr B p c g n lab x L) (hb : Below wr.heap.size wr wz) : SafeIn w0 wz B p c g n lab x L := by
  obtain ⟨E, ov, os, hm⟩ := h.m
  exact ⟨⟨E, ov, os, hm.later hb⟩, h.so, fun k hk => ⟨(h.l k hk).1, Nat.lt_of_lt_of_le (h.l k hk).2 hb.size⟩, keepB h.b hb, h.hB⟩
/-- New blocks may be the call's own. -/
theorem SafeIn.own (h : SafeIn w0 wr B p c g n lab x L) (hb : Below wr.heap.size wr wz) : SafeIn w0 wz B p c g n lab x (fun k => L k ∨ (wr.heap.size ≤ k ∧ k < wz.heap.size)) := by
  have h1 := h.later hb
  obtain ⟨E, ov, os, hm⟩ := h.m
  refine { h1 with l := fun k hk => ?_ }
  rcases hk with hk | hk
  · exact h1.l k hk
  · refine ⟨?_, hk.2⟩
    cases e : lab k
    case no => rfl
    all_goals exact absurd (hm.lt k (by rw [e]; intro z; cases z)) (by omega)
theorem SafeIn.mono {L' : Nat → Prop} (h : SafeIn w0 wr B p c g n lab x L) (hl : ∀ k, L' k → L k) : SafeIn w0 wr B p c g n lab x L' := { h with l := fun k hk => h.l k (hl k hk) }
/-- The call's own blocks change. -/
theorem SafeIn.out (h : SafeIn w0 wr B p c g n lab x L) {O : Nat → Prop} (ho : Out O wr wz) (hO : ∀ k, O k → L k) (hOB : ∀ k, O k → B ≤ k) : SafeIn w0 wz B p c g n lab x L := by
  obtain ⟨E, ov, os, hm⟩ := h.m
  exact ⟨⟨E, ov, os, hm.out ho (fun k hk hk2 => hk (h.l k (hO k hk2)).1) hOB⟩, h.so, fun k hk => ⟨(h.l k hk).1, Nat.lt_of_lt_of_le (h.l k hk).2 ho.size⟩, h.b.trans (ho.below h.b.size (fun k hk => Nat.le_trans h.hB (hOB k hk))), h.hB⟩
theorem SafeIn.apply (h : SafeIn w0 wr B p c g n lab x L) {a : CmdV} {v : Value} (ha : ApPost wr wz B p c g n lab x a v) (s : Nat) :
    ∃ lab' : Nat → Lab, SafeIn w0 wz B p c g (n + 2) lab' (applyM c g x a) L ∧ Stays x (applyM c g x a) s ∧ Out (fun k => ¬ L k) wr wz := by
  obtain ⟨E, ov, os, hm⟩ := h.m
  obtain ⟨lab', E', ov', os', hO, hG, hS⟩ := ha
  obtain ⟨h1, h2⟩ := apply_stays hm.k h.so a s
  refine ⟨lab', ⟨⟨E', ov', os', hG⟩, h2, fun k hk => ⟨?_, Nat.lt_of_lt_of_le (h.l k hk).2 hS.out.size⟩, h.b.trans (hS.out.below h.b.size (fun k hk => Nat.le_trans h.hB (hm.lb k hk))), h.hB⟩, h1, hS.out.mono fun k hk hl => hk (h.l k hl).1⟩
  rw [hS.ext k (h.l k hk).2]; exact (h.l k hk).1
theorem SafeIn.qok (h : SafeIn w0 wr B p c g n lab x L) : QOK x.q := by
  obtain ⟨E, ov, os, hm⟩ := h.m
  exact hm.k.q
theorem SafeIn.safe (h : SafeIn w0 wr B p c g n lab x L) (hb : Below wr.heap.size wr wz) :
    Calls Tryz.prog 19 #[.pointer (some ⟨p, 0, none⟩)] wz fun e w' => e = .returned (.int .u64 (safeQ x.q : Int)) ∧ Below wz.heap.size wz w' := by
  obtain ⟨E, ov, os, hm⟩ := h.m
  exact safe17 (hm.m.later hb) hm.k.q
/-- At's answer: a value, a number and an error. -/
def SeePost (w : World) (y : Val × Int) (e : Ending) (w' : World) : Prop :=
  ∃ num : Nat, e = .returned (.tuple #[.agg #[.int .i64 y.1.kind, .int .u64 (y.1.bits : Int), .string y.1.text], .int .u64 (num : Int), .int .i64 y.2]) ∧ Below w.heap.size w w'
theorem SafeIn.see (h : SafeIn w0 wr B p c g n lab x L) (hn : n ≤ 1000) (hb : Below wr.heap.size wr wz) {key : ByteArray} (hk : key.size ≤ maxLen) (s : Nat) :
    Calls Tryz.prog 20 #[.pointer (some ⟨p, 0, none⟩), .string key, .int .u64 (s : Int)] wz (SeePost wz (seeM c g x key s)) := by
  obtain ⟨E, ov, os, hm⟩ := h.m
  have h1 := hm.k.its
  have h2 := hm.k.cnt
  refine (at17 (hm.m.later hb) hm.k.q hm.k.a hm.k.s.low (by omega) h.so.so (key := key) hk (Nat.le_trans (getK_len _ _) (by omega)) s).mono ?_
  rintro e w' ⟨rfl, hb'⟩
  exact ⟨_, rfl, hb'⟩
end
/-- The call's own blocks: the keys, what was seen, the errors. -/
structure SafeBlk (w : World) (kb wb nb : Nat) (wa na : Array Value) : Prop where
  hk : w.heap[kb]? = some (.cells keyCells 64 (0, 0))
  hw : w.heap[wb]? = some (.cells wa 67 (0, 0))
  hn : w.heap[nb]? = some (.cells na 69 (0, 0))
theorem SafeBlk.out {w w' : World} {kb wb nb : Nat} {wa na : Array Value} (h : SafeBlk w kb wb nb wa na) (ho : Out (fun k => ¬ (k = kb ∨ k = wb ∨ k = nb)) w w') : SafeBlk w' kb wb nb wa na :=
  ⟨ho.obj h.hk (fun e => e (.inl rfl)), ho.obj h.hw (fun e => e (.inr (.inl rfl))), ho.obj h.hn (fun e => e (.inr (.inr rfl)))⟩
theorem SafeBlk.later {w w' : World} {kb wb nb : Nat} {wa na : Array Value} (h : SafeBlk w kb wb nb wa na) (hb : Below w.heap.size w w') : SafeBlk w' kb wb nb wa na := h.out (Out.of_below hb)
theorem SafeBlk.made (w : World) : SafeBlk (((w.alloc (.cells keyCells 64)).alloc (.cells (zeroL ++ (zeroL ++ (zeroL ++ zeroL))).toArray 67)).alloc (.cells #[.int .i64 0, .int .i64 0, .int .i64 0, .int .i64 0] 69)) w.heap.size (w.heap.size + 1) (w.heap.size + 1 + 1) (zeroL ++ (zeroL ++ (zeroL ++ zeroL))).toArray #[.int .i64 0, .int .i64 0, .int .i64 0, .int .i64 0] := by
  refine ⟨?_, ?_, ?_⟩
  · exact obj_later (heap_alloc_new w _) (below2 (w.alloc _) _ _)
  · have := heap_alloc_new (w.alloc (.cells keyCells 64)) (.cells (zeroL ++ (zeroL ++ (zeroL ++ zeroL))).toArray 67)
    rw [show (w.alloc (.cells keyCells 64)).heap.size = w.heap.size + 1 by simp] at this
    exact obj_later this (below1 _ _)
  · have := heap_alloc_new ((w.alloc (.cells keyCells 64)).alloc (.cells (zeroL ++ (zeroL ++ (zeroL ++ zeroL))).toArray 67)) (.cells #[.int .i64 0, .int .i64 0, .int .i64 0, .int .i64 0] 69)
    rw [show ((w.alloc (.cells keyCells 64)).alloc (.cells (zeroL ++ (zeroL ++ (zeroL ++ zeroL))).toArray 67)).heap.size = w.heap.size + 1 + 1 by simp] at this
    exact this
theorem SafeBlk.zero {w : World} {kb wb nb k a b c : Nat} {f : Nat → Val × Int} (h : SafeBlk w kb wb nb (wasA f k) (noA f k)) (hk : k < 4) (ha : a = k * 3) (hb : b = k * 3 + 1) (hc : c = k * 3 + 2) :
    w.cell? ⟨wb, a, none⟩ = some (.int .i64 0) ∧ w.cell? ⟨wb, b, none⟩ = some (.int .u64 0) ∧ w.cell? ⟨wb, c, none⟩ = some (.string ⟨#[]⟩) ∧ w.frozen? ⟨wb, a, none⟩ = false ∧ w.frozen? ⟨wb, b, none⟩ = false ∧ w.frozen? ⟨wb, c, none⟩ = false ∧ w.cell? ⟨nb, k, none⟩ = some (.int .i64 0) ∧ w.frozen? ⟨nb, k, none⟩ = false := by
  subst ha hb hc
  have hk' : k = 0 ∨ k = 1 ∨ k = 2 ∨ k = 3 := by omega
  refine ⟨?_, ?_, ?_, frozen_of_row w wb _ _ _ h.hw, frozen_of_row w wb _ _ _ h.hw, frozen_of_row w wb _ _ _ h.hw, ?_, frozen_of_row w nb _ _ _ h.hn⟩
  · rw [cell_of_row w wb _ _ _ _ h.hw]
    rcases hk' with rfl | rfl | rfl | rfl <;> rfl
  · rw [cell_of_row w wb _ _ _ _ h.hw]
    rcases hk' with rfl | rfl | rfl | rfl <;> rfl
  · rw [cell_of_row w wb _ _ _ _ h.hw]
    rcases hk' with rfl | rfl | rfl | rfl <;> rfl
  · rw [cell_of_row w nb _ _ _ _ h.hn]
    rcases hk' with rfl | rfl | rfl | rfl <;> rfl
theorem was_next {f : Nat → Val × Int} {k : Nat} (hk : k < 4) : (((wasA f k).setIfInBounds (k * 3) (.int .i64 (f k).1.kind)).setIfInBounds (k * 3 + 1) (.int .u64 ((f k).1.bits : Int))).setIfInBounds (k * 3 + 2) (.string (f k).1.text) = wasA f (k + 1) ∧ (noA f k).setIfInBounds k (.int .i64 (f k).2) = noA f (k + 1) := by
  have hk' : k = 0 ∨ k = 1 ∨ k = 2 ∨ k = 3 := by omega
  rcases hk' with rfl | rfl | rfl | rfl <;> exact ⟨rfl, rfl⟩
/-- One key more was seen: its value and its error are stored. -/
def see3 (w : World) (wb nb k : Nat) (y : Val × Int) : World := (((w.setCell ⟨wb, k * 3, none⟩ (.int .i64 y.1.kind)).setCell ⟨wb, k * 3 + 1, none⟩ (.int .u64 (y.1.bits : Int))).setCell ⟨wb, k * 3 + 2, none⟩ (.string y.1.text)).setCell ⟨nb, k, none⟩ (.int .i64 y.2)
theorem see3_out (w : World) (wb nb k : Nat) (y : Val × Int) : Out (fun q => q = wb ∨ q = nb) w (see3 w wb nb k y) := by
  have h0 := (out_setc w wb (k * 3) (.int .i64 y.1.kind)).mono (O' := fun q => q = wb ∨ q = nb) (fun q e => .inl e)
  have h1 := (out_setc (w.setCell ⟨wb, k * 3, none⟩ (.int .i64 y.1.kind)) wb (k * 3 + 1) (.int .u64 (y.1.bits : Int))).mono (O' := fun q => q = wb ∨ q = nb) (fun q e => .inl e)
  have h2 := (out_setc ((w.setCell ⟨wb, k * 3, none⟩ (.int .i64 y.1.kind)).setCell ⟨wb, k * 3 + 1, none⟩ (.int .u64 (y.1.bits : Int))) wb (k * 3 + 2) (.string y.1.text)).mono (O' := fun q => q = wb ∨ q = nb) (fun q e => .inl e)
  have h3 := (out_setc (((w.setCell ⟨wb, k * 3, none⟩ (.int .i64 y.1.kind)).setCell ⟨wb, k * 3 + 1, none⟩ (.int .u64 (y.1.bits : Int))).setCell ⟨wb, k * 3 + 2, none⟩ (.string y.1.text)) nb k (.int .i64 y.2)).mono (O' := fun q => q = wb ∨ q = nb) (fun q e => .inr e)
  exact ((h0.trans' h1).trans' h2).trans' h3
theorem SafeBlk.see {w : World} {kb wb nb : Nat} {wa na : Array Value} (h : SafeBlk w kb wb nb wa na) (h1 : kb ≠ wb) (h2 : kb ≠ nb) (h3 : wb ≠ nb) (k : Nat) (y : Val × Int) :
    SafeBlk (see3 w wb nb k y) kb wb nb (((wa.setIfInBounds (k * 3) (.int .i64 y.1.kind)).setIfInBounds (k * 3 + 1) (.int .u64 (y.1.bits : Int))).setIfInBounds (k * 3 + 2) (.string y.1.text)) (na.setIfInBounds k (.int .i64 y.2)) := by
  have a0 := blk_setc (j := k * 3) (.int .i64 y.1.kind) h.hw
  have a1 := blk_setc (j := k * 3 + 1) (.int .u64 (y.1.bits : Int)) a0
  have a2 := blk_setc (j := k * 3 + 2) (.string y.1.text) a1
  have b0 := (out_setc w wb (k * 3) (.int .i64 y.1.kind)).obj h.hn (fun e => h3 e.symm)
  have b1 := (out_setc (w.setCell ⟨wb, k * 3, none⟩ (.int .i64 y.1.kind)) wb (k * 3 + 1) (.int .u64 (y.1.bits : Int))).obj b0 (fun e => h3 e.symm)
  have b2 := (out_setc ((w.setCell ⟨wb, k * 3, none⟩ (.int .i64 y.1.kind)).setCell ⟨wb, k * 3 + 1, none⟩ (.int .u64 (y.1.bits : Int))) wb (k * 3 + 2) (.string y.1.text)).obj b1 (fun e => h3 e.symm)
  refine ⟨(see3_out w wb nb k y).obj h.hk (fun e => e.elim h1 h2), ?_, blk_setc (j := k) (.int .i64 y.2) b2⟩
  exact (out_setc (((w.setCell ⟨wb, k * 3, none⟩ (.int .i64 y.1.kind)).setCell ⟨wb, k * 3 + 1, none⟩ (.int .u64 (y.1.bits : Int))).setCell ⟨wb, k * 3 + 2, none⟩ (.string y.1.text)) nb k (.int .i64 y.2)).obj a2 h3
/-- At work, one key more seen. -/
theorem SafeIn.seen {w0 wr w5 : World} {B p n : Nat} {c : Cfg} {g : Int} {lab : Nat → Lab} {x : MachD} {kb wb nb k : Nat} {f : Nat → Val × Int} (h : SafeIn w0 wr B p c g n lab x (fun q => q = kb ∨ q = wb ∨ q = nb) ∧ SafeBlk wr kb wb nb (wasA f k) (noA f k)) (hk : k < 4) (hb : Below wr.heap.size wr w5) (o : Obj) (h1 : kb ≠ wb) (h2 : kb ≠ nb) (h3 : wb ≠ nb) (hB : B ≤ wb ∧ B ≤ nb) :
    SafeIn w0 (see3 (w5.alloc o) wb nb k (f k)) B p c g n lab x (fun q => q = kb ∨ q = wb ∨ q = nb) ∧ SafeBlk (see3 (w5.alloc o) wb nb k (f k)) kb wb nb (wasA f (k + 1)) (noA f (k + 1)) := by
  have hb2 := keepB hb (below1 w5 o)
  have h4 := (h.2.later hb2).see h1 h2 h3 k (f k)
  rw [(was_next hk).1, (was_next hk).2] at h4
  exact ⟨(h.1.later hb2).out (see3_out _ _ _ _ _) (fun q hq => .inr hq) (fun q hq => hq.elim (fun e => e ▸ hB.1) (fun e => e ▸ hB.2)), h4⟩
end Go.Proofs.YtcldpmkhpmlcbaaGreatDoor
