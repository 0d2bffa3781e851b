/- Scripts in plain Lean: what both stores are behind the first acts. -/
import Derived.Test.YtboiafchmdflpaaDoorAct14
namespace Go.Proofs.YtboiafchmdflpaaDoor
open Go.RowKit Go.Maps Go.Sort Go.Shelf

def scrTo (l : List OpD) : Nat → StD
  | 0 => st0
  | k + 1 => actS (scrTo l k) (l.getD k noOp)
theorem scrTo_succ (l : List OpD) (k : Nat) : scrTo l (k + 1) = actS (scrTo l k) (l.getD k noOp) := rfl
theorem actS_ok {s : StD} (h : StOK s) (o : OpD) : StOK (actS s o) := by
  rw [actS]
  split
  · exact apply_ok h _ _
  · split
    · exact col_ok h _
    · split
      · exact apply_ok h _ _
      · exact h
theorem scrTo_ok (l : List OpD) : ∀ k, StOK (scrTo l k)
  | 0 => st0_ok
  | k + 1 => actS_ok (scrTo_ok l k) _
theorem actS_len {s : StD} (h : StOK s) {o : OpD} (ho : opFew o = true) : (items (actS s o).ks).length ≤ (items s.ks).length + 12 := by
  have h12 : o.l.length ≤ 12 := by
    simp only [opFew, Bool.and_eq_true] at ho
    exact fewW_len ho.1.1
  rw [actS]
  split
  · have := items_apply_len h (atA s o) o.l; omega
  · split
    · rw [colS]
      split
      · have := colP_items h o.num
        show (items (colK s.ks o.num)).length ≤ _
        omega
      · omega
    · split
      · have := items_apply_len h o.num o.l; omega
      · omega
theorem fewS_at {l : List OpD} (h : fewS l = true) : l.length ≤ 60 ∧ ∀ k, k < l.length → opFew (l.getD k noOp) = true := by
  simp only [fewS, Bool.and_eq_true, decide_eq_true_eq] at h
  refine ⟨h.2, fun k hk => ?_⟩
  have h1 := h.1
  rw [List.take_of_length_le (by omega)] at h1
  rw [List.getD_eq_getElem?_getD, List.getElem?_eq_getElem hk]
  exact List.all_eq_true.1 h1 _ (List.getElem_mem hk)
theorem scrTo_len {l : List OpD} (h : fewS l = true) : ∀ k, k ≤ l.length → (items (scrTo l k).ks).length ≤ 12 * k
  | 0, _ => Nat.le_refl _
  | k + 1, hk => by
    have h1 := scrTo_len h k (by omega)
    have h2 := actS_len (scrTo_ok l k) ((fewS_at h).2 k (by omega))
    rw [scrTo_succ]
    omega
theorem OpsAt.low {w : World} {S : Option Addr} {l : List OpD} {LA : Nat → Option Addr} {LC : Nat → Nat} (h : OpsAt w S l LA LC) {k : Nat} (hk : k < l.length) {B : Nat} (hB : w.heap.size ≤ B) : ∀ a, LA k = some a → 0 < (l.getD k noOp).l.length → a.block < B := by
  intro a e hl
  obtain ⟨b, off, _, _, _, _, _, _, _, h6⟩ := h k hk
  obtain ⟨b2, off2, e2, h0, _⟩ := h6 0 hl
  rw [e] at e2
  cases e2
  have h9 : b2 < w.heap.size := blk_lt h0
  show b2 < B
  omega
/-- act, at a script's act. -/
theorem act_step {w wi : World} {B p q : Nat} {l : List OpD} {S : Option Addr} {LA : Nat → Option Addr} {LC : Nat → Nat} {k : Nat} (hS : OpsAt w S l LA LC) (hw : Below w.heap.size w wi) (hB : w.heap.size ≤ B) (hBw : B ≤ wi.heap.size) (hok : ∀ i, i < l.length → OpOK (l.getD i noOp)) (hf : fewS l = true) (hT : Tabs w) (hk : k < l.length) (h : PairAt wi B p q (12 * k) (scrTo l k)) :
    Calls Tryd.prog 14 #[.pointer (some ⟨p, 0, none⟩), .pointer (some ⟨q, 0, none⟩), opV (l.getD k noOp) (LA k) (LC k)] wi fun e w' => e = .returned (.bool true) ∧ PairAt w' B p q (12 * (k + 1)) (scrTo l (k + 1)) ∧ Below B wi w' := by
  have h6 := fewS_at hf
  have hlen := scrTo_len hf k (by omega)
  obtain ⟨b, off, _, _, _, _, _, _, _, d6⟩ := hS k hk
  have := act14_any h hBw (scrTo_ok l k) (l.getD k noOp) (LA k) (LC k) (d6.later hw) (hS.low hk hB) (hok k hk) (h6.2 k hk) (hT.later hw) (by omega) (by omega)
  exact this
/-- What a law asks of the store behind the script. -/
structure Behind (wi : World) (B p : Nat) (s : StD) (M : Nat) (O : Nat → Prop) : Prop where
  st : StoreAt wi B p M O s
  ok : StOK s
  few : (items s.ks).length ≤ 720
  n : M ≤ 720
theorem behind {wi : World} {B p q : Nat} {l : List OpD} (hf : fewS l = true) (h : PairAt wi B p q (12 * l.length) (scrTo l l.length)) : ∃ M O, Behind wi B p (scrTo l l.length) M O := by
  have h6 := fewS_at hf
  have hlen := scrTo_len hf l.length (Nat.le_refl _)
  obtain ⟨O, M, hM, hs⟩ := h.store
  exact ⟨M, O, hs, scrTo_ok _ _, by omega, by omega⟩
theorem Behind.get {wi : World} {B p : Nat} {s : StD} {M : Nat} {O : Nat → Prop} (h : Behind wi B p s M O) {wz : World} (hz : Below wi.heap.size wi wz) {x : ByteArray} (hx : x.size ≤ 1000) {n : Nat} {v : Ver} (hn : s.low ≤ n) (hv : seenV (getK s.ks x) n = v) :
    Calls Tryd.prog 18 #[.pointer (some ⟨p, 0, none⟩), .string x, .int .u64 (n : Int)] wz (GetPost wz v 0) := by
  have := get14_any (h.st.later hz) x (by unfold maxLen; omega) n (Nat.le_trans (getK_len _ _) (by have := h.few; omega))
  rw [getV, oldE, if_neg (by omega), if_neg (by omega), hv] at this
  exact this
theorem Behind.scan {wi : World} {B p : Nat} {s : StD} {M : Nat} {O : Nat → Prop} (h : Behind wi B p s M O) {wz : World} (hz : Below wi.heap.size wi wz) {a b : ByteArray} {n : Nat} {L : List It} (hn : s.low ≤ n) (hL : scanAll s.ks a b n = L) :
    Calls Tryd.prog 19 #[.pointer (some ⟨p, 0, none⟩), .string a, .string b, .int .u64 (n : Int), .int .i64 1000] wz (ScanPost wz L 0) := by
  have := scan14_any (h.st.later hz) h.ok a b n 1000 (by have := h.few; omega)
  have hl : (scanAll s.ks a b n).length ≤ 1000 := by
    have h1 := scanAll_len s.ks a b n
    have h2 := items_ge h.ok.ne
    have h3 := h.few
    omega
  rw [scanS, oldE, if_neg (by omega), if_neg (by omega), List.take_of_length_le (by simpa using hl), hL] at this
  exact this
end Go.Proofs.YtboiafchmdflpaaDoor
