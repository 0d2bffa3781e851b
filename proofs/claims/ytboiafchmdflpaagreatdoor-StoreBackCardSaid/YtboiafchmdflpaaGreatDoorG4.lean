/- No store: what each method answers; layer 14's awake. -/
import Derived.Test.YtboiafchmdflpaaGreatDoorG2
import Derived.Test.YtboiafchmdflpaaGreatDoorG3
namespace Go.Proofs.YtboiafchmdflpaaGreatDoor
open Go.RowKit Go.Shelf

theorem getNil (s : ByteArray) (n : Nat) (w : World) : Calls Tryz.prog 21 #[.pointer none, .string s, .int .u64 (n : Int)] w fun e w' => e = .returned (.tuple #[.agg #[.int .i64 0, .int .u64 0, .string ByteArray.empty], .int .u64 0, .int .i64 1]) ∧ Below w.heap.size w w' := by
  go_enter Tryz.func21, Tryz.ntmps21
  go_wp2
  exact bodyPost_ret (v := .tuple #[.agg #[.int .i64 0, .int .u64 0, .string ByteArray.empty], .int .u64 0, .int .i64 1]) (by simp [results, Tryz.results21, go_sem]; rfl) rfl ⟨rfl, below1 _ _⟩
theorem scanNil (s t : ByteArray) (n : Nat) (m : Int) (w : World) : Calls Tryz.prog 23 #[.pointer none, .string s, .string t, .int .u64 (n : Int), .int .i64 m] w fun e w' => e = .returned (.tuple #[.slice none 0 0, .int .i64 1]) ∧ Below w.heap.size w w' := by
  go_enter Tryz.func23, Tryz.ntmps23
  go_wp2
  go_ret2
  exact ⟨rfl, Below.refl _ _⟩
theorem collectNil (n : Nat) (w : World) : Calls Tryz.prog 19 #[.pointer none, .int .u64 (n : Int)] w fun e w' => e = .returned (.tuple #[.int .i64 0, .int .i64 1]) ∧ Below w.heap.size w w' := by
  go_enter Tryz.func19, Tryz.ntmps19
  go_wp2
  go_quiet (fail)
  go_wp2
  go_ret2
  exact ⟨rfl, below_drewN (below1 _ _) _⟩
theorem applyNil (n : Nat) (A : Option Addr) (m c : Nat) (w : World) : Calls Tryz.prog 16 #[.pointer none, .int .u64 (n : Int), .slice A m c] w fun e w' => e = .returned (.int .i64 1) ∧ Below w.heap.size w w' := by
  go_enter Tryz.func16, Tryz.ntmps16
  go_wp2
  go_ret
  exact ⟨rfl, Below.refl _ _⟩
theorem lastNil (w : World) : Calls Tryz.prog 9 #[.pointer none] w fun e w' => e = .returned (.int .u64 0) ∧ Below w.heap.size w w' := by
  go_enter Tryz.func9, Tryz.ntmps9
  go_wp2
  go_ret
  exact ⟨rfl, Below.refl _ _⟩
theorem lowNil (w : World) : Calls Tryz.prog 10 #[.pointer none] w fun e w' => e = .returned (.int .u64 0) ∧ Below w.heap.size w w' := by
  go_enter Tryz.func10, Tryz.ntmps10
  go_wp2
  go_ret
  exact ⟨rfl, Below.refl _ _⟩
theorem countNil (w : World) : Calls Tryz.prog 11 #[.pointer none] w fun e w' => e = .returned (.int .i64 0) ∧ Below w.heap.size w w' := by
  go_enter Tryz.func11, Tryz.ntmps11
  go_wp2
  go_ret
  exact ⟨rfl, Below.refl _ _⟩
theorem exportNil (w : World) : Calls Tryz.prog 13 #[.pointer none] w fun e w' => e = .returned (.slice none 0 0) ∧ Below w.heap.size w w' := by
  go_enter Tryz.func13, Tryz.ntmps13
  go_wp2
  go_ret
  exact ⟨rfl, Below.refl _ _⟩
theorem storeNew_any (w : World) : Calls Tryz.prog 7 #[] w fun e w' => e = .returned (.pointer (some ⟨w.heap.size + 1, 0, none⟩)) ∧ (w.alloc (.map #[] 0)).alloc (.cells #[.map (some w.heap.size), .int .u64 0, .int .u64 0] 49) = w' := by
  have hmm := @run_makeMap Tryz.prog
  go_enter Tryz.func7, Tryz.ntmps7
  go_wp2
  go_ret
  exact ⟨rfl, rfl⟩
set_option maxHeartbeats 1000000 in
theorem apply5 (p : Nat) (w : World) (c1 : w.cell? ⟨p, 1, none⟩ = some (.int .u64 0)) (f1 : w.frozen? ⟨p, 1, none⟩ = false) :
    Calls Tryz.prog 16 #[.pointer (some ⟨p, 0, none⟩), .int .u64 5, .slice none 0 0] w fun e w' => e = .returned (.int .i64 0) ∧ w.setCell ⟨p, 1, none⟩ (.int .u64 5) = w' := by
  go_enter Tryz.func16, Tryz.ntmps16
  go_wp2
  refine wp_loop_rounds 1 ?_
  rw [rounds_succ]
  go_wp2
  refine wp_loop_rounds 1 ?_
  rw [rounds_succ]
  go_wp2
  go_ret
  exact ⟨rfl, rfl⟩
theorem last_at (p : Nat) (n : Nat) (w : World) (c1 : w.cell? ⟨p, 1, none⟩ = some (.int .u64 (n : Int))) : Calls Tryz.prog 9 #[.pointer (some ⟨p, 0, none⟩)] w fun e w' => e = .returned (.int .u64 (n : Int)) ∧ w = w' := by
  go_enter Tryz.func9, Tryz.ntmps9
  go_wp2
  go_ret
  exact ⟨rfl, rfl⟩
set_option maxHeartbeats 1000000 in
theorem awake14_any (w : World) : Calls Tryz.prog 5 #[] w fun e w' => e = .returned (.bool true) ∧ Below w.heap.size w w' := by
  go_enter Tryz.func5, Tryz.ntmps5
  go_wp2_with (first
    | (go_at_call 7; refine (storeNew_any _).mono ?_; rintro e w1 ⟨rfl, rfl⟩)
    | (go_at_call 16; refine (apply5 _ _ (by simp [go_sem]) (by simp [go_sem])).mono ?_; rintro e w1 ⟨rfl, rfl⟩)
    | (go_at_call 9; refine (last_at _ 5 _ (by simp [go_sem])).mono ?_; rintro e w1 ⟨rfl, rfl⟩))
  go_ret
  exact ⟨rfl, below2 _ _ _⟩

theorem box6 (w : World) (a b c d e f : Value) (t : TypeId) : ∃ W : World, w.alloc (.cells #[a, b, c, d, e, f] t) = W ∧ Below w.heap.size w W ∧ W.cell? ⟨w.heap.size, 0, none⟩ = some a ∧ W.cell? ⟨w.heap.size, 1, none⟩ = some b ∧ W.cell? ⟨w.heap.size, 2, none⟩ = some c ∧ W.cell? ⟨w.heap.size, 3, none⟩ = some d ∧ W.cell? ⟨w.heap.size, 4, none⟩ = some e ∧ W.cell? ⟨w.heap.size, 5, none⟩ = some f :=
  ⟨_, rfl, below1 _ _, by simp, by simp, by simp, by simp, by simp, by simp⟩
/-- A script of one. -/
theorem ops1 {w : World} {g c : Nat} {A : Option Addr} {o : OpD} (h0 : w.cell? ⟨g, 0, none⟩ = some (.int .i64 o.kind)) (h1 : w.cell? ⟨g, 1, none⟩ = some (.slice A o.l.length c)) (h2 : w.cell? ⟨g, 2, none⟩ = some (.string o.key)) (h3 : w.cell? ⟨g, 3, none⟩ = some (.string o.upto))
    (h4 : w.cell? ⟨g, 4, none⟩ = some (.int .u64 (o.num : Int))) (h5 : w.cell? ⟨g, 5, none⟩ = some (.int .u8 (o.by8 : Int))) (h6 : WrsAt w A o.l) : OpsAt w (some ⟨g, 0, none⟩) [o] (fun _ => A) (fun _ => c) := by
  intro i hi
  have : i = 0 := by simp at hi; omega
  subst this
  exact ⟨g, 0, rfl, h0, h1, h2, h3, h4, h5, h6⟩
theorem few1 {w : World} {g c ca : Nat} {A : Option Addr} {o : OpD} (hok : OpOK o) (h : OpsAt w (some ⟨g, 0, none⟩) [o] (fun _ => A) (fun _ => c)) :
    Calls Tryz.prog 6 #[.slice (some ⟨g, 0, none⟩) 1 ca] w fun e w' => e = .returned (.bool (fewS [o])) ∧ w = w' :=
  fewS_any [o] _ _ _ ca w h (fun i hi => by have : i = 0 := by simp at hi; omega
                                            subst this; exact hok) (by simp)
theorem cell_lt14 {w : World} {b off : Nat} {v : Value} (h : w.cell? ⟨b, off, none⟩ = some v) : b < w.heap.size := by
  rcases Nat.lt_or_ge b w.heap.size with q | q
  · exact q
  · exfalso
    have : w.heap[b]? = none := Array.getElem?_eq_none q
    simp [World.cell?, this] at h
theorem below_eq1 {w w' : World} {o : Obj} (h : w.alloc o = w') : Below w.heap.size w w' := h ▸ below1 _ _
end Go.Proofs.YtboiafchmdflpaaGreatDoor
/- The store's New, Last, Low, seen and Get. -/
namespace Go.Proofs.YtboiafchmdflpaaGreatDoor
open Go.RowKit Go.Maps

def noB (_ : Nat) : Prop := False
def NewPost14 (w : World) (e : Ending) (w' : World) : Prop := ∃ p, e = .returned (.pointer (some ⟨p, 0, none⟩)) ∧ StoreAt w' w.heap.size p 0 (ext noB w w') st0 ∧ Below w.heap.size w w'
theorem new14_any (w : World) : Calls Tryz.prog 7 #[] w (NewPost14 w) := by
  refine (storeNew_any w).mono ?_
  rintro e w' ⟨rfl, rfl⟩
  have hsz : ((w.alloc (.map #[] 0)).alloc (.cells #[.map (some w.heap.size), .int .u64 0, .int .u64 0] 49)).heap.size = w.heap.size + 2 := by simp
  have hb := heap_alloc_new (w.alloc (.map #[] 0)) (.cells #[.map (some w.heap.size), .int .u64 0, .int .u64 0] 49)
  rw [show (w.alloc (.map #[] 0)).heap.size = w.heap.size + 1 by simp] at hb
  have hm : ((w.alloc (.map #[] 0)).alloc (.cells #[.map (some w.heap.size), .int .u64 0, .int .u64 0] 49)).ownsMap Tryz.prog 9 heldE w.heap.size 0 (.map []) := (World.ownsMap_made w _ _ _).alloc _
  refine ⟨_, rfl, ⟨w.heap.size, .map [], fun _ => .slice none 0 0, ?_⟩, below2 _ _ _⟩
  exact {
    blk := hb
    keys := {
      own := hm
      has := fun k => rfl
      at_ := fun k z h => absurd rfl h
      row := fun k => own_nil _ _ _ _
      nil := fun k _ => rfl
      apart := fun k k' g _ h => by cases h
      mine := fun k g h => by cases h
      hm := .inr ⟨Nat.le_refl _, by omega⟩ }
    hp := .inr ⟨by omega, by omega⟩
    n1 := by omega
    n2 := fun k g h => by cases h
    lt := fun k h => Or.elim h False.elim (fun h => ⟨h.1, h.2⟩) }

section
variable {w : World} {B p N : Nat} {O : Nat → Prop} {s : StD}
theorem last14_any (h : StoreAt w B p N O s) : Calls Tryz.prog 9 #[.pointer (some ⟨p, 0, none⟩)] w fun e w' => e = .returned (.int .u64 (s.last : Int)) ∧ w = w' := by
  obtain ⟨mb, D, V, h⟩ := h
  have c1 := h.c1
  clear h
  go_enter Tryz.func9, Tryz.ntmps9
  go_wp2
  go_ret
  exact ⟨rfl, rfl⟩
theorem low14_any (h : StoreAt w B p N O s) : Calls Tryz.prog 10 #[.pointer (some ⟨p, 0, none⟩)] w fun e w' => e = .returned (.int .u64 (s.low : Int)) ∧ w = w' := by
  obtain ⟨mb, D, V, h⟩ := h
  have c2 := h.c2
  clear h
  go_enter Tryz.func10, Tryz.ntmps10
  go_wp2
  go_ret
  exact ⟨rfl, rfl⟩
end
def VersAt (w : World) (A : Option Addr) (l : List Ver) : Prop :=
  ∀ i, i < l.length → ∃ b off, A = some ⟨b, off, none⟩ ∧ w.cell? ⟨b, off + i * 4, none⟩ = some (.int .u64 ((l.getD i noVer).num : Nat)) ∧ w.cell? ⟨b, off + i * 4 + 1, none⟩ = some (.int .i64 (l.getD i noVer).val.kind) ∧
    w.cell? ⟨b, off + i * 4 + 2, none⟩ = some (.int .u64 ((l.getD i noVer).val.bits : Nat)) ∧ w.cell? ⟨b, off + i * 4 + 3, none⟩ = some (.string (l.getD i noVer).val.text)
theorem VersAt.later {w w' : World} {A : Option Addr} {l : List Ver} (h : VersAt w A l) (hb : Below w.heap.size w w') : VersAt w' A l := by
  intro i hi
  obtain ⟨b, off, e, h0, h1, h2, h3⟩ := h i hi
  exact ⟨b, off, e, keep hb h0, keep hb h1, keep hb h2, keep hb h3⟩
theorem verCs_at : ∀ (l : List Ver) (i : Nat), i < l.length → (verCs l)[i * 4]? = some (.int .u64 ((l.getD i noVer).num : Nat)) ∧ (verCs l)[i * 4 + 1]? = some (.int .i64 (l.getD i noVer).val.kind) ∧ (verCs l)[i * 4 + 2]? = some (.int .u64 ((l.getD i noVer).val.bits : Nat)) ∧ (verCs l)[i * 4 + 3]? = some (.string (l.getD i noVer).val.text)
  | [], i, h => by simp at h
  | x :: l, 0, _ => by simp [verCs, verC]
  | x :: l, i + 1, h => by
    have := verCs_at l i (by simpa using h)
    rw [show (i + 1) * 4 = i * 4 + 4 by omega, show i * 4 + 4 + 1 = (i * 4 + 1) + 4 by omega, show i * 4 + 4 + 2 = (i * 4 + 2) + 4 by omega, show i * 4 + 4 + 3 = (i * 4 + 3) + 4 by omega]
    simpa [verCs, verC] using this
theorem own_vers {w : World} {B : Nat} {v : Value} {l : List Ver} (h : OwnV w B v l) : ∃ (A : Option Addr) (cap : Nat), v = .slice A l.length cap ∧ l.length ≤ cap ∧ VersAt w A l := by
  rcases h.2 with ⟨rfl, h0⟩ | ⟨g, cap, cur, rfl, hfr, hh, hn, _, _, ht⟩
  · exact ⟨none, 0, by rw [h0], by omega, fun i hi => by omega⟩
  · refine ⟨some ⟨g, 0, none⟩, cap, rfl, hn, fun i hi => ⟨g, 0, rfl, ?_⟩⟩
    have hc : ∀ j, j < l.length * 4 → w.cell? ⟨g, 0 + j, none⟩ = (verCs l)[j]? := by
      intro j hj
      have h1 : (cur.toList.take (l.length * 4))[j]? = (verCs l)[j]? := by rw [ht]
      rw [List.getElem?_take_of_lt (by omega)] at h1
      simp only [World.cell?, hh, Nat.zero_add, Option.isSome_none, Bool.false_eq_true, if_false]
      rw [← Array.getElem?_toList, h1]
    have := verCs_at l i hi
    exact ⟨by rw [hc _ (by omega)]; exact this.1, by rw [Nat.add_assoc, hc _ (by omega)]; exact this.2.1, by rw [Nat.add_assoc, hc _ (by omega)]; exact this.2.2.1, by rw [Nat.add_assoc, hc _ (by omega)]; exact this.2.2.2⟩
theorem VersAt.at' {w : World} {A : Option Addr} {l : List Ver} (h : VersAt w A l) {k : Nat} (hk : k < l.length) :
    ∃ b off n z m t, A = some ⟨b, off, none⟩ ∧ w.cell? ⟨b, off + k * 4, none⟩ = some (.int .u64 (n : Nat)) ∧ w.cell? ⟨b, off + k * 4 + 1, none⟩ = some (.int .i64 z) ∧
      w.cell? ⟨b, off + k * 4 + 2, none⟩ = some (.int .u64 (m : Nat)) ∧ w.cell? ⟨b, off + k * 4 + 3, none⟩ = some (.string t) ∧ Hid (l.getD k noVer = ⟨n, ⟨z, m, t⟩⟩) := by
  obtain ⟨b, off, e, h0, h1, h2, h3⟩ := h k hk
  exact ⟨b, off, _, _, _, _, e, h0, h1, h2, h3, rfl⟩
abbrev verV (v : Ver) : Value := .agg #[.int .u64 (v.num : Int), .int .i64 v.val.kind, .int .u64 (v.val.bits : Int), .string v.val.text]
theorem seen_here {l : List Ver} {k n : Nat} {v : Ver} (hk : k < l.length) (h : (l.take k).all (fun v => decide (n < v.num)) = true) (hv : l.getD k noVer = v) (hn : v.num ≤ n) : seenV l n = v := by
  have e : l = l.take k ++ v :: l.drop (k + 1) := by
    have : v = l[k] := by rw [← hv, List.getD_eq_getElem?_getD, List.getElem?_eq_getElem hk]; rfl
    rw [this]; simp
  rw [e, seenV, List.find?_append, find_none fun x hx => by have := List.all_eq_true.1 h x hx; simp at this; simp; omega, List.find?_cons, decide_eq_true hn]
  rfl
theorem seen_none {l : List Ver} {n : Nat} (h : l.all (fun v => decide (n < v.num)) = true) : seenV l n = noVer := by
  rw [seenV, find_none fun x hx => by have := List.all_eq_true.1 h x hx; simp at this; simp; omega]
  rfl
def SeenPost (w : World) (v : Ver) (e : Ending) (w' : World) : Prop := e = .returned (.agg #[.int .u64 (v.num : Int), .int .i64 v.val.kind, .int .u64 (v.val.bits : Int), .string v.val.text]) ∧ Below w.heap.size w w'
/-- A fresh block of four cells. -/
theorem new4 (w : World) (u v x y : Value) (t : TypeId) : ∃ W : World, w.alloc (.cells #[u, v, x, y] t) = W ∧ Below w.heap.size w W ∧ W.heap.size = w.heap.size + 1 ∧ W.heap[w.heap.size]? = some (.cells #[u, v, x, y] t (0, 0)) :=
  ⟨_, rfl, below1 _ _, by simp, heap_alloc_new w _⟩
theorem cells4 {w : World} {g : Nat} {u v x y : Value} {t : TypeId} (h : w.heap[g]? = some (.cells #[u, v, x, y] t (0, 0))) : w.cell? ⟨g, 0, none⟩ = some u ∧ w.cell? ⟨g, 1, none⟩ = some v ∧ w.cell? ⟨g, 2, none⟩ = some x ∧ w.cell? ⟨g, 3, none⟩ = some y ∧
    w.frozen? ⟨g, 0, none⟩ = false ∧ w.frozen? ⟨g, 1, none⟩ = false ∧ w.frozen? ⟨g, 2, none⟩ = false ∧ w.frozen? ⟨g, 3, none⟩ = false := by
  refine ⟨?_, ?_, ?_, ?_, frozen_of_row w g _ _ _ h, frozen_of_row w g _ _ _ h, frozen_of_row w g _ _ _ h, frozen_of_row w g _ _ _ h⟩ <;> (rw [cell_of_row w g _ _ _ _ h]; rfl)
theorem obj_later {w w' : World} {g : Nat} {o : Obj} (h : w.heap[g]? = some o) (hb : Below w.heap.size w w') : w'.heap[g]? = some o := by
  rw [hb.block g (Array.getElem?_eq_some_iff.1 h).1]; exact h
/-- Four cells of a fresh block are written. -/
theorem set4_cells {w : World} {g : Nat} {u v x y : Value} {t : TypeId} (h : w.heap[g]? = some (.cells #[u, v, x, y] t (0, 0))) (u' v' x' y' : Value) :
    ((((w.setCell ⟨g, 0, none⟩ u').setCell ⟨g, 1, none⟩ v').setCell ⟨g, 2, none⟩ x').setCell ⟨g, 3, none⟩ y').heap[g]? = some (.cells #[u', v', x', y'] t (0, 0)) := by
  have := blk_set (j := 3) y' (blk_set (j := 2) x' (blk_set (j := 1) v' (blk_set (j := 0) u' h)))
  simpa using this
set_option maxRecDepth 100000 in
set_option maxHeartbeats 2000000 in
theorem seen14_any {w : World} {B p N : Nat} {O : Nat → Prop} {s : StD} (h : StoreAt w B p N O s) (k : ByteArray) (hk : k.size ≤ maxLen) (n : Nat) (hn : (getK s.ks k).length ≤ 900000) :
    Calls Tryz.prog 51 #[.pointer (some ⟨p, 0, none⟩), .string k, .int .u64 (n : Int)] w (SeenPost w (seenV (getK s.ks k) n)) := by
  obtain ⟨W, eW, HB, hsz, hrow⟩ := new4 w (.int .u64 0) (.int .i64 0) (.int .u64 0) (.string { data := #[] }) 72
  replace h := h.later HB
  obtain ⟨mb, D, V, h⟩ := h
  have c0 := h.c0
  have hl := h.keys.look k hk
  obtain ⟨A, cap, hV, hcap, hA⟩ := own_vers (h.keys.row k)
  rw [hV] at hl
  obtain ⟨l, hL⟩ : ∃ l, Hid (getK s.ks k = l) := ⟨_, rfl⟩
  rw [hL.out] at hl hA hn ⊢
  have HR := Lib.hid hrow
  have HZ := Lib.hid hsz
  clear h hV hcap hrow hsz
  go_enter Tryz.func51, Tryz.ntmps51
  go_wp2
  go_loopw [16] (fun i wr => ∃ j : Nat, j ≤ l.length ∧ i = .int .i64 j ∧ Hid ((l.take j).all (fun v => decide (n < v.num)) = true) ∧ Below W.heap.size W wr) (fun i _ => l.length - (intOf i).toNat)
  case atStart => exact ⟨0, Nat.zero_le _, rfl, rfl, Below.refl _ _⟩
  case round =>
    obtain ⟨j, hj, rfl, HA, hw⟩ := hrel
    have hrow := obj_later HR.out hw
    obtain ⟨y0, y1, y2, y3, f0, f1, f2, f3⟩ := cells4 hrow
    clear hrow eW
    have hglt : w.heap.size < wr.heap.size := by have := hw.size; have := HZ.out; omega
    by_cases hlt : j < l.length
    · obtain ⟨b, off, m, z, bt, t, rfl, d0, d1, d2, d3, HX⟩ := (hA.later hw).at' hlt
      by_cases hle : m ≤ n
      · have HS : Hid (seenV l n = ⟨m, ⟨z, bt, t⟩⟩) := seen_here hlt HA.out HX.out hle
        have hle' : ((m : Int) ≤ (n : Int)) := by omega
        go_wp2
        obtain ⟨z0, z1, z2, z3, _⟩ := cells4 (obj_later (set4_cells (obj_later HR.out hw) (.int .u64 (m : Int)) (.int .i64 z) (.int .u64 (bt : Int)) (.string t)) (below1 _ (.cells #[.int .u64 (m : Int), .int .i64 z, .int .u64 (bt : Int), .string t] 72)))
        exact bodyPost_ret (v := verV ⟨m, ⟨z, bt, t⟩⟩) (by simp [results, Tryz.results51, go_sem, verV, z0, z1, z2, z3]) rfl ⟨by rw [HS.out], (((((keepB HB hw).setCell (Nat.le_refl _) _).setCell (Nat.le_refl _) _).setCell (Nat.le_refl _) _).setCell (Nat.le_refl _) _).alloc (by simp; omega) _⟩
      · have HR2 : Hid ((l.take (j + 1)).all (fun v => decide (n < v.num)) = true) := all_next hlt HX.out (by simp; omega) HA.out
        have hle' : ¬ ((m : Int) ≤ (n : Int)) := by omega
        go_wp2
        go_roundw
        case rel => exact ⟨j + 1, by omega, by go_num, HR2, hw.alloc hw.size _⟩
        case measure => simp [intOf]; omega
    · have HS : Hid (seenV l n = noVer) := by
        show _ = _
        have e : l.take j = l := List.take_of_length_le (by omega)
        have := HA.out
        rw [e] at this
        exact seen_none this
      go_wp2
      obtain ⟨z0, z1, z2, z3, _⟩ := cells4 (set4_cells (obj_later HR.out hw) (.int .u64 0) (.int .i64 0) (.int .u64 0) (.string { data := #[] }))
      exact bodyPost_ret (v := verV noVer) (by simp [results, Tryz.results51, go_sem, verV, z0, z1, z2, z3]; exact ⟨rfl, rfl, rfl, rfl⟩) rfl ⟨by rw [HS.out], ((((keepB HB hw).setCell (Nat.le_refl _) _).setCell (Nat.le_refl _) _).setCell (Nat.le_refl _) _).setCell (Nat.le_refl _) _⟩

theorem new3 (w : World) (u v x : Value) (t : TypeId) : ∃ W : World, w.alloc (.cells #[u, v, x] t) = W ∧ Below w.heap.size w W ∧ W.heap.size = w.heap.size + 1 ∧ W.heap[w.heap.size]? = some (.cells #[u, v, x] t (0, 0)) :=
  ⟨_, rfl, below1 _ _, by simp, heap_alloc_new w _⟩
theorem cells3 {w : World} {g : Nat} {u v x : Value} {t : TypeId} (h : w.heap[g]? = some (.cells #[u, v, x] t (0, 0))) : w.cell? ⟨g, 0, none⟩ = some u ∧ w.cell? ⟨g, 1, none⟩ = some v ∧ w.cell? ⟨g, 2, none⟩ = some x ∧
    w.frozen? ⟨g, 0, none⟩ = false ∧ w.frozen? ⟨g, 1, none⟩ = false ∧ w.frozen? ⟨g, 2, none⟩ = false := by
  refine ⟨?_, ?_, ?_, frozen_of_row w g _ _ _ h, frozen_of_row w g _ _ _ h, frozen_of_row w g _ _ _ h⟩ <;> (rw [cell_of_row w g _ _ _ _ h]; rfl)
theorem set3_cells {w : World} {g : Nat} {u v x : Value} {t : TypeId} (h : w.heap[g]? = some (.cells #[u, v, x] t (0, 0))) (u' v' x' : Value) :
    (((w.setCell ⟨g, 0, none⟩ u').setCell ⟨g, 1, none⟩ v').setCell ⟨g, 2, none⟩ x').heap[g]? = some (.cells #[u', v', x'] t (0, 0)) := by
  have := blk_set (j := 2) x' (blk_set (j := 1) v' (blk_set (j := 0) u' h))
  simpa using this
def GetPost (w : World) (v : Ver) (err : Int) (e : Ending) (w' : World) : Prop :=
  e = .returned (.tuple #[.agg #[.int .i64 v.val.kind, .int .u64 (v.val.bits : Int), .string v.val.text], .int .u64 (v.num : Int), .int .i64 err]) ∧ Below w.heap.size w w'
set_option maxRecDepth 100000 in
set_option maxHeartbeats 2000000 in
theorem get14_any {w : World} {B p N : Nat} {O : Nat → Prop} {s : StD} (h : StoreAt w B p N O s) (k : ByteArray) (hk : k.size ≤ maxLen) (n : Nat) (hn : (getK s.ks k).length ≤ 900000) :
    Calls Tryz.prog 21 #[.pointer (some ⟨p, 0, none⟩), .string k, .int .u64 (n : Int)] w (GetPost w (getV s k n) (oldE s n)) := by
  obtain ⟨W, eW, HB, hsz, hrow⟩ := new3 w (.int .i64 0) (.int .u64 0) (.string { data := #[] }) 53
  replace h := h.later HB
  have HS := Lib.hid h
  obtain ⟨mb, D, V, h⟩ := h
  have c2 := h.c2
  clear h
  obtain ⟨v, hv⟩ : ∃ v, Hid (seenV (getK s.ks k) n = v) := ⟨_, rfl⟩
  obtain ⟨y0, y1, y2, f0, f1, f2⟩ := cells3 hrow
  have HR := Lib.hid hrow
  clear hrow
  by_cases hlow : n < s.low
  · have hl : ((n : Int) < (s.low : Int)) := by omega
    have HV : Hid (getV s k n = noVer) := by show _ = _; rw [getV, if_pos hlow]
    have HE : Hid (oldE s n = 9) := by show _ = _; rw [oldE, if_pos hlow]
    clear hlow
    go_enter Tryz.func21, Tryz.ntmps21
    go_wp2
    obtain ⟨z0, z1, z2, _⟩ := cells3 (set3_cells HR.out (.int .i64 0) (.int .u64 0) (.string { data := #[] }))
    refine bodyPost_ret (v := .tuple #[.agg #[.int .i64 0, .int .u64 0, .string { data := #[] }], .int .u64 0, .int .i64 9]) (by simp [results, Tryz.results21, go_sem, z0, z1, z2]) rfl ⟨?_, ?_⟩
    · rw [HV.out, HE.out]; rfl
    · exact ((HB.setCell (Nat.le_refl _) _).setCell (Nat.le_refl _) _).setCell (Nat.le_refl _) _
  · have hl : ¬ ((n : Int) < (s.low : Int)) := by omega
    have HV : Hid (getV s k n = v) := by show _ = _; rw [getV, if_neg hlow]; exact hv.out
    have HE : Hid (oldE s n = 0) := by show _ = _; rw [oldE, if_neg hlow]
    clear hlow
    go_enter Tryz.func21, Tryz.ntmps21
    go_wp2_with (go_at_call 51; refine (seen14_any HS.out k hk n hn).mono ?_; rintro e w1 hq; obtain ⟨rfl, hb⟩ := (show SeenPost W v e w1 by rw [← hv.out]; exact hq); clear hq; obtain ⟨W2, eW2, HB2, hsz2, hrow2⟩ := new4 w1 (.int .u64 (v.num : Int)) (.int .i64 v.val.kind) (.int .u64 (v.val.bits : Int)) (.string v.val.text) 72; obtain ⟨x0, x1, x2, x3, _⟩ := cells4 hrow2; have HR2 := Lib.hid (obj_later (obj_later HR.out hb) HB2); obtain ⟨u0, u1, u2, g0, g1, g2⟩ := cells3 HR2.out; clear hrow2 y0 y1 y2 f0 f1 f2)
    have hne : ¬ (w1.heap.size = w.heap.size) := by have := hb.size; omega
    have hne2 : ¬ (w.heap.size = w1.heap.size) := by have := hb.size; omega
    go_region
    all_goals
      go_wp2
      obtain ⟨z0, z1, z2, _⟩ := cells3 (set3_cells HR2.out (.int .i64 v.val.kind) (.int .u64 (v.val.bits : Int)) (.string v.val.text))
      refine bodyPost_ret (v := .tuple #[.agg #[.int .i64 v.val.kind, .int .u64 (v.val.bits : Int), .string v.val.text], .int .u64 (v.num : Int), .int .i64 0]) (by simp [results, Tryz.results21, go_sem, z0, z1, z2]) rfl ⟨?_, ?_⟩
      · rw [HV.out, HE.out]
      · exact below_drew ((((keepB (keepB HB hb) HB2).setCell (Nat.le_refl _) _).setCell (Nat.le_refl _) _).setCell (Nat.le_refl _) _)
end Go.Proofs.YtboiafchmdflpaaGreatDoor
