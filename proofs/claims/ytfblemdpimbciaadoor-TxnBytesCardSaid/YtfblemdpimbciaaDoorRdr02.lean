/- Layer 2's readers in memory: New, some, Take, TakeText, Left, OK, End. -/
import Derived.Test.YtfblemdpimbciaaDoorRdM02
import Derived.Test.YtfblemdpimbciaaDoorOut
import Derived.Laws.Bits64b
import Derived.Laws.BitsAllLaws
import Derived.Laws.BytesArg
import Derived.Deep.RegionHeld3
namespace Go.Proofs.YtfblemdpimbciaaDoor
open Go.RowKit Go.Shelf

def subA (A : Option Addr) (n ca : Nat) : Option Addr := if ca = n then A else A.map fun a => a.add n
theorem BysAt.sub {w : World} {A : Option Addr} {l : List UInt8} (h : BysAt w A l) {n ca : Nat} (hc : l.length ≤ ca) : BysAt w (subA A n ca) (l.drop n) := by
  intro i hi
  rw [List.length_drop] at hi
  obtain ⟨b, off, rfl, hcell⟩ := h (n + i) (by omega)
  have hne : ¬ ca = n := by omega
  refine ⟨b, off + n, ?_, ?_⟩
  · rw [subA, if_neg hne]
    by_cases h0 : n = 0
    · subst h0; simp [Addr.add]
    · simp [Addr.add, h0]
  · rw [Nat.add_assoc, hcell]
    simp [List.getD_eq_getElem?_getD]
theorem BysAt.pre {w : World} {A : Option Addr} {l : List UInt8} (h : BysAt w A l) (n : Nat) : BysAt w A (l.take n) := by
  intro i hi
  rw [List.length_take] at hi
  obtain ⟨b, off, e, hcell⟩ := h i (by omega)
  refine ⟨b, off, e, ?_⟩
  rw [hcell]
  have : i < n := by omega
  simp [this]
theorem sub_zero (A : Option Addr) (ca : Nat) : (if ca = 0 then A else A.map fun a => a.add 0) = A := by
  split
  · rfl
  · cases A <;> simp [Addr.add]
theorem BysAt.out {O : Nat → Prop} {w w' : World} {A : Option Addr} {l : List UInt8} (h : BysAt w A l) (hb : Out O w w') (ho : ∀ a, A = some a → 0 < l.length → ¬ O a.block) : BysAt w' A l := by
  intro i hi
  obtain ⟨b, off, e, hc⟩ := h i hi
  exact ⟨b, off, e, hb.cell hc (ho ⟨b, off, none⟩ e (by omega))⟩
theorem BysAt.lt {w : World} {A : Option Addr} {l : List UInt8} (h : BysAt w A l) : ∀ a, A = some a → 0 < l.length → a.block < w.heap.size := by
  rintro a rfl h0
  obtain ⟨b, off, e, hc⟩ := h 0 h0
  cases e
  exact blk_lt hc
theorem obj_set {w : World} {g j : Nat} {cur : Array Value} {t : TypeId} (v : Value) (h : w.heap[g]? = some (.cells cur t (0, 0))) : (w.setCell ⟨g, j, none⟩ v).heap[g]? = some (.cells (cur.setIfInBounds j v) t (0, 0)) := by
  rw [setCell_eq_setRow w g j cur t (0, 0) v h, setRow_heap w g cur _ t _ h]
theorem out_cell (w : World) (b j : Nat) (u : Value) : Out (fun k => k = b) w (w.setCell ⟨b, j, none⟩ u) :=
  ⟨rfl, rfl, rfl, by simp [World.setCell], fun i _ hi => Below.heap_setCell _ _ _ _ hi⟩
/-- A reader. -/
structure RdrIs (w : World) (p : Nat) (s : RS) (A : Option Addr) (n ca : Nat) : Prop where
  blk : w.heap[p]? = some (.cells #[.slice A n ca, .bool s.isNone] 76 (0, 0))
  le : n ≤ ca
  mx : n ≤ 1000000
  lo : ∀ l a, s = some l → A = some a → 0 < l.length → a.block < p
  by_ : ∀ l, s = some l → n = l.length ∧ BysAt w A l
def RdrAt (w : World) (p : Nat) (s : RS) : Prop := ∃ A n ca, RdrIs w p s A n ca
theorem RdrIs.c0 {w : World} {p : Nat} {s : RS} {A : Option Addr} {n ca : Nat} (h : RdrIs w p s A n ca) : w.cell? ⟨p, 0, none⟩ = some (.slice A n ca) := by rw [cell_of_row w p _ _ _ _ h.blk]; rfl
theorem RdrIs.c1 {w : World} {p : Nat} {s : RS} {A : Option Addr} {n ca : Nat} (h : RdrIs w p s A n ca) : w.cell? ⟨p, 1, none⟩ = some (.bool s.isNone) := by rw [cell_of_row w p _ _ _ _ h.blk]; rfl
theorem RdrIs.fz {w : World} {p : Nat} {s : RS} {A : Option Addr} {n ca : Nat} (h : RdrIs w p s A n ca) (j : Nat) : w.frozen? ⟨p, j, none⟩ = false := frozen_of_row w p _ _ _ h.blk
theorem RdrAt.out {O : Nat → Prop} {w w' : World} {p : Nat} {s : RS} (h : RdrAt w p s) (hb : Out O w w') (ho : ∀ k, k ≤ p → ¬ O k) : RdrAt w' p s := by
  obtain ⟨A, n, ca, h⟩ := h
  exact ⟨A, n, ca, hb.obj h.blk (ho p (Nat.le_refl _)), h.le, h.mx, h.lo, fun l e => ⟨(h.by_ l e).1, (h.by_ l e).2.out hb fun a ha h0 => ho _ (Nat.le_of_lt (h.lo l a e ha h0))⟩⟩
theorem RdrAt.later {w w' : World} {p : Nat} {s : RS} (h : RdrAt w p s) (hb : Below w.heap.size w w') : RdrAt w' p s :=
  h.out (O := fun _ => False) (Out.of_below hb) (fun _ _ h => h)
theorem RdrAt.lt {w : World} {p : Nat} {s : RS} (h : RdrAt w p s) : p < w.heap.size := by
  obtain ⟨A, n, ca, h⟩ := h
  exact (Array.getElem?_eq_some_iff.1 h.blk).1
def someL : RS → Nat → List UInt8
  | none, _ => []
  | some l, n => if n ≤ l.length then l.take n else []
def someS : RS → Nat → RS
  | none, _ => none
  | some l, n => if n ≤ l.length then some (l.drop n) else none
set_option maxRecDepth 100000 in
theorem rdrNew_any (l : List UInt8) (A : Option Addr) (ca : Nat) (w : World) (hA : BysAt w A l) (hle : l.length ≤ ca) (hn : l.length ≤ 1000000) :
    Calls Tryd.prog 10 #[.slice A l.length ca] w fun e w' => e = .returned (.pointer (some ⟨w.heap.size, 0, none⟩)) ∧ RdrAt w' w.heap.size (some l) ∧ Below w.heap.size w w' := by
  go_enter Tryd.func10, Tryd.ntmps10
  go_wp2
  go_ret
  refine ⟨rfl, ⟨A, l.length, ca, heap_alloc_new w _, hle, hn, fun l' a e ha h0 => ?_, fun l' e => ?_⟩, below1 _ _⟩
  · cases e; exact hA.lt a ha h0
  · cases e; exact ⟨rfl, BysAt.later hA (below1 _ _)⟩
theorem RdrIs.fail {w : World} {p : Nat} {s : RS} {A : Option Addr} {n ca : Nat} (h : RdrIs w p s A n ca) : RdrAt (w.setCell ⟨p, 1, none⟩ (.bool true)) p none := by
  have hb := obj_set (j := 1) (.bool true) h.blk
  exact ⟨A, n, ca, by simpa using hb, h.le, h.mx, fun l a e => (by cases e), fun l e => (by cases e)⟩
theorem RdrIs.move {w : World} {p : Nat} {l : List UInt8} {A : Option Addr} {m ca n : Nat} (h : RdrIs w p (some l) A m ca) (hn : n ≤ m) : RdrAt (w.setCell ⟨p, 0, none⟩ (.slice (subA A n ca) (m - n) (ca - n))) p (some (l.drop n)) := by
  have hb := obj_set (j := 0) (.slice (subA A n ca) (m - n) (ca - n)) h.blk
  have hm := (h.by_ l rfl).1
  have hA := (h.by_ l rfl).2
  have hle := h.le
  have hs := hA.sub (n := n) (ca := ca) (by omega)
  refine ⟨subA A n ca, m - n, ca - n, by simpa using hb, by omega, by have := h.mx; omega, fun l' a e ha h0 => ?_, fun l' e => ?_⟩
  · cases e
    rw [List.length_drop] at h0
    obtain ⟨b, off, e, _⟩ := hA 0 (by omega)
    have := h.lo l ⟨b, off, none⟩ rfl e (by omega)
    rw [subA, if_neg (by omega), e] at ha
    simp only [Option.map_some, Option.some.injEq] at ha
    subst ha
    simp only [Addr.add]
    split <;> exact this
  · cases e
    refine ⟨by rw [List.length_drop]; omega, hs.out (out_cell w p 0 _) fun a ha h0 e => ?_⟩
    rw [List.length_drop] at h0
    obtain ⟨b, off, e', _⟩ := hA 0 (by omega)
    have h2 : b < p := h.lo l ⟨b, off, none⟩ rfl e' (by omega)
    rw [subA, if_neg (by omega), e'] at ha
    simp only [Option.map_some, Option.some.injEq] at ha
    subst ha
    simp only [Addr.add] at e
    have h3 : b = p := by
      split at e <;> exact e
    omega
def SomePost (w : World) (p : Nat) (s : RS) (n : Nat) (e : Ending) (w' : World) : Prop :=
  ∃ A ca, e = .returned (.slice A (someL s n).length ca) ∧ BysAt w' A (someL s n) ∧ RdrAt w' p (someS s n) ∧ Out (fun k => k = p) w w' ∧ (someL s n).length ≤ 1000000
theorem some_fits {l : List UInt8} {n : Nat} (h : n ≤ l.length) : someL (some l) n = l.take n ∧ someS (some l) n = some (l.drop n) := ⟨if_pos h, if_pos h⟩
theorem some_not {l : List UInt8} {n : Nat} (h : l.length < n) : someL (some l) n = [] ∧ someS (some l) n = none := ⟨if_neg (by omega), if_neg (by omega)⟩
theorem SomePost.none_ {w w' : World} {p n : Nat} {s : RS} (h1 : someL s n = []) (h2 : someS s n = none) (h : RdrAt w' p none) (ho : Out (fun k => k = p) w w') : SomePost w p s n (.returned (.slice none 0 0)) w' := by
  refine ⟨none, 0, by rw [h1]; rfl, by rw [h1]; intro i hi; simp at hi, by rw [h2]; exact h, ho, by rw [h1]; simp⟩
set_option maxRecDepth 100000 in
theorem rdrSome_any {w : World} {p : Nat} {s : RS} (h : RdrAt w p s) (n : Nat) (hn : n ≤ 1000000) :
    Calls Tryd.prog 66 #[.pointer (some ⟨p, 0, none⟩), .int .i64 (n : Int)] w (SomePost w p s n) := by
  obtain ⟨A, m, ca, h⟩ := h
  have c0 := h.c0
  have c1 := h.c1
  have f0 := h.fz 0
  have f1 := h.fz 1
  have HI := Lib.hid h
  clear h
  cases s with
  | none =>
    go_enter Tryd.func66, Tryd.ntmps66
    go_wp2
    go_ret
    exact SomePost.none_ rfl rfl HI.out.fail (out_cell _ _ _ _)
  | some l =>
    have hml := (HI.out.by_ l rfl).1
    by_cases hlt : l.length < n
    · have hi : (m : Int) < (n : Int) := by omega
      go_enter Tryd.func66, Tryd.ntmps66
      go_wp2
      go_ret
      exact SomePost.none_ (some_not hlt).1 (some_not hlt).2 HI.out.fail (out_cell _ _ _ _)
    · have hi : ¬ (m : Int) < (n : Int) := by omega
      have hca := HI.out.le
      have HE := Lib.hid (some_fits (l := l) (n := n) (by omega))
      have hmv := HI.out.move (n := n) (by omega)
      have hout := fun v => out_cell w p 0 v
      have hpre : BysAt (w.setCell ⟨p, 0, none⟩ (.slice (subA A n ca) (m - n) (ca - n))) A (l.take n) :=
        ((HI.out.by_ l rfl).2.pre n).out (hout _) fun a ha h0 e => by
          have := HI.out.lo l a rfl ha (by rw [List.length_take] at h0; omega)
          omega
      have htl : (l.take n).length = n := by rw [List.length_take]; omega
      have hmx := HI.out.mx
      by_cases hcn : ca = n
      · have hsub : subA A n ca = A := if_pos hcn
        rw [hsub] at hmv hpre
        subst hcn
        subst hml
        rw [Nat.sub_self, show l.length - ca = 0 by omega] at hmv hpre
        go_enter Tryd.func66, Tryd.ntmps66
        go_wp2
        go_ret
        refine ⟨A, ca, by rw [HE.out.1, htl]; rfl, by rw [HE.out.1]; exact hpre, by rw [HE.out.2]; exact hmv, hout _, by rw [HE.out.1]; omega⟩
      · have hsub : subA A n ca = A.map fun a => a.add n := if_neg hcn
        rw [hsub] at hmv hpre
        subst hml
        go_enter Tryd.func66, Tryd.ntmps66
        go_wp2
        go_ret
        refine ⟨A, ca, by rw [HE.out.1, htl]; rfl, by rw [HE.out.1]; exact hpre, by rw [HE.out.2]; exact hmv, hout _, by rw [HE.out.1]; omega⟩
theorem BysAt.at' {w : World} {A : Option Addr} {l : List UInt8} (h : BysAt w A l) {k : Nat} (hk : k < l.length) :
    ∃ b off y, A = some ⟨b, off, none⟩ ∧ w.cell? ⟨b, off + k, none⟩ = some (.int .u8 ((y : Nat) : Int)) ∧ Hid ((l.getD k 0).toNat = y) := by
  obtain ⟨b, off, e, hc⟩ := h k hk
  exact ⟨b, off, _, e, hc, rfl⟩
theorem run_text {w : World} {A : Option Addr} {l : List UInt8} (h : BysAt w A l) (ca : Nat) : (convert 31 9 (.slice A l.length ca)).run Tryd.prog w = .ok (.string (strL l)) w := by
  cases A with
  | none =>
    have := bys_none h
    subst this
    exact run_convert_bytes_nil w _ _ Tryd.underlying31 Tryd.underlying5 _ ca _ Tryd.underlying9
  | some a =>
    by_cases h0 : 0 < l.length
    · obtain ⟨b, off, e, _⟩ := h 0 h0
      cases e
      have := run_convert_bytes_arg w 31 5 Tryd.underlying31 Tryd.underlying5 b off l.length ca (l.map fun b => (b.toNat : Int)) (by simp) (fun i hi => by
        obtain ⟨b', off', e', hc⟩ := h i hi
        cases e'
        rw [hc]
        simp [List.getD_eq_getElem?_getD, hi]) 9 Tryd.underlying9
      have e9 : strOfNums (l.map fun b => (b.toNat : Int)) = strL l := by simp [strOfNums, strL, Function.comp_def]
      rw [this, e9]
    · have : l = [] := List.eq_nil_of_length_eq_zero (by omega)
      subst this
      rw [run_convert_bytes_string w _ _ _ _ _ _ Tryd.underlying31 Tryd.underlying5 Tryd.underlying9]
      exact run_bytesToString w a 0 ca [] (by rw [loadCells, loadCellsFrom]; rfl)
/-! ### Take -/
theorem or_byte (x b : Nat) (hx : x < 72057594037927936) (hb : b < 256) : bits .or .u64 (IntKind.u64.wrap ((x : Int) * 256)) (b : Int) = ((x * 256 + b : Nat) : Int) := by
  have e : IntKind.u64.wrap ((x : Int) * 256) = ((x * 256 : Nat) : Int) := by
    rw [show ((x : Int) * 256) = ((x * 256 : Nat) : Int) by omega]
    exact IntWalk.u64_in _ (by omega)
  rw [e, u64_or_nat _ _ (by omega) (by omega), Nat.or_comm, nat_join8' _ _ (by omega) hb]
theorem beN_take (l : List UInt8) (k : Nat) (h : k < l.length) : beN (l.take (k + 1)) = beN (l.take k) * 256 + (l.getD k 0).toNat := by
  rw [List.take_succ_eq_append_getElem h, beN_snoc]
  congr 2
  rw [List.getD_eq_getElem?_getD, List.getElem?_eq_getElem h]; rfl
theorem beN_small (l : List UInt8) (k : Nat) (h : k < l.length) (h8 : l.length ≤ 8) : beN (l.take k) < 72057594037927936 := by
  have h1 := beN_lt (l.take k)
  rw [List.length_take, Nat.min_eq_left (by omega)] at h1
  have h2 : 256 ^ k ≤ 256 ^ 7 := Nat.pow_le_pow_right (by decide) (by omega)
  omega
theorem takeN_eq (s : RS) (n : Nat) : takeN s n = (beN (someL s n), someS s n) := by
  cases s with
  | none => rfl
  | some l =>
    rw [takeN_some]
    simp only [someL, someS]
    split <;> rfl
def TakePost (w : World) (p : Nat) (x : Nat) (s : RS) (e : Ending) (w' : World) : Prop := e = .returned (.int .u64 (x : Int)) ∧ RdrAt w' p s ∧ Out (fun k => k = p) w w'
theorem someL_len (s : RS) (n : Nat) : (someL s n).length ≤ n := by
  cases s with
  | none => simp [someL]
  | some l =>
    simp only [someL]
    split
    · rw [List.length_take]; omega
    · simp
set_option maxRecDepth 100000 in
set_option maxHeartbeats 1000000 in
theorem rdrTake_any {w : World} {p : Nat} {s : RS} (h : RdrAt w p s) (n : Nat) (nz : Int) (hz : nz = n) (hn : n ≤ 8) :
    Calls Tryd.prog 40 #[.pointer (some ⟨p, 0, none⟩), .int .i64 nz] w (TakePost w p (takeN s n).1 (takeN s n).2) := by
  subst hz
  rw [takeN_eq]
  have HC := Lib.hid (rdrSome_any h n (by omega))
  have h8 := Nat.le_trans (someL_len s n) hn
  obtain ⟨L, hL⟩ : ∃ L, Hid (someL s n = L) := ⟨_, rfl⟩
  unfold SomePost at HC
  rw [hL.out] at HC h8 ⊢
  clear h
  have h9 : ¬ (8 : Int) < (n : Int) := by omega
  go_enter Tryd.func40, Tryd.ntmps40
  go_wp2_with (go_at_call 66; refine HC.out.mono ?_; rintro e w1 ⟨A, ca, rfl, hA, hR, ho, _⟩)
  go_loop [5, 23] (fun x i => ∃ k : Nat, k ≤ L.length ∧ i = .int .i64 k ∧ x = .int .u64 (beN (L.take k) : Nat)) (fun _ i => L.length - (intOf i).toNat)
  case atStart => exact ⟨0, Nat.zero_le _, rfl, rfl⟩
  case round =>
    obtain ⟨k, hk, rfl, rfl⟩ := hrel
    by_cases hlt : k < L.length
    · obtain ⟨b, off, y, rfl, hc, hy⟩ := hA.at' hlt
      have hki : (k : Int) < (L.length : Int) := by omega
      have e1 := or_byte (beN (L.take k)) (L.getD k 0).toNat (beN_small L k hlt h8) (L.getD k 0).toNat_lt
      have e2 := beN_take L k hlt
      have hyl := (L.getD k 0).toNat_lt
      rw [hy.out] at e1 e2 hyl
      have hwy : IntKind.u64.wrap (y : Int) = y := IntWalk.u64_in _ (by omega)
      obtain ⟨z, hz⟩ : ∃ z, Hid (beN (L.take k) = z) := ⟨_, rfl⟩
      rw [hz.out] at e1 e2 ⊢
      replace e2 := Lib.hid e2
      go_wp2
      go_round
      case rel => exact ⟨k + 1, by omega, by go_num, by rw [e2.out]; exact zint_eq (by omega)⟩
      case measure => simp [intOf]; omega
    · obtain rfl : k = L.length := by omega
      go_wp2
      go_ret
      exact ⟨rfl, hR, ho⟩
theorem RdrAt.gone {w : World} {p : Nat} {s : RS} (h : RdrAt w p s) : RdrAt (w.setCell ⟨p, 1, none⟩ (.bool true)) p none := by
  obtain ⟨A, n, ca, h⟩ := h
  exact h.fail
theorem RdrAt.fz {w : World} {p : Nat} {s : RS} (h : RdrAt w p s) (j : Nat) : w.frozen? ⟨p, j, none⟩ = false := by
  obtain ⟨A, n, ca, h⟩ := h
  exact h.fz j
theorem RdrAt.c1 {w : World} {p : Nat} {s : RS} (h : RdrAt w p s) : w.cell? ⟨p, 1, none⟩ = some (.bool s.isNone) := by
  obtain ⟨A, n, ca, h⟩ := h
  exact h.c1
set_option maxRecDepth 100000 in
theorem rdrBad_any {w : World} {p : Nat} {s : RS} (h : RdrAt w p s) :
    Calls Tryd.prog 40 #[.pointer (some ⟨p, 0, none⟩), .int .i64 9] w (TakePost w p 0 none) := by
  have f1 := h.fz 1
  have c1 := h.c1
  go_enter Tryd.func40, Tryd.ntmps40
  go_wp2
  go_ret
  exact ⟨rfl, h.gone, out_cell _ _ _ _⟩
theorem takeT_eq (s : RS) (most : Nat) : takeT s most = (strL (someL (if most < (takeN s 2).1 then none else (takeN s 2).2) (takeN s 2).1), someS (if most < (takeN s 2).1 then none else (takeN s 2).2) (takeN s 2).1) := by
  unfold takeT
  split
  · rename_i h
    rw [h]
    split <;> rfl
  · rename_i l h
    rw [h]
    by_cases h1 : most < (takeN s 2).1
    · rw [if_pos h1, if_neg (by omega)]; rfl
    · rw [if_neg h1]
      by_cases h2 : (takeN s 2).1 ≤ l.length
      · rw [if_pos ⟨by omega, h2⟩, (some_fits h2).1, (some_fits h2).2]
      · rw [if_neg (by omega), (some_not (by omega)).1, (some_not (by omega)).2]; rfl
def TextPost (w : World) (p : Nat) (x : ByteArray) (s : RS) (e : Ending) (w' : World) : Prop := e = .returned (.string x) ∧ RdrAt w' p s ∧ Out (fun k => k = p) w w'
set_option maxRecDepth 100000 in
set_option maxHeartbeats 1000000 in
theorem rdrText_any {w : World} {p : Nat} {s : RS} (h : RdrAt w p s) (most : Nat) (mz : Int) (hz : mz = most) :
    Calls Tryd.prog 41 #[.pointer (some ⟨p, 0, none⟩), .int .i64 mz] w (TextPost w p (takeT s most).1 (takeT s most).2) := by
  subst hz
  rw [takeT_eq]
  have HC := Lib.hid (rdrTake_any h 2 2 rfl (by decide))
  have hlt := takeN_lt s 2
  obtain ⟨n, hn⟩ : ∃ n, Hid ((takeN s 2).1 = n) := ⟨_, rfl⟩
  obtain ⟨s1, hs1⟩ : ∃ s1, Hid ((takeN s 2).2 = s1) := ⟨_, rfl⟩
  rw [hn.out, hs1.out] at HC ⊢
  rw [hn.out] at hlt
  clear h hn hs1
  have hwr : IntKind.i64.wrap (n : Int) = n := IntWalk.i64_in _ (by omega)
  by_cases hm : most < n
  · have hi : (most : Int) < (n : Int) := by omega
    rw [if_pos hm]
    go_enter Tryd.func41, Tryd.ntmps41
    go_wp2_with (first
      | (go_at_call 40; refine HC.out.mono ?_; rintro e w1 ⟨rfl, hR, ho⟩; have f1 := hR.fz 1; have c1 := hR.c1; have hG := hR.gone; have hO2 := ho.trans' (out_cell w1 p 1 (.bool true)))
      | (go_at_call 66; refine (rdrSome_any hG n (by omega)).mono ?_; rintro e w2 ⟨A, ca, rfl, hA, hR2, ho2, _⟩; have hcv := run_text hA ca; replace ho2 := hO2.trans' ho2))
    go_ret
    exact ⟨rfl, hR2, ho2⟩
  · have hi : ¬ (most : Int) < (n : Int) := by omega
    rw [if_neg hm]
    go_enter Tryd.func41, Tryd.ntmps41
    go_wp2_with (first
      | (go_at_call 40; refine HC.out.mono ?_; rintro e w1 ⟨rfl, hR, ho⟩; have f1 := hR.fz 1; have c1 := hR.c1)
      | (go_at_call 66; refine (rdrSome_any hR n (by omega)).mono ?_; rintro e w2 ⟨A, ca, rfl, hA, hR2, ho2, _⟩; have hcv := run_text hA ca; replace ho2 := ho.trans' ho2))
    go_ret
    exact ⟨rfl, hR2, ho2⟩
theorem isSome_not (s : RS) : s.isNone = !s.isSome := by cases s <;> rfl
set_option maxRecDepth 100000 in
theorem rdrOK_any {w : World} {p : Nat} {s : RS} (h : RdrAt w p s) :
    Calls Tryd.prog 14 #[.pointer (some ⟨p, 0, none⟩)] w fun e w' => e = .returned (.bool s.isSome) ∧ w = w' := by
  have c1 := h.c1
  go_enter Tryd.func14, Tryd.ntmps14
  go_wp2
  go_ret
  exact ⟨by cases s <;> rfl, rfl⟩
end Go.Proofs.YtfblemdpimbciaaDoor
