/- Layer 2's readers in memory: New, some, Take, TakeText, Left, OK, End. -/
import Derived.Test.YtboiafchmdflpaaGreatDoorGD
import Derived.Test.YtboiafchmdflpaaGreatDoorG1
import Derived.Laws.Bits64b
import Derived.Laws.BitsAllLaws
import Derived.Laws.BytesArg
import Derived.Deep.RegionHeld3
namespace Go.Proofs.YtboiafchmdflpaaGreatDoor
open Go.RowKit Go.Shelf

def subA (A : Option Addr) (n ca : Nat) : Option Addr := if ca = n then A else A.map fun a => a.add n
theorem BysAt.sub {w : World} {A : Option Addr} {l : List UInt8} (h : BysAt w A l) {n ca : Nat} (hc : l.length ≤ ca) : BysAt w (subA A n ca) (l.drop n) := by
  intro i hi
  rw [List.length_drop] at hi
  obtain ⟨b, off, rfl, hcell⟩ := h (n + i) (by omega)
  have hne : ¬ ca = n := by omega
  refine ⟨b, off + n, ?_, ?_⟩
  · rw [subA, if_neg hne]
    by_cases h0 : n = 0
    · subst h0; simp [Addr.add]
    · simp [Addr.add, h0]
  · rw [Nat.add_assoc, hcell]
    simp [List.getD_eq_getElem?_getD]
theorem BysAt.pre {w : World} {A : Option Addr} {l : List UInt8} (h : BysAt w A l) (n : Nat) : BysAt w A (l.take n) := by
  intro i hi
  rw [List.length_take] at hi
  obtain ⟨b, off, e, hcell⟩ := h i (by omega)
  refine ⟨b, off, e, ?_⟩
  rw [hcell]
  have : i < n := by omega
  simp [this]
theorem sub_zero (A : Option Addr) (ca : Nat) : (if ca = 0 then A else A.map fun a => a.add 0) = A := by
  split
  · rfl
  · cases A <;> simp [Addr.add]
theorem BysAt.out {O : Nat → Prop} {w w' : World} {A : Option Addr} {l : List UInt8} (h : BysAt w A l) (hb : Out O w w') (ho : ∀ a, A = some a → 0 < l.length → ¬ O a.block) : BysAt w' A l := by
  intro i hi
  obtain ⟨b, off, e, hc⟩ := h i hi
  exact ⟨b, off, e, hb.cell hc (ho ⟨b, off, none⟩ e (by omega))⟩
theorem BysAt.lt {w : World} {A : Option Addr} {l : List UInt8} (h : BysAt w A l) : ∀ a, A = some a → 0 < l.length → a.block < w.heap.size := by
  rintro a rfl h0
  obtain ⟨b, off, e, hc⟩ := h 0 h0
  cases e
  exact blk_lt hc
theorem obj_set {w : World} {g j : Nat} {cur : Array Value} {t : TypeId} (v : Value) (h : w.heap[g]? = some (.cells cur t (0, 0))) : (w.setCell ⟨g, j, none⟩ v).heap[g]? = some (.cells (cur.setIfInBounds j v) t (0, 0)) := by
  rw [setCell_eq_setRow w g j cur t (0, 0) v h, setRow_heap w g cur _ t _ h]
theorem out_cell (w : World) (b j : Nat) (u : Value) : Out (fun k => k = b) w (w.setCell ⟨b, j, none⟩ u) :=
  ⟨rfl, rfl, rfl, by simp [World.setCell], fun i _ hi => Below.heap_setCell _ _ _ _ hi⟩
/-- A reader. -/
structure RdrIs (w : World) (p : Nat) (s : RS) (A : Option Addr) (n ca : Nat) : Prop where
  blk : w.heap[p]? = some (.cells #[.slice A n ca, .bool s.isNone] 100 (0, 0))
  le : n ≤ ca
  mx : n ≤ 1000000
  lo : ∀ l a, s = some l → A = some a → 0 < l.length → a.block < p
  by_ : ∀ l, s = some l → n = l.length ∧ BysAt w A l
def RdrAt (w : World) (p : Nat) (s : RS) : Prop := ∃ A n ca, RdrIs w p s A n ca
theorem RdrIs.c0 {w : World} {p : Nat} {s : RS} {A : Option Addr} {n ca : Nat} (h : RdrIs w p s A n ca) : w.cell? ⟨p, 0, none⟩ = some (.slice A n ca) := by rw [cell_of_row w p _ _ _ _ h.blk]; rfl
theorem RdrIs.c1 {w : World} {p : Nat} {s : RS} {A : Option Addr} {n ca : Nat} (h : RdrIs w p s A n ca) : w.cell? ⟨p, 1, none⟩ = some (.bool s.isNone) := by rw [cell_of_row w p _ _ _ _ h.blk]; rfl
theorem RdrIs.fz {w : World} {p : Nat} {s : RS} {A : Option Addr} {n ca : Nat} (h : RdrIs w p s A n ca) (j : Nat) : w.frozen? ⟨p, j, none⟩ = false := frozen_of_row w p _ _ _ h.blk
theorem RdrAt.out {O : Nat → Prop} {w w' : World} {p : Nat} {s : RS} (h : RdrAt w p s) (hb : Out O w w') (ho : ∀ k, k ≤ p → ¬ O k) : RdrAt w' p s := by
  obtain ⟨A, n, ca, h⟩ := h
  exact ⟨A, n, ca, hb.obj h.blk (ho p (Nat.le_refl _)), h.le, h.mx, h.lo, fun l e => ⟨(h.by_ l e).1, (h.by_ l e).2.out hb fun a ha h0 => ho _ (Nat.le_of_lt (h.lo l a e ha h0))⟩⟩
theorem RdrAt.later {w w' : World} {p : Nat} {s : RS} (h : RdrAt w p s) (hb : Below w.heap.size w w') : RdrAt w' p s :=
  h.out (O := fun _ => False) (Out.of_below hb) (fun _ _ h => h)
theorem RdrAt.lt {w : World} {p : Nat} {s : RS} (h : RdrAt w p s) : p < w.heap.size := by
  obtain ⟨A, n, ca, h⟩ := h
  exact (Array.getElem?_eq_some_iff.1 h.blk).1
def someL : RS → Nat → List UInt8
  | none, _ => []
  | some l, n => if n ≤ l.length then l.take n else []
def someS : RS → Nat → RS
  | none, _ => none
  | some l, n => if n ≤ l.length then some (l.drop n) else none
set_option maxRecDepth 100000 in
theorem rdrNew_any (l : List UInt8) (A : Option Addr) (ca : Nat) (w : World) (hA : BysAt w A l) (hle : l.length ≤ ca) (hn : l.length ≤ 1000000) :
    Calls Tryz.prog 36 #[.slice A l.length ca] w fun e w' => e = .returned (.pointer (some ⟨w.heap.size, 0, none⟩)) ∧ RdrAt w' w.heap.size (some l) ∧ Below w.heap.size w w' := by
  go_enter Tryz.func36, Tryz.ntmps36
  go_wp2
  go_ret
  refine ⟨rfl, ⟨A, l.length, ca, heap_alloc_new w _, hle, hn, fun l' a e ha h0 => ?_, fun l' e => ?_⟩, below1 _ _⟩
  · cases e; exact hA.lt a ha h0
  · cases e; exact ⟨rfl, BysAt.later hA (below1 _ _)⟩
theorem RdrIs.fail {w : World} {p : Nat} {s : RS} {A : Option Addr} {n ca : Nat} (h : RdrIs w p s A n ca) : RdrAt (w.setCell ⟨p, 1, none⟩ (.bool true)) p none := by
  have hb := obj_set (j := 1) (.bool true) h.blk
  exact ⟨A, n, ca, by simpa using hb, h.le, h.mx, fun l a e => (by cases e), fun l e => (by cases e)⟩
theorem RdrIs.move {w : World} {p : Nat} {l : List UInt8} {A : Option Addr} {m ca n : Nat} (h : RdrIs w p (some l) A m ca) (hn : n ≤ m) : RdrAt (w.setCell ⟨p, 0, none⟩ (.slice (subA A n ca) (m - n) (ca - n))) p (some (l.drop n)) := by
  have hb := obj_set (j := 0) (.slice (subA A n ca) (m - n) (ca - n)) h.blk
  have hm := (h.by_ l rfl).1
  have hA := (h.by_ l rfl).2
  have hle := h.le
  have hs := hA.sub (n := n) (ca := ca) (by omega)
  refine ⟨subA A n ca, m - n, ca - n, by simpa using hb, by omega, by have := h.mx; omega, fun l' a e ha h0 => ?_, fun l' e => ?_⟩
  · cases e
    rw [List.length_drop] at h0
    obtain ⟨b, off, e, _⟩ := hA 0 (by omega)
    have := h.lo l ⟨b, off, none⟩ rfl e (by omega)
    rw [subA, if_neg (by omega), e] at ha
    simp only [Option.map_some, Option.some.injEq] at ha
    subst ha
    simp only [Addr.add]
    split <;> exact this
  · cases e
    refine ⟨by rw [List.length_drop]; omega, hs.out (out_cell w p 0 _) fun a ha h0 e => ?_⟩
    rw [List.length_drop] at h0
    obtain ⟨b, off, e', _⟩ := hA 0 (by omega)
    have h2 : b < p := h.lo l ⟨b, off, none⟩ rfl e' (by omega)
    rw [subA, if_neg (by omega), e'] at ha
    simp only [Option.map_some, Option.some.injEq] at ha
    subst ha
    simp only [Addr.add] at e
    have h3 : b = p := by
      split at e <;> exact e
    omega
def SomePost (w : World) (p : Nat) (s : RS) (n : Nat) (e : Ending) (w' : World) : Prop :=
  ∃ A ca, e = .returned (.slice A (someL s n).length ca) ∧ BysAt w' A (someL s n) ∧ RdrAt w' p (someS s n) ∧ Out (fun k => k = p) w w' ∧ (someL s n).length ≤ 1000000
theorem some_fits {l : List UInt8} {n : Nat} (h : n ≤ l.length) : someL (some l) n = l.take n ∧ someS (some l) n = some (l.drop n) := ⟨if_pos h, if_pos h⟩
theorem some_not {l : List UInt8} {n : Nat} (h : l.length < n) : someL (some l) n = [] ∧ someS (some l) n = none := ⟨if_neg (by omega), if_neg (by omega)⟩
theorem SomePost.none_ {w w' : World} {p n : Nat} {s : RS} (h1 : someL s n = []) (h2 : someS s n = none) (h : RdrAt w' p none) (ho : Out (fun k => k = p) w w') : SomePost w p s n (.returned (.slice none 0 0)) w' := by
  refine ⟨none, 0, by rw [h1]; rfl, by rw [h1]; intro i hi; simp at hi, by rw [h2]; exact h, ho, by rw [h1]; simp⟩
set_option maxRecDepth 100000 in
theorem rdrSome_any {w : World} {p : Nat} {s : RS} (h : RdrAt w p s) (n : Nat) (hn : n ≤ 1000000) :
    Calls Tryz.prog 58 #[.pointer (some ⟨p, 0, none⟩), .int .i64 (n : Int)] w (SomePost w p s n) := by
  obtain ⟨A, m, ca, h⟩ := h
  have c0 := h.c0
  have c1 := h.c1
  have f0 := h.fz 0
  have f1 := h.fz 1
  have HI := Lib.hid h
  clear h
  cases s with
  | none =>
    go_enter Tryz.func58, Tryz.ntmps58
    go_wp2
    go_ret
    exact SomePost.none_ rfl rfl HI.out.fail (out_cell _ _ _ _)
  | some l =>
    have hml := (HI.out.by_ l rfl).1
    by_cases hlt : l.length < n
    · have hi : (m : Int) < (n : Int) := by omega
      go_enter Tryz.func58, Tryz.ntmps58
      go_wp2
      go_ret
      exact SomePost.none_ (some_not hlt).1 (some_not hlt).2 HI.out.fail (out_cell _ _ _ _)
    · have hi : ¬ (m : Int) < (n : Int) := by omega
      have hca := HI.out.le
      have HE := Lib.hid (some_fits (l := l) (n := n) (by omega))
      have hmv := HI.out.move (n := n) (by omega)
      have hout := fun v => out_cell w p 0 v
      have hpre : BysAt (w.setCell ⟨p, 0, none⟩ (.slice (subA A n ca) (m - n) (ca - n))) A (l.take n) :=
        ((HI.out.by_ l rfl).2.pre n).out (hout _) fun a ha h0 e => by
          have := HI.out.lo l a rfl ha (by rw [List.length_take] at h0; omega)
          omega
      have htl : (l.take n).length = n := by rw [List.length_take]; omega
      have hmx := HI.out.mx
      by_cases hcn : ca = n
      · have hsub : subA A n ca = A := if_pos hcn
        rw [hsub] at hmv hpre
        subst hcn
        subst hml
        rw [Nat.sub_self, show l.length - ca = 0 by omega] at hmv hpre
        go_enter Tryz.func58, Tryz.ntmps58
        go_wp2
        go_ret
        refine ⟨A, ca, by rw [HE.out.1, htl]; rfl, by rw [HE.out.1]; exact hpre, by rw [HE.out.2]; exact hmv, hout _, by rw [HE.out.1]; omega⟩
      · have hsub : subA A n ca = A.map fun a => a.add n := if_neg hcn
        rw [hsub] at hmv hpre
        subst hml
        go_enter Tryz.func58, Tryz.ntmps58
        go_wp2
        go_ret
        refine ⟨A, ca, by rw [HE.out.1, htl]; rfl, by rw [HE.out.1]; exact hpre, by rw [HE.out.2]; exact hmv, hout _, by rw [HE.out.1]; omega⟩
theorem BysAt.at' {w : World} {A : Option Addr} {l : List UInt8} (h : BysAt w A l) {k : Nat} (hk : k < l.length) :
    ∃ b off y, A = some ⟨b, off, none⟩ ∧ w.cell? ⟨b, off + k, none⟩ = some (.int .u8 ((y : Nat) : Int)) ∧ Hid ((l.getD k 0).toNat = y) := by
  obtain ⟨b, off, e, hc⟩ := h k hk
  exact ⟨b, off, _, e, hc, rfl⟩
theorem run_text {w : World} {A : Option Addr} {l : List UInt8} (h : BysAt w A l) (ca : Nat) : (convert 39 9 (.slice A l.length ca)).run Tryz.prog w = .ok (.string (strL l)) w := by
  cases A with
  | none =>
    have := bys_none h
    subst this
    exact run_convert_bytes_nil w _ _ Tryz.underlying39 Tryz.underlying5 _ ca _ Tryz.underlying9
  | some a =>
    by_cases h0 : 0 < l.length
    · obtain ⟨b, off, e, _⟩ := h 0 h0
      cases e
      have := run_convert_bytes_arg w 39 5 Tryz.underlying39 Tryz.underlying5 b off l.length ca (l.map fun b => (b.toNat : Int)) (by simp) (fun i hi => by
        obtain ⟨b', off', e', hc⟩ := h i hi
        cases e'
        rw [hc]
        simp [List.getD_eq_getElem?_getD, hi]) 9 Tryz.underlying9
      have e9 : strOfNums (l.map fun b => (b.toNat : Int)) = strL l := by simp [strOfNums, strL, Function.comp_def]
      rw [this, e9]
    · have : l = [] := List.eq_nil_of_length_eq_zero (by omega)
      subst this
      rw [run_convert_bytes_string w _ _ _ _ _ _ Tryz.underlying39 Tryz.underlying5 Tryz.underlying9]
      exact run_bytesToString w a 0 ca [] (by rw [loadCells, loadCellsFrom]; rfl)
/-! ### Take -/
theorem or_byte (x b : Nat) (hx : x < 72057594037927936) (hb : b < 256) : bits .or .u64 (IntKind.u64.wrap ((x : Int) * 256)) (b : Int) = ((x * 256 + b : Nat) : Int) := by
  have e : IntKind.u64.wrap ((x : Int) * 256) = ((x * 256 : Nat) : Int) := by
    rw [show ((x : Int) * 256) = ((x * 256 : Nat) : Int) by omega]
    exact IntWalk.u64_in _ (by omega)
  rw [e, u64_or_nat _ _ (by omega) (by omega), Nat.or_comm, nat_join8' _ _ (by omega) hb]
theorem beN_take (l : List UInt8) (k : Nat) (h : k < l.length) : beN (l.take (k + 1)) = beN (l.take k) * 256 + (l.getD k 0).toNat := by
  rw [List.take_succ_eq_append_getElem h, beN_snoc]
  congr 2
  rw [List.getD_eq_getElem?_getD, List.getElem?_eq_getElem h]; rfl
theorem beN_small (l : List UInt8) (k : Nat) (h : k < l.length) (h8 : l.length ≤ 8) : beN (l.take k) < 72057594037927936 := by
  have h1 := beN_lt (l.take k)
  rw [List.length_take, Nat.min_eq_left (by omega)] at h1
  have h2 : 256 ^ k ≤ 256 ^ 7 := Nat.pow_le_pow_right (by decide) (by omega)
  omega
theorem takeN_eq (s : RS) (n : Nat) : takeN s n = (beN (someL s n), someS s n) := by
  cases s with
  | none => rfl
  | some l =>
    rw [takeN_some]
    simp only [someL, someS]
    split <;> rfl
def TakePost (w : World) (p : Nat) (x : Nat) (s : RS) (e : Ending) (w' : World) : Prop := e = .returned (.int .u64 (x : Int)) ∧ RdrAt w' p s ∧ Out (fun k => k = p) w w'
theorem someL_len (s : RS) (n : Nat) : (someL s n).length ≤ n := by
  cases s with
  | none => simp [someL]
  | some l =>
    simp only [someL]
    split
    · rw [List.length_take]; omega
    · simp
set_option maxRecDepth 100000 in
set_option maxHeartbeats 1000000 in
theorem rdrTake_any {w : World} {p : Nat} {s : RS} (h : RdrAt w p s) (n : Nat) (nz : Int) (hz : nz = n) (hn : n ≤ 8) :
    Calls Tryz.prog 37 #[.pointer (some ⟨p, 0, none⟩), .int .i64 nz] w (TakePost w p (takeN s n).1 (takeN s n).2) := by
  subst hz
  rw [takeN_eq]
  have HC := Lib.hid (rdrSome_any h n (by omega))
  have h8 := Nat.le_trans (someL_len s n) hn
  obtain ⟨L, hL⟩ : ∃ L, Hid (someL s n = L) := ⟨_, rfl⟩
  unfold SomePost at HC
  rw [hL.out] at HC h8 ⊢
  clear h
  have h9 : ¬ (8 : Int) < (n : Int) := by omega
  go_enter Tryz.func37, Tryz.ntmps37
  go_wp2_with (go_at_call 58; refine HC.out.mono ?_; rintro e w1 ⟨A, ca, rfl, hA, hR, ho, _⟩)
  go_loop [5, 23] (fun x i => ∃ k : Nat, k ≤ L.length ∧ i = .int .i64 k ∧ x = .int .u64 (beN (L.take k) : Nat)) (fun _ i => L.length - (intOf i).toNat)
  case atStart => exact ⟨0, Nat.zero_le _, rfl, rfl⟩
  case round =>
    obtain ⟨k, hk, rfl, rfl⟩ := hrel
    by_cases hlt : k < L.length
    · obtain ⟨b, off, y, rfl, hc, hy⟩ := hA.at' hlt
      have hki : (k : Int) < (L.length : Int) := by omega
      have e1 := or_byte (beN (L.take k)) (L.getD k 0).toNat (beN_small L k hlt h8) (L.getD k 0).toNat_lt
      have e2 := beN_take L k hlt
      have hyl := (L.getD k 0).toNat_lt
      rw [hy.out] at e1 e2 hyl
      have hwy : IntKind.u64.wrap (y : Int) = y := IntWalk.u64_in _ (by omega)
      obtain ⟨z, hz⟩ : ∃ z, Hid (beN (L.take k) = z) := ⟨_, rfl⟩
      rw [hz.out] at e1 e2 ⊢
      replace e2 := Lib.hid e2
      go_wp2
      go_round
      case rel => exact ⟨k + 1, by omega, by go_num, by rw [e2.out]; exact zint_eq (by omega)⟩
      case measure => simp [intOf]; omega
    · obtain rfl : k = L.length := by omega
      go_wp2
      go_ret
      exact ⟨rfl, hR, ho⟩
theorem RdrAt.gone {w : World} {p : Nat} {s : RS} (h : RdrAt w p s) : RdrAt (w.setCell ⟨p, 1, none⟩ (.bool true)) p none := by
  obtain ⟨A, n, ca, h⟩ := h
  exact h.fail
theorem RdrAt.fz {w : World} {p : Nat} {s : RS} (h : RdrAt w p s) (j : Nat) : w.frozen? ⟨p, j, none⟩ = false := by
  obtain ⟨A, n, ca, h⟩ := h
  exact h.fz j
theorem RdrAt.c1 {w : World} {p : Nat} {s : RS} (h : RdrAt w p s) : w.cell? ⟨p, 1, none⟩ = some (.bool s.isNone) := by
  obtain ⟨A, n, ca, h⟩ := h
  exact h.c1
set_option maxRecDepth 100000 in
theorem rdrBad_any {w : World} {p : Nat} {s : RS} (h : RdrAt w p s) :
    Calls Tryz.prog 37 #[.pointer (some ⟨p, 0, none⟩), .int .i64 9] w (TakePost w p 0 none) := by
  have f1 := h.fz 1
  have c1 := h.c1
  go_enter Tryz.func37, Tryz.ntmps37
  go_wp2
  go_ret
  exact ⟨rfl, h.gone, out_cell _ _ _ _⟩
theorem takeT_eq (s : RS) (most : Nat) : takeT s most = (strL (someL (if most < (takeN s 2).1 then none else (takeN s 2).2) (takeN s 2).1), someS (if most < (takeN s 2).1 then none else (takeN s 2).2) (takeN s 2).1) := by
  unfold takeT
  split
  · rename_i h
    rw [h]
    split <;> rfl
  · rename_i l h
    rw [h]
    by_cases h1 : most < (takeN s 2).1
    · rw [if_pos h1, if_neg (by omega)]; rfl
    · rw [if_neg h1]
      by_cases h2 : (takeN s 2).1 ≤ l.length
      · rw [if_pos ⟨by omega, h2⟩, (some_fits h2).1, (some_fits h2).2]
      · rw [if_neg (by omega), (some_not (by omega)).1, (some_not (by omega)).2]; rfl
def TextPost (w : World) (p : Nat) (x : ByteArray) (s : RS) (e : Ending) (w' : World) : Prop := e = .returned (.string x) ∧ RdrAt w' p s ∧ Out (fun k => k = p) w w'
set_option maxRecDepth 100000 in
set_option maxHeartbeats 1000000 in
theorem rdrText_any {w : World} {p : Nat} {s : RS} (h : RdrAt w p s) (most : Nat) (mz : Int) (hz : mz = most) :
    Calls Tryz.prog 39 #[.pointer (some ⟨p, 0, none⟩), .int .i64 mz] w (TextPost w p (takeT s most).1 (takeT s most).2) := by
  subst hz
  rw [takeT_eq]
  have HC := Lib.hid (rdrTake_any h 2 2 rfl (by decide))
  have hlt := takeN_lt s 2
  obtain ⟨n, hn⟩ : ∃ n, Hid ((takeN s 2).1 = n) := ⟨_, rfl⟩
  obtain ⟨s1, hs1⟩ : ∃ s1, Hid ((takeN s 2).2 = s1) := ⟨_, rfl⟩
  rw [hn.out, hs1.out] at HC ⊢
  rw [hn.out] at hlt
  clear h hn hs1
  have hwr : IntKind.i64.wrap (n : Int) = n := IntWalk.i64_in _ (by omega)
  by_cases hm : most < n
  · have hi : (most : Int) < (n : Int) := by omega
    rw [if_pos hm]
    go_enter Tryz.func39, Tryz.ntmps39
    go_wp2_with (first
      | (go_at_call 37; refine HC.out.mono ?_; rintro e w1 ⟨rfl, hR, ho⟩; have f1 := hR.fz 1; have c1 := hR.c1; have hG := hR.gone; have hO2 := ho.trans' (out_cell w1 p 1 (.bool true)))
      | (go_at_call 58; refine (rdrSome_any hG n (by omega)).mono ?_; rintro e w2 ⟨A, ca, rfl, hA, hR2, ho2, _⟩; have hcv := run_text hA ca; replace ho2 := hO2.trans' ho2))
    go_ret
    exact ⟨rfl, hR2, ho2⟩
  · have hi : ¬ (most : Int) < (n : Int) := by omega
    rw [if_neg hm]
    go_enter Tryz.func39, Tryz.ntmps39
    go_wp2_with (first
      | (go_at_call 37; refine HC.out.mono ?_; rintro e w1 ⟨rfl, hR, ho⟩; have f1 := hR.fz 1; have c1 := hR.c1)
      | (go_at_call 58; refine (rdrSome_any hR n (by omega)).mono ?_; rintro e w2 ⟨A, ca, rfl, hA, hR2, ho2, _⟩; have hcv := run_text hA ca; replace ho2 := ho.trans' ho2))
    go_ret
    exact ⟨rfl, hR2, ho2⟩
theorem isSome_not (s : RS) : s.isNone = !s.isSome := by cases s <;> rfl
set_option maxRecDepth 100000 in
theorem rdrOK_any {w : World} {p : Nat} {s : RS} (h : RdrAt w p s) :
    Calls Tryz.prog 38 #[.pointer (some ⟨p, 0, none⟩)] w fun e w' => e = .returned (.bool s.isSome) ∧ w = w' := by
  have c1 := h.c1
  go_enter Tryz.func38, Tryz.ntmps38
  go_wp2
  go_ret
  exact ⟨by cases s <;> rfl, rfl⟩
end Go.Proofs.YtboiafchmdflpaaGreatDoor
/- Layer 4's Take. -/
namespace Go.Proofs.YtboiafchmdflpaaGreatDoor
open Go.RowKit Go.Shelf

theorem Tabs.out {O : Nat → Prop} {w w' : World} (h : Tabs w) (hb : Out O w w') (h1 : ¬ O 0) (h2 : ¬ O 1) : Tabs w' :=
  ⟨fun c hc => hb.cell (h.1 c hc) h1, fun i hi => ⟨hb.cell (h.2 i hi).1 h2, hb.cell (h.2 i hi).2 h2⟩⟩
theorem Tabs.lt {w : World} (h : Tabs w) : 0 < w.heap.size ∧ 1 < w.heap.size :=
  ⟨blk_lt (h.1 0 (by decide)), blk_lt (h.2 0 (by decide)).1⟩
/-- The tables, none of them in a block from p on. -/
structure TabsP (w : World) (p : Nat) : Prop where
  tabs : Tabs w
  g1 : 0 < p
  g2 : 1 < p
theorem Tabs.at_ {w : World} (h : Tabs w) {p : Nat} (hp : w.heap.size ≤ p) : TabsP w p := ⟨h, by have := h.lt.1; omega, by have := h.lt.2; omega⟩
theorem TabsP.out {O : Nat → Prop} {w w' : World} {p : Nat} (h : TabsP w p) (hb : Out O w w') (ho : ∀ k, k < p → ¬ O k) : TabsP w' p :=
  ⟨h.tabs.out hb (ho _ h.g1) (ho _ h.g2), h.g1, h.g2⟩
theorem TabsP.later {w w' : World} {p : Nat} (h : TabsP w p) (hb : Below w.heap.size w w') : TabsP w' p := ⟨h.tabs.later hb, h.g1, h.g2⟩
theorem TabsP.at_ {w w' : World} {p : Nat} (h : TabsP w p) (hb : Out (fun k => k = p) w w') : TabsP w' p := h.out hb (fun _ hk e => by omega)
theorem mk3 (w : World) (u v x : Value) (t : TypeId) : ∃ W : World, w.alloc (.cells #[u, v, x] t) = W ∧ Below w.heap.size w W ∧ W.heap.size = w.heap.size + 1 ∧ W.heap[w.heap.size]? = some (.cells #[u, v, x] t (0, 0)) :=
  ⟨_, rfl, below1 _ _, by simp, heap_alloc_new w _⟩
theorem mkc3 {w : World} {g : Nat} {u v x : Value} {t : TypeId} (h : w.heap[g]? = some (.cells #[u, v, x] t (0, 0))) : w.cell? ⟨g, 0, none⟩ = some u ∧ w.cell? ⟨g, 1, none⟩ = some v ∧ w.cell? ⟨g, 2, none⟩ = some x ∧
    w.frozen? ⟨g, 0, none⟩ = false ∧ w.frozen? ⟨g, 1, none⟩ = false ∧ w.frozen? ⟨g, 2, none⟩ = false := by
  refine ⟨?_, ?_, ?_, frozen_of_row w g _ _ _ h, frozen_of_row w g _ _ _ h, frozen_of_row w g _ _ _ h⟩ <;> (rw [cell_of_row w g _ _ _ _ h]; rfl)
def ValPost (w : World) (p : Nat) (x : Val) (s : RS) (e : Ending) (w' : World) : Prop := e = .returned x.cell ∧ RdrAt w' p s ∧ Out (fun k => k = p) w w'
theorem obj_later' {w w' : World} {g : Nat} {o : Obj} (h : w.heap[g]? = some o) (hb : Below w.heap.size w w') : w'.heap[g]? = some o := by
  rw [hb.block g (Array.getElem?_eq_some_iff.1 h).1]; exact h
/-- But for p all that was there ahead of w is as it was. -/
abbrev OutP (p : Nat) (w w' : World) : Prop := Out (fun k => k = p ∨ w.heap.size ≤ k) w w'
theorem Out.up {w W0 w1 w2 : World} {p : Nat} (h1 : Out (fun k => k = p) W0 w1) (h0 : Below w.heap.size w W0) (h2 : Below w1.heap.size w1 w2) : OutP p w w2 :=
  ((Out.of_below h0).trans' (h1.mono fun _ e => .inl e)).trans' (Out.of_below h2)
theorem Out.up2 {w w2 w3 w4 : World} {p q : Nat} (h : OutP p w w2) (h3 : Out (fun k => k = p) w2 w3) (h4 : Out (fun k => k = q) w3 w4) (hq : w.heap.size ≤ q) : OutP p w w4 :=
  (h.trans' (h3.mono fun _ e => .inl e)).trans' (h4.mono fun _ e => .inr (by omega))
theorem Out.up3 {w w2 w3 : World} {p : Nat} (h : OutP p w w2) (h3 : Out (fun k => k = p) w2 w3) : OutP p w w3 := h.trans' (h3.mono fun _ e => .inl e)
theorem Out.up4 {w w2 w3 : World} {p : Nat} (h : OutP p w w2) (h3 : Below w2.heap.size w2 w3) : OutP p w w3 := h.trans' (Out.of_below h3)
theorem Out.down {w w' : World} {p : Nat} (h : OutP p w w') : Out (fun k => k = p) w w' :=
  ⟨h.os, h.tape, h.output, h.size, fun k hk ho => h.block k hk (fun e => e.elim ho (fun e => by omega))⟩
theorem row_set1 {w w' : World} {q : Nat} {a b c : Value} {t : TypeId} (h : w.heap[q]? = some (.cells #[a, b, c] t (0, 0))) (v : Value) (e : w.setCell ⟨q, 1, none⟩ v = w') : Out (fun k => k = q) w w' ∧ w'.heap[q]? = some (.cells #[a, v, c] t (0, 0)) := by
  subst e
  exact ⟨out_cell w q 1 v, by simpa using obj_set (j := 1) v h⟩
theorem row_set2 {w w' : World} {q : Nat} {a b c : Value} {t : TypeId} (h : w.heap[q]? = some (.cells #[a, b, c] t (0, 0))) (v : Value) (e : w.setCell ⟨q, 2, none⟩ v = w') : Out (fun k => k = q) w w' ∧ w'.heap[q]? = some (.cells #[a, b, v] t (0, 0)) := by
  subst e
  exact ⟨out_cell w q 2 v, by simpa using obj_set (j := 2) v h⟩
theorem mks3 {w : World} {g : Nat} {u v x : Value} {t : TypeId} (h : w.heap[g]? = some (.cells #[u, v, x] t (0, 0))) (u' v' x' : Value) :
    (((w.setCell ⟨g, 0, none⟩ u').setCell ⟨g, 1, none⟩ v').setCell ⟨g, 2, none⟩ x').heap[g]? = some (.cells #[u', v', x'] t (0, 0)) := by
  have := obj_set (j := 2) x' (obj_set (j := 1) v' (obj_set (j := 0) u' h))
  simpa using this
/-- The result is laid in its block. -/
theorem val_end {w wz : World} {p q : Nat} {s : RS} {a b c a' b' c' : Value} {t : TypeId} {x : Val} {e : Ending} (hR : RdrAt wz p s) (_h : wz.heap[q]? = some (.cells #[a, b, c] t (0, 0))) (ho : OutP p w wz) (hq : p < q ∧ w.heap.size ≤ q) (he : e = .returned x.cell) :
    ValPost w p x s e (((wz.setCell ⟨q, 0, none⟩ a').setCell ⟨q, 1, none⟩ b').setCell ⟨q, 2, none⟩ c') := by
  have o1 := out_cell wz q 0 a'
  have o2 := out_cell (wz.setCell ⟨q, 0, none⟩ a') q 1 b'
  have o3 := out_cell ((wz.setCell ⟨q, 0, none⟩ a').setCell ⟨q, 1, none⟩ b') q 2 c'
  have o := (o1.trans' o2).trans' o3
  exact ⟨he, hR.out o (fun _ hk e => by omega), (ho.trans' (o.mono fun _ e => .inr (by omega))).down⟩
set_option maxRecDepth 100000 in
set_option maxHeartbeats 2000000 in
theorem rdrVal1 {w : World} {p : Nat} {s : RS} (h : RdrAt w p s) (hT : TabsP w p) (hk : (takeN s 1).1 = 1) :
    Calls Tryz.prog 40 #[.pointer (some ⟨p, 0, none⟩)] w (ValPost w p (takeV s).1 (takeV s).2) := by
  obtain ⟨W0, eW0, hB0, hs0, hrow0⟩ := mk3 w (.int .i64 0) (.int .u64 0) (.string ⟨#[]⟩) 53
  have hR0 := h.later hB0
  have hT0 := hT.later hB0
  have hpw := h.lt
  have HC1 := Lib.hid (rdrTake_any hR0 1 1 rfl (by decide))
  obtain ⟨s1, hs1⟩ : ∃ s1, Hid ((takeN s 1).2 = s1) := ⟨_, rfl⟩
  rw [hk, hs1.out] at HC1
  obtain ⟨b, hx⟩ : ∃ b, Hid ((takeN s1 8).1 = b) := ⟨_, rfl⟩
  obtain ⟨s2, hs2⟩ : ∃ s2, Hid ((takeN s1 8).2 = s2) := ⟨_, rfl⟩
  have HC2 : Hid (∀ wz, RdrAt wz p s1 → Calls Tryz.prog 37 #[.pointer (some ⟨p, 0, none⟩), .int .i64 8] wz (TakePost wz p b s2)) := fun wz hw => by rw [← hx.out, ← hs2.out]; exact rdrTake_any hw 8 8 rfl (by decide)
  have HV : Hid (takeV s = if s2.isSome && formedV ⟨1, b, noStr⟩ then (⟨1, b, noStr⟩, s2) else (zVal, none)) := by
    show _ = _; unfold takeV; simp only [hk, hs1.out, hx.out, hs2.out, if_true, if_false, show ¬ ((1 : Nat) = 2) by decide]
    rfl
  clear hk
  replace hT0 := Lib.hid hT0
  clear h hT
  cases s2 with
  | none =>
    replace HV : Hid (takeV s = (zVal, none)) := HV.out
    rw [HV.out]
    go_enter Tryz.func40, Tryz.ntmps40
    go_wp2_with (first
      | (go_at_call 37; (with_reducible refine HC1.out.mono ?_); rintro e w1 ⟨rfl, hR1, ho1⟩; obtain ⟨w2, ew2, hb2, hs2', hrow2⟩ := mk3 w1 (.int .i64 1) (.int .u64 0) (.string ⟨#[]⟩) 53; replace ew2 := Lib.hid ew2; have hR2 := hR1.later hb2; have hq := hR1.lt; obtain ⟨c0, c1, c2, f0, f1, f2⟩ := mkc3 hrow2; have z1 := ho1.obj hrow0 (by omega); have z2 := obj_later' z1 hb2; have u2 := Out.up ho1 hB0 hb2; have y0 := ho1.size)
      | (go_at_call 37; rw [ew2.out]; (with_reducible refine (HC2.out _ hR2).mono ?_); rintro e w3 ⟨rfl, hR3, ho3⟩; have hrow3 := ho3.obj hrow2 (by omega); obtain ⟨_, e1, e2, _, g1, g2⟩ := mkc3 hrow3; obtain ⟨w4, ew4⟩ : ∃ w4, Hid (w3.setCell ⟨w1.heap.size, 1, none⟩ (.int .u64 (b : Int)) = w4) := ⟨_, rfl⟩; obtain ⟨ho4, hrow4⟩ := row_set1 hrow3 (.int .u64 (b : Int)) ew4.out; have hR4 := hR3.out ho4 (fun k hk e => by omega); have z4 := ho4.obj (ho3.obj z2 (by omega)) (by omega); have u4 := Out.up2 u2 ho3 ho4 (by omega); have hT4 := Lib.hid ((((hT0.out.at_ ho1).later hb2).at_ ho3).out ho4 (fun k hk e => by omega)); obtain ⟨d0, d1, d2, _⟩ := mkc3 hrow4)
      | (go_at_call 38; rw [ew4.out]; (with_reducible refine (rdrOK_any hR4).mono ?_); rintro e w5 ⟨rfl, rfl⟩)
      | (go_at_call 37; (with_reducible refine (rdrBad_any hR4).mono ?_); rintro e w7 ⟨rfl, hR7, ho7⟩; have z7 := ho7.obj z4 (by omega); have u7 := Out.up3 u4 ho7; obtain ⟨x0, x1, x2, k0, k1, k2⟩ := mkc3 z7))
    obtain ⟨q0, q1, q2, _⟩ := mkc3 (mks3 z7 (.int .i64 0) (.int .u64 0) (.string ⟨#[]⟩))
    exact bodyPost_ret (v := zVal.cell) (by simp [results, Tryz.results40, go_sem, Val.cell, zVal, noStr, q0, q1, q2]; try rfl) rfl (val_end hR7 z7 u7 (by omega) rfl)
  | some r =>
    have HF : ∀ wz, TabsP wz p → Calls Tryz.prog 44 #[.agg #[.int .i64 1, .int .u64 (b : Int), .string ⟨#[]⟩]] wz fun e w' => e = .returned (.bool (formedV ⟨1, b, noStr⟩)) ∧ Below wz.heap.size wz w' := fun wz hw => formedV_any 1 b ⟨#[]⟩ (by decide) wz hw.tabs
    cases hf : formedV ⟨1, b, noStr⟩
    · rw [hf] at HF
      replace HV : Hid (takeV s = (zVal, none)) := by have := HV.out; rw [hf] at this; exact this
      rw [HV.out]
      replace HF := Lib.hid HF
      clear hf
      go_enter Tryz.func40, Tryz.ntmps40
      go_wp2_with (first
        | (go_at_call 37; (with_reducible refine HC1.out.mono ?_); rintro e w1 ⟨rfl, hR1, ho1⟩; obtain ⟨w2, ew2, hb2, hs2', hrow2⟩ := mk3 w1 (.int .i64 1) (.int .u64 0) (.string ⟨#[]⟩) 53; replace ew2 := Lib.hid ew2; have hR2 := hR1.later hb2; have hq := hR1.lt; obtain ⟨c0, c1, c2, f0, f1, f2⟩ := mkc3 hrow2; have z1 := ho1.obj hrow0 (by omega); have z2 := obj_later' z1 hb2; have u2 := Out.up ho1 hB0 hb2; have y0 := ho1.size)
        | (go_at_call 37; rw [ew2.out]; (with_reducible refine (HC2.out _ hR2).mono ?_); rintro e w3 ⟨rfl, hR3, ho3⟩; have hrow3 := ho3.obj hrow2 (by omega); obtain ⟨_, e1, e2, _, g1, g2⟩ := mkc3 hrow3; obtain ⟨w4, ew4⟩ : ∃ w4, Hid (w3.setCell ⟨w1.heap.size, 1, none⟩ (.int .u64 (b : Int)) = w4) := ⟨_, rfl⟩; obtain ⟨ho4, hrow4⟩ := row_set1 hrow3 (.int .u64 (b : Int)) ew4.out; have hR4 := hR3.out ho4 (fun k hk e => by omega); have z4 := ho4.obj (ho3.obj z2 (by omega)) (by omega); have u4 := Out.up2 u2 ho3 ho4 (by omega); have hT4 := Lib.hid ((((hT0.out.at_ ho1).later hb2).at_ ho3).out ho4 (fun k hk e => by omega)); obtain ⟨d0, d1, d2, _⟩ := mkc3 hrow4)
        | (go_at_call 38; rw [ew4.out]; (with_reducible refine (rdrOK_any hR4).mono ?_); rintro e w5 ⟨rfl, rfl⟩)
        | (go_at_call 44; (with_reducible refine (HF.out _ hT4.out).mono ?_); rintro e w6 ⟨rfl, hb6⟩; have hR6 := hR4.later hb6; have z6 := obj_later' z4 hb6; have u6 := Out.up4 u4 hb6; have hrow6 := obj_later' hrow4 hb6; obtain ⟨d0, d1, d2, _⟩ := mkc3 hrow6)
        | (go_at_call 37; (with_reducible refine (rdrBad_any hR6).mono ?_); rintro e w7 ⟨rfl, hR7, ho7⟩; have z7 := ho7.obj z6 (by omega); have u7 := Out.up3 u6 ho7; obtain ⟨x0, x1, x2, k0, k1, k2⟩ := mkc3 z7))
      obtain ⟨q0, q1, q2, _⟩ := mkc3 (mks3 z7 (.int .i64 0) (.int .u64 0) (.string ⟨#[]⟩))
      exact bodyPost_ret (v := zVal.cell) (by simp [results, Tryz.results40, go_sem, Val.cell, zVal, noStr, q0, q1, q2]; try rfl) rfl (val_end hR7 z7 u7 (by omega) rfl)
    · rw [hf] at HF
      replace HV : Hid (takeV s = (⟨1, b, noStr⟩, some r)) := by have := HV.out; rw [hf] at this; exact this
      rw [HV.out]
      replace HF := Lib.hid HF
      clear hf
      go_enter Tryz.func40, Tryz.ntmps40
      go_wp2_with (first
        | (go_at_call 37; (with_reducible refine HC1.out.mono ?_); rintro e w1 ⟨rfl, hR1, ho1⟩; obtain ⟨w2, ew2, hb2, hs2', hrow2⟩ := mk3 w1 (.int .i64 1) (.int .u64 0) (.string ⟨#[]⟩) 53; replace ew2 := Lib.hid ew2; have hR2 := hR1.later hb2; have hq := hR1.lt; obtain ⟨c0, c1, c2, f0, f1, f2⟩ := mkc3 hrow2; have z1 := ho1.obj hrow0 (by omega); have z2 := obj_later' z1 hb2; have u2 := Out.up ho1 hB0 hb2; have y0 := ho1.size)
        | (go_at_call 37; rw [ew2.out]; (with_reducible refine (HC2.out _ hR2).mono ?_); rintro e w3 ⟨rfl, hR3, ho3⟩; have hrow3 := ho3.obj hrow2 (by omega); obtain ⟨_, e1, e2, _, g1, g2⟩ := mkc3 hrow3; obtain ⟨w4, ew4⟩ : ∃ w4, Hid (w3.setCell ⟨w1.heap.size, 1, none⟩ (.int .u64 (b : Int)) = w4) := ⟨_, rfl⟩; obtain ⟨ho4, hrow4⟩ := row_set1 hrow3 (.int .u64 (b : Int)) ew4.out; have hR4 := hR3.out ho4 (fun k hk e => by omega); have z4 := ho4.obj (ho3.obj z2 (by omega)) (by omega); have u4 := Out.up2 u2 ho3 ho4 (by omega); have hT4 := Lib.hid ((((hT0.out.at_ ho1).later hb2).at_ ho3).out ho4 (fun k hk e => by omega)); obtain ⟨d0, d1, d2, _⟩ := mkc3 hrow4)
        | (go_at_call 38; rw [ew4.out]; (with_reducible refine (rdrOK_any hR4).mono ?_); rintro e w5 ⟨rfl, rfl⟩)
        | (go_at_call 44; (with_reducible refine (HF.out _ hT4.out).mono ?_); rintro e w6 ⟨rfl, hb6⟩; have hR6 := hR4.later hb6; have z6 := obj_later' z4 hb6; have u6 := Out.up4 u4 hb6; have hrow6 := obj_later' hrow4 hb6; obtain ⟨d0, d1, d2, _⟩ := mkc3 hrow6; obtain ⟨x0, x1, x2, k0, k1, k2⟩ := mkc3 z6))
      obtain ⟨q0, q1, q2, _⟩ := mkc3 (mks3 z6 (.int .i64 1) (.int .u64 (b : Int)) (.string ⟨#[]⟩))
      exact bodyPost_ret (v := (⟨1, b, noStr⟩ : Val).cell) (by simp [results, Tryz.results40, go_sem, Val.cell, noStr, q0, q1, q2]; try rfl) rfl (val_end hR6 z6 u6 (by omega) rfl)
set_option maxRecDepth 100000 in
set_option maxHeartbeats 2000000 in
theorem rdrVal2 {w : World} {p : Nat} {s : RS} (h : RdrAt w p s) (hT : TabsP w p) (hk : (takeN s 1).1 = 2) :
    Calls Tryz.prog 40 #[.pointer (some ⟨p, 0, none⟩)] w (ValPost w p (takeV s).1 (takeV s).2) := by
  obtain ⟨W0, eW0, hB0, hs0, hrow0⟩ := mk3 w (.int .i64 0) (.int .u64 0) (.string ⟨#[]⟩) 53
  have hR0 := h.later hB0
  have hT0 := hT.later hB0
  have hpw := h.lt
  have HC1 := Lib.hid (rdrTake_any hR0 1 1 rfl (by decide))
  obtain ⟨s1, hs1⟩ : ∃ s1, Hid ((takeN s 1).2 = s1) := ⟨_, rfl⟩
  rw [hk, hs1.out] at HC1
  obtain ⟨t, hx⟩ : ∃ t, Hid ((takeT s1 40).1 = t) := ⟨_, rfl⟩
  obtain ⟨s2, hs2⟩ : ∃ s2, Hid ((takeT s1 40).2 = s2) := ⟨_, rfl⟩
  have HC2 : Hid (∀ wz, RdrAt wz p s1 → Calls Tryz.prog 39 #[.pointer (some ⟨p, 0, none⟩), .int .i64 40] wz (TextPost wz p t s2)) := fun wz hw => by rw [← hx.out, ← hs2.out]; exact rdrText_any hw 40 40 rfl
  have ht40 : t.size ≤ 9223372036854775807 := by have := takeT_size s1 40; rw [hx.out] at this; omega
  have HV : Hid (takeV s = if s2.isSome && formedV ⟨2, 0, t⟩ then (⟨2, 0, t⟩, s2) else (zVal, none)) := by
    show _ = _; unfold takeV; simp only [hk, hs1.out, hx.out, hs2.out, if_true, if_false, show ¬ ((2 : Nat) = 1) by decide]
    rfl
  clear hk
  replace hT0 := Lib.hid hT0
  clear h hT
  cases s2 with
  | none =>
    replace HV : Hid (takeV s = (zVal, none)) := HV.out
    rw [HV.out]
    go_enter Tryz.func40, Tryz.ntmps40
    go_wp2_with (first
      | (go_at_call 37; (with_reducible refine HC1.out.mono ?_); rintro e w1 ⟨rfl, hR1, ho1⟩; obtain ⟨w2, ew2, hb2, hs2', hrow2⟩ := mk3 w1 (.int .i64 2) (.int .u64 0) (.string ⟨#[]⟩) 53; replace ew2 := Lib.hid ew2; have hR2 := hR1.later hb2; have hq := hR1.lt; obtain ⟨c0, c1, c2, f0, f1, f2⟩ := mkc3 hrow2; have z1 := ho1.obj hrow0 (by omega); have z2 := obj_later' z1 hb2; have u2 := Out.up ho1 hB0 hb2; have y0 := ho1.size)
      | (go_at_call 39; rw [ew2.out]; (with_reducible refine (HC2.out _ hR2).mono ?_); rintro e w3 ⟨rfl, hR3, ho3⟩; have hrow3 := ho3.obj hrow2 (by omega); obtain ⟨_, e1, e2, _, g1, g2⟩ := mkc3 hrow3; obtain ⟨w4, ew4⟩ : ∃ w4, Hid (w3.setCell ⟨w1.heap.size, 2, none⟩ (.string t) = w4) := ⟨_, rfl⟩; obtain ⟨ho4, hrow4⟩ := row_set2 hrow3 (.string t) ew4.out; have hR4 := hR3.out ho4 (fun k hk e => by omega); have z4 := ho4.obj (ho3.obj z2 (by omega)) (by omega); have u4 := Out.up2 u2 ho3 ho4 (by omega); have hT4 := Lib.hid ((((hT0.out.at_ ho1).later hb2).at_ ho3).out ho4 (fun k hk e => by omega)); obtain ⟨d0, d1, d2, _⟩ := mkc3 hrow4)
      | (go_at_call 38; rw [ew4.out]; (with_reducible refine (rdrOK_any hR4).mono ?_); rintro e w5 ⟨rfl, rfl⟩)
      | (go_at_call 37; (with_reducible refine (rdrBad_any hR4).mono ?_); rintro e w7 ⟨rfl, hR7, ho7⟩; have z7 := ho7.obj z4 (by omega); have u7 := Out.up3 u4 ho7; obtain ⟨x0, x1, x2, k0, k1, k2⟩ := mkc3 z7))
    obtain ⟨q0, q1, q2, _⟩ := mkc3 (mks3 z7 (.int .i64 0) (.int .u64 0) (.string ⟨#[]⟩))
    exact bodyPost_ret (v := zVal.cell) (by simp [results, Tryz.results40, go_sem, Val.cell, zVal, noStr, q0, q1, q2]; try rfl) rfl (val_end hR7 z7 u7 (by omega) rfl)
  | some r =>
    have HF : ∀ wz, TabsP wz p → Calls Tryz.prog 44 #[.agg #[.int .i64 2, .int .u64 0, .string t]] wz fun e w' => e = .returned (.bool (formedV ⟨2, 0, t⟩)) ∧ Below wz.heap.size wz w' := fun wz hw => formedV_any 2 0 t ht40 wz hw.tabs
    cases hf : formedV ⟨2, 0, t⟩
    · rw [hf] at HF
      replace HV : Hid (takeV s = (zVal, none)) := by have := HV.out; rw [hf] at this; exact this
      rw [HV.out]
      replace HF := Lib.hid HF
      clear hf
      go_enter Tryz.func40, Tryz.ntmps40
      go_wp2_with (first
        | (go_at_call 37; (with_reducible refine HC1.out.mono ?_); rintro e w1 ⟨rfl, hR1, ho1⟩; obtain ⟨w2, ew2, hb2, hs2', hrow2⟩ := mk3 w1 (.int .i64 2) (.int .u64 0) (.string ⟨#[]⟩) 53; replace ew2 := Lib.hid ew2; have hR2 := hR1.later hb2; have hq := hR1.lt; obtain ⟨c0, c1, c2, f0, f1, f2⟩ := mkc3 hrow2; have z1 := ho1.obj hrow0 (by omega); have z2 := obj_later' z1 hb2; have u2 := Out.up ho1 hB0 hb2; have y0 := ho1.size)
        | (go_at_call 39; rw [ew2.out]; (with_reducible refine (HC2.out _ hR2).mono ?_); rintro e w3 ⟨rfl, hR3, ho3⟩; have hrow3 := ho3.obj hrow2 (by omega); obtain ⟨_, e1, e2, _, g1, g2⟩ := mkc3 hrow3; obtain ⟨w4, ew4⟩ : ∃ w4, Hid (w3.setCell ⟨w1.heap.size, 2, none⟩ (.string t) = w4) := ⟨_, rfl⟩; obtain ⟨ho4, hrow4⟩ := row_set2 hrow3 (.string t) ew4.out; have hR4 := hR3.out ho4 (fun k hk e => by omega); have z4 := ho4.obj (ho3.obj z2 (by omega)) (by omega); have u4 := Out.up2 u2 ho3 ho4 (by omega); have hT4 := Lib.hid ((((hT0.out.at_ ho1).later hb2).at_ ho3).out ho4 (fun k hk e => by omega)); obtain ⟨d0, d1, d2, _⟩ := mkc3 hrow4)
        | (go_at_call 38; rw [ew4.out]; (with_reducible refine (rdrOK_any hR4).mono ?_); rintro e w5 ⟨rfl, rfl⟩)
        | (go_at_call 44; (with_reducible refine (HF.out _ hT4.out).mono ?_); rintro e w6 ⟨rfl, hb6⟩; have hR6 := hR4.later hb6; have z6 := obj_later' z4 hb6; have u6 := Out.up4 u4 hb6; have hrow6 := obj_later' hrow4 hb6; obtain ⟨d0, d1, d2, _⟩ := mkc3 hrow6)
        | (go_at_call 37; (with_reducible refine (rdrBad_any hR6).mono ?_); rintro e w7 ⟨rfl, hR7, ho7⟩; have z7 := ho7.obj z6 (by omega); have u7 := Out.up3 u6 ho7; obtain ⟨x0, x1, x2, k0, k1, k2⟩ := mkc3 z7))
      obtain ⟨q0, q1, q2, _⟩ := mkc3 (mks3 z7 (.int .i64 0) (.int .u64 0) (.string ⟨#[]⟩))
      exact bodyPost_ret (v := zVal.cell) (by simp [results, Tryz.results40, go_sem, Val.cell, zVal, noStr, q0, q1, q2]; try rfl) rfl (val_end hR7 z7 u7 (by omega) rfl)
    · rw [hf] at HF
      replace HV : Hid (takeV s = (⟨2, 0, t⟩, some r)) := by have := HV.out; rw [hf] at this; exact this
      rw [HV.out]
      replace HF := Lib.hid HF
      clear hf
      go_enter Tryz.func40, Tryz.ntmps40
      go_wp2_with (first
        | (go_at_call 37; (with_reducible refine HC1.out.mono ?_); rintro e w1 ⟨rfl, hR1, ho1⟩; obtain ⟨w2, ew2, hb2, hs2', hrow2⟩ := mk3 w1 (.int .i64 2) (.int .u64 0) (.string ⟨#[]⟩) 53; replace ew2 := Lib.hid ew2; have hR2 := hR1.later hb2; have hq := hR1.lt; obtain ⟨c0, c1, c2, f0, f1, f2⟩ := mkc3 hrow2; have z1 := ho1.obj hrow0 (by omega); have z2 := obj_later' z1 hb2; have u2 := Out.up ho1 hB0 hb2; have y0 := ho1.size)
        | (go_at_call 39; rw [ew2.out]; (with_reducible refine (HC2.out _ hR2).mono ?_); rintro e w3 ⟨rfl, hR3, ho3⟩; have hrow3 := ho3.obj hrow2 (by omega); obtain ⟨_, e1, e2, _, g1, g2⟩ := mkc3 hrow3; obtain ⟨w4, ew4⟩ : ∃ w4, Hid (w3.setCell ⟨w1.heap.size, 2, none⟩ (.string t) = w4) := ⟨_, rfl⟩; obtain ⟨ho4, hrow4⟩ := row_set2 hrow3 (.string t) ew4.out; have hR4 := hR3.out ho4 (fun k hk e => by omega); have z4 := ho4.obj (ho3.obj z2 (by omega)) (by omega); have u4 := Out.up2 u2 ho3 ho4 (by omega); have hT4 := Lib.hid ((((hT0.out.at_ ho1).later hb2).at_ ho3).out ho4 (fun k hk e => by omega)); obtain ⟨d0, d1, d2, _⟩ := mkc3 hrow4)
        | (go_at_call 38; rw [ew4.out]; (with_reducible refine (rdrOK_any hR4).mono ?_); rintro e w5 ⟨rfl, rfl⟩)
        | (go_at_call 44; (with_reducible refine (HF.out _ hT4.out).mono ?_); rintro e w6 ⟨rfl, hb6⟩; have hR6 := hR4.later hb6; have z6 := obj_later' z4 hb6; have u6 := Out.up4 u4 hb6; have hrow6 := obj_later' hrow4 hb6; obtain ⟨d0, d1, d2, _⟩ := mkc3 hrow6; obtain ⟨x0, x1, x2, k0, k1, k2⟩ := mkc3 z6))
      obtain ⟨q0, q1, q2, _⟩ := mkc3 (mks3 z6 (.int .i64 2) (.int .u64 0) (.string t))
      exact bodyPost_ret (v := (⟨2, 0, t⟩ : Val).cell) (by simp [results, Tryz.results40, go_sem, Val.cell, q0, q1, q2]; try rfl) rfl (val_end hR6 z6 u6 (by omega) rfl)
set_option maxRecDepth 100000 in
set_option maxHeartbeats 2000000 in
theorem rdrValk {w : World} {p : Nat} {s : RS} (h : RdrAt w p s) (hT : TabsP w p) (h1 : (takeN s 1).1 ≠ 1) (h2 : (takeN s 1).1 ≠ 2) :
    Calls Tryz.prog 40 #[.pointer (some ⟨p, 0, none⟩)] w (ValPost w p (takeV s).1 (takeV s).2) := by
  obtain ⟨W0, eW0, hB0, hs0, hrow0⟩ := mk3 w (.int .i64 0) (.int .u64 0) (.string ⟨#[]⟩) 53
  have hR0 := h.later hB0
  have hT0 := hT.later hB0
  have hpw := h.lt
  have HC1 := Lib.hid (rdrTake_any hR0 1 1 rfl (by decide))
  obtain ⟨s1, hs1⟩ : ∃ s1, Hid ((takeN s 1).2 = s1) := ⟨_, rfl⟩
  have hlt := takeN_lt s 1
  obtain ⟨k, hk⟩ : ∃ k, Hid ((takeN s 1).1 = k) := ⟨_, rfl⟩
  rw [hk.out] at h1 h2 hlt
  rw [hk.out, hs1.out] at HC1
  have hwk : IntKind.i64.wrap (k : Int) = k := IntWalk.i64_in _ (by omega)
  have t1 : ((k : Int) == 1) = false := by rw [beq_eq_false_iff_ne]; omega
  have t2 : ((k : Int) == 2) = false := by rw [beq_eq_false_iff_ne]; omega
  have HV : Hid (takeV s = if s1.isSome && formedV ⟨(k : Int), 0, noStr⟩ then (⟨(k : Int), 0, noStr⟩, s1) else (zVal, none)) := by
    show _ = _; unfold takeV; simp only [hk.out, hs1.out, if_neg h1, if_neg h2]
  clear h1 h2 hlt
  replace hT0 := Lib.hid hT0
  clear h hT
  cases s1 with
  | none =>
    replace HV : Hid (takeV s = (zVal, none)) := HV.out
    rw [HV.out]
    go_enter Tryz.func40, Tryz.ntmps40
    go_wp2_with (first
      | (go_at_call 37; (with_reducible refine HC1.out.mono ?_); rintro e w1 ⟨rfl, hR1, ho1⟩; obtain ⟨w2, ew2, hb2, hs2', hrow2⟩ := mk3 w1 (.int .i64 (k : Int)) (.int .u64 0) (.string ⟨#[]⟩) 53; replace ew2 := Lib.hid ew2; have hR2 := hR1.later hb2; have hq := hR1.lt; obtain ⟨c0, c1, c2, f0, f1, f2⟩ := mkc3 hrow2; have z1 := ho1.obj hrow0 (by omega); have z2 := obj_later' z1 hb2; have u2 := Out.up ho1 hB0 hb2; have y0 := ho1.size; have hR4 := hR2; have hrow4 := hrow2; have z4 := z2; have u4 := u2; have hT4 := Lib.hid ((hT0.out.at_ ho1).later hb2); obtain ⟨d0, d1, d2, _⟩ := mkc3 hrow4)
      | (go_at_call 38; rw [ew2.out]; (with_reducible refine (rdrOK_any hR4).mono ?_); rintro e w5 ⟨rfl, rfl⟩)
      | (go_at_call 37; (with_reducible refine (rdrBad_any hR4).mono ?_); rintro e w7 ⟨rfl, hR7, ho7⟩; have z7 := ho7.obj z4 (by omega); have u7 := Out.up3 u4 ho7; obtain ⟨x0, x1, x2, k0, k1, k2⟩ := mkc3 z7))
    obtain ⟨q0, q1, q2, _⟩ := mkc3 (mks3 z7 (.int .i64 0) (.int .u64 0) (.string ⟨#[]⟩))
    exact bodyPost_ret (v := zVal.cell) (by simp [results, Tryz.results40, go_sem, Val.cell, zVal, noStr, q0, q1, q2]; try rfl) rfl (val_end hR7 z7 u7 (by omega) rfl)
  | some r =>
    have HF : ∀ wz, TabsP wz p → Calls Tryz.prog 44 #[.agg #[.int .i64 (k : Int), .int .u64 0, .string ⟨#[]⟩]] wz fun e w' => e = .returned (.bool (formedV ⟨(k : Int), 0, noStr⟩)) ∧ Below wz.heap.size wz w' := fun wz hw => formedV_any (k : Int) 0 ⟨#[]⟩ (by decide) wz hw.tabs
    cases hf : formedV ⟨(k : Int), 0, noStr⟩
    · rw [hf] at HF
      replace HV : Hid (takeV s = (zVal, none)) := by have := HV.out; rw [hf] at this; exact this
      rw [HV.out]
      replace HF := Lib.hid HF
      clear hf
      go_enter Tryz.func40, Tryz.ntmps40
      go_wp2_with (first
        | (go_at_call 37; (with_reducible refine HC1.out.mono ?_); rintro e w1 ⟨rfl, hR1, ho1⟩; obtain ⟨w2, ew2, hb2, hs2', hrow2⟩ := mk3 w1 (.int .i64 (k : Int)) (.int .u64 0) (.string ⟨#[]⟩) 53; replace ew2 := Lib.hid ew2; have hR2 := hR1.later hb2; have hq := hR1.lt; obtain ⟨c0, c1, c2, f0, f1, f2⟩ := mkc3 hrow2; have z1 := ho1.obj hrow0 (by omega); have z2 := obj_later' z1 hb2; have u2 := Out.up ho1 hB0 hb2; have y0 := ho1.size; have hR4 := hR2; have hrow4 := hrow2; have z4 := z2; have u4 := u2; have hT4 := Lib.hid ((hT0.out.at_ ho1).later hb2); obtain ⟨d0, d1, d2, _⟩ := mkc3 hrow4)
        | (go_at_call 38; rw [ew2.out]; (with_reducible refine (rdrOK_any hR4).mono ?_); rintro e w5 ⟨rfl, rfl⟩)
        | (go_at_call 44; (with_reducible refine (HF.out _ hT4.out).mono ?_); rintro e w6 ⟨rfl, hb6⟩; have hR6 := hR4.later hb6; have z6 := obj_later' z4 hb6; have u6 := Out.up4 u4 hb6; have hrow6 := obj_later' hrow4 hb6; obtain ⟨d0, d1, d2, _⟩ := mkc3 hrow6)
        | (go_at_call 37; (with_reducible refine (rdrBad_any hR6).mono ?_); rintro e w7 ⟨rfl, hR7, ho7⟩; have z7 := ho7.obj z6 (by omega); have u7 := Out.up3 u6 ho7; obtain ⟨x0, x1, x2, k0, k1, k2⟩ := mkc3 z7))
      obtain ⟨q0, q1, q2, _⟩ := mkc3 (mks3 z7 (.int .i64 0) (.int .u64 0) (.string ⟨#[]⟩))
      exact bodyPost_ret (v := zVal.cell) (by simp [results, Tryz.results40, go_sem, Val.cell, zVal, noStr, q0, q1, q2]; try rfl) rfl (val_end hR7 z7 u7 (by omega) rfl)
    · rw [hf] at HF
      replace HV : Hid (takeV s = (⟨(k : Int), 0, noStr⟩, some r)) := by have := HV.out; rw [hf] at this; exact this
      rw [HV.out]
      replace HF := Lib.hid HF
      clear hf
      go_enter Tryz.func40, Tryz.ntmps40
      go_wp2_with (first
        | (go_at_call 37; (with_reducible refine HC1.out.mono ?_); rintro e w1 ⟨rfl, hR1, ho1⟩; obtain ⟨w2, ew2, hb2, hs2', hrow2⟩ := mk3 w1 (.int .i64 (k : Int)) (.int .u64 0) (.string ⟨#[]⟩) 53; replace ew2 := Lib.hid ew2; have hR2 := hR1.later hb2; have hq := hR1.lt; obtain ⟨c0, c1, c2, f0, f1, f2⟩ := mkc3 hrow2; have z1 := ho1.obj hrow0 (by omega); have z2 := obj_later' z1 hb2; have u2 := Out.up ho1 hB0 hb2; have y0 := ho1.size; have hR4 := hR2; have hrow4 := hrow2; have z4 := z2; have u4 := u2; have hT4 := Lib.hid ((hT0.out.at_ ho1).later hb2); obtain ⟨d0, d1, d2, _⟩ := mkc3 hrow4)
        | (go_at_call 38; rw [ew2.out]; (with_reducible refine (rdrOK_any hR4).mono ?_); rintro e w5 ⟨rfl, rfl⟩)
        | (go_at_call 44; (with_reducible refine (HF.out _ hT4.out).mono ?_); rintro e w6 ⟨rfl, hb6⟩; have hR6 := hR4.later hb6; have z6 := obj_later' z4 hb6; have u6 := Out.up4 u4 hb6; have hrow6 := obj_later' hrow4 hb6; obtain ⟨d0, d1, d2, _⟩ := mkc3 hrow6; obtain ⟨x0, x1, x2, k0, k1, k2⟩ := mkc3 z6))
      obtain ⟨q0, q1, q2, _⟩ := mkc3 (mks3 z6 (.int .i64 (k : Int)) (.int .u64 0) (.string ⟨#[]⟩))
      exact bodyPost_ret (v := (⟨(k : Int), 0, noStr⟩ : Val).cell) (by simp [results, Tryz.results40, go_sem, Val.cell, noStr, q0, q1, q2]; try rfl) rfl (val_end hR6 z6 u6 (by omega) rfl)
theorem rdrVal_any {w : World} {p : Nat} {s : RS} (h : RdrAt w p s) (hT : TabsP w p) :
    Calls Tryz.prog 40 #[.pointer (some ⟨p, 0, none⟩)] w (ValPost w p (takeV s).1 (takeV s).2) := by
  by_cases h1 : (takeN s 1).1 = 1
  · exact rdrVal1 h hT h1
  · by_cases h2 : (takeN s 1).1 = 2
    · exact rdrVal2 h hT h2
    · exact rdrValk h hT h1 h2
end Go.Proofs.YtboiafchmdflpaaGreatDoor
