/- TxnParts, in plain Lean: the groups' reads and writes, one behind the other, are all; three rows of a call's own beside a block of its own. -/
import Derived.Test.YthpdladfcjcjiaaDoorLawCuts
import Derived.Test.YthpdladfcjcjiaaDoorGroupsGL
import Derived.Maps.AppendAt
namespace Go.Proofs.YthpdladfcjcjiaaDoor
open Go.RowKit Go.Shelf Go.Sort

def rdsUpTo (c : Cfg) (t : Tx) (k : Nat) : List Rd := (List.range k).flatMap fun (g : Nat) => readsL c t (g : Int)
def wrsUpTo (c : Cfg) (t : Tx) (k : Nat) : List Wr := (List.range k).flatMap fun (g : Nat) => writesL c t (g : Int)
theorem rdsUpTo_succ (c : Cfg) (t : Tx) (k : Nat) : rdsUpTo c t (k + 1) = rdsUpTo c t k ++ readsL c t k := by simp [rdsUpTo, List.range_succ]
theorem wrsUpTo_succ (c : Cfg) (t : Tx) (k : Nat) : wrsUpTo c t (k + 1) = wrsUpTo c t k ++ writesL c t k := by simp [wrsUpTo, List.range_succ]
theorem cut_lt {α : Type} (f : α → Int) (k : Int) : ∀ l : List α, l.Pairwise (fun x y => f x ≤ f y) → l.filter (fun x => decide (f x < k)) ++ l.filter (fun x => f x == k) = l.filter (fun x => decide (f x < k + 1))
  | [], _ => rfl
  | x :: l, h => by
    rw [List.pairwise_cons] at h
    have ih := cut_lt f k l h.2
    rcases Int.lt_trichotomy (f x) k with q | q | q
    · have e1 : decide (f x < k) = true := decide_eq_true q
      have e2 : (f x == k) = false := beq_eq_false_iff_ne.2 (by omega)
      have e3 : decide (f x < k + 1) = true := decide_eq_true (by omega)
      simp only [List.filter, e1, e2, e3, List.cons_append]
      rw [ih]
    · have e1 : decide (f x < k) = false := decide_eq_false (by omega)
      have e2 : (f x == k) = true := beq_iff_eq.2 q
      have e3 : decide (f x < k + 1) = true := decide_eq_true (by omega)
      have e0 : l.filter (fun x => decide (f x < k)) = [] := List.filter_eq_nil_iff.2 fun y hy => by
        have := h.1 y hy
        simp only [decide_eq_true_eq]; omega
      rw [e0, List.nil_append] at ih
      simp only [List.filter, e1, e2, e3]
      rw [e0, List.nil_append, ih]
    · have e1 : decide (f x < k) = false := decide_eq_false (by omega)
      have e2 : (f x == k) = false := beq_eq_false_iff_ne.2 (by omega)
      have e3 : decide (f x < k + 1) = false := decide_eq_false (by omega)
      simp only [List.filter, e1, e2, e3]
      rw [ih]
theorem rises_pair {α : Type} {c : Cfg} (hc : formedB c = true) (l : List α) (key : α → ByteArray) (h : risesTo (l.map key) l.length = true) : l.Pairwise (fun x y => homeZ c (key x) ≤ homeZ c (key y)) := by
  rw [List.pairwise_iff_getElem]
  intro i j hi hj hij
  have := lessS_asym (rises_mono h hij (by omega))
  refine home_mono hc ?_
  simpa [List.getD_eq_getElem?_getD, hi, hj] using this
theorem formedT_rises {t : Tx} (h : formedT t = true) : risesTo (rKeys t) t.rds.length = true ∧ risesTo (wKeys t) t.wrs.length = true := by
  simp only [formedT, Bool.and_eq_true, decide_eq_true_eq] at h
  exact ⟨h.1.1.2, h.1.2⟩
theorem rdsUpTo_filter {c : Cfg} {t : Tx} (hc : formedB c = true) (ht : formedT t = true) : ∀ k : Nat, rdsUpTo c t k = t.rds.filter (fun x => decide (homeZ c x.key < k))
  | 0 => by
    have : t.rds.filter (fun x => decide (homeZ c x.key < (0 : Nat))) = [] := List.filter_eq_nil_iff.2 fun y _ => by
      have := (home_range hc y.key).1
      simp only [decide_eq_true_eq]; omega
    rw [this]; rfl
  | k + 1 => by
    rw [rdsUpTo_succ, rdsUpTo_filter hc ht k, readsL, pickR_formed hc ht]
    exact cut_lt (fun x : Rd => homeZ c x.key) k t.rds (rises_pair hc t.rds (·.key) (formedT_rises ht).1)
theorem wrsUpTo_filter {c : Cfg} {t : Tx} (hc : formedB c = true) (ht : formedT t = true) : ∀ k : Nat, wrsUpTo c t k = t.wrs.filter (fun x => decide (homeZ c x.key < k))
  | 0 => by
    have : t.wrs.filter (fun x => decide (homeZ c x.key < (0 : Nat))) = [] := List.filter_eq_nil_iff.2 fun y _ => by
      have := (home_range hc y.key).1
      simp only [decide_eq_true_eq]; omega
    rw [this]; rfl
  | k + 1 => by
    rw [wrsUpTo_succ, wrsUpTo_filter hc ht k, writesL, pickW_formed hc ht]
    exact cut_lt (fun x : Wr => homeZ c x.key) k t.wrs (rises_pair hc t.wrs (·.key) (formedT_rises ht).2)
theorem rdsUpTo_all {c : Cfg} {t : Tx} (hc : formedB c = true) (ht : formedT t = true) : rdsUpTo c t c.reps.length = t.rds := by
  rw [rdsUpTo_filter hc ht, List.filter_eq_self]
  intro x _
  exact decide_eq_true (home_range hc x.key).2
theorem wrsUpTo_all {c : Cfg} {t : Tx} (hc : formedB c = true) (ht : formedT t = true) : wrsUpTo c t c.reps.length = t.wrs := by
  rw [wrsUpTo_filter hc ht, List.filter_eq_self]
  intro x _
  exact decide_eq_true (home_range hc x.key).2
theorem rdsUpTo_len {c : Cfg} {t : Tx} (hc : formedB c = true) (ht : formedT t = true) (k : Nat) : (rdsUpTo c t k).length ≤ t.rds.length := by
  rw [rdsUpTo_filter hc ht]; exact List.length_filter_le _ _
theorem wrsUpTo_len {c : Cfg} {t : Tx} (hc : formedB c = true) (ht : formedT t = true) (k : Nat) : (wrsUpTo c t k).length ≤ t.wrs.length := by
  rw [wrsUpTo_filter hc ht]; exact List.length_filter_le _ _

/-! ### Three rows of the call's own -/
structure Rw where
  T : TypeId
  sz : Nat
  v : Value
  n : Nat
  xs : List Value
def Rw.At (r : Rw) (base : Nat) (w : World) : Prop := w.ownsRow base r.T r.sz r.v r.n r.xs
def Rw.Off (r s : Rw) : Prop := ∀ g, r.v.ownBlock = some g → s.v.ownBlock ≠ some g
theorem Rw.Off.symm {r s : Rw} (h : r.Off s) : s.Off r := fun g hg hr => h g hr hg
structure P3 (w0 : World) (r s q : Rw) (w : World) : Prop where
  o1 : r.At (w0.heap.size + 1) w
  o2 : s.At (w0.heap.size + 1) w
  o3 : q.At (w0.heap.size + 1) w
  a12 : r.Off s
  a13 : r.Off q
  a23 : s.Off q
  below : Below w0.heap.size w0 w
  big : w0.heap.size < w.heap.size
section
variable {w0 w w' : World} {r s q : Rw}
theorem P3.later (h : P3 w0 r s q w) (hb : Below w.heap.size w w') : P3 w0 r s q w' :=
  ⟨own_keep h.o1 hb, own_keep h.o2 hb, own_keep h.o3 hb, h.a12, h.a13, h.a23, keepB h.below hb, Nat.lt_of_lt_of_le h.big hb.size⟩
theorem P3.rot (h : P3 w0 r s q w) : P3 w0 s q r w := ⟨h.o2, h.o3, h.o1, h.a23, h.a12.symm, h.a13.symm, h.below, h.big⟩
theorem own_base {w : World} {base b n size : Nat} {e : TypeId} {v : Value} {xs : List Value} (h : w.ownsRow base e size v n xs) (hb : b ≤ base) : w.ownsRow b e size v n xs := by
  refine ⟨h.1, ?_⟩
  rcases h.2 with q2 | ⟨g, cap, cur, e, hg, r⟩
  · exact .inl q2
  · exact .inr ⟨g, cap, cur, e, Nat.le_trans hb hg, r⟩
theorem P3.app (h : P3 w0 r s q w) {v' : Value} {n' : Nat} {xs' : List Value} (ho : w'.ownsRow (w0.heap.size + 1) r.T r.sz v' n' xs') (hg : w.grownBy w' r.v.ownBlock) (hv : v'.ownBlock = r.v.ownBlock ∨ v'.ownBlock = some w.heap.size) :
    P3 w0 ⟨r.T, r.sz, v', n', xs'⟩ s q w' := by
  have off : ∀ z : Rw, z.At (w0.heap.size + 1) w → r.Off z → Rw.Off ⟨r.T, r.sz, v', n', xs'⟩ z := by
    intro z hz ha g hg' hu
    rcases hv with e | e
    · exact ha g (e.symm.trans hg') hu
    · have : some w.heap.size = some g := e.symm.trans hg'
      cases this
      exact Nat.lt_irrefl _ (own_lt hz _ hu)
  exact ⟨ho, own_kept h.o2 hg (fun g hu e => h.a12 g e.symm hu), own_kept h.o3 hg (fun g hu e => h.a13 g e.symm hu), off s h.o2 h.a12, off q h.o3 h.a13, h.a23,
    own_below h.below (Nat.le_refl _) (own_base h.o1 (Nat.le_succ _)) hg, Nat.lt_of_lt_of_le h.big hg.size⟩
theorem P3.set (h : P3 w0 r s q w) (o : Nat) (v : Value) : P3 w0 r s q (w.setCell ⟨w0.heap.size, o, none⟩ v) :=
  ⟨ownsRow_setCell_below h.o1 (by simp) _, ownsRow_setCell_below h.o2 (by simp) _, ownsRow_setCell_below h.o3 (by simp) _, h.a12, h.a13, h.a23, h.below.setCell (Nat.le_refl _) _, by simpa [World.setCell] using h.big⟩
theorem Blk4.grown {g : Nat} {a b c d : Value} (Y : Blk4 w g a b c d) {row : Option Nat} (hg : w.grownBy w' row) (hr : some g ≠ row) : Blk4 w' g a b c d := by
  obtain ⟨t, Y⟩ := Y
  exact ⟨t, by rw [hg.block g (Array.getElem?_eq_some_iff.1 Y).1 hr]; exact Y⟩
theorem Blk4.set2 {g : Nat} {a b c d : Value} (Y : Blk4 w g a b c d) (x : Value) : Blk4 (w.setCell ⟨g, 2, none⟩ x) g a b x d := by
  obtain ⟨t, Y⟩ := Y
  exact ⟨t, by simp [World.setCell, Array.getElem?_modify, Y]⟩
theorem Blk4.set3 {g : Nat} {a b c d : Value} (Y : Blk4 w g a b c d) (x : Value) : Blk4 (w.setCell ⟨g, 3, none⟩ x) g a b c x := by
  obtain ⟨t, Y⟩ := Y
  exact ⟨t, by simp [World.setCell, Array.getElem?_modify, Y]⟩
theorem Blk4.set01 {g : Nat} {a b c d : Value} (Y : Blk4 w g a b c d) (x y : Value) : Blk4 ((w.setCell ⟨g, 0, none⟩ x).setCell ⟨g, 1, none⟩ y) g x y c d := by
  obtain ⟨t, Y⟩ := Y
  exact ⟨t, by simp [World.setCell, Array.getElem?_modify, Y]⟩
theorem P3.start (w0 : World) (T1 T2 T3 : TypeId) (o : Obj) : P3 w0 ⟨T1, 2, .slice none 0 0, 0, []⟩ ⟨T2, 4, .slice none 0 0, 0, []⟩ ⟨T3, 1, .slice none 0 0, 0, []⟩ (w0.alloc o) :=
  ⟨own_nil _ _ _ _, own_nil _ _ _ _, own_nil _ _ _ _, (fun g hg => by cases hg), (fun g hg => by cases hg), (fun g hg => by cases hg), below1 _ _, by simp⟩
theorem ne_own {w : World} {n size g : Nat} {e : TypeId} {v : Value} {xs : List Value} (h : w.ownsRow (g + 1) e size v n xs) : some g ≠ v.ownBlock := fun e => by
  have := own_ge h g e.symm
  omega
end

section
variable {P : Program} {w : World}
/-- append(v, row...) where v is owned and the row may be nil. -/
theorem wpList_append_row {ops : Array Oper} {rest : List Oper} {o : Oper} {a : Act} {Q : Exit → Act → World → Prop} (hgd : o.guard = none) (s x : Operand) (t : TypeId)
    (ho : o.op = .call { callee := .builtin .append, args := #[s, x], argTypes := #[t, t] })
    (base : Nat) (e : TypeId) (i : TypeInfo) (z : Value) (size bytes : Nat) (ht : P.underlying t = some (.slice e)) (hi : P.info? e = some i) (hz : i.zero = some z)
    (hsize : i.size = size) (hby : i.bytes = bytes) (hzs : z.cells.size = size) (hsz : 0 < size)
    (v : Value) (n : Nat) (xs : List Value) (hs : a.eval s = v) (hown : w.ownsRow base e size v n xs)
    (K : Option Addr) (m c : Nat) (news : List Value) (hx : a.eval x = .slice K m c) (hl : news.length = m * size) (hK : K = none → m = 0) (hnews : ∀ ad, K = some ad → ∀ j u, news[j]? = some u → w.cell? (ad.add j) = some u) (h1 : ∀ u ∈ news, u.oneCell' = true)
    (h63 : n + m ≤ maxLen) (hbytes : (n + m) * bytes ≤ 140737488355328) (hbase : base ≤ w.heap.size)
    (h : ∀ v' w', w'.ownsRow base e size v' (n + m) (xs ++ news) → w.grownBy w' v.ownBlock → (v'.ownBlock = v.ownBlock ∨ v'.ownBlock = some w.heap.size) → wpList P ops Q rest (a.put o.dst v') w') : wpList P ops Q (o :: rest) a w := by
  cases K with
  | some ad => exact wpList_append_own_at w hgd s x t ho base e i z size bytes ht hi hz hsize hby hzs hsz v n xs hs hown ad m c news hx hl (hnews ad rfl) h1 h63 hbytes hbase (fun v' w' h1 h2 _ h3 => h v' w' h1 h2 h3)
  | none =>
    have hm := hK rfl
    subst hm
    have hn0 : news = [] := List.eq_nil_of_length_eq_zero (by omega)
    subst hn0
    refine wpList_plain hgd fun _ hK' => ?_
    have hrun := append_nil_run w base t o.type e i size ht hi v n xs hown c
    unfold Oper.wp execOp
    simp only [ho, resolve, invoke, builtin, Sem.run_bind, Sem.run_pure, Result.andThen_ok, List.map_toArray, List.map_cons, List.map_nil, hs, hx, hrun]
    exact hK' _ _ (h v w (by simpa using hown) (World.grownBy.refl w _) (.inl rfl))
end
theorem rds_news {w : World} {K : Option Addr} {l : List Rd} (h : RdsAt w K l) : ∀ ad, K = some ad → ∀ j u, (rdCells l)[j]? = some u → w.cell? (ad.add j) = some u := by
  rintro ad rfl j u hu
  have hj : j < l.length * 2 := by
    rw [← rdCells_len]
    exact (List.getElem?_eq_some_iff.1 hu).1
  obtain ⟨i, r, hr, rfl⟩ : ∃ i r, r < 2 ∧ j = i * 2 + r := ⟨j / 2, j % 2, by omega, by omega⟩
  have hi : i < l.length := by omega
  obtain ⟨b, off, e, h0, h1⟩ := h i hi
  obtain ⟨g0, g1⟩ := rdCells_at l i hi
  cases e
  match r, hr with
  | 0, _ => rw [Go.WideShapes.add_plain, Nat.add_zero, h0, ← hu]; exact g0.symm
  | 1, _ => rw [Go.WideShapes.add_plain, ← Nat.add_assoc, h1, ← hu]; exact g1.symm
theorem wrs_news {w : World} {K : Option Addr} {l : List Wr} (h : WrsAt w K l) : ∀ ad, K = some ad → ∀ j u, (wrCells l)[j]? = some u → w.cell? (ad.add j) = some u := by
  rintro ad rfl j u hu
  have hj : j < l.length * 4 := by
    rw [← wrCells_len]
    exact (List.getElem?_eq_some_iff.1 hu).1
  obtain ⟨i, r, hr, rfl⟩ : ∃ i r, r < 4 ∧ j = i * 4 + r := ⟨j / 4, j % 4, by omega, by omega⟩
  have hi : i < l.length := by omega
  obtain ⟨b, off, e, h0, h1, h2, h3⟩ := h i hi
  obtain ⟨g0, g1, g2, g3⟩ := wrCells_at l i hi
  cases e
  match r, hr with
  | 0, _ => rw [Go.WideShapes.add_plain, Nat.add_zero, h0, ← hu]; exact g0.symm
  | 1, _ => rw [Go.WideShapes.add_plain, ← Nat.add_assoc, h1, ← hu]; exact g1.symm
  | 2, _ => rw [Go.WideShapes.add_plain, ← Nat.add_assoc, h2, ← hu]; exact g2.symm
  | 3, _ => rw [Go.WideShapes.add_plain, ← Nat.add_assoc, h3, ← hu]; exact g3.symm
theorem rds_none {w : World} {K : Option Addr} {l : List Rd} (h : RdsAt w K l) : K = none → l.length = 0 := by
  rintro rfl
  cases hl : l.length with
  | zero => rfl
  | succ n => obtain ⟨b, off, e, _⟩ := h 0 (by omega); cases e
theorem wrs_none {w : World} {K : Option Addr} {l : List Wr} (h : WrsAt w K l) : K = none → l.length = 0 := by
  rintro rfl
  cases hl : l.length with
  | zero => rfl
  | succ n => obtain ⟨b, off, e, _⟩ := h 0 (by omega); cases e
theorem rds_one : ∀ (l : List Rd), ∀ u ∈ rdCells l, u.oneCell' = true := fun l u hu => by
  obtain ⟨x, _, hx⟩ := List.mem_flatMap.1 hu
  exact one_cell_rd u hx
theorem wrs_one : ∀ (l : List Wr), ∀ u ∈ wrCells l, u.oneCell' = true := fun l u hu => by
  obtain ⟨x, _, hx⟩ := List.mem_flatMap.1 hu
  exact one_cell_wr u hx
/-- A fresh row past an append to another one. -/
theorem WrsAt.grown {w w' : World} {K : Option Addr} {l : List Wr} {B : Nat} (hK : WrsAt w K l) (hF : FreshP B K) {row : Option Nat} (hr : ∀ g, row = some g → g < B) (hg : w.grownBy w' row) : WrsAt w' K l := by
  intro i hi
  obtain ⟨b, off, e, h0, h1, h2, h3⟩ := hK i hi
  have hb : some b ≠ row := fun e' => by
    have := hF _ e
    have := hr b e'.symm
    simp at *; omega
  have hbl := hg.block b (World.block_lt_of_cell? w _ h0) hb
  exact ⟨b, off, e, (World.cell?_of_block hbl).trans h0, (World.cell?_of_block hbl).trans h1, (World.cell?_of_block hbl).trans h2, (World.cell?_of_block hbl).trans h3⟩
theorem WrsAt.set {w : World} {K : Option Addr} {l : List Wr} {B g : Nat} (hK : WrsAt w K l) (hF : FreshP B K) (hg : g < B) (o : Nat) (v : Value) : WrsAt (w.setCell ⟨g, o, none⟩ v) K l := by
  intro i hi
  obtain ⟨b, off, e, h0, h1, h2, h3⟩ := hK i hi
  have hb : b ≠ g := fun e' => by
    have := hF _ e
    simp at this; omega
  have hbl := Below.heap_setCell w ⟨g, o, none⟩ v b hb
  exact ⟨b, off, e, (World.cell?_of_block hbl).trans h0, (World.cell?_of_block hbl).trans h1, (World.cell?_of_block hbl).trans h2, (World.cell?_of_block hbl).trans h3⟩
end Go.Proofs.YthpdladfcjcjiaaDoor
