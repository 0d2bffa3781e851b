/- Whole structs, loaded and stored by one law each; a message's block, cell by cell. -/
import Derived.Test.YtjgloipgnnigmaaGreatDoorMsg10
import Derived.Laws.Rows
import Derived.Laws.Tables
import Derived.BigFrame
namespace Go.Proofs.YtjgloipgnnigmaaGreatDoor
open Go.RowKit

section
variable {P : Program}
theorem run_loadVar_cells (w : World) (ad : Addr) (ty : TypeId) (cs : Array Value) (d : TypeDesc) (hc : CellRow w ad cs)
    (hu : P.underlying ty = some d) (hd : (match d with | .struct _ | .array _ _ => true | _ => false) = true) (hi : (P.info? ty).map (·.size) = some cs.size) :
    (loadVar ty ad).run P w = .ok (.agg cs) w := by
  have hl : (loadCells ad cs.toList.length).run P w = .ok cs.toList.toArray w :=
    run_loadCells_list (P := P) w ad cs.toList (fun j v hv => hc j v (by simpa using hv))
  cases hq : P.info? ty with
  | none => simp [hq] at hi
  | some i =>
    have hs : i.size = cs.size := by simpa [hq] using hi
    have hagg : (isAgg ty).run P w = .ok true w := by
      unfold isAgg
      rw [Sem.run_bind, run_underlying hu w]
      cases d <;> simp_all
    simp only [Array.length_toList, Array.toArray_toList] at hl
    simp [loadVar, Sem.run_bind, hagg, sizeOf, typeInfo, hq, hs, hl]
theorem wp_load_cells {o : Oper} {a : Act} {w : World} {K : Act → World → Prop} {Q : Exit → Act → World → Prop} (ty : TypeId) (x : Operand) (ho : o.op = .load ty x)
    (ad : Addr) (hx : a.eval x = .pointer (some ad)) (cs : Array Value) (d : TypeDesc) (hc : CellRow w ad cs)
    (hu : P.underlying ty = some d) (hd : (match d with | .struct _ | .array _ _ => true | _ => false) = true) (hi : (P.info? ty).map (·.size) = some cs.size)
    (h : K (a.put o.dst (.agg cs)) w) : o.wp P a w K Q := by
  unfold Oper.wp execOp
  simp only [ho, hx, Instr.loadAt, Instr.sureAddr, Sem.run_bind, Sem.run_pure, Result.andThen_ok, run_loadVar_cells w ad ty cs d hc hu hd hi]
  exact h
theorem wpList_load_cells {ops : Array Oper} {rest : List Oper} {o : Oper} {a : Act} {w : World} {Q : Exit → Act → World → Prop} (hgd : Region.wanted o (yielded ops a.tmps) = true) (ty : TypeId) (x : Operand) (ho : o.op = .load ty x)
    (ad : Addr) (hx : a.eval x = .pointer (some ad)) (cs : Array Value) (d : TypeDesc) (hc : CellRow w ad cs)
    (hu : P.underlying ty = some d) (hd : (match d with | .struct _ | .array _ _ => true | _ => false) = true) (hi : (P.info? ty).map (·.size) = some cs.size)
    (h : wpList P ops Q rest (a.put o.dst (.agg cs)) w) : wpList P ops Q (o :: rest) a w :=
  BigFrame.wpList_want hgd fun _ hK => wp_load_cells ty x ho ad hx cs d hc hu hd hi (hK _ _ h)
end
theorem fold_set (cs : List Value) : ∀ (i : Nat) (base : Array Value), i + cs.length ≤ base.size →
    ((cs.zipIdx i).foldl (fun (a : Array Value) (p : Value × Nat) => a.setIfInBounds (0 + p.2) p.1) base).toList = base.toList.take i ++ cs ++ base.toList.drop (i + cs.length) := by
  induction cs with
  | nil => intro i base _; simp
  | cons c cs ih =>
    intro i base h
    simp only [List.length_cons] at h
    rw [List.zipIdx_cons, List.foldl_cons, ih (i + 1) _ (by simp; omega)]
    simp only [Array.toList_setIfInBounds, Nat.zero_add, List.length_cons]
    apply List.ext_getElem?
    intro k
    simp only [List.getElem?_append, List.length_append, List.length_take, List.length_set, Array.length_toList, List.getElem?_take, List.getElem?_drop, List.getElem?_set, List.length_cons]
    by_cases h1 : k < i
    · simp [h1, show k < i + 1 by omega, show min (i + 1) base.size = i + 1 by omega, show min i base.size = i by omega, show i ≠ k by omega, show k < i + 1 + cs.length by omega, show k < i + (cs.length + 1) by omega]
    · by_cases h2 : k = i
      · subst h2
        simp [show min (k + 1) base.size = k + 1 by omega, show min k base.size = k by omega, show k < base.size by omega, show k < k + 1 + cs.length by omega]
      · by_cases h3 : k < i + 1 + cs.length
        · simp [h1, show ¬ k < i + 1 by omega, show min (i + 1) base.size = i + 1 by omega, show min i base.size = i by omega, h3, show k < i + (cs.length + 1) by omega, show k - i = (k - (i + 1)) + 1 by omega]
        · simp [show min (i + 1) base.size = i + 1 by omega, show min i base.size = i by omega, h3, show ¬ k < i + (cs.length + 1) by omega, show i ≠ i + 1 + cs.length + (k - (i + 1 + cs.length)) by omega]
          congr 1; omega
theorem fold_all (cs base : Array Value) (h : base.size = cs.size) : cs.zipIdx.foldl (fun (a : Array Value) (p : Value × Nat) => a.setIfInBounds (0 + p.2) p.1) base = cs := by
  have := fold_set cs.toList 0 base (by simp; omega)
  apply Array.ext'
  rw [← Array.foldl_toList, Array.toList_zipIdx, this]
  simp [h]
section
variable {P : Program}
theorem run_buildSlice1 (w : World) (t elem : TypeId) (v : Value) (cs : Array Value) (z : Value) (hv : v.cells = cs) (hu : P.underlying t = some (.slice elem)) (hi : (P.info? elem).map (·.size) = some cs.size) (h0 : 0 < cs.size) (h24 : cs.size ≤ 16777216)
    (hz : (zeroValue elem).run P w = .ok z w) :
    (Instr.buildSlice t 1 #[(0, v)]).run P w = .ok (.slice (some ⟨w.heap.size, 0, none⟩) 1 1) (w.alloc (.cells cs elem)) := by
  cases hq : P.info? elem with
  | none => simp [hq] at hi
  | some i =>
    have hs : i.size = cs.size := by simpa [hq] using hi
    have hf : Instr.fill (fun k => some (k * cs.size, cs.size)) ((Array.range cs.size).map (z.cells[· % z.cells.size]!)) [(0, v)] = some cs := by
      simp only [Instr.fill, hv, Nat.zero_mul, Nat.zero_add]
      rw [if_neg (by simp)]
      have := fold_all cs ((Array.range cs.size).map (z.cells[· % z.cells.size]!)) (by simp)
      simpa using this
    have h1 : ¬ (1 * cs.size > 2 ^ 24) := by omega
    have h2 : ¬ (cs.size = 0) := by omega
    simp [Instr.buildSlice, Sem.run_bind, run_underlying hu, sizeOf, typeInfo, hq, hs, h2, hz, hf, newRow, show ¬ (16777216 < cs.size) by omega]
theorem wp_buildSlice1 {o : Oper} {a : Act} {w : World} {K : Act → World → Prop} {Q : Exit → Act → World → Prop} (t elem : TypeId) (x : Operand) (ho : o.op = .buildSlice t 1 #[(0, x)])
    (cs : Array Value) (hx : a.eval x = .agg cs) (z : Value) (hu : P.underlying t = some (.slice elem)) (hi : (P.info? elem).map (·.size) = some cs.size) (h0 : 0 < cs.size) (h24 : cs.size ≤ 16777216) (hz : (zeroValue elem).run P w = .ok z w)
    (h : K (a.put o.dst (.slice (some ⟨w.heap.size, 0, none⟩) 1 1)) (w.alloc (.cells cs elem))) : o.wp P a w K Q := by
  unfold Oper.wp execOp
  simp only [ho, List.map_toArray, List.map_cons, List.map_nil, hx, Sem.run_bind, run_buildSlice1 w t elem (.agg cs) cs z rfl hu hi h0 h24 hz, Result.andThen_ok]
  exact h
theorem wpList_buildSlice1 {ops : Array Oper} {rest : List Oper} {o : Oper} {a : Act} {w : World} {Q : Exit → Act → World → Prop} (hgd : Region.wanted o (yielded ops a.tmps) = true) (t elem : TypeId) (x : Operand) (ho : o.op = .buildSlice t 1 #[(0, x)])
    (cs : Array Value) (hx : a.eval x = .agg cs) (z : Value) (hu : P.underlying t = some (.slice elem)) (hi : (P.info? elem).map (·.size) = some cs.size) (h0 : 0 < cs.size) (h24 : cs.size ≤ 16777216) (hz : (zeroValue elem).run P w = .ok z w)
    (h : wpList P ops Q rest (a.put o.dst (.slice (some ⟨w.heap.size, 0, none⟩) 1 1)) (w.alloc (.cells cs elem))) : wpList P ops Q (o :: rest) a w :=
  BigFrame.wpList_want hgd fun _ hK => wp_buildSlice1 t elem x ho cs hx z hu hi h0 h24 hz (hK _ _ h)
end
theorem row_of_obj {w : World} {g : Nat} {cs : Array Value} {t : TypeId} (h : w.heap[g]? = some (.cells cs t (0, 0))) : CellRow w ⟨g, 0, none⟩ cs := fun j v hv => by
  rw [Go.WideShapes.add_plain, Nat.zero_add, cell_of_row w g j cs t _ h]; exact hv
theorem below_setRow {B : Nat} {a w : World} (h : Below B a w) {g : Nat} (hg : B ≤ g) (cs : Array Value) : Below B a (w.setRow g cs) :=
  h.trans ⟨rfl, rfl, rfl, by simp, fun k hk => setRow_other w g k cs (by omega)⟩
/-- A new block, filled anew: the world behind it under a name. -/
theorem filled (w : World) (old new : Array Value) (t : TypeId) : ∃ W : World, (w.alloc (.cells old t)).setRow w.heap.size new = W ∧ Below w.heap.size w W ∧ W.heap.size = w.heap.size + 1 ∧ W.heap[w.heap.size]? = some (.cells new t (0, 0)) :=
  ⟨_, rfl, below_setRow (below1 _ _) (Nat.le_refl _) _, by simp, setRow_heap _ _ _ _ _ _ (heap_alloc_new w _)⟩
theorem boxed (w : World) (cs : Array Value) (t : TypeId) : ∃ W : World, w.alloc (.cells cs t) = W ∧ Below w.heap.size w W ∧ W.heap.size = w.heap.size + 1 ∧ W.heap[w.heap.size]? = some (.cells cs t (0, 0)) :=
  ⟨_, rfl, below1 _ _, by simp, heap_alloc_new w _⟩
/-- A struct stored into a block that was just made: the world behind it under a name of its own. -/
theorem wpList_store_new {P : Program} {ops : Array Oper} {rest : List Oper} {o : Oper} {a : Act} {w : World} {Q : Exit → Act → World → Prop} (hgd : o.guard = none) (ty : TypeId) (x y : Operand) (ho : o.op = .store ty x y)
    (w0 : World) (cells : Array Value) (t : TypeId) {old : Array Value} (hw : w = w0.alloc (.cells old t)) (hx : a.eval x = .pointer (some ⟨w0.heap.size, 0, none⟩)) (hy : a.eval y = .agg cells)
    (hi : (P.info? ty).map (·.size) = some cells.size) (hold : old.size = cells.size) (h1 : cells.all (·.oneCell') = true)
    (h : ∀ W, Below w0.heap.size w0 W → W.heap.size = w0.heap.size + 1 → W.heap[w0.heap.size]? = some (.cells cells t (0, 0)) → wpList P ops Q rest (a.put o.dst undef) W) : wpList P ops Q (o :: rest) a w := by
  subst hw
  refine wpList_store_row hgd ty x y ho w0.heap.size cells hx hy t old (heap_alloc_new w0 _) hi hold h1 ?_
  obtain ⟨W, eW, hb, hs, hr⟩ := filled w0 old cells t
  rw [eW]
  exact h W hb hs hr
theorem obj_keep {w w' : World} {g : Nat} {o : Obj} (h : w.heap[g]? = some o) (hb : Below w.heap.size w w') : w'.heap[g]? = some o := by
  rw [hb.block g (Array.getElem?_eq_some_iff.1 h).1]; exact h
theorem msg_size (m : MsgV) : m.vs.size = 34 := rfl
theorem op_size (o : OpX) : o.vs.size = 41 := rfl
theorem msg_one (m : MsgV) : m.vs.all (·.oneCell') = true := by simp [MsgV.vs, Value.oneCell']
theorem op_one (o : OpX) : o.vs.all (·.oneCell') = true := by simp [OpX.vs, Value.oneCell']
theorem msg_cs {w : World} {g : Nat} {m : MsgV} {t : TypeId} (h : w.heap[g]? = some (.cells m.vs t (0, 0))) :
    w.cell? ⟨g, 0, none⟩ = some (.int .i64 m.kind) ∧ w.cell? ⟨g, 1, none⟩ = some (.int .u32 (m.br : Int)) ∧ w.cell? ⟨g, 2, none⟩ = some (.int .i64 m.bn) ∧ w.cell? ⟨g, 3, none⟩ = some (.int .i64 m.slot) ∧ w.cell? ⟨g, 4, none⟩ = some (.bool m.has) ∧ w.cell? ⟨g, 5, none⟩ = some (.int .u32 (m.vr : Int)) ∧ w.cell? ⟨g, 6, none⟩ = some (.int .i64 m.vn) ∧ w.cell? ⟨g, 7, none⟩ = some (.int .i64 m.ck) ∧ w.cell? ⟨g, 8, none⟩ = some (.int .i64 m.ct.ses) ∧ w.cell? ⟨g, 9, none⟩ = some (.int .i64 m.ct.seq) ∧ w.cell? ⟨g, 10, none⟩ = some (.slice m.cA m.ct.rds.length m.cca) ∧ w.cell? ⟨g, 11, none⟩ = some (.slice m.cB m.ct.wrs.length m.ccb) ∧ w.cell? ⟨g, 12, none⟩ = some (.int .i64 m.cis) ∧ w.cell? ⟨g, 13, none⟩ = some (.int .i64 m.ciq) ∧ w.cell? ⟨g, 14, none⟩ = some (.int .i64 m.cg) ∧ w.cell? ⟨g, 15, none⟩ = some (.int .u64 (m.cst : Int)) ∧ w.cell? ⟨g, 16, none⟩ = some (.bool m.cy) ∧ w.cell? ⟨g, 17, none⟩ = some (.int .i64 m.t.ses) ∧ w.cell? ⟨g, 18, none⟩ = some (.int .i64 m.t.seq) ∧ w.cell? ⟨g, 19, none⟩ = some (.slice m.A m.t.rds.length m.ca) ∧ w.cell? ⟨g, 20, none⟩ = some (.slice m.B m.t.wrs.length m.cb) ∧ w.cell? ⟨g, 21, none⟩ = some (.int .i64 m.ids) ∧ w.cell? ⟨g, 22, none⟩ = some (.int .i64 m.idq) ∧ w.cell? ⟨g, 23, none⟩ = some (.int .i64 m.g) ∧ w.cell? ⟨g, 24, none⟩ = some (.int .u64 (m.st : Int)) ∧ w.cell? ⟨g, 25, none⟩ = some (.bool m.y) ∧ w.cell? ⟨g, 26, none⟩ = some (.int .i64 m.num) ∧ w.cell? ⟨g, 27, none⟩ = some (.string m.key) ∧ w.cell? ⟨g, 28, none⟩ = some (.int .u64 (m.ver : Int)) ∧ w.cell? ⟨g, 29, none⟩ = some (.int .i64 m.val.kind) ∧ w.cell? ⟨g, 30, none⟩ = some (.int .u64 (m.val.bits : Int)) ∧ w.cell? ⟨g, 31, none⟩ = some (.string m.val.text) ∧ w.cell? ⟨g, 32, none⟩ = some (.int .i64 m.err) ∧ w.cell? ⟨g, 33, none⟩ = some (.slice m.D m.data.length m.cd) := by
  refine ⟨?_, ?_, ?_, ?_, ?_, ?_, ?_, ?_, ?_, ?_, ?_, ?_, ?_, ?_, ?_, ?_, ?_, ?_, ?_, ?_, ?_, ?_, ?_, ?_, ?_, ?_, ?_, ?_, ?_, ?_, ?_, ?_, ?_, ?_⟩ <;> (rw [cell_of_row w g _ _ _ _ h]; rfl)
theorem op_cs {w : World} {g : Nat} {o : OpX} {t : TypeId} (h : w.heap[g]? = some (.cells o.vs t (0, 0))) :
    w.cell? ⟨g, 0, none⟩ = some (.int .i64 o.kind) ∧ w.cell? ⟨g, 1, none⟩ = some (.string o.key) ∧ w.cell? ⟨g, 2, none⟩ = some (.int .i64 o.val.kind) ∧ w.cell? ⟨g, 3, none⟩ = some (.int .u64 (o.val.bits : Int)) ∧ w.cell? ⟨g, 4, none⟩ = some (.string o.val.text) ∧ w.cell? ⟨g, 5, none⟩ = some (.slice o.K o.keys.length o.ck) ∧ w.cell? ⟨g, 40, none⟩ = some (.int .i64 o.num) ∧ CellRow w ⟨g, 6, none⟩ o.m.vs := by
  refine ⟨?_, ?_, ?_, ?_, ?_, ?_, ?_, ?_⟩
  all_goals first | (rw [cell_of_row w g _ _ _ _ h]; rfl) | skip
  intro j v hv
  have hj : j < 34 := by rw [← msg_size o.m]; exact (Array.getElem?_eq_some_iff.1 hv).1
  rw [Go.WideShapes.add_plain, cell_of_row w g _ _ _ _ h]
  have : o.vs.toList = (o.vs.toList.take 6) ++ (o.m.vs.toList ++ [.int .i64 o.num]) := rfl
  rw [← Array.getElem?_toList, this, List.getElem?_append_right (by simp [op_size]), List.getElem?_append_left (by simp [op_size, msg_size]; omega)]
  simp only [List.length_take, Array.length_toList, op_size]
  rw [show 6 + j - min 6 41 = j by omega, Array.getElem?_toList]
  exact hv
end Go.Proofs.YtjgloipgnnigmaaGreatDoor
