/- A transaction's memory while it is read. -/
import Derived.Test.YtfblemdpimbciaaDoorTakeId08
import Derived.Test.YtfblemdpimbciaaDoorRowsT
import Derived.Test.YtfblemdpimbciaaDoorReadyAp
namespace Go.Proofs.YtfblemdpimbciaaDoor
open Go.RowKit Go.Shelf

theorem info_rd8 : (Tryd.prog.info? 60).map (fun i => (i.zero, i.size, i.bytes)) = some (some (.agg #[.string ByteArray.empty, .int .u64 0]), 2, 24) := by kernel_rfl
theorem info_wr8 : (Tryd.prog.info? 64).map (fun i => (i.zero, i.size, i.bytes)) = some (some (.agg #[.string ByteArray.empty, .int .i64 0, .int .u64 0, .string ByteArray.empty]), 4, 48) := by kernel_rfl
theorem one_cell_rd8 {s : ByteArray} {n : Int} : ∀ u ∈ [Value.string s, .int .u64 n], u.oneCell' = true := fun u hu => by
  simp only [List.mem_cons, List.not_mem_nil, or_false] at hu
  rcases hu with rfl | rfl <;> rfl
theorem one_cell_wr8 {s t : ByteArray} {z n : Int} : ∀ u ∈ [Value.string s, .int .i64 z, .int .u64 n, .string t], u.oneCell' = true := fun u hu => by
  simp only [List.mem_cons, List.not_mem_nil, or_false] at hu
  rcases hu with rfl | rfl | rfl | rfl <;> rfl
structure TkAt (w wr : World) (p q g : Nat) (a b : Int) (vr vw : Value) (rs : List Rd) (ws : List Wr) : Prop where
  zq : wr.heap[q]? = some (.cells #[.int .i64 0, .int .i64 0, .slice none 0 0, .slice none 0 0] 27 (0, 0))
  zg : wr.heap[g]? = some (.cells #[.int .i64 a, .int .i64 b, vr, vw] 27 (0, 0))
  rr : wr.ownsRow (g + 1) 60 2 vr rs.length (rdCells rs)
  rw_ : wr.ownsRow (g + 1) 64 4 vw ws.length (wrCells ws)
  ap : ∀ k, vr.ownBlock = some k → vw.ownBlock ≠ some k
  out : OutP p w wr
  pq : p < q
  qg : q < g
  wq : w.heap.size ≤ q
section
variable {w wr w2 : World} {p q g : Nat} {a b : Int} {vr vw : Value} {rs : List Rd} {ws : List Wr}
theorem mkc4 {w : World} {g : Nat} {u v x y : Value} {t : TypeId} (h : w.heap[g]? = some (.cells #[u, v, x, y] t (0, 0))) : w.cell? ⟨g, 0, none⟩ = some u ∧ w.cell? ⟨g, 1, none⟩ = some v ∧ w.cell? ⟨g, 2, none⟩ = some x ∧ w.cell? ⟨g, 3, none⟩ = some y := by
  refine ⟨?_, ?_, ?_, ?_⟩ <;> (rw [cell_of_row w g _ _ _ _ h]; rfl)
theorem TkAt.call (h : TkAt w wr p q g a b vr vw rs ws) (ho : Out (fun k => k = p) wr w2) : TkAt w w2 p q g a b vr vw rs ws where
  zq := ho.obj h.zq (by have := h.pq; omega)
  zg := ho.obj h.zg (by have := h.pq; have := h.qg; omega)
  rr := ho.row h.rr (fun k hk e => by have := (h.rr.lt k hk).1; have := h.pq; have := h.qg; omega)
  rw_ := ho.row h.rw_ (fun k hk e => by have := (h.rw_.lt k hk).1; have := h.pq; have := h.qg; omega)
  ap := h.ap
  out := Out.up3 h.out ho
  pq := h.pq
  qg := h.qg
  wq := h.wq
theorem TkAt.later (h : TkAt w wr p q g a b vr vw rs ws) (hb : Below wr.heap.size wr w2) : TkAt w w2 p q g a b vr vw rs ws where
  zq := obj_later' h.zq hb
  zg := obj_later' h.zg hb
  rr := own_keep h.rr hb
  rw_ := own_keep h.rw_ hb
  ap := h.ap
  out := Out.up4 h.out hb
  pq := h.pq
  qg := h.qg
  wq := h.wq
theorem TkAt.glt (h : TkAt w wr p q g a b vr vw rs ws) : g + 1 ≤ wr.heap.size := (Array.getElem?_eq_some_iff.1 h.zg).1
/-- A read is laid behind. -/
theorem TkAt.pushR (h : TkAt w wr p q g a b vr vw rs ws) {v' : Value} {x : Rd} (hr : w2.ownsRow (g + 1) 60 2 v' (rs.length + 1) (rdCells rs ++ [.string x.key, .int .u64 (x.ver : Int)])) (hg : wr.grownBy w2 vr.ownBlock) (hv : v'.ownBlock = vr.ownBlock ∨ v'.ownBlock = some wr.heap.size) :
    TkAt w (w2.setCell ⟨g, 2, none⟩ v') p q g a b v' vw (rs ++ [x]) ws := by
  have ho := Out.of_grown hg (O := fun k => vr.ownBlock = some k) (fun _ e => e)
  have hge : ∀ k, vr.ownBlock = some k → g + 1 ≤ k := fun k hk => (h.rr.lt k hk).1
  have hs := out_cell w2 g 2 v'
  have hpq := h.pq
  have hqg := h.qg
  have hwq := h.wq
  have z1 := ho.obj h.zg (fun e => by have := hge g e; omega)
  have z2 := obj_set (j := 2) v' z1
  have r2 : w2.ownsRow (g + 1) 64 4 vw ws.length (wrCells ws) := ho.row h.rw_ (fun k hk e => h.ap k e hk)
  have r1 : w2.ownsRow (g + 1) 60 2 v' (rs ++ [x]).length (rdCells (rs ++ [x])) := by
    rw [rdCells_snoc, List.length_append]
    exact hr
  have hgw := h.glt
  refine ⟨hs.obj (ho.obj h.zq (fun e => by have := hge q e; omega)) (by omega), by simpa using z2, hs.row r1 (fun k hk e => by have := (hr.lt k hk).1; omega), hs.row r2 (fun k hk e => by have := (r2.lt k hk).1; omega), fun k hk hk2 => ?_, ?_, hpq, hqg, hwq⟩
  · rcases hv with e | e
    · exact h.ap k (e.symm.trans hk) hk2
    · have h3 : wr.heap.size = k := by rw [e] at hk; injection hk
      have := (h.rw_.lt k hk2).2
      omega
  · exact (h.out.trans' (ho.mono fun k e => .inr (by have := hge k e; omega))).trans' (hs.mono fun k e => .inr (by omega))
theorem TkAt.pushW (h : TkAt w wr p q g a b vr vw rs ws) {v' : Value} {x : Wr} (hr : w2.ownsRow (g + 1) 64 4 v' (ws.length + 1) (wrCells ws ++ [.string x.key, .int .i64 x.val.kind, .int .u64 (x.val.bits : Int), .string x.val.text])) (hg : wr.grownBy w2 vw.ownBlock) (hv : v'.ownBlock = vw.ownBlock ∨ v'.ownBlock = some wr.heap.size) :
    TkAt w (w2.setCell ⟨g, 3, none⟩ v') p q g a b vr v' rs (ws ++ [x]) := by
  have ho := Out.of_grown hg (O := fun k => vw.ownBlock = some k) (fun _ e => e)
  have hge : ∀ k, vw.ownBlock = some k → g + 1 ≤ k := fun k hk => (h.rw_.lt k hk).1
  have hs := out_cell w2 g 3 v'
  have hpq := h.pq
  have hqg := h.qg
  have hwq := h.wq
  have z1 := ho.obj h.zg (fun e => by have := hge g e; omega)
  have z2 := obj_set (j := 3) v' z1
  have r2 : w2.ownsRow (g + 1) 60 2 vr rs.length (rdCells rs) := ho.row h.rr (fun k hk e => h.ap k hk e)
  have r1 : w2.ownsRow (g + 1) 64 4 v' (ws ++ [x]).length (wrCells (ws ++ [x])) := by
    rw [wrCells_snoc, List.length_append]
    exact hr
  have hgw := h.glt
  refine ⟨hs.obj (ho.obj h.zq (fun e => by have := hge q e; omega)) (by omega), by simpa using z2, hs.row r2 (fun k hk e => by have := (r2.lt k hk).1; omega), hs.row r1 (fun k hk e => by have := (hr.lt k hk).1; omega), fun k hk hk2 => ?_, ?_, hpq, hqg, hwq⟩
  · rcases hv with e | e
    · exact h.ap k hk (e.symm.trans hk2)
    · have h3 : wr.heap.size = k := by rw [e] at hk2; injection hk2
      have := (h.rr.lt k hk).2
      omega
  · exact (h.out.trans' (ho.mono fun k e => .inr (by have := hge k e; omega))).trans' (hs.mono fun k e => .inr (by omega))
end
/-- How many reads, and writes, lie in a block. -/
def lenAt (w : World) (g j : Nat) : Nat := match w.cell? ⟨g, j, none⟩ with | some (.slice _ n _) => n | _ => 0
theorem lenAt_of {w : World} {g j n c : Nat} {A : Option Addr} (h : w.cell? ⟨g, j, none⟩ = some (.slice A n c)) : lenAt w g j = n := by rw [lenAt, h]
theorem TkAt.lenR {w wr : World} {p q g : Nat} {a b : Int} {vr vw : Value} {rs : List Rd} {ws : List Wr} (h : TkAt w wr p q g a b vr vw rs ws) : lenAt wr g 2 = rs.length := by
  obtain ⟨A, c, e, _⟩ := own_rds h.rr
  have := (mkc4 h.zg).2.2.1
  rw [e] at this
  exact lenAt_of this
theorem TkAt.lenW {w wr : World} {p q g : Nat} {a b : Int} {vr vw : Value} {rs : List Rd} {ws : List Wr} (h : TkAt w wr p q g a b vr vw rs ws) : lenAt wr g 3 = ws.length := by
  obtain ⟨A, c, e, _⟩ := own_wrs h.rw_
  have := (mkc4 h.zg).2.2.2
  rw [e] at this
  exact lenAt_of this
def TxPost (w : World) (p : Nat) (R : World → Prop) (t : Tx) (e : Ending) (w' : World) : Prop :=
  ∃ A B ca cb, e = .returned (txV t A B ca cb) ∧ TxAt w' t A B ∧ R w' ∧ Out (fun k => k = p) w w'
theorem takeRs_keys (s : RS) : ∀ n, ∀ x ∈ (takeRs s n).1, x.key.size ≤ 12
  | 0, x, hx => by cases hx
  | n + 1, x, hx => by
    rw [takeRs] at hx
    rcases List.mem_append.1 hx with hx | hx
    · exact takeRs_keys s n x hx
    · rw [List.mem_singleton] at hx
      subst hx
      exact takeT_size _ 12
theorem takeWs_keys (s : RS) : ∀ n, ∀ x ∈ (takeWs s n).1, x.key.size ≤ 12
  | 0, x, hx => by cases hx
  | n + 1, x, hx => by
    rw [takeWs] at hx
    rcases List.mem_append.1 hx with hx | hx
    · exact takeWs_keys s n x hx
    · rw [List.mem_singleton] at hx
      subst hx
      exact takeT_size _ 12
theorem small_good {v : Val} (h : smallV v) : v.Good := ⟨h.1, by have := h.2.1; omega, by have := h.2.2.1; omega, by have := h.2.2.2; omega⟩
theorem getD_mem {α : Type} {l : List α} {d : α} {k : Nat} (hk : k < l.length) : l.getD k d ∈ l := by
  rw [List.getD_eq_getElem?_getD, List.getElem?_eq_getElem hk]
  exact List.getElem_mem hk
/-- What is read lies as a transaction. -/
theorem TkAt.tx2 {w wr : World} {p q g : Nat} {a b : Int} {vr vw : Value} {rs : List Rd} {ws : List Wr} (h : TkAt w wr p q g a b vr vw rs ws) (h1 : ∀ x ∈ rs, x.key.size ≤ 12) (h2 : ∀ x ∈ ws, x.key.size ≤ 12) (h3 : ∀ x ∈ ws, smallV x.val) (hn : rs.length ≤ 255) (hm : ws.length ≤ 255) :
    ∃ A B ca cb, vr = .slice A rs.length ca ∧ vw = .slice B ws.length cb ∧ TxAt wr ⟨a, b, rs, ws⟩ A B ∧ ∀ w2, Out (fun k => k = q) wr w2 → TxAt w2 ⟨a, b, rs, ws⟩ A B := by
  obtain ⟨A, ca, e1, _, r1, _⟩ := own_rds h.rr
  obtain ⟨B, cb, e2, _, r2, _⟩ := own_wrs h.rw_
  have hx : ∀ wz, RdsAt wz A rs → WrsAt wz B ws → TxAt wz ⟨a, b, rs, ws⟩ A B := fun wz q1 q2 => ⟨q1, q2, fun k hk => by
      have := h1 _ (getD_mem (d := noRd) hk)
      show (rs.getD k noRd).key.size ≤ _
      omega, fun k hk => by
      have := h2 _ (getD_mem (d := noWr) hk)
      show (ws.getD k noWr).key.size ≤ _
      omega, fun k hk => small_good (h3 _ (getD_mem (d := noWr) hk)), by show rs.length ≤ _; omega, by show ws.length ≤ _; omega⟩
  refine ⟨A, B, ca, cb, e1, e2, hx wr r1 r2, fun w2 ho => hx w2 ?_ ?_⟩
  · obtain ⟨A', c', e, _, h2, _⟩ := own_rds (ho.row h.rr (fun k hk e => by have := (h.rr.lt k hk).1; have := h.qg; omega))
    rw [e1] at e
    injection e with e
    subst e
    exact h2
  · obtain ⟨A', c', e, _, h2, _⟩ := own_wrs (ho.row h.rw_ (fun k hk e => by have := (h.rw_.lt k hk).1; have := h.qg; omega))
    rw [e2] at e
    injection e with e
    subst e
    exact h2
theorem TkAt.cellR {w wr w2 : World} {p q g : Nat} {a b : Int} {vr vw : Value} {rs : List Rd} {ws : List Wr} (h : TkAt w wr p q g a b vr vw rs ws) (hg : wr.grownBy w2 vr.ownBlock) : w2.cell? ⟨g, 2, none⟩ = some vr ∧ w2.frozen? ⟨g, 2, none⟩ = false := by
  have ho := Out.of_grown hg (O := fun k => vr.ownBlock = some k) (fun _ e => e)
  have z1 := ho.obj h.zg (fun e => by have := (h.rr.lt g e).1; omega)
  exact ⟨(mkc4 z1).2.2.1, frozen_of_row w2 g 2 _ _ z1⟩
theorem TkAt.cellW {w wr w2 : World} {p q g : Nat} {a b : Int} {vr vw : Value} {rs : List Rd} {ws : List Wr} (h : TkAt w wr p q g a b vr vw rs ws) (hg : wr.grownBy w2 vw.ownBlock) : w2.cell? ⟨g, 3, none⟩ = some vw ∧ w2.frozen? ⟨g, 3, none⟩ = false := by
  have ho := Out.of_grown hg (O := fun k => vw.ownBlock = some k) (fun _ e => e)
  have z1 := ho.obj h.zg (fun e => by have := (h.rw_.lt g e).1; omega)
  exact ⟨(mkc4 z1).2.2.2, frozen_of_row w2 g 3 _ _ z1⟩
theorem TkAt.outR {w wr w2 : World} {p q g : Nat} {a b : Int} {vr vw : Value} {rs : List Rd} {ws : List Wr} (h : TkAt w wr p q g a b vr vw rs ws) (hg : wr.grownBy w2 vr.ownBlock) (v : Value) : Out (fun k => g ≤ k) wr (w2.setCell ⟨g, 2, none⟩ v) :=
  ((Out.of_grown hg (O := fun k => vr.ownBlock = some k) (fun _ e => e)).mono fun k e => by have := (h.rr.lt k e).1; omega).trans' ((out_cell w2 g 2 v).mono fun k e => by omega)
theorem TkAt.outW {w wr w2 : World} {p q g : Nat} {a b : Int} {vr vw : Value} {rs : List Rd} {ws : List Wr} (h : TkAt w wr p q g a b vr vw rs ws) (hg : wr.grownBy w2 vw.ownBlock) (v : Value) : Out (fun k => g ≤ k) wr (w2.setCell ⟨g, 3, none⟩ v) :=
  ((Out.of_grown hg (O := fun k => vw.ownBlock = some k) (fun _ e => e)).mono fun k e => by have := (h.rw_.lt k e).1; omega).trans' ((out_cell w2 g 3 v).mono fun k e => by omega)
theorem mk4 (w : World) (u v x y : Value) (t : TypeId) : ∃ W : World, w.alloc (.cells #[u, v, x, y] t) = W ∧ Below w.heap.size w W ∧ W.heap.size = w.heap.size + 1 ∧ W.heap[w.heap.size]? = some (.cells #[u, v, x, y] t (0, 0)) :=
  ⟨_, rfl, below1 _ _, by simp, heap_alloc_new w _⟩
theorem TkAt.new {w W0 w1 w2 : World} {p : Nat} {a b : Int} (hp : p < w.heap.size) (hB0 : Below w.heap.size w W0) (hs0 : W0.heap.size = w.heap.size + 1) (z0 : W0.heap[w.heap.size]? = some (.cells #[.int .i64 0, .int .i64 0, .slice none 0 0, .slice none 0 0] 27 (0, 0))) (ho1 : Out (fun k => k = p) W0 w1) (hb2 : Below w1.heap.size w1 w2)
    (z2 : w2.heap[w1.heap.size]? = some (.cells #[.int .i64 a, .int .i64 b, .slice none 0 0, .slice none 0 0] 27 (0, 0))) : TkAt w w2 p w.heap.size w1.heap.size a b (.slice none 0 0) (.slice none 0 0) [] [] where
  zq := obj_later' (ho1.obj z0 (by omega)) hb2
  zg := z2
  rr := own_nil _ _ _ _
  rw_ := own_nil _ _ _ _
  ap := fun k hk => by cases hk
  out := Out.up4 (Out.up3 (Out.of_below hB0) ho1) hb2
  pq := hp
  qg := by have := ho1.size; omega
  wq := Nat.le_refl _
theorem mks4 {w : World} {g : Nat} {u v x y : Value} {t : TypeId} (h : w.heap[g]? = some (.cells #[u, v, x, y] t (0, 0))) (u' v' x' y' : Value) : ((((w.setCell ⟨g, 0, none⟩ u').setCell ⟨g, 1, none⟩ v').setCell ⟨g, 2, none⟩ x').setCell ⟨g, 3, none⟩ y').heap[g]? = some (.cells #[u', v', x', y'] t (0, 0)) := by
  have h1 := obj_set (j := 0) u' h
  have h2 := obj_set (j := 1) v' h1
  have h3 := obj_set (j := 2) x' h2
  have h4 := obj_set (j := 3) y' h3
  simpa using h4
theorem outs4 (w : World) (g : Nat) (u' v' x' y' : Value) : Out (fun k => k = g) w ((((w.setCell ⟨g, 0, none⟩ u').setCell ⟨g, 1, none⟩ v').setCell ⟨g, 2, none⟩ x').setCell ⟨g, 3, none⟩ y') :=
  (((out_cell w g 0 u').trans' (out_cell _ g 1 v')).trans' (out_cell _ g 2 x')).trans' (out_cell _ g 3 y')
theorem tx_end {w wz : World} {p q : Nat} {R : World → Prop} {t : Tx} {A B : Option Addr} {ca cb : Nat} {u v x y : Value} (hR : ∀ w2, Out (fun k => k = q) wz w2 → R w2) (hX : ∀ w2, Out (fun k => k = q) wz w2 → TxAt w2 t A B) (ho : OutP p w wz) (hq : w.heap.size ≤ q) :
    TxPost w p R t (.returned (txV t A B ca cb)) ((((wz.setCell ⟨q, 0, none⟩ u).setCell ⟨q, 1, none⟩ v).setCell ⟨q, 2, none⟩ x).setCell ⟨q, 3, none⟩ y) :=
  ⟨A, B, ca, cb, rfl, hX _ (outs4 wz q u v x y), hR _ (outs4 wz q u v x y), (ho.trans' ((outs4 wz q u v x y).mono fun _ e => .inr (by omega))).down⟩
end Go.Proofs.YtfblemdpimbciaaDoor
