/- Laws of no program: 'copy' over a row whose elements take several cells; 'append(s[:0], make(S, k)...)' where there is no room. -/
import Derived.Test.YtboiafchmdflpaaDoorRow
import Derived.Laws.CopyOwn
import Derived.Lib.AppendZerosOnto
import Derived.Lib.AppendZeros
import Derived.Lib.Overlaps
namespace Go.Proofs.YtboiafchmdflpaaDoor
open Go.RowKit

section
variable {P : Program} {w : World}
theorem run_copy_rowS (w : World) (dT sT ty elem : TypeId) (size g o dLen dCap : Nat) (a : Addr) (sLen sCap : Nat) (cur : Array Value) (t : TypeId) (cs : List Value)
    (hu : P.underlying dT = some (.slice elem)) (hs : (P.info? elem).map (·.size) = some size)
    (hg : w.heap[g]? = some (.cells cur t (0, 0))) (hn : cs.length = Nat.min sLen dLen * size)
    (hsrc : ∀ j v, cs[j]? = some v → w.cell? (a.add j) = some v) (hfit : o + cs.length ≤ cur.size) (h1 : ∀ v ∈ cs, v.oneCell' = true) :
    (Builtin.copy_ #[dT, sT] ty #[.slice (some ⟨g, o, none⟩) dLen dCap, .slice (some a) sLen sCap]).run P w =
      .ok (goInt (Nat.min sLen dLen)) (w.setRow g (cur.toList.take o ++ cs ++ cur.toList.drop (o + cs.length)).toArray) := by
  have hl := run_loadCells_list (P := P) w a cs hsrc
  have hst := run_storeCells_at P g o t cs 0 cur w hg (by simpa using hfit) h1
  cases hq : P.info? elem with
  | none => simp [hq] at hs
  | some i =>
    have hi : i.size = size := by simpa [hq] using hs
    simp [Builtin.copy_, run_underlying hu, Builtin.lenOf, Builtin.firstCells, sizeOf, typeInfo, hq, hi, ← hn, hl, hst]
theorem grown_setRow (w : World) (g : Nat) (cs : Array Value) : w.grownBy (w.setRow g cs) (some g) :=
  ⟨rfl, rfl, rfl, by simp [World.setRow], fun k _ hk => setRow_other w g k cs (fun e => hk (by rw [e]))⟩
theorem run_copy_spliceS (w : World) (dT sT ty elem : TypeId) (size g o dLen dCap : Nat) (a : Addr) (sLen sCap : Nat) (cur : List Value) (t : TypeId) (cs : List Value)
    (hu : P.underlying dT = some (.slice elem)) (hs : (P.info? elem).map (·.size) = some size)
    (hg : w.heap[g]? = some (.cells cur.toArray t (0, 0))) (hn : cs.length = Nat.min sLen dLen * size)
    (hsrc : ∀ j v, cs[j]? = some v → w.cell? (a.add j) = some v) (hfit : o + cs.length ≤ cur.length) (h1 : ∀ v ∈ cs, v.oneCell' = true) :
    ∃ n w', (Builtin.copy_ #[dT, sT] ty #[.slice (some ⟨g, o, none⟩) dLen dCap, .slice (some a) sLen sCap]).run P w = .ok (goInt n) w' ∧ w'.heap[g]? = some (.cells (splice cur o cs).toArray t (0, 0)) ∧ w.grownBy w' (some g) := by
  refine ⟨_, _, run_copy_rowS w dT sT ty elem size g o dLen dCap a sLen sCap cur.toArray t cs hu hs hg hn hsrc (by simpa using hfit) h1, ?_, grown_setRow _ _ _⟩
  rw [setRow_heap w g cur.toArray _ t _ hg]
  simp [splice]
theorem wpList_copy_spliceS {ops : Array Oper} {rest : List Oper} {o : Oper} {a : Act} {Q : Exit → Act → World → Prop} (hgd : o.guard = none) (d s : Operand) (dT sT : TypeId)
    (ho : o.op = .call { callee := .builtin .copy, args := #[d, s], argTypes := #[dT, sT] }) (elem : TypeId) (size : Nat) (hu : P.underlying dT = some (.slice elem)) (hsz : (P.info? elem).map (·.size) = some size)
    (g off dLen dCap : Nat) (ad : Addr) (sLen sCap : Nat) (hd : a.eval d = .slice (some ⟨g, off, none⟩) dLen dCap) (hs : a.eval s = .slice (some ad) sLen sCap)
    (cur : List Value) (t : TypeId) (hg : w.heap[g]? = some (.cells cur.toArray t (0, 0))) (cs : List Value) (hn : cs.length = Nat.min sLen dLen * size)
    (hsrc : ∀ j v, cs[j]? = some v → w.cell? (ad.add j) = some v) (hfit : off + cs.length ≤ cur.length) (h1 : ∀ v ∈ cs, v.oneCell' = true)
    (h : ∀ (n : Int) (w' : World), Hid (w'.heap[g]? = some (.cells (splice cur off cs).toArray t (0, 0))) → w.grownBy w' (some g) → wpList P ops Q rest (a.put o.dst (goInt n)) w') : wpList P ops Q (o :: rest) a w := by
  obtain ⟨n, w', hr, h2, h3⟩ := run_copy_spliceS (P := P) w dT sT o.type elem size g off dLen dCap ad sLen sCap cur t cs hu hsz hg hn hsrc hfit h1
  refine wpList_plain hgd fun K hK => ?_
  unfold Oper.wp
  simp [execOp, ho, resolve, invoke, builtin, hd, hs, hr, Result.andThen]
  exact hK _ _ (h n w' h2 h3)
theorem step_copy_spliceS {ops : Array Oper} {o : Oper} {a : Act} {K : Act → World → Prop} {Q : Exit → Act → World → Prop} {E : Prop} (hgd : o.guard = none) (d s : Operand) (dT sT : TypeId)
    (ho : o.op = .call { callee := .builtin .copy, args := #[d, s], argTypes := #[dT, sT] }) (elem : TypeId) (size : Nat) (hu : P.underlying dT = some (.slice elem)) (hsz : (P.info? elem).map (·.size) = some size)
    (g off dLen dCap : Nat) (ad : Addr) (sLen sCap : Nat) (hd : a.eval d = .slice (some ⟨g, off, none⟩) dLen dCap) (hs : a.eval s = .slice (some ad) sLen sCap)
    (cur : List Value) (t : TypeId) (hg : w.heap[g]? = some (.cells cur.toArray t (0, 0))) (cs : List Value) (hn : cs.length = Nat.min sLen dLen * size)
    (hsrc : ∀ j v, cs[j]? = some v → w.cell? (ad.add j) = some v) (hfit : off + cs.length ≤ cur.length) (h1 : ∀ v ∈ cs, v.oneCell' = true)
    (h : ∀ (n : Int) (w' : World), Hid (w'.heap[g]? = some (.cells (splice cur off cs).toArray t (0, 0))) → w.grownBy w' (some g) → K (a.put o.dst (goInt n)) w') :
    if Region.wanted o (yielded ops a.tmps) = true then Oper.wp P o a w K Q else E := by
  obtain ⟨n, w', hr, h2, h3⟩ := run_copy_spliceS (P := P) w dT sT o.type elem size g off dLen dCap ad sLen sCap cur t cs hu hsz hg hn hsrc hfit h1
  have hw : Region.wanted o (yielded ops a.tmps) = true := by simp [Region.wanted, hgd]
  rw [if_pos hw]
  unfold Oper.wp
  simp [execOp, ho, resolve, invoke, builtin, hd, hs, hr, Result.andThen]
  exact h n w' h2 h3
/-- append(s[:0], make(S, k)...) where there is no room. -/
theorem wpList_append_zeros {ops : Array Oper} {rest : List Oper} {o : Oper} {a : Act} {Q : Exit → Act → World → Prop} (hgd : o.guard = none) (s x : Operand) (t tn : TypeId)
    (ho : o.op = .call { callee := .builtin .append, args := #[s, x], argTypes := #[t, tn] }) (e : TypeId) (i : TypeInfo) (z : Value) (size bytes : Nat) (ht : P.underlying t = some (.slice e)) (htn : P.underlying tn = some (.int .i64)) (hi : P.info? e = some i) (hz : i.zero = some z)
    (hsize : i.size = size) (hby : i.bytes = bytes) (hzs : z.cells.size = size) (hsz : 0 < size) (base : Option Addr) (cap k : Nat) (z' : Int) (hs : a.eval s = .slice base 0 cap) (hx : a.eval x = .int .i64 z') (hzk : z' = (k : Int)) (h0 : 0 < k) (hcap : cap < k)
    (h63 : k ≤ 1000000) (hbytes : k * bytes ≤ 140737488355328)
    (h : ∀ (G : Nat) (cur : List Value) (w' : World), k ≤ G → G ≤ 9223372036854775807 → cur.length = G * size → w'.heap[w.heap.size]? = some (.cells cur.toArray e (0, 0)) → w.grownBy w' none → w'.heap.size = w.heap.size + 1 → wpList P ops Q rest (a.put o.dst (.slice (some ⟨w.heap.size, 0, none⟩) k G)) w') : wpList P ops Q (o :: rest) a w := by
  subst hzk
  have hold : (Builtin.firstCells i.size 0 (.slice base 0 cap)).run P w.drew = .ok ([] : List Value).toArray w.drew := by
    cases base with
    | none => exact run_firstCells_none _ _ _ _ _
    | some a => exact run_firstCells_some w.drew _ 0 a 0 cap [] (by simp) (fun j v hj => by simp at hj)
  have hr := Lib.run_append_grow_zeros (P := P) w t tn o.type e i z .i64 .i64 ht htn hi hz base 0 cap [] hold k h0 (by omega) (by omega) (by omega) (by rw [hby]; omega) (by rw [hby, Nat.zero_add]; exact growslice_fits hcap hbytes)
  rw [Nat.zero_add] at hr
  refine Lib.wpList_append_run w hgd s x t tn ho _ _ hs hx _ _ hr ?_
  obtain ⟨G, hG⟩ : ∃ G, grownCap w k cap e = G := ⟨_, rfl⟩
  have hg1 : k ≤ G := hG ▸ grownCap_ge w k cap e
  have hg2 : G ≤ maxLen := hG ▸ grownCap_le_maxLen w k cap e (le_maxLen h63)
  rw [hG]
  have hl : (Builtin.zeroCells z.cells k ++ Builtin.zeroCells z.cells (G - k)).toList.length = G * size := by
    have e0 : G = k + (G - k) := by omega
    have : ∀ n, (Builtin.zeroCells z.cells n).size = n * size := fun n => by simp [Builtin.zeroCells, hzs]
    rw [Array.length_toList, Array.size_append, this, this, ← Nat.add_mul]
    congr 1
    omega
  refine h G _ _ hg1 (by unfold maxLen at hg2; omega) hl ?_ ?_ ?_
  · rw [show w.heap.size = w.drew.heap.size from rfl, heap_alloc_new]
    simp
  · exact ⟨rfl, rfl, rfl, by simp, (World.grownBy_alloc w.drew _ none).block⟩
  · simp
end
end Go.Proofs.YtboiafchmdflpaaDoor
