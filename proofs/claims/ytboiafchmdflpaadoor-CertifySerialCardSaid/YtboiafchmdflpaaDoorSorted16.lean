/- slices.AppendSeq, Collect, Sorted over slices.Values at ints: the numbers of a slice, sorted, in a slice of the call's own. -/
import Derived.Test.YtboiafchmdflpaaDoorSeq16
import Derived.Test.YtboiafchmdflpaaDoorSort
namespace Go.Proofs.YtboiafchmdflpaaDoor
open Go.RowKit Go.Shelf

attribute [local go_sem] Oper.semAt_some

theorem info_int : (Tryd.prog.info? 3).map (fun i => (i.zero, i.size, i.bytes)) = some (some (.int .i64 0), 1, 8) := by kernel_rfl

set_option maxRecDepth 100000 in
set_option maxHeartbeats 2000000 in
theorem appendSeq_in (F : Fence) (n : Nat) (hA : F.fn 123) (hV : F.fn 98) (hro : F.round = none) (hn : 3 ≤ n) (Bs : Nat) (sv : Value) (zs : List Int) (hlen : zs.length ≤ 1000000) (w : World) (hBs : Bs < w.heap.size)
    (hc : w.cell? ⟨Bs, 0, none⟩ = some sv) (hI : IntsIn w.heap.size w sv zs) :
    CallsIn F n Tryd.prog 123 #[.slice none 0 0, .func (.func 98) #[] #[.pointer (some ⟨Bs, 0, none⟩)]] w fun e W' =>
      ∃ v, e = .returned v ∧ W'.ownsRow w.heap.size 3 1 v zs.length (zs.map (Value.int .i64)) ∧ Below w.heap.size w W' := by
  have h1 : 1 ≤ n := by omega
  have hmx : zs.length ≤ maxLen := le_maxLen hlen
  obtain ⟨i0, hi, hz0, hz1, hz2⟩ := info_parts info_int
  refine callsIn_of_wp_marks Tryd.func123 rfl hA ?_ hro
  simp only [Tryd.ntmps123, List.size_toArray, List.length_cons, List.length_nil, Nat.reduceAdd, Nat.reduceSub, Array.replicate_succ, Array.replicate_zero, List.push_toArray, List.append_toArray, List.nil_append, List.cons_append]
  gi_wp2
  have bO := Boxed.new w 130 (.slice none 0 0)
  have hB0 : Below w.heap.size w (w.alloc (.cells #[.slice none 0 0] 130)) := (Below.refl _ w).alloc (Nat.le_refl _) _
  refine wpIn_rangeFunc_ownG hro h1 (gf := 98) (lb := #[.pointer (some ⟨Bs, 0, none⟩)]) rfl hV (enters_of Tryd.func98 (by kernel_rfl) rfl)
    (values_stops F (n - 1) hV hro (by omega) Bs w.heap.size sv zs (by omega) _ (by simp; omega) (by simp) ((hB0.cell (p := ⟨Bs, 0, none⟩) hBs).trans hc) (hI.below hB0)) belowK_t (belowK_b (by simp)) (Below.refl _ _) (fun _ => rfl)
    (fun pre W => (∃ v, Boxed W w.heap.size 130 v ∧ W.ownsRow w.heap.size 3 1 v pre.length (pre.map (Value.int .i64)) ∧ True) ∧ Below w.heap.size w W)
    (fun _ _ _ => False)
    (OwnFrom.and (Own.from (holdsRow_own w.heap.size w.heap.size 130 3 1 (fun pre : List Int => pre.length) (fun pre => pre.map (Value.int .i64)) (fun _ _ => True)) _) (ownFrom_below (Nat.le_refl _) (by simp)))
    (fun _ _ _ _ _ hs _ _ => hs)
    ⟨⟨_, bO, World.ownsRow_nil _ _ _ _, trivial⟩, hB0⟩
    (fun x => { tmps := #[.slice none 0 0, .func (.func 98) #[] #[.pointer (some ⟨Bs, 0, none⟩)], .pointer (some ⟨w.heap.size, 0, none⟩), undef, .slice none 0 0, .int .i64 x, .func (.func 98) #[] #[.pointer (some ⟨Bs, 0, none⟩)], .int .i64 x, undef, undef, undef, undef, undef], defers := [] }) ?assign ?body ?done ?stop
  case assign =>
    intro l x W K hK
    gi_wp2
    exact hK
  case body =>
    rintro l pre x W ⟨⟨v, hv, hrow, _⟩, hB⟩ hlt
    have hc := hv.cell
    gi_wp2_with (gi_at_builtin; refine wpListIn_append_own _ rfl _ _ 130 rfl w.heap.size 3 i0 (.int .i64 0) 1 8 Tryd.underlying130 hi hz0 hz1 hz2 rfl (by decide) _ _ _ rfl (hrow.alloc _) ⟨W.heap.size, 0, none⟩ 1 1 [.int .i64 x] rfl rfl (cell_one_new _ _ _) (by simp [Value.oneCell']) (by omega) (by omega) (by have := hB.size; simp; omega) ?_; intro v' w1 hown' hgrow _; obtain ⟨g', cap', rfl⟩ := ownsRow_succ hown'; obtain ⟨hv1, hv2, hr2, hk2, hb2⟩ := hv.appended (by decide) hrow hB.size (Nat.le_refl _) hown' hgrow; have hc1 := hv1.cell; have hf1 := hv1.frozen)
    exact ⟨hk2.from _, hb2, ⟨_, hv2, by simpa using hr2, trivial⟩, hB.trans hb2⟩
  case done =>
    rintro D ys W hD rfl ⟨⟨v, hv, hrow, _⟩, hB⟩ hK
    have hc := hv.cell
    gi_wp2
    refine ⟨by simp, .inl ⟨_, _, rfl, run_takeDeferred hK, ?_⟩⟩
    exact ⟨_, results_tmp rfl _ _ _, v, rfl, ownsRow_putObj hrow _ hK rfl, hB.trans (belowK_b (w := w) (Nat.le_refl _) W D _ _ (by simp at hD; omega) hK rfl rfl)⟩
  case stop =>
    rintro D c pre W _ _ h _
    exact h.elim

/-- A slice handed back that owns the numbers zs. -/
def OwnPost (w : World) (zs : List Int) (e : Ending) (w' : World) : Prop := ∃ v, e = .returned v ∧ w'.ownsRow w.heap.size 3 1 v zs.length (zs.map (Value.int .i64)) ∧ Below w.heap.size w w'

theorem appendSeq_any (Bs : Nat) (sv : Value) (zs : List Int) (hlen : zs.length ≤ 1000000) (w : World) (hBs : Bs < w.heap.size) (hc : w.cell? ⟨Bs, 0, none⟩ = some sv) (hI : IntsIn w.heap.size w sv zs) :
    Calls Tryd.prog 123 #[.slice none 0 0, .func (.func 98) #[] #[.pointer (some ⟨Bs, 0, none⟩)]] w (OwnPost w zs) :=
  (callsIn_wide (n := 3)).1 (appendSeq_in Fence.wide 3 trivial trivial rfl (Nat.le_refl _) Bs sv zs hlen w hBs hc hI)
theorem collect_any (Bs : Nat) (sv : Value) (zs : List Int) (hlen : zs.length ≤ 1000000) (w : World) (hBs : Bs < w.heap.size) (hc : w.cell? ⟨Bs, 0, none⟩ = some sv) (hI : IntsIn w.heap.size w sv zs) :
    Calls Tryd.prog 96 #[.func (.func 98) #[] #[.pointer (some ⟨Bs, 0, none⟩)]] w (OwnPost w zs) := by
  have HI := Lib.hid hI
  clear hI
  go_enter Tryd.func96, Tryd.ntmps96
  go_wp2_with (go_at_call 123; refine (appendSeq_any Bs sv zs hlen _ hBs hc HI.out).mono ?_; rintro e w1 ⟨v, rfl, hown, hb⟩)
  go_ret
  exact ⟨v, rfl, hown, hb⟩
theorem values_any (a : Option Addr) (len cap : Nat) (w : World) :
    Calls Tryd.prog 79 #[.slice a len cap] w fun e w' => e = .returned (.func (.func 98) #[] #[.pointer (some ⟨w.heap.size, 0, none⟩)]) ∧ w.alloc (.cells #[.slice a len cap] 130) = w' := by
  go_enter Tryd.func79, Tryd.ntmps79
  go_wp2
  go_ret
  exact ⟨rfl, rfl⟩
theorem sorted_any (Bs : Nat) (sv : Value) (zs : List Int) (hlen : zs.length ≤ 1000000) (w : World) (hBs : Bs < w.heap.size) (hc : w.cell? ⟨Bs, 0, none⟩ = some sv) (hI : IntsIn w.heap.size w sv zs) :
    Calls Tryd.prog 78 #[.func (.func 98) #[] #[.pointer (some ⟨Bs, 0, none⟩)]] w (OwnPost w (sorted zs)) := by
  have HI := Lib.hid hI
  clear hI
  go_enter Tryd.func78, Tryd.ntmps78
  go_wp2_with (first
    | (go_at_call 96; refine (collect_any Bs sv zs hlen _ hBs hc HI.out).mono ?_; rintro e w1 ⟨v, rfl, hown, hb⟩)
    | (go_at_call 97; refine (sort_own _ _ zs _ hown hlen).mono ?_; rintro e w2 ⟨rfl, hown2, hg⟩))
  go_ret
  exact ⟨v, rfl, hown2, own_below hb (Nat.le_refl _) hown hg⟩
end Go.Proofs.YtboiafchmdflpaaDoor
