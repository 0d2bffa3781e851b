/- store.Count. -/
import Derived.Test.YtboiafchmdflpaaDoorScan14
namespace Go.Proofs.YtboiafchmdflpaaDoor
open Go.RowKit Go.Maps Go.Sort Go.Shelf

def lenK (m : KV) (x : List UInt8) : Nat := (getK m ⟨x.toArray⟩).length
def sumK (m : KV) (ss : List (List UInt8)) : Nat := (ss.map (lenK m)).sum
theorem sumK_snoc (m : KV) (ss : List (List UInt8)) (x : List UInt8) : sumK m (ss ++ [x]) = sumK m ss + lenK m x := by simp [sumK]
theorem items_sum (m : KV) : (items m).length = (m.map fun p => p.2.length).sum := by
  induction m with
  | nil => rfl
  | cons p m ih =>
    rw [show items (p :: m) = itemsOf p ++ items m from rfl, List.length_append, itemsOf, List.length_map, List.map_cons, List.sum_cons, ih]
theorem sumK_keys {m : KV} (h : RisesK m) : sumK m (keysL m) = (items m).length := by
  rw [items_sum, sumK, keysL, List.map_map]
  refine congrArg List.sum (List.map_congr_left fun p hp => ?_)
  show (getK m ⟨p.1.data.toList.toArray⟩).length = p.2.length
  rw [show (⟨p.1.data.toList.toArray⟩ : ByteArray) = p.1 from rfl, getK_mem h (l := p.2) hp]
theorem sumK_perm {m : KV} {a b : List (List UInt8)} (h : a.Perm b) : sumK m a = sumK m b := (h.map _).sum_nat
theorem sumK_le {m : KV} (hr : RisesK m) (hne : ∀ p ∈ m, p.2 ≠ []) {w : World} {B N mb : Nat} {D : DataW Value} {V : ByteArray → Value} {O : Nat → Prop} (h : KeysAt w B N mb D V O m) {left : Lit → Bool} {ss : List (List UInt8)} (hc : Collected D left ss) : sumK m ss ≤ (items m).length := by
  rw [← sumK_keys hr]
  have hin : ∀ x ∈ ss, x ∈ keysL m := fun x hx => by
    have e := h.has ⟨x.toArray⟩
    rw [show lit ⟨x.toArray⟩ = Lit.string x by simp [lit]] at e
    exact (mem_keysL hr hne x).2 (by rw [← e]; exact ((hc.2 x).1 hx).1)
  have hp : (keysL m).Perm (ss ++ (keysL m).filter fun x => !decide (x ∈ ss)) := by
    refine (List.perm_ext_iff_of_nodup (keysL_nodup hr) ?_).2 fun x => ?_
    · refine List.nodup_append.2 ⟨hc.1, List.Pairwise.filter _ (keysL_nodup hr), fun a ha b hb e => ?_⟩
      subst e
      have := (List.mem_filter.1 hb).2
      simp [ha] at this
    · rw [List.mem_append, List.mem_filter]
      constructor
      · intro hx
        by_cases hs : x ∈ ss
        · exact .inl hs
        · exact .inr ⟨hx, by simp [hs]⟩
      · rintro (hx | hx)
        · exact hin x hx
        · exact hx.1
  rw [sumK_perm hp, sumK, sumK, List.map_append, List.sum_append]
  omega
set_option maxRecDepth 100000 in
set_option maxHeartbeats 4000000 in
theorem count14_any {w : World} {B p N : Nat} {O : Nat → Prop} {s : StD} (h : StoreAt w B p N O s) (hs : StOK s) (hI : (items s.ks).length ≤ 800000) :
    Calls Tryd.prog 31 #[.pointer (some ⟨p, 0, none⟩)] w fun e w' => e = .returned (.int .i64 ((items s.ks).length : Int)) ∧ Below w.heap.size w w' := by
  obtain ⟨mb, D, V, h⟩ := h
  have c0 := h.c0
  have HK := Lib.hid h.keys
  clear h
  have own := HK.out.own
  go_enter Tryd.func31, Tryd.ntmps31
  go_wp2_with (at_range; refine wpList_range_own _ rfl _ 86 rfl 9 _ keyS Tryd.underlying86 heldE mb N D rfl own ?_; intro w0 hrg0 hg0 hs0)
  go_frame
  go_loopw [3] (fun n wr => ∃ (left : Lit → Bool) (cnt : Nat) (ss : List (List UInt8)), n = .int .i64 (sumK s.ks ss : Nat) ∧ wr.ranges Tryd.prog 9 heldE mb w.heap.size N D left cnt ∧ Hid (Collected D left ss) ∧ Below w.heap.size w wr) (fun _ wr => wr.rangeLeft mb w.heap.size)
  case atStart => exact ⟨_, _, [], rfl, hrg0, Collected.start D, Below.grown (Below.refl _ _) hg0 (Nat.le_refl _) (fun k e => by cases e)⟩
  case round =>
    obtain ⟨left, cnt, ss, rfl, hrg, HC, hw⟩ := hrel
    go_wp2_with (at_next; refine wpList_next_ranges _ rfl _ rfl 9 keyS heldE Value.string id (fun key kl hk => by obtain ⟨x, hx, _⟩ := keyOf_inv hk; exact ⟨x, hx⟩) (fun v _ _ => ⟨v, rfl⟩) mb w.heap.size N _ _ _ rfl hrg ?_ ?_)
    · intro hc0 hl0
      have hsum : sumK s.ks ss = (items s.ks).length := by
        rw [← sumK_keys hs.rises]
        exact sumK_perm ((HC.out.perm own keyS Tryd.underlying9 hl0).trans (keys_perm HK.out hs.rises hs.ne).symm)
      have HSum := Lib.hid hsum
      clear hsum
      go_wp2
      go_ret
      exact ⟨by rw [HSum.out] <;> rfl, hw⟩
    · intro x c kl yd yp w2 cnt2 hkey hlk hv hat hrg2 hlt hg2 hs2 hen
      obtain ⟨x', ex, rfl, _⟩ := keyOf_inv hkey
      injection ex with ex
      subst ex
      simp only [heldE, Option.some.injEq, Prod.mk.injEq] at hv
      obtain ⟨rfl, rfl⟩ := hv
      have hhas : Maps.has D (lit x) = true := has_true_of_atKey hat
      have hne : getK s.ks x ≠ [] := fun e => by rw [HK.out.has, e] at hhas; cases hhas
      have hVc : c = V x := by
        have h1 := hat (.held c)
        rw [HK.out.at_ x _ hne] at h1
        injection h1 with h1
        exact h1.symm
      obtain ⟨A, cap, hform⟩ : ∃ A cap, c = .slice A (getK s.ks x).length cap := by
        have hr := HK.out.row x
        rw [← hVc] at hr
        rcases hr.2 with ⟨rfl, h0⟩ | ⟨g, cap, cur, rfl, _⟩
        · exact ⟨none, 0, by rw [h0] <;> rfl⟩
        · exact ⟨_, _, rfl⟩
      subst hform
      have HC2 : Hid (Collected D (fun z => left z && !z.sameKey (lit x)) (ss ++ [x.data.toList])) := HC.out.step hlk hat
      have hle := sumK_le hs.rises hs.ne HK.out HC2.out
      rw [sumK_snoc] at hle
      have hlk2 : lenK s.ks x.data.toList = (getK s.ks x).length := rfl
      rw [hlk2] at hle
      have HS2 : Hid (sumK s.ks (ss ++ [x.data.toList]) = sumK s.ks ss + (getK s.ks x).length) := by show _ = _; rw [sumK_snoc, hlk2]
      have hwr : IntKind.i64.wrap (((sumK s.ks ss : Nat) : Int) + ((getK s.ks x).length : Int)) = ((sumK s.ks ss : Nat) : Int) + ((getK s.ks x).length : Int) := IntWalk.i64_in _ (by omega)
      have hw2 : Below w.heap.size w w2 := Below.grown hw hg2 hw.size (fun k e => by injection e with e; omega)
      clear hVc hne hhas hat hlk2 hg2
      go_wp2
      go_roundw
      case rel => exact ⟨_, cnt2, ss ++ [x.data.toList], by rw [HS2.out]; go_num, hrg2, HC2, hw2⟩
      case measure => rw [hrg2.left_eq, hrg.left_eq]; exact hlt
end Go.Proofs.YtboiafchmdflpaaDoor
