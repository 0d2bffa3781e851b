/- No store: what each method answers; layer 14's awake; StoreNil's walk. -/
import Derived.Test.YtboiafchmdflpaaDoorFew14
namespace Go.Proofs.YtboiafchmdflpaaDoor
open Go.RowKit Go.Shelf

theorem getNil (s : ByteArray) (n : Nat) (w : World) : Calls Tryd.prog 18 #[.pointer none, .string s, .int .u64 (n : Int)] w fun e w' => e = .returned (.tuple #[.agg #[.int .i64 0, .int .u64 0, .string ByteArray.empty], .int .u64 0, .int .i64 1]) ∧ Below w.heap.size w w' := by
  go_enter Tryd.func18, Tryd.ntmps18
  go_wp2
  exact bodyPost_ret (v := .tuple #[.agg #[.int .i64 0, .int .u64 0, .string ByteArray.empty], .int .u64 0, .int .i64 1]) (by simp [results, Tryd.results18, go_sem]; rfl) rfl ⟨rfl, below1 _ _⟩
theorem scanNil (s t : ByteArray) (n : Nat) (m : Int) (w : World) : Calls Tryd.prog 19 #[.pointer none, .string s, .string t, .int .u64 (n : Int), .int .i64 m] w fun e w' => e = .returned (.tuple #[.slice none 0 0, .int .i64 1]) ∧ Below w.heap.size w w' := by
  go_enter Tryd.func19, Tryd.ntmps19
  go_wp2
  go_ret2
  exact ⟨rfl, Below.refl _ _⟩
theorem collectNil (n : Nat) (w : World) : Calls Tryd.prog 17 #[.pointer none, .int .u64 (n : Int)] w fun e w' => e = .returned (.tuple #[.int .i64 0, .int .i64 1]) ∧ Below w.heap.size w w' := by
  go_enter Tryd.func17, Tryd.ntmps17
  go_wp2
  go_quiet (fail)
  go_wp2
  go_ret2
  exact ⟨rfl, below_drewN (below1 _ _) _⟩
theorem applyNil (n : Nat) (A : Option Addr) (m c : Nat) (w : World) : Calls Tryd.prog 29 #[.pointer none, .int .u64 (n : Int), .slice A m c] w fun e w' => e = .returned (.int .i64 1) ∧ Below w.heap.size w w' := by
  go_enter Tryd.func29, Tryd.ntmps29
  go_wp2
  go_ret
  exact ⟨rfl, Below.refl _ _⟩
theorem lastNil (w : World) : Calls Tryd.prog 16 #[.pointer none] w fun e w' => e = .returned (.int .u64 0) ∧ Below w.heap.size w w' := by
  go_enter Tryd.func16, Tryd.ntmps16
  go_wp2
  go_ret
  exact ⟨rfl, Below.refl _ _⟩
theorem lowNil (w : World) : Calls Tryd.prog 15 #[.pointer none] w fun e w' => e = .returned (.int .u64 0) ∧ Below w.heap.size w w' := by
  go_enter Tryd.func15, Tryd.ntmps15
  go_wp2
  go_ret
  exact ⟨rfl, Below.refl _ _⟩
theorem countNil (w : World) : Calls Tryd.prog 31 #[.pointer none] w fun e w' => e = .returned (.int .i64 0) ∧ Below w.heap.size w w' := by
  go_enter Tryd.func31, Tryd.ntmps31
  go_wp2
  go_ret
  exact ⟨rfl, Below.refl _ _⟩
theorem exportNil (w : World) : Calls Tryd.prog 32 #[.pointer none] w fun e w' => e = .returned (.slice none 0 0) ∧ Below w.heap.size w w' := by
  go_enter Tryd.func32, Tryd.ntmps32
  go_wp2
  go_ret
  exact ⟨rfl, Below.refl _ _⟩
theorem storeNew_any (w : World) : Calls Tryd.prog 13 #[] w fun e w' => e = .returned (.pointer (some ⟨w.heap.size + 1, 0, none⟩)) ∧ (w.alloc (.map #[] 0)).alloc (.cells #[.map (some w.heap.size), .int .u64 0, .int .u64 0] 88) = w' := by
  have hmm := @run_makeMap Tryd.prog
  go_enter Tryd.func13, Tryd.ntmps13
  go_wp2
  go_ret
  exact ⟨rfl, rfl⟩
set_option maxHeartbeats 1000000 in
theorem apply5 (p : Nat) (w : World) (c1 : w.cell? ⟨p, 1, none⟩ = some (.int .u64 0)) (f1 : w.frozen? ⟨p, 1, none⟩ = false) :
    Calls Tryd.prog 29 #[.pointer (some ⟨p, 0, none⟩), .int .u64 5, .slice none 0 0] w fun e w' => e = .returned (.int .i64 0) ∧ w.setCell ⟨p, 1, none⟩ (.int .u64 5) = w' := by
  go_enter Tryd.func29, Tryd.ntmps29
  go_wp2
  refine wp_loop_rounds 1 ?_
  rw [rounds_succ]
  go_wp2
  refine wp_loop_rounds 1 ?_
  rw [rounds_succ]
  go_wp2
  go_ret
  exact ⟨rfl, rfl⟩
theorem last_at (p : Nat) (n : Nat) (w : World) (c1 : w.cell? ⟨p, 1, none⟩ = some (.int .u64 (n : Int))) : Calls Tryd.prog 16 #[.pointer (some ⟨p, 0, none⟩)] w fun e w' => e = .returned (.int .u64 (n : Int)) ∧ w = w' := by
  go_enter Tryd.func16, Tryd.ntmps16
  go_wp2
  go_ret
  exact ⟨rfl, rfl⟩
set_option maxHeartbeats 1000000 in
theorem awake14_any (w : World) : Calls Tryd.prog 11 #[] w fun e w' => e = .returned (.bool true) ∧ Below w.heap.size w w' := by
  go_enter Tryd.func11, Tryd.ntmps11
  go_wp2_with (first
    | (go_at_call 13; refine (storeNew_any _).mono ?_; rintro e w1 ⟨rfl, rfl⟩)
    | (go_at_call 29; refine (apply5 _ _ (by simp [go_sem]) (by simp [go_sem])).mono ?_; rintro e w1 ⟨rfl, rfl⟩)
    | (go_at_call 16; refine (last_at _ 5 _ (by simp [go_sem])).mono ?_; rintro e w1 ⟨rfl, rfl⟩))
  go_ret
  exact ⟨rfl, below2 _ _ _⟩

theorem box6 (w : World) (a b c d e f : Value) (t : TypeId) : ∃ W : World, w.alloc (.cells #[a, b, c, d, e, f] t) = W ∧ Below w.heap.size w W ∧ W.cell? ⟨w.heap.size, 0, none⟩ = some a ∧ W.cell? ⟨w.heap.size, 1, none⟩ = some b ∧ W.cell? ⟨w.heap.size, 2, none⟩ = some c ∧ W.cell? ⟨w.heap.size, 3, none⟩ = some d ∧ W.cell? ⟨w.heap.size, 4, none⟩ = some e ∧ W.cell? ⟨w.heap.size, 5, none⟩ = some f :=
  ⟨_, rfl, below1 _ _, by simp, by simp, by simp, by simp, by simp, by simp⟩
/-- A script of one. -/
theorem ops1 {w : World} {g c : Nat} {A : Option Addr} {o : OpD} (h0 : w.cell? ⟨g, 0, none⟩ = some (.int .i64 o.kind)) (h1 : w.cell? ⟨g, 1, none⟩ = some (.slice A o.l.length c)) (h2 : w.cell? ⟨g, 2, none⟩ = some (.string o.key)) (h3 : w.cell? ⟨g, 3, none⟩ = some (.string o.upto))
    (h4 : w.cell? ⟨g, 4, none⟩ = some (.int .u64 (o.num : Int))) (h5 : w.cell? ⟨g, 5, none⟩ = some (.int .u8 (o.by8 : Int))) (h6 : WrsAt w A o.l) : OpsAt w (some ⟨g, 0, none⟩) [o] (fun _ => A) (fun _ => c) := by
  intro i hi
  have : i = 0 := by simp at hi; omega
  subst this
  exact ⟨g, 0, rfl, h0, h1, h2, h3, h4, h5, h6⟩
theorem few1 {w : World} {g c ca : Nat} {A : Option Addr} {o : OpD} (hok : OpOK o) (h : OpsAt w (some ⟨g, 0, none⟩) [o] (fun _ => A) (fun _ => c)) :
    Calls Tryd.prog 12 #[.slice (some ⟨g, 0, none⟩) 1 ca] w fun e w' => e = .returned (.bool (fewS [o])) ∧ w = w' :=
  fewS_any [o] _ _ _ ca w h (fun i hi => by have : i = 0 := by simp at hi; omega
                                            subst this; exact hok) (by simp)
theorem cell_lt14 {w : World} {b off : Nat} {v : Value} (h : w.cell? ⟨b, off, none⟩ = some v) : b < w.heap.size := by
  rcases Nat.lt_or_ge b w.heap.size with q | q
  · exact q
  · exfalso
    have : w.heap[b]? = none := Array.getElem?_eq_none q
    simp [World.cell?, this] at h
theorem below_eq1 {w w' : World} {o : Obj} (h : w.alloc o = w') : Below w.heap.size w w' := h ▸ below1 _ _
set_option maxRecDepth 100000 in
set_option maxHeartbeats 2000000 in
theorem law_nil (o : OpD) (A : Option Addr) (c : Nat) (w : World) (hA : WrsAt w A o.l) (hok : OpOK o) :
    Calls Tryd.prog 9 #[.agg #[.int .i64 o.kind, .slice A o.l.length c, .string o.key, .string o.upto, .int .u64 (o.num : Int), .int .u8 (o.by8 : Int)]] w fun e w' => e = .returned (.bool true) ∧ Below w.heap.size w w' := by
  obtain ⟨W, eW, HB, c0, c1, c2, c3, c4, c5⟩ := box6 w (.int .i64 o.kind) (.slice A o.l.length c) (.string o.key) (.string o.upto) (.int .u64 (o.num : Int)) (.int .u8 (o.by8 : Int)) 36
  have hA := hA.later HB
  have HK := Lib.hid hok
  have hb0 := hok.b
  obtain ⟨f, hf⟩ : ∃ f, Hid (fewS [o] = f) := ⟨_, rfl⟩
  cases f
  · go_enter Tryd.func9, Tryd.ntmps9
    go_wp2_with (first
      | (go_at_call 11; refine (awake14_any _).mono ?_; rintro e w1 ⟨rfl, hb⟩; replace c0 := keep hb c0; replace c1 := keep hb c1; replace c2 := keep hb c2; replace c3 := keep hb c3; replace c4 := keep hb c4; replace c5 := keep hb c5; replace hA := hA.later hb; replace HB := keepB HB hb; clear hb)
      | (go_at_call 12; refine (calls_same hf.out (few1 HK.out (ops1 (A := A) (c := c) (by simp [go_sem]) (by simp [go_sem]) (by simp [go_sem]) (by simp [go_sem]) (by simp [go_sem]) (by simp [go_sem]) (hA.later (below1 _ _))))).mono ?_; rintro e w2 ⟨rfl, hw2⟩; have hb := below_eq1 hw2; clear hw2; replace c0 := keep hb c0; replace c1 := keep hb c1; replace c2 := keep hb c2; replace c3 := keep hb c3; replace c4 := keep hb c4; replace c5 := keep hb c5; replace hA := hA.later hb; replace HB := keepB HB hb; clear hb))
    go_ret
    exact ⟨rfl, HB⟩
  · go_enter Tryd.func9, Tryd.ntmps9
    go_wp2_with (first
      | (go_at_call 11; refine (awake14_any _).mono ?_; rintro e w1 ⟨rfl, hb⟩; replace c0 := keep hb c0; replace c1 := keep hb c1; replace c2 := keep hb c2; replace c3 := keep hb c3; replace c4 := keep hb c4; replace c5 := keep hb c5; replace hA := hA.later hb; replace HB := keepB HB hb; clear hb)
      | (go_at_call 12; refine (calls_same hf.out (few1 HK.out (ops1 (A := A) (c := c) (by simp [go_sem]) (by simp [go_sem]) (by simp [go_sem]) (by simp [go_sem]) (by simp [go_sem]) (by simp [go_sem]) (hA.later (below1 _ _))))).mono ?_; rintro e w2 ⟨rfl, hw2⟩; have hb := below_eq1 hw2; clear hw2; replace c0 := keep hb c0; replace c1 := keep hb c1; replace c2 := keep hb c2; replace c3 := keep hb c3; replace c4 := keep hb c4; replace c5 := keep hb c5; replace hA := hA.later hb; replace HB := keepB HB hb; clear hb)
      | (go_at_call 18; refine (getNil _ _ _).mono ?_; rintro e w3 ⟨rfl, hb⟩; (first | replace c0 := keep hb c0 | replace c0 := keep hb (keepA _ c0)); (first | replace c1 := keep hb c1 | replace c1 := keep hb (keepA _ c1)); (first | replace c2 := keep hb c2 | replace c2 := keep hb (keepA _ c2)); (first | replace c3 := keep hb c3 | replace c3 := keep hb (keepA _ c3)); (first | replace c4 := keep hb c4 | replace c4 := keep hb (keepA _ c4)); (first | replace c5 := keep hb c5 | replace c5 := keep hb (keepA _ c5)); (first | replace HB := keepB HB hb | replace HB := keepB (keepB HB (below1 _ _)) hb); clear hb; have hlt := cell_lt14 c0)
      | (go_at_call 19; refine (scanNil _ _ _ _ _).mono ?_; rintro e w3 ⟨rfl, hb⟩; (first | replace c0 := keep hb c0 | replace c0 := keep hb (keepA _ c0)); (first | replace c1 := keep hb c1 | replace c1 := keep hb (keepA _ c1)); (first | replace c2 := keep hb c2 | replace c2 := keep hb (keepA _ c2)); (first | replace c3 := keep hb c3 | replace c3 := keep hb (keepA _ c3)); (first | replace c4 := keep hb c4 | replace c4 := keep hb (keepA _ c4)); (first | replace c5 := keep hb c5 | replace c5 := keep hb (keepA _ c5)); (first | replace HB := keepB HB hb | replace HB := keepB (keepB HB (below1 _ _)) hb); clear hb; have hlt := cell_lt14 c0)
      | (go_at_call 17; refine (collectNil _ _).mono ?_; rintro e w3 ⟨rfl, hb⟩; (first | replace c0 := keep hb c0 | replace c0 := keep hb (keepA _ c0)); (first | replace c1 := keep hb c1 | replace c1 := keep hb (keepA _ c1)); (first | replace c2 := keep hb c2 | replace c2 := keep hb (keepA _ c2)); (first | replace c3 := keep hb c3 | replace c3 := keep hb (keepA _ c3)); (first | replace c4 := keep hb c4 | replace c4 := keep hb (keepA _ c4)); (first | replace c5 := keep hb c5 | replace c5 := keep hb (keepA _ c5)); (first | replace HB := keepB HB hb | replace HB := keepB (keepB HB (below1 _ _)) hb); clear hb; have hlt := cell_lt14 c0)
      | (go_at_call 29; refine (applyNil _ _ _ _ _).mono ?_; rintro e w3 ⟨rfl, hb⟩; (first | replace c0 := keep hb c0 | replace c0 := keep hb (keepA _ c0)); (first | replace c1 := keep hb c1 | replace c1 := keep hb (keepA _ c1)); (first | replace c2 := keep hb c2 | replace c2 := keep hb (keepA _ c2)); (first | replace c3 := keep hb c3 | replace c3 := keep hb (keepA _ c3)); (first | replace c4 := keep hb c4 | replace c4 := keep hb (keepA _ c4)); (first | replace c5 := keep hb c5 | replace c5 := keep hb (keepA _ c5)); (first | replace HB := keepB HB hb | replace HB := keepB (keepB HB (below1 _ _)) hb); clear hb; have hlt := cell_lt14 c0)
      | (go_at_call 16; refine (lastNil _).mono ?_; rintro e w3 ⟨rfl, hb⟩; (first | replace c0 := keep hb c0 | replace c0 := keep hb (keepA _ c0)); (first | replace c1 := keep hb c1 | replace c1 := keep hb (keepA _ c1)); (first | replace c2 := keep hb c2 | replace c2 := keep hb (keepA _ c2)); (first | replace c3 := keep hb c3 | replace c3 := keep hb (keepA _ c3)); (first | replace c4 := keep hb c4 | replace c4 := keep hb (keepA _ c4)); (first | replace c5 := keep hb c5 | replace c5 := keep hb (keepA _ c5)); (first | replace HB := keepB HB hb | replace HB := keepB (keepB HB (below1 _ _)) hb); clear hb; have hlt := cell_lt14 c0)
      | (go_at_call 15; refine (lowNil _).mono ?_; rintro e w3 ⟨rfl, hb⟩; (first | replace c0 := keep hb c0 | replace c0 := keep hb (keepA _ c0)); (first | replace c1 := keep hb c1 | replace c1 := keep hb (keepA _ c1)); (first | replace c2 := keep hb c2 | replace c2 := keep hb (keepA _ c2)); (first | replace c3 := keep hb c3 | replace c3 := keep hb (keepA _ c3)); (first | replace c4 := keep hb c4 | replace c4 := keep hb (keepA _ c4)); (first | replace c5 := keep hb c5 | replace c5 := keep hb (keepA _ c5)); (first | replace HB := keepB HB hb | replace HB := keepB (keepB HB (below1 _ _)) hb); clear hb; have hlt := cell_lt14 c0)
      | (go_at_call 31; refine (countNil _).mono ?_; rintro e w3 ⟨rfl, hb⟩; (first | replace c0 := keep hb c0 | replace c0 := keep hb (keepA _ c0)); (first | replace c1 := keep hb c1 | replace c1 := keep hb (keepA _ c1)); (first | replace c2 := keep hb c2 | replace c2 := keep hb (keepA _ c2)); (first | replace c3 := keep hb c3 | replace c3 := keep hb (keepA _ c3)); (first | replace c4 := keep hb c4 | replace c4 := keep hb (keepA _ c4)); (first | replace c5 := keep hb c5 | replace c5 := keep hb (keepA _ c5)); (first | replace HB := keepB HB hb | replace HB := keepB (keepB HB (below1 _ _)) hb); clear hb; have hlt := cell_lt14 c0)
      | (go_at_call 32; refine (exportNil _).mono ?_; rintro e w3 ⟨rfl, hb⟩; (first | replace c0 := keep hb c0 | replace c0 := keep hb (keepA _ c0)); (first | replace c1 := keep hb c1 | replace c1 := keep hb (keepA _ c1)); (first | replace c2 := keep hb c2 | replace c2 := keep hb (keepA _ c2)); (first | replace c3 := keep hb c3 | replace c3 := keep hb (keepA _ c3)); (first | replace c4 := keep hb c4 | replace c4 := keep hb (keepA _ c4)); (first | replace c5 := keep hb c5 | replace c5 := keep hb (keepA _ c5)); (first | replace HB := keepB HB hb | replace HB := keepB (keepB HB (below1 _ _)) hb); clear hb; have hlt := cell_lt14 c0))
    go_ret
    exact ⟨rfl, HB⟩
end Go.Proofs.YtboiafchmdflpaaDoor
