/- Layer 8's Formed: what txn.Formed tells. -/
import Derived.Test.YtjgloipgnnigmaaGreatDoorJ2
import Derived.Deep.RegionHeld3
set_option linter.unusedVariables false
set_option linter.unusedSimpArgs false
namespace Go.Proofs.YtjgloipgnnigmaaGreatDoor
open Go.RowKit Go.Shelf

def valsB (l : List Wr) : Bool := l.all fun x => formedV x.val
def formedT (t : Tx) : Bool :=
  idB t.ses t.seq && decide (t.rds.length ≤ 6) && decide (t.wrs.length ≤ 6) && !decide (t.rds.length + t.wrs.length = 0) &&
    risesTo (rKeys t) t.rds.length && risesTo (wKeys t) t.wrs.length && valsB t.wrs

theorem ret_notB {a b : Bool} (h : a = b) : Ending.returned (.bool (!b)) = .returned (.bool (!a)) := by rw [h]
set_option maxRecDepth 100000 in
theorem badVal_any (s t : ByteArray) (k : Int) (n : Nat) (ht : t.size ≤ 9223372036854775807) (w : World) (hT : Tabs w) : Calls Tryz.prog 145 #[.agg #[.string s, .int .i64 k, .int .u64 n, .string t]] w fun e w' => e = .returned (.bool (!formedV ⟨k, n, t⟩)) ∧ Below w.heap.size w w' := by
  obtain ⟨W, eW, HB, c0, c1, c2, c3⟩ := box4 w (.string s) (.int .i64 k) (.int .u64 n) (.string t) 112
  have hT := hT.later HB
  go_enter Tryz.func145, Tryz.ntmps145
  go_wp2_with (go_at_call 52; refine (formedV_any k n t ht _ hT).mono ?_; rintro e w1 ⟨rfl, hb⟩; replace HB := keepB HB hb)
  go_ret
  exact ⟨rfl, HB⟩

def IndexPost (w : World) (bad : Bool) (e : Ending) (w' : World) : Prop := ∃ z : Int, e = .returned (.int .i64 z) ∧ decide (0 ≤ z) = bad ∧ Below w.heap.size w w'
theorem valsB_bad {l : List Wr} {k : Nat} {x : Wr} (hk : k < l.length) (h : l.getD k noWr = x) (hx : formedV x.val = false) : valsB l = false := by
  rw [List.getD_eq_getElem?_getD, List.getElem?_eq_getElem hk] at h
  simp only [Option.getD_some] at h
  unfold valsB
  rw [List.all_eq_false]
  exact ⟨l[k], List.getElem_mem hk, by rw [h, hx]; simp⟩
theorem valsB_next {l : List Wr} {k : Nat} {x : Wr} (hk : k < l.length) (h : l.getD k noWr = x) (hx : formedV x.val = true) (ha : valsB (l.take k) = true) : valsB (l.take (k + 1)) = true := by
  rw [List.getD_eq_getElem?_getD, List.getElem?_eq_getElem hk] at h
  simp only [Option.getD_some] at h
  unfold valsB at *
  rw [List.take_succ_eq_append_getElem hk, List.all_append, ha, h]
  simp [hx]

set_option maxRecDepth 100000 in
theorem index_any (l : List Wr) (A : Option Addr) (ca : Nat) (w : World) (hA : WrsAt w A l) (hv : ∀ k, k < l.length → (l.getD k noWr).val.Good) (hn : l.length ≤ 9223372036854775807) (hT : Tabs w) :
    Calls Tryz.prog 181 #[.slice A l.length ca, .func (.func 145) #[] #[]] w (IndexPost w (!valsB l)) := by
  go_enter Tryz.func181, Tryz.ntmps181
  go_wp2_with fail
  go_loopw [8] (fun i wr => ∃ k : Nat, k ≤ l.length ∧ i = .int .i64 k ∧ Hid (valsB (l.take k) = true) ∧ Below w.heap.size w wr) (fun i _ => l.length - (intOf i).toNat)
  case atStart => exact ⟨0, Nat.zero_le _, rfl, rfl, Below.refl _ _⟩
  case round =>
    obtain ⟨k, hk, rfl, HA, hw⟩ := hrel
    have hr := hA.later hw
    have hTr := hT.later hw
    by_cases hlt : k < l.length
    · obtain ⟨b, off, s, z, n, t, rfl, d0, d1, d2, d3, HX⟩ := hr.at' hlt
      have hg := hv k hlt
      rw [HX.out] at hg
      have ht : t.size ≤ 9223372036854775807 := hg.t
      clear hg
      cases hf : formedV ⟨z, n, t⟩
      · have HF : Hid ((!valsB l) = true) := by show _ = _; rw [valsB_bad hlt HX.out hf]; rfl
        have hbad : (!formedV ⟨z, n, t⟩) = true := by rw [hf]; rfl
        go_wp2_with (go_at_call 145; refine (badVal_any s t z n ht _ hTr).mono ?_; rintro e w1 ⟨rfl, hb⟩; replace hw := keepB hw hb)
        go_ret
        exact ⟨_, rfl, by rw [HF.out]; simp, hw⟩
      · have HF : Hid (valsB (l.take (k + 1)) = true) := valsB_next hlt HX.out hf HA.out
        have hbad : (!formedV ⟨z, n, t⟩) = false := by rw [hf]; rfl
        go_wp2_with (go_at_call 145; refine (badVal_any s t z n ht _ hTr).mono ?_; rintro e w1 ⟨rfl, hb⟩; replace hw := keepB hw hb)
        go_roundw
        case rel => exact ⟨k + 1, by omega, by go_num, HF, hw⟩
        case measure => simp [intOf]; omega
    · have ek : k = l.length := by omega
      have HF : Hid ((!valsB l) = false) := by show _ = _; have := HA.out; rw [ek, List.take_length] at this; rw [this]; rfl
      go_wp2
      go_ret
      exact ⟨_, rfl, by rw [HF.out]; simp, hw⟩
set_option maxRecDepth 100000 in
theorem contains_any (l : List Wr) (A : Option Addr) (ca : Nat) (w : World) (hA : WrsAt w A l) (hv : ∀ k, k < l.length → (l.getD k noWr).val.Good) (hn : l.length ≤ 9223372036854775807) (hT : Tabs w) :
    Calls Tryz.prog 144 #[.slice A l.length ca, .func (.func 145) #[] #[]] w fun e w' => e = .returned (.bool (!valsB l)) ∧ Below w.heap.size w w' := by
  go_enter Tryz.func144, Tryz.ntmps144
  go_wp2_with (go_at_call 181; refine (index_any l A ca _ hA hv hn hT).mono ?_; rintro e w1 ⟨z, rfl, hz, hb⟩; replace hz := Lib.hid hz)
  go_ret
  exact ⟨ret_bool hz.out.symm, hb⟩

theorem strs_left {w : World} {K : Option Addr} {L M : List ByteArray} (h : StrsAt w K (L ++ M)) : StrsAt w K L := by
  intro i hi
  obtain ⟨b, off, e, hc⟩ := h i (by rw [List.length_append]; omega)
  refine ⟨b, off, e, ?_⟩
  rw [hc]
  show some (Value.string ((L ++ M).getD i noStr)) = some (Value.string (L.getD i noStr))
  rw [List.getD_eq_getElem?_getD, List.getD_eq_getElem?_getD, List.getElem?_append_left hi]
theorem strs_right {w : World} {b off : Nat} {L M : List ByteArray} (h : StrsAt w (some ⟨b, off, none⟩) (L ++ M)) : StrsAt w (some ⟨b, off + L.length, none⟩) M := by
  intro i hi
  obtain ⟨b', off', e, hc⟩ := h (L.length + i) (by rw [List.length_append]; omega)
  injection e with e
  injection e with e1 e2
  subst e1 e2
  refine ⟨_, _, rfl, ?_⟩
  rw [Nat.add_assoc, hc]
  show some (Value.string ((L ++ M).getD (L.length + i) noStr)) = some (Value.string (M.getD i noStr))
  rw [List.getD_eq_getElem?_getD, List.getD_eq_getElem?_getD, List.getElem?_append_right (by omega), Nat.add_sub_cancel_left]
theorem rKeys_size {w : World} {t : Tx} {A B : Option Addr} (h : TxAt w t A B) : ∀ k, k < (rKeys t).length → ((rKeys t).getD k noStr).size ≤ 9223372036854775807 := by
  intro k hk
  have hk' : k < t.rds.length := by simpa [rKeys] using hk
  have := h.rk k hk'
  rw [List.getD_eq_getElem?_getD, List.getElem?_eq_getElem hk'] at this
  rw [List.getD_eq_getElem?_getD, List.getElem?_eq_getElem hk]
  simpa [rKeys] using this
theorem wKeys_size {w : World} {t : Tx} {A B : Option Addr} (h : TxAt w t A B) : ∀ k, k < (wKeys t).length → ((wKeys t).getD k noStr).size ≤ 9223372036854775807 := by
  intro k hk
  have hk' : k < t.wrs.length := by simpa [wKeys] using hk
  have := h.wk k hk'
  rw [List.getD_eq_getElem?_getD, List.getElem?_eq_getElem hk'] at this
  rw [List.getD_eq_getElem?_getD, List.getElem?_eq_getElem hk]
  simpa [wKeys] using this

theorem calls_bool {P : Program} {f : FuncId} {args : Array Value} {w : World} {z x : Bool} (e : z = x)
    (h : Calls P f args w fun e w' => e = .returned (.bool z) ∧ Below w.heap.size w w') :
    Calls P f args w fun e w' => e = .returned (.bool x) ∧ Below w.heap.size w w' := by
  rw [e] at h; exact h
theorem keys_at (t : Tx) (A B : Option Addr) (ca cb : Nat) (w : World) (h : TxAt w t A B) (hn : t.rds.length ≤ 6) (hm : t.wrs.length ≤ 6) (h0 : ¬ t.rds.length + t.wrs.length = 0) :
    Calls Tryz.prog 136 #[txV t A B ca cb] w fun e w' => ∃ (b off ck : Nat), e = .returned (.slice (some ⟨b, off, none⟩) (t.rds.length + t.wrs.length) ck) ∧ t.rds.length + t.wrs.length ≤ ck ∧ StrsAt w' (some ⟨b, off, none⟩) (rKeys t ++ wKeys t) ∧ Below w.heap.size w w' := by
  refine (keys_any t A B ca cb w h hn hm).mono ?_
  rintro e w' ⟨K, ck, rfl, hck, hK, hb⟩
  have hl : (rKeys t ++ wKeys t).length = t.rds.length + t.wrs.length := by simp [rKeys, wKeys]
  rw [hl] at hck ⊢
  obtain ⟨b, off, rfl, _⟩ := hK 0 (by omega)
  exact ⟨b, off, ck, rfl, hck, hK, hb⟩
theorem rises_left {t : Tx} {K : Option Addr} {ck : Nat} {w : World} (hK : StrsAt w K (rKeys t ++ wKeys t)) (h6 : t.rds.length ≤ 6) (hs : ∀ k, k < (rKeys t).length → ((rKeys t).getD k noStr).size ≤ 9223372036854775807) :
    Calls Tryz.prog 143 #[.slice K t.rds.length ck] w fun e w' => e = .returned (.bool (risesTo (rKeys t) (rKeys t).length)) ∧ Below w.heap.size w w' := by
  have hl : t.rds.length = (rKeys t).length := by simp [rKeys]
  rw [hl]
  exact rises_any _ _ _ _ (strs_left hK) (by omega) hs
theorem rises_right {t : Tx} {b off ck : Nat} {w : World} (hK : StrsAt w (some ⟨b, off, none⟩) (rKeys t ++ wKeys t)) (h6 : t.wrs.length ≤ 6) (hck : t.rds.length + t.wrs.length ≤ ck) (hs : ∀ k, k < (wKeys t).length → ((wKeys t).getD k noStr).size ≤ 9223372036854775807) (m c : Nat) (K' : Option Addr) (hm : m = t.wrs.length) (hK' : K' = if ck = t.rds.length then some ⟨b, off, none⟩ else some ⟨b, off + t.rds.length, none⟩) :
    Calls Tryz.prog 143 #[.slice K' m c] w fun e w' => e = .returned (.bool (risesTo (wKeys t) (wKeys t).length)) ∧ Below w.heap.size w w' := by
  have hl : t.wrs.length = (wKeys t).length := by simp [wKeys]
  have hl2 : t.rds.length = (rKeys t).length := by simp [rKeys]
  subst hm
  rw [hl]
  refine rises_any _ _ _ _ ?_ (by omega) hs
  subst hK'
  split
  · intro i hi
    omega
  · rw [hl2]
    exact strs_right hK

set_option maxRecDepth 100000 in
set_option maxHeartbeats 2000000 in
theorem txFormed_any (t : Tx) (A B : Option Addr) (ca cb : Nat) (w : World) (h : TxAt w t A B) (hT : Tabs w) :
    Calls Tryz.prog 97 #[txV t A B ca cb] w fun e w' => e = .returned (.bool (formedT t)) ∧ Below w.heap.size w w' := by
  unfold txV
  obtain ⟨W, eW, HB, c0, c1, c2, c3⟩ := box4 w (.int .i64 t.ses) (.int .i64 t.seq) (.slice A t.rds.length ca) (.slice B t.wrs.length cb) 37
  have h := h.later HB
  have hT := hT.later HB
  have HS1 := Lib.hid (rKeys_size h)
  have HS2 := Lib.hid (wKeys_size h)
  have HE : Hid (formedT t = (idB t.ses t.seq && decide (t.rds.length ≤ 6) && decide (t.wrs.length ≤ 6) && !decide (t.rds.length + t.wrs.length = 0) && risesTo (rKeys t) (rKeys t).length && risesTo (wKeys t) (wKeys t).length && valsB t.wrs)) := by
    show _ = _
    rw [formedT, show (rKeys t).length = t.rds.length by simp [rKeys], show (wKeys t).length = t.wrs.length by simp [wKeys]]
  have hrn := h.rn
  have hwn := h.wn
  cases hid : idB t.ses t.seq
  · have HF : Hid (formedT t = false) := by show _ = _; rw [HE.out, hid]; simp
    go_enter Tryz.func97, Tryz.ntmps97
    go_wp2_with (go_at_call 98; refine (id_any _ _ _).mono ?_; rintro e w1 ⟨rfl, hb⟩; replace HB := keepB HB hb)
    go_ret
    exact ⟨ret_bool HF.out, HB⟩
  · by_cases hn : t.rds.length ≤ 6
    · by_cases hm : t.wrs.length ≤ 6
      · by_cases h0 : t.rds.length + t.wrs.length = 0
        · have HF : Hid (formedT t = false) := by show _ = _; rw [HE.out]; simp [h0]
          have h0' : ((t.rds.length : Int) + (t.wrs.length : Int) == 0) = true := by simp; omega
          go_enter Tryz.func97, Tryz.ntmps97
          go_wp2_with (go_at_call 98; refine (id_any _ _ _).mono ?_; rintro e w1 ⟨rfl, hb⟩; replace c2 := keep hb c2; replace c3 := keep hb c3; replace HB := keepB HB hb)
          go_ret
          exact ⟨ret_bool HF.out, HB⟩
        · have HF : Hid (formedT t = (risesTo (rKeys t) (rKeys t).length && risesTo (wKeys t) (wKeys t).length && valsB t.wrs)) := by
            show _ = _
            rw [HE.out, hid, decide_eq_true hn, decide_eq_true hm, decide_eq_false h0]
            simp
          have h0' : ((t.rds.length : Int) + (t.wrs.length : Int) == 0) = false := by simp; omega
          have h0n := Lib.hid h0
          clear h0
          obtain ⟨r1, hr1⟩ : ∃ r, Hid (risesTo (rKeys t) (rKeys t).length = r) := ⟨_, rfl⟩
          obtain ⟨r2, hr2⟩ : ∃ r, Hid (risesTo (wKeys t) (wKeys t).length = r) := ⟨_, rfl⟩
          obtain ⟨r3, hr3⟩ : ∃ r, Hid ((!valsB t.wrs) = r) := ⟨_, rfl⟩
          have hvv : valsB t.wrs = !r3 := by rw [← hr3.out]; simp
          replace HF := Lib.hid HF.out
          rw [hr1.out, hr2.out, hvv] at HF
          clear hvv
          have hcase : r1 = false ∨ (r1 = true ∧ r2 = false) ∨ (r1 = true ∧ r2 = true) := by cases r1 <;> cases r2 <;> simp
          rcases hcase with rfl | ⟨rfl, rfl⟩ | ⟨rfl, rfl⟩
          · replace HF := Lib.hid (show formedT t = false by rw [HF.out]; simp)
            go_enter Tryz.func97, Tryz.ntmps97
            go_wp2_with (first
              | (go_at_call 98; refine (id_any _ _ _).mono ?_; rintro e w1 ⟨rfl, hb⟩; replace c0 := keep hb c0; replace c1 := keep hb c1; replace c2 := keep hb c2; replace c3 := keep hb c3; replace h := h.later hb; replace hT := hT.later hb; replace HB := keepB HB hb; clear hb)
              | (go_at_call 136; refine (keys_at t A B ca cb _ h hn hm h0n.out).mono ?_; rintro e w2 ⟨bk, ok, ck, rfl, hck, hK, hb⟩; replace c2 := keep hb c2; replace c3 := keep hb c3; replace h := h.later hb; replace hT := hT.later hb; replace HB := keepB HB hb; clear hb; have hck' : t.rds.length ≤ ck := (by omega))
              | (go_at_call 143; refine (calls_bool hr2.out (rises_right hK hm hck HS2.out _ _ _ (by omega) (by rfl))).mono ?_; rintro e w4 ⟨rfl, hb⟩; replace c3 := keep hb c3; replace h := h.later hb; replace hT := hT.later hb; replace HB := keepB HB hb; clear hb)
              | (go_at_call 143; refine (calls_bool hr1.out (rises_left hK hn HS1.out)).mono ?_; rintro e w3 ⟨rfl, hb⟩; replace c3 := keep hb c3; replace h := h.later hb; replace hT := hT.later hb; replace hK := CellsAt.later hK hb; replace HB := keepB HB hb; clear hb)
              | (go_at_call 144; refine (calls_bool hr3.out (contains_any t.wrs B cb _ h.wrs h.wv h.wn hT)).mono ?_; rintro e w5 ⟨rfl, hb⟩; replace HB := keepB HB hb; clear hb))
            all_goals go_ret
            all_goals exact ⟨ret_bool HF.out, HB⟩
          · replace HF := Lib.hid (show formedT t = false by rw [HF.out]; simp)
            go_enter Tryz.func97, Tryz.ntmps97
            go_wp2_with (first
              | (go_at_call 98; refine (id_any _ _ _).mono ?_; rintro e w1 ⟨rfl, hb⟩; replace c0 := keep hb c0; replace c1 := keep hb c1; replace c2 := keep hb c2; replace c3 := keep hb c3; replace h := h.later hb; replace hT := hT.later hb; replace HB := keepB HB hb; clear hb)
              | (go_at_call 136; refine (keys_at t A B ca cb _ h hn hm h0n.out).mono ?_; rintro e w2 ⟨bk, ok, ck, rfl, hck, hK, hb⟩; replace c2 := keep hb c2; replace c3 := keep hb c3; replace h := h.later hb; replace hT := hT.later hb; replace HB := keepB HB hb; clear hb; have hck' : t.rds.length ≤ ck := (by omega))
              | (go_at_call 143; refine (calls_bool hr2.out (rises_right hK hm hck HS2.out _ _ _ (by omega) (by rfl))).mono ?_; rintro e w4 ⟨rfl, hb⟩; replace c3 := keep hb c3; replace h := h.later hb; replace hT := hT.later hb; replace HB := keepB HB hb; clear hb)
              | (go_at_call 143; refine (calls_bool hr1.out (rises_left hK hn HS1.out)).mono ?_; rintro e w3 ⟨rfl, hb⟩; replace c3 := keep hb c3; replace h := h.later hb; replace hT := hT.later hb; replace hK := CellsAt.later hK hb; replace HB := keepB HB hb; clear hb)
              | (go_at_call 144; refine (calls_bool hr3.out (contains_any t.wrs B cb _ h.wrs h.wv h.wn hT)).mono ?_; rintro e w5 ⟨rfl, hb⟩; replace HB := keepB HB hb; clear hb))
            all_goals go_ret
            all_goals exact ⟨ret_bool HF.out, HB⟩
          · cases r3
            all_goals
              go_enter Tryz.func97, Tryz.ntmps97
              go_wp2_with (first
                | (go_at_call 98; refine (id_any _ _ _).mono ?_; rintro e w1 ⟨rfl, hb⟩; replace c0 := keep hb c0; replace c1 := keep hb c1; replace c2 := keep hb c2; replace c3 := keep hb c3; replace h := h.later hb; replace hT := hT.later hb; replace HB := keepB HB hb; clear hb)
                | (go_at_call 136; refine (keys_at t A B ca cb _ h hn hm h0n.out).mono ?_; rintro e w2 ⟨bk, ok, ck, rfl, hck, hK, hb⟩; replace c2 := keep hb c2; replace c3 := keep hb c3; replace h := h.later hb; replace hT := hT.later hb; replace HB := keepB HB hb; clear hb; have hck' : t.rds.length ≤ ck := (by omega))
                | (go_at_call 143; refine (calls_bool hr2.out (rises_right hK hm hck HS2.out _ _ _ (by omega) (by rfl))).mono ?_; rintro e w4 ⟨rfl, hb⟩; replace c3 := keep hb c3; replace h := h.later hb; replace hT := hT.later hb; replace HB := keepB HB hb; clear hb)
                | (go_at_call 143; refine (calls_bool hr1.out (rises_left hK hn HS1.out)).mono ?_; rintro e w3 ⟨rfl, hb⟩; replace c3 := keep hb c3; replace h := h.later hb; replace hT := hT.later hb; replace hK := CellsAt.later hK hb; replace HB := keepB HB hb; clear hb)
                | (go_at_call 144; refine (calls_bool hr3.out (contains_any t.wrs B cb _ h.wrs h.wv h.wn hT)).mono ?_; rintro e w5 ⟨rfl, hb⟩; replace HB := keepB HB hb; clear hb))
              all_goals go_ret
              all_goals exact ⟨ret_bool HF.out, HB⟩
      · have HF : Hid (formedT t = false) := by show _ = _; rw [HE.out]; simp [hm]
        go_enter Tryz.func97, Tryz.ntmps97
        go_wp2_with (go_at_call 98; refine (id_any _ _ _).mono ?_; rintro e w1 ⟨rfl, hb⟩; replace c2 := keep hb c2; replace c3 := keep hb c3; replace HB := keepB HB hb)
        go_ret
        exact ⟨ret_bool HF.out, HB⟩
    · have HF : Hid (formedT t = false) := by show _ = _; rw [HE.out]; simp [hn]
      go_enter Tryz.func97, Tryz.ntmps97
      go_wp2_with (go_at_call 98; refine (id_any _ _ _).mono ?_; rintro e w1 ⟨rfl, hb⟩; replace c2 := keep hb c2; replace c3 := keep hb c3; replace HB := keepB HB hb)
      go_ret
      exact ⟨ret_bool HF.out, HB⟩
end Go.Proofs.YtjgloipgnnigmaaGreatDoor
