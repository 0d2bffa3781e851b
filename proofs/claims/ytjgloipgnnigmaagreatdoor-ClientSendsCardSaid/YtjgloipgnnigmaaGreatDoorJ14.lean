/- The client's Snapshot. -/
import Derived.Test.YtjgloipgnnigmaaGreatDoorJ13
import Derived.Test.YtjgloipgnnigmaaGreatDoorJ10
import Derived.Test.YtjgloipgnnigmaaGreatDoorJ2
import Derived.Test.YtjgloipgnnigmaaGreatDoorJ11
import Derived.RegionTactic
import Derived.Test.YtjgloipgnnigmaaGreatDoorJ12
set_option linter.unusedVariables false
set_option linter.unusedSimpArgs false
namespace Go.Proofs.YtjgloipgnnigmaaGreatDoor
open Go.RowKit Go.Shelf Go.Sort

theorem wantsD_snoc (l : List (Nat × ByteArray × Nat)) (q : Nat × ByteArray × Nat) : ∀ x : CliD, wantsD x (l ++ [q]) = wantD (wantsD x l) q.1 q.2.1 q.2.2 := by
  induction l with
  | nil => intro x; rfl
  | cons p l ih => intro x; obtain ⟨g, k, s⟩ := p; exact ih _
theorem wantsL_snoc (c : Cfg) (l : List (Nat × ByteArray × Nat)) (q : Nat × ByteArray × Nat) : ∀ x : CliD, wantsL c x (l ++ [q]) = wantsL c x l ++ [sentD c (wantsD x l) (askD (wantsD x l) q.1 q.2.1 q.2.2)] := by
  induction l with
  | nil => intro x; rfl
  | cons p l ih => intro x; obtain ⟨g, k, s⟩ := p; show _ :: wantsL c _ (l ++ [q]) = _; rw [ih]; rfl
theorem wants_take {α : Type} (f : α → Nat × ByteArray × Nat) (c : Cfg) (x : CliD) {L : List α} {k : Nat} {d a : α} (hk : k < L.length) (e : L.getD k d = a) :
    wantsD x ((L.take (k + 1)).map f) = wantD (wantsD x ((L.take k).map f)) (f a).1 (f a).2.1 (f a).2.2 ∧ wantsL c x ((L.take (k + 1)).map f) = wantsL c x ((L.take k).map f) ++ [sentD c (wantsD x ((L.take k).map f)) (askD (wantsD x ((L.take k).map f)) (f a).1 (f a).2.1 (f a).2.2)] := by
  rw [map_take_snoc f hk e]
  exact ⟨wantsD_snoc _ _ _, wantsL_snoc _ _ _ _⟩
theorem wantsD_nums (l : List (Nat × ByteArray × Nat)) (x : CliD) : (wantsD x l).num = x.num + l.length ∧ (wantsD x l).asks.length = x.asks.length + l.length ∧ (wantsD x l).turn = x.turn := by
  obtain ⟨_, _, a3, _, _, _, _, _, a9, a10⟩ := wantsD_state l x
  exact ⟨a9, a10, a3⟩
theorem sentD_want (c : Cfg) (y : CliD) (g : Nat) (k : ByteArray) (s : Nat) : sentD c (wantD y g k s) (askD y g k s) = sentD c y (askD y g k s) := rfl
def fW (g : Int) : Nat × ByteArray × Nat := (g.toNat, noStr, 0)
/-- Behind the three stores of a snapshot. -/
theorem snap_put {w wr w5 : World} {B p c5 : Nat} {K : CliK} {x : CliD} {O : Nat → Prop} {keys : List ByteArray} {A5 : Option Addr} (h : CliAt w5 B p K x O) (hb : Below w.heap.size w w5) (hlt : ∀ k, O k → B ≤ k ∧ k < w.heap.size) (hB : B ≤ w.heap.size)
    (hO5 : w5.ownsRow wr.heap.size 9 1 (.slice A5 keys.length c5) keys.length (keys.map Value.string)) (hwr : w.heap.size ≤ wr.heap.size) :
    ∃ wA, ((w5.setCell ⟨p, 3, none⟩ (.int .i64 3)).setCell ⟨p, 11, none⟩ (.slice A5 keys.length c5)).setCell ⟨p, 12, none⟩ (.int .u64 18446744073709551615) = wA ∧
      (∃ v, w5.cell? ⟨p, 3, none⟩ = some v) ∧ (∃ v, (w5.setCell ⟨p, 3, none⟩ (.int .i64 3)).cell? ⟨p, 11, none⟩ = some v) ∧ (∃ v, ((w5.setCell ⟨p, 3, none⟩ (.int .i64 3)).setCell ⟨p, 11, none⟩ (.slice A5 keys.length c5)).cell? ⟨p, 12, none⟩ = some v) ∧
      w5.frozen? ⟨p, 3, none⟩ = false ∧ (w5.setCell ⟨p, 3, none⟩ (.int .i64 3)).frozen? ⟨p, 11, none⟩ = false ∧ ((w5.setCell ⟨p, 3, none⟩ (.int .i64 3)).setCell ⟨p, 11, none⟩ (.slice A5 keys.length c5)).frozen? ⟨p, 12, none⟩ = false ∧
      wA.cell? ⟨p, 0, none⟩ = some (.slice K.A K.c.reps.length K.ca) ∧
      wA.cell? ⟨p, 1, none⟩ = some (.slice K.B K.c.bnds.length K.cb) ∧
      CliAt wA B p K (snap0 x keys) (ext O w w5) ∧ Out O w wA := by
  obtain ⟨vr, vw, va, vk, h5⟩ := h
  have hB5 := Nat.le_trans hB hb.size
  have h5w := h5.widen (w := w) (fun k hk => (hlt k hk).2) hB
  have hp := hlt p h5.hp
  have hf : ∀ g, (Value.slice A5 keys.length c5).ownBlock = some g → wr.heap.size ≤ g ∧ g < w5.heap.size := fun g hg => hO5.lt g hg
  have h3 := h5w.s3 3
  have hrow : (w5.setCell ⟨p, 3, none⟩ (.int .i64 ((3 : Nat) : Int))).ownsRow B 9 1 (.slice A5 keys.length c5) keys.length (keys.map Value.string) :=
    (out_set21 w5 p 3 _).row (World.ownsRow.mono hO5 (Nat.le_trans hB hwr)) (fun g hg e => by have := (hf g hg).1; omega)
  have hap : ∀ u : Value, (∀ g, u.ownBlock = some g → O g) → Apart (.slice A5 keys.length c5) u := fun u hu g hg e => by have := (hlt g (hu g e)).2; have := (hf g hg).1; omega
  have h11 := h3.setk hrow (fun g hg => ⟨.inr ⟨by have := (hf g hg).1; omega, (hf g hg).2⟩, fun e => by have := (hf g hg).1; omega⟩) (hap vr fun g hg => (h5.mir g hg).1) (hap vw fun g hg => (h5.miw g hg).1) (hap va fun g hg => (h5.mia g hg).1)
  have h12 := h11.s12 mostS
  obtain ⟨_, _, _, c3, _⟩ := h5.cs
  obtain ⟨_, _, _, _, _, _, _, _, _, _, _, c11, _⟩ := h3.cs
  obtain ⟨_, _, _, _, _, _, _, _, _, _, _, _, c12⟩ := h11.cs
  obtain ⟨d0, d1, _⟩ := h12.cs
  exact ⟨_, rfl, ⟨_, c3⟩, ⟨_, c11⟩, ⟨_, c12⟩, h5.fz 3, h3.fz 11, h11.fz 12, d0, d1, ⟨_, _, _, _, h12⟩, out_p h5.hp (out_p h5.hp (out_p h5.hp (Out.of_below hb)))⟩
section
variable {w : World} {B p : Nat} {K : CliK} {x : CliD} {O : Nat → Prop}
set_option maxRecDepth 100000 in
set_option maxHeartbeats 4000000 in
/-- Where nothing is asked. -/
theorem snap_no (h : CliAt w B p K x O) (hB : B ≤ w.heap.size) (keys : List ByteArray) (A1 : Option Addr) (c1 : Nat) (hK : snapK x keys = 0 ∨ keys.length < 1 ∨ 6 < keys.length) :
    Calls Tryz.prog 12 #[.pointer (some ⟨p, 0, none⟩), .slice A1 keys.length c1] w (SndPost w B p K O (snapD K.c x keys) (snapL K.c x keys) (snapE x keys)) := by
  by_cases s0 : x.state = 0
  · have q0 : ((x.state : Int) == 0) = true := by rw [beq_iff_eq]; omega
    have hb : ¬ (1 ≤ keys.length ∧ keys.length ≤ 6) := by
      rcases hK with q | q | q
      · intro hh
        simp only [snapK, s0, ne_eq, not_true_eq_false, if_false] at q
        split at q <;> cases q
      · omega
      · omega
    have HR : Hid (snapK x keys = 1) := by
      show _ = _
      have : (decide (1 ≤ keys.length) && decide (keys.length ≤ 6)) = false := by rw [← Bool.decide_and, decide_eq_false_iff_not]; exact hb
      simp [snapK, s0, this]
    have HP : Hid (∀ w', Below w.heap.size w w' → SndPost w B p K O (snapD K.c x keys) (snapL K.c x keys) (snapE x keys) (.returned (.tuple #[.slice none 0 0, .int .i64 1])) w') := fun w' hb => snd_none h hB hb (by simp [snapL, HR.out]) (by simp [snapD, HR.out]) (by simp [snapE, HR.out])
    clear hK
    by_cases h1 : keys.length < 1
    · have q1 : decide ((keys.length : Int) < 1) = true := by rw [decide_eq_true_iff]; omega
      have q2 : decide (keys.length < 1) = true := by rw [decide_eq_true_iff]; omega
      have q3 : decide (keys.length = 0) = true := by rw [decide_eq_true_iff]; omega
      clear h1 hb s0
      go_enter Tryz.func12, Tryz.ntmps12
      go_wp2_with (go_at_call 35; refine (in_any h 0 true q0).mono ?_; rintro e w1 ⟨rfl, rfl⟩)
      go_ret2
      exact HP.out _ (Below.refl _ _)
    · have q1 : decide ((keys.length : Int) < 1) = false := by rw [decide_eq_false_iff_not]; omega
      have q2 : decide (keys.length < 1) = false := by rw [decide_eq_false_iff_not]; omega
      have q2b : decide (keys.length = 0) = false := by rw [decide_eq_false_iff_not]; omega
      have q3 : decide ((6 : Int) < (keys.length : Int)) = true := by rw [decide_eq_true_iff]; omega
      have q4 : decide (6 < keys.length) = true := by rw [decide_eq_true_iff]; omega
      clear h1 hb s0
      go_enter Tryz.func12, Tryz.ntmps12
      go_wp2_with (go_at_call 35; refine (in_any h 0 true q0).mono ?_; rintro e w1 ⟨rfl, rfl⟩)
      go_ret2
      exact HP.out _ (Below.refl _ _)
  · have q0 : ((x.state : Int) == 0) = false := by rw [beq_eq_false_iff_ne]; omega
    have HR : Hid (snapK x keys = 0) := by show _ = _; simp [snapK, s0]
    have HP : Hid (∀ w', Below w.heap.size w w' → SndPost w B p K O (snapD K.c x keys) (snapL K.c x keys) (snapE x keys) (.returned (.tuple #[.slice none 0 0, .int .i64 11])) w') := fun w' hb => snd_none h hB hb (by simp [snapL, HR.out]) (by simp [snapD, HR.out]) (by simp [snapE, HR.out])
    clear s0 hK
    go_enter Tryz.func12, Tryz.ntmps12
    go_wp2_with (go_at_call 35; refine (in_any h 0 false q0).mono ?_; rintro e w1 ⟨rfl, rfl⟩)
    go_ret2
    exact HP.out _ (Below.refl _ _)
set_option maxRecDepth 100000 in
set_option maxHeartbeats 8000000 in
/-- Where the keys are looked at. -/
theorem snap_yes {N : Nat} (h : CliAt w B p K x O) (hB : B ≤ w.heap.size) (hC : ∀ w', Below B w w' → CfgAt w' K.c K.A K.B) (hf : formedB K.c = true) (hca : K.c.reps.length ≤ K.ca) (hI : CliInv K.c N x) (hN : N ≤ 100000)
    (keys : List ByteArray) (A1 : Option Addr) (c1 bk : Nat) (hkr : w.ownsRow bk 9 1 (.slice A1 keys.length c1) keys.length (keys.map Value.string)) (hko : ∀ a, A1 = some a → ¬ O a.block) (hs : ∀ k, k < keys.length → (keys.getD k noStr).size ≤ maxLen)
    (s0 : x.state = 0) (h1 : 1 ≤ keys.length) (h6 : keys.length ≤ 6) :
    Calls Tryz.prog 12 #[.pointer (some ⟨p, 0, none⟩), .slice A1 keys.length c1] w (SndPost w B p K O (snapD K.c x keys) (snapL K.c x keys) (snapE x keys)) := by
  have hlt := Lib.hid h.lt'
  have q0 : ((x.state : Int) == 0) = true := by rw [beq_iff_eq]; omega
  have q1 : decide ((keys.length : Int) < 1) = false := by rw [decide_eq_false_iff_not]; omega
  have q2 : decide (keys.length < 1) = false := by rw [decide_eq_false_iff_not]; omega
  have q2b : decide (keys.length = 0) = false := by rw [decide_eq_false_iff_not]; omega
  have q3 : decide ((6 : Int) < (keys.length : Int)) = false := by rw [decide_eq_false_iff_not]; omega
  have q4 : decide (6 < keys.length) = false := by rw [decide_eq_false_iff_not]; omega
  have hkr0 := Lib.hid hkr
  obtain ⟨A1', c1', e1, _, hK⟩ := own_strs hkr
  cases e1
  have HKd : Hid (snapK x keys = if risesTo keys keys.length then 2 else 1) := by
    show _ = _
    have : (decide (1 ≤ keys.length) && decide (keys.length ≤ 6)) = true := by rw [← Bool.decide_and, decide_eq_true_iff]; exact ⟨h1, h6⟩
    cases hr : risesTo keys keys.length <;> simp [snapK, s0, this, hr]
  have HF0 : Hid (∀ w', risesTo keys keys.length = false → Below w.heap.size w w' → SndPost w B p K O (snapD K.c x keys) (snapL K.c x keys) (snapE x keys) (.returned (.tuple #[.slice none 0 0, .int .i64 1])) w') := fun w' hr hb => by
    have HR : snapK x keys = 1 := by rw [HKd.out, hr]; rfl
    exact snd_none h hB hb (by simp [snapL, HR]) (by simp [snapD, HR]) (by simp [snapE, HR])
  have hg61 : Hid (keys.length ≤ 6) := h6
  have hnum := hI.nm
  have htn := hI.tn
  have hasks : x.asks = [] := (hI.idle s0).1
  have hf0 := Lib.hid hf
  have hcl := (formed_len hf).2.1
  have hlen9 : Hid (keys.length ≤ 9223372036854775807) := by show _ ≤ _; omega
  replace hasks := Lib.hid hasks
  replace hnum := Lib.hid hnum
  replace hcl := Lib.hid hcl
  replace hkr := Lib.hid hkr
  clear s0 h1 h6 hI hf
  go_enter Tryz.func12, Tryz.ntmps12
  go_wp2_with (go_at_call 35; refine (in_any h 0 true q0).mono ?_; rintro e w1 ⟨rfl, rfl⟩)
  replace h := Lib.hid h
  go_loopw [24] (fun i wr => ∃ k : Nat, k ≤ keys.length ∧ i = .int .i64 k ∧ Hid (risesTo keys k = true) ∧ Below w.heap.size w wr) (fun i _ => keys.length - (intOf i).toNat)
  case atStart => exact ⟨0, Nat.zero_le _, rfl, rfl, Below.refl _ _⟩
  case round =>
    obtain ⟨k, hk, rfl, HA, hw⟩ := hrel
    have hKr := CellsAt.later hK hw
    have hk6 : k ≤ 6 := by have := hg61.out; omega
    by_cases hltk : k < keys.length
    · obtain ⟨b, off, y, rfl, hc, HX⟩ := StrsAt.at' hKr hltk
      have hsx : y.size ≤ maxLen := by have := hs k hltk; rw [HX.out] at this; exact this
      cases hkey : keyB y
      · have HF : Hid (risesTo keys keys.length = false) := risesTo_false hltk (by simp only [riseAt, HX.out, hkey, Bool.false_and])
        go_wp2_with (go_at_call 36; refine (key_any _ _ hsx).mono ?_; rintro e w2 ⟨rfl, hb⟩; replace hw := keepB hw hb)
        go_ret2
        exact HF0.out _ HF.out hw
      · by_cases hk0 : k = 0
        · have HR : Hid (risesTo keys (k + 1) = true) := risesTo_next0 HA.out HX.out hkey hk0
          have hg : decide (0 < k) = false := by rw [decide_eq_false_iff_not]; omega
          clear hk0
          go_wp2_with (go_at_call 36; refine (key_any _ _ hsx).mono ?_; rintro e w2 ⟨rfl, hb⟩; replace hw := keepB hw hb)
          go_roundw
          case rel => exact ⟨k + 1, by omega, by go_num, HR, hw⟩
          case measure => simp [intOf]; omega
        · obtain ⟨b', off', z, e, hc', HY⟩ := StrsAt.at' hKr (k := k - 1) (by omega)
          injection e with e
          injection e with e1 e2
          subst e1 e2
          have hg : decide (0 < k) = true := by rw [decide_eq_true_iff]; omega
          have hi : ((k : Int) - 1).toNat = k - 1 := by omega
          have hk1 : 1 ≤ k := by omega
          cases hl : lessS z y
          · have HF : Hid (risesTo keys keys.length = false) := risesTo_false hltk (by simp only [riseAt, HX.out, HY.out, hkey, hl, beq_eq_false_iff_ne.2 hk0, Bool.false_or, Bool.and_false])
            have hl' : Op.bytesLess z.toList y.toList = false := hl
            clear hl hk0
            go_wp2_with (go_at_call 36; refine (key_any _ _ hsx).mono ?_; rintro e w2 ⟨rfl, hb⟩; replace hc' := keep hb hc'; replace hw := keepB hw hb)
            go_ret2
            exact HF0.out _ HF.out hw
          · have HR : Hid (risesTo keys (k + 1) = true) := risesTo_next HA.out HX.out HY.out hkey hl
            have hl' : Op.bytesLess z.toList y.toList = true := hl
            clear hl hk0
            go_wp2_with (go_at_call 36; refine (key_any _ _ hsx).mono ?_; rintro e w2 ⟨rfl, hb⟩; replace hc' := keep hb hc'; replace hw := keepB hw hb)
            go_roundw
            case rel => exact ⟨k + 1, by omega, by go_num, HR, hw⟩
            case measure => simp [intOf]; omega
    · have ek : k = keys.length := by omega
      have HRT : Hid (snapK x keys = 2) := by
        have := HA.out
        rw [ek] at this
        show _ = _
        rw [HKd.out, this]; rfl
      have hkw := Lib.hid (own_keep hkr.out hw)
      clear HA ek
      have hClone : Hid (Calls Tryz.prog 43 #[.slice A1 keys.length c1] wr (ClonePost wr 9 1 keys.length (keys.map Value.string))) := cloneS_any keys _ bk wr hkw.out (by have := hg61.out; omega)
      have hClone2 := hClone
      obtain ⟨L, hL⟩ : ∃ L, groupsL K.c keys = L := ⟨_, rfl⟩
      have hLm : Hid (∀ j, j < L.length → ∃ m : Nat, m < K.c.reps.length ∧ L.getD j 0 = (m : Int)) := by
        intro j hj
        subst hL
        have hmem : (groupsL K.c keys).getD j 0 ∈ groupsL K.c keys := getD_mem hj
        obtain ⟨g0, g1⟩ := groupsL_mem hmem
        exact ⟨_, g1, (Int.toNat_of_nonneg g0).symm⟩
      have hLn : Hid (L.length ≤ 4) := by
        have := snapW_len K.c keys hf0.out
        rw [snapW, List.length_map, hL] at this
        exact this
      have HSn : Hid (snapD K.c x keys = wantsD (snap0 x keys) (L.map fW) ∧ snapL K.c x keys = wantsL K.c (snap0 x keys) (L.map fW) ∧ snapE x keys = 0) := by
        show _ ∧ _ ∧ _
        rw [snapD, snapL, snapE, if_pos HRT.out, if_pos HRT.out, snapW, hL, HRT.out]
        exact ⟨rfl, rfl, rfl⟩
      have HG : Hid (∀ wz, CfgAt wz K.c K.A K.B → StrsAt wz A1 keys → Calls Tryz.prog 44 #[.agg #[.slice K.A K.c.reps.length K.ca, .slice K.B K.c.bnds.length K.cb], .slice A1 keys.length c1] wz (IntsPostF wz L)) := fun wz a1 a2 => by
        rw [← hL]
        exact groups_anyF K.c keys K.A K.B A1 K.ca K.cb c1 wz a1 a2 (by have := hg61.out; omega)
      clear hL
      have hk0 := Lib.hid hK
      go_wp2_with (first
        | (go_at_call 43; refine hClone.out.mono ?_; rintro e w5 ⟨v5, rfl, hO5, hb5⟩; obtain ⟨A5, c5, rfl⟩ := own_form hO5; obtain ⟨wA, ewA, ⟨_, z3⟩, ⟨_, z11⟩, ⟨_, z12⟩, g3, g11, g12, d0, d1, hA, hoA⟩ := snap_put (CliAt.later h.out (keepB hw hb5)) (keepB hw hb5) hlt.out hB hO5 (Nat.le_trans hw.size (Nat.le_refl _)); replace hA := Lib.hid hA; replace hoA := Lib.hid hoA)
        | (go_at_call 44; refine (HG.out wA (hC wA (hoA.out.below hB (fun k hk => (hlt.out k hk).1))) (CellsAt.out hk0.out hoA.out hko)).mono ?_; rintro e w9 ⟨I, cI, rfl, hI, hb9, hIf⟩))
      have hs9 := hb9.size
      have hoA9 := Lib.hid (hoA.out.trans' (Out.of_below hb9))
      have hsA := hoA.out.size
      have hA9 := Lib.hid (CliAt.later hA.out hb9)
      have hb5s := hb5.size
      have hsw := hw.size
      have hlt9 := Lib.hid hA9.out.lt'
      have hI9 : Hid (∀ a, I = some a → ¬ ext O w w5 a.block) := fun a e q => by
        have h1 := hIf a e
        have h2 := (hA.out.lt' _ q).2
        omega
      have hO9 : Hid (∀ k, ext O w w5 k → O k ∨ w.heap.size ≤ k) := fun k q => q.elim .inl (fun q => .inr q.1)
      have hnum0 : Hid ((snap0 x keys).num = x.num ∧ (snap0 x keys).asks.length = 0 ∧ (snap0 x keys).turn = x.turn) := by
        show _ ∧ _ ∧ _
        exact ⟨rfl, by show x.asks.length = 0; rw [hasks.out]; rfl, rfl⟩
      obtain ⟨x3, hx3⟩ : ∃ x3, snap0 x keys = x3 := ⟨_, rfl⟩
      rw [hx3] at hA9 HSn hnum0
      obtain ⟨i0, hi, hz0, hz1, hz2⟩ := info_parts info_snd3
      clear hx3
      obtain ⟨vr9, vw9, va9, vk9, hA9i⟩ := hA9.out
      have hA9v : CliV w9 B p K x3 vk9 (ext O w w5) := ⟨_, _, _, hA9i⟩
      replace hA9v := Lib.hid hA9v
      clear hA9i
      go_loopw [8, 64] (fun v i wr => ∃ k : Nat, k ≤ L.length ∧ i = .int .i64 k ∧ Hid (WantSt w9 wr B p K (ext O w w5) vk9 (wantsD x3 ((L.take k).map fW)) v (wantsL K.c x3 ((L.take k).map fW)) k)) (fun _ i _ => L.length - (intOf i).toNat)
      case atStart => exact ⟨0, Nat.zero_le _, rfl, WantSt.start hA9v.out⟩
      case round =>
        obtain ⟨k2, hk2, rfl, HS⟩ := hrel
        have hk24 : k2 ≤ 4 := by have := hLn.out; omega
        obtain ⟨_, _, _, hD⟩ := WantSt.done HS.out hoA9.out hO9.out hB hlt.out
        have hbw := Lib.hid (hD.below hB (fun k hk => (hlt.out k hk).1))
        by_cases hltk2 : k2 < L.length
        · obtain ⟨m, hm, em⟩ := hLm.out k2 hltk2
          obtain ⟨HN1, HN2⟩ := wants_take fW K.c x3 hltk2 em
          obtain ⟨n1, n2, n3⟩ := wantsD_nums ((L.take k2).map fW) x3
          obtain ⟨y, hy⟩ : ∃ y, wantsD x3 ((L.take k2).map fW) = y := ⟨_, rfl⟩
          obtain ⟨dl, hdl⟩ : ∃ dl, wantsL K.c x3 ((L.take k2).map fW) = dl := ⟨_, rfl⟩
          rw [hy] at HN1 HN2 n1 n2 n3
          rw [hdl] at HN2
          rw [hy, hdl] at HS
          rw [List.length_map, List.length_take, Nat.min_eq_left (by omega)] at n1 n2
          clear hy hdl
          obtain ⟨Ok, l, hAk, hsub, hown, hsi, hsm, hsn, hap, hout⟩ := HS.out
          have hIr := CellsAt.out hI hout hI9.out
          obtain ⟨gb, goff, g, rfl, gc, GX⟩ := IntsAt.at' hIr hltk2
          obtain rfl : g = (m : Int) := GX.out.symm.trans em
          obtain ⟨A3, k3, rfl⟩ := own_form hown
          have hT1 : y.turn < 60 := by rw [n3, hnum0.out.2.2]; exact htn
          have hT2 : y.num ≤ 1000000 := by rw [n1, hnum0.out.1]; have := hnum.out; omega
          have hT3 : y.asks.length ≤ 100 := by rw [n2, hnum0.out.2.1]; omega
          have hWant : Hid (Calls Tryz.prog 39 #[.pointer (some ⟨p, 0, none⟩), .int .i64 (m : Int), .string ⟨#[]⟩, .int .u64 0] wr (WantPost wr B p K vk9 Ok (.agg (sentX K.c (wantD y m noStr 0) (askD y m noStr 0)).vs) (wantD y m noStr 0))) :=
            want_v hAk (Nat.le_trans hB hD.size) (fun w' hb => hC w' (hbw.out.trans hb)) hf0.out hca hT1 m noStr 0 hm hT2 hT3
          have hmx : Hid (l.length ≤ 4) := by show _ ≤ _; omega
          replace HN1 : Hid (wantsD x3 ((L.take (k2 + 1)).map fW) = wantD y m noStr 0) := HN1
          replace HN2 : Hid (wantsL K.c x3 ((L.take (k2 + 1)).map fW) = dl ++ [sentD K.c y (askD y m noStr 0)]) := HN2
          replace hsi := Lib.hid hsi
          replace hsm := Lib.hid hsm
          replace hsn := Lib.hid hsn
          replace hap := Lib.hid hap
          replace hout := Lib.hid hout
          replace hsub := Lib.hid hsub
          replace hAk := Lib.hid hAk
          obtain ⟨sv, hsv⟩ : ∃ sv, Hid (sentX K.c (wantD y m noStr 0) (askD y m noStr 0) = sv) := ⟨_, rfl⟩
          have hsvi : Hid (SndIs sv (sentD K.c y (askD y m noStr 0)) ∧ ∀ wz, MsgAt wz sv.m) := by
            show _ ∧ _
            rw [← hsv.out]
            exact ⟨sentX_is K.c _ _, fun wz => sentX_lies K.c _ _ wz (by show noStr.size ≤ _; decide)⟩
          rw [hsv.out] at hWant
          clear n1 n2 n3 hT1 hT2 hT3 em GX hD
          go_wp2_with (first
            | (go_at_call 39; refine hWant.out.mono ?_; rintro e w4 ⟨rfl, hA4, ho4⟩; have hown4 := Lib.hid (ho4.row hown hap.out); replace hA4 := Lib.hid hA4; have hsz4 := ho4.size; replace ho4 := Lib.hid ho4)
            | (refine wpList_buildSlice1 rfl 50 81 _ rfl sv.vs rfl _ Tryz.underlying50 info_snd (by rw [snd_size]; omega) (by rw [snd_size]; omega) (zero_snd _) ?_; obtain ⟨w6, e6, hb6, hs6, hr6⟩ := boxed w4 sv.vs 81; rw [e6])
            | (at_builtin; refine wpList_append_own_at _ rfl _ _ 50 rfl w9.heap.size 81 i0 _ 35 376 Tryz.underlying50 hi hz0 hz1 hz2 rfl (by decide) _ _ _ rfl (own_keep hown4.out hb6) ⟨w4.heap.size, 0, none⟩ 1 1 sv.vs.toList rfl rfl (World.news_of_block hr6) (one_cell_snd _) (le_maxLen (by have := hmx.out; omega)) (by have := hmx.out; omega) (Nat.le_trans hout.out.size (Nat.le_trans hsz4 hb6.size)) ?_; intro v7 w7 HO7 hg7 _ hv7; have hS7 := Lib.hid (WantSt.step hAk.out hsub.out hown hsi.out hsm.out hsn.out hap.out hout.out hA4.out ho4.out hb6 hsvi.out.1 hsvi.out.2 HO7 hg7 hv7); clear HO7 hg7 hv7))
          go_roundw
          case rel => exact ⟨k2 + 1, hltk2, by go_num, by show WantSt _ _ _ _ _ _ _ _ _ _ _; rw [HN1.out, HN2.out]; exact hS7.out⟩
          case measure => simp [intOf]; omega
        · have ek : k2 = L.length := by omega
          have HS3 : Hid (WantSt w9 wr B p K (ext O w w5) vk9 (wantsD x3 (L.map fW)) u8 (wantsL K.c x3 (L.map fW)) k2) := by
            have := HS.out
            rw [ek, List.take_length] at this
            rw [ek]
            exact this
          clear ek HS
          go_wp2
          go_ret2
          obtain ⟨l, f1, f2, f3⟩ := WantSt.done HS3.out hoA9.out hO9.out hB hlt.out
          rw [HSn.out.1, HSn.out.2.1, HSn.out.2.2]
          exact ⟨_, l, rfl, f1, f2, f3⟩
end
end Go.Proofs.YtjgloipgnnigmaaGreatDoor
/- The client's Write, where a write is set anew. -/
namespace Go.Proofs.YtjgloipgnnigmaaGreatDoor
open Go.RowKit Go.Shelf Go.Sort

theorem own_set {w : World} {base n size g c j : Nat} {e : TypeId} {xs : List Value} (v : Value) (h : w.ownsRow base e size (.slice (some ⟨g, 0, none⟩) n c) n xs) : (w.setCell ⟨g, j, none⟩ v).ownsRow base e size (.slice (some ⟨g, 0, none⟩) n c) n (xs.set j v) := by
  refine ⟨by rw [List.length_set]; exact h.1, ?_⟩
  rcases h.2 with ⟨e0, _⟩ | ⟨g', cap, cur, e1, hfr, hh, hn, hm, hs, ht⟩
  · cases e0
  · cases e1
    refine .inr ⟨g, c, cur.setIfInBounds j v, rfl, hfr, blk_set21 v hh, hn, hm, by rw [Array.size_setIfInBounds]; exact hs, ?_⟩
    rw [Array.toList_setIfInBounds, List.take_set, ht]
theorem wrCells_set : ∀ (l : List Wr) (k : Nat) (v : Val), k < l.length →
    (((wrCells l).set (k * 4 + 1) (.int .i64 v.kind)).set (k * 4 + 2) (.int .u64 (v.bits : Int))).set (k * 4 + 3) (.string v.text) = wrCells (l.set k ⟨(l.getD k noWr).key, v⟩)
  | [], k, v, h => by simp at h
  | x :: l, 0, v, _ => by simp [wrCells]
  | x :: l, k + 1, v, h => by
    have := wrCells_set l k v (by simpa using h)
    rw [show (k + 1) * 4 + 1 = (k * 4 + 1) + 4 by omega, show (k + 1) * 4 + 2 = (k * 4 + 2) + 4 by omega, show (k + 1) * 4 + 3 = (k * 4 + 3) + 4 by omega]
    simpa [wrCells] using this
section
variable {w w' : World} {B p : Nat} {K : CliK} {x : CliD} {vr vw va vk : Value} {O : Nat → Prop}
/-- Behind a store into the row of writes. -/
theorem CliIn.inw (h : CliIn w B p K x vr vw va vk O) {l : List Wr} (hr : w'.ownsRow B 112 4 vw l.length (wrCells l)) (ho : Out (fun k => vw.ownBlock = some k) w w') : CliIn w' B p K { x with wrs := l } vr vw va vk O :=
  { h with blk := ho.obj h.blk (fun e => (h.miw p e).2 rfl), rowr := ho.row h.rowr (fun g hg e => h.prw g hg e), roww := hr, rowa := ho.row h.rowa (fun g hg e => h.pwa g e hg), rowk := ho.row h.rowk (fun g hg e => h.pwk g e hg), lt := fun k hk => ⟨(h.lt k hk).1, Nat.lt_of_lt_of_le (h.lt k hk).2 ho.size⟩ }
theorem CliIn.setAt {g c : Nat} (h : CliIn w B p K x vr (.slice (some ⟨g, 0, none⟩) x.wrs.length c) va vk O) {k : Nat} (hk : k < x.wrs.length) (key : ByteArray) (e : (x.wrs.getD k noWr).key = key) (v : Val) :
    CliIn (((w.setCell ⟨g, k * 4 + 1, none⟩ (.int .i64 v.kind)).setCell ⟨g, k * 4 + 2, none⟩ (.int .u64 (v.bits : Int))).setCell ⟨g, k * 4 + 3, none⟩ (.string v.text)) B p K { x with wrs := x.wrs.set k ⟨key, v⟩ } vr (.slice (some ⟨g, 0, none⟩) x.wrs.length c) va vk O := by
  refine h.inw ?_ ?_
  · have := own_set (j := k * 4 + 3) (.string v.text) (own_set (j := k * 4 + 2) (.int .u64 (v.bits : Int)) (own_set (j := k * 4 + 1) (.int .i64 v.kind) h.roww))
    rw [wrCells_set _ _ _ hk, e] at this
    rw [List.length_set]
    exact this
  · have hf : ∀ k', k' = g → (Value.slice (some ⟨g, 0, none⟩) x.wrs.length c).ownBlock = some k' := fun k' e => by rw [e]; rfl
    exact (((out_set21 w g _ _).mono hf).trans' ((out_set21 _ g _ _).mono hf)).trans' ((out_set21 _ g _ _).mono hf)
end
section
variable {w : World} {B p : Nat} {K : CliK} {x : CliD} {O : Nat → Prop}
set_option maxRecDepth 100000 in
set_option maxHeartbeats 4000000 in
/-- Where a write is set anew. -/
theorem write_set {N : Nat} (h : CliAt w B p K x O) (hB : B ≤ w.heap.size) (hI : CliInv K.c N x) (hT : Tabs w) (key : ByteArray) (hk : key.size ≤ maxLen) (v : Val) (hv : v.Good) (hK : writeK x key v = 2) :
    Calls Tryz.prog 15 #[.pointer (some ⟨p, 0, none⟩), .string key, .agg #[.int .i64 v.kind, .int .u64 (v.bits : Int), .string v.text]] w (CliPost w B p K O (.int .i64 (writeE x key v)) (writeD x key v)) := by
  have s1 : x.state = 1 := by
    rcases Nat.decEq x.state 1 with q | q
    · simp [writeK, q] at hK
    · exact q
  have hfk : keyB key = true ∧ formedV v = true := by
    rcases hq : (keyB key && formedV v) with _ | _
    · simp [writeK, s1, hq] at hK
    · simpa using hq
  obtain ⟨hfk, hfv⟩ := hfk
  have fa : atK x.wrs key = true := by
    rcases hq : atK x.wrs key with _ | _
    · by_cases q6 : 6 ≤ x.wrs.length
      · simp [writeK, s1, hfk, hfv, hq, q6] at hK
      · simp [writeK, s1, hfk, hfv, hq, q6] at hK
    · rfl
  have hat := fa
  simp only [atK, Bool.and_eq_true, decide_eq_true_eq] at hat
  obtain ⟨hlt, hke⟩ := hat
  have HR : Hid (writeE x key v = 0 ∧ writeD x key v = { x with wrs := x.wrs.set (lowK x.wrs key) ⟨key, v⟩ }) := by show _ ∧ _; simp [writeE, writeD, hK]
  obtain ⟨W, eW, HB, d0, d1, d2⟩ := box3 w (.int .i64 v.kind) (.int .u64 (v.bits : Int)) (.string v.text) 28
  have hW := Lib.hid (h.later HB)
  have hTW := Lib.hid (hT.later HB)
  have hlo := Lib.hid h.lt'
  have q1 : ((x.state : Int) == 1) = true := by rw [beq_iff_eq]; omega
  have HF : Hid (∀ wz, Below W.heap.size W wz → Calls Tryz.prog 52 #[.agg #[.int .i64 v.kind, .int .u64 (v.bits : Int), .string v.text]] wz fun e w' => e = .returned (.bool true) ∧ Below wz.heap.size wz w') := fun wz hb => by
    have := formedV_any v.kind v.bits v.text hv.t wz (hTW.out.later hb)
    rw [← hfv]
    exact this
  have HSe : Hid (∀ wz, CliAt wz B p K x O → Calls Tryz.prog 38 #[.pointer (some ⟨p, 0, none⟩), .string key] wz (SrchPost wz (lowK x.wrs key) true)) := fun wz hz => by
    have := wrote_any hz key hI.wr hI.wn
    rwa [fa] at this
  have hwn := hI.wn
  generalize lowK x.wrs key = lk at hlt hke HR HSe
  replace hfk := Lib.hid hfk
  replace hfv := Lib.hid hfv
  replace hke := Lib.hid hke
  have hgi : (lk : Int) < (x.wrs.length : Int) := by omega
  clear s1 hI hK fa
  go_enter Tryz.func15, Tryz.ntmps15
  go_wp2_with (first
    | (go_at_call 35; refine (in_any hW.out 1 true q1).mono ?_; rintro e w1 ⟨rfl, rfl⟩)
    | (go_at_call 36; refine (calls_few hfk.out (key_any key _ hk)).mono ?_; rintro e w2 ⟨rfl, hb⟩; replace d0 := keep hb d0; replace d1 := keep hb d1; replace d2 := keep hb d2)
    | (go_at_call 52; refine (HF.out _ hb).mono ?_; rintro e w3 ⟨rfl, hb3⟩; have hb4 := Lib.hid (keepB hb hb3); replace d0 := keep hb3 d0; replace d1 := keep hb3 d1; replace d2 := keep hb3 d2)
    | (go_at_call 38; refine (HSe.out _ (CliAt.later hW.out hb4.out)).mono ?_; rintro e w5 ⟨rfl, hb5⟩; have hb6 := Lib.hid (keepB hb4.out hb5); replace d0 := keep hb5 d0; replace d1 := keep hb5 d1; replace d2 := keep hb5 d2))
  obtain ⟨vr, vw, va, vk, h5⟩ := CliAt.later hW.out hb6.out
  obtain ⟨_, _, _, _, _, _, _, _, _, c9, _⟩ := h5.cs
  have hrow := h5.roww
  obtain ⟨g, cap, cur, rfl, hh⟩ : ∃ g cap cur, vw = .slice (some ⟨g, 0, none⟩) x.wrs.length cap ∧ w5.heap[g]? = some (.cells cur 112 (0, 0)) := by
    rcases hrow.2 with ⟨e0, e1⟩ | ⟨g', cap, cur, e1, _, hh, _⟩
    · omega
    · exact ⟨g', cap, cur, e1, hh⟩
  obtain ⟨A9, k9, e9, _, hA9, _⟩ := own_wrs hrow
  cases e9
  obtain ⟨b0, o0, s0, z0, n0, t0, e0, _, f1, f2, f3, _⟩ := hA9.at' hlt
  cases e0
  rw [Nat.zero_add] at f1 f2 f3
  have g1 : w5.frozen? ⟨g, lk * 4 + 1, none⟩ = false := frozen_of_row w5 g _ _ _ hh
  have g2 : w5.frozen? ⟨g, lk * 4 + 2, none⟩ = false := frozen_of_row w5 g _ _ _ hh
  have g3 : w5.frozen? ⟨g, lk * 4 + 3, none⟩ = false := frozen_of_row w5 g _ _ _ hh
  have hOg : Hid (O g) := (h5.miw g rfl).1
  have H5 := Lib.hid h5
  clear h5 hrow hh hA9
  try go_meet
  try go_wp2
  go_region
  go_wp2
  go_ret
  rw [HR.out.1, HR.out.2]
  have hA := H5.out.setAt hlt key hke.out v
  have hd : ∀ wz : World, Below wz.heap.size wz wz.drew := fun wz => below_drew (Below.refl _ _)
  have hog : ∀ k', k' = g → O k' := fun k' e => by rw [e]; exact hOg.out
  exact ⟨rfl, ⟨_, _, _, _, (hA.later (hd _)).widen (fun k hk => (hlo.out k hk).2) hB⟩, ((((Out.of_below (keepB HB hb6.out)).trans' ((out_set21 w5 g _ _).mono hog)).trans' ((out_set21 _ g _ _).mono hog)).trans' ((out_set21 _ g _ _).mono hog)).trans' (Out.of_below (hd _))⟩
end
end Go.Proofs.YtjgloipgnnigmaaGreatDoor
/- ClientSends in plain Lean: what is sent is formed, and goes to a group that it is about. -/
namespace Go.Proofs.YtjgloipgnnigmaaGreatDoor
open Go.RowKit

def MsgOk (c : Cfg) (g : Nat) : MsgD → Prop
  | .safe n => n ≤ 2147483647
  | .read n key _ => n ≤ 2147483647 ∧ keyB key = true ∧ homeN c key = g
  | .submit t => formedT t = true ∧ (g : Int) ∈ groupsT c t
def SndOk (c : Cfg) (s : SndD) : Prop := ∃ g i : Nat, g < c.reps.length ∧ i < repN c g ∧ s.dest = placeZ c g i ∧ MsgOk c g s.m
def AskOk (c : Cfg) (a : AskD) : Prop := a.n ≤ 2147483647 ∧ a.g < c.reps.length ∧ (a.key = noStr ∨ (keyB a.key = true ∧ a.g = homeN c a.key))
section
variable {c : Cfg} {N : Nat} {x : CliD}
theorem repN_pos (hf : formedB c = true) {g : Nat} (hg : g < c.reps.length) : 0 < repN c g := by
  have := formed_range hf hg
  unfold repN
  omega
theorem sentD_ok (hf : formedB c = true) (x : CliD) {a : AskD} (ha : AskOk c a) : SndOk c (sentD c x a) := by
  refine ⟨a.g, x.turn % repN c a.g, ha.2.1, Nat.mod_lt _ (repN_pos hf ha.2.1), rfl, ?_⟩
  show MsgOk c a.g (if a.key = noStr then _ else _)
  split
  · exact ha.1
  · rename_i hk
    rcases ha.2.2 with e | ⟨e1, e2⟩
    · exact absurd e hk
    · exact ⟨ha.1, e1, e2.symm⟩
theorem home_lt (hf : formedB c = true) (key : ByteArray) : homeN c key < c.reps.length := by
  have h1 := formed_len hf
  have h2 := leTo_le c.bnds key c.bnds.length
  rw [homeN]
  omega
theorem readL_ok (h : CliInv c N x) (hf : formedB c = true) (hN : N < 2147483647) (key : ByteArray) : ∀ s ∈ readL c x key, SndOk c s := by
  intro s hs
  unfold readL at hs
  split at hs
  · rename_i h4
    have hk : keyB key = true := by
      unfold readK at h4
      split at h4; · cases h4
      split at h4; · cases h4
      rename_i q2
      simpa using q2
    rw [List.mem_singleton.1 hs]
    exact sentD_ok hf _ ⟨by show x.num + 1 ≤ _; have := h.nm; omega, home_lt hf key, .inr ⟨hk, rfl⟩⟩
  · cases hs
theorem txn_formed (h : CliInv c N x) (ses : Int) (h1 : 1 ≤ ses) (h8 : ses ≤ 8) (hx : inTxn x = true) (hp : 0 < x.rds.length + x.wrs.length) : formedT (txnD ses x) = true := by
  obtain ⟨o1, o2, o3, o4⟩ := h.one hx
  have hrk : (x.rds.map Rd.key).Nodup := (List.nodup_append.1 o3).1
  have hr := (rise_iff (x.rds.map Rd.key)).2 ⟨fun k hk => o4 k (List.mem_append_left _ hk), rkeys_rise h.srt hrk⟩
  have hw := (rise_iff (x.wrs.map Wr.key)).2 ⟨fun k hk => by
    obtain ⟨a, ha, rfl⟩ := List.mem_map.1 hk
    exact (h.wr.2 a ha).1, h.wr.1⟩
  rw [List.length_map] at hr hw
  have hs := h.sq
  have hrn := h.rn
  have hwn := h.wn
  have hv : valsB x.wrs = true := by
    unfold valsB
    rw [List.all_eq_true]
    exact fun a ha => (h.wr.2 a ha).2
  have hrk' : rKeys ⟨ses, x.seq, x.rds, x.wrs⟩ = x.rds.map Rd.key := rfl
  have hwk' : wKeys ⟨ses, x.seq, x.rds, x.wrs⟩ = x.wrs.map Wr.key := rfl
  have hid : idB ses (x.seq : Int) = true := by
    simp only [idB, Bool.and_eq_true, decide_eq_true_eq]
    omega
  rw [txnD, if_pos hx, formedT, hrk', hwk', hid, hv]
  simp only [Bool.and_eq_true, decide_eq_true_eq, Bool.not_eq_true', decide_eq_false_iff_not]
  exact ⟨⟨⟨⟨⟨⟨trivial, hrn⟩, hwn⟩, by omega⟩, hr⟩, hw⟩, trivial⟩
theorem submitD_ok (h : CliInv c N x) (ses : Int) (h1 : 1 ≤ ses) (h8 : ses ≤ 8) (hx : inTxn x = true) (hp : 0 < x.rds.length + x.wrs.length) : ∀ s ∈ submitD c ses x, SndOk c s := by
  intro s hs
  unfold submitD at hs
  obtain ⟨g, hg, hs⟩ := List.mem_flatMap.1 hs
  obtain ⟨i, hi, rfl⟩ := List.mem_map.1 hs
  have hF := txn_formed h ses h1 h8 hx hp
  have hg2 := hg
  unfold groupsT at hg2
  rw [if_pos hF] at hg2
  obtain ⟨g0, g1⟩ := groupsL_mem hg2
  obtain ⟨m, rfl⟩ := Int.eq_ofNat_of_zero_le g0
  exact ⟨m, i, g1, List.mem_range.1 hi, rfl, hF, hg⟩
theorem wantsL_ok (hf : formedB c = true) (l : List (Nat × ByteArray × Nat)) : ∀ x : CliD, (∀ p ∈ l, p.1 < c.reps.length ∧ (p.2.1 = noStr ∨ (keyB p.2.1 = true ∧ p.1 = homeN c p.2.1))) → x.num + l.length ≤ 2147483647 → ∀ s ∈ wantsL c x l, SndOk c s := by
  induction l with
  | nil => intro x _ _ s hs; cases hs
  | cons p l ih =>
    intro x hl hn s hs
    obtain ⟨g, k, st⟩ := p
    rw [wantsL] at hs
    have hp := hl (g, k, st) (List.mem_cons_self ..)
    rcases List.mem_cons.1 hs with rfl | q
    · exact sentD_ok hf _ ⟨by show x.num + 1 ≤ _; simp at hn; omega, hp.1, hp.2⟩
    · exact ih _ (fun p hp => hl p (List.mem_cons_of_mem _ hp)) (by simp [wantD] at hn ⊢; omega) s q
theorem commitL_ok (h : CliInv c N x) (ses : Int) (h1 : 1 ≤ ses) (h8 : ses ≤ 8) : ∀ s ∈ commitL c ses x, SndOk c s := by
  intro s hs
  unfold commitL at hs
  split at hs
  · rename_i e
    have hc := h.commit
    have hk : commitK x = 2 := e
    rw [commitD, hk] at hc
    refine submitD_ok hc ses h1 h8 (inTxn_2 rfl) ?_ s hs
    unfold commitK at e
    split at e; · cases e
    split at e; · cases e
    show 0 < x.rds.length + x.wrs.length
    omega
  · cases hs
theorem snapL_ok (h : CliInv c N x) (hf : formedB c = true) (hN : N + 4 < 2147483647) (keys : List ByteArray) : ∀ s ∈ snapL c x keys, SndOk c s := by
  intro s hs
  unfold snapL at hs
  split at hs
  · refine wantsL_ok hf _ _ (fun p hp => ?_) (by have := snapW_len c keys hf; have := h.nm; show x.num + _ ≤ _; omega) s hs
    obtain ⟨g, hg, rfl⟩ := List.mem_map.1 hp
    exact ⟨(groupsL_mem hg).2, .inl rfl⟩
  · cases hs
theorem safeL_ok (h : CliInv c N x) (hf : formedB c = true) (hN : N + 6 < 2147483647) : ∀ s ∈ safeL c x, SndOk c s := by
  intro s hs
  unfold safeL at hs
  split at hs
  · refine wantsL_ok hf _ _ (fun p hp => ?_) (by have := h.nm; have := h.kn; rw [safeW, List.length_map]; omega) s hs
    obtain ⟨k, hk, rfl⟩ := List.mem_map.1 hp
    exact ⟨home_lt hf k, .inr ⟨h.ky k hk, rfl⟩⟩
  · cases hs
theorem handL_ok (h : CliInv c N x) (hf : formedB c = true) (hN : N + 6 < 2147483647) (ses : Int) (m : MsgV) (fm : Bool) : ∀ s ∈ handL c ses x m fm, SndOk c s := by
  intro s hs
  unfold handL at hs
  split at hs
  · rename_i e
    rcases hand_case ses x m fm with q | ⟨q, _⟩ | ⟨q, _⟩ | ⟨q, _, h1, h2, h3, h4⟩ | ⟨q, _⟩
    · rw [e] at q; cases q
    · rw [e] at q; cases q
    · rw [e] at q; cases q
    · have s3 := asks_state h (by have := (answ_spec h2).1; omega) h3
      have hn := all_no h s3 h2 h4
      exact safeL_ok ((h.answ m).low m fun a ha => hn a (mem_erase ha)) hf hN s hs
    · rw [e] at q; cases q
  · cases hs
theorem tickL_ok (h : CliInv c N x) (hf : formedB c = true) (hN : N < 2147483647) (ses : Int) (h1 : 1 ≤ ses) (h8 : ses ≤ 8) : ∀ s ∈ tickL c ses x, SndOk c s := by
  intro s hs
  unfold tickL at hs
  split at hs
  · rename_i e
    exact submitD_ok h.tick ses h1 h8 (inTxn_2 e) (h.com e).2 s hs
  · obtain ⟨a, ha, rfl⟩ := List.mem_map.1 hs
    exact sentD_ok hf _ ⟨by have := h.nn a ha; omega, h.ag a ha, h.ah a ha⟩
end
end Go.Proofs.YtjgloipgnnigmaaGreatDoor
