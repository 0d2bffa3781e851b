/- The client's Read. -/
import Derived.Test.YtjgloipgnnigmaaGreatDoorJ9
import Derived.Test.YtjgloipgnnigmaaGreatDoorJ2
import Derived.Test.YtjgloipgnnigmaaGreatDoorJ4
import Derived.RegionTactic
import Derived.ChangeAlike
import Derived.Test.YtjgloipgnnigmaaGreatDoorJ8
import Derived.Deep.Onto
import Derived.Laws.CopyOwn
import Derived.Lib.AppendZerosOnto
import Derived.Lib.AppendZeros
import Derived.Lib.Overlaps
set_option linter.unusedVariables false
set_option linter.unusedSimpArgs false
namespace Go.Proofs.YtjgloipgnnigmaaGreatDoor
open Go.RowKit Go.Shelf Go.Sort

theorem own_one {w : World} {base g : Nat} {cs : Array Value} {t : TypeId} {k : Nat} (h : w.heap[g]? = some (.cells cs t (0, 0))) (hs : cs.size = k) (hb : base ≤ g) : w.ownsRow base t k (.slice (some ⟨g, 0, none⟩) 1 1) 1 cs.toList :=
  ⟨by simp [hs], .inr ⟨g, 1, cs, rfl, hb, h, Nat.le_refl _, by unfold maxLen; omega, by omega, by rw [List.take_of_length_le (by simp [hs])]⟩⟩
/-- A method's end that sends: what it sends, the client behind it. -/
def SndPost (w : World) (B p : Nat) (K : CliK) (O : Nat → Prop) (x : CliD) (d : List SndD) (er : Int) (e : Ending) (w' : World) : Prop :=
  ∃ v l, e = .returned (.tuple #[v, .int .i64 er]) ∧ SndsAt w' w.heap.size v l d ∧ CliAt w' B p K x (ext O w w') ∧ Out O w w'
section
variable {w : World} {B p : Nat} {K : CliK} {x : CliD} {O : Nat → Prop}
theorem snd_none {w' : World} {d : List SndD} {er : Int} {y : CliD} {z : Int} (h : CliAt w B p K x O) (hB : B ≤ w.heap.size) (hb : Below w.heap.size w w') (hd : d = []) (hy : y = x) (hz : er = z) : SndPost w B p K O y d er (.returned (.tuple #[.slice none 0 0, .int .i64 z])) w' := by
  subst hd hy hz
  exact ⟨_, [], rfl, SndsAt.nil _ _, h.stay hb hB, Out.of_below hb⟩
theorem CliAt.lt' (h : CliAt w B p K x O) : ∀ k, O k → B ≤ k ∧ k < w.heap.size := by
  obtain ⟨vr, vw, va, vk, h⟩ := h
  exact h.lt
/-- A client behind a call within a call: its blocks, said of the outer call's world. -/
theorem CliAt.wide {w0 w1 w2 w3 : World} (h : CliAt w2 B p K x (ext O w1 w2)) (h01 : w0.heap.size ≤ w1.heap.size) (h12 : w1.heap.size ≤ w2.heap.size) (hb : Below w2.heap.size w2 w3) (hlt : ∀ k, O k → B ≤ k ∧ k < w0.heap.size) (hB : B ≤ w0.heap.size) : CliAt w3 B p K x (ext O w0 w3) := by
  obtain ⟨vr, vw, va, vk, h⟩ := h.later hb
  have hs := hb.size
  exact ⟨vr, vw, va, vk, h.mono (fun k hk => hk.elim .inl (fun q => .inr ⟨by omega, by omega⟩)) (fun k hk => hk.elim (fun q => ⟨(hlt k q).1, by have := (hlt k q).2; omega⟩) (fun q => ⟨by omega, q.2⟩))⟩
set_option maxRecDepth 100000 in
set_option maxHeartbeats 4000000 in
theorem read_any {N : Nat} (h : CliAt w B p K x O) (hB : B ≤ w.heap.size) (hC : ∀ w', Below B w w' → CfgAt w' K.c K.A K.B) (hf : formedB K.c = true) (hca : K.c.reps.length ≤ K.ca) (hI : CliInv K.c N x) (hN : N ≤ 1000000) (key : ByteArray) (hk : key.size ≤ maxLen) :
    Calls Tryz.prog 10 #[.pointer (some ⟨p, 0, none⟩), .string key] w (SndPost w B p K O (readD K.c x key) (readL K.c x key) (readE x key)) := by
  by_cases s1 : x.state = 1
  · have q1 : ((x.state : Int) == 1) = true := by rw [beq_iff_eq]; omega
    obtain ⟨fk, hfk⟩ : ∃ b, keyB key = b := ⟨_, rfl⟩
    cases fk
    · have HR : Hid (readK x key = 1) := by show _ = _; simp [readK, s1, hfk]
      have HP : Hid (∀ w', Below w.heap.size w w' → SndPost w B p K O (readD K.c x key) (readL K.c x key) (readE x key) (.returned (.tuple #[.slice none 0 0, .int .i64 2])) w') := fun w' hb => snd_none h hB hb (by simp [readL, HR.out]) (by simp [readD, HR.out]) (by simp [readE, HR.out])
      replace hfk := Lib.hid hfk
      clear s1 hI
      go_enter Tryz.func10, Tryz.ntmps10
      go_wp2_with (first
        | (go_at_call 35; refine (in_any h 1 true q1).mono ?_; rintro e w1 ⟨rfl, rfl⟩)
        | (go_at_call 36; refine (calls_few hfk.out (key_any key _ hk)).mono ?_; rintro e w2 ⟨rfl, hb⟩))
      go_ret2
      exact HP.out _ hb
    · obtain ⟨fh, hfh⟩ : ∃ b, hasD x key = b := ⟨_, rfl⟩
      have hl1 := hI.rn
      have hl2 := hI.an
      cases fh
      · by_cases s6 : 6 ≤ x.rds.length + x.asks.length
        · have HR : Hid (readK x key = 3) := by show _ = _; simp [readK, s1, hfk, hfh, s6]
          have HP : Hid (∀ w', Below w.heap.size w w' → SndPost w B p K O (readD K.c x key) (readL K.c x key) (readE x key) (.returned (.tuple #[.slice none 0 0, .int .i64 3])) w') := fun w' hb => snd_none h hB hb (by simp [readL, HR.out]) (by simp [readD, HR.out]) (by simp [readE, HR.out])
          have hs6 : decide ((6 : Int) ≤ (x.rds.length : Int) + (x.asks.length : Int)) = true := by rw [decide_eq_true_iff]; omega
          have hsw : IntKind.i64.wrap ((x.rds.length : Int) + (x.asks.length : Int)) = (x.rds.length : Int) + (x.asks.length : Int) := IntWalk.i64_in _ (by omega)
          replace hfk := Lib.hid hfk
          replace hfh := Lib.hid hfh
          clear s1 hI s6
          go_enter Tryz.func10, Tryz.ntmps10
          go_wp2_with (first
          | (go_at_call 35; refine (in_any h 1 true q1).mono ?_; rintro e w1 ⟨rfl, rfl⟩)
          | (go_at_call 36; refine (calls_few hfk.out (key_any key _ hk)).mono ?_; rintro e w2 ⟨rfl, hb⟩; have hh2 := h.later hb)
          | (go_at_call 37; refine (calls_few hfh.out (has_any hh2 key hl1 hl2)).mono ?_; rintro e w3 ⟨rfl, hb3⟩; obtain ⟨vr, vw, va, vk, h3⟩ := hh2.later hb3; obtain ⟨c0, c1, _, _, _, _, _, _, c8, _, c10, _⟩ := h3.cs; obtain ⟨A8, cap8, e8, _⟩ := own_rds h3.rowr; obtain ⟨A10, cap10, e10, _⟩ := own_asks h3.rowa; subst e8 e10; have h3c : CliAt w3 B p K x O := ⟨_, _, _, _, h3⟩; replace h3c := Lib.hid h3c; clear h3))
          go_quiet (fail)
          go_wp2
          go_ret2
          exact HP.out _ (below_drewN (keepB hb hb3) _)
        · have hs6 : decide ((6 : Int) ≤ (x.rds.length : Int) + (x.asks.length : Int)) = false := by rw [decide_eq_false_iff_not]; omega
          have hsw : IntKind.i64.wrap ((x.rds.length : Int) + (x.asks.length : Int)) = (x.rds.length : Int) + (x.asks.length : Int) := IntWalk.i64_in _ (by omega)
          have hwn := hI.wn
          have hwr := hI.wr
          obtain ⟨fa, hfa⟩ : ∃ b, atK x.wrs key = b := ⟨_, rfl⟩
          obtain ⟨lk, hlk⟩ : ∃ k, Hid (lowK x.wrs key = k) := ⟨_, rfl⟩
          have HSe : Hid (∀ wz, CliAt wz B p K x O → Calls Tryz.prog 38 #[.pointer (some ⟨p, 0, none⟩), .string key] wz (SrchPost wz lk fa)) := fun wz hz => by
            have := wrote_any hz key hwr hwn
            rwa [hlk.out, hfa] at this
          cases fa
          · have HR : Hid (readK x key = 4) := by show _ = _; simp [readK, s1, hfk, hfh, s6, hfa]
            have hng : homeN K.c key < K.c.reps.length := by
              have := leTo_le K.c.bnds key K.c.bnds.length
              have := formed_len hf
              unfold homeN; omega
            have hnum := hI.nm
            have htn := hI.tn
            have HW : Hid (∀ wz O', CliAt wz B p K x O' → Below B w wz → Calls Tryz.prog 39 #[.pointer (some ⟨p, 0, none⟩), .int .i64 (homeN K.c key : Int), .string key, .int .u64 0] wz (CliPost wz B p K O' (.agg (sentX K.c (wantD x (homeN K.c key) key 0) (askD x (homeN K.c key) key 0)).vs) (wantD x (homeN K.c key) key 0))) := fun wz O' hz hz2 =>
              want_any hz (Nat.le_trans hB hz2.size) (fun w' hb => hC w' (hz2.trans hb)) hf hca htn (homeN K.c key) key 0 hng (by omega) (by omega)
            have HH : Hid (∀ wz, CfgAt wz K.c K.A K.B → Calls Tryz.prog 40 #[K.cv, .string key] wz fun e w' => e = .returned (.int .i64 (homeN K.c key : Int)) ∧ Below wz.heap.size wz w') := fun wz hz => by
              have := home_any K.c key K.A K.B K.ca K.cb wz hz
              rwa [homeZ, if_pos hf] at this
            replace hfk := Lib.hid hfk
            replace hfh := Lib.hid hfh
            replace hfa := Lib.hid hfa
            replace hwr := Lib.hid hwr
            replace hC := Lib.hid hC
            clear s1 hI s6 hng hnum htn
            go_enter Tryz.func10, Tryz.ntmps10
            go_wp2_with (first
          | (go_at_call 35; refine (in_any h 1 true q1).mono ?_; rintro e w1 ⟨rfl, rfl⟩)
          | (go_at_call 36; refine (calls_few hfk.out (key_any key _ hk)).mono ?_; rintro e w2 ⟨rfl, hb⟩; have hh2 := h.later hb)
          | (go_at_call 37; refine (calls_few hfh.out (has_any hh2 key hl1 hl2)).mono ?_; rintro e w3 ⟨rfl, hb3⟩; obtain ⟨vr, vw, va, vk, h3⟩ := hh2.later hb3; obtain ⟨c0, c1, _, _, _, _, _, _, c8, _, c10, _⟩ := h3.cs; obtain ⟨A8, cap8, e8, _⟩ := own_rds h3.rowr; obtain ⟨A10, cap10, e10, _⟩ := own_asks h3.rowa; subst e8 e10; have h3c : CliAt w3 B p K x O := ⟨_, _, _, _, h3⟩; replace h3c := Lib.hid h3c; clear h3))
            go_quiet (fail)
            go_wp2_with (first
              | (go_at_call 38; refine (HSe.out _ (h3c.out.later (below_drewN (Below.refl _ _) _))).mono ?_; rintro e w5 ⟨rfl, hb5⟩; have hb4 := Lib.hid (keepB (keepB (keepB hb hb3) (below_drewN (Below.refl _ _) _)) hb5); have h5 := Lib.hid (h3c.out.later (keepB (below_drewN (Below.refl _ _) _) hb5)); replace c0 := keep hb5 (keep (below_drewN (Below.refl _ _) _) c0); replace c1 := keep hb5 (keep (below_drewN (Below.refl _ _) _) c1))
              | (go_at_call 40; refine (HH.out _ (hC.out _ (hb4.out.mono hB))).mono ?_; rintro e w6 ⟨rfl, hb6⟩; have hb7 := Lib.hid (keepB hb4.out hb6); have h6 := Lib.hid (h5.out.later hb6))
              | (go_at_call 39; refine (HW.out _ _ h6.out (hb7.out.mono hB)).mono ?_; rintro e w8 ⟨rfl, hA8, ho8⟩; replace hA8 := Lib.hid hA8; replace ho8 := Lib.hid ho8)
              | (refine wpList_buildSlice1 rfl 50 81 _ rfl _ rfl _ Tryz.underlying50 info_snd (by rw [snd_size]; omega) (by rw [snd_size]; omega) (zero_snd _) ?_; obtain ⟨w9, e9, hb9, hs9, hr9⟩ := boxed w8 (sentX K.c (wantD x (homeN K.c key) key 0) (askD x (homeN K.c key) key 0)).vs 81; rw [e9]))
            go_ret2
            refine ⟨.slice (some ⟨w8.heap.size, 0, none⟩) 1 1, [sentX K.c (wantD x (homeN K.c key) key 0) (askD x (homeN K.c key) key 0)], ?_, ⟨?_, ?_, ?_⟩, ?_, ?_⟩
            · rw [show readE x key = 0 by simp [readE, HR.out]]; rfl
            · have := own_one (base := w.heap.size) hr9 (snd_size _) (by have := hb7.out.size; have := ho8.out.size; omega)
              simpa [sndCells] using this
            · rw [show readL K.c x key = [sentD K.c x (askD x (homeN K.c key) key 0)] by simp [readL, HR.out]]
              exact .cons (sentX_is _ (wantD x (homeN K.c key) key 0) _) .nil
            · intro s hs
              rw [List.mem_singleton.1 hs]
              exact sentX_lies _ _ _ _ (by show key.size ≤ _; unfold maxLen at hk; exact hk)
            · rw [show readD K.c x key = wantD x (homeN K.c key) key 0 by simp [readD, HR.out]]
              exact hA8.out.wide hb7.out.size ho8.out.size hb9 h.lt' hB
            · exact ((Out.of_below hb7.out).trans' ho8.out).trans' (Out.of_below hb9)
          · have HR : Hid (readK x key = 2) := by show _ = _; simp [readK, s1, hfk, hfh, s6, hfa]
            have HP : Hid (∀ w', Below w.heap.size w w' → SndPost w B p K O (readD K.c x key) (readL K.c x key) (readE x key) (.returned (.tuple #[.slice none 0 0, .int .i64 0])) w') := fun w' hb => snd_none h hB hb (by simp [readL, HR.out]) (by simp [readD, HR.out]) (by simp [readE, HR.out])
            replace hfk := Lib.hid hfk
            replace hfh := Lib.hid hfh
            replace hfa := Lib.hid hfa
            replace hwr := Lib.hid hwr
            clear s1 hI s6
            go_enter Tryz.func10, Tryz.ntmps10
            go_wp2_with (first
          | (go_at_call 35; refine (in_any h 1 true q1).mono ?_; rintro e w1 ⟨rfl, rfl⟩)
          | (go_at_call 36; refine (calls_few hfk.out (key_any key _ hk)).mono ?_; rintro e w2 ⟨rfl, hb⟩; have hh2 := h.later hb)
          | (go_at_call 37; refine (calls_few hfh.out (has_any hh2 key hl1 hl2)).mono ?_; rintro e w3 ⟨rfl, hb3⟩; obtain ⟨vr, vw, va, vk, h3⟩ := hh2.later hb3; obtain ⟨c0, c1, _, _, _, _, _, _, c8, _, c10, _⟩ := h3.cs; obtain ⟨A8, cap8, e8, _⟩ := own_rds h3.rowr; obtain ⟨A10, cap10, e10, _⟩ := own_asks h3.rowa; subst e8 e10; have h3c : CliAt w3 B p K x O := ⟨_, _, _, _, h3⟩; replace h3c := Lib.hid h3c; clear h3))
            go_quiet (fail)
            go_wp2_with (first
              | (go_at_call 38; refine (HSe.out _ (h3c.out.later (below_drewN (Below.refl _ _) _))).mono ?_; rintro e w5 ⟨rfl, hb5⟩; have hb4 := Lib.hid (keepB (keepB (keepB hb hb3) (below_drewN (Below.refl _ _) _)) hb5)))
            go_ret2
            exact HP.out _ hb4.out
      · have HR : Hid (readK x key = 2) := by show _ = _; simp [readK, s1, hfk, hfh]
        have HP : Hid (∀ w', Below w.heap.size w w' → SndPost w B p K O (readD K.c x key) (readL K.c x key) (readE x key) (.returned (.tuple #[.slice none 0 0, .int .i64 0])) w') := fun w' hb => snd_none h hB hb (by simp [readL, HR.out]) (by simp [readD, HR.out]) (by simp [readE, HR.out])
        replace hfk := Lib.hid hfk
        replace hfh := Lib.hid hfh
        clear s1 hI
        go_enter Tryz.func10, Tryz.ntmps10
        go_wp2_with (first
          | (go_at_call 35; refine (in_any h 1 true q1).mono ?_; rintro e w1 ⟨rfl, rfl⟩)
          | (go_at_call 36; refine (calls_few hfk.out (key_any key _ hk)).mono ?_; rintro e w2 ⟨rfl, hb⟩; have hh2 := h.later hb)
          | (go_at_call 37; refine (calls_few hfh.out (has_any hh2 key hl1 hl2)).mono ?_; rintro e w3 ⟨rfl, hb3⟩))
        go_ret2
        exact HP.out _ (keepB hb hb3)
  · have q1 : ((x.state : Int) == 1) = false := by rw [beq_eq_false_iff_ne]; omega
    have HR : Hid (readK x key = 0) := by show _ = _; simp [readK, s1]
    have HP : Hid (∀ w', Below w.heap.size w w' → SndPost w B p K O (readD K.c x key) (readL K.c x key) (readE x key) (.returned (.tuple #[.slice none 0 0, .int .i64 11])) w') := fun w' hb => snd_none h hB hb (by simp [readL, HR.out]) (by simp [readD, HR.out]) (by simp [readE, HR.out])
    clear s1 hI
    go_enter Tryz.func10, Tryz.ntmps10
    go_wp2_with (go_at_call 35; refine (in_any h 1 false q1).mono ?_; rintro e w1 ⟨rfl, rfl⟩)
    go_ret2
    exact HP.out _ (Below.refl _ _)
end
end Go.Proofs.YtjgloipgnnigmaaGreatDoor
/- The client's Abort and over. -/
namespace Go.Proofs.YtjgloipgnnigmaaGreatDoor
open Go.RowKit Go.Shelf Go.Sort

section
variable {w : World} {B p : Nat} {K : CliK} {x : CliD} {O : Nat → Prop}
theorem abort_any (h : CliAt w B p K x O) (hB : B ≤ w.heap.size) : Calls Tryz.prog 16 #[.pointer (some ⟨p, 0, none⟩)] w (CliPost w B p K O (.int .i64 (abortE x)) (abortD x)) := by
  by_cases s1 : x.state = 1
  · have q1 : ((x.state : Int) == 1) = true := by rw [beq_iff_eq]; omega
    have HE : Hid (abortE x = 0 ∧ abortD x = restD x) := by show _ ∧ _; simp [abortE, abortD, s1]
    clear s1
    go_enter Tryz.func16, Tryz.ntmps16
    go_wp2_with (first
      | (go_at_call 35; refine (in_any h 1 true q1).mono ?_; rintro e w1 ⟨rfl, rfl⟩)
      | (go_at_call 41; refine (rest_any h hB).mono ?_; rintro e w2 ⟨rfl, hA, ho⟩))
    go_ret
    rw [HE.out.1, HE.out.2]
    exact ⟨rfl, hA, ho⟩
  · have q1 : ((x.state : Int) == 1) = false := by rw [beq_eq_false_iff_ne]; omega
    have HE : Hid (abortE x = 11 ∧ abortD x = x) := by show _ ∧ _; simp [abortE, abortD, s1]
    clear s1
    go_enter Tryz.func16, Tryz.ntmps16
    go_wp2_with (first
      | (go_at_call 35; refine (in_any h 1 false q1).mono ?_; rintro e w1 ⟨rfl, rfl⟩))
    go_ret
    rw [HE.out.1, HE.out.2]
    exact ⟨rfl, cli_same h hB rfl⟩
set_option maxRecDepth 100000 in
set_option maxHeartbeats 2000000 in
theorem over_any (h : CliAt w B p K x O) (hB : B ≤ w.heap.size) (er : Int) : Calls Tryz.prog 105 #[.pointer (some ⟨p, 0, none⟩), .int .i64 er] w (CliPost w B p K O (.agg (overEv K.ses x er).vs) (restD x)) := by
  obtain ⟨W, eW, HB, hszW, hrW⟩ := boxed w #[.int .i64 0, .int .i64 0, .int .i64 0, .string ⟨#[]⟩, .int .i64 0, .int .u64 0, .string ⟨#[]⟩, .int .u64 0, .bool false, .int .u64 0, .int .i64 0] 71
  have hW := h.later HB
  have H0 := Lib.hid hW
  obtain ⟨vr, vw, va, vk, hW⟩ := hW
  obtain ⟨_, _, c2, _, _, _, _, _, _, _, _, _, c12⟩ := hW.cs
  have c2b := keepA (.cells #[.int .i64 0, .int .i64 0, .int .i64 0, .string ⟨#[]⟩, .int .i64 0, .int .u64 0, .string ⟨#[]⟩, .int .u64 0, .bool false, .int .u64 0, .int .i64 0] 71) c2
  have c12b := keepA (.cells #[.int .i64 0, .int .i64 0, .int .i64 0, .string ⟨#[]⟩, .int .i64 0, .int .u64 0, .string ⟨#[]⟩, .int .u64 0, .bool false, .int .u64 0, .int .i64 0] 71) c12
  have hBW := HB.size
  have HR := Lib.hid hrW
  have nR : Hid (¬ O w.heap.size) := fun e => by have := (h.lt' _ e).2; omega
  have nE : Hid (¬ O W.heap.size) := fun e => by have := (h.lt' _ e).2; omega
  replace hszW := Lib.hid hszW
  clear hrW hW
  go_enter Tryz.func105, Tryz.ntmps105
  go_wp2
  go_region
  change Exit.then _ _ _ _ (World.drew (World.alloc W (.cells (overEv K.ses x er).vs 71)))
  obtain ⟨w3, e3, hb3, hr3⟩ : ∃ w3, World.drew (World.alloc W (.cells (overEv K.ses x er).vs 71)) = w3 ∧ Below W.heap.size W w3 ∧ w3.heap[W.heap.size]? = some (.cells (overEv K.ses x er).vs 71 (0, 0)) := ⟨_, rfl, below_drew (below1 _ _), heap_alloc_new W _⟩
  rw [e3]
  clear e3
  have hHW := Lib.hid (H0.out.later hb3)
  have hb4 := Lib.hid (keepB HB hb3)
  have HRe := Lib.hid (rest_any hHW.out (Nat.le_trans hB hb4.out.size))
  go_wp2_with (first
    | (go_at_call 41; refine HRe.out.mono ?_; rintro e w4 ⟨rfl, hA4, ho4⟩; replace hA4 := Lib.hid hA4; have hE4 := Lib.hid (ho4.obj hr3 nE.out); have hR4 := Lib.hid (ho4.obj (obj_keep HR.out hb3) nR.out); replace ho4 := Lib.hid ho4)
    | (refine wpList_load_cells rfl 71 _ rfl ⟨W.heap.size, 0, none⟩ rfl (overEv K.ses x er).vs _ (row_of_obj hE4.out) Tryz.underlying71 rfl info_ev ?_)
    | (refine wpList_store_row rfl 71 _ _ rfl w.heap.size (overEv K.ses x er).vs rfl rfl 71 _ hR4.out info_ev rfl (ev_one _) ?_))
  refine bodyPost_ret (v := .agg (overEv K.ses x er).vs) (results_cell_row rfl _ _ w.heap.size _ (overEv K.ses x er).vs _ _ rfl (setRow_heap _ _ _ _ _ _ hR4.out) Tryz.underlying71 rfl info_ev) rfl ⟨rfl, ?_, ?_⟩
  · have hsz := hszW.out
    have hA := hA4.out.out (out_setRow w4 w.heap.size (overEv K.ses x er).vs) (fun k hk e => by
      subst e
      rcases hk with q | q
      · exact nR.out q
      · have := hb3.size; have := q.1; omega)
    obtain ⟨a1, a2, a3, a4, hA⟩ := hA
    have hlt := h.lt'
    have hs4 := ho4.out.size
    have hs3 := hb4.out.size
    exact ⟨_, _, _, _, hA.mono (fun k hk => hk.elim .inl (fun q => .inr ⟨by omega, by have := q.2; simp only [setRow_size]; omega⟩)) (fun k hk => hk.elim (fun q => ⟨(hlt k q).1, by have := (hlt k q).2; simp only [setRow_size]; omega⟩) (fun q => ⟨by omega, q.2⟩))⟩
  · have hz := (Array.getElem?_eq_some_iff.1 hR4.out).1
    exact ((Out.of_below hb4.out).trans' ho4.out).trans ((out_setRow w4 w.heap.size _).mono fun k hk => .inr ⟨by omega, by subst hk; exact hz⟩)
end
end Go.Proofs.YtjgloipgnnigmaaGreatDoor
/- The client's answered, where nothing is answered. -/
namespace Go.Proofs.YtjgloipgnnigmaaGreatDoor
open Go.RowKit Go.Shelf Go.Sort

theorem cellsAsk {w : World} {g : Nat} {a b c d : Value} {t : TypeId} (h : w.heap[g]? = some (.cells #[a, b, c, d] t (0, 0))) :
    (w.cell? ⟨g, 0, none⟩ = some a ∧ w.cell? ⟨g, 1, none⟩ = some b ∧ w.cell? ⟨g, 2, none⟩ = some c ∧ w.cell? ⟨g, 3, none⟩ = some d) ∧ w.frozen? ⟨g, 0, none⟩ = false ∧ w.frozen? ⟨g, 1, none⟩ = false ∧ w.frozen? ⟨g, 2, none⟩ = false ∧ w.frozen? ⟨g, 3, none⟩ = false := by
  refine ⟨⟨?_, ?_, ?_, ?_⟩, frozen_of_row w g _ _ _ h, frozen_of_row w g _ _ _ h, frozen_of_row w g _ _ _ h, frozen_of_row w g _ _ _ h⟩ <;> (rw [cell_of_row w g _ _ _ _ h]; rfl)
/-- Two results: a struct's block, a slot. -/
theorem results_cell_tmp {P : Program} {fn : Func} {p u : Tmp} {ty : TypeId} (h : fn.results = #[.cell p ty, .tmp u]) (tmps : Array Value) (w : World) (g : Nat) (t : TypeId) (cs : Array Value) (fr : Nat × Nat) (d : TypeDesc)
    (hp : tmps.getD p undef = .pointer (some ⟨g, 0, none⟩)) (hg : w.heap[g]? = some (.cells cs t fr))
    (hu : P.underlying ty = some d) (hd : (match d with | .struct _ | .array _ _ => true | _ => false) = true) (hi : (P.info? ty).map (·.size) = some cs.size) :
    (results fn tmps).run P w = .ok (.tuple #[.agg cs, tmps.getD u undef]) w := by
  have hp' : tmps[p]?.getD undef = .pointer (some ⟨g, 0, none⟩) := by simpa using hp
  simp [results, h, hp', asAddr, run_loadVar_row w g t ty cs fr d hg hu hd hi]
theorem ask_fin {w : World} {g : Nat} {a b d : Value} {c : Value} {t : TypeId} (h : w.heap[g]? = some (.cells #[.int .i64 0, .int .i64 0, .string ⟨#[]⟩, .int .u64 0] t (0, 0))) :
    ((((w.setCell ⟨g, 0, none⟩ a).setCell ⟨g, 1, none⟩ b).setCell ⟨g, 2, none⟩ c).setCell ⟨g, 3, none⟩ d).heap[g]? = some (.cells #[a, b, c, d] t (0, 0)) := by
  rw [blk_set21 _ (blk_set21 _ (blk_set21 _ (blk_set21 _ h)))]; rfl
theorem info_ask1 : (Tryz.prog.info? 103).map (·.size) = some 4 := by kernel_rfl
section
variable {w : World} {B p : Nat} {K : CliK} {x : CliD} {O : Nat → Prop}
set_option maxRecDepth 100000 in
set_option maxHeartbeats 2000000 in
theorem answered_no (h : CliAt w B p K x O) (ha : x.asks.length ≤ 6) (m : MsgV) (hK : answB x m = false) :
    Calls Tryz.prog 46 #[.pointer (some ⟨p, 0, none⟩), .agg m.vs] w fun e w' => e = .returned (.tuple #[.agg #[.int .i64 0, .int .i64 0, .string noStr, .int .u64 0], .bool false]) ∧ Below w.heap.size w w' := by
  obtain ⟨W0, eW0, HB0, hsz0, hr0⟩ := boxed w m.vs 43
  obtain ⟨W, eW, HBa, hszA, hrA⟩ := boxed W0 #[.int .i64 0, .int .i64 0, .string ⟨#[]⟩, .int .u64 0] 103
  obtain ⟨⟨e0, e1, e2, e3⟩, y0, y1, y2, y3⟩ := cellsAsk hrA
  replace hszA := Lib.hid hszA
  have HRA := Lib.hid hrA
  clear hrA
  have HB := keepB HB0 HBa
  have hr := obj_keep hr0 HBa
  obtain ⟨c0, c1, c2, c3, c4, c5, c6, c7, c8, c9, c10, c11, c12, c13, c14, c15, c16, c17, c18, c19, c20, c21, c22, c23, c24, c25, c26, c27, c28, c29, c30, c31, c32, c33⟩ := msg_cs hr
  clear c0 c1 c2 c3 c4 c5 c6 c7 c8 c9 c10 c11 c12 c13 c14 c15 c16 c17 c18 c19 c20 c21 c22 c23 c24 c25 c26 c27 c28 c29 c30 c31 c33 hr0
  obtain ⟨vr, vw, va, vk, hW⟩ := h.later HB
  obtain ⟨_, _, _, d3, _, _, _, _, _, _, d10, _⟩ := hW.cs
  obtain ⟨A10, cap10, e10, _, hA10, _⟩ := own_asks hW.rowa
  subst e10
  clear hW
  replace hsz0 := Lib.hid hsz0
  obtain ⟨k, hk⟩ : ∃ k, Hid (x.asks.findIdx (askP m.num m.key) = k) := ⟨_, rfl⟩
  have HI : Hid (∀ wz, Below W.heap.size W wz → Calls Tryz.prog 99 #[.slice A10 x.asks.length cap10, .func (.func 100) #[] #[.pointer (some ⟨w.heap.size, 0, none⟩)]] wz (IdxPost21 wz x.asks.length k)) := fun wz hb => by
    have := idxN_any x.asks A10 cap10 m _ w.heap.size wz (hA10.later hb) (obj_keep hr hb) (by omega)
    rwa [hk.out] at this
  have hb0 : answB x m = (decide (k < x.asks.length) && !(decide (x.state = 1) && decide (m.err ≠ 0))) := by rw [answB, answK, hk.out]
  rw [hb0] at hK
  by_cases hkl : k < x.asks.length
  · have hs : x.state = 1 ∧ m.err ≠ 0 := by simpa [hkl] using hK
    have q1 : ((x.state : Int) == 1) = true := by rw [beq_iff_eq]; omega
    have q2 : (m.err != 0) = true := by rw [bne_iff_ne]; exact hs.2
    have HX : Hid (∀ wz e w', IdxPost21 wz x.asks.length k e w' → e = .returned (.int .i64 (k : Int)) ∧ Below wz.heap.size wz w') := by
      intro wz e w' hp
      have := hp
      simp only [IdxPost21, if_pos hkl] at this
      exact this
    have q0 : decide ((k : Int) < 0) = false := by rw [decide_eq_false_iff_not]; omega
    clear hK hb0 hs
    go_enter Tryz.func46, Tryz.ntmps46
    go_wp2_with (go_at_call 99; refine (HI.out _ (Below.refl _ _)).mono ?_; intro e w1 hp; obtain ⟨rfl, hb⟩ := HX.out _ _ _ hp; clear hp; replace c32 := keep hb c32; replace d3 := keep hb d3; replace e0 := keep hb e0; replace e1 := keep hb e1; replace e2 := keep hb e2; replace e3 := keep hb e3; replace HRA := Lib.hid (obj_keep HRA.out hb); obtain ⟨-, y0, y1, y2, y3⟩ := cellsAsk HRA.out)
    refine bodyPost_ret (v := .tuple #[.agg #[.int .i64 0, .int .i64 0, .string noStr, .int .u64 0], .bool false]) (results_cell_tmp (p := 4) (u := 5) rfl _ _ W0.heap.size _ #[.int .i64 0, .int .i64 0, .string noStr, .int .u64 0] (0, 0) _ rfl (ask_fin HRA.out) Tryz.underlying103 rfl info_ask1) rfl ⟨rfl, ?_⟩
    exact Below.setCell (p := ⟨W0.heap.size, 3, none⟩) (Below.setCell (p := ⟨W0.heap.size, 2, none⟩) (Below.setCell (p := ⟨W0.heap.size, 1, none⟩) (Below.setCell (p := ⟨W0.heap.size, 0, none⟩) (keepB HB hb) HB0.size _) HB0.size _) HB0.size _) HB0.size _
  · have HX : Hid (∀ wz e w', IdxPost21 wz x.asks.length k e w' → e = .returned (.int .i64 (-1)) ∧ Below wz.heap.size wz w') := by
      intro wz e w' hp
      have := hp
      simp only [IdxPost21, if_neg hkl] at this
      exact this
    clear hK hb0
    go_enter Tryz.func46, Tryz.ntmps46
    go_wp2_with (go_at_call 99; refine (HI.out _ (Below.refl _ _)).mono ?_; intro e w1 hp; obtain ⟨rfl, hb⟩ := HX.out _ _ _ hp; clear hp; replace c32 := keep hb c32; replace d3 := keep hb d3; replace e0 := keep hb e0; replace e1 := keep hb e1; replace e2 := keep hb e2; replace e3 := keep hb e3; replace HRA := Lib.hid (obj_keep HRA.out hb); obtain ⟨-, y0, y1, y2, y3⟩ := cellsAsk HRA.out)
    refine bodyPost_ret (v := .tuple #[.agg #[.int .i64 0, .int .i64 0, .string noStr, .int .u64 0], .bool false]) (results_cell_tmp (p := 4) (u := 5) rfl _ _ W0.heap.size _ #[.int .i64 0, .int .i64 0, .string noStr, .int .u64 0] (0, 0) _ rfl (ask_fin HRA.out) Tryz.underlying103 rfl info_ask1) rfl ⟨rfl, ?_⟩
    exact Below.setCell (p := ⟨W0.heap.size, 3, none⟩) (Below.setCell (p := ⟨W0.heap.size, 2, none⟩) (Below.setCell (p := ⟨W0.heap.size, 1, none⟩) (Below.setCell (p := ⟨W0.heap.size, 0, none⟩) (keepB HB hb) HB0.size _) HB0.size _) HB0.size _) HB0.size _
end
end Go.Proofs.YtjgloipgnnigmaaGreatDoor
/- The client's Commit. -/
namespace Go.Proofs.YtjgloipgnnigmaaGreatDoor
open Go.RowKit Go.Shelf Go.Sort

/-- What submits: a row of sends of the call's own, nothing else is changed. -/
def SubPost (w : World) (d : List SndD) (e : Ending) (w' : World) : Prop := ∃ v l, e = .returned v ∧ SndsAt w' w.heap.size v l d ∧ Below w.heap.size w w'
section
variable {w : World} {B p : Nat} {K : CliK} {x : CliD} {O : Nat → Prop}
set_option maxRecDepth 100000 in
set_option maxHeartbeats 2000000 in
theorem commit_any {N : Nat} (h : CliAt w B p K x O) (hB : B ≤ w.heap.size) (hI : CliInv K.c N x)
    (HSub : ∀ wz, CliAt wz B p K { x with state := 2 } O → Out O w wz → Calls Tryz.prog 42 #[.pointer (some ⟨p, 0, none⟩)] wz (SubPost wz (submitD K.c K.ses { x with state := 2 }))) :
    Calls Tryz.prog 11 #[.pointer (some ⟨p, 0, none⟩)] w (SndPost w B p K O (commitD x) (commitL K.c K.ses x) (commitE x)) := by
  have hl1 := hI.rn
  have hl2 := hI.an
  have hl3 := hI.wn
  clear hI
  have h0 := Lib.hid h
  obtain ⟨vr, vw, va, vk, h⟩ := h
  obtain ⟨_, _, _, _, _, _, _, _, c8, c9, c10, _⟩ := h.cs
  have f3 := h.fz 3
  obtain ⟨A8, cap8, e8, _⟩ := own_rds h.rowr
  obtain ⟨A9, cap9, e9, _⟩ := own_wrs h.roww
  obtain ⟨A10, cap10, e10, _⟩ := own_asks h.rowa
  subst e8 e9 e10
  have HI := Lib.hid h
  clear h
  by_cases s1 : x.state = 1
  · have q1 : ((x.state : Int) == 1) = true := by rw [beq_iff_eq]; omega
    by_cases sa : 0 < x.asks.length
    · have HR : Hid (commitK x = 0) := by show _ = _; simp [commitK, s1, sa]
      have HP : Hid (∀ w', Below w.heap.size w w' → SndPost w B p K O (commitD x) (commitL K.c K.ses x) (commitE x) (.returned (.tuple #[.slice none 0 0, .int .i64 11])) w') := fun w' hb => snd_none h0.out hB hb (by simp [commitL, HR.out]) (by simp [commitD, HR.out]) (by simp [commitE, HR.out])
      have qa : decide (0 < x.asks.length) = true := by rw [decide_eq_true_iff]; omega
      clear s1 sa
      go_enter Tryz.func11, Tryz.ntmps11
      go_wp2_with (go_at_call 35; refine (in_any h0.out 1 true q1).mono ?_; rintro e w1 ⟨rfl, rfl⟩)
      go_ret2
      exact HP.out _ (Below.refl _ _)
    · have qa : decide (0 < x.asks.length) = false := by rw [decide_eq_false_iff_not]; omega
      have hsw : IntKind.i64.wrap ((x.rds.length : Int) + (x.wrs.length : Int)) = (x.rds.length : Int) + (x.wrs.length : Int) := IntWalk.i64_in _ (by omega)
      by_cases sz : x.rds.length + x.wrs.length = 0
      · have HR : Hid (commitK x = 1) := by show _ = _; unfold commitK; rw [if_neg (by omega), if_pos sz]
        have qz : (((x.rds.length : Int) + (x.wrs.length : Int)) == 0) = true := by rw [beq_iff_eq]; omega
        have HP : Hid (∀ w', CliAt w' B p K (restD x) (ext O w w') → Out O w w' → SndPost w B p K O (commitD x) (commitL K.c K.ses x) (commitE x) (.returned (.tuple #[.slice none 0 0, .int .i64 0])) w') := fun w' ha ho => by
          have e1 : commitD x = restD x := by simp [commitD, HR.out]
          have e2 : commitL K.c K.ses x = [] := by simp [commitL, HR.out]
          have e3 : commitE x = 0 := by simp [commitE, HR.out]
          rw [e1, e2, e3]
          exact ⟨_, [], rfl, SndsAt.nil _ _, ha, ho⟩
        have HRest := Lib.hid (fun wz (hb : Below w.heap.size w wz) => rest_any (h0.out.later hb) (Nat.le_trans hB hb.size))
        have HLt := Lib.hid h0.out.lt'
        clear s1 sa sz
        go_enter Tryz.func11, Tryz.ntmps11
        go_wp2_with (first
          | (go_at_call 35; refine (in_any h0.out 1 true q1).mono ?_; rintro e w1 ⟨rfl, rfl⟩))
        go_quiet (fail)
        go_wp2_with (first
          | (go_at_call 41; refine (HRest.out _ (below_drewN (Below.refl _ _) _)).mono ?_; rintro e w2 ⟨rfl, hA, ho⟩))
        go_ret2
        exact HP.out _ (hA.wide (Nat.le_refl _) ho.size (Below.refl _ _) HLt.out hB) ((Out.of_below (below_drewN (Below.refl _ _) _)).trans' ho)
      · have HR : Hid (commitK x = 2) := by show _ = _; unfold commitK; rw [if_neg (by omega), if_neg sz]
        have qz : (((x.rds.length : Int) + (x.wrs.length : Int)) == 0) = false := by rw [beq_eq_false_iff_ne]; omega
        have HP : Hid (∀ w1 w' v l, CliAt w1 B p K { x with state := 2 } O → Out O w w1 → SndsAt w' w1.heap.size v l (submitD K.c K.ses { x with state := 2 }) → Below w1.heap.size w1 w' → SndPost w B p K O (commitD x) (commitL K.c K.ses x) (commitE x) (.returned (.tuple #[v, .int .i64 0])) w') := fun w1 w' v l ha ho hs hb => by
          have e1 : commitD x = { x with state := 2 } := by simp [commitD, HR.out]
          have e2 : commitL K.c K.ses x = submitD K.c K.ses { x with state := 2 } := by simp [commitL, HR.out]
          have e3 : commitE x = 0 := by simp [commitE, HR.out]
          rw [e1, e2, e3]
          obtain ⟨a1, a2, a3, a4, ha⟩ := ha.later hb
          exact ⟨v, l, rfl, ⟨World.ownsRow.mono hs.row ho.size, hs.is, hs.at_⟩, ⟨a1, a2, a3, a4, ha.widen (fun k hk => (h0.out.lt' k hk).2) hB⟩, ho.trans' (Out.of_below hb)⟩
        have HS3 := Lib.hid (fun wz (hb : Below w.heap.size w wz) => (HI.out.later hb).s3 2)
        have HO3 : Hid (∀ wz, Below w.heap.size w wz → Out O w (wz.setCell ⟨p, 3, none⟩ (.int .i64 2))) := fun wz hb => out_p HI.out.hp (Out.of_below hb)
        replace HSub := Lib.hid HSub
        clear s1 sa sz
        go_enter Tryz.func11, Tryz.ntmps11
        go_wp2_with (first
          | (go_at_call 35; refine (in_any h0.out 1 true q1).mono ?_; rintro e w1 ⟨rfl, rfl⟩))
        go_quiet (fail)
        go_wp2_with (first
          | (go_at_call 42; refine (HSub.out _ ⟨_, _, _, _, HS3.out _ (below_drewN (Below.refl _ _) _)⟩ (HO3.out _ (below_drewN (Below.refl _ _) _))).mono ?_; rintro e w2 ⟨v2, l2, rfl, hs2, hb2⟩))
        go_ret2
        exact HP.out _ _ _ _ ⟨_, _, _, _, HS3.out _ (below_drewN (Below.refl _ _) _)⟩ (HO3.out _ (below_drewN (Below.refl _ _) _)) hs2 hb2
  · have q1 : ((x.state : Int) == 1) = false := by rw [beq_eq_false_iff_ne]; omega
    have HR : Hid (commitK x = 0) := by show _ = _; simp [commitK, s1]
    have HP : Hid (∀ w', Below w.heap.size w w' → SndPost w B p K O (commitD x) (commitL K.c K.ses x) (commitE x) (.returned (.tuple #[.slice none 0 0, .int .i64 11])) w') := fun w' hb => snd_none h0.out hB hb (by simp [commitL, HR.out]) (by simp [commitD, HR.out]) (by simp [commitE, HR.out])
    clear s1
    go_enter Tryz.func11, Tryz.ntmps11
    go_wp2_with (go_at_call 35; refine (in_any h0.out 1 false q1).mono ?_; rintro e w1 ⟨rfl, rfl⟩)
    go_ret2
    exact HP.out _ (Below.refl _ _)
end
end Go.Proofs.YtjgloipgnnigmaaGreatDoor
/- Laws of no program: 'copy' over a row whose elements take several cells; 'append(s[:0], make(S, k)...)' where there is no room. -/
namespace Go.Proofs.YtjgloipgnnigmaaGreatDoor
open Go.RowKit

section
variable {P : Program} {w : World}
theorem run_copy_rowS (w : World) (dT sT ty elem : TypeId) (size g o dLen dCap : Nat) (a : Addr) (sLen sCap : Nat) (cur : Array Value) (t : TypeId) (cs : List Value)
    (hu : P.underlying dT = some (.slice elem)) (hs : (P.info? elem).map (·.size) = some size)
    (hg : w.heap[g]? = some (.cells cur t (0, 0))) (hn : cs.length = Nat.min sLen dLen * size)
    (hsrc : ∀ j v, cs[j]? = some v → w.cell? (a.add j) = some v) (hfit : o + cs.length ≤ cur.size) (h1 : ∀ v ∈ cs, v.oneCell' = true) :
    (Builtin.copy_ #[dT, sT] ty #[.slice (some ⟨g, o, none⟩) dLen dCap, .slice (some a) sLen sCap]).run P w =
      .ok (goInt (Nat.min sLen dLen)) (w.setRow g (cur.toList.take o ++ cs ++ cur.toList.drop (o + cs.length)).toArray) := by
  have hl := run_loadCells_list (P := P) w a cs hsrc
  have hst := run_storeCells_at P g o t cs 0 cur w hg (by simpa using hfit) h1
  cases hq : P.info? elem with
  | none => simp [hq] at hs
  | some i =>
    have hi : i.size = size := by simpa [hq] using hs
    simp [Builtin.copy_, run_underlying hu, Builtin.lenOf, Builtin.firstCells, sizeOf, typeInfo, hq, hi, ← hn, hl, hst]
theorem grown_setRow (w : World) (g : Nat) (cs : Array Value) : w.grownBy (w.setRow g cs) (some g) :=
  ⟨rfl, rfl, rfl, by simp [World.setRow], fun k _ hk => setRow_other w g k cs (fun e => hk (by rw [e]))⟩
theorem run_copy_spliceS (w : World) (dT sT ty elem : TypeId) (size g o dLen dCap : Nat) (a : Addr) (sLen sCap : Nat) (cur : List Value) (t : TypeId) (cs : List Value)
    (hu : P.underlying dT = some (.slice elem)) (hs : (P.info? elem).map (·.size) = some size)
    (hg : w.heap[g]? = some (.cells cur.toArray t (0, 0))) (hn : cs.length = Nat.min sLen dLen * size)
    (hsrc : ∀ j v, cs[j]? = some v → w.cell? (a.add j) = some v) (hfit : o + cs.length ≤ cur.length) (h1 : ∀ v ∈ cs, v.oneCell' = true) :
    ∃ n w', (Builtin.copy_ #[dT, sT] ty #[.slice (some ⟨g, o, none⟩) dLen dCap, .slice (some a) sLen sCap]).run P w = .ok (goInt n) w' ∧ w'.heap[g]? = some (.cells (splice cur o cs).toArray t (0, 0)) ∧ w.grownBy w' (some g) := by
  refine ⟨_, _, run_copy_rowS w dT sT ty elem size g o dLen dCap a sLen sCap cur.toArray t cs hu hs hg hn hsrc (by simpa using hfit) h1, ?_, grown_setRow _ _ _⟩
  rw [setRow_heap w g cur.toArray _ t _ hg]
  simp [splice]
theorem wpList_copy_spliceS {ops : Array Oper} {rest : List Oper} {o : Oper} {a : Act} {Q : Exit → Act → World → Prop} (hgd : o.guard = none) (d s : Operand) (dT sT : TypeId)
    (ho : o.op = .call { callee := .builtin .copy, args := #[d, s], argTypes := #[dT, sT] }) (elem : TypeId) (size : Nat) (hu : P.underlying dT = some (.slice elem)) (hsz : (P.info? elem).map (·.size) = some size)
    (g off dLen dCap : Nat) (ad : Addr) (sLen sCap : Nat) (hd : a.eval d = .slice (some ⟨g, off, none⟩) dLen dCap) (hs : a.eval s = .slice (some ad) sLen sCap)
    (cur : List Value) (t : TypeId) (hg : w.heap[g]? = some (.cells cur.toArray t (0, 0))) (cs : List Value) (hn : cs.length = Nat.min sLen dLen * size)
    (hsrc : ∀ j v, cs[j]? = some v → w.cell? (ad.add j) = some v) (hfit : off + cs.length ≤ cur.length) (h1 : ∀ v ∈ cs, v.oneCell' = true)
    (h : ∀ (n : Int) (w' : World), Hid (w'.heap[g]? = some (.cells (splice cur off cs).toArray t (0, 0))) → w.grownBy w' (some g) → wpList P ops Q rest (a.put o.dst (goInt n)) w') : wpList P ops Q (o :: rest) a w := by
  obtain ⟨n, w', hr, h2, h3⟩ := run_copy_spliceS (P := P) w dT sT o.type elem size g off dLen dCap ad sLen sCap cur t cs hu hsz hg hn hsrc hfit h1
  refine wpList_plain hgd fun K hK => ?_
  unfold Oper.wp
  simp [execOp, ho, resolve, invoke, builtin, hd, hs, hr, Result.andThen]
  exact hK _ _ (h n w' h2 h3)
theorem step_copy_spliceS {ops : Array Oper} {o : Oper} {a : Act} {K : Act → World → Prop} {Q : Exit → Act → World → Prop} {E : Prop} (hgd : o.guard = none) (d s : Operand) (dT sT : TypeId)
    (ho : o.op = .call { callee := .builtin .copy, args := #[d, s], argTypes := #[dT, sT] }) (elem : TypeId) (size : Nat) (hu : P.underlying dT = some (.slice elem)) (hsz : (P.info? elem).map (·.size) = some size)
    (g off dLen dCap : Nat) (ad : Addr) (sLen sCap : Nat) (hd : a.eval d = .slice (some ⟨g, off, none⟩) dLen dCap) (hs : a.eval s = .slice (some ad) sLen sCap)
    (cur : List Value) (t : TypeId) (hg : w.heap[g]? = some (.cells cur.toArray t (0, 0))) (cs : List Value) (hn : cs.length = Nat.min sLen dLen * size)
    (hsrc : ∀ j v, cs[j]? = some v → w.cell? (ad.add j) = some v) (hfit : off + cs.length ≤ cur.length) (h1 : ∀ v ∈ cs, v.oneCell' = true)
    (h : ∀ (n : Int) (w' : World), Hid (w'.heap[g]? = some (.cells (splice cur off cs).toArray t (0, 0))) → w.grownBy w' (some g) → K (a.put o.dst (goInt n)) w') :
    if Region.wanted o (yielded ops a.tmps) = true then Oper.wp P o a w K Q else E := by
  obtain ⟨n, w', hr, h2, h3⟩ := run_copy_spliceS (P := P) w dT sT o.type elem size g off dLen dCap ad sLen sCap cur t cs hu hsz hg hn hsrc hfit h1
  have hw : Region.wanted o (yielded ops a.tmps) = true := by simp [Region.wanted, hgd]
  rw [if_pos hw]
  unfold Oper.wp
  simp [execOp, ho, resolve, invoke, builtin, hd, hs, hr, Result.andThen]
  exact h n w' h2 h3
/-- append(s[:0], make(S, k)...) where there is no room. -/
theorem wpList_append_zeros {ops : Array Oper} {rest : List Oper} {o : Oper} {a : Act} {Q : Exit → Act → World → Prop} (hgd : o.guard = none) (s x : Operand) (t tn : TypeId)
    (ho : o.op = .call { callee := .builtin .append, args := #[s, x], argTypes := #[t, tn] }) (e : TypeId) (i : TypeInfo) (z : Value) (size bytes : Nat) (ht : P.underlying t = some (.slice e)) (htn : P.underlying tn = some (.int .i64)) (hi : P.info? e = some i) (hz : i.zero = some z)
    (hsize : i.size = size) (hby : i.bytes = bytes) (hzs : z.cells.size = size) (hsz : 0 < size) (base : Option Addr) (cap k : Nat) (z' : Int) (hs : a.eval s = .slice base 0 cap) (hx : a.eval x = .int .i64 z') (hzk : z' = (k : Int)) (h0 : 0 < k) (hcap : cap < k)
    (h63 : k ≤ 1000000) (hbytes : k * bytes ≤ 140737488355328)
    (h : ∀ (G : Nat) (cur : List Value) (w' : World), k ≤ G → G ≤ 9223372036854775807 → cur.length = G * size → w'.heap[w.heap.size]? = some (.cells cur.toArray e (0, 0)) → w.grownBy w' none → w'.heap.size = w.heap.size + 1 → wpList P ops Q rest (a.put o.dst (.slice (some ⟨w.heap.size, 0, none⟩) k G)) w') : wpList P ops Q (o :: rest) a w := by
  subst hzk
  have hold : (Builtin.firstCells i.size 0 (.slice base 0 cap)).run P w.drew = .ok ([] : List Value).toArray w.drew := by
    cases base with
    | none => exact run_firstCells_none _ _ _ _ _
    | some a => exact run_firstCells_some w.drew _ 0 a 0 cap [] (by simp) (fun j v hj => by simp at hj)
  have hr := Lib.run_append_grow_zeros (P := P) w t tn o.type e i z .i64 .i64 ht htn hi hz base 0 cap [] hold k h0 (by omega) (by omega) (by omega) (by rw [hby]; omega) (by rw [hby, Nat.zero_add]; exact growslice_fits hcap hbytes)
  rw [Nat.zero_add] at hr
  refine Lib.wpList_append_run w hgd s x t tn ho _ _ hs hx _ _ hr ?_
  obtain ⟨G, hG⟩ : ∃ G, grownCap w k cap e = G := ⟨_, rfl⟩
  have hg1 : k ≤ G := hG ▸ grownCap_ge w k cap e
  have hg2 : G ≤ maxLen := hG ▸ grownCap_le_maxLen w k cap e (le_maxLen h63)
  rw [hG]
  have hl : (Builtin.zeroCells z.cells k ++ Builtin.zeroCells z.cells (G - k)).toList.length = G * size := by
    have e0 : G = k + (G - k) := by omega
    have : ∀ n, (Builtin.zeroCells z.cells n).size = n * size := fun n => by simp [Builtin.zeroCells, hzs]
    rw [Array.length_toList, Array.size_append, this, this, ← Nat.add_mul]
    congr 1
    omega
  refine h G _ _ hg1 (by unfold maxLen at hg2; omega) hl ?_ ?_ ?_
  · rw [show w.heap.size = w.drew.heap.size from rfl, heap_alloc_new]
    simp
  · exact ⟨rfl, rfl, rfl, by simp, (World.grownBy_alloc w.drew _ none).block⟩
  · simp
end
end Go.Proofs.YtjgloipgnnigmaaGreatDoor
