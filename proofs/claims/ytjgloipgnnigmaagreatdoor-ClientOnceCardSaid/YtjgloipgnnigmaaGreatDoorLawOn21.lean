/- ClientOnce's walk. -/
import Derived.Test.YtjgloipgnnigmaaGreatDoorJ20
import Derived.Deep.RegionHeld3
set_option linter.unusedVariables false
set_option linter.unusedSimpArgs false
namespace Go.Proofs.YtjgloipgnnigmaaGreatDoor
open Go.RowKit Go.Shelf Go.Sort

/-- Of a session's numbers: the last one, and the one that was told of last. -/
def OnceInv (x : CliD) (told : Nat) : Prop := told ≤ x.seq ∧ (x.state = 1 ∨ x.state = 2 → told < x.seq)
theorem once_0 : OnceInv cli0 0 := ⟨Nat.le_refl _, fun h => (by rcases h with h | h <;> cases h)⟩
/-- The ways of an act, as ClientOnce sees them: an outcome is told; a transaction begins; neither. -/
theorem once_ways {K : CliK} {x y : CliD} {ev : List EvD} {N told : Nat} (ha : ActIs K x y ev) (hi : CliInv K.c N x) (h : OnceInv x told) :
    (∃ b s, ev = [⟨2, K.ses, x.seq, noStr, noVal, 0, b, s, 0⟩] ∧ x.state = 2 ∧ y.state = 0 ∧ y.seq = x.seq ∧ told < x.seq ∧ OnceInv y x.seq) ∨
    ((∀ e ∈ ev, e.kind ≠ 2) ∧ x.state = 0 ∧ y.state = 1 ∧ y.seq = x.seq + 1 ∧ OnceInv y told) ∨
    ((∀ e ∈ ev, e.kind ≠ 2) ∧ y.seq = x.seq ∧ (y.state ≠ 1 ∨ (y.state = 1 ∧ x.state ≠ 0)) ∧ OnceInv y told) := by
  rcases act_told ha with h1 | ⟨b, s, e1, e2, e3, e4⟩
  · rcases act_begun ha hi with ⟨b1, b2, b3, b4, _⟩ | ⟨b1, b2, b3⟩
    · exact .inr (.inl ⟨h1, b1, b2, b3, by have := h.1; omega, fun _ => by have := h.1; omega⟩)
    · refine .inr (.inr ⟨h1, b1, ?_, by have := h.1; omega, fun hs => ?_⟩)
      · by_cases q : y.state = 1
        · exact .inr ⟨q, by have := b2 q; omega⟩
        · exact .inl q
      · rw [b1]
        exact h.2 (hs.elim (fun q => .inl (b2 q)) b3)
  · exact .inl ⟨b, s, e1, e2, e3, e4, h.2 (.inr e2), by omega, fun hs => by omega⟩
def txnS (x : CliD) : Nat := if inTxn x then x.seq else 0
theorem txnS_in {x : CliD} (h : x.state = 1 ∨ x.state = 2) : txnS x = x.seq := by
  rw [txnS, if_pos (by rcases h with h | h; exact inTxn_1 h; exact inTxn_2 h)]
def TxnQ (w : World) (s : Nat) (e : Ending) (w' : World) : Prop := ∃ (z : Int) (A C : Option Addr) (n m ca cb : Nat), e = .returned (.agg #[.int .i64 z, .int .i64 (s : Int), .slice A n ca, .slice C m cb]) ∧ Below w.heap.size w w'
theorem TwoX.txnq {w0 : Gap} {w : World} {B p q n : Nat} {K : CliK} {x : CliD} (h : TwoX w0 w B p q K n x) (s : Nat) (hs : txnS x = s) : Calls Tryz.prog 24 #[.pointer (some ⟨p, 0, none⟩)] w (TxnQ w s) := by
  refine h.txn.mono fun e w' ⟨A, C, ca, cb, he, _, _, _, hb⟩ => ⟨(txnD K.ses x).ses, A, C, (txnD K.ses x).rds.length, (txnD K.ses x).wrs.length, ca, cb, ?_, hb⟩
  have : (txnD K.ses x).seq = (s : Int) := by
    rw [← hs, txnD, txnS]; split <;> rfl
  rw [he, txV, this]
theorem field_seqA (a b : Int) (w : World) : (Instr.field 33 (.agg #[.int .i64 a, .int .i64 b]) 1).run Tryz.prog w = .ok (.int .i64 b) w := by kernel_rfl
set_option maxRecDepth 100000 in
set_option maxHeartbeats 16000000 in
theorem law_on (c : Cfg) (ses : Int) (l : List OpX) (A B S : Option Addr) (ca cb cs : Nat) (w : World) (h : CfgAt w c A B) (hO : OpsAt w S l) (hT : Tabs w) (hca : c.reps.length ≤ ca) (hn : l.length ≤ 9223372036854775807) :
    Calls Tryz.prog 5 #[.agg #[.slice A c.reps.length ca, .slice B c.bnds.length cb], .int .i64 ses, .slice S l.length cs] w fun e w' => e = .returned (.bool true) ∧ Below w.heap.size w w' := by
  obtain ⟨W, eW, HB, c0, c1⟩ := box2 w (.slice A c.reps.length ca) (.slice B c.bnds.length cb) 25
  have hC := Lib.hid (h.later HB)
  have HO := Lib.hid (hO.later HB)
  have HT := Lib.hid (hT.later HB)
  clear h hO hT
  obtain ⟨f, hf⟩ : ∃ f, Hid (few21 c l = f) := ⟨_, rfl⟩
  cases f
  · go_enter Tryz.func5, Tryz.ntmps5
    go_wp2_with (first
      | (go_at_call 8; refine (awake21_any _).mono ?_; rintro e w1 ⟨rfl, hb⟩; replace c0 := keep hb c0; replace c1 := keep hb c1; replace HO := Lib.hid (HO.out.later hb); replace hC := Lib.hid (hC.out.later hb); replace HB := keepB HB hb; clear hb)
      | (go_at_call 9; refine (calls_few hf.out (few21_any c l A B S ca cb cs _ hC.out HO.out hn)).mono ?_; rintro e w2 ⟨rfl, hb⟩; replace c0 := keep hb c0; replace c1 := keep hb c1; replace HO := Lib.hid (HO.out.later hb); replace hC := Lib.hid (hC.out.later hb); replace HB := keepB HB hb; clear hb))
    go_ret
    exact ⟨rfl, HB⟩
  have hf60 : Hid (l.length ≤ 60) := by
    have := hf.out
    simp only [few21, Bool.and_eq_true, decide_eq_true_eq] at this
    exact this.1.2
  obtain ⟨ok, hk⟩ : ∃ ok, Hid (cliOK ⟨c, A, B, ca, cb, ses⟩ = ok) := ⟨_, rfl⟩
  cases ok
  · go_enter Tryz.func5, Tryz.ntmps5
    go_wp2_with (first
      | (go_at_call 8; refine (awake21_any _).mono ?_; rintro e w1 ⟨rfl, hb⟩; replace c0 := keep hb c0; replace c1 := keep hb c1; replace HO := Lib.hid (HO.out.later hb); replace hC := Lib.hid (hC.out.later hb); replace HB := keepB HB hb; clear hb)
      | (go_at_call 9; refine (calls_few hf.out (few21_any c l A B S ca cb cs _ hC.out HO.out hn)).mono ?_; rintro e w2 ⟨rfl, hb⟩; replace c0 := keep hb c0; replace c1 := keep hb c1; replace hC := Lib.hid (hC.out.later hb); replace HB := keepB HB hb; clear hb))
    go_region_held3 (fun w' => w'.cell? ⟨w.heap.size, 0, none⟩ = some (.slice A c.reps.length ca) ∧ w'.cell? ⟨w.heap.size, 1, none⟩ = some (.slice B c.bnds.length cb) ∧ Below w2.heap.size w2 w')
      (first | exact ⟨c0, c1, below_drew (Below.refl _ _)⟩ | (with_reducible exact ⟨keep hb3 c0, keep hb3 c1, hb3⟩) | (with_reducible exact ⟨keep hb4 c0, keep hb4 c1, hb4⟩))
      (first
        | (go_at_call 20; refine (cliNew_no ⟨c, A, B, ca, cb, ses⟩ _ (hC.out.later (below_drew (Below.refl _ _))) hk.out).mono ?_; rintro e w3 ⟨rfl, hb⟩; have hb3 : Below w2.heap.size w2 w3 := keepB (below_drew (Below.refl _ _)) hb)
        | (go_at_call 22; refine (rcNew_no ⟨c, A, B, ca, cb, ses⟩ _ (hC.out.later hb3) hk.out).mono ?_; rintro e w4 ⟨rfl, hb⟩; have hb4 : Below w2.heap.size w2 w4 := keepB hb3 hb))
    go_wp2
    go_ret
    exact ⟨rfl, keepB HB hb4⟩
  have hca' := Lib.hid hca
  clear hca
  go_enter Tryz.func5, Tryz.ntmps5
  go_wp2_with (first
    | (go_at_call 8; refine (awake21_any _).mono ?_; rintro e w1 ⟨rfl, hb⟩; replace c0 := keep hb c0; replace c1 := keep hb c1; replace HO := Lib.hid (HO.out.later hb); replace hC := Lib.hid (hC.out.later hb); replace HT := Lib.hid (HT.out.later hb); replace HB := keepB HB hb; clear hb)
    | (go_at_call 9; refine (calls_few hf.out (few21_any c l A B S ca cb cs _ hC.out HO.out hn)).mono ?_; rintro e w2 ⟨rfl, hb⟩; replace c0 := keep hb c0; replace c1 := keep hb c1; replace HO := Lib.hid (HO.out.later hb); replace hC := Lib.hid (hC.out.later hb); replace HT := Lib.hid (HT.out.later hb); replace HB := keepB HB hb; clear hb))
  go_region_held3 (fun w' => w'.cell? ⟨w.heap.size, 0, none⟩ = some (.slice A c.reps.length ca) ∧ w'.cell? ⟨w.heap.size, 1, none⟩ = some (.slice B c.bnds.length cb) ∧ Below w2.heap.size w2 w')
    (first | exact ⟨c0, c1, below_drew (Below.refl _ _)⟩ | (with_reducible exact ⟨keep hb3 c0, keep hb3 c1, hb3⟩) | (with_reducible exact ⟨keep hb4 c0, keep hb4 c1, hb4⟩))
    (first
      | (go_at_call 20; refine (cliNew_ok ⟨c, A, B, ca, cb, ses⟩ _ (hC.out.later (below_drew (Below.refl _ _))) hk.out).mono ?_; rintro e w3 ⟨p, rfl, hA3, hb⟩; have hb3 : Below w2.heap.size w2 w3 := keepB (below_drew (Below.refl _ _)) hb; replace hA3 := Lib.hid hA3)
      | (go_at_call 22; refine (rcNew_ok ⟨c, A, B, ca, cb, ses⟩ _ (hC.out.later hb3) hk.out).mono ?_; rintro e w4 ⟨q, rfl, hR4, hb⟩; have hb4 : Below w2.heap.size w2 w4 := keepB hb3 hb; have hX4 : Hid (TwoX ⟨w2, fun _ => False, w4⟩ w4 w2.heap.size p q ⟨c, A, B, ca, cb, ses⟩ 0 cli0) := ⟨_, _, two_new hC.out HT.out hca'.out hk.out hA3.out hb3 hR4 hb⟩; clear hR4))
  clear eW hca' HT c0 c1 hA3 hb3
  have hBsz := HB.size
  clear hb4
  obtain ⟨wg, hwg⟩ : ∃ wg, Hid (wg = w4) := ⟨_, rfl⟩
  replace hX4 : Hid (TwoX ⟨w2, fun _ => False, wg⟩ w4 w2.heap.size p q ⟨c, A, B, ca, cb, ses⟩ 0 cli0) := by rw [hwg.out]; exact hX4
  go_wp2
  go_loopw [9, 10, 11] (fun la td i wr => ∃ k : Nat, k ≤ l.length ∧ i = .int .i64 k ∧ ∃ x : CliD, ∃ told : Nat, la = .int .i64 (x.seq : Int) ∧ td = .int .i64 (told : Int) ∧ Hid (OnceInv x told) ∧ Hid (TwoX ⟨w2, fun _ => False, wg⟩ wr w2.heap.size p q ⟨c, A, B, ca, cb, ses⟩ k x)) (fun _ _ i _ => l.length - (intOf i).toNat)
  case atStart => exact ⟨0, Nat.zero_le _, rfl, cli0, 0, rfl, rfl, once_0, hX4⟩
  case round =>
    obtain ⟨k, hkl, rfl, x, told, rfl, rfl, HInv, HX⟩ := hrel
    obtain ⟨wz, rfl⟩ : ∃ wz : World, wz = wr := ⟨_, rfl⟩
    by_cases hlt : k < l.length
    · obtain ⟨b, off, o, rfl, hrow, ho, HXX⟩ := HO.out.at' hlt
      have HR := Lib.hid (CellRow.later hrow (HX.out.b.mono (Nat.le_refl _)))
      have hO1 : Hid (∀ wy, Below w2.heap.size wz wy → OpAt wy o) := fun wy hy => ho.later (HX.out.b.trans hy)
      have hk60 : Hid (k ≤ 1000) := by have := hf60.out; show _ ≤ _; omega
      have hk10 : Hid (o.keys.length ≤ 10) := by show _ ≤ _; rw [← HXX.out]; exact few21_keys hf.out hlt
      have hk1 : Hid (k + 1 ≤ l.length) := hlt
      clear hrow ho HXX
      obtain ⟨sq, hsq⟩ : ∃ sq, Hid (txnS x = sq) := ⟨_, rfl⟩
      have hsw : IntKind.i64.wrap ((x.seq : Int) + 1) = (x.seq : Int) + 1 := IntWalk.i64_in _ (by have := HX.out.inv.sq; omega)
      go_wp2_with (first
        | (go_at_call 18; (with_reducible refine HX.out.state.mono ?_); rintro e w3 ⟨rfl, rfl⟩)
        | (go_at_call 24; (with_reducible refine (HX.out.txnq sq hsq.out).mono ?_); rintro e w5 ⟨z5, A5, C5, n5, m5, ka5, kb5, rfl, hb5⟩; have hfi := field_idA z5 (sq : Int) A5 C5 n5 ka5 m5 kb5; have hfs := field_seqA z5 (sq : Int); have HX5 := Lib.hid (HX.out.later hb5); have HR5 := Lib.hid (HR.out.later hb5); have hO5 : Hid (∀ wy, Below w2.heap.size w5 wy → OpAt wy o) := (fun wy hy => hO1.out wy ((hb5.mono HX.out.b.size).trans hy)); clear hb5)
        | (refine wpList_load_cells rfl 45 _ rfl ⟨b, off + k * 41, none⟩ rfl o.vs _ HR5.out Tryz.underlying45 rfl info_op21 ?_)
        | (go_at_call 23; (with_reducible refine (HX5.out.act hk60.out o hO5.out hk10.out).mono ?_); rintro e w4 ⟨bb, A4, c4, y, ev, rfl, hE4, hel, hY, ha, hfr⟩; clear hfr; replace hE4 := Lib.hid hE4; replace hY := Lib.hid hY; replace ha := Lib.hid ha; replace hel := Lib.hid hel; clear hfi hfs))
      have hev9 : ev.length ≤ 1000 := hel.out
      rcases once_ways ha.out HX.out.inv HInv.out with ⟨eb, es, e1, e2, e3, e4, e5, e6⟩ | ⟨e1, e2, e3, e4, e5⟩ | ⟨e1, e2, e3, e4⟩
      · subst e1
        have hsx : sq = x.seq := by rw [← hsq.out]; exact txnS_in (.inr e2)
        subst hsx
        have q2 : ((x.state : Int) != 2) = false := by rw [bne_eq_false_iff_eq]; omega
        have q3 : decide ((x.seq : Int) ≤ (told : Int)) = false := by rw [decide_eq_false_iff_not]; omega
        have q3b : decide (x.seq ≤ told) = false := by rw [decide_eq_false_iff_not]; omega
        have q4 : ((y.state : Int) == 1) = false := by rw [beq_eq_false_iff_ne]; omega
        replace e4 := Lib.hid e4
        replace e6 := Lib.hid e6
        clear e2 e3 e5 hev9
        go_loopw [10, 16] (fun td j wj => ∃ i : Nat, i ≤ 1 ∧ j = .int .i64 i ∧ td = .int .i64 ((if i = 0 then told else x.seq : Nat) : Int) ∧ Below w4.heap.size w4 wj) (fun _ j _ => 1 - (intOf j).toNat)
        case atStart => exact ⟨0, Nat.zero_le _, rfl, rfl, Below.refl _ _⟩
        case round =>
          obtain ⟨i, hil, rfl, htd, hj⟩ := hrel
          obtain ⟨wj, rfl⟩ : ∃ wj : World, wj = wr := ⟨_, rfl⟩
          have hYj := Lib.hid (hY.out.later hj)
          have hi01 : i = 0 ∨ i = 1 := by omega
          rcases hi01 with rfl | rfl
          · rw [if_pos rfl] at htd
            subst htd
            obtain ⟨g, rfl, hrow⟩ := hE4.out 0 (Nat.lt_succ_self 0)
            obtain ⟨m0, m1, m2, _, _, m8, m9, m10⟩ := ev_cs (e := ⟨2, ses, x.seq, noStr, noVal, 0, eb, es, 0⟩) (CellRow.later hrow hj)
            simp only [Nat.zero_mul, Nat.zero_add] at m0 m1 m2
            clear m8 m9 m10 hrow
            go_wp2
            go_roundw
            case rel => exact ⟨1, Nat.le_refl _, rfl, rfl, hj⟩
            case measure => simp [intOf]
          · rw [if_neg (by decide)] at htd
            subst htd
            go_wp2_with (go_at_call 18; (with_reducible refine hYj.out.state.mono ?_); rintro e w5 ⟨rfl, rfl⟩)
            go_roundw
            case rel => exact ⟨k + 1, hk1.out, by go_num, y, x.seq, by rw [e4.out], rfl, e6, hYj⟩
            case measure => have := hk1.out; simp [intOf]; omega
      all_goals
        have h2 := Lib.hid e1
        clear e1
      · have q4 : ((y.state : Int) == 1) = true := by rw [beq_iff_eq]; omega
        have q5 : ((x.state : Int) == 0) = true := by rw [beq_iff_eq]; omega
        obtain ⟨s1, hs1⟩ : ∃ s1, x.seq + 1 = s1 := ⟨_, rfl⟩
        have hys : Hid (txnS y = s1) := by show _ = _; rw [txnS_in (.inl e3), e4, hs1]
        have q6 : ((s1 : Int) != (x.seq : Int) + 1) = false := by rw [bne_eq_false_iff_eq]; omega
        replace e4 : y.seq = s1 := by rw [e4, hs1]
        replace hs1 := Lib.hid hs1
        replace e4 := Lib.hid e4
        replace e5 := Lib.hid e5
        clear e2 e3
        go_loopw [10, 16] (fun td j wj => ∃ i : Nat, i ≤ ev.length ∧ j = .int .i64 i ∧ td = .int .i64 (told : Int) ∧ Below w4.heap.size w4 wj) (fun _ j _ => ev.length - (intOf j).toNat)
        case atStart => exact ⟨0, Nat.zero_le _, rfl, rfl, Below.refl _ _⟩
        case round =>
          obtain ⟨i, hil, rfl, rfl, hj⟩ := hrel
          obtain ⟨wj, rfl⟩ : ∃ wj : World, wj = wr := ⟨_, rfl⟩
          have hYj := Lib.hid (hY.out.later hj)
          by_cases hl2 : i < ev.length
          · obtain ⟨g, rfl, hrow⟩ := hE4.out i hl2
            have hmem := h2.out _ (getD_mem (d := noEv) hl2)
            obtain ⟨m0, _, _, _, _, _, _, _⟩ := ev_cs (CellRow.later hrow hj)
            obtain ⟨kd, hkd⟩ : ∃ kd, (ev.getD i noEv).kind = kd := ⟨_, rfl⟩
            rw [hkd] at m0 hmem
            have qk : (kd == 2) = false := by rw [beq_eq_false_iff_ne]; exact hmem
            have ii : (i : Int) < (ev.length : Int) := by omega
            have i0 : (0 : Int) ≤ (i : Int) := by omega
            have hi1 : Hid (i + 1 ≤ ev.length) := hl2
            clear hmem hrow hkd
            go_wp2
            go_roundw
            case rel => exact ⟨i + 1, hi1.out, by go_num, rfl, hj⟩
            case measure => have := hi1.out; simp [intOf]; omega
          · have ii : ¬ ((i : Int) < (ev.length : Int)) := by omega
            go_wp2_with (first
              | (go_at_call 18; (with_reducible refine hYj.out.state.mono ?_); rintro e w5 ⟨rfl, rfl⟩)
              | (go_at_call 24; (first | ((with_reducible refine (hY6.out.txnq s1 hys.out).mono ?_); rintro e w7 ⟨z7, A7, C7, n7, m7, ka7, kb7, rfl, hb7⟩; have hfi := field_idA z7 (s1 : Int) A7 C7 n7 ka7 m7 kb7; have hfs := field_seqA z7 (s1 : Int); have hY7 := Lib.hid (hY6.out.later hb7)) | ((with_reducible refine (hYj.out.txnq s1 hys.out).mono ?_); rintro e w6 ⟨z6, A6, C6, n6, m6, ka6, kb6, rfl, hb6⟩; have hfi := field_idA z6 (s1 : Int) A6 C6 n6 ka6 m6 kb6; have hfs := field_seqA z6 (s1 : Int); have hY6 := Lib.hid (hYj.out.later hb6)))))
            go_roundw
            case rel => exact ⟨k + 1, hk1.out, by go_num, y, told, by rw [e4.out], rfl, e5, hY7⟩
            case measure => have := hk1.out; simp [intOf]; omega
      · replace e4 := Lib.hid e4
        replace e2 := Lib.hid e2
        go_loopw [10, 16] (fun td j wj => ∃ i : Nat, i ≤ ev.length ∧ j = .int .i64 i ∧ td = .int .i64 (told : Int) ∧ Below w4.heap.size w4 wj) (fun _ j _ => ev.length - (intOf j).toNat)
        case atStart => exact ⟨0, Nat.zero_le _, rfl, rfl, Below.refl _ _⟩
        case round =>
          obtain ⟨i, hil, rfl, rfl, hj⟩ := hrel
          obtain ⟨wj, rfl⟩ : ∃ wj : World, wj = wr := ⟨_, rfl⟩
          have hYj := Lib.hid (hY.out.later hj)
          by_cases hl2 : i < ev.length
          · obtain ⟨g, rfl, hrow⟩ := hE4.out i hl2
            have hmem := h2.out _ (getD_mem (d := noEv) hl2)
            obtain ⟨m0, _, _, _, _, _, _, _⟩ := ev_cs (CellRow.later hrow hj)
            obtain ⟨kd, hkd⟩ : ∃ kd, (ev.getD i noEv).kind = kd := ⟨_, rfl⟩
            rw [hkd] at m0 hmem
            have qk : (kd == 2) = false := by rw [beq_eq_false_iff_ne]; exact hmem
            have ii : (i : Int) < (ev.length : Int) := by omega
            have i0 : (0 : Int) ≤ (i : Int) := by omega
            have hi1 : Hid (i + 1 ≤ ev.length) := hl2
            clear hmem hrow hkd e3
            go_wp2
            go_roundw
            case rel => exact ⟨i + 1, hi1.out, by go_num, rfl, hj⟩
            case measure => have := hi1.out; simp [intOf]; omega
          · have ii : ¬ ((i : Int) < (ev.length : Int)) := by omega
            rcases e3 with q | ⟨q, q0⟩
            · have q4 : ((y.state : Int) == 1) = false := by rw [beq_eq_false_iff_ne]; omega
              clear q
              go_wp2_with (go_at_call 18; (with_reducible refine hYj.out.state.mono ?_); rintro e w5 ⟨rfl, rfl⟩)
              go_roundw
              case rel => exact ⟨k + 1, hk1.out, by go_num, y, told, by rw [e2.out], rfl, e4, hYj⟩
              case measure => have := hk1.out; simp [intOf]; omega
            · have q4 : ((y.state : Int) == 1) = true := by rw [beq_iff_eq]; omega
              have q5 : ((x.state : Int) == 0) = false := by rw [beq_eq_false_iff_ne]; omega
              clear q q0
              go_wp2_with (go_at_call 18; (with_reducible refine hYj.out.state.mono ?_); rintro e w5 ⟨rfl, rfl⟩)
              go_roundw
              case rel => exact ⟨k + 1, hk1.out, by go_num, y, told, by rw [e2.out], rfl, e4, hYj⟩
              case measure => have := hk1.out; simp [intOf]; omega
    · have ki : ¬ ((k : Int) < (l.length : Int)) := by omega
      go_wp2
      go_ret
      exact ⟨rfl, keepB HB (HX.out.b.mono (Nat.le_refl _))⟩
end Go.Proofs.YtjgloipgnnigmaaGreatDoor
