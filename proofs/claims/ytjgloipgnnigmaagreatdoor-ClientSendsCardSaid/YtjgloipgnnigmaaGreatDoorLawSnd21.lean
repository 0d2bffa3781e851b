/- ClientSends' walk. -/
import Derived.Test.YtjgloipgnnigmaaGreatDoorStep21
import Derived.Test.YtjgloipgnnigmaaGreatDoorSndL21
import Derived.Test.YtjgloipgnnigmaaGreatDoorJ17
import Derived.Test.YtjgloipgnnigmaaGreatDoorLawNil21
import Derived.Test.YtjgloipgnnigmaaGreatDoorJ6
import Derived.Deep.DeepCutAuto
import Derived.Deep.CutBlock
import Derived.Deep.RegionHeld3
import Derived.BigQuiet
import Derived.Lib.QuietBelow
set_option linter.unusedVariables false
set_option linter.unusedSimpArgs false
namespace Go.Proofs.YtjgloipgnnigmaaGreatDoor
open Go.RowKit Go.Shelf Go.Sort

def SndAll (c : Cfg) (w : World) (v : Value) : Prop := ∃ d, SndR w v d ∧ ∀ s ∈ d, SndOk c s
theorem sndAll_nil (c : Cfg) (w : World) : SndAll c w (.slice none 0 0) := ⟨[], ⟨0, [], SndsAt.nil _ _⟩, fun s hs => by cases hs⟩
def StepX (w0 w : World) (B p : Nat) (K : CliK) (n : Nat) : Prop := ∃ x, StepAt w0 w B p K n x
theorem snd_kinds (k : Int) : k = 1 ∨ k = 2 ∨ k = 3 ∨ k = 4 ∨ k = 6 ∨ k = 9 ∨ k = 8 ∨ ((k == 1) = false ∧ (k == 2) = false ∧ (k == 3) = false ∧ (k == 4) = false ∧ (k == 6) = false ∧ (k == 9) = false ∧ (k == 8) = false) := by
  simp only [beq_eq_false_iff_ne]; omega
theorem info_str21 : (Tryz.prog.info? 9).map (fun i => (i.zero, i.size, i.bytes)) = some (some (.string ByteArray.empty), 1, 16) := by kernel_rfl
theorem few21_keys {c : Cfg} {l : List OpX} (h : few21 c l = true) {k : Nat} (hk : k < l.length) : (l.getD k noOpX).keys.length ≤ 10 := by
  simp only [few21, Bool.and_eq_true, decide_eq_true_eq] at h
  have hm : l.getD k noOpX ∈ l.take 100 := by
    rw [List.take_of_length_le (by omega)]; exact getD_mem hk
  have := List.all_eq_true.1 h.1.1 _ hm
  simp only [fewO, Bool.and_eq_true, decide_eq_true_eq] at this
  exact this.1.1.2
theorem opAt_keys {w : World} {o : OpX} (h : OpAt w o) : ∀ k ∈ o.keys, k.size ≤ maxLen := fun s hs => by
  obtain ⟨i, hi, rfl⟩ := List.getElem_of_mem hs
  have := h.kz i hi
  rw [getD_eq o.keys noStr hi] at this
  exact this
theorem yieldsIf_cells {P : Program} {ops : Array Oper} {S : World → Prop} {op : Oper} {a : Act} (hw : Region.wanted op (yielded ops a.tmps) = true) (ty : TypeId) (x : Operand) (ho : op.op = .load ty x)
    (ad : Addr) (hx : a.eval x = .pointer (some ad)) (cs : Array Value) (d : TypeDesc) (hS : ∀ w, S w → CellRow w ad cs)
    (hu : P.underlying ty = some d) (hd : (match d with | .struct _ | .array _ _ => true | _ => false) = true) (hi : (P.info? ty).map (·.size) = some cs.size) : YieldsIf P ops S op (.agg cs) a :=
  .inl ⟨hw, fun w hw' => by
    unfold execOp
    simp only [ho, hx, Instr.loadAt, Instr.sureAddr, Sem.run_bind, Sem.run_pure, Result.andThen_ok, run_loadVar_cells w ad ty cs d (hS w hw') hu hd hi]⟩
theorem keep_s2 {wz w w1 : World} {g p : Nat} {c : Cfg} {t : Tx} {A B A9 B9 : Option Addr} {ca cb ca9 cb9 : Nat} (hb : Below w.heap.size w w1) (h : CellRow w ⟨g, 0, none⟩ (submitM t A9 B9 ca9 cb9).vs ∧ w.cell? ⟨g, 0, none⟩ = some (.int .i64 8) ∧ w.cell? ⟨g, 17, none⟩ = some (.int .i64 t.ses) ∧ w.cell? ⟨g, 18, none⟩ = some (.int .i64 t.seq) ∧ w.cell? ⟨g, 19, none⟩ = some (.slice A9 t.rds.length ca9) ∧ w.cell? ⟨g, 20, none⟩ = some (.slice B9 t.wrs.length cb9) ∧ w.cell? ⟨p, 0, none⟩ = some (.slice A c.reps.length ca) ∧ w.cell? ⟨p, 1, none⟩ = some (.slice B c.bnds.length cb) ∧ Below wz.heap.size wz w) : CellRow w1 ⟨g, 0, none⟩ (submitM t A9 B9 ca9 cb9).vs ∧ w1.cell? ⟨g, 0, none⟩ = some (.int .i64 8) ∧ w1.cell? ⟨g, 17, none⟩ = some (.int .i64 t.ses) ∧ w1.cell? ⟨g, 18, none⟩ = some (.int .i64 t.seq) ∧ w1.cell? ⟨g, 19, none⟩ = some (.slice A9 t.rds.length ca9) ∧ w1.cell? ⟨g, 20, none⟩ = some (.slice B9 t.wrs.length cb9) ∧ w1.cell? ⟨p, 0, none⟩ = some (.slice A c.reps.length ca) ∧ w1.cell? ⟨p, 1, none⟩ = some (.slice B c.bnds.length cb) ∧ Below wz.heap.size wz w1 := by
  obtain ⟨h0, h1, h2, h3, h4, h5, h6, h7, h8⟩ := h
  exact ⟨h0.later hb, keep hb h1, keep hb h2, keep hb h3, keep hb h4, keep hb h5, keep hb h6, keep hb h7, keepB h8 hb⟩
theorem sub_cs {w : World} {g : Nat} {t : Tx} {A9 B9 : Option Addr} {ca9 cb9 : Nat} {ty : TypeId} (h : w.heap[g]? = some (.cells (submitM t A9 B9 ca9 cb9).vs ty (0, 0))) : w.cell? ⟨g, 0, none⟩ = some (.int .i64 8) ∧ w.cell? ⟨g, 1, none⟩ = some (.int .u32 0) ∧ w.cell? ⟨g, 2, none⟩ = some (.int .i64 0) ∧ w.cell? ⟨g, 3, none⟩ = some (.int .i64 0) ∧ w.cell? ⟨g, 4, none⟩ = some (.bool false) ∧ w.cell? ⟨g, 5, none⟩ = some (.int .u32 0) ∧ w.cell? ⟨g, 6, none⟩ = some (.int .i64 0) ∧ w.cell? ⟨g, 7, none⟩ = some (.int .i64 0) ∧ w.cell? ⟨g, 8, none⟩ = some (.int .i64 0) ∧ w.cell? ⟨g, 9, none⟩ = some (.int .i64 0) ∧ w.cell? ⟨g, 10, none⟩ = some (.slice none 0 0) ∧ w.cell? ⟨g, 11, none⟩ = some (.slice none 0 0) ∧ w.cell? ⟨g, 12, none⟩ = some (.int .i64 0) ∧ w.cell? ⟨g, 13, none⟩ = some (.int .i64 0) ∧ w.cell? ⟨g, 14, none⟩ = some (.int .i64 0) ∧ w.cell? ⟨g, 15, none⟩ = some (.int .u64 0) ∧ w.cell? ⟨g, 16, none⟩ = some (.bool false) ∧ w.cell? ⟨g, 17, none⟩ = some (.int .i64 t.ses) ∧ w.cell? ⟨g, 18, none⟩ = some (.int .i64 t.seq) ∧ w.cell? ⟨g, 19, none⟩ = some (.slice A9 t.rds.length ca9) ∧ w.cell? ⟨g, 20, none⟩ = some (.slice B9 t.wrs.length cb9) ∧ w.cell? ⟨g, 21, none⟩ = some (.int .i64 0) ∧ w.cell? ⟨g, 22, none⟩ = some (.int .i64 0) ∧ w.cell? ⟨g, 23, none⟩ = some (.int .i64 0) ∧ w.cell? ⟨g, 24, none⟩ = some (.int .u64 0) ∧ w.cell? ⟨g, 25, none⟩ = some (.bool false) ∧ w.cell? ⟨g, 26, none⟩ = some (.int .i64 0) ∧ w.cell? ⟨g, 27, none⟩ = some (.string ⟨#[]⟩) ∧ w.cell? ⟨g, 28, none⟩ = some (.int .u64 0) ∧ w.cell? ⟨g, 29, none⟩ = some (.int .i64 0) ∧ w.cell? ⟨g, 30, none⟩ = some (.int .u64 0) ∧ w.cell? ⟨g, 31, none⟩ = some (.string ⟨#[]⟩) ∧ w.cell? ⟨g, 32, none⟩ = some (.int .i64 0) ∧ w.cell? ⟨g, 33, none⟩ = some (.slice none 0 0) := by
  refine ⟨?_, ?_, ?_, ?_, ?_, ?_, ?_, ?_, ?_, ?_, ?_, ?_, ?_, ?_, ?_, ?_, ?_, ?_, ?_, ?_, ?_, ?_, ?_, ?_, ?_, ?_, ?_, ?_, ?_, ?_, ?_, ?_, ?_, ?_⟩ <;> (rw [cell_of_row w g _ _ _ _ h]; rfl)

set_option maxRecDepth 100000 in
set_option maxHeartbeats 16000000 in
theorem law_snd (c : Cfg) (ses : Int) (l : List OpX) (A B S : Option Addr) (ca cb cs : Nat) (w : World) (h : CfgAt w c A B) (hO : OpsAt w S l) (hT : Tabs w) (hca : c.reps.length ≤ ca) (hn : l.length ≤ 9223372036854775807) :
    Calls Tryz.prog 7 #[.agg #[.slice A c.reps.length ca, .slice B c.bnds.length cb], .int .i64 ses, .slice S l.length cs] w fun e w' => e = .returned (.bool true) ∧ Below w.heap.size w w' := by
  obtain ⟨W, eW, HB, c0, c1⟩ := box2 w (.slice A c.reps.length ca) (.slice B c.bnds.length cb) 25
  have hC := Lib.hid (h.later HB)
  have HO := Lib.hid (hO.later HB)
  have HT := Lib.hid (hT.later HB)
  clear h hO hT
  obtain ⟨f, hf⟩ : ∃ f, Hid (few21 c l = f) := ⟨_, rfl⟩
  cases f
  · go_enter Tryz.func7, Tryz.ntmps7
    go_wp2_with (first
      | (go_at_call 8; refine (awake21_any _).mono ?_; rintro e w1 ⟨rfl, hb⟩; replace c0 := keep hb c0; replace c1 := keep hb c1; replace HO := Lib.hid (HO.out.later hb); replace hC := Lib.hid (hC.out.later hb); replace HB := keepB HB hb; clear hb)
      | (go_at_call 9; refine (calls_few hf.out (few21_any c l A B S ca cb cs _ hC.out HO.out hn)).mono ?_; rintro e w2 ⟨rfl, hb⟩; replace c0 := keep hb c0; replace c1 := keep hb c1; replace HO := Lib.hid (HO.out.later hb); replace hC := Lib.hid (hC.out.later hb); replace HB := keepB HB hb; clear hb))
    go_ret
    exact ⟨rfl, HB⟩
  have hf60 : Hid (l.length ≤ 60) := by
    have := hf.out
    simp only [few21, Bool.and_eq_true, decide_eq_true_eq] at this
    exact this.1.2
  obtain ⟨ok, hk⟩ : ∃ ok, Hid (cliOK ⟨c, A, B, ca, cb, ses⟩ = ok) := ⟨_, rfl⟩
  cases ok
  · go_enter Tryz.func7, Tryz.ntmps7
    go_wp2_with (first
      | (go_at_call 8; refine (awake21_any _).mono ?_; rintro e w1 ⟨rfl, hb⟩; replace c0 := keep hb c0; replace c1 := keep hb c1; replace HO := Lib.hid (HO.out.later hb); replace hC := Lib.hid (hC.out.later hb); replace HB := keepB HB hb; clear hb)
      | (go_at_call 9; refine (calls_few hf.out (few21_any c l A B S ca cb cs _ hC.out HO.out hn)).mono ?_; rintro e w2 ⟨rfl, hb⟩; replace c0 := keep hb c0; replace c1 := keep hb c1; replace hC := Lib.hid (hC.out.later hb); replace HB := keepB HB hb; clear hb)
      | (go_at_call 20; refine (cliNew_no ⟨c, A, B, ca, cb, ses⟩ _ hC.out hk.out).mono ?_; rintro e w3 ⟨rfl, hb⟩; replace HB := keepB HB hb; clear hb))
    go_ret
    exact ⟨rfl, HB⟩
  have hca' := Lib.hid hca
  clear hca
  go_enter Tryz.func7, Tryz.ntmps7
  go_wp2_with (first
    | (go_at_call 8; refine (awake21_any _).mono ?_; rintro e w1 ⟨rfl, hb⟩; replace c0 := keep hb c0; replace c1 := keep hb c1; replace HO := Lib.hid (HO.out.later hb); replace hC := Lib.hid (hC.out.later hb); replace HT := Lib.hid (HT.out.later hb); replace HB := keepB HB hb; clear hb)
    | (go_at_call 9; refine (calls_few hf.out (few21_any c l A B S ca cb cs _ hC.out HO.out hn)).mono ?_; rintro e w2 ⟨rfl, hb⟩; replace c0 := keep hb c0; replace c1 := keep hb c1; replace HO := Lib.hid (HO.out.later hb); replace hC := Lib.hid (hC.out.later hb); replace HT := Lib.hid (HT.out.later hb); replace HB := keepB HB hb; clear hb)
    | (go_at_call 20; refine (step_new ⟨c, A, B, ca, cb, ses⟩ w2 hC.out HT.out hca'.out hk.out w2 rfl).mono ?_; rintro e w3 ⟨p, rfl, hS⟩; replace hS := Lib.hid hS))
  clear eW hca' HT
  have hBsz := HB.size
  go_loopw [8] (fun i wr => ∃ k : Nat, k ≤ l.length ∧ i = .int .i64 k ∧ Hid (StepX w2 wr w2.heap.size p ⟨c, A, B, ca, cb, ses⟩ k)) (fun i _ => l.length - (intOf i).toNat)
  case atStart => exact ⟨0, Nat.zero_le _, rfl, Lib.hid ⟨_, hS.out⟩⟩
  case round =>
    obtain ⟨k, hkl, rfl, HX⟩ := hrel
    obtain ⟨x, hx⟩ := HX.out
    have hw := hx.b
    by_cases hlt : k < l.length
    · obtain ⟨b, off, o, rfl, hrow, ho, HXX⟩ := (HO.out.later hw).at' hlt
      have HR := Lib.hid hrow
      have hO1 := Lib.hid ho
      have hk60 : Hid (k ≤ 1000) := by have := hf60.out; show _ ≤ _; omega
      have hk10 : o.keys.length ≤ 10 := by rw [← HXX.out]; exact few21_keys hf.out hlt
      obtain ⟨kd, hkd⟩ : ∃ kd, Hid (o.kind = kd) := ⟨_, rfl⟩
      have C0 := Lib.hid c0
      have C1 := Lib.hid c1
      replace c0 := keep hw c0
      replace c1 := keep hw c1
      have HFm : Hid (formedB c = true) := hx.c.f
      clear hrow ho
      go_upto_block 2 with (first
        | (refine wpList_load_cells rfl 45 _ rfl ⟨b, off + k * 41, none⟩ rfl o.vs _ HR.out Tryz.underlying45 rfl info_op21 ?_)
        | (refine wpList_store_new rfl 45 _ _ rfl wr o.vs 45 rfl rfl rfl info_op21 rfl (op_one o) ?_; intro W2 HB2 hsz2 hrow2; obtain ⟨d0, d1, d2, d3, d4, d5, d40, dm⟩ := op_cs hrow2; rw [hkd.out] at d0; replace hrow2 := Lib.hid hrow2; have HS2 := Lib.hid (hx.later HB2); have HO2 := Lib.hid (hO1.out.later HB2); replace HB2 := Lib.hid HB2; replace hsz2 := Lib.hid hsz2; clear dm d40 hx HX))
      obtain ⟨i0, hi, hz0, hz1, hz2⟩ := info_parts info_str21
      go_cut [10] (fun s wx => Hid (SndAll c wx s) ∧ Hid (StepX w2 wx w2.heap.size p ⟨c, A, B, ca, cb, ses⟩ (k + 1)))
      case first =>
        obtain ⟨O, hOO⟩ := HS2.out.at_
        replace hOO := Lib.hid hOO
        rcases snd_kinds kd with rfl | rfl | rfl | rfl | rfl | rfl | rfl | ⟨n1, n2, n3, n4, n6, n9, n8⟩
        · go_wp2_with (go_at_call 14; refine (step_begin HS2.out).mono ?_; rintro e w4 ⟨rfl, hS4, hb4⟩)
          go_meet
          exact ⟨Lib.hid (sndAll_nil _ _), Lib.hid ⟨_, hS4⟩⟩
        · go_wp2_with (go_at_call 10; refine (step_read HS2.out hk60.out o.key HO2.out.k).mono ?_; rintro e w4 ⟨v4, rfl, hR4, hS4, hb4⟩)
          go_meet
          exact ⟨Lib.hid ⟨_, hR4, readL_ok HS2.out.inv HFm.out (by have := hk60.out; omega) o.key⟩, Lib.hid ⟨_, hS4⟩⟩
        · go_wp2_with (go_at_call 15; refine (step_write HS2.out o.key HO2.out.k o.val HO2.out.v).mono ?_; rintro e w4 ⟨rfl, hS4, hb4⟩)
          go_meet
          exact ⟨Lib.hid (sndAll_nil _ _), Lib.hid ⟨_, hS4⟩⟩
        · go_wp2_with (go_at_call 11; refine (step_commit HS2.out).mono ?_; rintro e w4 ⟨v4, rfl, hR4, hS4, hb4⟩)
          go_meet
          exact ⟨Lib.hid ⟨_, hR4, commitL_ok HS2.out.inv ses HS2.out.c.s1 HS2.out.c.s8⟩, Lib.hid ⟨_, hS4⟩⟩
        · go_wp2_with (first
            | (at_builtin; refine wpList_append_strs rfl _ _ 23 rfl W2.heap.size 9 i0 (.string ByteArray.empty) 16 Tryz.underlying23 hi hz0 hz1 hz2 rfl _ _ _ rfl (own_nil _ _ _ _) o.K o.keys o.ck rfl HO2.out.ks (le_maxLen (by omega)) (by omega) (Nat.le_refl _) ?_; intro v3 w3 HO3 hg3; replace HO3 : w3.ownsRow W2.heap.size 9 1 v3 o.keys.length (o.keys.map Value.string) := (by simpa using HO3); obtain ⟨A3, c3, rfl⟩ := own_form HO3; have hb3 := own_below (Below.refl W2.heap.size W2) (Nat.le_refl _) (own_nil W2 W2.heap.size 1 9) hg3; replace HO3 := Lib.hid HO3; replace hg3 := Lib.hid hg3)
            | (go_at_call 12; refine (step_snap HS2.out hk60.out hb3 o.keys A3 c3 HO3.out (opAt_keys HO2.out)).mono ?_; rintro e w4 ⟨v4, rfl, hR4, hS4, hb4⟩))
          go_meet
          exact ⟨Lib.hid ⟨_, hR4, snapL_ok HS2.out.inv HFm.out (by have := hk60.out; omega) o.keys⟩, Lib.hid ⟨_, hS4⟩⟩
        · go_wp2_with (first
            | (refine wpList_load_cells rfl 45 _ rfl ⟨wr.heap.size, 0, none⟩ rfl o.vs _ (row_of_obj hrow2.out) Tryz.underlying45 rfl info_op21 ?_)
            | (go_at_call 26; refine (ans_any hOO.out HS2.out.sz HS2.out.inv.rn HS2.out.inv.wn o HO2.out).mono ?_; rintro e w4 ⟨m4, rfl, hm4, hb4⟩)
            | (go_at_call 13; refine (step_hand (HS2.out.later hb4) hk60.out m4 hm4).mono ?_; rintro e w5 ⟨fm, v5, u5, rfl, hR5, _, hS5, hb5⟩))
          go_meet
          exact ⟨Lib.hid ⟨_, hR5, handL_ok HS2.out.inv HFm.out (by have := hk60.out; omega) ses m4 fm⟩, Lib.hid ⟨_, hS5⟩⟩
        · go_wp2_with (go_at_call 17; refine (step_tick HS2.out).mono ?_; rintro e w4 ⟨v4, rfl, hR4, hS4, hb4⟩)
          go_meet
          exact ⟨Lib.hid ⟨_, hR4, tickL_ok HS2.out.inv HFm.out (by have := hk60.out; omega) ses HS2.out.c.s1 HS2.out.c.s8⟩, Lib.hid ⟨_, hS4⟩⟩
        · go_wp2
          go_meet
          exact ⟨Lib.hid (sndAll_nil _ _), Lib.hid ⟨_, HS2.out.up (by omega)⟩⟩
      case rest =>
        obtain ⟨HA, HX2⟩ := hcut
        obtain ⟨wq, rfl⟩ : ∃ wq : World, wq = wc := ⟨_, rfl⟩
        obtain ⟨d, ⟨bs, sl, hsn⟩, hok⟩ := HA.out
        obtain ⟨y, hy⟩ := HX2.out
        have hw9 := hy.b
        obtain ⟨A9, cap9, rfl, hsl9, hcells⟩ := own_snds hsn
        have HCl := Lib.hid hcells
        have HAll : Hid (∀ n, n < sl.length → ∃ g i : Nat, atZ c (sl.getD n noSnd).dest = ((g : Int), (i : Int)) ∧ MsgQ wq c g (sl.getD n noSnd).m) := fun n hn => by
          obtain ⟨s, hs, hi⟩ := sndsIs_at n hsn.is hn
          exact snd_ask HFm.out hi (hsn.at_ _ (getD_mem hn)) (hok s hs)
        have hC9 := Lib.hid (hC.out.later hw9)
        replace c0 := keep hw9 C0.out
        replace c1 := keep hw9 C1.out
        clear hw d0 d1 d2 d3 d4 d5 HB2 hsz2 hrow2 HS2 HO2 hi hz0 hz1 hz2 hsn hok HA hcells hy
        replace hw9 := Lib.hid hw9
        go_wp2
        go_loopw [12] (fun j wj => ∃ n : Nat, n ≤ sl.length ∧ j = .int .i64 n ∧ Below wq.heap.size wq wj) (fun j _ => sl.length - (intOf j).toNat)
        case atStart => exact ⟨0, Nat.zero_le _, rfl, Below.refl _ _⟩
        case round =>
          obtain ⟨n, hnl, rfl, hj⟩ := hrel
          obtain ⟨wz, rfl⟩ : ∃ wz : World, wz = wr := ⟨_, rfl⟩
          by_cases hl2 : n < sl.length
          · obtain ⟨b9, o9, rfl, e0, e1⟩ := HCl.out n hl2
            obtain ⟨g, gi, hat, hq⟩ := HAll.out n hl2
            obtain ⟨s, hs⟩ : ∃ s, sl.getD n noSnd = s := ⟨_, rfl⟩
            rw [hs] at e0 e1 hat hq
            obtain ⟨dz, m⟩ := s
            replace e0 := keep hj e0
            replace c0 := keep hj c0
            replace c1 := keep hj c1
            replace hat := Lib.hid hat
            replace hq := Lib.hid (hq.later hj)
            replace hs := Lib.hid hs
            have hE1 := Lib.hid (e1.later hj)
            have hCz := Lib.hid (hC9.out.later hj)
            clear e1
            have hni : (n : Int) < (sl.length : Int) := by omega
            have hn0 : (0 : Int) ≤ (n : Int) := by omega
            have k0 := cell_regrown c0
            have k1 := cell_regrown c1
            have k2 := cell_regrown e0
            have cAt : ∀ d os, Calls Tryz.prog 27 #[.agg #[.slice A c.reps.length ca, .slice B c.bnds.length cb], .int .i64 dz] (grow (redrawn wz d) os) fun e w'' => e = .returned (.tuple #[.int .i64 (g : Int), .int .i64 (gi : Int)]) ∧ ∃ p : Regrown, w'' = grow (redrawn wz p.d) p.os := fun d os => Calls.regrown_of (by
              have := refAt_any c dz A B ca cb (grow (redrawn wz d) os) (hCz.out.later (below_regrown wz d os))
              rw [hat.out] at this
              exact this)
            go_upto_region 31 with fail
            refine wp_region_quiet_below (by kernel_rfl) (by kernel_rfl) ?_
            repeat (go_big_quiet_step (first | exact cAt _ _))

            refine wpQuiet_nil ?_
            intro _ hw'
            obtain ⟨⟨dq, osq⟩, hw''⟩ := hw'
            subst hw''
            have HQ := below_regrown wz dq osq
            obtain ⟨wy, hwq⟩ : ∃ wq, grow (redrawn wz dq) osq = wq := ⟨_, rfl⟩
            rw [hwq] at HQ ⊢

            have hjy := keepB hj HQ
            replace hq := Lib.hid (hq.out.later HQ)
            replace hCz := Lib.hid (hCz.out.later HQ)
            replace c0 := keep HQ c0
            replace c1 := keep HQ c1
            have hE2 := Lib.hid (hE1.out.later HQ)
            clear k0 k1 k2 cAt hE1 HQ hwq hat e0
            go_upto_region 33 with (first
              | (refine wpList_load_cells rfl 43 _ rfl ⟨b9, o9 + n * 35 + 1, none⟩ rfl m.vs _ hE2.out Tryz.underlying43 rfl info_msg10 ?_)
              | (go_at_call 28; refine (plain_any m _).mono ?_; rintro e w8 ⟨rfl, hb8⟩; replace hjy := keepB hjy hb8; replace c0 := keep hb8 c0; replace c1 := keep hb8 c1; replace hq := Lib.hid (hq.out.later hb8); replace hCz := Lib.hid (hCz.out.later hb8); clear hE2)
              | (refine wpList_store_new rfl 85 _ _ rfl w8 m.vs 85 rfl rfl rfl info_rmsg rfl (msg_one m) ?_; intro w9 hb9 hsz9 hrow9; replace hjy := keepB hjy hb9; replace c0 := keep hb9 c0; replace c1 := keep hb9 c1; replace hq := Lib.hid (hq.out.later hb9); replace hCz := Lib.hid (hCz.out.later hb9); replace hrow9 := Lib.hid hrow9; clear hb9 hb8))
            go_frame
            have hn1 : Hid (n + 1 ≤ sl.length) := by show _ ≤ _; omega
            have hg0 : decide ((g : Int) < 0) = false := by rw [decide_eq_false_iff_not]; omega
            have hgn : ¬ ((g : Int) < 0) := by omega
            have HX3 := HX2.out
            obtain ⟨wx, rfl⟩ : ∃ wx : World, wx = w9 := ⟨_, rfl⟩
            have hCR : ∀ wz, (∃ p : Regrown, wz = grow (redrawn wx p.d) p.os) → CellRow wz ⟨w8.heap.size, 0, none⟩ m.vs := fun wz ⟨p, e⟩ => by subst e; exact row_of_obj (obj_keep hrow9.out (below_regrown wx p.d p.os))
            have hq2 := hq.out
            cases hq2 with
            | safe n' hn' =>
              have m0 : wx.cell? ⟨w8.heap.size, 0, none⟩ = some (.int .i64 14) := (msg_cs hrow9.out).1
              have k3 := cell_regrown m0
              have cF : ∀ d os, Calls Tryz.prog 29 #[.agg (safeM n').vs] (grow (redrawn wx d) os) fun e w'' => e = .returned (.bool true) ∧ ∃ p : Regrown, w'' = grow (redrawn wx p.d) p.os := fun d os => Calls.regrown_of (ref10Formed14 n' hn' (grow (redrawn wx d) os))
              refine wp_region_quiet_below (by kernel_rfl) (by kernel_rfl) ?_
              repeat (first | (go_big_quiet_want; refine quiet_load_cells 85 _ rfl ⟨w8.heap.size, 0, none⟩ rfl (safeM n').vs _ hCR Tryz.underlying85 rfl info_rmsg ?_; simp only [Act.put, List.setIfInBounds_toArray, List.set_cons_succ, List.set_cons_zero]; go_big_quiet_on) | go_big_quiet_step (first | exact cF _ _))
              refine wpQuiet_nil ?_
              intro _ hw'
              obtain ⟨⟨dq, osq⟩, hw''⟩ := hw'
              subst hw''
              have HQ := below_regrown wx dq osq
              go_wp2
              go_roundw
              case rel => exact ⟨n + 1, hn1.out, by go_num, keepB hjy HQ⟩
              case measure => have := hn1.out; simp [intOf]; omega
            | read n' key st hn' hkey hks hhome =>
              have m0 : wx.cell? ⟨w8.heap.size, 0, none⟩ = some (.int .i64 12) := (msg_cs hrow9.out).1
              have m27 : wx.cell? ⟨w8.heap.size, 27, none⟩ = some (.string key) := by
                obtain ⟨_, _, _, _, _, _, _, _, _, _, _, _, _, _, _, _, _, _, _, _, _, _, _, _, _, _, _, c27, _⟩ := msg_cs hrow9.out
                exact c27
              have k0 := cell_regrown c0
              have k1 := cell_regrown c1
              have k3 := cell_regrown m0
              have k4 := cell_regrown m27
              have cF : ∀ d os, Calls Tryz.prog 29 #[.agg (readM n' key st).vs] (grow (redrawn wx d) os) fun e w'' => e = .returned (.bool true) ∧ ∃ p : Regrown, w'' = grow (redrawn wx p.d) p.os := fun d os => Calls.regrown_of (ref10Formed12 n' st key hn' hkey hks (grow (redrawn wx d) os))
              have cH : ∀ d os, Calls Tryz.prog 30 #[.agg #[.slice A c.reps.length ca, .slice B c.bnds.length cb], .string key] (grow (redrawn wx d) os) fun e w'' => e = .returned (.int .i64 (g : Int)) ∧ ∃ p : Regrown, w'' = grow (redrawn wx p.d) p.os := fun d os => Calls.regrown_of (by
                have := refHome_any c key A B ca cb (grow (redrawn wx d) os) (hCz.out.later (below_regrown wx d os))
                rw [hhome] at this
                exact this)
              refine wp_region_quiet_below (by kernel_rfl) (by kernel_rfl) ?_
              repeat (first | (go_big_quiet_want; refine quiet_load_cells 85 _ rfl ⟨w8.heap.size, 0, none⟩ rfl (readM n' key st).vs _ hCR Tryz.underlying85 rfl info_rmsg ?_; simp only [Act.put, List.setIfInBounds_toArray, List.set_cons_succ, List.set_cons_zero]; go_big_quiet_on) | go_big_quiet_step (first | exact cF _ _ | exact cH _ _))
              refine wpQuiet_nil ?_
              intro _ hw'
              obtain ⟨⟨dq, osq⟩, hw''⟩ := hw'
              subst hw''
              have HQ := below_regrown wx dq osq
              go_wp2
              go_roundw
              case rel => exact ⟨n + 1, hn1.out, by go_num, keepB hjy HQ⟩
              case measure => have := hn1.out; simp [intOf]; omega
            | submit t A9 B9 ca9 cb9 hft htx hr12 hw12 hnz =>
              obtain ⟨s0, s1, s2, s3, s4, s5, s6, s7, s8, s9, s10, s11, s12, s13, s14, s15, s16, s17, s18, s19, s20, s21, s22, s23, s24, s25, s26, s27, s28, s29, s30, s31, s32, s33⟩ := sub_cs hrow9.out
              have hRow := row_of_obj hrow9.out
              have hnz' := Lib.hid hnz
              have htx' := Lib.hid htx
              clear hCR hq hnz htx
              obtain ⟨ra, hra⟩ : ∃ ra, Hid ((readsL c t g).length = ra) := ⟨_, rfl⟩
              obtain ⟨wa, hwa⟩ : ∃ wa, Hid ((writesL c t g).length = wa) := ⟨_, rfl⟩
              have hra12 : Hid (ra ≤ 12) := by show _ ≤ _; rw [← hra.out]; exact Nat.le_trans (List.length_filter_le _ _) hr12
              have hwa12 : Hid (wa ≤ 12) := by show _ ≤ _; rw [← hwa.out]; exact Nat.le_trans (List.length_filter_le _ _) hw12
              have hsum : IntKind.i64.wrap ((ra : Int) + (wa : Int)) = (ra : Int) + (wa : Int) := IntWalk.i64_in _ (by have := hra12.out; have := hwa12.out; omega)
              have hne0 : ((ra : Int) + (wa : Int) == 0) = false := by rw [beq_eq_false_iff_ne]; have := hnz'.out ((ra : Int) + (wa : Int)) (by rw [hra.out, hwa.out]); exact this
              refine wp_region_held_drew (S := (fun w' => CellRow w' ⟨w8.heap.size, 0, none⟩ (submitM t A9 B9 ca9 cb9).vs ∧ w'.cell? ⟨w8.heap.size, 0, none⟩ = some (.int .i64 8) ∧ w'.cell? ⟨w8.heap.size, 17, none⟩ = some (.int .i64 t.ses) ∧ w'.cell? ⟨w8.heap.size, 18, none⟩ = some (.int .i64 t.seq) ∧ w'.cell? ⟨w8.heap.size, 19, none⟩ = some (.slice A9 t.rds.length ca9) ∧ w'.cell? ⟨w8.heap.size, 20, none⟩ = some (.slice B9 t.wrs.length cb9) ∧ w'.cell? ⟨w.heap.size, 0, none⟩ = some (.slice A c.reps.length ca) ∧ w'.cell? ⟨w.heap.size, 1, none⟩ = some (.slice B c.bnds.length cb) ∧ Below wx.heap.size wx w')) (by kernel_rfl) ⟨hRow.later (below_drew (Below.refl _ _)), s0, s17, s18, s19, s20, c0, c1, below_drew (Below.refl _ _)⟩ (fun hHeld => ?_)
              refine wpAnyH_take (i := 0) (oi := ?o0) (v := ?v0) ?hi0 (by kernel_rfl) (by kernel_rfl) (by kernel_rfl) ?hq0 (Or.inl ⟨?hg0, ?hy0⟩) hHeld ?rest0
              case hi0 => (simp only [List.getElem?_toArray, List.getElem?_cons_succ, List.getElem?_cons_zero]; rfl)
              case hq0 => exact fun _ _ _ h => h
              case hg0 => rfl
              case hy0 => (intro w hSw; (try dsimp only at hSw); go_simp; (try with_reducible rfl))
              (try simp only [Act.put, List.setIfInBounds_toArray, List.set_cons_zero, List.set_cons_succ])
              refine wpAnyH_take (i := 1) (oi := ?o1) (v := ?v1) ?hi1 (by kernel_rfl) (by kernel_rfl) (by kernel_rfl) ?hq1 (Or.inl ⟨?hg1, ?hy1⟩) hHeld ?rest1
              case hi1 => (simp only [List.getElem?_toArray, List.getElem?_cons_succ, List.getElem?_cons_zero]; rfl)
              case hq1 => exact fun _ _ _ h => h
              case hg1 => rfl
              case hy1 => (intro w hSw; (try dsimp only at hSw); go_simp; (try with_reducible rfl))
              (try simp only [Act.put, List.setIfInBounds_toArray, List.set_cons_zero, List.set_cons_succ])
              refine wpAnyH_take (i := 2) (oi := ?o2) (v := ?v2) ?hi2 (by kernel_rfl) (by kernel_rfl) (by kernel_rfl) ?hq2 (Or.inl ⟨?hg2, ?hy2⟩) hHeld ?rest2
              case hi2 => (simp only [List.getElem?_toArray, List.getElem?_cons_succ, List.getElem?_cons_zero]; rfl)
              case hq2 => exact fun _ _ _ h => h
              case hg2 => rfl
              case hy2 => (intro w hSw; (try dsimp only at hSw); go_simp; (try with_reducible rfl))
              (try simp only [Act.put, List.setIfInBounds_toArray, List.set_cons_zero, List.set_cons_succ])
              refine wpAnyH_take (i := 3) (oi := ?o3) (v := .agg (submitM t A9 B9 ca9 cb9).vs) ?hi3 (by kernel_rfl) (by kernel_rfl) (by kernel_rfl) ?hq3 (yieldsIf_cells ?hg3 85 (.tmp 15) ?hl3 ⟨w8.heap.size, 0, none⟩ ?hx3 _ _ (fun w hw => hw.1) Tryz.underlying85 rfl info_rmsg) hHeld ?rest3
              case hi3 => (simp only [List.getElem?_toArray, List.getElem?_cons_succ, List.getElem?_cons_zero]; rfl)
              case hq3 => exact fun _ _ _ h => h
              case hg3 => rfl
              case hl3 => rfl
              case hx3 => rfl
              (try simp only [Act.put, List.setIfInBounds_toArray, List.set_cons_zero, List.set_cons_succ])
              refine wpAnyH_ready (rs := [4]) (by kernel_rfl) (by simp) ?_
              refine AllReadyH.cons (o := ?p4) ?ho4 (fun K hK => ?step4) AllReadyH.nil
              case ho4 => (simp only [List.getElem?_toArray, List.getElem?_cons_succ, List.getElem?_cons_zero]; rfl)
              have hBw := hHeld.2.2.2.2.2.2.2.2
              go_simp
              (go_at_call 29; refine (ref10Formed8 t A9 B9 ca9 cb9 hft _ (htx'.out.later hBw)).mono ?_; rintro e wf ⟨rfl, hb⟩)
              (try go_wp2_with fail)
              refine hK.out _ _ (keep_s2 hb hHeld) (fun hH2 => ?_)
              clear hHeld hK K hBw
              have hHeld := hH2
              clear hH2 hb
              (try simp only [Act.put, List.setIfInBounds_toArray, List.set_cons_zero, List.set_cons_succ])
              refine wpAnyH_take (i := 5) (oi := ?o5) (v := ?v5) ?hi5 (by kernel_rfl) (by kernel_rfl) (by kernel_rfl) ?hq5 (Or.inl ⟨?hg5, ?hy5⟩) hHeld ?rest5
              case hi5 => (simp only [List.getElem?_toArray, List.getElem?_cons_succ, List.getElem?_cons_zero]; rfl)
              case hq5 => exact fun _ _ _ h => h
              case hg5 => rfl
              case hy5 => (intro w hSw; (try dsimp only at hSw); go_simp; (try with_reducible rfl))
              (try simp only [Act.put, List.setIfInBounds_toArray, List.set_cons_zero, List.set_cons_succ])
              refine wpAnyH_take (i := 6) (oi := ?o6) (v := ?v6) ?hi6 (by kernel_rfl) (by kernel_rfl) (by kernel_rfl) ?hq6 (Or.inl ⟨?hg6, ?hy6⟩) hHeld ?rest6
              case hi6 => (simp only [List.getElem?_toArray, List.getElem?_cons_succ, List.getElem?_cons_zero]; rfl)
              case hq6 => exact fun _ _ _ h => h
              case hg6 => rfl
              case hy6 => (intro w hSw; (try dsimp only at hSw); go_simp; (try with_reducible rfl))
              (try simp only [Act.put, List.setIfInBounds_toArray, List.set_cons_zero, List.set_cons_succ])
              refine wpAnyH_take (i := 7) (oi := ?o7) (v := ?v7) ?hi7 (by kernel_rfl) (by kernel_rfl) (by kernel_rfl) ?hq7 (Or.inl ⟨?hg7, ?hy7⟩) hHeld ?rest7
              case hi7 => (simp only [List.getElem?_toArray, List.getElem?_cons_succ, List.getElem?_cons_zero]; rfl)
              case hq7 => exact fun _ _ _ h => h
              case hg7 => rfl
              case hy7 => (intro w hSw; (try dsimp only at hSw); go_simp; (try with_reducible rfl))
              (try simp only [Act.put, List.setIfInBounds_toArray, List.set_cons_zero, List.set_cons_succ])
              refine wpAnyH_take (i := 8) (oi := ?o8) (v := ?v8) ?hi8 (by kernel_rfl) (by kernel_rfl) (by kernel_rfl) ?hq8 (Or.inl ⟨?hg8, ?hy8⟩) hHeld ?rest8
              case hi8 => (simp only [List.getElem?_toArray, List.getElem?_cons_succ, List.getElem?_cons_zero]; rfl)
              case hq8 => exact fun _ _ _ h => h
              case hg8 => rfl
              case hy8 => (intro w hSw; (try dsimp only at hSw); go_simp; (try with_reducible rfl))
              (try simp only [Act.put, List.setIfInBounds_toArray, List.set_cons_zero, List.set_cons_succ])
              refine wpAnyH_take (i := 9) (oi := ?o9) (v := ?v9) ?hi9 (by kernel_rfl) (by kernel_rfl) (by kernel_rfl) ?hq9 (Or.inl ⟨?hg9, ?hy9⟩) hHeld ?rest9
              case hi9 => (simp only [List.getElem?_toArray, List.getElem?_cons_succ, List.getElem?_cons_zero]; rfl)
              case hq9 => exact fun _ _ _ h => h
              case hg9 => rfl
              case hy9 => (intro w hSw; (try dsimp only at hSw); go_simp; (try with_reducible rfl))
              (try simp only [Act.put, List.setIfInBounds_toArray, List.set_cons_zero, List.set_cons_succ])
              refine wpAnyH_take (i := 10) (oi := ?o10) (v := ?v10) ?hi10 (by kernel_rfl) (by kernel_rfl) (by kernel_rfl) ?hq10 (Or.inl ⟨?hg10, ?hy10⟩) hHeld ?rest10
              case hi10 => (simp only [List.getElem?_toArray, List.getElem?_cons_succ, List.getElem?_cons_zero]; rfl)
              case hq10 => exact fun _ _ _ h => h
              case hg10 => rfl
              case hy10 => (intro w hSw; (try dsimp only at hSw); go_simp; (try with_reducible rfl))
              (try simp only [Act.put, List.setIfInBounds_toArray, List.set_cons_zero, List.set_cons_succ])
              refine wpAnyH_take (i := 11) (oi := ?o11) (v := ?v11) ?hi11 (by kernel_rfl) (by kernel_rfl) (by kernel_rfl) ?hq11 (Or.inl ⟨?hg11, ?hy11⟩) hHeld ?rest11
              case hi11 => (simp only [List.getElem?_toArray, List.getElem?_cons_succ, List.getElem?_cons_zero]; rfl)
              case hq11 => exact fun _ _ _ h => h
              case hg11 => rfl
              case hy11 => (intro w hSw; (try dsimp only at hSw); go_simp; (try with_reducible rfl))
              (try simp only [Act.put, List.setIfInBounds_toArray, List.set_cons_zero, List.set_cons_succ])
              refine wpAnyH_take (i := 12) (oi := ?o12) (v := undef) ?hi12 (by kernel_rfl) (by kernel_rfl) (by kernel_rfl) ?hq12 (Or.inr ⟨?hg12, rfl⟩) hHeld ?rest12
              case hi12 => (simp only [List.getElem?_toArray, List.getElem?_cons_succ, List.getElem?_cons_zero]; rfl)
              case hq12 => exact fun _ _ _ h => h
              case hg12 => rfl
              (try simp only [Act.put, List.setIfInBounds_toArray, List.set_cons_zero, List.set_cons_succ])
              refine wpAnyH_take (i := 13) (oi := ?o13) (v := undef) ?hi13 (by kernel_rfl) (by kernel_rfl) (by kernel_rfl) ?hq13 (Or.inr ⟨?hg13, rfl⟩) hHeld ?rest13
              case hi13 => (simp only [List.getElem?_toArray, List.getElem?_cons_succ, List.getElem?_cons_zero]; rfl)
              case hq13 => exact fun _ _ _ h => h
              case hg13 => rfl
              (try simp only [Act.put, List.setIfInBounds_toArray, List.set_cons_zero, List.set_cons_succ])
              refine wpAnyH_take (i := 14) (oi := ?o14) (v := undef) ?hi14 (by kernel_rfl) (by kernel_rfl) (by kernel_rfl) ?hq14 (Or.inr ⟨?hg14, rfl⟩) hHeld ?rest14
              case hi14 => (simp only [List.getElem?_toArray, List.getElem?_cons_succ, List.getElem?_cons_zero]; rfl)
              case hq14 => exact fun _ _ _ h => h
              case hg14 => rfl
              (try simp only [Act.put, List.setIfInBounds_toArray, List.set_cons_zero, List.set_cons_succ])
              refine wpAnyH_take (i := 15) (oi := ?o15) (v := undef) ?hi15 (by kernel_rfl) (by kernel_rfl) (by kernel_rfl) ?hq15 (Or.inr ⟨?hg15, rfl⟩) hHeld ?rest15
              case hi15 => (simp only [List.getElem?_toArray, List.getElem?_cons_succ, List.getElem?_cons_zero]; rfl)
              case hq15 => exact fun _ _ _ h => h
              case hg15 => rfl
              (try simp only [Act.put, List.setIfInBounds_toArray, List.set_cons_zero, List.set_cons_succ])
              refine wpAnyH_take (i := 16) (oi := ?o16) (v := undef) ?hi16 (by kernel_rfl) (by kernel_rfl) (by kernel_rfl) ?hq16 (Or.inr ⟨?hg16, rfl⟩) hHeld ?rest16
              case hi16 => (simp only [List.getElem?_toArray, List.getElem?_cons_succ, List.getElem?_cons_zero]; rfl)
              case hq16 => exact fun _ _ _ h => h
              case hg16 => rfl
              (try simp only [Act.put, List.setIfInBounds_toArray, List.set_cons_zero, List.set_cons_succ])
              refine wpAnyH_take (i := 17) (oi := ?o17) (v := undef) ?hi17 (by kernel_rfl) (by kernel_rfl) (by kernel_rfl) ?hq17 (Or.inr ⟨?hg17, rfl⟩) hHeld ?rest17
              case hi17 => (simp only [List.getElem?_toArray, List.getElem?_cons_succ, List.getElem?_cons_zero]; rfl)
              case hq17 => exact fun _ _ _ h => h
              case hg17 => rfl
              (try simp only [Act.put, List.setIfInBounds_toArray, List.set_cons_zero, List.set_cons_succ])
              refine wpAnyH_take (i := 18) (oi := ?o18) (v := ?v18) ?hi18 (by kernel_rfl) (by kernel_rfl) (by kernel_rfl) ?hq18 (Or.inl ⟨?hg18, ?hy18⟩) hHeld ?rest18
              case hi18 => (simp only [List.getElem?_toArray, List.getElem?_cons_succ, List.getElem?_cons_zero]; rfl)
              case hq18 => exact fun _ _ _ h => h
              case hg18 => rfl
              case hy18 => (intro w hSw; (try dsimp only at hSw); go_simp; (try with_reducible rfl))
              (try simp only [Act.put, List.setIfInBounds_toArray, List.set_cons_zero, List.set_cons_succ])
              refine wpAnyH_take (i := 19) (oi := ?o19) (v := ?v19) ?hi19 (by kernel_rfl) (by kernel_rfl) (by kernel_rfl) ?hq19 (Or.inl ⟨?hg19, ?hy19⟩) hHeld ?rest19
              case hi19 => (simp only [List.getElem?_toArray, List.getElem?_cons_succ, List.getElem?_cons_zero]; rfl)
              case hq19 => exact fun _ _ _ h => h
              case hg19 => rfl
              case hy19 => (intro w hSw; (try dsimp only at hSw); go_simp; (try with_reducible rfl))
              (try simp only [Act.put, List.setIfInBounds_toArray, List.set_cons_zero, List.set_cons_succ])
              refine wpAnyH_take (i := 20) (oi := ?o20) (v := ?v20) ?hi20 (by kernel_rfl) (by kernel_rfl) (by kernel_rfl) ?hq20 (Or.inl ⟨?hg20, ?hy20⟩) hHeld ?rest20
              case hi20 => (simp only [List.getElem?_toArray, List.getElem?_cons_succ, List.getElem?_cons_zero]; rfl)
              case hq20 => exact fun _ _ _ h => h
              case hg20 => rfl
              case hy20 => (intro w hSw; (try dsimp only at hSw); go_simp; (try with_reducible rfl))
              (try simp only [Act.put, List.setIfInBounds_toArray, List.set_cons_zero, List.set_cons_succ])
              refine wpAnyH_take (i := 21) (oi := ?o21) (v := ?v21) ?hi21 (by kernel_rfl) (by kernel_rfl) (by kernel_rfl) ?hq21 (Or.inl ⟨?hg21, ?hy21⟩) hHeld ?rest21
              case hi21 => (simp only [List.getElem?_toArray, List.getElem?_cons_succ, List.getElem?_cons_zero]; rfl)
              case hq21 => exact fun _ _ _ h => h
              case hg21 => rfl
              case hy21 => (intro w hSw; (try dsimp only at hSw); go_simp; (try with_reducible rfl))
              (try simp only [Act.put, List.setIfInBounds_toArray, List.set_cons_zero, List.set_cons_succ])
              refine wpAnyH_take (i := 22) (oi := ?o22) (v := ?v22) ?hi22 (by kernel_rfl) (by kernel_rfl) (by kernel_rfl) ?hq22 (Or.inl ⟨?hg22, ?hy22⟩) hHeld ?rest22
              case hi22 => (simp only [List.getElem?_toArray, List.getElem?_cons_succ, List.getElem?_cons_zero]; rfl)
              case hq22 => exact fun _ _ _ h => h
              case hg22 => rfl
              case hy22 => (intro w hSw; (try dsimp only at hSw); go_simp; (try with_reducible rfl))
              (try simp only [Act.put, List.setIfInBounds_toArray, List.set_cons_zero, List.set_cons_succ])
              refine wpAnyH_take (i := 23) (oi := ?o23) (v := ?v23) ?hi23 (by kernel_rfl) (by kernel_rfl) (by kernel_rfl) ?hq23 (Or.inl ⟨?hg23, ?hy23⟩) hHeld ?rest23
              case hi23 => (simp only [List.getElem?_toArray, List.getElem?_cons_succ, List.getElem?_cons_zero]; rfl)
              case hq23 => exact fun _ _ _ h => h
              case hg23 => rfl
              case hy23 => (intro w hSw; (try dsimp only at hSw); go_simp; (try with_reducible rfl))
              (try simp only [Act.put, List.setIfInBounds_toArray, List.set_cons_zero, List.set_cons_succ])
              refine wpAnyH_take (i := 24) (oi := ?o24) (v := ?v24) ?hi24 (by kernel_rfl) (by kernel_rfl) (by kernel_rfl) ?hq24 (Or.inl ⟨?hg24, ?hy24⟩) hHeld ?rest24
              case hi24 => (simp only [List.getElem?_toArray, List.getElem?_cons_succ, List.getElem?_cons_zero]; rfl)
              case hq24 => exact fun _ _ _ h => h
              case hg24 => rfl
              case hy24 => (intro w hSw; (try dsimp only at hSw); go_simp; (try with_reducible rfl))
              (try simp only [Act.put, List.setIfInBounds_toArray, List.set_cons_zero, List.set_cons_succ])
              refine wpAnyH_take (i := 25) (oi := ?o25) (v := ?v25) ?hi25 (by kernel_rfl) (by kernel_rfl) (by kernel_rfl) ?hq25 (Or.inl ⟨?hg25, ?hy25⟩) hHeld ?rest25
              case hi25 => (simp only [List.getElem?_toArray, List.getElem?_cons_succ, List.getElem?_cons_zero]; rfl)
              case hq25 => exact fun _ _ _ h => h
              case hg25 => rfl
              case hy25 => (intro w hSw; (try dsimp only at hSw); go_simp; (try with_reducible rfl))
              (try simp only [Act.put, List.setIfInBounds_toArray, List.set_cons_zero, List.set_cons_succ])
              refine wpAnyH_take (i := 26) (oi := ?o26) (v := ?v26) ?hi26 (by kernel_rfl) (by kernel_rfl) (by kernel_rfl) ?hq26 (Or.inl ⟨?hg26, ?hy26⟩) hHeld ?rest26
              case hi26 => (simp only [List.getElem?_toArray, List.getElem?_cons_succ, List.getElem?_cons_zero]; rfl)
              case hq26 => exact fun _ _ _ h => h
              case hg26 => rfl
              case hy26 => (intro w hSw; (try dsimp only at hSw); go_simp; (try with_reducible rfl))
              (try simp only [Act.put, List.setIfInBounds_toArray, List.set_cons_zero, List.set_cons_succ])
              refine wpAnyH_take (i := 27) (oi := ?o27) (v := ?v27) ?hi27 (by kernel_rfl) (by kernel_rfl) (by kernel_rfl) ?hq27 (Or.inl ⟨?hg27, ?hy27⟩) hHeld ?rest27
              case hi27 => (simp only [List.getElem?_toArray, List.getElem?_cons_succ, List.getElem?_cons_zero]; rfl)
              case hq27 => exact fun _ _ _ h => h
              case hg27 => rfl
              case hy27 => (intro w hSw; (try dsimp only at hSw); go_simp; (try with_reducible rfl))
              (try simp only [Act.put, List.setIfInBounds_toArray, List.set_cons_zero, List.set_cons_succ])
              refine wpAnyH_take (i := 28) (oi := ?o28) (v := ?v28) ?hi28 (by kernel_rfl) (by kernel_rfl) (by kernel_rfl) ?hq28 (Or.inl ⟨?hg28, ?hy28⟩) hHeld ?rest28
              case hi28 => (simp only [List.getElem?_toArray, List.getElem?_cons_succ, List.getElem?_cons_zero]; rfl)
              case hq28 => exact fun _ _ _ h => h
              case hg28 => rfl
              case hy28 => (intro w hSw; (try dsimp only at hSw); go_simp; (try with_reducible rfl))
              (try simp only [Act.put, List.setIfInBounds_toArray, List.set_cons_zero, List.set_cons_succ])
              refine wpAnyH_take (i := 31) (oi := ?o31) (v := ?v31) ?hi31 (by kernel_rfl) (by kernel_rfl) (by kernel_rfl) ?hq31 (Or.inl ⟨?hg31, ?hy31⟩) hHeld ?rest31
              case hi31 => (simp only [List.getElem?_toArray, List.getElem?_cons_succ, List.getElem?_cons_zero]; rfl)
              case hq31 => exact fun _ _ _ h => h
              case hg31 => rfl
              case hy31 => (intro w hSw; (try dsimp only at hSw); go_simp; (try with_reducible rfl))
              (try simp only [Act.put, List.setIfInBounds_toArray, List.set_cons_zero, List.set_cons_succ])
              refine wpAnyH_take (i := 32) (oi := ?o32) (v := ?v32) ?hi32 (by kernel_rfl) (by kernel_rfl) (by kernel_rfl) ?hq32 (Or.inl ⟨?hg32, ?hy32⟩) hHeld ?rest32
              case hi32 => (simp only [List.getElem?_toArray, List.getElem?_cons_succ, List.getElem?_cons_zero]; rfl)
              case hq32 => exact fun _ _ _ h => h
              case hg32 => rfl
              case hy32 => (intro w hSw; (try dsimp only at hSw); go_simp; (try with_reducible rfl))
              (try simp only [Act.put, List.setIfInBounds_toArray, List.set_cons_zero, List.set_cons_succ])
              refine wpAnyH_take (i := 33) (oi := ?o33) (v := ?v33) ?hi33 (by kernel_rfl) (by kernel_rfl) (by kernel_rfl) ?hq33 (Or.inl ⟨?hg33, ?hy33⟩) hHeld ?rest33
              case hi33 => (simp only [List.getElem?_toArray, List.getElem?_cons_succ, List.getElem?_cons_zero]; rfl)
              case hq33 => exact fun _ _ _ h => h
              case hg33 => rfl
              case hy33 => (intro w hSw; (try dsimp only at hSw); go_simp; (try with_reducible rfl))
              (try simp only [Act.put, List.setIfInBounds_toArray, List.set_cons_zero, List.set_cons_succ])
              refine wpAnyH_take (i := 34) (oi := ?o34) (v := ?v34) ?hi34 (by kernel_rfl) (by kernel_rfl) (by kernel_rfl) ?hq34 (Or.inl ⟨?hg34, ?hy34⟩) hHeld ?rest34
              case hi34 => (simp only [List.getElem?_toArray, List.getElem?_cons_succ, List.getElem?_cons_zero]; rfl)
              case hq34 => exact fun _ _ _ h => h
              case hg34 => rfl
              case hy34 => (intro w hSw; (try dsimp only at hSw); go_simp; (try with_reducible rfl))
              (try simp only [Act.put, List.setIfInBounds_toArray, List.set_cons_zero, List.set_cons_succ])
              refine wpAnyH_ready (rs := [29]) (by kernel_rfl) (by simp) ?_
              refine AllReadyH.cons (o := ?p29) ?ho29 (fun K hK => ?step29) AllReadyH.nil
              case ho29 => (simp only [List.getElem?_toArray, List.getElem?_cons_succ, List.getElem?_cons_zero]; rfl)
              have hBw := hHeld.2.2.2.2.2.2.2.2
              go_simp
              (go_at_call 31; refine (refReads_any c t g A B A9 B9 ca cb ca9 cb9 _ (hCz.out.later hBw) (htx'.out.later hBw) hr12).mono ?_; rintro e wf2 ⟨Ar, kr, rfl, _, hb, _⟩; rw [hra.out])
              (try go_wp2_with fail)
              refine hK.out _ _ (keep_s2 hb hHeld) (fun hH2 => ?_)
              clear hHeld hK K hBw
              have hHeld := hH2
              clear hH2 hb
              (try simp only [Act.put, List.setIfInBounds_toArray, List.set_cons_zero, List.set_cons_succ])
              refine wpAnyH_take (i := 30) (oi := ?o30) (v := ?v30) ?hi30 (by kernel_rfl) (by kernel_rfl) (by kernel_rfl) ?hq30 (Or.inl ⟨?hg30, ?hy30⟩) hHeld ?rest30
              case hi30 => (simp only [List.getElem?_toArray, List.getElem?_cons_succ, List.getElem?_cons_zero]; rfl)
              case hq30 => exact fun _ _ _ h => h
              case hg30 => rfl
              case hy30 => (intro w hSw; (try dsimp only at hSw); go_simp; (try with_reducible rfl))
              (try simp only [Act.put, List.setIfInBounds_toArray, List.set_cons_zero, List.set_cons_succ])
              refine wpAnyH_ready (rs := [35]) (by kernel_rfl) (by simp) ?_
              refine AllReadyH.cons (o := ?p35) ?ho35 (fun K hK => ?step35) AllReadyH.nil
              case ho35 => (simp only [List.getElem?_toArray, List.getElem?_cons_succ, List.getElem?_cons_zero]; rfl)
              have hBw := hHeld.2.2.2.2.2.2.2.2
              go_simp
              (go_at_call 32; refine (refWrites_any c t g A B A9 B9 ca cb ca9 cb9 _ (hCz.out.later hBw) (htx'.out.later hBw) hw12).mono ?_; rintro e wf3 ⟨Aw, kw, rfl, _, hb, _⟩; rw [hwa.out])
              (try go_wp2_with fail)
              refine hK.out _ _ (keep_s2 hb hHeld) (fun hH2 => ?_)
              clear hHeld hK K hBw
              have hHeld := hH2
              clear hH2 hb
              (try simp only [Act.put, List.setIfInBounds_toArray, List.set_cons_zero, List.set_cons_succ])
              refine wpAnyH_take (i := 36) (oi := ?o36) (v := ?v36) ?hi36 (by kernel_rfl) (by kernel_rfl) (by kernel_rfl) ?hq36 (Or.inl ⟨?hg36, ?hy36⟩) hHeld ?rest36
              case hi36 => (simp only [List.getElem?_toArray, List.getElem?_cons_succ, List.getElem?_cons_zero]; rfl)
              case hq36 => exact fun _ _ _ h => h
              case hg36 => rfl
              case hy36 => (intro w hSw; (try dsimp only at hSw); go_simp; (try with_reducible rfl))
              (try simp only [Act.put, List.setIfInBounds_toArray, List.set_cons_zero, List.set_cons_succ])
              refine wpAnyH_take (i := 37) (oi := ?o37) (v := ?v37) ?hi37 (by kernel_rfl) (by kernel_rfl) (by kernel_rfl) ?hq37 (Or.inl ⟨?hg37, ?hy37⟩) hHeld ?rest37
              case hi37 => (simp only [List.getElem?_toArray, List.getElem?_cons_succ, List.getElem?_cons_zero]; rfl)
              case hq37 => exact fun _ _ _ h => h
              case hg37 => rfl
              case hy37 => (intro w hSw; (try dsimp only at hSw); go_simp; (try with_reducible rfl))
              (try simp only [Act.put, List.setIfInBounds_toArray, List.set_cons_zero, List.set_cons_succ])
              refine wpAnyH_take (i := 38) (oi := ?o38) (v := ?v38) ?hi38 (by kernel_rfl) (by kernel_rfl) (by kernel_rfl) ?hq38 (Or.inl ⟨?hg38, ?hy38⟩) hHeld ?rest38
              case hi38 => (simp only [List.getElem?_toArray, List.getElem?_cons_succ, List.getElem?_cons_zero]; rfl)
              case hq38 => exact fun _ _ _ h => h
              case hg38 => rfl
              case hy38 => (intro w hSw; (try dsimp only at hSw); go_simp; (try with_reducible rfl))
              (try simp only [Act.put, List.setIfInBounds_toArray, List.set_cons_zero, List.set_cons_succ])
              refine wpAnyH_take (i := 39) (oi := ?o39) (v := ?v39) ?hi39 (by kernel_rfl) (by kernel_rfl) (by kernel_rfl) ?hq39 (Or.inl ⟨?hg39, ?hy39⟩) hHeld ?rest39
              case hi39 => (simp only [List.getElem?_toArray, List.getElem?_cons_succ, List.getElem?_cons_zero]; rfl)
              case hq39 => exact fun _ _ _ h => h
              case hg39 => rfl
              case hy39 => (intro w hSw; (try dsimp only at hSw); go_simp; (try with_reducible rfl))
              (try simp only [Act.put, List.setIfInBounds_toArray, List.set_cons_zero, List.set_cons_succ])
              refine wpAnyH_take (i := 40) (oi := ?o40) (v := ?v40) ?hi40 (by kernel_rfl) (by kernel_rfl) (by kernel_rfl) ?hq40 (Or.inl ⟨?hg40, ?hy40⟩) hHeld ?rest40
              case hi40 => (simp only [List.getElem?_toArray, List.getElem?_cons_succ, List.getElem?_cons_zero]; rfl)
              case hq40 => exact fun _ _ _ h => h
              case hg40 => rfl
              case hy40 => (intro w hSw; (try dsimp only at hSw); go_simp; (try with_reducible rfl))
              (try simp only [Act.put, List.setIfInBounds_toArray, List.set_cons_zero, List.set_cons_succ])
              have HQ := hHeld.2.2.2.2.2.2.2.2
              refine wpAnyH_done (by kernel_rfl) ?_ _
              go_wp2
              go_roundw
              case rel => exact ⟨n + 1, hn1.out, by go_num, keepB hjy HQ⟩
              case measure => have := hn1.out; simp [intOf]; omega
          · have HX3 := HX2.out
            go_wp2
            go_roundw
            case rel => exact ⟨k + 1, by omega, by go_num, Lib.hid (by obtain ⟨y, hy⟩ := HX3; exact ⟨y, hy.later hj⟩)⟩
            case measure => simp [intOf]; omega
    · go_wp2
      go_ret
      exact ⟨rfl, HB.trans (hw.mono hBsz)⟩
end Go.Proofs.YtjgloipgnnigmaaGreatDoor
