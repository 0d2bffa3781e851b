/- A session's step: each method over the client's state and its invariant, with what is sent and told; the sets of blocks are hidden. -/
import Derived.Test.YtjgloipgnnigmaaGreatDoorCliHand21
import Derived.Test.YtjgloipgnnigmaaGreatDoorJ11
import Derived.Test.YtjgloipgnnigmaaGreatDoorJ10
import Derived.Test.YtjgloipgnnigmaaGreatDoorJ12
import Derived.Test.YtjgloipgnnigmaaGreatDoorJ13
import Derived.Test.YtjgloipgnnigmaaGreatDoorJ14
import Derived.BigQuiet
set_option linter.unusedVariables false
set_option linter.unusedSimpArgs false
namespace Go.Proofs.YtjgloipgnnigmaaGreatDoor
open Go.RowKit Go.Shelf Go.Sort

section
variable {c : Cfg} {x : CliD}
theorem cliSz_same {y : CliD} (h : CliSz x) (hr : y.rds = x.rds) (hw : y.wrs = x.wrs) (ha : y.asks = x.asks) (hk : y.keys = x.keys) : CliSz y :=
  ⟨by rw [hr]; exact h.r, by rw [hw]; exact h.w, by rw [ha]; exact h.a, by rw [hk]; exact h.k⟩
theorem cliSz_0 : CliSz cli0 := ⟨fun y hy => (by cases hy), fun y hy => (by cases hy), fun y hy => (by cases hy), fun y hy => (by cases hy)⟩
theorem cliSz_rest {y : CliD} (hr : y.rds = []) (hw : y.wrs = []) (ha : y.asks = []) (hk : y.keys = []) : CliSz y :=
  ⟨fun y hy => (by rw [hr] at hy; cases hy), fun y hy => (by rw [hw] at hy; cases hy), fun y hy => (by rw [ha] at hy; cases hy), fun y hy => (by rw [hk] at hy; cases hy)⟩
theorem cliSz_begin (h : CliSz x) : CliSz (beginD x) := by
  rw [beginD]; split
  · exact cliSz_same h rfl rfl rfl rfl
  · exact h
theorem cliSz_want (h : CliSz x) (g : Nat) {k : ByteArray} (s : Nat) (hk : k.size ≤ 9223372036854775807) : CliSz (wantD x g k s) :=
  ⟨h.r, h.w, fun y hy => by
    rcases List.mem_append.1 hy with q | q
    · exact h.a y q
    · rw [List.mem_singleton.1 q]; exact hk, h.k⟩
theorem cliSz_wants : ∀ (l : List (Nat × ByteArray × Nat)) {x : CliD}, CliSz x → (∀ p ∈ l, p.2.1.size ≤ 9223372036854775807) → CliSz (wantsD x l)
  | [], _, h, _ => h
  | (g, k, s) :: l, _, h, hl => cliSz_wants l (cliSz_want h g s (hl (g, k, s) (List.mem_cons_self ..))) fun p hp => hl p (List.mem_cons_of_mem _ hp)
theorem cliSz_read (h : CliSz x) {key : ByteArray} (hk : key.size ≤ 9223372036854775807) : CliSz (readD c x key) := by
  rw [readD]; split
  · exact cliSz_want h _ _ hk
  · exact h
theorem cliSz_write (h : CliSz x) {key : ByteArray} (hk : key.size ≤ 9223372036854775807) {v : Val} (hv : v.Good) : CliSz (writeD x key v) := by
  rw [writeD]; split
  · refine ⟨h.r, fun y hy => ?_, h.a, h.k⟩
    rcases List.mem_or_eq_of_mem_set hy with q | q
    · exact h.w y q
    · rw [q]; exact ⟨hk, hv⟩
  · refine ⟨h.r, fun y hy => ?_, h.a, h.k⟩
    rcases List.mem_append.1 hy with q | q
    · exact h.w y (List.mem_of_mem_take q)
    · rcases List.mem_cons.1 q with q | q
      · rw [q]; exact ⟨hk, hv⟩
      · exact h.w y (List.mem_of_mem_drop q)
  · exact h
theorem cliSz_commit (h : CliSz x) : CliSz (commitD x) := by
  rw [commitD]; split
  · exact cliSz_rest rfl rfl rfl rfl
  · exact cliSz_same h rfl rfl rfl rfl
  · exact h
theorem cliSz_abort (h : CliSz x) : CliSz (abortD x) := by
  rw [abortD]; split
  · exact cliSz_rest rfl rfl rfl rfl
  · exact h
theorem noStr_size : noStr.size ≤ 9223372036854775807 := Nat.zero_le _
theorem cliSz_snap (h : CliSz x) {keys : List ByteArray} (hk : ∀ k ∈ keys, k.size ≤ 9223372036854775807) : CliSz (snapD c x keys) := by
  rw [snapD]; split
  · refine cliSz_wants _ ⟨h.r, h.w, h.a, hk⟩ fun p hp => ?_
    obtain ⟨g, _, rfl⟩ := List.mem_map.1 hp
    exact noStr_size
  · exact h
theorem cliSz_safe (h : CliSz x) : CliSz (safeD c x) := by
  rw [safeD]; split
  · exact h
  · refine cliSz_wants _ h fun p hp => ?_
    obtain ⟨k, hk, rfl⟩ := List.mem_map.1 hp
    exact h.k k hk
  · exact cliSz_rest rfl rfl rfl rfl
theorem cliSz_seen (h : CliSz x) (m : MsgV) : CliSz (seenD x m) := by
  rw [seenD]; split
  · exact h
  · exact cliSz_rest rfl rfl rfl rfl
theorem cliSz_hand (h : CliSz x) (ses : Int) (m : MsgV) (fm : Bool) (hm : m.key.size ≤ 9223372036854775807) : CliSz (handD c ses x m fm) := by
  rw [handD]; split
  · exact cliSz_rest rfl rfl rfl rfl
  · have h1 := cliSz_ins h m hm
    exact ⟨h1.r, h1.w, fun y hy => h.a y (mem_erase hy), h1.k⟩
  · exact cliSz_safe (cliSz_same (cliSz_answ h m) rfl rfl rfl rfl)
  · exact cliSz_seen (cliSz_answ h m) m
  · exact h
end

/-- What stays over a whole script: the configuration's rows, the tables, the bound below which nothing changes. -/
structure StepC (w0 : World) (B : Nat) (K : CliK) : Prop where
  c : ∀ w', Below B w0 w' → CfgAt w' K.c K.A K.B
  t : ∀ w', Below B w0 w' → Tabs w'
  b : B ≤ w0.heap.size
  f : formedB K.c = true
  ca : K.c.reps.length ≤ K.ca
  s1 : 1 ≤ K.ses
  s8 : K.ses ≤ 8
structure StepAt (w0 w : World) (B p : Nat) (K : CliK) (n : Nat) (x : CliD) : Prop where
  c : StepC w0 B K
  at_ : ∃ O, CliAt w B p K x O
  inv : CliInv K.c (6 * n) x
  sz : CliSz x
  b : Below B w0 w
def SndR (w : World) (v : Value) (d : List SndD) : Prop := ∃ bs l, SndsAt w bs v l d
section
variable {w0 w : World} {B p n : Nat} {K : CliK} {x : CliD}
theorem SndR.later {w' : World} {v : Value} {d : List SndD} (h : SndR w v d) (hb : Below w.heap.size w w') : SndR w' v d := by
  obtain ⟨bs, l, h⟩ := h
  exact ⟨bs, l, h.later hb⟩
theorem StepAt.hB (h : StepAt w0 w B p K n x) : B ≤ w.heap.size := Nat.le_trans h.c.b h.b.size
theorem StepAt.later {w' : World} (h : StepAt w0 w B p K n x) (hb : Below w.heap.size w w') : StepAt w0 w' B p K n x := by
  obtain ⟨O, hO⟩ := h.at_
  exact ⟨h.c, ⟨O, hO.later hb⟩, h.inv, h.sz, h.b.trans (hb.mono h.hB)⟩
theorem StepAt.hC (h : StepAt w0 w B p K n x) (w' : World) (hb : Below B w w') : CfgAt w' K.c K.A K.B := h.c.c w' (h.b.trans hb)
theorem StepAt.hT (h : StepAt w0 w B p K n x) (w' : World) (hb : Below B w w') : Tabs w' := h.c.t w' (h.b.trans hb)
theorem StepAt.next {w' : World} {y : CliD} {O : Nat → Prop} (h : StepAt w0 w B p K n x) (hO : CliAt w B p K x O) (hA : CliAt w' B p K y (ext O w w')) (ho : Out O w w') (hi : CliInv K.c (6 * (n + 1)) y) (hs : CliSz y) :
    StepAt w0 w' B p K (n + 1) y ∧ Below B w w' := by
  have hb : Below B w w' := ho.below h.hB fun k hk => (hO.lt' k hk).1
  exact ⟨⟨h.c, ⟨_, hA⟩, hi, hs, h.b.trans hb⟩, hb⟩
theorem StepAt.up (h : StepAt w0 w B p K n x) {m : Nat} (hm : n ≤ m) : StepAt w0 w B p K m x := ⟨h.c, h.at_, h.inv.up (by omega), h.sz, h.b⟩
end
end Go.Proofs.YtjgloipgnnigmaaGreatDoor
/- The reference's client, loosely: submit. -/
namespace Go.Proofs.YtjgloipgnnigmaaGreatDoor
open Go.RowKit Go.Shelf Go.Sort

theorem info_rsnd3 : (Tryz.prog.info? 166).map (fun i => (i.zero, i.size, i.bytes)) = some (some (.agg #[.int .i64 0, .int .i64 0, .int .u32 0, .int .i64 0, .int .i64 0, .bool false, .int .u32 0, .int .i64 0, .int .i64 0, .int .i64 0, .int .i64 0, .slice none 0 0, .slice none 0 0, .int .i64 0, .int .i64 0, .int .i64 0, .int .u64 0, .bool false, .int .i64 0, .int .i64 0, .slice none 0 0, .slice none 0 0, .int .i64 0, .int .i64 0, .int .i64 0, .int .u64 0, .bool false, .int .i64 0, .string ByteArray.empty, .int .u64 0, .int .i64 0, .int .u64 0, .string ByteArray.empty, .int .i64 0, .slice none 0 0]), 35, 376) := by kernel_rfl
def RSubPost (w : World) (e : Ending) (w' : World) : Prop := ∃ v, e = .returned v ∧ RSndR w' v ∧ Below w.heap.size w w'
def RSubSt (w : World) (base : Nat) (v : Value) (t : Tx) (A B : Option Addr) (ca cb : Nat) (n : Nat) : Prop :=
  ∃ l, w.ownsRow base 166 35 v l.length (sndCells l) ∧ (∀ s ∈ l, s.m = submitM t A B ca cb) ∧ l.length ≤ n
theorem RSubSt.snoc {w' : World} {base : Nat} {v' : Value} {t : Tx} {A B : Option Addr} {ca cb n : Nat} {l : List SndX} (hm : ∀ s ∈ l, s.m = submitM t A B ca cb) (hn : l.length ≤ n) (z : Int)
    (hr : w'.ownsRow base 166 35 v' (l.length + 1) (sndCells l ++ (⟨z, submitM t A B ca cb⟩ : SndX).vs.toList)) : RSubSt w' base v' t A B ca cb (n + 1) := by
  refine ⟨l ++ [⟨z, submitM t A B ca cb⟩], ?_, ?_, by simp; exact hn⟩
  · rw [sndCells_snoc, List.length_append]; exact hr
  · intro s hs
    rcases List.mem_append.1 hs with q | q
    · exact hm s q
    · rw [List.mem_singleton.1 q]
theorem RSubSt.mono {w : World} {base : Nat} {v : Value} {t : Tx} {A B : Option Addr} {ca cb n n' : Nat} (h : RSubSt w base v t A B ca cb n) (hn : n ≤ n') : RSubSt w base v t A B ca cb n' := by
  obtain ⟨l, a, c, e⟩ := h
  exact ⟨l, a, c, Nat.le_trans e hn⟩
theorem rsub_later {w w' : World} {base : Nat} {v : Value} {t : Tx} {A B : Option Addr} {ca cb n : Nat} (h : RSubSt w base v t A B ca cb n) (hb : Below w.heap.size w w') : RSubSt w' base v t A B ca cb n := by
  obtain ⟨l, a, c, e⟩ := h
  exact ⟨l, own_keep a hb, c, e⟩
set_option maxRecDepth 100000 in
set_option maxHeartbeats 8000000 in
theorem rcSubmit_in {w : World} {p : Nat} {c : Cfg} {t : Tx} {rb roff : Nat} {Bd A5 A6 : Option Addr} {ca cb k5 k6 : Nat} (c0 : w.cell? ⟨p, 0, none⟩ = some (.slice (some ⟨rb, roff, none⟩) c.reps.length ca)) (c1 : w.cell? ⟨p, 1, none⟩ = some (.slice Bd c.bnds.length cb))
    (z0 : w.cell? ⟨p, 8, none⟩ = some (.int .i64 t.ses)) (z1 : w.cell? ⟨p, 9, none⟩ = some (.int .i64 t.seq)) (z2 : w.cell? ⟨p, 10, none⟩ = some (.slice A5 t.rds.length k5)) (z3 : w.cell? ⟨p, 11, none⟩ = some (.slice A6 t.wrs.length k6))
    (hC : CfgAt w c (some ⟨rb, roff, none⟩) Bd) (hf : formedB c = true) (hTx : TxAt w t A5 A6) (hr1 : t.rds.length ≤ 1000) (hw1 : t.wrs.length ≤ 1000) :
    Calls Tryz.prog 113 #[.pointer (some ⟨p, 0, none⟩)] w (RSubPost w) := by
  have hl4 := (formed_len hf).2.1
  obtain ⟨i0, hi, hz0, hz1, hz2⟩ := info_parts info_rsnd3
  obtain ⟨L, hL⟩ : ∃ L, groupsT c t = L := ⟨_, rfl⟩
  have hmem : Hid (∀ k, k < L.length → ∃ m : Nat, m < c.reps.length ∧ L.getD k 0 = (m : Int)) := by
    intro k hk
    subst hL
    exact groupsT_at hk
  have hLn : L.length ≤ 4 := by have := groupsT_len c t; rw [hL] at this; omega
  have HG : Hid (∀ wz, Below w.heap.size w wz → Calls Tryz.prog 160 #[.agg #[.slice (some ⟨rb, roff, none⟩) c.reps.length ca, .slice Bd c.bnds.length cb], .agg #[.int .i64 t.ses, .int .i64 t.seq, .slice A5 t.rds.length k5, .slice A6 t.wrs.length k6]] wz (IntsPost wz L)) := by
    intro wz hz
    rw [← hL]
    exact refGroupsW_any c t _ _ _ _ ca cb k5 k6 wz (hC.later hz) (hTx.later hz) hr1 hw1 (by omega)
  clear hL
  replace hf := Lib.hid hf
  replace hLn := Lib.hid hLn
  replace hl4 := Lib.hid hl4
  go_enter Tryz.func113, Tryz.ntmps113
  go_upto_region 2 with fail
  go_region_held3 (fun w' => w'.cell? ⟨p, 0, none⟩ = some (.slice (some ⟨rb, roff, none⟩) c.reps.length ca) ∧ w'.cell? ⟨p, 1, none⟩ = some (.slice Bd c.bnds.length cb) ∧ w'.cell? ⟨p, 8, none⟩ = some (.int .i64 t.ses) ∧ w'.cell? ⟨p, 9, none⟩ = some (.int .i64 t.seq) ∧ w'.cell? ⟨p, 10, none⟩ = some (.slice A5 t.rds.length k5) ∧ w'.cell? ⟨p, 11, none⟩ = some (.slice A6 t.wrs.length k6))
    (first | exact ⟨c0, c1, z0, z1, z2, z3⟩ | (with_reducible exact ⟨keep hb3 c0, keep hb3 c1, keep hb3 z0, keep hb3 z1, keep hb3 z2, keep hb3 z3⟩))
    (first
      | (go_at_call 160; refine (HG.out _ (below_drew (Below.refl _ _))).mono ?_; rintro e w3 ⟨I, ci, rfl, hI, hb⟩; have hb3 : Below w.heap.size w w3 := keepB (below_drew (Below.refl _ _)) hb))
  all_goals
    go_wp2
    replace c0 := keep hb3 c0
    replace c1 := keep hb3 c1
    replace z0 := keep hb3 z0
    replace z1 := keep hb3 z1
    replace z2 := keep hb3 z2
    replace z3 := keep hb3 z3
    have hC3 := Lib.hid (hC.later hb3)
    have HB3 := Lib.hid hb3
    have hTx3 := Lib.hid (hTx.later hb3)
    clear hb hb3 hC hTx
    go_loopw [3, 5] (fun v i wr => ∃ k : Nat, k ≤ L.length ∧ i = .int .i64 k ∧ Hid (RSubSt wr w3.heap.size v t A5 A6 k5 k6 (5 * k)) ∧ Below w3.heap.size w3 wr) (fun _ i _ => L.length - (intOf i).toNat)
    case atStart => exact ⟨0, Nat.zero_le _, rfl, ⟨[], own_nil _ _ _ _, fun _ h => (by cases h), Nat.zero_le _⟩, Below.refl _ _⟩
    case round =>
      obtain ⟨k, hk, rfl, HS, hw⟩ := hrel
      by_cases hlt : k < L.length
      · obtain ⟨m, hm, em⟩ := hmem.out k hlt
        obtain ⟨gb, goff, g, rfl, gc, GX⟩ := IntsAt.at' hI hlt
        have eg : g = (m : Int) := GX.out.symm.trans em
        subst eg
        have gc9 := gc
        replace gc := keep hw gc
        obtain ⟨b9, o9, r, e9, rc, RX⟩ := IntsAt.at' hC3.out.ints hm
        cases e9
        have hrr := formed_range hf.out hm
        rw [RX.out] at hrr
        obtain ⟨q, rfl⟩ := Int.eq_ofNat_of_zero_le (show 0 ≤ r by omega)
        have hq5 : Hid (q ≤ 5) := by have := hrr.2; show _ ≤ _; omega
        have rc9 := rc
        replace rc := keep hw rc
        have c0r := keep hw c0
        have gc3 := Lib.hid gc9
        have gc0 := gc3
        have rc0 := Lib.hid rc9
        have hgi : (m : Int) < (c.reps.length : Int) := by omega
        clear hrr em GX RX
        go_wp2
        go_loopw [3, 6] (fun v i wr2 => ∃ j : Nat, j ≤ q ∧ i = .int .i64 j ∧ Hid (RSubSt wr2 w3.heap.size v t A5 A6 k5 k6 (5 * k + j)) ∧ Below w3.heap.size w3 wr2) (fun _ i _ => q - (intOf i).toNat)
        case atStart => exact ⟨0, Nat.zero_le _, rfl, HS, hw⟩
        case round =>
          obtain ⟨j, hj, rfl, HS2, hw2⟩ := hrel
          have c0s := keep hw2 c0
          have c1s := keep hw2 c1
          have gcs := keep hw2 gc0.out
          have rcs := keep hw2 rc0.out
          have z0s := keep hw2 z0
          have z1s := keep hw2 z1
          have z2s := keep hw2 z2
          have z3s := keep hw2 z3
          by_cases hlt2 : j < q
          · obtain ⟨l, hown, hsm, hsn⟩ := HS2.out
            obtain ⟨A3, k3, rfl⟩ := own_form hown
            have hCs := Lib.hid (hC3.out.later hw2)
            replace hsn : Hid (l.length ≤ 5 * k + j) := hsn
            replace hsm := Lib.hid hsm
            have hmx : Hid (l.length ≤ 100) := by
              have := hsn.out; have := hq5.out; have := hLn.out
              show _ ≤ _; omega
            have hj5 : j < 5 := by have := hq5.out; omega
            have hml : Hid (l.length + 1 ≤ maxLen) := le_maxLen (by have := hmx.out; omega)
            have hmb : Hid ((l.length + 1) * 376 ≤ 140737488355328) := by have := hmx.out; show _ ≤ _; omega
            have hone : Hid (∀ u ∈ ([.int .i64 (placeZ c (m : Int) (j : Int)), .int .i64 8, .int .u32 0, .int .i64 0, .int .i64 0, .bool false, .int .u32 0, .int .i64 0, .int .i64 0, .int .i64 0, .int .i64 0, .slice none 0 0, .slice none 0 0, .int .i64 0, .int .i64 0, .int .i64 0, .int .u64 0, .bool false, .int .i64 t.ses, .int .i64 t.seq, .slice A5 t.rds.length k5, .slice A6 t.wrs.length k6, .int .i64 0, .int .i64 0, .int .i64 0, .int .u64 0, .bool false, .int .i64 0, .string ⟨#[]⟩, .int .u64 0, .int .i64 0, .int .u64 0, .string ⟨#[]⟩, .int .i64 0, .slice none 0 0] : List Value), u.oneCell' = true) := sub_one (placeZ c (m : Int) (j : Int)) t A5 A6 k5 k6
            have hlt2' : (j : Int) < (q : Int) := by omega
            go_upto_region 7 with fail
            go_quiet (fail)
            go_upto_region 9 with fail
            obtain ⟨wn, hwn⟩ : ∃ wn, wr.drewN nq = wn := ⟨_, rfl⟩
            have hbn : Below wr.heap.size wr wn := by rw [← hwn]; exact below_drewN (Below.refl _ _) _
            rw [hwn]
            clear hwn
            replace c0s := keep hbn c0s
            replace c1s := keep hbn c1s
            replace gcs := keep hbn gcs
            replace z0s := keep hbn z0s
            replace z1s := keep hbn z1s
            replace z2s := keep hbn z2s
            replace z3s := keep hbn z3s
            replace hown := own_keep hown hbn
            replace hCs := Lib.hid (hCs.out.later hbn)
            replace hw2 := keepB hw2 hbn
            clear rcs
            go_region_held3 (fun w' => w'.cell? ⟨p, 0, none⟩ = some (.slice (some ⟨rb, roff, none⟩) c.reps.length ca) ∧ w'.cell? ⟨p, 1, none⟩ = some (.slice Bd c.bnds.length cb) ∧ w'.cell? ⟨p, 8, none⟩ = some (.int .i64 t.ses) ∧ w'.cell? ⟨p, 9, none⟩ = some (.int .i64 t.seq) ∧ w'.cell? ⟨p, 10, none⟩ = some (.slice A5 t.rds.length k5) ∧ w'.cell? ⟨p, 11, none⟩ = some (.slice A6 t.wrs.length k6) ∧ w'.cell? ⟨gb, goff + k, none⟩ = some (.int .i64 (m : Int)))
              (first | exact ⟨c0s, c1s, z0s, z1s, z2s, z3s, gcs⟩ | (with_reducible exact ⟨keep hbP c0s, keep hbP c1s, keep hbP z0s, keep hbP z1s, keep hbP z2s, keep hbP z3s, keep hbP gcs⟩) | (with_reducible exact ⟨keep hB15 c0, keep hB15 c1, keep hB15 z0, keep hB15 z1, keep hB15 z2, keep hB15 z3, keep hB15 gc3.out⟩) | (with_reducible exact ⟨keep (below1 _ _) (keep hbP c0s), keep (below1 _ _) (keep hbP c1s), keep (below1 _ _) (keep hbP z0s), keep (below1 _ _) (keep hbP z1s), keep (below1 _ _) (keep hbP z2s), keep (below1 _ _) (keep hbP z3s), keep (below1 _ _) (keep hbP gcs)⟩) | (with_reducible exact ⟨keep (below_drew (below1 _ _)) (keep hbP c0s), keep (below_drew (below1 _ _)) (keep hbP c1s), keep (below_drew (below1 _ _)) (keep hbP z0s), keep (below_drew (below1 _ _)) (keep hbP z1s), keep (below_drew (below1 _ _)) (keep hbP z2s), keep (below_drew (below1 _ _)) (keep hbP z3s), keep (below_drew (below1 _ _)) (keep hbP gcs)⟩))
              (first
                | (go_at_call 161; refine (refPlace_any c (m : Int) (j : Int) _ _ ca cb _ (hCs.out.later (below_drew (Below.refl _ _)))).mono ?_; rintro e wP ⟨rfl, hbP0⟩; have hbP : Below wn.heap.size wn wP := keepB (below_drew (Below.refl _ _)) hbP0)
                | (refine ready_append_own_at rfl _ _ 118 rfl w3.heap.size 166 i0 _ 35 376 Tryz.underlying118 hi hz0 hz1 hz2 rfl (Nat.succ_pos 34) (.slice A3 l.length k3) l.length (sndCells l) rfl (own_keep hown (keepB hbP (below1 wP _))) ⟨wP.heap.size, 0, none⟩ 1 1 [.int .i64 (placeZ c (m : Int) (j : Int)), .int .i64 8, .int .u32 0, .int .i64 0, .int .i64 0, .bool false, .int .u32 0, .int .i64 0, .int .i64 0, .int .i64 0, .int .i64 0, .slice none 0 0, .slice none 0 0, .int .i64 0, .int .i64 0, .int .i64 0, .int .u64 0, .bool false, .int .i64 t.ses, .int .i64 t.seq, .slice A5 t.rds.length k5, .slice A6 t.wrs.length k6, .int .i64 0, .int .i64 0, .int .i64 0, .int .u64 0, .bool false, .int .i64 0, .string ⟨#[]⟩, .int .u64 0, .int .i64 0, .int .u64 0, .string ⟨#[]⟩, .int .i64 0, .slice none 0 0] rfl rfl (World.news_of_block (heap_alloc_new wP _)) hone.out hml.out hmb.out (Nat.le_trans hw2.size (Nat.le_trans hbP.size (below1 wP _).size)) ?_; intro v15 w15 HO15 hg15 hv15; obtain ⟨A15, c15, rfl⟩ := own_form HO15; have hB15 : Below w3.heap.size w3 w15 := own_below (keepB (keepB hw2 hbP) (below1 wP _)) (Nat.le_refl _) (own_keep hown (keepB hbP (below1 wP _))) hg15; replace HO15 := Lib.hid HO15; clear hg15 hv15)
                | (refine ready_append_own_at rfl _ _ 118 rfl w3.heap.size 166 i0 _ 35 376 Tryz.underlying118 hi hz0 hz1 hz2 rfl (Nat.succ_pos 34) (.slice A3 l.length k3) l.length (sndCells l) rfl (own_keep hown (keepB hbP (below_drew (below1 wP _)))) ⟨wP.heap.size, 0, none⟩ 1 1 [.int .i64 (placeZ c (m : Int) (j : Int)), .int .i64 8, .int .u32 0, .int .i64 0, .int .i64 0, .bool false, .int .u32 0, .int .i64 0, .int .i64 0, .int .i64 0, .int .i64 0, .slice none 0 0, .slice none 0 0, .int .i64 0, .int .i64 0, .int .i64 0, .int .u64 0, .bool false, .int .i64 t.ses, .int .i64 t.seq, .slice A5 t.rds.length k5, .slice A6 t.wrs.length k6, .int .i64 0, .int .i64 0, .int .i64 0, .int .u64 0, .bool false, .int .i64 0, .string ⟨#[]⟩, .int .u64 0, .int .i64 0, .int .u64 0, .string ⟨#[]⟩, .int .i64 0, .slice none 0 0] rfl rfl (World.news_of_block (heap_alloc_new wP _)) hone.out hml.out hmb.out (Nat.le_trans hw2.size (Nat.le_trans hbP.size (below_drew (below1 wP _)).size)) ?_; intro v15 w15 HO15 hg15 hv15; obtain ⟨A15, c15, rfl⟩ := own_form HO15; have hB15 : Below w3.heap.size w3 w15 := own_below (keepB (keepB hw2 hbP) (below_drew (below1 wP _))) (Nat.le_refl _) (own_keep hown (keepB hbP (below_drew (below1 wP _)))) hg15; replace HO15 := Lib.hid HO15; clear hg15 hv15))
            all_goals
              go_wp2
              go_roundw
              case rel =>
                have hS15 := RSubSt.snoc hsm.out hsn.out (placeZ c (m : Int) (j : Int)) ((sub_lit (placeZ c (m : Int) (j : Int)) t A5 A6 k5 k6) ▸ HO15.out)
                exact ⟨j + 1, hlt2, by go_num, hS15, hB15⟩
              case measure => simp [intOf]; omega
          · have ej : j = q := by omega
            have HS3 : Hid (RSubSt wr w3.heap.size u3 t A5 A6 k5 k6 (5 * (k + 1))) := by
              show RSubSt _ _ _ _ _ _ _ _ _
              exact HS2.out.mono (by have := hq5.out; omega)
            have hlt2' : ¬ ((j : Int) < (q : Int)) := by omega
            clear ej
            have hk4 : k < 4 := by have := hLn.out; omega
            go_upto_region 7 with fail
            go_quiet (fail)
            go_wp2
            go_roundw
            case rel => exact ⟨k + 1, hlt, by go_num, rsub_later HS3.out (below_drewN (Below.refl _ _) _), keepB hw2 (below_drewN (Below.refl _ _) _)⟩
            case measure => simp [intOf]; omega
      · have ek : k = L.length := by omega
        have HS3 := HS
        clear ek
        go_wp2
        go_ret
        obtain ⟨l, h1, h3, _⟩ := HS3.out
        refine ⟨_, rfl, ⟨_, l, h1, fun s hs => ?_⟩, keepB HB3.out hw⟩
        rw [h3 s hs]
        exact submit_lies (hTx3.out.later hw) _ _
end Go.Proofs.YtjgloipgnnigmaaGreatDoor
/- The reference's client, loosely: Commit, Tick. -/
namespace Go.Proofs.YtjgloipgnnigmaaGreatDoor
open Go.RowKit Go.Shelf Go.Sort

section
variable {w w' : World} {B p n : Nat} {K : CliK} {x : RcD} {O : Nat → Prop}
theorem rcSubmit_any (h : RcAt w B p K x O) (hx : RcOK K.c n x) (hn : n ≤ 1000) (hC : CfgAt w K.c K.A K.B) (hf : formedB K.c = true) :
    Calls Tryz.prog 113 #[.pointer (some ⟨p, 0, none⟩)] w (RSubPost w) := by
  obtain ⟨vr, vw, va, h⟩ := h
  obtain ⟨c0, c1, _, _, _, _, _, _, c8, c9, c10, c11, _⟩ := h.cs
  obtain ⟨A5, k5, rfl, _, h5, _⟩ := own_rds h.rowr
  obtain ⟨A6, k6, rfl, _, h6, _⟩ := own_wrs h.roww
  have hl := (formed_len hf).1
  obtain ⟨rb, roff, r0, eA, _⟩ := IntsAt.at' hC.ints (show 0 < K.c.reps.length by omega)
  rw [eA] at c0 hC
  have hr := hx.rn
  have hw := hx.wn
  exact rcSubmit_in (t := ⟨x.ts, x.tq, x.rds, x.wrs⟩) c0 c1 c8 c9 c10 c11 hC hf ⟨h5, h6, fun k hk => hx.rk _ (getD_mem hk), fun k hk => (hx.wk _ (getD_mem hk)).1, fun k hk => (hx.wk _ (getD_mem hk)).2, by show x.rds.length ≤ _; omega, by show x.wrs.length ≤ _; omega⟩ (by show x.rds.length ≤ _; omega) (by show x.wrs.length ≤ _; omega)
set_option maxRecDepth 100000 in
set_option maxHeartbeats 4000000 in
theorem rcCommit_any (h : RcAt w B p K x O) (hx : RcOK K.c n x) (hn : n ≤ 1000) (hC : ∀ w', Below B w w' → CfgAt w' K.c K.A K.B) (hf : formedB K.c = true) :
    Calls Tryz.prog 60 #[.pointer (some ⟨p, 0, none⟩)] w (RcSnd w B p K (n + 1) O) := by
  have h0 := Lib.hid h
  have hB := h.hB
  have hlt := Lib.hid h.lt'
  have HO : Hid (Calls Tryz.prog 111 #[.pointer (some ⟨p, 0, none⟩)] w fun e w' => (∃ z : Int, e = .returned (.int .i64 z)) ∧ w = w') := rcOpen_any h hx hn
  have HRe := Lib.hid (rcRest_any h)
  obtain ⟨vr, vw, va, h⟩ := h
  obtain ⟨c0, c1, _, c3, _, _, _, _, _, _, c10, c11, _⟩ := h.cs
  have f3 := h.fz 3
  obtain ⟨A5, k5, rfl, _, h5, _⟩ := own_rds h.rowr
  obtain ⟨A6, k6, rfl, _, h6, _⟩ := own_wrs h.roww
  have h1 := h.s3 2
  have HS : Hid (Calls Tryz.prog 113 #[.pointer (some ⟨p, 0, none⟩)] (w.setCell ⟨p, 3, none⟩ (.int .i64 2)) (RSubPost (w.setCell ⟨p, 3, none⟩ (.int .i64 2)))) := rcSubmit_any ⟨_, _, _, h1⟩ (hx.same (Nat.le_refl n) rfl rfl rfl rfl) hn (hC _ ((out_set21 w p 3 _).below hB fun k e => by subst e; exact (h.lt _ h.hp).1)) hf
  have H1 := Lib.hid h1
  have hp := h.hp
  have HX := Lib.hid hx
  clear h1 h hx hC
  go_enter Tryz.func60, Tryz.ntmps60
  go_wp2_with (first
    | (go_at_call 111; refine HO.out.mono ?_; rintro e w1 ⟨⟨z, rfl⟩, rfl⟩)
    | (go_at_call 112; refine HRe.out.mono ?_; rintro e w2 ⟨rfl, hA2, ho2⟩)
    | (go_at_call 113; refine HS.out.mono ?_; rintro e w3 ⟨v3, rfl, hR3, hb3⟩))
  all_goals
    go_ret2
    first
      | exact rcs_no h0.out HX.out _ (Below.refl _ _)
      | exact ⟨_, 0, rfl, rsnd_nil _, ⟨_, RcOK.rest _, hA2⟩, ho2⟩
      | exact ⟨_, 0, rfl, hR3, rc_close (y := { x with st := 2 }) hlt.out hB (HX.out.same (Nat.le_succ n) rfl rfl rfl rfl) ⟨_, _, _, H1.out.later hb3⟩ (fun k hk => .inl hk) ((rc_out hp (Out.refl _ _)).trans' (Out.of_below hb3))⟩
def RcSndT (w : World) (B p : Nat) (K : CliK) (m : Nat) (O : Nat → Prop) (e : Ending) (w' : World) : Prop := ∃ v, e = .returned v ∧ RSndR w' v ∧ RcEnd w B p K m O w'
/-- What was sent so far. -/
def TkSt (w : World) (base : Nat) (v : Value) (n : Nat) : Prop := ∃ l, w.ownsRow base 166 35 v l.length (sndCells l) ∧ (∀ s ∈ l, ∀ wz, MsgAt wz s.m) ∧ l.length ≤ n
set_option maxRecDepth 100000 in
set_option maxHeartbeats 8000000 in
theorem rcTick_any (h : RcAt w B p K x O) (hx : RcOK K.c n x) (hn : n ≤ 1000) (hC : ∀ w', Below B w w' → CfgAt w' K.c K.A K.B) (hf : formedB K.c = true) :
    Calls Tryz.prog 64 #[.pointer (some ⟨p, 0, none⟩)] w (RcSndT w B p K (n + 1) O) := by
  have h0 := Lib.hid h
  have hB := h.hB
  have hlt := Lib.hid h.lt'
  obtain ⟨vr, vw, va, h⟩ := h
  obtain ⟨_, _, _, _, _, _, c6, _⟩ := h.cs
  have f6 := h.fz 6
  obtain ⟨w1, e1⟩ : ∃ w1, w.setCell ⟨p, 6, none⟩ (.int .i64 (wrap64 (x.tn + 1))) = w1 := ⟨_, rfl⟩
  have h1 := h.s6 (wrap64 (x.tn + 1))
  rw [e1] at h1
  have ho1 : Out O w w1 := by rw [← e1]; exact rc_out h.hp (Out.refl _ _)
  have hb1 : Below B w w1 := ho1.below hB fun k hk => (h.lt k hk).1
  have hx1 : RcOK K.c n { x with tn := wrap64 (x.tn + 1) } := hx.same (Nat.le_refl _) rfl rfl rfl rfl
  have hA1 : RcAt w1 B p K { x with tn := wrap64 (x.tn + 1) } O := ⟨_, _, _, h1⟩
  have hlt1 := Lib.hid hA1.lt'
  have HS : Hid (Calls Tryz.prog 113 #[.pointer (some ⟨p, 0, none⟩)] w1 (RSubPost w1)) := rcSubmit_any hA1 hx1 hn (hC _ hb1) hf
  have HSe : Hid (∀ wz a, Below w1.heap.size w1 wz → a ∈ x.asks → Calls Tryz.prog 118 #[.pointer (some ⟨p, 0, none⟩), .agg #[.int .i64 a.n, .int .i64 (a.g : Int), .string a.key, .int .u64 (a.st : Int), .bool a.op]] wz (SndPostR wz)) :=
    fun wz a hz ha => rcSent_any (hA1.later hz) (hC wz (hb1.trans (hz.mono (Nat.le_trans hB ho1.size)))) hf a (hx.ag a ha) (hx.ak a ha)
  obtain ⟨_, _, _, d3, _, _, _, _, _, _, _, _, d12, _⟩ := h1.cs
  obtain ⟨A, cap, e12, hcap, hA, _⟩ := own_asksR h1.rowa
  simp only at e12 hcap
  subst e12
  obtain ⟨i0, hi, hz0, hz1, hz2⟩ := info_parts info_rsnd3
  have hlen := hx.an
  have HX := Lib.hid hx
  have HA1 := Lib.hid hA1
  have ho1' := Lib.hid ho1
  clear h1 hA1 hx1 h hx hC ho1 hb1 hcap
  go_enter Tryz.func64, Tryz.ntmps64
  go_wp2_with (go_at_call 113; refine HS.out.mono ?_; rintro e w3 ⟨v3, rfl, hR3, hb3⟩)
  all_goals try (go_ret; exact ⟨_, rfl, hR3, rc_close (y := { x with tn := wrap64 (x.tn + 1) }) hlt.out hB (HX.out.same (Nat.le_succ n) rfl rfl rfl rfl) (HA1.out.later hb3) (fun k hk => .inl hk) (ho1'.out.trans' (Out.of_below hb3))⟩)
  go_loopw [3, 4] (fun v i wr => ∃ k : Nat, k ≤ x.asks.length ∧ i = .int .i64 k ∧ Hid (TkSt wr w1.heap.size v k) ∧ Below w1.heap.size w1 wr) (fun _ i _ => x.asks.length - (intOf i).toNat)
  case atStart => exact ⟨0, Nat.zero_le _, rfl, ⟨[], own_nil _ _ _ _, fun s hs => (by cases hs), Nat.zero_le _⟩, Below.refl _ _⟩
  case round =>
    obtain ⟨k, hk, rfl, HS2, hw⟩ := hrel
    replace d12 := keep hw d12
    by_cases hl : k < x.asks.length
    · obtain ⟨b, off, rfl, e0, e1', e2, e3, e4, _⟩ := hA k hl
      replace e0 := keep hw e0
      replace e1' := keep hw e1'
      replace e2 := keep hw e2
      replace e3 := keep hw e3
      replace e4 := keep hw e4
      have hmem : Hid (x.asks.getD k noAskR ∈ x.asks) := getD_mem hl
      obtain ⟨a, ha⟩ : ∃ a, x.asks.getD k noAskR = a := ⟨_, rfl⟩
      rw [ha] at e0 e1' e2 e3 e4 hmem
      have ki : (k : Int) < (x.asks.length : Int) := by omega
      have k0 : (0 : Int) ≤ (k : Int) := by omega
      have hmx : Hid (x.asks.length ≤ 30000) := by show _ ≤ _; omega
      obtain ⟨l, hl3, hlm, hn3⟩ := HS2.out
      replace hlm := Lib.hid hlm
      obtain ⟨A3, k3, rfl⟩ := own_form hl3
      replace hl3 := Lib.hid hl3
      have hn3' : Hid (l.length ≤ k) := hn3
      clear ha
      obtain ⟨an, ag, ak, ast, aop⟩ := a
      cases aop
      · go_wp2
        go_roundw
        case rel => exact ⟨k + 1, by omega, by go_num, ⟨l, hl3.out, hlm.out, by have := hn3'.out; omega⟩, hw⟩
        case measure => simp [intOf]; omega
      · go_wp2_with (first
          | (go_at_call 118; refine (HSe.out _ _ hw hmem.out).mono ?_; rintro e w5 ⟨sv, rfl, hm5, hb5⟩)
          | (refine wpList_buildSlice1 rfl 118 166 _ rfl _ rfl _ Tryz.underlying118 info_rsnd (by rw [snd_size]; omega) (by rw [snd_size]; omega) (zero_rsnd _) ?_; obtain ⟨w6, e6, hb6, hs6, hr6⟩ := boxed w5 sv.vs 166; rw [e6]; have hb56 := keepB hb5 hb6)
          | (at_builtin; refine wpList_append_own w6 rfl _ _ 118 rfl w1.heap.size 166 i0 _ 35 376 Tryz.underlying118 hi hz0 hz1 hz2 rfl (by decide) (.slice A3 l.length k3) l.length (sndCells l) rfl (own_keep hl3.out hb56) ⟨w5.heap.size, 0, none⟩ 1 1 sv.vs.toList rfl (by rw [Array.length_toList]; exact snd_size sv) (World.news_of_block hr6) (one_cell_snd sv) (le_maxLen (by have := hmx.out; omega)) (by have := hmx.out; omega) (Nat.le_trans hw.size hb56.size) ?_; intro v7 w7 HO7 hg7 _; have hB7 := Lib.hid (own_below (keepB hw hb56) (Nat.le_refl _) (own_keep hl3.out hb56) hg7); replace HO7 := Lib.hid HO7; clear hg7))
        have hk9 : k ≤ 30000 := by have := hmx.out; omega
        go_roundw
        case rel =>
          refine ⟨k + 1, by omega, by go_num, ⟨l ++ [sv], ?_, fun s hs => ?_, by have := hn3'.out; simp; omega⟩, hB7.out⟩
          · rw [sndCells_snoc, List.length_append]; exact HO7.out
          · rcases List.mem_append.1 hs with q | q
            · exact hlm.out s q
            · rw [List.mem_singleton.1 q]; exact hm5
        case measure => simp [intOf]; omega
    · go_wp2
      go_ret
      obtain ⟨l, hl3, hlm, _⟩ := HS2.out
      exact ⟨_, rfl, ⟨_, l, hl3, fun s hs => hlm s hs _⟩, rc_close (y := { x with tn := wrap64 (x.tn + 1) }) hlt.out hB (HX.out.same (Nat.le_succ n) rfl rfl rfl rfl) (HA1.out.later hw) (fun k hk => .inl hk) (ho1'.out.trans' (Out.of_below hw))⟩
end
end Go.Proofs.YtjgloipgnnigmaaGreatDoor
/- The reference's client, loosely: Snapshot; asking many things in a loop. -/
namespace Go.Proofs.YtjgloipgnnigmaaGreatDoor
open Go.RowKit Go.Shelf Go.Sort

theorem noStr_sz : noStr.size ≤ 9223372036854775807 := Nat.zero_le _
structure RWantSt (w3 wr : World) (B p : Nat) (K : CliK) (O3 : Nat → Prop) (x : RcD) (y : RcD) (v : Value) (n k : Nat) (Ok : Nat → Prop) (l : List SndX) : Prop where
  b : B ≤ w3.heap.size
  c : RcAt wr B p K y Ok
  ok : RcOK K.c (n + 1) y
  an : y.asks.length ≤ 20 * n + k
  ks : y.KA = x.KA ∧ y.keys = x.keys ∧ y.kc = x.kc ∧ y.stamp = x.stamp
  sub : ∀ g, Ok g → O3 g ∨ w3.heap.size ≤ g
  own : wr.ownsRow w3.heap.size 166 35 v l.length (sndCells l)
  sm : ∀ s ∈ l, ∀ wz, MsgAt wz s.m
  sn : l.length ≤ k
  ap : ∀ g, v.ownBlock = some g → ¬ Ok g
  out : Out O3 w3 wr
section
variable {w w3 wr w4 w6 w7 : World} {B p n k : Nat} {K : CliK} {x y y' : RcD} {v v7 : Value} {O O3 Ok : Nat → Prop} {l : List SndX}
theorem RWantSt.start (h : RcAt w3 B p K x O3) (hx : RcOK K.c n x) : RWantSt w3 w3 B p K O3 x x (.slice none 0 0) n 0 O3 [] :=
  ⟨h.hB, h, hx.same (Nat.le_succ n) rfl rfl rfl rfl, hx.an, ⟨rfl, rfl, rfl, rfl⟩, fun _ h => .inl h, own_nil _ _ _ _, fun _ h => (by cases h), Nat.le_refl _, fun g hg => (by cases hg), Out.refl _ _⟩
theorem RcOK.want' {m g : Nat} {key : ByteArray} {st : Nat} (h : RcOK K.c m x) (hl : x.asks.length + 1 ≤ 20 * m) (hg : g < K.c.reps.length) (hk : key.size ≤ 9223372036854775807) : RcOK K.c m (rcWant x g key st) := by
  have h2 := h.want (st := st) hg hk
  exact ⟨by show (x.asks ++ [_]).length ≤ _; rw [List.length_append]; simpa using hl, h.rn, h.wn, h2.ag, h2.ak, h.rk, h.wk, h.kn, h.kk⟩
theorem RWantSt.step {s : SndX} {g : Nat} {key : ByteArray} {st : Nat} (h : RWantSt w3 wr B p K O3 x y v n k Ok l) (hk20 : k < 20) (hgl : g < K.c.reps.length) (hks : key.size ≤ 9223372036854775807)
    (hA4 : RcAt w4 B p K (rcWant y g key st) (ext Ok wr w4)) (ho4 : Out Ok wr w4) (hb6 : Below w4.heap.size w4 w6) (hm : ∀ wz, MsgAt wz s.m)
    (HO7 : w7.ownsRow w3.heap.size 166 35 v7 (l.length + 1) (sndCells l ++ s.vs.toList)) (hg7 : w6.grownBy w7 v.ownBlock) (hv7 : v7.ownBlock = v.ownBlock ∨ v7.ownBlock = some w6.heap.size) :
    RWantSt w3 w7 B p K O3 x (rcWant y g key st) v7 n (k + 1) (ext Ok wr w4) (l ++ [s]) := by
  have hlt : ∀ g, v.ownBlock = some g → w3.heap.size ≤ g ∧ g < wr.heap.size := fun g hg => h.own.lt g hg
  have hO := h.c.lt'
  have s4 := ho4.size
  have s6 := hb6.size
  have nin : ∀ g, v.ownBlock = some g → ¬ ext Ok wr w4 g := fun g hg e => e.elim (h.ap g hg) (fun q => by have := (hlt g hg).2; omega)
  have hx4 : Out O3 w3 w4 := h.out.trans (ho4.mono fun k hk => (h.sub k hk).elim .inl (fun q => .inr ⟨q, (hO k hk).2⟩))
  have hB := h.c.hB
  refine ⟨h.b, ?_, ?_, ?_, h.ks, ?_, ?_, ?_, by simp; exact h.sn, ?_, ?_⟩
  · exact (hA4.later hb6).out (Out.of_grown (O := fun k => v.ownBlock = some k ∧ B ≤ k) hg7 (fun k e => ⟨e, Nat.le_trans h.b (hlt k e).1⟩)) (fun k hk e => nin k e.1 hk) (fun k e => e.2)
  · exact h.ok.want' (by have := h.an; omega) hgl hks
  · show (y.asks ++ [_]).length ≤ _
    rw [List.length_append]; have := h.an; simp; omega
  · intro g hg
    rcases hg with q | q
    · exact h.sub g q
    · exact .inr (Nat.le_trans h.out.size q.1)
  · rw [sndCells_snoc, List.length_append]; exact HO7
  · intro q hq
    rcases List.mem_append.1 hq with q1 | q1
    · exact h.sm q q1
    · rw [List.mem_singleton.1 q1]; exact hm
  · intro g hg
    rcases hv7 with e | e
    · exact nin g (by rw [← e]; exact hg)
    · rw [hg] at e
      cases e
      rintro (q | q)
      · have := (hO _ q).2; omega
      · omega
  · exact (hx4.trans' (Out.of_below hb6)).trans (Out.of_grown hg7 fun k e => .inr ⟨(hlt k e).1, by have := (hlt k e).2; omega⟩)
theorem RWantSt.done (h : RWantSt w3 wr B p K O3 x y v n k Ok l) (h3 : Out O w w3) (hO3 : ∀ k, O3 k → O k ∨ w.heap.size ≤ k) (hB : B ≤ w.heap.size) (hlt : ∀ k, O k → B ≤ k ∧ k < w.heap.size) :
    RSndR wr v ∧ RcEnd w B p K (n + 1) O wr := by
  have hO := h.c.lt'
  have s3 := h3.size
  have sr := h.out.size
  refine ⟨⟨_, l, h.own, fun s hs => h.sm s hs _⟩, rc_close hlt hB h.ok h.c (fun k hk => ?_) ?_⟩
  · rcases h.sub k hk with q | q
    · rcases hO3 k q with q | q
      · exact .inl q
      · exact .inr ⟨q, (hO k hk).2⟩
    · exact .inr ⟨by omega, (hO k hk).2⟩
  · refine ⟨h.out.os.trans h3.os, h.out.tape.trans h3.tape, h.out.output.trans h3.output, Nat.le_trans s3 sr, fun k hk ho => ?_⟩
    rw [h.out.block k (by omega) (fun e => (hO3 k e).elim ho (fun q => by omega)), h3.block k hk ho]
set_option maxRecDepth 100000 in
set_option maxHeartbeats 8000000 in
theorem rcSnap_any (h : RcAt w B p K x O) (hx : RcOK K.c n x) (hn : n ≤ 1000) (hC : ∀ w', Below B w w' → CfgAt w' K.c K.A K.B) (hf : formedB K.c = true)
    (KA : Option Addr) (keys : List ByteArray) (kc : Nat) (hKs : ∀ w', Below B w w' → StrsAt w' KA keys) (hkn : keys.length ≤ 10) (hkz : ∀ k ∈ keys, k.size ≤ 9223372036854775807) :
    Calls Tryz.prog 62 #[.pointer (some ⟨p, 0, none⟩), .slice KA keys.length kc] w (RcSnd w B p K (n + 1) O) := by
  have h0 := Lib.hid h
  have hB := h.hB
  have hlt := Lib.hid h.lt'
  obtain ⟨vr, vw, va, h⟩ := h
  obtain ⟨c0, c1, _, c3, _, _, _, _, _, _, _, _, _, c13, c14⟩ := h.cs
  have f3 := h.fz 3
  have f13 := h.fz 13
  have f14 := h.fz 14
  have hK0 : StrsAt w KA keys := hKs w (Below.refl _ _)
  have HX := Lib.hid hx
  have hn' := Lib.hid hn
  have H := Lib.hid h
  clear h hx
  by_cases hs0 : x.st = 0
  case neg =>
    have hs1 : (x.st != 0) = true := by rw [bne_iff_ne]; exact hs0
    go_enter Tryz.func62, Tryz.ntmps62
    go_wp2
    go_ret2
    exact rcs_no h0.out HX.out _ (Below.refl _ _)
  rw [hs0] at c3
  clear hs0
  go_enter Tryz.func62, Tryz.ntmps62
  go_wp2
  go_loopw [6] (fun i wr => ∃ k : Nat, k ≤ keys.length ∧ i = .int .i64 k ∧ Below w.heap.size w wr) (fun i _ => keys.length - (intOf i).toNat)
  case atStart => exact ⟨0, Nat.zero_le _, rfl, Below.refl _ _⟩
  case round =>
    obtain ⟨k, hkl, rfl, hw⟩ := hrel
    by_cases hltk : k < keys.length
    · obtain ⟨b, off, s, rfl, hc, HX2⟩ := StrsAt.at' hK0 hltk
      have hsz : s.size ≤ maxLen := by rw [← HX2.out]; exact hkz _ (getD_mem hltk)
      replace hc := keep hw hc
      have ki : (k : Int) < (keys.length : Int) := by omega
      have k0' : (0 : Int) ≤ (k : Int) := by omega
      cases hkb : keyB s
      · have hKy : ∀ wz, Calls Tryz.prog 56 #[.string s] wz fun e w' => e = .returned (.bool false) ∧ wz = w' := fun wz => by
          have := refKey_any s wz hsz
          rw [hkb] at this
          exact this
        clear hkb
        go_wp2
        go_quiet ((go_at_call 56; exact quiet_left (hKy _)))
        go_wp2
        go_ret2
        exact rcs_no h0.out HX.out _ (below_drewN hw _)
      · have hKy : ∀ wz, Calls Tryz.prog 56 #[.string s] wz fun e w' => e = .returned (.bool true) ∧ wz = w' := fun wz => by
          have := refKey_any s wz hsz
          rw [hkb] at this
          exact this
        clear hkb
        by_cases hk0 : k = 0
        · have hg : decide (0 < k) = false := by rw [decide_eq_false_iff_not]; omega
          clear hk0
          go_wp2
          go_quiet ((go_at_call 56; exact quiet_left (hKy _)))
          go_wp2
          go_roundw
          case rel => exact ⟨k + 1, by omega, by go_num, below_drewN hw _⟩
          case measure => simp [intOf]; omega
        · obtain ⟨b', off', y, e, hc', HY⟩ := StrsAt.at' hK0 (k := k - 1) (by omega)
          injection e with e
          injection e with e1 e2
          subst e1 e2
          replace hc' := keep hw hc'
          have hg : decide (0 < k) = true := by rw [decide_eq_true_iff]; omega
          have hi : ((k : Int) - 1).toNat = k - 1 := by omega
          have hk1 : 1 ≤ k := by omega
          have hk1i : (1 : Int) ≤ (k : Int) := by omega
          have hk2i : (k : Int) - 1 < (keys.length : Int) := by omega
          have hkm : Hid (k + 1 ≤ keys.length) := by show _ ≤ _; omega
          have hkn' := Lib.hid hkn
          cases hl' : (Op.bytesLess s.toList y.toList || s.toList == y.toList)
          · clear hk0
            go_wp2
            go_quiet ((go_at_call 56; exact quiet_left (hKy _)))
            go_wp2
            go_roundw
            case rel => exact ⟨k + 1, hkm.out, by have := hkm.out; have := hkn'.out; go_num, below_drewN hw _⟩
            case measure => have := hkm.out; simp [intOf]; omega
          · clear hk0
            go_wp2
            go_quiet ((go_at_call 56; exact quiet_left (hKy _)))
            go_wp2
            go_ret2
            exact rcs_no h0.out HX.out _ (below_drewN hw _)
    · have hkeq : ¬ ((k : Int) < (keys.length : Int)) := by omega
      by_cases hz : keys.length = 0
      · have hz2 : ((keys.length : Int) == 0) = true := by rw [beq_iff_eq]; omega
        clear hltk
        go_wp2
        go_ret2
        exact rcs_no h0.out HX.out _ hw
      have hz2 : ((keys.length : Int) == 0) = false := by rw [beq_eq_false_iff_ne]; omega
      by_cases h6 : 6 < keys.length
      · have h62 : (6 : Int) < (keys.length : Int) := by omega
        clear hltk
        go_wp2
        go_ret2
        exact rcs_no h0.out HX.out _ hw
      have h62 : ¬ ((6 : Int) < (keys.length : Int)) := by omega
      have hWr := H.out.later hw
      have h3 := ((hWr.s3 3).setk KA keys kc (fun w' hb => hKs w' (((hw.mono hB).trans ((out_set21 wr p 3 _).below hWr.hB (fun k e => by subst e; exact (hWr.lt _ hWr.hp).1))).trans hb))).s14 18446744073709551615
      obtain ⟨w5, e5⟩ : ∃ w5, ((wr.setCell ⟨p, 3, none⟩ (.int .i64 3)).setCell ⟨p, 13, none⟩ (.slice KA keys.length kc)).setCell ⟨p, 14, none⟩ (.int .u64 ((18446744073709551615 : Nat) : Int)) = w5 := ⟨_, rfl⟩
      rw [e5] at h3
      have e5' : ((wr.setCell ⟨p, 3, none⟩ (.int .i64 3)).setCell ⟨p, 13, none⟩ (.slice KA keys.length kc)).setCell ⟨p, 14, none⟩ (.int .u64 18446744073709551615) = w5 := e5
      have ho5 : Out O wr w5 := by rw [← e5]; exact rc_out hWr.hp (rc_out hWr.hp (rc_out hWr.hp (Out.refl _ _)))
      obtain ⟨_, _, _, g3, _, _, _, _, _, _, _, _, _, g13, g14⟩ := hWr.cs
      have f3b := hWr.fz 3
      have f13b := hWr.fz 13
      have f14b := hWr.fz 14
      obtain ⟨k0, k1, _⟩ := h3.cs
      have hb5 : Below B wr w5 := ho5.below hWr.hB fun k hk => (hWr.lt k hk).1
      have hbw5 : Below B w w5 := (hw.mono hB).trans hb5
      have how5 : Out O w w5 := (Out.of_below hw).trans' ho5
      have hA5 : RcAt w5 B p K { x with st := 3, KA := KA, keys := keys, kc := kc, stamp := 18446744073709551615 } O := ⟨_, _, _, h3⟩
      have hx5 : RcOK K.c n { x with st := 3, KA := KA, keys := keys, kc := kc, stamp := 18446744073709551615 } := ⟨HX.out.an, HX.out.rn, HX.out.wn, HX.out.ag, HX.out.ak, HX.out.rk, HX.out.wk, hkn, hkz⟩
      obtain ⟨x5, hx5e⟩ : ∃ x5, ({ x with st := 3, KA := KA, keys := keys, kc := kc, stamp := 18446744073709551615 } : RcD) = x5 := ⟨_, rfl⟩
      rw [hx5e] at hA5 hx5
      have HG : Hid (Calls Tryz.prog 114 #[.agg #[.slice K.A K.c.reps.length K.ca, .slice K.B K.c.bnds.length K.cb], .slice KA keys.length kc] w5 (IntsPostF w5 (groupsL K.c keys))) := refGroupsF_any K.c keys K.A K.B KA K.ca K.cb kc w5 (hC _ hbw5) (hKs _ hbw5) (by omega)
      obtain ⟨L, hL⟩ : ∃ L, groupsL K.c keys = L := ⟨_, rfl⟩
      have hLm : Hid (∀ g ∈ L, 0 ≤ g ∧ g.toNat < K.c.reps.length) := fun g hg => by rw [← hL] at hg; exact groupsL_mem hg
      have hLn : L.length ≤ 4 := by
        have h1 : L.length ≤ K.c.reps.length := by
          rw [← hL, groupsL, if_pos hf]
          exact groupsTo_length _ _ _
        have := (formed_len hf).2.1
        omega
      rw [hL] at HG
      obtain ⟨i0, hi, hz0, hz1, hz2'⟩ := info_parts info_rsnd3
      replace ho5 := Lib.hid ho5
      replace how5 := Lib.hid how5
      replace hA5 := Lib.hid hA5
      replace hx5 := Lib.hid hx5
      have hbw5' := Lib.hid hbw5
      clear hWr h3 hb5 hbw5 hltk hz h6 e5 hx5e hL
      go_wp2_with (go_at_call 114; refine HG.out.mono ?_; rintro e w9 ⟨I, ci, rfl, hI, hb9, hIf⟩)
      replace hb9 := Lib.hid hb9
      have hA9 := Lib.hid (hA5.out.later hb9.out)
      have hIf' := Lib.hid hIf
      go_loopw [7, 9] (fun v i wr2 => ∃ k2 : Nat, k2 ≤ L.length ∧ i = .int .i64 k2 ∧ Hid (∃ y Ok l, RWantSt w9 wr2 B p K O x5 y v n k2 Ok l)) (fun _ i _ => L.length - (intOf i).toNat)
      case atStart => exact ⟨0, Nat.zero_le _, rfl, Lib.hid ⟨_, _, _, RWantSt.start hA9.out hx5.out⟩⟩
      case round =>
        obtain ⟨k2, hk2, rfl, HS⟩ := hrel
        obtain ⟨y, Ok, l, hS⟩ := HS.out
        by_cases hltk2 : k2 < L.length
        · obtain ⟨gb, goff, g, rfl, gc, GX⟩ := IntsAt.at' hI hltk2
          have hg2 := hLm.out g (by rw [← GX.out]; exact getD_mem hltk2)
          obtain ⟨m, rfl⟩ := Int.eq_ofNat_of_zero_le hg2.1
          have hm : m < K.c.reps.length := by have := hg2.2; simpa using this
          replace gc := hS.out.cell gc (fun e => by have h2 : w5.heap.size ≤ gb := hIf'.out _ rfl; have h3 : gb < w5.heap.size := (hA5.out.lt' _ e).2; omega)
          obtain ⟨A3, k3, rfl⟩ := own_form hS.own
          have hmx : Hid (l.length ≤ 100) := by have := hS.sn; show _ ≤ _; omega
          have hWant : Hid (Calls Tryz.prog 110 #[.pointer (some ⟨p, 0, none⟩), .int .i64 (m : Int), .string ⟨#[]⟩, .int .u64 0] wr (WantR wr B p K (rcWant y m noStr 0) Ok)) :=
            rcWant_any hS.c (fun w' hb => hC w' ((hbw5'.out.trans (hb9.out.mono (Nat.le_trans hB how5.out.size))).trans ((hS.out.below hS.b (fun k hk => (hA9.out.lt' k hk).1)).trans hb))) hf m noStr 0 hm noStr_sz (by have := hS.an; have := hn'.out; omega)
          have hown := hS.own
          have hap := Lib.hid hS.ap
          have hsz9 := hS.out.size
          replace hS := Lib.hid hS
          have hmH := Lib.hid hm
          have hk2n : k2 < 4 := by omega
          have hL2 : Hid (k2 + 1 ≤ L.length) := by show _ ≤ _; omega
          clear GX hg2
          have ki : (k2 : Int) < (L.length : Int) := by omega
          have k0i : (0 : Int) ≤ (k2 : Int) := by omega
          go_wp2_with (first
            | (go_at_call 110; refine hWant.out.mono ?_; rintro e w4 ⟨sv, rfl, hm4, hA4, ho4⟩; have hown4 := Lib.hid (ho4.row hown hap.out); replace hA4 := Lib.hid hA4; have hsz4 := ho4.size; replace ho4 := Lib.hid ho4; replace hm4 := Lib.hid hm4)
            | (refine wpList_buildSlice1 rfl 118 166 _ rfl sv.vs rfl _ Tryz.underlying118 info_rsnd (by rw [snd_size]; omega) (by rw [snd_size]; omega) (zero_rsnd _) ?_; obtain ⟨w6, e6, hb6, hs6, hr6⟩ := boxed w4 sv.vs 166; rw [e6])
            | (at_builtin; refine wpList_append_own_at _ rfl _ _ 118 rfl w9.heap.size 166 i0 _ 35 376 Tryz.underlying118 hi hz0 hz1 hz2' rfl (by decide) _ _ _ rfl (own_keep hown4.out hb6) ⟨w4.heap.size, 0, none⟩ 1 1 sv.vs.toList rfl rfl (World.news_of_block hr6) (one_cell_snd _) (le_maxLen (by have := hmx.out; omega)) (by have := hmx.out; omega) (Nat.le_trans hsz9 (Nat.le_trans hsz4 hb6.size)) ?_; intro v7 w7 HO7 hg7 _ hv7; have hS7 := Lib.hid (hS.out.step (by omega) hmH.out noStr_sz hA4.out ho4.out hb6 hm4.out HO7 hg7 hv7); clear HO7 hg7 hv7))
          go_roundw
          case rel => exact ⟨k2 + 1, hL2.out, by go_num, Lib.hid ⟨_, _, _, hS7.out⟩⟩
          case measure => have := hL2.out; simp [intOf]; omega
        · have hk2i : ¬ ((k2 : Int) < (L.length : Int)) := by omega
          have hk2n : k2 ≤ 4 := by omega
          replace hS := Lib.hid hS
          go_wp2
          go_ret2
          obtain ⟨f1, f2⟩ := hS.out.done (how5.out.trans' (Out.of_below hb9.out)) (fun k hk => .inl hk) hB hlt.out
          exact ⟨_, 0, rfl, f1, f2⟩
end
end Go.Proofs.YtjgloipgnnigmaaGreatDoor
