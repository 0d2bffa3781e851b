/- The client's submit. -/
import Derived.Test.YtjgloipgnnigmaaGreatDoorJ10
import Derived.Test.YtjgloipgnnigmaaGreatDoorJ8
import Derived.Test.YtjgloipgnnigmaaGreatDoorCliTxn21
import Derived.Test.YtjgloipgnnigmaaGreatDoorJ7
import Derived.Test.YtjgloipgnnigmaaGreatDoorJ4
import Derived.Deep.RegionLaw
import Derived.Deep.RegionHeld3
import Derived.Test.YtjgloipgnnigmaaGreatDoorJ12
import Derived.Test.YtjgloipgnnigmaaGreatDoorJ9
import Derived.Test.YtjgloipgnnigmaaGreatDoorJ5
set_option linter.unusedVariables false
set_option linter.unusedSimpArgs false
namespace Go.Proofs.YtjgloipgnnigmaaGreatDoor
open Go.RowKit Go.Shelf Go.Sort

def subRow (c : Cfg) (t : Tx) (g : Int) (j : Nat) : List SndD := (List.range j).map fun (i : Nat) => ⟨placeZ c g (i : Int), .submit t⟩
theorem subRow_succ (c : Cfg) (t : Tx) (g : Int) (j : Nat) : subRow c t g (j + 1) = subRow c t g j ++ [⟨placeZ c g (j : Int), .submit t⟩] := by simp [subRow, List.range_succ]
def subTo (c : Cfg) (t : Tx) (L : List Int) : List SndD := L.flatMap fun g => subRow c t g (repN c g.toNat)
theorem subTo_take {c : Cfg} {t : Tx} {L : List Int} {k : Nat} {g : Int} (hk : k < L.length) (e : L.getD k 0 = g) : subTo c t (L.take (k + 1)) = subTo c t (L.take k) ++ subRow c t g (repN c g.toNat) := by
  have : L[k] = g := by rw [← e, getD_eq L 0 hk]
  rw [List.take_succ_eq_append_getElem hk, this]
  simp [subTo]
theorem submitD_to (c : Cfg) (ses : Int) (x : CliD) : submitD c ses x = subTo c (txnD ses x) (groupsT c (txnD ses x)) := rfl
theorem groupsT_at {c : Cfg} {t : Tx} {k : Nat} (hk : k < (groupsT c t).length) : ∃ m : Nat, m < c.reps.length ∧ (groupsT c t).getD k 0 = (m : Int) := by
  have hm := getD_mem (d := (0 : Int)) hk
  generalize (groupsT c t).getD k 0 = g at hm
  unfold groupsT at hm
  split at hm
  · unfold groupsL at hm
    split at hm
    · simp only [groupsTo, List.mem_map, List.mem_filter, List.mem_range] at hm
      obtain ⟨m, ⟨h1, _⟩, h2⟩ := hm
      exact ⟨m, h1, h2.symm⟩
    · cases hm
  · cases hm
theorem groupsT_len (c : Cfg) (t : Tx) : (groupsT c t).length ≤ c.reps.length := by
  unfold groupsT
  split
  · unfold groupsL
    split
    · exact groupsTo_length _ _ _
    · exact Nat.zero_le _
  · exact Nat.zero_le _
theorem submit_lies {w : World} {t : Tx} {A B : Option Addr} (h : TxAt w t A B) (ca cb : Nat) : MsgAt w (submitM t A B ca cb) :=
  ⟨noTx_lies w, h, fun _ hi => absurd hi (Nat.not_lt_zero _), Nat.zero_le _, noVal_good, Nat.zero_le _⟩
/-- What was submitted so far. -/
def SubSt (w : World) (base : Nat) (v : Value) (t : Tx) (A B : Option Addr) (ca cb : Nat) (d : List SndD) (n : Nat) : Prop :=
  ∃ l, w.ownsRow base 81 35 v l.length (sndCells l) ∧ SndsIs l d ∧ (∀ s ∈ l, s.m = submitM t A B ca cb) ∧ l.length ≤ n
theorem SubSt.snoc {w' : World} {base : Nat} {v' : Value} {t : Tx} {A B : Option Addr} {ca cb n : Nat} {d : List SndD} {l : List SndX} (hi : SndsIs l d) (hm : ∀ s ∈ l, s.m = submitM t A B ca cb) (hn : l.length ≤ n) (z : Int)
    (hr : w'.ownsRow base 81 35 v' (l.length + 1) (sndCells l ++ (⟨z, submitM t A B ca cb⟩ : SndX).vs.toList)) : SubSt w' base v' t A B ca cb (d ++ [⟨z, .submit t⟩]) (n + 1) := by
  refine ⟨l ++ [⟨z, submitM t A B ca cb⟩], ?_, hi.snoc (.submit _ _ _ _ _ _), ?_, by simp; exact hn⟩
  · rw [sndCells_snoc, List.length_append]; exact hr
  · intro s hs
    rcases List.mem_append.1 hs with q | q
    · exact hm s q
    · rw [List.mem_singleton.1 q]
theorem SubSt.mono {w : World} {base : Nat} {v : Value} {t : Tx} {A B : Option Addr} {ca cb n n' : Nat} {d : List SndD} (h : SubSt w base v t A B ca cb d n) (hn : n ≤ n') : SubSt w base v t A B ca cb d n' := by
  obtain ⟨l, a, b, c, e⟩ := h
  exact ⟨l, a, b, c, Nat.le_trans e hn⟩
theorem sub_lit (z : Int) (t : Tx) (A5 A6 : Option Addr) (k5 k6 : Nat) : ([.int .i64 z, .int .i64 8, .int .u32 0, .int .i64 0, .int .i64 0, .bool false, .int .u32 0, .int .i64 0, .int .i64 0, .int .i64 0, .int .i64 0, .slice none 0 0, .slice none 0 0, .int .i64 0, .int .i64 0, .int .i64 0, .int .u64 0, .bool false, .int .i64 t.ses, .int .i64 t.seq, .slice A5 t.rds.length k5, .slice A6 t.wrs.length k6, .int .i64 0, .int .i64 0, .int .i64 0, .int .u64 0, .bool false, .int .i64 0, .string ⟨#[]⟩, .int .u64 0, .int .i64 0, .int .u64 0, .string ⟨#[]⟩, .int .i64 0, .slice none 0 0] : List Value) = (⟨z, submitM t A5 A6 k5 k6⟩ : SndX).vs.toList := rfl
theorem sub_one (z : Int) (t : Tx) (A5 A6 : Option Addr) (k5 k6 : Nat) : ∀ u ∈ ([.int .i64 z, .int .i64 8, .int .u32 0, .int .i64 0, .int .i64 0, .bool false, .int .u32 0, .int .i64 0, .int .i64 0, .int .i64 0, .int .i64 0, .slice none 0 0, .slice none 0 0, .int .i64 0, .int .i64 0, .int .i64 0, .int .u64 0, .bool false, .int .i64 t.ses, .int .i64 t.seq, .slice A5 t.rds.length k5, .slice A6 t.wrs.length k6, .int .i64 0, .int .i64 0, .int .i64 0, .int .u64 0, .bool false, .int .i64 0, .string ⟨#[]⟩, .int .u64 0, .int .i64 0, .int .u64 0, .string ⟨#[]⟩, .int .i64 0, .slice none 0 0] : List Value), u.oneCell' = true := by
  rw [sub_lit]
  exact one_cell_snd _
set_option maxRecDepth 100000 in
set_option maxHeartbeats 8000000 in
theorem submit_in {w : World} {p : Nat} {c : Cfg} {t : Tx} {rb roff : Nat} {Bd : Option Addr} {ca cb : Nat} (c0 : w.cell? ⟨p, 0, none⟩ = some (.slice (some ⟨rb, roff, none⟩) c.reps.length ca)) (c1 : w.cell? ⟨p, 1, none⟩ = some (.slice Bd c.bnds.length cb))
    (hC : CfgAt w c (some ⟨rb, roff, none⟩) Bd) (hf : formedB c = true) (hca : c.reps.length ≤ ca) (hT : Tabs w)
    (HTx : Hid (∀ wz, Below w.heap.size w wz → Calls Tryz.prog 24 #[.pointer (some ⟨p, 0, none⟩)] wz (TxnPost wz t))) :
    Calls Tryz.prog 42 #[.pointer (some ⟨p, 0, none⟩)] w (SubPost w (subTo c t (groupsT c t))) := by
  have hl4 := (formed_len hf).2.1
  obtain ⟨i0, hi, hz0, hz1, hz2⟩ := info_parts info_snd3
  obtain ⟨L, hL⟩ : ∃ L, groupsT c t = L := ⟨_, rfl⟩
  have hmem : Hid (∀ k, k < L.length → ∃ m : Nat, m < c.reps.length ∧ L.getD k 0 = (m : Int)) := by
    intro k hk
    subst hL
    exact groupsT_at hk
  have hLn : L.length ≤ 4 := by have := groupsT_len c t; rw [hL] at this; omega
  have HG : Hid (∀ wz A' B' ca' cb', CfgAt wz c (some ⟨rb, roff, none⟩) Bd → TxAt wz t A' B' → Tabs wz → Calls Tryz.prog 86 #[.agg #[.slice (some ⟨rb, roff, none⟩) c.reps.length ca, .slice Bd c.bnds.length cb], .agg #[.int .i64 t.ses, .int .i64 t.seq, .slice A' t.rds.length ca', .slice B' t.wrs.length cb']] wz (IntsPost wz L)) := by
    intro wz A' B' ca' cb' h1 h2 h3
    rw [← hL]
    exact txGroups_any c t _ _ _ _ _ _ _ _ wz h1 h2 h3
  rw [hL]
  clear hL
  replace hf := Lib.hid hf
  replace hLn := Lib.hid hLn
  replace hl4 := Lib.hid hl4
  replace hca := Lib.hid hca
  go_enter Tryz.func42, Tryz.ntmps42
  go_wp2_with (first
    | (go_at_call 24; refine (HTx.out _ (Below.refl _ _)).mono ?_; rintro e w1 ⟨A5, A6, k5, k6, rfl, hT1, hk5, hk6, hb1⟩; replace hT1 := Lib.hid hT1; clear hk5 hk6)
    | (refine wpList_store_new rfl 37 _ _ rfl w1 #[.int .i64 t.ses, .int .i64 t.seq, .slice A5 t.rds.length k5, .slice A6 t.wrs.length k6] 37 rfl rfl rfl info_txn rfl oneTx ?_; intro w2 hb2 hs2 hr2))
  replace hs2 := Lib.hid hs2
  have HB2 := keepB hb1 hb2
  replace c0 := keep HB2 c0
  replace c1 := keep HB2 c1
  have hC2 := hC.later HB2
  have hTx2 := hT1.out.later hb2
  have hTab2 := hT.later HB2
  obtain ⟨⟨z0, z1, z2, z3⟩, -⟩ := cellsTx hr2
  clear hr2
  go_region_held3 (fun w' => w'.cell? ⟨p, 0, none⟩ = some (.slice (some ⟨rb, roff, none⟩) c.reps.length ca) ∧ w'.cell? ⟨p, 1, none⟩ = some (.slice Bd c.bnds.length cb) ∧ w'.cell? ⟨w1.heap.size, 0, none⟩ = some (.int .i64 t.ses) ∧ w'.cell? ⟨w1.heap.size, 1, none⟩ = some (.int .i64 t.seq) ∧ w'.cell? ⟨w1.heap.size, 2, none⟩ = some (.slice A5 t.rds.length k5) ∧ w'.cell? ⟨w1.heap.size, 3, none⟩ = some (.slice A6 t.wrs.length k6))
    (first | exact ⟨c0, c1, z0, z1, z2, z3⟩ | (with_reducible exact ⟨keep hb3 c0, keep hb3 c1, keep hb3 z0, keep hb3 z1, keep hb3 z2, keep hb3 z3⟩))
    (first
      | (go_at_call 86; refine (HG.out _ _ _ _ _ (hC2.later (below_drew (Below.refl _ _))) (hTx2.later (below_drew (Below.refl _ _))) (hTab2.later (below_drew (Below.refl _ _)))).mono ?_; rintro e w3 ⟨I, ci, rfl, hI, hb⟩; have hb3 : Below w2.heap.size w2 w3 := keepB (below_drew (Below.refl _ _)) hb))
  all_goals
    go_wp2
    replace c0 := keep hb3 c0
    replace c1 := keep hb3 c1
    replace z0 := keep hb3 z0
    replace z1 := keep hb3 z1
    replace z2 := keep hb3 z2
    replace z3 := keep hb3 z3
    have hC3 := Lib.hid (hC2.later hb3)
    have HB3 := Lib.hid (keepB HB2 hb3)
    have hTx3 := Lib.hid (hTx2.later hb3)
    clear hb hb1 hb2 HB2 hTab2 hC2 hTx2 hb3
    go_loopw [3, 17] (fun v i wr => ∃ k : Nat, k ≤ L.length ∧ i = .int .i64 k ∧ Hid (SubSt wr w3.heap.size v t A5 A6 k5 k6 (subTo c t (L.take k)) (5 * k)) ∧ Below w3.heap.size w3 wr) (fun _ i _ => L.length - (intOf i).toNat)
    case atStart => exact ⟨0, Nat.zero_le _, rfl, ⟨[], own_nil _ _ _ _, SndsIs.nil, fun _ h => (by cases h), Nat.zero_le _⟩, Below.refl _ _⟩
    case round =>
      obtain ⟨k, hk, rfl, HS, hw⟩ := hrel
      by_cases hlt : k < L.length
      · obtain ⟨m, hm, em⟩ := hmem.out k hlt
        obtain ⟨gb, goff, g, rfl, gc, GX⟩ := IntsAt.at' hI hlt
        have eg : g = (m : Int) := GX.out.symm.trans em
        subst eg
        replace gc := keep hw gc
        obtain ⟨b9, o9, r, e9, rc, RX⟩ := IntsAt.at' hC3.out.ints hm
        cases e9
        have hrr := formed_range hf.out hm
        rw [RX.out] at hrr
        obtain ⟨q, rfl⟩ := Int.eq_ofNat_of_zero_le (show 0 ≤ r by omega)
        have hq5 : Hid (q ≤ 5) := by have := hrr.2; show _ ≤ _; omega
        have hrep : Hid (repN c ((m : Nat) : Int).toNat = q) := by show repN c m = q; rw [repN, RX.out]; rfl
        replace rc := keep hw rc
        have c0r := keep hw c0
        have hgi : (m : Int) < (c.reps.length : Int) := by omega
        have HN : Hid (subTo c t (L.take (k + 1)) = subTo c t (L.take k) ++ subRow c t (m : Int) q) := by
          show _ = _
          rw [subTo_take hlt em, hrep.out]
        clear hrr em GX RX
        go_wp2
        go_loopw [3, 29] (fun v i wr2 => ∃ j : Nat, j ≤ q ∧ i = .int .i64 j ∧ Hid (SubSt wr2 w3.heap.size v t A5 A6 k5 k6 (subTo c t (L.take k) ++ subRow c t (m : Int) j) (5 * k + j)) ∧ Below w3.heap.size w3 wr2) (fun _ i _ => q - (intOf i).toNat)
        case atStart => exact ⟨0, Nat.zero_le _, rfl, by show SubSt _ _ _ _ _ _ _ _ _ _; rw [show subRow c t (m : Int) 0 = [] from rfl, List.append_nil]; exact HS.out, hw⟩
        case round =>
          obtain ⟨j, hj, rfl, HS2, hw2⟩ := hrel
          by_cases hlt2 : j < q
          · obtain ⟨l, hown, hsi, hsm, hsn⟩ := HS2.out
            obtain ⟨A3, k3, rfl⟩ := own_form hown
            have c0s := keep hw2 c0
            have c1s := keep hw2 c1
            have z0s := keep hw2 z0
            have z1s := keep hw2 z1
            have z2s := keep hw2 z2
            have z3s := keep hw2 z3
            have hCs := Lib.hid (hC3.out.later hw2)
            replace hsn : Hid (l.length ≤ 5 * k + j) := hsn
            replace hsi := Lib.hid hsi
            replace hsm := Lib.hid hsm
            have hmx : Hid (l.length ≤ 100) := by
              have := hsn.out; have := hq5.out; have := hLn.out
              show _ ≤ _; omega
            have hj5 : j < 5 := by have := hq5.out; omega
            have hml : Hid (l.length + 1 ≤ maxLen) := le_maxLen (by have := hmx.out; omega)
            have hmb : Hid ((l.length + 1) * 376 ≤ 140737488355328) := by have := hmx.out; show _ ≤ _; omega
            have hone : Hid (∀ u ∈ ([.int .i64 (placeZ c (m : Int) (j : Int)), .int .i64 8, .int .u32 0, .int .i64 0, .int .i64 0, .bool false, .int .u32 0, .int .i64 0, .int .i64 0, .int .i64 0, .int .i64 0, .slice none 0 0, .slice none 0 0, .int .i64 0, .int .i64 0, .int .i64 0, .int .u64 0, .bool false, .int .i64 t.ses, .int .i64 t.seq, .slice A5 t.rds.length k5, .slice A6 t.wrs.length k6, .int .i64 0, .int .i64 0, .int .i64 0, .int .u64 0, .bool false, .int .i64 0, .string ⟨#[]⟩, .int .u64 0, .int .i64 0, .int .u64 0, .string ⟨#[]⟩, .int .i64 0, .slice none 0 0] : List Value), u.oneCell' = true) := sub_one (placeZ c (m : Int) (j : Int)) t A5 A6 k5 k6
            go_wp2
            go_region_held3 (fun w' => w'.cell? ⟨p, 0, none⟩ = some (.slice (some ⟨rb, roff, none⟩) c.reps.length ca) ∧ w'.cell? ⟨p, 1, none⟩ = some (.slice Bd c.bnds.length cb) ∧ w'.cell? ⟨w1.heap.size, 0, none⟩ = some (.int .i64 t.ses) ∧ w'.cell? ⟨w1.heap.size, 1, none⟩ = some (.int .i64 t.seq) ∧ w'.cell? ⟨w1.heap.size, 2, none⟩ = some (.slice A5 t.rds.length k5) ∧ w'.cell? ⟨w1.heap.size, 3, none⟩ = some (.slice A6 t.wrs.length k6))
              (first | exact ⟨c0s, c1s, z0s, z1s, z2s, z3s⟩ | (with_reducible exact ⟨keep hbP c0s, keep hbP c1s, keep hbP z0s, keep hbP z1s, keep hbP z2s, keep hbP z3s⟩) | (with_reducible exact ⟨keep hB15 c0, keep hB15 c1, keep hB15 z0, keep hB15 z1, keep hB15 z2, keep hB15 z3⟩) | (with_reducible exact ⟨keep (below1 _ _) (keep hbP c0s), keep (below1 _ _) (keep hbP c1s), keep (below1 _ _) (keep hbP z0s), keep (below1 _ _) (keep hbP z1s), keep (below1 _ _) (keep hbP z2s), keep (below1 _ _) (keep hbP z3s)⟩) | (with_reducible exact ⟨keep (below_drew (below1 _ _)) (keep hbP c0s), keep (below_drew (below1 _ _)) (keep hbP c1s), keep (below_drew (below1 _ _)) (keep hbP z0s), keep (below_drew (below1 _ _)) (keep hbP z1s), keep (below_drew (below1 _ _)) (keep hbP z2s), keep (below_drew (below1 _ _)) (keep hbP z3s)⟩))
              (first
                | (go_at_call 87; refine (place_any c (m : Int) (j : Int) _ _ ca cb _ (hCs.out.later (below_drew (Below.refl _ _))) hca.out).mono ?_; rintro e wP ⟨rfl, hbP0⟩; have hbP : Below wr.heap.size wr wP := keepB (below_drew (Below.refl _ _)) hbP0)
                | (refine ready_append_own_at rfl _ _ 50 rfl w3.heap.size 81 i0 _ 35 376 Tryz.underlying50 hi hz0 hz1 hz2 rfl (Nat.succ_pos 34) (.slice A3 l.length k3) l.length (sndCells l) rfl (own_keep hown (keepB hbP (below1 wP _))) ⟨wP.heap.size, 0, none⟩ 1 1 [.int .i64 (placeZ c (m : Int) (j : Int)), .int .i64 8, .int .u32 0, .int .i64 0, .int .i64 0, .bool false, .int .u32 0, .int .i64 0, .int .i64 0, .int .i64 0, .int .i64 0, .slice none 0 0, .slice none 0 0, .int .i64 0, .int .i64 0, .int .i64 0, .int .u64 0, .bool false, .int .i64 t.ses, .int .i64 t.seq, .slice A5 t.rds.length k5, .slice A6 t.wrs.length k6, .int .i64 0, .int .i64 0, .int .i64 0, .int .u64 0, .bool false, .int .i64 0, .string ⟨#[]⟩, .int .u64 0, .int .i64 0, .int .u64 0, .string ⟨#[]⟩, .int .i64 0, .slice none 0 0] rfl rfl (World.news_of_block (heap_alloc_new wP _)) hone.out hml.out hmb.out (Nat.le_trans hw2.size (Nat.le_trans hbP.size (below1 wP _).size)) ?_; intro v15 w15 HO15 hg15 hv15; obtain ⟨A15, c15, rfl⟩ := own_form HO15; have hB15 : Below w3.heap.size w3 w15 := own_below (keepB (keepB hw2 hbP) (below1 wP _)) (Nat.le_refl _) (own_keep hown (keepB hbP (below1 wP _))) hg15; replace HO15 := Lib.hid HO15; clear hg15 hv15)
                | (refine ready_append_own_at rfl _ _ 50 rfl w3.heap.size 81 i0 _ 35 376 Tryz.underlying50 hi hz0 hz1 hz2 rfl (Nat.succ_pos 34) (.slice A3 l.length k3) l.length (sndCells l) rfl (own_keep hown (keepB hbP (below_drew (below1 wP _)))) ⟨wP.heap.size, 0, none⟩ 1 1 [.int .i64 (placeZ c (m : Int) (j : Int)), .int .i64 8, .int .u32 0, .int .i64 0, .int .i64 0, .bool false, .int .u32 0, .int .i64 0, .int .i64 0, .int .i64 0, .int .i64 0, .slice none 0 0, .slice none 0 0, .int .i64 0, .int .i64 0, .int .i64 0, .int .u64 0, .bool false, .int .i64 t.ses, .int .i64 t.seq, .slice A5 t.rds.length k5, .slice A6 t.wrs.length k6, .int .i64 0, .int .i64 0, .int .i64 0, .int .u64 0, .bool false, .int .i64 0, .string ⟨#[]⟩, .int .u64 0, .int .i64 0, .int .u64 0, .string ⟨#[]⟩, .int .i64 0, .slice none 0 0] rfl rfl (World.news_of_block (heap_alloc_new wP _)) hone.out hml.out hmb.out (Nat.le_trans hw2.size (Nat.le_trans hbP.size (below_drew (below1 wP _)).size)) ?_; intro v15 w15 HO15 hg15 hv15; obtain ⟨A15, c15, rfl⟩ := own_form HO15; have hB15 : Below w3.heap.size w3 w15 := own_below (keepB (keepB hw2 hbP) (below_drew (below1 wP _))) (Nat.le_refl _) (own_keep hown (keepB hbP (below_drew (below1 wP _)))) hg15; replace HO15 := Lib.hid HO15; clear hg15 hv15))
            all_goals
              go_wp2
              go_roundw
              case rel =>
                have hS15 := SubSt.snoc hsi.out hsm.out hsn.out (placeZ c (m : Int) (j : Int)) ((sub_lit (placeZ c (m : Int) (j : Int)) t A5 A6 k5 k6) ▸ HO15.out)
                exact ⟨j + 1, hlt2, by go_num, by show SubSt _ _ _ _ _ _ _ _ _ _; rw [subRow_succ, ← List.append_assoc]; exact hS15, hB15⟩
              case measure => simp [intOf]; omega
          · have ej : j = q := by omega
            have HS3 : Hid (SubSt wr w3.heap.size u3 t A5 A6 k5 k6 (subTo c t (L.take (k + 1))) (5 * (k + 1))) := by
              show SubSt _ _ _ _ _ _ _ _ _ _
              rw [HN.out, ← ej]
              exact HS2.out.mono (by have := hq5.out; omega)
            clear ej
            have hk4 : k < 4 := by have := hLn.out; omega
            go_wp2
            go_roundw
            case rel => exact ⟨k + 1, hlt, by go_num, HS3.out, hw2⟩
            case measure => simp [intOf]; omega
      · have ek : k = L.length := by omega
        have HS3 : Hid (SubSt wr w3.heap.size u3 t A5 A6 k5 k6 (subTo c t L) (5 * k)) := by
          have := HS.out
          rw [ek, List.take_length] at this
          rw [ek]
          exact this
        clear ek
        go_wp2
        go_ret
        obtain ⟨l, h1, h2, h3, _⟩ := HS3.out
        refine ⟨_, l, rfl, ⟨World.ownsRow.mono h1 HB3.out.size, h2, fun s hs => ?_⟩, keepB HB3.out hw⟩
        rw [h3 s hs]
        exact submit_lies (hTx3.out.later hw) _ _
section
variable {w : World} {B p : Nat} {K : CliK} {x : CliD} {O : Nat → Prop}
/-- What submits: at a client whose configuration lies in memory. -/
theorem submit_any (h : CliAt w B p K x O) (hz : CliSz x) (hr : x.rds.length ≤ 6) (hw : x.wrs.length ≤ 6) (hC : CfgAt w K.c K.A K.B) (hf : formedB K.c = true) (hca : K.c.reps.length ≤ K.ca) (hT : Tabs w) :
    Calls Tryz.prog 42 #[.pointer (some ⟨p, 0, none⟩)] w (SubPost w (submitD K.c K.ses x)) := by
  have hTx : Hid (∀ wz, Below w.heap.size w wz → Calls Tryz.prog 24 #[.pointer (some ⟨p, 0, none⟩)] wz (TxnPost wz (txnD K.ses x))) := fun wz hb => txn_any (h.later hb) hz hr hw
  obtain ⟨vr, vw, va, vk, h⟩ := h
  obtain ⟨c0, c1, _⟩ := h.cs
  have hl := (formed_len hf).1
  obtain ⟨rb, roff, r0, eA, _⟩ := IntsAt.at' hC.ints (show 0 < K.c.reps.length by omega)
  rw [eA] at c0 hC
  rw [submitD_to]
  exact submit_in c0 c1 hC hf hca hT hTx
end
end Go.Proofs.YtjgloipgnnigmaaGreatDoor
/- The client's Commit and Tick, with what they submit. -/
namespace Go.Proofs.YtjgloipgnnigmaaGreatDoor
open Go.RowKit Go.Shelf Go.Sort

section
variable {w : World} {B p N : Nat} {K : CliK} {x : CliD} {O : Nat → Prop}
theorem commit_all (h : CliAt w B p K x O) (hB : B ≤ w.heap.size) (hC : ∀ w', Below B w w' → CfgAt w' K.c K.A K.B) (hT : ∀ w', Below B w w' → Tabs w') (hf : formedB K.c = true) (hca : K.c.reps.length ≤ K.ca) (hI : CliInv K.c N x) (hz : CliSz x) :
    Calls Tryz.prog 11 #[.pointer (some ⟨p, 0, none⟩)] w (SndPost w B p K O (commitD x) (commitL K.c K.ses x) (commitE x)) :=
  commit_any h hB hI fun wz hA ho => submit_any hA ⟨hz.r, hz.w, hz.a, hz.k⟩ hI.rn hI.wn (hC wz (ho.below hB fun k hk => (h.lt' k hk).1)) hf hca (hT wz (ho.below hB fun k hk => (h.lt' k hk).1))
theorem tick_all (h : CliAt w B p K x O) (hB : B ≤ w.heap.size) (hC : ∀ w', Below B w w' → CfgAt w' K.c K.A K.B) (hT : ∀ w', Below B w w' → Tabs w') (hf : formedB K.c = true) (hca : K.c.reps.length ≤ K.ca) (hI : CliInv K.c N x) (hz : CliSz x) :
    Calls Tryz.prog 17 #[.pointer (some ⟨p, 0, none⟩)] w (TickPost w B p K O (tick0 x) (tickL K.c K.ses x)) :=
  tick_any h hB hC hf hca hI.tn (by have := hI.an; omega) (fun a ha => ⟨hI.ag a ha, hz.a a ha⟩) fun wz hA ho => submit_any hA ⟨hz.r, hz.w, hz.a, hz.k⟩ hI.rn hI.wn (hC wz (ho.below hB fun k hk => (h.lt' k hk).1)) hf hca (hT wz (ho.below hB fun k hk => (h.lt' k hk).1))
end
end Go.Proofs.YtjgloipgnnigmaaGreatDoor
/- Asking many things in a loop: the client, and the row of what is sent. -/
namespace Go.Proofs.YtjgloipgnnigmaaGreatDoor
open Go.RowKit Go.Shelf Go.Sort

/-- Behind n asks since w3: the client in blocks of its own, the row of sends beside it. -/
def WantSt (w3 wr : World) (B p : Nat) (K : CliK) (O3 : Nat → Prop) (vk : Value) (y : CliD) (v : Value) (d : List SndD) (n : Nat) : Prop :=
  ∃ (Ok : Nat → Prop) (l : List SndX), CliV wr B p K y vk Ok ∧ (∀ g, Ok g → O3 g ∨ w3.heap.size ≤ g) ∧ wr.ownsRow w3.heap.size 81 35 v l.length (sndCells l) ∧ SndsIs l d ∧ (∀ s ∈ l, ∀ wz, MsgAt wz s.m) ∧ l.length ≤ n ∧ (∀ g, v.ownBlock = some g → ¬ Ok g) ∧ Out O3 w3 wr
section
variable {w w3 wr w4 w6 w7 : World} {B p n : Nat} {K : CliK} {y y' : CliD} {v v7 vk : Value} {O O3 Ok : Nat → Prop} {d : List SndD}
theorem WantSt.start (h : CliV w3 B p K y vk O3) : WantSt w3 w3 B p K O3 vk y (.slice none 0 0) [] 0 :=
  ⟨O3, [], h, fun _ h => .inl h, own_nil _ _ _ _, SndsIs.nil, fun _ h => (by cases h), Nat.le_refl _, fun g hg => (by cases hg), Out.refl _ _⟩
theorem WantSt.step {l : List SndX} {s : SndX} {z : SndD} (hA : CliV wr B p K y vk Ok) (hsub : ∀ g, Ok g → O3 g ∨ w3.heap.size ≤ g) (hown : wr.ownsRow w3.heap.size 81 35 v l.length (sndCells l)) (hsi : SndsIs l d) (hsm : ∀ s ∈ l, ∀ wz, MsgAt wz s.m) (hsn : l.length ≤ n) (hap : ∀ g, v.ownBlock = some g → ¬ Ok g) (hout : Out O3 w3 wr)
    (hA4 : CliV w4 B p K y' vk (ext Ok wr w4)) (ho4 : Out Ok wr w4) (hb6 : Below w4.heap.size w4 w6) (hz : SndIs s z) (hm : ∀ wz, MsgAt wz s.m)
    (HO7 : w7.ownsRow w3.heap.size 81 35 v7 (l.length + 1) (sndCells l ++ s.vs.toList)) (hg7 : w6.grownBy w7 v.ownBlock) (hv7 : v7.ownBlock = v.ownBlock ∨ v7.ownBlock = some w6.heap.size) :
    WantSt w3 w7 B p K O3 vk y' v7 (d ++ [z]) (n + 1) := by
  have hlt : ∀ g, v.ownBlock = some g → w3.heap.size ≤ g ∧ g < wr.heap.size := fun g hg => hown.lt g hg
  have hO := hA.toAt.lt'
  have s4 := ho4.size
  have s6 := hb6.size
  have nin : ∀ g, v.ownBlock = some g → ¬ ext Ok wr w4 g := fun g hg e => e.elim (hap g hg) (fun q => by have := (hlt g hg).2; omega)
  have hx4 : Out O3 w3 w4 := hout.trans (ho4.mono fun k hk => (hsub k hk).elim .inl (fun q => .inr ⟨q, (hO k hk).2⟩))
  refine ⟨ext Ok wr w4, l ++ [s], ?_, ?_, ?_, hsi.snoc hz, ?_, by simp; exact hsn, ?_, ?_⟩
  · exact (hA4.later hb6).out (Out.of_grown (O := fun k => v.ownBlock = some k) hg7 (fun k e => e)) (fun k hk e => nin k e hk)
  · intro g hg
    rcases hg with q | q
    · exact hsub g q
    · exact .inr (Nat.le_trans hout.size q.1)
  · rw [sndCells_snoc, List.length_append]; exact HO7
  · intro q hq
    rcases List.mem_append.1 hq with q1 | q1
    · exact hsm q q1
    · rw [List.mem_singleton.1 q1]; exact hm
  · intro g hg
    rcases hv7 with e | e
    · exact nin g (by rw [← e]; exact hg)
    · rw [hg] at e
      cases e
      rintro (q | q)
      · have := (hO _ q).2; omega
      · omega
  · exact (hx4.trans' (Out.of_below hb6)).trans (Out.of_grown hg7 fun k e => .inr ⟨(hlt k e).1, by have := (hlt k e).2; omega⟩)
theorem WantSt.done (h : WantSt w3 wr B p K O3 vk y v d n) (h3 : Out O w w3) (hO3 : ∀ k, O3 k → O k ∨ w.heap.size ≤ k) (hB : B ≤ w.heap.size) (hlt : ∀ k, O k → B ≤ k ∧ k < w.heap.size) :
    ∃ l, SndsAt wr w.heap.size v l d ∧ CliAt wr B p K y (ext O w wr) ∧ Out O w wr := by
  obtain ⟨Ok, l, hA, hsub, hown, hsi, hsm, hsn, hap, hout⟩ := h
  have hO := hA.toAt.lt'
  have s3 := h3.size
  have sr := hout.size
  refine ⟨l, ⟨World.ownsRow.mono hown s3, hsi, fun s hs => hsm s hs _⟩, ?_, ?_⟩
  · obtain ⟨a1, a2, a3, a4, hI⟩ := hA.toAt
    refine ⟨a1, a2, a3, a4, hI.mono (fun k hk => ?_) (fun k hk => ?_)⟩
    · rcases hsub k hk with q | q
      · rcases hO3 k q with q | q
        · exact .inl q
        · exact .inr ⟨q, (hO k hk).2⟩
      · exact .inr ⟨by omega, (hO k hk).2⟩
    · rcases hk with q | q
      · exact ⟨(hlt k q).1, by have := (hlt k q).2; omega⟩
      · exact ⟨by omega, q.2⟩
  · refine ⟨hout.os.trans h3.os, hout.tape.trans h3.tape, hout.output.trans h3.output, Nat.le_trans s3 sr, fun k hk ho => ?_⟩
    rw [hout.block k (by omega) (fun e => (hO3 k e).elim ho (fun q => by omega)), h3.block k hk ho]
end
end Go.Proofs.YtjgloipgnnigmaaGreatDoor
/- command.Same and command.Formed, told loosely: some bool. -/
namespace Go.Proofs.YtjgloipgnnigmaaGreatDoor
open Go.RowKit Go.Shelf

/-- A command: its fields, with the addresses of the rows in it. -/
structure CmdV where
  k : Int
  t : Tx
  A : Option Addr
  B : Option Addr
  ca : Nat
  cb : Nat
  is : Int
  iq : Int
  g : Int
  st : Nat
  y : Bool
def CmdV.vs (x : CmdV) : Array Value := #[.int .i64 x.k, .int .i64 x.t.ses, .int .i64 x.t.seq, .slice x.A x.t.rds.length x.ca, .slice x.B x.t.wrs.length x.cb, .int .i64 x.is, .int .i64 x.iq, .int .i64 x.g, .int .u64 (x.st : Int), .bool x.y]
theorem cmd_cs {w : World} {g : Nat} {x : CmdV} {t : TypeId} (h : w.heap[g]? = some (.cells x.vs t (0, 0))) :
    w.cell? ⟨g, 0, none⟩ = some (.int .i64 x.k) ∧ w.cell? ⟨g, 1, none⟩ = some (.int .i64 x.t.ses) ∧ w.cell? ⟨g, 2, none⟩ = some (.int .i64 x.t.seq) ∧ w.cell? ⟨g, 3, none⟩ = some (.slice x.A x.t.rds.length x.ca) ∧ w.cell? ⟨g, 4, none⟩ = some (.slice x.B x.t.wrs.length x.cb) ∧
    w.cell? ⟨g, 5, none⟩ = some (.int .i64 x.is) ∧ w.cell? ⟨g, 6, none⟩ = some (.int .i64 x.iq) ∧ w.cell? ⟨g, 7, none⟩ = some (.int .i64 x.g) ∧ w.cell? ⟨g, 8, none⟩ = some (.int .u64 (x.st : Int)) ∧ w.cell? ⟨g, 9, none⟩ = some (.bool x.y) := by
  refine ⟨?_, ?_, ?_, ?_, ?_, ?_, ?_, ?_, ?_, ?_⟩ <;> (rw [cell_of_row w g _ _ _ _ h]; rfl)
def cmdEq (a b : CmdV) : Bool := a.k == b.k && idEqB a.is a.iq b.is b.iq && a.g == b.g && (a.st : Int) == (b.st : Int) && a.y == b.y && sameT a.t b.t
set_option maxRecDepth 100000 in
set_option maxHeartbeats 4000000 in
theorem cmdSame_any (a b : CmdV) (w : World) (ha : TxAt w a.t a.A a.B) (hb : TxAt w b.t b.A b.B) : Calls Tryz.prog 138 #[.agg a.vs, .agg b.vs] w fun e w' => e = .returned (.bool (cmdEq a b)) ∧ Below w.heap.size w w' := by
  obtain ⟨W0, eW0, HB0, hsz0, hr0⟩ := boxed w a.vs 39
  obtain ⟨W, eW, HBa, hszA, hrA⟩ := boxed W0 b.vs 39
  have HB := keepB HB0 HBa
  clear hsz0 hszA
  obtain ⟨c0, c1, c2, c3, c4, c5, c6, c7, c8, c9⟩ := cmd_cs (obj_keep hr0 HBa)
  obtain ⟨d0, d1, d2, d3, d4, d5, d6, d7, d8, d9⟩ := cmd_cs hrA
  obtain ⟨bT, hbT⟩ : ∃ r, sameT a.t b.t = r := ⟨_, rfl⟩
  have HS : Hid (Calls Tryz.prog 139 #[.agg #[.int .i64 a.t.ses, .int .i64 a.t.seq, .slice a.A a.t.rds.length a.ca, .slice a.B a.t.wrs.length a.cb], .agg #[.int .i64 b.t.ses, .int .i64 b.t.seq, .slice b.A b.t.rds.length b.ca, .slice b.B b.t.wrs.length b.cb]] W fun e w' => e = .returned (.bool bT) ∧ Below W.heap.size W w') := by
    have := txSame_any a.t b.t a.A a.B b.A b.B a.ca a.cb b.ca b.cb W (ha.later HB) (hb.later HB)
    rw [hbT] at this
    exact this
  obtain ⟨bI, hbI⟩ : ∃ r, idEqB a.is a.iq b.is b.iq = r := ⟨_, rfl⟩
  have hI := eqlId a.is a.iq b.is b.iq
  rw [hbI] at hI
  have HE : Hid (cmdEq a b = (a.k == b.k && bI && a.g == b.g && (a.st : Int) == (b.st : Int) && a.y == b.y && bT)) := by show _ = _; rw [cmdEq, hbI, hbT]
  rw [HE.out]
  clear hr0 hrA ha hb hbI hbT HE
  cases bI
  all_goals
    go_enter Tryz.func138, Tryz.ntmps138
    go_wp2_with (go_at_call 139; refine HS.out.mono ?_; rintro e w1 ⟨rfl, hb⟩)
    all_goals
      go_ret
      first
        | exact ⟨ret_bool (by simp [*]), HB⟩
        | exact ⟨ret_bool (by simp [*]), keepB HB hb⟩
theorem calls_someB {P : Program} {f : FuncId} {args : Array Value} {w : World} {b : Bool} (h : Calls P f args w fun e w' => e = .returned (.bool b) ∧ Below w.heap.size w w') : Calls P f args w (SomeB w) := h.mono fun _ _ ⟨h1, h2⟩ => ⟨_, h1, h2⟩
def noCmd : CmdV := ⟨0, ⟨0, 0, [], []⟩, none, none, 0, 0, 0, 0, 0, 0, false⟩
theorem noTx_lies10 (w : World) : TxAt w ⟨0, 0, [], []⟩ none none :=
  ⟨fun _ hi => absurd hi (Nat.not_lt_zero _), fun _ hi => absurd hi (Nat.not_lt_zero _), fun _ hi => absurd hi (Nat.not_lt_zero _), fun _ hi => absurd hi (Nat.not_lt_zero _), fun _ hi => absurd hi (Nat.not_lt_zero _), Nat.zero_le _, Nat.zero_le _⟩
set_option maxRecDepth 100000 in
set_option maxHeartbeats 4000000 in
theorem cmdFormed_some (a : CmdV) (w : World) (ha : TxAt w a.t a.A a.B) (hT : Tabs w) : Calls Tryz.prog 96 #[.agg a.vs] w (SomeB w) := by
  obtain ⟨W, eW, HB, hsz0, hr0⟩ := boxed w a.vs 39
  clear hsz0
  obtain ⟨c0, c1, c2, c3, c4, c5, c6, c7, c8, c9⟩ := cmd_cs hr0
  have haW := Lib.hid (ha.later HB)
  have hTW := Lib.hid (hT.later HB)
  clear hr0 ha hT
  have HS0 : Hid (∀ wz, Below W.heap.size W wz → Calls Tryz.prog 138 #[.agg #[.int .i64 a.k, .int .i64 a.t.ses, .int .i64 a.t.seq, .slice a.A a.t.rds.length a.ca, .slice a.B a.t.wrs.length a.cb, .int .i64 a.is, .int .i64 a.iq, .int .i64 a.g, .int .u64 (a.st : Int), .bool a.y], .agg #[.int .i64 0, .int .i64 0, .int .i64 0, .slice none 0 0, .slice none 0 0, .int .i64 0, .int .i64 0, .int .i64 0, .int .u64 0, .bool false]] wz (SomeB wz)) := fun wz hb => calls_someB (cmdSame_any a noCmd wz (haW.out.later hb) (noTx_lies10 _))
  have HS1 : Hid (∀ wz, Below W.heap.size W wz → Calls Tryz.prog 138 #[.agg #[.int .i64 a.k, .int .i64 a.t.ses, .int .i64 a.t.seq, .slice a.A a.t.rds.length a.ca, .slice a.B a.t.wrs.length a.cb, .int .i64 a.is, .int .i64 a.iq, .int .i64 a.g, .int .u64 (a.st : Int), .bool a.y], .agg #[.int .i64 1, .int .i64 a.t.ses, .int .i64 a.t.seq, .slice a.A a.t.rds.length a.ca, .slice a.B a.t.wrs.length a.cb, .int .i64 0, .int .i64 0, .int .i64 0, .int .u64 0, .bool false]] wz (SomeB wz)) := fun wz hb => calls_someB (cmdSame_any a ⟨1, a.t, a.A, a.B, a.ca, a.cb, 0, 0, 0, 0, false⟩ wz (haW.out.later hb) (haW.out.later hb))
  have HS2 : Hid (∀ wz, Below W.heap.size W wz → Calls Tryz.prog 138 #[.agg #[.int .i64 a.k, .int .i64 a.t.ses, .int .i64 a.t.seq, .slice a.A a.t.rds.length a.ca, .slice a.B a.t.wrs.length a.cb, .int .i64 a.is, .int .i64 a.iq, .int .i64 a.g, .int .u64 (a.st : Int), .bool a.y], .agg #[.int .i64 2, .int .i64 0, .int .i64 0, .slice none 0 0, .slice none 0 0, .int .i64 a.is, .int .i64 a.iq, .int .i64 a.g, .int .u64 (a.st : Int), .bool false]] wz (SomeB wz)) := fun wz hb => calls_someB (cmdSame_any a ⟨2, ⟨0, 0, [], []⟩, none, none, 0, 0, a.is, a.iq, a.g, a.st, false⟩ wz (haW.out.later hb) (noTx_lies10 _))
  have HS3 : Hid (∀ wz, Below W.heap.size W wz → Calls Tryz.prog 138 #[.agg #[.int .i64 a.k, .int .i64 a.t.ses, .int .i64 a.t.seq, .slice a.A a.t.rds.length a.ca, .slice a.B a.t.wrs.length a.cb, .int .i64 a.is, .int .i64 a.iq, .int .i64 a.g, .int .u64 (a.st : Int), .bool a.y], .agg #[.int .i64 3, .int .i64 0, .int .i64 0, .slice none 0 0, .slice none 0 0, .int .i64 a.is, .int .i64 a.iq, .int .i64 a.g, .int .u64 0, .bool a.y]] wz (SomeB wz)) := fun wz hb => calls_someB (cmdSame_any a ⟨3, ⟨0, 0, [], []⟩, none, none, 0, 0, a.is, a.iq, a.g, 0, a.y⟩ wz (haW.out.later hb) (noTx_lies10 _))
  have HF : Hid (∀ wz, Below W.heap.size W wz → Calls Tryz.prog 97 #[.agg #[.int .i64 a.t.ses, .int .i64 a.t.seq, .slice a.A a.t.rds.length a.ca, .slice a.B a.t.wrs.length a.cb]] wz (SomeB wz)) := fun wz hb => calls_someB (txFormed_any a.t a.A a.B a.ca a.cb wz (haW.out.later hb) (hTW.out.later hb))
  obtain ⟨bq, hq⟩ : ∃ b, decide ((a.st : Int) < 9223372036854775808) = b := ⟨_, rfl⟩
  obtain ⟨bp, hp⟩ : ∃ b, decide ((1 : Int) ≤ (a.st : Int)) = b := ⟨_, rfl⟩
  cases k0 : (a.k == 0)
  case true =>
    clear HS1 HS2 HS3
    have HK : Below W.heap.size W W := Below.refl _ _
    go_enter Tryz.func96, Tryz.ntmps96
    go_wp2_with (first
      | (go_at_call 138; refine (HS0.out _ HK).mono ?_; rintro e w1 ⟨r, rfl, hb⟩; replace HK := keepB HK hb; clear hb)
      | (go_at_call 97; refine (HF.out _ HK).mono ?_; rintro e w1 ⟨r, rfl, hb⟩; replace c0 := keep hb c0; replace c1 := keep hb c1; replace c2 := keep hb c2; replace c3 := keep hb c3; replace c4 := keep hb c4; replace c5 := keep hb c5; replace c6 := keep hb c6; replace c7 := keep hb c7; replace c8 := keep hb c8; replace c9 := keep hb c9; replace HK := keepB HK hb; clear hb; cases r)
      | (go_at_call 98; refine (calls_someB (id_any a.is a.iq _)).mono ?_; rintro e w1 ⟨r, rfl, hb⟩; replace c0 := keep hb c0; replace c1 := keep hb c1; replace c2 := keep hb c2; replace c3 := keep hb c3; replace c4 := keep hb c4; replace c5 := keep hb c5; replace c6 := keep hb c6; replace c7 := keep hb c7; replace c8 := keep hb c8; replace c9 := keep hb c9; replace HK := keepB HK hb; clear hb; cases r)
      | (go_at_call 142; refine (cmdGroup_some a.g _).mono ?_; rintro e w1 ⟨r, rfl, hb⟩; replace c0 := keep hb c0; replace c1 := keep hb c1; replace c2 := keep hb c2; replace c3 := keep hb c3; replace c4 := keep hb c4; replace c5 := keep hb c5; replace c6 := keep hb c6; replace c7 := keep hb c7; replace c8 := keep hb c8; replace c9 := keep hb c9; replace HK := keepB HK hb; clear hb; cases r))
    all_goals
      go_ret
      exact ⟨_, rfl, keepB HB HK⟩
  cases k1 : (a.k == 1)
  case true =>
    clear HS0 HS2 HS3
    have HK : Below W.heap.size W W := Below.refl _ _
    go_enter Tryz.func96, Tryz.ntmps96
    go_wp2_with (first
      | (go_at_call 138; refine (HS1.out _ HK).mono ?_; rintro e w1 ⟨r, rfl, hb⟩; replace HK := keepB HK hb; clear hb)
      | (go_at_call 97; refine (HF.out _ HK).mono ?_; rintro e w1 ⟨r, rfl, hb⟩; replace c0 := keep hb c0; replace c1 := keep hb c1; replace c2 := keep hb c2; replace c3 := keep hb c3; replace c4 := keep hb c4; replace c5 := keep hb c5; replace c6 := keep hb c6; replace c7 := keep hb c7; replace c8 := keep hb c8; replace c9 := keep hb c9; replace HK := keepB HK hb; clear hb; cases r)
      | (go_at_call 98; refine (calls_someB (id_any a.is a.iq _)).mono ?_; rintro e w1 ⟨r, rfl, hb⟩; replace c0 := keep hb c0; replace c1 := keep hb c1; replace c2 := keep hb c2; replace c3 := keep hb c3; replace c4 := keep hb c4; replace c5 := keep hb c5; replace c6 := keep hb c6; replace c7 := keep hb c7; replace c8 := keep hb c8; replace c9 := keep hb c9; replace HK := keepB HK hb; clear hb; cases r)
      | (go_at_call 142; refine (cmdGroup_some a.g _).mono ?_; rintro e w1 ⟨r, rfl, hb⟩; replace c0 := keep hb c0; replace c1 := keep hb c1; replace c2 := keep hb c2; replace c3 := keep hb c3; replace c4 := keep hb c4; replace c5 := keep hb c5; replace c6 := keep hb c6; replace c7 := keep hb c7; replace c8 := keep hb c8; replace c9 := keep hb c9; replace HK := keepB HK hb; clear hb; cases r))
    all_goals
      go_ret
      exact ⟨_, rfl, keepB HB HK⟩
  cases k2 : (a.k == 2)
  case true =>
    clear HS0 HS1 HS3
    cases bq <;> cases bp
    all_goals
      have HK : Below W.heap.size W W := Below.refl _ _
      go_enter Tryz.func96, Tryz.ntmps96
      go_wp2_with (first
        | (go_at_call 138; refine (HS2.out _ HK).mono ?_; rintro e w1 ⟨r, rfl, hb⟩; replace HK := keepB HK hb; clear hb)
        | (go_at_call 97; refine (HF.out _ HK).mono ?_; rintro e w1 ⟨r, rfl, hb⟩; replace c0 := keep hb c0; replace c1 := keep hb c1; replace c2 := keep hb c2; replace c3 := keep hb c3; replace c4 := keep hb c4; replace c5 := keep hb c5; replace c6 := keep hb c6; replace c7 := keep hb c7; replace c8 := keep hb c8; replace c9 := keep hb c9; replace HK := keepB HK hb; clear hb; cases r)
        | (go_at_call 98; refine (calls_someB (id_any a.is a.iq _)).mono ?_; rintro e w1 ⟨r, rfl, hb⟩; replace c0 := keep hb c0; replace c1 := keep hb c1; replace c2 := keep hb c2; replace c3 := keep hb c3; replace c4 := keep hb c4; replace c5 := keep hb c5; replace c6 := keep hb c6; replace c7 := keep hb c7; replace c8 := keep hb c8; replace c9 := keep hb c9; replace HK := keepB HK hb; clear hb; cases r)
        | (go_at_call 142; refine (cmdGroup_some a.g _).mono ?_; rintro e w1 ⟨r, rfl, hb⟩; replace c0 := keep hb c0; replace c1 := keep hb c1; replace c2 := keep hb c2; replace c3 := keep hb c3; replace c4 := keep hb c4; replace c5 := keep hb c5; replace c6 := keep hb c6; replace c7 := keep hb c7; replace c8 := keep hb c8; replace c9 := keep hb c9; replace HK := keepB HK hb; clear hb; cases r))
      all_goals
        go_ret
        exact ⟨_, rfl, keepB HB HK⟩
  cases k3 : (a.k == 3)
  case true =>
    clear HS0 HS1 HS2
    have HK : Below W.heap.size W W := Below.refl _ _
    go_enter Tryz.func96, Tryz.ntmps96
    go_wp2_with (first
      | (go_at_call 138; refine (HS3.out _ HK).mono ?_; rintro e w1 ⟨r, rfl, hb⟩; replace HK := keepB HK hb; clear hb)
      | (go_at_call 97; refine (HF.out _ HK).mono ?_; rintro e w1 ⟨r, rfl, hb⟩; replace c0 := keep hb c0; replace c1 := keep hb c1; replace c2 := keep hb c2; replace c3 := keep hb c3; replace c4 := keep hb c4; replace c5 := keep hb c5; replace c6 := keep hb c6; replace c7 := keep hb c7; replace c8 := keep hb c8; replace c9 := keep hb c9; replace HK := keepB HK hb; clear hb; cases r)
      | (go_at_call 98; refine (calls_someB (id_any a.is a.iq _)).mono ?_; rintro e w1 ⟨r, rfl, hb⟩; replace c0 := keep hb c0; replace c1 := keep hb c1; replace c2 := keep hb c2; replace c3 := keep hb c3; replace c4 := keep hb c4; replace c5 := keep hb c5; replace c6 := keep hb c6; replace c7 := keep hb c7; replace c8 := keep hb c8; replace c9 := keep hb c9; replace HK := keepB HK hb; clear hb; cases r)
      | (go_at_call 142; refine (cmdGroup_some a.g _).mono ?_; rintro e w1 ⟨r, rfl, hb⟩; replace c0 := keep hb c0; replace c1 := keep hb c1; replace c2 := keep hb c2; replace c3 := keep hb c3; replace c4 := keep hb c4; replace c5 := keep hb c5; replace c6 := keep hb c6; replace c7 := keep hb c7; replace c8 := keep hb c8; replace c9 := keep hb c9; replace HK := keepB HK hb; clear hb; cases r))
    all_goals
      go_ret
      exact ⟨_, rfl, keepB HB HK⟩
  go_enter Tryz.func96, Tryz.ntmps96
  go_wp2
  go_ret
  exact ⟨_, rfl, HB⟩
end Go.Proofs.YtjgloipgnnigmaaGreatDoor
