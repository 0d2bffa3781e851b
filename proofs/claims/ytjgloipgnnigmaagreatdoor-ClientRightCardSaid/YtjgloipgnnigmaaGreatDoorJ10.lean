/- The client's submit. -/
import Derived.Test.YtjgloipgnnigmaaGreatDoorJ8
import Derived.Test.YtjgloipgnnigmaaGreatDoorJ7
import Derived.Test.YtjgloipgnnigmaaGreatDoorCliTxn21
import Derived.Test.YtjgloipgnnigmaaGreatDoorJ6
import Derived.Test.YtjgloipgnnigmaaGreatDoorJ4
import Derived.Deep.RegionLaw
import Derived.Deep.RegionHeld3
import Derived.Test.YtjgloipgnnigmaaGreatDoorJ9
import Derived.Test.YtjgloipgnnigmaaGreatDoorJ2
import Derived.Deep.Onto
import Derived.RegionTactic
set_option linter.unusedVariables false
set_option linter.unusedSimpArgs false
namespace Go.Proofs.YtjgloipgnnigmaaGreatDoor
open Go.RowKit Go.Shelf Go.Sort

def subRow (c : Cfg) (t : Tx) (g : Int) (j : Nat) : List SndD := (List.range j).map fun (i : Nat) => ⟨placeZ c g (i : Int), .submit t⟩
theorem subRow_succ (c : Cfg) (t : Tx) (g : Int) (j : Nat) : subRow c t g (j + 1) = subRow c t g j ++ [⟨placeZ c g (j : Int), .submit t⟩] := by simp [subRow, List.range_succ]
def subTo (c : Cfg) (t : Tx) (L : List Int) : List SndD := L.flatMap fun g => subRow c t g (repN c g.toNat)
theorem subTo_take {c : Cfg} {t : Tx} {L : List Int} {k : Nat} {g : Int} (hk : k < L.length) (e : L.getD k 0 = g) : subTo c t (L.take (k + 1)) = subTo c t (L.take k) ++ subRow c t g (repN c g.toNat) := by
  have : L[k] = g := by rw [← e, getD_eq L 0 hk]
  rw [List.take_succ_eq_append_getElem hk, this]
  simp [subTo]
theorem submitD_to (c : Cfg) (ses : Int) (x : CliD) : submitD c ses x = subTo c (txnD ses x) (groupsT c (txnD ses x)) := rfl
theorem groupsT_at {c : Cfg} {t : Tx} {k : Nat} (hk : k < (groupsT c t).length) : ∃ m : Nat, m < c.reps.length ∧ (groupsT c t).getD k 0 = (m : Int) := by
  have hm := getD_mem (d := (0 : Int)) hk
  generalize (groupsT c t).getD k 0 = g at hm
  unfold groupsT at hm
  split at hm
  · unfold groupsL at hm
    split at hm
    · simp only [groupsTo, List.mem_map, List.mem_filter, List.mem_range] at hm
      obtain ⟨m, ⟨h1, _⟩, h2⟩ := hm
      exact ⟨m, h1, h2.symm⟩
    · cases hm
  · cases hm
theorem groupsT_len (c : Cfg) (t : Tx) : (groupsT c t).length ≤ c.reps.length := by
  unfold groupsT
  split
  · unfold groupsL
    split
    · exact groupsTo_length _ _ _
    · exact Nat.zero_le _
  · exact Nat.zero_le _
theorem submit_lies {w : World} {t : Tx} {A B : Option Addr} (h : TxAt w t A B) (ca cb : Nat) : MsgAt w (submitM t A B ca cb) :=
  ⟨noTx_lies w, h, fun _ hi => absurd hi (Nat.not_lt_zero _), Nat.zero_le _, noVal_good, Nat.zero_le _⟩
/-- What was submitted so far. -/
def SubSt (w : World) (base : Nat) (v : Value) (t : Tx) (A B : Option Addr) (ca cb : Nat) (d : List SndD) (n : Nat) : Prop :=
  ∃ l, w.ownsRow base 81 35 v l.length (sndCells l) ∧ SndsIs l d ∧ (∀ s ∈ l, s.m = submitM t A B ca cb) ∧ l.length ≤ n
theorem SubSt.snoc {w' : World} {base : Nat} {v' : Value} {t : Tx} {A B : Option Addr} {ca cb n : Nat} {d : List SndD} {l : List SndX} (hi : SndsIs l d) (hm : ∀ s ∈ l, s.m = submitM t A B ca cb) (hn : l.length ≤ n) (z : Int)
    (hr : w'.ownsRow base 81 35 v' (l.length + 1) (sndCells l ++ (⟨z, submitM t A B ca cb⟩ : SndX).vs.toList)) : SubSt w' base v' t A B ca cb (d ++ [⟨z, .submit t⟩]) (n + 1) := by
  refine ⟨l ++ [⟨z, submitM t A B ca cb⟩], ?_, hi.snoc (.submit _ _ _ _ _ _), ?_, by simp; exact hn⟩
  · rw [sndCells_snoc, List.length_append]; exact hr
  · intro s hs
    rcases List.mem_append.1 hs with q | q
    · exact hm s q
    · rw [List.mem_singleton.1 q]
theorem SubSt.mono {w : World} {base : Nat} {v : Value} {t : Tx} {A B : Option Addr} {ca cb n n' : Nat} {d : List SndD} (h : SubSt w base v t A B ca cb d n) (hn : n ≤ n') : SubSt w base v t A B ca cb d n' := by
  obtain ⟨l, a, b, c, e⟩ := h
  exact ⟨l, a, b, c, Nat.le_trans e hn⟩
theorem sub_lit (z : Int) (t : Tx) (A5 A6 : Option Addr) (k5 k6 : Nat) : ([.int .i64 z, .int .i64 8, .int .u32 0, .int .i64 0, .int .i64 0, .bool false, .int .u32 0, .int .i64 0, .int .i64 0, .int .i64 0, .int .i64 0, .slice none 0 0, .slice none 0 0, .int .i64 0, .int .i64 0, .int .i64 0, .int .u64 0, .bool false, .int .i64 t.ses, .int .i64 t.seq, .slice A5 t.rds.length k5, .slice A6 t.wrs.length k6, .int .i64 0, .int .i64 0, .int .i64 0, .int .u64 0, .bool false, .int .i64 0, .string ⟨#[]⟩, .int .u64 0, .int .i64 0, .int .u64 0, .string ⟨#[]⟩, .int .i64 0, .slice none 0 0] : List Value) = (⟨z, submitM t A5 A6 k5 k6⟩ : SndX).vs.toList := rfl
theorem sub_one (z : Int) (t : Tx) (A5 A6 : Option Addr) (k5 k6 : Nat) : ∀ u ∈ ([.int .i64 z, .int .i64 8, .int .u32 0, .int .i64 0, .int .i64 0, .bool false, .int .u32 0, .int .i64 0, .int .i64 0, .int .i64 0, .int .i64 0, .slice none 0 0, .slice none 0 0, .int .i64 0, .int .i64 0, .int .i64 0, .int .u64 0, .bool false, .int .i64 t.ses, .int .i64 t.seq, .slice A5 t.rds.length k5, .slice A6 t.wrs.length k6, .int .i64 0, .int .i64 0, .int .i64 0, .int .u64 0, .bool false, .int .i64 0, .string ⟨#[]⟩, .int .u64 0, .int .i64 0, .int .u64 0, .string ⟨#[]⟩, .int .i64 0, .slice none 0 0] : List Value), u.oneCell' = true := by
  rw [sub_lit]
  exact one_cell_snd _
set_option maxRecDepth 100000 in
set_option maxHeartbeats 8000000 in
theorem submit_in {w : World} {p : Nat} {c : Cfg} {t : Tx} {rb roff : Nat} {Bd : Option Addr} {ca cb : Nat} (c0 : w.cell? ⟨p, 0, none⟩ = some (.slice (some ⟨rb, roff, none⟩) c.reps.length ca)) (c1 : w.cell? ⟨p, 1, none⟩ = some (.slice Bd c.bnds.length cb))
    (hC : CfgAt w c (some ⟨rb, roff, none⟩) Bd) (hf : formedB c = true) (hca : c.reps.length ≤ ca) (hT : Tabs w)
    (HTx : Hid (∀ wz, Below w.heap.size w wz → Calls Tryz.prog 24 #[.pointer (some ⟨p, 0, none⟩)] wz (TxnPostF wz t))) :
    Calls Tryz.prog 42 #[.pointer (some ⟨p, 0, none⟩)] w (SubPost w (subTo c t (groupsT c t))) := by
  have hl4 := (formed_len hf).2.1
  obtain ⟨i0, hi, hz0, hz1, hz2⟩ := info_parts info_snd3
  obtain ⟨L, hL⟩ : ∃ L, groupsT c t = L := ⟨_, rfl⟩
  have hmem : Hid (∀ k, k < L.length → ∃ m : Nat, m < c.reps.length ∧ L.getD k 0 = (m : Int)) := by
    intro k hk
    subst hL
    exact groupsT_at hk
  have hLn : L.length ≤ 4 := by have := groupsT_len c t; rw [hL] at this; omega
  have HG : Hid (∀ wz A' B' ca' cb', CfgAt wz c (some ⟨rb, roff, none⟩) Bd → TxAt wz t A' B' → Tabs wz → Calls Tryz.prog 86 #[.agg #[.slice (some ⟨rb, roff, none⟩) c.reps.length ca, .slice Bd c.bnds.length cb], .agg #[.int .i64 t.ses, .int .i64 t.seq, .slice A' t.rds.length ca', .slice B' t.wrs.length cb']] wz (IntsPost wz L)) := by
    intro wz A' B' ca' cb' h1 h2 h3
    rw [← hL]
    exact txGroups_any c t _ _ _ _ _ _ _ _ wz h1 h2 h3
  rw [hL]
  clear hL
  replace hf := Lib.hid hf
  replace hLn := Lib.hid hLn
  replace hl4 := Lib.hid hl4
  replace hca := Lib.hid hca
  go_enter Tryz.func42, Tryz.ntmps42
  go_wp2_with (first
    | (go_at_call 24; refine (HTx.out _ (Below.refl _ _)).mono ?_; rintro e w1 ⟨A5, A6, k5, k6, rfl, hT1, hk5, hk6, hb1, hFA, hFB⟩; replace hT1 := Lib.hid hT1; replace hFA := Lib.hid hFA; replace hFB := Lib.hid hFB; clear hk5 hk6)
    | (refine wpList_store_new rfl 37 _ _ rfl w1 #[.int .i64 t.ses, .int .i64 t.seq, .slice A5 t.rds.length k5, .slice A6 t.wrs.length k6] 37 rfl rfl rfl info_txn rfl oneTx ?_; intro w2 hb2 hs2 hr2))
  replace hs2 := Lib.hid hs2
  have HB2 := keepB hb1 hb2
  replace c0 := keep HB2 c0
  replace c1 := keep HB2 c1
  have hC2 := hC.later HB2
  have hTx2 := hT1.out.later hb2
  have hTab2 := hT.later HB2
  obtain ⟨⟨z0, z1, z2, z3⟩, -⟩ := cellsTx hr2
  clear hr2
  go_region_held3 (fun w' => w'.cell? ⟨p, 0, none⟩ = some (.slice (some ⟨rb, roff, none⟩) c.reps.length ca) ∧ w'.cell? ⟨p, 1, none⟩ = some (.slice Bd c.bnds.length cb) ∧ w'.cell? ⟨w1.heap.size, 0, none⟩ = some (.int .i64 t.ses) ∧ w'.cell? ⟨w1.heap.size, 1, none⟩ = some (.int .i64 t.seq) ∧ w'.cell? ⟨w1.heap.size, 2, none⟩ = some (.slice A5 t.rds.length k5) ∧ w'.cell? ⟨w1.heap.size, 3, none⟩ = some (.slice A6 t.wrs.length k6))
    (first | exact ⟨c0, c1, z0, z1, z2, z3⟩ | (with_reducible exact ⟨keep hb3 c0, keep hb3 c1, keep hb3 z0, keep hb3 z1, keep hb3 z2, keep hb3 z3⟩))
    (first
      | (go_at_call 86; refine (HG.out _ _ _ _ _ (hC2.later (below_drew (Below.refl _ _))) (hTx2.later (below_drew (Below.refl _ _))) (hTab2.later (below_drew (Below.refl _ _)))).mono ?_; rintro e w3 ⟨I, ci, rfl, hI, hb⟩; have hb3 : Below w2.heap.size w2 w3 := keepB (below_drew (Below.refl _ _)) hb))
  all_goals
    go_wp2
    replace c0 := keep hb3 c0
    replace c1 := keep hb3 c1
    replace z0 := keep hb3 z0
    replace z1 := keep hb3 z1
    replace z2 := keep hb3 z2
    replace z3 := keep hb3 z3
    have hC3 := Lib.hid (hC2.later hb3)
    have HB3 := Lib.hid (keepB HB2 hb3)
    have hTx3 := Lib.hid (hTx2.later hb3)
    clear hb hb1 hb2 HB2 hTab2 hC2 hTx2 hb3
    go_loopw [3, 17] (fun v i wr => ∃ k : Nat, k ≤ L.length ∧ i = .int .i64 k ∧ Hid (SubSt wr w3.heap.size v t A5 A6 k5 k6 (subTo c t (L.take k)) (5 * k)) ∧ Below w3.heap.size w3 wr) (fun _ i _ => L.length - (intOf i).toNat)
    case atStart => exact ⟨0, Nat.zero_le _, rfl, ⟨[], own_nil _ _ _ _, SndsIs.nil, fun _ h => (by cases h), Nat.zero_le _⟩, Below.refl _ _⟩
    case round =>
      obtain ⟨k, hk, rfl, HS, hw⟩ := hrel
      by_cases hlt : k < L.length
      · obtain ⟨m, hm, em⟩ := hmem.out k hlt
        obtain ⟨gb, goff, g, rfl, gc, GX⟩ := IntsAt.at' hI hlt
        have eg : g = (m : Int) := GX.out.symm.trans em
        subst eg
        replace gc := keep hw gc
        obtain ⟨b9, o9, r, e9, rc, RX⟩ := IntsAt.at' hC3.out.ints hm
        cases e9
        have hrr := formed_range hf.out hm
        rw [RX.out] at hrr
        obtain ⟨q, rfl⟩ := Int.eq_ofNat_of_zero_le (show 0 ≤ r by omega)
        have hq5 : Hid (q ≤ 5) := by have := hrr.2; show _ ≤ _; omega
        have hrep : Hid (repN c ((m : Nat) : Int).toNat = q) := by show repN c m = q; rw [repN, RX.out]; rfl
        replace rc := keep hw rc
        have c0r := keep hw c0
        have hgi : (m : Int) < (c.reps.length : Int) := by omega
        have HN : Hid (subTo c t (L.take (k + 1)) = subTo c t (L.take k) ++ subRow c t (m : Int) q) := by
          show _ = _
          rw [subTo_take hlt em, hrep.out]
        clear hrr em GX RX
        go_wp2
        go_loopw [3, 29] (fun v i wr2 => ∃ j : Nat, j ≤ q ∧ i = .int .i64 j ∧ Hid (SubSt wr2 w3.heap.size v t A5 A6 k5 k6 (subTo c t (L.take k) ++ subRow c t (m : Int) j) (5 * k + j)) ∧ Below w3.heap.size w3 wr2) (fun _ i _ => q - (intOf i).toNat)
        case atStart => exact ⟨0, Nat.zero_le _, rfl, by show SubSt _ _ _ _ _ _ _ _ _ _; rw [show subRow c t (m : Int) 0 = [] from rfl, List.append_nil]; exact HS.out, hw⟩
        case round =>
          obtain ⟨j, hj, rfl, HS2, hw2⟩ := hrel
          by_cases hlt2 : j < q
          · obtain ⟨l, hown, hsi, hsm, hsn⟩ := HS2.out
            obtain ⟨A3, k3, rfl⟩ := own_form hown
            have c0s := keep hw2 c0
            have c1s := keep hw2 c1
            have z0s := keep hw2 z0
            have z1s := keep hw2 z1
            have z2s := keep hw2 z2
            have z3s := keep hw2 z3
            have hCs := Lib.hid (hC3.out.later hw2)
            replace hsn : Hid (l.length ≤ 5 * k + j) := hsn
            replace hsi := Lib.hid hsi
            replace hsm := Lib.hid hsm
            have hmx : Hid (l.length ≤ 100) := by
              have := hsn.out; have := hq5.out; have := hLn.out
              show _ ≤ _; omega
            have hj5 : j < 5 := by have := hq5.out; omega
            have hml : Hid (l.length + 1 ≤ maxLen) := le_maxLen (by have := hmx.out; omega)
            have hmb : Hid ((l.length + 1) * 376 ≤ 140737488355328) := by have := hmx.out; show _ ≤ _; omega
            have hone : Hid (∀ u ∈ ([.int .i64 (placeZ c (m : Int) (j : Int)), .int .i64 8, .int .u32 0, .int .i64 0, .int .i64 0, .bool false, .int .u32 0, .int .i64 0, .int .i64 0, .int .i64 0, .int .i64 0, .slice none 0 0, .slice none 0 0, .int .i64 0, .int .i64 0, .int .i64 0, .int .u64 0, .bool false, .int .i64 t.ses, .int .i64 t.seq, .slice A5 t.rds.length k5, .slice A6 t.wrs.length k6, .int .i64 0, .int .i64 0, .int .i64 0, .int .u64 0, .bool false, .int .i64 0, .string ⟨#[]⟩, .int .u64 0, .int .i64 0, .int .u64 0, .string ⟨#[]⟩, .int .i64 0, .slice none 0 0] : List Value), u.oneCell' = true) := sub_one (placeZ c (m : Int) (j : Int)) t A5 A6 k5 k6
            go_wp2
            go_region_held3 (fun w' => w'.cell? ⟨p, 0, none⟩ = some (.slice (some ⟨rb, roff, none⟩) c.reps.length ca) ∧ w'.cell? ⟨p, 1, none⟩ = some (.slice Bd c.bnds.length cb) ∧ w'.cell? ⟨w1.heap.size, 0, none⟩ = some (.int .i64 t.ses) ∧ w'.cell? ⟨w1.heap.size, 1, none⟩ = some (.int .i64 t.seq) ∧ w'.cell? ⟨w1.heap.size, 2, none⟩ = some (.slice A5 t.rds.length k5) ∧ w'.cell? ⟨w1.heap.size, 3, none⟩ = some (.slice A6 t.wrs.length k6))
              (first | exact ⟨c0s, c1s, z0s, z1s, z2s, z3s⟩ | (with_reducible exact ⟨keep hbP c0s, keep hbP c1s, keep hbP z0s, keep hbP z1s, keep hbP z2s, keep hbP z3s⟩) | (with_reducible exact ⟨keep hB15 c0, keep hB15 c1, keep hB15 z0, keep hB15 z1, keep hB15 z2, keep hB15 z3⟩) | (with_reducible exact ⟨keep (below1 _ _) (keep hbP c0s), keep (below1 _ _) (keep hbP c1s), keep (below1 _ _) (keep hbP z0s), keep (below1 _ _) (keep hbP z1s), keep (below1 _ _) (keep hbP z2s), keep (below1 _ _) (keep hbP z3s)⟩) | (with_reducible exact ⟨keep (below_drew (below1 _ _)) (keep hbP c0s), keep (below_drew (below1 _ _)) (keep hbP c1s), keep (below_drew (below1 _ _)) (keep hbP z0s), keep (below_drew (below1 _ _)) (keep hbP z1s), keep (below_drew (below1 _ _)) (keep hbP z2s), keep (below_drew (below1 _ _)) (keep hbP z3s)⟩))
              (first
                | (go_at_call 87; refine (place_any c (m : Int) (j : Int) _ _ ca cb _ (hCs.out.later (below_drew (Below.refl _ _))) hca.out).mono ?_; rintro e wP ⟨rfl, hbP0⟩; have hbP : Below wr.heap.size wr wP := keepB (below_drew (Below.refl _ _)) hbP0)
                | (refine ready_append_own_at rfl _ _ 50 rfl w3.heap.size 81 i0 _ 35 376 Tryz.underlying50 hi hz0 hz1 hz2 rfl (Nat.succ_pos 34) (.slice A3 l.length k3) l.length (sndCells l) rfl (own_keep hown (keepB hbP (below1 wP _))) ⟨wP.heap.size, 0, none⟩ 1 1 [.int .i64 (placeZ c (m : Int) (j : Int)), .int .i64 8, .int .u32 0, .int .i64 0, .int .i64 0, .bool false, .int .u32 0, .int .i64 0, .int .i64 0, .int .i64 0, .int .i64 0, .slice none 0 0, .slice none 0 0, .int .i64 0, .int .i64 0, .int .i64 0, .int .u64 0, .bool false, .int .i64 t.ses, .int .i64 t.seq, .slice A5 t.rds.length k5, .slice A6 t.wrs.length k6, .int .i64 0, .int .i64 0, .int .i64 0, .int .u64 0, .bool false, .int .i64 0, .string ⟨#[]⟩, .int .u64 0, .int .i64 0, .int .u64 0, .string ⟨#[]⟩, .int .i64 0, .slice none 0 0] rfl rfl (World.news_of_block (heap_alloc_new wP _)) hone.out hml.out hmb.out (Nat.le_trans hw2.size (Nat.le_trans hbP.size (below1 wP _).size)) ?_; intro v15 w15 HO15 hg15 hv15; obtain ⟨A15, c15, rfl⟩ := own_form HO15; have hB15 : Below w3.heap.size w3 w15 := own_below (keepB (keepB hw2 hbP) (below1 wP _)) (Nat.le_refl _) (own_keep hown (keepB hbP (below1 wP _))) hg15; replace HO15 := Lib.hid HO15; clear hg15 hv15)
                | (refine ready_append_own_at rfl _ _ 50 rfl w3.heap.size 81 i0 _ 35 376 Tryz.underlying50 hi hz0 hz1 hz2 rfl (Nat.succ_pos 34) (.slice A3 l.length k3) l.length (sndCells l) rfl (own_keep hown (keepB hbP (below_drew (below1 wP _)))) ⟨wP.heap.size, 0, none⟩ 1 1 [.int .i64 (placeZ c (m : Int) (j : Int)), .int .i64 8, .int .u32 0, .int .i64 0, .int .i64 0, .bool false, .int .u32 0, .int .i64 0, .int .i64 0, .int .i64 0, .int .i64 0, .slice none 0 0, .slice none 0 0, .int .i64 0, .int .i64 0, .int .i64 0, .int .u64 0, .bool false, .int .i64 t.ses, .int .i64 t.seq, .slice A5 t.rds.length k5, .slice A6 t.wrs.length k6, .int .i64 0, .int .i64 0, .int .i64 0, .int .u64 0, .bool false, .int .i64 0, .string ⟨#[]⟩, .int .u64 0, .int .i64 0, .int .u64 0, .string ⟨#[]⟩, .int .i64 0, .slice none 0 0] rfl rfl (World.news_of_block (heap_alloc_new wP _)) hone.out hml.out hmb.out (Nat.le_trans hw2.size (Nat.le_trans hbP.size (below_drew (below1 wP _)).size)) ?_; intro v15 w15 HO15 hg15 hv15; obtain ⟨A15, c15, rfl⟩ := own_form HO15; have hB15 : Below w3.heap.size w3 w15 := own_below (keepB (keepB hw2 hbP) (below_drew (below1 wP _))) (Nat.le_refl _) (own_keep hown (keepB hbP (below_drew (below1 wP _)))) hg15; replace HO15 := Lib.hid HO15; clear hg15 hv15))
            all_goals
              go_wp2
              go_roundw
              case rel =>
                have hS15 := SubSt.snoc hsi.out hsm.out hsn.out (placeZ c (m : Int) (j : Int)) ((sub_lit (placeZ c (m : Int) (j : Int)) t A5 A6 k5 k6) ▸ HO15.out)
                exact ⟨j + 1, hlt2, by go_num, by show SubSt _ _ _ _ _ _ _ _ _ _; rw [subRow_succ, ← List.append_assoc]; exact hS15, hB15⟩
              case measure => simp [intOf]; omega
          · have ej : j = q := by omega
            have HS3 : Hid (SubSt wr w3.heap.size u3 t A5 A6 k5 k6 (subTo c t (L.take (k + 1))) (5 * (k + 1))) := by
              show SubSt _ _ _ _ _ _ _ _ _ _
              rw [HN.out, ← ej]
              exact HS2.out.mono (by have := hq5.out; omega)
            clear ej
            have hk4 : k < 4 := by have := hLn.out; omega
            go_wp2
            go_roundw
            case rel => exact ⟨k + 1, hlt, by go_num, HS3.out, hw2⟩
            case measure => simp [intOf]; omega
      · have ek : k = L.length := by omega
        have HS3 : Hid (SubSt wr w3.heap.size u3 t A5 A6 k5 k6 (subTo c t L) (5 * k)) := by
          have := HS.out
          rw [ek, List.take_length] at this
          rw [ek]
          exact this
        clear ek
        go_wp2
        go_ret
        obtain ⟨l, h1, h2, h3, _⟩ := HS3.out
        refine ⟨_, l, rfl, ⟨World.ownsRow.mono h1 HB3.out.size, h2, fun s hs => ?_, fun s hs => ?_⟩, keepB HB3.out hw⟩
        · rw [h3 s hs]
          exact submit_lies (hTx3.out.later hw) _ _
        · rw [h3 s hs]
          exact FreshM.submit hFA.out hFB.out
section
variable {w : World} {B p : Nat} {K : CliK} {x : CliD} {O : Nat → Prop}
/-- What submits: at a client whose configuration lies in memory. -/
theorem submit_any (h : CliAt w B p K x O) (hz : CliSz x) (hr : x.rds.length ≤ 6) (hw : x.wrs.length ≤ 6) (hC : CfgAt w K.c K.A K.B) (hf : formedB K.c = true) (hca : K.c.reps.length ≤ K.ca) (hT : Tabs w) :
    Calls Tryz.prog 42 #[.pointer (some ⟨p, 0, none⟩)] w (SubPost w (submitD K.c K.ses x)) := by
  have hTx : Hid (∀ wz, Below w.heap.size w wz → Calls Tryz.prog 24 #[.pointer (some ⟨p, 0, none⟩)] wz (TxnPostF wz (txnD K.ses x))) := fun wz hb => txn_fresh (h.later hb) hz hr hw
  obtain ⟨vr, vw, va, vk, h⟩ := h
  obtain ⟨c0, c1, _⟩ := h.cs
  have hl := (formed_len hf).1
  obtain ⟨rb, roff, r0, eA, _⟩ := IntsAt.at' hC.ints (show 0 < K.c.reps.length by omega)
  rw [eA] at c0 hC
  rw [submitD_to]
  exact submit_in c0 c1 hC hf hca hT hTx
end
end Go.Proofs.YtjgloipgnnigmaaGreatDoor
/- The client's Commit and Tick, with what they submit. -/
namespace Go.Proofs.YtjgloipgnnigmaaGreatDoor
open Go.RowKit Go.Shelf Go.Sort

section
variable {w : World} {B p N : Nat} {K : CliK} {x : CliD} {O : Nat → Prop}
theorem commit_all (h : CliAt w B p K x O) (hB : B ≤ w.heap.size) (hC : ∀ w', Below B w w' → CfgAt w' K.c K.A K.B) (hT : ∀ w', Below B w w' → Tabs w') (hf : formedB K.c = true) (hca : K.c.reps.length ≤ K.ca) (hI : CliInv K.c N x) (hz : CliSz x) :
    Calls Tryz.prog 11 #[.pointer (some ⟨p, 0, none⟩)] w (SndPost w B p K O (commitD x) (commitL K.c K.ses x) (commitE x)) :=
  commit_any h hB hI fun wz hA ho => submit_any hA ⟨hz.r, hz.w, hz.a, hz.k⟩ hI.rn hI.wn (hC wz (ho.below hB fun k hk => (h.lt' k hk).1)) hf hca (hT wz (ho.below hB fun k hk => (h.lt' k hk).1))
theorem tick_all (h : CliAt w B p K x O) (hB : B ≤ w.heap.size) (hC : ∀ w', Below B w w' → CfgAt w' K.c K.A K.B) (hT : ∀ w', Below B w w' → Tabs w') (hf : formedB K.c = true) (hca : K.c.reps.length ≤ K.ca) (hI : CliInv K.c N x) (hz : CliSz x) :
    Calls Tryz.prog 17 #[.pointer (some ⟨p, 0, none⟩)] w (TickPost w B p K O (tick0 x) (tickL K.c K.ses x)) :=
  tick_any h hB hC hf hca hI.tn (by have := hI.an; omega) (fun a ha => ⟨hI.ag a ha, hz.a a ha⟩) fun wz hA ho => submit_any hA ⟨hz.r, hz.w, hz.a, hz.k⟩ hI.rn hI.wn (hC wz (ho.below hB fun k hk => (h.lt' k hk).1)) hf hca (hT wz (ho.below hB fun k hk => (h.lt' k hk).1))
end
end Go.Proofs.YtjgloipgnnigmaaGreatDoor
/- Asking many things in a loop: the client, and the row of what is sent. -/
namespace Go.Proofs.YtjgloipgnnigmaaGreatDoor
open Go.RowKit Go.Shelf Go.Sort

/-- Behind n asks since w3: the client in blocks of its own, the row of sends beside it. -/
def WantSt (w3 wr : World) (B p : Nat) (K : CliK) (O3 : Nat → Prop) (vk : Value) (y : CliD) (v : Value) (d : List SndD) (n : Nat) : Prop :=
  ∃ (Ok : Nat → Prop) (l : List SndX), CliV wr B p K y vk Ok ∧ (∀ g, Ok g → O3 g ∨ w3.heap.size ≤ g) ∧ wr.ownsRow w3.heap.size 81 35 v l.length (sndCells l) ∧ SndsIs l d ∧ (∀ s ∈ l, ∀ wz, MsgAt wz s.m) ∧ l.length ≤ n ∧ (∀ g, v.ownBlock = some g → ¬ Ok g) ∧ Out O3 w3 wr
section
variable {w w3 wr w4 w6 w7 : World} {B p n : Nat} {K : CliK} {y y' : CliD} {v v7 vk : Value} {O O3 Ok : Nat → Prop} {d : List SndD}
theorem WantSt.start (h : CliV w3 B p K y vk O3) : WantSt w3 w3 B p K O3 vk y (.slice none 0 0) [] 0 :=
  ⟨O3, [], h, fun _ h => .inl h, own_nil _ _ _ _, SndsIs.nil, fun _ h => (by cases h), Nat.le_refl _, fun g hg => (by cases hg), Out.refl _ _⟩
theorem WantSt.step {l : List SndX} {s : SndX} {z : SndD} (hA : CliV wr B p K y vk Ok) (hsub : ∀ g, Ok g → O3 g ∨ w3.heap.size ≤ g) (hown : wr.ownsRow w3.heap.size 81 35 v l.length (sndCells l)) (hsi : SndsIs l d) (hsm : ∀ s ∈ l, ∀ wz, MsgAt wz s.m) (hsn : l.length ≤ n) (hap : ∀ g, v.ownBlock = some g → ¬ Ok g) (hout : Out O3 w3 wr)
    (hA4 : CliV w4 B p K y' vk (ext Ok wr w4)) (ho4 : Out Ok wr w4) (hb6 : Below w4.heap.size w4 w6) (hz : SndIs s z) (hm : ∀ wz, MsgAt wz s.m)
    (HO7 : w7.ownsRow w3.heap.size 81 35 v7 (l.length + 1) (sndCells l ++ s.vs.toList)) (hg7 : w6.grownBy w7 v.ownBlock) (hv7 : v7.ownBlock = v.ownBlock ∨ v7.ownBlock = some w6.heap.size) :
    WantSt w3 w7 B p K O3 vk y' v7 (d ++ [z]) (n + 1) := by
  have hlt : ∀ g, v.ownBlock = some g → w3.heap.size ≤ g ∧ g < wr.heap.size := fun g hg => hown.lt g hg
  have hO := hA.toAt.lt'
  have s4 := ho4.size
  have s6 := hb6.size
  have nin : ∀ g, v.ownBlock = some g → ¬ ext Ok wr w4 g := fun g hg e => e.elim (hap g hg) (fun q => by have := (hlt g hg).2; omega)
  have hx4 : Out O3 w3 w4 := hout.trans (ho4.mono fun k hk => (hsub k hk).elim .inl (fun q => .inr ⟨q, (hO k hk).2⟩))
  refine ⟨ext Ok wr w4, l ++ [s], ?_, ?_, ?_, hsi.snoc hz, ?_, by simp; exact hsn, ?_, ?_⟩
  · exact (hA4.later hb6).out (Out.of_grown (O := fun k => v.ownBlock = some k) hg7 (fun k e => e)) (fun k hk e => nin k e hk)
  · intro g hg
    rcases hg with q | q
    · exact hsub g q
    · exact .inr (Nat.le_trans hout.size q.1)
  · rw [sndCells_snoc, List.length_append]; exact HO7
  · intro q hq
    rcases List.mem_append.1 hq with q1 | q1
    · exact hsm q q1
    · rw [List.mem_singleton.1 q1]; exact hm
  · intro g hg
    rcases hv7 with e | e
    · exact nin g (by rw [← e]; exact hg)
    · rw [hg] at e
      cases e
      rintro (q | q)
      · have := (hO _ q).2; omega
      · omega
  · exact (hx4.trans' (Out.of_below hb6)).trans (Out.of_grown hg7 fun k e => .inr ⟨(hlt k e).1, by have := (hlt k e).2; omega⟩)
theorem WantSt.done (h : WantSt w3 wr B p K O3 vk y v d n) (h3 : Out O w w3) (hO3 : ∀ k, O3 k → O k ∨ w.heap.size ≤ k) (hB : B ≤ w.heap.size) (hlt : ∀ k, O k → B ≤ k ∧ k < w.heap.size) :
    ∃ l, SndsAt wr w.heap.size v l d ∧ CliAt wr B p K y (ext O w wr) ∧ Out O w wr := by
  obtain ⟨Ok, l, hA, hsub, hown, hsi, hsm, hsn, hap, hout⟩ := h
  have hO := hA.toAt.lt'
  have s3 := h3.size
  have sr := hout.size
  refine ⟨l, ⟨World.ownsRow.mono hown s3, hsi, fun s hs => hsm s hs _, fun s hs => FreshM.all (hsm s hs)⟩, ?_, ?_⟩
  · obtain ⟨a1, a2, a3, a4, hI⟩ := hA.toAt
    refine ⟨a1, a2, a3, a4, hI.mono (fun k hk => ?_) (fun k hk => ?_)⟩
    · rcases hsub k hk with q | q
      · rcases hO3 k q with q | q
        · exact .inl q
        · exact .inr ⟨q, (hO k hk).2⟩
      · exact .inr ⟨by omega, (hO k hk).2⟩
    · rcases hk with q | q
      · exact ⟨(hlt k q).1, by have := (hlt k q).2; omega⟩
      · exact ⟨by omega, q.2⟩
  · refine ⟨hout.os.trans h3.os, hout.tape.trans h3.tape, hout.output.trans h3.output, Nat.le_trans s3 sr, fun k hk ho => ?_⟩
    rw [hout.block k (by omega) (fun e => (hO3 k e).elim ho (fun q => by omega)), h3.block k hk ho]
end
end Go.Proofs.YtjgloipgnnigmaaGreatDoor
/- The client's Snapshot. -/
namespace Go.Proofs.YtjgloipgnnigmaaGreatDoor
open Go.RowKit Go.Shelf Go.Sort

theorem wantsD_snoc (l : List (Nat × ByteArray × Nat)) (q : Nat × ByteArray × Nat) : ∀ x : CliD, wantsD x (l ++ [q]) = wantD (wantsD x l) q.1 q.2.1 q.2.2 := by
  induction l with
  | nil => intro x; rfl
  | cons p l ih => intro x; obtain ⟨g, k, s⟩ := p; exact ih _
theorem wantsL_snoc (c : Cfg) (l : List (Nat × ByteArray × Nat)) (q : Nat × ByteArray × Nat) : ∀ x : CliD, wantsL c x (l ++ [q]) = wantsL c x l ++ [sentD c (wantsD x l) (askD (wantsD x l) q.1 q.2.1 q.2.2)] := by
  induction l with
  | nil => intro x; rfl
  | cons p l ih => intro x; obtain ⟨g, k, s⟩ := p; show _ :: wantsL c _ (l ++ [q]) = _; rw [ih]; rfl
theorem wants_take {α : Type} (f : α → Nat × ByteArray × Nat) (c : Cfg) (x : CliD) {L : List α} {k : Nat} {d a : α} (hk : k < L.length) (e : L.getD k d = a) :
    wantsD x ((L.take (k + 1)).map f) = wantD (wantsD x ((L.take k).map f)) (f a).1 (f a).2.1 (f a).2.2 ∧ wantsL c x ((L.take (k + 1)).map f) = wantsL c x ((L.take k).map f) ++ [sentD c (wantsD x ((L.take k).map f)) (askD (wantsD x ((L.take k).map f)) (f a).1 (f a).2.1 (f a).2.2)] := by
  rw [map_take_snoc f hk e]
  exact ⟨wantsD_snoc _ _ _, wantsL_snoc _ _ _ _⟩
theorem wantsD_nums (l : List (Nat × ByteArray × Nat)) (x : CliD) : (wantsD x l).num = x.num + l.length ∧ (wantsD x l).asks.length = x.asks.length + l.length ∧ (wantsD x l).turn = x.turn := by
  obtain ⟨_, _, a3, _, _, _, _, _, a9, a10⟩ := wantsD_state l x
  exact ⟨a9, a10, a3⟩
def fW (g : Int) : Nat × ByteArray × Nat := (g.toNat, noStr, 0)
/-- Behind the three stores of a snapshot. -/
theorem snap_put {w wr w5 : World} {B p c5 : Nat} {K : CliK} {x : CliD} {O : Nat → Prop} {keys : List ByteArray} {A5 : Option Addr} (h : CliAt w5 B p K x O) (hb : Below w.heap.size w w5) (hlt : ∀ k, O k → B ≤ k ∧ k < w.heap.size) (hB : B ≤ w.heap.size)
    (hO5 : w5.ownsRow wr.heap.size 9 1 (.slice A5 keys.length c5) keys.length (keys.map Value.string)) (hwr : w.heap.size ≤ wr.heap.size) :
    ∃ wA, ((w5.setCell ⟨p, 3, none⟩ (.int .i64 3)).setCell ⟨p, 11, none⟩ (.slice A5 keys.length c5)).setCell ⟨p, 12, none⟩ (.int .u64 18446744073709551615) = wA ∧
      (∃ v, w5.cell? ⟨p, 3, none⟩ = some v) ∧ (∃ v, (w5.setCell ⟨p, 3, none⟩ (.int .i64 3)).cell? ⟨p, 11, none⟩ = some v) ∧ (∃ v, ((w5.setCell ⟨p, 3, none⟩ (.int .i64 3)).setCell ⟨p, 11, none⟩ (.slice A5 keys.length c5)).cell? ⟨p, 12, none⟩ = some v) ∧
      w5.frozen? ⟨p, 3, none⟩ = false ∧ (w5.setCell ⟨p, 3, none⟩ (.int .i64 3)).frozen? ⟨p, 11, none⟩ = false ∧ ((w5.setCell ⟨p, 3, none⟩ (.int .i64 3)).setCell ⟨p, 11, none⟩ (.slice A5 keys.length c5)).frozen? ⟨p, 12, none⟩ = false ∧
      wA.cell? ⟨p, 0, none⟩ = some (.slice K.A K.c.reps.length K.ca) ∧
      wA.cell? ⟨p, 1, none⟩ = some (.slice K.B K.c.bnds.length K.cb) ∧
      CliAt wA B p K (snap0 x keys) (ext O w w5) ∧ Out O w wA := by
  obtain ⟨vr, vw, va, vk, h5⟩ := h
  have hB5 := Nat.le_trans hB hb.size
  have h5w := h5.widen (w := w) (fun k hk => (hlt k hk).2) hB
  have hp := hlt p h5.hp
  have hf : ∀ g, (Value.slice A5 keys.length c5).ownBlock = some g → wr.heap.size ≤ g ∧ g < w5.heap.size := fun g hg => hO5.lt g hg
  have h3 := h5w.s3 3
  have hrow : (w5.setCell ⟨p, 3, none⟩ (.int .i64 ((3 : Nat) : Int))).ownsRow B 9 1 (.slice A5 keys.length c5) keys.length (keys.map Value.string) :=
    (out_set21 w5 p 3 _).row (World.ownsRow.mono hO5 (Nat.le_trans hB hwr)) (fun g hg e => by have := (hf g hg).1; omega)
  have hap : ∀ u : Value, (∀ g, u.ownBlock = some g → O g) → Apart (.slice A5 keys.length c5) u := fun u hu g hg e => by have := (hlt g (hu g e)).2; have := (hf g hg).1; omega
  have h11 := h3.setk hrow (fun g hg => ⟨.inr ⟨by have := (hf g hg).1; omega, (hf g hg).2⟩, fun e => by have := (hf g hg).1; omega⟩) (hap vr fun g hg => (h5.mir g hg).1) (hap vw fun g hg => (h5.miw g hg).1) (hap va fun g hg => (h5.mia g hg).1)
  have h12 := h11.s12 mostS
  obtain ⟨_, _, _, c3, _⟩ := h5.cs
  obtain ⟨_, _, _, _, _, _, _, _, _, _, _, c11, _⟩ := h3.cs
  obtain ⟨_, _, _, _, _, _, _, _, _, _, _, _, c12⟩ := h11.cs
  obtain ⟨d0, d1, _⟩ := h12.cs
  exact ⟨_, rfl, ⟨_, c3⟩, ⟨_, c11⟩, ⟨_, c12⟩, h5.fz 3, h3.fz 11, h11.fz 12, d0, d1, ⟨_, _, _, _, h12⟩, out_p h5.hp (out_p h5.hp (out_p h5.hp (Out.of_below hb)))⟩
section
variable {w : World} {B p : Nat} {K : CliK} {x : CliD} {O : Nat → Prop}
set_option maxRecDepth 100000 in
set_option maxHeartbeats 4000000 in
/-- Where nothing is asked. -/
theorem snap_no (h : CliAt w B p K x O) (hB : B ≤ w.heap.size) (keys : List ByteArray) (A1 : Option Addr) (c1 : Nat) (hK : snapK x keys = 0 ∨ keys.length < 1 ∨ 6 < keys.length) :
    Calls Tryz.prog 12 #[.pointer (some ⟨p, 0, none⟩), .slice A1 keys.length c1] w (SndPost w B p K O (snapD K.c x keys) (snapL K.c x keys) (snapE x keys)) := by
  by_cases s0 : x.state = 0
  · have q0 : ((x.state : Int) == 0) = true := by rw [beq_iff_eq]; omega
    have hb : ¬ (1 ≤ keys.length ∧ keys.length ≤ 6) := by
      rcases hK with q | q | q
      · intro hh
        simp only [snapK, s0, ne_eq, not_true_eq_false, if_false] at q
        split at q <;> cases q
      · omega
      · omega
    have HR : Hid (snapK x keys = 1) := by
      show _ = _
      have : (decide (1 ≤ keys.length) && decide (keys.length ≤ 6)) = false := by rw [← Bool.decide_and, decide_eq_false_iff_not]; exact hb
      simp [snapK, s0, this]
    have HP : Hid (∀ w', Below w.heap.size w w' → SndPost w B p K O (snapD K.c x keys) (snapL K.c x keys) (snapE x keys) (.returned (.tuple #[.slice none 0 0, .int .i64 1])) w') := fun w' hb => snd_none h hB hb (by simp [snapL, HR.out]) (by simp [snapD, HR.out]) (by simp [snapE, HR.out])
    clear hK
    by_cases h1 : keys.length < 1
    · have q1 : decide ((keys.length : Int) < 1) = true := by rw [decide_eq_true_iff]; omega
      have q2 : decide (keys.length < 1) = true := by rw [decide_eq_true_iff]; omega
      have q3 : decide (keys.length = 0) = true := by rw [decide_eq_true_iff]; omega
      clear h1 hb s0
      go_enter Tryz.func12, Tryz.ntmps12
      go_wp2_with (go_at_call 35; refine (in_any h 0 true q0).mono ?_; rintro e w1 ⟨rfl, rfl⟩)
      go_ret2
      exact HP.out _ (Below.refl _ _)
    · have q1 : decide ((keys.length : Int) < 1) = false := by rw [decide_eq_false_iff_not]; omega
      have q2 : decide (keys.length < 1) = false := by rw [decide_eq_false_iff_not]; omega
      have q2b : decide (keys.length = 0) = false := by rw [decide_eq_false_iff_not]; omega
      have q3 : decide ((6 : Int) < (keys.length : Int)) = true := by rw [decide_eq_true_iff]; omega
      have q4 : decide (6 < keys.length) = true := by rw [decide_eq_true_iff]; omega
      clear h1 hb s0
      go_enter Tryz.func12, Tryz.ntmps12
      go_wp2_with (go_at_call 35; refine (in_any h 0 true q0).mono ?_; rintro e w1 ⟨rfl, rfl⟩)
      go_ret2
      exact HP.out _ (Below.refl _ _)
  · have q0 : ((x.state : Int) == 0) = false := by rw [beq_eq_false_iff_ne]; omega
    have HR : Hid (snapK x keys = 0) := by show _ = _; simp [snapK, s0]
    have HP : Hid (∀ w', Below w.heap.size w w' → SndPost w B p K O (snapD K.c x keys) (snapL K.c x keys) (snapE x keys) (.returned (.tuple #[.slice none 0 0, .int .i64 11])) w') := fun w' hb => snd_none h hB hb (by simp [snapL, HR.out]) (by simp [snapD, HR.out]) (by simp [snapE, HR.out])
    clear s0 hK
    go_enter Tryz.func12, Tryz.ntmps12
    go_wp2_with (go_at_call 35; refine (in_any h 0 false q0).mono ?_; rintro e w1 ⟨rfl, rfl⟩)
    go_ret2
    exact HP.out _ (Below.refl _ _)
set_option maxRecDepth 100000 in
set_option maxHeartbeats 8000000 in
/-- Where the keys are looked at. -/
theorem snap_yes {N : Nat} (h : CliAt w B p K x O) (hB : B ≤ w.heap.size) (hC : ∀ w', Below B w w' → CfgAt w' K.c K.A K.B) (hf : formedB K.c = true) (hca : K.c.reps.length ≤ K.ca) (hI : CliInv K.c N x) (hN : N ≤ 100000)
    (keys : List ByteArray) (A1 : Option Addr) (c1 bk : Nat) (hkr : w.ownsRow bk 9 1 (.slice A1 keys.length c1) keys.length (keys.map Value.string)) (hko : ∀ a, A1 = some a → ¬ O a.block) (hs : ∀ k, k < keys.length → (keys.getD k noStr).size ≤ maxLen)
    (s0 : x.state = 0) (h1 : 1 ≤ keys.length) (h6 : keys.length ≤ 6) :
    Calls Tryz.prog 12 #[.pointer (some ⟨p, 0, none⟩), .slice A1 keys.length c1] w (SndPost w B p K O (snapD K.c x keys) (snapL K.c x keys) (snapE x keys)) := by
  have hlt := Lib.hid h.lt'
  have q0 : ((x.state : Int) == 0) = true := by rw [beq_iff_eq]; omega
  have q1 : decide ((keys.length : Int) < 1) = false := by rw [decide_eq_false_iff_not]; omega
  have q2 : decide (keys.length < 1) = false := by rw [decide_eq_false_iff_not]; omega
  have q2b : decide (keys.length = 0) = false := by rw [decide_eq_false_iff_not]; omega
  have q3 : decide ((6 : Int) < (keys.length : Int)) = false := by rw [decide_eq_false_iff_not]; omega
  have q4 : decide (6 < keys.length) = false := by rw [decide_eq_false_iff_not]; omega
  have hkr0 := Lib.hid hkr
  obtain ⟨A1', c1', e1, _, hK⟩ := own_strs hkr
  cases e1
  have HKd : Hid (snapK x keys = if risesTo keys keys.length then 2 else 1) := by
    show _ = _
    have : (decide (1 ≤ keys.length) && decide (keys.length ≤ 6)) = true := by rw [← Bool.decide_and, decide_eq_true_iff]; exact ⟨h1, h6⟩
    cases hr : risesTo keys keys.length <;> simp [snapK, s0, this, hr]
  have HF0 : Hid (∀ w', risesTo keys keys.length = false → Below w.heap.size w w' → SndPost w B p K O (snapD K.c x keys) (snapL K.c x keys) (snapE x keys) (.returned (.tuple #[.slice none 0 0, .int .i64 1])) w') := fun w' hr hb => by
    have HR : snapK x keys = 1 := by rw [HKd.out, hr]; rfl
    exact snd_none h hB hb (by simp [snapL, HR]) (by simp [snapD, HR]) (by simp [snapE, HR])
  have hg61 : Hid (keys.length ≤ 6) := h6
  have hnum := hI.nm
  have htn := hI.tn
  have hasks : x.asks = [] := (hI.idle s0).1
  have hf0 := Lib.hid hf
  have hcl := (formed_len hf).2.1
  have hlen9 : Hid (keys.length ≤ 9223372036854775807) := by show _ ≤ _; omega
  replace hasks := Lib.hid hasks
  replace hnum := Lib.hid hnum
  replace hcl := Lib.hid hcl
  replace hkr := Lib.hid hkr
  clear s0 h1 h6 hI hf
  go_enter Tryz.func12, Tryz.ntmps12
  go_wp2_with (go_at_call 35; refine (in_any h 0 true q0).mono ?_; rintro e w1 ⟨rfl, rfl⟩)
  replace h := Lib.hid h
  go_loopw [24] (fun i wr => ∃ k : Nat, k ≤ keys.length ∧ i = .int .i64 k ∧ Hid (risesTo keys k = true) ∧ Below w.heap.size w wr) (fun i _ => keys.length - (intOf i).toNat)
  case atStart => exact ⟨0, Nat.zero_le _, rfl, rfl, Below.refl _ _⟩
  case round =>
    obtain ⟨k, hk, rfl, HA, hw⟩ := hrel
    have hKr := CellsAt.later hK hw
    have hk6 : k ≤ 6 := by have := hg61.out; omega
    by_cases hltk : k < keys.length
    · obtain ⟨b, off, y, rfl, hc, HX⟩ := StrsAt.at' hKr hltk
      have hsx : y.size ≤ maxLen := by have := hs k hltk; rw [HX.out] at this; exact this
      cases hkey : keyB y
      · have HF : Hid (risesTo keys keys.length = false) := risesTo_false hltk (by simp only [riseAt, HX.out, hkey, Bool.false_and])
        go_wp2_with (go_at_call 36; refine (key_any _ _ hsx).mono ?_; rintro e w2 ⟨rfl, hb⟩; replace hw := keepB hw hb)
        go_ret2
        exact HF0.out _ HF.out hw
      · by_cases hk0 : k = 0
        · have HR : Hid (risesTo keys (k + 1) = true) := risesTo_next0 HA.out HX.out hkey hk0
          have hg : decide (0 < k) = false := by rw [decide_eq_false_iff_not]; omega
          clear hk0
          go_wp2_with (go_at_call 36; refine (key_any _ _ hsx).mono ?_; rintro e w2 ⟨rfl, hb⟩; replace hw := keepB hw hb)
          go_roundw
          case rel => exact ⟨k + 1, by omega, by go_num, HR, hw⟩
          case measure => simp [intOf]; omega
        · obtain ⟨b', off', z, e, hc', HY⟩ := StrsAt.at' hKr (k := k - 1) (by omega)
          injection e with e
          injection e with e1 e2
          subst e1 e2
          have hg : decide (0 < k) = true := by rw [decide_eq_true_iff]; omega
          have hi : ((k : Int) - 1).toNat = k - 1 := by omega
          have hk1 : 1 ≤ k := by omega
          cases hl : lessS z y
          · have HF : Hid (risesTo keys keys.length = false) := risesTo_false hltk (by simp only [riseAt, HX.out, HY.out, hkey, hl, beq_eq_false_iff_ne.2 hk0, Bool.false_or, Bool.and_false])
            have hl' : Op.bytesLess z.toList y.toList = false := hl
            clear hl hk0
            go_wp2_with (go_at_call 36; refine (key_any _ _ hsx).mono ?_; rintro e w2 ⟨rfl, hb⟩; replace hc' := keep hb hc'; replace hw := keepB hw hb)
            go_ret2
            exact HF0.out _ HF.out hw
          · have HR : Hid (risesTo keys (k + 1) = true) := risesTo_next HA.out HX.out HY.out hkey hl
            have hl' : Op.bytesLess z.toList y.toList = true := hl
            clear hl hk0
            go_wp2_with (go_at_call 36; refine (key_any _ _ hsx).mono ?_; rintro e w2 ⟨rfl, hb⟩; replace hc' := keep hb hc'; replace hw := keepB hw hb)
            go_roundw
            case rel => exact ⟨k + 1, by omega, by go_num, HR, hw⟩
            case measure => simp [intOf]; omega
    · have ek : k = keys.length := by omega
      have HRT : Hid (snapK x keys = 2) := by
        have := HA.out
        rw [ek] at this
        show _ = _
        rw [HKd.out, this]; rfl
      have hkw := Lib.hid (own_keep hkr.out hw)
      clear HA ek
      have hClone : Hid (Calls Tryz.prog 43 #[.slice A1 keys.length c1] wr (ClonePost wr 9 1 keys.length (keys.map Value.string))) := cloneS_any keys _ bk wr hkw.out (by have := hg61.out; omega)
      have hClone2 := hClone
      obtain ⟨L, hL⟩ : ∃ L, groupsL K.c keys = L := ⟨_, rfl⟩
      have hLm : Hid (∀ j, j < L.length → ∃ m : Nat, m < K.c.reps.length ∧ L.getD j 0 = (m : Int)) := by
        intro j hj
        subst hL
        have hmem : (groupsL K.c keys).getD j 0 ∈ groupsL K.c keys := getD_mem hj
        obtain ⟨g0, g1⟩ := groupsL_mem hmem
        exact ⟨_, g1, (Int.toNat_of_nonneg g0).symm⟩
      have hLn : Hid (L.length ≤ 4) := by
        have := snapW_len K.c keys hf0.out
        rw [snapW, List.length_map, hL] at this
        exact this
      have HSn : Hid (snapD K.c x keys = wantsD (snap0 x keys) (L.map fW) ∧ snapL K.c x keys = wantsL K.c (snap0 x keys) (L.map fW) ∧ snapE x keys = 0) := by
        show _ ∧ _ ∧ _
        rw [snapD, snapL, snapE, if_pos HRT.out, if_pos HRT.out, snapW, hL, HRT.out]
        exact ⟨rfl, rfl, rfl⟩
      have HG : Hid (∀ wz, CfgAt wz K.c K.A K.B → StrsAt wz A1 keys → Calls Tryz.prog 44 #[.agg #[.slice K.A K.c.reps.length K.ca, .slice K.B K.c.bnds.length K.cb], .slice A1 keys.length c1] wz (IntsPostF wz L)) := fun wz a1 a2 => by
        rw [← hL]
        exact groups_anyF K.c keys K.A K.B A1 K.ca K.cb c1 wz a1 a2 (by have := hg61.out; omega)
      clear hL
      have hk0 := Lib.hid hK
      go_wp2_with (first
        | (go_at_call 43; refine hClone.out.mono ?_; rintro e w5 ⟨v5, rfl, hO5, hb5⟩; obtain ⟨A5, c5, rfl⟩ := own_form hO5; obtain ⟨wA, ewA, ⟨_, z3⟩, ⟨_, z11⟩, ⟨_, z12⟩, g3, g11, g12, d0, d1, hA, hoA⟩ := snap_put (CliAt.later h.out (keepB hw hb5)) (keepB hw hb5) hlt.out hB hO5 (Nat.le_trans hw.size (Nat.le_refl _)); replace hA := Lib.hid hA; replace hoA := Lib.hid hoA)
        | (go_at_call 44; refine (HG.out wA (hC wA (hoA.out.below hB (fun k hk => (hlt.out k hk).1))) (CellsAt.out hk0.out hoA.out hko)).mono ?_; rintro e w9 ⟨I, cI, rfl, hI, hb9, hIf⟩))
      have hs9 := hb9.size
      have hoA9 := Lib.hid (hoA.out.trans' (Out.of_below hb9))
      have hsA := hoA.out.size
      have hA9 := Lib.hid (CliAt.later hA.out hb9)
      have hb5s := hb5.size
      have hsw := hw.size
      have hlt9 := Lib.hid hA9.out.lt'
      have hI9 : Hid (∀ a, I = some a → ¬ ext O w w5 a.block) := fun a e q => by
        have h1 := hIf a e
        have h2 := (hA.out.lt' _ q).2
        omega
      have hO9 : Hid (∀ k, ext O w w5 k → O k ∨ w.heap.size ≤ k) := fun k q => q.elim .inl (fun q => .inr q.1)
      have hnum0 : Hid ((snap0 x keys).num = x.num ∧ (snap0 x keys).asks.length = 0 ∧ (snap0 x keys).turn = x.turn) := by
        show _ ∧ _ ∧ _
        exact ⟨rfl, by show x.asks.length = 0; rw [hasks.out]; rfl, rfl⟩
      obtain ⟨x3, hx3⟩ : ∃ x3, snap0 x keys = x3 := ⟨_, rfl⟩
      rw [hx3] at hA9 HSn hnum0
      obtain ⟨i0, hi, hz0, hz1, hz2⟩ := info_parts info_snd3
      clear hx3
      obtain ⟨vr9, vw9, va9, vk9, hA9i⟩ := hA9.out
      have hA9v : CliV w9 B p K x3 vk9 (ext O w w5) := ⟨_, _, _, hA9i⟩
      replace hA9v := Lib.hid hA9v
      clear hA9i
      go_loopw [8, 64] (fun v i wr => ∃ k : Nat, k ≤ L.length ∧ i = .int .i64 k ∧ Hid (WantSt w9 wr B p K (ext O w w5) vk9 (wantsD x3 ((L.take k).map fW)) v (wantsL K.c x3 ((L.take k).map fW)) k)) (fun _ i _ => L.length - (intOf i).toNat)
      case atStart => exact ⟨0, Nat.zero_le _, rfl, WantSt.start hA9v.out⟩
      case round =>
        obtain ⟨k2, hk2, rfl, HS⟩ := hrel
        have hk24 : k2 ≤ 4 := by have := hLn.out; omega
        obtain ⟨_, _, _, hD⟩ := WantSt.done HS.out hoA9.out hO9.out hB hlt.out
        have hbw := Lib.hid (hD.below hB (fun k hk => (hlt.out k hk).1))
        by_cases hltk2 : k2 < L.length
        · obtain ⟨m, hm, em⟩ := hLm.out k2 hltk2
          obtain ⟨HN1, HN2⟩ := wants_take fW K.c x3 hltk2 em
          obtain ⟨n1, n2, n3⟩ := wantsD_nums ((L.take k2).map fW) x3
          obtain ⟨y, hy⟩ : ∃ y, wantsD x3 ((L.take k2).map fW) = y := ⟨_, rfl⟩
          obtain ⟨dl, hdl⟩ : ∃ dl, wantsL K.c x3 ((L.take k2).map fW) = dl := ⟨_, rfl⟩
          rw [hy] at HN1 HN2 n1 n2 n3
          rw [hdl] at HN2
          rw [hy, hdl] at HS
          rw [List.length_map, List.length_take, Nat.min_eq_left (by omega)] at n1 n2
          clear hy hdl
          obtain ⟨Ok, l, hAk, hsub, hown, hsi, hsm, hsn, hap, hout⟩ := HS.out
          have hIr := CellsAt.out hI hout hI9.out
          obtain ⟨gb, goff, g, rfl, gc, GX⟩ := IntsAt.at' hIr hltk2
          obtain rfl : g = (m : Int) := GX.out.symm.trans em
          obtain ⟨A3, k3, rfl⟩ := own_form hown
          have hT1 : y.turn < 60 := by rw [n3, hnum0.out.2.2]; exact htn
          have hT2 : y.num ≤ 1000000 := by rw [n1, hnum0.out.1]; have := hnum.out; omega
          have hT3 : y.asks.length ≤ 100 := by rw [n2, hnum0.out.2.1]; omega
          have hWant : Hid (Calls Tryz.prog 39 #[.pointer (some ⟨p, 0, none⟩), .int .i64 (m : Int), .string ⟨#[]⟩, .int .u64 0] wr (WantPost wr B p K vk9 Ok (.agg (sentX K.c (wantD y m noStr 0) (askD y m noStr 0)).vs) (wantD y m noStr 0))) :=
            want_v hAk (Nat.le_trans hB hD.size) (fun w' hb => hC w' (hbw.out.trans hb)) hf0.out hca hT1 m noStr 0 hm hT2 hT3
          have hmx : Hid (l.length ≤ 4) := by show _ ≤ _; omega
          replace HN1 : Hid (wantsD x3 ((L.take (k2 + 1)).map fW) = wantD y m noStr 0) := HN1
          replace HN2 : Hid (wantsL K.c x3 ((L.take (k2 + 1)).map fW) = dl ++ [sentD K.c y (askD y m noStr 0)]) := HN2
          replace hsi := Lib.hid hsi
          replace hsm := Lib.hid hsm
          replace hsn := Lib.hid hsn
          replace hap := Lib.hid hap
          replace hout := Lib.hid hout
          replace hsub := Lib.hid hsub
          replace hAk := Lib.hid hAk
          obtain ⟨sv, hsv⟩ : ∃ sv, Hid (sentX K.c (wantD y m noStr 0) (askD y m noStr 0) = sv) := ⟨_, rfl⟩
          have hsvi : Hid (SndIs sv (sentD K.c y (askD y m noStr 0)) ∧ ∀ wz, MsgAt wz sv.m) := by
            show _ ∧ _
            rw [← hsv.out]
            exact ⟨sentX_is K.c _ _, fun wz => sentX_lies K.c _ _ wz (by show noStr.size ≤ _; decide)⟩
          rw [hsv.out] at hWant
          clear n1 n2 n3 hT1 hT2 hT3 em GX hD
          go_wp2_with (first
            | (go_at_call 39; refine hWant.out.mono ?_; rintro e w4 ⟨rfl, hA4, ho4⟩; have hown4 := Lib.hid (ho4.row hown hap.out); replace hA4 := Lib.hid hA4; have hsz4 := ho4.size; replace ho4 := Lib.hid ho4)
            | (refine wpList_buildSlice1 rfl 50 81 _ rfl sv.vs rfl _ Tryz.underlying50 info_snd (by rw [snd_size]; omega) (by rw [snd_size]; omega) (zero_snd _) ?_; obtain ⟨w6, e6, hb6, hs6, hr6⟩ := boxed w4 sv.vs 81; rw [e6])
            | (at_builtin; refine wpList_append_own_at _ rfl _ _ 50 rfl w9.heap.size 81 i0 _ 35 376 Tryz.underlying50 hi hz0 hz1 hz2 rfl (by decide) _ _ _ rfl (own_keep hown4.out hb6) ⟨w4.heap.size, 0, none⟩ 1 1 sv.vs.toList rfl rfl (World.news_of_block hr6) (one_cell_snd _) (le_maxLen (by have := hmx.out; omega)) (by have := hmx.out; omega) (Nat.le_trans hout.out.size (Nat.le_trans hsz4 hb6.size)) ?_; intro v7 w7 HO7 hg7 _ hv7; have hS7 := Lib.hid (WantSt.step hAk.out hsub.out hown hsi.out hsm.out hsn.out hap.out hout.out hA4.out ho4.out hb6 hsvi.out.1 hsvi.out.2 HO7 hg7 hv7); clear HO7 hg7 hv7))
          go_roundw
          case rel => exact ⟨k2 + 1, hltk2, by go_num, by show WantSt _ _ _ _ _ _ _ _ _ _ _; rw [HN1.out, HN2.out]; exact hS7.out⟩
          case measure => simp [intOf]; omega
        · have ek : k2 = L.length := by omega
          have HS3 : Hid (WantSt w9 wr B p K (ext O w w5) vk9 (wantsD x3 (L.map fW)) u8 (wantsL K.c x3 (L.map fW)) k2) := by
            have := HS.out
            rw [ek, List.take_length] at this
            rw [ek]
            exact this
          clear ek HS
          go_wp2
          go_ret2
          obtain ⟨l, f1, f2, f3⟩ := WantSt.done HS3.out hoA9.out hO9.out hB hlt.out
          rw [HSn.out.1, HSn.out.2.1, HSn.out.2.2]
          exact ⟨_, l, rfl, f1, f2, f3⟩
end
end Go.Proofs.YtjgloipgnnigmaaGreatDoor
/- The client's seen. -/
namespace Go.Proofs.YtjgloipgnnigmaaGreatDoor
open Go.RowKit Go.Shelf Go.Sort

theorem zero_ev (w : World) : (zeroValue 71).run Tryz.prog w = .ok (.agg #[.int .i64 0, .int .i64 0, .int .i64 0, .string ByteArray.empty, .int .i64 0, .int .u64 0, .string ByteArray.empty, .int .u64 0, .bool false, .int .u64 0, .int .i64 0]) w := by kernel_rfl
theorem info_ev3 : (Tryz.prog.info? 71).map (fun i => (i.zero, i.size, i.bytes)) = some (some (.agg #[.int .i64 0, .int .i64 0, .int .i64 0, .string ByteArray.empty, .int .i64 0, .int .u64 0, .string ByteArray.empty, .int .u64 0, .bool false, .int .u64 0, .int .i64 0]), 11, 104) := by kernel_rfl
theorem one_cell_ev (s : EvD) : ∀ u ∈ s.vs.toList, u.oneCell' = true := fun u hu => by
  have := ev_one s
  rw [← Array.all_toList, List.all_eq_true] at this
  exact this u hu
/-- A method's end that tells events. -/
def EvPost (w : World) (B p : Nat) (K : CliK) (O : Nat → Prop) (x : CliD) (d : List EvD) (e : Ending) (w' : World) : Prop :=
  ∃ v, e = .returned v ∧ w'.ownsRow w.heap.size 71 11 v d.length (evCells d) ∧ CliAt w' B p K x (ext O w w') ∧ Out O w w'
section
variable {w : World} {B p : Nat} {K : CliK} {x : CliD} {O : Nat → Prop}
set_option maxRecDepth 100000 in
set_option maxHeartbeats 4000000 in
theorem seen_any (h : CliAt w B p K x O) (hB : B ≤ w.heap.size) (ha : x.asks.length ≤ 100) (m : MsgV) : Calls Tryz.prog 51 #[.pointer (some ⟨p, 0, none⟩), .agg m.vs] w (EvPost w B p K O (seenD x m) (seenEv K.ses x m)) := by
  obtain ⟨W, eW, HB, hszW, hrW⟩ := boxed w m.vs 43
  obtain ⟨c0, c1, c2, c3, c4, c5, c6, c7, c8, c9, c10, c11, c12, c13, c14, c15, c16, c17, c18, c19, c20, c21, c22, c23, c24, c25, c26, c27, c28, c29, c30, c31, c32, c33⟩ := msg_cs hrW
  clear c0 c1 c2 c3 c4 c5 c6 c7 c8 c9 c10 c11 c12 c13 c14 c15 c16 c17 c18 c19 c20 c21 c22 c23 c24 c25 c26 c33 hrW
  have hW := Lib.hid (h.later HB)
  have hlt := Lib.hid h.lt'
  have hBW := Nat.le_trans hB HB.size
  replace hszW := Lib.hid hszW
  by_cases se : m.err = 0
  · have qe : (m.err != 0) = false := by rw [se]; rfl
    obtain ⟨_, _, va, _, hWi⟩ := hW.out
    obtain ⟨_, _, d2, _, _, _, _, _, _, _, d10, _, d12⟩ := hWi.cs
    obtain ⟨A10, cap10, e10, _⟩ := own_asks hWi.rowa
    subst e10
    clear hWi
    by_cases sa : x.asks.length = 0
    · have qa : ((x.asks.length : Int) == 0) = true := by rw [beq_iff_eq]; omega
      have qa2 : decide (x.asks.length = 0) = true := by rw [decide_eq_true_iff]; exact sa
      have HR : Hid (seenD x m = restD x ∧ seenEv K.ses x m = [(⟨3, K.ses, 0, m.key, m.val, m.ver, false, x.stamp, 0⟩ : EvD), overEv K.ses x 0]) := by show _ ∧ _; simp [seenD, seenEv, seenK, se, sa]
      clear se sa
      go_enter Tryz.func51, Tryz.ntmps51
      go_wp2
      go_region
      change Exit.then _ _ _ _ (World.drew (World.alloc W (.cells (⟨3, K.ses, 0, m.key, m.val, m.ver, false, x.stamp, 0⟩ : EvD).vs 71)))
      obtain ⟨w3, e3, hb3, hr3⟩ : ∃ w3, World.drew (World.alloc W (.cells (⟨3, K.ses, 0, m.key, m.val, m.ver, false, x.stamp, 0⟩ : EvD).vs 71)) = w3 ∧ Below W.heap.size W w3 ∧ w3.heap[W.heap.size]? = some (.cells (⟨3, K.ses, 0, m.key, m.val, m.ver, false, x.stamp, 0⟩ : EvD).vs 71 (0, 0)) := ⟨_, rfl, below_drew (below1 _ _), heap_alloc_new W _⟩
      rw [e3]
      clear e3
      have hHW := Lib.hid (CliAt.later hW.out hb3)
      have hb4 := Lib.hid (keepB HB hb3)
      replace d10 := keep hb3 d10
      have hO3 : Hid (w3.ownsRow w.heap.size 71 11 (.slice (some ⟨W.heap.size, 0, none⟩) 1 1) 1 (evCells [(⟨3, K.ses, 0, m.key, m.val, m.ver, false, x.stamp, 0⟩ : EvD)])) := by
        have := own_one (base := w.heap.size) hr3 (ev_size _) HB.size
        show World.ownsRow _ _ _ _ _ _ _
        simpa [evCells] using this
      obtain ⟨i0, hi, hz0, hz1, hz2⟩ := info_parts info_ev3
      have hn3 : Hid (¬ O W.heap.size) := fun e => by have := (hlt.out _ e).2; have := HB.size; omega
      have hOv := Lib.hid (over_any hHW.out (Nat.le_trans hB hb4.out.size) 0)
      go_wp2_with (first
        | (go_at_call 105; refine hOv.out.mono ?_; rintro e w4 ⟨rfl, hA4, ho4⟩; replace hA4 := Lib.hid hA4; have hO4 := Lib.hid (ho4.row hO3.out (fun g hg => (Option.some.inj hg) ▸ hn3.out)); replace ho4 := Lib.hid ho4)
        | (refine wpList_buildSlice1 rfl 55 71 _ rfl (overEv K.ses x 0).vs rfl _ Tryz.underlying55 info_ev (by rw [ev_size]; omega) (by rw [ev_size]; omega) (zero_ev _) ?_; obtain ⟨w6, e6, hb6, hs6, hr6⟩ := boxed w4 (overEv K.ses x 0).vs 71; rw [e6])
        | (at_builtin; refine wpList_append_own _ rfl _ _ 55 rfl w.heap.size 71 i0 _ 11 104 Tryz.underlying55 hi hz0 hz1 hz2 rfl (by decide) _ _ _ rfl (own_keep hO4.out hb6) ⟨w4.heap.size, 0, none⟩ 1 1 (overEv K.ses x 0).vs.toList rfl rfl (World.news_of_block hr6) (one_cell_ev _) (le_maxLen (by omega)) (by omega) (by have := hb6.size; have := ho4.out.size; have := hb4.out.size; omega) ?_; intro v7 w7 HO7 hg7 _; replace HO7 := Lib.hid HO7; replace hg7 := Lib.hid hg7))
      go_ret
      rw [HR.out.1, HR.out.2]
      have hO7 : Out (fun k => k = W.heap.size) w6 w7 := Out.of_grown hg7.out (fun k e => (Option.some.inj e).symm)
      have z3 : W.heap.size < w3.heap.size := (Array.getElem?_eq_some_iff.1 hr3).1
      have s1 := HB.size
      have s4 := hb4.out.size
      have s5 := ho4.out.size
      have s6 := hb6.size
      have s7 := hO7.size
      refine ⟨_, rfl, HO7.out, ?_, ?_⟩
      · obtain ⟨a1, a2, a3, a4, hA⟩ := (hA4.out.later hb6).out hO7 (fun k hk e => by
          subst e
          rcases hk with q | q
          · exact hn3.out q
          · have := q.1; omega)
        exact ⟨_, _, _, _, hA.mono (fun k hk => hk.elim .inl (fun q => .inr ⟨by omega, by have := q.2; omega⟩)) (fun k hk => hk.elim (fun q => ⟨(hlt.out k q).1, by have := (hlt.out k q).2; omega⟩) (fun q => ⟨by omega, q.2⟩))⟩
      · exact (((Out.of_below hb4.out).trans' ho4.out).trans' (Out.of_below hb6)).trans (hO7.mono fun k hk => .inr ⟨by omega, by subst hk; omega⟩)
    · have qa : ((x.asks.length : Int) == 0) = false := by rw [beq_eq_false_iff_ne]; omega
      have qa2 : decide (x.asks.length = 0) = false := by rw [decide_eq_false_iff_not]; exact sa
      have HR : Hid (seenD x m = x ∧ seenEv K.ses x m = [(⟨3, K.ses, 0, m.key, m.val, m.ver, false, x.stamp, 0⟩ : EvD)]) := by show _ ∧ _; simp [seenD, seenEv, seenK, se, sa]
      clear se sa
      go_enter Tryz.func51, Tryz.ntmps51
      go_wp2
      go_region
      change Exit.then _ _ _ _ (World.drew (World.alloc W (.cells (⟨3, K.ses, 0, m.key, m.val, m.ver, false, x.stamp, 0⟩ : EvD).vs 71)))
      obtain ⟨w3, e3, hb3, hr3⟩ : ∃ w3, World.drew (World.alloc W (.cells (⟨3, K.ses, 0, m.key, m.val, m.ver, false, x.stamp, 0⟩ : EvD).vs 71)) = w3 ∧ Below W.heap.size W w3 ∧ w3.heap[W.heap.size]? = some (.cells (⟨3, K.ses, 0, m.key, m.val, m.ver, false, x.stamp, 0⟩ : EvD).vs 71 (0, 0)) := ⟨_, rfl, below_drew (below1 _ _), heap_alloc_new W _⟩
      rw [e3]
      clear e3
      have hHW := Lib.hid (CliAt.later hW.out hb3)
      have hb4 := Lib.hid (keepB HB hb3)
      replace d10 := keep hb3 d10
      have hO3 : Hid (w3.ownsRow w.heap.size 71 11 (.slice (some ⟨W.heap.size, 0, none⟩) 1 1) 1 (evCells [(⟨3, K.ses, 0, m.key, m.val, m.ver, false, x.stamp, 0⟩ : EvD)])) := by
        have := own_one (base := w.heap.size) hr3 (ev_size _) HB.size
        show World.ownsRow _ _ _ _ _ _ _
        simpa [evCells] using this
      go_wp2
      go_ret
      rw [HR.out.1, HR.out.2]
      obtain ⟨a1, a2, a3, a4, hA⟩ := hHW.out
      exact ⟨_, rfl, hO3.out, ⟨a1, a2, a3, a4, hA.widen (fun k hk => (hlt.out k hk).2) hB⟩, Out.of_below hb4.out⟩
  · have qe : (m.err != 0) = true := by rw [bne_iff_ne]; exact se
    have qe2 : decide (m.err = 0) = false := by rw [decide_eq_false_iff_not]; exact se
    have HR : Hid (seenD x m = restD x ∧ seenEv K.ses x m = [overEv K.ses x m.err]) := by show _ ∧ _; simp [seenD, seenEv, seenK, se]
    clear se
    go_enter Tryz.func51, Tryz.ntmps51
    go_wp2_with (first
      | (go_at_call 105; refine (over_any hW.out hBW m.err).mono ?_; rintro e w2 ⟨rfl, hA2, ho2⟩; replace hA2 := Lib.hid hA2; replace ho2 := Lib.hid ho2)
      | (refine wpList_buildSlice1 rfl 55 71 _ rfl _ rfl _ Tryz.underlying55 info_ev (by rw [ev_size]; omega) (by rw [ev_size]; omega) (zero_ev _) ?_; obtain ⟨w3, e3, hb3, hs3, hr3⟩ := boxed w2 (overEv K.ses x m.err).vs 71; rw [e3]))
    go_ret
    rw [HR.out.1, HR.out.2]
    refine ⟨_, rfl, ?_, hA2.out.wide HB.size ho2.out.size hb3 hlt.out hB, ((Out.of_below HB).trans' ho2.out).trans' (Out.of_below hb3)⟩
    have := own_one (base := w.heap.size) hr3 (ev_size _) (by have := HB.size; have := ho2.out.size; omega)
    simpa [evCells] using this
end
end Go.Proofs.YtjgloipgnnigmaaGreatDoor
