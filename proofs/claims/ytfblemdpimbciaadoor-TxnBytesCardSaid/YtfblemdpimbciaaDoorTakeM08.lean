/- Layer 8's bytes read, in plain Lean. -/
import Derived.Test.YtfblemdpimbciaaDoorPutM08
import Derived.Test.YtfblemdpimbciaaDoorRdM02
import Derived.Test.YtfblemdpimbciaaDoorFew08
namespace Go.Proofs.YtfblemdpimbciaaDoor
open Go.RowKit Go.Shelf

/-- What an id is read as. -/
def takeI (s : RS) : (Nat × Nat) × RS :=
  if (takeN (takeN s 1).2 4).2.isSome && idB ((takeN s 1).1 : Nat) ((takeN (takeN s 1).2 4).1 : Nat) then (((takeN s 1).1, (takeN (takeN s 1).2 4).1), (takeN (takeN s 1).2 4).2) else ((0, 0), none)
def takeR1 (s : RS) : Rd × RS := (⟨(takeT s 12).1, (takeN (takeT s 12).2 8).1⟩, (takeN (takeT s 12).2 8).2)
def takeW1 (s : RS) : Wr × RS := (⟨(takeT s 12).1, (takeV (takeT s 12).2).1⟩, (takeV (takeT s 12).2).2)
def takeRs (s : RS) : Nat → List Rd × RS
  | 0 => ([], s)
  | k + 1 => ((takeRs s k).1 ++ [(takeR1 (takeRs s k).2).1], (takeR1 (takeRs s k).2).2)
def takeWs (s : RS) : Nat → List Wr × RS
  | 0 => ([], s)
  | k + 1 => ((takeWs s k).1 ++ [(takeW1 (takeWs s k).2).1], (takeW1 (takeWs s k).2).2)
def txEnd (a b : Nat) (r : List Rd) (l : List Wr) (s : RS) : Tx × RS := if s.isSome && formedT ⟨a, b, r, l⟩ then (⟨a, b, r, l⟩, s) else (noTx, none)
/-- What a transaction is read as. -/
def takeTx (s : RS) : Tx × RS :=
  txEnd (takeI s).1.1 (takeI s).1.2 (takeRs (takeN (takeI s).2 1).2 (takeN (takeI s).2 1).1).1
    (takeWs (takeN (takeRs (takeN (takeI s).2 1).2 (takeN (takeI s).2 1).1).2 1).2 (takeN (takeRs (takeN (takeI s).2 1).2 (takeN (takeI s).2 1).1).2 1).1).1
    (takeWs (takeN (takeRs (takeN (takeI s).2 1).2 (takeN (takeI s).2 1).1).2 1).2 (takeN (takeRs (takeN (takeI s).2 1).2 (takeN (takeI s).2 1).1).2 1).1).2

theorem takeRs_len (s : RS) : ∀ k, (takeRs s k).1.length = k
  | 0 => rfl
  | k + 1 => by rw [takeRs, List.length_append, takeRs_len s k]; rfl
theorem takeWs_len (s : RS) : ∀ k, (takeWs s k).1.length = k
  | 0 => rfl
  | k + 1 => by rw [takeWs, List.length_append, takeWs_len s k]; rfl
theorem takeR1_none : takeR1 none = (⟨noStr, 0⟩, none) := rfl
theorem takeW1_none : takeW1 none = (⟨noStr, zVal⟩, none) := rfl
theorem takeRs_none {s : RS} {k : Nat} (h : (takeRs s k).2 = none) : ∀ j, (takeRs s (k + j)).2 = none
  | 0 => h
  | j + 1 => by rw [← Nat.add_assoc, takeRs, takeRs_none h j]; rfl
theorem takeWs_none {s : RS} {k : Nat} (h : (takeWs s k).2 = none) : ∀ j, (takeWs s (k + j)).2 = none
  | 0 => h
  | j + 1 => by rw [← Nat.add_assoc, takeWs, takeWs_none h j]; rfl
theorem takeRs_none' {s : RS} {k n : Nat} (h : (takeRs s k).2 = none) (hn : k ≤ n) : (takeRs s n).2 = none := by
  have := takeRs_none h (n - k)
  rwa [show k + (n - k) = n by omega] at this
theorem takeWs_none' {s : RS} {k n : Nat} (h : (takeWs s k).2 = none) (hn : k ≤ n) : (takeWs s n).2 = none := by
  have := takeWs_none h (n - k)
  rwa [show k + (n - k) = n by omega] at this
theorem takeRs_from_none (k : Nat) : (takeRs none k).2 = none := takeRs_none' (k := 0) rfl (Nat.zero_le _)
theorem takeWs_from_none (k : Nat) : (takeWs none k).2 = none := takeWs_none' (k := 0) rfl (Nat.zero_le _)
theorem txEnd_none (a b : Nat) (r : List Rd) (l : List Wr) : txEnd a b r l none = (noTx, none) := rfl
theorem txEnd_bad {a b : Nat} {r : List Rd} {l : List Wr} {s : RS} (h : formedT ⟨a, b, r, l⟩ = false) : txEnd a b r l s = (noTx, none) := by
  rw [txEnd, h, Bool.and_false]; rfl
theorem formedT_long {a b : Int} {r : List Rd} {l : List Wr} (h : 6 < r.length ∨ 6 < l.length) : formedT ⟨a, b, r, l⟩ = false := by
  unfold formedT
  rcases h with h | h
  · rw [decide_eq_false (p := r.length ≤ 6) (by omega)]; simp
  · rw [decide_eq_false (p := l.length ≤ 6) (by omega)]; simp

/-! ### What is put is taken -/
theorem takeI_put {a b : Nat} (h : idB a b = true) (r : List UInt8) : takeI (some (encId a b ++ r)) = ((a, b), some r) := by
  obtain ⟨a', b', ea, eb, h1, h2, h3, h4⟩ := idB_nat h
  have ea : a = a' := by omega
  have eb : b = b' := by omega
  subst ea eb
  have e1 := takeN_put (x := a) (n := 1) (by omega) (beL b 4 ++ r)
  have e2 := takeN_put (x := b) (n := 4) (by omega) r
  rw [show encId (a : Int) (b : Int) ++ r = beL a 1 ++ (beL b 4 ++ r) by simp [encId]]
  unfold takeI
  simp only [e1, e2, Option.isSome_some, Bool.true_and]
  rw [if_pos h]
theorem takeI_inv {s : RS} {a b : Nat} {r : List UInt8} (h : takeI s = ((a, b), some r)) : s = some (encId a b ++ r) ∧ idB a b = true := by
  unfold takeI at h
  split at h
  · rename_i hc
    simp only [Bool.and_eq_true] at hc
    simp only [Prod.mk.injEq] at h
    obtain ⟨⟨h1, h2⟩, h3⟩ := h
    obtain ⟨l, hl⟩ := Option.isSome_iff_exists.1 (show (takeN s 1).2.isSome = true by
      cases e : (takeN s 1).2 with
      | none => rw [e, takeN_none] at h3; cases h3
      | some l => rfl)
    have e1 := takeN_inv (s := s) (n := 1) (x := a) (r := l) (by rw [← h1, ← hl])
    rw [hl] at h2 h3 hc
    have e2 := takeN_inv (s := some l) (n := 4) (x := b) (r := r) (by rw [← h2, ← h3])
    injection e2 with e2
    subst e2
    rw [h1, h2] at hc
    exact ⟨by rw [e1]; simp [encId], hc.2⟩
  · cases h
theorem takeR1_put {x : Rd} (hk : x.key.size ≤ 12) (hv : x.ver < 18446744073709551616) (r : List UInt8) : takeR1 (some (encR x ++ r)) = (x, some r) := by
  have e1 := takeT_put (s := x.key) (most := 12) hk (by decide) (beL x.ver 8 ++ r)
  have e2 := takeN_put (x := x.ver) (n := 8) (by omega) r
  rw [show encR x ++ r = beL x.key.size 2 ++ x.key.data.toList ++ (beL x.ver 8 ++ r) by simp [encR]]
  unfold takeR1
  simp only [e1, e2]
theorem takeW1_put {x : Wr} (hk : x.key.size ≤ 12) (hf : formedV x.val = true) (hv : x.val.bits < 18446744073709551616) (r : List UInt8) : takeW1 (some (encW x ++ r)) = (x, some r) := by
  have e1 := takeT_put (s := x.key) (most := 12) hk (by decide) (encV x.val ++ r)
  have e2 := takeV_put hv hf r
  rw [show encW x ++ r = beL x.key.size 2 ++ x.key.data.toList ++ (encV x.val ++ r) by simp [encW, putV, hf]]
  unfold takeW1
  simp only [e1, e2]
theorem takeR1_inv {s : RS} {x : Rd} {r : List UInt8} (h : takeR1 s = (x, some r)) : s = some (encR x ++ r) := by
  unfold takeR1 at h
  simp only [Prod.mk.injEq] at h
  obtain ⟨h1, h3⟩ := h
  obtain ⟨l, hl⟩ := Option.isSome_iff_exists.1 (show (takeT s 12).2.isSome = true by
    cases e : (takeT s 12).2 with
    | none => rw [e, takeN_none] at h3; cases h3
    | some l => rfl)
  have e1 := (takeT_inv (s := s) (most := 12) (t := (takeT s 12).1) (r := l) (by rw [← hl])).1
  rw [hl] at h1 h3
  have e2 := takeN_inv (s := some l) (n := 8) (x := (takeN (some l) 8).1) (r := r) (by rw [← h3])
  injection e2 with e2
  generalize (takeN (some l) 8).1 = n at h1 e2
  rw [e1, ← h1, e2]
  simp [encR]
theorem takeW1_inv {s : RS} {x : Wr} {r : List UInt8} (h : takeW1 s = (x, some r)) : s = some (encW x ++ r) := by
  unfold takeW1 at h
  simp only [Prod.mk.injEq] at h
  obtain ⟨h1, h3⟩ := h
  obtain ⟨l, hl⟩ := Option.isSome_iff_exists.1 (show (takeT s 12).2.isSome = true by
    cases e : (takeT s 12).2 with
    | none => rw [e, takeV_none] at h3; cases h3
    | some l => rfl)
  have e1 := (takeT_inv (s := s) (most := 12) (t := (takeT s 12).1) (r := l) (by rw [← hl])).1
  rw [hl] at h1 h3
  have e2 := takeV_inv (s := some l) (v := (takeV (some l)).1) (r := r) (by rw [← h3])
  obtain ⟨e2, hf⟩ := e2
  injection e2 with e2
  generalize (takeV (some l)).1 = v at h1 e2 hf
  rw [e1, ← h1, e2]
  simp [encW, putV, hf]
theorem takeRs_put : ∀ (l : List Rd), (∀ x ∈ l, x.key.size ≤ 12 ∧ x.ver < 18446744073709551616) → ∀ (r : List UInt8) (k : Nat), k ≤ l.length → takeRs (some (l.flatMap encR ++ r)) k = (l.take k, some ((l.drop k).flatMap encR ++ r))
  | l, h, r, 0, _ => by simp [takeRs]
  | l, h, r, k + 1, hk => by
    have ih := takeRs_put l h r k (by omega)
    have hx := h l[k] (List.getElem_mem (by omega))
    have e := takeR1_put hx.1 hx.2 ((l.drop (k + 1)).flatMap encR ++ r)
    have e2 : l.drop k = l[k] :: l.drop (k + 1) := by rw [List.drop_eq_getElem_cons]
    rw [takeRs, ih, e2, List.flatMap_cons, List.append_assoc, e, List.take_succ_eq_append_getElem (by omega)]
theorem takeWs_put : ∀ (l : List Wr), (∀ x ∈ l, x.key.size ≤ 12 ∧ formedV x.val = true ∧ x.val.bits < 18446744073709551616) → ∀ (r : List UInt8) (k : Nat), k ≤ l.length → takeWs (some (l.flatMap encW ++ r)) k = (l.take k, some ((l.drop k).flatMap encW ++ r))
  | l, h, r, 0, _ => by simp [takeWs]
  | l, h, r, k + 1, hk => by
    have ih := takeWs_put l h r k (by omega)
    have hx := h l[k] (List.getElem_mem (by omega))
    have e := takeW1_put hx.1 hx.2.1 hx.2.2 ((l.drop (k + 1)).flatMap encW ++ r)
    have e2 : l.drop k = l[k] :: l.drop (k + 1) := by rw [List.drop_eq_getElem_cons]
    rw [takeWs, ih, e2, List.flatMap_cons, List.append_assoc, e, List.take_succ_eq_append_getElem (by omega)]
theorem takeRs_inv {s : RS} : ∀ (n : Nat) {r : List UInt8}, (takeRs s n).2 = some r → s = some ((takeRs s n).1.flatMap encR ++ r)
  | 0, r, h => by rw [show s = some r from h]; rfl
  | n + 1, r, h => by
    rw [takeRs] at h ⊢
    obtain ⟨l, hl⟩ := Option.isSome_iff_exists.1 (show (takeRs s n).2.isSome = true by
      cases e : (takeRs s n).2 with
      | none => rw [e, takeR1_none] at h; cases h
      | some l => rfl)
    have ih := takeRs_inv n hl
    rw [hl] at h ⊢
    have e := takeR1_inv (s := some l) (x := (takeR1 (some l)).1) (r := r) (by rw [← h])
    injection e with e
    simp only [List.flatMap_append, List.flatMap_cons, List.flatMap_nil, List.append_nil, List.append_assoc]
    rw [← e]
    exact ih
theorem takeWs_inv {s : RS} : ∀ (n : Nat) {r : List UInt8}, (takeWs s n).2 = some r → s = some ((takeWs s n).1.flatMap encW ++ r)
  | 0, r, h => by rw [show s = some r from h]; rfl
  | n + 1, r, h => by
    rw [takeWs] at h ⊢
    obtain ⟨l, hl⟩ := Option.isSome_iff_exists.1 (show (takeWs s n).2.isSome = true by
      cases e : (takeWs s n).2 with
      | none => rw [e, takeW1_none] at h; cases h
      | some l => rfl)
    have ih := takeWs_inv n hl
    rw [hl] at h ⊢
    have e := takeW1_inv (s := some l) (x := (takeW1 (some l)).1) (r := r) (by rw [← h])
    injection e with e
    simp only [List.flatMap_append, List.flatMap_cons, List.flatMap_nil, List.append_nil, List.append_assoc]
    rw [← e]
    exact ih
structure TxGood (t : Tx) : Prop where
  ver : ∀ x ∈ t.rds, x.ver < 18446744073709551616
  bits : ∀ x ∈ t.wrs, x.val.bits < 18446744073709551616
theorem formedT_parts {t : Tx} (h : formedT t = true) : idB t.ses t.seq = true ∧ t.rds.length ≤ 6 ∧ t.wrs.length ≤ 6 ∧ (∀ x ∈ t.rds, x.key.size ≤ 12) ∧ (∀ x ∈ t.wrs, x.key.size ≤ 12 ∧ formedV x.val = true) := by
  have hr := formedT_rises' h
  simp only [formedT, Bool.and_eq_true, decide_eq_true_eq] at h
  refine ⟨h.1.1.1.1.1.1, h.1.1.1.1.1.2, h.1.1.1.1.2, fun x hx => ?_, fun x hx => ?_⟩
  · obtain ⟨k, hk, rfl⟩ := List.mem_iff_getElem.1 hx
    have := rises_key hr.1 hk
    rw [rKeys_at (s := t.rds[k].key) (n := t.rds[k].ver) hk (by rw [List.getD_eq_getElem?_getD, List.getElem?_eq_getElem hk]; rfl)] at this
    exact keyB_size this
  · obtain ⟨k, hk, rfl⟩ := List.mem_iff_getElem.1 hx
    have := rises_key hr.2 hk
    rw [wKeys_at (s := t.wrs[k].key) (v := t.wrs[k].val) hk (by rw [List.getD_eq_getElem?_getD, List.getElem?_eq_getElem hk]; rfl)] at this
    exact ⟨keyB_size this, List.all_eq_true.1 h.2 _ (List.getElem_mem hk)⟩
theorem takeTx_put {t : Tx} (hf : formedT t = true) (hg : TxGood t) (r : List UInt8) : takeTx (some (encT t ++ r)) = (t, some r) := by
  obtain ⟨h1, h2, h3, h4, h5⟩ := formedT_parts hf
  obtain ⟨a, b, ea, eb, _⟩ := idB_nat h1
  have e1 := takeI_put (a := a) (b := b) (by rw [← ea, ← eb]; exact h1) (beL t.rds.length 1 ++ (t.rds.flatMap encR ++ (beL t.wrs.length 1 ++ (t.wrs.flatMap encW ++ r))))
  have e2 := takeN_put (x := t.rds.length) (n := 1) (by omega) (t.rds.flatMap encR ++ (beL t.wrs.length 1 ++ (t.wrs.flatMap encW ++ r)))
  have e3 := takeRs_put t.rds (fun x hx => ⟨h4 x hx, hg.ver x hx⟩) (beL t.wrs.length 1 ++ (t.wrs.flatMap encW ++ r)) t.rds.length (Nat.le_refl _)
  have e4 := takeN_put (x := t.wrs.length) (n := 1) (by omega) (t.wrs.flatMap encW ++ r)
  have e5 := takeWs_put t.wrs (fun x hx => ⟨(h5 x hx).1, (h5 x hx).2, hg.bits x hx⟩) r t.wrs.length (Nat.le_refl _)
  rw [List.take_length, List.drop_length, List.flatMap_nil, List.nil_append] at e3 e5
  have e0 : encT t ++ r = encId a b ++ (beL t.rds.length 1 ++ (t.rds.flatMap encR ++ (beL t.wrs.length 1 ++ (t.wrs.flatMap encW ++ r)))) := by
    simp only [encT, encHead, putI, h1, if_true, List.append_assoc]
    rw [ea, eb]
  rw [e0]
  unfold takeTx
  simp only [e1, e2, e3, e4, e5]
  have et : (⟨a, b, t.rds, t.wrs⟩ : Tx) = t := by rw [← ea, ← eb]
  rw [txEnd, et, hf]
  rfl
theorem takeTx_inv {s : RS} {t : Tx} {r : List UInt8} (h : takeTx s = (t, some r)) : s = some (encT t ++ r) ∧ formedT t = true := by
  unfold takeTx at h
  obtain ⟨a, b, s1, hI⟩ : ∃ a b s1, takeI s = ((a, b), s1) := ⟨_, _, _, rfl⟩
  simp only [hI] at h
  obtain ⟨n, s2, hn⟩ : ∃ n s2, takeN s1 1 = (n, s2) := ⟨_, _, rfl⟩
  simp only [hn] at h
  obtain ⟨rs, s3, hr⟩ : ∃ rs s3, takeRs s2 n = (rs, s3) := ⟨_, _, rfl⟩
  simp only [hr] at h
  obtain ⟨m, s4, hm⟩ : ∃ m s4, takeN s3 1 = (m, s4) := ⟨_, _, rfl⟩
  simp only [hm] at h
  obtain ⟨ws, s5, hw⟩ : ∃ ws s5, takeWs s4 m = (ws, s5) := ⟨_, _, rfl⟩
  simp only [hw] at h
  unfold txEnd at h
  split at h
  · rename_i hc
    simp only [Bool.and_eq_true] at hc
    simp only [Prod.mk.injEq] at h
    obtain ⟨rfl, rfl⟩ := h
    have g1 := takeWs_inv (s := s4) m (r := r) (by rw [hw])
    have l1 := takeWs_len s4 m
    rw [hw] at g1 l1
    subst g1
    have g2 := takeN_inv hm
    subst g2
    have g3 := takeRs_inv (s := s2) n (r := beL m 1 ++ (ws.flatMap encW ++ r)) (by rw [hr])
    have l2 := takeRs_len s2 n
    rw [hr] at g3 l2
    subst g3
    have g4 := takeN_inv hn
    subst g4
    have g5 := takeI_inv hI
    refine ⟨?_, hc.2⟩
    rw [g5.1]
    simp only [encT, encHead, putI, g5.2, if_true, List.append_assoc]
    simp only at l1 l2
    rw [l1, l2]
  · cases h
theorem takeRs_good (s : RS) : ∀ n, ∀ x ∈ (takeRs s n).1, x.ver < 18446744073709551616
  | 0, x, hx => by cases hx
  | n + 1, x, hx => by
    rw [takeRs] at hx
    rcases List.mem_append.1 hx with hx | hx
    · exact takeRs_good s n x hx
    · rw [List.mem_singleton] at hx
      subst hx
      exact takeN_lt _ 8
theorem takeWs_good (s : RS) : ∀ n, ∀ x ∈ (takeWs s n).1, smallV x.val
  | 0, x, hx => by cases hx
  | n + 1, x, hx => by
    rw [takeWs] at hx
    rcases List.mem_append.1 hx with hx | hx
    · exact takeWs_good s n x hx
    · rw [List.mem_singleton] at hx
      subst hx
      exact takeV_small _
theorem takeTx_good (s : RS) : TxGood (takeTx s).1 := by
  unfold takeTx txEnd
  split
  · exact ⟨takeRs_good _ _, fun x hx => (takeWs_good _ _ x hx).1⟩
  · exact ⟨fun x hx => (by cases hx), fun x hx => (by cases hx)⟩
/-- No beginning of a transaction's bytes is one's. -/
theorem takeTx_cut {t : Tx} (hf : formedT t = true) (hg : TxGood t) {k : Nat} (hk : k < (encT t).length) : takeTx (some ((encT t).take k)) = (noTx, none) := by
  obtain ⟨u, s, hu⟩ : ∃ u s, takeTx (some ((encT t).take k)) = (u, s) := ⟨_, _, rfl⟩
  cases s with
  | none =>
    rw [hu]
    unfold takeTx txEnd at hu
    split at hu
    · rename_i hc
      simp only [Bool.and_eq_true] at hc
      simp only [Prod.mk.injEq] at hu
      rw [hu.2] at hc
      cases hc.1
    · simp only [Prod.mk.injEq] at hu
      rw [← hu.1]
  | some r =>
    exfalso
    obtain ⟨h1, h2⟩ := takeTx_inv hu
    injection h1 with h1
    have e : encT t = encT u ++ (r ++ (encT t).drop k) := by rw [← List.append_assoc, ← h1, List.take_append_drop]
    have hg2 : TxGood u := by
      have := takeTx_good (some ((encT t).take k))
      rw [hu] at this
      exact this
    have h3 := takeTx_put h2 hg2 (r ++ (encT t).drop k)
    rw [← e] at h3
    have h4 := takeTx_put hf hg []
    rw [List.append_nil] at h4
    rw [h4] at h3
    simp only [Prod.mk.injEq, Option.some.injEq] at h3
    have h5 : ((encT t).drop k).length = 0 := by
      have := congrArg List.length h3.2
      rw [List.length_append] at this
      simp only [List.length_nil] at this
      omega
    rw [List.length_drop] at h5
    omega
end Go.Proofs.YtfblemdpimbciaaDoor
