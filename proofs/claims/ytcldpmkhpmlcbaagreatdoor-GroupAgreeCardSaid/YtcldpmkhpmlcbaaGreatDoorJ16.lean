/- Layer 17 in plain Lean: what stays true of a machine. -/
import Derived.Test.YtcldpmkhpmlcbaaGreatDoorJ9
import Derived.Test.YtcldpmkhpmlcbaaGreatDoorJ2
import Derived.Test.YtcldpmkhpmlcbaaGreatDoorJ14
import Derived.Test.YtcldpmkhpmlcbaaGreatDoorJ15
set_option linter.unusedVariables false
set_option linter.unusedSimpArgs false
namespace Go.Proofs.YtcldpmkhpmlcbaaGreatDoor

/-! ### The queue's ids -/
def idsQ (q : QD) : List IdD := q.l.map OneD.id
theorem hasQ_iff {q : QD} {i : IdD} : hasQ q i = true ↔ i ∈ idsQ q := by
  unfold hasQ findK idsQ
  rw [decide_eq_true_iff, List.findIdx_lt_length, List.mem_map]
  simp
theorem ids_begin {q : QD} {i : IdD} {gs : List Int} (h : beginK q i gs = 0) : (idsQ (beginQ q i gs)).Perm (idsQ q ++ [i]) ∧ (beginQ q i gs).l.length = q.l.length + 1 ∧ (beginQ q i gs).g = q.g := by
  rw [beginQ, if_pos h]
  refine ⟨?_, ?_, rfl⟩
  · have := (sortQ_perm (q.l ++ [newOne q i gs])).map OneD.id
    rw [List.map_append] at this
    exact this
  · show (sortQ _).length = _
    rw [sortQ_len]; simp
theorem begin_id {q : QD} {i : IdD} {gs : List Int} (h : beginK q i gs ≠ 0) : beginQ q i gs = q := by rw [beginQ, if_neg h]
theorem ids_learn (q : QD) (i : IdD) (g : Int) (s : Nat) : (idsQ (learnQ q i g s)).Perm (idsQ q) ∧ (learnQ q i g s).l.length = q.l.length ∧ (learnQ q i g s).g = q.g := by
  rw [learnQ]
  split
  · rename_i e
    have e1 : hasQ q i = true := by
      cases h : hasQ q i
      · rw [learnK, if_pos h] at e; cases e
      · rfl
    obtain ⟨hk, hid, hm⟩ := hasQ_id e1
    refine ⟨?_, ?_, rfl⟩
    · have := (sortQ_perm (q.l.set (findK q.l i) (learnOne (oneQ q i) g s))).map OneD.id
      rw [set_ids hk (by rfl)] at this
      exact this
    · show (sortQ _).length = _
      rw [sortQ_len, List.length_set]
  · exact ⟨List.Perm.refl _, rfl, rfl⟩
theorem ids_done (q : QD) : idsQ (doneQ q) = (idsQ q).drop 1 := by
  unfold idsQ doneQ
  exact List.map_drop
theorem next_head {q : QD} {i : IdD} {s : Nat} (h : nextQ q = some (i, s)) : ∃ l, idsQ q = i :: l := by
  unfold nextQ at h
  unfold idsQ
  split at h
  · cases h
  · rename_i o l e
    split at h
    · cases h
      exact ⟨l.map OneD.id, by rw [e]; rfl⟩
    · cases h
/-! ### A transaction's groups -/
theorem groupsT_ok {c : Cfg} {t : Tx} (hc : formedB c = true) : (groupsT c t).Pairwise (· < ·) ∧ (∀ x ∈ groupsT c t, 0 ≤ x ∧ x < (c.reps.length : Int)) ∧ (groupsT c t).length ≤ c.reps.length := by
  unfold groupsT
  split
  · unfold groupsL
    rw [if_pos hc]
    have h := groupsTo_rises c (rKeys t ++ wKeys t) c.reps.length
    refine ⟨h.1, fun x hx => ?_, groupsTo_length _ _ _⟩
    obtain ⟨n, hn, _, rfl⟩ := (h.2 x).1 hx
    omega
  · exact ⟨List.Pairwise.nil, fun x hx => (by cases hx), Nat.zero_le _⟩
theorem reps_four {c : Cfg} (h : formedB c = true) : 1 ≤ c.reps.length ∧ c.reps.length ≤ 4 := by
  simp only [formedB, sizesB, Bool.and_eq_true, decide_eq_true_eq] at h
  exact ⟨h.1.1.1.1, h.1.1.1.2⟩
theorem rightTo_of {gs : List Int} (hp : gs.Pairwise (· < ·)) (hb : ∀ x ∈ gs, 0 ≤ x ∧ x < 4) : ∀ k, k ≤ gs.length → rightTo gs k = true
  | 0, _ => rfl
  | k + 1, hk => by
    rw [rightTo, rightTo_of hp hb k (by omega)]
    have e : gs.getD k 0 = gs[k] := by simp [List.getD_eq_getElem?_getD, show k < gs.length by omega]
    have h1 := hb gs[k] (List.getElem_mem _)
    rw [e]
    have h2 : (k == 0 || decide (gs.getD (k - 1) 0 < gs[k])) = true := by
      by_cases hk0 : k = 0
      · simp [hk0]
      · have e2 : gs.getD (k - 1) 0 = gs[k - 1] := by simp [List.getD_eq_getElem?_getD, show k - 1 < gs.length by omega]
        rw [e2]
        have := List.pairwise_iff_getElem.1 hp (k - 1) k (by omega) (by omega) (by omega)
        simp [this]
    rw [h2]
    simp [h1.1, h1.2]
theorem right_groups {c : Cfg} {t : Tx} {g : Int} (hc : formedB c = true) (hg : (groupsT c t).contains g = true) : rightB g (groupsT c t) = true := by
  obtain ⟨h1, h2, h3⟩ := groupsT_ok (t := t) hc
  have h4 := reps_four hc
  rw [rightB, rightTo_of h1 (fun x hx => by have := h2 x hx; omega) _ (Nat.le_refl _), hg]
  rfl
theorem groups_nodup {c : Cfg} {t : Tx} (hc : formedB c = true) : (groupsT c t).Nodup := (groupsT_ok (t := t) hc).1.imp fun h => by omega
theorem rises_pw {l : List ByteArray} (h : risesTo l l.length = true) : l.Pairwise (fun a b => lessS a b = true) ∧ ∀ k ∈ l, keyB k = true := by
  constructor
  · rw [List.pairwise_iff_getElem]
    intro i j hi hj hij
    have := rises_mono h hij hj
    simpa [List.getD_eq_getElem?_getD, hi, hj] using this
  · intro k hk
    obtain ⟨i, hi, rfl⟩ := List.mem_iff_getElem.1 hk
    have := rises_key h hi
    simpa [List.getD_eq_getElem?_getD, hi] using this
theorem formed_parts {t : Tx} (h : formedT t = true) : idB t.ses t.seq = true ∧ risesTo (rKeys t) (rKeys t).length = true ∧ risesTo (wKeys t) (wKeys t).length = true ∧ valsB t.wrs = true := by
  simp only [formedT, Bool.and_eq_true] at h
  refine ⟨h.1.1.1.1.1.1, ?_, ?_, h.2⟩
  · have := h.1.1.2
    simpa [rKeys] using this
  · have := h.1.2
    simpa [wKeys] using this
theorem wrsOK_of {l : List Wr} (hp : (l.map Wr.key).Pairwise (fun a b => lessS a b = true)) (hk : ∀ x ∈ l, keyB x.key = true) (hv : ∀ x ∈ l, formedV x.val = true) : wrsOK l = true := by
  have : ∀ k, k ≤ l.length → wrsTo14 l k = true := by
    intro k
    induction k with
    | zero => intro _; rfl
    | succ k ih =>
      intro hkl
      have e : l.getD k noWr = l[k] := by simp [List.getD_eq_getElem?_getD, show k < l.length by omega]
      have h2 : (k == 0 || lessS (l.getD (k - 1) noWr).key l[k].key) = true := by
        by_cases hk0 : k = 0
        · simp [hk0]
        · have e2 : l.getD (k - 1) noWr = l[k - 1] := by simp [List.getD_eq_getElem?_getD, show k - 1 < l.length by omega]
          rw [e2]
          have := List.pairwise_iff_getElem.1 hp (k - 1) k (by simp; omega) (by simp; omega) (by omega)
          simp only [List.getElem_map] at this
          rw [this]; simp
      rw [wrsTo14, ih (by omega), wrOK, e, hk _ (List.getElem_mem _), hv _ (List.getElem_mem _), h2]
      rfl
  exact this _ (Nat.le_refl _)
theorem wrsOK_cut {c : Cfg} {t : Tx} {g : Int} (h : formedT t = true) : wrsOK (writesL c t g) = true := by
  obtain ⟨_, _, h2, h3⟩ := formed_parts h
  obtain ⟨h4, h5⟩ := rises_pw h2
  refine wrsOK_of ?_ (fun x hx => h5 _ (List.mem_map_of_mem (List.mem_filter.1 hx |>.1))) (fun x hx => List.all_eq_true.1 h3 x (List.mem_filter.1 hx |>.1))
  exact h4.sublist ((List.filter_sublist).map Wr.key)
theorem writes_six {c : Cfg} {t : Tx} {g : Int} (h : formedT t = true) : (writesL c t g).length ≤ 6 := Nat.le_trans (List.length_filter_le _ _) (formed_six h).2
/-! ### The invariant -/
structure WOK (c : Cfg) (g : Int) (i : IdD) (v : WaitD) : Prop where
  id : idT v.t = i
  f : formedT v.t = true
  gs : v.gs = groupsT c v.t
  me : v.gs.contains g = true
  tal : Tally v.gs v.vs
structure MOK (c : Cfg) (g : Int) (n : Nat) (m : MachD) : Prop where
  cf : formedB c = true
  g0 : 0 ≤ g
  g1 : g < (c.reps.length : Int)
  q : QOK m.q
  qg : m.q.g = g
  ids : ∀ i, (getM m.wt i).isSome = true ↔ i ∈ idsQ m.q
  w : ∀ i v, getM m.wt i = some v → WOK c g i v
  dis : ∀ i, (getM m.dc i).isSome = true → getM m.wt i = none
  s : StOK m.s
  a : m.a.length + m.s.low = m.s.last + 1
  cnt : m.s.last + m.q.l.length ≤ n
  its : (items m.s.ks).length ≤ 6 * m.s.last
  st : ∀ k s, getM m.st k = some s → s < 18446744073709551616
  dk : ∀ i, (getM m.dc i).isSome = true → idB i.ses i.seq = true
section
variable {c : Cfg} {g : Int} {n : Nat} {m : MachD}
theorem MOK.more (h : MOK c g n m) {n' : Nat} (hn : n ≤ n') : MOK c g n' m := { h with cnt := Nat.le_trans h.cnt hn }
theorem MOK.has (h : MOK c g n m) {i : IdD} : hasQ m.q i = (getM m.wt i).isSome := by
  rw [Bool.eq_iff_iff, hasQ_iff, h.ids]
theorem MOK.g4 (h : MOK c g n m) : g < 4 := by
  have := h.g1
  have := reps_four h.cf
  omega
theorem WOK.four {i : IdD} {v : WaitD} (h : WOK c g i v) (hc : formedB c = true) : v.gs.length ≤ 4 := by
  rw [h.gs]
  have := (groupsT_ok (t := v.t) hc).2.2
  have := reps_four hc
  omega
theorem mach0_ok (hc : formedB c = true) (h0 : 0 ≤ g) (h1 : g < (c.reps.length : Int)) : MOK c g 0 (mach0 g) := by
  have := reps_four hc
  exact ⟨hc, h0, h1, q0_ok ⟨h0, by omega⟩, rfl, fun i => by simp [mach0, idsQ, q0, getM_nil], fun i v h => by simp [mach0, getM_nil] at h, fun i h => by simp [mach0, getM_nil], st0_ok, rfl, Nat.le_refl _, Nat.le_refl _, fun k s h => by simp [mach0, getM_nil] at h, fun i h => by simp [mach0, getM_nil] at h⟩
/-- Its waiting ones are others, as many and with the same ids. -/
theorem MOK.setW (h : MOK c g n m) {i : IdD} {v : WaitD} (hi : (getM m.wt i).isSome = true) (hv : WOK c g i v) : MOK c g n { m with wt := putM m.wt i v } :=
  { h with
    ids := fun j => by
      rw [getM_put]
      by_cases e : j = i
      · subst e; rw [if_pos rfl]; simp [← h.ids, hi]
      · rw [if_neg e]; exact h.ids j
    w := fun j u hu => by
      rw [getM_put] at hu
      by_cases e : j = i
      · subst e; rw [if_pos rfl] at hu; cases hu; exact hv
      · rw [if_neg e] at hu; exact h.w j u hu
    dis := fun j hj => by
      rw [getM_put]
      have := h.dis j hj
      by_cases e : j = i
      · subst e; rw [this] at hi; cases hi
      · rw [if_neg e]; exact this }
theorem MOK.setQ (h : MOK c g n m) (i : IdD) (h' : Int) (s : Nat) : MOK c g n { m with q := learnQ m.q i h' s } := by
  obtain ⟨e1, e2, e3⟩ := ids_learn m.q i h' s
  exact { h with q := learn_ok h.q i h' s, qg := e3.trans h.qg, ids := fun j => (h.ids j).trans e1.mem_iff.symm, cnt := by show _ + _ ≤ _; rw [e2]; exact h.cnt }
theorem MOK.setSt (h : MOK c g n m) {st : List (FromD × Nat)} (hs : ∀ k s, getM st k = some s → s < 18446744073709551616) : MOK c g n { m with st := st } := { h with st := hs }
theorem MOK.setVo (h : MOK c g n m) (vo : List (FromD × Bool)) : MOK c g n { m with vo := vo } := { h with }
theorem heard_ok (h : MOK c g n m) (k : Int) (i : IdD) (hh : Int) {s : Nat} (hs : s < 18446744073709551616) (y : Bool) : MOK c g n (heardM g m k i hh s y) := by
  unfold heardM
  split
  · exact h
  · split
    · rename_i hw
      split
      · exact h.setQ i hh s
      · obtain ⟨v, hv⟩ := Option.isSome_iff_exists.1 hw
        have e : waitOf m i = v := by rw [waitOf, hv]; rfl
        rw [e]
        have h1 := h.w i v hv
        exact h.setW hw { h1 with tal := h1.tal.put hh y }
    · split
      · split
        · exact h
        · refine h.setSt fun k s' hk => ?_
          rw [getM_put] at hk
          split at hk
          · cases hk; exact hs
          · exact h.st k s' hk
      · split
        · exact h
        · exact h.setVo _
end
/-! ### A new one -/
theorem learnStep_fold {i : IdD} : ∀ (gs : List Int) {q : QD} {st : List (FromD × Nat)}, QOK q → (∀ k s, getM st k = some s → s < 18446744073709551616) →
    QOK (gs.foldl (learnStep i) (q, st)).1 ∧ (gs.foldl (learnStep i) (q, st)).1.g = q.g ∧ (idsQ (gs.foldl (learnStep i) (q, st)).1).Perm (idsQ q) ∧ (gs.foldl (learnStep i) (q, st)).1.l.length = q.l.length ∧ ∀ k s, getM (gs.foldl (learnStep i) (q, st)).2 k = some s → s < 18446744073709551616
  | [], q, st, hq, hs => ⟨hq, rfl, List.Perm.refl _, rfl, hs⟩
  | h :: gs, q, st, hq, hs => by
    rw [List.foldl_cons]
    have hs2 : ∀ k s, getM (delM st (i, h)) k = some s → s < 18446744073709551616 := fun k s hk => by
      rw [getM_del] at hk
      split at hk
      · cases hk
      · exact hs k s hk
    cases e : getM st (i, h) with
    | none =>
      have e2 : learnStep i (q, st) h = (q, delM st (i, h)) := by rw [learnStep, e]
      rw [e2]
      exact learnStep_fold gs hq hs2
    | some s =>
      have e2 : learnStep i (q, st) h = (learnQ q i h s, delM st (i, h)) := by rw [learnStep, e]
      rw [e2]
      obtain ⟨p1, p2, p3⟩ := ids_learn q i h s
      obtain ⟨r1, r2, r3, r4, r5⟩ := learnStep_fold (i := i) gs (learn_ok hq i h s) hs2
      exact ⟨r1, r2.trans p3, r3.trans p1, r4.trans p2, r5⟩
theorem voteStep_fold {i : IdD} {gs0 : List Int} : ∀ (gs : List Int) {vs : List (Int × Bool)} {vo : List (FromD × Bool)}, Tally gs0 vs → Tally gs0 (gs.foldl (voteStep gs0 i) (vs, vo)).1
  | [], vs, vo, h => h
  | g :: gs, vs, vo, h => by
    rw [List.foldl_cons]
    unfold voteStep
    cases e : getM vo (i, g) with
    | none => exact voteStep_fold gs h
    | some y => exact voteStep_fold gs (h.put g y)
section
variable {c : Cfg} {g : Int} {n : Nat} {m : MachD}
theorem beginW_four {t : Tx} (h : beginW c g m t = 4) : (groupsT c t).contains g = true ∧ getM m.dc (idT t) = none ∧ getM m.wt (idT t) = none ∧ beginK m.q (idT t) (groupsT c t) = 0 := by
  unfold beginW at h
  split at h; · cases h
  rename_i h1
  split at h; · cases h
  rename_i h2
  split at h; · cases h
  rename_i h3
  split at h; · cases h
  rename_i h4
  refine ⟨by simpa using h1, ?_, ?_, by simpa using h4⟩
  · cases e : getM m.dc (idT t) with
    | none => rfl
    | some v => rw [e] at h2; exact absurd rfl h2
  · cases e : getM m.wt (idT t) with
    | none => rfl
    | some v => rw [e] at h3; exact absurd rfl h3
theorem begin_okM (h : MOK c g n m) {t : Tx} (ht : formedT t = true) : MOK c g (n + 1) (beginM c g m t) := by
  unfold beginM
  split
  · rename_i hW
    obtain ⟨h1, h2, h3, h4⟩ := beginW_four hW
    obtain ⟨p1, p2, p3⟩ := ids_begin h4
    obtain ⟨r1, r2, r3, r4, r5⟩ := learnStep_fold (i := idT t) (groupsT c t) (begin_ok h.q (idT t) (groupsT c t)) h.st
    have hv : WOK c g (idT t) ⟨t, groupsT c t, ((groupsT c t).foldl (voteStep (groupsT c t) (idT t)) ([], m.vo)).1⟩ :=
      ⟨rfl, ht, rfl, h1, voteStep_fold _ ⟨groups_nodup h.cf, List.Pairwise.nil, fun v hv => by cases hv⟩⟩
    refine { h with q := r1, qg := (r2.trans p3).trans h.qg, ids := fun j => ?_, w := fun j u hu => ?_, dis := fun j hj => ?_, cnt := ?_, st := r5 }
    · show (getM (putM m.wt (idT t) _) j).isSome = true ↔ j ∈ idsQ ((groupsT c t).foldl (learnStep (idT t)) (beginQ m.q (idT t) (groupsT c t), m.st)).1
      rw [(r3.trans p1).mem_iff, getM_put, List.mem_append, List.mem_singleton]
      by_cases e : j = idT t
      · simp [e]
      · rw [if_neg e, h.ids]; simp [e]
    · have hu' : getM (putM m.wt (idT t) _) j = some u := hu
      rw [getM_put] at hu'
      by_cases e : j = idT t
      · rw [if_pos e] at hu'; cases hu'; rw [e]; exact hv
      · rw [if_neg e] at hu'; exact h.w j u hu'
    · show getM (putM m.wt (idT t) _) j = none
      have hj' : (getM m.dc j).isSome = true := hj
      rw [getM_put]
      by_cases e : j = idT t
      · rw [e, h2] at hj'; cases hj'
      · rw [if_neg e]; exact h.dis j hj'
    · show m.s.last + ((groupsT c t).foldl (learnStep (idT t)) (beginQ m.q (idT t) (groupsT c t), m.st)).1.l.length ≤ n + 1
      rw [r4, p2]
      have := h.cnt
      omega
  · exact h.more (Nat.le_succ _)
/-! ### A turn of advance -/
theorem own_tally (h : MOK c g n m) {i : IdD} {v : WaitD} (hv : WOK c g i v) : Tally v.gs (ownVotes c g m v) := by
  unfold ownVotes
  split
  · exact hv.tal
  · exact hv.tal.put _ _
theorem next_waits (h : MOK c g n m) {i : IdD} {s : Nat} (hn : nextQ m.q = some (i, s)) : ∃ v, getM m.wt i = some v ∧ waitOf m i = v ∧ WOK c g i v := by
  obtain ⟨l, hl⟩ := next_head hn
  have : (getM m.wt i).isSome = true := (h.ids i).2 (by rw [hl]; exact List.mem_cons_self)
  obtain ⟨v, hv⟩ := Option.isSome_iff_exists.1 this
  exact ⟨v, hv, by rw [waitOf, hv]; rfl, h.w i v hv⟩
theorem WOK.idB {i : IdD} {v : WaitD} (h : WOK c g i v) : idB i.ses i.seq = true := by
  rw [← h.id]
  exact (formed_parts h.f).1
theorem done_okM (h : MOK c g n m) {i : IdD} {s : Nat} (hn : nextQ m.q = some (i, s)) (y : Bool) : MOK c g n (doneM m i y s) ∧ (doneM m i y s).q.l.length + 1 = m.q.l.length := by
  obtain ⟨l, hl⟩ := next_head hn
  have hlen : m.q.l.length = l.length + 1 := by
    have := congrArg List.length hl
    simpa [idsQ] using this
  have hd : (doneQ m.q).l.length + 1 = m.q.l.length := by
    show (m.q.l.drop 1).length + 1 = _
    rw [List.length_drop]; omega
  have hnd : (idsQ m.q).Nodup := h.q.nd
  rw [hl, List.nodup_cons] at hnd
  refine ⟨{ h with q := done_ok h.q, qg := h.qg, ids := fun j => ?_, w := fun j u hu => ?_, dis := fun j hj => ?_, cnt := ?_, dk := fun j hj => ?_ }, hd⟩
  · show (getM (delM m.wt i) j).isSome = true ↔ j ∈ idsQ (doneQ m.q)
    rw [ids_done, hl, List.drop_one, List.tail_cons, getM_del]
    have hj := h.ids j
    rw [hl, List.mem_cons] at hj
    by_cases e : j = i
    · subst e; rw [if_pos rfl]; simp [hnd.1]
    · rw [if_neg e, hj]; simp [e]
  · have hu' : getM (delM m.wt i) j = some u := hu
    rw [getM_del] at hu'
    by_cases e : j = i
    · rw [if_pos e] at hu'; cases hu'
    · rw [if_neg e] at hu'; exact h.w j u hu'
  · show getM (delM m.wt i) j = none
    have hj' : (getM (putM m.dc i (y, s)) j).isSome = true := hj
    rw [getM_del]
    by_cases e : j = i
    · rw [if_pos e]
    · rw [if_neg e]
      rw [getM_put, if_neg e] at hj'
      exact h.dis j hj'
  · show m.s.last + (doneQ m.q).l.length ≤ n
    have := h.cnt
    omega
  · have hj' : (getM (putM m.dc i (y, s)) j).isSome = true := hj
    by_cases e : j = i
    · obtain ⟨v, _, _, hok⟩ := next_waits h hn
      rw [e]; exact hok.idB
    · rw [getM_put, if_neg e] at hj'
      exact h.dk j hj'
theorem write_okM (h : MOK c g n m) (hc : m.s.last + m.q.l.length + 1 ≤ n) (final : Nat) {ws : List Wr} (hw : wrsOK ws = true) (h6 : ws.length ≤ 6) : MOK c g n (writeM m final ws) ∧ (writeM m final ws).q = m.q ∧ (writeM m final ws).s.last = m.s.last + 1 := by
  have ha : applyS m.s (m.s.last + 1) ws = ⟨putWs (m.s.last + 1) m.s.ks ws, m.s.last + 1, m.s.low⟩ := by
    rw [applyS, if_neg (by omega), if_pos hw]
  have h1 := apply_ok h.s (m.s.last + 1) ws
  have h2 := items_apply_len h.s (m.s.last + 1) ws
  have h3 := h.its
  have h4 := h.a
  have h5 := h.s.low
  unfold writeM
  simp only
  split
  · rename_i hb
    rw [ha] at h1 h2 hb ⊢
    simp only at h1 h2 hb ⊢
    have hco : colOK ⟨putWs (m.s.last + 1) m.s.ks ws, m.s.last + 1, m.s.low⟩ (m.s.last + 1 - 8) = true := by
      unfold colOK
      simp only [Bool.and_eq_true, decide_eq_true_eq]
      omega
    have hcs : colS ⟨putWs (m.s.last + 1) m.s.ks ws, m.s.last + 1, m.s.low⟩ (m.s.last + 1 - 8) = ⟨colK (putWs (m.s.last + 1) m.s.ks ws) (m.s.last + 1 - 8), m.s.last + 1, m.s.last + 1 - 8⟩ := by
      rw [colS, if_pos hco]
    have h7 := colP_items h1 (m.s.last + 1 - 8)
    have h8 := col_ok h1 (m.s.last + 1 - 8)
    rw [hcs] at h8
    rw [hcs]
    refine ⟨{ h with s := h8, a := ?_, cnt := ?_, its := ?_ }, by first | rfl | trivial, by first | rfl | trivial⟩
    · show ((m.a ++ [final]).drop (m.s.last + 1 - 8 - m.s.low)).length + (m.s.last + 1 - 8) = m.s.last + 1 + 1
      rw [List.length_drop, List.length_append, List.length_singleton]
      omega
    · show m.s.last + 1 + m.q.l.length ≤ n
      omega
    · show (items (colK (putWs (m.s.last + 1) m.s.ks ws) (m.s.last + 1 - 8))).length ≤ 6 * (m.s.last + 1)
      simp only at h7
      omega
  · rename_i hb
    rw [ha] at h1 h2 ⊢
    simp only at h1 h2 ⊢
    refine ⟨{ h with s := h1, a := ?_, cnt := ?_, its := ?_ }, by first | rfl | trivial, by first | rfl | trivial⟩
    · show (m.a ++ [final]).length + m.s.low = m.s.last + 1 + 1
      rw [List.length_append, List.length_singleton]
      omega
    · show m.s.last + 1 + m.q.l.length ≤ n
      omega
    · show (items (putWs (m.s.last + 1) m.s.ks ws)).length ≤ 6 * (m.s.last + 1)
      omega
theorem turn_okM (h : MOK c g n m) : MOK c g n (turnM c g m).2.1 ∧ ((turnM c g m).1 = true → (turnM c g m).2.1.q.l.length < m.q.l.length) := by
  unfold turnM
  split
  · exact ⟨h, fun e => by cases e⟩
  · rename_i i final hn
    obtain ⟨v, hv, hw, hok⟩ := next_waits h hn
    simp only
    rw [hw]
    split
    · obtain ⟨hd, hlen⟩ := done_okM h hn (outYes v.gs.length (ownVotes c g m v))
      split
      · obtain ⟨h1, h2, h3⟩ := write_okM hd (by have := h.cnt; show m.s.last + _ + 1 ≤ n; omega) final (wrsOK_cut (c := c) (g := g) hok.f) (writes_six hok.f)
        exact ⟨h1, fun _ => by show (writeM _ _ _).q.l.length < _; rw [h2]; omega⟩
      · exact ⟨hd, fun _ => by show (doneM _ _ _ _).q.l.length < _; omega⟩
    · refine ⟨?_, fun e => by cases e⟩
      have hs : (getM m.wt i).isSome = true := by rw [hv]; rfl
      exact h.setW hs { hok with tal := own_tally h hok }
theorem adv_okM : ∀ (k : Nat) {m : MachD}, MOK c g n m → MOK c g n (advM c g k m).1
  | 0, _, h => h
  | k + 1, m, h => by
    unfold advM
    simp only
    have h1 := turn_okM h
    split
    · exact adv_okM k h1.1
    · exact h1.1
end
end Go.Proofs.YtcldpmkhpmlcbaaGreatDoor
/- One component of a machine in memory turns, the others stay. -/
namespace Go.Proofs.YtcldpmkhpmlcbaaGreatDoor
open Go.RowKit Go.Shelf Go.Maps

section
variable {w w' : World} {B p : Nat} {c : Cfg} {g : Int} {lab : Nat → Lab} {x : MachD} {E : MachE} {ov : Value} {O : Nat → Prop} {l : Lab}
theorem MachIn.cs (h : MachIn w B p c g lab x E ov) :
    w.cell? ⟨p, 0, none⟩ = some (.slice E.A c.reps.length E.ca) ∧ w.cell? ⟨p, 1, none⟩ = some (.slice E.A' c.bnds.length E.cb) ∧ w.cell? ⟨p, 2, none⟩ = some (.int .i64 g) ∧ w.cell? ⟨p, 3, none⟩ = some (.pointer (some ⟨E.qp, 0, none⟩)) ∧ w.cell? ⟨p, 4, none⟩ = some (.pointer (some ⟨E.sp, 0, none⟩)) ∧
    w.cell? ⟨p, 5, none⟩ = some (.map (some E.mw)) ∧ w.cell? ⟨p, 6, none⟩ = some (.map (some E.md)) ∧ w.cell? ⟨p, 7, none⟩ = some (.map (some E.ms)) ∧ w.cell? ⟨p, 8, none⟩ = some (.map (some E.mv)) ∧ w.cell? ⟨p, 9, none⟩ = some E.av ∧ w.cell? ⟨p, 10, none⟩ = some E.lv ∧ w.cell? ⟨p, 11, none⟩ = some ov := by
  refine ⟨?_, ?_, ?_, ?_, ?_, ?_, ?_, ?_, ?_, ?_, ?_, ?_⟩ <;> (rw [cell_of_row w p _ _ _ _ h.blk]; rfl)
/-- What stays of a machine where only blocks of one label change: new blocks bear that label. -/
structure MachRest (l : Lab) (w : World) (B : Nat) (c : Cfg) (lab : Nat → Lab) (x : MachD) (E : MachE) : Prop where
  cfg : CfgAt w c E.A E.A'
  oA : Old B c.reps.length E.A
  oA' : Old B c.bnds.length E.A'
  q : l ≠ .q → QAt w E.qB E.qp x.q (fun k => lab k = .q)
  s : l ≠ .s → StoreAt w E.sB E.sp E.N (fun k => lab k = .s) x.s
  hw : l ≠ .mw → MapH Tryz.prog 34 okId litId w E.mw E.nw E.kw
  hd : l ≠ .md → MapH Tryz.prog 34 okId litId w E.md E.nd E.kd
  hs : l ≠ .ms → MapH Tryz.prog 179 okFrom litFrom w E.ms E.ns E.ks
  hv : l ≠ .mv → MapH Tryz.prog 179 okFrom litFrom w E.mv E.nv E.kv
  lmw : lab E.mw = .mw
  lmd : lab E.md = .md
  lms : lab E.ms = .ms
  lmv : lab E.mv = .mv
  kw : ∀ i, getM E.kw i = (getM x.wt i).map fun _ => .pointer (some ⟨E.pp i, 0, none⟩)
  kd : ∀ i, getM E.kd i = (getM x.dc i).map decV
  ks : ∀ i, getM E.ks i = (getM x.st i).map fun s => .int .u64 (s : Int)
  kv : ∀ i, getM E.kv i = (getM x.vo i).map Value.bool
  wt : ∀ i v, l ≠ .one i → getM x.wt i = some v → WaitAt w B (E.pp i) (fun k => lab k = .one i) v
  a : l ≠ .at_ → TailRow w B 39 E.av (atV x.a)
  la : ∀ b, E.av.ownBlock = some b → lab b = .at_
  log : l ≠ .log → w.ownsRow B 41 10 E.lv E.nl E.cl
  ll : ∀ b, E.lv.ownBlock = some b → lab b = .log
  lt : ∀ k, lab k ≠ .no → B ≤ k ∧ k < w.heap.size
  size : B ≤ w.heap.size
theorem relab_old {k : Nat} (h : k < w.heap.size) : relab lab w w' l k = lab k := if_neg (by omega)
theorem MachIn.rest (h : MachIn w B p c g lab x E ov) (ho : Out O w w') (hO : ∀ k, O k → lab k = l) (hl : l ≠ .no) (hm : l ≠ .m) :
    MachRest l w' B c (relab lab w w' l) x E ∧ w'.heap[p]? = some (.cells (machCells c g E ov) 107 (0, 0)) ∧ relab lab w w' l p = .m := by
  have hlt : ∀ k, lab k ≠ .no → k < w.heap.size := fun k hk => (h.lt k hk).2
  have hB := h.hB
  have hOB : ∀ k, O k → B ≤ k := fun k e => (h.lt k (by rw [hO k e]; exact hl)).1
  have hne : ∀ {k : Nat} {l' : Lab}, lab k = l' → l ≠ l' → ¬ O k := fun e hl' ok => hl' ((hO _ ok).symm.trans e)
  have hat : ∀ {k : Nat} {l' : Lab}, lab k = l' → l' ≠ .no → relab lab w w' l k = l' := fun {k l'} e h1 => by
    rw [relab_old (hlt k (by rw [e]; exact h1))]; exact e
  refine ⟨?_, ho.obj h.blk (hne h.lm hm), hat h.lm (by decide)⟩
  exact {
    cfg := cfg_out h.cfg ho (h.oA.not hOB) (h.oA'.not hOB), oA := h.oA, oA' := h.oA'
    q := fun n => by rw [relab_ne hlt n (by decide)]; exact h.q.out ho (fun k e => hne e n)
    s := fun n => by rw [relab_ne hlt n (by decide)]; exact h.s.out ho (fun k e => hne e n)
    hw := fun n => h.hw.out ho (hne h.lmw n), hd := fun n => h.hd.out ho (hne h.lmd n), hs := fun n => h.hs.out ho (hne h.lms n), hv := fun n => h.hv.out ho (hne h.lmv n)
    lmw := hat h.lmw (by decide), lmd := hat h.lmd (by decide), lms := hat h.lms (by decide), lmv := hat h.lmv (by decide)
    kw := h.kw, kd := h.kd, ks := h.ks, kv := h.kv
    wt := fun i v n e => by rw [relab_ne hlt n (by intro z; cases z)]; exact (h.wt i v e).out ho (fun k e2 => hne e2 n) hOB
    a := fun n => h.a.out ho (fun b e => hne (h.la b e) n), la := fun b e => hat (h.la b e) (by decide)
    log := fun n => ho.row h.log (fun b e => hne (h.ll b e) n), ll := fun b e => hat (h.ll b e) (by decide)
    lt := fun k hk => by
      have hs := ho.size
      by_cases hkk : w.heap.size ≤ k ∧ k < w'.heap.size
      · exact ⟨by omega, hkk.2⟩
      · rw [relab, if_neg hkk] at hk
        have := h.lt k hk
        exact ⟨this.1, by omega⟩
    size := Nat.le_trans hB ho.size }
theorem OutRow.rest {os : List OutD} (hr : OutRow w B lab ov os) (ho : Out O w w') (hO : ∀ k, O k → lab k = l) (hlt : ∀ k, lab k ≠ .no → k < w.heap.size) (hm : l ≠ .out) : OutRow w' B (relab lab w w' l) ov os :=
  ⟨ho.row hr.1 (fun b e ok => hm ((hO b ok).symm.trans (hr.2 b e))), fun b e => by rw [relab_old (hlt b (by rw [hr.2 b e]; decide))]; exact hr.2 b e⟩
/-- The queue turned. -/
theorem MachIn.setQ (h : MachIn w B p c g lab x E ov) {q' : QD} (ho : Out (fun k => lab k = .q) w w') (hq : QAt w' E.qB E.qp q' (ext (fun k => lab k = .q) w w')) : MachIn w' B p c g (relab lab w w' .q) { x with q := q' } E ov := by
  obtain ⟨R, hb, hp⟩ := h.rest ho (fun k e => e) (l := .q) (by decide) (by decide)
  exact { cfg := R.cfg, oA := R.oA, oA' := R.oA', q := by rw [relab_eq (fun k hk => (h.lt k hk).2) (by decide)]; exact hq, s := R.s (by decide), hw := R.hw (by decide), hd := R.hd (by decide), hs := R.hs (by decide), hv := R.hv (by decide), lmw := R.lmw, lmd := R.lmd, lms := R.lms, lmv := R.lmv, kw := R.kw, kd := R.kd, ks := R.ks, kv := R.kv, wt := fun i v e => R.wt i v (by intro z; cases z) e, a := R.a (by decide), la := R.la, log := R.log (by decide), ll := R.ll, lt := R.lt, blk := hb, lm := hp }
/-- The store turned. -/
theorem MachIn.setS (h : MachIn w B p c g lab x E ov) {s' : StD} {N' : Nat} (ho : Out (fun k => lab k = .s) w w') (hq : StoreAt w' E.sB E.sp N' (ext (fun k => lab k = .s) w w') s') : MachIn w' B p c g (relab lab w w' .s) { x with s := s' } { E with N := N' } ov := by
  obtain ⟨R, hb, hp⟩ := h.rest ho (fun k e => e) (l := .s) (by decide) (by decide)
  exact { cfg := R.cfg, oA := R.oA, oA' := R.oA', s := by rw [relab_eq (fun k hk => (h.lt k hk).2) (by decide)]; exact hq, q := R.q (by decide), hw := R.hw (by decide), hd := R.hd (by decide), hs := R.hs (by decide), hv := R.hv (by decide), lmw := R.lmw, lmd := R.lmd, lms := R.lms, lmv := R.lmv, kw := R.kw, kd := R.kd, ks := R.ks, kv := R.kv, wt := fun i v e => R.wt i v (by intro z; cases z) e, a := R.a (by decide), la := R.la, log := R.log (by decide), ll := R.ll, lt := R.lt, blk := hb, lm := hp }
/-- One that waits turned. -/
theorem MachIn.setOne (h : MachIn w B p c g lab x E ov) {i : IdD} {v u : WaitD} (hi : getM x.wt i = some u) (ho : Out (fun k => lab k = .one i) w w') (hv : WaitAt w' B (E.pp i) (ext (fun k => lab k = .one i) w w') v) :
    MachIn w' B p c g (relab lab w w' (.one i)) { x with wt := putM x.wt i v } E ov := by
  obtain ⟨R, hb, hp⟩ := h.rest ho (fun k e => e) (l := .one i) (by intro z; cases z) (by intro z; cases z)
  refine { cfg := R.cfg, oA := R.oA, oA' := R.oA', q := R.q (by intro z; cases z), s := R.s (by intro z; cases z), hw := R.hw (by intro z; cases z), hd := R.hd (by intro z; cases z), hs := R.hs (by intro z; cases z), hv := R.hv (by intro z; cases z), lmw := R.lmw, lmd := R.lmd, lms := R.lms, lmv := R.lmv, kw := fun j => ?_, kd := R.kd, ks := R.ks, kv := R.kv, wt := fun j v' e => ?_, a := R.a (by intro z; cases z), la := R.la, log := R.log (by intro z; cases z), ll := R.ll, lt := R.lt, blk := hb, lm := hp }
  · show _ = (getM (putM x.wt i v) j).map _
    rw [getM_put, R.kw]
    by_cases e : j = i
    · subst e; rw [if_pos rfl, hi]; rfl
    · rw [if_neg e]
  · have e' : getM (putM x.wt i v) j = some v' := e
    rw [getM_put] at e'
    by_cases e2 : j = i
    · rw [if_pos e2] at e'; cases e'
      subst e2
      rw [relab_eq (fun k hk => (h.lt k hk).2) (by intro z; cases z)]
      exact hv
    · rw [if_neg e2] at e'
      exact R.wt j v' (fun z => e2 (by cases z; rfl)) e'
/-- One more waits. -/
theorem MachIn.addOne (h : MachIn w B p c g lab x E ov) {i : IdD} {v : WaitD} {q : Nat} (ht : w.mapTurned w' E.mw) (hm : MapH Tryz.prog 34 okId litId w' E.mw (E.nw + 1) (putM E.kw i (.pointer (some ⟨q, 0, none⟩)))) (hv : WaitAt w B q (fun k => lab k = .one i) v) :
    MachIn w' B p c g (relab lab w w' .mw) { x with wt := putM x.wt i v } { E with nw := E.nw + 1, kw := putM E.kw i (.pointer (some ⟨q, 0, none⟩)), pp := fun j => if j = i then q else E.pp j } ov := by
  have ho := Out.of_turned ht
  obtain ⟨R, hb, hp⟩ := h.rest ho (fun k e => by rw [e]; exact h.lmw) (l := .mw) (by decide) (by decide)
  refine { cfg := R.cfg, oA := R.oA, oA' := R.oA', q := R.q (by decide), s := R.s (by decide), hw := hm, hd := R.hd (by decide), hs := R.hs (by decide), hv := R.hv (by decide), lmw := R.lmw, lmd := R.lmd, lms := R.lms, lmv := R.lmv, kw := fun j => ?_, kd := R.kd, ks := R.ks, kv := R.kv, wt := fun j v' e => ?_, a := R.a (by decide), la := R.la, log := R.log (by decide), ll := R.ll, lt := R.lt, blk := hb, lm := hp }
  · show getM (putM E.kw i _) j = (getM (putM x.wt i v) j).map fun _ => .pointer (some ⟨if j = i then q else E.pp j, 0, none⟩)
    rw [getM_put, getM_put, R.kw]
    by_cases e : j = i
    · simp [e]
    · simp [e]
  · have e' : getM (putM x.wt i v) j = some v' := e
    rw [getM_put] at e'
    show WaitAt w' B (if j = i then q else E.pp j) _ v'
    by_cases e2 : j = i
    · rw [if_pos e2] at e'; cases e'
      subst e2
      rw [if_pos rfl, relab_ne (fun k hk => (h.lt k hk).2) (by intro z; cases z) (by intro z; cases z)]
      exact hv.out ho (fun k e ok => by rw [ok, h.lmw] at e; cases e) (fun k e => by rw [e]; exact (h.lt _ (by rw [h.lmw]; decide)).1)
    · rw [if_neg e2] at e' ⊢
      exact R.wt j v' (by intro z; cases z) e'
/-- One waits no more. -/
theorem MachIn.delOne (h : MachIn w B p c g lab x E ov) {i : IdD} (ht : w.mapTurned w' E.mw) (hm : MapH Tryz.prog 34 okId litId w' E.mw E.nw (delM E.kw i)) :
    MachIn w' B p c g (relab lab w w' .mw) { x with wt := delM x.wt i } { E with kw := delM E.kw i } ov := by
  have ho := Out.of_turned ht
  obtain ⟨R, hb, hp⟩ := h.rest ho (fun k e => by rw [e]; exact h.lmw) (l := .mw) (by decide) (by decide)
  refine { cfg := R.cfg, oA := R.oA, oA' := R.oA', q := R.q (by decide), s := R.s (by decide), hw := hm, hd := R.hd (by decide), hs := R.hs (by decide), hv := R.hv (by decide), lmw := R.lmw, lmd := R.lmd, lms := R.lms, lmv := R.lmv, kw := fun j => ?_, kd := R.kd, ks := R.ks, kv := R.kv, wt := fun j v' e => ?_, a := R.a (by decide), la := R.la, log := R.log (by decide), ll := R.ll, lt := R.lt, blk := hb, lm := hp }
  · show getM (delM E.kw i) j = (getM (delM x.wt i) j).map _
    rw [getM_del, getM_del, R.kw]
    by_cases e : j = i
    · simp [e]
    · simp [e]
  · have e' : getM (delM x.wt i) j = some v' := e
    rw [getM_del] at e'
    by_cases e2 : j = i
    · rw [if_pos e2] at e'; cases e'
    · rw [if_neg e2] at e'
      exact R.wt j v' (by intro z; cases z) e'
/-- One more is decided. -/
theorem MachIn.addDec (h : MachIn w B p c g lab x E ov) {i : IdD} {d : Bool × Nat} (ht : w.mapTurned w' E.md) (hm : MapH Tryz.prog 34 okId litId w' E.md (E.nd + 1) (putM E.kd i (decV d))) :
    MachIn w' B p c g (relab lab w w' .md) { x with dc := putM x.dc i d } { E with nd := E.nd + 1, kd := putM E.kd i (decV d) } ov := by
  have ho := Out.of_turned ht
  obtain ⟨R, hb, hp⟩ := h.rest ho (fun k e => by rw [e]; exact h.lmd) (l := .md) (by decide) (by decide)
  refine { cfg := R.cfg, oA := R.oA, oA' := R.oA', q := R.q (by decide), s := R.s (by decide), hw := R.hw (by decide), hd := hm, hs := R.hs (by decide), hv := R.hv (by decide), lmw := R.lmw, lmd := R.lmd, lms := R.lms, lmv := R.lmv, kw := R.kw, kd := fun j => ?_, ks := R.ks, kv := R.kv, wt := fun j v' e => R.wt j v' (by intro z; cases z) e, a := R.a (by decide), la := R.la, log := R.log (by decide), ll := R.ll, lt := R.lt, blk := hb, lm := hp }
  show getM (putM E.kd i _) j = (getM (putM x.dc i d) j).map _
  rw [getM_put, getM_put, R.kd]
  by_cases e : j = i
  · simp [e]
  · simp [e]
/-- An early stamp comes, or goes. -/
theorem MachIn.addSt (h : MachIn w B p c g lab x E ov) {i : FromD} {s : Nat} (ht : w.mapTurned w' E.ms) (hm : MapH Tryz.prog 179 okFrom litFrom w' E.ms (E.ns + 1) (putM E.ks i (.int .u64 (s : Int)))) :
    MachIn w' B p c g (relab lab w w' .ms) { x with st := putM x.st i s } { E with ns := E.ns + 1, ks := putM E.ks i (.int .u64 (s : Int)) } ov := by
  have ho := Out.of_turned ht
  obtain ⟨R, hb, hp⟩ := h.rest ho (fun k e => by rw [e]; exact h.lms) (l := .ms) (by decide) (by decide)
  refine { cfg := R.cfg, oA := R.oA, oA' := R.oA', q := R.q (by decide), s := R.s (by decide), hw := R.hw (by decide), hd := R.hd (by decide), hs := hm, hv := R.hv (by decide), lmw := R.lmw, lmd := R.lmd, lms := R.lms, lmv := R.lmv, kw := R.kw, kd := R.kd, ks := fun j => ?_, kv := R.kv, wt := fun j v' e => R.wt j v' (by intro z; cases z) e, a := R.a (by decide), la := R.la, log := R.log (by decide), ll := R.ll, lt := R.lt, blk := hb, lm := hp }
  show getM (putM E.ks i _) j = (getM (putM x.st i s) j).map _
  rw [getM_put, getM_put, R.ks]
  by_cases e : j = i
  · simp [e]
  · simp [e]
theorem MachIn.delSt (h : MachIn w B p c g lab x E ov) {i : FromD} (ht : w.mapTurned w' E.ms) (hm : MapH Tryz.prog 179 okFrom litFrom w' E.ms E.ns (delM E.ks i)) :
    MachIn w' B p c g (relab lab w w' .ms) { x with st := delM x.st i } { E with ks := delM E.ks i } ov := by
  have ho := Out.of_turned ht
  obtain ⟨R, hb, hp⟩ := h.rest ho (fun k e => by rw [e]; exact h.lms) (l := .ms) (by decide) (by decide)
  refine { cfg := R.cfg, oA := R.oA, oA' := R.oA', q := R.q (by decide), s := R.s (by decide), hw := R.hw (by decide), hd := R.hd (by decide), hs := hm, hv := R.hv (by decide), lmw := R.lmw, lmd := R.lmd, lms := R.lms, lmv := R.lmv, kw := R.kw, kd := R.kd, ks := fun j => ?_, kv := R.kv, wt := fun j v' e => R.wt j v' (by intro z; cases z) e, a := R.a (by decide), la := R.la, log := R.log (by decide), ll := R.ll, lt := R.lt, blk := hb, lm := hp }
  show getM (delM E.ks i) j = (getM (delM x.st i) j).map _
  rw [getM_del, getM_del, R.ks]
  by_cases e : j = i
  · simp [e]
  · simp [e]
/-- An early vote comes, or goes. -/
theorem MachIn.addVo (h : MachIn w B p c g lab x E ov) {i : FromD} {y : Bool} (ht : w.mapTurned w' E.mv) (hm : MapH Tryz.prog 179 okFrom litFrom w' E.mv (E.nv + 1) (putM E.kv i (.bool y))) :
    MachIn w' B p c g (relab lab w w' .mv) { x with vo := putM x.vo i y } { E with nv := E.nv + 1, kv := putM E.kv i (.bool y) } ov := by
  have ho := Out.of_turned ht
  obtain ⟨R, hb, hp⟩ := h.rest ho (fun k e => by rw [e]; exact h.lmv) (l := .mv) (by decide) (by decide)
  refine { cfg := R.cfg, oA := R.oA, oA' := R.oA', q := R.q (by decide), s := R.s (by decide), hw := R.hw (by decide), hd := R.hd (by decide), hs := R.hs (by decide), hv := hm, lmw := R.lmw, lmd := R.lmd, lms := R.lms, lmv := R.lmv, kw := R.kw, kd := R.kd, ks := R.ks, kv := fun j => ?_, wt := fun j v' e => R.wt j v' (by intro z; cases z) e, a := R.a (by decide), la := R.la, log := R.log (by decide), ll := R.ll, lt := R.lt, blk := hb, lm := hp }
  show getM (putM E.kv i _) j = (getM (putM x.vo i y) j).map _
  rw [getM_put, getM_put, R.kv]
  by_cases e : j = i
  · simp [e]
  · simp [e]
theorem MachIn.delVo (h : MachIn w B p c g lab x E ov) {i : FromD} (ht : w.mapTurned w' E.mv) (hm : MapH Tryz.prog 179 okFrom litFrom w' E.mv E.nv (delM E.kv i)) :
    MachIn w' B p c g (relab lab w w' .mv) { x with vo := delM x.vo i } { E with kv := delM E.kv i } ov := by
  have ho := Out.of_turned ht
  obtain ⟨R, hb, hp⟩ := h.rest ho (fun k e => by rw [e]; exact h.lmv) (l := .mv) (by decide) (by decide)
  refine { cfg := R.cfg, oA := R.oA, oA' := R.oA', q := R.q (by decide), s := R.s (by decide), hw := R.hw (by decide), hd := R.hd (by decide), hs := R.hs (by decide), hv := hm, lmw := R.lmw, lmd := R.lmd, lms := R.lms, lmv := R.lmv, kw := R.kw, kd := R.kd, ks := R.ks, kv := fun j => ?_, wt := fun j v' e => R.wt j v' (by intro z; cases z) e, a := R.a (by decide), la := R.la, log := R.log (by decide), ll := R.ll, lt := R.lt, blk := hb, lm := hp }
  show getM (delM E.kv i) j = (getM (delM x.vo i) j).map _
  rw [getM_del, getM_del, R.kv]
  by_cases e : j = i
  · simp [e]
  · simp [e]
/-- A tally's votes turned. -/
theorem MachIn.vote (h : MachIn w B p c g lab x E ov) {i : IdD} {v : WaitD} {A A' Ag : Option Addr} {ca cb cg tp tg tb tc : Nat} (hi : getM x.wt i = some v) (hI : WaitIn w B (E.pp i) (fun k => lab k = .one i) v A A' Ag ca cb cg tp tg tb tc) {vs : List (Int × Bool)}
    (ht : TalAt w' B tp tg tb tc v.gs vs) (hg : w.grownBy w' (some tb)) : MachIn w' B p c g (relab lab w w' (.one i)) { x with wt := putM x.wt i { v with vs := vs } } E ov ∧ Out (fun k => k = tb) w w' := by
  have ho : Out (fun k => k = tb) w w' := Out.of_grown hg (fun k e => by cases e; rfl)
  have ho1 : Out (fun k => lab k = .one i) w w' := ho.mono (fun k e => by rw [e]; exact hI.ltb)
  have hBO : ∀ k, k = tb → B ≤ k := fun k e => by rw [e]; exact hI.tal.hb
  have hpb : E.pp i ≠ tb := fun e => by
    obtain ⟨es, clock, hb, _⟩ := hI.tal.own
    have h1 := hI.blk
    rw [e, hb] at h1
    cases h1
  have hgb : ∀ a, Ag = some a → ¬ a.block = tb ∨ v.gs.length = 0 := fun a ea => by
    by_cases hz : v.gs.length = 0
    · exact .inr hz
    · left
      intro e
      obtain ⟨b', off', e1, hc⟩ := hI.gr 0 (by omega)
      rw [ea] at e1
      cases e1
      obtain ⟨es, clock, hb, _⟩ := hI.tal.own
      simp only at e
      subst e
      simp [World.cell?, hb] at hc
  refine ⟨h.setOne hi ho1 ⟨A, A', Ag, ca, cb, cg, tp, tg, tb, tc, ?_⟩, ho⟩
  exact { blk := ho.obj hI.blk hpb, tx := (by
            obtain ⟨es, clock, hb, _⟩ := hI.tal.own
            exact tx_out2 hI.tx ho (tx_map hI.tx hb).1 (tx_map hI.tx hb).2), oA := hI.oA.mono (fun k e => .inl e), oA' := hI.oA'.mono (fun k e => .inl e), gr := fun j hj => (by
            obtain ⟨b', off', e1, hc⟩ := hI.gr j hj
            refine ⟨b', off', e1, ho.cell hc fun e => ?_⟩
            rcases hgb _ e1 with q | q
            · exact q e
            · have hj' : j < v.gs.length := hj
              omega), lg := fun a e => .inl (hI.lg a e), tal := ht, lp := .inl hI.lp, ltp := .inl hI.ltp, ltg := .inl hI.ltg, ltb := .inl hI.ltb }
end
theorem TalAt.low {w : World} {base base' p g b cap : Nat} {gs : List Int} {vs : List (Int × Bool)} (h : TalAt w base p g b cap gs vs) (hb : base' ≤ base) : TalAt w base' p g b cap gs vs :=
  ⟨h.c0, h.c1, h.ints, h.own, Nat.le_trans hb h.hp, Nat.le_trans hb h.hg, Nat.le_trans hb h.hb, h.n1, h.n2⟩
/-- A block and a range of blocks become one's. -/
def labOne (lab : Nat → Lab) (b lo hi : Nat) (i : IdD) : Nat → Lab := fun k => if k = b ∨ (lo ≤ k ∧ k < hi) then .one i else lab k
theorem MachIn.addLab {w : World} {B p : Nat} {c : Cfg} {g : Int} {lab : Nat → Lab} {x : MachD} {E : MachE} {ov : Value} (h : MachIn w B p c g lab x E ov) {b lo hi : Nat} {i : IdD} (hb : lab b = .no ∧ B ≤ b ∧ b < w.heap.size) (hr : ∀ k, lo ≤ k → k < hi → lab k = .no ∧ B ≤ k ∧ k < w.heap.size) (hi0 : getM x.wt i = none) : MachIn w B p c g (labOne lab b lo hi i) x E ov := by
  have hno : ∀ k, k = b ∨ (lo ≤ k ∧ k < hi) → lab k = .no ∧ B ≤ k ∧ k < w.heap.size := fun k hk => hk.elim (fun e => by rw [e]; exact hb) (fun e => hr k e.1 e.2)
  have hat : ∀ {k : Nat} {l : Lab}, lab k = l → l ≠ .no → labOne lab b lo hi i k = l := fun {k l} e hl => by
    rw [labOne, if_neg (fun q => hl (by rw [← e]; exact (hno k q).1))]; exact e
  have hfun : ∀ {l : Lab}, l ≠ .no → l ≠ .one i → (fun k => labOne lab b lo hi i k = l) = (fun k => lab k = l) := fun {l} h1 h2 => by
    funext k
    apply propext
    unfold labOne
    by_cases q : k = b ∨ (lo ≤ k ∧ k < hi)
    · rw [if_pos q]
      refine ⟨fun e => absurd e.symm h2, fun e => ?_⟩
      rw [(hno k q).1] at e
      exact absurd e.symm h1
    · rw [if_neg q]
  exact { h with
    q := by rw [hfun (by decide) (by intro z; cases z)]; exact h.q
    s := by rw [hfun (by decide) (by intro z; cases z)]; exact h.s
    lmw := hat h.lmw (by decide), lmd := hat h.lmd (by decide), lms := hat h.lms (by decide), lmv := hat h.lmv (by decide)
    wt := fun j v e => by
      have hj : (Lab.one j) ≠ .one i := fun z => by
        cases z
        rw [hi0] at e; cases e
      rw [hfun (by intro z; cases z) hj]
      exact h.wt j v e
    la := fun k e => hat (h.la k e) (by decide), ll := fun k e => hat (h.ll k e) (by decide)
    lt := fun k hk => by
      unfold labOne at hk
      by_cases q : k = b ∨ (lo ≤ k ∧ k < hi)
      · exact (hno k q).2
      · rw [if_neg q] at hk; exact h.lt k hk
    lm := hat h.lm (by decide) }
theorem OutRow.addLab {w : World} {B : Nat} {lab : Nat → Lab} {ov : Value} {os : List OutD} (h : OutRow w B lab ov os) {b lo hi : Nat} {i : IdD} (hb : lab b = .no) (hr : ∀ k, lo ≤ k → k < hi → lab k = .no) : OutRow w B (labOne lab b lo hi i) ov os :=
  ⟨h.1, fun k e => by
    have h1 := h.2 k e
    rw [labOne, if_neg (fun q => q.elim (fun z => by rw [z, hb] at h1; cases h1) (fun z => by rw [hr k z.1 z.2] at h1; cases h1))]
    exact h1⟩
/-! ### What a method does to memory -/
structure GrStep (w w' : World) (lab lab' : Nat → Lab) : Prop where
  ext : LabExt lab lab' w.heap.size
  out : Out (fun k => lab k ≠ .no) w w'
theorem GrStep.below {w w' : World} {lab : Nat → Lab} (hb : Below w.heap.size w w') : GrStep w w' lab lab := ⟨LabExt.refl _ _, Out.of_below hb⟩
theorem GrStep.refl (w : World) (lab : Nat → Lab) : GrStep w w lab lab := GrStep.below (Below.refl _ _)
theorem GrStep.trans {a b c : World} {l1 l2 l3 : Nat → Lab} (h : GrStep a b l1 l2) (h' : GrStep b c l2 l3) : GrStep a c l1 l3 :=
  ⟨h.ext.trans h'.ext h.out.size, h.out.trans_old h'.out (fun k hk e => by rw [h.ext k hk] at e; exact e)⟩
theorem GrStep.relab {w w' : World} {lab : Nat → Lab} {O : Nat → Prop} {l : Lab} (ho : Out O w w') (hO : ∀ k, O k → lab k = l) (hl : l ≠ .no) : GrStep w w' lab (relab lab w w' l) :=
  ⟨relab_ext lab w w' l, ho.mono fun k e => by rw [hO k e]; exact hl⟩
theorem GrStep.tell {w w' : World} {lab lab' : Nat → Lab} (he : LabExt lab lab' w.heap.size) (ho : Out (fun k => lab k = .m ∨ lab k = .out) w w') : GrStep w w' lab lab' :=
  ⟨he, ho.mono fun k e => by rcases e with e | e <;> (rw [e]; decide)⟩
/-- The tables of utf8 are older than B. -/
structure TabB (w : World) (B : Nat) : Prop where
  t : Tabs w
  g1 : 0 < B
  g2 : 1 < B
theorem TabB.out {w w' : World} {B : Nat} {O : Nat → Prop} (h : TabB w B) (ho : Out O w w') (hO : ∀ k, O k → B ≤ k) : TabB w' B :=
  have h1 : ¬ O 0 := fun e => by have := hO _ e; have := h.g1; omega
  have h2 : ¬ O 1 := fun e => by have := hO _ e; have := h.g2; omega
  ⟨⟨fun i hi => ho.cell (h.t.1 i hi) h1, fun i hi => ⟨ho.cell (h.t.2 i hi).1 h2, ho.cell (h.t.2 i hi).2 h2⟩⟩, h.g1, h.g2⟩
/-- How often the maps were stored into. -/
structure MachN (n : Nat) (x : MachD) (E : MachE) : Prop where
  nw : E.nw ≤ n
  nd : E.nd + x.q.l.length ≤ n
  ns : E.ns ≤ n
  nv : E.nv ≤ n
  nN : E.N ≤ 6 * x.s.last
  nl : E.nl ≤ n
structure GrAt (w : World) (B p : Nat) (c : Cfg) (g : Int) (n : Nat) (lab : Nat → Lab) (x : MachD) (E : MachE) (ov : Value) (os : List OutD) : Prop where
  m : MachIn w B p c g lab x E ov
  o : OutRow w B lab ov os
  k : MOK c g n x
  cn : MachN n x E
  tb : TabB w B
theorem GrAt.later {w w' : World} {B p n : Nat} {c : Cfg} {g : Int} {lab : Nat → Lab} {x : MachD} {E : MachE} {ov : Value} {os : List OutD} (h : GrAt w B p c g n lab x E ov os) (hb : Below w.heap.size w w') : GrAt w' B p c g n lab x E ov os :=
  { h with m := h.m.later hb, o := ⟨own_keep h.o.1 hb, h.o.2⟩, tb := h.tb.out (O := fun _ => False) (Out.of_below hb) (fun _ e => e.elim) }
theorem GrAt.out {w w' : World} {B p n : Nat} {c : Cfg} {g : Int} {lab : Nat → Lab} {x : MachD} {E : MachE} {ov : Value} {os : List OutD} {O : Nat → Prop} (h : GrAt w B p c g n lab x E ov os) (ho : Out O w w') (hL : ∀ k, lab k ≠ .no → ¬ O k) (hO : ∀ k, O k → B ≤ k) : GrAt w' B p c g n lab x E ov os :=
  { h with m := h.m.out ho hL hO, o := ⟨ho.row h.o.1 (fun b e => hL b (by rw [h.o.2 b e]; decide)), h.o.2⟩, tb := h.tb.out ho hO }
theorem GrAt.more {w : World} {B p n : Nat} {c : Cfg} {g : Int} {lab : Nat → Lab} {x : MachD} {E : MachE} {ov : Value} {os : List OutD} (h : GrAt w B p c g n lab x E ov os) {n' : Nat} (hn : n ≤ n') : GrAt w B p c g n' lab x E ov os :=
  { h with k := h.k.more hn, cn := ⟨Nat.le_trans h.cn.nw hn, Nat.le_trans h.cn.nd hn, Nat.le_trans h.cn.ns hn, Nat.le_trans h.cn.nv hn, h.cn.nN, Nat.le_trans h.cn.nl hn⟩ }
theorem GrAt.lt {w : World} {B p n : Nat} {c : Cfg} {g : Int} {lab : Nat → Lab} {x : MachD} {E : MachE} {ov : Value} {os : List OutD} (h : GrAt w B p c g n lab x E ov os) : ∀ k, lab k ≠ .no → k < w.heap.size := fun k hk => (h.m.lt k hk).2
theorem GrAt.lb {w : World} {B p n : Nat} {c : Cfg} {g : Int} {lab : Nat → Lab} {x : MachD} {E : MachE} {ov : Value} {os : List OutD} (h : GrAt w B p c g n lab x E ov os) : ∀ k, lab k ≠ .no → B ≤ k := fun k hk => (h.m.lt k hk).1
def GrEnd (w w' : World) (B p : Nat) (c : Cfg) (g : Int) (n : Nat) (lab : Nat → Lab) (x : MachD) (os : List OutD) : Prop :=
  ∃ lab' E' ov', GrAt w' B p c g n lab' x E' ov' os ∧ GrStep w w' lab lab'
end Go.Proofs.YtcldpmkhpmlcbaaGreatDoor
