/- Layer 17 in plain Lean: what is seen at a stamp that is safe stays. -/
import Derived.Test.YtcldpmkhpmlcbaaGreatDoorJ20
set_option linter.unusedVariables false
set_option linter.unusedSimpArgs false
namespace Go.Proofs.YtcldpmkhpmlcbaaGreatDoor

/-! ### What is safe -/
def SafeAt (q : QD) (s : Nat) : Prop := s ≤ q.clock ∧ ∀ o ∈ q.l, s < o.stamp
theorem stamp_clock {q : QD} (h : QOK q) {o : OneD} (ho : o ∈ q.l) : 1 ≤ o.stamp ∧ o.stamp ≤ q.clock := by
  have h1 := h.one o ho
  refine ⟨Nat.le_trans h1.own.1 (own_le_stamp o), ?_⟩
  cases hf : o.final
  · unfold OneD.stamp; rw [hf]; exact h1.own.2
  · exact h1.top hf
theorem leO_stamp {a b : OneD} (h : leO a b = true) : a.stamp ≤ b.stamp := by
  simp only [leO, Bool.not_eq_true'] at h
  rcases Nat.lt_or_ge b.stamp a.stamp with q | q
  · rw [ltO_iff.2 (.inl q)] at h; cases h
  · exact q
theorem safe_iff {q : QD} (h : QOK q) {s : Nat} : s ≤ safeQ q ↔ SafeAt q s := by
  unfold safeQ SafeAt
  cases hl : q.l with
  | nil => simp
  | cons o l =>
    have h1 := stamp_clock h (o := o) (by rw [hl]; exact List.mem_cons_self)
    have hso := h.so
    rw [hl, List.pairwise_cons] at hso
    constructor
    · intro hs
      refine ⟨by simp only at hs; omega, fun o' ho' => ?_⟩
      rcases List.mem_cons.1 ho' with rfl | ho'
      · simp only at hs; omega
      · have := leO_stamp (hso.1 o' ho')
        simp only at hs; omega
    · intro hs
      have := hs.2 o List.mem_cons_self
      simp only
      omega
theorem safe_begin {q : QD} {i : IdD} {gs : List Int} {s : Nat} (hs : SafeAt q s) : SafeAt (beginQ q i gs) s := by
  rw [beginQ]
  split
  · refine ⟨Nat.le_succ_of_le hs.1, fun o ho => ?_⟩
    rcases List.mem_append.1 ((sortQ_perm _).mem_iff.1 ho) with ho | ho
    · exact hs.2 o ho
    · rw [List.mem_singleton.1 ho]
      have := own_le_stamp (newOne q i gs)
      have h2 : (newOne q i gs).own = q.clock + 1 := rfl
      have := hs.1
      omega
  · exact hs
theorem hasK_iff17 {vs : List (Int × Nat)} {g : Int} : hasK vs g = true ↔ g ∈ vs.map (·.1) := by
  simp [hasK]
theorem learn_free {q : QD} {o : OneD} (h : OneOK q o) {g : Int} (hg : g ≠ q.g) (hc : o.gs.contains g = true) (hk : hasK o.known g = false) : o.final = false := by
  cases hf : o.final
  · rfl
  · exfalso
    have hlen : o.known.length + 1 = o.gs.length := by
      have := h.fin
      rw [hf] at this
      exact of_decide_eq_true this.symm
    have hmy : o.gs.contains q.g = true := by
      have := h.gs
      simp only [rightB, Bool.and_eq_true] at this
      exact this.2
    have hn : (q.g :: g :: o.known.map (·.1)).Nodup := by
      rw [List.nodup_cons, List.nodup_cons]
      refine ⟨fun hm => ?_, fun hm => ?_, h.nd⟩
      · rcases List.mem_cons.1 hm with e | hm
        · exact hg e.symm
        · obtain ⟨x, hx, e⟩ := List.mem_map.1 hm
          exact (h.kn x hx).1 e
      · rw [← hasK_iff17, hk] at hm
        cases hm
    have := nodup_le (m := o.gs) hn (fun x hx => by
      rcases List.mem_cons.1 hx with rfl | hx
      · simpa using hmy
      · rcases List.mem_cons.1 hx with rfl | hx
        · simpa using hc
        · obtain ⟨y, hy, rfl⟩ := List.mem_map.1 hx
          simpa using (h.kn y hy).2.1)
    simp only [List.length_cons, List.length_map] at this
    omega
theorem topK_up {k : List (Int × Nat)} {n : Nat} : n ≤ topK k n := topK_le
theorem learn_stamp {q : QD} (h : QOK q) {i : IdD} {g : Int} {s : Nat} (hk : learnK q i g s = 2) : oneQ q i ∈ q.l ∧ (oneQ q i).stamp ≤ (learnOne (oneQ q i) g s).stamp := by
  unfold learnK at hk
  split at hk; · cases hk
  rename_i h1
  split at hk; · cases hk
  rename_i h2
  split at hk; · cases hk
  rename_i h3
  obtain ⟨_, _, hm⟩ := hasQ_id (q := q) (i := i) (by simpa using h1)
  simp only [Bool.or_eq_true, decide_eq_true_eq, Bool.not_eq_true', not_or] at h2
  have hf := learn_free (h.one _ hm) h2.1.1.1 (by simpa using h2.1.1.2) (by simpa using h3)
  refine ⟨hm, ?_⟩
  have e : (oneQ q i).stamp = (oneQ q i).own := by unfold OneD.stamp; rw [hf]; rfl
  rw [e]
  exact own_le_stamp (learnOne (oneQ q i) g s)
theorem learn_mem {q : QD} (h : QOK q) {i : IdD} {g : Int} {s : Nat} : q.clock ≤ (learnQ q i g s).clock ∧ ∀ o ∈ (learnQ q i g s).l, ∃ o' ∈ q.l, o'.stamp ≤ o.stamp := by
  rw [learnQ]
  split
  · rename_i hk
    obtain ⟨hm, hs⟩ := learn_stamp h hk
    refine ⟨?_, fun o ho => ?_⟩
    · show q.clock ≤ (if (learnOne (oneQ q i) g s).final = true then max q.clock (learnOne (oneQ q i) g s).stamp else q.clock)
      split
      · exact Nat.le_max_left _ _
      · exact Nat.le_refl _
    · rcases List.mem_or_eq_of_mem_set ((sortQ_perm _).mem_iff.1 ho) with ho | ho
      · exact ⟨o, ho, Nat.le_refl _⟩
      · rw [ho]; exact ⟨_, hm, hs⟩
  · exact ⟨Nat.le_refl _, fun o ho => ⟨o, ho, Nat.le_refl _⟩⟩
theorem safe_learn {q : QD} (h : QOK q) {i : IdD} {g : Int} {s n : Nat} (hs : SafeAt q n) : SafeAt (learnQ q i g s) n := by
  obtain ⟨h1, h2⟩ := learn_mem h (i := i) (g := g) (s := s)
  refine ⟨Nat.le_trans hs.1 h1, fun o ho => ?_⟩
  obtain ⟨o', ho', hle⟩ := h2 o ho
  exact Nat.lt_of_lt_of_le (hs.2 o' ho') hle
theorem safe_done {q : QD} {n : Nat} (hs : SafeAt q n) : SafeAt (doneQ q) n := ⟨hs.1, fun o ho => hs.2 o (List.mem_of_mem_drop ho)⟩
theorem next_stamp {q : QD} {i : IdD} {s : Nat} (h : nextQ q = some (i, s)) : ∃ o l, q.l = o :: l ∧ o.stamp = s ∧ o.id = i ∧ o.final = true := by
  unfold nextQ at h
  split at h
  · cases h
  · rename_i o l e
    split at h
    · rename_i hf
      cases h
      exact ⟨o, l, e, rfl, rfl, hf⟩
    · cases h
/-! ### The stamps of the versions -/
structure SOK (m : MachD) : Prop where
  so : m.a.Pairwise (· ≤ ·)
  top : ∀ s ∈ m.a, s ≤ m.q.clock ∧ ∀ o ∈ m.q.l, s ≤ o.stamp
theorem sok0 (g : Int) : SOK (mach0 g) := ⟨List.pairwise_singleton _ _, fun s hs => by
  rw [show (mach0 g).a = [0] from rfl, List.mem_singleton] at hs
  subst hs
  exact ⟨Nat.zero_le _, fun o ho => by cases ho⟩⟩
/-- The number of the last version whose stamp isn't above s. -/
def idxA (a : List Nat) (s : Nat) : Nat := (a.takeWhile fun x => decide (x ≤ s)).length - 1
def viewS (m : MachD) (k : ByteArray) (s : Nat) : Option Val := if s < m.a.headD 0 then none else some (getV m.s k (m.s.low + idxA m.a s)).val
structure Stays (m m' : MachD) (s : Nat) : Prop where
  safe : SafeAt m.q s → SafeAt m'.q s
  view : SafeAt m.q s → ∀ k, viewS m' k s = none ∨ viewS m' k s = viewS m k s
theorem Stays.refl (m : MachD) (s : Nat) : Stays m m s := ⟨id, fun _ _ => .inr rfl⟩
theorem Stays.trans {a b d : MachD} {s : Nat} (h : Stays a b s) (h' : Stays b d s) : Stays a d s :=
  ⟨fun e => h'.safe (h.safe e), fun e k => by
    rcases h'.view (h.safe e) k with e1 | e1
    · exact .inl e1
    · rcases h.view e k with e2 | e2
      · exact .inl (e1.trans e2)
      · exact .inr (e1.trans e2)⟩
theorem Stays.same {m m' : MachD} {s : Nat} (hq : SafeAt m.q s → SafeAt m'.q s) (ha : m'.a = m.a) (hs : m'.s = m.s) : Stays m m' s :=
  ⟨hq, fun _ k => .inr (by rw [viewS, viewS, ha, hs])⟩
theorem safe_folds {i : IdD} {n : Nat} : ∀ (gs : List Int) {q : QD} {st : List (FromD × Nat)}, QOK q → SafeAt q n → SafeAt (gs.foldl (learnStep i) (q, st)).1 n
  | [], q, st, _, h => h
  | g :: gs, q, st, hq, h => by
    rw [List.foldl_cons]
    unfold learnStep
    cases e : getM st (i, g) with
    | none => exact safe_folds gs hq h
    | some s => exact safe_folds gs (learn_ok hq i g s) (safe_learn hq h)
section
variable {c : Cfg} {g : Int} {n : Nat} {m : MachD}
theorem begin_stays (h : MOK c g n m) {t : Tx} (s : Nat) : Stays m (beginM c g m t) s := by
  unfold beginM
  split
  · exact Stays.same (fun e => safe_folds _ (begin_ok h.q _ _) (safe_begin e)) rfl rfl
  · exact Stays.refl _ _
theorem heard_stays (h : MOK c g n m) (k : Int) (i : IdD) (hh : Int) (s : Nat) (y : Bool) (s0 : Nat) : Stays m (heardM g m k i hh s y) s0 := by
  unfold heardM
  repeat' split
  all_goals first
    | exact Stays.refl _ _
    | exact Stays.same (fun e => safe_learn h.q e) rfl rfl
    | exact Stays.same id rfl rfl
theorem sok_q (h : SOK m) {q' : QD} (hc : m.q.clock ≤ q'.clock) (ho : ∀ o ∈ q'.l, (∃ o' ∈ m.q.l, o'.stamp ≤ o.stamp) ∨ m.q.clock ≤ o.stamp) {m' : MachD} (ha : m'.a = m.a) (hq : m'.q = q') : SOK m' :=
  ⟨by rw [ha]; exact h.so, fun s hs => by
    rw [ha] at hs
    obtain ⟨h1, h2⟩ := h.top s hs
    rw [hq]
    refine ⟨Nat.le_trans h1 hc, fun o hoo => ?_⟩
    rcases ho o hoo with ⟨o', ho', hle⟩ | hle
    · exact Nat.le_trans (h2 o' ho') hle
    · exact Nat.le_trans h1 hle⟩
theorem sok_begin {q : QD} (i : IdD) (gs : List Int) : q.clock ≤ (beginQ q i gs).clock ∧ ∀ o ∈ (beginQ q i gs).l, (∃ o' ∈ q.l, o'.stamp ≤ o.stamp) ∨ q.clock ≤ o.stamp := by
  rw [beginQ]
  split
  · refine ⟨Nat.le_succ _, fun o ho => ?_⟩
    rcases List.mem_append.1 ((sortQ_perm _).mem_iff.1 ho) with ho | ho
    · exact .inl ⟨o, ho, Nat.le_refl _⟩
    · rw [List.mem_singleton.1 ho]
      have := own_le_stamp (newOne q i gs)
      have h2 : (newOne q i gs).own = q.clock + 1 := rfl
      exact .inr (by omega)
  · exact ⟨Nat.le_refl _, fun o ho => .inl ⟨o, ho, Nat.le_refl _⟩⟩
theorem sok_folds {i : IdD} {q0 : QD} : ∀ (gs : List Int) {q : QD} {st : List (FromD × Nat)}, QOK q → q0.clock ≤ q.clock → (∀ o ∈ q.l, (∃ o' ∈ q0.l, o'.stamp ≤ o.stamp) ∨ q0.clock ≤ o.stamp) →
    q0.clock ≤ (gs.foldl (learnStep i) (q, st)).1.clock ∧ ∀ o ∈ (gs.foldl (learnStep i) (q, st)).1.l, (∃ o' ∈ q0.l, o'.stamp ≤ o.stamp) ∨ q0.clock ≤ o.stamp
  | [], q, st, _, h1, h2 => ⟨h1, h2⟩
  | g :: gs, q, st, hq, h1, h2 => by
    rw [List.foldl_cons]
    unfold learnStep
    cases e : getM st (i, g) with
    | none => exact sok_folds gs hq h1 h2
    | some s =>
      obtain ⟨h3, h4⟩ := learn_mem hq (i := i) (g := g) (s := s)
      refine sok_folds gs (learn_ok hq i g s) (Nat.le_trans h1 h3) (fun o ho => ?_)
      obtain ⟨o', ho', hle⟩ := h4 o ho
      rcases h2 o' ho' with ⟨o2, ho2, hle2⟩ | hle2
      · exact .inl ⟨o2, ho2, Nat.le_trans hle2 hle⟩
      · exact .inr (Nat.le_trans hle2 hle)
theorem begin_sok (h : MOK c g n m) (hs : SOK m) {t : Tx} : SOK (beginM c g m t) := by
  unfold beginM
  split
  · obtain ⟨h1, h2⟩ := sok_begin (q := m.q) (idT t) (groupsT c t)
    obtain ⟨h3, h4⟩ := sok_folds (i := idT t) (q0 := m.q) (st := m.st) (groupsT c t) (begin_ok h.q (idT t) (groupsT c t)) h1 h2
    exact sok_q hs h3 h4 rfl rfl
  · exact hs
theorem heard_sok (h : MOK c g n m) (hs : SOK m) (k : Int) (i : IdD) (hh : Int) (s : Nat) (y : Bool) : SOK (heardM g m k i hh s y) := by
  unfold heardM
  repeat' split
  all_goals first
    | exact hs
    | exact sok_q hs (learn_mem h.q).1 (fun o ho => .inl ((learn_mem h.q).2 o ho)) rfl rfl
    | exact ⟨hs.so, hs.top⟩
/-! ### A write -/
theorem idxA_snoc {a : List Nat} {f s : Nat} (hf : s < f) : (a ++ [f]).takeWhile (fun x => decide (x ≤ s)) = a.takeWhile (fun x => decide (x ≤ s)) := by
  induction a with
  | nil => simp [List.takeWhile_cons, hf]
  | cons x a ih =>
    rw [List.cons_append, List.takeWhile_cons, List.takeWhile_cons]
    split
    · rw [ih]
    · rfl
theorem takeWhile_drop {a : List Nat} {s : Nat} (hso : a.Pairwise (· ≤ ·)) : ∀ {d : Nat}, d < a.length → (a.drop d).headD 0 ≤ s → ((a.drop d).takeWhile fun x => decide (x ≤ s)).length + d = (a.takeWhile fun x => decide (x ≤ s)).length := by
  induction a with
  | nil => intro d hd; simp at hd
  | cons x a ih =>
    intro d hd hh
    cases d with
    | zero => simp
    | succ d =>
      rw [List.pairwise_cons] at hso
      simp only [List.drop_succ_cons] at hh ⊢
      have hd' : d < a.length := by simpa using hd
      have := ih hso.2 hd' hh
      have hx : x ≤ s := by
        have hm : (a.drop d).headD 0 ∈ a := by
          have e : (a.drop d).headD 0 = a[d] := by
            rw [List.drop_eq_getElem_cons hd']
            rfl
          rw [e]
          exact List.getElem_mem _
        exact Nat.le_trans (hso.1 _ hm) hh
      rw [List.takeWhile_cons, if_pos (by simpa using hx), List.length_cons]
      omega
theorem takeWhile_pos {a : List Nat} {s : Nat} (hne : a ≠ []) (hh : ¬ s < a.headD 0) : 1 ≤ (a.takeWhile fun x => decide (x ≤ s)).length := by
  cases a with
  | nil => exact absurd rfl hne
  | cons x a =>
    simp only [List.headD_cons] at hh
    rw [List.takeWhile_cons, if_pos (by simp; omega)]
    simp
theorem takeWhile_le {a : List Nat} {s : Nat} : (a.takeWhile fun x => decide (x ≤ s)).length ≤ a.length := (List.takeWhile_prefix _).length_le
theorem val_same {L : List Ver} {low N : Nat} (hlow : low ≤ N) (hf : ∀ v ∈ L, formedV v.val = true) : (seenV (colV L low) N).val = (seenV L N).val := by
  obtain ⟨h1, h2⟩ := seen_colV L hlow
  by_cases hk : (seenV L N).val.kind = 0
  · have f1 : formedV (seenV L N).val = true := by
      rcases seenV_mem' L N with e | e
      · rw [e]; rfl
      · exact hf _ e
    have f2 : formedV (seenV (colV L low) N).val = true := by
      rcases seenV_mem' (colV L low) N with e | e
      · rw [e]; rfl
      · exact hf _ (colV_sub _ e)
    rw [formed0 f1 hk, formed0 f2 (h1.trans hk)]
  · rw [h2 hk]
theorem seen_puts {n N : Nat} (hN : N < n) : ∀ (l : List Wr) {m : KV}, RisesK m → ∀ k, seenV (getK (putWs n m l) k) N = seenV (getK m k) N
  | [], m, _, k => rfl
  | y :: l, m, hm, k => by
    have hstep : putWs n m (y :: l) = putWs n (putW n m y) l := rfl
    have hr : RisesK (putW n m y) := putK_rises hm _ _
    rw [hstep, seen_puts hN l hr k, putW, getK_putK hm]
    split
    · rename_i e
      rw [seenV_cons_hi hN, e]
    · rfl
theorem write_stays (h : MOK c g n m) (hs : SOK m) {final s0 : Nat} (hf : s0 < final) {ws : List Wr} (hw : wrsOK ws = true) : ∀ k, viewS (writeM m final ws) k s0 = none ∨ viewS (writeM m final ws) k s0 = viewS m k s0 := by
  intro k
  have ha : applyS m.s (m.s.last + 1) ws = ⟨putWs (m.s.last + 1) m.s.ks ws, m.s.last + 1, m.s.low⟩ := by
    rw [applyS, if_neg (by omega), if_pos hw]
  have hok := apply_ok h.s (m.s.last + 1) ws
  rw [ha] at hok
  have hlow := h.s.low
  have hal := h.a
  have hne : m.a ≠ [] := fun e => by rw [e] at hal; simp at hal; omega
  have hhead : (m.a ++ [final]).headD 0 = m.a.headD 0 := by
    cases e : m.a with
    | nil => exact absurd e hne
    | cons => rfl
  have hidx : idxA (m.a ++ [final]) s0 = idxA m.a s0 := by rw [idxA, idxA, idxA_snoc hf]
  have htw := takeWhile_le (a := m.a) (s := s0)
  have hN : m.s.low + idxA m.a s0 < m.s.last + 1 := by unfold idxA; omega
  unfold writeM
  simp only [ha]
  split
  · rename_i hb
    have hco : colOK ⟨putWs (m.s.last + 1) m.s.ks ws, m.s.last + 1, m.s.low⟩ (m.s.last + 1 - 8) = true := by
      unfold colOK
      simp only [Bool.and_eq_true, decide_eq_true_eq]
      omega
    by_cases hold : s0 < ((m.a ++ [final]).drop (m.s.last + 1 - 8 - m.s.low)).headD 0
    · left
      rw [viewS, if_pos hold]
    · right
      have hso2 : (m.a ++ [final]).Pairwise (· ≤ ·) ∨ True := .inr trivial
      have hd : m.s.last + 1 - 8 - m.s.low < (m.a ++ [final]).length := by rw [List.length_append, List.length_singleton]; omega
      rw [viewS, if_neg hold]
      have hd' : m.s.last + 1 - 8 - m.s.low < m.a.length := by
        rcases Nat.lt_or_ge (m.s.last + 1 - 8 - m.s.low) m.a.length with q | q
        · exact q
        · exfalso; omega
      have e1 : (m.a ++ [final]).drop (m.s.last + 1 - 8 - m.s.low) = m.a.drop (m.s.last + 1 - 8 - m.s.low) ++ [final] := List.drop_append_of_le_length (by omega)
      have hne2 : m.a.drop (m.s.last + 1 - 8 - m.s.low) ≠ [] := fun e => by
        have := congrArg List.length e
        simp at this; omega
      rw [e1] at hold ⊢
      have hold' : ¬ s0 < (m.a.drop (m.s.last + 1 - 8 - m.s.low)).headD 0 := by
        cases e : m.a.drop (m.s.last + 1 - 8 - m.s.low) with
        | nil => exact absurd e hne2
        | cons => rw [e] at hold; exact hold
      have hdt := takeWhile_drop (s := s0) hs.so hd' (by omega)
      have hpos := takeWhile_pos hne2 hold'
      have hh0 : ¬ s0 < m.a.headD 0 := by
        have hm : (m.a.drop (m.s.last + 1 - 8 - m.s.low)).headD 0 = m.a[m.s.last + 1 - 8 - m.s.low] := by
          rw [List.drop_eq_getElem_cons hd']; rfl
        rw [hm] at hold'
        have h0 : m.a.headD 0 = m.a[0]'(by omega) := by
          rw [List.headD_eq_head?_getD, List.head?_eq_getElem?, List.getElem?_eq_getElem (by omega)]
          rfl
        rw [h0]
        rcases Nat.eq_zero_or_pos (m.s.last + 1 - 8 - m.s.low) with q | q
        · simp only [q] at hold'; exact hold'
        · have := List.pairwise_iff_getElem.1 hs.so 0 (m.s.last + 1 - 8 - m.s.low) (by omega) hd' q
          omega
      rw [viewS, if_neg hh0]
      have ei : m.s.last + 1 - 8 + idxA (m.a.drop (m.s.last + 1 - 8 - m.s.low) ++ [final]) s0 = m.s.low + idxA m.a s0 := by
        unfold idxA
        rw [idxA_snoc hf]
        omega
      simp only [colS, hco, if_true]
      rw [ei]
      have hlo : m.s.last + 1 - 8 ≤ m.s.low + idxA m.a s0 := by rw [← ei]; omega
      rw [getV, if_neg (by simp only; omega), getV, if_neg (by omega)]
      simp only
      rw [getK_colK hok.rises, val_same hlo (hok.getK k).2.2.1, seen_puts hN ws h.s.rises]
  · right
    rw [viewS, viewS, hhead]
    split
    · rfl
    · simp only [hidx]
      rw [getV, if_neg (by simp only; omega), getV, if_neg (by omega)]
      simp only
      rw [seen_puts hN ws h.s.rises]
theorem write_sok (hs : SOK m) {final : Nat} (hc : final ≤ m.q.clock) (hq : ∀ o ∈ m.q.l, final ≤ o.stamp) (ht : ∀ s ∈ m.a, s ≤ final) (ws : List Wr) : SOK (writeM m final ws) := by
  have hall : (m.a ++ [final]).Pairwise (· ≤ ·) ∧ ∀ s ∈ m.a ++ [final], s ≤ m.q.clock ∧ ∀ o ∈ m.q.l, s ≤ o.stamp := by
    refine ⟨?_, fun s h => ?_⟩
    · rw [List.pairwise_append]
      exact ⟨hs.so, List.pairwise_singleton _ _, fun a ha b hb => by rw [List.mem_singleton.1 hb]; exact ht a ha⟩
    · rcases List.mem_append.1 h with h | h
      · exact hs.top s h
      · rw [List.mem_singleton.1 h]; exact ⟨hc, hq⟩
  unfold writeM
  simp only
  split
  · exact ⟨hall.1.sublist (List.drop_sublist _ _), fun s h => hall.2 s (List.mem_of_mem_drop h)⟩
  · exact ⟨hall.1, hall.2⟩
theorem turn_stays (h : MOK c g n m) (hs : SOK m) (s0 : Nat) : Stays m (turnM c g m).2.1 s0 ∧ SOK (turnM c g m).2.1 := by
  unfold turnM
  split
  · exact ⟨Stays.refl _ _, hs⟩
  · rename_i i final hn
    obtain ⟨v, hv, hw, hok⟩ := next_waits h hn
    obtain ⟨o, l, hl, hst, hid, hfin⟩ := next_stamp hn
    simp only
    rw [hw]
    split
    · obtain ⟨hd, hlen⟩ := done_okM h hn (outYes v.gs.length (ownVotes c g m v))
      have hom : o ∈ m.q.l := by rw [hl]; exact List.mem_cons_self
      have hsd : SOK (doneM m i (outYes v.gs.length (ownVotes c g m v)) final) := ⟨hs.so, fun s hss => ⟨(hs.top s hss).1, fun o' ho' => (hs.top s hss).2 o' (List.mem_of_mem_drop ho')⟩⟩
      have hfc := stamp_clock h.q hom
      have hfl : ∀ o' ∈ (doneM m i (outYes v.gs.length (ownVotes c g m v)) final).q.l, final ≤ o'.stamp := fun o' ho' => by
        have hso := h.q.so
        rw [hl, List.pairwise_cons] at hso
        have ho2 : o' ∈ (m.q.l.drop 1) := ho'
        rw [hl, List.drop_one, List.tail_cons] at ho2
        rw [← hst]; exact leO_stamp (hso.1 o' ho2)
      have hat : ∀ s ∈ m.a, s ≤ final := fun s hss => by rw [← hst]; exact (hs.top s hss).2 o hom
      have hstay : Stays m (doneM m i (outYes v.gs.length (ownVotes c g m v)) final) s0 := Stays.same (fun e => safe_done e) rfl rfl
      split
      · refine ⟨⟨fun e => ?_, fun e k => ?_⟩, write_sok hsd (by rw [← hst]; exact hfc.2) hfl hat _⟩
        · show SafeAt (writeM _ _ _).q s0
          rw [(write_q _ _ _).1]
          exact safe_done e
        · have hlt : s0 < final := by rw [← hst]; exact e.2 o hom
          exact write_stays hd hsd hlt (wrsOK_cut (c := c) (g := g) hok.f) k
      · exact ⟨hstay, hsd⟩
    · exact ⟨Stays.same id rfl rfl, ⟨hs.so, hs.top⟩⟩
theorem adv_stays : ∀ (k : Nat) {m : MachD}, MOK c g n m → SOK m → ∀ s0, Stays m (advM c g k m).1 s0 ∧ SOK (advM c g k m).1
  | 0, m, _, hs, s0 => ⟨Stays.refl _ _, hs⟩
  | k + 1, m, h, hs, s0 => by
    obtain ⟨h1, h2⟩ := turn_stays h hs s0
    have h3 := (turn_okM h).1
    unfold advM
    simp only
    split
    · obtain ⟨h4, h5⟩ := adv_stays k h3 h2 s0
      exact ⟨h1.trans h4, h5⟩
    · exact ⟨h1, h2⟩
theorem apply_stays (h : MOK c g n m) (hs : SOK m) (a : CmdV) (s0 : Nat) : Stays m (applyM c g m a) s0 ∧ SOK (applyM c g m a) := by
  unfold applyM
  split
  · rename_i hf
    have h1 := applyA_ok h (cmdOK_of hf)
    have h2 : Stays m (applyA c g m a) s0 ∧ SOK (applyA c g m a) := by
      unfold applyA
      split
      · exact ⟨begin_stays h s0, begin_sok h hs⟩
      · split
        · exact ⟨heard_stays h _ _ _ _ _ s0, heard_sok h hs _ _ _ _ _⟩
        · exact ⟨Stays.refl _ _, hs⟩
    obtain ⟨h3, h4⟩ := adv_stays ((applyA c g m a).q.l.length + 1) h1 h2.2 s0
    exact ⟨h2.1.trans h3, h4⟩
  · exact ⟨Stays.refl _ _, hs⟩
end
end Go.Proofs.YtcldpmkhpmlcbaaGreatDoor
