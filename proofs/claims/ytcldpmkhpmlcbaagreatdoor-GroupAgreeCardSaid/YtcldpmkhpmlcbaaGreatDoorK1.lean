/- GroupAgree in plain Lean: what a machine knows of the others: own stamps and votes, of all groups. -/
import Derived.Test.YtcldpmkhpmlcbaaGreatDoorJ19
import Derived.Test.YtcldpmkhpmlcbaaGreatDoorJ9
import Derived.Test.YtcldpmkhpmlcbaaGreatDoorJ20
import Derived.Test.YtcldpmkhpmlcbaaGreatDoorSaf17
set_option linter.unusedVariables false
set_option linter.unusedSimpArgs false
namespace Go.Proofs.YtcldpmkhpmlcbaaGreatDoor

/-- Each group's own stamp, and vote, of each transaction, once there is one. -/
structure Gh where
  own : Int → IdD → Option Nat
  vote : Int → IdD → Option Bool
structure Gh.Le (a b : Gh) : Prop where
  own : ∀ h i s, a.own h i = some s → b.own h i = some s
  vote : ∀ h i y, a.vote h i = some y → b.vote h i = some y
theorem Gh.Le.refl (a : Gh) : a.Le a := ⟨fun _ _ _ h => h, fun _ _ _ h => h⟩
theorem Gh.Le.trans {a b d : Gh} (h : a.Le b) (h' : b.Le d) : a.Le d := ⟨fun x i s e => h'.own x i s (h.own x i s e), fun x i y e => h'.vote x i y (h.vote x i y e)⟩
/-- Only one group's row is another. -/
def Gh.Row (g : Int) (a b : Gh) : Prop := ∀ h, h ≠ g → b.own h = a.own h ∧ b.vote h = a.vote h
theorem Gh.Row.refl (g : Int) (a : Gh) : Gh.Row g a a := fun _ _ => ⟨rfl, rfl⟩
theorem Gh.Row.trans {g : Int} {a b d : Gh} (h : Gh.Row g a b) (h' : Gh.Row g b d) : Gh.Row g a d := fun x e => ⟨(h' x e).1.trans (h x e).1, (h' x e).2.trans (h x e).2⟩
def Gh.setOwn (a : Gh) (g : Int) (i : IdD) (s : Nat) : Gh := { a with own := fun h j => if h = g ∧ j = i then some s else a.own h j }
def Gh.setVote (a : Gh) (g : Int) (i : IdD) (y : Bool) : Gh := { a with vote := fun h j => if h = g ∧ j = i then some y else a.vote h j }
theorem setOwn_le {a : Gh} {g : Int} {i : IdD} {s : Nat} (h : a.own g i = none) : a.Le (a.setOwn g i s) := ⟨fun x j u e => by
  show (if x = g ∧ j = i then some s else a.own x j) = some u
  split
  · rename_i q; rw [q.1, q.2, h] at e; cases e
  · exact e, fun _ _ _ e => e⟩
theorem setVote_le {a : Gh} {g : Int} {i : IdD} {y : Bool} (h : a.vote g i = none) : a.Le (a.setVote g i y) := ⟨fun _ _ _ e => e, fun x j u e => by
  show (if x = g ∧ j = i then some y else a.vote x j) = some u
  split
  · rename_i q; rw [q.1, q.2, h] at e; cases e
  · exact e⟩
theorem setOwn_row {a : Gh} {g : Int} {i : IdD} {s : Nat} : Gh.Row g a (a.setOwn g i s) := fun h e => ⟨by funext j; exact if_neg (fun q => e q.1), rfl⟩
theorem setVote_row {a : Gh} {g : Int} {i : IdD} {y : Bool} : Gh.Row g a (a.setVote g i y) := fun h e => ⟨rfl, by funext j; exact if_neg (fun q => e q.1)⟩
theorem setOwn_same {a : Gh} {g : Int} {i : IdD} {s : Nat} : (a.setOwn g i s).own g i = some s := if_pos ⟨rfl, rfl⟩
theorem setVote_same {a : Gh} {g : Int} {i : IdD} {y : Bool} : (a.setVote g i y).vote g i = some y := if_pos ⟨rfl, rfl⟩

section
variable (c : Cfg) (all : List Tx)
/-- An entry of a queue. -/
def OneLoc (G : Gh) (g : Int) (o : OneD) : Prop := (∃ t ∈ all, idT t = o.id ∧ o.gs = groupsT c t) ∧ G.own g o.id = some o.own ∧ ∀ x ∈ o.known, G.own x.1 o.id = some x.2
def QLoc (G : Gh) (g : Int) (q : QD) : Prop := ∀ o ∈ q.l, OneLoc c all G g o
def VLoc (G : Gh) (i : IdD) (vs : List (Int × Bool)) : Prop := ∀ x ∈ vs, G.vote x.1 i = some x.2
/-- The final stamp: the greatest of its groups'. -/
def FinT (G : Gh) (t : Tx) (s : Nat) : Prop := (∀ h ∈ groupsT c t, ∃ s', G.own h (idT t) = some s' ∧ s' ≤ s) ∧ ∃ h ∈ groupsT c t, G.own h (idT t) = some s
def YesT (G : Gh) (t : Tx) (y : Bool) : Prop := (y = true → ∀ h ∈ groupsT c t, G.vote h (idT t) = some true) ∧ (y = false → ∃ h ∈ groupsT c t, G.vote h (idT t) = some false)
structure Loc (G : Gh) (g : Int) (m : MachD) : Prop where
  q : QLoc c all G g m.q
  w : ∀ i v, getM m.wt i = some v → v.t ∈ all ∧ VLoc G i v.vs
  d : ∀ i y s, getM m.dc i = some (y, s) → ∃ t ∈ all, idT t = i ∧ g ∈ groupsT c t ∧ FinT c G t s ∧ YesT c G t y ∧ (G.vote g i).isSome = true
  st : ∀ i h s, getM m.st (i, h) = some s → G.own h i = some s
  vo : ∀ i h y, getM m.vo (i, h) = some y → G.vote h i = some y
  ow : ∀ i s, G.own g i = some s → (getM m.wt i).isSome = true ∨ (getM m.dc i).isSome = true
  vt : ∀ i y, G.vote g i = some y → (getM m.dc i).isSome = true ∨ ∃ v, getM m.wt i = some v ∧ hasV v.vs g = true
/-- What is told. -/
def Told1 (G : Gh) (g : Int) (x : OutD) : Prop := x.kind = 4 ∨ ((∃ t ∈ all, idT t = x.id ∧ x.dst ∈ groupsT c t ∧ g ∈ groupsT c t) ∧ x.dst ≠ g ∧ ((x.kind = 2 ∧ G.own g x.id = some x.stamp ∧ x.yes = false) ∨ (x.kind = 3 ∧ G.vote g x.id = some x.yes ∧ x.stamp = 0)))
def Told (G : Gh) (g : Int) (os : List OutD) : Prop := ∀ x ∈ os, Told1 c all G g x
/-- What is told to one group. -/
def toL (h : Int) (os : List OutD) : List OutD := os.filter fun x => decide (x.dst = h) && !decide (x.kind = 4)
/-- The transactions on which a group has not voted. -/
def nvG (G : Gh) (g : Int) : Nat := (all.filter fun t => (G.vote g (idT t)).isNone).length
/-- Own stamps are bounded. -/
def OB (G : Gh) (u : Nat) : Prop := ∀ h i s, G.own h i = some s → 1 ≤ s ∧ s ≤ u
/-- A step of one machine: own stamps and votes that come are told to all other groups. -/
structure StepG (G G' : Gh) (g : Int) (m' : MachD) (os : List OutD) (k u : Nat) : Prop where
  cnt : ∀ h, (toL h os).length + nvG all G' g ≤ nvG all G g + k
  ob : OB G' u
  ck : m'.q.clock ≤ u
  le : G.Le G'
  row : Gh.Row g G G'
  loc : Loc c all G' g m'
  told : Told c all G' g os
  tello : ∀ i s, G'.own g i = some s → G.own g i = some s ∨ ∀ t ∈ all, idT t = i → ∀ h ∈ groupsT c t, h ≠ g → ∃ x ∈ os, x.kind = 2 ∧ x.dst = h ∧ x.id = i
  tellv : ∀ i y, G'.vote g i = some y → G.vote g i = some y ∨ ∀ t ∈ all, idT t = i → ∀ h ∈ groupsT c t, h ≠ g → ∃ x ∈ os, x.kind = 3 ∧ x.dst = h ∧ x.id = i
  dom : ∀ i s, G'.own g i = some s → G.own g i = some s ∨ ∃ t ∈ all, idT t = i ∧ g ∈ groupsT c t
end
section
variable {c : Cfg} {all : List Tx} {G G' G2 : Gh} {g : Int} {m m' : MachD} {os os' : List OutD}
theorem OneLoc.le {o : OneD} (h : OneLoc c all G g o) (hl : G.Le G') : OneLoc c all G' g o := ⟨h.1, hl.own _ _ _ h.2.1, fun x hx => hl.own _ _ _ (h.2.2 x hx)⟩
theorem QLoc.le {q : QD} (h : QLoc c all G g q) (hl : G.Le G') : QLoc c all G' g q := fun o ho => (h o ho).le hl
theorem VLoc.le {i : IdD} {vs : List (Int × Bool)} (h : VLoc G i vs) (hl : G.Le G') : VLoc G' i vs := fun x hx => hl.vote _ _ _ (h x hx)
theorem FinT.le {t : Tx} {s : Nat} (h : FinT c G t s) (hl : G.Le G') : FinT c G' t s := ⟨fun x hx => by
    obtain ⟨s', e, hs⟩ := h.1 x hx
    exact ⟨s', hl.own _ _ _ e, hs⟩, by
    obtain ⟨x, hx, e⟩ := h.2
    exact ⟨x, hx, hl.own _ _ _ e⟩⟩
theorem YesT.le {t : Tx} {y : Bool} (h : YesT c G t y) (hl : G.Le G') : YesT c G' t y := ⟨fun e x hx => hl.vote _ _ _ (h.1 e x hx), fun e => by
    obtain ⟨x, hx, q⟩ := h.2 e
    exact ⟨x, hx, hl.vote _ _ _ q⟩⟩
theorem Told.le (h : Told c all G g os) (hl : G.Le G') : Told c all G' g os := fun x hx => by
  rcases h x hx with e | ⟨e1, e2, e3⟩
  · exact .inl e
  · refine .inr ⟨e1, e2, ?_⟩
    rcases e3 with ⟨a, b, d⟩ | ⟨a, b, d⟩
    · exact .inl ⟨a, hl.own _ _ _ b, d⟩
    · exact .inr ⟨a, hl.vote _ _ _ b, d⟩
theorem Told.append (h : Told c all G g os) (h' : Told c all G g os') : Told c all G g (os ++ os') := fun x hx => (List.mem_append.1 hx).elim (h x) (h' x)
theorem Told.nil : Told c all G g [] := fun _ h => by cases h
/-- Another group's row grows. -/
theorem Loc.other (h : Loc c all G g m) (hl : G.Le G') (h1 : G'.own g = G.own g) (h2 : G'.vote g = G.vote g) : Loc c all G' g m :=
  { q := h.q.le hl, w := fun i v e => ⟨(h.w i v e).1, (h.w i v e).2.le hl⟩, d := fun i y s e => by
      obtain ⟨t, ht, e1, e2, e3, e4, e5⟩ := h.d i y s e
      exact ⟨t, ht, e1, e2, e3.le hl, e4.le hl, by rw [h2]; exact e5⟩, st := fun i x s e => hl.own _ _ _ (h.st i x s e), vo := fun i x y e => hl.vote _ _ _ (h.vo i x y e)
    ow := fun i s e => h.ow i s (by rw [← h1]; exact e), vt := fun i y e => h.vt i y (by rw [← h2]; exact e) }
theorem toL_append {h : Int} : toL h (os ++ os') = toL h os ++ toL h os' := List.filter_append ..
theorem nvG_le (hl : G.Le G') : nvG all G' g ≤ nvG all G g := by
  unfold nvG
  induction all with
  | nil => exact Nat.le_refl _
  | cons t l ih =>
    rw [List.filter_cons, List.filter_cons]
    cases e : G.vote g (idT t) with
    | some y => rw [hl.vote _ _ _ e]; simpa using ih
    | none =>
      cases e' : G'.vote g (idT t) with
      | none => simpa using ih
      | some y => simp only [Option.isNone_some, Option.isNone_none, if_pos, Bool.false_eq_true, if_false, List.length_cons]; omega
theorem nvG_lt {i : IdD} (hl : G.Le G') (h0 : G.vote g i = none) (h1 : (G'.vote g i).isSome = true) (ht : ∃ t ∈ all, idT t = i) : nvG all G' g + 1 ≤ nvG all G g := by
  obtain ⟨t, ht, rfl⟩ := ht
  unfold nvG
  induction all with
  | nil => cases ht
  | cons t' l ih =>
    have hle := nvG_le (all := l) (g := g) hl
    unfold nvG at hle
    rw [List.filter_cons, List.filter_cons]
    by_cases e2 : idT t' = idT t
    · rw [e2, h0, Option.isNone_none, if_pos rfl, if_neg (by cases e : G'.vote g (idT t) with
        | none => rw [e] at h1; cases h1
        | some y => simp), List.length_cons]
      omega
    · have ih2 := ih (by
        rcases List.mem_cons.1 ht with rfl | ht
        · exact absurd rfl e2
        · exact ht)
      cases e : G.vote g (idT t') with
      | some y => rw [hl.vote _ _ _ e]; simpa using ih2
      | none =>
        cases e' : G'.vote g (idT t') with
        | none => simp only [Option.isNone_none, if_pos, List.length_cons]; omega
        | some y => simp only [Option.isNone_some, Option.isNone_none, if_pos, Bool.false_eq_true, if_false, List.length_cons]; omega
theorem StepG.refl (h : Loc c all G g m) {u : Nat} (hu : OB G u) (hc : m.q.clock ≤ u) : StepG c all G G g m [] 0 u := ⟨fun _ => by show 0 + _ ≤ _; omega, hu, hc, Gh.Le.refl _, Gh.Row.refl _ _, h, Told.nil, fun _ _ e => .inl e, fun _ _ e => .inl e, fun _ _ e => .inl e⟩
theorem StepG.told' (h : Loc c all G g m) {u k : Nat} (hu : OB G u) (hc : m.q.clock ≤ u) (ht : Told c all G g os) (hk : ∀ h, (toL h os).length ≤ k) : StepG c all G G g m os k u := ⟨fun h => by have := hk h; omega, hu, hc, Gh.Le.refl _, Gh.Row.refl _ _, h, ht, fun _ _ e => .inl e, fun _ _ e => .inl e, fun _ _ e => .inl e⟩
theorem StepG.trans {m2 : MachD} {k k' u : Nat} (h : StepG c all G G' g m' os k u) (h' : StepG c all G' G2 g m2 os' k' u) : StepG c all G G2 g m2 (os ++ os') (k + k') u :=
  { cnt := fun x => by
      have h1 := h.cnt x
      have h2 := h'.cnt x
      rw [toL_append, List.length_append]
      omega
    ob := h'.ob
    ck := h'.ck
    le := h.le.trans h'.le, row := h.row.trans h'.row, loc := h'.loc, told := (h.told.le h'.le).append h'.told
    tello := fun i s e => by
      rcases h'.tello i s e with e | e
      · rcases h.tello i s e with e | e
        · exact .inl e
        · refine .inr fun t ht hi x hx hne => ?_
          obtain ⟨y, hy, r⟩ := e t ht hi x hx hne
          exact ⟨y, List.mem_append_left _ hy, r⟩
      · refine .inr fun t ht hi x hx hne => ?_
        obtain ⟨y, hy, r⟩ := e t ht hi x hx hne
        exact ⟨y, List.mem_append_right _ hy, r⟩
    tellv := fun i s e => by
      rcases h'.tellv i s e with e | e
      · rcases h.tellv i s e with e | e
        · exact .inl e
        · refine .inr fun t ht hi x hx hne => ?_
          obtain ⟨y, hy, r⟩ := e t ht hi x hx hne
          exact ⟨y, List.mem_append_left _ hy, r⟩
      · refine .inr fun t ht hi x hx hne => ?_
        obtain ⟨y, hy, r⟩ := e t ht hi x hx hne
        exact ⟨y, List.mem_append_right _ hy, r⟩
    dom := fun i s e => by
      rcases h'.dom i s e with e | e
      · exact h.dom i s e
      · exact .inr e }
/-! ### The queue -/
theorem qloc_done {q : QD} (h : QLoc c all G g q) : QLoc c all G g (doneQ q) := fun o ho => h o (List.mem_of_mem_drop ho)
theorem qloc_learn {q : QD} (h : QLoc c all G g q) {i : IdD} {x : Int} {s : Nat} (hs : G.own x i = some s) : QLoc c all G g (learnQ q i x s) := by
  rw [learnQ]
  split
  · rename_i hk
    have e1 : hasQ q i = true := by
      cases e : hasQ q i
      · rw [learnK, if_pos e] at hk; cases hk
      · rfl
    obtain ⟨_, hid, hm⟩ := hasQ_id e1
    intro o ho
    rcases List.mem_or_eq_of_mem_set ((sortQ_perm _).mem_iff.1 ho) with ho | ho
    · exact h o ho
    · subst ho
      obtain ⟨h1, h2, h3⟩ := h _ hm
      refine ⟨h1, h2, fun y hy => ?_⟩
      have hy' : y ∈ (oneQ q i).known ++ [(x, s)] := hy
      rcases List.mem_append.1 hy' with hy | hy
      · exact h3 y hy
      · rw [List.mem_singleton.1 hy]
        show G.own x (oneQ q i).id = some s
        rw [hid]; exact hs
  · exact h
theorem qloc_begin {q : QD} (h : QLoc c all G g q) {t : Tx} (ht : t ∈ all) (hn : G.own g (idT t) = none) (hk : beginK q (idT t) (groupsT c t) = 0) : QLoc c all (G.setOwn g (idT t) (q.clock + 1)) g (beginQ q (idT t) (groupsT c t)) := by
  rw [beginQ, if_pos hk]
  intro o ho
  rcases List.mem_append.1 ((sortQ_perm _).mem_iff.1 ho) with ho | ho
  · exact (h o ho).le (setOwn_le hn)
  · rw [List.mem_singleton.1 ho]
    exact ⟨⟨t, ht, rfl, rfl⟩, setOwn_same, fun x hx => by cases hx⟩
theorem topK_mem {k : List (Int × Nat)} : ∀ {s : Nat}, topK k s = s ∨ ∃ x ∈ k, topK k s = x.2 := by
  induction k with
  | nil => intro s; exact .inl rfl
  | cons x k ih =>
    intro s
    have h := ih (s := max s x.2)
    have e : topK (x :: k) s = topK k (max s x.2) := rfl
    rw [e]
    rcases h with h | ⟨y, hy, h⟩
    · rw [h]
      rcases Nat.le_total s x.2 with q | q
      · exact .inr ⟨x, List.mem_cons_self, Nat.max_eq_right q⟩
      · exact .inl (Nat.max_eq_left q)
    · exact .inr ⟨y, List.mem_cons_of_mem _ hy, h⟩
theorem topK_ge {k : List (Int × Nat)} : ∀ {s : Nat} {x : Int × Nat}, x ∈ k → x.2 ≤ topK k s := by
  induction k with
  | nil => intro s x hx; cases hx
  | cons y k ih =>
    intro s x hx
    have e : topK (y :: k) s = topK k (max s y.2) := rfl
    rw [e]
    rcases List.mem_cons.1 hx with rfl | hx
    · exact Nat.le_trans (Nat.le_max_right _ _) topK_le
    · exact ih hx
/-- A final entry knows all its groups. -/
theorem final_knows {q : QD} {o : OneD} (ho : OneOK q o) (hf : o.final = true) : ∀ h ∈ o.gs, h = q.g ∨ hasK o.known h = true := by
  intro h hh
  by_cases e : h = q.g
  · exact .inl e
  · right
    have hlen : o.known.length + 1 = o.gs.length := by
      have := ho.fin
      rw [hf] at this
      exact of_decide_eq_true this.symm
    have hmy : q.g ∈ o.gs := by
      have := ho.gs
      simp only [rightB, Bool.and_eq_true] at this
      simpa using this.2
    cases hk : hasK o.known h
    · exfalso
      have hn : (h :: q.g :: o.known.map (·.1)).Nodup := by
        rw [List.nodup_cons, List.nodup_cons]
        refine ⟨fun hm => ?_, fun hm => ?_, ho.nd⟩
        · rcases List.mem_cons.1 hm with e2 | hm
          · exact e e2
          · rw [hasK_iff.2 hm] at hk; cases hk
        · obtain ⟨x, hx, e2⟩ := List.mem_map.1 hm
          exact (ho.kn x hx).1 e2
      have := nodup_le (m := o.gs) hn (fun x hx => by
        rcases List.mem_cons.1 hx with rfl | hx
        · exact hh
        · rcases List.mem_cons.1 hx with rfl | hx
          · exact hmy
          · obtain ⟨y, hy, rfl⟩ := List.mem_map.1 hx
            simpa using (ho.kn y hy).2.1)
      simp only [List.length_cons, List.length_map] at this
      omega
    · rfl
theorem fin_stamp {q : QD} {o : OneD} (ho : OneOK q o) (hg : q.g = g) (hl : OneLoc c all G g o) (hf : o.final = true) {t : Tx} (hi : idT t = o.id) (hgs : o.gs = groupsT c t) : FinT c G t o.stamp := by
  have hst : o.stamp = topK o.known o.own := by rw [OneD.stamp, if_pos hf]
  have hmy : g ∈ o.gs := by
    have := ho.gs
    simp only [rightB, Bool.and_eq_true] at this
    rw [← hg]; simpa using this.2
  refine ⟨fun h hh => ?_, ?_⟩
  · rw [← hgs] at hh
    rw [hi, hst]
    rcases final_knows ho hf h hh with e | e
    · rw [e, hg]
      exact ⟨o.own, hl.2.1, topK_le⟩
    · obtain ⟨x, hx, e2⟩ := List.mem_map.1 (hasK_iff.1 e)
      subst e2
      exact ⟨x.2, hl.2.2 x hx, topK_ge hx⟩
  · rw [hi, hst]
    rcases topK_mem (k := o.known) (s := o.own) with e | ⟨x, hx, e⟩
    · exact ⟨g, by rw [← hgs]; exact hmy, by rw [e]; exact hl.2.1⟩
    · refine ⟨x.1, ?_, by rw [e]; exact hl.2.2 x hx⟩
      rw [← hgs]
      simpa using (ho.kn x hx).2.1
end
end Go.Proofs.YtcldpmkhpmlcbaaGreatDoor
/- GroupAgree in plain Lean: each step of a machine. -/
namespace Go.Proofs.YtcldpmkhpmlcbaaGreatDoor
section
variable {c : Cfg} {all : List Tx} {G G' : Gh} {g : Int} {n u : Nat} {m : MachD}
/-! ### What is told -/
theorem mem_tell {gs : List Int} {k : Int} {i : IdD} {s : Nat} {y : Bool} {x : OutD} : x ∈ tellL g gs k i s y ↔ ∃ h ∈ gs, h ≠ g ∧ x = ⟨k, h, i, s, y⟩ := by
  unfold tellL
  simp only [List.mem_map, List.mem_filter, Bool.not_eq_true', decide_eq_false_iff_not]
  constructor
  · rintro ⟨h, ⟨h1, h2⟩, rfl⟩; exact ⟨h, h1, h2, rfl⟩
  · rintro ⟨h, h1, h2, rfl⟩; exact ⟨h, ⟨h1, h2⟩, rfl⟩
theorem tell_none {gs : List Int} {k : Int} {i : IdD} {s : Nat} {y : Bool} {h : Int} (hn : h ∉ gs) : toL h (tellL g gs k i s y) = [] := by
  unfold toL
  rw [List.filter_eq_nil_iff]
  intro x hx
  obtain ⟨h', h1, _, rfl⟩ := mem_tell.1 hx
  have : ¬ h' = h := fun e => hn (e ▸ h1)
  simp [this]
theorem tell_to {k : Int} {i : IdD} {s : Nat} {y : Bool} {h : Int} : ∀ {gs : List Int}, gs.Nodup → (toL h (tellL g gs k i s y)).length ≤ 1
  | [], _ => Nat.zero_le _
  | a :: gs, hn => by
    rw [List.nodup_cons] at hn
    have ih := tell_to (k := k) (i := i) (s := s) (y := y) (h := h) hn.2
    by_cases e : a = g
    · have : tellL g (a :: gs) k i s y = tellL g gs k i s y := by unfold tellL; rw [List.filter_cons]; simp [e]
      rw [this]; exact ih
    · have : tellL g (a :: gs) k i s y = ⟨k, a, i, s, y⟩ :: tellL g gs k i s y := by unfold tellL; rw [List.filter_cons]; simp [e]
      rw [this]
      unfold toL
      rw [List.filter_cons]
      by_cases e2 : a = h
      · subst e2
        have e3 : List.filter (fun x : OutD => decide (x.dst = a) && !decide (x.kind = 4)) (tellL g gs k i s y) = [] := tell_none hn.1
        rw [e3]
        split <;> simp
      · have : ¬ ((decide ((⟨k, a, i, s, y⟩ : OutD).dst = h) && !decide ((⟨k, a, i, s, y⟩ : OutD).kind = 4)) = true) := by simp [e2]
        rw [if_neg this]
        exact ih
theorem told_stamp {t : Tx} (ht : t ∈ all) {i : IdD} (hi : idT t = i) {gs : List Int} (hgs : gs = groupsT c t) (hg : g ∈ groupsT c t) {s : Nat} (ho : G.own g i = some s) : Told c all G g (tellL g gs 2 i s false) := fun x hx => by
  obtain ⟨h, h1, h2, rfl⟩ := mem_tell.1 hx
  exact .inr ⟨⟨t, ht, hi, by rw [← hgs]; exact h1, hg⟩, h2, .inl ⟨rfl, ho, rfl⟩⟩
theorem told_vote {t : Tx} (ht : t ∈ all) {i : IdD} (hi : idT t = i) {gs : List Int} (hgs : gs = groupsT c t) (hg : g ∈ groupsT c t) {y : Bool} (ho : G.vote g i = some y) : Told c all G g (tellL g gs 3 i 0 y) := fun x hx => by
  obtain ⟨h, h1, h2, rfl⟩ := mem_tell.1 hx
  exact .inr ⟨⟨t, ht, hi, by rw [← hgs]; exact h1, hg⟩, h2, .inr ⟨rfl, ho, rfl⟩⟩
theorem hasV_get {gs : List Int} {vs : List (Int × Bool)} (h : Tally gs vs) (hv : hasV vs g = true) : (g, votedV vs g) ∈ vs := by
  obtain ⟨x, hx, e⟩ := List.mem_map.1 (hasV_iff.1 hv)
  have := votedV_of_mem h.keys hx
  subst e
  rw [this]; exact hx
theorem again_told {q : QD} {i : IdD} {v : WaitD} (hq : QLoc c all G g q) (hh : hasQ q i = true) (hv : v.t ∈ all) (hi : idT v.t = i) (hgs : v.gs = groupsT c v.t) (hg : g ∈ groupsT c v.t) (hvs : VLoc G i v.vs) (ht : Tally v.gs v.vs) : Told c all G g (againL g q i v) ∧ ∀ h, (toL h (againL g q i v)).length ≤ 2 := by
  obtain ⟨_, hid, hm⟩ := hasQ_id hh
  have h1 := (hq _ hm).2.1
  rw [hid] at h1
  have hn : v.gs.Nodup := ht.nodup
  unfold againL
  constructor
  · refine (told_stamp hv hi hgs hg h1).append ?_
    split
    · rename_i e
      exact told_vote hv hi hgs hg (hvs _ (hasV_get ht e))
    · exact Told.nil
  · intro h
    rw [toL_append, List.length_append]
    have e1 := tell_to (g := g) (k := 2) (i := i) (s := (oneQ q i).own) (y := false) (h := h) hn
    split
    · have e2 := tell_to (g := g) (k := 3) (i := i) (s := 0) (y := votedV v.vs g) (h := h) hn
      omega
    · show _ + 0 ≤ _; omega
/-! ### A new one -/
theorem getM_del_some {κ V : Type} [DecidableEq κ] {kv : List (κ × V)} {k k' : κ} {v : V} (h : getM (delM kv k) k' = some v) : getM kv k' = some v := by
  rw [getM_del] at h
  split at h
  · cases h
  · exact h
theorem learn_clock {q : QD} (hq : QLoc c all G g q) (hu : OB G u) (hc : q.clock ≤ u) {i : IdD} {x : Int} {s : Nat} (hs : s ≤ u) : (learnQ q i x s).clock ≤ u := by
  rw [learnQ]
  split
  · rename_i hk
    have e1 : hasQ q i = true := by
      cases e : hasQ q i
      · rw [learnK, if_pos e] at hk; cases hk
      · rfl
    obtain ⟨_, hid, hm⟩ := hasQ_id e1
    obtain ⟨_, h2, h3⟩ := hq _ hm
    show (if (learnOne (oneQ q i) x s).final = true then max q.clock (learnOne (oneQ q i) x s).stamp else q.clock) ≤ u
    by_cases hf : (learnOne (oneQ q i) x s).final = true
    · rw [if_pos hf]
      refine Nat.max_le.2 ⟨hc, ?_⟩
      rw [OneD.stamp, if_pos hf]
      refine topK_bound (hu _ _ _ h2).2 fun y hy => ?_
      have hy' : y ∈ (oneQ q i).known ++ [(x, s)] := hy
      rcases List.mem_append.1 hy' with hy | hy
      · exact (hu _ _ _ (h3 y hy)).2
      · rw [List.mem_singleton.1 hy]; exact hs
    · rw [if_neg hf]; exact hc
  · exact hc
theorem learns_loc {i : IdD} (hu : OB G u) : ∀ (gs : List Int) {q : QD} {st : List (FromD × Nat)}, QLoc c all G g q → q.clock ≤ u → (∀ j h s, getM st (j, h) = some s → G.own h j = some s) →
    QLoc c all G g (gs.foldl (learnStep i) (q, st)).1 ∧ (gs.foldl (learnStep i) (q, st)).1.clock ≤ u ∧ ∀ j h s, getM (gs.foldl (learnStep i) (q, st)).2 (j, h) = some s → getM st (j, h) = some s
  | [], _, _, hq, hc, _ => ⟨hq, hc, fun _ _ _ e => e⟩
  | h :: gs, q, st, hq, hc, hs => by
    rw [List.foldl_cons]
    have hs2 : ∀ j h' s, getM (delM st (i, h)) (j, h') = some s → G.own h' j = some s := fun j h' s e => hs j h' s (getM_del_some e)
    cases e : getM st (i, h) with
    | none =>
      have e2 : learnStep i (q, st) h = (q, delM st (i, h)) := by rw [learnStep, e]
      rw [e2]
      obtain ⟨r1, r2, r3⟩ := learns_loc hu gs hq hc hs2
      exact ⟨r1, r2, fun j h' s e => getM_del_some (r3 j h' s e)⟩
    | some s =>
      have e2 : learnStep i (q, st) h = (learnQ q i h s, delM st (i, h)) := by rw [learnStep, e]
      rw [e2]
      have ho := hs i h s e
      obtain ⟨r1, r2, r3⟩ := learns_loc hu gs (qloc_learn hq ho) (learn_clock (i := i) (x := h) hq hu hc (hu _ _ _ ho).2) hs2
      exact ⟨r1, r2, fun j h' s e => getM_del_some (r3 j h' s e)⟩
theorem vloc_put {gs : List Int} {i : IdD} {vs : List (Int × Bool)} {h : Int} {y : Bool} (hv : VLoc G i vs) (hy : G.vote h i = some y) : VLoc G i (putV gs vs h y) := by
  unfold putV
  split
  · intro x hx
    rcases List.mem_append.1 hx with hx | hx
    · exact hv x hx
    · rw [List.mem_singleton.1 hx]; exact hy
  · exact hv
theorem votes_loc {i : IdD} {gs0 : List Int} : ∀ (gs : List Int) {vs : List (Int × Bool)} {vo : List (FromD × Bool)}, VLoc G i vs → (∀ j h y, getM vo (j, h) = some y → G.vote h j = some y) →
    VLoc G i (gs.foldl (voteStep gs0 i) (vs, vo)).1 ∧ ∀ j h y, getM (gs.foldl (voteStep gs0 i) (vs, vo)).2 (j, h) = some y → getM vo (j, h) = some y
  | [], _, _, hv, _ => ⟨hv, fun _ _ _ e => e⟩
  | h :: gs, vs, vo, hv, hs => by
    rw [List.foldl_cons]
    have hs2 : ∀ j h' s, getM (delM vo (i, h)) (j, h') = some s → G.vote h' j = some s := fun j h' s e => hs j h' s (getM_del_some e)
    cases e : getM vo (i, h) with
    | none =>
      have e2 : voteStep gs0 i (vs, vo) h = (vs, delM vo (i, h)) := by rw [voteStep, e]
      rw [e2]
      obtain ⟨r1, r3⟩ := votes_loc gs hv hs2
      exact ⟨r1, fun j h' s e => getM_del_some (r3 j h' s e)⟩
    | some y =>
      have e2 : voteStep gs0 i (vs, vo) h = (putV gs0 vs h y, delM vo (i, h)) := by rw [voteStep, e]
      rw [e2]
      obtain ⟨r1, r3⟩ := votes_loc (gs0 := gs0) gs (vloc_put (gs := gs0) hv (hs i h y e)) hs2
      exact ⟨r1, fun j h' s e => getM_del_some (r3 j h' s e)⟩
def Begun (m : MachD) (i : IdD) : Prop := (getM m.wt i).isSome = true ∨ (getM m.dc i).isSome = true
theorem new_waits (m : MachD) (t : Tx) (gs : List Int) : ∃ v, getM (newM m t gs).wt (idT t) = some v := by
  refine ⟨⟨t, gs, (gs.foldl (voteStep gs (idT t)) ([], m.vo)).1⟩, ?_⟩
  show getM (putM m.wt (idT t) _) (idT t) = _
  rw [getM_put, if_pos rfl]
theorem begin_begun (hm : MOK c g n m) {t : Tx} (hf : formedT t = true) (hc : m.q.clock < mostQ) (hg : g ∈ groupsT c t) : Begun (beginM c g m t) (idT t) := by
  have hgc : (groupsT c t).contains g = true := by simpa using hg
  unfold beginM
  split
  · exact .inl (by obtain ⟨v, e⟩ := new_waits m t (groupsT c t); rw [e]; rfl)
  · rename_i hW
    cases hd : (getM m.dc (idT t)).isSome with
    | true => exact .inr hd
    | false =>
      cases hw : (getM m.wt (idT t)).isSome with
      | true => exact .inl hw
      | false =>
        exfalso
        apply hW
        have hK : beginK m.q (idT t) (groupsT c t) = 0 := by
          have h1 : idOK (idT t) = true := (formed_parts hf).1
          have h2 : rightB m.q.g (groupsT c t) = true := by rw [hm.qg]; exact right_groups hm.cf hgc
          have h3 : hasQ m.q (idT t) = false := by rw [hm.has]; exact hw
          have h4 : ¬ mostQ ≤ m.q.clock := by omega
          rw [beginK, h1, h2, h3]
          simp [h4]
        rw [beginW, hgc, hd, hw, hK]
        rfl
def InjId (all : List Tx) : Prop := ∀ t ∈ all, ∀ t' ∈ all, idT t = idT t' → t = t'
theorem begin_step (hL : Loc c all G g m) (hm : MOK c g n m) (hj : InjId all) {t : Tx} (ht : t ∈ all) (hu : OB G u) (hc : m.q.clock + 1 ≤ u) : ∃ G', StepG c all G G' g (beginM c g m t) (beginO c g m t) 2 u := by
  have hc' : m.q.clock ≤ u := by omega
  by_cases hW : beginW c g m t = 4
  · obtain ⟨h1, h2, h3, h4⟩ := beginW_four hW
    have hg : g ∈ groupsT c t := by simpa using h1
    have hno : G.own g (idT t) = none := by
      cases e : G.own g (idT t) with
      | none => rfl
      | some s =>
        have := hL.ow _ _ e
        rw [h2, h3] at this
        rcases this with q | q <;> cases q
    have hle := setOwn_le (s := m.q.clock + 1) hno
    have hq := qloc_begin hL.q ht hno h4
    have hu' : OB (G.setOwn g (idT t) (m.q.clock + 1)) u := fun h i s e => by
      have e' : (if h = g ∧ i = idT t then some (m.q.clock + 1) else G.own h i) = some s := e
      split at e'
      · cases e'; omega
      · exact hu h i s e'
    have hcl : (beginQ m.q (idT t) (groupsT c t)).clock ≤ u := by rw [beginQ, if_pos h4]; exact hc
    obtain ⟨r1, r2, r3⟩ := learns_loc (i := idT t) hu' (groupsT c t) hq hcl (fun j h s e => hle.own _ _ _ (hL.st j h s e))
    obtain ⟨s1, s2⟩ := votes_loc (gs0 := groupsT c t) (i := idT t) (G := G) (vs := []) (groupsT c t) (fun x hx => by cases hx) hL.vo
    have hbM : beginM c g m t = newM m t (groupsT c t) := by rw [beginM, if_pos hW]
    have hbO : beginO c g m t = againL g (beginQ m.q (idT t) (groupsT c t)) (idT t) ⟨t, groupsT c t, []⟩ := by simp only [beginO, hW]
    have hwt : ∀ j, getM (newM m t (groupsT c t)).wt j = if j = idT t then some ⟨t, groupsT c t, ((groupsT c t).foldl (voteStep (groupsT c t) (idT t)) ([], m.vo)).1⟩ else getM m.wt j := fun j => getM_put _ _ _ _
    have hhas : hasQ (beginQ m.q (idT t) (groupsT c t)) (idT t) = true := by
      rw [hasQ_iff, (ids_begin h4).1.mem_iff]
      simp
    obtain ⟨t1, t2⟩ := again_told (g := g) (v := ⟨t, groupsT c t, []⟩) hq hhas ht rfl rfl hg (fun x hx => by cases hx) ⟨groups_nodup hm.cf, List.Pairwise.nil, fun v hv => by cases hv⟩
    refine ⟨G.setOwn g (idT t) (m.q.clock + 1), { cnt := fun h => ?_, ob := hu', ck := ?_, le := hle, row := setOwn_row, loc := ?_, told := ?_, tello := ?_, tellv := fun i y e => .inl e, dom := ?_ }⟩
    · rw [hbO]; have := t2 h
      have e : nvG all (G.setOwn g (idT t) (m.q.clock + 1)) g = nvG all G g := rfl
      omega
    · rw [hbM]; exact r2
    · rw [hbM]
      refine { q := r1, w := fun j v e => ?_, d := fun i y s e => ?_, st := fun j h s e => hle.own _ _ _ (hL.st j h s (r3 j h s e)), vo := fun j h y e => hL.vo j h y (s2 j h y e), ow := fun j s e => ?_, vt := fun j y e => ?_ }
      · rw [hwt] at e
        by_cases ej : j = idT t
        · rw [if_pos ej] at e; cases e; rw [ej]; exact ⟨ht, s1⟩
        · rw [if_neg ej] at e; exact ⟨(hL.w j v e).1, (hL.w j v e).2⟩
      · obtain ⟨t', a1, a2, a3, a4, a5, a6⟩ := hL.d i y s e
        exact ⟨t', a1, a2, a3, a4.le hle, a5.le hle, a6⟩
      · rw [hwt]
        by_cases ej : j = idT t
        · rw [if_pos ej]; exact .inl rfl
        · rw [if_neg ej]
          have e' : (if g = g ∧ j = idT t then some (m.q.clock + 1) else G.own g j) = some s := e
          rw [if_neg (fun z => ej z.2)] at e'
          exact hL.ow j s e'
      · rw [hwt]
        rcases hL.vt j y e with e | ⟨v, e1, e2⟩
        · exact .inl e
        · have ej : j ≠ idT t := fun z => by rw [z, h3] at e1; cases e1
          rw [if_neg ej]
          exact .inr ⟨v, e1, e2⟩
    · rw [hbO]; exact t1
    · intro i s e
      have e' : (if g = g ∧ i = idT t then some (m.q.clock + 1) else G.own g i) = some s := e
      by_cases ei : i = idT t
      · right
        intro t' ht' hi' h hh hne
        rw [hj t' ht' t ht (by rw [hi', ei])] at hh
        refine ⟨⟨2, h, idT t, (oneQ (beginQ m.q (idT t) (groupsT c t)) (idT t)).own, false⟩, ?_, rfl, rfl, ei.symm⟩
        rw [hbO, againL]
        exact List.mem_append_left _ (mem_tell.2 ⟨h, hh, hne, rfl⟩)
      · rw [if_neg (fun z => ei z.2)] at e'
        exact .inl e'
    · intro i s e
      have e' : (if g = g ∧ i = idT t then some (m.q.clock + 1) else G.own g i) = some s := e
      by_cases ei : i = idT t
      · exact .inr ⟨t, ht, ei.symm, hg⟩
      · rw [if_neg (fun z => ei z.2)] at e'
        exact .inl e'
  · have hbM : beginM c g m t = m := by rw [beginM, if_neg hW]
    rw [hbM]
    have hO : Told c all G g (beginO c g m t) ∧ ∀ h, (toL h (beginO c g m t)).length ≤ 2 := by
      unfold beginO
      split
      · refine ⟨fun x hx => ?_, fun h => ?_⟩
        · rw [List.mem_singleton.1 hx]; exact .inl rfl
        · refine Nat.le_trans (List.length_filter_le _ _) ?_
          simp
      · rename_i hW2
        unfold beginW at hW2
        split at hW2; · cases hW2
        split at hW2; · cases hW2
        split at hW2
        · rename_i e1 e2 e3
          obtain ⟨v, hv⟩ := Option.isSome_iff_exists.1 e3
          have hw : waitOf m (idT t) = v := by rw [waitOf, hv]; rfl
          have hok := hm.w _ v hv
          obtain ⟨a1, a2⟩ := hL.w _ v hv
          rw [hw]
          exact again_told hL.q (by rw [hm.has]; exact e3) a1 hok.id hok.gs (by have := hok.me; rw [hok.gs] at this; simpa using this) a2 hok.tal
        · split at hW2 <;> cases hW2
      · rename_i hW4; exact absurd hW4 hW
      · exact ⟨Told.nil, fun h => Nat.zero_le _⟩
    exact ⟨G, StepG.told' hL hu hc' hO.1 hO.2⟩
/-! ### A Stamp or a Vote -/
theorem heard_step (hL : Loc c all G g m) (hm : MOK c g n m) (hu : OB G u) (hc : m.q.clock ≤ u) {k : Int} {i : IdD} {h : Int} {s : Nat} {y : Bool} (h2 : k = 2 → G.own h i = some s) (h3 : k ≠ 2 → G.vote h i = some y) : StepG c all G G g (heardM g m k i h s y) [] 0 u := by
  have key : Loc c all G g (heardM g m k i h s y) ∧ (heardM g m k i h s y).q.clock ≤ u := by
    unfold heardM
    split
    · exact ⟨hL, hc⟩
    · split
      · rename_i hw
        split
        · rename_i ek
          exact ⟨{ hL with q := qloc_learn hL.q (h2 ek) }, learn_clock hL.q hu hc (hu _ _ _ (h2 ek)).2⟩
        · rename_i ek
          obtain ⟨v, hv⟩ := Option.isSome_iff_exists.1 hw
          have e : waitOf m i = v := by rw [waitOf, hv]; rfl
          rw [e]
          have hwt : ∀ j, getM (putM m.wt i { v with vs := putV v.gs v.vs h y }) j = if j = i then some { v with vs := putV v.gs v.vs h y } else getM m.wt j := fun j => getM_put _ _ _ _
          refine ⟨{ hL with w := fun j x ex => ?_, ow := fun j s' es => ?_, vt := fun j y' ey => ?_ }, hc⟩
          · have ex' : getM (putM m.wt i { v with vs := putV v.gs v.vs h y }) j = some x := ex
            rw [hwt] at ex'
            by_cases ej : j = i
            · rw [if_pos ej] at ex'; cases ex'; rw [ej]
              exact ⟨(hL.w i v hv).1, vloc_put (hL.w i v hv).2 (h3 ek)⟩
            · rw [if_neg ej] at ex'; exact hL.w j x ex'
          · show (getM (putM m.wt i _) j).isSome = true ∨ _
            rw [hwt]
            by_cases ej : j = i
            · rw [if_pos ej]; exact .inl rfl
            · rw [if_neg ej]; exact hL.ow j s' es
          · show _ ∨ ∃ x, getM (putM m.wt i _) j = some x ∧ _
            rcases hL.vt j y' ey with q | ⟨x, q1, q2⟩
            · exact .inl q
            · right
              rw [hwt]
              by_cases ej : j = i
              · rw [if_pos ej]
                rw [ej, hv] at q1; cases q1
                refine ⟨_, rfl, ?_⟩
                show hasV (putV v.gs v.vs h y) g = true
                unfold putV
                split
                · rw [hasV_snoc, q2]; rfl
                · exact q2
              · rw [if_neg ej]; exact ⟨x, q1, q2⟩
      · split
        · rename_i ek
          split
          · exact ⟨hL, hc⟩
          · refine ⟨{ hL with st := fun j h' s' e => ?_ }, hc⟩
            have e' : getM (putM m.st (i, h) s) (j, h') = some s' := e
            rw [getM_put] at e'
            split at e'
            · rename_i ej; cases e'; cases ej; exact h2 ek
            · exact hL.st j h' s' e'
        · rename_i ek
          split
          · exact ⟨hL, hc⟩
          · refine ⟨{ hL with vo := fun j h' s' e => ?_ }, hc⟩
            have e' : getM (putM m.vo (i, h) y) (j, h') = some s' := e
            rw [getM_put] at e'
            split at e'
            · rename_i ej; cases e'; cases ej; exact h3 ek
            · exact hL.vo j h' s' e'
  exact { cnt := fun _ => by show 0 + _ ≤ _; omega, ob := hu, ck := key.2, le := Gh.Le.refl _, row := Gh.Row.refl _ _, loc := key.1, told := Told.nil, tello := fun _ _ e => .inl e, tellv := fun _ _ e => .inl e, dom := fun _ _ e => .inl e }
end
end Go.Proofs.YtcldpmkhpmlcbaaGreatDoor
/- GroupAgree in plain Lean: a turn of advance, and a whole command. -/
namespace Go.Proofs.YtcldpmkhpmlcbaaGreatDoor
section
variable {c : Cfg} {all : List Tx} {G G' : Gh} {g : Int} {n u : Nat} {m m' : MachD}
theorem Loc.same (h : Loc c all G g m) (hq : m'.q = m.q) (hw : ∀ i, getM m'.wt i = getM m.wt i) (hd : m'.dc = m.dc) (hs : m'.st = m.st) (hv : m'.vo = m.vo) : Loc c all G g m' :=
  { q := by rw [hq]; exact h.q, w := fun i v e => h.w i v (by rw [← hw]; exact e), d := fun i y s e => h.d i y s (by rw [← hd]; exact e), st := fun i x s e => h.st i x s (by rw [← hs]; exact e), vo := fun i x y e => h.vo i x y (by rw [← hv]; exact e), ow := fun i s e => by rw [hw, hd]; exact h.ow i s e, vt := fun i y e => by rw [hw, hd]; exact h.vt i y e }
theorem put_none {gs : List Int} {vs : List (Int × Bool)} {h : Int} {y : Bool} (hg : gs.contains h = true) : hasV (putV gs vs h y) h = true := by
  unfold putV
  split
  · rw [hasV_snoc]; simp
  · rename_i e
    simp only [mayPut, hg, Bool.true_and, Bool.not_eq_true', Bool.not_eq_false] at e
    exact e
/-- This group votes. -/
theorem vote_step (hL : Loc c all G g m) (hm : MOK c g n m) (hj : InjId all) (hu : OB G u) (hc : m.q.clock ≤ u) {i : IdD} {v : WaitD} (hv : getM m.wt i = some v) : ∃ G', StepG c all G G' g (votedM c g m i v) (voteO c g m i v) 0 u ∧ hasV (ownVotes c g m v) g = true := by
  have hok := hm.w i v hv
  obtain ⟨a1, a2⟩ := hL.w i v hv
  have hwt : ∀ j, getM (votedM c g m i v).wt j = if j = i then some { v with vs := ownVotes c g m v } else getM m.wt j := fun j => getM_put _ _ _ _
  cases hh : hasV v.vs g with
  | true =>
    have eO : ownVotes c g m v = v.vs := by rw [ownVotes, if_pos hh]
    have eV : voteO c g m i v = [] := by rw [voteO, if_pos hh]
    rw [eO, eV]
    refine ⟨G, ?_, hh⟩
    have hL' : Loc c all G g (votedM c g m i v) := hL.same rfl (fun j => by
      rw [hwt, eO]
      by_cases e : j = i
      · rw [if_pos e, e, hv]
      · rw [if_neg e]) rfl rfl rfl
    exact StepG.refl hL' hu hc
  | false =>
    obtain ⟨y, hy⟩ : ∃ y, voteB m.s (readsL c v.t g) = y := ⟨_, rfl⟩
    have eO : ownVotes c g m v = putV v.gs v.vs g y := by rw [ownVotes, if_neg (by rw [hh]; decide), hy]
    have eV : voteO c g m i v = tellL g v.gs 3 i 0 y := by rw [voteO, if_neg (by rw [hh]; decide), hy]
    rw [eO] at hwt
    rw [eO, eV]
    have hno : G.vote g i = none := by
      cases e : G.vote g i with
      | none => rfl
      | some y' =>
        rcases hL.vt i y' e with q | ⟨v', q1, q2⟩
        · have := hm.dis i q; rw [hv] at this; cases this
        · rw [hv] at q1; cases q1; rw [hh] at q2; cases q2
    have hle := setVote_le (y := y) hno
    have hg : g ∈ groupsT c v.t := by have := hok.me; rw [hok.gs] at this; simpa using this
    refine ⟨G.setVote g i y, { cnt := fun h => ?_, ob := hu, ck := hc, le := hle, row := setVote_row, loc := ?_, told := told_vote a1 hok.id hok.gs hg setVote_same, tello := fun _ _ e => .inl e, tellv := fun j y' e => ?_, dom := fun _ _ e => .inl e }, put_none hok.me⟩
    · have h1 := tell_to (g := g) (k := 3) (i := i) (s := 0) (y := y) (h := h) hok.tal.nodup
      have h2 := nvG_lt (all := all) hle hno (by rw [setVote_same]; rfl) ⟨v.t, a1, hok.id⟩
      omega
    · refine { q := hL.q.le hle, w := fun j x e => ?_, d := fun j y' s e => ?_, st := fun j x s e => hle.own _ _ _ (hL.st j x s e), vo := fun j x y' e => hle.vote _ _ _ (hL.vo j x y' e), ow := fun j s e => ?_, vt := fun j y' e => ?_ }
      · rw [hwt] at e
        by_cases ej : j = i
        · rw [if_pos ej] at e; cases e; rw [ej]
          exact ⟨a1, vloc_put (fun x hx => hle.vote _ _ _ (a2 x hx)) setVote_same⟩
        · rw [if_neg ej] at e; exact ⟨(hL.w j x e).1, (hL.w j x e).2.le hle⟩
      · obtain ⟨t', b1, b2, b3, b4, b5, b6⟩ := hL.d j y' s e
        refine ⟨t', b1, b2, b3, b4.le hle, b5.le hle, ?_⟩
        obtain ⟨z, ez⟩ := Option.isSome_iff_exists.1 b6
        rw [hle.vote _ _ _ ez]; rfl
      · rw [hwt]
        by_cases ej : j = i
        · rw [if_pos ej]; exact .inl rfl
        · rw [if_neg ej]; exact hL.ow j s e
      · rw [hwt]
        by_cases ej : j = i
        · rw [if_pos ej]; exact .inr ⟨_, rfl, put_none hok.me⟩
        · rw [if_neg ej]
          have e' : (if g = g ∧ j = i then some y else G.vote g j) = some y' := e
          rw [if_neg (fun z => ej z.2)] at e'
          exact hL.vt j y' e'
    · have e' : (if g = g ∧ j = i then some y else G.vote g j) = some y' := e
      by_cases ej : j = i
      · right
        intro t' ht' hi' h hh' hne
        rw [hj t' ht' v.t a1 (by rw [hi', ej, hok.id])] at hh'
        exact ⟨⟨3, h, i, 0, y⟩, mem_tell.2 ⟨h, by rw [hok.gs]; exact hh', hne, rfl⟩, rfl, rfl, ej.symm⟩
      · rw [if_neg (fun z => ej z.2)] at e'
        exact .inl e'
theorem yes_of {t : Tx} {i : IdD} {vs : List (Int × Bool)} {gs : List Int} (hgs : gs = groupsT c t) (hi : idT t = i) (hv : VLoc G i vs) (ht : Tally gs vs) (hk : outKnown gs.length vs = true) : YesT c G t (outYes gs.length vs) := by
  subst hi
  unfold outYes outKnown at *
  constructor
  · intro e h hh
    simp only [Bool.and_eq_true, Bool.not_eq_true'] at e
    have h2 := ht.all_voted
    rw [e.2, List.all_eq_true] at h2
    rw [← hgs] at hh
    have h3 := hasV_get ht (h2 h hh)
    have h4 := hv _ h3
    have h5 : votedV vs h = true := by
      have := e.1
      rw [anyNo, List.any_eq_false] at this
      have := this _ h3
      simpa using this
    rw [h4, h5]
  · intro e
    have hn : anyNo vs = true := by
      cases q : anyNo vs
      · rw [q] at e hk
        simp only [Bool.not_false, Bool.true_and, Bool.false_or] at e hk
        rw [e] at hk; cases hk
      · rfl
    rw [anyNo, List.any_eq_true] at hn
    obtain ⟨x, hx, q⟩ := hn
    refine ⟨x.1, by rw [← hgs]; exact ht.sub x hx, ?_⟩
    rw [hv x hx]
    simpa using q
/-- The head goes. -/
theorem done_loc (hL : Loc c all G g m) (hm : MOK c g n m) (hj : InjId all) {i : IdD} {final : Nat} (hn : nextQ m.q = some (i, final)) {v : WaitD} (hv : getM m.wt i = some v) (hh : hasV v.vs g = true) (hk : outKnown v.gs.length v.vs = true) : Loc c all G g (doneM m i (outYes v.gs.length v.vs) final) := by
  obtain ⟨o, l, e1, e2, e3, e4⟩ := next_stamp hn
  have ho : o ∈ m.q.l := by rw [e1]; exact List.mem_cons_self
  have hok := hm.w i v hv
  obtain ⟨a1, a2⟩ := hL.w i v hv
  have hl := hL.q o ho
  obtain ⟨t', b1, b2, b3⟩ := hl.1
  have et : t' = v.t := hj t' b1 v.t a1 (by rw [b2, e3, hok.id])
  subst et
  have hF := fin_stamp (hm.q.one o ho) hm.qg hl e4 b2 b3
  rw [e2] at hF
  have hg : g ∈ groupsT c v.t := by have := hok.me; rw [hok.gs] at this; simpa using this
  have hdc : ∀ j, getM (doneM m i (outYes v.gs.length v.vs) final).dc j = if j = i then some (outYes v.gs.length v.vs, final) else getM m.dc j := fun j => getM_put _ _ _ _
  have hwt : ∀ j, getM (doneM m i (outYes v.gs.length v.vs) final).wt j = if j = i then none else getM m.wt j := fun j => getM_del _ _ _
  have hvg : G.vote g i = some (votedV v.vs g) := a2 _ (hasV_get hok.tal hh)
  refine { q := qloc_done hL.q, w := fun j x e => ?_, d := fun j y s e => ?_, st := hL.st, vo := hL.vo, ow := fun j s e => ?_, vt := fun j y e => ?_ }
  · rw [hwt] at e
    by_cases ej : j = i
    · rw [if_pos ej] at e; cases e
    · rw [if_neg ej] at e; exact hL.w j x e
  · rw [hdc] at e
    by_cases ej : j = i
    · rw [if_pos ej] at e; cases e
      exact ⟨v.t, a1, by rw [ej]; exact hok.id, hg, hF, yes_of hok.gs hok.id a2 hok.tal hk, by rw [ej, hvg]; rfl⟩
    · rw [if_neg ej] at e; exact hL.d j y s e
  · rw [hwt, hdc]
    by_cases ej : j = i
    · rw [if_pos ej, if_pos ej]; exact .inr rfl
    · rw [if_neg ej, if_neg ej]; exact hL.ow j s e
  · rw [hwt, hdc]
    by_cases ej : j = i
    · rw [if_pos ej]; exact .inl rfl
    · rw [if_neg ej, if_neg ej]; exact hL.vt j y e
theorem voted_ok (hm : MOK c g n m) {i : IdD} {v : WaitD} (hv : getM m.wt i = some v) : MOK c g n (votedM c g m i v) := hm.setW (by rw [hv]; rfl) { hm.w i v hv with tal := own_tally hm (hm.w i v hv) }
theorem turn_step (hL : Loc c all G g m) (hm : MOK c g n m) (hj : InjId all) (hu : OB G u) (hc : m.q.clock ≤ u) : ∃ G', StepG c all G G' g (turnM c g m).2.1 (turnM c g m).2.2 0 u := by
  unfold turnM
  split
  · exact ⟨G, StepG.refl hL hu hc⟩
  · rename_i i final hn
    obtain ⟨v, hv, hw, hok⟩ := next_waits hm hn
    simp only
    rw [hw]
    obtain ⟨G', hS, hh⟩ := vote_step hL hm hj hu hc hv
    split
    · rename_i hk
      have hv2 : getM (votedM c g m i v).wt i = some { v with vs := ownVotes c g m v } := by
        show getM (putM m.wt i _) i = _
        rw [getM_put, if_pos rfl]
      have hD := done_loc hS.loc (voted_ok hm hv) hj hn hv2 hh hk
      have hD2 : Loc c all G' g (doneM m i (outYes v.gs.length (ownVotes c g m v)) final) := hD.same rfl (fun j => by
        show getM (delM m.wt i) j = getM (delM (putM m.wt i _) i) j
        rw [getM_del, getM_del, getM_put]
        split <;> rfl) rfl rfl rfl
      have hck : (doneM m i (outYes v.gs.length (ownVotes c g m v)) final).q.clock ≤ u := hc
      have ht4 : Told c all G' g [(⟨4, -1, i, final, outYes v.gs.length (ownVotes c g m v)⟩ : OutD)] := fun x hx => by rw [List.mem_singleton.1 hx]; exact .inl rfl
      have h40 : ∀ h, (toL h [(⟨4, -1, i, final, outYes v.gs.length (ownVotes c g m v)⟩ : OutD)]).length ≤ 0 := fun h => by simp [toL]
      refine ⟨G', ?_⟩
      split
      · obtain ⟨w1, w2, w3, w4, w5⟩ := write_q (doneM m i (outYes v.gs.length (ownVotes c g m v)) final) final (writesL c v.t g)
        exact hS.trans (StepG.told' (hD2.same w1 (fun j => by rw [w5]) w4 w2 w3) hS.ob (by rw [w1]; exact hck) ht4 h40)
      · exact hS.trans (StepG.told' hD2 hS.ob hck ht4 h40)
    · exact ⟨G', hS⟩
theorem adv_step (hj : InjId all) : ∀ (k : Nat) {m : MachD} {G : Gh}, MOK c g n m → Loc c all G g m → OB G u → m.q.clock ≤ u → ∃ G', StepG c all G G' g (advM c g k m).1 (advM c g k m).2 0 u
  | 0, m, G, _, hL, hu, hc => ⟨G, StepG.refl hL hu hc⟩
  | k + 1, m, G, hm, hL, hu, hc => by
    obtain ⟨G1, hS⟩ := turn_step hL hm hj hu hc
    have h3 := (turn_okM hm).1
    unfold advM
    simp only
    split
    · obtain ⟨G2, hS2⟩ := adv_step hj k h3 hS.loc hS.ob hS.ck
      exact ⟨G2, hS.trans hS2⟩
    · exact ⟨G1, hS⟩
/-! ### Whole commands -/
theorem apply_begin (hL : Loc c all G g m) (hm : MOK c g n m) (hj : InjId all) {t : Tx} (ht : t ∈ all) (hf : formedT t = true) (hu : OB G u) (hc : m.q.clock + 1 ≤ u) (A B : Option Addr) (ca cb : Nat) : ∃ G', StepG c all G G' g (applyM c g m (beginC t A B ca cb)) (applyO c g m (beginC t A B ca cb)) 2 u := by
  have hF := beginC_formed (A := A) (B := B) (ca := ca) (cb := cb) hf
  rw [applyM, if_pos hF, applyO, if_pos hF]
  have hA : applyA c g m (beginC t A B ca cb) = beginM c g m t := if_pos (show (1 : Int) = 1 from rfl)
  have hP : applyP c g m (beginC t A B ca cb) = beginO c g m t := if_pos (show (1 : Int) = 1 from rfl)
  rw [hA, hP]
  obtain ⟨G1, hS⟩ := begin_step hL hm hj ht hu hc
  obtain ⟨G2, hS2⟩ := adv_step hj ((beginM c g m t).q.l.length + 1) (begin_okM hm hf) hS.loc hS.ob hS.ck
  exact ⟨G2, hS.trans hS2⟩
theorem apply_heard (hL : Loc c all G g m) (hm : MOK c g n m) (hj : InjId all) {a : CmdV} (hF : formedC a = true) (hk : a.k = 2 ∨ a.k = 3) (hu : OB G u) (hc : m.q.clock ≤ u) (h2 : a.k = 2 → G.own a.g ⟨a.is, a.iq⟩ = some a.st) (h3 : a.k ≠ 2 → G.vote a.g ⟨a.is, a.iq⟩ = some a.y) : ∃ G', StepG c all G G' g (applyM c g m a) (applyO c g m a) 0 u := by
  rw [applyM, if_pos hF, applyO, if_pos hF]
  have h1 : a.k ≠ 1 := by rcases hk with e | e <;> omega
  have hA : applyA c g m a = heardM g m a.k ⟨a.is, a.iq⟩ a.g a.st a.y := by rw [applyA, if_neg h1, if_pos hk]
  have hP : applyP c g m a = [] := by rw [applyP, if_neg h1]
  have hO := cmdOK_of hF
  have hst : a.st < 18446744073709551616 := by have := hO.st hk; omega
  rw [hA, hP]
  have hS := heard_step (n := n) hL hm hu hc h2 h3
  obtain ⟨G2, hS2⟩ := adv_step hj ((heardM g m a.k ⟨a.is, a.iq⟩ a.g a.st a.y).q.l.length + 1) (heard_ok hm a.k ⟨a.is, a.iq⟩ a.g hst a.y) hS.loc hS.ob hS.ck
  exact ⟨G2, hS.trans hS2⟩
end
end Go.Proofs.YtcldpmkhpmlcbaaGreatDoor
/- GroupAgree in plain Lean: what stays, what is taken in, and the head. -/
namespace Go.Proofs.YtcldpmkhpmlcbaaGreatDoor
section
variable {c : Cfg} {all : List Tx} {G G' : Gh} {g : Int} {n u : Nat} {m m' m2 : MachD}
def KnQ (q q' : QD) : Prop := ∀ o ∈ q.l, ∃ o' ∈ q'.l, o'.id = o.id ∧ ∀ h, hasK o.known h = true → hasK o'.known h = true
theorem KnQ.refl (q : QD) : KnQ q q := fun o ho => ⟨o, ho, rfl, fun _ h => h⟩
theorem KnQ.trans {a b d : QD} (h : KnQ a b) (h' : KnQ b d) : KnQ a d := fun o ho => by
  obtain ⟨o1, h1, e1, k1⟩ := h o ho
  obtain ⟨o2, h2, e2, k2⟩ := h' o1 h1
  exact ⟨o2, h2, e2.trans e1, fun x hx => k2 x (k1 x hx)⟩
theorem knq_begin {q : QD} {i : IdD} {gs : List Int} : KnQ q (beginQ q i gs) := by
  rw [beginQ]
  split
  · exact fun o ho => ⟨o, (sortQ_perm _).mem_iff.2 (List.mem_append_left _ ho), rfl, fun _ h => h⟩
  · exact KnQ.refl _
theorem learn_has {q : QD} {i : IdD} {x : Int} {s : Nat} (h : learnK q i x s = 2) : learnOne (oneQ q i) x s ∈ (learnQ q i x s).l := by
  rw [learnQ, if_pos h]
  have e1 : hasQ q i = true := by
    cases e : hasQ q i
    · rw [learnK, if_pos e] at h; cases h
    · rfl
  obtain ⟨hk, _, _⟩ := hasQ_id e1
  exact (sortQ_perm _).mem_iff.2 (List.mem_set hk _)
theorem hasK_snoc (vs : List (Int × Nat)) (g h : Int) (y : Nat) : hasK (vs ++ [(g, y)]) h = (hasK vs h || decide (g = h)) := by simp [hasK]
theorem knq_learn {q : QD} {i : IdD} {x : Int} {s : Nat} : KnQ q (learnQ q i x s) := by
  by_cases h : learnK q i x s = 2
  · have hm := learn_has h
    intro o ho
    have e1 : hasQ q i = true := by
      cases e : hasQ q i
      · rw [learnK, if_pos e] at h; cases h
      · rfl
    obtain ⟨hk, hid, _⟩ := hasQ_id e1
    obtain ⟨j, hj, rfl⟩ := List.mem_iff_getElem.1 ho
    by_cases e : j = findK q.l i
    · subst e
      refine ⟨_, hm, ?_, fun y hy => ?_⟩
      · show (oneQ q i).id = _
        rw [oneQ, List.getD_eq_getElem?_getD, List.getElem?_eq_getElem hj]; rfl
      · show hasK ((oneQ q i).known ++ [(x, s)]) y = true
        rw [hasK_snoc, oneQ, List.getD_eq_getElem?_getD, List.getElem?_eq_getElem hj]
        show (hasK (q.l[findK q.l i]).known y || _) = true
        rw [hy]; rfl
    · refine ⟨q.l[j], ?_, rfl, fun _ h => h⟩
      rw [learnQ, if_pos h]
      refine (sortQ_perm _).mem_iff.2 ?_
      rw [List.mem_iff_getElem]
      exact ⟨j, by rw [List.length_set]; exact hj, by rw [List.getElem_set_ne (fun z => e z.symm)]⟩
  · rw [learnQ, if_neg h]
    exact KnQ.refl _
theorem knq_folds {i : IdD} : ∀ (gs : List Int) {q : QD} {st : List (FromD × Nat)}, KnQ q (gs.foldl (learnStep i) (q, st)).1
  | [], q, _ => KnQ.refl q
  | h :: gs, q, st => by
    rw [List.foldl_cons]
    cases e : getM st (i, h) with
    | none =>
      have e2 : learnStep i (q, st) h = (q, delM st (i, h)) := by rw [learnStep, e]
      rw [e2]; exact knq_folds gs
    | some s =>
      have e2 : learnStep i (q, st) h = (learnQ q i h s, delM st (i, h)) := by rw [learnStep, e]
      rw [e2]; exact knq_learn.trans (knq_folds gs)
structure Keep (m m' : MachD) : Prop where
  dc : DecKeep m m'
  q : ∀ o ∈ m.q.l, (getM m'.dc o.id).isSome = true ∨ ∃ o' ∈ m'.q.l, o'.id = o.id ∧ ∀ h, hasK o.known h = true → hasK o'.known h = true
  w : ∀ i v, getM m.wt i = some v → (getM m'.dc i).isSome = true ∨ ∃ v', getM m'.wt i = some v' ∧ ∀ h, hasV v.vs h = true → hasV v'.vs h = true
theorem DecKeep.isSome (h : DecKeep m m') {i : IdD} (e : (getM m.dc i).isSome = true) : (getM m'.dc i).isSome = true := by
  obtain ⟨d, hd⟩ := Option.isSome_iff_exists.1 e
  rw [h i d hd]; rfl
theorem Keep.refl (m : MachD) : Keep m m := ⟨DecKeep.refl m, fun o ho => .inr ⟨o, ho, rfl, fun _ h => h⟩, fun i v e => .inr ⟨v, e, fun _ h => h⟩⟩
theorem Keep.trans (h : Keep m m') (h' : Keep m' m2) : Keep m m2 :=
  ⟨h.dc.trans h'.dc, fun o ho => by
    rcases h.q o ho with e | ⟨o1, h1, e1, k1⟩
    · exact .inl (h'.dc.isSome e)
    · rcases h'.q o1 h1 with e | ⟨o2, h2, e2, k2⟩
      · exact .inl (e1 ▸ e)
      · exact .inr ⟨o2, h2, e2.trans e1, fun x hx => k2 x (k1 x hx)⟩, fun i v e => by
    rcases h.w i v e with q | ⟨v1, e1, k1⟩
    · exact .inl (h'.dc.isSome q)
    · rcases h'.w i v1 e1 with q | ⟨v2, e2, k2⟩
      · exact .inl q
      · exact .inr ⟨v2, e2, fun x hx => k2 x (k1 x hx)⟩⟩
theorem begin_keep {t : Tx} : Keep m (beginM c g m t) := by
  unfold beginM
  split
  · rename_i hW
    obtain ⟨h1, h2, h3, h4⟩ := beginW_four hW
    refine ⟨fun i d e => e, fun o ho => .inr ((knq_begin.trans (knq_folds (groupsT c t))) o ho), fun i v e => .inr ⟨v, ?_, fun _ h => h⟩⟩
    show getM (putM m.wt (idT t) _) i = some v
    rw [getM_put, if_neg (fun z => by rw [z, h3] at e; cases e)]
    exact e
  · exact Keep.refl _
theorem putV_keeps {gs : List Int} {vs : List (Int × Bool)} {x h : Int} {y : Bool} (e : hasV vs h = true) : hasV (putV gs vs x y) h = true := by
  unfold putV
  split
  · rw [hasV_snoc, e]; rfl
  · exact e
theorem set_keep {i : IdD} {v v' : WaitD} (hv : getM m.wt i = some v) (hk : ∀ h, hasV v.vs h = true → hasV v'.vs h = true) : Keep m { m with wt := putM m.wt i v' } :=
  ⟨fun _ _ e => e, fun o ho => .inr ⟨o, ho, rfl, fun _ h => h⟩, fun j x e => .inr (by
    show ∃ z, getM (putM m.wt i v') j = some z ∧ _
    rw [getM_put]
    by_cases ej : j = i
    · rw [if_pos ej]
      rw [ej, hv] at e; cases e
      exact ⟨v', rfl, hk⟩
    · rw [if_neg ej]; exact ⟨x, e, fun _ h => h⟩)⟩
theorem heard_keep {k : Int} {i : IdD} {h : Int} {s : Nat} {y : Bool} : Keep m (heardM g m k i h s y) := by
  unfold heardM
  split
  · exact Keep.refl _
  · split
    · rename_i hw
      obtain ⟨v, hv⟩ := Option.isSome_iff_exists.1 hw
      split
      · exact ⟨fun _ _ e => e, fun o ho => .inr (knq_learn o ho), fun i v e => .inr ⟨v, e, fun _ h => h⟩⟩
      · have e : waitOf m i = v := by rw [waitOf, hv]; rfl
        rw [e]
        exact set_keep hv (fun x hx => putV_keeps hx)
    · split
      · split
        · exact Keep.refl _
        · exact ⟨fun _ _ e => e, fun o ho => .inr ⟨o, ho, rfl, fun _ h => h⟩, fun i v e => .inr ⟨v, e, fun _ h => h⟩⟩
      · split
        · exact Keep.refl _
        · exact ⟨fun _ _ e => e, fun o ho => .inr ⟨o, ho, rfl, fun _ h => h⟩, fun i v e => .inr ⟨v, e, fun _ h => h⟩⟩
theorem Keep.write {final : Nat} {ws : List Wr} (h : Keep m m') : Keep m (writeM m' final ws) := by
  obtain ⟨w1, w2, w3, w4, w5⟩ := write_q m' final ws
  exact ⟨fun i d e => by rw [w4]; exact h.dc i d e, fun o ho => by rw [w1, w4]; exact h.q o ho, fun i v e => by rw [w4, w5]; exact h.w i v e⟩
theorem done_keep (hm : MOK c g n m) {i : IdD} {s : Nat} (hn : nextQ m.q = some (i, s)) (y : Bool) : Keep m (doneM m i y s) := by
  obtain ⟨o, l, e1, e2, e3, e4⟩ := next_stamp hn
  obtain ⟨v, hv, _, _⟩ := next_waits hm hn
  have hd : getM (doneM m i y s).dc i = some (y, s) := by
    show getM (putM m.dc i _) i = _
    rw [getM_put, if_pos rfl]
  refine ⟨fun j d e => ?_, fun x hx => ?_, fun j x e => ?_⟩
  · show getM (putM m.dc i _) j = some d
    rw [getM_put, if_neg (fun z => by
      have := hm.dis j (by rw [e]; rfl)
      rw [z, hv] at this; cases this)]
    exact e
  · rw [e1] at hx
    rcases List.mem_cons.1 hx with rfl | hx
    · left; rw [e3, hd]; rfl
    · refine .inr ⟨x, ?_, rfl, fun _ h => h⟩
      show x ∈ m.q.l.drop 1
      rw [e1]; exact hx
  · by_cases ej : j = i
    · left; rw [ej, hd]; rfl
    · right
      refine ⟨x, ?_, fun _ h => h⟩
      show getM (delM m.wt i) j = some x
      rw [getM_del, if_neg ej]; exact e
theorem own_keeps {v : WaitD} {h : Int} (e : hasV v.vs h = true) : hasV (ownVotes c g m v) h = true := by
  unfold ownVotes
  split
  · exact e
  · exact putV_keeps e
theorem turn_keep (hm : MOK c g n m) : Keep m (turnM c g m).2.1 := by
  unfold turnM
  split
  · exact Keep.refl _
  · rename_i i final hn
    obtain ⟨v, hv, hw, hok⟩ := next_waits hm hn
    simp only
    rw [hw]
    split
    · split
      · exact (done_keep hm hn _).write
      · exact done_keep hm hn _
    · exact set_keep hv (fun h e => own_keeps e)
theorem adv_keep : ∀ (k : Nat) {m : MachD}, MOK c g n m → Keep m (advM c g k m).1
  | 0, m, _ => Keep.refl m
  | k + 1, m, h => by
    have h1 := turn_keep h
    have h3 := (turn_okM h).1
    unfold advM
    simp only
    split
    · exact h1.trans (adv_keep k h3)
    · exact h1
theorem apply_keep (h : MOK c g n m) (a : CmdV) : Keep m (applyM c g m a) := by
  unfold applyM
  split
  · rename_i hf
    have h1 := applyA_ok h (cmdOK_of hf)
    refine Keep.trans ?_ (adv_keep _ h1)
    unfold applyA
    split
    · exact begin_keep
    · split
      · exact heard_keep
      · exact Keep.refl _
  · exact Keep.refl _
/-! ### Messages that are taken in -/
def Absd (m : MachD) (a : CmdV) : Prop := (getM m.dc ⟨a.is, a.iq⟩).isSome = true ∨ (a.k = 2 ∧ ∃ o ∈ m.q.l, o.id = ⟨a.is, a.iq⟩ ∧ hasK o.known a.g = true) ∨ (a.k ≠ 2 ∧ ∃ v, getM m.wt ⟨a.is, a.iq⟩ = some v ∧ hasV v.vs a.g = true)
theorem Absd.keep {a : CmdV} (h : Absd m a) (hk : Keep m m') : Absd m' a := by
  rcases h with e | ⟨e, o, ho, e1, e2⟩ | ⟨e, v, e1, e2⟩
  · exact .inl (hk.dc.isSome e)
  · rcases hk.q o ho with q | ⟨o', q1, q2, q3⟩
    · rw [e1] at q; exact .inl q
    · exact .inr (.inl ⟨e, o', q1, q2.trans e1, q3 _ e2⟩)
  · rcases hk.w _ v e1 with q | ⟨v', q1, q2⟩
    · exact .inl q
    · exact .inr (.inr ⟨e, v', q1, q2 _ e2⟩)
theorem Begun.keep {i : IdD} (h : Begun m i) (hk : Keep m m') : Begun m' i := by
  rcases h with e | e
  · obtain ⟨v, hv⟩ := Option.isSome_iff_exists.1 e
    rcases hk.w i v hv with q | ⟨v', q, _⟩
    · exact .inr q
    · left; rw [q]; rfl
  · exact .inr (hk.dc.isSome e)
theorem heard_abs (hL : Loc c all G g m) (hm : MOK c g n m) (hj : InjId all) {t : Tx} (ht : t ∈ all) {k : Int} {h : Int} {s : Nat} {y : Bool} (hh : h ∈ groupsT c t) (hne : h ≠ g) (hb : Begun m (idT t)) (hs : k = 2 → 1 ≤ s ∧ s ≤ mostQ) {a : CmdV} (ha : a.k = k ∧ a.is = (idT t).ses ∧ a.iq = (idT t).seq ∧ a.g = h) : Absd (heardM g m k (idT t) h s y) a := by
  obtain ⟨a1, a2, a3, a4⟩ := ha
  unfold Absd
  rw [a1, a2, a3, a4]
  show (getM (heardM g m k (idT t) h s y).dc (idT t)).isSome = true ∨ (k = 2 ∧ ∃ o ∈ (heardM g m k (idT t) h s y).q.l, o.id = idT t ∧ hasK o.known h = true) ∨ (k ≠ 2 ∧ ∃ v, getM (heardM g m k (idT t) h s y).wt (idT t) = some v ∧ hasV v.vs h = true)
  unfold heardM
  cases hd : (getM m.dc (idT t)).isSome with
  | true => rw [Bool.true_or, if_pos rfl]; exact .inl hd
  | false =>
    have hw : (getM m.wt (idT t)).isSome = true := by
      rcases hb with e | e
      · exact e
      · rw [hd] at e; cases e
    rw [Bool.false_or, if_neg (by simp [hne]), if_pos hw]
    obtain ⟨v, hv⟩ := Option.isSome_iff_exists.1 hw
    have hok := hm.w _ v hv
    have hvt : v.t = t := hj v.t (hL.w _ v hv).1 t ht hok.id
    have hvg : v.gs = groupsT c t := by rw [hok.gs, hvt]
    right
    by_cases ek : k = 2
    · rw [if_pos ek]
      refine .inl ⟨ek, ?_⟩
      show ∃ o ∈ (learnQ m.q (idT t) h s).l, _
      have hq : hasQ m.q (idT t) = true := by rw [hm.has]; exact hw
      obtain ⟨_, hid, hmem⟩ := hasQ_id hq
      obtain ⟨t', b1, b2, b3⟩ := (hL.q _ hmem).1
      have et : t' = t := hj t' b1 t ht (by rw [b2, hid])
      subst et
      have h1 : decide (h = m.q.g) = false := by rw [hm.qg]; simp [hne]
      have h2 : (oneQ m.q (idT t')).gs.contains h = true := by rw [b3]; simpa using hh
      have h3 := hs ek
      have hK : learnK m.q (idT t') h s = if hasK (oneQ m.q (idT t')).known h = true then 0 else 2 := by
        rw [learnK, hq, h1, h2]
        have e1 : decide (s < 1) = false := by simp; omega
        have e2 : decide (mostQ < s) = false := by simp; omega
        rw [e1, e2]
        simp
      by_cases hkn : hasK (oneQ m.q (idT t')).known h = true
      · rw [if_pos hkn] at hK
        have e : learnQ m.q (idT t') h s = m.q := by rw [learnQ, if_neg (by rw [hK]; decide)]
        rw [e]
        exact ⟨_, hmem, hid, hkn⟩
      · rw [if_neg hkn] at hK
        refine ⟨_, learn_has hK, hid, ?_⟩
        show hasK ((oneQ m.q (idT t')).known ++ [(h, s)]) h = true
        rw [hasK_snoc]; simp
    · rw [if_neg ek]
      refine .inr ⟨ek, ?_⟩
      have e : waitOf m (idT t) = v := by rw [waitOf, hv]; rfl
      rw [e]
      refine ⟨{ v with vs := putV v.gs v.vs h y }, ?_, put_none (by rw [hvg]; simpa using hh)⟩
      show getM (putM m.wt (idT t) _) (idT t) = _
      rw [getM_put, if_pos rfl]
/-! ### The head -/
def HeadP (g : Int) (m : MachD) : Prop := ∀ i s, nextQ m.q = some (i, s) → ∃ v, getM m.wt i = some v ∧ hasV v.vs g = true ∧ outKnown v.gs.length v.vs = false
theorem adv_head : ∀ (k : Nat) {m : MachD}, MOK c g n m → m.q.l.length < k → HeadP g (advM c g k m).1
  | 0, m, _, h => absurd h (Nat.not_lt_zero _)
  | k + 1, m, hm, hl => by
    obtain ⟨h3, h4⟩ := turn_okM hm
    unfold advM
    simp only
    split
    · rename_i e
      have := h4 e
      exact adv_head k h3 (by omega)
    · rename_i e
      clear h3 h4
      unfold turnM at e ⊢
      split at e
      · rename_i hn
        intro i s hs
        rw [hn] at hs; cases hs
      · rename_i i final hn
        obtain ⟨v, hv, hw, hok⟩ := next_waits hm hn
        simp only at e ⊢
        rw [hw] at e ⊢
        split at e
        · exact absurd rfl e
        · rename_i hk
          rw [if_neg hk]
          intro j s hs
          have hs' : nextQ m.q = some (j, s) := hs
          rw [hn] at hs'
          cases hs'
          refine ⟨{ v with vs := ownVotes c g m v }, ?_, ?_, by simpa using hk⟩
          · show getM (putM m.wt i _) i = _
            rw [getM_put, if_pos rfl]
          · show hasV (ownVotes c g m v) g = true
            unfold ownVotes
            split
            · assumption
            · exact put_none hok.me
theorem apply_head (h : MOK c g n m) {a : CmdV} (hf : formedC a = true) : HeadP g (applyM c g m a) := by
  rw [applyM, if_pos hf]
  exact adv_head _ (applyA_ok h (cmdOK_of hf)) (Nat.lt_succ_self _)
end
end Go.Proofs.YtcldpmkhpmlcbaaGreatDoor
/- GroupAgree in plain Lean: all machines, and what is under way to each. -/
namespace Go.Proofs.YtcldpmkhpmlcbaaGreatDoor

structure Wd where
  m : Nat → MachD
  way : Nat → List CmdV
  cnt : Nat → Nat
/-- What an output is to the group that it comes to. -/
def msgC (g : Nat) (x : OutD) : CmdV := ⟨x.kind, ⟨0, 0, [], []⟩, none, none, 0, 0, x.id.ses, x.id.seq, g, x.stamp, x.yes⟩
def applyW (c : Cfg) (W : Wd) (g : Nat) (a : CmdV) : Wd :=
  { m := fun h => if h = g then applyM c g (W.m g) a else W.m h
    way := fun h => W.way h ++ (toL h (applyO c g (W.m g) a)).map (msgC g)
    cnt := fun h => if h = g then W.cnt g + 1 else W.cnt h }
def world0 : Wd := ⟨fun g => mach0 g, fun _ => [], fun _ => 0⟩
/-- k: how often a transaction was begun. -/
inductive Reach (c : Cfg) (all : List Tx) : Nat → Wd → Prop
  | zero : Reach c all 0 world0
  | begin {k : Nat} {W : Wd} (h : Reach c all k W) {g : Nat} (hg : g < c.reps.length) {t : Tx} (ht : t ∈ all) (A B : Option Addr) (ca cb : Nat) : Reach c all (k + 1) (applyW c W g (beginC t A B ca cb))
  | heard {k : Nat} {W : Wd} (h : Reach c all k W) {g : Nat} (hg : g < c.reps.length) {a : CmdV} (ha : a ∈ W.way g) : Reach c all k (applyW c W g a)
def nvTo (all : List Tx) (G : Gh) : Nat → Nat
  | 0 => 0
  | n + 1 => nvTo all G n + nvG all G n
section
variable (c : Cfg) (all : List Tx)
structure MsgOK (G : Gh) (h : Nat) (a : CmdV) : Prop where
  t : ∃ t ∈ all, idT t = ⟨a.is, a.iq⟩ ∧ (h : Int) ∈ groupsT c t ∧ a.g ∈ groupsT c t
  ne : a.g ≠ h
  f : formedC a = true
  x : (a.k = 2 ∧ G.own a.g ⟨a.is, a.iq⟩ = some a.st) ∨ (a.k = 3 ∧ G.vote a.g ⟨a.is, a.iq⟩ = some a.y)
  sh : a.t = ⟨0, 0, [], []⟩ ∧ a.A = none ∧ a.B = none ∧ a.ca = 0 ∧ a.cb = 0
structure WInv (k : Nat) (W : Wd) (G : Gh) : Prop where
  mok : ∀ g : Nat, g < c.reps.length → MOK c g (W.cnt g) (W.m g)
  loc : ∀ g : Nat, g < c.reps.length → Loc c all G g (W.m g)
  ob : OB G k
  ck : ∀ g : Nat, g < c.reps.length → (W.m g).q.clock ≤ k
  msg : ∀ h : Nat, h < c.reps.length → ∀ a ∈ W.way h, MsgOK c all G h a
  tello : ∀ g : Nat, g < c.reps.length → ∀ i s, G.own g i = some s → ∀ t ∈ all, idT t = i → ∀ h : Nat, (h : Int) ∈ groupsT c t → h ≠ g → ∃ a ∈ W.way h, a.k = 2 ∧ a.g = g ∧ a.is = i.ses ∧ a.iq = i.seq
  tellv : ∀ g : Nat, g < c.reps.length → ∀ i y, G.vote g i = some y → ∀ t ∈ all, idT t = i → ∀ h : Nat, (h : Int) ∈ groupsT c t → h ≠ g → ∃ a ∈ W.way h, a.k = 3 ∧ a.g = g ∧ a.is = i.ses ∧ a.iq = i.seq
  head : ∀ g : Nat, g < c.reps.length → HeadP g (W.m g)
  len : ∀ h : Nat, (W.way h).length + nvTo all G c.reps.length ≤ 2 * k + all.length * c.reps.length
end
section
variable {c : Cfg} {all : List Tx} {G G' : Gh} {k n u d : Nat} {W : Wd}
theorem nvG_all {g : Int} : nvG all G g ≤ all.length := List.length_filter_le _ _
theorem nvTo_all : ∀ n : Nat, nvTo all G n ≤ all.length * n
  | 0 => Nat.le_refl _
  | n + 1 => by
    have := nvTo_all n
    have := nvG_all (all := all) (G := G) (g := n)
    rw [nvTo, Nat.mul_succ]; omega
theorem nvTo_row {g : Nat} (hr : Gh.Row g G G') : ∀ n : Nat, nvTo all G' n + (if g < n then nvG all G g else 0) = nvTo all G n + (if g < n then nvG all G' g else 0)
  | 0 => rfl
  | n + 1 => by
    have ih := nvTo_row hr n
    rw [nvTo, nvTo]
    by_cases e : n = g
    · subst e
      rw [if_neg (Nat.lt_irrefl _), if_neg (Nat.lt_irrefl _)] at ih
      rw [if_pos (Nat.lt_succ_self _), if_pos (Nat.lt_succ_self _)]
      omega
    · have e2 : nvG all G' n = nvG all G n := by
        have := (hr n (by omega)).2
        unfold nvG
        rw [this]
      rw [e2]
      by_cases hl : g < n
      · rw [if_pos hl, if_pos hl] at ih
        rw [if_pos (by omega), if_pos (by omega)]; omega
      · rw [if_neg hl, if_neg hl] at ih
        rw [if_neg (by omega), if_neg (by omega)]; omega
theorem MsgOK.le {h : Nat} {a : CmdV} (hm : MsgOK c all G h a) (hl : G.Le G') : MsgOK c all G' h a :=
  { hm with x := hm.x.imp (fun e => ⟨e.1, hl.own _ _ _ e.2⟩) (fun e => ⟨e.1, hl.vote _ _ _ e.2⟩) }
theorem cmdEq_self (a : CmdV) : cmdEq a a = true := by simp [cmdEq, idEqB, sameT_self]
theorem msg_formed {g : Nat} {x : OutD} (hi : idB x.id.ses x.id.seq = true) (hg : g < 4) (hx : (x.kind = 2 ∧ 1 ≤ x.stamp ∧ x.stamp ≤ 1000 ∧ x.yes = false) ∨ (x.kind = 3 ∧ x.stamp = 0)) : formedC (msgC g x) = true := by
  have hgc : groupC g = true := by simp [groupC]; omega
  rcases hx with ⟨e1, e2, e3, e4⟩ | ⟨e1, e2⟩
  · have e : msgC g x = ⟨2, ⟨0, 0, [], []⟩, none, none, 0, 0, x.id.ses, x.id.seq, g, x.stamp, false⟩ := by rw [msgC, e1, e4]
    have h1 : decide ((1 : Int) ≤ (x.stamp : Int)) = true := by simp; omega
    have h2 : decide ((x.stamp : Int) < 9223372036854775808) = true := by simp; omega
    rw [e]
    show (idB x.id.ses x.id.seq && decide ((1 : Int) ≤ (x.stamp : Int)) && decide ((x.stamp : Int) < 9223372036854775808) && groupC g && cmdEq _ _) = true
    rw [hi, h1, h2, hgc, cmdEq_self]; rfl
  · have e : msgC g x = ⟨3, ⟨0, 0, [], []⟩, none, none, 0, 0, x.id.ses, x.id.seq, g, 0, x.yes⟩ := by rw [msgC, e1, e2]
    rw [e]
    show (idB x.id.ses x.id.seq && groupC g && cmdEq _ _) = true
    rw [hi, hgc, cmdEq_self]; rfl
theorem mem_toL {h : Int} {os : List OutD} {x : OutD} : x ∈ toL h os ↔ x ∈ os ∧ x.dst = h ∧ x.kind ≠ 4 := by simp [toL]
theorem told_msg {g h : Nat} {os : List OutD} (hT : Told c all G g os) (hf : ∀ t ∈ all, formedT t = true) (hg : g < 4) (hu : OB G u) (hu1 : u ≤ 1000) {x : OutD} (hx : x ∈ toL h os) : MsgOK c all G h (msgC g x) := by
  obtain ⟨h1, h2, h3⟩ := mem_toL.1 hx
  rcases hT x h1 with e | ⟨⟨t, t1, t2, t3, t4⟩, e2, e3⟩
  · exact absurd e h3
  · have hid : idB x.id.ses x.id.seq = true := by rw [← t2]; exact (formed_parts (hf t t1)).1
    refine ⟨⟨t, t1, t2, h2 ▸ t3, t4⟩, fun z => e2 (h2.trans z.symm), msg_formed hid hg ?_, ?_, rfl, rfl, rfl, rfl, rfl⟩
    · rcases e3 with ⟨a, b, d⟩ | ⟨a, b, d⟩
      · have := hu _ _ _ b
        exact .inl ⟨a, this.1, by omega, d⟩
      · exact .inr ⟨a, d⟩
    · rcases e3 with ⟨a, b, d⟩ | ⟨a, b, d⟩
      · exact .inl ⟨a, b⟩
      · exact .inr ⟨a, b⟩
theorem WInv.step (h : WInv c all k W G) (hf : ∀ t ∈ all, formedT t = true) {g : Nat} (hg : g < c.reps.length) {a : CmdV} (ha : formedC a = true) (hS : StepG c all G G' g (applyM c g (W.m g) a) (applyO c g (W.m g) a) (2 * d) (k + d)) (hk : k + d ≤ 1000) : WInv c all (k + d) (applyW c W g a) G' := by
  have hm := h.mok g hg
  have hc4 := reps_four hm.cf
  have hmE : ∀ x, (applyW c W g a).m x = if x = g then applyM c g (W.m g) a else W.m x := fun _ => rfl
  have hcE : ∀ x, (applyW c W g a).cnt x = if x = g then W.cnt g + 1 else W.cnt x := fun _ => rfl
  have hwE : ∀ x, (applyW c W g a).way x = W.way x ++ (toL x (applyO c g (W.m g) a)).map (msgC g) := fun _ => rfl
  have hrow : ∀ x : Nat, x ≠ g → G'.own x = G.own x ∧ G'.vote x = G.vote x := fun x hx => hS.row x (by omega)
  refine { mok := fun x hx => ?_, loc := fun x hx => ?_, ob := hS.ob, ck := fun x hx => ?_, msg := fun x hx y hy => ?_, tello := fun x hx i s e t ht hi y hy hne => ?_, tellv := fun x hx i s e t ht hi y hy hne => ?_, head := fun x hx => ?_, len := fun x => ?_ }
  · rw [hmE, hcE]
    by_cases e : x = g
    · rw [if_pos e, if_pos e, e]; exact apply_okM hm a
    · rw [if_neg e, if_neg e]; exact h.mok x hx
  · rw [hmE]
    by_cases e : x = g
    · rw [if_pos e, e]; exact hS.loc
    · rw [if_neg e]; exact (h.loc x hx).other hS.le (hrow x e).1 (hrow x e).2
  · rw [hmE]
    by_cases e : x = g
    · rw [if_pos e]; exact hS.ck
    · rw [if_neg e]; exact Nat.le_trans (h.ck x hx) (Nat.le_add_right _ _)
  · rw [hwE] at hy
    rcases List.mem_append.1 hy with hy | hy
    · exact (h.msg x hx y hy).le hS.le
    · obtain ⟨o, ho, rfl⟩ := List.mem_map.1 hy
      exact told_msg hS.told hf (by omega) hS.ob hk ho
  · rw [hwE]
    by_cases ex : x = g
    · subst ex
      rcases hS.tello i s e with e | e
      · obtain ⟨b, hb, r⟩ := h.tello x hx i s e t ht hi y hy hne
        exact ⟨b, List.mem_append_left _ hb, r⟩
      · obtain ⟨o, ho, r1, r2, r3⟩ := e t ht hi y hy (by omega)
        refine ⟨msgC x o, List.mem_append_right _ (List.mem_map_of_mem (mem_toL.2 ⟨ho, r2, by omega⟩)), r1, rfl, ?_, ?_⟩
        · rw [← r3]; rfl
        · rw [← r3]; rfl
    · rw [(hrow x ex).1] at e
      obtain ⟨b, hb, r⟩ := h.tello x hx i s e t ht hi y hy hne
      exact ⟨b, List.mem_append_left _ hb, r⟩
  · rw [hwE]
    by_cases ex : x = g
    · subst ex
      rcases hS.tellv i s e with e | e
      · obtain ⟨b, hb, r⟩ := h.tellv x hx i s e t ht hi y hy hne
        exact ⟨b, List.mem_append_left _ hb, r⟩
      · obtain ⟨o, ho, r1, r2, r3⟩ := e t ht hi y hy (by omega)
        refine ⟨msgC x o, List.mem_append_right _ (List.mem_map_of_mem (mem_toL.2 ⟨ho, r2, by omega⟩)), r1, rfl, ?_, ?_⟩
        · rw [← r3]; rfl
        · rw [← r3]; rfl
    · rw [(hrow x ex).2] at e
      obtain ⟨b, hb, r⟩ := h.tellv x hx i s e t ht hi y hy hne
      exact ⟨b, List.mem_append_left _ hb, r⟩
  · rw [hmE]
    by_cases e : x = g
    · rw [if_pos e, e]; exact apply_head hm ha
    · rw [if_neg e]; exact h.head x hx
  · rw [hwE, List.length_append, List.length_map]
    have h1 := h.len x
    have h2 := hS.cnt x
    have h3 := nvTo_row (all := all) hS.row c.reps.length
    rw [if_pos hg, if_pos hg] at h3
    omega
theorem winv0 (hc : formedB c = true) : WInv c all 0 world0 ⟨fun _ _ => none, fun _ _ => none⟩ :=
  { mok := fun g hg => mach0_ok hc (by omega) (by omega)
    loc := fun g hg => { q := fun o ho => (by cases ho), w := fun i v e => by simp [world0, mach0, getM_nil] at e, d := fun i y s e => by simp [world0, mach0, getM_nil] at e, st := fun i h s e => by simp [world0, mach0, getM_nil] at e, vo := fun i h y e => by simp [world0, mach0, getM_nil] at e, ow := fun i s e => (by cases e), vt := fun i y e => by cases e }
    ob := fun h i s e => by cases e
    ck := fun g hg => Nat.le_refl _
    msg := fun h hh a ha => by cases ha
    tello := fun g hg i s e => by cases e
    tellv := fun g hg i s e => by cases e
    head := fun g hg i s e => by cases e
    len := fun h => by
      have := nvTo_all (all := all) (G := ⟨fun _ _ => none, fun _ _ => none⟩) c.reps.length
      show 0 + _ ≤ _; omega }
end
end Go.Proofs.YtcldpmkhpmlcbaaGreatDoor
/- GroupAgree in plain Lean: when all has begun and all is taken in, all is decided, alike. -/
namespace Go.Proofs.YtcldpmkhpmlcbaaGreatDoor
section
variable {c : Cfg} {all : List Tx} {G G' : Gh} {k n u d : Nat} {W : Wd} {m : MachD} {g : Int}
/-- All has begun, and all that was under way is taken in. -/
structure Fin17 (c : Cfg) (all : List Tx) (W : Wd) : Prop where
  b : ∀ g : Nat, g < c.reps.length → ∀ t ∈ all, (g : Int) ∈ groupsT c t → Begun (W.m g) (idT t)
  a : ∀ g : Nat, g < c.reps.length → ∀ a ∈ W.way g, Absd (W.m g) a
theorem finT_one {t : Tx} {s s' : Nat} (h : FinT c G t s) (h' : FinT c G t s') : s = s' := by
  obtain ⟨h1, x, hx, e⟩ := h
  obtain ⟨h1', x', hx', e'⟩ := h'
  obtain ⟨a, ea, la⟩ := h1 x' hx'
  obtain ⟨b, eb, lb⟩ := h1' x hx
  rw [e'] at ea
  rw [e] at eb
  cases ea; cases eb
  omega
theorem yesT_one {t : Tx} {y y' : Bool} (h : YesT c G t y) (h' : YesT c G t y') : y = y' := by
  cases y <;> cases y'
  · rfl
  · obtain ⟨x, hx, e⟩ := h.2 rfl
    rw [h'.1 rfl x hx] at e; cases e
  · obtain ⟨x, hx, e⟩ := h'.2 rfl
    rw [h.1 rfl x hx] at e; cases e
  · rfl
theorem group_nat {t : Tx} (hc : formedB c = true) {h : Int} (hh : h ∈ groupsT c t) : ∃ x : Nat, h = x ∧ x < c.reps.length := by
  have := (groupsT_ok (t := t) hc).2.1 h hh
  exact ⟨h.toNat, by omega, by omega⟩
theorem begun_own (hL : Loc c all G g m) (hm : MOK c g n m) {i : IdD} (hb : Begun m i) : ∃ s, G.own g i = some s := by
  rcases hb with e | e
  · have hq : hasQ m.q i = true := by rw [hm.has]; exact e
    obtain ⟨_, hid, hmem⟩ := hasQ_id hq
    have := (hL.q _ hmem).2.1
    rw [hid] at this
    exact ⟨_, this⟩
  · obtain ⟨⟨y, s⟩, e⟩ := Option.isSome_iff_exists.1 e
    obtain ⟨t, ht, hi, hg, hF, _⟩ := hL.d i y s e
    obtain ⟨s', e', _⟩ := hF.1 g hg
    rw [hi] at e'
    exact ⟨s', e'⟩
theorem ids_one {q : QD} (hq : QOK q) {o o' : OneD} (h : o ∈ q.l) (h' : o' ∈ q.l) (e : o.id = o'.id) : o = o' := by
  obtain ⟨i, hi, rfl⟩ := List.mem_iff_getElem.1 h
  obtain ⟨j, hj, rfl⟩ := List.mem_iff_getElem.1 h'
  have hp := List.pairwise_iff_getElem.1 hq.nd
  have : i = j := by
    apply Classical.byContradiction
    intro hne
    rcases Nat.lt_or_gt_of_ne hne with z | z
    · exact hp i j (by simpa using hi) (by simpa using hj) z (by simpa using e)
    · exact hp j i (by simpa using hj) (by simpa using hi) z (by simpa using e.symm)
  subst this; rfl
/-- One that waits isn't decided. -/
theorem waits_not (hm : MOK c g n m) {o : OneD} (ho : o ∈ m.q.l) : (getM m.dc o.id).isSome = false := by
  cases e : (getM m.dc o.id).isSome with
  | false => rfl
  | true =>
    have h1 := hm.dis _ e
    have h2 := (hm.ids o.id).2 (List.mem_map_of_mem ho)
    rw [h1] at h2; cases h2
theorem knows_final {q : QD} {o : OneD} (ho : OneOK q o) (hnd : o.gs.Nodup) (hk : ∀ h ∈ o.gs, h ≠ q.g → hasK o.known h = true) : o.final = true := by
  rw [ho.fin, decide_eq_true_iff]
  have hr := ho.gs
  simp only [rightB, Bool.and_eq_true] at hr
  have h1 := nodup_le (l := q.g :: o.known.map (·.1)) (m := o.gs) (List.nodup_cons.2 ⟨fun hm => by
    obtain ⟨x, hx, e⟩ := List.mem_map.1 hm
    exact (ho.kn x hx).1 e, ho.nd⟩) (fun x hx => by
    rcases List.mem_cons.1 hx with rfl | hx
    · simpa using hr.2
    · obtain ⟨y, hy, rfl⟩ := List.mem_map.1 hx
      simpa using (ho.kn y hy).2.1)
  have h2 := nodup_le (l := o.gs) (m := q.g :: o.known.map (·.1)) hnd (fun x hx => by
    by_cases e : x = q.g
    · rw [e]; exact List.mem_cons_self
    · exact List.mem_cons_of_mem _ (hasK_iff.1 (hk x hx e)))
  simp only [List.length_cons, List.length_map] at h1 h2
  omega
/-- Every one that waits is final. -/
theorem fin_final (hW : WInv c all k W G) (hF : Fin17 c all W) (hc : formedB c = true) {x : Nat} (hx : x < c.reps.length) {o : OneD} (ho : o ∈ (W.m x).q.l) : o.final = true := by
  have hm := hW.mok x hx
  have hL := hW.loc x hx
  obtain ⟨⟨t, ht, hi, hgs⟩, _, _⟩ := hL.q o ho
  refine knows_final (hm.q.one o ho) (by rw [hgs]; exact groups_nodup hc) fun h hh hne => ?_
  rw [hm.qg] at hne
  rw [hgs] at hh
  obtain ⟨y, rfl, hy⟩ := group_nat hc hh
  obtain ⟨s, hs⟩ := begun_own (hW.loc y hy) (hW.mok y hy) (hF.b y hy t ht hh)
  have hxg : (x : Int) ∈ groupsT c t := by
    have hr := (hm.q.one o ho).gs
    simp only [rightB, Bool.and_eq_true] at hr
    have := hr.2
    rw [hm.qg, hgs] at this
    simpa using this
  obtain ⟨a, ha, a1, a2, a3, a4⟩ := hW.tello y hy _ s hs t ht rfl x hxg (by omega)
  have hid : (⟨a.is, a.iq⟩ : IdD) = o.id := by rw [a3, a4]; exact hi
  rcases hF.a x hx a ha with e | ⟨_, o', ho', e1, e2⟩ | ⟨e, _⟩
  · rw [hid, waits_not hm ho] at e; cases e
  · rw [hid] at e1
    have := ids_one hm.q ho' ho e1
    subst this
    rw [a2] at e2; exact e2
  · exact absurd a1 e
theorem least_one : ∀ l : List OneD, l ≠ [] → ∃ o ∈ l, ∀ o' ∈ l, leO o o' = true
  | [], h => absurd rfl h
  | [o], _ => ⟨o, List.mem_cons_self, fun o' h => by
    rw [List.mem_singleton.1 h]
    have := leO_total o o
    simpa using this⟩
  | a :: b :: l, _ => by
    obtain ⟨o, ho, hl⟩ := least_one (b :: l) (by simp)
    rcases Bool.or_eq_true_iff.1 (leO_total a o) with e | e
    · refine ⟨a, List.mem_cons_self, fun o' h => ?_⟩
      rcases List.mem_cons.1 h with rfl | h
      · have := leO_total o' o'
        simpa using this
      · exact leO_trans _ _ _ e (hl o' h)
    · refine ⟨o, List.mem_cons_of_mem _ ho, fun o' h => ?_⟩
      rcases List.mem_cons.1 h with rfl | h
      · exact e
      · exact hl o' h
theorem none_waits (hW : WInv c all k W G) (hF : Fin17 c all W) (hc : formedB c = true) (hj : InjId all) : ∀ x : Nat, x < c.reps.length → (W.m x).q.l = [] := by
  have key : (List.range c.reps.length).flatMap (fun x => (W.m x).q.l) = [] := by
    apply Classical.byContradiction
    intro hne
    obtain ⟨o, ho, hleast⟩ := least_one _ hne
    obtain ⟨x, hx, ho⟩ := List.mem_flatMap.1 ho
    have hx := List.mem_range.1 hx
    have hall : ∀ y : Nat, y < c.reps.length → ∀ o' ∈ (W.m y).q.l, leO o o' = true := fun y hy o' h' => hleast o' (List.mem_flatMap.2 ⟨y, List.mem_range.2 hy, h'⟩)
    have hm := hW.mok x hx
    have hL := hW.loc x hx
    obtain ⟨⟨t, ht, hi, hgs⟩, _, _⟩ := hL.q o ho
    have hfin := fin_final hW hF hc hx ho
    have hFT := fin_stamp (hm.q.one o ho) hm.qg (hL.q o ho) hfin hi hgs
    -- where it waits it is the head
    have hhead : ∀ y : Nat, y < c.reps.length → ∀ o' ∈ (W.m y).q.l, o'.id = o.id → ∃ v, getM (W.m y).wt o.id = some v ∧ hasV v.vs y = true ∧ outKnown v.gs.length v.vs = false := fun y hy o' h' e' => by
      have hmy := hW.mok y hy
      obtain ⟨⟨t', ht', hi', hgs'⟩, _, _⟩ := (hW.loc y hy).q o' h'
      have et : t' = t := hj t' ht' t ht (by rw [hi', e', hi])
      subst et
      have hF' := fin_stamp (hmy.q.one o' h') hmy.qg ((hW.loc y hy).q o' h') (fin_final hW hF hc hy h') hi' hgs'
      have est := finT_one hF' hFT
      cases hl : (W.m y).q.l with
      | nil => rw [hl] at h'; cases h'
      | cons z l =>
        have hz : z ∈ (W.m y).q.l := by rw [hl]; exact List.mem_cons_self
        have hzo : z = o' := by
          apply ids_one hmy.q hz h'
          rw [hl] at h'
          rcases List.mem_cons.1 h' with e2 | h2
          · rw [e2]
          · have h1 : leO z o' = true := by
              have := hmy.q.so
              rw [hl, List.pairwise_cons] at this
              exact this.1 o' h2
            have h3 : leO o z = true := hall y hy z hz
            have h4 : leO o' z = true := by
              unfold leO ltO at h3 ⊢
              rw [est, e']
              exact h3
            simp only [leO, Bool.not_eq_true'] at h1 h4
            exact (ltO_tri h4 h1).2
        subst hzo
        have hzf := fin_final hW hF hc hy hz
        have hnx : nextQ (W.m y).q = some (z.id, z.stamp) := by rw [nextQ, hl]; simp only; rw [if_pos hzf]
        obtain ⟨v, q1, q2, q3⟩ := hW.head y hy _ _ hnx
        rw [e'] at q1
        exact ⟨v, q1, q2, q3⟩
    obtain ⟨v, v1, v2, v3⟩ := hhead x hx o ho rfl
    have hok := hm.w _ v v1
    have evt : v.t = t := hj v.t (hL.w _ v v1).1 t ht (by rw [hok.id, hi])
    have hvg : v.gs = groupsT c t := by rw [hok.gs, evt]
    have hxg : (x : Int) ∈ groupsT c t := by have := hok.me; rw [hvg] at this; simpa using this
    -- every group has voted, and it was told
    have hvoted : ∀ h ∈ v.gs, hasV v.vs h = true := fun h hh => by
      rw [hvg] at hh
      obtain ⟨y, rfl, hy⟩ := group_nat hc hh
      by_cases exy : y = x
      · rw [exy]; exact v2
      · have hvy : ∃ b, G.vote y (idT t) = some b := by
          rcases hF.b y hy t ht hh with e | e
          · have hq : hasQ (W.m y).q (idT t) = true := by rw [(hW.mok y hy).has]; exact e
            obtain ⟨_, hid, hmem⟩ := hasQ_id hq
            obtain ⟨v', w1, w2, _⟩ := hhead y hy _ hmem (by rw [hid, hi])
            obtain ⟨_, hv'⟩ := (hW.loc y hy).w _ v' w1
            have := hv' _ (hasV_get ((hW.mok y hy).w _ v' w1).tal w2)
            rw [← hi] at this
            exact ⟨_, this⟩
          · obtain ⟨⟨yy, s⟩, e⟩ := Option.isSome_iff_exists.1 e
            obtain ⟨t', ht', hi', _, _, _, h6⟩ := (hW.loc y hy).d _ yy s e
            exact Option.isSome_iff_exists.1 h6
        obtain ⟨b, hb⟩ := hvy
        obtain ⟨a, ha, a1, a2, a3, a4⟩ := hW.tellv y hy _ b hb t ht rfl x hxg (by omega)
        have hid : (⟨a.is, a.iq⟩ : IdD) = o.id := by rw [a3, a4]; exact hi
        rcases hF.a x hx a ha with e | ⟨e, _⟩ | ⟨_, v', e1, e2⟩
        · rw [hid, waits_not hm ho] at e; cases e
        · omega
        · rw [hid, v1] at e1; cases e1
          rw [a2] at e2; exact e2
    have hlen := hok.tal.all_voted
    rw [List.all_eq_true.2 hvoted] at hlen
    rw [outKnown, ← hlen, Bool.or_true] at v3
    cases v3
  intro x hx
  rw [List.flatMap_eq_nil_iff] at key
  exact key x (List.mem_range.2 hx)
theorem all_decided (hW : WInv c all k W G) (hF : Fin17 c all W) (hc : formedB c = true) (hj : InjId all) {t : Tx} (ht : t ∈ all) {x : Nat} (hxg : (x : Int) ∈ groupsT c t) : ∃ y s, getM (W.m x).dc (idT t) = some (y, s) ∧ FinT c G t s ∧ YesT c G t y := by
  obtain ⟨x', e, hx⟩ := group_nat hc hxg
  have e : x = x' := by omega
  subst e
  rcases hF.b x hx t ht hxg with e | e
  · have := ((hW.mok x hx).ids (idT t)).1 e
    rw [idsQ, none_waits hW hF hc hj x hx] at this
    cases this
  · obtain ⟨⟨y, s⟩, e⟩ := Option.isSome_iff_exists.1 e
    obtain ⟨t', ht', hi', _, h4, h5, _⟩ := (hW.loc x hx).d _ y s e
    have et : t' = t := hj t' ht' t ht hi'
    subst et
    exact ⟨y, s, e, h4, h5⟩
/-- All is decided, alike. -/
theorem agree17 (hW : WInv c all k W G) (hF : Fin17 c all W) (hc : formedB c = true) (hj : InjId all) {t : Tx} (ht : t ∈ all) : ∃ y s, ∀ x : Nat, (x : Int) ∈ groupsT c t → getM (W.m x).dc (idT t) = some (y, s) := by
  by_cases h : ∃ x : Nat, (x : Int) ∈ groupsT c t
  · obtain ⟨x, hx⟩ := h
    obtain ⟨y, s, e1, e2, e3⟩ := all_decided hW hF hc hj ht hx
    refine ⟨y, s, fun x' hx' => ?_⟩
    obtain ⟨y', s', e1', e2', e3'⟩ := all_decided hW hF hc hj ht hx'
    rw [e1', finT_one e2' e2, yesT_one e3' e3]
  · exact ⟨false, 0, fun x hx => absurd ⟨x, hx⟩ h⟩
end
end Go.Proofs.YtcldpmkhpmlcbaaGreatDoor
/- GroupAgree in plain Lean: the three parts of a run. -/
namespace Go.Proofs.YtcldpmkhpmlcbaaGreatDoor
/-- The turns that a group still has. -/
def fut (n h τ : Nat) : Nat := (2000 + n - 1 - h) / n - (τ + n - 1 - h) / n
theorem fut_start {n h : Nat} (h1 : 1 ≤ n) (h4 : n ≤ 4) (hh : h < n) : 368 ≤ fut n h 0 := by
  unfold fut
  rcases (by omega : n = 1 ∨ n = 2 ∨ n = 3 ∨ n = 4) with rfl | rfl | rfl | rfl <;> omega
theorem fut_other {n h τ : Nat} (h1 : 1 ≤ n) (h4 : n ≤ 4) (hh : h < n) (hne : h ≠ τ % n) : fut n h (τ + 1) = fut n h τ := by
  unfold fut
  rcases (by omega : n = 1 ∨ n = 2 ∨ n = 3 ∨ n = 4) with rfl | rfl | rfl | rfl <;> omega
theorem fut_same {n τ : Nat} (h1 : 1 ≤ n) (h4 : n ≤ 4) (ht : τ < 2000) : fut n (τ % n) (τ + 1) + 1 = fut n (τ % n) τ := by
  unfold fut
  rcases (by omega : n = 1 ∨ n = 2 ∨ n = 3 ∨ n = 4) with rfl | rfl | rfl | rfl <;> omega
theorem fut_round {n h τ : Nat} (h1 : 1 ≤ n) (h4 : n ≤ 4) (hh : h < n) (ht : τ < 2000) : fut n (τ % n) τ ≤ fut n h (τ + 1) + 1 := by
  unfold fut
  rcases (by omega : n = 1 ∨ n = 2 ∨ n = 3 ∨ n = 4) with rfl | rfl | rfl | rfl <;> omega
theorem fut_end {n h : Nat} : fut n h 2000 = 0 := by unfold fut; omega
section
variable {c : Cfg} {all : List Tx} {G G' : Gh} {k n u d N N' : Nat} {W : Wd} {p : Nat → Nat} {τ : Nat}
theorem keepW (hW : WInv c all k W G) {g h : Nat} (hh : h < c.reps.length) (a : CmdV) : Keep (W.m h) ((applyW c W g a).m h) := by
  show Keep _ (if h = g then applyM c g (W.m g) a else W.m h)
  by_cases e : h = g
  · rw [if_pos e, e]; exact apply_keep (hW.mok g (e ▸ hh)) a
  · rw [if_neg e]; exact Keep.refl _
/-- What is under way, and the votes to come. -/
theorem way_len (hW : WInv c all k W G) {g : Nat} (hg : g < c.reps.length) {a : CmdV} (hS : StepG c all G G' g (applyM c g (W.m g) a) (applyO c g (W.m g) a) d u) (h : Nat) : ((applyW c W g a).way h).length + nvTo all G' c.reps.length ≤ (W.way h).length + nvTo all G c.reps.length + d := by
  show (W.way h ++ (toL h (applyO c g (W.m g) a)).map (msgC g)).length + _ ≤ _
  rw [List.length_append, List.length_map]
  have h2 := hS.cnt h
  have h3 := nvTo_row (all := all) hS.row c.reps.length
  rw [if_pos hg, if_pos hg] at h3
  omega
/-- The world as it is behind N commands. -/
structure P1 (c : Cfg) (all : List Tx) (N : Nat) (W : Wd) : Prop where
  ex : ∃ k G, k ≤ N ∧ Reach c all k W ∧ WInv c all k W G
  cn : ∀ h : Nat, h < c.reps.length → W.cnt h ≤ N
structure Plan (c : Cfg) (all : List Tx) : Prop where
  c : formedB c = true
  f : ∀ t ∈ all, formedT t = true
  j : InjId all
  l : all.length ≤ 14
theorem P1.more (h : P1 c all N W) (hn : N ≤ N') : P1 c all N' W := by
  obtain ⟨k, G, h1, h2⟩ := h.ex
  exact ⟨⟨k, G, Nat.le_trans h1 hn, h2⟩, fun x hx => Nat.le_trans (h.cn x hx) hn⟩
theorem P1.start (hp : Plan c all) : P1 c all 0 world0 := ⟨⟨0, _, Nat.le_refl _, .zero, winv0 hp.c⟩, fun _ _ => Nat.le_refl _⟩
theorem cnt_le {g : Nat} {a : CmdV} (h : ∀ h : Nat, h < c.reps.length → W.cnt h ≤ N) (hg : g < c.reps.length) : ∀ h : Nat, h < c.reps.length → (applyW c W g a).cnt h ≤ N + 1 := fun x hx => by
  show (if x = g then W.cnt g + 1 else W.cnt x) ≤ _
  by_cases e : x = g
  · rw [if_pos e]; have := h g hg; omega
  · rw [if_neg e]; have := h x hx; omega
theorem P1.begin (h : P1 c all N W) (hp : Plan c all) {g : Nat} (hg : g < c.reps.length) {t : Tx} (ht : t ∈ all) (A B : Option Addr) (ca cb : Nat) (hN : N < 1000) : P1 c all (N + 1) (applyW c W g (beginC t A B ca cb)) ∧ ((g : Int) ∈ groupsT c t → Begun ((applyW c W g (beginC t A B ca cb)).m g) (idT t)) ∧ ∀ x : Nat, x < c.reps.length → Keep (W.m x) ((applyW c W g (beginC t A B ca cb)).m x) := by
  obtain ⟨k, G, h1, h2, h3⟩ := h.ex
  have hF := beginC_formed (A := A) (B := B) (ca := ca) (cb := cb) (hp.f t ht)
  obtain ⟨G', hS⟩ := apply_begin (h3.loc g hg) (h3.mok g hg) hp.j ht (hp.f t ht) (u := k + 1) (fun x i s e => by have := h3.ob x i s e; omega) (by have := h3.ck g hg; omega) A B ca cb
  refine ⟨⟨⟨k + 1, G', by omega, h2.begin hg ht A B ca cb, h3.step hp.f hg hF hS (by omega)⟩, cnt_le h.cn hg⟩, fun hgg => ?_, fun x hx => keepW h3 hx _⟩
  show Begun (if g = g then applyM c g (W.m g) (beginC t A B ca cb) else _) _
  rw [if_pos rfl, applyM, if_pos hF]
  have hA : applyA c g (W.m g) (beginC t A B ca cb) = beginM c g (W.m g) t := if_pos (show (1 : Int) = 1 from rfl)
  rw [hA]
  have hb := begin_begun (h3.mok g hg) (hp.f t ht) (by have := h3.ck g hg; show _ < 4611686018427387904; omega) hgg
  exact hb.keep (adv_keep _ (begin_okM (h3.mok g hg) (hp.f t ht)))
theorem P1.heard (h : P1 c all N W) (hp : Plan c all) {g : Nat} (hg : g < c.reps.length) {a : CmdV} (ha : a ∈ W.way g) (hN : N < 1000) : P1 c all (N + 1) (applyW c W g a) := by
  obtain ⟨k, G, h1, h2, h3⟩ := h.ex
  have hM := h3.msg g hg a ha
  obtain ⟨G', hS⟩ := apply_heard (h3.loc g hg) (h3.mok g hg) hp.j hM.f (by rcases hM.x with e | e; exact .inl e.1; exact .inr e.1) h3.ob (h3.ck g hg) (fun e => by rcases hM.x with q | q; exact q.2; omega) (fun e => by rcases hM.x with q | q; exact absurd q.1 e; exact q.2)
  exact ⟨⟨k, G', by omega, h2.heard hg ha, h3.step (d := 0) hp.f hg hM.f hS (by omega)⟩, cnt_le h.cn hg⟩
/-- The turns: p tells how much was taken in. -/
structure P3 (c : Cfg) (all : List Tx) (τ : Nat) (p : Nat → Nat) (W : Wd) : Prop where
  ex : ∃ k G, k ≤ 156 ∧ Reach c all k W ∧ WInv c all k W G ∧ ∀ h : Nat, h < c.reps.length → p h < (W.way h).length → (W.way h).length - p h + nvTo all G c.reps.length ≤ fut c.reps.length h τ
  le : ∀ h : Nat, h < c.reps.length → p h ≤ (W.way h).length
  ab : ∀ h : Nat, h < c.reps.length → ∀ j, j < p h → ∀ a, (W.way h)[j]? = some a → Absd (W.m h) a
  bg : ∀ g : Nat, g < c.reps.length → ∀ t ∈ all, (g : Int) ∈ groupsT c t → Begun (W.m g) (idT t)
  cn : ∀ h : Nat, h < c.reps.length → W.cnt h ≤ 156 + p h
theorem WInv.few (h3 : WInv c all k W G) (hp : Plan c all) (h1 : k ≤ 156) (h : Nat) : (W.way h).length + nvTo all G c.reps.length ≤ 368 := by
  have := h3.len h
  have hr := (reps_four hp.c).2
  have := Nat.mul_le_mul hp.l hr
  omega
theorem P3.few (h : P3 c all τ p W) (hp : Plan c all) (x : Nat) : (W.way x).length ≤ 368 := by
  obtain ⟨k, G, h1, _, h3, _⟩ := h.ex
  have := h3.few hp h1 x
  omega
theorem P1.few (h : P1 c all N W) (hp : Plan c all) (hN : N ≤ 156) (x : Nat) : (W.way x).length ≤ 368 := by
  obtain ⟨k, G, h1, _, h3⟩ := h.ex
  have := h3.few hp (Nat.le_trans h1 hN) x
  omega
theorem P3.start (h : P1 c all 156 W) (hp : Plan c all) (hb : ∀ g : Nat, g < c.reps.length → ∀ t ∈ all, (g : Int) ∈ groupsT c t → Begun (W.m g) (idT t)) : P3 c all 0 (fun _ => 0) W := by
  obtain ⟨k, G, h1, h2, h3⟩ := h.ex
  refine ⟨⟨k, G, h1, h2, h3, fun x hx _ => ?_⟩, fun _ _ => Nat.zero_le _, fun _ _ j hj => absurd hj (Nat.not_lt_zero _), hb, h.cn⟩
  have := h3.few hp h1 x
  have hr := reps_four hp.c
  have := fut_start hr.1 hr.2 hx
  omega
theorem P3.idle (h : P3 c all τ p W) (hp : Plan c all) (hi : p (τ % c.reps.length) = (W.way (τ % c.reps.length)).length) : P3 c all (τ + 1) p W := by
  obtain ⟨k, G, h1, h2, h3, h4⟩ := h.ex
  have hr := reps_four hp.c
  refine { h with ex := ⟨k, G, h1, h2, h3, fun x hx hl => ?_⟩ }
  rw [fut_other hr.1 hr.2 hx (fun e => by rw [e] at hl; omega)]
  exact h4 x hx hl
theorem P3.take (h : P3 c all τ p W) (hp : Plan c all) (ht : τ < 2000) {g : Nat} (hgt : g = τ % c.reps.length) (hl : p g < (W.way g).length) {a : CmdV} (ha : (W.way g)[p g]? = some a) : P3 c all (τ + 1) (fun x => if x = g then p g + 1 else p x) (applyW c W g a) := by
  obtain ⟨k, G, h1, h2, h3, h4⟩ := h.ex
  have hr := reps_four hp.c
  have hg : g < c.reps.length := by rw [hgt]; exact Nat.mod_lt _ (by omega)
  have hmem : a ∈ W.way g := List.mem_of_getElem? ha
  have hM := h3.msg g hg a hmem
  have hk23 : a.k = 2 ∨ a.k = 3 := by rcases hM.x with e | e; exact .inl e.1; exact .inr e.1
  obtain ⟨G', hS⟩ := apply_heard (h3.loc g hg) (h3.mok g hg) hp.j hM.f hk23 h3.ob (h3.ck g hg) (fun e => by rcases hM.x with q | q; exact q.2; omega) (fun e => by rcases hM.x with q | q; exact absurd q.1 e; exact q.2)
  have hW' := h3.step (d := 0) hp.f hg hM.f hS (by omega)
  have hkeep : ∀ x : Nat, x < c.reps.length → Keep (W.m x) ((applyW c W g a).m x) := fun x hx => keepW h3 hx a
  have hwE : ∀ x, (applyW c W g a).way x = W.way x ++ (toL x (applyO c g (W.m g) a)).map (msgC g) := fun _ => rfl
  have habs : Absd ((applyW c W g a).m g) a := by
    obtain ⟨t, ht1, ht2, ht3, ht4⟩ := hM.t
    show Absd (if g = g then applyM c g (W.m g) a else _) a
    have hA : applyA c g (W.m g) a = heardM g (W.m g) a.k ⟨a.is, a.iq⟩ a.g a.st a.y := by rw [applyA, if_neg (by rcases hk23 with e | e <;> omega), if_pos hk23]
    have hO := cmdOK_of hM.f
    have hst : a.st < 18446744073709551616 := by have := hO.st hk23; omega
    rw [if_pos rfl, applyM, if_pos hM.f, hA]
    refine Absd.keep ?_ (adv_keep _ (heard_ok (h3.mok g hg) a.k ⟨a.is, a.iq⟩ a.g hst a.y))
    have := heard_abs (h3.loc g hg) (h3.mok g hg) hp.j ht1 (k := a.k) (h := a.g) (s := a.st) (y := a.y) (a := a) ht4 hM.ne (h.bg g hg t ht1 ht3) (fun e => by
      rcases hM.x with q | q
      · have := h3.ob _ _ _ q.2
        exact ⟨this.1, by show _ ≤ 4611686018427387904; omega⟩
      · omega) ⟨rfl, by rw [ht2], by rw [ht2], rfl⟩
    rw [ht2] at this
    exact this
  refine ⟨⟨k, G', h1, h2.heard hg hmem, hW', fun x hx hl2 => ?_⟩, fun x hx => ?_, fun x hx j hj b hb => ?_, fun x hx t ht1 ht2 => (h.bg x hx t ht1 ht2).keep (hkeep x hx), fun x hx => ?_⟩
  · have hlen := way_len h3 hg hS x
    have hD := h4 g hg hl
    have hf1 := fut_same hr.1 hr.2 ht
    rw [← hgt] at hf1
    by_cases e : x = g
    · subst e
      simp only [if_pos] at hl2 ⊢
      omega
    · simp only [if_neg e] at hl2 ⊢
      by_cases hlx : p x < (W.way x).length
      · have hDx := h4 x hx hlx
        rw [fut_other hr.1 hr.2 hx (fun z => e (z.trans hgt.symm))]
        omega
      · have := fut_round hr.1 hr.2 hx ht
        rw [← hgt] at this
        have := h.le x hx
        have hlg := way_len h3 hg hS g
        omega
  · rw [hwE, List.length_append]
    have := h.le x hx
    by_cases e : x = g
    · subst e
      show (if x = x then p x + 1 else _) ≤ _
      rw [if_pos rfl]; omega
    · show (if x = g then _ else p x) ≤ _
      rw [if_neg e]; omega
  · have hj' : j < if x = g then p g + 1 else p x := hj
    rw [hwE] at hb
    have hlx := h.le x hx
    by_cases e : x = g
    · subst e
      rw [if_pos rfl] at hj'
      rw [List.getElem?_append_left (by omega)] at hb
      by_cases ej : j = p x
      · rw [ej, ha] at hb; cases hb; exact habs
      · exact (h.ab x hx j (by omega) b hb).keep (hkeep x hx)
    · rw [if_neg e] at hj'
      rw [List.getElem?_append_left (by omega)] at hb
      exact (h.ab x hx j hj' b hb).keep (hkeep x hx)
  · show (if x = g then W.cnt g + 1 else W.cnt x) ≤ 156 + if x = g then p g + 1 else p x
    by_cases e : x = g
    · rw [if_pos e, if_pos e]; have := h.cn g hg; omega
    · rw [if_neg e, if_neg e]; exact h.cn x hx
/-- The end of a run. -/
structure End17 (c : Cfg) (all : List Tx) (W : Wd) : Prop where
  ex : ∃ k G, k ≤ 156 ∧ Reach c all k W ∧ WInv c all k W G
  fin : Fin17 c all W
  cn : ∀ h : Nat, h < c.reps.length → W.cnt h ≤ 524
theorem P3.end (h : P3 c all 2000 p W) (hp : Plan c all) : End17 c all W := by
  obtain ⟨k, G, h1, h2, h3, h4⟩ := h.ex
  have hall : ∀ x : Nat, x < c.reps.length → (W.way x).length ≤ p x := fun x hx => by
    apply Classical.byContradiction
    intro hn
    have := h4 x hx (by omega)
    rw [fut_end] at this
    omega
  refine ⟨⟨k, G, h1, h2, h3⟩, ⟨h.bg, fun x hx a ha => ?_⟩, fun x hx => ?_⟩
  · obtain ⟨j, hj, rfl⟩ := List.mem_iff_getElem.1 ha
    exact h.ab x hx j (by have := hall x hx; omega) _ (List.getElem?_eq_getElem hj)
  · have := h.cn x hx
    have := h.le x hx
    have := h.few hp x
    omega
theorem End17.agree (h : End17 c all W) (hp : Plan c all) {t : Tx} (ht : t ∈ all) : ∃ y s, ∀ x : Nat, (x : Int) ∈ groupsT c t → getM (W.m x).dc (idT t) = some (y, s) := by
  obtain ⟨k, G, _, _, h3⟩ := h.ex
  exact agree17 h3 h.fin hp.c hp.j ht
end
end Go.Proofs.YtcldpmkhpmlcbaaGreatDoor
