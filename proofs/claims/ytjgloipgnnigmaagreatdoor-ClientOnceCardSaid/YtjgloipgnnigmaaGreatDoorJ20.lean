/- What the three laws of layer 21 share: both clients at the law's head, an event's cells. -/
import Derived.Test.YtjgloipgnnigmaaGreatDoorLawAct21
import Derived.Test.YtjgloipgnnigmaaGreatDoorRcRd21
set_option linter.unusedVariables false
set_option linter.unusedSimpArgs false
namespace Go.Proofs.YtjgloipgnnigmaaGreatDoor
open Go.RowKit Go.Shelf Go.Sort

theorem ev_cs {w : World} {g o : Nat} {e : EvD} (h : CellRow w ⟨g, o, none⟩ e.vs) :
    w.cell? ⟨g, o, none⟩ = some (.int .i64 e.kind) ∧ w.cell? ⟨g, o + 1, none⟩ = some (.int .i64 e.ids) ∧ w.cell? ⟨g, o + 1 + 1, none⟩ = some (.int .i64 e.idq) ∧ w.cell? ⟨g, o + 3, none⟩ = some (.string e.key) ∧ w.cell? ⟨g, o + 7, none⟩ = some (.int .u64 (e.ver : Int)) ∧ w.cell? ⟨g, o + 8, none⟩ = some (.bool e.yes) ∧ w.cell? ⟨g, o + 9, none⟩ = some (.int .u64 (e.stamp : Int)) ∧ w.cell? ⟨g, o + 10, none⟩ = some (.int .i64 e.err) := by
  refine ⟨?_, ?_, ?_, ?_, ?_, ?_, ?_, ?_⟩
  · exact h 0 _ rfl
  · exact h 1 _ rfl
  · exact h 2 _ rfl
  · exact h 3 _ rfl
  · exact h 7 _ rfl
  · exact h 8 _ rfl
  · exact h 9 _ rfl
  · exact h 10 _ rfl
section
variable {w0 : Gap} {w : World} {B p q n m T U : Nat} {K : CliK} {x : CliD}
theorem two_floor (h : TwoAt w0 w B p q K n m x T U) : Calls Tryz.prog 19 #[.pointer (some ⟨p, 0, none⟩)] w fun e w' => e = .returned (.int .u64 (x.floor : Int)) ∧ w = w' := by
  obtain ⟨O, O', y, hO, _⟩ := h.two
  exact floor_any hO
theorem two_state (h : TwoAt w0 w B p q K n m x T U) : Calls Tryz.prog 18 #[.pointer (some ⟨p, 0, none⟩)] w fun e w' => e = .returned (.int .i64 (x.state : Int)) ∧ w = w' := by
  obtain ⟨O, O', y, hO, _⟩ := h.two
  exact state_any hO
/-- Both clients, hidden. -/
def TwoX (w0 : Gap) (w : World) (B p q : Nat) (K : CliK) (n : Nat) (x : CliD) : Prop := ∃ T U, TwoAt w0 w B p q K n n x T U
theorem TwoX.later {w' : World} (h : TwoX w0 w B p q K n x) (hb : Below w.heap.size w w') : TwoX w0 w' B p q K n x := by
  obtain ⟨T, U, h⟩ := h
  exact ⟨T, U, h.later hb⟩
theorem TwoX.floor (h : TwoX w0 w B p q K n x) : Calls Tryz.prog 19 #[.pointer (some ⟨p, 0, none⟩)] w fun e w' => e = .returned (.int .u64 (x.floor : Int)) ∧ w = w' := by
  obtain ⟨T, U, h⟩ := h
  exact two_floor h
theorem TwoX.state (h : TwoX w0 w B p q K n x) : Calls Tryz.prog 18 #[.pointer (some ⟨p, 0, none⟩)] w fun e w' => e = .returned (.int .i64 (x.state : Int)) ∧ w = w' := by
  obtain ⟨T, U, h⟩ := h
  exact two_state h
theorem TwoX.txn (h : TwoX w0 w B p q K n x) : Calls Tryz.prog 24 #[.pointer (some ⟨p, 0, none⟩)] w (TxnPost w (txnD K.ses x)) := by
  obtain ⟨T, U, h⟩ := h
  obtain ⟨O, O', y, hO, _⟩ := h.two
  exact txn_any hO h.sz h.inv.rn h.inv.wn
theorem TwoX.b (h : TwoX w0 w B p q K n x) : Below B w0.w0 w := by
  obtain ⟨T, U, h⟩ := h
  exact h.b
theorem TwoX.inv (h : TwoX w0 w B p q K n x) : CliInv K.c (6 * n) x := by
  obtain ⟨T, U, h⟩ := h
  exact h.inv
/-- An act, and its events as a slice. -/
def ActQ (w0 : Gap) (w : World) (B p q : Nat) (K : CliK) (n : Nat) (x : CliD) (e : Ending) (w' : World) : Prop :=
  ∃ (bb : Bool) (A : Option Addr) (cap : Nat) (y : CliD) (ev : List EvD), e = .returned (.tuple #[.bool bb, .slice A ev.length cap]) ∧ (∀ k, k < ev.length → ∃ g, A = some ⟨g, 0, none⟩ ∧ CellRow w' ⟨g, k * 11, none⟩ (ev.getD k noEv).vs) ∧ ev.length ≤ 1000 ∧ TwoX w0 w' B p q K (n + 1) y ∧ ActIs K x y ev ∧ (∀ a, A = some a → w.heap.size ≤ a.block ∧ a.block < w'.heap.size)
theorem TwoX.act (h : TwoX w0 w B p q K n x) (hn : n ≤ 1000) (o : OpX) (ho : ∀ wz, Below B w wz → OpAt wz o) (h10 : o.keys.length ≤ 10) :
    Calls Tryz.prog 23 #[.pointer (some ⟨p, 0, none⟩), .pointer (some ⟨q, 0, none⟩), .agg o.vs] w (ActQ w0 w B p q K n x) := by
  obtain ⟨T, U, h⟩ := h
  refine (act_any h hn hn o ho h10).mono fun e w' ⟨bb, v, y, ev, he, hr, hl, hS, hb, ha⟩ => ?_
  obtain ⟨A, cap, rfl, H⟩ := own_el (f := fun e : EvD => e.vs.toList) (fun _ => rfl) noEv hr
  refine ⟨bb, A, cap, y, ev, he, fun k hk => ?_, hl, hS, ha, fun a ea => by subst ea; exact hr.lt a.block rfl⟩
  obtain ⟨g, e1, e2⟩ := H k hk
  rw [Nat.zero_add] at e2
  exact ⟨g, e1, e2⟩
theorem TwoX.keep {bs sz k : Nat} {e : TypeId} {v : Value} {xs : List Value} (h : TwoX w0 w B p q K n x) (hr : w0.wg.ownsRow bs e sz v k xs) (hG : ∀ g, v.ownBlock = some g → w0.G g) : w.ownsRow bs e sz v k xs := by
  obtain ⟨T, U, h⟩ := h
  exact h.g.row hr (fun g hg e => e (hG g hg))
theorem TwoX.regap (h : TwoX w0 w B p q K n x) {G' : Nat → Prop} {w' : World} (ho : Out w0.G w w') (hB : ∀ k, w0.G k → B ≤ k) (hG' : ∀ k, G' k → (w0.G k ∨ w.heap.size ≤ k) ∧ k < w'.heap.size) : TwoX ⟨w0.w0, G', w'⟩ w' B p q K n x := by
  obtain ⟨T, U, h⟩ := h
  exact ⟨T, U, h.regap ho hB hG'⟩
end
end Go.Proofs.YtjgloipgnnigmaaGreatDoor
/- ClientRight's frames: the row of reads that the law keeps, beside both clients. -/
namespace Go.Proofs.YtjgloipgnnigmaaGreatDoor
open Go.RowKit Go.Shelf Go.Sort

theorem newR_take1 {ev : List EvD} {i : Nat} (h : i < ev.length) (hk : (ev.getD i noEv).kind = 1) : newR (ev.take (i + 1)) = newR (ev.take i) ++ [⟨(ev.getD i noEv).key, (ev.getD i noEv).ver⟩] := by
  rw [getD_eq ev noEv h] at hk ⊢
  rw [List.take_succ_eq_append_getElem h, newR, List.filter_append, List.map_append, newR]
  simp [hk]
theorem newR_take0 {ev : List EvD} {i : Nat} (h : i < ev.length) (hk : (ev.getD i noEv).kind ≠ 1) : newR (ev.take (i + 1)) = newR (ev.take i) := by
  rw [getD_eq ev noEv h] at hk
  rw [List.take_succ_eq_append_getElem h, newR, List.filter_append, List.map_append, newR]
  simp [hk]
theorem newR_le (ev : List EvD) : (newR ev).length ≤ ev.length := by
  rw [newR, List.length_map]; exact List.length_filter_le _ _
theorem eqlRd (s t : ByteArray) (m n : Nat) (w : World) : (binOp .eql 75 (.agg #[.string s, .int .u64 m]) (.agg #[.string t, .int .u64 n])).run Tryz.prog w = .ok (.bool (rdEq ⟨s, m⟩ ⟨t, n⟩)) w := by
  unfold rdEq
  simp [go_sem]
  by_cases h1 : s.toList = t.toList <;> by_cases h2 : (m : Int) = (n : Int) <;> simp [h1, h2]
theorem rdEq_self (a : Rd) : rdEq a a = true := by simp [rdEq]
theorem zero_rdt (w : World) : (zeroValue 75).run Tryz.prog w = .ok (.agg #[.string ByteArray.empty, .int .u64 0]) w := by kernel_rfl
theorem info_rdt (n : Nat) (h : n = 2) : (Tryz.prog.info? 75).map (·.size) = some n := by subst h; kernel_rfl
theorem one_rdt (s : ByteArray) (m : Int) : ∀ u ∈ ([.string s, .int .u64 m] : List Value), u.oneCell' = true := fun u hu => by
  simp at hu; rcases hu with rfl | rfl <;> rfl
/-- While the events are gone through. -/
def RIn (w2 wj : World) (p q : Nat) (K : CliK) (n : Nat) (y : CliD) (v : Value) (rd : List Rd) (A4 : Option Addr) (ev : List EvD) : Prop :=
  wj.ownsRow w2.heap.size 75 2 v rd.length (rdCells rd) ∧ TwoX ⟨w2, fun g => v.ownBlock = some g, wj⟩ wj w2.heap.size p q K n y ∧ (∀ k, k < ev.length → ∃ g, A4 = some ⟨g, 0, none⟩ ∧ CellRow wj ⟨g, k * 11, none⟩ (ev.getD k noEv).vs) ∧ (∀ a, A4 = some a → v.ownBlock ≠ some a.block ∧ a.block < wj.heap.size)
/-- At a round's head. -/
def RSt (w2 wr : World) (p q : Nat) (K : CliK) (n : Nat) (x : CliD) (v : Value) (rd : List Rd) : Prop :=
  wr.ownsRow w2.heap.size 75 2 v rd.length (rdCells rd) ∧ TwoX ⟨w2, fun g => v.ownBlock = some g, wr⟩ wr w2.heap.size p q K n x ∧ (x.state = 1 ∨ x.state = 2 → x.rds.Perm rd) ∧ rd.length ≤ n
section
variable {w2 w4 wz wj w8 w9 : World} {p q n : Nat} {K : CliK} {x y : CliD} {v v9 : Value} {rd : List Rd} {r : Rd} {A4 : Option Addr} {ev : List EvD}
theorem RIn.later {w' : World} (h : RIn w2 wj p q K n y v rd A4 ev) (hb : Below wj.heap.size wj w') : RIn w2 w' p q K n y v rd A4 ev := by
  obtain ⟨h1, h2, h3, h4⟩ := h
  refine ⟨own_keep h1 hb, h2.regap (Out.of_below hb) (fun k hk => (h1.lt k hk).1) (fun k hk => ⟨.inl hk, Nat.lt_of_lt_of_le (h1.lt k hk).2 hb.size⟩), fun k hk => ?_, fun a ea => ⟨(h4 a ea).1, Nat.lt_of_lt_of_le (h4 a ea).2 hb.size⟩⟩
  obtain ⟨g, e, hr⟩ := h3 k hk
  exact ⟨g, e, hr.later hb⟩
theorem RIn.grow (h : RIn w2 w8 p q K n y v rd A4 ev) (hO9 : w9.ownsRow w2.heap.size 75 2 v9 (rd.length + 1) (rdCells rd ++ [.string r.key, .int .u64 r.ver])) (hg : w8.grownBy w9 v.ownBlock) (hv : v9.ownBlock = v.ownBlock ∨ v9.ownBlock = some w8.heap.size) :
    RIn w2 w9 p q K n y v9 (rd ++ [r]) A4 ev := by
  obtain ⟨h1, h2, h3, h4⟩ := h
  have ho : Out (fun k => v.ownBlock = some k) w8 w9 := Out.of_grown hg (fun k e => e)
  refine ⟨by rw [rdCells_snoc, List.length_append]; exact hO9, h2.regap ho (fun k hk => (h1.lt k hk).1) (fun k hk => ⟨?_, (hO9.lt k hk).2⟩), fun k hk => ?_, fun a ea => ⟨fun e => ?_, Nat.lt_of_lt_of_le (h4 a ea).2 ho.size⟩⟩
  · rcases hv with e | e
    · exact .inl (e ▸ hk)
    · rw [hk] at e
      cases e
      exact .inr (Nat.le_refl _)
  · obtain ⟨g, e, hr⟩ := h3 k hk
    exact ⟨g, e, fun j u hu => by
      have hc := hr j u hu
      rw [Go.WideShapes.add_plain] at hc ⊢
      exact ho.cell hc (h4 _ e).1⟩
  · rcases hv with e1 | e1
    · exact (h4 a ea).1 (e1 ▸ e)
    · rw [e] at e1
      have := (h4 a ea).2
      injection e1 with e2
      omega
theorem RSt.start (h : TwoX ⟨w2, fun _ => False, wz⟩ wz w2.heap.size p q K 0 x) (hs : x.state = 0) : RSt w2 wz p q K 0 x (.slice none 0 0) [] :=
  ⟨own_nil _ _ _ _, h.regap (Out.refl _ _) (fun _ h => h.elim) (fun k hk => by cases hk), fun e => (by omega), Nat.le_refl _⟩
/-- Behind an act that begins no transaction. -/
theorem RSt.on (h : RSt w2 wz p q K n x v rd) (h4 : TwoX ⟨w2, fun g => v.ownBlock = some g, wz⟩ w4 w2.heap.size p q K (n + 1) y) (hE : ∀ k, k < ev.length → ∃ g, A4 = some ⟨g, 0, none⟩ ∧ CellRow w4 ⟨g, k * 11, none⟩ (ev.getD k noEv).vs)
    (hfr : ∀ a, A4 = some a → wz.heap.size ≤ a.block ∧ a.block < w4.heap.size) : RIn w2 w4 p q K (n + 1) y v rd A4 ev := by
  obtain ⟨h1, h2, h3, h5⟩ := h
  have h1' := h4.keep h1 (fun g hg => hg)
  refine ⟨h1', h4.regap (Out.refl _ _) (fun k hk => (h1.lt k hk).1) (fun k hk => ⟨.inl hk, (h1'.lt k hk).2⟩), hE, fun a ea => ⟨fun e => ?_, (hfr a ea).2⟩⟩
  have := (h1.lt _ e).2
  have := (hfr a ea).1
  omega
/-- Behind an act that begins one: none is read as yet. -/
theorem RSt.anew (h : RSt w2 wz p q K n x v rd) (h4 : TwoX ⟨w2, fun g => v.ownBlock = some g, wz⟩ w4 w2.heap.size p q K (n + 1) y) (hE : ∀ k, k < ev.length → ∃ g, A4 = some ⟨g, 0, none⟩ ∧ CellRow w4 ⟨g, k * 11, none⟩ (ev.getD k noEv).vs)
    (hfr : ∀ a, A4 = some a → wz.heap.size ≤ a.block ∧ a.block < w4.heap.size) : RIn w2 w4 p q K (n + 1) y (.slice none 0 0) [] A4 ev := by
  obtain ⟨h1, h2, h3, h5⟩ := h
  exact ⟨own_nil _ _ _ _, h4.regap (Out.refl _ _) (fun k hk => (h1.lt k hk).1) (fun k hk => by cases hk), hE, fun a ea => ⟨fun e => (by cases e), (hfr a ea).2⟩⟩
/-- At the round's end. -/
theorem RIn.end_ (h : RIn w2 wj p q K n y v rd A4 ev) (hp : y.state = 1 ∨ y.state = 2 → y.rds.Perm rd) (hn : rd.length ≤ n) : RSt w2 wj p q K n y v rd := ⟨h.1, h.2.1, hp, hn⟩
/-- The ways of an act, as ClientRight sees them. -/
theorem right_ways {N : Nat} (ha : ActIs K x y ev) (hi : CliInv K.c N x) (hp : x.state = 1 ∨ x.state = 2 → x.rds.Perm rd) :
    (x.state = 0 ∧ y.state = 1 ∧ (y.state = 1 ∨ y.state = 2 → y.rds.Perm ([] ++ newR ev))) ∨
    ((y.state ≠ 1 ∨ (y.state = 1 ∧ x.state ≠ 0)) ∧ (y.state = 1 ∨ y.state = 2 → y.rds.Perm (rd ++ newR ev))) := by
  rcases act_begun ha hi with ⟨b1, b2, b3, b4, b5⟩ | ⟨b1, b2, b3⟩
  · exact .inl ⟨b1, b2, fun _ => by subst b4; rw [b5]; exact List.Perm.refl _⟩
  · refine .inr ⟨?_, fun hs => ?_⟩
    · by_cases q : y.state = 1
      · exact .inr ⟨q, by have := b2 q; omega⟩
      · exact .inl q
    · exact (act_reads ha hi b1 hs).trans ((hp (hs.elim (fun q => .inl (b2 q)) b3)).append (List.Perm.refl _))
/-- While reads are looked for in the transaction's. -/
def RPk (w2 wk : World) (p q : Nat) (K : CliK) (n : Nat) (y : CliD) (A9 : Option Addr) (cap9 : Nat) (rd3 : List Rd) (A4 : Option Addr) (ev : List EvD) (A5 : Option Addr) (t : Tx) (ka5 g5 : Nat) : Prop :=
  RIn w2 wk p q K n y (.slice A9 rd3.length cap9) rd3 A4 ev ∧ RdsAt wk A9 rd3 ∧ RdsAt wk A5 t.rds ∧ wk.cell? ⟨g5, 2, none⟩ = some (.slice A5 t.rds.length ka5)
theorem RPk.mk' {wk : World} {A9 A5 : Option Addr} {cap9 ka5 g5 : Nat} {rd3 : List Rd} {t : Tx} (h1 : RIn w2 wk p q K n y (.slice A9 rd3.length cap9) rd3 A4 ev) (h2 : RdsAt wk A9 rd3) (h3 : RdsAt wk A5 t.rds) (h4 : wk.cell? ⟨g5, 2, none⟩ = some (.slice A5 t.rds.length ka5)) :
    RPk w2 wk p q K n y A9 cap9 rd3 A4 ev A5 t ka5 g5 := ⟨h1, h2, h3, h4⟩
theorem RPk.later {wk w' : World} {A9 A5 : Option Addr} {cap9 ka5 g5 : Nat} {rd3 : List Rd} {t : Tx} (h : RPk w2 wk p q K n y A9 cap9 rd3 A4 ev A5 t ka5 g5) (hb : Below wk.heap.size wk w') : RPk w2 w' p q K n y A9 cap9 rd3 A4 ev A5 t ka5 g5 :=
  ⟨h.1.later hb, h.2.1.later hb, h.2.2.1.later hb, keep hb h.2.2.2⟩
theorem right_formed {N : Nat} (hi : CliInv K.c N y) (h1 : 1 ≤ K.ses) (h8 : K.ses ≤ 8) (h2 : y.state = 2) : formedT (txnD K.ses y) = true :=
  txn_formed hi K.ses h1 h8 (inTxn_2 h2) (hi.com h2).2
theorem txnD_in {ses : Int} (h : y.state = 1 ∨ y.state = 2) : (txnD ses y).rds = y.rds := by
  rw [txnD, if_pos (by rcases h with h | h; exact inTxn_1 h; exact inTxn_2 h)]
end
end Go.Proofs.YtjgloipgnnigmaaGreatDoor
