/- advance's turn: what each step leaves. -/
import Derived.Test.YtcldpmkhpmlcbaaGreatDoorJ18
import Derived.Test.YtcldpmkhpmlcbaaGreatDoorVote16
import Derived.Test.YtcldpmkhpmlcbaaGreatDoorJ19
import Derived.Test.YtcldpmkhpmlcbaaGreatDoorJ15
import Derived.Test.YtcldpmkhpmlcbaaGreatDoorJ12
import Derived.Test.YtcldpmkhpmlcbaaGreatDoorJ11
set_option linter.unusedVariables false
set_option linter.unusedSimpArgs false
namespace Go.Proofs.YtcldpmkhpmlcbaaGreatDoor
open Go.RowKit Go.Shelf Go.Maps

/-- How often the maps were stored into, in numbers. -/
structure MachC (n nq last : Nat) (E : MachE) : Prop where
  nw : E.nw ≤ n
  nd : E.nd ≤ nq
  ns : E.ns ≤ n
  nv : E.nv ≤ n
  nN : E.N ≤ 6 * last
  nl : E.nl ≤ n
theorem MachN.c {n : Nat} {x : MachD} {E : MachE} (h : MachN n x E) : MachC n (n - x.q.l.length) x.s.last E := ⟨h.nw, by have := h.nd; omega, h.ns, h.nv, h.nN, h.nl⟩
theorem MachC.n {n nq : Nat} {x : MachD} {E : MachE} (h : MachC n nq x.s.last E) (hq : nq + x.q.l.length ≤ n) : MachN n x E := ⟨h.nw, by have := h.nd; omega, h.ns, h.nv, h.nN, h.nl⟩
structure AdvIn (w wr : World) (bx B p : Nat) (c : Cfg) (g : Int) (n nq : Nat) (lab : Nat → Lab) (i : IdD) (t : Tx) (op qp tp : Nat) (A1 A2 : Option Addr) (a1 a2 : Nat) (y : MachD) (os : List OutD) (lab' : Nat → Lab) (E' : MachE) (ov' : Value) : Prop where
  m : MachIn wr B p c g lab' y E' ov'
  o : OutRow wr B lab' ov' os
  st : GrStep w wr lab lab'
  cn : MachC n nq y.s.last E'
  pq : E'.pp i = op
  qq : E'.qp = qp
  lb : lab' op = .one i
  lx : lab' bx = .no
  lxw : bx < wr.heap.size
  x0 : wr.cell? ⟨bx, 0, none⟩ = some (.int .i64 i.ses)
  x1 : wr.cell? ⟨bx, 1, none⟩ = some (.int .i64 i.seq)
  c0 : wr.cell? ⟨op, 0, none⟩ = some (.int .i64 t.ses)
  c1 : wr.cell? ⟨op, 1, none⟩ = some (.int .i64 t.seq)
  c2 : wr.cell? ⟨op, 2, none⟩ = some (.slice A1 t.rds.length a1)
  c3 : wr.cell? ⟨op, 3, none⟩ = some (.slice A2 t.wrs.length a2)
  c5 : wr.cell? ⟨op, 5, none⟩ = some (.pointer (some ⟨tp, 0, none⟩))
  tx : TxAt wr t A1 A2
  oA : OldL B t.rds.length (fun k => lab' k = .one i) A1
  oA' : OldL B t.wrs.length (fun k => lab' k = .one i) A2
  tb : TabB wr B
def AdvLp (w wr : World) (bx B p : Nat) (c : Cfg) (g : Int) (n nq : Nat) (lab : Nat → Lab) (i : IdD) (t : Tx) (op qp tp : Nat) (A1 A2 : Option Addr) (a1 a2 : Nat) (y : MachD) (os : List OutD) : Prop := ∃ lab' E' ov', AdvIn w wr bx B p c g n nq lab i t op qp tp A1 A2 a1 a2 y os lab' E' ov'
section
variable {w wr w' : World} {bx B p n nq : Nat} {c : Cfg} {g : Int} {lab lab' : Nat → Lab} {i : IdD} {t : Tx} {op qp tp : Nat} {A1 A2 : Option Addr} {a1 a2 : Nat} {y : MachD} {os : List OutD} {E' : MachE} {ov' : Value}
theorem AdvIn.later (h : AdvIn w wr bx B p c g n nq lab i t op qp tp A1 A2 a1 a2 y os lab' E' ov') (hb : Below wr.heap.size wr w') : AdvIn w w' bx B p c g n nq lab i t op qp tp A1 A2 a1 a2 y os lab' E' ov' :=
  { h with m := h.m.later hb, o := ⟨own_keep h.o.1 hb, h.o.2⟩, st := h.st.trans (GrStep.below hb), lxw := Nat.lt_of_lt_of_le h.lxw hb.size, x0 := keep hb h.x0, x1 := keep hb h.x1, c0 := keep hb h.c0, c1 := keep hb h.c1, c2 := keep hb h.c2, c3 := keep hb h.c3, c5 := keep hb h.c5, tx := h.tx.later hb, tb := h.tb.out (O := fun _ => False) (Out.of_below hb) (fun _ e => e.elim) }
theorem AdvLp.later (h : AdvLp w wr bx B p c g n nq lab i t op qp tp A1 A2 a1 a2 y os) (hb : Below wr.heap.size wr w') : AdvLp w w' bx B p c g n nq lab i t op qp tp A1 A2 a1 a2 y os := by
  obtain ⟨lab', E', ov', h⟩ := h
  exact ⟨lab', E', ov', h.later hb⟩
theorem AdvIn.turn (h : AdvIn w wr bx B p c g n nq lab i t op qp tp A1 A2 a1 a2 y os lab' E' ov') {O : Nat → Prop} {lab2 : Nat → Lab} (ho : Out O wr w') (hOB : ∀ k, O k → B ≤ k) (hop : ¬ O op) (hxO : ¬ O bx) (htx : TxAt w' t A1 A2) (hst : GrStep wr w' lab' lab2) {y' : MachD} {E2 : MachE} {ov2 : Value} {os2 : List OutD} (hm : MachIn w' B p c g lab2 y' E2 ov2) (hr : OutRow w' B lab2 ov2 os2) (hc : MachC n nq y'.s.last E2) (hp : E2.pp i = op) (hq : E2.qp = qp) :
    AdvIn w w' bx B p c g n nq lab i t op qp tp A1 A2 a1 a2 y' os2 lab2 E2 ov2 := by
  have hlt : ∀ k, lab' k ≠ .no → k < wr.heap.size := fun k hk => (h.m.lt k hk).2
  have hon : ∀ k, lab' k = .one i → lab2 k = .one i := fun k e => (hst.ext k (hlt k (by rw [e]; intro z; cases z))).trans e
  exact { m := hm, o := hr, st := h.st.trans hst, cn := hc, pq := hp, qq := hq, lb := (hst.ext op (hlt op (by rw [h.lb]; intro z; cases z))).trans h.lb, lx := (hst.ext bx h.lxw).trans h.lx, lxw := Nat.lt_of_lt_of_le h.lxw ho.size, x0 := ho.cell h.x0 hxO, x1 := ho.cell h.x1 hxO, c0 := ho.cell h.c0 hop, c1 := ho.cell h.c1 hop, c2 := ho.cell h.c2 hop, c3 := ho.cell h.c3 hop, c5 := ho.cell h.c5 hop, tx := htx, oA := h.oA.mono hon, oA' := h.oA'.mono hon, tb := h.tb.out ho hOB }
theorem AdvIn.txo (h : AdvIn w wr bx B p c g n nq lab i t op qp tp A1 A2 a1 a2 y os lab' E' ov') {O : Nat → Prop} (ho : Out O wr w') (hOB : ∀ k, O k → B ≤ k) (hO : ∀ k, O k → lab' k ≠ .one i) : TxAt w' t A1 A2 :=
  tx_out2 h.tx ho (h.oA.not hOB (fun k e ok => hO k ok e)) (h.oA'.not hOB (fun k e ok => hO k ok e))
/-- Where all that changes bears one label. -/
theorem AdvIn.turnL (h : AdvIn w wr bx B p c g n nq lab i t op qp tp A1 A2 a1 a2 y os lab' E' ov') {O : Nat → Prop} {l : Lab} (ho : Out O wr w') (hO : ∀ k, O k → lab' k = l) (hl : l ≠ .no) (hlo : l ≠ .out) (hop : ¬ O op) (htx : TxAt w' t A1 A2) {y' : MachD} {E2 : MachE} (hm : MachIn w' B p c g (relab lab' wr w' l) y' E2 ov') (hc : MachC n nq y'.s.last E2) (hp : E2.pp i = op) (hq : E2.qp = qp) :
    AdvIn w w' bx B p c g n nq lab i t op qp tp A1 A2 a1 a2 y' os (relab lab' wr w' l) E2 ov' :=
  h.turn ho (fun k e => (h.m.lt k (by rw [hO k e]; exact hl)).1) hop (fun e => hl ((hO _ e).symm.trans h.lx)) htx (GrStep.relab ho hO hl) hm (h.o.rest ho hO (fun k hk => (h.m.lt k hk).2) hlo) hc hp hq
theorem AdvIn.one (h : AdvIn w wr bx B p c g n nq lab i t op qp tp A1 A2 a1 a2 y os lab' E' ov') {O : Nat → Prop} {l : Lab} (hO : ∀ k, O k → lab' k = l) (hl : l ≠ .one i) : ¬ O op := fun e => hl ((hO _ e).symm.trans h.lb)
/-- Cells of the machine, the box and the one behind a step. -/
def Keeps (p bx op : Nat) (j0 : Nat → Prop) (wr w' : World) : Prop := ∀ b' j v, (b' = p ∧ j0 j ∨ b' = bx ∨ b' = op) → wr.cell? ⟨b', j, none⟩ = some v → w'.cell? ⟨b', j, none⟩ = some v
theorem AdvIn.keeps (h : AdvIn w wr bx B p c g n nq lab i t op qp tp A1 A2 a1 a2 y os lab' E' ov') {O : Nat → Prop} (ho : Out O wr w') (hp : ¬ O p) (hop : ¬ O op) (hx : ¬ O bx) : Keeps p bx op (fun _ => True) wr w' := fun b' j v hb' hv => ho.cell hv (fun e => by
  rcases hb' with ⟨rfl, _⟩ | rfl | rfl
  · exact hp e
  · exact hx e
  · exact hop e)
theorem AdvIn.keepsL (h : AdvIn w wr bx B p c g n nq lab i t op qp tp A1 A2 a1 a2 y os lab' E' ov') {O : Nat → Prop} {l : Lab} (ho : Out O wr w') (hO : ∀ k, O k → lab' k = l) (hl : l ≠ .no) (hm : l ≠ .m) (hop : ¬ O op) : Keeps p bx op (fun _ => True) wr w' :=
  h.keeps ho (fun e => hm ((hO _ e).symm.trans h.m.lm)) hop (fun e => hl ((hO _ e).symm.trans h.lx))
/-- q.Done. -/
theorem AdvLp.done (h : AdvLp w wr bx B p c g n nq lab i t op qp tp A1 A2 a1 a2 y os) (hq : QOK y.q) {s : Nat} (hn : nextQ y.q = some (i, s)) {wz : World} (hb : Below wr.heap.size wr wz) :
    Calls Tryz.prog 97 #[.pointer (some ⟨qp, 0, none⟩), .agg #[.int .i64 i.ses, .int .i64 i.seq]] wz fun e w' => e = .returned (.bool true) ∧ AdvLp w w' bx B p c g n nq lab i t op qp tp A1 A2 a1 a2 { y with q := doneQ y.q } os ∧ Keeps p bx op (fun _ => True) wz w' := by
  obtain ⟨lab', E', ov', h⟩ := h
  have hd := h.later hb
  obtain ⟨qv, qes, hQ⟩ := hd.m.q
  have hqq := h.qq
  rw [← hqq]
  refine (done15 hQ hq hn).mono ?_
  rintro e w2 ⟨rfl, hq2, ho2⟩
  rw [hqq]
  have hop := hd.one (O := fun k => lab' k = .q) (l := .q) (fun k e => e) (by intro z; cases z)
  exact ⟨rfl, ⟨_, E', ov', hd.turnL ho2 (l := .q) (fun k e => e) (by decide) (by decide) hop (hd.txo ho2 (fun k e => (hd.m.lt k (by rw [e]; decide)).1) (fun k e => by rw [e]; intro z; cases z)) (hd.m.setQ ho2 hq2) h.cn h.pq h.qq⟩, hd.keepsL ho2 (l := .q) (fun k e => e) (by decide) (by decide) hop⟩
/-- delete of one that waits. -/
theorem AdvLp.delW (h : AdvLp w wr bx B p c g n nq lab i t op qp tp A1 A2 a1 a2 y os) (hid : okId i) {mw : Nat} (h5 : wr.cell? ⟨p, 5, none⟩ = some (.map (some mw))) :
    ∃ w', (∀ ty, (Builtin.delete_ #[102, 34] ty #[.map (some mw), .agg #[.int .i64 i.ses, .int .i64 i.seq]]).run Tryz.prog wr.drew = .ok (.tuple #[]) w') ∧ AdvLp w w' bx B p c g n nq lab i t op qp tp A1 A2 a1 a2 { y with wt := delM y.wt i } os ∧ Keeps p bx op (fun _ => True) wr.drew w' := by
  obtain ⟨lab', E', ov', h⟩ := h
  obtain ⟨_, _, _, _, _, c5, _⟩ := h.m.cs
  rw [c5] at h5
  obtain rfl : E'.mw = mw := by injection h5 with h5; injection h5 with h5; injection h5
  have hd := h.later (below_drew (Below.refl wr.heap.size wr))
  obtain ⟨w2, hrun, hm2, ht2⟩ := MapH.del keyE_id17 hd.m.hw Tryz.underlying102 i hid 0
  have ho2 : Out (fun k => k = E'.mw) wr.drew w2 := Out.of_turned ht2
  have hl : ∀ k, k = E'.mw → lab' k = .mw := fun k e => by rw [e]; exact h.m.lmw
  have hop := hd.one hl (by intro z; cases z)
  exact ⟨w2, fun ty => hrun, ⟨_, _, ov', hd.turnL ho2 (l := .mw) hl (by decide) (by decide) hop (hd.txo ho2 (fun k e => (hd.m.lt k (by rw [hl k e]; decide)).1) (fun k e => by rw [hl k e]; intro z; cases z)) (hd.m.delOne ht2 hm2) { h.cn with } h.pq h.qq⟩, hd.keepsL ho2 hl (by decide) (by decide) hop⟩
/-- A decision. -/
theorem AdvLp.addD (h : AdvLp w wr bx B p c g n nq lab i t op qp tp A1 A2 a1 a2 y os) (hid : okId i) (hn : nq ≤ 2000) {md : Nat} (h6 : wr.cell? ⟨p, 6, none⟩ = some (.map (some md))) (yes : Bool) (s : Nat) :
    ∃ w', (Instr.mapUpdate 103 (.map (some md)) (.agg #[.int .i64 i.ses, .int .i64 i.seq]) (.agg #[.bool yes, .int .u64 (s : Int)])).run Tryz.prog wr.drew = .ok () w' ∧ AdvLp w w' bx B p c g n (nq + 1) lab i t op qp tp A1 A2 a1 a2 { y with dc := putM y.dc i (yes, s) } os ∧ Keeps p bx op (fun _ => True) wr.drew w' := by
  obtain ⟨lab', E', ov', h⟩ := h
  obtain ⟨_, _, _, _, _, _, c6, _⟩ := h.m.cs
  rw [c6] at h6
  obtain rfl : E'.md = md := by injection h6 with h6; injection h6 with h6; injection h6
  have hd := h.later (below_drew (Below.refl wr.heap.size wr))
  obtain ⟨w2, hrun, hm2, ht2⟩ := MapH.put keyE_id17 hd.m.hd Tryz.underlying103 (by have := h.cn.nd; unfold maxLen; omega) i hid (.agg #[.bool yes, .int .u64 (s : Int)])
  have ho2 : Out (fun k => k = E'.md) wr.drew w2 := Out.of_turned ht2
  have hl : ∀ k, k = E'.md → lab' k = .md := fun k e => by rw [e]; exact h.m.lmd
  have hop := hd.one hl (by intro z; cases z)
  have hd2 : AdvIn w wr.drew bx B p c g n (nq + 1) lab i t op qp tp A1 A2 a1 a2 y os lab' E' ov' := { hd with cn := { hd.cn with nd := Nat.le_succ_of_le hd.cn.nd } }
  exact ⟨w2, hrun, ⟨_, _, ov', hd2.turnL ho2 (l := .md) hl (by decide) (by decide) hop (hd2.txo ho2 (fun k e => (hd2.m.lt k (by rw [hl k e]; decide)).1) (fun k e => by rw [hl k e]; intro z; cases z)) (hd.m.addDec (d := (yes, s)) ht2 hm2) { h.cn with nd := Nat.succ_le_succ h.cn.nd } h.pq h.qq⟩, hd.keepsL ho2 hl (by decide) (by decide) hop⟩
/-- The tally: is it voted, Put, what comes of it. -/
theorem AdvLp.one (h : AdvLp w wr bx B p c g n nq lab i t op qp tp A1 A2 a1 a2 y os) {v : WaitD} (hv : getM y.wt i = some v) : ∃ lab' E' ov' C1 C2 Ag c1 c2 ag tg tb tc, AdvIn w wr bx B p c g n nq lab i t op qp tp A1 A2 a1 a2 y os lab' E' ov' ∧ WaitIn wr B op (fun k => lab' k = .one i) v C1 C2 Ag c1 c2 ag tp tg tb tc := by
  obtain ⟨lab', E', ov', h⟩ := h
  obtain ⟨C1, C2, Ag, c1, c2, ag, tp', tg, tb, tc, hI⟩ := h.m.wt _ v hv
  rw [h.pq] at hI
  have h5 : wr.cell? ⟨op, 5, none⟩ = some (.pointer (some ⟨tp', 0, none⟩)) := by rw [cell_of_row wr _ _ _ _ _ hI.blk]; rfl
  rw [h.c5] at h5
  obtain rfl : tp = tp' := by injection h5 with h5; injection h5 with h5; injection h5 with h5; injection h5
  exact ⟨lab', E', ov', C1, C2, Ag, c1, c2, ag, tg, tb, tc, h, hI⟩
theorem AdvLp.voted (h : AdvLp w wr bx B p c g n nq lab i t op qp tp A1 A2 a1 a2 y os) {v : WaitD} (hv : getM y.wt i = some v) (hT : Tally v.gs v.vs) (hg : 0 ≤ g ∧ g < 4) {wz : World} (hb : Below wr.heap.size wr wz) :
    Calls Tryz.prog 92 #[.pointer (some ⟨tp, 0, none⟩), .int .i64 g] wz fun e w' => e = .returned (.tuple #[.bool (votedV v.vs g), .bool (hasV v.vs g)]) ∧ Below wz.heap.size wz w' := by
  obtain ⟨lab', E', ov', C1, C2, Ag, c1, c2, ag, tg, tb, tc, h, hI⟩ := h.one hv
  exact voted_any g (by omega) (by omega) wz (hI.tal.later hb) hT
theorem AdvLp.outcome (h : AdvLp w wr bx B p c g n nq lab i t op qp tp A1 A2 a1 a2 y os) {v : WaitD} (hv : getM y.wt i = some v) (hT : Tally v.gs v.vs) {wz : World} (hb : Below wr.heap.size wr wz) :
    Calls Tryz.prog 96 #[.pointer (some ⟨tp, 0, none⟩)] wz (OutPost wz v.gs.length v.vs) := by
  obtain ⟨lab', E', ov', C1, C2, Ag, c1, c2, ag, tg, tb, tc, h, hI⟩ := h.one hv
  exact outcome_any wz (hI.tal.later hb) hT
theorem AdvLp.put (h : AdvLp w wr bx B p c g n nq lab i t op qp tp A1 A2 a1 a2 y os) {v : WaitD} (hv : getM y.wt i = some v) (hT : Tally v.gs v.vs) (h4 : v.gs.length ≤ 4) (hg : 0 ≤ g ∧ g < 4) (s : Bool) {wz : World} (hb : Below wr.heap.size wr wz) :
    Calls Tryz.prog 90 #[.pointer (some ⟨tp, 0, none⟩), .int .i64 g, .bool s] wz fun e w' => (∃ z : Bool, e = .returned (.bool z)) ∧ AdvLp w w' bx B p c g n nq lab i t op qp tp A1 A2 a1 a2 { y with wt := putM y.wt i { v with vs := putV v.gs v.vs g s } } os ∧ Keeps p bx op (fun _ => True) wz w' := by
  obtain ⟨lab', E', ov', C1, C2, Ag, c1, c2, ag, tg, tb, tc, h, hI⟩ := (h.later hb).one hv
  refine (put_any g s (by omega) (by omega) (by omega) _ hI.tal hT).mono ?_
  rintro e w2 ⟨rfl, ht2, hg2⟩
  have hI' := hI
  rw [← h.pq] at hI'
  obtain ⟨hM2, ho2⟩ := h.m.vote hv hI' ht2 hg2
  have hl : ∀ k, k = tb → lab' k = .one i := fun k e => by rw [e]; exact hI.ltb
  have htq : ¬ op = tb := fun e => by
    obtain ⟨es, clock, hb, _⟩ := hI.tal.own
    have h1 := hI.blk
    rw [e, hb] at h1
    cases h1
  exact ⟨⟨_, rfl⟩, ⟨_, E', ov', h.turnL ho2 hl (by intro z; cases z) (by intro z; cases z) htq (by
    obtain ⟨es, clock, hb, _⟩ := hI.tal.own
    exact tx_out2 h.tx ho2 (tx_map h.tx hb).1 (tx_map h.tx hb).2) hM2 { h.cn with } h.pq h.qq⟩, h.keepsL ho2 hl (by intro z; cases z) (by intro z; cases z) htq⟩
theorem AdvLp.tell (h : AdvLp w wr bx B p c g n nq lab i t op qp tp A1 A2 a1 a2 y os) {v : WaitD} (hv : getM y.wt i = some v) (h4 : v.gs.length ≤ 4) (hos : os.length ≤ 900000) (kd : Int) (s : Nat) (b : Bool) {wz : World} (hb : Below wr.heap.size wr wz) :
    Calls Tryz.prog 95 #[.pointer (some ⟨p, 0, none⟩), .pointer (some ⟨op, 0, none⟩), .agg #[.int .i64 kd, .int .i64 0, .int .i64 0, .int .i64 0, .int .u64 (s : Int), .bool b]] wz fun e w' => e = .returned (.tuple #[]) ∧ AdvLp w w' bx B p c g n nq lab i t op qp tp A1 A2 a1 a2 y (os ++ tellL g v.gs kd (idT v.t) s b) := by
  obtain ⟨lab', E', ov', h⟩ := h.later hb
  have hc := tell17 h.m h.o hv h4 hos kd s b
  rw [h.pq] at hc
  refine hc.mono ?_
  rintro e w2 ⟨rfl, ⟨lab2, ov2, hM2, hR2, hE2⟩, ho2⟩
  have hop : ¬ (lab' op = .m ∨ lab' op = .out) := by rw [h.lb]; intro e; rcases e with e | e <;> cases e
  have hx : ¬ (lab' bx = .m ∨ lab' bx = .out) := by rw [h.lx]; intro e; rcases e with e | e <;> cases e
  exact ⟨rfl, ⟨lab2, E', ov2, h.turn ho2 (fun k e => (h.m.lt k (by rcases e with e | e <;> (rw [e]; decide))).1) hop hx (h.txo ho2 (fun k e => (h.m.lt k (by rcases e with e | e <;> (rw [e]; decide))).1) (fun k e => by rcases e with e | e <;> (rw [e]; intro z; cases z))) (GrStep.tell hE2 ho2) hM2 hR2 h.cn h.pq h.qq⟩⟩
/-- An output. -/
theorem AdvLp.push (h : AdvLp w wr bx B p c g n nq lab i t op qp tp A1 A2 a1 a2 y os) (o : OutD) : ∃ lab' E' ov', AdvIn w wr bx B p c g n nq lab i t op qp tp A1 A2 a1 a2 y os lab' E' ov' ∧ PushW wr B p lab' ov' os o := by
  obtain ⟨lab', E', ov', h⟩ := h
  exact ⟨lab', E', ov', h, h.m.pushW h.o o⟩
theorem AdvIn.pushed (h : AdvIn w wr bx B p c g n nq lab i t op qp tp A1 A2 a1 a2 y os lab' E' ov') {w15 : World} {ov2 : Value} {o : OutD} (hg : (wr.alloc (outObj o)).grownBy w15 ov'.ownBlock) (hO : w15.ownsRow B 43 6 ov2 (os.length + 1) (outCells os ++ outV o)) (hv : ov2.ownBlock = ov'.ownBlock ∨ ov2.ownBlock = some (wr.alloc (outObj o)).heap.size) :
    AdvLp w (w15.setCell ⟨p, 11, none⟩ ov2) bx B p c g n nq lab i t op qp tp A1 A2 a1 a2 y (os ++ [o]) := by
  obtain ⟨h1, h2, h3, h4⟩ := (h.m.later (below1 wr (outObj o))).pushOut h.o.2 hg hO hv
  have ho : Out (fun k => lab' k = .m ∨ lab' k = .out) wr (w15.setCell ⟨p, 11, none⟩ ov2) := (Out.of_below (below1 wr (outObj o))).trans' h4
  have hop : ¬ (lab' op = .m ∨ lab' op = .out) := by rw [h.lb]; intro e; rcases e with e | e <;> cases e
  have hx : ¬ (lab' bx = .m ∨ lab' bx = .out) := by rw [h.lx]; intro e; rcases e with e | e <;> cases e
  refine ⟨_, E', _, h.turn ho (fun k e => (h.m.lt k (by rcases e with e | e <;> (rw [e]; decide))).1) hop hx (h.txo ho (fun k e => (h.m.lt k (by rcases e with e | e <;> (rw [e]; decide))).1) (fun k e => by rcases e with e | e <;> (rw [e]; intro z; cases z))) ((GrStep.below (below1 wr (outObj o))).trans (GrStep.tell (relab_ext lab' _ _ _) h4)) h1 ⟨?_, h3⟩ h.cn h.pq h.qq⟩
  rw [outCells_snoc, List.length_append]
  exact h2
/-- The store: Last, Low, Apply, Collect. -/
theorem AdvLp.sp (h : AdvLp w wr bx B p c g n nq lab i t op qp tp A1 A2 a1 a2 y os) : ∃ sp, wr.cell? ⟨p, 4, none⟩ = some (.pointer (some ⟨sp, 0, none⟩)) := by
  obtain ⟨lab', E', ov', h⟩ := h
  obtain ⟨_, _, _, _, c4, _⟩ := h.m.cs
  exact ⟨_, c4⟩
theorem AdvLp.last (h : AdvLp w wr bx B p c g n nq lab i t op qp tp A1 A2 a1 a2 y os) {sp : Nat} (h4 : wr.cell? ⟨p, 4, none⟩ = some (.pointer (some ⟨sp, 0, none⟩))) {wz : World} (hb : Below wr.heap.size wr wz) :
    (Calls Tryz.prog 58 #[.pointer (some ⟨sp, 0, none⟩)] wz fun e w' => e = .returned (.int .u64 (y.s.last : Int)) ∧ wz = w') ∧ (Calls Tryz.prog 54 #[.pointer (some ⟨sp, 0, none⟩)] wz fun e w' => e = .returned (.int .u64 (y.s.low : Int)) ∧ wz = w') := by
  obtain ⟨lab', E', ov', h⟩ := h
  obtain ⟨_, _, _, _, c4, _⟩ := h.m.cs
  rw [c4] at h4
  obtain rfl : E'.sp = sp := by injection h4 with h4; injection h4 with h4; injection h4 with h4; injection h4
  exact ⟨last14_any (h.later hb).m.s, low14_any (h.later hb).m.s⟩
theorem AdvIn.apply (h : AdvIn w wr bx B p c g n nq lab i t op qp tp A1 A2 a1 a2 y os lab' E' ov') {sp : Nat} (h4 : wr.cell? ⟨p, 4, none⟩ = some (.pointer (some ⟨sp, 0, none⟩))) (hs : StOK y.s) (hl : y.s.last ≤ 2000) (hI : (items y.s.ks).length ≤ 6 * y.s.last) {ws : List Wr} {A : Option Addr} {ca : Nat} (hA : WrsAt wr A ws) (hf : ∀ a, A = some a → lab' a.block = .no) (hok : WrsOK ws) (hw : wrsOK ws = true) (h6 : ws.length ≤ 6) {m : Nat} (hm : m = y.s.last + 1) :
    Calls Tryz.prog 99 #[.pointer (some ⟨sp, 0, none⟩), .int .u64 (m : Int), .slice A ws.length ca] wr fun e w' => (∃ z : Int, e = .returned (.int .i64 z)) ∧ AdvLp w w' bx B p c g n nq lab i t op qp tp A1 A2 a1 a2 { y with s := applyS y.s m ws } os ∧ Keeps p bx op (fun _ => True) wr w' := by
  obtain ⟨_, _, _, _, c4, _⟩ := h.m.cs
  rw [c4] at h4
  obtain rfl : E'.sp = sp := by injection h4 with h4; injection h4 with h4; injection h4 with h4; injection h4
  have hN := h.cn.nN
  have hBs : E'.sB ≤ wr.heap.size := by
    obtain ⟨mb, D, V, hS⟩ := h.m.s
    have := hS.lt _ hS.hp
    omega
  refine (apply14_any h.m.s hBs hs m ws A ca hA (fun a e _ hl => by rw [hf a e] at hl; cases hl) hok h.tb.t (by omega) (by omega)).mono ?_
  rintro e w2 ⟨rfl, hs2, ho2⟩
  have hop := h.one (O := fun k => lab' k = .s) (l := .s) (fun k e => e) (by intro z; cases z)
  have hlast : (applyS y.s m ws).last = m := by rw [applyS, if_neg (by omega), if_pos hw]
  exact ⟨⟨_, rfl⟩, ⟨_, _, ov', h.turnL ho2 (l := .s) (fun k e => e) (by decide) (by decide) hop (h.txo ho2 (fun k e => (h.m.lt k (by rw [e]; decide)).1) (fun k e => by rw [e]; intro z; cases z)) (h.m.setS ho2 hs2) { h.cn with nN := by show E'.N + ws.length ≤ 6 * (applyS y.s m ws).last; rw [hlast]; omega } h.pq h.qq⟩, h.keepsL ho2 (l := .s) (fun k e => e) (by decide) (by decide) hop⟩
theorem AdvLp.collect (h : AdvLp w wr bx B p c g n nq lab i t op qp tp A1 A2 a1 a2 y os) {sp : Nat} (h4 : wr.cell? ⟨p, 4, none⟩ = some (.pointer (some ⟨sp, 0, none⟩))) (hs : StOK y.s) (hl : y.s.last ≤ 2001) (hI : (items y.s.ks).length ≤ 800000) (m : Nat) :
    Calls Tryz.prog 100 #[.pointer (some ⟨sp, 0, none⟩), .int .u64 (m : Int)] wr fun e w' => (∃ z z' : Int, e = .returned (.tuple #[.int .i64 z, .int .i64 z'])) ∧ AdvLp w w' bx B p c g n nq lab i t op qp tp A1 A2 a1 a2 { y with s := colS y.s m } os := by
  obtain ⟨lab', E', ov', h⟩ := h
  obtain ⟨_, _, _, _, c4, _⟩ := h.m.cs
  rw [c4] at h4
  obtain rfl : E'.sp = sp := by injection h4 with h4; injection h4 with h4; injection h4 with h4; injection h4
  have hN := h.cn.nN
  have hBs : E'.sB ≤ wr.heap.size := by
    obtain ⟨mb, D, V, hS⟩ := h.m.s
    have := hS.lt _ hS.hp
    omega
  refine (col14_any h.m.s hBs hs m (by omega) hI).mono ?_
  rintro e w2 ⟨rfl, hs2, ho2⟩
  have hop := h.one (O := fun k => lab' k = .s) (l := .s) (fun k e => e) (by intro z; cases z)
  have hlast : (colS y.s m).last = y.s.last := by unfold colS; split <;> rfl
  exact ⟨⟨_, _, rfl⟩, ⟨_, _, ov', h.turnL ho2 (l := .s) (fun k e => e) (by decide) (by decide) hop (h.txo ho2 (fun k e => (h.m.lt k (by rw [e]; decide)).1) (fun k e => by rw [e]; intro z; cases z)) (h.m.setS ho2 hs2) { h.cn with nN := by show E'.N ≤ 6 * (colS y.s m).last; rw [hlast]; exact hN } h.pq h.qq⟩⟩
/-- The stamps of the versions. -/
theorem MachIn.setA {w5 w15 : World} {x : MachD} {E : MachE} {ov v' : Value} {lab : Nat → Lab} {a' : List Nat} (h : MachIn w5 B p c g lab x E ov) (hg : w5.grownBy w15 E.av.ownBlock) (hr : TailRow w15 B 39 v' (atV a')) (hv : v'.ownBlock = E.av.ownBlock ∨ ∀ k, v'.ownBlock = some k → w5.heap.size ≤ k) :
    MachIn (w15.setCell ⟨p, 9, none⟩ v') B p c g (relab lab w5 w15 .at_) { x with a := a' } { E with av := v' } ov ∧ Out (fun k => lab k = .at_) w5 w15 := by
  have ho : Out (fun k => E.av.ownBlock = some k) w5 w15 := Out.of_grown hg (fun k e => e)
  obtain ⟨R, hb, hp⟩ := h.rest ho (fun k e => h.la k e) (l := .at_) (by decide) (by decide)
  have hla : ∀ k, v'.ownBlock = some k → relab lab w5 w15 .at_ k = .at_ := fun k e => by
    have h2 := (hr.lt k e).2
    rcases hv with hv | hv
    · rw [hv] at e; exact R.la k e
    · rw [relab, if_pos ⟨hv k e, h2⟩]
  have hR : MachR w15 B c (relab lab w5 w15 .at_) { x with a := a' } { E with av := v' } := { cfg := R.cfg, oA := R.oA, oA' := R.oA', q := R.q (by decide), s := R.s (by decide), hw := R.hw (by decide), hd := R.hd (by decide), hs := R.hs (by decide), hv := R.hv (by decide), lmw := R.lmw, lmd := R.lmd, lms := R.lms, lmv := R.lmv, kw := R.kw, kd := R.kd, ks := R.ks, kv := R.kv, wt := fun i v e => R.wt i v (by intro z; cases z) e, a := hr, la := hla, log := R.log (by decide), ll := R.ll, lt := R.lt }
  have hBp : ∀ k, k = p → B ≤ k := fun k e => by rw [e]; exact (R.lt p (by rw [hp]; decide)).1
  have hR2 := hR.out (out_setc w15 p 9 v') (fun k _ h2 _ e => h2 (by rw [e]; exact hp)) hBp
  exact ⟨{ hR2 with blk := blk_setc v' hb, lm := hp }, ho.mono (fun k e => h.la k e)⟩
theorem AdvIn.av (h : AdvIn w wr bx B p c g n nq lab i t op qp tp A1 A2 a1 a2 y os lab' E' ov') : wr.cell? ⟨p, 9, none⟩ = some E'.av ∧ TailRow wr B 39 E'.av (atV y.a) ∧ (∀ k, E'.av.ownBlock = some k → k ≠ p) := by
  obtain ⟨_, _, _, _, _, _, _, _, _, c9, _⟩ := h.m.cs
  exact ⟨c9, h.m.a, fun k e z => by
    have := h.m.la k e
    rw [z, h.m.lm] at this
    cases this⟩
theorem AdvIn.setAv (h : AdvIn w wr bx B p c g n nq lab i t op qp tp A1 A2 a1 a2 y os lab' E' ov') {w15 : World} {v' : Value} {a' : List Nat} (hg : wr.grownBy w15 E'.av.ownBlock) (hr : TailRow w15 B 39 v' (atV a')) (hv : v'.ownBlock = E'.av.ownBlock ∨ ∀ k, v'.ownBlock = some k → wr.heap.size ≤ k) :
    AdvLp w (w15.setCell ⟨p, 9, none⟩ v') bx B p c g n nq lab i t op qp tp A1 A2 a1 a2 { y with a := a' } os ∧ (∀ b' j v, ((b' = p ∧ j ≠ 9) ∨ b' = bx ∨ b' = op) → wr.cell? ⟨b', j, none⟩ = some v → (w15.setCell ⟨p, 9, none⟩ v').cell? ⟨b', j, none⟩ = some v) := by
  obtain ⟨hM, ho⟩ := h.m.setA hg hr hv
  have hlt : ∀ k, lab' k ≠ .no → k < wr.heap.size := fun k hk => (h.m.lt k hk).2
  have oP := out_setc w15 p 9 v'
  have hno : ∀ {k : Nat}, lab' k ≠ .at_ → lab' k ≠ .m → ¬ ((fun k => lab' k = .at_ ∨ k = p) k) := fun h1 h2 e => e.elim h1 (fun z => h2 (by rw [z]; exact h.m.lm))
  have ho2 : Out (fun k => lab' k = .at_ ∨ k = p) wr (w15.setCell ⟨p, 9, none⟩ v') := (ho.mono fun k e => .inl e).trans' (oP.mono fun k e => .inr e)
  have hr15 : OutRow w15 B (relab lab' wr w15 .at_) ov' os := h.o.rest ho (fun k e => e) hlt (by decide)
  have hrow : OutRow (w15.setCell ⟨p, 9, none⟩ v') B (relab lab' wr w15 .at_) ov' os := ⟨oP.row hr15.1 (fun k e z => by
    have := hr15.2 k e
    rw [z, hM.lm] at this
    cases this), hr15.2⟩
  have hst : GrStep wr (w15.setCell ⟨p, 9, none⟩ v') lab' (relab lab' wr w15 .at_) := ⟨relab_ext lab' wr w15 .at_, ho2.mono fun k e => by rcases e with e | e; (rw [e]; decide); (rw [e, h.m.lm]; decide)⟩
  refine ⟨⟨_, _, ov', h.turn ho2 (fun k e => (h.m.lt k (by rcases e with e | e; (rw [e]; decide); (rw [e, h.m.lm]; decide))).1) (hno (by rw [h.lb]; intro z; cases z) (by rw [h.lb]; intro z; cases z)) (hno (by rw [h.lx]; decide) (by rw [h.lx]; decide)) (h.txo ho2 (fun k e => (h.m.lt k (by rcases e with e | e; (rw [e]; decide); (rw [e, h.m.lm]; decide))).1) (fun k e => by rcases e with e | e; (rw [e]; intro z; cases z); (rw [e, h.m.lm]; intro z; cases z))) hst hM hrow { h.cn with } h.pq h.qq⟩, fun b' j v hb' hc => ?_⟩
  rcases hb' with ⟨rfl, hj⟩ | rfl | rfl
  · have h1 : w15.cell? ⟨b', j, none⟩ = some v := ho.cell hc (fun e => by rw [h.m.lm] at e; cases e)
    obtain ⟨_, hb15, _⟩ := h.m.rest ho (fun k e => e) (l := .at_) (by decide) (by decide)
    rw [cell_of_row w15 _ _ _ _ _ hb15] at h1
    rw [cell_of_row _ _ _ _ _ _ (blk_setc v' hb15), Array.getElem?_setIfInBounds_ne (Ne.symm hj)]
    exact h1
  · exact ho2.cell hc (hno (by rw [h.lx]; decide) (by rw [h.lx]; decide))
  · exact ho2.cell hc (hno (by rw [h.lb]; intro z; cases z) (by rw [h.lb]; intro z; cases z))
end
theorem delM_putM {κ V : Type} [DecidableEq κ] (kv : List (κ × V)) (k : κ) (v : V) : delM (putM kv k v) k = delM kv k := by
  unfold delM putM
  rw [List.filter_cons, if_neg (by simp), List.filter_filter]
  simp
/-- Between two turns. -/
def AdvR (w wr : World) (B p : Nat) (c : Cfg) (g : Int) (n : Nat) (lab : Nat → Lab) (qp : Nat) (y : MachD) (os : List OutD) : Prop := ∃ lab' E' ov', GrAt wr B p c g n lab' y E' ov' os ∧ GrStep w wr lab lab' ∧ E'.qp = qp
section
variable {w wr w' : World} {bx B p n nq : Nat} {c : Cfg} {g : Int} {lab lab' : Nat → Lab} {i : IdD} {t : Tx} {op qp tp : Nat} {A1 A2 : Option Addr} {a1 a2 : Nat} {y : MachD} {os : List OutD} {E' : MachE} {ov' : Value}
theorem AdvR.start (h : AdvR w wr B p c g n lab qp y os) {v : WaitD} (hv : getM y.wt i = some v) (hw : Below wr.heap.size wr w') (hbx : wr.heap.size ≤ bx) (hbw : bx < w'.heap.size) (x0 : w'.cell? ⟨bx, 0, none⟩ = some (.int .i64 i.ses)) (x1 : w'.cell? ⟨bx, 1, none⟩ = some (.int .i64 i.seq)) :
    ∃ op tp A1 A2 a1 a2, AdvLp w w' bx B p c g n (n - y.q.l.length) lab i v.t op qp tp A1 A2 a1 a2 y os ∧ ∀ (mw : Nat) wz, wr.cell? ⟨p, 5, none⟩ = some (.map (some mw)) → okId i → Below wr.heap.size wr wz → (Instr.lookup 102 (.map (some mw)) (.agg #[.int .i64 i.ses, .int .i64 i.seq]) false).run Tryz.prog wz = .ok (.pointer (some ⟨op, 0, none⟩)) wz := by
  obtain ⟨lab', E', ov', h, hs, hq⟩ := h
  have hlt := h.lt
  have hlook : ∀ (mw : Nat) wz, wr.cell? ⟨p, 5, none⟩ = some (.map (some mw)) → okId i → Below wr.heap.size wr wz → (Instr.lookup 102 (.map (some mw)) (.agg #[.int .i64 i.ses, .int .i64 i.seq]) false).run Tryz.prog wz = .ok (.pointer (some ⟨E'.pp i, 0, none⟩)) wz := fun mw wz h5 hok hb => by
    obtain ⟨_, _, _, _, _, c5, _⟩ := h.m.cs
    rw [c5] at h5
    obtain rfl : E'.mw = mw := by injection h5 with h5; injection h5 with h5; injection h5
    have := h.m.lookW hok hb
    rw [hv] at this
    exact this
  have h2 := h.later hw
  obtain ⟨C1, C2, Ag, c1, c2, ag, tp, tg, tb, tc, hI⟩ := h2.m.wt _ v hv
  refine ⟨E'.pp i, tp, C1, C2, c1, c2, ⟨lab', E', ov', { m := h2.m, o := h2.o, st := hs.trans (GrStep.below hw), cn := h2.cn.c, pq := rfl, qq := hq, lb := hI.lp, lx := ?_, lxw := hbw, x0 := x0, x1 := x1, c0 := ?_, c1 := ?_, c2 := ?_, c3 := ?_, c5 := ?_, tx := hI.tx, oA := hI.oA, oA' := hI.oA', tb := h2.tb }⟩, hlook⟩
  · cases e : lab' bx
    case no => rfl
    all_goals exact absurd (hlt bx (by rw [e]; intro z; cases z)) (by omega)
  all_goals (rw [cell_of_row w' _ _ _ _ _ hI.blk]; rfl)
theorem AdvLp.fin (h : AdvLp w wr bx B p c g n nq lab i t op qp tp A1 A2 a1 a2 y os) (hk : MOK c g n y) (hq : nq + y.q.l.length ≤ n) : AdvR w wr B p c g n lab qp y os := by
  obtain ⟨lab', E', ov', h⟩ := h
  exact ⟨lab', E', ov', { m := h.m, o := h.o, k := hk, cn := h.cn.n hq, tb := h.tb }, h.st, h.qq⟩
theorem AdvR.later (h : AdvR w wr B p c g n lab qp y os) (hb : Below wr.heap.size wr w') : AdvR w w' B p c g n lab qp y os := by
  obtain ⟨lab', E', ov', h, hs, hq⟩ := h
  exact ⟨lab', E', ov', h.later hb, hs.trans (GrStep.below hb), hq⟩
def lenQ (w : World) (qp : Nat) : Nat := match w.cell? ⟨qp, 2, none⟩ with | some (.slice _ n _) => n | _ => 0
theorem AdvR.len (h : AdvR w wr B p c g n lab qp y os) : lenQ wr qp = y.q.l.length := by
  obtain ⟨lab', E', ov', h, hs, rfl⟩ := h
  obtain ⟨qv, qes, hQ⟩ := h.m.q
  obtain ⟨_, _, h2⟩ := hQ.cs
  obtain ⟨A, cap, rfl, _⟩ := hQ.at_
  rw [lenQ, h2, ← hQ.len]
theorem AdvR.q (h : AdvR w wr B p c g n lab qp y os) : MOK c g n y ∧ wr.cell? ⟨p, 3, none⟩ = some (.pointer (some ⟨qp, 0, none⟩)) ∧ (∃ mw, wr.cell? ⟨p, 5, none⟩ = some (.map (some mw))) ∧ Calls Tryz.prog 91 #[.pointer (some ⟨qp, 0, none⟩)] wr fun e w' => e = .returned (nextV y.q) ∧ Below wr.heap.size wr w' := by
  obtain ⟨lab', E', ov', h, hs, rfl⟩ := h
  obtain ⟨qv, qes, hQ⟩ := h.m.q
  obtain ⟨_, _, _, c3, _, c5, _⟩ := h.m.cs
  exact ⟨h.k, c3, ⟨_, c5⟩, next15 hQ h.k.q⟩
/-- Other lists that say the same of those that wait. -/
theorem AdvLp.same (h : AdvLp w wr bx B p c g n nq lab i t op qp tp A1 A2 a1 a2 y os) {v : WaitD} (hv : getM y.wt i = some v) : AdvLp w wr bx B p c g n nq lab i t op qp tp A1 A2 a1 a2 { y with wt := putM y.wt i v } os := by
  obtain ⟨lab', E', ov', h⟩ := h
  have e : ∀ j, getM (putM y.wt i v) j = getM y.wt j := fun j => by
    rw [getM_put]
    by_cases e : j = i
    · rw [if_pos e, e, hv]
    · rw [if_neg e]
  exact ⟨lab', E', ov', { h with m := { h.m with kw := fun j => by show _ = (getM (putM y.wt i v) j).map _; rw [e]; exact h.m.kw j, wt := fun j u hu => h.m.wt j u (by rw [← e]; exact hu) } }⟩
theorem getD_mem17 {α : Type} {l : List α} {d : α} {k : Nat} (hk : k < l.length) : l.getD k d ∈ l := by
  rw [List.getD_eq_getElem?_getD, List.getElem?_eq_getElem hk]
  exact List.getElem_mem hk
theorem rdsOK_cut {t : Tx} {w : World} {A B : Option Addr} (h : TxAt w t A B) (h6 : t.rds.length ≤ 6) (c : Cfg) (g : Int) : RdsOK (readsL c t g) := by
  refine ⟨fun k hk => ?_, Nat.le_trans (List.length_filter_le _ _) (by omega)⟩
  have hm : (readsL c t g).getD k noRd ∈ t.rds := (List.mem_filter.1 (getD_mem17 hk)).1
  obtain ⟨j, hj, e⟩ := List.mem_iff_getElem.1 hm
  have := h.rk j hj
  rw [List.getD_eq_getElem?_getD, List.getElem?_eq_getElem hj] at this
  simp only [Option.getD_some] at this
  rw [← e]
  unfold maxLen
  omega
theorem wrsOK_cutW {t : Tx} {w : World} {A B : Option Addr} (h : TxAt w t A B) (h6 : t.wrs.length ≤ 6) (c : Cfg) (g : Int) : WrsOK (writesL c t g) := by
  have hm : ∀ k, k < (writesL c t g).length → ∃ j, j < t.wrs.length ∧ t.wrs.getD j noWr = (writesL c t g).getD k noWr := fun k hk => by
    have hm : (writesL c t g).getD k noWr ∈ t.wrs := (List.mem_filter.1 (getD_mem17 hk)).1
    obtain ⟨j, hj, e⟩ := List.mem_iff_getElem.1 hm
    exact ⟨j, hj, by rw [List.getD_eq_getElem?_getD, List.getElem?_eq_getElem hj, ← e]; rfl⟩
  refine ⟨fun k hk => ?_, fun k hk => ?_, Nat.le_trans (List.length_filter_le _ _) (by omega)⟩
  · obtain ⟨j, hj, e⟩ := hm k hk
    rw [← e]; exact h.wk j hj
  · obtain ⟨j, hj, e⟩ := hm k hk
    rw [← e]; exact h.wv j hj
/-- The cuts of the transaction, and the vote. -/
theorem AdvIn.reads (h : AdvIn w wr bx B p c g n nq lab i t op qp tp A1 A2 a1 a2 y os lab' E' ov') (h6 : t.rds.length ≤ 6) {wz : World} (hb : Below wr.heap.size wr wz) :
    Calls Tryz.prog 94 #[.agg #[.slice E'.A c.reps.length E'.ca, .slice E'.A' c.bnds.length E'.cb], .agg #[.int .i64 t.ses, .int .i64 t.seq, .slice A1 t.rds.length a1, .slice A2 t.wrs.length a2], .int .i64 g] wz (RdsPost wz (readsL c t g)) := by
  have hz := h.later hb
  exact reads_any c t g E'.A E'.A' A1 A2 E'.ca E'.cb a1 a2 wz hz.m.cfg hz.tx hz.tb.t (by omega)
theorem AdvIn.writes (h : AdvIn w wr bx B p c g n nq lab i t op qp tp A1 A2 a1 a2 y os lab' E' ov') (h6 : t.wrs.length ≤ 6) {wz : World} (hb : Below wr.heap.size wr wz) :
    Calls Tryz.prog 98 #[.agg #[.slice E'.A c.reps.length E'.ca, .slice E'.A' c.bnds.length E'.cb], .agg #[.int .i64 t.ses, .int .i64 t.seq, .slice A1 t.rds.length a1, .slice A2 t.wrs.length a2], .int .i64 g] wz (WrsPost wz (writesL c t g)) := by
  have hz := h.later hb
  exact writes_any c t g E'.A E'.A' A1 A2 E'.ca E'.cb a1 a2 wz hz.m.cfg hz.tx hz.tb.t (by omega)
theorem AdvIn.voteC (h : AdvIn w wr bx B p c g n nq lab i t op qp tp A1 A2 a1 a2 y os lab' E' ov') (h6 : t.rds.length ≤ 6) (hs : StOK y.s) (hI : (items y.s.ks).length ≤ 800000) {wz : World} (hb : Below wr.heap.size wr wz) {A : Option Addr} {ca : Nat} (hA : RdsAt wz A (readsL c t g)) :
    Calls Tryz.prog 93 #[.pointer (some ⟨E'.sp, 0, none⟩), .slice A (readsL c t g).length ca] wz fun e w' => e = .returned (.bool (voteB y.s (readsL c t g))) ∧ Below wz.heap.size wz w' :=
  vote_any (h.later hb).m.s hs hI _ A ca hA (rdsOK_cut h.tx h6 c g)
theorem AdvIn.avfz (h : AdvIn w wr bx B p c g n nq lab i t op qp tp A1 A2 a1 a2 y os lab' E' ov') {o : Obj} {w15 : World} (hg : (wr.alloc o).grownBy w15 E'.av.ownBlock) : w15.cell? ⟨p, 9, none⟩ = some E'.av ∧ w15.frozen? ⟨p, 9, none⟩ = false := by
  have h2 := h.later (below1 wr o)
  have ho : Out (fun k => E'.av.ownBlock = some k) (wr.alloc o) w15 := Out.of_grown hg (fun k e => e)
  have hb := ho.obj h2.m.blk (fun e => h2.av.2.2 p e rfl)
  exact ⟨by rw [cell_of_row w15 _ _ _ _ _ hb]; rfl, frozen_of_row w15 p 9 _ _ hb⟩
theorem AdvIn.setAv2 (h : AdvIn w wr bx B p c g n nq lab i t op qp tp A1 A2 a1 a2 y os lab' E' ov') {o : Obj} {w15 : World} {v' : Value} {s : Nat} (hg : (wr.alloc o).grownBy w15 E'.av.ownBlock) (hr : TailRow w15 B 39 v' (atV y.a ++ [.int .u64 (s : Int)])) (hv : v'.ownBlock = E'.av.ownBlock ∨ ∀ k, v'.ownBlock = some k → (wr.alloc o).heap.size ≤ k) :
    AdvLp w (w15.setCell ⟨p, 9, none⟩ v') bx B p c g n nq lab i t op qp tp A1 A2 a1 a2 { y with a := y.a ++ [s] } os ∧ (∀ b' j v, ((b' = p ∧ j ≠ 9) ∨ b' = bx ∨ b' = op) → wr.cell? ⟨b', j, none⟩ = some v → (w15.setCell ⟨p, 9, none⟩ v').cell? ⟨b', j, none⟩ = some v) := by
  have e : atV (y.a ++ [s]) = atV y.a ++ [.int .u64 (s : Int)] := by simp [atV]
  obtain ⟨h1, h2⟩ := (h.later (below1 wr o)).setAv (a' := y.a ++ [s]) hg (by rw [e]; exact hr) hv
  exact ⟨h1, fun b' j v hb hc => h2 b' j v hb (keep (below1 wr o) hc)⟩
theorem info_u17 : (Tryz.prog.info? 39).map (fun i => (i.zero, i.size, i.bytes)) = some (some (.int .u64 0), 1, 8) := by kernel_rfl
theorem one_cell_u17 {s : Int} : ∀ u ∈ [Value.int .u64 s], u.oneCell' = true := fun u hu => by
  simp at hu; rw [hu]; rfl
end
end Go.Proofs.YtcldpmkhpmlcbaaGreatDoor
/- Layer 17 in plain Lean: a cluster of one group decides each transaction at once. -/
namespace Go.Proofs.YtcldpmkhpmlcbaaGreatDoor

def cfg1 : Cfg := ⟨[1], []⟩
theorem cfg1_ok : formedB cfg1 = true := by decide
theorem home1 (k : ByteArray) : homeZ cfg1 k = 0 := by
  have := home_range cfg1_ok k
  have e : (cfg1.reps.length : Int) = 1 := rfl
  omega
theorem groups1 {t : Tx} (h : formedT t = true) : groupsT cfg1 t = [0] := by
  have hne : rKeys t ++ wKeys t ≠ [] := by
    simp only [formedT, Bool.and_eq_true, Bool.not_eq_true', decide_eq_false_iff_not] at h
    intro e
    have e2 := congrArg List.length e
    simp only [rKeys, wKeys, List.length_append, List.length_map, List.length_nil] at e2
    exact h.1.1.1.2 e2
  have ht : touchB cfg1 (rKeys t ++ wKeys t) 0 = true := by
    obtain ⟨a, l, e⟩ := List.exists_cons_of_ne_nil hne
    rw [e]
    simp [touchB, home1]
  rw [groupsT, if_pos h, groupsL, if_pos cfg1_ok]
  show groupsTo cfg1 _ (0 + 1) = _
  rw [groupsTo_succ, ht]
  rfl
theorem reads1 {t : Tx} (h : formedT t = true) : readsL cfg1 t 0 = t.rds := by
  rw [readsL, pickR_formed cfg1_ok h, List.filter_eq_self]
  intro x _
  simp [hereR, home1]
theorem writes1 {t : Tx} (h : formedT t = true) : writesL cfg1 t 0 = t.wrs := by
  rw [writesL, pickW_formed cfg1_ok h, List.filter_eq_self]
  intro x _
  simp [hereW, home1]
/-- A command that begins a transaction. -/
def beginC (t : Tx) (A B : Option Addr) (ca cb : Nat) : CmdV := ⟨1, t, A, B, ca, cb, 0, 0, 0, 0, false⟩
theorem beginC_formed {t : Tx} {A B : Option Addr} {ca cb : Nat} (h : formedT t = true) : formedC (beginC t A B ca cb) = true := by
  simp [formedC, beginC, cmdEq, idEqB, h, sameT_self]
/-- What a machine that is alone is behind n transactions. -/
structure AloneOK (n : Nat) (m : MachD) : Prop where
  ok : MOK cfg1 0 n m
  q : m.q = ⟨0, n, []⟩
  st : m.st = []
  vo : m.vo = []
theorem alone0 : AloneOK 0 (mach0 0) := ⟨mach0_ok cfg1_ok (by decide) (by decide), rfl, rfl, rfl⟩
def aloneM (m : MachD) (n : Nat) (t : Tx) : MachD :=
  let m1 : MachD := { m with q := ⟨0, n + 1, []⟩, wt := delM (putM m.wt (idT t) ⟨t, [0], []⟩) (idT t), dc := putM m.dc (idT t) (voteB m.s t.rds, n + 1) }
  if voteB m.s t.rds && !t.wrs.isEmpty then writeM m1 (n + 1) t.wrs else m1
theorem write_q (m : MachD) (final : Nat) (ws : List Wr) : (writeM m final ws).q = m.q ∧ (writeM m final ws).st = m.st ∧ (writeM m final ws).vo = m.vo ∧ (writeM m final ws).dc = m.dc ∧ (writeM m final ws).wt = m.wt := by
  unfold writeM
  simp only
  split <;> exact ⟨rfl, rfl, rfl, rfl, rfl⟩
theorem alone_apply {n : Nat} {m : MachD} (h : AloneOK n m) {t : Tx} {A B : Option Addr} {ca cb : Nat} (ht : formedT t = true) (hn : n < mostQ) (hd : getM m.dc (idT t) = none) :
    applyM cfg1 0 m (beginC t A B ca cb) = aloneM m n t ∧ applyO cfg1 0 m (beginC t A B ca cb) = [⟨4, -1, idT t, n + 1, voteB m.s t.rds⟩] := by
  have hg := groups1 ht
  have hw : getM m.wt (idT t) = none := by
    cases e : getM m.wt (idT t) with
    | none => rfl
    | some v =>
      have := (h.ok.ids (idT t)).1 (by rw [e]; rfl)
      rw [h.q] at this
      cases this
  have hid : idOK (idT t) = true := (formed_parts ht).1
  have hK : beginK m.q (idT t) [0] = 0 := by
    rw [beginK, h.q, hid]
    have h1 : rightB (⟨0, n, []⟩ : QD).g [0] = true := by show rightB 0 [0] = true; decide
    have h2 : hasQ ⟨0, n, []⟩ (idT t) = false := rfl
    rw [h1, h2]
    have h3 : ¬ mostQ ≤ n := by omega
    simp [h3]
  have hW : beginW cfg1 0 m t = 4 := by
    rw [beginW, hg, hd, hw, hK]
    rfl
  have hb : beginQ m.q (idT t) [0] = ⟨0, n + 1, [⟨idT t, [0], n + 1, [], true⟩]⟩ := by
    rw [beginQ, if_pos hK, h.q]
    simp [newOne, sortQ]
  have hB : beginM cfg1 0 m t = { m with q := ⟨0, n + 1, [⟨idT t, [0], n + 1, [], true⟩]⟩, wt := putM m.wt (idT t) ⟨t, [0], []⟩, st := [], vo := [] } := by
    rw [beginM, if_pos hW, newM, hg, hb, h.st, h.vo]
    rfl
  have hO : beginO cfg1 0 m t = [] := by
    rw [beginO, hW]
    simp only [hg, hb]
    rfl
  have hf := beginC_formed (A := A) (B := B) (ca := ca) (cb := cb) ht
  have hA : applyA cfg1 0 m (beginC t A B ca cb) = { m with q := ⟨0, n + 1, [⟨idT t, [0], n + 1, [], true⟩]⟩, wt := putM m.wt (idT t) ⟨t, [0], []⟩, st := [], vo := [] } := by
    show (if (1 : Int) = 1 then _ else _) = _
    rw [if_pos rfl]; exact hB
  have hP : applyP cfg1 0 m (beginC t A B ca cb) = [] := by
    show (if (1 : Int) = 1 then _ else _) = _
    rw [if_pos rfl]; exact hO
  obtain ⟨y, hy⟩ : ∃ y, voteB m.s t.rds = y := ⟨_, rfl⟩
  have hturn : turnM cfg1 0 { m with q := ⟨0, n + 1, [⟨idT t, [0], n + 1, [], true⟩]⟩, wt := putM m.wt (idT t) ⟨t, [0], []⟩, st := [], vo := [] } = (true, aloneM m n t, [⟨4, -1, idT t, n + 1, y⟩]) := by
    have hnx : nextQ ⟨0, n + 1, [⟨idT t, [0], n + 1, [], true⟩]⟩ = some (idT t, n + 1) := rfl
    have hwt : waitOf { m with q := ⟨0, n + 1, [⟨idT t, [0], n + 1, [], true⟩]⟩, wt := putM m.wt (idT t) ⟨t, [0], []⟩, st := [], vo := [] } (idT t) = ⟨t, [0], []⟩ := by
      show (getM (putM m.wt (idT t) _) (idT t)).getD noWait = _
      rw [getM_put, if_pos rfl]; rfl
    have hov : ownVotes cfg1 0 { m with q := ⟨0, n + 1, [⟨idT t, [0], n + 1, [], true⟩]⟩, wt := putM m.wt (idT t) ⟨t, [0], []⟩, st := [], vo := [] } ⟨t, [0], []⟩ = [(0, y)] := by
      show (if hasV [] 0 then _ else putV [0] [] 0 (voteB m.s (readsL cfg1 t 0))) = _
      rw [reads1 ht, hy]
      rfl
    have hvo : voteO cfg1 0 { m with q := ⟨0, n + 1, [⟨idT t, [0], n + 1, [], true⟩]⟩, wt := putM m.wt (idT t) ⟨t, [0], []⟩, st := [], vo := [] } (idT t) ⟨t, [0], []⟩ = [] := by
      show (if hasV [] 0 then [] else tellL 0 [0] 3 (idT t) 0 _) = _
      rfl
    have hk : outKnown 1 [((0 : Int), y)] = true := by simp [outKnown]
    have hyy : outYes 1 [((0 : Int), y)] = y := by cases y <;> rfl
    unfold turnM
    simp only [hnx, hwt, hov, hvo, List.length_singleton]
    rw [if_pos hk]
    simp only [hyy, writes1 ht, List.nil_append]
    unfold aloneM
    simp only [hy]
    have e1 : doneM { m with q := ⟨0, n + 1, [⟨idT t, [0], n + 1, [], true⟩]⟩, wt := putM m.wt (idT t) ⟨t, [0], []⟩, st := [], vo := [] } (idT t) y (n + 1) = { m with q := ⟨0, n + 1, []⟩, wt := delM (putM m.wt (idT t) ⟨t, [0], []⟩) (idT t), dc := putM m.dc (idT t) (y, n + 1) } := by
      show MachD.mk _ _ _ _ _ _ _ = MachD.mk _ _ _ _ _ _ _
      rw [h.st, h.vo]
      rfl
    rw [e1]
  have hq2 : (aloneM m n t).q = ⟨0, n + 1, []⟩ := by
    unfold aloneM
    simp only
    split
    · exact (write_q _ _ _).1
    · rfl
  have hadv : advM cfg1 0 2 { m with q := ⟨0, n + 1, [⟨idT t, [0], n + 1, [], true⟩]⟩, wt := putM m.wt (idT t) ⟨t, [0], []⟩, st := [], vo := [] } = (aloneM m n t, [⟨4, -1, idT t, n + 1, y⟩]) := by
    have h2 : turnM cfg1 0 (aloneM m n t) = (false, aloneM m n t, []) := by
      unfold turnM
      rw [hq2]
      rfl
    have h3 : advM cfg1 0 1 (aloneM m n t) = (aloneM m n t, []) := by
      unfold advM
      simp only [h2]
      rfl
    unfold advM
    simp only [hturn, h3]
    rfl
  constructor
  · rw [applyM, if_pos hf, hA]
    show (advM cfg1 0 2 _).1 = _
    rw [hadv]
  · rw [applyO, if_pos hf, hA, hP, List.nil_append]
    show (advM cfg1 0 2 _).2 = _
    rw [hadv, hy]
/-! ### What is written is there -/
theorem puts_no17 {n : Nat} {k : ByteArray} : ∀ (l : List Wr) {m : KV}, RisesK m → (∀ x ∈ l, x.key ≠ k) → getK (putWs n m l) k = getK m k
  | [], _, _, _ => rfl
  | x :: l, m, h, hk => by
    have h2 : getK (putWs n (putW n m x) l) k = getK (putW n m x) k := puts_no17 l (putK_rises h _ _) (fun y hy => hk y (by simp [hy]))
    rw [show putWs n m (x :: l) = putWs n (putW n m x) l from rfl, h2, putW, getK_putK h, if_neg (fun e => hk x (by simp) e.symm)]
theorem putWs_at {n : Nat} : ∀ (l : List Wr) {m : KV}, RisesK m → (l.map Wr.key).Pairwise (fun a b => lessS a b = true) → ∀ x ∈ l, ∃ r, getK (putWs n m l) x.key = ⟨n, x.val⟩ :: r
  | [], m, _, _, x, hx => by cases hx
  | y :: l, m, hm, hp, x, hx => by
    have hp' := hp
    simp only [List.map_cons, List.pairwise_cons] at hp'
    have hstep : putWs n m (y :: l) = putWs n (putW n m y) l := rfl
    rw [hstep]
    have hr : RisesK (putW n m y) := putK_rises hm _ _
    rcases List.mem_cons.1 hx with rfl | hx
    · have hno : ∀ z ∈ l, z.key ≠ x.key := fun z hz e => by
        have := hp'.1 z.key (List.mem_map_of_mem hz)
        rw [e, lessS_irr] at this
        cases this
      rw [puts_no17 l hr hno]
      exact ⟨_, by rw [putW, getK_putK hm, if_pos rfl]⟩
    · exact putWs_at l hr hp'.2 x hx
theorem formed0 {v : Val} (h : formedV v = true) (hk : v.kind = 0) : v = noVal := by
  rw [formedV, if_pos hk] at h
  simp only [Bool.and_eq_true, decide_eq_true_eq] at h
  obtain ⟨k, b, t⟩ := v
  obtain ⟨h1, h2⟩ := h
  simp only at hk h1 h2
  subst hk h1 h2
  rfl
theorem written {n : Nat} {m : MachD} (h : AloneOK n m) {t : Tx} (ht : formedT t = true) (hv : voteB m.s t.rds = true) {x : Wr} (hx : x ∈ t.wrs) : (getV (aloneM m n t).s x.key (aloneM m n t).s.last).val = x.val := by
  have hne : t.wrs.isEmpty = false := by
    cases e : t.wrs with
    | nil => rw [e] at hx; cases hx
    | cons => rfl
  have hok := h.ok.s
  have hfv : formedV x.val = true := List.all_eq_true.1 (formed_parts ht).2.2.2 x hx
  obtain ⟨r, hr⟩ := putWs_at (n := m.s.last + 1) t.wrs hok.rises (rises_pw (formed_parts ht).2.2.1).1 x hx
  have hwo : wrsOK t.wrs = true := by
    have := wrsOK_cut (c := cfg1) (g := 0) ht
    rwa [writes1 ht] at this
  have ha : applyS m.s (m.s.last + 1) t.wrs = ⟨putWs (m.s.last + 1) m.s.ks t.wrs, m.s.last + 1, m.s.low⟩ := by
    rw [applyS, if_neg (by omega), if_pos hwo]
  have hlow := hok.low
  have hs1 : seenV (getK (putWs (m.s.last + 1) m.s.ks t.wrs) x.key) (m.s.last + 1) = ⟨m.s.last + 1, x.val⟩ := by
    rw [hr]; exact seenV_cons_lo (Nat.le_refl _)
  have hris : RisesK (putWs (m.s.last + 1) m.s.ks t.wrs) := putWs_rises _ hok.rises
  unfold aloneM
  simp only [hv, hne, Bool.not_false, Bool.and_true, if_true]
  unfold writeM
  simp only [ha]
  split
  · rename_i hb
    have hco : colOK ⟨putWs (m.s.last + 1) m.s.ks t.wrs, m.s.last + 1, m.s.low⟩ (m.s.last + 1 - 8) = true := by
      unfold colOK
      simp only [Bool.and_eq_true, decide_eq_true_eq]
      omega
    simp only [colS, hco, if_true]
    rw [getV, if_neg (by simp only; omega)]
    simp only
    rw [getK_colK hris]
    obtain ⟨h1, h2⟩ := seen_colV (getK (putWs (m.s.last + 1) m.s.ks t.wrs) x.key) (low := m.s.last + 1 - 8) (n := m.s.last + 1) (by omega)
    rw [hs1] at h1 h2
    by_cases hk : x.val.kind = 0
    · have h3 : formedV (seenV (colV (getK (putWs (m.s.last + 1) m.s.ks t.wrs) x.key) (m.s.last + 1 - 8)) (m.s.last + 1)).val = true := by
        rcases seenV_mem' (colV (getK (putWs (m.s.last + 1) m.s.ks t.wrs) x.key) (m.s.last + 1 - 8)) (m.s.last + 1) with e | e
        · rw [e]; rfl
        · have hs := apply_ok hok (m.s.last + 1) t.wrs
          rw [ha] at hs
          exact (hs.getK x.key).2.2.1 _ (colV_sub _ e)
      rw [formed0 h3 (h1.trans hk), formed0 hfv hk]
    · rw [h2 hk]
  · rw [getV, if_neg (by simp only; omega)]
    simp only
    rw [hs1]
end Go.Proofs.YtcldpmkhpmlcbaaGreatDoor
