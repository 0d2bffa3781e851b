/- Clock, Own, Safe, Next, Done: what is asked of a queue. -/
import Derived.Test.YtcldpmkhpmlcbaaGreatDoorQBeg15
import Derived.StillTailTactics
import Derived.Deep.CutRange
set_option linter.unusedVariables false
set_option linter.unusedSimpArgs false
namespace Go.Proofs.YtcldpmkhpmlcbaaGreatDoor
open Go.RowKit Go.Shelf Go.Lib

theorem ret_own15 {a b : Nat} (h : a = b) : Ending.returned (.tuple #[.int .u64 (b : Int), .bool true]) = .returned (.tuple #[.int .u64 (a : Int), .bool true]) := by rw [h]
theorem own15 {w : World} {B p : Nat} {x : QD} {v : Value} {es : List EntD} {O : Nat → Prop} (h : QIn w B p x v es O) {i : IdD} (hh : hasQ x i = true) (hlen : x.l.length < 900000) :
    Calls Tryz.prog 142 #[.pointer (some ⟨p, 0, none⟩), .agg #[.int .i64 i.ses, .int .i64 i.seq]] w fun e w' => e = .returned (.tuple #[.int .u64 ((oneQ x i).own : Int), .bool true]) ∧ Below w.heap.size w w' := by
  obtain ⟨W, eW, HB, b0, b1⟩ := box2 w (.int .i64 i.ses) (.int .i64 i.seq) 34
  have H := Lib.hid (h.later HB)
  clear h
  have HF := Lib.hid hh
  have hlt : findK x.l i < es.length := by rw [H.out.len]; simpa [hasQ] using hh
  obtain ⟨en, hen⟩ : ∃ en, es.getD (findK x.l i) default = en := ⟨_, rfl⟩
  have hOne := H.out.one _ (ent_mem hlt)
  have ho := H.out.at_o hlt
  rw [hen] at hOne ho
  obtain ⟨ep, emb, egv, eo⟩ := en
  dsimp only at hOne ho
  obtain ⟨_, _, _, c3, _⟩ := hOne.cs
  have HO : Hid ((oneQ x i).own = eo.own) := by show _ = _; rw [oneQ, ← ho]
  have HV : Hid ((if hasQ x i = true then (es.getD (findK x.l i) default).ptr else Value.pointer none) = .pointer (some ⟨ep, 0, none⟩)) := by show _ = _; rw [if_pos hh, hen]; rfl
  clear hh hlt hen hOne ho
  go_enter Tryz.func142, Tryz.ntmps142
  go_wp2_with (go_at_call 144; (with_reducible refine (find15 H.out i (by omega)).mono ?_); rintro e w2 ⟨rfl, hb2⟩; rw [HV.out]; have d3 := keep hb2 c3; clear c3)
  go_ret2
  exact ⟨ret_own15 HO.out, keepB HB hb2⟩
/-! ### Next -/
def nextV (x : QD) : Value := match nextQ x with
  | none => .tuple #[.agg #[.int .i64 0, .int .i64 0], .int .u64 0, .bool false]
  | some (i, s) => .tuple #[.agg #[.int .i64 i.ses, .int .i64 i.seq], .int .u64 (s : Int), .bool true]
theorem results_cell_tmp2 {P : Program} {fn : Func} {p u v : Tmp} {ty : TypeId} (h : fn.results = #[.cell p ty, .tmp u, .tmp v]) (tmps : Array Value) (w : World) (g : Nat) (t : TypeId) (cs : Array Value) (fr : Nat × Nat) (d : TypeDesc)
    (hp : tmps.getD p undef = .pointer (some ⟨g, 0, none⟩)) (hg : w.heap[g]? = some (.cells cs t fr))
    (hu : P.underlying ty = some d) (hd : (match d with | .struct _ | .array _ _ => true | _ => false) = true) (hi : (P.info? ty).map (·.size) = some cs.size) :
    (results fn tmps).run P w = .ok (.tuple #[.agg cs, tmps.getD u undef, tmps.getD v undef]) w := by
  have hp' : tmps[p]?.getD undef = .pointer (some ⟨g, 0, none⟩) := by simpa using hp
  simp [results, h, hp', asAddr, run_loadVar_row w g t ty cs fr d hg hu hd hi]
theorem info_id15 : (Tryz.prog.info? 34).map (·.size) = some 2 := by kernel_rfl
theorem id_set15 {w : World} {g : Nat} {a b a' b' : Value} {t : TypeId} (h : w.heap[g]? = some (.cells #[a', b'] t (0, 0))) : ((w.setCell ⟨g, 0, none⟩ a).setCell ⟨g, 1, none⟩ b).heap[g]? = some (.cells #[a, b] t (0, 0)) := by
  rw [blk_setc _ (blk_setc _ h)]; rfl
theorem below_sets15 {w W : World} {g : Nat} (h : Below w.heap.size w W) (hg : w.heap.size ≤ g) (a b : Value) : Below w.heap.size w ((W.setCell ⟨g, 0, none⟩ a).setCell ⟨g, 1, none⟩ b) :=
  (h.setCell hg _).setCell hg _
set_option maxHeartbeats 2000000 in
theorem next15 {w : World} {B p : Nat} {x : QD} {v : Value} {es : List EntD} {O : Nat → Prop} (h : QIn w B p x v es O) (hx : QOK x) :
    Calls Tryz.prog 91 #[.pointer (some ⟨p, 0, none⟩)] w fun e w' => e = .returned (nextV x) ∧ Below w.heap.size w w' := by
  obtain ⟨W, eW, HB, b0, b1⟩ := box2 w (.int .i64 0) (.int .i64 0) 34
  have hbW : W.heap[w.heap.size]? = some (.cells #[.int .i64 0, .int .i64 0] 34 (0, 0)) := by rw [← eW]; exact heap_alloc_new w _
  have fz0 := frozen_of_row W w.heap.size 0 _ _ hbW
  have fz1 := frozen_of_row W w.heap.size 1 _ _ hbW
  have h0 := h
  have h := h.later HB
  obtain ⟨c0, c1, c2⟩ := h.cs
  obtain ⟨A, cap, rfl, _, hA⟩ := h.at_
  cases es with
  | nil =>
    have HS : Hid (nextV x = .tuple #[.agg #[.int .i64 0, .int .i64 0], .int .u64 0, .bool false]) := by
      show _ = _
      have := h.eq
      simp at this
      rw [nextV, nextQ, this]
    have hbW' := Lib.hid hbW
    clear h hA hbW
    go_enter Tryz.func91, Tryz.ntmps91
    go_wp2
    refine bodyPost_ret (results_cell_tmp2 rfl _ _ w.heap.size _ #[.int .i64 0, .int .i64 0] _ _ rfl (id_set15 hbW'.out) Tryz.underlying34 rfl info_id15) rfl ?_
    exact ⟨by rw [HS.out]; rfl, below_sets15 HB (Nat.le_refl _) _ _⟩
  | cons en es =>
    obtain ⟨g, off, rfl, d0⟩ := hA 0 (by simp)
    have hl := h.eq
    have hmem : en.o ∈ x.l := by rw [← hl]; simp
    have hOk := hx.one _ hmem
    have HT := Lib.hid (h.one en (by simp))
    have hnd := Lib.hid hOk.nd
    obtain ⟨ln, hln⟩ : ∃ ln, (en :: es).length = ln := ⟨_, rfl⟩
    have hln0 : 0 < ln := by rw [← hln]; simp
    rw [hln] at c2
    have hlnk := Lib.hid hln
    have hln1 : ((ln : Int) == 0) = false := by rw [beq_eq_false_iff_ne]; omega
    have d0' : W.cell? ⟨g, off, none⟩ = some (.pointer (some ⟨en.p, 0, none⟩)) := d0
    obtain ⟨ep, emb, egv, eo⟩ := en
    dsimp only at HT hnd hl d0'
    obtain ⟨e0, e1, _, _, _, e5⟩ := HT.out.cs
    obtain ⟨fi, hfi⟩ : ∃ fi, eo.final = fi := ⟨_, rfl⟩
    rw [hfi] at e5
    have hHB := Lib.hid HB
    cases fi
    · have HS : Hid (nextV x = .tuple #[.agg #[.int .i64 0, .int .i64 0], .int .u64 0, .bool false]) := by
        show _ = _
        rw [nextV, nextQ, ← hl]
        simp [hfi]
      have hbW' := Lib.hid hbW
      clear h hA hbW hl hmem hOk hfi d0 hln
      go_enter Tryz.func91, Tryz.ntmps91
      go_wp2
      refine bodyPost_ret (results_cell_tmp2 rfl _ _ w.heap.size _ #[.int .i64 0, .int .i64 0] _ _ rfl (id_set15 hbW'.out) Tryz.underlying34 rfl info_id15) rfl ?_
      exact ⟨by rw [HS.out]; rfl, below_sets15 HB (Nat.le_refl _) _ _⟩
    · have HS : Hid (nextV x = .tuple #[.agg #[.int .i64 eo.id.ses, .int .i64 eo.id.seq], .int .u64 (eo.stamp : Int), .bool true]) := by
        show _ = _
        rw [nextV, nextQ, ← hl]
        simp [hfi]
      have hbW' := Lib.hid hbW
      clear h hA hbW hl hmem hOk hfi d0 hln
      obtain ⟨st, hst⟩ : ∃ st, eo.stamp = st := ⟨_, rfl⟩
      rw [hst] at HS
      obtain ⟨_, _, c2w⟩ := h0.cs
      obtain ⟨A', cap', eA, _, hA'⟩ := h0.at_
      cases eA
      obtain ⟨g', off', eg, d0w⟩ := hA' 0 (by simp)
      cases eg
      have d0w' : w.cell? ⟨g, off, none⟩ = some (.pointer (some ⟨ep, 0, none⟩)) := d0w
      obtain ⟨e0w, e1w, _⟩ := (h0.one _ (List.mem_cons_self ..)).cs
      dsimp only at e0w e1w
      have hszW : Hid (w.heap.size < W.heap.size) := by show _ < _; rw [← eW]; simp
      obtain ⟨s0, hs0⟩ : ∃ s0, eo.id.ses = s0 := ⟨_, rfl⟩
      obtain ⟨s1, hs1⟩ : ∃ s1, eo.id.seq = s1 := ⟨_, rfl⟩
      rw [hs0] at e0 e0w HS
      rw [hs1] at e1 e1w HS
      have HST : Hid (∀ wz, Below W.heap.size W wz → Calls Tryz.prog 105 #[.pointer (some ⟨ep, 0, none⟩)] wz (GrewV wz (.int .u64 (st : Int)))) := fun wz hb => by
        have := stamp15 (HT.out.later hb) hnd.out
        rw [hst] at this
        exact this
      have hln' : Hid (({ p := ep, mb := emb, gv := egv, o := eo } :: es : List EntD).length = ln) := hlnk.out
      rw [hln'.out] at c2w
      have HST2 := Lib.hid (HST.out W.drew (below_drew (Below.refl W.heap.size W)))
      clear hs0 hs1 hst h0 hA' d0w
      go_enter Tryz.func91, Tryz.ntmps91
      go_wp2
      go_region_held3 (fun w' => w'.cell? ⟨p, 2, none⟩ = some (.slice (some ⟨g, off, none⟩) ln cap) ∧ w'.cell? ⟨g, off, none⟩ = some (.pointer (some ⟨ep, 0, none⟩)) ∧ w'.cell? ⟨ep, 0, none⟩ = some (.int .i64 s0) ∧ w'.cell? ⟨ep, 1, none⟩ = some (.int .i64 s1) ∧ Below w.heap.size w w')
        (first | exact ⟨c2, d0', e0, e1, below_drew HB⟩ | exact ⟨keep hB2 c2w, keep hB2 d0w', keep hB2 e0w, keep hB2 e1w, hB2⟩ | exact ⟨keep hB3 c2w, keep hB3 d0w', keep hB3 e0w, keep hB3 e1w, hB3⟩)
        ((go_at_call 105; refine HST2.out.mono ?_; rintro e w2 ⟨rfl, hb2⟩; have hB2 : Below w.heap.size w w2 := keepB HB (keepB (below_drew (Below.refl W.heap.size W)) hb2.b); have hq2 : w2.heap[w.heap.size]? = some (.cells #[.int .i64 0, .int .i64 0] 34 (0, 0)) := (by rw [hb2.b.block w.heap.size hszW.out]; first | done | exact hbW'.out); have hd0 : w2.cell? ⟨w.heap.size, 0, none⟩ = some (.int .i64 0) := (by rw [cell_of_row w2 _ _ _ _ _ hq2]; rfl); have hd1 : w2.cell? ⟨w.heap.size, 1, none⟩ = some (.int .i64 0) := (by rw [cell_of_row w2 _ _ _ _ _ hq2]; rfl); have hf0 := frozen_of_row w2 w.heap.size 0 _ _ hq2; have hf1 := frozen_of_row w2 w.heap.size 1 _ _ hq2; have hB3 := below_sets15 hB2 (Nat.le_refl w.heap.size) (Value.int .i64 s0) (Value.int .i64 s1)))
      go_wp2
      refine bodyPost_ret (results_cell_tmp2 rfl _ _ w.heap.size _ #[.int .i64 s0, .int .i64 s1] _ _ rfl (id_set15 hq2) Tryz.underlying34 rfl info_id15) rfl ?_
      exact ⟨by rw [HS.out]; rfl, hB3⟩
end Go.Proofs.YtcldpmkhpmlcbaaGreatDoor
/- Done: the next one goes; Begin where there are too many. -/
namespace Go.Proofs.YtcldpmkhpmlcbaaGreatDoor
open Go.RowKit Go.Shelf Go.Lib

theorem QIn.pop {w : World} {B p : Nat} {x : QD} {v v' : Value} {en : EntD} {es : List EntD} {O : Nat → Prop} (h : QIn w B p x v (en :: es) O) (hr : TailRow w B 191 v' (es.map EntD.ptr)) (hv : ∀ g, v'.ownBlock = some g → v.ownBlock = some g) :
    QIn (w.setCell ⟨p, 2, none⟩ v') B p (doneQ x) v' es O := by
  have ho := out_setc w p 2 v'
  have hb := blk_setc (j := 2) v' h.blk
  have hm : ∀ e ∈ es, e ∈ en :: es := fun e he => List.mem_cons_of_mem _ he
  have hnp := h.np
  have hnm := h.nm
  simp only [List.map_cons, List.nodup_cons] at hnp hnm
  exact { blk := hb, row := hr.out ho (fun g hg e => hr.ne h.blk (by decide) hg e), eq := by rw [doneQ, ← h.eq]; rfl, one := fun e he => (h.one e (hm e he)).past_q h.blk ho, np := hnp.2, nm := hnm.2, hp := h.hp, mv := fun g hg => h.mv g (hv g hg), me := fun e he => h.me e (hm e he), lt := fun k hk => ⟨(h.lt k hk).1, Nat.lt_of_lt_of_le (h.lt k hk).2 ho.size⟩ }
set_option maxHeartbeats 2000000 in
theorem done15 {w : World} {B p : Nat} {x : QD} {v : Value} {es : List EntD} {O : Nat → Prop} (h : QIn w B p x v es O) (hx : QOK x) {i : IdD} {s : Nat} (hn : nextQ x = some (i, s)) :
    Calls Tryz.prog 97 #[.pointer (some ⟨p, 0, none⟩), .agg #[.int .i64 i.ses, .int .i64 i.seq]] w (QPost w B p (doneQ x) O (.bool true)) := by
  obtain ⟨W, eW, HB, b0, b1⟩ := box2 w (.int .i64 i.ses) (.int .i64 i.seq) 34
  have HN : Hid (nextV x = .tuple #[.agg #[.int .i64 i.ses, .int .i64 i.seq], .int .u64 (s : Int), .bool true]) := by show _ = _; rw [nextV, hn]
  have H := Lib.hid (h.later HB)
  have h0 := Lib.hid h
  have HX := Lib.hid hx
  cases es with
  | nil =>
    have := h.eq
    simp at this
    rw [nextQ, this] at hn
    cases hn
  | cons en es =>
    clear hn h hx
    have HC := Lib.hid (next15 H.out HX.out)
    rw [HN.out] at HC
    obtain ⟨A, cap, rfl, hcap, _⟩ := H.out.at_
    obtain ⟨ln, hln⟩ : ∃ ln, (en :: es).length = ln := ⟨_, rfl⟩
    obtain ⟨_, _, c2⟩ := H.out.cs
    have fz2 := H.out.fz 2
    rw [hln] at c2 hcap
    have hln1 : 1 ≤ ln := by rw [← hln]; simp
    have hln' := Lib.hid hln
    have hcut : ∀ w', Below W.heap.size W w' → TailRow w' B 191 (.slice (if cap = 1 then A else A.map (·.add (1 * 1))) (ln - 1) (cap - 1)) (es.map EntD.ptr) := fun w' hb => by
      have := (H.out.row.later hb).cut (A := A) (n := ln) (cap := cap) (k := 1) (by rw [hln]) (by simp)
      simpa using this
    replace hcut := Lib.hid hcut
    have hbk : Hid (∀ g, (Value.slice (if cap = 1 then A else A.map (·.add (1 * 1))) (ln - 1) (cap - 1)).ownBlock = some g → (Value.slice A (en :: es).length cap).ownBlock = some g) := by
      intro g
      split
      · cases A <;> exact id
      · cases A <;> exact id
    clear hln
    by_cases hc1 : cap = 1
    · rw [if_pos hc1] at hcut hbk
      have hln2 : ln = 1 := by omega
      subst hc1 hln2
      go_enter Tryz.func97, Tryz.ntmps97
      go_wp2_with (go_at_call 91; refine HC.out.mono ?_; rintro e w1 ⟨rfl, hb1⟩; have hbo : ∀ o, Below W.heap.size W (w1.alloc o) := fun o => keepB hb1 (below1 w1 o); have c2' := fun o => keep (hbo o) c2; have b0' := fun o => keep (hbo o) b0; have b1' := fun o => keep (hbo o) b1; have fz3 := fun o => (H.out.later (hbo o)).fz 2; replace hbo := Lib.hid hbo)
      go_ret
      obtain ⟨wE, hwE⟩ : ∃ wE, w1.alloc (.cells #[.int .i64 i.ses, .int .i64 i.seq] 34) = wE := ⟨_, rfl⟩
      have hbE := hbo.out (.cells #[.int .i64 i.ses, .int .i64 i.seq] 34)
      rw [hwE] at hbE ⊢
      have hP := ((H.out.later hbE).pop (hcut.out wE hbE) hbk.out)
      have hO : ∀ u, Out O w (wE.setCell ⟨p, 2, none⟩ u) := fun u => (Out.of_below (keepB HB hbE)).trans' ((out_setc wE p 2 _).mono fun k hk => by rw [hk]; exact h0.out.hp)
      exact ⟨rfl, ⟨_, _, hP.mono (fun k hk => .inl hk) (fun k hk => hk.elim (fun q => ⟨(h0.out.lt k q).1, by exact Nat.lt_of_lt_of_le (h0.out.lt k q).2 (hO _).size⟩) (fun q => ⟨Nat.le_trans h0.out.hB q.1, q.2⟩))⟩, hO _⟩
    · rw [if_neg hc1] at hcut hbk
      have hc2 : ¬ cap = 1 := hc1
      go_enter Tryz.func97, Tryz.ntmps97
      go_wp2_with (go_at_call 91; refine HC.out.mono ?_; rintro e w1 ⟨rfl, hb1⟩; have hbo : ∀ o, Below W.heap.size W (w1.alloc o) := fun o => keepB hb1 (below1 w1 o); have c2' := fun o => keep (hbo o) c2; have b0' := fun o => keep (hbo o) b0; have b1' := fun o => keep (hbo o) b1; have fz3 := fun o => (H.out.later (hbo o)).fz 2; replace hbo := Lib.hid hbo)
      go_ret
      obtain ⟨wE, hwE⟩ : ∃ wE, w1.alloc (.cells #[.int .i64 i.ses, .int .i64 i.seq] 34) = wE := ⟨_, rfl⟩
      have hbE := hbo.out (.cells #[.int .i64 i.ses, .int .i64 i.seq] 34)
      rw [hwE] at hbE ⊢
      have hP := ((H.out.later hbE).pop (hcut.out wE hbE) hbk.out)
      have hO : ∀ u, Out O w (wE.setCell ⟨p, 2, none⟩ u) := fun u => (Out.of_below (keepB HB hbE)).trans' ((out_setc wE p 2 _).mono fun k hk => by rw [hk]; exact h0.out.hp)
      exact ⟨rfl, ⟨_, _, hP.mono (fun k hk => .inl hk) (fun k hk => hk.elim (fun q => ⟨(h0.out.lt k q).1, by exact Nat.lt_of_lt_of_le (h0.out.lt k q).2 (hO _).size⟩) (fun q => ⟨Nat.le_trans h0.out.hB q.1, q.2⟩))⟩, hO _⟩
end Go.Proofs.YtcldpmkhpmlcbaaGreatDoor
/- One that waits is changed in its place. -/
namespace Go.Proofs.YtcldpmkhpmlcbaaGreatDoor
open Go.RowKit Go.Shelf Go.Lib

theorem getD_ne_of_nodup {α : Type} {f : EntD → α} {es : List EntD} (hn : (es.map f).Nodup) {j k : Nat} (hj : j < es.length) (hk : k < es.length) (hne : j ≠ k) : f (es.getD j default) ≠ f (es.getD k default) := by
  intro e
  have h := List.pairwise_iff_getElem.1 hn
  simp only [List.getD_eq_getElem?_getD, List.getElem?_eq_getElem hj, List.getElem?_eq_getElem hk, Option.getD_some] at e
  rcases Nat.lt_or_gt_of_ne hne with q | q
  · exact h j k (by simpa using hj) (by simpa using hk) q (by simpa using e)
  · exact h k j (by simpa using hk) (by simpa using hj) q (by simpa using e.symm)
theorem mem_set_cases {es : List EntD} {k : Nat} {e e' : EntD} (h : e ∈ es.set k e') : e = e' ∨ ∃ j, j < es.length ∧ j ≠ k ∧ e = es.getD j default := by
  obtain ⟨j, hj, rfl⟩ := List.mem_iff_getElem.1 h
  rw [List.length_set] at hj
  by_cases hjk : j = k
  · subst hjk; left; simp
  · right
    refine ⟨j, hj, hjk, ?_⟩
    rw [List.getElem_set, if_neg (fun q => hjk q.symm), List.getD_eq_getElem?_getD, List.getElem?_eq_getElem hj]
    rfl
theorem map_set_same {α : Type} {f : EntD → α} {es : List EntD} {k : Nat} {e : EntD} (hk : k < es.length) (he : f e = f (es.getD k default)) : (es.set k e).map f = es.map f := by
  rw [List.map_set, he, List.getD_eq_getElem?_getD, List.getElem?_eq_getElem hk]
  simp only [Option.getD_some]
  have h2 : f es[k] = (es.map f)[k]'(by simpa using hk) := by simp
  rw [h2]
  exact List.set_getElem_self _
/-- An entry whose one is another. -/
def EntD.put (e : EntD) (o : OneD) : EntD := ⟨e.p, e.mb, e.gv, o⟩
theorem QIn.turn {w w' : World} {B p : Nat} {x : QD} {v : Value} {es : List EntD} {O : Nat → Prop} (h : QIn w B p x v es O) {k : Nat} (hk : k < es.length) (ho : Out (fun b => b = (es.getD k default).p ∨ b = (es.getD k default).mb) w w')
    {o' : OneD} (h1 : OneIn w' B (es.getD k default).p (es.getD k default).mb (es.getD k default).gv o') :
    QIn w' B p ⟨x.g, x.clock, x.l.set k o'⟩ v (es.set k ((es.getD k default).put o')) O := by
  have hK := h.one _ (ent_mem hk)
  have hpne : ∀ {q : Nat} {cs : Array Value} {t : TypeId} {f : Nat × Nat}, w.heap[q]? = some (.cells cs t f) → t ≠ 200 → ¬ (q = (es.getD k default).p ∨ q = (es.getD k default).mb) := by
    intro q cs t f hq ht e
    rcases e with e | e
    · exact blk_ne hq hK.blk (cells_ne ht) e
    · exact map_ne hK.kn hq e.symm
  refine { blk := ho.obj h.blk (hpne h.blk (by decide)), row := ?_, eq := ?_, one := ?_, np := ?_, nm := ?_, hp := h.hp, mv := h.mv, me := ?_, lt := fun q hq => ⟨(h.lt q hq).1, Nat.lt_of_lt_of_le (h.lt q hq).2 ho.size⟩ }
  · rw [map_set_same (e := (es.getD k default).put o') hk rfl]
    refine h.row.out ho (fun g hg e => ?_)
    rcases h.row with ⟨rfl, _⟩ | ⟨g', off, cap, cur, rfl, _, hh, _⟩
    · cases hg
    · injection hg with hg
      subst hg
      exact hpne hh (by decide) e
  · rw [List.map_set, h.eq]; rfl
  · intro e he
    rcases mem_set_cases he with rfl | ⟨j, hj, hjk, rfl⟩
    · exact h1
    · have hJ := h.one _ (ent_mem hj)
      refine hJ.out ho (fun e => ?_) (fun e => ?_) (fun g hg e => ?_)
      · rcases e with e | e
        · exact getD_ne_of_nodup h.np hj hk hjk e
        · exact map_ne hK.kn hJ.blk e.symm
      · rcases e with e | e
        · exact map_ne hJ.kn hK.blk e
        · exact getD_ne_of_nodup h.nm hj hk hjk e
      · rcases e with e | e
        · exact row_ne hJ.gr hK.blk (by decide) hg e
        · rcases hJ.gr.2 with ⟨hq, _⟩ | ⟨g', cap, cur, hq, _, hh, _⟩
          · rw [hq] at hg; cases hg
          · rw [hq] at hg
            injection hg with hg
            subst hg
            exact map_ne hK.kn hh e.symm
  · rw [map_set_same (e := (es.getD k default).put o') hk rfl]; exact h.np
  · rw [map_set_same (e := (es.getD k default).put o') hk rfl]; exact h.nm
  · intro e he
    rcases mem_set_cases he with rfl | ⟨j, hj, hjk, rfl⟩
    · have := h.me (es.getD k default) (ent_mem hk)
      exact this
    · exact h.me _ (ent_mem hj)
end Go.Proofs.YtcldpmkhpmlcbaaGreatDoor
/- Learn: another group's stamp. -/
namespace Go.Proofs.YtcldpmkhpmlcbaaGreatDoor
open Go.RowKit Go.Shelf Go.Lib Go.Maps

theorem zeroU15 (w : World) : (zeroValue 39).run Tryz.prog w = .ok (.int .u64 0) w := by kernel_rfl
theorem rightTo_ge {gs : List Int} {n : Nat} (h : rightTo gs n = true) : ∀ k, k < n → (k : Int) ≤ gs.getD k 0
  | 0, hk => (rightTo_at h hk).1.1
  | k + 1, hk => by
    have h1 := rightTo_ge h k (by omega)
    have h2 := (rightTo_at h hk).2
    simp only [Nat.add_sub_cancel] at h2
    omega
theorem rightB_len {g : Int} {gs : List Int} (h : rightB g gs = true) : gs.length ≤ 4 := by
  have h' : rightTo gs gs.length = true := by
    simp only [rightB, Bool.and_eq_true] at h
    exact h.1
  by_cases hl : gs.length ≤ 4
  · exact hl
  · exfalso
    have h1 := rightTo_ge h' 4 (by omega)
    have h2 := (rightTo_at h' (show 4 < gs.length by omega)).1.2
    omega
set_option maxHeartbeats 2000000 in
theorem learn15_none {w : World} {B p : Nat} {x : QD} {v : Value} {es : List EntD} {O : Nat → Prop} (h : QIn w B p x v es O) {i : IdD} (g : Int) (s : Nat) (hh : hasQ x i = false) (hlen : x.l.length < 900000) :
    Calls Tryz.prog 89 #[.pointer (some ⟨p, 0, none⟩), .agg #[.int .i64 i.ses, .int .i64 i.seq], .int .i64 g, .int .u64 (s : Int)] w (QPost w B p (learnQ x i g s) O (.int .i64 (learnE x i g s))) := by
  obtain ⟨W, eW, HB, b0, b1⟩ := box2 w (.int .i64 i.ses) (.int .i64 i.seq) 34
  have H := Lib.hid (h.later HB)
  have h0 := Lib.hid h
  have hK : learnK x i g s = 6 := by rw [learnK, if_pos hh]
  have HQ : Hid (learnQ x i g s = x) := by show _ = _; rw [learnQ, hK]; rfl
  have HE : Hid (learnE x i g s = 6) := by show _ = _; rw [learnE, hK]; rfl
  have HV : Hid ((if hasQ x i = true then (es.getD (findK x.l i) default).ptr else Value.pointer none) = .pointer none) := by show _ = _; rw [hh]; rfl
  clear h hK hh
  go_enter Tryz.func89, Tryz.ntmps89
  go_wp2_with (go_at_call 144; (with_reducible refine (find15 H.out i (by omega)).mono ?_); rintro e w2 ⟨rfl, hb2⟩; rw [HV.out])
  go_ret
  have hb := keepB HB hb2
  exact ⟨ret_int15 HE.out, by rw [HQ.out]; exact QAt.stay ⟨_, _, h0.out⟩ hb, Out.of_below hb⟩
/-- What the walk of Learn wants of the one that it found. -/
structure Found (w : World) (B : Nat) (x : QD) (es : List EntD) (i : IdD) (k ep emb : Nat) (egv : Value) (eo : OneD) : Prop where
  hk : findK x.l i = k
  lt : k < es.length
  en : es.getD k default = ⟨ep, emb, egv, eo⟩
  one : OneIn w B ep emb egv eo
  ho : oneQ x i = eo
theorem found15 {w : World} {B p : Nat} {x : QD} {v : Value} {es : List EntD} {O : Nat → Prop} (h : QIn w B p x v es O) {i : IdD} (hh : hasQ x i = true) : ∃ k ep emb egv eo, Found w B x es i k ep emb egv eo := by
  have hlt : findK x.l i < es.length := by rw [h.len]; simpa [hasQ] using hh
  have hOne := h.one _ (ent_mem hlt)
  have ho := h.at_o hlt
  obtain ⟨en, hen⟩ : ∃ en, es.getD (findK x.l i) default = en := ⟨_, rfl⟩
  rw [hen] at hOne ho
  obtain ⟨ep, emb, egv, eo⟩ := en
  exact ⟨_, ep, emb, egv, eo, rfl, hlt, hen, hOne, by rw [oneQ, ← ho]⟩
theorem Found.v {w : World} {B k ep emb : Nat} {x : QD} {es : List EntD} {i : IdD} {egv : Value} {eo : OneD} (h : Found w B x es i k ep emb egv eo) (hh : hasQ x i = true) :
    (if hasQ x i = true then (es.getD (findK x.l i) default).ptr else Value.pointer none) = .pointer (some ⟨ep, 0, none⟩) := by rw [if_pos hh, h.hk, h.en]; rfl
set_option maxRecDepth 100000 in
set_option maxHeartbeats 4000000 in
/-- It is not learnt: the argument is wrong, or it is known. -/
theorem learn15_same {w : World} {B p : Nat} {x : QD} {v : Value} {es : List EntD} {O : Nat → Prop} (h : QIn w B p x v es O) (hx : QOK x) {i : IdD} {g : Int} {s : Nat} (hg0 : -9223372036854775808 ≤ g) (hg1 : g ≤ 9223372036854775807) (hh : hasQ x i = true) (hk : learnK x i g s ≠ 2) (hlen : x.l.length < 900000) :
    Calls Tryz.prog 89 #[.pointer (some ⟨p, 0, none⟩), .agg #[.int .i64 i.ses, .int .i64 i.seq], .int .i64 g, .int .u64 (s : Int)] w (QPost w B p (learnQ x i g s) O (.int .i64 (learnE x i g s))) := by
  obtain ⟨W, eW, HB, b0, b1⟩ := box2 w (.int .i64 i.ses) (.int .i64 i.seq) 34
  have H := Lib.hid (h.later HB)
  have h0 := Lib.hid h
  obtain ⟨k, ep, emb, egv, eo, F⟩ := found15 H.out hh
  have HV := Lib.hid (F.v hh)
  have HQ : Hid (learnQ x i g s = x) := by show _ = _; rw [learnQ, if_neg hk]
  obtain ⟨c0, _, _⟩ := H.out.cs
  obtain ⟨_, _, d2, _, d4, _⟩ := F.one.cs
  obtain ⟨A, cap, eA, _, hI⟩ := own_ints F.one.gr
  rw [eA] at d2
  have hok := hx.one eo (by rw [← F.ho]; exact (hasQ_id hh).2.2)
  have hgn : eo.gs.length ≤ 1000 := by
    have := rightB_len hok.gs
    omega
  have HC : Hid (∀ wz, Below W.heap.size W wz → Calls Tryz.prog 85 #[.slice A eo.gs.length cap, .int .i64 g] wz fun e w' => e = .returned (.bool (hasI eo.gs g)) ∧ wz = w') := fun wz hb => contains16_any eo.gs A cap g wz (CellsAt.later hI hb) (by omega)
  have hfin : ∀ w2, Below W.heap.size W w2 → QAt w2 B p (learnQ x i g s) (ext O w w2) ∧ Out O w w2 := fun w2 hb => by
    have hb := keepB HB hb
    exact ⟨by rw [HQ.out]; exact QAt.stay ⟨_, _, h0.out⟩ hb, Out.of_below hb⟩
  replace hfin := Lib.hid hfin
  have hmap := Lib.hid F.one.kn
  have hlook := Lib.hid (fun c => look_putsU (c := c) hok.nd g)
  by_cases q1 : g = x.g
  · have HE : Hid (learnE x i g s = 1) := by
      have : learnK x i g s = 1 := by rw [learnK, if_neg (by rw [hh]; decide), if_pos (by simp [q1])]
      show _ = _; rw [learnE, this]; rfl
    have q1' : (g == x.g) = true := by rw [beq_iff_eq]; exact q1
    clear h hh hk hx hI hok F q1 h0
    go_enter Tryz.func89, Tryz.ntmps89
    go_wp2_with (go_at_call 144; (with_reducible refine (find15 H.out i (by omega)).mono ?_); rintro e w2 ⟨rfl, hb2⟩; rw [HV.out]; replace c0 := keep hb2 c0)
    go_ret
    exact ⟨ret_int15 HE.out, hfin.out _ hb2⟩
  · have q1' : (g == x.g) = false := by rw [beq_eq_false_iff_ne]; exact q1
    have hkno : ∀ b1 b2 b3 : Bool, eo.gs.contains g = b1 → decide (s < 1) = b2 → decide (mostQ < s) = b3 → (!b1 || b2 || b3) = true → learnK x i g s = 1 := fun b1 b2 b3 e1 e2 e3 e4 => by
      rw [learnK, if_neg (by rw [hh]; decide), F.ho, e1, e2, e3]
      rw [if_pos (by revert e4; cases b1 <;> cases b2 <;> cases b3 <;> simp)]
    have hkc : eo.gs.contains g = true → 1 ≤ s → s ≤ mostQ → hasK eo.known g = false → learnK x i g s = 2 := fun e1 e2 e3 e4 => by
      rw [learnK, if_neg (by rw [hh]; decide), F.ho, e1, e4]
      rw [if_neg (by simp [q1]; omega)]
      rfl
    by_cases q2 : hasI eo.gs g = true
    case neg =>
      have q2f : hasI eo.gs g = false := by simpa using q2
      have hcq := Lib.hid q2f
      have HE : Hid (learnE x i g s = 1) := by
        show _ = _; rw [learnE, hkno false _ _ q2f rfl rfl (by simp)]; rfl
      clear hkno hkc q2 q2f
      clear h hh hk hx hI hok F q1 h0
      go_enter Tryz.func89, Tryz.ntmps89
      go_wp2_with (first
        | (go_at_call 144; (with_reducible refine (find15 H.out i (by omega)).mono ?_); rintro e w2 ⟨rfl, hb2⟩; rw [HV.out]; replace c0 := keep hb2 c0; replace d2 := keep hb2 d2; replace d4 := keep hb2 d4; have hC2 := HC.out w2 hb2; rw [hcq.out] at hC2; have hm2 : uMap w2 emb eo.known := hmap.out.later hb2)
        | (go_at_call 85; (with_reducible refine hC2.mono ?_); rintro e w3 ⟨rfl, rfl⟩))
      go_ret
      exact ⟨ret_int15 HE.out, hfin.out _ hb2⟩
    have hcq := Lib.hid q2
    by_cases q3 : s < 1
    · have HE : Hid (learnE x i g s = 1) := by
        show _ = _; rw [learnE, hkno true true _ q2 (by simpa using q3) rfl (by simp)]; rfl
      have q3' : (s : Int) < 1 := by omega
      clear hkno hkc q2 q3
      clear h hh hk hx hI hok F q1 h0
      go_enter Tryz.func89, Tryz.ntmps89
      go_wp2_with (first
        | (go_at_call 144; (with_reducible refine (find15 H.out i (by omega)).mono ?_); rintro e w2 ⟨rfl, hb2⟩; rw [HV.out]; replace c0 := keep hb2 c0; replace d2 := keep hb2 d2; replace d4 := keep hb2 d4; have hC2 := HC.out w2 hb2; rw [hcq.out] at hC2; have hm2 : uMap w2 emb eo.known := hmap.out.later hb2)
        | (go_at_call 85; (with_reducible refine hC2.mono ?_); rintro e w3 ⟨rfl, rfl⟩))
      go_ret
      exact ⟨ret_int15 HE.out, hfin.out _ hb2⟩
    by_cases q4 : mostQ < s
    · have HE : Hid (learnE x i g s = 1) := by
        show _ = _; rw [learnE, hkno true false true q2 (by simpa using q3) (by simpa using q4) (by simp)]; rfl
      have q3' : decide ((s : Int) < 1) = false := by rw [decide_eq_false_iff_not]; omega
      have q4' : decide ((4611686018427387904 : Int) < (s : Int)) = true := by
        have : 4611686018427387904 < s := q4
        rw [decide_eq_true_iff]; omega
      clear hkno hkc q2 q3 q4
      clear h hh hk hx hI hok F q1 h0
      go_enter Tryz.func89, Tryz.ntmps89
      go_wp2_with (first
        | (go_at_call 144; (with_reducible refine (find15 H.out i (by omega)).mono ?_); rintro e w2 ⟨rfl, hb2⟩; rw [HV.out]; replace c0 := keep hb2 c0; replace d2 := keep hb2 d2; replace d4 := keep hb2 d4; have hC2 := HC.out w2 hb2; rw [hcq.out] at hC2; have hm2 : uMap w2 emb eo.known := hmap.out.later hb2)
        | (go_at_call 85; (with_reducible refine hC2.mono ?_); rintro e w3 ⟨rfl, rfl⟩))
      go_ret
      exact ⟨ret_int15 HE.out, hfin.out _ hb2⟩
    have q5 : hasK eo.known g = true := by
      cases q : hasK eo.known g
      · exact absurd (hkc q2 (by omega) (by omega) q) hk
      · rfl
    have HE : Hid (learnE x i g s = 0) := by
      have : learnK x i g s = 0 := by
        rw [learnK, if_neg (by rw [hh]; decide), F.ho, show eo.gs.contains g = true from q2, q5]
        rw [if_neg (by simp [q1]; omega)]
        rfl
      show _ = _; rw [learnE, this]; rfl
    have hpos : 1 ≤ valK eo.known g := by
      obtain ⟨u, hu, rfl⟩ := List.mem_map.1 (hasK_iff.1 q5)
      rw [valK_of_mem hok.nd hu]
      exact (hok.kn u hu).2.2.1
    have q3' : decide ((s : Int) < 1) = false := by rw [decide_eq_false_iff_not]; omega
    have q4' : decide ((4611686018427387904 : Int) < (s : Int)) = false := by
      have : ¬ 4611686018427387904 < s := q4
      rw [decide_eq_false_iff_not]; omega
    obtain ⟨c1, hc1⟩ : ∃ c1, valK eo.known g = c1 := ⟨_, rfl⟩
    rw [hc1] at hlook hpos
    have q6 : (0 : Int) < (c1 : Int) := by omega
    clear hkno hkc q2 q3 q4 q5 hpos hc1
    clear h hh hk hx hI hok F q1 h0
    go_enter Tryz.func89, Tryz.ntmps89
    go_wp2_with (first
      | (go_at_call 144; (with_reducible refine (find15 H.out i (by omega)).mono ?_); rintro e w2 ⟨rfl, hb2⟩; rw [HV.out]; replace c0 := keep hb2 c0; replace d2 := keep hb2 d2; replace d4 := keep hb2 d4; have hC2 := HC.out w2 hb2; rw [hcq.out] at hC2; have hm2 : uMap w2 emb eo.known := hmap.out.later hb2)
      | (go_at_call 85; (with_reducible refine hC2.mono ?_); rintro e w3 ⟨rfl, rfl⟩)
      | (at_lookup; refine wpList_lookup_own_int _ rfl _ _ 198 rfl 3 39 .u64 keyI15 Tryz.underlying198 Tryz.underlying39 (zeroU15 _) emb _ _ rfl hm2 _ _ rfl (keyOf_int_mk Tryz.underlying3 (WalkArith.wf_i64 ⟨hg0, hg1⟩)) ?_; intro c hc hwc; obtain rfl := hlook.out c hc; clear hc hwc))
    go_ret
    exact ⟨ret_int15 HE.out, hfin.out _ hb2⟩
end Go.Proofs.YtcldpmkhpmlcbaaGreatDoor
/- Learn: a stamp is learnt. -/
namespace Go.Proofs.YtcldpmkhpmlcbaaGreatDoor
open Go.RowKit Go.Shelf Go.Lib Go.Maps

/-- The one, its stamp learnt, in memory. -/
theorem OneIn.learnt {w w4 : World} {B p mb : Nat} {gv : Value} {o : OneD} (h : OneIn w B p mb gv o) {g : Int} {s : Nat} (hg : w.grownBy w4 (some mb)) (hm : w4.ownsMap Tryz.prog 3 (plainElem (H := Unit) Tryz.prog 39) mb (o.known.length + 1) ((putsU o.known).put (.int .i64 g) (.lit (.int .u64 (s : Int))))) {fb : Bool} (hf : decide (o.known.length + 1 + 1 = o.gs.length) = fb) :
    OneIn (w4.drew.setCell ⟨p, 5, none⟩ (.bool fb)) B p mb gv (learnOne o g s) ∧ Out (fun b => b = p ∨ b = mb) w (w4.drew.setCell ⟨p, 5, none⟩ (.bool fb)) := by
  have ho : Out (fun k => k = mb) w w4 := Out.of_grown hg (fun k e => by cases e; rfl)
  have hmp : mb ≠ p := map_ne h.kn h.blk
  have hb4 := ho.obj h.blk (fun e => hmp e.symm)
  have hod : Out (fun k => k = mb) w w4.drew := ⟨ho.os, ho.tape, ho.output, ho.size, ho.block⟩
  have oP := out_setc w4.drew p 5 (.bool fb)
  refine ⟨⟨?_, ?_, ?_⟩, (hod.mono fun k hk => .inr hk).trans' (oP.mono fun k hk => .inl hk)⟩
  · have := blk_setc (w := w4.drew) (j := 5) (.bool fb) hb4
    have e : (learnOne o g s).final = fb := hf
    rw [e]
    exact this
  · refine oP.row (hod.row h.gr (fun g' hg' e => ?_)) (fun g' hg' e => row_ne h.gr h.blk (by decide) hg' e)
    rcases h.gr.2 with ⟨hq, _⟩ | ⟨g2, cap, cur, hq, _, hh, _⟩
    · rw [hq] at hg'; cases hg'
    · rw [hq] at hg'
      injection hg' with hg'
      subst hg'
      exact map_ne h.kn hh e.symm
  · have h1 : uMap w4 mb (learnOne o g s).known := by
      show w4.ownsMap _ _ _ _ _ _
      have e : (learnOne o g s).known = o.known ++ [(g, s)] := rfl
      rw [e, putsU_snoc, List.length_append]
      exact hm
    have h2 : uMap w4.drew mb (learnOne o g s).known := h1.later (below_drew (Below.refl _ _))
    exact oP.map h2 hmp
set_option maxRecDepth 100000 in
set_option maxHeartbeats 4000000 in
theorem learn15_yes {w : World} {B p : Nat} {x : QD} {v : Value} {es : List EntD} {O : Nat → Prop} (h : QIn w B p x v es O) (hx : QOK x) {i : IdD} {g : Int} {s : Nat} (hg0 : -9223372036854775808 ≤ g) (hg1 : g ≤ 9223372036854775807) (hs64 : s < 18446744073709551616) (hh : hasQ x i = true) (hk : learnK x i g s = 2) (hlen : x.l.length < 900000) :
    Calls Tryz.prog 89 #[.pointer (some ⟨p, 0, none⟩), .agg #[.int .i64 i.ses, .int .i64 i.seq], .int .i64 g, .int .u64 (s : Int)] w (QPost w B p (learnQ x i g s) O (.int .i64 (learnE x i g s))) := by
  obtain ⟨W, eW, HB, b0, b1⟩ := box2 w (.int .i64 i.ses) (.int .i64 i.seq) 34
  have H := Lib.hid (h.later HB)
  have h0 := Lib.hid h
  obtain ⟨k, ep, emb, egv, eo, F⟩ := found15 H.out hh
  have HV := Lib.hid (F.v hh)
  have hLQ := Lib.hid (learn_ok hx i g s)
  have HE : Hid (learnE x i g s = 0) := by show _ = _; rw [learnE, hk]; rfl
  obtain ⟨c0, _, _⟩ := H.out.cs
  obtain ⟨_, _, d2, _, d4, d5⟩ := F.one.cs
  obtain ⟨A, cap, eA, _, hI⟩ := own_ints F.one.gr
  rw [eA] at d2
  have hok := hx.one eo (by rw [← F.ho]; exact (hasQ_id hh).2.2)
  have hgn : eo.gs.length ≤ 4 := rightB_len hok.gs
  have hK2 : g ≠ x.g ∧ eo.gs.contains g = true ∧ 1 ≤ s ∧ s ≤ mostQ ∧ hasK eo.known g = false := by
    have hk' := hk
    rw [learnK, if_neg (by rw [hh]; decide), F.ho] at hk'
    split at hk'; · cases hk'
    rename_i e2
    split at hk'; · cases hk'
    rename_i e3
    simp only [Bool.or_eq_true, decide_eq_true_eq, Bool.not_eq_true', not_or] at e2
    obtain ⟨⟨⟨g1, g2⟩, g3⟩, g4⟩ := e2
    exact ⟨g1, by simpa using g2, by omega, by omega, by simpa using e3⟩
  obtain ⟨q1, q2, q3, q4, q5⟩ := hK2
  have HC : Hid (∀ wz, Below W.heap.size W wz → Calls Tryz.prog 85 #[.slice A eo.gs.length cap, .int .i64 g] wz fun e w' => e = .returned (.bool true) ∧ wz = w') := fun wz hb => by
    have := contains16_any eo.gs A cap g wz (CellsAt.later hI hb) (by omega)
    rw [show hasI eo.gs g = true from q2] at this
    exact this
  have hlook : Hid (∀ c : Int, (putsU eo.known).atKey (.int .i64 g) (.lit (.int .u64 0)) = .lit (.int .u64 c) → c = 0) := fun c hc => by
    have := look_putsU hok.nd g c hc
    rw [valK_no q5] at this
    exact this
  have q1' : (g == x.g) = false := by rw [beq_eq_false_iff_ne]; exact q1
  have q3' : decide ((s : Int) < 1) = false := by rw [decide_eq_false_iff_not]; omega
  have q4' : decide ((4611686018427387904 : Int) < (s : Int)) = false := by
    have : s ≤ 4611686018427387904 := q4
    rw [decide_eq_false_iff_not]; omega
  have hwfs : (Lit.int .u64 (s : Int)).wf = true := WalkArith.wf_u64 ⟨by omega, by omega⟩
  have hkl : eo.known.length < 900000 := by
    have h3 : (eo.known.map (·.1)).length ≤ eo.gs.length := nodup_le hok.nd fun y hy => by
      obtain ⟨z, hz, rfl⟩ := List.mem_map.1 hy
      have := (hok.kn z hz).2.1
      exact List.contains_iff_mem.1 this
    rw [List.length_map] at h3
    omega
  have hne : some ep ≠ some emb := fun e => by
    cases e
    exact map_ne F.one.kn F.one.blk rfl
  obtain ⟨fb, hfb⟩ : ∃ fb, decide (eo.known.length + 1 + 1 = eo.gs.length) = fb := ⟨_, rfl⟩
  have hone := Lib.hid F.one
  have hBB := Lib.hid h.hB
  have hF := Lib.hid F
  obtain ⟨n1, hn1⟩ : ∃ n1 : Nat, eo.known.length + 1 = n1 := ⟨_, rfl⟩
  have hsize : Maps.size ((putsU eo.known).put (.int .i64 g) (.lit (.int .u64 (s : Int)))) = n1 := by
    rw [← putsU_snoc, size_putsU, List.length_append]
    · exact hn1
    · rw [List.map_append, List.nodup_append]
      refine ⟨hok.nd, by simp, fun a ha b hb => ?_⟩
      simp only [List.map_cons, List.map_nil, List.mem_singleton] at hb
      rw [hb]
      intro e
      rw [e] at ha
      rw [hasK_iff.2 ha] at q5
      cases q5
  obtain ⟨gl, hgl⟩ : ∃ gl : Nat, eo.gs.length = gl := ⟨_, rfl⟩
  rw [hgl] at HC d2 hgn
  have hgw : IntKind.i64.wrap ((gl : Int) - 1) = (gl : Int) - 1 := IntWalk.i64_in _ (by omega)
  have hcmp : (((n1 : Nat) : Int) == (gl : Int) - 1) = fb := by
    rw [← hfb, Bool.eq_iff_iff]
    simp only [decide_eq_true_eq, beq_iff_eq]
    omega
  have hmx : eo.known.length < maxLen := by unfold maxLen; omega
  have hfb2 := Lib.hid hfb
  have hgl2 := Lib.hid hgl
  have heA : Hid (egv = .slice A gl cap) := by show _ = _; rw [eA, hgl]
  have hmap := Lib.hid F.one.kn
  replace hsize := Lib.hid hsize
  have hkk := Lib.hid hk
  have hxx := Lib.hid hx
  clear h hh hk hx hI hok F h0 q1 q2 q3 q4 q5 hfb hn1 hgl eA
  go_enter Tryz.func89, Tryz.ntmps89
  go_wp2_with (first
    | (go_at_call 144; (with_reducible refine (find15 H.out i (by omega)).mono ?_); rintro e w2 ⟨rfl, hb2⟩; rw [HV.out]; replace c0 := keep hb2 c0; replace d2 := keep hb2 d2; replace d4 := keep hb2 d4; replace d5 := keep hb2 d5; have hC2 := HC.out w2 hb2; have hm2 : uMap w2 emb eo.known := hmap.out.later hb2)
    | (go_at_call 85; (with_reducible refine hC2.mono ?_); rintro e w3 ⟨rfl, rfl⟩)
    | (at_lookup; refine wpList_lookup_own_int _ rfl _ _ 198 rfl 3 39 .u64 keyI15 Tryz.underlying198 Tryz.underlying39 (zeroU15 _) emb _ _ rfl hm2 _ _ rfl (keyOf_int_mk Tryz.underlying3 (WalkArith.wf_i64 ⟨hg0, hg1⟩)) ?_; intro c hc hwc; obtain rfl := hlook.out c hc; clear hc hwc)
    | (at_mapUpdate; refine wpList_mapUpdate_own _ rfl _ _ _ 198 rfl 3 39 keyI15 Tryz.underlying198 _ emb _ _ rfl hm2 hmx _ _ _ rfl rfl (keyOf_int_mk Tryz.underlying3 (WalkArith.wf_i64 ⟨hg0, hg1⟩)) _ [] (plainElem_int Tryz.underlying39 hwfs) ?_; intro w4 hown4 hgr4))
  have d2' := hgr4.cell d2 hne
  have d4' := hgr4.cell d4 hne
  have d5' := hgr4.cell d5 hne
  have hL := (hone.out.later hb2).learnt hgr4 hown4 hfb2.out
  have f5 : w4.frozen? ⟨ep, 5, none⟩ = false := by
    have hbq := (Out.of_grown (O := fun k => k = emb) hgr4 (fun k e => by cases e; rfl)).obj (hone.out.later hb2).blk (fun e => hne (by rw [e]))
    exact frozen_of_row w4 ep 5 _ _ hbq
  obtain ⟨_, _, k2, _, k4, k5⟩ := hL.1.cs
  rw [heA.out] at k2
  replace hL := Lib.hid hL
  have hown4d : w4.drew.ownsMap Tryz.prog 3 (plainElem (H := Unit) Tryz.prog 39) emb (eo.known.length + 1) ((putsU eo.known).put (.int .i64 g) (.lit (.int .u64 (s : Int)))) := hown4
  have hlen := fun ty => hown4d.len Tryz.underlying198 ty
  rw [hsize.out] at hlen
  go_frame
  go_cut [63] (fun _ wx => wx = (w4.setCell ⟨ep, 5, none⟩ (.bool fb)).drew)
  case first =>
    refine wp_region_still_tail 15 (by kernel_rfl) (by kernel_rfl) ?_
    simp only [List.take_succ_cons, List.take_zero, List.drop_succ_cons, List.drop_zero]
    repeat still_step
    refine wpStill_nil ?_
    go_wp2
    go_meet
    rfl
  case rest =>
  subst hcut
  clear hlen
  obtain ⟨w5, hw5⟩ : ∃ w5, (w4.setCell ⟨ep, 5, none⟩ (.bool fb)).drew = w5 := ⟨_, rfl⟩
  have hL5 : OneIn w5 B ep emb egv (learnOne eo g s) := by rw [← hw5]; exact hL.out.1
  have hO5 : Out (fun b => b = ep ∨ b = emb) w2 w5 := by rw [← hw5]; exact hL.out.2
  rw [hw5]
  obtain ⟨l6, hl6⟩ : ∃ l6, x.l.set k (learnOne eo g s) = l6 := ⟨_, rfl⟩
  obtain ⟨es6, hT⟩ : ∃ es6, QIn w5 B p ⟨x.g, x.clock, l6⟩ v es6 O := by
    have hT := (H.out.later hb2).turn (w' := w5) (k := k) (o' := learnOne eo g s) hF.out.lt (by rw [hF.out.en]; exact hO5) (by rw [hF.out.en]; exact hL5)
    rw [hl6] at hT
    exact ⟨_, hT⟩
  have hQ : learnQ x i g s = ⟨x.g, if fb then max x.clock (learnOne eo g s).stamp else x.clock, sortQ l6⟩ := by
    rw [learnQ, if_pos hkk.out, hF.out.ho, hF.out.hk]
    have : (learnOne eo g s).final = fb := hfb2.out
    dsimp only
    rw [this, hl6]
  have hok6 := hLQ.out
  rw [hQ] at hok6
  have hkn6 : ∀ o ∈ l6, (o.known.map (·.1)).Nodup := fun o ho => (hok6.one o ((sortQ_perm l6).mem_iff.2 ho)).nd
  have hid6 : (l6.map OneD.id).Nodup := (((sortQ_perm l6).map OneD.id).nodup_iff).1 hok6.nd
  have hlen6 : l6.length = x.l.length := by rw [← hl6, List.length_set]
  have hpos6 : 0 < l6.length := by rw [hlen6]; have := hF.out.lt; have := H.out.len; omega
  have hknown : ((learnOne eo g s).known.map (·.1)).Nodup := hkn6 _ (by rw [← hl6]; exact List.mem_iff_getElem.2 ⟨k, by rw [List.length_set]; have := hF.out.lt; have := H.out.len; omega, by simp⟩)
  have hO2 : Out O w w5 := by
    have hme := (H.out.me _ (ent_mem hF.out.lt))
    rw [hF.out.en] at hme
    exact ((Out.of_below HB).trans' (Out.of_below hb2)).trans' (hO5.mono fun q hq => hq.elim (fun e => by rw [e]; exact hme.1) (fun e => by rw [e]; exact hme.2.1))
  have hBw : B ≤ w.heap.size := hBB.out
  obtain ⟨st, hst⟩ : ∃ st, (learnOne eo g s).stamp = st := ⟨_, rfl⟩
  obtain ⟨m0, m1, _⟩ := hT.cs
  dsimp only at m0 m1
  have g1 := hT.fz 1
  have k5' : w5.cell? ⟨ep, 5, none⟩ = some (.bool fb) := by
    have := hL5.cs.2.2.2.2.2
    rw [show (learnOne eo g s).final = fb from hfb2.out] at this
    exact this
  have hQh := Lib.hid hQ
  have hT0 := Lib.hid hT
  replace hkn6 := Lib.hid hkn6
  replace hid6 := Lib.hid hid6
  replace hO2 := Lib.hid hO2
  replace hL5 := Lib.hid hL5
  have hstamp := Lib.hid (stamp15 (hL5.out.later (below_drew (Below.refl w5.heap.size w5))) hknown)
  rw [hst] at hstamp hQh
  clear hQ hok6 hT hknown hl6 hL k2 k4 k5 hO5
  cases fb
  · have hS := Lib.hid (order15 hT0.out hkn6.out hid6.out (by rw [hT0.out.len]; exact hpos6) (by rw [hT0.out.len]; dsimp only; omega))
    go_wp2_with (go_at_call 146; (with_reducible refine hS.out.mono ?_); rintro e w6 ⟨rfl, ho6, es7, hI7⟩)
    go_ret
    have hW : Out O w w6 := hO2.out.trans' ho6
    refine ⟨ret_int15 HE.out, ?_, hW⟩
    rw [hQh.out]
    exact ⟨_, _, hI7.mono (fun q hq => .inl hq) (fun q hq => hq.elim (fun e => hI7.lt q e) (fun e => ⟨Nat.le_trans hBw e.1, e.2⟩))⟩
  · obtain ⟨mx, hmx2⟩ : ∃ mx : Nat, max x.clock st = mx := ⟨_, rfl⟩
    have hmc : max (x.clock : Int) (st : Int) = (mx : Int) := by rw [← hmx2]; omega
    have hmq := Lib.hid hmx2
    rw [hmx2] at hQh
    clear hmx2
    go_wp2
    go_region_law ((go_simp; go_at_call 105; refine hstamp.out.mono ?_; rintro e w6 ⟨rfl, hb6⟩; have hbx : Below w5.heap.size w5 w6 := keepB (below_drew (Below.refl w5.heap.size w5)) hb6.b; have m0' := keep hbx m0; have m1' := keep hbx m1; have g1' := (hT0.out.later hbx).fz 1; have hSC := (hT0.out.later hbx).setClock mx))
    all_goals
      obtain ⟨w7, hw7⟩ : ∃ w7, w6.setCell ⟨p, 1, none⟩ (.int .u64 (mx : Int)) = w7 := ⟨_, rfl⟩
      have hO7 : Out O w w7 := by
        rw [← hw7]
        exact (hO2.out.trans' (Out.of_below hbx)).trans' ((out_setc w6 p 1 _).mono fun q hq => by rw [hq]; exact hT0.out.hp)
      rw [hw7] at hSC ⊢
      have hS := Lib.hid (order15 hSC hkn6.out hid6.out (by rw [hSC.len]; exact hpos6) (by rw [hSC.len]; dsimp only; omega))
      replace hO7 := Lib.hid hO7
      go_wp2_with (go_at_call 146; (with_reducible refine hS.out.mono ?_); rintro e w8 ⟨rfl, ho8, es7, hI7⟩)
      go_ret
      have hW : Out O w w8 := hO7.out.trans' ho8
      refine ⟨ret_int15 HE.out, ?_, hW⟩
      rw [hQh.out]
      exact ⟨_, _, hI7.mono (fun q hq => .inl hq) (fun q hq => hq.elim (fun e => hI7.lt q e) (fun e => ⟨Nat.le_trans hBw e.1, e.2⟩))⟩
theorem learn15 {w : World} {B p : Nat} {x : QD} {O : Nat → Prop} (h : QAt w B p x O) (hx : QOK x) {i : IdD} {g : Int} {s : Nat} (hg0 : -9223372036854775808 ≤ g) (hg1 : g ≤ 9223372036854775807) (hs64 : s < 18446744073709551616) (hlen : x.l.length < 900000) :
    Calls Tryz.prog 89 #[.pointer (some ⟨p, 0, none⟩), .agg #[.int .i64 i.ses, .int .i64 i.seq], .int .i64 g, .int .u64 (s : Int)] w (QPost w B p (learnQ x i g s) O (.int .i64 (learnE x i g s))) := by
  obtain ⟨v, es, h⟩ := h
  cases hh : hasQ x i
  · exact learn15_none h g s hh hlen
  · by_cases hk : learnK x i g s = 2
    · exact learn15_yes h hx hg0 hg1 hs64 hh hk hlen
    · exact learn15_same h hx hg0 hg1 hh hk hlen
end Go.Proofs.YtcldpmkhpmlcbaaGreatDoor
