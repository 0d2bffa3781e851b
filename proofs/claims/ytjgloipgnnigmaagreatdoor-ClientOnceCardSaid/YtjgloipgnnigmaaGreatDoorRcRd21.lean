/- The reference's client, loosely: read: a transaction's read is answered. -/
import Derived.Test.YtjgloipgnnigmaaGreatDoorJ16
set_option linter.unusedVariables false
set_option linter.unusedSimpArgs false
namespace Go.Proofs.YtjgloipgnnigmaaGreatDoor
open Go.RowKit Go.Shelf Go.Sort

theorem one_cell_rdR {s : ByteArray} {n : Nat} : ∀ u ∈ [Value.string s, Value.int .u64 n], u.oneCell' = true := fun u hu => by
  simp at hu; rcases hu with rfl | rfl <;> rfl
theorem info_rdR : (Tryz.prog.info? 75).map (fun i => (i.zero, i.size, i.bytes)) = some (some (.agg #[.string ByteArray.empty, .int .u64 0]), 2, 24) := by kernel_rfl
/-- What was put so far: some reads. -/
def RdSo (w : World) (base : Nat) (v : Value) (k : Nat) : Prop := ∃ l : List Rd, w.ownsRow base 75 2 v l.length (rdCells l) ∧ l.length ≤ k ∧ ∀ r ∈ l, r.key.size ≤ 9223372036854775807
section
variable {w : World} {B p n : Nat} {K : CliK} {x : RcD} {O : Nat → Prop}
theorem RdSo.snoc {w' : World} {base k : Nat} {v' : Value} {l : List Rd} (hn : l.length ≤ k) (hg : ∀ r ∈ l, r.key.size ≤ 9223372036854775807) (r : Rd) (hr : r.key.size ≤ 9223372036854775807)
    (hr2 : w'.ownsRow base 75 2 v' (l.length + 1) (rdCells l ++ [.string r.key, .int .u64 r.ver])) : RdSo w' base v' (k + 1) := by
  refine ⟨l ++ [r], ?_, by simp; omega, fun q hq => ?_⟩
  · rw [rdCells_snoc, List.length_append]; exact hr2
  · rcases List.mem_append.1 hq with q1 | q1
    · exact hg q q1
    · rw [List.mem_singleton.1 q1]; exact hr
theorem read_so {w6 : World} {base n k cap : Nat} {A : Option Addr} {l ws : List Rd} {r : Rd} (hln : l.length ≤ k) (hlg : ∀ r ∈ l, r.key.size ≤ 9223372036854775807) (hk : r.key.size ≤ 9223372036854775807) (hws : ∀ r ∈ ws, r.key.size ≤ 9223372036854775807) (hn : ws.length ≤ n) (hkw : k ≤ ws.length)
    (HO : w6.ownsRow base 75 2 (.slice A (l.length + 1 + (ws.length - k)) cap) (l.length + 1 + (ws.length - k)) (rdCells l ++ [.string r.key, .int .u64 r.ver] ++ rdCells (ws.drop k))) :
    RdSo w6 base (.slice A (l.length + 1 + (ws.length - k)) cap) (n + 1) := by
  refine ⟨l ++ [r] ++ ws.drop k, ?_, ?_, fun q hr => ?_⟩
  · rw [rdCells_append, rdCells_snoc, List.length_append, List.length_append, List.length_drop]; exact HO
  · simp only [List.length_append, List.length_drop, List.length_singleton]; omega
  · rcases List.mem_append.1 hr with q1 | q1
    · rcases List.mem_append.1 q1 with q2 | q2
      · exact hlg q q2
      · rw [List.mem_singleton.1 q2]; exact hk
    · exact hws q (List.mem_of_mem_drop q1)
theorem read_so0 {w6 : World} {base n cap : Nat} {A : Option Addr} {l : List Rd} {r : Rd} (hl : l.length = 0) (hk : r.key.size ≤ 9223372036854775807)
    (HO : w6.ownsRow base 75 2 (.slice A (l.length + 1 + 0) cap) (l.length + 1 + 0) (rdCells l ++ [.string r.key, .int .u64 r.ver] ++ [])) :
    RdSo w6 base (.slice A (l.length + 1) cap) (n + 1) := by
  obtain rfl : l = [] := List.eq_nil_of_length_eq_zero hl
  refine ⟨[r], ?_, by simp, fun q hr => by rw [List.mem_singleton.1 hr]; exact hk⟩
  simpa [rdCells] using HO
/-- Behind the store of the new row. -/
theorem read_mid {w W w2 w6 : World} {u : Value} {vr vw va : Value} (h : RcAt w B p K x O) (hx : RcOK K.c n x) (H : RcIn W B p K x vr vw va O) (h6 : Below W.heap.size W w6) (HB : Below w.heap.size w W) (hS : RdSo w6 w2.heap.size u (n + 1)) (h2 : W.heap.size ≤ w2.heap.size) :
    ∃ w7, w6.setCell ⟨p, 10, none⟩ u = w7 ∧ RcEnd w B p K (n + 1) O w7 ∧ w7.cell? ⟨p, 8, none⟩ = some (.int .i64 x.ts) ∧ w7.cell? ⟨p, 9, none⟩ = some (.int .i64 x.tq) ∧ Out O w w7 := by
  obtain ⟨l, a1, a2, a3⟩ := hS
  have hB := h.hB
  have hBW := HB.size
  have hl : ∀ g, u.ownBlock = some g → W.heap.size ≤ g := fun g hg => Nat.le_trans h2 (a1.lt g hg).1
  have h7 := H.growr (Out.of_below h6) (World.ownsRow.mono a1 (Nat.le_trans hB (Nat.le_trans hBW h2))) (fun g hg => .inr (hl g hg))
  obtain ⟨_, _, _, _, _, _, _, _, e8, e9, _⟩ := h7.cs
  have ho := rc_out (j := 10) (v := u) H.hp ((Out.of_below (O := O) HB).trans' (Out.of_below h6))
  refine ⟨_, rfl, rc_close (y := { x with rds := l }) h.lt' hB ⟨by have := hx.an; show x.asks.length ≤ _; omega, a2, Nat.le_succ_of_le hx.wn, hx.ag, hx.ak, a3, hx.wk, hx.kn, hx.kk⟩ ⟨_, _, _, h7⟩ (fun k hk => hk.elim .inl fun q => .inr ⟨by omega, by simpa [World.setCell] using q.2⟩) ho, e8, e9, ho⟩
set_option maxRecDepth 100000 in
set_option maxHeartbeats 8000000 in
theorem rcRd_any (h : RcAt w B p K x O) (hx : RcOK K.c n x) (hn : n ≤ 1000) (m : MsgV) (hk : m.key.size ≤ 9223372036854775807) :
    Calls Tryz.prog 115 #[.pointer (some ⟨p, 0, none⟩), .agg m.vs] w (RcEv w B p K (n + 1) O) := by
  obtain ⟨W, eW, HB, hszW, hrW⟩ := boxed w m.vs 85
  obtain ⟨_, _, _, _, _, _, _, _, _, _, _, _, _, _, _, _, _, _, _, _, _, _, _, _, _, _, _, q27, q28, q29, q30, q31, _⟩ := msg_cs hrW
  have h00 := Lib.hid h
  have hB := h.hB
  have hlt := Lib.hid h.lt'
  have nR : Hid (¬ O w.heap.size) := fun e => by have := (h.lt' _ e).2; omega
  have hsz := Lib.hid hszW
  replace h := h.later HB
  obtain ⟨vr, vw, va, h⟩ := h
  obtain ⟨_, _, _, _, _, _, _, _, _, _, c10, _⟩ := h.cs
  obtain ⟨Aw, capw, rfl, hcapw, hAw0, hAw⟩ := own_drop h.rowr
  obtain ⟨A9, cap9, e9, _, hW9, _⟩ := own_rds h.rowr
  cases e9
  have H := Lib.hid h
  have HX := Lib.hid hx
  have hwn := hx.rn
  have hwk := Lib.hid hx.rk
  have hrW' := Lib.hid hrW
  obtain ⟨i0, hi, hz0, hz1, hz2⟩ := info_parts info_rdR
  have hkH := Lib.hid hk
  replace hW9 := Lib.hid hW9
  clear h hx hrW hszW
  go_enter Tryz.func115, Tryz.ntmps115
  go_wp2
  go_loopw [5, 6] (fun u i wr => ∃ k : Nat, k ≤ x.rds.length ∧ i = .int .i64 k ∧ Hid (RdSo wr W.heap.size u k) ∧ Below W.heap.size W wr) (fun _ i _ => x.rds.length - (intOf i).toNat)
  case atStart => exact ⟨0, Nat.zero_le _, rfl, ⟨[], own_nil _ _ _ _, Nat.le_refl _, fun r hr => (by cases hr)⟩, Below.refl _ _⟩
  case round =>
    obtain ⟨k, hkl, rfl, HS, hw⟩ := hrel
    obtain ⟨l, hown, hln, hlg⟩ := HS.out
    obtain ⟨A3, k3, rfl⟩ := own_form hown
    obtain ⟨wb, rfl⟩ : ∃ wb : World, wb = wr := ⟨_, rfl⟩
    have hkn : Hid (k ≤ n) := by show _ ≤ _; omega
    have hmx : Hid (l.length ≤ 2000) := by show _ ≤ _; omega
    have hlenH : Hid (x.rds.length ≤ n ∧ n ≤ 1000) := ⟨hwn, hn⟩
    replace hln : Hid (l.length ≤ k) := hln
    replace hlg := Lib.hid hlg
    have hkx : Hid (k ≤ x.rds.length) := hkl
    have c10r := keep hw c10
    have q27r := keep hw q27
    have q28r := keep hw q28
    by_cases hltk : k < x.rds.length
    · obtain ⟨b, off, s, nb, rfl, d0, d1, HE⟩ := RdsAt.at' hW9.out hltk
      obtain ⟨b', off', e', hnews⟩ := hAw _ rfl
      injection e' with e1 e2
      subst e1 e2
      have d0r := keep hw d0
      have d1r := keep hw d1
      have ki : (k : Int) < (x.rds.length : Int) := by omega
      have k0 : (0 : Int) ≤ (k : Int) := by omega
      have kk3 : (k : Int) ≤ (x.rds.length : Int) := by omega
      have hc : ¬ (capw = k) := by omega
      have hgood : Hid (s.size ≤ 9223372036854775807) := by have := hwk.out _ (getD_mem (d := noRd) hltk); rw [HE.out] at this; exact this
      have hnews' : Hid (∀ wz, Below W.heap.size W wz → ∀ j u, (rdCells (x.rds.drop k))[j]? = some u → wz.cell? ((⟨b, off + k * 2, none⟩ : Addr).add j) = some u) := fun wz hz j u hu => keep hz (hnews k j u (by rw [rdCells_drop]; exact hu))
      cases hls : Op.bytesLess s.toList m.key.toList
      · go_upto_region 3 with fail
        go_quiet (fail)
        obtain ⟨wn, hwn3⟩ : ∃ wn, wb.drewN nq = wn := ⟨_, rfl⟩
        have hbn : Below wb.heap.size wb wn := by rw [← hwn3]; exact below_drewN (Below.refl _ _) _
        rw [hwn3]
        clear hwn3
        have hwn2 := keepB hw hbn
        have c10n := keep hbn c10r
        have q27n := keep hbn q27r
        have q28n := keep hbn q28r
        (try have d0n := keep hbn d0r)
        (try have d1n := keep hbn d1r)
        go_wp2_with (first
          | (at_builtin; refine wpList_append_own_at _ rfl _ _ 34 rfl W.heap.size 75 i0 _ 2 24 Tryz.underlying34 hi hz0 hz1 hz2 rfl (by decide) _ _ _ rfl (own_keep hown (keepB hbn (below1 wn (.cells #[.string m.key, .int .u64 (m.ver : Int)] 75)))) ⟨wn.heap.size, 0, none⟩ 1 1 [.string m.key, .int .u64 (m.ver : Int)] rfl rfl (World.news_of_block (heap_alloc_new wn _)) one_cell_rdR (le_maxLen (by have := hmx.out; omega)) (by have := hmx.out; omega) (Nat.le_trans hwn2.size (below1 wn _).size) ?_; intro v5 w5 HO5 hg5 _ _; obtain ⟨A5, c5, rfl⟩ := own_form HO5; have hB5 := own_below (keepB hwn2 (below1 wn (.cells #[.string m.key, .int .u64 (m.ver : Int)] 75))) (Nat.le_refl _) (own_keep hown (keepB hbn (below1 wn (.cells #[.string m.key, .int .u64 (m.ver : Int)] 75)))) hg5; replace HO5 := Lib.hid HO5; have c10e := keep hB5 c10; clear hg5)
          | (at_builtin; refine wpList_append_row rfl _ _ 34 rfl W.heap.size 75 i0 _ 2 24 Tryz.underlying34 hi hz0 hz1 hz2 rfl (by decide) _ _ _ rfl HO5.out (some ⟨b, off + k * 2, none⟩) (x.rds.length - k) _ (rdCells (x.rds.drop k)) rfl (by rw [rdCells_len, List.length_drop]) (fun e => by cases e) (fun ad e j u hu => by cases e; exact hnews'.out _ hB5 j u hu) (rdCells_one _) (le_maxLen (by have := hmx.out; have := hlenH.out; omega)) (by have := hmx.out; have := hlenH.out; omega) hB5.size ?_; intro v6 w6 HO6 hg6 _; obtain ⟨A6, c6, rfl⟩ := own_form HO6; have hB6 := own_below hB5 (Nat.le_refl _) HO5.out hg6; have hl6 := Lib.hid (read_so (n := n) (r := ⟨m.key, m.ver⟩) hln.out hlg.out hkH.out hwk.out hlenH.out.1 hkx.out HO6); clear HO6 hg6; have c10g := keep hB6 c10; have f10g := (H.out.later hB6).fz 10))
        obtain ⟨w7, e7, hE7, g8, g9, ho7⟩ := read_mid h00.out HX.out H.out hB6 HB hl6.out (Nat.le_refl W.heap.size)
        rw [e7]
        obtain ⟨_, _, _, _, _, _, _, _, _, _, _, _, _, _, _, _, _, _, _, _, _, _, _, _, _, _, _, p27, p28, p29, p30, p31, _⟩ := msg_cs (show w7.heap[w.heap.size]? = some (.cells m.vs 85 (0, 0)) by rw [← e7]; exact (out_set21 w6 p 10 _).obj (obj_keep hrW'.out hB6) (fun e => nR.out (e ▸ H.out.hp)))
        clear e7 c10g f10g
        replace hE7 := Lib.hid hE7
        go_region
        change Exit.then _ _ _ _ (World.drew (World.alloc w7 (.cells (⟨1, x.ts, x.tq, m.key, m.val, m.ver, false, 0, 0⟩ : EvD).vs 169)))
        go_wp2
        go_ret
        exact ⟨_, rfl, RevR.later (rev_one (heap_alloc_new w7 _)) (below_drew (Below.refl _ _)), rcEnd_alloc hE7.out (below_drew (below1 _ _)) hlt.out hB⟩
      · go_upto_region 3 with fail
        go_quiet (fail)
        obtain ⟨wn, hwn3⟩ : ∃ wn, wb.drewN nq = wn := ⟨_, rfl⟩
        have hbn : Below wb.heap.size wb wn := by rw [← hwn3]; exact below_drewN (Below.refl _ _) _
        rw [hwn3]
        clear hwn3
        have hwn2 := keepB hw hbn
        have c10n := keep hbn c10r
        have q27n := keep hbn q27r
        have q28n := keep hbn q28r
        (try have d0n := keep hbn d0r)
        (try have d1n := keep hbn d1r)
        go_wp2_with (first
          | (at_builtin; refine wpList_append_own_at _ rfl _ _ 34 rfl W.heap.size 75 i0 _ 2 24 Tryz.underlying34 hi hz0 hz1 hz2 rfl (by decide) _ _ _ rfl (own_keep hown (keepB hbn (below1 wn (.cells #[.string s, .int .u64 (nb : Int)] 75)))) ⟨wn.heap.size, 0, none⟩ 1 1 [.string s, .int .u64 (nb : Int)] rfl rfl (World.news_of_block (heap_alloc_new wn _)) one_cell_rdR (le_maxLen (by have := hmx.out; omega)) (by have := hmx.out; omega) (Nat.le_trans hwn2.size (below1 wn _).size) ?_; intro v5 w5 HO5 hg5 _ _; have hB5 := own_below (keepB hwn2 (below1 wn (.cells #[.string s, .int .u64 (nb : Int)] 75))) (Nat.le_refl _) (own_keep hown (keepB hbn (below1 wn (.cells #[.string s, .int .u64 (nb : Int)] 75)))) hg5; have hS5 := Lib.hid (RdSo.snoc hln.out hlg.out ⟨s, nb⟩ hgood.out HO5); clear hg5 HO5))
        have hk1 : Hid (k + 1 ≤ x.rds.length) := hltk
        have hk9 : k ≤ 1000 := by have := hlenH.out; omega
        go_roundw
        case rel => exact ⟨k + 1, hk1.out, by go_num, hS5, hB5⟩
        case measure => have := hk1.out; simp [intOf]; omega
    · have hlti : ¬ ((k : Int) < (x.rds.length : Int)) := by omega
      have kk3 : (k : Int) ≤ (x.rds.length : Int) := by omega
      have kl : Hid (k = x.rds.length) := by show _ = _; omega
      cases Aw with
      | none =>
        have hz9 := hAw0 rfl
        have hk0 : k = 0 := by omega
        subst hk0
        rw [hz9.1, hz9.2] at c10r c10
        have hz9' := Lib.hid hz9.1
        have hln' : Hid (l.length = 0) := Nat.le_zero.1 hln.out
        clear hz9 hlti kk3 hltk hkl kl
        go_upto_region 3 with fail
        go_quiet (fail)
        obtain ⟨wn, hwn3⟩ : ∃ wn, wb.drewN nq = wn := ⟨_, rfl⟩
        have hbn : Below wb.heap.size wb wn := by rw [← hwn3]; exact below_drewN (Below.refl _ _) _
        rw [hwn3]
        clear hwn3
        have hwn2 := keepB hw hbn
        have c10n := keep hbn c10r
        have q27n := keep hbn q27r
        have q28n := keep hbn q28r
        (try have d0n := keep hbn d0r)
        (try have d1n := keep hbn d1r)
        go_wp2_with (first
          | (at_builtin; refine wpList_append_own_at _ rfl _ _ 34 rfl W.heap.size 75 i0 _ 2 24 Tryz.underlying34 hi hz0 hz1 hz2 rfl (by decide) _ _ _ rfl (own_keep hown (keepB hbn (below1 wn (.cells #[.string m.key, .int .u64 (m.ver : Int)] 75)))) ⟨wn.heap.size, 0, none⟩ 1 1 [.string m.key, .int .u64 (m.ver : Int)] rfl rfl (World.news_of_block (heap_alloc_new wn _)) one_cell_rdR (le_maxLen (by have := hmx.out; omega)) (by have := hmx.out; omega) (Nat.le_trans hwn2.size (below1 wn _).size) ?_; intro v5 w5 HO5 hg5 _ _; obtain ⟨A5, c5, rfl⟩ := own_form HO5; have hB5 := own_below (keepB hwn2 (below1 wn (.cells #[.string m.key, .int .u64 (m.ver : Int)] 75))) (Nat.le_refl _) (own_keep hown (keepB hbn (below1 wn (.cells #[.string m.key, .int .u64 (m.ver : Int)] 75)))) hg5; replace HO5 := Lib.hid HO5; have c10e := keep hB5 c10; clear hg5)
          | (at_builtin; refine wpList_append_row rfl _ _ 34 rfl W.heap.size 75 i0 _ 2 24 Tryz.underlying34 hi hz0 hz1 hz2 rfl (by decide) _ _ _ rfl HO5.out none 0 _ [] rfl rfl (fun _ => rfl) (fun ad e => by cases e) (fun u hu => by cases hu) (le_maxLen (by have := hmx.out; have := hlenH.out; omega)) (by have := hmx.out; have := hlenH.out; omega) hB5.size ?_; intro v6 w6 HO6 hg6 _; obtain ⟨A6, c6, rfl⟩ := own_form HO6; have hB6 := own_below hB5 (Nat.le_refl _) HO5.out hg6; have hl6 := Lib.hid (read_so0 (n := n) (r := ⟨m.key, m.ver⟩) hln'.out hkH.out HO6); clear HO6 hg6; have c10g := keep hB6 c10; have f10g := (H.out.later hB6).fz 10))
        obtain ⟨w7, e7, hE7, g8, g9, ho7⟩ := read_mid h00.out HX.out H.out hB6 HB hl6.out (Nat.le_refl W.heap.size)
        rw [e7]
        obtain ⟨_, _, _, _, _, _, _, _, _, _, _, _, _, _, _, _, _, _, _, _, _, _, _, _, _, _, _, p27, p28, p29, p30, p31, _⟩ := msg_cs (show w7.heap[w.heap.size]? = some (.cells m.vs 85 (0, 0)) by rw [← e7]; exact (out_set21 w6 p 10 _).obj (obj_keep hrW'.out hB6) (fun e => nR.out (e ▸ H.out.hp)))
        clear e7 c10g f10g
        replace hE7 := Lib.hid hE7
        go_region
        change Exit.then _ _ _ _ (World.drew (World.alloc w7 (.cells (⟨1, x.ts, x.tq, m.key, m.val, m.ver, false, 0, 0⟩ : EvD).vs 169)))
        go_wp2
        go_ret
        exact ⟨_, rfl, RevR.later (rev_one (heap_alloc_new w7 _)) (below_drew (Below.refl _ _)), rcEnd_alloc hE7.out (below_drew (below1 _ _)) hlt.out hB⟩
      | some a9 =>
        obtain ⟨b, off, rfl, _⟩ := hAw _ rfl
        have hcapH := Lib.hid hcapw
        by_cases hc : capw = k
        · go_upto_region 3 with fail
          go_quiet (fail)
          obtain ⟨wn, hwn3⟩ : ∃ wn, wb.drewN nq = wn := ⟨_, rfl⟩
          have hbn : Below wb.heap.size wb wn := by rw [← hwn3]; exact below_drewN (Below.refl _ _) _
          rw [hwn3]
          clear hwn3
          have hwn2 := keepB hw hbn
          have c10n := keep hbn c10r
          have q27n := keep hbn q27r
          have q28n := keep hbn q28r
          (try have d0n := keep hbn d0r)
          (try have d1n := keep hbn d1r)
          go_wp2_with (first
            | (at_builtin; refine wpList_append_own_at _ rfl _ _ 34 rfl W.heap.size 75 i0 _ 2 24 Tryz.underlying34 hi hz0 hz1 hz2 rfl (by decide) _ _ _ rfl (own_keep hown (keepB hbn (below1 wn (.cells #[.string m.key, .int .u64 (m.ver : Int)] 75)))) ⟨wn.heap.size, 0, none⟩ 1 1 [.string m.key, .int .u64 (m.ver : Int)] rfl rfl (World.news_of_block (heap_alloc_new wn _)) one_cell_rdR (le_maxLen (by have := hmx.out; omega)) (by have := hmx.out; omega) (Nat.le_trans hwn2.size (below1 wn _).size) ?_; intro v5 w5 HO5 hg5 _ _; obtain ⟨A5, c5, rfl⟩ := own_form HO5; have hB5 := own_below (keepB hwn2 (below1 wn (.cells #[.string m.key, .int .u64 (m.ver : Int)] 75))) (Nat.le_refl _) (own_keep hown (keepB hbn (below1 wn (.cells #[.string m.key, .int .u64 (m.ver : Int)] 75)))) hg5; replace HO5 := Lib.hid HO5; have c10e := keep hB5 c10; clear hg5)
            | (at_builtin; refine wpList_append_row rfl _ _ 34 rfl W.heap.size 75 i0 _ 2 24 Tryz.underlying34 hi hz0 hz1 hz2 rfl (by decide) _ _ _ rfl HO5.out _ (x.rds.length - k) _ (rdCells (x.rds.drop k)) rfl (by rw [rdCells_len, List.length_drop]) (fun e => by first | (cases e; done) | omega) (fun ad e j u hu => by rw [List.drop_eq_nil_of_le (by omega)] at hu; simp [rdCells] at hu) (rdCells_one _) (le_maxLen (by have := hmx.out; have := hlenH.out; omega)) (by have := hmx.out; have := hlenH.out; omega) hB5.size ?_; intro v6 w6 HO6 hg6 _; obtain ⟨A6, c6, rfl⟩ := own_form HO6; have hB6 := own_below hB5 (Nat.le_refl _) HO5.out hg6; have hl6 := Lib.hid (read_so (n := n) (r := ⟨m.key, m.ver⟩) hln.out hlg.out hkH.out hwk.out hlenH.out.1 hkx.out HO6); clear HO6 hg6; have c10g := keep hB6 c10; have f10g := (H.out.later hB6).fz 10))
          obtain ⟨w7, e7, hE7, g8, g9, ho7⟩ := read_mid h00.out HX.out H.out hB6 HB hl6.out (Nat.le_refl W.heap.size)
          rw [e7]
          obtain ⟨_, _, _, _, _, _, _, _, _, _, _, _, _, _, _, _, _, _, _, _, _, _, _, _, _, _, _, p27, p28, p29, p30, p31, _⟩ := msg_cs (show w7.heap[w.heap.size]? = some (.cells m.vs 85 (0, 0)) by rw [← e7]; exact (out_set21 w6 p 10 _).obj (obj_keep hrW'.out hB6) (fun e => nR.out (e ▸ H.out.hp)))
          clear e7 c10g f10g
          replace hE7 := Lib.hid hE7
          go_region
          change Exit.then _ _ _ _ (World.drew (World.alloc w7 (.cells (⟨1, x.ts, x.tq, m.key, m.val, m.ver, false, 0, 0⟩ : EvD).vs 169)))
          go_wp2
          go_ret
          exact ⟨_, rfl, RevR.later (rev_one (heap_alloc_new w7 _)) (below_drew (Below.refl _ _)), rcEnd_alloc hE7.out (below_drew (below1 _ _)) hlt.out hB⟩
        · go_upto_region 3 with fail
          go_quiet (fail)
          obtain ⟨wn, hwn3⟩ : ∃ wn, wb.drewN nq = wn := ⟨_, rfl⟩
          have hbn : Below wb.heap.size wb wn := by rw [← hwn3]; exact below_drewN (Below.refl _ _) _
          rw [hwn3]
          clear hwn3
          have hwn2 := keepB hw hbn
          have c10n := keep hbn c10r
          have q27n := keep hbn q27r
          have q28n := keep hbn q28r
          (try have d0n := keep hbn d0r)
          (try have d1n := keep hbn d1r)
          go_wp2_with (first
            | (at_builtin; refine wpList_append_own_at _ rfl _ _ 34 rfl W.heap.size 75 i0 _ 2 24 Tryz.underlying34 hi hz0 hz1 hz2 rfl (by decide) _ _ _ rfl (own_keep hown (keepB hbn (below1 wn (.cells #[.string m.key, .int .u64 (m.ver : Int)] 75)))) ⟨wn.heap.size, 0, none⟩ 1 1 [.string m.key, .int .u64 (m.ver : Int)] rfl rfl (World.news_of_block (heap_alloc_new wn _)) one_cell_rdR (le_maxLen (by have := hmx.out; omega)) (by have := hmx.out; omega) (Nat.le_trans hwn2.size (below1 wn _).size) ?_; intro v5 w5 HO5 hg5 _ _; obtain ⟨A5, c5, rfl⟩ := own_form HO5; have hB5 := own_below (keepB hwn2 (below1 wn (.cells #[.string m.key, .int .u64 (m.ver : Int)] 75))) (Nat.le_refl _) (own_keep hown (keepB hbn (below1 wn (.cells #[.string m.key, .int .u64 (m.ver : Int)] 75)))) hg5; replace HO5 := Lib.hid HO5; have c10e := keep hB5 c10; clear hg5)
            | (at_builtin; refine wpList_append_row rfl _ _ 34 rfl W.heap.size 75 i0 _ 2 24 Tryz.underlying34 hi hz0 hz1 hz2 rfl (by decide) _ _ _ rfl HO5.out (some ⟨b, off + k * 2, none⟩) (x.rds.length - k) _ (rdCells (x.rds.drop k)) rfl (by rw [rdCells_len, List.length_drop]) (fun e => by cases e) (fun ad e j u hu => by rw [List.drop_eq_nil_of_le (by omega)] at hu; simp [rdCells] at hu) (rdCells_one _) (le_maxLen (by have := hmx.out; have := hlenH.out; omega)) (by have := hmx.out; have := hlenH.out; omega) hB5.size ?_; intro v6 w6 HO6 hg6 _; obtain ⟨A6, c6, rfl⟩ := own_form HO6; have hB6 := own_below hB5 (Nat.le_refl _) HO5.out hg6; have hl6 := Lib.hid (read_so (n := n) (r := ⟨m.key, m.ver⟩) hln.out hlg.out hkH.out hwk.out hlenH.out.1 hkx.out HO6); clear HO6 hg6; have c10g := keep hB6 c10; have f10g := (H.out.later hB6).fz 10))
          obtain ⟨w7, e7, hE7, g8, g9, ho7⟩ := read_mid h00.out HX.out H.out hB6 HB hl6.out (Nat.le_refl W.heap.size)
          rw [e7]
          obtain ⟨_, _, _, _, _, _, _, _, _, _, _, _, _, _, _, _, _, _, _, _, _, _, _, _, _, _, _, p27, p28, p29, p30, p31, _⟩ := msg_cs (show w7.heap[w.heap.size]? = some (.cells m.vs 85 (0, 0)) by rw [← e7]; exact (out_set21 w6 p 10 _).obj (obj_keep hrW'.out hB6) (fun e => nR.out (e ▸ H.out.hp)))
          clear e7 c10g f10g
          replace hE7 := Lib.hid hE7
          go_region
          change Exit.then _ _ _ _ (World.drew (World.alloc w7 (.cells (⟨1, x.ts, x.tq, m.key, m.val, m.ver, false, 0, 0⟩ : EvD).vs 169)))
          go_wp2
          go_ret
          exact ⟨_, rfl, RevR.later (rev_one (heap_alloc_new w7 _)) (below_drew (Below.refl _ _)), rcEnd_alloc hE7.out (below_drew (below1 _ _)) hlt.out hB⟩
end
end Go.Proofs.YtjgloipgnnigmaaGreatDoor
