/- The reference's client, loosely: Write. -/
import Derived.Test.YtjgloipgnnigmaaGreatDoorJ15
import Derived.Test.YtjgloipgnnigmaaGreatDoorJ11
set_option linter.unusedVariables false
set_option linter.unusedSimpArgs false
namespace Go.Proofs.YtjgloipgnnigmaaGreatDoor
open Go.RowKit Go.Shelf Go.Sort

theorem one_cell_wrR {s t : ByteArray} {z : Int} {n : Nat} : ∀ u ∈ [Value.string s, Value.int .i64 z, Value.int .u64 n, Value.string t], u.oneCell' = true := fun u hu => by
  simp at hu; rcases hu with rfl | rfl | rfl | rfl <;> rfl
/-- A row, and what lies behind its k-th element. -/
theorem own_drop {w : World} {base n size : Nat} {e : TypeId} {v : Value} {xs : List Value} (h : w.ownsRow base e size v n xs) :
    ∃ A cap, v = .slice A n cap ∧ n ≤ cap ∧ (A = none → n = 0 ∧ cap = 0) ∧ ∀ a, A = some a → ∃ b off, a = ⟨b, off, none⟩ ∧ ∀ k j u, (xs.drop (k * size))[j]? = some u → w.cell? ((⟨b, off + k * size, none⟩ : Addr).add j) = some u := by
  have hx := h.1
  rcases h.2 with ⟨rfl, h0⟩ | ⟨g, cap, cur, rfl, hfr, hh, hn, _, _, ht⟩
  · exact ⟨none, 0, by rw [h0], by omega, fun _ => ⟨h0, rfl⟩, fun a e => by cases e⟩
  · refine ⟨some ⟨g, 0, none⟩, cap, rfl, hn, (fun e => by cases e), fun a e => ⟨g, 0, by cases e; rfl, fun k j u hu => ?_⟩⟩
    rw [List.getElem?_drop] at hu
    have hj := (List.getElem?_eq_some_iff.1 hu).1
    rw [Go.WideShapes.add_plain]
    have h1 : (cur.toList.take (n * size))[k * size + j]? = some u := by rw [ht]; exact hu
    rw [List.getElem?_take_of_lt (by rw [hx] at hj; exact hj)] at h1
    simp only [World.cell?, hh, Nat.zero_add, Option.isSome_none, Bool.false_eq_true, if_false]
    rw [← Array.getElem?_toList, h1]
theorem wrCells_drop : ∀ (l : List Wr) (k : Nat), (wrCells l).drop (k * 4) = wrCells (l.drop k)
  | l, 0 => by simp
  | [], k + 1 => by simp [wrCells]
  | x :: l, k + 1 => by
    have := wrCells_drop l k
    rw [show (k + 1) * 4 = k * 4 + 1 + 1 + 1 + 1 by omega]
    simpa [wrCells] using this
theorem rdCells_drop : ∀ (l : List Rd) (k : Nat), (rdCells l).drop (k * 2) = rdCells (l.drop k)
  | l, 0 => by simp
  | [], k + 1 => by simp [rdCells]
  | x :: l, k + 1 => by
    have := rdCells_drop l k
    rw [show (k + 1) * 2 = k * 2 + 1 + 1 by omega]
    simpa [rdCells] using this
theorem wrCells_one (l : List Wr) : ∀ u ∈ wrCells l, u.oneCell' = true := fun u hu => by
  obtain ⟨x, _, hx⟩ := List.mem_flatMap.1 hu
  exact one_cell_wrR u hx
theorem rdCells_one (l : List Rd) : ∀ u ∈ rdCells l, u.oneCell' = true := fun u hu => by
  obtain ⟨x, _, hx⟩ := List.mem_flatMap.1 hu
  exact one_cell_rd u hx
/-- What was put so far: some good writes. -/
def WrSo (w : World) (base : Nat) (v : Value) (k : Nat) : Prop := ∃ l : List Wr, w.ownsRow base 112 4 v l.length (wrCells l) ∧ l.length ≤ k ∧ ∀ r ∈ l, r.key.size ≤ 9223372036854775807 ∧ r.val.Good
section
variable {w : World} {B p n : Nat} {K : CliK} {x : RcD} {O : Nat → Prop}
theorem WrSo.snoc {w' : World} {base k : Nat} {v' : Value} {l : List Wr} (hn : l.length ≤ k) (hg : ∀ r ∈ l, r.key.size ≤ 9223372036854775807 ∧ r.val.Good) (m : List Wr) {j : Nat} (hj : m.length ≤ j) (hm : ∀ r ∈ m, r.key.size ≤ 9223372036854775807 ∧ r.val.Good)
    (hr : w'.ownsRow base 112 4 v' (l.length + m.length) (wrCells l ++ wrCells m)) : WrSo w' base v' (k + j) := by
  refine ⟨l ++ m, ?_, by simp; omega, fun r hr => ?_⟩
  · rw [wrCells_append, List.length_append]; exact hr
  · rcases List.mem_append.1 hr with q | q
    · exact hg r q
    · exact hm r q
theorem write_end {w W w2 w6 : World} {u : Value} {m : Nat} {vr vw va : Value} (h : RcAt w B p K x O) (hx : RcOK K.c n x) (H : RcIn W B p K x vr vw va O) (h6 : Below W.heap.size W w6) (HB : Below w.heap.size w W) (hS : WrSo w6 w2.heap.size u m) (hm : m = n + 1) (h2 : W.heap.size ≤ w2.heap.size) :
    RcPost w B p K (n + 1) O isErr (.returned (.int .i64 0)) (w6.setCell ⟨p, 11, none⟩ u) := by
  subst hm
  obtain ⟨l, a1, a2, a3⟩ := hS
  have hB := h.hB
  have hBW := HB.size
  have hl : ∀ g, u.ownBlock = some g → W.heap.size ≤ g := fun g hg => Nat.le_trans h2 (a1.lt g hg).1
  have h7 := H.groww (Out.of_below h6) (World.ownsRow.mono a1 (Nat.le_trans hB (Nat.le_trans hBW h2))) (fun g hg => .inr (hl g hg))
  refine ⟨_, rfl, ⟨_, rfl⟩, rc_close (y := { x with wrs := l }) h.lt' hB ⟨by have := hx.an; show x.asks.length ≤ _; omega, Nat.le_succ_of_le hx.rn, a2, hx.ag, hx.ak, hx.rk, a3, hx.kn, hx.kk⟩ ⟨_, _, _, h7⟩ (fun k hk => hk.elim .inl fun q => .inr ⟨by omega, by simpa [World.setCell] using q.2⟩) ?_⟩
  exact rc_out H.hp ((Out.of_below HB).trans' (Out.of_below h6))
theorem write_so {w6 : World} {base n k kq cap : Nat} {A : Option Addr} {l ws : List Wr} {key : ByteArray} {v : Val} (hln : l.length ≤ k) (hlg : ∀ r ∈ l, r.key.size ≤ 9223372036854775807 ∧ r.val.Good) (hk : key.size ≤ 9223372036854775807) (hv : v.Good) (hws : ∀ r ∈ ws, r.key.size ≤ 9223372036854775807 ∧ r.val.Good) (hn : ws.length ≤ n) (hkn : k ≤ n) (hkq : k ≤ kq)
    (HO : w6.ownsRow base 112 4 (.slice A (l.length + 1 + (ws.length - kq)) cap) (l.length + 1 + (ws.length - kq)) (wrCells l ++ [.string key, .int .i64 v.kind, .int .u64 (v.bits : Int), .string v.text] ++ wrCells (ws.drop kq))) (hkw : k ≤ ws.length := by omega) :
    WrSo w6 base (.slice A (l.length + 1 + (ws.length - kq)) cap) (n + 1) := by
  refine ⟨l ++ [⟨key, v⟩] ++ ws.drop kq, ?_, ?_, fun r hr => ?_⟩
  · rw [wrCells_append, wrCells_snoc, List.length_append, List.length_append, List.length_drop]; exact HO
  · simp only [List.length_append, List.length_drop, List.length_singleton]; omega
  · rcases List.mem_append.1 hr with q | q
    · rcases List.mem_append.1 q with q | q
      · exact hlg r q
      · rw [List.mem_singleton.1 q]; exact ⟨hk, hv⟩
    · exact hws r (List.mem_of_mem_drop q)
theorem write_so0 {w6 : World} {base n cap : Nat} {A : Option Addr} {l : List Wr} {key : ByteArray} {v : Val} (hl : l.length = 0) (hk : key.size ≤ 9223372036854775807) (hv : v.Good)
    (HO : w6.ownsRow base 112 4 (.slice A (l.length + 1 + 0) cap) (l.length + 1 + 0) (wrCells l ++ [.string key, .int .i64 v.kind, .int .u64 (v.bits : Int), .string v.text] ++ [])) :
    WrSo w6 base (.slice A (l.length + 1) cap) (n + 1) := by
  obtain rfl : l = [] := List.eq_nil_of_length_eq_zero hl
  refine ⟨[⟨key, v⟩], ?_, by simp, fun r hr => by rw [List.mem_singleton.1 hr]; exact ⟨hk, hv⟩⟩
  simpa [wrCells] using HO
set_option maxRecDepth 100000 in
set_option maxHeartbeats 8000000 in
theorem rcWrite_any (h : RcAt w B p K x O) (hx : RcOK K.c n x) (hn : n ≤ 1000) (key : ByteArray) (hk : key.size ≤ maxLen) (v : Val) (hv : v.Good) :
    Calls Tryz.prog 59 #[.pointer (some ⟨p, 0, none⟩), .string key, .agg #[.int .i64 v.kind, .int .u64 (v.bits : Int), .string v.text]] w (RcPost w B p K (n + 1) O isErr) := by
  obtain ⟨W, eW, HB, q0, q1, q2⟩ := box3 w (.int .i64 v.kind) (.int .u64 (v.bits : Int)) (.string v.text) 28
  have h00 := Lib.hid h
  have hB := h.hB
  have hlt := Lib.hid h.lt'
  replace h := h.later HB
  have h0 := Lib.hid h
  obtain ⟨vr, vw, va, h⟩ := h
  obtain ⟨_, _, _, c3, _, _, _, _, _, _, _, c11, _⟩ := h.cs
  obtain ⟨Aw, capw, rfl, hcapw, hAw0, hAw⟩ := own_drop h.roww
  obtain ⟨A9, cap9, e9, _, hW9, _⟩ := own_wrs h.roww
  cases e9
  have f11 := h.fz 11
  have H := Lib.hid h
  have HX := Lib.hid hx
  have hwn := hx.wn
  have hwk := Lib.hid hx.wk
  obtain ⟨i0, hi, hz0, hz1, hz2⟩ := info_parts info_wrt
  obtain ⟨r1, HK1⟩ : ∃ r, Hid (∀ wz, Calls Tryz.prog 56 #[.string key] wz fun e w' => e = .returned (.bool r) ∧ wz = w') := ⟨_, fun wz => refKey_any key wz hk⟩
  obtain ⟨r2, HV1⟩ : ∃ r, Hid (∀ wz, Calls Tryz.prog 72 #[.agg #[.int .i64 v.kind, .int .u64 (v.bits : Int), .string v.text]] wz fun e w' => e = .returned (.bool r) ∧ Below wz.heap.size wz w') := ⟨_, fun wz => refFormedV_any v.kind v.bits v.text hv.b hv.t wz⟩
  have hkH := Lib.hid hk
  have hvH := Lib.hid hv
  clear h hx
  by_cases hs1 : x.st = 1
  case neg =>
    have hs2 : (x.st != 1) = true := by rw [bne_iff_ne]; exact hs1
    go_enter Tryz.func59, Tryz.ntmps59
    go_wp2
    go_ret
    exact ⟨_, rfl, ⟨_, rfl⟩, h00.out.end_ HX.out (Nat.le_succ _) HB⟩
  rw [hs1] at c3
  clear hs1
  cases r1
  · go_enter Tryz.func59, Tryz.ntmps59
    go_wp2_with (go_at_call 56; refine (HK1.out _).mono ?_; rintro e w1 ⟨rfl, rfl⟩)
    go_ret
    exact ⟨_, rfl, ⟨_, rfl⟩, h00.out.end_ HX.out (Nat.le_succ _) HB⟩
  cases r2
  · go_enter Tryz.func59, Tryz.ntmps59
    go_wp2_with (first
      | (go_at_call 56; refine (HK1.out _).mono ?_; rintro e w1 ⟨rfl, rfl⟩)
      | (go_at_call 72; refine (HV1.out _).mono ?_; rintro e w2 ⟨rfl, hb2⟩))
    go_ret
    exact ⟨_, rfl, ⟨_, rfl⟩, h00.out.end_ HX.out (Nat.le_succ _) (keepB HB hb2)⟩
  go_enter Tryz.func59, Tryz.ntmps59
  go_wp2_with (first
    | (go_at_call 56; refine (HK1.out _).mono ?_; rintro e w1 ⟨rfl, rfl⟩)
    | (go_at_call 72; refine (HV1.out _).mono ?_; rintro e w2 ⟨rfl, hb2⟩; replace c11 := keep hb2 c11; replace q0 := keep hb2 q0; replace q1 := keep hb2 q1; replace q2 := keep hb2 q2))
  have hW2 := keepB HB hb2
  replace hW9 := Lib.hid (hW9.later hb2)
  go_loopw [7, 8] (fun u i wr => ∃ k : Nat, k ≤ x.wrs.length ∧ i = .int .i64 k ∧ Hid (WrSo wr w2.heap.size u k) ∧ Below w2.heap.size w2 wr) (fun _ i _ => x.wrs.length - (intOf i).toNat)
  case atStart => exact ⟨0, Nat.zero_le _, rfl, ⟨[], own_nil _ _ _ _, Nat.le_refl _, fun r hr => (by cases hr)⟩, Below.refl _ _⟩
  case round =>
    obtain ⟨k, hkl, rfl, HS, hw⟩ := hrel
    obtain ⟨l, hown, hln, hlg⟩ := HS.out
    obtain ⟨A3, k3, rfl⟩ := own_form hown
    have hkn : Hid (k ≤ n) := by show _ ≤ _; omega
    have hmx : Hid (l.length ≤ 2000) := by show _ ≤ _; omega
    have hlenH : Hid (x.wrs.length ≤ n ∧ n ≤ 1000) := ⟨hwn, hn⟩
    replace hln : Hid (l.length ≤ k) := hln
    replace hlg := Lib.hid hlg
    have c11r := keep hw c11
    have q0r := keep hw q0
    have q1r := keep hw q1
    have q2r := keep hw q2
    by_cases hltk : k < x.wrs.length
    · obtain ⟨b, off, s, z, nb, tx, rfl, d0, d1, d2, d3, HE⟩ := WrsAt.at' hW9.out hltk
      have hnews := hAw _ rfl
      obtain ⟨b', off', e', hnews⟩ := hnews
      injection e' with e1 e2
      subst e1 e2
      have d0r := keep hw d0
      have d1r := keep hw d1
      have d2r := keep hw d2
      have d3r := keep hw d3
      have ki : (k : Int) < (x.wrs.length : Int) := by omega
      have k0 : (0 : Int) ≤ (k : Int) := by omega
      have hcapH := Lib.hid hcapw
      have hnews' : Hid (∀ wz, Below w2.heap.size w2 wz → ∀ kq j u, (wrCells (x.wrs.drop kq))[j]? = some u → wz.cell? ((⟨b, off + kq * 4, none⟩ : Addr).add j) = some u) := fun wz hz kq j u hu => keep hz (keep hb2 (hnews kq j u (by rw [wrCells_drop]; exact hu)))
      have H6 : Hid (∀ wz, Below w2.heap.size w2 wz → wz.cell? ⟨p, 11, none⟩ = some (.slice (some ⟨b, off, none⟩) x.wrs.length capw) ∧ wz.frozen? ⟨p, 11, none⟩ = false) := fun wz hz => ⟨keep hz c11, (H.out.later (keepB hb2 hz)).fz 11⟩
      have hgood : Hid (s.size ≤ 9223372036854775807 ∧ (⟨z, nb, tx⟩ : Val).Good) := by have := hwk.out _ (getD_mem (d := noWr) hltk); rw [HE.out] at this; exact this
      cases hls : Op.bytesLess s.toList key.toList
      · have kk : (k : Int) + 1 ≤ (x.wrs.length : Int) := by omega
        have kk2 : (k : Int) + 1 ≤ (capw : Int) := by omega
        have kk3 : (k : Int) ≤ (x.wrs.length : Int) := by omega
        have hk1n : Hid (k + 1 ≤ x.wrs.length) := hltk
        cases heq : (s.toList == key.toList)
        · go_wp2_with (first
            | (at_builtin; refine wpList_append_own_at _ rfl _ _ 35 rfl w2.heap.size 112 i0 _ 4 48 Tryz.underlying35 hi hz0 hz1 hz2 rfl (by decide) _ _ _ rfl (own_keep hown (below1 wr (.cells #[.string key, .int .i64 v.kind, .int .u64 (v.bits : Int), .string v.text] 112))) ⟨wr.heap.size, 0, none⟩ 1 1 [.string key, .int .i64 v.kind, .int .u64 (v.bits : Int), .string v.text] rfl rfl (World.news_of_block (heap_alloc_new wr _)) one_cell_wrR (le_maxLen (by have := hmx.out; omega)) (by have := hmx.out; omega) (Nat.le_trans hw.size (below1 wr _).size) ?_; intro v5 w5 HO5 hg5 _ _; obtain ⟨A5, c5, rfl⟩ := own_form HO5; have hB5 := own_below (keepB hw (below1 wr (.cells #[.string key, .int .i64 v.kind, .int .u64 (v.bits : Int), .string v.text] 112))) (Nat.le_refl _) (own_keep hown (below1 wr (.cells #[.string key, .int .i64 v.kind, .int .u64 (v.bits : Int), .string v.text] 112))) hg5; replace HO5 := Lib.hid HO5; have c11e := keep hB5 c11; clear hg5; have d0e := keep hB5 d0)
            | (at_builtin; refine wpList_append_row rfl _ _ 35 rfl w2.heap.size 112 i0 _ 4 48 Tryz.underlying35 hi hz0 hz1 hz2 rfl (by decide) _ _ _ rfl HO5.out (some ⟨b, off + k * 4, none⟩) (x.wrs.length - k) _ (wrCells (x.wrs.drop k)) rfl (by rw [wrCells_len, List.length_drop]) (fun e => by cases e) (fun ad e j u hu => by cases e; exact hnews'.out _ hB5 k j u hu) (wrCells_one _) (le_maxLen (by have := hmx.out; have := hlenH.out; omega)) (by have := hmx.out; have := hlenH.out; omega) hB5.size ?_; intro v6 w6 HO6 hg6 _; obtain ⟨A6, c6, rfl⟩ := own_form HO6; have hB6 := own_below hB5 (Nat.le_refl _) HO5.out hg6; have hl6 := Lib.hid (write_so (kq := k) hln.out hlg.out hkH.out hvH.out hwk.out hlenH.out.1 hkn.out (Nat.le_refl _) HO6); clear HO6; have c11f := Lib.hid (H6.out _ hB6); have c11g := c11f.out.1; have f11g := c11f.out.2; clear hg6))
          all_goals
            go_ret
            first
              | exact ⟨_, rfl, ⟨_, rfl⟩, h00.out.end_ HX.out (Nat.le_succ _) (keepB hW2 hB6)⟩
              | exact write_end h00.out HX.out H.out (hb2.trans (hB6.mono hb2.size)) HB hl6.out rfl hb2.size
        · replace heq := Lib.hid heq
          by_cases hc : capw = k + 1
          · have hlk : x.wrs.length = k + 1 := by omega
            replace hlk := Lib.hid hlk
            go_wp2_with (first
              | (at_builtin; refine wpList_append_own_at _ rfl _ _ 35 rfl w2.heap.size 112 i0 _ 4 48 Tryz.underlying35 hi hz0 hz1 hz2 rfl (by decide) _ _ _ rfl (own_keep hown (below1 wr (.cells #[.string key, .int .i64 v.kind, .int .u64 (v.bits : Int), .string v.text] 112))) ⟨wr.heap.size, 0, none⟩ 1 1 [.string key, .int .i64 v.kind, .int .u64 (v.bits : Int), .string v.text] rfl rfl (World.news_of_block (heap_alloc_new wr _)) one_cell_wrR (le_maxLen (by have := hmx.out; omega)) (by have := hmx.out; omega) (Nat.le_trans hw.size (below1 wr _).size) ?_; intro v5 w5 HO5 hg5 _ _; obtain ⟨A5, c5, rfl⟩ := own_form HO5; have hB5 := own_below (keepB hw (below1 wr (.cells #[.string key, .int .i64 v.kind, .int .u64 (v.bits : Int), .string v.text] 112))) (Nat.le_refl _) (own_keep hown (below1 wr (.cells #[.string key, .int .i64 v.kind, .int .u64 (v.bits : Int), .string v.text] 112))) hg5; replace HO5 := Lib.hid HO5; have c11e := keep hB5 c11; clear hg5; have d0e := keep hB5 d0)
              | (at_builtin; refine wpList_append_row rfl _ _ 35 rfl w2.heap.size 112 i0 _ 4 48 Tryz.underlying35 hi hz0 hz1 hz2 rfl (by decide) _ _ _ rfl HO5.out (some ⟨b, off + k * 4, none⟩) (x.wrs.length - k) _ (wrCells (x.wrs.drop k)) rfl (by rw [wrCells_len, List.length_drop]) (fun e => by cases e) (fun ad e j u hu => by cases e; exact hnews'.out _ hB5 k j u hu) (wrCells_one _) (le_maxLen (by have := hmx.out; have := hlenH.out; omega)) (by have := hmx.out; have := hlenH.out; omega) hB5.size ?_; intro v6 w6 HO6 hg6 _; obtain ⟨A6, c6, rfl⟩ := own_form HO6; have hB6 := own_below hB5 (Nat.le_refl _) HO5.out hg6; have hl6 := Lib.hid (write_so (kq := k) hln.out hlg.out hkH.out hvH.out hwk.out hlenH.out.1 hkn.out (Nat.le_refl _) HO6); clear HO6; have c11f := Lib.hid (H6.out _ hB6); have c11g := c11f.out.1; have f11g := c11f.out.2; clear hg6)
              | (at_builtin; refine wpList_append_row rfl _ _ 35 rfl w2.heap.size 112 i0 _ 4 48 Tryz.underlying35 hi hz0 hz1 hz2 rfl (by decide) _ _ _ rfl HO5.out _ (x.wrs.length - (k + 1)) _ (wrCells (x.wrs.drop (k + 1))) rfl (by rw [wrCells_len, List.length_drop]) (fun e => by cases e) (fun ad e j u hu => by rw [List.drop_eq_nil_of_le (by omega)] at hu; simp [wrCells] at hu) (wrCells_one _) (le_maxLen (by have := hmx.out; have := hlenH.out; omega)) (by have := hmx.out; have := hlenH.out; omega) hB5.size ?_; intro v6 w6 HO6 hg6 _; obtain ⟨A6, c6, rfl⟩ := own_form HO6; have hB6 := own_below hB5 (Nat.le_refl _) HO5.out hg6; have hl6 := Lib.hid (write_so (kq := k + 1) hln.out hlg.out hkH.out hvH.out hwk.out hlenH.out.1 hkn.out (Nat.le_succ _) HO6); clear HO6; have c11f := Lib.hid (H6.out _ hB6); have c11g := c11f.out.1; have f11g := c11f.out.2; clear hg6))
            all_goals
              go_ret
              first
                | exact ⟨_, rfl, ⟨_, rfl⟩, h00.out.end_ HX.out (Nat.le_succ _) (keepB hW2 hB6)⟩
                | exact write_end h00.out HX.out H.out (hb2.trans (hB6.mono hb2.size)) HB hl6.out rfl hb2.size
          · go_wp2_with (first
              | (at_builtin; refine wpList_append_own_at _ rfl _ _ 35 rfl w2.heap.size 112 i0 _ 4 48 Tryz.underlying35 hi hz0 hz1 hz2 rfl (by decide) _ _ _ rfl (own_keep hown (below1 wr (.cells #[.string key, .int .i64 v.kind, .int .u64 (v.bits : Int), .string v.text] 112))) ⟨wr.heap.size, 0, none⟩ 1 1 [.string key, .int .i64 v.kind, .int .u64 (v.bits : Int), .string v.text] rfl rfl (World.news_of_block (heap_alloc_new wr _)) one_cell_wrR (le_maxLen (by have := hmx.out; omega)) (by have := hmx.out; omega) (Nat.le_trans hw.size (below1 wr _).size) ?_; intro v5 w5 HO5 hg5 _ _; obtain ⟨A5, c5, rfl⟩ := own_form HO5; have hB5 := own_below (keepB hw (below1 wr (.cells #[.string key, .int .i64 v.kind, .int .u64 (v.bits : Int), .string v.text] 112))) (Nat.le_refl _) (own_keep hown (below1 wr (.cells #[.string key, .int .i64 v.kind, .int .u64 (v.bits : Int), .string v.text] 112))) hg5; replace HO5 := Lib.hid HO5; have c11e := keep hB5 c11; clear hg5; have d0e := keep hB5 d0)
              | (at_builtin; refine wpList_append_row rfl _ _ 35 rfl w2.heap.size 112 i0 _ 4 48 Tryz.underlying35 hi hz0 hz1 hz2 rfl (by decide) _ _ _ rfl HO5.out (some ⟨b, off + k * 4, none⟩) (x.wrs.length - k) _ (wrCells (x.wrs.drop k)) rfl (by rw [wrCells_len, List.length_drop]) (fun e => by cases e) (fun ad e j u hu => by cases e; exact hnews'.out _ hB5 k j u hu) (wrCells_one _) (le_maxLen (by have := hmx.out; have := hlenH.out; omega)) (by have := hmx.out; have := hlenH.out; omega) hB5.size ?_; intro v6 w6 HO6 hg6 _; obtain ⟨A6, c6, rfl⟩ := own_form HO6; have hB6 := own_below hB5 (Nat.le_refl _) HO5.out hg6; have hl6 := Lib.hid (write_so (kq := k) hln.out hlg.out hkH.out hvH.out hwk.out hlenH.out.1 hkn.out (Nat.le_refl _) HO6); clear HO6; have c11f := Lib.hid (H6.out _ hB6); have c11g := c11f.out.1; have f11g := c11f.out.2; clear hg6)
              | (at_builtin; refine wpList_append_row rfl _ _ 35 rfl w2.heap.size 112 i0 _ 4 48 Tryz.underlying35 hi hz0 hz1 hz2 rfl (by decide) _ _ _ rfl HO5.out (some ⟨b, off + (k + 1) * 4, none⟩) (x.wrs.length - (k + 1)) _ (wrCells (x.wrs.drop (k + 1))) rfl (by rw [wrCells_len, List.length_drop]) (fun e => by cases e) (fun ad e j u hu => by cases e; exact hnews'.out _ hB5 (k + 1) j u hu) (wrCells_one _) (le_maxLen (by have := hmx.out; have := hlenH.out; omega)) (by have := hmx.out; have := hlenH.out; omega) hB5.size ?_; intro v6 w6 HO6 hg6 _; obtain ⟨A6, c6, rfl⟩ := own_form HO6; have hB6 := own_below hB5 (Nat.le_refl _) HO5.out hg6; have hl6 := Lib.hid (write_so (kq := k + 1) hln.out hlg.out hkH.out hvH.out hwk.out hlenH.out.1 hkn.out (Nat.le_succ _) HO6); clear HO6; have c11f := Lib.hid (H6.out _ hB6); have c11g := c11f.out.1; have f11g := c11f.out.2; clear hg6))
            all_goals
              go_ret
              first
                | exact ⟨_, rfl, ⟨_, rfl⟩, h00.out.end_ HX.out (Nat.le_succ _) (keepB hW2 hB6)⟩
                | exact write_end h00.out HX.out H.out (hb2.trans (hB6.mono hb2.size)) HB hl6.out rfl hb2.size
      · go_wp2_with (first
          | (at_builtin; refine wpList_append_own_at _ rfl _ _ 35 rfl w2.heap.size 112 i0 _ 4 48 Tryz.underlying35 hi hz0 hz1 hz2 rfl (by decide) _ _ _ rfl (own_keep hown (below1 wr (.cells #[.string s, .int .i64 z, .int .u64 (nb : Int), .string tx] 112))) ⟨wr.heap.size, 0, none⟩ 1 1 [.string s, .int .i64 z, .int .u64 (nb : Int), .string tx] rfl rfl (World.news_of_block (heap_alloc_new wr _)) one_cell_wrR (le_maxLen (by have := hmx.out; omega)) (by have := hmx.out; omega) (Nat.le_trans hw.size (below1 wr _).size) ?_; intro v5 w5 HO5 hg5 _ _; have hB5 := own_below (keepB hw (below1 wr (.cells #[.string s, .int .i64 z, .int .u64 (nb : Int), .string tx] 112))) (Nat.le_refl _) (own_keep hown (below1 wr (.cells #[.string s, .int .i64 z, .int .u64 (nb : Int), .string tx] 112))) hg5; have hS5 := Lib.hid (WrSo.snoc hln.out hlg.out [⟨s, ⟨z, nb, tx⟩⟩] (Nat.le_refl 1) (fun r hr => by rw [List.mem_singleton.1 hr]; exact hgood.out) HO5); clear hg5 HO5))
        have hk1 : Hid (k + 1 ≤ x.wrs.length) := hltk
        have hk9 : k ≤ 1000 := by have := hlenH.out; omega
        go_roundw
        case rel => exact ⟨k + 1, hk1.out, by go_num, hS5, hB5⟩
        case measure => have := hk1.out; simp [intOf]; omega
    · have hlti : ¬ ((k : Int) < (x.wrs.length : Int)) := by omega
      have kk3 : (k : Int) ≤ (x.wrs.length : Int) := by omega
      have kl : Hid (k = x.wrs.length) := by show _ = _; omega
      have H6 : Hid (∀ wz, Below w2.heap.size w2 wz → wz.cell? ⟨p, 11, none⟩ = some (.slice Aw x.wrs.length capw) ∧ wz.frozen? ⟨p, 11, none⟩ = false) := fun wz hz => ⟨keep hz c11, (H.out.later (keepB hb2 hz)).fz 11⟩
      cases Aw with
      | none =>
        have hz9 := hAw0 rfl
        have hk0 : k = 0 := by omega
        subst hk0
        rw [hz9.1, hz9.2] at c11r c11
        replace H6 : Hid (∀ wz, Below w2.heap.size w2 wz → wz.cell? ⟨p, 11, none⟩ = some (.slice none 0 0) ∧ wz.frozen? ⟨p, 11, none⟩ = false) := fun wz hz => by
          have := H6.out wz hz
          rw [hz9.1, hz9.2] at this
          exact this
        have hz9' := Lib.hid hz9.1
        have hln' : Hid (l.length = 0) := Nat.le_zero.1 hln.out
        clear hz9 hlti kk3 hltk hkl kl
        go_wp2_with (first
          | (at_builtin; refine wpList_append_own_at _ rfl _ _ 35 rfl w2.heap.size 112 i0 _ 4 48 Tryz.underlying35 hi hz0 hz1 hz2 rfl (by decide) _ _ _ rfl (own_keep hown (below1 wr (.cells #[.string key, .int .i64 v.kind, .int .u64 (v.bits : Int), .string v.text] 112))) ⟨wr.heap.size, 0, none⟩ 1 1 [.string key, .int .i64 v.kind, .int .u64 (v.bits : Int), .string v.text] rfl rfl (World.news_of_block (heap_alloc_new wr _)) one_cell_wrR (le_maxLen (by have := hmx.out; omega)) (by have := hmx.out; omega) (Nat.le_trans hw.size (below1 wr _).size) ?_; intro v5 w5 HO5 hg5 _ _; obtain ⟨A5, c5, rfl⟩ := own_form HO5; have hB5 := own_below (keepB hw (below1 wr (.cells #[.string key, .int .i64 v.kind, .int .u64 (v.bits : Int), .string v.text] 112))) (Nat.le_refl _) (own_keep hown (below1 wr (.cells #[.string key, .int .i64 v.kind, .int .u64 (v.bits : Int), .string v.text] 112))) hg5; replace HO5 := Lib.hid HO5; have c11e := keep hB5 c11; clear hg5)
          | (at_builtin; refine wpList_append_row rfl _ _ 35 rfl w2.heap.size 112 i0 _ 4 48 Tryz.underlying35 hi hz0 hz1 hz2 rfl (by decide) _ _ _ rfl HO5.out none 0 _ [] rfl rfl (fun _ => rfl) (fun ad e => by cases e) (fun u hu => by cases hu) (le_maxLen (by have := hmx.out; have := hlenH.out; omega)) (by have := hmx.out; have := hlenH.out; omega) hB5.size ?_; intro v6 w6 HO6 hg6 _; obtain ⟨A6, c6, rfl⟩ := own_form HO6; have hB6 := own_below hB5 (Nat.le_refl _) HO5.out hg6; have hl6 := Lib.hid (write_so0 (n := n) hln'.out hkH.out hvH.out HO6); clear HO6; have c11f := Lib.hid (H6.out _ hB6); have c11g := c11f.out.1; have f11g := c11f.out.2; clear hg6))
        all_goals
          go_ret
          first
            | exact ⟨_, rfl, ⟨_, rfl⟩, h00.out.end_ HX.out (Nat.le_succ _) (keepB hW2 hB6)⟩
            | exact write_end h00.out HX.out H.out (hb2.trans (hB6.mono hb2.size)) HB hl6.out rfl hb2.size
      | some a9 =>
        obtain ⟨b, off, rfl, _⟩ := hAw _ rfl
        have hcapH := Lib.hid hcapw
        by_cases hc : capw = k
        · go_wp2_with (first
            | (at_builtin; refine wpList_append_own_at _ rfl _ _ 35 rfl w2.heap.size 112 i0 _ 4 48 Tryz.underlying35 hi hz0 hz1 hz2 rfl (by decide) _ _ _ rfl (own_keep hown (below1 wr (.cells #[.string key, .int .i64 v.kind, .int .u64 (v.bits : Int), .string v.text] 112))) ⟨wr.heap.size, 0, none⟩ 1 1 [.string key, .int .i64 v.kind, .int .u64 (v.bits : Int), .string v.text] rfl rfl (World.news_of_block (heap_alloc_new wr _)) one_cell_wrR (le_maxLen (by have := hmx.out; omega)) (by have := hmx.out; omega) (Nat.le_trans hw.size (below1 wr _).size) ?_; intro v5 w5 HO5 hg5 _ _; obtain ⟨A5, c5, rfl⟩ := own_form HO5; have hB5 := own_below (keepB hw (below1 wr (.cells #[.string key, .int .i64 v.kind, .int .u64 (v.bits : Int), .string v.text] 112))) (Nat.le_refl _) (own_keep hown (below1 wr (.cells #[.string key, .int .i64 v.kind, .int .u64 (v.bits : Int), .string v.text] 112))) hg5; replace HO5 := Lib.hid HO5; have c11e := keep hB5 c11; clear hg5)
            | (at_builtin; refine wpList_append_row rfl _ _ 35 rfl w2.heap.size 112 i0 _ 4 48 Tryz.underlying35 hi hz0 hz1 hz2 rfl (by decide) _ _ _ rfl HO5.out _ (x.wrs.length - k) _ (wrCells (x.wrs.drop k)) rfl (by rw [wrCells_len, List.length_drop]) (fun e => by first | (cases e; done) | omega) (fun ad e j u hu => by rw [List.drop_eq_nil_of_le (by omega)] at hu; simp [wrCells] at hu) (wrCells_one _) (le_maxLen (by have := hmx.out; have := hlenH.out; omega)) (by have := hmx.out; have := hlenH.out; omega) hB5.size ?_; intro v6 w6 HO6 hg6 _; obtain ⟨A6, c6, rfl⟩ := own_form HO6; have hB6 := own_below hB5 (Nat.le_refl _) HO5.out hg6; have hl6 := Lib.hid (write_so (kq := k) hln.out hlg.out hkH.out hvH.out hwk.out hlenH.out.1 hkn.out (Nat.le_refl _) HO6); clear HO6; have c11f := Lib.hid (H6.out _ hB6); have c11g := c11f.out.1; have f11g := c11f.out.2; clear hg6))
          all_goals
            go_ret
            first
              | exact ⟨_, rfl, ⟨_, rfl⟩, h00.out.end_ HX.out (Nat.le_succ _) (keepB hW2 hB6)⟩
              | exact write_end h00.out HX.out H.out (hb2.trans (hB6.mono hb2.size)) HB hl6.out rfl hb2.size
        · go_wp2_with (first
            | (at_builtin; refine wpList_append_own_at _ rfl _ _ 35 rfl w2.heap.size 112 i0 _ 4 48 Tryz.underlying35 hi hz0 hz1 hz2 rfl (by decide) _ _ _ rfl (own_keep hown (below1 wr (.cells #[.string key, .int .i64 v.kind, .int .u64 (v.bits : Int), .string v.text] 112))) ⟨wr.heap.size, 0, none⟩ 1 1 [.string key, .int .i64 v.kind, .int .u64 (v.bits : Int), .string v.text] rfl rfl (World.news_of_block (heap_alloc_new wr _)) one_cell_wrR (le_maxLen (by have := hmx.out; omega)) (by have := hmx.out; omega) (Nat.le_trans hw.size (below1 wr _).size) ?_; intro v5 w5 HO5 hg5 _ _; obtain ⟨A5, c5, rfl⟩ := own_form HO5; have hB5 := own_below (keepB hw (below1 wr (.cells #[.string key, .int .i64 v.kind, .int .u64 (v.bits : Int), .string v.text] 112))) (Nat.le_refl _) (own_keep hown (below1 wr (.cells #[.string key, .int .i64 v.kind, .int .u64 (v.bits : Int), .string v.text] 112))) hg5; replace HO5 := Lib.hid HO5; have c11e := keep hB5 c11; clear hg5)
            | (at_builtin; refine wpList_append_row rfl _ _ 35 rfl w2.heap.size 112 i0 _ 4 48 Tryz.underlying35 hi hz0 hz1 hz2 rfl (by decide) _ _ _ rfl HO5.out (some ⟨b, off + k * 4, none⟩) (x.wrs.length - k) _ (wrCells (x.wrs.drop k)) rfl (by rw [wrCells_len, List.length_drop]) (fun e => by cases e) (fun ad e j u hu => by rw [List.drop_eq_nil_of_le (by omega)] at hu; simp [wrCells] at hu) (wrCells_one _) (le_maxLen (by have := hmx.out; have := hlenH.out; omega)) (by have := hmx.out; have := hlenH.out; omega) hB5.size ?_; intro v6 w6 HO6 hg6 _; obtain ⟨A6, c6, rfl⟩ := own_form HO6; have hB6 := own_below hB5 (Nat.le_refl _) HO5.out hg6; have hl6 := Lib.hid (write_so (kq := k) hln.out hlg.out hkH.out hvH.out hwk.out hlenH.out.1 hkn.out (Nat.le_refl _) HO6); clear HO6; have c11f := Lib.hid (H6.out _ hB6); have c11g := c11f.out.1; have f11g := c11f.out.2; clear hg6))
          all_goals
            go_ret
            first
              | exact ⟨_, rfl, ⟨_, rfl⟩, h00.out.end_ HX.out (Nat.le_succ _) (keepB hW2 hB6)⟩
              | exact write_end h00.out HX.out H.out (hb2.trans (hB6.mono hb2.size)) HB hl6.out rfl hb2.size
end
end Go.Proofs.YtjgloipgnnigmaaGreatDoor
