/- The reference's Import. -/
import Derived.Test.YtboiafchmdflpaaDoorCan14
import Derived.Test.YtboiafchmdflpaaDoorSame02
import Derived.Test.YtboiafchmdflpaaDoorReadyAp
import Derived.Deep.DeepCutAuto
import Derived.Deep.RegionHeld3
import Derived.Deep.AppendLies
namespace Go.Proofs.YtboiafchmdflpaaDoor
open Go.RowKit Go.Maps Go.Sort Go.Shelf

theorem RRdrAt.new {w w1 : World} {b : List UInt8} {A : Option Addr} {ca : Nat} (hA : BysAt w A b) (hle : b.length ≤ ca) (hb : b.length ≤ 1000000) (h1 : Below w.heap.size w w1) (h : w1.heap[w.heap.size]? = some (.cells #[.slice A b.length ca, .int .i64 0, .bool false] 124 (0, 0))) : RRdrAt w1 w.heap.size (some b) :=
  ⟨A, b, ca, 0, { blk := h, cap := hle, mx := hb, le := Nat.zero_le _, lo := hA.lt, by_ := BysAt.later hA h1, st := fun l e => by injection e with e; rw [← e]; rfl }⟩
theorem left_some (b : List UInt8) : left (some b) = b.length + 9 := rfl
theorem rvers_no {la lo m : Nat} {k : ByteArray} {bv : List UInt8} {L : List It} {x : Nat} {v : Val} {t1 : RS} (h1 : (takeN (some bv) 8).1 = x) (h2 : (takeN (some bv) 8).2 = t1) (h3 : (takeV t1).1 = v) (hc : canB la lo L ⟨k, v, x⟩ = false) : rversF la lo k (m + 1) (some bv) L = none := by
  rw [rversF, h1, h2, h3, hc]; rfl
theorem rvers_yes {la lo m : Nat} {k : ByteArray} {bv : List UInt8} {L : List It} {x : Nat} {v : Val} {t1 t2 : RS} (h1 : (takeN (some bv) 8).1 = x) (h2 : (takeN (some bv) 8).2 = t1) (h3 : (takeV t1).1 = v) (h4 : (takeV t1).2 = t2) (hc : canB la lo L ⟨k, v, x⟩ = true) : rversF la lo k (m + 1) (some bv) L = rversF la lo k m t2 (L ++ [⟨k, v, x⟩]) := by
  rw [rversF, h1, h2, h3, h4, hc]; rfl
theorem filter_here {p : ByteArray × List Ver} {m : KV} (h : RisesK (p :: m)) : (items (p :: m)).filter (fun x => decide (x.key = p.1)) = itemsOf p ∧ (items (p :: m)).filter (fun x => !decide (x.key = p.1)) = items m := by
  have h2 := (List.pairwise_cons.1 h).1
  have hm : ∀ x ∈ items m, x.key ≠ p.1 := fun x hx e => by
    obtain ⟨r, hr, hx⟩ := List.mem_flatMap.1 hx
    obtain ⟨v, _, rfl⟩ := List.mem_map.1 hx
    have := h2 r hr
    rw [show r.1 = p.1 from e, lessS_irr] at this
    cases this
  have hp : ∀ x ∈ itemsOf p, x.key = p.1 := fun x hx => by
    obtain ⟨v, _, rfl⟩ := List.mem_map.1 hx
    rfl
  rw [show items (p :: m) = itemsOf p ++ items m from rfl, List.filter_append, List.filter_append]
  refine ⟨?_, ?_⟩
  · rw [List.filter_eq_self.2 (fun x hx => decide_eq_true (hp x hx)), List.filter_eq_nil_iff.2 (fun x hx => by simpa using hm x hx), List.append_nil]
  · rw [List.filter_eq_nil_iff.2 (fun x hx => by simpa using hp x hx), List.filter_eq_self.2 (fun x hx => by simpa using hm x hx), List.nil_append]
theorem items_inj : ∀ {m m' : KV}, RisesK m → RisesK m' → (∀ p ∈ m, p.2 ≠ []) → (∀ p ∈ m', p.2 ≠ []) → items m = items m' → m = m'
  | [], [], _, _, _, _, _ => rfl
  | [], p :: m, _, _, _, h, e => by
    have h1 := List.length_pos_iff.2 (h p (by simp))
    have := congrArg List.length e
    rw [items_cons_len] at this
    simp only [items, List.flatMap_nil, List.length_nil] at this
    omega
  | p :: m, [], _, _, h, _, e => by
    have h1 := List.length_pos_iff.2 (h p (by simp))
    have := congrArg List.length e
    rw [items_cons_len] at this
    simp only [items, List.flatMap_nil, List.length_nil] at this
    omega
  | (k, l) :: m, (k', l') :: m', r, r', h, h', e => by
    have ek : k = k' := by
      have h1 := h (k, l) (by simp)
      have h2 := h' (k', l') (by simp)
      cases l with
      | nil => exact absurd rfl h1
      | cons a l =>
        cases l' with
        | nil => exact absurd rfl h2
        | cons a' l' =>
          have := congrArg (fun x => (x.getD 0 noIt).key) e
          exact this
    subst ek
    have f1 := filter_here r
    have f2 := filter_here r'
    rw [e] at f1
    have e1 : itemsOf (k, l) = itemsOf (k, l') := f1.1.symm.trans f2.1
    have e2 : items m = items m' := f1.2.symm.trans f2.2
    have e3 : l = l' := by
      have := congrArg (List.map fun x : It => (⟨x.num, x.val⟩ : Ver)) e1
      simpa [itemsOf, List.map_map, Function.comp_def] using this
    rw [e3, items_inj (List.pairwise_cons.1 r).2 (List.pairwise_cons.1 r').2 (fun q hq => h q (by simp [hq])) (fun q hq => h' q (by simp [hq])) e2]
theorem RImpPost.yes' {w w' : World} {b : List UInt8} {q : Nat} {O : Nat → Prop} {ks : KV} {la lo : Nat} (h : impS b = some ⟨ks, la, lo⟩) (hr : RefAt w' q q O (items ks) la lo) (hq : w.heap.size ≤ q) (hb : Below w.heap.size w w') : RImpPost w b (.returned (.tuple #[.pointer (some ⟨q, 0, none⟩), .int .i64 0])) w' := by
  rw [RImpPost, h]
  obtain ⟨v, hr⟩ := hr
  exact ⟨q, O, rfl, ⟨v, { blk := hr.blk, row := own_base hr.row hq, hq := hr.hq, mine := hr.mine, lt := fun k hk => ⟨Nat.le_trans hq (hr.lt k hk).1, (hr.lt k hk).2⟩ }⟩, hb⟩
theorem mks5 {w : World} {g : Nat} {u0 u1 u2 u3 u4 v1 v2 v3 : Value} {t : TypeId} (h : w.heap[g]? = some (.cells #[u0, u1, u2, u3, u4] t (0, 0))) : (((w.setCell ⟨g, 1, none⟩ v1).setCell ⟨g, 2, none⟩ v2).setCell ⟨g, 3, none⟩ v3).heap[g]? = some (.cells #[u0, v1, v2, v3, u4] t (0, 0)) := by
  have h1 := obj_set (j := 1) v1 h
  have h2 := obj_set (j := 2) v2 h1
  have h3 := obj_set (j := 3) v3 h2
  simpa using h3
theorem rows_kept {w14 wA w15 : World} {q g : Nat} {v : Value} {L : List It} {la lo : Nat} {u0 u1 u2 u3 u4 : Value} (hO : Out (fun j => v.ownBlock = some j) wA w15) (hb : Below w14.heap.size w14 wA) (hB : w14.heap[q]? = some (.cells #[v, .int .u64 (la : Int), .int .u64 (lo : Int)] 32 (0, 0))) (hr : w14.ownsRow (q + 1) 102 5 v L.length (itCs L)) (hg : ∀ k, v.ownBlock = some k → k ≠ g)
    (y0 : w14.cell? ⟨g, 0, none⟩ = some u0) (y1 : w14.cell? ⟨g, 1, none⟩ = some u1) (y2 : w14.cell? ⟨g, 2, none⟩ = some u2) (y3 : w14.cell? ⟨g, 3, none⟩ = some u3) (y4 : w14.cell? ⟨g, 4, none⟩ = some u4) :
    w15.heap[q]? = some (.cells #[v, .int .u64 (la : Int), .int .u64 (lo : Int)] 32 (0, 0)) ∧ w15.cell? ⟨q, 0, none⟩ = some v ∧ w15.cell? ⟨g, 0, none⟩ = some u0 ∧ w15.cell? ⟨g, 1, none⟩ = some u1 ∧ w15.cell? ⟨g, 2, none⟩ = some u2 ∧ w15.cell? ⟨g, 3, none⟩ = some u3 ∧ w15.cell? ⟨g, 4, none⟩ = some u4 := by
  have hq : ¬ v.ownBlock = some q := fun e => by have := (hr.lt q e).1; omega
  have h1 := hO.obj (obj_later' hB hb) hq
  have hg' : ¬ v.ownBlock = some g := fun e => hg g e rfl
  exact ⟨h1, (mkc3 h1).1, hO.cell (keep hb y0) hg', hO.cell (keep hb y1) hg', hO.cell (keep hb y2) hg', hO.cell (keep hb y3) hg', hO.cell (keep hb y4) hg'⟩
theorem RefSt.outk {w w' : World} {q g : Nat} {v : Value} {L : List It} {la lo : Nat} (h : RefSt w q v L la lo) (hg : q ≠ g) (hv : ∀ k, v.ownBlock = some k → k ≠ g) (hw : Out (fun k => k = g) w w') : RefSt w' q v L la lo :=
  ⟨hw.obj h.blk hg, hw.row h.row hv⟩
theorem outs5 (w : World) (g : Nat) (v1 v2 v3 : Value) : Out (fun k => k = g) w (((w.setCell ⟨g, 1, none⟩ v1).setCell ⟨g, 2, none⟩ v2).setCell ⟨g, 3, none⟩ v3) :=
  ((out_cell w g 1 v1).trans' (out_cell _ g 2 v2)).trans' (out_cell _ g 3 v3)
set_option maxRecDepth 100000 in
set_option maxHeartbeats 16000000 in
theorem refImp_any (b : List UInt8) (A : Option Addr) (ca : Nat) (w : World) (hA : BysAt w A b) (hle : b.length ≤ ca) (hb : b.length ≤ 71000) :
    Calls Tryd.prog 34 #[.slice A b.length ca] w (RImpPost w b) := by
  have hlaw := impLast_lt b
  have hlow := impLow_lt b
  obtain ⟨la, hla⟩ : ∃ la, Hid ((takeN (some b) 8).1 = la) := ⟨_, rfl⟩
  obtain ⟨s1, hs1⟩ : ∃ s1, Hid ((takeN (some b) 8).2 = s1) := ⟨_, rfl⟩
  obtain ⟨lo, hlo⟩ : ∃ lo, Hid ((takeN s1 8).1 = lo) := ⟨_, rfl⟩
  obtain ⟨s2, hs2⟩ : ∃ s2, Hid ((takeN s1 8).2 = s2) := ⟨_, rfl⟩
  have hn0l := takeN_lt s2 4
  obtain ⟨n0, hn0⟩ : ∃ n0, Hid ((takeN s2 4).1 = n0) := ⟨_, rfl⟩
  obtain ⟨s3, hs3⟩ : ∃ s3, Hid ((takeN s2 4).2 = s3) := ⟨_, rfl⟩
  have hleft : Hid (left s3 ≤ 71009) := by
    show _ ≤ _
    have h1 := takeN_left (some b) 8
    have h2 := takeN_left s1 8
    have h3 := takeN_left s2 4
    rw [hs1.out] at h1
    rw [hs2.out] at h2
    rw [hs3.out] at h3
    rw [left_some] at h1
    omega
  rw [hn0.out] at hn0l
  have HLa : Hid (impLast b = la) := hla.out
  have HLo : Hid (impLow b = lo) := by show _ = _; rw [impLow, hs1.out, hlo.out]
  have HIK : Hid (rimpK b = rkeysF la lo n0 s3 []) := by show _ = _; rw [rimpK, HLa.out, HLo.out, hs1.out, hs2.out, hn0.out, hs3.out]
  rw [HLa.out] at hlaw
  rw [HLo.out] at hlow
  have HC1 : Hid (∀ wz, RRdrAt wz w.heap.size (some b) → Calls Tryd.prog 66 #[.pointer (some ⟨w.heap.size, 0, none⟩), .int .i64 8] wz (RTakePost wz w.heap.size la s1)) := fun wz h => by rw [← hla.out, ← hs1.out]; exact refTake_any h 8 8 rfl (by decide)
  have HC2 : Hid (∀ wz, RRdrAt wz w.heap.size s1 → Calls Tryd.prog 66 #[.pointer (some ⟨w.heap.size, 0, none⟩), .int .i64 8] wz (RTakePost wz w.heap.size lo s2)) := fun wz h => by rw [← hlo.out, ← hs2.out]; exact refTake_any h 8 8 rfl (by decide)
  have HC3 : Hid (∀ wz, RRdrAt wz w.heap.size s2 → Calls Tryd.prog 66 #[.pointer (some ⟨w.heap.size, 0, none⟩), .int .i64 4] wz (RTakePost wz w.heap.size n0 s3)) := fun wz h => by rw [← hn0.out, ← hs3.out]; exact refTake_any h 4 4 rfl (by decide)
  have hwn0 : IntKind.i64.wrap (n0 : Int) = n0 := IntWalk.i64_in _ (by omega)
  obtain ⟨w1, ew1, hb1, hsz1, hrow1⟩ := mk3 w (.slice A b.length ca) (.int .i64 0) (.bool false) 124
  obtain ⟨w2, ew2, hb2, hsz2, hrow2⟩ := mk3 w1 (.slice none 0 0) (.int .u64 0) (.int .u64 0) 32
  have hR2 := (RRdrAt.new hA hle (by omega) hb1 hrow1).later hb2
  have hSt2 : RefSt w2 w1.heap.size (.slice none 0 0) [] 0 0 := ⟨hrow2, own_nil _ _ _ _⟩
  have hb02 := keepB hb1 hb2
  have hrq : w.heap.size < w1.heap.size := by omega
  obtain ⟨rq, hrqe⟩ : ∃ rq, Hid (w.heap.size = rq) := ⟨_, rfl⟩
  obtain ⟨q, hqe⟩ : ∃ q, Hid (w1.heap.size = q) := ⟨_, rfl⟩
  replace hsz1 := Lib.hid hsz1
  replace hsz2 := Lib.hid hsz2
  clear hla hs1 hlo hs2 hn0 hs3 hrow1 hrow2 hrqe hqe
  go_enter Tryd.func34, Tryd.ntmps34
  go_wp2_with (first
    | (go_at_call 66; (with_reducible refine (HC1.out _ hR2).mono ?_); rintro e w3 ⟨rfl, hR3, ho3⟩; have hSt3 := hSt2.out ho3 (fun k hk e => by omega); obtain ⟨c0, c1, c2, f0, f1, f2⟩ := mkc3 hSt3.blk; obtain ⟨w4, ew4⟩ : ∃ w4, w3.setCell ⟨w1.heap.size, 1, none⟩ (.int .u64 (la : Int)) = w4 := ⟨_, rfl⟩; have hSt4 : RefSt w4 w1.heap.size (.slice none 0 0) [] la 0 := (by rw [← ew4]; exact hSt3.last la); have ho4 := out_cell w3 w1.heap.size 1 (.int .u64 (la : Int)); rw [ew4] at ho4; have hR4 := hR3.out ho4 (fun k hk e => by omega))
    | (go_at_call 66; (with_reducible refine (HC2.out _ hR4).mono ?_); rintro e w5 ⟨rfl, hR5, ho5⟩; have hSt5 := hSt4.out ho5 (fun k hk e => by omega); clear c0 c1 c2 f0 f1 f2; obtain ⟨c0, c1, c2, f0, f1, f2⟩ := mkc3 hSt5.blk; obtain ⟨w6, ew6⟩ : ∃ w6, w5.setCell ⟨w1.heap.size, 2, none⟩ (.int .u64 (lo : Int)) = w6 := ⟨_, rfl⟩; have hSt6 : RefSt w6 w1.heap.size (.slice none 0 0) [] la lo := (by rw [← ew6]; exact hSt5.low lo); have ho6 := out_cell w5 w1.heap.size 2 (.int .u64 (lo : Int)); rw [ew6] at ho6; have hR6 := hR5.out ho6 (fun k hk e => by omega))
    | (go_at_call 66; (with_reducible refine (HC3.out _ hR6).mono ?_); rintro e w7 ⟨rfl, hR7, ho7⟩; have hSt7 := hSt6.out ho7 (fun k hk e => by omega)))
  have hb7 : Below w.heap.size w w7 := by
    have s2 := hb02.size
    have s3 := Nat.le_trans s2 ho3.size
    have s4 := Nat.le_trans s3 ho4.size
    have s5 := Nat.le_trans s4 ho5.size
    have s6 := Nat.le_trans s5 ho6.size
    exact ((((hb02.trans (ho3.below s2 (fun k e => by omega))).trans (ho4.below s3 (fun k e => by omega))).trans (ho5.below s4 (fun k e => by omega))).trans (ho6.below s5 (fun k e => by omega))).trans (ho7.below s6 (fun k e => by omega))
  clear HC1 HC2 HC3 hR2 hR3 hR4 hR5 hR6 hSt2 hSt3 hSt4 hSt5 hSt6 ho3 ho4 ho5 ho6 ho7 ew1 ew2 ew4 ew6 c0 c1 c2 f0 f1 f2 hb1 hb2 hb02
  go_loopw [7] (fun iv wr => ∃ (i nn : Nat) (s : RS) (v : Value) (L : List It), iv = .int .i64 i ∧ Hid (i + nn = n0) ∧ Hid (rkeysF la lo n0 s3 [] = rkeysF la lo nn s L) ∧ Hid (RRdrAt wr w.heap.size s) ∧ Hid (RefSt wr w1.heap.size v L la lo) ∧ Hid (KVg la lo L) ∧ Hid (L.length * 9 + left s ≤ 71009) ∧ Below w.heap.size w wr) (fun iv _ => n0 - (intOf iv).toNat)
  case atStart => exact ⟨0, n0, s3, _, [], rfl, Nat.zero_add _, rfl, hR7, hSt7, ⟨[], rfl, KVok.nil _ _⟩, (by have := hleft.out; show _ ≤ _; simpa using this), hb7⟩
  case round =>
    obtain ⟨i, nn, s, v, L, rfl, hin, hEq, hR, hSt, hKV, hLen, hw⟩ := hrel
    obtain ⟨wi, rfl⟩ : ∃ wi : World, wi = wr := ⟨_, rfl⟩
    obtain ⟨cc, hcc⟩ : ∃ cc, Hid ((decide (0 < nn) && s.isSome) = cc) := ⟨_, rfl⟩
    have rf := hR.out.c2
    clear hSt7 hR7
    go_upto_region 7 with fail
    go_cut [39] (fun s39 wx => s39 = .bool cc ∧ wi = wx)
    case first =>
      by_cases h0 : 0 < nn
      · have hcc2 : Hid (s.isSome = cc) := by show _ = _; rw [← hcc.out, decide_eq_true h0, Bool.true_and]
        have t1 : decide ((i : Int) < (n0 : Int)) = true := decide_eq_true (by have := hin.out; omega)
        have t1n : decide (i < n0) = true := decide_eq_true (by have := hin.out; omega)
        clear h0
        go_wp2
        go_meet
        exact ⟨by rw [hcc2.out], rfl⟩
      · have hcc2 : Hid (cc = false) := by show _ = _; rw [← hcc.out, decide_eq_false h0, Bool.false_and]
        have t1 : decide ((i : Int) < (n0 : Int)) = false := decide_eq_false (by have := hin.out; omega)
        have t1n : decide (i < n0) = false := decide_eq_false (by have := hin.out; omega)
        clear h0
        go_wp2
        go_meet
        exact ⟨by rw [hcc2.out], rfl⟩
    case rest =>
      obtain ⟨rfl, rfl⟩ := hcut
      cases cc
      · have hend : nn = 0 ∨ s = none := by
          have := hcc.out
          cases s with
          | none => exact .inr rfl
          | some _ => simp at this; exact .inl (by omega)
        have HX : Hid (rimpK b = some (s, L)) := by show _ = _; rw [HIK.out, hEq.out, rkeysF_end hend]
        obtain ⟨ks, hks, hK⟩ := hKV.out
        have hI : L.length ≤ 8000 := by have := hLen.out; omega
        subst hks
        obtain ⟨c0, c1, c2, f0, f1, f2⟩ := mkc3 hSt.out.blk
        clear hcc hend f0 f1 f2
        by_cases hll : lo ≤ la
        case neg =>
          have t1 : decide ((la : Int) < (lo : Int)) = true := decide_eq_true (by omega)
          have t1n : decide (la < lo) = true := decide_eq_true (by omega)
          have hno := Lib.hid (rimp_not HX.out hb (.inl (by rw [HLa.out, HLo.out]; omega)))
          clear hll
          go_wp2
          go_quiet (fail)
          go_wp2
          go_ret2
          exact RImpPost.no hno.out (below_drewN hw _)
        have t1 : decide ((la : Int) < (lo : Int)) = false := decide_eq_false (by omega)
        have t1n : decide (la < lo) = false := decide_eq_false (by omega)
        cases s with
        | none =>
          have hno := Lib.hid (rimp_not HX.out hb (.inr rfl))
          clear hll
          go_wp2
          go_quiet (fail)
          go_wp2
          go_ret2
          exact RImpPost.no hno.out (below_drewN hw _)
        | some bz =>
          replace rf : wi.cell? ⟨w.heap.size, 2, none⟩ = some (.bool false) := rf
          obtain ⟨O, hO⟩ : ∃ O, O = fun k => k = w1.heap.size ∨ v.ownBlock = some k := ⟨_, rfl⟩
          have hRf : RefIn wi w1.heap.size w1.heap.size v O (items ks) la lo := by rw [hO]; exact hSt.out.ref
          have hok := hK.st hll
          have hgd : StGood ⟨ks, la, lo⟩ := by
            have := KVok.good (b := b) (ks := ks) (by rw [HLa.out, HLo.out]; exact hK)
            rw [HLa.out, HLo.out] at this
            exact this
          have hml : (expS ⟨ks, la, lo⟩).length ≤ 700000 := by
            have := expTo_len hok ks.length
            rw [show expTo ⟨ks, la, lo⟩ ks.length = expS ⟨ks, la, lo⟩ from expTo_all _] at this
            simp only at this
            omega
          obtain ⟨m, hm⟩ : ∃ m, Hid (expS ⟨ks, la, lo⟩ = m) := ⟨_, rfl⟩
          have HEx : Hid (Calls Tryd.prog 36 #[.pointer (some ⟨w1.heap.size, 0, none⟩)] wi.drew (OwnBys wi.drew m)) := by
            rw [← hm.out]
            exact refExp_any (s := ⟨ks, la, lo⟩) ⟨v, hRf.later (below_drew (Below.refl _ _))⟩ hok hgd hI
          have hA9 := BysAt.later hA hw
          obtain ⟨ce, hce⟩ : ∃ ce, Hid (decide (m = b) = ce) := ⟨_, rfl⟩
          have HEq : Hid (∀ wz Az cz, BysAt wz Az m → Below wi.heap.size wi wz → Calls Tryd.prog 35 #[.slice Az m.length cz, .slice A b.length ca] wz fun e w' => e = .returned (.bool ce) ∧ Below wz.heap.size wz w') := fun wz Az cz hAz hz => by
            rw [← hce.out]
            exact refSame02_any m b Az A cz ca wz hAz (BysAt.later hA9 hz) (by rw [← hm.out]; omega)
          have HRf := Lib.hid hRf
          have HYes : Hid (ce = true → impS b = some ⟨ks, la, lo⟩) := fun h => by
            have h1 := of_decide_eq_true (hce.out.trans h)
            rw [← hm.out] at h1
            exact impS_of hok hgd h1 hI
          have HNo : Hid (ce = false → impS b = none) := fun h => by
            have h1 := of_decide_eq_false (hce.out.trans h)
            rw [← hm.out] at h1
            cases e9 : impS b with
            | none => rfl
            | some S =>
              exfalso
              obtain ⟨g1, g2, g3, g4, g5⟩ := rimp_some e9 hb
              have g6 := HX.out
              rw [g1] at g6
              injection g6 with g6
              injection g6 with _ g6
              refine h1 ?_
              have g7 : (⟨ks, la, lo⟩ : StD) = S := by
                obtain ⟨sk, sl, sw⟩ := S
                have h7 : la = sl := by rw [← HLa.out]; exact g2
                have h8 : lo = sw := by rw [← HLo.out]; exact g3
                subst h7 h8
                have := items_inj (impS_ok e9).1.rises hok.rises (impS_ok e9).1.ne hok.ne g6
                exact congrArg (fun x => (⟨x, la, lo⟩ : StD)) this.symm
              rw [g7]
              exact g5
          clear hml hI hok hgd hK hm hce hll hO hRf
          go_wp2
          go_region_held3 (fun w' => w'.cell? ⟨w1.heap.size, 1, none⟩ = some (.int .u64 (la : Int)) ∧ w'.cell? ⟨w1.heap.size, 2, none⟩ = some (.int .u64 (lo : Int)) ∧ w'.cell? ⟨w.heap.size, 2, none⟩ = some (.bool false) ∧ Below wi.heap.size wi w')
            (first | exact ⟨keep (below_drew (Below.refl _ _)) c1, keep (below_drew (Below.refl _ _)) c2, keep (below_drew (Below.refl _ _)) rf, below_drew (Below.refl _ _)⟩ | exact ⟨keep hb12 c1, keep hb12 c2, keep hb12 rf, hb12⟩ | exact ⟨keep hb11 c1, keep hb11 c2, keep hb11 rf, hb11⟩)
            (first
              | (go_at_call 36; (with_reducible refine HEx.out.mono ?_); rintro e w11 hq; obtain ⟨A1, c1', rfl, hB1, hb'⟩ := hq.at_; have hb11 : Below wi.heap.size wi w11 := keepB (below_drew (Below.refl _ _)) hb')
              | (go_at_call 35; refine (HEq.out _ A1 c1' hB1 hb11).mono ?_; rintro e w12 ⟨rfl, hb''⟩; have hb12 : Below wi.heap.size wi w12 := keepB hb11 hb''))
          all_goals
            cases ce
            · go_wp2
              go_ret2
              exact RImpPost.no (HNo.out (by trivial)) (keepB hw hb12)
            · go_wp2
              go_ret2
              refine RImpPost.yes' (HYes.out (by trivial)) ⟨v, HRf.out.later hb12⟩ (Nat.le_of_lt hrq) (keepB hw hb12)
      · have hcs : 0 < nn ∧ s.isSome = true := by
          have := hcc.out
          simpa using this
        obtain ⟨nn', hnn⟩ : ∃ n', Hid (nn = n' + 1) := ⟨nn - 1, by show _ = _; omega⟩
        obtain ⟨bb, rfl⟩ : ∃ bb, s = some bb := by
          cases s with
          | none => exact absurd hcs.2 (by simp)
          | some bb => exact ⟨bb, rfl⟩
        have hk12 := takeT_size (some bb) 12
        have hlf1 := takeT_left (some bb) 12
        obtain ⟨k, hk⟩ : ∃ k, Hid ((takeT (some bb) 12).1 = k) := ⟨_, rfl⟩
        obtain ⟨s4, hs4⟩ : ∃ s4, Hid ((takeT (some bb) 12).2 = s4) := ⟨_, rfl⟩
        have hm0l := takeN_lt s4 4
        have hlf2 := takeN_left s4 4
        obtain ⟨m0, hm0⟩ : ∃ m0, Hid ((takeN s4 4).1 = m0) := ⟨_, rfl⟩
        obtain ⟨s5, hs5⟩ : ∃ s5, Hid ((takeN s4 4).2 = s5) := ⟨_, rfl⟩
        rw [hk.out] at hk12
        rw [hm0.out] at hm0l
        rw [hs4.out] at hlf1
        rw [hs5.out] at hlf2
        have hlf : Hid (left s5 ≤ left (some bb)) := by show _ ≤ _; omega
        have HKS : Hid (∀ r, rversF la lo k m0 s5 L = r → rkeysF la lo nn (some bb) L = match r with | none => none | some r => rkeysF la lo nn' r.1 r.2) := fun r hr => by
          rw [hnn.out, rkeysF, hk.out, hs4.out, hm0.out, hs5.out, hr]
          cases r <;> rfl
        have HCT : Hid (Calls Tryd.prog 67 #[.pointer (some ⟨w.heap.size, 0, none⟩), .int .i64 12] wi (RTextPost wi w.heap.size k s4)) := by rw [← hk.out, ← hs4.out]; exact refText_any hR.out 12 12 rfl
        have HC4 : Hid (∀ wz, RRdrAt wz w.heap.size s4 → Calls Tryd.prog 66 #[.pointer (some ⟨w.heap.size, 0, none⟩), .int .i64 4] wz (RTakePost wz w.heap.size m0 s5)) := fun wz h => by rw [← hm0.out, ← hs5.out]; exact refTake_any h 4 4 rfl (by decide)
        have hwm0 : IntKind.i64.wrap (m0 : Int) = m0 := IntWalk.i64_in _ (by omega)
        have hkm : k.size ≤ maxLen := by unfold maxLen; omega
        have hlt9 : i < n0 := by have := hin.out; have := hnn.out; omega
        have hltz : (i : Int) < (n0 : Int) := by omega
        clear hcs hcc hk hs4 hm0 hs5 hlf1 hlf2 rf hk12
        go_wp2_with (first
          | (go_at_call 67; (with_reducible refine HCT.out.mono ?_); rintro e w8 ⟨rfl, hR8, ho8⟩)
          | (go_at_call 66; (with_reducible refine (HC4.out _ hR8).mono ?_); rintro e w9 ⟨rfl, hR9, ho9⟩; have ho89 := ho8.trans' ho9; have hSt9 := hSt.out.out ho89 (fun k hk e => by omega); have hw9 := hw.trans (ho89.below hw.size (fun k e => by omega))))
        clear HCT HC4 hR8 ho8 ho9 ho89
        have hlen0 : Hid (L.length * 9 + left s5 ≤ 71009) := by have h1 := hLen.out; have h2 := hlf.out; show _ ≤ _; omega
        go_loopw [10] (fun jv wr => ∃ (j mm : Nat) (sv : RS) (v2 : Value) (L2 : List It), jv = .int .i64 j ∧ Hid (j + mm = m0) ∧ Hid (rversF la lo k m0 s5 L = rversF la lo k mm sv L2) ∧ Hid (RRdrAt wr w.heap.size sv) ∧ Hid (RefSt wr w1.heap.size v2 L2 la lo) ∧ Hid (KVg la lo L2) ∧ Hid (L2.length * 9 + left sv ≤ 71009) ∧ Below w.heap.size w wr) (fun jv _ => m0 - (intOf jv).toNat)
        case atStart => exact ⟨0, m0, s5, _, L, rfl, Nat.zero_add _, rfl, hR9, hSt9, hKV, hlen0, hw9⟩
        case round =>
          obtain ⟨j, mm, sv, v2, L2, rfl, hjm, hVE, hRv, hSv, hKV2, hLen2, hwv⟩ := hrel
          obtain ⟨wc, rfl⟩ : ∃ wc : World, wc = wr := ⟨_, rfl⟩
          obtain ⟨cc2, hcc2⟩ : ∃ cc, Hid ((decide (0 < mm) && sv.isSome) = cc) := ⟨_, rfl⟩
          have rf := hRv.out.c2
          clear hSt9 hR9
          go_upto_region 12 with fail
          go_cut [56] (fun s56 wx => s56 = .bool cc2 ∧ wc = wx)
          case first =>
            by_cases h0 : 0 < mm
            · have hcc3 : Hid (sv.isSome = cc2) := by show _ = _; rw [← hcc2.out, decide_eq_true h0, Bool.true_and]
              have t1 : decide ((j : Int) < (m0 : Int)) = true := decide_eq_true (by have := hjm.out; omega)
              have t1n : decide (j < m0) = true := decide_eq_true (by have := hjm.out; omega)
              clear h0
              go_wp2
              go_meet
              exact ⟨by rw [hcc3.out], rfl⟩
            · have hcc3 : Hid (cc2 = false) := by show _ = _; rw [← hcc2.out, decide_eq_false h0, Bool.false_and]
              have t1 : decide ((j : Int) < (m0 : Int)) = false := decide_eq_false (by have := hjm.out; omega)
              have t1n : decide (j < m0) = false := decide_eq_false (by have := hjm.out; omega)
              clear h0
              go_wp2
              go_meet
              exact ⟨by rw [hcc3.out], rfl⟩
          case rest =>
            obtain ⟨rfl, rfl⟩ := hcut
            cases cc2
            · have hend : mm = 0 ∨ sv = none := by
                have := hcc2.out
                cases sv with
                | none => exact .inr rfl
                | some _ => simp at this; exact .inl (by omega)
              have HV : Hid (rkeysF la lo n0 s3 [] = rkeysF la lo nn' sv L2) := by
                show _ = _
                rw [hEq.out, HKS.out _ (hVE.out.trans (rversF_end hend))]
              have hin2 : Hid (i + 1 + nn' = n0) := by show _ = _; have := hin.out; have := hnn.out; omega
              clear hcc2 hend
              go_wp2
              go_roundw
              case rel => exact ⟨i + 1, nn', sv, v2, L2, by go_num, hin2, HV, hRv, hSv, hKV2, hLen2, hwv⟩
              case measure => simp [intOf]; omega
            · have hcs : 0 < mm ∧ sv.isSome = true := by
                have := hcc2.out
                simpa using this
              obtain ⟨mm', hmm⟩ : ∃ n', Hid (mm = n' + 1) := ⟨mm - 1, by show _ = _; omega⟩
              obtain ⟨bv, rfl⟩ : ∃ bv, sv = some bv := by
                cases sv with
                | none => exact absurd hcs.2 (by simp)
                | some bv => exact ⟨bv, rfl⟩
              have hf1 := takeN_left (some bv) 8
              obtain ⟨x, hx⟩ : ∃ x, Hid ((takeN (some bv) 8).1 = x) := ⟨_, rfl⟩
              obtain ⟨t1, ht1⟩ : ∃ t1, Hid ((takeN (some bv) 8).2 = t1) := ⟨_, rfl⟩
              have hf2 := takeV_left t1
              have hvf := takeV_formed t1
              have hvs := (takeV_small t1).1
              obtain ⟨v, hv⟩ : ∃ v, Hid ((takeV t1).1 = v) := ⟨_, rfl⟩
              obtain ⟨t2, ht2⟩ : ∃ t2, Hid ((takeV t1).2 = t2) := ⟨_, rfl⟩
              rw [ht1.out] at hf1
              rw [ht2.out] at hf2
              rw [hv.out] at hvf hvs
              have hLen3 : Hid ((L2 ++ [(⟨k, v, x⟩ : It)]).length * 9 + left t2 ≤ 71009) := by
                show _ ≤ _
                have h1 := hLen2.out
                rw [left_some] at h1 hf1
                rw [List.length_append, List.length_singleton]
                omega
              have HT8 : Hid (Calls Tryd.prog 66 #[.pointer (some ⟨w.heap.size, 0, none⟩), .int .i64 8] wc (RTakePost wc w.heap.size x t1)) := by rw [← hx.out, ← ht1.out]; exact refTake_any hRv.out 8 8 rfl (by decide)
              have HTV : Hid (∀ wz, RRdrAt wz w.heap.size t1 → Calls Tryd.prog 68 #[.pointer (some ⟨w.heap.size, 0, none⟩)] wz fun e w' => e = .returned (.agg #[.int .i64 v.kind, .int .u64 (v.bits : Int), .string v.text]) ∧ RRdrAt w' w.heap.size t2 ∧ Out (fun j => j = w.heap.size) wz w') := fun wz h => by
                have := refVal_any h
                rw [hv.out, ht2.out] at this
                exact this
              obtain ⟨z, bt, tx⟩ := v
              dsimp only at HTV
              have hI2 : L2.length ≤ 8000 := by have := hLen2.out; omega
              have hjlt : j < m0 := by have := hjm.out; omega
              have hjltz : (j : Int) < (m0 : Int) := by omega
              have hnext : Hid (j + 1 + mm' = m0) := by show _ = _; have := hjm.out; have := hmm.out; omega
              obtain ⟨cb, hcb⟩ : ∃ cb, Hid (canB la lo L2 ⟨k, ⟨z, bt, tx⟩, x⟩ = cb) := ⟨_, rfl⟩
              have HCan : Hid (∀ wz, RefSt wz w1.heap.size v2 L2 la lo → Calls Tryd.prog 69 #[.pointer (some ⟨w1.heap.size, 0, none⟩), .agg #[.string k, .int .i64 z, .int .u64 (bt : Int), .string tx, .int .u64 (x : Int)]] wz fun e w' => e = .returned (.bool cb) ∧ Below wz.heap.size wz w') := fun wz h => by
                rw [← hcb.out]
                exact can14_any ⟨v2, h.ref⟩ ⟨k, ⟨z, bt, tx⟩, x⟩ (by omega) hkm
              have HNo : Hid (cb = false → impS b = none) := fun h => by
                refine rimp_bad ?_ hb
                rw [HIK.out, hEq.out, HKS.out none (hVE.out.trans (by rw [hmm.out]; exact rvers_no hx.out ht1.out hv.out (hcb.out.trans h)))]
              have HYes : Hid (cb = true → rversF la lo k m0 s5 L = rversF la lo k mm' t2 (L2 ++ [(⟨k, ⟨z, bt, tx⟩, x⟩ : It)])) := fun h => by
                rw [hVE.out, hmm.out]
                exact rvers_yes hx.out ht1.out hv.out ht2.out (hcb.out.trans h)
              have HKV3 : Hid (cb = true → KVg la lo (L2 ++ [(⟨k, ⟨z, bt, tx⟩, x⟩ : It)])) := fun h => can_step hKV2.out (hcb.out.trans h) hvf hvs
              obtain ⟨i0, hi, hz0, hz1, hz2⟩ := info_parts info_it
              have hrs := hRv.out.lt
              clear hcs hcc2 hx ht1 hv ht2 hvf hvs hf1 hf2 hcb rf
              cases cb
              · go_wp2_with (first
                  | (go_at_call 66; (with_reducible refine HT8.out.mono ?_); rintro e w10 ⟨rfl, hR10, ho10⟩; have hS10 := hSv.out.out ho10 (fun j hj e => by omega); obtain ⟨w11, ew11, hb11, hsz11, hrow11⟩ := new5 w10 (.string k) (.int .i64 0) (.int .u64 0) (.string ⟨#[]⟩) (.int .u64 (x : Int)) 102; have hR11 := hR10.later hb11; have hS11 := hS10.later hb11; have hw11 := keepB (hwv.trans (ho10.below hwv.size (fun j e => by omega))) hb11; have hqlt := hS10.lt)
                  | (go_at_call 68; refine (HTV.out _ hR11).mono ?_; rintro e w12 ⟨rfl, hR12, ho12⟩; have hrow12 := ho12.obj hrow11 (by omega); have hS12 := hS11.out ho12 (fun j hj e => by omega); have g1 := frozen_of_row w12 w10.heap.size 1 _ _ hrow12; have g2 := frozen_of_row w12 w10.heap.size 2 _ _ hrow12; have g3 := frozen_of_row w12 w10.heap.size 3 _ _ hrow12; obtain ⟨x0, x1, x2, x3, x4⟩ := cells5 hrow12; have hrow13 := mks5 (v1 := .int .i64 z) (v2 := .int .u64 (bt : Int)) (v3 := .string tx) hrow12; have ho13 := outs5 w12 w10.heap.size (.int .i64 z) (.int .u64 (bt : Int)) (.string tx); obtain ⟨w13, ew13⟩ : ∃ w13, ((w12.setCell ⟨w10.heap.size, 1, none⟩ (.int .i64 z)).setCell ⟨w10.heap.size, 2, none⟩ (.int .u64 (bt : Int))).setCell ⟨w10.heap.size, 3, none⟩ (.string tx) = w13 := ⟨_, rfl⟩; rw [ew13] at hrow13 ho13; have hS13 : RefSt w13 w1.heap.size v2 L2 la lo := hS12.outk (by omega) (fun j hj => by have := (hS10.row.lt j hj).2; omega) ho13; have hw13 := (hw11.trans (ho12.below hw11.size (fun j e => by omega))).trans (ho13.below (Nat.le_trans hw11.size ho12.size) (fun j e => by have := hwv.size; have := ho10.size; omega)); obtain ⟨y0, y1, y2, y3, y4⟩ := cells5 hrow13)
                  | (go_at_call 69; refine (HCan.out _ hS13).mono ?_; rintro e w14 ⟨rfl, hb14⟩))
                go_ret2
                exact RImpPost.no (HNo.out (by trivial)) (keepB hw13 hb14)
              · obtain ⟨A4, c4, hform, _, _⟩ := own_its hSv.out.row
                subst hform
                go_wp2_with (first
                  | (go_at_call 66; (with_reducible refine HT8.out.mono ?_); rintro e w10 ⟨rfl, hR10, ho10⟩; have hS10 := hSv.out.out ho10 (fun j hj e => by omega); obtain ⟨w11, ew11, hb11, hsz11, hrow11⟩ := new5 w10 (.string k) (.int .i64 0) (.int .u64 0) (.string ⟨#[]⟩) (.int .u64 (x : Int)) 102; have hR11 := hR10.later hb11; have hS11 := hS10.later hb11; have hw11 := keepB (hwv.trans (ho10.below hwv.size (fun j e => by omega))) hb11; have hqlt := hS10.lt)
                  | (go_at_call 68; refine (HTV.out _ hR11).mono ?_; rintro e w12 ⟨rfl, hR12, ho12⟩; have hrow12 := ho12.obj hrow11 (by omega); have hS12 := hS11.out ho12 (fun j hj e => by omega); have g1 := frozen_of_row w12 w10.heap.size 1 _ _ hrow12; have g2 := frozen_of_row w12 w10.heap.size 2 _ _ hrow12; have g3 := frozen_of_row w12 w10.heap.size 3 _ _ hrow12; obtain ⟨x0, x1, x2, x3, x4⟩ := cells5 hrow12; have hrow13 := mks5 (v1 := .int .i64 z) (v2 := .int .u64 (bt : Int)) (v3 := .string tx) hrow12; have ho13 := outs5 w12 w10.heap.size (.int .i64 z) (.int .u64 (bt : Int)) (.string tx); obtain ⟨w13, ew13⟩ : ∃ w13, ((w12.setCell ⟨w10.heap.size, 1, none⟩ (.int .i64 z)).setCell ⟨w10.heap.size, 2, none⟩ (.int .u64 (bt : Int))).setCell ⟨w10.heap.size, 3, none⟩ (.string tx) = w13 := ⟨_, rfl⟩; rw [ew13] at hrow13 ho13; have hS13 : RefSt w13 w1.heap.size (.slice A4 L2.length c4) L2 la lo := hS12.outk (by omega) (fun j hj => by have := (hS10.row.lt j hj).2; omega) ho13; have hR13 := hR12.out ho13 (fun j hj e => by have := hR10.lt; omega); have hw13 := (hw11.trans (ho12.below hw11.size (fun j e => by omega))).trans (ho13.below (Nat.le_trans hw11.size ho12.size) (fun j e => by have := hwv.size; have := ho10.size; omega)); obtain ⟨y0, y1, y2, y3, y4⟩ := cells5 hrow13)
                  | (go_at_call 69; refine (HCan.out _ hS13).mono ?_; rintro e w14 ⟨rfl, hb14⟩; have hS14 := hS13.later hb14; have hR14 := Lib.hid (hR13.later hb14); have hw14 := keepB hw13 hb14; replace y0 := keep hb14 y0; replace y1 := keep hb14 y1; replace y2 := keep hb14 y2; replace y3 := keep hb14 y3; replace y4 := keep hb14 y4; obtain ⟨c0, _, _, f0, _, _⟩ := mkc3 hS14.blk; have HB14 := Lib.hid hS14.blk; have HO14 := Lib.hid hS14.row; have hq14 := hS14.lt; have hne10 : ∀ j, (Value.slice A4 L2.length c4).ownBlock = some j → j ≠ w10.heap.size := (fun j hj => by { have := (hS10.row.lt j hj).2; omega })))
                clear ew11 hb11 hsz11 hrow11 ew13 hrow13 hrow12 hS10 hS11 hS12 hS13 hR10 hR11 hR12 hR13 ho10 ho12 ho13 x0 x1 x2 x3 x4 g1 g2 g3 hS14 HCan HTV HT8
                have hY14 : Hid (w14.cell? ⟨w10.heap.size, 0, none⟩ = some (.string k) ∧ w14.cell? ⟨w10.heap.size, 1, none⟩ = some (.int .i64 z) ∧ w14.cell? ⟨w10.heap.size, 2, none⟩ = some (.int .u64 (bt : Int)) ∧ w14.cell? ⟨w10.heap.size, 3, none⟩ = some (.string tx) ∧ w14.cell? ⟨w10.heap.size, 4, none⟩ = some (.int .u64 (x : Int))) := ⟨y0, y1, y2, y3, y4⟩
                have hq14z : w1.heap.size + 1 ≤ w14.heap.size := hq14
                have hVY := Lib.hid (HYes.out (by trivial))
                have hKY := Lib.hid (HKV3.out (by trivial))
                clear hY14
                go_region_law (first | (refine ready_append_own_at rfl _ _ 30 rfl (w1.heap.size + 1) 102 i0 _ 5 56 Tryd.underlying30 hi hz0 hz1 hz2 rfl (by decide) (.slice A4 L2.length c4) L2.length (itCs L2) rfl (own_keep HO14.out (below_drew (below1 _ _))) ⟨w14.heap.size, 0, none⟩ 1 1 (itC ⟨k, ⟨z, bt, tx⟩, x⟩) rfl rfl (World.news_of_block (heap_alloc_new w14 _)) (itC_one _) (le_maxLen (by omega)) (by omega) (Nat.le_trans hq14z (below_drew (below1 w14 _)).size) ?_; intro v15 w15 HO15 hg15 _; obtain ⟨A15, c15, rfl⟩ := own_form HO15; have hOg := Out.of_grown hg15 (O := fun j => (Value.slice A4 L2.length c4).ownBlock = some j) (fun _ e => e); have HS15 := rows_kept hOg (below_drew (below1 w14 _)) HB14.out HO14.out hne10 y0 y1 y2 y3 y4; have HB15 := Lib.hid HS15.1; replace HS15 := HS15.2; have c15' := HS15.1; have f15 := frozen_of_row w15 w1.heap.size 0 _ _ HB15.out; have hR15 := Lib.hid ((hR14.out.later (below_drew (below1 w14 _))).out hOg (fun j hj e => by { have := (HO14.out.lt j e).1; omega })); have hw15 := (keepB hw14 (below_drew (below1 w14 _))).trans (hOg.below (keepB hw14 (below_drew (below1 w14 _))).size (fun j e => by { have := (HO14.out.lt j e).1; omega })); replace HO15 := Lib.hid HO15; clear hg15 hOg HS15))
                all_goals
                  have hS16 := Lib.hid (RefSt.push (L' := L2 ++ [(⟨k, ⟨z, bt, tx⟩, x⟩ : It)]) HB15.out HO15.out (by simp) (by rw [itCs_append]; rfl))
                  have hR16 := Lib.hid (hR15.out.out (out_cell w15 w1.heap.size 0 (.slice A15 (L2.length + 1) c15)) (fun j hj e => by omega))
                  have hw16 := hw15.trans ((out_cell w15 w1.heap.size 0 (.slice A15 (L2.length + 1) c15)).below hw15.size (fun j e => by omega))
                  go_wp2
                  go_roundw
                  case rel => exact ⟨j + 1, mm', t2, .slice A15 (L2.length + 1) c15, _, by go_num, hnext, hVY.out, hR16, hS16, hKY, hLen3, hw16⟩
                  case measure => simp [intOf]; omega
end Go.Proofs.YtboiafchmdflpaaDoor
