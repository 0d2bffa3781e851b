/- store.Import. -/
import Derived.Test.YtboiafchmdflpaaGreatDoorFits14
import Derived.Test.YtboiafchmdflpaaGreatDoorGI
import Derived.Test.YtboiafchmdflpaaGreatDoorGE
import Derived.Test.YtboiafchmdflpaaGreatDoorGF
import Derived.Test.YtboiafchmdflpaaGreatDoorG6
import Derived.Deep.DeepCutAuto
import Derived.Deep.RegionHeld3
namespace Go.Proofs.YtboiafchmdflpaaGreatDoor
open Go.RowKit Go.Maps Go.Sort Go.Shelf

/-! ### A row laid into the map -/
theorem KeysAt.put2 {w w3 : World} {B N mb : Nat} {D : DataW Value} {V : ByteArray → Value} {O : Nat → Prop} {m : KV} (h : KeysAt w B N mb D V O m) (hris : RisesK m) {k : ByteArray} {v : Value} {l : List Ver} (hl : l ≠ [])
    (hr : OwnV w B v l) (ho : ∀ g, v.ownBlock = some g → ¬ O g)
    (hown : w3.ownsMap Tryz.prog 9 heldE mb (N + 1) (D.put (lit k) (.held v))) (ht : w.mapTurned w3 mb) :
    KeysAt w3 B (N + 1) mb (D.put (lit k) (.held v)) (fun x => if x = k then v else V x) (fun j => O j ∨ v.ownBlock = some j) (putK m k l) := by
  have ht' := ht.grown
  have him : IsMap D := h.own.isMap
  have hvm : ∀ g, v.ownBlock = some g → g ≠ mb := fun g hg e => ho g hg (e ▸ h.hm)
  refine ⟨hown, fun x => ?_, fun x z hx => ?_, fun x => ?_, fun x hx => ?_, fun x y g hxy hx hy => ?_, fun x g hx => ?_, .inl h.hm⟩
  · rw [getK_putK hris]
    by_cases e : x = k
    · subst e
      rw [if_pos rfl, has_put_same him (lit_key _)]
      cases l with
      | nil => exact absurd rfl hl
      | cons a l => rfl
    · rw [if_neg e, has_put_other (fun he => e (lit_inj he)), h.has]
  · rw [getK_putK hris] at hx
    by_cases e : x = k
    · subst e
      rw [atKey_put_same him (lit_key _)]
      simp
    · rw [if_neg e] at hx
      rw [atKey_put_other (fun he => e (lit_inj he)), h.at_ x z hx]
      simp [e]
  · rw [getK_putK hris]
    by_cases e : x = k
    · subst e
      simp only [↓reduceIte]
      exact hr.kept ht' (by
        cases hv : v.ownBlock with
        | none => exact .inl rfl
        | some g => exact .inr (fun he => hvm g hv (by injection he)))
    · simp only [e, if_false]
      exact (h.row x).kept ht' (by
        cases hv : (V x).ownBlock with
        | none => exact .inl rfl
        | some g => exact .inr (fun he => (h.mine x g hv).2 (by injection he)))
  · rw [getK_putK hris] at hx
    by_cases e : x = k
    · rw [if_pos e] at hx; exact absurd hx hl
    · rw [if_neg e] at hx
      simp only [e, if_false]
      exact h.nil x hx
  · by_cases ex : x = k
    · replace hx : v.ownBlock = some g := by rw [← hx]; simp [ex]
      have ey : y ≠ k := fun e => hxy (by rw [ex, e])
      replace hy : (V y).ownBlock = some g := by rw [← hy]; simp [ey]
      exact ho g hx (h.mine y g hy).1
    · replace hx : (V x).ownBlock = some g := by rw [← hx]; simp [ex]
      by_cases ey : y = k
      · replace hy : v.ownBlock = some g := by rw [← hy]; simp [ey]
        exact ho g hy (h.mine x g hx).1
      · replace hy : (V y).ownBlock = some g := by rw [← hy]; simp [ey]
        exact h.apart x y g hxy hx hy
  · by_cases ex : x = k
    · replace hx : v.ownBlock = some g := by rw [← hx]; simp [ex]
      exact ⟨.inr hx, hvm g hx⟩
    · replace hx : (V x).ownBlock = some g := by rw [← hx]; simp [ex]
      exact ⟨.inl (h.mine x g hx).1, (h.mine x g hx).2⟩
theorem StoreIn.put2 {w w3 : World} {B p N mb : Nat} {D : DataW Value} {V : ByteArray → Value} {O : Nat → Prop} {s : StD} (h : StoreIn w B p N mb D V O s) (hris : RisesK s.ks) {k : ByteArray} {v : Value} {l : List Ver} (hl : l ≠ [])
    (hr : OwnV w B v l) (ho : ∀ g, v.ownBlock = some g → ¬ O g)
    (hown : w3.ownsMap Tryz.prog 9 heldE mb (N + 1) (D.put (lit k) (.held v))) (ht : w.mapTurned w3 mb) :
    StoreAt w3 B p (N + 1) (fun j => O j ∨ v.ownBlock = some j) ⟨putK s.ks k l, s.last, s.low⟩ := by
  have hs3 := ht.grown.size
  have hplt := (h.lt p h.hp).2
  refine ⟨mb, D.put (lit k) (.held v), fun x => if x = k then v else V x, { blk := ?_, keys := h.keys.put2 hris hl hr ho hown ht, hp := .inl h.hp, n1 := h.n1, n2 := fun x g hx => ?_, lt := fun x hx => Or.elim hx (fun hx => ⟨(h.lt x hx).1, by have := (h.lt x hx).2; omega⟩) (fun hx => ⟨(hr.lt x hx).1, by have := (hr.lt x hx).2; omega⟩) }⟩
  · rw [ht.grown.block p hplt (fun e => h.n1 (by injection e))]
    exact h.blk
  · by_cases e : x = k
    · replace hx : v.ownBlock = some g := by rw [← hx]; simp [e]
      intro e2
      exact ho g hx (e2 ▸ h.hp)
    · replace hx : (V x).ownBlock = some g := by rw [← hx]; simp [e]
      exact h.n2 x g hx
set_option maxRecDepth 100000 in
theorem bytesEq_any (l m : List UInt8) (A B : Option Addr) (ca cb : Nat) (w : World) (hA : BysAt w A l) (hB : BysAt w B m) :
    Calls Tryz.prog 43 #[.slice A l.length ca, .slice B m.length cb] w fun e w' => e = .returned (.bool (decide (l = m))) ∧ w = w' := by
  have c1 := run_text hA ca
  have c2 := run_text hB cb
  have HE : Hid (((strL l).toList == (strL m).toList) = decide (l = m)) := by
    show _ = _
    rw [ByteArray.toList_eq, ByteArray.toList_eq, strL_data, strL_data]
    by_cases h : l = m
    · simp [h]
    · simp [h]
  clear hA hB
  go_enter Tryz.func43, Tryz.ntmps43
  go_wp2
  go_ret
  exact ⟨by rw [← HE.out]; rfl, rfl⟩
theorem run_put {w : World} {B N mb : Nat} {D : DataW Value} {V : ByteArray → Value} {O : Nat → Prop} {m : KV} (h : KeysAt w B N mb D V O m) (hN : N ≤ 5000000000) {k : ByteArray} (hk : k.size ≤ maxLen) (v : Value) :
    ∃ w3, (Instr.mapUpdate 47 (.map (some mb)) (.string k) v).run Tryz.prog w = .ok () w3 ∧ w3.ownsMap Tryz.prog 9 heldE mb (N + 1) (D.put (lit k) (.held v)) ∧ w.mapTurned w3 mb :=
  h.own.store keyS Tryz.underlying47 (by unfold maxLen; omega) (keyOf_lit hk) (val := v) (d := .held v) (ps := []) rfl
def impN (b : List UInt8) : Nat := (takeN (takeN (takeN (some b) 8).2 8).2 4).1
def ImpPost (w : World) (b : List UInt8) (e : Ending) (w' : World) : Prop :=
  match impS b with
  | none => e = .returned (.tuple #[.pointer none, .int .i64 2]) ∧ Below w.heap.size w w'
  | some s => ∃ p N O, e = .returned (.tuple #[.pointer (some ⟨p, 0, none⟩), .int .i64 0]) ∧ N ≤ impN b ∧ StoreAt w' w.heap.size p N O s ∧ Below w.heap.size w w'
theorem ImpPost.no {w w' : World} {b : List UInt8} (h : impS b = none) (hb : Below w.heap.size w w') : ImpPost w b (.returned (.tuple #[.pointer none, .int .i64 2])) w' := by
  rw [ImpPost, h]
  exact ⟨rfl, hb⟩
theorem ImpPost.yes {w w' : World} {b : List UInt8} {p N : Nat} {O : Nat → Prop} {s : StD} (h : impS b = some s) (hN : N ≤ impN b) (hs : StoreAt w' w.heap.size p N O s) (hb : Below w.heap.size w w') : ImpPost w b (.returned (.tuple #[.pointer (some ⟨p, 0, none⟩), .int .i64 0])) w' := by
  rw [ImpPost, h]
  exact ⟨p, N, O, rfl, hN, hs, hb⟩
theorem impS_none {b : List UInt8} (h : impK b = none) : impS b = none := by rw [impS, h]
theorem impS_low {b : List UInt8} {r : RS × KV} (h : impK b = some r) (hl : ¬ (impLow b ≤ impLast b ∧ expS ⟨r.2, impLast b, impLow b⟩ = b)) : impS b = none := by
  rw [impS, h]
  exact if_neg hl
theorem impS_yes {b : List UInt8} {r : RS × KV} (h : impK b = some r) (hl : impLow b ≤ impLast b) (he : expS ⟨r.2, impLast b, impLow b⟩ = b) : impS b = some ⟨r.2, impLast b, impLow b⟩ := by
  rw [impS, h]
  exact if_pos ⟨hl, he⟩
theorem keysS_end {la lo nn : Nat} {s : RS} {ks : KV} (h : nn = 0 ∨ s = none) : keysS la lo nn s ks = some (s, ks) := by
  cases nn with
  | zero => rfl
  | succ n =>
    rcases h with h | h
    · cases h
    · subst h; rfl
theorem versS_end {mm : Nat} {s : RS} (h : mm = 0 ∨ s = none) : versS mm s = ([], s) := by
  cases mm with
  | zero => rfl
  | succ n =>
    rcases h with h | h
    · cases h
    · subst h; rfl
theorem StoreIn.turned {w w3 : World} {B p N mb : Nat} {D : DataW Value} {V : ByteArray → Value} {O : Nat → Prop} {s : StD} (h : StoreIn w B p N mb D V O s) (ht : w.mapTurned w3 mb) :
    w3.cell? ⟨p, 1, none⟩ = some (.int .u64 (s.last : Int)) ∧ w3.cell? ⟨p, 2, none⟩ = some (.int .u64 (s.low : Int)) := by
  have hb : w3.heap[p]? = some (.cells #[.map (some mb), .int .u64 (s.last : Int), .int .u64 (s.low : Int)] 49 (0, 0)) := by
    rw [ht.grown.block p (h.lt p h.hp).2 (fun e => h.n1 (by injection e))]
    exact h.blk
  exact ⟨by rw [cell_of_row w3 p 1 _ _ _ hb]; rfl, by rw [cell_of_row w3 p 2 _ _ _ hb]; rfl⟩
theorem StoreAt.turn {w w3 : World} {B p N : Nat} {O : Nat → Prop} {s : StD} {mb : Nat} {D : DataW Value} {V : ByteArray → Value} (h : StoreIn w B p N mb D V O s) (ht : w.mapTurned w3 mb) : Out O w w3 :=
  ⟨ht.grown.os, ht.grown.tape, ht.grown.output, ht.grown.size, fun x hx ho' => ht.grown.block x hx (fun e => ho' (by injection e with e; exact e ▸ h.keys.hm))⟩
theorem Out.up5 {w w2 w3 : World} {p : Nat} {row : Option Nat} (h : OutP p w w2) (hg : w2.grownBy w3 row) (hr : ∀ g, row = some g → w.heap.size ≤ g) : OutP p w w3 :=
  h.trans' ((Out.of_grown hg (O := fun k => row = some k) (fun _ e => e)).mono fun k e => .inr (hr k e))
theorem verCs_snoc (l : List Ver) (v : Ver) : verCs (l ++ [v]) = verCs l ++ verC v := by simp [verCs]
theorem versS_cons {m0 m : Nat} {s5 : RS} {bv : List UInt8} {pre : List Ver} {x : Nat} {v : Val} {s1 s2 : RS} (h : versS m0 s5 = (pre ++ (versS (m + 1) (some bv)).1, (versS (m + 1) (some bv)).2)) (h1 : (takeN (some bv) 8).1 = x) (h2 : (takeN (some bv) 8).2 = s1) (h3 : (takeV s1).1 = v) (h4 : (takeV s1).2 = s2) :
    versS m0 s5 = (pre ++ [⟨x, v⟩] ++ (versS m s2).1, (versS m s2).2) := by
  rw [h, versS, h1, h2, h3, h4, List.append_assoc]
  rfl
theorem vers_same {w : World} {B : Nat} {A : Option Addr} {c : Nat} {l : List Ver} (h : w.ownsRow B 72 4 (.slice A l.length c) l.length (verCs l)) : VersAt w A l := by
  obtain ⟨A', c', e, _, hv⟩ := own_vers h
  injection e with e _
  subst e
  exact hv
set_option maxRecDepth 100000 in
set_option maxHeartbeats 16000000 in
theorem imp14_any (b : List UInt8) (A : Option Addr) (ca : Nat) (w : World) (hA : BysAt w A b) (hle : b.length ≤ ca) (hb : b.length ≤ 71000) (hT : Tabs w) :
    Calls Tryz.prog 15 #[.slice A b.length ca] w (ImpPost w b) := by
  have hTP := Lib.hid (hT.at_ (Nat.le_refl w.heap.size))
  have hlaw := impLast_lt b
  have hlow := impLow_lt b
  obtain ⟨la, hla⟩ : ∃ la, Hid ((takeN (some b) 8).1 = la) := ⟨_, rfl⟩
  obtain ⟨s1, hs1⟩ : ∃ s1, Hid ((takeN (some b) 8).2 = s1) := ⟨_, rfl⟩
  obtain ⟨lo, hlo⟩ : ∃ lo, Hid ((takeN s1 8).1 = lo) := ⟨_, rfl⟩
  obtain ⟨s2, hs2⟩ : ∃ s2, Hid ((takeN s1 8).2 = s2) := ⟨_, rfl⟩
  have hn0l := takeN_lt s2 4
  obtain ⟨n0, hn0⟩ : ∃ n0, Hid ((takeN s2 4).1 = n0) := ⟨_, rfl⟩
  obtain ⟨s3, hs3⟩ : ∃ s3, Hid ((takeN s2 4).2 = s3) := ⟨_, rfl⟩
  rw [hn0.out] at hn0l
  have HLa : Hid (impLast b = la) := hla.out
  have HLo : Hid (impLow b = lo) := by show _ = _; rw [impLow, hs1.out, hlo.out]
  have HN0 : Hid (impN b = n0) := by show _ = _; rw [impN, hs1.out, hs2.out, hn0.out]
  have HIK : Hid (impK b = keysS la lo n0 s3 []) := by show _ = _; rw [impK, hs1.out, hs2.out, hn0.out, hs3.out, hlo.out, hla.out]
  rw [HLa.out] at hlaw
  rw [HLo.out] at hlow
  have HC1 : Hid (∀ wz, RdrAt wz w.heap.size (some b) → Calls Tryz.prog 37 #[.pointer (some ⟨w.heap.size, 0, none⟩), .int .i64 8] wz (TakePost wz w.heap.size la s1)) := fun wz h => by rw [← hla.out, ← hs1.out]; exact rdrTake_any h 8 8 rfl (by decide)
  have HC2 : Hid (∀ wz, RdrAt wz w.heap.size s1 → Calls Tryz.prog 37 #[.pointer (some ⟨w.heap.size, 0, none⟩), .int .i64 8] wz (TakePost wz w.heap.size lo s2)) := fun wz h => by rw [← hlo.out, ← hs2.out]; exact rdrTake_any h 8 8 rfl (by decide)
  have HC3 : Hid (∀ wz, RdrAt wz w.heap.size s2 → Calls Tryz.prog 37 #[.pointer (some ⟨w.heap.size, 0, none⟩), .int .i64 4] wz (TakePost wz w.heap.size n0 s3)) := fun wz h => by rw [← hn0.out, ← hs3.out]; exact rdrTake_any h 4 4 rfl (by decide)
  have hwn0 : IntKind.i64.wrap (n0 : Int) = n0 := IntWalk.i64_in _ (by omega)
  clear hla hs1 hlo hs2 hn0 hs3 hT
  go_enter Tryz.func15, Tryz.ntmps15
  go_wp2_with (first
    | (go_at_call 36; refine (rdrNew_any b A ca w hA hle (by omega)).mono ?_; rintro e w1 ⟨rfl, hR1, hb1⟩; have hlt1 := hR1.lt)
    | (go_at_call 7; refine (new14_any _).mono ?_; rintro e w2 ⟨p, rfl, hSt2, hb2⟩; have hR2 := hR1.later hb2; have hol : ∀ k, ext noB w1 w2 k → ¬ (k = w.heap.size) := fun k hk e => by { have := (hSt2.lt k hk).1; omega })
    | (go_at_call 37; (with_reducible refine (HC1.out _ hR2).mono ?_); rintro e w3 ⟨rfl, hR3, ho3⟩; have hSt3 := hSt2.out ho3 hol)
    | (go_at_call 37; (with_reducible refine (HC2.out _ hR3).mono ?_); rintro e w4 ⟨rfl, hR4, ho4⟩; have hSt4 := hSt3.out ho4 hol; obtain ⟨mb, D, V, h4⟩ := hSt4; have c1 := h4.c1; have c2 := h4.c2; have f1 := h4.fz 1; have f2 := h4.fz 2; have hpB : w.heap.size < p := (by have := (h4.lt p h4.hp).1; omega); obtain ⟨w5, ew5⟩ : ∃ w5, (w4.setCell ⟨p, 1, none⟩ (.int .u64 (la : Int))).setCell ⟨p, 2, none⟩ (.int .u64 (lo : Int)) = w5 := ⟨_, rfl⟩; have hSt5 : StoreAt w5 w1.heap.size p 0 (ext noB w1 w2) ⟨[], la, lo⟩ := (by rw [← ew5]; exact ⟨mb, D, V, (h4.setLast la).setLow lo⟩); have ho5 : Out (fun k => k = p) w4 w5 := (by rw [← ew5]; exact (out_cell w4 p 1 _).trans' (out_cell _ p 2 _)); have hR5 := hR4.out ho5 (fun k hk e => by omega); clear h4)
    | (go_at_call 37; (with_reducible refine (HC3.out _ hR5).mono ?_); rintro e w6 ⟨rfl, hR6, ho6⟩; have hSt6 := hSt5.out ho6 hol))
  have hb6 : Below w.heap.size w w6 := (((keepB hb1 hb2).trans (ho3.below (keepB hb1 hb2).size (fun k e => by omega))).trans (ho4.below (Nat.le_trans (keepB hb1 hb2).size ho3.size) (fun k e => by omega))).trans ((ho5.below (Nat.le_trans (keepB hb1 hb2).size (Nat.le_trans ho3.size ho4.size)) (fun k e => by omega)).trans (ho6.below (Nat.le_trans (keepB hb1 hb2).size (Nat.le_trans ho3.size (Nat.le_trans ho4.size ho5.size))) (fun k e => by omega)))
  have hB6 : w1.heap.size ≤ w6.heap.size := Nat.le_trans hb2.size (Nat.le_trans ho3.size (Nat.le_trans ho4.size (Nat.le_trans ho5.size ho6.size)))
  clear HC1 HC2 HC3 hR1 hR2 hR3 hR4 hR5 hb2 ho3 ho4 ho5 ho6 ew5 hSt2 hSt3 hSt5 c1 c2 f1 f2 hol
  go_loopw [6] (fun nv wr => ∃ (nn N : Nat) (s : RS) (ks : KV) (O : Nat → Prop), nv = .int .i64 nn ∧ Hid (N + nn = n0) ∧ Hid (keysS la lo n0 s3 [] = keysS la lo nn s ks) ∧ Hid (RdrAt wr w.heap.size s) ∧ Hid (StoreAt wr w1.heap.size p N O ⟨ks, la, lo⟩) ∧ Hid (KVok la lo ks) ∧ Below w.heap.size w wr ∧ w1.heap.size ≤ wr.heap.size) (fun nv _ => (intOf nv).toNat)
  case atStart => exact ⟨n0, 0, s3, [], _, rfl, Nat.zero_add _, rfl, hR6, hSt6, KVok.nil _ _, hb6, hB6⟩
  case round =>
    obtain ⟨nn, N, s, ks, O, rfl, hNn, hEq, hR, hSt, hKV, hw, hBw⟩ := hrel
    obtain ⟨wi, rfl⟩ : ∃ wi : World, wi = wr := ⟨_, rfl⟩
    obtain ⟨cc, hcc⟩ : ∃ cc, Hid ((decide (0 < nn) && s.isSome) = cc) := ⟨_, rfl⟩
    clear hSt6 hR6
    go_upto_region 5 with fail
    go_cut [31] (fun s31 wx => s31 = .bool cc ∧ wi = wx)
    case first =>
      by_cases h0 : 0 < nn
      · have hcc2 : Hid (s.isSome = cc) := by show _ = _; rw [← hcc.out, decide_eq_true h0, Bool.true_and]
        have t1 : decide ((0 : Int) < (nn : Int)) = true := decide_eq_true (by omega)
        have t1n : decide (0 < nn) = true := decide_eq_true h0
        clear h0
        go_wp2_with (go_at_call 38; refine (rdrOK_any hR.out).mono ?_; rintro e w7 ⟨rfl, rfl⟩)
        go_meet
        exact ⟨by rw [hcc2.out], rfl⟩
      · have hcc2 : Hid (cc = false) := by show _ = _; rw [← hcc.out, decide_eq_false h0, Bool.false_and]
        have t1 : decide ((0 : Int) < (nn : Int)) = false := decide_eq_false (by omega)
        have t1n : decide (0 < nn) = false := decide_eq_false h0
        clear h0
        go_wp2
        go_meet
        exact ⟨by rw [hcc2.out], rfl⟩
    case rest =>
      obtain ⟨rfl, rfl⟩ := hcut
      cases cc
      · have hend : nn = 0 ∨ s = none := by
          have := hcc.out
          cases s with
          | none => exact .inr rfl
          | some _ => simp at this; exact .inl (by omega)
        have HX : Hid (impK b = some (s, ks)) := by show _ = _; rw [HIK.out, hEq.out, keysS_end hend]
        have hNle : Hid (N ≤ impN b) := by show _ ≤ _; rw [HN0.out]; have := hNn.out; omega
        clear hcc hend
        obtain ⟨mb, D, V, hSI⟩ := hSt.out
        have c1 := hSI.c1
        have c2 := hSI.c2
        clear hSI
        by_cases hll : lo ≤ la
        · have t1 : decide ((la : Int) < (lo : Int)) = false := decide_eq_false (by omega)
          have t1n : decide (la < lo) = false := decide_eq_false (by omega)
          have hok := hKV.out.st hll
          have hlen := impK_len HX.out
          have hI : (items ks).length ≤ 8000 := by simp only at hlen; omega
          have hml : (expS ⟨ks, la, lo⟩).length ≤ 700000 := by
            have := expTo_len hok ks.length
            rw [show expTo ⟨ks, la, lo⟩ ks.length = expS ⟨ks, la, lo⟩ from expTo_all _] at this
            simp only at this
            omega
          obtain ⟨m, hm⟩ : ∃ m, Hid (expS ⟨ks, la, lo⟩ = m) := ⟨_, rfl⟩
          have HEx : Hid (Calls Tryz.prog 13 #[.pointer (some ⟨p, 0, none⟩)] wi.drew (OwnBys wi.drew m)) := by
            rw [← hm.out]
            exact exp14_any (hSt.out.later (below_drew (Below.refl _ _))) hok hI (hTP.out.tabs.later (hw.trans ((below_drew (Below.refl _ _)).mono hw.size)))
          have hA9 := BysAt.later hA hw
          obtain ⟨ce, hce⟩ : ∃ ce, Hid (decide (m = b) = ce) := ⟨_, rfl⟩
          have HEq : Hid (∀ wz Az cz, BysAt wz Az m → Below wi.heap.size wi wz → Calls Tryz.prog 43 #[.slice Az m.length cz, .slice A b.length ca] wz fun e w' => e = .returned (.bool ce) ∧ wz = w') := fun wz Az cz hAz hz => by
            rw [← hce.out]
            exact bytesEq_any m b Az A cz ca wz hAz (BysAt.later hA9 hz)
          clear hml hI hok hlen
          have HLL := Lib.hid hll
          clear hll
          go_wp2
          go_region_held3 (fun w' => w'.cell? ⟨p, 1, none⟩ = some (.int .u64 (la : Int)) ∧ w'.cell? ⟨p, 2, none⟩ = some (.int .u64 (lo : Int)) ∧ Below wi.heap.size wi w')
            (first | exact ⟨keep (below_drew (Below.refl _ _)) c1, keep (below_drew (Below.refl _ _)) c2, below_drew (Below.refl _ _)⟩ | exact ⟨keep hb2 c1, keep hb2 c2, hb2⟩)
            (first
              | (go_at_call 13; (with_reducible refine HEx.out.mono ?_); rintro e w11 hq; obtain ⟨A1, c1', rfl, hB1, hb⟩ := hq.at_; have hb2 : Below wi.heap.size wi w11 := keepB (below_drew (Below.refl _ _)) hb)
              | (go_at_call 43; refine (HEq.out _ A1 c1' hB1 hb2).mono ?_; rintro e w12 ⟨rfl, rfl⟩))
          all_goals
            cases ce
            · go_wp2
              go_ret2
              exact ImpPost.no (impS_low HX.out (fun h => of_decide_eq_false hce.out (by rw [← hm.out, ← HLa.out, ← HLo.out]; exact h.2))) (keepB hw hb2)
            · go_wp2
              go_ret2
              have hy := impS_yes HX.out (by rw [HLa.out, HLo.out]; exact HLL.out) (by rw [HLa.out, HLo.out]; exact hm.out.trans (of_decide_eq_true hce.out))
              rw [HLa.out, HLo.out] at hy
              exact ImpPost.yes hy hNle.out ((hSt.out.later hb2).base hb1.size) (keepB hw hb2)
        · have t1 : decide ((la : Int) < (lo : Int)) = true := decide_eq_true (by omega)
          have t1n : decide (la < lo) = true := decide_eq_true (by omega)
          have hno := Lib.hid (impS_low HX.out (fun h => hll (by rw [← HLa.out, ← HLo.out]; exact h.1)))
          clear hll
          go_wp2
          go_quiet (fail)
          go_wp2
          go_ret2
          exact ImpPost.no hno.out (below_drewN hw _)
      · have hcs : 0 < nn ∧ s.isSome = true := by
          have := hcc.out
          simpa using this
        obtain ⟨nn', hnn⟩ : ∃ n', Hid (nn = n' + 1) := ⟨nn - 1, by show _ = _; omega⟩
        obtain ⟨bb, rfl⟩ : ∃ bb, s = some bb := by
          cases s with
          | none => exact absurd hcs.2 (by simp)
          | some bb => exact ⟨bb, rfl⟩
        have hwnn : IntKind.i64.wrap ((nn : Int) - 1) = (nn' : Int) := by have h9 := hnn.out; rw [show ((nn : Int) - 1) = (nn' : Int) by omega]; exact IntWalk.i64_in _ (by have := hNn.out; omega)
        have hk12 := takeT_size (some bb) 12
        obtain ⟨k, hk⟩ : ∃ k, Hid ((takeT (some bb) 12).1 = k) := ⟨_, rfl⟩
        obtain ⟨s4, hs4⟩ : ∃ s4, Hid ((takeT (some bb) 12).2 = s4) := ⟨_, rfl⟩
        have hm0l := takeN_lt s4 4
        obtain ⟨m0, hm0⟩ : ∃ m0, Hid ((takeN s4 4).1 = m0) := ⟨_, rfl⟩
        obtain ⟨s5, hs5⟩ : ∃ s5, Hid ((takeN s4 4).2 = s5) := ⟨_, rfl⟩
        rw [hk.out] at hk12
        rw [hm0.out] at hm0l
        have HKS : Hid (keysS la lo nn (some bb) ks = if keyB k && fitsB la lo (versS m0 s5).1 then keysS la lo nn' (versS m0 s5).2 (putK ks k (versS m0 s5).1) else none) := by
          show _ = _
          rw [hnn.out, keysS, hk.out, hs4.out, hm0.out, hs5.out]
        have HCT : Hid (Calls Tryz.prog 39 #[.pointer (some ⟨w.heap.size, 0, none⟩), .int .i64 12] wi (TextPost wi w.heap.size k s4)) := by rw [← hk.out, ← hs4.out]; exact rdrText_any hR.out 12 12 rfl
        have HC4 : Hid (∀ wz, RdrAt wz w.heap.size s4 → Calls Tryz.prog 37 #[.pointer (some ⟨w.heap.size, 0, none⟩), .int .i64 4] wz (TakePost wz w.heap.size m0 s5)) := fun wz h => by rw [← hm0.out, ← hs5.out]; exact rdrTake_any h 4 4 rfl (by decide)
        have hwm0 : IntKind.i64.wrap (m0 : Int) = m0 := IntWalk.i64_in _ (by omega)
        have hol : ∀ j, O j → ¬ (j = w.heap.size) := fun j hj e => by
          have := (hSt.out.lt j hj).1
          omega
        replace hol := Lib.hid hol
        clear hcs hcc hk hs4 hm0 hs5
        go_wp2_with (first
          | (go_at_call 39; (with_reducible refine HCT.out.mono ?_); rintro e w7 ⟨rfl, hR7, ho7⟩)
          | (go_at_call 37; (with_reducible refine (HC4.out _ hR7).mono ?_); rintro e w8 ⟨rfl, hR8, ho8⟩; have ho78 := ho7.trans' ho8; have hs8 := ho78.size))
        clear HCT HC4 hR7 ho7 ho8
        go_loopw [8, 9] (fun lvv mv wr => ∃ (mm : Nat) (sv : RS) (pre : List Ver), mv = .int .i64 mm ∧ Hid (versS m0 s5 = (pre ++ (versS mm sv).1, (versS mm sv).2)) ∧ Hid (wr.ownsRow w8.heap.size 72 4 lvv pre.length (verCs pre)) ∧ Hid (RdrAt wr w.heap.size sv) ∧ Hid (pre.length + mm ≤ m0) ∧ OutP w.heap.size w8 wr) (fun _ mv _ => (intOf mv).toNat)
        case atStart => exact ⟨m0, s5, [], rfl, rfl, own_nil _ _ _ _, hR8, Nat.le_of_eq (Nat.zero_add _), Out.refl _ _⟩
        case round =>
          obtain ⟨mm, sv, pre, rfl, hVE, HO, hRv, hpm, hOut⟩ := hrel
          obtain ⟨wc, rfl⟩ : ∃ wc : World, wc = wr := ⟨_, rfl⟩
          obtain ⟨cc2, hcc2⟩ : ∃ cc, Hid ((decide (0 < mm) && sv.isSome) = cc) := ⟨_, rfl⟩
          obtain ⟨A4, c4, hform, _, _⟩ := own_vers HO.out
          subst hform
          have hs9 := hOut.size
          go_upto_region 10 with fail
          go_cut [44] (fun s44 wx => s44 = .bool cc2 ∧ wc = wx)
          case first =>
            by_cases h0 : 0 < mm
            · have hcc3 : Hid (sv.isSome = cc2) := by show _ = _; rw [← hcc2.out, decide_eq_true h0, Bool.true_and]
              have t1 : decide ((0 : Int) < (mm : Int)) = true := decide_eq_true (by omega)
              have t1n : decide (0 < mm) = true := decide_eq_true h0
              clear h0
              go_wp2_with (go_at_call 38; refine (rdrOK_any hRv.out).mono ?_; rintro e w9 ⟨rfl, rfl⟩)
              go_meet
              exact ⟨by rw [hcc3.out], rfl⟩
            · have hcc3 : Hid (cc2 = false) := by show _ = _; rw [← hcc2.out, decide_eq_false h0, Bool.false_and]
              have t1 : decide ((0 : Int) < (mm : Int)) = false := decide_eq_false (by omega)
              have t1n : decide (0 < mm) = false := decide_eq_false h0
              clear h0
              go_wp2
              go_meet
              exact ⟨by rw [hcc3.out], rfl⟩
          case rest =>
            obtain ⟨rfl, rfl⟩ := hcut
            cases cc2
            · have hend : mm = 0 ∨ sv = none := by
                have := hcc2.out
                cases sv with
                | none => exact .inr rfl
                | some _ => simp at this; exact .inl (by omega)
              have HV : Hid (versS m0 s5 = (pre, sv)) := by show _ = _; rw [hVE.out, versS_end hend, List.append_nil]
              rw [HV.out] at HKS
              replace HKS : Hid (keysS la lo nn (some bb) ks = if keyB k && fitsB la lo pre then keysS la lo nn' sv (putK ks k pre) else none) := HKS
              clear hcc2 hend hVE
              have hOW : Out (fun j => j = w.heap.size) wi wc := ho78.trans' hOut.down
              obtain ⟨mb, D, V, hSI⟩ := hSt.out.out hOW hol.out
              have c0 := hSI.c0
              have hpl : pre.length ≤ 4294967296 := by have := hpm.out; omega
              obtain ⟨w13, hrun, hown, hturn⟩ := run_put hSI.keys (by have := hNn.out; omega) (k := k) (by unfold maxLen; omega) (.slice A4 pre.length c4)
              obtain ⟨d1, d2⟩ := hSI.turned hturn
              have hOT := StoreAt.turn hSI hturn
              have hR13 := hRv.out.out hOT (fun j hj h => by have := (hSI.lt j h).1; omega)
              have hno : ∀ g, (Value.slice A4 pre.length c4).ownBlock = some g → ¬ O g := fun g hg h => by
                have h1 := (HO.out.lt g hg).1
                have h2 := (hSt.out.lt g h).2
                omega
              have hvers13 := vers_same (hOT.row HO.out hno)
              have hStN := fun hne : pre ≠ [] => hSI.put2 hKV.out.rises hne (own_base HO.out (Nat.le_trans hBw hs8)) hno hown hturn
              have hb13 : Below w.heap.size w w13 := (hw.trans (hOW.below hw.size (fun j e => by omega))).trans (hOT.below (Nat.le_trans hw.size hOW.size) (fun j e => by have := (hSI.lt j e).1; omega))
              have hB13 : w1.heap.size ≤ w13.heap.size := Nat.le_trans hBw (Nat.le_trans hOW.size hOT.size)
              replace hno := Lib.hid hno
              replace hStN := Lib.hid hStN
              replace hown := Lib.hid hown
              replace hturn := Lib.hid hturn
              clear hSI
              cases hkb : keyB k
              · rw [hkb] at HKS
                have hnone := Lib.hid (impS_none (HIK.out.trans (hEq.out.trans HKS.out)))
                have hkb2 := Lib.hid hkb
                clear hkb
                go_wp2_with (go_at_call 41; refine (calls_b14 hkb2.out (key_any k _ (by unfold maxLen; omega))).mono ?_; rintro e w14 ⟨rfl, hb14⟩)
                go_ret2
                exact ImpPost.no hnone.out (keepB hb13 hb14)
              · cases hfb : fitsB la lo pre
                · rw [hkb, hfb] at HKS
                  have hnone := Lib.hid (impS_none (HIK.out.trans (hEq.out.trans HKS.out)))
                  have hkb2 := Lib.hid hkb
                  have hfb2 := Lib.hid hfb
                  clear hkb hfb
                  go_wp2_with (first
                    | (go_at_call 41; refine (calls_b14 hkb2.out (key_any k _ (by unfold maxLen; omega))).mono ?_; rintro e w14 ⟨rfl, hb14⟩)
                    | (go_at_call 42; refine (calls_b14 hfb2.out (fits14_any (keep hb14 d1) (keep hb14 d2) pre A4 c4 (hvers13.later hb14) hpl)).mono ?_; rintro e w15 ⟨rfl, hb15⟩))
                  go_ret2
                  exact ImpPost.no hnone.out (keepB hb13 (keepB hb14 hb15))
                · rw [hkb, hfb] at HKS
                  have hfit := fitsB_iff.1 hfb
                  have hvv := versS_vals m0 s5
                  rw [HV.out] at hvv
                  have hKV2 := Lib.hid (hKV.out.put hkb hfit hvv)
                  have hSt2 := Lib.hid (hStN.out hfit.ne)
                  have hEq2 : Hid (keysS la lo n0 s3 [] = keysS la lo nn' sv (putK ks k pre)) := hEq.out.trans HKS.out
                  have hNn2 : Hid (N + 1 + nn' = n0) := by show _ = _; have := hNn.out; have := hnn.out; omega
                  have hkb2 := Lib.hid hkb
                  have hfb2 := Lib.hid hfb
                  clear hkb hfb hfit hvv
                  go_wp2_with (first
                    | (go_at_call 41; refine (calls_b14 hkb2.out (key_any k _ (by unfold maxLen; omega))).mono ?_; rintro e w14 ⟨rfl, hb14⟩)
                    | (go_at_call 42; refine (calls_b14 hfb2.out (fits14_any (keep hb14 d1) (keep hb14 d2) pre A4 c4 (hvers13.later hb14) hpl)).mono ?_; rintro e w15 ⟨rfl, hb15⟩; have hb145 := keepB hb14 hb15; have hR15 := Lib.hid (hR13.later hb145); have hSt15 := Lib.hid (hSt2.out.later hb145)))
                  go_roundw
                  case rel => exact ⟨nn', N + 1, sv, putK ks k pre, _, rfl, hNn2, hEq2, hR15, hSt15, hKV2, keepB hb13 hb145, Nat.le_trans hB13 hb145.size⟩
                  case measure => simp [intOf]; have := hnn.out; omega
            · have hcs : 0 < mm ∧ sv.isSome = true := by
                have := hcc2.out
                simpa using this
              obtain ⟨mm', hmm⟩ : ∃ n', Hid (mm = n' + 1) := ⟨mm - 1, by show _ = _; omega⟩
              obtain ⟨bv, rfl⟩ : ∃ bv, sv = some bv := by
                cases sv with
                | none => exact absurd hcs.2 (by simp)
                | some bv => exact ⟨bv, rfl⟩
              have hwmm : IntKind.i64.wrap ((mm : Int) - 1) = (mm' : Int) := by have h9 := hmm.out; rw [show ((mm : Int) - 1) = (mm' : Int) by omega]; exact IntWalk.i64_in _ (by have := hpm.out; omega)
              obtain ⟨x, hx⟩ : ∃ x, Hid ((takeN (some bv) 8).1 = x) := ⟨_, rfl⟩
              obtain ⟨t1, ht1⟩ : ∃ t1, Hid ((takeN (some bv) 8).2 = t1) := ⟨_, rfl⟩
              obtain ⟨v, hv⟩ : ∃ v, Hid ((takeV t1).1 = v) := ⟨_, rfl⟩
              obtain ⟨t2, ht2⟩ : ∃ t2, Hid ((takeV t1).2 = t2) := ⟨_, rfl⟩
              have HVN : Hid (versS m0 s5 = (pre ++ [⟨x, v⟩] ++ (versS mm' t2).1, (versS mm' t2).2)) := versS_cons (by rw [← hmm.out]; exact hVE.out) hx.out ht1.out hv.out ht2.out
              have HT8 : Hid (Calls Tryz.prog 37 #[.pointer (some ⟨w.heap.size, 0, none⟩), .int .i64 8] wc (TakePost wc w.heap.size x t1)) := by rw [← hx.out, ← ht1.out]; exact rdrTake_any hRv.out 8 8 rfl (by decide)
              have HTV : Hid (∀ wz, RdrAt wz w.heap.size t1 → TabsP wz w.heap.size → Calls Tryz.prog 40 #[.pointer (some ⟨w.heap.size, 0, none⟩)] wz fun e w' => e = .returned (.agg #[.int .i64 v.kind, .int .u64 (v.bits : Int), .string v.text]) ∧ RdrAt w' w.heap.size t2 ∧ Out (fun j => j = w.heap.size) wz w') := fun wz h h' => by
                have := rdrVal_any h h'
                rw [hv.out, ht2.out] at this
                exact this
              have hTPc : TabsP wc w.heap.size := hTP.out.out ((Out.of_below (O := fun j => j = w.heap.size) hw).trans' (ho78.trans' hOut.down)) (fun j hj e => by omega)
              obtain ⟨i0, hi, hz0, hz1, hz2⟩ := info_parts info_ver
              have hpm9 := hpm.out
              have hmm9 : 1 ≤ mm := hcs.1
              have hl63 : pre.length + 1 ≤ maxLen := by unfold maxLen; omega
              have hlby : (pre.length + 1) * 40 ≤ 140737488355328 := by omega
              have hwlt : w.heap.size < w8.heap.size := by omega
              clear hcs hcc2 hx ht1 hv ht2 hpm9 hmm9
              go_wp2_with (first
                | (go_at_call 37; (with_reducible refine HT8.out.mono ?_); rintro e w9 ⟨rfl, hR9, ho9⟩; have hT9 := hTPc.at_ ho9; have hO9 := ho9.row HO.out (fun g hg e => by { have := (HO.out.lt g hg).1; omega }); have hu9 := Out.up3 hOut ho9)
                | (go_at_call 40; refine (HTV.out _ hR9 hT9).mono ?_; rintro e w10 ⟨rfl, hR10, ho10⟩; have hO10 := ho10.row hO9 (fun g hg e => by { have := (HO.out.lt g hg).1; omega }); have hu10 := Out.up3 hu9 ho10)
                | (at_builtin; refine wpList_append_own_at _ rfl _ _ 63 rfl w8.heap.size 72 i0 _ 4 40 Tryz.underlying63 hi hz0 hz1 hz2 rfl (by decide) (.slice A4 pre.length c4) pre.length (verCs pre) rfl (own_keep hO10 (below1 _ _)) ⟨w10.heap.size, 0, none⟩ 1 1 (verC ⟨x, v⟩) rfl rfl (World.news_of_block (heap_alloc_new w10 _)) (verC_one _) hl63 hlby (Nat.le_trans hu10.size (below1 _ _).size) ?_; intro v12 w12 HO12 hg12 _ _; have hu12 := Out.up5 (Out.up4 hu10 (below1 w10 _)) hg12 (fun g hg => (HO.out.lt g hg).1); have hR12 := Lib.hid ((hR10.later (below1 w10 _)).out (Out.of_grown hg12 (O := fun j => (Value.slice A4 pre.length c4).ownBlock = some j) (fun _ e => e)) (fun j hj e => by { have := (HO.out.lt j e).1; omega })); replace HO12 := Lib.hid HO12; clear hg12))
              go_roundw
              case rel =>
                refine ⟨mm', t2, pre ++ [⟨x, v⟩], rfl, HVN, ?_, hR12, ?_, hu12⟩
                · show World.ownsRow _ _ _ _ _ _ _
                  rw [verCs_snoc, List.length_append]
                  exact HO12.out
                · show _ ≤ _
                  have h1 := hmm.out
                  have h2 := hpm.out
                  rw [List.length_append, List.length_singleton]
                  omega
              case measure => simp [intOf]; have := hmm.out; omega
end Go.Proofs.YtboiafchmdflpaaGreatDoor
