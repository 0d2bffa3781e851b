/- CertifySerial's walk. -/
import Derived.Test.YtboiafchmdflpaaDoorLawFresh16
import Derived.Deep.DeepCutAuto
import Derived.Handy
namespace Go.Proofs.YtboiafchmdflpaaDoor
open Go.RowKit Go.Maps Go.Shelf Go.Sort

/-! ### The plain law -/
theorem falls_inj {l : List Ver} (h : Falls l) {u v : Ver} (hu : u ∈ l) (hv : v ∈ l) (e : u.num = v.num) : u = v := by
  obtain ⟨i, hi, rfl⟩ := List.mem_iff_getElem.1 hu
  obtain ⟨j, hj, rfl⟩ := List.mem_iff_getElem.1 hv
  rcases Nat.lt_trichotomy i j with q | q | q
  · have := List.pairwise_iff_getElem.1 h i j hi hj q; omega
  · subst q; rfl
  · have := List.pairwise_iff_getElem.1 h j i hj hi q; omega
theorem seenV_mem (l : List Ver) (n : Nat) : seenV l n = noVer ∨ seenV l n ∈ l := by
  rw [seenV]
  cases hf : l.find? fun v => decide (v.num ≤ n) with
  | none => exact .inl rfl
  | some u => exact .inr (List.mem_of_find?_eq_some hf)
theorem seen_same {l : List Ver} (hf : Falls l) (h1 : ∀ v ∈ l, 1 ≤ v.num) {a b : Nat} (h : (seenV l a).num = (seenV l b).num) : seenV l a = seenV l b := by
  rcases seenV_mem l a with e | e <;> rcases seenV_mem l b with e' | e'
  · rw [e, e']
  · have := h1 _ e'; rw [← h, e] at this; cases this
  · have := h1 _ e; rw [h, e'] at this; cases this
  · exact falls_inj hf e e' h
def readR (s : StD) (a : Nat) (k : ByteArray) : Rd := ⟨k, (seenV (getK s.ks k) a).num⟩
def seenC (s : StD) (a : Nat) (k : ByteArray) : Val := (seenV (getK s.ks k) a).val
theorem serial_val {s : StD} (hs : StOK s) {a : Nat} {l : List ByteArray} (hv : voteB s (l.map (readR s a)) = true) {k : Nat} {x : ByteArray} (hk : k < l.length) (hx : l.getD k noStr = x) : seenV (getK s.ks x) s.last = seenV (getK s.ks x) a := by
  have e : l[k] = x := by rw [← hx, List.getD_eq_getElem?_getD, List.getElem?_eq_getElem hk]; rfl
  have := List.all_eq_true.1 hv (readR s a x) (List.mem_map.2 ⟨x, e ▸ List.getElem_mem hk, rfl⟩)
  simp only [voteR, readR] at this
  exact seen_same (hs.getK x).1 (fun v hv => ((hs.getK x).2.1 v hv).1) (of_decide_eq_true this)
theorem serial_last (s : StD) (l : List ByteArray) : voteB s (l.map (readR s s.last)) = true := fresh_yes s l
def valC (v : Val) : List Value := [.int .i64 v.kind, .int .u64 (v.bits : Int), .string v.text]
def valCs (l : List Val) : List Value := l.flatMap valC
theorem valC_one (x : Val) : ∀ u ∈ valC x, u.oneCell' = true := fun u hu => by
  simp only [valC, List.mem_cons, List.not_mem_nil, or_false] at hu
  rcases hu with rfl | rfl | rfl <;> rfl
theorem valCs_snoc (l : List Val) (x : Val) : valCs (l ++ [x]) = valCs l ++ valC x := by simp [valCs]
theorem valCs_len : ∀ l : List Val, (valCs l).length = l.length * 3
  | [] => rfl
  | x :: l => by have := valCs_len l; rw [show valCs (x :: l) = valC x ++ valCs l from rfl, List.length_append, this]; simp [valC]; omega
theorem valCs_at : ∀ (l : List Val) (i : Nat), i < l.length → (valCs l)[i * 3]? = some (.int .i64 (l.getD i noVal).kind) ∧ (valCs l)[i * 3 + 1]? = some (.int .u64 ((l.getD i noVal).bits : Nat)) ∧ (valCs l)[i * 3 + 2]? = some (.string (l.getD i noVal).text)
  | [], i, h => by simp at h
  | x :: l, 0, _ => by simp [valCs, valC]
  | x :: l, i + 1, h => by
    have := valCs_at l i (by simpa using h)
    rw [show (i + 1) * 3 = i * 3 + 3 by omega, show i * 3 + 3 + 1 = (i * 3 + 1) + 3 by omega, show i * 3 + 3 + 2 = (i * 3 + 2) + 3 by omega]
    simpa [valCs, valC] using this
def ValsAt (w : World) (A : Option Addr) (l : List Val) : Prop :=
  ∀ i, i < l.length → ∃ b off, A = some ⟨b, off, none⟩ ∧ w.cell? ⟨b, off + i * 3, none⟩ = some (.int .i64 (l.getD i noVal).kind) ∧ w.cell? ⟨b, off + i * 3 + 1, none⟩ = some (.int .u64 ((l.getD i noVal).bits : Nat)) ∧ w.cell? ⟨b, off + i * 3 + 2, none⟩ = some (.string (l.getD i noVal).text)
theorem own_vals {w : World} {base : Nat} {e : TypeId} {v : Value} {l : List Val} (h : w.ownsRow base e 3 v l.length (valCs l)) :
    ∃ (A : Option Addr) (cap : Nat), v = .slice A l.length cap ∧ l.length ≤ cap ∧ ValsAt w A l := by
  rcases h.2 with ⟨rfl, h0⟩ | ⟨g, cap, cur, rfl, hfr, hh, hn, _, _, ht⟩
  · exact ⟨none, 0, by rw [h0], by omega, fun i hi => by omega⟩
  · refine ⟨some ⟨g, 0, none⟩, cap, rfl, hn, fun i hi => ⟨g, 0, rfl, ?_⟩⟩
    have hc : ∀ j, j < l.length * 3 → w.cell? ⟨g, 0 + j, none⟩ = (valCs l)[j]? := by
      intro j hj
      have h1 : (cur.toList.take (l.length * 3))[j]? = (valCs l)[j]? := by rw [ht]
      rw [List.getElem?_take_of_lt (by omega)] at h1
      simp only [World.cell?, hh, Nat.zero_add, Option.isSome_none, Bool.false_eq_true, if_false]
      rw [← Array.getElem?_toList, h1]
    have := valCs_at l i hi
    exact ⟨by rw [hc _ (by omega)]; exact this.1, by rw [Nat.add_assoc, hc _ (by omega)]; exact this.2.1, by rw [Nat.add_assoc, hc _ (by omega)]; exact this.2.2⟩
theorem info_val : (Tryd.prog.info? 42).map (fun i => (i.zero, i.size, i.bytes)) = some (some (.agg #[.int .i64 0, .int .u64 0, .string ByteArray.empty]), 3, 32) := by kernel_rfl
def SerSt (w : World) (B p q j : Nat) : Prop := ∃ S : StD, StOK S ∧ S.low = 0 ∧ S.last ≤ j ∧ (items S.ks).length ≤ 12 * j ∧ PairAt w B p q (12 * j) S
theorem SerSt.up {w : World} {B p q j j' : Nat} (h : SerSt w B p q j) (hj : j ≤ j') : SerSt w B p q j' := by
  obtain ⟨S, h1, h2, h3, h4, ⟨O, O2, M, hM, r⟩⟩ := h
  exact ⟨S, h1, h2, by omega, by omega, ⟨O, O2, M, by omega, r⟩⟩
theorem SerSt.later {w w' : World} {B p q j : Nat} (h : SerSt w B p q j) (hb : Below w.heap.size w w') : SerSt w' B p q j := by
  obtain ⟨S, h1, h2, h3, h4, h5⟩ := h
  exact ⟨S, h1, h2, h3, h4, h5.later hb⟩

theorem ap1 {v v' u : Value} {H : Nat} (hap : ∀ g, v.ownBlock = some g → u.ownBlock ≠ some g) (hb : v'.ownBlock = v.ownBlock ∨ v'.ownBlock = some H) (hu : ∀ g, u.ownBlock = some g → g < H) : ∀ g, v'.ownBlock = some g → u.ownBlock ≠ some g := fun g hg he => by
  rcases hb with e | e
  · rw [e] at hg; exact hap g hg he
  · rw [e] at hg; injection hg with hg; have := hu g he; omega
theorem ap2 {v u u' : Value} {H : Nat} (hap : ∀ g, v.ownBlock = some g → u.ownBlock ≠ some g) (hb : u'.ownBlock = u.ownBlock ∨ u'.ownBlock = some H) (hv : ∀ g, v.ownBlock = some g → g < H) : ∀ g, v.ownBlock = some g → u'.ownBlock ≠ some g := fun g hg he => by
  rcases hb with e | e
  · rw [e] at he; exact hap g hg he
  · rw [e] at he; injection he with he; have := hv g hg; omega
theorem apL {v u : Value} (hap : ∀ g, v.ownBlock = some g → u.ownBlock ≠ some g) : u.ownBlock = none ∨ u.ownBlock ≠ v.ownBlock := by
  cases hu : u.ownBlock with
  | none => exact .inl rfl
  | some g => exact .inr (fun e => hap g e.symm hu)
theorem apR {v u : Value} (hap : ∀ g, v.ownBlock = some g → u.ownBlock ≠ some g) : v.ownBlock = none ∨ v.ownBlock ≠ u.ownBlock := by
  cases hv : v.ownBlock with
  | none => exact .inl rfl
  | some g => exact .inr (fun e => hap g hv e.symm)
/-- The world under a new name, with a block of three cells. -/
theorem world_gen3 {B g : Nat} {wi w0 : World} {x y z : Value} (F : World → Prop) (hb : Below B wi w0) (hc : Blk3 w0 g x y z) (h : ∀ wX, Below B wi wX → wX.cell? ⟨g, 0, none⟩ = some x → wX.cell? ⟨g, 1, none⟩ = some y → wX.cell? ⟨g, 2, none⟩ = some z → F wX) : F w0 :=
  h w0 hb hc.facts.1 hc.facts.2.1 hc.facts.2.2.1
theorem set3b {w : World} {g : Nat} {u v x : Value} (h : Blk3 w g u v x) (u' v' x' : Value) : Blk3 (((w.setCell ⟨g, 0, none⟩ u').setCell ⟨g, 1, none⟩ v').setCell ⟨g, 2, none⟩ x') g u' v' x' := by
  obtain ⟨t, h⟩ := h
  exact ⟨t, set3_cells h u' v' x'⟩
theorem new3b (w : World) (u v x : Value) (t : TypeId) : Blk3 (w.alloc (.cells #[u, v, x] t)) w.heap.size u v x := ⟨t, heap_alloc_new w _⟩
theorem apart_nil (u : Value) : Hid (∀ g, (Value.slice none 0 0).ownBlock = some g → u.ownBlock ≠ some g) := fun g hg => by cases hg
set_option maxRecDepth 100000 in
set_option maxHeartbeats 16000000 in
theorem law_serial (ls : List (Sl Wr)) (kss : List (Sl ByteArray)) (ats : List Nat) (A K U : Option Addr) (ca ck cu : Nat) (w : World) (hA : SlsAt w A ls) (hW : ∀ i, i < ls.length → WrSlOK w (ls.getD i noSl)) (hn1 : ls.length ≤ 9223372036854775807)
    (hK : SlsAt w K kss) (hKW : ∀ i, i < kss.length → StrSlOK w (kss.getD i noSl)) (hn2 : kss.length ≤ 9223372036854775807) (hU : CellsAt w U ats.length fun i => .int .u8 ((ats.getD i 0 : Nat) : Int)) (hu : ∀ i, i < ats.length → ats.getD i 0 < 256) (hn3 : ats.length ≤ 9223372036854775807) (hT : Tabs w) :
    Calls Tryd.prog 7 #[.slice A ls.length ca, .slice K kss.length ck, .slice U ats.length cu] w fun e w' => e = .returned (.bool true) ∧ Below w.heap.size w w' := by
  by_cases hg : ls.length ≤ 30 ∧ kss.length ≤ 30 ∧ ats.length ≤ 30
  · obtain ⟨h1, h2, h3⟩ := hg
    have q1 : decide (30 < (ls.length : Int)) = false := by rw [decide_eq_false_iff_not]; omega
    have q2 : decide (30 < (kss.length : Int)) = false := by rw [decide_eq_false_iff_not]; omega
    have q3 : decide (30 < (ats.length : Int)) = false := by rw [decide_eq_false_iff_not]; omega
    have HW := Lib.hid hW
    have HT := Lib.hid hT
    have HKW := Lib.hid hKW
    have HU := Lib.hid hu
    clear hW hT hKW hu
    go_enter Tryd.func7, Tryd.ntmps7
    go_wp2_with (first
      | (go_at_call 23; refine (awake16_any _).mono ?_; rintro e w0 ⟨rfl, hb0⟩)
      | (go_at_call 13; refine (new14_any _).mono ?_; rintro e w1 ⟨p, rfl, hS, hb1⟩; obtain ⟨w2, ew2, hb2, hsz2, hrow2⟩ := new3 w1 (.slice none 0 0) (.int .u64 0) (.int .u64 0) 32; have HP := Lib.hid (PairAt.new hS ew2 rfl hb1.size)))
    have HB2 := keepB hb0 (keepB hb1 hb2)
    have hwB := hb0.size
    have HS0 : Hid (SerSt w2 w0.heap.size p w1.heap.size 0) := ⟨st0, st0_ok, rfl, Nat.le_refl _, Nat.le_refl _, HP.out⟩
    clear ew2 hrow2 hsz2 hS HP
    go_loopw [9] (fun i wr => ∃ j : Nat, j ≤ ls.length ∧ i = .int .i64 j ∧ Hid (SerSt wr w0.heap.size p w1.heap.size j) ∧ Below w0.heap.size w0 wr) (fun i _ => ls.length - (intOf i).toNat)
    case atStart => exact ⟨0, Nat.zero_le _, rfl, HS0, keepB hb1 hb2⟩
    case round =>
      obtain ⟨j, hj, rfl, HI, hw⟩ := hrel
      obtain ⟨wi, rfl⟩ : ∃ wi : World, wi = wr := ⟨_, rfl⟩
      have hwf : Below w.heap.size w wi := hb0.trans (hw.mono hwB)
      by_cases hlt : j < ls.length
      · obtain ⟨b, off, sl, rfl, d0w, HX⟩ := SlsAt.at' hA hlt
        have d0 := keep hwf d0w
        have hki : (j : Int) < (ls.length : Int) := by omega
        have hsl := HW.out j hlt
        rw [HX.out] at hsl
        have hfw0 := fewW_any sl.l sl.A sl.cap wi (hsl.at_.later hwf) hsl.ok
        cases hfw : fewW sl.l
        · have HFw := Lib.hid (calls_same hfw hfw0)
          clear hfw hfw0 hsl
          go_wp2_with (go_at_call 26; refine HFw.out.mono ?_; rintro e w3 ⟨rfl, rfl⟩)
          go_ret
          exact ⟨rfl, hwf⟩
        · have h12 := fewW_len hfw
          have HFw := Lib.hid (calls_same hfw hfw0)
          have hfo0 := refFormed14_any sl.l sl.A sl.cap wi (hsl.at_.later hwf) hsl.ok (by omega)
          cases hwo : wrsOK sl.l
          · have HFo := Lib.hid (calls_b14 hwo hfo0)
            clear hfw hfw0 hfo0 hsl hwo
            go_wp2_with (first
              | (go_at_call 26; refine HFw.out.mono ?_; rintro e w3 ⟨rfl, rfl⟩)
              | (go_at_call 27; refine HFo.out.mono ?_; rintro e w4 ⟨rfl, hb4⟩))
            go_ret
            exact ⟨rfl, keepB hwf hb4⟩
          · have HFo := Lib.hid (calls_b14 hwo hfo0)
            replace hwo := Lib.hid hwo
            obtain ⟨S, hSok, hSlow, hSlast, hSit, hSP⟩ := HI.out
            obtain ⟨O, O2, M, hM, hSt, hRf, hd⟩ := hSP
            obtain ⟨la, hla⟩ : ∃ la, Hid (S.last = la) := ⟨_, rfl⟩
            have hOlt := Lib.hid hSt.lt
            have hO2lt := Lib.hid hRf.lt
            have hdj := Lib.hid hd
            have hlaj : la ≤ j := by rw [← hla.out]; exact hSlast
            have HSt := Lib.hid hSt
            have HRf := Lib.hid hRf
            have HLa : Hid (∀ wz, Below wi.heap.size wi wz → Calls Tryd.prog 16 #[.pointer (some ⟨p, 0, none⟩)] wz fun e w' => e = .returned (.int .u64 (la : Int)) ∧ wz = w') := fun wz hz => by
              have := last14_any (HSt.out.later hz)
              rwa [hla.out] at this
            have HSL := Lib.hid hsl
            clear hfw hfw0 hfo0 hsl hSt hRf hd HI
            obtain ⟨c10, hc10⟩ : ∃ c10, Hid ((decide (j < ats.length) && decide (0 < la)) = c10) := ⟨_, rfl⟩
            obtain ⟨a0, ha0⟩ : ∃ a0, Hid (la = a0) := ⟨_, rfl⟩
            have HLb : Hid (∀ wz, Below wi.heap.size wi wz → Calls Tryd.prog 16 #[.pointer (some ⟨p, 0, none⟩)] wz fun e w' => e = .returned (.int .u64 (a0 : Int)) ∧ wz = w') := fun wz hz => by
              have := HLa.out wz hz
              rwa [ha0.out] at this
            go_upto_region 10 with (first
              | (go_at_call 26; refine HFw.out.mono ?_; rintro e w3 ⟨rfl, rfl⟩)
              | (go_at_call 27; refine HFo.out.mono ?_; rintro e w4 ⟨rfl, hb4⟩)
              | (go_at_call 16; refine (HLb.out _ hb4).mono ?_; rintro e w5 ⟨rfl, rfl⟩))
            go_cut [70] (fun s70 wx => s70 = .bool c10 ∧ w4 = wx)
            case first =>
              have hcc := hc10.out
              by_cases hja : j < ats.length
              · have hji : (j : Int) < (ats.length : Int) := by omega
                by_cases hl0 : 0 < la
                · have hl0i : decide (0 < a0) = true := by rw [← ha0.out, decide_eq_true_iff]; omega
                  rw [decide_eq_true hja, decide_eq_true hl0] at hcc
                  subst hcc
                  clear hl0
                  go_wp2
                  go_meet
                  exact ⟨rfl, rfl⟩
                · have hl0i : decide (0 < a0) = false := by rw [← ha0.out, decide_eq_false_iff_not]; omega
                  rw [decide_eq_true hja, decide_eq_false hl0] at hcc
                  subst hcc
                  clear hl0
                  go_wp2
                  go_meet
                  exact ⟨rfl, rfl⟩
              · have hji : decide ((j : Int) < (ats.length : Int)) = false := by rw [decide_eq_false_iff_not]; omega
                rw [decide_eq_false hja, Bool.false_and] at hcc
                subst hcc
                go_wp2
                go_meet
                exact ⟨rfl, rfl⟩
            case rest =>
              obtain ⟨rfl, rfl⟩ := hcut
              obtain ⟨kk, hkk⟩ : ∃ kk : List ByteArray, Hid ((if j < kss.length then (kss.getD j noSl).l else []) = kk) := ⟨_, rfl⟩
              obtain ⟨ks, hks⟩ : ∃ ks : List ByteArray, Hid (kk.take 6 = ks) := ⟨_, rfl⟩
              have hksl : ks.length ≤ 6 := by rw [← hks.out, List.length_take]; omega
              obtain ⟨i0, hi, hz0, hz1, hz2⟩ := info_parts info_rd
              obtain ⟨j0, ji, jz0, jz1, jz2⟩ := info_parts info_val
              go_upto_if 70 with fail
              go_cut [10] (fun s10 wx => ∃ a : Nat, a ≤ la ∧ s10 = .int .u64 (a : Int) ∧ w4 = wx)
              case first =>
                cases c10
                · go_wp2
                  go_meet
                  exact ⟨a0, by rw [ha0.out]; exact Nat.le_refl _, rfl, rfl⟩
                · have hcc := hc10.out
                  simp only [Bool.and_eq_true, decide_eq_true_eq] at hcc
                  obtain ⟨hja, hl0⟩ := hcc
                  obtain ⟨b2, off2, rfl, e0⟩ := (CellsAt.later hU (keepB hwf hb4)) j hja
                  have hji : (j : Int) < (ats.length : Int) := by omega
                  have h256 := HU.out j hja
                  obtain ⟨y, hy⟩ : ∃ y, ats.getD j 0 = y := ⟨_, rfl⟩
                  simp only [hy] at e0 h256
                  have hml := Nat.mod_lt y (show 0 < a0 + 1 by omega)
                  obtain ⟨a, ha⟩ : ∃ a, y % (a0 + 1) = a := ⟨_, rfl⟩
                  rw [ha] at hml
                  have hale : a ≤ la := by rw [ha0.out]; omega
                  have hal := Lib.hid (show a0 ≤ 30 by rw [← ha0.out]; omega)
                  have hw1 : IntKind.u64.wrap (y : Int) = y := IntWalk.u64_in _ (by omega)
                  have hmod : (y : Int) % ((a0 : Int) + 1) = (a : Int) := by rw [← ha]; simp
                  have ha30 : a0 ≤ 30 := hal.out
                  clear ha hl0 hy
                  go_wp2
                  go_meet
                  exact ⟨a, hale, by rw [hmod], rfl⟩
              case rest =>
                obtain ⟨a, hale, rfl, rfl⟩ := hcut
                clear hc10 HLb
                go_wp2
                have HKK := Lib.hid (show ∀ wz, Below w.heap.size w wz → j < kss.length → ∃ b3 off3 kA kc, K = some ⟨b3, off3, none⟩ ∧ wz.cell? ⟨b3, off3 + j, none⟩ = some (.slice kA kk.length kc) ∧ StrsAt wz kA kk ∧ (∀ i, i < kk.length → (kk.getD i noStr).size ≤ 9223372036854775807) ∧ kk.length ≤ 9223372036854775807 from fun wz hz hjk => by
                  obtain ⟨b3, off3, kv, e3, hc3, hX3⟩ := SlsAt.at' (hK.later hz) hjk
                  have hkv := HKW.out j hjk
                  have ekk : kv.l = kk := by rw [← hkk.out, if_pos hjk, hX3.out]
                  rw [hX3.out] at hkv
                  rw [ekk] at hc3
                  exact ⟨b3, off3, kv.A, kv.cap, e3, hc3, by rw [← ekk]; exact CellsAt.later hkv.at_ hz, by rw [← ekk]; exact hkv.k, by rw [← ekk]; exact hkv.n⟩)
                have hwf4 := keepB hwf hb4
                have HG : Hid (∀ (x : ByteArray) (wz : World), x.size ≤ 1000 → Below wi.heap.size wi wz → Calls Tryd.prog 18 #[.pointer (some ⟨p, 0, none⟩), .string x, .int .u64 (a : Int)] wz (GetPost wz (seenV (getK S.ks x) a) 0)) := fun x wz hx hz => by
                  have := get14_any (HSt.out.later hz) x (by unfold maxLen; omega) a (Nat.le_trans (getK_len _ _) (by omega))
                  rw [getV, oldE, if_neg (by omega), if_neg (by omega)] at this
                  exact this
                go_loopw [11, 12, 13] (fun v u i wr => ∃ k : Nat, k ≤ ks.length ∧ i = .int .i64 k ∧ Hid ((ks.take k).all (fun x => decide (x.size ≤ 1000)) = true) ∧ Hid (wr.ownsRow w4.heap.size 61 2 v k (rdCells ((ks.take k).map (readR S a)))) ∧ Hid (wr.ownsRow w4.heap.size 42 3 u k (valCs ((ks.take k).map (seenC S a)))) ∧ Hid (∀ g, v.ownBlock = some g → u.ownBlock ≠ some g) ∧ Below w4.heap.size w4 wr) (fun _ _ i _ => ks.length - (intOf i).toNat)
                case atStart => exact ⟨0, Nat.zero_le _, rfl, rfl, own_nil _ _ _ _, own_nil _ _ _ _, apart_nil _, Below.refl _ _⟩
                case round =>
                  obtain ⟨k, hk, rfl, HA, HO, HV, HD, hwk⟩ := hrel
                  obtain ⟨wl, rfl⟩ : ∃ wl : World, wl = wr := ⟨_, rfl⟩
                  have hwl : Below w.heap.size w wl := keepB hwf4 hwk
                  obtain ⟨cnd, hcnd⟩ : ∃ cnd, Hid (decide (k < ks.length) = cnd) := ⟨_, rfl⟩
                  go_upto_region 15 with fail
                  go_cut [95] (fun s95 wx => s95 = .bool cnd ∧ wl = wx)
                  case first =>
                    have hcc := hcnd.out
                    by_cases hjk : j < kss.length
                    · obtain ⟨b3, off3, kA, kc, rfl, hc3, hsA, hkl, hkn⟩ := HKK.out wl hwl hjk
                      have hji : (j : Int) < (kss.length : Int) := by omega
                      by_cases hk1 : k < kk.length
                      · by_cases hk6 : k < 6
                        · rw [decide_eq_true (by rw [← hks.out, List.length_take]; omega)] at hcc
                          subst hcc
                          have hk6i : decide ((k : Int) < 6) = true := by rw [decide_eq_true_iff]; omega
                          have hk6n : decide (k < 6) = true := decide_eq_true hk6
                          have hk1n : decide (k < kk.length) = true := decide_eq_true hk1
                          clear hk6
                          go_wp2
                          go_meet
                          exact ⟨rfl, rfl⟩
                        · rw [decide_eq_false (by omega)] at hcc
                          subst hcc
                          have hk6i : decide ((k : Int) < 6) = false := by rw [decide_eq_false_iff_not]; omega
                          have hk6n : decide (k < 6) = false := decide_eq_false hk6
                          have hk1n : decide (k < kk.length) = true := decide_eq_true hk1
                          clear hk6
                          go_wp2
                          go_meet
                          exact ⟨rfl, rfl⟩
                      · rw [decide_eq_false (by rw [← hks.out, List.length_take]; omega)] at hcc
                        subst hcc
                        have hk1n : decide (k < kk.length) = false := decide_eq_false hk1
                        go_wp2
                        go_meet
                        exact ⟨rfl, rfl⟩
                    · have hji : decide ((j : Int) < (kss.length : Int)) = false := by rw [decide_eq_false_iff_not]; omega
                      have hk0 : ks = [] := by rw [← hks.out, ← hkk.out, if_neg hjk]; rfl
                      have hk00 : ks.length = 0 := by rw [hk0]; rfl
                      rw [decide_eq_false (by omega)] at hcc
                      subst hcc
                      clear hk0 hk00
                      go_wp2
                      go_meet
                      exact ⟨rfl, rfl⟩
                  case rest =>
                    obtain ⟨rfl, rfl⟩ := hcut
                    cases cnd
                    · have hlk : ¬ k < ks.length := by simpa using hcnd.out
                      have ek : ks.take k = ks := List.take_of_length_le (by omega)
                      have hfull := HA.out
                      have hO := HO.out
                      have hV := HV.out
                      rw [ek] at hfull hO hV
                      obtain ⟨L, hL⟩ : ∃ L, Hid (ks.map (readR S a) = L) := ⟨_, rfl⟩
                      obtain ⟨VL, hVL⟩ : ∃ VL, Hid (ks.map (seenC S a) = VL) := ⟨_, rfl⟩
                      have hkL : k = L.length := by rw [← hL.out, List.length_map]; omega
                      have hkV : k = VL.length := by rw [← hVL.out, List.length_map]; omega
                      rw [hL.out] at hO
                      rw [hVL.out] at hV
                      have hkk2 : k = ks.length := by omega
                      have hO' : wl.ownsRow w4.heap.size 61 2 u11 L.length (rdCells L) := hkL ▸ hO
                      have hV' : wl.ownsRow w4.heap.size 42 3 u12 VL.length (valCs VL) := hkV ▸ hV
                      obtain ⟨A1, c1, e11, _, hRd⟩ := own_rds hO'
                      obtain ⟨A2, c2, e12, _, hVs⟩ := own_vals hV'
                      have hLok : RdsOK L := ⟨fun i hi => by
                        have hi' : i < ks.length := by omega
                        have h2 := List.all_eq_true.1 hfull _ (List.getElem_mem hi')
                        rw [← hL.out, List.getD_eq_getElem?_getD, List.getElem?_map, List.getElem?_eq_getElem hi']
                        simp only [decide_eq_true_eq, Option.map_some, Option.getD_some, readR] at h2 ⊢
                        unfold maxLen; omega, by omega⟩
                      have hStl := HSt.out.later (keepB hb4 hwk)
                      have hRfl := HRf.out.later (keepB hb4 hwk)
                      have hVo := vote_any hStl hSok (by omega) L A1 c1 hRd hLok
                      have HLE := Lib.hid (show L.length = VL.length from hkL ▸ hkV)
                      have HKL := Lib.hid (show L.length = ks.length by omega)
                      subst e11 e12
                      replace hRd := Lib.hid hRd
                      replace hVs := Lib.hid hVs
                      replace hLok := Lib.hid hLok
                      have hStl' := Lib.hid hStl
                      have hRfl' := Lib.hid hRfl
                      have HOR := Lib.hid hO'
                      have HVR := Lib.hid hV'
                      have HLc : Hid (∀ wz, Below wl.heap.size wl wz → Calls Tryd.prog 16 #[.pointer (some ⟨p, 0, none⟩)] wz fun e w' => e = .returned (.int .u64 (la : Int)) ∧ wz = w') := fun wz hz => HLa.out wz (keepB (keepB hb4 hwk) hz)
                      cases hvb : voteB S L
                      · have hne : ¬ (a = la) := fun e => by
                          rw [← hL.out, e, ← hla.out, serial_last] at hvb; cases hvb
                        have q9 : ((a : Int) == (la : Int)) = false := by rw [beq_eq_false_iff_ne]; omega
                        have HVo := Lib.hid (calls_b16 hvb hVo)
                        have HNX : Hid (∀ wz, Below wl.heap.size wl wz → SerSt wz w0.heap.size p w1.heap.size (j + 1)) := fun wz hz => by
                          refine SerSt.up (j := j) ?_ (Nat.le_succ _)
                          exact ⟨S, hSok, hSlow, hSlast, hSit, ⟨O, O2, M, hM, HSt.out.later (keepB (keepB hb4 hwk) hz), HRf.out.later (keepB (keepB hb4 hwk) hz), hdj.out⟩⟩
                        clear hvb hVo hfull hO hV hkL hkV hkk2 hO' hV' hStl hRfl ek hne
                        go_wp2_with (first
                          | (go_at_call 24; refine HVo.out.mono ?_; rintro e w10 ⟨rfl, hb10⟩)
                          | (go_at_call 16; refine (HLc.out _ hb10).mono ?_; rintro e w11 ⟨rfl, rfl⟩))
                        go_roundw
                        case rel => exact ⟨j + 1, by omega, by go_num, HNX.out _ hb10, keepB hw (keepB hb4 (keepB hwk hb10))⟩
                        case measure => simp [intOf]; omega
                      · have HVo := Lib.hid (calls_b16 hvb hVo)
                        have hser : Hid (∀ i x, i < ks.length → ks.getD i noStr = x → seenV (getK S.ks x) S.last = seenV (getK S.ks x) a) := fun i x hi hx => serial_val hSok (by rw [hL.out]; exact hvb) hi hx
                        clear hvb hVo hfull hO hV hkL hkV hkk2 hO' hV' hStl hRfl ek
                        go_wp2_with (go_at_call 24; refine HVo.out.mono ?_; rintro e w10 ⟨rfl, hb10⟩)
                        go_loopw [17] (fun i wr => ∃ m : Nat, m ≤ L.length ∧ i = .int .i64 m ∧ Below w10.heap.size w10 wr) (fun i _ => L.length - (intOf i).toNat)
                        case atStart => exact ⟨0, Nat.zero_le _, rfl, Below.refl _ _⟩
                        case round =>
                          obtain ⟨m, hm, rfl, hwm⟩ := hrel
                          obtain ⟨wm, rfl⟩ : ∃ wm : World, wm = wr := ⟨_, rfl⟩
                          have hbm := keepB hb10 hwm
                          have hL6 : L.length ≤ 6 := by have := HKL.out; omega
                          by_cases hlt3 : m < L.length
                          · obtain ⟨b5, off5, x, n, rfl, d5, d6, HX5⟩ := (hRd.out.later hbm).at' hlt3
                            obtain ⟨b6, off6, rfl, v0w, v1w, v2w⟩ := hVs.out m (by rw [← HLE.out]; exact hlt3)
                            obtain ⟨sv, hsv⟩ : ∃ sv, Hid (VL.getD m noVal = sv) := ⟨_, rfl⟩
                            rw [hsv.out] at v0w v1w v2w
                            have v0 := keep hbm v0w
                            have v1 := keep hbm v1w
                            have v2 := keep hbm v2w
                            clear v0w v1w v2w
                            have hki3 : (m : Int) < (L.length : Int) := by omega
                            have hki4 : (m : Int) < (VL.length : Int) := by have := HLE.out; omega
                            obtain ⟨v, hv⟩ : ∃ v, Hid (seenF (items S.ks) x la = v) := ⟨_, rfl⟩
                            have hveq : Hid (v.val = sv) := by
                              show _ = _
                              have hmk : m < ks.length := by have := HKL.out; omega
                              have ex : ks.getD m noStr = x := by
                                have h9 := HX5.out
                                rw [← hL.out, List.getD_eq_getElem?_getD, List.getElem?_map, List.getElem?_eq_getElem hmk] at h9
                                rw [List.getD_eq_getElem?_getD, List.getElem?_eq_getElem hmk]
                                exact congrArg Rd.key h9
                              have h8 := hsv.out
                              rw [← hVL.out, List.getD_eq_getElem?_getD, List.getElem?_map, List.getElem?_eq_getElem hmk] at h8
                              have ex2 : ks[m] = x := by rw [← ex, List.getD_eq_getElem?_getD, List.getElem?_eq_getElem hmk]; rfl
                              rw [← h8, ← hv.out, seenF_items hSok.rises, ← hla.out, hser.out m x hmk ex, ex2]
                              rfl
                            obtain ⟨O9, RR9⟩ : ∃ O9, Hid (RefAt wm w0.heap.size w1.heap.size O9 (items S.ks) S.last S.low) := ⟨O2, HRf.out.later (keepB (keepB hb4 hwk) hbm)⟩
                            have HGs : Hid (∀ wz, RefAt wz w0.heap.size w1.heap.size O9 (items S.ks) S.last S.low → Calls Tryd.prog 28 #[.pointer (some ⟨w1.heap.size, 0, none⟩), .string x, .int .u64 (la : Int)] wz (RSeenPost wz v)) := fun wz hh => by
                              have := refSeen_any hh x la (by omega)
                              rw [hv.out] at this
                              exact this
                            have c1 : wm.cell? ⟨w1.heap.size, 1, none⟩ = some (.int .u64 (la : Int)) := by
                              obtain ⟨vv, hR9⟩ := RR9.out
                              have := hR9.c1
                              rwa [hla.out] at this
                            have n1 : ¬ (b5 = wm.heap.size) := by have h9 : b5 < wm.heap.size := blk_lt d5; omega
                            have n2 : ¬ (wm.heap.size = b5) := by omega
                            have n3 : ¬ (w1.heap.size = wm.heap.size) := by have h9 : w1.heap.size < wm.heap.size := blk_lt c1; omega
                            have n4 : ¬ (wm.heap.size = w1.heap.size) := by omega
                            have n5 : ¬ (b6 = wm.heap.size) := by have h9 : b6 < wm.heap.size := blk_lt v0; omega
                            have n6 : ¬ (wm.heap.size = b6) := by omega
                            clear hsv HX5
                            go_wp2
                            go_region_held3 (fun w' => w'.cell? ⟨b5, off5 + m * 2, none⟩ = some (.string x) ∧ w'.cell? ⟨w1.heap.size, 1, none⟩ = some (.int .u64 (la : Int)))
                              (first | (with_reducible exact ⟨keepD d5, keepD c1⟩) | (with_reducible exact ⟨keepD (keepA _ d5), keepD (keepA _ c1)⟩) | (with_reducible exact ⟨keep hb2 d5, keep hb2 c1⟩) | (with_reducible exact ⟨keepA _ (keep hb2 d5), keepA _ (keep hb2 c1)⟩) | (with_reducible exact ⟨keepS (keepS (keepS (keep hb2 d5) n1) n1) n1, keepS (keepS (keepS (keep hb2 c1) n3) n3) n3⟩))
                              ((go_at_call 28; refine (HGs.out _ (RR9.out.later (by first | exact below_drew (Below.refl _ _) | exact below_drew (below1 _ _)))).mono ?_; rintro e w3 ⟨rfl, hb⟩; have hb2 : Below wm.heap.size wm w3 := keepB (by first | exact below_drew (Below.refl _ _) | exact below_drew (below1 _ _)) hb; (try have Y := Blk3.newd hb); (try (obtain ⟨y0, y1, y2, f0, f1, f2⟩ := Y.facts))))
                            all_goals
                              first
                                | (refine world_gen3 (B := wm.heap.size) (wi := wm) (g := wm.heap.size) (x := .int .i64 v.val.kind) (y := .int .u64 (v.val.bits : Int)) (z := .string v.val.text) (Exit.then _ _ _ _) (((hb2.setCell (Nat.le_refl _) _).setCell (Nat.le_refl _) _).setCell (Nat.le_refl _) _) (set3b Y _ _ _) ?_)
                                | (refine world_gen3 (B := wm.heap.size) (wi := wm) (g := w3.heap.size) (x := .int .i64 v.val.kind) (y := .int .u64 (v.val.bits : Int)) (z := .string v.val.text) (Exit.then _ _ _ _) (hb2.alloc hb2.size _) (new3b w3 _ _ _ _) ?_)
                              intro wX hbX z0 z1 z2
                              replace v0 := keep hbX v0
                              replace v1 := keep hbX v1
                              replace v2 := keep hbX v2
                              have hwX := keepB hwm hbX
                              obtain rfl := hveq.out
                              clear hbX hb2 n1 n2 n3 n4 n5 n6 d5 d6 c1
                              go_wp2
                              go_quiet (fail)
                              go_wp2
                              go_roundw
                              case rel => exact ⟨m + 1, by omega, by go_num, below_drewN hwX _⟩
                              case measure => simp [intOf]; omega
                          · have hwmi := keepB (keepB hb4 hwk) hbm
                            have hBm : ∀ wz, Below wm.heap.size wm wz → w0.heap.size ≤ wz.heap.size := fun wz hz => by have h1 := hw.size; have h2 := hwmi.size; have h3 := hz.size; omega
                            have hwz : ∀ wz, Below wm.heap.size wm wz → Below w.heap.size w wz := fun wz hz => keepB hwf (keepB hwmi hz)
                            have hlow := HSL.out.at_.low (O := O) hwB (fun x hx => (hOlt.out x hx).1)
                            have hlow2 := HSL.out.at_.low (O := O2) hwB (fun x hx => (hO2lt.out x hx).1)
                            have HAp : Hid (∀ wz, Below wm.heap.size wm wz → Calls Tryd.prog 29 #[.pointer (some ⟨p, 0, none⟩), .int .u64 ((la : Int) + 1), .slice sl.A sl.l.length sl.cap] wz fun e w' => e = .returned (.int .i64 0) ∧ StoreAt w' w0.heap.size p (M + sl.l.length) (ext O wz w') (applyS S (la + 1) sl.l) ∧ Out O wz w') := fun wz hz => by
                              have h9 := apply14_any (HSt.out.later (keepB hwmi hz)) (hBm wz hz) hSok (la + 1) sl.l sl.A sl.cap (HSL.out.at_.later (hwz wz hz)) hlow HSL.out.ok (HT.out.later (hwz wz hz)) (by omega) (by omega)
                              rw [show ((la + 1 : Nat) : Int) = (la : Int) + 1 by omega] at h9
                              refine h9.mono ?_
                              rintro e w' ⟨rfl, r1, r2⟩
                              exact ⟨by rw [applyE, hla.out, if_neg (by omega), if_pos hwo.out], r1, r2⟩
                            have HR1 : Hid (∀ wz w2, Below wm.heap.size wm wz → Out O wz w2 → RefAt w2 w0.heap.size w1.heap.size O2 (items S.ks) S.last S.low) := fun wz w2 hz ho => (HRf.out.later (keepB hwmi hz)).out ho fun x h2 h1 => hdj.out x h1 h2
                            have HC1 : Hid (∀ wz w2, Below wm.heap.size wm wz → Out O wz w2 → w2.cell? ⟨w1.heap.size, 1, none⟩ = some (.int .u64 (la : Int))) := fun wz w2 hz ho => by
                              obtain ⟨vv, hR9⟩ := HR1.out wz w2 hz ho
                              have := hR9.c1
                              rwa [hla.out] at this
                            have HBL : Hid (∀ wz w2, Below wm.heap.size wm wz → Out O wz w2 → Below w.heap.size w w2) := fun wz w2 hz ho => (hwz wz hz).trans ((ho.below (hBm wz hz) fun x hx => (hOlt.out x hx).1).mono hwB)
                            have HD4 : Hid (∀ wz w2, Below wm.heap.size wm wz → Out O wz w2 → w2.cell? ⟨b, off + j, none⟩ = some (.slice sl.A sl.l.length sl.cap)) := fun wz w2 hz ho => keep (HBL.out wz w2 hz ho) d0w
                            have HRp : Hid (∀ wz w2, Below wm.heap.size wm wz → Out O wz w2 → Calls Tryd.prog 30 #[.pointer (some ⟨w1.heap.size, 0, none⟩), .int .u64 ((la : Int) + 1), .slice sl.A sl.l.length sl.cap] w2 fun e w' => e = .returned (.int .i64 0) ∧ RefAt w' w0.heap.size w1.heap.size (ext O2 w2 w') (rApplyL (items S.ks) S.last (la + 1) sl.l) (rLast S.last (la + 1) sl.l) S.low ∧ Out O2 w2 w') := fun wz w2 hz ho => by
                              have h9 := refApply_any (HR1.out wz w2 hz ho) (Nat.le_trans (hBm wz hz) ho.size) (la + 1) sl.l sl.A sl.cap (HSL.out.at_.later (HBL.out wz w2 hz ho)) hlow2 HSL.out.ok (by omega)
                              rw [show ((la + 1 : Nat) : Int) = (la : Int) + 1 by omega] at h9
                              refine h9.mono ?_
                              rintro e w' ⟨rfl, r1, r2⟩
                              exact ⟨by rw [rApplyE, hla.out, if_neg (by omega), if_pos hwo.out], r1, r2⟩
                            have HST : Hid (∀ wz w2 w3, Below wm.heap.size wm wz → StoreAt w2 w0.heap.size p (M + sl.l.length) (ext O wz w2) (applyS S (la + 1) sl.l) → Out O wz w2 → RefAt w3 w0.heap.size w1.heap.size (ext O2 w2 w3) (rApplyL (items S.ks) S.last (la + 1) sl.l) (rLast S.last (la + 1) sl.l) S.low → Out O2 w2 w3 → SerSt w3 w0.heap.size p w1.heap.size (j + 1) ∧ Below w0.heap.size w0 w3) := fun wz w2 w3 hz a1 a2 a3 a4 => by
                              have he := rApply_eq hSok (la + 1) sl.l
                              have hlw : S.low = (applyS S (la + 1) sl.l).low := by
                                rw [applyS]; split
                                · rfl
                                · split <;> rfl
                              obtain ⟨⟨P1, P2, M2, hM2, r⟩, hb⟩ := pair_step (hBm wz hz) (HSt.out.later (keepB hwmi hz)) (HRf.out.later (keepB hwmi hz)) hdj.out a1 a2 a3 a4 he.1 he.2.1 hlw
                              refine ⟨⟨applyS S (la + 1) sl.l, apply_ok hSok _ _, by rw [← hlw, hSlow], ?_, ?_, ⟨P1, P2, M2, by omega, r⟩⟩, (keepB hw (keepB hwmi hz)).trans hb⟩
                              · rw [applyS, hla.out, if_neg (by omega), if_pos hwo.out]
                                show la + 1 ≤ j + 1
                                omega
                              · have := items_apply_len hSok (la + 1) sl.l
                                omega
                            have hw2 : IntKind.u64.wrap ((la : Int) + 1) = (la : Int) + 1 := IntWalk.u64_in _ (by omega)
                            have d9 := keep hwmi d0
                            clear hlow hlow2 hBm hwz
                            have d9D := keepD d9
                            go_wp2
                            refine wp_region_noPanic ?_
                            refine wp_region_held_drew (S := (fun w' => w'.cell? ⟨b, off + j, none⟩ = some (.slice sl.A sl.l.length sl.cap))) (by kernel_rfl) (by exact d9D) (fun hHeld => ?_)
                            refine wpAnyH_take (i := 0) (oi := ?o0) (v := ?v0) ?hi0 (by kernel_rfl) (by kernel_rfl) (by kernel_rfl) ?hq0 (Or.inl ⟨?hg0, ?hy0⟩) hHeld ?rest0
                            case hi0 => (simp only [List.getElem?_toArray, List.getElem?_cons_zero]; rfl)
                            case hq0 => exact fun _ _ _ h => h
                            case hg0 => rfl
                            case hy0 => (intro w hSw; (try dsimp only at hSw); go_simp; (try with_reducible rfl))
                            (try simp only [Act.put, List.setIfInBounds_toArray, List.set_cons_zero, List.set_cons_succ])
                            refine wpAnyH_take (i := 1) (oi := ?o1) (v := ?v1) ?hi1 (by kernel_rfl) (by kernel_rfl) (by kernel_rfl) ?hq1 (Or.inl ⟨?hg1, ?hy1⟩) hHeld ?rest1
                            case hi1 => (simp only [List.getElem?_toArray, List.getElem?_cons_succ, List.getElem?_cons_zero]; rfl)
                            case hq1 => exact fun _ _ _ h => h
                            case hg1 => rfl
                            case hy1 => (intro w hSw; (try dsimp only at hSw); go_simp; (try with_reducible rfl))
                            (try simp only [Act.put, List.setIfInBounds_toArray, List.set_cons_zero, List.set_cons_succ])
                            refine wpAnyH_take (i := 4) (oi := ?o4) (v := ?v4) ?hi4 (by kernel_rfl) (by kernel_rfl) (by kernel_rfl) ?hq4 (Or.inl ⟨?hg4, ?hy4⟩) hHeld ?rest4
                            case hi4 => (simp only [List.getElem?_toArray, List.getElem?_cons_succ, List.getElem?_cons_zero]; rfl)
                            case hq4 => exact fun _ _ _ h => h
                            case hg4 => rfl
                            case hy4 => (intro w hSw; (try dsimp only at hSw); go_simp; (try with_reducible rfl))
                            (try simp only [Act.put, List.setIfInBounds_toArray, List.set_cons_zero, List.set_cons_succ])
                            refine wpAnyH_take (i := 5) (oi := ?o5) (v := ?v5) ?hi5 (by kernel_rfl) (by kernel_rfl) (by kernel_rfl) ?hq5 (Or.inl ⟨?hg5, ?hy5⟩) hHeld ?rest5
                            case hi5 => (simp only [List.getElem?_toArray, List.getElem?_cons_succ, List.getElem?_cons_zero]; rfl)
                            case hq5 => exact fun _ _ _ h => h
                            case hg5 => rfl
                            case hy5 => (intro w hSw; (try dsimp only at hSw); go_simp; (try with_reducible rfl))
                            (try simp only [Act.put, List.setIfInBounds_toArray, List.set_cons_zero, List.set_cons_succ])
                            refine wpAnyH_take (i := 6) (oi := ?o6) (v := ?v6) ?hi6 (by kernel_rfl) (by kernel_rfl) (by kernel_rfl) ?hq6 (Or.inl ⟨?hg6, ?hy6⟩) hHeld ?rest6
                            case hi6 => (simp only [List.getElem?_toArray, List.getElem?_cons_succ, List.getElem?_cons_zero]; rfl)
                            case hq6 => exact fun _ _ _ h => h
                            case hg6 => rfl
                            case hy6 => (intro w hSw; (try dsimp only at hSw); go_simp; (try with_reducible rfl))
                            (try simp only [Act.put, List.setIfInBounds_toArray, List.set_cons_zero, List.set_cons_succ])
                            refine wpAnyH_take (i := 7) (oi := ?o7) (v := ?v7) ?hi7 (by kernel_rfl) (by kernel_rfl) (by kernel_rfl) ?hq7 (Or.inl ⟨?hg7, ?hy7⟩) hHeld ?rest7
                            case hi7 => (simp only [List.getElem?_toArray, List.getElem?_cons_succ, List.getElem?_cons_zero]; rfl)
                            case hq7 => exact fun _ _ _ h => h
                            case hg7 => rfl
                            case hy7 => (intro w hSw; (try dsimp only at hSw); go_simp; (try with_reducible rfl))
                            (try simp only [Act.put, List.setIfInBounds_toArray, List.set_cons_zero, List.set_cons_succ])
                            refine wpAnyH_ready (rs := [2]) (by kernel_rfl) (by simp) ?_
                            refine AllReadyH.cons (o := ?p2) ?ho2 (fun K hK => ?step2) AllReadyH.nil
                            case ho2 => (simp only [List.getElem?_toArray, List.getElem?_cons_succ, List.getElem?_cons_zero]; rfl)
                            go_simp
                            (go_at_call 16; refine (HLc.out _ (keepB hbm (below_drew (Below.refl _ _)))).mono ?_; rintro e w11 ⟨rfl, rfl⟩)
                            (try go_wp2_with fail)
                            refine hK.out _ _ (by exact d9D) (fun hH2 => ?_)
                            clear hHeld hK K
                            have hHeld := hH2
                            clear hH2
                            (try simp only [Act.put, List.setIfInBounds_toArray, List.set_cons_zero, List.set_cons_succ])
                            refine wpAnyH_take (i := 3) (oi := ?o3) (v := ?v3) ?hi3 (by kernel_rfl) (by kernel_rfl) (by kernel_rfl) ?hq3 (Or.inl ⟨?hg3, ?hy3⟩) hHeld ?rest3
                            case hi3 => (simp only [List.getElem?_toArray, List.getElem?_cons_succ, List.getElem?_cons_zero]; rfl)
                            case hq3 => exact fun _ _ _ h => h
                            case hg3 => rfl
                            case hy3 => (intro w hSw; (try dsimp only at hSw); go_simp; (try with_reducible rfl))
                            (try simp only [Act.put, List.setIfInBounds_toArray, List.set_cons_zero, List.set_cons_succ])
                            refine wpAnyH_ready (rs := [8]) (by kernel_rfl) (by simp) ?_
                            refine AllReadyH.cons (o := ?p8) ?ho8 (fun K hK => ?step8) AllReadyH.nil
                            case ho8 => (simp only [List.getElem?_toArray, List.getElem?_cons_succ, List.getElem?_cons_zero]; rfl)
                            go_simp
                            (go_at_call 29; refine (HAp.out _ (below_drew (Below.refl _ _))).mono ?_; rintro e w12 ⟨rfl, hS4, ho4⟩; have d7 := HD4.out _ _ (below_drew (Below.refl _ _)) ho4; have c7 := HC1.out _ _ (below_drew (Below.refl _ _)) ho4)
                            (try go_wp2_with fail)
                            refine hK.out _ _ (by exact d7) (fun hH2 => ?_)
                            clear hHeld hK K
                            have hHeld := hH2
                            clear hH2
                            (try simp only [Act.put, List.setIfInBounds_toArray, List.set_cons_zero, List.set_cons_succ])
                            refine wpAnyH_take (i := 9) (oi := ?o9) (v := ?v9) ?hi9 (by kernel_rfl) (by kernel_rfl) (by kernel_rfl) ?hq9 (Or.inl ⟨?hg9, ?hy9⟩) hHeld ?rest9
                            case hi9 => (simp only [List.getElem?_toArray, List.getElem?_cons_succ, List.getElem?_cons_zero]; rfl)
                            case hq9 => exact fun _ _ _ h => h
                            case hg9 => rfl
                            case hy9 => (intro w hSw; (try dsimp only at hSw); go_simp; (try with_reducible rfl))
                            (try simp only [Act.put, List.setIfInBounds_toArray, List.set_cons_zero, List.set_cons_succ])
                            refine wpAnyH_take (i := 10) (oi := ?o10) (v := ?v10) ?hi10 (by kernel_rfl) (by kernel_rfl) (by kernel_rfl) ?hq10 (Or.inl ⟨?hg10, ?hy10⟩) hHeld ?rest10
                            case hi10 => (simp only [List.getElem?_toArray, List.getElem?_cons_succ, List.getElem?_cons_zero]; rfl)
                            case hq10 => exact fun _ _ _ h => h
                            case hg10 => rfl
                            case hy10 => (intro w hSw; (try dsimp only at hSw); go_simp; (try with_reducible rfl))
                            (try simp only [Act.put, List.setIfInBounds_toArray, List.set_cons_zero, List.set_cons_succ])
                            refine wpAnyH_take (i := 11) (oi := ?o11) (v := ?v11) ?hi11 (by kernel_rfl) (by kernel_rfl) (by kernel_rfl) ?hq11 (Or.inl ⟨?hg11, ?hy11⟩) hHeld ?rest11
                            case hi11 => (simp only [List.getElem?_toArray, List.getElem?_cons_succ, List.getElem?_cons_zero]; rfl)
                            case hq11 => exact fun _ _ _ h => h
                            case hg11 => rfl
                            case hy11 => (intro w hSw; (try dsimp only at hSw); go_simp; (try with_reducible rfl))
                            (try simp only [Act.put, List.setIfInBounds_toArray, List.set_cons_zero, List.set_cons_succ])
                            refine wpAnyH_take (i := 12) (oi := ?o12) (v := ?v12) ?hi12 (by kernel_rfl) (by kernel_rfl) (by kernel_rfl) ?hq12 (Or.inl ⟨?hg12, ?hy12⟩) hHeld ?rest12
                            case hi12 => (simp only [List.getElem?_toArray, List.getElem?_cons_succ, List.getElem?_cons_zero]; rfl)
                            case hq12 => exact fun _ _ _ h => h
                            case hg12 => rfl
                            case hy12 => (intro w hSw; (try dsimp only at hSw); go_simp; (try with_reducible rfl))
                            (try simp only [Act.put, List.setIfInBounds_toArray, List.set_cons_zero, List.set_cons_succ])
                            refine wpAnyH_take (i := 13) (oi := ?o13) (v := ?v13) ?hi13 (by kernel_rfl) (by kernel_rfl) (by kernel_rfl) ?hq13 (Or.inl ⟨?hg13, ?hy13⟩) hHeld ?rest13
                            case hi13 => (simp only [List.getElem?_toArray, List.getElem?_cons_succ, List.getElem?_cons_zero]; rfl)
                            case hq13 => exact fun _ _ _ h => h
                            case hg13 => rfl
                            case hy13 => (intro w hSw; (try dsimp only at hSw); go_simp; (try with_reducible rfl))
                            (try simp only [Act.put, List.setIfInBounds_toArray, List.set_cons_zero, List.set_cons_succ])
                            refine wpAnyH_take (i := 14) (oi := ?o14) (v := ?v14) ?hi14 (by kernel_rfl) (by kernel_rfl) (by kernel_rfl) ?hq14 (Or.inl ⟨?hg14, ?hy14⟩) hHeld ?rest14
                            case hi14 => (simp only [List.getElem?_toArray, List.getElem?_cons_succ, List.getElem?_cons_zero]; rfl)
                            case hq14 => exact fun _ _ _ h => h
                            case hg14 => rfl
                            case hy14 => (intro w hSw; (try dsimp only at hSw); go_simp; (try with_reducible rfl))
                            (try simp only [Act.put, List.setIfInBounds_toArray, List.set_cons_zero, List.set_cons_succ])
                            refine wpAnyH_take (i := 17) (oi := ?o17) (v := ?v17) ?hi17 (by kernel_rfl) (by kernel_rfl) (by kernel_rfl) ?hq17 (Or.inl ⟨?hg17, ?hy17⟩) hHeld ?rest17
                            case hi17 => (simp only [List.getElem?_toArray, List.getElem?_cons_succ, List.getElem?_cons_zero]; rfl)
                            case hq17 => exact fun _ _ _ h => h
                            case hg17 => rfl
                            case hy17 => (intro w hSw; (try dsimp only at hSw); go_simp; (try with_reducible rfl))
                            (try simp only [Act.put, List.setIfInBounds_toArray, List.set_cons_zero, List.set_cons_succ])
                            refine wpAnyH_take (i := 18) (oi := ?o18) (v := ?v18) ?hi18 (by kernel_rfl) (by kernel_rfl) (by kernel_rfl) ?hq18 (Or.inl ⟨?hg18, ?hy18⟩) hHeld ?rest18
                            case hi18 => (simp only [List.getElem?_toArray, List.getElem?_cons_succ, List.getElem?_cons_zero]; rfl)
                            case hq18 => exact fun _ _ _ h => h
                            case hg18 => rfl
                            case hy18 => (intro w hSw; (try dsimp only at hSw); go_simp; (try with_reducible rfl))
                            (try simp only [Act.put, List.setIfInBounds_toArray, List.set_cons_zero, List.set_cons_succ])
                            refine wpAnyH_take (i := 19) (oi := ?o19) (v := ?v19) ?hi19 (by kernel_rfl) (by kernel_rfl) (by kernel_rfl) ?hq19 (Or.inl ⟨?hg19, ?hy19⟩) hHeld ?rest19
                            case hi19 => (simp only [List.getElem?_toArray, List.getElem?_cons_succ, List.getElem?_cons_zero]; rfl)
                            case hq19 => exact fun _ _ _ h => h
                            case hg19 => rfl
                            case hy19 => (intro w hSw; (try dsimp only at hSw); go_simp; (try with_reducible rfl))
                            (try simp only [Act.put, List.setIfInBounds_toArray, List.set_cons_zero, List.set_cons_succ])
                            refine wpAnyH_take (i := 20) (oi := ?o20) (v := ?v20) ?hi20 (by kernel_rfl) (by kernel_rfl) (by kernel_rfl) ?hq20 (Or.inl ⟨?hg20, ?hy20⟩) hHeld ?rest20
                            case hi20 => (simp only [List.getElem?_toArray, List.getElem?_cons_succ, List.getElem?_cons_zero]; rfl)
                            case hq20 => exact fun _ _ _ h => h
                            case hg20 => rfl
                            case hy20 => (intro w hSw; (try dsimp only at hSw); go_simp; (try with_reducible rfl))
                            (try simp only [Act.put, List.setIfInBounds_toArray, List.set_cons_zero, List.set_cons_succ])
                            refine wpAnyH_ready (rs := [15]) (by kernel_rfl) (by simp) ?_
                            refine AllReadyH.cons (o := ?p15) ?ho15 (fun K hK => ?step15) AllReadyH.nil
                            case ho15 => (simp only [List.getElem?_toArray, List.getElem?_cons_succ, List.getElem?_cons_zero]; rfl)
                            go_simp
                            refine hK.out _ _ (by exact d7) (fun hH2 => ?_)
                            clear hHeld hK K
                            have hHeld := hH2
                            clear hH2
                            (try simp only [Act.put, List.setIfInBounds_toArray, List.set_cons_zero, List.set_cons_succ])
                            refine wpAnyH_take (i := 16) (oi := ?o16) (v := ?v16) ?hi16 (by kernel_rfl) (by kernel_rfl) (by kernel_rfl) ?hq16 (Or.inl ⟨?hg16, ?hy16⟩) hHeld ?rest16
                            case hi16 => (simp only [List.getElem?_toArray, List.getElem?_cons_succ, List.getElem?_cons_zero]; rfl)
                            case hq16 => exact fun _ _ _ h => h
                            case hg16 => rfl
                            case hy16 => (intro w hSw; (try dsimp only at hSw); go_simp; (try with_reducible rfl))
                            (try simp only [Act.put, List.setIfInBounds_toArray, List.set_cons_zero, List.set_cons_succ])
                            refine wpAnyH_ready (rs := [21]) (by kernel_rfl) (by simp) ?_
                            refine AllReadyH.cons (o := ?p21) ?ho21 (fun K hK => ?step21) AllReadyH.nil
                            case ho21 => (simp only [List.getElem?_toArray, List.getElem?_cons_succ, List.getElem?_cons_zero]; rfl)
                            go_simp
                            (go_at_call 30; refine (HRp.out _ _ (below_drew (Below.refl _ _)) ho4).mono ?_; rintro e w13 ⟨rfl, hR5, ho5⟩; have HQ := Lib.hid (HST.out _ _ _ (below_drew (Below.refl _ _)) hS4 ho4 hR5 ho5); have d8 := keep (hb0.trans (HQ.out.2.mono hwB)) d0w)
                            (try go_wp2_with fail)
                            refine hK.out _ _ (by exact d8) (fun hH2 => ?_)
                            clear hHeld hK K
                            have hHeld := hH2
                            clear hH2
                            (try simp only [Act.put, List.setIfInBounds_toArray, List.set_cons_zero, List.set_cons_succ])
                            refine wpAnyH_take (i := 22) (oi := ?o22) (v := ?v22) ?hi22 (by kernel_rfl) (by kernel_rfl) (by kernel_rfl) ?hq22 (Or.inl ⟨?hg22, ?hy22⟩) hHeld ?rest22
                            case hi22 => (simp only [List.getElem?_toArray, List.getElem?_cons_succ, List.getElem?_cons_zero]; rfl)
                            case hq22 => exact fun _ _ _ h => h
                            case hg22 => rfl
                            case hy22 => (intro w hSw; (try dsimp only at hSw); go_simp; (try with_reducible rfl))
                            (try simp only [Act.put, List.setIfInBounds_toArray, List.set_cons_zero, List.set_cons_succ])
                            refine wpAnyH_take (i := 23) (oi := ?o23) (v := ?v23) ?hi23 (by kernel_rfl) (by kernel_rfl) (by kernel_rfl) ?hq23 (Or.inl ⟨?hg23, ?hy23⟩) hHeld ?rest23
                            case hi23 => (simp only [List.getElem?_toArray, List.getElem?_cons_succ, List.getElem?_cons_zero]; rfl)
                            case hq23 => exact fun _ _ _ h => h
                            case hg23 => rfl
                            case hy23 => (intro w hSw; (try dsimp only at hSw); go_simp; (try with_reducible rfl))
                            (try simp only [Act.put, List.setIfInBounds_toArray, List.set_cons_zero, List.set_cons_succ])
                            refine wpAnyH_done (by kernel_rfl) ?_ _
                            refine NoPanic.normal ?_
                            all_goals
                              clear hRd hVs hLok hStl' hRfl' HOR HVR HLc HAp HRp HR1 HC1 HBL HD4 HST
                              go_wp2
                              go_roundw
                              case rel => exact ⟨j + 1, by omega, by go_num, HQ.out.1, HQ.out.2⟩
                              case measure => simp [intOf]; omega
                    · have hlk : k < ks.length := by simpa using hcnd.out
                      have hjk : j < kss.length := by
                        by_cases h : j < kss.length
                        · exact h
                        · exfalso
                          have hk0 : ks = [] := by rw [← hks.out, ← hkk.out, if_neg h]; rfl
                          rw [hk0] at hlk; simp at hlk
                      obtain ⟨b3, off3, kA, kc, rfl, hc3, hsA, hkl, hkn⟩ := HKK.out wl hwl hjk
                      have hji : (j : Int) < (kss.length : Int) := by omega
                      have hkk1 : k < kk.length := by rw [← hks.out, List.length_take] at hlk; omega
                      obtain ⟨b4, off4, x, rfl, d4, HX4⟩ := StrsAt.at' hsA hkk1
                      have hki4 : (k : Int) < (kk.length : Int) := by omega
                      have hxs := hkl k hkk1
                      rw [HX4.out] at hxs
                      have hksx : ks.getD k noStr = x := by rw [← hks.out, List.getD_eq_getElem?_getD, List.getElem?_take_of_lt (by omega), ← List.getD_eq_getElem?_getD, HX4.out]
                      by_cases hx1 : 1000 < x.size
                      · clear hksx
                        go_wp2
                        go_ret
                        exact ⟨rfl, hwl⟩
                      · have hx1' : x.size ≤ 1000 := by omega
                        have HR1 : Hid ((ks.take (k + 1)).all (fun x => decide (x.size ≤ 1000)) = true) := all_next hlk hksx (by simp; omega) HA.out
                        have HT : Hid (ks.take (k + 1) = ks.take k ++ [x]) := by
                          show _ = _
                          have e : ks.getD k noStr = ks[k] := by rw [List.getD_eq_getElem?_getD, List.getElem?_eq_getElem hlk]; rfl
                          rw [List.take_succ_eq_append_getElem hlk, ← e, hksx]
                        obtain ⟨v, hv⟩ : ∃ v, Hid (seenV (getK S.ks x) a = v) := ⟨_, rfl⟩
                        have HGx := Lib.hid (HG.out x wl hx1' (keepB hb4 hwk))
                        rw [hv.out] at HGx
                        clear hksx
                        go_wp2_with (first
                          | (go_at_call 18; refine HGx.out.mono ?_; rintro e w6 ⟨rfl, hb6⟩; replace hc3 := keep hb6 hc3; replace d4 := keep hb6 d4; obtain ⟨w7, ew7, hb7, hsz7, hrow7⟩ := new3 w6 (.int .i64 v.val.kind) (.int .u64 (v.val.bits : Int)) (.string v.val.text) 42; replace hc3 := keep hb7 hc3; replace d4 := keep hb7 d4; obtain ⟨x0, x1, x2, _⟩ := cells3 hrow7; have HO7 := Lib.hid (own_keep (own_keep HO.out hb6) hb7); have HV7 := Lib.hid (own_keep (own_keep HV.out hb6) hb7); have hw7 := keepB hwk (keepB hb6 hb7); replace hrow7 := Lib.hid hrow7; replace hsz7 := Lib.hid hsz7; have HO6 := Lib.hid (fun g hg => (own_keep HO.out hb6).lt g hg))
                          | (have _h := HO7; at_builtin; refine wpList_append_own_at _ rfl _ _ 57 rfl w4.heap.size 61 i0 _ 2 24 Tryd.underlying57 hi hz0 hz1 hz2 rfl (by decide) u11 k (rdCells ((ks.take k).map (readR S a))) rfl (own_keep HO7.out (below1 _ _)) ⟨w7.heap.size, 0, none⟩ 1 1 [.string x, .int .u64 (v.num : Int)] rfl rfl (World.news_of_block (heap_alloc_new w7 _)) (rdC_one ⟨x, v.num⟩) (le_maxLen (by omega)) (by omega) (Nat.le_trans hw7.size (below1 _ _).size) ?_; intro v8 w8 HO8 hg8 _ hb8; have HV8 := Lib.hid ((own_keep HV7.out (below1 w7 _)).kept hg8 (apL HD.out)); have hw8 := own_below (keepB hw7 (below1 w7 _)) (Nat.le_refl _) (own_keep HO7.out (below1 _ _)) hg8; have hap8 := Lib.hid (ap1 HD.out hb8 (fun g hg => ((own_keep HV7.out (below1 w7 _)).lt g hg).2)); have hne8 : some w6.heap.size ≠ u11.ownBlock := (fun e => absurd (HO6.out _ e.symm).2 (Nat.lt_irrefl _)); replace x0 := hg8.cell (keepA _ x0) hne8; replace x1 := hg8.cell (keepA _ x1) hne8; replace x2 := hg8.cell (keepA _ x2) hne8; replace HO8 := Lib.hid HO8; clear hg8 hb8 HO7)
                          | (have _h := HO8; at_builtin; refine wpList_append_own_at _ rfl _ _ 68 rfl w4.heap.size 42 j0 _ 3 32 Tryd.underlying68 ji jz0 jz1 jz2 rfl (by decide) u12 k (valCs ((ks.take k).map (seenC S a))) rfl (own_keep HV8.out (below1 _ _)) ⟨w8.heap.size, 0, none⟩ 1 1 (valC v.val) rfl rfl (World.news_of_block (heap_alloc_new w8 _)) (valC_one _) (le_maxLen (by omega)) (by omega) (Nat.le_trans hw8.size (below1 _ _).size) ?_; intro v9 w9 HV9 hg9 _ hb9; have HO9 := Lib.hid ((own_keep HO8.out (below1 w8 _)).kept hg9 (apR hap8.out)); have hw9 := own_below (keepB hw8 (below1 w8 _)) (Nat.le_refl _) (own_keep HV8.out (below1 _ _)) hg9; have hap9 := Lib.hid (ap2 hap8.out hb9 (fun g hg => ((own_keep HO8.out (below1 w8 _)).lt g hg).2)); replace HV9 := Lib.hid HV9; clear hg9 hb9 HO8))
                        go_roundw
                        case rel =>
                          refine ⟨k + 1, by omega, by go_num, HR1, ?_, ?_, hap9, hw9⟩
                          · show World.ownsRow _ _ _ _ _ _ _
                            rw [HT.out, List.map_append, List.map_cons, List.map_nil, rdCells_snoc]
                            have e : (readR S a x).ver = v.num := by rw [← hv.out]; rfl
                            rw [e]
                            exact HO9.out
                          · show World.ownsRow _ _ _ _ _ _ _
                            rw [HT.out, List.map_append, List.map_cons, List.map_nil, valCs_snoc]
                            have e : seenC S a x = v.val := by rw [← hv.out]; rfl
                            rw [e]
                            exact HV9.out
                        case measure => simp [intOf]; omega
      · have ej : j = ls.length := by omega
        go_wp2
        go_ret
        exact ⟨rfl, hwf⟩
  · by_cases h1 : ls.length ≤ 30
    · have q1 : decide (30 < (ls.length : Int)) = false := by rw [decide_eq_false_iff_not]; omega
      by_cases h2 : kss.length ≤ 30
      · have q2 : decide (30 < (kss.length : Int)) = false := by rw [decide_eq_false_iff_not]; omega
        have q3 : decide (30 < (ats.length : Int)) = true := by rw [decide_eq_true_iff]; omega
        go_enter Tryd.func7, Tryd.ntmps7
        go_wp2_with (go_at_call 23; refine (awake16_any _).mono ?_; rintro e w0 ⟨rfl, hb0⟩; (first | replace hbb := keepB hbb hb0 | have hbb := hb0); clear hb0)
        go_ret
        exact ⟨rfl, hbb⟩
      · have q2 : decide (30 < (kss.length : Int)) = true := by rw [decide_eq_true_iff]; omega
        go_enter Tryd.func7, Tryd.ntmps7
        go_wp2_with (go_at_call 23; refine (awake16_any _).mono ?_; rintro e w0 ⟨rfl, hb0⟩; (first | replace hbb := keepB hbb hb0 | have hbb := hb0); clear hb0)
        go_ret
        exact ⟨rfl, hbb⟩
    · have q1 : decide (30 < (ls.length : Int)) = true := by rw [decide_eq_true_iff]; omega
      go_enter Tryd.func7, Tryd.ntmps7
      go_wp2_with (go_at_call 23; refine (awake16_any _).mono ?_; rintro e w0 ⟨rfl, hb0⟩; (first | replace hbb := keepB hbb hb0 | have hbb := hb0); clear hb0)
      go_ret
      exact ⟨rfl, hbb⟩
end Go.Proofs.YtboiafchmdflpaaDoor
