/- Layer 16's Vote and the reference's. -/
import Derived.Test.YtcldpmkhpmlcbaaGreatDoorJ7
set_option linter.unusedVariables false
set_option linter.unusedSimpArgs false
namespace Go.Proofs.YtcldpmkhpmlcbaaGreatDoor
open Go.RowKit Go.Maps Go.Shelf Go.Sort

set_option maxRecDepth 100000 in
set_option maxHeartbeats 2000000 in
theorem voteC_any {w : World} {B p N : Nat} {O : Nat → Prop} {s : StD} (h : StoreAt w B p N O s) (hs : StOK s) (hI : (items s.ks).length ≤ 800000) (g : Nat) (cg : w.cell? ⟨g, 0, none⟩ = some (.pointer (some ⟨p, 0, none⟩))) (k : ByteArray) (hk : k.size ≤ maxLen) (n : Nat) :
    Calls Tryz.prog 151 #[.agg #[.string k, .int .u64 (n : Int)], .pointer (some ⟨g, 0, none⟩)] w fun e w' => e = .returned (.bool (!voteR s ⟨k, n⟩)) ∧ Below w.heap.size w w' := by
  obtain ⟨W, eW, HB, c0, c1⟩ := box2 w (.string k) (.int .u64 (n : Int)) 77
  have HZ : Hid (W.heap.size = w.heap.size + 1) := by show _ = _; rw [← eW]; simp
  replace h := h.later HB
  replace cg := keep HB cg
  obtain ⟨v, hv⟩ : ∃ v, Hid (getV s k s.last = v) := ⟨_, rfl⟩
  have hE : Hid (oldE s s.last = 0) := by show _ = _; have := hs.low; rw [oldE, if_neg (by omega)]
  have hVV : Hid (voteR s ⟨k, n⟩ = decide (v.num = n)) := by
    show _ = _
    have := hs.low
    rw [voteR, ← hv.out, getV, if_neg (by omega)]
  have hlen : (getK s.ks k).length ≤ 900000 := Nat.le_trans (getK_len _ _) (by omega)
  have HG : Hid (∀ w, StoreAt w B p N O s → Calls Tryz.prog 53 #[.pointer (some ⟨p, 0, none⟩), .string k, .int .u64 (s.last : Int)] w (GetPost w v 0)) := fun w hh => by
    have := get14_any hh k hk s.last hlen
    rw [hv.out, hE.out] at this
    exact this
  have HH := Lib.hid h
  have n1 : ¬ (w.heap.size = W.heap.size) := by have := HZ.out; omega
  have n2 : ¬ (W.heap.size = w.heap.size) := by have := HZ.out; omega
  have n3 : ¬ (g = W.heap.size) := by have := blk_lt cg; have h9 : g < W.heap.size := this; omega
  have n4 : ¬ (W.heap.size = g) := by have := blk_lt cg; have h9 : g < W.heap.size := this; omega
  clear h hlen
  go_enter Tryz.func151, Tryz.ntmps151
  go_wp2
  go_region_held3 (fun w' => w'.cell? ⟨w.heap.size, 0, none⟩ = some (.string k) ∧ w'.cell? ⟨w.heap.size, 1, none⟩ = some (.int .u64 (n : Int)) ∧ w'.cell? ⟨g, 0, none⟩ = some (.pointer (some ⟨p, 0, none⟩)))
    (first | (with_reducible exact ⟨keepD c0, keepD c1, keepD cg⟩) | (with_reducible exact ⟨keepD (keepA _ c0), keepD (keepA _ c1), keepD (keepA _ cg)⟩) | (with_reducible exact ⟨keep hb2 c0, keep hb2 c1, keep hb2 cg⟩) | (with_reducible exact ⟨keepA _ (keep hb2 c0), keepA _ (keep hb2 c1), keepA _ (keep hb2 cg)⟩) | (with_reducible exact ⟨keepS (keepS (keepS (keep hb2 c0) n1) n1) n1, keepS (keepS (keepS (keep hb2 c1) n1) n1) n1, keepS (keepS (keepS (keep hb2 cg) n3) n3) n3⟩))
    (first
      | (go_at_call 58; refine (last14_any (HH.out.later (by first | exact below_drew (Below.refl _ _) | exact below_drew (below1 _ _)))).mono ?_; rintro e w2 ⟨rfl, rfl⟩)
      | (go_at_call 53; refine (HG.out _ (HH.out.later (by first | exact below_drew (Below.refl _ _) | exact below_drew (below1 _ _)))).mono ?_; rintro e w3 ⟨rfl, hb⟩; have hb2 : Below W.heap.size W w3 := keepB (by first | exact below_drew (Below.refl _ _) | exact below_drew (below1 _ _)) hb; (try have Y := Blk3.newd hb); (try (obtain ⟨y0, y1, y2, f0, f1, f2⟩ := Y.facts))))
  all_goals
    have HBB := keepB HB hb2
    have hs1 := HB.size
    have hs2 := HBB.size
    by_cases hq : v.num = n
    · have q1 : ((v.num : Int) != (n : Int)) = false := by simp [hq]
      have HF : Hid ((!voteR s ⟨k, n⟩) = false) := by show _ = _; rw [hVV.out, decide_eq_true hq]; rfl
      clear hq
      go_wp2
      go_ret
      first | exact ⟨ret_bool14 HF.out, ((HBB.setCell hs1 _).setCell hs1 _).setCell hs1 _⟩ | exact ⟨ret_bool14 HF.out, HBB.alloc hs2 _⟩
    · have q1 : ((v.num : Int) != (n : Int)) = true := by simp; omega
      have HF : Hid ((!voteR s ⟨k, n⟩) = true) := by show _ = _; rw [hVV.out, decide_eq_false hq]; rfl
      clear hq
      go_wp2
      go_ret
      first | exact ⟨ret_bool14 HF.out, ((HBB.setCell hs1 _).setCell hs1 _).setCell hs1 _⟩ | exact ⟨ret_bool14 HF.out, HBB.alloc hs2 _⟩

structure RdsOK (l : List Rd) : Prop where
  k : ∀ i, i < l.length → (l.getD i noRd).key.size ≤ maxLen
  n : l.length ≤ 1000000
def IdxPost (w : World) (bad : Bool) (e : Ending) (w' : World) : Prop := ∃ z : Int, e = .returned (.int .i64 z) ∧ decide (0 ≤ z) = bad ∧ Below w.heap.size w w'
theorem vote_bad {s : StD} {l : List Rd} {k : Nat} {x : Rd} (hk : k < l.length) (h : l.getD k noRd = x) (hx : (!voteR s x) = true) : voteB s l = false :=
  all_bad (d := noRd) hk h (by simpa using hx)
set_option maxRecDepth 100000 in
theorem voteIdx {w : World} {B p N : Nat} {O : Nat → Prop} {s : StD} (h : StoreAt w B p N O s) (hs : StOK s) (hI : (items s.ks).length ≤ 800000) (g : Nat) (cg : w.cell? ⟨g, 0, none⟩ = some (.pointer (some ⟨p, 0, none⟩))) (l : List Rd) (A : Option Addr) (ca : Nat) (hA : RdsAt w A l) (hok : RdsOK l) :
    Calls Tryz.prog 192 #[.slice A l.length ca, .func (.func 151) #[] #[.pointer (some ⟨g, 0, none⟩)]] w (IdxPost w (!voteB s l)) := by
  have hn := hok.n
  have HH := Lib.hid h
  clear h
  go_enter Tryz.func192, Tryz.ntmps192
  go_wp2_with fail
  go_loopw [8] (fun i wr => ∃ k : Nat, k ≤ l.length ∧ i = .int .i64 k ∧ Hid ((l.take k).all (voteR s) = true) ∧ Below w.heap.size w wr) (fun i _ => l.length - (intOf i).toNat)
  case atStart => exact ⟨0, Nat.zero_le _, rfl, rfl, Below.refl _ _⟩
  case round =>
    obtain ⟨k, hk, rfl, HA, hw⟩ := hrel
    have hr := hA.later hw
    have cgr := keep hw cg
    by_cases hlt : k < l.length
    · obtain ⟨b, off, x, n, rfl, d0, d1, HX⟩ := hr.at' hlt
      have hx := hok.k k hlt
      rw [HX.out] at hx
      simp only at hx
      cases hv : (!voteR s ⟨x, n⟩)
      · have HF : Hid ((l.take (k + 1)).all (voteR s) = true) := all_next hlt HX.out (by simpa using hv) HA.out
        replace hv := Lib.hid hv
        go_wp2_with (go_at_call 151; refine (calls_b16 hv.out (voteC_any (HH.out.later hw) hs hI g cgr x hx n)).mono ?_; rintro e w1 ⟨rfl, hb⟩; replace hw := keepB hw hb)
        go_roundw
        case rel => exact ⟨k + 1, by omega, by go_num, HF, hw⟩
        case measure => simp [intOf]; omega
      · have HF : Hid ((!voteB s l) = true) := by show _ = _; rw [vote_bad hlt HX.out hv]; rfl
        replace hv := Lib.hid hv
        go_wp2_with (go_at_call 151; refine (calls_b16 hv.out (voteC_any (HH.out.later hw) hs hI g cgr x hx n)).mono ?_; rintro e w1 ⟨rfl, hb⟩; replace hw := keepB hw hb)
        go_ret
        exact ⟨_, rfl, by rw [HF.out]; simp, hw⟩
    · have HF : Hid ((!voteB s l) = false) := by show _ = _; have := HA.out; rw [show l.take k = l from List.take_of_length_le (by omega)] at this; rw [voteB, this]; rfl
      go_wp2
      go_ret
      exact ⟨_, rfl, by rw [HF.out]; simp, hw⟩
set_option maxRecDepth 100000 in
theorem voteCon {w : World} {B p N : Nat} {O : Nat → Prop} {s : StD} (h : StoreAt w B p N O s) (hs : StOK s) (hI : (items s.ks).length ≤ 800000) (g : Nat) (cg : w.cell? ⟨g, 0, none⟩ = some (.pointer (some ⟨p, 0, none⟩))) (l : List Rd) (A : Option Addr) (ca : Nat) (hA : RdsAt w A l) (hok : RdsOK l) :
    Calls Tryz.prog 150 #[.slice A l.length ca, .func (.func 151) #[] #[.pointer (some ⟨g, 0, none⟩)]] w fun e w' => e = .returned (.bool (!voteB s l)) ∧ Below w.heap.size w w' := by
  go_enter Tryz.func150, Tryz.ntmps150
  go_wp2_with (go_at_call 192; refine (voteIdx h hs hI g cg l A ca hA hok).mono ?_; rintro e w1 ⟨z, rfl, hz, hb⟩; replace hz := Lib.hid hz)
  go_ret
  exact ⟨ret_bool14 hz.out.symm, hb⟩
set_option maxRecDepth 100000 in
theorem vote_any {w : World} {B p N : Nat} {O : Nat → Prop} {s : StD} (h : StoreAt w B p N O s) (hs : StOK s) (hI : (items s.ks).length ≤ 800000) (l : List Rd) (A : Option Addr) (ca : Nat) (hA : RdsAt w A l) (hok : RdsOK l) :
    Calls Tryz.prog 93 #[.pointer (some ⟨p, 0, none⟩), .slice A l.length ca] w fun e w' => e = .returned (.bool (voteB s l)) ∧ Below w.heap.size w w' := by
  obtain ⟨W, eW, HB, c0⟩ := box1 w (.pointer (some ⟨p, 0, none⟩)) 100
  have HH := Lib.hid (h.later HB)
  replace hA := hA.later HB
  clear h
  go_enter Tryz.func93, Tryz.ntmps93
  go_wp2_with (go_at_call 150; refine (voteCon HH.out hs hI _ c0 l A ca hA hok).mono ?_; rintro e w1 ⟨rfl, hb⟩)
  go_ret
  exact ⟨ret_bool14 (by simp), keepB HB hb⟩

/-! ### No store: the vote on any read is no -/
/-! ### The reference's Vote -/
end Go.Proofs.YtcldpmkhpmlcbaaGreatDoor
