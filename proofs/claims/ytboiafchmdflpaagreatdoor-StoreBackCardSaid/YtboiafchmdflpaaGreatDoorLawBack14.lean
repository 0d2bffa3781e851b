/- StoreBack's walk. -/
import Derived.Test.YtboiafchmdflpaaGreatDoorScrF14
import Derived.Test.YtboiafchmdflpaaGreatDoorImp14
import Derived.Test.YtboiafchmdflpaaGreatDoorGE
import Derived.Test.YtboiafchmdflpaaGreatDoorSame02
namespace Go.Proofs.YtboiafchmdflpaaGreatDoor
open Go.RowKit Go.Maps Go.Sort Go.Shelf

theorem PairAt.imp {wi w4 w5 : World} {B p q N : Nat} {O O2 : Nat → Prop} {s : StD} (hs : StoreAt w5 w4.heap.size p N O s) (hr : RefAt wi B q O2 (items s.ks) s.last s.low) (h4 : Below wi.heap.size wi w4) (h5 : Below w4.heap.size w4 w5) (hB : B ≤ wi.heap.size) : PairAt w5 B p q N s :=
  ⟨O, O2, N, Nat.le_refl _, hs.base (Nat.le_trans hB h4.size), (hr.later h4).later h5, fun k hk h2 => by
    have h6 := (hs.lt k hk).1
    have h7 := (hr.lt k h2).2
    have h8 := h4.size
    omega⟩
theorem impN_exp {S : StD} (hg : StGood S) (hn : S.ks.length < 4294967296) : impN (expS S) = S.ks.length := by
  obtain ⟨e1, e2, e3⟩ := imp_heads hg hn
  rw [impN, e1]
  simp only [e2, e3]
set_option maxRecDepth 100000 in
set_option maxHeartbeats 16000000 in
theorem law_back (l : List OpD) (S : Option Addr) (LA : Nat → Option Addr) (LC : Nat → Nat) (ca : Nat) (m : List OpD) (T : Option Addr) (MA : Nat → Option Addr) (MC : Nat → Nat) (cb : Nat) (w : World) (hS : OpsAt w S l LA LC) (hok : ∀ i, i < l.length → OpOK (l.getD i noOp)) (hn : l.length ≤ 9223372036854775807)
    (hS2 : OpsAt w T m MA MC) (hok2 : ∀ i, i < m.length → OpOK (m.getD i noOp)) (hn2 : m.length ≤ 9223372036854775807) (hT : Tabs w) :
    Calls Tryz.prog 4 #[.slice S l.length ca, .slice T m.length cb] w fun e w' => e = .returned (.bool true) ∧ Below w.heap.size w w' := by
  have HS := Lib.hid hS
  have HOK := Lib.hid hok
  have HS2 := Lib.hid hS2
  have HOK2 := Lib.hid hok2
  have HT := Lib.hid hT
  have HF0 := fun wz (hz : Below w.heap.size w wz) => fewS_any l S LA LC ca wz (hS.later hz) hok hn
  have HF2 := fun wz (hz : Below w.heap.size w wz) => fewS_any m T MA MC cb wz (hS2.later hz) hok2 hn2
  clear hS hok hT hS2 hok2
  cases hf : fewS l
  · rw [hf] at HF0
    replace HF0 := Lib.hid HF0
    clear hf HF2
    go_enter Tryz.func4, Tryz.ntmps4
    go_wp2_with (first
      | (go_at_call 5; refine (awake14_any _).mono ?_; rintro e w0 ⟨rfl, hb0⟩; (first | replace hbb := keepB hbb hb0 | have hbb := hb0); clear hb0)
      | (go_at_call 6; refine (HF0.out _ hbb).mono ?_; rintro e w1 ⟨rfl, rfl⟩))
    go_ret
    exact ⟨rfl, hbb⟩
  rw [hf] at HF0
  replace HF0 := Lib.hid HF0
  have HFW := Lib.hid hf
  clear hf
  cases hf : fewS m
  · rw [hf] at HF2
    replace HF2 := Lib.hid HF2
    clear hf
    go_enter Tryz.func4, Tryz.ntmps4
    go_wp2_with (first
      | (go_at_call 5; refine (awake14_any _).mono ?_; rintro e w0 ⟨rfl, hb0⟩; (first | replace hbb := keepB hbb hb0 | have hbb := hb0); clear hb0)
      | (go_at_call 6; (with_reducible refine (HF0.out _ hbb).mono ?_); rintro e w1 ⟨rfl, rfl⟩)
      | (go_at_call 6; refine (HF2.out _ hbb).mono ?_; rintro e w1 ⟨rfl, rfl⟩))
    go_ret
    exact ⟨rfl, hbb⟩
  rw [hf] at HF2
  replace HF2 := Lib.hid HF2
  have HFW2 := Lib.hid hf
  clear hf
  go_enter Tryz.func4, Tryz.ntmps4
  go_wp2_with (first
    | (go_at_call 5; refine (awake14_any _).mono ?_; rintro e w0 ⟨rfl, hb0⟩)
    | (go_at_call 6; (with_reducible refine (HF0.out _ hb0).mono ?_); rintro e w9 ⟨rfl, rfl⟩)
    | (go_at_call 6; refine (HF2.out _ hb0).mono ?_; rintro e w9 ⟨rfl, rfl⟩)
    | (go_at_call 7; refine (new14_any _).mono ?_; rintro e w1 ⟨p, rfl, hSt, hb1⟩; obtain ⟨w2, ew2, hb2, hsz2, hrow2⟩ := new3 w1 (.slice none 0 0) (.int .u64 0) (.int .u64 0) 31; have HP := Lib.hid (PairAt.new hSt ew2 rfl hb1.size)))
  have hB2 := keepB hb1 hb2
  have hwB := hb0.size
  clear ew2 hrow2 hsz2 hSt hb1 hb2
  go_loopw [7] (fun i wr => ∃ k : Nat, k ≤ l.length ∧ i = .int .i64 k ∧ Hid (PairAt wr w0.heap.size p w1.heap.size (12 * k) (scrTo l k)) ∧ Below w0.heap.size w0 wr) (fun i _ => l.length - (intOf i).toNat)
  case atStart => exact ⟨0, Nat.zero_le _, rfl, HP, hB2⟩
  case round =>
    obtain ⟨k, hk, rfl, HI, hw⟩ := hrel
    obtain ⟨wi, rfl⟩ : ∃ wi : World, wi = wr := ⟨_, rfl⟩
    have hwf : Below w.heap.size w wi := hb0.trans (hw.mono hwB)
    by_cases hlt : k < l.length
    · have HAct := Lib.hid (act_step HS.out hwf hwB hw.size HOK.out HFW.out HT.out hlt HI.out)
      obtain ⟨b, off, rfl, d0, d1, d2, d3, d4, d5, _⟩ := (HS.out.later hwf) k hlt
      obtain ⟨o, HX⟩ : ∃ o, Hid (l.getD k noOp = o) := ⟨_, rfl⟩
      rw [HX.out] at d0 d1 d2 d3 d4 d5 HAct
      unfold opV at HAct
      have hki : (k : Int) < (l.length : Int) := by omega
      clear HI HP
      go_wp2_with (go_at_call 8; refine HAct.out.mono ?_; rintro e w3 ⟨rfl, hP3, hb3⟩; replace hP3 := Lib.hid hP3)
      go_roundw
      case rel => exact ⟨k + 1, by omega, by go_num, hP3, hw.trans hb3⟩
      case measure => simp [intOf]; omega
    · obtain rfl : k = l.length := by omega
      have h60 := (fewS_at HFW.out).1
      have hlen := scrTo_len HFW.out l.length (Nat.le_refl _)
      have hokF := scrTo_ok l l.length
      have hgdF := scrTo_good HOK.out l.length (Nat.le_refl _)
      obtain ⟨sF, hsF⟩ : ∃ s, Hid (scrTo l l.length = s) := ⟨_, rfl⟩
      rw [hsF.out] at HI hlen hokF hgdF
      obtain ⟨O5, M5, hM5, hSt5⟩ := HI.out.store
      obtain ⟨O6, hRf6⟩ := HI.out.ref
      have hRf := Lib.hid hRf6
      have hI8 : (items sF.ks).length ≤ 720 := by omega
      have hkl : sF.ks.length ≤ 720 := Nat.le_trans (items_ge hokF.ne) hI8
      have hml : (expS sF).length ≤ 71000 := by
        have := expTo_len hokF sF.ks.length
        rw [expTo_all] at this
        omega
      have hN8 := impN_exp hgdF (by omega)
      have hIS := impS_exp hokF hgdF (by omega)
      obtain ⟨b, hb⟩ : ∃ b, Hid (expS sF = b) := ⟨_, rfl⟩
      have HE : Hid (Calls Tryz.prog 13 #[.pointer (some ⟨p, 0, none⟩)] wi fun e w' => ∃ A c, e = .returned (.slice A b.length c) ∧ b.length ≤ c ∧ BysAt w' A b ∧ Below wi.heap.size wi w') := by
        rw [← hb.out]
        refine (exp14_any hSt5 hokF (by omega) (HT.out.later hwf)).mono ?_
        rintro e w' ⟨v, rfl, ho, hb⟩
        obtain ⟨A, c, rfl, hc, hA⟩ := own_bys ho
        exact ⟨A, c, rfl, hc, hA, hb⟩
      rw [hb.out] at hml hN8 hIS
      have HIm : Hid (∀ wz A c, BysAt wz A b → b.length ≤ c → Tabs wz → Calls Tryz.prog 15 #[.slice A b.length c] wz fun e w' => ∃ p N O, e = .returned (.tuple #[.pointer (some ⟨p, 0, none⟩), .int .i64 0]) ∧ N ≤ 720 ∧ StoreAt w' wz.heap.size p N O sF ∧ Below wz.heap.size wz w') := fun wz A c hA hc ht => by
        refine (imp14_any b A c wz hA hc hml ht).mono ?_
        intro e w' hq
        rw [ImpPost, hIS] at hq
        obtain ⟨p, N, O, rfl, hN, h1, h2⟩ := hq
        exact ⟨p, N, O, rfl, by omega, h1, h2⟩
      have hwi := hw.size
      replace hokF := Lib.hid hokF
      replace hgdF := Lib.hid hgdF
      clear hlt HI HP hSt5 hRf6 hIS hN8 hlen hM5
      go_wp2_with (first
        | (go_at_call 13; refine HE.out.mono ?_; rintro e w4 ⟨A4, c4, rfl, hc4, hB4, hb4⟩)
        | (go_at_call 15; refine (HIm.out _ A4 c4 hB4 hc4 (HT.out.later (keepB hwf hb4))).mono ?_; rintro e w5 ⟨p5, N5, O5, rfl, hN5, hSt5, hb5⟩; have HP5 := Lib.hid ((PairAt.imp hSt5 hRf.out hb4 hb5 hwi).up hN5)))
      have hw5 := hw.trans ((keepB hb4 hb5).mono (Nat.le_trans (Nat.le_refl _) hwi))
      clear hSt5 hRf HE HIm
      go_loopw [10] (fun i wr => ∃ k : Nat, k ≤ m.length ∧ i = .int .i64 k ∧ Hid (PairAt wr w0.heap.size p5 w1.heap.size (720 + 12 * k) (scrF sF m k)) ∧ Below w0.heap.size w0 wr) (fun i _ => m.length - (intOf i).toNat)
      case atStart => exact ⟨0, Nat.zero_le _, rfl, HP5, hw5⟩
      case round =>
        obtain ⟨k, hk, rfl, HI, hw⟩ := hrel
        obtain ⟨wc, rfl⟩ : ∃ wc : World, wc = wr := ⟨_, rfl⟩
        have hwf : Below w.heap.size w wc := hb0.trans (hw.mono hwB)
        by_cases hlt : k < m.length
        · have HAct := Lib.hid (act_stepF HS2.out hwf hwB hw.size HOK2.out HFW2.out HT.out hlt hokF.out (by omega) (by omega) HI.out)
          obtain ⟨b2, off, rfl, d0, d1, d2, d3, d4, d5, _⟩ := (HS2.out.later hwf) k hlt
          obtain ⟨o, HX⟩ : ∃ o, Hid (m.getD k noOp = o) := ⟨_, rfl⟩
          rw [HX.out] at d0 d1 d2 d3 d4 d5 HAct
          unfold opV at HAct
          have hki : (k : Int) < (m.length : Int) := by omega
          clear HI HP5
          go_wp2_with (go_at_call 8; refine HAct.out.mono ?_; rintro e w3 ⟨rfl, hP3, hb3⟩; replace hP3 := Lib.hid hP3)
          go_roundw
          case rel => exact ⟨k + 1, by omega, by go_num, hP3, hw.trans hb3⟩
          case measure => simp [intOf]; omega
        · obtain rfl : k = m.length := by omega
          have h60m := (fewS_at HFW2.out).1
          have hlenF := scrF_len hokF.out HFW2.out m.length (Nat.le_refl _)
          have hokG := scrF_ok hokF.out m m.length
          have hgdG := scrF_good hgdF.out HOK2.out m.length (Nat.le_refl _)
          obtain ⟨sG, hsG⟩ : ∃ s, Hid (scrF sF m m.length = s) := ⟨_, rfl⟩
          rw [hsG.out] at HI hlenF hokG hgdG
          obtain ⟨O7, M7, hM7, hSt7⟩ := HI.out.store
          obtain ⟨O8, hRf8⟩ := HI.out.ref
          obtain ⟨g, hg⟩ : ∃ g, Hid (expS sG = g) := ⟨_, rfl⟩
          have hgl : g.length ≤ 700000 := by
            have := expTo_len hokG sG.ks.length
            rw [expTo_all, hg.out] at this
            omega
          have HE : Hid (Calls Tryz.prog 13 #[.pointer (some ⟨p5, 0, none⟩)] wc (OwnBys wc g)) := by
            rw [← hg.out]
            exact exp14_any hSt7 hokG (by omega) (HT.out.later hwf)
          have HR : Hid (∀ wz, Below wc.heap.size wc wz → Calls Tryz.prog 14 #[.pointer (some ⟨w1.heap.size, 0, none⟩)] wz (OwnBys wz g)) := fun wz hz => by
            rw [← hg.out]
            exact refExp_any (hRf8.later hz) hokG hgdG (by omega)
          clear hlt HI HP5 hSt7 hRf8 hg
          go_wp2_with (first
            | (go_at_call 13; refine HE.out.mono ?_; rintro e w7 hq; obtain ⟨A7, c7, rfl, hB7, hb7⟩ := hq.at_)
            | (go_at_call 14; refine (HR.out _ hb7).mono ?_; rintro e w8 hq; obtain ⟨A8, c8, rfl, hB8, hb8⟩ := hq.at_)
            | (go_at_call 12; refine (refSame02_any g g A7 A8 c7 c8 _ (BysAt.later hB7 hb8) hB8 (by omega)).mono ?_; rintro e w9 ⟨rfl, hb9⟩))
          go_ret
          exact ⟨by simp, keepB hwf (keepB hb7 (keepB hb8 hb9))⟩
end Go.Proofs.YtboiafchmdflpaaGreatDoor
